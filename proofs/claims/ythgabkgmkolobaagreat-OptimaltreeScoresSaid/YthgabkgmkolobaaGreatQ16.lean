/- phylotree.nodes again: the row of nodes lies apart from the forest. Maps whose keys are .. -/
import Derived.Test.YthgabkgmkolobaaGreatQ14
import Derived.Test.YthgabkgmkolobaaGreatQ15
set_option maxRecDepth 100000
namespace Go.Proofs.YthgabkgmkolobaaGreat
section
open Go.RowKit Go.Deep
def J2 (w:World) (t:aD) (e:Ending) (w':World):Prop :=
 Up w w'∧∃g A kv,w.heap.size≤g∧e=.returned (.slice (some ⟨g,0,none⟩) t.ps.length t.ps.length)∧bf (g+1) t.ps.length A kv (fL t) w'∧w'.rowIs g 119 t.ps.length (bg A)
set_option maxHeartbeats 2000000 in
theorem O0 (S:Nat→Prop) (w:World) (v:Value) (t:aD) (hT:au S w v t) (hp:t.ps.length≤1000) (hn:t.ns.length=t.ps.length) (hok:iQ t.ps=true) (hz:∀k,(gs t.ns k).size≤70000) :
  Calls Tryz.prog 93 #[v] w (J2 w t):=by
 obtain ⟨P,N,rfl,hP,hN⟩:=hT;obtain ⟨pP,gD,rfl,Xt,_⟩:=aC.open hP;have hP:aj S w (.slice pP t.ps.length gD) t.ps:=hP;obtain ⟨pN,gF,rfl,Xu,_⟩:=aC.open hN;have hN:ah S w (.slice pN t.ns.length gF) t.ns:=hN;have hmk:=fun W=>run_make_row' (P:=Tryz.prog) 120 119 (.pointer none) 8 Tryz.underlying120 Tryz.qN rfl .i64 .i64 t.ps.length (by omega) (by omega) W;have hu:=Up.alloc w (.cells #[.slice pP t.ps.length gD,.slice pN t.ns.length gF] 39);have hb0:=dc w (.slice pP t.ps.length gD) (.slice pN t.ns.length gF) 39
 have hb1:=dz w (.slice pP t.ps.length gD) (.slice pN t.ns.length gF) 39;have aG:=Up.alloc (w.alloc (.cells #[.slice pP t.ps.length gD,.slice pN t.ns.length gF] 39)) (.cells (madeCells #[.pointer none] t.ps.length) 119)
 have HW:Hid (yC ((w.alloc (.cells #[.slice pP t.ps.length gD,.slice pN t.ns.length gF] 39)).alloc (.cells (madeCells #[.pointer none] t.ps.length) 119)) ((w.alloc (.cells #[.slice pP t.ps.length gD,.slice pN t.ns.length gF] 39)).alloc (.cells (madeCells #[.pointer none] t.ps.length) 119)) (w.heap.size+1) t.ps.length 0 t):=by refine ⟨Below.refl _ _,fun _=>0,fun _=>.slice none 0 0,bf.empty _ _ _ _ _,?_⟩;have h:=World.rowIs_made (w.alloc (.cells #[.slice pP t.ps.length gD,.slice pN t.ns.length gF] 39)) (.pointer none) t.ps.length 119;simp only [World.size_alloc] at h;exact h
 have jB:=aa (hu.trans aG);have hsz:w.heap.size+1+1=((w.alloc (.cells #[.slice pP t.ps.length gD,.slice pN t.ns.length gF] 39)).alloc (.cells (madeCells #[.pointer none] t.ps.length) 119)).heap.size:=by simp
 have cz:=aa hsz;have cZ:=aa (aG.cell hb0);have cR:=aa (aG.cell hb1);have HP:=aa hP;have HN:=aa hN;have EE:=aa hz;have nv:=aa hok;have eO:=aa hn;have hnl:(t.ps.length:Int)≤(t.ns.length:Int):=by omega
 clear hsz hu hb0 hb1 aG hP hN hz hok hn
 go_enter Tryz.func93,Tryz.ntmps93
 go_wp2_with fail;generalize (w.alloc (.cells #[.slice pP t.ps.length gD,.slice pN t.ns.length gF] 39)).alloc (.cells (madeCells #[.pointer none] t.ps.length) 119)=w1 at *
 go_loopw [13] (fun i wr=>∃k:Nat,k≤t.ps.length∧i=.int .i64 k∧Hid (yC w1 wr (w.heap.size+1) t.ps.length k t)) (fun i _=>t.ps.length - (intOf i).toNat)
 case atStart=>exact ⟨0,Nat.zero_le _,rfl,HW⟩
 case round =>
  obtain ⟨k,hk,rfl,hO⟩:=hrel;obtain ⟨wo,rfl⟩:∃wo:World,wo=wr:=⟨_,rfl⟩;by_cases hlt:k<t.ps.length
  ·obtain ⟨b9,A,kv,hF,hrow⟩:=hO.out
   (have hc0:wo.cell? ⟨w.heap.size,0,none⟩=some (.slice pP t.ps.length gD):=by rw [b9.cell (p:=⟨w.heap.size,0,none⟩) (Nat.lt_succ_self _)];exact cZ.out);(have hc1:wo.cell? ⟨w.heap.size,1,none⟩=some (.slice pN t.ns.length gF):=by rw [b9.cell (p:=⟨w.heap.size,1,none⟩) (Nat.lt_succ_self _)];exact cR.out);have EF:Up w wo:=Below.trans jB.out (b9.mono (Nat.le_succ _));obtain ⟨bP,oP,rfl,mF⟩:=bQ (aj.keep HP.out (EF.kept S)) hlt;obtain ⟨bN,oN,rfl,pG⟩:=bI (ah.keep HN.out (EF.kept S)) (k:=k) (by rw [eO.out];exact hlt);have HX:=aa hO.out.new
   (have Uy:(wo.alloc (.cells #[.string (gs t.ns k),.slice none 0 0,.int .i64 k] 122)).cell? ⟨w.heap.size+1,k,none⟩=some (.pointer none):=by have h:=(hrow.alloc (.cells #[.string (gs t.ns k),.slice none 0 0,.int .i64 k] 122)).cell hlt;rw [h,if_neg (Nat.lt_irrefl k)]);have hfo:(wo.alloc (.cells #[.string (gs t.ns k),.slice none 0 0,.int .i64 k] 122)).frozen? ⟨w.heap.size+1,k,none⟩=false:=(hrow.alloc _).frozen k;clear hF hrow b9 EF hO;have h0:gi t.ps k<k∧(0<k→0≤gi t.ps k)∧(k=0→gi t.ps k = -1):=wm nv.out hlt;by_cases mC:0≤gi t.ps k
   ·obtain ⟨p,EG⟩:=Int.eq_ofNat_of_zero_le mC
    (have hpk:p<k:=by omega);rw [EG] at mF;(have d1:decide ((0:Int)≤(p:Int))=true:=by simp);have ve:=aa EG;clear h0 mC EG;go_wp2_with fail;generalize (wo.alloc (.cells #[.string (gs t.ns k),.slice none 0 0,.int .i64 k] 122)).setCell ⟨w.heap.size+1,k,none⟩ (.pointer (some ⟨wo.heap.size,0,none⟩))=w2 at *;obtain ⟨A,kv,hAk,hX⟩:=HX.out;have hr1:w2.cell? ⟨w.heap.size+1,p,none⟩=some (.pointer (some ⟨A p,0,none⟩)):=by have h:=hX.row.cell (i:=p) (by omega);rw [if_pos (by omega)] at h;exact h
    (have hr2:w2.cell? ⟨w.heap.size+1,k,none⟩=some (.pointer (some ⟨A k,0,none⟩)):=by have h:=hX.row.cell (i:=k) hlt;rw [if_pos (by omega)] at h;exact h);(have Uz:Hid (bg A k=.pointer (some ⟨wo.heap.size,0,none⟩)):=by unfold Hid bg;rw [hAk]);rw [hAk] at hr2;have hkc:=hX.fr.oZ (i:=p) (by omega);have hfz:=hX.fr.thaw (i:=p) (by omega) 1;(have EH:Hid (aF (w.heap.size+1+1) 119 w2 (kv p) ((cg t.ps p k).map (bg A))):=by have h:=hX.fr.own p (by omega);rw [nI] at h;exact h);have Ae:=aa hX
    have EI:Hid (A p≠w.heap.size+1∧(kv p).ownBlock≠some (w.heap.size+1)∧(kv p).ownBlock≠some (A p)∧w.heap.size+1<w2.heap.size∧A p<w2.heap.size):=⟨(hX.fr.far (by omega)).1,(hX.fr.far (by omega)).2,hX.fr.apart p p (by omega) (by omega),hX.row.lt,hX.fr.lt (by omega)⟩;(have i0:(0:Int)≤(p:Int):=by omega);(have i1:(p:Int)<(t.ps.length:Int):=by omega);(have i2:(0:Int)≤(k:Int):=by omega);(have i3:(k:Int)<(t.ps.length:Int):=by omega);have iw:Hid (((cg t.ps p k).map (bg A)).length≤1000000):=by unfold Hid;rw [List.length_map];have:=oz t.ps p k;omega
    have Ag:Hid (∀g cap w',aF (w.heap.size+1+1) 119 w' (.slice (some ⟨g,0,none⟩) (((cg t.ps p k).map (bg A)).length+1) cap) ((cg t.ps p k).map (bg A)++[.pointer (some ⟨wo.heap.size,0,none⟩)])→w2.grownBy w' (kv p).ownBlock→((kv p).ownBlock=some g∨w2.heap.size≤g)→yC w1 (w'.setCell ⟨A p,1,none⟩ (.slice (some ⟨g,0,none⟩) (((cg t.ps p k).map (bg A)).length+1) cap)) (w.heap.size+1) t.ps.length (k+1) t):=fun g cap w' h1 h2 h3=>hX.push hpk ve.out (by rw [Uz.out];exact h1) h2 (fun b hb=>by cases hb;exact h3);clear hAk hX HX Uy hfo mF pG hc0 hc1;generalize bg A=na at *
    generalize hap:A p=ap at *;generalize wo.heap.size=ak at *;generalize kv p=ov at *;generalize List.map na (cg t.ps p k)=vs at *;have OQ:Hid (aF (w.heap.size+1+1) 119 (w2.alloc (.cells #[.pointer (some ⟨ak,0,none⟩)] 119)).drew ov vs):=EH.out.alloc _;have l7:Hid ((w2.alloc (.cells #[.pointer (some ⟨ak,0,none⟩)] 119)).drew.cell? ⟨w2.heap.size,0,none⟩=some (.pointer (some ⟨ak,0,none⟩))):=aK _ _ _ 0
    have kU:Hid (w.heap.size+1+1≤(w2.alloc (.cells #[.pointer (some ⟨ak,0,none⟩)] 119)).drew.heap.size):=by have:=EI.out.2.2.2.1;show _≤(w2.alloc _).heap.size;rw [World.size_alloc];omega
    have EJ:Hid (∀(w':World),(w2.alloc (.cells #[.pointer (some ⟨ak,0,none⟩)] 119)).drew.grownBy w' ov.ownBlock→w'.cell? ⟨w.heap.size+1,p,none⟩=some (.pointer (some ⟨ap,0,none⟩))∧w'.cell? ⟨w.heap.size+1,k,none⟩=some (.pointer (some ⟨ak,0,none⟩))∧w'.cell? ⟨ap,1,none⟩=some ov∧w'.frozen? ⟨ap,1,none⟩=false):=fun w' hg=>by
     obtain ⟨q1,q2,q3,q4,q5⟩:=EI.out;(have hl:∀b,b<w2.heap.size→b<(w2.alloc (.cells #[.pointer (some ⟨ak,0,none⟩)] 119)).drew.heap.size:=fun b hb=>by show b<(w2.alloc _).heap.size;rw [World.size_alloc];omega);have hu:=Up.alloc w2 (.cells #[.pointer (some ⟨ak,0,none⟩)] 119);refine ⟨?_,?_,?_,?_⟩
     ·rw [hg.cell_far _ (hl _ q4) (Ne.symm q2)];exact hu.cell hr1
     ·rw [hg.cell_far _ (hl _ q4) (Ne.symm q2)];exact hu.cell hr2
     ·rw [hg.cell_far _ (hl _ q5) (Ne.symm q3)];exact hu.cell hkc
     ·rw [hg.frozen_far _ (hl _ q5) (Ne.symm q3)];exact (Below.frozen hu (p:=⟨ap,1,none⟩) q5).trans hfz
    have hr1a:=(Up.alloc w2 (.cells #[.pointer (some ⟨ak,0,none⟩)] 119)).cell hr1;have hr2a:=(Up.alloc w2 (.cells #[.pointer (some ⟨ak,0,none⟩)] 119)).cell hr2;have hkca:=(Up.alloc w2 (.cells #[.pointer (some ⟨ak,0,none⟩)] 119)).cell hkc;clear Ae;refine dG (by kernel_rfl) 20 (fun w'=>w'.cell? ⟨w.heap.size+1,p,none⟩=some (.pointer (some ⟨ap,0,none⟩))∧w'.cell? ⟨w.heap.size+1,k,none⟩=some (.pointer (some ⟨ak,0,none⟩))∧w'.cell? ⟨ap,1,none⟩=some ov) ⟨hr1,hr2,hkc⟩ (fun hS=>?_)
    simp only [List.size_toArray,List.length_cons,List.length_nil,Nat.reduceAdd,Array.replicate_succ,Array.replicate_zero,List.push_toArray,List.nil_append,List.cons_append];refine af.tk 0 hS ?_;(try simp only [Act.put,ay,az,aA]);refine af.tk 1 hS ?_;(try simp only [Act.put,ay,az,aA]);refine af.tk 2 hS ?_;(try simp only [Act.put,ay,az,aA]);refine af.tk 3 hS ?_
    (try simp only [Act.put,ay,az,aA]);refine af.tk 4 hS ?_;(try simp only [Act.put,ay,az,aA]);refine af.tk 5 hS ?_;(try simp only [Act.put,ay,az,aA]);refine af.tk 6 hS ?_;(try simp only [Act.put,ay,az,aA]);refine af.tk 7 hS ?_;(try simp only [Act.put,ay,az,aA]);refine af.tk 8 hS ?_
    (try simp only [Act.put,ay,az,aA]);refine af.tk 9 hS ?_;(try simp only [Act.put,ay,az,aA]);refine af.tk 10 hS ?_;(try simp only [Act.put,ay,az,aA]);refine af.tk 11 hS ?_;(try simp only [Act.put,ay,az,aA]);refine af.tk 12 hS ?_;(try simp only [Act.put,ay,az,aA]);refine af.tk 13 hS ?_
    (try simp only [Act.put,ay,az,aA]);refine af.tk 14 hS ?_;(try simp only [Act.put,ay,az,aA]);refine af.step (i:=15) rfl (by kernel_rfl) (fun K' hK=>?_);go_simp;refine hK.out _ _ (fun _=>⟨(Up.alloc _ _).cell hr1,(Up.alloc _ _).cell hr2,(Up.alloc _ _).cell hkc⟩) (fun hS=>?_);(try simp only [ay,az,aA]);refine af.step (i:=16) rfl (by kernel_rfl) (fun K' hK=>?_)
    refine eV (by rfl) _ _ _ (by rfl) (w.heap.size+1+1) 119 _ 8 Tryz.underlying120 Tryz.qN (by rfl) (by decide) (by rfl) OQ.out (.pointer (some ⟨ak,0,none⟩)) w2.heap.size (by rfl) l7.out (by rfl) iw.out kU.out ?_;intro g cap w4 rT hg4 wW EK;obtain ⟨OS,OT,OU,hfz4⟩:=EJ.out w4 hg4;have JY:=aa rT;have LQ:=aa (lR hg4);have OV:=aa wW;clear rT hg4 wW EK;refine hK.out _ _ (fun _=>⟨OS,OT,OU⟩) (fun hS=>?_);replace hS:=hS ⟨19,by decide,rfl⟩
    (try simp only [Act.put,ay,az,aA]);refine af.tk 17 hS ?_;(try simp only [Act.put,ay,az,aA]);refine af.tk 18 hS ?_;(try simp only [Act.put,ay,az,aA]);refine af.step (i:=19) rfl (by kernel_rfl) (fun K' hK=>?_);go_simp;refine hK.out _ _ (aM (by kernel_rfl)) (fun hS=>?_);refine af.done (by kernel_rfl) ?_;go_wp2_with fail
    go_roundw
    case rel =>
     refine ⟨k+1,by omega,by go_num,Ag.out g cap w4 JY.out LQ.out ?_⟩;rcases OV.out with h | h
     ·exact .inl h
     ·refine .inr ?_
      rw [h];exact Nat.le_trans (Nat.le_succ _) (Nat.le_of_eq (World.size_alloc _ _).symm)
    case measure=>simp [intOf];omega
   ·have ve:Hid (gi t.ps k<0):=by unfold Hid;omega
    (have d1:decide ((0:Int)≤gi t.ps k)=false:=by simpa using mC);clear h0 mC;go_wp2_with fail
    go_roundw
    case rel =>obtain ⟨A',kv',_,hX⟩:=HX.out;exact ⟨k+1,by omega,by go_num,hX.root ve.out⟩
    case measure=>simp [intOf];omega
  ·obtain rfl:k=t.ps.length:=by omega
   go_wp2_with fail;go_ret;obtain ⟨b9,A,kv,hF,hrow⟩:=hO.out;exact ⟨Below.trans jB.out (b9.mono (Nat.le_succ _)),_,A,kv,Nat.le_succ _,rfl,hF,hrow.congr fun i hi=>by rw [if_pos hi]⟩
end
section
open Go.RowKit Go.Deep
def qQ (l:List (ByteArray×Value)) (k:ByteArray) (v:Value):List (ByteArray×Value):=if (l.lookup k).isNone then l++[(k,v)] else l.map fun x=>if x.1=k then (k,v) else x
def SMap (w:World) (b:Nat) (l:List (ByteArray×Value)):Prop:=∃es clock,w.heap[b]? = some (.map es clock)∧es.toList.map (fun x=>(x.key,x.val))=l.map (fun x=>(Value.string x.1,x.2))
def uq (l:List (ByteArray×Value)):Prop:=(l.map (·.1)).Nodup
theorem LU (a b:ByteArray):(a==b)=decide (a=b):=by
 obtain ⟨a⟩:=a;obtain ⟨b⟩:=b;have:((⟨a⟩:ByteArray)==⟨b⟩)=(a==b):=rfl;rw [this];by_cases h:a=b
 ·subst h;simp
 ·have h2:¬(⟨a⟩:ByteArray)=⟨b⟩:=fun e=>h (ByteArray.mk.inj e)
  rw [decide_eq_false h2];simpa using h
theorem nK (a:ByteArray):(a==a)=true:=by rw [LU];simp
theorem p6 {a b:ByteArray} (h:¬a=b):(a==b)=false:=by rw [LU];simpa using h
section
variable {P:Program} {w:World}
theorem LV (k:ByteArray):∀(es:List MapEntry) (l:List (ByteArray×Value)) (i:Nat),
  es.map (fun x=>(x.key,x.val))=l.map (fun x=>(Value.string x.1,x.2)) →
   (l.lookup k=none∧Instr.findNow .string (.string k) es i=some none)∨∃j v,l.lookup k=some v∧(l[j]?).map (·.1)=some k∧Instr.findNow .string (.string k) es i=some (some (i+j,v)):=by
 intro es
 induction es with
 | nil =>
  intro l i hl;cases l with
  | nil=>exact .inl ⟨rfl,rfl⟩
  | cons=>cases hl
 | cons x es ih =>
  intro l i hl;cases l with
  | nil=>cases hl
  | cons y l =>
   simp only [List.map_cons,List.cons.injEq,Prod.mk.injEq] at hl;obtain ⟨⟨h1,h2⟩,h3⟩:=hl;obtain ⟨y1,y2⟩:=y;have h1:x.key=.string y1:=h1;have h2:x.val=y2:=h2;by_cases h:k=y1
   ·subst h
    refine .inr ⟨0,y2,by rw [List.lookup_cons,nK],rfl,?_⟩;simp [Instr.findNow,Instr.sameNow,h1,h2,nK]
   ·have hb:(k==y1)=false:=p6 h
    rcases ih l (i+1) h3 with ⟨h4,h5⟩ | ⟨j,v,h4,h5,h6⟩
    ·refine .inl ⟨by rw [List.lookup_cons,hb];exact h4,?_⟩
     simp [Instr.findNow,Instr.sameNow,h1,hb,h5]
    ·refine .inr ⟨j+1,v,by rw [List.lookup_cons,hb];exact h4,by simpa using h5,?_⟩
     simp [Instr.findNow,Instr.sameNow,h1,hb,h6];omega
theorem Cw {t:TypeId} (ht:P.underlying t=some .string) (k:ByteArray) (es:List MapEntry) (l:List (ByteArray×Value)) (hl:es.map (fun x=>(x.key,x.val))=l.map (fun x=>(Value.string x.1,x.2))) :
  (l.lookup k=none∧(Instr.findKey t (.string k) es).run P w=.ok none w)∨∃j v,l.lookup k=some v∧(l[j]?).map (·.1)=some k∧(Instr.findKey t (.string k) es).run P w=.ok (some (j,v)) w:=by
 have hu:=run_underlying (w:=w) ht;rcases LV k es l 0 hl with ⟨h1,h2⟩ | ⟨j,v,h1,h2,h3⟩
 ·exact .inl ⟨h1,by simp [Instr.findKey,hu,h2]⟩
 ·exact .inr ⟨j,v,h1,h2,by simp [Instr.findKey,hu,h3]⟩
theorem p7 {t:TypeId} (ht:P.underlying t=some .string) (em:Bool) (k:ByteArray):(Instr.checkKey em 10000 t (.string k)).run P w=.ok () w:=by
 have hu:=run_underlying (w:=w) ht;show (Instr.checkKey em (9999+1) t (.string k)).run P w=_;unfold Instr.checkKey;simp [hu]
theorem ET {l:List (ByteArray×Value)} {k:ByteArray}:l.lookup k=none↔k∉l.map (·.1):=by
 induction l with
 | nil=>simp
 | cons y l ih =>
  obtain ⟨y1,y2⟩:=y
  rw [List.lookup_cons]
  by_cases h:k=y1
  ·subst h;simp [nK]
  ·have hb:(k==y1)=false:=p6 h
   rw [hb];simp only [List.map_cons,List.mem_cons,not_or]
   exact ⟨fun h2=>⟨h,ih.1 h2⟩,fun h2=>ih.2 h2.2⟩
theorem LW (l:List (ByteArray×Value)) (k:ByteArray) (v:Value):(qQ l k v).map (·.1)=if (l.lookup k).isNone then l.map (·.1)++[k] else l.map (·.1):=by
 unfold qQ;split
 ·simp
 ·rw [List.map_map]
  refine List.map_congr_left fun x _=>?_;show (if x.1=k then (k,v) else x).1=x.1;split
  ·rename_i h;exact h.symm
  ·rfl
theorem LX {l:List (ByteArray×Value)} (h:uq l) (k:ByteArray) (v:Value):uq (qQ l k v):=by
 unfold uq;rw [LW];split
 ·rename_i h2
  have h3:k∉l.map (·.1):=ET.1 (by simpa using h2);rw [List.nodup_append];refine ⟨h,by simp,fun a ha b hb=>?_⟩;have:b=k:=by simpa using hb
  subst this;exact fun e=>h3 (by rw [← e];exact ha)
 ·exact h
theorem LY {l:List (ByteArray×Value)} (h:uq l) {k:ByteArray} (v:Value) {j:Nat} (hj:(l[j]?).map (·.1)=some k):(l.map fun x=>if x.1=k then (k,v) else x)=l.set j (k,v):=by
 apply List.ext_getElem?;intro m;have hjl:j<l.length:=by
  cases hlj:l[j]? with
  | none=>rw [hlj] at hj;cases hj
  | some y=>exact (List.getElem?_eq_some_iff.1 hlj).1
 rw [List.getElem?_map,List.getElem?_set];by_cases e:j=m
 ·subst e
  rw [if_pos rfl,if_pos hjl];rw [List.getElem?_eq_getElem hjl] at hj ⊢;have h3:(l[j]).1=k:=by simpa using hj
  simp [h3]
 ·rw [if_neg e]
  cases hm:l[m]? with
  | none=>rfl
  | some y =>
   have hml:=(List.getElem?_eq_some_iff.1 hm).1;(have hne:y.1≠k:=fun h4=>by (have h5:(l.map (·.1))[m]? = (l.map (·.1))[j]?:=by rw [List.getElem?_map,List.getElem?_map,hm,hj];simp [h4]);(have h6:m<(l.map (·.1)).length:=by simpa using hml);(have h7:j<(l.map (·.1)).length:=by simpa using hjl);rw [List.getElem?_eq_getElem h6,List.getElem?_eq_getElem h7] at h5;injection h5 with h5;exact e ((List.getElem_inj h).1 h5).symm);simp [hne]
theorem SMap.made (w:World):SMap (w.alloc (.map #[] 0)) w.heap.size []:=⟨#[],0,(MapKept.heap_alloc w _).1,rfl⟩
theorem SMap.same {w':World} {b:Nat} {l:List (ByteArray×Value)} (h:SMap w b l) (hb:w'.heap[b]? = w.heap[b]?):SMap w' b l:=by
 obtain ⟨es,clock,h1,h2⟩:=h;exact ⟨es,clock,hb.trans h1,h2⟩
theorem SMap.lt {b:Nat} {l:List (ByteArray×Value)} (h:SMap w b l):b<w.heap.size:=by
 obtain ⟨es,clock,h1,_⟩:=h;exact (Array.getElem?_eq_some_iff.1 h1).1
theorem O1 {mt t el:TypeId} (hm:P.underlying mt=some (.map t el)) (ht:P.underlying t=some .string) {b:Nat} {l:List (ByteArray×Value)} (h:SMap w b l) (hq:uq l) (k:ByteArray) (v:Value) :
  ∃w',(Instr.mapUpdate mt (.map (some b)) (.string k) v).run P w=.ok () w'∧SMap w' b (qQ l k v)∧w'.heap.size=w.heap.size∧w'.os=w.os∧w'.tape=w.tape∧w'.output=w.output∧∀j,j≠b→w'.heap[j]? = w.heap[j]?:=by
 obtain ⟨es,clock,hb,hl⟩:=h;have hu:=run_underlying (w:=w) hm;have hg:=MapKept.run_getObj_map (P:=P) hb;have hbl:=(Array.getElem?_eq_some_iff.1 hb).1;rcases Cw (w:=w) ht k es.toList l hl with ⟨h1,h2⟩ | ⟨j,v',h1,h5,h2⟩
 ·have hs:=MapKept.run_setObj_map (P:=P) (.map (es.push { key:=.string k,val:=v,born:=clock }) (clock+1)) hb
  refine ⟨{ w with heap:=w.heap.setIfInBounds b (.map (es.push { key:=.string k,val:=v,born:=clock }) (clock+1)) },by simp [Instr.mapUpdate,hu,hg,p7 ht,h2,hs],⟨es.push { key:=.string k,val:=v,born:=clock },clock+1,by simp [hbl],?_⟩,by simp,rfl,rfl,rfl,fun j hj=>by simp [Ne.symm hj]⟩;unfold qQ;rw [h1];simp [hl]
 ·have hkey:((es[j]?).map (·.key))=some (.string k):=by
   have h8:=congrArg (fun q=>(q[j]?).map (·.1)) hl
   simp only [List.getElem?_map,Option.map_map] at h8
   have h9:(l[j]?).map (fun x=>Value.string x.1)=some (.string k):=by
    cases hlj:l[j]? with
    | none=>rw [hlj] at h5;cases h5
    | some y=>rw [hlj] at h5;simp at h5;simp [h5]
   have h10:(es.toList[j]?).map (·.key)=(l[j]?).map (fun x=>Value.string x.1):=h8
   rw [← Array.getElem?_toList,h10,h9]
  have hst:(Instr.keyThatStays (((es[j]?).map (·.key)).getD (.string k)) (.string k)).run P w=.ok (.string k) w:=by
   rw [hkey]
   have h0:Instr.sameBits 10000 (.string k) (.string k)=true:=by simp [Instr.sameBits,nK]
   show (Instr.keyThatStays (.string k) (.string k)).run P w=_
   unfold Instr.keyThatStays
   rw [if_pos h0];rfl
  have hs:=MapKept.run_setObj_map (P:=P) (.map (es.modify j fun e=>{ e with key:=.string k,val:=v }) clock) hb
  refine ⟨{ w with heap:=w.heap.setIfInBounds b (.map (es.modify j fun e=>{ e with key:=.string k,val:=v }) clock) },by simp [Instr.mapUpdate,hu,hg,p7 ht,h2,hst,hs],⟨es.modify j fun e=>{ e with key:=.string k,val:=v },clock,by simp [hbl],?_⟩,by simp,rfl,rfl,rfl,fun m hm=>by simp [Ne.symm hm]⟩
  have hpl:qQ l k v=l.set j (k,v):=by
   unfold qQ;rw [h1]
   exact LY hq v h5
  rw [hpl]
  apply List.ext_getElem?
  intro m
  have h8:=congrArg (fun q=>q[m]?) hl
  simp only [List.getElem?_map] at h8
  rw [List.getElem?_map,List.getElem?_map,Array.getElem?_toList,Array.getElem?_modify,List.getElem?_set]
  have hjl:j<l.length:=by
   cases hlj:l[j]? with
   | none=>rw [hlj] at h5;cases h5
   | some y=>exact (List.getElem?_eq_some_iff.1 hlj).1
  have UH:j<es.size:=by have:=congrArg List.length hl;simp at this;omega
  by_cases e:j=m
  ·subst e
   rw [if_pos rfl,if_pos rfl,if_pos hjl,Array.getElem?_eq_getElem UH]
   rfl
  ·rw [if_neg e,if_neg e,← Array.getElem?_toList];exact h8
theorem LZ {mt t el:TypeId} (hm:P.underlying mt=some (.map t el)) (ht:P.underlying t=some .string) {z:Value} (hz:(zeroValue el).run P w=.ok z w) {b:Nat} {l:List (ByteArray×Value)} (h:SMap w b l) (k:ByteArray) :
  (Instr.lookup mt (.map (some b)) (.string k) false).run P w=.ok ((l.lookup k).getD z) w:=by
 obtain ⟨es,clock,hb,hl⟩:=h;have hu:=run_underlying (w:=w) hm;have hg:=MapKept.run_getObj_map (P:=P) hb;rcases Cw (w:=w) ht k es.toList l hl with ⟨h1,h2⟩ | ⟨j,v',h1,_,h2⟩
 ·simp [Instr.lookup,hu,hg,p7 ht,h2,hz,h1]
 ·simp [Instr.lookup,hu,hg,p7 ht,h2,h1]
end
end
section
open Go.RowKit Go.Deep
theorem Tryz.iE:(Tryz.prog.info? 9).map (fun i=>(i.zero,i.size,i.bytes))=some (some (.string ⟨#[]⟩),1,16):=by kernel_rfl
structure GK (tb:Nat) (w W:World) (P N P' N':Value):Prop where
 os:W.os=w.os
 tape:W.tape=w.tape
 output:W.output=w.output
 size:w.heap.size≤W.heap.size
 block:∀b,b<w.heap.size→b≠tb→some b≠P.ownBlock→some b≠N.ownBlock→W.heap[b]? = w.heap[b]?
 nM:∀b,P'.ownBlock=some b→P.ownBlock=some b∨w.heap.size≤b
 nN:∀b,N'.ownBlock=some b→N.ownBlock=some b∨w.heap.size≤b
theorem GK.refl (tb:Nat) (w:World) (P N:Value):GK tb w w P N P N:=⟨rfl,rfl,rfl,Nat.le_refl _,fun _ _ _ _ _=>rfl,fun _ h=>.inl h,fun _ h=>.inl h⟩
theorem GK.trans {tb:Nat} {w W X:World} {P N P' N' P2 N2:Value} (h:GK tb w W P N P' N') (k:GK tb W X P' N' P2 N2):GK tb w X P N P2 N2 :=
 ⟨k.os.trans h.os,k.tape.trans h.tape,k.output.trans h.output,Nat.le_trans h.size k.size,fun b hb h1 h2 h3=>by
  rw [← h.block b hb h1 h2 h3]
  refine k.block b (Nat.lt_of_lt_of_le hb h.size) h1 (fun e=>?_) (fun e=>?_)
  ·rcases h.nM b e.symm with h4 | h4
   ·exact h2 h4.symm
   ·omega
  ·rcases h.nN b e.symm with h4 | h4
   ·exact h3 h4.symm
   ·omega,
  fun b hb=>by
   rcases k.nM b hb with h4 | h4
   ·exact h.nM b h4
   ·exact .inr (Nat.le_trans h.size h4),
  fun b hb=>by
   rcases k.nN b hb with h4 | h4
   ·exact h.nN b h4
   ·exact .inr (Nat.le_trans h.size h4)⟩
theorem GK.up {tb:Nat} {w W X:World} {P N P' N':Value} (h:GK tb w W P N P' N') (k:Up W X):GK tb w X P N P' N' :=
 ⟨k.os.trans h.os,k.tape.trans h.tape,k.output.trans h.output,Nat.le_trans h.size k.size,fun b hb h1 h2 h3=>(Below.block k b (Nat.lt_of_lt_of_le hb h.size)).trans (h.block b hb h1 h2 h3),h.nM,h.nN⟩
structure TL (B0:Nat) (W:World) (P N:Value) (ps:List Int) (ns:List ByteArray):Prop where
 cI:aF B0 3 W P (ps.map (Value.int .i64))
 dx:aF B0 9 W N (ns.map Value.string)
 apart:∀b,P.ownBlock=some b→N.ownBlock≠some b
theorem aF.fM {base:Nat} {e:TypeId} {w w':World} {v:Value} {vs:List Value} (h:aF base e w v vs) (k:∀b,v.ownBlock=some b→w'.heap[b]? = w.heap[b]?):aF base e w' v vs:=by
 refine ⟨h.1,?_⟩;rcases h.2 with h0 | ⟨g,cap,cur,rfl,hg,hc,hr⟩
 ·exact .inl h0
 ·exact .inr ⟨g,cap,cur,rfl,hg,(k g rfl).trans hc,hr⟩
section
variable {tb B0:Nat} {w W W':World} {P N Pv Nv:Value} {ps:List Int} {ns:List ByteArray}
theorem TL.up (h:TL B0 W Pv Nv ps ns) (hu:Up W W'):TL B0 W' Pv Nv ps ns :=
 ⟨h.cI.fM fun b hb=>Below.block hu b (aI h.cI hb).2,h.dx.fM fun b hb=>Below.block hu b (aI h.dx hb).2,h.apart⟩
end
def aD.push (t:aD) (p:Int) (s:ByteArray):aD:=⟨t.ps++[p],t.ns++[s]⟩
end
end Go.Proofs.YthgabkgmkolobaaGreat
