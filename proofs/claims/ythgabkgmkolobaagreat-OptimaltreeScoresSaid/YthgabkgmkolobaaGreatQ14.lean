/- The contract of phylotree.nodes. The plain law of the order of children: names compared, .. -/
import Derived.Deep.RegionHeld3
import Derived.Lib.Bytealg
import Derived.Sort.Statements
import Derived.Test.YthgabkgmkolobaaGreatQ13
set_option maxRecDepth 100000
namespace Go.Proofs.YthgabkgmkolobaaGreat
section
open Go.RowKit Go.Deep
theorem Tryz.qN:(Tryz.prog.info? 119).map (fun i=>(i.zero,i.size,i.bytes))=some (some (.pointer none),1,8):=by kernel_rfl
theorem bf.congr {base n:Nat} {A:Nat→Nat} {kv:Nat→Value} {F F':aU} {w:World} (h:bf base n A kv F w) (e:∀i,i<n→F'.nm i=F.nm i∧F'.old i=F.old i∧F'.kids i=F.kids i):bf base n A kv F' w :=
 ⟨fun i hi=>by rw [(e i hi).1,(e i hi).2.1];exact h.node i hi,h.lo,h.inj,fun i hi=>by rw [(e i hi).2.2];exact h.own i hi,h.apart,h.alone,fun i hi=>by rw [(e i hi).2.2];exact h.kid i hi⟩
theorem DJ {w:World} {p:Addr} {v:Value} (h:∃u,w.cell? p=some u):(w.setCell p v).cell? p=some v:=by
 obtain ⟨u,h⟩:=h;exact World.cell?_setCell_same' _ _ _ (by rw [h];rfl)
theorem s9 {w:World} {p:Addr} {v:Value} {b o:Nat} (h:p.block≠b):(w.setCell p v).cell? ⟨b,o,none⟩=w.cell? ⟨b,o,none⟩ :=
 World.cell?_of_block (a:=⟨b,o,none⟩) (blk_setCell_other _ _ _ _ (fun e=>h e.symm))
theorem lR {w w':World} {o:Obj} {row:Option Nat} (h:(w.alloc o).drew.grownBy w' row):w.grownBy w' row :=
 gm (o:=o) ⟨h.os,h.tape,h.output,h.size,h.block⟩
section
variable {P:Program} {ops:Array Oper} {o:Oper} {a:Act} {w:World} {K:Act→World→Prop} {Q:Exit→Act→World→Prop} {E:Prop}
theorem eV (hgd:o.guard=none) (s x:Operand) (t:TypeId) (ho:o.op=.call { callee:=.builtin .append,args:=#[s,x],argTypes:=#[t,t] })
  (base:Nat) (e:TypeId) (z:Value) (bytes:Nat) (ht:P.underlying t=some (.slice e)) (hinfo:(P.info? e).map (fun i=>(i.zero,i.size,i.bytes))=some (some z,1,bytes))
  (hz1:z.cells.size=1) (k8:bytes≤64) {v:Value} {vs:List Value} (hs:a.eval s=v) (hown:aF base e w v vs) (u:Value) (B:Nat)
  (hx:a.eval x=.slice (some ⟨B,0,none⟩) 1 1) (hB:w.cell? ⟨B,0,none⟩=some u) (h1:u.oneCell'=true) (hn:vs.length≤1000000) (hbase:base≤w.heap.size)
  (h:∀g cap w',aF base e w' (.slice (some ⟨g,0,none⟩) (vs.length+1) cap) (vs++[u])→w.grownBy w' v.ownBlock→(v.ownBlock=some g∨g=w.heap.size)→Below base w w'→K (a.put o.dst (.slice (some ⟨g,0,none⟩) (vs.length+1) cap)) w') :
  if Region.wanted o (yielded ops a.tmps)=true then Oper.wp P o a w K Q else E:=by
 obtain ⟨i,hi,hzz⟩:=Option.map_eq_some_iff.1 hinfo;simp only [Prod.mk.injEq] at hzz;obtain ⟨hz,hs1,hb⟩:=hzz;refine step_append_lies w hgd s x t ho base e i z 1 bytes ht hi hz hs1 hb hz1 (by omega) v vs.length vs hs hown ⟨B,0,none⟩ 1 1 [u] hx rfl ?_ (by simpa using h1) (by omega)
  (by unfold maxLen;omega) ?_ hbase _ rfl fun g cap w' h2 h3 h4 _=>h g cap w' ?_ h3 h4 (hown.dh h3 hbase)
 ·intro j u' hj
  cases j with
  | zero=>(simp at hj;subst hj;simpa [Addr.add] using hB)
  | succ j=>simp at hj
 ·have:(vs.length+1)*bytes≤(vs.length+1)*64:=Nat.mul_le_mul_left _ k8
  omega
 ·unfold aF;rw [List.length_append];exact h2
end
def Yr (t:aD) (k:Nat):aU:=⟨gs t.ns,fun i=>i,fun i=>cg t.ps i k⟩
def fL (t:aD):aU:=Yr t t.ps.length
def yC (w wr:World) (g0 n k:Nat) (t:aD):Prop :=
 Below g0 w wr∧∃A kv,bf (g0+1) k A kv (Yr t k) wr∧wr.rowIs g0 119 n (fun i=>if i<k then bg A i else .pointer none)
def LN (t:aD) (k:Nat):aU:=⟨gs t.ns,fun i=>i,upd (fun i=>cg t.ps i k) k []⟩
structure LO (w wr:World) (g0 n k:Nat) (t:aD) (A:Nat→Nat) (kv:Nat→Value):Prop where
 up:Below g0 w wr
 fr:bf (g0+1) (k+1) A kv (LN t k) wr
 row:wr.rowIs g0 119 n (fun i=>if i<k+1 then bg A i else .pointer none)
theorem bf.far {g0 n:Nat} {A:Nat→Nat} {kv:Nat→Value} {F:aU} {w:World} (h:bf (g0+1) n A kv F w) {i:Nat} (hi:i<n):A i≠g0∧(kv i).ownBlock≠some g0 :=
 ⟨fun e=>by have:=h.lo i hi;omega,fun e=>by have:=(h.fU hi e).1;omega⟩
theorem yC.new {w wo:World} {g0 n k:Nat} {t:aD} (h:yC w wo g0 n k t) :
  ∃A kv,A k=wo.heap.size∧LO w ((wo.alloc (.cells #[.string (gs t.ns k),.slice none 0 0,.int .i64 k] 122)).setCell ⟨g0,k,none⟩ (.pointer (some ⟨wo.heap.size,0,none⟩))) g0 n k t A kv:=by
 obtain ⟨b9,A,kv,hF,hrow⟩:=h;have hg0:=hrow.lt;have hF2:=hF.ze (by omega) (gs t.ns k) k;refine ⟨upd A k wo.heap.size,upd kv k (.slice none 0 0),upd_same _ _ _,(b9.alloc (by omega) _).setCell (p:=⟨g0,k,none⟩) (Nat.le_refl _) _,?_,?_⟩
 ·have IG:=hF2.congr (F':=LN t k) fun i hi=>by
   refine ⟨?_,?_,rfl⟩
   ·by_cases e:i=k
    ·subst e;exact (upd_same _ _ _).symm
    ·exact (upd_ne _ _ e).symm
   ·by_cases e:i=k
    ·subst e;exact (upd_same _ _ _).symm
    ·exact (upd_ne _ _ e).symm
  exact IG.same (fun i hi=>blk_setCell_other _ _ _ _ (IG.far hi).1) fun i b hi hb=>blk_setCell_other _ _ _ _ (fun e2=>(IG.far hi).2 (by rw [hb];exact congrArg some e2))
 ·refine ((hrow.alloc _).set k _).congr fun i hi=>?_
  by_cases e:i=k
  ·subst e;rw [if_pos rfl,if_pos (by omega)];unfold bg;rw [upd_same]
  ·rw [if_neg e]
   by_cases e2:i<k
   ·rw [if_pos e2,if_pos (by omega)];unfold bg;rw [upd_ne _ _ e]
   ·rw [if_neg e2,if_neg (by omega)]
theorem JX (ps:List Int) (k:Nat):cg ps k k=[]:=by
 unfold cg;refine List.filter_eq_nil_iff.2 fun i hi=>?_;have:=List.mem_range.1 hi;simp;omega
theorem nI (t:aD) (k i:Nat):(LN t k).kids i=cg t.ps i k:=by
 show upd (fun i=>cg t.ps i k) k [] i=_;by_cases e:i=k
 ·subst e;rw [upd_same,JX]
 ·rw [upd_ne _ _ e]
theorem LO.root {w wr:World} {g0 n k:Nat} {t:aD} {A:Nat→Nat} {kv:Nat→Value} (h:LO w wr g0 n k t A kv) (hp:gi t.ps k<0):yC w wr g0 n (k+1) t:=by
 refine ⟨h.up,A,kv,h.fr.congr fun i hi=>⟨rfl,rfl,?_⟩,h.row⟩;rw [nI];show cg t.ps i (k+1)=_;rw [jq,if_neg (by omega),List.append_nil]
theorem LO.push {w wr w':World} {g0 n k p:Nat} {t:aD} {A:Nat→Nat} {kv:Nat→Value} (h:LO w wr g0 n k t A kv) (hpk:p<k) (hp:gi t.ps k=p) {v:Value}
  (hv:aF (g0+1) 119 w' v ((cg t.ps p k).map (bg A)++[bg A k])) (hg:wr.grownBy w' (kv p).ownBlock) (hb:∀b,v.ownBlock=some b→(kv p).ownBlock=some b∨wr.heap.size≤b) :
  yC w (w'.setCell ⟨A p,1,none⟩ v) g0 n (k+1) t:=by
 have hF:=h.fr.push (k:=p) (c:=k) (v:=v) (by omega) (by omega) (by rw [nI,List.map_append];exact hv) hg hb;have hlo:=h.fr.lo p (by omega);have hrl:=h.row.lt;refine ⟨?_,A,upd kv p v,hF.congr fun i hi=>⟨rfl,rfl,?_⟩,?_⟩
 ·have h1:Below (g0+1) wr w':=(h.fr.own p (by omega)).dh hg (by omega)
  exact (Below.trans h.up (h1.mono (by omega))).setCell (p:=⟨A p,1,none⟩) (by show g0≤A p;omega) _
 ·show cg t.ps i (k+1)=upd (LN t k).kids p ((LN t k).kids p++[k]) i
  rw [jq,nI];by_cases e:i=p
  ·subst e;rw [upd_same,if_pos ⟨hpk,hp⟩]
  ·rw [upd_ne _ _ e,if_neg (by omega),List.append_nil,nI]
 ·have hne:g0≠A p:=fun e=>(h.fr.far (i:=p) (by omega)).1 e.symm
  refine (h.row.of_block ?_).setOther (a:=⟨A p,1,none⟩) hne v;exact hg.block g0 hrl (fun e=>(h.fr.far (i:=p) (by omega)).2 e.symm)
theorem bf.Sz {base base' n:Nat} {A:Nat→Nat} {kv:Nat→Value} {F:aU} {w:World} (h:bf base n A kv F w) (hb:base'≤base):bf base' n A kv F w :=
 ⟨h.node,fun i hi=>Nat.le_trans hb (h.lo i hi),h.inj,fun i hi=>(h.own i hi).wV hb,h.apart,h.alone,h.kid⟩
def LP (w:World) (t:aD) (e:Ending) (w':World):Prop :=
 Up w w'∧∃g A kv,e=.returned (.slice (some ⟨g,0,none⟩) t.ps.length t.ps.length)∧bf w.heap.size t.ps.length A kv (fL t) w'∧w'.rowIs g 119 t.ps.length (bg A)
set_option maxHeartbeats 2000000 in
theorem SA (S:Nat→Prop) (w:World) (v:Value) (t:aD) (hT:au S w v t) (hp:t.ps.length≤1000) (hn:t.ns.length=t.ps.length) (hok:iQ t.ps=true) (hz:∀k,(gs t.ns k).size≤70000) :
  Calls Tryz.prog 93 #[v] w (LP w t):=by
 obtain ⟨P,N,rfl,hP,hN⟩:=hT;obtain ⟨pP,gD,rfl,Xt,_⟩:=aC.open hP;have hP:aj S w (.slice pP t.ps.length gD) t.ps:=hP;obtain ⟨pN,gF,rfl,Xu,_⟩:=aC.open hN;have hN:ah S w (.slice pN t.ns.length gF) t.ns:=hN;have hmk:=fun W=>run_make_row' (P:=Tryz.prog) 120 119 (.pointer none) 8 Tryz.underlying120 Tryz.qN rfl .i64 .i64 t.ps.length (by omega) (by omega) W;have hu:=Up.alloc w (.cells #[.slice pP t.ps.length gD,.slice pN t.ns.length gF] 39);have hb0:=dc w (.slice pP t.ps.length gD) (.slice pN t.ns.length gF) 39
 have hb1:=dz w (.slice pP t.ps.length gD) (.slice pN t.ns.length gF) 39;have aG:=Up.alloc (w.alloc (.cells #[.slice pP t.ps.length gD,.slice pN t.ns.length gF] 39)) (.cells (madeCells #[.pointer none] t.ps.length) 119)
 have HW:Hid (yC ((w.alloc (.cells #[.slice pP t.ps.length gD,.slice pN t.ns.length gF] 39)).alloc (.cells (madeCells #[.pointer none] t.ps.length) 119)) ((w.alloc (.cells #[.slice pP t.ps.length gD,.slice pN t.ns.length gF] 39)).alloc (.cells (madeCells #[.pointer none] t.ps.length) 119)) (w.heap.size+1) t.ps.length 0 t):=by refine ⟨Below.refl _ _,fun _=>0,fun _=>.slice none 0 0,bf.empty _ _ _ _ _,?_⟩;have h:=World.rowIs_made (w.alloc (.cells #[.slice pP t.ps.length gD,.slice pN t.ns.length gF] 39)) (.pointer none) t.ps.length 119;simp only [World.size_alloc] at h;exact h
 have jB:=aa (hu.trans aG);have hsz:w.heap.size+1+1=((w.alloc (.cells #[.slice pP t.ps.length gD,.slice pN t.ns.length gF] 39)).alloc (.cells (madeCells #[.pointer none] t.ps.length) 119)).heap.size:=by simp
 have cz:=aa hsz;have cZ:=aa (aG.cell hb0);have cR:=aa (aG.cell hb1);have HP:=aa hP;have HN:=aa hN;have EE:=aa hz;have nv:=aa hok;have eO:=aa hn;have hnl:(t.ps.length:Int)≤(t.ns.length:Int):=by omega
 clear hsz hu hb0 hb1 aG hP hN hz hok hn
 go_enter Tryz.func93,Tryz.ntmps93
 go_wp2_with fail;generalize (w.alloc (.cells #[.slice pP t.ps.length gD,.slice pN t.ns.length gF] 39)).alloc (.cells (madeCells #[.pointer none] t.ps.length) 119)=w1 at *
 go_loopw [13] (fun i wr=>∃k:Nat,k≤t.ps.length∧i=.int .i64 k∧Hid (yC w1 wr (w.heap.size+1) t.ps.length k t)) (fun i _=>t.ps.length - (intOf i).toNat)
 case atStart=>exact ⟨0,Nat.zero_le _,rfl,HW⟩
 case round =>
  obtain ⟨k,hk,rfl,hO⟩:=hrel;obtain ⟨wo,rfl⟩:∃wo:World,wo=wr:=⟨_,rfl⟩;by_cases hlt:k<t.ps.length
  ·obtain ⟨b9,A,kv,hF,hrow⟩:=hO.out
   (have hc0:wo.cell? ⟨w.heap.size,0,none⟩=some (.slice pP t.ps.length gD):=by rw [b9.cell (p:=⟨w.heap.size,0,none⟩) (Nat.lt_succ_self _)];exact cZ.out);(have hc1:wo.cell? ⟨w.heap.size,1,none⟩=some (.slice pN t.ns.length gF):=by rw [b9.cell (p:=⟨w.heap.size,1,none⟩) (Nat.lt_succ_self _)];exact cR.out);have EF:Up w wo:=Below.trans jB.out (b9.mono (Nat.le_succ _));obtain ⟨bP,oP,rfl,mF⟩:=bQ (aj.keep HP.out (EF.kept S)) hlt;obtain ⟨bN,oN,rfl,pG⟩:=bI (ah.keep HN.out (EF.kept S)) (k:=k) (by rw [eO.out];exact hlt);have HX:=aa hO.out.new
   (have Uy:(wo.alloc (.cells #[.string (gs t.ns k),.slice none 0 0,.int .i64 k] 122)).cell? ⟨w.heap.size+1,k,none⟩=some (.pointer none):=by have h:=(hrow.alloc (.cells #[.string (gs t.ns k),.slice none 0 0,.int .i64 k] 122)).cell hlt;rw [h,if_neg (Nat.lt_irrefl k)]);have hfo:(wo.alloc (.cells #[.string (gs t.ns k),.slice none 0 0,.int .i64 k] 122)).frozen? ⟨w.heap.size+1,k,none⟩=false:=(hrow.alloc _).frozen k;clear hF hrow b9 EF hO;have h0:gi t.ps k<k∧(0<k→0≤gi t.ps k)∧(k=0→gi t.ps k = -1):=wm nv.out hlt;by_cases mC:0≤gi t.ps k
   ·obtain ⟨p,EG⟩:=Int.eq_ofNat_of_zero_le mC
    (have hpk:p<k:=by omega);rw [EG] at mF;(have d1:decide ((0:Int)≤(p:Int))=true:=by simp);have ve:=aa EG;clear h0 mC EG;go_wp2_with fail;generalize (wo.alloc (.cells #[.string (gs t.ns k),.slice none 0 0,.int .i64 k] 122)).setCell ⟨w.heap.size+1,k,none⟩ (.pointer (some ⟨wo.heap.size,0,none⟩))=w2 at *;obtain ⟨A,kv,hAk,hX⟩:=HX.out;have hr1:w2.cell? ⟨w.heap.size+1,p,none⟩=some (.pointer (some ⟨A p,0,none⟩)):=by have h:=hX.row.cell (i:=p) (by omega);rw [if_pos (by omega)] at h;exact h
    (have hr2:w2.cell? ⟨w.heap.size+1,k,none⟩=some (.pointer (some ⟨A k,0,none⟩)):=by have h:=hX.row.cell (i:=k) hlt;rw [if_pos (by omega)] at h;exact h);(have Uz:Hid (bg A k=.pointer (some ⟨wo.heap.size,0,none⟩)):=by unfold Hid bg;rw [hAk]);rw [hAk] at hr2;have hkc:=hX.fr.oZ (i:=p) (by omega);have hfz:=hX.fr.thaw (i:=p) (by omega) 1;(have EH:Hid (aF (w.heap.size+1+1) 119 w2 (kv p) ((cg t.ps p k).map (bg A))):=by have h:=hX.fr.own p (by omega);rw [nI] at h;exact h);have Ae:=aa hX
    have EI:Hid (A p≠w.heap.size+1∧(kv p).ownBlock≠some (w.heap.size+1)∧(kv p).ownBlock≠some (A p)∧w.heap.size+1<w2.heap.size∧A p<w2.heap.size):=⟨(hX.fr.far (by omega)).1,(hX.fr.far (by omega)).2,hX.fr.apart p p (by omega) (by omega),hX.row.lt,hX.fr.lt (by omega)⟩;(have i0:(0:Int)≤(p:Int):=by omega);(have i1:(p:Int)<(t.ps.length:Int):=by omega);(have i2:(0:Int)≤(k:Int):=by omega);(have i3:(k:Int)<(t.ps.length:Int):=by omega);have iw:Hid (((cg t.ps p k).map (bg A)).length≤1000000):=by unfold Hid;rw [List.length_map];have:=oz t.ps p k;omega
    have Ag:Hid (∀g cap w',aF (w.heap.size+1+1) 119 w' (.slice (some ⟨g,0,none⟩) (((cg t.ps p k).map (bg A)).length+1) cap) ((cg t.ps p k).map (bg A)++[.pointer (some ⟨wo.heap.size,0,none⟩)])→w2.grownBy w' (kv p).ownBlock→((kv p).ownBlock=some g∨w2.heap.size≤g)→yC w1 (w'.setCell ⟨A p,1,none⟩ (.slice (some ⟨g,0,none⟩) (((cg t.ps p k).map (bg A)).length+1) cap)) (w.heap.size+1) t.ps.length (k+1) t):=fun g cap w' h1 h2 h3=>hX.push hpk ve.out (by rw [Uz.out];exact h1) h2 (fun b hb=>by cases hb;exact h3);clear hAk hX HX Uy hfo mF pG hc0 hc1;generalize bg A=na at *
    generalize hap:A p=ap at *;generalize wo.heap.size=ak at *;generalize kv p=ov at *;generalize List.map na (cg t.ps p k)=vs at *;have OQ:Hid (aF (w.heap.size+1+1) 119 (w2.alloc (.cells #[.pointer (some ⟨ak,0,none⟩)] 119)).drew ov vs):=EH.out.alloc _;have l7:Hid ((w2.alloc (.cells #[.pointer (some ⟨ak,0,none⟩)] 119)).drew.cell? ⟨w2.heap.size,0,none⟩=some (.pointer (some ⟨ak,0,none⟩))):=aK _ _ _ 0
    have kU:Hid (w.heap.size+1+1≤(w2.alloc (.cells #[.pointer (some ⟨ak,0,none⟩)] 119)).drew.heap.size):=by have:=EI.out.2.2.2.1;show _≤(w2.alloc _).heap.size;rw [World.size_alloc];omega
    have EJ:Hid (∀(w':World),(w2.alloc (.cells #[.pointer (some ⟨ak,0,none⟩)] 119)).drew.grownBy w' ov.ownBlock→w'.cell? ⟨w.heap.size+1,p,none⟩=some (.pointer (some ⟨ap,0,none⟩))∧w'.cell? ⟨w.heap.size+1,k,none⟩=some (.pointer (some ⟨ak,0,none⟩))∧w'.cell? ⟨ap,1,none⟩=some ov∧w'.frozen? ⟨ap,1,none⟩=false):=fun w' hg=>by
     obtain ⟨q1,q2,q3,q4,q5⟩:=EI.out;(have hl:∀b,b<w2.heap.size→b<(w2.alloc (.cells #[.pointer (some ⟨ak,0,none⟩)] 119)).drew.heap.size:=fun b hb=>by show b<(w2.alloc _).heap.size;rw [World.size_alloc];omega);have hu:=Up.alloc w2 (.cells #[.pointer (some ⟨ak,0,none⟩)] 119);refine ⟨?_,?_,?_,?_⟩
     ·rw [hg.cell_far _ (hl _ q4) (Ne.symm q2)];exact hu.cell hr1
     ·rw [hg.cell_far _ (hl _ q4) (Ne.symm q2)];exact hu.cell hr2
     ·rw [hg.cell_far _ (hl _ q5) (Ne.symm q3)];exact hu.cell hkc
     ·rw [hg.frozen_far _ (hl _ q5) (Ne.symm q3)];exact (Below.frozen hu (p:=⟨ap,1,none⟩) q5).trans hfz
    have hr1a:=(Up.alloc w2 (.cells #[.pointer (some ⟨ak,0,none⟩)] 119)).cell hr1;have hr2a:=(Up.alloc w2 (.cells #[.pointer (some ⟨ak,0,none⟩)] 119)).cell hr2;have hkca:=(Up.alloc w2 (.cells #[.pointer (some ⟨ak,0,none⟩)] 119)).cell hkc;clear Ae;refine dG (by kernel_rfl) 20 (fun w'=>w'.cell? ⟨w.heap.size+1,p,none⟩=some (.pointer (some ⟨ap,0,none⟩))∧w'.cell? ⟨w.heap.size+1,k,none⟩=some (.pointer (some ⟨ak,0,none⟩))∧w'.cell? ⟨ap,1,none⟩=some ov) ⟨hr1,hr2,hkc⟩ (fun hS=>?_)
    simp only [List.size_toArray,List.length_cons,List.length_nil,Nat.reduceAdd,Array.replicate_succ,Array.replicate_zero,List.push_toArray,List.nil_append,List.cons_append];refine af.tk 0 hS ?_;(try simp only [Act.put,ay,az,aA]);refine af.tk 1 hS ?_;(try simp only [Act.put,ay,az,aA]);refine af.tk 2 hS ?_;(try simp only [Act.put,ay,az,aA]);refine af.tk 3 hS ?_
    (try simp only [Act.put,ay,az,aA]);refine af.tk 4 hS ?_;(try simp only [Act.put,ay,az,aA]);refine af.tk 5 hS ?_;(try simp only [Act.put,ay,az,aA]);refine af.tk 6 hS ?_;(try simp only [Act.put,ay,az,aA]);refine af.tk 7 hS ?_;(try simp only [Act.put,ay,az,aA]);refine af.tk 8 hS ?_
    (try simp only [Act.put,ay,az,aA]);refine af.tk 9 hS ?_;(try simp only [Act.put,ay,az,aA]);refine af.tk 10 hS ?_;(try simp only [Act.put,ay,az,aA]);refine af.tk 11 hS ?_;(try simp only [Act.put,ay,az,aA]);refine af.tk 12 hS ?_;(try simp only [Act.put,ay,az,aA]);refine af.tk 13 hS ?_
    (try simp only [Act.put,ay,az,aA]);refine af.tk 14 hS ?_;(try simp only [Act.put,ay,az,aA]);refine af.step (i:=15) rfl (by kernel_rfl) (fun K' hK=>?_);go_simp;refine hK.out _ _ (fun _=>⟨(Up.alloc _ _).cell hr1,(Up.alloc _ _).cell hr2,(Up.alloc _ _).cell hkc⟩) (fun hS=>?_);(try simp only [ay,az,aA]);refine af.step (i:=16) rfl (by kernel_rfl) (fun K' hK=>?_)
    refine eV (by rfl) _ _ _ (by rfl) (w.heap.size+1+1) 119 _ 8 Tryz.underlying120 Tryz.qN (by rfl) (by decide) (by rfl) OQ.out (.pointer (some ⟨ak,0,none⟩)) w2.heap.size (by rfl) l7.out (by rfl) iw.out kU.out ?_;intro g cap w4 rT hg4 wW EK;obtain ⟨OS,OT,OU,hfz4⟩:=EJ.out w4 hg4;have JY:=aa rT;have LQ:=aa (lR hg4);have OV:=aa wW;clear rT hg4 wW EK;refine hK.out _ _ (fun _=>⟨OS,OT,OU⟩) (fun hS=>?_);replace hS:=hS ⟨19,by decide,rfl⟩
    (try simp only [Act.put,ay,az,aA]);refine af.tk 17 hS ?_;(try simp only [Act.put,ay,az,aA]);refine af.tk 18 hS ?_;(try simp only [Act.put,ay,az,aA]);refine af.step (i:=19) rfl (by kernel_rfl) (fun K' hK=>?_);go_simp;refine hK.out _ _ (aM (by kernel_rfl)) (fun hS=>?_);refine af.done (by kernel_rfl) ?_;go_wp2_with fail
    go_roundw
    case rel =>
     refine ⟨k+1,by omega,by go_num,Ag.out g cap w4 JY.out LQ.out ?_⟩;rcases OV.out with h | h
     ·exact .inl h
     ·refine .inr ?_
      rw [h];exact Nat.le_trans (Nat.le_succ _) (Nat.le_of_eq (World.size_alloc _ _).symm)
    case measure=>simp [intOf];omega
   ·have ve:Hid (gi t.ps k<0):=by unfold Hid;omega
    (have d1:decide ((0:Int)≤gi t.ps k)=false:=by simpa using mC);clear h0 mC;go_wp2_with fail
    go_roundw
    case rel =>obtain ⟨A',kv',_,hX⟩:=HX.out;exact ⟨k+1,by omega,by go_num,hX.root ve.out⟩
    case measure=>simp [intOf];omega
  ·obtain rfl:k=t.ps.length:=by omega
   go_wp2_with fail;go_ret;obtain ⟨b9,A,kv,hF,hrow⟩:=hO.out;exact ⟨Below.trans jB.out (b9.mono (Nat.le_succ _)),_,A,kv,rfl,hF.Sz (by omega),hrow.congr fun i hi=>by rw [if_pos hi]⟩
end
section
open Go.Sort
theorem lT:∀a b:List UInt8,Lib.compareBytes b a = - Lib.compareBytes a b
 | [],[]=>rfl
 | [],_::_=>rfl
 | _::_,[]=>rfl
 | a::u,b::v=>by
  unfold Lib.compareBytes
  by_cases h1:a<b
  ·have h2:¬b<a:=by rw [UInt8.lt_iff_toNat_lt] at *;omega
   simp [h1,h2]
  ·by_cases h2:b<a
   ·simp [h1,h2]
   ·simp only [h1,h2,if_false];exact lT u v
theorem nJ:∀ {a b:List UInt8},Lib.compareBytes a b=0→a=b
 | [],[],_=>rfl
 | [],_::_,h=>by cases h
 | _::_,[],h=>by cases h
 | a::u,b::v,h=>by
  unfold Lib.compareBytes at h
  split at h
  ·cases h
  ·split at h
   ·cases h
   ·rename_i h1 h2
    have e:a=b:=by
     apply UInt8.toNat.inj
     rw [UInt8.lt_iff_toNat_lt] at h1 h2;omega
    rw [e,nJ h]
theorem um (a:List UInt8):Lib.compareBytes a a=0:=by have:=lT a a;omega
theorem rU:∀ {a b c:List UInt8},Lib.compareBytes a b<0→Lib.compareBytes b c<0→Lib.compareBytes a c<0
 | [],[],_,h,_=>by cases h
 | [],_::_,[],_,h=>by cases h
 | [],_::_,_::_,_,_=>Int.negSucc_lt_zero 0
 | _::_,[],_,h,_=>by cases h
 | _::_,_::_,[],_,h=>by cases h
 | a::u,b::v,c::x,h,h'=>by
  unfold Lib.compareBytes at *
  by_cases h1:a<b
  ·by_cases h2:b<c
   ·have h3:a<c:=by rw [UInt8.lt_iff_toNat_lt] at *;omega
    rw [if_pos h3];decide
   ·rw [if_neg h2] at h'
    by_cases h3:c<b
    ·rw [if_pos h3] at h';cases h'
    ·have h4:a<c:=by rw [UInt8.lt_iff_toNat_lt] at *;omega
     rw [if_pos h4];decide
  ·rw [if_neg h1] at h
   by_cases h2:b<a
   ·rw [if_pos h2] at h;cases h
   ·rw [if_neg h2] at h
    have e:a=b:=by
     apply UInt8.toNat.inj
     rw [UInt8.lt_iff_toNat_lt] at h1 h2;omega
    subst e
    by_cases h3:a<c
    ·rw [if_pos h3];decide
    ·rw [if_neg h3] at h' ⊢
     by_cases h4:c<a
     ·rw [if_pos h4] at h';cases h'
     ·rw [if_neg h4] at h' ⊢;exact rU h h'
def b6 (a b:ByteArray):Int:=Lib.compareBytes a.data.toList b.data.toList
theorem gq (a b:ByteArray):b6 b a = - b6 a b:=lT _ _
theorem gu {a b:ByteArray} (h:b6 a b=0):a=b:=eD (nJ h)
theorem pY {a b c:ByteArray} (h:b6 a b<0) (h':b6 b c<0):b6 a c<0:=rU h h'
theorem Cs (a:ByteArray):b6 a a=0:=um _
def l8 (f:Nat→ByteArray) (x y:Nat):Bool:=decide (b6 (f x) (f y)≤0)
def cn (f:Nat→ByteArray) (l:List Nat):List Nat:=l.mergeSort (l8 f)
theorem Ct (f:Nat→ByteArray) (a b c:Nat) (h:l8 f a b=true) (h':l8 f b c=true):l8 f a c=true:=by
 unfold l8 at *;simp only [decide_eq_true_eq] at *;by_cases h1:b6 (f a) (f b)=0
 ·rw [gu h1];exact h'
 ·by_cases h2:b6 (f b) (f c)=0
  ·rw [← gu h2];exact h
  ·have:=pY (a:=f a) (b:=f b) (c:=f c) (by omega) (by omega);omega
theorem Cu (f:Nat→ByteArray) (a b:Nat):(l8 f a b || l8 f b a)=true:=by
 unfold l8;have:=gq (f a) (f b);simp only [Bool.or_eq_true,decide_eq_true_eq];omega
theorem dM (f:Nat→ByteArray) (l:List Nat):(cn f l).Perm l:=List.mergeSort_perm _ _
theorem qO (f:Nat→ByteArray) (l:List Nat):(cn f l).Pairwise (fun a b=>l8 f a b=true):=List.pairwise_mergeSort (Ct f) (Cu f) l
theorem yD {f g:Nat→ByteArray} {l:List Nat} (h:∀x∈l,f x=g x):cn f l=cn g l:=by
 have:=List.map_mergeSort (f:=id) (r:=l8 f) (s:=l8 g) (l:=l) (fun a ha b hb=>by simp only [l8,id];rw [h a ha,h b hb]);simpa [cn] using this
def Sep (f:Nat→ByteArray) (l:List Nat):Prop:=∀x∈l,∀y∈l,f x=f y→x=y
theorem vw {f:Nat→ByteArray} {l l':List Nat} (hp:l.Perm l') (hs:Sep f l):cn f l=cn f l':=by
 refine List.Perm.eq_of_pairwise (le:=fun a b=>l8 f a b=true) ?_ (qO f l) (qO f l') (((dM f l).trans hp).trans (dM f l').symm);intro a b ha hb h1 h2;refine hs a ((dM f l).mem_iff.1 ha) b (hp.mem_iff.2 ((dM f l').mem_iff.1 hb)) (gu ?_);unfold l8 at h1 h2;simp only [decide_eq_true_eq] at h1 h2;have:=gq (f a) (f b);omega
structure Wf (F:aU) (n:Nat) (rk:Nat→Nat):Prop where
 kid:∀i,i<n→∀k∈F.kids i,k<n∧rk k<rk i
def lsD (F:aU):Nat→Nat→ByteArray
 | 0,i=>F.nm i
 | d+1,i=>match cn (lsD F d) (F.kids i) with | []=>F.nm i | k::_=>lsD F d k
theorem zg {F:aU} {n:Nat} {rk:Nat→Nat} (h:Wf F n rk):∀ {d e i:Nat},i<n→rk i≤d→rk i≤e→lsD F d i=lsD F e i:=by
 intro d
 induction d with
 | zero =>
  intro e i hi hd he;have hk:F.kids i=[]:=by
   cases hk:F.kids i with
   | nil=>rfl
   | cons k l=>have:=(h.kid i hi k (by rw [hk];simp)).2;omega
  cases e with
  | zero=>rfl
  | succ e=>simp [lsD,hk,cn]
 | succ d ih =>
  intro e i hi hd he;have hsame:∀e',rk i≤e'+1→cn (lsD F d) (F.kids i)=cn (lsD F e') (F.kids i):=fun e' he'=>yD fun k hk=>by have:=h.kid i hi k hk;exact ih this.1 (by omega) (by omega)
  cases e with
  | zero =>
   have hk:F.kids i=[]:=by
    cases hk:F.kids i with
    | nil=>rfl
    | cons k l=>have:=(h.kid i hi k (by rw [hk];simp)).2;omega
   simp [lsD,hk,cn]
  | succ e =>
   simp only [lsD];rw [hsame e (by omega)];cases hc:cn (lsD F e) (F.kids i) with
   | nil=>rfl
   | cons k l =>
    have hk:k∈F.kids i:=(dM _ _).mem_iff.1 (by rw [hc];simp);have:=h.kid i hi k hk;exact ih this.1 (by omega) (by omega)
def fc (F:aU) (rk:Nat→Nat) (i:Nat):ByteArray:=lsD F (rk i) i
theorem qP {F:aU} {n:Nat} {rk:Nat→Nat} (h:Wf F n rk) {i:Nat} (hi:i<n):fc F rk i=match cn (fc F rk) (F.kids i) with | []=>F.nm i | k::_=>fc F rk k:=by
 have h1:fc F rk i=lsD F (rk i+1) i:=zg h hi (Nat.le_refl _) (Nat.le_succ _);rw [h1];simp only [lsD];have hs:cn (lsD F (rk i)) (F.kids i)=cn (fc F rk) (F.kids i):=yD fun k hk=>by have:=h.kid i hi k hk;exact zg h this.1 (by omega) (Nat.le_refl _)
 rw [hs];cases hc:cn (fc F rk) (F.kids i) with
 | nil=>rfl
 | cons k l =>
  have hk:k∈F.kids i:=(dM _ _).mem_iff.1 (by rw [hc];simp);have:=h.kid i hi k hk;exact zg h this.1 (by omega) (Nat.le_refl _)
def subD (F:aU):Nat→Nat→Nat→Bool
 | 0,i,j=>j==i
 | d+1,i,j=>(j==i) || (F.kids i).any fun k=>subD F d k j
def bM (F:aU) (rk:Nat→Nat) (i j:Nat):Bool:=subD F (rk i) i j
theorem wX {F:aU} {n:Nat} {rk:Nat→Nat} (h:Wf F n rk):∀ {d e i j:Nat},i<n→rk i≤d→rk i≤e→subD F d i j=subD F e i j:=by
 intro d
 induction d with
 | zero =>
  intro e i j hi hd he;have hk:F.kids i=[]:=by
   cases hk:F.kids i with
   | nil=>rfl
   | cons k l=>have:=(h.kid i hi k (by rw [hk];simp)).2;omega
  cases e with
  | zero=>rfl
  | succ e=>simp [subD,hk]
 | succ d ih =>
  intro e i j hi hd he;cases e with
  | zero =>
   have hk:F.kids i=[]:=by
    cases hk:F.kids i with
    | nil=>rfl
    | cons k l=>have:=(h.kid i hi k (by rw [hk];simp)).2;omega
   simp [subD,hk]
  | succ e =>
   simp only [subD];congr 1;rw [Bool.eq_iff_iff,List.any_eq_true,List.any_eq_true];constructor
   ·rintro ⟨k,hk,h1⟩
    have:=h.kid i hi k hk;exact ⟨k,hk,by rw [← ih (e:=e) this.1 (by omega) (by omega)];exact h1⟩
   ·rintro ⟨k,hk,h1⟩
    have:=h.kid i hi k hk;exact ⟨k,hk,by rw [ih (e:=e) this.1 (by omega) (by omega)];exact h1⟩
theorem gy {F:aU} {n:Nat} {rk:Nat→Nat} (h:Wf F n rk) {i:Nat} (hi:i<n) (j:Nat):bM F rk i j=((j==i) || (F.kids i).any fun k=>bM F rk k j):=by
 have h1:bM F rk i j=subD F (rk i+1) i j:=wX h hi (Nat.le_refl _) (Nat.le_succ _);rw [h1];simp only [subD];congr 1;rw [Bool.eq_iff_iff,List.any_eq_true,List.any_eq_true];constructor
 ·rintro ⟨k,hk,h1⟩
  have:=h.kid i hi k hk;exact ⟨k,hk,by unfold bM;rw [← wX h this.1 (d:=rk i) (by omega) (Nat.le_refl _)];exact h1⟩
 ·rintro ⟨k,hk,h1⟩
  have:=h.kid i hi k hk;exact ⟨k,hk,by rw [wX h this.1 (e:=rk k) (by omega) (Nat.le_refl _)];exact h1⟩
def aU.gQ (F:aU) (rk:Nat→Nat) (p:Nat→Bool):aU:={ F with kids:=fun i=>if p i then cn (fc F rk) (F.kids i) else F.kids i }
theorem aU.gG (F:aU) (rk:Nat→Nat) (p:Nat→Bool) (i:Nat):((F.gQ rk p).kids i).Perm (F.kids i):=by
 show (if p i then _ else _:List Nat).Perm _;split
 ·exact dM _ _
 ·exact List.Perm.refl _
end
end Go.Proofs.YthgabkgmkolobaaGreat
