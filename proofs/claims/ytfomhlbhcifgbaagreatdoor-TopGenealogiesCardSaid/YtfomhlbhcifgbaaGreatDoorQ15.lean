/- The contract of phylotree.nodes. -/
import Derived.Deep.RegionHeld3
import Derived.Test.YtfomhlbhcifgbaaGreatDoorQ14
import Derived.Test.YtfomhlbhcifgbaaGreatDoorQ6
set_option maxRecDepth 100000
set_option maxHeartbeats 2000000
namespace Go.Proofs.YtfomhlbhcifgbaaGreatDoor
open Go.RowKit Go.Deep
theorem Tryz.xS:(Tryz.prog.info? 78).map (fun i=>(i.zero,i.size,i.bytes))=some (some (.pointer none),1,8):=by kernel_rfl
theorem bz.congr {base n:Nat} {A:Nat->Nat} {kv:Nat->Value} {F F':aW} {w:World} (h:bz base n A kv F w) (e:∀i,i<n->F'.nm i=F.nm i/\F'.old i=F.old i/\F'.kids i=F.kids i):bz base n A kv F' w :=
 ⟨fun i hi=>by rw [(e i hi).1,(e i hi).2.1];exact h.node i hi,h.lo,h.inj,fun i hi=>by rw [(e i hi).2.2];exact h.own i hi,h.apart,h.alone,fun i hi=>by rw [(e i hi).2.2];exact h.kid i hi⟩
theorem Vg {w:World} {p:Addr} {v:Value} (h:∃u,w.cell? p=some u):(w.setCell p v).cell? p=some v:=by
 obtain ⟨u,h⟩:=h;exact World.cell?_setCell_same' _ _ _ (by rw [h];rfl)
theorem Um {w:World} {p:Addr} {v:Value} {b o:Nat} (h:p.block≠b):(w.setCell p v).cell? ⟨b,o,none⟩=w.cell? ⟨b,o,none⟩ :=
 cW (a:=⟨b,o,none⟩) (blk_setCell_other _ _ _ _ (fun e=>h e.symm))
theorem rM {w w':World} {o:Obj} {row:Option Nat} (h:(w.alloc o).drew.grownBy w' row):w.grownBy w' row :=
 gQ (o:=o) ⟨h.os,h.tape,h.output,h.size,h.block⟩
section
variable {P:Program} {ops:Array Oper} {o:Oper} {a:Act} {w:World} {K:Act->World->Prop} {Q:Exit->Act->World->Prop} {E:Prop}
theorem aL (hgd:o.guard=none) (s x:Operand) (t:TypeId) (ho:o.op=.call { callee:=.builtin .append,args:=#[s,x],argTypes:=#[t,t] })
  (base:Nat) (e:TypeId) (z:Value) (bytes:Nat) (ht:P.underlying t=some (.slice e)) (hinfo:(P.info? e).map (fun i=>(i.zero,i.size,i.bytes))=some (some z,1,bytes))
  (hz1:z.cells.size=1) (mB:bytes<=64) {v:Value} {vs:List Value} (hs:a.eval s=v) (hown:au base e w v vs) (u:Value) (B:Nat)
  (hx:a.eval x=.slice (some ⟨B,0,none⟩) 1 1) (hB:w.cell? ⟨B,0,none⟩=some u) (h1:u.oneCell'=true) (hn:vs.length<=1000000) (hbase:base<=w.heap.size)
  (h:∀g cap w',au base e w' (.slice (some ⟨g,0,none⟩) (vs.length+1) cap) (vs++[u])->w.grownBy w' v.ownBlock->(v.ownBlock=some g\/g=w.heap.size)->Below base w w'->K (a.put o.dst (.slice (some ⟨g,0,none⟩) (vs.length+1) cap)) w') :
  if Region.wanted o (yielded ops a.tmps)=true then Oper.wp P o a w K Q else E:=by
 obtain ⟨i,hi,hzz⟩:=iN.1 hinfo;simp only [iO] at hzz;obtain ⟨hz,hs1,hb⟩:=hzz;refine step_append_lies w hgd s x t ho base e i z 1 bytes ht hi hz hs1 hb hz1 (by omega) v vs.length vs hs hown ⟨B,0,none⟩ 1 1 [u] hx rfl ?_ (by simpa using h1) (by omega)
  (by unfold maxLen;omega) ?_ hbase _ rfl fun g cap w' h2 h3 h4 _=>h g cap w' ?_ h3 h4 (hown.cQ h3 hbase)
 ·intro j u' hj
  cases j with
  | zero=>(simp at hj;subst hj;simpa [Addr.add] using hB)
  | succ j=>simp at hj
 ·have:(vs.length+1)*bytes<=(vs.length+1)*64:=qK _ mB
  omega
 ·unfold au;rw [bG];exact h2
end
def frK (t:aA) (k:Nat):aW:=⟨gs t.ns,fun i=>i,fun i=>dR t.ps i k⟩
def k9 (t:aA):aW:=frK t t.ps.length
def F9 (w wr:World) (g0 n k:Nat) (t:aA):Prop :=
 Below g0 w wr/\∃A kv,bz (g0+1) k A kv (frK t k) wr/\wr.rowIs g0 78 n (fun i=>if i<k then bL A i else .pointer none)
def MV (t:aA) (k:Nat):aW:=⟨gs t.ns,fun i=>i,upd (fun i=>dR t.ps i k) k []⟩
structure MW (w wr:World) (g0 n k:Nat) (t:aA) (A:Nat->Nat) (kv:Nat->Value):Prop where
 up:Below g0 w wr
 fr:bz (g0+1) (k+1) A kv (MV t k) wr
 row:wr.rowIs g0 78 n (fun i=>if i<k+1 then bL A i else .pointer none)
theorem bz.far {g0 n:Nat} {A:Nat->Nat} {kv:Nat->Value} {F:aW} {w:World} (h:bz (g0+1) n A kv F w) {i:Nat} (hi:i<n):A i≠g0/\(kv i).ownBlock≠some g0 :=
 ⟨fun e=>by have:=h.lo i hi;omega,fun e=>by have:=(h.gK hi e).1;omega⟩
theorem F9.new {w wo:World} {g0 n k:Nat} {t:aA} (h:F9 w wo g0 n k t) :
  ∃A kv,A k=wo.heap.size/\MW w ((wo.alloc (.cells #[.string (gs t.ns k),.slice none 0 0,.int .i64 k] 81)).setCell ⟨g0,k,none⟩ (.pointer (some ⟨wo.heap.size,0,none⟩))) g0 n k t A kv:=by
 obtain ⟨dy,A,kv,hF,hrow⟩:=h;have hg0:=hrow.lt;have hF2:=hF.Ao (by omega) (gs t.ns k) k;refine ⟨upd A k wo.heap.size,upd kv k (.slice none 0 0),upd_same _ _ _,(dy.alloc (by omega) _).setCell (p:=⟨g0,k,none⟩) (aj _) _,?_,?_⟩
 ·have JQ:=hF2.congr (F':=MV t k) fun i hi=>by
   refine ⟨?_,?_,rfl⟩
   ·by_cases e:i=k
    ·subst e;exact (upd_same _ _ _).symm
    ·exact (upd_ne _ _ e).symm
   ·by_cases e:i=k
    ·subst e;exact (upd_same _ _ _).symm
    ·exact (upd_ne _ _ e).symm
  exact JQ.same (fun i hi=>blk_setCell_other _ _ _ _ (JQ.far hi).1) fun i b hi hb=>blk_setCell_other _ _ _ _ (fun e2=>(JQ.far hi).2 (by rw [hb];exact congrArg some e2))
 ·refine ((hrow.alloc _).set k _).congr fun i hi=>?_
  by_cases e:i=k
  ·subst e;rw [if_pos rfl,if_pos (by omega)];unfold bL;rw [upd_same]
  ·rw [if_neg e]
   by_cases e2:i<k
   ·rw [if_pos e2,if_pos (by omega)];unfold bL;rw [upd_ne _ _ e]
   ·rw [if_neg e2,if_neg (by omega)]
theorem Lf (ps:List Int) (k:Nat):dR ps k k=[]:=by
 unfold dR;refine List.filter_eq_nil_iff.2 fun i hi=>?_;have:=bX.1 hi;simp;omega
theorem rN (t:aA) (k i:Nat):(MV t k).kids i=dR t.ps i k:=by
 show upd (fun i=>dR t.ps i k) k [] i=_;by_cases e:i=k
 ·subst e;rw [upd_same,Lf]
 ·rw [upd_ne _ _ e]
theorem MW.root {w wr:World} {g0 n k:Nat} {t:aA} {A:Nat->Nat} {kv:Nat->Value} (h:MW w wr g0 n k t A kv) (hp:gi t.ps k<0):F9 w wr g0 n (k+1) t:=by
 refine ⟨h.up,A,kv,h.fr.congr fun i hi=>⟨rfl,rfl,?_⟩,h.row⟩;rw [rN];show dR t.ps i (k+1)=_;rw [lQ,if_neg (by omega),gm]
theorem MW.push {w wr w':World} {g0 n k p:Nat} {t:aA} {A:Nat->Nat} {kv:Nat->Value} (h:MW w wr g0 n k t A kv) (hpk:p<k) (hp:gi t.ps k=p) {v:Value}
  (hv:au (g0+1) 78 w' v ((dR t.ps p k).map (bL A)++[bL A k])) (hg:wr.grownBy w' (kv p).ownBlock) (hb:∀b,v.ownBlock=some b->(kv p).ownBlock=some b\/wr.heap.size<=b) :
  F9 w (w'.setCell ⟨A p,1,none⟩ v) g0 n (k+1) t:=by
 have hF:=h.fr.push (k:=p) (c:=k) (v:=v) (by omega) (by omega) (by rw [rN,cm];exact hv) hg hb;have hlo:=h.fr.lo p (by omega);have hrl:=h.row.lt;refine ⟨?_,A,upd kv p v,hF.congr fun i hi=>⟨rfl,rfl,?_⟩,?_⟩
 ·have h1:Below (g0+1) wr w':=(h.fr.own p (by omega)).cQ hg (by omega)
  exact (dI h.up (h1.mono (by omega))).setCell (p:=⟨A p,1,none⟩) (by show g0<=A p;omega) _
 ·show dR t.ps i (k+1)=upd (MV t k).kids p ((MV t k).kids p++[k]) i
  rw [lQ,rN];by_cases e:i=p
  ·subst e;rw [upd_same,if_pos ⟨hpk,hp⟩]
  ·rw [upd_ne _ _ e,if_neg (by omega),gm,rN]
 ·have hne:g0≠A p:=fun e=>(h.fr.far (i:=p) (by omega)).1 e.symm
  refine (h.row.of_block ?_).setOther (a:=⟨A p,1,none⟩) hne v;exact hg.block g0 hrl (fun e=>(h.fr.far (i:=p) (by omega)).2 e.symm)
theorem bz.Un {base base' n:Nat} {A:Nat->Nat} {kv:Nat->Value} {F:aW} {w:World} (h:bz base n A kv F w) (hb:base'<=base):bz base' n A kv F w :=
 ⟨h.node,fun i hi=>aV hb (h.lo i hi),h.inj,fun i hi=>(h.own i hi).MT hb,h.apart,h.alone,h.kid⟩
def MX (w:World) (t:aA) (e:Ending) (w':World):Prop :=
 Up w w'/\∃g A kv,e=.returned (.slice (some ⟨g,0,none⟩) t.ps.length t.ps.length)/\bz w.heap.size t.ps.length A kv (k9 t) w'/\w'.rowIs g 78 t.ps.length (bL A)
def Lg (w:World) (t:aA) (e:Ending) (w':World):Prop :=
 Up w w'/\∃g A kv,w.heap.size<=g/\e=.returned (.slice (some ⟨g,0,none⟩) t.ps.length t.ps.length)/\bz (g+1) t.ps.length A kv (k9 t) w'/\w'.rowIs g 78 t.ps.length (bL A)
theorem Ga (S:Nat->Prop) (w:World) (v:Value) (t:aA) (hT:aJ S w v t) (hp:t.ps.length<=1000) (hn:t.ns.length=t.ps.length) (hok:jt t.ps=true) (hz:∀k,(gs t.ns k).size<=70000) :
  Calls Tryz.prog 75 #[v] w (Lg w t):=by
 obtain ⟨P,N,rfl,hP,hN⟩:=hT;obtain ⟨pP,rO,rfl,abF,_⟩:=aB.open hP;have hP:af S w (.slice pP t.ps.length rO) t.ps:=hP;obtain ⟨pN,rP,rfl,abG,_⟩:=aB.open hN;have hN:aC S w (.slice pN t.ns.length rP) t.ns:=hN;have hmk:=fun W=>run_make_row' (P:=Tryz.prog) 79 78 (.pointer none) 8 Tryz.underlying79 Tryz.xS rfl .i64 .i64 t.ps.length (by omega) (by omega) W;have hu:=Up.alloc w (.cells #[.slice pP t.ps.length rO,.slice pN t.ns.length rP] 33);have hb0:=mC w (.slice pP t.ps.length rO) (.slice pN t.ns.length rP) 33
 have hb1:=mD w (.slice pP t.ps.length rO) (.slice pN t.ns.length rP) 33;have aK:=Up.alloc (w.alloc (.cells #[.slice pP t.ps.length rO,.slice pN t.ns.length rP] 33)) (.cells (madeCells #[.pointer none] t.ps.length) 78)
 have HW:Hid (F9 ((w.alloc (.cells #[.slice pP t.ps.length rO,.slice pN t.ns.length rP] 33)).alloc (.cells (madeCells #[.pointer none] t.ps.length) 78)) ((w.alloc (.cells #[.slice pP t.ps.length rO,.slice pN t.ns.length rP] 33)).alloc (.cells (madeCells #[.pointer none] t.ps.length) 78)) (w.heap.size+1) t.ps.length 0 t):=by refine ⟨b7 _ _,fun _=>0,fun _=>.slice none 0 0,bz.empty _ _ _ _ _,?_⟩;have h:=World.rowIs_made (w.alloc (.cells #[.slice pP t.ps.length rO,.slice pN t.ns.length rP] 33)) (.pointer none) t.ps.length 78;simp only [aN] at h;exact h
 have qF:=aa (hu.trans aK);have hsz:w.heap.size+1+1=((w.alloc (.cells #[.slice pP t.ps.length rO,.slice pN t.ns.length rP] 33)).alloc (.cells (madeCells #[.pointer none] t.ps.length) 78)).heap.size:=by simp
 have fW:=aa hsz;have sW:=aa (aK.cell hb0);have qE:=aa (aK.cell hb1);have HP:=aa hP;have HN:=aa hN;have HNS:=aa hz;have pZ:=aa hok;have b6:=aa hn;have hnl:(t.ps.length:Int)<=(t.ns.length:Int):=by omega
 clear hsz hu hb0 hb1 aK hP hN hz hok hn;go_in;go_wp2_with fail;generalize (w.alloc (.cells #[.slice pP t.ps.length rO,.slice pN t.ns.length rP] 33)).alloc (.cells (madeCells #[.pointer none] t.ps.length) 78)=w1 at *
 go_loopw [13] (fun i wr=>∃k:Nat,k<=t.ps.length/\i=.int .i64 k/\Hid (F9 w1 wr (w.heap.size+1) t.ps.length k t)) (fun i _=>t.ps.length - (intOf i).toNat)
 case atStart=>exact ⟨0,bg _,rfl,HW⟩
 case round =>
  obtain ⟨k,hk,rfl,hO⟩:=hrel;obtain ⟨wo,rfl⟩:=e9 wr;by_cases hlt:k<t.ps.length
  ·obtain ⟨dy,A,kv,hF,hrow⟩:=hO.out
   (have hc0:wo.cell? ⟨w.heap.size,0,none⟩=some (.slice pP t.ps.length rO):=by rw [dy.cell (p:=⟨w.heap.size,0,none⟩) (kC _)];exact sW.out);(have hc1:wo.cell? ⟨w.heap.size,1,none⟩=some (.slice pN t.ns.length rP):=by rw [dy.cell (p:=⟨w.heap.size,1,none⟩) (kC _)];exact qE.out);have V5:Up w wo:=dI qF.out (dy.mono (jP _));obtain ⟨bP,oP,rfl,xJ⟩:=dh (af.keep HP.out (V5.kept S)) hlt;obtain ⟨bN,oN,rfl,Bl⟩:=fI (aC.keep HN.out (V5.kept S)) (k:=k) (by rw [b6.out];exact hlt);have HX:=aa hO.out.new
   (have hco:(wo.alloc (.cells #[.string (gs t.ns k),.slice none 0 0,.int .i64 k] 81)).cell? ⟨w.heap.size+1,k,none⟩=some (.pointer none):=by have h:=(hrow.alloc (.cells #[.string (gs t.ns k),.slice none 0 0,.int .i64 k] 81)).cell hlt;rw [h,if_neg (Nat.lt_irrefl k)]);have hfo:(wo.alloc (.cells #[.string (gs t.ns k),.slice none 0 0,.int .i64 k] 81)).frozen? ⟨w.heap.size+1,k,none⟩=false:=(hrow.alloc _).frozen k;clear hF hrow dy V5 hO;have h0:gi t.ps k<k/\(0<k->0<=gi t.ps k)/\(k=0->gi t.ps k = -1):=pV pZ.out hlt;by_cases j9:0<=gi t.ps k
   ·obtain ⟨p,Fs⟩:=o7 j9
    (have hpk:p<k:=by omega);rw [Fs] at xJ;(have d1:decide ((0:Int)<=(p:Int))=true:=by simp);have MC:=aa Fs;clear h0 j9 Fs;go_wp2_with fail;generalize (wo.alloc (.cells #[.string (gs t.ns k),.slice none 0 0,.int .i64 k] 81)).setCell ⟨w.heap.size+1,k,none⟩ (.pointer (some ⟨wo.heap.size,0,none⟩))=w2 at *;obtain ⟨A,kv,hAk,hX⟩:=HX.out;have hr1:w2.cell? ⟨w.heap.size+1,p,none⟩=some (.pointer (some ⟨A p,0,none⟩)):=by have h:=hX.row.cell (i:=p) (by omega);rw [if_pos (by omega)] at h;exact h
    (have hr2:w2.cell? ⟨w.heap.size+1,k,none⟩=some (.pointer (some ⟨A k,0,none⟩)):=by have h:=hX.row.cell (i:=k) hlt;rw [if_pos (by omega)] at h;exact h);(have HNK:Hid (bL A k=.pointer (some ⟨wo.heap.size,0,none⟩)):=by unfold Hid bL;rw [hAk]);rw [hAk] at hr2;have hkc:=hX.fr.rL (i:=p) (by omega);have hfz:=hX.fr.thaw (i:=p) (by omega) 1;(have Qw:Hid (au (w.heap.size+1+1) 78 w2 (kv p) ((dR t.ps p k).map (bL A))):=by have h:=hX.fr.own p (by omega);rw [rN] at h;exact h);have SS:=aa hX
    have HAP:Hid (A p≠w.heap.size+1/\(kv p).ownBlock≠some (w.heap.size+1)/\(kv p).ownBlock≠some (A p)/\w.heap.size+1<w2.heap.size/\A p<w2.heap.size):=⟨(hX.fr.far (by omega)).1,(hX.fr.far (by omega)).2,hX.fr.apart p p (by omega) (by omega),hX.row.lt,hX.fr.lt (by omega)⟩;(have i0:(0:Int)<=(p:Int):=by omega);(have i1:(p:Int)<(t.ps.length:Int):=by omega);(have i2:(0:Int)<=(k:Int):=by omega);(have i3:(k:Int)<(t.ps.length:Int):=by omega);have zA:Hid (((dR t.ps p k).map (bL A)).length<=1000000):=by unfold Hid;rw [aD];have:=xw t.ps p k;omega
    have ZJ:Hid (∀g cap w',au (w.heap.size+1+1) 78 w' (.slice (some ⟨g,0,none⟩) (((dR t.ps p k).map (bL A)).length+1) cap) ((dR t.ps p k).map (bL A)++[.pointer (some ⟨wo.heap.size,0,none⟩)])->w2.grownBy w' (kv p).ownBlock->((kv p).ownBlock=some g\/w2.heap.size<=g)->F9 w1 (w'.setCell ⟨A p,1,none⟩ (.slice (some ⟨g,0,none⟩) (((dR t.ps p k).map (bL A)).length+1) cap)) (w.heap.size+1) t.ps.length (k+1) t):=fun g cap w' h1 h2 h3=>hX.push hpk MC.out (by rw [HNK.out];exact h1) h2 (fun b hb=>by cases hb;exact h3);clear hAk hX HX hco hfo xJ Bl hc0 hc1;generalize bL A=na at *
    generalize hap:A p=ap at *;generalize wo.heap.size=ak at *;generalize kv p=ov at *;generalize List.map na (dR t.ps p k)=vs at *;have aaj:Hid (au (w.heap.size+1+1) 78 (w2.alloc (.cells #[.pointer (some ⟨ak,0,none⟩)] 78)).drew ov vs):=Qw.out.alloc _;have k7:Hid ((w2.alloc (.cells #[.pointer (some ⟨ak,0,none⟩)] 78)).drew.cell? ⟨w2.heap.size,0,none⟩=some (.pointer (some ⟨ak,0,none⟩))):=bE _ _ _ 0;have xT:Hid (w.heap.size+1+1<=(w2.alloc (.cells #[.pointer (some ⟨ak,0,none⟩)] 78)).drew.heap.size):=by have:=HAP.out.2.2.2.1;show _<=(w2.alloc _).heap.size;rw [aN];omega
    have aak:Hid (∀(w':World),(w2.alloc (.cells #[.pointer (some ⟨ak,0,none⟩)] 78)).drew.grownBy w' ov.ownBlock->w'.cell? ⟨w.heap.size+1,p,none⟩=some (.pointer (some ⟨ap,0,none⟩))/\w'.cell? ⟨w.heap.size+1,k,none⟩=some (.pointer (some ⟨ak,0,none⟩))/\w'.cell? ⟨ap,1,none⟩=some ov/\w'.frozen? ⟨ap,1,none⟩=false):=fun w' hg=>by
     obtain ⟨q1,q2,q3,q4,q5⟩:=HAP.out;(have hl:∀b,b<w2.heap.size->b<(w2.alloc (.cells #[.pointer (some ⟨ak,0,none⟩)] 78)).drew.heap.size:=fun b hb=>by show b<(w2.alloc _).heap.size;rw [aN];omega);have hu:=Up.alloc w2 (.cells #[.pointer (some ⟨ak,0,none⟩)] 78);refine ⟨?_,?_,?_,?_⟩
     ·rw [hg.cell_far _ (hl _ q4) (fe q2)];exact hu.cell hr1
     ·rw [hg.cell_far _ (hl _ q4) (fe q2)];exact hu.cell hr2
     ·rw [hg.cell_far _ (hl _ q5) (fe q3)];exact hu.cell hkc
     ·rw [hg.frozen_far _ (hl _ q5) (fe q3)];exact (Below.frozen hu (p:=⟨ap,1,none⟩) q5).trans hfz
    have acf:=(Up.alloc w2 (.cells #[.pointer (some ⟨ak,0,none⟩)] 78)).cell hr1;have acg:=(Up.alloc w2 (.cells #[.pointer (some ⟨ak,0,none⟩)] 78)).cell hr2;have ach:=(Up.alloc w2 (.cells #[.pointer (some ⟨ak,0,none⟩)] 78)).cell hkc;clear SS;refine jT (by kernel_rfl) 20 (fun w'=>w'.cell? ⟨w.heap.size+1,p,none⟩=some (.pointer (some ⟨ap,0,none⟩))/\w'.cell? ⟨w.heap.size+1,k,none⟩=some (.pointer (some ⟨ak,0,none⟩))/\w'.cell? ⟨ap,1,none⟩=some ov) ⟨hr1,hr2,hkc⟩ (fun hS=>?_)
    simp only [gI,bB,eW,Nat.reduceAdd,jL,jM,gH,dz,cw];refine ah.uv 0 1 2 3 hS ?_;(try simp only [Act.put,av,ax,ay]);refine ah.uv 4 5 6 7 hS ?_;(try simp only [Act.put,av,ax,ay]);refine ah.uv 8 9 10 11 hS ?_;(try simp only [Act.put,av,ax,ay]);refine ah.Dz 12 13 hS ?_
    (try simp only [Act.put,av,ax,ay]);refine ah.tk 14 hS ?_;(try simp only [Act.put,av,ax,ay]);refine ah.st 15 fun K' hK=>?_;go_simp;refine hK.out _ _ (fun _=>⟨(Up.alloc _ _).cell hr1,(Up.alloc _ _).cell hr2,(Up.alloc _ _).cell hkc⟩) (fun hS=>?_);(try simp only [av,ax,ay]);refine ah.st 16 fun K' hK=>?_
    refine aL (by rfl) _ _ _ (by rfl) (w.heap.size+1+1) 78 _ 8 Tryz.underlying79 Tryz.xS (by rfl) (by decide) (by rfl) aaj.out (.pointer (some ⟨ak,0,none⟩)) w2.heap.size (by rfl) k7.out (by rfl) zA.out xT.out ?_;intro g cap w4 S1 hg4 V6 aal;obtain ⟨aam,aan,aao,aci⟩:=aak.out w4 hg4;have ZK:=aa S1;have HG4:=aa (rM hg4);have aap:=aa V6;clear S1 hg4 V6 aal;refine hK.out _ _ (fun _=>⟨aam,aan,aao⟩) (fun hS=>?_);replace hS:=hS ⟨19,by decide,rfl⟩;try simp only [Act.put,av,ax,ay]
    refine ah.Dz 17 18 hS ?_;(try simp only [Act.put,av,ax,ay]);refine ah.st 19 fun K' hK=>?_;go_simp;refine hK.out _ _ (aT ·) (fun hS=>?_);refine ah.done (by kernel_rfl) ?_;go_wp2
    go_roundw
    case rel =>
     refine ⟨k+1,by omega,by go_num,ZJ.out g cap w4 ZK.out HG4.out ?_⟩;rcases aap.out with h | h
     ·exact .inl h
     ·refine .inr ?_
      rw [h];exact aV (jP _) (mQ (aN _ _).symm)
    case measure=>simp [intOf];omega
   ·have MC:Hid (gi t.ps k<0):=by unfold Hid;omega
    (have d1:decide ((0:Int)<=gi t.ps k)=false:=by simpa using j9);clear h0 j9;go_wp2
    go_roundw
    case rel =>obtain ⟨A',kv',_,hX⟩:=HX.out;exact ⟨k+1,by omega,by go_num,hX.root MC.out⟩
    case measure=>simp [intOf];omega
  ·obtain rfl:k=t.ps.length:=by omega
   go_wp2;go_ret;obtain ⟨dy,A,kv,hF,hrow⟩:=hO.out;exact ⟨dI qF.out (dy.mono (jP _)),_,A,kv,jP _,rfl,hF,hrow.congr fun i hi=>by rw [if_pos hi]⟩
theorem Uo (S:Nat->Prop) (w:World) (v:Value) (t:aA) (hT:aJ S w v t) (hp:t.ps.length<=1000) (hn:t.ns.length=t.ps.length) (hok:jt t.ps=true) (hz:∀k,(gs t.ns k).size<=70000) :
  Calls Tryz.prog 75 #[v] w (MX w t):=(Ga S w v t hT hp hn hok hz).mono fun _ _ ⟨hu,g,A,kv,hg,he,hF,hr⟩=>⟨hu,g,A,kv,he,hF.Un (by omega),hr⟩
end Go.Proofs.YtfomhlbhcifgbaaGreatDoor
