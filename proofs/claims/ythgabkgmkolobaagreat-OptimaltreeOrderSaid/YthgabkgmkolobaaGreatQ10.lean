/- The contract of phylotree.nodes. -/
import Derived.Deep.RegionHeld3
import Derived.Test.YthgabkgmkolobaaGreatQ7
import Derived.Test.YthgabkgmkolobaaGreatQ9
set_option maxRecDepth 100000
set_option maxHeartbeats 2000000
namespace Go.Proofs.YthgabkgmkolobaaGreat
open Go.RowKit Go.Deep
theorem Tryz.sQ:(Tryz.prog.info? 119).map (fun i=>(i.zero,i.size,i.bytes))=some (some (.pointer none),1,8):=by kernel_rfl
theorem bB.congr {base n:Nat} {A:Nat->Nat} {kv:Nat->Value} {F F':aX} {w:World} (h:bB base n A kv F w) (e:∀i,i<n->F'.nm i=F.nm i/\F'.old i=F.old i/\F'.kids i=F.kids i):bB base n A kv F' w :=
 ⟨fun i hi=>by rw [(e i hi).1,(e i hi).2.1];exact h.node i hi,h.lo,h.inj,fun i hi=>by rw [(e i hi).2.2];exact h.own i hi,h.apart,h.alone,fun i hi=>by rw [(e i hi).2.2];exact h.kid i hi⟩
theorem Fi {w:World} {p:Addr} {v:Value} (h:∃u,w.cell? p=some u):(w.setCell p v).cell? p=some v:=by
 obtain ⟨u,h⟩:=h;exact World.cell?_setCell_same' _ _ _ (by rw [h];rfl)
theorem vA {w:World} {p:Addr} {v:Value} {b o:Nat} (h:p.block≠b):(w.setCell p v).cell? ⟨b,o,none⟩=w.cell? ⟨b,o,none⟩ :=
 fG (a:=⟨b,o,none⟩) (blk_setCell_other _ _ _ _ (fun e=>h e.symm))
theorem nH {w w':World} {o:Obj} {row:Option Nat} (h:(w.alloc o).drew.grownBy w' row):w.grownBy w' row :=
 jE (o:=o) ⟨h.os,h.tape,h.output,h.size,h.block⟩
section
variable {P:Program} {ops:Array Oper} {o:Oper} {a:Act} {w:World} {K:Act->World->Prop} {Q:Exit->Act->World->Prop} {E:Prop}
theorem gN (hgd:o.guard=none) (s x:Operand) (t:TypeId) (ho:o.op=.call { callee:=.builtin .append,args:=#[s,x],argTypes:=#[t,t] })
  (base:Nat) (e:TypeId) (z:Value) (bytes:Nat) (ht:P.underlying t=some (.slice e)) (hinfo:(P.info? e).map (fun i=>(i.zero,i.size,i.bytes))=some (some z,1,bytes))
  (hz1:z.cells.size=1) (gL:bytes<=64) {v:Value} {vs:List Value} (hs:a.eval s=v) (hown:ax base e w v vs) (u:Value) (B:Nat)
  (hx:a.eval x=.slice (some ⟨B,0,none⟩) 1 1) (hB:w.cell? ⟨B,0,none⟩=some u) (h1:u.oneCell'=true) (hn:vs.length<=1000000) (hbase:base<=w.heap.size)
  (h:∀g cap w',ax base e w' (.slice (some ⟨g,0,none⟩) (vs.length+1) cap) (vs++[u])->w.grownBy w' v.ownBlock->(v.ownBlock=some g\/g=w.heap.size)->Below base w w'->K (a.put o.dst (.slice (some ⟨g,0,none⟩) (vs.length+1) cap)) w') :
  if Region.wanted o (yielded ops a.tmps)=true then Oper.wp P o a w K Q else E:=by
 obtain ⟨i,hi,hzz⟩:=iq.1 hinfo;simp only [iM] at hzz;obtain ⟨hz,hs1,hb⟩:=hzz;refine step_append_lies w hgd s x t ho base e i z 1 bytes ht hi hz hs1 hb hz1 (by omega) v vs.length vs hs hown ⟨B,0,none⟩ 1 1 [u] hx rfl ?_ (by simpa using h1) (by omega)
  (by unfold maxLen;omega) ?_ hbase _ rfl fun g cap w' h2 h3 h4 _=>h g cap w' ?_ h3 h4 (hown.dX h3 hbase)
 ·intro j u' hj
  cases j with
  | zero=>(simp at hj;subst hj;simpa [Addr.add] using hB)
  | succ j=>simp at hj
 ·have:(vs.length+1)*bytes<=(vs.length+1)*64:=mS _ gL
  omega
 ·unfold ax;rw [bg];exact h2
end
def Z4 (t:aF) (k:Nat):aX:=⟨gs t.ns,fun i=>i,fun i=>cV t.ps i k⟩
def fU (t:aF):aX:=Z4 t t.ps.length
def Ah (w wr:World) (g0 n k:Nat) (t:aF):Prop :=
 Below g0 w wr/\∃A kv,bB (g0+1) k A kv (Z4 t k) wr/\wr.rowIs g0 119 n (fun i=>if i<k then bD A i else .pointer none)
def Nk (t:aF) (k:Nat):aX:=⟨gs t.ns,fun i=>i,upd (fun i=>cV t.ps i k) k []⟩
structure Nl (w wr:World) (g0 n k:Nat) (t:aF) (A:Nat->Nat) (kv:Nat->Value):Prop where
 up:Below g0 w wr
 fr:bB (g0+1) (k+1) A kv (Nk t k) wr
 row:wr.rowIs g0 119 n (fun i=>if i<k+1 then bD A i else .pointer none)
theorem bB.far {g0 n:Nat} {A:Nat->Nat} {kv:Nat->Value} {F:aX} {w:World} (h:bB (g0+1) n A kv F w) {i:Nat} (hi:i<n):A i≠g0/\(kv i).ownBlock≠some g0 :=
 ⟨fun e=>by have:=h.lo i hi;omega,fun e=>by have:=(h.iA hi e).1;omega⟩
theorem Ah.new {w wo:World} {g0 n k:Nat} {t:aF} (h:Ah w wo g0 n k t) :
  ∃A kv,A k=wo.heap.size/\Nl w ((wo.alloc (.cells #[.string (gs t.ns k),.slice none 0 0,.int .i64 k] 122)).setCell ⟨g0,k,none⟩ (.pointer (some ⟨wo.heap.size,0,none⟩))) g0 n k t A kv:=by
 obtain ⟨fL,A,kv,hF,hrow⟩:=h;have hg0:=hrow.lt;have hF2:=hF.AR (by omega) (gs t.ns k) k;refine ⟨upd A k wo.heap.size,upd kv k (.slice none 0 0),upd_same _ _ _,(fL.alloc (by omega) _).setCell (p:=⟨g0,k,none⟩) (ah _) _,?_,?_⟩
 ·have Kb:=hF2.congr (F':=Nk t k) fun i hi=>by
   refine ⟨?_,?_,rfl⟩
   ·by_cases e:i=k
    ·subst e;exact (upd_same _ _ _).symm
    ·exact (upd_ne _ _ e).symm
   ·by_cases e:i=k
    ·subst e;exact (upd_same _ _ _).symm
    ·exact (upd_ne _ _ e).symm
  exact Kb.same (fun i hi=>blk_setCell_other _ _ _ _ (Kb.far hi).1) fun i b hi hb=>blk_setCell_other _ _ _ _ (fun e2=>(Kb.far hi).2 (by rw [hb];exact congrArg some e2))
 ·refine ((hrow.alloc _).set k _).congr fun i hi=>?_
  by_cases e:i=k
  ·subst e;rw [if_pos rfl,if_pos (by omega)];unfold bD;rw [upd_same]
  ·rw [if_neg e]
   by_cases e2:i<k
   ·rw [if_pos e2,if_pos (by omega)];unfold bD;rw [upd_ne _ _ e]
   ·rw [if_neg e2,if_neg (by omega)]
theorem LH (ps:List Int) (k:Nat):cV ps k k=[]:=by
 unfold cV;refine List.filter_eq_nil_iff.2 fun i hi=>?_;have:=cU.1 hi;simp;omega
theorem pJ (t:aF) (k i:Nat):(Nk t k).kids i=cV t.ps i k:=by
 show upd (fun i=>cV t.ps i k) k [] i=_;by_cases e:i=k
 ·subst e;rw [upd_same,LH]
 ·rw [upd_ne _ _ e]
theorem Nl.root {w wr:World} {g0 n k:Nat} {t:aF} {A:Nat->Nat} {kv:Nat->Value} (h:Nl w wr g0 n k t A kv) (hp:gi t.ps k<0):Ah w wr g0 n (k+1) t:=by
 refine ⟨h.up,A,kv,h.fr.congr fun i hi=>⟨rfl,rfl,?_⟩,h.row⟩;rw [pJ];show cV t.ps i (k+1)=_;rw [kK,if_neg (by omega),fM]
theorem Nl.push {w wr w':World} {g0 n k p:Nat} {t:aF} {A:Nat->Nat} {kv:Nat->Value} (h:Nl w wr g0 n k t A kv) (hpk:p<k) (hp:gi t.ps k=p) {v:Value}
  (hv:ax (g0+1) 119 w' v ((cV t.ps p k).map (bD A)++[bD A k])) (hg:wr.grownBy w' (kv p).ownBlock) (hb:∀b,v.ownBlock=some b->(kv p).ownBlock=some b\/wr.heap.size<=b) :
  Ah w (w'.setCell ⟨A p,1,none⟩ v) g0 n (k+1) t:=by
 have hF:=h.fr.push (k:=p) (c:=k) (v:=v) (by omega) (by omega) (by rw [pJ,cm];exact hv) hg hb;have hlo:=h.fr.lo p (by omega);have hrl:=h.row.lt;refine ⟨?_,A,upd kv p v,hF.congr fun i hi=>⟨rfl,rfl,?_⟩,?_⟩
 ·have h1:Below (g0+1) wr w':=(h.fr.own p (by omega)).dX hg (by omega)
  exact (fc h.up (h1.mono (by omega))).setCell (p:=⟨A p,1,none⟩) (by show g0<=A p;omega) _
 ·show cV t.ps i (k+1)=upd (Nk t k).kids p ((Nk t k).kids p++[k]) i
  rw [kK,pJ];by_cases e:i=p
  ·subst e;rw [upd_same,if_pos ⟨hpk,hp⟩]
  ·rw [upd_ne _ _ e,if_neg (by omega),fM,pJ]
 ·have hne:g0≠A p:=fun e=>(h.fr.far (i:=p) (by omega)).1 e.symm
  refine (h.row.of_block ?_).setOther (a:=⟨A p,1,none⟩) hne v;exact hg.block g0 hrl (fun e=>(h.fr.far (i:=p) (by omega)).2 e.symm)
theorem bB.TX {base base' n:Nat} {A:Nat->Nat} {kv:Nat->Value} {F:aX} {w:World} (h:bB base n A kv F w) (hb:base'<=base):bB base' n A kv F w :=
 ⟨h.node,fun i hi=>aR hb (h.lo i hi),h.inj,fun i hi=>(h.own i hi).yx hb,h.apart,h.alone,h.kid⟩
def Nn (w:World) (t:aF) (e:Ending) (w':World):Prop :=
 Up w w'/\∃g A kv,e=.returned (.slice (some ⟨g,0,none⟩) t.ps.length t.ps.length)/\bB w.heap.size t.ps.length A kv (fU t) w'/\w'.rowIs g 119 t.ps.length (bD A)
theorem TY (S:Nat->Prop) (w:World) (v:Value) (t:aF) (hT:aC S w v t) (hp:t.ps.length<=1000) (hn:t.ns.length=t.ps.length) (hok:jW t.ps=true) (hz:∀k,(gs t.ns k).size<=70000) :
  Calls Tryz.prog 93 #[v] w (Nn w t):=by
 obtain ⟨P,N,rfl,hP,hN⟩:=hT;obtain ⟨pP,iR,rfl,Y6,_⟩:=aA.open hP;have hP:ay S w (.slice pP t.ps.length iR) t.ps:=hP;obtain ⟨pN,iT,rfl,Y7,_⟩:=aA.open hN;have hN:av S w (.slice pN t.ns.length iT) t.ns:=hN;have hmk:=fun W=>run_make_row' (P:=Tryz.prog) 120 119 (.pointer none) 8 Tryz.underlying120 Tryz.sQ rfl .i64 .i64 t.ps.length (by omega) (by omega) W;have hu:=Up.alloc w (.cells #[.slice pP t.ps.length iR,.slice pN t.ns.length iT] 39);have hb0:=fO w (.slice pP t.ps.length iR) (.slice pN t.ns.length iT) 39
 have hb1:=fP w (.slice pP t.ps.length iR) (.slice pN t.ns.length iT) 39;have aJ:=Up.alloc (w.alloc (.cells #[.slice pP t.ps.length iR,.slice pN t.ns.length iT] 39)) (.cells (madeCells #[.pointer none] t.ps.length) 119)
 have HW:Hid (Ah ((w.alloc (.cells #[.slice pP t.ps.length iR,.slice pN t.ns.length iT] 39)).alloc (.cells (madeCells #[.pointer none] t.ps.length) 119)) ((w.alloc (.cells #[.slice pP t.ps.length iR,.slice pN t.ns.length iT] 39)).alloc (.cells (madeCells #[.pointer none] t.ps.length) 119)) (w.heap.size+1) t.ps.length 0 t):=by refine ⟨cN _ _,fun _=>0,fun _=>.slice none 0 0,bB.empty _ _ _ _ _,?_⟩;have h:=World.rowIs_made (w.alloc (.cells #[.slice pP t.ps.length iR,.slice pN t.ns.length iT] 39)) (.pointer none) t.ps.length 119;simp only [aL] at h;exact h
 have mX:=aa (hu.trans aJ);have hsz:w.heap.size+1+1=((w.alloc (.cells #[.slice pP t.ps.length iR,.slice pN t.ns.length iT] 39)).alloc (.cells (madeCells #[.pointer none] t.ps.length) 119)).heap.size:=by simp
 have dm:=aa hsz;have jK:=aa (aJ.cell hb0);have gT:=aa (aJ.cell hb1);have HP:=aa hP;have HN:=aa hN;have VC:=aa hz;have xK:=aa hok;have iu:=aa hn;have hnl:(t.ps.length:Int)<=(t.ns.length:Int):=by omega
 clear hsz hu hb0 hb1 aJ hP hN hz hok hn
 go_enter Tryz.func93,Tryz.ntmps93
 go_wp2_with fail;generalize (w.alloc (.cells #[.slice pP t.ps.length iR,.slice pN t.ns.length iT] 39)).alloc (.cells (madeCells #[.pointer none] t.ps.length) 119)=w1 at *
 go_loopw [13] (fun i wr=>∃k:Nat,k<=t.ps.length/\i=.int .i64 k/\Hid (Ah w1 wr (w.heap.size+1) t.ps.length k t)) (fun i _=>t.ps.length - (intOf i).toNat)
 case atStart=>exact ⟨0,aI _,rfl,HW⟩
 case round =>
  obtain ⟨k,hk,rfl,hO⟩:=hrel;obtain ⟨wo,rfl⟩:∃wo:World,wo=wr:=⟨_,rfl⟩;by_cases hlt:k<t.ps.length
  ·obtain ⟨fL,A,kv,hF,hrow⟩:=hO.out
   (have hc0:wo.cell? ⟨w.heap.size,0,none⟩=some (.slice pP t.ps.length iR):=by rw [fL.cell (p:=⟨w.heap.size,0,none⟩) (qz _)];exact jK.out);(have hc1:wo.cell? ⟨w.heap.size,1,none⟩=some (.slice pN t.ns.length iT):=by rw [fL.cell (p:=⟨w.heap.size,1,none⟩) (qz _)];exact gT.out);have F6:Up w wo:=fc mX.out (fL.mono (kI _));obtain ⟨bP,oP,rfl,oC⟩:=gp (ay.keep HP.out (F6.kept S)) hlt;obtain ⟨bN,oN,rfl,rB⟩:=cA (av.keep HN.out (F6.kept S)) (k:=k) (by rw [iu.out];exact hlt);have HX:=aa hO.out.new
   (have VD:(wo.alloc (.cells #[.string (gs t.ns k),.slice none 0 0,.int .i64 k] 122)).cell? ⟨w.heap.size+1,k,none⟩=some (.pointer none):=by have h:=(hrow.alloc (.cells #[.string (gs t.ns k),.slice none 0 0,.int .i64 k] 122)).cell hlt;rw [h,if_neg (Nat.lt_irrefl k)]);have hfo:(wo.alloc (.cells #[.string (gs t.ns k),.slice none 0 0,.int .i64 k] 122)).frozen? ⟨w.heap.size+1,k,none⟩=false:=(hrow.alloc _).frozen k;clear hF hrow fL F6 hO;have h0:gi t.ps k<k/\(0<k->0<=gi t.ps k)/\(k=0->gi t.ps k = -1):=BM xK.out hlt;by_cases oB:0<=gi t.ps k
   ·obtain ⟨p,F7⟩:=tR oB
    (have hpk:p<k:=by omega);rw [F7] at oC;(have d1:decide ((0:Int)<=(p:Int))=true:=by simp);have xH:=aa F7;clear h0 oB F7;go_wp2_with fail;generalize (wo.alloc (.cells #[.string (gs t.ns k),.slice none 0 0,.int .i64 k] 122)).setCell ⟨w.heap.size+1,k,none⟩ (.pointer (some ⟨wo.heap.size,0,none⟩))=w2 at *;obtain ⟨A,kv,hAk,hX⟩:=HX.out;have hr1:w2.cell? ⟨w.heap.size+1,p,none⟩=some (.pointer (some ⟨A p,0,none⟩)):=by have h:=hX.row.cell (i:=p) (by omega);rw [if_pos (by omega)] at h;exact h
    (have hr2:w2.cell? ⟨w.heap.size+1,k,none⟩=some (.pointer (some ⟨A k,0,none⟩)):=by have h:=hX.row.cell (i:=k) hlt;rw [if_pos (by omega)] at h;exact h);(have VE:Hid (bD A k=.pointer (some ⟨wo.heap.size,0,none⟩)):=by unfold Hid bD;rw [hAk]);rw [hAk] at hr2;have hkc:=hX.fr.qV (i:=p) (by omega);have hfz:=hX.fr.thaw (i:=p) (by omega) 1;(have F8:Hid (ax (w.heap.size+1+1) 119 w2 (kv p) ((cV t.ps p k).map (bD A))):=by have h:=hX.fr.own p (by omega);rw [pJ] at h;exact h);have VF:=aa hX
    have F9:Hid (A p≠w.heap.size+1/\(kv p).ownBlock≠some (w.heap.size+1)/\(kv p).ownBlock≠some (A p)/\w.heap.size+1<w2.heap.size/\A p<w2.heap.size):=⟨(hX.fr.far (by omega)).1,(hX.fr.far (by omega)).2,hX.fr.apart p p (by omega) (by omega),hX.row.lt,hX.fr.lt (by omega)⟩;(have i0:(0:Int)<=(p:Int):=by omega);(have i1:(p:Int)<(t.ps.length:Int):=by omega);(have i2:(0:Int)<=(k:Int):=by omega);(have i3:(k:Int)<(t.ps.length:Int):=by omega);have e9:Hid (((cV t.ps p k).map (bD A)).length<=1000000):=by unfold Hid;rw [aD];have:=qD t.ps p k;omega
    have B1:Hid (∀g cap w',ax (w.heap.size+1+1) 119 w' (.slice (some ⟨g,0,none⟩) (((cV t.ps p k).map (bD A)).length+1) cap) ((cV t.ps p k).map (bD A)++[.pointer (some ⟨wo.heap.size,0,none⟩)])->w2.grownBy w' (kv p).ownBlock->((kv p).ownBlock=some g\/w2.heap.size<=g)->Ah w1 (w'.setCell ⟨A p,1,none⟩ (.slice (some ⟨g,0,none⟩) (((cV t.ps p k).map (bD A)).length+1) cap)) (w.heap.size+1) t.ps.length (k+1) t):=fun g cap w' h1 h2 h3=>hX.push hpk xH.out (by rw [VE.out];exact h1) h2 (fun b hb=>by cases hb;exact h3);clear hAk hX HX VD hfo oC rB hc0 hc1;generalize bD A=na at *
    generalize hap:A p=ap at *;generalize wo.heap.size=ak at *;generalize kv p=ov at *;generalize List.map na (cV t.ps p k)=vs at *;have Qs:Hid (ax (w.heap.size+1+1) 119 (w2.alloc (.cells #[.pointer (some ⟨ak,0,none⟩)] 119)).drew ov vs):=F8.out.alloc _;have nO:Hid ((w2.alloc (.cells #[.pointer (some ⟨ak,0,none⟩)] 119)).drew.cell? ⟨w2.heap.size,0,none⟩=some (.pointer (some ⟨ak,0,none⟩))):=aH _ _ _ 0
    have pg:Hid (w.heap.size+1+1<=(w2.alloc (.cells #[.pointer (some ⟨ak,0,none⟩)] 119)).drew.heap.size):=by have:=F9.out.2.2.2.1;show _<=(w2.alloc _).heap.size;rw [aL];omega
    have Ga:Hid (∀(w':World),(w2.alloc (.cells #[.pointer (some ⟨ak,0,none⟩)] 119)).drew.grownBy w' ov.ownBlock->w'.cell? ⟨w.heap.size+1,p,none⟩=some (.pointer (some ⟨ap,0,none⟩))/\w'.cell? ⟨w.heap.size+1,k,none⟩=some (.pointer (some ⟨ak,0,none⟩))/\w'.cell? ⟨ap,1,none⟩=some ov/\w'.frozen? ⟨ap,1,none⟩=false):=fun w' hg=>by
     obtain ⟨q1,q2,q3,q4,q5⟩:=F9.out;(have hl:∀b,b<w2.heap.size->b<(w2.alloc (.cells #[.pointer (some ⟨ak,0,none⟩)] 119)).drew.heap.size:=fun b hb=>by show b<(w2.alloc _).heap.size;rw [aL];omega);have hu:=Up.alloc w2 (.cells #[.pointer (some ⟨ak,0,none⟩)] 119);refine ⟨?_,?_,?_,?_⟩
     ·rw [hg.cell_far _ (hl _ q4) (dM q2)];exact hu.cell hr1
     ·rw [hg.cell_far _ (hl _ q4) (dM q2)];exact hu.cell hr2
     ·rw [hg.cell_far _ (hl _ q5) (dM q3)];exact hu.cell hkc
     ·rw [hg.frozen_far _ (hl _ q5) (dM q3)];exact (Below.frozen hu (p:=⟨ap,1,none⟩) q5).trans hfz
    have aah:=(Up.alloc w2 (.cells #[.pointer (some ⟨ak,0,none⟩)] 119)).cell hr1;have aai:=(Up.alloc w2 (.cells #[.pointer (some ⟨ak,0,none⟩)] 119)).cell hr2;have aaj:=(Up.alloc w2 (.cells #[.pointer (some ⟨ak,0,none⟩)] 119)).cell hkc;clear VF;refine eC (by kernel_rfl) 20 (fun w'=>w'.cell? ⟨w.heap.size+1,p,none⟩=some (.pointer (some ⟨ap,0,none⟩))/\w'.cell? ⟨w.heap.size+1,k,none⟩=some (.pointer (some ⟨ak,0,none⟩))/\w'.cell? ⟨ap,1,none⟩=some ov) ⟨hr1,hr2,hkc⟩ (fun hS=>?_)
    simp only [fo,aO,dz,Nat.reduceAdd,ic,ig,fk,cw,bz];refine af.tk 0 hS ?_;(try simp only [Act.put,aj,aq,au]);refine af.tk 1 hS ?_;(try simp only [Act.put,aj,aq,au]);refine af.tk 2 hS ?_;(try simp only [Act.put,aj,aq,au]);refine af.tk 3 hS ?_
    (try simp only [Act.put,aj,aq,au]);refine af.tk 4 hS ?_;(try simp only [Act.put,aj,aq,au]);refine af.tk 5 hS ?_;(try simp only [Act.put,aj,aq,au]);refine af.tk 6 hS ?_;(try simp only [Act.put,aj,aq,au]);refine af.tk 7 hS ?_;(try simp only [Act.put,aj,aq,au]);refine af.tk 8 hS ?_
    (try simp only [Act.put,aj,aq,au]);refine af.tk 9 hS ?_;(try simp only [Act.put,aj,aq,au]);refine af.tk 10 hS ?_;(try simp only [Act.put,aj,aq,au]);refine af.tk 11 hS ?_;(try simp only [Act.put,aj,aq,au]);refine af.tk 12 hS ?_;(try simp only [Act.put,aj,aq,au]);refine af.tk 13 hS ?_
    (try simp only [Act.put,aj,aq,au]);refine af.tk 14 hS ?_;(try simp only [Act.put,aj,aq,au]);refine af.step (i:=15) rfl (by kernel_rfl) (fun K' hK=>?_);go_simp;refine hK.out _ _ (fun _=>⟨(Up.alloc _ _).cell hr1,(Up.alloc _ _).cell hr2,(Up.alloc _ _).cell hkc⟩) (fun hS=>?_);(try simp only [aj,aq,au]);refine af.step (i:=16) rfl (by kernel_rfl) (fun K' hK=>?_)
    refine gN (by rfl) _ _ _ (by rfl) (w.heap.size+1+1) 119 _ 8 Tryz.underlying120 Tryz.sQ (by rfl) (by decide) (by rfl) Qs.out (.pointer (some ⟨ak,0,none⟩)) w2.heap.size (by rfl) nO.out (by rfl) e9.out pg.out ?_;intro g cap w4 uh hg4 yB Gc;obtain ⟨Qt,Qu,Qv,aak⟩:=Ga.out w4 hg4;have LI:=aa uh;have Np:=aa (nH hg4);have Qw:=aa yB;clear uh hg4 yB Gc;refine hK.out _ _ (fun _=>⟨Qt,Qu,Qv⟩) (fun hS=>?_);replace hS:=hS ⟨19,by decide,rfl⟩
    (try simp only [Act.put,aj,aq,au]);refine af.tk 17 hS ?_;(try simp only [Act.put,aj,aq,au]);refine af.tk 18 hS ?_;(try simp only [Act.put,aj,aq,au]);refine af.step (i:=19) rfl (by kernel_rfl) (fun K' hK=>?_);go_simp;refine hK.out _ _ (aS (by kernel_rfl)) (fun hS=>?_);refine af.done (by kernel_rfl) ?_;go_wp2_with fail
    go_roundw
    case rel =>
     refine ⟨k+1,by omega,by go_num,B1.out g cap w4 LI.out Np.out ?_⟩;rcases Qw.out with h | h
     ·exact .inl h
     ·refine .inr ?_
      rw [h];exact aR (kI _) (gQ (aL _ _).symm)
    case measure=>simp [intOf];omega
   ·have xH:Hid (gi t.ps k<0):=by unfold Hid;omega
    (have d1:decide ((0:Int)<=gi t.ps k)=false:=by simpa using oB);clear h0 oB;go_wp2_with fail
    go_roundw
    case rel =>obtain ⟨A',kv',_,hX⟩:=HX.out;exact ⟨k+1,by omega,by go_num,hX.root xH.out⟩
    case measure=>simp [intOf];omega
  ·obtain rfl:k=t.ps.length:=by omega
   go_wp2_with fail;go_ret;obtain ⟨fL,A,kv,hF,hrow⟩:=hO.out;exact ⟨fc mX.out (fL.mono (kI _)),_,A,kv,rfl,hF.TX (by omega),hrow.congr fun i hi=>by rw [if_pos hi]⟩
end Go.Proofs.YthgabkgmkolobaaGreat
