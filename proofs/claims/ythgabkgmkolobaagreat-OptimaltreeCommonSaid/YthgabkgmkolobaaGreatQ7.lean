/- The contract of phylotree.nodes. The contract of phylotree.sorted. -/
import Derived.Deep.RegionHeld3
import Derived.StillTailTactics
import Derived.Test.YthgabkgmkolobaaGreatQ6
set_option maxRecDepth 100000
set_option maxHeartbeats 4000000
namespace Go.Proofs.YthgabkgmkolobaaGreat
section
open Go.RowKit Go.Deep
theorem Tryz.BJ:(Tryz.prog.info? 119).map (fun i=>(i.zero,i.size,i.bytes))=some (some (.pointer none),1,8):=by kernel_rfl
theorem cU.congr {base n:Nat} {A:Nat->Nat} {kv:Nat->Value} {F F':ct} {w:World} (h:cU base n A kv F w) (e:∀i,i<n->F'.nm i=F.nm i/\F'.old i=F.old i/\F'.kids i=F.kids i):cU base n A kv F' w :=
 ⟨fun i hi=>by rw [(e i hi).1,(e i hi).2.1];exact h.node i hi,h.lo,h.inj,fun i hi=>by rw [(e i hi).2.2];exact h.own i hi,h.apart,h.alone,fun i hi=>by rw [(e i hi).2.2];exact h.kid i hi⟩
theorem SJ {w:World} {p:Addr} {v:Value} (h:∃u,w.cell? p=some u):(w.setCell p v).cell? p=some v:=by
 obtain ⟨u,h⟩:=h;exact World.cell?_setCell_same' _ _ _ (by rw [h];rfl)
theorem Et {w:World} {p:Addr} {v:Value} {b o:Nat} (h:p.block≠b):(w.setCell p v).cell? ⟨b,o,none⟩=w.cell? ⟨b,o,none⟩ :=
 eX (a:=⟨b,o,none⟩) (blk_setCell_other _ _ _ _ (fun e=>h e.symm))
theorem vC {w w':World} {o:Obj} {row:Option Nat} (h:(w.alloc o).drew.grownBy w' row):w.grownBy w' row :=
 nB (o:=o) ⟨h.os,h.tape,h.output,h.size,h.block⟩
section
variable {P:Program} {ops:Array Oper} {o:Oper} {a:Act} {w:World} {K:Act->World->Prop} {Q:Exit->Act->World->Prop} {E:Prop}
theorem fF (hgd:o.guard=none) (s x:Operand) (t:TypeId) (ho:o.op=.call { callee:=.builtin .append,args:=#[s,x],argTypes:=#[t,t] })
  (base:Nat) (e:TypeId) (z:Value) (bytes:Nat) (ht:P.underlying t=some (.slice e)) (hinfo:(P.info? e).map (fun i=>(i.zero,i.size,i.bytes))=some (some z,1,bytes))
  (hz1:z.cells.size=1) (qE:bytes<=64) {v:Value} {vs:List Value} (hs:a.eval s=v) (hown:ax base e w v vs) (u:Value) (B:Nat)
  (hx:a.eval x=.slice (some ⟨B,0,none⟩) 1 1) (hB:w.cell? ⟨B,0,none⟩=some u) (h1:u.oneCell'=true) (hn:vs.length<=1000000) (hbase:base<=w.heap.size)
  (h:∀g cap w',ax base e w' (.slice (some ⟨g,0,none⟩) (vs.length+1) cap) (vs++[u])->w.grownBy w' v.ownBlock->(v.ownBlock=some g\/g=w.heap.size)->Below base w w'->K (a.put o.dst (.slice (some ⟨g,0,none⟩) (vs.length+1) cap)) w') :
  if Region.wanted o (yielded ops a.tmps)=true then Oper.wp P o a w K Q else E:=by
 obtain ⟨i,hi,hzz⟩:=mh.1 hinfo;simp only [mj] at hzz;obtain ⟨hz,hs1,hb⟩:=hzz;refine step_append_lies w hgd s x t ho base e i z 1 bytes ht hi hz hs1 hb hz1 (by omega) v vs.length vs hs hown ⟨B,0,none⟩ 1 1 [u] hx rfl ?_ (by simpa using h1) (by omega)
  (by unfold maxLen;omega) ?_ hbase _ rfl fun g cap w' h2 h3 h4 _=>h g cap w' ?_ h3 h4 (hown.fE h3 hbase)
 ·intro j u' hj
  cases j with
  | zero=>(simp at hj;subst hj;simpa [Addr.add] using hB)
  | succ j=>simp at hj
 ·have:(vs.length+1)*bytes<=(vs.length+1)*64:=sW _ qE
  omega
 ·unfold ax;rw [aZ];exact h2
end
def frK (t:az) (k:Nat):ct:=⟨gs t.ns,fun i=>i,fun i=>dc t.ps i k⟩
def fJ (t:az):ct:=frK t t.ps.length
def KC (w wr:World) (g0 n k:Nat) (t:az):Prop :=
 Below g0 w wr/\∃A kv,cU (g0+1) k A kv (frK t k) wr/\wr.rowIs g0 119 n (fun i=>if i<k then cV A i else .pointer none)
def frX (t:az) (k:Nat):ct:=⟨gs t.ns,fun i=>i,upd (fun i=>dc t.ps i k) k []⟩
structure NdX (w wr:World) (g0 n k:Nat) (t:az) (A:Nat->Nat) (kv:Nat->Value):Prop where
 up:Below g0 w wr
 fr:cU (g0+1) (k+1) A kv (frX t k) wr
 row:wr.rowIs g0 119 n (fun i=>if i<k+1 then cV A i else .pointer none)
theorem cU.far {g0 n:Nat} {A:Nat->Nat} {kv:Nat->Value} {F:ct} {w:World} (h:cU (g0+1) n A kv F w) {i:Nat} (hi:i<n):A i≠g0/\(kv i).ownBlock≠some g0 :=
 ⟨fun e=>by have:=h.lo i hi;omega,fun e=>by have:=(h.ni hi e).1;omega⟩
theorem KC.new {w wo:World} {g0 n k:Nat} {t:az} (h:KC w wo g0 n k t) :
  ∃A kv,A k=wo.heap.size/\NdX w ((wo.alloc (.cells #[.string (gs t.ns k),.slice none 0 0,.int .i64 k] 122)).setCell ⟨g0,k,none⟩ (.pointer (some ⟨wo.heap.size,0,none⟩))) g0 n k t A kv:=by
 obtain ⟨fT,A,kv,hF,hrow⟩:=h;have hg0:=hrow.lt;have hF2:=hF.LF (by omega) (gs t.ns k) k;refine ⟨upd A k wo.heap.size,upd kv k (.slice none 0 0),upd_same _ _ _,(fT.alloc (by omega) _).setCell (p:=⟨g0,k,none⟩) (af _) _,?_,?_⟩
 ·have YA:=hF2.congr (F':=frX t k) fun i hi=>by
   refine ⟨?_,?_,rfl⟩
   ·by_cases e:i=k
    ·subst e;exact (upd_same _ _ _).symm
    ·exact (upd_ne _ _ e).symm
   ·by_cases e:i=k
    ·subst e;exact (upd_same _ _ _).symm
    ·exact (upd_ne _ _ e).symm
  exact YA.same (fun i hi=>blk_setCell_other _ _ _ _ (YA.far hi).1) fun i b hi hb=>blk_setCell_other _ _ _ _ (fun e2=>(YA.far hi).2 (by rw [hb];exact congrArg some e2))
 ·refine ((hrow.alloc _).set k _).congr fun i hi=>?_
  by_cases e:i=k
  ·subst e;rw [if_pos rfl,if_pos (by omega)];unfold cV;rw [upd_same]
  ·rw [if_neg e]
   by_cases e2:i<k
   ·rw [if_pos e2,if_pos (by omega)];unfold cV;rw [upd_ne _ _ e]
   ·rw [if_neg e2,if_neg (by omega)]
theorem kidsK_len0 (ps:List Int) (k:Nat):dc ps k k=[]:=by
 unfold dc;refine List.filter_eq_nil_iff.2 fun i hi=>?_;have:=bh.1 hi;simp;omega
theorem xU (t:az) (k i:Nat):(frX t k).kids i=dc t.ps i k:=by
 show upd (fun i=>dc t.ps i k) k [] i=_;by_cases e:i=k
 ·subst e;rw [upd_same,kidsK_len0]
 ·rw [upd_ne _ _ e]
theorem NdX.root {w wr:World} {g0 n k:Nat} {t:az} {A:Nat->Nat} {kv:Nat->Value} (h:NdX w wr g0 n k t A kv) (hp:gi t.ps k<0):KC w wr g0 n (k+1) t:=by
 refine ⟨h.up,A,kv,h.fr.congr fun i hi=>⟨rfl,rfl,?_⟩,h.row⟩;rw [xU];show dc t.ps i (k+1)=_;rw [ng,if_neg (by omega),gN]
theorem NdX.push {w wr w':World} {g0 n k p:Nat} {t:az} {A:Nat->Nat} {kv:Nat->Value} (h:NdX w wr g0 n k t A kv) (hpk:p<k) (hp:gi t.ps k=p) {v:Value}
  (hv:ax (g0+1) 119 w' v ((dc t.ps p k).map (cV A)++[cV A k])) (hg:wr.grownBy w' (kv p).ownBlock) (hb:∀b,v.ownBlock=some b->(kv p).ownBlock=some b\/wr.heap.size<=b) :
  KC w (w'.setCell ⟨A p,1,none⟩ v) g0 n (k+1) t:=by
 have hF:=h.fr.push (k:=p) (c:=k) (v:=v) (by omega) (by omega) (by rw [xU,cg];exact hv) hg hb;have hlo:=h.fr.lo p (by omega);have hrl:=h.row.lt;refine ⟨?_,A,upd kv p v,hF.congr fun i hi=>⟨rfl,rfl,?_⟩,?_⟩
 ·have h1:Below (g0+1) wr w':=(h.fr.own p (by omega)).fE hg (by omega)
  exact (iH h.up (h1.mono (by omega))).setCell (p:=⟨A p,1,none⟩) (by show g0<=A p;omega) _
 ·show dc t.ps i (k+1)=upd (frX t k).kids p ((frX t k).kids p++[k]) i
  rw [ng,xU];by_cases e:i=p
  ·subst e;rw [upd_same,if_pos ⟨hpk,hp⟩]
  ·rw [upd_ne _ _ e,if_neg (by omega),gN,xU]
 ·have hne:g0≠A p:=fun e=>(h.fr.far (i:=p) (by omega)).1 e.symm
  refine (h.row.of_block ?_).setOther (a:=⟨A p,1,none⟩) hne v;exact hg.block g0 hrl (fun e=>(h.fr.far (i:=p) (by omega)).2 e.symm)
theorem cU.base_le {base base' n:Nat} {A:Nat->Nat} {kv:Nat->Value} {F:ct} {w:World} (h:cU base n A kv F w) (hb:base'<=base):cU base' n A kv F w :=
 ⟨h.node,fun i hi=>aJ hb (h.lo i hi),h.inj,fun i hi=>(h.own i hi).y8 hb,h.apart,h.alone,h.kid⟩
def NodesPost (w:World) (t:az) (e:Ending) (w':World):Prop :=
 Up w w'/\∃g A kv,e=.returned (.slice (some ⟨g,0,none⟩) t.ps.length t.ps.length)/\cU w.heap.size t.ps.length A kv (fJ t) w'/\w'.rowIs g 119 t.ps.length (cV A)
theorem nodes_t (S:Nat->Prop) (w:World) (v:Value) (t:az) (hT:aI S w v t) (hp:t.ps.length<=1000) (hn:t.ns.length=t.ps.length) (hok:k8 t.ps=true) (hz:∀k,(gs t.ns k).size<=70000) :
  Calls Tryz.prog 93 #[v] w (NodesPost w t):=by
 obtain ⟨P,N,rfl,hP,hN⟩:=hT;obtain ⟨pP,nZ,rfl,hcapP,_⟩:=ay.open hP;have hP:ah S w (.slice pP t.ps.length nZ) t.ps:=hP;obtain ⟨pN,od,rfl,hcapN,_⟩:=ay.open hN;have hN:au S w (.slice pN t.ns.length od) t.ns:=hN;have hmk:=fun W=>run_make_row' (P:=Tryz.prog) 120 119 (.pointer none) 8 Tryz.underlying120 Tryz.BJ rfl .i64 .i64 t.ps.length (by omega) (by omega) W;have hu:=Up.alloc w (.cells #[.slice pP t.ps.length nZ,.slice pN t.ns.length od] 39);have hb0:=iU w (.slice pP t.ps.length nZ) (.slice pN t.ns.length od) 39
 have hb1:=iV w (.slice pP t.ps.length nZ) (.slice pN t.ns.length od) 39;have aK:=Up.alloc (w.alloc (.cells #[.slice pP t.ps.length nZ,.slice pN t.ns.length od] 39)) (.cells (madeCells #[.pointer none] t.ps.length) 119)
 have HW:Hid (KC ((w.alloc (.cells #[.slice pP t.ps.length nZ,.slice pN t.ns.length od] 39)).alloc (.cells (madeCells #[.pointer none] t.ps.length) 119)) ((w.alloc (.cells #[.slice pP t.ps.length nZ,.slice pN t.ns.length od] 39)).alloc (.cells (madeCells #[.pointer none] t.ps.length) 119)) (w.heap.size+1) t.ps.length 0 t):=by refine ⟨dM _ _,fun _=>0,fun _=>.slice none 0 0,cU.empty _ _ _ _ _,?_⟩;have h:=Bo (w.alloc (.cells #[.slice pP t.ps.length nZ,.slice pN t.ns.length od] 39)) (.pointer none) t.ps.length 119;simp only [aQ] at h;exact h
 have jw:=aa (hu.trans aK);have hsz:w.heap.size+1+1=((w.alloc (.cells #[.slice pP t.ps.length nZ,.slice pN t.ns.length od] 39)).alloc (.cells (madeCells #[.pointer none] t.ps.length) 119)).heap.size:=by simp
 have fA:=aa hsz;have mX:=aa (aK.cell hb0);have lK:=aa (aK.cell hb1);have HP:=aa hP;have HN:=aa hN;have Qr:=aa hz;have xK:=aa hok;have gI:=aa hn;have hnl:(t.ps.length:Int)<=(t.ns.length:Int):=by omega
 clear hsz hu hb0 hb1 aK hP hN hz hok hn
 go_enter Tryz.func93,Tryz.ntmps93
 go_wp2_with fail;generalize (w.alloc (.cells #[.slice pP t.ps.length nZ,.slice pN t.ns.length od] 39)).alloc (.cells (madeCells #[.pointer none] t.ps.length) 119)=w1 at *
 go_loopw [13] (fun i wr=>∃k:Nat,k<=t.ps.length/\i=.int .i64 k/\Hid (KC w1 wr (w.heap.size+1) t.ps.length k t)) (fun i _=>t.ps.length - (intOf i).toNat)
 case atStart=>exact ⟨0,aL _,rfl,HW⟩
 case round =>
  obtain ⟨k,hk,rfl,hO⟩:=hrel;obtain ⟨wo,rfl⟩:∃wo:World,wo=wr:=⟨_,rfl⟩;by_cases hlt:k<t.ps.length
  ·obtain ⟨fT,A,kv,hF,hrow⟩:=hO.out
   (have hc0:wo.cell? ⟨w.heap.size,0,none⟩=some (.slice pP t.ps.length nZ):=by rw [fT.cell (p:=⟨w.heap.size,0,none⟩) (pI _)];exact mX.out);(have hc1:wo.cell? ⟨w.heap.size,1,none⟩=some (.slice pN t.ns.length od):=by rw [fT.cell (p:=⟨w.heap.size,1,none⟩) (pI _)];exact lK.out);have TC:Up w wo:=iH jw.out (fT.mono (lz _));obtain ⟨bP,oP,rfl,sI⟩:=dG (ah.keep HP.out (TC.kept S)) hlt;obtain ⟨bN,oN,rfl,uL⟩:=dr (au.keep HN.out (TC.kept S)) (k:=k) (by rw [gI.out];exact hlt);have HX:=aa hO.out.new
   (have YB:(wo.alloc (.cells #[.string (gs t.ns k),.slice none 0 0,.int .i64 k] 122)).cell? ⟨w.heap.size+1,k,none⟩=some (.pointer none):=by have h:=(hrow.alloc (.cells #[.string (gs t.ns k),.slice none 0 0,.int .i64 k] 122)).cell hlt;rw [h,if_neg (mU k)]);have hfo:(wo.alloc (.cells #[.string (gs t.ns k),.slice none 0 0,.int .i64 k] 122)).frozen? ⟨w.heap.size+1,k,none⟩=false:=(hrow.alloc _).frozen k;clear hF hrow fT TC hO;have h0:gi t.ps k<k/\(0<k->0<=gi t.ps k)/\(k=0->gi t.ps k = -1):=uJ xK.out hlt;by_cases jW:0<=gi t.ps k
   ·obtain ⟨p,KD⟩:=pE jW
    (have hpk:p<k:=by omega);rw [KD] at sI;(have d1:decide ((0:Int)<=(p:Int))=true:=by simp);have GJ:=aa KD;clear h0 jW KD;go_wp2_with fail;generalize (wo.alloc (.cells #[.string (gs t.ns k),.slice none 0 0,.int .i64 k] 122)).setCell ⟨w.heap.size+1,k,none⟩ (.pointer (some ⟨wo.heap.size,0,none⟩))=w2 at *;obtain ⟨A,kv,hAk,hX⟩:=HX.out;have hr1:w2.cell? ⟨w.heap.size+1,p,none⟩=some (.pointer (some ⟨A p,0,none⟩)):=by have h:=hX.row.cell (i:=p) (by omega);rw [if_pos (by omega)] at h;exact h
    (have hr2:w2.cell? ⟨w.heap.size+1,k,none⟩=some (.pointer (some ⟨A k,0,none⟩)):=by have h:=hX.row.cell (i:=k) hlt;rw [if_pos (by omega)] at h;exact h);(have HNK:Hid (cV A k=.pointer (some ⟨wo.heap.size,0,none⟩)):=by unfold Hid cV;rw [hAk]);rw [hAk] at hr2;have hkc:=hX.fr.zB (i:=p) (by omega);have hfz:=hX.fr.thaw (i:=p) (by omega) 1;(have FH:Hid (ax (w.heap.size+1+1) 119 w2 (kv p) ((dc t.ps p k).map (cV A))):=by have h:=hX.fr.own p (by omega);rw [xU] at h;exact h);have Nn:=aa hX
    have TD:Hid (A p≠w.heap.size+1/\(kv p).ownBlock≠some (w.heap.size+1)/\(kv p).ownBlock≠some (A p)/\w.heap.size+1<w2.heap.size/\A p<w2.heap.size):=⟨(hX.fr.far (by omega)).1,(hX.fr.far (by omega)).2,hX.fr.apart p p (by omega) (by omega),hX.row.lt,hX.fr.lt (by omega)⟩;(have i0:(0:Int)<=(p:Int):=by omega);(have i1:(p:Int)<(t.ps.length:Int):=by omega);(have i2:(0:Int)<=(k:Int):=by omega);(have i3:(k:Int)<(t.ps.length:Int):=by omega);have kK:Hid (((dc t.ps p k).map (cV A)).length<=1000000):=by unfold Hid;rw [aG];have:=vS t.ps p k;omega
    have Np:Hid (∀g cap w',ax (w.heap.size+1+1) 119 w' (.slice (some ⟨g,0,none⟩) (((dc t.ps p k).map (cV A)).length+1) cap) ((dc t.ps p k).map (cV A)++[.pointer (some ⟨wo.heap.size,0,none⟩)])->w2.grownBy w' (kv p).ownBlock->((kv p).ownBlock=some g\/w2.heap.size<=g)->KC w1 (w'.setCell ⟨A p,1,none⟩ (.slice (some ⟨g,0,none⟩) (((dc t.ps p k).map (cV A)).length+1) cap)) (w.heap.size+1) t.ps.length (k+1) t):=fun g cap w' h1 h2 h3=>hX.push hpk GJ.out (by rw [HNK.out];exact h1) h2 (fun b hb=>by cases hb;exact h3);clear hAk hX HX YB hfo sI uL hc0 hc1;generalize cV A=na at *
    generalize hap:A p=ap at *;generalize wo.heap.size=ak at *;generalize kv p=ov at *;generalize List.map na (dc t.ps p k)=vs at *;have HOW2:Hid (ax (w.heap.size+1+1) 119 (w2.alloc (.cells #[.pointer (some ⟨ak,0,none⟩)] 119)).drew ov vs):=FH.out.alloc _;have nV:Hid ((w2.alloc (.cells #[.pointer (some ⟨ak,0,none⟩)] 119)).drew.cell? ⟨w2.heap.size,0,none⟩=some (.pointer (some ⟨ak,0,none⟩))):=aS _ _ _ 0
    have vW:Hid (w.heap.size+1+1<=(w2.alloc (.cells #[.pointer (some ⟨ak,0,none⟩)] 119)).drew.heap.size):=by have:=TD.out.2.2.2.1;show _<=(w2.alloc _).heap.size;rw [aQ];omega
    have TE:Hid (∀(w':World),(w2.alloc (.cells #[.pointer (some ⟨ak,0,none⟩)] 119)).drew.grownBy w' ov.ownBlock->w'.cell? ⟨w.heap.size+1,p,none⟩=some (.pointer (some ⟨ap,0,none⟩))/\w'.cell? ⟨w.heap.size+1,k,none⟩=some (.pointer (some ⟨ak,0,none⟩))/\w'.cell? ⟨ap,1,none⟩=some ov/\w'.frozen? ⟨ap,1,none⟩=false):=fun w' hg=>by
     obtain ⟨q1,q2,q3,q4,q5⟩:=TD.out;(have hl:∀b,b<w2.heap.size->b<(w2.alloc (.cells #[.pointer (some ⟨ak,0,none⟩)] 119)).drew.heap.size:=fun b hb=>by show b<(w2.alloc _).heap.size;rw [aQ];omega);have hu:=Up.alloc w2 (.cells #[.pointer (some ⟨ak,0,none⟩)] 119);refine ⟨?_,?_,?_,?_⟩
     ·rw [hg.cell_far _ (hl _ q4) (gj q2)];exact hu.cell hr1
     ·rw [hg.cell_far _ (hl _ q4) (gj q2)];exact hu.cell hr2
     ·rw [hg.cell_far _ (hl _ q5) (gj q3)];exact hu.cell hkc
     ·rw [hg.frozen_far _ (hl _ q5) (gj q3)];exact (Below.frozen hu (p:=⟨ap,1,none⟩) q5).trans hfz
    have hr1a:=(Up.alloc w2 (.cells #[.pointer (some ⟨ak,0,none⟩)] 119)).cell hr1;have hr2a:=(Up.alloc w2 (.cells #[.pointer (some ⟨ak,0,none⟩)] 119)).cell hr2;have hkca:=(Up.alloc w2 (.cells #[.pointer (some ⟨ak,0,none⟩)] 119)).cell hkc;clear Nn;refine gQ (by kernel_rfl) 20 (fun w'=>w'.cell? ⟨w.heap.size+1,p,none⟩=some (.pointer (some ⟨ap,0,none⟩))/\w'.cell? ⟨w.heap.size+1,k,none⟩=some (.pointer (some ⟨ak,0,none⟩))/\w'.cell? ⟨ap,1,none⟩=some ov) ⟨hr1,hr2,hkc⟩ (fun hS=>?_)
    simp only [eW,aT,dO,Nat.reduceAdd,ji,jk,eV,cH,cr];refine aj.tk 0 hS ?_;(try simp only [Act.put,aA,aB,aC]);refine aj.tk 1 hS ?_;(try simp only [Act.put,aA,aB,aC]);refine aj.tk 2 hS ?_;(try simp only [Act.put,aA,aB,aC]);refine aj.tk 3 hS ?_
    (try simp only [Act.put,aA,aB,aC]);refine aj.tk 4 hS ?_;(try simp only [Act.put,aA,aB,aC]);refine aj.tk 5 hS ?_;(try simp only [Act.put,aA,aB,aC]);refine aj.tk 6 hS ?_;(try simp only [Act.put,aA,aB,aC]);refine aj.tk 7 hS ?_;(try simp only [Act.put,aA,aB,aC]);refine aj.tk 8 hS ?_
    (try simp only [Act.put,aA,aB,aC]);refine aj.tk 9 hS ?_;(try simp only [Act.put,aA,aB,aC]);refine aj.tk 10 hS ?_;(try simp only [Act.put,aA,aB,aC]);refine aj.tk 11 hS ?_;(try simp only [Act.put,aA,aB,aC]);refine aj.tk 12 hS ?_;(try simp only [Act.put,aA,aB,aC]);refine aj.tk 13 hS ?_
    (try simp only [Act.put,aA,aB,aC]);refine aj.tk 14 hS ?_;(try simp only [Act.put,aA,aB,aC]);refine aj.step (i:=15) rfl (by kernel_rfl) (fun K' hK=>?_);go_simp;refine hK.out _ _ (fun _=>⟨(Up.alloc _ _).cell hr1,(Up.alloc _ _).cell hr2,(Up.alloc _ _).cell hkc⟩) (fun hS=>?_);(try simp only [aA,aB,aC]);refine aj.step (i:=16) rfl (by kernel_rfl) (fun K' hK=>?_)
    refine fF (by rfl) _ _ _ (by rfl) (w.heap.size+1+1) 119 _ 8 Tryz.underlying120 Tryz.BJ (by rfl) (by decide) (by rfl) HOW2.out (.pointer (some ⟨ak,0,none⟩)) w2.heap.size (by rfl) nV.out (by rfl) kK.out vW.out ?_;intro g cap w4 wW hg4 Ig TF;obtain ⟨hr1b,hr2b,hkcb,hfz4⟩:=TE.out w4 hg4;have HOWN4:=aa wW;have Nq:=aa (vC hg4);have HOR4:=aa Ig;clear wW hg4 Ig TF;refine hK.out _ _ (fun _=>⟨hr1b,hr2b,hkcb⟩) (fun hS=>?_);replace hS:=hS ⟨19,by decide,rfl⟩
    (try simp only [Act.put,aA,aB,aC]);refine aj.tk 17 hS ?_;(try simp only [Act.put,aA,aB,aC]);refine aj.tk 18 hS ?_;(try simp only [Act.put,aA,aB,aC]);refine aj.step (i:=19) rfl (by kernel_rfl) (fun K' hK=>?_);go_simp;refine hK.out _ _ (aO (by kernel_rfl)) (fun hS=>?_);refine aj.done (by kernel_rfl) ?_;go_wp2_with fail
    go_roundw
    case rel =>
     refine ⟨k+1,by omega,by go_num,Np.out g cap w4 HOWN4.out Nq.out ?_⟩;rcases HOR4.out with h | h
     ·exact .inl h
     ·refine .inr ?_
      rw [h];exact aJ (lz _) (fB (aQ _ _).symm)
    case measure=>simp [intOf];omega
   ·have GJ:Hid (gi t.ps k<0):=by unfold Hid;omega
    (have d1:decide ((0:Int)<=gi t.ps k)=false:=by simpa using jW);clear h0 jW;go_wp2_with fail
    go_roundw
    case rel =>obtain ⟨A',kv',_,hX⟩:=HX.out;exact ⟨k+1,by omega,by go_num,hX.root GJ.out⟩
    case measure=>simp [intOf];omega
  ·obtain rfl:k=t.ps.length:=by omega
   go_wp2_with fail;go_ret;obtain ⟨fT,A,kv,hF,hrow⟩:=hO.out;exact ⟨iH jw.out (fT.mono (lz _)),_,A,kv,rfl,hF.base_le (by omega),hrow.congr fun i hi=>by rw [if_pos hi]⟩
theorem run_makeMap {P:Program} (T:TypeId) (w:World):(Instr.makeMap T none).run P w=.ok (.map (some w.heap.size)) (w.alloc (.map #[] 0)):=by
 rfl
structure LH (F:ct) (n:Nat) (rk:Nat->Nat):Prop where
 wf:Wf F n rk
 sep:∀i,i<n->Sep (lM F rk) (F.kids i)
 nodup:∀i,i<n->(F.kids i).Nodup
 len:∀i,i<n->(F.kids i).length<=1000
theorem vX {F:ct} {n:Nat} {rk:Nat->Nat} (h:Wf F n rk):∀ {d i j:Nat},i<n->zC F d i j=true->rk j<=rk i:=by
 intro d
 induction d with
 | zero=>intro i j _ hs;simp [zC] at hs;subst hs;exact af _
 | succ d ih =>
  intro i j hi hs;simp only [zC,Ah,beq_iff_eq,eO] at hs;rcases hs with rfl | ⟨k,hk,h1⟩
  ·exact af _
  ·have:=h.kid i hi k hk
   have:=ih this.1 h1;omega
theorem subF_not {F:ct} {n:Nat} {rk:Nat->Nat} (h:Wf F n rk) {i k:Nat} (hi:i<n) (hk:k∈F.kids i):ep F rk k i=false:=by
 cases hs:ep F rk k i with
 | false=>rfl
 | true =>
  have h1:=h.kid i hi k hk;have:=vX h h1.1 hs;omega
def SdPost (n base:Nat) (A:Nat->Nat) (kv:Nat->Value) (F:ct) (rk:Nat->Nat) (p:Nat->Bool) (i:Nat) (w:World) (e:Ending) (w':World):Prop :=
 e=.returned (.string (lM F rk i))/\cU base n A kv (F.oO rk fun j=>p j || ep F rk i j) w'/\sL n A kv w w'
def pK (F:ct) (rk:Nat->Nat) (p:Nat->Bool) (L:List Nat) (k j:Nat):Bool:=p j || (L.take k).any fun c=>ep F rk c j
def mK (F:ct) (rk:Nat->Nat) (A:Nat->Nat) (L:List Nat) (k:Nat):List (Option Nat×Value):=(L.take k).map fun j=>(some (A j),.string (lM F rk j))
structure YC (n base:Nat) (A:Nat->Nat) (kv:Nat->Value) (F:ct) (rk:Nat->Nat) (p:Nat->Bool) (L:List Nat) (w wr:World) (m0 bx k:Nat):Prop where
 fr:cU base n A kv (F.oO rk (pK F rk p L k)) wr
 map:qH wr m0 (mK F rk A L k)
 box:wr.cell? ⟨bx,0,none⟩=some (.map (some m0))
 up:sL n A kv w wr
theorem pK_succ (F:ct) (rk:Nat->Nat) (p:Nat->Bool) (L:List Nat) {k c:Nat} (hc:L[k]? = some c) (j:Nat):pK F rk p L (k+1) j=(pK F rk p L k j || ep F rk c j):=by
 unfold pK;rw [List.take_add_one,hc];simp [Bool.or_assoc]
theorem mK_succ (F:ct) (rk:Nat->Nat) (A:Nat->Nat) (L:List Nat) {k c:Nat} (hc:L[k]? = some c):mK F rk A L (k+1)=mK F rk A L k++[(some (A c),.string (lM F rk c))]:=by
 unfold mK;rw [List.take_add_one,hc];simp
theorem cU.Qs {base n:Nat} {A:Nat->Nat} {kv:Nat->Value} {F:ct} {rk:Nat->Nat} {p q:Nat->Bool} {w:World} (h:cU base n A kv (F.oO rk p) w) (e:∀j,j<n->q j=p j):cU base n A kv (F.oO rk q) w :=
 h.congr fun j hj=>⟨rfl,rfl,by show (if q j then _ else _)=(if p j then _ else _);rw [e j hj]⟩
theorem Qt {F:ct} {rk:Nat->Nat} {A:Nat->Nat} {n:Nat} (hinj:∀i j,i<n->j<n->A i=A j->i=j):∀ {l:List Nat} {c:Nat},(∀j∈l,j<n)->c<n->c∈l->(l.map fun j=>(some (A j),Value.string (lM F rk j))).lookup (some (A c))=some (.string (lM F rk c)):=by
 intro l
 induction l with
 | nil=>intro c _ _ h;cases h
 | cons x l ih =>
  intro c hl hc h;rw [cK,eC];by_cases e:x=c
  ·subst e;simp
  ·have hne:(some (A c)==some (A x))=false:=by
    simp only [beq_eq_false_iff_ne,ne_eq,Eh]
    exact fun e2=>e (hinj x c (hl x (by simp)) hc e2.symm)
   rw [hne]
   exact ih (fun j hj=>hl j (by simp [hj])) hc (by rcases aW.1 h with h | h;exact absurd h.symm e;exact h)
theorem XI {F:ct} {rk:Nat->Nat} {A:Nat->Nat} {n:Nat} (hinj:∀i j,i<n->j<n->A i=A j->i=j):∀ {l:List Nat} {c:Nat},(∀j∈l,j<n)->c<n->c∉l->(l.map fun j=>(some (A j),Value.string (lM F rk j))).lookup (some (A c))=none:=by
 intro l
 induction l with
 | nil=>intro c _ _ _;rfl
 | cons x l ih =>
  intro c hl hc h;rw [cK,eC];have hne:(some (A c)==some (A x))=false:=by simp only [beq_eq_false_iff_ne,ne_eq,Eh];exact fun e2=>h (by rw [hinj c x hc (hl x (by simp)) e2];simp)
  rw [hne];exact ih (fun j hj=>hl j (by simp [hj])) hc (fun h2=>h (by simp [h2]))
theorem sL.cell {n base:Nat} {A:Nat->Nat} {kv:Nat->Value} {F:ct} {w a b:World} (h:sL n A kv a b) (hF:cU base n A kv F w) {p:Addr} {v:Value} (hp:w.heap.size<=p.block) (hc:a.cell? p=some v):b.cell? p=some v:=by
 have hl:p.block<a.heap.size:=eG a _ hc;rw [eX (a:=p) (h.block p.block hl (fun i hi e=>by have:=hF.lt hi;omega) (fun i hi e=>by have:=(hF.ni hi e).2;omega))];exact hc
theorem sL.pmap {n base:Nat} {A:Nat->Nat} {kv:Nat->Value} {F:ct} {w a b:World} (h:sL n A kv a b) (hF:cU base n A kv F w) {m:Nat} {l:List (Option Nat×Value)} (hp:w.heap.size<=m) (hc:qH a m l):qH b m l :=
 hc.of_block (h.block m hc.lt (fun i hi e=>by have:=hF.lt hi;omega) (fun i hi e=>by have:=(hF.ni hi e).2;omega))
theorem cU.SZ {base n:Nat} {A:Nat->Nat} {kv:Nat->Value} {F:ct} {w:World} (h:cU base n A kv F w) {i g cap m j c:Nat} (hi:i<n) (hv:kv i=.slice (some ⟨g,0,none⟩) m cap) (hj:(F.kids i)[j]? = some c):w.cell? ⟨g,j,none⟩=some (.pointer (some ⟨A c,0,none⟩)):=by
 have hown:=h.own i hi;rw [hv] at hown;obtain ⟨q,c',e,_,H⟩:=hown.vz.open;injection e with e1;subst e1;have hl:j<(F.kids i).length:=(pF.1 hj).1;obtain ⟨b,off,e,hc⟩:=H j (by simpa using hl);injection e with e;injection e with e1 e2;subst e1;subst e2;rw [mg] at hc;rw [hc];simp [List.getD_eq_getElem?_getD,hj,cV]
theorem pK_own {F:ct} {n:Nat} {rk:Nat->Nat} (h:Wf F n rk) {p:Nat->Bool} {i:Nat} {L:List Nat} (hi:i<n) (hL:∀c∈L,c∈F.kids i) (k:Nat):pK F rk p L k i=p i:=by
 unfold pK;have:((L.take k).any fun c=>ep F rk c i)=false:=by rw [List.any_eq_false];intro c hc;rw [subF_not h hi (hL c (CP hc))];simp
 rw [this,Bool.or_false]
theorem xV {n:Nat} {F:ct} {rk:Nat->Nat} {p:Nat->Bool} {L:List Nat} {i:Nat} (hS:Wf F n rk) (hi:i<n) (hL:L=(F.oO rk p).kids i) (k:Nat):(F.oO rk (pK F rk p L k)).kids i=L:=by
 have hm:∀c∈L,c∈F.kids i:=fun c hc=>by rw [hL] at hc;exact (F.nY rk p i).mem_iff.1 hc
 show (if pK F rk p L k i then _ else _)=L;rw [pK_own hS hi hm,hL];rfl
theorem cU.drew {base n:Nat} {A:Nat->Nat} {kv:Nat->Value} {F:ct} {w:World} (h:cU base n A kv F w):cU base n A kv F w.drew:=h.same (fun _ _=>rfl) (fun _ _ _ _=>rfl)
theorem sL.of_drew {n:Nat} {A:Nat->Nat} {kv:Nat->Value} {a b:World} (h:sL n A kv a.drew b):sL n A kv a b:=⟨h.os,h.tape,h.output,h.size,h.block⟩
theorem YC.step {n base:Nat} {A:Nat->Nat} {kv:Nat->Value} {F:ct} {rk:Nat->Nat} {p:Nat->Bool} {L:List Nat} {w wo w2:World} {bx k c:Nat} (h:YC n base A kv F rk p L w wo w.heap.size bx k) (hF:cU base n A kv (F.oO rk p) w) (iT:w.heap.size<bx)
  (hc:L[k]? = some c) (jt:c<n) (Ih:∀j∈L,j<n) (fe:L.Nodup) (h2:cU base n A kv (F.oO rk fun j=>pK F rk p L k j || ep F rk c j) w2) (hu:sL n A kv wo w2) :
  w2.cell? ⟨bx,0,none⟩=some (.map (some w.heap.size))/\∃w3,(Instr.mapUpdate 245 (.map (some w.heap.size)) (.pointer (some ⟨A c,0,none⟩)) (.string (lM F rk c))).run Tryz.prog w2=.ok () w3/\YC n base A kv F rk p L w w3 w.heap.size bx (k+1):=by
 have jF:=hu.cell hF (p:=⟨bx,0,none⟩) (Nat.le_of_lt iT) h.box;have hmap:=hu.pmap hF (af _) h.map;have hkeys:∀z∈mK F rk A L k,lW w2 z.1:=fun z hz=>by obtain ⟨j,hj,rfl⟩:=cm.1 hz;exact h2.plain (Ih j (CP hj))
 have hno:c∉L.take k:=fun hm=>by
  obtain ⟨j,hj,e⟩:=vk hm;rw [List.getElem_take] at e;have hjk:j<k:=by rw [gV] at hj;omega
  have gz:=(pF.1 hc);obtain ⟨gz,e2⟩:=gz;have:=(List.getElem_inj fe).1 (e.trans e2.symm);omega
 obtain ⟨w3,hr,hm3,hs3,Ie,ht3,hou3,hb3⟩:=TB (P:=Tryz.prog) Tryz.underlying245 Tryz.underlying119 Tryz.BF hmap (k:=some (A c)) (.string (lM F rk c)) (h2.plain jt) hkeys (XI hF.inj (fun j hj=>Ih j (CP hj)) jt hno);refine ⟨jF,w3,hr,?_,?_,?_,?_⟩
 ·have h3:cU base n A kv (F.oO rk fun j=>pK F rk p L k j || ep F rk c j) w3:=h2.same (fun j hj=>hb3 _ (by have:=hF.lt hj;omega)) (fun j b hj hb=>hb3 _ (by have:=(hF.ni hj hb).2;omega))
  exact h3.Qs fun j _=>pK_succ F rk p L hc j
 ·rw [mK_succ F rk A L hc];exact hm3
 ·rw [eX (a:=⟨bx,0,none⟩) (hb3 bx (by omega))];exact jF
 ·have hk:=h.up.trans hu
  exact ⟨Ie.trans hk.os,ht3.trans hk.tape,hou3.trans hk.output,aJ hk.size (fB hs3.symm),fun b hb h4 h5=>(hb3 b (by omega)).trans (hk.block b hb h4 h5)⟩
theorem GM {n base:Nat} {A:Nat->Nat} {kv:Nat->Value} {F:ct} {rk:Nat->Nat} (hS:LH F n rk) {i:Nat} {p:Nat->Bool} {w:World} (hi:i<n) (hF:cU base n A kv (F.oO rk p) w) (h0:F.kids i=[]) :
  Calls Tryz.prog 184 #[.pointer (some ⟨A i,0,none⟩)] w (SdPost n base A kv F rk p i w):=by
 have qB:=F.nY rk p i;have hL:(F.oO rk p).kids i=[]:=List.perm_nil.1 (by rw [h0] at qB;exact qB);have hown:=hF.own i hi;rw [hL] at hown;obtain ⟨q,cap,hv,_⟩:=hown.form (n:=0) rfl;have hkc:=hF.zB hi;have hnc:w.cell? ⟨A i,0,none⟩=some (.string (F.nm i)):=hF.name hi;rw [hv] at hkc;have HL:Hid (lM F rk i=F.nm i):=by unfold Hid;rw [BD hS.wf hi,h0];simp [fV]
 have sK:Hid (cU base n A kv (F.oO rk fun j=>p j || ep F rk i j) w):=hF.congr fun j hj=>by
  refine ⟨rfl,rfl,?_⟩;by_cases e:j=i
  ·subst e;rw [hL];show (if _ then _ else _)=_;rw [h0];split<;>simp [fV]
  ·show (if _ then _ else _)=(if _ then _ else _)
   (have:ep F rk i j=false:=by rw [nN hS.wf hi,h0];simpa using e);simp only [this,Bool.or_false]
 clear hF hS qB hL hown hv h0;generalize hap:A i=ai at *;generalize F.nm i=nm at *;clear hap
 go_enter Tryz.func184,Tryz.ntmps184
 go_wp2_with fail;go_ret;exact ⟨by rw [HL.out];rfl,sK.out,sL.refl _ _ _ _⟩
theorem sorted_t {n base:Nat} {A:Nat->Nat} {kv:Nat->Value} {F:ct} {rk:Nat->Nat} (hS:LH F n rk):∀(d i:Nat) (p:Nat->Bool) (w:World),i<n->rk i<=d->cU base n A kv (F.oO rk p) w ->
  Calls Tryz.prog 184 #[.pointer (some ⟨A i,0,none⟩)] w (SdPost n base A kv F rk p i w):=by
 intro d
 induction d with
 | zero =>
  intro i p w hi Kz hF;refine GM hS hi hF ?_;cases hk:F.kids i with
  | nil=>rfl
  | cons k l=>have:=(hS.wf.kid i hi k (by rw [hk];simp)).2;omega
 | succ d ih =>
  intro i p w hi Kz hF;by_cases h0:F.kids i=[]
  ·exact GM hS hi hF h0
  ·obtain ⟨L,Eu⟩:∃L,L=(F.oO rk p).kids i:=⟨_,rfl⟩
   (have qB:L.Perm (F.kids i):=by rw [Eu];exact F.nY rk p i);have hlen:L.length=(F.kids i).length:=qB.length_eq;have kI:=hS.len i hi;(have Qu:0<L.length:=by rw [hlen];exact Ak.2 h0);have hown:=hF.own i hi;rw [<- Eu] at hown;obtain ⟨q,cap,hv,hq⟩:=hown.form (n:=L.length) (by simp);obtain ⟨g,rfl⟩:∃g,q=some ⟨g,0,none⟩:=by
    rcases hq with rfl | h
    ·obtain ⟨_,h | ⟨g,_,_,h,_⟩⟩:=hown
     ·have:=h.2;rw [aG] at this;omega
     ·rw [hv] at h;cases h
    ·exact h
   have hkc:=hF.zB hi;rw [hv] at hkc;have hsz:=hF.lt hi;have Ih:∀c∈L,c<n/\rk c<rk i:=fun c hc=>hS.wf.kid i hi c (qB.mem_iff.1 hc);have HW:Hid (YC n base A kv F rk p L w ((w.alloc (.map #[] 0)).alloc (.cells #[.map (some w.heap.size)] 245)) w.heap.size (w.heap.size+1) 0):=by
    have hu:Up w ((w.alloc (.map #[] 0)).alloc (.cells #[.map (some w.heap.size)] 245)):=(Up.alloc _ _).trans (Up.alloc _ _);refine ⟨(hF.up hu).Qs fun j _=>by simp [pK],⟨#[],0,?_,rfl⟩,?_,sL.JY hu⟩
    ·rw [blk_alloc_lt _ _ _ (by simp)];exact blk_alloc_new _ _
    ·have h:=aS (w.alloc (.map #[] 0)) #[.map (some w.heap.size)] 245 0
     rw [aQ] at h;exact h
   have gI:=aa Ih;have KE:=aa qB;have HLEN:=aa hlen;have HF:=aa hF;have HV:=aa hv;have Qv:=aa hkc;have gG:=aa Eu;have qu:=aa ih;have HS:=aa hS;(have hl2:L.length<=1000:=by omega);have hmm:=run_makeMap (P:=Tryz.prog) 245 w;have d1:((L.length:Int)==0)=false:=beq_eq_false_iff_ne.2 (by omega);clear hown hq hS ih hF Ih qB hlen hv h0 Eu kI
   go_enter Tryz.func184,Tryz.ntmps184
   go_wp2_with fail;generalize (w.alloc (.map #[] 0)).alloc (.cells #[.map (some w.heap.size)] 245)=w1 at *
   go_loopw [22] (fun i wr=>∃k:Nat,k<=L.length/\i=.int .i64 k/\Hid (YC n base A kv F rk p L w wr w.heap.size (w.heap.size+1) k)) (fun i _=>L.length - (intOf i).toNat)
   case atStart=>exact ⟨0,aL _,rfl,HW⟩
   case round =>
    obtain ⟨k,hk,rfl,hO⟩:=hrel;obtain ⟨wo,rfl⟩:∃wo:World,wo=wr:=⟨_,rfl⟩;by_cases hlt:k<L.length
    ·have hc:L[k]? = some L[k]:=iQ hlt
     have jF:=hO.out.box;have jt:=gI.out L[k] (lg hlt);have hrow:=hO.out.fr.SZ (j:=k) (c:=L[k]) hi HV.out (by rw [xV HS.out.wf hi gG.out k];exact hc);have jq:=aa (qu.out L[k] (pK F rk p L k) wo.drew jt.1 (by omega) hO.out.fr.drew)
     have HSTEP:Hid (∀w2,cU base n A kv (F.oO rk fun j=>pK F rk p L k j || ep F rk L[k] j) w2->sL n A kv wo.drew w2->w2.cell? ⟨w.heap.size+1,0,none⟩=some (.map (some w.heap.size))/\∃w3,(Instr.mapUpdate 245 (.map (some w.heap.size)) (.pointer (some ⟨A L[k],0,none⟩)) (.string (lM F rk L[k]))).run Tryz.prog w2=.ok () w3/\YC n base A kv F rk p L w w3 w.heap.size (w.heap.size+1) (k+1)) :=
      fun w2 h2 hu=>hO.out.step HF.out (pI _) hc jt.1 (fun j hj=>(gI.out j hj).1) (KE.out.symm.nodup_iff.1 (HS.out.nodup i hi)) h2 hu.of_drew
     clear hc jt;generalize L[k]=c at *;go_wp2_with fail;refine gQ (by kernel_rfl) 5 (fun w'=>w'.cell? ⟨w.heap.size+1,0,none⟩=some (.map (some w.heap.size))) jF (fun hS=>?_);simp only [eW,aT,dO,Nat.reduceAdd,ji,jk,eV,cH,cr];refine aj.tk 0 hS ?_;(try simp only [Act.put,aA,aB,aC]);refine aj.tk 1 hS ?_;(try simp only [Act.put,aA,aB,aC]);refine aj.tk 2 hS ?_
     (try simp only [Act.put,aA,aB,aC]);refine aj.step (i:=3) rfl (by kernel_rfl) (fun K' hK=>?_);go_simp;refine jq.out.mono ?_;rintro e w2 ⟨rfl,hF2,kL⟩;obtain ⟨hbx2,w3,hrun,hW3⟩:=HSTEP.out w2 hF2 kL;have HW3:=aa hW3;clear hF2 kL hW3;refine hK.out _ _ (fun _=>hbx2) (fun hS=>?_);replace hS:=hS ⟨4,by decide,rfl⟩;(try simp only [aA,aB,aC]);refine aj.step (i:=4) rfl (by kernel_rfl) (fun K' hK=>?_);go_simp;refine hK.out _ _ (aO (by kernel_rfl)) (fun hS=>?_)
     refine aj.done (by kernel_rfl) ?_;go_wp2_with fail
     go_roundw
     case rel=>exact ⟨k+1,by omega,by go_num,HW3⟩
     case measure=>simp [intOf];omega
    ·obtain rfl:k=L.length:=by omega
     have hkc:=hO.out.fr.zB hi;rw [HV.out] at hkc
     have GN:=aa (XH hO.out.fr (i:=i) (g:=g) (cap:=cap) (f:=lM F rk) (bx:=w.heap.size+1) (m0:=w.heap.size) (l:=mK F rk A L L.length) hi (by rw [xV HS.out.wf hi gG.out];exact HV.out) (by rw [xV HS.out.wf hi gG.out];intro h;rw [h] at Qu;exact mU _ Qu) (by rw [xV HS.out.wf hi gG.out];omega)
      (by rw [xV HS.out.wf hi gG.out];exact fun x hx y hy=>HS.out.sep i hi x (KE.out.mem_iff.1 hx) y (KE.out.mem_iff.1 hy)) hO.out.box hO.out.map (fun e=>by have:=(HF.out.ni hi (b:=g) (by rw [HV.out];rfl)).2;omega) (fun e=>by have:=(HF.out.ni hi (b:=g) (by rw [HV.out];rfl)).2;omega)
      (by rw [xV HS.out.wf hi gG.out];intro c hc;unfold mK;rw [gh];exact Qt HF.out.inj (fun j hj=>(gI.out j hj).1) (gI.out c hc).1 hc)
      (fun z hz=>by
       obtain ⟨j,hj,rfl⟩:=cm.1 hz
       exact ⟨j,(gI.out j (CP hj)).1,rfl⟩))
     rw [xV HS.out.wf hi gG.out,HV.out] at GN;go_wp2_with fail;refine GN.out.mono ?_;rintro e w2 ⟨rfl,hF2,kL⟩;obtain ⟨k1,l1,hs1⟩:∃k1 l1,fV (lM F rk) L=k1::l1:=by
      cases hs:fV (lM F rk) L with
      | nil=>have h1:=(jo (lM F rk) L).length_eq;rw [hs] at h1;simp at h1;omega
      | cons k l=>exact ⟨k,l,rfl⟩
     have hk1:k1∈L:=(jo (lM F rk) L).mem_iff.1 (by rw [hs1];simp);have hrow2:w2.cell? ⟨g,0,none⟩=some (.pointer (some ⟨A k1,0,none⟩)):=hF2.SZ (i:=i) (j:=0) (c:=k1) hi HV.out (by show (upd _ i _ i)[0]? = _;rw [upd_same,hs1];rfl);have hkc2:=hF2.zB hi;rw [HV.out] at hkc2;have hbx2:=kL.cell HF.out (p:=⟨w.heap.size+1,0,none⟩) (lz _) hO.out.box;have hmp2:=kL.pmap HF.out (af _) hO.out.map;have hlk:∀q,(Instr.lookup 245 (.map (some w.heap.size)) (.pointer (some ⟨A k1,0,none⟩)) false).run Tryz.prog (w2.drewN q)=.ok (.string (lM F rk k1)) (w2.drewN q):=fun q =>
      FE (P:=Tryz.prog) (w:=w2.drewN q) Tryz.underlying245 Tryz.underlying119 Tryz.BF hmp2 (k:=some (A k1)) (hF2.plain (gI.out k1 hk1).1) (fun z hz=>by
       obtain ⟨j,hj,rfl⟩:=cm.1 hz
       exact hF2.plain (gI.out j (CP hj)).1) (by unfold mK;rw [gh];exact Qt HF.out.inj (fun j hj=>(gI.out j hj).1) (gI.out k1 hk1).1 hk1)
     have Ev:Hid (lM F rk i=lM F rk k1):=by unfold Hid;rw [BD HS.out.wf hi,<- GL KE.out (fun x hx y hy=>HS.out.sep i hi x (KE.out.mem_iff.1 hx) y (KE.out.mem_iff.1 hy)),hs1]
     have sK:Hid (cU base n A kv (F.oO rk fun j=>p j || ep F rk i j) w2):=hF2.congr fun j hj=>by
      refine ⟨rfl,rfl,?_⟩;show (if (p j || ep F rk i j) then _ else _)=upd _ i _ j;by_cases e:j=i
      ·subst e
       rw [upd_same,if_pos (by rw [nN HS.out.wf hi];simp)];exact (GL KE.out (fun x hx y hy=>HS.out.sep j hi x (KE.out.mem_iff.1 hx) y (KE.out.mem_iff.1 hy))).symm
      ·rw [upd_ne _ _ e]
       (have:pK F rk p L L.length j=(p j || ep F rk i j):=by unfold pK;rw [gh,nN HS.out.wf hi];(have e2:(j==i)=false:=by simpa using e);rw [e2,Bool.false_or,KE.out.any_eq]);(show _=if pK F rk p L L.length j then _ else _);rw [this]
     have xL:=aa (hO.out.up.trans kL);(have i0:(0:Int)<(L.length:Int):=by omega);clear hF2 kL hs1 hk1 hmp2 GN hO;go_wp2_with fail;(go_quiet (fail));go_wp2_with fail;go_ret;exact ⟨by rw [Ev.out];rfl,sK.out.same (fun _ _=>rfl) (fun _ _ _ _=>rfl),⟨xL.out.os,xL.out.tape,xL.out.output,xL.out.size,xL.out.block⟩⟩
end
end Go.Proofs.YthgabkgmkolobaaGreat
