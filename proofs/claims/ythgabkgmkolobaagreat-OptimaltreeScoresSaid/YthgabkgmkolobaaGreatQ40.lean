/- optimaltree: Count, leaf, checkNames, check. optimaltree.rooted: the texts of all rooted .. -/
import Derived.Test.YthgabkgmkolobaaGreatQ39
set_option maxRecDepth 100000
namespace Go.Proofs.YthgabkgmkolobaaGreat
section
open Go.RowKit Go.Deep
def nW:Nat→Int
 | 0=>1
 | m+1=>nW m*(2*(m:Int)+3)
def KF (n:Int):Int:=if n<2∨7<n then 2 else 0
def KG (n:Int):Int:=if n<2∨7<n then 0 else nW (n - 3).toNat
set_option maxHeartbeats 2000000 in
theorem Nf (n:Int) (hn:-9223372036854775808≤n∧n≤9223372036854775807) (w:World):Calls Tryz.prog 28 #[.int .i64 n] w fun e w'=>e=.returned (.tuple #[.int .i64 (KG n),.int .i64 (KF n)])∧w=w':=by
 have HC:Hid (KF n=if n<2∨7<n then 2 else 0):=rfl;have HR:Hid (KG n=if n<2∨7<n then 0 else nW (n - 3).toNat):=rfl;by_cases h1:n<2
 ·go_enter Tryz.func28,Tryz.ntmps28
  go_wp2_with fail;go_ret2;rw [HC.out,HR.out,if_pos (.inl h1),if_pos (.inl h1)];exact ⟨rfl,rfl⟩
 by_cases h2:7<n
 ·go_enter Tryz.func28,Tryz.ntmps28
  go_wp2_with fail;go_ret2;rw [HC.out,HR.out,if_pos (.inr h2),if_pos (.inr h2)];exact ⟨rfl,rfl⟩
 obtain ⟨k,rfl⟩:∃k:Nat,n=k:=⟨n.toNat,by omega⟩;have HF:Hid (KF (k:Int)=0∧KG (k:Int)=nW (k - 3)):=by unfold Hid;rw [HC.out,HR.out,if_neg (by omega),if_neg (by omega),show ((k:Int) - 3).toNat=k - 3 by omega];exact ⟨rfl,rfl⟩
 clear HC HR hn;have hk:k=2∨k=3∨k=4∨k=5∨k=6∨k=7:=by omega
 have e0:=HF.out.1;have e1:=HF.out.2;rw [e0,e1];clear HF e0 e1
 go_enter Tryz.func28,Tryz.ntmps28
 go_wp2_with fail
 go_loop [4,5] (fun o i=>∃m:Nat,m≤k - 3∧i=.int .i64 (2*(m:Int)+3)∧o=.int .i64 (nW m)) (fun _ i=>20 - (intOf i).toNat)
 case atStart=>exact ⟨0,Nat.zero_le _,rfl,rfl⟩
 case round =>
  obtain ⟨m,hm,rfl,rfl⟩:=hrel;have UA:m≤4:=by omega
  by_cases hlt:m<k - 3
  ·have hb:nW (m+1)=nW m*(2*(m:Int)+3)∧1≤nW m∧nW m≤105∧1≤nW (m+1)∧nW (m+1)≤945:=by
    have:m=0∨m=1∨m=2∨m=3:=by omega
    rcases this with rfl | rfl | rfl | rfl<;>refine ⟨rfl,by decide,by decide,by decide,by decide⟩
   obtain ⟨b0,b1,b2,b3,b4⟩:=hb
   have hc:2*(m:Int)+3≤2*(k:Int) - 5:=by omega
   generalize hcm:nW (m+1)=c' at *
   generalize nW m=c at *
   go_wp2_with fail
   go_round
   case rel=>exact ⟨m+1,hlt,by go_num,by rw [hcm,b0]⟩
   case measure=>simp [intOf];omega
  ·obtain rfl:m=k - 3:=by omega
   (have hc:¬2*((k - 3:Nat):Int)+3≤2*(k:Int) - 5:=by omega);go_wp2_with fail;go_ret2;exact ⟨rfl,rfl⟩
set_option maxHeartbeats 2000000 in
theorem Qh (w:World) (s:ByteArray) (hz:s.size≤70000) :
  Calls Tryz.prog 139 #[.string s] w fun e w'=>e=.returned (.bool (aX s.data.toList))∧Up w w':=by
 have hu:=(Up.alloc w (.cells #[.int .i64 (-1)] 3)).trans (Up.alloc _ (.cells #[.string s] 9));have HU:=aa hu
 have HC:=aa (qi Any _ _ (jt s) (UI w s) (by simp [jt]) (by simp [jt]) (fun k=>by
  unfold jt gs;cases k<;>simp;exact hz))
 have HX:=aa (SB s);clear hu
 go_enter Tryz.func139,Tryz.ntmps139
 go_wp2_with fail;generalize (w.alloc (.cells #[.int .i64 (-1)] 3)).alloc (.cells #[.string s] 9)=w1 at *;refine HC.out.mono ?_;rintro e w2 ⟨rfl,hb⟩;have aP:=aa (HU.out.trans (show Up w1 w2 from hb));clear hb HC HU;go_wp2_with fail;go_ret;exact ⟨aR HX.out,aP.out⟩
set_option maxHeartbeats 2000000 in
theorem BW (S:Nat→Prop) (w:World) (v:Value) (names:List ByteArray) (h:ah S w v names) (hn:names.length≤1000000) (hz:∀k,(gs names k).size≤70000) :
  Calls Tryz.prog 89 #[v] w fun e w'=>e=.returned (.int .i64 (ep names))∧Up w w':=by
 obtain ⟨p,cap,rfl,hcap,_⟩:=aC.open h;have h:ah S w (.slice p names.length cap) names:=h;have HC:Hid (ep names=if names.length<2∨7<names.length then 4 else firstNZ (dJ names) names.length):=rfl;have HN:=aa h;have HZ:=aa hz;clear h hz;by_cases h1:names.length<2
 ·go_enter Tryz.func89,Tryz.ntmps89
  go_wp2_with fail;go_ret;exact ⟨aH (by rw [HC.out,if_pos (.inl h1)]),Up.refl _⟩
 by_cases h2:7<names.length
 ·go_enter Tryz.func89,Tryz.ntmps89
  go_wp2_with fail;go_ret;exact ⟨aH (by rw [HC.out,if_pos (.inr h2)]),Up.refl _⟩
 have HF:Hid (ep names=firstNZ (dJ names) names.length):=by unfold Hid;rw [HC.out,if_neg (by omega)]
 clear HC;have qT:Hid (∀k,k<names.length→(∀j,j<k→dJ names j=0)→dJ names k≠0→ep names=dJ names k):=fun k hk hj h0=>by rw [HF.out,fk hk hj h0]
 go_enter Tryz.func89,Tryz.ntmps89
 go_wp2_with fail
 go_loopw [3,4,15] (fun _ _ i wr=>∃k:Nat,k≤names.length∧i=.int .i64 k∧Hid (Up w wr∧∀j,j<k→dJ names j=0)) (fun _ _ i _=>names.length - (intOf i).toNat)
 case atStart=>exact ⟨0,Nat.zero_le _,rfl,Up.refl _,fun j hj=>absurd hj (Nat.not_lt_zero _)⟩
 case round =>
  obtain ⟨k,hk,rfl,hd⟩:=hrel;obtain ⟨wo,rfl⟩:∃wo:World,wo=wr:=⟨_,rfl⟩;by_cases hlt:k<names.length
  ·have Gp:=ah.keep HN.out (hd.out.1.kept S)
   obtain ⟨RZ,no,rfl,hc⟩:=bI Gp hlt;have jM:=aa (Qh wo (gs names k) (HZ.out k));have Iu:Hid (∀W,Up wo W→Calls Tryz.prog 32 #[.slice (some ⟨RZ,no,none⟩) k cap,.string (gs names k)] W fun e w'=>e=.returned (.bool (dg names k))∧W=w'):=fun W hW=>by
    have h:=gw S W _ k (fun j=>gs names j) (gs names k) (CM (ah.keep Gp (hW.kept S)) hk) (by omega)
    rwa [Qf] at h
   have Gq:=aa (qT.out k hlt hd.out.2);have Gr:Hid (dJ names k=if aX (gs names k).data.toList then (if dg names k then 7 else 0) else 14):=rfl;generalize gs names k=nm at *;generalize dg names k=bs at *;generalize aX nm.data.toList=bn at *;clear Gp;cases bn
   ·have HE:Hid (dJ names k=14):=Gr.out
    go_wp2_with fail;refine jM.out.mono ?_;rintro e w1 ⟨rfl,aO⟩;have bH:=aa (hd.out.1.trans aO);clear aO;go_wp2_with fail;go_ret;exact ⟨aH ((Gq.out (by rw [HE.out];decide)).trans HE.out).symm,bH.out⟩
   ·cases bs
    ·have HE:Hid (dJ names k=0):=Gr.out
     go_wp2_with fail;refine jM.out.mono ?_;rintro e w1 ⟨rfl,aO⟩;have bH:=aa (hd.out.1.trans aO);have zK:=aa (Iu.out w1 aO);clear aO;go_wp2_with (go_at_call 32;refine zK.out.mono ?_;rintro e w' ⟨rfl,rfl⟩)
     go_roundw
     case rel=>exact ⟨k+1,by omega,by go_num,bH.out,fun j hj=>if e:j=k then by subst e;exact HE.out else hd.out.2 j (by omega)⟩
     case measure=>simp [intOf];omega
    ·have HE:Hid (dJ names k=7):=Gr.out
     go_wp2_with fail;refine jM.out.mono ?_;rintro e w1 ⟨rfl,aO⟩;have bH:=aa (hd.out.1.trans aO);have zK:=aa (Iu.out w1 aO);clear aO;go_wp2_with (go_at_call 32;refine zK.out.mono ?_;rintro e w' ⟨rfl,rfl⟩);go_ret;exact ⟨aH ((Gq.out (by rw [HE.out];decide)).trans HE.out).symm,bH.out⟩
  ·obtain rfl:k=names.length:=by omega
   (have pH:Hid (ep names=0):=by unfold Hid;rw [HF.out,dW hd.out.2]);go_wp2_with fail;go_ret;exact ⟨aH pH.out.symm,hd.out.1⟩
set_option maxHeartbeats 2000000 in
theorem Ds (S:Nat→Prop) (w:World) (v vs:Value) (names:List ByteArray) (states:List (List Int)) (h:ah S w v names) (hn:names.length≤1000000) (hz:∀k,(gs names k).size≤70000) (hS:aQ S w vs states) (jA:states.length≤1000000) (hr:∀k,(gl states k).length≤1000000) :
  Calls Tryz.prog 67 #[v,vs] w fun e w'=>e=.returned (.int .i64 (aZ names states))∧Up w w':=by
 have HC:Hid (aZ names states=if ep names≠0 then ep names else if cw states≠0 then 1 else if states.length≠names.length then 9 else 0):=rfl;have jM:=aa (BW S w v names h hn hz);obtain ⟨p,cap,rfl,hcap,_⟩:=aC.open h;obtain ⟨q,d,rfl,hd,_⟩:=bS hS;have rG:Hid (∀W,Up w W→Calls Tryz.prog 70 #[.slice q states.length d] W fun e w'=>e=.returned (.int .i64 (cw states))∧W=w'):=fun W hW=>Cm S W _ states (aQ.keep hS (hW.kept S)) jA hr;clear h hS hz hr
 go_enter Tryz.func67,Tryz.ntmps67
 go_wp2_with fail;refine jM.out.mono ?_;rintro e w1 ⟨rfl,aO⟩;have bH:=aa aO;have Qi:=aa (rG.out w1 aO);clear aO;by_cases c1:ep names=0
 ·have iK:Hid (aZ names states=if cw states≠0 then 1 else if states.length≠names.length then 9 else 0):=by unfold Hid;rw [HC.out,if_neg (by omega)]
  rw [c1];clear HC c1 jM rG;go_wp2_with fail;refine Qi.out.mono ?_;rintro e w' ⟨rfl,rfl⟩;generalize cw states=a at *;by_cases c2:a=0
  ·subst c2
   by_cases c3:states.length=names.length
   ·have d3:(states.length:Int)=(names.length:Int):=by omega
    go_wp2_with fail;go_ret;exact ⟨aH (by rw [iK.out,if_neg (by omega),if_neg (by omega)]),bH.out⟩
   ·have d3:¬(states.length:Int)=(names.length:Int):=by omega
    go_wp2_with fail;go_ret;exact ⟨aH (by rw [iK.out,if_neg (by omega),if_pos c3]),bH.out⟩
  ·go_wp2_with fail
   go_ret;exact ⟨aH (by rw [iK.out,if_pos c2]),bH.out⟩
 ·generalize ep names=a at *
  go_wp2_with fail;go_ret;exact ⟨aH (by rw [HC.out,if_pos c1]),bH.out⟩
end
section
open Go.RowKit Go.Shelf Go.Deep Go.Sort
def jG (names:List ByteArray) (pre:List Dv):List ByteArray:=(pre.map (·.1)).flatMap (AP names)
structure vM (w:World) (names:List ByteArray) (pre:List Dv) (L:Nat→Prop) (W:World):Prop where
 up:Up w W
 sz:w.heap.size+1≤W.heap.size
 lo:∀b,L b→w.heap.size≤b
 nL:¬L w.heap.size
 ex:∃ov,W.heap[w.heap.size]? = some (Obj.cells #[ov] 22 (0,0))∧aF (w.heap.size+1) 9 W ov ((jG names pre).map Value.string)∧∀g,ov.ownBlock=some g→¬L g
section
variable {w:World} {names:List ByteArray}
theorem vM.ab:Ui (vM w names):=by
 rintro s L L' W W' h hs;obtain ⟨ov,h1,h2,h7⟩:=h.ex;have hsz:=h.sz;have hnl:∀b,b<W.heap.size→¬L b→¬L' b:=fun b hb hn hb'=>by
  rcases hs.more b hb' with e | e
  ·exact hn e.1
  ·omega
 refine ⟨⟨hs.os.trans h.up.os,hs.tape.trans h.up.tape,hs.output.trans h.up.output,Nat.le_trans h.up.size hs.size,fun b hb=>(hs.block b (by omega) fun e=>by have:=h.lo b e;omega).trans (h.up.block b hb)⟩,by have:=hs.size;omega,fun b hb=>?_,hnl _ (by omega) h.nL,
  ov,(hs.block _ (by omega) h.nL).trans h1,aF.Rl h2 fun b hb=>hs.block b (aI h2 hb).2 (h7 b hb),fun g hg=>hnl g (aI h2 hg).2 (h7 g hg)⟩
 rcases hs.more b hb with e | e
 ·exact h.lo b e.1
 ·omega
theorem vM.own {B:Nat} (hB:w.heap.size+1≤B) (L:Nat→Prop):OwnFrom B (fun s W=>vM w names s L W):=by
 intro s X Y row h hg hr;obtain ⟨ov,h1,h2,h7⟩:=h.ex;have hsz:=h.sz;have sJ:∀b,b<w.heap.size+1→Y.heap[b]? = X.heap[b]?:=fun b hb=>hg.block b (by omega) fun e=>by have:=(hr b e.symm).1;omega
 refine ⟨⟨hg.os.trans h.up.os,hg.tape.trans h.up.tape,hg.output.trans h.up.output,Nat.le_trans h.up.size hg.size,fun b hb=>(sJ b (by omega)).trans (h.up.block b hb)⟩,by have:=hg.size;omega,h.lo,h.nL,ov,(sJ _ (by omega)).trans h1,
  aF.Rl h2 fun b hb=>hg.block b (aI h2 hb).2 fun e=>?_,h7⟩
 obtain ⟨_,o,h8,h9⟩:=hr b e.symm;obtain ⟨c,h10⟩:=aF.EB h2 hb;rw [h10] at h8;injection h8 with h8;subst h8;cases h9
end
structure vO (w:World) (L:Nat→Prop) (W W2:World) (B:Nat) (wr:World) (ov:Value) (T:List ByteArray):Prop where
 up:Up w wr
 size:W2.heap.size≤wr.heap.size
 keep:∀b,(L b∨(W.heap.size≤b∧b<W2.heap.size))→wr.heap[b]? = W2.heap[b]?
 kf:∀k o,B≤k→W.heap[k]? = some o→o.isCells=false→wr.heap[k]? = some o
 box:wr.heap[w.heap.size]? = some (Obj.cells #[ov] 22 (0,0))
 own:aF (w.heap.size+1) 9 wr ov (T.map Value.string)
 nL:∀g,ov.ownBlock=some g→¬L g∧(g<W.heap.size∨W2.heap.size≤g)
section
variable {w W W2 wr X:World} {names:List ByteArray} {L:Nat→Prop} {B:Nat} {ov:Value} {T:List ByteArray} {s:ByteArray} {g cap k:Nat} {pre:List Dv} {x:Dv}
theorem vM.start (h:vM w names pre L W) (hu:Up W W2):∃ov,vO w L W W2 B W2 ov (jG names pre):=by
 obtain ⟨ov,h1,h2,h7⟩:=h.ex;have hsz:=h.sz;exact ⟨ov,⟨h.up.trans hu,Nat.le_refl _,fun _ _=>rfl,fun k o _ hk _=>(Below.block hu k (Array.getElem?_eq_some_iff.1 hk).1).trans hk,(Below.block hu _ (by omega)).trans h1,h2.fM fun b hb=>Below.block hu b (aI h2 hb).2,fun g hg=>⟨h7 g hg,.inl (aI h2 hg).2⟩⟩⟩
theorem vO.cells (h:vO w L W W2 B wr ov T):wr.cell? ⟨w.heap.size,0,none⟩=some ov∧wr.frozen? ⟨w.heap.size,0,none⟩=false:=by
 refine ⟨?_,?_⟩<;>simp [World.cell?,World.frozen?,h.box]
theorem vO.kept (h:vO w L W W2 B wr ov T):Kept (fun b=>L b∨(W.heap.size≤b∧b<W2.heap.size)) W2 wr:=fun b hb _=>h.keep b hb
theorem vO.push (h:vO w L W W2 B wr ov T) (hw:w.heap.size<W.heap.size) (EY:¬L w.heap.size) (hL:∀b,L b→b<wr.heap.size) (hB:w.heap.size<B) (ho:aF (w.heap.size+1) 9 X (.slice (some ⟨g,0,none⟩) k cap) (T.map Value.string++[.string s])) (hg:wr.grownBy X ov.ownBlock) (dY:ov.ownBlock=some g∨wr.heap.size≤g) :
  (X.cell? ⟨w.heap.size,0,none⟩=some ov∧X.frozen? ⟨w.heap.size,0,none⟩=false)∧vO w L W W2 B (X.setCell ⟨w.heap.size,0,none⟩ (.slice (some ⟨g,0,none⟩) k cap)) (.slice (some ⟨g,0,none⟩) k cap) (T++[s]):=by
 have Re:∀q,ov.ownBlock=some q→w.heap.size+1≤q∧q<wr.heap.size:=fun q hq=>aI h.own hq;have hbl:w.heap.size<wr.heap.size:=(Array.getElem?_eq_some_iff.1 h.box).1;have iX:X.heap[w.heap.size]? = some (Obj.cells #[ov] 22 (0,0)):=(hg.block _ hbl fun e=>by have:=(Re _ e.symm).1;omega).trans h.box;have cG:∀b,b≠w.heap.size→(X.setCell ⟨w.heap.size,0,none⟩ (.slice (some ⟨g,0,none⟩) k cap)).heap[b]? = X.heap[b]?:=fun b hb=>blk_setCell_other _ _ _ _ hb;have hsz:(X.setCell ⟨w.heap.size,0,none⟩ (.slice (some ⟨g,0,none⟩) k cap)).heap.size=X.heap.size:=by simp [World.size_setCell]
 refine ⟨by constructor<;>simp [World.cell?,World.frozen?,iX],⟨hg.os.trans h.up.os,hg.tape.trans h.up.tape,hg.output.trans h.up.output,by rw [hsz];exact Nat.le_trans h.up.size hg.size,fun b hb=>?_⟩,by rw [hsz];exact Nat.le_trans h.size hg.size,fun b hb=>?_,fun q o hq hk hc=>?_,by simp [World.setCell,Array.getElem?_modify,iX],?_,fun q hq=>?_⟩
 ·rw [cG b (by omega)]
  exact (hg.block b (by omega) fun e=>by have:=(Re _ e.symm).1;omega).trans (h.up.block b hb)
 ·have hne:b≠w.heap.size:=fun e=>by
   subst e
   rcases hb with hb | hb
   ·exact EY hb
   ·omega
  rw [cG b hne]
  refine (hg.block b ?_ fun e=>?_).trans (h.keep b hb)
  ·rcases hb with hb | hb
   ·exact hL b hb
   ·have:=h.size;omega
  ·obtain ⟨n1,n2⟩:=h.nL b e.symm
   rcases hb with hb | hb
   ·exact n1 hb
   ·omega
 ·have h1:=h.kf q o hq hk hc
  rw [cG q (by omega)];refine (hg.block q (Array.getElem?_eq_some_iff.1 h1).1 fun e=>?_).trans h1;obtain ⟨c,h10⟩:=aF.EB h.own e.symm;rw [h1] at h10;injection h10 with h10;subst h10;cases hc
 ·rw [List.map_append]
  exact ho.fM fun b hb=>cG b (by have:=(aI ho hb).1;omega)
 ·have hq:some g=some q:=hq
  injection hq with hq;subst hq;rcases dY with e | e
  ·exact h.nL g e
  ·exact ⟨fun hl=>by have:=hL g hl;omega,.inr (Nat.le_trans h.size e)⟩
theorem vO.fin (h0:vM w names pre L W) (hu:Up W W2) (hL:∀b,L b→b<W.heap.size) (h:vO w L W W2 B wr ov T) (hT:T=jG names (pre++[x])) :
  KeepsFrom B W wr∧Below w.heap.size w wr∧(∀b,(L b∨False)→wr.heap[b]? = W.heap[b]?)∧vM w names (pre++[x]) L wr:=by
 have hs:=hu.size;have hs2:=h.size;have hs0:=h0.sz;refine ⟨⟨Nat.le_trans hs hs2,h.kf⟩,h.up,fun b hb=>?_,h.up,by omega,h0.lo,h0.nL,ov,h.box,by rw [← hT];exact h.own,fun g hg=>(h.nL g hg).1⟩;have hb:L b:=hb.resolve_right id;exact (h.keep b (.inl hb)).trans (Below.block hu b (hL b hb))
end
def BX (S:Nat→Prop) (w:World) (names:List ByteArray) (e:Ending) (w':World):Prop:=Up w w'∧∃v,e=.returned v∧ah (fun b=>S b∨w.heap.size≤b) w' v (bB names)
theorem Qj (names:List ByteArray) (pre:List Dv) (x:Dv):jG names (pre++[x])=jG names pre++AP names x.1:=by
 unfold jG;rw [List.map_append,List.flatMap_append];simp
def oQ (names:List ByteArray) (bits n:Nat):List ByteArray:=((bB (dA names bits)).take n).flatMap fun s=>(bB (dB names bits)).map fun t=>pairT s t
theorem Qk (names:List ByteArray) (bits:Nat) {n:Nat} (h:n<(bB (dA names bits)).length):oQ names bits (n+1)=oQ names bits n++(bB (dB names bits)).map fun t=>pairT (gs (bB (dA names bits)) n) t:=by
 have hg:gs (bB (dA names bits)) n=(bB (dA names bits))[n]:=by simp [gs,h]
 unfold oQ;rw [List.take_succ_eq_append_getElem h,List.flatMap_append,hg];simp
theorem Td (names:List ByteArray) (bits:Nat):oQ names bits (bB (dA names bits)).length=AP names bits:=by unfold oQ AP;rw [List.take_length]
set_option maxHeartbeats 8000000 in
theorem Ql:∀(d:Nat) (names:List ByteArray),names.length≤d→1≤names.length→names.length≤4→(∀x∈names,x.size≤20)→∀(S:Nat→Prop) (w:World) (v:Value),ah S w v names→Calls Tryz.prog 120 #[v] w (BX S w names):=by
 intro d
 induction d with
 | zero=>intro names h1 h2;omega
 | succ d ih =>
 intro names hd h1 h4 hz S w v h;obtain ⟨mp,mc,rfl,-,-⟩:=aC.open h;have h:ah S w (.slice mp names.length mc) names:=h;by_cases hone:names.length=1
 ·have d1:((names.length:Int)==1)=true:=by rw [hone];rfl
  have hrt:bB names=names:=by obtain ⟨x,rfl⟩:=List.length_eq_one_iff.1 hone;exact S4 x
  have HX:Hid (BX S w names (.returned (.slice mp names.length mc)) w):=⟨Up.refl _,_,rfl,by rw [hrt];exact h.sub fun b hb _=>.inl hb⟩;clear h hrt hone ih
  go_enter Tryz.func120,Tryz.ntmps120
  go_wp2_with fail;go_ret;exact HX.out
 have d1:((names.length:Int)==1)=false:=beq_eq_false_iff_ne.2 (by omega);have h2:2≤names.length:=by omega
 have jk:=aa ih;have HH:=aa h;have HZ:=aa hz;have HD:=aa hd;clear ih h hz hd h1 hone;refine (callsIn_wide (n:=9)).1 ?_;refine callsIn_of_wp_marks Tryz.func120 rfl trivial ?_;simp only [Tryz.ntmps120,List.size_toArray,List.length_cons,List.length_nil,Nat.reduceAdd,Nat.reduceSub,Array.replicate_succ,Array.replicate_zero,List.push_toArray,List.append_toArray,List.nil_append,List.cons_append];have hb1:=blk_alloc_new w (.cells #[.slice none 0 0] 22);have aO:=Up.alloc w (.cells #[.slice none 0 0] 22)
 have hs1:(w.alloc (.cells #[.slice none 0 0] 22)).heap.size=w.heap.size+1:=by simp
 have cR:=aa hb1;have bH:=aa aO;have jW:=aa hs1;clear hb1 aO hs1;gi_wp2_with fail;generalize w.alloc (.cells #[.slice none 0 0] 22)=w1 at *;refine ⟨trivial,(callsIn_wide.2 (Hx w1 _ _ _)).mono ?_⟩;rintro e w9 ⟨rfl,R1⟩;have oT:Up w1 w9:=by rw [R1];exact Up.alloc _ _
 have Jm:w9.heap.size=w1.heap.size+1:=by rw [R1];simp
 have Jn:=wQ w1 (.slice mp names.length mc) 22;rw [← R1] at Jn;have Gj:ah Any w (.slice mp names.length mc) names:=HH.out.sub fun _ _ _=>trivial
 have hseq:=Qg (w0:=w) (w9:=w9) (Bt:=w1.heap.size) (N:=8) 8 h2 h4 (by rw [jW.out];omega) Jn Gj (by
  have:2 ^ (names.length - 1)≤2 ^ 3:=Nat.pow_le_pow_right (by decide) (by omega)
  omega)
 have hI0:vM w names [] (fun b=>b=w1.heap.size) w9:=⟨bH.out.trans oT,by rw [Jm,jW.out];omega,fun b hb=>by rw [hb,jW.out];omega,by rw [jW.out];omega,.slice none 0 0,(Below.block oT _ (by rw [jW.out];omega)).trans cR.out,aF.nil _ _ _,fun g hg=>by cases hg⟩;have H9:Hid (w9.heap.size=w.heap.size+2):=by unfold Hid;rw [Jm,jW.out]
 have HS1':=aa jW.out;clear R1 oT Jm Jn Gj cR;gi_wp2_with fail;apply G7 (F:=Fence.wide) (n:=9) (P:=Tryz.prog) (ps:=#[17,18]) (w:=w9) rfl (by omega) (gf:=215) (lb:=#[.pointer (some ⟨w1.heap.size,0,none⟩)]) rfl trivial (enters_of Tryz.func215 (by kernel_rfl) rfl)
  hseq (fun b hb=>by have:=H9.out;have:=jW.out;omega) (fun x L W b h1 h2=>h2.elim) hI0.up (fun _=>rfl) (fun x L=>Tb x L)
  (vM w names) vM.ab (vM.own (by have:=H9.out;omega)) hI0
 ·intro l x W K hK
  gi_wp2_with (rw [Oper.semAt_eq _ _ _ (fun c h=>by cases h)];go_simp;try go_bits);exact hK
 ·rintro l pre ⟨bits,va,vb⟩ L W hI hG gp IA hlen
  obtain ⟨⟨g1,g2⟩,ga,gb⟩:=hG;dsimp only at g1 g2 ga gb;obtain ⟨l1,l2,l3,l4⟩:=Kv h2 g1 g2;have hma:=(Kw (L:=names) (bits:=bits) (by omega)).1;have hmb:=(Kw (L:=names) (bits:=bits) (by omega)).2;have Gs:∀x∈dA names bits,x.size≤20:=fun x hx=>HZ.out x (hma x hx);have hzb:∀x∈dB names bits,x.size≤20:=fun x hx=>HZ.out x (hmb x hx);have xA:Hid ((bB (dA names bits)).length≤15∧∀k,(gs (bB (dA names bits)) k).size≤100):=⟨qu (by omega),jd fun x hx=>uP (by omega) Gs hx⟩
  have vk:Hid ((bB (dB names bits)).length≤15∧∀k,(gs (bB (dB names bits)) k).size≤100):=⟨qu (by omega),jd fun x hx=>uP (by omega) hzb hx⟩;have hpf:(jG names pre).length≤8*225:=by unfold jG;(have h1:=lY (f:=AP names) (K:=225) (pre.map (·.1)) fun b _=>by have p1:=lZ (fun i=>!b.testBit i) names.tail (names.length - 1);have p2:=lZ (fun i=>b.testBit i) names.tail (names.length - 1);exact S6 (by unfold dA;simp only [List.length_cons];omega) (by unfold dB;omega));rw [List.length_map] at h1;exact Nat.le_trans h1 (Nat.mul_le_mul_right _ (by omega))
  have Wp:=aa hpf;have cZ:=aa (jk.out (dB names bits) (by have:=HD.out;omega) l4 (by omega) hzb L W vb gb);have tR:Hid (∀W1,Up W W1→Calls Tryz.prog 120 #[va] W1 (BX L W1 (dA names bits))):=fun W1 hW=>jk.out (dA names bits) (by have:=HD.out;omega) l2 (by omega) Gs L W1 va (ah.keep ga (hW.kept _));have HI:=aa hI;have dm:Hid (∀b,L b→b<W.heap.size):=fun b hb=>(IA b hb).2;clear hI ga gb gp IA hlen hma hmb Gs hzb l1 l2 l3 l4 g1 g2 hpf hseq hI0;dsimp only;gi_wp2_with (rw [Oper.semAt_eq _ _ _ (fun c h=>by cases h)];go_simp;try go_bits)
  refine ⟨trivial,(callsIn_wide.2 cZ.out).mono ?_⟩;rintro e W1 ⟨aO,sb,rfl,nj⟩;have Dt:=aa aO;clear aO cZ;gi_wp2_with (rw [Oper.semAt_eq _ _ _ (fun c h=>by cases h)];go_simp;try go_bits);refine ⟨trivial,(callsIn_wide.2 (tR.out W1 Dt.out)).mono ?_⟩;rintro e W2 ⟨aG,sa,rfl,tF⟩;have hs1:=Dt.out.size;have hs2:=aG.size;have bU:Hid (ah (fun b=>L b∨(W.heap.size≤b∧b<W2.heap.size)) W2 sb (bB (dB names bits))):=(ah.keep nj (aG.kept _)).sub fun b hb hl=>hb.imp id fun e=>⟨e,hl⟩
  have iN:Hid (ah (fun b=>L b∨(W.heap.size≤b∧b<W2.heap.size)) W2 sa (bB (dA names bits))):=tF.sub fun b hb hl=>hb.imp id fun e=>⟨by omega,hl⟩;have aP:=aa (Dt.out.trans aG);obtain ⟨ov0,Zs⟩:=HI.out.start (B:=w9.heap.size) aP.out;have Ad:=aa Zs;obtain ⟨ap,ac,rfl,-,-⟩:=aC.open iN.out;obtain ⟨bp,bc,rfl,-,-⟩:=aC.open bU.out;have iN:Hid (ah (fun b=>L b∨(W.heap.size≤b∧b<W2.heap.size)) W2 (.slice ap (bB (dA names bits)).length ac) (bB (dA names bits))):=iN.out
  have bU:Hid (ah (fun b=>L b∨(W.heap.size≤b∧b<W2.heap.size)) W2 (.slice bp (bB (dB names bits)).length bc) (bB (dB names bits))):=bU.out;have Ng:Hid (w.heap.size<W.heap.size∧¬L w.heap.size∧w.heap.size<w9.heap.size∧∀b,L b→b<W2.heap.size):=⟨HI.out.sz,HI.out.nL,by have:=H9.out;omega,fun b hb=>by have:=dm.out b hb;omega⟩;have Ej:Hid (jG names pre=jG names pre++oQ names bits 0):=by unfold Hid oQ;simp
  rw [Ej.out] at Ad;clear aG tF nj hs1 hs2 Zs tR Dt Ej;gi_wp2_with (rw [Oper.semAt_eq _ _ _ (fun c h=>by cases h)];go_simp;try go_bits)
  gi_loopw [8,10,24] (fun _ _ i wr=>∃(n:Nat) (ov:Value),n≤(bB (dA names bits)).length∧i=.int .i64 n∧Hid (vO w L W W2 w9.heap.size wr ov (jG names pre++oQ names bits n))) (fun _ _ i _=>(bB (dA names bits)).length - (intOf i).toNat)
  case atStart=>exact ⟨0,_,Nat.zero_le _,rfl,Ad.out⟩
  case round =>
   obtain ⟨n,ov,hn,rfl,hR⟩:=hrel;obtain ⟨wo,rfl⟩:∃wo:World,wo=wr:=⟨_,rfl⟩;(have i0:(0:Int)≤(n:Int):=by omega);by_cases hlt:n<(bB (dA names bits)).length
   ·obtain ⟨ab,ao,rfl,hca⟩:=bI (ah.keep iN.out hR.out.kept) hlt
    (have i1:(n:Int)<((bB (dA names bits)).length:Int):=by omega);(have i2:(n:Int)<16:=by have:=xA.out.1;omega);have aW:=aa hlt;have MB:=aa (Qk names bits hlt);have HR:=aa hR.out;have HZN:Hid ((gs (bB (dA names bits)) n).size≤100):=xA.out.2 n;generalize gs (bB (dA names bits)) n=sn at *;clear hR hlt;gi_wp2_with (rw [Oper.semAt_eq _ _ _ (fun c h=>by cases h)];go_simp;try go_bits)
    gi_loopw [10,30] (fun _ i wr=>∃(m:Nat) (ov:Value),m≤(bB (dB names bits)).length∧i=.int .i64 m∧Hid (vO w L W W2 w9.heap.size wr ov ((jG names pre++oQ names bits n)++((bB (dB names bits)).take m).map fun t=>pairT sn t))) (fun _ i _=>(bB (dB names bits)).length - (intOf i).toNat)
    case atStart=>exact ⟨0,_,Nat.zero_le _,rfl,by rw [List.take_zero,List.map_nil,List.append_nil];exact HR.out⟩
    case round =>
     obtain ⟨m,ov2,hm,rfl,Cf⟩:=hrel;obtain ⟨wi,rfl⟩:∃wi:World,wi=wr:=⟨_,rfl⟩;(have j0:(0:Int)≤(m:Int):=by omega);by_cases hlm:m<(bB (dB names bits)).length
     ·obtain ⟨bb,bo,rfl,hcb⟩:=bI (ah.keep bU.out Cf.out.kept) hlm
      (have j1:(m:Int)<((bB (dB names bits)).length:Int):=by omega);(have j2:(m:Int)<16:=by have:=vk.out.1;omega);have Gt:=aa hlm;have wR:=aa Cf.out;have k9:=Cf.out.cells.1;(have fN:Hid (((bB (dB names bits)).take (m+1)).map (fun t=>pairT sn t)=((bB (dB names bits)).take m).map (fun t=>pairT sn t)++[pairT sn (gs (bB (dB names bits)) m)]):=by unfold Hid;rw [List.take_succ_eq_append_getElem hlm,List.map_append];simp [gs,hlm]);have z1:=HZN.out;have z2:(gs (bB (dB names bits)) m).size≤100:=vk.out.2 m
      have mh:Hid ((((jG names pre++oQ names bits n)++((bB (dB names bits)).take m).map fun t=>pairT sn t).map Value.string).length≤1000000):=by have h1:=Wp.out;have h2:=vk.out.1;have h3:=xA.out.1;(have h4:(oQ names bits n).length≤15*15:=by unfold oQ;(have q:=lY (f:=fun s=>(bB (dB names bits)).map fun t=>pairT s t) (K:=15) ((bB (dA names bits)).take n) fun s _=>by rw [List.length_map];exact h2);rw [List.length_take] at q;exact Nat.le_trans q (Nat.mul_le_mul_right _ (by omega)));unfold Hid;simp only [List.length_map,List.length_append,List.length_take];omega
      generalize gs (bB (dB names bits)) m=tm at *;obtain ⟨T,hT⟩:∃T,T=(jG names pre++oQ names bits n)++((bB (dB names bits)).take m).map fun t=>pairT sn t:=⟨_,rfl⟩;rw [← hT] at wR mh;(have HT:Hid ((jG names pre++oQ names bits n)++((bB (dB names bits)).take (m+1)).map (fun t=>pairT sn t)=T++[pairT sn tm]):=by unfold Hid;rw [fN.out,← List.append_assoc,← hT]);obtain ⟨oq,oc,Gu,-⟩:=wR.out.own.form (n:=T.length) (by simp);subst Gu;have M5:Hid (w9.heap.size≤w9.heap.size∧w.heap.size+1≤wi.heap.size):=⟨Nat.le_refl _,by have h1:=wR.out.size;have h2:=aP.out.size;have h3:=Ng.out.1;omega⟩
      clear Cf hlm hm hT fN
      gi_wp2_with (first
       | (gi_at_builtin;refine o7 wi rfl _ _ 22 rfl (w.heap.size+1) 9 (.string ⟨#[]⟩) 16 Tryz.underlying22 Tryz.iE rfl (by decide) wR.out.own rfl _ rfl rfl T.length (List.length_map _) (by have h:=mh.out;rw [List.length_map] at h;exact h) M5.out.2 ?_;intro g8 gZ w8 bJ cD fS;obtain ⟨⟨VV,Za⟩,Zt⟩:=wR.out.push (s:=pairT sn tm) Ng.out.1 Ng.out.2.1 (fun b hb=>Nat.lt_of_lt_of_le (Ng.out.2.2.2 b hb) wR.out.size) Ng.out.2.2.1 bJ cD fS;have V5:=aa Zt;clear bJ cD fS Zt)
       | (rw [Oper.semAt_eq _ _ _ (fun c h=>by cases h)];go_simp;try go_bits))
      go_roundw
      case rel=>exact ⟨m+1,_,Gt.out,by go_num,by rw [HT.out];exact V5.out⟩
      case measure=>have:=Gt.out;simp [intOf];omega
     ·obtain rfl:m=(bB (dB names bits)).length:=by omega
      (have HKE:Hid (jG names pre++oQ names bits (n+1)=(jG names pre++oQ names bits n)++((bB (dB names bits)).take (bB (dB names bits)).length).map fun t=>pairT sn t):=by unfold Hid;rw [MB.out,List.take_length,List.append_assoc]);gi_wp2_with (rw [Oper.semAt_eq _ _ _ (fun c h=>by cases h)];go_simp;try go_bits)
      go_roundw
      case rel=>exact ⟨n+1,_,aW.out,by go_num,by rw [HKE.out];exact Cf.out⟩
      case measure=>have:=aW.out;simp [intOf];omega
   ·obtain rfl:n=(bB (dA names bits)).length:=by omega
    (have vH:Hid (jG names pre++oQ names bits (bB (dA names bits)).length=jG names (pre++[(bits,va,vb)])):=by unfold Hid;rw [Td,Qj]);gi_wp2_with (rw [Oper.semAt_eq _ _ _ (fun c h=>by cases h)];go_simp;try go_bits);exact hR.out.fin HI.out aP.out dm.out vH.out
 ·intro D xs L W hD hS hI hK
  obtain ⟨ov,e1,e2,e3⟩:=hI.ex;obtain ⟨oq,oc,rfl,-⟩:=e2.form (n:=(jG names xs).length) (by simp);have U7:W.cell? ⟨w.heap.size,0,none⟩=some (.slice oq (jG names xs).length oc):=by simp [World.cell?,e1]
  have HK:=aa hK;have r9:=aa e2;have HI:=aa hI;have HT:Hid (jG names xs=bB names):=by unfold Hid jG;rw [hS,VR h2]
  clear e1 e2 e3 hI hS hK hseq hI0;gi_wp2_with fail;have hq:∀b,b≠D→(W.putObj D (.deferred none)).heap[b]? = W.heap[b]?:=fun b hb=>World.putObj_heap_other hb;have hu:=HI.out.up;have h9:=H9.out;have hne:∀b,(Value.slice oq (jG names xs).length oc).ownBlock=some b→b≠D:=fun b hb e=>by subst e;obtain ⟨c,h10⟩:=aF.EB r9.out hb;rw [HK.out] at h10;injection h10 with h10;cases h10
  refine ⟨by simp,.inl ⟨_,_,rfl,run_takeDeferred HK.out,?_⟩⟩;refine ⟨.slice oq (jG names xs).length oc,by simp [results,Tryz.results120,go_sem],⟨hu.os,hu.tape,hu.output,by have h:=hu.size;simpa using h,fun b hb=>(hq b (by omega)).trans (hu.block b hb)⟩,_,rfl,?_⟩;have h3:=r9.out.fM fun b hb=>hq b (hne b hb);rw [← HT.out];exact h3.strs.sub fun b hb _=>.inr (by omega)
end
end Go.Proofs.YthgabkgmkolobaaGreat
