/- Plain: scores of trees for named states, errors of names and states, optimal trees. .. -/
import Derived.Shelf.Slices.Empties
import Derived.Shelf.Slices.SearchI
import Derived.Test.YthgabkgmkolobaaGreatQ38
import Derived.Test.YthgabkgmkolobaaGreatQ36
set_option maxRecDepth 100000
namespace Go.Proofs.YthgabkgmkolobaaGreat
section
def cB (states:List (List Int)) (p:Nat):List Int:=states.map fun r=>gi r p
def dO (t:aD) (names:List ByteArray) (states:List (List Int)) (p:Nat):List Int:=jf t names (cB states p) (aq t.ns).length
def bZ (t:aD) (names:List ByteArray) (states:List (List Int)):Int:=bD (fun p=>bu t (dO t names states p) (aS 16)) (gl states 0).length
def dJ (names:List ByteArray) (i:Nat):Int:=if aX (gs names i).data.toList then (if dg names i then 7 else 0) else 14
def ep (names:List ByteArray):Int:=if names.length<2∨7<names.length then 4 else firstNZ (dJ names) names.length
def aZ (names:List ByteArray) (states:List (List Int)):Int:=if ep names≠0 then ep names else if cw states≠0 then 1 else if states.length≠names.length then 9 else 0
def iJ (t:aD) (names:List ByteArray):Bool:=decide ((aq t.ns).length=names.length)&&!o8 t names
def fF (t:aD) (names:List ByteArray) (states:List (List Int)):Int:=if aZ names states≠0 then aZ names states else if aB t≠0 then 1 else if iJ t names then 0 else 9
def rE (t:aD) (names:List ByteArray) (states:List (List Int)):Int:=if fF t names states=0 then bZ t names states else 0
def mnK (f:Nat→Int):Nat→Int
 | 0=>-1
 | k+1=>if mnK f k<0∨f k<mnK f k then f k else mnK f k
def gt (l:List aD) (k:Nat):aD:=l.getD k ⟨[],[]⟩
def gL (names:List ByteArray) (states:List (List Int)):Int:=mnK (fun k=>bZ (gt (allT names) k) names states) (allT names).length
def ox (names:List ByteArray) (states:List (List Int)):List aD:=(allT names).filter fun t=>decide (bZ t names states=gL names states)
theorem Qd (f:Nat→Int) (k:Nat):mnK f (k+1)=if mnK f k<0∨f k<mnK f k then f k else mnK f k:=rfl
theorem Gg {names:List ByteArray} (h5:names.length≤5):ep names=0↔gY names:=by
 unfold ep;constructor
 ·intro h
  split at h
  ·cases h
  ·rename_i h1
   have h2:=jK h;have hn:∀i,i<names.length→aX (gs names i).data.toList=true∧dg names i=false:=fun i hi=>by
    have:=h2 i hi;unfold dJ at this;cases e1:aX (gs names i).data.toList<;>rw [e1] at this
    ·cases this
    ·cases e2:dg names i<;>rw [e2] at this
     ·exact ⟨rfl,rfl⟩
     ·cases this
   refine ⟨by omega,h5,fun x hx=>?_,?_⟩
   ·obtain ⟨i,hi,rfl⟩:=List.getElem_of_mem hx
    have:=(hn i hi).1;simpa [gs,hi] using this
   ·refine List.pairwise_iff_getElem.2 fun i j hi hj hij e=>?_
    have:=(hn j hj).2;unfold dg at this;have:=any_false this hij;rw [decide_eq_false_iff_not] at this;exact this (by simp [gs,hi,hj,e])
 ·intro h
  rw [if_neg (by have:=h.lo;omega)];refine dW fun i hi=>?_;unfold dJ;have h1:gs names i=names[i]:=by simp [gs,hi]
  rw [h1,h.nm _ (List.getElem_mem hi),if_pos rfl,if_neg];rw [Bool.not_eq_true];refine any_none fun j hj=>?_;rw [decide_eq_false_iff_not,h1];intro e;have h2:=List.pairwise_iff_getElem.1 h.nd j i (by omega) hi hj;exact h2 (by simpa [gs,show j<names.length by omega] using e)
theorem Ta {ns:List ByteArray} {n j:Nat} (hn:ns.length=n) (hj:j<n) (h0:(gs ns j).size≠0):(cH ns j).toNat<(aq ns).length∧gi (aq ns) (cH ns j).toNat=j:=rM (Hw (by omega) h0)
theorem gY.Wh {names:List ByteArray} (h:gY names):∀j k,j<k→k<names.length→gs names k≠gs names j:=fun j k hjk hk e=>by
 have h2:=List.pairwise_iff_getElem.1 h.nd j k (by omega) hk hjk
 exact h2 (by simpa [gs,hk,show j<names.length by omega] using e.symm)
theorem AV {t:aD} {names:List ByteArray} (h:gY names) (ht:aB t=0):iJ t names=true↔zI t names:=by
 obtain ⟨_,_,hnl,_,_⟩:=aJ ht;unfold iJ;rw [Bool.and_eq_true,decide_eq_true_iff,Bool.not_eq_true'];constructor
 ·rintro ⟨h1,h2⟩
  refine ⟨ht,by have:=h.hi;omega,h.Wh,h1,fun j hj hj0=>?_⟩;obtain ⟨p1,p2⟩:=Ta hnl hj hj0;have:=any_false h2 p1;rw [p2,decide_eq_false_iff_not] at this;exact DW.1 (by rw [Int.toNat_natCast] at this;omega)
 ·intro ho
  refine ⟨ho.len,any_none fun j hj=>?_⟩;rw [decide_eq_false_iff_not];obtain ⟨v,hv,vp,hv0⟩:=lN hj;rw [hv,Int.toNat_natCast];have:=DW.2 (ho.has v (by omega) hv0);omega
theorem DX {states:List (List Int)} (h:cw states=0):0<states.length∧(∀k,k<states.length→(gl states k).length=(gl states 0).length∧∀p,p<(gl states 0).length → -1≤gi (gl states k) p∧gi (gl states k) p<16):=by
 unfold cw at h;split at h
 ·cases h
 ·rename_i h0
  split at h
  ·cases h
  ·refine ⟨by omega,fun k hk=>?_⟩
   have:=jK h k hk;unfold iO at this;split at this
   ·cases this
   ·rename_i h1
    split at this
    ·cases this
    ·rename_i h2
     (have h1:(gl states k).length=(gl states 0).length:=by omega);refine ⟨h1,fun p hp=>Xl (by simpa using h2) (by omega)⟩
structure mZ (names:List ByteArray) (states:List (List Int)):Prop where
 nm:gY names
 ag:cw states=0
 len:states.length=names.length
theorem Qe {names:List ByteArray} {states:List (List Int)} (h5:names.length≤5):aZ names states=0↔mZ names states:=by
 unfold aZ;constructor
 ·intro h
  split at h
  ·rename_i h1;exact absurd h h1
  ·rename_i h1
   split at h
   ·cases h
   ·rename_i h2
    split at h
    ·cases h
    ·rename_i h3
     exact ⟨(Gg h5).1 (by omega),by omega,by omega⟩
 ·intro h
  rw [if_neg (by rw [(Gg h5).2 h.nm];simp),if_neg (by rw [h.ag];simp),if_neg (by rw [h.len];simp)]
theorem AW (states:List (List Int)) (p:Nat) {k:Nat} (hk:k<states.length):gi (cB states p) k=gi (gl states k) p:=by simp [gi,cB,gl,hk]
section
variable {t u:aD} {names:List ByteArray} {states:List (List Int)}
theorem r8 (hc:mZ names states) (h:zI t names) {p:Nat} (hp:p<(gl states 0).length):Valid t (dO t names states p) (aS 16):=by
 refine ⟨h.te,Tz,kC _ _ _ _,?_⟩;unfold fo dO;rw [kC];refine any_none fun j hj=>?_;obtain ⟨v,hv,vp,hv0⟩:=lN hj;obtain ⟨_,_,hnl,_,_⟩:=aJ h.te;obtain ⟨b,hb,_,e⟩:=Ge h (show v<t.ps.length by omega) hv0;rw [S9 hj,hv,Int.toNat_natCast,e,Int.toNat_natCast,AW _ _ (by rw [hc.len];exact hb)];have:=((DX hc.ag).2 b (by rw [hc.len];exact hb)).2 p hp;rw [iq,Bool.or_eq_false_iff,decide_eq_false_iff_not,decide_eq_false_iff_not];omega
theorem of_flat (hn:gY names) {q:RT} (ht:aB (flat q)=0) (hq:(fA q).Perm names):zI (flat q) names:=by
 have h1:(nS (flat q).ns).Perm names:=by have:=Ks ht;rw [uw] at this;exact this.symm.trans hq
 refine ⟨ht,by have:=hn.hi;omega,hn.Wh,by rw [MF,h1.length_eq],fun j hj hj0=>?_⟩;obtain ⟨_,_,hnl,_,_⟩:=aJ ht;have hm:gs (flat q).ns j∈names:=h1.mem_iff.1 (S8.2 ⟨j,by omega,rfl,hj0⟩);obtain ⟨b,hb,e⟩:=List.getElem_of_mem hm;exact ⟨b,hb,by simp [gs,hb] at e ⊢;exact e⟩
theorem yc (hn:gY names) (ht:t∈allT names):zI t names∧∃q∈bG names,t=flat q:=by
 obtain ⟨q,hq,rfl⟩:=List.mem_map.1 ht;obtain ⟨_,h2,_,_,h5,_⟩:=fB hn hq;exact ⟨of_flat hn h5 h2,q,hq,rfl⟩
theorem AX {l:List aD} {k:Nat} (h:k<l.length):gt l k∈l:=by simp [gt,h]
end
end
section
open Go.RowKit Go.Deep Go.Shelf
theorem aC.grown {S:Nat→Prop} {X Y:World} {v:Value} {n:Nat} {f:Nat→Value} {row:Option Nat} (h:aC S X v n f) (hg:X.grownBy Y row) (hr:∀r,row=some r→∃o,X.heap[r]? = some o∧o.isCells=false):aC S Y v n f:=by
 obtain ⟨p,cap,rfl,hn,h⟩:=h;refine ⟨p,cap,rfl,hn,?_⟩;by_cases h0:n=0
 ·exact .inl h0
 ·rcases h with h | ⟨g,off,rfl,hS,hc⟩
  ·exact absurd h h0
  ·refine .inr ⟨g,off,rfl,hS,fun k hk=>?_⟩
   have h1:=hc k hk;have hl:=World.block_lt_of_cell? X _ h1;refine (World.cell?_of_block (a:=⟨g,off+k,none⟩) (hg.block g hl fun e=>?_)).trans h1;obtain ⟨o,h2,h3⟩:=hr g e.symm;simp only [World.cell?] at h1;rw [h2] at h1;cases o<;>simp [Obj.isCells] at h3<;>simp at h1
end
section
def RX (states:List (List Int)) (p:Nat):Nat:=(dd (cQ (cB states p))).length
def ng (states:List (List Int)) (p:Nat):Int:=if RX states p=0 then 0 else (RX states p:Int) - 1
def Gh (states:List (List Int)):Int:=bD (ng states) (gl states 0).length
def KD (states:List (List Int)):Int:=if cw states=0 then 0 else 1
def KE (states:List (List Int)):Int:=if cw states=0 then Gh states else 0
theorem uQ (states:List (List Int)) (p:Nat):(cB states p).length=states.length:=by unfold cB;rw [List.length_map]
theorem Wi (states:List (List Int)) (p:Nat):RX states p≤states.length:=by
 unfold RX;have h1:(dd (cQ (cB states p))).length≤(cQ (cB states p)).length:=(qA _).length_le_of_subset fun x hx=>sW.1 hx;have h2:(cQ (cB states p)).length≤(cB states p).length:=List.length_filter_le _ _;rw [uQ] at h2;omega
theorem Jk (states:List (List Int)) (p:Nat):0≤ng states p∧ng states p≤states.length:=by
 have:=Wi states p;unfold ng;split<;>omega
end
section
open Go.RowKit Go.Deep
theorem DN (s:ByteArray) (h:s.size - 1<s.size) (QS:16<s.size) (yw:((s[s.size - 1].toNat:Int)==42)=true):aX s.data.toList=false:=by
 have hl:=size_data s;have h2:s[s.size - 1]=42:=by
  have h3:(s[s.size - 1].toNat:Int)=42:=by simpa using yw
  have h4:s[s.size - 1].toNat=42:=by omega
  exact UInt8.toNat_inj.1 h4
 unfold aX;rw [y7 s h,h2,if_pos rfl,hl,decide_eq_false (by omega),Bool.and_false]
end
section
open Go.RowKit Go.Deep
theorem Qf (names:List ByteArray) (k:Nat):((List.range k).any fun j=>decide (gs names k=gs names j))=dg names k:=by
 unfold dg;congr 1;funext j;by_cases e:gs names j=gs names k
 ·rw [decide_eq_true e,decide_eq_true e.symm]
 ·rw [decide_eq_false e,decide_eq_false fun q=>e q.symm]
end
section
open Go.RowKit Go.Shelf Go.Deep Go.Sort
set_option maxHeartbeats 400000 in
theorem Hx (w:World) (mp:Option Addr) (n c:Nat):Calls Tryz.prog 164 #[.slice mp n c] w fun e w'=>e=.returned (.func (.func 215) #[] #[.pointer (some ⟨w.heap.size,0,none⟩)])∧w'=w.alloc (.cells #[.slice mp n c] 22):=by
 go_enter Tryz.func164,Tryz.ntmps164
 go_wp2_with fail
 go_ret
 exact ⟨by simp,rfl⟩
abbrev Dv:=Nat×Value×Value
def Wj (names:List ByteArray) (x:Dv) (L:Nat→Prop) (W:World):Prop:=(1≤x.1∧x.1<2 ^ (names.length - 1))∧ah L W x.2.1 (dA names x.1)∧ah L W x.2.2 (dB names x.1)
theorem Tb {names:List ByteArray} {B:Nat} (x:Dv) (L:Nat→Prop):OwnFrom B (fun (_:Unit) W=>Wj names x L W):=by
 intro s X Y row h hg hr;obtain ⟨h1,h2,h3⟩:=h;exact ⟨h1,aC.grown h2 hg fun r e=>(hr r e).2,aC.grown h3 hg fun r e=>(hr r e).2⟩
theorem Gi:∀q:Nat,q<8→bits BinOp.and IntKind.i64 ((q:Nat):Int) 1=((q:Nat):Int) % 2:=by decide +kernel
theorem Jl (k i:Nat):(((k / 2 ^ i:Nat):Int)) % 2=if k.testBit i then 1 else 0:=by
 rw [Nat.testBit_eq_decide_div_mod_eq];generalize k / 2 ^ i=q;by_cases h:q % 2=1
 ·rw [decide_eq_true h,if_pos rfl];omega
 ·rw [decide_eq_false h,if_neg (by decide)];omega
structure Dup (B:Nat) (W:World) (a b:Value) (A C:List ByteArray):Prop where
 ao:aF B 9 W a (A.map Value.string)
 bo:aF B 9 W b (C.map Value.string)
 ap:∀g,a.ownBlock=some g→b.ownBlock≠some g
theorem Dup.Wk {B:Nat} {W W':World} {a b:Value} {A C:List ByteArray} {g cap k:Nat} {s:ByteArray} (h:Dup B W a b A C) (ho:aF B 9 W' (.slice (some ⟨g,0,none⟩) k cap) (A.map Value.string++[.string s])) (hg:W.grownBy W' a.ownBlock) (dY:a.ownBlock=some g∨W.heap.size≤g):Dup B W' (.slice (some ⟨g,0,none⟩) k cap) b (A++[s]) C:=by
 refine ⟨by rw [List.map_append];exact ho,h.bo.fM fun x hx=>hg.block x (aI h.bo hx).2 fun e=>h.ap x e.symm hx,fun x hx hx2=>?_⟩;have hx:some g=some x:=hx;injection hx with hx;subst hx;rcases dY with e | e
 ·exact h.ap g e hx2
 ·have:=(aI h.bo hx2).2;omega
theorem Dup.Wl {B:Nat} {W W':World} {a b:Value} {A C:List ByteArray} {g cap k:Nat} {s:ByteArray} (h:Dup B W a b A C) (ho:aF B 9 W' (.slice (some ⟨g,0,none⟩) k cap) (C.map Value.string++[.string s])) (hg:W.grownBy W' b.ownBlock) (dY:b.ownBlock=some g∨W.heap.size≤g):Dup B W' a (.slice (some ⟨g,0,none⟩) k cap) A (C++[s]):=by
 refine ⟨h.ao.fM fun x hx=>hg.block x (aI h.ao hx).2 fun e=>h.ap x hx e.symm,by rw [List.map_append];exact ho,fun x hx hx2=>?_⟩;have hx2:some g=some x:=hx2;injection hx2 with hx2;subst hx2;rcases dY with e | e
 ·exact h.ap g hx e
 ·have:=(aI h.ao hx).2;omega
section
variable {w0 w9:World} {names:List ByteArray} {Bt N:Nat}
set_option maxHeartbeats 2000000 in
theorem Qg (m:Nat) {mp:Option Addr} {mc:Nat} (h2:2≤names.length) (h4:names.length≤4) (hB:w0.heap.size≤Bt)
  (hb:w9.cell? ⟨Bt,0,none⟩=some (.slice mp names.length mc)) (Gj:ah Any w0 (.slice mp names.length mc) names) (hN:2 ^ (names.length - 1) - 1≤N) :
  Uj Fence.wide m Tryz.prog 215 #[.pointer (some ⟨Bt,0,none⟩)] (fun x:Dv=>#[x.2.1,x.2.2]) (Wj names) (fun _ _=>False) (fun xs=>xs.map (·.1)=List.range' 1 (2 ^ (names.length - 1) - 1)) N w0 w9 (fun b=>b=Bt):=by
 intro l J W hW Zf Zg hA hY hJ;obtain ⟨Zh,Zi⟩:=Zf Bt rfl;have wB:=(World.cell?_of_block (a:=⟨Bt,0,none⟩) Zi).trans hb;obtain ⟨nb,no,rfl,hc0⟩:=bI Gj (k:=0) (by omega);obtain ⟨M,hM⟩:∃M,M=2 ^ (names.length - 1):=⟨_,rfl⟩;have Na:M≤8:=by rw [hM];exact Nat.pow_le_pow_right (n:=2) (by decide) (show names.length - 1≤3 by omega)
 have hM1:1≤M:=by rw [hM];exact Nat.one_le_two_pow
 have RY:wrap64 ((2:Int) ^ (names.length - 1))=(M:Int):=by
  have:(2:Int) ^ (names.length - 1)=((2 ^ (names.length - 1):Nat):Int):=by simp
  rw [this,← hM];unfold wrap64;omega
 have Ut:names.length≤mc:=by obtain ⟨_,_,e,h,_⟩:=aC.open Gj;injection e with e1 e2 e3;omega
 have l7:Hid (∀i,i<names.length→∀W,Up w0 W→W.cell? ⟨nb,no+i,none⟩=some (.string (gs names i))):=fun i hi W hW=>hW.cell (aC.X9 Gj hi);rw [← hM] at hN;have Nb:Hid (J [] (fun b=>b=Bt) W):=hJ;have HY:=aa hY;have HA:=aa hA;have HW:=aa hW;have VB:=aa wB;have HL:Hid (Bt<W.heap.size):=Nat.lt_of_lt_of_le Zh Zg;have HM:=aa hM;have HN:=aa hN;have HB:=aa hB;have IC:Hid (M≤8):=Na;clear hW Zf Zg hA hY hJ Zi Zh Gj hc0 hb hM hN hB;refine callsIn_of_wp Tryz.func215 rfl trivial ?_ rfl
 simp only [Tryz.ntmps215,List.size_toArray,List.length_cons,List.length_nil,Nat.reduceAdd,Nat.reduceSub,Array.replicate_succ,Array.replicate_zero,List.push_toArray,List.append_toArray,List.nil_append,List.cons_append];gi_wp2
 gi_loopw [3,4,5,6,7] (fun i _ _ _ _ wr=>∃(k:Nat) (ys:List Dv) (L':Nat→Prop),1≤k∧k≤M∧i=.int .i64 k∧Hid (ys.map (·.1)=List.range' 1 (k - 1))∧Hid (J ys L' wr)∧Hid (Below w0.heap.size w0 wr)∧Hid (∀b,L' b→w0.heap.size≤b∧b<wr.heap.size)∧Hid (L' Bt)∧Hid (wr.cell? ⟨Bt,0,none⟩=some (.slice (some ⟨nb,no,none⟩) names.length mc))) (fun i _ _ _ _ _=>M - (intOf i).toNat)
 case atStart=>exact ⟨1,[],_,Nat.le_refl _,hM1,rfl,rfl,Nb.out,HW.out,fun b hb=>by rw [hb];exact ⟨HB.out,HL.out⟩,rfl,VB.out⟩
 case round =>
  obtain ⟨k,ys,L',hk1,hk,rfl,hys,Zj,Nc,Ac,Zk,hcB⟩:=hrel;obtain ⟨wo,rfl⟩:∃wo:World,wo=wr:=⟨_,rfl⟩;have hcb:=hcB.out;have hn0:=l7.out 0 (by omega) wo Nc.out;rw [Nat.add_zero] at hn0;have i0:(0:Int)≤(k:Int):=by omega
  by_cases hlt:k<M
  ·have i1:(k:Int)<(M:Int):=by omega
   (have i2:(k:Int)<8:=by omega);(have i3:0<names.length:=by omega);(have i4:(0:Int)<(names.length:Int):=by omega);(have i5:(1:Int)≤(names.length:Int):=by omega);(have i6:1≤names.length:=by omega);(have i7:¬mc=1:=by omega);have i8:names.length≤mc:=Ut;have aO:=Up.alloc wo (.cells #[.string (gs names 0)] 9);have Zl:Dup wo.heap.size (wo.alloc (.cells #[.string (gs names 0)] 9)) (.slice (some ⟨wo.heap.size,0,none⟩) 1 1) (.slice none 0 0) [gs names 0] []:=⟨Gf wo _ _ _ (Nat.le_refl _),aF.nil _ _ _,fun g _ e=>by cases e⟩;have EO:=aa Zl;have bH:=aa aO;have hcb1:=aO.cell hcb
   clear Zl aO;gi_wp2;generalize wo.alloc (.cells #[.string (gs names 0)] 9)=w1 at *;simp only [RY];clear RY
   gi_loopw [4,5,6,7,23] (fun a b _ _ i wr=>∃j:Nat,j≤names.length - 1∧i=.int .i64 j∧Hid (Dup wo.heap.size wr a b (gs names 0::bh (fun i=>!k.testBit i) names.tail j) (bh (fun i=>k.testBit i) names.tail j))∧Hid (Up wo wr)) (fun _ _ _ _ i _=>names.length - 1 - (intOf i).toNat)
   case atStart=>exact ⟨0,Nat.zero_le _,rfl,EO.out,bH.out⟩
   case round =>
    obtain ⟨j,hj,rfl,hD,hU⟩:=hrel;obtain ⟨wi,rfl⟩:∃wi:World,wi=wr:=⟨_,rfl⟩;(have j0:(0:Int)≤(j:Int):=by omega);by_cases hlj:j<names.length - 1
    ·have rO:=l7.out (j+1) (by omega) wi (Nc.out.trans (hU.out.mono Nc.out.size))
     rw [show no+(j+1)=no+1+j by omega] at rO;(have j1:(j:Int)<((names.length - 1:Nat):Int):=by omega);(have j2:(j:Int)<4:=by omega);(have tP:bits BinOp.and IntKind.i64 ((k:Int) / 2 ^ j) 1=if k.testBit j then 1 else 0:=by (have e:(k:Int) / 2 ^ j=((k / 2 ^ j:Nat):Int):=by simp);have:k / 2 ^ j≤k:=Nat.div_le_self _ _;rw [e,Gi _ (by omega),Jl]);have iN:=aa (ig (fun i=>!k.testBit i) names.tail j);have bU:=aa (ig (fun i=>k.testBit i) names.tail j);have pQ:Hid (names.tail.getD j default=gs names (j+1)):=by
      unfold Hid gs;cases names with
      | nil=>simp at hlj
      | cons a l=>rfl
     have vL:=aa hlj;(have xA:Hid (((gs names 0::bh (fun i=>!k.testBit i) names.tail j).map Value.string).length≤1000000∧((bh (fun i=>k.testBit i) names.tail j).map Value.string).length≤1000000):=by have a1:=lZ (fun i=>!k.testBit i) names.tail j;have a2:=lZ (fun i=>k.testBit i) names.tail j;unfold Hid;rw [List.length_map,List.length_map,List.length_cons];omega);have cz:Hid (wo.heap.size≤wi.heap.size):=hU.out.size;obtain ⟨ap,ac,rfl,-⟩:=hD.out.ao.form rfl;obtain ⟨bp,bc,rfl,-⟩:=hD.out.bo.form rfl;rw [pQ.out] at iN bU;clear hlj;cases hb:k.testBit j
     ·rw [hb] at tP iN bU
      have tP:bits BinOp.and IntKind.i64 ((k:Int) / 2 ^ j) 1=0:=tP;have iN:Hid (bh (fun i=>!k.testBit i) names.tail (j+1)=bh (fun i=>!k.testBit i) names.tail j++[gs names (j+1)]):=iN.out;(have bU:Hid (bh (fun i=>k.testBit i) names.tail (j+1)=bh (fun i=>k.testBit i) names.tail j):=by unfold Hid;rw [bU.out];simp);clear hb
      gi_wp2_with (gi_at_builtin;refine o7 wi rfl _ _ 22 rfl wo.heap.size 9 (.string ⟨#[]⟩) 16 Tryz.underlying22 Tryz.iE rfl (by decide) hD.out.ao rfl (.string (gs names (j+1))) rfl rfl _ rfl xA.out.1 cz.out ?_;intro g8 gZ w8 bJ cD fS;have Gk:=aa (hD.out.Wk bJ cD fS);have mg:=aa (hD.out.ao.dh cD cz.out);clear bJ cD fS)
      go_roundw
      case rel=>exact ⟨j+1,by have:=vL.out;omega,by go_num,by rw [iN.out,bU.out];have q:=Gk.out;simp only [List.length_map,List.length_cons] at q;exact q,Below.trans (show Below wo.heap.size wo wi from hU.out) mg.out⟩
      case measure=>have:=vL.out;simp [intOf];omega
     ·rw [hb] at tP iN bU
      have tP:bits BinOp.and IntKind.i64 ((k:Int) / 2 ^ j) 1=1:=tP;(have iN:Hid (bh (fun i=>!k.testBit i) names.tail (j+1)=bh (fun i=>!k.testBit i) names.tail j):=by unfold Hid;rw [iN.out];simp);have bU:Hid (bh (fun i=>k.testBit i) names.tail (j+1)=bh (fun i=>k.testBit i) names.tail j++[gs names (j+1)]):=bU.out;clear hb
      gi_wp2_with (gi_at_builtin;refine o7 wi rfl _ _ 22 rfl wo.heap.size 9 (.string ⟨#[]⟩) 16 Tryz.underlying22 Tryz.iE rfl (by decide) hD.out.bo rfl (.string (gs names (j+1))) rfl rfl _ rfl xA.out.2 cz.out ?_;intro g8 gZ w8 bJ cD fS;have Gk:=aa (hD.out.Wl bJ cD fS);have mg:=aa (hD.out.bo.dh cD cz.out);clear bJ cD fS)
      go_roundw
      case rel=>exact ⟨j+1,by have:=vL.out;omega,by go_num,by rw [iN.out,bU.out];have q:=Gk.out;simp only [List.length_map,List.length_cons] at q;exact q,Below.trans (show Below wo.heap.size wo wi from hU.out) mg.out⟩
      case measure=>have:=vL.out;simp [intOf];omega
    ·obtain rfl:j=names.length - 1:=by omega
     obtain ⟨ap,ac,hae,-⟩:=hD.out.ao.form rfl;obtain ⟨bp,bc,Al,-⟩:=hD.out.bo.form rfl;subst hae;subst Al;obtain ⟨va,Wm⟩:∃va,va=Value.slice ap ((gs names 0::bh (fun i=>!k.testBit i) names.tail (names.length - 1)).map Value.string).length ac:=⟨_,rfl⟩;obtain ⟨vb,hvb⟩:∃vb,vb=Value.slice bp ((bh (fun i=>k.testBit i) names.tail (names.length - 1)).map Value.string).length bc:=⟨_,rfl⟩;rw [← Wm,← hvb] at hD
     have Zm:J ys (fun b=>L' b∨(wo.heap.size≤b∧b<wi.heap.size)) wi:=HA.out ys L' _ wo wi Zj.out ⟨hU.out.os,hU.out.tape,hU.out.output,hU.out.size,fun b hb _=>Below.block hU.out b hb,fun b hb=>hb.imp (fun e=>⟨e,(Ac.out b e).2⟩) id⟩;have LB:Wj names (k,va,vb) (fun b=>L' b∨(wo.heap.size≤b∧b<wi.heap.size)) wi:=⟨⟨hk1,by rw [← HM.out];exact hlt⟩,hD.out.ao.strs.sub fun b hb hl=>.inr ⟨hb,hl⟩,hD.out.bo.strs.sub fun b hb hl=>.inr ⟨hb,hl⟩⟩;have Wn:=congrArg List.length hys.out;rw [List.length_map,List.length_range'] at Wn;have hwi:=hU.out.size;have Zn:=Nc.out.size
     obtain ⟨fn,tmps,assign,body,hy,hR⟩:=HY.out ys (k,va,vb) _ wi Zm LB (Nc.out.trans (hU.out.mono Zn)) (fun b hb=>by
      rcases hb with hb | hb
      ·have:=Ac.out b hb;omega
      ·omega) (by have:=HN.out;omega)
     have HYS:Hid ((ys++[(k,va,vb)]).map (·.1)=List.range' 1 k):=by
      unfold Hid;rw [List.map_append,hys.out];have:k=(k - 1)+1:=by omega
      conv=>rhs;rw [this,List.range'_concat]
      simp;omega
     have wE:Hid (∀b,(L' b∨(wo.heap.size≤b∧b<wi.heap.size))→w0.heap.size≤b∧b<wi.heap.size):=fun b hb=>by
      rcases hb with hb | hb
      ·have:=Ac.out b hb;omega
      ·omega
     have hcb2:=hU.out.cell hcb;have HCB2:=aa hcb2;have aW:=aa hlt;simp only at hy;clear Zm LB Wn hD hwi Zn EO;rw [← Wm,← hvb];clear Wm hvb;gi_wp2
     first | refine ⟨trivial,fun h=>(by cases h),?_⟩ | refine ⟨fun h=>(by cases h),?_⟩
     refine hR.mono ?_;rintro e W7 ⟨rfl,Zo,mg,Zp,Zq⟩;have H8:=aa (⟨Zo,mg,Zp,Zq⟩:_∧_∧_∧_);clear Zo mg Zp Zq hR;gi_wp2
     go_roundw
     case rel=>exact ⟨k+1,ys++[(k,va,vb)],_,by omega,aW.out,by go_num,HYS.out,H8.out.1,H8.out.2.1,fun b hb=>by have h1:=wE.out b hb;have h2:=H8.out.2.2.1;omega,.inl Zk.out,(World.cell?_of_block (a:=⟨Bt,0,none⟩) (H8.out.2.2.2 Bt (.inl (.inl Zk.out)))).trans HCB2.out⟩
     case measure=>have:=aW.out;simp [intOf];omega
  ·obtain rfl:k=M:=by omega
   gi_wp2
   go_end0
   exact ⟨⟨_,rfl⟩,ys,L',by rw [hys.out,HM.out],Zj.out⟩
end
end
section
open Go.RowKit Go.Deep
@[go_sem high] theorem Zr (w:World) (ts:Array TypeId) (t:TypeId) (k:IntKind):(Builtin.max_ ts t #[.int k 0,.int k 0,.int k 0,.int k 0,.int k 0,.int k 0,.int k 0]).run Tryz.prog w=.ok (.int k 0) w:=by
 simp [Builtin.max_,Builtin.max2]
end
section
def pR:List ByteArray:=[⟨#[65]⟩,⟨#[66]⟩,⟨#[67]⟩,⟨#[68]⟩]
def tQ:List (List Int):=[[0],[0],[1],[1]]
def Gl:List (List Int):=[[0,2],[0,-1],[1,3]]
def rF:aD:=⟨[-1,0,0,2,2,4,4],[⟨#[]⟩,⟨#[65]⟩,⟨#[]⟩,⟨#[66]⟩,⟨#[]⟩,⟨#[67]⟩,⟨#[68]⟩]⟩
def BU:aD:=⟨[-1,0,0,2,3,3,2],[⟨#[]⟩,⟨#[65]⟩,⟨#[]⟩,⟨#[]⟩,⟨#[66]⟩,⟨#[67]⟩,⟨#[68]⟩]⟩
def BV:aD:=⟨[-1,0,0,2,3,3,2],[⟨#[]⟩,⟨#[65]⟩,⟨#[]⟩,⟨#[]⟩,⟨#[66]⟩,⟨#[68]⟩,⟨#[67]⟩]⟩
theorem Nd:allT pR=[BU,BV,rF]:=by decide +kernel
theorem Gm:aZ pR tQ=0:=by decide +kernel
theorem Wo:bZ rF pR tQ=1∧bZ BU pR tQ=2∧bZ BV pR tQ=2:=by decide +kernel
theorem Gn:gL pR tQ=1:=by
 obtain ⟨h1,h2,h3⟩:=Wo;unfold gL;rw [Nd];show mnK (fun k=>bZ (gt [BU,BV,rF] k) pR tQ) 3=1;have e0:bZ (gt [BU,BV,rF] 0) pR tQ=2:=h2;have e1:bZ (gt [BU,BV,rF] 1) pR tQ=2:=h3;have e2:bZ (gt [BU,BV,rF] 2) pR tQ=1:=h1;simp [mnK,e0,e1,e2]
theorem Tc:ox pR tQ=[rF]:=by
 obtain ⟨h1,h2,h3⟩:=Wo;unfold ox;rw [Nd,Gn];simp [h1,h2,h3]
theorem zJ:cw Gl=0∧Gh Gl=2:=by decide +kernel
end
end Go.Proofs.YthgabkgmkolobaaGreat
