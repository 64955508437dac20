/- Plain: the texts of the rooted binary trees as the reference makes them; its insertion of .. -/
import Derived.Test.YthgabkgmkolobaaGreatQ25
set_option maxRecDepth 100000
set_option maxHeartbeats 8000000
namespace Go.Proofs.YthgabkgmkolobaaGreat
section
def ur (L:List ByteArray):List (BT ByteArray):=rf L.length L
def dF (L:List ByteArray):List ByteArray:=(ur L).map qx
def eA (L:List ByteArray) (bits:Nat):List ByteArray:=gs L 0::cG (fun i=>bits.testBit i) L.tail (L.length - 1)
def eB (L:List ByteArray) (bits:Nat):List ByteArray:=cG (fun i=>!bits.testBit i) L.tail (L.length - 1)
def Oi (L:List ByteArray) (bits:Nat):List ByteArray:=(dF (eA L bits)).flatMap fun s=>(dF (eB L bits)).map fun t=>pairT s t
theorem L3 (L:List ByteArray):(r5 L).Perm (ur L):=rt_rf _ _
theorem Vx (L:List ByteArray):(dH L).Perm (dF L):=(L3 L).map qx
theorem e_flip (L:List ByteArray) {bits:Nat} (h:bits<2 ^ (L.length - 1) - 1):eA L bits=dA L (2 ^ (L.length - 1) - 1 - bits)/\eB L bits=dB L (2 ^ (L.length - 1) - 1 - bits):=by
 have e1:∀i,i<L.length - 1->(2 ^ (L.length - 1) - 1 - bits).testBit i=!bits.testBit i:=fun i hi=>by have:=Nat.testBit_two_pow_sub_succ (x:=bits) (n:=L.length - 1) (by omega) i;rw [show 2 ^ (L.length - 1) - 1 - bits=2 ^ (L.length - 1) - (bits+1) by omega,this];simp [hi]
 unfold eA eB dA dB;rw [yJ (p:=fun i=>!(2 ^ (L.length - 1) - 1 - bits).testBit i) (q:=fun i=>bits.testBit i) fun i hi=>by rw [e1 i hi,Bool.not_not],yJ (p:=fun i=>(2 ^ (L.length - 1) - 1 - bits).testBit i) (q:=fun i=>!bits.testBit i) e1];exact ⟨rfl,rfl⟩
theorem e_len {L:List ByteArray} (h:2<=L.length) {bits:Nat} (h2:bits<2 ^ (L.length - 1) - 1):(eA L bits).length<L.length/\1<=(eA L bits).length/\(eB L bits).length<L.length/\1<=(eB L bits).length:=by
 obtain ⟨e1,e2⟩:=e_flip L h2;rw [e1,e2];exact d_len h (by omega) (by omega)
theorem mem_e {L:List ByteArray} {bits:Nat} (h:1<=L.length) (h2:bits<2 ^ (L.length - 1) - 1):(∀x∈eA L bits,x∈L)/\∀x∈eB L bits,x∈L:=by
 obtain ⟨e1,e2⟩:=e_flip L h2;rw [e1,e2];exact mem_d h
theorem Kb:∀(d e:Nat) (L:List ByteArray),L.length<=d->L.length<=e->rf d L=rf e L
 | 0,e,L,h,_=>by
  have:L=[]:=oJ (by omega)
  subst this
  cases e<;>rfl
 | d+1,0,L,_,h=>by
  have:L=[]:=oJ (by omega)
  subst this;rfl
 | _+1,_+1,[],_,_=>rfl
 | _+1,_+1,[x],_,_=>rfl
 | d+1,e+1,x::y::L,h1,h2=>by
  rw [rf,rf]
  refine qo fun bits hb=>?_
  have hb:=bh.1 hb
  have hd:=e_len (L:=x::y::L) (by simp) (bits:=bits) (by have:(x::y::L).length - 1=(y::L).length:=rfl;rw [this];omega)
  have ea:eA (x::y::L) bits=x::cG (fun i=>bits.testBit i) (y::L) (y::L).length:=rfl
  have eb:eB (x::y::L) bits=cG (fun i=>!bits.testBit i) (y::L) (y::L).length:=rfl
  rw [<- ea,<- eb]
  simp only [aT] at hd h1 h2
  rw [Kb d e (eA _ _) (by omega) (by omega),Kb d e (eB _ _) (by omega) (by omega)]
theorem rfT_one (x:ByteArray):dF [x]=[x]:=by
 unfold dF ur;rw [CM,rf,List.map_singleton,LR]
theorem rfT_eq {L:List ByteArray} (h:2<=L.length):dF L=(List.range (2 ^ (L.length - 1) - 1)).flatMap (Oi L):=by
 obtain ⟨x,y,L,rfl⟩:∃x y L',L=x::y::L':=by
  cases L with
  | nil=>simp at h
  | cons x L =>
   cases L with
   | nil=>simp at h
   | cons y L=>exact ⟨x,y,L,rfl⟩
 unfold dF ur;have e1:(x::y::L).length=(y::L).length+1:=rfl;rw [e1,rf,CN,Nat.add_sub_cancel];refine qo fun bits hb=>?_;have hb:=bh.1 hb;have hd:=e_len (L:=x::y::L) h (bits:=bits) (by have:(x::y::L).length - 1=(y::L).length:=rfl;rw [this];omega);unfold Oi dF;rw [CN,Fu];have ea:eA (x::y::L) bits=x::cG (fun i=>bits.testBit i) (y::L) (y::L).length:=rfl;have eb:eB (x::y::L) bits=cG (fun i=>!bits.testBit i) (y::L) (y::L).length:=rfl;rw [<- ea,<- eb]
 have f1:rf (y::L).length (eA (x::y::L) bits)=ur (eA (x::y::L) bits):=Kb _ _ _ (by simp only [aT] at hd ⊢;omega) (af _);have f2:rf (y::L).length (eB (x::y::L) bits)=ur (eB (x::y::L) bits):=Kb _ _ _ (by simp only [aT] at hd ⊢;omega) (af _);rw [f1,f2];refine qo fun a _=>?_;rw [jO,jO];refine lU fun b _=>?_;exact LS a b
theorem yh {L:List ByteArray} (h:L.length<=4):(dF L).length<=15:=by
 rw [<- (Vx L).length_eq];exact A6 h
theorem L8 {L:List ByteArray} (h:L.length<=4) (hz:∀x∈L,x.size<=20) {s:ByteArray} (hs:s∈dF L):s.size<=100:=F5 h hz ((Vx L).mem_iff.2 hs)
def zo (L:List ByteArray) (n:Nat):List ByteArray:=(List.range n).flatMap (Oi L)
theorem evK_succ (L:List ByteArray) (n:Nat):zo L (n+1)=zo L n++Oi L n:=by
 unfold zo;rw [rX,sF];simp
theorem evT_len {L:List ByteArray} {bits:Nat} (ha:(eA L bits).length<=4) (hb:(eB L bits).length<=4):(Oi L bits).length<=225:=by
 unfold Oi;have h1:=yh ha;have h2:=yh hb;have h3:=vH (f:=fun s=>(dF (eB L bits)).map fun t=>pairT s t) (K:=15) (dF (eA L bits)) fun s _=>by rw [aG];exact h2
 have h4:(dF (eA L bits)).length*15<=15*15:=yZ _ h1;omega
theorem evK_len {L:List ByteArray} (h2:2<=L.length) (h:L.length<=4) {n:Nat} (hn:n<=2 ^ (L.length - 1) - 1):(zo L n).length<=n*225:=by
 unfold zo;have h1:=vH (f:=Oi L) (K:=225) (List.range n) fun b hb=>by have hb:=bh.1 hb;have he:=e_len h2 (bits:=b) (by omega);exact evT_len (by omega) (by omega)
 rw [wP] at h1;exact h1
def zZ (L:List ByteArray) (bits n:Nat):List ByteArray:=((dF (eA L bits)).take n).flatMap fun s=>(dF (eB L bits)).map fun t=>pairT s t
theorem eoK_succ (L:List ByteArray) (bits:Nat) {n:Nat} (h:n<(dF (eA L bits)).length):zZ L bits (n+1)=zZ L bits n++(dF (eB L bits)).map fun t=>pairT (gs (dF (eA L bits)) n) t:=by
 have hg:gs (dF (eA L bits)) n=(dF (eA L bits))[n]:=by simp [gs,h]
 unfold zZ;rw [jY h,sF,hg];simp
theorem eoK_all (L:List ByteArray) (bits:Nat):zZ L bits (dF (eA L bits)).length=Oi L bits:=by unfold zZ Oi;rw [gh]
theorem eoK_len {L:List ByteArray} {bits n:Nat} (ha:(eA L bits).length<=4) (hb:(eB L bits).length<=4):(zZ L bits n).length<=225:=by
 unfold zZ;have h1:=yh ha;have h2:=yh hb;have h3:=vH (f:=fun s=>(dF (eB L bits)).map fun t=>pairT s t) (K:=15) ((dF (eA L bits)).take n) fun s _=>by rw [aG];exact h2
 rw [gV] at h3;have h4:(min n (dF (eA L bits)).length)*15<=15*15:=yZ _ (by omega);omega
def Jh (L:List ByteArray) (bits n:Nat):List ByteArray:=gs L 0::cG (fun i=>bits.testBit i) L.tail n
def Ji (L:List ByteArray) (bits n:Nat):List ByteArray:=cG (fun i=>!bits.testBit i) L.tail n
theorem eaN_succ (L:List ByteArray) (bits n:Nat) (h:n+1<L.length):Jh L bits (n+1)=Jh L bits n++(if bits.testBit n then [gs L (n+1)] else [])/\Ji L bits (n+1)=Ji L bits n++(if bits.testBit n then [] else [gs L (n+1)]):=by
 have hg:L.tail.getD n default=gs L (n+1):=by
  unfold gs;cases L with
  | nil=>simp at h
  | cons a l =>
   (have hl:n<l.length:=by simpa using h);simp [hl]
 unfold Jh Ji;rw [pX,pX,hg];cases bits.testBit n<;>simp
theorem Zj (L:List ByteArray) (bits:Nat):Jh L bits (L.length - 1)=eA L bits/\Ji L bits (L.length - 1)=eB L bits:=⟨rfl,rfl⟩
theorem ins_at {q:RT} {xs:List RT} (hs:xs.Pairwise kZ) {k:Nat} (hk:k<=xs.length) (hhi:∀j,k<=j->j<xs.length->¬kZ (xs.getD j (.node ByteArray.empty [])) q) (hlo:k=0\/kZ (xs.getD (k - 1) (.node ByteArray.empty [])) q):(xs.take k++q::xs.drop k).Perm (q::xs)/\(xs.take k++q::xs.drop k).Pairwise kZ:=by
 constructor
 ·refine List.perm_middle.trans ?_
  rw [wR]
 ·have hs2:=hs
  rw [<- wR k xs,List.pairwise_append] at hs2;obtain ⟨h1,h2,h3⟩:=hs2;rw [List.pairwise_append,iI];have hd:∀b∈xs.drop k,kZ q b:=fun b hb=>by obtain ⟨j,hj,e⟩:=CO.1 hb;rw [wO] at hj;rw [List.getElem_drop] at e;have:=hhi (k+j) (by omega) (by omega);rw [kD,iQ (by omega),Option.getD_some,e] at this;exact kZ.total this
  have ht:∀a∈xs.take k,kZ a q:=fun a ha=>by
   rcases hlo with e | h
   ·subst e;simp at ha
   ·obtain ⟨j,hj,e⟩:=CO.1 ha
    rw [gV] at hj;rw [List.getElem_take] at e;rw [kD,iQ (by omega),Option.getD_some] at h;by_cases ej:j=k - 1
    ·subst ej;rw [<- e];exact h
    ·have:=nS.1 hs j (k - 1) (by omega) (by omega) (by omega)
     rw [e] at this;exact this.trans h
  exact ⟨h1,⟨hd,h2⟩,fun a ha b hb=>by
   rcases aW.1 hb with rfl | hb
   ·exact ht a ha
   ·exact (ht a ha).trans (hd b hb)⟩
theorem keyB_parse {aac:List ByteArray} (hn:gT aac) {q:RT} (hq:q∈cI aac):(cz q).size<=1000/\Df (cz q)=0/\zU (cz q)=flat q:=by
 obtain ⟨h1,h2,h3,h4,h5,h6⟩:=jU hn hq;have hg:=h1.good;have hp:qw (cz q).data.toList=some q:=by
  have e:(cz q).data.toList=dy q++[59]:=by unfold cz fq;simp
  rw [e];exact EK hg.qq
 refine ⟨?_,by unfold Df;rw [hp];exact h5,by unfold zU;rw [hp];simp [h5]⟩;have hl:=J5 (M:=20) q fun s hs=>by
  rw [wk] at hs;obtain ⟨u,hu,rfl⟩:=cm.1 hs;by_cases e:u.kids=[]
  ·exact tT (hg.lf u hu e)
  ·rw [hg.wm u hu e];exact aL _
 have hs:(cz q).size=(fq q).length:=by unfold cz;rw [<- size_data]
 have hk:(fq q).length=(dy q).length+1:=by unfold fq;simp
 have:=hn.hi;have h9:aU q*(20+3)<=9*23:=yZ _ (by omega);omega
theorem rf_all {aac:List ByteArray} (hn:gT aac) {qs:List RT} (hp:qs.Perm ((ur aac.tail).map (uR aac))) (hs:qs.Pairwise kZ):qs=cI aac:=by
 have h1:((ur aac.tail).map (uR aac)).Perm ((rt aac.length aac.tail).map (uR aac)):=by have:rt aac.length aac.tail=r5 aac.tail:=yc _ _ _ (by simp) (af _);rw [this];exact ((L3 _).symm).map _
 refine F2 (hp.trans (h1.trans (tA _).symm)) hs (DW _) fun r hr=>?_;have hr2:r∈cI aac:=(tA _).mem_iff.2 (h1.mem_iff.1 (hp.mem_iff.1 hr));exact (jU hn hr2).1.good.qq
end
section
open Go.RowKit Go.Deep
structure zq (lo:Nat) (w w2 wr:World) (tv:Value) (L:List ByteArray):Prop where
 up:Up w wr
 sz:w.heap.size<=lo/\lo<=w2.heap.size/\w2.heap.size<=wr.heap.size
 own:ax w.heap.size 9 wr tv (L.map Value.string)
 blk:∀b,tv.ownBlock=some b->b<lo\/w2.heap.size<=b
 keep:∀b,lo<=b->b<w2.heap.size->wr.heap[b]? = w2.heap[b]?
section
variable {lo:Nat} {w w2 wr W:World} {tv:Value} {L:List ByteArray} {s:ByteArray} {g cap k j:Nat}
theorem zq.next (h:zq lo w w2 wr tv L) (hu:Up wr W):zq lo w w2 W tv L:=by
 obtain ⟨z1,z2,z3⟩:=h.sz;exact ⟨h.up.trans hu,⟨z1,z2,aJ z3 hu.size⟩,h.own.fM fun b hb=>bI hu b (av h.own hb).2,h.blk,fun b h1 h2=>(bI hu b (by omega)).trans (h.keep b h1 h2)⟩
theorem zq.app (h:zq lo w w2 wr tv L) (ho:ax w.heap.size 9 W (.slice (some ⟨g,0,none⟩) k cap) (L.map Value.string++[.string s])) (hg:wr.grownBy W tv.ownBlock) (dD:tv.ownBlock=some g\/wr.heap.size<=g):zq lo w w2 W (.slice (some ⟨g,0,none⟩) k cap) (L++[s]):=by
 have hlo:=fun b hb=>(av h.own (b:=b) hb);obtain ⟨z1,z2,z3⟩:=h.sz;refine ⟨⟨hg.os.trans h.up.os,hg.tape.trans h.up.tape,hg.output.trans h.up.output,aJ h.up.size hg.size,fun b hb=>?_⟩,⟨z1,z2,aJ z3 hg.size⟩,by rw [cg];exact ho,fun b hb=>?_,fun b h1 h2=>?_⟩
 ·have:=h.up.size
  exact (hg.block b (by omega) fun e=>by have:=(hlo b e.symm).1;omega).trans (h.up.block b hb)
 ·have hb:some g=some b:=hb
  injection hb with hb;subst hb;rcases dD with e | e
  ·exact h.blk g e
  ·exact .inr (aJ z3 e)
 ·refine (hg.block b (by omega) fun e=>?_).trans (h.keep b h1 h2)
  rcases h.blk b e.symm with e | e<;>omega
theorem zq.set (h:zq lo w w2 wr tv L) (hj:j<L.length):∃g cap,tv=.slice (some ⟨g,0,none⟩) L.length cap/\wr.cell? ⟨g,j,none⟩=some (.string (gs L j))/\wr.frozen? ⟨g,j,none⟩=false/\∀x,zq lo w w2 (wr.setCell ⟨g,j,none⟩ (.string x)) tv (L.set j x):=by
 obtain ⟨g,cap,e,h1,h2,h3,h4,h5⟩:=h.own.set (j:=j) (by rw [aG];exact hj);have hgd:(L.map Value.string).getD j undef=.string (gs L j):=by simp [gs,hj]
 rw [hgd] at h3;rw [aG] at e;refine ⟨g,cap,e,h3,h4,fun x=>?_⟩;have dR:∀b,b≠g->(wr.setCell ⟨g,j,none⟩ (.string x)).heap[b]? = wr.heap[b]?:=fun b hb=>blk_setCell_other _ _ _ _ hb;have hbk:g<lo\/w2.heap.size<=g:=h.blk g (by rw [e];rfl);obtain ⟨z1,z2,z3⟩:=h.sz;refine ⟨yC (p:=⟨g,j,none⟩) h.up h1 _,⟨z1,z2,by rw [mW];exact z3⟩,?_,h.blk,fun b q1 q2=>(dR b (by omega)).trans (h.keep b q1 q2)⟩;have h6:=h5 (.string x);rw [<- List.map_set] at h6;exact h6
theorem zq.strs {v:Value} {T:List ByteArray} (h:zq lo w w2 wr tv L) (hT:au (fun b=>lo<=b/\b<w2.heap.size) w2 v T):au (fun b=>lo<=b/\b<w2.heap.size) wr v T:=au.keep hT fun b hb _=>h.keep b hb.1 hb.2
end
def Ce (xs:List ByteArray) (k:Nat) (j:ByteArray):List ByteArray:=xs.take k++j::xs.drop k
theorem Vy {xs:List ByteArray} {k:Nat} {j:ByteArray}:(Ce xs k j).length=xs.length+1:=by
 unfold Ce;rw [aZ,aT,gV,wO];omega
theorem jk_start (xs:List ByteArray) (s:ByteArray):xs++[s]=Ce xs xs.length s:=by unfold Ce;simp
theorem jk_prev {xs:List ByteArray} {k:Nat} {j:ByteArray} (h0:0<k) (hk:k<=xs.length):gs (Ce xs k j) (k - 1)=gs xs (k - 1):=by
 unfold Ce gs;rw [kD,kD,M3 (by rw [gV];omega),List.getElem?_take_of_lt (by omega)]
theorem jk_put {xs:List ByteArray} {k:Nat} {j s:ByteArray} (hk:k<=xs.length):(Ce xs k j).set k s=Ce xs k s:=by
 unfold Ce;rw [List.set_append,if_neg (by rw [gV];omega)];have:k - (xs.take k).length=0:=by rw [gV];omega
 rw [this];rfl
theorem jk_shift {xs:List ByteArray} {k:Nat} {j:ByteArray} (h0:0<k) (hk:k<=xs.length):(Ce xs k j).set k (gs xs (k - 1))=Ce xs (k - 1) (gs xs (k - 1)):=by
 rw [jk_put hk];unfold Ce;obtain ⟨m,rfl⟩:∃m,k=m+1:=⟨k - 1,by omega⟩;have hg:gs xs (m+1 - 1)=xs[m]:=by simp [gs,show m<xs.length by omega]
 have hd:xs.drop m=xs[m]::xs.drop (m+1):=Aj (by omega);rw [hg,Nat.add_sub_cancel,jY (by omega),dN,<- hd];rfl
theorem ax.made1 (w:World) (e:TypeId) (u:Value):ax w.heap.size e (w.alloc (.cells #[u] e)) (.slice (some ⟨w.heap.size,0,none⟩) 1 1) [u]:=LW w _ e u (af _)
theorem dup_start (w:World) (x:ByteArray):Dup w.heap.size ((w.alloc (.cells #[.string x] 9)).alloc (.cells #[] 9)) (.slice (some ⟨w.heap.size,0,none⟩) 1 1) (.slice (some ⟨w.heap.size+1,0,none⟩) 0 0) [x] []:=by
 have h1:=ax.made1 w 9 (.string x);have h2:=ax.made (w.alloc (.cells #[.string x] 9)) 9;have hs:(w.alloc (.cells #[.string x] 9)).heap.size=w.heap.size+1:=aQ _ _;rw [hs] at h2;refine ⟨h1.fM fun b hb=>bI (Up.alloc _ _) b (av h1 hb).2,⟨by have:=h2.1;omega,?_⟩,fun b hb hb2=>?_⟩
 ·rcases h2.2 with h | ⟨g,c,cur,e,hg,h⟩
  ·exact .inl h
  ·exact .inr ⟨g,c,cur,e,by omega,h⟩
 ·injection hb with hb
  injection hb2 with hb2;have hb:w.heap.size=b:=hb;have hb2:w.heap.size+1=b:=hb2;omega
def E2 (w:World) (aac:List ByteArray) (e:Ending) (w':World):Prop:=Up w w'/\∃v,e=.returned v/\ax w.heap.size 9 w' v ((dF aac).map Value.string)
def RfI (w:World) (aac:List ByteArray) (n:Nat) (out:Value) (wr:World):Prop:=Up w wr/\ax w.heap.size 9 wr out ((zo aac n).map Value.string)
theorem pow_le8 {n:Nat} (h:n<=4) (h1:1<=n):2 ^ (n - 1)<=8/\1<=2 ^ (n - 1):=by
 have:2 ^ (n - 1)<=2 ^ 3:=Nat.pow_le_pow_right (by decide) (by omega);exact ⟨by omega,Nat.one_le_two_pow⟩
theorem XX:∀(d:Nat) (aac:List ByteArray),aac.length<=d->1<=aac.length->aac.length<=4->(∀x∈aac,x.size<=20)->∀(S:Nat->Prop) (w:World) (v:Value),au S w v aac->Calls Tryz.prog 145 #[v] w (E2 w aac):=by
 intro d
 induction d with
 | zero=>intro aac h1 h2;omega
 | succ d ih =>
 intro aac hd h1 h4 hz S w v h;obtain ⟨mp,mc,rfl,hmc,-⟩:=ay.open h;have h:au S w (.slice mp aac.length mc) aac:=h;obtain ⟨nb,no,rfl,hc0⟩:=dr h (k:=0) (by omega);rw [jZ] at hc0;by_cases hone:aac.length=1
 ·have d1:((aac.length:Int)==1)=true:=by rw [hone];rfl
  have hrt:dF aac=[gs aac 0]:=by obtain ⟨x,rfl⟩:=CK.1 hone;exact rfT_one x
  have HX:Hid (E2 w aac (.returned (.slice (some ⟨w.heap.size,0,none⟩) 1 1)) (w.alloc (.cells #[.string (gs aac 0)] 9))):=⟨Up.alloc _ _,_,rfl,by rw [hrt];exact ax.made1 _ _ _⟩;have i1:(0:Int)<(aac.length:Int):=by omega
  clear h hrt ih hz hd h4
  go_enter Tryz.func145,Tryz.ntmps145
  go_wp2_with fail;go_ret;exact HX.out
 have d1:((aac.length:Int)==1)=false:=beq_eq_false_iff_ne.2 (by omega);have h2:2<=aac.length:=by omega
 have qu:=aa ih;have HH:=aa h;have HZ:=aa hz;have HD:=aa hd;have jx:=aa hc0;obtain ⟨M,hM⟩:∃M:Nat,M=2 ^ (aac.length - 1):=⟨_,rfl⟩;have hM8:=pow_le8 h4 h1;rw [<- hM] at hM8;have HM:=aa hM;have HM8:=aa hM8;have hWS:wrap64 ((aac.length:Int) - 1)=((aac.length - 1:Nat):Int):=by unfold wrap64;omega
 have HIA:Hid (RfI w aac 0 (.slice (some ⟨w.heap.size,0,none⟩) 0 0) (w.alloc (.cells #[] 9))):=⟨Up.alloc _ _,by unfold zo;exact ax.made _ _⟩;have Hh:=aa h4;have i0:(0:Int)<(aac.length:Int):=by omega
 clear ih h hz hd h1 hone hc0 hM hM8
 go_enter Tryz.func145,Tryz.ntmps145
 go_wp2_with fail
 go_loopw [3,4,5,6,7,8,9,10,11] (fun out i _ _ _ _ _ _ _ wr=>∃n:Nat,n<=M - 1/\i=.int .i64 n/\Hid (RfI w aac n out wr)) (fun _ i _ _ _ _ _ _ _ _=>M - 1 - (intOf i).toNat)
 case atStart=>exact ⟨0,aL _,rfl,HIA.out⟩
 case round =>
  obtain ⟨n,hn,rfl,hI⟩:=hrel;obtain ⟨wo,rfl⟩:∃wo:World,wo=wr:=⟨_,rfl⟩;obtain ⟨mL,hOo⟩:=hI.out;have hWM:wrap64 ((2:Int) ^ (aac.length - 1))=(M:Int):=by (have:((2:Int) ^ (aac.length - 1))=(M:Int):=by rw [HM.out];simp);rw [this];unfold wrap64;have:=HM8.out;omega
  have hWN:wrap64 ((M:Int) - 1)=((M - 1:Nat):Int):=by unfold wrap64;have:=HM8.out;omega
  have j0:(0:Int)<=(n:Int):=by omega
  by_cases hlt:n<M - 1
  ·have i1:(n:Int)<((M - 1:Nat):Int):=by omega
   (have i2:(n:Int)<8:=by have:=HM8.out;omega);have hc0:=mL.cell jx.out;(have hlt2:n<2 ^ (aac.length - 1) - 1:=by rw [<- HM.out];exact hlt);obtain ⟨l1,l2,l3,l4⟩:=e_len h2 hlt2;obtain ⟨m1,m2⟩:=mem_e (L:=aac) (by omega) hlt2;have U4:∀x∈eA aac n,x.size<=20:=fun x hx=>HZ.out x (m1 x hx);have hzb:∀x∈eB aac n,x.size<=20:=fun x hx=>HZ.out x (m2 x hx);have N3:Hid (∀S W v,au S W v (eA aac n)->Calls Tryz.prog 145 #[v] W (E2 W (eA aac n))):=fun S W v hv=>qu.out (eA aac n) (by have:=HD.out;omega) l2 (by have:=Hh.out;omega) U4 S W v hv
   have mX:Hid (∀S W v,au S W v (eB aac n)->Calls Tryz.prog 145 #[v] W (E2 W (eB aac n))):=fun S W v hv=>qu.out (eB aac n) (by have:=HD.out;omega) l4 (by have:=Hh.out;omega) hzb S W v hv;have ID:Hid ((dF (eA aac n)).length<=15/\∀k,(gs (dF (eA aac n)) k).size<=100):=⟨yh (by have:=Hh.out;omega),lF fun x hx=>L8 (by have:=Hh.out;omega) U4 hx⟩;have zg:Hid ((dF (eB aac n)).length<=15/\∀k,(gs (dF (eB aac n)) k).size<=100):=⟨yh (by have:=Hh.out;omega),lF fun x hx=>L8 (by have:=Hh.out;omega) hzb hx⟩
   have HE4:Hid ((eA aac n).length<=4/\(eB aac n).length<=4):=⟨by have:=Hh.out;omega,by have:=Hh.out;omega⟩;(have Rq:Hid ((zo aac n).length<=8*225):=by have h5:=evK_len h2 Hh.out (n:=n) (by omega);have:=HM8.out.1;exact aJ h5 (yZ _ (by omega)));have HD0:=aa (dup_start wo (gs aac 0));have cA:=aa ((Up.alloc wo (.cells #[.string (gs aac 0)] 9)).trans (Up.alloc _ (.cells #[] 9)));have oV:=aa mL;have HOo:=aa hOo;have bu:=aa hlt;clear hlt hlt2 l1 l2 l3 l4 m1 m2 U4 hzb hI mL hOo;go_wp2_with fail
   generalize (wo.alloc (.cells #[.string (gs aac 0)] 9)).alloc (.cells #[] 9)=w1 at *;clear hWS hWM hWN
   go_loopw [5,6,7] (fun a b i wr=>∃m:Nat,m<=aac.length - 1/\i=.int .i64 ((m:Int)+1)/\Hid (Dup wo.heap.size wr a b (Jh aac n m) (Ji aac n m))/\Hid (Up wo wr)) (fun _ _ i _=>aac.length - (intOf i).toNat)
   case atStart=>exact ⟨0,aL _,rfl,HD0.out,cA.out⟩
   case round =>
    obtain ⟨m,hm,rfl,hD,hU⟩:=hrel;obtain ⟨wi,rfl⟩:∃wi:World,wi=wr:=⟨_,rfl⟩;(have k0:(0:Int)<=(m:Int):=by omega);(have kw:wrap64 ((m:Int)+1 - 1)=(m:Int):=by unfold wrap64;have:=Hh.out;omega);by_cases hlm:m<aac.length - 1
    ·have hcm:=(oV.out.trans hU.out).cell (ay.pQ HH.out (show m+1<aac.length by omega))
     (have k1:(m:Int)+1<(aac.length:Int):=by omega);(have k2:(m:Int)<4:=by have:=Hh.out;omega);(have zW:bits BinOp.and IntKind.i64 ((n:Int) / 2 ^ m) 1=if n.testBit m then 1 else 0:=by (have e:(n:Int) / 2 ^ m=((n / 2 ^ m:Nat):Int):=by simp);have:n / 2 ^ m<=n:=Nat.div_le_self _ _;rw [e,U1 _ (by have:=HM8.out;have:=bu.out;omega),Y6]);obtain ⟨e1,e2⟩:=eaN_succ aac n m (by omega);have qy:=aa e1;have fu:=aa e2;have U5:=aa hlm
     (have gI:Hid (((Jh aac n m).map Value.string).length<=1000000/\((Ji aac n m).map Value.string).length<=1000000):=by have a1:=qY (fun i=>n.testBit i) aac.tail m;have a2:=qY (fun i=>!n.testBit i) aac.tail m;have:=Hh.out;unfold Hid Jh Ji;rw [aG,aG,aT];omega);have fA:Hid (wo.heap.size<=wi.heap.size):=hU.out.size;obtain ⟨ap,ac,rfl,-⟩:=hD.out.ao.form rfl;obtain ⟨bp,bc,rfl,-⟩:=hD.out.bo.form rfl;have K6:=aa hD.out;have xL:=aa hU.out;clear hD hU hlm e1 e2;cases hb:n.testBit m
     ·rw [hb] at zW qy fu
      have zW:bits BinOp.and IntKind.i64 ((n:Int) / 2 ^ m) 1=0:=zW;(have HSA2:Hid (Jh aac n (m+1)=Jh aac n m):=by unfold Hid;rw [qy.out];simp);(have HSB2:Hid (Ji aac n (m+1)=Ji aac n m++[gs aac (m+1)]):=by unfold Hid;rw [fu.out];simp);clear hb qy fu
      go_wp2_with (at_builtin;refine jI wi rfl _ _ 22 rfl wo.heap.size 9 (.string ⟨#[]⟩) 16 Tryz.underlying22 Tryz.kR rfl (by decide) K6.out.bo rfl (.string (gs aac (m+1))) rfl rfl _ rfl gI.out.2 fA.out ?_;intro g8 oz w8 fH ic jJ;have U2:=aa (K6.out.appB fH ic jJ);have gK:=aa (K6.out.bo.fE ic fA.out);clear fH ic jJ)
      go_roundw
      case rel=>exact ⟨m+1,U5.out,by go_num,by rw [HSA2.out,HSB2.out];have q:=U2.out;simp only [aG] at q ⊢;exact q,iH (show Below wo.heap.size wo wi from xL.out) gK.out⟩
      case measure=>have:=U5.out;simp [intOf];omega
     ·rw [hb] at zW qy fu
      have zW:bits BinOp.and IntKind.i64 ((n:Int) / 2 ^ m) 1=1:=zW;(have HSA2:Hid (Jh aac n (m+1)=Jh aac n m++[gs aac (m+1)]):=by unfold Hid;rw [qy.out];simp);(have HSB2:Hid (Ji aac n (m+1)=Ji aac n m):=by unfold Hid;rw [fu.out];simp);clear hb qy fu
      go_wp2_with (at_builtin;refine jI wi rfl _ _ 22 rfl wo.heap.size 9 (.string ⟨#[]⟩) 16 Tryz.underlying22 Tryz.kR rfl (by decide) K6.out.ao rfl (.string (gs aac (m+1))) rfl rfl _ rfl gI.out.1 fA.out ?_;intro g8 oz w8 fH ic jJ;have U2:=aa (K6.out.appA fH ic jJ);have gK:=aa (K6.out.ao.fE ic fA.out);clear fH ic jJ)
      go_roundw
      case rel=>exact ⟨m+1,U5.out,by go_num,by rw [HSA2.out,HSB2.out];have q:=U2.out;simp only [aG] at q ⊢;exact q,iH (show Below wo.heap.size wo wi from xL.out) gK.out⟩
      case measure=>have:=U5.out;simp [intOf];omega
    ·obtain rfl:m=aac.length - 1:=by omega
     rw [(Zj aac n).1,(Zj aac n).2] at hD;obtain ⟨ap,ac,rfl,-⟩:=hD.out.ao.form (n:=(eA aac n).length) (by rw [aG]);obtain ⟨bp,bc,rfl,-⟩:=hD.out.bo.form (n:=(eB aac n).length) (by rw [aG]);have HA1:=aa (N3.out _ wi _ hD.out.ao.strs);have vW:=aa hD.out.bo.strs;have xL:=aa hU.out;(have i9:¬((aac.length - 1:Nat):Int)+1<(aac.length:Int):=by omega);clear hD hU hlm hm kw;go_wp2_with fail;refine HA1.out.mono ?_;rintro e W1 ⟨bA,sa,rfl,EE⟩;have lK:=aa (mX.out _ W1 _ (au.keep vW.out (bA.kept _)));have Rs:=aa bA
     clear bA HA1;go_wp2_with fail;refine lK.out.mono ?_;rintro e W2 ⟨aK,sb,rfl,mz⟩;have hz1:=Rs.out.size;have hz2:=aK.size;have hz0:=xL.out.size;obtain ⟨lp,lc,rfl,-⟩:=EE.form (n:=(dF (eA aac n)).length) (by rw [aG]);obtain ⟨rp,rc,rfl,-⟩:=mz.form (n:=(dF (eB aac n)).length) (by rw [aG]);have qy:Hid (au (fun b=>wo.heap.size<=b/\b<W2.heap.size) W2 (.slice lp (dF (eA aac n)).length lc) (dF (eA aac n))):=(au.keep EE.strs (aK.kept _)).sub fun b hb hl=>⟨by omega,hl⟩
     have fu:Hid (au (fun b=>wo.heap.size<=b/\b<W2.heap.size) W2 (.slice rp (dF (eB aac n)).length rc) (dF (eB aac n))):=mz.strs.sub fun b hb hl=>⟨by omega,hl⟩;have HW2:=aa ((xL.out.trans Rs.out).trans aK);have HAT0:Hid (zq wo.heap.size w W2 W2 u3 (zo aac n++zZ aac n 0)):=by (have e0:zo aac n++zZ aac n 0=zo aac n:=by unfold zZ;simp);rw [e0];have hzw:=oV.out.size;refine ⟨oV.out.trans HW2.out,⟨hzw,by omega,af _⟩,HOo.out.fM fun b hb=>bI HW2.out b (av HOo.out hb).2,fun b hb=>.inl (av HOo.out hb).2,fun _ _ _=>rfl⟩
     clear EE mz aK hz0 hz1 hz2 lK vW Rs N3 mX xL;go_wp2_with fail
     go_loopw [3,10,11] (fun o i _ wr=>∃k:Nat,k<=(dF (eA aac n)).length/\i=.int .i64 k/\Hid (zq wo.heap.size w W2 wr o (zo aac n++zZ aac n k))) (fun _ i _ _=>(dF (eA aac n)).length - (intOf i).toNat)
     case atStart=>exact ⟨0,aL _,rfl,HAT0.out⟩
     case round =>
      obtain ⟨k,hk,rfl,hA⟩:=hrel;obtain ⟨wp,rfl⟩:∃wp:World,wp=wr:=⟨_,rfl⟩;(have k0:(0:Int)<=(k:Int):=by omega);by_cases hlk:k<(dF (eA aac n)).length
      ·have k1:(k:Int)<((dF (eA aac n)).length:Int):=by omega
       (have k2:(k:Int)<16:=by have:=ID.out.1;omega);have E3:=aa hlk;have ND:=aa (eoK_succ aac n hlk);have HZS:Hid ((gs (dF (eA aac n)) k).size<=100):=ID.out.2 k;have hEK:(zZ aac n k).length<=225:=eoK_len HE4.out.1 HE4.out.2;have HEK:=aa hEK;have Vz:=aa hA.out;clear hA hlk hEK;go_wp2_with fail
       go_loopw [3,11] (fun o i wr=>∃q:Nat,q<=(dF (eB aac n)).length/\i=.int .i64 q/\Hid (zq wo.heap.size w W2 wr o ((zo aac n++zZ aac n k)++((dF (eB aac n)).take q).map fun t=>pairT (gs (dF (eA aac n)) k) t))) (fun _ i _=>(dF (eB aac n)).length - (intOf i).toNat)
       case atStart=>exact ⟨0,aL _,rfl,by rw [List.take_zero,wQ,gN];exact Vz.out⟩
       case round =>
        obtain ⟨q,hq,rfl,hB⟩:=hrel;obtain ⟨wq,rfl⟩:∃wq:World,wq=wr:=⟨_,rfl⟩;(have q0:(0:Int)<=(q:Int):=by omega);by_cases Zk:q<(dF (eB aac n)).length
        ·obtain ⟨ab,ao,rfl,hca⟩:=dr (hB.out.strs qy.out) E3.out
         obtain ⟨bb,bo,rfl,hcb⟩:=dr (hB.out.strs fu.out) Zk;(have q1:(q:Int)<((dF (eB aac n)).length:Int):=by omega);(have q2:(q:Int)<16:=by have:=zg.out.1;omega);have VA:=aa Zk;(have oy:Hid (((dF (eB aac n)).take (q+1)).map (fun t=>pairT (gs (dF (eA aac n)) k) t)=((dF (eB aac n)).take q).map (fun t=>pairT (gs (dF (eA aac n)) k) t)++[pairT (gs (dF (eA aac n)) k) (gs (dF (eB aac n)) q)]):=by unfold Hid;rw [jY Zk,cg];simp [gs,Zk]);have z1:(gs (dF (eA aac n)) k).size<=100:=HZS.out
         have z2:(gs (dF (eB aac n)) q).size<=100:=zg.out.2 q;obtain ⟨T,hT⟩:∃T,T=(zo aac n++zZ aac n k)++((dF (eB aac n)).take q).map fun t=>pairT (gs (dF (eA aac n)) k) t:=⟨_,rfl⟩;have I1:Hid ((zo aac n++zZ aac n k)++((dF (eB aac n)).take (q+1)).map (fun t=>pairT (gs (dF (eA aac n)) k) t)=T++[pairT (gs (dF (eA aac n)) k) (gs (dF (eB aac n)) q)]):=by unfold Hid;rw [oy.out,<- dN,<- hT]
         (have zi:Hid (T.length<=1000000):=by have a1:=Rq.out;have a2:=HEK.out;have a3:=zg.out.1;unfold Hid;rw [hT];simp only [aZ,aG,gV];omega);rw [<- hT] at hB;have RI:=aa hB.out;obtain ⟨oq,oc,U6,-⟩:=hB.out.own.form (n:=T.length) (by rw [aG]);subst U6;generalize gs (dF (eA aac n)) k=sn at *;generalize gs (dF (eB aac n)) q=tm at *;clear hB Zk hT oy;(have y1:(9223372036854775807<1+sn.size)=False:=by simp;omega);have y2:(9223372036854775807<1+sn.size+1)=False:=by simp;omega
         (have y3:(9223372036854775807<1+sn.size+1+tm.size)=False:=by simp;omega);(have y4:(9223372036854775807<1+sn.size+1+tm.size+1)=False:=by simp;omega);go_wp2_with fail;refine gQ (by kernel_rfl) 15 (fun w'=>w'.cell? ⟨ab,ao+k,none⟩=some (.string sn)/\w'.cell? ⟨bb,bo+q,none⟩=some (.string tm)) ⟨hca,hcb⟩ (fun hS=>?_);simp only [eW,aT,dO,Nat.reduceAdd,ji,jk,eV,cH,cr];refine aj.tk 0 hS ?_;try simp only [Act.put,aA,aB,aC]
         refine aj.tk 1 hS ?_;(try simp only [Act.put,aA,aB,aC]);refine aj.tk 2 hS ?_;(try simp only [Act.put,aA,aB,aC]);refine aj.tk 3 hS ?_;(try simp only [Act.put,aA,aB,aC]);refine aj.tk 4 hS ?_;(try simp only [Act.put,aA,aB,aC]);refine aj.tk 5 hS ?_;(try simp only [Act.put,aA,aB,aC]);refine aj.tk 6 hS ?_
         (try simp only [Act.put,aA,aB,aC]);refine aj.tk 7 hS ?_;(try simp only [Act.put,aA,aB,aC]);refine aj.tk 8 hS ?_;(try simp only [Act.put,aA,aB,aC]);refine aj.tk 9 hS ?_;(try simp only [Act.put,aA,aB,aC]);refine aj.tk 10 hS ?_;(try simp only [Act.put,aA,aB,aC]);refine aj.tk 11 hS ?_
         (try simp only [Act.put,aA,aB,aC]);refine aj.tk 12 hS ?_;(try simp only [Act.put,aA,aB,aC]);refine aj.step (i:=13) rfl (by kernel_rfl) (fun K' hK=>?_);go_simp;have cE:=(Up.alloc wq (.cells #[.string (pairT sn tm)] 9)).trans (Up.drewN _ 1);have hAT:=RI.out.next cE;have HS13:=aa (And.intro (cE.cell hca) (cE.cell hcb));have HC13:=aa (nW wq (.string (pairT sn tm)) 9);have uo:=aa hAT;clear cE hAT;refine hK.out _ _ (fun _=>HS13.out) (fun hS=>?_)
         replace hS:=hS ⟨14,by decide,rfl⟩;(try simp only [aA,aB,aC]);refine aj.step (i:=14) rfl (by kernel_rfl) (fun K' hK=>?_);refine fF (by rfl) _ _ _ (by rfl) w.heap.size 9 _ 16 Tryz.underlying22 Tryz.kR (by rfl) (by decide) (by rfl) uo.out.own (.string (pairT sn tm)) wq.heap.size (by rfl) HC13.out (by rfl) (by rw [aG];exact zi.out) (by obtain ⟨z1,z2,z3⟩:=uo.out.sz;exact aJ z1 (aJ z2 z3)) ?_;intro g8 c8 w8 K7 RJ K8 _;have KV:=uo.out.app K7 RJ (K8.imp id fun e=>fB e.symm)
         have NW:=aa KV;clear K7 RJ K8 KV;refine hK.out _ _ (aO (by kernel_rfl)) (fun _=>?_);(try simp only [Act.put,aA,aB,aC]);refine aj.step (i:=15) rfl (by kernel_rfl) (fun K' hK=>?_);go_simp;refine hK.out _ _ (aO (by kernel_rfl)) (fun _=>?_);refine aj.done (by kernel_rfl) ?_;go_wp2_with fail
         go_roundw
         case rel=>exact ⟨q+1,VA.out,by go_num,by rw [I1.out];have h:=NW.out;rw [aG] at h;exact h⟩
         case measure=>have:=VA.out;simp [intOf];omega
        ·obtain rfl:q=(dF (eB aac n)).length:=by omega
         (have RI:Hid (zq wo.heap.size w W2 wq u3 (zo aac n++zZ aac n (k+1))):=by have h:=hB.out;rw [gh] at h;unfold Hid;rw [ND.out,<- dN];exact h);clear hB Zk;go_wp2_with fail
         go_roundw
         case rel=>exact ⟨k+1,E3.out,by go_num,RI.out⟩
         case measure=>have:=E3.out;simp [intOf];omega
      ·obtain rfl:k=(dF (eA aac n)).length:=by omega
       (have RI:Hid (RfI w aac (n+1) u3 wp):=by have h:=hA.out;rw [eoK_all,<- evK_succ] at h;exact ⟨h.up,h.own⟩);clear hA hlk;go_wp2_with fail
       go_roundw
       case rel=>exact ⟨n+1,bu.out,by go_num,RI.out⟩
       case measure=>have:=bu.out;simp [intOf];omega
  ·obtain rfl:n=M - 1:=by omega
   (have i1:¬((M - 1:Nat):Int)<((M - 1:Nat):Int):=by omega);(have kA:Hid (E2 w aac (.returned u3) wo):=by refine ⟨mL,_,rfl,?_⟩;(have e:dF aac=zo aac (M - 1):=by rw [rfT_eq h2,HM.out];rfl);rw [e];exact hOo);clear hI mL hOo hlt;go_wp2_with fail;go_ret;exact kA.out
def ixK (aac:List ByteArray) (k:Nat):Int:=iD (aac.take k) (gs aac k)
theorem ixK_pos (aac:List ByteArray) {k:Nat} (hk:k<aac.length):fk aac k=decide (0<=ixK aac k):=by
 unfold ixK;have h1:0<=iD (aac.take k) (gs aac k)↔∃j,j<(aac.take k).length/\gs (aac.take k) j=gs aac k:=J8;have h2:fk aac k=true↔∃j,j<k/\gs aac j=gs aac k:=by
  unfold fk;rw [eO];constructor
  ·rintro ⟨j,hj,h⟩;exact ⟨j,bh.1 hj,of_decide_eq_true h⟩
  ·rintro ⟨j,hj,h⟩;exact ⟨j,bh.2 hj,decide_eq_true h⟩
 have h3:(∃j,j<(aac.take k).length/\gs (aac.take k) j=gs aac k)↔∃j,j<k/\gs aac j=gs aac k:=by
  have hl:(aac.take k).length=k:=by rw [gV];omega
  rw [hl];constructor
  ·rintro ⟨j,hj,h⟩;exact ⟨j,hj,by rw [<- h];simp [gs,hj]⟩
  ·rintro ⟨j,hj,h⟩;exact ⟨j,hj,by rw [<- h];simp [gs,hj]⟩
 by_cases e:fk aac k=true
 ·rw [e,decide_eq_true (h1.2 (h3.2 (h2.1 e)))]
 ·rw [Bool.not_eq_true] at e
  rw [e,decide_eq_false fun h=>by rw [h2.2 (h3.1 (h1.1 h))] at e;cases e]
theorem Oj (S:Nat->Prop) (w:World) (v:Value) (aac:List ByteArray) (h:au S w v aac) (hn:aac.length<=1000000) (hz:∀k,(gs aac k).size<=70000) :
  Calls Tryz.prog 112 #[v] w fun e w'=>e=.returned (.int .i64 (dm aac))/\Up w w':=by
 obtain ⟨p,cap,rfl,hcap,_⟩:=ay.open h;have h:au S w (.slice p aac.length cap) aac:=h;have HC:Hid (dm aac=if aac.length<2\/7<aac.length then 4 else bU (jc aac) aac.length):=rfl;have HN:=aa h;have HZ:=aa hz;clear h hz;by_cases h1:aac.length<2
 ·go_enter Tryz.func112,Tryz.ntmps112
  go_wp2_with fail;go_ret;exact ⟨aM (by rw [HC.out,if_pos (.inl h1)]),Up.refl _⟩
 by_cases h2:7<aac.length
 ·go_enter Tryz.func112,Tryz.ntmps112
  go_wp2_with fail;go_ret;exact ⟨aM (by rw [HC.out,if_pos (.inr h2)]),Up.refl _⟩
 have HF:Hid (dm aac=bU (jc aac) aac.length):=by unfold Hid;rw [HC.out,if_neg (by omega)]
 clear HC;have Hf:Hid (∀k,k<aac.length->(∀j,j<k->jc aac j=0)->jc aac k≠0->dm aac=jc aac k):=fun k hk hj h0=>by rw [HF.out,gm hk hj h0]
 go_enter Tryz.func112,Tryz.ntmps112
 go_wp2_with fail
 go_loopw [3] (fun i wr=>∃k:Nat,k<=aac.length/\i=.int .i64 k/\Hid (Up w wr/\∀j,j<k->jc aac j=0)) (fun i _=>aac.length - (intOf i).toNat)
 case atStart=>exact ⟨0,aL _,rfl,Up.refl _,fun j hj=>absurd hj (bG _)⟩
 case round =>
  obtain ⟨k,hk,rfl,hd⟩:=hrel;obtain ⟨wo,rfl⟩:∃wo:World,wo=wr:=⟨_,rfl⟩;by_cases hlt:k<aac.length
  ·have Vh:=au.keep HN.out (hd.out.1.kept S)
   obtain ⟨Oe,no,rfl,hc⟩:=dr Vh hlt;have je:=aa (leafR34_t (gs aac k) (HZ.out k) wo);have oU:Hid (∀W,Up wo W->∀m,Calls Tryz.prog 143 #[.slice (some ⟨Oe,no,none⟩) k cap,.string (gs aac k)] (W.drewN m) fun e w''=>e=.returned (.int .i64 (ixK aac k))/\∃m',w''=W.drewN m'):=fun W hW m=>by
    have h1:=IJ (au.keep Vh ((hW.trans (Up.drewN _ m)).kept S)) hk;(have h2:au S (W.drewN m) (.slice (some ⟨Oe,no,none⟩) k cap) (aac.take k):=by (have hl:(aac.take k).length=k:=by rw [gV];omega);(have h3:=h1.congr (g:=fun j=>.string (gs (aac.take k) j)) fun j hj=>by simp [gs,hj]);unfold au;rw [hl];exact h3);exact (indexR34_t S (W.drewN m) _ (aac.take k) (gs aac k) h2 (by rw [gV];omega)).mono fun e w' ⟨h4,h5⟩=>⟨h4,m,h5.symm⟩
   have vU:=aa (ixK_pos aac hlt);have Jd:=aa (Hf.out k hlt hd.out.2);have Je:Hid (jc aac k=if b7 (gs aac k).data.toList then (if fk aac k then 7 else 0) else 14):=rfl;generalize ixK aac k=ix at *;generalize gs aac k=nm at *;generalize fk aac k=bs at *;generalize b7 nm.data.toList=bn at *;clear Vh;cases bn
   ·have HE:Hid (jc aac k=14):=Je.out
    go_wp2_with fail;refine je.out.mono ?_;rintro e w1 ⟨rfl,bA⟩;have cA:=aa (hd.out.1.trans bA);clear bA;go_wp2_with fail;go_ret;exact ⟨aM ((Jd.out (by rw [HE.out];decide)).trans HE.out).symm,cA.out⟩
   ·cases bs
    ·have HE:Hid (jc aac k=0):=Je.out
     go_wp2_with fail;refine je.out.mono ?_;rintro e w1 ⟨rfl,bA⟩;have cA:=aa (hd.out.1.trans bA);have LY:=aa (oU.out w1 bA);have hc1:=(show Up wo w1 from bA).cell hc;(have d9:decide (0<=ix)=false:=by have:=vU.out;simp at this;simp;omega);clear bA;go_wp2_with fail;(go_quiet (with_reducible exact LY.out _));go_wp2_with fail
     go_roundw
     case rel=>exact ⟨k+1,by omega,by go_num,cA.out.trans (Up.drewN _ _),fun j hj=>if e:j=k then by subst e;exact HE.out else hd.out.2 j (by omega)⟩
     case measure=>simp [intOf];omega
    ·have HE:Hid (jc aac k=7):=Je.out
     go_wp2_with fail;refine je.out.mono ?_;rintro e w1 ⟨rfl,bA⟩;have cA:=aa (hd.out.1.trans bA);have LY:=aa (oU.out w1 bA);have hc1:=(show Up wo w1 from bA).cell hc;(have d9:decide (0<=ix)=true:=by have:=vU.out;simp at this;simp;omega);clear bA;go_wp2_with fail;(go_quiet (with_reducible exact LY.out _));go_wp2_with fail;go_ret;exact ⟨aM ((Jd.out (by rw [HE.out];decide)).trans HE.out).symm,cA.out.trans (Up.drewN _ _)⟩
  ·obtain rfl:k=aac.length:=by omega
   (have sK:Hid (dm aac=0):=by unfold Hid;rw [HF.out,cR hd.out.2]);go_wp2_with fail;go_ret;exact ⟨aM sK.out.symm,hd.out.1⟩
end
end Go.Proofs.YthgabkgmkolobaaGreat
