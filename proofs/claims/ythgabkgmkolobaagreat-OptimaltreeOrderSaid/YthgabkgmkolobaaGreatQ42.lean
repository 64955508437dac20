/- Reference 34: Great, GreatTrees. Plain: the texts of the rooted binary trees as the .. -/
import Derived.Test.YthgabkgmkolobaaGreatQ41
set_option maxRecDepth 100000
set_option maxHeartbeats 2000000
namespace Go.Proofs.YthgabkgmkolobaaGreat
section
open Go.RowKit Go.Deep
def PB (acw:List ByteArray):Bool:=(List.range acw.length).any fun i=>decide (20<(gs acw i).size)
def nD (n:Nat):Bool:=(decide (6<n)&&decide (n<=4096)) || decide (4098<n)
def PC (acy:List (List Int)):Bool:=(List.range acy.length).any fun i=>nD (gl acy i).length
def zX (n m:Nat):Bool:=(decide (5<n)&&decide (n<=7)) || decide (10<n) || decide (10<m)
def jb (acw:List ByteArray) (acy:List (List Int)):Bool:=PB acw || PC acy || zX acw.length acy.length
structure MF (acw:List ByteArray) (acy:List (List Int)):Prop where
 nm:∀k,(gs acw k).size<=20
 row:∀k,(gl acy k).length<=6\/(4096<(gl acy k).length/\(gl acy k).length<=4098)
 n5:acw.length<=5\/(7<acw.length/\acw.length<=10)
 m10:acy.length<=10
theorem DB {acw:List ByteArray} {acy:List (List Int)} (h:jb acw acy=false):MF acw acy:=by
 unfold jb at h;rw [Bool.or_eq_false_iff,Bool.or_eq_false_iff] at h;obtain ⟨⟨h1,h2⟩,h3⟩:=h;refine ⟨fun k=>?_,fun k=>?_,?_,?_⟩
 ·by_cases hk:k<acw.length
  ·have:=of_decide_eq_false (any_false h1 hk)
   omega
  ·have:gs acw k=ByteArray.empty:=by simp [gs,hk]
   rw [this];exact aI _
 ·by_cases hk:k<acy.length
  ·have:=any_false h2 hk
   unfold nD at this;simp at this;omega
  ·have:gl acy k=[]:=by simp [gl,hk]
   rw [this];exact .inl (aI _)
 ·unfold zX at h3
  simp at h3;omega
 ·unfold zX at h3
  simp at h3;omega
theorem MF.aaW {acw:List ByteArray} {acy:List (List Int)} (h:MF acw acy):acw.length<=10/\(∀k,(gl acy k).length<=4098)/\(acw.length<=5\/7<acw.length):=by
 have h1:=h.n5;refine ⟨by omega,fun k=>?_,by omega⟩;have:=h.row k;omega
theorem Fc (S T:Nat->Prop) (w:World) (v vs:Value) (acw:List ByteArray) (acy:List (List Int)) (h:av S w v acw) (hS:bh T w vs acy) (hn:acw.length<=9223372036854775807) (hz:∀k,(gs acw k).size<=9223372036854775807) (hm:acy.length<=9223372036854775807) (hr:∀k,(gl acy k).length<=9223372036854775807) :
  Calls Tryz.prog 59 #[v,vs] w fun e w'=>e=.returned (.bool (jb acw acy))/\w=w':=by
 obtain ⟨p,cap,rfl,hcap,-⟩:=aA.open h;have h:av S w (.slice p acw.length cap) acw:=h;obtain ⟨sp,sc,rfl,-,-⟩:=gM hS;have HG:Hid (jb acw acy=(PB acw || PC acy || zX acw.length acy.length)):=rfl;have Yt:Hid (PB acw=(List.range acw.length).any fun i=>decide (20<(gs acw i).size)):=rfl;have GF:Hid (PC acy=(List.range acy.length).any fun i=>nD (gl acy i).length):=rfl;have HN:=aa h;have HS:=aa hS;have HZ:=aa hz;have HR:=aa hr;clear h hS hz hr
 go_enter Tryz.func59,Tryz.ntmps59
 go_wp2_with fail
 go_loop [5] (fun i=>∃k:Nat,k<=acw.length/\i=.int .i64 k/\Hid (∀j,j<k->decide (20<(gs acw j).size)=false)) (fun i=>acw.length - (intOf i).toNat)
 case atStart=>exact ⟨0,aI _,rfl,fun j hj=>absurd hj (bS _)⟩
 case round =>
  obtain ⟨k,hk,rfl,hd⟩:=hrel;by_cases hlt:k<acw.length
  ·obtain ⟨b,off,rfl,hc⟩:=cA HN.out hlt
   (have uL:Hid (20<(gs acw k).size->PB acw=true):=fun h1=>by rw [Yt.out];exact vo hlt (decide_eq_true h1));(have HX:Hid (¬20<(gs acw k).size->∀j,j<k+1->decide (20<(gs acw j).size)=false):=fun h1 j hj=>if e:j=k then by subst e;exact decide_eq_false h1 else hd.out j (by omega));have hsz:=HZ.out k;generalize gs acw k=nm at *;by_cases h20:20<nm.size
   ·have HF:Hid (jb acw acy=true):=by unfold Hid;rw [HG.out,uL.out h20];rfl
    go_wp2_with fail;go_ret;exact ⟨bA HF.out.symm,rfl⟩
   ·have vS:=aa (HX.out h20)
    go_wp2_with fail
    go_round
    case rel=>exact ⟨k+1,by omega,by go_num,vS.out⟩
    case measure=>simp [intOf];omega
  ·obtain rfl:k=acw.length:=by omega
   (have HNF:Hid (PB acw=false):=by unfold Hid;rw [Yt.out];exact any_none hd.out);clear hd hlt hk;go_wp2_with fail
   go_loop [6,7] (fun i _=>∃k:Nat,k<=acy.length/\i=.int .i64 k/\Hid (∀j,j<k->nD (gl acy j).length=false)) (fun i _=>acy.length - (intOf i).toNat)
   case atStart=>exact ⟨0,aI _,rfl,fun j hj=>absurd hj (bS _)⟩
   case round =>
    obtain ⟨k,hk,rfl,hd⟩:=hrel;by_cases hlt:k<acy.length
    ·obtain ⟨b,off,r0,r1,rfl,hc,-⟩:=iP HS.out hlt
     (have uL:Hid (nD (gl acy k).length=true->PC acy=true):=fun h1=>by rw [GF.out];exact vo hlt h1);(have HX:Hid (nD (gl acy k).length=false->∀j,j<k+1->nD (gl acy j).length=false):=fun h1 j hj=>if e:j=k then by subst e;exact h1 else hd.out j (by omega));have hsz:=HR.out k;have KE:Hid (nD (gl acy k).length=((decide (6<(gl acy k).length)&&decide ((gl acy k).length<=4096)) || decide (4098<(gl acy k).length))):=rfl;generalize (gl acy k).length=m at *
     (have key:(6<m/\m<=4096/\nD m=true)\/(6<m/\4096<m/\4098<m/\nD m=true)\/(6<m/\4096<m/\m<=4098/\nD m=false)\/(m<=6/\nD m=false):=by rw [KE.out];by_cases q1:6<m<;>by_cases q2:m<=4096<;>by_cases q3:4098<m<;>simp [q1,q2,q3]<;>omega);rcases key with ⟨q1,q2,q⟩ | ⟨q1,q2,q3,q⟩ | ⟨q1,q2,q3,q⟩ | ⟨q1,q⟩
     ·have HF:Hid (jb acw acy=true):=by unfold Hid;rw [HG.out,uL.out q];simp
      (have d1:decide (6<(m:Int))=true:=by simp;omega);(have d2:decide ((m:Int)<=4096)=true:=by simp;omega);clear uL HX KE q;go_wp2_with fail
      all_goals (go_ret;exact ⟨bA HF.out.symm,rfl⟩)
     ·have HF:Hid (jb acw acy=true):=by unfold Hid;rw [HG.out,uL.out q];simp
      (have d1:decide (6<(m:Int))=true:=by simp;omega);(have d2:decide ((m:Int)<=4096)=false:=by simp;omega);(have d3:decide (4098<(m:Int))=true:=by simp;omega);clear uL HX KE q;go_wp2_with fail
      all_goals (go_ret;exact ⟨bA HF.out.symm,rfl⟩)
     ·have vS:=aa (HX.out q)
      (have d1:decide (6<(m:Int))=true:=by simp;omega);(have d2:decide ((m:Int)<=4096)=false:=by simp;omega);(have d3:decide (4098<(m:Int))=false:=by simp;omega);clear uL HX KE q;go_wp2_with fail
      go_round
      case rel=>exact ⟨k+1,by omega,by go_num,vS.out⟩
      case measure=>simp [intOf];omega
     ·have vS:=aa (HX.out q)
      (have d1:decide (6<(m:Int))=false:=by simp;omega);(have d3:decide (4098<(m:Int))=false:=by simp;omega);clear uL HX KE q;go_wp2_with fail
      go_round
      case rel=>exact ⟨k+1,by omega,by go_num,vS.out⟩
      case measure=>simp [intOf];omega
    ·obtain rfl:k=acy.length:=by omega
     (have IL:Hid (PC acy=false):=by unfold Hid;rw [GF.out];exact any_none hd.out);(have HF:Hid (jb acw acy=zX acw.length acy.length):=by unfold Hid;rw [HG.out,HNF.out,IL.out];simp);have HT:Hid (zX acw.length acy.length=((decide (5<acw.length)&&decide (acw.length<=7)) || decide (10<acw.length) || decide (10<acy.length))):=rfl;clear hd hlt hk HG Yt GF HNF IL HN HS HZ HR;generalize acw.length=n at *;generalize acy.length=m at *;by_cases q1:5<n
     ·by_cases q2:n<=7
      ·have HB:Hid (jb acw acy=true):=by unfold Hid;rw [HF.out,HT.out];simp [q1,q2]
       go_wp2_with fail
       all_goals (go_ret;refine ⟨bA ?_,rfl⟩;first | (rw [HB.out];done) | (rw [HB.out];simp;done) | (rw [HB.out];simp;omega))
      ·by_cases q3:10<n
       ·have HB:Hid (jb acw acy=true):=by unfold Hid;rw [HF.out,HT.out];simp [q3]
        go_wp2_with fail
        all_goals (go_ret;refine ⟨bA ?_,rfl⟩;first | (rw [HB.out];done) | (rw [HB.out];simp;done) | (rw [HB.out];simp;omega))
       ·by_cases q4:10<m
        ·have HB:Hid (jb acw acy=true):=by unfold Hid;rw [HF.out,HT.out];simp [q4]
         go_wp2_with fail
         all_goals (go_ret;refine ⟨bA ?_,rfl⟩;first | (rw [HB.out];done) | (rw [HB.out];simp;done) | (rw [HB.out];simp;omega))
        ·have HB:Hid (jb acw acy=false):=by unfold Hid;rw [HF.out,HT.out];simp [q2,q3,q4]
         go_wp2_with fail
         all_goals (go_ret;refine ⟨bA ?_,rfl⟩;first | (rw [HB.out];done) | (rw [HB.out];simp;done) | (rw [HB.out];simp;omega))
     ·have q3:¬10<n:=by omega
      by_cases q4:10<m
      ·have HB:Hid (jb acw acy=true):=by unfold Hid;rw [HF.out,HT.out];simp [q4]
       go_wp2_with fail
       all_goals (go_ret;refine ⟨bA ?_,rfl⟩;first | (rw [HB.out];done) | (rw [HB.out];simp;done) | (rw [HB.out];simp;omega))
      ·have HB:Hid (jb acw acy=false):=by unfold Hid;rw [HF.out,HT.out];simp [q1,q3,q4]
       go_wp2_with fail
       all_goals (go_ret;refine ⟨bA ?_,rfl⟩;first | (rw [HB.out];done) | (rw [HB.out];simp;done) | (rw [HB.out];simp;omega))
end
section
def mO (L:List ByteArray):List (BT ByteArray):=rf L.length L
def bK (L:List ByteArray):List ByteArray:=(mO L).map jO
def eA (L:List ByteArray) (bits:Nat):List ByteArray:=gs L 0::aZ (fun i=>bits.testBit i) L.tail (L.length - 1)
def eB (L:List ByteArray) (bits:Nat):List ByteArray:=aZ (fun i=>!bits.testBit i) L.tail (L.length - 1)
def CL (L:List ByteArray) (bits:Nat):List ByteArray:=(bK (eA L bits)).flatMap fun s=>(bK (eB L bits)).map fun t=>pairT s t
theorem Bz (L:List ByteArray):(k6 L).Perm (mO L):=Mj _ _
theorem Jc (L:List ByteArray):(bM L).Perm (bK L):=(Bz L).map jO
theorem PD (L:List ByteArray) {bits:Nat} (h:bits<2 ^ (L.length - 1) - 1):eA L bits=dA L (2 ^ (L.length - 1) - 1 - bits)/\eB L bits=dB L (2 ^ (L.length - 1) - 1 - bits):=by
 have e1:∀i,i<L.length - 1->(2 ^ (L.length - 1) - 1 - bits).testBit i=!bits.testBit i:=fun i hi=>by have:=Nat.testBit_two_pow_sub_succ (x:=bits) (n:=L.length - 1) (by omega) i;rw [show 2 ^ (L.length - 1) - 1 - bits=2 ^ (L.length - 1) - (bits+1) by omega,this];simp [hi]
 unfold eA eB dA dB;rw [k9 (p:=fun i=>!(2 ^ (L.length - 1) - 1 - bits).testBit i) (q:=fun i=>bits.testBit i) fun i hi=>by rw [e1 i hi,Bool.not_not],k9 (p:=fun i=>(2 ^ (L.length - 1) - 1 - bits).testBit i) (q:=fun i=>!bits.testBit i) e1];exact ⟨rfl,rfl⟩
theorem e_len {L:List ByteArray} (h:2<=L.length) {bits:Nat} (h2:bits<2 ^ (L.length - 1) - 1):(eA L bits).length<L.length/\1<=(eA L bits).length/\(eB L bits).length<L.length/\1<=(eB L bits).length:=by
 obtain ⟨e1,e2⟩:=PD L h2;rw [e1,e2];exact Mv h (by omega) (by omega)
theorem Zv {L:List ByteArray} {bits:Nat} (h:1<=L.length) (h2:bits<2 ^ (L.length - 1) - 1):(∀x∈eA L bits,x∈L)/\∀x∈eB L bits,x∈L:=by
 obtain ⟨e1,e2⟩:=PD L h2;rw [e1,e2];exact Mw h
theorem zY:∀(d e:Nat) (L:List ByteArray),L.length<=d->L.length<=e->rf d L=rf e L
 | 0,e,L,h,_=>by
  have:L=[]:=lu (by omega)
  subst this
  cases e<;>rfl
 | d+1,0,L,_,h=>by
  have:L=[]:=lu (by omega)
  subst this;rfl
 | _+1,_+1,[],_,_=>rfl
 | _+1,_+1,[x],_,_=>rfl
 | d+1,e+1,x::y::L,h1,h2=>by
  rw [rf,rf]
  refine jJ fun bits hb=>?_
  have hb:=cU.1 hb
  have hd:=e_len (L:=x::y::L) (by simp) (bits:=bits) (by have:(x::y::L).length - 1=(y::L).length:=rfl;rw [this];omega)
  have ea:eA (x::y::L) bits=x::aZ (fun i=>bits.testBit i) (y::L) (y::L).length:=rfl
  have eb:eB (x::y::L) bits=aZ (fun i=>!bits.testBit i) (y::L) (y::L).length:=rfl
  rw [<- ea,<- eb]
  simp only [aO] at hd h1 h2
  rw [zY d e (eA _ _) (by omega) (by omega),zY d e (eB _ _) (by omega) (by omega)]
theorem UG (x:ByteArray):bK [x]=[x]:=by
 unfold bK mO;rw [BH,rf,List.map_singleton,Br]
theorem Yu {L:List ByteArray} (h:2<=L.length):bK L=(List.range (2 ^ (L.length - 1) - 1)).flatMap (CL L):=by
 obtain ⟨x,y,L,rfl⟩:∃x y L',L=x::y::L':=by
  cases L with
  | nil=>simp at h
  | cons x L =>
   cases L with
   | nil=>simp at h
   | cons y L=>exact ⟨x,y,L,rfl⟩
 unfold bK mO;have e1:(x::y::L).length=(y::L).length+1:=rfl;rw [e1,rf,tX,Nat.add_sub_cancel];refine jJ fun bits hb=>?_;have hb:=cU.1 hb;have hd:=e_len (L:=x::y::L) h (bits:=bits) (by have:(x::y::L).length - 1=(y::L).length:=rfl;rw [this];omega);unfold CL bK;rw [tX,zw];have ea:eA (x::y::L) bits=x::aZ (fun i=>bits.testBit i) (y::L) (y::L).length:=rfl;have eb:eB (x::y::L) bits=aZ (fun i=>!bits.testBit i) (y::L) (y::L).length:=rfl;rw [<- ea,<- eb]
 have f1:rf (y::L).length (eA (x::y::L) bits)=mO (eA (x::y::L) bits):=zY _ _ _ (by simp only [aO] at hd ⊢;omega) (ah _);have f2:rf (y::L).length (eB (x::y::L) bits)=mO (eB (x::y::L) bits):=zY _ _ _ (by simp only [aO] at hd ⊢;omega) (ah _);rw [f1,f2];refine jJ fun a _=>?_;rw [jS,jS];refine jR fun b _=>?_;exact Bu a b
theorem qg {L:List ByteArray} (h:L.length<=4):(bK L).length<=15:=by
 rw [<- (Jc L).length_eq];exact sg h
theorem BA {L:List ByteArray} (h:L.length<=4) (hz:∀x∈L,x.size<=20) {s:ByteArray} (hs:s∈bK L):s.size<=100:=xA h hz ((Jc L).mem_iff.2 hs)
def qT (L:List ByteArray) (n:Nat):List ByteArray:=(List.range n).flatMap (CL L)
theorem R5 (L:List ByteArray) (n:Nat):qT L (n+1)=qT L n++CL L n:=by
 unfold qT;rw [zC,qh];simp
theorem UH {L:List ByteArray} {bits:Nat} (ha:(eA L bits).length<=4) (hb:(eB L bits).length<=4):(CL L bits).length<=225:=by
 unfold CL;have h1:=qg ha;have h2:=qg hb;have h3:=nK (f:=fun s=>(bK (eB L bits)).map fun t=>pairT s t) (K:=15) (bK (eA L bits)) fun s _=>by rw [aD];exact h2
 have h4:(bK (eA L bits)).length*15<=15*15:=qA _ h1;omega
theorem UI {L:List ByteArray} (h2:2<=L.length) (h:L.length<=4) {n:Nat} (hn:n<=2 ^ (L.length - 1) - 1):(qT L n).length<=n*225:=by
 unfold qT;have h1:=nK (f:=CL L) (K:=225) (List.range n) fun b hb=>by have hb:=cU.1 hb;have he:=e_len h2 (bits:=b) (by omega);exact UH (by omega) (by omega)
 rw [List.length_range] at h1;exact h1
def rI (L:List ByteArray) (bits n:Nat):List ByteArray:=((bK (eA L bits)).take n).flatMap fun s=>(bK (eB L bits)).map fun t=>pairT s t
theorem R6 (L:List ByteArray) (bits:Nat) {n:Nat} (h:n<(bK (eA L bits)).length):rI L bits (n+1)=rI L bits n++(bK (eB L bits)).map fun t=>pairT (gs (bK (eA L bits)) n) t:=by
 have hg:gs (bK (eA L bits)) n=(bK (eA L bits))[n]:=by simp [gs,h]
 unfold rI;rw [jo h,qh,hg];simp
theorem UJ (L:List ByteArray) (bits:Nat):rI L bits (bK (eA L bits)).length=CL L bits:=by unfold rI CL;rw [eT]
theorem UK {L:List ByteArray} {bits n:Nat} (ha:(eA L bits).length<=4) (hb:(eB L bits).length<=4):(rI L bits n).length<=225:=by
 unfold rI;have h1:=qg ha;have h2:=qg hb;have h3:=nK (f:=fun s=>(bK (eB L bits)).map fun t=>pairT s t) (K:=15) ((bK (eA L bits)).take n) fun s _=>by rw [aD];exact h2
 rw [dD] at h3;have h4:(min n (bK (eA L bits)).length)*15<=15*15:=qA _ (by omega);omega
def zl (L:List ByteArray) (bits n:Nat):List ByteArray:=gs L 0::aZ (fun i=>bits.testBit i) L.tail n
def zm (L:List ByteArray) (bits n:Nat):List ByteArray:=aZ (fun i=>!bits.testBit i) L.tail n
theorem R7 (L:List ByteArray) (bits n:Nat) (h:n+1<L.length):zl L bits (n+1)=zl L bits n++(if bits.testBit n then [gs L (n+1)] else [])/\zm L bits (n+1)=zm L bits n++(if bits.testBit n then [] else [gs L (n+1)]):=by
 have hg:L.tail.getD n default=gs L (n+1):=by
  unfold gs;cases L with
  | nil=>simp at h
  | cons a l =>
   (have hl:n<l.length:=by simpa using h);simp [hl]
 unfold zl zm;rw [jy,jy,hg];cases bits.testBit n<;>simp
theorem K5 (L:List ByteArray) (bits:Nat):zl L bits (L.length - 1)=eA L bits/\zm L bits (L.length - 1)=eB L bits:=⟨rfl,rfl⟩
theorem Yv {q:RT} {xs:List RT} (hs:xs.Pairwise fV) {k:Nat} (hk:k<=xs.length) (hhi:∀j,k<=j->j<xs.length->¬fV (xs.getD j (.node ByteArray.empty [])) q) (hlo:k=0\/fV (xs.getD (k - 1) (.node ByteArray.empty [])) q):(xs.take k++q::xs.drop k).Perm (q::xs)/\(xs.take k++q::xs.drop k).Pairwise fV:=by
 constructor
 ·refine List.perm_middle.trans ?_
  rw [qm]
 ·have hs2:=hs
  rw [<- qm k xs,List.pairwise_append] at hs2;obtain ⟨h1,h2,h3⟩:=hs2;rw [List.pairwise_append,wH];have hd:∀b∈xs.drop k,fV q b:=fun b hb=>by obtain ⟨j,hj,e⟩:=List.mem_iff_getElem.1 hb;rw [gw] at hj;rw [List.getElem_drop] at e;have:=hhi (k+j) (by omega) (by omega);rw [fh,gP (by omega),Option.getD_some,e] at this;exact fV.total this
  have ht:∀a∈xs.take k,fV a q:=fun a ha=>by
   rcases hlo with e | h
   ·subst e;simp at ha
   ·obtain ⟨j,hj,e⟩:=List.mem_iff_getElem.1 ha
    rw [dD] at hj;rw [List.getElem_take] at e;rw [fh,gP (by omega),Option.getD_some] at h;by_cases ej:j=k - 1
    ·subst ej;rw [<- e];exact h
    ·have:=rK.1 hs j (k - 1) (by omega) (by omega) (by omega)
     rw [e] at this;exact this.trans h
  exact ⟨h1,⟨hd,h2⟩,fun a ha b hb=>by
   rcases bX.1 hb with rfl | hb
   ·exact ht a ha
   ·exact (ht a ha).trans (hd b hb)⟩
theorem MG {acw:List ByteArray} (hn:dU acw) {q:RT} (hq:q∈bQ acw):(bf q).size<=1000/\ux (bf q)=0/\rE (bf q)=flat q:=by
 obtain ⟨h1,h2,h3,h4,h5,h6⟩:=gI hn hq;have hg:=h1.good;have hp:jM (bf q).data.toList=some q:=by
  have e:(bf q).data.toList=bF q++[59]:=by unfold bf cr;simp
  rw [e];exact vQ hg.kC
 refine ⟨?_,by unfold ux;rw [hp];exact h5,by unfold rE;rw [hp];simp [h5]⟩;have hl:=zP (M:=20) q fun s hs=>by
  rw [nU] at hs;obtain ⟨u,hu,rfl⟩:=di.1 hs;by_cases e:u.kids=[]
  ·exact si (hg.lf u hu e)
  ·rw [hg.Ej u hu e];exact aI _
 have hs:(bf q).size=(cr q).length:=by unfold bf;rw [<- size_data]
 have hk:(cr q).length=(bF q).length+1:=by unfold cr;simp
 have:=hn.hi;have h9:aK q*(20+3)<=9*23:=qA _ (by omega);omega
theorem Yw {acw:List ByteArray} (hn:dU acw) {qs:List RT} (hp:qs.Perm ((mO acw.tail).map (uR acw))) (hs:qs.Pairwise fV):qs=bQ acw:=by
 have h1:((mO acw.tail).map (uR acw)).Perm ((rt acw.length acw.tail).map (uR acw)):=by have:rt acw.length acw.tail=k6 acw.tail:=qf _ _ _ (by simp) (ah _);rw [this];exact ((Bz _).symm).map _
 refine xx (hp.trans (h1.trans (kF _).symm)) hs (uY _) fun r hr=>?_;have hr2:r∈bQ acw:=(kF _).mem_iff.2 (h1.mem_iff.1 (hp.mem_iff.1 hr));exact (gI hn hr2).1.good.kC
end
section
open Go.RowKit Go.Deep
structure qU (lo:Nat) (w w2 wr:World) (tv:Value) (L:List ByteArray):Prop where
 up:Up w wr
 sz:w.heap.size<=lo/\lo<=w2.heap.size/\w2.heap.size<=wr.heap.size
 own:ax w.heap.size 9 wr tv (L.map Value.string)
 blk:∀b,tv.ownBlock=some b->b<lo\/w2.heap.size<=b
 keep:∀b,lo<=b->b<w2.heap.size->wr.heap[b]? = w2.heap[b]?
section
variable {lo:Nat} {w w2 wr W:World} {tv:Value} {L:List ByteArray} {s:ByteArray} {g cap k j:Nat}
theorem qU.next (h:qU lo w w2 wr tv L) (hu:Up wr W):qU lo w w2 W tv L:=by
 obtain ⟨z1,z2,z3⟩:=h.sz;exact ⟨h.up.trans hu,⟨z1,z2,aR z3 hu.size⟩,h.own.iC fun b hb=>bH hu b (aG h.own hb).2,h.blk,fun b h1 h2=>(bH hu b (by omega)).trans (h.keep b h1 h2)⟩
theorem qU.app (h:qU lo w w2 wr tv L) (ho:ax w.heap.size 9 W (.slice (some ⟨g,0,none⟩) k cap) (L.map Value.string++[.string s])) (hg:wr.grownBy W tv.ownBlock) (eZ:tv.ownBlock=some g\/wr.heap.size<=g):qU lo w w2 W (.slice (some ⟨g,0,none⟩) k cap) (L++[s]):=by
 have hlo:=fun b hb=>(aG h.own (b:=b) hb);obtain ⟨z1,z2,z3⟩:=h.sz;refine ⟨⟨hg.os.trans h.up.os,hg.tape.trans h.up.tape,hg.output.trans h.up.output,aR h.up.size hg.size,fun b hb=>?_⟩,⟨z1,z2,aR z3 hg.size⟩,by rw [cm];exact ho,fun b hb=>?_,fun b h1 h2=>?_⟩
 ·have:=h.up.size
  exact (hg.block b (by omega) fun e=>by have:=(hlo b e.symm).1;omega).trans (h.up.block b hb)
 ·have hb:some g=some b:=hb
  injection hb with hb;subst hb;rcases eZ with e | e
  ·exact h.blk g e
  ·exact .inr (aR z3 e)
 ·refine (hg.block b (by omega) fun e=>?_).trans (h.keep b h1 h2)
  rcases h.blk b e.symm with e | e<;>omega
theorem qU.set (h:qU lo w w2 wr tv L) (hj:j<L.length):∃g cap,tv=.slice (some ⟨g,0,none⟩) L.length cap/\wr.cell? ⟨g,j,none⟩=some (.string (gs L j))/\wr.frozen? ⟨g,j,none⟩=false/\∀x,qU lo w w2 (wr.setCell ⟨g,j,none⟩ (.string x)) tv (L.set j x):=by
 obtain ⟨g,cap,e,h1,h2,h3,h4,h5⟩:=h.own.set (j:=j) (by rw [aD];exact hj);have hgd:(L.map Value.string).getD j undef=.string (gs L j):=by simp [gs,hj]
 rw [hgd] at h3;rw [aD] at e;refine ⟨g,cap,e,h3,h4,fun x=>?_⟩;have dw:∀b,b≠g->(wr.setCell ⟨g,j,none⟩ (.string x)).heap[b]? = wr.heap[b]?:=fun b hb=>blk_setCell_other _ _ _ _ hb;have hbk:g<lo\/w2.heap.size<=g:=h.blk g (by rw [e];rfl);obtain ⟨z1,z2,z3⟩:=h.sz;refine ⟨Below.setCell (p:=⟨g,j,none⟩) h.up h1 _,⟨z1,z2,by rw [ox];exact z3⟩,?_,h.blk,fun b q1 q2=>(dw b (by omega)).trans (h.keep b q1 q2)⟩;have h6:=h5 (.string x);rw [<- List.map_set] at h6;exact h6
theorem qU.strs {v:Value} {T:List ByteArray} (h:qU lo w w2 wr tv L) (hT:av (fun b=>lo<=b/\b<w2.heap.size) w2 v T):av (fun b=>lo<=b/\b<w2.heap.size) wr v T:=av.keep hT fun b hb _=>h.keep b hb.1 hb.2
end
def tK (xs:List ByteArray) (k:Nat) (j:ByteArray):List ByteArray:=xs.take k++j::xs.drop k
theorem Jd {xs:List ByteArray} {k:Nat} {j:ByteArray}:(tK xs k j).length=xs.length+1:=by
 unfold tK;rw [bg,aO,dD,gw];omega
theorem R8 (xs:List ByteArray) (s:ByteArray):xs++[s]=tK xs xs.length s:=by unfold tK;simp
theorem UL {xs:List ByteArray} {k:Nat} {j:ByteArray} (h0:0<k) (hk:k<=xs.length):gs (tK xs k j) (k - 1)=gs xs (k - 1):=by
 unfold tK gs;rw [fh,fh,wE (by rw [dD];omega),List.getElem?_take_of_lt (by omega)]
theorem PE {xs:List ByteArray} {k:Nat} {j s:ByteArray} (hk:k<=xs.length):(tK xs k j).set k s=tK xs k s:=by
 unfold tK;rw [List.set_append,if_neg (by rw [dD];omega)];have:k - (xs.take k).length=0:=by rw [dD];omega
 rw [this];rfl
theorem R9 {xs:List ByteArray} {k:Nat} {j:ByteArray} (h0:0<k) (hk:k<=xs.length):(tK xs k j).set k (gs xs (k - 1))=tK xs (k - 1) (gs xs (k - 1)):=by
 rw [PE hk];unfold tK;obtain ⟨m,rfl⟩:∃m,k=m+1:=⟨k - 1,by omega⟩;have hg:gs xs (m+1 - 1)=xs[m]:=by simp [gs,show m<xs.length by omega]
 have hd:xs.drop m=xs[m]::xs.drop (m+1):=List.drop_eq_getElem_cons (by omega);rw [hg,Nat.add_sub_cancel,jo (by omega),bZ,<- hd];rfl
end
end Go.Proofs.YthgabkgmkolobaaGreat
