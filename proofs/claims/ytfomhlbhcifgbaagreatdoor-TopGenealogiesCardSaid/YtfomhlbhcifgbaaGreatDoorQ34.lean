/- strings.IndexAny at the four signs, for strings of any bytes. PhylotreeRerooted, plain. .. -/
import Derived.Lib.OthersKept
import Derived.Maps.OwnIn
import Derived.Test.YtfomhlbhcifgbaaGreatDoorQ33
set_option maxRecDepth 100000
set_option maxHeartbeats 8000000
namespace Go.Proofs.YtfomhlbhcifgbaaGreatDoor
section
open Go.RowKit Go.Deep
theorem Yj (s:ByteArray) (k:Nat) (h:k<s.size):s.get! k=s[k]'h:=by
 simp [ByteArray.get!,getElem!_pos,h];rfl
theorem Jq (s:ByteArray) (pos:Nat) (h:pos<s.size) (ha:128<=(s[pos]'h).toNat):1<=(Utf8.decode s pos).2/\pos+(Utf8.decode s pos).2<=s.size/\∀j,(hj:j<(Utf8.decode s pos).2)->∀hl:pos+j<s.size,128<=(s[pos+j]'hl).toNat:=by
 have key:∀w:Nat,1<=w->w<=4->(∀j,1<=j->j<w->pos+j<s.size/\(s.get! (pos+j)).toNat / 64=2)->1<=w/\pos+w<=s.size/\∀j,(hj:j<w)->∀hl:pos+j<s.size,128<=(s[pos+j]'hl).toNat:=fun w h1 _ hc=>by
  refine ⟨h1,?_,fun j hj hl=>?_⟩
  ·by_cases e:w=1
   ·omega
   ·have:=(hc (w - 1) (by omega) (by omega)).1;omega
  ·by_cases e:j=0
   ·subst e;exact ha
   ·have h2:=(hc j (by omega) hj).2
    rw [Yj s _ hl] at h2;omega
 have one:=key 1 (aj _) (by omega) (fun j a b=>by omega);have cont:∀k,(decide (pos+k<s.size)&&(s.get! (pos+k)).toNat / 64==2)=true->pos+k<s.size/\(s.get! (pos+k)).toNat / 64=2:=fun k hk=>by simp only [fN,decide_eq_true_eq,beq_iff_eq] at hk;exact hk
 have hn:¬(s[pos]'h).toNat<128:=by omega
 unfold Utf8.decode;simp only [get_at s pos h,hn,if_false];split
 ·rename_i hb
  rw [fN] at hb;split
  ·exact key 2 (by omega) (by omega) fun j h1 h2=>by obtain rfl:j=1:=(by omega);exact cont 1 hb.2
  ·exact one
 ·split
  ·rename_i hb
   rw [fN,fN] at hb;split
   ·exact key 3 (by omega) (by omega) fun j h1 h2=>by
     by_cases e:j=1
     ·subst e;exact cont 1 hb.1.2
     ·obtain rfl:j=2:=by omega
      exact cont 2 hb.2
   ·exact one
  ·split
   ·rename_i hb
    rw [fN,fN,fN] at hb;split
    ·exact key 4 (by omega) (by omega) fun j h1 h2=>by
      by_cases e:j=1
      ·subst e;exact cont 1 hb.1.1.2
      ·by_cases e2:j=2
       ·subst e2;exact cont 2 hb.1.2
       ·obtain rfl:j=3:=by omega
        exact cont 3 hb.2
    ·exact one
   ·exact one
theorem LN {s:ByteArray} {i d:Nat} (h:Lib.NoAny s.data.toList cN i) (hs:i+d<=s.size) (hb:∀j,(hj:j<d)->∀hl:i+j<s.size,128<=(s[i+j]'hl).toNat):Lib.NoAny s.data.toList cN (i+d):=fun j b hj hx=>by
 by_cases e:j<i
 ·exact h j b e hx
 ·obtain ⟨d2,rfl⟩:∃d2,j=i+d2:=⟨j - i,by omega⟩
  have hl:i+d2<s.size:=by omega
  have h1:=hb d2 (by omega) hl
  rw [Lib.data_getElem? s (i+d2) hl] at hx
  injection hx with hx
  have h3:128<=b.toNat:=by rw [<- hx];exact h1
  cases hc:cN.contains b with
  | false=>rfl
  | true =>
   have hm:=A2.1 hc
   simp only [cN,bQ,List.not_mem_nil,or_false] at hm
   rcases hm with rfl | rfl | rfl | rfl<;>exact absurd h3 (by decide)
theorem Jr (s:ByteArray) (w:World) (hs:s.size<=1000):Calls Tryz.prog 38 #[.string s,.string kN] w fun e w'=>e=.returned (.int .i64 (Lib.indexAny s.data.toList cN))/\Up w w':=by
 by_cases h8:8<s.size
 ·have h:=Go.Proofs.Any.strings_IndexAny_long (ρ:=Tryz.idxA_ren) Tryz.idxA (zero_of_info (P:=Tryz.prog) (t:=114) (v:=.agg (Array.replicate 256 (.bool false))) (n:=256) (by kernel_rfl)).1 (zero_of_info (P:=Tryz.prog) (t:=114) (v:=.agg (Array.replicate 256 (.bool false))) (n:=256) (by kernel_rfl)).2 s kN w (by decide) h8 (by omega) (by decide) (by
   intro j b hb
   have hm:=A4 hb
   have hall:∀x∈kN.data.toList,x.toNat<128:=by decide +kernel
   exact hall b hm)
  refine h.mono ?_
  rintro e w' ⟨rfl,rfl⟩
  exact ⟨rfl,(Up.alloc _ _).trans (Up.alloc _ _)⟩
 ·have h8z:decide ((8:Int)<(s.size:Int))=false:=decide_eq_false (by omega)
  have kO:=aa (fun W=>Go.Proofs.Any.strings_shouldUseASCIISet (ρ:=Tryz.idxA_ren) { Tryz.idxA with } (s.size:Int) W);rw [h8z] at kO;have tr:=aa Hx;have HIL:=aa (fun (x:UInt8) (h:x.toNat<128) W=>Go.Proofs.Any.strings_IndexRune_ascii (ρ:=Tryz.idxA_ren) { Tryz.idxA with } kN (x.toNat:Int) W (by omega) (by omega));have Qb:((kN.size:Int)==1)=false:=rfl;have acA:(kN.toList==[])=false:=by decide +kernel
  clear h8;go_in;go_wp2_with fail;refine (kO.out _).mono ?_;rintro e w2 ⟨rfl,rfl⟩;go_wp2
  go_loopg [9,10] s.size (fun g _ _ wx=>∃i:Nat,i+g=s.size/\wx.heap[w2.heap.size]? = some (.stringIter s i)/\Hid (Up w2 wx)/\Hid (Lib.NoAny s.data.toList cN i))
  case atStart=>exact ⟨0,by omega,World.iter_heap _ _ _,Up.alloc _ _,Lib.NoAny.zero _ _⟩
  case round =>
   obtain ⟨i,hig,hit,dy,hno⟩:=hrel;obtain ⟨wo,rfl⟩:=e9 wr;by_cases hi:i<s.size
   ·have hnx:=fun ty=>Lib.run_next_any_at (P:=Tryz.prog) wo w2.heap.size s i ty hit hi
    have LO:=Lib.iterAt_heap wo w2.heap.size s i (i+(Utf8.decode s i).2) hit;have BI:=aa LO;have bF:Hid (Up w2 (wo.iterAt w2.heap.size s (i+(Utf8.decode s i).2))):=Lib.below_iterAt dy.out (aj _) _ _;have HDL:=aa (decode_le s i);obtain ⟨x,hx⟩:∃x:UInt8,s[i]'hi=x:=⟨_,rfl⟩;(have hxl:s.data.toList[i]? = some x:=by rw [<- hx];exact Lib.data_getElem? s i hi);have HXL:=aa hxl;have HG:=aa hig;have HI:=aa hi;by_cases ha:128<=x.toNat
    ·obtain ⟨k1,k2,k3⟩:=Jq s i hi (by rw [hx];exact ha)
     have h1:=(decode_high s i hi (by rw [hx];exact ha)).1;have wV:=aa (LN hno.out k2 k3);have HK:=aa k1;have Gl:=aa k2;have HC:=aa (tr.out (wo.iterAt w2.heap.size s (i+(Utf8.decode s i).2)) ((Utf8.decode s i).1:Int) (by omega) (by have:=HDL.out;omega));clear hit LO dy hno hxl hx hi hig k1 k2 k3 ha h1;generalize (Utf8.decode s i).1=rn at *;generalize (Utf8.decode s i).2=wd at *;go_wp2_with fail;refine HC.out.mono ?_;rintro e w5 ⟨rfl,mG⟩;have gU:Hid (Up w2 w5):=bF.out.trans mG
     have aaP:Hid (w5.heap[w2.heap.size]? = some (.stringIter s (i+wd))):=(aO mG w2.heap.size (bq.1 BI.out).1).trans BI.out;clear mG;go_wp2
     go_roundg (s.size - (i+wd))
     case measure=>have:=HG.out;have:=HK.out;have:=Gl.out;omega
     case rel=>exact ⟨i+wd,by have:=Gl.out;omega,aaP.out,gU.out,wV.out⟩
    ·have h1:Utf8.decode s i=(x.toNat,1):=by rw [decode_ascii s i hi (by rw [hx];omega),hx]
     rw [h1] at hnx BI bF;have HC:=aa (HIL.out x (by omega) (wo.iterAt w2.heap.size s (i+1)));(have hback:((x.toNat:Int)).toNat.toUInt8=x:=by simp);rw [hback] at HC;have hcon:=Lib.contains_iff_indexByte cN x;cases hin:cN.contains x
     ·have hlt:decide ((0:Int)<=Lib.indexByte kN.data.toList x)=false:=by rw [hin] at hcon;exact hcon.symm
      have wV:=aa (hno.out.succ hxl hin);clear hit LO dy hno hxl hx hi hig ha h1 hcon;generalize Lib.indexByte kN.data.toList x=ib at *;go_wp2_with fail;refine HC.out.mono ?_;rintro e w5 ⟨rfl,rfl⟩;go_wp2
      go_roundg (s.size - (i+1))
      case measure=>have:=HG.out;have:=HI.out;omega
      case rel=>exact ⟨i+1,by have:=HI.out;omega,BI.out,bF.out,wV.out⟩
     ·have hlt:decide ((0:Int)<=Lib.indexByte kN.data.toList x)=true:=by rw [hin] at hcon;exact hcon.symm
      have HR:Hid (Lib.indexAny s.data.toList cN=(i:Int)):=Lib.indexAny_hit hno.out hxl hin;clear hit LO dy hno hxl hx hi hig ha h1 hcon;generalize Lib.indexByte kN.data.toList x=ib at *;go_wp2_with fail;refine HC.out.mono ?_;rintro e w5 ⟨rfl,rfl⟩;go_wp2;go_ret;exact ⟨by rw [HR.out];rfl,bF.out⟩
   ·have hnx:=fun ty=>Lib.run_next_end_at (P:=Tryz.prog) wo w2.heap.size s i ty hit hi
    (have Yk:i=s.size:=by omega);have HR:Hid (Lib.indexAny s.data.toList cN = -1):=Lib.indexAny_none (by rw [<- Lib.size_eq,<- Yk];exact hno.out);have HUP:=aa dy.out;clear hit dy hno hi hig Yk;go_wp2;go_ret;exact ⟨by rw [HR.out];rfl,HUP.out⟩
theorem TF (s:ByteArray) (hs:s.size<=1000):X6 s:=fun i W hi=>by
 have h:=Jr (s.extract i s.size) W (by rw [ByteArray.size_extract];omega)
 have e:(s.extract i s.size).data.toList=s.data.toList.drop i:=by
  rw [A1,Array.toList_extract]
  exact sM (by rw [List.length_drop,uY];exact aj _)
 rw [e] at h
 exact h
end
section
section
variable {t:aA}
def kr (ns:List ByteArray) (a:ByteArray):Int:=bZ (fun j=>decide (a=gs ns j)) ns.length
theorem UL {ns:List ByteArray} {a:ByteArray}:a∈o6 ns↔∃j,j<ns.length/\gs ns j=a/\a.size≠0:=by
 unfold o6;rw [nO];constructor
 ·rintro ⟨h1,h2⟩
  obtain ⟨j,hj,e⟩:=List.mem_iff_getElem.1 h1;exact ⟨j,hj,by rw [<- e];simp [gs,hj],of_decide_eq_true h2⟩
 ·rintro ⟨j,hj,e,h2⟩
  refine ⟨?_,decide_eq_true h2⟩;have:gs ns j=ns[j]:=by simp [gs,hj]
  rw [<- e,this];exact pg hj
end
end
section
section
variable {t:aA} {st:List Int} {cs:List (List Int)} {leaf:Nat}
theorem Js {ns:List ByteArray} {j:Nat} (hj:j<ns.length) (h0:(gs ns j).size≠0):0<=fh ns j:=by
 have hm:(j:Int)∈aq ns:=tQ.2 ⟨j,rfl,hj,h0⟩;obtain ⟨i,hi,e⟩:=Fu hm;unfold fh;have:=gO (fun i=>decide ((j:Int)=gi (aq ns) i)) (aq ns).length;rw [uo hi (decide_eq_true e.symm)] at this;exact of_decide_eq_true this
end
end
section
def Dc (t:aA) (acF:List ByteArray):Bool:=(List.range (aq t.ns).length).any fun j=>decide (kr acF (gs t.ns (gi (aq t.ns) j).toNat)<0)
structure qy (t:aA) (acF:List ByteArray):Prop where
 te:aF t=0
 le:acF.length<=32
 nd:∀j k,j<k->k<acF.length->gs acF k≠gs acF j
 len:(aq t.ns).length=acF.length
 has:∀j,j<t.ps.length->(gs t.ns j).size≠0->∃b:Nat,b<acF.length/\gs acF b=gs t.ns j
theorem LP {acF:List ByteArray} {a:ByteArray}:0<=kr acF a↔∃b,b<acF.length/\gs acF b=a:=by
 constructor
 ·intro h
  obtain ⟨k,hk⟩:=o7 h;obtain ⟨h1,h2,_⟩:=ru hk;exact ⟨k,h1,(of_decide_eq_true h2).symm⟩
 ·rintro ⟨b,hb,e⟩
  have F4:(List.range acF.length).any (fun j=>decide (a=gs acF j))=true:=cR.2 ⟨b,bX.2 hb,decide_eq_true e.symm⟩;rw [<- gO] at F4;exact of_decide_eq_true F4
theorem Yl {acF:List ByteArray} (h:∀j k,j<k->k<acF.length->gs acF k≠gs acF j) {a b:Nat} (ha:a<acF.length) (hb:b<acF.length) (e:gs acF a=gs acF b):a=b:=by
 rcases Nat.lt_trichotomy a b with c | c | c
 ·exact absurd e.symm (h a b c hb)
 ·exact c
 ·exact absurd e (h b a c ha)
theorem Z2 {acF:List ByteArray} (h:∀j k,j<k->k<acF.length->gs acF k≠gs acF j) {b:Nat} (hb:b<acF.length):kr acF (gs acF b)=(b:Int):=by
 have h1:0<=kr acF (gs acF b):=LP.2 ⟨b,hb,rfl⟩;obtain ⟨k,hk⟩:=o7 h1;obtain ⟨h2,h3,_⟩:=ru hk;have h3:=of_decide_eq_true h3;rw [hk];have:=Yl h h2 hb h3.symm;rw [this]
end
section
def c4 (a b:List Int) (i j:Bool):Nat->Nat
 | 0=>0
 | n+1=>c4 a b i j n+if (a.contains (n:Int)==i&&b.contains (n:Int)==j) then 1 else 0
end
section
def oA (t:aA) (acF:List ByteArray) (st:List Int) (n:Nat):List Int:=(List.range n).map fun j=>gi st (kr acF (gs t.ns (gi (aq t.ns) j).toNat)).toNat
theorem sj (t:aA) (acF:List ByteArray) (st:List Int) (n:Nat):(oA t acF st n).length=n:=by simp [oA]
theorem Kq {t:aA} {acF:List ByteArray} {st:List Int} {n j:Nat} (h:j<n):gi (oA t acF st n) j=gi st (kr acF (gs t.ns (gi (aq t.ns) j).toNat)).toNat:=by simp [oA,gi,h]
theorem Oi (t:aA) (acF:List ByteArray) (st:List Int) (n:Nat):oA t acF st (n+1)=oA t acF st n++[gi st (kr acF (gs t.ns (gi (aq t.ns) n).toNat)).toNat]:=by simp [oA,List.range_succ]
section
variable {t:aA} {acF:List ByteArray} {st:List Int}
theorem B5 (h:qy t acF) {v:Nat} (hv:v<t.ps.length) (h0:(gs t.ns v).size≠0):∃b:Nat,b<acF.length/\gs acF b=gs t.ns v/\kr acF (gs t.ns v)=(b:Int):=by
 obtain ⟨b,hb,e⟩:=h.has v hv h0;exact ⟨b,hb,e,by rw [<- e];exact Z2 h.nd hb⟩
end
end
section
open Go.RowKit Go.Shelf Go.Deep Go.Sort
abbrev El:=Nat×Value
section
variable (w0:World) (t:aA) (acF:List ByteArray) (l Bt Be Bn Bq N:Nat) (J:List El->(Nat->Prop)->World->Prop)
variable {w0 t acF l Bt Be Bn Bq N J}
theorem Rt (W:World) (base:Nat) (e:TypeId) (u:Value) (h:base<=W.heap.size):au base e (W.alloc (.cells #[u] e)) (.slice (some ⟨W.heap.size,0,none⟩) 1 1) [u] :=
 ⟨rfl,.inr ⟨W.heap.size,1,#[u],rfl,h,blk_alloc_new W _,aj _,by decide,rfl,rfl⟩⟩
end
end
section
def wz (acG:List (List Int)) (p:Nat):List Int:=acG.map fun r=>gi r p
def gj (t:aA) (acF:List ByteArray) (acG:List (List Int)) (p:Nat):List Int:=oA t acF (wz acG p) (aq t.ns).length
def dX (t:aA) (acF:List ByteArray) (acG:List (List Int)):Int:=aY (fun p=>cI t (gj t acF acG p) (bT 16)) (gl acG 0).length
def jI (acF:List ByteArray) (i:Nat):Int:=if bD (gs acF i).data.toList then (if fO acF i then 7 else 0) else 14
def js (acF:List ByteArray):Int:=if acF.length<2\/7<acF.length then 4 else dP (jI acF) acF.length
def fG (acF:List ByteArray) (acG:List (List Int)):Int:=if js acF≠0 then js acF else if eo acG≠0 then 1 else if acG.length≠acF.length then 9 else 0
def qz (t:aA) (acF:List ByteArray):Bool:=decide ((aq t.ns).length=acF.length)&&!Dc t acF
def jl (f:Nat->Int):Nat->Int
 | 0=>-1
 | k+1=>if jl f k<0\/f k<jl f k then f k else jl f k
def gt (l:List aA) (k:Nat):aA:=l.getD k ⟨[],[]⟩
def dY (acF:List ByteArray) (acG:List (List Int)):Int:=jl (fun k=>dX (gt (allT acF) k) acF acG) (allT acF).length
def eY (acF:List ByteArray) (acG:List (List Int)):List aA:=(allT acF).filter fun t=>decide (dX t acF acG=dY acF acG)
theorem je (f:Nat->Int) (k:Nat):jl f (k+1)=if jl f k<0\/f k<jl f k then f k else jl f k:=rfl
theorem B6 {f:Nat->Int} (hf:∀k,0<=f k):∀ {n k:Nat},k<n->jl f n<=f k/\0<=jl f n
 | 0,k,h=>by omega
 | n+1,k,h=>by
  rw [je]
  have h0:=hf n
  by_cases e:k=n
  ·subst e
   split<;>omega
  ·obtain ⟨h1,h2⟩:=B6 hf (n:=n) (k:=k) (by omega)
   split<;>omega
theorem B7 {f:Nat->Int} (hf:∀k,0<=f k):∀ {n:Nat},0<n->∃k,k<n/\jl f n=f k
 | 0,h=>by omega
 | n+1,_=>by
  rw [je]
  by_cases e:jl f n<0\/f n<jl f n
  ·rw [if_pos e];exact ⟨n,by omega,rfl⟩
  ·rw [if_neg e]
   have hn:0<n:=by
    rcases Nat.eq_zero_or_pos n with h | h
    ·subst h;exact absurd (.inl (by show (-1:Int)<0;decide)) e
    ·exact h
   obtain ⟨k,h1,h2⟩:=B7 hf hn
   exact ⟨k,by omega,h2⟩
theorem Ij {acF:List ByteArray} (h5:acF.length<=5):js acF=0↔iE acF:=by
 unfold js;constructor
 ·intro h
  split at h
  ·cases h
  ·rename_i h1
   have h2:=kD h;have hn:∀i,i<acF.length->bD (gs acF i).data.toList=true/\fO acF i=false:=fun i hi=>by
    have:=h2 i hi;unfold jI at this;cases e1:bD (gs acF i).data.toList<;>rw [e1] at this
    ·cases this
    ·cases e2:fO acF i<;>rw [e2] at this
     ·exact ⟨rfl,rfl⟩
     ·cases this
   refine ⟨by omega,h5,fun x hx=>?_,?_⟩
   ·obtain ⟨i,hi,rfl⟩:=sG hx
    have:=(hn i hi).1;simpa [gs,hi] using this
   ·refine vw.2 fun i j hi hj hij e=>?_
    have:=(hn j hj).2;unfold fO at this;have:=any_false this hij;rw [decide_eq_false_iff_not] at this;exact this (by simp [gs,hi,hj,e])
 ·intro h
  rw [if_neg (by have:=h.lo;omega)];refine fT fun i hi=>?_;unfold jI;have h1:gs acF i=acF[i]:=by simp [gs,hi]
  rw [h1,h.nm _ (pg hi),if_pos rfl,if_neg];rw [Bool.not_eq_true];refine any_none fun j hj=>?_;rw [decide_eq_false_iff_not,h1];intro e;have h2:=vw.1 h.nd j i (by omega) hi hj;exact h2 (by simpa [gs,show j<acF.length by omega] using e)
theorem Kr {ns:List ByteArray} {n j:Nat} (hn:ns.length=n) (hj:j<n) (h0:(gs ns j).size≠0):(fh ns j).toNat<(aq ns).length/\gi (aq ns) (fh ns j).toNat=j:=pU (Js (by omega) h0)
theorem iE.Ym {acF:List ByteArray} (h:iE acF):∀j k,j<k->k<acF.length->gs acF k≠gs acF j:=fun j k hjk hk e=>by
 have h2:=vw.1 h.nd j k (by omega) hk hjk
 exact h2 (by simpa [gs,hk,show j<acF.length by omega] using e.symm)
theorem Ik {t:aA} {acF:List ByteArray} (h:iE acF) (ht:aF t=0):qz t acF=true↔qy t acF:=by
 obtain ⟨_,_,hnl,_,_⟩:=aG ht;unfold qz;rw [fN,decide_eq_true_iff,Bool.not_eq_true'];constructor
 ·rintro ⟨h1,h2⟩
  refine ⟨ht,by have:=h.hi;omega,h.Ym,h1,fun j hj hj0=>?_⟩;obtain ⟨p1,p2⟩:=Kr hnl hj hj0;have:=any_false h2 p1;rw [p2,decide_eq_false_iff_not] at this;exact LP.1 (by rw [ei] at this;omega)
 ·intro ho
  refine ⟨ho.len,any_none fun j hj=>?_⟩;rw [decide_eq_false_iff_not];obtain ⟨v,hv,xQ,hv0⟩:=mW hj;rw [hv,ei];have:=LP.2 (ho.has v (by omega) hv0);omega
theorem B8 {acG:List (List Int)} (h:eo acG=0):0<acG.length/\(∀k,k<acG.length->(gl acG k).length=(gl acG 0).length/\∀p,p<(gl acG 0).length -> -1<=gi (gl acG k) p/\gi (gl acG k) p<16):=by
 unfold eo at h;split at h
 ·cases h
 ·rename_i h0
  split at h
  ·cases h
  ·refine ⟨by omega,fun k hk=>?_⟩
   have:=kD h k hk;unfold jr at this;split at this
   ·cases this
   ·rename_i h1
    split at this
    ·cases this
    ·rename_i h2
     (have h1:(gl acG k).length=(gl acG 0).length:=by omega);refine ⟨h1,fun p hp=>ZB (by simpa using h2) (by omega)⟩
structure lG (acF:List ByteArray) (acG:List (List Int)):Prop where
 nm:iE acF
 ag:eo acG=0
 len:acG.length=acF.length
theorem Ru {acF:List ByteArray} {acG:List (List Int)} (h5:acF.length<=5):fG acF acG=0↔lG acF acG:=by
 unfold fG;constructor
 ·intro h
  split at h
  ·rename_i h1;exact absurd h h1
  ·rename_i h1
   split at h
   ·cases h
   ·rename_i h2
    split at h
    ·cases h
    ·rename_i h3
     exact ⟨(Ij h5).1 (by omega),by omega,by omega⟩
 ·intro h
  rw [if_neg (by rw [(Ij h5).2 h.nm];simp),if_neg (by rw [h.ag];simp),if_neg (by rw [h.len];simp)]
theorem Il (acG:List (List Int)) (p:Nat) {k:Nat} (hk:k<acG.length):gi (wz acG p) k=gi (gl acG k) p:=by simp [gi,wz,gl,hk]
section
variable {t u:aA} {acF:List ByteArray} {acG:List (List Int)}
theorem qd (hc:lG acF acG) (h:qy t acF) {p:Nat} (hp:p<(gl acG 0).length):Valid t (gj t acF acG p) (bT 16):=by
 refine ⟨h.te,Vk,sj _ _ _ _,?_⟩;unfold iQ gj;rw [sj];refine any_none fun j hj=>?_;obtain ⟨v,hv,xQ,hv0⟩:=mW hj;obtain ⟨_,_,hnl,_,_⟩:=aG h.te;obtain ⟨b,hb,_,e⟩:=B5 h (show v<t.ps.length by omega) hv0;rw [Kq hj,hv,ei,e,ei,Il _ _ (by rw [hc.len];exact hb)];have:=((B8 hc.ag).2 b (by rw [hc.len];exact hb)).2 p hp;rw [kY,Bool.or_eq_false_iff,decide_eq_false_iff_not,decide_eq_false_iff_not];omega
theorem Oj (hc:lG acF acG) (ht:qy t acF):0<=dX t acF acG :=
 mz fun _ hp=>rz (qd hc ht hp)
theorem of_flat (hn:iE acF) {q:RT} (ht:aF (flat q)=0) (hq:(gM q).Perm acF):qy (flat q) acF:=by
 have h1:(o6 (flat q).ns).Perm acF:=by have:=LJ ht;rw [vT] at this;exact this.symm.trans hq
 refine ⟨ht,by have:=hn.hi;omega,hn.Ym,by rw [NT,h1.length_eq],fun j hj hj0=>?_⟩;obtain ⟨_,_,hnl,_,_⟩:=aG ht;have hm:gs (flat q).ns j∈acF:=h1.mem_iff.1 (UL.2 ⟨j,by omega,rfl,hj0⟩);obtain ⟨b,hb,e⟩:=sG hm;exact ⟨b,hb,by simp [gs,hb] at e ⊢;exact e⟩
theorem ri (hn:iE acF) (ht:t∈allT acF):qy t acF/\∃q∈dN acF,t=flat q:=by
 obtain ⟨q,hq,rfl⟩:=ek.1 ht;obtain ⟨_,h2,_,_,h5,_⟩:=iX hn hq;exact ⟨of_flat hn h5 h2,q,hq,rfl⟩
theorem yF {l:List aA} {k:Nat} (h:k<l.length):gt l k∈l:=by simp [gt,h]
theorem Yn {l:List aA} {t:aA} (h:t∈l):∃k,k<l.length/\gt l k=t:=by
 obtain ⟨k,hk,e⟩:=sG h;exact ⟨k,hk,by simp [gt,hk,e]⟩
theorem Rv (hn:iE acF):0<(allT acF).length:=by
 unfold allT;rw [aD,wm hn];split<;>(try split)<;>(try split)<;>omega
theorem Jt (hc:lG acF acG):(∀t∈allT acF,dY acF acG<=dX t acF acG)/\0<=dY acF acG/\∃t∈allT acF,dX t acF acG=dY acF acG:=by
 obtain ⟨f,hf⟩:∃f:Nat->Int,f=fun k=>if k<(allT acF).length then dX (gt (allT acF) k) acF acG else 0:=⟨_,rfl⟩
 have hfn:∀k,0<=f k:=fun k=>by
  rw [hf];show 0<=if k<(allT acF).length then dX (gt (allT acF) k) acF acG else 0
  split
  ·rename_i hk;exact Oj hc (ri hc.nm (yF hk)).1
  ·exact jN _
 have he:∀n,n<=(allT acF).length->jl (fun k=>dX (gt (allT acF) k) acF acG) n=jl f n:=fun n=>by
  induction n with
  | zero=>intro _;rfl
  | succ n ih =>
   intro hn;(have e:f n=dX (gt (allT acF) n) acF acG:=by rw [hf];exact if_pos hn);rw [je,je,ih (by omega),e]
 have hl:dY acF acG=jl f (allT acF).length:=he _ (aj _);have hp:=Rv hc.nm;obtain ⟨k,hk,e⟩:=B7 hfn hp;have DT:∀k,k<(allT acF).length->f k=dX (gt (allT acF) k) acF acG:=fun k hk=>by rw [hf];exact if_pos hk
 refine ⟨fun t ht=>?_,?_,gt (allT acF) k,yF hk,?_⟩
 ·obtain ⟨j,hj,rfl⟩:=Yn ht
  rw [hl,<- DT j hj];exact (B6 hfn hj).1
 ·rw [hl];exact (B6 hfn hp).2
 ·rw [hl,e,DT k hk]
end
end
section
open Go.RowKit Go.Deep Go.Shelf
theorem aB.grown {S:Nat->Prop} {X Y:World} {v:Value} {n:Nat} {f:Nat->Value} {row:Option Nat} (h:aB S X v n f) (hg:X.grownBy Y row) (hr:∀r,row=some r->∃o,X.heap[r]? = some o/\o.isCells=false):aB S Y v n f:=by
 obtain ⟨p,cap,rfl,hn,h⟩:=h;refine ⟨p,cap,rfl,hn,?_⟩;by_cases h0:n=0
 ·exact .inl h0
 ·rcases h with h | ⟨g,off,rfl,hS,hc⟩
  ·exact absurd h h0
  ·refine .inr ⟨g,off,rfl,hS,fun k hk=>?_⟩
   have h1:=hc k hk;have hl:=fS X _ h1;refine (cW (a:=⟨g,off+k,none⟩) (hg.block g hl fun e=>?_)).trans h1;obtain ⟨o,h2,h3⟩:=hr g e.symm;simp only [World.cell?] at h1;rw [h2] at h1;cases o<;>simp [Obj.isCells] at h3<;>simp at h1
end
end Go.Proofs.YtfomhlbhcifgbaaGreatDoor
