/- strings.IndexAny at the four signs, for .. -/
import Derived.Lib.OthersKept
import Derived.Test.YthgabkgmkolobaaGreatQ23
set_option maxRecDepth 100000
set_option maxHeartbeats 8000000
namespace Go.Proofs.YthgabkgmkolobaaGreat
section
open Go.RowKit Go.Deep
theorem agT (s:ByteArray) (k:Nat) (h:k<s.size):s.get! k=s[k]'h:=by
 simp [ByteArray.get!,getElem!_pos,h];rfl
theorem Ta (s:ByteArray) (pos:Nat) (h:pos<s.size) (ha:128<=(s[pos]'h).toNat):1<=(Utf8.decode s pos).2/\pos+(Utf8.decode s pos).2<=s.size/\∀j,(hj:j<(Utf8.decode s pos).2)->∀hl:pos+j<s.size,128<=(s[pos+j]'hl).toNat:=by
 have key:∀w:Nat,1<=w->w<=4->(∀j,1<=j->j<w->pos+j<s.size/\(s.get! (pos+j)).toNat / 64=2)->1<=w/\pos+w<=s.size/\∀j,(hj:j<w)->∀hl:pos+j<s.size,128<=(s[pos+j]'hl).toNat:=fun w h1 _ hc=>by
  refine ⟨h1,?_,fun j hj hl=>?_⟩
  ·by_cases e:w=1
   ·omega
   ·have:=(hc (w - 1) (by omega) (by omega)).1;omega
  ·by_cases e:j=0
   ·subst e;exact ha
   ·have h2:=(hc j (by omega) hj).2
    rw [agT s _ hl] at h2;omega
 have one:=key 1 (ah _) (by omega) (fun j a b=>by omega);have cont:∀k,(decide (pos+k<s.size)&&(s.get! (pos+k)).toNat / 64==2)=true->pos+k<s.size/\(s.get! (pos+k)).toNat / 64=2:=fun k hk=>by simp only [eF,decide_eq_true_eq,beq_iff_eq] at hk;exact hk
 have hn:¬(s[pos]'h).toNat<128:=by omega
 unfold Utf8.decode;simp only [get_at s pos h,hn,if_false];split
 ·rename_i hb
  rw [eF] at hb;split
  ·exact key 2 (by omega) (by omega) fun j h1 h2=>by obtain rfl:j=1:=(by omega);exact cont 1 hb.2
  ·exact one
 ·split
  ·rename_i hb
   rw [eF,eF] at hb;split
   ·exact key 3 (by omega) (by omega) fun j h1 h2=>by
     by_cases e:j=1
     ·subst e;exact cont 1 hb.1.2
     ·obtain rfl:j=2:=by omega
      exact cont 2 hb.2
   ·exact one
  ·split
   ·rename_i hb
    rw [eF,eF,eF] at hb;split
    ·exact key 4 (by omega) (by omega) fun j h1 h2=>by
      by_cases e:j=1
      ·subst e;exact cont 1 hb.1.1.2
      ·by_cases e2:j=2
       ·subst e2;exact cont 2 hb.1.2
       ·obtain rfl:j=3:=by omega
        exact cont 3 hb.2
    ·exact one
   ·exact one
theorem Wm {s:ByteArray} {i d:Nat} (h:Lib.NoAny s.data.toList eY i) (hs:i+d<=s.size) (hb:∀j,(hj:j<d)->∀hl:i+j<s.size,128<=(s[i+j]'hl).toNat):Lib.NoAny s.data.toList eY (i+d):=fun j b hj hx=>by
 by_cases e:j<i
 ·exact h j b e hx
 ·obtain ⟨d2,rfl⟩:∃d2,j=i+d2:=⟨j - i,by omega⟩
  have hl:i+d2<s.size:=by omega
  have h1:=hb d2 (by omega) hl
  rw [Lib.data_getElem? s (i+d2) hl] at hx
  injection hx with hx
  have h3:128<=b.toNat:=by rw [<- hx];exact h1
  cases hc:eY.contains b with
  | false=>rfl
  | true =>
   have hm:=dU.1 hc
   simp only [eY,bA,List.not_mem_nil,or_false] at hm
   rcases hm with rfl | rfl | rfl | rfl<;>exact absurd h3 (by decide)
theorem Tb (s:ByteArray) (w:World) (hs:s.size<=1000):Calls Tryz.prog 166 #[.string s,.string qH] w fun e w'=>e=.returned (.int .i64 (Lib.indexAny s.data.toList eY))/\Up w w':=by
 by_cases h8:8<s.size
 ·have h:=Go.Proofs.Any.strings_IndexAny_long (ρ:=Tryz.idxA_ren) Tryz.idxA (zero_of_info (P:=Tryz.prog) (t:=225) (v:=.agg (Array.replicate 256 (.bool false))) (n:=256) (by kernel_rfl)).1 (zero_of_info (P:=Tryz.prog) (t:=225) (v:=.agg (Array.replicate 256 (.bool false))) (n:=256) (by kernel_rfl)).2 s qH w (by decide) h8 (by omega) (by decide) (by
   intro j b hb
   have hm:=Jg hb
   have hall:∀x∈qH.data.toList,x.toNat<128:=by decide +kernel
   exact hall b hm)
  refine h.mono ?_
  rintro e w' ⟨rfl,rfl⟩
  exact ⟨rfl,(Up.alloc _ _).trans (Up.alloc _ _)⟩
 ·have h8z:decide ((8:Int)<(s.size:Int))=false:=decide_eq_false (by omega)
  have uH:=aa (fun W=>Go.Proofs.Any.strings_shouldUseASCIISet (ρ:=Tryz.idxA_ren) { Tryz.idxA with } (s.size:Int) W);rw [h8z] at uH;have oO:=aa Q2;have HIL:=aa (fun (x:UInt8) (h:x.toNat<128) W=>Go.Proofs.Any.strings_IndexRune_ascii (ρ:=Tryz.idxA_ren) { Tryz.idxA with } qH (x.toNat:Int) W (by omega) (by omega));have CZ:((qH.size:Int)==1)=false:=rfl;have al1:(qH.toList==[])=false:=by decide +kernel
  clear h8;go_in;go_wp2_with fail;refine (uH.out _).mono ?_;rintro e w2 ⟨rfl,rfl⟩;go_wp2
  go_loopg [9,10] s.size (fun g _ _ wx=>∃i:Nat,i+g=s.size/\wx.heap[w2.heap.size]? = some (.stringIter s i)/\Hid (Up w2 wx)/\Hid (Lib.NoAny s.data.toList eY i))
  case atStart=>exact ⟨0,by omega,World.iter_heap _ _ _,Up.alloc _ _,Lib.NoAny.zero _ _⟩
  case round =>
   obtain ⟨i,hig,hit,cQ,hno⟩:=hrel;obtain ⟨wo,rfl⟩:=eM wr;by_cases hi:i<s.size
   ·have hnx:=fun ty=>Lib.run_next_any_at (P:=Tryz.prog) wo w2.heap.size s i ty hit hi
    have Wn:=Lib.iterAt_heap wo w2.heap.size s i (i+(Utf8.decode s i).2) hit;have HIT:=aa Wn;have b7:Hid (Up w2 (wo.iterAt w2.heap.size s (i+(Utf8.decode s i).2))):=Lib.below_iterAt cQ.out (ah _) _ _;have HDL:=aa (decode_le s i);obtain ⟨x,hx⟩:∃x:UInt8,s[i]'hi=x:=⟨_,rfl⟩;(have hxl:s.data.toList[i]? = some x:=by rw [<- hx];exact Lib.data_getElem? s i hi);have Nh:=aa hxl;have HG:=aa hig;have HI:=aa hi;by_cases ha:128<=x.toNat
    ·obtain ⟨k1,k2,k3⟩:=Ta s i hi (by rw [hx];exact ha)
     have h1:=(decode_high s i hi (by rw [hx];exact ha)).1;have nB:=aa (Wm hno.out k2 k3);have HK:=aa k1;have uI:=aa k2;have HC:=aa (oO.out (wo.iterAt w2.heap.size s (i+(Utf8.decode s i).2)) ((Utf8.decode s i).1:Int) (by omega) (by have:=HDL.out;omega));clear hit Wn cQ hno hxl hx hi hig k1 k2 k3 ha h1;generalize (Utf8.decode s i).1=rn at *;generalize (Utf8.decode s i).2=wd at *;go_wp2_with fail;refine HC.out.mono ?_;rintro e w5 ⟨rfl,gJ⟩;have kK:Hid (Up w2 w5):=b7.out.trans gJ;have ajE:Hid (w5.heap[w2.heap.size]? = some (.stringIter s (i+wd))):=(bH gJ w2.heap.size (fq.1 HIT.out).1).trans HIT.out;clear gJ;go_wp2
     go_roundg (s.size - (i+wd))
     case measure=>have:=HG.out;have:=HK.out;have:=uI.out;omega
     case rel=>exact ⟨i+wd,by have:=uI.out;omega,ajE.out,kK.out,nB.out⟩
    ·have h1:Utf8.decode s i=(x.toNat,1):=by rw [decode_ascii s i hi (by rw [hx];omega),hx]
     rw [h1] at hnx HIT b7;have HC:=aa (HIL.out x (by omega) (wo.iterAt w2.heap.size s (i+1)));(have hback:((x.toNat:Int)).toNat.toUInt8=x:=by simp);rw [hback] at HC;have hcon:=Lib.contains_iff_indexByte eY x;cases hin:eY.contains x
     ·have hlt:decide ((0:Int)<=Lib.indexByte qH.data.toList x)=false:=by rw [hin] at hcon;exact hcon.symm
      have nB:=aa (hno.out.succ hxl hin);clear hit Wn cQ hno hxl hx hi hig ha h1 hcon;generalize Lib.indexByte qH.data.toList x=ib at *;go_wp2_with fail;refine HC.out.mono ?_;rintro e w5 ⟨rfl,rfl⟩;go_wp2
      go_roundg (s.size - (i+1))
      case measure=>have:=HG.out;have:=HI.out;omega
      case rel=>exact ⟨i+1,by have:=HI.out;omega,HIT.out,b7.out,nB.out⟩
     ·have hlt:decide ((0:Int)<=Lib.indexByte qH.data.toList x)=true:=by rw [hin] at hcon;exact hcon.symm
      have HR:Hid (Lib.indexAny s.data.toList eY=(i:Int)):=Lib.indexAny_hit hno.out hxl hin;clear hit Wn cQ hno hxl hx hi hig ha h1 hcon;generalize Lib.indexByte qH.data.toList x=ib at *;go_wp2_with fail;refine HC.out.mono ?_;rintro e w5 ⟨rfl,rfl⟩;go_wp2;go_ret;exact ⟨by rw [HR.out];rfl,b7.out⟩
   ·have hnx:=fun ty=>Lib.run_next_end_at (P:=Tryz.prog) wo w2.heap.size s i ty hit hi
    (have agU:i=s.size:=by omega);have HR:Hid (Lib.indexAny s.data.toList eY = -1):=Lib.indexAny_none (by rw [<- Lib.size_eq,<- agU];exact hno.out);have HUP:=aa cQ.out;clear hit cQ hno hi hig agU;go_wp2;go_ret;exact ⟨by rw [HR.out];rfl,HUP.out⟩
theorem aiF (s:ByteArray) (hs:s.size<=1000):agL s:=fun i W hi=>by
 have h:=Tb (s.extract i s.size) W (by rw [ByteArray.size_extract];omega)
 have e:(s.extract i s.size).data.toList=s.data.toList.drop i:=by
  rw [Ja,Array.toList_extract]
  exact BW (by rw [xN,CM];exact ah _)
 rw [e] at h
 exact h
def uJ (t:ax) (n:Nat):Bool:=(decide (n<t.ps.length)&&decide (t.ps.length<=64)) || decide (66<t.ps.length) || decide (t.ps.length+2<t.ns.length) || (List.range t.ns.length).any fun k=>decide (20<(gs t.ns k).size)
theorem YP (S:Nat->Prop) (w:World) (v:Value) (t:ax) (n:Nat) (hT:aG S w v t) (hp:t.ps.length<=9223372036854775807) (hn:t.ns.length<=9223372036854775807) (hz:∀k,(gs t.ns k).size<=9223372036854775807) :
  Calls Tryz.prog 47 #[v,.int .i64 n] w fun e w'=>e=.returned (.bool (uJ t n))/\Below w.heap.size w w':=by
 obtain ⟨P,N,rfl,hP,hN⟩:=hT;have hu:=Up.alloc w (.cells #[P,N] 39);have HU:=aa hu;have HN:=aa (aj.keep hN (hu.kept S));obtain ⟨pp,pc,rfl,_,_⟩:=aq.open hP;obtain ⟨np,nc,rfl,_,_⟩:=aq.open hN;have mz:=aa (iq w (.slice pp t.ps.length pc) (.slice np t.ns.length nc) 39);have mO:=aa (jg w (.slice pp t.ps.length pc) (.slice np t.ns.length nc) 39);have hc0:=mz.out;have hc1:=mO.out;have HZ:=aa hz;have HE:Hid (uJ t n=((decide (n<t.ps.length)&&decide (t.ps.length<=64)) || decide (66<t.ps.length) || decide (t.ps.length+2<t.ns.length) || (List.range t.ns.length).any fun k=>decide (20<(gs t.ns k).size))):=rfl;clear hu hP hN hz;generalize uJ t n=r at *;obtain ⟨ps,ns⟩:=t;simp only at *;generalize ps.length=m at *;go_in;go_wp2_with fail
 all_goals generalize w.alloc (.cells #[.slice pp m pc,.slice np ns.length nc] 39)=w1 at *
 all_goals try (go_ret;exact ⟨aO (by rw [HE.out];clear HE;symm;simp;omega),HU.out⟩)
 all_goals have HT:Hid (∀k,k<ns.length->decide (20<(gs ns k).size)=true->r=true):=fun k hk hb=>by rw [HE.out,wC (p:=fun k=>decide (20<(gs ns k).size)) hk hb];simp
 all_goals have HF:Hid ((∀k,k<ns.length->decide (20<(gs ns k).size)=false)->r=false):=fun hb=>by rw [HE.out,any_none (p:=fun k=>decide (20<(gs ns k).size)) hb];clear HE;simp;omega
 all_goals clear HE
 all_goals go_loop [5] (fun i=>∃k:Nat,k<=ns.length/\i=.int .i64 k/\Hid (∀j,j<k->decide (20<(gs ns j).size)=false)) (fun i=>ns.length - (intOf i).toNat)
 case atStart=>exact ⟨0,aF _,rfl,fun j hj=>absurd hj (aZ _)⟩
 case atStart=>exact ⟨0,aF _,rfl,fun j hj=>absurd hj (aZ _)⟩
 all_goals
  obtain ⟨k,hk,rfl,hd⟩:=hrel;by_cases hlt:k<ns.length
  ·obtain ⟨b,off,rfl,hc⟩:=cH HN.out hlt
   (have i1:(0:Int)<=(k:Int):=by omega);(have i2:(k:Int)<(ns.length:Int):=by omega);have L8:=HZ.out k;have sV:=aa (HT.out k hlt);(have HDK:Hid (decide (20<(gs ns k).size)=false->∀j,j<k+1->decide (20<(gs ns j).size)=false):=fun hx j hj=>if e:j=k then by subst e;exact hx else hd.out j (by omega));generalize gs ns k=y at *;by_cases h1:20<y.size
   ·have e0:decide ((20:Int)<(y.size:Int))=true:=by simp;omega
    have HQ:=aa (sV.out (by simpa using h1));clear h1;go_wp2;go_ret;exact ⟨aO HQ.out.symm,HU.out⟩
   ·have e0:decide ((20:Int)<(y.size:Int))=false:=by simp;omega
    have HQ:=aa (HDK.out (by simpa using h1));clear h1;go_wp2
    go_round
    case rel=>exact ⟨k+1,by omega,by go_num,HQ.out⟩
    case measure=>simp [intOf];omega
  ·obtain rfl:k=ns.length:=by omega
   have HQ:=aa (HF.out hd.out);clear hlt hk;go_wp2;go_ret;exact ⟨aO HQ.out.symm,HU.out⟩
end
section
section
variable {t:ax}
def dD (ns:List ByteArray) (a:ByteArray):Int:=dr (fun j=>decide (a=gs ns j)) ns.length
theorem Uj {ns:List ByteArray} {a:ByteArray}:a∈sF ns↔∃j,j<ns.length/\gs ns j=a/\a.size≠0:=by
 unfold sF;rw [gP];constructor
 ·rintro ⟨h1,h2⟩
  obtain ⟨j,hj,e⟩:=F3.1 h1;exact ⟨j,hj,by rw [<- e];simp [gs,hj],of_decide_eq_true h2⟩
 ·rintro ⟨j,hj,e,h2⟩
  refine ⟨?_,decide_eq_true h2⟩;have:gs ns j=ns[j]:=by simp [gs,hj]
  rw [<- e,this];exact jy hj
end
end
section
section
variable {t:ax}
theorem Wo (l:List Int):(iG l).Pairwise (· <= ·):=by
 have h:=List.pairwise_mergeSort (le:=fun x y:Int=>decide (x<=y)) (fun a b c h1 h2=>by simp at h1 h2 ⊢;omega) (fun a b=>by
  simp only [s7,decide_eq_true_eq];omega) l
 exact h.imp fun h=>by simpa using h
theorem Ni {α β:Type} {f:α->β}:∀ {l:List α},l.Nodup->(∀x∈l,∀y∈l,f x=f y->x=y)->(l.map f).Nodup
 | [],_,_=>List.nodup_nil
 | a::l,hn,h=>by
  rw [dV,qu]
  have hn2:=qu.1 hn
  refine ⟨fun hm=>?_,Ni hn2.2 fun x hx y hy e=>h x (mX _ hx) y (mX _ hy) e⟩
  obtain ⟨y,hy,e⟩:=bI.1 hm
  exact hn2.1 (h y (mX _ hy) a (tZ ..) e ▸ hy)
theorem YQ (he:aA t=0) {x:Int} (hx:x∈ay t.ns):∃j:Nat,x=j/\eN t j:=by
 obtain ⟨_,_,hl,_,_⟩:=aH he;obtain ⟨j,rfl,h1,h2⟩:=lK.1 hx;exact ⟨j,rfl,he,by omega,h2⟩
end
end
section
def bD (t:ax) (amd:List ByteArray) (k:Nat):List Int:=iT (fun b=>(List.range t.ps.length).any fun j=>fJ t.ps k j&&decide ((gs t.ns j).size≠0)&&decide (dD amd (gs t.ns j)=b)) amd.length
def cu (n:Nat) (S:List Int):List Int:=if S.contains 0 then bG n S else S
def zy (amd:List ByteArray):Bool:=(List.range amd.length).any (cW amd)
def kN (t:ax) (amd:List ByteArray):Bool:=(List.range (ay t.ns).length).any fun j=>decide (dD amd (gs t.ns (gi (ay t.ns) j).toNat)<0)
def cF (t:ax) (amd:List ByteArray):Int :=
 if aA t≠0 then 1 else if 32<amd.length then 4 else if zy amd then 7 else if (ay t.ns).length≠amd.length\/kN t amd=true then 9 else 0
def IC (t:ax) (amd:List ByteArray):List (List Int):=(((List.range t.ps.length).filter (fun k=>decide (0<k))).map fun k=>cu amd.length (bD t amd k)).filter fun s=>decide (aV amd.length s=0)
def dP (t:ax) (amd:List ByteArray):List (List Int):=if cF t amd=0 then wX (IC t amd) else []
structure jG (t:ax) (amd:List ByteArray):Prop where
 te:aA t=0
 le:amd.length<=32
 nd:∀j k,j<k->k<amd.length->gs amd k≠gs amd j
 len:(ay t.ns).length=amd.length
 has:∀j,j<t.ps.length->(gs t.ns j).size≠0->∃b:Nat,b<amd.length/\gs amd b=gs t.ns j
theorem Gf {amd:List ByteArray} {a:ByteArray}:0<=dD amd a↔∃b,b<amd.length/\gs amd b=a:=by
 constructor
 ·intro h
  obtain ⟨k,hk⟩:=oa h;obtain ⟨h1,h2,_⟩:=qQ hk;exact ⟨k,h1,(of_decide_eq_true h2).symm⟩
 ·rintro ⟨b,hb,e⟩
  have agV:(List.range amd.length).any (fun j=>decide (a=gs amd j))=true:=dx.2 ⟨b,bu.2 hb,decide_eq_true e.symm⟩;rw [<- iK] at agV;exact of_decide_eq_true agV
theorem Ka {amd:List ByteArray} (h:∀j k,j<k->k<amd.length->gs amd k≠gs amd j) {a b:Nat} (ha:a<amd.length) (hb:b<amd.length) (e:gs amd a=gs amd b):a=b:=by
 rcases oo a b with c | c | c
 ·exact absurd e.symm (h a b c hb)
 ·exact c
 ·exact absurd e (h b a c ha)
theorem tj {amd:List ByteArray} (h:∀j k,j<k->k<amd.length->gs amd k≠gs amd j) {b:Nat} (hb:b<amd.length):dD amd (gs amd b)=(b:Int):=by
 have h1:0<=dD amd (gs amd b):=Gf.2 ⟨b,hb,rfl⟩;obtain ⟨k,hk⟩:=oa h1;obtain ⟨h2,h3,_⟩:=qQ hk;have h3:=of_decide_eq_true h3;rw [hk];have:=Ka h h2 hb h3.symm;rw [this]
theorem Uk {amd:List ByteArray}:zy amd=false↔∀j k,j<k->k<amd.length->gs amd k≠gs amd j:=by
 constructor
 ·intro h j k hjk hk e
  have h1:=any_false h hk;unfold cW at h1;have:=any_false h1 hjk;rw [decide_eq_true e.symm] at this;cases this
 ·intro h
  refine any_none fun k hk=>any_none fun j hj=>decide_eq_false fun e=>h j k hj hk e.symm
theorem oD {t:ax} {amd:List ByteArray}:cF t amd=0↔jG t amd:=by
 unfold cF;constructor
 ·intro h
  split at h
  ·cases h
  ·rename_i h1
   have h1:=FW.1 h1;obtain ⟨_,_,hl,_,_⟩:=aH h1;split at h
   ·cases h
   ·split at h
    ·cases h
    ·rename_i h3
     split at h
     ·cases h
     ·rename_i h4
      (have h3:zy amd=false:=by simpa using h3);have h4a:(ay t.ns).length=amd.length:=Classical.byContradiction fun e=>h4 (.inl e);have h4b:kN t amd=false:=by
       cases e:kN t amd with
       | false=>rfl
       | true=>exact absurd (.inr e) h4
      refine ⟨h1,by omega,Uk.1 h3,h4a,fun j hj h0=>?_⟩;have hm:(j:Int)∈ay t.ns:=lK.2 ⟨j,rfl,by omega,h0⟩;obtain ⟨i,hi,e⟩:=Dm hm;have:=any_false h4b hi;rw [e,fc] at this;have:=of_decide_eq_false this;exact Gf.1 (by omega)
 ·intro h
  obtain ⟨_,_,hl,_,_⟩:=aH h.te;have hle:=h.le;rw [if_neg (fun e=>e h.te),if_neg (by omega),Uk.2 h.nd,if_neg (by decide),if_neg];rintro (e | e)
  ·exact e h.len
  ·obtain ⟨i,hi,e⟩:=dx.1 e
   have hi:=bu.1 hi;obtain ⟨j,e1,e2,e3⟩:=lK.1 (sL hi);have e:=of_decide_eq_true e;rw [e1,fc] at e;have:=Gf.2 (h.has j (by omega) e3);omega
section
variable {t:ax} {amd:List ByteArray}
theorem Fm (h:aA t=0) (k:Nat) (hk:k<t.ps.length):fJ t.ps 0 k=true:=Iw h k k (ah _) hk
theorem zA (h:jG t amd) {b:Nat} (hb:b<amd.length):∃j,j<t.ps.length/\(gs t.ns j).size≠0/\gs t.ns j=gs amd b:=by
 obtain ⟨_,_,hl,_,_⟩:=aH h.te;have hp:∀x∈ay t.ns,∃j:Nat,x=j/\eN t j:=fun x hx=>YQ h.te hx;have iF:((ay t.ns).map fun x=>dD amd (gs t.ns x.toNat)).Nodup:=by
  refine Ni ((S9 t.ns).imp fun h e=>by omega) fun x hx y hy e=>?_;obtain ⟨j,rfl,hj⟩:=hp x hx;obtain ⟨k,rfl,hk⟩:=hp y hy;rw [fc,fc] at e;obtain ⟨b1,c1,e1⟩:=h.has j hj.lt hj.nm;obtain ⟨b2,c2,e2⟩:=h.has k hk.lt hk.nm;rw [<- e1,<- e2,tj h.nd c1,tj h.nd c2] at e;have:b1=b2:=by omega
  subst this;have:=hj.inj hj.lt hk.lt hj.nm (by rw [<- e1,<- e2]);rw [this]
 have kB:=M5 (q:=allI amd.length) iF (fun x hx=>by
  obtain ⟨y,hy,rfl⟩:=bI.1 hx;obtain ⟨j,rfl,hj⟩:=hp y hy;obtain ⟨b1,c1,e1⟩:=h.has j hj.lt hj.nm;rw [fc,<- e1,tj h.nd c1]
  exact mF.2 ⟨by omega,by omega⟩) (by rw [zn,aD,h.len];exact ah _)
 have hb':(b:Int)∈(ay t.ns).map fun x=>dD amd (gs t.ns x.toNat):=kB.mem_iff.2 (mF.2 ⟨by omega,by omega⟩);obtain ⟨y,hy,e⟩:=bI.1 hb';obtain ⟨j,rfl,hj⟩:=hp y hy;rw [fc] at e;refine ⟨j,hj.lt,hj.nm,?_⟩;obtain ⟨b1,c1,e1⟩:=h.has j hj.lt hj.nm;rw [<- e1,tj h.nd c1] at e;have:b1=b:=by omega
 rw [<- e1,this]
theorem l7 {k:Nat} {x:Int}:x∈bD t amd k↔0<=x/\x<(amd.length:Int)/\∃j,j<t.ps.length/\fJ t.ps k j=true/\(gs t.ns j).size≠0/\dD amd (gs t.ns j)=x:=by
 unfold bD;rw [Dp,dx];constructor
 ·rintro ⟨h1,h2,j,hj,h3⟩
  simp only [eF,decide_eq_true_eq] at h3;exact ⟨h1,h2,j,bu.1 hj,h3.1.1,h3.1.2,h3.2⟩
 ·rintro ⟨h1,h2,j,hj,h3,h4,h5⟩
  refine ⟨h1,h2,j,bu.2 hj,?_⟩;simp only [eF,decide_eq_true_eq];exact ⟨⟨h3,h4⟩,h5⟩
theorem vG (t:ax) (amd:List ByteArray) (k:Nat):(bD t amd k).Pairwise (· < ·):=nS _ _
theorem sZ (h:jG t amd) {k:Nat} (hk:k<t.ps.length):Lv amd (bE (fA t) (dI t) k) (bD t amd k):=fun y=>by
 rw [aeG h.te hk]
 constructor
 ·rintro ⟨j,hj,h1,h2,rfl⟩
  obtain ⟨b,hb,e⟩:=h.has j hj h2
  refine ⟨b,l7.2 ⟨by omega,by omega,j,hj,h1,h2,?_⟩,e.symm⟩
  rw [<- e,tj h.nd hb]
 ·rintro ⟨b,hb,rfl⟩
  obtain ⟨_,h1,j,hj,h2,h3,h4⟩:=l7.1 hb
  obtain ⟨b',hb',e⟩:=h.has j hj h3
  rw [<- e,tj h.nd hb'] at h4
  refine ⟨j,hj,h2,h3,?_⟩
  rw [<- e]
  congr 1
  omega
theorem Kb (hn:∀j k,j<k->k<amd.length->gs amd k≠gs amd j) {s:RT} {X Y:List Int} (hX:X.Pairwise (· < ·)) (hY:Y.Pairwise (· < ·)) (bX:∀x∈X,0<=x/\x<(amd.length:Int)) (bY:∀x∈Y,0<=x/\x<(amd.length:Int)) (h1:Lv amd s X) (h2:Lv amd s Y):X=Y:=by
 have key:∀ {X Y:List Int},(∀x∈X,0<=x/\x<(amd.length:Int))->(∀x∈Y,0<=x/\x<(amd.length:Int))->Lv amd s X->Lv amd s Y->∀x∈X,x∈Y:=fun {X Y} bX bY h1 h2 x hx=>by obtain ⟨x0,xn⟩:=bX x hx;obtain ⟨b,rfl⟩:=oa x0;obtain ⟨b',hb',e⟩:=(h2 (gs amd b)).1 ((h1 _).2 ⟨b,hx,rfl⟩);have:=bY _ hb';have:=Ka hn (a:=b) (b:=b') (by omega) (by omega) e;rw [this];exact hb'
 exact rZ hX hY fun x=>⟨key bX bY h1 h2 x,key bY bX h2 h1 x⟩
theorem zB (h:jG t amd) {s:List Int}:s∈dP t amd↔Dn amd.length s/\∃q∈bh (jE t),∃X,X.Pairwise (· < ·)/\(∀x∈X,0<=x/\x<(amd.length:Int))/\Lv amd q X/\s=cu amd.length X:=by
 unfold dP;rw [if_pos (oD.2 h),zw];unfold IC;rw [gP,bI,decide_eq_true_eq,qh];constructor
 ·rintro ⟨⟨k,hk,rfl⟩,h2⟩
  have hk:=bu.1 (gP.1 hk).1;refine ⟨h2,bE (fA t) (dI t) k,?_,bD t amd k,vG _ _ _,fun x hx=>by have:=l7.1 hx;exact ⟨this.1,this.2.1⟩,sZ h hk,rfl⟩;rw [nM h.te];refine bI.2 ⟨k,?_,rfl⟩;have h0:=(aH h.te).1;refine (fB (ew h.te).wf h0 (ah _)).2 ?_;rw [yu h.te _ 0 k (ah _) h0 hk];exact Fm h.te k hk
 ·rintro ⟨h2,q,hq,X,hX,bX,hL,rfl⟩
  refine ⟨?_,h2⟩;rw [nM h.te] at hq;obtain ⟨k,hk,rfl⟩:=bI.1 hq;have hk:=iO h.te hk;have e:=Kb h.nd hX (vG t amd k) bX (fun x hx=>by have:=l7.1 hx;exact ⟨this.1,this.2.1⟩) hL (sZ h hk);refine ⟨k,gP.2 ⟨bu.2 hk,decide_eq_true ?_⟩,by rw [e]⟩;rcases BZ k with e0 | e0
  ·exfalso
   subst e0;(have hall:∀b:Nat,b<amd.length->(b:Int)∈X:=fun b hb=>by rw [e];obtain ⟨j,hj,h3,h4⟩:=zA h hb;exact l7.2 ⟨by omega,by omega,j,hj,Fm h.te j hj,h3,by rw [h4,tj h.nd hb]⟩);have h0:=h2.n1;have h3:X.contains 0=true:=dU.2 (hall 0 (by omega));have h4:=h2.len;(have h5:cu amd.length X=[]:=by unfold cu;rw [if_pos h3,FX];intro x hx;obtain ⟨x0,xn,hx⟩:=nD.1 hx;obtain ⟨b,rfl⟩:=oa x0;exact hx (hall b (by omega)));rw [h5] at h4;simp at h4
  ·exact e0
end
end
section
def ID (ps:List Int):Nat->Nat->List Nat
 | 0,_=>[]
 | d+1,i=>(bL ps i).flatMap (ID ps d)++if i=0 then [] else [i]
def js (t:ax) (i:Nat):List Nat:=ID t.ps (t.ps.length - i) i
theorem zC {α β:Type} {f g:α->List β}:∀ {l:List α},(∀x∈l,f x=g x)->l.flatMap f=l.flatMap g
 | [],_=>rfl
 | a::l,h=>by
  rw [gj,gj,h a (by simp),zC fun x hx=>h x (mX _ hx)]
theorem Nj (ps:List Int):∀(d e i:Nat),ps.length - i<=d->ps.length - i<=e->i<ps.length->ID ps d i=ID ps e i
 | 0,e,i,h,_,hi=>by omega
 | d+1,0,i,_,h,hi=>by omega
 | d+1,e+1,i,h1,h2,hi=>by
  rw [ID,ID]
  congr 1
  refine zC fun c hc=>?_
  obtain ⟨c1,c2,_⟩:=cK.1 hc
  exact Nj ps d e c (by omega) (by omega) c1
theorem Gg (t:ax) {i:Nat} (hi:i<t.ps.length):js t i=(bL t.ps i).flatMap (js t)++if i=0 then [] else [i]:=by
 unfold js;obtain ⟨d,hd⟩:∃d,t.ps.length - i=d+1:=⟨t.ps.length - i - 1,by omega⟩;rw [hd,ID];congr 1;refine zC fun c hc=>?_;obtain ⟨c1,c2,_⟩:=cK.1 hc;exact Nj t.ps _ _ c (by omega) (ah _) c1
section
variable {t:ax} {amd:List ByteArray}
theorem Dr (h:aA t=0):∀(d i:Nat),t.ps.length - i<=d->i<t.ps.length->(∀k,k∈js t i↔k∈cI (fA t) (dI t) i/\k≠0)/\(js t i).length<=(cI (fA t) (dI t) i).length
 | 0,i,hd,hi=>by omega
 | d+1,i,hd,hi=>by
  have e:=dQ (ew h).wf hi
  rw [jW] at e
  have ih:∀c∈bL t.ps i,(∀k,k∈js t c↔k∈cI (fA t) (dI t) c/\k≠0)/\(js t c).length<=(cI (fA t) (dI t) c).length:=fun c hc=>by
   obtain ⟨c1,c2,_⟩:=cK.1 hc
   exact Dr h d c (by omega) c1
  rw [Gg t hi,e]
  constructor
  ·intro k
   rw [ey,iA,bA,iA]
   constructor
   ·rintro (⟨c,hc,hk⟩ | hk)
    ·obtain ⟨h1,h2⟩:=((ih c hc).1 k).1 hk
     exact ⟨.inr ⟨c,hc,h1⟩,h2⟩
    ·by_cases h0:i=0
     ·rw [if_pos h0] at hk;cases hk
     ·rw [if_neg h0,cN] at hk
      subst hk;exact ⟨.inl rfl,h0⟩
   ·rintro ⟨rfl | ⟨c,hc,hk⟩,h2⟩
    ·rw [if_neg h2];exact .inr (by simp)
    ·exact .inl ⟨c,hc,((ih c hc).1 k).2 ⟨hk,h2⟩⟩
  ·have hs:∀l:List Nat,(∀c∈l,(js t c).length<=(cI (fA t) (dI t) c).length)->(l.flatMap (js t)).length<=(l.flatMap (cI (fA t) (dI t))).length:=fun l=>by
    induction l with
    | nil=>intro _;exact ah _
    | cons a l ihl =>
     intro hl
     have h1:=hl a (by simp)
     have h2:=ihl fun c hc=>hl c (mX _ hc)
     rw [gj,gj,bg,bg];omega
   have h1:=hs _ fun c hc=>(ih c hc).2
   have h2:(if i=0 then ([]:List Nat) else [i]).length<=1:=by split<;>simp
   rw [bg,aW]
   show _<=((bL t.ps i).flatMap (cI (fA t) (dI t))).length+1
   omega
theorem Ul (h:aA t=0) {k:Nat}:k∈js t 0↔0<k/\k<t.ps.length:=by
 have h0:=(aH h).1;rw [(Dr h _ 0 (ah _) h0).1,(uC h).mem_iff,bu];omega
theorem Um (h:aA t=0):(js t 0).length<=t.ps.length:=by
 have h0:=(aH h).1;refine aB (Dr h _ 0 (ah _) h0).2 ?_;rw [(uC h).length_eq,vQ];exact ah _
theorem Q3 (h:jG t amd) {i:Nat} (hi:i<t.ps.length):0<(bD t amd i).length:=by
 have hg:jm (bE (fA t) (dI t) i):=(rj h.te).sub (by
  rw [nM h.te]
  exact bI.2 ⟨i,(uC h.te).mem_iff.2 (bu.2 hi),rfl⟩)
 obtain ⟨x,hx⟩:=hg.meet (dm _);obtain ⟨b,hb,_⟩:=(sZ h hi x).1 hx;exact List.length_pos_of_mem hb
theorem abU (h:jG t amd) {i:Nat} (hi:i<t.ps.length) (hk:bL t.ps i=[]):bD t amd i=[dD amd (gs t.ns i)]:=by
 have hz:=gK (vY h.te hi hk);obtain ⟨b,hb,e⟩:=h.has i hi hz;have hf:dD amd (gs t.ns i)=(b:Int):=by rw [<- e];exact tj h.nd hb
 refine Kb h.nd (vG t amd i) (by simp) (fun x hx=>by have:=l7.1 hx;exact ⟨this.1,this.2.1⟩) (fun x hx=>by
  rw [cN.1 hx,hf];omega) (sZ h hi) fun y=>?_
 rw [fh (ew h.te).wf hi,jW,hk,List.map_nil,show (fA t).nm i=gs t.ns i from rfl,nA hz,hf];constructor
 ·intro hy;exact ⟨b,by simp,by rw [e];simpa using hy⟩
 ·rintro ⟨c,hc,rfl⟩
  have:c=b:=by have:=cN.1 hc;omega
  subst this;rw [e];simp
theorem abV (h:jG t amd) {i:Nat} (hi:i<t.ps.length) (hk:bL t.ps i≠[]):iG ((bL t.ps i).flatMap (bD t amd))=bD t amd i:=by
 have hmem:bE (fA t) (dI t) i∈bh (jE t):=by rw [nM h.te];exact bI.2 ⟨i,(uC h.te).mem_iff.2 (bu.2 hi),rfl⟩
 have hg:jm (bE (fA t) (dI t) i):=(rj h.te).sub hmem;have eT:=fh (ew h.te).wf hi;rw [jW] at eT;have hz:((fA t).nm i).size=0:=by have:=hg.y9 _ (dm _);rw [eT] at this;exact this (by show List.map _ _≠[];simpa using hk)
 have hlf:bM (bE (fA t) (dI t) i)=((bL t.ps i).map (bE (fA t) (dI t))).flatMap bM:=by rw [eT];exact iX hz
 have kl:∀c∈bL t.ps i,c<t.ps.length:=fun c hc=>(cK.1 hc).1;have hbd:∀c,∀x∈bD t amd c,0<=x/\x<(amd.length:Int):=fun c x hx=>by have:=l7.1 hx;exact ⟨this.1,this.2.1⟩
 have iF:((bL t.ps i).flatMap (bD t amd)).Nodup:=by have hn:=hg.nd;rw [hlf,Aa,BR] at hn;have h2:=sI.1 hn.2;rw [Aa,BR];refine ⟨fun c _=>(vG t amd c).imp fun h e=>by omega,h2.imp_of_mem fun {a b} ha hb hab x hx y hy e=>?_⟩;subst e;obtain ⟨q,rfl⟩:=oa (hbd a x hx).1;exact hab _ ((sZ h (kl a ha) _).2 ⟨q,hx,rfl⟩) _ ((sZ h (kl b hb) _).2 ⟨q,hy,rfl⟩) rfl
 have ajF:(iG ((bL t.ps i).flatMap (bD t amd))).Pairwise (· < ·):=by have h1:=Wo ((bL t.ps i).flatMap (bD t amd));have h2:(iG ((bL t.ps i).flatMap (bD t amd))).Nodup:=(F4 _ _).nodup_iff.2 iF;rw [Aa] at h2;exact (h1.and h2).imp fun ⟨a,b⟩=>by omega
 refine Kb h.nd ajF (vG t amd i) (fun x hx=>?_) (hbd i) (fun y=>?_) (sZ h hi)
 ·obtain ⟨c,_,hc⟩:=iA.1 ((F4 _ _).mem_iff.1 hx)
  exact hbd c x hc
 ·rw [hlf,iA]
  constructor
  ·rintro ⟨r,hr,hy⟩
   obtain ⟨c,hc,rfl⟩:=bI.1 hr;obtain ⟨b,hb,e⟩:=(sZ h (kl c hc) y).1 hy;exact ⟨b,(F4 _ _).mem_iff.2 (iA.2 ⟨c,hc,hb⟩),e⟩
  ·rintro ⟨b,hb,e⟩
   obtain ⟨c,hc,hb⟩:=iA.1 ((F4 _ _).mem_iff.1 hb);exact ⟨_,bI.2 ⟨c,hc,rfl⟩,(sZ h (kl c hc) y).2 ⟨b,hb,e⟩⟩
end
theorem agW {t:ax} (h:aA t=0) {k i:Nat} (hk:k<t.ps.length) (e:gi t.ps k=(i:Int)):i<k:=by
 have hok:=(aH h).2.2.2.1;by_cases h0:k=0
 ·subst h0
  have h1:=F5 hok hk;unfold oJ at h1;simp at h1;omega
 ·have:=rA hok hk (by omega)
  omega
end
end Go.Proofs.YthgabkgmkolobaaGreat
