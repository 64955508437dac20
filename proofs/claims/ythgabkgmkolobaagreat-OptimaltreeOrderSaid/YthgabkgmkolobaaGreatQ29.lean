/- strings.IndexRune: a rune above ASCII is not among the four signs. strings.IndexAny at .. -/
import Derived.Laws.RangeAny
import Derived.WalkMore
import Derived.Shelf.Small.Utf8
import Derived.Lib.OthersKept
import Derived.Test.YthgabkgmkolobaaGreatQ28
set_option maxRecDepth 100000
set_option maxHeartbeats 8000000
namespace Go.Proofs.YthgabkgmkolobaaGreat
section
open Go.RowKit Go.Deep
def lQ:ByteArray:=⟨#[40,41,44,59]⟩
theorem Td:∀i,(h:i<4)->(lQ[i]'h).toNat<128:=by decide +kernel
theorem Uk (j:Nat) {b:UInt8} (h:128<=b.toNat):Lib.indexByte ((lQ.extract j 4).data.toList) b = -1:=by
 have key:∀l:List UInt8,b∉l->Lib.indexByte l b = -1:=fun l=>by
  induction l with
  | nil=>intro _;rfl
  | cons a l ih =>
   intro hm;have h1:a≠b:=fun e=>hm (by rw [e];exact qj);have h2:=ih fun h=>hm (tY _ h);rw [Lib.indexByte,if_neg (by simpa using h1),h2];rfl
 refine key _ fun hm=>?_;rw [wA,Array.toList_extract] at hm;have hm2:b∈lQ.data.toList:=BJ (rJ hm);have hall:∀x∈lQ.data.toList,x.toNat<128:=by decide +kernel
 have:=hall b hm2;omega
def Ry (s:ByteArray):Prop:=∃n:Nat,∃lb:UInt8,∃hs:s.size=n+1,1<=n/\n<=3/\128<=lb.toNat/\s[n]'(by omega)=lb
theorem Rz (r:Int) (h:128<=r):Ry (Utf8.encode r):=by
 obtain ⟨c,hcd⟩:∃c,c=if Utf8.valid r then r.toNat else Utf8.runeError:=⟨_,rfl⟩
 have hc:128<=c:=by
  rw [hcd];split
  ·omega
  ·decide
 have hl:∀c:Nat,128<=(UInt8.ofNat (0x80+c % 64)).toNat:=fun c=>by rw [UInt8.toNat_ofNat'];omega
 by_cases h1:c<0x800
 ·have he:∃b0,Utf8.encode r=⟨#[b0,UInt8.ofNat (0x80+c % 64)]⟩:=by
   unfold Utf8.encode
   simp only [<- hcd,if_neg (show ¬c<0x80 by omega),if_pos h1]
   exact ⟨_,rfl⟩
  obtain ⟨b0,he⟩:=he
  rw [he]
  exact ⟨1,_,rfl,by omega,by omega,hl c,rfl⟩
 ·by_cases h2:c<0x10000
  ·have he:∃b0 b1,Utf8.encode r=⟨#[b0,b1,UInt8.ofNat (0x80+c % 64)]⟩:=by
    unfold Utf8.encode
    simp only [<- hcd,if_neg (show ¬c<0x80 by omega),if_neg h1,if_pos h2]
    exact ⟨_,_,rfl⟩
   obtain ⟨b0,b1,he⟩:=he
   rw [he]
   exact ⟨2,_,rfl,by omega,by omega,hl c,rfl⟩
  ·have he:∃b0 b1 b2,Utf8.encode r=⟨#[b0,b1,b2,UInt8.ofNat (0x80+c % 64)]⟩:=by
    unfold Utf8.encode
    simp only [<- hcd,if_neg (show ¬c<0x80 by omega),if_neg h1,if_neg h2]
    exact ⟨_,_,_,rfl⟩
   obtain ⟨b0,b1,b2,he⟩:=he
   rw [he]
   exact ⟨3,_,rfl,by omega,by omega,hl c,rfl⟩
theorem H7 (w:World) (r:Int) (h:128<=r) (h2:r<=2147483647) :
  Calls Tryz.prog 217 #[.string lQ,.int .i32 r] w fun e w'=>e=.returned (.int .i64 (-1))/\Up w w':=by
 have d1:decide ((0:Int)<=r)=true:=decide_eq_true (by omega);have d2:decide (r<(128:Int))=false:=decide_eq_false (by omega);have HVR:=aa (fun W=>Go.Proofs.Any.utf8_ValidRune (ρ:=Tryz.idxA_ren) { Tryz.idxA with } r W);by_cases h3:r=65533
 ·have d3:(r==(65533:Int))=true:=by simp [h3]
  clear h3
  go_enter Tryz.func217,Tryz.ntmps217
  go_wp2_with fail
  go_loopg [5,6] 4 (fun g _ _ wx=>∃i:Nat,i+g=4/\wx=w.iter lQ i)
  case atStart=>exact ⟨0,rfl,rfl⟩
  case round =>
   obtain ⟨i,hig,rfl⟩:=hrel;cases gk with
   | zero =>
    (obtain rfl:i=4:=by omega);have hnx:=fun ty=>run_next_end (P:=Tryz.prog) w lQ 4 ty (by decide);go_wp2_with fail;go_ret;exact ⟨rfl,Up.alloc _ _⟩
   | succ g =>
    (have hi:i<4:=by omega);have hlt:=Td i hi;have hnx:=fun ty=>run_next_ascii (P:=Tryz.prog) w lQ i ty hi hlt;generalize (lQ[i]'hi).toNat=x at *;(have d4:((x:Int)==65533)=false:=by simp;omega);go_wp2_with fail
    go_roundg g
    case measure=>omega
    case rel=>exact ⟨i+1,by omega,rfl⟩
 ·have d3:(r==(65533:Int))=false:=by simp [h3]
  clear h3;obtain ⟨n,lb,vu,n1,n3,hlb,Xk⟩:=Rz r h
  go_enter Tryz.func217,Tryz.ntmps217
  go_wp2_with fail;refine (HVR.out _).mono ?_;rintro e w2 ⟨rfl,rfl⟩;cases hv:Lib.validRune r
  ·go_wp2_with fail
   go_ret;exact ⟨rfl,Up.refl _⟩
  ·go_wp2_with fail
   (have hsz:((Utf8.encode r).size:Int)=(n:Int)+1:=by omega);have ack:=hsz;obtain ⟨nd,gV⟩:∃nd,nd=Utf8.encode r:=⟨_,rfl⟩;(have hlt:n<nd.size:=by rw [gV];omega);(have hidx:nd[n]'hlt=lb:=by subst gV;exact Xk);rw [<- gV] at hsz;(have i3:(n:Int)<(nd.size:Int):=by omega);(have i1:(n:Int)<4:=by omega);(have i2:(0:Int)<=(n:Int):=by omega);(have RA:n<4:=by omega);(have w1:wrap64 (n:Int)=(n:Int):=by unfold wrap64;omega);(have w2a:(n:Int)<(n:Int)+1:=by omega);(have w3a:IntKind.i64.wrap ((n:Int)+1)=(n:Int)+1:=by rw [IntKind.wrap_i64];omega);have w3b:((n:Int)+1).toNat=n+1:=by omega
   (have w3c:(0:Int)<=(n:Int)+1:=by omega);(have w3d:(n:Int)+1<=4:=by omega);obtain ⟨cx,sA⟩:∃cx,cx=lQ[n]'RA:=⟨_,rfl⟩;(have acm:cx.toNat<128:=by rw [sA];exact Td n RA);(have d5:(((lQ[n]'RA).toNat:Int) != (lb.toNat:Int))=true:=by rw [<- sA];simp;omega);have HIB:=aa (fun W=>Go.Proofs.Any.strings_IndexByte (ρ:=Tryz.idxA_ren) { Tryz.idxA with } (lQ.extract (n+1) 4) (lb.toNat:Int) W);(have hback:((lb.toNat:Int)).toNat.toUInt8=lb:=by simp);rw [hback,Uk (n+1) hlb] at HIB;have hsg:(lQ.size:Int)=4:=rfl;have acn:lQ.size=4:=rfl;have OB:=aa gV;clear Xk vu sA gV
   go_step3
   go_wp2_with fail;rw [<- OB.out];clear OB
   go_loop [9,10,11,12] (fun i f _ _=>i=.int .i64 n/\f=.int .i64 0) (fun _ _ _ _=>0)
   case atStart=>exact ⟨rfl,rfl⟩
   case round =>
    obtain ⟨rfl,rfl⟩:=hrel;go_wp2_with fail
    go_step3
    go_wp2_with fail;refine eC (by kernel_rfl) 7 (fun _=>True) trivial (fun hS=>?_);simp only [fo,aO,dz,Nat.reduceAdd,ic,ig,fk,cw,bz];refine af.tk 0 hS ?_;(try simp only [Act.put,aj,aq,au]);refine af.tk 1 hS ?_;(try simp only [Act.put,aj,aq,au]);refine af.tk 2 hS ?_;try simp only [Act.put,aj,aq,au]
    refine af.tk 3 hS ?_;(try simp only [Act.put,aj,aq,au]);refine af.tk 4 hS ?_;(try simp only [Act.put,aj,aq,au]);refine af.tk 5 hS ?_;(try simp only [Act.put,aj,aq,au]);refine af.step (i:=6) rfl (by kernel_rfl) (fun K' hK=>?_);go_simp;refine hK.out _ _ (aS (by kernel_rfl)) (fun hS=>?_);refine af.done (by kernel_rfl) ?_;go_wp2_with fail;refine eC (by kernel_rfl) 9 (fun _=>True) trivial (fun hS=>?_)
    simp only [fo,aO,dz,Nat.reduceAdd,ic,ig,fk,cw,bz];refine af.tk 0 hS ?_;(try simp only [Act.put,aj,aq,au]);refine af.tk 1 hS ?_;(try simp only [Act.put,aj,aq,au]);refine af.tk 2 hS ?_;(try simp only [Act.put,aj,aq,au]);refine af.tk 3 hS ?_
    (try simp only [Act.put,aj,aq,au]);refine af.tk 4 hS ?_;(try simp only [Act.put,aj,aq,au]);refine af.tk 5 hS ?_;(try simp only [Act.put,aj,aq,au]);refine af.tk 6 hS ?_;(try simp only [Act.put,aj,aq,au]);refine af.step (i:=7) rfl (by kernel_rfl) (fun K' hK=>?_);go_simp;refine (HIB.out _).mono ?_;rintro e w4 ⟨rfl,rfl⟩;refine hK.out _ _ (fun _=>trivial) (fun hS=>?_)
    (try simp only [aj,aq,au]);refine af.step (i:=8) rfl (by kernel_rfl) (fun K' hK=>?_);go_simp;refine hK.out _ _ (aS (by kernel_rfl)) (fun hS=>?_);refine af.done (by kernel_rfl) ?_;go_wp2_with fail;simp +zetaDelta only [Exit.noGoto,Exit.inBlock,Exit.then];refine bodyPost_ret (results_tmp rfl _ _ _) rfl ?_;exact ⟨rfl,(Up.drewN _ 1).trans (Up.drewN _ 1)⟩
theorem Xl (s:ByteArray) (k:Nat) (h:k<s.size):s.get! k=s[k]'h:=by
 simp [ByteArray.get!,getElem!_pos,h];rfl
theorem JJ (s : ByteArray) (pos : Nat) (h : pos < s.size) (ha : 128 <= (s[pos]'h).toNat) : 1 <= (Utf8.decode s pos).2 /\ pos + (Utf8.decode s pos).2 <= s.size /\ ∀ j, (hj : j < (Utf8.decode s pos).2) -> ∀ hl : pos + j < s.size, 128 <= (s[pos + j]'hl).toNat := by
  have key : ∀ w : Nat, 1 <= w -> w <= 4 -> (∀ j, 1 <= j -> j < w -> pos + j < s.size /\ (s.get! (pos + j)).toNat / 64 = 2) -> 1 <= w /\ pos + w <= s.size /\ ∀ j, (hj : j < w) -> ∀ hl : pos + j < s.size, 128 <= (s[pos + j]'hl).toNat := fun w h1 _ hc => by
    refine ⟨h1, ?_, fun j hj hl => ?_⟩
    · by_cases e : w = 1
      · omega
      · have := (hc (w - 1) (by omega) (by omega)).1; omega
    · by_cases e : j = 0
      · subst e; exact ha
      · have h2 := (hc j (by omega) hj).2
        rw [Xl s _ hl] at h2
        omega
  have one := key 1 (ah _) (by omega) (fun j a b => by omega)
  have cont : ∀ k, (decide (pos + k < s.size) && (s.get! (pos + k)).toNat / 64 == 2) = true -> pos + k < s.size /\ (s.get! (pos + k)).toNat / 64 = 2 := fun k hk => by
    simp only [fe, decide_eq_true_eq, beq_iff_eq] at hk; exact hk
  have hn : ¬ (s[pos]'h).toNat < 128 := by omega
  unfold Utf8.decode
  simp only [get_at s pos h, hn, if_false]
  split
  · rename_i hb
    rw [fe] at hb
    split
    · exact key 2 (by omega) (by omega) fun j h1 h2 => by obtain rfl : j = 1 := by omega
                                                          exact cont 1 hb.2
    · exact one
  · split
    · rename_i hb
      rw [fe, fe] at hb
      split
      · exact key 3 (by omega) (by omega) fun j h1 h2 => by
          by_cases e : j = 1
          · subst e; exact cont 1 hb.1.2
          · obtain rfl : j = 2 := by omega
            exact cont 2 hb.2
      · exact one
    · split
      · rename_i hb
        rw [fe, fe, fe] at hb
        split
        · exact key 4 (by omega) (by omega) fun j h1 h2 => by
            by_cases e : j = 1
            · subst e; exact cont 1 hb.1.1.2
            · by_cases e2 : j = 2
              · subst e2; exact cont 2 hb.1.2
              · obtain rfl : j = 3 := by omega
                exact cont 3 hb.2
        · exact one
      · exact one
theorem Mg {s:ByteArray} {i d:Nat} (h:Lib.NoAny s.data.toList bT i) (hs:i+d<=s.size) (hb:∀j,(hj:j<d)->∀hl:i+j<s.size,128<=(s[i+j]'hl).toNat):Lib.NoAny s.data.toList bT (i+d):=fun j b hj hx=>by
 by_cases e:j<i
 ·exact h j b e hx
 ·obtain ⟨d2,rfl⟩:∃d2,j=i+d2:=⟨j - i,by omega⟩
  have hl:i+d2<s.size:=by omega
  have h1:=hb d2 (by omega) hl
  rw [Lib.data_getElem? s (i+d2) hl] at hx
  injection hx with hx
  have h3:128<=b.toNat:=by rw [<- hx];exact h1
  cases hc:bT.contains b with
  | false=>rfl
  | true =>
   have hm:=BF.1 hc
   simp only [bT,bX,List.not_mem_nil,or_false] at hm
   rcases hm with rfl | rfl | rfl | rfl<;>exact absurd h3 (by decide)
theorem JK (s:ByteArray) (w:World) (hs:s.size<=1000):Calls Tryz.prog 166 #[.string s,.string lQ] w fun e w'=>e=.returned (.int .i64 (Lib.indexAny s.data.toList bT))/\Up w w':=by
 by_cases h8:8<s.size
 ·have h:=Go.Proofs.Any.strings_IndexAny_long (ρ:=Tryz.idxA_ren) Tryz.idxA (zero_of_info (P:=Tryz.prog) (t:=225) (v:=.agg (Array.replicate 256 (.bool false))) (n:=256) (by kernel_rfl)).1 (zero_of_info (P:=Tryz.prog) (t:=225) (v:=.agg (Array.replicate 256 (.bool false))) (n:=256) (by kernel_rfl)).2 s lQ w (by decide) h8 (by omega) (by decide) (by
   intro j b hb
   have hm:=BI hb
   have hall:∀x∈lQ.data.toList,x.toNat<128:=by decide +kernel
   exact hall b hm)
  refine h.mono ?_
  rintro e w' ⟨rfl,rfl⟩
  exact ⟨rfl,(Up.alloc _ _).trans (Up.alloc _ _)⟩
 ·have h8z:decide ((8:Int)<(s.size:Int))=false:=decide_eq_false (by omega)
  have jN:=aa (fun W=>Go.Proofs.Any.strings_shouldUseASCIISet (ρ:=Tryz.idxA_ren) { Tryz.idxA with } (s.size:Int) W);rw [h8z] at jN;have kD:=aa H7;have HIL:=aa (fun (x:UInt8) (h:x.toNat<128) W=>Go.Proofs.Any.strings_IndexRune_ascii (ρ:=Tryz.idxA_ren) { Tryz.idxA with } lQ (x.toNat:Int) W (by omega) (by omega));have Qf:((lQ.size:Int)==1)=false:=rfl;have aco:(lQ.toList==[])=false:=by decide +kernel
  clear h8
  go_enter Tryz.func166,Tryz.ntmps166
  go_wp2_with fail;refine (jN.out _).mono ?_;rintro e w2 ⟨rfl,rfl⟩;go_wp2_with fail
  go_loopg [9,10] s.size (fun g _ _ wx=>∃i:Nat,i+g=s.size/\wx.heap[w2.heap.size]? = some (.stringIter s i)/\Hid (Up w2 wx)/\Hid (Lib.NoAny s.data.toList bT i))
  case atStart=>exact ⟨0,by omega,World.iter_heap _ _ _,Up.alloc _ _,Lib.NoAny.zero _ _⟩
  case round =>
   obtain ⟨i,hig,hit,fL,hno⟩:=hrel;obtain ⟨wo,rfl⟩:∃wo:World,wo=wr:=⟨_,rfl⟩;by_cases hi:i<s.size
   ·have hnx:=fun ty=>Lib.run_next_any_at (P:=Tryz.prog) wo w2.heap.size s i ty hit hi
    have Mh:=Lib.iterAt_heap wo w2.heap.size s i (i+(Utf8.decode s i).2) hit;have Te:=aa Mh;have bY:Hid (Up w2 (wo.iterAt w2.heap.size s (i+(Utf8.decode s i).2))):=Lib.below_iterAt fL.out (ah _) _ _;have HDL:=aa (decode_le s i);obtain ⟨x,hx⟩:∃x:UInt8,s[i]'hi=x:=⟨_,rfl⟩;(have hxl:s.data.toList[i]? = some x:=by rw [<- hx];exact Lib.data_getElem? s i hi);have HXL:=aa hxl;have HG:=aa hig;have HI:=aa hi;by_cases ha:128<=x.toNat
    ·obtain ⟨k1,k2,k3⟩:=JJ s i hi (by rw [hx];exact ha)
     have h1:=(decode_high s i hi (by rw [hx];exact ha)).1;have rD:=aa (Mg hno.out k2 k3);have HK:=aa k1;have HK2:=aa k2;have HC:=aa (kD.out (wo.iterAt w2.heap.size s (i+(Utf8.decode s i).2)) ((Utf8.decode s i).1:Int) (by omega) (by have:=HDL.out;omega));clear hit Mh fL hno hxl hx hi hig k1 k2 k3 ha h1;generalize (Utf8.decode s i).1=rn at *;generalize (Utf8.decode s i).2=wd at *;go_wp2_with fail;refine HC.out.mono ?_;rintro e w5 ⟨rfl,mL⟩;have ng:Hid (Up w2 w5):=bY.out.trans mL
     have aaK:Hid (w5.heap[w2.heap.size]? = some (.stringIter s (i+wd))):=(bH mL w2.heap.size (fW.1 Te.out).1).trans Te.out;clear mL;go_wp2_with fail
     go_roundg (s.size - (i+wd))
     case measure=>have:=HG.out;have:=HK.out;have:=HK2.out;omega
     case rel=>exact ⟨i+wd,by have:=HK2.out;omega,aaK.out,ng.out,rD.out⟩
    ·have h1:Utf8.decode s i=(x.toNat,1):=by rw [decode_ascii s i hi (by rw [hx];omega),hx]
     rw [h1] at hnx Te bY;have HC:=aa (HIL.out x (by omega) (wo.iterAt w2.heap.size s (i+1)));(have hback:((x.toNat:Int)).toNat.toUInt8=x:=by simp);rw [hback] at HC;have hcon:=Lib.contains_iff_indexByte bT x;cases hin:bT.contains x
     ·have hlt:decide ((0:Int)<=Lib.indexByte lQ.data.toList x)=false:=by rw [hin] at hcon;exact hcon.symm
      have rD:=aa (hno.out.succ hxl hin);clear hit Mh fL hno hxl hx hi hig ha h1 hcon;generalize Lib.indexByte lQ.data.toList x=ib at *;go_wp2_with fail;refine HC.out.mono ?_;rintro e w5 ⟨rfl,rfl⟩;go_wp2_with fail
      go_roundg (s.size - (i+1))
      case measure=>have:=HG.out;have:=HI.out;omega
      case rel=>exact ⟨i+1,by have:=HI.out;omega,Te.out,bY.out,rD.out⟩
     ·have hlt:decide ((0:Int)<=Lib.indexByte lQ.data.toList x)=true:=by rw [hin] at hcon;exact hcon.symm
      have HR:Hid (Lib.indexAny s.data.toList bT=(i:Int)):=Lib.indexAny_hit hno.out hxl hin;clear hit Mh fL hno hxl hx hi hig ha h1 hcon;generalize Lib.indexByte lQ.data.toList x=ib at *;go_wp2_with fail;refine HC.out.mono ?_;rintro e w5 ⟨rfl,rfl⟩;go_wp2_with fail;go_ret;exact ⟨by rw [HR.out];rfl,bY.out⟩
   ·have hnx:=fun ty=>Lib.run_next_end_at (P:=Tryz.prog) wo w2.heap.size s i ty hit hi
    (have Xm:i=s.size:=by omega);have HR:Hid (Lib.indexAny s.data.toList bT = -1):=Lib.indexAny_none (by rw [<- Lib.size_eq,<- Xm];exact hno.out);have HUP:=aa fL.out;clear hit fL hno hi hig Xm;go_wp2_with fail;go_ret;exact ⟨by rw [HR.out];rfl,HUP.out⟩
theorem Zp (s:ByteArray) (hs:s.size<=1000):W9 s:=fun i W hi=>by
 have h:=JK (s.extract i s.size) W (by rw [ByteArray.size_extract];omega)
 have e:(s.extract i s.size).data.toList=s.data.toList.drop i:=by
  rw [wA,Array.toList_extract]
  exact zD (by rw [gw,sj];exact ah _)
 rw [e] at h
 exact h
end
section
section
variable {t:aF}
def iW (ns:List ByteArray) (a:ByteArray):Int:=cF (fun j=>decide (a=gs ns j)) ns.length
theorem Ul {ns:List ByteArray} {a:ByteArray}:a∈p7 ns↔∃j,j<ns.length/\gs ns j=a/\a.size≠0:=by
 unfold p7;rw [ny];constructor
 ·rintro ⟨h1,h2⟩
  obtain ⟨j,hj,e⟩:=List.mem_iff_getElem.1 h1;exact ⟨j,hj,by rw [<- e];simp [gs,hj],of_decide_eq_true h2⟩
 ·rintro ⟨j,hj,e,h2⟩
  refine ⟨?_,decide_eq_true h2⟩;have:gs ns j=ns[j]:=by simp [gs,hj]
  rw [<- e,this];exact lz hj
end
end
section
def Dl (t:aF) (acw:List ByteArray):Bool:=(List.range (az t.ns).length).any fun j=>decide (iW acw (gs t.ns (gi (az t.ns) j).toNat)<0)
structure xw (t:aF) (acw:List ByteArray):Prop where
 te:aB t=0
 le:acw.length<=32
 nd:∀j k,j<k->k<acw.length->gs acw k≠gs acw j
 len:(az t.ns).length=acw.length
 has:∀j,j<t.ps.length->(gs t.ns j).size≠0->∃b:Nat,b<acw.length/\gs acw b=gs t.ns j
theorem zR {acw:List ByteArray} {a:ByteArray}:0<=iW acw a↔∃b,b<acw.length/\gs acw b=a:=by
 constructor
 ·intro h
  obtain ⟨k,hk⟩:=tR h;obtain ⟨h1,h2,_⟩:=sr hk;exact ⟨k,h1,(of_decide_eq_true h2).symm⟩
 ·rintro ⟨b,hb,e⟩
  have Xn:(List.range acw.length).any (fun j=>decide (a=gs acw j))=true:=eF.2 ⟨b,cU.2 hb,decide_eq_true e.symm⟩;rw [<- mU] at Xn;exact of_decide_eq_true Xn
theorem Xo {acw:List ByteArray} (h:∀j k,j<k->k<acw.length->gs acw k≠gs acw j) {a b:Nat} (ha:a<acw.length) (hb:b<acw.length) (e:gs acw a=gs acw b):a=b:=by
 rcases vk a b with c | c | c
 ·exact absurd e.symm (h a b c hb)
 ·exact c
 ·exact absurd e (h b a c ha)
theorem Tf {acw:List ByteArray} (h:∀j k,j<k->k<acw.length->gs acw k≠gs acw j) {b:Nat} (hb:b<acw.length):iW acw (gs acw b)=(b:Int):=by
 have h1:0<=iW acw (gs acw b):=zR.2 ⟨b,hb,rfl⟩;obtain ⟨k,hk⟩:=tR h1;obtain ⟨h2,h3,_⟩:=sr hk;have h3:=of_decide_eq_true h3;rw [hk];have:=Xo h h2 hb h3.symm;rw [this]
end
section
theorem Zq {l:List (List Int)} {k:Nat} (h:k<l.length):gl l k∈l:=by simp [gl,h]
end
section
open Go Go.RowKit Go.Deep
structure Um (L L':Nat->Prop) (W W':World):Prop where
 os:W'.os=W.os
 tape:W'.tape=W.tape
 output:W'.output=W.output
 size:W.heap.size<=W'.heap.size
 block:∀b,b<W.heap.size->¬L b->W'.heap[b]? = W.heap[b]?
 more:∀b,L' b->(L b/\b<W.heap.size)\/(W.heap.size<=b/\b<W'.heap.size)
def Xp {α:Type} (J:List α->(Nat->Prop)->World->Prop):Prop:=∀s L L' W W',J s L W->Um L L' W W'->J s L' W'
def Xq {α:Type} (F:Fence) (n:Nat) (P:Program) (g:Nat) (lb:Array Value) (encs:α->Array Value) (Gv:α->(Nat->Prop)->World->Prop) (Gb:α->Nat->Prop) (S:List α->Prop) (N:Nat) (w w9:World) (L0:Nat->Prop):Prop :=
 ∀(l:Nat) (J:List α->(Nat->Prop)->World->Prop) (W:World),Below w.heap.size w W->(∀b,L0 b->b<w9.heap.size/\W.heap[b]? = w9.heap[b]?)->w9.heap.size<=W.heap.size->Xp J ->
  (∀pre x L W1,J pre L W1->Gv x L W1->Below w.heap.size w W1->(∀b,L b->w.heap.size<=b/\b<W1.heap.size)->pre.length<N->YieldAt F (n - 1) P l (encs x) W1 fun e W' =>
   e=.returned (.bool true)/\J (pre++[x]) L W'/\Below w.heap.size w W'/\W1.heap.size<=W'.heap.size/\∀b,(L b\/Gb x b)->W'.heap[b]? = W1.heap[b]?) ->
  J [] L0 W ->
  CallsIn F n P g (#[.func (.yield l) #[] #[]]++lb) W fun e W'=>(∃v,e=.returned v)/\∃xs L,S xs/\J xs L W'
def RB {α:Type} (B:Nat) (w0:World) (I:List α->(Nat->Prop)->World->Prop) (xs:List α) (L Lk:Nat->Prop) (W:World):Exit->Act->World->Prop
 | .normal,_,W'=>KeepsFrom B W W'/\Below w0.heap.size w0 W'/\(∀b,Lk b->W'.heap[b]? = W.heap[b]?)/\I xs L W'
 | _,_,_=>False
theorem JL {α:Type} {F:Fence} {n:Nat} {P:Program} {w:World} {g:Operand} {ps:Array Tmp} {assign body:Code} {Q:Exit->Act->World->Prop} {a:Act}
  (hro:F.round=none) (h1:1<=n) {gf:Nat} {lb:Array Value} (hg:a.eval g=.func (.func gf) #[] lb) (hFg:F.fn gf) (eg:∀args w,(callFunc gf args).run P w=.ok (.enter gf args) w)
  {encs:α->Array Value} {Gv:α->(Nat->Prop)->World->Prop} {Gb:α->Nat->Prop} {S:List α->Prop} {N:Nat} {w0:World} {L0:Nat->Prop} (hseq:Xq F (n - 1) P gf lb encs Gv Gb S N w0 w L0) (D6:∀b,L0 b->b<w.heap.size) (hGb:∀x L W b,Gv x L W->Gb x b->∃o,W.heap[b]? = some o/\o.isCells=true) (hb0:Below w0.heap.size w0 w) (hps:∀x,(encs x).size=ps.size)
  (hGv:∀x L,OwnFrom w.heap.size (fun (_:Unit) W=>Gv x L W))
  (I:List α->(Nat->Prop)->World->Prop) (hA:Xp I) (hI:∀L,OwnFrom w.heap.size (fun s W=>I s L W)) (h0:I [] L0 w) (a₁:α->Act)
  (hassign:∀(l:Nat) (x:α) (W:World) (K:Act->World->Prop),K (a₁ x) W ->
   assign.wpIn (F.inRound l) (n - 1 - 1) P (Exit.then K (fun _ _ _=>False)) { tmps:=(ps.zip (encs x)).foldl (fun t (p,v)=>t.setIfInBounds p v) a.tmps,defers:=[] } W)
  (hbody:∀(l:Nat) (pre:List α) (x:α) (L:Nat->Prop) (W:World),I pre L W->Gv x L W->Below w0.heap.size w0 W->(∀b,L b->w0.heap.size<=b/\b<W.heap.size)->pre.length<N->body.wpIn (F.inRound l) (n - 1 - 1) P (RB w.heap.size w0 I (pre++[x]) L (fun b=>L b\/Gb x b) W) (a₁ x) W)
  (hdone:∀(D:Nat) (xs:List α) (L:Nat->Prop) (W:World),w.heap.size<=D->S xs->I xs L W->W.heap[D]? = some (.deferred (some []))->Q .normal { a with defers:={ target:=.collected D,args:=#[] }::a.defers } W) :
  (Code.rangeFunc g ps assign body).wpIn F n P Q a w:=by
 refine wpIn_rangeFunc ?_;intro fn hfn;rw [hro];obtain ⟨rec,y7⟩:∃rec:LoopState->Option Code->Loop,rec=fun st pe=>{ state:=st,pending:=pe,fn,tmps:=a.tmps,params:=ps,assign,body,defers:=w.heap.size }:=⟨_,rfl⟩;obtain ⟨D,hD⟩:∃D,D=w.heap.size:=⟨_,rfl⟩;obtain ⟨W1,hW1⟩:∃W1,(w.alloc (.deferred (some []))).alloc (.loop (rec .ready none))=W1:=⟨_,rfl⟩;have hsz:W1.heap.size=D+2:=by rw [<- hW1,hD];simp
 have Sy:W1.heap[D+1]? = some (.loop (rec .ready none)):=by rw [<- hW1,hD];have:=qB (w.alloc (.deferred (some []))) (.loop (rec .ready none));rwa [aL] at this
 have SS:W1.heap[D]? = some (.deferred (some [])):=by rw [<- hW1,hD];exact (Below.heap_alloc _ _ _ (by simp)).trans (qB w _)
 have hI1:I [] L0 W1:=by rw [<- hW1];exact (hI _).alloc _ ((hI _).alloc _ h0)
 have hb1:Below w0.heap.size w0 W1:=by rw [<- hW1];exact hb0.trans ((((cN _ w).alloc (ah _) _).alloc (by simp) _).mono hb0.size)
 have acp:=hb0.size;have Xr:∀ {W:World} (l:Nat) (o:Obj),D<=l->Below w0.heap.size w0 W->Below w0.heap.size w0 (W.putObj l o):=fun {W} l o hl hb =>
  ⟨hb.os,hb.tape,hb.output,by have:=hb.size;simpa using this,fun b hbb=>(kU (by omega)).trans (hb.block b hbb)⟩
 refine ⟨D+1,[{ target:=.collected D,args:=#[] }],W1,{ target:=.fn (.func gf) lb,args:=#[.func (.yield (D+1)) #[] #[]] },W1,gf,
  #[.func (.yield (D+1)) #[] #[]]++lb,W1,?_,?_,?_,?_,fun _=>h1,?_⟩
 ·rw [<- hW1,y7,hD];exact run_enterLoop_outer _ _ _ _ _
 ·simp only [resolve,hg]
  simp [go_sem]
 ·intro f' hf';simp [Target.leads] at hf';subst hf';exact hFg
 ·simp [invoke,go_sem,eg]
 ·refine (hseq (D+1) (fun pre L W=>I pre L W/\W.heap[D+1]? = some (.loop (rec .ready none))/\W.heap[D]? = some (.deferred (some []))/\∀b,L b->b≠D/\b≠D+1) W1 hb1 (fun b hb=>⟨D6 b hb,by rw [<- hW1];exact (Below.heap_alloc _ _ _ (by have:=D6 b hb;simp;omega)).trans (Below.heap_alloc _ _ _ (D6 b hb))⟩) (by rw [hsz,<- hD];omega) ?_ ?_ ⟨hI1,Sy,SS,fun b h=>by have:=D6 b h;omega⟩).mono ?_
  ·rintro s L L' A B ⟨h1,h2,h3,h4⟩ hs
   have hlt:=(fW.1 h2).1;refine ⟨hA s L L' A B h1 hs,(hs.block _ hlt fun e=>?_).trans h2,(hs.block _ (by omega) fun e=>?_).trans h3,fun b hb=>?_⟩
   ·have:=h4 _ e;omega
   ·have:=h4 _ e;omega
   ·rcases hs.more b hb with e | e
    ·exact h4 b e.1
    ·omega
  ·rintro pre x L W ⟨hi,hl,hk,KG⟩ OM lD hLw hlen
   have hlt:D+1<W.heap.size:=(fW.1 hl).1;have hy:=run_yield (P:=P) (args:=encs x) hl (by rw [y7];exact hps x);rw [y7] at hy;refine ⟨fn,_,assign,body,hy,roundIn_of_wpIn hfn (hassign _ x W _ ⟨_,run_beginRound hl (by rw [y7]),?_⟩)⟩;obtain ⟨W2,hW2⟩:∃W2,W.putObj (D+1) (.loop { rec .ready none with state:=.busy })=W2:=⟨_,rfl⟩;(have hl2:W2.heap[D+1]? = some (.loop { rec .ready none with state:=.busy }):=by rw [<- hW2];exact World.putObj_heap_same hlt);have hk2:W2.heap[D]? = some (.deferred (some [])):=by rw [<- hW2];exact (kU (by omega)).trans hk
   (have hi2:I pre L W2:=by rw [<- hW2];exact (hI L).putObj _ hi (by omega) hl rfl);(have hg2:Gv x L W2:=by rw [<- hW2];exact (hGv x L).putObj (s:=()) _ OM (by omega) hl rfl);(have hs2:W2.heap.size=W.heap.size:=by rw [<- hW2];simp);(have Ia:∀b,b≠D+1->W2.heap[b]? = W.heap[b]?:=fun b hb=>by rw [<- hW2];exact kU (by omega));(have GM:Below w0.heap.size w0 W2:=by rw [<- hW2];exact Xr _ _ (by omega) lD);rw [hW2];refine wpIn_mono (hbody _ pre x L W2 hi2 hg2 GM (fun b hb=>by rw [hs2];exact hLw b hb) hlen) ?_;rintro e a3 W3 hp;cases e with
   | normal =>
    obtain ⟨hk3,hb3,hL3,SU⟩:=hp;have Em:=hk3.same _ _ (by omega) hl2 rfl;have hk4:=hk3.same _ _ (by omega) hk2 rfl;have hend:=run_endRound (P:=P) none Em;rw [y7] at hend;refine ⟨_,_,hend,rfl,⟨?_,?_,?_,KG⟩,Xr _ _ (by omega) hb3,?_,fun b hb=>?_⟩
    ·exact (hI L).putObj _ SU (by omega) Em rfl
    ·rw [y7];exact World.putObj_heap_same (fW.1 Em).1
    ·exact (kU (by omega)).trans hk4
    ·have:=hk3.size;simp;omega
    ·have hne:b≠D+1:=by
      rcases hb with hb | hb
      ·have:=KG b hb;omega
      ·rintro rfl
       obtain ⟨o,h1,h2⟩:=hGb _ _ _ _ OM hb
       rw [hl] at h1;injection h1 with h1;subst h1;cases h2
     exact (kU (by omega)).trans ((hL3 b hb).trans (Ia b (by omega)))
   | ret=>exact hp.elim
   | exit id=>exact hp.elim
   | goto t=>exact hp.elim
   | panic ch=>exact hp.elim
   | outgrown=>exact hp.elim
  ·rintro e W2 ⟨⟨v,rfl⟩,xs,L,hS,hi,hl,hk,KG⟩
   exact ⟨none,_,by have:=run_endLoop (P:=P) hl (by rw [y7];simp);rw [y7] at this;exact this,hdone D xs L _ (by omega) hS ((hI L).putObj _ hi (by omega) hl rfl) ((kU (by omega)).trans hk)⟩
end
section
open Go.RowKit Go.Shelf Go.Deep
attribute [local go_sem] Oper.semAt_some
theorem ax.Tg {base:Nat} {e:TypeId} {w w':World} {v:Value} {vs:List Value} (h:ax base e w v vs) (k:∀b,v.ownBlock=some b->w'.heap[b]? = w.heap[b]?):ax base e w' v vs:=by
 obtain ⟨hl,h | ⟨g,cap,cur,rfl,hg,hc,hr⟩⟩:=h
 ·exact ⟨hl,.inl h⟩
 ·exact ⟨hl,.inr ⟨g,cap,cur,rfl,hg,by rw [k g rfl];exact hc,hr⟩⟩
theorem ax.Ib {base:Nat} {e:TypeId} {w:World} {v:Value} {vs:List Value} (h:ax base e w v vs) {b:Nat} (hb:v.ownBlock=some b):∃c,w.heap[b]? = some (Obj.cells c e (0,0)):=by
 obtain ⟨_,⟨rfl,_⟩ | ⟨g,cap,cur,rfl,_,hc,_⟩⟩:=h
 ·cases hb
 ·injection hb with hb;subst hb;exact ⟨cur,hc⟩

end
section
open Go.RowKit Go.Shelf Go.Deep
end
end Go.Proofs.YthgabkgmkolobaaGreat
