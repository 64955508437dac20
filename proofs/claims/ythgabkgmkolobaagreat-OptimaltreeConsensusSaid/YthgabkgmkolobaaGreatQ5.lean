/- The contracts of parsimony.Score and .. -/
import Derived.Test.YthgabkgmkolobaaGreatRows
import Derived.ProofKit
import Derived.OpenShut
import Derived.ShutString
import Derived.ChangeOld
import Derived.Below
import Derived.Deep.Matrix
import Derived.Lib.SmallJoins
import Derived.StillTail
import Derived.Test.YthgabkgmkolobaaGreatQ4
set_option maxRecDepth 100000
set_option maxHeartbeats 1000000
namespace Go.Proofs.YthgabkgmkolobaaGreat
section
open Go.RowKit Go.Deep
def Up (w w':World):Prop:=Below w.heap.size w w'
theorem Up.refl (w:World):Up w w:=cM _ _
theorem Up.trans {a b c:World} (h:Up a b) (k:Up b c):Up a c:=iz h (Below.mono k h.size)
theorem Up.alloc (w:World) (o:Obj):Up w (w.alloc o):=(cM _ _).alloc (ah _) _
theorem Up.drewN (w:World) (n:Nat):Up w (w.drewN n):=below_drewN (cM _ _) n
theorem Up.kept {w w':World} (h:Up w w') (S:Nat->Prop):Kept S w w':=Kept.below h
theorem Up.size {w w':World} (h:Up w w'):w.heap.size<=w'.heap.size:=Below.size h
theorem Up.cell {w w':World} (h:Up w w') {p:Addr} {v:Value} (hc:w.cell? p=some v):w'.cell? p=some v:=by
 obtain ⟨b,o,i⟩:=p;have hl:b<w.heap.size:=dL w _ hc;rw [Below.cell h (p:=⟨b,o,i⟩) hl];exact hc
theorem iq (w:World) (P N:Value) (T:TypeId):(w.alloc (.cells #[P,N] T)).cell? ⟨w.heap.size,0,none⟩=some P:=by simp [World.cell?_alloc_new]
theorem jg (w:World) (P N:Value) (T:TypeId):(w.alloc (.cells #[P,N] T)).cell? ⟨w.heap.size,1,none⟩=some N:=by simp [World.cell?_alloc_new]
theorem mA (w:World) (P:Value) (T:TypeId):(w.alloc (.cells #[P] T)).cell? ⟨w.heap.size,0,none⟩=some P:=by simp [World.cell?_alloc_new]
theorem aeg (S:Nat->Prop) (w:World) (v vs vc:Value) (t:ax) (st:List Int) (cs:List (List Int)) (hT:aG S w v t) (hS:af S w vs st) (hC:aT S w vc cs)
  (hz:∀k,(gs t.ns k).size<=70000) (hv:Valid t st cs):Calls Tryz.prog 170 #[v,vs,vc] w (Ju w (uj t st cs)):=by
 obtain ⟨h1,h2,h3,hok,hn⟩:=aH hv.tree;obtain ⟨m1,m2,m3,m4,m5⟩:=Gs hv.mat;have hl:=sK t.ns;exact aef S w v vs vc t st cs hT hS hC hv.tree (by omega) hz h2 m2 m1 (fD hv.len.symm) m3 m4 (fun j s hj=>hv.tb j s hj) (by omega)
theorem dy {S:Nat->Prop} {w:World} {v:Value} {xs:List (List Int)} (h:aT S w v xs):∃p cap,v=.slice p xs.length cap/\xs.length<=cap /\
  ∀k,k<xs.length->∃b off q c,p=some ⟨b,off,none⟩/\w.cell? ⟨b,off+k,none⟩=some (.slice q (gl xs k).length c)/\af S w (.slice q (gl xs k).length c) (gl xs k):=by
 obtain ⟨f,kF,hr⟩:=h;obtain ⟨p,cap,rfl,hcap,H⟩:=aq.open kF;refine ⟨p,cap,rfl,hcap,fun k hk=>?_⟩;obtain ⟨b,off,rfl,hc⟩:=H k hk;have h1:=hr k hk;obtain ⟨q,c,e,_,_⟩:=aq.open h1;rw [e] at hc h1;exact ⟨b,off,q,c,rfl,hc,h1⟩
theorem bU {S:Nat->Prop} {w:World} {p:Option Addr} {n cap:Nat} {xs:List Int} (h:af S w (.slice p n cap) xs) {k:Nat} (hk:k<xs.length):∃b off,p=some ⟨b,off,none⟩/\w.cell? ⟨b,off+k,none⟩=some (.int .i64 (gi xs k)):=by
 obtain ⟨q,c,e,_,H⟩:=aq.open h;injection e with e1;subst e1;exact H k hk
theorem cH {S:Nat->Prop} {w:World} {p:Option Addr} {n cap:Nat} {xs:List ByteArray} (h:aj S w (.slice p n cap) xs) {k:Nat} (hk:k<xs.length):∃b off,p=some ⟨b,off,none⟩/\w.cell? ⟨b,off+k,none⟩=some (.string (gs xs k)):=by
 obtain ⟨q,c,e,_,H⟩:=aq.open h;injection e with e1;subst e1;exact H k hk
theorem eZ {S:Nat->Prop} {w:World} {p:Option Addr} {n cap:Nat} {xs:List (List Int)} (h:aT S w (.slice p n cap) xs) {k:Nat} (hk:k<xs.length) :
  ∃b off q c,p=some ⟨b,off,none⟩/\w.cell? ⟨b,off+k,none⟩=some (.slice q (gl xs k).length c)/\af S w (.slice q (gl xs k).length c) (gl xs k):=by
 obtain ⟨q,c,e,_,H⟩:=dy h;injection e with e1;subst e1;exact H k hk
theorem XD {S:Nat->Prop} {w:World} {b off:Nat} {n cap:Nat} {xs:List Int} (h:af S w (.slice (some ⟨b,off,none⟩) n cap) xs) {k:Nat} (hk:k<xs.length):w.cell? ⟨b,off+k,none⟩=some (.int .i64 (gi xs k)):=by
 obtain ⟨b',o',e,hc⟩:=bU h hk;injection e with e;injection e with e1 e2;subst e1;subst e2;exact hc
theorem EF {S:Nat->Prop} {w:World} {b off:Nat} {n cap:Nat} {xs:List (List Int)} (h:aT S w (.slice (some ⟨b,off,none⟩) n cap) xs) {k:Nat} (hk:k<xs.length) :
  ∃q c,w.cell? ⟨b,off+k,none⟩=some (.slice q (gl xs k).length c)/\af S w (.slice q (gl xs k).length c) (gl xs k):=by
 obtain ⟨b',o',q,c,e,hc,hi⟩:=eZ h hk;injection e with e;injection e with e1 e2;subst e1;subst e2;exact ⟨q,c,hc,hi⟩
theorem aeh (t:ax) (st:List Int) (cs:List (List Int)) {k:Nat} (hk:k<t.ps.length):gl (uj t st cs) k=bZ t st cs k:=by simp [gl,uj,hk]
theorem O9 (t:ax) (st:List Int) (cs:List (List Int)):(uj t st cs).length=t.ps.length:=by simp [uj]
end
section
open Go.ChangeShapes Go.WideShapes Go.ChangeAt Go.RowKit Go.Deep
theorem aaG:ownKnob Tryz.prog.godebug=none:=by kernel_rfl
theorem laidOut:laidOutB Tryz.prog=true:=by kernel_rfl
section
variable {H:Type} {enc:TypeId×Value->H} {W:World}
theorem yl {n:Nat} (h:n<=maxLen):n<=9223372036854775807:=by unfold maxLen at h;exact h
theorem VC {fuel:Nat} {v:Value} {x:DataW H×List MemPlace} (h:DataW.trod enc Tryz.prog W 0 (fun _=>true) true fuel 26 [v]=some x):∃xs:List Int,af Any W v xs/\xs.length<=9223372036854775807:=by
 rcases open_ints Tryz.underlying26 Tryz.underlying3 (by kernel_rfl) h with ⟨hcs,_⟩ | ⟨a,l,c,zs,hcs,_,hl,hm,hz,_,hcell,_⟩
 ·obtain rfl:v=.slice none 0 0:=by simpa using hcs
  exact ⟨[],⟨none,0,rfl,ah _,.inl rfl⟩,by simp⟩
 ·obtain rfl:v=.slice (some a) l c:=by simpa using hcs
  simp only [if_true] at hz;have hlen:(zs.take l).length=l:=by simp;omega
  refine ⟨zs.take l,⟨some a,c,by rw [hlen],by rw [hlen];exact hl,?_⟩,by rw [hlen];exact yl (aB hl hm)⟩;by_cases h0:l=0
  ·exact .inl (by rw [hlen];exact h0)
  ·obtain ⟨b,off,rfl,hc⟩:=ints_at hcell (by omega)
   refine .inr ⟨b,off,rfl,trivial,fun k hk=>?_⟩;rw [hlen] at hk;rw [hc k (by omega)];simp [gi,hk]
theorem Jv {fuel:Nat} {v:Value} {x:DataW H×List MemPlace} (h:DataW.trod enc Tryz.prog W 0 (fun _=>true) true fuel 22 [v]=some x):∃xs:List ByteArray,aj Any W v xs/\xs.length<=9223372036854775807/\∀k,(gs xs k).size<=9223372036854775807:=by
 rcases open_strings Tryz.underlying22 Tryz.underlying9 (by kernel_rfl) h with ⟨hcs,_⟩ | ⟨a,l,c,zs,hcs,_,hl,hm,hz,_,hcell,hwf⟩
 ·obtain rfl:v=.slice none 0 0:=by simpa using hcs
  exact ⟨[],⟨none,0,rfl,ah _,.inl rfl⟩,by simp,fun k=>by simp [gs]⟩
 ·obtain rfl:v=.slice (some a) l c:=by simpa using hcs
  simp only [if_true] at hz;have hlen:(zs.take l).length=l:=by simp;omega
  refine ⟨zs.take l,⟨some a,c,by rw [hlen],by rw [hlen];exact hl,?_⟩,by rw [hlen];exact yl (aB hl hm),fun k=>?_⟩
  ·by_cases h0:l=0
   ·exact .inl (by rw [hlen];exact h0)
   ·obtain ⟨b,off,spot⟩:=a
    (have hspot:spot=none:=by simpa [Addr.add] using World.cell?_spot (hcell 0 (by omega)));subst hspot;refine .inr ⟨b,off,rfl,trivial,fun k hk=>?_⟩;rw [hlen] at hk;rw [<- add_plain,hcell k (by omega)];(have hk2:k<zs.length:=by omega);simp [gs,hk,hk2]
  ·by_cases hk:k<(zs.take l).length
   ·have hm:gs (zs.take l) k∈zs:=by
     have:gs (zs.take l) k=(zs.take l)[k]:=by unfold gs;rw [rP,kQ hk];rfl
     rw [this];exact CT (jy hk)
    exact yl (hwf _ hm)
   ·have:gs (zs.take l) k=ByteArray.empty:=by simp [gs,List.getElem?_eq_none (by omega:(zs.take l).length<=k)]
    rw [this];simp
theorem VD {fuel:Nat} {v:Value} {x:DataW H×List MemPlace} (h:DataW.trod enc Tryz.prog W 0 (fun _=>true) true fuel 23 [v]=some x):∃xs:List (List Int),aT Any W v xs/\xs.length<=9223372036854775807/\∀k,(gl xs k).length<=9223372036854775807:=by
 rcases open_int_rows Tryz.underlying23 Tryz.underlying26 Tryz.underlying3 (by kernel_rfl) (by kernel_rfl) h with ⟨hcs,_⟩ | ⟨a,l,c,A,L,C,Z,hcs,_,hl,hm,_,hr⟩
 ·obtain rfl:v=.slice none 0 0:=by simpa using hcs
  exact ⟨[],⟨fun _=>undef,⟨none,0,rfl,ah _,.inl rfl⟩,fun k hk=>absurd hk (aZ _)⟩,by simp,fun k=>by simp [gl]⟩
 ·obtain rfl:v=.slice (some a) l c:=by simpa using hcs
  have hlen:((List.range l).map fun r=>(Z r).take (L r)).length=l:=by simp
  have Ae:∀k,k<l->gl ((List.range l).map fun r=>(Z r).take (L r)) k=(Z k).take (L k):=fun k hk=>by simp [gl,hk]
  have Jw:∀k,k<l->((Z k).take (L k)).length=L k:=fun k hk=>by obtain ⟨_,h1,_,h3,_⟩:=hr k (by omega);simp;omega
  refine ⟨(List.range l).map fun r=>(Z r).take (L r),⟨fun k=>.slice (A k) (L k) (C k),⟨some a,c,by rw [hlen],by rw [hlen];exact hl,?_⟩,fun k hk=>?_⟩,by rw [hlen];exact yl (aB hl hm),fun k=>?_⟩
  ·by_cases h0:l=0
   ·exact .inl (by rw [hlen];exact h0)
   ·obtain ⟨b,off,spot⟩:=a
    (have hspot:spot=none:=by simpa [Addr.add] using World.cell?_spot (hr 0 (by omega)).1);subst hspot;refine .inr ⟨b,off,rfl,trivial,fun k hk=>?_⟩;rw [hlen] at hk;rw [<- add_plain];exact (hr k (by omega)).1
  ·rw [hlen] at hk
   obtain ⟨_,h1,h2,h3,_,h5,h6⟩:=hr k (by omega);rw [Ae k hk];refine ⟨A k,C k,by rw [Jw k hk],by rw [Jw k hk];exact h1,?_⟩;by_cases h0:L k=0
   ·exact .inl (by rw [Jw k hk];exact h0)
   ·cases hA:A k with
    | none=>have:=h5 hA;omega
    | some a' =>
     obtain ⟨_,h7⟩:=h6 a' hA;obtain ⟨b,off,rfl,hc⟩:=ints_at (zs:=Z k) (k:=.i64) (fun i hi=>h7 i (by omega)) (by omega);refine .inr ⟨b,off,rfl,trivial,fun j hj=>?_⟩;rw [Jw k hk] at hj;rw [hc j (by omega)];simp [gi,hj]
  ·by_cases hk:k<l
   ·rw [Ae k hk,Jw k hk]
    obtain ⟨_,h1,h2,_⟩:=hr k (by omega);exact yl (aB h1 h2)
   ·have:gl ((List.range l).map fun r=>(Z r).take (L r)) k=[]:=by simp [gl,hk]
    rw [this];simp
theorem aio {t:TypeId} {v:Value} {d:DataW H} {p:List MemPlace} (h:DataW.Trod enc Tryz.prog W 0 (fun _=>true) true t v d p):∀x∈p,x.block<W.heap.size:=by
 obtain ⟨m,hm⟩:=h;exact DataW.trod_lt m _ _ _ hm
end
end
section
open Go.RowKit Go.Deep
theorem Tryz.XE:(Tryz.prog.info? 4).map (fun i=>(i.zero,i.size,i.bytes))=some (some (.bool false),1,1):=by kernel_rfl
theorem Pa (c:Nat):(97<=c/\c<=122)\/(65<=c/\c<=90)\/(48<=c/\c<=57)\/c=94\/c=126\/c=37\/c=39\/c=32\/c=46\/c=44\/c=59\/c=58\/c=33\/c=63\/c=40\/c=41\/c=45 \/
  ((c<97\/122<c)/\(c<65\/90<c)/\(c<48\/57<c)/\c≠94/\c≠126/\c≠37/\c≠39/\c≠32/\c≠46/\c≠44/\c≠59/\c≠58/\c≠33/\c≠63/\c≠40/\c≠41/\c≠45):=by omega
def yL (c:Nat) (w:World) (e:Ending) (w':World):Prop:=e=.returned (.int .i64 (fE c))/\w=w'
theorem kp {c:Nat} {n:Int} {w:World} (h:n=fE c):yL c w (.returned (.int .i64 n)) w:=⟨by rw [h],rfl⟩
theorem fH (c:Nat) (h:c∈[94,126,37,39,32,46,44,59,58,33,63,40,41,45]) (w:World):Calls Tryz.prog 249 #[.int .u8 c] w (yL c w):=by
 simp only [bA,List.not_mem_nil,or_false] at h;rcases h with rfl | rfl | rfl | rfl | rfl | rfl | rfl | rfl | rfl | rfl | rfl | rfl | rfl | rfl
 all_goals
  go_in;go_wp2;go_ret;exact kp rfl
theorem aaH (c:Nat) (HK:Hid (fE c=0)) (hc:c<256) (h:c<48\/(57<c/\c<65)\/(90<c/\c<97)\/122<c) (e94:((c:Int)==94)=false) (aaI:((c:Int)==126)=false) (e37:((c:Int)==37)=false) (e39:((c:Int)==39)=false) (e32:((c:Int)==32)=false) (e46:((c:Int)==46)=false) (e44:((c:Int)==44)=false) (e59:((c:Int)==59)=false) (e58:((c:Int)==58)=false) (e33:((c:Int)==33)=false) (e63:((c:Int)==63)=false) (e40:((c:Int)==40)=false) (e41:((c:Int)==41)=false) (e45:((c:Int)==45)=false) (w:World):Calls Tryz.prog 249 #[.int .u8 c] w (yL c w):=by
 rcases h with h1 | ⟨h1,h2⟩ | ⟨h1,h2⟩ | h1
 all_goals
  go_in;go_wp2;go_ret;exact kp HK.out.symm
theorem SY (c:Nat) (hc:c<256) (h1:c<97\/122<c) (h2:c<65\/90<c) (h3:c<48\/57<c) (n94:c≠94) (n126:c≠126) (n37:c≠37) (n39:c≠39) (n32:c≠32) (n46:c≠46) (n44:c≠44) (n59:c≠59) (n58:c≠58) (n33:c≠33) (n63:c≠63) (n40:c≠40) (n41:c≠41) (n45:c≠45) (w:World):Calls Tryz.prog 249 #[.int .u8 c] w (yL c w):=by
 have hk:fE c=0:=by unfold fE isLet CU;rw [if_neg (by simp;omega),if_neg (by omega),if_neg (by omega),if_neg n39,if_neg n32,if_neg (by simp;omega)]
 have e94:((c:Int)==94)=false:=by rw [beq_eq_false_iff_ne];omega
 have aaI:((c:Int)==126)=false:=by rw [beq_eq_false_iff_ne];omega
 have e37:((c:Int)==37)=false:=by rw [beq_eq_false_iff_ne];omega
 have e39:((c:Int)==39)=false:=by rw [beq_eq_false_iff_ne];omega
 have e32:((c:Int)==32)=false:=by rw [beq_eq_false_iff_ne];omega
 have e46:((c:Int)==46)=false:=by rw [beq_eq_false_iff_ne];omega
 have e44:((c:Int)==44)=false:=by rw [beq_eq_false_iff_ne];omega
 have e59:((c:Int)==59)=false:=by rw [beq_eq_false_iff_ne];omega
 have e58:((c:Int)==58)=false:=by rw [beq_eq_false_iff_ne];omega
 have e33:((c:Int)==33)=false:=by rw [beq_eq_false_iff_ne];omega
 have e63:((c:Int)==63)=false:=by rw [beq_eq_false_iff_ne];omega
 have e40:((c:Int)==40)=false:=by rw [beq_eq_false_iff_ne];omega
 have e41:((c:Int)==41)=false:=by rw [beq_eq_false_iff_ne];omega
 have e45:((c:Int)==45)=false:=by rw [beq_eq_false_iff_ne];omega
 exact aaH c hk hc (by omega) e94 aaI e37 e39 e32 e46 e44 e59 e58 e33 e63 e40 e41 e45 w
theorem Bo (c:Nat) (hc:c<256) (h:(97<=c/\c<=122)\/(65<=c/\c<=90)\/(48<=c/\c<=57)) (w:World):Calls Tryz.prog 249 #[.int .u8 c] w (yL c w):=by
 rcases h with ⟨h1,h2⟩ | ⟨h1,h2⟩ | ⟨h1,h2⟩
 ·have hk:fE c=1:=by unfold fE isLet;rw [if_pos (by simp;omega)]
  have HK:=aa hk;clear hk;go_in;go_wp2;go_ret;exact kp HK.out.symm
 ·have hk:fE c=1:=by unfold fE isLet;rw [if_pos (by simp;omega)]
  have HK:=aa hk;clear hk;go_in;go_wp2;go_ret;exact kp HK.out.symm
 ·have hk:fE c=3:=by unfold fE isLet;rw [if_neg (by simp;omega),if_neg (by omega),if_pos (by omega)]
  have HK:=aa hk;clear hk;have e94:((c:Int)==94)=false:=by rw [beq_eq_false_iff_ne];omega
  have aaI:((c:Int)==126)=false:=by rw [beq_eq_false_iff_ne];omega
  have e37:((c:Int)==37)=false:=by rw [beq_eq_false_iff_ne];omega
  go_in;go_wp2;go_ret;exact kp HK.out.symm
theorem ym (c:Nat) (hc:c<256) (w:World):Calls Tryz.prog 249 #[.int .u8 c] w fun e w'=>e=.returned (.int .i64 (fE c))/\w=w':=by
 have h:=Pa c;rcases h with h | h | h | h | h | h | h | h | h | h | h | h | h | h | h | h | h | ⟨h1,h2,h3,n94,n126,n37,n39,n32,n46,n44,n59,n58,n33,n63,n40,n41,n45⟩
 ·exact Bo c hc (.inl h) w
 ·exact Bo c hc (.inr (.inl h)) w
 ·exact Bo c hc (.inr (.inr h)) w
 ·exact fH c (by rw [h];decide) w
 ·exact fH c (by rw [h];decide) w
 ·exact fH c (by rw [h];decide) w
 ·exact fH c (by rw [h];decide) w
 ·exact fH c (by rw [h];decide) w
 ·exact fH c (by rw [h];decide) w
 ·exact fH c (by rw [h];decide) w
 ·exact fH c (by rw [h];decide) w
 ·exact fH c (by rw [h];decide) w
 ·exact fH c (by rw [h];decide) w
 ·exact fH c (by rw [h];decide) w
 ·exact fH c (by rw [h];decide) w
 ·exact fH c (by rw [h];decide) w
 ·exact fH c (by rw [h];decide) w
 ·exact SY c hc h1 h2 h3 n94 n126 n37 n39 n32 n46 n44 n59 n58 n33 n63 n40 n41 n45 w
theorem VE (s:ByteArray) (hs:s.size<=70000) (w:World):Calls Tryz.prog 200 #[.string s] w fun e w'=>e=.returned (.int .i64 (o9 s.data.toList))/\w=w':=by
 go_in;go_wp2
 go_loop [3,4,5] (fun n i _=>∃k:Nat,k<=s.size/\i=.int .i64 k/\n=.int .i64 (o9 (s.data.toList.take k))) (fun _ i _=>s.size - (intOf i).toNat)
 case atStart=>exact ⟨0,aF _,rfl,rfl⟩
 case round =>
  obtain ⟨k,hk,rfl,rfl⟩:=hrel;have hb:o9 (s.data.toList.take k)<=70000:=aB (KU _) (by simp;omega);by_cases hlt:k<s.size
  ·have hst:=Ew s k hlt
   have hk':=yG s[k];have hc:s[k].toNat<256:=s[k].toNat_lt;generalize hm:o9 (s.data.toList.take k)=m at *;have HS:=aa hst;have HK:=aa hk';clear hst hm hk';go_wp2_with (go_at_call 249;refine (ym _ hc _).mono ?_;rintro e w' ⟨rfl,rfl⟩;generalize fE _=q at *)
   all_goals
    go_round
    case rel=>exact ⟨k+1,by omega,by go_num,by rw [HS.out];first | (rw [if_pos (HK.out.1 (by first | omega | (simp only [beq_iff_eq] at *;omega)))];go_num) | (rw [if_neg (fun h=>by have:=HK.out.2 h;simp only [beq_eq_false_iff_ne,ne_eq] at *;omega)];go_num)⟩
    case measure=>simp [intOf];omega
  ·go_wp2
   go_ret;exact ⟨aC (by rw [BW (by simp;omega)]),rfl⟩
def afW (w:World) (n:Nat) (e:Ending) (w':World):Prop:=Below w.heap.size w w'/\∃v,∃bs:List Bool,e=.returned v/\bs.length=n/\aq Any w' v n (fun k=>.bool (gb bs k))
theorem au.bools {base:Nat} {e:TypeId} {w:World} {v:Value} {xs:List Bool} (h:au base e w v (xs.map Value.bool)):aq (fun b=>base<=b) w v xs.length (fun k=>.bool (gb xs k)):=by
 have:=h.uf;rw [aD] at this;exact this.congr fun k hk=>by simp [gb,hk]
theorem aq.mP {S:Nat->Prop} {w:World} {b n cap:Nat} {f:Nat->Value} {o:Nat} (h:aq S w (.slice (some ⟨b,o,none⟩) n cap) n f) {k:Nat} (hk:k<n):w.cell? ⟨b,o+k,none⟩=some (f k):=by
 obtain ⟨p,c,e,_,H⟩:=h.open;cases e;obtain ⟨b',o',e',hc⟩:=H k hk;cases e';exact hc
theorem au.form {base:Nat} {e:TypeId} {w:World} {v:Value} {vs:List Value} {n:Nat} (h:au base e w v vs) (hn:vs.length=n):∃p cap,v=.slice p n cap/\(p=none\/∃g,p=some ⟨g,0,none⟩):=by
 subst hn;rcases h.2 with ⟨rfl,h0⟩ | ⟨g,cap,cur,rfl,_⟩
 ·exact ⟨none,0,by rw [h0],.inl rfl⟩
 ·exact ⟨_,cap,rfl,.inr ⟨g,rfl⟩⟩
theorem au.made (w:World) (e:TypeId):au w.heap.size e (w.alloc (.cells #[] e)) (.slice (some ⟨w.heap.size,0,none⟩) 0 0) []:=World.ownsRow_made w #[] 0 (ah _) (by unfold maxLen;omega) (by simp)
theorem aei (s:ByteArray) (hs:s.size<=1000) (w:World):Calls Tryz.prog 275 #[.string s] w (afW w s.size):=by
 go_in;go_wp2
 go_loopw [3,4] (fun v i wr=>∃k:Nat,∃bs:List Bool,k<=s.size/\i=.int .i64 k/\bs.length=k/\au w.heap.size 4 wr v (bs.map .bool)/\Below w.heap.size w wr) (fun _ i _=>s.size - (intOf i).toNat)
 case atStart=>exact ⟨0,[],aF _,rfl,rfl,au.made _ _,(cM _ _).alloc (ah _) _⟩
 case round =>
  obtain ⟨k,bs,hk,rfl,hbl,hown,hbr⟩:=hrel;have hsz:=hbr.size;have oM:=aa hbl;by_cases hlt:k<s.size
  ·have dG:Hid ((bs.map Value.bool).length<=1000000):=by unfold Hid;rw [aD];omega
   clear hbl;rcases BZ k with rfl | nj
   ·go_wp2_with (first | (go_at_call 249;refine (ym _ (UInt8.toNat_lt _) _).mono ?_;rintro e w' ⟨rfl,rfl⟩;generalize fE _=q at *) | (at_builtin;refine nK wr rfl _ _ 163 rfl w.heap.size 4 _ 1 Tryz.underlying163 Tryz.XE rfl (by decide) hown rfl _ rfl rfl dG.out hsz ?_;intro g cap w2 hown1 hg1 hb1))
    all_goals
     go_roundw
     case rel=>exact ⟨1,bs++[_],by omega,by go_num,by rw [bg,oM.out];rfl,by rw [cg];rw [aD] at hown1;exact hown1,hbr.trans hb1⟩
     case measure=>simp [intOf];omega
   ·have kF:=hown.bools
    obtain ⟨p,cap,rfl,hp⟩:=hown.form (n:=k) (by rw [aD];exact oM.out);rw [oM.out] at kF;obtain ⟨p',cap',e',ak0,H⟩:=kF.open;cases e';obtain ⟨b,off,rfl,hc⟩:=H (k - 1) (by have:=oM.out;omega);clear H kF hp;go_wp2_with (first | (go_at_call 249;refine (ym _ (UInt8.toNat_lt _) _).mono ?_;rintro e w' ⟨rfl,rfl⟩;generalize fE _=q at *) | (at_builtin;refine nK wr rfl _ _ 163 rfl w.heap.size 4 _ 1 Tryz.underlying163 Tryz.XE rfl (by decide) hown rfl _ rfl rfl dG.out hsz ?_;intro g cap w2 hown1 hg1 hb1))
    all_goals
     go_roundw
     case rel=>exact ⟨k+1,bs++[_],by omega,by go_num,by rw [bg,oM.out];rfl,by rw [cg];rw [aD] at hown1;exact hown1,hbr.trans hb1⟩
     case measure=>simp [intOf];omega
  ·obtain rfl:k=s.size:=by omega
   clear hlt hk hbl;go_wp2;go_ret;exact ⟨hbr,_,bs,rfl,oM.out,(by rw [<- oM.out];exact hown.bools.sub fun _ _ _=>trivial)⟩
section
variable {P:Program} {ops:Array Oper} {rest:List Oper} {o:Oper} {a:Act} {Q:Exit->Act->World->Prop}
theorem SZ (W:World) (hgd:o.guard=none) (s x:Operand) (t:TypeId) (ho:o.op=.call { callee:=.builtin .append,args:=#[s,x],argTypes:=#[t,t] })
  (base:Nat) (e:TypeId) (z:Value) (bytes:Nat) (ht:P.underlying t=some (.slice e)) (hinfo:(P.info? e).map (fun i=>(i.zero,i.size,i.bytes))=some (some z,1,bytes))
  (hz1:z.cells.size=1) (lN:bytes<=64) {v:Value} {vs:List Value} (hown:au base e W v vs) (hs:a.eval s=v) (ad:Addr) (c:Nat) (news:List Value)
  (hx:a.eval x=.slice (some ad) news.length c) (hnews:∀j u,news[j]? = some u->W.cell? (ad.add j)=some u) (h1:∀u∈news,u.oneCell'=true) (hn:vs.length+news.length<=1000000) (hbase:base<=W.heap.size)
  (h:∀v' w',au base e w' v' (vs++news)->W.grownBy w' v.ownBlock->Below base W w'->wpList P ops Q rest (a.put o.dst v') w') :
  wpList P ops Q (o::rest) a W:=by
 obtain ⟨i,hi,hzz⟩:=jR.1 hinfo;simp only [kX] at hzz;obtain ⟨hz,hs1,hb⟩:=hzz;refine wpList_append_own _ hgd s x t ho base e i z 1 bytes ht hi hz hs1 hb hz1 (by omega) v vs.length vs hs hown ad news.length c news hx (by omega) hnews h1
  (by unfold maxLen;omega) ?_ hbase fun v' w' h2 h3 _=>h v' w' ?_ h3 (hown.fF h3 hbase)
 ·have:(vs.length+news.length)*bytes<=(vs.length+news.length)*64:=qO _ lN
  omega
 ·unfold au;rw [bg];exact h2
end
theorem XF {S:Nat->Prop} {w:World} {b off n cap:Nat} {xs:List Int} (h:af S w (.slice (some ⟨b,off,none⟩) n cap) xs):∀j u,(xs.map (Value.int .i64))[j]? = some u->w.cell? ((⟨b,off,none⟩:Addr).add j)=some u:=by
 intro j u hj;have Hr:(⟨b,off,none⟩:Addr).add j=⟨b,off+j,none⟩:=by unfold Addr.add;split<;>simp_all
 rw [kr] at hj;obtain ⟨x,hx,rfl⟩:=jR.1 hj;have hk:j<xs.length:=(o8.1 hx).1;rw [Hr,XD h hk];simp [gi,hx]
theorem Ht {xs ys:List Int} (hl:xs.length=ys.length) (h:∀j,j<xs.length->gi xs j=gi ys j):xs=ys:=by
 refine tY hl fun i h1 h2=>?_;have:=h i h1;simpa [gi,h1,h2] using this
def Pb (w:World) (b:Bool) (e:Ending) (w':World):Prop:=e=.returned (.bool b)/\∃n,w'=w.drewN n
theorem Gx (S T:Nat->Prop) (w:World) (v u:Value) (xs ys:List Int) (h:af S w v xs) (h2:af T w u ys) (hn:xs.length<=1000000) (hn2:ys.length<=1000000) :
  Calls Tryz.prog 24 #[v,u] w (Pb w (decide (xs=ys))):=by
 obtain ⟨p,cap,rfl,hcap,_⟩:=aq.open h;obtain ⟨q,dF,rfl,xP,_⟩:=aq.open h2;have HX:Hid (af S w (.slice p xs.length cap) xs):=h;have HY:Hid (af T w (.slice q ys.length dF) ys):=h2;clear h h2;by_cases hl:xs.length=ys.length
 ·have jC:((xs.length:Int) != ys.length)=false:=by simp [hl]
  have HL:=aa hl;clear hl;go_in;go_wp2
  go_loopw [5,13] (fun _ i wr=>∃k n:Nat,k<=xs.length/\i=.int .i64 k/\wr=w.drewN n/\Hid (∀j,j<k->gi xs j=gi ys j)) (fun _ i _=>xs.length - (intOf i).toNat)
  case atStart=>exact ⟨0,0,aF _,rfl,rfl,fun j hj=>absurd hj (aZ _)⟩
  case round =>
   obtain ⟨k,n,hk,rfl,rfl,hd⟩:=hrel;by_cases hlt:k<xs.length
   ·have hlt2:k<ys.length:=by rw [<- HL.out];exact hlt
    obtain ⟨b,off,rfl,hc⟩:=bU HX.out hlt;obtain ⟨b2,off2,rfl,hc2⟩:=bU HY.out hlt2;(have i1:(0:Int)<=(k:Int):=by omega);(have i2:(k:Int)<(xs.length:Int):=by omega);(have i3:(k:Int)<(ys.length:Int):=by omega);generalize hx:gi xs k=x at *;generalize hy:gi ys k=y at *;have EG:=aa hx;have XG:=aa hy;clear hx hy;by_cases hxy:x=y
    ·have aaJ:(x != y)=false:=by simp [hxy]
     have yI:=aa hxy;clear hxy;go_wp2;(go_quiet (fail));go_wp2
     go_roundw
     case rel=>exact ⟨k+1,n+nq,by omega,by go_num,rfl,fun j hj=>if e:j=k then by subst e;rw [EG.out,XG.out,yI.out] else hd.out j (by omega)⟩
     case measure=>simp [intOf];omega
    ·have aaJ:(x != y)=true:=by simpa using hxy
     have yI:=aa hxy;clear hxy;go_wp2;(go_quiet (fail));go_wp2;go_ret;refine ⟨aO ?_,n+nq,by rw [kY]⟩;rw [eq_comm,decide_eq_false_iff_not];rintro rfl;exact yI.out (by rw [<- EG.out,<- XG.out])
   ·obtain rfl:k=xs.length:=by omega
    clear hlt hk;have hex:xs=ys:=Ht HL.out hd.out;have XH:Hid (decide (xs=ys)=true):=decide_eq_true hex;clear hex;go_wp2;go_ret;exact ⟨aO (by rw [XH.out]),n,rfl⟩
 ·have jC:((xs.length:Int) != ys.length)=true:=by simp;omega
  have HL:=aa hl;clear hl;go_in;go_wp2;go_ret;refine ⟨aO ?_,0,rfl⟩;rw [eq_comm,decide_eq_false_iff_not];rintro rfl;exact HL.out rfl
theorem au.set {base:Nat} {e:TypeId} {w:World} {v:Value} {vs:List Value} (h:au base e w v vs) {j:Nat} (hj:j<vs.length) :
  ∃g cap,v=.slice (some ⟨g,0,none⟩) vs.length cap/\base<=g/\g<w.heap.size/\w.cell? ⟨g,j,none⟩=some (vs.getD j undef)/\w.frozen? ⟨g,j,none⟩=false/\∀x,au base e (w.setCell ⟨g,j,none⟩ x) v (vs.set j x):=by
 obtain ⟨hl,h | ⟨g,cap,cur,rfl,hg,hc,hn,hcm,hcs,ht⟩⟩:=h
 ·omega
 ·have Ae:g<w.heap.size:=(fq.1 hc).1
  have ht1:cur.toList.take vs.length=vs:=by rw [Nat.mul_one] at ht;exact ht
  have hj2:j<cur.size:=by omega
  have hcell:cur[j]? = some (vs.getD j undef):=by (have h1:vs[j]? = some (vs.getD j undef):=by simp [hj]);rw [<- h1];have h2:=congrArg (·[j]?) ht1;simp only [List.getElem?_take,hj,if_true] at h2;rw [<- h2];simp
  refine ⟨g,cap,rfl,hg,Ae,by simp [World.cell?,hc,hcell],by simp [World.frozen?,hc],fun x=>⟨by simp,.inr ⟨g,cap,cur.setIfInBounds j x,by simp,hg,?_,by simpa using hn,hcm,by simpa using hcs,?_⟩⟩⟩
  ·simp [World.setCell,Array.getElem?_modify,hc]
  ·rw [List.length_set,Nat.mul_one,Array.toList_setIfInBounds,List.take_set,ht1]
def kR (base:Nat) (T:TypeId) (w:World) (d:Value) (xs:List (List Int)):Prop :=
 ∃vals:List Value,vals.length=xs.length/\au base T w d vals/\∀i,i<xs.length->af (fun b=>some b≠d.ownBlock) w (vals.getD i undef) (gl xs i)
theorem av {base:Nat} {e:TypeId} {w:World} {v:Value} {vs:List Value} (h:au base e w v vs) {b:Nat} (hb:v.ownBlock=some b):base<=b/\b<w.heap.size:=sJ h b hb
theorem aej {l:List Int} {m:Nat} (h:m<l.length):l.take (m+1)=l.take m++[gi l m]:=by
 rw [jQ h];simp [gi,h]
theorem aek {l:List (List Int)} {m:Nat} (h:m<l.length):l.take (m+1)=l.take m++[gl l m]:=by
 rw [jQ h];simp [gl,h]
theorem kR.rows {base:Nat} {T:TypeId} {w:World} {d:Value} {xs:List (List Int)} (h:kR base T w d xs):aT Any w d xs:=by
 obtain ⟨vals,hl,ho,hr⟩:=h;have h1:=ho.uf;rw [hl] at h1;exact ⟨_,h1.sub fun _ _ _=>trivial,fun k hk=>(hr k hk).sub fun _ _ _=>trivial⟩
theorem kR.kept {base:Nat} {T:TypeId} {w w':World} {d:Value} {xs:List (List Int)} (h:kR base T w d xs) (k:Up w w'):kR base T w' d xs:=by
 obtain ⟨vals,hl,ho,hr⟩:=h;exact ⟨vals,hl,ho.kept fun b _ hb=>bH k b hb,fun i hi=>(hr i hi).keep (k.kept _)⟩
section
variable {P:Program} {ops:Array Oper} {rest:List Oper} {o:Oper} {a:Act} {Q:Exit->Act->World->Prop}
theorem Bp (W:World) (hgd:o.guard=none) (s x:Operand) (t:TypeId) (ho:o.op=.call { callee:=.builtin .append,args:=#[s,x],argTypes:=#[t,t] })
  (base:Nat) (e:TypeId) (z:Value) (bytes:Nat) (ht:P.underlying t=some (.slice e)) (hinfo:(P.info? e).map (fun i=>(i.zero,i.size,i.bytes))=some (some z,1,bytes))
  (hz1:z.cells.size=1) (lN:bytes<=64) {v:Value} {vs:List Value} (hown:au base e W v vs) (hs:a.eval s=v) (u:Value)
  (hx:a.eval x=.slice (some ⟨W.heap.size,0,none⟩) 1 1) (h1:u.oneCell'=true) (n:Nat) (tJ:vs.length=n) (hn:n<=1000000) (hbase:base<=W.heap.size)
  (h:∀g cap w',au base e w' (.slice (some ⟨g,0,none⟩) (n+1) cap) (vs++[u])->W.grownBy w' v.ownBlock->Below base W w'->wpList P ops Q rest (a.put o.dst (.slice (some ⟨g,0,none⟩) (n+1) cap)) w') :
  wpList P ops Q (o::rest) a (W.alloc (.cells #[u] e)):=by
 subst tJ;exact nK W hgd s x t ho base e z bytes ht hinfo hz1 lN hown hs u hx h1 hn hbase h
theorem Og (W:World) (hgd:o.guard=none) (s x:Operand) (t:TypeId) (ho:o.op=.call { callee:=.builtin .append,args:=#[s,x],argTypes:=#[t,t] })
  (base:Nat) (e:TypeId) (z:Value) (bytes:Nat) (ht:P.underlying t=some (.slice e)) (hinfo:(P.info? e).map (fun i=>(i.zero,i.size,i.bytes))=some (some z,1,bytes))
  (hz1:z.cells.size=1) (lN:bytes<=64) {v:Value} {xs:List (List Int)} (hown:kR base e W v xs) (hs:a.eval s=v) (u:Value) (y:List Int)
  (hx:a.eval x=.slice (some ⟨W.heap.size,0,none⟩) 1 1) (hu:af (fun b=>some b≠v.ownBlock) W u y) (h1:u.oneCell'=true) (n:Nat) (ug:xs.length=n) (hn:n<=1000000) (hbase:base<=W.heap.size)
  (h:∀g cap w',kR base e w' (.slice (some ⟨g,0,none⟩) (n+1) cap) (xs++[y])->W.grownBy w' v.ownBlock->Below base W w'->wpList P ops Q rest (a.put o.dst (.slice (some ⟨g,0,none⟩) (n+1) cap)) w') :
  wpList P ops Q (o::rest) a (W.alloc (.cells #[u] e)):=by
 subst ug;obtain ⟨i,hi,hzz⟩:=jR.1 hinfo;simp only [kX] at hzz;obtain ⟨hz,hs1,hb⟩:=hzz;obtain ⟨vals,hl,hown,hrows⟩:=hown;refine wpList_append_lies _ hgd s x t ho base e i z 1 bytes ht hi hz hs1 hb hz1 (by omega) v vals.length vals hs (hown.alloc _) ⟨W.heap.size,0,none⟩ 1 1 [u] hx rfl (cell_one_new _ _ _) (by simpa using h1) (by omega)
  (by unfold maxLen;omega) ?_ (by simp;omega) _ rfl fun g cap w' h2 h3 h4 _=>?_
 ·have:(vals.length+1)*bytes<=(vals.length+1)*64:=qO _ lN
  omega
 ·have hg:=lM h3
  rw [hl] at h2 ⊢;have Hu:∀b:Nat,some b≠v.ownBlock->b<W.heap.size->some b≠(Value.slice (some ⟨g,0,none⟩) (xs.length+1) cap).ownBlock:=fun b hb hlt e=>by
   simp only [Value.ownBlock,B3] at e;rcases h4 with h4 | h4
   ·exact hb (by rw [h4,e])
   ·rw [aQ] at h4;omega
  have hkeep:∀ {u':Value} {y':List Int},af (fun b=>some b≠v.ownBlock) W u' y'->af (fun b=>some b≠(Value.slice (some ⟨g,0,none⟩) (xs.length+1) cap).ownBlock) w' u' y':=fun hi' =>
   ((hi'.sub (T:=fun b=>some b≠v.ownBlock/\b<W.heap.size) fun b hb hlt=>⟨hb,hlt⟩).keep fun b hb hlt=>hg.block b hlt hb.1).sub fun b hb _=>Hu b hb.1 hb.2
  refine h g cap w' ⟨vals++[u],by simp [hl],?_,fun i hi=>?_⟩ hg (hown.fF hg hbase)
  ·unfold au;rw [bg,hl];exact h2
  ·rw [bg] at hi
   by_cases hi2:i<xs.length
   ·have e1:(vals++[u]).getD i undef=vals.getD i undef:=by simp [List.getElem?_append,hl,hi2]
    (have e2:gl (xs++[y]) i=gl xs i:=by simp [gl,List.getElem?_append,hi2]);rw [e1,e2];exact hkeep (hrows i hi2)
   ·obtain rfl:i=xs.length:=by simp at hi;omega
    (have e1:(vals++[u]).getD xs.length undef=u:=by simp [<- hl]);(have e2:gl (xs++[y]) xs.length=y:=by simp [gl]);rw [e1,e2];exact hkeep hu
end
theorem aaK {xs ys:List (List Int)} (hl:xs.length=ys.length) (h:∀j,j<xs.length->gl xs j=gl ys j):xs=ys:=by
 refine tY hl fun i h1 h2=>?_;have:=h i h1;simpa [gl,h1,h2] using this
def QD (w w':World):Prop:=∃n,w'=w.drewN n
theorem QD.refl (w:World):QD w w:=⟨0,rfl⟩
theorem QD.drewN {w w':World} (h:QD w w') (n:Nat):QD w (w'.drewN n):=by
 obtain ⟨m,rfl⟩:=h;exact ⟨m+n,by rw [kY]⟩
theorem QD.kept {w w':World} (h:QD w w') (S:Nat->Prop):Kept S w w':=by
 obtain ⟨m,rfl⟩:=h;exact fun _ _ _=>rfl
theorem QD.up {w w':World} (h:QD w w'):Up w w':=by
 obtain ⟨m,rfl⟩:=h;exact Up.drewN w m
def Af (xs:List (List Int)) (k:Nat):Int:=if (gl xs k).length≠(gl xs 0).length then 9 else if rR (gl xs k) (-1) 16 then 2 else 0
def kz (xs:List (List Int)):Int:=if xs.length=0 then 5 else if 32<xs.length\/4096<(gl xs 0).length then 4 else bf (Af xs) xs.length
theorem VF (w:World) (x:Int):Hp 125 #[] #[.int .i64 x] (.bool (decide (x < -1) || decide (16<=x))) w:=by
 unfold Hp;go_in;by_cases hx:x < -1
 ·go_wp2
  go_ret;exact ⟨aO (by simp [hx]),rfl⟩
 ·go_wp2
  go_ret;exact ⟨aO (by simp;omega),rfl⟩
theorem Mg (S:Nat->Prop) (w:World) (v:Value) (xs:List (List Int)) (h:aT S w v xs) (hn:xs.length<=1000000) (hr:∀k,(gl xs k).length<=1000000) :
  Calls Tryz.prog 70 #[v] w fun e w'=>e=.returned (.int .i64 (kz xs))/\w=w':=by
 have dK:kz xs=if xs.length=0 then 5 else if 32<xs.length\/4096<(gl xs 0).length then 4 else bf (Af xs) xs.length:=rfl
 have HF:=aa dK;obtain ⟨p,cap,rfl,hcap,_⟩:=dy h;have H:=aa h;clear dK h;by_cases h0:xs.length=0
 ·have HX:Hid (xs.length=0):=h0
  have h0':((xs.length:Int)==0)=true:=by simp [h0]
  clear h0;go_in;go_wp2;go_ret;exact ⟨aC (by rw [HF.out,if_pos HX.out]),rfl⟩
 have h0':((xs.length:Int)==0)=false:=by simpa using h0
 have Tz:0<xs.length:=by omega
 by_cases h1:32<xs.length
 ·go_in
  go_wp2;go_ret;exact ⟨aC (by rw [HF.out,if_neg h0,if_pos (.inl h1)]),rfl⟩
 obtain ⟨b,off,q0,c0,rfl,hc0,gO⟩:=eZ H.out Tz;have alD:w.cell? ⟨b,off,none⟩=some (.slice q0 (gl xs 0).length c0):=by simpa using hc0
 have ak1:=hr 0;clear hc0 gO;by_cases h2:4096<(gl xs 0).length
 ·go_in
  go_wp2;go_ret;exact ⟨aC (by rw [HF.out,if_neg h0,if_pos (.inr h2)]),rfl⟩
 have EH:Hid (kz xs=bf (Af xs) xs.length):=by unfold Hid;rw [HF.out,if_neg h0,if_neg (by omega)]
 have HR:=aa hr;have HAR:Hid (∀k,Af xs k=if (gl xs k).length≠(gl xs 0).length then 9 else if rR (gl xs k) (-1) 16 then 2 else 0):=fun _=>rfl;clear HF hr;generalize (gl xs 0).length=l0 at *;go_in;go_wp2
 go_loop [4,22] (fun _ i=>∃k:Nat,k<=xs.length/\i=.int .i64 k/\Hid (∀j,j<k->Af xs j=0)) (fun _ i=>xs.length - (intOf i).toNat)
 case atStart=>exact ⟨0,aF _,rfl,fun j hj=>absurd hj (aZ _)⟩
 case round =>
  obtain ⟨k,hk,rfl,hd⟩:=hrel;by_cases hlt:k<xs.length
  ·obtain ⟨b',off',qk,ck,e1,Es,hik⟩:=eZ H.out hlt
   injection e1 with e1;injection e1 with e1 e2;subst e1;subst e2;have uk:=aa (Jj 125 #[] (enters_of Tryz.func125 (by kernel_rfl) rfl) S w _ (gl xs k).length _ (fun j=>decide (gi (gl xs k) j < -1) || decide (16<=gi (gl xs k) j)) hik (HR.out k) (fun j _=>VF w (gi (gl xs k) j)));have fo:Hid (rR (gl xs k) (-1) 16=(List.range (gl xs k).length).any fun j=>decide (gi (gl xs k) j < -1) || decide (16<=gi (gl xs k) j)):=rfl;have HK:=aa (HAR.out k);clear hik;by_cases uQ:(gl xs k).length=l0
   ·have jC:(((gl xs k).length:Int) != (l0:Int))=false:=by simp [uQ]
    have dG:=aa uQ;clear uQ;go_wp2_with fail;refine uk.out.mono ?_;rintro e w' ⟨rfl,rfl⟩;rw [<- fo.out];by_cases uS:rR (gl xs k) (-1) 16=true
    ·have xh:=aa uS
     rw [uS];clear uS;go_wp2;go_ret;(have Jy:Af xs k=2:=by rw [HK.out,if_neg (fun e=>e dG.out),if_pos xh.out]);exact ⟨aC (by rw [EH.out,eX hlt hd.out (by rw [Jy];decide),Jy]),rfl⟩
    ·have XI:rR (gl xs k) (-1) 16=false:=by simpa using uS
     have xh:=aa uS;rw [XI];clear uS XI;go_wp2
     go_round
     case rel=>exact ⟨k+1,by omega,by go_num,fun j hj=>if e:j=k then by subst e;rw [HK.out,if_neg (fun e=>e dG.out),if_neg xh.out] else hd.out j (by omega)⟩
     case measure=>simp [intOf];omega
   ·have jC:(((gl xs k).length:Int) != (l0:Int))=true:=by simp;omega
    have dG:=aa uQ;clear uQ;go_wp2;go_ret;(have Jy:Af xs k=9:=by rw [HK.out,if_pos dG.out]);exact ⟨aC (by rw [EH.out,eX hlt hd.out (by rw [Jy];decide),Jy]),rfl⟩
  ·obtain rfl:k=xs.length:=by omega
   clear hlt;go_wp2;go_ret;exact ⟨aC (by rw [EH.out,cG hd.out]),rfl⟩
structure TA where
 un:Int
 st:Int
 src:List Int
end
section
open Go.ChangeShapes Go.WideShapes Go.ChangeAt Go.RowKit Go.Deep
instance:Inhabited TA:=⟨⟨0,0,[]⟩⟩
end
section
inductive BT (α:Type) where
 | leaf (x:α)
 | node (a b:BT α)
namespace BT
def map {α β:Type} (f:α->β):BT α->BT β
 | leaf x=>leaf (f x)
 | node a b=>node (map f a) (map f b)
def lR {α:Type}:BT α->List α
 | leaf x=>[x]
 | node a b=>lR a++lR b
inductive Pc {α:Type}:BT α->BT α->Prop
 | leaf (x:α):Pc (leaf x) (leaf x)
 | node {a a' b b':BT α}:Pc a a'->Pc b b'->Pc (node a b) (node a' b')
 | swap {a a' b b':BT α}:Pc a a'->Pc b b'->Pc (node a b) (node b' a')
end BT
section
variable {α β:Type} [Inhabited α] [Inhabited β]
def dW (p:Nat->Bool) (L:List α) (n:Nat):List α:=((List.range n).filter p).map fun i=>L.getD i default
theorem rT (p:Nat->Bool) (L:List α) (n:Nat):dW p L (n+1)=dW p L n++if p n then [L.getD n default] else []:=by
 unfold dW;rw [pU,rO,cg];congr 1;cases h:p n<;>simp [h]
theorem EI (f:α->β) (p:Nat->Bool) (L:List α):∀ {n:Nat},n<=L.length->dW p (L.map f) n=(dW p L n).map f
 | 0,_=>rfl
 | n+1,h=>by
  rw [rT,rT,cg,EI f p L (by omega)]
  congr 1
  split
  ·have:n<L.length:=h
   simp [this]
  ·rfl
theorem Br (p:Nat->Bool) (L:List α):∀ {n:Nat},n<=L.length->(dW p L n++dW (fun i=>!p i) L n).Perm (L.take n)
 | 0,_=>by simp [dW]
 | n+1,h=>by
  have hn:n<L.length:=h
  have ih:=Br p L (n:=n) (by omega)
  rw [rT,rT,jQ hn]
  have hg:L.getD n default=L[n]:=by simp [hn]
  rw [hg]
  cases hp:p n
  ·simp only [Bool.false_eq_true,if_false,eG,Bool.not_false,if_true]
   rw [<- dS]
   exact ih.append_right _
  ·simp only [if_true,Bool.not_true,Bool.false_eq_true,if_false,eG]
   refine List.Perm.trans ?_ (ih.append_right _)
   rw [dS,dS]
   exact List.Perm.append_left _ List.perm_append_comm
theorem Mh {p:Nat->Bool} {L:List α} {n:Nat} {x:α}:x∈dW p L n↔∃i,i<n/\p i=true/\L.getD i default=x:=by
 unfold dW;rw [bI];constructor
 ·rintro ⟨i,hi,h⟩
  rw [gP,bu] at hi;exact ⟨i,hi.1,hi.2,h⟩
 ·rintro ⟨i,h1,h2,h3⟩
  exact ⟨i,gP.2 ⟨bu.2 h1,h2⟩,h3⟩
theorem Ag (p:Nat->Bool) (L:List α) (n:Nat):(dW p L n).length<=n:=by
 unfold dW;rw [aD];exact aB (mN _ _) (by simp)
def rt:Nat->List α->List (BT α)
 | 0,_=>[]
 | _+1,[]=>[]
 | _+1,[x]=>[.leaf x]
 | d+1,x::y::L=>(List.range' 1 (2 ^ (y::L).length - 1)).flatMap fun bits =>
   (rt d (x::dW (fun i=>!bits.testBit i) (y::L) (y::L).length)).flatMap fun a =>
    (rt d (dW (fun i=>bits.testBit i) (y::L) (y::L).length)).map fun b=>.node a b
theorem Jz (f:α->β):∀(d:Nat) (L:List α),rt d (L.map f)=(rt d L).map (BT.map f)
 | 0,_=>rfl
 | _+1,[]=>rfl
 | _+1,[x]=>rfl
 | d+1,x::y::L=>by
  rw [dV,dV,rt,rt,CS]
  have hl:(f y::L.map f).length=(y::L).length:=by simp
  rw [hl]
  congr 1
  funext bits
  have e:f y::L.map f=(y::L).map f:=rfl
  rw [e,EI f _ _ (ah _),EI f _ _ (ah _),<- dV,Jz f d,Jz f d,CS,CQ]
  congr 1
  funext a
  rw [jA,jA]
  rfl
theorem EJ:∀(d:Nat) (L:List α),∀r∈rt d L,r.lR.Perm L
 | 0,_=>fun r h=>by cases h
 | _+1,[]=>fun r h=>by cases h
 | _+1,[x]=>fun r h=>by rw [rt,cN] at h;rw [h];exact mM _
 | d+1,x::y::L=>fun r h=>by
  rw [rt,iA] at h
  obtain ⟨bits,hb,h⟩:=h
  rw [iA] at h
  obtain ⟨a,ha,h⟩:=h
  obtain ⟨b,hb2,rfl⟩:=bI.1 h
  have h1:=EJ d _ a ha
  have h2:=EJ d _ b hb2
  have h3:=Br (fun i=>bits.testBit i) (y::L) (ah _)
  rw [fT] at h3
  rw [BT.lR]
  refine (h1.append h2).trans ?_
  rw [cm]
  exact (List.perm_append_comm.trans h3).cons _
end
end
end Go.Proofs.YthgabkgmkolobaaGreat
