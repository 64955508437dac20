/- The contract of layer 31's reference's Parse. strings.IndexAny at the four signs, for .. -/
import Derived.Lib.OthersKept
import Derived.Maps.OwnIn
import Derived.Test.YthgabkgmkolobaaGreatQ34
import Derived.Test.YthgabkgmkolobaaGreatQ37
set_option maxRecDepth 100000
namespace Go.Proofs.YthgabkgmkolobaaGreat
section
open Go.RowKit Go.Deep
theorem Gd {s:List UInt8} (h:∀r,fQ s≠some (r,[59])):iL s=none:=by
 cases e:iL s with
 | none=>rfl
 | some r=>exact absurd (BM.2 e) (h r)
set_option maxHeartbeats 4000000 in
theorem KA (w:World) (s:ByteArray) (hs:s.size≤1000):Calls Tryz.prog 146 #[.string s] w (xM w s):=by
 have hrb:=ek (w:=w) (P:=.slice none 0 0) (N:=.slice none 0 0) (T:=39);have hu:=Up.alloc w (.cells #[.slice none 0 0,.slice none 0 0] 39);have hsz:(w.alloc (.cells #[.slice none 0 0,.slice none 0 0] 39)).heap.size=w.heap.size+1:=World.size_alloc _ _;have HU:=aa hu;have cz:=aa hsz;have iV:=aa hrb;have gO:=aa hs;have d1:decide ((65536:Int)<(s.size:Int))=false:=decide_eq_false (by omega);have RS:¬65536<s.size:=by omega
 have M8:=aa (fun W=>Dn s.size s rfl hs W 0 (by omega));clear hrb hu hsz hs
 go_enter Tryz.func146,Tryz.ntmps146
 go_wp2_with fail;clear d1 RS;generalize w.alloc (.cells #[.slice none 0 0,.slice none 0 0] 39)=w1 at *;refine (M8.out w1).mono ?_;rintro e w2 ⟨aG,hm⟩;have aP:=aa (HU.out.trans aG);have iZ:=aa ((Below.block aG w.heap.size (by rw [cz.out];omega)).trans iV.out);have dP:Hid (w.heap.size+1≤w2.heap.size):=by have:=aG.size;rw [cz.out] at this;exact this
 clear aG M8 HU cz iV;cases hr:fQ s.data.toList with
 | none =>
  rw [hr] at hm;subst hm;have HST:=aa (je aP.out iZ.out (Gd fun r e=>by rw [hr] at e;cases e));obtain ⟨q0,q1,q2,q3⟩:=boxed iZ.out;clear hr;go_wp2_with fail;obtain ⟨s1,s2,s3⟩:=HST.out;exact ⟨rfl,.tuple #[.agg #[.slice none 0 0,.slice none 0 0],.int .i64 3],by simp [results,Tryz.results146,go_sem,s1,s2],s3⟩
 | some q =>
  obtain ⟨r,l⟩:=q;rw [hr] at hm;obtain ⟨v2,rfl,hr2⟩:=hm;obtain ⟨b2,rfl⟩:=nT hr2;by_cases hl:l=[59]
  ·subst hl
   have oJ:iL s.data.toList=some r:=BM.1 hr;(have gC:s.data.toList.length=s.size:=by rw [Array.length_toList];rfl);obtain ⟨AR,AU,Dq⟩:=xI oJ;have M9:=FV hr;rw [gC] at AR AU M9;(have F7:Hid ((flat r).ps.length≤1000000):=by unfold Hid;have:=gO.out;omega);(have F8:Hid ((flat r).ns.length≤1000000):=by unfold Hid;have:=gO.out;omega);(have F9:Hid (∀k,(gs (flat r).ns k).size≤70000):=fun j=>by have:=Dq j;rw [gC] at this;have:=gO.out;omega);have l6:=aa (zx _ w2 _ r hr2 (by have:=gO.out;omega));have vJ:=aa oJ
   (have t1:(bL [59]).toList=[59]:=by rw [toList_data];rfl);(have t2:((bL [59]).toList==[59])=true:=by rw [t1];rfl);generalize bL [59]=ub at *;obtain ⟨q0,q1,q2,q3⟩:=boxed iZ.out;clear AR AU Dq M9 gC oJ hr hr2;go_wp2_with fail;refine l6.out.mono ?_;rintro e w4 ⟨bE,_,rfl,P4,N4,rfl,ey,eC⟩;obtain ⟨pp,pc,rfl,-,-⟩:=aC.open ey;obtain ⟨np,nc,rfl,-,-⟩:=aC.open eC;have ey:aj _ w4 (.slice pp (flat r).ps.length pc) (flat r).ps:=ey;have eC:ah _ w4 (.slice np (flat r).ns.length nc) (flat r).ns:=eC
   have aY:=Up.alloc w4 (.cells #[.slice pp (flat r).ps.length pc,.slice np (flat r).ns.length nc] 39);have b0:=dc w4 (.slice pp (flat r).ps.length pc) (.slice np (flat r).ns.length nc) 39;have b1:=dz w4 (.slice pp (flat r).ps.length pc) (.slice np (flat r).ns.length nc) 39;have cZ:=aa b0;have cR:=aa b1;have xN:=(Below.block (bE.trans aY) w.heap.size (by have:=dP.out;omega)).trans iZ.out;have Ga:=aa xN;have Gc:=aa (aP.out.trans (bE.trans aY))
   have nB:Hid (au (fun b=>w2.heap.size≤b) (w4.alloc (.cells #[.slice pp (flat r).ps.length pc,.slice np (flat r).ns.length nc] 39)) (.agg #[.slice pp (flat r).ps.length pc,.slice np (flat r).ns.length nc]) (flat r)):=au.keep ⟨_,_,rfl,ey,eC⟩ (aY.kept _);have dr:=aa (jZ _ _ _ (flat r) nB.out F7.out F8.out F9.out);have M6:Hid (w2.heap.size≤(w4.alloc (.cells #[.slice pp (flat r).ps.length pc,.slice np (flat r).ns.length nc] 39)).heap.size):=(bE.trans aY).size;clear bE ey eC aY l6 xN iZ aP q0 q1 q2 q3 t1 t2;go_wp2_with fail
   generalize w4.alloc (.cells #[.slice pp (flat r).ps.length pc,.slice np (flat r).ns.length nc] 39)=w5 at *;refine dr.out.mono ?_;rintro e w6 ⟨rfl,ew⟩;have ew:Up w5 w6:=ew;have b0:=ew.cell cZ.out;have b1:=ew.cell cR.out;have rD:=(Below.block ew w.heap.size (by have:=dP.out;have:=M6.out;omega)).trans Ga.out;have zF:=aa rD;have zG:=aa (Gc.out.trans ew);have xO:=aa (nB.out.keep (ew.kept _));obtain ⟨q0,q1,q2,q3⟩:=boxed rD;have tq:Hid (r6 s=aB (flat r)):=by unfold Hid r6;rw [vJ.out]
   (have tG:Hid (pM s=if aB (flat r)≠0 then ⟨[],[]⟩ else flat r):=by unfold Hid pM;rw [vJ.out]);clear ew rD dr;by_cases he:aB (flat r)=0
   ·have zH:Hid (pM s=flat r):=by unfold Hid;rw [tG.out,if_neg (by simp [he])]
    (have Qc:Hid (r6 s=0):=by unfold Hid;rw [tq.out,he]);rw [he];have HST:=aa (dS (w:=w) (p:=.slice pp (flat r).ps.length pc) (q:=.slice np (flat r).ns.length nc) zF.out (Nat.le_refl _) zG.out);clear he;go_wp2_with fail;obtain ⟨s1,s2,s3,s4⟩:=HST.out;obtain ⟨P7,N7,e7,z8,M7⟩:=xO.out;(have e8:P7=.slice pp (flat r).ps.length pc∧N7=.slice np (flat r).ns.length nc:=by injection e7 with e7;have:=congrArg Array.toList e7;simp at this;exact ⟨this.1.symm,this.2.symm⟩);obtain ⟨rfl,rfl⟩:=e8;have hsw:=dP.out
    refine ⟨rfl,.tuple #[.agg #[.slice pp (flat r).ps.length pc,.slice np (flat r).ns.length nc],.int .i64 0],by simp [results,Tryz.results146,go_sem,s2,s3],?_⟩;refine ⟨s1,_,by rw [Qc.out],?_⟩;rw [zH.out];exact ⟨_,_,rfl,(aj.keep z8 fun b hb _=>s4 b (by have:w2.heap.size≤b:=hb;omega)).sub fun _ _ _=>trivial,(ah.keep M7 fun b hb _=>s4 b (by have:w2.heap.size≤b:=hb;omega)).sub fun _ _ _=>trivial⟩
   ·have rR:(aB (flat r) != 0)=true:=by simpa using he
    (have zH:Hid (pM s=⟨[],[]⟩):=by unfold Hid;rw [tG.out,if_pos he]);have HST:=aa (dS (w:=w) (p:=.slice none 0 0) (q:=.slice none 0 0) zF.out (Nat.le_refl _) zG.out);clear he;generalize hte:aB (flat r)=te at *;go_wp2_with fail;obtain ⟨s1,s2,s3,s4⟩:=HST.out;refine ⟨rfl,.tuple #[.agg #[.slice none 0 0,.slice none 0 0],.int .i64 te],by simp [results,Tryz.results146,go_sem,s2,s3],?_⟩;refine ⟨s1,_,by rw [tq.out],?_⟩;rw [zH.out];exact zn _
  ·have HST:=aa (je aP.out iZ.out (Gd fun r' e=>by rw [hr] at e;injection e with e;injection e with _ e;exact hl e))
   obtain ⟨q0,q1,q2,q3⟩:=boxed iZ.out;(have t1:((bL l).toList==[59])=false:=by rw [beq_eq_false_iff_ne,toList_data];exact hl);(have t2:¬(bL l).toList=[59]:=by rw [toList_data];exact hl);clear hr hr2 hl;generalize bL l=ub at *;go_wp2_with fail;obtain ⟨s1,s2,s3⟩:=HST.out;exact ⟨rfl,.tuple #[.agg #[.slice none 0 0,.slice none 0 0],.int .i64 3],by simp [results,Tryz.results146,go_sem,s1,s2],s3⟩
end
section
open Go.RowKit Go.Deep
theorem V7 (s:ByteArray) (k:Nat) (h:k<s.size):s.get! k=s[k]'h:=by
 simp [ByteArray.get!,getElem!_pos,h];rfl
theorem Ht (s : ByteArray) (pos : Nat) (h : pos < s.size) (ha : 128 ≤ (s[pos]'h).toNat) : 1 ≤ (Utf8.decode s pos).2 ∧ pos + (Utf8.decode s pos).2 ≤ s.size ∧ ∀ j, (hj : j < (Utf8.decode s pos).2) → ∀ hl : pos + j < s.size, 128 ≤ (s[pos + j]'hl).toNat := by
  have key : ∀ w : Nat, 1 ≤ w → w ≤ 4 → (∀ j, 1 ≤ j → j < w → pos + j < s.size ∧ (s.get! (pos + j)).toNat / 64 = 2) → 1 ≤ w ∧ pos + w ≤ s.size ∧ ∀ j, (hj : j < w) → ∀ hl : pos + j < s.size, 128 ≤ (s[pos + j]'hl).toNat := fun w h1 _ hc => by
    refine ⟨h1, ?_, fun j hj hl => ?_⟩
    · by_cases e : w = 1
      · omega
      · have := (hc (w - 1) (by omega) (by omega)).1; omega
    · by_cases e : j = 0
      · subst e; exact ha
      · have h2 := (hc j (by omega) hj).2
        rw [V7 s _ hl] at h2
        omega
  have one := key 1 (Nat.le_refl _) (by omega) (fun j a b => by omega)
  have cont : ∀ k, (decide (pos + k < s.size) && (s.get! (pos + k)).toNat / 64 == 2) = true → pos + k < s.size ∧ (s.get! (pos + k)).toNat / 64 = 2 := fun k hk => by
    simp only [Bool.and_eq_true, decide_eq_true_eq, beq_iff_eq] at hk; exact hk
  have hn : ¬ (s[pos]'h).toNat < 128 := by omega
  unfold Utf8.decode
  simp only [get_at s pos h, hn, if_false]
  split
  · rename_i hb
    rw [Bool.and_eq_true] at hb
    split
    · exact key 2 (by omega) (by omega) fun j h1 h2 => by obtain rfl : j = 1 := by omega
                                                          exact cont 1 hb.2
    · exact one
  · split
    · rename_i hb
      rw [Bool.and_eq_true, Bool.and_eq_true] at hb
      split
      · exact key 3 (by omega) (by omega) fun j h1 h2 => by
          by_cases e : j = 1
          · subst e; exact cont 1 hb.1.2
          · obtain rfl : j = 2 := by omega
            exact cont 2 hb.2
      · exact one
    · split
      · rename_i hb
        rw [Bool.and_eq_true, Bool.and_eq_true, Bool.and_eq_true] at hb
        split
        · exact key 4 (by omega) (by omega) fun j h1 h2 => by
            by_cases e : j = 1
            · subst e; exact cont 1 hb.1.1.2
            · by_cases e2 : j = 2
              · subst e2; exact cont 2 hb.1.2
              · obtain rfl : j = 3 := by omega
                exact cont 3 hb.2
        · exact one
      · exact one
theorem KB {s:ByteArray} {i d:Nat} (h:Lib.NoAny s.data.toList bF i) (hs:i+d≤s.size) (hb:∀j,(hj:j<d)→∀hl:i+j<s.size,128≤(s[i+j]'hl).toNat):Lib.NoAny s.data.toList bF (i+d):=fun j b hj hx=>by
 by_cases e:j<i
 ·exact h j b e hx
 ·obtain ⟨d2,rfl⟩:∃d2,j=i+d2:=⟨j - i,by omega⟩
  have hl:i+d2<s.size:=by omega
  have h1:=hb d2 (by omega) hl
  rw [Lib.data_getElem? s (i+d2) hl] at hx
  injection hx with hx
  have h3:128≤b.toNat:=by rw [← hx];exact h1
  cases hc:bF.contains b with
  | false=>rfl
  | true =>
   have hm:=List.contains_iff_mem.1 hc
   simp only [bF,List.mem_cons,List.not_mem_nil,or_false] at hm
   rcases hm with rfl | rfl | rfl | rfl<;>exact absurd h3 (by decide)
set_option maxHeartbeats 8000000 in
theorem Hu (s:ByteArray) (w:World) (hs:s.size≤1000):Calls Tryz.prog 166 #[.string s,.string jV] w fun e w'=>e=.returned (.int .i64 (Lib.indexAny s.data.toList bF))∧Up w w':=by
 by_cases h8:8<s.size
 ·have h:=Go.Proofs.Any.strings_IndexAny_long (ρ:=Tryz.idxA_ren) Tryz.idxA (zero_of_info (P:=Tryz.prog) (t:=225) (v:=.agg (Array.replicate 256 (.bool false))) (n:=256) (by kernel_rfl)).1 (zero_of_info (P:=Tryz.prog) (t:=225) (v:=.agg (Array.replicate 256 (.bool false))) (n:=256) (by kernel_rfl)).2 s jV w (by decide) h8 (by omega) (by decide) (by
   intro j b hb
   have hm:=List.mem_of_getElem? hb
   have hall:∀x∈jV.data.toList,x.toNat<128:=by decide +kernel
   exact hall b hm)
  refine h.mono ?_
  rintro e w' ⟨rfl,rfl⟩
  exact ⟨rfl,(Up.alloc _ _).trans (Up.alloc _ _)⟩
 ·have h8z:decide ((8:Int)<(s.size:Int))=false:=decide_eq_false (by omega)
  have iN:=aa (fun W=>Go.Proofs.Any.strings_shouldUseASCIISet (ρ:=Tryz.idxA_ren) { Tryz.idxA with } (s.size:Int) W);rw [h8z] at iN;have jk:=aa FX;have HIL:=aa (fun (x:UInt8) (h:x.toNat<128) W=>Go.Proofs.Any.strings_IndexRune_ascii (ρ:=Tryz.idxA_ren) { Tryz.idxA with } jV (x.toNat:Int) W (by omega) (by omega));have Ox:((jV.size:Int)==1)=false:=rfl;have hemp:(jV.toList==[])=false:=by decide +kernel
  clear h8
  go_enter Tryz.func166,Tryz.ntmps166
  go_wp2_with fail;refine (iN.out _).mono ?_;rintro e w2 ⟨rfl,rfl⟩;go_wp2_with fail
  go_loopg [9,10] s.size (fun g _ _ wx=>∃i:Nat,i+g=s.size∧wx.heap[w2.heap.size]? = some (.stringIter s i)∧Hid (Up w2 wx)∧Hid (Lib.NoAny s.data.toList bF i))
  case atStart=>exact ⟨0,by omega,World.iter_heap _ _ _,Up.alloc _ _,Lib.NoAny.zero _ _⟩
  case round =>
   obtain ⟨i,hig,hit,b9,hno⟩:=hrel;obtain ⟨wo,rfl⟩:∃wo:World,wo=wr:=⟨_,rfl⟩;by_cases hi:i<s.size
   ·have hnx:=fun ty=>Lib.run_next_any_at (P:=Tryz.prog) wo w2.heap.size s i ty hit hi
    have KC:=Lib.iterAt_heap wo w2.heap.size s i (i+(Utf8.decode s i).2) hit;have RV:=aa KC;have aP:Hid (Up w2 (wo.iterAt w2.heap.size s (i+(Utf8.decode s i).2))):=Lib.below_iterAt b9.out (Nat.le_refl _) _ _;have HDL:=aa (decode_le s i);obtain ⟨x,hx⟩:∃x:UInt8,s[i]'hi=x:=⟨_,rfl⟩;(have hxl:s.data.toList[i]? = some x:=by rw [← hx];exact Lib.data_getElem? s i hi);have HXL:=aa hxl;have HG:=aa hig;have HI:=aa hi;by_cases ha:128≤x.toNat
    ·obtain ⟨k1,k2,k3⟩:=Ht s i hi (by rw [hx];exact ha)
     have h1:=(decode_high s i hi (by rw [hx];exact ha)).1;have mz:=aa (KB hno.out k2 k3);have HK:=aa k1;have Zd:=aa k2;have HC:=aa (jk.out (wo.iterAt w2.heap.size s (i+(Utf8.decode s i).2)) ((Utf8.decode s i).1:Int) (by omega) (by have:=HDL.out;omega));clear hit KC b9 hno hxl hx hi hig k1 k2 k3 ha h1;generalize (Utf8.decode s i).1=rn at *;generalize (Utf8.decode s i).2=wd at *;go_wp2_with fail;refine HC.out.mono ?_;rintro e w5 ⟨rfl,fe⟩;have gU:Hid (Up w2 w5):=aP.out.trans fe
     have HIT5:Hid (w5.heap[w2.heap.size]? = some (.stringIter s (i+wd))):=(Below.block fe w2.heap.size (Array.getElem?_eq_some_iff.1 RV.out).1).trans RV.out;clear fe;go_wp2_with fail
     go_roundg (s.size - (i+wd))
     case measure=>have:=HG.out;have:=HK.out;have:=Zd.out;omega
     case rel=>exact ⟨i+wd,by have:=Zd.out;omega,HIT5.out,gU.out,mz.out⟩
    ·have h1:Utf8.decode s i=(x.toNat,1):=by rw [decode_ascii s i hi (by rw [hx];omega),hx]
     rw [h1] at hnx RV aP;have HC:=aa (HIL.out x (by omega) (wo.iterAt w2.heap.size s (i+1)));(have hback:((x.toNat:Int)).toNat.toUInt8=x:=by simp);rw [hback] at HC;have hcon:=Lib.contains_iff_indexByte bF x;cases hin:bF.contains x
     ·have hlt:decide ((0:Int)≤Lib.indexByte jV.data.toList x)=false:=by rw [hin] at hcon;exact hcon.symm
      have mz:=aa (hno.out.succ hxl hin);clear hit KC b9 hno hxl hx hi hig ha h1 hcon;generalize Lib.indexByte jV.data.toList x=ib at *;go_wp2_with fail;refine HC.out.mono ?_;rintro e w5 ⟨rfl,rfl⟩;go_wp2_with fail
      go_roundg (s.size - (i+1))
      case measure=>have:=HG.out;have:=HI.out;omega
      case rel=>exact ⟨i+1,by have:=HI.out;omega,RV.out,aP.out,mz.out⟩
     ·have hlt:decide ((0:Int)≤Lib.indexByte jV.data.toList x)=true:=by rw [hin] at hcon;exact hcon.symm
      have HR:Hid (Lib.indexAny s.data.toList bF=(i:Int)):=Lib.indexAny_hit hno.out hxl hin;clear hit KC b9 hno hxl hx hi hig ha h1 hcon;generalize Lib.indexByte jV.data.toList x=ib at *;go_wp2_with fail;refine HC.out.mono ?_;rintro e w5 ⟨rfl,rfl⟩;go_wp2_with fail;go_ret;exact ⟨by rw [HR.out];rfl,aP.out⟩
   ·have hnx:=fun ty=>Lib.run_next_end_at (P:=Tryz.prog) wo w2.heap.size s i ty hit hi
    (have V8:i=s.size:=by omega);have HR:Hid (Lib.indexAny s.data.toList bF = -1):=Lib.indexAny_none (by rw [← Lib.size_eq,← V8];exact hno.out);have HUP:=aa b9.out;clear hit b9 hno hi hig V8;go_wp2_with fail;go_ret;exact ⟨by rw [HR.out];rfl,HUP.out⟩
theorem XQ (s:ByteArray) (hs:s.size≤1000):VS s:=fun i W hi=>by
 have h:=Hu (s.extract i s.size) W (by rw [ByteArray.size_extract];omega)
 have e:(s.extract i s.size).data.toList=s.data.toList.drop i:=by
  rw [ByteArray.data_extract,Array.toList_extract]
  exact List.take_of_length_le (by rw [List.length_drop,Array.length_toList];exact Nat.le_refl _)
 rw [e] at h
 exact h
end
section
open Go.RowKit Go.Deep
set_option maxHeartbeats 4000000 in
theorem Hv (w:World) (s:ByteArray) (hs:s.size≤1000) {r:RT} (V9:iL s.data.toList=some r) (Ze:aB (flat r)=0):Calls Tryz.prog 146 #[.string s] w fun e w'=>Up w w'∧∃v,e=.returned (.tuple #[v,.int .i64 0])∧au (fun b=>w.heap.size≤b) w' v (flat r):=by
 have VE:=aa Ze;have Wa:=aa V9;clear Ze V9;have hrb:=ek (w:=w) (P:=.slice none 0 0) (N:=.slice none 0 0) (T:=39);have hu:=Up.alloc w (.cells #[.slice none 0 0,.slice none 0 0] 39);have hsz:(w.alloc (.cells #[.slice none 0 0,.slice none 0 0] 39)).heap.size=w.heap.size+1:=World.size_alloc _ _;have HU:=aa hu;have cz:=aa hsz;have iV:=aa hrb;have gO:=aa hs;have d1:decide ((65536:Int)<(s.size:Int))=false:=decide_eq_false (by omega);have RS:¬65536<s.size:=by omega
 have M8:=aa (fun W=>Dn s.size s rfl hs W 0 (by omega));clear hrb hu hsz hs
 go_enter Tryz.func146,Tryz.ntmps146
 go_wp2_with fail;clear d1 RS;generalize w.alloc (.cells #[.slice none 0 0,.slice none 0 0] 39)=w1 at *;refine (M8.out w1).mono ?_;rintro e w2 ⟨aG,hm⟩;have aP:=aa (HU.out.trans aG);have iZ:=aa ((Below.block aG w.heap.size (by rw [cz.out];omega)).trans iV.out);have dP:Hid (w.heap.size+1≤w2.heap.size):=by have:=aG.size;rw [cz.out] at this;exact this
 clear aG M8 HU cz iV;have hr:fQ s.data.toList=some (r,[59]):=BM.2 Wa.out;rw [hr] at hm;obtain ⟨v2,rfl,hr2⟩:=hm;obtain ⟨b2,rfl⟩:=nT hr2;have oJ:iL s.data.toList=some r:=Wa.out;have gC:s.data.toList.length=s.size:=by rw [Array.length_toList];rfl
 obtain ⟨AR,AU,Dq⟩:=xI oJ;have M9:=FV hr;rw [gC] at AR AU M9;have F7:Hid ((flat r).ps.length≤1000000):=by unfold Hid;have:=gO.out;omega
 have F8:Hid ((flat r).ns.length≤1000000):=by unfold Hid;have:=gO.out;omega
 have F9:Hid (∀k,(gs (flat r).ns k).size≤70000):=fun j=>by have:=Dq j;rw [gC] at this;have:=gO.out;omega
 have l6:=aa (zx _ w2 _ r hr2 (by have:=gO.out;omega));have vJ:=aa oJ;have t1:(bL [59]).toList=[59]:=by rw [toList_data];rfl
 have t2:((bL [59]).toList==[59])=true:=by rw [t1];rfl
 generalize bL [59]=ub at *;obtain ⟨q0,q1,q2,q3⟩:=boxed iZ.out;clear AR AU Dq M9 gC oJ hr hr2;go_wp2_with fail;refine l6.out.mono ?_;rintro e w4 ⟨bE,_,rfl,P4,N4,rfl,ey,eC⟩;obtain ⟨pp,pc,rfl,-,-⟩:=aC.open ey;obtain ⟨np,nc,rfl,-,-⟩:=aC.open eC;have ey:aj _ w4 (.slice pp (flat r).ps.length pc) (flat r).ps:=ey;have eC:ah _ w4 (.slice np (flat r).ns.length nc) (flat r).ns:=eC;have aY:=Up.alloc w4 (.cells #[.slice pp (flat r).ps.length pc,.slice np (flat r).ns.length nc] 39);have b0:=dc w4 (.slice pp (flat r).ps.length pc) (.slice np (flat r).ns.length nc) 39
 have b1:=dz w4 (.slice pp (flat r).ps.length pc) (.slice np (flat r).ns.length nc) 39;have cZ:=aa b0;have cR:=aa b1;have xN:=(Below.block (bE.trans aY) w.heap.size (by have:=dP.out;omega)).trans iZ.out;have Ga:=aa xN;have Gc:=aa (aP.out.trans (bE.trans aY));have nB:Hid (au (fun b=>w2.heap.size≤b) (w4.alloc (.cells #[.slice pp (flat r).ps.length pc,.slice np (flat r).ns.length nc] 39)) (.agg #[.slice pp (flat r).ps.length pc,.slice np (flat r).ns.length nc]) (flat r)):=au.keep ⟨_,_,rfl,ey,eC⟩ (aY.kept _)
 have dr:=aa (jZ _ _ _ (flat r) nB.out F7.out F8.out F9.out);have M6:Hid (w2.heap.size≤(w4.alloc (.cells #[.slice pp (flat r).ps.length pc,.slice np (flat r).ns.length nc] 39)).heap.size):=(bE.trans aY).size;clear bE ey eC aY l6 xN iZ aP q0 q1 q2 q3 t1 t2;go_wp2_with fail;generalize w4.alloc (.cells #[.slice pp (flat r).ps.length pc,.slice np (flat r).ns.length nc] 39)=w5 at *;refine dr.out.mono ?_;rintro e w6 ⟨rfl,ew⟩;have ew:Up w5 w6:=ew;have b0:=ew.cell cZ.out;have b1:=ew.cell cR.out
 have rD:=(Below.block ew w.heap.size (by have:=dP.out;have:=M6.out;omega)).trans Ga.out;have zF:=aa rD;have zG:=aa (Gc.out.trans ew);have xO:=aa (nB.out.keep (ew.kept _));obtain ⟨q0,q1,q2,q3⟩:=boxed rD;clear ew rD dr;rw [VE.out];have HST:=aa (dS (w:=w) (p:=.slice pp (flat r).ps.length pc) (q:=.slice np (flat r).ns.length nc) zF.out (Nat.le_refl _) zG.out);go_wp2_with fail;obtain ⟨s1,s2,s3,s4⟩:=HST.out;obtain ⟨P7,N7,e7,z8,M7⟩:=xO.out
 have e8:P7=.slice pp (flat r).ps.length pc∧N7=.slice np (flat r).ns.length nc:=by injection e7 with e7;have:=congrArg Array.toList e7;simp at this;exact ⟨this.1.symm,this.2.symm⟩
 obtain ⟨rfl,rfl⟩:=e8;have hsw:=dP.out;refine ⟨rfl,.tuple #[.agg #[.slice pp (flat r).ps.length pc,.slice np (flat r).ns.length nc],.int .i64 0],by simp [results,Tryz.results146,go_sem,s2,s3],?_⟩;refine ⟨s1,_,rfl,?_⟩;exact ⟨_,_,rfl,(aj.keep z8 fun b hb _=>s4 b (by have:w2.heap.size≤b:=hb;omega)).sub fun b hb _=>by have:w2.heap.size≤b:=hb;omega,(ah.keep M7 fun b hb _=>s4 b (by have:w2.heap.size≤b:=hb;omega)).sub fun b hb _=>by have:w2.heap.size≤b:=hb;omega⟩
end
section
section
variable {t:aD}
def fh (ns:List ByteArray) (a:ByteArray):Int:=b5 (fun j=>decide (a=gs ns j)) ns.length
theorem S8 {ns:List ByteArray} {a:ByteArray}:a∈nS ns↔∃j,j<ns.length∧gs ns j=a∧a.size≠0:=by
 unfold nS;rw [List.mem_filter];constructor
 ·rintro ⟨h1,h2⟩
  obtain ⟨j,hj,e⟩:=List.mem_iff_getElem.1 h1;exact ⟨j,hj,by rw [← e];simp [gs,hj],of_decide_eq_true h2⟩
 ·rintro ⟨j,hj,e,h2⟩
  refine ⟨?_,decide_eq_true h2⟩;have:gs ns j=ns[j]:=by simp [gs,hj]
  rw [← e,this];exact List.getElem_mem hj
end
end
section
section
variable {t:aD} {st:List Int} {cs:List (List Int)} {leaf:Nat}
theorem Hw {ns:List ByteArray} {j:Nat} (hj:j<ns.length) (h0:(gs ns j).size≠0):0≤cH ns j:=by
 have hm:(j:Int)∈aq ns:=sF.2 ⟨j,rfl,hj,h0⟩;obtain ⟨i,hi,e⟩:=K4 hm;unfold cH;have:=kY (fun i=>decide ((j:Int)=gi (aq ns) i)) (aq ns).length;rw [ij hi (decide_eq_true e.symm)] at this;exact of_decide_eq_true this
end
end
section
def o8 (t:aD) (names:List ByteArray):Bool:=(List.range (aq t.ns).length).any fun j=>decide (fh names (gs t.ns (gi (aq t.ns) j).toNat)<0)
structure zI (t:aD) (names:List ByteArray):Prop where
 te:aB t=0
 le:names.length≤32
 nd:∀j k,j<k→k<names.length→gs names k≠gs names j
 len:(aq t.ns).length=names.length
 has:∀j,j<t.ps.length→(gs t.ns j).size≠0→∃b:Nat,b<names.length∧gs names b=gs t.ns j
theorem DW {names:List ByteArray} {a:ByteArray}:0≤fh names a↔∃b,b<names.length∧gs names b=a:=by
 constructor
 ·intro h
  obtain ⟨k,hk⟩:=Int.eq_ofNat_of_zero_le h;obtain ⟨h1,h2,_⟩:=qw hk;exact ⟨k,h1,(of_decide_eq_true h2).symm⟩
 ·rintro ⟨b,hb,e⟩
  have Wb:(List.range names.length).any (fun j=>decide (a=gs names j))=true:=List.any_eq_true.2 ⟨b,List.mem_range.2 hb,decide_eq_true e.symm⟩;rw [← kY] at Wb;exact of_decide_eq_true Wb
theorem Wc {names:List ByteArray} (h:∀j k,j<k→k<names.length→gs names k≠gs names j) {a b:Nat} (ha:a<names.length) (hb:b<names.length) (e:gs names a=gs names b):a=b:=by
 rcases Nat.lt_trichotomy a b with c | c | c
 ·exact absurd e.symm (h a b c hb)
 ·exact c
 ·exact absurd e (h b a c ha)
theorem XR {names:List ByteArray} (h:∀j k,j<k→k<names.length→gs names k≠gs names j) {b:Nat} (hb:b<names.length):fh names (gs names b)=(b:Int):=by
 have h1:0≤fh names (gs names b):=DW.2 ⟨b,hb,rfl⟩;obtain ⟨k,hk⟩:=Int.eq_ofNat_of_zero_le h1;obtain ⟨h2,h3,_⟩:=qw hk;have h3:=of_decide_eq_true h3;rw [hk];have:=Wc h h2 hb h3.symm;rw [this]
end
section
def jf (t:aD) (names:List ByteArray) (st:List Int) (n:Nat):List Int:=(List.range n).map fun j=>gi st (fh names (gs t.ns (gi (aq t.ns) j).toNat)).toNat
theorem kC (t:aD) (names:List ByteArray) (st:List Int) (n:Nat):(jf t names st n).length=n:=by simp [jf]
theorem S9 {t:aD} {names:List ByteArray} {st:List Int} {n j:Nat} (h:j<n):gi (jf t names st n) j=gi st (fh names (gs t.ns (gi (aq t.ns) j).toNat)).toNat:=by simp [jf,gi,h]
theorem Dr (t:aD) (names:List ByteArray) (st:List Int) (n:Nat):jf t names st (n+1)=jf t names st n++[gi st (fh names (gs t.ns (gi (aq t.ns) n).toNat)).toNat]:=by simp [jf,List.range_succ]
section
variable {t:aD} {names:List ByteArray} {st:List Int}
theorem Ge (h:zI t names) {v:Nat} (hv:v<t.ps.length) (h0:(gs t.ns v).size≠0):∃b:Nat,b<names.length∧gs names b=gs t.ns v∧fh names (gs t.ns v)=(b:Int):=by
 obtain ⟨b,hb,e⟩:=h.has v hv h0;exact ⟨b,hb,e,by rw [← e];exact XR h.nd hb⟩
end
end
section
open Go.RowKit Go.Shelf Go.Deep Go.Sort
abbrev El:=Nat×Value
section
variable (w0:World) (t:aD) (names:List ByteArray) (l Bt Be Bn Bq N:Nat) (J:List El→(Nat→Prop)→World→Prop)
variable {w0 t names l Bt Be Bn Bq N J}
theorem Gf (W:World) (base:Nat) (e:TypeId) (u:Value) (h:base≤W.heap.size):aF base e (W.alloc (.cells #[u] e)) (.slice (some ⟨W.heap.size,0,none⟩) 1 1) [u] :=
 ⟨rfl,.inr ⟨W.heap.size,1,#[u],rfl,h,blk_alloc_new W _,Nat.le_refl _,by decide,rfl,rfl⟩⟩
end
end
end Go.Proofs.YthgabkgmkolobaaGreat
