/- The helpers of the statements on layer 32: GreatNames, GreatTree, Great, small, four. The .. -/
import Derived.Test.YtpnmblnahjjmhaaGreatQ1
import Derived.Test.YtpnmblnahjjmhaaGreatQ37
import Derived.Test.YtpnmblnahjjmhaaGreatQ27
import Derived.Test.YtpnmblnahjjmhaaGreatQ16
import Derived.Test.YtpnmblnahjjmhaaGreatQ45
import Derived.Test.YtpnmblnahjjmhaaGreatQ19
import Derived.Test.YtpnmblnahjjmhaaGreatQ5
set_option maxRecDepth 100000
namespace Go.Proofs.YtpnmblnahjjmhaaGreat
section
open Go.RowKit Go.Deep
def sA (names : List ByteArray) (k : Nat) : Bool := decide (20 < (gs names k).size) || (decide (9 < names.length) && (decide (names.length ≤ 32) || decide ((gs names k).size ≠ 0)))
def vR (names : List ByteArray) : Bool := (List.range names.length).any (sA names) || decide (40 < names.length)
theorem Qs {names : List ByteArray} (h : vR names = false) : names.length ≤ 40 ∧ ∀ k, (gs names k).size ≤ 20 := by
 unfold vR at h
 rw [Bool.or_eq_false_iff] at h
 refine ⟨by have := of_decide_eq_false h.2; omega, fun k => ?_⟩
 by_cases hk : k < names.length
 ·have h1 := any_false h.1 hk
  unfold sA at h1
  rw [Bool.or_eq_false_iff] at h1
  have := of_decide_eq_false h1.1; omega
 ·have : gs names k = ByteArray.empty := by simp [gs, show names.length ≤ k by omega]
  rw [this]; decide
set_option maxHeartbeats 2000000 in
theorem Ng (S : Nat → Prop) (w : World) (v : Value) (names : List ByteArray) (h : ay S w v names) (hn : names.length ≤ 9223372036854775807) (hz : ∀ k, (gs names k).size ≤ 9223372036854775807) :
  Calls Tryz.prog 29 #[v] w fun e w' => e = .returned (.bool (vR names)) ∧ w = w' := by
 have HX := aa h
 have HZ := aa hz
 obtain ⟨p, cap, rfl, hcap, _⟩ := av.open h
 have HT : Hid (∀ k, k < names.length → sA names k = true → vR names = true) := fun k hk hb => by unfold vR; rw [AW (p := sA names) hk hb]; rfl
 have HF : Hid ((∀ k, k < names.length → sA names k = false) → vR names = decide (40 < names.length)) := fun hb => by unfold vR; rw [any_none (p := sA names) hb]; rfl
 have HK : Hid (∀ k, sA names k = (decide (20 < (gs names k).size) || (decide (9 < names.length) && (decide (names.length ≤ 32) || decide ((gs names k).size ≠ 0))))) := fun _ => rfl
 clear h hz
 generalize vR names = r at *
 go_enter Tryz.func29, Tryz.ntmps29
 go_wp2_with fail
 go_loop [3] (fun i => ∃ k : Nat, k ≤ names.length ∧ i = .int .i64 k ∧ Hid (∀ j, j < k → sA names j = false)) (fun i => names.length - (intOf i).toNat)
 case atStart => exact ⟨0, Nat.zero_le _, rfl, fun j hj => absurd hj (Nat.not_lt_zero _)⟩
 case round =>
  obtain ⟨k, hk, rfl, hd⟩ := hrel
  by_cases hlt : k < names.length
  ·obtain ⟨b, off, rfl, hc⟩ := cC HX.out hlt
   have i1 : (0 : Int) ≤ (k : Int) := by omega
   have i2 : (k : Int) < (names.length : Int) := by omega
   have AZ := HZ.out k
   have xH := aa (HT.out k hlt)
   have UH : Hid (sA names k = false → ∀ j, j < k + 1 → sA names j = false) := fun hx j hj => if e : j = k then by subst e; exact hx else hd.out j (by omega)
   have Qt := aa (HK.out k)
   have mh := aa (toList_nil (gs names k))
   generalize sA names k = gk at *
   generalize gs names k = y at *
   by_cases h1 : 20 < y.size
   ·have e0 : decide ((20 : Int) < (y.size : Int)) = true := decide_eq_true (by omega)
    have HQ := aa (xH.out (by rw [Qt.out, decide_eq_true h1]; rfl))
    clear h1
    go_wp2_with fail
    go_ret
    exact ⟨aO HQ.out.symm, rfl⟩
   ·have e0 : decide ((20 : Int) < (y.size : Int)) = false := decide_eq_false (by omega)
    by_cases h2 : 9 < names.length
    ·have e1 : decide ((9 : Int) < (names.length : Int)) = true := decide_eq_true (by omega)
     by_cases h3 : names.length ≤ 32
     ·have e2 : decide ((names.length : Int) ≤ 32) = true := decide_eq_true (by omega)
      have HQ := aa (xH.out (by rw [Qt.out, decide_eq_true h2, decide_eq_true h3]; simp))
      clear h1
      go_wp2_with fail
      go_ret
      exact ⟨aO HQ.out.symm, rfl⟩
     ·have e2 : decide ((names.length : Int) ≤ 32) = false := decide_eq_false (by omega)
      by_cases hs0 : y.size = 0
      ·have hs1 : y.toList = [] := mh.out.2 hs0
       have HQ := aa (UH.out (by rw [Qt.out, decide_eq_false h1, decide_eq_false h3, decide_eq_false (show ¬ (y.size ≠ 0) from fun q => q hs0)]; simp))
       clear h1 hs0
       go_wp2_with fail
       go_round
       case rel => exact ⟨k + 1, by omega, by go_num, HQ.out⟩
       case measure => simp [intOf]; omega
      ·have hs1 : (y.toList == []) = false := by
        rw [Bool.eq_false_iff]; intro e; exact hs0 (mh.out.1 (by simpa using e))
       have hs2 : (y.toList != []) = true := by
        rw [bne_iff_ne]; intro e; exact hs0 (mh.out.1 (by simpa using e))
       have HQ := aa (xH.out (by rw [Qt.out, decide_eq_true h2, decide_eq_true (show y.size ≠ 0 from hs0)]; simp))
       clear h1 hs0
       go_wp2_with fail
       go_ret
       exact ⟨aO HQ.out.symm, rfl⟩
    ·have e1 : decide ((9 : Int) < (names.length : Int)) = false := decide_eq_false (by omega)
     have HQ := aa (UH.out (by rw [Qt.out, decide_eq_false h1, decide_eq_false h2]; rfl))
     clear h1
     go_wp2_with fail
     go_round
     case rel => exact ⟨k + 1, by omega, by go_num, HQ.out⟩
     case measure => simp [intOf]; omega
  ·obtain rfl : k = names.length := by omega
   have HQ := aa (HF.out hd.out)
   clear hlt hk
   go_wp2_with fail
   go_ret
   exact ⟨aO (by rw [HQ.out, Bool.eq_iff_iff, decide_eq_true_eq, decide_eq_true_eq]; omega), rfl⟩
set_option maxHeartbeats 2000000 in
theorem EK (S : Nat → Prop) (w : World) (v : Value) (t : aA) (hT : aG S w v t) (hp : t.ps.length ≤ 9223372036854775807) (hn : t.ns.length ≤ 9223372036854775807) (hz : ∀ k, (gs t.ns k).size ≤ 9223372036854775807) :
  Calls Tryz.prog 28 #[v] w fun e w' => e = .returned (.bool (qG t 18)) ∧ Up w w' := by
 obtain ⟨P, N, rfl, hP, hN⟩ := hT
 have hu := Up.alloc w (.cells #[P, N] 39)
 have HG : Hid (Calls Tryz.prog 64 #[.agg #[P, N], .int .i64 18] (w.alloc (.cells #[P, N] 39)) fun e w' => e = .returned (.bool (qG t 18)) ∧ Up (w.alloc (.cells #[P, N] 39)) w') := Pp S _ _ t 18 (aG.keep ⟨_, _, rfl, hP, hN⟩ (hu.kept _)) hp hn hz
 have HU := aa hu
 clear hu hP hN hp hn hz
 go_enter Tryz.func28, Tryz.ntmps28
 go_wp2_with fail
 refine HG.out.mono ?_
 rintro e w2 ⟨rfl, aC⟩
 go_wp2_with fail
 go_ret
 exact ⟨rfl, HU.out.trans aC⟩
set_option maxHeartbeats 400000 in
theorem Qu (S : Nat → Prop) (w : World) (v : Value) (xs : List Int) (h : af S w v xs) (hn : xs.length ≤ 9223372036854775807) :
  Calls Tryz.prog 31 #[v] w fun e w' => e = .returned (.bool (decide (12 < xs.length))) ∧ w = w' := by
 obtain ⟨p, cap, rfl, hcap, _⟩ := av.open h
 clear h
 go_enter Tryz.func31, Tryz.ntmps31
 go_wp2_with fail
 go_ret
 exact ⟨aO (by rw [Bool.eq_iff_iff, decide_eq_true_eq, decide_eq_true_eq]; omega), rfl⟩
theorem Qv (S : Nat → Prop) (w : World) (v : Value) (xs : List Int) (h : af S w v xs) (hn : xs.length ≤ 9223372036854775807) : zK 31 #[] #[v] (.bool (decide (12 < xs.length))) w := by
 intro m
 refine (Qu S (w.drewN m) v xs (af.keep h ((Up.drewN w m).kept _)) hn).mono ?_
 rintro e w' ⟨rfl, rfl⟩
 exact ⟨rfl, m, rfl⟩
def ZZ (l : List (List Int)) : Bool := (List.range l.length).any fun k => decide (12 < (gl l k).length)
theorem Qw {l : List (List Int)} (h : ZZ l = false) (k : Nat) : (gl l k).length ≤ 12 := by
 by_cases hk : k < l.length
 ·have := of_decide_eq_false (any_false h hk); omega
 ·have : gl l k = [] := by simp [gl, show l.length ≤ k by omega]
  rw [this]; decide
theorem JR (S : Nat → Prop) (w : World) (v : Value) (l : List (List Int)) (h : aJ S w v l) (hn : l.length ≤ 1000000) (hr : ∀ k, (gl l k).length ≤ 9223372036854775807) :
  Calls Tryz.prog 25 #[v, .func (.func 31) #[] #[]] w fun e w' => e = .returned (.bool (ZZ l)) ∧ ∃ q, w' = w.drewN q := by
 obtain ⟨f, lB, hf2⟩ := h
 exact vI 31 #[] (enters_of Tryz.func31 (by kernel_rfl) rfl) S w v l.length f (fun k => decide (12 < (gl l k).length)) lB hn fun k hk => Qv S w _ _ (hf2 k hk) (hr k)
def Tu (w : World) (e : Ending) (w' : World) : Prop := Up w w' ∧ ∃ v, e = .returned v ∧ ay Any w' v lq
set_option maxHeartbeats 400000 in
theorem Z0 (w : World) : Calls Tryz.prog 106 #[] w (Tu w) := by
 have HU := aa (Up.alloc w (.cells #[.string ⟨#[65]⟩, .string ⟨#[66]⟩, .string ⟨#[67]⟩, .string ⟨#[68]⟩] 9))
 have HS := aa (Sb w #[.string ⟨#[65]⟩, .string ⟨#[66]⟩, .string ⟨#[67]⟩, .string ⟨#[68]⟩] 9 lq rfl 4 rfl)
 go_enter Tryz.func106, Tryz.ntmps106
 go_wp2_with fail
 go_ret
 exact ⟨HU.out, _, rfl, HS.out⟩
end
section
open Go.RowKit Go.Deep
end
end Go.Proofs.YtpnmblnahjjmhaaGreat
