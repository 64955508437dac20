/- The helpers of the statements on layer 32: GreatNames, GreatTree, Great, small, four. The contract of layer 31's reference's read. -/
import Derived.Test.YtpnmblnahjjmhaaGreatQ1
import Derived.Test.YtpnmblnahjjmhaaGreatQ36
import Derived.Test.YtpnmblnahjjmhaaGreatQ26
import Derived.Test.YtpnmblnahjjmhaaGreatQ16
import Derived.Test.YtpnmblnahjjmhaaGreatQ44
import Derived.Test.YtpnmblnahjjmhaaGreatQ19
import Derived.Test.YtpnmblnahjjmhaaGreatQ5
namespace Go.Proofs.YtpnmblnahjjmhaaGreat
set_option maxRecDepth 100000
section
open Go.RowKit Go.Deep
def s6 (names : List ByteArray) (k : Nat) : Bool := decide (20 < (gs names k).size) || (decide (9 < names.length) && (decide (names.length ≤ 32) || decide ((gs names k).size ≠ 0)))
def wB (names : List ByteArray) : Bool := (List.range names.length).any (s6 names) || decide (40 < names.length)
theorem Qw {names : List ByteArray} (h : wB names = false) : names.length ≤ 40 ∧ ∀ k, (gs names k).size ≤ 20 := by
 unfold wB at h
 rw [Bool.or_eq_false_iff] at h
 refine ⟨by have := of_decide_eq_false h.2; omega, fun k => ?_⟩
 by_cases hk : k < names.length
 ·have h1 := any_false h.1 hk
  unfold s6 at h1
  rw [Bool.or_eq_false_iff] at h1
  have := of_decide_eq_false h1.1; omega
 ·have : gs names k = ByteArray.empty := by simp [gs, show names.length ≤ k by omega]
  rw [this]; decide
set_option maxHeartbeats 2000000 in
theorem Nh (S : Nat → Prop) (w : World) (v : Value) (names : List ByteArray) (h : aG S w v names) (hn : names.length ≤ 9223372036854775807) (hz : ∀ k, (gs names k).size ≤ 9223372036854775807) :
  Calls Tryz.prog 29 #[v] w fun e w' => e = .returned (.bool (wB names)) ∧ w = w' := by
 have HX := ag h
 have HZ := ag hz
 obtain ⟨p, cap, rfl, hcap, _⟩ := aC.open h
 have HT : Hid (∀ k, k < names.length → s6 names k = true → wB names = true) := fun k hk hb => by unfold wB; rw [Bd (p := s6 names) hk hb]; rfl
 have HF : Hid ((∀ k, k < names.length → s6 names k = false) → wB names = decide (40 < names.length)) := fun hb => by unfold wB; rw [any_none (p := s6 names) hb]; rfl
 have HK : Hid (∀ k, s6 names k = (decide (20 < (gs names k).size) || (decide (9 < names.length) && (decide (names.length ≤ 32) || decide ((gs names k).size ≠ 0))))) := fun _ => rfl
 clear h hz
 generalize wB names = r at *
 aq Tryz.func29, Tryz.ntmps29
 aa fail
 dD [3] (fun i => ∃ k : Nat, k ≤ names.length ∧ i = .int .i64 k ∧ Hid (∀ j, j < k → s6 names j = false)) (fun i => names.length - (intOf i).toNat)
 case atStart => exact ⟨0, Nat.zero_le _, rfl, fun j hj => absurd hj (Nat.not_lt_zero _)⟩
 case round =>
  obtain ⟨k, hk, rfl, hd⟩ := bE
  by_cases hlt : k < names.length
  ·obtain ⟨b, off, rfl, hc⟩ := dh HX.out hlt
   have i1 : (0 : Int) ≤ (k : Int) := by omega
   have i2 : (k : Int) < (names.length : Int) := by omega
   have Bg := HZ.out k
   have xY := ag (HT.out k hlt)
   have UF : Hid (s6 names k = false → ∀ j, j < k + 1 → s6 names j = false) := fun hx j hj => if e : j = k then by subst e; exact hx else hd.out j (by omega)
   have Qx := ag (HK.out k)
   have nh := ag (toList_nil (gs names k))
   generalize s6 names k = gk at *
   generalize gs names k = y at *
   by_cases h1 : 20 < y.size
   ·have e0 : decide ((20 : Int) < (y.size : Int)) = true := decide_eq_true (by omega)
    have HQ := ag (xY.out (by rw [Qx.out, decide_eq_true h1]; rfl))
    clear h1
    aa fail
    ax
    exact ⟨aZ HQ.out.symm, rfl⟩
   ·have e0 : decide ((20 : Int) < (y.size : Int)) = false := decide_eq_false (by omega)
    by_cases h2 : 9 < names.length
    ·have e1 : decide ((9 : Int) < (names.length : Int)) = true := decide_eq_true (by omega)
     by_cases h3 : names.length ≤ 32
     ·have e2 : decide ((names.length : Int) ≤ 32) = true := decide_eq_true (by omega)
      have HQ := ag (xY.out (by rw [Qx.out, decide_eq_true h2, decide_eq_true h3]; simp))
      clear h1
      aa fail
      ax
      exact ⟨aZ HQ.out.symm, rfl⟩
     ·have e2 : decide ((names.length : Int) ≤ 32) = false := decide_eq_false (by omega)
      by_cases hs0 : y.size = 0
      ·have hs1 : y.toList = [] := nh.out.2 hs0
       have HQ := ag (UF.out (by rw [Qx.out, decide_eq_false h1, decide_eq_false h3, decide_eq_false (show ¬ (y.size ≠ 0) from fun q => q hs0)]; simp))
       clear h1 hs0
       aa fail
       cz
       case rel => exact ⟨k + 1, by omega, by aH, HQ.out⟩
       case measure => simp [intOf]; omega
      ·have hs1 : (y.toList == []) = false := by
        rw [Bool.eq_false_iff]; intro e; exact hs0 (nh.out.1 (by simpa using e))
       have hs2 : (y.toList != []) = true := by
        rw [bne_iff_ne]; intro e; exact hs0 (nh.out.1 (by simpa using e))
       have HQ := ag (xY.out (by rw [Qx.out, decide_eq_true h2, decide_eq_true (show y.size ≠ 0 from hs0)]; simp))
       clear h1 hs0
       aa fail
       ax
       exact ⟨aZ HQ.out.symm, rfl⟩
    ·have e1 : decide ((9 : Int) < (names.length : Int)) = false := decide_eq_false (by omega)
     have HQ := ag (UF.out (by rw [Qx.out, decide_eq_false h1, decide_eq_false h2]; rfl))
     clear h1
     aa fail
     cz
     case rel => exact ⟨k + 1, by omega, by aH, HQ.out⟩
     case measure => simp [intOf]; omega
  ·obtain rfl : k = names.length := by omega
   have HQ := ag (HF.out hd.out)
   clear hlt hk
   aa fail
   ax
   exact ⟨aZ (by rw [HQ.out, Bool.eq_iff_iff, decide_eq_true_eq, decide_eq_true_eq]; omega), rfl⟩
set_option maxHeartbeats 2000000 in
theorem ER (S : Nat → Prop) (w : World) (v : Value) (t : aJ) (hT : aO S w v t) (hp : t.ps.length ≤ 9223372036854775807) (hn : t.ns.length ≤ 9223372036854775807) (hz : ∀ k, (gs t.ns k).size ≤ 9223372036854775807) :
  Calls Tryz.prog 28 #[v] w fun e w' => e = .returned (.bool (rC t 18)) ∧ Up w w' := by
 obtain ⟨P, N, rfl, hP, hN⟩ := hT
 have hu := Up.alloc w (.cells #[P, N] 39)
 have HG : Hid (Calls Tryz.prog 64 #[.agg #[P, N], .int .i64 18] (w.alloc (.cells #[P, N] 39)) fun e w' => e = .returned (.bool (rC t 18)) ∧ Up (w.alloc (.cells #[P, N] 39)) w') := Pr S _ _ t 18 (aO.keep ⟨_, _, rfl, hP, hN⟩ (hu.kept _)) hp hn hz
 have HU := ag hu
 clear hu hP hN hp hn hz
 aq Tryz.func28, Tryz.ntmps28
 aa fail
 refine HG.out.mono ?_
 rintro e w2 ⟨rfl, aL⟩
 aa fail
 ax
 exact ⟨rfl, HU.out.trans aL⟩
set_option maxHeartbeats 400000 in
theorem Qy (S : Nat → Prop) (w : World) (v : Value) (xs : List Int) (h : an S w v xs) (hn : xs.length ≤ 9223372036854775807) :
  Calls Tryz.prog 31 #[v] w fun e w' => e = .returned (.bool (decide (12 < xs.length))) ∧ w = w' := by
 obtain ⟨p, cap, rfl, hcap, _⟩ := aC.open h
 clear h
 aq Tryz.func31, Tryz.ntmps31
 aa fail
 ax
 exact ⟨aZ (by rw [Bool.eq_iff_iff, decide_eq_true_eq, decide_eq_true_eq]; omega), rfl⟩
theorem Qz (S : Nat → Prop) (w : World) (v : Value) (xs : List Int) (h : an S w v xs) (hn : xs.length ≤ 9223372036854775807) : z7 31 #[] #[v] (.bool (decide (12 < xs.length))) w := by
 intro m
 refine (Qy S (w.drewN m) v xs (an.keep h ((Up.drewN w m).kept _)) hn).mono ?_
 rintro e w' ⟨rfl, rfl⟩
 exact ⟨rfl, m, rfl⟩
def ZU (l : List (List Int)) : Bool := (List.range l.length).any fun k => decide (12 < (gl l k).length)
theorem QA {l : List (List Int)} (h : ZU l = false) (k : Nat) : (gl l k).length ≤ 12 := by
 by_cases hk : k < l.length
 ·have := of_decide_eq_false (any_false h hk); omega
 ·have : gl l k = [] := by simp [gl, show l.length ≤ k by omega]
  rw [this]; decide
theorem JQ (S : Nat → Prop) (w : World) (v : Value) (l : List (List Int)) (h : aR S w v l) (hn : l.length ≤ 1000000) (hr : ∀ k, (gl l k).length ≤ 9223372036854775807) :
  Calls Tryz.prog 25 #[v, .func (.func 31) #[] #[]] w fun e w' => e = .returned (.bool (ZU l)) ∧ ∃ q, w' = w.drewN q := by
 obtain ⟨f, mB, wQ⟩ := h
 exact vZ 31 #[] (enters_of Tryz.func31 (by af) rfl) S w v l.length f (fun k => decide (12 < (gl l k).length)) mB hn fun k hk => Qz S w _ _ (wQ k hk) (hr k)
def Tr (w : World) (e : Ending) (w' : World) : Prop := Up w w' ∧ ∃ v, e = .returned v ∧ aG Any w' v mu
set_option maxHeartbeats 400000 in
theorem ZV (w : World) : Calls Tryz.prog 106 #[] w (Tr w) := by
 have HU := ag (Up.alloc w (.cells #[.string ⟨#[65]⟩, .string ⟨#[66]⟩, .string ⟨#[67]⟩, .string ⟨#[68]⟩] 9))
 have HS := ag (Sb w #[.string ⟨#[65]⟩, .string ⟨#[66]⟩, .string ⟨#[67]⟩, .string ⟨#[68]⟩] 9 mu rfl 4 rfl)
 aq Tryz.func106, Tryz.ntmps106
 aa fail
 ax
 exact ⟨HU.out, _, rfl, HS.out⟩
end
section
open Go.RowKit Go.Deep
end
end Go.Proofs.YtpnmblnahjjmhaaGreat
