/- Reference 34: Great, GreatTrees. -/
import Derived.Test.YthgabkgmkolobaaGreatQ1
import Derived.Test.YthgabkgmkolobaaGreatQ36
import Derived.Test.YthgabkgmkolobaaGreatQ38
import Derived.Test.YthgabkgmkolobaaGreatQ8
set_option maxRecDepth 100000
namespace Go.Proofs.YthgabkgmkolobaaGreat
open Go.RowKit Go.Deep
def Qs (names : List ByteArray) : Bool := (List.range names.length).any fun i => decide (20 < (gs names i).size)
def xC (n : Nat) : Bool := (decide (6 < n) && decide (n ≤ 4096)) || decide (4098 < n)
def Qt (states : List (List Int)) : Bool := (List.range states.length).any fun i => xC (gl states i).length
def zB (n m : Nat) : Bool := (decide (5 < n) && decide (n ≤ 7)) || decide (10 < n) || decide (10 < m)
def gZ (names : List ByteArray) (states : List (List Int)) : Bool := Qs names || Qt states || zB names.length states.length
structure Nj (names : List ByteArray) (states : List (List Int)) : Prop where
 nm : ∀ k, (gs names k).size ≤ 20
 row : ∀ k, (gl states k).length ≤ 6 ∨ (4096 < (gl states k).length ∧ (gl states k).length ≤ 4098)
 n5 : names.length ≤ 5 ∨ (7 < names.length ∧ names.length ≤ 10)
 m10 : states.length ≤ 10
theorem Dz {names : List ByteArray} {states : List (List Int)} (h : gZ names states = false) : Nj names states := by
 unfold gZ at h
 rw [Bool.or_eq_false_iff, Bool.or_eq_false_iff] at h
 obtain ⟨⟨h1, h2⟩, h3⟩ := h
 refine ⟨fun k => ?_, fun k => ?_, ?_, ?_⟩
 ·by_cases hk : k < names.length
  ·have := of_decide_eq_false (any_false h1 hk)
   omega
  ·have : gs names k = ByteArray.empty := by simp [gs, hk]
   rw [this]; exact Nat.zero_le _
 ·by_cases hk : k < states.length
  ·have := any_false h2 hk
   unfold xC at this
   simp at this
   omega
  ·have : gl states k = [] := by simp [gl, hk]
   rw [this]; exact .inl (Nat.zero_le _)
 ·unfold zB at h3
  simp at h3
  omega
 ·unfold zB at h3
  simp at h3
  omega
set_option maxHeartbeats 2000000 in
theorem Fa (S T : Nat → Prop) (w : World) (v vs : Value) (names : List ByteArray) (states : List (List Int)) (h : ah S w v names) (hS : aU T w vs states) (hn : names.length ≤ 9223372036854775807) (hz : ∀ k, (gs names k).size ≤ 9223372036854775807) (hm : states.length ≤ 9223372036854775807) (hr : ∀ k, (gl states k).length ≤ 9223372036854775807) :
  Calls Tryz.prog 59 #[v, vs] w fun e w' => e = .returned (.bool (gZ names states)) ∧ w = w' := by
 obtain ⟨p, cap, rfl, hcap, -⟩ := aB.open h
 have h : ah S w (.slice p names.length cap) names := h
 obtain ⟨sp, sc, rfl, -, -⟩ := eR hS
 have HG : Hid (gZ names states = (Qs names || Qt states || zB names.length states.length)) := rfl
 have HGN : Hid (Qs names = (List.range names.length).any fun i => decide (20 < (gs names i).size)) := rfl
 have nO : Hid (Qt states = (List.range states.length).any fun i => xC (gl states i).length) := rfl
 have HN := aa h
 have HS := aa hS
 have HZ := aa hz
 have HR := aa hr
 clear h hS hz hr
 go_enter Tryz.func59, Tryz.ntmps59
 go_wp2_with fail
 go_loop [5] (fun i => ∃ k : Nat, k ≤ names.length ∧ i = .int .i64 k ∧ Hid (∀ j, j < k → decide (20 < (gs names j).size) = false)) (fun i => names.length - (intOf i).toNat)
 case atStart => exact ⟨0, Nat.zero_le _, rfl, fun j hj => absurd hj (Nat.not_lt_zero _)⟩
 case round =>
  obtain ⟨k, hk, rfl, hd⟩ := hrel
  by_cases hlt : k < names.length
  ·obtain ⟨b, off, rfl, hc⟩ := bz HN.out hlt
   have qg : Hid (20 < (gs names k).size → Qs names = true) := fun h1 => by rw [HGN.out]; exact nv hlt (decide_eq_true h1)
   have HX : Hid (¬ 20 < (gs names k).size → ∀ j, j < k + 1 → decide (20 < (gs names j).size) = false) := fun h1 j hj => if e : j = k then by subst e; exact decide_eq_false h1 else hd.out j (by omega)
   have hsz := HZ.out k
   generalize gs names k = nm at *
   by_cases h20 : 20 < nm.size
   ·have HF : Hid (gZ names states = true) := by unfold Hid; rw [HG.out, qg.out h20]; rfl
    go_wp2_with fail
    go_ret
    exact ⟨aL HF.out.symm, rfl⟩
   ·have uS := aa (HX.out h20)
    go_wp2_with fail
    go_round
    case rel => exact ⟨k + 1, by omega, by go_num, uS.out⟩
    case measure => simp [intOf]; omega
  ·obtain rfl : k = names.length := by omega
   have HNF : Hid (Qs names = false) := by unfold Hid; rw [HGN.out]; exact any_none hd.out
   clear hd hlt hk
   go_wp2_with fail
   go_loop [6, 7] (fun i _ => ∃ k : Nat, k ≤ states.length ∧ i = .int .i64 k ∧ Hid (∀ j, j < k → xC (gl states j).length = false)) (fun i _ => states.length - (intOf i).toNat)
   case atStart => exact ⟨0, Nat.zero_le _, rfl, fun j hj => absurd hj (Nat.not_lt_zero _)⟩
   case round =>
    obtain ⟨k, hk, rfl, hd⟩ := hrel
    by_cases hlt : k < states.length
    ·obtain ⟨b, off, r0, r1, rfl, hc, -⟩ := iL HS.out hlt
     have qg : Hid (xC (gl states k).length = true → Qt states = true) := fun h1 => by rw [nO.out]; exact nv hlt h1
     have HX : Hid (xC (gl states k).length = false → ∀ j, j < k + 1 → xC (gl states j).length = false) := fun h1 j hj => if e : j = k then by subst e; exact h1 else hd.out j (by omega)
     have hsz := HR.out k
     have Lp : Hid (xC (gl states k).length = ((decide (6 < (gl states k).length) && decide ((gl states k).length ≤ 4096)) || decide (4098 < (gl states k).length))) := rfl
     generalize (gl states k).length = m at *
     have key : (6 < m ∧ m ≤ 4096 ∧ xC m = true) ∨ (6 < m ∧ 4096 < m ∧ 4098 < m ∧ xC m = true) ∨ (6 < m ∧ 4096 < m ∧ m ≤ 4098 ∧ xC m = false) ∨ (m ≤ 6 ∧ xC m = false) := by
      rw [Lp.out]
      by_cases q1 : 6 < m <;> by_cases q2 : m ≤ 4096 <;> by_cases q3 : 4098 < m <;> simp [q1, q2, q3] <;> omega
     rcases key with ⟨q1, q2, q⟩ | ⟨q1, q2, q3, q⟩ | ⟨q1, q2, q3, q⟩ | ⟨q1, q⟩
     ·have HF : Hid (gZ names states = true) := by unfold Hid; rw [HG.out, qg.out q]; simp
      have d1 : decide (6 < (m : Int)) = true := by simp; omega
      have d2 : decide ((m : Int) ≤ 4096) = true := by simp; omega
      clear qg HX Lp q
      go_wp2_with fail
      all_goals (go_ret; exact ⟨aL HF.out.symm, rfl⟩)
     ·have HF : Hid (gZ names states = true) := by unfold Hid; rw [HG.out, qg.out q]; simp
      have d1 : decide (6 < (m : Int)) = true := by simp; omega
      have d2 : decide ((m : Int) ≤ 4096) = false := by simp; omega
      have d3 : decide (4098 < (m : Int)) = true := by simp; omega
      clear qg HX Lp q
      go_wp2_with fail
      all_goals (go_ret; exact ⟨aL HF.out.symm, rfl⟩)
     ·have uS := aa (HX.out q)
      have d1 : decide (6 < (m : Int)) = true := by simp; omega
      have d2 : decide ((m : Int) ≤ 4096) = false := by simp; omega
      have d3 : decide (4098 < (m : Int)) = false := by simp; omega
      clear qg HX Lp q
      go_wp2_with fail
      go_round
      case rel => exact ⟨k + 1, by omega, by go_num, uS.out⟩
      case measure => simp [intOf]; omega
     ·have uS := aa (HX.out q)
      have d1 : decide (6 < (m : Int)) = false := by simp; omega
      have d3 : decide (4098 < (m : Int)) = false := by simp; omega
      clear qg HX Lp q
      go_wp2_with fail
      go_round
      case rel => exact ⟨k + 1, by omega, by go_num, uS.out⟩
      case measure => simp [intOf]; omega
    ·obtain rfl : k = states.length := by omega
     have Cv : Hid (Qt states = false) := by unfold Hid; rw [nO.out]; exact any_none hd.out
     have HF : Hid (gZ names states = zB names.length states.length) := by unfold Hid; rw [HG.out, HNF.out, Cv.out]; simp
     have HT : Hid (zB names.length states.length = ((decide (5 < names.length) && decide (names.length ≤ 7)) || decide (10 < names.length) || decide (10 < states.length))) := rfl
     clear hd hlt hk HG HGN nO HNF Cv HN HS HZ HR
     generalize names.length = n at *
     generalize states.length = m at *
     by_cases q1 : 5 < n
     ·by_cases q2 : n ≤ 7
      ·have HB : Hid (gZ names states = true) := by unfold Hid; rw [HF.out, HT.out]; simp [q1, q2]
       go_wp2_with fail
       all_goals (go_ret; refine ⟨aL ?_, rfl⟩; first | (rw [HB.out]; done) | (rw [HB.out]; simp; done) | (rw [HB.out]; simp; omega))
      ·by_cases q3 : 10 < n
       ·have HB : Hid (gZ names states = true) := by unfold Hid; rw [HF.out, HT.out]; simp [q3]
        go_wp2_with fail
        all_goals (go_ret; refine ⟨aL ?_, rfl⟩; first | (rw [HB.out]; done) | (rw [HB.out]; simp; done) | (rw [HB.out]; simp; omega))
       ·by_cases q4 : 10 < m
        ·have HB : Hid (gZ names states = true) := by unfold Hid; rw [HF.out, HT.out]; simp [q4]
         go_wp2_with fail
         all_goals (go_ret; refine ⟨aL ?_, rfl⟩; first | (rw [HB.out]; done) | (rw [HB.out]; simp; done) | (rw [HB.out]; simp; omega))
        ·have HB : Hid (gZ names states = false) := by unfold Hid; rw [HF.out, HT.out]; simp [q2, q3, q4]
         go_wp2_with fail
         all_goals (go_ret; refine ⟨aL ?_, rfl⟩; first | (rw [HB.out]; done) | (rw [HB.out]; simp; done) | (rw [HB.out]; simp; omega))
     ·have q3 : ¬ 10 < n := by omega
      by_cases q4 : 10 < m
      ·have HB : Hid (gZ names states = true) := by unfold Hid; rw [HF.out, HT.out]; simp [q4]
       go_wp2_with fail
       all_goals (go_ret; refine ⟨aL ?_, rfl⟩; first | (rw [HB.out]; done) | (rw [HB.out]; simp; done) | (rw [HB.out]; simp; omega))
      ·have HB : Hid (gZ names states = false) := by unfold Hid; rw [HF.out, HT.out]; simp [q1, q3, q4]
       go_wp2_with fail
       all_goals (go_ret; refine ⟨aL ?_, rfl⟩; first | (rw [HB.out]; done) | (rw [HB.out]; simp; done) | (rw [HB.out]; simp; omega))
end Go.Proofs.YthgabkgmkolobaaGreat
