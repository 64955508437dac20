/- The plain law of SharederrorMembers: what groups hold. Contracts: Great of layer 35, fine, Support, Original, Significant. Contracts: Support, Original, Significant of sharederror. -/
import Derived.Test.YtkfndaebmbnmaaaQ6
import Derived.Test.YtkfndaebmbnmaaaQ19
import Derived.Test.YtkfndaebmbnmaaaQ7
import Derived.Test.YtkfndaebmbnmaaaQ4
namespace Go.Proofs.Ytkfndaebmbnmaaa
/-- A group that Groups makes. -/
structure GrpIs (xs : List (List Int)) (og : List Int) (u s : Nat) (g : Grp) : Prop where
  un : g.un = u
  st : g.st = s
  src : g.src = srcK xs u s xs.length
  u_lt : u < og.length
  s_lt : s < 16
  og0 : 0 ≤ gi og u
  ne : (s : Int) ≠ gi og u
  some : g.src ≠ []
theorem mem_grp1 {xs : List (List Int)} {og : List Int} {u s : Nat} {g : Grp} (h : g ∈ grp1 xs og u s) : g = ⟨u, s, srcK xs u s xs.length⟩ ∧ (s : Int) ≠ gi og u ∧ srcK xs u s xs.length ≠ [] := by
  unfold grp1 at h
  split at h
  · rename_i hc
    exact ⟨by simpa using h, hc.1, hc.2⟩
  · cases h
theorem mem_unK {xs : List (List Int)} {og : List Int} {g : Grp} (h : g ∈ unK xs og og.length) : ∃ u s, GrpIs xs og u s g := by
  unfold unK at h
  obtain ⟨u, hu, h⟩ := List.mem_flatMap.1 h
  unfold unG at h
  split at h
  · cases h
  · rename_i h0
    unfold stK at h
    obtain ⟨s, hs, h⟩ := List.mem_flatMap.1 h
    obtain ⟨rfl, h1, h2⟩ := mem_grp1 h
    exact ⟨u, s, rfl, rfl, rfl, List.mem_range.1 hu, List.mem_range.1 hs, by omega, h1, h2⟩
theorem mem_srcK {xs : List (List Int)} {u : Nat} {s : Int} {k : Nat} {x : Int} : x ∈ srcK xs u s k ↔ ∃ i : Nat, x = i ∧ i < k ∧ gi (gl xs i) u = s := by
  unfold srcK
  rw [List.mem_map]
  constructor
  · rintro ⟨i, hi, rfl⟩
    obtain ⟨h1, h2⟩ := List.mem_filter.1 hi
    exact ⟨i, rfl, List.mem_range.1 h1, by simpa using h2⟩
  · rintro ⟨i, rfl, h1, h2⟩
    exact ⟨i, List.mem_filter.2 ⟨List.mem_range.2 h1, by simpa using h2⟩, rfl⟩
def gLt (a b : Grp) : Prop := a.un < b.un ∨ (a.un = b.un ∧ a.st < b.st)
theorem stK_sorted (xs : List (List Int)) (og : List Int) (u : Nat) : ∀ s, (stK xs og u s).Pairwise gLt ∧ ∀ g ∈ stK xs og u s, g.un = u ∧ g.st < s
  | 0 => ⟨List.Pairwise.nil, fun g h => by cases h⟩
  | s + 1 => by
    obtain ⟨ih, ih2⟩ := stK_sorted xs og u s
    rw [stK_succ]
    refine ⟨List.pairwise_append.2 ⟨ih, ?_, fun a ha b hb => ?_⟩, fun g hg => ?_⟩
    · unfold grp1; split <;> simp
    · obtain ⟨rfl, _⟩ := mem_grp1 hb
      obtain ⟨h1, h2⟩ := ih2 a ha
      exact .inr ⟨h1, h2⟩
    · rcases List.mem_append.1 hg with h | h
      · obtain ⟨h1, h2⟩ := ih2 g h; exact ⟨h1, by omega⟩
      · obtain ⟨rfl, _⟩ := mem_grp1 h; exact ⟨rfl, by show (s : Int) < ((s + 1 : Nat) : Int); omega⟩
theorem unK_sorted (xs : List (List Int)) (og : List Int) : ∀ k, (unK xs og k).Pairwise gLt ∧ ∀ g ∈ unK xs og k, g.un < k
  | 0 => ⟨List.Pairwise.nil, fun g h => by cases h⟩
  | k + 1 => by
    obtain ⟨ih, ih2⟩ := unK_sorted xs og k
    rw [unK_succ]
    have hG : (unG xs og k).Pairwise gLt ∧ ∀ g ∈ unG xs og k, g.un = k := by
      unfold unG
      split
      · exact ⟨List.Pairwise.nil, fun g h => by cases h⟩
      · exact ⟨(stK_sorted xs og k 16).1, fun g h => ((stK_sorted xs og k 16).2 g h).1⟩
    refine ⟨List.pairwise_append.2 ⟨ih, hG.1, fun a ha b hb => .inl ?_⟩, fun g hg => ?_⟩
    · rw [hG.2 b hb]; exact ih2 a ha
    · rcases List.mem_append.1 hg with h | h
      · have := ih2 g h; omega
      · have := hG.2 g h; omega
theorem gg_mem {l : List Grp} {k : Nat} (h : k < l.length) : gg l k ∈ l := by simp [gg, h]
theorem gg_lt {l : List Grp} (h : l.Pairwise gLt) {j : Nat} (hj : j + 1 < l.length) : gLt (gg l j) (gg l (j + 1)) := by
  have h1 := List.pairwise_iff_getElem.1 h j (j + 1) (by omega) hj (Nat.lt_succ_self _)
  simpa [gg, hj, show j < l.length by omega] using h1
/-- Group g is one of place p, with source s. -/
def hasB (p s : Nat) (g : Grp) : Bool := decide (g.un = p) && decide ((s : Int) ∈ g.src)
/-- How many of the first k groups are. -/
def cntK (l : List Grp) (p s : Nat) : Nat → Nat
  | 0 => 0
  | k + 1 => cntK l p s k + if hasB p s (gg l k) then 1 else 0
theorem cntK_eq (l : List Grp) (p s : Nat) : ∀ k, k ≤ l.length → cntK l p s k = (l.take k).countP (hasB p s)
  | 0, _ => rfl
  | k + 1, hk => by
    have ih := cntK_eq l p s k (by omega)
    have hl : k < l.length := by omega
    have e : l.take (k + 1) = l.take k ++ [gg l k] := by
      rw [List.take_succ_eq_append_getElem hl]; simp [gg, hl]
    show cntK l p s k + _ = _
    rw [e, List.countP_append, ih]
    congr 1
    simp [List.countP_cons]
theorem cnt_grp1 (xs : List (List Int)) (og : List Int) (u t p s : Nat) (hs : s < xs.length) :
    (grp1 xs og u t).countP (hasB p s) = if u = p ∧ gi (gl xs s) u = t ∧ (t : Int) ≠ gi og u then 1 else 0 := by
  unfold grp1
  by_cases h1 : (t : Int) ≠ gi og u ∧ srcK xs u t xs.length ≠ []
  · rw [if_pos h1]
    have e : hasB p s ⟨u, t, srcK xs u t xs.length⟩ = decide (u = p ∧ gi (gl xs s) u = t ∧ (t : Int) ≠ gi og u) := by
      unfold hasB
      rw [Bool.eq_iff_iff]
      simp only [Bool.and_eq_true, decide_eq_true_eq, mem_srcK]
      constructor
      · rintro ⟨h2, i, h3, h4, h5⟩
        have : s = i := by omega
        subst this
        exact ⟨by omega, h5, h1.1⟩
      · rintro ⟨h2, h3, _⟩
        exact ⟨by omega, s, rfl, hs, h3⟩
    rw [List.countP_cons, List.countP_nil, e]
    by_cases hc : u = p ∧ gi (gl xs s) u = t ∧ (t : Int) ≠ gi og u
    · rw [if_pos hc, decide_eq_true hc]; rfl
    · rw [if_neg hc, decide_eq_false hc]; rfl
  · rw [if_neg h1, if_neg]
    · rfl
    · rintro ⟨_, h3, h4⟩
      refine h1 ⟨h4, fun e => ?_⟩
      have : (s : Int) ∈ srcK xs u t xs.length := mem_srcK.2 ⟨s, rfl, hs, h3⟩
      rw [e] at this; cases this
theorem cnt_stK (xs : List (List Int)) (og : List Int) (u p s : Nat) (hs : s < xs.length) : ∀ t, (stK xs og u t).countP (hasB p s) = if u = p ∧ 0 ≤ gi (gl xs s) u ∧ gi (gl xs s) u < t ∧ gi (gl xs s) u ≠ gi og u then 1 else 0
  | 0 => by
    rw [if_neg (by rintro ⟨_, h1, h2, _⟩; omega)]; rfl
  | t + 1 => by
    rw [stK_succ, List.countP_append, cnt_stK xs og u p s hs t, cnt_grp1 xs og u t p s hs]
    by_cases h1 : u = p
    · by_cases h2 : gi (gl xs s) u = t
      · by_cases h3 : (t : Int) ≠ gi og u
        · rw [if_neg (by omega), if_pos ⟨h1, h2, h3⟩, if_pos ⟨h1, by omega, by omega, by omega⟩]
        · rw [if_neg (by omega), if_neg (by omega), if_neg (by omega)]
      · rw [if_neg (c := u = p ∧ gi (gl xs s) u = t ∧ (t : Int) ≠ gi og u) (by omega), Nat.add_zero]
        by_cases h4 : 0 ≤ gi (gl xs s) u ∧ gi (gl xs s) u < t ∧ gi (gl xs s) u ≠ gi og u
        · rw [if_pos ⟨h1, h4⟩, if_pos ⟨h1, by omega, by omega, by omega⟩]
        · rw [if_neg (by omega), if_neg (by omega)]
    · rw [if_neg (by omega), if_neg (by omega), if_neg (by omega)]
theorem cnt_unK (xs : List (List Int)) (og : List Int) (p s : Nat) (hs : s < xs.length) : ∀ k, (unK xs og k).countP (hasB p s) = if p < k ∧ 0 ≤ gi og p ∧ 0 ≤ gi (gl xs s) p ∧ gi (gl xs s) p < 16 ∧ gi (gl xs s) p ≠ gi og p then 1 else 0
  | 0 => by rw [if_neg (by omega)]; rfl
  | k + 1 => by
    rw [unK_succ, List.countP_append, cnt_unK xs og p s hs k]
    have hG : (unG xs og k).countP (hasB p s) = if k = p ∧ 0 ≤ gi og k ∧ 0 ≤ gi (gl xs s) k ∧ gi (gl xs s) k < 16 ∧ gi (gl xs s) k ≠ gi og k then 1 else 0 := by
      unfold unG
      by_cases h0 : gi og k < 0
      · rw [if_pos h0, if_neg (by omega)]; rfl
      · rw [if_neg h0, cnt_stK xs og k p s hs 16]
        by_cases h1 : k = p ∧ 0 ≤ gi (gl xs s) k ∧ gi (gl xs s) k < (16 : Nat) ∧ gi (gl xs s) k ≠ gi og k
        · rw [if_pos h1, if_pos (by omega)]
        · rw [if_neg h1, if_neg (by omega)]
    rw [hG]
    by_cases h1 : p = k
    · subst h1
      rw [if_neg (by omega), Nat.zero_add]
      by_cases h2 : 0 ≤ gi og p ∧ 0 ≤ gi (gl xs s) p ∧ gi (gl xs s) p < 16 ∧ gi (gl xs s) p ≠ gi og p
      · rw [if_pos ⟨rfl, h2⟩, if_pos ⟨by omega, h2⟩]
      · rw [if_neg (fun h => h2 h.2), if_neg (fun h => h2 h.2)]
    · rw [if_neg (c := k = p ∧ _) (fun h => h1 h.1.symm), Nat.add_zero]
      by_cases h2 : p < k ∧ 0 ≤ gi og p ∧ 0 ≤ gi (gl xs s) p ∧ gi (gl xs s) p < 16 ∧ gi (gl xs s) p ≠ gi og p
      · rw [if_pos h2, if_pos ⟨by omega, h2.2⟩]
      · rw [if_neg h2, if_neg (fun h => h2 ⟨by omega, h.2⟩)]
theorem gi_range {st : List Int} {lo hi : Int} (h : stBad st lo hi = false) {k : Nat} (hk : k < st.length) : lo ≤ gi st k ∧ gi st k < hi := by
  have := any_false (p := fun k => decide (gi st k < lo) || decide (hi ≤ gi st k)) h hk
  simp only [Bool.or_eq_false_iff, decide_eq_false_iff_not] at this
  omega
theorem agRow_ok {xs : List (List Int)} (h : agErr xs = 0) {k : Nat} (hk : k < xs.length) : stBad (gl xs k) (-1) 16 = false := by
  unfold agErr at h
  split at h
  · cases h
  · split at h
    · cases h
    · have h1 := firstNZ_eq_zero h k hk
      unfold agRow at h1
      split at h1
      · cases h1
      · split at h1
        · cases h1
        · rename_i h2; simpa using h2
theorem grErr_zero {xs : List (List Int)} {og : List Int} (h : grErr xs og = 0) : agErr xs = 0 ∧ og.length = plN xs ∧ stBad og (-1) 16 = false := by
  unfold grErr at h
  split at h
  · omega
  · split at h
    · cases h
    · split at h
      · cases h
      · rename_i h1 h2 h3
        exact ⟨by omega, by omega, by simpa using h3⟩
/-- A source is in just one group of a place, or in none. -/
theorem members {xs : List (List Int)} {og : List Int} (h : grErr xs og = 0) {s p : Nat} (hs : s < xs.length) (hp : p < (gl xs s).length) :
    cntK (groupsN xs og) p s (groupsN xs og).length = if 0 ≤ gi (gl xs s) p ∧ 0 ≤ gi og p ∧ gi (gl xs s) p ≠ gi og p then 1 else 0 := by
  obtain ⟨ha, hl, hb⟩ := grErr_zero h
  have h1 := gi_range (agRow_ok ha hs) hp
  have h2 := agRow_len ha hs
  rw [cntK_eq _ _ _ _ (Nat.le_refl _), List.take_length]
  unfold groupsN
  rw [if_pos h, cnt_unK xs og p s hs og.length]
  have h3 : p < og.length := by rw [hl]; unfold plN; omega
  by_cases hc : 0 ≤ gi (gl xs s) p ∧ 0 ≤ gi og p ∧ gi (gl xs s) p ≠ gi og p
  · rw [if_pos hc, if_pos ⟨h3, hc.2.1, hc.1, h1.2, hc.2.2⟩]
  · rw [if_neg hc, if_neg (fun e => hc ⟨e.2.2.1, e.2.1, e.2.2.2.2⟩)]
end Go.Proofs.Ytkfndaebmbnmaaa
namespace Go.Proofs.Ytkfndaebmbnmaaa
open Go.RowKit Go.Deep
def gr35B (l : List Grp) : Bool := (decide (12 < l.length) && decide (l.length ≤ 256)) || decide (258 < l.length) || (List.range l.length).any fun k => decide (36 < (gg l k).src.length)
theorem gr35_small {l : List Grp} (h : gr35B l = false) : l.length ≤ 258 ∧ ∀ k, (gg l k).src.length ≤ 36 := by
  unfold gr35B at h
  simp only [Bool.or_eq_false_iff, Bool.and_eq_false_iff, decide_eq_false_iff_not] at h
  refine ⟨by omega, fun k => ?_⟩
  by_cases hk : k < l.length
  · have := any_false h.2 hk
    simp at this; omega
  · have : gg l k = ⟨0, 0, []⟩ := by simp [gg, hk]
    rw [this]; simp
set_option maxRecDepth 100000 in
set_option maxHeartbeats 1000000 in
theorem great35_t (S : Nat → Prop) (w : World) (v : Value) (l : List Grp) (h : GrpsAt S w v l) (hn : l.length ≤ 9223372036854775807) (hr : ∀ k, (gg l k).src.length ≤ 9223372036854775807) :
    Calls Try.prog 28 #[v] w fun e w' => e = .returned (.bool (gr35B l)) ∧ w = w' := by
  obtain ⟨p, cap, rfl, hcap⟩ := grps_open h
  have H := Lib.hid h
  have HR := Lib.hid hr
  have HG : Hid (gr35B l = ((decide (12 < l.length) && decide (l.length ≤ 256)) || decide (258 < l.length) || (List.range l.length).any fun k => decide (36 < (gg l k).src.length))) := rfl
  clear h hr
  by_cases c1 : (12 < l.length ∧ l.length ≤ 256) ∨ 258 < l.length
  · have HE : Hid (gr35B l = true) := by unfold Hid; rw [HG.out]; rcases c1 with ⟨a, b⟩ | a <;> simp [*]
    clear HG H HR
    by_cases h1 : 12 < l.length
    · have d1 : decide ((12 : Int) < (l.length : Int)) = true := by simp; omega
      by_cases h2 : l.length ≤ 256
      · have d2 : decide ((l.length : Int) ≤ 256) = true := by simp; omega
        go_enter Try.func28, Try.ntmps28
        go_wp2_with fail
        go_ret
        exact ⟨ret_bool HE.out.symm, rfl⟩
      · have d2 : decide ((l.length : Int) ≤ 256) = false := by simp; omega
        have d3 : decide ((258 : Int) < (l.length : Int)) = true := by simp; omega
        go_enter Try.func28, Try.ntmps28
        go_wp2_with fail
        go_ret
        exact ⟨ret_bool HE.out.symm, rfl⟩
    · omega
  · have hs : l.length ≤ 12 ∨ (256 < l.length ∧ l.length ≤ 258) := by omega
    have HA : Hid (gr35B l = (List.range l.length).any fun k => decide (36 < (gg l k).src.length)) := by
      unfold Hid; rw [HG.out]
      have e1 : (decide (12 < l.length) && decide (l.length ≤ 256)) = false := by simp; omega
      have e2 : decide (258 < l.length) = false := by simp; omega
      rw [e1, e2]; rfl
    have d3 : decide ((258 : Int) < (l.length : Int)) = false := by simp; omega
    have hd12 : ∃ b1 b2 : Bool, decide ((12 : Int) < (l.length : Int)) = b1 ∧ decide ((l.length : Int) ≤ 256) = b2 ∧ (b1 && b2) = false := ⟨_, _, rfl, rfl, by simp; omega⟩
    obtain ⟨b1, b2, d1, d2, d12⟩ := hd12
    have HD12 := Lib.hid d12
    clear HG c1 hs d12
    cases b1
    · go_enter Try.func28, Try.ntmps28
      go_wp2_with fail
      go_loop [3] (fun i => ∃ k : Nat, k ≤ l.length ∧ i = .int .i64 k ∧ Hid (∀ j, j < k → decide (36 < (gg l j).src.length) = false)) (fun i => l.length - (intOf i).toNat)
      case atStart => exact ⟨0, Nat.zero_le _, rfl, fun j hj => absurd hj (Nat.not_lt_zero _)⟩
      case round =>
        obtain ⟨k, hk, rfl, hd⟩ := hrel
        by_cases hlt : k < l.length
        · obtain ⟨b, off, rq, rc, rfl, _, _, hc2, _⟩ := grps_get H.out hlt
          have hrk := HR.out k
          have i1 : (0 : Int) ≤ (k : Int) := by omega
          have i2 : (k : Int) < (l.length : Int) := by omega
          by_cases hb : 36 < (gg l k).src.length
          · have e1 : decide ((36 : Int) < ((gg l k).src.length : Int)) = true := by simp; omega
            have HE : Hid (gr35B l = true) := by unfold Hid; rw [HA.out]; exact any_at (p := fun k => decide (36 < (gg l k).src.length)) hlt (by simpa using hb)
            go_wp2_with fail
            go_ret
            exact ⟨ret_bool HE.out.symm, rfl⟩
          · have e1 : decide ((36 : Int) < ((gg l k).src.length : Int)) = false := by simp; omega
            have HB : Hid (decide (36 < (gg l k).src.length) = false) := decide_eq_false hb
            go_wp2_with fail
            go_round
            case rel => exact ⟨k + 1, by omega, by go_num, fun j hj => if e : j = k then by subst e; exact HB.out else hd.out j (by omega)⟩
            case measure => simp [intOf]; omega
        · obtain rfl : k = l.length := by omega
          have HE : Hid (gr35B l = false) := by unfold Hid; rw [HA.out]; exact any_none hd.out
          clear hlt hk
          go_wp2_with fail
          go_ret
          exact ⟨ret_bool HE.out.symm, rfl⟩
    · cases b2
      · go_enter Try.func28, Try.ntmps28
        go_wp2_with fail
        go_loop [3] (fun i => ∃ k : Nat, k ≤ l.length ∧ i = .int .i64 k ∧ Hid (∀ j, j < k → decide (36 < (gg l j).src.length) = false)) (fun i => l.length - (intOf i).toNat)
        case atStart => exact ⟨0, Nat.zero_le _, rfl, fun j hj => absurd hj (Nat.not_lt_zero _)⟩
        case round =>
          obtain ⟨k, hk, rfl, hd⟩ := hrel
          by_cases hlt : k < l.length
          · obtain ⟨b, off, rq, rc, rfl, _, _, hc2, _⟩ := grps_get H.out hlt
            have hrk := HR.out k
            have i1 : (0 : Int) ≤ (k : Int) := by omega
            have i2 : (k : Int) < (l.length : Int) := by omega
            by_cases hb : 36 < (gg l k).src.length
            · have e1 : decide ((36 : Int) < ((gg l k).src.length : Int)) = true := by simp; omega
              have HE : Hid (gr35B l = true) := by unfold Hid; rw [HA.out]; exact any_at (p := fun k => decide (36 < (gg l k).src.length)) hlt (by simpa using hb)
              go_wp2_with fail
              go_ret
              exact ⟨ret_bool HE.out.symm, rfl⟩
            · have e1 : decide ((36 : Int) < ((gg l k).src.length : Int)) = false := by simp; omega
              have HB : Hid (decide (36 < (gg l k).src.length) = false) := decide_eq_false hb
              go_wp2_with fail
              go_round
              case rel => exact ⟨k + 1, by omega, by go_num, fun j hj => if e : j = k then by subst e; exact HB.out else hd.out j (by omega)⟩
              case measure => simp [intOf]; omega
          · obtain rfl : k = l.length := by omega
            have HE : Hid (gr35B l = false) := by unfold Hid; rw [HA.out]; exact any_none hd.out
            clear hlt hk
            go_wp2_with fail
            go_ret
            exact ⟨ret_bool HE.out.symm, rfl⟩
      · exact absurd HD12.out (by decide)
def fine35B (l : List Grp) : Bool := if 12 < l.length then false else if gr35B l then false else decide (gcErr l = 0)
set_option maxRecDepth 100000 in
set_option maxHeartbeats 1000000 in
theorem fine35_t (S : Nat → Prop) (w : World) (v : Value) (l : List Grp) (h : GrpsAt S w v l) (hn : l.length ≤ 9223372036854775807) (hr : ∀ k, (gg l k).src.length ≤ 9223372036854775807) :
    Calls Try.prog 15 #[v] w fun e w' => e = .returned (.bool (fine35B l)) ∧ Up w w' := by
  obtain ⟨p, cap, rfl, hcap⟩ := grps_open h
  have HG := Lib.hid (great35_t S w _ l h hn hr)
  have HF : Hid (fine35B l = if 12 < l.length then false else if gr35B l then false else decide (gcErr l = 0)) := rfl
  by_cases h1 : 12 < l.length
  · have d1 : decide ((12 : Int) < (l.length : Int)) = true := by simp; omega
    have HE : Hid (fine35B l = false) := by unfold Hid; rw [HF.out, if_pos h1]
    clear h1
    go_enter Try.func15, Try.ntmps15
    go_wp2_with fail
    go_ret
    exact ⟨ret_bool HE.out.symm, Up.refl _⟩
  · have d1 : decide ((12 : Int) < (l.length : Int)) = false := by simp; omega
    cases hg : gr35B l
    · have hsm := gr35_small hg
      have HCF := Lib.hid (conflicts_t S w _ l h (by omega) (fun k => by have := hsm.2 k; omega))
      have HE : Hid (fine35B l = decide (gcErr l = 0)) := by unfold Hid; rw [HF.out, if_neg h1, hg]; rfl
      rw [hg] at HG
      clear h hsm hg h1 hr
      go_enter Try.func15, Try.ntmps15
      go_wp2_with (go_at_call 28; refine HG.out.mono ?_; rintro e w' ⟨rfl, rfl⟩)
      refine HCF.out.mono ?_
      rintro e w' ⟨hu, cv, rfl, _⟩
      go_wp2_with fail
      go_ret
      exact ⟨ret_bool (by rw [HE.out]; simp [Bool.beq_eq_decide_eq]), hu⟩
    · have HE : Hid (fine35B l = false) := by unfold Hid; rw [HF.out, if_neg h1, hg]; rfl
      rw [hg] at HG
      clear hg h1 h hr
      go_enter Try.func15, Try.ntmps15
      go_wp2_with (go_at_call 28; refine HG.out.mono ?_; rintro e w' ⟨rfl, rfl⟩)
      go_ret
      exact ⟨ret_bool HE.out.symm, Up.refl _⟩
theorem fine35_ok {l : List Grp} (h : fine35B l = true) : l.length ≤ 12 ∧ (∀ k, (gg l k).src.length ≤ 36) ∧ gcErr l = 0 := by
  unfold fine35B at h
  split at h
  · cases h
  · split at h
    · cases h
    · rename_i h1 h2
      have := gr35_small (by simpa using h2 : gr35B l = false)
      exact ⟨by omega, this.2, by simpa using h⟩
end Go.Proofs.Ytkfndaebmbnmaaa
namespace Go.Proofs.Ytkfndaebmbnmaaa
open Go.RowKit Go.Deep
/-- How many of the first k groups have just these sources. -/
def supK (l : List Grp) (own : List Int) : Nat → Nat
  | 0 => 0
  | k + 1 => supK l own k + if (gg l k).src = own then 1 else 0
theorem supK_le (l : List Grp) (own : List Int) : ∀ k, supK l own k ≤ k
  | 0 => Nat.le_refl _
  | k + 1 => by have := supK_le l own k; unfold supK; split <;> omega
def supErr (l : List Grp) (own : List Int) : Int := if gcErr l ≠ 0 then gcErr l else if srcOk own = false then 1 else 0
def supN (l : List Grp) (own : List Int) : Int := if supErr l own = 0 then (supK l own l.length : Int) else 0
set_option maxRecDepth 100000 in
set_option maxHeartbeats 1000000 in
theorem support_t (S T : Nat → Prop) (w : World) (v vo : Value) (l : List Grp) (own : List Int) (h : GrpsAt S w v l) (ho : IntsAt T w vo own) (hn : l.length ≤ 1000000) (hr : ∀ k, (gg l k).src.length ≤ 1000000) (hon : own.length ≤ 1000000) :
    Calls Try.prog 22 #[v, vo] w fun e w' => Up w w' ∧ e = .returned (.tuple #[.int .i64 (supN l own), .int .i64 (supErr l own)]) := by
  have HGC := Lib.hid (gcheck_t S w v l h hn hr)
  obtain ⟨p, cap, rfl, hcap⟩ := grps_open h
  obtain ⟨po, co, rfl, hco, _⟩ := SlAt.open ho
  have ho : IntsAt T w (.slice po own.length co) own := ho
  have HX := Lib.hid h
  have HO := Lib.hid ho
  have HR := Lib.hid hr
  have HE : Hid (supErr l own = if gcErr l ≠ 0 then gcErr l else if srcOk own = false then 1 else 0) := rfl
  have HN : Hid (supN l own = if supErr l own = 0 then (supK l own l.length : Int) else 0) := rfl
  clear h ho hr
  by_cases g0 : gcErr l = 0
  · rw [g0] at HGC
    cases hs : srcOk own
    · have HE1 : Hid (supErr l own = 1) := by unfold Hid; rw [HE.out, if_neg (fun e => e g0), if_pos hs]
      have HN1 : Hid (supN l own = 0) := by unfold Hid; rw [HN.out, HE1.out]; rfl
      have HSS : Hid (∀ W, Up w W → Calls Try.prog 53 #[.slice po own.length co] W fun e w' => e = .returned (.bool false) ∧ W = w') := fun W hu => by
        have := sources_t T W _ own (IntsAt.keep HO.out (hu.kept T)) hon
        rw [hs] at this; exact this
      clear g0 hs
      go_enter Try.func22, Try.ntmps22
      go_wp2_with fail
      refine HGC.out.mono ?_
      rintro e w1 ⟨rfl, hu1⟩
      have HS1 := Lib.hid (HSS.out w1 hu1)
      have HU1 := Lib.hid hu1
      clear hu1
      go_wp2_with fail
      refine HS1.out.mono ?_
      rintro e w' ⟨rfl, rfl⟩
      go_wp2_with fail
      go_ret2
      exact ⟨HU1.out, by rw [HE1.out, HN1.out]; rfl⟩
    · have HE1 : Hid (supErr l own = 0) := by unfold Hid; rw [HE.out, if_neg (fun e => e g0), if_neg (by rw [hs]; decide)]
      have HN1 : Hid (supN l own = (supK l own l.length : Int)) := by unfold Hid; rw [HN.out, if_pos HE1.out]
      have HSS : Hid (∀ W, Up w W → Calls Try.prog 53 #[.slice po own.length co] W fun e w' => e = .returned (.bool true) ∧ W = w') := fun W hu => by
        have := sources_t T W _ own (IntsAt.keep HO.out (hu.kept T)) hon
        rw [hs] at this; exact this
      clear g0 hs
      go_enter Try.func22, Try.ntmps22
      go_wp2_with fail
      refine HGC.out.mono ?_
      rintro e w1 ⟨rfl, hu1⟩
      have HS1 := Lib.hid (HSS.out w1 hu1)
      have HU1 := Lib.hid hu1
      clear hu1
      go_wp2_with fail
      refine HS1.out.mono ?_
      rintro e w' ⟨rfl, rfl⟩
      go_wp2_with fail
      go_loopw [7, 9, 20] (fun n _ i wr => ∃ k : Nat, k ≤ l.length ∧ i = .int .i64 k ∧ n = .int .i64 (supK l own k) ∧ Hid (Up w1 wr)) (fun _ _ i _ => l.length - (intOf i).toNat)
      case atStart => exact ⟨0, Nat.zero_le _, rfl, rfl, Up.refl _⟩
      case round =>
        obtain ⟨k, hk, rfl, rfl, hU⟩ := hrel
        obtain ⟨wo, rfl⟩ : ∃ wo : World, wo = wr := ⟨_, rfl⟩
        by_cases hlt : k < l.length
        · obtain ⟨b, off, rq, rc, rfl, hc0, hc1, hc2, hri⟩ := grps_get (HX.out.keep ((HU1.out.trans hU.out).kept S)) hlt
          have i1 : (0 : Int) ≤ (k : Int) := by omega
          have i2 : (k : Int) < (l.length : Int) := by omega
          have hal := Up.alloc wo (.cells #[.int .i64 (gg l k).un, .int .i64 (gg l k).st, .slice rq (gg l k).src.length rc] 32)
          obtain ⟨hb0, hb1, hb2⟩ := box3 wo (.int .i64 (gg l k).un) (.int .i64 (gg l k).st) (.slice rq (gg l k).src.length rc) 32
          have HEQ := Lib.hid (equal_int_t S T _ _ _ (gg l k).src own (IntsAt.keep hri (hal.kept S)) (IntsAt.keep HO.out (((HU1.out.trans hU.out).trans hal).kept T)) (HR.out k) hon)
          have HST : Hid (supK l own (k + 1) = supK l own k + if (gg l k).src = own then 1 else 0) := rfl
          have HUA := Lib.hid (hU.out.trans hal)
          have hle := supK_le l own k
          clear hri hal
          generalize (gg l k).un = un at *
          generalize (gg l k).st = sx at *
          generalize (gg l k).src = src at *
          by_cases e : src = own
          · rw [decide_eq_true e] at HEQ
            rw [if_pos e] at HST
            clear e
            go_wp2_with fail
            refine HEQ.out.mono ?_
            rintro e w8 ⟨rfl, n8, rfl⟩
            go_wp2_with fail
            go_roundw
            case rel => exact ⟨k + 1, by omega, by go_num, by rw [HST.out]; go_num, HUA.out.trans (Up.drewN _ _)⟩
            case measure => simp [intOf]; omega
          · rw [decide_eq_false e] at HEQ
            rw [if_neg e] at HST
            clear e
            go_wp2_with fail
            refine HEQ.out.mono ?_
            rintro e w8 ⟨rfl, n8, rfl⟩
            go_wp2_with fail
            go_roundw
            case rel => exact ⟨k + 1, by omega, by go_num, by rw [HST.out, Nat.add_zero], HUA.out.trans (Up.drewN _ _)⟩
            case measure => simp [intOf]; omega
        · obtain rfl : k = l.length := by omega
          clear hlt hk
          go_wp2_with fail
          go_ret2
          exact ⟨HU1.out.trans hU.out, by rw [HE1.out, HN1.out]; rfl⟩
  · have HE1 : Hid (supErr l own = gcErr l) := by unfold Hid; rw [HE.out, if_pos g0]
    have HN1 : Hid (supN l own = 0) := by unfold Hid; rw [HN.out, if_neg (by rw [HE1.out]; exact g0)]
    have g1 : (gcErr l != 0) = true := by simpa using g0
    clear g0
    go_enter Try.func22, Try.ntmps22
    go_wp2_with fail
    refine HGC.out.mono ?_
    rintro e w1 ⟨rfl, hu1⟩
    go_wp2_with fail
    go_ret2
    exact ⟨hu1, by rw [HE1.out, HN1.out]; rfl⟩
def orErr (xs : List (List Int)) (s : Int) : Int := if agErr xs ≠ 0 then agErr xs else if s < 0 ∨ (xs.length : Int) ≤ s then 2 else 0
def orN (xs : List (List Int)) (s : Int) : List Int := if orErr xs s = 0 then gl xs s.toNat else []
def OrPost (w : World) (xs : List (List Int)) (s : Int) (e : Ending) (w' : World) : Prop :=
  Up w w' ∧ ∃ v, e = .returned (.tuple #[v, .int .i64 (orErr xs s)]) ∧ IntsAt Any w' v (orN xs s)
theorem nil_ints_at (S : Nat → Prop) (W : World) : IntsAt S W (.slice none 0 0) [] := ⟨none, 0, rfl, Nat.le_refl _, .inl rfl⟩
set_option maxRecDepth 100000 in
set_option maxHeartbeats 1000000 in
theorem original_t (S : Nat → Prop) (w : World) (v : Value) (xs : List (List Int)) (s : Int) (h : RowsAt S w v xs) (hn : xs.length ≤ 1000000) (hr : ∀ k, (gl xs k).length ≤ 1000000) :
    Calls Try.prog 26 #[v, .int .i64 s] w (OrPost w xs s) := by
  have HAC := Lib.hid (agcheck_t S w v xs h hn hr)
  obtain ⟨p, cap, rfl, hcap, _⟩ := rows_open h
  have HE : Hid (orErr xs s = if agErr xs ≠ 0 then agErr xs else if s < 0 ∨ (xs.length : Int) ≤ s then 2 else 0) := rfl
  have HN : Hid (orN xs s = if orErr xs s = 0 then gl xs s.toNat else []) := rfl
  by_cases a0 : agErr xs = 0
  · rw [a0] at HAC
    by_cases h1 : s < 0
    · have d1 : decide (s < 0) = true := by simpa using h1
      have HE1 : Hid (orErr xs s = 2) := by unfold Hid; rw [HE.out, if_neg (fun e => e a0), if_pos (.inl h1)]
      have HN1 : Hid (orN xs s = []) := by unfold Hid; rw [HN.out, if_neg (by rw [HE1.out]; decide)]
      clear h1 a0 h
      go_enter Try.func26, Try.ntmps26
      go_wp2_with fail
      refine HAC.out.mono ?_
      rintro e w1 ⟨rfl, rfl⟩
      go_wp2_with fail
      go_ret2
      exact ⟨Up.refl _, _, by rw [HE1.out]; rfl, by rw [HN1.out]; exact nil_ints_at _ _⟩
    · have d1 : decide (s < 0) = false := by simpa using h1
      by_cases h2 : (xs.length : Int) ≤ s
      · have d2 : decide ((xs.length : Int) ≤ s) = true := by simpa using h2
        have HE1 : Hid (orErr xs s = 2) := by unfold Hid; rw [HE.out, if_neg (fun e => e a0), if_pos (.inr h2)]
        have HN1 : Hid (orN xs s = []) := by unfold Hid; rw [HN.out, if_neg (by rw [HE1.out]; decide)]
        clear h1 h2 a0 h
        go_enter Try.func26, Try.ntmps26
        go_wp2_with fail
        refine HAC.out.mono ?_
        rintro e w1 ⟨rfl, rfl⟩
        go_wp2_with fail
        go_ret2
        exact ⟨Up.refl _, _, by rw [HE1.out]; rfl, by rw [HN1.out]; exact nil_ints_at _ _⟩
      · have d2 : decide ((xs.length : Int) ≤ s) = false := by simpa using h2
        have HE1 : Hid (orErr xs s = 0) := by unfold Hid; rw [HE.out, if_neg (fun e => e a0), if_neg (by omega)]
        have HN1 : Hid (orN xs s = gl xs s.toNat) := by unfold Hid; rw [HN.out, if_pos HE1.out]
        obtain ⟨k, rfl⟩ := Int.eq_ofNat_of_zero_le (by omega : 0 ≤ s)
        rw [Int.toNat_natCast] at HN1
        have hk : k < xs.length := by omega
        have j1 : (0 : Int) ≤ (k : Int) := by omega
        have j2 : (k : Int) < (xs.length : Int) := by omega
        obtain ⟨b, off, q, c, rfl, hc, hi⟩ := rows_get h hk
        have HCL := Lib.hid (clone_int_t S w _ (gl xs k) hi (hr k))
        clear h1 h2 a0 h hr hi
        go_enter Try.func26, Try.ntmps26
        go_wp2_with (first | (go_at_call 11; refine HAC.out.mono ?_; rintro e w1 ⟨rfl, rfl⟩) | fail)
        refine HCL.out.mono ?_
        rintro e w1 ⟨hu, cv, rfl, ho⟩
        go_wp2_with fail
        go_ret2
        exact ⟨hu, _, by rw [HE1.out]; rfl, by rw [HN1.out]; exact ho.ints.sub fun _ _ _ => trivial⟩
  · have HE1 : Hid (orErr xs s = agErr xs) := by unfold Hid; rw [HE.out, if_pos a0]
    have HN1 : Hid (orN xs s = []) := by unfold Hid; rw [HN.out, if_neg (by rw [HE1.out]; exact a0)]
    have g1 : (agErr xs != 0) = true := by simpa using a0
    clear a0 h
    go_enter Try.func26, Try.ntmps26
    go_wp2_with fail
    refine HAC.out.mono ?_
    rintro e w1 ⟨rfl, rfl⟩
    go_wp2_with fail
    go_ret2
    exact ⟨Up.refl _, _, by rw [HE1.out]; rfl, by rw [HN1.out]; exact nil_ints_at _ _⟩
section
variable {P : Program} {ops : Array Oper} {rest : List Oper} {o : Oper} {a : Act} {Q : Exit → Act → World → Prop}
/-- 'out = append(out, g)', g a group. -/
theorem wpList_appGrpM (W : World) (hgd : o.guard = none) (s x : Operand) (t : TypeId) (ho : o.op = .call { callee := .builtin .append, args := #[s, x], argTypes := #[t, t] })
    (base : Nat) (e : TypeId) (z : Value) (bytes : Nat) (ht : P.underlying t = some (.slice e)) (hinfo : (P.info? e).map (fun i => (i.zero, i.size, i.bytes)) = some (some z, 3, bytes))
    (hz1 : z.cells.size = 3) (hb8 : bytes ≤ 64) {v : Value} {gs : List Grp} (hown : GrpsOwn base e W v gs) (hs : a.eval s = v) (G : Grp) (u : Value) (m : Nat) (hm : W.heap.size = m)
    (hx : a.eval x = .slice (some ⟨m, 0, none⟩) 1 1) (hu : IntsAt (fun b => some b ≠ v.ownBlock) W u G.src) (h1 : u.oneCell' = true) (n : Nat) (hxn : gs.length = n) (hn : n ≤ 1000000) (hbase : base ≤ W.heap.size)
    (h : ∀ g cap w', GrpsOwn base e w' (.slice (some ⟨g, 0, none⟩) (n + 1) cap) (gs ++ [G]) → W.grownBy w' v.ownBlock → Below base W w' → wpList P ops Q rest (a.put o.dst (.slice (some ⟨g, 0, none⟩) (n + 1) cap)) w') :
    wpList P ops Q (o :: rest) a (W.alloc (.cells #[.int .i64 G.un, .int .i64 G.st, u] e)) := by
  subst hm
  exact wpList_appGrp W hgd s x t ho base e z bytes ht hinfo hz1 hb8 hown hs G u hx hu h1 n hxn hn hbase h
end
/-- The groups of several sources, of the first k. -/
def sigK (l : List Grp) : Nat → List Grp
  | 0 => []
  | k + 1 => if 1 < (gg l k).src.length then sigK l k ++ [gg l k] else sigK l k
theorem sigK_len (l : List Grp) : ∀ k, (sigK l k).length ≤ k
  | 0 => Nat.le_refl _
  | k + 1 => by
    have := sigK_len l k
    unfold sigK
    split
    · rw [List.length_append]; simp; omega
    · omega
def SgPost (w : World) (l : List Grp) (e : Ending) (w' : World) : Prop := Up w w' ∧ ∃ v, e = .returned v ∧ GrpsAt Any w' v l
set_option maxRecDepth 100000 in
set_option maxHeartbeats 1000000 in
theorem significant_t (S : Nat → Prop) (w : World) (v : Value) (l : List Grp) (h : GrpsAt S w v l) (hn : l.length ≤ 1000000) :
    Calls Try.prog 27 #[v] w (SgPost w (sigK l l.length)) := by
  obtain ⟨p, cap, rfl, hcap⟩ := grps_open h
  have HX : Hid (GrpsAt (fun b => b < w.heap.size) w (.slice p l.length cap) l) := h.sub fun b _ hb => hb
  clear h
  go_enter Try.func27, Try.ntmps27
  go_wp2_with fail
  go_loopw [3, 5, 8] (fun d _ i wr => ∃ k : Nat, k ≤ l.length ∧ i = .int .i64 k ∧ Hid (GrpsOwn w.heap.size 32 wr d (sigK l k)) ∧ Hid (Up w wr)) (fun _ _ i _ => l.length - (intOf i).toNat)
  case atStart => exact ⟨0, Nat.zero_le _, rfl, GrpsOwn.nil _ _ _, Up.refl _⟩
  case round =>
    obtain ⟨k, hk, rfl, hD, hU⟩ := hrel
    obtain ⟨wo, rfl⟩ : ∃ wo : World, wo = wr := ⟨_, rfl⟩
    obtain ⟨d, rfl⟩ : ∃ d : Value, d = u3 := ⟨_, rfl⟩
    by_cases hlt : k < l.length
    · obtain ⟨b, off, rq, rc, rfl, hc0, hc1, hc2, hri⟩ := grps_get (HX.out.keep (hU.out.kept _)) hlt
      have i1 : (0 : Int) ≤ (k : Int) := by omega
      have i2 : (k : Int) < (l.length : Int) := by omega
      have hal := Up.alloc wo (.cells #[.int .i64 (gg l k).un, .int .i64 (gg l k).st, .slice rq (gg l k).src.length rc] 32)
      obtain ⟨hb0, hb1, hb2⟩ := box3 wo (.int .i64 (gg l k).un) (.int .i64 (gg l k).st) (.slice rq (gg l k).src.length rc) 32
      have HUA := Lib.hid (hU.out.trans hal)
      have HDA := Lib.hid (hD.out.kept hal)
      have HIN : Hid (IntsAt (fun b => some b ≠ d.ownBlock) (wo.alloc (.cells #[.int .i64 (gg l k).un, .int .i64 (gg l k).st, .slice rq (gg l k).src.length rc] 32)) (.slice rq (gg l k).src.length rc) (gg l k).src) :=
        (IntsAt.sub hri fun b hb _ e => by have := (hD.out.lt e.symm).1; omega).keep (hal.kept _)
      have HST : Hid (sigK l (k + 1) = if 1 < (gg l k).src.length then sigK l k ++ [gg l k] else sigK l k) := rfl
      have hle : (sigK l k).length ≤ 1000000 := by have := sigK_len l k; omega
      have hsz : (wo.alloc (.cells #[.int .i64 (gg l k).un, .int .i64 (gg l k).st, .slice rq (gg l k).src.length rc] 32)).heap.size = wo.heap.size + 1 := World.size_alloc _ _
      have hwz : w.heap.size ≤ (wo.alloc (.cells #[.int .i64 (gg l k).un, .int .i64 (gg l k).st, .slice rq (gg l k).src.length rc] 32)).heap.size := HUA.out.size
      clear hri hal
      have hG : gg l k = ⟨(gg l k).un, (gg l k).st, (gg l k).src⟩ := rfl
      have HGE := Lib.hid hG
      by_cases e1 : 1 < (gg l k).src.length
      · have d1 : decide ((1 : Int) < ((gg l k).src.length : Int)) = true := by simp; omega
        have d2 : decide (1 < (gg l k).src.length) = true := by simp; omega
        have HSN : Hid (sigK l (k + 1) = sigK l k ++ [gg l k]) := by unfold Hid; rw [HST.out, if_pos e1]
        clear e1 hG
        go_wp2_with (at_builtin; refine wpList_appGrpM (wo.alloc (.cells #[.int .i64 (gg l k).un, .int .i64 (gg l k).st, .slice rq (gg l k).src.length rc] 32)) rfl _ _ 28 rfl w.heap.size 32 _ 40 Try.underlying28 Try.infoEG rfl (by decide) HDA.out rfl (gg l k) (.slice rq (gg l k).src.length rc) _ hsz rfl HIN.out rfl _ rfl hle hwz ?_; intro g8 cap8 w8 hown1 hgr1 hbe1)
        go_roundw
        case rel => exact ⟨k + 1, by omega, by go_num, by unfold Hid; rw [HSN.out]; exact hown1, Below.trans HUA.out hbe1⟩
        case measure => simp [intOf]; omega
      · have d1 : decide ((1 : Int) < ((gg l k).src.length : Int)) = false := by simp; omega
        have d2 : decide (1 < (gg l k).src.length) = false := by simp; omega
        have HSN : Hid (sigK l (k + 1) = sigK l k) := by unfold Hid; rw [HST.out, if_neg e1]
        clear e1 hG
        go_wp2_with fail
        go_roundw
        case rel => exact ⟨k + 1, by omega, by go_num, by unfold Hid; rw [HSN.out]; exact HDA.out, HUA.out⟩
        case measure => simp [intOf]; omega
    · obtain rfl : k = l.length := by omega
      clear hlt hk
      go_wp2_with fail
      go_ret
      exact ⟨hU.out, _, rfl, hD.out.grps⟩
end Go.Proofs.Ytkfndaebmbnmaaa
