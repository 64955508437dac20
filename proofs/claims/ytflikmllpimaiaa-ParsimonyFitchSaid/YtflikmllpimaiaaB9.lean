/- Names, as layer 1's and layer 31's references have them: Check, IsWord, IsName, named. -/
import Derived.Test.YtflikmllpimaiaaB8
namespace Go.Proofs.Ytflikmllpimaiaa
open Go.RowKit Go.Deep
def CkRPost (w : World) (s : ByteArray) (e : Ending) (w' : World) : Prop := Below w.heap.size w w' ∧ ∃ r, e = .returned (.int .i64 r) ∧ (s.data.toList.all aln = true → r = 0)
theorem all_at {s : ByteArray} (h : s.data.toList.all aln = true) {k : Nat} (hk : k < s.size) : aln s[k] = true :=
  List.all_eq_true.1 h _ (by rw [Array.mem_toList_iff]; exact Array.getElem_mem _)
set_option maxRecDepth 100000 in
set_option maxHeartbeats 400000 in
theorem ckR_t (s : ByteArray) (hs : s.size ≤ 1000) (w : World) : Calls Try.prog 132 #[.string s] w (CkRPost w s) := by
  go_enter Try.func132, Try.ntmps132
  go_wp2_with fail
  refine (right_t s hs _).mono ?_
  rintro e w1 ⟨hb, v, bs, rfl, hbl, hsl⟩
  obtain ⟨p, cap, rfl, hcap, H⟩ := hsl.open
  have HH := Lib.hid H
  clear H hsl hbl
  go_wp2_with fail
  go_loop [4, 5] (fun i _ => ∃ k : Nat, k ≤ s.size ∧ i = .int .i64 k) (fun i _ => s.size - (intOf i).toNat)
  case atStart => exact ⟨0, Nat.zero_le _, rfl⟩
  case round =>
    obtain ⟨k, hk, rfl⟩ := hrel
    by_cases hlt : k < s.size
    · obtain ⟨b, off, rfl, hc⟩ := HH.out k hlt
      have hka : s.data.toList.all aln = true → kindL s[k].toNat = 1 ∨ kindL s[k].toNat = 3 := fun h => (kind_aln s[k]).2 (all_at h hlt)
      have HKA := Lib.hid hka
      clear HH hka
      go_wp2_with (go_at_call 133; refine (kindR_t _ (UInt8.toNat_lt _) _).mono ?_; rintro e w' ⟨rfl, rfl⟩; generalize kindL _ = q at *)
      all_goals first | (go_round; (case rel => exact ⟨k + 1, by omega, by go_num⟩); (case measure => simp [intOf]; omega)) | (go_ret; exact ⟨hb, _, rfl, fun h => by have := HKA.out h; simp at *; omega⟩)
    · clear HH
      go_wp2_with fail
      go_ret
      exact ⟨hb, _, rfl, fun _ => rfl⟩
def IwPost (w : World) (s : ByteArray) (e : Ending) (w' : World) : Prop := Below w.heap.size w w' ∧ ∃ b, e = .returned (.bool b) ∧ (s.data.toList.all aln = true → 1 ≤ s.size → b = true) ∧ (s.size = 0 → b = false)
set_option maxRecDepth 100000 in
set_option maxHeartbeats 400000 in
theorem isWordR_t (s : ByteArray) (hs : s.size ≤ 16) (w : World) : Calls Try.prog 116 #[.string s] w (IwPost w s) := by
  by_cases h0 : s.size < 1
  · go_enter Try.func116, Try.ntmps116
    go_wp2_with fail
    go_ret
    exact ⟨Below.refl _ _, _, rfl, fun _ h => by omega, fun _ => rfl⟩
  · have h0' : ((0 : Nat) < s.size) := by omega
    have hka : s.data.toList.all aln = true → kindL s[0].toNat = 1 ∨ kindL s[0].toNat = 3 := fun h => (kind_aln s[0]).2 (all_at h h0')
    have HKA := Lib.hid hka
    clear hka
    go_enter Try.func116, Try.ntmps116
    go_wp2_with fail
    refine (ckR_t s (by omega) _).mono ?_
    rintro e w1 ⟨hb, r, rfl, hr⟩
    have HR := Lib.hid hr
    clear hr
    go_wp2_with (go_at_call 133; refine (kindR_t _ (UInt8.toNat_lt _) _).mono ?_; rintro e w' ⟨rfl, rfl⟩; generalize kindL _ = q at *)
    all_goals first
      | (go_ret; exact ⟨hb, _, rfl, fun h _ => (by exfalso; have h1 := HKA.out h; have h2 := HR.out h; subst h2; simp at *; omega), fun _ => rfl⟩)
      | skip
    all_goals
      clear HR
      go_loop [4] (fun i => ∃ k : Nat, k ≤ s.size ∧ i = .int .i64 k) (fun i => s.size - (intOf i).toNat)
      case atStart => exact ⟨0, Nat.zero_le _, rfl⟩
      case round =>
        obtain ⟨k, hk, rfl⟩ := hrel
        by_cases hlt : k < s.size
        · have hka : s.data.toList.all aln = true → kindL s[k].toNat = 1 ∨ kindL s[k].toNat = 3 := fun h => (kind_aln s[k]).2 (all_at h hlt)
          have HKB := Lib.hid hka
          clear hka
          go_wp2_with (go_at_call 133; refine (kindR_t _ (UInt8.toNat_lt _) _).mono ?_; rintro e w' ⟨rfl, rfl⟩; generalize kindL s[k].toNat = y at *)
          all_goals first | (go_round; (case rel => exact ⟨k + 1, by omega, by go_num⟩); (case measure => simp [intOf]; omega)) | (go_ret; exact ⟨hb, _, rfl, fun h _ => (by exfalso; have h1 := HKB.out h; omega), fun _ => rfl⟩)
        · go_wp2_with fail
          go_ret
          exact ⟨hb, _, rfl, fun _ _ => rfl, fun h => by omega⟩
set_option maxRecDepth 100000 in
set_option maxHeartbeats 400000 in
theorem isNameR_t (s : ByteArray) (hs : s.size ≤ 70000) (w : World) : Calls Try.prog 97 #[.string s] w fun e w' => e = .returned (.bool (isNameB s.data.toList)) ∧ Below w.heap.size w w' := by
  have hl := size_data s
  have hA := cntA_all s.data.toList
  have hfin : isNameB s.data.toList = decide (1 ≤ s.size ∧ s.size ≤ 16 ∧ cntA s.data.toList = s.size) := by
    unfold isNameB; rw [hl] at hA ⊢; rw [Bool.eq_iff_iff]; simp only [Bool.and_eq_true, decide_eq_true_eq]; rw [← hA, and_assoc]
  rw [hl] at hA
  have HF := Lib.hid hfin
  have HA := Lib.hid hA
  clear hfin hl hA
  by_cases h16 : s.size ≤ 16
  · go_enter Try.func97, Try.ntmps97
    go_wp2_with fail
    refine (isWordR_t s h16 _).mono ?_
    rintro e w1 ⟨hb, b, rfl, h1, h2⟩
    have H1 := Lib.hid h1
    have H2 := Lib.hid h2
    clear h1 h2
    cases b
    · go_wp2_with fail
      go_ret
      refine ⟨ret_bool ?_, hb⟩
      rw [HF.out, eq_comm, decide_eq_false_iff_not]
      rintro ⟨a1, a2, a3⟩
      have := H1.out (HA.out.1 a3) a1
      cases this
    · go_wp2_with (go_at_call 117; refine (lettersR_t s hs _).mono ?_; rintro e w' ⟨rfl, rfl⟩)
      go_ret
      refine ⟨ret_bool ?_, hb⟩
      have h0 : s.size ≠ 0 := fun e => by have := H2.out e; cases this
      rw [HF.out, Bool.eq_iff_iff]
      simp
      omega
  · go_enter Try.func97, Try.ntmps97
    go_wp2_with fail
    go_ret
    refine ⟨ret_bool ?_, Below.refl _ _⟩
    rw [HF.out, eq_comm, decide_eq_false_iff_not]; omega
theorem last_get (s : ByteArray) (h : s.size - 1 < s.size) : s.data.toList.getLast? = some s[s.size - 1] := by
  have hl := size_data s
  rw [List.getLast?_eq_getElem?, hl, List.getElem?_eq_getElem (by rw [hl]; exact h)]; rfl
theorem named_star (s : ByteArray) (h : s.size - 1 < s.size) (h16 : s.size ≤ 16) (h42 : ((s[s.size - 1].toNat : Int) == 42) = true) : namedB s.data.toList = isNameB (s.extract 0 (s.size - 1)).data.toList := by
  have hl := size_data s
  have h2 : s[s.size - 1] = 42 := by
    have h3 : (s[s.size - 1].toNat : Int) = 42 := by simpa using h42
    have h4 : s[s.size - 1].toNat = 42 := by omega
    exact UInt8.toNat_inj.1 h4
  unfold namedB; rw [last_get s h, h2, if_pos rfl, cut_star, hl]; simp [h16]
theorem named_plain (s : ByteArray) (h : s.size - 1 < s.size) (h42 : ((s[s.size - 1].toNat : Int) == 42) = false) : namedB s.data.toList = isNameB s.data.toList := by
  unfold namedB; rw [last_get s h, if_neg]
  intro e; injection e with e; rw [e] at h42; simp at h42
theorem named_far (s : ByteArray) (h : 16 < s.size) : namedB s.data.toList = isNameB s.data.toList := by
  have hl := size_data s
  unfold namedB; split
  · rename_i h42
    rw [isNameB_star s.data.toList h42, hl, decide_eq_false (by omega), Bool.and_false]
  · rfl
theorem named_one (s : ByteArray) (h : s.size ≤ 1) : namedB s.data.toList = isNameB s.data.toList := by
  have hl := size_data s
  unfold namedB; split
  · rename_i h42
    rw [isNameB_star s.data.toList h42]
    have : s.data.toList.dropLast = [] := by rw [← List.length_eq_zero_iff, List.length_dropLast]; omega
    rw [this]; rfl
  · rfl
set_option maxRecDepth 100000 in
set_option maxHeartbeats 400000 in
theorem namedR_t (s : ByteArray) (hs : s.size ≤ 70000) (w : World) : Calls Try.prog 84 #[.string s] w fun e w' => e = .returned (.bool (namedB s.data.toList)) ∧ Below w.heap.size w w' := by
  go_enter Try.func84, Try.ntmps84
  go_wp2_with fail
  · have hf := Lib.hid (named_star s (by omega) (by omega) ‹_›)
    refine (isNameR_t _ (by simp; omega) _).mono ?_
    rintro e w1 ⟨rfl, hb⟩
    rw [← hf.out]
    go_wp2_with fail
    go_ret
    exact ⟨rfl, hb⟩
  · have hf := Lib.hid (named_plain s (by omega) ‹_›)
    refine (isNameR_t _ hs _).mono ?_
    rintro e w1 ⟨rfl, hb⟩
    rw [← hf.out]
    go_wp2_with fail
    go_ret
    exact ⟨rfl, hb⟩
  · have hf := Lib.hid (named_far s (by omega))
    refine (isNameR_t _ hs _).mono ?_
    rintro e w1 ⟨rfl, hb⟩
    rw [← hf.out]
    go_wp2_with fail
    go_ret
    exact ⟨rfl, hb⟩
  · have hf := Lib.hid (named_one s (by omega))
    refine (isNameR_t _ hs _).mono ?_
    rintro e w1 ⟨rfl, hb⟩
    rw [← hf.out]
    go_wp2_with fail
    go_ret
    exact ⟨rfl, hb⟩
end Go.Proofs.Ytflikmllpimaiaa
