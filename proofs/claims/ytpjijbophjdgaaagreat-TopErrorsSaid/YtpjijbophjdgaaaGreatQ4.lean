/- Names: Letters, IsName, the names of leaves. Contracts: slices.Index and Contains of strings, phylotree.Check. Names, as layer 1's and layer 31's references have them. Contracts: slices.IndexFunc, ContainsFunc over a function value that only reads. -/
import Derived.Test.YtpjijbophjdgaaaGreatQ3
import Derived.Shelf.Abstract
namespace Go.Proofs.YtpjijbophjdgaaaGreat
open Go.RowKit Go.Deep
theorem kind_aln (c : UInt8) : (kindL c.toNat = 1 ∨ kindL c.toNat = 3) ↔ aln c = true := by
  unfold kindL aln isLet; simp only [Bool.or_eq_true, Bool.and_eq_true, decide_eq_true_eq]
  repeat' split
  all_goals simp at *
  all_goals omega
theorem cntA_le (l : List UInt8) : cntA l ≤ l.length := List.countP_le_length
theorem cntA_snoc (l : List UInt8) (c : UInt8) : cntA (l ++ [c]) = cntA l + if aln c then 1 else 0 := by
  simp [cntA, List.countP_append, List.countP_cons]
theorem take_snoc (s : ByteArray) (k : Nat) (h : k < s.size) : s.data.toList.take (k + 1) = s.data.toList.take k ++ [s[k]] := by
  rw [List.take_succ_eq_append_getElem (by simpa using h)]; rfl
theorem cntA_all (l : List UInt8) : cntA l = l.length ↔ l.all aln = true := by
  simp [cntA, List.countP_eq_length]
theorem letters_step (s : ByteArray) (k : Nat) (h : k < s.size) : cntA (s.data.toList.take (k + 1)) = cntA (s.data.toList.take k) + if aln s[k] then 1 else 0 := by
  rw [take_snoc s k h, cntA_snoc]
set_option maxHeartbeats 400000 in
theorem letters_t (s : ByteArray) (hs : s.size ≤ 70000) (w : World) : Calls Tryz.prog 190 #[.string s] w fun e w' => e = .returned (.int .i64 (cntA s.data.toList)) ∧ w = w' := by
  go_enter Tryz.func190, Tryz.ntmps190
  go_wp2
  go_loop [3, 4, 5, 8] (fun n _ _ i => ∃ k : Nat, k ≤ s.size ∧ i = .int .i64 k ∧ n = .int .i64 (cntA (s.data.toList.take k))) (fun _ _ _ i => s.size - (intOf i).toNat)
  case atStart => exact ⟨0, Nat.zero_le _, rfl, rfl⟩
  case round =>
    obtain ⟨k, hk, rfl, rfl⟩ := hrel
    have hb : cntA (s.data.toList.take k) ≤ 70000 := Nat.le_trans (cntA_le _) (by simp; omega)
    by_cases hlt : k < s.size
    · have hst := letters_step s k hlt
      have hk' := kind_aln s[k]
      have hc : s[k].toNat < 256 := s[k].toNat_lt
      generalize hm : cntA (s.data.toList.take k) = m at *
      have HS := Lib.hid hst
      have HK := Lib.hid hk'
      clear hst hm hk'
      go_wp2_with (go_at_call 219; refine (kind_t _ hc _).mono ?_; rintro e w' ⟨rfl, rfl⟩; generalize kindL _ = q at *)
      all_goals
        go_round
        case rel => exact ⟨k + 1, by omega, by go_num, by rw [HS.out]; first | (rw [if_pos (HK.out.1 (by first | omega | (simp only [beq_iff_eq] at *; omega)))]; go_num) | (rw [if_neg (fun h => by have := HK.out.2 h; simp only [beq_eq_false_iff_ne, ne_eq] at *; omega)]; go_num)⟩
        case measure => simp [intOf]; omega
    · go_wp2
      go_ret
      exact ⟨ret_int (by rw [List.take_of_length_le (by simp; omega)]), rfl⟩
set_option maxHeartbeats 400000 in
theorem isName_t (s : ByteArray) (hs : s.size ≤ 70000) (w : World) : Calls Tryz.prog 145 #[.string s] w fun e w' => e = .returned (.bool (isNameB s.data.toList)) ∧ w = w' := by
  have hl : s.data.toList.length = s.size := by simp
  have ha := cntA_all s.data.toList
  have hle := cntA_le s.data.toList
  have he : s.data.toList = [] ↔ s.size = 0 := by rw [← List.length_eq_zero_iff, hl]
  rw [hl] at ha hle
  have HA := Lib.hid ha
  have HL := Lib.hid hl
  have HE := Lib.hid he
  clear ha hl he
  have hE1 := toList_nil s
  have hfin : isNameB s.data.toList = decide (1 ≤ s.size ∧ s.size ≤ 16 ∧ cntA s.data.toList = s.size) := by
    unfold isNameB; rw [HL.out, Bool.eq_iff_iff]; simp only [Bool.and_eq_true, decide_eq_true_eq]; rw [← HA.out, and_assoc]
  have HF := Lib.hid hfin
  have HE1 := Lib.hid hE1
  clear hfin hE1 HA HL HE
  generalize hm : cntA s.data.toList = m at *
  have HM := Lib.hid hm
  clear hm
  go_enter Tryz.func145, Tryz.ntmps145
  go_wp2_with (go_at_call 190; refine (letters_t _ hs _).mono ?_; rintro e w' ⟨rfl, rfl⟩; rw [HM.out])
  all_goals go_ret
  all_goals refine ⟨ret_bool ?_, rfl⟩
  all_goals rw [HF.out]
  · have := HE1.out.1 ‹_›; simp; omega
  · have hne : ¬ s.size = 0 := fun h => ‹¬ s.toList = []› (HE1.out.2 h)
    have hne2 : s.toList.isEmpty = false := by simpa using ‹¬ s.toList = []›
    rw [Bool.eq_iff_iff]; simp [hne2]; omega
  · simp; omega

theorem star_iff (s : ByteArray) (h1 : 1 ≤ s.size) : (s.extract (s.size - 1) s.size).toList = [42] ↔ s.data.toList.getLast? = some 42 := by
  have hl := size_data s
  rw [toList_data, ByteArray.data_extract, Array.toList_extract, List.extract_eq_take_drop]
  generalize s.data.toList = l at *
  have hne : l ≠ [] := by intro e; rw [e] at hl; simp at hl; omega
  rw [← hl]
  clear hl h1
  obtain ⟨a, x, rfl⟩ : ∃ a x, l = a ++ [x] := ⟨l.dropLast, l.getLast hne, (List.dropLast_concat_getLast hne).symm⟩
  simp
theorem cut_star (s : ByteArray) : (s.extract 0 (s.size - 1)).data.toList = s.data.toList.dropLast := by
  have hl := size_data s
  rw [ByteArray.data_extract, Array.toList_extract, List.extract_eq_take_drop, List.dropLast_eq_take, hl]
  simp
def CutPost (s : ByteArray) (e : Ending) : Prop := (s.data.toList.getLast? = some 42 ∧ ∃ r : ByteArray, r.size ≤ s.size ∧ r.data.toList = s.data.toList.dropLast ∧ e = .returned (.tuple #[.string r, .bool true])) ∨ (s.data.toList.getLast? ≠ some 42 ∧ e = .returned (.tuple #[.string s, .bool false]))
set_option maxHeartbeats 400000 in
theorem suffix_t (s : ByteArray) (hs : s.size ≤ 70000) (w : World) : Calls Tryz.prog 144 #[.string s, .string ⟨#[42]⟩] w fun e w' => CutPost s e ∧ w = w' := by
  by_cases h0 : s.size = 0
  · have hc : s.data.toList = [] := by rw [← toList_data]; exact (toList_nil s).2 h0
    have HC := Lib.hid hc
    clear hc
    go_enter Tryz.func144, Tryz.ntmps144
    go_wp2
    go_ret2
    exact ⟨.inr ⟨by rw [HC.out]; simp, rfl⟩, rfl⟩
  · have h1 : 1 ≤ s.size := by omega
    clear h0
    go_enter Tryz.func144, Tryz.ntmps144
    go_wp2
    · go_ret2
      refine ⟨.inr ⟨fun e => ?_, rfl⟩, rfl⟩
      have := (star_iff s h1).2 e
      simp_all
    · go_ret2
      have h2 := ‹(!(s.extract (s.size - 1) s.size).toList == [42]) = false›
      exact ⟨.inl ⟨(star_iff s h1).1 (by simpa using h2), s.extract 0 (s.size - 1), by simp, cut_star s, rfl⟩, rfl⟩
set_option maxHeartbeats 400000 in
theorem named_t (s : ByteArray) (hs : s.size ≤ 70000) (w : World) : Calls Tryz.prog 116 #[.string s] w fun e w' => e = .returned (.bool (namedB s.data.toList)) ∧ w = w' := by
  have hl := size_data s
  have HL := Lib.hid hl
  clear hl
  go_enter Tryz.func116, Tryz.ntmps116
  go_wp2_with fail
  refine (suffix_t s hs _).mono ?_
  rintro e w' ⟨⟨h1, r, hr, hd, rfl⟩ | ⟨h1, rfl⟩, rfl⟩
  · have hf : namedB s.data.toList = (decide (s.size ≤ 16) && isNameB r.data.toList) := by
      unfold namedB; rw [if_pos h1, hd, HL.out, Bool.and_comm]
    have HF := Lib.hid hf
    clear hf hd h1
    go_wp2_with (go_at_call 145; refine (isName_t r (by omega) _).mono ?_; rintro e w' ⟨rfl, rfl⟩)
    all_goals
      go_ret
      refine ⟨ret_bool ?_, rfl⟩
      rw [HF.out, Bool.eq_iff_iff]
      simp at *
      try omega
  · have hf : namedB s.data.toList = isNameB s.data.toList := by unfold namedB; rw [if_neg h1]
    have HF := Lib.hid hf
    clear hf h1
    go_wp2_with (go_at_call 145; refine (isName_t s hs _).mono ?_; rintro e w' ⟨rfl, rfl⟩)
    go_ret
    exact ⟨ret_bool (by rw [HF.out]), rfl⟩
end Go.Proofs.YtpjijbophjdgaaaGreat
namespace Go.Proofs.YtpjijbophjdgaaaGreat
open Go.RowKit Go.Deep
theorem str_yes {x y : ByteArray} (h : (x.toList == y.toList) = true) : x = y := by
  rw [beq_iff_eq, toList_data, toList_data] at h; exact ba_ext h
theorem str_no {x y : ByteArray} (h : (x.toList == y.toList) = false) : ¬ x = y := by
  rintro rfl; simp at h
set_option maxHeartbeats 400000 in
theorem index_str_t (S : Nat → Prop) (w : World) (v : Value) (n : Nat) (f : Nat → ByteArray) (x : ByteArray) (h : SlAt S w v n (fun k => .string (f k))) (hn : n ≤ 1000000) :
    Calls Tryz.prog 62 #[v, .string x] w fun e w' => e = .returned (.int .i64 (firstIx (fun j => decide (x = f j)) n)) ∧ w = w' := by
  obtain ⟨p, cap, rfl, hcap, H⟩ := h.open
  clear h
  go_enter Tryz.func62, Tryz.ntmps62
  go_wp2
  go_loop [5, 8] (fun _ i => ∃ k : Nat, k ≤ n ∧ i = .int .i64 k ∧ Hid (∀ j, j < k → decide (x = f j) = false)) (fun _ i => n - (intOf i).toNat)
  case atStart => exact ⟨0, Nat.zero_le _, rfl, fun j hj => absurd hj (Nat.not_lt_zero _)⟩
  case round =>
    obtain ⟨k, hk, rfl, hd⟩ := hrel
    by_cases hlt : k < n
    · obtain ⟨b, off, rfl, hc⟩ := H k hlt
      clear H
      go_wp2
      · have hx := str_yes ‹(x.toList == (f k).toList) = true›
        go_ret
        exact ⟨ret_int (firstIx_at (p := fun j => decide (x = f j)) hlt hd.out (by simpa using hx)).symm, rfl⟩
      · have hx := str_no ‹(x.toList == (f k).toList) = false›
        go_round
        case rel => exact ⟨k + 1, by omega, by go_num, fun j hj => if e : j = k then by subst e; simpa using hx else hd.out j (by omega)⟩
        case measure => simp [intOf]; omega
    · clear H
      go_wp2
      go_ret
      exact ⟨ret_int (firstIx_none fun j hj => hd.out j (by omega)).symm, rfl⟩
set_option maxHeartbeats 400000 in
theorem contains_str_t (S : Nat → Prop) (w : World) (v : Value) (n : Nat) (f : Nat → ByteArray) (x : ByteArray) (h : SlAt S w v n (fun k => .string (f k))) (hn : n ≤ 1000000) :
    Calls Tryz.prog 74 #[v, .string x] w fun e w' => e = .returned (.bool ((List.range n).any fun j => decide (x = f j))) ∧ w = w' := by
  have hx := firstIx_any (fun j => decide (x = f j)) n
  have HX := Lib.hid hx
  clear hx
  go_enter Tryz.func74, Tryz.ntmps74
  go_wp2_with (go_at_call 62; refine (index_str_t S w v n f x h hn).mono ?_; rintro e w' ⟨rfl, rfl⟩)
  go_ret
  exact ⟨ret_bool (by rw [← HX.out]), rfl⟩
end Go.Proofs.YtpjijbophjdgaaaGreat
namespace Go.Proofs.YtpjijbophjdgaaaGreat
open Go.RowKit Go.Deep
end Go.Proofs.YtpjijbophjdgaaaGreat
namespace Go.Proofs.YtpjijbophjdgaaaGreat
open Go.RowKit Go.Deep
def FnIs (g : Nat) (lb args : Array Value) (res : Value) (w : World) : Prop := Calls Tryz.prog g (args ++ lb) w fun e w' => e = .returned res ∧ w = w'
set_option maxHeartbeats 400000 in
theorem ints_ix_t (g : Nat) (lb : Array Value) (eg : ∀ args w, (callFunc g args).run Tryz.prog w = .ok (.enter g args) w) (S : Nat → Prop) (w : World) (v : Value) (n : Nat) (f : Nat → Value) (p : Nat → Bool)
    (h : SlAt S w v n f) (hn : n ≤ 1000000) (hp : ∀ k, k < n → FnIs g lb #[f k] (.bool (p k)) w) :
    Calls Tryz.prog 140 #[v, .func (.func g) #[] lb] w fun e w' => e = .returned (.int .i64 (firstIx p n)) ∧ w = w' := by
  obtain ⟨q, cap, rfl, hcap, H⟩ := h.open
  have HP := Lib.hid hp
  clear h hp
  go_enter Tryz.func140, Tryz.ntmps140
  go_wp2_with fail
  go_loop [5, 8] (fun _ i => ∃ k : Nat, k ≤ n ∧ i = .int .i64 k ∧ Hid (∀ j, j < k → p j = false)) (fun _ i => n - (intOf i).toNat)
  case atStart => exact ⟨0, Nat.zero_le _, rfl, fun j hj => absurd hj (Nat.not_lt_zero _)⟩
  case round =>
    obtain ⟨k, hk, rfl, hd⟩ := hrel
    by_cases hlt : k < n
    · obtain ⟨b, off, rfl, hc⟩ := H k hlt
      clear H
      have hpk := HP.out k hlt
      unfold FnIs at hpk
      have HPK := Lib.hid hpk
      clear hpk HP
      generalize hv : p k = pk at *
      have HV := Lib.hid hv
      clear hv
      cases pk
      · go_wp2_with fail
        refine HPK.out.mono ?_
        rintro e w' ⟨rfl, rfl⟩
        go_wp2_with fail
        go_round
        case rel => exact ⟨k + 1, by omega, by go_num, fun j hj => if e : j = k then by subst e; exact HV.out else hd.out j (by omega)⟩
        case measure => simp [intOf]; omega
      · go_wp2_with fail
        refine HPK.out.mono ?_
        rintro e w' ⟨rfl, rfl⟩
        go_wp2_with fail
        go_ret
        exact ⟨ret_int (firstIx_at hlt hd.out HV.out).symm, rfl⟩
    · clear H
      go_wp2_with fail
      go_ret
      exact ⟨ret_int (firstIx_none fun j hj => hd.out j (by omega)).symm, rfl⟩
set_option maxHeartbeats 400000 in
theorem ints_has_t (g : Nat) (lb : Array Value) (eg : ∀ args w, (callFunc g args).run Tryz.prog w = .ok (.enter g args) w) (S : Nat → Prop) (w : World) (v : Value) (n : Nat) (f : Nat → Value) (p : Nat → Bool)
    (h : SlAt S w v n f) (hn : n ≤ 1000000) (hp : ∀ k, k < n → FnIs g lb #[f k] (.bool (p k)) w) :
    Calls Tryz.prog 63 #[v, .func (.func g) #[] lb] w fun e w' => e = .returned (.bool ((List.range n).any p)) ∧ w = w' := by
  have hx := firstIx_any p n
  have HX := Lib.hid hx
  have HI := Lib.hid (ints_ix_t g lb eg S w v n f p h hn hp)
  clear hx hp h eg
  go_enter Tryz.func63, Tryz.ntmps63
  go_wp2_with fail
  refine HI.out.mono ?_
  rintro e w' ⟨rfl, rfl⟩
  go_wp2_with fail
  go_ret
  exact ⟨ret_bool (by rw [← HX.out]), rfl⟩
end Go.Proofs.YtpjijbophjdgaaaGreat
