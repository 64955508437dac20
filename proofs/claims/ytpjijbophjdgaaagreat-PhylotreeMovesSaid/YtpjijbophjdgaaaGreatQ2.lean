/- Names: Letters, IsName, the names of leaves. Contracts: slices.Index and Contains of strings, phylotree.Check. Contracts: slices.IndexFunc, ContainsFunc over a function value that only reads. The contract of phylotree.Check. -/
import Derived.Test.YtpjijbophjdgaaaGreatQ1
import Derived.Shelf.Abstract
namespace Go.Proofs.YtpjijbophjdgaaaGreat
open Go.RowKit Go.Deep
theorem kind_aln (c : UInt8) : (kindL c.toNat = 1 ∨ kindL c.toNat = 3) ↔ aln c = true := by
  unfold kindL aln isLet; simp only [Bool.or_eq_true, Bool.and_eq_true, decide_eq_true_eq]
  repeat' split
  all_goals simp at *
  all_goals omega
theorem cntA_le (l : List UInt8) : cntA l ≤ l.length := List.countP_le_length
theorem cntA_snoc (l : List UInt8) (c : UInt8) : cntA (l ++ [c]) = cntA l + if aln c then 1 else 0 := by
  simp [cntA, List.countP_append, List.countP_cons]
theorem take_snoc (s : ByteArray) (k : Nat) (h : k < s.size) : s.data.toList.take (k + 1) = s.data.toList.take k ++ [s[k]] := by
  rw [List.take_succ_eq_append_getElem (by simpa using h)]; rfl
theorem cntA_all (l : List UInt8) : cntA l = l.length ↔ l.all aln = true := by
  simp [cntA, List.countP_eq_length]
theorem letters_step (s : ByteArray) (k : Nat) (h : k < s.size) : cntA (s.data.toList.take (k + 1)) = cntA (s.data.toList.take k) + if aln s[k] then 1 else 0 := by
  rw [take_snoc s k h, cntA_snoc]
set_option maxHeartbeats 400000 in
theorem letters_t (s : ByteArray) (hs : s.size ≤ 70000) (w : World) : Calls Tryz.prog 190 #[.string s] w fun e w' => e = .returned (.int .i64 (cntA s.data.toList)) ∧ w = w' := by
  go_enter Tryz.func190, Tryz.ntmps190
  go_wp2
  go_loop [3, 4, 5, 8] (fun n _ _ i => ∃ k : Nat, k ≤ s.size ∧ i = .int .i64 k ∧ n = .int .i64 (cntA (s.data.toList.take k))) (fun _ _ _ i => s.size - (intOf i).toNat)
  case atStart => exact ⟨0, Nat.zero_le _, rfl, rfl⟩
  case round =>
    obtain ⟨k, hk, rfl, rfl⟩ := hrel
    have hb : cntA (s.data.toList.take k) ≤ 70000 := Nat.le_trans (cntA_le _) (by simp; omega)
    by_cases hlt : k < s.size
    · have hst := letters_step s k hlt
      have hk' := kind_aln s[k]
      have hc : s[k].toNat < 256 := s[k].toNat_lt
      generalize hm : cntA (s.data.toList.take k) = m at *
      have HS := Lib.hid hst
      have HK := Lib.hid hk'
      clear hst hm hk'
      go_wp2_with (go_at_call 219; refine (kind_t _ hc _).mono ?_; rintro e w' ⟨rfl, rfl⟩; generalize kindL _ = q at *)
      all_goals
        go_round
        case rel => exact ⟨k + 1, by omega, by go_num, by rw [HS.out]; first | (rw [if_pos (HK.out.1 (by first | omega | (simp only [beq_iff_eq] at *; omega)))]; go_num) | (rw [if_neg (fun h => by have := HK.out.2 h; simp only [beq_eq_false_iff_ne, ne_eq] at *; omega)]; go_num)⟩
        case measure => simp [intOf]; omega
    · go_wp2
      go_ret
      exact ⟨ret_int (by rw [List.take_of_length_le (by simp; omega)]), rfl⟩
set_option maxHeartbeats 400000 in
theorem isName_t (s : ByteArray) (hs : s.size ≤ 70000) (w : World) : Calls Tryz.prog 145 #[.string s] w fun e w' => e = .returned (.bool (isNameB s.data.toList)) ∧ w = w' := by
  have hl : s.data.toList.length = s.size := by simp
  have ha := cntA_all s.data.toList
  have hle := cntA_le s.data.toList
  have he : s.data.toList = [] ↔ s.size = 0 := by rw [← List.length_eq_zero_iff, hl]
  rw [hl] at ha hle
  have HA := Lib.hid ha
  have HL := Lib.hid hl
  have HE := Lib.hid he
  clear ha hl he
  have hE1 := toList_nil s
  have hfin : isNameB s.data.toList = decide (1 ≤ s.size ∧ s.size ≤ 16 ∧ cntA s.data.toList = s.size) := by
    unfold isNameB; rw [HL.out, Bool.eq_iff_iff]; simp only [Bool.and_eq_true, decide_eq_true_eq]; rw [← HA.out, and_assoc]
  have HF := Lib.hid hfin
  have HE1 := Lib.hid hE1
  clear hfin hE1 HA HL HE
  generalize hm : cntA s.data.toList = m at *
  have HM := Lib.hid hm
  clear hm
  go_enter Tryz.func145, Tryz.ntmps145
  go_wp2_with (go_at_call 190; refine (letters_t _ hs _).mono ?_; rintro e w' ⟨rfl, rfl⟩; rw [HM.out])
  all_goals go_ret
  all_goals refine ⟨ret_bool ?_, rfl⟩
  all_goals rw [HF.out]
  · have := HE1.out.1 ‹_›; simp; omega
  · have hne : ¬ s.size = 0 := fun h => ‹¬ s.toList = []› (HE1.out.2 h)
    have hne2 : s.toList.isEmpty = false := by simpa using ‹¬ s.toList = []›
    rw [Bool.eq_iff_iff]; simp [hne2]; omega
  · simp; omega

theorem aln_star : aln 42 = false := by decide
theorem isNameB_star (l : List UInt8) (h : l.getLast? = some 42) : isNameB l = false := by
  obtain ⟨a, rfl⟩ := List.getLast?_eq_some_iff.1 h
  simp [isNameB, aln_star]
theorem star_iff (s : ByteArray) (h1 : 1 ≤ s.size) : (s.extract (s.size - 1) s.size).toList = [42] ↔ s.data.toList.getLast? = some 42 := by
  have hl := size_data s
  rw [toList_data, ByteArray.data_extract, Array.toList_extract, List.extract_eq_take_drop]
  generalize s.data.toList = l at *
  have hne : l ≠ [] := by intro e; rw [e] at hl; simp at hl; omega
  rw [← hl]
  clear hl h1
  obtain ⟨a, x, rfl⟩ : ∃ a x, l = a ++ [x] := ⟨l.dropLast, l.getLast hne, (List.dropLast_concat_getLast hne).symm⟩
  simp
theorem cut_star (s : ByteArray) : (s.extract 0 (s.size - 1)).data.toList = s.data.toList.dropLast := by
  have hl := size_data s
  rw [ByteArray.data_extract, Array.toList_extract, List.extract_eq_take_drop, List.dropLast_eq_take, hl]
  simp
def CutPost (s : ByteArray) (e : Ending) : Prop := (s.data.toList.getLast? = some 42 ∧ ∃ r : ByteArray, r.size ≤ s.size ∧ r.data.toList = s.data.toList.dropLast ∧ e = .returned (.tuple #[.string r, .bool true])) ∨ (s.data.toList.getLast? ≠ some 42 ∧ e = .returned (.tuple #[.string s, .bool false]))
set_option maxHeartbeats 400000 in
theorem suffix_t (s : ByteArray) (hs : s.size ≤ 70000) (w : World) : Calls Tryz.prog 144 #[.string s, .string ⟨#[42]⟩] w fun e w' => CutPost s e ∧ w = w' := by
  by_cases h0 : s.size = 0
  · have hc : s.data.toList = [] := by rw [← toList_data]; exact (toList_nil s).2 h0
    have HC := Lib.hid hc
    clear hc
    go_enter Tryz.func144, Tryz.ntmps144
    go_wp2
    go_ret2
    exact ⟨.inr ⟨by rw [HC.out]; simp, rfl⟩, rfl⟩
  · have h1 : 1 ≤ s.size := by omega
    clear h0
    go_enter Tryz.func144, Tryz.ntmps144
    go_wp2
    · go_ret2
      refine ⟨.inr ⟨fun e => ?_, rfl⟩, rfl⟩
      have := (star_iff s h1).2 e
      simp_all
    · go_ret2
      have h2 := ‹(!(s.extract (s.size - 1) s.size).toList == [42]) = false›
      exact ⟨.inl ⟨(star_iff s h1).1 (by simpa using h2), s.extract 0 (s.size - 1), by simp, cut_star s, rfl⟩, rfl⟩
set_option maxHeartbeats 400000 in
theorem named_t (s : ByteArray) (hs : s.size ≤ 70000) (w : World) : Calls Tryz.prog 116 #[.string s] w fun e w' => e = .returned (.bool (namedB s.data.toList)) ∧ w = w' := by
  have hl := size_data s
  have HL := Lib.hid hl
  clear hl
  go_enter Tryz.func116, Tryz.ntmps116
  go_wp2_with fail
  refine (suffix_t s hs _).mono ?_
  rintro e w' ⟨⟨h1, r, hr, hd, rfl⟩ | ⟨h1, rfl⟩, rfl⟩
  · have hf : namedB s.data.toList = (decide (s.size ≤ 16) && isNameB r.data.toList) := by
      unfold namedB; rw [if_pos h1, hd, HL.out, Bool.and_comm]
    have HF := Lib.hid hf
    clear hf hd h1
    go_wp2_with (go_at_call 145; refine (isName_t r (by omega) _).mono ?_; rintro e w' ⟨rfl, rfl⟩)
    all_goals
      go_ret
      refine ⟨ret_bool ?_, rfl⟩
      rw [HF.out, Bool.eq_iff_iff]
      simp at *
      try omega
  · have hf : namedB s.data.toList = isNameB s.data.toList := by unfold namedB; rw [if_neg h1]
    have HF := Lib.hid hf
    clear hf h1
    go_wp2_with (go_at_call 145; refine (isName_t s hs _).mono ?_; rintro e w' ⟨rfl, rfl⟩)
    go_ret
    exact ⟨ret_bool (by rw [HF.out]), rfl⟩
end Go.Proofs.YtpjijbophjdgaaaGreat
namespace Go.Proofs.YtpjijbophjdgaaaGreat
open Go.RowKit Go.Deep
theorem str_yes {x y : ByteArray} (h : (x.toList == y.toList) = true) : x = y := by
  rw [beq_iff_eq, toList_data, toList_data] at h; exact ba_ext h
theorem str_no {x y : ByteArray} (h : (x.toList == y.toList) = false) : ¬ x = y := by
  rintro rfl; simp at h
set_option maxHeartbeats 400000 in
theorem index_str_t (S : Nat → Prop) (w : World) (v : Value) (n : Nat) (f : Nat → ByteArray) (x : ByteArray) (h : SlAt S w v n (fun k => .string (f k))) (hn : n ≤ 1000000) :
    Calls Tryz.prog 62 #[v, .string x] w fun e w' => e = .returned (.int .i64 (firstIx (fun j => decide (x = f j)) n)) ∧ w = w' := by
  obtain ⟨p, cap, rfl, hcap, H⟩ := h.open
  clear h
  go_enter Tryz.func62, Tryz.ntmps62
  go_wp2
  go_loop [5, 8] (fun _ i => ∃ k : Nat, k ≤ n ∧ i = .int .i64 k ∧ Hid (∀ j, j < k → decide (x = f j) = false)) (fun _ i => n - (intOf i).toNat)
  case atStart => exact ⟨0, Nat.zero_le _, rfl, fun j hj => absurd hj (Nat.not_lt_zero _)⟩
  case round =>
    obtain ⟨k, hk, rfl, hd⟩ := hrel
    by_cases hlt : k < n
    · obtain ⟨b, off, rfl, hc⟩ := H k hlt
      clear H
      go_wp2
      · have hx := str_yes ‹(x.toList == (f k).toList) = true›
        go_ret
        exact ⟨ret_int (firstIx_at (p := fun j => decide (x = f j)) hlt hd.out (by simpa using hx)).symm, rfl⟩
      · have hx := str_no ‹(x.toList == (f k).toList) = false›
        go_round
        case rel => exact ⟨k + 1, by omega, by go_num, fun j hj => if e : j = k then by subst e; simpa using hx else hd.out j (by omega)⟩
        case measure => simp [intOf]; omega
    · clear H
      go_wp2
      go_ret
      exact ⟨ret_int (firstIx_none fun j hj => hd.out j (by omega)).symm, rfl⟩
set_option maxHeartbeats 400000 in
theorem contains_str_t (S : Nat → Prop) (w : World) (v : Value) (n : Nat) (f : Nat → ByteArray) (x : ByteArray) (h : SlAt S w v n (fun k => .string (f k))) (hn : n ≤ 1000000) :
    Calls Tryz.prog 74 #[v, .string x] w fun e w' => e = .returned (.bool ((List.range n).any fun j => decide (x = f j))) ∧ w = w' := by
  have hx := firstIx_any (fun j => decide (x = f j)) n
  have HX := Lib.hid hx
  clear hx
  go_enter Tryz.func74, Tryz.ntmps74
  go_wp2_with (go_at_call 62; refine (index_str_t S w v n f x h hn).mono ?_; rintro e w' ⟨rfl, rfl⟩)
  go_ret
  exact ⟨ret_bool (by rw [← HX.out]), rfl⟩
end Go.Proofs.YtpjijbophjdgaaaGreat
namespace Go.Proofs.YtpjijbophjdgaaaGreat
open Go.RowKit Go.Deep
end Go.Proofs.YtpjijbophjdgaaaGreat
namespace Go.Proofs.YtpjijbophjdgaaaGreat
open Go.RowKit Go.Deep
theorem Tryz.infoB : (Tryz.prog.info? 4).map (fun i => (i.zero, i.size, i.bytes)) = some (some (.bool false), 1, 1) := by kernel_rfl
structure CkW (w0 wr : World) (B n : Nat) (f : Nat → Bool) : Prop where
  below : Below B w0 wr
  row : wr.rowIs B 4 n (fun j => .bool (f j))
  size : wr.heap.size = B + 1
theorem CkW.start (w0 : World) (n : Nat) (f : Nat → Bool) (hf : ∀ j, f j = false) : CkW w0 (w0.alloc (.cells (madeCells #[.bool false] n) 4)) w0.heap.size n f :=
  ⟨(Below.refl _ _).alloc (Nat.le_refl _) _, (World.rowIs_made w0 _ n _).congr fun i _ => by simp [hf], by simp⟩
theorem CkW.set {w0 wr : World} {B n q : Nat} {f g : Nat → Bool} (h : CkW w0 wr B n f) (hg : ∀ j, g j = (f j || decide (j = q))) :
    CkW w0 (wr.setCell ⟨B, q, none⟩ (.bool true)) B n g :=
  ⟨h.below.setCell (p := ⟨B, q, none⟩) (Nat.le_refl _) _, (h.row.set q _).congr fun i _ => by
    by_cases e : i = q
    · simp [e, hg]
    · simp [e, hg], by simp [h.size]⟩
theorem CkW.congr {w0 wr : World} {B n : Nat} {f g : Nat → Bool} (h : CkW w0 wr B n f) (hg : ∀ j, g j = f j) : CkW w0 wr B n g :=
  ⟨h.below, h.row.congr fun i _ => by simp [hg], h.size⟩
set_option maxRecDepth 100000 in
set_option maxHeartbeats 800000 in
theorem check_t (S : Nat → Prop) (w : World) (v : Value) (t : Tre) (h : TreeAt S w v t) (hp : t.ps.length ≤ 1000000) (hn : t.ns.length ≤ 1000000) (hz : ∀ k, (gs t.ns k).size ≤ 70000) :
    Calls Tryz.prog 48 #[v] w fun e w' => e = .returned (.int .i64 (treeErr t)) ∧ Below w.heap.size w w' := by
  obtain ⟨P, N, rfl, hP, hN⟩ := h
  obtain ⟨ps, ns⟩ := t
  simp only at *
  have hfin : treeErr ⟨ps, ns⟩ = if ps.length = 0 then 5 else if 64 < ps.length then 4 else if ns.length ≠ ps.length then 9 else if pOkB ps then firstNZ (nErr ps ns) ps.length else 2 := rfl
  have HF := Lib.hid hfin
  clear hfin
  have hP' := hP.keep (Kept.below ((Below.refl _ w).alloc (Nat.le_refl _) (.cells #[P, N] 45)))
  have hN' := hN.keep (Kept.below ((Below.refl _ w).alloc (Nat.le_refl _) (.cells #[P, N] 45)))
  clear hP hN
  obtain ⟨p, cap, rfl, hcap, HP⟩ := SlAt.open hP'
  obtain ⟨q, cap2, rfl, hcap2, HN⟩ := SlAt.open hN'
  have hbx : Below w.heap.size w (w.alloc (.cells #[.slice p ps.length cap, .slice q ns.length cap2] 45)) := (Below.refl _ _).alloc (Nat.le_refl _) _
  have HPh := Lib.hid HP
  have HNh := Lib.hid HN
  clear hP' hN' HP HN
  by_cases h0 : ps.length = 0
  · have HX : Hid (ps.length = 0) := h0
    have h0' : ((ps.length : Int) == 0) = true := by simp [h0]
    clear h0
    go_enter Tryz.func48, Tryz.ntmps48
    go_wp2
    go_ret
    exact ⟨ret_int (by rw [HF.out, if_pos HX.out]), hbx⟩
  have h0' : ((ps.length : Int) == 0) = false := by simpa using h0
  by_cases h1 : 64 < ps.length
  · go_enter Tryz.func48, Tryz.ntmps48
    go_wp2
    go_ret
    exact ⟨ret_int (by rw [HF.out, if_neg h0, if_pos h1]), hbx⟩
  by_cases h2 : ns.length = ps.length
  · have h2' : ((ns.length : Int) != ps.length) = false := by simp [h2]
    have H2 := Lib.hid h2
    clear h2
    have hmk := fun W => run_make_row' (P := Tryz.prog) 146 4 (.bool false) 1 Tryz.underlying146 Tryz.infoB rfl .i64 .i64 ps.length (by omega) (by omega) W
    go_enter Tryz.func48, Tryz.ntmps48
    go_wp2
    clear hmk hbx
    have hstart := CkW.start (w.alloc (.cells #[.slice p ps.length cap, .slice q ns.length cap2] 45)) ps.length (fun j => inK ps 0 j) (fun j => rfl)
    rw [World.size_alloc] at hstart
    have hcp : (w.alloc (.cells #[.slice p ps.length cap, .slice q ns.length cap2] 45)).cell? ⟨w.heap.size, 0, none⟩ = some (.slice p ps.length cap) := by simp [World.cell?_alloc_new]
    have hcq : (w.alloc (.cells #[.slice p ps.length cap, .slice q ns.length cap2] 45)).cell? ⟨w.heap.size, 1, none⟩ = some (.slice q ns.length cap2) := by simp [World.cell?_alloc_new]
    have hb0 : Below w.heap.size w (w.alloc (.cells #[.slice p ps.length cap, .slice q ns.length cap2] 45)) := (Below.refl _ _).alloc (Nat.le_refl _) _
    have hsz : (w.alloc (.cells #[.slice p ps.length cap, .slice q ns.length cap2] 45)).heap.size = w.heap.size + 1 := by simp
    generalize hw0 : w.alloc (.cells #[.slice p ps.length cap, .slice q ns.length cap2] 45) = w0 at *
    clear hw0
    have HS := Lib.hid hsz
    have HCP := Lib.hid hcp
    have HCQ := Lib.hid hcq
    clear hsz hcp hcq
    go_loopw [4, 5, 33] (fun _ _ i wr => ∃ k : Nat, k ≤ ps.length ∧ i = .int .i64 k ∧ Hid (∀ j, j < k → okp j (gi ps j) = true) ∧ CkW w0 wr (w.heap.size + 1) ps.length (fun j => inK ps k j)) (fun _ _ i _ => ps.length - (intOf i).toNat)
    case atStart => exact ⟨0, Nat.zero_le _, rfl, fun j hj => absurd hj (Nat.not_lt_zero _), hstart⟩
    case round =>
      obtain ⟨k, hk, rfl, hd, hW⟩ := hrel
      clear hstart
      by_cases hlt : k < ps.length
      · obtain ⟨b, off, rfl, hc0⟩ := HPh.out k hlt
        have hc : wr.cell? ⟨b, off + k, none⟩ = some (.int .i64 (gi ps k)) := by
          rw [hW.below.cell (p := ⟨b, off + k, none⟩) (by have := World.block_lt_of_cell? _ _ hc0; have := HS.out; simp at *; omega)]; exact hc0
        clear hc0
        generalize hpk : gi ps k = x at *
        have HX := Lib.hid hpk
        clear hpk
        by_cases hg : 0 < k ∧ 0 ≤ x ∧ x < k
        · obtain ⟨g1, g2, g3⟩ := hg
          obtain ⟨y, rfl⟩ := Int.eq_ofNat_of_zero_le g2
          have hi1 := hW.row.cell (i := y) (by omega)
          have hi2 := hW.row.frozen y
          go_wp2
          go_roundw
          case rel => exact ⟨k + 1, by omega, by go_num, fun j hj => if e : j = k then by subst e; rw [HX.out]; unfold okp; rw [if_neg (by omega)]; simp; omega else hd.out j (by omega), hW.set (q := y) fun j => by rw [inK_succ, HX.out]; simp only [g1, decide_true, Bool.true_and]; congr 1; rw [Bool.eq_iff_iff]; simp; omega⟩
          case measure => simp [intOf]; omega
        · by_cases h00 : k = 0 ∧ x = -1
          · obtain ⟨rfl, rfl⟩ := h00
            have hc' : wr.cell? ⟨b, off, none⟩ = some (.int .i64 (-1)) := by simpa using hc
            go_wp2
            go_roundw
            case rel => exact ⟨1, by omega, by go_num, fun j hj => by obtain rfl : j = 0 := by omega
                                                                      rw [HX.out]; rfl, hW.congr fun j => by rw [inK_succ]; simp⟩
            case measure => simp [intOf]; omega
          · have hbad : okp k x = false := by
              unfold okp; split
              · rename_i e; simp; exact fun e2 => h00 ⟨e, e2⟩
              · simp; intro; omega
            rw [← HX.out] at hbad
            have HB := Lib.hid (pOkB_bad hlt hbad)
            clear hbad
            go_wp2
            all_goals go_ret
            all_goals exact ⟨ret_int (by rw [HF.out, if_neg h0, if_neg h1, if_neg (by rw [H2.out]; simp), HB.out]; simp), hb0.trans (hW.below.mono (by omega))⟩
      · obtain rfl : k = ps.length := by omega
        have hok := Lib.hid (pOkB_all hd.out)
        have hcx : wr.cell? ⟨w.heap.size, 1, none⟩ = some (.slice q ns.length cap2) := by
          rw [hW.below.cell (p := ⟨w.heap.size, 1, none⟩) (by simp)]; exact HCQ.out
        clear hlt hk hd HPh hcap
        go_wp2
        go_loop [6, 7, 66] (fun _ _ i => ∃ k : Nat, k ≤ ps.length ∧ i = .int .i64 k ∧ Hid (∀ j, j < k → nErr ps ns j = 0)) (fun _ _ i => ps.length - (intOf i).toNat)
        case atStart => exact ⟨0, Nat.zero_le _, rfl, fun j hj => absurd hj (Nat.not_lt_zero _)⟩
        case round =>
          obtain ⟨k, hk, rfl, hd⟩ := hrel
          have hlen : ns.length ≤ ps.length ∧ ps.length ≤ ns.length := by have := H2.out; omega
          obtain ⟨hl1, hl2⟩ := hlen
          by_cases hlt : k < ps.length
          · obtain ⟨b, off, rfl, hc0⟩ := HNh.out k (by have := H2.out; omega)
            have hpre : SlAt Any wr (.slice (some ⟨b, off, none⟩) k cap2) k (fun j => .string (gs ns j)) := by
              refine ⟨_, _, rfl, by omega, .inr ⟨b, off, rfl, trivial, fun j hj => ?_⟩⟩
              obtain ⟨b', off', e, hcj⟩ := HNh.out j (by omega)
              cases e
              rw [hW.below.cell (p := ⟨b, off + j, none⟩) (by have := World.block_lt_of_cell? _ _ hcj; have := HS.out; simp at *; omega)]; exact hcj
            have hc : wr.cell? ⟨b, off + k, none⟩ = some (.string (gs ns k)) := by
              rw [hW.below.cell (p := ⟨b, off + k, none⟩) (by have := World.block_lt_of_cell? _ _ hc0; have := HS.out; simp at *; omega)]; exact hc0
            clear hc0
            have hi1 := hW.row.cell (i := k) (by omega)
            have hsk : (List.range k).any (fun j => decide (gs ns k = gs ns j)) = seenK ns k := by
              unfold seenK; congr 1; funext j; exact decide_eq_decide.2 eq_comm
            have HSK := Lib.hid hsk
            clear hsk
            have hzk := hz k
            have hne : nErr ps ns k = if isIn ps k then (if (gs ns k).size = 0 then 0 else 14) else if namedB (gs ns k).data.toList then (if seenK ns k then 7 else 0) else 14 := rfl
            have hnil := toList_nil (gs ns k)
            have hend : nErr ps ns k ≠ 0 → treeErr ⟨ps, ns⟩ = nErr ps ns k := fun hn0 => by
              rw [HF.out, if_neg h0, if_neg h1, if_neg (by rw [H2.out]; simp), hok.out, if_pos rfl]; exact firstNZ_at hlt hd.out hn0
            have HE := Lib.hid hne
            have HEND := Lib.hid hend
            have HNIL := Lib.hid hnil
            have hW' := Lib.hid hW
            clear hne hend hnil HNh hz hW
            have hi2 : inK ps ps.length k = isIn ps k := rfl
            rw [hi2] at hi1
            clear hi2
            generalize hin : isIn ps k = bi at *
            generalize hnm : namedB (gs ns k).data.toList = bn at *
            generalize hsn : seenK ns k = bs at *
            generalize hgk : gs ns k = g at *
            have HNM := Lib.hid hnm
            clear hin hnm hsn hgk
            cases bi
            · cases bn
              · go_wp2_with (first | (go_at_call 116; refine (named_t _ hzk _).mono ?_; rintro e w' ⟨rfl, rfl⟩; rw [HNM.out]) | (go_at_call 74; refine (contains_str_t Any _ _ k (fun j => gs ns j) _ hpre (by omega)).mono ?_; rintro e w' ⟨rfl, rfl⟩; rw [HSK.out]))
                go_ret
                exact ⟨ret_int (by rw [HEND.out (by rw [HE.out]; simp), HE.out]; simp), hb0.trans (hW'.out.below.mono (by omega))⟩
              · cases bs
                · go_wp2_with (first | (go_at_call 116; refine (named_t _ hzk _).mono ?_; rintro e w' ⟨rfl, rfl⟩; rw [HNM.out]) | (go_at_call 74; refine (contains_str_t Any _ _ k (fun j => gs ns j) _ hpre (by omega)).mono ?_; rintro e w' ⟨rfl, rfl⟩; rw [HSK.out]))
                  go_round
                  case rel => exact ⟨k + 1, by omega, by go_num, fun j hj => if e : j = k then by subst e; rw [HE.out]; simp else hd.out j (by omega)⟩
                  case measure => simp [intOf]; omega
                · go_wp2_with (first | (go_at_call 116; refine (named_t _ hzk _).mono ?_; rintro e w' ⟨rfl, rfl⟩; rw [HNM.out]) | (go_at_call 74; refine (contains_str_t Any _ _ k (fun j => gs ns j) _ hpre (by omega)).mono ?_; rintro e w' ⟨rfl, rfl⟩; rw [HSK.out]))
                  go_ret
                  exact ⟨ret_int (by rw [HEND.out (by rw [HE.out]; simp), HE.out]; simp), hb0.trans (hW'.out.below.mono (by omega))⟩
            · by_cases hg0 : g.size = 0
              · have hg1 : g.toList = [] := HNIL.out.2 hg0
                have hg2 : (!g.toList.isEmpty) = false := by simp [hg1]
                have HG0 := Lib.hid hg0
                clear hg0
                go_wp2_with (first | (go_at_call 116; refine (named_t _ hzk _).mono ?_; rintro e w' ⟨rfl, rfl⟩; rw [HNM.out]) | (go_at_call 74; refine (contains_str_t Any _ _ k (fun j => gs ns j) _ hpre (by omega)).mono ?_; rintro e w' ⟨rfl, rfl⟩; rw [HSK.out]))
                go_round
                case rel => exact ⟨k + 1, by omega, by go_num, fun j hj => if e : j = k then by subst e; rw [HE.out]; simp [HG0.out] else hd.out j (by omega)⟩
                case measure => simp [intOf]; omega
              · have hg1 : (g.toList == []) = false := by
                  rw [Bool.eq_false_iff]; intro e; exact hg0 (HNIL.out.1 (by simpa using e))
                have hg2 : g.toList.isEmpty = false := by
                  rw [Bool.eq_false_iff]; intro e; exact hg0 (HNIL.out.1 (by simpa using e))
                go_wp2_with (first | (go_at_call 116; refine (named_t _ hzk _).mono ?_; rintro e w' ⟨rfl, rfl⟩; rw [HNM.out]) | (go_at_call 74; refine (contains_str_t Any _ _ k (fun j => gs ns j) _ hpre (by omega)).mono ?_; rintro e w' ⟨rfl, rfl⟩; rw [HSK.out]))
                go_ret
                exact ⟨ret_int (by rw [HEND.out (by rw [HE.out]; simp [hg0]), HE.out]; simp [hg0]), hb0.trans (hW'.out.below.mono (by omega))⟩
          · have hk2 : k = ps.length := by omega
            clear hlt
            go_wp2
            go_ret
            exact ⟨ret_int (by rw [HF.out, if_neg h0, if_neg h1, if_neg (by rw [H2.out]; simp), hok.out, if_pos rfl, firstNZ_zero fun j hj => hd.out j (by omega)]), hb0.trans (hW.below.mono (by omega))⟩
  · have h2' : ((ns.length : Int) != ps.length) = true := by simp; omega
    go_enter Tryz.func48, Tryz.ntmps48
    go_wp2
    go_ret
    exact ⟨ret_int (by rw [HF.out, if_neg h0, if_neg h1, if_pos h2]), hbx⟩
end Go.Proofs.YtpjijbophjdgaaaGreat
