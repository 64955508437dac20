/- Ways in which lists lie in memory, and what keeps them: for the walks of this seat. Contracts of the library that the kit lays: strings.Compare, strings.IndexByte. Names: package charset, layer 1's reference, the names of leaves. Names: Letters, IsName, the names of leaves. Contracts: slices.Index and Contains of strings, phylotree.Check. Contracts: slices.IndexFunc, ContainsFunc over a function value that only reads. -/
import Derived.Test.YtcbmbhghmfehpaaGreatQ1
import Derived.WalkKit
import Derived.WalkSpells
import Derived.WalkLawsBesides
import Derived.Deep.OwnRows
import Derived.Deep.QuietTactic
import Derived.BigQuiet
import Derived.Lib.Hide
import Derived.Shelf.Small.Strs
import Derived.Test.YtcbmbhghmfehpaaGreatProg
import Derived.Shelf.Abstract
namespace Go.Proofs.YtcbmbhghmfehpaaGreat
open Go.RowKit Go.Deep

def SlAt (S : Nat → Prop) (w : World) (v : Value) (n : Nat) (f : Nat → Value) : Prop :=
  ∃ p cap, v = .slice p n cap ∧ n ≤ cap ∧ (n = 0 ∨ ∃ b off, p = some ⟨b, off, none⟩ ∧ S b ∧ ∀ k, k < n → w.cell? ⟨b, off + k, none⟩ = some (f k))
def IntsAt (S : Nat → Prop) (w : World) (v : Value) (xs : List Int) : Prop := SlAt S w v xs.length (fun k => .int .i64 (gi xs k))
def StrsAt (S : Nat → Prop) (w : World) (v : Value) (xs : List ByteArray) : Prop := SlAt S w v xs.length (fun k => .string (gs xs k))
def RowsAt (S : Nat → Prop) (w : World) (v : Value) (xs : List (List Int)) : Prop := ∃ f, SlAt S w v xs.length f ∧ ∀ k, k < xs.length → IntsAt S w (f k) (gl xs k)
def TreeAt (S : Nat → Prop) (w : World) (v : Value) (t : Tre) : Prop := ∃ P N, v = .agg #[P, N] ∧ IntsAt S w P t.ps ∧ StrsAt S w N t.ns

def Kept (S : Nat → Prop) (w w' : World) : Prop := ∀ b, S b → b < w.heap.size → w'.heap[b]? = w.heap[b]?
def Any (_ : Nat) : Prop := True

theorem SlAt.keep {S : Nat → Prop} {w w' : World} {v : Value} {n : Nat} {f : Nat → Value} (h : SlAt S w v n f) (k : Kept S w w') : SlAt S w' v n f := by
  obtain ⟨p, cap, rfl, hn, h⟩ := h
  refine ⟨p, cap, rfl, hn, ?_⟩
  rcases h with h | ⟨b, off, rfl, hS, h⟩
  · exact .inl h
  · refine .inr ⟨b, off, rfl, hS, fun i hi => ?_⟩
    have hlt : b < w.heap.size := World.block_lt_of_cell? w _ (h i hi)
    rw [World.cell?_of_block (a := ⟨b, off + i, none⟩) (k b hS hlt)]
    exact h i hi
theorem IntsAt.keep {S : Nat → Prop} {w w' : World} {v : Value} {xs : List Int} (h : IntsAt S w v xs) (k : Kept S w w') : IntsAt S w' v xs := SlAt.keep h k
theorem StrsAt.keep {S : Nat → Prop} {w w' : World} {v : Value} {xs : List ByteArray} (h : StrsAt S w v xs) (k : Kept S w w') : StrsAt S w' v xs := SlAt.keep h k
theorem RowsAt.keep {S : Nat → Prop} {w w' : World} {v : Value} {xs : List (List Int)} (h : RowsAt S w v xs) (k : Kept S w w') : RowsAt S w' v xs := by
  obtain ⟨f, h, hr⟩ := h
  exact ⟨f, h.keep k, fun i hi => (hr i hi).keep k⟩
theorem TreeAt.keep {S : Nat → Prop} {w w' : World} {v : Value} {t : Tre} (h : TreeAt S w v t) (k : Kept S w w') : TreeAt S w' v t := by
  obtain ⟨P, N, rfl, h1, h2⟩ := h
  exact ⟨P, N, rfl, h1.keep k, h2.keep k⟩
theorem SlAt.sub {S T : Nat → Prop} {w : World} {v : Value} {n : Nat} {f : Nat → Value} (h : SlAt S w v n f) (k : ∀ b, S b → b < w.heap.size → T b) : SlAt T w v n f := by
  obtain ⟨p, cap, rfl, hn, h⟩ := h
  refine ⟨p, cap, rfl, hn, ?_⟩
  rcases h with h | ⟨b, off, rfl, hS, h⟩
  · exact .inl h
  · by_cases hn0 : n = 0
    · exact .inl hn0
    · exact .inr ⟨b, off, rfl, k b hS (World.block_lt_of_cell? w _ (h 0 (by omega))), h⟩
theorem IntsAt.sub {S T : Nat → Prop} {w : World} {v : Value} {xs : List Int} (h : IntsAt S w v xs) (k : ∀ b, S b → b < w.heap.size → T b) : IntsAt T w v xs := SlAt.sub h k
theorem StrsAt.sub {S T : Nat → Prop} {w : World} {v : Value} {xs : List ByteArray} (h : StrsAt S w v xs) (k : ∀ b, S b → b < w.heap.size → T b) : StrsAt T w v xs := SlAt.sub h k
theorem RowsAt.sub {S T : Nat → Prop} {w : World} {v : Value} {xs : List (List Int)} (h : RowsAt S w v xs) (k : ∀ b, S b → b < w.heap.size → T b) : RowsAt T w v xs := by
  obtain ⟨f, h, hr⟩ := h
  exact ⟨f, h.sub k, fun i hi => (hr i hi).sub k⟩
theorem TreeAt.sub {S T : Nat → Prop} {w : World} {v : Value} {t : Tre} (h : TreeAt S w v t) (k : ∀ b, S b → b < w.heap.size → T b) : TreeAt T w v t := by
  obtain ⟨P, N, rfl, h1, h2⟩ := h
  exact ⟨P, N, rfl, h1.sub k, h2.sub k⟩
theorem Kept.below {S : Nat → Prop} {a b : World} (h : Below a.heap.size a b) : Kept S a b := fun i _ hl => h.block i hl
theorem SlAt.open {S : Nat → Prop} {w : World} {v : Value} {n : Nat} {f : Nat → Value} (h : SlAt S w v n f) :
    ∃ p cap, v = .slice p n cap ∧ n ≤ cap ∧ ∀ k, k < n → ∃ b off, p = some ⟨b, off, none⟩ ∧ w.cell? ⟨b, off + k, none⟩ = some (f k) := by
  obtain ⟨p, cap, rfl, hn, h⟩ := h
  refine ⟨p, cap, rfl, hn, fun k hk => ?_⟩
  rcases h with h | ⟨b, off, rfl, _, h⟩
  · omega
  · exact ⟨b, off, rfl, h k hk⟩
theorem below_drewN {B : Nat} {a w : World} (h : Below B a w) (n : Nat) : Below B a (w.drewN n) := ⟨h.os, h.tape, h.output, h.size, h.block⟩
theorem ret_int {k : IntKind} {a b : Int} (h : a = b) : Ending.returned (.int k a) = .returned (.int k b) := by rw [h]
theorem ret_bool {a b : Bool} (h : a = b) : Ending.returned (.bool a) = .returned (.bool b) := by rw [h]
end Go.Proofs.YtcbmbhghmfehpaaGreat
namespace Go.Proofs
open Go.Shelf
def Tryz.lays106_ren : Go.Shelf.Ren := ⟨fun | 106 => 219 | 213 => 246 | 265 => 260 | n => n, fun | 9 => 9 | 3 => 3 | n => n, fun | n => n⟩
theorem Tryz.lays106 : Go.Proofs.Lays.n106 Tryz.prog Tryz.lays106_ren := {
  mixed := by kernel_rfl
  f106 := Tryz.func219.trans (congrArg some (by kernel_rfl))
  f213 := Tryz.func246.trans (congrArg some (by kernel_rfl))
  f265 := Tryz.func260.trans (congrArg some (by kernel_rfl))
  t3 := Tryz.underlying3
  a3 := Tryz.isAgg3
  z3 := Tryz.sizeOf3
  v3 := Tryz.zeroValue3
  t9 := Tryz.underlying9
  a9 := Tryz.isAgg9
  z9 := Tryz.sizeOf9
  v9 := Tryz.zeroValue9 }
open Go.RowKit in
theorem Tryz.strings_Compare (a b : ByteArray) (w : World) :
    Calls Tryz.prog 219 #[.string a, .string b] w fun e w' => e = .returned (.int .i64 (Lib.compareBytes a.data.toList b.data.toList)) ∧ w' = w := Any.strings_Compare Tryz.lays106 a b w
def Tryz.lays137_ren : Go.Shelf.Ren := ⟨fun | 137 => 238 | 217 => 250 | 266 => 262 | n => n, fun | 9 => 9 | 5 => 5 | 3 => 3 | n => n, fun | n => n⟩
theorem Tryz.lays137 : Go.Proofs.Lays.n137 Tryz.prog Tryz.lays137_ren := {
  mixed := by kernel_rfl
  f137 := Tryz.func238.trans (congrArg some (by kernel_rfl))
  f217 := Tryz.func250.trans (congrArg some (by kernel_rfl))
  f266 := Tryz.func262.trans (congrArg some (by kernel_rfl))
  t3 := Tryz.underlying3
  a3 := Tryz.isAgg3
  z3 := Tryz.sizeOf3
  v3 := Tryz.zeroValue3
  t5 := Tryz.underlying5
  a5 := Tryz.isAgg5
  z5 := Tryz.sizeOf5
  v5 := Tryz.zeroValue5
  t9 := Tryz.underlying9
  a9 := Tryz.isAgg9
  z9 := Tryz.sizeOf9
  v9 := Tryz.zeroValue9 }
open Go.RowKit in
theorem Tryz.strings_IndexByte (s : ByteArray) (c : Int) (w : World) :
    Calls Tryz.prog 238 #[.string s, .int .u8 c] w fun e w' => e = .returned (.int .i64 (Lib.indexByte s.data.toList c.toNat.toUInt8)) ∧ w' = w := Any.strings_IndexByte Tryz.lays137 s c w
end Go.Proofs
namespace Go.Proofs.YtcbmbhghmfehpaaGreat
open Go.RowKit Go.Deep
def punS : ByteArray := ⟨#[46, 44, 59, 58, 33, 63, 40, 41, 45]⟩
theorem pun_ix : ∀ c, c < 256 → (decide (0 ≤ Lib.indexByte punS.data.toList c.toUInt8)) = isPun c := by
  decide +kernel
theorem ofk {a b : Int} (h : a = b) {w w' : World} (hw : w = w') : Ending.returned (.int .i64 a) = .returned (.int .i64 b) ∧ w = w' := ⟨by rw [h], hw⟩
theorem pun_iff {c : Nat} {x : Int} (hc : c < 256) (hx : Lib.indexByte [46, 44, 59, 58, 33, 63, 40, 41, 45] ((c : Int).toNat).toUInt8 = x) : 0 ≤ x ↔ isPun c = true := by
  have h := pun_ix c hc
  rw [← h, ← hx]; simp [punS]
set_option maxRecDepth 100000 in
set_option maxHeartbeats 400000 in
theorem kind_t (c : Nat) (hc : c < 256) (w : World) : Calls Tryz.prog 222 #[.int .u8 c] w fun e w' => e = .returned (.int .i64 (kindL c)) ∧ w = w' := by
  go_enter Tryz.func222, Tryz.ntmps222
  go_wp2_with (go_at_call 238; refine (Tryz.strings_IndexByte _ _ _).mono ?_; rintro e w' ⟨rfl, rfl⟩; generalize hx : Lib.indexByte _ _ = x)
  all_goals (try go_ret)
  all_goals (refine ofk ?_ rfl)
  all_goals (first | (have h5 := pun_iff hc ‹Lib.indexByte _ _ = _›; unfold kindL isLet; by_cases hp : isPun c = true <;> simp only [hp] at * <;> simp at * <;> omega) | (simp [kindL, isLet, isPun] at *; done) | (simp [kindL, isLet, isPun] at *; omega))
end Go.Proofs.YtcbmbhghmfehpaaGreat
namespace Go.Proofs.YtcbmbhghmfehpaaGreat
open Go.RowKit Go.Deep
theorem kind_aln (c : UInt8) : (kindL c.toNat = 1 ∨ kindL c.toNat = 3) ↔ aln c = true := by
  unfold kindL aln isLet; simp only [Bool.or_eq_true, Bool.and_eq_true, decide_eq_true_eq]
  repeat' split
  all_goals simp at *
  all_goals omega
theorem cntA_le (l : List UInt8) : cntA l ≤ l.length := List.countP_le_length
theorem cntA_snoc (l : List UInt8) (c : UInt8) : cntA (l ++ [c]) = cntA l + if aln c then 1 else 0 := by
  simp [cntA, List.countP_append, List.countP_cons]
theorem take_snoc (s : ByteArray) (k : Nat) (h : k < s.size) : s.data.toList.take (k + 1) = s.data.toList.take k ++ [s[k]] := by
  rw [List.take_succ_eq_append_getElem (by simpa using h)]; rfl
theorem cntA_all (l : List UInt8) : cntA l = l.length ↔ l.all aln = true := by
  simp [cntA, List.countP_eq_length]
theorem letters_step (s : ByteArray) (k : Nat) (h : k < s.size) : cntA (s.data.toList.take (k + 1)) = cntA (s.data.toList.take k) + if aln s[k] then 1 else 0 := by
  rw [take_snoc s k h, cntA_snoc]
set_option maxHeartbeats 400000 in
theorem letters_t (s : ByteArray) (hs : s.size ≤ 70000) (w : World) : Calls Tryz.prog 191 #[.string s] w fun e w' => e = .returned (.int .i64 (cntA s.data.toList)) ∧ w = w' := by
  go_enter Tryz.func191, Tryz.ntmps191
  go_wp2
  go_loop [3, 4, 5, 8] (fun n _ _ i => ∃ k : Nat, k ≤ s.size ∧ i = .int .i64 k ∧ n = .int .i64 (cntA (s.data.toList.take k))) (fun _ _ _ i => s.size - (intOf i).toNat)
  case atStart => exact ⟨0, Nat.zero_le _, rfl, rfl⟩
  case round =>
    obtain ⟨k, hk, rfl, rfl⟩ := hrel
    have hb : cntA (s.data.toList.take k) ≤ 70000 := Nat.le_trans (cntA_le _) (by simp; omega)
    by_cases hlt : k < s.size
    · have hst := letters_step s k hlt
      have hk' := kind_aln s[k]
      have hc : s[k].toNat < 256 := s[k].toNat_lt
      generalize hm : cntA (s.data.toList.take k) = m at *
      have HS := Lib.hid hst
      have HK := Lib.hid hk'
      clear hst hm hk'
      go_wp2_with (go_at_call 222; refine (kind_t _ hc _).mono ?_; rintro e w' ⟨rfl, rfl⟩; generalize kindL _ = q at *)
      all_goals
        go_round
        case rel => exact ⟨k + 1, by omega, by go_num, by rw [HS.out]; first | (rw [if_pos (HK.out.1 (by first | omega | (simp only [beq_iff_eq] at *; omega)))]; go_num) | (rw [if_neg (fun h => by have := HK.out.2 h; simp only [beq_eq_false_iff_ne, ne_eq] at *; omega)]; go_num)⟩
        case measure => simp [intOf]; omega
    · go_wp2
      go_ret
      exact ⟨ret_int (by rw [List.take_of_length_le (by simp; omega)]), rfl⟩
set_option maxHeartbeats 400000 in
theorem isName_t (s : ByteArray) (hs : s.size ≤ 70000) (w : World) : Calls Tryz.prog 143 #[.string s] w fun e w' => e = .returned (.bool (isNameB s.data.toList)) ∧ w = w' := by
  have hl : s.data.toList.length = s.size := by simp
  have ha := cntA_all s.data.toList
  have hle := cntA_le s.data.toList
  have he : s.data.toList = [] ↔ s.size = 0 := by rw [← List.length_eq_zero_iff, hl]
  rw [hl] at ha hle
  have HA := Lib.hid ha
  have HL := Lib.hid hl
  have HE := Lib.hid he
  clear ha hl he
  have hE1 := toList_nil s
  have hfin : isNameB s.data.toList = decide (1 ≤ s.size ∧ s.size ≤ 16 ∧ cntA s.data.toList = s.size) := by
    unfold isNameB; rw [HL.out, Bool.eq_iff_iff]; simp only [Bool.and_eq_true, decide_eq_true_eq]; rw [← HA.out, and_assoc]
  have HF := Lib.hid hfin
  have HE1 := Lib.hid hE1
  clear hfin hE1 HA HL HE
  generalize hm : cntA s.data.toList = m at *
  have HM := Lib.hid hm
  clear hm
  go_enter Tryz.func143, Tryz.ntmps143
  go_wp2_with (go_at_call 191; refine (letters_t _ hs _).mono ?_; rintro e w' ⟨rfl, rfl⟩; rw [HM.out])
  all_goals go_ret
  all_goals refine ⟨ret_bool ?_, rfl⟩
  all_goals rw [HF.out]
  · have := HE1.out.1 ‹_›; simp; omega
  · have hne : ¬ s.size = 0 := fun h => ‹¬ s.toList = []› (HE1.out.2 h)
    have hne2 : s.toList.isEmpty = false := by simpa using ‹¬ s.toList = []›
    rw [Bool.eq_iff_iff]; simp [hne2]; omega
  · simp; omega

theorem aln_star : aln 42 = false := by decide
theorem isNameB_star (l : List UInt8) (h : l.getLast? = some 42) : isNameB l = false := by
  obtain ⟨a, rfl⟩ := List.getLast?_eq_some_iff.1 h
  simp [isNameB, aln_star]
theorem star_iff (s : ByteArray) (h1 : 1 ≤ s.size) : (s.extract (s.size - 1) s.size).toList = [42] ↔ s.data.toList.getLast? = some 42 := by
  have hl := size_data s
  rw [toList_data, ByteArray.data_extract, Array.toList_extract, List.extract_eq_take_drop]
  generalize s.data.toList = l at *
  have hne : l ≠ [] := by intro e; rw [e] at hl; simp at hl; omega
  rw [← hl]
  clear hl h1
  obtain ⟨a, x, rfl⟩ : ∃ a x, l = a ++ [x] := ⟨l.dropLast, l.getLast hne, (List.dropLast_concat_getLast hne).symm⟩
  simp
theorem cut_star (s : ByteArray) : (s.extract 0 (s.size - 1)).data.toList = s.data.toList.dropLast := by
  have hl := size_data s
  rw [ByteArray.data_extract, Array.toList_extract, List.extract_eq_take_drop, List.dropLast_eq_take, hl]
  simp
def CutPost (s : ByteArray) (e : Ending) : Prop := (s.data.toList.getLast? = some 42 ∧ ∃ r : ByteArray, r.size ≤ s.size ∧ r.data.toList = s.data.toList.dropLast ∧ e = .returned (.tuple #[.string r, .bool true])) ∨ (s.data.toList.getLast? ≠ some 42 ∧ e = .returned (.tuple #[.string s, .bool false]))
set_option maxHeartbeats 400000 in
theorem suffix_t (s : ByteArray) (hs : s.size ≤ 70000) (w : World) : Calls Tryz.prog 142 #[.string s, .string ⟨#[42]⟩] w fun e w' => CutPost s e ∧ w = w' := by
  by_cases h0 : s.size = 0
  · have hc : s.data.toList = [] := by rw [← toList_data]; exact (toList_nil s).2 h0
    have HC := Lib.hid hc
    clear hc
    go_enter Tryz.func142, Tryz.ntmps142
    go_wp2
    go_ret2
    exact ⟨.inr ⟨by rw [HC.out]; simp, rfl⟩, rfl⟩
  · have h1 : 1 ≤ s.size := by omega
    clear h0
    go_enter Tryz.func142, Tryz.ntmps142
    go_wp2
    · go_ret2
      refine ⟨.inr ⟨fun e => ?_, rfl⟩, rfl⟩
      have := (star_iff s h1).2 e
      simp_all
    · go_ret2
      have h2 := ‹(!(s.extract (s.size - 1) s.size).toList == [42]) = false›
      exact ⟨.inl ⟨(star_iff s h1).1 (by simpa using h2), s.extract 0 (s.size - 1), by simp, cut_star s, rfl⟩, rfl⟩
set_option maxHeartbeats 400000 in
theorem named_t (s : ByteArray) (hs : s.size ≤ 70000) (w : World) : Calls Tryz.prog 124 #[.string s] w fun e w' => e = .returned (.bool (namedB s.data.toList)) ∧ w = w' := by
  have hl := size_data s
  have HL := Lib.hid hl
  clear hl
  go_enter Tryz.func124, Tryz.ntmps124
  go_wp2_with fail
  refine (suffix_t s hs _).mono ?_
  rintro e w' ⟨⟨h1, r, hr, hd, rfl⟩ | ⟨h1, rfl⟩, rfl⟩
  · have hf : namedB s.data.toList = (decide (s.size ≤ 16) && isNameB r.data.toList) := by
      unfold namedB; rw [if_pos h1, hd, HL.out, Bool.and_comm]
    have HF := Lib.hid hf
    clear hf hd h1
    go_wp2_with (go_at_call 143; refine (isName_t r (by omega) _).mono ?_; rintro e w' ⟨rfl, rfl⟩)
    all_goals
      go_ret
      refine ⟨ret_bool ?_, rfl⟩
      rw [HF.out, Bool.eq_iff_iff]
      simp at *
      try omega
  · have hf : namedB s.data.toList = isNameB s.data.toList := by unfold namedB; rw [if_neg h1]
    have HF := Lib.hid hf
    clear hf h1
    go_wp2_with (go_at_call 143; refine (isName_t s hs _).mono ?_; rintro e w' ⟨rfl, rfl⟩)
    go_ret
    exact ⟨ret_bool (by rw [HF.out]), rfl⟩
end Go.Proofs.YtcbmbhghmfehpaaGreat
namespace Go.Proofs.YtcbmbhghmfehpaaGreat
open Go.RowKit Go.Deep
theorem str_yes {x y : ByteArray} (h : (x.toList == y.toList) = true) : x = y := by
  rw [beq_iff_eq, toList_data, toList_data] at h; exact ba_ext h
theorem str_no {x y : ByteArray} (h : (x.toList == y.toList) = false) : ¬ x = y := by
  rintro rfl; simp at h
set_option maxHeartbeats 400000 in
theorem index_str_t (S : Nat → Prop) (w : World) (v : Value) (n : Nat) (f : Nat → ByteArray) (x : ByteArray) (h : SlAt S w v n (fun k => .string (f k))) (hn : n ≤ 1000000) :
    Calls Tryz.prog 41 #[v, .string x] w fun e w' => e = .returned (.int .i64 (firstIx (fun j => decide (x = f j)) n)) ∧ w = w' := by
  obtain ⟨p, cap, rfl, hcap, H⟩ := h.open
  clear h
  go_enter Tryz.func41, Tryz.ntmps41
  go_wp2
  go_loop [5, 8] (fun _ i => ∃ k : Nat, k ≤ n ∧ i = .int .i64 k ∧ Hid (∀ j, j < k → decide (x = f j) = false)) (fun _ i => n - (intOf i).toNat)
  case atStart => exact ⟨0, Nat.zero_le _, rfl, fun j hj => absurd hj (Nat.not_lt_zero _)⟩
  case round =>
    obtain ⟨k, hk, rfl, hd⟩ := hrel
    by_cases hlt : k < n
    · obtain ⟨b, off, rfl, hc⟩ := H k hlt
      clear H
      go_wp2
      · have hx := str_yes ‹(x.toList == (f k).toList) = true›
        go_ret
        exact ⟨ret_int (firstIx_at (p := fun j => decide (x = f j)) hlt hd.out (by simpa using hx)).symm, rfl⟩
      · have hx := str_no ‹(x.toList == (f k).toList) = false›
        go_round
        case rel => exact ⟨k + 1, by omega, by go_num, fun j hj => if e : j = k then by subst e; simpa using hx else hd.out j (by omega)⟩
        case measure => simp [intOf]; omega
    · clear H
      go_wp2
      go_ret
      exact ⟨ret_int (firstIx_none fun j hj => hd.out j (by omega)).symm, rfl⟩
set_option maxHeartbeats 400000 in
theorem contains_str_t (S : Nat → Prop) (w : World) (v : Value) (n : Nat) (f : Nat → ByteArray) (x : ByteArray) (h : SlAt S w v n (fun k => .string (f k))) (hn : n ≤ 1000000) :
    Calls Tryz.prog 80 #[v, .string x] w fun e w' => e = .returned (.bool ((List.range n).any fun j => decide (x = f j))) ∧ w = w' := by
  have hx := firstIx_any (fun j => decide (x = f j)) n
  have HX := Lib.hid hx
  clear hx
  go_enter Tryz.func80, Tryz.ntmps80
  go_wp2_with (go_at_call 41; refine (index_str_t S w v n f x h hn).mono ?_; rintro e w' ⟨rfl, rfl⟩)
  go_ret
  exact ⟨ret_bool (by rw [← HX.out]), rfl⟩
end Go.Proofs.YtcbmbhghmfehpaaGreat
namespace Go.Proofs.YtcbmbhghmfehpaaGreat
open Go.RowKit Go.Deep
def FnIs (g : Nat) (lb args : Array Value) (res : Value) (w : World) : Prop := Calls Tryz.prog g (args ++ lb) w fun e w' => e = .returned res ∧ w = w'
set_option maxHeartbeats 400000 in
theorem ints_ix_t (g : Nat) (lb : Array Value) (eg : ∀ args w, (callFunc g args).run Tryz.prog w = .ok (.enter g args) w) (S : Nat → Prop) (w : World) (v : Value) (n : Nat) (f : Nat → Value) (p : Nat → Bool)
    (h : SlAt S w v n f) (hn : n ≤ 1000000) (hp : ∀ k, k < n → FnIs g lb #[f k] (.bool (p k)) w) :
    Calls Tryz.prog 139 #[v, .func (.func g) #[] lb] w fun e w' => e = .returned (.int .i64 (firstIx p n)) ∧ w = w' := by
  obtain ⟨q, cap, rfl, hcap, H⟩ := h.open
  have HP := Lib.hid hp
  clear h hp
  go_enter Tryz.func139, Tryz.ntmps139
  go_wp2_with fail
  go_loop [5, 8] (fun _ i => ∃ k : Nat, k ≤ n ∧ i = .int .i64 k ∧ Hid (∀ j, j < k → p j = false)) (fun _ i => n - (intOf i).toNat)
  case atStart => exact ⟨0, Nat.zero_le _, rfl, fun j hj => absurd hj (Nat.not_lt_zero _)⟩
  case round =>
    obtain ⟨k, hk, rfl, hd⟩ := hrel
    by_cases hlt : k < n
    · obtain ⟨b, off, rfl, hc⟩ := H k hlt
      clear H
      have hpk := HP.out k hlt
      unfold FnIs at hpk
      have HPK := Lib.hid hpk
      clear hpk HP
      generalize hv : p k = pk at *
      have HV := Lib.hid hv
      clear hv
      cases pk
      · go_wp2_with fail
        refine HPK.out.mono ?_
        rintro e w' ⟨rfl, rfl⟩
        go_wp2_with fail
        go_round
        case rel => exact ⟨k + 1, by omega, by go_num, fun j hj => if e : j = k then by subst e; exact HV.out else hd.out j (by omega)⟩
        case measure => simp [intOf]; omega
      · go_wp2_with fail
        refine HPK.out.mono ?_
        rintro e w' ⟨rfl, rfl⟩
        go_wp2_with fail
        go_ret
        exact ⟨ret_int (firstIx_at hlt hd.out HV.out).symm, rfl⟩
    · clear H
      go_wp2_with fail
      go_ret
      exact ⟨ret_int (firstIx_none fun j hj => hd.out j (by omega)).symm, rfl⟩
set_option maxHeartbeats 400000 in
theorem ints_has_t (g : Nat) (lb : Array Value) (eg : ∀ args w, (callFunc g args).run Tryz.prog w = .ok (.enter g args) w) (S : Nat → Prop) (w : World) (v : Value) (n : Nat) (f : Nat → Value) (p : Nat → Bool)
    (h : SlAt S w v n f) (hn : n ≤ 1000000) (hp : ∀ k, k < n → FnIs g lb #[f k] (.bool (p k)) w) :
    Calls Tryz.prog 70 #[v, .func (.func g) #[] lb] w fun e w' => e = .returned (.bool ((List.range n).any p)) ∧ w = w' := by
  have hx := firstIx_any p n
  have HX := Lib.hid hx
  have HI := Lib.hid (ints_ix_t g lb eg S w v n f p h hn hp)
  clear hx hp h eg
  go_enter Tryz.func70, Tryz.ntmps70
  go_wp2_with fail
  refine HI.out.mono ?_
  rintro e w' ⟨rfl, rfl⟩
  go_wp2_with fail
  go_ret
  exact ⟨ret_bool (by rw [← HX.out]), rfl⟩
end Go.Proofs.YtcbmbhghmfehpaaGreat
