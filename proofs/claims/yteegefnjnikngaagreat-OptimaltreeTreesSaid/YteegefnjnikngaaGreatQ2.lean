/- Ways in which lists lie in memory, and what keeps them: for the walks of this seat. .. -/
import Derived.Test.YteegefnjnikngaaGreatQ1
import Derived.WalkKit
import Derived.WalkSpells
import Derived.WalkLawsBesides
import Derived.Deep.OwnRows
import Derived.Deep.QuietTactic
import Derived.BigQuiet
import Derived.Lib.Hide
import Derived.Shelf.Small.Strs
import Derived.Test.YteegefnjnikngaaGreatProg
set_option maxRecDepth 100000
namespace Go.Proofs.YteegefnjnikngaaGreat
open Go.RowKit Go.Deep

def aA (S : Nat → Prop) (w : World) (v : Value) (n : Nat) (f : Nat → Value) : Prop :=
 ∃ p cap, v = .slice p n cap ∧ n ≤ cap ∧ (n = 0 ∨ ∃ b off, p = some ⟨b, off, none⟩ ∧ S b ∧ ∀ k, k < n → w.cell? ⟨b, off + k, none⟩ = some (f k))
def ax (S : Nat → Prop) (w : World) (v : Value) (xs : List Int) : Prop := aA S w v xs.length (fun k => .int .i64 (gi xs k))
def au (S : Nat → Prop) (w : World) (v : Value) (xs : List ByteArray) : Prop := aA S w v xs.length (fun k => .string (gs xs k))
def aX (S : Nat → Prop) (w : World) (v : Value) (xs : List (List Int)) : Prop := ∃ f, aA S w v xs.length f ∧ ∀ k, k < xs.length → ax S w (f k) (gl xs k)
def ay (S : Nat → Prop) (w : World) (v : Value) (t : av) : Prop := ∃ P N, v = .agg #[P, N] ∧ ax S w P t.ps ∧ au S w N t.ns

def Kept (S : Nat → Prop) (w w' : World) : Prop := ∀ b, S b → b < w.heap.size → w'.heap[b]? = w.heap[b]?
def Any (_ : Nat) : Prop := True

theorem aA.keep {S : Nat → Prop} {w w' : World} {v : Value} {n : Nat} {f : Nat → Value} (h : aA S w v n f) (k : Kept S w w') : aA S w' v n f := by
 obtain ⟨p, cap, rfl, hn, h⟩ := h
 refine ⟨p, cap, rfl, hn, ?_⟩
 rcases h with h | ⟨b, off, rfl, hS, h⟩
 ·exact .inl h
 ·refine .inr ⟨b, off, rfl, hS, fun i hi => ?_⟩
  have hlt : b < w.heap.size := World.block_lt_of_cell? w _ (h i hi)
  rw [World.cell?_of_block (a := ⟨b, off + i, none⟩) (k b hS hlt)]
  exact h i hi
theorem ax.keep {S : Nat → Prop} {w w' : World} {v : Value} {xs : List Int} (h : ax S w v xs) (k : Kept S w w') : ax S w' v xs := aA.keep h k
theorem au.keep {S : Nat → Prop} {w w' : World} {v : Value} {xs : List ByteArray} (h : au S w v xs) (k : Kept S w w') : au S w' v xs := aA.keep h k
theorem aX.keep {S : Nat → Prop} {w w' : World} {v : Value} {xs : List (List Int)} (h : aX S w v xs) (k : Kept S w w') : aX S w' v xs := by
 obtain ⟨f, h, hr⟩ := h
 exact ⟨f, h.keep k, fun i hi => (hr i hi).keep k⟩
theorem ay.keep {S : Nat → Prop} {w w' : World} {v : Value} {t : av} (h : ay S w v t) (k : Kept S w w') : ay S w' v t := by
 obtain ⟨P, N, rfl, h1, h2⟩ := h
 exact ⟨P, N, rfl, h1.keep k, h2.keep k⟩
theorem aA.sub {S T : Nat → Prop} {w : World} {v : Value} {n : Nat} {f : Nat → Value} (h : aA S w v n f) (k : ∀ b, S b → b < w.heap.size → T b) : aA T w v n f := by
 obtain ⟨p, cap, rfl, hn, h⟩ := h
 refine ⟨p, cap, rfl, hn, ?_⟩
 rcases h with h | ⟨b, off, rfl, hS, h⟩
 ·exact .inl h
 ·by_cases hn0 : n = 0
  ·exact .inl hn0
  ·exact .inr ⟨b, off, rfl, k b hS (World.block_lt_of_cell? w _ (h 0 (by omega))), h⟩
theorem ax.sub {S T : Nat → Prop} {w : World} {v : Value} {xs : List Int} (h : ax S w v xs) (k : ∀ b, S b → b < w.heap.size → T b) : ax T w v xs := aA.sub h k
theorem au.sub {S T : Nat → Prop} {w : World} {v : Value} {xs : List ByteArray} (h : au S w v xs) (k : ∀ b, S b → b < w.heap.size → T b) : au T w v xs := aA.sub h k
theorem aX.sub {S T : Nat → Prop} {w : World} {v : Value} {xs : List (List Int)} (h : aX S w v xs) (k : ∀ b, S b → b < w.heap.size → T b) : aX T w v xs := by
 obtain ⟨f, h, hr⟩ := h
 exact ⟨f, h.sub k, fun i hi => (hr i hi).sub k⟩
theorem ay.sub {S T : Nat → Prop} {w : World} {v : Value} {t : av} (h : ay S w v t) (k : ∀ b, S b → b < w.heap.size → T b) : ay T w v t := by
 obtain ⟨P, N, rfl, h1, h2⟩ := h
 exact ⟨P, N, rfl, h1.sub k, h2.sub k⟩
theorem Kept.below {S : Nat → Prop} {a b : World} (h : Below a.heap.size a b) : Kept S a b := fun i _ hl => h.block i hl
theorem aA.open {S : Nat → Prop} {w : World} {v : Value} {n : Nat} {f : Nat → Value} (h : aA S w v n f) :
  ∃ p cap, v = .slice p n cap ∧ n ≤ cap ∧ ∀ k, k < n → ∃ b off, p = some ⟨b, off, none⟩ ∧ w.cell? ⟨b, off + k, none⟩ = some (f k) := by
 obtain ⟨p, cap, rfl, hn, h⟩ := h
 refine ⟨p, cap, rfl, hn, fun k hk => ?_⟩
 rcases h with h | ⟨b, off, rfl, _, h⟩
 ·omega
 ·exact ⟨b, off, rfl, h k hk⟩
theorem below_drewN {B : Nat} {a w : World} (h : Below B a w) (n : Nat) : Below B a (w.drewN n) := ⟨h.os, h.tape, h.output, h.size, h.block⟩
theorem aH {k : IntKind} {a b : Int} (h : a = b) : Ending.returned (.int k a) = .returned (.int k b) := by rw [h]
theorem bB {a b : Bool} (h : a = b) : Ending.returned (.bool a) = .returned (.bool b) := by rw [h]
end Go.Proofs.YteegefnjnikngaaGreat
namespace Go.Proofs
open Go.Shelf
def Tryz.lays106_ren : Go.Shelf.Ren := ⟨fun | 106 => 223 | 213 => 268 | 265 => 297 | n => n, fun | 9 => 9 | 3 => 3 | n => n, fun | n => n⟩
theorem Tryz.lays106 : Go.Proofs.Lays.n106 Tryz.prog Tryz.lays106_ren := {
 mixed := by kernel_rfl
 f106 := Tryz.func223.trans (congrArg some (by kernel_rfl))
 f213 := Tryz.func268.trans (congrArg some (by kernel_rfl))
 f265 := Tryz.func297.trans (congrArg some (by kernel_rfl))
 t3 := Tryz.underlying3
 a3 := Tryz.isAgg3
 z3 := Tryz.sizeOf3
 v3 := Tryz.zeroValue3
 t9 := Tryz.underlying9
 a9 := Tryz.isAgg9
 z9 := Tryz.sizeOf9
 v9 := Tryz.zeroValue9 }
open Go.RowKit in
theorem Tryz.strings_Compare (a b : ByteArray) (w : World) :
  Calls Tryz.prog 223 #[.string a, .string b] w fun e w' => e = .returned (.int .i64 (Lib.compareBytes a.data.toList b.data.toList)) ∧ w' = w := Any.strings_Compare Tryz.lays106 a b w
def Tryz.lays137_ren : Go.Shelf.Ren := ⟨fun | 137 => 275 | 217 => 298 | 266 => 305 | n => n, fun | 9 => 9 | 5 => 5 | 3 => 3 | n => n, fun | n => n⟩
theorem Tryz.lays137 : Go.Proofs.Lays.n137 Tryz.prog Tryz.lays137_ren := {
 mixed := by kernel_rfl
 f137 := Tryz.func275.trans (congrArg some (by kernel_rfl))
 f217 := Tryz.func298.trans (congrArg some (by kernel_rfl))
 f266 := Tryz.func305.trans (congrArg some (by kernel_rfl))
 t3 := Tryz.underlying3
 a3 := Tryz.isAgg3
 z3 := Tryz.sizeOf3
 v3 := Tryz.zeroValue3
 t5 := Tryz.underlying5
 a5 := Tryz.isAgg5
 z5 := Tryz.sizeOf5
 v5 := Tryz.zeroValue5
 t9 := Tryz.underlying9
 a9 := Tryz.isAgg9
 z9 := Tryz.sizeOf9
 v9 := Tryz.zeroValue9 }
open Go.RowKit in
theorem Tryz.strings_IndexByte (s : ByteArray) (c : Int) (w : World) :
  Calls Tryz.prog 275 #[.string s, .int .u8 c] w fun e w' => e = .returned (.int .i64 (Lib.indexByte s.data.toList c.toNat.toUInt8)) ∧ w' = w := Any.strings_IndexByte Tryz.lays137 s c w
end Go.Proofs
namespace Go.Proofs.YteegefnjnikngaaGreat
section
open Go.RowKit Go.Deep
def R2 : ByteArray := ⟨#[46, 44, 59, 58, 33, 63, 40, 41, 45]⟩
theorem R3 : ∀ c, c < 256 → (decide (0 ≤ Lib.indexByte R2.data.toList c.toUInt8)) = r7 c := by
 decide +kernel
theorem ofk {a b : Int} (h : a = b) {w w' : World} (hw : w = w') : Ending.returned (.int .i64 a) = .returned (.int .i64 b) ∧ w = w' := ⟨by rw [h], hw⟩
theorem QB {c : Nat} {x : Int} (hc : c < 256) (hx : Lib.indexByte [46, 44, 59, 58, 33, 63, 40, 41, 45] ((c : Int).toNat).toUInt8 = x) : 0 ≤ x ↔ r7 c = true := by
 have h := R3 c hc
 rw [← h, ← hx]; simp [R2]
set_option maxHeartbeats 400000 in
theorem R4 (c : Nat) (hc : c < 256) (w : World) : Calls Tryz.prog 254 #[.int .u8 c] w fun e w' => e = .returned (.int .i64 (cm c)) ∧ w = w' := by
 go_enter Tryz.func254, Tryz.ntmps254
 go_wp2_with (go_at_call 275; refine (Tryz.strings_IndexByte _ _ _).mono ?_; rintro e w' ⟨rfl, rfl⟩; generalize hx : Lib.indexByte _ _ = x)
 all_goals (try go_ret)
 all_goals (refine ofk ?_ rfl)
 all_goals (first | (have h5 := QB hc ‹Lib.indexByte _ _ = _›; unfold cm isLet; by_cases hp : r7 c = true <;> simp only [hp] at * <;> simp at * <;> omega) | (simp [cm, isLet, r7] at *; done) | (simp [cm, isLet, r7] at *; omega))
end
section
open Go.RowKit Go.Deep
theorem oy (c : UInt8) : (cm c.toNat = 1 ∨ cm c.toNat = 3) ↔ nD c = true := by
 unfold cm nD isLet; simp only [Bool.or_eq_true, Bool.and_eq_true, decide_eq_true_eq]
 repeat' split
 all_goals simp at *
 all_goals omega
theorem zA (l : List UInt8) : iy l ≤ l.length := List.countP_le_length
theorem JK (l : List UInt8) (c : UInt8) : iy (l ++ [c]) = iy l + if nD c then 1 else 0 := by
 simp [iy, List.countP_append, List.countP_cons]
theorem JL (s : ByteArray) (k : Nat) (h : k < s.size) : s.data.toList.take (k + 1) = s.data.toList.take k ++ [s[k]] := by
 rw [List.take_succ_eq_append_getElem (by simpa using h)]; rfl
theorem CE (l : List UInt8) : iy l = l.length ↔ l.all nD = true := by
 simp [iy, List.countP_eq_length]
theorem ua (s : ByteArray) (k : Nat) (h : k < s.size) : iy (s.data.toList.take (k + 1)) = iy (s.data.toList.take k) + if nD s[k] then 1 else 0 := by
 rw [JL s k h, JK]
set_option maxHeartbeats 400000 in
theorem JM (s : ByteArray) (hs : s.size ≤ 70000) (w : World) : Calls Tryz.prog 196 #[.string s] w fun e w' => e = .returned (.int .i64 (iy s.data.toList)) ∧ w = w' := by
 go_enter Tryz.func196, Tryz.ntmps196
 go_wp2
 go_loop [3, 4, 5, 8] (fun n _ _ i => ∃ k : Nat, k ≤ s.size ∧ i = .int .i64 k ∧ n = .int .i64 (iy (s.data.toList.take k))) (fun _ _ _ i => s.size - (intOf i).toNat)
 case atStart => exact ⟨0, Nat.zero_le _, rfl, rfl⟩
 case round =>
  obtain ⟨k, hk, rfl, rfl⟩ := hrel
  have hb : iy (s.data.toList.take k) ≤ 70000 := Nat.le_trans (zA _) (by simp; omega)
  by_cases hlt : k < s.size
  ·have hst := ua s k hlt
   have hk' := oy s[k]
   have hc : s[k].toNat < 256 := s[k].toNat_lt
   generalize hm : iy (s.data.toList.take k) = m at *
   have HS := aa hst
   have HK := aa hk'
   clear hst hm hk'
   go_wp2_with (go_at_call 254; refine (R4 _ hc _).mono ?_; rintro e w' ⟨rfl, rfl⟩; generalize cm _ = q at *)
   all_goals
    go_round
    case rel => exact ⟨k + 1, by omega, by go_num, by rw [HS.out]; first | (rw [if_pos (HK.out.1 (by first | omega | (simp only [beq_iff_eq] at *; omega)))]; go_num) | (rw [if_neg (fun h => by have := HK.out.2 h; simp only [beq_eq_false_iff_ne, ne_eq] at *; omega)]; go_num)⟩
    case measure => simp [intOf]; omega
  ·go_wp2
   go_ret
   exact ⟨aH (by rw [List.take_of_length_le (by simp; omega)]), rfl⟩
set_option maxHeartbeats 400000 in
theorem CF (s : ByteArray) (hs : s.size ≤ 70000) (w : World) : Calls Tryz.prog 138 #[.string s] w fun e w' => e = .returned (.bool (cR s.data.toList)) ∧ w = w' := by
 have hl : s.data.toList.length = s.size := by simp
 have ha := CE s.data.toList
 have hle := zA s.data.toList
 have he : s.data.toList = [] ↔ s.size = 0 := by rw [← List.length_eq_zero_iff, hl]
 rw [hl] at ha hle
 have HA := aa ha
 have HL := aa hl
 have HE := aa he
 clear ha hl he
 have XH := toList_nil s
 have cD : cR s.data.toList = decide (1 ≤ s.size ∧ s.size ≤ 16 ∧ iy s.data.toList = s.size) := by
  unfold cR; rw [HL.out, Bool.eq_iff_iff]; simp only [Bool.and_eq_true, decide_eq_true_eq]; rw [← HA.out, and_assoc]
 have HF := aa cD
 have XI := aa XH
 clear cD XH HA HL HE
 generalize hm : iy s.data.toList = m at *
 have HM := aa hm
 clear hm
 go_enter Tryz.func138, Tryz.ntmps138
 go_wp2_with (go_at_call 196; refine (JM _ hs _).mono ?_; rintro e w' ⟨rfl, rfl⟩; rw [HM.out])
 all_goals go_ret
 all_goals refine ⟨bB ?_, rfl⟩
 all_goals rw [HF.out]
 ·have := XI.out.1 ‹_›; simp; omega
 ·have hne : ¬ s.size = 0 := fun h => ‹¬ s.toList = []› (XI.out.2 h)
  have zB : s.toList.isEmpty = false := by simpa using ‹¬ s.toList = []›
  rw [Bool.eq_iff_iff]; simp [zB]; omega
 ·simp; omega

theorem Mw : nD 42 = false := by decide
theorem ud (l : List UInt8) (h : l.getLast? = some 42) : cR l = false := by
 obtain ⟨a, rfl⟩ := List.getLast?_eq_some_iff.1 h
 simp [cR, Mw]
theorem CG (s : ByteArray) (h1 : 1 ≤ s.size) : (s.extract (s.size - 1) s.size).toList = [42] ↔ s.data.toList.getLast? = some 42 := by
 have hl := size_data s
 rw [toList_data, ByteArray.data_extract, Array.toList_extract, List.extract_eq_take_drop]
 generalize s.data.toList = l at *
 have hne : l ≠ [] := by intro e; rw [e] at hl; simp at hl; omega
 rw [← hl]
 clear hl h1
 obtain ⟨a, x, rfl⟩ : ∃ a x, l = a ++ [x] := ⟨l.dropLast, l.getLast hne, (List.dropLast_concat_getLast hne).symm⟩
 simp
theorem CH (s : ByteArray) : (s.extract 0 (s.size - 1)).data.toList = s.data.toList.dropLast := by
 have hl := size_data s
 rw [ByteArray.data_extract, Array.toList_extract, List.extract_eq_take_drop, List.dropLast_eq_take, hl]
 simp
def QC (s : ByteArray) (e : Ending) : Prop := (s.data.toList.getLast? = some 42 ∧ ∃ r : ByteArray, r.size ≤ s.size ∧ r.data.toList = s.data.toList.dropLast ∧ e = .returned (.tuple #[.string r, .bool true])) ∨ (s.data.toList.getLast? ≠ some 42 ∧ e = .returned (.tuple #[.string s, .bool false]))
set_option maxHeartbeats 400000 in
theorem Mx (s : ByteArray) (hs : s.size ≤ 70000) (w : World) : Calls Tryz.prog 209 #[.string s, .string ⟨#[42]⟩] w fun e w' => QC s e ∧ w = w' := by
 by_cases h0 : s.size = 0
 ·have hc : s.data.toList = [] := by rw [← toList_data]; exact (toList_nil s).2 h0
  have HC := aa hc
  clear hc
  go_enter Tryz.func209, Tryz.ntmps209
  go_wp2
  go_ret2
  exact ⟨.inr ⟨by rw [HC.out]; simp, rfl⟩, rfl⟩
 ·have h1 : 1 ≤ s.size := by omega
  clear h0
  go_enter Tryz.func209, Tryz.ntmps209
  go_wp2
  ·go_ret2
   refine ⟨.inr ⟨fun e => ?_, rfl⟩, rfl⟩
   have := (CG s h1).2 e
   simp_all
  ·go_ret2
   have h2 := ‹(!(s.extract (s.size - 1) s.size).toList == [42]) = false›
   exact ⟨.inl ⟨(CG s h1).1 (by simpa using h2), s.extract 0 (s.size - 1), by simp, CH s, rfl⟩, rfl⟩
set_option maxHeartbeats 400000 in
theorem qZ (s : ByteArray) (hs : s.size ≤ 70000) (w : World) : Calls Tryz.prog 148 #[.string s] w fun e w' => e = .returned (.bool (aP s.data.toList)) ∧ w = w' := by
 have hl := size_data s
 have HL := aa hl
 clear hl
 go_enter Tryz.func148, Tryz.ntmps148
 go_wp2_with fail
 refine (Mx s hs _).mono ?_
 rintro e w' ⟨⟨h1, r, hr, hd, rfl⟩ | ⟨h1, rfl⟩, rfl⟩
 ·have hf : aP s.data.toList = (decide (s.size ≤ 16) && cR r.data.toList) := by
   unfold aP; rw [if_pos h1, hd, HL.out, Bool.and_comm]
  have HF := aa hf
  clear hf hd h1
  go_wp2_with (go_at_call 138; refine (CF r (by omega) _).mono ?_; rintro e w' ⟨rfl, rfl⟩)
  all_goals
   go_ret
   refine ⟨bB ?_, rfl⟩
   rw [HF.out, Bool.eq_iff_iff]
   simp at *
   try omega
 ·have hf : aP s.data.toList = cR s.data.toList := by unfold aP; rw [if_neg h1]
  have HF := aa hf
  clear hf h1
  go_wp2_with (go_at_call 138; refine (CF s hs _).mono ?_; rintro e w' ⟨rfl, rfl⟩)
  go_ret
  exact ⟨bB (by rw [HF.out]), rfl⟩
end
section
open Go.RowKit Go.Deep
theorem zC {x y : ByteArray} (h : (x.toList == y.toList) = true) : x = y := by
 rw [beq_iff_eq, toList_data, toList_data] at h; exact dH h
theorem CI {x y : ByteArray} (h : (x.toList == y.toList) = false) : ¬ x = y := by
 rintro rfl; simp at h
set_option maxHeartbeats 400000 in
theorem wA (S : Nat → Prop) (w : World) (v : Value) (n : Nat) (f : Nat → ByteArray) (x : ByteArray) (h : aA S w v n (fun k => .string (f k))) (hn : n ≤ 1000000) :
  Calls Tryz.prog 102 #[v, .string x] w fun e w' => e = .returned (.int .i64 (bJ (fun j => decide (x = f j)) n)) ∧ w = w' := by
 obtain ⟨p, cap, rfl, hcap, H⟩ := h.open
 clear h
 go_enter Tryz.func102, Tryz.ntmps102
 go_wp2
 go_loop [5, 8] (fun _ i => ∃ k : Nat, k ≤ n ∧ i = .int .i64 k ∧ Hid (∀ j, j < k → decide (x = f j) = false)) (fun _ i => n - (intOf i).toNat)
 case atStart => exact ⟨0, Nat.zero_le _, rfl, fun j hj => absurd hj (Nat.not_lt_zero _)⟩
 case round =>
  obtain ⟨k, hk, rfl, hd⟩ := hrel
  by_cases hlt : k < n
  ·obtain ⟨b, off, rfl, hc⟩ := H k hlt
   clear H
   go_wp2
   ·have hx := zC ‹(x.toList == (f k).toList) = true›
    go_ret
    exact ⟨aH (kT (p := fun j => decide (x = f j)) hlt hd.out (by simpa using hx)).symm, rfl⟩
   ·have hx := CI ‹(x.toList == (f k).toList) = false›
    go_round
    case rel => exact ⟨k + 1, by omega, by go_num, fun j hj => if e : j = k then by subst e; simpa using hx else hd.out j (by omega)⟩
    case measure => simp [intOf]; omega
  ·clear H
   go_wp2
   go_ret
   exact ⟨aH (gO fun j hj => hd.out j (by omega)).symm, rfl⟩
set_option maxHeartbeats 400000 in
theorem fe (S : Nat → Prop) (w : World) (v : Value) (n : Nat) (f : Nat → ByteArray) (x : ByteArray) (h : aA S w v n (fun k => .string (f k))) (hn : n ≤ 1000000) :
  Calls Tryz.prog 39 #[v, .string x] w fun e w' => e = .returned (.bool ((List.range n).any fun j => decide (x = f j))) ∧ w = w' := by
 have hx := jR (fun j => decide (x = f j)) n
 have HX := aa hx
 clear hx
 go_enter Tryz.func39, Tryz.ntmps39
 go_wp2_with (go_at_call 102; refine (wA S w v n f x h hn).mono ?_; rintro e w' ⟨rfl, rfl⟩)
 go_ret
 exact ⟨bB (by rw [← HX.out]), rfl⟩
end
end Go.Proofs.YteegefnjnikngaaGreat
