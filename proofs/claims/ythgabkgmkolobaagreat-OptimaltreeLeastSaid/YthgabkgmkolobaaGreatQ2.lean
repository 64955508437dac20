/- Ways in which lists lie in memory, and what keeps them: for the walks of this seat. .. -/
import Derived.WalkKit
import Derived.WalkSpells
import Derived.WalkLawsBesides
import Derived.Deep.OwnRows
import Derived.Deep.QuietTactic
import Derived.BigQuiet
import Derived.Lib.Hide
import Derived.Test.YthgabkgmkolobaaGreatQ1
import Derived.Shelf.Small.Strs
import Derived.Test.YthgabkgmkolobaaGreatProg
set_option maxRecDepth 100000
namespace Go.Proofs.YthgabkgmkolobaaGreat
open Go.RowKit Go.Deep

def aB (S : Nat → Prop) (w : World) (v : Value) (n : Nat) (f : Nat → Value) : Prop :=
 ∃ p cap, v = .slice p n cap ∧ n ≤ cap ∧ (n = 0 ∨ ∃ b off, p = some ⟨b, off, none⟩ ∧ S b ∧ ∀ k, k < n → w.cell? ⟨b, off + k, none⟩ = some (f k))
def aq (S : Nat → Prop) (w : World) (v : Value) (xs : List Int) : Prop := aB S w v xs.length (fun k => .int .i64 (gi xs k))
def ah (S : Nat → Prop) (w : World) (v : Value) (xs : List ByteArray) : Prop := aB S w v xs.length (fun k => .string (gs xs k))
def aU (S : Nat → Prop) (w : World) (v : Value) (xs : List (List Int)) : Prop := ∃ f, aB S w v xs.length f ∧ ∀ k, k < xs.length → aq S w (f k) (gl xs k)
def aA (S : Nat → Prop) (w : World) (v : Value) (t : ay) : Prop := ∃ P N, v = .agg #[P, N] ∧ aq S w P t.ps ∧ ah S w N t.ns

def Kept (S : Nat → Prop) (w w' : World) : Prop := ∀ b, S b → b < w.heap.size → w'.heap[b]? = w.heap[b]?
def Any (_ : Nat) : Prop := True

theorem aB.keep {S : Nat → Prop} {w w' : World} {v : Value} {n : Nat} {f : Nat → Value} (h : aB S w v n f) (k : Kept S w w') : aB S w' v n f := by
 obtain ⟨p, cap, rfl, hn, h⟩ := h
 refine ⟨p, cap, rfl, hn, ?_⟩
 rcases h with h | ⟨b, off, rfl, hS, h⟩
 ·exact .inl h
 ·refine .inr ⟨b, off, rfl, hS, fun i hi => ?_⟩
  have hlt : b < w.heap.size := World.block_lt_of_cell? w _ (h i hi)
  rw [World.cell?_of_block (a := ⟨b, off + i, none⟩) (k b hS hlt)]
  exact h i hi
theorem aq.keep {S : Nat → Prop} {w w' : World} {v : Value} {xs : List Int} (h : aq S w v xs) (k : Kept S w w') : aq S w' v xs := aB.keep h k
theorem ah.keep {S : Nat → Prop} {w w' : World} {v : Value} {xs : List ByteArray} (h : ah S w v xs) (k : Kept S w w') : ah S w' v xs := aB.keep h k
theorem aU.keep {S : Nat → Prop} {w w' : World} {v : Value} {xs : List (List Int)} (h : aU S w v xs) (k : Kept S w w') : aU S w' v xs := by
 obtain ⟨f, h, hr⟩ := h
 exact ⟨f, h.keep k, fun i hi => (hr i hi).keep k⟩
theorem aA.keep {S : Nat → Prop} {w w' : World} {v : Value} {t : ay} (h : aA S w v t) (k : Kept S w w') : aA S w' v t := by
 obtain ⟨P, N, rfl, h1, h2⟩ := h
 exact ⟨P, N, rfl, h1.keep k, h2.keep k⟩
theorem aB.sub {S T : Nat → Prop} {w : World} {v : Value} {n : Nat} {f : Nat → Value} (h : aB S w v n f) (k : ∀ b, S b → b < w.heap.size → T b) : aB T w v n f := by
 obtain ⟨p, cap, rfl, hn, h⟩ := h
 refine ⟨p, cap, rfl, hn, ?_⟩
 rcases h with h | ⟨b, off, rfl, hS, h⟩
 ·exact .inl h
 ·by_cases hn0 : n = 0
  ·exact .inl hn0
  ·exact .inr ⟨b, off, rfl, k b hS (World.block_lt_of_cell? w _ (h 0 (by omega))), h⟩
theorem aq.sub {S T : Nat → Prop} {w : World} {v : Value} {xs : List Int} (h : aq S w v xs) (k : ∀ b, S b → b < w.heap.size → T b) : aq T w v xs := aB.sub h k
theorem ah.sub {S T : Nat → Prop} {w : World} {v : Value} {xs : List ByteArray} (h : ah S w v xs) (k : ∀ b, S b → b < w.heap.size → T b) : ah T w v xs := aB.sub h k
theorem aU.sub {S T : Nat → Prop} {w : World} {v : Value} {xs : List (List Int)} (h : aU S w v xs) (k : ∀ b, S b → b < w.heap.size → T b) : aU T w v xs := by
 obtain ⟨f, h, hr⟩ := h
 exact ⟨f, h.sub k, fun i hi => (hr i hi).sub k⟩
theorem aA.sub {S T : Nat → Prop} {w : World} {v : Value} {t : ay} (h : aA S w v t) (k : ∀ b, S b → b < w.heap.size → T b) : aA T w v t := by
 obtain ⟨P, N, rfl, h1, h2⟩ := h
 exact ⟨P, N, rfl, h1.sub k, h2.sub k⟩
theorem Kept.below {S : Nat → Prop} {a b : World} (h : Below a.heap.size a b) : Kept S a b := fun i _ hl => h.block i hl
theorem aB.open {S : Nat → Prop} {w : World} {v : Value} {n : Nat} {f : Nat → Value} (h : aB S w v n f) :
  ∃ p cap, v = .slice p n cap ∧ n ≤ cap ∧ ∀ k, k < n → ∃ b off, p = some ⟨b, off, none⟩ ∧ w.cell? ⟨b, off + k, none⟩ = some (f k) := by
 obtain ⟨p, cap, rfl, hn, h⟩ := h
 refine ⟨p, cap, rfl, hn, fun k hk => ?_⟩
 rcases h with h | ⟨b, off, rfl, _, h⟩
 ·omega
 ·exact ⟨b, off, rfl, h k hk⟩
theorem below_drewN {B : Nat} {a w : World} (h : Below B a w) (n : Nat) : Below B a (w.drewN n) := ⟨h.os, h.tape, h.output, h.size, h.block⟩
theorem aI {k : IntKind} {a b : Int} (h : a = b) : Ending.returned (.int k a) = .returned (.int k b) := by rw [h]
theorem aL {a b : Bool} (h : a = b) : Ending.returned (.bool a) = .returned (.bool b) := by rw [h]
end Go.Proofs.YthgabkgmkolobaaGreat
namespace Go.Proofs
open Go.Shelf
def Tryz.lays106_ren : Go.Shelf.Ren := ⟨fun | 106 => 242 | 213 => 272 | 265 => 289 | n => n, fun | 9 => 9 | 3 => 3 | n => n, fun | n => n⟩
theorem Tryz.lays106 : Go.Proofs.Lays.n106 Tryz.prog Tryz.lays106_ren := {
 mixed := by kernel_rfl
 f106 := Tryz.func242.trans (congrArg some (by kernel_rfl))
 f213 := Tryz.func272.trans (congrArg some (by kernel_rfl))
 f265 := Tryz.func289.trans (congrArg some (by kernel_rfl))
 t3 := Tryz.underlying3
 a3 := Tryz.isAgg3
 z3 := Tryz.sizeOf3
 v3 := Tryz.zeroValue3
 t9 := Tryz.underlying9
 a9 := Tryz.isAgg9
 z9 := Tryz.sizeOf9
 v9 := Tryz.zeroValue9 }
open Go.RowKit in
theorem Tryz.strings_Compare (a b : ByteArray) (w : World) :
  Calls Tryz.prog 242 #[.string a, .string b] w fun e w' => e = .returned (.int .i64 (Lib.compareBytes a.data.toList b.data.toList)) ∧ w' = w := Any.strings_Compare Tryz.lays106 a b w
def Tryz.lays137_ren : Go.Shelf.Ren := ⟨fun | 137 => 261 | 217 => 277 | 266 => 290 | n => n, fun | 9 => 9 | 5 => 5 | 3 => 3 | n => n, fun | n => n⟩
theorem Tryz.lays137 : Go.Proofs.Lays.n137 Tryz.prog Tryz.lays137_ren := {
 mixed := by kernel_rfl
 f137 := Tryz.func261.trans (congrArg some (by kernel_rfl))
 f217 := Tryz.func277.trans (congrArg some (by kernel_rfl))
 f266 := Tryz.func290.trans (congrArg some (by kernel_rfl))
 t3 := Tryz.underlying3
 a3 := Tryz.isAgg3
 z3 := Tryz.sizeOf3
 v3 := Tryz.zeroValue3
 t5 := Tryz.underlying5
 a5 := Tryz.isAgg5
 z5 := Tryz.sizeOf5
 v5 := Tryz.zeroValue5
 t9 := Tryz.underlying9
 a9 := Tryz.isAgg9
 z9 := Tryz.sizeOf9
 v9 := Tryz.zeroValue9 }
open Go.RowKit in
theorem Tryz.strings_IndexByte (s : ByteArray) (c : Int) (w : World) :
  Calls Tryz.prog 261 #[.string s, .int .u8 c] w fun e w' => e = .returned (.int .i64 (Lib.indexByte s.data.toList c.toNat.toUInt8)) ∧ w' = w := Any.strings_IndexByte Tryz.lays137 s c w
end Go.Proofs
namespace Go.Proofs.YthgabkgmkolobaaGreat
section
open Go.RowKit Go.Deep
def Xf : ByteArray := ⟨#[46, 44, 59, 58, 33, 63, 40, 41, 45]⟩
theorem Xg : ∀ c, c < 256 → (decide (0 ≤ Lib.indexByte Xf.data.toList c.toUInt8)) = vA c := by
 decide +kernel
theorem ofk {a b : Int} (h : a = b) {w w' : World} (hw : w = w') : Ending.returned (.int .i64 a) = .returned (.int .i64 b) ∧ w = w' := ⟨by rw [h], hw⟩
theorem VJ {c : Nat} {x : Int} (hc : c < 256) (hx : Lib.indexByte [46, 44, 59, 58, 33, 63, 40, 41, 45] ((c : Int).toNat).toUInt8 = x) : 0 ≤ x ↔ vA c = true := by
 have h := Xg c hc
 rw [← h, ← hx]; simp [Xf]
set_option maxHeartbeats 400000 in
theorem Xh (c : Nat) (hc : c < 256) (w : World) : Calls Tryz.prog 239 #[.int .u8 c] w fun e w' => e = .returned (.int .i64 (cW c)) ∧ w = w' := by
 go_enter Tryz.func239, Tryz.ntmps239
 go_wp2_with (go_at_call 261; refine (Tryz.strings_IndexByte _ _ _).mono ?_; rintro e w' ⟨rfl, rfl⟩; generalize hx : Lib.indexByte _ _ = x)
 all_goals (try go_ret)
 all_goals (refine ofk ?_ rfl)
 all_goals (first | (have h5 := VJ hc ‹Lib.indexByte _ _ = _›; unfold cW isLet; by_cases hp : vA c = true <;> simp only [hp] at * <;> simp at * <;> omega) | (simp [cW, isLet, vA] at *; done) | (simp [cW, isLet, vA] at *; omega))
end
section
open Go.RowKit Go.Deep
theorem rC (c : UInt8) : (cW c.toNat = 1 ∨ cW c.toNat = 3) ↔ qz c = true := by
 unfold cW qz isLet; simp only [Bool.or_eq_true, Bool.and_eq_true, decide_eq_true_eq]
 repeat' split
 all_goals simp at *
 all_goals omega
theorem CO (l : List UInt8) : jA l ≤ l.length := List.countP_le_length
theorem NU (l : List UInt8) (c : UInt8) : jA (l ++ [c]) = jA l + if qz c then 1 else 0 := by
 simp [jA, List.countP_append, List.countP_cons]
theorem NV (s : ByteArray) (k : Nat) (h : k < s.size) : s.data.toList.take (k + 1) = s.data.toList.take k ++ [s[k]] := by
 rw [List.take_succ_eq_append_getElem (by simpa using h)]; rfl
theorem FW (l : List UInt8) : jA l = l.length ↔ l.all qz = true := by
 simp [jA, List.countP_eq_length]
theorem xJ (s : ByteArray) (k : Nat) (h : k < s.size) : jA (s.data.toList.take (k + 1)) = jA (s.data.toList.take k) + if qz s[k] then 1 else 0 := by
 rw [NV s k h, NU]
set_option maxHeartbeats 400000 in
theorem NW (s : ByteArray) (hs : s.size ≤ 70000) (w : World) : Calls Tryz.prog 183 #[.string s] w fun e w' => e = .returned (.int .i64 (jA s.data.toList)) ∧ w = w' := by
 go_enter Tryz.func183, Tryz.ntmps183
 go_wp2
 go_loop [3, 4, 5, 8] (fun n _ _ i => ∃ k : Nat, k ≤ s.size ∧ i = .int .i64 k ∧ n = .int .i64 (jA (s.data.toList.take k))) (fun _ _ _ i => s.size - (intOf i).toNat)
 case atStart => exact ⟨0, Nat.zero_le _, rfl, rfl⟩
 case round =>
  obtain ⟨k, hk, rfl, rfl⟩ := hrel
  have hb : jA (s.data.toList.take k) ≤ 70000 := Nat.le_trans (CO _) (by simp; omega)
  by_cases hlt : k < s.size
  ·have hst := xJ s k hlt
   have hk' := rC s[k]
   have hc : s[k].toNat < 256 := s[k].toNat_lt
   generalize hm : jA (s.data.toList.take k) = m at *
   have HS := aa hst
   have HK := aa hk'
   clear hst hm hk'
   go_wp2_with (go_at_call 239; refine (Xh _ hc _).mono ?_; rintro e w' ⟨rfl, rfl⟩; generalize cW _ = q at *)
   all_goals
    go_round
    case rel => exact ⟨k + 1, by omega, by go_num, by rw [HS.out]; first | (rw [if_pos (HK.out.1 (by first | omega | (simp only [beq_iff_eq] at *; omega)))]; go_num) | (rw [if_neg (fun h => by have := HK.out.2 h; simp only [beq_eq_false_iff_ne, ne_eq] at *; omega)]; go_num)⟩
    case measure => simp [intOf]; omega
  ·go_wp2
   go_ret
   exact ⟨aI (by rw [List.take_of_length_le (by simp; omega)]), rfl⟩
set_option maxHeartbeats 400000 in
theorem FX (s : ByteArray) (hs : s.size ≤ 70000) (w : World) : Calls Tryz.prog 128 #[.string s] w fun e w' => e = .returned (.bool (dS s.data.toList)) ∧ w = w' := by
 have hl : s.data.toList.length = s.size := by simp
 have ha := FW s.data.toList
 have hle := CO s.data.toList
 have he : s.data.toList = [] ↔ s.size = 0 := by rw [← List.length_eq_zero_iff, hl]
 rw [hl] at ha hle
 have HA := aa ha
 have HL := aa hl
 have HE := aa he
 clear ha hl he
 have hE1 := toList_nil s
 have dr : dS s.data.toList = decide (1 ≤ s.size ∧ s.size ≤ 16 ∧ jA s.data.toList = s.size) := by
  unfold dS; rw [HL.out, Bool.eq_iff_iff]; simp only [Bool.and_eq_true, decide_eq_true_eq]; rw [← HA.out, and_assoc]
 have HF := aa dr
 have NX := aa hE1
 clear dr hE1 HA HL HE
 generalize hm : jA s.data.toList = m at *
 have HM := aa hm
 clear hm
 go_enter Tryz.func128, Tryz.ntmps128
 go_wp2_with (go_at_call 183; refine (NW _ hs _).mono ?_; rintro e w' ⟨rfl, rfl⟩; rw [HM.out])
 all_goals go_ret
 all_goals refine ⟨aL ?_, rfl⟩
 all_goals rw [HF.out]
 ·have := NX.out.1 ‹_›; simp; omega
 ·have hne : ¬ s.size = 0 := fun h => ‹¬ s.toList = []› (NX.out.2 h)
  have CP : s.toList.isEmpty = false := by simpa using ‹¬ s.toList = []›
  rw [Bool.eq_iff_iff]; simp [CP]; omega
 ·simp; omega

theorem Q8 : qz 42 = false := by decide
theorem xK (l : List UInt8) (h : l.getLast? = some 42) : dS l = false := by
 obtain ⟨a, rfl⟩ := List.getLast?_eq_some_iff.1 h
 simp [dS, Q8]
theorem FY (s : ByteArray) (h1 : 1 ≤ s.size) : (s.extract (s.size - 1) s.size).toList = [42] ↔ s.data.toList.getLast? = some 42 := by
 have hl := size_data s
 rw [toList_data, ByteArray.data_extract, Array.toList_extract, List.extract_eq_take_drop]
 generalize s.data.toList = l at *
 have hne : l ≠ [] := by intro e; rw [e] at hl; simp at hl; omega
 rw [← hl]
 clear hl h1
 obtain ⟨a, x, rfl⟩ : ∃ a x, l = a ++ [x] := ⟨l.dropLast, l.getLast hne, (List.dropLast_concat_getLast hne).symm⟩
 simp
theorem FZ (s : ByteArray) : (s.extract 0 (s.size - 1)).data.toList = s.data.toList.dropLast := by
 have hl := size_data s
 rw [ByteArray.data_extract, Array.toList_extract, List.extract_eq_take_drop, List.dropLast_eq_take, hl]
 simp
def VK (s : ByteArray) (e : Ending) : Prop := (s.data.toList.getLast? = some 42 ∧ ∃ r : ByteArray, r.size ≤ s.size ∧ r.data.toList = s.data.toList.dropLast ∧ e = .returned (.tuple #[.string r, .bool true])) ∨ (s.data.toList.getLast? ≠ some 42 ∧ e = .returned (.tuple #[.string s, .bool false]))
set_option maxHeartbeats 400000 in
theorem Q9 (s : ByteArray) (hs : s.size ≤ 70000) (w : World) : Calls Tryz.prog 197 #[.string s, .string ⟨#[42]⟩] w fun e w' => VK s e ∧ w = w' := by
 by_cases h0 : s.size = 0
 ·have hc : s.data.toList = [] := by rw [← toList_data]; exact (toList_nil s).2 h0
  have HC := aa hc
  clear hc
  go_enter Tryz.func197, Tryz.ntmps197
  go_wp2
  go_ret2
  exact ⟨.inr ⟨by rw [HC.out]; simp, rfl⟩, rfl⟩
 ·have h1 : 1 ≤ s.size := by omega
  clear h0
  go_enter Tryz.func197, Tryz.ntmps197
  go_wp2
  ·go_ret2
   refine ⟨.inr ⟨fun e => ?_, rfl⟩, rfl⟩
   have := (FY s h1).2 e
   simp_all
  ·go_ret2
   have h2 := ‹(!(s.extract (s.size - 1) s.size).toList == [42]) = false›
   exact ⟨.inl ⟨(FY s h1).1 (by simpa using h2), s.extract 0 (s.size - 1), by simp, FZ s, rfl⟩, rfl⟩
set_option maxHeartbeats 400000 in
theorem uj (s : ByteArray) (hs : s.size ≤ 70000) (w : World) : Calls Tryz.prog 138 #[.string s] w fun e w' => e = .returned (.bool (aY s.data.toList)) ∧ w = w' := by
 have hl := size_data s
 have HL := aa hl
 clear hl
 go_enter Tryz.func138, Tryz.ntmps138
 go_wp2_with fail
 refine (Q9 s hs _).mono ?_
 rintro e w' ⟨⟨h1, r, hr, hd, rfl⟩ | ⟨h1, rfl⟩, rfl⟩
 ·have hf : aY s.data.toList = (decide (s.size ≤ 16) && dS r.data.toList) := by
   unfold aY; rw [if_pos h1, hd, HL.out, Bool.and_comm]
  have HF := aa hf
  clear hf hd h1
  go_wp2_with (go_at_call 128; refine (FX r (by omega) _).mono ?_; rintro e w' ⟨rfl, rfl⟩)
  all_goals
   go_ret
   refine ⟨aL ?_, rfl⟩
   rw [HF.out, Bool.eq_iff_iff]
   simp at *
   try omega
 ·have hf : aY s.data.toList = dS s.data.toList := by unfold aY; rw [if_neg h1]
  have HF := aa hf
  clear hf h1
  go_wp2_with (go_at_call 128; refine (FX s hs _).mono ?_; rintro e w' ⟨rfl, rfl⟩)
  go_ret
  exact ⟨aL (by rw [HF.out]), rfl⟩
end
section
open Go.RowKit Go.Deep
theorem zb {x y : ByteArray} (h : (x.toList == y.toList) = true) : x = y := by
 rw [beq_iff_eq, toList_data, toList_data] at h; exact eL h
theorem F0 {x y : ByteArray} (h : (x.toList == y.toList) = false) : ¬ x = y := by
 rintro rfl; simp at h
set_option maxHeartbeats 400000 in
theorem zK (S : Nat → Prop) (w : World) (v : Value) (n : Nat) (f : Nat → ByteArray) (x : ByteArray) (h : aB S w v n (fun k => .string (f k))) (hn : n ≤ 1000000) :
  Calls Tryz.prog 95 #[v, .string x] w fun e w' => e = .returned (.int .i64 (b8 (fun j => decide (x = f j)) n)) ∧ w = w' := by
 obtain ⟨p, cap, rfl, hcap, H⟩ := h.open
 clear h
 go_enter Tryz.func95, Tryz.ntmps95
 go_wp2
 go_loop [5, 8] (fun _ i => ∃ k : Nat, k ≤ n ∧ i = .int .i64 k ∧ Hid (∀ j, j < k → decide (x = f j) = false)) (fun _ i => n - (intOf i).toNat)
 case atStart => exact ⟨0, Nat.zero_le _, rfl, fun j hj => absurd hj (Nat.not_lt_zero _)⟩
 case round =>
  obtain ⟨k, hk, rfl, hd⟩ := hrel
  by_cases hlt : k < n
  ·obtain ⟨b, off, rfl, hc⟩ := H k hlt
   clear H
   go_wp2
   ·have hx := zb ‹(x.toList == (f k).toList) = true›
    go_ret
    exact ⟨aI (lB (p := fun j => decide (x = f j)) hlt hd.out (by simpa using hx)).symm, rfl⟩
   ·have hx := F0 ‹(x.toList == (f k).toList) = false›
    go_round
    case rel => exact ⟨k + 1, by omega, by go_num, fun j hj => if e : j = k then by subst e; simpa using hx else hd.out j (by omega)⟩
    case measure => simp [intOf]; omega
  ·clear H
   go_wp2
   go_ret
   exact ⟨aI (jc fun j hj => hd.out j (by omega)).symm, rfl⟩
set_option maxHeartbeats 400000 in
theorem eN (S : Nat → Prop) (w : World) (v : Value) (n : Nat) (f : Nat → ByteArray) (x : ByteArray) (h : aB S w v n (fun k => .string (f k))) (hn : n ≤ 1000000) :
  Calls Tryz.prog 32 #[v, .string x] w fun e w' => e = .returned (.bool ((List.range n).any fun j => decide (x = f j))) ∧ w = w' := by
 have hx := l7 (fun j => decide (x = f j)) n
 have HX := aa hx
 clear hx
 go_enter Tryz.func32, Tryz.ntmps32
 go_wp2_with (go_at_call 95; refine (zK S w v n f x h hn).mono ?_; rintro e w' ⟨rfl, rfl⟩)
 go_ret
 exact ⟨aL (by rw [← HX.out]), rfl⟩
end
section
open Go.RowKit Go.Deep
theorem Tryz.infoB : (Tryz.prog.info? 4).map (fun i => (i.zero, i.size, i.bytes)) = some (some (.bool false), 1, 1) := by kernel_rfl
structure zL (w0 wr : World) (B n : Nat) (f : Nat → Bool) : Prop where
 below : Below B w0 wr
 row : wr.rowIs B 4 n (fun j => .bool (f j))
 size : wr.heap.size = B + 1
theorem zL.start (w0 : World) (n : Nat) (f : Nat → Bool) (hf : ∀ j, f j = false) : zL w0 (w0.alloc (.cells (madeCells #[.bool false] n) 4)) w0.heap.size n f :=
 ⟨(Below.refl _ _).alloc (Nat.le_refl _) _, (World.rowIs_made w0 _ n _).congr fun i _ => by simp [hf], by simp⟩
theorem zL.set {w0 wr : World} {B n q : Nat} {f g : Nat → Bool} (h : zL w0 wr B n f) (hg : ∀ j, g j = (f j || decide (j = q))) :
  zL w0 (wr.setCell ⟨B, q, none⟩ (.bool true)) B n g :=
 ⟨h.below.setCell (p := ⟨B, q, none⟩) (Nat.le_refl _) _, (h.row.set q _).congr fun i _ => by
  by_cases e : i = q
  ·simp [e, hg]
  ·simp [e, hg], by simp [h.size]⟩
theorem zL.congr {w0 wr : World} {B n : Nat} {f g : Nat → Bool} (h : zL w0 wr B n f) (hg : ∀ j, g j = f j) : zL w0 wr B n g :=
 ⟨h.below, h.row.congr fun i _ => by simp [hg], h.size⟩
set_option maxHeartbeats 800000 in
theorem qZ (S : Nat → Prop) (w : World) (v : Value) (t : ay) (h : aA S w v t) (hp : t.ps.length ≤ 1000000) (hn : t.ns.length ≤ 1000000) (hz : ∀ k, (gs t.ns k).size ≤ 70000) :
    Calls Tryz.prog 87 #[v] w fun e w' => e = .returned (.int .i64 (az t)) ∧ Below w.heap.size w w' := by
  obtain ⟨P, N, rfl, hP, hN⟩ := h
  obtain ⟨ps, ns⟩ := t
  simp only at *
  have dr : az ⟨ps, ns⟩ = if ps.length = 0 then 5 else if 64 < ps.length then 4 else if ns.length ≠ ps.length then 9 else if fZ ps then firstNZ (iu ps ns) ps.length else 2 := rfl
  have HF := aa dr
  clear dr
  have NY := hP.keep (Kept.below ((Below.refl _ w).alloc (Nat.le_refl _) (.cells #[P, N] 39)))
  have NZ := hN.keep (Kept.below ((Below.refl _ w).alloc (Nat.le_refl _) (.cells #[P, N] 39)))
  clear hP hN
  obtain ⟨p, cap, rfl, hcap, HP⟩ := aB.open NY
  obtain ⟨q, dw, rfl, sX, HN⟩ := aB.open NZ
  have gL : Below w.heap.size w (w.alloc (.cells #[.slice p ps.length cap, .slice q ns.length dw] 39)) := (Below.refl _ _).alloc (Nat.le_refl _) _
  have KP := aa HP
  have F2 := aa HN
  clear NY NZ HP HN
  by_cases h0 : ps.length = 0
  · have HX : Hid (ps.length = 0) := h0
    have h0' : ((ps.length : Int) == 0) = true := by simp [h0]
    clear h0
    go_enter Tryz.func87, Tryz.ntmps87
    go_wp2
    go_ret
    exact ⟨aI (by rw [HF.out, if_pos HX.out]), gL⟩
  have h0' : ((ps.length : Int) == 0) = false := by simpa using h0
  by_cases h1 : 64 < ps.length
  · go_enter Tryz.func87, Tryz.ntmps87
    go_wp2
    go_ret
    exact ⟨aI (by rw [HF.out, if_neg h0, if_pos h1]), gL⟩
  by_cases h2 : ns.length = ps.length
  · have DL : ((ns.length : Int) != ps.length) = false := by simp [h2]
    have H2 := aa h2
    clear h2
    have hmk := fun W => run_make_row' (P := Tryz.prog) 163 4 (.bool false) 1 Tryz.underlying163 Tryz.infoB rfl .i64 .i64 ps.length (by omega) (by omega) W
    go_enter Tryz.func87, Tryz.ntmps87
    go_wp2
    clear hmk gL
    have hstart := zL.start (w.alloc (.cells #[.slice p ps.length cap, .slice q ns.length dw] 39)) ps.length (fun j => DI ps 0 j) (fun j => rfl)
    rw [World.size_alloc] at hstart
    have jN : (w.alloc (.cells #[.slice p ps.length cap, .slice q ns.length dw] 39)).cell? ⟨w.heap.size, 0, none⟩ = some (.slice p ps.length cap) := by simp [World.cell?_alloc_new]
    have uk : (w.alloc (.cells #[.slice p ps.length cap, .slice q ns.length dw] 39)).cell? ⟨w.heap.size, 1, none⟩ = some (.slice q ns.length dw) := by simp [World.cell?_alloc_new]
    have hb0 : Below w.heap.size w (w.alloc (.cells #[.slice p ps.length cap, .slice q ns.length dw] 39)) := (Below.refl _ _).alloc (Nat.le_refl _) _
    have hsz : (w.alloc (.cells #[.slice p ps.length cap, .slice q ns.length dw] 39)).heap.size = w.heap.size + 1 := by simp
    generalize hw0 : w.alloc (.cells #[.slice p ps.length cap, .slice q ns.length dw] 39) = w0 at *
    clear hw0
    have HS := aa hsz
    have KQ := aa jN
    have KR := aa uk
    clear hsz jN uk
    go_loopw [4, 5, 33] (fun _ _ i wr => ∃ k : Nat, k ≤ ps.length ∧ i = .int .i64 k ∧ Hid (∀ j, j < k → jb j (gi ps j) = true) ∧ zL w0 wr (w.heap.size + 1) ps.length (fun j => DI ps k j)) (fun _ _ i _ => ps.length - (intOf i).toNat)
    case atStart => exact ⟨0, Nat.zero_le _, rfl, fun j hj => absurd hj (Nat.not_lt_zero _), hstart⟩
    case round =>
      obtain ⟨k, hk, rfl, hd, hW⟩ := hrel
      clear hstart
      by_cases hlt : k < ps.length
      · obtain ⟨b, off, rfl, hc0⟩ := KP.out k hlt
        have hc : wr.cell? ⟨b, off + k, none⟩ = some (.int .i64 (gi ps k)) := by
          rw [hW.below.cell (p := ⟨b, off + k, none⟩) (by have := World.block_lt_of_cell? _ _ hc0; have := HS.out; simp at *; omega)]; exact hc0
        clear hc0
        generalize hpk : gi ps k = x at *
        have HX := aa hpk
        clear hpk
        by_cases hg : 0 < k ∧ 0 ≤ x ∧ x < k
        · obtain ⟨g1, g2, g3⟩ := hg
          obtain ⟨y, rfl⟩ := Int.eq_ofNat_of_zero_le g2
          have hi1 := hW.row.cell (i := y) (by omega)
          have hi2 := hW.row.frozen y
          go_wp2
          go_roundw
          case rel => exact ⟨k + 1, by omega, by go_num, fun j hj => if e : j = k then by subst e; rw [HX.out]; unfold jb; rw [if_neg (by omega)]; simp; omega else hd.out j (by omega), hW.set (q := y) fun j => by rw [FQ, HX.out]; simp only [g1, decide_true, Bool.true_and]; congr 1; rw [Bool.eq_iff_iff]; simp; omega⟩
          case measure => simp [intOf]; omega
        · by_cases F3 : k = 0 ∧ x = -1
          · obtain ⟨rfl, rfl⟩ := F3
            have hc' : wr.cell? ⟨b, off, none⟩ = some (.int .i64 (-1)) := by simpa using hc
            go_wp2
            go_roundw
            case rel => exact ⟨1, by omega, by go_num, fun j hj => by obtain rfl : j = 0 := by omega
                                                                      rw [HX.out]; rfl, hW.congr fun j => by rw [FQ]; simp⟩
            case measure => simp [intOf]; omega
          · have jY : jb k x = false := by
              unfold jb; split
              · rename_i e; simp; exact fun e2 => F3 ⟨e, e2⟩
              · simp; intro; omega
            rw [← HX.out] at jY
            have HB := aa (FR hlt jY)
            clear jY
            go_wp2
            all_goals go_ret
            all_goals exact ⟨aI (by rw [HF.out, if_neg h0, if_neg h1, if_neg (by rw [H2.out]; simp), HB.out]; simp), hb0.trans (hW.below.mono (by omega))⟩
      · obtain rfl : k = ps.length := by omega
        have hok := aa (Aq hd.out)
        have gM : wr.cell? ⟨w.heap.size, 1, none⟩ = some (.slice q ns.length dw) := by
          rw [hW.below.cell (p := ⟨w.heap.size, 1, none⟩) (by simp)]; exact KR.out
        clear hlt hk hd KP hcap
        go_wp2
        go_loop [6, 7, 66] (fun _ _ i => ∃ k : Nat, k ≤ ps.length ∧ i = .int .i64 k ∧ Hid (∀ j, j < k → iu ps ns j = 0)) (fun _ _ i => ps.length - (intOf i).toNat)
        case atStart => exact ⟨0, Nat.zero_le _, rfl, fun j hj => absurd hj (Nat.not_lt_zero _)⟩
        case round =>
          obtain ⟨k, hk, rfl, hd⟩ := hrel
          have hlen : ns.length ≤ ps.length ∧ ps.length ≤ ns.length := by have := H2.out; omega
          obtain ⟨fA, hl2⟩ := hlen
          by_cases hlt : k < ps.length
          · obtain ⟨b, off, rfl, hc0⟩ := F2.out k (by have := H2.out; omega)
            have hpre : aB Any wr (.slice (some ⟨b, off, none⟩) k dw) k (fun j => .string (gs ns j)) := by
              refine ⟨_, _, rfl, by omega, .inr ⟨b, off, rfl, trivial, fun j hj => ?_⟩⟩
              obtain ⟨b', off', e, um⟩ := F2.out j (by omega)
              cases e
              rw [hW.below.cell (p := ⟨b, off + j, none⟩) (by have := World.block_lt_of_cell? _ _ um; have := HS.out; simp at *; omega)]; exact um
            have hc : wr.cell? ⟨b, off + k, none⟩ = some (.string (gs ns k)) := by
              rw [hW.below.cell (p := ⟨b, off + k, none⟩) (by have := World.block_lt_of_cell? _ _ hc0; have := HS.out; simp at *; omega)]; exact hc0
            clear hc0
            have hi1 := hW.row.cell (i := k) (by omega)
            have hsk : (List.range k).any (fun j => decide (gs ns k = gs ns j)) = dm ns k := by
              unfold dm; congr 1; funext j; exact decide_eq_decide.2 eq_comm
            have N5 := aa hsk
            clear hsk
            have DM := hz k
            have hne : iu ps ns k = if isIn ps k then (if (gs ns k).size = 0 then 0 else 14) else if aY (gs ns k).data.toList then (if dm ns k then 7 else 0) else 14 := rfl
            have hnil := toList_nil (gs ns k)
            have hend : iu ps ns k ≠ 0 → az ⟨ps, ns⟩ = iu ps ns k := fun hn0 => by
              rw [HF.out, if_neg h0, if_neg h1, if_neg (by rw [H2.out]; simp), hok.out, if_pos rfl]; exact fG hlt hd.out hn0
            have HE := aa hne
            have iw := aa hend
            have rD := aa hnil
            have F4 := aa hW
            clear hne hend hnil F2 hz hW
            have hi2 : DI ps ps.length k = isIn ps k := rfl
            rw [hi2] at hi1
            clear hi2
            generalize hin : isIn ps k = bi at *
            generalize hnm : aY (gs ns k).data.toList = bn at *
            generalize pY : dm ns k = bs at *
            generalize DN : gs ns k = g at *
            have fS := aa hnm
            clear hin hnm pY DN
            cases bi
            · cases bn
              · go_wp2_with (first | (go_at_call 138; refine (uj _ DM _).mono ?_; rintro e w' ⟨rfl, rfl⟩; rw [fS.out]) | (go_at_call 32; refine (eN Any _ _ k (fun j => gs ns j) _ hpre (by omega)).mono ?_; rintro e w' ⟨rfl, rfl⟩; rw [N5.out]))
                go_ret
                exact ⟨aI (by rw [iw.out (by rw [HE.out]; simp), HE.out]; simp), hb0.trans (F4.out.below.mono (by omega))⟩
              · cases bs
                · go_wp2_with (first | (go_at_call 138; refine (uj _ DM _).mono ?_; rintro e w' ⟨rfl, rfl⟩; rw [fS.out]) | (go_at_call 32; refine (eN Any _ _ k (fun j => gs ns j) _ hpre (by omega)).mono ?_; rintro e w' ⟨rfl, rfl⟩; rw [N5.out]))
                  go_round
                  case rel => exact ⟨k + 1, by omega, by go_num, fun j hj => if e : j = k then by subst e; rw [HE.out]; simp else hd.out j (by omega)⟩
                  case measure => simp [intOf]; omega
                · go_wp2_with (first | (go_at_call 138; refine (uj _ DM _).mono ?_; rintro e w' ⟨rfl, rfl⟩; rw [fS.out]) | (go_at_call 32; refine (eN Any _ _ k (fun j => gs ns j) _ hpre (by omega)).mono ?_; rintro e w' ⟨rfl, rfl⟩; rw [N5.out]))
                  go_ret
                  exact ⟨aI (by rw [iw.out (by rw [HE.out]; simp), HE.out]; simp), hb0.trans (F4.out.below.mono (by omega))⟩
            · by_cases hg0 : g.size = 0
              · have hg1 : g.toList = [] := rD.out.2 hg0
                have hg2 : (!g.toList.isEmpty) = false := by simp [hg1]
                have uo := aa hg0
                clear hg0
                go_wp2_with (first | (go_at_call 138; refine (uj _ DM _).mono ?_; rintro e w' ⟨rfl, rfl⟩; rw [fS.out]) | (go_at_call 32; refine (eN Any _ _ k (fun j => gs ns j) _ hpre (by omega)).mono ?_; rintro e w' ⟨rfl, rfl⟩; rw [N5.out]))
                go_round
                case rel => exact ⟨k + 1, by omega, by go_num, fun j hj => if e : j = k then by subst e; rw [HE.out]; simp [uo.out] else hd.out j (by omega)⟩
                case measure => simp [intOf]; omega
              · have hg1 : (g.toList == []) = false := by
                  rw [Bool.eq_false_iff]; intro e; exact hg0 (rD.out.1 (by simpa using e))
                have hg2 : g.toList.isEmpty = false := by
                  rw [Bool.eq_false_iff]; intro e; exact hg0 (rD.out.1 (by simpa using e))
                go_wp2_with (first | (go_at_call 138; refine (uj _ DM _).mono ?_; rintro e w' ⟨rfl, rfl⟩; rw [fS.out]) | (go_at_call 32; refine (eN Any _ _ k (fun j => gs ns j) _ hpre (by omega)).mono ?_; rintro e w' ⟨rfl, rfl⟩; rw [N5.out]))
                go_ret
                exact ⟨aI (by rw [iw.out (by rw [HE.out]; simp [hg0]), HE.out]; simp [hg0]), hb0.trans (F4.out.below.mono (by omega))⟩
          · have hk2 : k = ps.length := by omega
            clear hlt
            go_wp2
            go_ret
            exact ⟨aI (by rw [HF.out, if_neg h0, if_neg h1, if_neg (by rw [H2.out]; simp), hok.out, if_pos rfl, dJ fun j hj => hd.out j (by omega)]), hb0.trans (hW.below.mono (by omega))⟩
  · have DL : ((ns.length : Int) != ps.length) = true := by simp; omega
    go_enter Tryz.func87, Tryz.ntmps87
    go_wp2
    go_ret
    exact ⟨aI (by rw [HF.out, if_neg h0, if_neg h1, if_pos h2]), gL⟩
end
end Go.Proofs.YthgabkgmkolobaaGreat
