/- The example of the chapter: three, awake. -/
import Derived.Test.YtflikmllpimaiaaB29
import Derived.Test.YtflikmllpimaiaaB22
namespace Go.Proofs.Ytflikmllpimaiaa
open Go.RowKit Go.Deep
def t3 : Tre := ⟨[-1, 0, 1, 1, 0], [⟨#[]⟩, ⟨#[]⟩, ⟨#[65]⟩, ⟨#[66]⟩, ⟨#[67]⟩]⟩
def s3 : List Int := [0, 1, 1]
def u2 : List (List Int) := [[0, 1], [1, 0]]
theorem lit_ints (w : World) (cs : Array Value) (T : TypeId) (xs : List Int) (hcs : cs.toList = xs.map (Value.int .i64)) (n : Nat) (hn : n = xs.length) : IntsAt Any (w.alloc (.cells cs T)) (.slice (some ⟨w.heap.size, 0, none⟩) n n) xs := by
  subst hn
  refine ⟨_, _, rfl, Nat.le_refl _, .inr ⟨_, 0, rfl, trivial, fun k hk => ?_⟩⟩
  rw [Nat.zero_add, cell_at_new, ← Array.getElem?_toList, hcs]
  simp [gi, hk]
theorem lit_strs (w : World) (cs : Array Value) (T : TypeId) (xs : List ByteArray) (hcs : cs.toList = xs.map Value.string) (n : Nat) (hn : n = xs.length) : StrsAt Any (w.alloc (.cells cs T)) (.slice (some ⟨w.heap.size, 0, none⟩) n n) xs := by
  subst hn
  refine ⟨_, _, rfl, Nat.le_refl _, .inr ⟨_, 0, rfl, trivial, fun k hk => ?_⟩⟩
  rw [Nat.zero_add, cell_at_new, ← Array.getElem?_toList, hcs]
  simp [gs, hk]
theorem equal_yes (S T : Nat → Prop) (w : World) (v u : Value) (xs ys : List Int) (h : IntsAt S w v xs) (h2 : IntsAt T w u ys) (hn : xs.length ≤ 1000000) (hn2 : ys.length ≤ 1000000) (e : xs = ys) :
    Calls Try.prog 27 #[v, u] w (EqPost w true) := by
  have h3 := equal_int_t S T w v u xs ys h h2 hn hn2
  rw [decide_eq_true e] at h3; exact h3
theorem sized3 : Sized t3 s3 u2 := ⟨by decide, by decide, fun k => by
  by_cases h : k < 5
  · have : k = 0 ∨ k = 1 ∨ k = 2 ∨ k = 3 ∨ k = 4 := by omega
    rcases this with rfl | rfl | rfl | rfl | rfl <;> decide
  · simp [gs, t3, List.getElem?_eq_none (by simp; omega : [(⟨#[]⟩ : ByteArray), ⟨#[]⟩, ⟨#[65]⟩, ⟨#[66]⟩, ⟨#[67]⟩].length ≤ k)], by decide, by decide, fun k => by
  by_cases h : k < 2
  · have : k = 0 ∨ k = 1 := by omega
    rcases this with rfl | rfl <;> decide
  · simp [gl, u2, List.getElem?_eq_none (by simp; omega : [[(0 : Int), 1], [1, 0]].length ≤ k)]⟩
theorem par3 : parErr t3 s3 u2 = 0 := by decide +kernel
theorem score3 : scoreN t3 s3 u2 = 1 := by decide +kernel
theorem assign3 : assignN t3 s3 u2 = [1, 1, 0, 1, 1] := by decide +kernel
theorem table3 : tableN t3 s3 u2 = [[2, 1], [1, 1], [0, -1], [-1, 0], [-1, 0]] := by decide +kernel
def ThPost (w : World) (e : Ending) (w' : World) : Prop := Up w w' ∧ ∃ v, e = .returned v ∧ TreeAt Any w' v t3
set_option maxRecDepth 100000 in
set_option maxHeartbeats 400000 in
theorem three_t (w : World) : Calls Try.prog 49 #[] w (ThPost w) := by
  go_enter Try.func49, Try.ntmps49
  go_wp2_with fail
  have hP := lit_ints (w.alloc (.cells #[.slice (some ⟨w.heap.size + 1, 0, none⟩) 5 5, .slice (some ⟨w.heap.size + 1 + 1, 0, none⟩) 5 5] 25)) #[.int .i64 (-1), .int .i64 0, .int .i64 1, .int .i64 1, .int .i64 0] 3 t3.ps rfl 5 rfl
  have hN := lit_strs ((w.alloc (.cells #[.slice (some ⟨w.heap.size + 1, 0, none⟩) 5 5, .slice (some ⟨w.heap.size + 1 + 1, 0, none⟩) 5 5] 25)).alloc (.cells #[.int .i64 (-1), .int .i64 0, .int .i64 1, .int .i64 1, .int .i64 0] 3)) #[.string ⟨#[]⟩, .string ⟨#[]⟩, .string ⟨#[65]⟩, .string ⟨#[66]⟩, .string ⟨#[67]⟩] 9 t3.ns rfl 5 rfl
  simp only [World.size_alloc] at hP hN
  refine bodyPost_ret (v := .agg #[.slice (some ⟨w.heap.size + 1, 0, none⟩) 5 5, .slice (some ⟨w.heap.size + 1 + 1, 0, none⟩) 5 5]) (by simp [results, Try.results49, go_sem]) rfl ⟨?_, _, rfl, _, _, rfl, hP.keep ((Up.alloc _ _).kept _), hN⟩
  exact ((Up.alloc _ _).trans (Up.alloc _ _)).trans (Up.alloc _ _)
set_option maxRecDepth 100000 in
set_option maxHeartbeats 1000000 in
theorem awake_t (w : World) : Calls Try.prog 12 #[] w fun e w' => e = .returned (.bool true) ∧ Up w w' := by
  have hA := lit_ints w #[.int .i64 0, .int .i64 1] 3 [0, 1] rfl 2 rfl
  have hB := lit_ints (w.alloc (.cells #[.int .i64 0, .int .i64 1] 3)) #[.int .i64 1, .int .i64 0] 3 [1, 0] rfl 2 rfl
  have hu := ((Up.alloc w (.cells #[.int .i64 0, .int .i64 1] 3)).trans (Up.alloc _ (.cells #[.int .i64 1, .int .i64 0] 3))).trans (Up.alloc _ (.cells #[.slice (some ⟨w.heap.size, 0, none⟩) 2 2, .slice (some ⟨w.heap.size + 1, 0, none⟩) 2 2] 22))
  have hC : RowsAt Any (((w.alloc (.cells #[.int .i64 0, .int .i64 1] 3)).alloc (.cells #[.int .i64 1, .int .i64 0] 3)).alloc (.cells #[.slice (some ⟨w.heap.size, 0, none⟩) 2 2, .slice (some ⟨w.heap.size + 1, 0, none⟩) 2 2] 22)) (.slice (some ⟨w.heap.size + 1 + 1, 0, none⟩) 2 2) u2 := by
    simp only [World.size_alloc] at hB
    refine ⟨fun k => .slice (some ⟨w.heap.size + k, 0, none⟩) 2 2, ⟨_, _, rfl, Nat.le_refl _, .inr ⟨_, 0, rfl, trivial, fun k hk => ?_⟩⟩, fun k hk => ?_⟩
    · have h2 : k < 2 := hk
      have h := cell_at_new ((w.alloc (.cells #[.int .i64 0, .int .i64 1] 3)).alloc (.cells #[.int .i64 1, .int .i64 0] 3)) #[.slice (some ⟨w.heap.size, 0, none⟩) 2 2, .slice (some ⟨w.heap.size + 1, 0, none⟩) 2 2] 22 k
      simp only [World.size_alloc] at h
      rw [Nat.zero_add, h]
      have : k = 0 ∨ k = 1 := by omega
      rcases this with rfl | rfl <;> rfl
    · have h2 : k < 2 := hk
      have : k = 0 ∨ k = 1 := by omega
      rcases this with rfl | rfl
      · exact (IntsAt.keep hA (((Up.alloc _ _).trans (Up.alloc _ _)).kept _))
      · exact (IntsAt.keep hB ((Up.alloc _ _).kept _))
  have HU := Lib.hid hu
  have HC := Lib.hid hC
  clear hA hB hu hC
  go_enter Try.func12, Try.ntmps12
  go_wp2_with fail
  generalize (((w.alloc (.cells #[.int .i64 0, .int .i64 1] 3)).alloc (.cells #[.int .i64 1, .int .i64 0] 3)).alloc (.cells #[.slice (some ⟨w.heap.size, 0, none⟩) 2 2, .slice (some ⟨w.heap.size + 1, 0, none⟩) 2 2] 22)) = w1 at *
  refine (three_t w1).mono ?_
  rintro e w2 ⟨hu2, v, rfl, hT⟩
  have HU2 := Lib.hid (HU.out.trans hu2)
  have HC2 := Lib.hid (HC.out.keep (hu2.kept _))
  have HT2 := Lib.hid hT
  clear hu2 hT HU HC
  go_wp2_with fail
  have hI2 := lit_ints w2 #[.int .i64 0, .int .i64 1, .int .i64 1] 3 s3 rfl 3 rfl
  have hv2 := Up.alloc w2 (.cells #[.int .i64 0, .int .i64 1, .int .i64 1] 3)
  refine (score_t Any _ _ _ _ t3 s3 u2 (HT2.out.keep (hv2.kept _)) hI2 (HC2.out.keep (hv2.kept _)) sized3).mono ?_
  rintro e w3 ⟨hu3, rfl⟩
  have HU3 := Lib.hid (HU2.out.trans (hv2.trans hu3))
  have HC3 := Lib.hid (HC2.out.keep ((hv2.trans hu3).kept _))
  clear hu3 hv2 hI2 HU2 HC2 HT2
  rw [score3, par3]
  go_wp2_with fail
  refine (three_t w3).mono ?_
  rintro e w4 ⟨hu4, v4, rfl, hT⟩
  have HU4 := Lib.hid (HU3.out.trans hu4)
  have HC4 := Lib.hid (HC3.out.keep (hu4.kept _))
  have HT4 := Lib.hid hT
  clear hu4 hT HU3 HC3
  go_wp2_with fail
  have hI4 := lit_ints w4 #[.int .i64 0, .int .i64 1, .int .i64 1] 3 s3 rfl 3 rfl
  have hv4 := Up.alloc w4 (.cells #[.int .i64 0, .int .i64 1, .int .i64 1] 3)
  refine (assign_t Any _ _ _ _ t3 s3 u2 (HT4.out.keep (hv4.kept _)) hI4 (HC4.out.keep (hv4.kept _)) sized3).mono ?_
  rintro e w5 ⟨hu5, av, rfl, hav⟩
  rw [assign3] at hav
  have HU5 := Lib.hid (HU4.out.trans (hv4.trans hu5))
  have HC5 := Lib.hid (HC4.out.keep ((hv4.trans hu5).kept _))
  have HA5 := Lib.hid hav
  clear hu5 hv4 hI4 HU4 HC4 HT4 hav
  rw [par3]
  go_wp2_with fail
  refine (three_t w5).mono ?_
  rintro e w6 ⟨hu6, v6, rfl, hT⟩
  have HU6 := Lib.hid (HU5.out.trans hu6)
  have HC6 := Lib.hid (HC5.out.keep (hu6.kept _))
  have HA6 := Lib.hid (IntsAt.keep HA5.out (hu6.kept _))
  have HT6 := Lib.hid hT
  clear hu6 hT HU5 HC5 HA5
  go_wp2_with fail
  have hI6 := lit_ints w6 #[.int .i64 0, .int .i64 1, .int .i64 1] 3 s3 rfl 3 rfl
  have hv6 := Up.alloc w6 (.cells #[.int .i64 0, .int .i64 1, .int .i64 1] 3)
  refine (ptable_t Any _ _ _ _ t3 s3 u2 (HT6.out.keep (hv6.kept _)) hI6 (HC6.out.keep (hv6.kept _)) sized3).mono ?_
  rintro e w7 ⟨hu7, tv, rfl, htv⟩
  rw [table3] at htv
  have HU7 := Lib.hid (HU6.out.trans (hv6.trans hu7))
  have HA7 := Lib.hid (IntsAt.keep HA6.out ((hv6.trans hu7).kept _))
  obtain ⟨tp, tc, rfl, _, _⟩ := rows_open htv
  have HT7 := Lib.hid htv
  clear hu7 hv6 hI6 HU6 HC6 HT6 HA6 htv
  rw [par3]
  have hv7 := Up.alloc w7 (.cells #[.int .i64 1, .int .i64 1, .int .i64 0, .int .i64 1, .int .i64 1] 3)
  have HE1 := Lib.hid (equal_yes _ _ _ _ _ _ _ (IntsAt.keep HA7.out (hv7.kept _)) (lit_ints w7 #[.int .i64 1, .int .i64 1, .int .i64 0, .int .i64 1, .int .i64 1] 3 [1, 1, 0, 1, 1] rfl 5 rfl) (by decide) (by decide) rfl)
  have HU8 := Lib.hid (HU7.out.trans hv7)
  have HT8 := Lib.hid (HT7.out.keep (hv7.kept _))
  clear hv7 HA7 HU7 HT7
  go_wp2_with fail
  generalize w7.alloc (.cells #[.int .i64 1, .int .i64 1, .int .i64 0, .int .i64 1, .int .i64 1] 3) = w8 at *
  refine HE1.out.mono ?_
  rintro e w9 ⟨rfl, n9, rfl⟩
  have hv8 := Up.drewN w8 n9
  have HU9 := Lib.hid (HU8.out.trans hv8)
  have HT9 := Lib.hid (HT8.out.keep (hv8.kept _))
  obtain ⟨tb, to, tq, tcc, rfl, hcell, hrow⟩ := rows_get HT9.out (k := 0) (by decide)
  rw [Nat.add_zero] at hcell
  have hv9 := Up.alloc (w8.drewN n9) (.cells #[.int .i64 2, .int .i64 1] 3)
  have HE2 := Lib.hid (equal_yes _ _ _ _ _ _ _ (IntsAt.keep hrow (hv9.kept _)) (lit_ints (w8.drewN n9) #[.int .i64 2, .int .i64 1] 3 [2, 1] rfl 2 rfl) (by decide) (by decide) rfl)
  have HU10 := Lib.hid (HU9.out.trans hv9)
  clear hv8 hv9 hrow HU8 HT8 HU9 HT9 HE1
  go_wp2_with fail
  generalize (w8.drewN n9).alloc (.cells #[.int .i64 2, .int .i64 1] 3) = w10 at *
  refine HE2.out.mono ?_
  rintro e w11 ⟨rfl, n11, rfl⟩
  have HU11 := Lib.hid (HU10.out.trans (Up.drewN w10 n11))
  clear HE2 HU10
  go_wp2_with fail
  go_ret
  exact ⟨rfl, HU11.out⟩
end Go.Proofs.Ytflikmllpimaiaa
