/- The arguments of a law, opened; the frame of a law's proof. -/
import Derived.Test.YtflikmllpimaiaaRows
import Derived.WalkKit
import Derived.ProofKit
import Derived.OpenShut
import Derived.ShutString
import Derived.ChangeOld
import Derived.Below
import Derived.Deep.Matrix
import Derived.Lib.SmallJoins
import Derived.Test.YtflikmllpimaiaaB21
namespace Go.Proofs.Ytflikmllpimaiaa
open Go.ChangeShapes Go.WideShapes Go.ChangeAt Go.RowKit Go.Deep
theorem own_none : ownKnob Try.prog.godebug = none := by kernel_rfl
theorem laidOut : laidOutB Try.prog = true := by kernel_rfl
section
variable {H : Type} {enc : TypeId × Value → H} {W : World}
theorem len_max {n : Nat} (h : n ≤ maxLen) : n ≤ 9223372036854775807 := by unfold maxLen at h; exact h
theorem open_ints1 {fuel : Nat} {v : Value} {x : DataW H × List MemPlace} (h : DataW.trod enc Try.prog W 0 (fun _ => true) true fuel 22 [v] = some x) : ∃ xs : List Int, IntsAt Any W v xs ∧ xs.length ≤ 9223372036854775807 := by
  rcases open_ints Try.underlying22 Try.underlying3 (by kernel_rfl) h with ⟨hcs, _⟩ | ⟨a, l, c, zs, hcs, _, hl, hm, hz, _, hcell, _⟩
  · obtain rfl : v = .slice none 0 0 := by simpa using hcs
    exact ⟨[], ⟨none, 0, rfl, Nat.le_refl _, .inl rfl⟩, by simp⟩
  · obtain rfl : v = .slice (some a) l c := by simpa using hcs
    simp only [if_true] at hz
    have hlen : (zs.take l).length = l := by simp; omega
    refine ⟨zs.take l, ⟨some a, c, by rw [hlen], by rw [hlen]; exact hl, ?_⟩, by rw [hlen]; exact len_max (Nat.le_trans hl hm)⟩
    by_cases h0 : l = 0
    · exact .inl (by rw [hlen]; exact h0)
    · obtain ⟨b, off, rfl, hc⟩ := ints_at hcell (by omega)
      refine .inr ⟨b, off, rfl, trivial, fun k hk => ?_⟩
      rw [hlen] at hk
      rw [hc k (by omega)]
      simp [gi, hk]
theorem open_strs1 {fuel : Nat} {v : Value} {x : DataW H × List MemPlace} (h : DataW.trod enc Try.prog W 0 (fun _ => true) true fuel 23 [v] = some x) : ∃ xs : List ByteArray, StrsAt Any W v xs ∧ xs.length ≤ 9223372036854775807 ∧ ∀ k, (gs xs k).size ≤ 9223372036854775807 := by
  rcases open_strings Try.underlying23 Try.underlying9 (by kernel_rfl) h with ⟨hcs, _⟩ | ⟨a, l, c, zs, hcs, _, hl, hm, hz, _, hcell, hwf⟩
  · obtain rfl : v = .slice none 0 0 := by simpa using hcs
    exact ⟨[], ⟨none, 0, rfl, Nat.le_refl _, .inl rfl⟩, by simp, fun k => by simp [gs]⟩
  · obtain rfl : v = .slice (some a) l c := by simpa using hcs
    simp only [if_true] at hz
    have hlen : (zs.take l).length = l := by simp; omega
    refine ⟨zs.take l, ⟨some a, c, by rw [hlen], by rw [hlen]; exact hl, ?_⟩, by rw [hlen]; exact len_max (Nat.le_trans hl hm), fun k => ?_⟩
    · by_cases h0 : l = 0
      · exact .inl (by rw [hlen]; exact h0)
      · obtain ⟨b, off, spot⟩ := a
        have hspot : spot = none := by simpa [Addr.add] using World.cell?_spot (hcell 0 (by omega))
        subst hspot
        refine .inr ⟨b, off, rfl, trivial, fun k hk => ?_⟩
        rw [hlen] at hk
        rw [← add_plain, hcell k (by omega)]
        have hk2 : k < zs.length := by omega
        simp [gs, hk, hk2]
    · by_cases hk : k < (zs.take l).length
      · have hm : gs (zs.take l) k ∈ zs := by
          have : gs (zs.take l) k = (zs.take l)[k] := by unfold gs; rw [List.getD_eq_getElem?_getD, List.getElem?_eq_getElem hk]; rfl
          rw [this]; exact List.mem_of_mem_take (List.getElem_mem hk)
        exact len_max (hwf _ hm)
      · have : gs (zs.take l) k = ByteArray.empty := by simp [gs, List.getElem?_eq_none (by omega : (zs.take l).length ≤ k)]
        rw [this]; simp
theorem open_rows1 {fuel : Nat} {v : Value} {x : DataW H × List MemPlace} (h : DataW.trod enc Try.prog W 0 (fun _ => true) true fuel 26 [v] = some x) : ∃ xs : List (List Int), RowsAt Any W v xs ∧ xs.length ≤ 9223372036854775807 ∧ ∀ k, (gl xs k).length ≤ 9223372036854775807 := by
  rcases open_int_rows Try.underlying26 Try.underlying22 Try.underlying3 (by kernel_rfl) (by kernel_rfl) h with ⟨hcs, _⟩ | ⟨a, l, c, A, L, C, Z, hcs, _, hl, hm, _, hr⟩
  · obtain rfl : v = .slice none 0 0 := by simpa using hcs
    exact ⟨[], ⟨fun _ => undef, ⟨none, 0, rfl, Nat.le_refl _, .inl rfl⟩, fun k hk => absurd hk (Nat.not_lt_zero _)⟩, by simp, fun k => by simp [gl]⟩
  · obtain rfl : v = .slice (some a) l c := by simpa using hcs
    have hlen : ((List.range l).map fun r => (Z r).take (L r)).length = l := by simp
    have hgl : ∀ k, k < l → gl ((List.range l).map fun r => (Z r).take (L r)) k = (Z k).take (L k) := fun k hk => by simp [gl, hk]
    have hLk : ∀ k, k < l → ((Z k).take (L k)).length = L k := fun k hk => by obtain ⟨_, h1, _, h3, _⟩ := hr k (by omega); simp; omega
    refine ⟨(List.range l).map fun r => (Z r).take (L r), ⟨fun k => .slice (A k) (L k) (C k), ⟨some a, c, by rw [hlen], by rw [hlen]; exact hl, ?_⟩, fun k hk => ?_⟩, by rw [hlen]; exact len_max (Nat.le_trans hl hm), fun k => ?_⟩
    · by_cases h0 : l = 0
      · exact .inl (by rw [hlen]; exact h0)
      · obtain ⟨b, off, spot⟩ := a
        have hspot : spot = none := by simpa [Addr.add] using World.cell?_spot (hr 0 (by omega)).1
        subst hspot
        refine .inr ⟨b, off, rfl, trivial, fun k hk => ?_⟩
        rw [hlen] at hk
        rw [← add_plain]; exact (hr k (by omega)).1
    · rw [hlen] at hk
      obtain ⟨_, h1, h2, h3, _, h5, h6⟩ := hr k (by omega)
      rw [hgl k hk]
      refine ⟨A k, C k, by rw [hLk k hk], by rw [hLk k hk]; exact h1, ?_⟩
      by_cases h0 : L k = 0
      · exact .inl (by rw [hLk k hk]; exact h0)
      · cases hA : A k with
        | none => have := h5 hA; omega
        | some a' =>
          obtain ⟨_, h7⟩ := h6 a' hA
          obtain ⟨b, off, rfl, hc⟩ := ints_at (zs := Z k) (k := .i64) (fun i hi => h7 i (by omega)) (by omega)
          refine .inr ⟨b, off, rfl, trivial, fun j hj => ?_⟩
          rw [hLk k hk] at hj
          rw [hc j (by omega)]
          simp [gi, hj]
    · by_cases hk : k < l
      · rw [hgl k hk, hLk k hk]
        obtain ⟨_, h1, h2, _⟩ := hr k (by omega)
        exact len_max (Nat.le_trans h1 h2)
      · have : gl ((List.range l).map fun r => (Z r).take (L r)) k = [] := by simp [gl, hk]
        rw [this]; simp
set_option maxRecDepth 100000 in
theorem open_tree1 {v : Value} {d : DataW H} {p : List MemPlace} {base : Nat} (hv : Value.okWide Try.prog W .any base 25 v) (h : DataW.Trod enc Try.prog W 0 (fun _ => true) true 25 v d p) :
    ∃ t : Tre, TreeAt Any W v t ∧ t.ps.length ≤ 9223372036854775807 ∧ t.ns.length ≤ 9223372036854775807 ∧ ∀ k, (gs t.ns k).size ≤ 9223372036854775807 := by
  obtain ⟨c0, c1, y0, y1, m, rfl, _, _, h0, h1⟩ := Joins.open_agg2 Try.underlying25 (by kernel_rfl) (by kernel_rfl) hv h
  obtain ⟨ps, hp, hpl⟩ := open_ints1 h0
  obtain ⟨ns, hn, hnl, hns⟩ := open_strs1 h1
  exact ⟨⟨ps, ns⟩, ⟨c0, c1, rfl, hp, hn⟩, hpl, hnl, hns⟩
theorem trod_one {t : TypeId} {v : Value} {d : DataW H} {p : List MemPlace} (h1 : v.cells = #[v]) (h : DataW.Trod enc Try.prog W 0 (fun _ => true) true t v d p) : ∃ fuel, DataW.trod enc Try.prog W 0 (fun _ => true) true fuel t [v] = some (d, p) := by
  obtain ⟨n, hn⟩ := h
  rw [h1] at hn; exact ⟨n, hn⟩
theorem lt_of {t : TypeId} {v : Value} {d : DataW H} {p : List MemPlace} (h : DataW.Trod enc Try.prog W 0 (fun _ => true) true t v d p) : ∀ x ∈ p, x.block < W.heap.size := by
  obtain ⟨m, hm⟩ := h; exact DataW.trod_lt m _ _ _ hm
set_option maxRecDepth 100000 in
theorem open_intsV {v : Value} {d : DataW H} {p : List MemPlace} {base : Nat} (hv : Value.okWide Try.prog W .any base 22 v) (h : DataW.Trod enc Try.prog W 0 (fun _ => true) true 22 v d p) : ∃ xs : List Int, IntsAt Any W v xs ∧ xs.length ≤ 9223372036854775807 := by
  obtain ⟨a, l, c, rfl⟩ := okWide_slice Try.underlying22 hv
  obtain ⟨n, hn⟩ := trod_one rfl h
  exact open_ints1 hn
set_option maxRecDepth 100000 in
theorem open_bytesV {v : Value} {d : DataW H} {p : List MemPlace} {base : Nat} (hv : Value.okWide Try.prog W .any base 37 v) (h : DataW.Trod enc Try.prog W 0 (fun _ => true) true 37 v d p) :
    ∃ xs : List Int, SlAt Any W v xs.length (fun k => .int .u8 (gi xs k)) ∧ xs.length ≤ 9223372036854775807 ∧ ∀ k, 0 ≤ gi xs k ∧ gi xs k ≤ 255 := by
  obtain ⟨a, l, c, rfl⟩ := okWide_slice Try.underlying37 hv
  obtain ⟨n, hn⟩ := trod_one rfl h
  rcases open_ints Try.underlying37 Try.underlying5 (by kernel_rfl) hn with ⟨hcs, _⟩ | ⟨a', l', c', zs, hcs, _, hl, hm, hz, _, hcell, hwf⟩
  · simp at hcs
    obtain ⟨rfl, rfl, rfl⟩ := hcs
    exact ⟨[], ⟨none, 0, rfl, Nat.le_refl _, .inl rfl⟩, by simp, fun k => by simp [gi]⟩
  · simp at hcs
    obtain ⟨rfl, rfl, rfl⟩ := hcs
    simp only [if_true] at hz
    have hlen : (zs.take l).length = l := by simp; omega
    refine ⟨zs.take l, ⟨some a', c, by rw [hlen], by rw [hlen]; exact hl, ?_⟩, by rw [hlen]; exact len_max (Nat.le_trans hl hm), fun k => ?_⟩
    · by_cases h0 : l = 0
      · exact .inl (by rw [hlen]; exact h0)
      · obtain ⟨b, off, rfl, hc⟩ := ints_at hcell (by omega)
        refine .inr ⟨b, off, rfl, trivial, fun k hk => ?_⟩
        rw [hlen] at hk
        rw [hc k (by omega)]
        simp [gi, hk]
    · by_cases hk : k < (zs.take l).length
      · have hm : gi (zs.take l) k ∈ zs := by
          have : gi (zs.take l) k = (zs.take l)[k] := by unfold gi; rw [List.getD_eq_getElem?_getD, List.getElem?_eq_getElem hk]; rfl
          rw [this]; exact List.mem_of_mem_take (List.getElem_mem hk)
        exact bounds_u8 (hwf _ hm)
      · have : gi (zs.take l) k = 0 := by unfold gi; rw [List.getD_eq_getElem?_getD, List.getElem?_eq_none (by omega)]; rfl
        rw [this]; omega
set_option maxRecDepth 100000 in
theorem open_rowsV {v : Value} {d : DataW H} {p : List MemPlace} {base : Nat} (hv : Value.okWide Try.prog W .any base 26 v) (h : DataW.Trod enc Try.prog W 0 (fun _ => true) true 26 v d p) : ∃ xs : List (List Int), RowsAt Any W v xs ∧ xs.length ≤ 9223372036854775807 ∧ ∀ k, (gl xs k).length ≤ 9223372036854775807 := by
  obtain ⟨a, l, c, rfl⟩ := okWide_slice Try.underlying26 hv
  obtain ⟨n, hn⟩ := trod_one rfl h
  exact open_rows1 hn
end
end Go.Proofs.Ytflikmllpimaiaa
