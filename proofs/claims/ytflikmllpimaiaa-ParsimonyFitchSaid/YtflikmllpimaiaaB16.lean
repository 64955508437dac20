/- A function's end behind loops over functions. -/
import Derived.Test.YtflikmllpimaiaaB15
namespace Go.Proofs.Ytflikmllpimaiaa
open Go.RowKit Go.Shelf Go.Deep
/-- What is left to do at a function's end: marks of loops over functions, in which nothing waits. -/
def Marks (n₀ : Nat) (w : World) : List Deferred → Prop
  | [] => True
  | d :: ds => (∃ r, d = { target := .collected r, args := #[] } ∧ n₀ ≤ r ∧ w.heap[r]? = some (.deferred (some [])) ∧ (∀ d' ∈ ds, d'.target ≠ .collected r)) ∧ Marks n₀ w ds
theorem Marks.keep {n₀ : Nat} {w w' : World} (h : ∀ r, w.heap[r]? = some (.deferred (some [])) → n₀ ≤ r → w'.heap[r]? = w.heap[r]?) : ∀ {ds : List Deferred}, Marks n₀ w ds → Marks n₀ w' ds
  | [], _ => trivial
  | _ :: _, ⟨⟨r, e, hr, hk, hne⟩, ht⟩ => ⟨⟨r, e, hr, (h r hk hr).trans hk, hne⟩, ht.keep h⟩
theorem Marks.lt {n₀ : Nat} {w : World} : ∀ {ds : List Deferred}, Marks n₀ w ds → ∀ d ∈ ds, ∃ r, d.target = .collected r ∧ r < w.heap.size
  | _ :: _, ⟨⟨r, e, _, hk, _⟩, ht⟩, d, hd => by
    rcases List.mem_cons.1 hd with rfl | hd
    · refine ⟨r, by rw [e], ?_⟩
      rcases Nat.lt_or_ge r w.heap.size with h | h
      · exact h
      · rw [Array.getElem?_eq_none h] at hk; cases hk
    · exact ht.lt d hd
theorem Marks.keep' {n₀ r : Nat} {w w' : World} (h : ∀ k, k ≠ r → w'.heap[k]? = w.heap[k]?) : ∀ {ds : List Deferred}, (∀ d' ∈ ds, d'.target ≠ .collected r) → Marks n₀ w ds → Marks n₀ w' ds
  | [], _, _ => trivial
  | _ :: _, hne, ⟨⟨s, e, hs, hk, hns⟩, ht⟩ => ⟨⟨s, e, hs, (h s (by rintro rfl; exact hne _ List.mem_cons_self (by rw [e]))).trans hk, hns⟩, Marks.keep' h (fun d hd => hne d (List.mem_cons_of_mem _ hd)) ht⟩
theorem leaves_marks {fn : Func} {tmps : Array Value} {R : Ending → World → Prop} {n n₀ : Nat} {v : Value} (hres : ∀ w, (results fn tmps).run Try.prog w = .ok v w) :
    ∀ {ds : List Deferred} {w : World}, Marks n₀ w ds → (∀ w', Below n₀ w w' → w'.heap.size = w.heap.size → (∀ b : Nat, (∃ c t z, w.heap[b]? = some (Obj.cells c t z)) → w'.heap[b]? = w.heap[b]?) → R (.returned v) w') →
    LeavesInM Fence.wide n Try.prog fn tmps R ds .returning w
  | [], w, _, hR => ⟨v, hres w, hR w (Below.refl _ _) rfl fun _ _ => rfl⟩
  | d :: ds, w, ⟨⟨r, e, hr, hk, hne⟩, ht⟩, hR => by
    refine ⟨by simp, .inl ⟨r, _, by rw [e], run_takeDeferred hk, ?_⟩⟩
    have hoth : ∀ k, k ≠ r → (w.putObj r (.deferred none)).heap[k]? = w.heap[k]? := fun k hk2 => World.putObj_heap_other hk2
    refine leaves_marks hres (Marks.keep' hoth hne ht) fun w' hb hs hc => hR w' ?_ (hs.trans (by simp)) fun b ⟨c, t, z, hbk⟩ => ?_
    · exact (show Below n₀ w (w.putObj r (.deferred none)) from ⟨rfl, rfl, rfl, by simp, fun k hk2 => hoth k (by omega)⟩).trans hb
    · have hbr : b ≠ r := by rintro rfl; rw [hk] at hbk; cases hbk
      rw [hc b ⟨c, t, z, by rw [hoth b hbr]; exact hbk⟩, hoth b hbr]
end Go.Proofs.Ytflikmllpimaiaa
