/- Ways in which lists lie in memory, and what keeps them: for the walks of this seat. -/
import Derived.Test.YtflikmllpimaiaaS
import Derived.WalkKit
import Derived.WalkSpells
import Derived.WalkLawsBesides
import Derived.Deep.OwnRows
import Derived.Deep.QuietTactic
import Derived.BigQuiet
import Derived.Lib.Hide
namespace Go.Proofs.Ytflikmllpimaiaa
open Go.RowKit Go.Deep

/-- v is a slice of n elements of one cell; element k reads as f k; its array lies in a block of S. -/
def SlAt (S : Nat → Prop) (w : World) (v : Value) (n : Nat) (f : Nat → Value) : Prop :=
  ∃ p cap, v = .slice p n cap ∧ n ≤ cap ∧ (n = 0 ∨ ∃ b off, p = some ⟨b, off, none⟩ ∧ S b ∧ ∀ k, k < n → w.cell? ⟨b, off + k, none⟩ = some (f k))
def IntsAt (S : Nat → Prop) (w : World) (v : Value) (xs : List Int) : Prop := SlAt S w v xs.length (fun k => .int .i64 (gi xs k))
def StrsAt (S : Nat → Prop) (w : World) (v : Value) (xs : List ByteArray) : Prop := SlAt S w v xs.length (fun k => .string (gs xs k))
def RowsAt (S : Nat → Prop) (w : World) (v : Value) (xs : List (List Int)) : Prop := ∃ f, SlAt S w v xs.length f ∧ ∀ k, k < xs.length → IntsAt S w (f k) (gl xs k)
def TreeAt (S : Nat → Prop) (w : World) (v : Value) (t : Tre) : Prop := ∃ P N, v = .agg #[P, N] ∧ IntsAt S w P t.ps ∧ StrsAt S w N t.ns

/-- Blocks of S lie in w' as in w. -/
def Kept (S : Nat → Prop) (w w' : World) : Prop := ∀ b, S b → b < w.heap.size → w'.heap[b]? = w.heap[b]?
def Any (_ : Nat) : Prop := True

theorem SlAt.keep {S : Nat → Prop} {w w' : World} {v : Value} {n : Nat} {f : Nat → Value} (h : SlAt S w v n f) (k : Kept S w w') : SlAt S w' v n f := by
  obtain ⟨p, cap, rfl, hn, h⟩ := h
  refine ⟨p, cap, rfl, hn, ?_⟩
  rcases h with h | ⟨b, off, rfl, hS, h⟩
  · exact .inl h
  · refine .inr ⟨b, off, rfl, hS, fun i hi => ?_⟩
    have hlt : b < w.heap.size := World.block_lt_of_cell? w _ (h i hi)
    rw [World.cell?_of_block (a := ⟨b, off + i, none⟩) (k b hS hlt)]
    exact h i hi
theorem IntsAt.keep {S : Nat → Prop} {w w' : World} {v : Value} {xs : List Int} (h : IntsAt S w v xs) (k : Kept S w w') : IntsAt S w' v xs := SlAt.keep h k
theorem StrsAt.keep {S : Nat → Prop} {w w' : World} {v : Value} {xs : List ByteArray} (h : StrsAt S w v xs) (k : Kept S w w') : StrsAt S w' v xs := SlAt.keep h k
theorem RowsAt.keep {S : Nat → Prop} {w w' : World} {v : Value} {xs : List (List Int)} (h : RowsAt S w v xs) (k : Kept S w w') : RowsAt S w' v xs := by
  obtain ⟨f, h, hr⟩ := h
  exact ⟨f, h.keep k, fun i hi => (hr i hi).keep k⟩
theorem TreeAt.keep {S : Nat → Prop} {w w' : World} {v : Value} {t : Tre} (h : TreeAt S w v t) (k : Kept S w w') : TreeAt S w' v t := by
  obtain ⟨P, N, rfl, h1, h2⟩ := h
  exact ⟨P, N, rfl, h1.keep k, h2.keep k⟩
theorem SlAt.sub {S T : Nat → Prop} {w : World} {v : Value} {n : Nat} {f : Nat → Value} (h : SlAt S w v n f) (k : ∀ b, S b → b < w.heap.size → T b) : SlAt T w v n f := by
  obtain ⟨p, cap, rfl, hn, h⟩ := h
  refine ⟨p, cap, rfl, hn, ?_⟩
  rcases h with h | ⟨b, off, rfl, hS, h⟩
  · exact .inl h
  · by_cases hn0 : n = 0
    · exact .inl hn0
    · exact .inr ⟨b, off, rfl, k b hS (World.block_lt_of_cell? w _ (h 0 (by omega))), h⟩
theorem IntsAt.sub {S T : Nat → Prop} {w : World} {v : Value} {xs : List Int} (h : IntsAt S w v xs) (k : ∀ b, S b → b < w.heap.size → T b) : IntsAt T w v xs := SlAt.sub h k
theorem StrsAt.sub {S T : Nat → Prop} {w : World} {v : Value} {xs : List ByteArray} (h : StrsAt S w v xs) (k : ∀ b, S b → b < w.heap.size → T b) : StrsAt T w v xs := SlAt.sub h k
theorem RowsAt.sub {S T : Nat → Prop} {w : World} {v : Value} {xs : List (List Int)} (h : RowsAt S w v xs) (k : ∀ b, S b → b < w.heap.size → T b) : RowsAt T w v xs := by
  obtain ⟨f, h, hr⟩ := h
  exact ⟨f, h.sub k, fun i hi => (hr i hi).sub k⟩
theorem TreeAt.sub {S T : Nat → Prop} {w : World} {v : Value} {t : Tre} (h : TreeAt S w v t) (k : ∀ b, S b → b < w.heap.size → T b) : TreeAt T w v t := by
  obtain ⟨P, N, rfl, h1, h2⟩ := h
  exact ⟨P, N, rfl, h1.sub k, h2.sub k⟩
theorem Kept.refl (S : Nat → Prop) (w : World) : Kept S w w := fun _ _ _ => rfl
theorem Kept.trans {S : Nat → Prop} {a b c : World} (h : Kept S a b) (k : Kept S b c) (hs : a.heap.size ≤ b.heap.size) : Kept S a c :=
  fun i hi hl => (k i hi (Nat.lt_of_lt_of_le hl hs)).trans (h i hi hl)
theorem Kept.of_below {S : Nat → Prop} {a b : World} {B : Nat} (h : Below B a b) (k : ∀ i, S i → i < a.heap.size → i < B) : Kept S a b :=
  fun i hi hl => h.block i (k i hi hl)
theorem Kept.below {S : Nat → Prop} {a b : World} (h : Below a.heap.size a b) : Kept S a b := fun i _ hl => h.block i hl
/-- The slice, taken apart. -/
theorem SlAt.open {S : Nat → Prop} {w : World} {v : Value} {n : Nat} {f : Nat → Value} (h : SlAt S w v n f) :
    ∃ p cap, v = .slice p n cap ∧ n ≤ cap ∧ ∀ k, k < n → ∃ b off, p = some ⟨b, off, none⟩ ∧ w.cell? ⟨b, off + k, none⟩ = some (f k) := by
  obtain ⟨p, cap, rfl, hn, h⟩ := h
  refine ⟨p, cap, rfl, hn, fun k hk => ?_⟩
  rcases h with h | ⟨b, off, rfl, _, h⟩
  · omega
  · exact ⟨b, off, rfl, h k hk⟩
theorem below_drewN {B : Nat} {a w : World} (h : Below B a w) (n : Nat) : Below B a (w.drewN n) := ⟨h.os, h.tape, h.output, h.size, h.block⟩
theorem bcell {W w1 : World} (hb : Below W.heap.size W w1) : (∀ b o, b < W.heap.size → w1.cell? ⟨b, o, none⟩ = W.cell? ⟨b, o, none⟩) ∧ (∀ b o, b < W.heap.size → w1.frozen? ⟨b, o, none⟩ = W.frozen? ⟨b, o, none⟩) :=
  ⟨fun b o h => hb.cell (p := ⟨b, o, none⟩) h, fun b o h => hb.frozen (p := ⟨b, o, none⟩) h⟩
theorem ret_int {k : IntKind} {a b : Int} (h : a = b) : Ending.returned (.int k a) = .returned (.int k b) := by rw [h]
theorem ret_bool {a b : Bool} (h : a = b) : Ending.returned (.bool a) = .returned (.bool b) := by rw [h]
end Go.Proofs.Ytflikmllpimaiaa
