/- Names: package charset, layer 1's reference, the names of leaves. -/
import Derived.Test.YtflikmllpimaiaaProg
import Derived.Test.YtflikmllpimaiaaB0
import Derived.Test.YtflikmllpimaiaaShelf
namespace Go.Proofs.Ytflikmllpimaiaa
open Go.RowKit Go.Deep
def punS : ByteArray := ⟨#[46, 44, 59, 58, 33, 63, 40, 41, 45]⟩
theorem pun_ix : ∀ c, c < 256 → (decide (0 ≤ Lib.indexByte punS.data.toList c.toUInt8)) = isPun c := by
  decide +kernel
theorem ofk {a b : Int} (h : a = b) {w w' : World} (hw : w = w') : Ending.returned (.int .i64 a) = .returned (.int .i64 b) ∧ w = w' := ⟨by rw [h], hw⟩
theorem pun_iff {c : Nat} {x : Int} (hc : c < 256) (hx : Lib.indexByte [46, 44, 59, 58, 33, 63, 40, 41, 45] ((c : Int).toNat).toUInt8 = x) : 0 ≤ x ↔ isPun c = true := by
  have h := pun_ix c hc
  rw [← h, ← hx]; simp [punS]
set_option maxRecDepth 100000 in
set_option maxHeartbeats 400000 in
theorem kind_t (c : Nat) (hc : c < 256) (w : World) : Calls Try.prog 131 #[.int .u8 c] w fun e w' => e = .returned (.int .i64 (kindL c)) ∧ w = w' := by
  go_enter Try.func131, Try.ntmps131
  go_wp2_with (go_at_call 144; refine (Try.strings_IndexByte _ _ _).mono ?_; rintro e w' ⟨rfl, rfl⟩; generalize hx : Lib.indexByte _ _ = x)
  all_goals (try go_ret)
  all_goals (refine ofk ?_ rfl)
  all_goals (first | (have h5 := pun_iff hc ‹Lib.indexByte _ _ = _›; unfold kindL isLet; by_cases hp : isPun c = true <;> simp only [hp] at * <;> simp at * <;> omega) | (simp [kindL, isLet, isPun] at *; done) | (simp [kindL, isLet, isPun] at *; omega))
end Go.Proofs.Ytflikmllpimaiaa
