/- A tree in a box of its own. Plain and map help for optimaltree.Best. -/
import Derived.Test.YteegefnjnikngaaGreatQ1
import Derived.Test.YteegefnjnikngaaGreatQ17
import Derived.Test.YteegefnjnikngaaGreatQ43
import Derived.Test.YteegefnjnikngaaGreatQ44
import Derived.Test.YteegefnjnikngaaGreatQ12
import Derived.Test.YteegefnjnikngaaGreatQ21
set_option maxRecDepth 100000
namespace Go.Proofs.YteegefnjnikngaaGreat
section
open Go.RowKit Go.Deep
structure p9 (w : World) (B : Nat) (W : World) (t : ax) : Prop where
 up : Up w W
 lo : w.heap.size ≤ B ∧ B < W.heap.size
 ex : ∃ pp pc np nc, W.heap[B]? = some (Obj.cells #[.slice pp t.ps.length pc, .slice np t.ns.length nc] 39 (0, 0)) ∧ aC (fun b => b ≠ B) W (.agg #[.slice pp t.ps.length pc, .slice np t.ns.length nc]) t
theorem KT {w4 : World} {B : Nat} {x y p q : Value} {T : TypeId} (hb : w4.heap[B]? = some (Obj.cells #[x, y] T (0, 0))) : ((w4.setCell ⟨B, 0, none⟩ p).setCell ⟨B, 1, none⟩ q).heap[B]? = some (Obj.cells #[p, q] T (0, 0)) := by
 simp [World.setCell, Array.getElem?_modify, hb]
theorem p9.BB {w w4 : World} {B : Nat} {x y : Value} {t : ax} {pp np : Option Addr} {pc nc : Nat} (hb : w4.heap[B]? = some (Obj.cells #[x, y] 39 (0, 0))) (hB : w.heap.size ≤ B) (hu : Up w w4) (hT : aC (fun b => b ≠ B) w4 (.agg #[.slice pp t.ps.length pc, .slice np t.ns.length nc]) t) :
  p9 w B ((w4.setCell ⟨B, 0, none⟩ (.slice pp t.ps.length pc)).setCell ⟨B, 1, none⟩ (.slice np t.ns.length nc)) t := by
 obtain ⟨s1, _, _, s4⟩ := dL (p := .slice pp t.ps.length pc) (q := .slice np t.ns.length nc) hb hB hu
 have hlt := (Array.getElem?_eq_some_iff.1 hb).1
 refine ⟨s1, ⟨hB, by simpa using hlt⟩, pp, pc, np, nc, KT hb, hT.keep fun b hb _ => s4 b hb⟩
theorem p9.Kh {w w2 : World} {t : ax} {pp np : Option Addr} {pc nc : Nat} (hu : Up w w2) (hT : aC Any w2 (.agg #[.slice pp t.ps.length pc, .slice np t.ns.length nc]) t) : p9 w w2.heap.size (w2.alloc (.cells #[.slice pp t.ps.length pc, .slice np t.ns.length nc] 39)) t := by
 have bq := Up.alloc w2 (.cells #[.slice pp t.ps.length pc, .slice np t.ns.length nc] 39)
 refine ⟨hu.trans bq, ⟨hu.size, by rw [World.size_alloc]; omega⟩, pp, pc, np, nc, fF, ?_⟩
 exact ((hT.sub fun b _ hl => (show b < w2.heap.size from hl)).keep (bq.kept _)).sub fun b hb _ => by omega
theorem KU {W : World} {B : Nat} {v : Value} {xs : List Int} (h : aB Any W v xs) (hb : W.heap[B]? = some (Obj.cells #[.slice none 0 0, .slice none 0 0] 39 (0, 0))) : aB (fun b => b ≠ B) W v xs := by
 obtain ⟨p, c, e, hc, h⟩ := h
 refine ⟨p, c, e, hc, ?_⟩
 rcases h with h | ⟨b, off, e2, _, h⟩
 ·exact .inl h
 ·by_cases h0 : xs.length = 0
  ·exact .inl h0
  ·refine .inr ⟨b, off, e2, fun eb => ?_, h⟩
   subst eb
   have h1 := h 0 (by omega)
   rw [Nat.add_zero] at h1
   simp only [World.cell?, hb] at h1
   match off, h1 with
   | 0, h1 => simp at h1
   | 1, h1 => simp at h1
   | off + 2, h1 => simp at h1
theorem KV {W : World} {B : Nat} {v : Value} {xs : List ByteArray} (h : av Any W v xs) (hb : W.heap[B]? = some (Obj.cells #[.slice none 0 0, .slice none 0 0] 39 (0, 0))) : av (fun b => b ≠ B) W v xs := by
 obtain ⟨p, c, e, hc, h⟩ := h
 refine ⟨p, c, e, hc, ?_⟩
 rcases h with h | ⟨b, off, e2, _, h⟩
 ·exact .inl h
 ·by_cases h0 : xs.length = 0
  ·exact .inl h0
  ·refine .inr ⟨b, off, e2, fun eb => ?_, h⟩
   subst eb
   have h1 := h 0 (by omega)
   rw [Nat.add_zero] at h1
   simp only [World.cell?, hb] at h1
   match off, h1 with
   | 0, h1 => simp at h1
   | 1, h1 => simp at h1
   | off + 2, h1 => simp at h1
theorem AD {W : World} {B : Nat} {v : Value} {t : ax} (h : aC Any W v t) (hb : W.heap[B]? = some (Obj.cells #[.slice none 0 0, .slice none 0 0] 39 (0, 0))) : aC (fun b => b ≠ B) W v t := by
 obtain ⟨P, N, e, hP, hN⟩ := h
 exact ⟨P, N, e, KU hP hb, KV hN hb⟩
end
section
open Go.RowKit Go.Deep
def gR (names : List ByteArray) (k : Nat) : RT := (bD names).getD k (.node ByteArray.empty [])
theorem D4 {names : List ByteArray} {k : Nat} (h : k < (bD names).length) : gt (allT names) k = flat (gR names k) := by
 unfold allT gR gt
 simp [h]
theorem Ki {names : List ByteArray} {k : Nat} (h : k < (bD names).length) : gR names k ∈ bD names := by simp [gR, h]
theorem TV {names : List ByteArray} (hn : fT names) {j k : Nat} (hj : j < (bD names).length) (hk : k < (bD names).length) (e : aW (gR names j) = aW (gR names k)) : gR names j = gR names k := by
 have e1 : cn (gR names j) = cn (gR names k) := by
  have := congrArg (fun b : ByteArray => b.data.toList) e
  simpa [aW] using this
 exact Qg (fJ hn (Ki hj)).1.good.jm (fJ hn (Ki hk)).1.good.jm (List.append_cancel_right e1)
def qQ (names : List ByteArray) (states : List (List Int)) (k : Nat) : Int := cN (gt (allT names) k) names states
def scK (names : List ByteArray) (states : List (List Int)) : Nat → List (ByteArray × Value)
 | 0 => []
 | n + 1 => sL (scK names states n) (aW (gR names n)) (.int .i64 (qQ names states n))
theorem Kj (names : List ByteArray) (states : List (List Int)) : ∀ n, wu (scK names states n)
 | 0 => by unfold wu scK; simp
 | n + 1 => Pf (Kj names states n) _ _
theorem Kk {names : List ByteArray} (hn : fT names) (states : List (List Int)) {k : Nat} (hk : k < (bD names).length) : ∀ {n : Nat}, n ≤ (bD names).length → k < n → (scK names states n).lookup (aW (gR names k)) = some (.int .i64 (qQ names states k))
 | 0, _, h => absurd h (Nat.not_lt_zero _)
 | n + 1, hle, h => by
  rw [scK, KE]
  split
  ·rename_i e
   have e2 := TV hn hk (show n < _ by omega) e
   unfold qQ
   rw [D4 hk, D4 (show n < _ by omega), e2]
  ·rename_i e
   have : k ≠ n := fun e3 => e (by rw [e3])
   exact Kk hn states hk (by omega) (by omega)
def qV (names : List ByteArray) (states : List (List Int)) (n : Nat) : List ax := ((allT names).take n).filter fun t => decide (cN t names states = kE names states)
theorem Rc {names : List ByteArray} (states : List (List Int)) {n : Nat} (h : n < (allT names).length) : qV names states (n + 1) = qV names states n ++ if qQ names states n = kE names states then [gt (allT names) n] else [] := by
 unfold qV qQ
 rw [D2 h, List.filter_append]
 congr 1
 by_cases e : cN (gt (allT names) n) names states = kE names states
 ·rw [if_pos e]; simp [e]
 ·rw [if_neg e]; simp [e]
theorem TW (names : List ByteArray) (states : List (List Int)) : qV names states (allT names).length = xk names states := by
 unfold qV xk; rw [List.take_length]
theorem Re {names : List ByteArray} {states : List (List Int)} (hc : tC names states) {n : Nat} (h : n < (allT names).length) : 0 ≤ qQ names states n ∧ qQ names states n ≤ 409600000 := by
 have ho := (DW hc.nm (JN h)).1
 have h1 := zH (f := fun p => cE (gt (allT names) n) (iL (gt (allT names) n) names states p) (bU 16)) (n := (gl states 0).length) fun p hp => ⟨x4 (qK hc ho hp), Ea (qK hc ho hp)⟩
 have h2 := (J8 hc.ag).2
 unfold qQ cN
 omega
def tI (names : List ByteArray) (states : List (List Int)) (n : Nat) : Int := mnK (qQ names states) n
theorem Rf {names : List ByteArray} {states : List (List Int)} (hc : tC names states) : ∀ {n : Nat}, n ≤ (allT names).length → -1 ≤ tI names states n ∧ tI names states n ≤ 409600000
 | 0, _ => by unfold tI mnK; omega
 | n + 1, h => by
  have h1 := Rf hc (n := n) (by omega)
  have h2 := Re hc (n := n) h
  unfold tI at h1 ⊢
  rw [Tx]
  split <;> omega
theorem TX (names : List ByteArray) (states : List (List Int)) (n : Nat) : tI names states (n + 1) = if tI names states n < 0 ∨ qQ names states n < tI names states n then qQ names states n else tI names states n := rfl
theorem Xa (names : List ByteArray) (states : List (List Int)) : tI names states (allT names).length = kE names states := rfl
end
end Go.Proofs.YteegefnjnikngaaGreat
