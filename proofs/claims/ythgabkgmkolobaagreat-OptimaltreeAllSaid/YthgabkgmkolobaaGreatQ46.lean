/- SharederrorClades, plain: the tree whose leaves are renamed, the lists of the leaves .. -/
import Derived.Deep.CutRange
import Derived.RangeFuncWrites
import Derived.RangeFuncKeeps
import Derived.Laws.EntriesVeiled
import Derived.RangeFuncNested
import Derived.RangeFuncBound
import Derived.RangeFuncCalls
import Derived.RangeFuncLeaves
import Derived.Shelf.Abstract
import Derived.Shelf.RegionOpen
import Derived.WalkKit
import Derived.OwnWalkIn
import Derived.TacticsInMore
import Derived.LoopNIn
import Derived.LoopIn
import Derived.Sort.QuietIn
import Derived.Stop.RegionWithIn
import Derived.Test.YthgabkgmkolobaaGreatProg
import Derived.WalkSpells
import Derived.WalkLawsBesides
import Derived.Deep.OwnRows
import Derived.Deep.QuietTactic
import Derived.BigQuiet
import Derived.Lib.Hide
import Derived.Shelf.Small.Strs
import Derived.Maps.AppendAt
import Derived.Deep.AppendLies
import Derived.Sort.OwnSorted
import Derived.Lib.Bytealg
import Derived.Sort.Statements
import Derived.StillTail
import Derived.MapKept
import Derived.Laws.Pointers
import Derived.Shelf.SlGeneric
import Derived.Shelf.SlSortCmp.NoneTotal
import Derived.Deep.RegionHeld3
import Derived.OrdersHeld
import Derived.Deep.RegionHeld
import Derived.StillTailTactics
import Derived.OrdersIn
import Derived.ArgAppend
import Derived.Laws.Bits64b
import Derived.Laws.BitsAllLaws
import Derived.Laws.IdiomStrings
import Derived.Shelf.Slices.In.SortNone
import Derived.Shelf.Lays
import Derived.Shelf.Sort.Plain
import Derived.Ground.NamesProg
import Derived.Shelf.SortM.Plain
import Derived.Shelf.SortM.SortNone
import Derived.Sort.OwnSortedInts
import Derived.Shelf.SlLaysM
import Derived.Ground.SlgmProg
import Derived.Test.YthgabkgmkolobaaGreatQ23
import Derived.Test.YthgabkgmkolobaaGreatQ22
import Derived.Test.YthgabkgmkolobaaGreatQ21
import Derived.Test.YthgabkgmkolobaaGreatQ20
import Derived.Test.YthgabkgmkolobaaGreatQ19
import Derived.Test.YthgabkgmkolobaaGreatQ18
import Derived.Test.YthgabkgmkolobaaGreatQ17
import Derived.Test.YthgabkgmkolobaaGreatQ16
import Derived.Test.YthgabkgmkolobaaGreatQ15
import Derived.Test.YthgabkgmkolobaaGreatQ14
import Derived.Test.YthgabkgmkolobaaGreatQ13
import Derived.Test.YthgabkgmkolobaaGreatQ12
import Derived.Test.YthgabkgmkolobaaGreatQ3
import Derived.Test.YthgabkgmkolobaaGreatQ2
import Derived.Test.YthgabkgmkolobaaGreatQ1
import Derived.Test.YthgabkgmkolobaaGreatQ10
import Derived.Test.YthgabkgmkolobaaGreatQ8
import Derived.Test.YthgabkgmkolobaaGreatQ7
import Derived.Test.YthgabkgmkolobaaGreatQ6
import Derived.Test.YthgabkgmkolobaaGreatQ5
import Derived.Test.YthgabkgmkolobaaGreatQ4
import Derived.Test.YthgabkgmkolobaaGreatQ9
import Derived.Test.YthgabkgmkolobaaGreatQ11
import Derived.Lib.SliceRun
import Derived.Test.YthgabkgmkolobaaGreatQ26
import Derived.Test.YthgabkgmkolobaaGreatQ24
import Derived.Test.YthgabkgmkolobaaGreatQ29
import Derived.Lib.IndexAny
import Derived.Lib.MinMax
import Derived.Shelf.Strings.BuilderK
import Derived.Ground.Names2Prog
import Derived.Test.YthgabkgmkolobaaGreatQ27
import Derived.Test.YthgabkgmkolobaaGreatQ25
import Derived.Test.YthgabkgmkolobaaGreatQ30
import Derived.Lib.OthersKept
import Derived.Shelf.Strings.IndexAnyAll
import Derived.Laws.RangeAny
import Derived.WalkMore
import Derived.Shelf.Small.Utf8
import Derived.Maps.OwnIn
import Derived.Shelf.SlSortCmp.WholeK
import Derived.Ground.SlsfProg
import Derived.Test.YthgabkgmkolobaaGreatQ41
import Derived.Test.YthgabkgmkolobaaGreatQ33
import Derived.Test.YthgabkgmkolobaaGreatQ31
import Derived.Test.YthgabkgmkolobaaGreatQ28
import Derived.Test.YthgabkgmkolobaaGreatQ34
import Derived.Test.YthgabkgmkolobaaGreatQ32
set_option maxRecDepth 100000
namespace Go.Proofs.YthgabkgmkolobaaGreat
section
section
variable {t : ay}
theorem Fi {ps : List Int} (hp : fZ ps = true) {i k : Nat} (hik : i ≤ k) : ∀ (d j : Nat), j ≤ d → j < ps.length → l5 ps i j = true → l5 ps k j = true → l5 ps i k = true
 | d, j, hd, hj, h1, h2 => by
  have hkj := uN hp hj h2
  by_cases e : j = k
  ·subst e; exact h1
  ·obtain ⟨p0, pj⟩ := oT hp hj (by omega)
   rw [oU hp hj (by omega)] at h1 h2
   cases d with
   | zero => omega
   | succ d => exact Fi hp hik d (gi ps j).toNat (by omega) (by omega) h1 h2
end
end
section
def kI (t : ay) (leaf z : Nat) : Bool := l5 t.ps z leaf
def CD (t : ay) (leaf z : Nat) : List Nat :=
 if z = t.ps.length then leaf :: (if leaf = 0 then [] else [(gi t.ps leaf).toNat])
 else if kI t leaf z = true ∧ z ≠ leaf then (aS t.ps z).filter (fun k => !kI t leaf k) ++ (if z = 0 then [] else [(gi t.ps z).toNat])
 else aS t.ps z
def tO (t : ay) (leaf : Nat) : aT := ⟨upd (gs t.ns) t.ps.length ByteArray.empty, upd (fun i => (i : Int)) t.ps.length 0, CD t leaf⟩
def JA (t : ay) (leaf z : Nat) : Nat := if z = t.ps.length then 3 * t.ps.length + 3 else if kI t leaf z = true ∧ z ≠ leaf then t.ps.length + 1 + z else cu t z
section
variable {t : ay} {leaf : Nat}
theorem cV.ok (h : cV t leaf) : fZ t.ps = true := (aD h.te).2.2.2.1
theorem cV.nokid (h : cV t leaf) : aS t.ps leaf = [] := by
 cases hk : aS t.ps leaf with
 | nil => rfl
 | cons k l =>
  obtain ⟨h1, h2, h3⟩ := cr.1 (show k ∈ aS t.ps leaf by rw [hk]; simp)
  exact absurd (pH h.te h1 h2 h3) h.nm
theorem cV.par (h : cV t leaf) {z : Nat} (hz : z < t.ps.length) (h0 : z ≠ 0) : ∃ q : Nat, gi t.ps z = q ∧ q < z := by
 have := oT h.ok hz (by omega)
 exact ⟨(gi t.ps z).toNat, by omega, by omega⟩
theorem cV.vq (_h : cV t leaf) : kI t leaf leaf = true := AX leaf
theorem cV.CE (h : cV t leaf) {z : Nat} (hz : kI t leaf z = true) : z ≤ leaf := uN h.ok h.lt hz
theorem cV.yX (h : cV t leaf) {z q : Nat} (hz : kI t leaf z = true) (h0 : z ≠ 0) (hq : gi t.ps z = q) : kI t leaf q = true := by
 have hzl := h.CE hz
 have Lf : z < t.ps.length := Nat.lt_of_le_of_lt hzl h.lt
 obtain ⟨q', h1, h2⟩ := h.par Lf h0
 obtain rfl : q = q' := by omega
 exact (Da h.ok h.lt).2 (.inr ⟨z, Lf, h2, hq, hz⟩)
theorem cV.QE (h : cV t leaf) {z : Nat} (hz : kI t leaf z = true) (hne : z ≠ leaf) : ∃ c, c < t.ps.length ∧ z < c ∧ gi t.ps c = z ∧ kI t leaf c = true := by
 rcases (Da h.ok h.lt).1 hz with e | ⟨c, h1, h2, h3, h4⟩
 ·exact absurd e.symm hne
 ·exact ⟨c, h1, h2, h3, h4⟩
theorem cV.JB (h : cV t leaf) {x y q : Nat} (hx : kI t leaf x = true) (hy : kI t leaf y = true) (hxy : x < y) (hq : gi t.ps y = q) : x ≤ q := by
 have Ee : y < t.ps.length := Nat.lt_of_le_of_lt (h.CE hy) h.lt
 obtain ⟨q', h1, h2⟩ := h.par Ee (by omega)
 obtain rfl : q = q' := by omega
 have h3 := Fi h.ok (Nat.le_of_lt hxy) leaf leaf (Nat.le_refl _) h.lt hx hy
 rw [oU h.ok Ee hxy, hq] at h3
 exact uN h.ok (show q < _ by omega) h3
theorem cV.JC (h : cV t leaf) {x y q : Nat} (hx : kI t leaf x = true) (hy : kI t leaf y = true) (hx0 : q < x) (hy0 : q < y) (e1 : gi t.ps x = q) (e2 : gi t.ps y = q) : x = y := by
 rcases Nat.lt_trichotomy x y with c | c | c
 ·have := h.JB hx hy c e2; omega
 ·exact c
 ·have := h.JB hy hx c e1; omega
theorem QF (h : cV t leaf) {p k : Nat} (hp : p < t.ps.length + 1) (hk : k ∈ (tO t leaf).kids p) :
  (p = t.ps.length ∧ k = leaf) ∨ (p = t.ps.length ∧ leaf ≠ 0 ∧ gi t.ps leaf = k ∧ k < leaf) ∨ (p < t.ps.length ∧ k < t.ps.length ∧ p < k ∧ gi t.ps k = p ∧ kI t leaf k = false) ∨ (p < t.ps.length ∧ kI t leaf p = true ∧ p ≠ leaf ∧ p ≠ 0 ∧ gi t.ps p = k ∧ k < p) := by
 have hk : k ∈ CD t leaf p := hk
 unfold CD at hk
 split at hk
 ·rename_i e
  rcases List.mem_cons.1 hk with e2 | e2
  ·exact .inl ⟨e, e2⟩
  ·split at e2
   ·cases e2
   ·rename_i h0
    have e2 : k = (gi t.ps leaf).toNat := by simpa using e2
    obtain ⟨q, h1, h2⟩ := h.par h.lt h0
    exact .inr (.inl ⟨e, h0, by omega, by omega⟩)
 ·rename_i e
  split at hk
  ·rename_i hz
   rcases List.mem_append.1 hk with h1 | h1
   ·obtain ⟨h1, h2⟩ := List.mem_filter.1 h1
    obtain ⟨h3, h4, h5⟩ := cr.1 h1
    exact .inr (.inr (.inl ⟨by omega, h3, h4, h5, by simpa using h2⟩))
   ·split at h1
    ·cases h1
    ·rename_i h0
     have h1 : k = (gi t.ps p).toNat := by simpa using h1
     obtain ⟨q, h2, h3⟩ := h.par (z := p) (by omega) h0
     exact .inr (.inr (.inr ⟨by omega, hz.1, hz.2, h0, by omega, by omega⟩))
  ·rename_i hz
   obtain ⟨h3, h4, h5⟩ := cr.1 hk
   refine .inr (.inr (.inl ⟨by omega, h3, h4, h5, ?_⟩))
   cases hc : kI t leaf k with
   | false => rfl
   | true =>
    have := h.yX hc (by omega) h5
    have : p = leaf := by
     by_cases c : p = leaf
     ·exact c
     ·exact absurd ⟨this, c⟩ hz
    rw [this, h.nokid] at hk; cases hk
theorem FM (_h : cV t leaf) {z : Nat} (hz : z < t.ps.length) (ho : kI t leaf z = true) (hne : z ≠ leaf) : JA t leaf z = t.ps.length + 1 + z := by
 unfold JA; rw [if_neg (by omega), if_pos ⟨ho, hne⟩]
theorem JD {z : Nat} (hz : z < t.ps.length) (ho : kI t leaf z = false ∨ z = leaf) : JA t leaf z = t.ps.length - z := by
 unfold JA; rw [if_neg (by omega), if_neg]
 ·rfl
 ·rintro ⟨h1, h2⟩
  rcases ho with e | e
  ·rw [e] at h1; cases h1
  ·exact h2 e
theorem LV (h : cV t leaf) {z : Nat} (hz : z < t.ps.length + 1) (hk : (tO t leaf).kids z = []) : z < t.ps.length ∧ (aS t.ps z = [] ∨ (z = 0 ∧ (gs t.ns 0).size = 0)) := by
 have hk : CD t leaf z = [] := hk
 unfold CD at hk
 split at hk
 ·cases hk
 ·rename_i e
  refine ⟨by omega, ?_⟩
  split at hk
  ·rename_i hc
   obtain ⟨c, h1, h2, h3, _⟩ := h.QE hc.1 hc.2
   by_cases h0 : z = 0
   ·subst h0; exact .inr ⟨rfl, pH h.te h1 h2 h3⟩
   ·rw [if_neg h0] at hk
    simp at hk
  ·exact .inl hk
theorem rr_arb (h : cV t leaf) : rV (tO t leaf) (t.ps.length + 1) (JA t leaf) := by
 have hlt := h.lt
 refine ⟨⟨fun p hp k hk => ?_⟩, fun p q k hp hq h1 h2 => ?_, fun i hi => ?_, fun a b ha hb h1 h2 e => ?_⟩
 ·rcases QF h hp hk with ⟨rfl, rfl⟩ | ⟨rfl, h0, e, hlt2⟩ | ⟨h1, h2, h3, e, ho⟩ | ⟨h1, ho, hne, h0, e, hlt2⟩
  ·refine ⟨by omega, ?_⟩
   rw [JD h.lt (.inr rfl)]
   unfold JA; rw [if_pos rfl]; omega
  ·refine ⟨by omega, ?_⟩
   rw [FM h (by omega) (h.yX h.vq h0 e) (by omega)]
   unfold JA; rw [if_pos rfl]; omega
  ·refine ⟨by omega, ?_⟩
   rw [JD h2 (.inl ho)]
   by_cases c : kI t leaf p = true ∧ p ≠ leaf
   ·rw [FM h h1 c.1 c.2]; omega
   ·have : kI t leaf p = false ∨ p = leaf := by
     cases hc : kI t leaf p with
     | false => exact .inl rfl
     | true => exact .inr (Classical.byContradiction fun x => c ⟨hc, x⟩)
    rw [JD h1 this]; omega
  ·refine ⟨by omega, ?_⟩
   rw [FM h h1 ho hne, FM h (by omega) (h.yX ho h0 e) (by have := h.CE ho; omega)]; omega
 ·have hon : ∀ p, p < t.ps.length + 1 → k ∈ (tO t leaf).kids p → (kI t leaf k = false ∧ p < t.ps.length ∧ gi t.ps k = p) ∨ (kI t leaf k = true ∧ (p = t.ps.length ∧ (k = leaf ∨ gi t.ps leaf = k ∧ k < leaf) ∨ p < t.ps.length ∧ kI t leaf p = true ∧ p ≠ leaf ∧ gi t.ps p = k ∧ k < p)) := fun p hp hk => by
   rcases QF h hp hk with ⟨rfl, rfl⟩ | ⟨rfl, h0, e, hlt2⟩ | ⟨h1, h2, h3, e, ho⟩ | ⟨h1, ho, hne, h0, e, hlt2⟩
   ·exact .inr ⟨h.vq, .inl ⟨rfl, .inl rfl⟩⟩
   ·exact .inr ⟨h.yX h.vq h0 e, .inl ⟨rfl, .inr ⟨e, hlt2⟩⟩⟩
   ·exact .inl ⟨ho, h1, e⟩
   ·exact .inr ⟨h.yX ho h0 e, .inr ⟨h1, ho, hne, e, hlt2⟩⟩
  rcases hon p hp h1 with ⟨a1, a2, a3⟩ | ⟨a1, a2⟩
  ·rcases hon q hq h2 with ⟨_, b2, b3⟩ | ⟨b1, _⟩
   ·omega
   ·rw [a1] at b1; cases b1
  ·rcases hon q hq h2 with ⟨b1, _⟩ | ⟨_, b2⟩
   ·rw [a1] at b1; cases b1
   ·rcases a2 with ⟨a2, a3⟩ | ⟨a2, a3, a4, a5, a6⟩
    ·rcases b2 with ⟨b2, b3⟩ | ⟨b2, b3, b4, b5, b6⟩
     ·omega
     ·exfalso
      have := h.CE b3
      rcases a3 with e | ⟨e, e2⟩
      ·omega
      ·exact b4 (h.JC b3 h.vq b6 e2 b5 e)
    ·rcases b2 with ⟨b2, b3⟩ | ⟨b2, b3, b4, b5, b6⟩
     ·exfalso
      have := h.CE a3
      rcases b3 with e | ⟨e, e2⟩
      ·omega
      ·exact a4 (h.JC a3 h.vq a6 e2 a5 e)
     ·exact h.JC a3 b3 a6 b6 a5 b5
 ·show (CD t leaf i).Nodup
  unfold CD
  have hkn : (aS t.ps i).Nodup := List.Pairwise.filter _ List.nodup_range
  split
  ·split
   ·simp
   ·rename_i h0
    obtain ⟨q, h1, h2⟩ := h.par hlt h0
    simp; omega
  ·split
   ·split
    ·rw [List.append_nil]; exact hkn.filter _
    ·rename_i hi2 _ h0
     obtain ⟨q, h1, h2⟩ := h.par (z := i) (by omega) h0
     rw [List.nodup_append]
     refine ⟨hkn.filter _, by simp, fun a ha b hb e => ?_⟩
     have hb : b = (gi t.ps i).toNat := by simpa using hb
     have := (cr.1 (List.mem_filter.1 ha).1).2.1
     omega
   ·exact hkn
 ·obtain ⟨a1, a2⟩ := LV h ha h1
  obtain ⟨b1, b2⟩ := LV h hb h2
  have e : gs t.ns a = gs t.ns b := by
   have e : upd (gs t.ns) t.ps.length ByteArray.empty a = upd (gs t.ns) t.ps.length ByteArray.empty b := e
   rw [upd_ne _ _ (by omega), upd_ne _ _ (by omega)] at e; exact e
  rcases a2 with a2 | ⟨a2, a3⟩
  ·rcases b2 with b2 | ⟨b2, b3⟩
   ·exact (dz h.te).names a b a1 b1 a2 b2 e
   ·subst b2
    exact absurd b3 (by rw [← e]; exact fL (tX h.te a1 a2))
  ·rcases b2 with b2 | ⟨b2, b3⟩
   ·subst a2
    exact absurd a3 (by rw [e]; exact fL (tX h.te b1 b2))
   ·omega
end
end
section
section
variable {t : ay} {leaf : Nat}
theorem Tl (h : cV t leaf) {z : Nat} (hz : z < t.ps.length + 1) (hk : (tO t leaf).kids z ≠ []) : ((tO t leaf).nm z).size = 0 := by
 by_cases e : z = t.ps.length
 ·subst e
  show (upd (gs t.ns) _ _ _).size = 0
  rw [upd_same]; rfl
 ·show (upd (gs t.ns) _ _ z).size = 0
  rw [upd_ne _ _ e]
  by_cases c : aS t.ps z = []
  ·exfalso
   refine hk ?_
   show CD t leaf z = []
   unfold CD
   rw [if_neg e, c, if_neg]
   rintro ⟨h1, h2⟩
   obtain ⟨k, h3, h4, h5, _⟩ := h.QE h1 h2
   have : k ∈ aS t.ps z := cr.2 ⟨h3, h4, h5⟩
   rw [c] at this; cases this
  ·obtain ⟨k, hk⟩ := List.exists_mem_of_ne_nil _ c
   obtain ⟨h3, h4, h5⟩ := cr.1 hk
   exact pH h.te h3 h4 h5
theorem Tm (h : cV t leaf) : ∀ a b, a < t.ps.length + 1 → b < t.ps.length + 1 → ((tO t leaf).nm a).size ≠ 0 → (tO t leaf).nm a = (tO t leaf).nm b → a = b := fun a b ha hb h0 e => by
 have key : ∀ c, c < t.ps.length + 1 → ((tO t leaf).nm c).size ≠ 0 → (tO t leaf).kids c = [] := fun c hc hn => by
  by_cases x : (tO t leaf).kids c = []
  ·exact x
  ·exact absurd (Tl h hc x) hn
 exact (rr_arb h).names a b ha hb (key a ha h0) (key b hb (by rw [← e]; exact h0)) e
end
end
section
namespace BT
end BT
section
variable {α β : Type}
theorem mj.perm {r s : BT α} (h : r.mj s) : r.bM.Perm s.bM := by
 induction h with
 | leaf x => exact List.Perm.refl _
 | node _ _ h1 h2 => exact h1.append h2
 | swap _ _ h1 h2 => exact (h1.append h2).trans List.perm_append_comm
end
section
variable {α : Type} [Inhabited α]
theorem getD_inj {L : List α} (hn : L.Nodup) {i j : Nat} (hi : i < L.length) (hj : j < L.length) (h : L.getD i default = L.getD j default) : i = j := by
 have h1 : L[i] = L[j] := by simpa [hi, hj] using h
 have h2 := List.pairwise_iff_getElem.1 hn
 rcases Nat.lt_trichotomy i j with h3 | h3 | h3
 ·exact absurd h1 (h2 i j hi hj h3)
 ·exact h3
 ·exact absurd h1.symm (h2 j i hj hi h3)
theorem JE : ∀ (d : Nat) (L : List α) (r s : BT α), L.Nodup → r ∈ rt d L → s ∈ rt d L → r.mj s → r = s
 | 0, _, _, _, _, h, _, _ => by cases h
 | _ + 1, [], _, _, _, h, _, _ => by cases h
 | _ + 1, [x], r, s, _, h1, h2, _ => by
  rw [rt, List.mem_singleton] at h1 h2; rw [h1, h2]
 | d + 1, x :: y :: L, r, s, hn, h1, h2, hs => by
  rw [rt, List.mem_flatMap] at h1 h2
  obtain ⟨k1, _, h1⟩ := h1
  obtain ⟨k2, _, h2⟩ := h2
  obtain ⟨a1, ha1, h1⟩ := List.mem_flatMap.1 h1
  obtain ⟨a2, ha2, h2⟩ := List.mem_flatMap.1 h2
  obtain ⟨b1, hb1, rfl⟩ := List.mem_map.1 h1
  obtain ⟨b2, hb2, rfl⟩ := List.mem_map.1 h2
  have la1 := jm d _ _ ha1
  have la2 := jm d _ _ ha2
  have lb1 := jm d _ _ hb1
  have lb2 := jm d _ _ hb2
  have JF : (y :: L).Nodup := (List.nodup_cons.1 hn).2
  have nx : ∀ p : Nat → Bool, x ∉ aW p (y :: L) (y :: L).length := fun p h => by
   obtain ⟨i, hi, _, he⟩ := fR.1 h
   rw [List.getD_eq_getElem?_getD, List.getElem?_eq_getElem hi] at he
   exact (List.nodup_cons.1 hn).1 (by rw [← he]; exact List.getElem_mem hi)
  have pn : ∀ p : Nat → Bool, (aW p (y :: L) (y :: L).length).Nodup := fun p => by
   have h := jW p (y :: L) (Nat.le_refl _)
   rw [List.take_length] at h
   exact (List.nodup_append.1 (h.symm.nodup JF)).1
  have h3 : a1.mj a2 ∧ b1.mj b2 := by
   cases hs with
   | node h1 h2 => exact ⟨h1, h2⟩
   | swap h1 h2 =>
    exfalso
    have := (mj.perm h1).symm.trans la1
    exact nx _ (lb2.mem_iff.1 (this.symm.mem_iff.1 (by simp)))
  have h4 : ∀ i, i < (y :: L).length → k1.testBit i = k2.testBit i := fun i hi => by
   have hp := (lb1.symm.trans (mj.perm h3.2)).trans lb2
   have hm := hp.mem_iff (a := (y :: L).getD i default)
   rw [fR, fR] at hm
   have hq : ∀ k : Nat, (∃ j, j < (y :: L).length ∧ k.testBit j = true ∧ (y :: L).getD j default = (y :: L).getD i default) ↔ k.testBit i = true := fun k => by
    constructor
    ·rintro ⟨j, hj, h5, h6⟩
     rw [← getD_inj JF hj hi h6]; exact h5
    ·intro h; exact ⟨i, hi, h, rfl⟩
   rw [hq, hq] at hm
   exact Bool.eq_iff_iff.2 hm
  rw [jX (p := fun i => !k1.testBit i) (q := fun i => !k2.testBit i) fun i hi => by rw [h4 i hi]] at ha1
  rw [jX (p := fun i => k1.testBit i) (q := fun i => k2.testBit i) h4] at hb1
  have hA : (x :: aW (fun i => !k2.testBit i) (y :: L) (y :: L).length).Nodup := List.nodup_cons.2 ⟨nx _, pn _⟩
  rw [JE d _ a1 a2 hA ha1 ha2 h3.1, JE d _ b1 b2 (pn _) hb1 hb2 h3.2]
theorem Bi : ∀ (d : Nat) (L : List α), L.Nodup → (rt d L).Nodup
 | 0, _, _ => List.nodup_nil
 | _ + 1, [], _ => List.nodup_nil
 | _ + 1, [x], _ => by rw [rt]; simp
 | d + 1, x :: y :: L, hn => by
  have JF : (y :: L).Nodup := (List.nodup_cons.1 hn).2
  have nx : ∀ p : Nat → Bool, x ∉ aW p (y :: L) (y :: L).length := fun p h => by
   obtain ⟨i, hi, _, he⟩ := fR.1 h
   rw [List.getD_eq_getElem?_getD, List.getElem?_eq_getElem hi] at he
   exact (List.nodup_cons.1 hn).1 (by rw [← he]; exact List.getElem_mem hi)
  have pn : ∀ p : Nat → Bool, (aW p (y :: L) (y :: L).length).Nodup := fun p => by
   have h := jW p (y :: L) (Nat.le_refl _)
   rw [List.take_length] at h
   exact (List.nodup_append.1 (h.symm.nodup JF)).1
  rw [rt]
  refine List.pairwise_flatMap.2 ⟨fun k _ => List.pairwise_flatMap.2 ⟨fun a _ => ?_, ?_⟩, ?_⟩
  ·rw [List.pairwise_map]
   exact (Bi d _ (pn _)).imp fun h e => h (by injection e)
  ·refine (Bi d _ (List.nodup_cons.2 ⟨nx _, pn _⟩)).imp fun hab z h1 z' h2 e => ?_
   obtain ⟨b1, _, rfl⟩ := List.mem_map.1 h1
   obtain ⟨b2, _, rfl⟩ := List.mem_map.1 h2
   injection e with e1 e2
   exact hab e1
  ·refine List.Pairwise.imp_of_mem ?_ (List.pairwise_lt_range' (s := 1) (n := 2 ^ (y :: L).length - 1))
   intro k1 k2 m1 m2 hk z h1 z' h2 e
   subst e
   obtain ⟨a1, ha1, h1⟩ := List.mem_flatMap.1 h1
   obtain ⟨a2, ha2, h2⟩ := List.mem_flatMap.1 h2
   obtain ⟨b1, hb1, rfl⟩ := List.mem_map.1 h1
   obtain ⟨b2, hb2, e⟩ := List.mem_map.1 h2
   injection e with e1 e2
   subst e1; subst e2
   have hp := (jm d _ _ hb1).symm.trans (jm d _ _ hb2)
   have h4 : ∀ i, i < (y :: L).length → k1.testBit i = k2.testBit i := fun i hi => by
    have hm := hp.mem_iff (a := (y :: L).getD i default)
    rw [fR, fR] at hm
    have hq : ∀ k : Nat, (∃ j, j < (y :: L).length ∧ k.testBit j = true ∧ (y :: L).getD j default = (y :: L).getD i default) ↔ k.testBit i = true := fun k => by
     constructor
     ·rintro ⟨j, hj, h5, h6⟩
      rw [← getD_inj JF hj hi h6]; exact h5
     ·intro h; exact ⟨i, hi, h, rfl⟩
    rw [hq, hq] at hm
    exact Bool.eq_iff_iff.2 hm
   rw [List.mem_range'_1] at m1 m2
   have : k1 = k2 := Nat.eq_of_testBit_eq fun i => by
    by_cases hi : i < (y :: L).length
    ·exact h4 i hi
    ·have hb : ∀ k : Nat, k < 2 ^ (y :: L).length → k.testBit i = false := fun k hk => Nat.testBit_lt_two_pow (Nat.lt_of_lt_of_le hk (Nat.pow_le_pow_right (by decide) (by omega)))
     rw [hb k1 (by omega), hb k2 (by omega)]
   omega
end
end
section
section
variable {t : ay} {leaf : Nat}
theorem cV.inj (h : cV t leaf) {a b : Nat} (ha : a < t.ps.length) (hb : b < t.ps.length) (h0 : (gs t.ns a).size ≠ 0) (e : gs t.ns a = gs t.ns b) : a = b := by
 have ea : (tO t leaf).nm a = gs t.ns a := upd_ne _ _ (by omega)
 have eb : (tO t leaf).nm b = gs t.ns b := upd_ne _ _ (by omega)
 exact Tm h a b (by omega) (by omega) (by rw [ea]; exact h0) (by rw [ea, eb]; exact e)
end
end
section
theorem Tn {α : Type} {a b c d : α} (h : [a, b].Perm [c, d]) : (a = c ∧ b = d) ∨ (a = d ∧ b = c) := by
 rcases List.mem_cons.1 (h.mem_iff.1 (List.mem_cons_self (a := a) (l := [b]))) with e | e
 ·subst e; left; exact ⟨rfl, by simpa using (List.perm_cons a).1 h⟩
 ·have e := List.mem_singleton.1 e
  subst e; right
  have h2 := h.trans (List.Perm.swap a c [])
  exact ⟨rfl, by simpa using (List.perm_cons a).1 h2⟩
theorem sU (r : RT) : (sortR r).kids.length = r.kids.length := by rw [lJ, (iO _).length_eq, List.length_map]
theorem wH (nm : ByteArray) (a b : RT) : (sortR (.node nm [a, b])).kids.Perm [sortR a, sortR b] := by rw [lJ]; exact iO [a, b]
theorem yY : ∀ {r s : BT ByteArray}, sortR (btR r) = sortR (btR s) → r.mj s
 | .leaf x, .leaf y, h => by
  rw [btR, btR, sortR, sortR] at h
  injection h with h1 h2
  subst h1; exact .leaf x
 | .leaf x, .node a b, h => by
  have h1 := congrArg (fun r => r.kids.length) h
  have h2 := sU (btR (.leaf x))
  have h3 := sU (btR (.node a b))
  have h4 : (btR (.leaf x)).kids.length = 0 := rfl
  have h5 : (btR (.node a b)).kids.length = 2 := rfl
  have h1 : (sortR (btR (.leaf x))).kids.length = (sortR (btR (.node a b))).kids.length := h1
  omega
 | .node a b, .leaf x, h => by
  have h1 := congrArg (fun r => r.kids.length) h
  have h2 := sU (btR (.leaf x))
  have h3 := sU (btR (.node a b))
  have h4 : (btR (.leaf x)).kids.length = 0 := rfl
  have h5 : (btR (.node a b)).kids.length = 2 := rfl
  have h1 : (sortR (btR (.node a b))).kids.length = (sortR (btR (.leaf x))).kids.length := h1
  omega
 | .node a b, .node c d, h => by
  have h1 : (sortR (btR (.node a b))).kids = (sortR (btR (.node c d))).kids := congrArg RT.kids h
  have h2 := (wH ByteArray.empty (btR a) (btR b)).symm.trans ((List.Perm.of_eq h1).trans (wH ByteArray.empty (btR c) (btR d)))
  rcases Tn h2 with ⟨e1, e2⟩ | ⟨e1, e2⟩
  ·exact .node (yY e1) (yY e2)
  ·exact .swap (yY e1) (yY e2)
theorem uR_inj {names : List ByteArray} (h : cH names) {r s : BT ByteArray} (hr : r ∈ rt names.length names.tail) (hs : s ∈ rt names.length names.tail) (e : uR names r = uR names s) : r = s := by
 have h1 := yY e
 refine JE _ _ _ _ h.Dk hr hs ?_
 have hr1 := jm _ _ _ hr
 have hs1 := jm _ _ _ hs
 have hn := h.nd
 rw [← h.cons] at hn
 cases h1 with
 | node _ h2 => exact h2
 | swap h1 h2 =>
  exfalso
  have := mj.perm h1
  exact (List.nodup_cons.1 hn).1 (hs1.mem_iff.1 (this.mem_iff.1 (by simp [BT.bM])))
theorem Nn {names : List ByteArray} (h : cH names) : (aM names).Nodup := by
 unfold aM
 refine (jw _).symm.nodup ?_
 show List.Pairwise _ _
 rw [List.pairwise_map]
 refine List.Pairwise.imp_of_mem ?_ (Bi _ _ h.Dk)
 intro a b ha hb hab e
 exact hab (uR_inj h ha hb e)
end
section
theorem JG : ∀ r : BT ByteArray, ∀ s ∈ subR (btR r), s.kids.length = 0 ∨ s.kids.length = 2
 | .leaf x, s, hs => by
  rw [btR, subR, subRs, List.mem_singleton] at hs
  subst hs; exact .inl rfl
 | .node a b, s, hs => by
  rw [btR, subR, subRs, subRs, subRs, List.append_nil, List.mem_cons, List.mem_append] at hs
  rcases hs with rfl | hs | hs
  ·exact .inr rfl
  ·exact JG a s hs
  ·exact JG b s hs
section
variable {names : List ByteArray} {q : RT} {i : Nat}
theorem WS (hq : q ∈ aM names) : ∀ s ∈ subR q, s.kids.length = 0 ∨ s.kids.length = 2 := fun s hs => by
 obtain ⟨r, hr, rfl⟩ := sw.1 hq
 obtain ⟨u, hu, rfl⟩ := List.mem_map.1 ((jt _).mem_iff.1 hs)
 rw [sU]
 exact JG _ u hu
theorem Np {t : ay} (h : az t = 0) {i : Nat} (hi : i < t.ps.length) : aN (ew t) (cu t) i ∈ subR (fO t) := by
 rw [rX h]; exact List.mem_map_of_mem ((B6 h).mem_iff.2 (List.mem_range.2 hi))
theorem ud {t : ay} (h : az t = 0) {i : Nat} (hi : i < t.ps.length) : aN (ew t) (cu t) i = .node (gs t.ns i) ((aS t.ps i).map (aN (ew t) (cu t))) := by
 rw [di (dz h).wf hi, iN]; rfl
theorem Nq (hn : cH names) (hq : q ∈ aM names) (hi : i < (flat q).ps.length) : (aS (flat q).ps i).length = 0 ∨ (aS (flat q).ps i).length = 2 := by
 obtain ⟨_, _, _, _, h5, _⟩ := cQ hn hq
 have h1 := Np h5 hi
 rw [kS] at h1
 have h2 := WS hq _ h1
 rw [ud h5 hi] at h2
 simpa [RT.kids] using h2
theorem Ky (hn : cH names) (hq : q ∈ aM names) (hi : i < (flat q).ps.length) (hk : aS (flat q).ps i = []) : gs (flat q).ns i ∈ names := by
 obtain ⟨_, h2, _, _, h5, _⟩ := cQ hn hq
 have ho := of_flat hn h5 h2
 obtain ⟨b, hb, e⟩ := ho.has i hi (yM h5 hi hk).nm
 rw [← e]; simp [gs, hb]
theorem JH (hn : cH names) (hq : q ∈ aM names) (hi : i < (flat q).ps.length) (hk : aS (flat q).ps i = []) (e : gs (flat q).ns i = gs names 0) : gi (flat q).ps i = 0 := by
 obtain ⟨_, _, h3, _, h5, _⟩ := cQ hn hq
 have ig := (aD h5).1
 obtain ⟨r, hr, e1⟩ := sw.1 hq
 have hkp : q.kids.Perm [sortR (btR (.leaf (gs names 0))), sortR (btR r)] := by
  rw [← e1]
  exact wH ByteArray.empty (btR (.leaf (gs names 0))) (btR r)
 have hm : sortR (btR (.leaf (gs names 0))) ∈ q.kids := hkp.mem_iff.2 (by simp)
 have h0 : aN (ew (flat q)) (cu (flat q)) 0 = q := kS q
 rw [ud h5 ig] at h0
 have hks : q.kids = (aS (flat q).ps 0).map (aN (ew (flat q)) (cu (flat q))) := by
  have := congrArg RT.kids h0
  exact this.symm
 rw [hks] at hm
 obtain ⟨c, hc, e2⟩ := List.mem_map.1 hm
 obtain ⟨c1, c2, c3⟩ := cr.1 hc
 rw [ud h5 c1] at e2
 have e3 : gs (flat q).ns c = gs names 0 := by
  have : (sortR (btR (.leaf (gs names 0)))).nm = gs names 0 := oK _
  have e4 := congrArg RT.nm e2
  exact e4.trans this
 have hl := yM h5 hi hk
 have : i = c := hl.inj hi c1 hl.nm (by rw [e, e3])
 rw [this]; exact c3
theorem QG (hn : cH names) {j k : Nat} (hjk : j < k) (hk : k < (aM names).length) : Lib.compareBytes (bJ ((aM names).getD j (.node ByteArray.empty []))) (bJ ((aM names).getD k (.node ByteArray.empty []))) < 0 := by
 have hs : (aM names).Pairwise eV := pM _
 have eT := Nn hn
 have h1 := List.pairwise_iff_getElem.1 hs j k (by omega) hk hjk
 have h2 := List.pairwise_iff_getElem.1 eT j k (by omega) hk hjk
 rw [List.getD_eq_getElem?_getD, List.getD_eq_getElem?_getD, List.getElem?_eq_getElem (by omega), List.getElem?_eq_getElem hk, Option.getD_some, Option.getD_some]
 have ho : ∀ r ∈ aM names, kG r := fun r hr => (cQ hn hr).1.good.jb
 refine Classical.byContradiction fun hc => h2 ?_
 refine eV.anti (ho _ (List.getElem_mem _)) (ho _ (List.getElem_mem _)) h1 ?_
 unfold eV at h1 ⊢
 have := kN (bJ (aM names)[j]) (bJ (aM names)[k])
 omega
end
end
end Go.Proofs.YthgabkgmkolobaaGreat
