/- What the functions of layers 1 and 31 compute, as plain functions on lists. Plain: the .. -/
import Derived.Test.YthgabkgmkolobaaGreatQ1
import Derived.RangeFuncNested
import Derived.RangeFuncBound
import Derived.RangeFuncCalls
import Derived.RangeFuncLeaves
import Derived.Shelf.Abstract
import Derived.Shelf.RegionOpen
import Derived.WalkKit
import Derived.OwnWalkIn
import Derived.TacticsInMore
import Derived.LoopNIn
import Derived.LoopIn
import Derived.Sort.QuietIn
import Derived.Stop.RegionWithIn
import Derived.Test.YthgabkgmkolobaaGreatProg
import Derived.WalkSpells
import Derived.WalkLawsBesides
import Derived.Deep.OwnRows
import Derived.Deep.QuietTactic
import Derived.BigQuiet
import Derived.Lib.Hide
import Derived.Shelf.Small.Strs
import Derived.Maps.AppendAt
import Derived.Deep.AppendLies
import Derived.StillTail
import Derived.Test.YthgabkgmkolobaaGreatQ6
import Derived.Test.YthgabkgmkolobaaGreatQ5
import Derived.Test.YthgabkgmkolobaaGreatQ3
import Derived.Test.YthgabkgmkolobaaGreatQ2
import Derived.Test.YthgabkgmkolobaaGreatQ4
import Derived.Deep.CutRange
import Derived.Laws.Bits64b
import Derived.Laws.BitsAllLaws
import Derived.Deep.RegionHeld3
import Derived.OrdersHeld
import Derived.Deep.RegionHeld
import Derived.StillTailTactics
import Derived.RangeFuncWrites
import Derived.RangeFuncKeeps
import Derived.Laws.EntriesVeiled
import Derived.Sort.OwnSorted
import Derived.Lib.Bytealg
import Derived.Sort.Statements
import Derived.MapKept
import Derived.Laws.Pointers
import Derived.Shelf.SlGeneric
import Derived.Shelf.SlSortCmp.NoneTotal
import Derived.OrdersIn
import Derived.Test.YthgabkgmkolobaaGreatQ19
import Derived.Test.YthgabkgmkolobaaGreatQ15
import Derived.Test.YthgabkgmkolobaaGreatQ17
import Derived.Test.YthgabkgmkolobaaGreatQ16
import Derived.Test.YthgabkgmkolobaaGreatQ9
import Derived.Test.YthgabkgmkolobaaGreatQ7
import Derived.Test.YthgabkgmkolobaaGreatQ8
import Derived.Test.YthgabkgmkolobaaGreatQ14
import Derived.Test.YthgabkgmkolobaaGreatQ13
import Derived.Test.YthgabkgmkolobaaGreatQ12
import Derived.Test.YthgabkgmkolobaaGreatQ10
import Derived.Test.YthgabkgmkolobaaGreatQ11
import Derived.ArgAppend
import Derived.Test.YthgabkgmkolobaaGreatQ22
import Derived.Test.YthgabkgmkolobaaGreatQ21
import Derived.Test.YthgabkgmkolobaaGreatQ20
import Derived.Test.YthgabkgmkolobaaGreatQ18
set_option maxRecDepth 100000
namespace Go.Proofs.YthgabkgmkolobaaGreat
section
end
section
end
section
end
section
end
section
end
section
end
section
end
section
end
section
end
section
def wJ (t : ay) (st : List Int) (cs : List (List Int)) (l : List Int) (k : Nat) : Int :=
 (bh (if k = 0 then fun _ => 0 else gi (gl cs (gi l (gi t.ps k).toNat).toNat)) (gi (aP t st cs k)) cs.length).2
def jM (t : ay) (st : List Int) (cs : List (List Int)) : Nat → List Int
 | 0 => []
 | k + 1 => jM t st cs k ++ [wJ t st cs (jM t st cs k) k]
def fe (t : ay) (st : List Int) (cs : List (List Int)) : List Int := jM t st cs t.ps.length
theorem wK (t : ay) (st : List Int) (cs : List (List Int)) : ∀ k, (jM t st cs k).length = k
 | 0 => rfl
 | k + 1 => by rw [jM, List.length_append, wK t st cs k]; rfl
theorem tP (l : List Int) (x : Int) (j : Nat) : gi (l ++ [x]) j = if j < l.length then gi l j else if j = l.length then x else 0 := by
 unfold gi
 by_cases h : j < l.length
 ·rw [if_pos h]; simp [List.getElem?_append, h]
 ·rw [if_neg h]
  by_cases e : j = l.length
  ·rw [if_pos e]; simp [e]
  ·rw [if_neg e]; simp; rw [List.getElem?_eq_none (by simp; omega)]; rfl
theorem Am (t : ay) (st : List Int) (cs : List (List Int)) {k j : Nat} (h : j < k) : gi (jM t st cs (k + 1)) j = gi (jM t st cs k) j := by
 rw [jM, tP, wK, if_pos h]
theorem ue (t : ay) (st : List Int) (cs : List (List Int)) (k : Nat) : gi (jM t st cs (k + 1)) k = wJ t st cs (jM t st cs k) k := by
 rw [jM, tP, wK, if_neg (by omega), if_pos rfl]
theorem qW (t : ay) (st : List Int) (cs : List (List Int)) {j : Nat} : ∀ {k n : Nat}, j < k → k ≤ n → gi (jM t st cs n) j = gi (jM t st cs k) j
 | k, 0, h, h2 => by omega
 | k, n + 1, h, h2 => by
  by_cases e : k = n + 1
  ·rw [e]
  ·rw [Am t st cs (by omega), qW t st cs h (by omega)]
section
variable {t : ay} {st : List Int} {cs : List (List Int)}
theorem JL (hv : Valid t st cs) (a : Nat) : ∀ j, j < cs.length → 0 ≤ gi (gl cs a) j ∧ gi (gl cs a) j ≤ 1000 := fun j _ => (pG hv.NR).2.2.2.1 a j
theorem JM (hv : Valid t st cs) (l : List Int) {k : Nat} (hk : k < t.ps.length) : ∃ o : Nat, wJ t st cs l k = o ∧ o < cs.length ∧ 0 ≤ gi (aP t st cs k) o := by
 unfold wJ
 obtain ⟨o, h1, h2, h3, _⟩ := qY hv (c := if k = 0 then fun _ => 0 else gi (gl cs (gi l (gi t.ps k).toNat).toNat)) (fun j hj => by
  by_cases e : k = 0
  ·simp [e]
  ·simp only [e, if_false]; exact JL hv _ j hj) hk
 exact ⟨o, h1, h2, h3⟩
theorem DC (hv : Valid t st cs) : ∀ {k j : Nat}, k ≤ t.ps.length → j < k → ∃ o : Nat, gi (jM t st cs k) j = o ∧ o < cs.length
 | 0, j, _, h => by omega
 | k + 1, j, hk, h => by
  by_cases e : j = k
  ·subst e; rw [ue]
   obtain ⟨o, h1, h2, _⟩ := JM hv (jM t st cs j) (k := j) (by omega)
   exact ⟨o, h1, h2⟩
  ·rw [Am _ _ _ (by omega)]; exact DC hv (by omega) (by omega)
end
end
section
def qX (cs : List (List Int)) (all : List Int) (node child : Nat) : Int := eX cs (gi all node).toNat (gi all child).toNat
def FN (t : ay) (cs : List (List Int)) (all : List Int) (node : Nat) : Int := ((aS t.ps node).map (qX cs all node)).sum
def Nu (t : ay) (cs : List (List Int)) (all : List Int) (k : Nat) : Int := aZ (FN t cs all) k
def CK (t : ay) (cs : List (List Int)) (all : List Int) : Int := Nu t cs all t.ps.length
def FO (n m : Nat) (all : List Int) : Prop := all.length = n ∧ ∀ k, k < n → 0 ≤ gi all k ∧ gi all k < m
end
section
section
variable {n m : Nat} {par own own' : Nat → Int} {cost : Nat → Nat → Int}
def xE (n : Nat) (par : Nat → Int) (T : Nat → Int) (k : Nat) : Int := aZ (fun c => if k ≤ c ∧ par c < k then T c else 0) n
theorem Tu (h : ∀ c, c < n → par c < c) (T : Nat → Int) {k : Nat} (hk : k < n) : xE n par T k + aZ (fun c => if k < c ∧ par c = k then T c else 0) n = T k + xE n par T (k + 1) := by
 have h1 : xE n par T k = aZ (fun c => if k + 1 ≤ c ∧ par c < k then T c else 0) n + aZ (fun c => if c = k then T k else 0) n := by
  rw [← mE]; unfold xE
  refine bQ fun c hc => ?_
  by_cases e : c = k
  ·subst e
   have := h c hc
   rw [if_pos ⟨Nat.le_refl _, this⟩, if_neg (by omega), if_pos rfl]; omega
  ·by_cases h2 : k ≤ c ∧ par c < k
   ·rw [if_pos h2, if_pos ⟨by omega, h2.2⟩, if_neg e]; omega
   ·rw [if_neg h2, if_neg (fun h3 => h2 ⟨by omega, h3.2⟩), if_neg e]; rfl
 have h2 : xE n par T (k + 1) = aZ (fun c => if k + 1 ≤ c ∧ par c < k then T c else 0) n + aZ (fun c => if k < c ∧ par c = k then T c else 0) n := by
  rw [← mE]; unfold xE
  refine bQ fun c _ => ?_
  by_cases h3 : k + 1 ≤ c
  ·by_cases h4 : par c = k
   ·rw [if_pos ⟨h3, by omega⟩, if_neg (by omega), if_pos ⟨h3, h4⟩]; omega
   ·by_cases h5 : par c < k
    ·rw [if_pos ⟨h3, by omega⟩, if_pos ⟨h3, h5⟩, if_neg (fun h => h4 h.2)]; omega
    ·rw [if_neg (by omega), if_neg (fun h => h5 h.2), if_neg (fun h => h4 h.2)]; rfl
  ·rw [if_neg (fun h => h3 h.1), if_neg (fun h => h3 h.1), if_neg (fun h => h3 (by omega))]; rfl
 rw [rB, if_pos hk] at h1
 omega
theorem WX (T : Nat → Int) : xE n par T n = 0 := by
 unfold xE
 refine (bQ (g := fun _ => 0) fun c hc => ?_).trans (kL n)
 rw [if_neg (by omega)]
theorem Tv (h0 : par 0 < 0) (h1 : ∀ c, 0 < c → c < n → 0 ≤ par c) (hn : 0 < n) (T : Nat → Int) : xE n par T 0 = T 0 := by
 unfold xE
 have : aZ (fun c => if 0 ≤ c ∧ par c < (0 : Nat) then T c else 0) n = aZ (fun c => if c = 0 then T 0 else 0) n := bQ fun c hc => by
  by_cases e : c = 0
  ·subst e; rw [if_pos ⟨Nat.le_refl _, h0⟩, if_pos rfl]
  ·have := h1 c (by omega) hc
   rw [if_neg (by simp; omega), if_neg e]
 rw [this, rB, if_pos hn]
theorem Tw (h : ∀ c, c < n → par c < c) (h0 : par 0 < 0) (h1 : ∀ c, 0 < c → c < n → 0 ≤ par c) (hn : 0 < n) {T N : Nat → Int}
  (hT : ∀ k, k < n → T k = N k + aZ (fun c => if k < c ∧ par c = k then T c else 0) n) : T 0 = aZ N n := by
 have hk : ∀ k, k ≤ n → xE n par T 0 = aZ N k + xE n par T k := fun k => by
  induction k with
  | zero => intro _; simp [aZ]
  | succ k ih =>
   intro hk
   have h2 := ih (by omega)
   have h3 := Tu h T (k := k) (by omega)
   have h4 := hT k (by omega)
   rw [dK]; omega
 have h2 := hk n (Nat.le_refl _)
 rw [WX, Tv h0 h1 hn] at h2
 omega
end
end
section
theorem QK (ns : List ByteArray) {i j : Nat} (hj : j < (aj ns).length) (hij : i < j) : gi (aj ns) i < gi (aj ns) j := by
 have hp : (aj ns).Pairwise (· < ·) := by
  unfold aj
  rw [List.pairwise_map]
  refine (List.Pairwise.filter _ List.pairwise_lt_range).imp ?_
  intro a b h; omega
 have h := List.pairwise_iff_getElem.1 hp i j (by omega) hj hij
 have hi : i < (aj ns).length := by omega
 simpa [gi, hi, hj] using h
theorem QL {ns : List ByteArray} {i k : Nat} (hi : i < (aj ns).length) (hk : gi (aj ns) i = k) : eM ns k = i := by
 unfold eM
 refine lB hi (fun j hj => ?_) (by simp [hk])
 have := QK ns hi hj
 simp; omega
theorem DD {ns : List ByteArray} {st : List Int} {i k : Nat} (hi : i < (aj ns).length) (hk : gi (aj ns) i = k) : jd ns st k = gi st i := by
 unfold jd; rw [QL hi hk, if_pos (by omega), Int.toNat_natCast]
section
variable {t : ay} {st : List Int} {cs : List (List Int)}
theorem Tx (h : Valid t st cs) : gi t.ps 0 < 0 := by
 have := (kM (aD h.tree).2.2.2.1 (aD h.tree).1).2.2 rfl; omega
theorem Fm (t : ay) (cs : List (List Int)) (all : List Int) (k : Nat) : FN t cs all k = aZ (fun c => if k < c ∧ gi t.ps c = k then qX cs all k c else 0) t.ps.length := by
 unfold FN aS; rw [xG]
def Vz (t : ay) (st all : List Int) : Prop := ∀ i, i < (aj t.ns).length → 0 ≤ gi st i → gi all (gi (aj t.ns) i).toNat = gi st i
theorem Ty {all : List Int} (hf : Vz t st all) (k : Nat) (h0 : 0 ≤ jd t.ns st k) : gi all k = jd t.ns st k := by
 have h1 : 0 ≤ eM t.ns k := by
  unfold jd at h0
  by_cases e : 0 ≤ eM t.ns k
  ·exact e
  ·rw [if_neg e] at h0; omega
 obtain ⟨h2, h3⟩ := sW h1
 have h4 := DD (st := st) h2 h3
 rw [h4] at h0 ⊢
 have := hf _ h2 h0
 rw [h3, Int.toNat_natCast] at this; exact this
theorem JN (t : ay) (st : List Int) (cs : List (List Int)) : (fe t st cs).length = t.ps.length := wK t st cs _
theorem QM (h : Valid t st cs) : FO t.ps.length cs.length (fe t st cs) := by
 refine ⟨JN t st cs, fun k hk => ?_⟩
 obtain ⟨o, h1, h2⟩ := DC h (k := t.ps.length) (j := k) (Nat.le_refl _) hk
 unfold fe; rw [h1]; omega
theorem QN (h : Valid t st cs) {k : Nat} (hk : k < t.ps.length) : gi (fe t st cs) k = (bh (if k = 0 then fun _ => 0 else gi (gl cs (gi (fe t st cs) (gi t.ps k).toNat).toNat)) (gi (aP t st cs k)) cs.length).2 := by
 have h1 : gi (fe t st cs) k = wJ t st cs (jM t st cs k) k := by unfold fe; rw [qW t st cs (Nat.lt_succ_self k) (by omega), ue]
 rw [h1]; unfold wJ
 by_cases e : k = 0
 ·simp [e]
 ·simp only [e, if_false]
  have hp := (kM (aD h.tree).2.2.2.1 hk)
  have h2 := hp.1
  have h3 := hp.2.1 (by omega)
  have h4 : gi (fe t st cs) (gi t.ps k).toNat = gi (jM t st cs k) (gi t.ps k).toNat := by unfold fe; exact qW t st cs (by omega) (by omega)
  rw [h4]
theorem WY (h : Valid t st cs) {k : Nat} (hk : k < t.ps.length) : 0 ≤ gK t st cs k (gi (fe t st cs) k).toNat := by
 obtain ⟨o, h1, h2, h3⟩ := JM h (jM t st cs k) hk
 have h4 : gi (fe t st cs) k = wJ t st cs (jM t st cs k) k := by unfold fe; rw [qW t st cs (Nat.lt_succ_self k) (by omega), ue]
 rw [dh _ _ _ _ h2] at h3
 rw [h4, h1, Int.toNat_natCast]; exact h3
theorem JO (h : Valid t st cs) : Vz t st (fe t st cs) := by
 intro i hi h0
 obtain ⟨k, e, hk, _⟩ := oB hi
 have hkn : k < t.ps.length := by rw [← (aD h.tree).2.2.1]; exact hk
 rw [e, Int.toNat_natCast]
 have ho := DD (st := st) hi e
 obtain ⟨_, _, _, h4⟩ := Bo h.fine (d := t.ps.length) (i := k) (by omega) hkn
 obtain ⟨a1, a2⟩ := (QM h).2 k hkn
 have h5 := h4 (by rw [ho]; exact h0) (gi (fe t st cs) k).toNat (by omega)
 have h6 := WY h hkn
 unfold gK at h6
 rw [h5] at h6
 split at h6
 ·rename_i e2; rw [ho] at e2; omega
 ·omega
theorem Tz (h : Valid t st cs) : CK t cs (fe t st cs) = bZ t st cs := by
 obtain ⟨ig, _, _, hok, _⟩ := aD h.tree
 have F := h.fine
 have ha := QM h
 have hw := Tw (n := t.ps.length) (par := gi t.ps) F.Uh (Tx h) F.par0 ig (T := fun k => gK t st cs k (gi (fe t st cs) k).toNat) (N := FN t cs (fe t st cs)) (fun k hk => by
  obtain ⟨a1, a2⟩ := ha.2 k hk
  have e := FU (m := cs.length) (par := gi t.ps) (own := jd t.ns st) (cost := eX cs) hk (gi (fe t st cs) k).toNat
  unfold vB at e
  have hbase : ¬ (0 ≤ jd t.ns st k ∧ jd t.ns st k ≠ ((gi (fe t st cs) k).toNat : Nat)) := fun hh => by
   have := Ty (JO h) k hh.1; omega
  rw [if_neg hbase] at e
  show gK t st cs k (gi (fe t st cs) k).toNat = _
  have e' : gK t st cs k (gi (fe t st cs) k).toNat = 0 + aZ (fun c => if k < c ∧ gi t.ps c = k then (bh (eX cs (gi (fe t st cs) k).toNat) (gK t st cs c) cs.length).1 else 0) t.ps.length := e
  rw [e', Fm, ← mE, Int.zero_add]
  refine bQ fun c hc => ?_
  show (if k < c ∧ gi t.ps c = k then _ else (0 : Int)) = (if k < c ∧ gi t.ps c = k then _ else 0) + (if k < c ∧ gi t.ps c = k then _ else 0)
  split
  ·rename_i hkc
   have hat := QN h hc
   rw [if_neg (by omega), hkc.2, Int.toNat_natCast] at hat
   obtain ⟨o, h1, h2, h3, h4, _⟩ := qY h (c := gi (gl cs (gi (fe t st cs) k).toNat)) (fun j hj => JL h _ j hj) hc
   rw [h1] at hat
   have x4 : bh (eX cs (gi (fe t st cs) k).toNat) (gK t st cs c) cs.length = bh (gi (gl cs (gi (fe t st cs) k).toNat)) (gi (aP t st cs c)) cs.length := l8 (fun _ _ => rfl) fun j hj => (dh t st cs c hj).symm
   rw [x4, h4, dh _ _ _ _ h2]
   unfold qX eX
   rw [hat, Int.toNat_natCast]
  ·rfl)
 obtain ⟨o, h1, _, _, h4, _⟩ := Ar h
 have hat := QN h ig
 rw [if_pos rfl, h1] at hat
 rw [hat, Int.toNat_natCast] at hw
 unfold CK Nu
 omega
end
end
section
end
section
end
section
open Go.RowKit Go.Deep
def ClPost (w : World) (e : TypeId) (vs : List Value) (en : Ending) (w' : World) : Prop := Up w w' ∧ ∃ v, en = .returned v ∧ aC w.heap.size e w' v vs
section
variable {P : Program} {ops : Array Oper} {rest : List Oper} {o : Oper} {a : Act} {Q : Exit → Act → World → Prop}
theorem Kz (W : World) (hgd : o.guard = none) (s x : Operand) (t : TypeId) (ho : o.op = .call { callee := .builtin .append, args := #[s, x], argTypes := #[t, t] })
  (base : Nat) (e : TypeId) (z : Value) (bytes : Nat) (ht : P.underlying t = some (.slice e)) (hinfo : (P.info? e).map (fun i => (i.zero, i.size, i.bytes)) = some (some z, 1, bytes))
  (hz1 : z.cells.size = 1) (mg : bytes ≤ 64) {v : Value} {vs : List Value} (hown : aC base e W v vs) (hs : a.eval s = v) (ad : Addr) (c : Nat) (news : List Value)
  (hx : a.eval x = .slice (some ad) news.length c) (hnews : ∀ j u, news[j]? = some u → W.cell? (ad.add j) = some u) (h1 : ∀ u ∈ news, u.oneCell' = true) (hn : vs.length + news.length ≤ 1000000) (hbase : base ≤ W.heap.size)
  (h : ∀ v' w', aC base e w' v' (vs ++ news) → W.grownBy w' v.ownBlock → Below base W w' → wpList P ops Q rest (a.put o.dst v') w') :
  wpList P ops Q (o :: rest) a W := by
 obtain ⟨i, hi, hzz⟩ := Option.map_eq_some_iff.1 hinfo
 simp only [Prod.mk.injEq] at hzz
 obtain ⟨hz, hs1, hb⟩ := hzz
 refine wpList_append_own _ hgd s x t ho base e i z 1 bytes ht hi hz hs1 hb hz1 (by omega) v vs.length vs hs hown ad news.length c news hx (by omega) hnews h1
  (by unfold maxLen; omega) ?_ hbase fun v' w' h2 h3 _ => h v' w' ?_ h3 (hown.dy h3 hbase)
 ·have : (vs.length + news.length) * bytes ≤ (vs.length + news.length) * 64 := Nat.mul_le_mul_left _ mg
  omega
 ·unfold aC; rw [List.length_append]; exact h2
end
theorem TA {xs ys : List Int} (hl : xs.length = ys.length) (h : ∀ j, j < xs.length → gi xs j = gi ys j) : xs = ys := by
 refine List.ext_getElem hl fun i h1 h2 => ?_
 have := h i h1
 simpa [gi, h1, h2] using this
def QO (w : World) (b : Bool) (e : Ending) (w' : World) : Prop := e = .returned (.bool b) ∧ ∃ n, w' = w.drewN n
set_option maxHeartbeats 400000 in
theorem KA (S T : Nat → Prop) (w : World) (v u : Value) (xs ys : List Int) (h : aq S w v xs) (h2 : aq T w u ys) (hn : xs.length ≤ 1000000) (hn2 : ys.length ≤ 1000000) :
  Calls Tryz.prog 24 #[v, u] w (QO w (decide (xs = ys))) := by
 obtain ⟨p, cap, rfl, hcap, _⟩ := aB.open h
 obtain ⟨q, dw, rfl, sX, _⟩ := aB.open h2
 have HX : Hid (aq S w (.slice p xs.length cap) xs) := h
 have HY : Hid (aq T w (.slice q ys.length dw) ys) := h2
 clear h h2
 by_cases hl : xs.length = ys.length
 ·have fA : ((xs.length : Int) != ys.length) = false := by simp [hl]
  have HL := aa hl
  clear hl
  go_enter Tryz.func24, Tryz.ntmps24
  go_wp2_with fail
  go_loopw [5, 13] (fun _ i wr => ∃ k n : Nat, k ≤ xs.length ∧ i = .int .i64 k ∧ wr = w.drewN n ∧ Hid (∀ j, j < k → gi xs j = gi ys j)) (fun _ i _ => xs.length - (intOf i).toNat)
  case atStart => exact ⟨0, 0, Nat.zero_le _, rfl, rfl, fun j hj => absurd hj (Nat.not_lt_zero _)⟩
  case round =>
   obtain ⟨k, n, hk, rfl, rfl, hd⟩ := hrel
   by_cases hlt : k < xs.length
   ·have hlt2 : k < ys.length := by rw [← HL.out]; exact hlt
    obtain ⟨b, off, rfl, hc⟩ := cK HX.out hlt
    obtain ⟨b2, off2, rfl, hc2⟩ := cK HY.out hlt2
    have i1 : (0 : Int) ≤ (k : Int) := by omega
    have i2 : (k : Int) < (xs.length : Int) := by omega
    have i3 : (k : Int) < (ys.length : Int) := by omega
    generalize hx : gi xs k = x at *
    generalize hy : gi ys k = y at *
    have uv := aa hx
    have QS := aa hy
    clear hx hy
    by_cases hxy : x = y
    ·have TB : (x != y) = false := by simp [hxy]
     have rG := aa hxy
     clear hxy
     go_wp2_with fail
     go_quiet (fail)
     go_wp2_with fail
     go_roundw
     case rel => exact ⟨k + 1, n + nq, by omega, by go_num, rfl, fun j hj => if e : j = k then by subst e; rw [uv.out, QS.out, rG.out] else hd.out j (by omega)⟩
     case measure => simp [intOf]; omega
    ·have TB : (x != y) = true := by simpa using hxy
     have rG := aa hxy
     clear hxy
     go_wp2_with fail
     go_quiet (fail)
     go_wp2_with fail
     go_ret
     refine ⟨aL ?_, n + nq, by rw [World.drewN_drewN]⟩
     rw [eq_comm, decide_eq_false_iff_not]
     rintro rfl
     exact rG.out (by rw [← uv.out, ← QS.out])
   ·obtain rfl : k = xs.length := by omega
    clear hlt hk
    have hex : xs = ys := TA HL.out hd.out
    have Je : Hid (decide (xs = ys) = true) := decide_eq_true hex
    clear hex
    go_wp2_with fail
    go_ret
    exact ⟨aL (by rw [Je.out]), n, rfl⟩
 ·have fA : ((xs.length : Int) != ys.length) = true := by simp; omega
  have HL := aa hl
  clear hl
  go_enter Tryz.func24, Tryz.ntmps24
  go_wp2_with fail
  go_ret
  refine ⟨aL ?_, 0, rfl⟩
  rw [eq_comm, decide_eq_false_iff_not]
  rintro rfl
  exact HL.out rfl
end
section
open Go.RowKit Go.Deep
theorem QT {S : Nat → Prop} {w : World} {b off : Nat} {n cap : Nat} {xs : List ByteArray} (h : ah S w (.slice (some ⟨b, off, none⟩) n cap) xs) {k : Nat} (hk : k < xs.length) : w.cell? ⟨b, off + k, none⟩ = some (.string (gs xs k)) := by
 obtain ⟨b', o', e, hc⟩ := bz h hk
 injection e with e
 injection e with e1 e2
 subst e1; subst e2; exact hc
theorem QU {S : Nat → Prop} {w : World} {b off n cap : Nat} {xs : List ByteArray} (h : ah S w (.slice (some ⟨b, off, none⟩) n cap) xs) : ∀ j u, (xs.map Value.string)[j]? = some u → w.cell? ((⟨b, off, none⟩ : Addr).add j) = some u := by
 intro j u hj
 have xL : (⟨b, off, none⟩ : Addr).add j = ⟨b, off + j, none⟩ := by unfold Addr.add; split <;> simp_all
 rw [List.getElem?_map] at hj
 obtain ⟨x, hx, rfl⟩ := Option.map_eq_some_iff.1 hj
 have hk : j < xs.length := (List.getElem?_eq_some_iff.1 hx).1
 rw [xL, QT h hk]
 simp [gs, hx]
theorem TC {S : Nat → Prop} {w : World} {n cap : Nat} {xs : List ByteArray} (h : ah S w (.slice none n cap) xs) : xs = [] ∧ n = 0 := by
 obtain ⟨q, c, e, _, h⟩ := h
 injection e with e1 e2 e3
 rcases h with h | ⟨b, off, h, _⟩
 ·exact ⟨List.eq_nil_of_length_eq_zero h, by omega⟩
 ·rw [← e1] at h; cases h
set_option maxHeartbeats 400000 in
theorem KB (S : Nat → Prop) (w : World) (v : Value) (xs : List ByteArray) (h : ah S w v xs) (hn : xs.length ≤ 1000000) :
  Calls Tryz.prog 48 #[v] w (ClPost w 9 (xs.map Value.string)) := by
 obtain ⟨p, cap, rfl, hcap, _⟩ := aB.open h
 have h : ah S w (.slice p xs.length cap) xs := h
 cases p with
 | none =>
  obtain ⟨rfl, _⟩ := TC h
  have heq := fun (w : World) => Lib.run_eql_slice_nil (P := Tryz.prog) w 22 9 none 0 cap 0 0 Tryz.underlying22
  clear h
  go_enter Tryz.func48, Tryz.ntmps48
  go_wp2_with fail
  go_ret
  exact ⟨Up.refl _, _, rfl, aC.nil _ _ _⟩
 | some p =>
  have heq := fun (w : World) => Lib.run_eql_slice_nil (P := Tryz.prog) w 22 9 (some p) xs.length cap 0 0 Tryz.underlying22
  have hu := Up.alloc w (.cells #[] 9)
  have hnews : ∀ j u, (xs.map Value.string)[j]? = some u → (w.alloc (.cells #[] 9)).cell? (p.add j) = some u := fun j u hj => by
   have hj2 : j < xs.length := by
    have := (List.getElem?_eq_some_iff.1 hj).1
    simpa using this
   obtain ⟨b, off, e, _⟩ := bz h hj2
   injection e with e
   subst e
   exact QU (ah.keep h (hu.kept S)) j u hj
  have HU := aa hu
  have HN := aa hnews
  have HM := aa (aC.made w 9)
  clear h hnews hu
  go_enter Tryz.func48, Tryz.ntmps48
  go_wp2_with (at_builtin; refine Kz _ rfl _ _ 22 rfl w.heap.size 9 (.string ⟨#[]⟩) 16 Tryz.underlying22 Tryz.fo rfl (by decide) HM.out rfl p cap (xs.map Value.string) (by rw [List.length_map]; rfl) HN.out (by simp [Value.oneCell']) (by simp; omega) (by simp) ?_; intro v' w' hown' hgrow hbel)
  go_ret
  exact ⟨Below.trans HU.out hbel, _, rfl, hown'⟩
end
section
theorem yt.sub {r s : RT} (h : yt r) (hs : s ∈ subR r) : yt s := ⟨(mW hs).nodup h.nd, fun q hq => h.pt q (gy r hs hq)⟩
theorem zG {nm : ByteArray} {ks : List RT} {k : RT} (hk : k ∈ ks) : k ∈ subR (.node nm ks) := by
 rw [subR]; exact List.mem_cons_of_mem _ (yq hk k (gF k))
theorem yt.leafs {nm : ByteArray} {ks : List RT} (h : yt (.node nm ks)) (h0 : ks ≠ []) : cg (.node nm ks) = ks.flatMap cg :=
 jJ ((h.pt _ (gF _)).1 h0)
theorem JP {u : RT} {ks : List RT} (h : u ∈ subRs ks) : ∃ k ∈ ks, u ∈ subR k := by
 rw [lI] at h
 obtain ⟨k, hk, hu⟩ := List.mem_flatMap.1 h
 exact ⟨k, hk, hu⟩
theorem TD {a b : List RT} (h : a.Perm b) : (a.map firstR).Nodup → a.foldr insR [] = b.foldr insR [] := by
 induction h with
 | nil => intro _; rfl
 | cons x _ ih => intro hn; rw [List.foldr_cons, List.foldr_cons, ih (by rw [List.map_cons, List.nodup_cons] at hn; exact hn.2)]
 | swap x y l =>
  intro hn
  simp only [List.foldr_cons]
  rw [List.map_cons, List.nodup_cons, List.map_cons] at hn
  exact ym (fun e => hn.1 (by rw [e]; simp)) _
 | trans p _ ih1 ih2 => intro hn; rw [ih1 hn, ih2 ((p.map _).nodup_iff.1 hn)]
theorem uf : ∀ l : List RT, cz l = (l.map sortR).foldr insR []
 | [] => by rw [cz]; rfl
 | r :: l => by rw [cz, uf l]; rfl
end
section
mutual
def contrR : RT → RT
 | .node nm [] => .node nm []
 | .node _ [k] => contrR k
 | .node nm (a :: b :: ks) => .node nm (contrR a :: contrR b :: contrRs ks)
def contrRs : List RT → List RT
 | [] => []
 | r :: rs => contrR r :: contrRs rs
end
theorem Ao : ∀ l : List RT, contrRs l = l.map contrR
 | [] => rfl
 | r :: l => by rw [contrRs, Ao l]; rfl
theorem y5 (nm : ByteArray) (k : RT) : contrR (.node nm [k]) = contrR k := by rw [contrR]
theorem wL {nm : ByteArray} {ks : List RT} (h : ks.length ≠ 1) : contrR (.node nm ks) = .node nm (ks.map contrR) := by
 match ks with
 | [] => rw [contrR]; rfl
 | [k] => simp at h
 | a :: b :: ks => rw [contrR, Ao]; rfl
theorem pE {nm : ByteArray} {ks : List RT} {k : RT} (h : k ∈ ks) : aH k < aH (.node nm ks) := by
 rw [aH]
 have : ∀ l : List RT, k ∈ l → aH k ≤ sizeRs l := fun l => by
  induction l with
  | nil => intro h; cases h
  | cons a l ih =>
   intro h
   rw [sizeRs]
   rcases List.mem_cons.1 h with rfl | h
   ·omega
   ·have := ih h; omega
 have := this ks h
 omega
theorem qj : ∀ (d : Nat) (r s : RT), aH r ≤ d → s ∈ subR (contrR r) → ∃ u ∈ subR r, u.kids.length ≠ 1 ∧ s = .node u.nm (u.kids.map contrR)
 | 0, r, _, hd, _ => by have := gD r; omega
 | d + 1, .node nm ks, s, hd, h => by
  by_cases h1 : ks.length = 1
  ·obtain ⟨k, rfl⟩ := List.length_eq_one_iff.1 h1
   rw [y5] at h
   obtain ⟨u, hu, e⟩ := qj d k s (by have := pE (nm := nm) (ks := [k]) (k := k) (by simp); omega) h
   exact ⟨u, gy _ (zG (by simp)) hu, e⟩
  ·rw [wL h1, subR, List.mem_cons] at h
   rcases h with rfl | h
   ·exact ⟨_, gF _, h1, rfl⟩
   ·obtain ⟨q, hq, hs⟩ := JP h
    obtain ⟨k, hk, rfl⟩ := List.mem_map.1 hq
    obtain ⟨u, hu, e⟩ := qj d k s (by have := pE (nm := nm) hk; omega) hs
    exact ⟨u, gy _ (zG hk) hu, e⟩
theorem wM : ∀ (d : Nat) (r : RT), aH r ≤ d → (∀ s ∈ subR r, s.kids ≠ [] → s.nm.size = 0) → cg (contrR r) = cg r
 | 0, r, hd, _ => by have := gD r; omega
 | d + 1, .node nm ks, hd, h => by
  have hk : ∀ k ∈ ks, cg (contrR k) = cg k := fun k hk => wM d k (by have := pE (nm := nm) hk; omega) fun s hs => h s (gy _ (zG hk) hs)
  by_cases h0 : ks = []
  ·subst h0; rw [contrR]
  ·have hz : nm.size = 0 := h _ (gF _) h0
   by_cases h1 : ks.length = 1
   ·obtain ⟨k, rfl⟩ := List.length_eq_one_iff.1 h1
    rw [y5, hk k (by simp), jJ hz]; simp
   ·rw [wL h1, jJ hz, jJ hz, List.flatMap_map]
    have : ∀ l : List RT, (∀ k ∈ l, cg (contrR k) = cg k) → l.flatMap (fun k => cg (contrR k)) = l.flatMap cg := fun l => by
     induction l with
     | nil => intro _; rfl
     | cons a l ih => intro h; rw [List.flatMap_cons, List.flatMap_cons, h a (by simp), ih fun k hk => h k (by simp [hk])]
    exact this ks hk
theorem Nw {r : RT} (h : fK r) : fK (contrR r) := by
 refine ⟨fun s hs hk => ?_, fun s hs hk => ?_, ?_⟩
 ·obtain ⟨u, hu, _, rfl⟩ := qj _ r s (Nat.le_refl _) hs
  exact h.wY u hu fun e => hk (by show u.kids.map contrR = []; rw [e]; rfl)
 ·obtain ⟨u, hu, _, rfl⟩ := qj _ r s (Nat.le_refl _) hs
  exact h.lf u hu (List.map_eq_nil_iff.1 hk)
 ·rw [wM _ r (Nat.le_refl _) h.wY]; exact h.nd
theorem QV {r : RT} (h : fK r) : yt (contrR r) := by
 have hg := Nw h
 refine ⟨hg.nd, fun s hs => ⟨fun hk => hg.wY s hs hk, fun hk => hg.lf s hs hk, ?_⟩⟩
 obtain ⟨u, _, h1, rfl⟩ := qj _ r s (Nat.le_refl _) hs
 show (u.kids.map contrR).length ≠ 1
 rw [List.length_map]; exact h1
end
end Go.Proofs.YthgabkgmkolobaaGreat
