/- Plain laws for ParsimonyFitch: the cost as a sum over edges, different states counted, .. -/
import Derived.Test.YthgabkgmkolobaaGreatQ31
import Derived.Test.YthgabkgmkolobaaGreatQ1
import Derived.Test.YthgabkgmkolobaaGreatQ49
import Derived.Test.YthgabkgmkolobaaGreatQ30
import Derived.Test.YthgabkgmkolobaaGreatQ50
import Derived.Deep.RegionHeld3
import Derived.Deep.CutRange
import Derived.Laws.Bits64b
import Derived.Laws.BitsAllLaws
import Derived.RangeFuncNested
import Derived.RangeFuncBound
import Derived.RangeFuncCalls
import Derived.RangeFuncLeaves
import Derived.Shelf.Abstract
import Derived.Shelf.RegionOpen
import Derived.WalkKit
import Derived.OwnWalkIn
import Derived.TacticsInMore
import Derived.LoopNIn
import Derived.LoopIn
import Derived.Sort.QuietIn
import Derived.Stop.RegionWithIn
import Derived.Test.YthgabkgmkolobaaGreatProg
import Derived.WalkSpells
import Derived.WalkLawsBesides
import Derived.Deep.OwnRows
import Derived.Deep.QuietTactic
import Derived.BigQuiet
import Derived.Lib.Hide
import Derived.Shelf.Small.Strs
import Derived.Maps.AppendAt
import Derived.Deep.AppendLies
import Derived.OrdersHeld
import Derived.Deep.RegionHeld
import Derived.StillTailTactics
import Derived.MapKept
import Derived.Laws.Pointers
import Derived.RangeFuncWrites
import Derived.RangeFuncKeeps
import Derived.Laws.EntriesVeiled
import Derived.Sort.OwnSorted
import Derived.Lib.Bytealg
import Derived.Sort.Statements
import Derived.Shelf.SlGeneric
import Derived.Shelf.SlSortCmp.NoneTotal
import Derived.OrdersIn
import Derived.StillTail
import Derived.Shelf.SortM.Plain
import Derived.Shelf.SortM.SortNone
import Derived.Sort.OwnSortedInts
import Derived.Shelf.SlLaysM
import Derived.Ground.SlgmProg
import Derived.Shelf.Slices.In.SortNone
import Derived.Shelf.Lays
import Derived.Shelf.Sort.Plain
import Derived.Ground.NamesProg
import Derived.Lib.SliceRun
import Derived.Lib.IndexAny
import Derived.Lib.OthersKept
import Derived.Shelf.Strings.IndexAnyAll
import Derived.Ground.Names2Prog
import Derived.Lib.MinMax
import Derived.Shelf.Strings.BuilderK
import Derived.Laws.RangeAny
import Derived.WalkMore
import Derived.Shelf.Small.Utf8
import Derived.Test.YthgabkgmkolobaaGreatQ29
import Derived.Test.YthgabkgmkolobaaGreatQ23
import Derived.Test.YthgabkgmkolobaaGreatQ22
import Derived.Test.YthgabkgmkolobaaGreatQ19
import Derived.Test.YthgabkgmkolobaaGreatQ15
import Derived.Test.YthgabkgmkolobaaGreatQ6
import Derived.Test.YthgabkgmkolobaaGreatQ5
import Derived.Test.YthgabkgmkolobaaGreatQ3
import Derived.Test.YthgabkgmkolobaaGreatQ2
import Derived.Test.YthgabkgmkolobaaGreatQ4
import Derived.Test.YthgabkgmkolobaaGreatQ17
import Derived.Test.YthgabkgmkolobaaGreatQ16
import Derived.Test.YthgabkgmkolobaaGreatQ9
import Derived.Test.YthgabkgmkolobaaGreatQ7
import Derived.Test.YthgabkgmkolobaaGreatQ8
import Derived.Test.YthgabkgmkolobaaGreatQ14
import Derived.Test.YthgabkgmkolobaaGreatQ13
import Derived.Test.YthgabkgmkolobaaGreatQ12
import Derived.Test.YthgabkgmkolobaaGreatQ10
import Derived.Test.YthgabkgmkolobaaGreatQ11
import Derived.Test.YthgabkgmkolobaaGreatQ21
import Derived.Test.YthgabkgmkolobaaGreatQ26
import Derived.Test.YthgabkgmkolobaaGreatQ24
import Derived.Test.YthgabkgmkolobaaGreatQ25
import Derived.Test.YthgabkgmkolobaaGreatQ27
import Derived.Test.YthgabkgmkolobaaGreatQ28
import Derived.Test.YthgabkgmkolobaaGreatQ33
import Derived.Maps.OwnIn
import Derived.Shelf.Slices.Empties
import Derived.Shelf.Slices.SearchI
import Derived.Shelf.SlSortCmp.WholeK
import Derived.Ground.SlsfProg
import Derived.Test.YthgabkgmkolobaaGreatQ42
import Derived.Test.YthgabkgmkolobaaGreatQ36
import Derived.Test.YthgabkgmkolobaaGreatQ34
import Derived.Test.YthgabkgmkolobaaGreatQ38
import Derived.Test.YthgabkgmkolobaaGreatQ35
import Derived.Test.YthgabkgmkolobaaGreatQ32
import Derived.Test.YthgabkgmkolobaaGreatQ41
set_option maxRecDepth 100000
namespace Go.Proofs.YthgabkgmkolobaaGreat
section
theorem Fq (f : Nat → Nat → Int) (m : Nat) : ∀ n, aZ (fun a => aZ (fun b => f a b) m) n = aZ (fun b => aZ (fun a => f a b) n) m
 | 0 => by simp only [aZ]; exact (kL m).symm
 | n + 1 => by
  rw [dK, Fq f m n, ← mE]
  rfl
theorem KE {t : ay} (hok : fZ t.ps = true) (cs : List (List Int)) (all : List Int) : CK t cs all = aZ (fun c => if 0 < c then qX cs all (gi t.ps c).toNat c else 0) t.ps.length := by
 unfold CK Nu
 rw [bQ (fun k _ => Fm t cs all k), Fq]
 refine bQ fun c hc => ?_
 obtain ⟨h1, h2, h3⟩ := kM hok hc
 by_cases h0 : 0 < c
 ·rw [if_pos h0]
  have hp := h2 h0
  obtain ⟨p, zR⟩ := Int.eq_ofNat_of_zero_le hp
  have h4 : ∀ k, k < t.ps.length → (if k < c ∧ gi t.ps c = (k : Int) then qX cs all k c else 0) = if k = p then qX cs all p c else 0 := fun k _ => by
   by_cases e : k = p
   ·subst e; rw [if_pos ⟨by omega, zR⟩, if_pos rfl]
   ·rw [if_neg (by omega), if_neg e]
  rw [bQ h4, rB, if_pos (by omega), zR]; rfl
 ·rw [if_neg h0]
  have h4 : ∀ k, k < t.ps.length → (if k < c ∧ gi t.ps c = (k : Int) then qX cs all k c else 0) = 0 := fun k _ => if_neg (by omega)
  rw [bQ h4, kL]
theorem VB {l m : List Int} (h : ∀ x ∈ l, x ∈ m) : (dd l).length ≤ (dd m).length :=
 (oZ l).length_le_of_subset fun x hx => mm.2 (h x (mm.1 hx))
theorem Ny (x : Int) (l : List Int) : ((dd (x :: l)).length : Int) ≤ (dd l).length + if x ∈ l then 0 else 1 := by
 show (((if x ∈ dd l then dd l else x :: dd l) : List Int).length : Int) ≤ _
 by_cases h : x ∈ dd l
 ·rw [if_pos h, if_pos (mm.1 h)]; omega
 ·rw [if_neg h, if_neg (fun h2 => h (mm.2 h2))]; simp
def backL (a : Nat → Int) : Nat → List Int
 | 0 => []
 | k + 1 => a k :: backL a k
theorem y7 {a : Nat → Int} {x : Int} : ∀ {k : Nat}, x ∈ backL a k ↔ ∃ j, j < k ∧ a j = x
 | 0 => ⟨fun h => absurd h (List.not_mem_nil), fun ⟨j, h, _⟩ => absurd h (Nat.not_lt_zero _)⟩
 | k + 1 => by
  show x ∈ a k :: backL a k ↔ _
  rw [List.mem_cons, y7]
  constructor
  ·rintro (e | ⟨j, hj, e⟩)
   ·exact ⟨k, Nat.lt_succ_self k, e.symm⟩
   ·exact ⟨j, by omega, e⟩
  ·rintro ⟨j, hj, e⟩
   by_cases h : j = k
   ·subst h; exact .inl e.symm
   ·exact .inr ⟨j, by omega, e⟩
theorem TG {p : Nat → Nat} (hp : ∀ c, 0 < c → p c < c) (a : Nat → Int) : ∀ {k : Nat}, 0 < k → ((dd (backL a k)).length : Int) ≤ 1 + aZ (fun c => if 0 < c then (if a (p c) = a c then 0 else 1) else 0) k := by
 intro k
 induction k with
 | zero => intro h; exact absurd h (Nat.lt_irrefl 0)
 | succ k ih =>
  intro _
  show ((dd (a k :: backL a k)).length : Int) ≤ _
  have h1 := Ny (a k) (backL a k)
  rw [dK]
  by_cases h0 : 0 < k
  ·have h2 := ih h0
   rw [if_pos h0]
   by_cases e : a (p k) = a k
   ·rw [if_pos (y7.2 ⟨p k, hp k h0, e⟩)] at h1
    rw [if_pos e]; omega
   ·rw [if_neg e]
    have : (if a k ∈ backL a k then (0 : Int) else 1) ≤ 1 := by split <;> omega
    omega
  ·have : k = 0 := by omega
   subst this
   simp [dd, backL, aZ]
theorem QX {p : Nat → Nat} {a : Nat → Int} {n : Nat} (hp : ∀ c, c < n → 0 < c → p c < c) {k : Nat} (h0 : 0 < k) (hk : k ≤ n) : ((dd (backL a k)).length : Int) ≤ 1 + aZ (fun c => if 0 < c then (if a (p c) = a c then 0 else 1) else 0) k := by
 have h := TG (p := fun c => if c < n then p c else 0) (fun c hc => by
  show (if c < n then p c else 0) < c
  split
  ·exact hp c ‹_› hc
  ·exact hc) a h0
 rwa [bQ (g := fun c => if 0 < c then (if a (p c) = a c then 0 else 1) else 0) (fun c hc => by show (if 0 < c then (if a (if c < n then p c else 0) = a c then (0 : Int) else 1) else 0) = _; rw [if_pos (show c < n by omega)])] at h
theorem Fs {n a b : Nat} (ha : a < n) (hb : b < n) : eX (bE n) a b = if a = b then 0 else 1 := by
 unfold eX; rw [IA ha, Ce hb]; rfl
end
section
section
variable {t : ay} {st : List Int}
theorem edge_u {n : Nat} {all : List Int} {N : Nat} (ha : FO N n all) {p c : Nat} (hp : p < N) (hc : c < N) : qX (bE n) all p c = if gi all p = gi all c then 0 else 1 := by
 obtain ⟨a1, a2⟩ := ha.2 p hp
 obtain ⟨b1, b2⟩ := ha.2 c hc
 unfold qX
 rw [Fs (by omega) (by omega)]
 by_cases e : gi all p = gi all c
 ·rw [if_pos e, if_pos (by rw [e])]
 ·rw [if_neg e, if_neg (by omega)]
theorem WZ (ht : az t = 0) {n : Nat} {all : List Int} (ha : FO t.ps.length n all) : CK t (bE n) all = aZ (fun c => if 0 < c then (if gi all (gi t.ps c).toNat = gi all c then 0 else 1) else 0) t.ps.length := by
 have hok := (aD ht).2.2.2.1
 rw [KE hok]
 refine bQ fun c hc => ?_
 by_cases h0 : 0 < c
 ·obtain ⟨h1, h2, _⟩ := kM hok hc
  have := h2 h0
  rw [if_pos h0, if_pos h0, edge_u ha (by omega) hc]
 ·rw [if_neg h0, if_neg h0]
theorem W4 {cs : List (List Int)} (h : Valid t st cs) : FO t.ps.length cs.length (fe t st cs) :=
 ⟨JN t st cs, fun k hk => by obtain ⟨o, e, ho⟩ := DC h (k := t.ps.length) (Nat.le_refl _) hk; unfold fe; rw [e]; omega⟩
theorem wR {x : Int} : x ∈ cm st ↔ x ∈ st ∧ 0 ≤ x := by simp [cm]
end
end
section
theorem JS : ∀ ks : List RT, ks ≠ [] → (∀ k ∈ ks, ∃ b : BT ByteArray, b.bM.Perm (cg k) ∧ ∀ m cost aQ, mN m cost → ∀ s c, AttR m cost aQ k s c → ∃ c', c' ≤ c ∧ AttR m cost aQ (btR b) s c') →
  ∃ B : BT ByteArray, B.bM.Perm (ks.flatMap cg) ∧ (∀ m cost aQ, mN m cost → ∀ s c, s < m → AttL m cost aQ ks s c → ∃ u a, AttR m cost aQ (btR B) u a ∧ cost s u + a ≤ c) ∧
   (ks.length ≠ 1 → ∀ m cost aQ, mN m cost → ∀ s c, s < m → AttL m cost aQ ks s c → ∃ c', c' ≤ c ∧ AttR m cost aQ (btR B) s c')
 | [], h, _ => absurd rfl h
 | [k], _, hk => by
  obtain ⟨b, h1, h2⟩ := hk k (by simp)
  refine ⟨b, by simpa using h1, fun m cost aQ M s c hs h => ?_, fun e => absurd rfl e⟩
  obtain ⟨u, a, z, h3, h4, rfl⟩ := bg.1 h
  rw [gh] at h4; subst h4
  obtain ⟨c', h5, h6⟩ := h2 m cost aQ M u a h3
  exact ⟨u, c', h6, by omega⟩
 | k :: k2 :: ks, _, hk => by
  obtain ⟨b, h1, h2⟩ := hk k (by simp)
  obtain ⟨B, h3, h4, _⟩ := JS (k2 :: ks) (by simp) fun x hx => hk x (by simp only [List.mem_cons] at hx ⊢; exact .inr hx)
  have key : ∀ m cost aQ, mN m cost → ∀ s c, s < m → AttL m cost aQ (k :: k2 :: ks) s c → ∃ c', c' ≤ c ∧ AttR m cost aQ (btR (.node b B)) s c' := fun m cost aQ M s c hs h => by
   obtain ⟨u, a, z, h5, h6, rfl⟩ := bg.1 h
   obtain ⟨a', h7, h8⟩ := h2 m cost aQ M u a h5
   obtain ⟨v, z', h9, h10⟩ := h4 m cost aQ M s z hs h6
   exact ⟨cost s u + a' + (cost s v + z'), by omega, dP.2 ⟨hs, fun e => (by cases e), bg.2 ⟨u, a', cost s v + z', h8, bg.2 ⟨v, z', 0, h9, gh.2 rfl, by omega⟩, rfl⟩⟩⟩
  refine ⟨.node b B, ?_, fun m cost aQ M s c hs h => ?_, fun _ => key⟩
  ·rw [BT.bM, List.flatMap_cons]; exact h1.append h3
  ·obtain ⟨c', h5, h6⟩ := key m cost aQ M s c hs h
   have := M.z s hs
   exact ⟨s, c', h6, by omega⟩
theorem QY : ∀ (d : Nat) (r : RT), aH r ≤ d → yt r → ∃ b : BT ByteArray, b.bM.Perm (cg r) ∧ ∀ m cost aQ, mN m cost → ∀ s c, AttR m cost aQ r s c → ∃ c', c' ≤ c ∧ AttR m cost aQ (btR b) s c'
 | 0, r, hd, _ => by have := gD r; omega
 | d + 1, .node nm ks, hd, ho => by
  by_cases hk : ks = []
  ·subst hk
   have h0 : nm.size ≠ 0 := fL ((ho.pt _ (gF _)).2.1 rfl)
   exact ⟨.leaf nm, by rw [B7 h0]; exact List.Perm.refl _, fun m cost aQ M s c h => ⟨c, by omega, h⟩⟩
  ·obtain ⟨B, h1, _, h3⟩ := JS ks hk fun k hk => QY d k (by have := pE (nm := nm) hk; omega) (ho.sub (zG hk))
   refine ⟨B, by rw [ho.leafs hk]; exact h1, fun m cost aQ M s c h => ?_⟩
   rw [dP] at h
   exact h3 (ho.pt _ (gF _)).2.2 m cost aQ M s c h.1 h.2.2
theorem zH (x : ByteArray) : ∀ A B : BT ByteArray, x ∈ A.bM → ∃ R : BT ByteArray, (x :: R.bM).Perm (A.bM ++ B.bM) ∧ ∀ m cost aQ, mN m cost → ∀ c, DF m cost aQ (btR A) (btR B) c ↔ DF m cost aQ (.node x []) (btR R) c
 | .leaf y, B, h => by
  have : x = y := by simpa [BT.bM] using h
  subst this
  exact ⟨B, List.Perm.refl _, fun m cost aQ M c => Iff.rfl⟩
 | .node a1 a2, B, h => by
  rw [BT.bM] at h
  rcases List.mem_append.1 h with h | h
  ·obtain ⟨R, h1, h2⟩ := zH x a1 (.node a2 B) h
   refine ⟨R, ?_, fun m cost aQ M c => Iff.trans ?_ (h2 m cost aQ M c)⟩
   ·rw [BT.bM, List.append_assoc]; exact h1
   ·exact JR M (nm' := ByteArray.empty) (K := [btR a2]) (List.Perm.refl _) c
  ·obtain ⟨R, h1, h2⟩ := zH x a2 (.node a1 B) h
   refine ⟨R, ?_, fun m cost aQ M c => Iff.trans ?_ (h2 m cost aQ M c)⟩
   ·rw [BT.bM, List.append_assoc]
    refine h1.trans ?_
    rw [BT.bM]
    rw [← List.append_assoc, ← List.append_assoc]
    exact List.perm_append_comm.append_right _
   ·exact JR M (nm' := ByteArray.empty) (K := [btR a1]) (List.Perm.swap _ _ _) c
theorem TH (b : BT ByteArray) {x : ByteArray} (hx : x ∈ b.bM) (h2 : 2 ≤ b.bM.length) : ∃ R : BT ByteArray, (x :: R.bM).Perm b.bM ∧ ∀ m cost aQ, mN m cost → (∀ s c, AttR m cost aQ (btR b) s c → ∃ s' c', c' ≤ c ∧ AttR m cost aQ (btR (.node (.leaf x) R)) s' c') ∧ (∀ s c, AttR m cost aQ (btR (.node (.leaf x) R)) s c → ∃ s' c', c' ≤ c ∧ AttR m cost aQ (btR b) s' c') := by
 cases b with
 | leaf y => simp [BT.bM] at h2
 | node a1 a2 =>
  rw [BT.bM] at hx
  rcases List.mem_append.1 hx with hx | hx
  ·obtain ⟨R, h3, h4⟩ := zH x a1 a2 hx
   refine ⟨R, h3, fun m cost aQ M => ⟨fun s c h => ?_, fun s c h => ?_⟩⟩
   ·obtain ⟨c', h5, h6⟩ := wP M h
    obtain ⟨s', h7⟩ := wO M (nm := ByteArray.empty) ((h4 m cost aQ M c').1 h5)
    exact ⟨s', c', h6, h7⟩
   ·obtain ⟨c', h5, h6⟩ := wP M h
    obtain ⟨s', h7⟩ := wO M (nm := ByteArray.empty) ((h4 m cost aQ M c').2 h5)
    exact ⟨s', c', h6, h7⟩
  ·obtain ⟨R, h3, h4⟩ := zH x a2 a1 hx
   have hsw : ∀ m cost aQ s c, AttR m cost aQ (btR (.node a1 a2)) s c ↔ AttR m cost aQ (btR (.node a2 a1)) s c := fun m cost aQ s c => by
    rw [btR, btR, dP, dP]
    exact ⟨fun ⟨q1, q2, q3⟩ => ⟨q1, fun e => (by cases e), nh (List.Perm.swap _ _ _) q3⟩, fun ⟨q1, q2, q3⟩ => ⟨q1, fun e => (by cases e), nh (List.Perm.swap _ _ _) q3⟩⟩
   refine ⟨R, h3.trans List.perm_append_comm, fun m cost aQ M => ⟨fun s c h => ?_, fun s c h => ?_⟩⟩
   ·obtain ⟨c', h5, h6⟩ := wP M ((hsw _ _ _ _ _).1 h)
    obtain ⟨s', h7⟩ := wO M (nm := ByteArray.empty) ((h4 m cost aQ M c').1 h5)
    exact ⟨s', c', h6, h7⟩
   ·obtain ⟨c', h5, h6⟩ := wP M h
    obtain ⟨s', h7⟩ := wO M (nm := ByteArray.empty) ((h4 m cost aQ M c').2 h5)
    exact ⟨s', c', h6, (hsw _ _ _ _ _).2 h7⟩
theorem KF {names : List ByteArray} (h : cH names) {b : BT ByteArray} (hb : b.bM.Perm names) : ∃ q ∈ aM names, ∀ m cost aQ, mN m cost → (∀ s c, AttR m cost aQ (btR b) s c → ∃ s' c', c' ≤ c ∧ AttR m cost aQ q s' c') ∧ (∀ s c, AttR m cost aQ q s c → ∃ s' c', c' ≤ c ∧ AttR m cost aQ (btR b) s' c') := by
 have h0 : gs names 0 ∈ b.bM := hb.mem_iff.2 (by rw [← h.cons]; simp [gs])
 obtain ⟨R, h1, h2⟩ := TH b h0 (by rw [hb.length_eq]; exact h.lo)
 have h3 : R.bM.Perm names.tail := (List.perm_cons (gs names 0)).1 ((h1.trans hb).trans (List.Perm.of_eq h.cons.symm))
 obtain ⟨r, hr, hs⟩ := JQ names.length names.tail R (by simp) h.Dk h3
 have ho := M5 h h3
 have e : sortR (btR (uB names R)) = uR names r := bt_sim (BT.mj.node (.leaf _) hs) ho
 refine ⟨uR names r, sw.2 ⟨r, hr, rfl⟩, fun m cost aQ M => ?_⟩
 obtain ⟨h4, h5⟩ := h2 m cost aQ M
 rw [← e]
 refine ⟨fun s c hc => ?_, fun s c hc => ?_⟩
 ·obtain ⟨s', c', h6, h7⟩ := h4 s c hc
  exact ⟨s', c', h6, (wN _ _ _).2 h7⟩
 ·exact h5 s c ((wN _ _ _).1 hc)
theorem W5 {names : List ByteArray} (h : cH names) {r : RT} (hg : fK r) (hr : (cg r).Perm names) : ∃ q ∈ aM names, ∀ m cost aQ, mN m cost → ∀ s c, AttR m cost aQ r s c → ∃ s' c', c' ≤ c ∧ AttR m cost aQ q s' c' := by
 have ho := QV hg
 obtain ⟨b, h1, h2⟩ := QY _ (contrR r) (Nat.le_refl _) ho
 rw [hg.KD] at h1
 obtain ⟨q, hq, h3⟩ := KF h (h1.trans hr)
 refine ⟨q, hq, fun m cost aQ M s c hc => ?_⟩
 obtain ⟨u, c', h4, h5⟩ := Bj M _ r (Nat.le_refl _) s c hc
 have h6 := h5 s (eW hc)
 have h7 := M.z s (eW hc)
 have h8 := M.nn s u (eW hc) (eW h4)
 obtain ⟨c1, h9, h10⟩ := h2 m cost aQ M u c' h4
 obtain ⟨s', c2, h11, h12⟩ := (h3 m cost aQ M).1 u c1 h10
 exact ⟨s', c2, by omega, h12⟩
end
section
section
variable {F : aT} {n : Nat} {rk : Nat → Nat} {P : Nat → Bool} {m : Nat} {cost : Nat → Nat → Int} {aQ : ByteArray → Int}
theorem rk_ind (h : Wf F n rk) {Q : Nat → Prop} (step : ∀ z, z < n → (∀ k ∈ F.kids z, Q k) → Q z) : ∀ z, z < n → Q z := by
 have key : ∀ d z, rk z ≤ d → z < n → Q z := by
  intro d
  induction d with
  | zero => intro z hd hz; exact step z hz fun k hk => by have := (h.kid z hz k hk).2; omega
  | succ d ih => intro z hd hz; exact step z hz fun k hk => by have := h.kid z hz k hk; exact ih k (by omega) this.1
 exact fun z hz => key _ z (Nat.le_refl _) hz
end
section
variable {t : ay} {st : List Int} {cs : List (List Int)} {aQ : ByteArray → Int}
theorem LZ (hv : Valid t st cs) (hl : ∀ i, i < t.ps.length → aS t.ps i = [] → aQ (gs t.ns i) = jd t.ns st i) : ∀ z, z < t.ps.length → ∀ s, s < cs.length →
  (∀ c, AttR cs.length (eX cs) aQ (aN (ew t) (cu t) z) s c → 0 ≤ gK t st cs z s ∧ gK t st cs z s ≤ c) ∧ (0 ≤ gK t st cs z s → AttR cs.length (eX cs) aQ (aN (ew t) (cu t) z) s (gK t st cs z s)) := by
 have hw := (dz hv.tree).wf
 obtain ⟨_, _, _, m4, _⟩ := pG hv.NR
 have Nz : ∀ s, ∀ j, j < cs.length → 0 ≤ eX cs s j ∧ eX cs s j ≤ 1000 := fun s j _ => m4 s j
 have xL : ∀ s k, iJ t st cs s k = (bh (eX cs s) (gi (aP t st cs k)) cs.length).1 := fun s k => by unfold iJ; rw [fH]; rfl
 refine rk_ind hw fun z hz IH s hs => ?_
 rw [iN] at IH
 rw [di hw hz, KO t st cs hz s, iN]
 show (∀ c, AttR cs.length (eX cs) aQ (.node (gs t.ns z) _) s c → _) ∧ (_ → AttR cs.length (eX cs) aQ (.node (gs t.ns z) _) s _)
 simp only [dP]
 have key1 : ∀ l : List Nat, (∀ k ∈ l, k ∈ aS t.ps z) → ∀ c, AttL cs.length (eX cs) aQ (l.map (aN (ew t) (cu t))) s c → (l.map (iJ t st cs s)).sum ≤ c := fun l => by
  induction l with
  | nil => intro _ c h; rw [List.map_nil, gh] at h; subst h; simp
  | cons k l ih =>
   intro hm c hc
   obtain ⟨u, a, b, h1, h2, rfl⟩ := bg.1 hc
   have hkm := hm k (by simp)
   have h3 := ih (fun k hk => hm k (by simp [hk])) b h2
   obtain ⟨h4, h5⟩ := (IH k hkm u (eW h1)).1 a h1
   obtain ⟨o, _, _, _, _, h6, _⟩ := qY hv (Nz s) (cr.1 hkm).1
   have h7 := h6 u (eW h1) (by rw [dh t st cs k (eW h1)]; exact h4)
   rw [dh t st cs k (eW h1), ← xL] at h7
   rw [List.map_cons, List.sum_cons]
   omega
 have key2 : ∀ l : List Nat, (∀ k ∈ l, k ∈ aS t.ps z) → AttL cs.length (eX cs) aQ (l.map (aN (ew t) (cu t))) s ((l.map (iJ t st cs s)).sum) ∧ 0 ≤ (l.map (iJ t st cs s)).sum := fun l => by
  induction l with
  | nil => intro _; exact ⟨gh.2 rfl, by simp⟩
  | cons k l ih =>
   intro hm
   have hkm := hm k (by simp)
   obtain ⟨h2, h3⟩ := ih fun k hk => hm k (by simp [hk])
   obtain ⟨o, _, h4, h5, h6, _, _⟩ := qY hv (Nz s) (cr.1 hkm).1
   rw [dh t st cs k h4] at h5 h6
   rw [← xL] at h6
   rw [List.map_cons, List.map_cons, List.sum_cons]
   have := (Nz s o h4).1
   exact ⟨bg.2 ⟨o, gK t st cs k o, _, (IH k hkm o h4).2 h5, h2, by omega⟩, by omega⟩
 obtain ⟨k2, k3⟩ := key2 _ fun k hk => hk
 have k1 := key1 _ fun k hk => hk
 by_cases h0 : aS t.ps z = []
 ·rw [h0] at k1 k2 k3 ⊢
  have hlz := hl z hz h0
  rw [hlz]
  unfold eC
  simp only [List.map_nil, List.sum_nil, gh] at *
  constructor
  ·rintro c ⟨_, h1, h2⟩
   have h1 := h1 trivial
   rw [if_neg (fun e => e.2 (h1 e.1))]; omega
  ·intro h1
   refine ⟨hs, fun _ h2 => ?_, ?_⟩
   ·by_cases e : jd t.ns st z = (s : Int)
    ·exact e
    ·rw [if_pos ⟨h2, e⟩] at h1; omega
   ·split at h1
    ·omega
    ·rw [if_neg (by assumption)]; rfl
 ·have hown : jd t.ns st z = -1 := by
   obtain ⟨c, hc⟩ := List.exists_mem_of_ne_nil _ h0
   obtain ⟨c1, c2, c3⟩ := cr.1 hc
   exact hv.fine.leaf z c c1 c2 c3
  have hb : eC t st z s = 0 := by unfold eC; rw [if_neg (by omega)]
  rw [hb, Int.zero_add]
  exact ⟨fun c ⟨_, _, h3⟩ => ⟨k3, k1 c h3⟩, fun _ => ⟨hs, fun e => absurd (List.map_eq_nil_iff.1 e) h0, k2⟩⟩
theorem Fu (hv : Valid t st cs) (hl : ∀ i, i < t.ps.length → aS t.ps i = [] → aQ (gs t.ns i) = jd t.ns st i) :
  (∃ s, AttR cs.length (eX cs) aQ (fO t) s (bZ t st cs)) ∧ ∀ s c, AttR cs.length (eX cs) aQ (fO t) s c → bZ t st cs ≤ c := by
 have hp := (aD hv.tree).1
 have hsc : bZ t st cs = (bh (fun _ => 0) (gi (aP t st cs 0)) cs.length).1 := by unfold bZ; rw [if_pos hv.par]
 obtain ⟨o, _, h4, h5, h6, h7, _⟩ := qY hv (c := fun _ => 0) (fun j _ => ⟨Int.le_refl _, by omega⟩) hp
 rw [← hsc] at h6 h7
 rw [dh t st cs 0 h4] at h5 h6
 constructor
 ·refine ⟨o, ?_⟩
  rw [h6, Int.zero_add]
  exact (LZ hv hl 0 hp o h4).2 h5
 ·intro s c hc
  have hs := eW hc
  obtain ⟨a1, a2⟩ := (LZ hv hl 0 hp s hs).1 c hc
  have := h7 s hs (by rw [dh t st cs 0 hs]; exact a1)
  rw [dh t st cs 0 hs] at this
  omega
end
end
section
theorem wS : ∀ {p q : List ByteArray}, p.Nodup → (∀ x ∈ p, x ∈ q) → q.length ≤ p.length → p.Perm q
 | [], q, _, _, h => by
  have : q = [] := List.eq_nil_of_length_eq_zero (by simpa using h)
  rw [this]
 | x :: p, q, hn, hs, hl => by
  rw [List.nodup_cons] at hn
  have hx := hs x (by simp)
  obtain ⟨a, b, rfl⟩ := List.append_of_mem hx
  have h1 : p.Perm (a ++ b) := wS hn.2 (fun y hy => by
   have h2 := hs y (by simp [hy])
   rw [List.mem_append, List.mem_cons] at h2
   rw [List.mem_append]
   rcases h2 with h2 | h2 | h2
   ·exact .inl h2
   ·exact absurd (by rw [← h2]; exact hy) hn.1
   ·exact .inr h2) (by
   rw [List.length_append, List.length_cons, List.length_cons] at hl
   rw [List.length_append]; omega)
  exact (h1.cons x).trans List.perm_middle.symm
def jq (t : ay) (names : List ByteArray) (states : List (List Int)) : Int := if cI names states ≠ 0 then cI names states else if az t ≠ 0 then 1 else if kZ t names then 0 else 9
def vv (t : ay) (names : List ByteArray) (states : List (List Int)) : Int := if jq t names states = 0 then bG t names states else 0
theorem JT {f : Nat → Int} (hf : ∀ k, 0 ≤ f k) : ∀ {n k : Nat}, k < n → mnK f n ≤ f k ∧ 0 ≤ mnK f n
 | 0, k, h => by omega
 | n + 1, k, h => by
  rw [sA]
  have h0 := hf n
  by_cases e : k = n
  ·subst e
   split <;> omega
  ·obtain ⟨h1, h2⟩ := JT hf (n := n) (k := k) (by omega)
   split <;> omega
theorem QZ {f : Nat → Int} (hf : ∀ k, 0 ≤ f k) : ∀ {n : Nat}, 0 < n → ∃ k, k < n ∧ mnK f n = f k
 | 0, h => by omega
 | n + 1, _ => by
  rw [sA]
  by_cases e : mnK f n < 0 ∨ f n < mnK f n
  ·rw [if_pos e]; exact ⟨n, by omega, rfl⟩
  ·rw [if_neg e]
   have hn : 0 < n := by
    rcases Nat.eq_zero_or_pos n with h | h
    ·subst h; exact absurd (.inl (by show (-1 : Int) < 0; decide)) e
    ·exact h
   obtain ⟨k, h1, h2⟩ := QZ hf hn
   exact ⟨k, by omega, h2⟩
def DG (names : List ByteArray) (st : List Int) (x : ByteArray) : Int := if x.size = 0 then -1 else if 0 ≤ ir names x then gi st (ir names x).toNat else -1
section
variable {t u : ay} {names : List ByteArray} {states : List (List Int)}
theorem L3 (h : kW t names) {i p : Nat} (hi : i < t.ps.length) (hk : aS t.ps i = []) : DG names (cN states p) (gs t.ns i) = jd t.ns (fu t names states p) i := by
 have hl := yM h.te hi hk
 obtain ⟨_, _, hnl, _, _⟩ := aD h.te
 obtain ⟨p1, p2⟩ := Dn hnl hi hl.nm
 obtain ⟨b, hb, _, e⟩ := IG h hi hl.nm
 have h1 := DD (st := fu t names states p) p1 p2
 rw [h1]
 unfold DG fu
 rw [if_neg hl.nm, if_pos (by omega), Dl p1, p2, Int.toNat_natCast]
theorem metr16 : mN (bE 16).length (eX (bE 16)) := by
 have hc : ∀ a b, a < 16 → b < 16 → eX (bE 16) a b = if a = b then 0 else 1 := fun a b ha hb => Fs ha hb
 rw [jx]
 refine ⟨fun a b ha hb => ?_, fun a ha => ?_, fun a b ha hb => ?_, fun a b c ha hb hc2 => ?_⟩
 ·rw [hc a b ha hb]; split <;> omega
 ·rw [hc a a ha ha]; simp
 ·rw [hc a b ha hb, hc b a hb ha]
  by_cases e : a = b
  ·rw [if_pos e, if_pos e.symm]
  ·rw [if_neg e, if_neg (Ne.symm e)]
 ·rw [hc a c ha hc2, hc a b ha hb, hc b c hb hc2]
  by_cases e : a = c
  ·rw [if_pos e]; split <;> split <;> omega
  ·rw [if_neg e]
   by_cases e2 : a = b
   ·subst e2; rw [if_pos rfl, if_neg e]; omega
   ·rw [if_neg e2]; split <;> omega
theorem NA (hc : k6 names states) (ht : kW t names) (hu : kW u names) (h : ∀ m cost aQ, mN m cost → (∀ x : ByteArray, x.size = 0 → aQ x < 0) → ∀ s c, AttR m cost aQ (fO t) s c → ∃ s' c', c' ≤ c ∧ AttR m cost aQ (fO u) s' c') : bG u names states ≤ bG t names states := by
 unfold bG
 refine pX fun p hp => ?_
 obtain ⟨⟨s, h1⟩, _⟩ := Fu (aQ := DG names (cN states p)) (lg hc ht hp) fun i hi hk => L3 ht hi hk
 obtain ⟨_, h2⟩ := Fu (aQ := DG names (cN states p)) (lg hc hu hp) fun i hi hk => L3 hu hi hk
 obtain ⟨s', c', h3, h4⟩ := h _ _ (DG names (cN states p)) metr16 (fun x hx => by unfold DG; rw [if_pos hx]; omega) _ _ h1
 have := h2 s' c' h4
 omega
theorem Fv (hc : k6 names states) (ht : kW t names) : 0 ≤ bG t names states :=
 pF fun _ hp => ny (lg hc ht hp)
theorem Q0 {l : List ay} {t : ay} (h : t ∈ l) : ∃ k, k < l.length ∧ gt l k = t := by
 obtain ⟨k, hk, e⟩ := List.getElem_of_mem h
 exact ⟨k, hk, by simp [gt, hk, e]⟩
theorem ug (hc : k6 names states) : (∀ t ∈ allT names, bT names states ≤ bG t names states) ∧ 0 ≤ bT names states ∧ ∃ t ∈ allT names, bG t names states = bT names states := by
 obtain ⟨f, hf⟩ : ∃ f : Nat → Int, f = fun k => if k < (allT names).length then bG (gt (allT names) k) names states else 0 := ⟨_, rfl⟩
 have hfn : ∀ k, 0 ≤ f k := fun k => by
  rw [hf]
  show 0 ≤ if k < (allT names).length then bG (gt (allT names) k) names states else 0
  split
  ·rename_i hk; exact Fv hc (o6 hc.nm (sD hk)).1
  ·exact Int.le_refl _
 have he : ∀ n, n ≤ (allT names).length → mnK (fun k => bG (gt (allT names) k) names states) n = mnK f n := fun n => by
  induction n with
  | zero => intro _; rfl
  | succ n ih =>
   intro hn
   have e : f n = bG (gt (allT names) n) names states := by rw [hf]; exact if_pos hn
   rw [sA, sA, ih (by omega), e]
 have hl : bT names states = mnK f (allT names).length := he _ (Nat.le_refl _)
 have hp := IM hc.nm
 obtain ⟨k, hk, e⟩ := QZ hfn hp
 have UK : ∀ k, k < (allT names).length → f k = bG (gt (allT names) k) names states := fun k hk => by rw [hf]; exact if_pos hk
 refine ⟨fun t ht => ?_, ?_, gt (allT names) k, sD hk, ?_⟩
 ·obtain ⟨j, hj, rfl⟩ := Q0 ht
  rw [hl, ← UK j hj]
  exact (JT hfn hj).1
 ·rw [hl]; exact (JT hfn hp).2
 ·rw [hl, e, UK k hk]
theorem least_le (hc : k6 names states) (ht : kW t names) : bT names states ≤ bG t names states := by
 have h1 : (cg (fO t)).Perm names := by
  refine (qV ht.te).trans ?_
  have eT : (kV t.ns).Nodup := (qV ht.te).nodup (rY ht.te).nd
  refine wS eT (fun x hx => ?_) ?_
  ·obtain ⟨j, hj, rfl, hj0⟩ := zu.1 hx
   obtain ⟨_, _, hnl, _, _⟩ := aD ht.te
   obtain ⟨b, hb, e⟩ := ht.has j (by omega) hj0
   rw [← e]; simp [gs, hb]
  ·rw [← yy, ht.len]; omega
 obtain ⟨q, hq, h2⟩ := W5 hc.nm (rY ht.te) h1
 have hqt : flat q ∈ allT names := List.mem_map_of_mem hq
 have h3 := (ug hc).1 _ hqt
 have h4 := NA hc ht (o6 hc.nm hqt).1 (by rw [kS]; exact fun m cost aQ M _ => h2 m cost aQ M)
 omega
end
end
section
open Go.RowKit Go.Deep
theorem Nj.le10 {names : List ByteArray} {states : List (List Int)} (h : Nj names states) : names.length ≤ 10 ∧ (∀ k, (gl states k).length ≤ 4098) ∧ (names.length ≤ 5 ∨ 7 < names.length) := by
 have h1 := h.n5
 refine ⟨by omega, fun k => ?_, by omega⟩
 have := h.row k
 omega
end
section
section
variable {t : ay} {st : List Int}
theorem NB (h : Valid t st (bE 16)) : ((dd (cm st)).length : Int) - 1 ≤ bZ t st (bE 16) := by
 have ht := h.tree
 obtain ⟨ig, _, _, hok, _⟩ := aD ht
 have a4 := W4 h
 rw [jx] at a4
 rw [← Tz h, WZ ht a4]
 have hb : (dd (cm st)).length ≤ (dd (backL (gi (fe t st (bE 16))) t.ps.length)).length := VB fun x hx => by
  obtain ⟨h1, h2⟩ := wR.1 hx
  obtain ⟨i, hi, e⟩ := Cg h1
  rw [h.len] at hi
  obtain ⟨k, hk, hkn, _⟩ := oB hi
  have := JO h i hi (by omega)
  rw [hk, Int.toNat_natCast] at this
  exact y7.2 ⟨k, by rw [← (aD ht).2.2.1]; exact hkn, by rw [this, e]⟩
 have hd := QX (p := fun c => (gi t.ps c).toNat) (a := gi (fe t st (bE 16))) (n := t.ps.length) (fun c hc h0 => by
  obtain ⟨h1, h2, _⟩ := kM hok hc
  have := h2 h0
  show (gi t.ps c).toNat < c
  omega) ig (Nat.le_refl _)
 omega
end
section
variable {t u : ay} {names : List ByteArray} {states : List (List Int)}
theorem Q1 (_hn : cH names) (ht : kW t names) : (kV t.ns).Perm names := by
 have eT : (kV t.ns).Nodup := (qV ht.te).nodup (rY ht.te).nd
 refine wS eT (fun x hx => ?_) ?_
 ·obtain ⟨j, hj, rfl, hj0⟩ := zu.1 hx
  obtain ⟨_, _, hnl, _, _⟩ := aD ht.te
  obtain ⟨b, hb, e⟩ := ht.has j (by omega) hj0
  rw [← e]; simp [gs, hb]
 ·rw [← yy, ht.len]; omega
theorem W6 (hc : k6 names states) (ht : kW t names) {p b : Nat} (hb : b < names.length) : ∃ j, j < (fu t names states p).length ∧ gi (fu t names states p) j = gi (gl states b) p := by
 have hp := Q1 hc.nm ht
 have hm : gs names b ∈ kV t.ns := hp.mem_iff.2 (by simp [gs, hb])
 obtain ⟨v, hv, e, hv0⟩ := zu.1 hm
 obtain ⟨_, _, hnl, _, _⟩ := aD ht.te
 obtain ⟨p1, p2⟩ := Dn hnl (show v < t.ps.length by omega) (by rw [e]; exact hv0)
 refine ⟨(eM t.ns v).toNat, by unfold fu; rw [o5]; exact p1, ?_⟩
 unfold fu
 rw [Dl p1, p2, Int.toNat_natCast, e, Ve hc.nm.IL hb, Int.toNat_natCast, yO _ _ (by rw [hc.len]; exact hb)]
theorem TI (hc : k6 names states) (ht : kW t names) : qw states ≤ bG t names states := by
 unfold qw bG
 refine pX fun p hp => ?_
 have hv := lg hc ht hp
 have h1 := NB hv
 have h0 := ny hv
 have h2 : Qm states p ≤ (dd (cm (fu t names states p))).length := VB fun x hx => by
  obtain ⟨x1, x2⟩ := wR.1 hx
  refine wR.2 ⟨?_, x2⟩
  obtain ⟨b, hb, e⟩ := Cg x1
  rw [sQ] at hb
  rw [yO _ _ hb] at e
  obtain ⟨j, hj, e2⟩ := W6 (p := p) hc ht (b := b) (by rw [← hc.len]; exact hb)
  rw [← e, ← e2]
  exact uh hj
 unfold mM
 split <;> omega
theorem KG (hc : k6 names states) : qw states ≤ bT names states := by
 obtain ⟨_, _, t, ht, e⟩ := ug hc
 rw [← e]
 exact TI hc (o6 hc.nm ht).1
end
end
end Go.Proofs.YthgabkgmkolobaaGreat
