/- The plain law of forests in which no node has two parents and no two leaves one name: their children can be sorted; the nodes below a node stand once each. The contract of the reference's SameGroups, at groups that are the same. The contracts of phylotree.canonical, Canonical. Sets of sources as numbers: of, within, conflict, sources. Canonical trees reckoned by the kernel: the sort of children as an insertion sort. The contract of layer 31's reference's children. The contract of sharederror.check. -/
import Derived.Test.YtpnmblnahjjmhaaGreatQ9
import Derived.Test.YtpnmblnahjjmhaaGreatQ10
import Derived.Laws.Bits64b
import Derived.Laws.BitsAllLaws
import Derived.Test.YtpnmblnahjjmhaaGreatQ2
import Derived.Test.YtpnmblnahjjmhaaGreatQ1
namespace Go.Proofs.YtpnmblnahjjmhaaGreat
set_option maxRecDepth 100000
section
theorem ji {F : bA} {n : Nat} {rk : Nat → Nat} (h : Wf F n rk) {i : Nat} (hi : i < n) : cG F rk i i = true := by rw [iI h hi]; simp
theorem nu {F : bA} {n : Nat} {rk : Nat → Nat} (h : Wf F n rk) {i k j : Nat} (hi : i < n) (hk : k ∈ F.kids i) (hj : cG F rk k j = true) : cG F rk i j = true := by
 rw [iI h hi, Bool.or_eq_true]; exact .inr (List.any_eq_true.2 ⟨k, hk, hj⟩)
theorem qU {F : bA} {n : Nat} {rk : Nat → Nat} (h : Wf F n rk) {i j : Nat} (hi : i < n) (hj : cG F rk i j = true) : j = i ∨ ∃ k ∈ F.kids i, cG F rk k j = true := by
 rw [iI h hi, Bool.or_eq_true] at hj
 rcases hj with h1 | h1
 ·exact .inl (by simpa using h1)
 ·obtain ⟨k, hk, h2⟩ := List.any_eq_true.1 h1
  exact .inr ⟨k, hk, h2⟩
theorem nO {F : bA} {n : Nat} {rk : Nat → Nat} (h : Wf F n rk) : ∀ {d i j : Nat}, i < n → rk i ≤ d → cG F rk i j = true → j < n := by
 intro d
 induction d with
 | zero =>
  intro i j hi hd hj
  rcases qU h hi hj with rfl | ⟨k, hk, h1⟩
  ·exact hi
  ·have := (h.bF i hi k hk).2; omega
 | succ d ih =>
  intro i j hi hd hj
  rcases qU h hi hj with rfl | ⟨k, hk, h1⟩
  ·exact hi
  ·have := h.bF i hi k hk
   exact ih this.1 (by omega) h1
structure si (F : bA) (n : Nat) (rk : Nat → Nat) : Prop where
 wf : Wf F n rk
 one : ∀ p q k, p < n → q < n → k ∈ F.kids p → k ∈ F.kids q → p = q
 nodup : ∀ i, i < n → (F.kids i).Nodup
 names : ∀ a b, a < n → b < n → F.kids a = [] → F.kids b = [] → F.nm a = F.nm b → a = b
section
variable {F : bA} {n : Nat} {rk : Nat → Nat}
theorem qV (h : Wf F n rk) : ∀ {d x j : Nat}, x < n → rk x ≤ d → cG F rk x j = true → j ≠ x → ∃ p, p < n ∧ j ∈ F.kids p ∧ cG F rk x p = true := by
 intro d
 induction d with
 | zero =>
  intro x j hx hd hj hne
  rcases qU h hx hj with e | ⟨k, hk, h1⟩
  ·exact absurd e hne
  ·have := (h.bF x hx k hk).2; omega
 | succ d ih =>
  intro x j hx hd hj hne
  rcases qU h hx hj with e | ⟨k, hk, h1⟩
  ·exact absurd e hne
  ·have hkk := h.bF x hx k hk
   by_cases e : j = k
   ·exact ⟨x, hx, by rw [e]; exact hk, ji h hx⟩
   ·obtain ⟨p, hp, h2, h3⟩ := ih hkk.1 (by omega) h1 e
    exact ⟨p, hp, h2, nu h hx hk h3⟩
theorem Oz (h : si F n rk) {R : Nat} (hR : ∀ i, i < n → rk i ≤ R) : ∀ {m j x y : Nat}, R - rk j ≤ m → j < n → x < n → y < n → cG F rk x j = true → cG F rk y j = true → cG F rk x y = true ∨ cG F rk y x = true := by
 intro m
 induction m with
 | zero =>
  intro j x y hm hj hx hy h1 h2
  by_cases e1 : j = x
  ·subst e1; exact .inr h2
  ·obtain ⟨p, hp, hk, _⟩ := qV h.wf hx (Nat.le_refl _) h1 e1
   have := (h.wf.bF p hp j hk).2
   have := hR p hp
   omega
 | succ m ih =>
  intro j x y hm hj hx hy h1 h2
  by_cases e1 : j = x
  ·subst e1; exact .inr h2
  ·by_cases e2 : j = y
   ·subst e2; exact .inl h1
   ·obtain ⟨p, hp, hk, h3⟩ := qV h.wf hx (Nat.le_refl _) h1 e1
    obtain ⟨q, hq, hk2, h4⟩ := qV h.wf hy (Nat.le_refl _) h2 e2
    obtain rfl := h.one p q j hp hq hk hk2
    have h5 := (h.wf.bF p hp j hk).2
    have h6 := hR p hp
    exact ih (by omega) hp hx hy h3 h4
theorem As (h : si F n rk) {R : Nat} (hR : ∀ i, i < n → rk i ≤ R) {i x y j : Nat} (hi : i < n) (hx : x ∈ F.kids i) (hy : y ∈ F.kids i) (h1 : cG F rk x j = true) (h2 : cG F rk y j = true) : x = y := by
 have Ka := h.wf.bF i hi x hx
 have DV := h.wf.bF i hi y hy
 have hj := nO h.wf Ka.1 (Nat.le_refl _) h1
 have key : ∀ {a b : Nat}, a ∈ F.kids i → b ∈ F.kids i → a < n → rk a < rk i → cG F rk a b = true → a = b := fun {a b} ha hb FY har hab => by
  by_cases e : b = a
  ·exact e.symm
  ·obtain ⟨p, hp, hk, h3⟩ := qV h.wf FY (Nat.le_refl _) hab e
   obtain rfl := h.one p i b hp hi hk hb
   have := nK h.wf FY h3; omega
 rcases Oz h hR (Nat.le_refl _) hj Ka.1 DV.1 h1 h2 with h3 | h3
 ·exact key hx hy Ka.1 Ka.2 h3
 ·exact (key hy hx DV.1 DV.2 h3).symm
theorem Kb (h : Wf F n rk) : ∀ {d i : Nat}, i < n → rk i ≤ d → ∃ j, j < n ∧ cG F rk i j = true ∧ F.kids j = [] ∧ ga F rk i = F.nm j := by
 intro d
 induction d with
 | zero =>
  intro i hi hd
  have hk : F.kids i = [] := by
   cases hk : F.kids i with
   | nil => rfl
   | cons k l => have := (h.bF i hi k (by rw [hk]; simp)).2; omega
  exact ⟨i, hi, ji h hi, hk, by rw [rZ h hi, hk]; simp [di]⟩
 | succ d ih =>
  intro i hi hd
  by_cases hk : F.kids i = []
  ·exact ⟨i, hi, ji h hi, hk, by rw [rZ h hi, hk]; simp [di]⟩
  ·obtain ⟨k, l, hs⟩ : ∃ k l, di (ga F rk) (F.kids i) = k :: l := by
    cases hs : di (ga F rk) (F.kids i) with
    | nil => have h1 := (eR (ga F rk) (F.kids i)).length_eq; rw [hs] at h1; exact absurd (List.length_eq_zero_iff.1 h1.symm) hk
    | cons k l => exact ⟨k, l, rfl⟩
   have hki : k ∈ F.kids i := (eR (ga F rk) _).mem_iff.1 (by rw [hs]; simp)
   have hkk := h.bF i hi k hki
   obtain ⟨j, hj, h1, h2, h3⟩ := ih hkk.1 (by omega)
   exact ⟨j, hj, nu h hi hki h1, h2, by rw [rZ h hi, hs]; exact h3⟩
theorem si.RB (h : si F n rk) (hl : ∀ i, i < n → (F.kids i).length ≤ 1000) {R : Nat} (hR : ∀ i, i < n → rk i ≤ R) : An F n rk := by
 refine ⟨h.wf, fun i hi x hx y hy e => ?_, h.nodup, hl⟩
 have Ka := h.wf.bF i hi x hx
 have DV := h.wf.bF i hi y hy
 obtain ⟨a, ha, h1, h2, h3⟩ := Kb h.wf Ka.1 (Nat.le_refl _)
 obtain ⟨b, hb, h4, h5, h6⟩ := Kb h.wf DV.1 (Nat.le_refl _)
 rw [h3, h6] at e
 obtain rfl := h.names a b ha hb h2 h5 e
 exact As h hR hi hx hy h1 h4
def cm (F : bA) (rk : Nat → Nat) (i : Nat) : List Nat := (eO F rk i none).map (·.1)
theorem Kc (h : Wf F n rk) : ∀ {d i : Nat} (p q : Option Nat), i < n → rk i ≤ d → (eO F rk i p).map (·.1) = (eO F rk i q).map (·.1) := by
 intro d
 cases d with
 | zero => intro i p q hi hd; rw [gV h hi, gV h hi]; rfl
 | succ d => intro i p q hi hd; rw [gV h hi, gV h hi]; rfl
theorem cO (h : Wf F n rk) {i : Nat} (hi : i < n) : cm F rk i = i :: (F.kids i).flatMap fun k => cm F rk k := by
 unfold cm
 rw [gV h hi, List.map_cons, List.map_flatMap]
 congr 1
 exact gy fun k hk => Kc h _ _ (h.bF i hi k hk).1 (Nat.le_refl _)
theorem dL (h : Wf F n rk) : ∀ {d i j : Nat}, i < n → rk i ≤ d → (j ∈ cm F rk i ↔ cG F rk i j = true) := by
 intro d
 induction d with
 | zero =>
  intro i j hi hd
  rw [cO h hi, iI h hi]
  have hk : F.kids i = [] := by
   cases hk : F.kids i with
   | nil => rfl
   | cons k l => have := (h.bF i hi k (by rw [hk]; simp)).2; omega
  simp [hk]
 | succ d ih =>
  intro i j hi hd
  rw [cO h hi, iI h hi]
  simp only [List.mem_cons, List.mem_flatMap, Bool.or_eq_true, beq_iff_eq, List.any_eq_true]
  constructor
  ·rintro (e | ⟨k, hk, h1⟩)
   ·exact .inl e
   ·have := h.bF i hi k hk
    exact .inr ⟨k, hk, (ih this.1 (by omega)).1 h1⟩
  ·rintro (e | ⟨k, hk, h1⟩)
   ·exact .inl e
   ·have := h.bF i hi k hk
    exact .inr ⟨k, hk, (ih this.1 (by omega)).2 h1⟩
theorem jM (h : si F n rk) {R : Nat} (hR : ∀ i, i < n → rk i ≤ R) : ∀ {d i : Nat}, i < n → rk i ≤ d → (cm F rk i).Nodup := by
 intro d
 induction d with
 | zero =>
  intro i hi hd
  rw [cO h.wf hi]
  have hk : F.kids i = [] := by
   cases hk : F.kids i with
   | nil => rfl
   | cons k l => have := (h.wf.bF i hi k (by rw [hk]; simp)).2; omega
  simp [hk]
 | succ d ih =>
  intro i hi hd
  rw [cO h.wf hi, List.nodup_cons]
  refine ⟨fun hm => ?_, ?_⟩
  ·obtain ⟨k, hk, h1⟩ := List.mem_flatMap.1 hm
   have hkk := h.wf.bF i hi k hk
   have := nK h.wf hkk.1 ((dL h.wf hkk.1 (Nat.le_refl _)).1 h1); omega
  ·have hsub : ∀ l : List Nat, l.Nodup → (∀ k ∈ l, k ∈ F.kids i) → (l.flatMap fun k => cm F rk k).Nodup := by
    intro l
    induction l with
    | nil => intro _ _; simp
    | cons x l ihl =>
     intro hn hin
     obtain ⟨hx, hl⟩ := List.nodup_cons.1 hn
     have Ue := h.wf.bF i hi x (hin x (by simp))
     rw [List.flatMap_cons, List.nodup_append]
     refine ⟨ih Ue.1 (by omega), ihl hl (fun k hk => hin k (by simp [hk])), fun a ha b hb e => ?_⟩
     subst e
     obtain ⟨y, hy, h2⟩ := List.mem_flatMap.1 hb
     have hyy := h.wf.bF i hi y (hin y (by simp [hy]))
     have := As h hR hi (hin x (by simp)) (hin y (by simp [hy])) ((dL h.wf Ue.1 (Nat.le_refl _)).1 ha) ((dL h.wf hyy.1 (Nat.le_refl _)).1 h2)
     subst this; exact hx hy
   exact hsub _ (h.nodup i hi) (fun k hk => hk)
theorem pJ {l : List Nat} {n : Nat} (h : l.Nodup) (hl : ∀ x ∈ l, x < n) : l.length ≤ n := by
 have h1 : l ⊆ List.range n := fun x hx => List.mem_range.2 (hl x hx)
 have := h.length_le_of_subset h1
 simpa using this
theorem VA (h : si F n rk) {R : Nat} (hR : ∀ i, i < n → rk i ≤ R) {i : Nat} (hi : i < n) (p : Option Nat) : (eO F rk i p).length ≤ n := by
 have h1 : (eO F rk i p).length = (cm F rk i).length := by
  have := congrArg List.length (Kc h.wf p none hi (Nat.le_refl _))
  simpa [cm] using this
 rw [h1]
 exact pJ (jM h hR hi (Nat.le_refl _)) (fun x hx => nO h.wf hi (Nat.le_refl _) ((dL h.wf hi (Nat.le_refl _)).1 hx))
theorem si.iK (h : si F n rk) (p : Nat → Bool) : si (F.iK rk p) n rk :=
 ⟨⟨fun i hi k hk => h.wf.bF i hi k ((F.iL rk p i).mem_iff.1 hk)⟩, fun a b k ha hb h1 h2 => h.one a b k ha hb ((F.iL rk p a).mem_iff.1 h1) ((F.iL rk p b).mem_iff.1 h2), fun i hi => (F.iL rk p i).symm.nodup_iff.1 (h.nodup i hi),
  fun a b ha hb h1 h2 e => h.names a b ha hb (List.perm_nil.1 (by rw [← h1]; exact (F.iL rk p a).symm)) (List.perm_nil.1 (by rw [← h2]; exact (F.iL rk p b).symm)) e⟩
end
def cI (t : aJ) (i : Nat) : Nat := t.ps.length - i
theorem gz (t : aJ) (i : Nat) : (dr t).kids i = bO t.ps i := rfl
theorem cS {t : aJ} (h : aK t = 0) : si (dr t) t.ps.length (cI t) := by
 obtain ⟨hp, _, hn, hok, he⟩ := aP h
 refine ⟨⟨fun i hi k hk => ?_⟩, fun p q k _ _ h1 h2 => ?_, fun i _ => ?_, fun a b ha hb h1 h2 e => ?_⟩
 ·obtain ⟨h1, h2, _⟩ := cC.1 hk
  exact ⟨h1, by unfold cI; omega⟩
 ·obtain ⟨_, _, h3⟩ := cC.1 h1
  obtain ⟨_, _, h4⟩ := cC.1 h2
  omega
 ·exact List.Pairwise.filter _ List.nodup_range
 ·have leaf : ∀ i, i < t.ps.length → bO t.ps i = [] → isIn t.ps i = false := fun i hi hk => by
   cases hin : isIn t.ps i with
   | false => rfl
   | true => exact absurd hk ((kW hok i).2 hin)
  have e : gs t.ns a = gs t.ns b := e
  rcases Nat.lt_trichotomy a b with hab | hab | hab
  ·have h3 := (vq h hb (leaf b hb h2)).2
   have := any_false h3 hab
   simp [e] at this
  ·exact hab
  ·have h3 := (vq h ha (leaf a ha h1)).2
   have := any_false h3 hab
   simp [e] at this
theorem uR (t : aJ) (i : Nat) : cI t i ≤ t.ps.length := Nat.sub_le _ _
end
section
open Go.RowKit Go.Deep
end
section
open Go.RowKit Go.Deep
def jy (t : aJ) : bA := (dr t).iK (cI t) fun j => false || cG (dr t) (cI t) 0 j
def iy (t : aJ) : aJ := gp (jy t) (cI t) 0
theorem ox (t : aJ) (i : Nat) : ((dr t).kids i).length ≤ t.ps.length := by rw [gz]; exact qi _ _ _
theorem FZ {t : aJ} (h : aK t = 0) : si (jy t) t.ps.length (cI t) := (cS h).iK _
theorem Fa (t : aJ) (i : Nat) : ((jy t).kids i).length ≤ t.ps.length := by
 have h := ((dr t).iL (cI t) (fun j => false || cG (dr t) (cI t) 0 j) i).length_eq
 have h2 := ox t i
 unfold jy; omega
theorem lu {w : World} {P N : Value} {T : TypeId} : (w.alloc (.cells #[P, N] T)).heap[w.heap.size]? = some (.cells #[P, N] T (0, 0)) := World.alloc_heap_new _ _
set_option maxHeartbeats 2000000 in
theorem JC (S : Nat → Prop) (w : World) (v : Value) (t : aJ) (hT : aO S w v t) (he : aK t = 0) (hz : ∀ k, (gs t.ns k).size ≤ 70000) : Calls Tryz.prog 165 #[v] w (Oq w (iy t)) := by
 obtain ⟨od, L8, hnl, hok, _⟩ := aP he
 obtain ⟨P, N, rfl, hP, hN⟩ := hT
 have hu := (Up.alloc w (.cells #[P, N] 39)).trans (Up.alloc _ (.cells #[.slice none 0 0, .slice none 0 0] 39))
 have o5 : aO S ((w.alloc (.cells #[P, N] 39)).alloc (.cells #[.slice none 0 0, .slice none 0 0] 39)) (.agg #[P, N]) t := aO.keep ⟨P, N, rfl, hP, hN⟩ (hu.kept _)
 have HN := ag (Vu S _ _ t o5 (by omega) hnl hok hz)
 have HU := ag hu
 have hc0 := (Up.alloc _ (.cells #[.slice none 0 0, .slice none 0 0] 39)).cell (dg w P N 39)
 have hc1 := (Up.alloc _ (.cells #[.slice none 0 0, .slice none 0 0] 39)).cell (dy w P N 39)
 have hrb := lu (w := w.alloc (.cells #[P, N] 39)) (P := .slice none 0 0) (N := .slice none 0 0) (T := 39)
 have hsz : ((w.alloc (.cells #[P, N] 39)).alloc (.cells #[.slice none 0 0, .slice none 0 0] 39)).heap.size = w.heap.size + 2 := by simp
 rw [World.size_alloc] at hrb
 have gQ := ag hrb
 have dG := ag hsz
 have HAR := ag (cS he)
 have wK := ag (FZ he)
 clear hu o5 hP hN hrb hsz hnl hok
 aq Tryz.func165, Tryz.ntmps165
 aa fail
 generalize (w.alloc (.cells #[P, N] 39)).alloc (.cells #[.slice none 0 0, .slice none 0 0] 39) = w1 at *
 refine HN.out.mono ?_
 rintro e w2 ⟨aL, g, A, kv, rfl, hF, hrow⟩
 have gC := hrow.cell (i := 0) od
 have oy := ag hF
 have cM := ag aL
 have pL := ag ((Below.block aL (w.heap.size + 1) (by rw [dG.out]; omega)).trans gQ.out)
 have hs2 := aL.size
 simp only [b7] at gC
 have hpos : (0 : Int) < (t.ps.length : Int) := by omega
 clear aL hF hrow hc0 hc1 HN
 aa fail
 have W5 : bZ w1.heap.size t.ps.length A kv ((dr t).iK (cI t) fun _ => false) w2 := oy.out.congr fun j _ => ⟨rfl, rfl, rfl⟩
 have lz := ag (Rv (HAR.out.RB (fun i _ => by have := ox t i; omega) (fun i _ => uR t i)) (cI t 0) 0 (fun _ => false) w2 od (Nat.le_refl _) W5)
 clear gC
 refine lz.out.mono ?_
 rintro e w3 ⟨rfl, J1, hfu⟩
 have jL : Below w1.heap.size w2 w3 := hfu.below W5 hs2
 have W9 := ag ((jL.block (w.heap.size + 1) (by rw [dG.out]; omega)).trans pL.out)
 have dI : Hid (Up w1 w3) := Below.trans cM.out jL
 have Ke := ag (Ot (F := jy t) (rk := cI t) wK.out.wf (fun i _ => by have := Fa t i; omega) w3 0 od J1 (by have := VA wK.out (fun i _ => uR t i) od none; omega))
 clear J1 hfu jL lz oy W5 pL cM
 aa fail
 refine Ke.out.mono ?_
 rintro e w4 ⟨eG, _, rfl, P4, N4, rfl, oz, oA⟩
 obtain ⟨pp, pc, rfl, _, _⟩ := aC.open oz
 obtain ⟨np, nc, rfl, _, _⟩ := aC.open oA
 have jN := (Below.block eG (w.heap.size + 1) (by have := dI.out.size; rw [dG.out] at this; omega)).trans W9.out
 have sg : w4.cell? ⟨w.heap.size + 1, 0, none⟩ = some (.slice none 0 0) := by simp [World.cell?, jN]
 have jg : w4.cell? ⟨w.heap.size + 1, 1, none⟩ = some (.slice none 0 0) := by simp [World.cell?, jN]
 have uQ : w4.frozen? ⟨w.heap.size + 1, 0, none⟩ = false := by simp [World.frozen?, jN]
 have mB : w4.frozen? ⟨w.heap.size + 1, 1, none⟩ = false := by simp [World.frozen?, jN]
 have DS := ag oz
 have OA := ag oA
 have gd := ag eG
 have HRB4 := ag jN
 clear oz oA eG jN Ke W9
 aa fail
 have cg : ∀ b, b ≠ w.heap.size + 1 → ((w4.setCell ⟨w.heap.size + 1, 0, none⟩ (.slice pp (gp (jy t) (cI t) 0).ps.length pc)).setCell ⟨w.heap.size + 1, 1, none⟩ (.slice np (gp (jy t) (cI t) 0).ns.length nc)).heap[b]? = w4.heap[b]? := fun b hb => by rw [blk_setCell_other _ _ _ _ hb, blk_setCell_other _ _ _ _ hb]
 have hheap : ((w4.setCell ⟨w.heap.size + 1, 0, none⟩ (.slice pp (gp (jy t) (cI t) 0).ps.length pc)).setCell ⟨w.heap.size + 1, 1, none⟩ (.slice np (gp (jy t) (cI t) 0).ns.length nc)).heap[w.heap.size + 1]? = some (Obj.cells #[.slice pp (gp (jy t) (cI t) 0).ps.length pc, .slice np (gp (jy t) (cI t) 0).ns.length nc] 39 (0, 0)) := by
  simp [World.setCell, Array.getElem?_modify, HRB4.out]
 have eG := HU.out.trans (dI.out.trans gd.out)
 have fS : Up w ((w4.setCell ⟨w.heap.size + 1, 0, none⟩ (.slice pp (gp (jy t) (cI t) 0).ps.length pc)).setCell ⟨w.heap.size + 1, 1, none⟩ (.slice np (gp (jy t) (cI t) 0).ns.length nc)) :=
  ⟨eG.os, eG.tape, eG.output, by simp [World.size_setCell]; exact eG.size, fun b hb => (cg b (by omega)).trans (eG.block b hb)⟩
 have qO : w.heap.size + 2 ≤ w3.heap.size := by have := dI.out.size; rw [dG.out] at this; exact this
 generalize (w4.setCell ⟨w.heap.size + 1, 0, none⟩ (.slice pp (gp (jy t) (cI t) 0).ps.length pc)).setCell ⟨w.heap.size + 1, 1, none⟩ (.slice np (gp (jy t) (cI t) 0).ns.length nc) = w5 at *
 have sg : w5.cell? ⟨w.heap.size + 1, 0, none⟩ = some (.slice pp (gp (jy t) (cI t) 0).ps.length pc) := by simp [World.cell?, hheap]
 have jg : w5.cell? ⟨w.heap.size + 1, 1, none⟩ = some (.slice np (gp (jy t) (cI t) 0).ns.length nc) := by simp [World.cell?, hheap]
 refine ⟨rfl, .agg #[.slice pp (gp (jy t) (cI t) 0).ps.length pc, .slice np (gp (jy t) (cI t) 0).ns.length nc], by simp [results, Tryz.results165, go_sem, sg, jg], ?_⟩
 exact ⟨fS, _, rfl, _, _, rfl, (an.keep DS.out fun b hb _ => cg b (by omega)).sub fun b hb _ => by omega, (aG.keep OA.out fun b hb _ => cg b (by omega)).sub fun b hb _ => by omega⟩
def Xa (w : World) (t : aJ) (e : Ending) (w' : World) : Prop :=
 Up w w' ∧ ((aK t ≠ 0 ∧ e = .returned (.tuple #[.agg #[.slice none 0 0, .slice none 0 0], .int .i64 1])) ∨ (aK t = 0 ∧ ∃ v, e = .returned (.tuple #[v, .int .i64 0]) ∧ aO (fun b => w.heap.size ≤ b) w' v (iy t)))
theorem fD {w w4 : World} {B : Nat} {x y p q : Value} {T : TypeId} (hb : w4.heap[B]? = some (Obj.cells #[x, y] T (0, 0))) (hB : w.heap.size ≤ B) (hu : Up w w4) :
  Up w ((w4.setCell ⟨B, 0, none⟩ p).setCell ⟨B, 1, none⟩ q) ∧ ((w4.setCell ⟨B, 0, none⟩ p).setCell ⟨B, 1, none⟩ q).cell? ⟨B, 0, none⟩ = some p ∧ ((w4.setCell ⟨B, 0, none⟩ p).setCell ⟨B, 1, none⟩ q).cell? ⟨B, 1, none⟩ = some q ∧
   ∀ b, b ≠ B → ((w4.setCell ⟨B, 0, none⟩ p).setCell ⟨B, 1, none⟩ q).heap[b]? = w4.heap[b]? := by
 have cg : ∀ b, b ≠ B → ((w4.setCell ⟨B, 0, none⟩ p).setCell ⟨B, 1, none⟩ q).heap[b]? = w4.heap[b]? := fun b hb => by rw [blk_setCell_other _ _ _ _ hb, blk_setCell_other _ _ _ _ hb]
 have hheap : ((w4.setCell ⟨B, 0, none⟩ p).setCell ⟨B, 1, none⟩ q).heap[B]? = some (Obj.cells #[p, q] T (0, 0)) := by
  simp [World.setCell, Array.getElem?_modify, hb]
 exact ⟨⟨hu.os, hu.tape, hu.output, by simp [World.size_setCell]; exact hu.size, fun b hb => (cg b (by omega)).trans (hu.block b hb)⟩, by simp [World.cell?, hheap], by simp [World.cell?, hheap], cg⟩
set_option maxHeartbeats 2000000 in
theorem xR (S : Nat → Prop) (w : World) (v : Value) (t : aJ) (hT : aO S w v t) (hp : t.ps.length ≤ 1000000) (hn : t.ns.length ≤ 1000000) (hz : ∀ k, (gs t.ns k).size ≤ 70000) : Calls Tryz.prog 91 #[v] w (Xa w t) := by
 obtain ⟨P, N, rfl, hP, hN⟩ := hT
 have hu := (Up.alloc w (.cells #[P, N] 39)).trans (Up.alloc _ (.cells #[.slice none 0 0, .slice none 0 0] 39))
 have o5 : aO S ((w.alloc (.cells #[P, N] 39)).alloc (.cells #[.slice none 0 0, .slice none 0 0] 39)) (.agg #[P, N]) t := aO.keep ⟨P, N, rfl, hP, hN⟩ (hu.kept _)
 have fO := ag (yX S _ _ t o5 hp hn hz)
 have HT := ag o5
 have HU := ag hu
 have iZ := ag ((Up.alloc _ (.cells #[.slice none 0 0, .slice none 0 0] 39)).cell (dg w P N 39))
 have eH := ag ((Up.alloc _ (.cells #[.slice none 0 0, .slice none 0 0] 39)).cell (dy w P N 39))
 have hc0 := iZ.out
 have hc1 := eH.out
 have hrb := lu (w := w.alloc (.cells #[P, N] 39)) (P := .slice none 0 0) (N := .slice none 0 0) (T := 39)
 have hsz : ((w.alloc (.cells #[P, N] 39)).alloc (.cells #[.slice none 0 0, .slice none 0 0] 39)).heap.size = w.heap.size + 2 := by simp
 rw [World.size_alloc] at hrb
 have gQ := ag hrb
 have dG := ag hsz
 clear hu o5 hP hN hrb hsz
 aq Tryz.func91, Tryz.ntmps91
 aa fail
 generalize (w.alloc (.cells #[P, N] 39)).alloc (.cells #[.slice none 0 0, .slice none 0 0] 39) = w1 at *
 refine fO.out.mono ?_
 rintro e w2 ⟨rfl, bK⟩
 have aL : Up w1 w2 := bK
 have hc0 := aL.cell iZ.out
 have hc1 := aL.cell eH.out
 have zM := ag (HT.out.keep (aL.kept S))
 have iz := (Below.block aL (w.heap.size + 1) (by rw [dG.out]; omega)).trans gQ.out
 have cM := ag (HU.out.trans aL)
 have xS : Hid (w.heap.size + 2 ≤ w2.heap.size) := by unfold Hid; have := aL.size; rw [dG.out] at this; exact this
 clear bK aL fO HT HU iZ eH gQ
 by_cases he : aK t = 0
 ·have HE := ag he
  rw [he]
  have pL := ag iz
  have jH := ag (JC S w2 _ t zM.out he hz)
  clear iz he
  aa fail
  refine jH.out.mono ?_
  rintro e w4 ⟨eG, _, rfl, P4, N4, rfl, oz, oA⟩
  obtain ⟨pp, pc, rfl, _, _⟩ := aC.open oz
  obtain ⟨np, nc, rfl, _, _⟩ := aC.open oA
  have jN := (Below.block eG (w.heap.size + 1) (by have := xS.out; omega)).trans pL.out
  have sg : w4.cell? ⟨w.heap.size + 1, 0, none⟩ = some (.slice none 0 0) := by simp [World.cell?, jN]
  have jg : w4.cell? ⟨w.heap.size + 1, 1, none⟩ = some (.slice none 0 0) := by simp [World.cell?, jN]
  have uQ : w4.frozen? ⟨w.heap.size + 1, 0, none⟩ = false := by simp [World.frozen?, jN]
  have mB : w4.frozen? ⟨w.heap.size + 1, 1, none⟩ = false := by simp [World.frozen?, jN]
  have DS := ag oz
  have OA := ag oA
  have cu := ag (fD (w := w) (p := .slice pp (iy t).ps.length pc) (q := .slice np (iy t).ns.length nc) jN (by omega) (cM.out.trans eG))
  clear oz oA eG jN jH pL hc0 hc1
  aa fail
  obtain ⟨s1, s2, s3, s4⟩ := cu.out
  have hs2 := xS.out
  refine ⟨rfl, .tuple #[.agg #[.slice pp (iy t).ps.length pc, .slice np (iy t).ns.length nc], .int .i64 0], by simp [results, Tryz.results91, go_sem, s2, s3], ?_⟩
  exact ⟨s1, .inr ⟨HE.out, _, rfl, _, _, rfl, (an.keep DS.out fun b hb _ => s4 b (by omega)).sub fun b hb _ => by omega, (aG.keep OA.out fun b hb _ => s4 b (by omega)).sub fun b hb _ => by omega⟩⟩
 ·have F0 : (aK t != 0) = true := by simpa using he
  have sg : w2.cell? ⟨w.heap.size + 1, 0, none⟩ = some (.slice none 0 0) := by simp [World.cell?, iz]
  have jg : w2.cell? ⟨w.heap.size + 1, 1, none⟩ = some (.slice none 0 0) := by simp [World.cell?, iz]
  have uQ : w2.frozen? ⟨w.heap.size + 1, 0, none⟩ = false := by simp [World.frozen?, iz]
  have mB : w2.frozen? ⟨w.heap.size + 1, 1, none⟩ = false := by simp [World.frozen?, iz]
  have cu := ag (fD (w := w) (p := .slice none 0 0) (q := .slice none 0 0) iz (by omega) cM.out)
  have HE := ag he
  clear he iz hc0 hc1
  generalize aK t = te at F0 ⊢
  aa fail
  obtain ⟨s1, s2, s3, s4⟩ := cu.out
  refine ⟨rfl, .tuple #[.agg #[.slice none 0 0, .slice none 0 0], .int .i64 1], by simp [results, Tryz.results91, go_sem, s2, s3], ?_⟩
  exact ⟨s1, .inl ⟨HE.out, rfl⟩⟩
end
section
open Go.RowKit Go.Deep
end
section
deriving instance DecidableEq for aJ
def insB (f : Nat → ByteArray) (a : Nat) : List Nat → List Nat
 | [] => [a]
 | b :: l => if nI f a b then a :: b :: l else b :: insB f a l
def qH (f : Nat → ByteArray) : List Nat → List Nat
 | [] => []
 | a :: l => insB f a (qH f l)
theorem Bs (f : Nat → ByteArray) (a : Nat) (l₂ : List Nat) (h2 : ∀ b ∈ l₂, nI f a b = true) : ∀ l₁ : List Nat, (∀ b ∈ l₁, nI f a b = false) → insB f a (l₁ ++ l₂) = l₁ ++ a :: l₂
 | [], _ => by
  cases l₂ with
  | nil => rfl
  | cons b l => simp only [List.nil_append, insB]; rw [if_pos (h2 b (by simp))]
 | b :: l₁, h1 => by
  simp only [List.cons_append, insB]
  rw [if_neg (by rw [h1 b (by simp)]; decide), Bs f a l₂ h2 l₁ fun c hc => h1 c (by simp [hc])]
theorem sj (f : Nat → ByteArray) : ∀ l, di f l = qH f l
 | [] => by unfold di; simp [qH]
 | a :: l => by
  have ih := sj f l
  obtain ⟨l₁, l₂, h1, h2, h3⟩ := List.mergeSort_cons (Dy f) (Dz f) a l
  have hs := rY f (a :: l)
  unfold di at hs ih ⊢
  rw [h1] at hs ⊢
  show _ = insB f a (qH f l)
  rw [← ih, h2]
  refine (Bs f a l₂ (fun b hb => ?_) l₁ fun b hb => by simpa using h3 b hb).symm
  have h4 := (List.pairwise_append.1 hs).2.1
  exact (List.pairwise_cons.1 h4).1 b hb
def L9 (F : bA) : Nat → Nat → ByteArray
 | 0, i => F.nm i
 | d + 1, i => match qH (L9 F d) (F.kids i) with | [] => F.nm i | k :: _ => L9 F d k
theorem OB (F : bA) : ∀ d, lsD F d = L9 F d
 | 0 => rfl
 | d + 1 => by
  funext i
  show (match di (lsD F d) (F.kids i) with | [] => F.nm i | k :: _ => lsD F d k) = _
  rw [OB F d, sj]; rfl
def RC (F : bA) (rk : Nat → Nat) (i : Nat) : ByteArray := L9 F (rk i) i
theorem VB (F : bA) (rk : Nat → Nat) : ga F rk = RC F rk := by
 funext i; unfold ga RC; rw [OB]
def Ma (t : aJ) : bA := { dr t with kids := fun i => if cG (dr t) (cI t) 0 i then qH (RC (dr t) (cI t)) ((dr t).kids i) else (dr t).kids i }
theorem RD (t : aJ) : jy t = Ma t := by
 unfold jy bA.iK Ma
 rw [VB]
 congr 1
 funext i
 show (if (false || cG (dr t) (cI t) 0 i) = true then _ else _) = _
 rw [Bool.false_or]
 split
 ·rw [sj]
 ·rfl
theorem RE (t : aJ) : iy t = gp (Ma t) (cI t) 0 := by unfold iy; rw [RD]
end
section
open Go.RowKit Go.Deep
def Xb (w : World) (l : List Nat) (e : Ending) (w' : World) : Prop := Below w.heap.size w w' ∧ ∃ v, e = .returned v ∧ an (fun b => w.heap.size ≤ b) w' v (e9 l)
set_option maxHeartbeats 800000 in
theorem Kf (S : Nat → Prop) (w : World) (v : Value) (t : aJ) (n : Nat) (h : aO S w v t) (hp : t.ps.length ≤ 1000000) (hn : n < t.ps.length) :
  Calls Tryz.prog 132 #[v, .int .i64 n] w (Xb w (bO t.ps n)) := by
 obtain ⟨P, N, rfl, hP, hN⟩ := h
 have hb0 : Below w.heap.size w (w.alloc (.cells #[P, N] 39)) := (Below.refl _ _).alloc (Nat.le_refl _) _
 have wL := hP.keep (Kept.below hb0)
 have rT : (w.alloc (.cells #[P, N] 39)).cell? ⟨w.heap.size, 0, none⟩ = some P := by simp [World.cell?_alloc_new]
 obtain ⟨ps, ns⟩ := t
 simp only at *
 obtain ⟨p, cap, rfl, hcap, HP⟩ := aC.open wL
 have hsz : (w.alloc (.cells #[.slice p ps.length cap, N] 39)).heap.size = w.heap.size + 1 := by simp
 have HS := ag hsz
 have gN := ag hb0
 have uG := ag rT
 have zD := ag HP
 clear HP wL hP hN hb0 rT hsz
 aq Tryz.func132, Tryz.ntmps132
 aa fail
 generalize hw0 : w.alloc (.cells #[.slice p ps.length cap, N] 39) = w0 at *
 clear hw0
 aV [5, 6] (fun v i wr => ∃ k : Nat, n + 1 ≤ k ∧ k ≤ ps.length ∧ i = .int .i64 k ∧ ay (w.heap.size + 1) 3 wr v ((e9 (cA ps n k)).map (Value.int .i64)) ∧ Below (w.heap.size + 1) w0 wr) (fun _ i _ => ps.length - (intOf i).toNat)
 case atStart => exact ⟨n + 1, Nat.le_refl _, by omega, by aH, by rw [Js]; exact ay.nil _ _ _, Below.refl _ _⟩
 case round =>
  obtain ⟨k, iE, hk, rfl, hown, jG⟩ := bE
  have rT : wr.cell? ⟨w.heap.size, 0, none⟩ = some (.slice p ps.length cap) := (jG.cell (p := ⟨w.heap.size, 0, none⟩) (by simp)).trans uG.out
  by_cases hlt : k < ps.length
  ·obtain ⟨b, off, rfl, hc0⟩ := zD.out k hlt
   have hc : wr.cell? ⟨b, off + k, none⟩ = some (.int .i64 (gi ps k)) := by
    rw [jG.cell (p := ⟨b, off + k, none⟩) (by have := World.block_lt_of_cell? _ _ hc0; have := HS.out; simp at *; omega)]; exact hc0
   have hsz : w.heap.size + 1 ≤ wr.heap.size := by have := jG.size; have := HS.out; omega
   have Bh := lW ps n k
   have Dv := ag Bh
   have dW : Hid (((e9 (cA ps n k)).map (Value.int .i64)).length ≤ 1000000) := by
    have := qi ps n k
    unfold Hid e9; rw [List.length_map, List.length_map]; omega
   clear hc0 Bh zD
   generalize Ds : gi ps k = x at *
   clear Ds
   by_cases hx : x = n
   ·have hx1 : (x == (n : Int)) = true := by simp [hx]
    have HX : Hid (n < k ∧ x = n) := ⟨by omega, hx⟩
    clear hx
    aa (bR; refine mM wr rfl _ _ 26 rfl (w.heap.size + 1) 3 _ 8 Tryz.underlying26 Tryz.gH rfl (by decide) hown rfl _ rfl rfl dW.out hsz ?_; intro g cap w2 eF hg1 cB)
    aF
    case rel => exact ⟨k + 1, by omega, by omega, by aH, by rw [Dv.out, if_pos HX.out, E7, List.map_append]; rw [List.length_map] at eF; exact eF, jG.trans cB⟩
    case measure => simp [intOf]; omega
   ·have hx1 : (x == (n : Int)) = false := by simpa using hx
    have HX : Hid ¬ (n < k ∧ x = n) := fun h => hx h.2
    clear hx
    aa fail
    aF
    case rel => exact ⟨k + 1, by omega, by omega, by aH, by rw [Dv.out, if_neg HX.out, List.append_nil]; exact hown, jG⟩
    case measure => simp [intOf]; omega
  ·obtain rfl : k = ps.length := by omega
   clear hlt hk
   aa fail
   ax
   exact ⟨gN.out.trans (jG.mono (by omega)), _, rfl, hown.ints.sub fun b hb _ => by omega⟩
end
section
open Go.RowKit Go.Deep
end
end Go.Proofs.YtpnmblnahjjmhaaGreat
