/- The plain law of forests in which no node has two parents and no two leaves one name: .. -/
import Derived.Test.YteegefnjnikngaaGreatQ1
import Derived.Test.YteegefnjnikngaaGreatQ15
import Derived.Test.YteegefnjnikngaaGreatQ12
import Derived.Test.YteegefnjnikngaaGreatQ8
import Derived.Test.YteegefnjnikngaaGreatQ9
import Derived.Test.YteegefnjnikngaaGreatQ16
import Derived.Deep.CutRange
import Derived.Test.YteegefnjnikngaaGreatQ14
import Derived.Deep.RegionHeld3
set_option maxRecDepth 100000
namespace Go.Proofs.YteegefnjnikngaaGreat
section
theorem aN {F : aP} {n : Nat} {rk : Nat → Nat} (h : Wf F n rk) {i : Nat} (hi : i < n) : aM F rk i i = true := by rw [fh h hi]; simp
theorem bz {F : aP} {n : Nat} {rk : Nat → Nat} (h : Wf F n rk) {i k j : Nat} (hi : i < n) (hk : k ∈ F.kids i) (hj : aM F rk k j = true) : aM F rk i j = true := by
 rw [fh h hi, Bool.or_eq_true]; exact .inr (List.any_eq_true.2 ⟨k, hk, hj⟩)
theorem fE {F : aP} {n : Nat} {rk : Nat → Nat} (h : Wf F n rk) {i j : Nat} (hi : i < n) (hj : aM F rk i j = true) : j = i ∨ ∃ k ∈ F.kids i, aM F rk k j = true := by
 rw [fh h hi, Bool.or_eq_true] at hj
 rcases hj with h1 | h1
 ·exact .inl (by simpa using h1)
 ·obtain ⟨k, hk, h2⟩ := List.any_eq_true.1 h1
  exact .inr ⟨k, hk, h2⟩
theorem iM {F : aP} {n : Nat} {rk : Nat → Nat} (h : Wf F n rk) : ∀ {d i j : Nat}, i < n → rk i ≤ d → aM F rk i j = true → j < n := by
 intro d
 induction d with
 | zero =>
  intro i j hi hd hj
  rcases fE h hi hj with rfl | ⟨k, hk, h1⟩
  ·exact hi
  ·have := (h.kid i hi k hk).2; omega
 | succ d ih =>
  intro i j hi hd hj
  rcases fE h hi hj with rfl | ⟨k, hk, h1⟩
  ·exact hi
  ·have := h.kid i hi k hk
   exact ih this.1 (by omega) h1
structure oK (F : aP) (n : Nat) (rk : Nat → Nat) : Prop where
 wf : Wf F n rk
 one : ∀ p q k, p < n → q < n → k ∈ F.kids p → k ∈ F.kids q → p = q
 nodup : ∀ i, i < n → (F.kids i).Nodup
 names : ∀ a b, a < n → b < n → F.kids a = [] → F.kids b = [] → F.nm a = F.nm b → a = b
section
variable {F : aP} {n : Nat} {rk : Nat → Nat}
theorem rD (h : Wf F n rk) : ∀ {d x j : Nat}, x < n → rk x ≤ d → aM F rk x j = true → j ≠ x → ∃ p, p < n ∧ j ∈ F.kids p ∧ aM F rk x p = true := by
 intro d
 induction d with
 | zero =>
  intro x j hx hd hj hne
  rcases fE h hx hj with e | ⟨k, hk, h1⟩
  ·exact absurd e hne
  ·have := (h.kid x hx k hk).2; omega
 | succ d ih =>
  intro x j hx hd hj hne
  rcases fE h hx hj with e | ⟨k, hk, h1⟩
  ·exact absurd e hne
  ·have hkk := h.kid x hx k hk
   by_cases e : j = k
   ·exact ⟨x, hx, by rw [e]; exact hk, aN h hx⟩
   ·obtain ⟨p, hp, h2, h3⟩ := ih hkk.1 (by omega) h1 e
    exact ⟨p, hp, h2, bz h hx hk h3⟩
theorem Pu (h : oK F n rk) {R : Nat} (hR : ∀ i, i < n → rk i ≤ R) : ∀ {m j x y : Nat}, R - rk j ≤ m → j < n → x < n → y < n → aM F rk x j = true → aM F rk y j = true → aM F rk x y = true ∨ aM F rk y x = true := by
 intro m
 induction m with
 | zero =>
  intro j x y hm hj hx hy h1 h2
  by_cases e1 : j = x
  ·subst e1; exact .inr h2
  ·obtain ⟨p, hp, hk, _⟩ := rD h.wf hx (Nat.le_refl _) h1 e1
   have := (h.wf.kid p hp j hk).2
   have := hR p hp
   omega
 | succ m ih =>
  intro j x y hm hj hx hy h1 h2
  by_cases e1 : j = x
  ·subst e1; exact .inr h2
  ·by_cases e2 : j = y
   ·subst e2; exact .inl h1
   ·obtain ⟨p, hp, hk, h3⟩ := rD h.wf hx (Nat.le_refl _) h1 e1
    obtain ⟨q, hq, hk2, h4⟩ := rD h.wf hy (Nat.le_refl _) h2 e2
    obtain rfl := h.one p q j hp hq hk hk2
    have h5 := (h.wf.kid p hp j hk).2
    have h6 := hR p hp
    exact ih (by omega) hp hx hy h3 h4
theorem wF (h : oK F n rk) {R : Nat} (hR : ∀ i, i < n → rk i ≤ R) {i x y j : Nat} (hi : i < n) (hx : x ∈ F.kids i) (hy : y ∈ F.kids i) (h1 : aM F rk x j = true) (h2 : aM F rk y j = true) : x = y := by
 have mC := h.wf.kid i hi x hx
 have EL := h.wf.kid i hi y hy
 have hj := iM h.wf mC.1 (Nat.le_refl _) h1
 have key : ∀ {a b : Nat}, a ∈ F.kids i → b ∈ F.kids i → a < n → rk a < rk i → aM F rk a b = true → a = b := fun {a b} ha hb Pw har hab => by
  by_cases e : b = a
  ·exact e.symm
  ·obtain ⟨p, hp, hk, h3⟩ := rD h.wf Pw (Nat.le_refl _) hab e
   obtain rfl := h.one p i b hp hi hk hb
   have := nE h.wf Pw h3; omega
 rcases Pu h hR (Nat.le_refl _) hj mC.1 EL.1 h1 h2 with h3 | h3
 ·exact key hx hy mC.1 mC.2 h3
 ·exact (key hy hx EL.1 EL.2 h3).symm
theorem Lf (h : Wf F n rk) : ∀ {d i : Nat}, i < n → rk i ≤ d → ∃ j, j < n ∧ aM F rk i j = true ∧ F.kids j = [] ∧ fD F rk i = F.nm j := by
 intro d
 induction d with
 | zero =>
  intro i hi hd
  have hk : F.kids i = [] := by
   cases hk : F.kids i with
   | nil => rfl
   | cons k l => have := (h.kid i hi k (by rw [hk]; simp)).2; omega
  exact ⟨i, hi, aN h hi, hk, by rw [sJ h hi, hk]; simp [cH]⟩
 | succ d ih =>
  intro i hi hd
  by_cases hk : F.kids i = []
  ·exact ⟨i, hi, aN h hi, hk, by rw [sJ h hi, hk]; simp [cH]⟩
  ·obtain ⟨k, l, hs⟩ : ∃ k l, cH (fD F rk) (F.kids i) = k :: l := by
    cases hs : cH (fD F rk) (F.kids i) with
    | nil => have h1 := (eu (fD F rk) (F.kids i)).length_eq; rw [hs] at h1; exact absurd (List.length_eq_zero_iff.1 h1.symm) hk
    | cons k l => exact ⟨k, l, rfl⟩
   have hki : k ∈ F.kids i := (eu (fD F rk) _).mem_iff.1 (by rw [hs]; simp)
   have hkk := h.kid i hi k hki
   obtain ⟨j, hj, h1, h2, h3⟩ := ih hkk.1 (by omega)
   exact ⟨j, hj, bz h hi hki h1, h2, by rw [sJ h hi, hs]; exact h3⟩
theorem oK.Sq (h : oK F n rk) (hl : ∀ i, i < n → (F.kids i).length ≤ 1000) {R : Nat} (hR : ∀ i, i < n → rk i ≤ R) : wA F n rk := by
 refine ⟨h.wf, fun i hi x hx y hy e => ?_, h.nodup, hl⟩
 have mC := h.wf.kid i hi x hx
 have EL := h.wf.kid i hi y hy
 obtain ⟨a, ha, h1, h2, h3⟩ := Lf h.wf mC.1 (Nat.le_refl _)
 obtain ⟨b, hb, h4, h5, h6⟩ := Lf h.wf EL.1 (Nat.le_refl _)
 rw [h3, h6] at e
 obtain rfl := h.names a b ha hb h2 h5 e
 exact wF h hR hi hx hy h1 h4
def bF (F : aP) (rk : Nat → Nat) (i : Nat) : List Nat := (dR F rk i none).map (·.1)
theorem Lg (h : Wf F n rk) : ∀ {d i : Nat} (p q : Option Nat), i < n → rk i ≤ d → (dR F rk i p).map (·.1) = (dR F rk i q).map (·.1) := by
 intro d
 cases d with
 | zero => intro i p q hi hd; rw [gD h hi, gD h hi]; rfl
 | succ d => intro i p q hi hd; rw [gD h hi, gD h hi]; rfl
theorem cw (h : Wf F n rk) {i : Nat} (hi : i < n) : bF F rk i = i :: (F.kids i).flatMap fun k => bF F rk k := by
 unfold bF
 rw [gD h hi, List.map_cons, List.map_flatMap]
 congr 1
 exact ic fun k hk => Lg h _ _ (h.kid i hi k hk).1 (Nat.le_refl _)
theorem bX (h : Wf F n rk) : ∀ {d i j : Nat}, i < n → rk i ≤ d → (j ∈ bF F rk i ↔ aM F rk i j = true) := by
 intro d
 induction d with
 | zero =>
  intro i j hi hd
  rw [cw h hi, fh h hi]
  have hk : F.kids i = [] := by
   cases hk : F.kids i with
   | nil => rfl
   | cons k l => have := (h.kid i hi k (by rw [hk]; simp)).2; omega
  simp [hk]
 | succ d ih =>
  intro i j hi hd
  rw [cw h hi, fh h hi]
  simp only [List.mem_cons, List.mem_flatMap, Bool.or_eq_true, beq_iff_eq, List.any_eq_true]
  constructor
  ·rintro (e | ⟨k, hk, h1⟩)
   ·exact .inl e
   ·have := h.kid i hi k hk
    exact .inr ⟨k, hk, (ih this.1 (by omega)).1 h1⟩
  ·rintro (e | ⟨k, hk, h1⟩)
   ·exact .inl e
   ·have := h.kid i hi k hk
    exact .inr ⟨k, hk, (ih this.1 (by omega)).2 h1⟩
theorem iy (h : oK F n rk) {R : Nat} (hR : ∀ i, i < n → rk i ≤ R) : ∀ {d i : Nat}, i < n → rk i ≤ d → (bF F rk i).Nodup := by
 intro d
 induction d with
 | zero =>
  intro i hi hd
  rw [cw h.wf hi]
  have hk : F.kids i = [] := by
   cases hk : F.kids i with
   | nil => rfl
   | cons k l => have := (h.wf.kid i hi k (by rw [hk]; simp)).2; omega
  simp [hk]
 | succ d ih =>
  intro i hi hd
  rw [cw h.wf hi, List.nodup_cons]
  refine ⟨fun hm => ?_, ?_⟩
  ·obtain ⟨k, hk, h1⟩ := List.mem_flatMap.1 hm
   have hkk := h.wf.kid i hi k hk
   have := nE h.wf hkk.1 ((bX h.wf hkk.1 (Nat.le_refl _)).1 h1); omega
  ·have hsub : ∀ l : List Nat, l.Nodup → (∀ k ∈ l, k ∈ F.kids i) → (l.flatMap fun k => bF F rk k).Nodup := by
    intro l
    induction l with
    | nil => intro _ _; simp
    | cons x l ihl =>
     intro hn hin
     obtain ⟨hx, hl⟩ := List.nodup_cons.1 hn
     have hxx := h.wf.kid i hi x (hin x (by simp))
     rw [List.flatMap_cons, List.nodup_append]
     refine ⟨ih hxx.1 (by omega), ihl hl (fun k hk => hin k (by simp [hk])), fun a ha b hb e => ?_⟩
     subst e
     obtain ⟨y, hy, h2⟩ := List.mem_flatMap.1 hb
     have hyy := h.wf.kid i hi y (hin y (by simp [hy]))
     have := wF h hR hi (hin x (by simp)) (hin y (by simp [hy])) ((bX h.wf hxx.1 (Nat.le_refl _)).1 ha) ((bX h.wf hyy.1 (Nat.le_refl _)).1 h2)
     subst this; exact hx hy
   exact hsub _ (h.nodup i hi) (fun k hk => hk)
theorem mQ {l : List Nat} {n : Nat} (h : l.Nodup) (hl : ∀ x ∈ l, x < n) : l.length ≤ n := by
 have h1 : l ⊆ List.range n := fun x hx => List.mem_range.2 (hl x hx)
 have := h.length_le_of_subset h1
 simpa using this
theorem Wc (h : oK F n rk) {R : Nat} (hR : ∀ i, i < n → rk i ≤ R) {i : Nat} (hi : i < n) (p : Option Nat) : (dR F rk i p).length ≤ n := by
 have h1 : (dR F rk i p).length = (bF F rk i).length := by
  have := congrArg List.length (Lg h.wf p none hi (Nat.le_refl _))
  simpa [bF] using this
 rw [h1]
 exact mQ (iy h hR hi (Nat.le_refl _)) (fun x hx => iM h.wf hi (Nat.le_refl _) ((bX h.wf hi (Nat.le_refl _)).1 hx))
theorem oK.fU (h : oK F n rk) (p : Nat → Bool) : oK (F.fU rk p) n rk :=
 ⟨⟨fun i hi k hk => h.wf.kid i hi k ((F.gI rk p i).mem_iff.1 hk)⟩, fun a b k ha hb h1 h2 => h.one a b k ha hb ((F.gI rk p a).mem_iff.1 h1) ((F.gI rk p b).mem_iff.1 h2), fun i hi => (F.gI rk p i).symm.nodup_iff.1 (h.nodup i hi),
  fun a b ha hb h1 h2 e => h.names a b ha hb (List.perm_nil.1 (by rw [← h1]; exact (F.gI rk p a).symm)) (List.perm_nil.1 (by rw [← h2]; exact (F.gI rk p b).symm)) e⟩
end
def bY (t : ax) (i : Nat) : Nat := t.ps.length - i
theorem gJ (t : ax) (i : Nat) : (dy t).kids i = aQ t.ps i := rfl
theorem cK {t : ax} (h : az t = 0) : oK (dy t) t.ps.length (bY t) := by
 obtain ⟨hp, _, hn, hok, he⟩ := aH h
 refine ⟨⟨fun i hi k hk => ?_⟩, fun p q k _ _ h1 h2 => ?_, fun i _ => ?_, fun a b ha hb h1 h2 e => ?_⟩
 ·obtain ⟨h1, h2, _⟩ := bf.1 hk
  exact ⟨h1, by unfold bY; omega⟩
 ·obtain ⟨_, _, h3⟩ := bf.1 h1
  obtain ⟨_, _, h4⟩ := bf.1 h2
  omega
 ·exact List.Pairwise.filter _ List.nodup_range
 ·have leaf : ∀ i, i < t.ps.length → aQ t.ps i = [] → isIn t.ps i = false := fun i hi hk => by
   cases hin : isIn t.ps i with
   | false => rfl
   | true => exact absurd hk ((kY hok i).2 hin)
  have e : gs t.ns a = gs t.ns b := e
  rcases Nat.lt_trichotomy a b with hab | hab | hab
  ·have h3 := (vW h hb (leaf b hb h2)).2
   have := any_false h3 hab
   simp [e] at this
  ·exact hab
  ·have h3 := (vW h ha (leaf a ha h1)).2
   have := any_false h3 hab
   simp [e] at this
theorem vh (t : ax) (i : Nat) : bY t i ≤ t.ps.length := Nat.sub_le _ _
end
section
open Go.RowKit Go.Shelf Go.Deep
end
section
open Go.RowKit Go.Deep
end
section
open Go.RowKit Go.Deep
def Hw (w wr : World) (g0 N k : Nat) : Prop := Up w wr ∧ ∃ f, wr.rowIs g0 26 N f ∧ ∀ i, i < k → aB (fun b => b ≠ g0) wr (f i) (lJ N i)
theorem Hx {N k j : Nat} (hj : j < N) : (if j = k then Value.int .i64 0 else if j < N then .int .i64 1 else .int .i64 0) = .int .i64 (gi (lJ N k) j) := by
 rw [BJ hj]
 unfold Gk
 by_cases h : j = k
 ·rw [if_pos h, if_pos h.symm]
 ·rw [if_neg h, if_pos hj, if_neg (fun e => h e.symm)]
theorem Hw.step {w wr w8 : World} {g0 g N k : Nat} (h : Hw w wr g0 N k) (hk : k < N) (hu : Up wr w8) (hg : wr.heap.size ≤ g) (hr : w8.heap[g]? = some (.cells (eU N N).toArray 3 (0, 0))) (hw0 : w.heap.size ≤ g0) :
  Hw w ((w8.setCell ⟨g0, k, none⟩ (.slice (some ⟨g, 0, none⟩) N N)).setCell ⟨g, k, none⟩ (.int .i64 0)) g0 N (k + 1) := by
 obtain ⟨eC, f, hrow, hin⟩ := h
 have hg0 := hrow.lt
 have hne : g0 ≠ g := by omega
 have B8 : w8.rowIs g0 26 N f := hrow.of_block (Below.block hu g0 hg0)
 have hrow9 := (B8.set k (.slice (some ⟨g, 0, none⟩) N N)).setOther (a := ⟨g, k, none⟩) hne (.int .i64 0)
 have hwg : w.heap.size ≤ g := Nat.le_trans eC.size hg
 refine ⟨((eC.trans hu).setCell (p := ⟨g0, k, none⟩) hw0 _).setCell (p := ⟨g, k, none⟩) hwg _, _, hrow9, fun i hi => ?_⟩
 by_cases hik : i = k
 ·subst hik
  simp only [if_true]
  refine ⟨_, _, by rw [uz], by rw [uz]; exact Nat.le_refl _, .inr ⟨g, 0, rfl, fun e => hne e.symm, fun j hj => ?_⟩⟩
  rw [uz] at hj
  show _ = some (Value.int .i64 (gi (lJ N i) j))
  rw [Nat.zero_add, ← Hx hj]
  have hb : (w8.setCell ⟨g0, i, none⟩ (.slice (some ⟨g, 0, none⟩) N N)).cell? ⟨g, j, none⟩ = some (if j < N then .int .i64 1 else .int .i64 0) := by
   rw [uX (by simpa using hne)]; exact tP hr hj
  have hb2 : (w8.setCell ⟨g0, i, none⟩ (.slice (some ⟨g, 0, none⟩) N N)).cell? ⟨g, i, none⟩ = some (if i < N then .int .i64 1 else .int .i64 0) := by
   rw [uX (by simpa using hne)]; exact tP hr hk
  by_cases e : j = i
  ·subst e; rw [if_pos rfl]; exact FR ⟨_, hb⟩
  ·rw [if_neg e]
   exact (World.cell?_setCell_other _ ⟨g, i, none⟩ ⟨g, j, none⟩ _ (fun h => e (by injection h with _ h2; exact h2.symm))).trans hb
 ·simp only [hik, if_false]
  refine aB.keep (hin i (by omega)) (w := wr) fun b hb hl => ?_
  have h1 : w8.heap[b]? = wr.heap[b]? := Below.block hu b hl
  rw [← h1]
  exact (blk_setCell_other _ _ _ _ (by simp; omega)).trans (blk_setCell_other _ _ _ _ (by simpa using hb))
set_option maxHeartbeats 1000000 in
theorem Y4 (w : World) (N : Nat) (K4 : 1 ≤ N) (hN : N ≤ 16) : Calls Tryz.prog 184 #[.int .i64 N] w (BV w (bU N)) := by
 have hmk := fun W => run_make_row' (P := Tryz.prog) 23 26 (.slice none 0 0) 24 Tryz.underlying23 Tryz.OJ rfl .i64 .i64 N (by omega) (by omega) W
 have HO : Hid (Hw w (w.alloc (.cells (madeCells #[.slice none 0 0] N) 26)) w.heap.size N 0) := ⟨Up.alloc _ _, _, World.rowIs_made w (.slice none 0 0) N 26, fun _ hi => absurd hi (Nat.not_lt_zero _)⟩
 go_enter Tryz.func184, Tryz.ntmps184
 go_wp2_with fail
 generalize w.alloc (.cells (madeCells #[.slice none 0 0] N) 26) = w1 at *
 go_loopw [9] (fun i wr => ∃ k : Nat, k ≤ N ∧ i = .int .i64 k ∧ Hid (Hw w wr w.heap.size N k)) (fun i _ => N - (intOf i).toNat)
 case atStart => exact ⟨0, Nat.zero_le _, rfl, HO⟩
 case round =>
  obtain ⟨k, hk, rfl, hO⟩ := hrel
  obtain ⟨wo, rfl⟩ : ∃ wo : World, wo = wr := ⟨_, rfl⟩
  by_cases hlt : k < N
  ·obtain ⟨eC, f, hrow, _⟩ := hO.out
   have hg0 := hrow.lt
   have Dn := aa hrow
   have HRP := aa (GR (wo.alloc (.cells #[.int .i64 1] 3)) wo.heap.size 0 N K4 (by omega) (aT _ _ _ 0))
   clear eC hrow
   go_wp2_with fail
   refine HRP.out.mono ?_
   rintro e w8 ⟨g, rfl, hg, hu, hr⟩
   rw [World.size_alloc] at hg
   have qz : Up wo w8 := (Up.alloc _ _).trans hu
   have hst := hO.out.step hlt qz (by omega) hr (Nat.le_refl _)
   have B8 := Dn.out.of_block (Below.block qz _ hg0)
   have hcell : w8.cell? ⟨w.heap.size, k, none⟩ = some (f k) := B8.cell hlt
   have hfz : w8.frozen? ⟨w.heap.size, k, none⟩ = false := B8.frozen k
   have hcg : w8.cell? ⟨g, k, none⟩ = some (.int .i64 1) := by have h := tP hr hlt; rw [if_pos hlt] at h; exact h
   have hfg : w8.frozen? ⟨g, k, none⟩ = false := by simp [World.frozen?, hr]
   have hne : w.heap.size ≠ g := by omega
   have Di : g ≠ w.heap.size := by omega
   have HST := aa hst
   clear hst B8 hr hu qz Dn HRP hO
   go_wp2_with fail
   go_roundw
   case rel => exact ⟨k + 1, by omega, by go_num, HST⟩
   case measure => simp [intOf]; omega
  ·obtain rfl : k = N := by omega
   go_wp2_with fail
   go_ret
   obtain ⟨eC, f, hrow, hin⟩ := hO.out
   refine ⟨eC, .slice (some ⟨w.heap.size, 0, none⟩) k k, rfl, f, ⟨_, _, by rw [kZ], by rw [kZ]; exact Nat.le_refl _, .inr ⟨_, 0, rfl, trivial, fun i hi => ?_⟩⟩, fun i hi => ?_⟩
   ·rw [kZ] at hi
    rw [Nat.zero_add]; exact hrow.cell hi
   ·rw [kZ] at hi
    rw [Gl hi]; exact (hin i hi).sub fun _ _ _ => trivial
end
section
open Go.RowKit Go.Deep
def jW (t : ax) : aP := (dy t).fU (bY t) fun j => false || aM (dy t) (bY t) 0 j
def qT (t : ax) : ax := fO (jW t) (bY t) 0
theorem jE (t : ax) (i : Nat) : ((dy t).kids i).length ≤ t.ps.length := by rw [gJ]; exact qu _ _ _
theorem Hy {t : ax} (h : az t = 0) : oK (jW t) t.ps.length (bY t) := (cK h).fU _
theorem FV (t : ax) (i : Nat) : ((jW t).kids i).length ≤ t.ps.length := by
 have h := ((dy t).gI (bY t) (fun j => false || aM (dy t) (bY t) 0 j) i).length_eq
 have h2 := jE t i
 unfold jW; omega
theorem fF {w : World} {P N : Value} {T : TypeId} : (w.alloc (.cells #[P, N] T)).heap[w.heap.size]? = some (.cells #[P, N] T (0, 0)) := World.alloc_heap_new _ _
set_option maxHeartbeats 2000000 in
theorem KC (S : Nat → Prop) (w : World) (v : Value) (t : ax) (hT : aC S w v t) (he : az t = 0) (hz : ∀ k, (gs t.ns k).size ≤ 70000) : Calls Tryz.prog 139 #[v] w (Po w (qT t)) := by
 obtain ⟨ni, AZ, hnl, hok, _⟩ := aH he
 obtain ⟨P, N, rfl, hP, hN⟩ := hT
 have hu := (Up.alloc w (.cells #[P, N] 39)).trans (Up.alloc _ (.cells #[.slice none 0 0, .slice none 0 0] 39))
 have kz : aC S ((w.alloc (.cells #[P, N] 39)).alloc (.cells #[.slice none 0 0, .slice none 0 0] 39)) (.agg #[P, N]) t := aC.keep ⟨P, N, rfl, hP, hN⟩ (hu.kept _)
 have HN := aa (V7 S _ _ t kz (by omega) hnl hok hz)
 have HU := aa hu
 have hc0 := (Up.alloc _ (.cells #[.slice none 0 0, .slice none 0 0] 39)).cell (ew w P N 39)
 have hc1 := (Up.alloc _ (.cells #[.slice none 0 0, .slice none 0 0] 39)).cell (ey w P N 39)
 have hrb := fF (w := w.alloc (.cells #[P, N] 39)) (P := .slice none 0 0) (N := .slice none 0 0) (T := 39)
 have hsz : ((w.alloc (.cells #[P, N] 39)).alloc (.cells #[.slice none 0 0, .slice none 0 0] 39)).heap.size = w.heap.size + 2 := by simp
 rw [World.size_alloc] at hrb
 have jA := aa hrb
 have bQ := aa hsz
 have OM := aa (cK he)
 have EM := aa (Hy he)
 clear hu kz hP hN hrb hsz hnl hok
 go_enter Tryz.func139, Tryz.ntmps139
 go_wp2_with fail
 generalize (w.alloc (.cells #[P, N] 39)).alloc (.cells #[.slice none 0 0, .slice none 0 0] 39) = w1 at *
 refine HN.out.mono ?_
 rintro e w2 ⟨aK, g, A, kv, rfl, hF, hrow⟩
 have kR := hrow.cell (i := 0) ni
 have Ac := aa hF
 have bH := aa aK
 have fu := aa ((Below.block aK (w.heap.size + 1) (by rw [bQ.out]; omega)).trans jA.out)
 have hs2 := aK.size
 simp only [aL] at kR
 have hpos : (0 : Int) < (t.ps.length : Int) := by omega
 clear aK hF hrow hc0 hc1 HN
 go_wp2_with fail
 have Hz : aS w1.heap.size t.ps.length A kv ((dy t).fU (bY t) fun _ => false) w2 := Ac.out.congr fun j _ => ⟨rfl, rfl, rfl⟩
 have q8 := aa (Hp (OM.out.Sq (fun i _ => by have := jE t i; omega) (fun i _ => vh t i)) (bY t 0) 0 (fun _ => false) w2 ni (Nat.le_refl _) Hz)
 clear kR
 refine q8.out.mono ?_
 rintro e w3 ⟨rfl, xB, hfu⟩
 have hb3 : Below w1.heap.size w2 w3 := hfu.below Hz hs2
 have Dx := aa ((hb3.block (w.heap.size + 1) (by rw [bQ.out]; omega)).trans fu.out)
 have dS : Hid (Up w1 w3) := Below.trans bH.out hb3
 have Ad := aa (Ht (F := jW t) (rk := bY t) EM.out.wf (fun i _ => by have := FV t i; omega) w3 0 ni xB (by have := Wc EM.out (fun i _ => vh t i) ni none; omega))
 clear xB hfu hb3 q8 Ac Hz fu bH
 go_wp2_with fail
 refine Ad.out.mono ?_
 rintro e w4 ⟨b9, _, rfl, P4, N4, rfl, dZ, en⟩
 obtain ⟨pp, pc, rfl, _, _⟩ := aD.open dZ
 obtain ⟨np, nc, rfl, _, _⟩ := aD.open en
 have jF := (Below.block b9 (w.heap.size + 1) (by have := dS.out.size; rw [bQ.out] at this; omega)).trans Dx.out
 have kN : w4.cell? ⟨w.heap.size + 1, 0, none⟩ = some (.slice none 0 0) := by simp [World.cell?, jF]
 have hr1 : w4.cell? ⟨w.heap.size + 1, 1, none⟩ = some (.slice none 0 0) := by simp [World.cell?, jF]
 have B7 : w4.frozen? ⟨w.heap.size + 1, 0, none⟩ = false := by simp [World.frozen?, jF]
 have vg : w4.frozen? ⟨w.heap.size + 1, 1, none⟩ = false := by simp [World.frozen?, jF]
 have EJ := aa dZ
 have Px := aa en
 have mD := aa b9
 have HRB4 := aa jF
 clear dZ en b9 jF Ad Dx
 go_wp2_with fail
 have b8 : ∀ b, b ≠ w.heap.size + 1 → ((w4.setCell ⟨w.heap.size + 1, 0, none⟩ (.slice pp (fO (jW t) (bY t) 0).ps.length pc)).setCell ⟨w.heap.size + 1, 1, none⟩ (.slice np (fO (jW t) (bY t) 0).ns.length nc)).heap[b]? = w4.heap[b]? := fun b hb => by rw [blk_setCell_other _ _ _ _ hb, blk_setCell_other _ _ _ _ hb]
 have hheap : ((w4.setCell ⟨w.heap.size + 1, 0, none⟩ (.slice pp (fO (jW t) (bY t) 0).ps.length pc)).setCell ⟨w.heap.size + 1, 1, none⟩ (.slice np (fO (jW t) (bY t) 0).ns.length nc)).heap[w.heap.size + 1]? = some (Obj.cells #[.slice pp (fO (jW t) (bY t) 0).ps.length pc, .slice np (fO (jW t) (bY t) 0).ns.length nc] 39 (0, 0)) := by
  simp [World.setCell, Array.getElem?_modify, HRB4.out]
 have b9 := HU.out.trans (dS.out.trans mD.out)
 have eX : Up w ((w4.setCell ⟨w.heap.size + 1, 0, none⟩ (.slice pp (fO (jW t) (bY t) 0).ps.length pc)).setCell ⟨w.heap.size + 1, 1, none⟩ (.slice np (fO (jW t) (bY t) 0).ns.length nc)) :=
  ⟨b9.os, b9.tape, b9.output, by simp [World.size_setCell]; exact b9.size, fun b hb => (b8 b (by omega)).trans (b9.block b hb)⟩
 have hs3 : w.heap.size + 2 ≤ w3.heap.size := by have := dS.out.size; rw [bQ.out] at this; exact this
 generalize (w4.setCell ⟨w.heap.size + 1, 0, none⟩ (.slice pp (fO (jW t) (bY t) 0).ps.length pc)).setCell ⟨w.heap.size + 1, 1, none⟩ (.slice np (fO (jW t) (bY t) 0).ns.length nc) = w5 at *
 have kN : w5.cell? ⟨w.heap.size + 1, 0, none⟩ = some (.slice pp (fO (jW t) (bY t) 0).ps.length pc) := by simp [World.cell?, hheap]
 have hr1 : w5.cell? ⟨w.heap.size + 1, 1, none⟩ = some (.slice np (fO (jW t) (bY t) 0).ns.length nc) := by simp [World.cell?, hheap]
 refine ⟨rfl, .agg #[.slice pp (fO (jW t) (bY t) 0).ps.length pc, .slice np (fO (jW t) (bY t) 0).ns.length nc], by simp [results, Tryz.results139, go_sem, kN, hr1], ?_⟩
 exact ⟨eX, _, rfl, _, _, rfl, (aB.keep EJ.out fun b hb _ => b8 b (by omega)).sub fun b hb _ => by omega, (av.keep Px.out fun b hb _ => b8 b (by omega)).sub fun b hb _ => by omega⟩
def Y5 (w : World) (t : ax) (e : Ending) (w' : World) : Prop :=
 Up w w' ∧ ((az t ≠ 0 ∧ e = .returned (.tuple #[.agg #[.slice none 0 0, .slice none 0 0], .int .i64 1])) ∨ (az t = 0 ∧ ∃ v, e = .returned (.tuple #[v, .int .i64 0]) ∧ aC (fun b => w.heap.size ≤ b) w' v (qT t)))
theorem dL {w w4 : World} {B : Nat} {x y p q : Value} {T : TypeId} (hb : w4.heap[B]? = some (Obj.cells #[x, y] T (0, 0))) (hB : w.heap.size ≤ B) (hu : Up w w4) :
  Up w ((w4.setCell ⟨B, 0, none⟩ p).setCell ⟨B, 1, none⟩ q) ∧ ((w4.setCell ⟨B, 0, none⟩ p).setCell ⟨B, 1, none⟩ q).cell? ⟨B, 0, none⟩ = some p ∧ ((w4.setCell ⟨B, 0, none⟩ p).setCell ⟨B, 1, none⟩ q).cell? ⟨B, 1, none⟩ = some q ∧
   ∀ b, b ≠ B → ((w4.setCell ⟨B, 0, none⟩ p).setCell ⟨B, 1, none⟩ q).heap[b]? = w4.heap[b]? := by
 have b8 : ∀ b, b ≠ B → ((w4.setCell ⟨B, 0, none⟩ p).setCell ⟨B, 1, none⟩ q).heap[b]? = w4.heap[b]? := fun b hb => by rw [blk_setCell_other _ _ _ _ hb, blk_setCell_other _ _ _ _ hb]
 have hheap : ((w4.setCell ⟨B, 0, none⟩ p).setCell ⟨B, 1, none⟩ q).heap[B]? = some (Obj.cells #[p, q] T (0, 0)) := by
  simp [World.setCell, Array.getElem?_modify, hb]
 exact ⟨⟨hu.os, hu.tape, hu.output, by simp [World.size_setCell]; exact hu.size, fun b hb => (b8 b (by omega)).trans (hu.block b hb)⟩, by simp [World.cell?, hheap], by simp [World.cell?, hheap], b8⟩
set_option maxHeartbeats 2000000 in
theorem H7 (S : Nat → Prop) (w : World) (v : Value) (t : ax) (hT : aC S w v t) (hp : t.ps.length ≤ 1000000) (hn : t.ns.length ≤ 1000000) (hz : ∀ k, (gs t.ns k).size ≤ 70000) : Calls Tryz.prog 80 #[v] w (Y5 w t) := by
 obtain ⟨P, N, rfl, hP, hN⟩ := hT
 have hu := (Up.alloc w (.cells #[P, N] 39)).trans (Up.alloc _ (.cells #[.slice none 0 0, .slice none 0 0] 39))
 have kz : aC S ((w.alloc (.cells #[P, N] 39)).alloc (.cells #[.slice none 0 0, .slice none 0 0] 39)) (.agg #[P, N]) t := aC.keep ⟨P, N, rfl, hP, hN⟩ (hu.kept _)
 have fA := aa (oV S _ _ t kz hp hn hz)
 have HT := aa kz
 have HU := aa hu
 have fB := aa ((Up.alloc _ (.cells #[.slice none 0 0, .slice none 0 0] 39)).cell (ew w P N 39))
 have jN := aa ((Up.alloc _ (.cells #[.slice none 0 0, .slice none 0 0] 39)).cell (ey w P N 39))
 have hc0 := fB.out
 have hc1 := jN.out
 have hrb := fF (w := w.alloc (.cells #[P, N] 39)) (P := .slice none 0 0) (N := .slice none 0 0) (T := 39)
 have hsz : ((w.alloc (.cells #[P, N] 39)).alloc (.cells #[.slice none 0 0, .slice none 0 0] 39)).heap.size = w.heap.size + 2 := by simp
 rw [World.size_alloc] at hrb
 have jA := aa hrb
 have bQ := aa hsz
 clear hu kz hP hN hrb hsz
 go_enter Tryz.func80, Tryz.ntmps80
 go_wp2_with fail
 generalize (w.alloc (.cells #[P, N] 39)).alloc (.cells #[.slice none 0 0, .slice none 0 0] 39) = w1 at *
 refine fA.out.mono ?_
 rintro e w2 ⟨rfl, hb2⟩
 have aK : Up w1 w2 := hb2
 have hc0 := aK.cell fB.out
 have hc1 := aK.cell jN.out
 have q9 := aa (HT.out.keep (aK.kept S))
 have jg := (Below.block aK (w.heap.size + 1) (by rw [bQ.out]; omega)).trans jA.out
 have bH := aa (HU.out.trans aK)
 have kB : Hid (w.heap.size + 2 ≤ w2.heap.size) := by unfold Hid; have := aK.size; rw [bQ.out] at this; exact this
 clear hb2 aK fA HT HU fB jN jA
 by_cases he : az t = 0
 ·have HE := aa he
  rw [he]
  have fu := aa jg
  have nu := aa (KC S w2 _ t q9.out he hz)
  clear jg he
  go_wp2_with fail
  refine nu.out.mono ?_
  rintro e w4 ⟨b9, _, rfl, P4, N4, rfl, dZ, en⟩
  obtain ⟨pp, pc, rfl, _, _⟩ := aD.open dZ
  obtain ⟨np, nc, rfl, _, _⟩ := aD.open en
  have jF := (Below.block b9 (w.heap.size + 1) (by have := kB.out; omega)).trans fu.out
  have kN : w4.cell? ⟨w.heap.size + 1, 0, none⟩ = some (.slice none 0 0) := by simp [World.cell?, jF]
  have hr1 : w4.cell? ⟨w.heap.size + 1, 1, none⟩ = some (.slice none 0 0) := by simp [World.cell?, jF]
  have B7 : w4.frozen? ⟨w.heap.size + 1, 0, none⟩ = false := by simp [World.frozen?, jF]
  have vg : w4.frozen? ⟨w.heap.size + 1, 1, none⟩ = false := by simp [World.frozen?, jF]
  have EJ := aa dZ
  have Px := aa en
  have HST := aa (dL (w := w) (p := .slice pp (qT t).ps.length pc) (q := .slice np (qT t).ns.length nc) jF (by omega) (bH.out.trans b9))
  clear dZ en b9 jF nu fu hc0 hc1
  go_wp2_with fail
  obtain ⟨s1, s2, s3, s4⟩ := HST.out
  have hs2 := kB.out
  refine ⟨rfl, .tuple #[.agg #[.slice pp (qT t).ps.length pc, .slice np (qT t).ns.length nc], .int .i64 0], by simp [results, Tryz.results80, go_sem, s2, s3], ?_⟩
  exact ⟨s1, .inr ⟨HE.out, _, rfl, _, _, rfl, (aB.keep EJ.out fun b hb _ => s4 b (by omega)).sub fun b hb _ => by omega, (av.keep Px.out fun b hb _ => s4 b (by omega)).sub fun b hb _ => by omega⟩⟩
 ·have Ae : (az t != 0) = true := by simpa using he
  have kN : w2.cell? ⟨w.heap.size + 1, 0, none⟩ = some (.slice none 0 0) := by simp [World.cell?, jg]
  have hr1 : w2.cell? ⟨w.heap.size + 1, 1, none⟩ = some (.slice none 0 0) := by simp [World.cell?, jg]
  have B7 : w2.frozen? ⟨w.heap.size + 1, 0, none⟩ = false := by simp [World.frozen?, jg]
  have vg : w2.frozen? ⟨w.heap.size + 1, 1, none⟩ = false := by simp [World.frozen?, jg]
  have HST := aa (dL (w := w) (p := .slice none 0 0) (q := .slice none 0 0) jg (by omega) bH.out)
  have HE := aa he
  clear he jg hc0 hc1
  generalize az t = te at Ae ⊢
  go_wp2_with fail
  obtain ⟨s1, s2, s3, s4⟩ := HST.out
  refine ⟨rfl, .tuple #[.agg #[.slice none 0 0, .slice none 0 0], .int .i64 1], by simp [results, Tryz.results80, go_sem, s2, s3], ?_⟩
  exact ⟨s1, .inl ⟨HE.out, rfl⟩⟩
end
section
open Go.RowKit Go.Deep
end
section
open Go.RowKit Go.Deep
section
variable {P : Program} {ops : Array Oper} {rest : List Oper} {o : Oper} {a : Act} {Q : Exit → Act → World → Prop}
end
end
section
open Go.RowKit Go.Deep
def Py (w : World) (t : ax) (st : List Int) (e : Ending) (w' : World) : Prop :=
 Up w w' ∧ e = .returned (.tuple #[.int .i64 (cE t st (bU 16)), .int .i64 (ig t st (bU 16))])
theorem mat16 : nS (bU 16) = 0 := by decide +kernel
theorem F3 : (bU 16).length = 16 := kZ 16
theorem par16 {t : ax} (h : az t = 0) (st : List Int) : ig t st (bU 16) = mN st (ay t.ns).length (-1) 16 := by
 unfold ig; rw [if_neg (fun e => e h), if_neg (fun e => e mat16), F3]; rfl
theorem Lh {t : ax} {st : List Int} {cs : List (List Int)} (h : ig t st cs ≠ 0) : cE t st cs = 0 := by unfold cE; rw [if_neg h]
theorem Sr (T : Nat → Prop) (w : World) (vr : Value) (row : List Int) (hR : aB T w vr row) (XG : row.length ≤ 1000) :
  Calls Tryz.prog 182 #[vr] w fun e w' => e = .returned (.tuple #[.int .i64 (bG (fun _ => 0) (gi row) row.length).1, .int .i64 (bG (fun _ => 0) (gi row) row.length).2]) ∧ w = w' := VY T w vr row hR XG
set_option maxHeartbeats 2000000 in
theorem Wh (S : Nat → Prop) (w : World) (v vs : Value) (t : ax) (st : List Int) (hT : aC S w v t) (hS : aB S w vs st) (hp : t.ps.length ≤ 1000000) (hn : t.ns.length ≤ 1000000) (hz : ∀ k, (gs t.ns k).size ≤ 70000) (hst : st.length ≤ 1000000) :
  Calls Tryz.prog 134 #[v, vs] w (Py w t st) := by
 obtain ⟨P, N, rfl, hP, hN⟩ := hT
 have hu := Up.alloc w (.cells #[P, N] 39)
 have kz : aC S (w.alloc (.cells #[P, N] 39)) (.agg #[P, N]) t := aC.keep ⟨P, N, rfl, hP, hN⟩ (hu.kept S)
 have HK := aa (vX S _ _ t kz hp hn hz)
 have HU := aa hu
 have jo := aa (ew w P N 39)
 have iq := aa (ey w P N 39)
 have HT := aa kz
 have HS := aa (aB.keep hS (hu.kept S))
 have Yk := aa hz
 clear hu kz hS hP hN hz
 go_enter Tryz.func134, Tryz.ntmps134
 go_wp2_with fail
 generalize w.alloc (.cells #[P, N] 39) = w1 at *
 refine HK.out.mono ?_
 rintro e w2 ⟨hb, ⟨he, rfl⟩ | ⟨he, vl, rfl, hl⟩⟩
 ·have bH := aa (HU.out.trans (show Up w1 w2 from hb))
  have HE := aa he
  clear hb he HK
  go_wp2_with fail
  go_ret2
  have hpe : ig t st (bU 16) = 1 := by unfold ig; rw [if_pos HE.out]
  exact ⟨bH.out, by rw [Lh (by rw [hpe]; decide), hpe]; rfl⟩
 ·have aK : Up w1 w2 := hb
  have hc0 := aK.cell jo.out
  have hc1 := aK.cell iq.out
  have bH := aa (HU.out.trans aK)
  have q9 := aa (HT.out.keep (aK.kept S))
  have kB := aa (aB.keep HS.out (aK.kept S))
  obtain ⟨ql, capl, rfl, _, _⟩ := aD.open hl
  have HE := aa he
  have HKN := aa (VX S w2 vs st (ay t.ns).length (-1) 16 kB.out hst)
  have yC := aa (par16 he st)
  clear hb he HK aK hl HU jo iq HT HS
  go_wp2_with fail
  refine HKN.out.mono ?_
  rintro e w3 ⟨rfl, hb3⟩
  have cF : Up w2 w3 := hb3
  have hc0 := cF.cell hc0
  have hc1 := cF.cell hc1
  have dS := aa (bH.out.trans cF)
  have Pz := aa (q9.out.keep (cF.kept S))
  have EN := aa (aB.keep kB.out (cF.kept S))
  clear hb3 cF HKN
  rw [← yC.out]
  by_cases hpe : ig t st (bU 16) = 0
  ·rw [hpe]
   have hv := Gh hpe
   have HF : Hid (cE t st (bU 16) = (bG (fun _ => 0) (gi (aV t st (bU 16) 0)) (bU 16).length).1) := by unfold Hid cE; rw [if_pos hpe]
   have HP := aa hpe
   have ye : Hid (∀ W vc, Up w3 W → bh Any W vc (bU 16) → Calls Tryz.prog 183 #[.agg #[P, N], vs, vc] W (Lc W t st (bU 16))) := fun W vc hW hR =>
    (V1 Any W _ _ _ t st (bU 16) ((Pz.out.keep (hW.kept _)).sub fun _ _ _ => trivial) (aB.sub (aB.keep EN.out (hW.kept _)) fun _ _ _ => trivial) hR Yk.out hv).mono fun _ _ h => tb1 hv h
   have hml : (aV t st (bU 16) 0).length ≤ 1000 := by rw [gj, F3]; omega
   have hpos0 : (0 : Int) < (t.ps.length : Int) := by have := (aH HE.out).1; omega
   have vk := aa hml
   have HW3 := aa (Up.refl w3)
   have eC : Hid (Up w3 (w3.drewN 1)) := Up.drewN w3 1
   clear hpe hv hml
   go_wp2_with fail
   go_region_with (first
    | (go_at_call 184; refine (Y4 _ 16 (by decide) (by decide)).mono ?_; rintro e w5 ⟨l5, vc, rfl, EO⟩; have hR5 := aa EO; have hc0 := (eC.out.trans (show Up _ w5 from l5)).cell hc0; have hc1 := (eC.out.trans (show Up _ w5 from l5)).cell hc1; have eC : Hid (Up w3 w5) := eC.out.trans (show Up _ w5 from l5); clear l5 EO)
    | (go_at_call 183; refine (ye.out _ _ eC.out hR5.out).mono ?_; rintro e w6 ⟨tb, YN, YO, rq, rc, rfl, hcell, hrow, Y6⟩; have hR6 := aa hrow; have eC : Hid (Up w3 w6) := eC.out.trans Y6; clear Y6 hrow)
    | (go_at_call 182; refine (Sr Any _ _ _ hR6.out vk.out).mono ?_; rintro e w7 ⟨rfl, rfl⟩))
   all_goals
    go_wp2_with fail
    go_ret2
    exact ⟨dS.out.trans eC.out, by rw [HF.out, HP.out, F3, gj, F3]; rfl⟩
  ·have Ae : (ig t st (bU 16) != 0) = true := by simpa using hpe
   have HP := aa hpe
   clear hpe
   have vo : Hid (cE t st (bU 16) = 0) := Lh HP.out
   go_wp2_with fail
   go_ret2
   exact ⟨dS.out, by rw [vo.out]; rfl⟩
end
section
deriving instance DecidableEq for ax
def insB (f : Nat → ByteArray) (a : Nat) : List Nat → List Nat
 | [] => [a]
 | b :: l => if ny f a b then a :: b :: l else b :: insB f a l
def uG (f : Nat → ByteArray) : List Nat → List Nat
 | [] => []
 | a :: l => insB f a (uG f l)
theorem B9 (f : Nat → ByteArray) (a : Nat) (l₂ : List Nat) (h2 : ∀ b ∈ l₂, ny f a b = true) : ∀ l₁ : List Nat, (∀ b ∈ l₁, ny f a b = false) → insB f a (l₁ ++ l₂) = l₁ ++ a :: l₂
 | [], _ => by
  cases l₂ with
  | nil => rfl
  | cons b l => simp only [List.nil_append, insB]; rw [if_pos (h2 b (by simp))]
 | b :: l₁, h1 => by
  simp only [List.cons_append, insB]
  rw [if_neg (by rw [h1 b (by simp)]; decide), B9 f a l₂ h2 l₁ fun c hc => h1 c (by simp [hc])]
theorem A2 (f : Nat → ByteArray) : ∀ l, cH f l = uG f l
 | [] => by unfold cH; simp [uG]
 | a :: l => by
  have ih := A2 f l
  obtain ⟨l₁, l₂, h1, h2, h3⟩ := List.mergeSort_cons (Ew f) (Ex f) a l
  have hs := sI f (a :: l)
  unfold cH at hs ih ⊢
  rw [h1] at hs ⊢
  show _ = insB f a (uG f l)
  rw [← ih, h2]
  refine (B9 f a l₂ (fun b hb => ?_) l₁ fun b hb => by simpa using h3 b hb).symm
  have h4 := (List.pairwise_append.1 hs).2.1
  exact (List.pairwise_cons.1 h4).1 b hb
end
section
open Go.RowKit Go.Deep
end
section
open Go.RowKit Go.Deep
end
end Go.Proofs.YteegefnjnikngaaGreat
