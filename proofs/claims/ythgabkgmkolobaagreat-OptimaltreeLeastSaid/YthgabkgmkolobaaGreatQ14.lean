/- The plain law of forests in which no node has two parents and no two leaves one name: .. -/
import Derived.Test.YthgabkgmkolobaaGreatQ1
import Derived.Test.YthgabkgmkolobaaGreatQ12
import Derived.Test.YthgabkgmkolobaaGreatQ13
set_option maxRecDepth 100000
namespace Go.Proofs.YthgabkgmkolobaaGreat
section
theorem iD {F : aT} {n : Nat} {rk : Nat → Nat} (h : Wf F n rk) {i : Nat} (hi : i < n) : bS F rk i i = true := by rw [gG h hi]; simp
theorem mG {F : aT} {n : Nat} {rk : Nat → Nat} (h : Wf F n rk) {i k j : Nat} (hi : i < n) (hk : k ∈ F.kids i) (hj : bS F rk k j = true) : bS F rk i j = true := by
 rw [gG h hi, Bool.or_eq_true]; exact .inr (List.any_eq_true.2 ⟨k, hk, hj⟩)
theorem qN {F : aT} {n : Nat} {rk : Nat → Nat} (h : Wf F n rk) {i j : Nat} (hi : i < n) (hj : bS F rk i j = true) : j = i ∨ ∃ k ∈ F.kids i, bS F rk k j = true := by
 rw [gG h hi, Bool.or_eq_true] at hj
 rcases hj with h1 | h1
 ·exact .inl (by simpa using h1)
 ·obtain ⟨k, hk, h2⟩ := List.any_eq_true.1 h1
  exact .inr ⟨k, hk, h2⟩
theorem oH {F : aT} {n : Nat} {rk : Nat → Nat} (h : Wf F n rk) : ∀ {d i j : Nat}, i < n → rk i ≤ d → bS F rk i j = true → j < n := by
 intro d
 induction d with
 | zero =>
  intro i j hi hd hj
  rcases qN h hi hj with rfl | ⟨k, hk, h1⟩
  ·exact hi
  ·have := (h.kid i hi k hk).2; omega
 | succ d ih =>
  intro i j hi hd hj
  rcases qN h hi hj with rfl | ⟨k, hk, h1⟩
  ·exact hi
  ·have := h.kid i hi k hk
   exact ih this.1 (by omega) h1
structure rV (F : aT) (n : Nat) (rk : Nat → Nat) : Prop where
 wf : Wf F n rk
 one : ∀ p q k, p < n → q < n → k ∈ F.kids p → k ∈ F.kids q → p = q
 nodup : ∀ i, i < n → (F.kids i).Nodup
 names : ∀ a b, a < n → b < n → F.kids a = [] → F.kids b = [] → F.nm a = F.nm b → a = b
section
variable {F : aT} {n : Nat} {rk : Nat → Nat}
theorem qO (h : Wf F n rk) : ∀ {d x j : Nat}, x < n → rk x ≤ d → bS F rk x j = true → j ≠ x → ∃ p, p < n ∧ j ∈ F.kids p ∧ bS F rk x p = true := by
 intro d
 induction d with
 | zero =>
  intro x j hx hd hj hne
  rcases qN h hx hj with e | ⟨k, hk, h1⟩
  ·exact absurd e hne
  ·have := (h.kid x hx k hk).2; omega
 | succ d ih =>
  intro x j hx hd hj hne
  rcases qN h hx hj with e | ⟨k, hk, h1⟩
  ·exact absurd e hne
  ·have hkk := h.kid x hx k hk
   by_cases e : j = k
   ·exact ⟨x, hx, by rw [e]; exact hk, iD h hx⟩
   ·obtain ⟨p, hp, h2, h3⟩ := ih hkk.1 (by omega) h1 e
    exact ⟨p, hp, h2, mG h hx hk h3⟩
theorem OV (h : rV F n rk) {R : Nat} (hR : ∀ i, i < n → rk i ≤ R) : ∀ {m j x y : Nat}, R - rk j ≤ m → j < n → x < n → y < n → bS F rk x j = true → bS F rk y j = true → bS F rk x y = true ∨ bS F rk y x = true := by
 intro m
 induction m with
 | zero =>
  intro j x y hm hj hx hy h1 h2
  by_cases e1 : j = x
  ·subst e1; exact .inr h2
  ·obtain ⟨p, hp, hk, _⟩ := qO h.wf hx (Nat.le_refl _) h1 e1
   have := (h.wf.kid p hp j hk).2
   have := hR p hp
   omega
 | succ m ih =>
  intro j x y hm hj hx hy h1 h2
  by_cases e1 : j = x
  ·subst e1; exact .inr h2
  ·by_cases e2 : j = y
   ·subst e2; exact .inl h1
   ·obtain ⟨p, hp, hk, h3⟩ := qO h.wf hx (Nat.le_refl _) h1 e1
    obtain ⟨q, hq, hk2, h4⟩ := qO h.wf hy (Nat.le_refl _) h2 e2
    obtain rfl := h.one p q j hp hq hk hk2
    have h5 := (h.wf.kid p hp j hk).2
    have h6 := hR p hp
    exact ih (by omega) hp hx hy h3 h4
theorem AJ (h : rV F n rk) {R : Nat} (hR : ∀ i, i < n → rk i ≤ R) {i x y j : Nat} (hi : i < n) (hx : x ∈ F.kids i) (hy : y ∈ F.kids i) (h1 : bS F rk x j = true) (h2 : bS F rk y j = true) : x = y := by
 have pZ := h.wf.kid i hi x hx
 have Ee := h.wf.kid i hi y hy
 have hj := oH h.wf pZ.1 (Nat.le_refl _) h1
 have key : ∀ {a b : Nat}, a ∈ F.kids i → b ∈ F.kids i → a < n → rk a < rk i → bS F rk a b = true → a = b := fun {a b} ha hb OW har hab => by
  by_cases e : b = a
  ·exact e.symm
  ·obtain ⟨p, hp, hk, h3⟩ := qO h.wf OW (Nat.le_refl _) hab e
   obtain rfl := h.one p i b hp hi hk hb
   have := mP h.wf OW h3; omega
 rcases OV h hR (Nat.le_refl _) hj pZ.1 Ee.1 h1 h2 with h3 | h3
 ·exact key hx hy pZ.1 pZ.2 h3
 ·exact (key hy hx Ee.1 Ee.2 h3).symm
theorem K1 (h : Wf F n rk) : ∀ {d i : Nat}, i < n → rk i ≤ d → ∃ j, j < n ∧ bS F rk i j = true ∧ F.kids j = [] ∧ fB F rk i = F.nm j := by
 intro d
 induction d with
 | zero =>
  intro i hi hd
  have hk : F.kids i = [] := by
   cases hk : F.kids i with
   | nil => rfl
   | cons k l => have := (h.kid i hi k (by rw [hk]; simp)).2; omega
  exact ⟨i, hi, iD h hi, hk, by rw [rM h hi, hk]; simp [cA]⟩
 | succ d ih =>
  intro i hi hd
  by_cases hk : F.kids i = []
  ·exact ⟨i, hi, iD h hi, hk, by rw [rM h hi, hk]; simp [cA]⟩
  ·obtain ⟨k, l, hs⟩ : ∃ k l, cA (fB F rk) (F.kids i) = k :: l := by
    cases hs : cA (fB F rk) (F.kids i) with
    | nil => have h1 := (dU (fB F rk) (F.kids i)).length_eq; rw [hs] at h1; exact absurd (List.length_eq_zero_iff.1 h1.symm) hk
    | cons k l => exact ⟨k, l, rfl⟩
   have hki : k ∈ F.kids i := (dU (fB F rk) _).mem_iff.1 (by rw [hs]; simp)
   have hkk := h.kid i hi k hki
   obtain ⟨j, hj, h1, h2, h3⟩ := ih hkk.1 (by omega)
   exact ⟨j, hj, mG h hi hki h1, h2, by rw [rM h hi, hs]; exact h3⟩
theorem rV.RS (h : rV F n rk) (hl : ∀ i, i < n → (F.kids i).length ≤ 1000) {R : Nat} (hR : ∀ i, i < n → rk i ≤ R) : AB F n rk := by
 refine ⟨h.wf, fun i hi x hx y hy e => ?_, h.nodup, hl⟩
 have pZ := h.wf.kid i hi x hx
 have Ee := h.wf.kid i hi y hy
 obtain ⟨a, ha, h1, h2, h3⟩ := K1 h.wf pZ.1 (Nat.le_refl _)
 obtain ⟨b, hb, h4, h5, h6⟩ := K1 h.wf Ee.1 (Nat.le_refl _)
 rw [h3, h6] at e
 obtain rfl := h.names a b ha hb h2 h5 e
 exact AJ h hR hi hx hy h1 h4
def bK (F : aT) (rk : Nat → Nat) (i : Nat) : List Nat := (dN F rk i none).map (·.1)
theorem K2 (h : Wf F n rk) : ∀ {d i : Nat} (p q : Option Nat), i < n → rk i ≤ d → (dN F rk i p).map (·.1) = (dN F rk i q).map (·.1) := by
 intro d
 cases d with
 | zero => intro i p q hi hd; rw [fU h hi, fU h hi]; rfl
 | succ d => intro i p q hi hd; rw [fU h hi, fU h hi]; rfl
theorem b7 (h : Wf F n rk) {i : Nat} (hi : i < n) : bK F rk i = i :: (F.kids i).flatMap fun k => bK F rk k := by
 unfold bK
 rw [fU h hi, List.map_cons, List.map_flatMap]
 congr 1
 exact gH fun k hk => K2 h _ _ (h.kid i hi k hk).1 (Nat.le_refl _)
theorem dV (h : Wf F n rk) : ∀ {d i j : Nat}, i < n → rk i ≤ d → (j ∈ bK F rk i ↔ bS F rk i j = true) := by
 intro d
 induction d with
 | zero =>
  intro i j hi hd
  rw [b7 h hi, gG h hi]
  have hk : F.kids i = [] := by
   cases hk : F.kids i with
   | nil => rfl
   | cons k l => have := (h.kid i hi k (by rw [hk]; simp)).2; omega
  simp [hk]
 | succ d ih =>
  intro i j hi hd
  rw [b7 h hi, gG h hi]
  simp only [List.mem_cons, List.mem_flatMap, Bool.or_eq_true, beq_iff_eq, List.any_eq_true]
  constructor
  ·rintro (e | ⟨k, hk, h1⟩)
   ·exact .inl e
   ·have := h.kid i hi k hk
    exact .inr ⟨k, hk, (ih this.1 (by omega)).1 h1⟩
  ·rintro (e | ⟨k, hk, h1⟩)
   ·exact .inl e
   ·have := h.kid i hi k hk
    exact .inr ⟨k, hk, (ih this.1 (by omega)).2 h1⟩
theorem jg (h : rV F n rk) {R : Nat} (hR : ∀ i, i < n → rk i ≤ R) : ∀ {d i : Nat}, i < n → rk i ≤ d → (bK F rk i).Nodup := by
 intro d
 induction d with
 | zero =>
  intro i hi hd
  rw [b7 h.wf hi]
  have hk : F.kids i = [] := by
   cases hk : F.kids i with
   | nil => rfl
   | cons k l => have := (h.wf.kid i hi k (by rw [hk]; simp)).2; omega
  simp [hk]
 | succ d ih =>
  intro i hi hd
  rw [b7 h.wf hi, List.nodup_cons]
  refine ⟨fun hm => ?_, ?_⟩
  ·obtain ⟨k, hk, h1⟩ := List.mem_flatMap.1 hm
   have hkk := h.wf.kid i hi k hk
   have := mP h.wf hkk.1 ((dV h.wf hkk.1 (Nat.le_refl _)).1 h1); omega
  ·have hsub : ∀ l : List Nat, l.Nodup → (∀ k ∈ l, k ∈ F.kids i) → (l.flatMap fun k => bK F rk k).Nodup := by
    intro l
    induction l with
    | nil => intro _ _; simp
    | cons x l ihl =>
     intro hn hin
     obtain ⟨hx, hl⟩ := List.nodup_cons.1 hn
     have hxx := h.wf.kid i hi x (hin x (by simp))
     rw [List.flatMap_cons, List.nodup_append]
     refine ⟨ih hxx.1 (by omega), ihl hl (fun k hk => hin k (by simp [hk])), fun a ha b hb e => ?_⟩
     subst e
     obtain ⟨y, hy, h2⟩ := List.mem_flatMap.1 hb
     have hyy := h.wf.kid i hi y (hin y (by simp [hy]))
     have := AJ h hR hi (hin x (by simp)) (hin y (by simp [hy])) ((dV h.wf hxx.1 (Nat.le_refl _)).1 ha) ((dV h.wf hyy.1 (Nat.le_refl _)).1 h2)
     subst this; exact hx hy
   exact hsub _ (h.nodup i hi) (fun k hk => hk)
theorem oI {l : List Nat} {n : Nat} (h : l.Nodup) (hl : ∀ x ∈ l, x < n) : l.length ≤ n := by
 have h1 : l ⊆ List.range n := fun x hx => List.mem_range.2 (hl x hx)
 have := h.length_le_of_subset h1
 simpa using this
theorem V0 (h : rV F n rk) {R : Nat} (hR : ∀ i, i < n → rk i ≤ R) {i : Nat} (hi : i < n) (p : Option Nat) : (dN F rk i p).length ≤ n := by
 have h1 : (dN F rk i p).length = (bK F rk i).length := by
  have := congrArg List.length (K2 h.wf p none hi (Nat.le_refl _))
  simpa [bK] using this
 rw [h1]
 exact oI (jg h hR hi (Nat.le_refl _)) (fun x hx => oH h.wf hi (Nat.le_refl _) ((dV h.wf hi (Nat.le_refl _)).1 hx))
theorem rV.iq (h : rV F n rk) (p : Nat → Bool) : rV (F.iq rk p) n rk :=
 ⟨⟨fun i hi k hk => h.wf.kid i hi k ((F.gP rk p i).mem_iff.1 hk)⟩, fun a b k ha hb h1 h2 => h.one a b k ha hb ((F.gP rk p a).mem_iff.1 h1) ((F.gP rk p b).mem_iff.1 h2), fun i hi => (F.gP rk p i).symm.nodup_iff.1 (h.nodup i hi),
  fun a b ha hb h1 h2 e => h.names a b ha hb (List.perm_nil.1 (by rw [← h1]; exact (F.gP rk p a).symm)) (List.perm_nil.1 (by rw [← h2]; exact (F.gP rk p b).symm)) e⟩
end
def cu (t : ay) (i : Nat) : Nat := t.ps.length - i
theorem iN (t : ay) (i : Nat) : (ew t).kids i = aS t.ps i := rfl
theorem dz {t : ay} (h : az t = 0) : rV (ew t) t.ps.length (cu t) := by
 obtain ⟨hp, _, hn, hok, he⟩ := aD h
 refine ⟨⟨fun i hi k hk => ?_⟩, fun p q k _ _ h1 h2 => ?_, fun i _ => ?_, fun a b ha hb h1 h2 e => ?_⟩
 ·obtain ⟨h1, h2, _⟩ := cr.1 hk
  exact ⟨h1, by unfold cu; omega⟩
 ·obtain ⟨_, _, h3⟩ := cr.1 h1
  obtain ⟨_, _, h4⟩ := cr.1 h2
  omega
 ·exact List.Pairwise.filter _ List.nodup_range
 ·have leaf : ∀ i, i < t.ps.length → aS t.ps i = [] → isIn t.ps i = false := fun i hi hk => by
   cases hin : isIn t.ps i with
   | false => rfl
   | true => exact absurd hk ((kK hok i).2 hin)
  have e : gs t.ns a = gs t.ns b := e
  rcases Nat.lt_trichotomy a b with hab | hab | hab
  ·have h3 := (vD h hb (leaf b hb h2)).2
   have := any_false h3 hab
   simp [e] at this
  ·exact hab
  ·have h3 := (vD h ha (leaf a ha h1)).2
   have := any_false h3 hab
   simp [e] at this
theorem uD (t : ay) (i : Nat) : cu t i ≤ t.ps.length := Nat.sub_le _ _
end
section
open Go.RowKit Go.Deep
def jC (t : ay) : aT := (ew t).iq (cu t) fun j => false || bS (ew t) (cu t) 0 j
def qp (t : ay) : ay := fJ (jC t) (cu t) 0
theorem nK (t : ay) (i : Nat) : ((ew t).kids i).length ≤ t.ps.length := by rw [iN]; exact pW _ _ _
theorem GJ {t : ay} (h : az t = 0) : rV (jC t) t.ps.length (cu t) := (dz h).iq _
theorem FB (t : ay) (i : Nat) : ((jC t).kids i).length ≤ t.ps.length := by
 have h := ((ew t).gP (cu t) (fun j => false || bS (ew t) (cu t) 0 j) i).length_eq
 have h2 := nK t i
 unfold jC; omega
theorem fh {w : World} {P N : Value} {T : TypeId} : (w.alloc (.cells #[P, N] T)).heap[w.heap.size]? = some (.cells #[P, N] T (0, 0)) := World.alloc_heap_new _ _
set_option maxHeartbeats 2000000 in
theorem Ka (S : Nat → Prop) (w : World) (v : Value) (t : ay) (hT : aA S w v t) (he : az t = 0) (hz : ∀ k, (gs t.ns k).size ≤ 70000) : Calls Tryz.prog 129 #[v] w (OM w (qp t)) := by
 obtain ⟨ig, CX, hnl, hok, _⟩ := aD he
 obtain ⟨P, N, rfl, hP, hN⟩ := hT
 have hu := (Up.alloc w (.cells #[P, N] 39)).trans (Up.alloc _ (.cells #[.slice none 0 0, .slice none 0 0] 39))
 have jR : aA S ((w.alloc (.cells #[P, N] 39)).alloc (.cells #[.slice none 0 0, .slice none 0 0] 39)) (.agg #[P, N]) t := aA.keep ⟨P, N, rfl, hP, hN⟩ (hu.kept _)
 have HN := aa (VU S _ _ t jR (by omega) hnl hok hz)
 have HU := aa hu
 have hc0 := (Up.alloc _ (.cells #[.slice none 0 0, .slice none 0 0] 39)).cell (dW w P N 39)
 have hc1 := (Up.alloc _ (.cells #[.slice none 0 0, .slice none 0 0] 39)).cell (eu w P N 39)
 have hrb := fh (w := w.alloc (.cells #[P, N] 39)) (P := .slice none 0 0) (N := .slice none 0 0) (T := 39)
 have hsz : ((w.alloc (.cells #[P, N] 39)).alloc (.cells #[.slice none 0 0, .slice none 0 0] 39)).heap.size = w.heap.size + 2 := by simp
 rw [World.size_alloc] at hrb
 have lT := aa hrb
 have ct := aa hsz
 have OX := aa (dz he)
 have Ef := aa (GJ he)
 clear hu jR hP hN hrb hsz hnl hok
 go_enter Tryz.func129, Tryz.ntmps129
 go_wp2_with fail
 generalize (w.alloc (.cells #[P, N] 39)).alloc (.cells #[.slice none 0 0, .slice none 0 0] 39) = w1 at *
 refine HN.out.mono ?_
 rintro e w2 ⟨aG, g, A, kv, rfl, hF, hrow⟩
 have kB := hrow.cell (i := 0) ig
 have GL := aa hF
 have bw := aa aG
 have jh := aa ((Below.block aG (w.heap.size + 1) (by rw [ct.out]; omega)).trans lT.out)
 have hs2 := aG.size
 simp only [bu] at kB
 have hpos : (0 : Int) < (t.ps.length : Int) := by omega
 clear aG hF hrow hc0 hc1 HN
 go_wp2_with fail
 have Yp : bq w1.heap.size t.ps.length A kv ((ew t).iq (cu t) fun _ => false) w2 := GL.out.congr fun j _ => ⟨rfl, rfl, rfl⟩
 have x7 := aa (RI (OX.out.RS (fun i _ => by have := nK t i; omega) (fun i _ => uD t i)) (cu t 0) 0 (fun _ => false) w2 ig (Nat.le_refl _) Yp)
 clear kB
 refine x7.out.mono ?_
 rintro e w3 ⟨rfl, KV, hfu⟩
 have hb3 : Below w1.heap.size w2 w3 := hfu.below Yp hs2
 have Yq := aa ((hb3.block (w.heap.size + 1) (by rw [ct.out]; omega)).trans jh.out)
 have dc : Hid (Up w1 w3) := Below.trans bw.out hb3
 have Eg := aa (OO (F := jC t) (rk := cu t) Ef.out.wf (fun i _ => by have := FB t i; omega) w3 0 ig KV (by have := V0 Ef.out (fun i _ => uD t i) ig none; omega))
 clear KV hfu hb3 x7 GL Yp jh bw
 go_wp2_with fail
 refine Eg.out.mono ?_
 rintro e w4 ⟨cF, _, rfl, P4, N4, rfl, dY, eG⟩
 obtain ⟨pp, pc, rfl, _, _⟩ := aB.open dY
 obtain ⟨np, nc, rfl, _, _⟩ := aB.open eG
 have ji := (Below.block cF (w.heap.size + 1) (by have := dc.out.size; rw [ct.out] at this; omega)).trans Yq.out
 have ku : w4.cell? ⟨w.heap.size + 1, 0, none⟩ = some (.slice none 0 0) := by simp [World.cell?, ji]
 have hr1 : w4.cell? ⟨w.heap.size + 1, 1, none⟩ = some (.slice none 0 0) := by simp [World.cell?, ji]
 have K0 : w4.frozen? ⟨w.heap.size + 1, 0, none⟩ = false := by simp [World.frozen?, ji]
 have uC : w4.frozen? ⟨w.heap.size + 1, 1, none⟩ = false := by simp [World.frozen?, ji]
 have Ec := aa dY
 have OY := aa eG
 have jQ := aa cF
 have HRB4 := aa ji
 clear dY eG cF ji Eg Yq
 go_wp2_with fail
 have cw : ∀ b, b ≠ w.heap.size + 1 → ((w4.setCell ⟨w.heap.size + 1, 0, none⟩ (.slice pp (fJ (jC t) (cu t) 0).ps.length pc)).setCell ⟨w.heap.size + 1, 1, none⟩ (.slice np (fJ (jC t) (cu t) 0).ns.length nc)).heap[b]? = w4.heap[b]? := fun b hb => by rw [blk_setCell_other _ _ _ _ hb, blk_setCell_other _ _ _ _ hb]
 have hheap : ((w4.setCell ⟨w.heap.size + 1, 0, none⟩ (.slice pp (fJ (jC t) (cu t) 0).ps.length pc)).setCell ⟨w.heap.size + 1, 1, none⟩ (.slice np (fJ (jC t) (cu t) 0).ns.length nc)).heap[w.heap.size + 1]? = some (Obj.cells #[.slice pp (fJ (jC t) (cu t) 0).ps.length pc, .slice np (fJ (jC t) (cu t) 0).ns.length nc] 39 (0, 0)) := by
  simp [World.setCell, Array.getElem?_modify, HRB4.out]
 have cF := HU.out.trans (dc.out.trans jQ.out)
 have gp : Up w ((w4.setCell ⟨w.heap.size + 1, 0, none⟩ (.slice pp (fJ (jC t) (cu t) 0).ps.length pc)).setCell ⟨w.heap.size + 1, 1, none⟩ (.slice np (fJ (jC t) (cu t) 0).ns.length nc)) :=
  ⟨cF.os, cF.tape, cF.output, by simp [World.size_setCell]; exact cF.size, fun b hb => (cw b (by omega)).trans (cF.block b hb)⟩
 have hs3 : w.heap.size + 2 ≤ w3.heap.size := by have := dc.out.size; rw [ct.out] at this; exact this
 generalize (w4.setCell ⟨w.heap.size + 1, 0, none⟩ (.slice pp (fJ (jC t) (cu t) 0).ps.length pc)).setCell ⟨w.heap.size + 1, 1, none⟩ (.slice np (fJ (jC t) (cu t) 0).ns.length nc) = w5 at *
 have ku : w5.cell? ⟨w.heap.size + 1, 0, none⟩ = some (.slice pp (fJ (jC t) (cu t) 0).ps.length pc) := by simp [World.cell?, hheap]
 have hr1 : w5.cell? ⟨w.heap.size + 1, 1, none⟩ = some (.slice np (fJ (jC t) (cu t) 0).ns.length nc) := by simp [World.cell?, hheap]
 refine ⟨rfl, .agg #[.slice pp (fJ (jC t) (cu t) 0).ps.length pc, .slice np (fJ (jC t) (cu t) 0).ns.length nc], by simp [results, Tryz.results129, go_sem, ku, hr1], ?_⟩
 exact ⟨gp, _, rfl, _, _, rfl, (aq.keep Ec.out fun b hb _ => cw b (by omega)).sub fun b hb _ => by omega, (ah.keep OY.out fun b hb _ => cw b (by omega)).sub fun b hb _ => by omega⟩
def Yr (w : World) (t : ay) (e : Ending) (w' : World) : Prop :=
 Up w w' ∧ ((az t ≠ 0 ∧ e = .returned (.tuple #[.agg #[.slice none 0 0, .slice none 0 0], .int .i64 1])) ∨ (az t = 0 ∧ ∃ v, e = .returned (.tuple #[v, .int .i64 0]) ∧ aA (fun b => w.heap.size ≤ b) w' v (qp t)))
theorem dZ {w w4 : World} {B : Nat} {x y p q : Value} {T : TypeId} (hb : w4.heap[B]? = some (Obj.cells #[x, y] T (0, 0))) (hB : w.heap.size ≤ B) (hu : Up w w4) :
  Up w ((w4.setCell ⟨B, 0, none⟩ p).setCell ⟨B, 1, none⟩ q) ∧ ((w4.setCell ⟨B, 0, none⟩ p).setCell ⟨B, 1, none⟩ q).cell? ⟨B, 0, none⟩ = some p ∧ ((w4.setCell ⟨B, 0, none⟩ p).setCell ⟨B, 1, none⟩ q).cell? ⟨B, 1, none⟩ = some q ∧
   ∀ b, b ≠ B → ((w4.setCell ⟨B, 0, none⟩ p).setCell ⟨B, 1, none⟩ q).heap[b]? = w4.heap[b]? := by
 have cw : ∀ b, b ≠ B → ((w4.setCell ⟨B, 0, none⟩ p).setCell ⟨B, 1, none⟩ q).heap[b]? = w4.heap[b]? := fun b hb => by rw [blk_setCell_other _ _ _ _ hb, blk_setCell_other _ _ _ _ hb]
 have hheap : ((w4.setCell ⟨B, 0, none⟩ p).setCell ⟨B, 1, none⟩ q).heap[B]? = some (Obj.cells #[p, q] T (0, 0)) := by
  simp [World.setCell, Array.getElem?_modify, hb]
 exact ⟨⟨hu.os, hu.tape, hu.output, by simp [World.size_setCell]; exact hu.size, fun b hb => (cw b (by omega)).trans (hu.block b hb)⟩, by simp [World.cell?, hheap], by simp [World.cell?, hheap], cw⟩
set_option maxHeartbeats 2000000 in
theorem GM (S : Nat → Prop) (w : World) (v : Value) (t : ay) (hT : aA S w v t) (hp : t.ps.length ≤ 1000000) (hn : t.ns.length ≤ 1000000) (hz : ∀ k, (gs t.ns k).size ≤ 70000) : Calls Tryz.prog 75 #[v] w (Yr w t) := by
 obtain ⟨P, N, rfl, hP, hN⟩ := hT
 have hu := (Up.alloc w (.cells #[P, N] 39)).trans (Up.alloc _ (.cells #[.slice none 0 0, .slice none 0 0] 39))
 have jR : aA S ((w.alloc (.cells #[P, N] 39)).alloc (.cells #[.slice none 0 0, .slice none 0 0] 39)) (.agg #[P, N]) t := aA.keep ⟨P, N, rfl, hP, hN⟩ (hu.kept _)
 have eY := aa (qZ S _ _ t jR hp hn hz)
 have HT := aa jR
 have HU := aa hu
 have eH := aa ((Up.alloc _ (.cells #[.slice none 0 0, .slice none 0 0] 39)).cell (dW w P N 39))
 have kQ := aa ((Up.alloc _ (.cells #[.slice none 0 0, .slice none 0 0] 39)).cell (eu w P N 39))
 have hc0 := eH.out
 have hc1 := kQ.out
 have hrb := fh (w := w.alloc (.cells #[P, N] 39)) (P := .slice none 0 0) (N := .slice none 0 0) (T := 39)
 have hsz : ((w.alloc (.cells #[P, N] 39)).alloc (.cells #[.slice none 0 0, .slice none 0 0] 39)).heap.size = w.heap.size + 2 := by simp
 rw [World.size_alloc] at hrb
 have lT := aa hrb
 have ct := aa hsz
 clear hu jR hP hN hrb hsz
 go_enter Tryz.func75, Tryz.ntmps75
 go_wp2_with fail
 generalize (w.alloc (.cells #[P, N] 39)).alloc (.cells #[.slice none 0 0, .slice none 0 0] 39) = w1 at *
 refine eY.out.mono ?_
 rintro e w2 ⟨rfl, hb2⟩
 have aG : Up w1 w2 := hb2
 have hc0 := aG.cell eH.out
 have hc1 := aG.cell kQ.out
 have qD := aa (HT.out.keep (aG.kept S))
 have kR := (Below.block aG (w.heap.size + 1) (by rw [ct.out]; omega)).trans lT.out
 have bw := aa (HU.out.trans aG)
 have lW : Hid (w.heap.size + 2 ≤ w2.heap.size) := by unfold Hid; have := aG.size; rw [ct.out] at this; exact this
 clear hb2 aG eY HT HU eH kQ lT
 by_cases he : az t = 0
 ·have HE := aa he
  rw [he]
  have jh := aa kR
  have ij := aa (Ka S w2 _ t qD.out he hz)
  clear kR he
  go_wp2_with fail
  refine ij.out.mono ?_
  rintro e w4 ⟨cF, _, rfl, P4, N4, rfl, dY, eG⟩
  obtain ⟨pp, pc, rfl, _, _⟩ := aB.open dY
  obtain ⟨np, nc, rfl, _, _⟩ := aB.open eG
  have ji := (Below.block cF (w.heap.size + 1) (by have := lW.out; omega)).trans jh.out
  have ku : w4.cell? ⟨w.heap.size + 1, 0, none⟩ = some (.slice none 0 0) := by simp [World.cell?, ji]
  have hr1 : w4.cell? ⟨w.heap.size + 1, 1, none⟩ = some (.slice none 0 0) := by simp [World.cell?, ji]
  have K0 : w4.frozen? ⟨w.heap.size + 1, 0, none⟩ = false := by simp [World.frozen?, ji]
  have uC : w4.frozen? ⟨w.heap.size + 1, 1, none⟩ = false := by simp [World.frozen?, ji]
  have Ec := aa dY
  have OY := aa eG
  have HST := aa (dZ (w := w) (p := .slice pp (qp t).ps.length pc) (q := .slice np (qp t).ns.length nc) ji (by omega) (bw.out.trans cF))
  clear dY eG cF ji ij jh hc0 hc1
  go_wp2_with fail
  obtain ⟨s1, s2, s3, s4⟩ := HST.out
  have hs2 := lW.out
  refine ⟨rfl, .tuple #[.agg #[.slice pp (qp t).ps.length pc, .slice np (qp t).ns.length nc], .int .i64 0], by simp [results, Tryz.results75, go_sem, s2, s3], ?_⟩
  exact ⟨s1, .inr ⟨HE.out, _, rfl, _, _, rfl, (aq.keep Ec.out fun b hb _ => s4 b (by omega)).sub fun b hb _ => by omega, (ah.keep OY.out fun b hb _ => s4 b (by omega)).sub fun b hb _ => by omega⟩⟩
 ·have BK : (az t != 0) = true := by simpa using he
  have ku : w2.cell? ⟨w.heap.size + 1, 0, none⟩ = some (.slice none 0 0) := by simp [World.cell?, kR]
  have hr1 : w2.cell? ⟨w.heap.size + 1, 1, none⟩ = some (.slice none 0 0) := by simp [World.cell?, kR]
  have K0 : w2.frozen? ⟨w.heap.size + 1, 0, none⟩ = false := by simp [World.frozen?, kR]
  have uC : w2.frozen? ⟨w.heap.size + 1, 1, none⟩ = false := by simp [World.frozen?, kR]
  have HST := aa (dZ (w := w) (p := .slice none 0 0) (q := .slice none 0 0) kR (by omega) bw.out)
  have HE := aa he
  clear he kR hc0 hc1
  generalize az t = te at BK ⊢
  go_wp2_with fail
  obtain ⟨s1, s2, s3, s4⟩ := HST.out
  refine ⟨rfl, .tuple #[.agg #[.slice none 0 0, .slice none 0 0], .int .i64 1], by simp [results, Tryz.results75, go_sem, s2, s3], ?_⟩
  exact ⟨s1, .inl ⟨HE.out, rfl⟩⟩
end
section
deriving instance DecidableEq for ay
def insB (f : Nat → ByteArray) (a : Nat) : List Nat → List Nat
 | [] => [a]
 | b :: l => if mO f a b then a :: b :: l else b :: insB f a l
def tV (f : Nat → ByteArray) : List Nat → List Nat
 | [] => []
 | a :: l => insB f a (tV f l)
theorem BL (f : Nat → ByteArray) (a : Nat) (l₂ : List Nat) (h2 : ∀ b ∈ l₂, mO f a b = true) : ∀ l₁ : List Nat, (∀ b ∈ l₁, mO f a b = false) → insB f a (l₁ ++ l₂) = l₁ ++ a :: l₂
 | [], _ => by
  cases l₂ with
  | nil => rfl
  | cons b l => simp only [List.nil_append, insB]; rw [if_pos (h2 b (by simp))]
 | b :: l₁, h1 => by
  simp only [List.cons_append, insB]
  rw [if_neg (by rw [h1 b (by simp)]; decide), BL f a l₂ h2 l₁ fun c hc => h1 c (by simp [hc])]
theorem AK (f : Nat → ByteArray) : ∀ l, cA f l = tV f l
 | [] => by unfold cA; simp [tV]
 | a :: l => by
  have ih := AK f l
  obtain ⟨l₁, l₂, h1, h2, h3⟩ := List.mergeSort_cons (DZ f) (D1 f) a l
  have hs := rL f (a :: l)
  unfold cA at hs ih ⊢
  rw [h1] at hs ⊢
  show _ = insB f a (tV f l)
  rw [← ih, h2]
  refine (BL f a l₂ (fun b hb => ?_) l₁ fun b hb => by simpa using h3 b hb).symm
  have h4 := (List.pairwise_append.1 hs).2.1
  exact (List.pairwise_cons.1 h4).1 b hb
end
end Go.Proofs.YthgabkgmkolobaaGreat
