/- The plain law of forests in which no node has two parents and no two leaves one name: .. -/
import Derived.Test.YtpnmblnahjjmhaaGreatQ9
import Derived.Test.YtpnmblnahjjmhaaGreatQ10
import Derived.Laws.Bits64b
import Derived.Laws.BitsAllLaws
import Derived.Test.YtpnmblnahjjmhaaGreatQ2
import Derived.Test.YtpnmblnahjjmhaaGreatQ1
set_option maxRecDepth 100000
namespace Go.Proofs.YtpnmblnahjjmhaaGreat
section
theorem iK {F : aT} {n : Nat} {rk : Nat → Nat} (h : Wf F n rk) {i : Nat} (hi : i < n) : bK F rk i i = true := by rw [gX h hi]; simp
theorem mA {F : aT} {n : Nat} {rk : Nat → Nat} (h : Wf F n rk) {i k j : Nat} (hi : i < n) (hk : k ∈ F.kids i) (hj : bK F rk k j = true) : bK F rk i j = true := by
 rw [gX h hi, Bool.or_eq_true]; exact .inr (List.any_eq_true.2 ⟨k, hk, hj⟩)
theorem qm {F : aT} {n : Nat} {rk : Nat → Nat} (h : Wf F n rk) {i j : Nat} (hi : i < n) (hj : bK F rk i j = true) : j = i ∨ ∃ k ∈ F.kids i, bK F rk k j = true := by
 rw [gX h hi, Bool.or_eq_true] at hj
 rcases hj with h1 | h1
 ·exact .inl (by simpa using h1)
 ·obtain ⟨k, hk, h2⟩ := List.any_eq_true.1 h1
  exact .inr ⟨k, hk, h2⟩
theorem mQ {F : aT} {n : Nat} {rk : Nat → Nat} (h : Wf F n rk) : ∀ {d i j : Nat}, i < n → rk i ≤ d → bK F rk i j = true → j < n := by
 intro d
 induction d with
 | zero =>
  intro i j hi hd hj
  rcases qm h hi hj with rfl | ⟨k, hk, h1⟩
  ·exact hi
  ·have := (h.kid i hi k hk).2; omega
 | succ d ih =>
  intro i j hi hd hj
  rcases qm h hi hj with rfl | ⟨k, hk, h1⟩
  ·exact hi
  ·have := h.kid i hi k hk
   exact ih this.1 (by omega) h1
structure rG (F : aT) (n : Nat) (rk : Nat → Nat) : Prop where
 wf : Wf F n rk
 one : ∀ p q k, p < n → q < n → k ∈ F.kids p → k ∈ F.kids q → p = q
 nodup : ∀ i, i < n → (F.kids i).Nodup
 names : ∀ a b, a < n → b < n → F.kids a = [] → F.kids b = [] → F.nm a = F.nm b → a = b
section
variable {F : aT} {n : Nat} {rk : Nat → Nat}
theorem qq (h : Wf F n rk) : ∀ {d x j : Nat}, x < n → rk x ≤ d → bK F rk x j = true → j ≠ x → ∃ p, p < n ∧ j ∈ F.kids p ∧ bK F rk x p = true := by
 intro d
 induction d with
 | zero =>
  intro x j hx hd hj hne
  rcases qm h hx hj with e | ⟨k, hk, h1⟩
  ·exact absurd e hne
  ·have := (h.kid x hx k hk).2; omega
 | succ d ih =>
  intro x j hx hd hj hne
  rcases qm h hx hj with e | ⟨k, hk, h1⟩
  ·exact absurd e hne
  ·have hkk := h.kid x hx k hk
   by_cases e : j = k
   ·exact ⟨x, hx, by rw [e]; exact hk, iK h hx⟩
   ·obtain ⟨p, hp, h2, h3⟩ := ih hkk.1 (by omega) h1 e
    exact ⟨p, hp, h2, mA h hx hk h3⟩
theorem Ov (h : rG F n rk) {R : Nat} (hR : ∀ i, i < n → rk i ≤ R) : ∀ {m j x y : Nat}, R - rk j ≤ m → j < n → x < n → y < n → bK F rk x j = true → bK F rk y j = true → bK F rk x y = true ∨ bK F rk y x = true := by
 intro m
 induction m with
 | zero =>
  intro j x y hm hj hx hy h1 h2
  by_cases e1 : j = x
  ·subst e1; exact .inr h2
  ·obtain ⟨p, hp, hk, _⟩ := qq h.wf hx (Nat.le_refl _) h1 e1
   have := (h.wf.kid p hp j hk).2
   have := hR p hp
   omega
 | succ m ih =>
  intro j x y hm hj hx hy h1 h2
  by_cases e1 : j = x
  ·subst e1; exact .inr h2
  ·by_cases e2 : j = y
   ·subst e2; exact .inl h1
   ·obtain ⟨p, hp, hk, h3⟩ := qq h.wf hx (Nat.le_refl _) h1 e1
    obtain ⟨q, hq, hk2, h4⟩ := qq h.wf hy (Nat.le_refl _) h2 e2
    obtain rfl := h.one p q j hp hq hk hk2
    have h5 := (h.wf.kid p hp j hk).2
    have h6 := hR p hp
    exact ih (by omega) hp hx hy h3 h4
theorem z8 (h : rG F n rk) {R : Nat} (hR : ∀ i, i < n → rk i ≤ R) {i x y j : Nat} (hi : i < n) (hx : x ∈ F.kids i) (hy : y ∈ F.kids i) (h1 : bK F rk x j = true) (h2 : bK F rk y j = true) : x = y := by
 have J9 := h.wf.kid i hi x hx
 have DM := h.wf.kid i hi y hy
 have hj := mQ h.wf J9.1 (Nat.le_refl _) h1
 have key : ∀ {a b : Nat}, a ∈ F.kids i → b ∈ F.kids i → a < n → rk a < rk i → bK F rk a b = true → a = b := fun {a b} ha hb FU har hab => by
  by_cases e : b = a
  ·exact e.symm
  ·obtain ⟨p, hp, hk, h3⟩ := qq h.wf FU (Nat.le_refl _) hab e
   obtain rfl := h.one p i b hp hi hk hb
   have := mN h.wf FU h3; omega
 rcases Ov h hR (Nat.le_refl _) hj J9.1 DM.1 h1 h2 with h3 | h3
 ·exact key hx hy J9.1 J9.2 h3
 ·exact (key hy hx DM.1 DM.2 h3).symm
theorem Ka (h : Wf F n rk) : ∀ {d i : Nat}, i < n → rk i ≤ d → ∃ j, j < n ∧ bK F rk i j = true ∧ F.kids j = [] ∧ fA F rk i = F.nm j := by
 intro d
 induction d with
 | zero =>
  intro i hi hd
  have hk : F.kids i = [] := by
   cases hk : F.kids i with
   | nil => rfl
   | cons k l => have := (h.kid i hi k (by rw [hk]; simp)).2; omega
  exact ⟨i, hi, iK h hi, hk, by rw [ry h hi, hk]; simp [cD]⟩
 | succ d ih =>
  intro i hi hd
  by_cases hk : F.kids i = []
  ·exact ⟨i, hi, iK h hi, hk, by rw [ry h hi, hk]; simp [cD]⟩
  ·obtain ⟨k, l, hs⟩ : ∃ k l, cD (fA F rk) (F.kids i) = k :: l := by
    cases hs : cD (fA F rk) (F.kids i) with
    | nil => have h1 := (dR (fA F rk) (F.kids i)).length_eq; rw [hs] at h1; exact absurd (List.length_eq_zero_iff.1 h1.symm) hk
    | cons k l => exact ⟨k, l, rfl⟩
   have hki : k ∈ F.kids i := (dR (fA F rk) _).mem_iff.1 (by rw [hs]; simp)
   have hkk := h.kid i hi k hki
   obtain ⟨j, hj, h1, h2, h3⟩ := ih hkk.1 (by omega)
   exact ⟨j, hj, mA h hi hki h1, h2, by rw [ry h hi, hs]; exact h3⟩
theorem rG.Ry (h : rG F n rk) (hl : ∀ i, i < n → (F.kids i).length ≤ 1000) {R : Nat} (hR : ∀ i, i < n → rk i ≤ R) : zZ F n rk := by
 refine ⟨h.wf, fun i hi x hx y hy e => ?_, h.nodup, hl⟩
 have J9 := h.wf.kid i hi x hx
 have DM := h.wf.kid i hi y hy
 obtain ⟨a, ha, h1, h2, h3⟩ := Ka h.wf J9.1 (Nat.le_refl _)
 obtain ⟨b, hb, h4, h5, h6⟩ := Ka h.wf DM.1 (Nat.le_refl _)
 rw [h3, h6] at e
 obtain rfl := h.names a b ha hb h2 h5 e
 exact z8 h hR hi hx hy h1 h4
def bE (F : aT) (rk : Nat → Nat) (i : Nat) : List Nat := (dQ F rk i none).map (·.1)
theorem Kb (h : Wf F n rk) : ∀ {d i : Nat} (p q : Option Nat), i < n → rk i ≤ d → (dQ F rk i p).map (·.1) = (dQ F rk i q).map (·.1) := by
 intro d
 cases d with
 | zero => intro i p q hi hd; rw [gA h hi, gA h hi]; rfl
 | succ d => intro i p q hi hd; rw [gA h hi, gA h hi]; rfl
theorem bW (h : Wf F n rk) {i : Nat} (hi : i < n) : bE F rk i = i :: (F.kids i).flatMap fun k => bE F rk k := by
 unfold bE
 rw [gA h hi, List.map_cons, List.map_flatMap]
 congr 1
 exact fL fun k hk => Kb h _ _ (h.kid i hi k hk).1 (Nat.le_refl _)
theorem cU (h : Wf F n rk) : ∀ {d i j : Nat}, i < n → rk i ≤ d → (j ∈ bE F rk i ↔ bK F rk i j = true) := by
 intro d
 induction d with
 | zero =>
  intro i j hi hd
  rw [bW h hi, gX h hi]
  have hk : F.kids i = [] := by
   cases hk : F.kids i with
   | nil => rfl
   | cons k l => have := (h.kid i hi k (by rw [hk]; simp)).2; omega
  simp [hk]
 | succ d ih =>
  intro i j hi hd
  rw [bW h hi, gX h hi]
  simp only [List.mem_cons, List.mem_flatMap, Bool.or_eq_true, beq_iff_eq, List.any_eq_true]
  constructor
  ·rintro (e | ⟨k, hk, h1⟩)
   ·exact .inl e
   ·have := h.kid i hi k hk
    exact .inr ⟨k, hk, (ih this.1 (by omega)).1 h1⟩
  ·rintro (e | ⟨k, hk, h1⟩)
   ·exact .inl e
   ·have := h.kid i hi k hk
    exact .inr ⟨k, hk, (ih this.1 (by omega)).2 h1⟩
theorem jh (h : rG F n rk) {R : Nat} (hR : ∀ i, i < n → rk i ≤ R) : ∀ {d i : Nat}, i < n → rk i ≤ d → (bE F rk i).Nodup := by
 intro d
 induction d with
 | zero =>
  intro i hi hd
  rw [bW h.wf hi]
  have hk : F.kids i = [] := by
   cases hk : F.kids i with
   | nil => rfl
   | cons k l => have := (h.wf.kid i hi k (by rw [hk]; simp)).2; omega
  simp [hk]
 | succ d ih =>
  intro i hi hd
  rw [bW h.wf hi, List.nodup_cons]
  refine ⟨fun hm => ?_, ?_⟩
  ·obtain ⟨k, hk, h1⟩ := List.mem_flatMap.1 hm
   have hkk := h.wf.kid i hi k hk
   have := mN h.wf hkk.1 ((cU h.wf hkk.1 (Nat.le_refl _)).1 h1); omega
  ·have hsub : ∀ l : List Nat, l.Nodup → (∀ k ∈ l, k ∈ F.kids i) → (l.flatMap fun k => bE F rk k).Nodup := by
    intro l
    induction l with
    | nil => intro _ _; simp
    | cons x l ihl =>
     intro hn hin
     obtain ⟨hx, hl⟩ := List.nodup_cons.1 hn
     have Uh := h.wf.kid i hi x (hin x (by simp))
     rw [List.flatMap_cons, List.nodup_append]
     refine ⟨ih Uh.1 (by omega), ihl hl (fun k hk => hin k (by simp [hk])), fun a ha b hb e => ?_⟩
     subst e
     obtain ⟨y, hy, h2⟩ := List.mem_flatMap.1 hb
     have hyy := h.wf.kid i hi y (hin y (by simp [hy]))
     have := z8 h hR hi (hin x (by simp)) (hin y (by simp [hy])) ((cU h.wf Uh.1 (Nat.le_refl _)).1 ha) ((cU h.wf hyy.1 (Nat.le_refl _)).1 h2)
     subst this; exact hx hy
   exact hsub _ (h.nodup i hi) (fun k hk => hk)
theorem oD {l : List Nat} {n : Nat} (h : l.Nodup) (hl : ∀ x ∈ l, x < n) : l.length ≤ n := by
 have h1 : l ⊆ List.range n := fun x hx => List.mem_range.2 (hl x hx)
 have := h.length_le_of_subset h1
 simpa using this
theorem VB (h : rG F n rk) {R : Nat} (hR : ∀ i, i < n → rk i ≤ R) {i : Nat} (hi : i < n) (p : Option Nat) : (dQ F rk i p).length ≤ n := by
 have h1 : (dQ F rk i p).length = (bE F rk i).length := by
  have := congrArg List.length (Kb h.wf p none hi (Nat.le_refl _))
  simpa [bE] using this
 rw [h1]
 exact oD (jh h hR hi (Nat.le_refl _)) (fun x hx => mQ h.wf hi (Nat.le_refl _) ((cU h.wf hi (Nat.le_refl _)).1 hx))
theorem rG.gZ (h : rG F n rk) (p : Nat → Bool) : rG (F.gZ rk p) n rk :=
 ⟨⟨fun i hi k hk => h.wf.kid i hi k ((F.ic rk p i).mem_iff.1 hk)⟩, fun a b k ha hb h1 h2 => h.one a b k ha hb ((F.ic rk p a).mem_iff.1 h1) ((F.ic rk p b).mem_iff.1 h2), fun i hi => (F.ic rk p i).symm.nodup_iff.1 (h.nodup i hi),
  fun a b ha hb h1 h2 e => h.names a b ha hb (List.perm_nil.1 (by rw [← h1]; exact (F.ic rk p a).symm)) (List.perm_nil.1 (by rw [← h2]; exact (F.ic rk p b).symm)) e⟩
end
def bM (t : aA) (i : Nat) : Nat := t.ps.length - i
theorem fM (t : aA) (i : Nat) : (cF t).kids i = bu t.ps i := rfl
theorem cg {t : aA} (h : aB t = 0) : rG (cF t) t.ps.length (bM t) := by
 obtain ⟨hp, _, hn, hok, he⟩ := aH h
 refine ⟨⟨fun i hi k hk => ?_⟩, fun p q k _ _ h1 h2 => ?_, fun i _ => ?_, fun a b ha hb h1 h2 e => ?_⟩
 ·obtain ⟨h1, h2, _⟩ := bH.1 hk
  exact ⟨h1, by unfold bM; omega⟩
 ·obtain ⟨_, _, h3⟩ := bH.1 h1
  obtain ⟨_, _, h4⟩ := bH.1 h2
  omega
 ·exact List.Pairwise.filter _ List.nodup_range
 ·have leaf : ∀ i, i < t.ps.length → bu t.ps i = [] → isIn t.ps i = false := fun i hi hk => by
   cases hin : isIn t.ps i with
   | false => rfl
   | true => exact absurd hk ((j9 hok i).2 hin)
  have e : gs t.ns a = gs t.ns b := e
  rcases Nat.lt_trichotomy a b with hab | hab | hab
  ·have h3 := (uR h hb (leaf b hb h2)).2
   have := any_false h3 hab
   simp [e] at this
  ·exact hab
  ·have h3 := (uR h ha (leaf a ha h1)).2
   have := any_false h3 hab
   simp [e] at this
theorem uw (t : aA) (i : Nat) : bM t i ≤ t.ps.length := Nat.sub_le _ _
end
section
open Go.RowKit Go.Deep
end
section
open Go.RowKit Go.Deep
def iV (t : aA) : aT := (cF t).gZ (bM t) fun j => false || bK (cF t) (bM t) 0 j
def gM (t : aA) : aA := fG (iV t) (bM t) 0
theorem nB (t : aA) (i : Nat) : ((cF t).kids i).length ≤ t.ps.length := by rw [fM]; exact o9 _ _ _
theorem FV {t : aA} (h : aB t = 0) : rG (iV t) t.ps.length (bM t) := (cg h).gZ _
theorem E5 (t : aA) (i : Nat) : ((iV t).kids i).length ≤ t.ps.length := by
 have h := ((cF t).ic (bM t) (fun j => false || bK (cF t) (bM t) 0 j) i).length_eq
 have h2 := nB t i
 unfold iV; omega
theorem kA {w : World} {P N : Value} {T : TypeId} : (w.alloc (.cells #[P, N] T)).heap[w.heap.size]? = some (.cells #[P, N] T (0, 0)) := World.alloc_heap_new _ _
set_option maxHeartbeats 2000000 in
theorem JD (S : Nat → Prop) (w : World) (v : Value) (t : aA) (hT : aG S w v t) (he : aB t = 0) (hz : ∀ k, (gs t.ns k).size ≤ 70000) : Calls Tryz.prog 165 #[v] w (Oj w (gM t)) := by
 obtain ⟨nj, LZ, hnl, hok, _⟩ := aH he
 obtain ⟨P, N, rfl, hP, hN⟩ := hT
 have hu := (Up.alloc w (.cells #[P, N] 39)).trans (Up.alloc _ (.cells #[.slice none 0 0, .slice none 0 0] 39))
 have oh : aG S ((w.alloc (.cells #[P, N] 39)).alloc (.cells #[.slice none 0 0, .slice none 0 0] 39)) (.agg #[P, N]) t := aG.keep ⟨P, N, rfl, hP, hN⟩ (hu.kept _)
 have HN := aa (Vv S _ _ t oh (by omega) hnl hok hz)
 have HU := aa hu
 have hc0 := (Up.alloc _ (.cells #[.slice none 0 0, .slice none 0 0] 39)).cell (cB w P N 39)
 have hc1 := (Up.alloc _ (.cells #[.slice none 0 0, .slice none 0 0] 39)).cell (cI w P N 39)
 have hrb := kA (w := w.alloc (.cells #[P, N] 39)) (P := .slice none 0 0) (N := .slice none 0 0) (T := 39)
 have hsz : ((w.alloc (.cells #[P, N] 39)).alloc (.cells #[.slice none 0 0, .slice none 0 0] 39)).heap.size = w.heap.size + 2 := by simp
 rw [World.size_alloc] at hrb
 have gu := aa hrb
 have cO := aa hsz
 have HAR := aa (cg he)
 have vZ := aa (FV he)
 clear hu oh hP hN hrb hsz hnl hok
 go_enter Tryz.func165, Tryz.ntmps165
 go_wp2_with fail
 generalize (w.alloc (.cells #[P, N] 39)).alloc (.cells #[.slice none 0 0, .slice none 0 0] 39) = w1 at *
 refine HN.out.mono ?_
 rintro e w2 ⟨aC, g, A, kv, rfl, hF, hrow⟩
 have fP := hrow.cell (i := 0) nj
 have nC := aa hF
 have bU := aa aC
 have oF := aa ((Below.block aC (w.heap.size + 1) (by rw [cO.out]; omega)).trans gu.out)
 have hs2 := aC.size
 simp only [bC] at fP
 have hpos : (0 : Int) < (t.ps.length : Int) := by omega
 clear aC hF hrow hc0 hc1 HN
 go_wp2_with fail
 have Xc : bB w1.heap.size t.ps.length A kv ((cF t).gZ (bM t) fun _ => false) w2 := nC.out.congr fun j _ => ⟨rfl, rfl, rfl⟩
 have kB := aa (Rs (HAR.out.Ry (fun i _ => by have := nB t i; omega) (fun i _ => uw t i)) (bM t 0) 0 (fun _ => false) w2 nj (Nat.le_refl _) Xc)
 clear fP
 refine kB.out.mono ?_
 rintro e w3 ⟨rfl, JZ, hfu⟩
 have hb3 : Below w1.heap.size w2 w3 := hfu.below Xc hs2
 have Xd := aa ((hb3.block (w.heap.size + 1) (by rw [cO.out]; omega)).trans oF.out)
 have cR : Hid (Up w1 w3) := Below.trans bU.out hb3
 have Kc := aa (Ol (F := iV t) (rk := bM t) vZ.out.wf (fun i _ => by have := E5 t i; omega) w3 0 nj JZ (by have := VB vZ.out (fun i _ => uw t i) nj none; omega))
 clear JZ hfu hb3 kB nC Xc oF bU
 go_wp2_with fail
 refine Kc.out.mono ?_
 rintro e w4 ⟨dL, _, rfl, P4, N4, rfl, nD, nE⟩
 obtain ⟨pp, pc, rfl, _, _⟩ := av.open nD
 obtain ⟨np, nc, rfl, _, _⟩ := av.open nE
 have ji := (Below.block dL (w.heap.size + 1) (by have := cR.out.size; rw [cO.out] at this; omega)).trans Xd.out
 have rF : w4.cell? ⟨w.heap.size + 1, 0, none⟩ = some (.slice none 0 0) := by simp [World.cell?, ji]
 have hr1 : w4.cell? ⟨w.heap.size + 1, 1, none⟩ = some (.slice none 0 0) := by simp [World.cell?, ji]
 have uv : w4.frozen? ⟨w.heap.size + 1, 0, none⟩ = false := by simp [World.frozen?, ji]
 have lB : w4.frozen? ⟨w.heap.size + 1, 1, none⟩ = false := by simp [World.frozen?, ji]
 have DJ := aa nD
 have Ow := aa nE
 have fB := aa dL
 have HRB4 := aa ji
 clear nD nE dL ji Kc Xd
 go_wp2_with fail
 have bD : ∀ b, b ≠ w.heap.size + 1 → ((w4.setCell ⟨w.heap.size + 1, 0, none⟩ (.slice pp (fG (iV t) (bM t) 0).ps.length pc)).setCell ⟨w.heap.size + 1, 1, none⟩ (.slice np (fG (iV t) (bM t) 0).ns.length nc)).heap[b]? = w4.heap[b]? := fun b hb => by rw [blk_setCell_other _ _ _ _ hb, blk_setCell_other _ _ _ _ hb]
 have hheap : ((w4.setCell ⟨w.heap.size + 1, 0, none⟩ (.slice pp (fG (iV t) (bM t) 0).ps.length pc)).setCell ⟨w.heap.size + 1, 1, none⟩ (.slice np (fG (iV t) (bM t) 0).ns.length nc)).heap[w.heap.size + 1]? = some (Obj.cells #[.slice pp (fG (iV t) (bM t) 0).ps.length pc, .slice np (fG (iV t) (bM t) 0).ns.length nc] 39 (0, 0)) := by
  simp [World.setCell, Array.getElem?_modify, HRB4.out]
 have dL := HU.out.trans (cR.out.trans fB.out)
 have fh : Up w ((w4.setCell ⟨w.heap.size + 1, 0, none⟩ (.slice pp (fG (iV t) (bM t) 0).ps.length pc)).setCell ⟨w.heap.size + 1, 1, none⟩ (.slice np (fG (iV t) (bM t) 0).ns.length nc)) :=
  ⟨dL.os, dL.tape, dL.output, by simp [World.size_setCell]; exact dL.size, fun b hb => (bD b (by omega)).trans (dL.block b hb)⟩
 have hs3 : w.heap.size + 2 ≤ w3.heap.size := by have := cR.out.size; rw [cO.out] at this; exact this
 generalize (w4.setCell ⟨w.heap.size + 1, 0, none⟩ (.slice pp (fG (iV t) (bM t) 0).ps.length pc)).setCell ⟨w.heap.size + 1, 1, none⟩ (.slice np (fG (iV t) (bM t) 0).ns.length nc) = w5 at *
 have rF : w5.cell? ⟨w.heap.size + 1, 0, none⟩ = some (.slice pp (fG (iV t) (bM t) 0).ps.length pc) := by simp [World.cell?, hheap]
 have hr1 : w5.cell? ⟨w.heap.size + 1, 1, none⟩ = some (.slice np (fG (iV t) (bM t) 0).ns.length nc) := by simp [World.cell?, hheap]
 refine ⟨rfl, .agg #[.slice pp (fG (iV t) (bM t) 0).ps.length pc, .slice np (fG (iV t) (bM t) 0).ns.length nc], by simp [results, Tryz.results165, go_sem, rF, hr1], ?_⟩
 exact ⟨fh, _, rfl, _, _, rfl, (af.keep DJ.out fun b hb _ => bD b (by omega)).sub fun b hb _ => by omega, (ay.keep Ow.out fun b hb _ => bD b (by omega)).sub fun b hb _ => by omega⟩
def Xe (w : World) (t : aA) (e : Ending) (w' : World) : Prop :=
 Up w w' ∧ ((aB t ≠ 0 ∧ e = .returned (.tuple #[.agg #[.slice none 0 0, .slice none 0 0], .int .i64 1])) ∨ (aB t = 0 ∧ ∃ v, e = .returned (.tuple #[v, .int .i64 0]) ∧ aG (fun b => w.heap.size ≤ b) w' v (gM t)))
theorem eM {w w4 : World} {B : Nat} {x y p q : Value} {T : TypeId} (hb : w4.heap[B]? = some (Obj.cells #[x, y] T (0, 0))) (hB : w.heap.size ≤ B) (hu : Up w w4) :
  Up w ((w4.setCell ⟨B, 0, none⟩ p).setCell ⟨B, 1, none⟩ q) ∧ ((w4.setCell ⟨B, 0, none⟩ p).setCell ⟨B, 1, none⟩ q).cell? ⟨B, 0, none⟩ = some p ∧ ((w4.setCell ⟨B, 0, none⟩ p).setCell ⟨B, 1, none⟩ q).cell? ⟨B, 1, none⟩ = some q ∧
   ∀ b, b ≠ B → ((w4.setCell ⟨B, 0, none⟩ p).setCell ⟨B, 1, none⟩ q).heap[b]? = w4.heap[b]? := by
 have bD : ∀ b, b ≠ B → ((w4.setCell ⟨B, 0, none⟩ p).setCell ⟨B, 1, none⟩ q).heap[b]? = w4.heap[b]? := fun b hb => by rw [blk_setCell_other _ _ _ _ hb, blk_setCell_other _ _ _ _ hb]
 have hheap : ((w4.setCell ⟨B, 0, none⟩ p).setCell ⟨B, 1, none⟩ q).heap[B]? = some (Obj.cells #[p, q] T (0, 0)) := by
  simp [World.setCell, Array.getElem?_modify, hb]
 exact ⟨⟨hu.os, hu.tape, hu.output, by simp [World.size_setCell]; exact hu.size, fun b hb => (bD b (by omega)).trans (hu.block b hb)⟩, by simp [World.cell?, hheap], by simp [World.cell?, hheap], bD⟩
set_option maxHeartbeats 2000000 in
theorem xB (S : Nat → Prop) (w : World) (v : Value) (t : aA) (hT : aG S w v t) (hp : t.ps.length ≤ 1000000) (hn : t.ns.length ≤ 1000000) (hz : ∀ k, (gs t.ns k).size ≤ 70000) : Calls Tryz.prog 91 #[v] w (Xe w t) := by
 obtain ⟨P, N, rfl, hP, hN⟩ := hT
 have hu := (Up.alloc w (.cells #[P, N] 39)).trans (Up.alloc _ (.cells #[.slice none 0 0, .slice none 0 0] 39))
 have oh : aG S ((w.alloc (.cells #[P, N] 39)).alloc (.cells #[.slice none 0 0, .slice none 0 0] 39)) (.agg #[P, N]) t := aG.keep ⟨P, N, rfl, hP, hN⟩ (hu.kept _)
 have e9 := aa (yH S _ _ t oh hp hn hz)
 have HT := aa oh
 have HU := aa hu
 have iE := aa ((Up.alloc _ (.cells #[.slice none 0 0, .slice none 0 0] 39)).cell (cB w P N 39))
 have dM := aa ((Up.alloc _ (.cells #[.slice none 0 0, .slice none 0 0] 39)).cell (cI w P N 39))
 have hc0 := iE.out
 have hc1 := dM.out
 have hrb := kA (w := w.alloc (.cells #[P, N] 39)) (P := .slice none 0 0) (N := .slice none 0 0) (T := 39)
 have hsz : ((w.alloc (.cells #[P, N] 39)).alloc (.cells #[.slice none 0 0, .slice none 0 0] 39)).heap.size = w.heap.size + 2 := by simp
 rw [World.size_alloc] at hrb
 have gu := aa hrb
 have cO := aa hsz
 clear hu oh hP hN hrb hsz
 go_enter Tryz.func91, Tryz.ntmps91
 go_wp2_with fail
 generalize (w.alloc (.cells #[P, N] 39)).alloc (.cells #[.slice none 0 0, .slice none 0 0] 39) = w1 at *
 refine e9.out.mono ?_
 rintro e w2 ⟨rfl, hb2⟩
 have aC : Up w1 w2 := hb2
 have hc0 := aC.cell iE.out
 have hc1 := aC.cell dM.out
 have zv := aa (HT.out.keep (aC.kept S))
 have gN := (Below.block aC (w.heap.size + 1) (by rw [cO.out]; omega)).trans gu.out
 have bU := aa (HU.out.trans aC)
 have xC : Hid (w.heap.size + 2 ≤ w2.heap.size) := by unfold Hid; have := aC.size; rw [cO.out] at this; exact this
 clear hb2 aC e9 HT HU iE dM gu
 by_cases he : aB t = 0
 ·have HE := aa he
  rw [he]
  have oF := aa gN
  have jd := aa (JD S w2 _ t zv.out he hz)
  clear gN he
  go_wp2_with fail
  refine jd.out.mono ?_
  rintro e w4 ⟨dL, _, rfl, P4, N4, rfl, nD, nE⟩
  obtain ⟨pp, pc, rfl, _, _⟩ := av.open nD
  obtain ⟨np, nc, rfl, _, _⟩ := av.open nE
  have ji := (Below.block dL (w.heap.size + 1) (by have := xC.out; omega)).trans oF.out
  have rF : w4.cell? ⟨w.heap.size + 1, 0, none⟩ = some (.slice none 0 0) := by simp [World.cell?, ji]
  have hr1 : w4.cell? ⟨w.heap.size + 1, 1, none⟩ = some (.slice none 0 0) := by simp [World.cell?, ji]
  have uv : w4.frozen? ⟨w.heap.size + 1, 0, none⟩ = false := by simp [World.frozen?, ji]
  have lB : w4.frozen? ⟨w.heap.size + 1, 1, none⟩ = false := by simp [World.frozen?, ji]
  have DJ := aa nD
  have Ow := aa nE
  have HST := aa (eM (w := w) (p := .slice pp (gM t).ps.length pc) (q := .slice np (gM t).ns.length nc) ji (by omega) (bU.out.trans dL))
  clear nD nE dL ji jd oF hc0 hc1
  go_wp2_with fail
  obtain ⟨s1, s2, s3, s4⟩ := HST.out
  have hs2 := xC.out
  refine ⟨rfl, .tuple #[.agg #[.slice pp (gM t).ps.length pc, .slice np (gM t).ns.length nc], .int .i64 0], by simp [results, Tryz.results91, go_sem, s2, s3], ?_⟩
  exact ⟨s1, .inr ⟨HE.out, _, rfl, _, _, rfl, (af.keep DJ.out fun b hb _ => s4 b (by omega)).sub fun b hb _ => by omega, (ay.keep Ow.out fun b hb _ => s4 b (by omega)).sub fun b hb _ => by omega⟩⟩
 ·have FW : (aB t != 0) = true := by simpa using he
  have rF : w2.cell? ⟨w.heap.size + 1, 0, none⟩ = some (.slice none 0 0) := by simp [World.cell?, gN]
  have hr1 : w2.cell? ⟨w.heap.size + 1, 1, none⟩ = some (.slice none 0 0) := by simp [World.cell?, gN]
  have uv : w2.frozen? ⟨w.heap.size + 1, 0, none⟩ = false := by simp [World.frozen?, gN]
  have lB : w2.frozen? ⟨w.heap.size + 1, 1, none⟩ = false := by simp [World.frozen?, gN]
  have HST := aa (eM (w := w) (p := .slice none 0 0) (q := .slice none 0 0) gN (by omega) bU.out)
  have HE := aa he
  clear he gN hc0 hc1
  generalize aB t = te at FW ⊢
  go_wp2_with fail
  obtain ⟨s1, s2, s3, s4⟩ := HST.out
  refine ⟨rfl, .tuple #[.agg #[.slice none 0 0, .slice none 0 0], .int .i64 1], by simp [results, Tryz.results91, go_sem, s2, s3], ?_⟩
  exact ⟨s1, .inl ⟨HE.out, rfl⟩⟩
end
section
open Go.RowKit Go.Deep
end
section
deriving instance DecidableEq for aA
def insB (f : Nat → ByteArray) (a : Nat) : List Nat → List Nat
 | [] => [a]
 | b :: l => if mL f a b then a :: b :: l else b :: insB f a l
def p7 (f : Nat → ByteArray) : List Nat → List Nat
 | [] => []
 | a :: l => insB f a (p7 f l)
theorem Bc (f : Nat → ByteArray) (a : Nat) (l₂ : List Nat) (h2 : ∀ b ∈ l₂, mL f a b = true) : ∀ l₁ : List Nat, (∀ b ∈ l₁, mL f a b = false) → insB f a (l₁ ++ l₂) = l₁ ++ a :: l₂
 | [], _ => by
  cases l₂ with
  | nil => rfl
  | cons b l => simp only [List.nil_append, insB]; rw [if_pos (h2 b (by simp))]
 | b :: l₁, h1 => by
  simp only [List.cons_append, insB]
  rw [if_neg (by rw [h1 b (by simp)]; decide), Bc f a l₂ h2 l₁ fun c hc => h1 c (by simp [hc])]
theorem rH (f : Nat → ByteArray) : ∀ l, cD f l = p7 f l
 | [] => by unfold cD; simp [p7]
 | a :: l => by
  have ih := rH f l
  obtain ⟨l₁, l₂, h1, h2, h3⟩ := List.mergeSort_cons (Dn f) (Dp f) a l
  have hs := ru f (a :: l)
  unfold cD at hs ih ⊢
  rw [h1] at hs ⊢
  show _ = insB f a (p7 f l)
  rw [← ih, h2]
  refine (Bc f a l₂ (fun b hb => ?_) l₁ fun b hb => by simpa using h3 b hb).symm
  have h4 := (List.pairwise_append.1 hs).2.1
  exact (List.pairwise_cons.1 h4).1 b hb
def L3 (F : aT) : Nat → Nat → ByteArray
 | 0, i => F.nm i
 | d + 1, i => match p7 (L3 F d) (F.kids i) with | [] => F.nm i | k :: _ => L3 F d k
theorem Ox (F : aT) : ∀ d, lsD F d = L3 F d
 | 0 => rfl
 | d + 1 => by
  funext i
  show (match cD (lsD F d) (F.kids i) with | [] => F.nm i | k :: _ => lsD F d k) = _
  rw [Ox F d, rH]; rfl
def Rz (F : aT) (rk : Nat → Nat) (i : Nat) : ByteArray := L3 F (rk i) i
theorem VC (F : aT) (rk : Nat → Nat) : fA F rk = Rz F rk := by
 funext i; unfold fA Rz; rw [Ox]
def L8 (t : aA) : aT := { cF t with kids := fun i => if bK (cF t) (bM t) 0 i then p7 (Rz (cF t) (bM t)) ((cF t).kids i) else (cF t).kids i }
theorem RA (t : aA) : iV t = L8 t := by
 unfold iV aT.gZ L8
 rw [VC]
 congr 1
 funext i
 show (if (false || bK (cF t) (bM t) 0 i) = true then _ else _) = _
 rw [Bool.false_or]
 split
 ·rw [rH]
 ·rfl
theorem RB (t : aA) : gM t = fG (L8 t) (bM t) 0 := by unfold gM; rw [RA]
end
section
open Go.RowKit Go.Deep
def Xf (w : World) (l : List Nat) (e : Ending) (w' : World) : Prop := Below w.heap.size w w' ∧ ∃ v, e = .returned v ∧ af (fun b => w.heap.size ≤ b) w' v (er l)
set_option maxHeartbeats 800000 in
theorem Ke (S : Nat → Prop) (w : World) (v : Value) (t : aA) (n : Nat) (h : aG S w v t) (hp : t.ps.length ≤ 1000000) (hn : n < t.ps.length) :
  Calls Tryz.prog 132 #[v, .int .i64 n] w (Xf w (bu t.ps n)) := by
 obtain ⟨P, N, rfl, hP, hN⟩ := h
 have hb0 : Below w.heap.size w (w.alloc (.cells #[P, N] 39)) := (Below.refl _ _).alloc (Nat.le_refl _) _
 have wh := hP.keep (Kept.below hb0)
 have qX : (w.alloc (.cells #[P, N] 39)).cell? ⟨w.heap.size, 0, none⟩ = some P := by simp [World.cell?_alloc_new]
 obtain ⟨ps, ns⟩ := t
 simp only at *
 obtain ⟨p, cap, rfl, hcap, HP⟩ := av.open wh
 have hsz : (w.alloc (.cells #[.slice p ps.length cap, N] 39)).heap.size = w.heap.size + 1 := by simp
 have HS := aa hsz
 have gm := aa hb0
 have uf := aa qX
 have zk := aa HP
 clear HP wh hP hN hb0 qX hsz
 go_enter Tryz.func132, Tryz.ntmps132
 go_wp2_with fail
 generalize hw0 : w.alloc (.cells #[.slice p ps.length cap, N] 39) = w0 at *
 clear hw0
 go_loopw [5, 6] (fun v i wr => ∃ k : Nat, n + 1 ≤ k ∧ k ≤ ps.length ∧ i = .int .i64 k ∧ ah (w.heap.size + 1) 3 wr v ((er (bG ps n k)).map (Value.int .i64)) ∧ Below (w.heap.size + 1) w0 wr) (fun _ i _ => ps.length - (intOf i).toNat)
 case atStart => exact ⟨n + 1, Nat.le_refl _, by omega, by go_num, by rw [Jt]; exact ah.nil _ _ _, Below.refl _ _⟩
 case round =>
  obtain ⟨k, gT, hk, rfl, hown, hbr⟩ := hrel
  have qX : wr.cell? ⟨w.heap.size, 0, none⟩ = some (.slice p ps.length cap) := (hbr.cell (p := ⟨w.heap.size, 0, none⟩) (by simp)).trans uf.out
  by_cases hlt : k < ps.length
  ·obtain ⟨b, off, rfl, hc0⟩ := zk.out k hlt
   have hc : wr.cell? ⟨b, off + k, none⟩ = some (.int .i64 (gi ps k)) := by
    rw [hbr.cell (p := ⟨b, off + k, none⟩) (by have := World.block_lt_of_cell? _ _ hc0; have := HS.out; simp at *; omega)]; exact hc0
   have hsz : w.heap.size + 1 ≤ wr.heap.size := by have := hbr.size; have := HS.out; omega
   have A2 := kV ps n k
   have Dk := aa A2
   have dr : Hid (((er (bG ps n k)).map (Value.int .i64)).length ≤ 1000000) := by
    have := o9 ps n k
    unfold Hid er; rw [List.length_map, List.length_map]; omega
   clear hc0 A2 zk
   generalize Dh : gi ps k = x at *
   clear Dh
   by_cases hx : x = n
   ·have hx1 : (x == (n : Int)) = true := by simp [hx]
    have HX : Hid (n < k ∧ x = n) := ⟨by omega, hx⟩
    clear hx
    go_wp2_with (at_builtin; refine lM wr rfl _ _ 26 rfl (w.heap.size + 1) 3 _ 8 Tryz.underlying26 Tryz.fU rfl (by decide) hown rfl _ rfl rfl dr.out hsz ?_; intro g cap w2 hown1 hg1 hb1)
    go_roundw
    case rel => exact ⟨k + 1, by omega, by omega, by go_num, by rw [Dk.out, if_pos HX.out, E2, List.map_append]; rw [List.length_map] at hown1; exact hown1, hbr.trans hb1⟩
    case measure => simp [intOf]; omega
   ·have hx1 : (x == (n : Int)) = false := by simpa using hx
    have HX : Hid ¬ (n < k ∧ x = n) := fun h => hx h.2
    clear hx
    go_wp2_with fail
    go_roundw
    case rel => exact ⟨k + 1, by omega, by omega, by go_num, by rw [Dk.out, if_neg HX.out, List.append_nil]; exact hown, hbr⟩
    case measure => simp [intOf]; omega
  ·obtain rfl : k = ps.length := by omega
   clear hlt hk
   go_wp2_with fail
   go_ret
   exact ⟨gm.out.trans (hbr.mono (by omega)), _, rfl, hown.ints.sub fun b hb _ => by omega⟩
end
section
open Go.RowKit Go.Deep
end
end Go.Proofs.YtpnmblnahjjmhaaGreat
