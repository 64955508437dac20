/- The plain law of forests in which no node has two parents and no two leaves one name: .. -/
import Derived.Test.YteegefnjnikngaaGreatQ1
import Derived.Test.YteegefnjnikngaaGreatQ13
import Derived.Test.YteegefnjnikngaaGreatQ14
import Derived.Test.YteegefnjnikngaaGreatQ15
import Derived.Laws.Bits64b
import Derived.Laws.BitsAllLaws
set_option maxRecDepth 100000
namespace Go.Proofs.YteegefnjnikngaaGreat
section
theorem fV {F : aL} {n : Nat} {rk : Nat → Nat} (h : Wf F n rk) {i : Nat} (hi : i < n) : bA F rk i i = true := by rw [fh h hi]; simp
theorem ku {F : aL} {n : Nat} {rk : Nat → Nat} (h : Wf F n rk) {i k j : Nat} (hi : i < n) (hk : k ∈ F.kids i) (hj : bA F rk k j = true) : bA F rk i j = true := by
 rw [fh h hi, Bool.or_eq_true]; exact .inr (List.any_eq_true.2 ⟨k, hk, hj⟩)
theorem nP {F : aL} {n : Nat} {rk : Nat → Nat} (h : Wf F n rk) {i j : Nat} (hi : i < n) (hj : bA F rk i j = true) : j = i ∨ ∃ k ∈ F.kids i, bA F rk k j = true := by
 rw [fh h hi, Bool.or_eq_true] at hj
 rcases hj with h1 | h1
 ·exact .inl (by simpa using h1)
 ·obtain ⟨k, hk, h2⟩ := List.any_eq_true.1 h1
  exact .inr ⟨k, hk, h2⟩
theorem l9 {F : aL} {n : Nat} {rk : Nat → Nat} (h : Wf F n rk) : ∀ {d i j : Nat}, i < n → rk i ≤ d → bA F rk i j = true → j < n := by
 intro d
 induction d with
 | zero =>
  intro i j hi hd hj
  rcases nP h hi hj with rfl | ⟨k, hk, h1⟩
  ·exact hi
  ·have := (h.kid i hi k hk).2; omega
 | succ d ih =>
  intro i j hi hd hj
  rcases nP h hi hj with rfl | ⟨k, hk, h1⟩
  ·exact hi
  ·have := h.kid i hi k hk
   exact ih this.1 (by omega) h1
structure qh (F : aL) (n : Nat) (rk : Nat → Nat) : Prop where
 wf : Wf F n rk
 one : ∀ p q k, p < n → q < n → k ∈ F.kids p → k ∈ F.kids q → p = q
 nodup : ∀ i, i < n → (F.kids i).Nodup
 names : ∀ a b, a < n → b < n → F.kids a = [] → F.kids b = [] → F.nm a = F.nm b → a = b
section
variable {F : aL} {n : Nat} {rk : Nat → Nat}
theorem nQ (h : Wf F n rk) : ∀ {d x j : Nat}, x < n → rk x ≤ d → bA F rk x j = true → j ≠ x → ∃ p, p < n ∧ j ∈ F.kids p ∧ bA F rk x p = true := by
 intro d
 induction d with
 | zero =>
  intro x j hx hd hj hne
  rcases nP h hx hj with e | ⟨k, hk, h1⟩
  ·exact absurd e hne
  ·have := (h.kid x hx k hk).2; omega
 | succ d ih =>
  intro x j hx hd hj hne
  rcases nP h hx hj with e | ⟨k, hk, h1⟩
  ·exact absurd e hne
  ·have hkk := h.kid x hx k hk
   by_cases e : j = k
   ·exact ⟨x, hx, by rw [e]; exact hk, fV h hx⟩
   ·obtain ⟨p, hp, h2, h3⟩ := ih hkk.1 (by omega) h1 e
    exact ⟨p, hp, h2, ku h hx hk h3⟩
theorem KD (h : qh F n rk) {R : Nat} (hR : ∀ i, i < n → rk i ≤ R) : ∀ {m j x y : Nat}, R - rk j ≤ m → j < n → x < n → y < n → bA F rk x j = true → bA F rk y j = true → bA F rk x y = true ∨ bA F rk y x = true := by
 intro m
 induction m with
 | zero =>
  intro j x y hm hj hx hy h1 h2
  by_cases e1 : j = x
  ·subst e1; exact .inr h2
  ·obtain ⟨p, hp, hk, _⟩ := nQ h.wf hx (Nat.le_refl _) h1 e1
   have := (h.wf.kid p hp j hk).2
   have := hR p hp
   omega
 | succ m ih =>
  intro j x y hm hj hx hy h1 h2
  by_cases e1 : j = x
  ·subst e1; exact .inr h2
  ·by_cases e2 : j = y
   ·subst e2; exact .inl h1
   ·obtain ⟨p, hp, hk, h3⟩ := nQ h.wf hx (Nat.le_refl _) h1 e1
    obtain ⟨q, hq, hk2, h4⟩ := nQ h.wf hy (Nat.le_refl _) h2 e2
    obtain rfl := h.one p q j hp hq hk hk2
    have h5 := (h.wf.kid p hp j hk).2
    have h6 := hR p hp
    exact ih (by omega) hp hx hy h3 h4
theorem xE (h : qh F n rk) {R : Nat} (hR : ∀ i, i < n → rk i ≤ R) {i x y j : Nat} (hi : i < n) (hx : x ∈ F.kids i) (hy : y ∈ F.kids i) (h1 : bA F rk x j = true) (h2 : bA F rk y j = true) : x = y := by
 have mO := h.wf.kid i hi x hx
 have KE := h.wf.kid i hi y hy
 have hj := l9 h.wf mO.1 (Nat.le_refl _) h1
 have key : ∀ {a b : Nat}, a ∈ F.kids i → b ∈ F.kids i → a < n → rk a < rk i → bA F rk a b = true → a = b := fun {a b} ha hb KF har hab => by
  by_cases e : b = a
  ·exact e.symm
  ·obtain ⟨p, hp, hk, h3⟩ := nQ h.wf KF (Nat.le_refl _) hab e
   obtain rfl := h.one p i b hp hi hk hb
   have := kJ h.wf KF h3; omega
 rcases KD h hR (Nat.le_refl _) hj mO.1 KE.1 h1 h2 with h3 | h3
 ·exact key hx hy mO.1 mO.2 h3
 ·exact (key hy hx KE.1 KE.2 h3).symm
theorem Gm (h : Wf F n rk) : ∀ {d i : Nat}, i < n → rk i ≤ d → ∃ j, j < n ∧ bA F rk i j = true ∧ F.kids j = [] ∧ ek F rk i = F.nm j := by
 intro d
 induction d with
 | zero =>
  intro i hi hd
  have hk : F.kids i = [] := by
   cases hk : F.kids i with
   | nil => rfl
   | cons k l => have := (h.kid i hi k (by rw [hk]; simp)).2; omega
  exact ⟨i, hi, fV h hi, hk, by rw [oH h hi, hk]; simp [bT]⟩
 | succ d ih =>
  intro i hi hd
  by_cases hk : F.kids i = []
  ·exact ⟨i, hi, fV h hi, hk, by rw [oH h hi, hk]; simp [bT]⟩
  ·obtain ⟨k, l, hs⟩ : ∃ k l, bT (ek F rk) (F.kids i) = k :: l := by
    cases hs : bT (ek F rk) (F.kids i) with
    | nil => have h1 := (cU (ek F rk) (F.kids i)).length_eq; rw [hs] at h1; exact absurd (List.length_eq_zero_iff.1 h1.symm) hk
    | cons k l => exact ⟨k, l, rfl⟩
   have hki : k ∈ F.kids i := (cU (ek F rk) _).mem_iff.1 (by rw [hs]; simp)
   have hkk := h.kid i hi k hki
   obtain ⟨j, hj, h1, h2, h3⟩ := ih hkk.1 (by omega)
   exact ⟨j, hj, ku h hi hki h1, h2, by rw [oH h hi, hs]; exact h3⟩
theorem qh.Ng (h : qh F n rk) (hl : ∀ i, i < n → (F.kids i).length ≤ 1000) {R : Nat} (hR : ∀ i, i < n → rk i ≤ R) : xz F n rk := by
 refine ⟨h.wf, fun i hi x hx y hy e => ?_, h.nodup, hl⟩
 have mO := h.wf.kid i hi x hx
 have KE := h.wf.kid i hi y hy
 obtain ⟨a, ha, h1, h2, h3⟩ := Gm h.wf mO.1 (Nat.le_refl _)
 obtain ⟨b, hb, h4, h5, h6⟩ := Gm h.wf KE.1 (Nat.le_refl _)
 rw [h3, h6] at e
 obtain rfl := h.names a b ha hb h2 h5 e
 exact xE h hR hi hx hy h1 h4
def bz (F : aL) (rk : Nat → Nat) (i : Nat) : List Nat := (cK F rk i none).map (·.1)
theorem Gn (h : Wf F n rk) : ∀ {d i : Nat} (p q : Option Nat), i < n → rk i ≤ d → (cK F rk i p).map (·.1) = (cK F rk i q).map (·.1) := by
 intro d
 cases d with
 | zero => intro i p q hi hd; rw [eH h hi, eH h hi]; rfl
 | succ d => intro i p q hi hd; rw [eH h hi, eH h hi]; rfl
theorem bI (h : Wf F n rk) {i : Nat} (hi : i < n) : bz F rk i = i :: (F.kids i).flatMap fun k => bz F rk k := by
 unfold bz
 rw [eH h hi, List.map_cons, List.map_flatMap]
 congr 1
 exact fk fun k hk => Gn h _ _ (h.kid i hi k hk).1 (Nat.le_refl _)
theorem cV (h : Wf F n rk) : ∀ {d i j : Nat}, i < n → rk i ≤ d → (j ∈ bz F rk i ↔ bA F rk i j = true) := by
 intro d
 induction d with
 | zero =>
  intro i j hi hd
  rw [bI h hi, fh h hi]
  have hk : F.kids i = [] := by
   cases hk : F.kids i with
   | nil => rfl
   | cons k l => have := (h.kid i hi k (by rw [hk]; simp)).2; omega
  simp [hk]
 | succ d ih =>
  intro i j hi hd
  rw [bI h hi, fh h hi]
  simp only [List.mem_cons, List.mem_flatMap, Bool.or_eq_true, beq_iff_eq, List.any_eq_true]
  constructor
  ·rintro (e | ⟨k, hk, h1⟩)
   ·exact .inl e
   ·have := h.kid i hi k hk
    exact .inr ⟨k, hk, (ih this.1 (by omega)).1 h1⟩
  ·rintro (e | ⟨k, hk, h1⟩)
   ·exact .inl e
   ·have := h.kid i hi k hk
    exact .inr ⟨k, hk, (ih this.1 (by omega)).2 h1⟩
theorem gU (h : qh F n rk) {R : Nat} (hR : ∀ i, i < n → rk i ≤ R) : ∀ {d i : Nat}, i < n → rk i ≤ d → (bz F rk i).Nodup := by
 intro d
 induction d with
 | zero =>
  intro i hi hd
  rw [bI h.wf hi]
  have hk : F.kids i = [] := by
   cases hk : F.kids i with
   | nil => rfl
   | cons k l => have := (h.wf.kid i hi k (by rw [hk]; simp)).2; omega
  simp [hk]
 | succ d ih =>
  intro i hi hd
  rw [bI h.wf hi, List.nodup_cons]
  refine ⟨fun hm => ?_, ?_⟩
  ·obtain ⟨k, hk, h1⟩ := List.mem_flatMap.1 hm
   have hkk := h.wf.kid i hi k hk
   have := kJ h.wf hkk.1 ((cV h.wf hkk.1 (Nat.le_refl _)).1 h1); omega
  ·have hsub : ∀ l : List Nat, l.Nodup → (∀ k ∈ l, k ∈ F.kids i) → (l.flatMap fun k => bz F rk k).Nodup := by
    intro l
    induction l with
    | nil => intro _ _; simp
    | cons x l ihl =>
     intro hn hin
     obtain ⟨hx, hl⟩ := List.nodup_cons.1 hn
     have Zc := h.wf.kid i hi x (hin x (by simp))
     rw [List.flatMap_cons, List.nodup_append]
     refine ⟨ih Zc.1 (by omega), ihl hl (fun k hk => hin k (by simp [hk])), fun a ha b hb e => ?_⟩
     subst e
     obtain ⟨y, hy, h2⟩ := List.mem_flatMap.1 hb
     have hyy := h.wf.kid i hi y (hin y (by simp [hy]))
     have := xE h hR hi (hin x (by simp)) (hin y (by simp [hy])) ((cV h.wf Zc.1 (Nat.le_refl _)).1 ha) ((cV h.wf hyy.1 (Nat.le_refl _)).1 h2)
     subst this; exact hx hy
   exact hsub _ (h.nodup i hi) (fun k hk => hk)
theorem mg {l : List Nat} {n : Nat} (h : l.Nodup) (hl : ∀ x ∈ l, x < n) : l.length ≤ n := by
 have h1 : l ⊆ List.range n := fun x hx => List.mem_range.2 (hl x hx)
 have := h.length_le_of_subset h1
 simpa using this
theorem QW (h : qh F n rk) {R : Nat} (hR : ∀ i, i < n → rk i ≤ R) {i : Nat} (hi : i < n) (p : Option Nat) : (cK F rk i p).length ≤ n := by
 have h1 : (cK F rk i p).length = (bz F rk i).length := by
  have := congrArg List.length (Gn h.wf p none hi (Nat.le_refl _))
  simpa [bz] using this
 rw [h1]
 exact mg (gU h hR hi (Nat.le_refl _)) (fun x hx => l9 h.wf hi (Nat.le_refl _) ((cV h.wf hi (Nat.le_refl _)).1 hx))
theorem qh.fO (h : qh F n rk) (p : Nat → Bool) : qh (F.fO rk p) n rk :=
 ⟨⟨fun i hi k hk => h.wf.kid i hi k ((F.fB rk p i).mem_iff.1 hk)⟩, fun a b k ha hb h1 h2 => h.one a b k ha hb ((F.fB rk p a).mem_iff.1 h1) ((F.fB rk p b).mem_iff.1 h2), fun i hi => (F.fB rk p i).symm.nodup_iff.1 (h.nodup i hi),
  fun a b ha hb h1 h2 e => h.names a b ha hb (List.perm_nil.1 (by rw [← h1]; exact (F.fB rk p a).symm)) (List.perm_nil.1 (by rw [← h2]; exact (F.fB rk p b).symm)) e⟩
end
def cB (t : av) (i : Nat) : Nat := t.ps.length - i
theorem kz (t : av) (i : Nat) : (eG t).kids i = bX t.ps i := rfl
theorem dh {t : av} (h : aB t = 0) : qh (eG t) t.ps.length (cB t) := by
 obtain ⟨hp, _, hn, hok, he⟩ := aI h
 refine ⟨⟨fun i hi k hk => ?_⟩, fun p q k _ _ h1 h2 => ?_, fun i _ => ?_, fun a b ha hb h1 h2 e => ?_⟩
 ·obtain ⟨h1, h2, _⟩ := eY.1 hk
  exact ⟨h1, by unfold cB; omega⟩
 ·obtain ⟨_, _, h3⟩ := eY.1 h1
  obtain ⟨_, _, h4⟩ := eY.1 h2
  omega
 ·exact List.Pairwise.filter _ List.nodup_range
 ·have leaf : ∀ i, i < t.ps.length → bX t.ps i = [] → isIn t.ps i = false := fun i hi hk => by
   cases hin : isIn t.ps i with
   | false => rfl
   | true => exact absurd hk ((kE hok i).2 hin)
  have e : gs t.ns a = gs t.ns b := e
  rcases Nat.lt_trichotomy a b with hab | hab | hab
  ·have h3 := (ya h hb (leaf b hb h2)).2
   have := any_false h3 hab
   simp [e] at this
  ·exact hab
  ·have h3 := (ya h ha (leaf a ha h1)).2
   have := any_false h3 hab
   simp [e] at this
theorem rE (t : av) (i : Nat) : cB t i ≤ t.ps.length := Nat.sub_le _ _
end
section
open Go.RowKit Go.Deep
end
section
open Go.RowKit Go.Deep
def iB (t : av) : aL := (eG t).fO (cB t) fun j => false || bA (eG t) (cB t) 0 j
def nu (t : av) : av := ew (iB t) (cB t) 0
theorem lB (t : av) (i : Nat) : ((eG t).kids i).length ≤ t.ps.length := by rw [kz]; exact mM _ _ _
theorem Dr {t : av} (h : aB t = 0) : qh (iB t) t.ps.length (cB t) := (dh h).fO _
theorem Ck (t : av) (i : Nat) : ((iB t).kids i).length ≤ t.ps.length := by
 have h := ((eG t).fB (cB t) (fun j => false || bA (eG t) (cB t) 0 j) i).length_eq
 have h2 := lB t i
 unfold iB; omega
theorem fW {w : World} {P N : Value} {T : TypeId} : (w.alloc (.cells #[P, N] T)).heap[w.heap.size]? = some (.cells #[P, N] T (0, 0)) := World.alloc_heap_new _ _
set_option maxHeartbeats 2000000 in
theorem FL (S : Nat → Prop) (w : World) (v : Value) (t : av) (hT : ay S w v t) (he : aB t = 0) (hz : ∀ k, (gs t.ns k).size ≤ 70000) : Calls Tryz.prog 139 #[v] w (Kv w (nu t)) := by
 obtain ⟨kW, zL, hnl, hok, _⟩ := aI he
 obtain ⟨P, N, rfl, hP, hN⟩ := hT
 have hu := (Up.alloc w (.cells #[P, N] 39)).trans (Up.alloc _ (.cells #[.slice none 0 0, .slice none 0 0] 39))
 have iL : ay S ((w.alloc (.cells #[P, N] 39)).alloc (.cells #[.slice none 0 0, .slice none 0 0] 39)) (.agg #[P, N]) t := ay.keep ⟨P, N, rfl, hP, hN⟩ (hu.kept _)
 have HN := aa (QN S _ _ t iL (by omega) hnl hok hz)
 have HU := aa hu
 have hc0 := (Up.alloc _ (.cells #[.slice none 0 0, .slice none 0 0] 39)).cell (dO w P N 39)
 have hc1 := (Up.alloc _ (.cells #[.slice none 0 0, .slice none 0 0] 39)).cell (dP w P N 39)
 have hrb := fW (w := w.alloc (.cells #[P, N] 39)) (P := .slice none 0 0) (N := .slice none 0 0) (T := 39)
 have hsz : ((w.alloc (.cells #[P, N] 39)).alloc (.cells #[.slice none 0 0, .slice none 0 0] 39)).heap.size = w.heap.size + 2 := by simp
 rw [World.size_alloc] at hrb
 have jJ := aa hrb
 have b5 := aa hsz
 have AO := aa (dh he)
 have A2 := aa (Dr he)
 clear hu iL hP hN hrb hsz hnl hok
 go_enter Tryz.func139, Tryz.ntmps139
 go_wp2_with fail
 generalize (w.alloc (.cells #[P, N] 39)).alloc (.cells #[.slice none 0 0, .slice none 0 0] 39) = w1 at *
 refine HN.out.mono ?_
 rintro e w2 ⟨aF, g, A, kv, rfl, hF, hrow⟩
 have iq := hrow.cell (i := 0) kW
 have Ds := aa hF
 have bE := aa aF
 have gV := aa ((Below.block aF (w.heap.size + 1) (by rw [b5.out]; omega)).trans jJ.out)
 have hs2 := aF.size
 simp only [aT] at iq
 have hpos : (0 : Int) < (t.ps.length : Int) := by omega
 clear aF hF hrow hc0 hc1 HN
 go_wp2_with fail
 have Tr : aR w1.heap.size t.ps.length A kv ((eG t).fO (cB t) fun _ => false) w2 := Ds.out.congr fun j _ => ⟨rfl, rfl, rfl⟩
 have uC := aa (M5 (AO.out.Ng (fun i _ => by have := lB t i; omega) (fun i _ => rE t i)) (cB t 0) 0 (fun _ => false) w2 kW (Nat.le_refl _) Tr)
 clear iq
 refine uC.out.mono ?_
 rintro e w3 ⟨rfl, Gh, Zd⟩
 have hb3 : Below w1.heap.size w2 w3 := Zd.below Tr hs2
 have Ts := aa ((hb3.block (w.heap.size + 1) (by rw [b5.out]; omega)).trans gV.out)
 have dL : Hid (Up w1 w3) := Below.trans bE.out hb3
 have Gp := aa (Kw (F := iB t) (rk := cB t) A2.out.wf (fun i _ => by have := Ck t i; omega) w3 0 kW Gh (by have := QW A2.out (fun i _ => rE t i) kW none; omega))
 clear Gh Zd hb3 uC Ds Tr gV bE
 go_wp2_with fail
 refine Gp.out.mono ?_
 rintro e w4 ⟨b6, _, rfl, P4, N4, rfl, dD, dF⟩
 obtain ⟨pp, pc, rfl, _, _⟩ := aA.open dD
 obtain ⟨np, nc, rfl, _, _⟩ := aA.open dF
 have gW := (Below.block b6 (w.heap.size + 1) (by have := dL.out.size; rw [b5.out] at this; omega)).trans Ts.out
 have iX : w4.cell? ⟨w.heap.size + 1, 0, none⟩ = some (.slice none 0 0) := by simp [World.cell?, gW]
 have hr1 : w4.cell? ⟨w.heap.size + 1, 1, none⟩ = some (.slice none 0 0) := by simp [World.cell?, gW]
 have Gl : w4.frozen? ⟨w.heap.size + 1, 0, none⟩ = false := by simp [World.frozen?, gW]
 have rD : w4.frozen? ⟨w.heap.size + 1, 1, none⟩ = false := by simp [World.frozen?, gW]
 have AY := aa dD
 have KG := aa dF
 have jV := aa b6
 have HRB4 := aa gW
 clear dD dF b6 gW Gp Ts
 go_wp2_with fail
 have b8 : ∀ b, b ≠ w.heap.size + 1 → ((w4.setCell ⟨w.heap.size + 1, 0, none⟩ (.slice pp (ew (iB t) (cB t) 0).ps.length pc)).setCell ⟨w.heap.size + 1, 1, none⟩ (.slice np (ew (iB t) (cB t) 0).ns.length nc)).heap[b]? = w4.heap[b]? := fun b hb => by rw [blk_setCell_other _ _ _ _ hb, blk_setCell_other _ _ _ _ hb]
 have hheap : ((w4.setCell ⟨w.heap.size + 1, 0, none⟩ (.slice pp (ew (iB t) (cB t) 0).ps.length pc)).setCell ⟨w.heap.size + 1, 1, none⟩ (.slice np (ew (iB t) (cB t) 0).ns.length nc)).heap[w.heap.size + 1]? = some (Obj.cells #[.slice pp (ew (iB t) (cB t) 0).ps.length pc, .slice np (ew (iB t) (cB t) 0).ns.length nc] 39 (0, 0)) := by
  simp [World.setCell, Array.getElem?_modify, HRB4.out]
 have b6 := HU.out.trans (dL.out.trans jV.out)
 have iN : Up w ((w4.setCell ⟨w.heap.size + 1, 0, none⟩ (.slice pp (ew (iB t) (cB t) 0).ps.length pc)).setCell ⟨w.heap.size + 1, 1, none⟩ (.slice np (ew (iB t) (cB t) 0).ns.length nc)) :=
  ⟨b6.os, b6.tape, b6.output, by simp [World.size_setCell]; exact b6.size, fun b hb => (b8 b (by omega)).trans (b6.block b hb)⟩
 have hs3 : w.heap.size + 2 ≤ w3.heap.size := by have := dL.out.size; rw [b5.out] at this; exact this
 generalize (w4.setCell ⟨w.heap.size + 1, 0, none⟩ (.slice pp (ew (iB t) (cB t) 0).ps.length pc)).setCell ⟨w.heap.size + 1, 1, none⟩ (.slice np (ew (iB t) (cB t) 0).ns.length nc) = w5 at *
 have iX : w5.cell? ⟨w.heap.size + 1, 0, none⟩ = some (.slice pp (ew (iB t) (cB t) 0).ps.length pc) := by simp [World.cell?, hheap]
 have hr1 : w5.cell? ⟨w.heap.size + 1, 1, none⟩ = some (.slice np (ew (iB t) (cB t) 0).ns.length nc) := by simp [World.cell?, hheap]
 refine ⟨rfl, .agg #[.slice pp (ew (iB t) (cB t) 0).ps.length pc, .slice np (ew (iB t) (cB t) 0).ns.length nc], by simp [results, Tryz.results139, go_sem, iX, hr1], ?_⟩
 exact ⟨iN, _, rfl, _, _, rfl, (ax.keep AY.out fun b hb _ => b8 b (by omega)).sub fun b hb _ => by omega, (au.keep KG.out fun b hb _ => b8 b (by omega)).sub fun b hb _ => by omega⟩
def Tt (w : World) (t : av) (e : Ending) (w' : World) : Prop :=
 Up w w' ∧ ((aB t ≠ 0 ∧ e = .returned (.tuple #[.agg #[.slice none 0 0, .slice none 0 0], .int .i64 1])) ∨ (aB t = 0 ∧ ∃ v, e = .returned (.tuple #[v, .int .i64 0]) ∧ ay (fun b => w.heap.size ≤ b) w' v (nu t)))
theorem dg {w w4 : World} {B : Nat} {x y p q : Value} {T : TypeId} (hb : w4.heap[B]? = some (Obj.cells #[x, y] T (0, 0))) (hB : w.heap.size ≤ B) (hu : Up w w4) :
  Up w ((w4.setCell ⟨B, 0, none⟩ p).setCell ⟨B, 1, none⟩ q) ∧ ((w4.setCell ⟨B, 0, none⟩ p).setCell ⟨B, 1, none⟩ q).cell? ⟨B, 0, none⟩ = some p ∧ ((w4.setCell ⟨B, 0, none⟩ p).setCell ⟨B, 1, none⟩ q).cell? ⟨B, 1, none⟩ = some q ∧
   ∀ b, b ≠ B → ((w4.setCell ⟨B, 0, none⟩ p).setCell ⟨B, 1, none⟩ q).heap[b]? = w4.heap[b]? := by
 have b8 : ∀ b, b ≠ B → ((w4.setCell ⟨B, 0, none⟩ p).setCell ⟨B, 1, none⟩ q).heap[b]? = w4.heap[b]? := fun b hb => by rw [blk_setCell_other _ _ _ _ hb, blk_setCell_other _ _ _ _ hb]
 have hheap : ((w4.setCell ⟨B, 0, none⟩ p).setCell ⟨B, 1, none⟩ q).heap[B]? = some (Obj.cells #[p, q] T (0, 0)) := by
  simp [World.setCell, Array.getElem?_modify, hb]
 exact ⟨⟨hu.os, hu.tape, hu.output, by simp [World.size_setCell]; exact hu.size, fun b hb => (b8 b (by omega)).trans (hu.block b hb)⟩, by simp [World.cell?, hheap], by simp [World.cell?, hheap], b8⟩
set_option maxHeartbeats 2000000 in
theorem Dt (S : Nat → Prop) (w : World) (v : Value) (t : av) (hT : ay S w v t) (hp : t.ps.length ≤ 1000000) (hn : t.ns.length ≤ 1000000) (hz : ∀ k, (gs t.ns k).size ≤ 70000) : Calls Tryz.prog 80 #[v] w (Tt w t) := by
 obtain ⟨P, N, rfl, hP, hN⟩ := hT
 have hu := (Up.alloc w (.cells #[P, N] 39)).trans (Up.alloc _ (.cells #[.slice none 0 0, .slice none 0 0] 39))
 have iL : ay S ((w.alloc (.cells #[P, N] 39)).alloc (.cells #[.slice none 0 0, .slice none 0 0] 39)) (.agg #[P, N]) t := ay.keep ⟨P, N, rfl, hP, hN⟩ (hu.kept _)
 have fN := aa (q8 S _ _ t iL hp hn hz)
 have HT := aa iL
 have HU := aa hu
 have dR := aa ((Up.alloc _ (.cells #[.slice none 0 0, .slice none 0 0] 39)).cell (dO w P N 39))
 have iu := aa ((Up.alloc _ (.cells #[.slice none 0 0, .slice none 0 0] 39)).cell (dP w P N 39))
 have hc0 := dR.out
 have hc1 := iu.out
 have hrb := fW (w := w.alloc (.cells #[P, N] 39)) (P := .slice none 0 0) (N := .slice none 0 0) (T := 39)
 have hsz : ((w.alloc (.cells #[P, N] 39)).alloc (.cells #[.slice none 0 0, .slice none 0 0] 39)).heap.size = w.heap.size + 2 := by simp
 rw [World.size_alloc] at hrb
 have jJ := aa hrb
 have b5 := aa hsz
 clear hu iL hP hN hrb hsz
 go_enter Tryz.func80, Tryz.ntmps80
 go_wp2_with fail
 generalize (w.alloc (.cells #[P, N] 39)).alloc (.cells #[.slice none 0 0, .slice none 0 0] 39) = w1 at *
 refine fN.out.mono ?_
 rintro e w2 ⟨rfl, hb2⟩
 have aF : Up w1 w2 := hb2
 have hc0 := aF.cell dR.out
 have hc1 := aF.cell iu.out
 have mP := aa (HT.out.keep (aF.kept S))
 have jk := (Below.block aF (w.heap.size + 1) (by rw [b5.out]; omega)).trans jJ.out
 have bE := aa (HU.out.trans aF)
 have jM : Hid (w.heap.size + 2 ≤ w2.heap.size) := by unfold Hid; have := aF.size; rw [b5.out] at this; exact this
 clear hb2 aF fN HT HU dR iu jJ
 by_cases he : aB t = 0
 ·have HE := aa he
  rw [he]
  have gV := aa jk
  have kG := aa (FL S w2 _ t mP.out he hz)
  clear jk he
  go_wp2_with fail
  refine kG.out.mono ?_
  rintro e w4 ⟨b6, _, rfl, P4, N4, rfl, dD, dF⟩
  obtain ⟨pp, pc, rfl, _, _⟩ := aA.open dD
  obtain ⟨np, nc, rfl, _, _⟩ := aA.open dF
  have gW := (Below.block b6 (w.heap.size + 1) (by have := jM.out; omega)).trans gV.out
  have iX : w4.cell? ⟨w.heap.size + 1, 0, none⟩ = some (.slice none 0 0) := by simp [World.cell?, gW]
  have hr1 : w4.cell? ⟨w.heap.size + 1, 1, none⟩ = some (.slice none 0 0) := by simp [World.cell?, gW]
  have Gl : w4.frozen? ⟨w.heap.size + 1, 0, none⟩ = false := by simp [World.frozen?, gW]
  have rD : w4.frozen? ⟨w.heap.size + 1, 1, none⟩ = false := by simp [World.frozen?, gW]
  have AY := aa dD
  have KG := aa dF
  have HST := aa (dg (w := w) (p := .slice pp (nu t).ps.length pc) (q := .slice np (nu t).ns.length nc) gW (by omega) (bE.out.trans b6))
  clear dD dF b6 gW kG gV hc0 hc1
  go_wp2_with fail
  obtain ⟨s1, s2, s3, s4⟩ := HST.out
  have hs2 := jM.out
  refine ⟨rfl, .tuple #[.agg #[.slice pp (nu t).ps.length pc, .slice np (nu t).ns.length nc], .int .i64 0], by simp [results, Tryz.results80, go_sem, s2, s3], ?_⟩
  exact ⟨s1, .inr ⟨HE.out, _, rfl, _, _, rfl, (ax.keep AY.out fun b hb _ => s4 b (by omega)).sub fun b hb _ => by omega, (au.keep KG.out fun b hb _ => s4 b (by omega)).sub fun b hb _ => by omega⟩⟩
 ·have yD : (aB t != 0) = true := by simpa using he
  have iX : w2.cell? ⟨w.heap.size + 1, 0, none⟩ = some (.slice none 0 0) := by simp [World.cell?, jk]
  have hr1 : w2.cell? ⟨w.heap.size + 1, 1, none⟩ = some (.slice none 0 0) := by simp [World.cell?, jk]
  have Gl : w2.frozen? ⟨w.heap.size + 1, 0, none⟩ = false := by simp [World.frozen?, jk]
  have rD : w2.frozen? ⟨w.heap.size + 1, 1, none⟩ = false := by simp [World.frozen?, jk]
  have HST := aa (dg (w := w) (p := .slice none 0 0) (q := .slice none 0 0) jk (by omega) bE.out)
  have HE := aa he
  clear he jk hc0 hc1
  generalize aB t = te at yD ⊢
  go_wp2_with fail
  obtain ⟨s1, s2, s3, s4⟩ := HST.out
  refine ⟨rfl, .tuple #[.agg #[.slice none 0 0, .slice none 0 0], .int .i64 1], by simp [results, Tryz.results80, go_sem, s2, s3], ?_⟩
  exact ⟨s1, .inl ⟨HE.out, rfl⟩⟩
end
section
open Go.RowKit Go.Deep
def Small (l : List Int) : Prop := ∀ k, k < l.length → 0 ≤ gi l k ∧ gi l k < 32
end
section
deriving instance DecidableEq for av
def insB (f : Nat → ByteArray) (a : Nat) : List Nat → List Nat
 | [] => [a]
 | b :: l => if kH f a b then a :: b :: l else b :: insB f a l
def qP (f : Nat → ByteArray) : List Nat → List Nat
 | [] => []
 | a :: l => insB f a (qP f l)
theorem yE (f : Nat → ByteArray) (a : Nat) (l₂ : List Nat) (h2 : ∀ b ∈ l₂, kH f a b = true) : ∀ l₁ : List Nat, (∀ b ∈ l₁, kH f a b = false) → insB f a (l₁ ++ l₂) = l₁ ++ a :: l₂
 | [], _ => by
  cases l₂ with
  | nil => rfl
  | cons b l => simp only [List.nil_append, insB]; rw [if_pos (h2 b (by simp))]
 | b :: l₁, h1 => by
  simp only [List.cons_append, insB]
  rw [if_neg (by rw [h1 b (by simp)]; decide), yE f a l₂ h2 l₁ fun c hc => h1 c (by simp [hc])]
theorem xF (f : Nat → ByteArray) : ∀ l, bT f l = qP f l
 | [] => by unfold bT; simp [qP]
 | a :: l => by
  have ih := xF f l
  obtain ⟨l₁, l₂, h1, h2, h3⟩ := List.mergeSort_cons (AE f) (AG f) a l
  have hs := oG f (a :: l)
  unfold bT at hs ih ⊢
  rw [h1] at hs ⊢
  show _ = insB f a (qP f l)
  rw [← ih, h2]
  refine (yE f a l₂ (fun b hb => ?_) l₁ fun b hb => by simpa using h3 b hb).symm
  have h4 := (List.pairwise_append.1 hs).2.1
  exact (List.pairwise_cons.1 h4).1 b hb
end
end Go.Proofs.YteegefnjnikngaaGreat
