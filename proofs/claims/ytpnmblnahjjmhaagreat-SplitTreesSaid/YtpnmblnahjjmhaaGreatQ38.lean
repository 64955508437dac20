/- The tree of the splits of a tree is this tree, rerooted: plain. The contract of phylotree.Ancestor. The contracts of layer 4's reference: Check, Has, bad, Intersect, Within. -/
import Derived.Test.YtpnmblnahjjmhaaGreatQ1
import Derived.Test.YtpnmblnahjjmhaaGreatQ36
import Derived.Test.YtpnmblnahjjmhaaGreatQ26
import Derived.Test.YtpnmblnahjjmhaaGreatQ24
import Derived.Test.YtpnmblnahjjmhaaGreatQ2
import Derived.Test.YtpnmblnahjjmhaaGreatQ3
import Derived.Test.YtpnmblnahjjmhaaGreatQ16
import Derived.Lib.MinMax
import Derived.Test.YtpnmblnahjjmhaaGreatQ9
import Derived.Test.YtpnmblnahjjmhaaGreatQ12
namespace Go.Proofs.YtpnmblnahjjmhaaGreat
set_option maxRecDepth 100000
section
theorem EJ : ∀ (d : Nat) (r : RT), aS r ≤ d → gX r → ∀ p ∈ subR r, ∀ q ∈ subR r, p ∈ subR q ∨ q ∈ subR p ∨ ∀ x, x ∈ bH p → x ∉ bH q
 | 0, r, hd, _ => by have := jX r; omega
 | d + 1, .node nm ks, hd, h => fun p hp q hq => by
  rw [subR, List.mem_cons] at hp hq
  rcases hp with rfl | hp
  ·exact .inr (.inl (by rw [subR, List.mem_cons]; exact hq))
  rcases hq with rfl | hq
  ·exact .inl (by rw [subR, List.mem_cons]; exact .inr hp)
  obtain ⟨k1, h1, hp⟩ := sD hp
  obtain ⟨k2, h2, hq⟩ := sD hq
  obtain ⟨i, hi, rfl⟩ := List.getElem_of_mem h1
  obtain ⟨j, hj, rfl⟩ := List.getElem_of_mem h2
  have h0 : ks ≠ [] := fun e => by subst e; simp at hi
  by_cases hij : i = j
  ·subst hij
   have hk := jO (nm := nm) (List.getElem_mem hi)
   exact EJ d _ (by have := Sa (nm := nm) (List.getElem_mem hi); omega) (h.sub hk) p hp q hq
  ·refine .inr (.inr fun x hx hx2 => ?_)
   have hn := h.nd
   rw [fU (show nm.size = 0 from h.uU _ (cE _) h0), List.nodup_iff_pairwise_ne, List.pairwise_flatMap] at hn
   have Ug := List.pairwise_iff_getElem.1 hn.2
   have e1 := (cQ hp).subset hx
   have e2 := (cQ hq).subset hx2
   rcases Nat.lt_trichotomy i j with c | c | c
   ·exact absurd rfl (Ug i j hi hj c x e1 x e2)
   ·exact hij c
   ·exact absurd rfl (Ug j i hj hi c x e2 x e1)
section
variable {names : List ByteArray} {t : aJ} {S : Nat → List Int} {l : List (List Int)} {la : Nat}
theorem Iq (h : iU t names) {x : Int} : x ∈ aW t names 0 ↔ 0 ≤ x ∧ x < (names.length : Int) := by
 constructor
 ·intro hx; have := iJ.1 hx; exact ⟨this.1, this.2.1⟩
 ·rintro ⟨x0, xn⟩
  obtain ⟨b, rfl⟩ := Int.eq_ofNat_of_zero_le x0
  obtain ⟨j, hj, h3, h4⟩ := sL h (show b < names.length by omega)
  exact iJ.2 ⟨x0, xn, j, hj, yq h.te j hj, h3, by rw [h4, oQ h.nd (by omega)]⟩
theorem Zk (h : iU t names) {x : ByteArray} : x ∈ bH (gh t) ↔ ∃ b : Nat, b < names.length ∧ x = gs names b := by
 have h1 := mT h (aP h.te).1 x
 constructor
 ·intro hx
  obtain ⟨b, hb, e⟩ := h1.1 hx
  have := (Iq h).1 hb
  exact ⟨b, by omega, e⟩
 ·rintro ⟨b, hb, e⟩
  exact h1.2 ⟨b, (Iq h).2 ⟨by omega, by omega⟩, e⟩
theorem S6 {n : Nat} {X Y : List Int} (hX : ∀ x ∈ X, 0 ≤ x ∧ x < (n : Int)) (hY : ∀ x ∈ Y, 0 ≤ x ∧ x < (n : Int)) (h : (∀ x ∈ X, x ∉ Y) ∨ (∀ x ∈ X, x ∈ Y) ∨ ∀ x ∈ Y, x ∈ X) :
  (∀ x ∈ bC n X, x ∉ bC n Y) ∨ (∀ x ∈ bC n X, x ∈ bC n Y) ∨ ∀ x ∈ bC n Y, x ∈ bC n X := by
 by_cases hx : (0 : Int) ∈ X <;> by_cases hy : (0 : Int) ∈ Y
 ·rw [show bC n X = bw n X from if_pos (List.contains_iff_mem.2 hx), show bC n Y = bw n Y from if_pos (List.contains_iff_mem.2 hy)]
  simp only [jm]
  rcases h with h | h | h
  ·exact absurd hy (h 0 hx)
  ·exact .inr (.inr fun x ⟨a, b, c⟩ => ⟨a, b, fun e => c (h x e)⟩)
  ·exact .inr (.inl fun x ⟨a, b, c⟩ => ⟨a, b, fun e => c (h x e)⟩)
 ·rw [show bC n X = bw n X from if_pos (List.contains_iff_mem.2 hx), show bC n Y = Y from if_neg fun e => hy (List.contains_iff_mem.1 e)]
  simp only [jm]
  rcases h with h | h | h
  ·exact .inr (.inr fun x hx => ⟨(hY x hx).1, (hY x hx).2, fun e => h x e hx⟩)
  ·exact absurd (h 0 hx) hy
  ·exact .inl fun x ⟨a, b, c⟩ e => c (h x e)
 ·rw [show bC n Y = bw n Y from if_pos (List.contains_iff_mem.2 hy), show bC n X = X from if_neg fun e => hx (List.contains_iff_mem.1 e)]
  simp only [jm]
  rcases h with h | h | h
  ·exact .inr (.inl fun x hx => ⟨(hX x hx).1, (hX x hx).2, fun e => h x hx e⟩)
  ·exact .inl fun x hx ⟨a, b, c⟩ => c (h x hx)
  ·exact absurd (h 0 hy) hx
 ·rw [show bC n Y = Y from if_neg fun e => hy (List.contains_iff_mem.1 e), show bC n X = X from if_neg fun e => hx (List.contains_iff_mem.1 e)]
  exact h
theorem PX (h : iU t names) {a b : List Int} (ha : a ∈ aI t names) (hb : b ∈ aI t names) : eU a b = true := by
 obtain ⟨a1, p, hp, X, aX, bX, lX, rfl⟩ := (sM h).1 ha
 obtain ⟨b1, q, hq, Y, aY, bY, lY, rfl⟩ := (sM h).1 hb
 refine (tJ a1.set b1.set).2 (S6 bX bY ?_)
 have up : ∀ {X Y : List Int} {p q : RT}, (∀ x ∈ X, 0 ≤ x ∧ x < (names.length : Int)) → (∀ x ∈ Y, 0 ≤ x ∧ x < (names.length : Int)) → Lv names p X → Lv names q Y → p ∈ subR q → ∀ x ∈ X, x ∈ Y := fun {X Y p q} bX bY lX lY h2 x hx => by
  obtain ⟨x0, xn⟩ := bX x hx
  obtain ⟨b, rfl⟩ := Int.eq_ofNat_of_zero_le x0
  obtain ⟨b', hb', e⟩ := (lY _).1 ((cQ h2).subset ((lX _).2 ⟨b, hx, rfl⟩))
  have := bY _ hb'
  have := Cf h.nd (a := b) (b := b') (by omega) (by omega) e
  rw [this]; exact hb'
 rcases EJ _ (gh t) (Nat.le_refl _) (lD h.te) p hp q hq with h2 | h2 | h2
 ·exact .inr (.inl (up bX bY lX lY h2))
 ·exact .inr (.inr (up bY bX lY lX h2))
 ·refine .inl fun x hx hy => ?_
  obtain ⟨x0, xn⟩ := bX x hx
  obtain ⟨b, rfl⟩ := Int.eq_ofNat_of_zero_le x0
  exact h2 _ ((lX _).2 ⟨b, hx, rfl⟩) ((lY _).2 ⟨b, hy, rfl⟩)
theorem pV (t : aJ) (names : List ByteArray) : (aI t names).length ≤ t.ps.length := by
 unfold aI
 split
 ·unfold qI
  refine Nat.le_trans (AK _) ?_
  rw [(rD _).length_eq]
  unfold AH
  refine Nat.le_trans (List.length_filter_le _ _) ?_
  rw [List.length_map]
  refine Nat.le_trans (List.length_filter_le _ _) ?_
  rw [List.length_range]; exact Nat.le_refl _
 ·exact Nat.zero_le _
theorem Zl (h : iU t names) : fo names (aI t names) := by
 obtain ⟨h0, YB, hl, _, _⟩ := aP h.te
 have hgood := lD h.te
 refine ⟨?_, h.le, Nat.le_trans (pV t names) YB, fun k hk => ?_, h.nd, fun s hs => ((sM h).1 hs).1, fun i k hik hk => PX h (iX (by omega)) (iX hk)⟩
 ·obtain ⟨x, hx⟩ := hgood.meet (cE _)
  obtain ⟨b, hb, _⟩ := (Zk h).1 hx
  omega
 ·obtain ⟨j, hj, h3, h4⟩ := sL h hk
  rw [← h4]
  exact qd h.te hj (dz.B6 ⟨h.te, hj, h3⟩)
def K9 (n : Nat) (l : List (List Int)) (Y : List Int) : Prop :=
 Y = allI n ∨ Y = [0] ∨ ((0 : Int) ∉ Y ∧ Y ≠ [] ∧ (∀ x ∈ Y, 0 ≤ x ∧ x < (n : Int)) ∧ Y.Pairwise (· < ·) ∧ (Y.length = 1 ∨ Y.length + 1 = n ∨ Y ∈ l))
theorem Dd {n : Nat} {Y : List Int} (hn : 0 < n) (h0 : (0 : Int) ∉ Y) (hb : ∀ x ∈ Y, 0 ≤ x ∧ x < (n : Int)) (ha : Y.Pairwise (· < ·)) (hl : Y.length + 1 = n) : Y = bw n [0] := by
 have hsub : ∀ x ∈ Y, x ∈ bw n [0] := fun x hx => fV.2 (by
  have := hb x hx
  have : x ≠ 0 := fun e => h0 (by rw [← e]; exact hx)
  omega)
 have hr := lQ hn
 exact me ha (jF _ _) fun x => ⟨hsub x, kz ha (jF _ _) hsub (by show Y.length = (bw n [0]).length; omega) x⟩
theorem bq.famY (h : bq names t S) (hS : ∀ Y, (∃ i, i < t.ps.length ∧ Y = S i) ↔ K9 names.length l Y) (X : ByteArray → Prop) :
  Hh (gh t) X ↔ ∃ Y, K9 names.length l Y ∧ ∀ x, X x ↔ ∃ b : Nat, (b : Int) ∈ Y ∧ x = gs names b := by
 constructor
 ·rintro ⟨s, hs, hX⟩
  obtain ⟨i, hi, hL⟩ := h.parts.1 s hs
  exact ⟨S i, (hS _).1 ⟨i, hi, rfl⟩, fun x => (hX x).trans (hL x)⟩
 ·rintro ⟨Y, hY, hX⟩
  obtain ⟨i, hi, rfl⟩ := (hS _).2 hY
  obtain ⟨s, hs, hL⟩ := h.parts.2 i hi
  exact ⟨s, hs, fun x => (hX x).trans (hL x).symm⟩
theorem VX (h2 : names.length = 2) (hl : l = []) (Y : List Int) : (∃ i, i < (⟨[-1, 0, 0], [ByteArray.empty, gs names 0, gs names 1]⟩ : aJ).ps.length ∧ Y = iA i) ↔ K9 names.length l Y := by
 subst hl
 rw [h2]
 constructor
 ·rintro ⟨i, hi, rfl⟩
  have hi : i = 0 ∨ i = 1 ∨ i = 2 := by simp at hi; omega
  rcases hi with rfl | rfl | rfl
  ·exact .inl rfl
  ·exact .inr (.inl rfl)
  ·exact .inr (.inr ⟨by simp [iA], by simp [iA], by simp [iA], by simp [iA], .inl (by simp [iA])⟩)
 ·rintro (rfl | rfl | ⟨y0, yn, yb, ya, hY⟩)
  ·exact ⟨0, by simp, rfl⟩
  ·exact ⟨1, by simp, rfl⟩
  ·refine ⟨2, by simp, ?_⟩
   have h1 : Y.length + 1 = 2 := by
    rcases hY with hY | hY | hY
    ·omega
    ·exact hY
    ·cases hY
   exact Dd (n := 2) (by omega) y0 yb ya h1
theorem VY (h : fo names l) (h3 : 3 ≤ names.length) (Y : List Int) : (∃ i, i < (bT names (aM l)).ps.length ∧ Y = bS names (aM l) i) ↔ K9 names.length l Y := by
 have hlen : (bT names (aM l)).ps.length = 3 + (aM l).length + (names.length - 1) := Hq
 rw [hlen]
 constructor
 ·rintro ⟨i, hi, rfl⟩
  obtain ⟨⟨k1, k2⟩, k3⟩ := h.kind h3 hi
  rcases k3 with ⟨rfl, k4⟩ | ⟨rfl, k4, k5⟩ | ⟨rfl, k4⟩ | ⟨k, hk, rfl, k6, k4, k5⟩ | ⟨b, b1, b2, rfl, k5, k4⟩
  ·exact .inl rfl
  ·exact .inr (.inl k5)
  ·refine .inr (.inr ⟨fun e => ?_, fun e => ?_, k2, k1, .inr (.inl k4)⟩)
   ·have := fV.1 (show (0 : Int) ∈ bw names.length [0] from e); omega
   ·rw [e] at k4; simp at k4; omega
  ·refine .inr (.inr ⟨fun e => ?_, fun e => ?_, k2, k1, .inr (.inr ?_)⟩)
   ·rw [k6] at e; have := (h.own hk).bd _ e; omega
   ·rw [e] at k4; simp at k4
   ·rw [k6]; exact lN.1 (iX hk)
  ·refine .inr (.inr ⟨fun e => ?_, fun e => ?_, k2, k1, .inl k4⟩)
   ·rw [k5] at e; have := List.mem_singleton.1 e; omega
   ·rw [e] at k4; simp at k4
 ·rintro (rfl | rfl | ⟨y0, yn, yb, ya, hY | hY | hY⟩)
  ·exact ⟨0, by omega, rfl⟩
  ·exact ⟨1, by omega, rfl⟩
  ·obtain ⟨x, rfl⟩ := List.length_eq_one_iff.1 hY
   have hb := yb x (by simp)
   obtain ⟨b, rfl⟩ := Int.eq_ofNat_of_zero_le hb.1
   have hb0 : b ≠ 0 := fun e => y0 (by subst e; simp)
   exact ⟨2 + (aM l).length + b, by omega, (jQ (by omega)).symm⟩
  ·exact ⟨2, by omega, Dd (by omega) y0 yb ya hY⟩
  ·obtain ⟨k, hk, rfl⟩ := tO (lN.2 hY)
   exact ⟨3 + k, by omega, (iu hk).symm⟩
end
end
section
open Go.RowKit Go.Deep
end
section
open Go.RowKit Go.Deep
set_option maxHeartbeats 2000000 in
theorem zj (S : Nat → Prop) (w : World) (v : Value) (l : List Int) (h : an S w v l) (hn : l.length ≤ 1000000) :
  Calls Tryz.prog 177 #[v] w fun e w' => e = .returned (.int .i64 (eL l)) ∧ QD w w' := by
 have HF : Hid (eL l = firstNZ (iq l) l.length) := rfl
 have HB : Hid (∀ i, iq l i = if gi l i < 0 ∨ 63 < gi l i then 2 else if 0 < i ∧ gi l i ≤ gi l (i - 1) then 10 else 0) := fun _ => rfl
 obtain ⟨p, cap, rfl, -, -⟩ := aC.open h
 have H : Hid (an S w (.slice p l.length cap) l) := h
 clear h
 aq Tryz.func177, Tryz.ntmps177
 aa fail
 aV [3] (fun i wr => ∃ k : Nat, k ≤ l.length ∧ i = .int .i64 k ∧ Hid (QD w wr) ∧ Hid (∀ j, j < k → iq l j = 0)) (fun i _ => l.length - (intOf i).toNat)
 case atStart => exact ⟨0, Nat.zero_le _, rfl, QD.refl _, fun j hj => absurd hj (Nat.not_lt_zero _)⟩
 case round =>
  obtain ⟨k, hk, rfl, hQ, hd⟩ := bE
  obtain ⟨wo, rfl⟩ : ∃ wo : World, wo = wr := ⟨_, rfl⟩
  by_cases hlt : k < l.length
  ·obtain ⟨b, off, rfl, hc⟩ := bV (an.keep H.out (hQ.out.kept S)) hlt
   have HK := ag (HB.out k)
   have HP : Hid (0 < k → wo.cell? ⟨b, off + (k - 1), none⟩ = some (.int .i64 (gi l (k - 1)))) := fun h0 => by
    obtain ⟨b2, off2, e, fJ⟩ := bV (an.keep H.out (hQ.out.kept S)) (k := k - 1) (by omega)
    cases e; exact fJ
   have wW : Hid (∀ r, iq l k = r → r ≠ 0 → eL l = r) := fun r e h0 => by rw [HF.out, fM hlt hd.out (by rw [e]; exact h0), e]
   have xg : Hid (iq l k = 0 → ∀ j, j < k + 1 → iq l j = 0) := fun e j hj => if ej : j = k then by subst ej; exact e else hd.out j (by omega)
   have aU := ag hlt
   have i1 : (0 : Int) ≤ (k : Int) := by omega
   have i2 : (k : Int) < (l.length : Int) := by omega
   have i3 : (k : Int) < 1000000 := by omega
   generalize gi l k = x at *
   generalize gi l (k - 1) = y at *
   by_cases h1 : x < 0
   ·have e1 : decide (x < 0) = true := decide_eq_true h1
    have HR := ag (wW.out 2 (by rw [HK.out, if_pos (.inl h1)]) (by decide))
    clear h1
    aa fail
    ax
    exact ⟨aQ (by rw [HR.out]), hQ.out⟩
   have e1 : decide (x < 0) = false := decide_eq_false h1
   by_cases h2 : 63 < x
   ·have e2 : decide (63 < x) = true := decide_eq_true h2
    have HR := ag (wW.out 2 (by rw [HK.out, if_pos (.inr h2)]) (by decide))
    clear h1 h2
    aa fail
    ax
    exact ⟨aQ (by rw [HR.out]), hQ.out⟩
   have e2 : decide (63 < x) = false := decide_eq_false h2
   have HX : Hid (¬ (x < 0 ∨ 63 < x)) := by unfold Hid; omega
   clear h1 h2 hlt hk
   by_cases h0 : k = 0
   ·have d0 : decide ((0 : Int) < (k : Int)) = false := decide_eq_false (by omega)
    have d1 : decide (0 < k) = false := decide_eq_false (by omega)
    have HR := ag (xg.out (by rw [HK.out, if_neg HX.out, if_neg (by omega)]))
    clear h0
    aa fail
    cn (fail)
    aa fail
    aF
    case rel => exact ⟨k + 1, aU.out, by aH, hQ.out.drewN nq, HR.out⟩
    case measure => have := aU.out; simp [intOf]; omega
   ·have rT := HP.out (by omega)
    have d0 : decide ((0 : Int) < (k : Int)) = true := decide_eq_true (by omega)
    have d1 : decide (0 < k) = true := decide_eq_true (by omega)
    have k1 : (k : Int) - 1 = ((k - 1 : Nat) : Int) := by omega
    have k2 : (0 : Int) ≤ ((k - 1 : Nat) : Int) := by omega
    have k3 : ((k - 1 : Nat) : Int) < (l.length : Int) := by omega
    by_cases h3 : x ≤ y
    ·have e3 : decide (x ≤ y) = true := decide_eq_true h3
     have HR := ag (wW.out 10 (by rw [HK.out, if_neg HX.out, if_pos ⟨by omega, h3⟩]) (by decide))
     clear h0 h3
     aa fail
     cn (fail)
     aa fail
     ax
     exact ⟨aQ (by rw [HR.out]), hQ.out.drewN nq⟩
    ·have e3 : decide (x ≤ y) = false := decide_eq_false h3
     have HR := ag (xg.out (by rw [HK.out, if_neg HX.out, if_neg (fun q => h3 q.2)]))
     clear h0 h3
     aa fail
     cn (fail)
     aa fail
     aF
     case rel => exact ⟨k + 1, aU.out, by clear k1; aH, hQ.out.drewN nq, HR.out⟩
     case measure => have := aU.out; clear k1; simp [intOf]; omega
  ·obtain rfl : k = l.length := by omega
   have HR : Hid (eL l = 0) := by unfold Hid; rw [HF.out, c9 hd.out]
   clear hlt hk
   aa fail
   ax
   exact ⟨aQ (by rw [HR.out]), hQ.out⟩
theorem qd_tr {a b c : World} (h : QD a b) (k : QD b c) : QD a c := by
 obtain ⟨m, rfl⟩ := h
 obtain ⟨n, rfl⟩ := k
 exact ⟨m + n, by rw [World.drewN_drewN]⟩
theorem VZ {l : List Int} {x : Int} {k : Nat} (hk : k < l.length) (e : gi l k = x) : l.contains x = true := List.contains_iff_mem.2 (by rw [← e]; exact ng hk)
theorem V0 {l : List Int} {x : Int} (h : ∀ j, j < l.length → gi l j ≠ x) : l.contains x = false := by
 rw [Bool.eq_false_iff]
 intro e
 obtain ⟨k, hk, e2⟩ := vQ (List.contains_iff_mem.1 e)
 exact h k hk e2
set_option maxHeartbeats 400000 in
theorem vh (S : Nat → Prop) (w : World) (v : Value) (l : List Int) (x : Int) (h : an S w v l) (hn : l.length ≤ 1000000) :
  Calls Tryz.prog 110 #[v, .int .i64 x] w fun e w' => e = .returned (.bool (l.contains x)) ∧ w = w' := by
 obtain ⟨p, cap, rfl, -, -⟩ := aC.open h
 have H : Hid (an S w (.slice p l.length cap) l) := h
 have HT : Hid (∀ k, k < l.length → gi l k = x → l.contains x = true) := fun k hk e => VZ hk e
 have HF : Hid ((∀ j, j < l.length → gi l j ≠ x) → l.contains x = false) := fun h => V0 h
 clear h
 generalize l.contains x = r at *
 aq Tryz.func110, Tryz.ntmps110
 aa fail
 dD [5] (fun i => ∃ k : Nat, k ≤ l.length ∧ i = .int .i64 k ∧ Hid (∀ j, j < k → gi l j ≠ x)) (fun i => l.length - (intOf i).toNat)
 case atStart => exact ⟨0, Nat.zero_le _, rfl, fun j hj => absurd hj (Nat.not_lt_zero _)⟩
 case round =>
  obtain ⟨k, hk, rfl, hd⟩ := bE
  by_cases hlt : k < l.length
  ·obtain ⟨b, off, rfl, hc⟩ := bV H.out hlt
   have i1 : (0 : Int) ≤ (k : Int) := by omega
   have i2 : (k : Int) < (l.length : Int) := by omega
   have xY := ag (HT.out k hlt)
   have xg : Hid (gi l k ≠ x → ∀ j, j < k + 1 → gi l j ≠ x) := fun e j hj => if ej : j = k then by subst ej; exact e else hd.out j (by omega)
   generalize gi l k = y at *
   by_cases h1 : y = x
   ·have e1 : (y == x) = true := by simpa using h1
    have HR := ag (xY.out h1)
    clear h1
    aa fail
    ax
    exact ⟨aZ HR.out.symm, rfl⟩
   ·have e1 : (y == x) = false := by simpa using h1
    have HR := ag (xg.out h1)
    clear h1
    aa fail
    cz
    case rel => exact ⟨k + 1, by omega, by aH, HR.out⟩
    case measure => simp [intOf]; omega
  ·obtain rfl : k = l.length := by omega
   have HR := ag (HF.out hd.out)
   clear hlt hk
   aa fail
   ax
   exact ⟨aZ HR.out.symm, rfl⟩
theorem De (S T : Nat → Prop) (w : World) (v u : Value) (a b : List Int) (h : an S w v a) (h2 : an T w u b) (hn : a.length ≤ 1000000) (hm : b.length ≤ 1000000) (ha : cZ a) (hb : cZ b) :
  Calls Tryz.prog 240 #[v, u] w fun e w' => e = .returned (.bool false) ∧ QD w w' := by
 have H1 := ag (zj S w v a h hn)
 have H2 : Hid (∀ W, QD w W → Calls Tryz.prog 177 #[u] W fun e w' => e = .returned (.int .i64 (eL b)) ∧ QD W w') := fun W hW => zj T W u b (an.keep h2 (hW.kept _)) hm
 rw [fL.2 ha] at H1
 rw [fL.2 hb] at H2
 obtain ⟨p, cap, rfl, -, -⟩ := aC.open h
 obtain ⟨q, tS, rfl, -, -⟩ := aC.open h2
 clear h h2
 aq Tryz.func240, Tryz.ntmps240
 aa fail
 refine H1.out.mono ?_
 rintro e w1 ⟨rfl, hq1⟩
 have pg := ag hq1
 clear hq1
 aa fail
 refine (H2.out w1 pg.out).mono ?_
 rintro e w2 ⟨rfl, iP⟩
 have PY : Hid (QD w w2) := qd_tr pg.out iP
 clear iP
 aa fail
 ax
 exact ⟨rfl, PY.out⟩
def pW (a b : List Int) (k : Nat) : List Int := (a.take k).filter fun x => b.contains x
theorem PZ {a b : List Int} {k : Nat} (hk : k < a.length) : pW a b (k + 1) = pW a b k ++ if b.contains (gi a k) then [gi a k] else [] := by
 unfold pW
 have hg : gi a k = a[k] := by simp [gi, hk]
 rw [List.take_succ_eq_append_getElem hk, List.filter_append, ← hg]
 congr 1
 cases h : b.contains (gi a k)
 ·rw [List.filter_cons_of_neg (by rw [h]; decide)]; rfl
 ·rw [List.filter_cons_of_pos h]; rfl
set_option maxHeartbeats 1000000 in
theorem P9 (S T : Nat → Prop) (w : World) (v u : Value) (a b : List Int) (h : an S w v a) (h2 : an T w u b) (hn : a.length ≤ 1000000) (hm : b.length ≤ 1000000) (ha : cZ a) (hb : cZ b) :
  Calls Tryz.prog 238 #[v, u] w fun e w' => Up w w' ∧ ∃ x, e = .returned (.tuple #[x, .int .i64 0]) ∧ an Any w' x (a.filter fun x => b.contains x) := by
 have H1 := ag (De S T w v u a b h h2 hn hm ha hb)
 obtain ⟨p, cap, rfl, -, -⟩ := aC.open h
 obtain ⟨q, tS, rfl, -, -⟩ := aC.open h2
 have HA : Hid (an S w (.slice p a.length cap) a) := h
 have HH : Hid (∀ W (x : Int), Up w W → Calls Tryz.prog 110 #[.slice q b.length tS, .int .i64 x] W fun e w' => e = .returned (.bool (b.contains x)) ∧ W = w') := fun W x hW => vh T W _ b x (an.keep h2 (hW.kept _)) hm
 clear h h2 ha hb
 aq Tryz.func238, Tryz.ntmps238
 aa fail
 refine H1.out.mono ?_
 rintro e w1 ⟨rfl, hq1⟩
 have eD := ag hq1.up
 have HM := ag (ay.made w1 3)
 clear hq1 H1
 aa fail
 aV [6, 7] (fun o i wr => ∃ k : Nat, k ≤ a.length ∧ i = .int .i64 k ∧ Hid (ay w1.heap.size 3 wr o ((pW a b k).map (Value.int .i64))) ∧ Hid (Up w1 wr)) (fun _ i _ => a.length - (intOf i).toNat)
 case atStart => exact ⟨0, Nat.zero_le _, rfl, HM.out, Up.alloc _ _⟩
 case round =>
  obtain ⟨k, hk, rfl, hO, cH⟩ := bE
  obtain ⟨wo, rfl⟩ : ∃ wo : World, wo = wr := ⟨_, rfl⟩
  by_cases hlt : k < a.length
  ·obtain ⟨b1, off, rfl, hc⟩ := bV (an.keep HA.out ((eD.out.trans cH.out).kept S)) hlt
   have oU := ag (PZ (b := b) hlt)
   have mF := ag (HH.out wo (gi a k) (eD.out.trans cH.out))
   have i1 : (0 : Int) ≤ (k : Int) := by omega
   have i2 : (k : Int) < (a.length : Int) := by omega
   have i3 : (k : Int) < 1000000 := by omega
   have aU := ag hlt
   have hsz := cH.out.size
   have dW : Hid (((pW a b k).map (Value.int .i64)).length = (pW a b k).length) := List.length_map _
   have dA : Hid ((pW a b k).length ≤ 1000000) := by
    have h1 : (pW a b k).length ≤ (a.take k).length := List.length_filter_le _ _
    rw [List.length_take] at h1; unfold Hid; omega
   have lS := ag cH.out
   cases gv : b.contains (gi a k)
   ·rw [gv] at mF
    have HS : Hid (pW a b (k + 1) = pW a b k) := by unfold Hid; rw [oU.out, gv]; simp
    clear hlt hk cH gv oU
    generalize gi a k = x at *
    aa fail
    refine mF.out.mono ?_
    rintro e w' ⟨rfl, rfl⟩
    aa fail
    aF
    case rel => exact ⟨k + 1, aU.out, by aH, by unfold Hid; rw [HS.out]; exact hO.out, lS.out⟩
    case measure => have := aU.out; simp [intOf]; omega
   ·rw [gv] at mF
    have HS : Hid (pW a b (k + 1) = pW a b k ++ [gi a k]) := by unfold Hid; rw [oU.out, gv]; simp
    clear hlt hk cH gv oU
    generalize gi a k = x at *
    aa fail
    refine mF.out.mono ?_
    rintro e w' ⟨rfl, rfl⟩
    aa (bR; refine gJ wo rfl _ _ 26 rfl w1.heap.size 3 (.int .i64 0) 8 Tryz.underlying26 Tryz.gH rfl (by decide) hO.out rfl (.int .i64 x) _ rfl rfl rfl _ dW.out dA.out hsz ?_; intro g8 jD w8 eF MY dS)
    aF
    case rel => exact ⟨k + 1, aU.out, by aH, by unfold Hid; rw [HS.out, List.map_append]; exact eF, Below.trans lS.out dS⟩
    case measure => have := aU.out; simp [intOf]; omega
  ·obtain rfl : k = a.length := by omega
   have Cw := hO.out
   unfold pW at Cw
   rw [List.take_length] at Cw
   have HR := ag (an.sub (ay.ints Cw) (T := Any) fun _ _ _ => trivial)
   have ic := ag (eD.out.trans cH.out)
   clear hlt hk hO Cw cH
   aa fail
   exact ⟨rfl, .tuple #[_, .int .i64 0], by simp [results, Tryz.results238, go_sem], ic.out, _, rfl, HR.out⟩
theorem Zm {a b : List Int} {k : Nat} (hk : k < a.length) (e : b.contains (gi a k) = false) : fh a b = false := by
 rw [Bool.eq_false_iff]; intro h
 rw [List.contains_iff_mem.2 (kA.1 h _ (ng hk))] at e; cases e
theorem V1 {a b : List Int} (h : ∀ j, j < a.length → b.contains (gi a j) = true) : fh a b = true := kA.2 fun x hx => by
 obtain ⟨k, hk, rfl⟩ := vQ hx
 exact List.contains_iff_mem.1 (h k hk)
set_option maxHeartbeats 1000000 in
theorem MZ (S T : Nat → Prop) (w : World) (v u : Value) (a b : List Int) (h : an S w v a) (h2 : an T w u b) (hn : a.length ≤ 1000000) (hm : b.length ≤ 1000000) (ha : cZ a) (hb : cZ b) :
  Calls Tryz.prog 239 #[v, u] w fun e w' => e = .returned (.tuple #[.bool (fh a b), .int .i64 0]) ∧ QD w w' := by
 have H1 := ag (De S T w v u a b h h2 hn hm ha hb)
 obtain ⟨p, cap, rfl, -, -⟩ := aC.open h
 obtain ⟨q, tS, rfl, -, -⟩ := aC.open h2
 have HA : Hid (an S w (.slice p a.length cap) a) := h
 have HH : Hid (∀ W (x : Int), QD w W → Calls Tryz.prog 110 #[.slice q b.length tS, .int .i64 x] W fun e w' => e = .returned (.bool (b.contains x)) ∧ W = w') := fun W x hW => vh T W _ b x (an.keep h2 (hW.kept _)) hm
 have HT : Hid (∀ k, k < a.length → b.contains (gi a k) = false → fh a b = false) := fun k hk e => Zm hk e
 have HF : Hid ((∀ j, j < a.length → b.contains (gi a j) = true) → fh a b = true) := fun h => V1 h
 clear h h2 ha hb
 generalize fh a b = r at *
 aq Tryz.func239, Tryz.ntmps239
 aa fail
 refine H1.out.mono ?_
 rintro e w1 ⟨rfl, hq1⟩
 have pg := ag hq1
 clear hq1 H1
 aa fail
 dD [6] (fun i => ∃ k : Nat, k ≤ a.length ∧ i = .int .i64 k ∧ Hid (∀ j, j < k → b.contains (gi a j) = true)) (fun i => a.length - (intOf i).toNat)
 case atStart => exact ⟨0, Nat.zero_le _, rfl, fun j hj => absurd hj (Nat.not_lt_zero _)⟩
 case round =>
  obtain ⟨k, hk, rfl, hd⟩ := bE
  by_cases hlt : k < a.length
  ·obtain ⟨b1, off, rfl, hc⟩ := bV (an.keep HA.out (pg.out.kept S)) hlt
   have mF := ag (HH.out w1 (gi a k) pg.out)
   have xY := ag (HT.out k hlt)
   have xg : Hid (b.contains (gi a k) = true → ∀ j, j < k + 1 → b.contains (gi a j) = true) := fun e j hj => if ej : j = k then by subst ej; exact e else hd.out j (by omega)
   have i1 : (0 : Int) ≤ (k : Int) := by omega
   have i2 : (k : Int) < (a.length : Int) := by omega
   have i3 : (k : Int) < 1000000 := by omega
   generalize gi a k = x at *
   generalize b.contains x = c at *
   cases c
   ·have HR := ag (xY.out rfl)
    aa fail
    refine mF.out.mono ?_
    rintro e w' ⟨rfl, rfl⟩
    aa fail
    exact ⟨rfl, .tuple #[.bool false, .int .i64 0], by simp [results, Tryz.results239, go_sem], by rw [HR.out], pg.out⟩
   ·have HR := ag (xg.out rfl)
    aa fail
    refine mF.out.mono ?_
    rintro e w' ⟨rfl, rfl⟩
    aa fail
    cz
    case rel => exact ⟨k + 1, by omega, by aH, HR.out⟩
    case measure => simp [intOf]; omega
  ·obtain rfl : k = a.length := by omega
   have HR := ag (HF.out hd.out)
   clear hlt hk
   aa fail
   exact ⟨rfl, .tuple #[.bool true, .int .i64 0], by simp [results, Tryz.results239, go_sem], by rw [HR.out], pg.out⟩
end
end Go.Proofs.YtpnmblnahjjmhaaGreat
