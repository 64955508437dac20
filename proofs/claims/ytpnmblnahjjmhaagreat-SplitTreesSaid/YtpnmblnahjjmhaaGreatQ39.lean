/- The tree of the splits of a tree is this tree, rerooted: plain. The contract of .. -/
import Derived.Test.YtpnmblnahjjmhaaGreatQ1
import Derived.Test.YtpnmblnahjjmhaaGreatQ37
import Derived.Test.YtpnmblnahjjmhaaGreatQ27
import Derived.Test.YtpnmblnahjjmhaaGreatQ25
import Derived.Test.YtpnmblnahjjmhaaGreatQ2
import Derived.Test.YtpnmblnahjjmhaaGreatQ3
import Derived.Test.YtpnmblnahjjmhaaGreatQ16
import Derived.Lib.MinMax
import Derived.Test.YtpnmblnahjjmhaaGreatQ9
import Derived.Test.YtpnmblnahjjmhaaGreatQ12
set_option maxRecDepth 100000
namespace Go.Proofs.YtpnmblnahjjmhaaGreat
section
theorem ED : ∀ (d : Nat) (r : RT), aK r ≤ d → gC r → ∀ p ∈ subR r, ∀ q ∈ subR r, p ∈ subR q ∨ q ∈ subR p ∨ ∀ x, x ∈ aZ p → x ∉ aZ q
 | 0, r, hd, _ => by have := jw r; omega
 | d + 1, .node nm ks, hd, h => fun p hp q hq => by
  rw [subR, List.mem_cons] at hp hq
  rcases hp with rfl | hp
  ·exact .inr (.inl (by rw [subR, List.mem_cons]; exact hq))
  rcases hq with rfl | hq
  ·exact .inl (by rw [subR, List.mem_cons]; exact .inr hp)
  obtain ⟨k1, h1, hp⟩ := rP hp
  obtain ⟨k2, h2, hq⟩ := rP hq
  obtain ⟨i, hi, rfl⟩ := List.getElem_of_mem h1
  obtain ⟨j, hj, rfl⟩ := List.getElem_of_mem h2
  have h0 : ks ≠ [] := fun e => by subst e; simp at hi
  by_cases hij : i = j
  ·subst hij
   have hk := jk (nm := nm) (List.getElem_mem hi)
   exact ED d _ (by have := Sa (nm := nm) (List.getElem_mem hi); omega) (h.sub hk) p hp q hq
  ·refine .inr (.inr fun x hx hx2 => ?_)
   have hn := h.nd
   rw [fo (show nm.size = 0 from h.uz _ (bI _) h0), List.nodup_iff_pairwise_ne, List.pairwise_flatMap] at hn
   have Uj := List.pairwise_iff_getElem.1 hn.2
   have e1 := (bZ hp).subset hx
   have e2 := (bZ hq).subset hx2
   rcases Nat.lt_trichotomy i j with c | c | c
   ·exact absurd rfl (Uj i j hi hj c x e1 x e2)
   ·exact hij c
   ·exact absurd rfl (Uj j i hj hi c x e2 x e1)
section
variable {names : List ByteArray} {t : aA} {S : Nat → List Int} {l : List (List Int)} {la : Nat}
theorem Im (h : iz t names) {x : Int} : x ∈ aN t names 0 ↔ 0 ≤ x ∧ x < (names.length : Int) := by
 constructor
 ·intro hx; have := gY.1 hx; exact ⟨this.1, this.2.1⟩
 ·rintro ⟨x0, xn⟩
  obtain ⟨b, rfl⟩ := Int.eq_ofNat_of_zero_le x0
  obtain ⟨j, hj, h3, h4⟩ := rX h (show b < names.length by omega)
  exact gY.2 ⟨x0, xn, j, hj, xX h.te j hj, h3, by rw [h4, nU h.nd (by omega)]⟩
theorem Zn (h : iz t names) {x : ByteArray} : x ∈ aZ (fC t) ↔ ∃ b : Nat, b < names.length ∧ x = gs names b := by
 have h1 := lV h (aH h.te).1 x
 constructor
 ·intro hx
  obtain ⟨b, hb, e⟩ := h1.1 hx
  have := (Im h).1 hb
  exact ⟨b, by omega, e⟩
 ·rintro ⟨b, hb, e⟩
  exact h1.2 ⟨b, (Im h).2 ⟨by omega, by omega⟩, e⟩
theorem S8 {n : Nat} {X Y : List Int} (hX : ∀ x ∈ X, 0 ≤ x ∧ x < (n : Int)) (hY : ∀ x ∈ Y, 0 ≤ x ∧ x < (n : Int)) (h : (∀ x ∈ X, x ∉ Y) ∨ (∀ x ∈ X, x ∈ Y) ∨ ∀ x ∈ Y, x ∈ X) :
  (∀ x ∈ aU n X, x ∉ aU n Y) ∨ (∀ x ∈ aU n X, x ∈ aU n Y) ∨ ∀ x ∈ aU n Y, x ∈ aU n X := by
 by_cases hx : (0 : Int) ∈ X <;> by_cases hy : (0 : Int) ∈ Y
 ·rw [show aU n X = aS n X from if_pos (List.contains_iff_mem.2 hx), show aU n Y = aS n Y from if_pos (List.contains_iff_mem.2 hy)]
  simp only [iN]
  rcases h with h | h | h
  ·exact absurd hy (h 0 hx)
  ·exact .inr (.inr fun x ⟨a, b, c⟩ => ⟨a, b, fun e => c (h x e)⟩)
  ·exact .inr (.inl fun x ⟨a, b, c⟩ => ⟨a, b, fun e => c (h x e)⟩)
 ·rw [show aU n X = aS n X from if_pos (List.contains_iff_mem.2 hx), show aU n Y = Y from if_neg fun e => hy (List.contains_iff_mem.1 e)]
  simp only [iN]
  rcases h with h | h | h
  ·exact .inr (.inr fun x hx => ⟨(hY x hx).1, (hY x hx).2, fun e => h x e hx⟩)
  ·exact absurd (h 0 hx) hy
  ·exact .inl fun x ⟨a, b, c⟩ e => c (h x e)
 ·rw [show aU n Y = aS n Y from if_pos (List.contains_iff_mem.2 hy), show aU n X = X from if_neg fun e => hx (List.contains_iff_mem.1 e)]
  simp only [iN]
  rcases h with h | h | h
  ·exact .inr (.inl fun x hx => ⟨(hX x hx).1, (hX x hx).2, fun e => h x hx e⟩)
  ·exact .inl fun x hx ⟨a, b, c⟩ => c (h x hx)
  ·exact absurd (h 0 hy) hx
 ·rw [show aU n Y = Y from if_neg fun e => hy (List.contains_iff_mem.1 e), show aU n X = X from if_neg fun e => hx (List.contains_iff_mem.1 e)]
  exact h
theorem PU (h : iz t names) {a b : List Int} (ha : a ∈ az t names) (hb : b ∈ az t names) : dU a b = true := by
 obtain ⟨a1, p, hp, X, aX, bX, lX, rfl⟩ := (rY h).1 ha
 obtain ⟨b1, q, hq, Y, aY, bY, lY, rfl⟩ := (rY h).1 hb
 refine (s6 a1.set b1.set).2 (S8 bX bY ?_)
 have up : ∀ {X Y : List Int} {p q : RT}, (∀ x ∈ X, 0 ≤ x ∧ x < (names.length : Int)) → (∀ x ∈ Y, 0 ≤ x ∧ x < (names.length : Int)) → Lv names p X → Lv names q Y → p ∈ subR q → ∀ x ∈ X, x ∈ Y := fun {X Y p q} bX bY lX lY h2 x hx => by
  obtain ⟨x0, xn⟩ := bX x hx
  obtain ⟨b, rfl⟩ := Int.eq_ofNat_of_zero_le x0
  obtain ⟨b', hb', e⟩ := (lY _).1 ((bZ h2).subset ((lX _).2 ⟨b, hx, rfl⟩))
  have := bY _ hb'
  have := B5 h.nd (a := b) (b := b') (by omega) (by omega) e
  rw [this]; exact hb'
 rcases ED _ (fC t) (Nat.le_refl _) (kE h.te) p hp q hq with h2 | h2 | h2
 ·exact .inr (.inl (up bX bY lX lY h2))
 ·exact .inr (.inr (up bY bX lY lX h2))
 ·refine .inl fun x hx hy => ?_
  obtain ⟨x0, xn⟩ := bX x hx
  obtain ⟨b, rfl⟩ := Int.eq_ofNat_of_zero_le x0
  exact h2 _ ((lX _).2 ⟨b, hx, rfl⟩) ((lY _).2 ⟨b, hy, rfl⟩)
theorem oM (t : aA) (names : List ByteArray) : (az t names).length ≤ t.ps.length := by
 unfold az
 split
 ·unfold p9
  refine Nat.le_trans (Ao _) ?_
  rw [(qH _).length_eq]
  unfold Al
  refine Nat.le_trans (List.length_filter_le _ _) ?_
  rw [List.length_map]
  refine Nat.le_trans (List.length_filter_le _ _) ?_
  rw [List.length_range]; exact Nat.le_refl _
 ·exact Nat.zero_le _
theorem Zo (h : iz t names) : eD names (az t names) := by
 obtain ⟨h0, YE, hl, _, _⟩ := aH h.te
 have hgood := kE h.te
 refine ⟨?_, h.le, Nat.le_trans (oM t names) YE, fun k hk => ?_, h.nd, fun s hs => ((rY h).1 hs).1, fun i k hik hk => PU h (iC (by omega)) (iC hk)⟩
 ·obtain ⟨x, hx⟩ := hgood.meet (bI _)
  obtain ⟨b, hb, _⟩ := (Zn h).1 hx
  omega
 ·obtain ⟨j, hj, h3, h4⟩ := rX h hk
  rw [← h4]
  exact o5 h.te hj (cK.BR ⟨h.te, hj, h3⟩)
def K6 (n : Nat) (l : List (List Int)) (Y : List Int) : Prop :=
 Y = allI n ∨ Y = [0] ∨ ((0 : Int) ∉ Y ∧ Y ≠ [] ∧ (∀ x ∈ Y, 0 ≤ x ∧ x < (n : Int)) ∧ Y.Pairwise (· < ·) ∧ (Y.length = 1 ∨ Y.length + 1 = n ∨ Y ∈ l))
theorem C3 {n : Nat} {Y : List Int} (hn : 0 < n) (h0 : (0 : Int) ∉ Y) (hb : ∀ x ∈ Y, 0 ≤ x ∧ x < (n : Int)) (ha : Y.Pairwise (· < ·)) (hl : Y.length + 1 = n) : Y = aS n [0] := by
 have hsub : ∀ x ∈ Y, x ∈ aS n [0] := fun x hx => fq.2 (by
  have := hb x hx
  have : x ≠ 0 := fun e => h0 (by rw [← e]; exact hx)
  omega)
 have hr := kP hn
 exact k7 ha (jb _ _) fun x => ⟨hsub x, jH ha (jb _ _) hsub (by show Y.length = (aS n [0]).length; omega) x⟩
theorem aQ.famY (h : aQ names t S) (hS : ∀ Y, (∃ i, i < t.ps.length ∧ Y = S i) ↔ K6 names.length l Y) (X : ByteArray → Prop) :
  Hf (fC t) X ↔ ∃ Y, K6 names.length l Y ∧ ∀ x, X x ↔ ∃ b : Nat, (b : Int) ∈ Y ∧ x = gs names b := by
 constructor
 ·rintro ⟨s, hs, hX⟩
  obtain ⟨i, hi, hL⟩ := h.parts.1 s hs
  exact ⟨S i, (hS _).1 ⟨i, hi, rfl⟩, fun x => (hX x).trans (hL x)⟩
 ·rintro ⟨Y, hY, hX⟩
  obtain ⟨i, hi, rfl⟩ := (hS _).2 hY
  obtain ⟨s, hs, hL⟩ := h.parts.2 i hi
  exact ⟨s, hs, fun x => (hX x).trans (hL x).symm⟩
theorem VY (h2 : names.length = 2) (hl : l = []) (Y : List Int) : (∃ i, i < (⟨[-1, 0, 0], [ByteArray.empty, gs names 0, gs names 1]⟩ : aA).ps.length ∧ Y = gO i) ↔ K6 names.length l Y := by
 subst hl
 rw [h2]
 constructor
 ·rintro ⟨i, hi, rfl⟩
  have hi : i = 0 ∨ i = 1 ∨ i = 2 := by simp at hi; omega
  rcases hi with rfl | rfl | rfl
  ·exact .inl rfl
  ·exact .inr (.inl rfl)
  ·exact .inr (.inr ⟨by simp [gO], by simp [gO], by simp [gO], by simp [gO], .inl (by simp [gO])⟩)
 ·rintro (rfl | rfl | ⟨y0, yn, yb, ya, hY⟩)
  ·exact ⟨0, by simp, rfl⟩
  ·exact ⟨1, by simp, rfl⟩
  ·refine ⟨2, by simp, ?_⟩
   have h1 : Y.length + 1 = 2 := by
    rcases hY with hY | hY | hY
    ·omega
    ·exact hY
    ·cases hY
   exact C3 (n := 2) (by omega) y0 yb ya h1
theorem VZ (h : eD names l) (h3 : 3 ≤ names.length) (Y : List Int) : (∃ i, i < (bT names (aD l)).ps.length ∧ Y = bS names (aD l) i) ↔ K6 names.length l Y := by
 have hlen : (bT names (aD l)).ps.length = 3 + (aD l).length + (names.length - 1) := Ho
 rw [hlen]
 constructor
 ·rintro ⟨i, hi, rfl⟩
  obtain ⟨⟨k1, k2⟩, k3⟩ := h.kind h3 hi
  rcases k3 with ⟨rfl, k4⟩ | ⟨rfl, k4, k5⟩ | ⟨rfl, k4⟩ | ⟨k, hk, rfl, k6, k4, k5⟩ | ⟨b, b1, b2, rfl, k5, k4⟩
  ·exact .inl rfl
  ·exact .inr (.inl k5)
  ·refine .inr (.inr ⟨fun e => ?_, fun e => ?_, k2, k1, .inr (.inl k4)⟩)
   ·have := fq.1 (show (0 : Int) ∈ aS names.length [0] from e); omega
   ·rw [e] at k4; simp at k4; omega
  ·refine .inr (.inr ⟨fun e => ?_, fun e => ?_, k2, k1, .inr (.inr ?_)⟩)
   ·rw [k6] at e; have := (h.own hk).bd _ e; omega
   ·rw [e] at k4; simp at k4
   ·rw [k6]; exact kN.1 (iC hk)
  ·refine .inr (.inr ⟨fun e => ?_, fun e => ?_, k2, k1, .inl k4⟩)
   ·rw [k5] at e; have := List.mem_singleton.1 e; omega
   ·rw [e] at k4; simp at k4
 ·rintro (rfl | rfl | ⟨y0, yn, yb, ya, hY | hY | hY⟩)
  ·exact ⟨0, by omega, rfl⟩
  ·exact ⟨1, by omega, rfl⟩
  ·obtain ⟨x, rfl⟩ := List.length_eq_one_iff.1 hY
   have hb := yb x (by simp)
   obtain ⟨b, rfl⟩ := Int.eq_ofNat_of_zero_le hb.1
   have hb0 : b ≠ 0 := fun e => y0 (by subst e; simp)
   exact ⟨2 + (aD l).length + b, by omega, (jm (by omega)).symm⟩
  ·exact ⟨2, by omega, C3 (by omega) y0 yb ya hY⟩
  ·obtain ⟨k, hk, rfl⟩ := th (kN.2 hY)
   exact ⟨3 + k, by omega, (gK hk).symm⟩
end
end
section
open Go.RowKit Go.Deep
end
section
open Go.RowKit Go.Deep
set_option maxHeartbeats 2000000 in
theorem yX (S : Nat → Prop) (w : World) (v : Value) (l : List Int) (h : af S w v l) (hn : l.length ≤ 1000000) :
  Calls Tryz.prog 177 #[v] w fun e w' => e = .returned (.int .i64 (dN l)) ∧ QD w w' := by
 have HF : Hid (dN l = firstNZ (gI l) l.length) := rfl
 have HB : Hid (∀ i, gI l i = if gi l i < 0 ∨ 63 < gi l i then 2 else if 0 < i ∧ gi l i ≤ gi l (i - 1) then 10 else 0) := fun _ => rfl
 obtain ⟨p, cap, rfl, -, -⟩ := av.open h
 have H : Hid (af S w (.slice p l.length cap) l) := h
 clear h
 go_enter Tryz.func177, Tryz.ntmps177
 go_wp2_with fail
 go_loopw [3] (fun i wr => ∃ k : Nat, k ≤ l.length ∧ i = .int .i64 k ∧ Hid (QD w wr) ∧ Hid (∀ j, j < k → gI l j = 0)) (fun i _ => l.length - (intOf i).toNat)
 case atStart => exact ⟨0, Nat.zero_le _, rfl, QD.refl _, fun j hj => absurd hj (Nat.not_lt_zero _)⟩
 case round =>
  obtain ⟨k, hk, rfl, hQ, hd⟩ := hrel
  obtain ⟨wo, rfl⟩ : ∃ wo : World, wo = wr := ⟨_, rfl⟩
  by_cases hlt : k < l.length
  ·obtain ⟨b, off, rfl, hc⟩ := bw (af.keep H.out (hQ.out.kept S)) hlt
   have HK := aa (HB.out k)
   have HP : Hid (0 < k → wo.cell? ⟨b, off + (k - 1), none⟩ = some (.int .i64 (gi l (k - 1)))) := fun h0 => by
    obtain ⟨b2, off2, e, hc2⟩ := bw (af.keep H.out (hQ.out.kept S)) (k := k - 1) (by omega)
    cases e; exact hc2
   have wH : Hid (∀ r, gI l k = r → r ≠ 0 → dN l = r) := fun r e h0 => by rw [HF.out, eY hlt hd.out (by rw [e]; exact h0), e]
   have wN : Hid (gI l k = 0 → ∀ j, j < k + 1 → gI l j = 0) := fun e j hj => if ej : j = k then by subst ej; exact e else hd.out j (by omega)
   have aM := aa hlt
   have i1 : (0 : Int) ≤ (k : Int) := by omega
   have i2 : (k : Int) < (l.length : Int) := by omega
   have i3 : (k : Int) < 1000000 := by omega
   generalize gi l k = x at *
   generalize gi l (k - 1) = y at *
   by_cases h1 : x < 0
   ·have e1 : decide (x < 0) = true := decide_eq_true h1
    have HR := aa (wH.out 2 (by rw [HK.out, if_pos (.inl h1)]) (by decide))
    clear h1
    go_wp2_with fail
    go_ret
    exact ⟨aI (by rw [HR.out]), hQ.out⟩
   have e1 : decide (x < 0) = false := decide_eq_false h1
   by_cases h2 : 63 < x
   ·have e2 : decide (63 < x) = true := decide_eq_true h2
    have HR := aa (wH.out 2 (by rw [HK.out, if_pos (.inr h2)]) (by decide))
    clear h1 h2
    go_wp2_with fail
    go_ret
    exact ⟨aI (by rw [HR.out]), hQ.out⟩
   have e2 : decide (63 < x) = false := decide_eq_false h2
   have HX : Hid (¬ (x < 0 ∨ 63 < x)) := by unfold Hid; omega
   clear h1 h2 hlt hk
   by_cases h0 : k = 0
   ·have d0 : decide ((0 : Int) < (k : Int)) = false := decide_eq_false (by omega)
    have d1 : decide (0 < k) = false := decide_eq_false (by omega)
    have HR := aa (wN.out (by rw [HK.out, if_neg HX.out, if_neg (by omega)]))
    clear h0
    go_wp2_with fail
    go_big_quiet (fail)
    go_wp2_with fail
    go_roundw
    case rel => exact ⟨k + 1, aM.out, by go_num, hQ.out.drewN nq, HR.out⟩
    case measure => have := aM.out; simp [intOf]; omega
   ·have qX := HP.out (by omega)
    have d0 : decide ((0 : Int) < (k : Int)) = true := decide_eq_true (by omega)
    have d1 : decide (0 < k) = true := decide_eq_true (by omega)
    have k1 : (k : Int) - 1 = ((k - 1 : Nat) : Int) := by omega
    have k2 : (0 : Int) ≤ ((k - 1 : Nat) : Int) := by omega
    have k3 : ((k - 1 : Nat) : Int) < (l.length : Int) := by omega
    by_cases h3 : x ≤ y
    ·have e3 : decide (x ≤ y) = true := decide_eq_true h3
     have HR := aa (wH.out 10 (by rw [HK.out, if_neg HX.out, if_pos ⟨by omega, h3⟩]) (by decide))
     clear h0 h3
     go_wp2_with fail
     go_big_quiet (fail)
     go_wp2_with fail
     go_ret
     exact ⟨aI (by rw [HR.out]), hQ.out.drewN nq⟩
    ·have e3 : decide (x ≤ y) = false := decide_eq_false h3
     have HR := aa (wN.out (by rw [HK.out, if_neg HX.out, if_neg (fun q => h3 q.2)]))
     clear h0 h3
     go_wp2_with fail
     go_big_quiet (fail)
     go_wp2_with fail
     go_roundw
     case rel => exact ⟨k + 1, aM.out, by clear k1; go_num, hQ.out.drewN nq, HR.out⟩
     case measure => have := aM.out; clear k1; simp [intOf]; omega
  ·obtain rfl : k = l.length := by omega
   have HR : Hid (dN l = 0) := by unfold Hid; rw [HF.out, cA hd.out]
   clear hlt hk
   go_wp2_with fail
   go_ret
   exact ⟨aI (by rw [HR.out]), hQ.out⟩
theorem qd_tr {a b c : World} (h : QD a b) (k : QD b c) : QD a c := by
 obtain ⟨m, rfl⟩ := h
 obtain ⟨n, rfl⟩ := k
 exact ⟨m + n, by rw [World.drewN_drewN]⟩
theorem V0 {l : List Int} {x : Int} {k : Nat} (hk : k < l.length) (e : gi l k = x) : l.contains x = true := List.contains_iff_mem.2 (by rw [← e]; exact gi_in hk)
theorem V1 {l : List Int} {x : Int} (h : ∀ j, j < l.length → gi l j ≠ x) : l.contains x = false := by
 rw [Bool.eq_false_iff]
 intro e
 obtain ⟨k, hk, e2⟩ := vz (List.contains_iff_mem.1 e)
 exact h k hk e2
set_option maxHeartbeats 400000 in
theorem uL (S : Nat → Prop) (w : World) (v : Value) (l : List Int) (x : Int) (h : af S w v l) (hn : l.length ≤ 1000000) :
  Calls Tryz.prog 110 #[v, .int .i64 x] w fun e w' => e = .returned (.bool (l.contains x)) ∧ w = w' := by
 obtain ⟨p, cap, rfl, -, -⟩ := av.open h
 have H : Hid (af S w (.slice p l.length cap) l) := h
 have HT : Hid (∀ k, k < l.length → gi l k = x → l.contains x = true) := fun k hk e => V0 hk e
 have HF : Hid ((∀ j, j < l.length → gi l j ≠ x) → l.contains x = false) := fun h => V1 h
 clear h
 generalize l.contains x = r at *
 go_enter Tryz.func110, Tryz.ntmps110
 go_wp2_with fail
 go_loop [5] (fun i => ∃ k : Nat, k ≤ l.length ∧ i = .int .i64 k ∧ Hid (∀ j, j < k → gi l j ≠ x)) (fun i => l.length - (intOf i).toNat)
 case atStart => exact ⟨0, Nat.zero_le _, rfl, fun j hj => absurd hj (Nat.not_lt_zero _)⟩
 case round =>
  obtain ⟨k, hk, rfl, hd⟩ := hrel
  by_cases hlt : k < l.length
  ·obtain ⟨b, off, rfl, hc⟩ := bw H.out hlt
   have i1 : (0 : Int) ≤ (k : Int) := by omega
   have i2 : (k : Int) < (l.length : Int) := by omega
   have xH := aa (HT.out k hlt)
   have wN : Hid (gi l k ≠ x → ∀ j, j < k + 1 → gi l j ≠ x) := fun e j hj => if ej : j = k then by subst ej; exact e else hd.out j (by omega)
   generalize gi l k = y at *
   by_cases h1 : y = x
   ·have e1 : (y == x) = true := by simpa using h1
    have HR := aa (xH.out h1)
    clear h1
    go_wp2_with fail
    go_ret
    exact ⟨aO HR.out.symm, rfl⟩
   ·have e1 : (y == x) = false := by simpa using h1
    have HR := aa (wN.out h1)
    clear h1
    go_wp2_with fail
    go_round
    case rel => exact ⟨k + 1, by omega, by go_num, HR.out⟩
    case measure => simp [intOf]; omega
  ·obtain rfl : k = l.length := by omega
   have HR := aa (HF.out hd.out)
   clear hlt hk
   go_wp2_with fail
   go_ret
   exact ⟨aO HR.out.symm, rfl⟩
theorem C4 (S T : Nat → Prop) (w : World) (v u : Value) (a b : List Int) (h : af S w v a) (h2 : af T w u b) (hn : a.length ≤ 1000000) (hm : b.length ≤ 1000000) (ha : cz a) (hb : cz b) :
  Calls Tryz.prog 240 #[v, u] w fun e w' => e = .returned (.bool false) ∧ QD w w' := by
 have H1 := aa (yX S w v a h hn)
 have H2 : Hid (∀ W, QD w W → Calls Tryz.prog 177 #[u] W fun e w' => e = .returned (.int .i64 (dN b)) ∧ QD W w') := fun W hW => yX T W u b (af.keep h2 (hW.kept _)) hm
 rw [eX.2 ha] at H1
 rw [eX.2 hb] at H2
 obtain ⟨p, cap, rfl, -, -⟩ := av.open h
 obtain ⟨q, tu, rfl, -, -⟩ := av.open h2
 clear h h2
 go_enter Tryz.func240, Tryz.ntmps240
 go_wp2_with fail
 refine H1.out.mono ?_
 rintro e w1 ⟨rfl, hq1⟩
 have oy := aa hq1
 clear hq1
 go_wp2_with fail
 refine (H2.out w1 oy.out).mono ?_
 rintro e w2 ⟨rfl, ir⟩
 have PV : Hid (QD w w2) := qd_tr oy.out ir
 clear ir
 go_wp2_with fail
 go_ret
 exact ⟨rfl, PV.out⟩
def oO (a b : List Int) (k : Nat) : List Int := (a.take k).filter fun x => b.contains x
theorem PW {a b : List Int} {k : Nat} (hk : k < a.length) : oO a b (k + 1) = oO a b k ++ if b.contains (gi a k) then [gi a k] else [] := by
 unfold oO
 have hg : gi a k = a[k] := by simp [gi, hk]
 rw [List.take_succ_eq_append_getElem hk, List.filter_append, ← hg]
 congr 1
 cases h : b.contains (gi a k)
 ·rw [List.filter_cons_of_neg (by rw [h]; decide)]; rfl
 ·rw [List.filter_cons_of_pos h]; rfl
set_option maxHeartbeats 1000000 in
theorem PX (S T : Nat → Prop) (w : World) (v u : Value) (a b : List Int) (h : af S w v a) (h2 : af T w u b) (hn : a.length ≤ 1000000) (hm : b.length ≤ 1000000) (ha : cz a) (hb : cz b) :
  Calls Tryz.prog 238 #[v, u] w fun e w' => Up w w' ∧ ∃ x, e = .returned (.tuple #[x, .int .i64 0]) ∧ af Any w' x (a.filter fun x => b.contains x) := by
 have H1 := aa (C4 S T w v u a b h h2 hn hm ha hb)
 obtain ⟨p, cap, rfl, -, -⟩ := av.open h
 obtain ⟨q, tu, rfl, -, -⟩ := av.open h2
 have HA : Hid (af S w (.slice p a.length cap) a) := h
 have HH : Hid (∀ W (x : Int), Up w W → Calls Tryz.prog 110 #[.slice q b.length tu, .int .i64 x] W fun e w' => e = .returned (.bool (b.contains x)) ∧ W = w') := fun W x hW => uL T W _ b x (af.keep h2 (hW.kept _)) hm
 clear h h2 ha hb
 go_enter Tryz.func238, Tryz.ntmps238
 go_wp2_with fail
 refine H1.out.mono ?_
 rintro e w1 ⟨rfl, hq1⟩
 have dJ := aa hq1.up
 have HM := aa (ah.made w1 3)
 clear hq1 H1
 go_wp2_with fail
 go_loopw [6, 7] (fun o i wr => ∃ k : Nat, k ≤ a.length ∧ i = .int .i64 k ∧ Hid (ah w1.heap.size 3 wr o ((oO a b k).map (Value.int .i64))) ∧ Hid (Up w1 wr)) (fun _ i _ => a.length - (intOf i).toNat)
 case atStart => exact ⟨0, Nat.zero_le _, rfl, HM.out, Up.alloc _ _⟩
 case round =>
  obtain ⟨k, hk, rfl, hO, bL⟩ := hrel
  obtain ⟨wo, rfl⟩ : ∃ wo : World, wo = wr := ⟨_, rfl⟩
  by_cases hlt : k < a.length
  ·obtain ⟨b1, off, rfl, hc⟩ := bw (af.keep HA.out ((dJ.out.trans bL.out).kept S)) hlt
   have nY := aa (PW (b := b) hlt)
   have lF := aa (HH.out wo (gi a k) (dJ.out.trans bL.out))
   have i1 : (0 : Int) ≤ (k : Int) := by omega
   have i2 : (k : Int) < (a.length : Int) := by omega
   have i3 : (k : Int) < 1000000 := by omega
   have aM := aa hlt
   have hsz := bL.out.size
   have dr : Hid (((oO a b k).map (Value.int .i64)).length = (oO a b k).length) := List.length_map _
   have cL : Hid ((oO a b k).length ≤ 1000000) := by
    have h1 : (oO a b k).length ≤ (a.take k).length := List.length_filter_le _ _
    rw [List.length_take] at h1; unfold Hid; omega
   have kR := aa bL.out
   cases hcc : b.contains (gi a k)
   ·rw [hcc] at lF
    have HS : Hid (oO a b (k + 1) = oO a b k) := by unfold Hid; rw [nY.out, hcc]; simp
    clear hlt hk bL hcc nY
    generalize gi a k = x at *
    go_wp2_with fail
    refine lF.out.mono ?_
    rintro e w' ⟨rfl, rfl⟩
    go_wp2_with fail
    go_roundw
    case rel => exact ⟨k + 1, aM.out, by go_num, by unfold Hid; rw [HS.out]; exact hO.out, kR.out⟩
    case measure => have := aM.out; simp [intOf]; omega
   ·rw [hcc] at lF
    have HS : Hid (oO a b (k + 1) = oO a b k ++ [gi a k]) := by unfold Hid; rw [nY.out, hcc]; simp
    clear hlt hk bL hcc nY
    generalize gi a k = x at *
    go_wp2_with fail
    refine lF.out.mono ?_
    rintro e w' ⟨rfl, rfl⟩
    go_wp2_with (at_builtin; refine fW wo rfl _ _ 26 rfl w1.heap.size 3 (.int .i64 0) 8 Tryz.underlying26 Tryz.fU rfl (by decide) hO.out rfl (.int .i64 x) _ rfl rfl rfl _ dr.out cL.out hsz ?_; intro g8 iZ w8 hown1 MV di)
    go_roundw
    case rel => exact ⟨k + 1, aM.out, by go_num, by unfold Hid; rw [HS.out, List.map_append]; exact hown1, Below.trans kR.out di⟩
    case measure => have := aM.out; simp [intOf]; omega
  ·obtain rfl : k = a.length := by omega
   have Cl := hO.out
   unfold oO at Cl
   rw [List.take_length] at Cl
   have HR := aa (af.sub (ah.ints Cl) (T := Any) fun _ _ _ => trivial)
   have gF := aa (dJ.out.trans bL.out)
   clear hlt hk hO Cl bL
   go_wp2_with fail
   exact ⟨rfl, .tuple #[_, .int .i64 0], by simp [results, Tryz.results238, go_sem], gF.out, _, rfl, HR.out⟩
theorem Zp {a b : List Int} {k : Nat} (hk : k < a.length) (e : b.contains (gi a k) = false) : eA a b = false := by
 rw [Bool.eq_false_iff]; intro h
 rw [List.contains_iff_mem.2 (jI.1 h _ (gi_in hk))] at e; cases e
theorem V2 {a b : List Int} (h : ∀ j, j < a.length → b.contains (gi a j) = true) : eA a b = true := jI.2 fun x hx => by
 obtain ⟨k, hk, rfl⟩ := vz hx
 exact List.contains_iff_mem.1 (h k hk)
set_option maxHeartbeats 1000000 in
theorem MW (S T : Nat → Prop) (w : World) (v u : Value) (a b : List Int) (h : af S w v a) (h2 : af T w u b) (hn : a.length ≤ 1000000) (hm : b.length ≤ 1000000) (ha : cz a) (hb : cz b) :
  Calls Tryz.prog 239 #[v, u] w fun e w' => e = .returned (.tuple #[.bool (eA a b), .int .i64 0]) ∧ QD w w' := by
 have H1 := aa (C4 S T w v u a b h h2 hn hm ha hb)
 obtain ⟨p, cap, rfl, -, -⟩ := av.open h
 obtain ⟨q, tu, rfl, -, -⟩ := av.open h2
 have HA : Hid (af S w (.slice p a.length cap) a) := h
 have HH : Hid (∀ W (x : Int), QD w W → Calls Tryz.prog 110 #[.slice q b.length tu, .int .i64 x] W fun e w' => e = .returned (.bool (b.contains x)) ∧ W = w') := fun W x hW => uL T W _ b x (af.keep h2 (hW.kept _)) hm
 have HT : Hid (∀ k, k < a.length → b.contains (gi a k) = false → eA a b = false) := fun k hk e => Zp hk e
 have HF : Hid ((∀ j, j < a.length → b.contains (gi a j) = true) → eA a b = true) := fun h => V2 h
 clear h h2 ha hb
 generalize eA a b = r at *
 go_enter Tryz.func239, Tryz.ntmps239
 go_wp2_with fail
 refine H1.out.mono ?_
 rintro e w1 ⟨rfl, hq1⟩
 have oy := aa hq1
 clear hq1 H1
 go_wp2_with fail
 go_loop [6] (fun i => ∃ k : Nat, k ≤ a.length ∧ i = .int .i64 k ∧ Hid (∀ j, j < k → b.contains (gi a j) = true)) (fun i => a.length - (intOf i).toNat)
 case atStart => exact ⟨0, Nat.zero_le _, rfl, fun j hj => absurd hj (Nat.not_lt_zero _)⟩
 case round =>
  obtain ⟨k, hk, rfl, hd⟩ := hrel
  by_cases hlt : k < a.length
  ·obtain ⟨b1, off, rfl, hc⟩ := bw (af.keep HA.out (oy.out.kept S)) hlt
   have lF := aa (HH.out w1 (gi a k) oy.out)
   have xH := aa (HT.out k hlt)
   have wN : Hid (b.contains (gi a k) = true → ∀ j, j < k + 1 → b.contains (gi a j) = true) := fun e j hj => if ej : j = k then by subst ej; exact e else hd.out j (by omega)
   have i1 : (0 : Int) ≤ (k : Int) := by omega
   have i2 : (k : Int) < (a.length : Int) := by omega
   have i3 : (k : Int) < 1000000 := by omega
   generalize gi a k = x at *
   generalize b.contains x = c at *
   cases c
   ·have HR := aa (xH.out rfl)
    go_wp2_with fail
    refine lF.out.mono ?_
    rintro e w' ⟨rfl, rfl⟩
    go_wp2_with fail
    exact ⟨rfl, .tuple #[.bool false, .int .i64 0], by simp [results, Tryz.results239, go_sem], by rw [HR.out], oy.out⟩
   ·have HR := aa (wN.out rfl)
    go_wp2_with fail
    refine lF.out.mono ?_
    rintro e w' ⟨rfl, rfl⟩
    go_wp2_with fail
    go_round
    case rel => exact ⟨k + 1, by omega, by go_num, HR.out⟩
    case measure => simp [intOf]; omega
  ·obtain rfl : k = a.length := by omega
   have HR := aa (HF.out hd.out)
   clear hlt hk
   go_wp2_with fail
   exact ⟨rfl, .tuple #[.bool true, .int .i64 0], by simp [results, Tryz.results239, go_sem], by rw [HR.out], oy.out⟩
end
end Go.Proofs.YtpnmblnahjjmhaaGreat
