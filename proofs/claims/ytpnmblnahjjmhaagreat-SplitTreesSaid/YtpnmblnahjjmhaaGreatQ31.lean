/- Nodes in the order in which split.below yields them; the places below a node out of those .. -/
import Derived.Test.YtpnmblnahjjmhaaGreatQ1
import Derived.Test.YtpnmblnahjjmhaaGreatQ29
import Derived.Test.YtpnmblnahjjmhaaGreatQ24
import Derived.Test.YtpnmblnahjjmhaaGreatQ2
import Derived.Test.YtpnmblnahjjmhaaGreatQ3
import Derived.Test.YtpnmblnahjjmhaaGreatQ28
import Derived.Test.YtpnmblnahjjmhaaGreatQ20
set_option maxRecDepth 100000
namespace Go.Proofs.YtpnmblnahjjmhaaGreat
section
def posD (ps : List Int) : Nat → Nat → List Nat
 | 0, _ => []
 | d + 1, i => (bu ps i).flatMap (posD ps d) ++ if i = 0 then [] else [i]
def eV (t : aA) (i : Nat) : List Nat := posD t.ps (t.ps.length - i) i
theorem r5 {α β : Type} {f g : α → List β} : ∀ {l : List α}, (∀ x ∈ l, f x = g x) → l.flatMap f = l.flatMap g
 | [], _ => rfl
 | a :: l, h => by
  rw [List.flatMap_cons, List.flatMap_cons, h a (by simp), r5 fun x hx => h x (List.mem_cons_of_mem _ hx)]
theorem Eu (ps : List Int) : ∀ (d e i : Nat), ps.length - i ≤ d → ps.length - i ≤ e → i < ps.length → posD ps d i = posD ps e i
 | 0, e, i, h, _, hi => by omega
 | d + 1, 0, i, _, h, hi => by omega
 | d + 1, e + 1, i, h1, h2, hi => by
  rw [posD, posD]
  congr 1
  refine r5 fun c hc => ?_
  obtain ⟨c1, c2, _⟩ := bH.1 hc
  exact Eu ps d e c (by omega) (by omega) c1
theorem yT (t : aA) {i : Nat} (hi : i < t.ps.length) : eV t i = (bu t.ps i).flatMap (eV t) ++ if i = 0 then [] else [i] := by
 unfold eV
 obtain ⟨d, hd⟩ : ∃ d, t.ps.length - i = d + 1 := ⟨t.ps.length - i - 1, by omega⟩
 rw [hd, posD]
 congr 1
 refine r5 fun c hc => ?_
 obtain ⟨c1, c2, _⟩ := bH.1 hc
 exact Eu t.ps _ _ c (by omega) (Nat.le_refl _) c1
section
variable {t : aA} {names : List ByteArray}
theorem vE (h : aB t = 0) : ∀ (d i : Nat), t.ps.length - i ≤ d → i < t.ps.length → (∀ k, k ∈ eV t i ↔ k ∈ bE (cF t) (bM t) i ∧ k ≠ 0) ∧ (eV t i).length ≤ (bE (cF t) (bM t) i).length
 | 0, i, hd, hi => by omega
 | d + 1, i, hd, hi => by
  have e := bW (cg h).wf hi
  rw [fM] at e
  have ih : ∀ c ∈ bu t.ps i, (∀ k, k ∈ eV t c ↔ k ∈ bE (cF t) (bM t) c ∧ k ≠ 0) ∧ (eV t c).length ≤ (bE (cF t) (bM t) c).length := fun c hc => by
   obtain ⟨c1, c2, _⟩ := bH.1 hc
   exact vE h d c (by omega) c1
  rw [yT t hi, e]
  constructor
  ·intro k
   rw [List.mem_append, List.mem_flatMap, List.mem_cons, List.mem_flatMap]
   constructor
   ·rintro (⟨c, hc, hk⟩ | hk)
    ·obtain ⟨h1, h2⟩ := ((ih c hc).1 k).1 hk
     exact ⟨.inr ⟨c, hc, h1⟩, h2⟩
    ·by_cases h0 : i = 0
     ·rw [if_pos h0] at hk; cases hk
     ·rw [if_neg h0, List.mem_singleton] at hk
      subst hk; exact ⟨.inl rfl, h0⟩
   ·rintro ⟨rfl | ⟨c, hc, hk⟩, h2⟩
    ·rw [if_neg h2]; exact .inr (by simp)
    ·exact .inl ⟨c, hc, ((ih c hc).1 k).2 ⟨hk, h2⟩⟩
  ·have hs : ∀ l : List Nat, (∀ c ∈ l, (eV t c).length ≤ (bE (cF t) (bM t) c).length) → (l.flatMap (eV t)).length ≤ (l.flatMap (bE (cF t) (bM t))).length := fun l => by
    induction l with
    | nil => intro _; exact Nat.le_refl _
    | cons a l ihl =>
     intro hl
     have h1 := hl a (by simp)
     have h2 := ihl fun c hc => hl c (List.mem_cons_of_mem _ hc)
     rw [List.flatMap_cons, List.flatMap_cons, List.length_append, List.length_append]; omega
   have h1 := hs _ fun c hc => (ih c hc).2
   have h2 : (if i = 0 then ([] : List Nat) else [i]).length ≤ 1 := by split <;> simp
   rw [List.length_append, List.length_cons]
   show _ ≤ ((bu t.ps i).flatMap (bE (cF t) (bM t))).length + 1
   omega
theorem KO (h : aB t = 0) {k : Nat} : k ∈ eV t 0 ↔ 0 < k ∧ k < t.ps.length := by
 have h0 := (aH h).1
 rw [(vE h _ 0 (Nat.le_refl _) h0).1, (nQ h).mem_iff, List.mem_range]
 omega
theorem KP (h : aB t = 0) : (eV t 0).length ≤ t.ps.length := by
 have h0 := (aH h).1
 refine Nat.le_trans (vE h _ 0 (Nat.le_refl _) h0).2 ?_
 rw [(nQ h).length_eq, List.length_range]; exact Nat.le_refl _
theorem Hp (h : iz t names) {i : Nat} (hi : i < t.ps.length) : 0 < (aN t names i).length := by
 have hg : gC (aR (cF t) (bM t) i) := (kE h.te).sub (by
  rw [iW h.te]
  exact List.mem_map.2 ⟨i, (nQ h.te).mem_iff.2 (List.mem_range.2 hi), rfl⟩)
 obtain ⟨x, hx⟩ := hg.meet (bI _)
 obtain ⟨b, hb, _⟩ := (lV h hi x).1 hx
 exact List.length_pos_of_mem hb
theorem SH (h : iz t names) {i : Nat} (hi : i < t.ps.length) (hk : bu t.ps i = []) : aN t names i = [eR names (gs t.ns i)] := by
 have hz := dS (o5 h.te hi hk)
 obtain ⟨b, hb, e⟩ := h.has i hi hz
 have hf : eR names (gs t.ns i) = (b : Int) := by rw [← e]; exact nU h.nd hb
 refine B6 h.nd (oK t names i) (by simp) (fun x hx => by have := gY.1 hx; exact ⟨this.1, this.2.1⟩) (fun x hx => by
  rw [List.mem_singleton.1 hx, hf]; omega) (lV h hi) fun y => ?_
 rw [cQ (cg h.te).wf hi, fM, hk, List.map_nil, show (cF t).nm i = gs t.ns i from rfl, iM hz, hf]
 constructor
 ·intro hy; exact ⟨b, by simp, by rw [e]; simpa using hy⟩
 ·rintro ⟨c, hc, rfl⟩
  have : c = b := by have := List.mem_singleton.1 hc; omega
  subst this; rw [e]; simp
theorem SI (h : iz t names) {i : Nat} (hi : i < t.ps.length) (hk : bu t.ps i ≠ []) : nP ((bu t.ps i).flatMap (aN t names)) = aN t names i := by
 have hmem : aR (cF t) (bM t) i ∈ subR (fC t) := by
  rw [iW h.te]
  exact List.mem_map.2 ⟨i, (nQ h.te).mem_iff.2 (List.mem_range.2 hi), rfl⟩
 have hg : gC (aR (cF t) (bM t) i) := (kE h.te).sub hmem
 have eT := cQ (cg h.te).wf hi
 rw [fM] at eT
 have hz : ((cF t).nm i).size = 0 := by
  have := hg.uz _ (bI _)
  rw [eT] at this
  exact this (by show List.map _ _ ≠ []; simpa using hk)
 have hlf : aZ (aR (cF t) (bM t) i) = ((bu t.ps i).map (aR (cF t) (bM t))).flatMap aZ := by rw [eT]; exact fo hz
 have kl : ∀ c ∈ bu t.ps i, c < t.ps.length := fun c hc => (bH.1 hc).1
 have hbd : ∀ c, ∀ x ∈ aN t names c, 0 ≤ x ∧ x < (names.length : Int) := fun c x hx => by have := gY.1 hx; exact ⟨this.1, this.2.1⟩
 have dZ : ((bu t.ps i).flatMap (aN t names)).Nodup := by
  have hn := hg.nd
  rw [hlf, List.nodup_iff_pairwise_ne, List.pairwise_flatMap] at hn
  have h2 := List.pairwise_map.1 hn.2
  rw [List.nodup_iff_pairwise_ne, List.pairwise_flatMap]
  refine ⟨fun c _ => (oK t names c).imp fun h e => by omega, h2.imp_of_mem fun {a b} ha hb hab x hx y hy e => ?_⟩
  subst e
  obtain ⟨q, rfl⟩ := Int.eq_ofNat_of_zero_le (hbd a x hx).1
  exact hab _ ((lV h (kl a ha) _).2 ⟨q, hx, rfl⟩) _ ((lV h (kl b hb) _).2 ⟨q, hy, rfl⟩) rfl
 have hasc : (nP ((bu t.ps i).flatMap (aN t names))).Pairwise (· < ·) := by
  have h1 := MG ((bu t.ps i).flatMap (aN t names))
  have h2 : (nP ((bu t.ps i).flatMap (aN t names))).Nodup := (List.mergeSort_perm _ _).nodup_iff.2 dZ
  rw [List.nodup_iff_pairwise_ne] at h2
  exact (h1.and h2).imp fun ⟨a, b⟩ => by omega
 refine B6 h.nd hasc (oK t names i) (fun x hx => ?_) (hbd i) (fun y => ?_) (lV h hi)
 ·obtain ⟨c, _, hc⟩ := List.mem_flatMap.1 ((List.mergeSort_perm _ _).mem_iff.1 hx)
  exact hbd c x hc
 ·rw [hlf, List.mem_flatMap]
  constructor
  ·rintro ⟨r, hr, hy⟩
   obtain ⟨c, hc, rfl⟩ := List.mem_map.1 hr
   obtain ⟨b, hb, e⟩ := (lV h (kl c hc) y).1 hy
   exact ⟨b, (List.mergeSort_perm _ _).mem_iff.2 (List.mem_flatMap.2 ⟨c, hc, hb⟩), e⟩
  ·rintro ⟨b, hb, e⟩
   obtain ⟨c, hc, hb⟩ := List.mem_flatMap.1 ((List.mergeSort_perm _ _).mem_iff.1 hb)
   exact ⟨_, List.mem_map.2 ⟨c, hc, rfl⟩, (lV h (kl c hc) y).2 ⟨b, hb, e⟩⟩
end
theorem YK {t : aA} (h : aB t = 0) {k i : Nat} (hk : k < t.ps.length) (e : gi t.ps k = (i : Int)) : i < k := by
 have hok := (aH h).2.2.2.1
 by_cases h0 : k = 0
 ·subst h0
  have h1 := yG hok hk
  unfold mH at h1
  simp at h1
  omega
 ·have := kJ hok hk (by omega)
  omega
end
section
open Go.RowKit Go.Deep
def lJ (x y : Int) : Int := if x < y then -1 else if y < x then 1 else 0
set_option maxHeartbeats 400000 in
theorem UK (x : Int) (w : World) : Calls Tryz.prog 167 #[.int .i64 x] w fun e w' => e = .returned (.bool false) ∧ w = w' := by
 go_enter Tryz.func167, Tryz.ntmps167
 go_wp2_with fail
 go_ret
 exact ⟨aO (by simp), rfl⟩
set_option maxHeartbeats 400000 in
theorem Pw (x y : Int) (w : World) : Calls Tryz.prog 96 #[.int .i64 x, .int .i64 y] w fun e w' => e = .returned (.int .i64 (lJ x y)) ∧ w = w' := by
 have HX := aa (UK x w)
 have HY := aa (UK y w)
 have HC : Hid (lJ x y = if x < y then -1 else if y < x then 1 else 0) := rfl
 by_cases h1 : x < y
 ·have h2 : ¬ y < x := by omega
  go_enter Tryz.func96, Tryz.ntmps96
  go_wp2_with fail
  refine HX.out.mono ?_
  rintro e w' ⟨rfl, rfl⟩
  go_wp2_with fail
  refine HY.out.mono ?_
  rintro e w' ⟨rfl, rfl⟩
  go_wp2_with fail
  go_ret
  exact ⟨aI (by rw [HC.out, if_pos h1]), rfl⟩
 by_cases h2 : y < x
 ·go_enter Tryz.func96, Tryz.ntmps96
  go_wp2_with fail
  refine HX.out.mono ?_
  rintro e w' ⟨rfl, rfl⟩
  go_wp2_with fail
  refine HY.out.mono ?_
  rintro e w' ⟨rfl, rfl⟩
  go_wp2_with fail
  go_ret
  exact ⟨aI (by rw [HC.out, if_neg (by omega), if_pos h2]), rfl⟩
 ·go_enter Tryz.func96, Tryz.ntmps96
  go_wp2_with fail
  refine HX.out.mono ?_
  rintro e w' ⟨rfl, rfl⟩
  go_wp2_with fail
  refine HY.out.mono ?_
  rintro e w' ⟨rfl, rfl⟩
  go_wp2_with fail
  go_ret
  exact ⟨aI (by rw [HC.out, if_neg (by omega), if_neg (by omega)]), rfl⟩
theorem SJ (b : List Int) : cmpL [] b = if b.length = 0 then 0 else -1 := by cases b <;> simp [cmpL]
theorem tr {a b : List Int} : ∀ {k : Nat}, k ≤ a.length → k ≤ b.length → (∀ j, j < k → gi a j = gi b j) → cmpL a b = cmpL (a.drop k) (b.drop k)
 | 0, _, _, _ => by simp
 | k + 1, ha, hb, h => by
  rw [tr (k := k) (by omega) (by omega) fun j hj => h j (by omega)]
  rw [List.drop_eq_getElem_cons (show k < a.length by omega), List.drop_eq_getElem_cons (show k < b.length by omega)]
  have e := h k (by omega)
  simp only [gi, List.getD_eq_getElem?_getD, List.getElem?_eq_getElem (show k < a.length by omega), List.getElem?_eq_getElem (show k < b.length by omega), Option.getD_some] at e
  rw [cmpL, if_neg (by omega), if_neg (by omega)]
theorem VT {a b : List Int} {k : Nat} (ha : k < a.length) (hb : k < b.length) (h : ∀ j, j < k → gi a j = gi b j) (hne : lJ (gi a k) (gi b k) ≠ 0) : cmpL a b = lJ (gi a k) (gi b k) := by
 rw [tr (by omega) (by omega) h, List.drop_eq_getElem_cons ha, List.drop_eq_getElem_cons hb]
 have e1 : gi a k = a[k] := by simp [gi, ha]
 have e2 : gi b k = b[k] := by simp [gi, hb]
 rw [e1, e2] at hne ⊢
 unfold lJ at hne ⊢
 rw [cmpL]
 split
 ·rfl
 ·rename_i h1
  rw [if_neg h1] at hne
  split
  ·rfl
  ·rename_i h2; rw [if_neg h2] at hne; exact absurd rfl hne
set_option maxHeartbeats 1000000 in
theorem Px (S T : Nat → Prop) (w : World) (v u : Value) (a b : List Int) (h : af S w v a) (h2 : af T w u b) (hn : a.length ≤ 1000000) (_ : b.length ≤ 1000000) :
  Calls Tryz.prog 97 #[v, u] w fun e w' => e = .returned (.int .i64 (cmpL a b)) ∧ w = w' := by
 obtain ⟨p, cap, rfl, -, -⟩ := av.open h
 obtain ⟨q, tu, rfl, -, -⟩ := av.open h2
 have H : Hid (af S w (.slice p a.length cap) a) := h
 have H2 : Hid (af T w (.slice q b.length tu) b) := h2
 clear h h2
 go_enter Tryz.func97, Tryz.ntmps97
 go_wp2_with fail
 go_loop [5, 6, 7, 8, 11] (fun _ _ _ _ i => ∃ k : Nat, k ≤ a.length ∧ k ≤ b.length ∧ i = .int .i64 k ∧ Hid (∀ j, j < k → gi a j = gi b j)) (fun _ _ _ _ i => a.length - (intOf i).toNat)
 case atStart => exact ⟨0, Nat.zero_le _, Nat.zero_le _, rfl, fun j hj => absurd hj (Nat.not_lt_zero _)⟩
 case round =>
  obtain ⟨k, hk, hk2, rfl, hd⟩ := hrel
  by_cases hlt : k < a.length
  ·obtain ⟨b1, o1, rfl, hc⟩ := bw H.out hlt
   have k1 : (0 : Int) ≤ (k : Int) := Int.natCast_nonneg _
   have k2 : (k : Int) < (a.length : Int) := Int.ofNat_lt.2 hlt
   by_cases iT : k < b.length
   ·obtain ⟨b2, o2, rfl, hc2⟩ := bw H2.out iT
    have k3 : (k : Int) < (b.length : Int) := Int.ofNat_lt.2 iT
    have k4 : ¬ (b.length : Int) ≤ (k : Int) := by omega
    have wH : Hid (lJ (gi a k) (gi b k) ≠ 0 → cmpL a b = lJ (gi a k) (gi b k)) := VT hlt iT hd.out
    have Py : Hid (lJ (gi a k) (gi b k) = 0 → gi a k = gi b k) := fun e => by
     unfold lJ at e
     split at e
     ·cases e
     ·split at e
      ·cases e
      ·omega
    have HC := aa (Pw (gi a k) (gi b k) w)
    generalize hgx : gi a k = x at *
    generalize hgy : gi b k = y at *
    have pU := aa hgx
    have Hq := aa hgy
    clear hgx hgy
    generalize lJ x y = c at *
    by_cases h0 : c = 0
    ·have HE := aa (Py.out h0)
     subst h0
     go_wp2_with fail
     refine HC.out.mono ?_
     rintro e w' ⟨rfl, rfl⟩
     go_wp2_with fail
     go_round
     case rel => exact ⟨k + 1, by omega, by omega, by go_num, fun j hj => by
      by_cases e : j = k
      ·subst e; rw [pU.out, Hq.out]; exact HE.out
      ·exact hd.out j (by omega)⟩
     case measure => simp [intOf]; omega
    ·have HZ := aa h0
     have d1 : (c == 0) = false := by simpa using h0
     have d2 : (c != 0) = true := by simpa using h0
     clear h0
     go_wp2_with fail
     refine HC.out.mono ?_
     rintro e w' ⟨rfl, rfl⟩
     go_wp2_with fail
     go_ret
     exact ⟨aI (wH.out HZ.out).symm, rfl⟩
   ·obtain rfl : k = b.length := by omega
    have k4 : (b.length : Int) ≤ (b.length : Int) := Int.le_refl _
    have HL := aa hlt
    go_wp2_with fail
    go_ret
    exact ⟨aI (by rw [tr hk (Nat.le_refl _) hd.out, List.drop_length, List.drop_eq_getElem_cons HL.out]; rfl), rfl⟩
  ·obtain rfl : k = a.length := by omega
   have HR : Hid (cmpL a b = if b.length - a.length = 0 then 0 else -1) := by unfold Hid; rw [tr (Nat.le_refl _) hk2 hd.out, List.drop_length, SJ, List.length_drop]
   by_cases hl : a.length < b.length
   ·have hl2 : (a.length : Int) < (b.length : Int) := Int.ofNat_lt.2 hl
    go_wp2_with fail
    go_ret
    exact ⟨aI (by rw [HR.out, if_neg (by omega)]), rfl⟩
   ·have hl2 : ¬ (a.length : Int) < (b.length : Int) := by omega
    have HL := aa hl
    go_wp2_with fail
    go_ret
    exact ⟨aI (by rw [HR.out, if_pos (by have := HL.out; omega)]), rfl⟩
end
section
open Go.RowKit Go.Deep
def dy (P : Nat → Bool) (j : Nat) : List Nat := (List.range j).filter fun i => !P i
theorem VU (P : Nat → Bool) (j : Nat) : (dy P j).length ≤ j := by
 unfold dy
 refine Nat.le_trans (List.length_filter_le _ _) ?_
 rw [List.length_range]; exact Nat.le_refl _
theorem r6 (P : Nat → Bool) (j : Nat) : dy P (j + 1) = if P j then dy P j else dy P j ++ [j] := by
 unfold dy
 rw [List.range_succ, List.filter_append]
 cases h : P j
 ·rw [if_neg (by decide), List.filter_cons_of_pos (by rw [h]; rfl)]; rfl
 ·rw [if_pos rfl, List.filter_cons_of_neg (by rw [h]; decide)]; simp
theorem KQ {P : Nat → Bool} {j : Nat} (h : ∀ i, i < j → P i = false) : dy P j = List.range j := by
 unfold dy
 rw [List.filter_eq_self]
 intro i hi
 rw [h i (List.mem_range.1 hi)]; rfl
def mI (vs : List Value) (j : Nat) : Value := vs.getD j undef
structure mY (vs : List Value) (P : Nat → Bool) (base : Nat) (w wr : World) (g cap j : Nat) (X : List Value) : Prop where
 own : ah base 26 wr (.slice (some ⟨g, 0, none⟩) vs.length cap) X
 len : X.length = vs.length
 head : X.take (dy P j).length = (dy P j).map (mI vs)
 rest : ∀ q, (dy P j).length ≤ q → X[q]? = vs[q]?
 up : w.grownBy wr (some g)
section
variable {vs : List Value} {P : Nat → Bool} {base : Nat} {w wr : World} {g cap : Nat} {X : List Value}
theorem r7 {j : Nat} (hj : j < vs.length) : vs[j]? = some (mI vs j) := by unfold mI; rw [List.getD_eq_getElem?_getD, List.getElem?_eq_getElem hj]; rfl
theorem mY.start (h : ah base 26 w (.slice (some ⟨g, 0, none⟩) vs.length cap) vs) {j : Nat} (hj : j < vs.length) (hno : ∀ i, i < j → P i = false) (hP : P j = true) (m : Nat) :
  mY vs P base w (w.drewN m) g cap (j + 1) vs ∧ (dy P (j + 1)).length = j := by
 have e : dy P (j + 1) = List.range j := by rw [r6, hP, if_pos rfl, KQ hno]
 refine ⟨⟨h.dz fun _ _ => rfl, rfl, ?_, fun _ _ => rfl, kL (Up.drewN w m) _⟩, by rw [e, List.length_range]⟩
 rw [e, List.length_range]
 apply List.ext_getElem?
 intro i
 by_cases hi : i < j
 ·rw [List.getElem?_take_of_lt hi, List.getElem?_map, List.getElem?_range hi, r7 (by omega)]; rfl
 ·rw [List.getElem?_take_eq_none (by omega), List.getElem?_eq_none (by simp; omega)]
theorem mY.skip {j : Nat} (h : mY vs P base w wr g cap j X) (hP : P j = true) (m : Nat) : mY vs P base w (wr.drewN m) g cap (j + 1) X := by
 have e : dy P (j + 1) = dy P j := by rw [r6, if_pos hP]
 exact ⟨h.own.dz fun _ _ => rfl, h.len, by rw [e]; exact h.head, by rw [e]; exact h.rest, gh h.up (kL (Up.drewN wr m) _)⟩
theorem mY.drewn {j : Nat} (h : mY vs P base w wr g cap j X) (m : Nat) : mY vs P base w (wr.drewN m) g cap j X :=
 ⟨h.own.dz fun _ _ => rfl, h.len, h.head, h.rest, gh h.up (kL (Up.drewN wr m) _)⟩
theorem mY.cells {j : Nat} (h : mY vs P base w wr g cap j X) {q : Nat} (hq : (dy P j).length ≤ q) (hl : q < vs.length) : wr.cell? ⟨g, q, none⟩ = some (mI vs q) :=
 (mS h.own (by rw [h.rest q hq]; exact r7 hl)).1
theorem mY.push {j : Nat} (h : mY vs P base w wr g cap j X) (hj : j < vs.length) (hP : P j = false) (hk : (dy P j).length < j) :
  (∃ x, wr.cell? ⟨g, (dy P j).length, none⟩ = some x) ∧ wr.frozen? ⟨g, (dy P j).length, none⟩ = false ∧ (dy P (j + 1)).length = (dy P j).length + 1 ∧
   ∃ X', mY vs P base w (wr.setCell ⟨g, (dy P j).length, none⟩ (mI vs j)) g cap (j + 1) X' := by
 obtain ⟨g2, bJ, e1, _, _, hc, hf, hs⟩ := h.own.set (j := (dy P j).length) (by rw [h.len]; omega)
 injection e1 with a1 a2 a3
 injection a1 with a1
 injection a1 with a1
 subst a1
 have hkk := r6 P j
 rw [if_neg (by rw [hP]; decide)] at hkk
 have hl : (dy P (j + 1)).length = (dy P j).length + 1 := by rw [hkk, List.length_append]; rfl
 refine ⟨⟨_, hc⟩, hf, hl, X.set (dy P j).length (mI vs j), hs _, by rw [List.length_set]; exact h.len, ?_, fun q hq => ?_, gh h.up Eb⟩
 ·rw [hl, hkk, List.map_append, ← h.head]
  have hlt : (dy P j).length < (X.set (dy P j).length (mI vs j)).length := by rw [List.length_set, h.len]; omega
  rw [List.take_succ_eq_append_getElem hlt, List.take_set_of_le (Nat.le_refl _), List.getElem_set_self]; rfl
 ·rw [hl] at hq
  rw [List.getElem?_set_ne (by omega)]; exact h.rest q (by omega)
theorem mY.done {m : Nat} (h : mY vs P base w wr g cap vs.length X) (hm : (dy P vs.length).length = m) (hlt : m < vs.length) :
  (∀ i, i < vs.length - m → (wr.cell? ⟨g, m + i, none⟩).isSome = true) ∧ (∀ i, i < vs.length - m → wr.frozen? ⟨g, m + i, none⟩ = false) ∧
   ah base 26 (wr.setCells g m (List.replicate (vs.length - m) (.slice none 0 0))) (.slice (some ⟨g, 0, none⟩) m cap) ((dy P vs.length).map (mI vs)) ∧
   w.grownBy (wr.setCells g m (List.replicate (vs.length - m) (.slice none 0 0))) (some g) := by
 have hcell : ∀ i, i < vs.length - m → wr.cell? ⟨g, m + i, none⟩ = some (X.getD (m + i) undef) ∧ wr.frozen? ⟨g, m + i, none⟩ = false := fun i hi => by
  have hl : m + i < X.length := by rw [h.len]; omega
  exact mS h.own (by rw [List.getD_eq_getElem?_getD, List.getElem?_eq_getElem hl]; rfl)
 refine ⟨fun i hi => by rw [(hcell i hi).1]; rfl, fun i hi => (hcell i hi).2, ?_, gh h.up (BO _ _ _)⟩
 refine BP _ _ _ (Nat.le_refl _) ?_
 have := Ec h.own (m := m) (by omega)
 rw [← hm, h.head] at this
 rw [← hm]; exact this
end
theorem Tryz.VV : ∀ w, (zeroValue 26).run Tryz.prog w = .ok (.slice none 0 0) w := fun w => by simp [Tryz.zeroValue26]
set_option maxHeartbeats 4000000 in
theorem MK {P : Nat → Bool} (g : Nat) (lb : Array Value) (eg : ∀ args w, (callFunc g args).run Tryz.prog w = .ok (.enter g args) w) {base : Nat} {w : World} {bk cap : Nat} {vs : List Value} (h : ah base 26 w (.slice (some ⟨bk, 0, none⟩) vs.length cap) vs) (hn : vs.length ≤ 1000000) (hP0 : P 0 = false)
  (jv : ∀ j, j < vs.length → ∃ q n c, mI vs j = .slice q n c)
  (hp : ∀ j, 0 < j → j < vs.length → ∀ W, w.grownBy W (some bk) → Calls Tryz.prog g (#[mI vs j, mI vs (j - 1)] ++ lb) W fun e W' => e = .returned (.bool (P j)) ∧ ∃ m, W' = W.drewN m) :
  Calls Tryz.prog 98 #[.slice (some ⟨bk, 0, none⟩) vs.length cap, .func (.func g) #[] lb] w fun e w' => ∃ m, e = .returned (.slice (some ⟨bk, 0, none⟩) m cap) ∧ ah base 26 w' (.slice (some ⟨bk, 0, none⟩) m cap) ((dy P vs.length).map (mI vs)) ∧ w.grownBy w' (some bk) := by
 have HO := aa h
 have HP := aa hp
 have kI := aa jv
 have YL : Hid ((∀ i, i < vs.length → P i = false) → (dy P vs.length).map (mI vs) = vs) := fun hno => by
  rw [KQ hno]
  apply List.ext_getElem?
  intro i
  by_cases hi : i < vs.length
  ·rw [List.getElem?_map, List.getElem?_range hi, r7 hi]; rfl
  ·rw [List.getElem?_eq_none (by simp; omega), List.getElem?_eq_none (by omega)]
 have hcap : vs.length ≤ cap := Sd h
 clear h hp jv
 by_cases h2 : vs.length < 2
 ·have h2i : (vs.length : Int) < 2 := by omega
  have HN : Hid (∀ i, i < vs.length → P i = false) := fun i hi => by rw [show i = 0 by omega]; exact hP0
  clear h2
  go_enter Tryz.func98, Tryz.ntmps98
  go_wp2_with fail
  go_ret
  exact ⟨_, rfl, by rw [YL.out HN.out]; exact HO.out, qF _ _⟩
 have h2i : ¬ (vs.length : Int) < 2 := by omega
 have n6 : (vs.length : Int) ≤ 1000000 := by omega
 have HP0 := aa hP0
 go_enter Tryz.func98, Tryz.ntmps98
 go_wp2_with fail
 go_loopw [5, 6, 7] (fun x _ _ wr => ∃ k : Nat, 1 ≤ k ∧ k ≤ vs.length ∧ x = .int .i64 k ∧ Hid (∀ i, i < k → P i = false) ∧ Hid (∃ m, wr = w.drewN m)) (fun x _ _ _ => vs.length - (intOf x).toNat)
 case atStart => exact ⟨1, Nat.le_refl _, by omega, by go_num, fun i hi => by rw [show i = 0 by omega]; exact HP0.out, 0, rfl⟩
 case round =>
  obtain ⟨k, gT, hk, rfl, hno, hm⟩ := hrel
  obtain ⟨m1, UL⟩ := hm.out
  obtain ⟨wo, rfl⟩ : ∃ wo : World, wo = wr := ⟨_, rfl⟩
  have YM := aa UL
  have aW : w.grownBy wo (some bk) := by rw [UL]; exact kL (Up.drewN w m1) _
  have Fg : ah base 26 wo (.slice (some ⟨bk, 0, none⟩) vs.length cap) vs := by rw [UL]; exact HO.out.dz fun _ _ => rfl
  clear hm UL
  by_cases hlt : k < vs.length
  ·have c1 := (mS Fg (r7 hlt)).1
   have c2 := (mS Fg (r7 (show k - 1 < vs.length by omega))).1
   have i1 : (0 : Int) ≤ (k : Int) := by omega
   have i2 : (k : Int) < (vs.length : Int) := by omega
   have i3 : (k : Int) < 1000000 := by omega
   have j1 : (0 : Int) ≤ (k : Int) - 1 := by omega
   have j2 : (k : Int) - 1 < (vs.length : Int) := by omega
   have j3 : ((k : Int) - 1).toNat = k - 1 := by omega
   have j4 : wrap64 ((k : Int) - 1) = (k : Int) - 1 := by unfold wrap64; omega
   obtain ⟨q1, n1, d1, e1⟩ := kI.out k hlt
   obtain ⟨q2, n2, d2, e2⟩ := kI.out (k - 1) (by omega)
   have vZ : Hid (∀ n, Calls Tryz.prog g (#[.slice q1 n1 d1, .slice q2 n2 d2] ++ lb) (wo.drewN n) fun e W' => e = .returned (.bool (P k)) ∧ ∃ q, W' = wo.drewN q) := fun n => by
    rw [← e1, ← e2]
    refine (HP.out k gT hlt (wo.drewN n) (gh aW (kL (Up.drewN wo n) _))).mono ?_
    rintro e W' ⟨rfl, q, rfl⟩
    exact ⟨rfl, n + q, by rw [World.drewN_drewN]⟩
   rw [e1] at c1
   rw [e2] at c2
   have B9 : Hid (∃ x, P k = x) := ⟨_, rfl⟩
   clear aW e1 e2
   cases KR : P k
   ·rw [KR] at vZ
    have sV : Hid (∀ i, i < k + 1 → P i = false) := fun i hi => by
     by_cases e : i = k
     ·rw [e]; exact KR
     ·exact hno.out i (by omega)
    clear KR
    go_wp2_with fail
    go_big_quiet (first | with_reducible exact vZ.out _)
    go_wp2_with fail
    clear j4
    go_roundw
    case rel => exact ⟨k + 1, by omega, by omega, by go_num, sV, m1 + nq, by rw [YM.out, World.drewN_drewN]⟩
    case measure => simp [intOf]; omega
   ·rw [KR] at vZ
    have HST : Hid (∀ m, mY vs P base w (w.drewN m) bk cap (k + 1) vs ∧ (dy P (k + 1)).length = k) := fun m => mY.start HO.out hlt hno.out KR m
    clear KR
    go_wp2_with fail
    go_big_quiet (first | with_reducible exact vZ.out _)
    have wD := aa (HST.out (m1 + nq))
    rw [← World.drewN_drewN, ← YM.out] at wD
    generalize wo.drewN nq = w1 at *
    clear j4 c1 c2 vZ YM Fg
    have n3 : (k : Int) ≤ (vs.length : Int) := by omega
    have n4 : (k : Int) ≤ (cap : Int) := by omega
    go_wp2_with fail
    obtain ⟨M, hM⟩ : ∃ M, vs.length = k + M := ⟨vs.length - k, by omega⟩
    have HM := aa hM
    have hM2 : vs.length - k = M := by omega
    have M0 : 0 < M := by omega
    have M6 : (M : Int) ≤ 1000000 := by omega
    rw [hM2]
    clear hM hM2
    go_loopw [5, 7] (fun x y wr => ∃ d : Nat, 1 ≤ d ∧ d ≤ M ∧ y = .int .i64 d ∧ x = .int .i64 ((dy P (k + d)).length : Nat) ∧ Hid (∃ X, mY vs P base w wr bk cap (k + d) X) ∧ Hid ((dy P (k + d)).length < k + d)) (fun _ y _ => M - (intOf y).toNat)
    case atStart => exact ⟨1, Nat.le_refl _, by omega, by go_num, by rw [wD.out.2], ⟨_, wD.out.1⟩, by unfold Hid; rw [wD.out.2]; omega⟩
    case round =>
     obtain ⟨d, hd1, hd, rfl, rfl, hX, hK⟩ := hrel
     obtain ⟨wz, rfl⟩ : ∃ wz : World, wz = wr := ⟨_, rfl⟩
     obtain ⟨X, hX⟩ := hX.out
     by_cases hdlt : d < M
     ·have hjl : k + d < vs.length := by have := HM.out; omega
      have c1 := hX.cells (q := k + d) (by have := hK.out; omega) hjl
      have c2 := hX.cells (q := k + (d - 1)) (by have := hK.out; omega) (by omega)
      obtain ⟨q3, YN, d3, e3⟩ := kI.out (k + d) hjl
      obtain ⟨q4, n4', d4, e4⟩ := kI.out (k + (d - 1)) (by omega)
      have tv : Hid (∀ n, Calls Tryz.prog g (#[.slice q3 YN d3, .slice q4 n4' d4] ++ lb) (wz.drewN n) fun e W' => e = .returned (.bool (P (k + d))) ∧ ∃ q, W' = wz.drewN q) := fun n => by
       rw [← e3, ← e4]
       have h := HP.out (k + d) (by omega) hjl (wz.drewN n) (gh hX.up (kL (Up.drewN wz n) _))
       rw [show k + d - 1 = k + (d - 1) by omega] at h
       refine h.mono ?_
       rintro e W' ⟨rfl, q, rfl⟩
       exact ⟨rfl, n + q, by rw [World.drewN_drewN]⟩
      have YO : Hid (∀ m, P (k + d) = false → (∃ x, (wz.drewN m).cell? ⟨bk, (dy P (k + d)).length, none⟩ = some x) ∧ (wz.drewN m).frozen? ⟨bk, (dy P (k + d)).length, none⟩ = false ∧ (dy P (k + d + 1)).length = (dy P (k + d)).length + 1 ∧
       ∃ X', mY vs P base w ((wz.drewN m).setCell ⟨bk, (dy P (k + d)).length, none⟩ (.slice q3 YN d3)) bk cap (k + d + 1) X') := fun m hPf => by
       have h := (hX.drewn m).push hjl hPf hK.out
       rw [e3] at h; exact h
      have qf : Hid (∀ m, P (k + d) = true → mY vs P base w (wz.drewN m) bk cap (k + d + 1) X ∧ (dy P (k + d + 1)).length = (dy P (k + d)).length) := fun m hPt => ⟨hX.skip hPt m, by rw [r6, if_pos hPt]⟩
      have dM : Hid (∀ m, (wz.drewN m).cell? ⟨bk, k + d, none⟩ = some (.slice q3 YN d3)) := fun m => by rw [← e3]; exact (Up.drewN wz m).cell c1
      rw [e3] at c1
      rw [e4] at c2
      have a1 : (0 : Int) ≤ (d : Int) := by omega
      have a2 : (d : Int) < (M : Int) := by omega
      have a3 : (d : Int) < 1000000 := by omega
      have b1 : (0 : Int) ≤ (d : Int) - 1 := by omega
      have b2 : (d : Int) - 1 < (M : Int) := by omega
      have b3 : ((d : Int) - 1).toNat = d - 1 := by omega
      have b4 : wrap64 ((d : Int) - 1) = (d : Int) - 1 := by unfold wrap64; omega
      have kn := aa (VU P (k + d))
      have HJL := aa hjl
      have pJ : Hid (vs.length ≤ 1000000) := hn
      clear e3 e4 hX hjl
      cases wI : P (k + d)
      ·rw [wI] at tv
       have YP : Hid (∀ m, _) := fun m => YO.out m wI
       clear wI YO qf
       have k0 : (0 : Int) ≤ ((dy P (k + d)).length : Int) := by omega
       have k1' : ((dy P (k + d)).length : Int) < (vs.length : Int) := by have := hK.out; have := HJL.out; omega
       have k2' : ((dy P (k + d)).length : Int) < 1000000 := by have := pJ.out; omega
       go_wp2_with fail
       go_big_quiet (first | with_reducible exact tv.out _)
       obtain ⟨⟨cx, zb⟩, hff, hl, X', hX'⟩ := YP.out nq
       have c1 := dM.out nq
       have HX' := aa hX'
       have HL := aa hl
       clear hX' hl b4 c2 tv YP
       generalize wz.drewN nq = wy at *
       go_wp2_with fail
       go_roundw
       case rel => exact ⟨d + 1, by omega, by omega, by go_num, by rw [show k + (d + 1) = k + d + 1 by omega, HL.out]; go_num, ⟨X', HX'.out⟩, by unfold Hid; rw [show k + (d + 1) = k + d + 1 by omega, HL.out]; have := hK.out; omega⟩
       case measure => simp [intOf]; omega
      ·rw [wI] at tv
       have YQ : Hid (∀ m, _) := fun m => qf.out m wI
       clear wI YO qf
       go_wp2_with fail
       go_big_quiet (first | with_reducible exact tv.out _)
       obtain ⟨hx1, hl⟩ := YQ.out nq
       have jN := aa hx1
       have HL := aa hl
       clear hx1 hl b4 c1 c2 tv YQ
       go_wp2_with fail
       go_roundw
       case rel => exact ⟨d + 1, by omega, by omega, by go_num, by rw [show k + (d + 1) = k + d + 1 by omega, HL.out], ⟨X, jN.out⟩, by unfold Hid; rw [show k + (d + 1) = k + d + 1 by omega, HL.out]; have := hK.out; omega⟩
       case measure => simp [intOf]; omega
     ·obtain rfl : d = M := by omega
      have hMl := HM.out
      rw [← hMl] at hX hK ⊢
      obtain ⟨mm, hmm⟩ : ∃ mm, (dy P vs.length).length = mm := ⟨_, rfl⟩
      have hml : mm < vs.length := by rw [← hmm]; exact hK.out
      obtain ⟨hc, hf, ho, hg⟩ := hX.done hmm hml
      have HO2 := aa ho
      have wJ := aa hg
      have uJ := Lib.run_clear_slice (P := Tryz.prog) wz 23 26 0 (.slice none 0 0) Tryz.underlying23 Tryz.VV rfl rfl bk mm (vs.length - mm) (cap - mm) (by omega) hc hf
      rw [hmm]
      have e1 : (0 : Int) ≤ (mm : Int) := by omega
      have e2 : (mm : Int) ≤ (vs.length : Int) := by omega
      have e3 : (mm : Int) < (vs.length : Int) := by omega
      have e4 : mm ≤ cap := by omega
      have e5 : (mm : Int) ≤ (cap : Int) := by omega
      clear hc hf ho hg hX hK hmm hMl HM M0 M6 hd hd1 hdlt
      go_wp2_with fail
      go_ret
      exact ⟨mm, rfl, HO2.out, wJ.out⟩
  ·obtain rfl : k = vs.length := by omega
   go_wp2_with fail
   go_ret
   exact ⟨_, rfl, by rw [YL.out hno.out]; exact Fg, aW⟩
end
end Go.Proofs.YtpnmblnahjjmhaaGreat
