/- Nodes in the order in which split.below yields them; the places below a node out of those below its children: plain. cmp.Compare at ints, slices.Compare at lists of ints. The contract of slices.CompactFunc at lists of ints that the caller owns. The contract of slices.SortFunc at lists of ints: the laying. -/
import Derived.Test.YtpnmblnahjjmhaaGreatQ1
import Derived.Test.YtpnmblnahjjmhaaGreatQ28
import Derived.Test.YtpnmblnahjjmhaaGreatQ24
import Derived.Test.YtpnmblnahjjmhaaGreatQ2
import Derived.Test.YtpnmblnahjjmhaaGreatQ3
import Derived.Test.YtpnmblnahjjmhaaGreatQ27
import Derived.Test.YtpnmblnahjjmhaaGreatQ20
import Derived.Shelf.SlGeneric
import Derived.Shelf.SlSortCmp.NoneTotal
import Derived.Test.YtpnmblnahjjmhaaGreatProg
namespace Go.Proofs.YtpnmblnahjjmhaaGreat
set_option maxRecDepth 100000
section
def posD (ps : List Int) : Nat → Nat → List Nat
 | 0, _ => []
 | d + 1, i => (bO ps i).flatMap (posD ps d) ++ if i = 0 then [] else [i]
def fI (t : aJ) (i : Nat) : List Nat := posD t.ps (t.ps.length - i) i
theorem sP {α β : Type} {f g : α → List β} : ∀ {l : List α}, (∀ x ∈ l, f x = g x) → l.flatMap f = l.flatMap g
 | [], _ => rfl
 | a :: l, h => by
  rw [List.flatMap_cons, List.flatMap_cons, h a (by simp), sP fun x hx => h x (List.mem_cons_of_mem _ hx)]
theorem EA (ps : List Int) : ∀ (d e i : Nat), ps.length - i ≤ d → ps.length - i ≤ e → i < ps.length → posD ps d i = posD ps e i
 | 0, e, i, h, _, hi => by omega
 | d + 1, 0, i, _, h, hi => by omega
 | d + 1, e + 1, i, h1, h2, hi => by
  rw [posD, posD]
  congr 1
  refine sP fun c hc => ?_
  obtain ⟨c1, c2, _⟩ := cC.1 hc
  exact EA ps d e c (by omega) (by omega) c1
theorem zg (t : aJ) {i : Nat} (hi : i < t.ps.length) : fI t i = (bO t.ps i).flatMap (fI t) ++ if i = 0 then [] else [i] := by
 unfold fI
 obtain ⟨d, hd⟩ : ∃ d, t.ps.length - i = d + 1 := ⟨t.ps.length - i - 1, by omega⟩
 rw [hd, posD]
 congr 1
 refine sP fun c hc => ?_
 obtain ⟨c1, c2, _⟩ := cC.1 hc
 exact EA t.ps _ _ c (by omega) (Nat.le_refl _) c1
section
variable {t : aJ} {names : List ByteArray}
theorem vV (h : aK t = 0) : ∀ (d i : Nat), t.ps.length - i ≤ d → i < t.ps.length → (∀ k, k ∈ fI t i ↔ k ∈ cm (dr t) (cI t) i ∧ k ≠ 0) ∧ (fI t i).length ≤ (cm (dr t) (cI t) i).length
 | 0, i, hd, hi => by omega
 | d + 1, i, hd, hi => by
  have e := cO (cS h).wf hi
  rw [gz] at e
  have ih : ∀ c ∈ bO t.ps i, (∀ k, k ∈ fI t c ↔ k ∈ cm (dr t) (cI t) c ∧ k ≠ 0) ∧ (fI t c).length ≤ (cm (dr t) (cI t) c).length := fun c hc => by
   obtain ⟨c1, c2, _⟩ := cC.1 hc
   exact vV h d c (by omega) c1
  rw [zg t hi, e]
  constructor
  ·intro k
   rw [List.mem_append, List.mem_flatMap, List.mem_cons, List.mem_flatMap]
   constructor
   ·rintro (⟨c, hc, hk⟩ | hk)
    ·obtain ⟨h1, h2⟩ := ((ih c hc).1 k).1 hk
     exact ⟨.inr ⟨c, hc, h1⟩, h2⟩
    ·by_cases h0 : i = 0
     ·rw [if_pos h0] at hk; cases hk
     ·rw [if_neg h0, List.mem_singleton] at hk
      subst hk; exact ⟨.inl rfl, h0⟩
   ·rintro ⟨rfl | ⟨c, hc, hk⟩, h2⟩
    ·rw [if_neg h2]; exact .inr (by simp)
    ·exact .inl ⟨c, hc, ((ih c hc).1 k).2 ⟨hk, h2⟩⟩
  ·have hs : ∀ l : List Nat, (∀ c ∈ l, (fI t c).length ≤ (cm (dr t) (cI t) c).length) → (l.flatMap (fI t)).length ≤ (l.flatMap (cm (dr t) (cI t))).length := fun l => by
    induction l with
    | nil => intro _; exact Nat.le_refl _
    | cons a l ihl =>
     intro hl
     have h1 := hl a (by simp)
     have h2 := ihl fun c hc => hl c (List.mem_cons_of_mem _ hc)
     rw [List.flatMap_cons, List.flatMap_cons, List.length_append, List.length_append]; omega
   have h1 := hs _ fun c hc => (ih c hc).2
   have h2 : (if i = 0 then ([] : List Nat) else [i]).length ≤ 1 := by split <;> simp
   rw [List.length_append, List.length_cons]
   show _ ≤ ((bO t.ps i).flatMap (cm (dr t) (cI t))).length + 1
   omega
theorem KP (h : aK t = 0) {k : Nat} : k ∈ fI t 0 ↔ 0 < k ∧ k < t.ps.length := by
 have h0 := (aP h).1
 rw [(vV h _ 0 (Nat.le_refl _) h0).1, (oK h).mem_iff, List.mem_range]
 omega
theorem KQ (h : aK t = 0) : (fI t 0).length ≤ t.ps.length := by
 have h0 := (aP h).1
 refine Nat.le_trans (vV h _ 0 (Nat.le_refl _) h0).2 ?_
 rw [(oK h).length_eq, List.length_range]; exact Nat.le_refl _
theorem Hs (h : iU t names) {i : Nat} (hi : i < t.ps.length) : 0 < (aW t names i).length := by
 have hg : gX (bu (dr t) (cI t) i) := (lD h.te).sub (by
  rw [jA h.te]
  exact List.mem_map.2 ⟨i, (oK h.te).mem_iff.2 (List.mem_range.2 hi), rfl⟩)
 obtain ⟨x, hx⟩ := hg.meet (cE _)
 obtain ⟨b, hb, _⟩ := (mT h hi x).1 hx
 exact List.length_pos_of_mem hb
theorem SG (h : iU t names) {i : Nat} (hi : i < t.ps.length) (hk : bO t.ps i = []) : aW t names i = [fG names (gs t.ns i)] := by
 have hz := eS (qd h.te hi hk)
 obtain ⟨b, hb, e⟩ := h.has i hi hz
 have hf : fG names (gs t.ns i) = (b : Int) := by rw [← e]; exact oQ h.nd hb
 refine Cg h.nd (pS t names i) (by simp) (fun x hx => by have := iJ.1 hx; exact ⟨this.1, this.2.1⟩) (fun x hx => by
  rw [List.mem_singleton.1 hx, hf]; omega) (mT h hi) fun y => ?_
 rw [dH (cS h.te).wf hi, gz, hk, List.map_nil, show (dr t).nm i = gs t.ns i from rfl, jl hz, hf]
 constructor
 ·intro hy; exact ⟨b, by simp, by rw [e]; simpa using hy⟩
 ·rintro ⟨c, hc, rfl⟩
  have : c = b := by have := List.mem_singleton.1 hc; omega
  subst this; rw [e]; simp
theorem SH (h : iU t names) {i : Nat} (hi : i < t.ps.length) (hk : bO t.ps i ≠ []) : oJ ((bO t.ps i).flatMap (aW t names)) = aW t names i := by
 have hmem : bu (dr t) (cI t) i ∈ subR (gh t) := by
  rw [jA h.te]
  exact List.mem_map.2 ⟨i, (oK h.te).mem_iff.2 (List.mem_range.2 hi), rfl⟩
 have hg : gX (bu (dr t) (cI t) i) := (lD h.te).sub hmem
 have eT := dH (cS h.te).wf hi
 rw [gz] at eT
 have hz : ((dr t).nm i).size = 0 := by
  have := hg.uU _ (cE _)
  rw [eT] at this
  exact this (by show List.map _ _ ≠ []; simpa using hk)
 have hlf : bH (bu (dr t) (cI t) i) = ((bO t.ps i).map (bu (dr t) (cI t))).flatMap bH := by rw [eT]; exact fU hz
 have kl : ∀ c ∈ bO t.ps i, c < t.ps.length := fun c hc => (cC.1 hc).1
 have hbd : ∀ c, ∀ x ∈ aW t names c, 0 ≤ x ∧ x < (names.length : Int) := fun c x hx => by have := iJ.1 hx; exact ⟨this.1, this.2.1⟩
 have eZ : ((bO t.ps i).flatMap (aW t names)).Nodup := by
  have hn := hg.nd
  rw [hlf, List.nodup_iff_pairwise_ne, List.pairwise_flatMap] at hn
  have h2 := List.pairwise_map.1 hn.2
  rw [List.nodup_iff_pairwise_ne, List.pairwise_flatMap]
  refine ⟨fun c _ => (pS t names c).imp fun h e => by omega, h2.imp_of_mem fun {a b} ha hb hab x hx y hy e => ?_⟩
  subst e
  obtain ⟨q, rfl⟩ := Int.eq_ofNat_of_zero_le (hbd a x hx).1
  exact hab _ ((mT h (kl a ha) _).2 ⟨q, hx, rfl⟩) _ ((mT h (kl b hb) _).2 ⟨q, hy, rfl⟩) rfl
 have hasc : (oJ ((bO t.ps i).flatMap (aW t names))).Pairwise (· < ·) := by
  have h1 := MI ((bO t.ps i).flatMap (aW t names))
  have h2 : (oJ ((bO t.ps i).flatMap (aW t names))).Nodup := (List.mergeSort_perm _ _).nodup_iff.2 eZ
  rw [List.nodup_iff_pairwise_ne] at h2
  exact (h1.and h2).imp fun ⟨a, b⟩ => by omega
 refine Cg h.nd hasc (pS t names i) (fun x hx => ?_) (hbd i) (fun y => ?_) (mT h hi)
 ·obtain ⟨c, _, hc⟩ := List.mem_flatMap.1 ((List.mergeSort_perm _ _).mem_iff.1 hx)
  exact hbd c x hc
 ·rw [hlf, List.mem_flatMap]
  constructor
  ·rintro ⟨r, hr, hy⟩
   obtain ⟨c, hc, rfl⟩ := List.mem_map.1 hr
   obtain ⟨b, hb, e⟩ := (mT h (kl c hc) y).1 hy
   exact ⟨b, (List.mergeSort_perm _ _).mem_iff.2 (List.mem_flatMap.2 ⟨c, hc, hb⟩), e⟩
  ·rintro ⟨b, hb, e⟩
   obtain ⟨c, hc, hb⟩ := List.mem_flatMap.1 ((List.mergeSort_perm _ _).mem_iff.1 hb)
   exact ⟨_, List.mem_map.2 ⟨c, hc, rfl⟩, (mT h (kl c hc) y).2 ⟨b, hb, e⟩⟩
end
theorem YH {t : aJ} (h : aK t = 0) {k i : Nat} (hk : k < t.ps.length) (e : gi t.ps k = (i : Int)) : i < k := by
 have hok := (aP h).2.2.2.1
 by_cases h0 : k = 0
 ·subst h0
  have h1 := yW hok hk
  unfold nE at h1
  simp at h1
  omega
 ·have := lI hok hk (by omega)
  omega
end
section
open Go.RowKit Go.Deep
def mJ (x y : Int) : Int := if x < y then -1 else if y < x then 1 else 0
set_option maxHeartbeats 400000 in
theorem UI (x : Int) (w : World) : Calls Tryz.prog 167 #[.int .i64 x] w fun e w' => e = .returned (.bool false) ∧ w = w' := by
 aq Tryz.func167, Tryz.ntmps167
 aa fail
 ax
 exact ⟨aZ (by simp), rfl⟩
set_option maxHeartbeats 400000 in
theorem Pz (x y : Int) (w : World) : Calls Tryz.prog 96 #[.int .i64 x, .int .i64 y] w fun e w' => e = .returned (.int .i64 (mJ x y)) ∧ w = w' := by
 have HX := ag (UI x w)
 have HY := ag (UI y w)
 have HC : Hid (mJ x y = if x < y then -1 else if y < x then 1 else 0) := rfl
 by_cases h1 : x < y
 ·have h2 : ¬ y < x := by omega
  aq Tryz.func96, Tryz.ntmps96
  aa fail
  refine HX.out.mono ?_
  rintro e w' ⟨rfl, rfl⟩
  aa fail
  refine HY.out.mono ?_
  rintro e w' ⟨rfl, rfl⟩
  aa fail
  ax
  exact ⟨aQ (by rw [HC.out, if_pos h1]), rfl⟩
 by_cases h2 : y < x
 ·aq Tryz.func96, Tryz.ntmps96
  aa fail
  refine HX.out.mono ?_
  rintro e w' ⟨rfl, rfl⟩
  aa fail
  refine HY.out.mono ?_
  rintro e w' ⟨rfl, rfl⟩
  aa fail
  ax
  exact ⟨aQ (by rw [HC.out, if_neg (by omega), if_pos h2]), rfl⟩
 ·aq Tryz.func96, Tryz.ntmps96
  aa fail
  refine HX.out.mono ?_
  rintro e w' ⟨rfl, rfl⟩
  aa fail
  refine HY.out.mono ?_
  rintro e w' ⟨rfl, rfl⟩
  aa fail
  ax
  exact ⟨aQ (by rw [HC.out, if_neg (by omega), if_neg (by omega)]), rfl⟩
theorem SI (b : List Int) : cmpL [] b = if b.length = 0 then 0 else -1 := by cases b <;> simp [cmpL]
theorem tR {a b : List Int} : ∀ {k : Nat}, k ≤ a.length → k ≤ b.length → (∀ j, j < k → gi a j = gi b j) → cmpL a b = cmpL (a.drop k) (b.drop k)
 | 0, _, _, _ => by simp
 | k + 1, ha, hb, h => by
  rw [tR (k := k) (by omega) (by omega) fun j hj => h j (by omega)]
  rw [List.drop_eq_getElem_cons (show k < a.length by omega), List.drop_eq_getElem_cons (show k < b.length by omega)]
  have e := h k (by omega)
  simp only [gi, List.getD_eq_getElem?_getD, List.getElem?_eq_getElem (show k < a.length by omega), List.getElem?_eq_getElem (show k < b.length by omega), Option.getD_some] at e
  rw [cmpL, if_neg (by omega), if_neg (by omega)]
theorem VS {a b : List Int} {k : Nat} (ha : k < a.length) (hb : k < b.length) (h : ∀ j, j < k → gi a j = gi b j) (hne : mJ (gi a k) (gi b k) ≠ 0) : cmpL a b = mJ (gi a k) (gi b k) := by
 rw [tR (by omega) (by omega) h, List.drop_eq_getElem_cons ha, List.drop_eq_getElem_cons hb]
 have e1 : gi a k = a[k] := by simp [gi, ha]
 have e2 : gi b k = b[k] := by simp [gi, hb]
 rw [e1, e2] at hne ⊢
 unfold mJ at hne ⊢
 rw [cmpL]
 split
 ·rfl
 ·rename_i h1
  rw [if_neg h1] at hne
  split
  ·rfl
  ·rename_i h2; rw [if_neg h2] at hne; exact absurd rfl hne
set_option maxHeartbeats 1000000 in
theorem PA (S T : Nat → Prop) (w : World) (v u : Value) (a b : List Int) (h : an S w v a) (h2 : an T w u b) (hn : a.length ≤ 1000000) (_ : b.length ≤ 1000000) :
  Calls Tryz.prog 97 #[v, u] w fun e w' => e = .returned (.int .i64 (cmpL a b)) ∧ w = w' := by
 obtain ⟨p, cap, rfl, -, -⟩ := aC.open h
 obtain ⟨q, tS, rfl, -, -⟩ := aC.open h2
 have H : Hid (an S w (.slice p a.length cap) a) := h
 have H2 : Hid (an T w (.slice q b.length tS) b) := h2
 clear h h2
 aq Tryz.func97, Tryz.ntmps97
 aa fail
 dD [5, 6, 7, 8, 11] (fun _ _ _ _ i => ∃ k : Nat, k ≤ a.length ∧ k ≤ b.length ∧ i = .int .i64 k ∧ Hid (∀ j, j < k → gi a j = gi b j)) (fun _ _ _ _ i => a.length - (intOf i).toNat)
 case atStart => exact ⟨0, Nat.zero_le _, Nat.zero_le _, rfl, fun j hj => absurd hj (Nat.not_lt_zero _)⟩
 case round =>
  obtain ⟨k, hk, hk2, rfl, hd⟩ := bE
  by_cases hlt : k < a.length
  ·obtain ⟨b1, o1, rfl, hc⟩ := bV H.out hlt
   have k1 : (0 : Int) ≤ (k : Int) := Int.natCast_nonneg _
   have k2 : (k : Int) < (a.length : Int) := Int.ofNat_lt.2 hlt
   by_cases jw : k < b.length
   ·obtain ⟨b2, o2, rfl, fJ⟩ := bV H2.out jw
    have k3 : (k : Int) < (b.length : Int) := Int.ofNat_lt.2 jw
    have k4 : ¬ (b.length : Int) ≤ (k : Int) := by omega
    have wW : Hid (mJ (gi a k) (gi b k) ≠ 0 → cmpL a b = mJ (gi a k) (gi b k)) := VS hlt jw hd.out
    have PB : Hid (mJ (gi a k) (gi b k) = 0 → gi a k = gi b k) := fun e => by
     unfold mJ at e
     split at e
     ·cases e
     ·split at e
      ·cases e
      ·omega
    have HC := ag (Pz (gi a k) (gi b k) w)
    generalize KR : gi a k = x at *
    generalize hgy : gi b k = y at *
    have qB := ag KR
    have Ht := ag hgy
    clear KR hgy
    generalize mJ x y = c at *
    by_cases h0 : c = 0
    ·have HE := ag (PB.out h0)
     subst h0
     aa fail
     refine HC.out.mono ?_
     rintro e w' ⟨rfl, rfl⟩
     aa fail
     cz
     case rel => exact ⟨k + 1, by omega, by omega, by aH, fun j hj => by
      by_cases e : j = k
      ·subst e; rw [qB.out, Ht.out]; exact HE.out
      ·exact hd.out j (by omega)⟩
     case measure => simp [intOf]; omega
    ·have HZ := ag h0
     have d1 : (c == 0) = false := by simpa using h0
     have d2 : (c != 0) = true := by simpa using h0
     clear h0
     aa fail
     refine HC.out.mono ?_
     rintro e w' ⟨rfl, rfl⟩
     aa fail
     ax
     exact ⟨aQ (wW.out HZ.out).symm, rfl⟩
   ·obtain rfl : k = b.length := by omega
    have k4 : (b.length : Int) ≤ (b.length : Int) := Int.le_refl _
    have HL := ag hlt
    aa fail
    ax
    exact ⟨aQ (by rw [tR hk (Nat.le_refl _) hd.out, List.drop_length, List.drop_eq_getElem_cons HL.out]; rfl), rfl⟩
  ·obtain rfl : k = a.length := by omega
   have HR : Hid (cmpL a b = if b.length - a.length = 0 then 0 else -1) := by unfold Hid; rw [tR (Nat.le_refl _) hk2 hd.out, List.drop_length, SI, List.length_drop]
   by_cases hl : a.length < b.length
   ·have mw : (a.length : Int) < (b.length : Int) := Int.ofNat_lt.2 hl
    aa fail
    ax
    exact ⟨aQ (by rw [HR.out, if_neg (by omega)]), rfl⟩
   ·have mw : ¬ (a.length : Int) < (b.length : Int) := by omega
    have HL := ag hl
    aa fail
    ax
    exact ⟨aQ (by rw [HR.out, if_pos (by have := HL.out; omega)]), rfl⟩
end
section
open Go.RowKit Go.Deep
def dZ (P : Nat → Bool) (j : Nat) : List Nat := (List.range j).filter fun i => !P i
theorem VT (P : Nat → Bool) (j : Nat) : (dZ P j).length ≤ j := by
 unfold dZ
 refine Nat.le_trans (List.length_filter_le _ _) ?_
 rw [List.length_range]; exact Nat.le_refl _
theorem sQ (P : Nat → Bool) (j : Nat) : dZ P (j + 1) = if P j then dZ P j else dZ P j ++ [j] := by
 unfold dZ
 rw [List.range_succ, List.filter_append]
 cases h : P j
 ·rw [if_neg (by decide), List.filter_cons_of_pos (by rw [h]; rfl)]; rfl
 ·rw [if_pos rfl, List.filter_cons_of_neg (by rw [h]; decide)]; simp
theorem KT {P : Nat → Bool} {j : Nat} (h : ∀ i, i < j → P i = false) : dZ P j = List.range j := by
 unfold dZ
 rw [List.filter_eq_self]
 intro i hi
 rw [h i (List.mem_range.1 hi)]; rfl
def nG (vs : List Value) (j : Nat) : Value := vs.getD j undef
structure nV (vs : List Value) (P : Nat → Bool) (base : Nat) (w wr : World) (g cap j : Nat) (X : List Value) : Prop where
 own : ay base 26 wr (.slice (some ⟨g, 0, none⟩) vs.length cap) X
 len : X.length = vs.length
 head : X.take (dZ P j).length = (dZ P j).map (nG vs)
 rest : ∀ q, (dZ P j).length ≤ q → X[q]? = vs[q]?
 up : w.grownBy wr (some g)
section
variable {vs : List Value} {P : Nat → Bool} {base : Nat} {w wr : World} {g cap : Nat} {X : List Value}
theorem sR {j : Nat} (hj : j < vs.length) : vs[j]? = some (nG vs j) := by unfold nG; rw [List.getD_eq_getElem?_getD, List.getElem?_eq_getElem hj]; rfl
theorem nV.start (h : ay base 26 w (.slice (some ⟨g, 0, none⟩) vs.length cap) vs) {j : Nat} (hj : j < vs.length) (hno : ∀ i, i < j → P i = false) (hP : P j = true) (m : Nat) :
  nV vs P base w (w.drewN m) g cap (j + 1) vs ∧ (dZ P (j + 1)).length = j := by
 have e : dZ P (j + 1) = List.range j := by rw [sQ, hP, if_pos rfl, KT hno]
 refine ⟨⟨h.ef fun _ _ => rfl, rfl, ?_, fun _ _ => rfl, lK (Up.drewN w m) _⟩, by rw [e, List.length_range]⟩
 rw [e, List.length_range]
 apply List.ext_getElem?
 intro i
 by_cases hi : i < j
 ·rw [List.getElem?_take_of_lt hi, List.getElem?_map, List.getElem?_range hi, sR (by omega)]; rfl
 ·rw [List.getElem?_take_eq_none (by omega), List.getElem?_eq_none (by simp; omega)]
theorem nV.skip {j : Nat} (h : nV vs P base w wr g cap j X) (hP : P j = true) (m : Nat) : nV vs P base w (wr.drewN m) g cap (j + 1) X := by
 have e : dZ P (j + 1) = dZ P j := by rw [sQ, if_pos hP]
 exact ⟨h.own.ef fun _ _ => rfl, h.len, by rw [e]; exact h.head, by rw [e]; exact h.rest, gL h.up (lK (Up.drewN wr m) _)⟩
theorem nV.drewn {j : Nat} (h : nV vs P base w wr g cap j X) (m : Nat) : nV vs P base w (wr.drewN m) g cap j X :=
 ⟨h.own.ef fun _ _ => rfl, h.len, h.head, h.rest, gL h.up (lK (Up.drewN wr m) _)⟩
theorem nV.cells {j : Nat} (h : nV vs P base w wr g cap j X) {q : Nat} (hq : (dZ P j).length ≤ q) (hl : q < vs.length) : wr.cell? ⟨g, q, none⟩ = some (nG vs q) :=
 (nQ h.own (by rw [h.rest q hq]; exact sR hl)).1
theorem nV.push {j : Nat} (h : nV vs P base w wr g cap j X) (hj : j < vs.length) (hP : P j = false) (hk : (dZ P j).length < j) :
  (∃ x, wr.cell? ⟨g, (dZ P j).length, none⟩ = some x) ∧ wr.frozen? ⟨g, (dZ P j).length, none⟩ = false ∧ (dZ P (j + 1)).length = (dZ P j).length + 1 ∧
   ∃ X', nV vs P base w (wr.setCell ⟨g, (dZ P j).length, none⟩ (nG vs j)) g cap (j + 1) X' := by
 obtain ⟨g2, cF, e1, _, _, hc, hf, hs⟩ := h.own.set (j := (dZ P j).length) (by rw [h.len]; omega)
 injection e1 with a1 a2 a3
 injection a1 with a1
 injection a1 with a1
 subst a1
 have hkk := sQ P j
 rw [if_neg (by rw [hP]; decide)] at hkk
 have hl : (dZ P (j + 1)).length = (dZ P j).length + 1 := by rw [hkk, List.length_append]; rfl
 refine ⟨⟨_, hc⟩, hf, hl, X.set (dZ P j).length (nG vs j), hs _, by rw [List.length_set]; exact h.len, ?_, fun q hq => ?_, gL h.up Eg⟩
 ·rw [hl, hkk, List.map_append, ← h.head]
  have hlt : (dZ P j).length < (X.set (dZ P j).length (nG vs j)).length := by rw [List.length_set, h.len]; omega
  rw [List.take_succ_eq_append_getElem hlt, List.take_set_of_le (Nat.le_refl _), List.getElem_set_self]; rfl
 ·rw [hl] at hq
  rw [List.getElem?_set_ne (by omega)]; exact h.rest q (by omega)
theorem nV.done {m : Nat} (h : nV vs P base w wr g cap vs.length X) (hm : (dZ P vs.length).length = m) (hlt : m < vs.length) :
  (∀ i, i < vs.length - m → (wr.cell? ⟨g, m + i, none⟩).isSome = true) ∧ (∀ i, i < vs.length - m → wr.frozen? ⟨g, m + i, none⟩ = false) ∧
   ay base 26 (wr.setCells g m (List.replicate (vs.length - m) (.slice none 0 0))) (.slice (some ⟨g, 0, none⟩) m cap) ((dZ P vs.length).map (nG vs)) ∧
   w.grownBy (wr.setCells g m (List.replicate (vs.length - m) (.slice none 0 0))) (some g) := by
 have hcell : ∀ i, i < vs.length - m → wr.cell? ⟨g, m + i, none⟩ = some (X.getD (m + i) undef) ∧ wr.frozen? ⟨g, m + i, none⟩ = false := fun i hi => by
  have hl : m + i < X.length := by rw [h.len]; omega
  exact nQ h.own (by rw [List.getD_eq_getElem?_getD, List.getElem?_eq_getElem hl]; rfl)
 refine ⟨fun i hi => by rw [(hcell i hi).1]; rfl, fun i hi => (hcell i hi).2, ?_, gL h.up (B3 _ _ _)⟩
 refine B4 _ _ _ (Nat.le_refl _) ?_
 have := Eh h.own (m := m) (by omega)
 rw [← hm, h.head] at this
 rw [← hm]; exact this
end
theorem Tryz.VU : ∀ w, (zeroValue 26).run Tryz.prog w = .ok (.slice none 0 0) w := fun w => by simp [Tryz.zeroValue26]
set_option maxHeartbeats 4000000 in
theorem MM {P : Nat → Bool} (g : Nat) (lb : Array Value) (eg : ∀ args w, (callFunc g args).run Tryz.prog w = .ok (.enter g args) w) {base : Nat} {w : World} {bk cap : Nat} {vs : List Value} (h : ay base 26 w (.slice (some ⟨bk, 0, none⟩) vs.length cap) vs) (hn : vs.length ≤ 1000000) (hP0 : P 0 = false)
  (jV : ∀ j, j < vs.length → ∃ q n c, nG vs j = .slice q n c)
  (hp : ∀ j, 0 < j → j < vs.length → ∀ W, w.grownBy W (some bk) → Calls Tryz.prog g (#[nG vs j, nG vs (j - 1)] ++ lb) W fun e W' => e = .returned (.bool (P j)) ∧ ∃ m, W' = W.drewN m) :
  Calls Tryz.prog 98 #[.slice (some ⟨bk, 0, none⟩) vs.length cap, .func (.func g) #[] lb] w fun e w' => ∃ m, e = .returned (.slice (some ⟨bk, 0, none⟩) m cap) ∧ ay base 26 w' (.slice (some ⟨bk, 0, none⟩) m cap) ((dZ P vs.length).map (nG vs)) ∧ w.grownBy w' (some bk) := by
 have HO := ag h
 have HP := ag hp
 have lH := ag jV
 have YI : Hid ((∀ i, i < vs.length → P i = false) → (dZ P vs.length).map (nG vs) = vs) := fun hno => by
  rw [KT hno]
  apply List.ext_getElem?
  intro i
  by_cases hi : i < vs.length
  ·rw [List.getElem?_map, List.getElem?_range hi, sR hi]; rfl
  ·rw [List.getElem?_eq_none (by simp; omega), List.getElem?_eq_none (by omega)]
 have hcap : vs.length ≤ cap := Sd h
 clear h hp jV
 by_cases h2 : vs.length < 2
 ·have h2i : (vs.length : Int) < 2 := by omega
  have HN : Hid (∀ i, i < vs.length → P i = false) := fun i hi => by rw [show i = 0 by omega]; exact hP0
  clear h2
  aq Tryz.func98, Tryz.ntmps98
  aa fail
  ax
  exact ⟨_, rfl, by rw [YI.out HN.out]; exact HO.out, rB _ _⟩
 have h2i : ¬ (vs.length : Int) < 2 := by omega
 have n6 : (vs.length : Int) ≤ 1000000 := by omega
 have HP0 := ag hP0
 aq Tryz.func98, Tryz.ntmps98
 aa fail
 aV [5, 6, 7] (fun x _ _ wr => ∃ k : Nat, 1 ≤ k ∧ k ≤ vs.length ∧ x = .int .i64 k ∧ Hid (∀ i, i < k → P i = false) ∧ Hid (∃ m, wr = w.drewN m)) (fun x _ _ _ => vs.length - (intOf x).toNat)
 case atStart => exact ⟨1, Nat.le_refl _, by omega, by aH, fun i hi => by rw [show i = 0 by omega]; exact HP0.out, 0, rfl⟩
 case round =>
  obtain ⟨k, iE, hk, rfl, hno, hm⟩ := bE
  obtain ⟨m1, UJ⟩ := hm.out
  obtain ⟨wo, rfl⟩ : ∃ wo : World, wo = wr := ⟨_, rfl⟩
  have YJ := ag UJ
  have bG : w.grownBy wo (some bk) := by rw [UJ]; exact lK (Up.drewN w m1) _
  have Fl : ay base 26 wo (.slice (some ⟨bk, 0, none⟩) vs.length cap) vs := by rw [UJ]; exact HO.out.ef fun _ _ => rfl
  clear hm UJ
  by_cases hlt : k < vs.length
  ·have c1 := (nQ Fl (sR hlt)).1
   have c2 := (nQ Fl (sR (show k - 1 < vs.length by omega))).1
   have i1 : (0 : Int) ≤ (k : Int) := by omega
   have i2 : (k : Int) < (vs.length : Int) := by omega
   have i3 : (k : Int) < 1000000 := by omega
   have j1 : (0 : Int) ≤ (k : Int) - 1 := by omega
   have j2 : (k : Int) - 1 < (vs.length : Int) := by omega
   have j3 : ((k : Int) - 1).toNat = k - 1 := by omega
   have j4 : wrap64 ((k : Int) - 1) = (k : Int) - 1 := by unfold wrap64; omega
   obtain ⟨q1, n1, d1, e1⟩ := lH.out k hlt
   obtain ⟨q2, n2, d2, e2⟩ := lH.out (k - 1) (by omega)
   have wK : Hid (∀ n, Calls Tryz.prog g (#[.slice q1 n1 d1, .slice q2 n2 d2] ++ lb) (wo.drewN n) fun e W' => e = .returned (.bool (P k)) ∧ ∃ q, W' = wo.drewN q) := fun n => by
    rw [← e1, ← e2]
    refine (HP.out k iE hlt (wo.drewN n) (gL bG (lK (Up.drewN wo n) _))).mono ?_
    rintro e W' ⟨rfl, q, rfl⟩
    exact ⟨rfl, n + q, by rw [World.drewN_drewN]⟩
   rw [e1] at c1
   rw [e2] at c2
   have Ck : Hid (∃ x, P k = x) := ⟨_, rfl⟩
   clear bG e1 e2
   cases KU : P k
   ·rw [KU] at wK
    have tC : Hid (∀ i, i < k + 1 → P i = false) := fun i hi => by
     by_cases e : i = k
     ·rw [e]; exact KU
     ·exact hno.out i (by omega)
    clear KU
    aa fail
    cn (first | ah exact wK.out _)
    aa fail
    clear j4
    aF
    case rel => exact ⟨k + 1, by omega, by omega, by aH, tC, m1 + nq, by rw [YJ.out, World.drewN_drewN]⟩
    case measure => simp [intOf]; omega
   ·rw [KU] at wK
    have cu : Hid (∀ m, nV vs P base w (w.drewN m) bk cap (k + 1) vs ∧ (dZ P (k + 1)).length = k) := fun m => nV.start HO.out hlt hno.out KU m
    clear KU
    aa fail
    cn (first | ah exact wK.out _)
    have wS := ag (cu.out (m1 + nq))
    rw [← World.drewN_drewN, ← YJ.out] at wS
    generalize wo.drewN nq = w1 at *
    clear j4 c1 c2 wK YJ Fl
    have n3 : (k : Int) ≤ (vs.length : Int) := by omega
    have n4 : (k : Int) ≤ (cap : Int) := by omega
    aa fail
    obtain ⟨M, hM⟩ : ∃ M, vs.length = k + M := ⟨vs.length - k, by omega⟩
    have HM := ag hM
    have hM2 : vs.length - k = M := by omega
    have M0 : 0 < M := by omega
    have M6 : (M : Int) ≤ 1000000 := by omega
    rw [hM2]
    clear hM hM2
    aV [5, 7] (fun x y wr => ∃ d : Nat, 1 ≤ d ∧ d ≤ M ∧ y = .int .i64 d ∧ x = .int .i64 ((dZ P (k + d)).length : Nat) ∧ Hid (∃ X, nV vs P base w wr bk cap (k + d) X) ∧ Hid ((dZ P (k + d)).length < k + d)) (fun _ y _ => M - (intOf y).toNat)
    case atStart => exact ⟨1, Nat.le_refl _, by omega, by aH, by rw [wS.out.2], ⟨_, wS.out.1⟩, by unfold Hid; rw [wS.out.2]; omega⟩
    case round =>
     obtain ⟨d, hd1, hd, rfl, rfl, hX, hK⟩ := bE
     obtain ⟨wz, rfl⟩ : ∃ wz : World, wz = wr := ⟨_, rfl⟩
     obtain ⟨X, hX⟩ := hX.out
     by_cases hdlt : d < M
     ·have hjl : k + d < vs.length := by have := HM.out; omega
      have c1 := hX.cells (q := k + d) (by have := hK.out; omega) hjl
      have c2 := hX.cells (q := k + (d - 1)) (by have := hK.out; omega) (by omega)
      obtain ⟨q3, YK, d3, e3⟩ := lH.out (k + d) hjl
      obtain ⟨q4, n4', d4, e4⟩ := lH.out (k + (d - 1)) (by omega)
      have tT : Hid (∀ n, Calls Tryz.prog g (#[.slice q3 YK d3, .slice q4 n4' d4] ++ lb) (wz.drewN n) fun e W' => e = .returned (.bool (P (k + d))) ∧ ∃ q, W' = wz.drewN q) := fun n => by
       rw [← e3, ← e4]
       have h := HP.out (k + d) (by omega) hjl (wz.drewN n) (gL hX.up (lK (Up.drewN wz n) _))
       rw [show k + d - 1 = k + (d - 1) by omega] at h
       refine h.mono ?_
       rintro e W' ⟨rfl, q, rfl⟩
       exact ⟨rfl, n + q, by rw [World.drewN_drewN]⟩
      have YL : Hid (∀ m, P (k + d) = false → (∃ x, (wz.drewN m).cell? ⟨bk, (dZ P (k + d)).length, none⟩ = some x) ∧ (wz.drewN m).frozen? ⟨bk, (dZ P (k + d)).length, none⟩ = false ∧ (dZ P (k + d + 1)).length = (dZ P (k + d)).length + 1 ∧
       ∃ X', nV vs P base w ((wz.drewN m).setCell ⟨bk, (dZ P (k + d)).length, none⟩ (.slice q3 YK d3)) bk cap (k + d + 1) X') := fun m hPf => by
       have h := (hX.drewn m).push hjl hPf hK.out
       rw [e3] at h; exact h
      have qN : Hid (∀ m, P (k + d) = true → nV vs P base w (wz.drewN m) bk cap (k + d + 1) X ∧ (dZ P (k + d + 1)).length = (dZ P (k + d)).length) := fun m hPt => ⟨hX.skip hPt m, by rw [sQ, if_pos hPt]⟩
      have eH : Hid (∀ m, (wz.drewN m).cell? ⟨bk, k + d, none⟩ = some (.slice q3 YK d3)) := fun m => by rw [← e3]; exact (Up.drewN wz m).cell c1
      rw [e3] at c1
      rw [e4] at c2
      have a1 : (0 : Int) ≤ (d : Int) := by omega
      have a2 : (d : Int) < (M : Int) := by omega
      have a3 : (d : Int) < 1000000 := by omega
      have b1 : (0 : Int) ≤ (d : Int) - 1 := by omega
      have b2 : (d : Int) - 1 < (M : Int) := by omega
      have b3 : ((d : Int) - 1).toNat = d - 1 := by omega
      have b4 : wrap64 ((d : Int) - 1) = (d : Int) - 1 := by unfold wrap64; omega
      have kZ := ag (VT P (k + d))
      have HJL := ag hjl
      have qu : Hid (vs.length ≤ 1000000) := hn
      clear e3 e4 hX hjl
      cases wX : P (k + d)
      ·rw [wX] at tT
       have YM : Hid (∀ m, _) := fun m => YL.out m wX
       clear wX YL qN
       have k0 : (0 : Int) ≤ ((dZ P (k + d)).length : Int) := by omega
       have k1' : ((dZ P (k + d)).length : Int) < (vs.length : Int) := by have := hK.out; have := HJL.out; omega
       have k2' : ((dZ P (k + d)).length : Int) < 1000000 := by have := qu.out; omega
       aa fail
       cn (first | ah exact tT.out _)
       obtain ⟨⟨cx, zw⟩, hff, hl, X', hX'⟩ := YM.out nq
       have c1 := eH.out nq
       have HX' := ag hX'
       have HL := ag hl
       clear hX' hl b4 c2 tT YM
       generalize wz.drewN nq = wy at *
       aa fail
       aF
       case rel => exact ⟨d + 1, by omega, by omega, by aH, by rw [show k + (d + 1) = k + d + 1 by omega, HL.out]; aH, ⟨X', HX'.out⟩, by unfold Hid; rw [show k + (d + 1) = k + d + 1 by omega, HL.out]; have := hK.out; omega⟩
       case measure => simp [intOf]; omega
      ·rw [wX] at tT
       have YN : Hid (∀ m, _) := fun m => qN.out m wX
       clear wX YL qN
       aa fail
       cn (first | ah exact tT.out _)
       obtain ⟨hx1, hl⟩ := YN.out nq
       have kF := ag hx1
       have HL := ag hl
       clear hx1 hl b4 c1 c2 tT YN
       aa fail
       aF
       case rel => exact ⟨d + 1, by omega, by omega, by aH, by rw [show k + (d + 1) = k + d + 1 by omega, HL.out], ⟨X, kF.out⟩, by unfold Hid; rw [show k + (d + 1) = k + d + 1 by omega, HL.out]; have := hK.out; omega⟩
       case measure => simp [intOf]; omega
     ·obtain rfl : d = M := by omega
      have hMl := HM.out
      rw [← hMl] at hX hK ⊢
      obtain ⟨mm, hmm⟩ : ∃ mm, (dZ P vs.length).length = mm := ⟨_, rfl⟩
      have hml : mm < vs.length := by rw [← hmm]; exact hK.out
      obtain ⟨hc, hf, ho, hg⟩ := hX.done hmm hml
      have HO2 := ag ho
      have wY := ag hg
      have vf := Lib.run_clear_slice (P := Tryz.prog) wz 23 26 0 (.slice none 0 0) Tryz.underlying23 Tryz.VU rfl rfl bk mm (vs.length - mm) (cap - mm) (by omega) hc hf
      rw [hmm]
      have e1 : (0 : Int) ≤ (mm : Int) := by omega
      have e2 : (mm : Int) ≤ (vs.length : Int) := by omega
      have e3 : (mm : Int) < (vs.length : Int) := by omega
      have e4 : mm ≤ cap := by omega
      have e5 : (mm : Int) ≤ (cap : Int) := by omega
      clear hc hf ho hg hX hK hmm hMl HM M0 M6 hd hd1 hdlt
      aa fail
      ax
      exact ⟨mm, rfl, HO2.out, wY.out⟩
  ·obtain rfl : k = vs.length := by omega
   aa fail
   ax
   exact ⟨_, rfl, by rw [YI.out hno.out]; exact Fl, bG⟩
end
end Go.Proofs.YtpnmblnahjjmhaaGreat
namespace Go.Proofs
open Go.Shelf
end Go.Proofs
