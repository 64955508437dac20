/- The contract of layer 32's reference's named. The reference's tree of splits, plain: the .. -/
import Derived.Test.YtpnmblnahjjmhaaGreatQ1
import Derived.Test.YtpnmblnahjjmhaaGreatQ16
import Derived.Test.YtpnmblnahjjmhaaGreatQ41
import Derived.Test.YtpnmblnahjjmhaaGreatQ39
import Derived.Test.YtpnmblnahjjmhaaGreatQ37
import Derived.Test.YtpnmblnahjjmhaaGreatQ42
import Derived.Test.YtpnmblnahjjmhaaGreatQ43
set_option maxRecDepth 100000
namespace Go.Proofs.YtpnmblnahjjmhaaGreat
section
open Go.RowKit Go.Deep
theorem E7 (s : ByteArray) (h : s.size - 1 < s.size) (BG : 16 < s.size) (wu : ((s[s.size - 1].toNat : Int) == 42) = true) : bq s.data.toList = false := by
 have hl := size_data s
 have h2 : s[s.size - 1] = 42 := by
  have h3 : (s[s.size - 1].toNat : Int) = 42 := by simpa using wu
  have h4 : s[s.size - 1].toNat = 42 := by omega
  exact UInt8.toNat_inj.1 h4
 unfold bq; rw [vk s h, h2, if_pos rfl, hl, decide_eq_false (by omega), Bool.and_false]
set_option maxHeartbeats 400000 in
theorem Qi (s : ByteArray) (hs : s.size ≤ 70000) (w : World) : Calls Tryz.prog 115 #[.string s] w fun e w' => e = .returned (.bool (bq s.data.toList)) ∧ Below w.heap.size w w' := by
 go_enter Tryz.func115, Tryz.ntmps115
 go_wp2_with fail
 ·have hf := aa (vo s (by omega) (by omega) ‹_›)
  refine (kH _ (by simp; omega) _).mono ?_
  rintro e w1 ⟨rfl, hb⟩
  rw [← hf.out]
  go_wp2_with fail
  go_ret
  exact ⟨rfl, hb⟩
 ·have hf := aa (E7 s (by omega) (by omega) ‹_›)
  go_ret
  exact ⟨aO (by rw [hf.out]), Below.refl _ _⟩
 ·have hf := aa (tL s (by omega) ‹_›)
  refine (kH _ hs _).mono ?_
  rintro e w1 ⟨rfl, hb⟩
  rw [← hf.out]
  go_wp2_with fail
  go_ret
  exact ⟨rfl, hb⟩
 ·have hf := aa (xM s (by omega))
  refine (kH _ hs _).mono ?_
  rintro e w1 ⟨rfl, hb⟩
  rw [← hf.out]
  go_wp2_with fail
  go_ret
  exact ⟨rfl, hb⟩
end
section
def pW (l : List (List Int)) (set : List Int) (i : Nat) : Bool :=
 !decide (gl l i = set) && (eA (gl l i) set && (List.range l.length).all fun k => !(!decide (gl l k = gl l i) && (!decide (gl l k = set) && (eA (gl l i) (gl l k) && eA (gl l k) set))) && !(decide (k < i) && decide (gl l k = gl l i)))
def grI (l : List (List Int)) (set : List Int) : Nat → List (List Int)
 | 0 => []
 | n + 1 => grI l set n ++ if pW l set n then [gl l n] else []
def M3 (a b : List Int) : List Int := a.filter fun x => !b.contains x
def eE (l : List (List Int)) (set : List Int) : Nat → List Int
 | 0 => set
 | n + 1 => if pW l set n then M3 (eE l set n) (gl l n) else eE l set n
def fR (names : List ByteArray) (x : Int) : RT := .node (gs names x.toNat) []
def grR (names : List ByteArray) (l : List (List Int)) : Nat → List Int → RT
 | 0, _ => .node ByteArray.empty []
 | d + 1, set => if set.length = 1 then fR names (gi set 0) else .node ByteArray.empty ((grI l set l.length).map (grR names l d) ++ (eE l set l.length).map (fR names))
theorem AA {a b : List Int} {x : Int} : x ∈ M3 a b ↔ x ∈ a ∧ x ∉ b := by
 unfold M3
 rw [List.mem_filter]
 constructor
 ·rintro ⟨h1, h2⟩
  exact ⟨h1, fun h => by rw [List.contains_iff_mem.2 h] at h2; cases h2⟩
 ·rintro ⟨h1, h2⟩
  refine ⟨h1, ?_⟩
  cases e : b.contains x with
  | false => rfl
  | true => exact absurd (List.contains_iff_mem.1 e) h2
theorem C9 {l : List (List Int)} {set s : List Int} : ∀ {n : Nat}, s ∈ grI l set n ↔ ∃ i, i < n ∧ pW l set i = true ∧ s = gl l i
 | 0 => ⟨fun h => (by cases h), fun ⟨i, h, _⟩ => by omega⟩
 | n + 1 => by
  rw [grI, List.mem_append, C9]
  constructor
  ·rintro (⟨i, h1, h2⟩ | h)
   ·exact ⟨i, by omega, h2⟩
   ·split at h
    ·rename_i hb; exact ⟨n, by omega, hb, List.mem_singleton.1 h⟩
    ·cases h
  ·rintro ⟨i, h1, h2, h3⟩
   by_cases e : i = n
   ·subst e; right; rw [if_pos h2, h3]; exact List.mem_singleton.2 rfl
   ·left; exact ⟨i, by omega, h2, h3⟩
theorem qP {l : List (List Int)} {set : List Int} {x : Int} : ∀ {n : Nat}, x ∈ eE l set n ↔ x ∈ set ∧ ∀ i, i < n → pW l set i = true → x ∉ gl l i
 | 0 => ⟨fun h => ⟨h, fun i hi => by omega⟩, fun h => h.1⟩
 | n + 1 => by
  rw [eE]
  split
  ·rename_i hb
   rw [AA, qP]
   constructor
   ·rintro ⟨⟨h1, h2⟩, h3⟩
    refine ⟨h1, fun i hi hg => ?_⟩
    by_cases e : i = n
    ·subst e; exact h3
    ·exact h2 i (by omega) hg
   ·rintro ⟨h1, h2⟩
    exact ⟨⟨h1, fun i hi => h2 i (by omega)⟩, h2 n (by omega) hb⟩
  ·rename_i hb
   rw [qP]
   constructor
   ·rintro ⟨h1, h2⟩
    refine ⟨h1, fun i hi hg => ?_⟩
    by_cases e : i = n
    ·subst e; exact absurd hg hb
    ·exact h2 i (by omega) hg
   ·rintro ⟨h1, h2⟩
    exact ⟨h1, fun i hi => h2 i (by omega)⟩
theorem uN {l : List (List Int)} {set : List Int} (h : set.Pairwise (· < ·)) : ∀ n : Nat, (eE l set n).Pairwise (· < ·)
 | 0 => h
 | n + 1 => by
  rw [eE]
  split
  ·exact (uN h n).filter _
  ·exact uN h n
theorem qQ {l : List (List Int)} {set : List Int} {i : Nat} : pW l set i = true ↔ gl l i ≠ set ∧ (∀ x ∈ gl l i, x ∈ set) ∧ ∀ k, k < l.length → (gl l k ≠ gl l i → gl l k ≠ set → (∀ x ∈ gl l i, x ∈ gl l k) → ¬ ∀ x ∈ gl l k, x ∈ set) ∧ (k < i → gl l k ≠ gl l i) := by
 unfold pW
 rw [Bool.and_eq_true, Bool.and_eq_true, List.all_eq_true, jI, Bool.not_eq_true', decide_eq_false_iff_not]
 refine and_congr Iff.rfl (and_congr Iff.rfl ⟨fun h k hk => ?_, fun h k hk => ?_⟩)
 ·have h1 := h k (List.mem_range.2 hk)
  rw [Bool.and_eq_true, Bool.not_eq_true', Bool.not_eq_true'] at h1
  refine ⟨fun a b c d => ?_, fun a b => ?_⟩
  ·have e := h1.1
   rw [decide_eq_false a, decide_eq_false b, jI.2 c, jI.2 d] at e
   cases e
  ·have e := h1.2
   rw [decide_eq_true a, decide_eq_true b] at e
   cases e
 ·obtain ⟨h1, h2⟩ := h k (List.mem_range.1 hk)
  rw [Bool.and_eq_true, Bool.not_eq_true', Bool.not_eq_true']
  constructor
  ·by_cases a : gl l k = gl l i
   ·rw [decide_eq_true a]; rfl
   by_cases b : gl l k = set
   ·rw [decide_eq_false a, decide_eq_true b]; rfl
   cases c : eA (gl l i) (gl l k) with
   | false => rw [decide_eq_false a, decide_eq_false b]; rfl
   | true =>
    cases d : eA (gl l k) set with
    | false => rw [decide_eq_false a, decide_eq_false b]; rfl
    | true => exact absurd (jI.1 d) (h1 a b (jI.1 c))
  ·by_cases a : k < i
   ·rw [decide_eq_true a, decide_eq_false (h2 a)]; rfl
   ·rw [decide_eq_false a]; rfl
structure vL (l : List (List Int)) : Prop where
 fF : ∀ s ∈ l, s.Pairwise (· < ·) ∧ 2 ≤ s.length
 cmp : ∀ a ∈ l, ∀ b ∈ l, (∀ x ∈ a, x ∉ b) ∨ (∀ x ∈ a, x ∈ b) ∨ ∀ x ∈ b, x ∈ a
theorem Iz (P : Nat → Prop) : ∀ n, (∃ i, i < n ∧ P i) → ∃ i, i < n ∧ P i ∧ ∀ k, k < i → ¬ P k
 | 0, ⟨i, h, _⟩ => by omega
 | n + 1, ⟨i, h, hp⟩ => by
  by_cases e : ∃ j, j < n ∧ P j
  ·obtain ⟨j, h1, h2⟩ := Iz P n e
   exact ⟨j, by omega, h2⟩
  ·refine ⟨i, h, hp, fun k hk hq => e ⟨k, by omega, hq⟩⟩
section
variable {l : List (List Int)} {set : List Int} {names : List ByteArray}
theorem Td (h : vL l) {i j : Nat} (hi : i < l.length) (hj : j < l.length) (h1 : pW l set i = true) (h2 : pW l set j = true) (hne : i ≠ j) : ∀ x ∈ gl l i, x ∉ gl l j := by
 obtain ⟨a1, a2, a3⟩ := qQ.1 h1
 obtain ⟨b1, b2, b3⟩ := qQ.1 h2
 have hd : gl l i ≠ gl l j := by
  rcases Nat.lt_or_gt_of_ne hne with c | c
  ·exact (b3 i hi).2 c
  ·exact fun e => (a3 j hj).2 c e.symm
 rcases h.cmp _ (iC hi) _ (iC hj) with c | c | c
 ·exact c
 ·exact absurd b2 ((a3 j hj).1 (fun e => hd e.symm) b1 c)
 ·exact absurd a2 ((b3 i hi).1 hd a1 c)
theorem IA (h : vL l) (hs : set.Pairwise (· < ·)) : ∀ (d : Nat) (s : List Int), set.length - s.length ≤ d → s ∈ l → s ≠ set → (∀ x ∈ s, x ∈ set) → ∃ i, i < l.length ∧ pW l set i = true ∧ ∀ x ∈ s, x ∈ gl l i
 | d, s, hd, hm, hne, hsub => by
  by_cases c : ∃ u ∈ l, u ≠ s ∧ u ≠ set ∧ (∀ x ∈ s, x ∈ u) ∧ ∀ x ∈ u, x ∈ set
  ·obtain ⟨u, u1, u2, u3, u4, u5⟩ := c
   have l1 := dH (h.fF s hm).1 (h.fF u u1).1 u4
   have l2 := dH (h.fF u u1).1 hs u5
   have l3 : s.length ≠ u.length := fun e => u2 (k7 (h.fF u u1).1 (h.fF s hm).1 fun x => ⟨jH (h.fF s hm).1 (h.fF u u1).1 u4 e x, u4 x⟩)
   cases d with
   | zero => omega
   | succ d =>
    obtain ⟨i, i1, i2, i3⟩ := IA h hs d u (by omega) u1 u3 u5
    exact ⟨i, i1, i2, fun x hx => i3 x (u4 x hx)⟩
  ·obtain ⟨k0, iI, e0⟩ := th hm
   obtain ⟨i, i1, i2, i3⟩ := Iz (fun i => gl l i = s) l.length ⟨k0, iI, e0⟩
   refine ⟨i, i1, qQ.2 ⟨by rw [i2]; exact hne, by rw [i2]; exact hsub, fun k hk => ⟨fun a b c1 d1 => ?_, fun a => by rw [i2]; exact i3 k a⟩⟩, by rw [i2]; exact fun x hx => hx⟩
   rw [i2] at a c1
   exact c ⟨gl l k, iC hk, a, b, c1, d1⟩
theorem Te {a b : List Int} (ha : a.Nodup) (hb : b.Nodup) (h : ∀ x ∈ b, x ∈ a) : (b ++ M3 a b).Perm a := by
 refine (List.perm_ext_iff_of_nodup ?_ ha).2 fun x => ?_
 ·rw [List.nodup_append]
  exact ⟨hb, ha.filter _, fun x hx y hy e => (AA.1 hy).2 (by rw [← e]; exact hx)⟩
 ·rw [List.mem_append, AA]
  constructor
  ·rintro (c | c)
   ·exact h x c
   ·exact c.1
  ·intro c
   by_cases d : x ∈ b
   ·exact .inl d
   ·exact .inr ⟨c, d⟩
theorem Da (h : vL l) (hs : set.Pairwise (· < ·)) : ∀ n, n ≤ l.length → ((grI l set n).flatMap id ++ eE l set n).Perm set
 | 0, _ => by rw [grI, eE]; exact List.Perm.refl _
 | n + 1, hn => by
  have ih := Da h hs n (by omega)
  rw [grI, eE]
  split
  ·rename_i hb
   rw [List.flatMap_append, List.append_assoc]
   show ((grI l set n).flatMap id ++ (List.flatMap id [gl l n] ++ _)).Perm _
   rw [List.flatMap_cons, List.flatMap_nil, List.append_nil]
   refine List.Perm.trans (List.Perm.append_left _ ?_) ih
   refine Te (xV (uN hs n)) (xV (h.fF _ (iC (show n < l.length by omega))).1) fun x hx => qP.2 ⟨(qQ.1 hb).2.1 x hx, fun i hi hg hm => ?_⟩
   exact Td h (by omega) (by omega) hg hb (by omega) x hm hx
  ·rw [List.append_nil]; exact ih
theorem vM {Y : List Int} (h0 : ∀ x ∈ Y, 0 ≤ x) {y : ByteArray} : y ∈ Y.map (fun x => gs names x.toNat) ↔ ∃ b : Nat, (b : Int) ∈ Y ∧ y = gs names b := by
 rw [List.mem_map]
 constructor
 ·rintro ⟨x, hx, rfl⟩
  obtain ⟨b, rfl⟩ := Int.eq_ofNat_of_zero_le (h0 x hx)
  exact ⟨b, hx, by rw [Int.toNat_natCast]⟩
 ·rintro ⟨b, hb, rfl⟩
  exact ⟨b, hb, by rw [Int.toNat_natCast]⟩
theorem kT {x : Int} (h : bq (gs names x.toNat).data.toList = true) : aZ (fR names x) = [gs names x.toNat] := iM (dS h)
theorem lg {x : Int} {s : RT} : s ∈ subR (fR names x) ↔ s = fR names x := by
 unfold fR
 rw [subR, subRs, List.mem_singleton]
theorem kU {nm : ByteArray} {ks : List RT} {s : RT} : s ∈ subR (.node nm ks) ↔ s = .node nm ks ∨ ∃ k ∈ ks, s ∈ subR k := by
 rw [subR, jF, List.mem_cons, List.mem_flatMap]
theorem AB {x : Int} (h : bq (gs names x.toNat).data.toList = true) : nN (fR names x) := ⟨fun e => absurd rfl e, fun _ => h, by simp [fR, RT.kids]⟩
theorem Qj (h : vL l) (hs : set.Pairwise (· < ·)) {d : Nat} (h1 : ∀ s ∈ grI l set l.length, (aZ (grR names l d s)).Perm (s.map fun x => gs names x.toNat)) (hnm : ∀ x ∈ set, bq (gs names x.toNat).data.toList = true) :
  (aZ (.node ByteArray.empty ((grI l set l.length).map (grR names l d) ++ (eE l set l.length).map (fR names)))).Perm (set.map fun x => gs names x.toNat) := by
 rw [fo rfl, List.flatMap_append, List.flatMap_map, List.flatMap_map]
 have e2 : (eE l set l.length).flatMap (fun a => aZ (fR names a)) = (eE l set l.length).map fun x => gs names x.toNat := by
  rw [← List.flatMap_singleton' ((eE l set l.length).map fun x => gs names x.toNat), List.flatMap_map]
  refine fL fun x hx => ?_
  exact kT (hnm x (qP.1 hx).1)
 have e3 : ((grI l set l.length).flatMap fun s => s.map fun x => gs names x.toNat) = ((grI l set l.length).flatMap id).map fun x => gs names x.toNat := by rw [List.map_flatMap]; rfl
 rw [e2]
 refine ((xN _ h1).append_right _).trans ?_
 rw [e3, ← List.map_append]
 exact (Da h hs _ (Nat.le_refl _)).map _
theorem Qk (h : vL l) (hnm : ∀ k, k < names.length → bq (gs names k).data.toList = true) : ∀ (d : Nat) (set : List Int), set.length ≤ d → set ≠ [] → set.Pairwise (· < ·) → (∀ x ∈ set, 0 ≤ x ∧ x < (names.length : Int)) →
  (aZ (grR names l d set)).Perm (set.map fun x => gs names x.toNat) ∧ (∀ s ∈ subR (grR names l d set), nN s) ∧
  ∀ X : ByteArray → Prop, Hf (grR names l d set) X ↔ ∃ Y : List Int, (Y = set ∨ (Y ∈ l ∧ ∀ x ∈ Y, x ∈ set) ∨ ∃ x ∈ set, Y = [x]) ∧ ∀ y, X y ↔ ∃ b : Nat, (b : Int) ∈ Y ∧ y = gs names b
 | 0, set, hd, hne, _, _ => absurd (List.eq_nil_of_length_eq_zero (by omega)) hne
 | d + 1, set, hd, hne, hs, hb => by
  have hnx : ∀ x ∈ set, bq (gs names x.toNat).data.toList = true := fun x hx => hnm _ (by have := hb x hx; omega)
  rw [grR]
  by_cases h1 : set.length = 1
  ·rw [if_pos h1]
   obtain ⟨x, rfl⟩ := List.length_eq_one_iff.1 h1
   show (aZ (fR names x)).Perm _ ∧ (∀ s ∈ subR (fR names x), nN s) ∧ _
   have hx := hnx x (by simp)
   refine ⟨by rw [kT hx]; exact List.Perm.refl _, fun s hs => by rw [lg.1 hs]; exact AB hx, fun X => ?_⟩
   have hL : ∀ y, y ∈ aZ (fR names x) ↔ ∃ b : Nat, (b : Int) ∈ [x] ∧ y = gs names b := fun y => by
    rw [kT hx, ← vM (fun z hz => (hb z hz).1)]; rfl
   constructor
   ·rintro ⟨s, hs, hX⟩
    rw [lg.1 hs] at hX
    exact ⟨[x], .inl rfl, fun y => (hX y).trans (hL y)⟩
   ·rintro ⟨Y, hY, hX⟩
    have hYx : Y = [x] := by
     rcases hY with hY | ⟨hY, hsub⟩ | ⟨z, hz, hY⟩
     ·exact hY
     ·have := dH (h.fF Y hY).1 hs hsub
      have := (h.fF Y hY).2
      simp at h1
      rw [List.length_singleton] at *
      omega
     ·rw [hY, List.mem_singleton.1 hz]
    subst hYx
    exact ⟨fR names x, lg.2 rfl, fun y => (hX y).trans (hL y).symm⟩
  ·rw [if_neg h1]
   have h2 : 2 ≤ set.length := by
    have := List.length_pos_iff.2 hne; omega
   have hgr : ∀ s ∈ grI l set l.length, s ∈ l ∧ s ≠ set ∧ (∀ x ∈ s, x ∈ set) ∧ s.length < set.length ∧ s ≠ [] := fun s hm => by
    obtain ⟨i, i1, i2, rfl⟩ := C9.1 hm
    obtain ⟨a1, a2, _⟩ := qQ.1 i2
    have hl := h.fF _ (iC i1)
    have l1 := dH hl.1 hs a2
    have l2 : (gl l i).length ≠ set.length := fun e => a1 (k7 hl.1 hs fun x => ⟨a2 x, jH hl.1 hs a2 e x⟩)
    exact ⟨iC i1, a1, a2, by omega, fun e => by rw [e] at hl; simp at hl⟩
   have ih : ∀ s ∈ grI l set l.length, _ := fun s hm => by
    obtain ⟨g1, g2, g3, g4, g5⟩ := hgr s hm
    exact Qk h hnm d s (by omega) g5 (h.fF s g1).1 (fun x hx => hb x (g3 x hx))
   have iB := Qj (names := names) h hs (d := d) (fun s hm => (ih s hm).1) hnx
   have AD := Da h hs l.length (Nat.le_refl _)
   have hlf : ∀ x ∈ eE l set l.length, x ∈ set := fun x hx => (qP.1 hx).1
   refine ⟨iB, fun s hm => ?_, fun X => ?_⟩
   ·rcases kU.1 hm with rfl | ⟨k, hk, hm⟩
    ·refine ⟨fun _ => rfl, fun e => ?_, fun e => ?_⟩
     ·have e : (grI l set l.length).map (grR names l d) ++ (eE l set l.length).map (fR names) = [] := e
      rw [e, fo rfl] at iB
      have := iB.length_eq
      simp at this; omega
     ·have e : ((grI l set l.length).map (grR names l d) ++ (eE l set l.length).map (fR names)).length = 1 := e
      rw [List.length_append, List.length_map, List.length_map] at e
      have hl := AD.length_eq
      rw [List.length_append] at hl
      cases hg : grI l set l.length with
      | nil => rw [hg] at e hl; simp at e hl; omega
      | cons g gs2 =>
       rw [hg] at e hl AD
       have hz : eE l set l.length = [] := List.eq_nil_of_length_eq_zero (by simp at e; omega)
       have hg2 : gs2 = [] := List.eq_nil_of_length_eq_zero (by simp at e; omega)
       rw [hz, hg2] at AD
       have AD : g.Perm set := by simpa using AD
       obtain ⟨g1, g2, g3, g4, g5⟩ := hgr g (by rw [hg]; simp)
       have := AD.length_eq
       omega
    ·rcases List.mem_append.1 hk with hk | hk
     ·obtain ⟨g, hg, rfl⟩ := List.mem_map.1 hk
      exact (ih g hg).2.1 s hm
     ·obtain ⟨x, hx, rfl⟩ := List.mem_map.1 hk
      rw [lg.1 hm]; exact AB (hnx x (hlf x hx))
   ·have hL : ∀ y, y ∈ aZ (.node ByteArray.empty ((grI l set l.length).map (grR names l d) ++ (eE l set l.length).map (fR names))) ↔ ∃ b : Nat, (b : Int) ∈ set ∧ y = gs names b := fun y => by
     rw [iB.mem_iff]; exact vM (fun x hx => (hb x hx).1)
    constructor
    ·rintro ⟨s, hm, hX⟩
     rcases kU.1 hm with rfl | ⟨k, hk, hm⟩
     ·exact ⟨set, .inl rfl, fun y => (hX y).trans (hL y)⟩
     ·rcases List.mem_append.1 hk with hk | hk
      ·obtain ⟨g, hg, rfl⟩ := List.mem_map.1 hk
       obtain ⟨g1, g2, g3, g4, g5⟩ := hgr g hg
       obtain ⟨Y, hY, Zv⟩ := ((ih g hg).2.2 X).1 ⟨s, hm, hX⟩
       refine ⟨Y, ?_, Zv⟩
       rcases hY with rfl | ⟨y1, y2⟩ | ⟨x, hx, rfl⟩
       ·exact .inr (.inl ⟨g1, g3⟩)
       ·exact .inr (.inl ⟨y1, fun x hx => g3 x (y2 x hx)⟩)
       ·exact .inr (.inr ⟨x, g3 x hx, rfl⟩)
      ·obtain ⟨x, hx, rfl⟩ := List.mem_map.1 hk
       rw [lg.1 hm] at hX
       refine ⟨[x], .inr (.inr ⟨x, hlf x hx, rfl⟩), fun y => (hX y).trans ?_⟩
       rw [kT (hnx x (hlf x hx)), ← vM (fun z hz => (by rw [List.mem_singleton.1 hz]; exact (hb x (hlf x hx)).1))]; rfl
    ·rintro ⟨Y, hY, hX⟩
     have up : ∀ {g : List Int} {s : RT}, g ∈ grI l set l.length → s ∈ subR (grR names l d g) → s ∈ subR (.node ByteArray.empty ((grI l set l.length).map (grR names l d) ++ (eE l set l.length).map (fR names))) := fun hg hs =>
      kU.2 (.inr ⟨_, List.mem_append_left _ (List.mem_map_of_mem hg), hs⟩)
     rcases hY with rfl | ⟨y1, y2⟩ | ⟨x, hx, rfl⟩
     ·exact ⟨_, bI _, fun y => (hX y).trans (hL y).symm⟩
     ·by_cases e : Y = set
      ·subst e
       exact ⟨_, bI _, fun y => (hX y).trans (hL y).symm⟩
      ·obtain ⟨i, i1, i2, i3⟩ := IA h hs _ Y (Nat.le_refl _) y1 e y2
       have hg : gl l i ∈ grI l set l.length := C9.2 ⟨i, i1, i2, rfl⟩
       obtain ⟨s, s1, s2⟩ := ((ih _ hg).2.2 X).2 ⟨Y, .inr (.inl ⟨y1, i3⟩), hX⟩
       exact ⟨s, up hg s1, s2⟩
     ·rcases List.mem_append.1 (AD.mem_iff.2 hx) with hm | hm
      ·obtain ⟨g, hg, hxg⟩ := List.mem_flatMap.1 hm
       obtain ⟨s, s1, s2⟩ := ((ih _ hg).2.2 X).2 ⟨[x], .inr (.inr ⟨x, hxg, rfl⟩), hX⟩
       exact ⟨s, up hg s1, s2⟩
      ·refine ⟨fR names x, kU.2 (.inr ⟨fR names x, List.mem_append_right _ (List.mem_map_of_mem hm), lg.2 rfl⟩), fun y => (hX y).trans ?_⟩
       rw [kT (hnx x hx), ← vM (fun z hz => (by rw [List.mem_singleton.1 hz]; exact (hb x hx).1))]; rfl
theorem eD.Zw (h : eD names l) : vL l := ⟨fun s hs => ⟨(h.td s hs).set.fF, (h.td s hs).len.1⟩, fun _ ha _ hb => h.lam ha hb⟩
def jt (names : List ByteArray) (l : List (List Int)) : RT := .node ByteArray.empty [fR names 0, grR names l names.length (aS names.length [0])]
theorem EH (h : eD names l) (h2 : 2 ≤ names.length) : jf (jt names l) ∧ aK (jt names l) ≤ 64 ∧ ∀ X : ByteArray → Prop, Hf (jt names l) X ↔ ∃ Y, K6 names.length l Y ∧ ∀ x, X x ↔ ∃ b : Nat, (b : Int) ∈ Y ∧ x = gs names b := by
 have hrl := kP (n := names.length) (by omega)
 have hrs : (aS names.length [0]).Pairwise (· < ·) := jb _ _
 have hrb : ∀ x ∈ aS names.length [0], 0 ≤ x ∧ x < (names.length : Int) := fun x hx => by have := fq.1 hx; omega
 obtain ⟨p1, p2, p3⟩ := Qk h.Zw h.nm names.length (aS names.length [0]) (by omega) (fun e => by rw [e] at hrl; simp at hrl; omega) hrs hrb
 have hn0 := h.nm 0 (by omega)
 have hlf : aZ (jt names l) = gs names 0 :: aZ (grR names l names.length (aS names.length [0])) := by
  unfold jt
  rw [fo rfl, List.flatMap_cons, List.flatMap_cons, List.flatMap_nil, List.append_nil, kT hn0]; rfl
 have Hv : (aZ (jt names l)).Perm ((allI names.length).map fun x => gs names x.toNat) := by
  rw [hlf, ← Ey (n := names.length) (by omega)]
  exact p1.cons _
 have dZ : (aZ (jt names l)).Nodup := by
  refine Hv.symm.nodup ?_
  rw [List.nodup_iff_pairwise_ne, List.pairwise_map]
  refine ((vF names.length).imp_of_mem fun ha hb hab e => ?_)
  have ha := iw.1 ha
  have hb := iw.1 hb
  have := B5 h.nd (by omega) (by omega) e
  omega
 have hpt : ∀ s ∈ subR (jt names l), nN s := fun s hs => by
  rcases kU.1 hs with rfl | ⟨k, hk, hs⟩
  ·exact ⟨fun _ => rfl, (fun e => by cases e), (fun e => by cases e)⟩
  ·rcases List.mem_cons.1 hk with rfl | hk
   ·rw [lg.1 hs]; exact AB hn0
   ·rw [List.mem_singleton.1 hk] at hs; exact p2 s hs
 refine ⟨⟨dZ, hpt⟩, ?_, fun X => ?_⟩
 ·have h3 := size_le _ hpt
  have h4 := Hv.length_eq
  rw [List.length_map, rQ] at h4
  have := h.le
  omega
 ·have hall : ∀ y, y ∈ aZ (jt names l) ↔ ∃ b : Nat, (b : Int) ∈ allI names.length ∧ y = gs names b := fun y => by
   rw [Hv.mem_iff]; exact vM (fun x hx => (iw.1 hx).1)
  constructor
  ·rintro ⟨s, hs, hX⟩
   rcases kU.1 hs with rfl | ⟨k, hk, hs⟩
   ·exact ⟨_, .inl rfl, fun y => (hX y).trans (hall y)⟩
   ·rcases List.mem_cons.1 hk with rfl | hk
    ·rw [lg.1 hs] at hX
     refine ⟨[0], .inr (.inl rfl), fun y => (hX y).trans ?_⟩
     rw [kT hn0, ← vM (fun z hz => (by rw [List.mem_singleton.1 hz]; exact Int.le_refl 0))]; rfl
    ·rw [List.mem_singleton.1 hk] at hs
     obtain ⟨Y, hY, Zv⟩ := (p3 X).1 ⟨s, hs, hX⟩
     refine ⟨Y, .inr (.inr ?_), Zv⟩
     rcases hY with rfl | ⟨y1, y2⟩ | ⟨x, hx, rfl⟩
     ·exact ⟨fun e => by have := fq.1 e; omega, fun e => by rw [e] at hrl; simp at hrl; omega, hrb, hrs, .inr (.inl hrl)⟩
     ·have ho := h.td Y y1
      exact ⟨fun e => by have := ho.bd _ e; omega, fun e => by have := ho.len.1; rw [e] at this; simp at this, fun x hx => by have := ho.bd x hx; omega, ho.set.fF, .inr (.inr y1)⟩
     ·have := fq.1 hx
      exact ⟨fun e => by have := List.mem_singleton.1 e; omega, by simp, fun z hz => by rw [List.mem_singleton.1 hz]; omega, List.pairwise_singleton _ _, .inl rfl⟩
  ·rintro ⟨Y, hY, hX⟩
   have up : ∀ {s : RT}, s ∈ subR (grR names l names.length (aS names.length [0])) → s ∈ subR (jt names l) := fun hs => kU.2 (.inr ⟨_, by simp, hs⟩)
   rcases hY with rfl | rfl | ⟨y0, yn, yb, ya, hY⟩
   ·exact ⟨_, bI _, fun y => (hX y).trans (hall y).symm⟩
   ·refine ⟨fR names 0, kU.2 (.inr ⟨fR names 0, by simp, lg.2 rfl⟩), fun y => (hX y).trans ?_⟩
    rw [kT hn0, ← vM (fun z hz => (by rw [List.mem_singleton.1 hz]; exact Int.le_refl 0))]; rfl
   ·have hsub : ∀ x ∈ Y, x ∈ aS names.length [0] := fun x hx => fq.2 (by
     have := yb x hx
     have : x ≠ 0 := fun e => y0 (by rw [← e]; exact hx)
     omega)
    have h4 : Y = aS names.length [0] ∨ (Y ∈ l ∧ ∀ x ∈ Y, x ∈ aS names.length [0]) ∨ ∃ x ∈ aS names.length [0], Y = [x] := by
     rcases hY with hY | hY | hY
     ·obtain ⟨x, rfl⟩ := List.length_eq_one_iff.1 hY
      exact .inr (.inr ⟨x, hsub x (by simp), rfl⟩)
     ·exact .inl (C3 (by omega) y0 yb ya hY)
     ·exact .inr (.inl ⟨hY, hsub⟩)
    obtain ⟨s, s1, s2⟩ := (p3 X).2 ⟨Y, h4, hX⟩
    exact ⟨s, up s1, s2⟩
theorem V8 (h : eD names l) (h2 : 2 ≤ names.length) : aB (flat (jt names l)) = 0 ∧ gM (flat (jt names l)) = qa names l := by
 obtain ⟨h3, h4, h5⟩ := EH h h2
 have ht := xD h3.good h4
 have key : ∀ {T : aA} {S : Nat → List Int}, aQ names T S → (∀ Y, (∃ i, i < T.ps.length ∧ Y = S i) ↔ K6 names.length l Y) → gM (flat (jt names l)) = gM T := fun {T S} hN hS => by
  have e2 : sortR (jt names l) = sortR (fC T) := YD h3 hN.oku fun X => by rw [h5 X, hN.famY hS X]
  rw [mR hN.tree, mR ht, F0, e2]
 refine ⟨ht, ?_⟩
 unfold qa
 rw [if_neg (by omega)]
 by_cases c : names.length = 2
 ·rw [if_pos c]
  exact key (Au h c) (VY c (h.few (by omega)))
 ·rw [if_neg c]
  exact key (vG h (by omega) (yl h (by omega))) (VZ h (by omega))
end
end
section
open Go.RowKit Go.Deep
section
variable {P : Program} {ops : Array Oper} {rest : List Oper} {o : Oper} {a : Act} {Q : Exit → Act → World → Prop}
theorem gV (W : World) (hgd : o.guard = none) (s x : Operand) (t : TypeId) (ho : o.op = .call { callee := .builtin .append, args := #[s, x], argTypes := #[t, t] })
  (base : Nat) (e : TypeId) (z : Value) (bytes : Nat) (ht : P.underlying t = some (.slice e)) (hinfo : (P.info? e).map (fun i => (i.zero, i.size, i.bytes)) = some (some z, 1, bytes))
  (hz1 : z.cells.size = 1) (jJ : bytes ≤ 64) {v : Value} {vs : List Value} (hown : ah base e W v vs) (hs : a.eval s = v) (hv : v ≠ .slice none 0 0) (b off m c : Nat) (hx : a.eval x = .slice (some ⟨b, off, none⟩) m c)
  (f : Nat → Value) (hf : ∀ j, j < m → W.cell? ⟨b, off + j, none⟩ = some (f j)) (h1 : ∀ j, j < m → (f j).oneCell' = true) (n n' : Nat) (uD : vs.length = n) (hn' : n + m = n') (hn : n' ≤ 1000000) (hbase : base ≤ W.heap.size)
  (h : ∀ g cap w', ah base e w' (.slice (some ⟨g, 0, none⟩) n' cap) (vs ++ (List.range m).map f) → Below base W w' → wpList P ops Q rest (a.put o.dst (.slice (some ⟨g, 0, none⟩) n' cap)) w') :
  wpList P ops Q (o :: rest) a W := by
 subst uD
 subst hn'
 obtain ⟨i, hi, hzz⟩ := Option.map_eq_some_iff.1 hinfo
 simp only [Prod.mk.injEq] at hzz
 obtain ⟨hz, hs1, hb⟩ := hzz
 refine wpList_append_own_at W hgd s x t ho base e i z 1 bytes ht hi hz hs1 hb hz1 (by omega) v vs.length vs hs hown ⟨b, off, none⟩ m c ((List.range m).map f) hx (by simp) ?_ ?_ (by unfold maxLen; omega) ?_ hbase ?_
 ·intro j u hj
  rw [List.getElem?_map] at hj
  obtain ⟨k, hk, rfl⟩ := Option.map_eq_some_iff.1 hj
  obtain ⟨hlt, hk⟩ := List.getElem?_eq_some_iff.1 hk
  rw [List.length_range] at hlt
  rw [List.getElem_range] at hk
  subst hk
  have e : (⟨b, off, none⟩ : Addr).add j = ⟨b, off + j, none⟩ := by cases j <;> simp [Addr.add]
  rw [e]
  exact hf j hlt
 ·intro u hu
  obtain ⟨j, hj, rfl⟩ := List.mem_map.1 hu
  exact h1 j (List.mem_range.1 hj)
 ·have : (vs.length + m) * bytes ≤ (vs.length + m) * 64 := Nat.mul_le_mul_left _ jJ
  omega
 ·intro v' w' h2 h3 h4 _
  have h5 := h2
  obtain ⟨hl, ⟨e1, _⟩ | ⟨g, cap, cur, rfl, _⟩⟩ := h5
  ·exact absurd (h4.1 e1).1 hv
  ·refine h g cap w' ?_ (hown.eW h3 hbase)
   unfold ah
   rw [List.length_append, List.length_map, List.length_range]
   exact h2
end
def OI (W : World) (o : Value) (rows : List (List Int)) : Prop :=
 ∃ (g cap : Nat) (f : Nat → Value), o = .slice (some ⟨g, 0, none⟩) rows.length cap ∧ rows.length ≤ cap ∧ (∀ k, k < rows.length → W.cell? ⟨g, 0 + k, none⟩ = some (f k)) ∧ ∀ k, k < rows.length → af Any W (f k) (gl rows k)
theorem OI.up {W W' : World} {o : Value} {rows : List (List Int)} (h : OI W o rows) (hu : Up W W') : OI W' o rows := by
 obtain ⟨g, cap, f, e, hc, h1, h2⟩ := h
 exact ⟨g, cap, f, e, hc, fun k hk => hu.cell (h1 k hk), fun k hk => af.keep (h2 k hk) (hu.kept _)⟩
theorem OI.rows {W : World} {o : Value} {rows : List (List Int)} (h : OI W o rows) : aJ Any W o rows := by
 obtain ⟨g, cap, f, e, hc, h1, h2⟩ := h
 exact ⟨f, ⟨_, _, e, hc, .inr ⟨g, 0, rfl, trivial, h1⟩⟩, h2⟩
theorem OI.one {W : World} {v : Value} {l : List Int} (h : af Any W v l) : v.oneCell' = true := by
 obtain ⟨p, cap, rfl, _⟩ := h
 rfl
theorem OI.ins {W : World} {rows : List (List Int)} {s : List Int} {u : Value} {f : Nat → Value} {iA g cap base : Nat} (hat : iA ≤ rows.length)
  (ho : ah base 26 W (.slice (some ⟨g, 0, none⟩) (rows.length + 1) cap) (((List.range iA).map f ++ [u]) ++ (List.range (rows.length - iA)).map fun j => f (iA + j)))
  (hf : ∀ k, k < rows.length → af Any W (f k) (gl rows k)) (hu : af Any W u s) : OI W (.slice (some ⟨g, 0, none⟩) (rows.length + 1) cap) (rows.take iA ++ s :: rows.drop iA) := by
 have jv := ho.qZ
 have hlen : (rows.take iA ++ s :: rows.drop iA).length = rows.length + 1 := by
  rw [List.length_append, List.length_cons, List.length_take, List.length_drop]; omega
 have hvl : ((((List.range iA).map f ++ [u]) ++ (List.range (rows.length - iA)).map fun j => f (iA + j)) : List Value).length = rows.length + 1 := by
  simp; omega
 rw [hvl] at jv
 obtain ⟨p, c, e, hcap, H⟩ := av.open jv
 injection e with e1 e2 e3
 refine ⟨g, cap, fun k => if k < iA then f k else if k = iA then u else f (k - 1), by rw [hlen], by rw [hlen, e3]; exact hcap, fun k hk => ?_, fun k hk => ?_⟩
 ·rw [hlen] at hk
  obtain ⟨b, off, e4, hc⟩ := H k hk
  rw [← e1] at e4
  injection e4 with e4
  injection e4 with e5 e6
  subst e5; subst e6
  rw [hc]
  congr 1
  dsimp only
  rw [List.getD_eq_getElem?_getD]
  have pE : ((List.range iA).map f).length = iA := by simp
  by_cases h1 : k < iA
  ·rw [if_pos h1, List.getElem?_append_left (by rw [List.length_append, pE]; simp; omega), List.getElem?_append_left (by omega)]
   simp [h1]
  ·rw [if_neg h1]
   by_cases h2 : k = iA
   ·rw [if_pos h2, List.getElem?_append_left (by rw [List.length_append, pE]; simp; omega), List.getElem?_append_right (by omega), pE, h2, Nat.sub_self]
    rfl
   ·rw [if_neg h2, List.getElem?_append_right (by rw [List.length_append, pE]; simp; omega), List.length_append, pE, List.length_singleton, List.getElem?_map, List.getElem?_range (by omega)]
    show f (iA + (k - (iA + 1))) = f (k - 1)
    congr 1
    omega
 ·rw [hlen] at hk
  have hg : gl (rows.take iA ++ s :: rows.drop iA) k = if k < iA then gl rows k else if k = iA then s else gl rows (k - 1) := by
   have hX : ∀ (l : List (List Int)) (j : Nat), gl l j = l[j]?.getD [] := fun l j => by simp [gl, List.getD_eq_getElem?_getD]
   rw [hX, hX, hX]
   have hl' : (rows.take iA).length = iA := by rw [List.length_take]; omega
   by_cases h1 : k < iA
   ·rw [if_pos h1, List.getElem?_append_left (by omega), List.getElem?_take_of_lt h1]
   ·rw [if_neg h1, List.getElem?_append_right (by omega), hl']
    by_cases h2 : k = iA
    ·subst h2; rw [if_pos rfl, Nat.sub_self]; rfl
    ·rw [if_neg h2]
     obtain ⟨d, hd⟩ : ∃ d, k - iA = d + 1 := ⟨k - iA - 1, by omega⟩
     rw [hd, List.getElem?_cons_succ, List.getElem?_drop]
     congr 2
     omega
  rw [hg]
  by_cases h1 : k < iA
  ·simp only [if_pos h1]; exact hf k (by omega)
  ·simp only [if_neg h1]
   by_cases h2 : k = iA
   ·simp only [if_pos h2]; exact hu
   ·simp only [if_neg h2]; exact hf (k - 1) (by omega)
end
end Go.Proofs.YtpnmblnahjjmhaaGreat
