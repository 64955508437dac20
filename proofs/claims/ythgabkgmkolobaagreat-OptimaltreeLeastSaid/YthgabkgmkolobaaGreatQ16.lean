/- Rose trees: all parts of one; when its numbering is a valid tree. Sorting rose trees .. -/
import Derived.Test.YthgabkgmkolobaaGreatQ1
import Derived.Test.YthgabkgmkolobaaGreatQ15
import Derived.Test.YthgabkgmkolobaaGreatQ9
set_option maxRecDepth 100000
namespace Go.Proofs.YthgabkgmkolobaaGreat
section
mutual
def subR : RT → List RT
 | .node nm ks => .node nm ks :: subRs ks
def subRs : List RT → List RT
 | [] => []
 | r :: rs => subR r ++ subRs rs
end
mutual
theorem jD : ∀ r : RT, (subR r).length = aH r
 | .node _ ks => by rw [subR, aH, List.length_cons, Ej ks]; omega
theorem Ej : ∀ rs : List RT, (subRs rs).length = sizeRs rs
 | [] => rfl
 | r :: rs => by rw [subRs, sizeRs, List.length_append, jD r, Ej rs]
end
mutual
theorem mU : ∀ r : RT, cM r = (subR r).map RT.nm
 | .node nm ks => by rw [subR, cM, List.map_cons, GR ks]; rfl
theorem GR : ∀ rs : List RT, dg rs = (subRs rs).map RT.nm
 | [] => rfl
 | r :: rs => by rw [subRs, dg, List.map_append, mU r, GR rs]
end
theorem lI (rs : List RT) : subRs rs = rs.flatMap subR := by
 induction rs with
 | nil => rfl
 | cons r rs ih => rw [subRs, List.flatMap_cons, ih]
def AtR (t : ay) (r : RT) (n : Nat) (p : Int) : Prop := ∃ pre post, t.ps = pre ++ (psR r n p ++ post) ∧ pre.length = n ∧ p < n ∧ (∀ x ∈ pre, x < (n : Int)) ∧ (∀ x ∈ post, x < (n : Int) ∨ ((n + aH r : Nat) : Int) ≤ x)
def GS (t : ay) (rs : List RT) (own m : Nat) : Prop := ∃ pre post, t.ps = pre ++ (psRs rs own m ++ post) ∧ pre.length = m ∧ own < m ∧ (∀ x ∈ pre, x < (m : Int)) ∧ (∀ x ∈ post, x < (own : Int) ∨ ((m + sizeRs rs : Nat) : Int) ≤ x)
theorem AtR.kids {t : ay} {nm : ByteArray} {ks : List RT} {n : Nat} {p : Int} (h : AtR t (.node nm ks) n p) : aS t.ps n = hdR ks (n + 1) ∧ GS t ks n (n + 1) := by
 obtain ⟨pre, post, hps, hpl, hp, hpre, hpost⟩ := h
 rw [aH] at hpost
 rw [psR, List.cons_append] at hps
 constructor
 ·rw [GP]
  ·rw [hps, rW, q9 n pre 0 (fun x hx e => by have := hpre x hx; omega), List.nil_append, kf, if_neg (by omega), rW, hpl, Nat.zero_add, CY n ks (n + 1) (by omega), oJ]
   rw [q9 n post _ (fun x hx e => by rcases hpost x hx with h1 | h1 <;> omega), List.append_nil]
  ·intro i hi e
   rw [hps] at e
   rcases Nat.lt_trichotomy i n with h1 | h1 | h1
   ·rw [AQ _ (by omega)] at e
    have := hpre _ (uh (l := pre) (k := i) (by omega)); omega
   ·subst h1
    have h2 := AP pre (p :: (psRs ks i (i + 1) ++ post)) 0
    rw [hpl] at h2
    have h2 : gi (pre ++ p :: (psRs ks i (i + 1) ++ post)) i = p := h2
    rw [h2] at e
    omega
   ·exact h1
 ·refine ⟨pre ++ [p], post, by rw [hps, List.append_assoc]; rfl, by simp [hpl], by omega, fun x hx => ?_, fun x hx => ?_⟩
  ·rcases List.mem_append.1 hx with hx | hx
   ·have := hpre x hx; omega
   ·have : x = p := by simpa using hx
    omega
  ·rcases hpost x hx with h3 | h3
   ·exact .inl h3
   ·exact .inr (by omega)
theorem GS.cons {t : ay} {r : RT} {rs : List RT} {own m : Nat} (h : GS t (r :: rs) own m) : AtR t r m own ∧ GS t rs own (m + aH r) := by
 obtain ⟨pre, post, hps, hpl, hm, hpre, hpost⟩ := h
 rw [sizeRs] at hpost
 rw [psRs, List.append_assoc] at hps
 constructor
 ·refine ⟨pre, _, hps, hpl, by omega, hpre, fun x hx => ?_⟩
  rcases List.mem_append.1 hx with hx | hx
  ·rcases uE rs own (m + aH r) x hx with h2 | ⟨h2, _⟩
   ·exact .inl (by omega)
   ·exact .inr h2
  ·rcases hpost x hx with h2 | h2
   ·exact .inl (by omega)
   ·exact .inr (by omega)
 ·refine ⟨pre ++ psR r m own, post, by rw [hps, List.append_assoc], by rw [List.length_append, lG, hpl], by omega, fun x hx => ?_, fun x hx => ?_⟩
  ·rcases List.mem_append.1 hx with hx | hx
   ·have := hpre x hx; omega
   ·rcases GQ r m own x hx with h3 | ⟨_, h3⟩ <;> omega
  ·rcases hpost x hx with h3 | h3
   ·exact .inl h3
   ·exact .inr (by omega)
mutual
theorem K4 {t : ay} : ∀ (r : RT) (n : Nat) (p : Int), AtR t r n p → ∀ (i : Nat) (s : RT), (subR r)[i]? = some s → aS t.ps (n + i) = hdR s.kids (n + i + 1)
 | .node nm ks, n, p, h, i, s, hs => by
  rw [subR] at hs
  cases i with
  | zero =>
   have e : RT.node nm ks = s := by simpa using hs
   subst e
   exact h.kids.1
  | succ i =>
   rw [List.getElem?_cons_succ] at hs
   have := GU ks n (n + 1) h.kids.2 i s hs
   rw [show n + (i + 1) = n + 1 + i by omega]; exact this
theorem GU {t : ay} : ∀ (rs : List RT) (own m : Nat), GS t rs own m → ∀ (i : Nat) (s : RT), (subRs rs)[i]? = some s → aS t.ps (m + i) = hdR s.kids (m + i + 1)
 | [], _, _, _, i, s, hs => by simp [subRs] at hs
 | r :: rs, own, m, h, i, s, hs => by
  rw [subRs] at hs
  by_cases hi : i < aH r
  ·rw [List.getElem?_append_left (by rw [jD]; exact hi)] at hs
   exact K4 r m own h.cons.1 i s hs
  ·rw [List.getElem?_append_right (by rw [jD]; omega), jD] at hs
   have := GU rs own (m + aH r) h.cons.2 (i - aH r) s hs
   rw [show m + aH r + (i - aH r) = m + i by omega] at this; exact this
end
theorem AtR.flat (r : RT) : AtR (flat r) r 0 (-1) := ⟨[], [], by simp [YthgabkgmkolobaaGreat.flat], rfl, by omega, fun x hx => by simp at hx, fun x hx => by simp at hx⟩
theorem OZ {r : RT} {i : Nat} {s : RT} (h : (subR r)[i]? = some s) : aS (flat r).ps i = hdR s.kids (i + 1) := by
 have := K4 r 0 (-1) (AtR.flat r) i s h
 simpa using this
mutual
theorem O0 : ∀ (r : RT) (n : Nat) (p : Int) (j : Nat), 0 < j → j < aH r → (n : Int) ≤ gi (psR r n p) j ∧ gi (psR r n p) j < ((n + j : Nat) : Int)
 | .node nm ks, n, p, j, h0, hj => by
  rw [aH] at hj
  obtain ⟨k, rfl⟩ : ∃ k, j = k + 1 := ⟨j - 1, by omega⟩
  have h := K5 ks n (n + 1) k (by omega) (by omega)
  have e : gi (psR (.node nm ks) n p) (k + 1) = gi (psRs ks n (n + 1)) k := by rw [psR]; simp [gi]
  rw [e]
  exact ⟨h.1, by have := h.2; omega⟩
theorem K5 : ∀ (rs : List RT) (own n j : Nat), own < n → j < sizeRs rs → (own : Int) ≤ gi (psRs rs own n) j ∧ gi (psRs rs own n) j < ((n + j : Nat) : Int)
 | [], _, _, _, _, h => by simp [sizeRs] at h
 | r :: rs, own, n, j, ho, hj => by
  rw [sizeRs] at hj
  rw [psRs]
  by_cases hr : j < aH r
  ·rw [AQ _ (by rw [lG]; exact hr)]
   by_cases h0 : j = 0
   ·subst h0
    obtain ⟨nm, ks⟩ := r
    have e : gi (psR (.node nm ks) n own) 0 = own := by rw [psR]; simp [gi]
    rw [e]; exact ⟨by omega, by omega⟩
   ·have h := O0 r n own j (by omega) hr
    exact ⟨by omega, h.2⟩
  ·have h := K5 rs own (n + aH r) (j - aH r) (by omega) (by omega)
   have e := AP (psR r n own) (psRs rs own (n + aH r)) (j - aH r)
   rw [lG, show aH r + (j - aH r) = j by omega] at e
   rw [e]
   exact ⟨h.1, by have := h.2; omega⟩
end
theorem GV (r : RT) : fZ (flat r).ps = true := by
 refine Aq fun j hj => ?_
 rw [lH] at hj
 show jb j (gi (psR r 0 (-1)) j) = true
 unfold jb
 by_cases h0 : j = 0
 ·subst h0
  obtain ⟨nm, ks⟩ := r
  rw [if_pos rfl, psR]; rfl
 ·rw [if_neg h0]
  have h := O0 r 0 (-1) j (by omega) hj
  have h1 : 0 ≤ gi (psR r 0 (-1)) j := by have := h.1; omega
  have h2 : gi (psR r 0 (-1)) j < (j : Int) := by have := h.2; omega
  simp [h1, h2]
def cg (r : RT) : List ByteArray := (cM r).filter fun s => decide (s.size ≠ 0)
structure fK (r : RT) : Prop where
 wY : ∀ s ∈ subR r, s.kids ≠ [] → s.nm.size = 0
 lf : ∀ s ∈ subR r, s.kids = [] → aY s.nm.data.toList = true
 nd : (cg r).Nodup
theorem fL {s : ByteArray} (h : aY s.data.toList = true) : s.size ≠ 0 := by
 intro e
 have : s.data.toList = [] := by
  apply List.eq_nil_of_length_eq_zero
  simpa using e
 rw [this] at h
 revert h; decide
theorem x9 {r : RT} (h : fK r) (hs : aH r ≤ 64) : az (flat r) = 0 := by
 unfold az
 rw [lH, ri, if_neg (by have := gD r; omega), if_neg (by omega), if_neg (by simp), if_pos (GV r)]
 refine dJ fun i hi => ?_
 have hi2 : i < (subR r).length := by rw [jD]; exact hi
 obtain ⟨s, hsi⟩ : ∃ s, (subR r)[i]? = some s := ⟨_, List.getElem?_eq_getElem hi2⟩
 have hmem : s ∈ subR r := List.mem_of_getElem? hsi
 have hk := OZ hsi
 have hnm : gs (flat r).ns i = s.nm := by
  show gs (cM r) i = _
  rw [mU]; simp [gs, hsi]
 have hin := kK (GV r) i
 unfold iu
 rw [hnm]
 by_cases hks : s.kids = []
 ·have h1 : isIn (flat r).ps i = false := by
   cases hb : isIn (flat r).ps i with
   | false => rfl
   | true => exact absurd (by rw [hk, hks]; rfl) (hin.2 hb)
  rw [h1, if_neg (by simp), if_pos (h.lf s hmem hks)]
  have h2 : dm (flat r).ns i = false := by
   rw [Bool.eq_false_iff]; intro e
   obtain ⟨j, hj, e⟩ := List.any_eq_true.1 e
   have hj : j < i := List.mem_range.1 hj
   have e : gs (cM r) j = gs (cM r) i := of_decide_eq_true e
   have hpw := List.pairwise_filter.1 h.nd
   have gO := zh r
   have h3 := List.pairwise_iff_getElem.1 hpw j i (by omega) (by omega) hj
   have hgj : gs (cM r) j = (cM r)[j]'(by omega) := by simp [gs, show j < (cM r).length by omega]
   have hgi : gs (cM r) i = (cM r)[i]'(by omega) := by simp [gs, show i < (cM r).length by omega]
   rw [← hgj, ← hgi, e] at h3
   have h4 : gs (cM r) i = s.nm := hnm
   have h5 := fL (h.lf s hmem hks)
   rw [h4] at h3
   exact h3 (by simpa using h5) (by simpa using h5) rfl
  rw [h2]; rfl
 ·have h1 : isIn (flat r).ps i = true := hin.1 (by
   rw [hk]
   cases hq : s.kids with
   | nil => exact absurd hq hks
   | cons a l => simp [hdR])
  rw [h1, if_pos rfl, if_pos (h.wY s hmem hks)]
end
section
theorem ya (a : RT) : ∀ l, (insR a l).Perm (a :: l)
 | [] => List.Perm.refl _
 | b :: l => by
  rw [insR]
  split
  ·exact List.Perm.refl _
  ·exact ((ya a l).cons b).trans (List.Perm.swap a b l)
theorem iO : ∀ l : List RT, (cz l).Perm (l.map sortR)
 | [] => List.Perm.refl _
 | r :: rs => by
  rw [cz, List.map_cons]
  exact (ya _ _).trans ((iO rs).cons _)
theorem lJ (r : RT) : (sortR r).kids = cz r.kids := by cases r; rfl
theorem oK (r : RT) : (sortR r).nm = r.nm := by cases r; rfl
theorem jE {l : List RT} : cz l = [] ↔ l = [] := by
 constructor
 ·intro h
  have := (iO l).length_eq
  rw [h, List.length_map] at this
  exact List.eq_nil_of_length_eq_zero this.symm
 ·rintro rfl; rfl
theorem My {l l' : List RT} (h : l.Perm l') : (subRs l).Perm (subRs l') := by
 rw [lI, lI]
 exact h.flatMap_right _
mutual
theorem jt : ∀ r : RT, (subR (sortR r)).Perm ((subR r).map sortR)
 | .node nm ks => by
  rw [sortR, subR, subR, List.map_cons]
  refine List.Perm.cons _ ?_
  exact (My (iO ks)).trans (BN ks)
theorem BN : ∀ rs : List RT, (subRs (rs.map sortR)).Perm ((subRs rs).map sortR)
 | [] => List.Perm.refl _
 | r :: rs => by
  rw [List.map_cons, subRs, subRs, List.map_append]
  exact (jt r).append (BN rs)
end
theorem Mz (r : RT) : aH (sortR r) = aH r := by
 have := (jt r).length_eq
 rw [List.length_map, jD, jD] at this; exact this
theorem R1 (r : RT) : (cM (sortR r)).Perm (cM r) := by
 rw [mU, mU]
 refine ((jt r).map RT.nm).trans ?_
 rw [List.map_map]
 have : (RT.nm ∘ sortR) = RT.nm := funext oK
 rw [this]
theorem qP (r : RT) : (cg (sortR r)).Perm (cg r) := (R1 r).filter _
theorem fK.sort {r : RT} (h : fK r) : fK (sortR r) := by
 refine ⟨fun s hs hk => ?_, fun s hs hk => ?_, (qP r).nodup_iff.2 h.nd⟩
 ·obtain ⟨q, hq, rfl⟩ := List.mem_map.1 ((jt r).mem_iff.1 hs)
  rw [lJ] at hk
  rw [oK]
  exact h.wY q hq (fun e => hk (jE.2 e))
 ·obtain ⟨q, hq, rfl⟩ := List.mem_map.1 ((jt r).mem_iff.1 hs)
  rw [lJ] at hk
  rw [oK]
  exact h.lf q hq (jE.1 hk)
def vK : List RT → Prop
 | [] => True
 | [_] => True
 | a :: b :: l => b9 (firstR a) (firstR b) ≤ 0 ∧ vK (b :: l)
theorem vK.tail {a : RT} {l : List RT} (h : vK (a :: l)) : vK l := by
 cases l with
 | nil => trivial
 | cons b l => exact h.2
theorem O1 (a : RT) (l : List RT) : ∃ c l', insR a l = c :: l' ∧ (c = a ∨ ∃ t, l = c :: t) := by
 cases l with
 | nil => exact ⟨a, [], rfl, .inl rfl⟩
 | cons b l =>
  rw [insR]
  split
  ·exact ⟨a, b :: l, rfl, .inl rfl⟩
  ·exact ⟨b, insR a l, rfl, .inr ⟨l, rfl⟩⟩
theorem GX (a : RT) : ∀ l, vK l → vK (insR a l)
 | [], _ => trivial
 | b :: l, h => by
  rw [insR]
  split
  ·rename_i h1; exact ⟨h1, h⟩
  ·rename_i h1
   have h2 := GX a l h.tail
   obtain ⟨c, l', e, hc⟩ := O1 a l
   rw [e] at h2 ⊢
   refine ⟨?_, h2⟩
   rcases hc with rfl | ⟨t, rfl⟩
   ·have := gA (firstR c) (firstR b); omega
   ·exact h.1
theorem BO : ∀ l, vK (cz l)
 | [] => trivial
 | r :: rs => by rw [cz]; exact GX _ _ (BO rs)
theorem V3 {a : RT} {l : List RT} (h : vK (a :: l)) : insR a l = a :: l := by
 cases l with
 | nil => rfl
 | cons b l => rw [insR, if_pos h.1]
theorem BP : ∀ l : List RT, vK l → (∀ r ∈ l, sortR r = r) → cz l = l
 | [], _, _ => rfl
 | r :: rs, h, hf => by rw [cz, BP rs h.tail (fun q hq => hf q (by simp [hq])), hf r (by simp)]; exact V3 h
mutual
theorem vL : ∀ r : RT, sortR (sortR r) = sortR r
 | .node nm ks => by
  rw [sortR, sortR]
  congr 1
  refine BP _ (BO ks) (fun q hq => ?_)
  obtain ⟨s, hs, rfl⟩ := List.mem_map.1 ((iO ks).mem_iff.1 hq)
  exact zY ks s hs
theorem zY : ∀ (rs : List RT) (s : RT), s ∈ rs → sortR (sortR s) = sortR s
 | [], _, h => by cases h
 | r :: rs, s, h => by
  by_cases e : s = r
  ·rw [e]; exact vL r
  ·exact zY rs s (by
    rcases List.mem_cons.1 h with h | h
    ·exact absurd h e
    ·exact h)
end
section
variable {F : aT} {n : Nat} {rk : Nat → Nat}
theorem th (h : Wf F n rk) : ∀ {d i : Nat}, i < n → rk i ≤ d → subR (aN F rk i) = (bK F rk i).map (aN F rk) := by
 intro d
 induction d with
 | zero =>
  intro i hi hd
  have hk : F.kids i = [] := by
   cases hk : F.kids i with
   | nil => rfl
   | cons k l => have := (h.kid i hi k (by rw [hk]; simp)).2; omega
  rw [b7 h hi, hk]
  have e : aN F rk i = .node (F.nm i) [] := by rw [di h hi, hk]; rfl
  rw [e, subR, List.flatMap_nil, List.map_cons, e]; rfl
 | succ d ih =>
  intro i hi hd
  rw [b7 h hi, List.map_cons, List.map_flatMap]
  have e := di h hi
  conv => lhs; rw [e, subR, lI, List.flatMap_map]
  rw [← e]
  congr 1
  refine gH fun k hk => ?_
  have := h.kid i hi k hk
  exact ih this.1 (by omega)
theorem uG (h : Wf F n rk) {i : Nat} (hi : i < n) : (aN F rk i).nm = F.nm i := by rw [di h hi]; rfl
theorem yc (h : Wf F n rk) {i : Nat} (hi : i < n) : (aN F rk i).kids = (F.kids i).map (aN F rk) := by rw [di h hi]; rfl
end
theorem gU {t : ay} (h : az t = 0) {j : Nat} (hj : j ∈ bK (ew t) (cu t) 0) : j < t.ps.length :=
 oH (dz h).wf (aD h).1 (Nat.le_refl _) ((dV (dz h).wf (aD h).1 (Nat.le_refl _)).1 hj)
theorem rX {t : ay} (h : az t = 0) : subR (fO t) = (bK (ew t) (cu t) 0).map (aN (ew t) (cu t)) := th (dz h).wf (aD h).1 (Nat.le_refl _)
theorem Ek {t : ay} (h : az t = 0) : aH (fO t) ≤ 64 := by
 rw [← jD, rX h, List.length_map]
 have h1 := oI (jg (dz h) (R := t.ps.length) (fun i _ => uD t i) (aD h).1 (Nat.le_refl _)) (fun x hx => gU h hx)
 have := (aD h).2.1; omega
theorem K6 {t : ay} (h : az t = 0) : cM (fO t) = (bK (ew t) (cu t) 0).map (gs t.ns) := by
 rw [mU, rX h, List.map_map]
 refine List.map_congr_left fun j hj => ?_
 exact uG (dz h).wf (gU h hj)
theorem AR {ps : List Int} {ns : List ByteArray} {i : Nat} (h : iu ps ns i = 0) (hi : isIn ps i = true) : (gs ns i).size = 0 := by
 unfold iu at h
 rw [if_pos hi] at h
 split at h
 ·assumption
 ·cases h
theorem Em {ps : List Int} {ns : List ByteArray} {i : Nat} (h : iu ps ns i = 0) (hi : isIn ps i = false) : aY (gs ns i).data.toList = true ∧ dm ns i = false := by
 unfold iu at h
 rw [hi, if_neg (by simp)] at h
 split at h
 ·rename_i h1
  refine ⟨h1, ?_⟩
  cases hs : dm ns i with
  | false => rfl
  | true => rw [hs] at h; cases h
 ·cases h
theorem rY {t : ay} (h : az t = 0) : fK (fO t) := by
 obtain ⟨hp, hl, hn, hok, he⟩ := aD h
 have hwf := (dz h).wf
 refine ⟨fun s hs hk => ?_, fun s hs hk => ?_, ?_⟩
 ·rw [rX h] at hs
  obtain ⟨j, hj, rfl⟩ := List.mem_map.1 hs
  have hjn := gU h hj
  rw [yc hwf hjn] at hk
  rw [uG hwf hjn]
  have : isIn t.ps j = true := (kK hok j).1 (fun e => hk (by rw [iN, e]; rfl))
  exact AR (he j hjn) this
 ·rw [rX h] at hs
  obtain ⟨j, hj, rfl⟩ := List.mem_map.1 hs
  have hjn := gU h hj
  rw [yc hwf hjn] at hk
  rw [uG hwf hjn]
  have : isIn t.ps j = false := by
   cases hb : isIn t.ps j with
   | false => rfl
   | true => exact absurd (List.map_eq_nil_iff.1 hk) ((kK hok j).2 hb)
  exact (Em (he j hjn) this).1
 ·unfold cg
  rw [K6 h, List.filter_map]
  have eT := jg (dz h) (R := t.ps.length) (fun i _ => uD t i) hp (Nat.le_refl _)
  refine List.pairwise_map.2 (List.Pairwise.imp_of_mem ?_ (List.Pairwise.filter _ eT))
  intro a b ha hb hne e
  have ha' := List.mem_filter.1 ha
  have hb' := List.mem_filter.1 hb
  have OW := gU h ha'.1
  have En := gU h hb'.1
  have leaf : ∀ i, i < t.ps.length → (gs t.ns i).size ≠ 0 → (ew t).kids i = [] := fun i hi hs => by
   rw [iN]
   cases hk : aS t.ps i with
   | nil => rfl
   | cons x l => exact absurd (AR (he i hi) ((kK hok i).1 (by rw [hk]; simp))) hs
  exact hne ((dz h).names a b OW En (leaf a OW (by simpa using ha'.2)) (leaf b En (by simpa using hb'.2)) e)
end
section
open Go.RowKit Go.Deep
theorem Tryz.fo : (Tryz.prog.info? 9).map (fun i => (i.zero, i.size, i.bytes)) = some (some (.string ⟨#[]⟩), 1, 16) := by kernel_rfl
structure GK (tb : Nat) (w W : World) (P N P' N' : Value) : Prop where
 os : W.os = w.os
 tape : W.tape = w.tape
 output : W.output = w.output
 size : w.heap.size ≤ W.heap.size
 block : ∀ b, b < w.heap.size → b ≠ tb → some b ≠ P.ownBlock → some b ≠ N.ownBlock → W.heap[b]? = w.heap[b]?
 oL : ∀ b, P'.ownBlock = some b → P.ownBlock = some b ∨ w.heap.size ≤ b
 oM : ∀ b, N'.ownBlock = some b → N.ownBlock = some b ∨ w.heap.size ≤ b
theorem GK.refl (tb : Nat) (w : World) (P N : Value) : GK tb w w P N P N := ⟨rfl, rfl, rfl, Nat.le_refl _, fun _ _ _ _ _ => rfl, fun _ h => .inl h, fun _ h => .inl h⟩
theorem GK.trans {tb : Nat} {w W X : World} {P N P' N' P2 N2 : Value} (h : GK tb w W P N P' N') (k : GK tb W X P' N' P2 N2) : GK tb w X P N P2 N2 :=
 ⟨k.os.trans h.os, k.tape.trans h.tape, k.output.trans h.output, Nat.le_trans h.size k.size, fun b hb h1 h2 h3 => by
  rw [← h.block b hb h1 h2 h3]
  refine k.block b (Nat.lt_of_lt_of_le hb h.size) h1 (fun e => ?_) (fun e => ?_)
  ·rcases h.oL b e.symm with h4 | h4
   ·exact h2 h4.symm
   ·omega
  ·rcases h.oM b e.symm with h4 | h4
   ·exact h3 h4.symm
   ·omega,
  fun b hb => by
   rcases k.oL b hb with h4 | h4
   ·exact h.oL b h4
   ·exact .inr (Nat.le_trans h.size h4),
  fun b hb => by
   rcases k.oM b hb with h4 | h4
   ·exact h.oM b h4
   ·exact .inr (Nat.le_trans h.size h4)⟩
theorem GK.up {tb : Nat} {w W X : World} {P N P' N' : Value} (h : GK tb w W P N P' N') (k : Up W X) : GK tb w X P N P' N' :=
 ⟨k.os.trans h.os, k.tape.trans h.tape, k.output.trans h.output, Nat.le_trans h.size k.size, fun b hb h1 h2 h3 => (Below.block k b (Nat.lt_of_lt_of_le hb h.size)).trans (h.block b hb h1 h2 h3), h.oL, h.oM⟩
structure TL (B0 : Nat) (W : World) (P N : Value) (ps : List Int) (ns : List ByteArray) : Prop where
 cR : aC B0 3 W P (ps.map (Value.int .i64))
 dF : aC B0 9 W N (ns.map Value.string)
 apart : ∀ b, P.ownBlock = some b → N.ownBlock ≠ some b
theorem aC.eD {base : Nat} {e : TypeId} {w w' : World} {v : Value} {vs : List Value} (h : aC base e w v vs) (k : ∀ b, v.ownBlock = some b → w'.heap[b]? = w.heap[b]?) : aC base e w' v vs := by
 refine ⟨h.1, ?_⟩
 rcases h.2 with h0 | ⟨g, cap, cur, rfl, hg, hc, hr⟩
 ·exact .inl h0
 ·exact .inr ⟨g, cap, cur, rfl, hg, (k g rfl).trans hc, hr⟩
section
variable {tb B0 : Nat} {w W W' : World} {P N Pv Nv : Value} {ps : List Int} {ns : List ByteArray}
theorem TL.up (h : TL B0 W Pv Nv ps ns) (hu : Up W W') : TL B0 W' Pv Nv ps ns :=
 ⟨h.cR.eD fun b hb => Below.block hu b (aF h.cR hb).2, h.dF.eD fun b hb => Below.block hu b (aF h.dF hb).2, h.apart⟩
end
def ay.push (t : ay) (p : Int) (s : ByteArray) : ay := ⟨t.ps ++ [p], t.ns ++ [s]⟩
end
section
open Go.RowKit Go.Deep
def vN (vs : List Value) (k : Nat) : Value := vs.getD k undef
mutual
def RAt (S : Nat → Prop) (w : World) : RT → Value → Prop
 | .node nm ks, v => ∃ b kv vs, v = .pointer (some ⟨b, 0, none⟩) ∧ S b ∧ w.heap[b]? = some (.cells #[.string nm, kv] 254 (0, 0)) ∧ aB S w kv ks.length (vN vs) ∧ RsAt S w ks vs
def RsAt (S : Nat → Prop) (w : World) : List RT → List Value → Prop
 | [], vs => vs = []
 | r :: rs, vs => ∃ u us, vs = u :: us ∧ RAt S w r u ∧ RsAt S w rs us
end
mutual
theorem RAt.keep {S : Nat → Prop} {w w' : World} (k : Kept S w w') : ∀ (r : RT) {v : Value}, RAt S w r v → RAt S w' r v
 | .node nm ks, v, h => by
  unfold RAt at h ⊢
  obtain ⟨b, kv, vs, rfl, hS, hb, hk, hs⟩ := h
  exact ⟨b, kv, vs, rfl, hS, (k b hS (Array.getElem?_eq_some_iff.1 hb).1).trans hb, hk.keep k, RsAt.keep k ks hs⟩
theorem RsAt.keep {S : Nat → Prop} {w w' : World} (k : Kept S w w') : ∀ (rs : List RT) {vs : List Value}, RsAt S w rs vs → RsAt S w' rs vs
 | [], _, h => by unfold RsAt at h ⊢; exact h
 | r :: rs, vs, h => by
  unfold RsAt at h ⊢
  obtain ⟨u, us, rfl, h1, h2⟩ := h
  exact ⟨u, us, rfl, RAt.keep k r h1, RsAt.keep k rs h2⟩
end
mutual
theorem RAt.sub {S T : Nat → Prop} {w : World} (k : ∀ b, S b → b < w.heap.size → T b) : ∀ (r : RT) {v : Value}, RAt S w r v → RAt T w r v
 | .node nm ks, v, h => by
  unfold RAt at h ⊢
  obtain ⟨b, kv, vs, rfl, hS, hb, hk, hs⟩ := h
  exact ⟨b, kv, vs, rfl, k b hS (Array.getElem?_eq_some_iff.1 hb).1, hb, hk.sub k, RsAt.sub k ks hs⟩
theorem RsAt.sub {S T : Nat → Prop} {w : World} (k : ∀ b, S b → b < w.heap.size → T b) : ∀ (rs : List RT) {vs : List Value}, RsAt S w rs vs → RsAt T w rs vs
 | [], _, h => by unfold RsAt at h ⊢; exact h
 | r :: rs, vs, h => by
  unfold RsAt at h ⊢
  obtain ⟨u, us, rfl, h1, h2⟩ := h
  exact ⟨u, us, rfl, RAt.sub k r h1, RsAt.sub k rs h2⟩
end
theorem RsAt.len {S : Nat → Prop} {w : World} : ∀ (rs : List RT) {vs : List Value}, RsAt S w rs vs → vs.length = rs.length
 | [], _, h => by unfold RsAt at h; subst h; rfl
 | r :: rs, vs, h => by
  unfold RsAt at h
  obtain ⟨u, us, rfl, _, h2⟩ := h
  rw [List.length_cons, List.length_cons, RsAt.len rs h2]
def gr (rs : List RT) (k : Nat) : RT := rs.getD k (.node ByteArray.empty [])
theorem RsAt.get {S : Nat → Prop} {w : World} : ∀ (rs : List RT) {vs : List Value}, RsAt S w rs vs → ∀ k, k < rs.length → RAt S w (gr rs k) (vN vs k)
 | [], _, _, k, hk => absurd hk (Nat.not_lt_zero _)
 | r :: rs, vs, h, k, hk => by
  unfold RsAt at h
  obtain ⟨u, us, rfl, h1, h2⟩ := h
  cases k with
  | zero => exact h1
  | succ k => exact RsAt.get rs h2 k (by simpa using hk)
theorem RsAt.app {S : Nat → Prop} {w : World} {r : RT} {u : Value} (hr : RAt S w r u) : ∀ (rs : List RT) {vs : List Value}, RsAt S w rs vs → RsAt S w (rs ++ [r]) (vs ++ [u])
 | [], vs, h => by
  unfold RsAt at h; subst h
  show RsAt S w [r] [u]
  unfold RsAt
  exact ⟨u, [], rfl, hr, by unfold RsAt; rfl⟩
 | q :: rs, vs, h => by
  unfold RsAt at h
  obtain ⟨x, us, rfl, h1, h2⟩ := h
  show RsAt S w (q :: (rs ++ [r])) (x :: (us ++ [u]))
  unfold RsAt
  exact ⟨x, us ++ [u], rfl, h1, RsAt.app hr rs h2⟩
theorem RAt.open {S : Nat → Prop} {w : World} {r : RT} {v : Value} (h : RAt S w r v) : ∃ b kp kc vs, v = .pointer (some ⟨b, 0, none⟩) ∧ S b ∧ w.cell? ⟨b, 0, none⟩ = some (.string r.nm) ∧ w.cell? ⟨b, 1, none⟩ = some (.slice kp r.kids.length kc) ∧ aB S w (.slice kp r.kids.length kc) r.kids.length (vN vs) ∧ RsAt S w r.kids vs := by
 cases r with
 | node nm ks =>
  unfold RAt at h
  obtain ⟨b, kv, vs, rfl, hS, hb, hk, hs⟩ := h
  obtain ⟨kp, kc, rfl, _, _⟩ := aB.open hk
  exact ⟨b, kp, kc, vs, rfl, hS, by simp [World.cell?, hb, RT.nm], by simp [World.cell?, hb, RT.kids], hk, hs⟩
theorem nM {p : Option Addr} {n cap : Nat} {S : Nat → Prop} {w : World} {vs : List Value} (h : aB S w (.slice p n cap) n (vN vs)) {k : Nat} (hk : k < n) : ∃ b off, p = some ⟨b, off, none⟩ ∧ w.cell? ⟨b, off + k, none⟩ = some (vN vs k) := by
 obtain ⟨q, c, e, _, H⟩ := aB.open h
 injection e with e1
 subst e1
 exact H k hk
structure kD (base B : Nat) (w : World) (nm : ByteArray) (kv : Value) (rs : List RT) : Prop where
 node : w.heap[B]? = some (.cells #[.string nm, kv] 254 (0, 0))
 lo : base ≤ B
 kids : ∃ vs, aC (B + 1) 210 w kv vs ∧ RsAt (fun b => base ≤ b ∧ b ≠ B ∧ kv.ownBlock ≠ some b) w rs vs
theorem kD.lt {base B : Nat} {w : World} {nm : ByteArray} {kv : Value} {rs : List RT} (h : kD base B w nm kv rs) : B < w.heap.size := (Array.getElem?_eq_some_iff.1 h.node).1
theorem kD.cells {base B : Nat} {w : World} {nm : ByteArray} {kv : Value} {rs : List RT} (h : kD base B w nm kv rs) : w.cell? ⟨B, 0, none⟩ = some (.string nm) ∧ w.cell? ⟨B, 1, none⟩ = some kv ∧ w.frozen? ⟨B, 0, none⟩ = false ∧ w.frozen? ⟨B, 1, none⟩ = false := by
 refine ⟨?_, ?_, ?_, ?_⟩ <;> simp [World.cell?, World.frozen?, h.node]
theorem kD.start (w : World) {base : Nat} (hb : base ≤ w.heap.size) (nm : ByteArray) : kD base w.heap.size (w.alloc (.cells #[.string nm, .slice none 0 0] 254)) nm (.slice none 0 0) [] :=
 ⟨World.alloc_heap_new _ _, hb, [], aC.nil _ _ _, by unfold RsAt; rfl⟩
theorem kD.up {base B : Nat} {w w' : World} {nm : ByteArray} {kv : Value} {rs : List RT} (h : kD base B w nm kv rs) (hu : Up w w') : kD base B w' nm kv rs := by
 obtain ⟨vs, ho, hr⟩ := h.kids
 exact ⟨(Below.block hu B h.lt).trans h.node, h.lo, vs, ho.kept fun b _ hb => Below.block hu b hb, RsAt.keep (hu.kept _) rs hr⟩
theorem kD.done {base B : Nat} {w : World} {nm : ByteArray} {kv : Value} {rs : List RT} (h : kD base B w nm kv rs) : RAt (fun b => base ≤ b) w (.node nm rs) (.pointer (some ⟨B, 0, none⟩)) := by
 obtain ⟨vs, ho, hr⟩ := h.kids
 have hlen := RsAt.len rs hr
 unfold RAt
 have h1 := ho.Au
 rw [hlen] at h1
 exact ⟨B, kv, vs, rfl, h.lo, h.node, h1.sub fun b hb _ => by have := h.lo; omega, RsAt.sub (fun b hb _ => hb.1) rs hr⟩
theorem kD.push {base B : Nat} {w W : World} {nm : ByteArray} {kv kv' : Value} {rs : List RT} {r : RT} {u : Value} {lim : Nat} (h : kD base B w nm kv rs) (hr : RAt (fun b => lim ≤ b) w r u) (fA : base ≤ lim) (hl2 : B < lim) (Eo : ∀ b, kv.ownBlock = some b → b < lim)
  {vs : List Value} (hv : RsAt (fun b => base ≤ b ∧ b ≠ B ∧ kv.ownBlock ≠ some b) w rs vs) (ho : aC (B + 1) 210 W kv' (vs ++ [u])) (hg : w.grownBy W kv.ownBlock) (ep : ∀ b, kv'.ownBlock = some b → kv.ownBlock = some b ∨ w.heap.size ≤ b) :
  kD base B (W.setCell ⟨B, 1, none⟩ kv') nm kv' (rs ++ [r]) := by
 have hBl := h.lt
 have hBk : kv.ownBlock ≠ some B := fun e => by
  obtain ⟨UT, zJ, _⟩ := h.kids
  have := (aF zJ e).1; omega
 have hBk' : kv'.ownBlock ≠ some B := fun e => by
  rcases ep B e with h1 | h1
  ·exact hBk h1
  ·omega
 have cw : ∀ b, b ≠ B → (W.setCell ⟨B, 1, none⟩ kv').heap[b]? = W.heap[b]? := fun b hb => blk_setCell_other _ _ _ _ hb
 have hB : W.heap[B]? = w.heap[B]? := hg.block B hBl (fun e => hBk e.symm)
 have hkeep : ∀ b, b ≠ B → kv.ownBlock ≠ some b → b < w.heap.size → (W.setCell ⟨B, 1, none⟩ kv').heap[b]? = w.heap[b]? := fun b h1 h2 h3 => (cw b h1).trans (hg.block b h3 fun e => h2 e.symm)
 refine ⟨?_, h.lo, vs ++ [u], ho.eD fun b hb => cw b (fun e => hBk' (by rw [hb, e])), ?_⟩
 ·have hn := hB.trans h.node
  simp [World.setCell, Array.getElem?_modify, hn]
 ·have k1 : Kept (fun b => base ≤ b ∧ b ≠ B ∧ kv.ownBlock ≠ some b) w (W.setCell ⟨B, 1, none⟩ kv') := fun b hb hl => hkeep b hb.2.1 hb.2.2 hl
  have k2 : Kept (fun b => lim ≤ b) w (W.setCell ⟨B, 1, none⟩ kv') := fun b hb hl => hkeep b (by have : lim ≤ b := hb; omega) (fun e => by have := Eo b e; have : lim ≤ b := hb; omega) hl
  have hsz : (W.setCell ⟨B, 1, none⟩ kv').heap.size = W.heap.size := by simp [World.size_setCell]
  have hold : ∀ b, b < w.heap.size → kv.ownBlock ≠ some b → kv'.ownBlock ≠ some b := fun b h1 h2 e => by
   rcases ep b e with h3 | h3
   ·exact h2 h3
   ·omega
  have h1 : RsAt (fun b => base ≤ b ∧ b ≠ B ∧ kv'.ownBlock ≠ some b) w rs vs := RsAt.sub (fun b hb hl => ⟨hb.1, hb.2.1, hold b hl hb.2.2⟩) rs hv
  have h2 : RAt (fun b => base ≤ b ∧ b ≠ B ∧ kv'.ownBlock ≠ some b) w r u := RAt.sub (fun b hb hl => ⟨by have : lim ≤ b := hb; omega, by have : lim ≤ b := hb; omega, hold b hl fun e => by have := Eo b e; have : lim ≤ b := hb; omega⟩) r hr
  have k3 : Kept (fun b => base ≤ b ∧ b ≠ B ∧ kv'.ownBlock ≠ some b ∧ kv.ownBlock ≠ some b) w (W.setCell ⟨B, 1, none⟩ kv') := fun b hb hl => hkeep b hb.2.1 hb.2.2.2 hl
  have h1' : RsAt (fun b => base ≤ b ∧ b ≠ B ∧ kv'.ownBlock ≠ some b ∧ kv.ownBlock ≠ some b) w rs vs := RsAt.sub (fun b hb hl => ⟨hb.1, hb.2.1, hold b hl hb.2.2, hb.2.2⟩) rs hv
  have DL : RAt (fun b => base ≤ b ∧ b ≠ B ∧ kv'.ownBlock ≠ some b ∧ kv.ownBlock ≠ some b) w r u := RAt.sub (fun b hb hl => ⟨by have : lim ≤ b := hb; omega, by have : lim ≤ b := hb; omega, hold b hl fun e => by have := Eo b e; have : lim ≤ b := hb; omega, fun e => by have := Eo b e; have : lim ≤ b := hb; omega⟩) r hr
  exact RsAt.sub (fun b hb _ => ⟨hb.1, hb.2.1, hb.2.2.1⟩) _ (RsAt.app (RAt.keep k3 r DL) rs (RsAt.keep k3 rs h1'))
end
end Go.Proofs.YthgabkgmkolobaaGreat
