/- Rose trees: all parts of one; when its numbering is a valid tree. slices.Equal at .. -/
import Derived.Test.YteegefnjnikngaaGreatQ1
import Derived.Test.YteegefnjnikngaaGreatQ18
import Derived.Test.YteegefnjnikngaaGreatQ8
import Derived.Test.YteegefnjnikngaaGreatQ3
import Derived.Test.YteegefnjnikngaaGreatQ5
set_option maxRecDepth 100000
namespace Go.Proofs.YteegefnjnikngaaGreat
section
mutual
def subR : RT → List RT
 | .node nm ks => .node nm ks :: subRs ks
def subRs : List RT → List RT
 | [] => []
 | r :: rs => subR r ++ subRs rs
end
mutual
theorem jh : ∀ r : RT, (subR r).length = aI r
 | .node _ ks => by rw [subR, aI, List.length_cons, EU ks]; omega
theorem EU : ∀ rs : List RT, (subRs rs).length = sizeRs rs
 | [] => rfl
 | r :: rs => by rw [subRs, sizeRs, List.length_append, jh r, EU rs]
end
mutual
theorem lR : ∀ r : RT, cQ r = (subR r).map RT.nm
 | .node nm ks => by rw [subR, cQ, List.map_cons, Ie ks]; rfl
theorem Ie : ∀ rs : List RT, dr rs = (subRs rs).map RT.nm
 | [] => rfl
 | r :: rs => by rw [subRs, dr, List.map_append, lR r, Ie rs]
end
theorem lT (rs : List RT) : subRs rs = rs.flatMap subR := by
 induction rs with
 | nil => rfl
 | cons r rs ih => rw [subRs, List.flatMap_cons, ih]
def AtR (t : ax) (r : RT) (n : Nat) (p : Int) : Prop := ∃ pre post, t.ps = pre ++ (psR r n p ++ post) ∧ pre.length = n ∧ p < n ∧ (∀ x ∈ pre, x < (n : Int)) ∧ (∀ x ∈ post, x < (n : Int) ∨ ((n + aI r : Nat) : Int) ≤ x)
def Ig (t : ax) (rs : List RT) (own m : Nat) : Prop := ∃ pre post, t.ps = pre ++ (psRs rs own m ++ post) ∧ pre.length = m ∧ own < m ∧ (∀ x ∈ pre, x < (m : Int)) ∧ (∀ x ∈ post, x < (own : Int) ∨ ((m + sizeRs rs : Nat) : Int) ≤ x)
theorem AtR.kids {t : ax} {nm : ByteArray} {ks : List RT} {n : Nat} {p : Int} (h : AtR t (.node nm ks) n p) : aQ t.ps n = hdR ks (n + 1) ∧ Ig t ks n (n + 1) := by
 obtain ⟨pre, post, hps, hpl, hp, hpre, hpost⟩ := h
 rw [aI] at hpost
 rw [psR, List.cons_append] at hps
 constructor
 ·rw [Ib]
  ·rw [hps, sQ, rV n pre 0 (fun x hx e => by have := hpre x hx; omega), List.nil_append, kf, if_neg (by omega), sQ, hpl, Nat.zero_add, Dy n ks (n + 1) (by omega), pE]
   rw [rV n post _ (fun x hx e => by rcases hpost x hx with h1 | h1 <;> omega), List.append_nil]
  ·intro i hi e
   rw [hps] at e
   rcases Nat.lt_trichotomy i n with h1 | h1 | h1
   ·rw [A7 _ (by omega)] at e
    have := hpre _ (xY (l := pre) (k := i) (by omega)); omega
   ·subst h1
    have h2 := A6 pre (p :: (psRs ks i (i + 1) ++ post)) 0
    rw [hpl] at h2
    have h2 : gi (pre ++ p :: (psRs ks i (i + 1) ++ post)) i = p := h2
    rw [h2] at e
    omega
   ·exact h1
 ·refine ⟨pre ++ [p], post, by rw [hps, List.append_assoc]; rfl, by simp [hpl], by omega, fun x hx => ?_, fun x hx => ?_⟩
  ·rcases List.mem_append.1 hx with hx | hx
   ·have := hpre x hx; omega
   ·have : x = p := by simpa using hx
    omega
  ·rcases hpost x hx with h3 | h3
   ·exact .inl h3
   ·exact .inr (by omega)
theorem Ig.cons {t : ax} {r : RT} {rs : List RT} {own m : Nat} (h : Ig t (r :: rs) own m) : AtR t r m own ∧ Ig t rs own (m + aI r) := by
 obtain ⟨pre, post, hps, hpl, hm, hpre, hpost⟩ := h
 rw [sizeRs] at hpost
 rw [psRs, List.append_assoc] at hps
 constructor
 ·refine ⟨pre, _, hps, hpl, by omega, hpre, fun x hx => ?_⟩
  rcases List.mem_append.1 hx with hx | hx
  ·rcases vp rs own (m + aI r) x hx with h2 | ⟨h2, _⟩
   ·exact .inl (by omega)
   ·exact .inr h2
  ·rcases hpost x hx with h2 | h2
   ·exact .inl (by omega)
   ·exact .inr (by omega)
 ·refine ⟨pre ++ psR r m own, post, by rw [hps, List.append_assoc], by rw [List.length_append, lQ, hpl], by omega, fun x hx => ?_, fun x hx => ?_⟩
  ·rcases List.mem_append.1 hx with hx | hx
   ·have := hpre x hx; omega
   ·rcases Ic r m own x hx with h3 | ⟨_, h3⟩ <;> omega
  ·rcases hpost x hx with h3 | h3
   ·exact .inl h3
   ·exact .inr (by omega)
mutual
theorem Ll {t : ax} : ∀ (r : RT) (n : Nat) (p : Int), AtR t r n p → ∀ (i : Nat) (s : RT), (subR r)[i]? = some s → aQ t.ps (n + i) = hdR s.kids (n + i + 1)
 | .node nm ks, n, p, h, i, s, hs => by
  rw [subR] at hs
  cases i with
  | zero =>
   have e : RT.node nm ks = s := by simpa using hs
   subst e
   exact h.kids.1
  | succ i =>
   rw [List.getElem?_cons_succ] at hs
   have := Ih ks n (n + 1) h.kids.2 i s hs
   rw [show n + (i + 1) = n + 1 + i by omega]; exact this
theorem Ih {t : ax} : ∀ (rs : List RT) (own m : Nat), Ig t rs own m → ∀ (i : Nat) (s : RT), (subRs rs)[i]? = some s → aQ t.ps (m + i) = hdR s.kids (m + i + 1)
 | [], _, _, _, i, s, hs => by simp [subRs] at hs
 | r :: rs, own, m, h, i, s, hs => by
  rw [subRs] at hs
  by_cases hi : i < aI r
  ·rw [List.getElem?_append_left (by rw [jh]; exact hi)] at hs
   exact Ll r m own h.cons.1 i s hs
  ·rw [List.getElem?_append_right (by rw [jh]; omega), jh] at hs
   have := Ih rs own (m + aI r) h.cons.2 (i - aI r) s hs
   rw [show m + aI r + (i - aI r) = m + i by omega] at this; exact this
end
theorem AtR.flat (r : RT) : AtR (flat r) r 0 (-1) := ⟨[], [], by simp [YteegefnjnikngaaGreat.flat], rfl, by omega, fun x hx => by simp at hx, fun x hx => by simp at hx⟩
theorem PA {r : RT} {i : Nat} {s : RT} (h : (subR r)[i]? = some s) : aQ (flat r).ps i = hdR s.kids (i + 1) := by
 have := Ll r 0 (-1) (AtR.flat r) i s h
 simpa using this
mutual
theorem PB : ∀ (r : RT) (n : Nat) (p : Int) (j : Nat), 0 < j → j < aI r → (n : Int) ≤ gi (psR r n p) j ∧ gi (psR r n p) j < ((n + j : Nat) : Int)
 | .node nm ks, n, p, j, h0, hj => by
  rw [aI] at hj
  obtain ⟨k, rfl⟩ : ∃ k, j = k + 1 := ⟨j - 1, by omega⟩
  have h := Lm ks n (n + 1) k (by omega) (by omega)
  have e : gi (psR (.node nm ks) n p) (k + 1) = gi (psRs ks n (n + 1)) k := by rw [psR]; simp [gi]
  rw [e]
  exact ⟨h.1, by have := h.2; omega⟩
theorem Lm : ∀ (rs : List RT) (own n j : Nat), own < n → j < sizeRs rs → (own : Int) ≤ gi (psRs rs own n) j ∧ gi (psRs rs own n) j < ((n + j : Nat) : Int)
 | [], _, _, _, _, h => by simp [sizeRs] at h
 | r :: rs, own, n, j, ho, hj => by
  rw [sizeRs] at hj
  rw [psRs]
  by_cases hr : j < aI r
  ·rw [A7 _ (by rw [lQ]; exact hr)]
   by_cases h0 : j = 0
   ·subst h0
    obtain ⟨nm, ks⟩ := r
    have e : gi (psR (.node nm ks) n own) 0 = own := by rw [psR]; simp [gi]
    rw [e]; exact ⟨by omega, by omega⟩
   ·have h := PB r n own j (by omega) hr
    exact ⟨by omega, h.2⟩
  ·have h := Lm rs own (n + aI r) (j - aI r) (by omega) (by omega)
   have e := A6 (psR r n own) (psRs rs own (n + aI r)) (j - aI r)
   rw [lQ, show aI r + (j - aI r) = j by omega] at e
   rw [e]
   exact ⟨h.1, by have := h.2; omega⟩
end
theorem Ii (r : RT) : iJ (flat r).ps = true := by
 refine AG fun j hj => ?_
 rw [jG] at hj
 show jm j (gi (psR r 0 (-1)) j) = true
 unfold jm
 by_cases h0 : j = 0
 ·subst h0
  obtain ⟨nm, ks⟩ := r
  rw [if_pos rfl, psR]; rfl
 ·rw [if_neg h0]
  have h := PB r 0 (-1) j (by omega) hj
  have h1 : 0 ≤ gi (psR r 0 (-1)) j := by have := h.1; omega
  have h2 : gi (psR r 0 (-1)) j < (j : Int) := by have := h.2; omega
  simp [h1, h2]
def bu (r : RT) : List ByteArray := (cQ r).filter fun s => decide (s.size ≠ 0)
structure di (r : RT) : Prop where
 sR : ∀ s ∈ subR r, s.kids ≠ [] → s.nm.size = 0
 lf : ∀ s ∈ subR r, s.kids = [] → aZ s.nm.data.toList = true
 nd : (bu r).Nodup
theorem lU {s : ByteArray} (h : aZ s.data.toList = true) : s.size ≠ 0 := by
 intro e
 have : s.data.toList = [] := by
  apply List.eq_nil_of_length_eq_zero
  simpa using e
 rw [this] at h
 revert h; decide
theorem sS {r : RT} (h : di r) (hs : aI r ≤ 64) : az (flat r) = 0 := by
 unfold az
 rw [jG, pF, if_neg (by have := gW r; omega), if_neg (by omega), if_neg (by simp), if_pos (Ii r)]
 refine eN fun i hi => ?_
 have hi2 : i < (subR r).length := by rw [jh]; exact hi
 obtain ⟨s, hsi⟩ : ∃ s, (subR r)[i]? = some s := ⟨_, List.getElem?_eq_getElem hi2⟩
 have hmem : s ∈ subR r := List.mem_of_getElem? hsi
 have hk := PA hsi
 have hnm : gs (flat r).ns i = s.nm := by
  show gs (cQ r) i = _
  rw [lR]; simp [gs, hsi]
 have hin := kY (Ii r) i
 unfold ja
 rw [hnm]
 by_cases hks : s.kids = []
 ·have h1 : isIn (flat r).ps i = false := by
   cases hb : isIn (flat r).ps i with
   | false => rfl
   | true => exact absurd (by rw [hk, hks]; rfl) (hin.2 hb)
  rw [h1, if_neg (by simp), if_pos (h.lf s hmem hks)]
  have h2 : dI (flat r).ns i = false := by
   rw [Bool.eq_false_iff]; intro e
   obtain ⟨j, hj, e⟩ := List.any_eq_true.1 e
   have hj : j < i := List.mem_range.1 hj
   have e : gs (cQ r) j = gs (cQ r) i := of_decide_eq_true e
   have hpw := List.pairwise_filter.1 h.nd
   have kP := zk r
   have h3 := List.pairwise_iff_getElem.1 hpw j i (by omega) (by omega) hj
   have hgj : gs (cQ r) j = (cQ r)[j]'(by omega) := by simp [gs, show j < (cQ r).length by omega]
   have hgi : gs (cQ r) i = (cQ r)[i]'(by omega) := by simp [gs, show i < (cQ r).length by omega]
   rw [← hgj, ← hgi, e] at h3
   have h4 : gs (cQ r) i = s.nm := hnm
   have h5 := lU (h.lf s hmem hks)
   rw [h4] at h3
   exact h3 (by simpa using h5) (by simpa using h5) rfl
  rw [h2]; rfl
 ·have h1 : isIn (flat r).ps i = true := hin.1 (by
   rw [hk]
   cases hq : s.kids with
   | nil => exact absurd hq hks
   | cons a l => simp [hdR])
  rw [h1, if_pos rfl, if_pos (h.sR s hmem hks)]
end
section
open Go.RowKit Go.Deep
end
section
open Go.RowKit Go.Deep
end
section
open Go.RowKit Go.Deep
def jX (s : ByteArray) : ax := ⟨[-1], [s]⟩
theorem Za (w : World) (s : ByteArray) : aC Any ((w.alloc (.cells #[.int .i64 (-1)] 3)).alloc (.cells #[.string s] 9)) (.agg #[.slice (some ⟨w.heap.size, 0, none⟩) 1 1, .slice (some ⟨w.heap.size + 1, 0, none⟩) 1 1]) (jX s) := by
 refine ⟨_, _, rfl, ⟨_, 1, rfl, Nat.le_refl _, .inr ⟨_, 0, rfl, trivial, fun k hk => ?_⟩⟩, ⟨_, 1, rfl, Nat.le_refl _, .inr ⟨_, 0, rfl, trivial, fun k hk => ?_⟩⟩⟩
 ·obtain rfl : k = 0 := by have : (jX s).ps.length = 1 := rfl; omega
  refine (Up.alloc (w.alloc (.cells #[.int .i64 (-1)] 3)) _).cell ?_
  have h := World.alloc_heap_new w (Obj.cells #[.int .i64 (-1)] 3)
  simp only [World.cell?, h]; rfl
 ·obtain rfl : k = 0 := by have : (jX s).ns.length = 1 := rfl; omega
  have h := World.alloc_heap_new (w.alloc (.cells #[.int .i64 (-1)] 3)) (Obj.cells #[.string s] 9)
  rw [World.size_alloc] at h
  simp only [World.cell?, h]; rfl
theorem Wk (s : ByteArray) : (az (jX s) == 0) = aZ s.data.toList := by
 have h1 : isIn (jX s).ps 0 = false := by
  unfold isIn D7 jX; simp
 have h2 : dI (jX s).ns 0 = false := by unfold dI; simp
 have h3 : iJ (jX s).ps = true := by unfold iJ jX; simp [jm, gi]
 have h4 : gs (jX s).ns 0 = s := rfl
 unfold az
 rw [if_neg (by simp [jX]), if_neg (by simp [jX]), if_neg (by simp [jX]), if_pos h3]
 show (firstNZ (ja (jX s).ps (jX s).ns) 1 == 0) = _
 simp only [firstNZ, if_true]
 unfold ja
 rw [h1, h2, h4]
 cases aZ s.data.toList <;> simp
end
section
theorem yE (a : RT) : ∀ l, (insR a l).Perm (a :: l)
 | [] => List.Perm.refl _
 | b :: l => by
  rw [insR]
  split
  ·exact List.Perm.refl _
  ·exact ((yE a l).cons b).trans (List.Perm.swap a b l)
theorem mE : ∀ l : List RT, (cW l).Perm (l.map sortR)
 | [] => List.Perm.refl _
 | r :: rs => by
  rw [cW, List.map_cons]
  exact (yE _ _).trans ((mE rs).cons _)
theorem rE (r : RT) : (sortR r).kids = cW r.kids := by cases r; rfl
theorem sU (r : RT) : (sortR r).nm = r.nm := by cases r; rfl
theorem jY {l : List RT} : cW l = [] ↔ l = [] := by
 constructor
 ·intro h
  have := (mE l).length_eq
  rw [h, List.length_map] at this
  exact List.eq_nil_of_length_eq_zero this.symm
 ·rintro rfl; rfl
theorem M6 {l l' : List RT} (h : l.Perm l') : (subRs l).Perm (subRs l') := by
 rw [lT, lT]
 exact h.flatMap_right _
mutual
theorem iW : ∀ r : RT, (subR (sortR r)).Perm ((subR r).map sortR)
 | .node nm ks => by
  rw [sortR, subR, subR, List.map_cons]
  refine List.Perm.cons _ ?_
  exact (M6 (mE ks)).trans (Cb ks)
theorem Cb : ∀ rs : List RT, (subRs (rs.map sortR)).Perm ((subRs rs).map sortR)
 | [] => List.Perm.refl _
 | r :: rs => by
  rw [List.map_cons, subRs, subRs, List.map_append]
  exact (iW r).append (Cb rs)
end
theorem wH (r : RT) : aI (sortR r) = aI r := by
 have := (iW r).length_eq
 rw [List.length_map, jh, jh] at this; exact this
theorem Sw (r : RT) : (cQ (sortR r)).Perm (cQ r) := by
 rw [lR, lR]
 refine ((iW r).map RT.nm).trans ?_
 rw [List.map_map]
 have : (RT.nm ∘ sortR) = RT.nm := funext sU
 rw [this]
theorem lV (r : RT) : (bu (sortR r)).Perm (bu r) := (Sw r).filter _
theorem di.sort {r : RT} (h : di r) : di (sortR r) := by
 refine ⟨fun s hs hk => ?_, fun s hs hk => ?_, (lV r).nodup_iff.2 h.nd⟩
 ·obtain ⟨q, hq, rfl⟩ := List.mem_map.1 ((iW r).mem_iff.1 hs)
  rw [rE] at hk
  rw [sU]
  exact h.sR q hq (fun e => hk (jY.2 e))
 ·obtain ⟨q, hq, rfl⟩ := List.mem_map.1 ((iW r).mem_iff.1 hs)
  rw [rE] at hk
  rw [sU]
  exact h.lf q hq (jY.1 hk)
def wI : List RT → Prop
 | [] => True
 | [_] => True
 | a :: b :: l => cz (firstR a) (firstR b) ≤ 0 ∧ wI (b :: l)
theorem wI.tail {a : RT} {l : List RT} (h : wI (a :: l)) : wI l := by
 cases l with
 | nil => trivial
 | cons b l => exact h.2
theorem PC (a : RT) (l : List RT) : ∃ c l', insR a l = c :: l' ∧ (c = a ∨ ∃ t, l = c :: t) := by
 cases l with
 | nil => exact ⟨a, [], rfl, .inl rfl⟩
 | cons b l =>
  rw [insR]
  split
  ·exact ⟨a, b :: l, rfl, .inl rfl⟩
  ·exact ⟨b, insR a l, rfl, .inr ⟨l, rfl⟩⟩
theorem Ij (a : RT) : ∀ l, wI l → wI (insR a l)
 | [], _ => trivial
 | b :: l, h => by
  rw [insR]
  split
  ·rename_i h1; exact ⟨h1, h⟩
  ·rename_i h1
   have h2 := Ij a l h.tail
   obtain ⟨c, l', e, hc⟩ := PC a l
   rw [e] at h2 ⊢
   refine ⟨?_, h2⟩
   rcases hc with rfl | ⟨t, rfl⟩
   ·have := gU (firstR c) (firstR b); omega
   ·exact h.1
theorem Cc : ∀ l, wI (cW l)
 | [] => trivial
 | r :: rs => by rw [cW]; exact Ij _ _ (Cc rs)
theorem Wl {a : RT} {l : List RT} (h : wI (a :: l)) : insR a l = a :: l := by
 cases l with
 | nil => rfl
 | cons b l => rw [insR, if_pos h.1]
theorem Ce : ∀ l : List RT, wI l → (∀ r ∈ l, sortR r = r) → cW l = l
 | [], _, _ => rfl
 | r :: rs, h, hf => by rw [cW, Ce rs h.tail (fun q hq => hf q (by simp [hq])), hf r (by simp)]; exact Wl h
mutual
theorem wJ : ∀ r : RT, sortR (sortR r) = sortR r
 | .node nm ks => by
  rw [sortR, sortR]
  congr 1
  refine Ce _ (Cc ks) (fun q hq => ?_)
  obtain ⟨s, hs, rfl⟩ := List.mem_map.1 ((mE ks).mem_iff.1 hq)
  exact Af ks s hs
theorem Af : ∀ (rs : List RT) (s : RT), s ∈ rs → sortR (sortR s) = sortR s
 | [], _, h => by cases h
 | r :: rs, s, h => by
  by_cases e : s = r
  ·rw [e]; exact wJ r
  ·exact Af rs s (by
    rcases List.mem_cons.1 h with h | h
    ·exact absurd h e
    ·exact h)
end
section
variable {F : aP} {n : Nat} {rk : Nat → Nat}
theorem jO (h : Wf F n rk) : ∀ {d i : Nat}, i < n → rk i ≤ d → subR (aG F rk i) = (bF F rk i).map (aG F rk) := by
 intro d
 induction d with
 | zero =>
  intro i hi hd
  have hk : F.kids i = [] := by
   cases hk : F.kids i with
   | nil => rfl
   | cons k l => have := (h.kid i hi k (by rw [hk]; simp)).2; omega
  rw [cw h hi, hk]
  have e : aG F rk i = .node (F.nm i) [] := by rw [bA h hi, hk]; rfl
  rw [e, subR, List.flatMap_nil, List.map_cons, e]; rfl
 | succ d ih =>
  intro i hi hd
  rw [cw h hi, List.map_cons, List.map_flatMap]
  have e := bA h hi
  conv => lhs; rw [e, subR, lT, List.flatMap_map]
  rw [← e]
  congr 1
  refine ic fun k hk => ?_
  have := h.kid i hi k hk
  exact ih this.1 (by omega)
theorem nI (h : Wf F n rk) {i : Nat} (hi : i < n) : (aG F rk i).nm = F.nm i := by rw [bA h hi]; rfl
theorem nJ (h : Wf F n rk) {i : Nat} (hi : i < n) : (aG F rk i).kids = (F.kids i).map (aG F rk) := by rw [bA h hi]; rfl
end
theorem fG {t : ax} (h : az t = 0) {j : Nat} (hj : j ∈ bF (dy t) (bY t) 0) : j < t.ps.length :=
 iM (cK h).wf (aH h).1 (Nat.le_refl _) ((bX (cK h).wf (aH h).1 (Nat.le_refl _)).1 hj)
theorem pH {t : ax} (h : az t = 0) : subR (dU t) = (bF (dy t) (bY t) 0).map (aG (dy t) (bY t)) := jO (cK h).wf (aH h).1 (Nat.le_refl _)
theorem EW {t : ax} (h : az t = 0) : aI (dU t) ≤ 64 := by
 rw [← jh, pH h, List.length_map]
 have h1 := mQ (iy (cK h) (R := t.ps.length) (fun i _ => vh t i) (aH h).1 (Nat.le_refl _)) (fun x hx => fG h hx)
 have := (aH h).2.1; omega
theorem Lp {t : ax} (h : az t = 0) : cQ (dU t) = (bF (dy t) (bY t) 0).map (gs t.ns) := by
 rw [lR, pH h, List.map_map]
 refine List.map_congr_left fun j hj => ?_
 exact nI (cK h).wf (fG h hj)
theorem Ik {ps : List Int} {ns : List ByteArray} {i : Nat} (h : ja ps ns i = 0) (hi : isIn ps i = true) : (gs ns i).size = 0 := by
 unfold ja at h
 rw [if_pos hi] at h
 split at h
 ·assumption
 ·cases h
theorem PD {ps : List Int} {ns : List ByteArray} {i : Nat} (h : ja ps ns i = 0) (hi : isIn ps i = false) : aZ (gs ns i).data.toList = true ∧ dI ns i = false := by
 unfold ja at h
 rw [hi, if_neg (by simp)] at h
 split at h
 ·rename_i h1
  refine ⟨h1, ?_⟩
  cases hs : dI ns i with
  | false => rfl
  | true => rw [hs] at h; cases h
 ·cases h
theorem wK {t : ax} (h : az t = 0) : di (dU t) := by
 obtain ⟨hp, hl, hn, hok, he⟩ := aH h
 have hwf := (cK h).wf
 refine ⟨fun s hs hk => ?_, fun s hs hk => ?_, ?_⟩
 ·rw [pH h] at hs
  obtain ⟨j, hj, rfl⟩ := List.mem_map.1 hs
  have hjn := fG h hj
  rw [nJ hwf hjn] at hk
  rw [nI hwf hjn]
  have : isIn t.ps j = true := (kY hok j).1 (fun e => hk (by rw [gJ, e]; rfl))
  exact Ik (he j hjn) this
 ·rw [pH h] at hs
  obtain ⟨j, hj, rfl⟩ := List.mem_map.1 hs
  have hjn := fG h hj
  rw [nJ hwf hjn] at hk
  rw [nI hwf hjn]
  have : isIn t.ps j = false := by
   cases hb : isIn t.ps j with
   | false => rfl
   | true => exact absurd (List.map_eq_nil_iff.1 hk) ((kY hok j).2 hb)
  exact (PD (he j hjn) this).1
 ·unfold bu
  rw [Lp h, List.filter_map]
  have fk := iy (cK h) (R := t.ps.length) (fun i _ => vh t i) hp (Nat.le_refl _)
  refine List.pairwise_map.2 (List.Pairwise.imp_of_mem ?_ (List.Pairwise.filter _ fk))
  intro a b ha hb hne e
  have ha' := List.mem_filter.1 ha
  have hb' := List.mem_filter.1 hb
  have Pw := fG h ha'.1
  have PE := fG h hb'.1
  have leaf : ∀ i, i < t.ps.length → (gs t.ns i).size ≠ 0 → (dy t).kids i = [] := fun i hi hs => by
   rw [gJ]
   cases hk : aQ t.ps i with
   | nil => rfl
   | cons x l => exact absurd (Ik (he i hi) ((kY hok i).1 (by rw [hk]; simp))) hs
  exact hne ((cK h).names a b Pw PE (leaf a Pw (by simpa using ha'.2)) (leaf b PE (by simpa using hb'.2)) e)
end
section
section
variable {F G : aP} {n : Nat} {rk : Nat → Nat}
theorem eL (h : Wf F n rk) {i : Nat} (hi : i < n) (h0 : rk i ≤ 0) : F.kids i = [] := by
 cases hk : F.kids i with
 | nil => rfl
 | cons k l => have := (h.kid i hi k (by rw [hk]; simp)).2; omega
theorem dV (h : Wf F n rk) : ∀ {d i j z : Nat}, i < n → rk i ≤ d → aM F rk i j = true → aM F rk j z = true → aM F rk i z = true := by
 intro d
 induction d with
 | zero =>
  intro i j z hi hd h1 h2
  rw [fh h hi, eL h hi hd] at h1
  have : j = i := by simpa using h1
  subst this; exact h2
 | succ d ih =>
  intro i j z hi hd h1 h2
  rcases fE h hi h1 with e | ⟨k, hk, h3⟩
  ·subst e; exact h2
  ·have hkk := h.kid i hi k hk
   exact bz h hi hk (ih hkk.1 (by omega) h3 h2)
theorem pI (hF : Wf F n rk) (hG : Wf G n rk) : ∀ {d c : Nat}, c < n → rk c ≤ d → (∀ z, aM F rk c z = true → G.kids z = F.kids z) → ∀ z, aM G rk c z = aM F rk c z := by
 intro d
 induction d with
 | zero =>
  intro c hc hd hz z
  rw [fh hF hc, fh hG hc, eL hF hc hd, eL hG hc hd]; rfl
 | succ d ih =>
  intro c hc hd hz z
  rw [fh hF hc, fh hG hc, hz c (aN hF hc)]
  congr 1
  rw [Bool.eq_iff_iff, List.any_eq_true, List.any_eq_true]
  have key : ∀ k ∈ F.kids c, aM G rk k z = aM F rk k z := fun k hk => by
   have hkk := hF.kid c hc k hk
   exact ih hkk.1 (by omega) (fun y hy => hz y (bz hF hc hk hy)) z
  constructor
  ·rintro ⟨k, hk, e⟩; exact ⟨k, hk, by rw [← key k hk]; exact e⟩
  ·rintro ⟨k, hk, e⟩; exact ⟨k, hk, by rw [key k hk]; exact e⟩
def crD (F : aP) : Nat → Nat → Nat
 | 0, i => i
 | d + 1, i => match F.kids i with | [k] => crD F d k | _ => i
def cr (F : aP) (rk : Nat → Nat) (i : Nat) : Nat := crD F (rk i) i
theorem Il (h : Wf F n rk) : ∀ {d e i : Nat}, i < n → rk i ≤ d → rk i ≤ e → crD F d i = crD F e i := by
 intro d
 induction d with
 | zero =>
  intro e i hi hd he
  cases e with
  | zero => rfl
  | succ e => simp [crD, eL h hi hd]
 | succ d ih =>
  intro e i hi hd he
  cases e with
  | zero => simp [crD, eL h hi he]
  | succ e =>
   simp only [crD]
   split
   ·rename_i k hk
    have := h.kid i hi k (by rw [hk]; simp)
    exact ih this.1 (by omega) (by omega)
   ·rfl
theorem UH (h : Wf F n rk) {i : Nat} (hi : i < n) : cr F rk i = match F.kids i with | [k] => cr F rk k | _ => i := by
 have h1 : cr F rk i = crD F (rk i + 1) i := Il h hi (Nat.le_refl _) (Nat.le_succ _)
 rw [h1]
 simp only [crD]
 split
 ·rename_i k hk
  have := h.kid i hi k (by rw [hk]; simp)
  exact Il h this.1 (by omega) (Nat.le_refl _)
 ·rfl
theorem vq (h : Wf F n rk) {i k : Nat} (hi : i < n) (hk : F.kids i = [k]) : cr F rk i = cr F rk k := by rw [UH h hi, hk]
theorem kH (h : Wf F n rk) {i : Nat} (hi : i < n) (hk : (F.kids i).length ≠ 1) : cr F rk i = i := by
 rw [UH h hi]
 split
 ·rename_i k e; rw [e] at hk; simp at hk
 ·rfl
theorem zl (h : Wf F n rk) : ∀ {d i : Nat}, i < n → rk i ≤ d → cr F rk i < n ∧ rk (cr F rk i) ≤ rk i ∧ aM F rk i (cr F rk i) = true ∧ (F.kids (cr F rk i)).length ≠ 1 := by
 intro d
 induction d with
 | zero =>
  intro i hi hd
  rw [kH h hi (by rw [eL h hi hd]; simp)]
  exact ⟨hi, Nat.le_refl _, aN h hi, by rw [eL h hi hd]; simp⟩
 | succ d ih =>
  intro i hi hd
  by_cases h1 : (F.kids i).length = 1
  ·obtain ⟨k, hk⟩ := List.length_eq_one_iff.1 h1
   have hkk := h.kid i hi k (by rw [hk]; simp)
   obtain ⟨a, b, c, e⟩ := ih hkk.1 (by omega)
   rw [vq h hi hk]
   exact ⟨a, by omega, bz h hi (by rw [hk]; simp) c, e⟩
  ·rw [kH h hi h1]
   exact ⟨hi, Nat.le_refl _, aN h hi, h1⟩
theorem Lr (hF : Wf F n rk) (hG : Wf G n rk) : ∀ {d c : Nat}, c < n → rk c ≤ d → (∀ z, aM F rk c z = true → G.kids z = F.kids z) → cr G rk c = cr F rk c := by
 intro d
 induction d with
 | zero =>
  intro c hc hd hz
  rw [kH hF hc (by rw [eL hF hc hd]; simp), kH hG hc (by rw [eL hG hc hd]; simp)]
 | succ d ih =>
  intro c hc hd hz
  have h0 := hz c (aN hF hc)
  by_cases h1 : (F.kids c).length = 1
  ·obtain ⟨k, hk⟩ := List.length_eq_one_iff.1 h1
   have hkk := hF.kid c hc k (by rw [hk]; simp)
   rw [vq hF hc hk, vq hG hc (by rw [h0, hk])]
   exact ih hkk.1 (by omega) fun y hy => hz y (bz hF hc (by rw [hk]; simp) hy)
  ·rw [kH hF hc h1, kH hG hc (by rw [h0]; exact h1)]
def Cf (F : aP) (P : Nat → Bool) : Nat → Nat → Bool
 | 0, i => P i
 | d + 1, i => if F.kids i = [] then P i else (F.kids i).any (Cf F P d)
def al (F : aP) (P : Nat → Bool) (rk : Nat → Nat) (i : Nat) : Bool := Cf F P (rk i) i
theorem any_congr {α : Type} {f g : α → Bool} : ∀ {l : List α}, (∀ k ∈ l, f k = g k) → l.any f = l.any g
 | [], _ => rfl
 | a :: l, h => by rw [List.any_cons, List.any_cons, h a (by simp), any_congr fun k hk => h k (by simp [hk])]
theorem Im {P : Nat → Bool} (h : Wf F n rk) : ∀ {d e i : Nat}, i < n → rk i ≤ d → rk i ≤ e → Cf F P d i = Cf F P e i := by
 intro d
 induction d with
 | zero =>
  intro e i hi hd he
  cases e with
  | zero => rfl
  | succ e => simp [Cf, eL h hi hd]
 | succ d ih =>
  intro e i hi hd he
  cases e with
  | zero => simp [Cf, eL h hi he]
  | succ e =>
   simp only [Cf]
   split
   ·rfl
   ·exact any_congr fun k hk => by
     have := h.kid i hi k hk
     exact ih this.1 (by omega) (by omega)
theorem jx {P : Nat → Bool} (h : Wf F n rk) {i : Nat} (hi : i < n) : al F P rk i = if F.kids i = [] then P i else (F.kids i).any (al F P rk) := by
 have h1 : al F P rk i = Cf F P (rk i + 1) i := Im h hi (Nat.le_refl _) (Nat.le_succ _)
 rw [h1]
 simp only [Cf]
 split
 ·rfl
 ·exact any_congr fun k hk => by
   have := h.kid i hi k hk
   exact Im h this.1 (by omega) (Nat.le_refl _)
theorem Ls {P : Nat → Bool} (hF : Wf F n rk) (hG : Wf G n rk) : ∀ {d c : Nat}, c < n → rk c ≤ d → (∀ z, aM F rk c z = true → G.kids z = F.kids z) → al G P rk c = al F P rk c := by
 intro d
 induction d with
 | zero =>
  intro c hc hd hz
  rw [jx hF hc, jx hG hc, eL hF hc hd, eL hG hc hd]; rfl
 | succ d ih =>
  intro c hc hd hz
  rw [jx hF hc, jx hG hc, hz c (aN hF hc)]
  split
  ·rfl
  ·exact any_congr fun k hk => by
    have hkk := hF.kid c hc k hk
    exact ih hkk.1 (by omega) fun y hy => hz y (bz hF hc hk hy)
def oh (F : aP) (n : Nat) (rk : Nat → Nat) (i : Nat) : Prop :=
 ∀ z, z < n → aM F rk i z = true → (F.kids z).Nodup ∧ ∀ x ∈ F.kids z, ∀ y ∈ F.kids z, ∀ j, aM F rk x j = true → aM F rk y j = true → x = y
theorem oh.kid (h : Wf F n rk) {i k : Nat} (hi : i < n) (hk : k ∈ F.kids i) (hD : oh F n rk i) : oh F n rk k := fun z hz hs => hD z hz (bz h hi hk hs)
theorem oh.Zb (hF : Wf F n rk) (hG : Wf G n rk) {c : Nat} (hc : c < n) (hz : ∀ z, aM F rk c z = true → G.kids z = F.kids z) (hD : oh F n rk c) : oh G n rk c := fun z dP hs => by
 have hs : aM F rk c z = true := by rw [← pI hF hG hc (Nat.le_refl _) hz]; exact hs
 obtain ⟨h1, h2⟩ := hD z dP hs
 rw [hz z hs]
 refine ⟨h1, fun x hx y hy j a b => h2 x hx y hy j ?_ ?_⟩
 ·rw [← pI hF hG (hF.kid z dP x hx).1 (Nat.le_refl _) fun u hu => hz u (dV hF hc (Nat.le_refl _) hs (bz hF dP hx hu))]; exact a
 ·rw [← pI hF hG (hF.kid z dP y hy).1 (Nat.le_refl _) fun u hu => hz u (dV hF hc (Nat.le_refl _) hs (bz hF dP hy hu))]; exact b
theorem oK.dis (h : oK F n rk) {R : Nat} (hR : ∀ i, i < n → rk i ≤ R) (i : Nat) : oh F n rk i := fun z hz _ =>
 ⟨h.nodup z hz, fun _ hx _ hy _ a b => wF h hR hz hx hy a b⟩
def aP.sub (F : aP) (rk : Nat → Nat) (q : Nat → List Nat) (i : Nat) : aP := ⟨F.nm, F.old, fun z => if aM F rk i z then q z else F.kids z⟩
def aP.upto (F : aP) (rk : Nat → Nat) (q : Nat → List Nat) (L : List Nat) (k : Nat) : aP := ⟨F.nm, F.old, fun z => if (L.take k).any (fun c => aM F rk c z) then q z else F.kids z⟩
theorem EX (q : Nat → List Nat) (L : List Nat) (z : Nat) : (F.upto rk q L 0).kids z = F.kids z := by simp [aP.upto]
theorem rF (h : Wf F n rk) {q : Nat → List Nat} {y k c : Nat} (hy : y < n) (hD : oh F n rk y) (hc : (F.kids y)[k]? = some c) : ∀ z, aM F rk c z = true → (F.upto rk q (F.kids y) k).kids z = F.kids z := fun z hs => by
 show (if _ then _ else _) = _
 rw [if_neg]
 intro e
 obtain ⟨b, hb, e⟩ := List.any_eq_true.1 e
 obtain ⟨h1, h2⟩ := hD y hy (aN h hy)
 obtain ⟨j, hj, ej⟩ := List.getElem_of_mem hb
 rw [List.getElem_take] at ej
 have hjk : j < k := by rw [List.length_take] at hj; omega
 obtain ⟨dY, ek⟩ := List.getElem?_eq_some_iff.1 hc
 have := h2 b (List.mem_of_mem_take hb) c (by rw [← ek]; exact List.getElem_mem dY) z e hs
 rw [← ej, ← ek] at this
 have := (List.getElem_inj h1).1 this
 omega
theorem EY {q : Nat → List Nat} {L : List Nat} {k c : Nat} (hc : L[k]? = some c) (z : Nat) : (F.upto rk q L (k + 1)).kids z = if aM F rk c z then q z else (F.upto rk q L k).kids z := by
 show (if _ then _ else _) = if _ then _ else (if _ then _ else _)
 rw [List.take_add_one, hc, List.any_append]
 simp only [Option.toList, List.any_cons, List.any_nil, Bool.or_false]
 cases (L.take k).any (fun c => aM F rk c z) <;> cases aM F rk c z <;> rfl
theorem Sy (h : Wf F n rk) {q : Nat → List Nat} {y : Nat} (hy : y < n) (k : Nat) : (F.upto rk q (F.kids y) k).kids y = F.kids y := by
 show (if _ then _ else _) = _
 rw [if_neg]
 intro e
 obtain ⟨b, hb, e⟩ := List.any_eq_true.1 e
 rw [o9 h hy (List.mem_of_mem_take hb)] at e; cases e
theorem Io (h : Wf F n rk) {q : Nat → List Nat} {y z : Nat} (hy : y < n) (hz : z ≠ y) : (F.upto rk q (F.kids y) (F.kids y).length).kids z = (F.sub rk q y).kids z := by
 show (if _ then _ else _) = if _ then _ else _
 rw [List.take_length, fh h hy, show (z == y) = false from beq_eq_false_iff_ne.2 hz, Bool.false_or]
end
end
end Go.Proofs.YteegefnjnikngaaGreat
