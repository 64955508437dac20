/- Rose trees: all parts of one; when its numbering is a valid tree. Two lists that grow in .. -/
import Derived.Test.YteegefnjnikngaaGreatQ1
import Derived.Test.YteegefnjnikngaaGreatQ17
import Derived.Test.YteegefnjnikngaaGreatQ10
import Derived.Test.YteegefnjnikngaaGreatQ14
import Derived.Test.YteegefnjnikngaaGreatQ7
set_option maxRecDepth 100000
namespace Go.Proofs.YteegefnjnikngaaGreat
section
mutual
def subR : RT → List RT
 | .node nm ks => .node nm ks :: subRs ks
def subRs : List RT → List RT
 | [] => []
 | r :: rs => subR r ++ subRs rs
end
mutual
theorem iC : ∀ r : RT, (subR r).length = aG r
 | .node _ ks => by rw [subR, aG, List.length_cons, A4 ks]; omega
theorem A4 : ∀ rs : List RT, (subRs rs).length = sizeRs rs
 | [] => rfl
 | r :: rs => by rw [subRs, sizeRs, List.length_append, iC r, A4 rs]
end
mutual
theorem kN : ∀ r : RT, b7 r = (subR r).map RT.nm
 | .node nm ks => by rw [subR, b7, List.map_cons, Dy ks]; rfl
theorem Dy : ∀ rs : List RT, cu rs = (subRs rs).map RT.nm
 | [] => rfl
 | r :: rs => by rw [subRs, cu, List.map_append, kN r, Dy rs]
end
theorem lD (rs : List RT) : subRs rs = rs.flatMap subR := by
 induction rs with
 | nil => rfl
 | cons r rs ih => rw [subRs, List.flatMap_cons, ih]
def AtR (t : av) (r : RT) (n : Nat) (p : Int) : Prop := ∃ pre post, t.ps = pre ++ (psR r n p ++ post) ∧ pre.length = n ∧ p < n ∧ (∀ x ∈ pre, x < (n : Int)) ∧ (∀ x ∈ post, x < (n : Int) ∨ ((n + aG r : Nat) : Int) ≤ x)
def Dz (t : av) (rs : List RT) (own m : Nat) : Prop := ∃ pre post, t.ps = pre ++ (psRs rs own m ++ post) ∧ pre.length = m ∧ own < m ∧ (∀ x ∈ pre, x < (m : Int)) ∧ (∀ x ∈ post, x < (own : Int) ∨ ((m + sizeRs rs : Nat) : Int) ≤ x)
theorem AtR.kids {t : av} {nm : ByteArray} {ks : List RT} {n : Nat} {p : Int} (h : AtR t (.node nm ks) n p) : bX t.ps n = hdR ks (n + 1) ∧ Dz t ks n (n + 1) := by
 obtain ⟨pre, post, hps, hpl, hp, hpre, hpost⟩ := h
 rw [aG] at hpost
 rw [psR, List.cons_append] at hps
 constructor
 ·rw [Dw]
  ·rw [hps, oU, nZ n pre 0 (fun x hx e => by have := hpre x hx; omega), List.nil_append, kf, if_neg (by omega), oU, hpl, Nat.zero_add, zM n ks (n + 1) (by omega), mh]
   rw [nZ n post _ (fun x hx e => by rcases hpost x hx with h1 | h1 <;> omega), List.append_nil]
  ·intro i hi e
   rw [hps] at e
   rcases Nat.lt_trichotomy i n with h1 | h1 | h1
   ·rw [xJ _ (by omega)] at e
    have := hpre _ (tX (l := pre) (k := i) (by omega)); omega
   ·subst h1
    have h2 := xI pre (p :: (psRs ks i (i + 1) ++ post)) 0
    rw [hpl] at h2
    have h2 : gi (pre ++ p :: (psRs ks i (i + 1) ++ post)) i = p := h2
    rw [h2] at e
    omega
   ·exact h1
 ·refine ⟨pre ++ [p], post, by rw [hps, List.append_assoc]; rfl, by simp [hpl], by omega, fun x hx => ?_, fun x hx => ?_⟩
  ·rcases List.mem_append.1 hx with hx | hx
   ·have := hpre x hx; omega
   ·have : x = p := by simpa using hx
    omega
  ·rcases hpost x hx with h3 | h3
   ·exact .inl h3
   ·exact .inr (by omega)
theorem Dz.cons {t : av} {r : RT} {rs : List RT} {own m : Nat} (h : Dz t (r :: rs) own m) : AtR t r m own ∧ Dz t rs own (m + aG r) := by
 obtain ⟨pre, post, hps, hpl, hm, hpre, hpost⟩ := h
 rw [sizeRs] at hpost
 rw [psRs, List.append_assoc] at hps
 constructor
 ·refine ⟨pre, _, hps, hpl, by omega, hpre, fun x hx => ?_⟩
  rcases List.mem_append.1 hx with hx | hx
  ·rcases rF rs own (m + aG r) x hx with h2 | ⟨h2, _⟩
   ·exact .inl (by omega)
   ·exact .inr h2
  ·rcases hpost x hx with h2 | h2
   ·exact .inl (by omega)
   ·exact .inr (by omega)
 ·refine ⟨pre ++ psR r m own, post, by rw [hps, List.append_assoc], by rw [List.length_append, jA, hpl], by omega, fun x hx => ?_, fun x hx => ?_⟩
  ·rcases List.mem_append.1 hx with hx | hx
   ·have := hpre x hx; omega
   ·rcases Dx r m own x hx with h3 | ⟨_, h3⟩ <;> omega
  ·rcases hpost x hx with h3 | h3
   ·exact .inl h3
   ·exact .inr (by omega)
mutual
theorem Gs {t : av} : ∀ (r : RT) (n : Nat) (p : Int), AtR t r n p → ∀ (i : Nat) (s : RT), (subR r)[i]? = some s → bX t.ps (n + i) = hdR s.kids (n + i + 1)
 | .node nm ks, n, p, h, i, s, hs => by
  rw [subR] at hs
  cases i with
  | zero =>
   have e : RT.node nm ks = s := by simpa using hs
   subst e
   exact h.kids.1
  | succ i =>
   rw [List.getElem?_cons_succ] at hs
   have := DA ks n (n + 1) h.kids.2 i s hs
   rw [show n + (i + 1) = n + 1 + i by omega]; exact this
theorem DA {t : av} : ∀ (rs : List RT) (own m : Nat), Dz t rs own m → ∀ (i : Nat) (s : RT), (subRs rs)[i]? = some s → bX t.ps (m + i) = hdR s.kids (m + i + 1)
 | [], _, _, _, i, s, hs => by simp [subRs] at hs
 | r :: rs, own, m, h, i, s, hs => by
  rw [subRs] at hs
  by_cases hi : i < aG r
  ·rw [List.getElem?_append_left (by rw [iC]; exact hi)] at hs
   exact Gs r m own h.cons.1 i s hs
  ·rw [List.getElem?_append_right (by rw [iC]; omega), iC] at hs
   have := DA rs own (m + aG r) h.cons.2 (i - aG r) s hs
   rw [show m + aG r + (i - aG r) = m + i by omega] at this; exact this
end
theorem AtR.flat (r : RT) : AtR (flat r) r 0 (-1) := ⟨[], [], by simp [YteegefnjnikngaaGreat.flat], rfl, by omega, fun x hx => by simp at hx, fun x hx => by simp at hx⟩
theorem KH {r : RT} {i : Nat} {s : RT} (h : (subR r)[i]? = some s) : bX (flat r).ps i = hdR s.kids (i + 1) := by
 have := Gs r 0 (-1) (AtR.flat r) i s h
 simpa using this
mutual
theorem KI : ∀ (r : RT) (n : Nat) (p : Int) (j : Nat), 0 < j → j < aG r → (n : Int) ≤ gi (psR r n p) j ∧ gi (psR r n p) j < ((n + j : Nat) : Int)
 | .node nm ks, n, p, j, h0, hj => by
  rw [aG] at hj
  obtain ⟨k, rfl⟩ : ∃ k, j = k + 1 := ⟨j - 1, by omega⟩
  have h := Gt ks n (n + 1) k (by omega) (by omega)
  have e : gi (psR (.node nm ks) n p) (k + 1) = gi (psRs ks n (n + 1)) k := by rw [psR]; simp [gi]
  rw [e]
  exact ⟨h.1, by have := h.2; omega⟩
theorem Gt : ∀ (rs : List RT) (own n j : Nat), own < n → j < sizeRs rs → (own : Int) ≤ gi (psRs rs own n) j ∧ gi (psRs rs own n) j < ((n + j : Nat) : Int)
 | [], _, _, _, _, h => by simp [sizeRs] at h
 | r :: rs, own, n, j, ho, hj => by
  rw [sizeRs] at hj
  rw [psRs]
  by_cases hr : j < aG r
  ·rw [xJ _ (by rw [jA]; exact hr)]
   by_cases h0 : j = 0
   ·subst h0
    obtain ⟨nm, ks⟩ := r
    have e : gi (psR (.node nm ks) n own) 0 = own := by rw [psR]; simp [gi]
    rw [e]; exact ⟨by omega, by omega⟩
   ·have h := KI r n own j (by omega) hr
    exact ⟨by omega, h.2⟩
  ·have h := Gt rs own (n + aG r) (j - aG r) (by omega) (by omega)
   have e := xI (psR r n own) (psRs rs own (n + aG r)) (j - aG r)
   rw [jA, show aG r + (j - aG r) = j by omega] at e
   rw [e]
   exact ⟨h.1, by have := h.2; omega⟩
end
theorem DB (r : RT) : gN (flat r).ps = true := by
 refine xe fun j hj => ?_
 rw [kM] at hj
 show ig j (gi (psR r 0 (-1)) j) = true
 unfold ig
 by_cases h0 : j = 0
 ·subst h0
  obtain ⟨nm, ks⟩ := r
  rw [if_pos rfl, psR]; rfl
 ·rw [if_neg h0]
  have h := KI r 0 (-1) j (by omega) hj
  have h1 : 0 ≤ gi (psR r 0 (-1)) j := by have := h.1; omega
  have h2 : gi (psR r 0 (-1)) j < (j : Int) := by have := h.2; omega
  simp [h1, h2]
def ey (r : RT) : List ByteArray := (b7 r).filter fun s => decide (s.size ≠ 0)
structure ja (r : RT) : Prop where
 A5 : ∀ s ∈ subR r, s.kids ≠ [] → s.nm.size = 0
 lf : ∀ s ∈ subR r, s.kids = [] → aP s.nm.data.toList = true
 nd : (ey r).Nodup
theorem sA {s : ByteArray} (h : aP s.data.toList = true) : s.size ≠ 0 := by
 intro e
 have : s.data.toList = [] := by
  apply List.eq_nil_of_length_eq_zero
  simpa using e
 rw [this] at h
 revert h; decide
theorem uE {r : RT} (h : ja r) (hs : aG r ≤ 64) : aB (flat r) = 0 := by
 unfold aB
 rw [kM, oa, if_neg (by have := jl r; omega), if_neg (by omega), if_neg (by simp), if_pos (DB r)]
 refine di fun i hi => ?_
 have hi2 : i < (subR r).length := by rw [iC]; exact hi
 obtain ⟨s, hsi⟩ : ∃ s, (subR r)[i]? = some s := ⟨_, List.getElem?_eq_getElem hi2⟩
 have hmem : s ∈ subR r := List.mem_of_getElem? hsi
 have hk := KH hsi
 have hnm : gs (flat r).ns i = s.nm := by
  show gs (b7 r) i = _
  rw [kN]; simp [gs, hsi]
 have hin := kE (DB r) i
 unfold gq
 rw [hnm]
 by_cases hks : s.kids = []
 ·have h1 : isIn (flat r).ps i = false := by
   cases hb : isIn (flat r).ps i with
   | false => rfl
   | true => exact absurd (by rw [hk, hks]; rfl) (hin.2 hb)
  rw [h1, if_neg (by simp), if_pos (h.lf s hmem hks)]
  have h2 : cE (flat r).ns i = false := by
   rw [Bool.eq_false_iff]; intro e
   obtain ⟨j, hj, e⟩ := List.any_eq_true.1 e
   have hj : j < i := List.mem_range.1 hj
   have e : gs (b7 r) j = gs (b7 r) i := of_decide_eq_true e
   have hpw := List.pairwise_filter.1 h.nd
   have jK := vC r
   have h3 := List.pairwise_iff_getElem.1 hpw j i (by omega) (by omega) hj
   have hgj : gs (b7 r) j = (b7 r)[j]'(by omega) := by simp [gs, show j < (b7 r).length by omega]
   have hgi : gs (b7 r) i = (b7 r)[i]'(by omega) := by simp [gs, show i < (b7 r).length by omega]
   rw [← hgj, ← hgi, e] at h3
   have h4 : gs (b7 r) i = s.nm := hnm
   have h5 := sA (h.lf s hmem hks)
   rw [h4] at h3
   exact h3 (by simpa using h5) (by simpa using h5) rfl
  rw [h2]; rfl
 ·have h1 : isIn (flat r).ps i = true := hin.1 (by
   rw [hk]
   cases hq : s.kids with
   | nil => exact absurd hq hks
   | cons a l => simp [hdR])
  rw [h1, if_pos rfl, if_pos (h.A5 s hmem hks)]
end
section
open Go.RowKit Go.Deep
theorem Tryz.gy : (Tryz.prog.info? 9).map (fun i => (i.zero, i.size, i.bytes)) = some (some (.string ⟨#[]⟩), 1, 16) := by kernel_rfl
structure GK (tb : Nat) (w W : World) (P N P' N' : Value) : Prop where
 os : W.os = w.os
 tape : W.tape = w.tape
 output : W.output = w.output
 size : w.heap.size ≤ W.heap.size
 block : ∀ b, b < w.heap.size → b ≠ tb → some b ≠ P.ownBlock → some b ≠ N.ownBlock → W.heap[b]? = w.heap[b]?
 mj : ∀ b, P'.ownBlock = some b → P.ownBlock = some b ∨ w.heap.size ≤ b
 mm : ∀ b, N'.ownBlock = some b → N.ownBlock = some b ∨ w.heap.size ≤ b
theorem GK.refl (tb : Nat) (w : World) (P N : Value) : GK tb w w P N P N := ⟨rfl, rfl, rfl, Nat.le_refl _, fun _ _ _ _ _ => rfl, fun _ h => .inl h, fun _ h => .inl h⟩
theorem GK.trans {tb : Nat} {w W X : World} {P N P' N' P2 N2 : Value} (h : GK tb w W P N P' N') (k : GK tb W X P' N' P2 N2) : GK tb w X P N P2 N2 :=
 ⟨k.os.trans h.os, k.tape.trans h.tape, k.output.trans h.output, Nat.le_trans h.size k.size, fun b hb h1 h2 h3 => by
  rw [← h.block b hb h1 h2 h3]
  refine k.block b (Nat.lt_of_lt_of_le hb h.size) h1 (fun e => ?_) (fun e => ?_)
  ·rcases h.mj b e.symm with h4 | h4
   ·exact h2 h4.symm
   ·omega
  ·rcases h.mm b e.symm with h4 | h4
   ·exact h3 h4.symm
   ·omega,
  fun b hb => by
   rcases k.mj b hb with h4 | h4
   ·exact h.mj b h4
   ·exact .inr (Nat.le_trans h.size h4),
  fun b hb => by
   rcases k.mm b hb with h4 | h4
   ·exact h.mm b h4
   ·exact .inr (Nat.le_trans h.size h4)⟩
theorem GK.up {tb : Nat} {w W X : World} {P N P' N' : Value} (h : GK tb w W P N P' N') (k : Up W X) : GK tb w X P N P' N' :=
 ⟨k.os.trans h.os, k.tape.trans h.tape, k.output.trans h.output, Nat.le_trans h.size k.size, fun b hb h1 h2 h3 => (Below.block k b (Nat.lt_of_lt_of_le hb h.size)).trans (h.block b hb h1 h2 h3), h.mj, h.mm⟩
structure TL (B0 : Nat) (W : World) (P N : Value) (ps : List Int) (ns : List ByteArray) : Prop where
 cg : az B0 3 W P (ps.map (Value.int .i64))
 cG : az B0 9 W N (ns.map Value.string)
 apart : ∀ b, P.ownBlock = some b → N.ownBlock ≠ some b
theorem az.eV {base : Nat} {e : TypeId} {w w' : World} {v : Value} {vs : List Value} (h : az base e w v vs) (k : ∀ b, v.ownBlock = some b → w'.heap[b]? = w.heap[b]?) : az base e w' v vs := by
 refine ⟨h.1, ?_⟩
 rcases h.2 with h0 | ⟨g, cap, cur, rfl, hg, hc, hr⟩
 ·exact .inl h0
 ·exact .inr ⟨g, cap, cur, rfl, hg, (k g rfl).trans hc, hr⟩
structure RS (tb B0 : Nat) (w W : World) (P N Pv Nv : Value) (ps : List Int) (ns : List ByteArray) : Prop where
 gk : GK tb w W P N Pv Nv
 tl : TL B0 W Pv Nv ps ns
 same : W.heap[tb]? = w.heap[tb]?
 lo : tb < B0 ∧ B0 ≤ w.heap.size
section
variable {tb B0 : Nat} {w W W' : World} {P N Pv Nv : Value} {ps : List Int} {ns : List ByteArray}
theorem TL.up (h : TL B0 W Pv Nv ps ns) (hu : Up W W') : TL B0 W' Pv Nv ps ns :=
 ⟨h.cg.eV fun b hb => Below.block hu b (aD h.cg hb).2, h.cG.eV fun b hb => Below.block hu b (aD h.cG hb).2, h.apart⟩
end
def av.push (t : av) (p : Int) (s : ByteArray) : av := ⟨t.ps ++ [p], t.ns ++ [s]⟩
end
section
open Go.RowKit Go.Shelf Go.Deep
end
section
open Go.RowKit Go.Deep
section
variable {P : Program} {ops : Array Oper} {rest : List Oper} {o : Oper} {a : Act} {Q : Exit → Act → World → Prop}
end
end
section
theorem A6 (a : RT) : ∀ l, (insR a l).Perm (a :: l)
 | [] => List.Perm.refl _
 | b :: l => by
  rw [insR]
  split
  ·exact List.Perm.refl _
  ·exact ((A6 a l).cons b).trans (List.Perm.swap a b l)
theorem jW : ∀ l : List RT, (cM l).Perm (l.map sortR)
 | [] => List.Perm.refl _
 | r :: rs => by
  rw [cM, List.map_cons]
  exact (A6 _ _).trans ((jW rs).cons _)
theorem nR (r : RT) : (sortR r).kids = cM r.kids := by cases r; rfl
theorem oV (r : RT) : (sortR r).nm = r.nm := by cases r; rfl
theorem lF {l : List RT} : cM l = [] ↔ l = [] := by
 constructor
 ·intro h
  have := (jW l).length_eq
  rw [h, List.length_map] at this
  exact List.eq_nil_of_length_eq_zero this.symm
 ·rintro rfl; rfl
theorem Iw {l l' : List RT} (h : l.Perm l') : (subRs l).Perm (subRs l') := by
 rw [lD, lD]
 exact h.flatMap_right _
mutual
theorem jm : ∀ r : RT, (subR (sortR r)).Perm ((subR r).map sortR)
 | .node nm ks => by
  rw [sortR, subR, subR, List.map_cons]
  refine List.Perm.cons _ ?_
  exact (Iw (jW ks)).trans (yG ks)
theorem yG : ∀ rs : List RT, (subRs (rs.map sortR)).Perm ((subRs rs).map sortR)
 | [] => List.Perm.refl _
 | r :: rs => by
  rw [List.map_cons, subRs, subRs, List.map_append]
  exact (jm r).append (yG rs)
end
theorem Iy (r : RT) : aG (sortR r) = aG r := by
 have := (jm r).length_eq
 rw [List.length_map, iC, iC] at this; exact this
theorem Nl (r : RT) : (b7 (sortR r)).Perm (b7 r) := by
 rw [kN, kN]
 refine ((jm r).map RT.nm).trans ?_
 rw [List.map_map]
 have : (RT.nm ∘ sortR) = RT.nm := funext oV
 rw [this]
theorem nS (r : RT) : (ey (sortR r)).Perm (ey r) := (Nl r).filter _
theorem ja.sort {r : RT} (h : ja r) : ja (sortR r) := by
 refine ⟨fun s hs hk => ?_, fun s hs hk => ?_, (nS r).nodup_iff.2 h.nd⟩
 ·obtain ⟨q, hq, rfl⟩ := List.mem_map.1 ((jm r).mem_iff.1 hs)
  rw [nR] at hk
  rw [oV]
  exact h.A5 q hq (fun e => hk (lF.2 e))
 ·obtain ⟨q, hq, rfl⟩ := List.mem_map.1 ((jm r).mem_iff.1 hs)
  rw [nR] at hk
  rw [oV]
  exact h.lf q hq (lF.1 hk)
def sD : List RT → Prop
 | [] => True
 | [_] => True
 | a :: b :: l => bK (firstR a) (firstR b) ≤ 0 ∧ sD (b :: l)
theorem sD.tail {a : RT} {l : List RT} (h : sD (a :: l)) : sD l := by
 cases l with
 | nil => trivial
 | cons b l => exact h.2
theorem KJ (a : RT) (l : List RT) : ∃ c l', insR a l = c :: l' ∧ (c = a ∨ ∃ t, l = c :: t) := by
 cases l with
 | nil => exact ⟨a, [], rfl, .inl rfl⟩
 | cons b l =>
  rw [insR]
  split
  ·exact ⟨a, b :: l, rfl, .inl rfl⟩
  ·exact ⟨b, insR a l, rfl, .inr ⟨l, rfl⟩⟩
theorem DC (a : RT) : ∀ l, sD l → sD (insR a l)
 | [], _ => trivial
 | b :: l, h => by
  rw [insR]
  split
  ·rename_i h1; exact ⟨h1, h⟩
  ·rename_i h1
   have h2 := DC a l h.tail
   obtain ⟨c, l', e, hc⟩ := KJ a l
   rw [e] at h2 ⊢
   refine ⟨?_, h2⟩
   rcases hc with rfl | ⟨t, rfl⟩
   ·have := eZ (firstR c) (firstR b); omega
   ·exact h.1
theorem yH : ∀ l, sD (cM l)
 | [] => trivial
 | r :: rs => by rw [cM]; exact DC _ _ (yH rs)
theorem QZ {a : RT} {l : List RT} (h : sD (a :: l)) : insR a l = a :: l := by
 cases l with
 | nil => rfl
 | cons b l => rw [insR, if_pos h.1]
theorem yI : ∀ l : List RT, sD l → (∀ r ∈ l, sortR r = r) → cM l = l
 | [], _, _ => rfl
 | r :: rs, h, hf => by rw [cM, yI rs h.tail (fun q hq => hf q (by simp [hq])), hf r (by simp)]; exact QZ h
mutual
theorem sF : ∀ r : RT, sortR (sortR r) = sortR r
 | .node nm ks => by
  rw [sortR, sortR]
  congr 1
  refine yI _ (yH ks) (fun q hq => ?_)
  obtain ⟨s, hs, rfl⟩ := List.mem_map.1 ((jW ks).mem_iff.1 hq)
  exact wN ks s hs
theorem wN : ∀ (rs : List RT) (s : RT), s ∈ rs → sortR (sortR s) = sortR s
 | [], _, h => by cases h
 | r :: rs, s, h => by
  by_cases e : s = r
  ·rw [e]; exact sF r
  ·exact wN rs s (by
    rcases List.mem_cons.1 h with h | h
    ·exact absurd h e
    ·exact h)
end
section
variable {F : aL} {n : Nat} {rk : Nat → Nat}
theorem qj (h : Wf F n rk) : ∀ {d i : Nat}, i < n → rk i ≤ d → subR (aM F rk i) = (bz F rk i).map (aM F rk) := by
 intro d
 induction d with
 | zero =>
  intro i hi hd
  have hk : F.kids i = [] := by
   cases hk : F.kids i with
   | nil => rfl
   | cons k l => have := (h.kid i hi k (by rw [hk]; simp)).2; omega
  rw [bI h hi, hk]
  have e : aM F rk i = .node (F.nm i) [] := by rw [cI h hi, hk]; rfl
  rw [e, subR, List.flatMap_nil, List.map_cons, e]; rfl
 | succ d ih =>
  intro i hi hd
  rw [bI h hi, List.map_cons, List.map_flatMap]
  have e := cI h hi
  conv => lhs; rw [e, subR, lD, List.flatMap_map]
  rw [← e]
  congr 1
  refine fk fun k hk => ?_
  have := h.kid i hi k hk
  exact ih this.1 (by omega)
theorem rG (h : Wf F n rk) {i : Nat} (hi : i < n) : (aM F rk i).nm = F.nm i := by rw [cI h hi]; rfl
theorem uG (h : Wf F n rk) {i : Nat} (hi : i < n) : (aM F rk i).kids = (F.kids i).map (aM F rk) := by rw [cI h hi]; rfl
end
theorem fG {t : av} (h : aB t = 0) {j : Nat} (hj : j ∈ bz (eG t) (cB t) 0) : j < t.ps.length :=
 l9 (dh h).wf (aI h).1 (Nat.le_refl _) ((cV (dh h).wf (aI h).1 (Nat.le_refl _)).1 hj)
theorem sG {t : av} (h : aB t = 0) : subR (fZ t) = (bz (eG t) (cB t) 0).map (aM (eG t) (cB t)) := qj (dh h).wf (aI h).1 (Nat.le_refl _)
theorem A7 {t : av} (h : aB t = 0) : aG (fZ t) ≤ 64 := by
 rw [← iC, sG h, List.length_map]
 have h1 := mg (gU (dh h) (R := t.ps.length) (fun i _ => rE t i) (aI h).1 (Nat.le_refl _)) (fun x hx => fG h hx)
 have := (aI h).2.1; omega
theorem Gu {t : av} (h : aB t = 0) : b7 (fZ t) = (bz (eG t) (cB t) 0).map (gs t.ns) := by
 rw [kN, sG h, List.map_map]
 refine List.map_congr_left fun j hj => ?_
 exact rG (dh h).wf (fG h hj)
theorem DD {ps : List Int} {ns : List ByteArray} {i : Nat} (h : gq ps ns i = 0) (hi : isIn ps i = true) : (gs ns i).size = 0 := by
 unfold gq at h
 rw [if_pos hi] at h
 split at h
 ·assumption
 ·cases h
theorem KL {ps : List Int} {ns : List ByteArray} {i : Nat} (h : gq ps ns i = 0) (hi : isIn ps i = false) : aP (gs ns i).data.toList = true ∧ cE ns i = false := by
 unfold gq at h
 rw [hi, if_neg (by simp)] at h
 split at h
 ·rename_i h1
  refine ⟨h1, ?_⟩
  cases hs : cE ns i with
  | false => rfl
  | true => rw [hs] at h; cases h
 ·cases h
theorem DF {t : av} (h : aB t = 0) : ja (fZ t) := by
 obtain ⟨hp, hl, hn, hok, he⟩ := aI h
 have hwf := (dh h).wf
 refine ⟨fun s hs hk => ?_, fun s hs hk => ?_, ?_⟩
 ·rw [sG h] at hs
  obtain ⟨j, hj, rfl⟩ := List.mem_map.1 hs
  have hjn := fG h hj
  rw [uG hwf hjn] at hk
  rw [rG hwf hjn]
  have : isIn t.ps j = true := (kE hok j).1 (fun e => hk (by rw [kz, e]; rfl))
  exact DD (he j hjn) this
 ·rw [sG h] at hs
  obtain ⟨j, hj, rfl⟩ := List.mem_map.1 hs
  have hjn := fG h hj
  rw [uG hwf hjn] at hk
  rw [rG hwf hjn]
  have : isIn t.ps j = false := by
   cases hb : isIn t.ps j with
   | false => rfl
   | true => exact absurd (List.map_eq_nil_iff.1 hk) ((kE hok j).2 hb)
  exact (KL (he j hjn) this).1
 ·unfold ey
  rw [Gu h, List.filter_map]
  have fF := gU (dh h) (R := t.ps.length) (fun i _ => rE t i) hp (Nat.le_refl _)
  refine List.pairwise_map.2 (List.Pairwise.imp_of_mem ?_ (List.Pairwise.filter _ fF))
  intro a b ha hb hne e
  have ha' := List.mem_filter.1 ha
  have hb' := List.mem_filter.1 hb
  have KF := fG h ha'.1
  have DG := fG h hb'.1
  have leaf : ∀ i, i < t.ps.length → (gs t.ns i).size ≠ 0 → (eG t).kids i = [] := fun i hi hs => by
   rw [kz]
   cases hk : bX t.ps i with
   | nil => rfl
   | cons x l => exact absurd (DD (he i hi) ((kE hok i).1 (by rw [hk]; simp))) hs
  exact hne ((dh h).names a b KF DG (leaf a KF (by simpa using ha'.2)) (leaf b DG (by simpa using hb'.2)) e)
end
section
open Go.RowKit Go.Shelf Go.Deep
end
section
open Go.RowKit Go.Deep
end
end Go.Proofs.YteegefnjnikngaaGreat
