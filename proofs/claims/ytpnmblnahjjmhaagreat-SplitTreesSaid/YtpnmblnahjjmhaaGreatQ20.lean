/- Two rose trees without one-child nodes that have the same families of leaves are the same, sorted. The contracts of layer 35's reference's has, common, conflict. What the sets of Consistent hold; at Tree's tree. phylotree.contracted: what it does to the forest. The sets that layer 35's reference makes a tree of, and that tree: plain. The tree that phylotree.made makes: plain. The contract of layer 31's reference's SameTree, at trees that are the same. The example of the chapter: three, awake. The tree that layer 35's reference makes of the sets is, sorted, the program's tree: plain. slices.IndexFunc, slices.DeleteFunc at nodes. The tree of a forest whose rose tree is good: plain. The example of chapter 35: awake. The plain law of SharederrorSupport: the supports of the different sets. The contract of phylotree.contracted. The contract of slices.DeleteFunc at nodes. The forest that pruned leaves: plain. The sets of layer 35's reference are nested, and their tree is the program's: plain. -/
import Derived.Test.YtpnmblnahjjmhaaGreatQ1
import Derived.Test.YtpnmblnahjjmhaaGreatQ19
import Derived.Test.YtpnmblnahjjmhaaGreatQ16
import Derived.Test.YtpnmblnahjjmhaaGreatQ13
import Derived.Test.YtpnmblnahjjmhaaGreatQ9
import Derived.Test.YtpnmblnahjjmhaaGreatQ3
import Derived.Test.YtpnmblnahjjmhaaGreatQ5
import Derived.Lib.SliceRun
import Derived.Test.YtpnmblnahjjmhaaGreatQ11
import Derived.Test.YtpnmblnahjjmhaaGreatQ18
namespace Go.Proofs.YtpnmblnahjjmhaaGreat
set_option maxRecDepth 100000
section
structure jJ (r : RT) : Prop where
 nd : (bH r).Nodup
 pt : ∀ s ∈ subR r, oH s
theorem jJ.good {r : RT} (h : jJ r) : gX r := ⟨fun s hs hk => (h.pt s hs).1 hk, fun s hs hk => (h.pt s hs).2.1 hk, h.nd⟩
theorem jJ.sub {r s : RT} (h : jJ r) (hs : s ∈ subR r) : jJ s := ⟨(cQ hs).nodup h.nd, fun q hq => h.pt q (gK r hs hq)⟩
theorem jJ.first {r : RT} (h : jJ r) : firstR r ∈ bH r := ry r h.good.lf
theorem jO {nm : ByteArray} {ks : List RT} {k : RT} (hk : k ∈ ks) : k ∈ subR (.node nm ks) := by
 rw [subR]; exact List.mem_cons_of_mem _ (yd hk k (cE k))
theorem jJ.Us {nm : ByteArray} {ks : List RT} (h : jJ (.node nm ks)) (h0 : ks ≠ []) : bH (.node nm ks) = ks.flatMap bH :=
 fU ((h.pt _ (cE _)).1 h0)
theorem jJ.apart {nm : ByteArray} {ks : List RT} (h : jJ (.node nm ks)) {i j : Nat} (hi : i < ks.length) (hj : j < ks.length) {x : ByteArray} (h1 : x ∈ bH ks[i]) (h2 : x ∈ bH ks[j]) : i = j := by
 have h0 : ks ≠ [] := fun e => by subst e; simp at hi
 have hn := h.nd
 rw [h.Us h0, List.nodup_iff_pairwise_ne, List.pairwise_flatMap] at hn
 have hp := List.pairwise_iff_getElem.1 hn.2
 rcases Nat.lt_trichotomy i j with c | c | c
 ·exact absurd rfl (hp i j hi hj c x h1 x h2)
 ·exact c
 ·exact absurd rfl (hp j i hj hi c x h2 x h1)
theorem jJ.AD {nm : ByteArray} {ks : List RT} (h : jJ (.node nm ks)) {k k' : RT} (hk : k ∈ ks) (hk' : k' ∈ ks) {x : ByteArray} (h1 : x ∈ bH k) (h2 : x ∈ bH k') : k = k' := by
 obtain ⟨i, hi, rfl⟩ := List.getElem_of_mem hk
 obtain ⟨j, hj, rfl⟩ := List.getElem_of_mem hk'
 have := h.apart hi hj h1 h2
 subst this; rfl
theorem jJ.Ut {nm : ByteArray} {ks : List RT} (h : jJ (.node nm ks)) {k : RT} (hk : k ∈ ks) : ∃ x ∈ bH (.node nm ks), x ∉ bH k := by
 have h0 : ks ≠ [] := fun e => by subst e; simp at hk
 have h1 : ks.length ≠ 1 := (h.pt _ (cE _)).2.2
 have h2 : 2 ≤ ks.length := by
  have := List.length_pos_of_mem hk
  omega
 obtain ⟨i, hi, rfl⟩ := List.getElem_of_mem hk
 obtain ⟨j, hj, hij⟩ : ∃ j, j < ks.length ∧ i ≠ j := by
  by_cases c : i = 0
  ·exact ⟨1, by omega, by omega⟩
  ·exact ⟨0, by omega, c⟩
 have hf := (h.sub (jO (List.getElem_mem hj))).first
 refine ⟨firstR ks[j], ?_, fun q => hij (h.apart hi hj q hf)⟩
 rw [h.Us h0]
 exact List.mem_flatMap.2 ⟨_, List.getElem_mem hj, hf⟩
theorem jJ.two {nm : ByteArray} {ks : List RT} (h : jJ (.node nm ks)) (h0 : ks ≠ []) (y : ByteArray) : ∃ x ∈ bH (.node nm ks), x ≠ y := by
 obtain ⟨k, hk⟩ := List.exists_mem_of_ne_nil _ h0
 obtain ⟨x, hx, hn⟩ := h.Ut hk
 have hf := (h.sub (jO hk)).first
 by_cases c : x = y
 ·subst c
  refine ⟨firstR k, (cQ (jO hk)).subset hf, fun e => hn ?_⟩
  rw [← e]; exact hf
 ·exact ⟨x, hx, c⟩
def rz (r s : RT) : Prop := ∀ x, x ∈ bH r ↔ x ∈ bH s
def rA (r1 r2 : RT) : Prop := ∀ s ∈ subR r1, ∃ u ∈ subR r2, rz s u
theorem R7 {r1 r2 : RT} (h1 : rA r1 r2) (h2 : rA r2 r1) : rz r1 r2 := by
 obtain ⟨u, hu, e⟩ := h1 r1 (cE _)
 obtain ⟨v, hv, f⟩ := h2 r2 (cE _)
 exact fun x => ⟨fun hx => (cQ hu).subset ((e x).1 hx), fun hx => (cQ hv).subset ((f x).1 hx)⟩
theorem sD {u : RT} {ks : List RT} (h : u ∈ subRs ks) : ∃ k ∈ ks, u ∈ subR k := by
 rw [kr] at h
 obtain ⟨k, hk, hu⟩ := List.mem_flatMap.1 h
 exact ⟨k, hk, hu⟩
theorem zb {n1 n2 : ByteArray} {k1 k2 : List RT} (o1 : jJ (.node n1 k1)) (h1 : rA (.node n1 k1) (.node n2 k2)) (hs : rz (.node n1 k1) (.node n2 k2)) {k : RT} (hk : k ∈ k1) {s : RT} (hsk : s ∈ subR k) :
  ∃ q ∈ k2, ∃ u ∈ subR q, rz s u := by
 obtain ⟨u, hu, e⟩ := h1 s (gK _ (jO hk) hsk)
 rw [subR, List.mem_cons] at hu
 rcases hu with rfl | hu
 ·obtain ⟨x, hx, hn⟩ := o1.Ut hk
  exact absurd ((cQ hsk).subset ((e x).2 ((hs x).1 hx))) hn
 ·obtain ⟨q, hq, hu⟩ := sD hu
  exact ⟨q, hq, u, hu, e⟩
theorem R8 {a b : List RT} (h : a.Perm b) : (a.map firstR).Nodup → a.foldr insR [] = b.foldr insR [] := by
 induction h with
 | nil => intro _; rfl
 | cons x _ ih => intro hn; rw [List.foldr_cons, List.foldr_cons, ih (by rw [List.map_cons, List.nodup_cons] at hn; exact hn.2)]
 | swap x y l =>
  intro hn
  simp only [List.foldr_cons]
  rw [List.map_cons, List.nodup_cons, List.map_cons] at hn
  exact x9 (fun e => hn.1 (by rw [e]; simp)) _
 | trans p _ ih1 ih2 => intro hn; rw [ih1 hn, ih2 ((p.map _).nodup_iff.1 hn)]
theorem uk : ∀ l : List RT, dX l = (l.map sortR).foldr insR []
 | [] => by rw [dX]; rfl
 | r :: l => by rw [dX, uk l]; rfl
theorem R9 {a b : ByteArray} (ha : a.size = 0) (hb : b.size = 0) : a = b := by
 apply ByteArray.ext
 apply Array.ext
 ·show a.size = b.size; omega
 ·intro i hi _; have : i < a.size := hi; omega
theorem ye : ∀ (d : Nat) (r1 r2 : RT), aS r1 ≤ d → jJ r1 → jJ r2 → rA r1 r2 → rA r2 r1 → sortR r1 = sortR r2
 | 0, r1, _, hd, _, _, _, _ => by have := jX r1; omega
 | d + 1, .node n1 k1, .node n2 k2, hd, o1, o2, h1, h2 => by
  have hs := R7 h1 h2
  have hs' : rz (.node n2 k2) (.node n1 k1) := fun x => (hs x).symm
  by_cases e1 : k1 = []
  ·subst e1
   have hz1 := eS ((o1.pt _ (cE _)).2.1 rfl)
   have l1 : bH (.node n1 []) = [n1] := jl hz1
   by_cases e2 : k2 = []
   ·subst e2
    have iR := eS ((o2.pt _ (cE _)).2.1 rfl)
    have l2 : bH (.node n2 []) = [n2] := jl iR
    have := (hs n1).1 (by rw [l1]; simp)
    rw [l2, List.mem_singleton] at this
    rw [this]
   ·obtain ⟨x, hx, hn⟩ := o2.two e2 n1
    have := (hs x).2 hx
    rw [l1, List.mem_singleton] at this
    exact absurd this hn
  ·by_cases e2 : k2 = []
   ·subst e2
    have iR := eS ((o2.pt _ (cE _)).2.1 rfl)
    have l2 : bH (.node n2 []) = [n2] := jl iR
    obtain ⟨x, hx, hn⟩ := o1.two e1 n2
    have := (hs x).1 hx
    rw [l2, List.mem_singleton] at this
    exact absurd this hn
   ·have hz1 := (o1.pt _ (cE _)).1 e1
    have iR : n2.size = 0 := (o2.pt _ (cE _)).1 e2
    have XT : ∀ k ∈ k1, jJ k := fun k hk => o1.sub (jO hk)
    have XU : ∀ k ∈ k2, jJ k := fun k hk => o2.sub (jO hk)
    -- children match
    have key : ∀ {n1 n2 : ByteArray} {k1 k2 : List RT}, jJ (.node n1 k1) → jJ (.node n2 k2) → rA (.node n1 k1) (.node n2 k2) → rA (.node n2 k2) (.node n1 k1) → rz (.node n1 k1) (.node n2 k2) → rz (.node n2 k2) (.node n1 k1) →
      ∀ k ∈ k1, ∃ q ∈ k2, rz k q ∧ rA k q ∧ rA q k := by
     intro n1 n2 k1 k2 o1 o2 h1 h2 hs hs' k hk
     obtain ⟨q, hq, u, hu, e⟩ := zb o1 h1 hs hk (cE k)
     obtain ⟨k', hk', u', tB, e'⟩ := zb o2 h2 hs' hq (cE q)
     have hf := (o1.sub (jO hk)).first
     have hfq : firstR k ∈ bH q := (cQ hu).subset ((e _).1 hf)
     have hkk : k = k' := o1.AD hk hk' hf ((cQ tB).subset ((e' _).1 hfq))
     subst hkk
     have hsame : rz k q := fun x => ⟨fun hx => (cQ hu).subset ((e x).1 hx), fun hx => (cQ tB).subset ((e' x).1 hx)⟩
     refine ⟨q, hq, hsame, fun s hsk => ?_, fun s Ks => ?_⟩
     ·obtain ⟨q2, iP, v, hv, ev⟩ := zb o1 h1 hs hk hsk
      have hfs := ((o1.sub (jO hk)).sub hsk).first
      have := o2.AD hq iP ((hsame _).1 ((cQ hsk).subset hfs)) ((cQ hv).subset ((ev _).1 hfs))
      subst this
      exact ⟨v, hv, ev⟩
     ·obtain ⟨q2, iP, v, hv, ev⟩ := zb o2 h2 hs' hq Ks
      have hfs := ((o2.sub (jO hq)).sub Ks).first
      have := o1.AD hk iP ((hsame _).2 ((cQ Ks).subset hfs)) ((cQ hv).subset ((ev _).1 hfs))
      subst this
      exact ⟨v, hv, ev⟩
    have hsz : ∀ k ∈ k1, aS k ≤ d := fun k hk => by
     rw [aS] at hd
     have : ∀ l : List RT, k ∈ l → aS k ≤ sizeRs l := fun l => by
      induction l with
      | nil => intro h; cases h
      | cons a l ih =>
       intro h
       rw [sizeRs]
       rcases List.mem_cons.1 h with rfl | h
       ·omega
       ·have := ih h; omega
     have := this k1 hk
     omega
    have m1 : ∀ k ∈ k1, ∃ q ∈ k2, sortR k = sortR q := fun k hk => by
     obtain ⟨q, hq, _, f1, f2⟩ := key o1 o2 h1 h2 hs hs' k hk
     exact ⟨q, hq, ye d k q (hsz k hk) (XT k hk) (XU q hq) f1 f2⟩
    have m2 : ∀ q ∈ k2, ∃ k ∈ k1, sortR q = sortR k := fun q hq => by
     obtain ⟨k, hk, _, f1, f2⟩ := key o2 o1 h2 h1 hs' hs q hq
     exact ⟨k, hk, (ye d k q (hsz k hk) (XT k hk) (XU q hq) f2 f1).symm⟩
    have d1 : ((k1.map sortR).map firstR).Nodup := by rw [List.map_map]; exact AB o1.good _ (cE _)
    have d2 : ((k2.map sortR).map firstR).Nodup := by rw [List.map_map]; exact AB o2.good _ (cE _)
    have nd : ∀ {l : List RT}, (l.map firstR).Nodup → l.Nodup := fun {l} h => by
     unfold List.Nodup at h ⊢
     rw [List.pairwise_map] at h
     exact h.imp fun h e => h (by rw [e])
    have hp : (k1.map sortR).Perm (k2.map sortR) := (List.perm_ext_iff_of_nodup (nd d1) (nd d2)).2 fun x => by
     constructor
     ·intro hx
      obtain ⟨k, hk, rfl⟩ := List.mem_map.1 hx
      obtain ⟨q, hq, e⟩ := m1 k hk
      exact List.mem_map.2 ⟨q, hq, e.symm⟩
     ·intro hx
      obtain ⟨q, hq, rfl⟩ := List.mem_map.1 hx
      obtain ⟨k, hk, e⟩ := m2 q hq
      exact List.mem_map.2 ⟨k, hk, e.symm⟩
    rw [sortR, sortR, uk, uk, R8 hp d1, R9 (a := n1) (b := n2) hz1 iR]
end
section
open Go.RowKit Go.Deep
end
section
section
variable {names : List ByteArray} {l : List DO}
theorem O2 (ns : List ByteArray) : (bD ns).length = (nw ns).length := by
 unfold bD
 rw [List.length_map]
 have h : ∀ k, k ≤ ns.length → ((List.range k).filter fun i => (gs ns i).size ≠ 0).length = (nw (ns.take k)).length := by
  intro k
  induction k with
  | zero => intro _; rfl
  | succ k ih =>
   intro hk
   have hg : gs ns k = ns[k] := by simp [gs, show k < ns.length by omega]
   rw [List.range_succ, List.filter_append, List.length_append, ih (by omega), List.take_succ_eq_append_getElem (show k < ns.length by omega), Gu, List.length_append, ← hg]
   congr 1
   unfold nw
   by_cases e : (gs ns k).size ≠ 0
   ·rw [List.filter_cons_of_pos (by simpa using e), List.filter_cons_of_pos (by simpa using e)]; rfl
   ·rw [List.filter_cons_of_neg (by simpa using e), List.filter_cons_of_neg (by simpa using e)]; rfl
 have := h ns.length (Nat.le_refl _)
 rw [List.take_length] at this
 exact this
end
end
section
open Go.RowKit Go.Deep
section
variable {n base : Nat} {A : Nat → Nat} {kv : Nat → Value} {F : bA} {w w' w2 : World} {rk : Nat → Nat}
end
end
section
def allI (n : Nat) : List Int := (List.range n).map fun (i : Nat) => (i : Int)
theorem iS {n : Nat} {x : Int} : x ∈ allI n ↔ 0 ≤ x ∧ x < n := by
 unfold allI
 rw [List.mem_map]
 constructor
 ·rintro ⟨i, hi, rfl⟩
  have := List.mem_range.1 hi; omega
 ·rintro ⟨h0, h1⟩
  exact ⟨x.toNat, List.mem_range.2 (by omega), by omega⟩
theorem sE (n : Nat) : (allI n).length = n := by unfold allI; rw [List.length_map, List.length_range]
def Ee (names : List ByteArray) (x : List Int) : ByteArray := if x.length = 1 then gs names (gi x 0).toNat else ByteArray.empty
theorem O3 {S : List (List Int)} {k : Nat} (h : k < S.length) : gl S k ∈ S := by simp [gl, h]
theorem Ef : ∀ {p q : List Int}, p.Nodup → (∀ x ∈ p, x ∈ q) → q.length ≤ p.length → p.Perm q
 | [], q, _, _, h => by
  have : q = [] := List.eq_nil_of_length_eq_zero (by simpa using h)
  rw [this]
 | x :: p, q, hn, hs, hl => by
  rw [List.nodup_cons] at hn
  have hx := hs x (by simp)
  obtain ⟨a, b, rfl⟩ := List.append_of_mem hx
  have h1 : p.Perm (a ++ b) := Ef hn.2 (fun y hy => by
   have h2 := hs y (by simp [hy])
   rw [List.mem_append, List.mem_cons] at h2
   rw [List.mem_append]
   rcases h2 with h2 | h2 | h2
   ·exact .inl h2
   ·exact absurd (by rw [← h2]; exact hy) hn.1
   ·exact .inr h2) (by
   rw [List.length_append, List.length_cons, List.length_cons] at hl
   rw [List.length_append]; omega)
  exact (h1.cons x).trans List.perm_middle.symm
section
variable {n : Nat} {S : List (List Int)}
end
end
section
theorem Sa {nm : ByteArray} {ks : List RT} {k : RT} (h : k ∈ ks) : aS k < aS (.node nm ks) := by
 rw [aS]
 have : ∀ l : List RT, k ∈ l → aS k ≤ sizeRs l := fun l => by
  induction l with
  | nil => intro h; cases h
  | cons a l ih =>
   intro h
   rw [sizeRs]
   rcases List.mem_cons.1 h with rfl | h
   ·omega
   ·have := ih h; omega
 have := this ks h
 omega
section
variable {F : bA} {n : Nat} {rk : Nat → Nat}
theorem yf (h : Wf F n rk) {i z : Nat} (hi : i < n) (hs : cG F rk i z = true) : bu F rk z ∈ subR (bu F rk i) := by
 rw [tr h hi (Nat.le_refl _)]
 exact List.mem_map.2 ⟨z, (dL h hi (Nat.le_refl _)).2 hs, rfl⟩
theorem BZ (h : Wf F n rk) : ∀ (d i : Nat), rk i ≤ d → i < n → gX (bu F rk i) → (cm F rk i).Nodup
 | d, i, hd, hi, hg => by
  rw [cO h hi, List.nodup_cons]
  have hsub : ∀ k ∈ F.kids i, bu F rk k ∈ subR (bu F rk i) := fun k hk => yf h hi (nu h hi hk (ji h (h.bF i hi k hk).1))
  have Ds : ∀ k ∈ F.kids i, gX (bu F rk k) := fun k hk => ⟨fun s hs => hg.uU s (gK _ (hsub k hk) hs), fun s hs => hg.lf s (gK _ (hsub k hk) hs), (cQ (hsub k hk)).nodup hg.nd⟩
  refine ⟨fun hm => ?_, ?_⟩
  ·obtain ⟨k, hk, hm⟩ := List.mem_flatMap.1 hm
   have hkk := h.bF i hi k hk
   have := nK h hkk.1 ((dL h hkk.1 (Nat.le_refl _)).1 hm)
   omega
  ·by_cases h0 : F.kids i = []
   ·rw [h0]; simp
   ·have eZ := hg.nd
    rw [dH h hi, fU (by have := hg.uU _ (cE _); rw [rK h hi, tu h hi] at this; exact this (fun e => h0 (List.map_eq_nil_iff.1 e))), List.flatMap_map, List.nodup_iff_pairwise_ne, List.pairwise_flatMap] at eZ
    rw [List.nodup_iff_pairwise_ne, List.pairwise_flatMap]
    refine ⟨fun k hk => ?_, ?_⟩
    ·have hkk := h.bF i hi k hk
     cases d with
     | zero => omega
     | succ d => exact BZ h d k (by omega) hkk.1 (Ds k hk)
    ·refine eZ.2.imp_of_mem ?_
     intro a b ha hb hab x hx y hy e
     subst e
     have hka := h.bF i hi a ha
     have hkb := h.bF i hi b hb
     have h1 := yf h hka.1 ((dL h hka.1 (Nat.le_refl _)).1 hx)
     have h2 := yf h hkb.1 ((dL h hkb.1 (Nat.le_refl _)).1 hy)
     have hf := ry (bu F rk x) fun s hs => (Ds a ha).lf s (gK _ h1 hs)
     exact hab _ ((cQ h1).subset hf) _ ((cQ h2).subset hf) rfl
end
end
section
open Go.RowKit Go.Deep
set_option maxHeartbeats 2000000 in
theorem GH (S T : Nat → Prop) (w : World) (v u : Value) (t : aJ) (h : aO S w v t) (h2 : aO T w u t) (hp : t.ps.length ≤ 1000000) (hn : t.ns.length ≤ 1000000) :
  Calls Tryz.prog 36 #[v, u] w fun e w' => e = .returned (.bool true) ∧ Up w w' := by
 obtain ⟨P, N, rfl, hP, hN⟩ := h
 obtain ⟨P2, N2, rfl, lJ, mP⟩ := h2
 obtain ⟨pp, pc, rfl, _, _⟩ := aC.open hP
 obtain ⟨np, nc, rfl, _, _⟩ := aC.open hN
 obtain ⟨jZ, j0, rfl, _, _⟩ := aC.open lJ
 obtain ⟨kG, kH, rfl, _, _⟩ := aC.open mP
 have hP : an S w (.slice pp t.ps.length pc) t.ps := hP
 have hN : aG S w (.slice np t.ns.length nc) t.ns := hN
 have lJ : an T w (.slice jZ t.ps.length j0) t.ps := lJ
 have mP : aG T w (.slice kG t.ns.length kH) t.ns := mP
 have cK := Up.alloc w (.cells #[.slice pp t.ps.length pc, .slice np t.ns.length nc] 39)
 have aL := Up.alloc (w.alloc (.cells #[.slice pp t.ps.length pc, .slice np t.ns.length nc] 39)) (.cells #[.slice jZ t.ps.length j0, .slice kG t.ns.length kH] 39)
 have hu := cK.trans aL
 have a0 := aL.cell (dg w (.slice pp t.ps.length pc) (.slice np t.ns.length nc) 39)
 have a1 := aL.cell (dy w (.slice pp t.ps.length pc) (.slice np t.ns.length nc) 39)
 have b0 := dg (w.alloc (.cells #[.slice pp t.ps.length pc, .slice np t.ns.length nc] 39)) (.slice jZ t.ps.length j0) (.slice kG t.ns.length kH) 39
 have b1 := dy (w.alloc (.cells #[.slice pp t.ps.length pc, .slice np t.ns.length nc] 39)) (.slice jZ t.ps.length j0) (.slice kG t.ns.length kH) 39
 rw [World.size_alloc] at b0 b1
 have HP := ag (an.keep hP (hu.kept S))
 have HN := ag (aG.keep hN (hu.kept S))
 have XV := ag (an.keep lJ (hu.kept T))
 have tC := ag (aG.keep mP (hu.kept T))
 have HU := ag hu
 have A0 := ag a0
 have A1 := ag a1
 have XW := ag b0
 have XX := ag b1
 have d0 : ((t.ps.length : Int) != (t.ps.length : Int)) = false := by simp
 have d1 : ((t.ns.length : Int) != (t.ns.length : Int)) = false := by simp
 clear hP hN lJ mP hu cK aL
 aq Tryz.func36, Tryz.ntmps36
 aa fail
 clear a0 a1 b0 b1
 generalize (w.alloc (.cells #[.slice pp t.ps.length pc, .slice np t.ns.length nc] 39)).alloc (.cells #[.slice jZ t.ps.length j0, .slice kG t.ns.length kH] 39) = w1 at *
 aV [5] (fun i wr => ∃ k : Nat, k ≤ t.ps.length ∧ i = .int .i64 k ∧ Hid (QD w1 wr)) (fun i _ => t.ps.length - (intOf i).toNat)
 case atStart => exact ⟨0, Nat.zero_le _, rfl, QD.refl _⟩
 case round =>
  obtain ⟨k, hk, rfl, hQ⟩ := bE
  have a0 := hQ.out.up.cell A0.out
  have b0 := hQ.out.up.cell XW.out
  by_cases hlt : k < t.ps.length
  ·obtain ⟨b, off, rfl, hc⟩ := bV (an.keep HP.out (hQ.out.kept S)) hlt
   obtain ⟨b2, off2, rfl, fJ⟩ := bV (an.keep XV.out (hQ.out.kept T)) hlt
   have i1 : (0 : Int) ≤ (k : Int) := by omega
   have i2 : (k : Int) < (t.ps.length : Int) := by omega
   generalize gi t.ps k = x at *
   have j1 : (x != x) = false := by simp
   aa fail
   fP (fail)
   aa fail
   aF
   case rel => exact ⟨k + 1, by omega, by aH, hQ.out.drewN nq⟩
   case measure => simp [intOf]; omega
  ·obtain rfl : k = t.ps.length := by omega
   have XY := ag hQ.out
   clear hlt hk
   aa fail
   aV [6] (fun i wr => ∃ k : Nat, k ≤ t.ns.length ∧ i = .int .i64 k ∧ Hid (QD w1 wr)) (fun i _ => t.ns.length - (intOf i).toNat)
   case atStart => exact ⟨0, Nat.zero_le _, rfl, XY.out⟩
   case round =>
    obtain ⟨k, hk, rfl, hQ⟩ := bE
    have a1 := hQ.out.up.cell A1.out
    have b1 := hQ.out.up.cell XX.out
    by_cases hlt : k < t.ns.length
    ·obtain ⟨b, off, rfl, hc⟩ := dh (aG.keep HN.out (hQ.out.kept S)) hlt
     obtain ⟨b2, off2, rfl, fJ⟩ := dh (aG.keep tC.out (hQ.out.kept T)) hlt
     have i1 : (0 : Int) ≤ (k : Int) := by omega
     have i2 : (k : Int) < (t.ns.length : Int) := by omega
     generalize gs t.ns k = x at *
     have j1 : (x.toList == x.toList) = true := by simp
     aa fail
     fP (fail)
     aa fail
     aF
     case rel => exact ⟨k + 1, by omega, by aH, hQ.out.drewN nq⟩
     case measure => simp [intOf]; omega
    ·obtain rfl : k = t.ns.length := by omega
     clear hlt hk
     aa fail
     ax
     exact ⟨rfl, HU.out.trans hQ.out.up⟩
end
section
open Go.RowKit Go.Deep
theorem AE (w : World) (cs : Array Value) (T : TypeId) (xs : List Int) (hcs : cs.toList = xs.map (Value.int .i64)) (n : Nat) (hn : n = xs.length) : an Any (w.alloc (.cells cs T)) (.slice (some ⟨w.heap.size, 0, none⟩) n n) xs := by
 subst hn
 refine ⟨_, _, rfl, Nat.le_refl _, .inr ⟨_, 0, rfl, trivial, fun k hk => ?_⟩⟩
 rw [Nat.zero_add, bI, ← Array.getElem?_toList, hcs]
 simp [gi, hk]
theorem Sb (w : World) (cs : Array Value) (T : TypeId) (xs : List ByteArray) (hcs : cs.toList = xs.map Value.string) (n : Nat) (hn : n = xs.length) : aG Any (w.alloc (.cells cs T)) (.slice (some ⟨w.heap.size, 0, none⟩) n n) xs := by
 subst hn
 refine ⟨_, _, rfl, Nat.le_refl _, .inr ⟨_, 0, rfl, trivial, fun k hk => ?_⟩⟩
 rw [Nat.zero_add, bI, ← Array.getElem?_toList, hcs]
 simp [gs, hk]
end
section
section
variable {names : List ByteArray} {l : List DO} {S : List (List Int)}
def Lv (names : List ByteArray) (s : RT) (x : List Int) : Prop := ∀ y, y ∈ bH s ↔ ∃ b : Nat, (b : Int) ∈ x ∧ y = gs names b
end
end
section
open Go.RowKit Go.Deep
theorem rB (w : World) (o : Option Nat) : w.grownBy w o := ⟨rfl, rfl, rfl, Nat.le_refl _, fun _ _ _ => rfl⟩
theorem gL {w w' x : World} {o : Option Nat} (h : w.grownBy w' o) (k : w'.grownBy x o) : w.grownBy x o :=
 ⟨k.os.trans h.os, k.tape.trans h.tape, k.output.trans h.output, Nat.le_trans h.size k.size, fun b hb hn => (k.block b (Nat.lt_of_lt_of_le hb h.size) hn).trans (h.block b hb hn)⟩
theorem lK {w w' : World} (h : Up w w') (o : Option Nat) : w.grownBy w' o := ⟨h.os, h.tape, h.output, h.size, fun b hb _ => Below.block h b hb⟩
theorem Eg {w : World} {g o : Nat} {z : Value} : w.grownBy (w.setCell ⟨g, o, none⟩ z) (some g) :=
 ⟨rfl, rfl, rfl, by rw [World.size_setCell]; exact Nat.le_refl _, fun b _ hn => blk_setCell_other _ _ _ _ fun e => hn (by rw [e])⟩
theorem B3 {g : Nat} : ∀ (vs : List Value) (o : Nat) (w : World), w.grownBy (w.setCells g o vs) (some g)
 | [], _, w => rB w _
 | z :: vs, o, w => by rw [World.setCells]; exact gL Eg (B3 vs (o + 1) _)
theorem Eh {base : Nat} {e : TypeId} {w : World} {g n cap : Nat} {xs : List Value} (h : ay base e w (.slice (some ⟨g, 0, none⟩) n cap) xs) {m : Nat} (hm : m ≤ n) : ay base e w (.slice (some ⟨g, 0, none⟩) m cap) (xs.take m) := by
 obtain ⟨h1, h2⟩ := h
 rcases h2 with ⟨e1, _⟩ | ⟨g2, cF, cur, e1, hg, hc, hn, hcm, hcs, ht⟩
 ·cases e1
 ·injection e1 with a1 a2 a3
  injection a1 with a1
  injection a1 with a1
  subst a1; subst a3
  have hnx : n = xs.length := a2
  have hl : (xs.take m).length = m := by rw [List.length_take]; omega
  refine ⟨by rw [Nat.mul_one], .inr ⟨g, cap, cur, by rw [hl], hg, hc, by omega, hcm, hcs, ?_⟩⟩
  rw [hl, Nat.mul_one, ← ht, List.take_take]
  congr 1; omega
theorem O4 {base : Nat} {e : TypeId} {w : World} {g m cap o : Nat} {xs : List Value} {z : Value} (h : ay base e w (.slice (some ⟨g, 0, none⟩) m cap) xs) (ho : m ≤ o) : ay base e (w.setCell ⟨g, o, none⟩ z) (.slice (some ⟨g, 0, none⟩) m cap) xs := by
 obtain ⟨h1, h2⟩ := h
 rcases h2 with ⟨e1, _⟩ | ⟨g2, cF, cur, e1, hg, hc, hn, hcm, hcs, ht⟩
 ·cases e1
 ·injection e1 with a1 a2 a3
  injection a1 with a1
  injection a1 with a1
  subst a1; subst a3
  refine ⟨h1, .inr ⟨g, cap, cur.setIfInBounds o z, by rw [a2], hg, ?_, hn, hcm, by rw [Array.size_setIfInBounds]; exact hcs, ?_⟩⟩
  ·simp [World.setCell, Array.getElem?_modify, hc]
  ·have hmx : m = xs.length := a2
   rw [Array.toList_setIfInBounds, List.take_set_of_le (by omega)]; exact ht
theorem B4 {base : Nat} {e : TypeId} {g m cap : Nat} {xs : List Value} : ∀ (vs : List Value) (o : Nat) (w : World), m ≤ o → ay base e w (.slice (some ⟨g, 0, none⟩) m cap) xs → ay base e (w.setCells g o vs) (.slice (some ⟨g, 0, none⟩) m cap) xs
 | [], _, _, _, h => h
 | z :: vs, o, w, ho, h => by rw [World.setCells]; exact B4 vs (o + 1) _ (by omega) (O4 h ho)
theorem nQ {base : Nat} {e : TypeId} {w : World} {g n cap : Nat} {xs : List Value} (h : ay base e w (.slice (some ⟨g, 0, none⟩) n cap) xs) {j : Nat} {u : Value} (hj : xs[j]? = some u) : w.cell? ⟨g, j, none⟩ = some u ∧ w.frozen? ⟨g, j, none⟩ = false := by
 have hl := (List.getElem?_eq_some_iff.1 hj).1
 obtain ⟨g2, cF, e1, _, _, hc, hf, _⟩ := h.set hl
 injection e1 with a1
 injection a1 with a1
 injection a1 with a1
 subst a1
 refine ⟨?_, hf⟩
 rw [hc]
 congr 1
 rw [List.getD_eq_getElem?_getD, hj]; rfl
section
variable {A : Nat → Nat} {P : Nat → Bool}
end
end
section
section
variable {F : bA} {n : Nat} {rk : Nat → Nat}
theorem Sc (h : Wf F n rk) : ∀ {d i : Nat} (p : Option Nat) (np : Int) (s : wJ), i < n → rk i ≤ d → (cm F rk i).Nodup → p ≠ some i → s.mp.lookup p = some np → (∀ j ∈ cm F rk i, s.mp.lookup (some j) = none) →
  Fg s ((eO F rk i p).foldl (oo F) s) (psR (bu F rk i) s.ps.length np) (cT (bu F rk i)) (cm F rk i) := by
 intro d
 induction d with
 | zero =>
  intro i p np s hi hd XZ hp hl hn
  have hk : F.kids i = [] := by
   cases hk : F.kids i with
   | nil => rfl
   | cons k l => have := (h.bF i hi k (by rw [hk]; simp)).2; omega
  rw [gV h hi, dH h hi, cO h hi, hk]
  have hni := hn i (by rw [cO h hi]; simp)
  refine ⟨?_, ?_, fun k hk2 => eA _ (hk2 i (by simp))⟩
  ·show s.ps ++ [((k9 s.mp (some i) _).lookup p).getD 0] = _
   rw [eA _ hp, hl]; rfl
  ·rfl
 | succ d ih =>
  intro i p np s hi hd XZ hp hl hn
  rw [gV h hi, dH h hi, cO h hi]
  have hni := hn i (by rw [cO h hi]; simp)
  have eZ := XZ
  rw [cO h hi, List.nodup_cons] at eZ
  have key : ∀ (l : List Nat), (∀ k ∈ l, k ∈ F.kids i) → (l.flatMap fun k => cm F rk k).Nodup → (∀ k ∈ l, i ∉ cm F rk k) → ∀ (s2 : wJ) (own : Nat), s2.mp.lookup (some i) = some (own : Int) → (∀ k ∈ l, ∀ j ∈ cm F rk k, s2.mp.lookup (some j) = none) →
    Fg s2 ((l.flatMap fun k => eO F rk k (some i)).foldl (oo F) s2) (psRs (l.map (bu F rk)) own s2.ps.length) (cR (l.map (bu F rk))) (l.flatMap fun k => cm F rk k) := by
   intro l
   induction l with
   | nil => intro _ _ _ s2 own _ _; exact ⟨by simp [psRs], by simp [cR], fun _ _ => rfl⟩
   | cons c l ihl =>
    intro hin hdl hil s2 own ho hno
    have gv := h.bF i hi c (hin c (by simp))
    rw [List.flatMap_cons, List.foldl_append, List.flatMap_cons]
    rw [List.flatMap_cons, List.nodup_append] at hdl
    have h1 := ih (some i) (own : Int) s2 gv.1 (by omega) hdl.1 (fun e => by
     injection e with e
     have := gv.2; rw [e] at this; omega) ho (hno c (by simp))
    have h2 := ihl (fun k hk => hin k (by simp [hk])) hdl.2.1 (fun k hk => hil k (by simp [hk])) ((eO F rk c (some i)).foldl (oo F) s2) own
     ((h1.old (some i) (fun j hj e => by injection e with e; subst e; exact hil c (by simp) hj)).trans ho)
     (fun k hk j hj => (h1.old (some j) (fun j2 hj2 e => by
      injection e with e; subst e
      exact hdl.2.2 j hj2 j (List.mem_flatMap.2 ⟨k, hk, hj⟩) rfl)).trans (hno k (by simp [hk]) j hj))
    refine ⟨?_, ?_, fun k hk => ?_⟩
    ·rw [h2.ps, h1.ps, List.map_cons, psRs, List.append_assoc, List.length_append, l5]
    ·rw [h2.ns, h1.ns, List.map_cons, cR, List.append_assoc]
    ·rw [h2.old k (fun j hj => hk j (by simp [hj])), h1.old k (fun j hj => hk j (by simp [hj]))]
  have hin : ∀ k ∈ F.kids i, i ∉ cm F rk k := fun k hk hm => eZ.1 (List.mem_flatMap.2 ⟨k, hk, hm⟩)
  have h3 := key (F.kids i) (fun k hk => hk) eZ.2 hin (oo F s (i, p)) s.ps.length (tq _ hni) (fun k hk j hj => by
   show (k9 s.mp (some i) _).lookup (some j) = none
   rw [eA _ (fun e => by injection e with e; subst e; exact hin k hk hj)]
   exact hn j (by rw [cO h hi]; exact List.mem_cons_of_mem _ (List.mem_flatMap.2 ⟨k, hk, hj⟩)))
  have hps : (oo F s (i, p)).ps = s.ps ++ [np] := by
   show s.ps ++ [((k9 s.mp (some i) _).lookup p).getD 0] = _
   rw [eA _ hp, hl]; rfl
  rw [List.foldl_cons]
  refine ⟨?_, ?_, fun k hk => ?_⟩
  ·rw [h3.ps, hps, psR, List.append_assoc, List.length_append]; rfl
  ·rw [h3.ns]
   show (s.ns ++ [F.nm i]) ++ _ = _
   rw [cT, List.append_assoc]; rfl
  ·rw [h3.old k (fun j hj => hk j (by simp [hj]))]
   exact eA _ (hk i (by simp))
theorem JG (h : Wf F n rk) {i : Nat} (hi : i < n) (eZ : (cm F rk i).Nodup) : gp F rk i = flat (bu F rk i) := by
 have h1 := Sc h (d := rk i) none (-1) CP hi (Nat.le_refl _) eZ (fun e => by cases e) rfl (fun j _ => rfl)
 unfold gp flat dB
 rw [h1.ps, h1.ns]
 rfl
end
end
section
open Go.RowKit Go.Deep
deriving instance DecidableEq for DO
end
section
open Go.RowKit Go.Deep
end
section
open Go.RowKit Go.Deep
end
section
open Go.RowKit Go.Deep
section
variable {A : Nat → Nat} {P : Nat → Bool} {base : Nat} {w wr : World} {g cap : Nat} {ks : List Nat} {X : List Value}
end
theorem Sd {base : Nat} {e : TypeId} {w : World} {g n cap : Nat} {xs : List Value} (h : ay base e w (.slice (some ⟨g, 0, none⟩) n cap) xs) : n ≤ cap := by
 obtain ⟨h1, h2⟩ := h
 rcases h2 with ⟨e1, _⟩ | ⟨g2, cF, cur, e1, hg, hc, hn, _⟩
 ·cases e1
 ·injection e1 with a1 a2 a3
  omega
end
section
section
variable {F : bA} {n : Nat} {rk : Nat → Nat} {P : Nat → Bool}
theorem O5 (h : Wf F n rk) {i : Nat} (hi : i < n) (hg : gX (bu F rk i)) : aS (bu F rk i) ≤ n := by
 rw [← kn, tr h hi (Nat.le_refl _), List.length_map]
 exact pJ (BZ h _ i (Nat.le_refl _) hi hg) fun x hx => nO h hi (Nat.le_refl _) ((dL h hi (Nat.le_refl _)).1 hx)
end
end
section
section
variable {names : List ByteArray} {l : List DO}
theorem Kt {s : RT} {x : List Int} (h : Lv names s x) : Lv names (sortR s) x := fun y => by rw [(qW s).mem_iff]; exact h y
end
end
end Go.Proofs.YtpnmblnahjjmhaaGreat
