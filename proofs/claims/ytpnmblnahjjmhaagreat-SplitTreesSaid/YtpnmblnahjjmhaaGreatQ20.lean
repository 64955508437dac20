/- Two rose trees without one-child nodes that have the same families of leaves are the .. -/
import Derived.Test.YtpnmblnahjjmhaaGreatQ1
import Derived.Test.YtpnmblnahjjmhaaGreatQ19
import Derived.Test.YtpnmblnahjjmhaaGreatQ16
import Derived.Test.YtpnmblnahjjmhaaGreatQ13
import Derived.Test.YtpnmblnahjjmhaaGreatQ9
import Derived.Test.YtpnmblnahjjmhaaGreatQ3
import Derived.Test.YtpnmblnahjjmhaaGreatQ5
import Derived.Lib.SliceRun
import Derived.Test.YtpnmblnahjjmhaaGreatQ11
import Derived.Test.YtpnmblnahjjmhaaGreatQ18
set_option maxRecDepth 100000
namespace Go.Proofs.YtpnmblnahjjmhaaGreat
section
structure jf (r : RT) : Prop where
 nd : (aZ r).Nodup
 pt : ∀ s ∈ subR r, nN s
theorem jf.good {r : RT} (h : jf r) : gC r := ⟨fun s hs hk => (h.pt s hs).1 hk, fun s hs hk => (h.pt s hs).2.1 hk, h.nd⟩
theorem jf.sub {r s : RT} (h : jf r) (hs : s ∈ subR r) : jf s := ⟨(bZ hs).nodup h.nd, fun q hq => h.pt q (fZ r hs hq)⟩
theorem jf.first {r : RT} (h : jf r) : firstR r ∈ aZ r := qC r h.good.lf
theorem jk {nm : ByteArray} {ks : List RT} {k : RT} (hk : k ∈ ks) : k ∈ subR (.node nm ks) := by
 rw [subR]; exact List.mem_cons_of_mem _ (xP hk k (bI k))
theorem jf.Uv {nm : ByteArray} {ks : List RT} (h : jf (.node nm ks)) (h0 : ks ≠ []) : aZ (.node nm ks) = ks.flatMap aZ :=
 fo ((h.pt _ (bI _)).1 h0)
theorem jf.apart {nm : ByteArray} {ks : List RT} (h : jf (.node nm ks)) {i j : Nat} (hi : i < ks.length) (hj : j < ks.length) {x : ByteArray} (h1 : x ∈ aZ ks[i]) (h2 : x ∈ aZ ks[j]) : i = j := by
 have h0 : ks ≠ [] := fun e => by subst e; simp at hi
 have hn := h.nd
 rw [h.Uv h0, List.nodup_iff_pairwise_ne, List.pairwise_flatMap] at hn
 have hp := List.pairwise_iff_getElem.1 hn.2
 rcases Nat.lt_trichotomy i j with c | c | c
 ·exact absurd rfl (hp i j hi hj c x h1 x h2)
 ·exact c
 ·exact absurd rfl (hp j i hj hi c x h2 x h1)
theorem jf.Ah {nm : ByteArray} {ks : List RT} (h : jf (.node nm ks)) {k k' : RT} (hk : k ∈ ks) (hk' : k' ∈ ks) {x : ByteArray} (h1 : x ∈ aZ k) (h2 : x ∈ aZ k') : k = k' := by
 obtain ⟨i, hi, rfl⟩ := List.getElem_of_mem hk
 obtain ⟨j, hj, rfl⟩ := List.getElem_of_mem hk'
 have := h.apart hi hj h1 h2
 subst this; rfl
theorem jf.lacks {nm : ByteArray} {ks : List RT} (h : jf (.node nm ks)) {k : RT} (hk : k ∈ ks) : ∃ x ∈ aZ (.node nm ks), x ∉ aZ k := by
 have h0 : ks ≠ [] := fun e => by subst e; simp at hk
 have h1 : ks.length ≠ 1 := (h.pt _ (bI _)).2.2
 have h2 : 2 ≤ ks.length := by
  have := List.length_pos_of_mem hk
  omega
 obtain ⟨i, hi, rfl⟩ := List.getElem_of_mem hk
 obtain ⟨j, hj, hij⟩ : ∃ j, j < ks.length ∧ i ≠ j := by
  by_cases c : i = 0
  ·exact ⟨1, by omega, by omega⟩
  ·exact ⟨0, by omega, c⟩
 have hf := (h.sub (jk (List.getElem_mem hj))).first
 refine ⟨firstR ks[j], ?_, fun q => hij (h.apart hi hj q hf)⟩
 rw [h.Uv h0]
 exact List.mem_flatMap.2 ⟨_, List.getElem_mem hj, hf⟩
theorem jf.two {nm : ByteArray} {ks : List RT} (h : jf (.node nm ks)) (h0 : ks ≠ []) (y : ByteArray) : ∃ x ∈ aZ (.node nm ks), x ≠ y := by
 obtain ⟨k, hk⟩ := List.exists_mem_of_ne_nil _ h0
 obtain ⟨x, hx, hn⟩ := h.lacks hk
 have hf := (h.sub (jk hk)).first
 by_cases c : x = y
 ·subst c
  refine ⟨firstR k, (bZ (jk hk)).subset hf, fun e => hn ?_⟩
  rw [← e]; exact hf
 ·exact ⟨x, hx, c⟩
def qD (r s : RT) : Prop := ∀ x, x ∈ aZ r ↔ x ∈ aZ s
def qE (r1 r2 : RT) : Prop := ∀ s ∈ subR r1, ∃ u ∈ subR r2, qD s u
theorem R7 {r1 r2 : RT} (h1 : qE r1 r2) (h2 : qE r2 r1) : qD r1 r2 := by
 obtain ⟨u, hu, e⟩ := h1 r1 (bI _)
 obtain ⟨v, hv, f⟩ := h2 r2 (bI _)
 exact fun x => ⟨fun hx => (bZ hu).subset ((e x).1 hx), fun hx => (bZ hv).subset ((f x).1 hx)⟩
theorem rP {u : RT} {ks : List RT} (h : u ∈ subRs ks) : ∃ k ∈ ks, u ∈ subR k := by
 rw [jF] at h
 obtain ⟨k, hk, hu⟩ := List.mem_flatMap.1 h
 exact ⟨k, hk, hu⟩
theorem yQ {n1 n2 : ByteArray} {k1 k2 : List RT} (o1 : jf (.node n1 k1)) (h1 : qE (.node n1 k1) (.node n2 k2)) (hs : qD (.node n1 k1) (.node n2 k2)) {k : RT} (hk : k ∈ k1) {s : RT} (hsk : s ∈ subR k) :
  ∃ q ∈ k2, ∃ u ∈ subR q, qD s u := by
 obtain ⟨u, hu, e⟩ := h1 s (fZ _ (jk hk) hsk)
 rw [subR, List.mem_cons] at hu
 rcases hu with rfl | hu
 ·obtain ⟨x, hx, hn⟩ := o1.lacks hk
  exact absurd ((bZ hsk).subset ((e x).2 ((hs x).1 hx))) hn
 ·obtain ⟨q, hq, hu⟩ := rP hu
  exact ⟨q, hq, u, hu, e⟩
theorem R8 {a b : List RT} (h : a.Perm b) : (a.map firstR).Nodup → a.foldr insR [] = b.foldr insR [] := by
 induction h with
 | nil => intro _; rfl
 | cons x _ ih => intro hn; rw [List.foldr_cons, List.foldr_cons, ih (by rw [List.map_cons, List.nodup_cons] at hn; exact hn.2)]
 | swap x y l =>
  intro hn
  simp only [List.foldr_cons]
  rw [List.map_cons, List.nodup_cons, List.map_cons] at hn
  exact xO (fun e => hn.1 (by rw [e]; simp)) _
 | trans p _ ih1 ih2 => intro hn; rw [ih1 hn, ih2 ((p.map _).nodup_iff.1 hn)]
theorem tM : ∀ l : List RT, dw l = (l.map sortR).foldr insR []
 | [] => by rw [dw]; rfl
 | r :: l => by rw [dw, tM l]; rfl
theorem R9 {a b : ByteArray} (ha : a.size = 0) (hb : b.size = 0) : a = b := by
 apply ByteArray.ext
 apply Array.ext
 ·show a.size = b.size; omega
 ·intro i hi _; have : i < a.size := hi; omega
theorem xQ : ∀ (d : Nat) (r1 r2 : RT), aK r1 ≤ d → jf r1 → jf r2 → qE r1 r2 → qE r2 r1 → sortR r1 = sortR r2
 | 0, r1, _, hd, _, _, _, _ => by have := jw r1; omega
 | d + 1, .node n1 k1, .node n2 k2, hd, o1, o2, h1, h2 => by
  have hs := R7 h1 h2
  have hs' : qD (.node n2 k2) (.node n1 k1) := fun x => (hs x).symm
  by_cases e1 : k1 = []
  ·subst e1
   have hz1 := dS ((o1.pt _ (bI _)).2.1 rfl)
   have l1 : aZ (.node n1 []) = [n1] := iM hz1
   by_cases e2 : k2 = []
   ·subst e2
    have hz2 := dS ((o2.pt _ (bI _)).2.1 rfl)
    have l2 : aZ (.node n2 []) = [n2] := iM hz2
    have := (hs n1).1 (by rw [l1]; simp)
    rw [l2, List.mem_singleton] at this
    rw [this]
   ·obtain ⟨x, hx, hn⟩ := o2.two e2 n1
    have := (hs x).2 hx
    rw [l1, List.mem_singleton] at this
    exact absurd this hn
  ·by_cases e2 : k2 = []
   ·subst e2
    have hz2 := dS ((o2.pt _ (bI _)).2.1 rfl)
    have l2 : aZ (.node n2 []) = [n2] := iM hz2
    obtain ⟨x, hx, hn⟩ := o1.two e1 n2
    have := (hs x).1 hx
    rw [l2, List.mem_singleton] at this
    exact absurd this hn
   ·have hz1 := (o1.pt _ (bI _)).1 e1
    have hz2 : n2.size = 0 := (o2.pt _ (bI _)).1 e2
    have XW : ∀ k ∈ k1, jf k := fun k hk => o1.sub (jk hk)
    have XX : ∀ k ∈ k2, jf k := fun k hk => o2.sub (jk hk)
    -- children match
    have key : ∀ {n1 n2 : ByteArray} {k1 k2 : List RT}, jf (.node n1 k1) → jf (.node n2 k2) → qE (.node n1 k1) (.node n2 k2) → qE (.node n2 k2) (.node n1 k1) → qD (.node n1 k1) (.node n2 k2) → qD (.node n2 k2) (.node n1 k1) →
      ∀ k ∈ k1, ∃ q ∈ k2, qD k q ∧ qE k q ∧ qE q k := by
     intro n1 n2 k1 k2 o1 o2 h1 h2 hs hs' k hk
     obtain ⟨q, hq, u, hu, e⟩ := yQ o1 h1 hs hk (bI k)
     obtain ⟨k', hk', u', sU, e'⟩ := yQ o2 h2 hs' hq (bI q)
     have hf := (o1.sub (jk hk)).first
     have hfq : firstR k ∈ aZ q := (bZ hu).subset ((e _).1 hf)
     have hkk : k = k' := o1.Ah hk hk' hf ((bZ sU).subset ((e' _).1 hfq))
     subst hkk
     have hsame : qD k q := fun x => ⟨fun hx => (bZ hu).subset ((e x).1 hx), fun hx => (bZ sU).subset ((e' x).1 hx)⟩
     refine ⟨q, hq, hsame, fun s hsk => ?_, fun s Kr => ?_⟩
     ·obtain ⟨q2, ir, v, hv, ev⟩ := yQ o1 h1 hs hk hsk
      have hfs := ((o1.sub (jk hk)).sub hsk).first
      have := o2.Ah hq ir ((hsame _).1 ((bZ hsk).subset hfs)) ((bZ hv).subset ((ev _).1 hfs))
      subst this
      exact ⟨v, hv, ev⟩
     ·obtain ⟨q2, ir, v, hv, ev⟩ := yQ o2 h2 hs' hq Kr
      have hfs := ((o2.sub (jk hq)).sub Kr).first
      have := o1.Ah hk ir ((hsame _).2 ((bZ Kr).subset hfs)) ((bZ hv).subset ((ev _).1 hfs))
      subst this
      exact ⟨v, hv, ev⟩
    have hsz : ∀ k ∈ k1, aK k ≤ d := fun k hk => by
     rw [aK] at hd
     have : ∀ l : List RT, k ∈ l → aK k ≤ sizeRs l := fun l => by
      induction l with
      | nil => intro h; cases h
      | cons a l ih =>
       intro h
       rw [sizeRs]
       rcases List.mem_cons.1 h with rfl | h
       ·omega
       ·have := ih h; omega
     have := this k1 hk
     omega
    have m1 : ∀ k ∈ k1, ∃ q ∈ k2, sortR k = sortR q := fun k hk => by
     obtain ⟨q, hq, _, f1, f2⟩ := key o1 o2 h1 h2 hs hs' k hk
     exact ⟨q, hq, xQ d k q (hsz k hk) (XW k hk) (XX q hq) f1 f2⟩
    have m2 : ∀ q ∈ k2, ∃ k ∈ k1, sortR q = sortR k := fun q hq => by
     obtain ⟨k, hk, _, f1, f2⟩ := key o2 o1 h2 h1 hs' hs q hq
     exact ⟨k, hk, (xQ d k q (hsz k hk) (XW k hk) (XX q hq) f2 f1).symm⟩
    have d1 : ((k1.map sortR).map firstR).Nodup := by rw [List.map_map]; exact Ag o1.good _ (bI _)
    have d2 : ((k2.map sortR).map firstR).Nodup := by rw [List.map_map]; exact Ag o2.good _ (bI _)
    have nd : ∀ {l : List RT}, (l.map firstR).Nodup → l.Nodup := fun {l} h => by
     unfold List.Nodup at h ⊢
     rw [List.pairwise_map] at h
     exact h.imp fun h e => h (by rw [e])
    have hp : (k1.map sortR).Perm (k2.map sortR) := (List.perm_ext_iff_of_nodup (nd d1) (nd d2)).2 fun x => by
     constructor
     ·intro hx
      obtain ⟨k, hk, rfl⟩ := List.mem_map.1 hx
      obtain ⟨q, hq, e⟩ := m1 k hk
      exact List.mem_map.2 ⟨q, hq, e.symm⟩
     ·intro hx
      obtain ⟨q, hq, rfl⟩ := List.mem_map.1 hx
      obtain ⟨k, hk, e⟩ := m2 q hq
      exact List.mem_map.2 ⟨k, hk, e.symm⟩
    rw [sortR, sortR, tM, tM, R8 hp d1, R9 (a := n1) (b := n2) hz1 hz2]
end
section
open Go.RowKit Go.Deep
end
section
section
variable {names : List ByteArray} {l : List DF}
theorem O0 (ns : List ByteArray) : (aV ns).length = (mB ns).length := by
 unfold aV
 rw [List.length_map]
 have h : ∀ k, k ≤ ns.length → ((List.range k).filter fun i => (gs ns i).size ≠ 0).length = (mB (ns.take k)).length := by
  intro k
  induction k with
  | zero => intro _; rfl
  | succ k ih =>
   intro hk
   have hg : gs ns k = ns[k] := by simp [gs, show k < ns.length by omega]
   rw [List.range_succ, List.filter_append, List.length_append, ih (by omega), List.take_succ_eq_append_getElem (show k < ns.length by omega), Gq, List.length_append, ← hg]
   congr 1
   unfold mB
   by_cases e : (gs ns k).size ≠ 0
   ·rw [List.filter_cons_of_pos (by simpa using e), List.filter_cons_of_pos (by simpa using e)]; rfl
   ·rw [List.filter_cons_of_neg (by simpa using e), List.filter_cons_of_neg (by simpa using e)]; rfl
 have := h ns.length (Nat.le_refl _)
 rw [List.take_length] at this
 exact this
end
end
section
open Go.RowKit Go.Deep
section
variable {n base : Nat} {A : Nat → Nat} {kv : Nat → Value} {F : aT} {w w' w2 : World} {rk : Nat → Nat}
end
end
section
def allI (n : Nat) : List Int := (List.range n).map fun (i : Nat) => (i : Int)
theorem iw {n : Nat} {x : Int} : x ∈ allI n ↔ 0 ≤ x ∧ x < n := by
 unfold allI
 rw [List.mem_map]
 constructor
 ·rintro ⟨i, hi, rfl⟩
  have := List.mem_range.1 hi; omega
 ·rintro ⟨h0, h1⟩
  exact ⟨x.toNat, List.mem_range.2 (by omega), by omega⟩
theorem rQ (n : Nat) : (allI n).length = n := by unfold allI; rw [List.length_map, List.length_range]
def D9 (names : List ByteArray) (x : List Int) : ByteArray := if x.length = 1 then gs names (gi x 0).toNat else ByteArray.empty
theorem O1 {S : List (List Int)} {k : Nat} (h : k < S.length) : gl S k ∈ S := by simp [gl, h]
theorem Ea : ∀ {p q : List Int}, p.Nodup → (∀ x ∈ p, x ∈ q) → q.length ≤ p.length → p.Perm q
 | [], q, _, _, h => by
  have : q = [] := List.eq_nil_of_length_eq_zero (by simpa using h)
  rw [this]
 | x :: p, q, hn, hs, hl => by
  rw [List.nodup_cons] at hn
  have hx := hs x (by simp)
  obtain ⟨a, b, rfl⟩ := List.append_of_mem hx
  have h1 : p.Perm (a ++ b) := Ea hn.2 (fun y hy => by
   have h2 := hs y (by simp [hy])
   rw [List.mem_append, List.mem_cons] at h2
   rw [List.mem_append]
   rcases h2 with h2 | h2 | h2
   ·exact .inl h2
   ·exact absurd (by rw [← h2]; exact hy) hn.1
   ·exact .inr h2) (by
   rw [List.length_append, List.length_cons, List.length_cons] at hl
   rw [List.length_append]; omega)
  exact (h1.cons x).trans List.perm_middle.symm
section
variable {n : Nat} {S : List (List Int)}
end
end
section
theorem Sa {nm : ByteArray} {ks : List RT} {k : RT} (h : k ∈ ks) : aK k < aK (.node nm ks) := by
 rw [aK]
 have : ∀ l : List RT, k ∈ l → aK k ≤ sizeRs l := fun l => by
  induction l with
  | nil => intro h; cases h
  | cons a l ih =>
   intro h
   rw [sizeRs]
   rcases List.mem_cons.1 h with rfl | h
   ·omega
   ·have := ih h; omega
 have := this ks h
 omega
section
variable {F : aT} {n : Nat} {rk : Nat → Nat}
theorem xR (h : Wf F n rk) {i z : Nat} (hi : i < n) (hs : bK F rk i z = true) : aR F rk z ∈ subR (aR F rk i) := by
 rw [sO h hi (Nat.le_refl _)]
 exact List.mem_map.2 ⟨z, (cU h hi (Nat.le_refl _)).2 hs, rfl⟩
theorem BN (h : Wf F n rk) : ∀ (d i : Nat), rk i ≤ d → i < n → gC (aR F rk i) → (bE F rk i).Nodup
 | d, i, hd, hi, hg => by
  rw [bW h hi, List.nodup_cons]
  have hsub : ∀ k ∈ F.kids i, aR F rk k ∈ subR (aR F rk i) := fun k hk => xR h hi (mA h hi hk (iK h (h.kid i hi k hk).1))
  have Dh : ∀ k ∈ F.kids i, gC (aR F rk k) := fun k hk => ⟨fun s hs => hg.uz s (fZ _ (hsub k hk) hs), fun s hs => hg.lf s (fZ _ (hsub k hk) hs), (bZ (hsub k hk)).nodup hg.nd⟩
  refine ⟨fun hm => ?_, ?_⟩
  ·obtain ⟨k, hk, hm⟩ := List.mem_flatMap.1 hm
   have hkk := h.kid i hi k hk
   have := mN h hkk.1 ((cU h hkk.1 (Nat.le_refl _)).1 hm)
   omega
  ·by_cases h0 : F.kids i = []
   ·rw [h0]; simp
   ·have dZ := hg.nd
    rw [cQ h hi, fo (by have := hg.uz _ (bI _); rw [qN h hi, sP h hi] at this; exact this (fun e => h0 (List.map_eq_nil_iff.1 e))), List.flatMap_map, List.nodup_iff_pairwise_ne, List.pairwise_flatMap] at dZ
    rw [List.nodup_iff_pairwise_ne, List.pairwise_flatMap]
    refine ⟨fun k hk => ?_, ?_⟩
    ·have hkk := h.kid i hi k hk
     cases d with
     | zero => omega
     | succ d => exact BN h d k (by omega) hkk.1 (Dh k hk)
    ·refine dZ.2.imp_of_mem ?_
     intro a b ha hb hab x hx y hy e
     subst e
     have hka := h.kid i hi a ha
     have hkb := h.kid i hi b hb
     have h1 := xR h hka.1 ((cU h hka.1 (Nat.le_refl _)).1 hx)
     have h2 := xR h hkb.1 ((cU h hkb.1 (Nat.le_refl _)).1 hy)
     have hf := qC (aR F rk x) fun s hs => (Dh a ha).lf s (fZ _ h1 hs)
     exact hab _ ((bZ h1).subset hf) _ ((bZ h2).subset hf) rfl
end
end
section
open Go.RowKit Go.Deep
set_option maxHeartbeats 2000000 in
theorem GD (S T : Nat → Prop) (w : World) (v u : Value) (t : aA) (h : aG S w v t) (h2 : aG T w u t) (hp : t.ps.length ≤ 1000000) (hn : t.ns.length ≤ 1000000) :
  Calls Tryz.prog 36 #[v, u] w fun e w' => e = .returned (.bool true) ∧ Up w w' := by
 obtain ⟨P, N, rfl, hP, hN⟩ := h
 obtain ⟨P2, N2, rfl, kK, lR⟩ := h2
 obtain ⟨pp, pc, rfl, _, _⟩ := av.open hP
 obtain ⟨np, nc, rfl, _, _⟩ := av.open hN
 obtain ⟨jy, jA, rfl, _, _⟩ := av.open kK
 obtain ⟨jO, jP, rfl, _, _⟩ := av.open lR
 have hP : af S w (.slice pp t.ps.length pc) t.ps := hP
 have hN : ay S w (.slice np t.ns.length nc) t.ns := hN
 have kK : af T w (.slice jy t.ps.length jA) t.ps := kK
 have lR : ay T w (.slice jO t.ns.length jP) t.ns := lR
 have bO := Up.alloc w (.cells #[.slice pp t.ps.length pc, .slice np t.ns.length nc] 39)
 have aC := Up.alloc (w.alloc (.cells #[.slice pp t.ps.length pc, .slice np t.ns.length nc] 39)) (.cells #[.slice jy t.ps.length jA, .slice jO t.ns.length jP] 39)
 have hu := bO.trans aC
 have a0 := aC.cell (cB w (.slice pp t.ps.length pc) (.slice np t.ns.length nc) 39)
 have a1 := aC.cell (cI w (.slice pp t.ps.length pc) (.slice np t.ns.length nc) 39)
 have b0 := cB (w.alloc (.cells #[.slice pp t.ps.length pc, .slice np t.ns.length nc] 39)) (.slice jy t.ps.length jA) (.slice jO t.ns.length jP) 39
 have b1 := cI (w.alloc (.cells #[.slice pp t.ps.length pc, .slice np t.ns.length nc] 39)) (.slice jy t.ps.length jA) (.slice jO t.ns.length jP) 39
 rw [World.size_alloc] at b0 b1
 have HP := aa (af.keep hP (hu.kept S))
 have HN := aa (ay.keep hN (hu.kept S))
 have XY := aa (af.keep kK (hu.kept T))
 have sV := aa (ay.keep lR (hu.kept T))
 have HU := aa hu
 have A0 := aa a0
 have A1 := aa a1
 have XZ := aa b0
 have X0 := aa b1
 have d0 : ((t.ps.length : Int) != (t.ps.length : Int)) = false := by simp
 have d1 : ((t.ns.length : Int) != (t.ns.length : Int)) = false := by simp
 clear hP hN kK lR hu bO aC
 go_enter Tryz.func36, Tryz.ntmps36
 go_wp2_with fail
 clear a0 a1 b0 b1
 generalize (w.alloc (.cells #[.slice pp t.ps.length pc, .slice np t.ns.length nc] 39)).alloc (.cells #[.slice jy t.ps.length jA, .slice jO t.ns.length jP] 39) = w1 at *
 go_loopw [5] (fun i wr => ∃ k : Nat, k ≤ t.ps.length ∧ i = .int .i64 k ∧ Hid (QD w1 wr)) (fun i _ => t.ps.length - (intOf i).toNat)
 case atStart => exact ⟨0, Nat.zero_le _, rfl, QD.refl _⟩
 case round =>
  obtain ⟨k, hk, rfl, hQ⟩ := hrel
  have a0 := hQ.out.up.cell A0.out
  have b0 := hQ.out.up.cell XZ.out
  by_cases hlt : k < t.ps.length
  ·obtain ⟨b, off, rfl, hc⟩ := bw (af.keep HP.out (hQ.out.kept S)) hlt
   obtain ⟨b2, off2, rfl, hc2⟩ := bw (af.keep XY.out (hQ.out.kept T)) hlt
   have i1 : (0 : Int) ≤ (k : Int) := by omega
   have i2 : (k : Int) < (t.ps.length : Int) := by omega
   generalize gi t.ps k = x at *
   have j1 : (x != x) = false := by simp
   go_wp2_with fail
   go_quiet (fail)
   go_wp2_with fail
   go_roundw
   case rel => exact ⟨k + 1, by omega, by go_num, hQ.out.drewN nq⟩
   case measure => simp [intOf]; omega
  ·obtain rfl : k = t.ps.length := by omega
   have X1 := aa hQ.out
   clear hlt hk
   go_wp2_with fail
   go_loopw [6] (fun i wr => ∃ k : Nat, k ≤ t.ns.length ∧ i = .int .i64 k ∧ Hid (QD w1 wr)) (fun i _ => t.ns.length - (intOf i).toNat)
   case atStart => exact ⟨0, Nat.zero_le _, rfl, X1.out⟩
   case round =>
    obtain ⟨k, hk, rfl, hQ⟩ := hrel
    have a1 := hQ.out.up.cell A1.out
    have b1 := hQ.out.up.cell X0.out
    by_cases hlt : k < t.ns.length
    ·obtain ⟨b, off, rfl, hc⟩ := cC (ay.keep HN.out (hQ.out.kept S)) hlt
     obtain ⟨b2, off2, rfl, hc2⟩ := cC (ay.keep sV.out (hQ.out.kept T)) hlt
     have i1 : (0 : Int) ≤ (k : Int) := by omega
     have i2 : (k : Int) < (t.ns.length : Int) := by omega
     generalize gs t.ns k = x at *
     have j1 : (x.toList == x.toList) = true := by simp
     go_wp2_with fail
     go_quiet (fail)
     go_wp2_with fail
     go_roundw
     case rel => exact ⟨k + 1, by omega, by go_num, hQ.out.drewN nq⟩
     case measure => simp [intOf]; omega
    ·obtain rfl : k = t.ns.length := by omega
     clear hlt hk
     go_wp2_with fail
     go_ret
     exact ⟨rfl, HU.out.trans hQ.out.up⟩
end
section
open Go.RowKit Go.Deep
theorem Ai (w : World) (cs : Array Value) (T : TypeId) (xs : List Int) (hcs : cs.toList = xs.map (Value.int .i64)) (n : Nat) (hn : n = xs.length) : af Any (w.alloc (.cells cs T)) (.slice (some ⟨w.heap.size, 0, none⟩) n n) xs := by
 subst hn
 refine ⟨_, _, rfl, Nat.le_refl _, .inr ⟨_, 0, rfl, trivial, fun k hk => ?_⟩⟩
 rw [Nat.zero_add, bf, ← Array.getElem?_toList, hcs]
 simp [gi, hk]
theorem Sb (w : World) (cs : Array Value) (T : TypeId) (xs : List ByteArray) (hcs : cs.toList = xs.map Value.string) (n : Nat) (hn : n = xs.length) : ay Any (w.alloc (.cells cs T)) (.slice (some ⟨w.heap.size, 0, none⟩) n n) xs := by
 subst hn
 refine ⟨_, _, rfl, Nat.le_refl _, .inr ⟨_, 0, rfl, trivial, fun k hk => ?_⟩⟩
 rw [Nat.zero_add, bf, ← Array.getElem?_toList, hcs]
 simp [gs, hk]
end
section
section
variable {names : List ByteArray} {l : List DF} {S : List (List Int)}
def Lv (names : List ByteArray) (s : RT) (x : List Int) : Prop := ∀ y, y ∈ aZ s ↔ ∃ b : Nat, (b : Int) ∈ x ∧ y = gs names b
end
end
section
open Go.RowKit Go.Deep
theorem qF (w : World) (o : Option Nat) : w.grownBy w o := ⟨rfl, rfl, rfl, Nat.le_refl _, fun _ _ _ => rfl⟩
theorem gh {w w' x : World} {o : Option Nat} (h : w.grownBy w' o) (k : w'.grownBy x o) : w.grownBy x o :=
 ⟨k.os.trans h.os, k.tape.trans h.tape, k.output.trans h.output, Nat.le_trans h.size k.size, fun b hb hn => (k.block b (Nat.lt_of_lt_of_le hb h.size) hn).trans (h.block b hb hn)⟩
theorem kL {w w' : World} (h : Up w w') (o : Option Nat) : w.grownBy w' o := ⟨h.os, h.tape, h.output, h.size, fun b hb _ => Below.block h b hb⟩
theorem Eb {w : World} {g o : Nat} {z : Value} : w.grownBy (w.setCell ⟨g, o, none⟩ z) (some g) :=
 ⟨rfl, rfl, rfl, by rw [World.size_setCell]; exact Nat.le_refl _, fun b _ hn => blk_setCell_other _ _ _ _ fun e => hn (by rw [e])⟩
theorem BO {g : Nat} : ∀ (vs : List Value) (o : Nat) (w : World), w.grownBy (w.setCells g o vs) (some g)
 | [], _, w => qF w _
 | z :: vs, o, w => by rw [World.setCells]; exact gh Eb (BO vs (o + 1) _)
theorem Ec {base : Nat} {e : TypeId} {w : World} {g n cap : Nat} {xs : List Value} (h : ah base e w (.slice (some ⟨g, 0, none⟩) n cap) xs) {m : Nat} (hm : m ≤ n) : ah base e w (.slice (some ⟨g, 0, none⟩) m cap) (xs.take m) := by
 obtain ⟨h1, h2⟩ := h
 rcases h2 with ⟨e1, _⟩ | ⟨g2, bJ, cur, e1, hg, hc, hn, hcm, hcs, ht⟩
 ·cases e1
 ·injection e1 with a1 a2 a3
  injection a1 with a1
  injection a1 with a1
  subst a1; subst a3
  have hnx : n = xs.length := a2
  have hl : (xs.take m).length = m := by rw [List.length_take]; omega
  refine ⟨by rw [Nat.mul_one], .inr ⟨g, cap, cur, by rw [hl], hg, hc, by omega, hcm, hcs, ?_⟩⟩
  rw [hl, Nat.mul_one, ← ht, List.take_take]
  congr 1; omega
theorem O2 {base : Nat} {e : TypeId} {w : World} {g m cap o : Nat} {xs : List Value} {z : Value} (h : ah base e w (.slice (some ⟨g, 0, none⟩) m cap) xs) (ho : m ≤ o) : ah base e (w.setCell ⟨g, o, none⟩ z) (.slice (some ⟨g, 0, none⟩) m cap) xs := by
 obtain ⟨h1, h2⟩ := h
 rcases h2 with ⟨e1, _⟩ | ⟨g2, bJ, cur, e1, hg, hc, hn, hcm, hcs, ht⟩
 ·cases e1
 ·injection e1 with a1 a2 a3
  injection a1 with a1
  injection a1 with a1
  subst a1; subst a3
  refine ⟨h1, .inr ⟨g, cap, cur.setIfInBounds o z, by rw [a2], hg, ?_, hn, hcm, by rw [Array.size_setIfInBounds]; exact hcs, ?_⟩⟩
  ·simp [World.setCell, Array.getElem?_modify, hc]
  ·have hmx : m = xs.length := a2
   rw [Array.toList_setIfInBounds, List.take_set_of_le (by omega)]; exact ht
theorem BP {base : Nat} {e : TypeId} {g m cap : Nat} {xs : List Value} : ∀ (vs : List Value) (o : Nat) (w : World), m ≤ o → ah base e w (.slice (some ⟨g, 0, none⟩) m cap) xs → ah base e (w.setCells g o vs) (.slice (some ⟨g, 0, none⟩) m cap) xs
 | [], _, _, _, h => h
 | z :: vs, o, w, ho, h => by rw [World.setCells]; exact BP vs (o + 1) _ (by omega) (O2 h ho)
theorem mS {base : Nat} {e : TypeId} {w : World} {g n cap : Nat} {xs : List Value} (h : ah base e w (.slice (some ⟨g, 0, none⟩) n cap) xs) {j : Nat} {u : Value} (hj : xs[j]? = some u) : w.cell? ⟨g, j, none⟩ = some u ∧ w.frozen? ⟨g, j, none⟩ = false := by
 have hl := (List.getElem?_eq_some_iff.1 hj).1
 obtain ⟨g2, bJ, e1, _, _, hc, hf, _⟩ := h.set hl
 injection e1 with a1
 injection a1 with a1
 injection a1 with a1
 subst a1
 refine ⟨?_, hf⟩
 rw [hc]
 congr 1
 rw [List.getD_eq_getElem?_getD, hj]; rfl
section
variable {A : Nat → Nat} {P : Nat → Bool}
end
end
section
section
variable {F : aT} {n : Nat} {rk : Nat → Nat}
theorem Sc (h : Wf F n rk) : ∀ {d i : Nat} (p : Option Nat) (np : Int) (s : vY), i < n → rk i ≤ d → (bE F rk i).Nodup → p ≠ some i → s.mp.lookup p = some np → (∀ j ∈ bE F rk i, s.mp.lookup (some j) = none) →
  Fa s ((dQ F rk i p).foldl (ny F) s) (psR (aR F rk i) s.ps.length np) (cm (aR F rk i)) (bE F rk i) := by
 intro d
 induction d with
 | zero =>
  intro i p np s hi hd X2 hp hl hn
  have hk : F.kids i = [] := by
   cases hk : F.kids i with
   | nil => rfl
   | cons k l => have := (h.kid i hi k (by rw [hk]; simp)).2; omega
  rw [gA h hi, cQ h hi, bW h hi, hk]
  have hni := hn i (by rw [bW h hi]; simp)
  refine ⟨?_, ?_, fun k hk2 => dG _ (hk2 i (by simp))⟩
  ·show s.ps ++ [((ku s.mp (some i) _).lookup p).getD 0] = _
   rw [dG _ hp, hl]; rfl
  ·rfl
 | succ d ih =>
  intro i p np s hi hd X2 hp hl hn
  rw [gA h hi, cQ h hi, bW h hi]
  have hni := hn i (by rw [bW h hi]; simp)
  have dZ := X2
  rw [bW h hi, List.nodup_cons] at dZ
  have key : ∀ (l : List Nat), (∀ k ∈ l, k ∈ F.kids i) → (l.flatMap fun k => bE F rk k).Nodup → (∀ k ∈ l, i ∉ bE F rk k) → ∀ (s2 : vY) (own : Nat), s2.mp.lookup (some i) = some (own : Int) → (∀ k ∈ l, ∀ j ∈ bE F rk k, s2.mp.lookup (some j) = none) →
    Fa s2 ((l.flatMap fun k => dQ F rk k (some i)).foldl (ny F) s2) (psRs (l.map (aR F rk)) own s2.ps.length) (b7 (l.map (aR F rk))) (l.flatMap fun k => bE F rk k) := by
   intro l
   induction l with
   | nil => intro _ _ _ s2 own _ _; exact ⟨by simp [psRs], by simp [b7], fun _ _ => rfl⟩
   | cons c l ihl =>
    intro hin hdl hil s2 own ho hno
    have hcc := h.kid i hi c (hin c (by simp))
    rw [List.flatMap_cons, List.foldl_append, List.flatMap_cons]
    rw [List.flatMap_cons, List.nodup_append] at hdl
    have h1 := ih (some i) (own : Int) s2 hcc.1 (by omega) hdl.1 (fun e => by
     injection e with e
     have := hcc.2; rw [e] at this; omega) ho (hno c (by simp))
    have h2 := ihl (fun k hk => hin k (by simp [hk])) hdl.2.1 (fun k hk => hil k (by simp [hk])) ((dQ F rk c (some i)).foldl (ny F) s2) own
     ((h1.old (some i) (fun j hj e => by injection e with e; subst e; exact hil c (by simp) hj)).trans ho)
     (fun k hk j hj => (h1.old (some j) (fun j2 hj2 e => by
      injection e with e; subst e
      exact hdl.2.2 j hj2 j (List.mem_flatMap.2 ⟨k, hk, hj⟩) rfl)).trans (hno k (by simp [hk]) j hj))
    refine ⟨?_, ?_, fun k hk => ?_⟩
    ·rw [h2.ps, h1.ps, List.map_cons, psRs, List.append_assoc, List.length_append, kX]
    ·rw [h2.ns, h1.ns, List.map_cons, b7, List.append_assoc]
    ·rw [h2.old k (fun j hj => hk j (by simp [hj])), h1.old k (fun j hj => hk j (by simp [hj]))]
  have hin : ∀ k ∈ F.kids i, i ∉ bE F rk k := fun k hk hm => dZ.1 (List.mem_flatMap.2 ⟨k, hk, hm⟩)
  have h3 := key (F.kids i) (fun k hk => hk) dZ.2 hin (ny F s (i, p)) s.ps.length (sN _ hni) (fun k hk j hj => by
   show (ku s.mp (some i) _).lookup (some j) = none
   rw [dG _ (fun e => by injection e with e; subst e; exact hin k hk hj)]
   exact hn j (by rw [bW h hi]; exact List.mem_cons_of_mem _ (List.mem_flatMap.2 ⟨k, hk, hj⟩)))
  have hps : (ny F s (i, p)).ps = s.ps ++ [np] := by
   show s.ps ++ [((ku s.mp (some i) _).lookup p).getD 0] = _
   rw [dG _ hp, hl]; rfl
  rw [List.foldl_cons]
  refine ⟨?_, ?_, fun k hk => ?_⟩
  ·rw [h3.ps, hps, psR, List.append_assoc, List.length_append]; rfl
  ·rw [h3.ns]
   show (s.ns ++ [F.nm i]) ++ _ = _
   rw [cm, List.append_assoc]; rfl
  ·rw [h3.old k (fun j hj => hk j (by simp [hj]))]
   exact dG _ (hk i (by simp))
theorem JH (h : Wf F n rk) {i : Nat} (hi : i < n) (dZ : (bE F rk i).Nodup) : fG F rk i = flat (aR F rk i) := by
 have h1 := Sc h (d := rk i) none (-1) CF hi (Nat.le_refl _) dZ (fun e => by cases e) rfl (fun j _ => rfl)
 unfold fG flat cM
 rw [h1.ps, h1.ns]
 rfl
end
end
section
open Go.RowKit Go.Deep
deriving instance DecidableEq for DF
end
section
open Go.RowKit Go.Deep
end
section
open Go.RowKit Go.Deep
end
section
open Go.RowKit Go.Deep
section
variable {A : Nat → Nat} {P : Nat → Bool} {base : Nat} {w wr : World} {g cap : Nat} {ks : List Nat} {X : List Value}
end
theorem Sd {base : Nat} {e : TypeId} {w : World} {g n cap : Nat} {xs : List Value} (h : ah base e w (.slice (some ⟨g, 0, none⟩) n cap) xs) : n ≤ cap := by
 obtain ⟨h1, h2⟩ := h
 rcases h2 with ⟨e1, _⟩ | ⟨g2, bJ, cur, e1, hg, hc, hn, _⟩
 ·cases e1
 ·injection e1 with a1 a2 a3
  omega
end
section
section
variable {F : aT} {n : Nat} {rk : Nat → Nat} {P : Nat → Bool}
theorem O3 (h : Wf F n rk) {i : Nat} (hi : i < n) (hg : gC (aR F rk i)) : aK (aR F rk i) ≤ n := by
 rw [← jE, sO h hi (Nat.le_refl _), List.length_map]
 exact oD (BN h _ i (Nat.le_refl _) hi hg) fun x hx => mQ h hi (Nat.le_refl _) ((cU h hi (Nat.le_refl _)).1 hx)
end
end
section
section
variable {names : List ByteArray} {l : List DF}
theorem Ks {s : RT} {x : List Int} (h : Lv names s x) : Lv names (sortR s) x := fun y => by rw [(qu s).mem_iff]; exact h y
end
end
end Go.Proofs.YtpnmblnahjjmhaaGreat
