/- Costs of rose trees: what an assignment of states to all nodes costs; under sorting, contracting, moving the root; plain. slices.IndexFunc, slices.DeleteFunc at nodes. The contract of slices.DeleteFunc at nodes. The tree of a forest whose rose tree is good: plain. -/
import Derived.Test.YtcaialhoclodjaaQ18
import Derived.Test.YtcaialhoclodjaaQ16
import Derived.Test.YtcaialhoclodjaaQ17
import Derived.Lib.SliceRun
namespace Go.Proofs.Ytcaialhoclodjaa
section
variable (m : Nat) (cost : Nat → Nat → Int) (lab : ByteArray → Int)
mutual
/-- Some assignment with the root's state s costs c. -/
def AttR : RT → Nat → Int → Prop
  | .node nm ks, s, c => s < m ∧ (ks = [] → 0 ≤ lab nm → lab nm = (s : Int)) ∧ AttL ks s c
def AttL : List RT → Nat → Int → Prop
  | [], _, c => c = 0
  | k :: ks, s, c => ∃ u a b, AttR k u a ∧ AttL ks s b ∧ c = cost s u + a + b
end
/-- Two trees, joined by an edge. -/
def VatR (A B : RT) (c : Int) : Prop := ∃ s u a b, AttR m cost lab A s a ∧ AttR m cost lab B u b ∧ c = a + cost s u + b
end
structure Metr (m : Nat) (cost : Nat → Nat → Int) : Prop where
  nn : ∀ a b, a < m → b < m → 0 ≤ cost a b
  z : ∀ a, a < m → cost a a = 0
  sym : ∀ a b, a < m → b < m → cost a b = cost b a
  tri : ∀ a b c, a < m → b < m → c < m → cost a c ≤ cost a b + cost b c
section
variable {m : Nat} {cost : Nat → Nat → Int} {lab : ByteArray → Int}
theorem attR_lt : ∀ {r : RT} {s : Nat} {c : Int}, AttR m cost lab r s c → s < m
  | .node nm ks, s, c, h => by rw [AttR] at h; exact h.1
theorem attL_cons {k : RT} {ks : List RT} {s : Nat} {c : Int} : AttL m cost lab (k :: ks) s c ↔ ∃ u a b, AttR m cost lab k u a ∧ AttL m cost lab ks s b ∧ c = cost s u + a + b := by rw [AttL]
theorem attL_nil {s : Nat} {c : Int} : AttL m cost lab [] s c ↔ c = 0 := by rw [AttL]
theorem attR_node {nm : ByteArray} {ks : List RT} {s : Nat} {c : Int} : AttR m cost lab (.node nm ks) s c ↔ s < m ∧ (ks = [] → 0 ≤ lab nm → lab nm = (s : Int)) ∧ AttL m cost lab ks s c := by rw [AttR]
theorem attL_append {s : Nat} : ∀ {l l2 : List RT} {c : Int}, AttL m cost lab (l ++ l2) s c ↔ ∃ a b, AttL m cost lab l s a ∧ AttL m cost lab l2 s b ∧ c = a + b
  | [], l2, c => by
    constructor
    · intro h; exact ⟨0, c, attL_nil.2 rfl, h, by omega⟩
    · rintro ⟨a, b, h1, h2, rfl⟩
      rw [attL_nil] at h1; subst h1
      rw [Int.zero_add]; exact h2
  | k :: l, l2, c => by
    rw [List.cons_append, attL_cons]
    constructor
    · rintro ⟨u, a, b, h1, h2, rfl⟩
      obtain ⟨a2, b2, h3, h4, rfl⟩ := attL_append.1 h2
      exact ⟨cost s u + a + a2, b2, attL_cons.2 ⟨u, a, a2, h1, h3, rfl⟩, h4, by omega⟩
    · rintro ⟨a, b, h1, h2, rfl⟩
      obtain ⟨u, a1, a2, h3, h4, rfl⟩ := attL_cons.1 h1
      exact ⟨u, a1, a2 + b, h3, attL_append.2 ⟨a2, b, h4, h2, rfl⟩, by omega⟩
theorem attL_perm {s : Nat} {l l2 : List RT} (h : l.Perm l2) : ∀ {c : Int}, AttL m cost lab l s c → AttL m cost lab l2 s c := by
  induction h with
  | nil => intro c h; exact h
  | cons x _ ih =>
    intro c h
    obtain ⟨u, a, b, h1, h2, rfl⟩ := attL_cons.1 h
    exact attL_cons.2 ⟨u, a, b, h1, ih h2, rfl⟩
  | swap x y l =>
    intro c h
    obtain ⟨u, a, b, h1, h2, rfl⟩ := attL_cons.1 h
    obtain ⟨v, a2, b2, h3, h4, rfl⟩ := attL_cons.1 h2
    exact attL_cons.2 ⟨v, a2, cost s u + a + b2, h3, attL_cons.2 ⟨u, a, b2, h1, h4, rfl⟩, by omega⟩
  | trans _ _ i1 i2 => intro c h; exact i2 (i1 h)
mutual
theorem attR_nn (M : Metr m cost) : ∀ (r : RT) (s : Nat) (c : Int), AttR m cost lab r s c → 0 ≤ c
  | .node nm ks, s, c, h => by rw [AttR] at h; exact attL_nn M ks s c h.1 h.2.2
theorem attL_nn (M : Metr m cost) : ∀ (ks : List RT) (s : Nat) (c : Int), s < m → AttL m cost lab ks s c → 0 ≤ c
  | [], s, c, _, h => by rw [AttL] at h; omega
  | k :: ks, s, c, hs, h => by
    rw [AttL] at h
    obtain ⟨u, a, b, h1, h2, rfl⟩ := h
    have := attR_nn M k u a h1
    have := attL_nn M ks s b hs h2
    have := M.nn s u hs (attR_lt h1)
    omega
end
mutual
theorem att_sort : ∀ (r : RT) (s : Nat) (c : Int), AttR m cost lab (sortR r) s c ↔ AttR m cost lab r s c
  | .node nm ks, s, c => by
    rw [sortR, attR_node, attR_node, attL_sort ks s c]
    constructor
    · rintro ⟨h1, h2, h3⟩; exact ⟨h1, fun e => h2 (sortRs_nil.2 e), h3⟩
    · rintro ⟨h1, h2, h3⟩; exact ⟨h1, fun e => h2 (sortRs_nil.1 e), h3⟩
theorem attL_sort : ∀ (rs : List RT) (s : Nat) (c : Int), AttL m cost lab (sortRs rs) s c ↔ AttL m cost lab rs s c
  | [], s, c => by rw [sortRs]
  | r :: rs, s, c => by
    rw [sortRs]
    have hp := insR_perm (sortR r) (sortRs rs)
    constructor
    · intro h
      obtain ⟨u, a, b, h1, h2, e⟩ := attL_cons.1 (attL_perm hp h)
      exact attL_cons.2 ⟨u, a, b, (att_sort r u a).1 h1, (attL_sort rs s b).1 h2, e⟩
    · intro h
      obtain ⟨u, a, b, h1, h2, e⟩ := attL_cons.1 h
      exact attL_perm hp.symm (attL_cons.2 ⟨u, a, b, (att_sort r u a).2 h1, (attL_sort rs s b).2 h2, e⟩)
end
/-- Contracting does not cost more, seen from any state above. -/
theorem contr_le (M : Metr m cost) : ∀ (d : Nat) (r : RT), sizeR r ≤ d → ∀ s c, AttR m cost lab r s c → ∃ u c', AttR m cost lab (contrR r) u c' ∧ ∀ p, p < m → cost p u + c' ≤ cost p s + c
  | 0, .node nm ks, h => by rw [sizeR] at h; omega
  | d + 1, .node nm ks, h => by
    intro s c hc
    rw [attR_node] at hc
    obtain ⟨hs, hl, hk⟩ := hc
    by_cases h1 : ks.length = 1
    · obtain ⟨k, rfl⟩ := List.length_eq_one_iff.1 h1
      rw [contr_one]
      obtain ⟨u, a, b, h2, h3, rfl⟩ := attL_cons.1 hk
      rw [attL_nil] at h3; subst h3
      obtain ⟨v, c', h4, h5⟩ := contr_le M d k (by have := size_kid (nm := nm) (ks := [k]) (k := k) (by simp); omega) u a h2
      refine ⟨v, c', h4, fun p hp => ?_⟩
      have := h5 p hp
      have := M.tri p s u hp hs (attR_lt h2)
      omega
    · rw [contr_many h1]
      have hall : ∀ k ∈ ks, ∀ s c, AttR m cost lab k s c → ∃ u c', AttR m cost lab (contrR k) u c' ∧ ∀ p, p < m → cost p u + c' ≤ cost p s + c := fun k hk => contr_le M d k (by have := size_kid (nm := nm) hk; omega)
      have key : ∀ (l : List RT), (∀ k ∈ l, ∀ s c, AttR m cost lab k s c → ∃ u c', AttR m cost lab (contrR k) u c' ∧ ∀ p, p < m → cost p u + c' ≤ cost p s + c) → ∀ c, AttL m cost lab l s c → ∃ c', AttL m cost lab (l.map contrR) s c' ∧ c' ≤ c := fun l => by
        induction l with
        | nil => intro _ c h; exact ⟨c, h, Int.le_refl _⟩
        | cons k l ih =>
          intro ha c h
          obtain ⟨u, a, b, h2, h3, rfl⟩ := attL_cons.1 h
          obtain ⟨v, a', h4, h5⟩ := ha k (by simp) u a h2
          obtain ⟨b', h6, h7⟩ := ih (fun k hk => ha k (by simp [hk])) b h3
          refine ⟨cost s v + a' + b', attL_cons.2 ⟨v, a', b', h4, h6, rfl⟩, ?_⟩
          have := h5 s hs
          omega
      obtain ⟨c', h6, h7⟩ := key ks hall c hk
      exact ⟨s, c', attR_node.2 ⟨hs, fun e => hl (by simpa using e), h6⟩, fun p _ => by omega⟩
/-- What the contracted tree costs, the tree can cost. -/
theorem contr_ge (M : Metr m cost) : ∀ (d : Nat) (r : RT), sizeR r ≤ d → ∀ s c, AttR m cost lab (contrR r) s c → AttR m cost lab r s c
  | 0, .node nm ks, h => by rw [sizeR] at h; omega
  | d + 1, .node nm ks, h => by
    intro s c hc
    by_cases h1 : ks.length = 1
    · obtain ⟨k, rfl⟩ := List.length_eq_one_iff.1 h1
      rw [contr_one] at hc
      have h2 := contr_ge M d k (by have := size_kid (nm := nm) (ks := [k]) (k := k) (by simp); omega) s c hc
      refine attR_node.2 ⟨attR_lt h2, fun e => (by cases e), attL_cons.2 ⟨s, c, 0, h2, attL_nil.2 rfl, ?_⟩⟩
      have := M.z s (attR_lt h2)
      omega
    · rw [contr_many h1, attR_node] at hc
      obtain ⟨hs, hl, hk⟩ := hc
      have hall : ∀ k ∈ ks, ∀ s c, AttR m cost lab (contrR k) s c → AttR m cost lab k s c := fun k hk => contr_ge M d k (by have := size_kid (nm := nm) hk; omega)
      have key : ∀ (l : List RT), (∀ k ∈ l, ∀ s c, AttR m cost lab (contrR k) s c → AttR m cost lab k s c) → ∀ c, AttL m cost lab (l.map contrR) s c → AttL m cost lab l s c := fun l => by
        induction l with
        | nil => intro _ c h; exact h
        | cons k l ih =>
          intro ha c h
          obtain ⟨u, a, b, h2, h3, rfl⟩ := attL_cons.1 h
          exact attL_cons.2 ⟨u, a, b, ha k (by simp) u a h2, ih (fun k hk => ha k (by simp [hk])) b h3, rfl⟩
      exact attR_node.2 ⟨hs, fun e => hl (by rw [e]; rfl), key ks hall c hk⟩
/-- The root moves over one edge. -/
theorem vat_step (M : Metr m cost) {nm nm' : ByteArray} {ks K : List RT} {x B : RT} (hp : ks.Perm (x :: K)) (c : Int) : VatR m cost lab (.node nm ks) B c ↔ VatR m cost lab x (.node nm' (K ++ [B])) c := by
  have hne : ks ≠ [] := fun e => by rw [e] at hp; have := hp.length_eq; simp at this
  constructor
  · rintro ⟨s, u, a, b, h1, h2, rfl⟩
    rw [attR_node] at h1
    obtain ⟨v, a1, a2, h3, h4, rfl⟩ := attL_cons.1 (attL_perm hp h1.2.2)
    refine ⟨v, s, a1, a2 + (cost s u + b), h3, attR_node.2 ⟨h1.1, fun e => (by simp at e), attL_append.2 ⟨a2, cost s u + b, h4, attL_cons.2 ⟨u, b, 0, h2, attL_nil.2 rfl, by omega⟩, rfl⟩⟩, ?_⟩
    have := M.sym s v h1.1 (attR_lt h3)
    omega
  · rintro ⟨v, s, a1, a, h1, h2, rfl⟩
    rw [attR_node] at h2
    obtain ⟨a2, b1, h3, h4, rfl⟩ := attL_append.1 h2.2.2
    obtain ⟨u, b, z, h5, h6, rfl⟩ := attL_cons.1 h4
    rw [attL_nil] at h6; subst h6
    refine ⟨s, u, cost s v + a1 + a2, b, attR_node.2 ⟨h2.1, fun e => absurd e hne, attL_perm hp.symm (attL_cons.2 ⟨v, a1, a2, h1, h3, rfl⟩)⟩, h5, ?_⟩
    have := M.sym s v h2.1 (attR_lt h1)
    omega
theorem vat_start (M : Metr m cost) {nm nm' : ByteArray} {ks K : List RT} {x : RT} (hp : ks.Perm (x :: K)) (hl : K = [] → lab nm' < 0) (c : Int) : (∃ s, AttR m cost lab (.node nm ks) s c) ↔ VatR m cost lab x (.node nm' K) c := by
  have hne : ks ≠ [] := fun e => by rw [e] at hp; have := hp.length_eq; simp at this
  constructor
  · rintro ⟨s, h1⟩
    rw [attR_node] at h1
    obtain ⟨v, a1, a2, h3, h4, rfl⟩ := attL_cons.1 (attL_perm hp h1.2.2)
    refine ⟨v, s, a1, a2, h3, attR_node.2 ⟨h1.1, fun e h0 => (by have := hl e; omega), h4⟩, ?_⟩
    have := M.sym s v h1.1 (attR_lt h3)
    omega
  · rintro ⟨v, s, a1, a2, h1, h2, rfl⟩
    rw [attR_node] at h2
    refine ⟨s, attR_node.2 ⟨h2.1, fun e => absurd e hne, attL_perm hp.symm (attL_cons.2 ⟨v, a1, a2, h1, h2.2.2, ?_⟩)⟩⟩
    have := M.sym s v h2.1 (attR_lt h1)
    omega
/-- The new root. -/
theorem vat_end1 (M : Metr m cost) {nm : ByteArray} {x W : RT} {c : Int} (h : VatR m cost lab x W c) : ∃ s, AttR m cost lab (.node nm [x, W]) s c := by
  obtain ⟨s, u, a, b, h1, h2, rfl⟩ := h
  refine ⟨s, attR_node.2 ⟨attR_lt h1, fun e => (by cases e), attL_cons.2 ⟨s, a, cost s u + b, h1, attL_cons.2 ⟨u, b, 0, h2, attL_nil.2 rfl, by omega⟩, ?_⟩⟩⟩
  have := M.z s (attR_lt h1)
  omega
theorem vat_end2 (M : Metr m cost) {nm : ByteArray} {x W : RT} {s : Nat} {c : Int} (h : AttR m cost lab (.node nm [x, W]) s c) : ∃ c', VatR m cost lab x W c' ∧ c' ≤ c := by
  rw [attR_node] at h
  obtain ⟨hs, _, h⟩ := h
  obtain ⟨u, a, b, h1, h2, rfl⟩ := attL_cons.1 h
  obtain ⟨v, a2, b2, h3, h4, rfl⟩ := attL_cons.1 h2
  rw [attL_nil] at h4; subst h4
  refine ⟨a + cost u v + a2, ⟨u, v, a, a2, h1, h3, rfl⟩, ?_⟩
  have := M.tri u s v (attR_lt h1) hs (attR_lt h3)
  have := M.sym u s (attR_lt h1) hs
  omega
end
end Go.Proofs.Ytcaialhoclodjaa
namespace Go.Proofs.Ytcaialhoclodjaa
open Go.RowKit Go.Deep
theorem grown_refl (w : World) (o : Option Nat) : w.grownBy w o := ⟨rfl, rfl, rfl, Nat.le_refl _, fun _ _ _ => rfl⟩
theorem grown_trans {w w' x : World} {o : Option Nat} (h : w.grownBy w' o) (k : w'.grownBy x o) : w.grownBy x o :=
  ⟨k.os.trans h.os, k.tape.trans h.tape, k.output.trans h.output, Nat.le_trans h.size k.size, fun b hb hn => (k.block b (Nat.lt_of_lt_of_le hb h.size) hn).trans (h.block b hb hn)⟩
theorem grown_up {w w' : World} (h : Up w w') (o : Option Nat) : w.grownBy w' o := ⟨h.os, h.tape, h.output, h.size, fun b hb _ => Below.block h b hb⟩
theorem grown_set {w : World} {g o : Nat} {z : Value} : w.grownBy (w.setCell ⟨g, o, none⟩ z) (some g) :=
  ⟨rfl, rfl, rfl, by rw [World.size_setCell]; exact Nat.le_refl _, fun b _ hn => blk_setCell_other _ _ _ _ fun e => hn (by rw [e])⟩
theorem grown_sets {g : Nat} : ∀ (vs : List Value) (o : Nat) (w : World), w.grownBy (w.setCells g o vs) (some g)
  | [], _, w => grown_refl w _
  | z :: vs, o, w => by rw [World.setCells]; exact grown_trans grown_set (grown_sets vs (o + 1) _)
theorem owns_take {base : Nat} {e : TypeId} {w : World} {g n cap : Nat} {xs : List Value} (h : Owns base e w (.slice (some ⟨g, 0, none⟩) n cap) xs) {m : Nat} (hm : m ≤ n) : Owns base e w (.slice (some ⟨g, 0, none⟩) m cap) (xs.take m) := by
  obtain ⟨h1, h2⟩ := h
  rcases h2 with ⟨e1, _⟩ | ⟨g2, cap2, cur, e1, hg, hc, hn, hcm, hcs, ht⟩
  · cases e1
  · injection e1 with a1 a2 a3
    injection a1 with a1
    injection a1 with a1
    subst a1; subst a3
    have hnx : n = xs.length := a2
    have hl : (xs.take m).length = m := by rw [List.length_take]; omega
    refine ⟨by rw [Nat.mul_one], .inr ⟨g, cap, cur, by rw [hl], hg, hc, by omega, hcm, hcs, ?_⟩⟩
    rw [hl, Nat.mul_one, ← ht, List.take_take]
    congr 1; omega
theorem owns_tail {base : Nat} {e : TypeId} {w : World} {g m cap o : Nat} {xs : List Value} {z : Value} (h : Owns base e w (.slice (some ⟨g, 0, none⟩) m cap) xs) (ho : m ≤ o) : Owns base e (w.setCell ⟨g, o, none⟩ z) (.slice (some ⟨g, 0, none⟩) m cap) xs := by
  obtain ⟨h1, h2⟩ := h
  rcases h2 with ⟨e1, _⟩ | ⟨g2, cap2, cur, e1, hg, hc, hn, hcm, hcs, ht⟩
  · cases e1
  · injection e1 with a1 a2 a3
    injection a1 with a1
    injection a1 with a1
    subst a1; subst a3
    refine ⟨h1, .inr ⟨g, cap, cur.setIfInBounds o z, by rw [a2], hg, ?_, hn, hcm, by rw [Array.size_setIfInBounds]; exact hcs, ?_⟩⟩
    · simp [World.setCell, Array.getElem?_modify, hc]
    · have hmx : m = xs.length := a2
      rw [Array.toList_setIfInBounds, List.take_set_of_le (by omega)]; exact ht
theorem owns_tails {base : Nat} {e : TypeId} {g m cap : Nat} {xs : List Value} : ∀ (vs : List Value) (o : Nat) (w : World), m ≤ o → Owns base e w (.slice (some ⟨g, 0, none⟩) m cap) xs → Owns base e (w.setCells g o vs) (.slice (some ⟨g, 0, none⟩) m cap) xs
  | [], _, _, _, h => h
  | z :: vs, o, w, ho, h => by rw [World.setCells]; exact owns_tails vs (o + 1) _ (by omega) (owns_tail h ho)
theorem owns_cell {base : Nat} {e : TypeId} {w : World} {g n cap : Nat} {xs : List Value} (h : Owns base e w (.slice (some ⟨g, 0, none⟩) n cap) xs) {j : Nat} {u : Value} (hj : xs[j]? = some u) : w.cell? ⟨g, j, none⟩ = some u ∧ w.frozen? ⟨g, j, none⟩ = false := by
  have hl := (List.getElem?_eq_some_iff.1 hj).1
  obtain ⟨g2, cap2, e1, _, _, hc, hf, _⟩ := h.set hl
  injection e1 with a1
  injection a1 with a1
  injection a1 with a1
  subst a1
  refine ⟨?_, hf⟩
  rw [hc]
  congr 1
  rw [List.getD_eq_getElem?_getD, hj]; rfl
section
variable {A : Nat → Nat} {P : Nat → Bool}
set_option maxRecDepth 100000 in
set_option maxHeartbeats 1000000 in
theorem index_node_t (g : Nat) (lb : Array Value) (eg : ∀ args w, (callFunc g args).run Try.prog w = .ok (.enter g args) w) {base : Nat} {w : World} {bk cap : Nat} {ks : List Nat} (h : Owns base 66 w (.slice (some ⟨bk, 0, none⟩) ks.length cap) (ks.map (nptr A))) (hn : ks.length ≤ 1000000)
    (hp : ∀ k ∈ ks, ∀ q, Calls Try.prog g (#[.pointer (some ⟨A k, 0, none⟩)] ++ lb) (w.drewN q) fun e w' => e = .returned (.bool (P k)) ∧ ∃ m, w' = w.drewN m) :
    Calls Try.prog 66 #[.slice (some ⟨bk, 0, none⟩) ks.length cap, .func (.func g) #[] lb] w fun e w' => e = .returned (.int .i64 (firstIx (fun j => P (ks.getD j 0)) ks.length)) ∧ ∃ m, w' = w.drewN m := by
  have HP := Lib.hid hp
  have HO := Lib.hid h
  clear h hp
  go_enter Try.func66, Try.ntmps66
  go_wp2_with fail
  go_loopw [5, 8] (fun _ i wr => ∃ k : Nat, k ≤ ks.length ∧ i = .int .i64 k ∧ Hid (QD w wr) ∧ Hid (∀ j, j < k → P (ks.getD j 0) = false)) (fun _ i _ => ks.length - (intOf i).toNat)
  case atStart => exact ⟨0, Nat.zero_le _, rfl, QD.refl _, fun j hj => absurd hj (Nat.not_lt_zero _)⟩
  case round =>
    obtain ⟨k, hk, rfl, hQ, hd⟩ := hrel
    obtain ⟨q, hq⟩ := hQ.out
    subst hq
    by_cases hlt : k < ks.length
    · have hke : ks[k]? = some (ks.getD k 0) := by rw [List.getD_eq_getElem?_getD, List.getElem?_eq_getElem hlt]; rfl
      have hx := (owns_cell (HO.out.same2 (w' := w.drewN q) fun _ _ => rfl) (j := k) (u := nptr A (ks.getD k 0)) (by rw [List.getElem?_map, hke]; rfl)).1
      simp only [nptr] at hx
      have i1 : (0 : Int) ≤ (k : Int) := by omega
      have i2 : (k : Int) < (ks.length : Int) := by omega
      have HPK := Lib.hid (HP.out (ks.getD k 0) (List.mem_of_getElem? hke) q)
      have HLT := Lib.hid hlt
      have HPV : Hid (∀ j, j < k + 1 → P (ks.getD k 0) = false → P (ks.getD j 0) = false) := fun j hj hf => if e : j = k then by subst e; exact hf else hd.out j (by omega)
      have HHI : Hid (P (ks.getD k 0) = true → firstIx (fun j => P (ks.getD j 0)) ks.length = k) := fun ht => firstIx_at hlt hd.out ht
      clear hke
      generalize ks.getD k 0 = c at *
      cases hv : P c
      · rw [hv] at HPK
        have HN : Hid (∀ j, j < k + 1 → P (ks.getD j 0) = false) := fun j hj => HPV.out j hj hv
        clear hv
        go_wp2_with fail
        refine HPK.out.mono ?_
        rintro e w' ⟨rfl, m, rfl⟩
        go_wp2_with fail
        go_roundw
        case rel => exact ⟨k + 1, HLT.out, by go_num, ⟨m, rfl⟩, HN.out⟩
        case measure => have := HLT.out; simp [intOf]; omega
      · rw [hv] at HPK
        have HN := Lib.hid (HHI.out hv)
        clear hv
        go_wp2_with fail
        refine HPK.out.mono ?_
        rintro e w' ⟨rfl, m, rfl⟩
        go_wp2_with fail
        go_ret
        exact ⟨ret_int HN.out.symm, m, rfl⟩
    · go_wp2_with fail
      go_ret
      exact ⟨ret_int (firstIx_none fun j hj => hd.out j (by omega)).symm, q, rfl⟩
end
end Go.Proofs.Ytcaialhoclodjaa
namespace Go.Proofs.Ytcaialhoclodjaa
open Go.RowKit Go.Deep
def keepF (P : Nat → Bool) (ks : List Nat) (j : Nat) : List Nat := (ks.take j).filter fun k => !P k
theorem keepF_len (P : Nat → Bool) (ks : List Nat) (j : Nat) : (keepF P ks j).length ≤ j := by
  unfold keepF
  refine Nat.le_trans (List.length_filter_le _ _) ?_
  rw [List.length_take]; omega
theorem keepF_succ (P : Nat → Bool) {ks : List Nat} {j : Nat} (hj : j < ks.length) : keepF P ks (j + 1) = if P (ks.getD j 0) then keepF P ks j else keepF P ks j ++ [ks.getD j 0] := by
  unfold keepF
  have hg : ks.getD j 0 = ks[j] := by rw [List.getD_eq_getElem?_getD, List.getElem?_eq_getElem hj]; rfl
  rw [List.take_succ_eq_append_getElem hj, List.filter_append, hg]
  cases h : P ks[j]
  · rw [if_neg (by decide), List.filter_cons_of_pos (by rw [h]; rfl)]; rfl
  · rw [if_pos rfl, List.filter_cons_of_neg (by rw [h]; decide)]; simp
/-- Behind element j of the row of block g: what stays lies ahead, the rest is as it was. -/
structure DfW (A : Nat → Nat) (P : Nat → Bool) (base : Nat) (w wr : World) (g cap : Nat) (ks : List Nat) (j : Nat) (X : List Value) : Prop where
  own : Owns base 66 wr (.slice (some ⟨g, 0, none⟩) ks.length cap) X
  len : X.length = ks.length
  head : X.take (keepF P ks j).length = (keepF P ks j).map (nptr A)
  rest : ∀ q, j ≤ q → X[q]? = (ks.map (nptr A))[q]?
  up : w.grownBy wr (some g)
section
variable {A : Nat → Nat} {P : Nat → Bool} {base : Nat} {w wr : World} {g cap : Nat} {ks : List Nat} {X : List Value}
theorem DfW.start (h : Owns base 66 w (.slice (some ⟨g, 0, none⟩) ks.length cap) (ks.map (nptr A))) {j : Nat} (hj : j < ks.length) (hno : ∀ i, i < j → P (ks.getD i 0) = false) (hP : P (ks.getD j 0) = true) (m : Nat) :
    DfW A P base w (w.drewN m) g cap ks (j + 1) (ks.map (nptr A)) ∧ (keepF P ks (j + 1)).length = j := by
  have hk : ∀ i, i ≤ j → keepF P ks i = ks.take i := by
    intro i
    induction i with
    | zero => intro _; rfl
    | succ i ih =>
      intro hi
      rw [keepF_succ P (show i < ks.length by omega), hno i (by omega), if_neg (by decide), ih (by omega), List.take_succ_eq_append_getElem (show i < ks.length by omega)]
      congr 2
      rw [List.getD_eq_getElem?_getD, List.getElem?_eq_getElem (show i < ks.length by omega)]; rfl
  have e : keepF P ks (j + 1) = ks.take j := by rw [keepF_succ P hj, hP, if_pos rfl, hk j (Nat.le_refl _)]
  have hl : (ks.take j).length = j := by rw [List.length_take]; omega
  refine ⟨⟨h.same2 fun _ _ => rfl, List.length_map _, ?_, fun _ _ => rfl, grown_up (Up.drewN w m) _⟩, by rw [e, hl]⟩
  rw [e, hl, List.map_take]
theorem DfW.skip {j : Nat} (h : DfW A P base w wr g cap ks j X) (hj : j < ks.length) (hP : P (ks.getD j 0) = true) (m : Nat) : DfW A P base w (wr.drewN m) g cap ks (j + 1) X :=
  ⟨h.own.same2 fun _ _ => rfl, h.len, by rw [keepF_succ P hj, if_pos hP]; exact h.head, fun q hq => h.rest q (by omega), grown_trans h.up (grown_up (Up.drewN wr m) _)⟩
theorem DfW.up_drew {j : Nat} (h : DfW A P base w wr g cap ks j X) (m : Nat) : DfW A P base w (wr.drewN m) g cap ks j X :=
  ⟨h.own.same2 fun _ _ => rfl, h.len, h.head, h.rest, grown_trans h.up (grown_up (Up.drewN wr m) _)⟩
theorem DfW.at {j : Nat} (h : DfW A P base w wr g cap ks j X) (hj : j < ks.length) : wr.cell? ⟨g, j, none⟩ = some (.pointer (some ⟨A (ks.getD j 0), 0, none⟩)) := by
  have hke : ks[j]? = some (ks.getD j 0) := by rw [List.getD_eq_getElem?_getD, List.getElem?_eq_getElem hj]; rfl
  exact (owns_cell h.own (j := j) (u := nptr A (ks.getD j 0)) (by rw [h.rest j (Nat.le_refl _), List.getElem?_map, hke]; rfl)).1
theorem DfW.push {j : Nat} (h : DfW A P base w wr g cap ks j X) (hj : j < ks.length) (hP : P (ks.getD j 0) = false) :
    (∃ x, wr.cell? ⟨g, (keepF P ks j).length, none⟩ = some x) ∧ wr.frozen? ⟨g, (keepF P ks j).length, none⟩ = false ∧ (keepF P ks (j + 1)).length = (keepF P ks j).length + 1 ∧
      ∃ X', DfW A P base w (wr.setCell ⟨g, (keepF P ks j).length, none⟩ (.pointer (some ⟨A (ks.getD j 0), 0, none⟩))) g cap ks (j + 1) X' := by
  have hle := keepF_len P ks j
  obtain ⟨g2, cap2, e1, _, _, hc, hf, hs⟩ := h.own.set (j := (keepF P ks j).length) (by rw [h.len]; omega)
  injection e1 with a1 a2 a3
  injection a1 with a1
  injection a1 with a1
  subst a1
  have hk := keepF_succ P hj
  rw [if_neg (by rw [hP]; decide)] at hk
  have hl : (keepF P ks (j + 1)).length = (keepF P ks j).length + 1 := by rw [hk, List.length_append]; rfl
  refine ⟨⟨_, hc⟩, hf, hl, X.set (keepF P ks j).length (nptr A (ks.getD j 0)), hs _, by rw [List.length_set]; exact h.len, ?_, fun q hq => ?_, grown_trans h.up grown_set⟩
  · rw [hl, hk, List.map_append, ← h.head]
    have hlt : (keepF P ks j).length < (X.set (keepF P ks j).length (nptr A (ks.getD j 0))).length := by rw [List.length_set, h.len]; omega
    rw [List.take_succ_eq_append_getElem hlt, List.take_set_of_le (Nat.le_refl _), List.getElem_set_self]; rfl
  · rw [List.getElem?_set_ne (by omega)]; exact h.rest q (by omega)
/-- The rest is cleared, the slice is cut. -/
theorem DfW.done {m : Nat} (h : DfW A P base w wr g cap ks ks.length X) (hm : (keepF P ks ks.length).length = m) (hlt : m < ks.length) :
    (∀ i, i < ks.length - m → (wr.cell? ⟨g, m + i, none⟩).isSome = true) ∧ (∀ i, i < ks.length - m → wr.frozen? ⟨g, m + i, none⟩ = false) ∧
      Owns base 66 (wr.setCells g m (List.replicate (ks.length - m) (.pointer none))) (.slice (some ⟨g, 0, none⟩) m cap) ((ks.filter fun k => !P k).map (nptr A)) ∧
      w.grownBy (wr.setCells g m (List.replicate (ks.length - m) (.pointer none))) (some g) := by
  have hall : keepF P ks ks.length = ks.filter fun k => !P k := by unfold keepF; rw [List.take_length]
  have hcell : ∀ i, i < ks.length - m → wr.cell? ⟨g, m + i, none⟩ = some (X.getD (m + i) undef) ∧ wr.frozen? ⟨g, m + i, none⟩ = false := fun i hi => by
    have hl : m + i < X.length := by rw [h.len]; omega
    exact owns_cell h.own (by rw [List.getD_eq_getElem?_getD, List.getElem?_eq_getElem hl]; rfl)
  refine ⟨fun i hi => by rw [(hcell i hi).1]; rfl, fun i hi => (hcell i hi).2, ?_, grown_trans h.up (grown_sets _ _ _)⟩
  refine owns_tails _ _ _ (Nat.le_refl _) ?_
  have := owns_take h.own (m := m) (by omega)
  rw [← hm, h.head] at this
  rw [← hm, ← hall]; exact this
end
theorem Try.zeroNd : ∀ w, (zeroValue 66).run Try.prog w = .ok (.pointer none) w := fun w => by simp [Try.zeroValue66]
theorem owns_cap {base : Nat} {e : TypeId} {w : World} {g n cap : Nat} {xs : List Value} (h : Owns base e w (.slice (some ⟨g, 0, none⟩) n cap) xs) : n ≤ cap := by
  obtain ⟨h1, h2⟩ := h
  rcases h2 with ⟨e1, _⟩ | ⟨g2, cap2, cur, e1, hg, hc, hn, _⟩
  · cases e1
  · injection e1 with a1 a2 a3
    omega
theorem qd_trans {w w' w'' : World} (h : QD w w') (k : QD w' w'') : QD w w'' := by
  obtain ⟨n, rfl⟩ := h
  obtain ⟨m, rfl⟩ := k
  exact (QD.refl w).drewN n |>.drewN m
theorem first_or (p : Nat → Bool) : ∀ n, (∀ j, j < n → p j = false) ∨ ∃ j, j < n ∧ p j = true ∧ ∀ i, i < j → p i = false
  | 0 => .inl fun j hj => absurd hj (Nat.not_lt_zero _)
  | n + 1 => by
    rcases first_or p n with h | ⟨j, h1, h2, h3⟩
    · cases hp : p n
      · exact .inl fun j hj => if e : j = n then by subst e; exact hp else h j (by omega)
      · exact .inr ⟨n, by omega, hp, h⟩
    · exact .inr ⟨j, by omega, h2, h3⟩
set_option maxRecDepth 100000 in
set_option maxHeartbeats 2000000 in
theorem delete_node_t {A : Nat → Nat} {P : Nat → Bool} (g : Nat) (lb : Array Value) (eg : ∀ args w, (callFunc g args).run Try.prog w = .ok (.enter g args) w) {base : Nat} {w : World} {bk cap : Nat} {ks : List Nat} (h : Owns base 66 w (.slice (some ⟨bk, 0, none⟩) ks.length cap) (ks.map (nptr A))) (hn : ks.length ≤ 1000000)
    (hp : ∀ k ∈ ks, ∀ W, w.grownBy W (some bk) → Calls Try.prog g (#[.pointer (some ⟨A k, 0, none⟩)] ++ lb) W fun e W' => e = .returned (.bool (P k)) ∧ ∃ m, W' = W.drewN m) :
    Calls Try.prog 40 #[.slice (some ⟨bk, 0, none⟩) ks.length cap, .func (.func g) #[] lb] w fun e w' => ∃ m, e = .returned (.slice (some ⟨bk, 0, none⟩) m cap) ∧ Owns base 66 w' (.slice (some ⟨bk, 0, none⟩) m cap) ((ks.filter fun k => !P k).map (nptr A)) ∧ w.grownBy w' (some bk) := by
  have HIX := Lib.hid (index_node_t (P := P) g lb eg h hn fun k hk q => (hp k hk (w.drewN q) (grown_up (Up.drewN w q) _)).mono fun _ _ h => ⟨h.1, qd_trans ⟨q, rfl⟩ h.2⟩)
  have HO := Lib.hid h
  have HP := Lib.hid hp
  obtain ⟨cap0, hcap⟩ : ∃ c, c = cap := ⟨_, rfl⟩
  clear h hp
  rcases first_or (fun j => P (ks.getD j 0)) ks.length with hno | ⟨j0, hj0, hP0, hno⟩
  · have hall : ks.filter (fun k => !P k) = ks := by
      rw [List.filter_eq_self]
      intro k hk
      obtain ⟨j, hj, e⟩ := List.getElem_of_mem hk
      have := hno j hj
      rw [show ks.getD j 0 = k by rw [List.getD_eq_getElem?_getD, List.getElem?_eq_getElem hj, e]; rfl] at this
      rw [this]; rfl
    rw [firstIx_none hno] at HIX
    have HA := Lib.hid hall
    clear hno hall hcap
    go_enter Try.func40, Try.ntmps40
    go_wp2_with fail
    refine HIX.out.mono ?_
    rintro e w1 ⟨rfl, m, rfl⟩
    go_wp2_with fail
    go_ret
    exact ⟨ks.length, rfl, by rw [HA.out]; exact HO.out.same2 fun _ _ => rfl, grown_up (Up.drewN w m) _⟩
  · rw [firstIx_at hj0 hno hP0] at HIX
    have HST := Lib.hid (fun m => (HO.out |> fun h => DfW.start h hj0 hno hP0 m))
    have hjn : (j0 : Int) < (ks.length : Int) := by omega
    have HJ0 := Lib.hid hj0
    have e1 : ((j0 : Int) == -1) = false := beq_eq_false_iff_ne.2 (by omega)
    clear hno hP0 hj0 hcap
    go_enter Try.func40, Try.ntmps40
    go_wp2_with fail
    refine HIX.out.mono ?_
    rintro e w1 ⟨rfl, m1, rfl⟩
    obtain ⟨hS1, hS2⟩ := HST.out m1
    have HS1 := Lib.hid hS1
    have HS2 := Lib.hid hS2
    clear hS1 hS2 HST
    go_wp2_with fail
    go_loopw [5, 6, 7] (fun x y _ wr => ∃ j : Nat, j0 < j ∧ j ≤ ks.length ∧ y = .int .i64 j ∧ x = .int .i64 ((keepF P ks j).length : Nat) ∧ Hid (∃ X, DfW A P base w wr bk cap ks j X) ∧ Hid ((keepF P ks j).length < j)) (fun _ y _ _ => ks.length - (intOf y).toNat)
    case atStart => exact ⟨j0 + 1, by omega, HJ0.out, by go_num, by rw [HS2.out], ⟨_, HS1.out⟩, by unfold Hid; rw [HS2.out]; omega⟩
    case round =>
      obtain ⟨j, hj1, hj, rfl, rfl, hX, hK⟩ := hrel
      obtain ⟨wo, rfl⟩ : ∃ wo : World, wo = wr := ⟨_, rfl⟩
      obtain ⟨X, hX⟩ := hX.out
      by_cases hlt : j < ks.length
      · have hx := hX.at hlt
        have i1 : (0 : Int) ≤ (j : Int) := by omega
        have i2 : (j : Int) < (ks.length : Int) := by omega
        have hmem : ks.getD j 0 ∈ ks := by
          rw [List.getD_eq_getElem?_getD, List.getElem?_eq_getElem hlt]; exact List.getElem_mem hlt
        have HPK := Lib.hid (HP.out _ hmem wo hX.up)
        have HLT := Lib.hid hlt
        have HXX := Lib.hid hX
        have HJ1 := Lib.hid hj1
        have n1 : (0 : Int) ≤ ((keepF P ks j).length : Int) := by omega
        have n2 : ((keepF P ks j).length : Int) < (ks.length : Int) := by have := hK.out; omega
        have HSK : Hid (P (ks.getD j 0) = true → (keepF P ks (j + 1)).length = (keepF P ks j).length) := fun hv => by rw [keepF_succ P hlt, if_pos hv]
        clear hmem hX
        cases hv : P (ks.getD j 0)
        · rw [hv] at HPK
          have HPU := Lib.hid (fun m => (HXX.out.up_drew m).push hlt hv)
          clear hv HSK
          generalize ks.getD j 0 = c at *
          go_wp2_with fail
          refine HPK.out.mono ?_
          rintro e w2 ⟨rfl, m, rfl⟩
          obtain ⟨⟨cx, hcx⟩, hff, hl, X', hX'⟩ := HPU.out m
          have HX' := Lib.hid hX'
          have HL := Lib.hid hl
          clear hX' hl
          go_wp2_with fail
          go_roundw
          case rel => exact ⟨j + 1, by have := HJ1.out; omega, HLT.out, by go_num, by rw [HL.out]; go_num, ⟨X', HX'.out⟩, by unfold Hid; have := hK.out; rw [HL.out]; omega⟩
          case measure => have := HLT.out; simp [intOf]; omega
        · rw [hv] at HPK
          have HN := Lib.hid (fun m => HXX.out.skip hlt hv m)
          have HL := Lib.hid (HSK.out hv)
          clear hv HSK
          generalize ks.getD j 0 = c at *
          go_wp2_with fail
          refine HPK.out.mono ?_
          rintro e w2 ⟨rfl, m, rfl⟩
          go_wp2_with fail
          go_roundw
          case rel => exact ⟨j + 1, by have := HJ1.out; omega, HLT.out, by go_num, by rw [HL.out], ⟨X, HN.out m⟩, by unfold Hid; have := hK.out; rw [HL.out]; omega⟩
          case measure => have := HLT.out; simp [intOf]; omega
      · obtain rfl : j = ks.length := by omega
        obtain ⟨mm, hmm⟩ : ∃ mm, (keepF P ks ks.length).length = mm := ⟨_, rfl⟩
        have hml : mm < ks.length := by rw [← hmm]; exact hK.out
        obtain ⟨hc, hf, ho, hg⟩ := hX.done hmm hml
        have HO2 := Lib.hid ho
        have HG2 := Lib.hid hg
        have hcl := Lib.run_clear_slice (P := Try.prog) wo 64 66 0 (.pointer none) Try.underlying64 Try.zeroNd rfl rfl bk mm (ks.length - mm) (cap - mm) (by omega) hc hf
        rw [hmm]
        have n1 : (0 : Int) ≤ (mm : Int) := by omega
        have n2 : (mm : Int) ≤ (ks.length : Int) := by omega
        have n3 : (mm : Int) < (ks.length : Int) := by omega
        clear hc hf ho hg hlt hj hX hK hmm
        have c1 : ks.length ≤ cap := owns_cap HO.out
        have c2 : mm ≤ cap := by omega
        have c3 : (mm : Int) ≤ (cap : Int) := by omega
        go_wp2_with fail
        go_ret
        exact ⟨mm, rfl, HO2.out, HG2.out⟩
end Go.Proofs.Ytcaialhoclodjaa
namespace Go.Proofs.Ytcaialhoclodjaa
section
variable {F : Frs} {n : Nat} {rk : Nat → Nat}
theorem num_sub2 (h : Wf F n rk) : ∀ {d i : Nat} (p : Option Nat) (np : Int) (s : Num), i < n → rk i ≤ d → (nodesF F rk i).Nodup → p ≠ some i → s.mp.lookup p = some np → (∀ j ∈ nodesF F rk i, s.mp.lookup (some j) = none) →
    NumTo s ((seqF F rk i p).foldl (numS F) s) (psR (toRF F rk i) s.ps.length np) (nsR (toRF F rk i)) (nodesF F rk i) := by
  intro d
  induction d with
  | zero =>
    intro i p np s hi hd hnd0 hp hl hn
    have hk : F.kids i = [] := by
      cases hk : F.kids i with
      | nil => rfl
      | cons k l => have := (h.kid i hi k (by rw [hk]; simp)).2; omega
    rw [seqF_eq h hi, toRF_eq h hi, nodesF_eq h hi, hk]
    have hni := hn i (by rw [nodesF_eq h hi]; simp)
    refine ⟨?_, ?_, fun k hk2 => lookup_putI_ne _ (hk2 i (by simp))⟩
    · show s.ps ++ [((putI s.mp (some i) _).lookup p).getD 0] = _
      rw [lookup_putI_ne _ hp, hl]; rfl
    · rfl
  | succ d ih =>
    intro i p np s hi hd hnd0 hp hl hn
    rw [seqF_eq h hi, toRF_eq h hi, nodesF_eq h hi]
    have hni := hn i (by rw [nodesF_eq h hi]; simp)
    have hnd := hnd0
    rw [nodesF_eq h hi, List.nodup_cons] at hnd
    have key : ∀ (l : List Nat), (∀ k ∈ l, k ∈ F.kids i) → (l.flatMap fun k => nodesF F rk k).Nodup → (∀ k ∈ l, i ∉ nodesF F rk k) → ∀ (s2 : Num) (own : Nat), s2.mp.lookup (some i) = some (own : Int) → (∀ k ∈ l, ∀ j ∈ nodesF F rk k, s2.mp.lookup (some j) = none) →
        NumTo s2 ((l.flatMap fun k => seqF F rk k (some i)).foldl (numS F) s2) (psRs (l.map (toRF F rk)) own s2.ps.length) (nsRs (l.map (toRF F rk))) (l.flatMap fun k => nodesF F rk k) := by
      intro l
      induction l with
      | nil => intro _ _ _ s2 own _ _; exact ⟨by simp [psRs], by simp [nsRs], fun _ _ => rfl⟩
      | cons c l ihl =>
        intro hin hdl hil s2 own ho hno
        have hcc := h.kid i hi c (hin c (by simp))
        rw [List.flatMap_cons, List.foldl_append, List.flatMap_cons]
        rw [List.flatMap_cons, List.nodup_append] at hdl
        have h1 := ih (some i) (own : Int) s2 hcc.1 (by omega) hdl.1 (fun e => by
          injection e with e
          have := hcc.2; rw [e] at this; omega) ho (hno c (by simp))
        have h2 := ihl (fun k hk => hin k (by simp [hk])) hdl.2.1 (fun k hk => hil k (by simp [hk])) ((seqF F rk c (some i)).foldl (numS F) s2) own
          ((h1.old (some i) (fun j hj e => by injection e with e; subst e; exact hil c (by simp) hj)).trans ho)
          (fun k hk j hj => (h1.old (some j) (fun j2 hj2 e => by
            injection e with e; subst e
            exact hdl.2.2 j hj2 j (List.mem_flatMap.2 ⟨k, hk, hj⟩) rfl)).trans (hno k (by simp [hk]) j hj))
        refine ⟨?_, ?_, fun k hk => ?_⟩
        · rw [h2.ps, h1.ps, List.map_cons, psRs, List.append_assoc, List.length_append, psR_len]
        · rw [h2.ns, h1.ns, List.map_cons, nsRs, List.append_assoc]
        · rw [h2.old k (fun j hj => hk j (by simp [hj])), h1.old k (fun j hj => hk j (by simp [hj]))]
    have hin : ∀ k ∈ F.kids i, i ∉ nodesF F rk k := fun k hk hm => hnd.1 (List.mem_flatMap.2 ⟨k, hk, hm⟩)
    have h3 := key (F.kids i) (fun k hk => hk) hnd.2 hin (numS F s (i, p)) s.ps.length (lookup_putI_new _ hni) (fun k hk j hj => by
      show (putI s.mp (some i) _).lookup (some j) = none
      rw [lookup_putI_ne _ (fun e => by injection e with e; subst e; exact hin k hk hj)]
      exact hn j (by rw [nodesF_eq h hi]; exact List.mem_cons_of_mem _ (List.mem_flatMap.2 ⟨k, hk, hj⟩)))
    have hps : (numS F s (i, p)).ps = s.ps ++ [np] := by
      show s.ps ++ [((putI s.mp (some i) _).lookup p).getD 0] = _
      rw [lookup_putI_ne _ hp, hl]; rfl
    rw [List.foldl_cons]
    refine ⟨?_, ?_, fun k hk => ?_⟩
    · rw [h3.ps, hps, psR, List.append_assoc, List.length_append]; rfl
    · rw [h3.ns]
      show (s.ns ++ [F.nm i]) ++ _ = _
      rw [nsR, List.append_assoc]; rfl
    · rw [h3.old k (fun j hj => hk j (by simp [hj]))]
      exact lookup_putI_ne _ (hk i (by simp))
theorem treeF_flat2 (h : Wf F n rk) {i : Nat} (hi : i < n) (hnd : (nodesF F rk i).Nodup) : treeF F rk i = flat (toRF F rk i) := by
  have h1 := num_sub2 h (d := rk i) none (-1) num0 hi (Nat.le_refl _) hnd (fun e => by cases e) rfl (fun j _ => rfl)
  unfold treeF flat numL
  rw [h1.ps, h1.ns]
  rfl
/-- The contracted forest may be sorted. -/
theorem ct_sortable (h : Wf F n rk) {i : Nat} (hi : i < n) (hg : GoodR (toRF F rk i)) (hl : ∀ z, z < n → (F.kids z).length ≤ 1000) (hout : ∀ z, z < n → subF F rk i z = false → (F.kids z).length ≤ 1) : Sortable (F.sub rk (ctQ F rk) i) n rk := by
  have hw := ct_wf h i
  have hlen : ∀ z, ((F.sub rk (ctQ F rk) i).kids z).length = (F.kids z).length := fun z => by
    show (if _ then _ else _ : List Nat).length = _
    split
    · unfold ctQ; split
      · rfl
      · rw [List.length_map]
    · rfl
  have hr := cr_ok h hi (Nat.le_refl _)
  have hgr : GoodR (toRF (F.sub rk (ctQ F rk) i) rk (cr F rk i)) := by
    rw [ct_rose h hi (rk i) i (Nat.le_refl _) hi (subF_self h hi)]; exact good_contr hg
  have key : ∀ z, z < n → ((F.sub rk (ctQ F rk) i).kids z).Nodup ∧ Sep (lsF (F.sub rk (ctQ F rk) i) rk) ((F.sub rk (ctQ F rk) i).kids z) := fun z hz => by
    by_cases h1 : (F.kids z).length ≤ 1
    · exact small_sep (by rw [hlen]; exact h1)
    · cases hs : subF F rk i z with
      | false => exact absurd (hout z hz hs) h1
      | true => exact map_sep (good_sep hw hr.1 hgr hz (ct_reach h hi (rk i) i z (Nat.le_refl _) hi (subF_self h hi) hs (by omega)))
  exact ⟨hw, fun z hz => (key z hz).2, fun z hz => (key z hz).1, fun z hz => by rw [hlen]; exact hl z hz⟩
/-- A forest sorted below i, where the rose tree is good: its tree. -/
theorem srt_tree (h : Wf F n rk) {i : Nat} (hi : i < n) (hg : GoodR (toRF F rk i)) {p : Nat → Bool} (hp : ∀ j, subF F rk i j = true → p j = true) :
    treeF (F.srt rk p) rk i = flat (sortR (toRF F rk i)) ∧ (seqF (F.srt rk p) rk i none).length = sizeR (toRF F rk i) := by
  have he := (toRF_srt h p hi (Nat.le_refl _) hp).1
  have hw := h.srt p
  have hg2 : GoodR (toRF (F.srt rk p) rk i) := by rw [he]; exact hg.sort
  refine ⟨by rw [treeF_flat2 hw hi (good_nodes hw _ i (Nat.le_refl _) hi hg2), he], ?_⟩
  have h1 := congrArg List.length (subR_toRF hw hi (Nat.le_refl _))
  rw [List.length_map, subR_len, he, sizeR_sort] at h1
  rw [h1]; unfold nodesF; rw [List.length_map]
end
end Go.Proofs.Ytcaialhoclodjaa
