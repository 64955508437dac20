/- The plain law of forests in which no node has two parents and no two leaves one name: their children can be sorted; the nodes below a node stand once each. The contracts of phylotree.canonical, Canonical. Canonical trees reckoned by the kernel: the sort of children as an insertion sort. Rose trees: the tree of a forest below a node is the rose tree, numbered depth first. Sorted rose trees; the rose tree of a tree numbered depth first is the tree again. -/
import Derived.Test.YtcaialhoclodjaaQ11
import Derived.Test.YtcaialhoclodjaaQ13
namespace Go.Proofs.Ytcaialhoclodjaa
theorem subF_self {F : Frs} {n : Nat} {rk : Nat → Nat} (h : Wf F n rk) {i : Nat} (hi : i < n) : subF F rk i i = true := by rw [subF_eq h hi]; simp
theorem subF_kid {F : Frs} {n : Nat} {rk : Nat → Nat} (h : Wf F n rk) {i k j : Nat} (hi : i < n) (hk : k ∈ F.kids i) (hj : subF F rk k j = true) : subF F rk i j = true := by
  rw [subF_eq h hi, Bool.or_eq_true]; exact .inr (List.any_eq_true.2 ⟨k, hk, hj⟩)
theorem subF_cases {F : Frs} {n : Nat} {rk : Nat → Nat} (h : Wf F n rk) {i j : Nat} (hi : i < n) (hj : subF F rk i j = true) : j = i ∨ ∃ k ∈ F.kids i, subF F rk k j = true := by
  rw [subF_eq h hi, Bool.or_eq_true] at hj
  rcases hj with h1 | h1
  · exact .inl (by simpa using h1)
  · obtain ⟨k, hk, h2⟩ := List.any_eq_true.1 h1
    exact .inr ⟨k, hk, h2⟩
theorem subF_lt {F : Frs} {n : Nat} {rk : Nat → Nat} (h : Wf F n rk) : ∀ {d i j : Nat}, i < n → rk i ≤ d → subF F rk i j = true → j < n := by
  intro d
  induction d with
  | zero =>
    intro i j hi hd hj
    rcases subF_cases h hi hj with rfl | ⟨k, hk, h1⟩
    · exact hi
    · have := (h.kid i hi k hk).2; omega
  | succ d ih =>
    intro i j hi hd hj
    rcases subF_cases h hi hj with rfl | ⟨k, hk, h1⟩
    · exact hi
    · have := h.kid i hi k hk
      exact ih this.1 (by omega) h1
/-- No node has two parents, no node stands twice among the children of one, no two leaves have one name. -/
structure Arb (F : Frs) (n : Nat) (rk : Nat → Nat) : Prop where
  wf : Wf F n rk
  one : ∀ p q k, p < n → q < n → k ∈ F.kids p → k ∈ F.kids q → p = q
  nodup : ∀ i, i < n → (F.kids i).Nodup
  names : ∀ a b, a < n → b < n → F.kids a = [] → F.kids b = [] → F.nm a = F.nm b → a = b
section
variable {F : Frs} {n : Nat} {rk : Nat → Nat}
/-- Whatever lies below x and is not x has a parent that lies below x. -/
theorem sub_parent (h : Wf F n rk) : ∀ {d x j : Nat}, x < n → rk x ≤ d → subF F rk x j = true → j ≠ x → ∃ p, p < n ∧ j ∈ F.kids p ∧ subF F rk x p = true := by
  intro d
  induction d with
  | zero =>
    intro x j hx hd hj hne
    rcases subF_cases h hx hj with e | ⟨k, hk, h1⟩
    · exact absurd e hne
    · have := (h.kid x hx k hk).2; omega
  | succ d ih =>
    intro x j hx hd hj hne
    rcases subF_cases h hx hj with e | ⟨k, hk, h1⟩
    · exact absurd e hne
    · have hkk := h.kid x hx k hk
      by_cases e : j = k
      · exact ⟨x, hx, by rw [e]; exact hk, subF_self h hx⟩
      · obtain ⟨p, hp, h2, h3⟩ := ih hkk.1 (by omega) h1 e
        exact ⟨p, hp, h2, subF_kid h hx hk h3⟩
/-- Of two nodes with one below both one lies below the other. -/
theorem sub_chain (h : Arb F n rk) {R : Nat} (hR : ∀ i, i < n → rk i ≤ R) : ∀ {m j x y : Nat}, R - rk j ≤ m → j < n → x < n → y < n → subF F rk x j = true → subF F rk y j = true → subF F rk x y = true ∨ subF F rk y x = true := by
  intro m
  induction m with
  | zero =>
    intro j x y hm hj hx hy h1 h2
    by_cases e1 : j = x
    · subst e1; exact .inr h2
    · obtain ⟨p, hp, hk, _⟩ := sub_parent h.wf hx (Nat.le_refl _) h1 e1
      have := (h.wf.kid p hp j hk).2
      have := hR p hp
      omega
  | succ m ih =>
    intro j x y hm hj hx hy h1 h2
    by_cases e1 : j = x
    · subst e1; exact .inr h2
    · by_cases e2 : j = y
      · subst e2; exact .inl h1
      · obtain ⟨p, hp, hk, h3⟩ := sub_parent h.wf hx (Nat.le_refl _) h1 e1
        obtain ⟨q, hq, hk2, h4⟩ := sub_parent h.wf hy (Nat.le_refl _) h2 e2
        obtain rfl := h.one p q j hp hq hk hk2
        have h5 := (h.wf.kid p hp j hk).2
        have h6 := hR p hp
        exact ih (by omega) hp hx hy h3 h4
/-- Nothing lies below two children of one node. -/
theorem sub_kids (h : Arb F n rk) {R : Nat} (hR : ∀ i, i < n → rk i ≤ R) {i x y j : Nat} (hi : i < n) (hx : x ∈ F.kids i) (hy : y ∈ F.kids i) (h1 : subF F rk x j = true) (h2 : subF F rk y j = true) : x = y := by
  have hxn := h.wf.kid i hi x hx
  have hyn := h.wf.kid i hi y hy
  have hj := subF_lt h.wf hxn.1 (Nat.le_refl _) h1
  have key : ∀ {a b : Nat}, a ∈ F.kids i → b ∈ F.kids i → a < n → rk a < rk i → subF F rk a b = true → a = b := fun {a b} ha hb han har hab => by
    by_cases e : b = a
    · exact e.symm
    · obtain ⟨p, hp, hk, h3⟩ := sub_parent h.wf han (Nat.le_refl _) hab e
      obtain rfl := h.one p i b hp hi hk hb
      have := subD_rank h.wf han h3; omega
  rcases sub_chain h hR (Nat.le_refl _) hj hxn.1 hyn.1 h1 h2 with h3 | h3
  · exact key hx hy hxn.1 hxn.2 h3
  · exact (key hy hx hyn.1 hyn.2 h3).symm
/-- The nodes below i, depth first. -/
def nodesF (F : Frs) (rk : Nat → Nat) (i : Nat) : List Nat := (seqF F rk i none).map (·.1)
theorem seq_fst (h : Wf F n rk) : ∀ {d i : Nat} (p q : Option Nat), i < n → rk i ≤ d → (seqF F rk i p).map (·.1) = (seqF F rk i q).map (·.1) := by
  intro d
  cases d with
  | zero => intro i p q hi hd; rw [seqF_eq h hi, seqF_eq h hi]; rfl
  | succ d => intro i p q hi hd; rw [seqF_eq h hi, seqF_eq h hi]; rfl
theorem nodesF_eq (h : Wf F n rk) {i : Nat} (hi : i < n) : nodesF F rk i = i :: (F.kids i).flatMap fun k => nodesF F rk k := by
  unfold nodesF
  rw [seqF_eq h hi, List.map_cons, List.map_flatMap]
  congr 1
  exact flatMap_congr' fun k hk => seq_fst h _ _ (h.kid i hi k hk).1 (Nat.le_refl _)
theorem mem_nodesF (h : Wf F n rk) : ∀ {d i j : Nat}, i < n → rk i ≤ d → (j ∈ nodesF F rk i ↔ subF F rk i j = true) := by
  intro d
  induction d with
  | zero =>
    intro i j hi hd
    rw [nodesF_eq h hi, subF_eq h hi]
    have hk : F.kids i = [] := by
      cases hk : F.kids i with
      | nil => rfl
      | cons k l => have := (h.kid i hi k (by rw [hk]; simp)).2; omega
    simp [hk]
  | succ d ih =>
    intro i j hi hd
    rw [nodesF_eq h hi, subF_eq h hi]
    simp only [List.mem_cons, List.mem_flatMap, Bool.or_eq_true, beq_iff_eq, List.any_eq_true]
    constructor
    · rintro (e | ⟨k, hk, h1⟩)
      · exact .inl e
      · have := h.kid i hi k hk
        exact .inr ⟨k, hk, (ih this.1 (by omega)).1 h1⟩
    · rintro (e | ⟨k, hk, h1⟩)
      · exact .inl e
      · have := h.kid i hi k hk
        exact .inr ⟨k, hk, (ih this.1 (by omega)).2 h1⟩
theorem nodesF_nodup (h : Arb F n rk) {R : Nat} (hR : ∀ i, i < n → rk i ≤ R) : ∀ {d i : Nat}, i < n → rk i ≤ d → (nodesF F rk i).Nodup := by
  intro d
  induction d with
  | zero =>
    intro i hi hd
    rw [nodesF_eq h.wf hi]
    have hk : F.kids i = [] := by
      cases hk : F.kids i with
      | nil => rfl
      | cons k l => have := (h.wf.kid i hi k (by rw [hk]; simp)).2; omega
    simp [hk]
  | succ d ih =>
    intro i hi hd
    rw [nodesF_eq h.wf hi, List.nodup_cons]
    refine ⟨fun hm => ?_, ?_⟩
    · obtain ⟨k, hk, h1⟩ := List.mem_flatMap.1 hm
      have hkk := h.wf.kid i hi k hk
      have := subD_rank h.wf hkk.1 ((mem_nodesF h.wf hkk.1 (Nat.le_refl _)).1 h1); omega
    · have hsub : ∀ l : List Nat, l.Nodup → (∀ k ∈ l, k ∈ F.kids i) → (l.flatMap fun k => nodesF F rk k).Nodup := by
        intro l
        induction l with
        | nil => intro _ _; simp
        | cons x l ihl =>
          intro hn hin
          obtain ⟨hx, hl⟩ := List.nodup_cons.1 hn
          have hxx := h.wf.kid i hi x (hin x (by simp))
          rw [List.flatMap_cons, List.nodup_append]
          refine ⟨ih hxx.1 (by omega), ihl hl (fun k hk => hin k (by simp [hk])), fun a ha b hb e => ?_⟩
          subst e
          obtain ⟨y, hy, h2⟩ := List.mem_flatMap.1 hb
          have hyy := h.wf.kid i hi y (hin y (by simp [hy]))
          have := sub_kids h hR hi (hin x (by simp)) (hin y (by simp [hy])) ((mem_nodesF h.wf hxx.1 (Nat.le_refl _)).1 ha) ((mem_nodesF h.wf hyy.1 (Nat.le_refl _)).1 h2)
          subst this; exact hx hy
      exact hsub _ (h.nodup i hi) (fun k hk => hk)
theorem nodup_le {l : List Nat} {n : Nat} (h : l.Nodup) (hl : ∀ x ∈ l, x < n) : l.length ≤ n := by
  have h1 : l ⊆ List.range n := fun x hx => List.mem_range.2 (hl x hx)
  have := h.length_le_of_subset h1
  simpa using this
/-- Sorted, the forest is of this kind still. -/
theorem Arb.srt (h : Arb F n rk) (p : Nat → Bool) : Arb (F.srt rk p) n rk :=
  ⟨⟨fun i hi k hk => h.wf.kid i hi k ((F.srt_perm rk p i).mem_iff.1 hk)⟩, fun a b k ha hb h1 h2 => h.one a b k ha hb ((F.srt_perm rk p a).mem_iff.1 h1) ((F.srt_perm rk p b).mem_iff.1 h2), fun i hi => (F.srt_perm rk p i).symm.nodup_iff.1 (h.nodup i hi),
    fun a b ha hb h1 h2 e => h.names a b ha hb (List.perm_nil.1 (by rw [← h1]; exact (F.srt_perm rk p a).symm)) (List.perm_nil.1 (by rw [← h2]; exact (F.srt_perm rk p b).symm)) e⟩
end
/-- The forest of a valid tree. -/
def rkT (t : Tre) (i : Nat) : Nat := t.ps.length - i
theorem frT_kids (t : Tre) (i : Nat) : (frT t).kids i = kidsL t.ps i := rfl
theorem frT_arb {t : Tre} (h : treeErr t = 0) : Arb (frT t) t.ps.length (rkT t) := by
  obtain ⟨hp, _, hn, hok, he⟩ := treeErr_zero h
  refine ⟨⟨fun i hi k hk => ?_⟩, fun p q k _ _ h1 h2 => ?_, fun i _ => ?_, fun a b ha hb h1 h2 e => ?_⟩
  · obtain ⟨h1, h2, _⟩ := mem_kidsL.1 hk
    exact ⟨h1, by unfold rkT; omega⟩
  · obtain ⟨_, _, h3⟩ := mem_kidsL.1 h1
    obtain ⟨_, _, h4⟩ := mem_kidsL.1 h2
    omega
  · exact List.Pairwise.filter _ List.nodup_range
  · have leaf : ∀ i, i < t.ps.length → kidsL t.ps i = [] → isIn t.ps i = false := fun i hi hk => by
      cases hin : isIn t.ps i with
      | false => rfl
      | true => exact absurd hk ((kids_isIn hok i).2 hin)
    have e : gs t.ns a = gs t.ns b := e
    rcases Nat.lt_trichotomy a b with hab | hab | hab
    · have h3 := (leaf_named h hb (leaf b hb h2)).2
      have := any_false h3 hab
      simp [e] at this
    · exact hab
    · have h3 := (leaf_named h ha (leaf a ha h1)).2
      have := any_false h3 hab
      simp [e] at this
theorem rkT_le (t : Tre) (i : Nat) : rkT t i ≤ t.ps.length := Nat.sub_le _ _
end Go.Proofs.Ytcaialhoclodjaa
namespace Go.Proofs.Ytcaialhoclodjaa
open Go.RowKit Go.Deep
theorem frT_kids_len (t : Tre) (i : Nat) : ((frT t).kids i).length ≤ t.ps.length := by rw [frT_kids]; exact kidsK_len _ _ _
theorem box_at {w : World} {P N : Value} {T : TypeId} : (w.alloc (.cells #[P, N] T)).heap[w.heap.size]? = some (.cells #[P, N] T (0, 0)) := World.alloc_heap_new _ _
/-- Two lists stored into a box of a tree. -/
theorem store_two {w w4 : World} {B : Nat} {x y p q : Value} {T : TypeId} (hb : w4.heap[B]? = some (Obj.cells #[x, y] T (0, 0))) (hB : w.heap.size ≤ B) (hu : Up w w4) :
    Up w ((w4.setCell ⟨B, 0, none⟩ p).setCell ⟨B, 1, none⟩ q) ∧ ((w4.setCell ⟨B, 0, none⟩ p).setCell ⟨B, 1, none⟩ q).cell? ⟨B, 0, none⟩ = some p ∧ ((w4.setCell ⟨B, 0, none⟩ p).setCell ⟨B, 1, none⟩ q).cell? ⟨B, 1, none⟩ = some q ∧
      ∀ b, b ≠ B → ((w4.setCell ⟨B, 0, none⟩ p).setCell ⟨B, 1, none⟩ q).heap[b]? = w4.heap[b]? := by
  have hset : ∀ b, b ≠ B → ((w4.setCell ⟨B, 0, none⟩ p).setCell ⟨B, 1, none⟩ q).heap[b]? = w4.heap[b]? := fun b hb => by rw [blk_setCell_other _ _ _ _ hb, blk_setCell_other _ _ _ _ hb]
  have hheap : ((w4.setCell ⟨B, 0, none⟩ p).setCell ⟨B, 1, none⟩ q).heap[B]? = some (Obj.cells #[p, q] T (0, 0)) := by
    simp [World.setCell, Array.getElem?_modify, hb]
  exact ⟨⟨hu.os, hu.tape, hu.output, by simp [World.size_setCell]; exact hu.size, fun b hb => (hset b (by omega)).trans (hu.block b hb)⟩, by simp [World.cell?, hheap], by simp [World.cell?, hheap], hset⟩
end Go.Proofs.Ytcaialhoclodjaa
namespace Go.Proofs.Ytcaialhoclodjaa
deriving instance DecidableEq for Tre
def insB (f : Nat → ByteArray) (a : Nat) : List Nat → List Nat
  | [] => [a]
  | b :: l => if leB f a b then a :: b :: l else b :: insB f a l
def isrt (f : Nat → ByteArray) : List Nat → List Nat
  | [] => []
  | a :: l => insB f a (isrt f l)
theorem insB_split (f : Nat → ByteArray) (a : Nat) (l₂ : List Nat) (h2 : ∀ b ∈ l₂, leB f a b = true) : ∀ l₁ : List Nat, (∀ b ∈ l₁, leB f a b = false) → insB f a (l₁ ++ l₂) = l₁ ++ a :: l₂
  | [], _ => by
    cases l₂ with
    | nil => rfl
    | cons b l => simp only [List.nil_append, insB]; rw [if_pos (h2 b (by simp))]
  | b :: l₁, h1 => by
    simp only [List.cons_append, insB]
    rw [if_neg (by rw [h1 b (by simp)]; decide), insB_split f a l₂ h2 l₁ fun c hc => h1 c (by simp [hc])]
theorem srtBy_eq (f : Nat → ByteArray) : ∀ l, srtBy f l = isrt f l
  | [] => by unfold srtBy; simp [isrt]
  | a :: l => by
    have ih := srtBy_eq f l
    obtain ⟨l₁, l₂, h1, h2, h3⟩ := List.mergeSort_cons (leB_trans f) (leB_total f) a l
    have hs := srtBy_sorted f (a :: l)
    unfold srtBy at hs ih ⊢
    rw [h1] at hs ⊢
    show _ = insB f a (isrt f l)
    rw [← ih, h2]
    refine (insB_split f a l₂ (fun b hb => ?_) l₁ fun b hb => by simpa using h3 b hb).symm
    have h4 := (List.pairwise_append.1 hs).2.1
    exact (List.pairwise_cons.1 h4).1 b hb
end Go.Proofs.Ytcaialhoclodjaa
namespace Go.Proofs.Ytcaialhoclodjaa
inductive RT where
  | node (nm : ByteArray) (kids : List RT)
namespace RT
def nm : RT → ByteArray | .node n _ => n
def kids : RT → List RT | .node _ k => k
end RT
mutual
def sizeR : RT → Nat
  | .node _ ks => 1 + sizeRs ks
def sizeRs : List RT → Nat
  | [] => 0
  | r :: rs => sizeR r + sizeRs rs
end
mutual
/-- The parents, the node's own number and its parent's given. -/
def psR : RT → Nat → Int → List Int
  | .node _ ks, n, p => p :: psRs ks n (n + 1)
def psRs : List RT → Nat → Nat → List Int
  | [], _, _ => []
  | r :: rs, own, n => psR r n (own : Int) ++ psRs rs own (n + sizeR r)
end
mutual
def nsR : RT → List ByteArray
  | .node nm ks => nm :: nsRs ks
def nsRs : List RT → List ByteArray
  | [] => []
  | r :: rs => nsR r ++ nsRs rs
end
def flat (r : RT) : Tre := ⟨psR r 0 (-1), nsR r⟩
mutual
theorem psR_len : ∀ (r : RT) (n : Nat) (p : Int), (psR r n p).length = sizeR r
  | .node _ ks, n, p => by simp only [psR, sizeR, List.length_cons]; rw [psRs_len ks n (n + 1)]; omega
theorem psRs_len : ∀ (rs : List RT) (own n : Nat), (psRs rs own n).length = sizeRs rs
  | [], _, _ => rfl
  | r :: rs, own, n => by simp only [psRs, sizeRs, List.length_append]; rw [psR_len r n own, psRs_len rs own (n + sizeR r)]
end
mutual
theorem nsR_len : ∀ (r : RT), (nsR r).length = sizeR r
  | .node _ ks => by simp only [nsR, sizeR, List.length_cons]; rw [nsRs_len ks]; omega
theorem nsRs_len : ∀ (rs : List RT), (nsRs rs).length = sizeRs rs
  | [] => rfl
  | r :: rs => by simp only [nsRs, sizeRs, List.length_append]; rw [nsR_len r, nsRs_len rs]
end
/-- The rose tree of a forest below node i, d levels deep. -/
def toRD (F : Frs) : Nat → Nat → RT
  | 0, i => .node (F.nm i) []
  | d + 1, i => .node (F.nm i) ((F.kids i).map (toRD F d))
def toRF (F : Frs) (rk : Nat → Nat) (i : Nat) : RT := toRD F (rk i) i
section
variable {F : Frs} {n : Nat} {rk : Nat → Nat}
theorem toRD_fuel (h : Wf F n rk) : ∀ {d e i : Nat}, i < n → rk i ≤ d → rk i ≤ e → toRD F d i = toRD F e i := by
  intro d
  induction d with
  | zero =>
    intro e i hi hd he
    have hk : F.kids i = [] := by
      cases hk : F.kids i with
      | nil => rfl
      | cons k l => have := (h.kid i hi k (by rw [hk]; simp)).2; omega
    cases e with
    | zero => rfl
    | succ e => simp [toRD, hk]
  | succ d ih =>
    intro e i hi hd he
    cases e with
    | zero =>
      have hk : F.kids i = [] := by
        cases hk : F.kids i with
        | nil => rfl
        | cons k l => have := (h.kid i hi k (by rw [hk]; simp)).2; omega
      simp [toRD, hk]
    | succ e =>
      simp only [toRD]
      congr 1
      refine List.map_congr_left fun k hk => ?_
      have := h.kid i hi k hk
      exact ih this.1 (by omega) (by omega)
theorem toRF_eq (h : Wf F n rk) {i : Nat} (hi : i < n) : toRF F rk i = .node (F.nm i) ((F.kids i).map (toRF F rk)) := by
  have h1 : toRF F rk i = toRD F (rk i + 1) i := toRD_fuel h hi (Nat.le_refl _) (Nat.le_succ _)
  rw [h1]
  simp only [toRD]
  congr 1
  refine List.map_congr_left fun k hk => ?_
  have := h.kid i hi k hk
  exact toRD_fuel h this.1 (by omega) (Nat.le_refl _)
theorem lookup_putI_ne {l : List (Option Nat × Int)} {k j : Option Nat} (v : Int) (h : j ≠ k) : (putI l k v).lookup j = l.lookup j := by
  have hne : (j == k) = false := by simpa using h
  unfold putI
  split
  · induction l with
    | nil => simp [List.lookup, hne]
    | cons x l ih =>
      rename_i hl
      obtain ⟨x1, x2⟩ := x
      rw [List.cons_append, List.lookup_cons, List.lookup_cons]
      cases hx : (j == x1)
      · refine ih ?_
        rw [List.lookup_cons] at hl
        cases hx2 : (k == x1)
        · rw [hx2] at hl; exact hl
        · rw [hx2] at hl; cases hl
      · rfl
  · have key : ∀ q : List (Option Nat × Int), List.lookup j (q.map (fun x => if x.1 = k then (k, v) else x)) = List.lookup j q := by
      intro q
      induction q with
      | nil => rfl
      | cons x l ih =>
        obtain ⟨x1, x2⟩ := x
        rw [List.map_cons, List.lookup_cons]
        by_cases e : x1 = k
        · subst e
          simp only [if_true]
          rw [List.lookup_cons, hne]; exact ih
        · rw [if_neg e, List.lookup_cons]
          cases (j == x1)
          · exact ih
          · rfl
    exact key l
theorem lookup_putI_new {l : List (Option Nat × Int)} {k : Option Nat} (v : Int) (h : l.lookup k = none) : (putI l k v).lookup k = some v := by
  unfold putI
  rw [h]
  simp only [Option.isNone_none, if_true]
  induction l with
  | nil => simp
  | cons x l ih =>
    obtain ⟨x1, x2⟩ := x
    rw [List.lookup_cons] at h
    rw [List.cons_append, List.lookup_cons]
    cases hx : (k == x1)
    · rw [hx] at h; exact ih h
    · rw [hx] at h; cases h
/-- The state of the numbering behind a part of the tree. -/
structure NumTo (s s' : Num) (ps : List Int) (ns : List ByteArray) (nd : List Nat) : Prop where
  ps : s'.ps = s.ps ++ ps
  ns : s'.ns = s.ns ++ ns
  old : ∀ k : Option Nat, (∀ j ∈ nd, k ≠ some j) → s'.mp.lookup k = s.mp.lookup k
end
end Go.Proofs.Ytcaialhoclodjaa
namespace Go.Proofs.Ytcaialhoclodjaa
/-- The name of the first leaf, depth first. -/
def firstR : RT → ByteArray
  | .node nm [] => nm
  | .node _ (k :: _) => firstR k
def insR (a : RT) : List RT → List RT
  | [] => [a]
  | b :: l => if cmpS (firstR a) (firstR b) ≤ 0 then a :: b :: l else b :: insR a l
mutual
def sortR : RT → RT
  | .node nm ks => .node nm (sortRs ks)
def sortRs : List RT → List RT
  | [] => []
  | r :: rs => insR (sortR r) (sortRs rs)
end
theorem insR_map {f : Nat → ByteArray} {g : Nat → RT} {a : Nat} (ha : firstR (g a) = f a) : ∀ l : List Nat, (∀ k ∈ l, firstR (g k) = f k) → insR (g a) (l.map g) = (insB f a l).map g
  | [], _ => rfl
  | b :: l, h => by
    have hb := h b (by simp)
    rw [List.map_cons, insR, insB, ha, hb]
    unfold leB
    by_cases e : cmpS (f a) (f b) ≤ 0
    · rw [if_pos e, if_pos (by simpa using e)]; rfl
    · rw [if_neg e, if_neg (by simpa using e), insR_map ha l (fun k hk => h k (by simp [hk]))]; rfl
theorem mem_isrt {f : Nat → ByteArray} {l : List Nat} {k : Nat} : k ∈ isrt f l ↔ k ∈ l := by rw [← srtBy_eq]; exact (srtBy_perm f l).mem_iff
theorem sortRs_map {f : Nat → ByteArray} {h : Nat → RT} : ∀ l : List Nat, (∀ k ∈ l, firstR (sortR (h k)) = f k) → sortRs (l.map h) = (isrt f l).map fun k => sortR (h k)
  | [], _ => rfl
  | a :: l, hf => by
    rw [List.map_cons, sortRs, isrt, sortRs_map l (fun k hk => hf k (by simp [hk]))]
    exact insR_map (g := fun k => sortR (h k)) (hf a (by simp)) (isrt f l) (fun k hk => hf k (by simp [mem_isrt.1 hk]))
section
variable {F : Frs} {n : Nat} {rk : Nat → Nat}
theorem Wf.srt (h : Wf F n rk) (p : Nat → Bool) : Wf (F.srt rk p) n rk := ⟨fun i hi k hk => h.kid i hi k ((F.srt_perm rk p i).mem_iff.1 hk)⟩
theorem toRF_srt (h : Wf F n rk) (p : Nat → Bool) : ∀ {d i : Nat}, i < n → rk i ≤ d → (∀ j, subF F rk i j = true → p j = true) → toRF (F.srt rk p) rk i = sortR (toRF F rk i) ∧ firstR (sortR (toRF F rk i)) = lsF F rk i := by
  intro d
  have hkids : ∀ i, p i = true → (F.srt rk p).kids i = srtBy (lsF F rk) (F.kids i) := fun i hp => by
    show (if p i then _ else _ : List Nat) = _
    rw [if_pos hp]
  induction d with
  | zero =>
    intro i hi hd hp
    have hk : F.kids i = [] := by
      cases hk : F.kids i with
      | nil => rfl
      | cons k l => have := (h.kid i hi k (by rw [hk]; simp)).2; omega
    have hk2 : (F.srt rk p).kids i = [] := by rw [hkids i (hp i (subF_self h hi)), hk]; simp [srtBy]
    rw [toRF_eq (h.srt p) hi, toRF_eq h hi, lsF_eq h hi, hk, hk2]
    refine ⟨rfl, ?_⟩
    simp [srtBy, sortR, sortRs, firstR]
  | succ d ih =>
    intro i hi hd hp
    have hk2 := hkids i (hp i (subF_self h hi))
    have key : ∀ k ∈ F.kids i, toRF (F.srt rk p) rk k = sortR (toRF F rk k) ∧ firstR (sortR (toRF F rk k)) = lsF F rk k := fun k hk => by
      have hkk := h.kid i hi k hk
      exact ih hkk.1 (by omega) (fun j hj => hp j (subF_kid h hi hk hj))
    have hs : sortRs ((F.kids i).map (toRF F rk)) = (isrt (lsF F rk) (F.kids i)).map fun k => sortR (toRF F rk k) := sortRs_map _ (fun k hk => (key k hk).2)
    rw [toRF_eq (h.srt p) hi, toRF_eq h hi, lsF_eq h hi, hk2, srtBy_eq, sortR, hs]
    refine ⟨?_, ?_⟩
    · show RT.node (F.nm i) _ = _
      congr 1
      exact List.map_congr_left fun k hk => (key k (mem_isrt.1 hk)).1
    · cases hc : isrt (lsF F rk) (F.kids i) with
      | nil => rfl
      | cons k l =>
        rw [List.map_cons, firstR]
        exact (key k (mem_isrt.1 (by rw [hc]; simp))).2
end
/-- The rose tree of a tree. -/
def toR (t : Tre) : RT := toRF (frT t) (rkT t) 0
/-- The places of own in a part of the list that begins at place b. -/
def kf (own : Nat) : List Int → Nat → List Nat
  | [], _ => []
  | p :: ps, b => if p = (own : Int) then b :: kf own ps (b + 1) else kf own ps (b + 1)
theorem kf_app (own : Nat) : ∀ (a c : List Int) (b : Nat), kf own (a ++ c) b = kf own a b ++ kf own c (b + a.length)
  | [], c, b => rfl
  | x :: a, c, b => by
    rw [List.cons_append, kf, kf, kf_app own a c (b + 1), List.length_cons, show b + 1 + a.length = b + (a.length + 1) by omega]
    split <;> rfl
theorem kf_none (own : Nat) : ∀ (a : List Int) (b : Nat), (∀ x ∈ a, x ≠ (own : Int)) → kf own a b = []
  | [], _, _ => rfl
  | x :: a, b, h => by rw [kf, if_neg (h x (by simp)), kf_none own a (b + 1) (fun y hy => h y (by simp [hy]))]
theorem kidsL_kf {ps : List Int} {n : Nat} (h : ∀ i, i < ps.length → gi ps i = n → n < i) : kidsL ps n = kf n ps 0 := by
  have key : ∀ k, k ≤ ps.length → kidsK ps n k = kf n (ps.take k) 0 := by
    intro k
    induction k with
    | zero => intro _; rfl
    | succ k ih =>
      intro hk
      rw [kidsK_succ, ih (by omega), List.take_succ_eq_append_getElem (show k < ps.length by omega), kf_app, List.length_take, Nat.min_eq_left (by omega)]
      have hg : gi ps k = ps[k] := by simp [gi, show k < ps.length by omega]
      congr 1
      by_cases e : gi ps k = n
      · rw [if_pos ⟨h k (by omega) e, e⟩, kf, if_pos (by rw [← hg]; exact e)]
        simp [kf]
      · rw [if_neg (fun q => e q.2), kf, if_neg (by rw [← hg]; exact e)]; rfl
  unfold kidsL
  rw [key _ (Nat.le_refl _), List.take_length]
mutual
theorem psR_bd : ∀ (r : RT) (n : Nat) (p x : Int), x ∈ psR r n p → x = p ∨ ((n : Int) ≤ x ∧ x < ((n + sizeR r : Nat) : Int))
  | .node _ ks, n, p, x, h => by
    rw [psR, List.mem_cons] at h
    rcases h with h | h
    · exact .inl h
    · right
      rw [sizeR]
      rcases psRs_bd ks n (n + 1) x h with h1 | ⟨h1, h2⟩
      · subst h1; exact ⟨by omega, by omega⟩
      · exact ⟨by omega, by omega⟩
theorem psRs_bd : ∀ (rs : List RT) (own n : Nat) (x : Int), x ∈ psRs rs own n → x = (own : Int) ∨ ((n : Int) ≤ x ∧ x < ((n + sizeRs rs : Nat) : Int))
  | [], _, _, _, h => by simp [psRs] at h
  | r :: rs, own, n, x, h => by
    rw [psRs, List.mem_append] at h
    rw [sizeRs]
    rcases h with h | h
    · rcases psR_bd r n own x h with h1 | ⟨h1, h2⟩
      · exact .inl h1
      · exact .inr ⟨h1, by omega⟩
    · rcases psRs_bd rs own (n + sizeR r) x h with h1 | ⟨h1, h2⟩
      · exact .inl h1
      · exact .inr ⟨by omega, by omega⟩
end
/-- The numbers of the children. -/
def hdR : List RT → Nat → List Nat
  | [], _ => []
  | r :: rs, n => n :: hdR rs (n + sizeR r)
theorem kf_psRs (own : Nat) : ∀ (rs : List RT) (n : Nat), own < n → kf own (psRs rs own n) n = hdR rs n
  | [], _, _ => rfl
  | .node nm ks :: rs, n, h => by
    rw [psRs, hdR, kf_app, psR_len, kf_psRs own rs _ (by omega), psR, kf, if_pos rfl]
    rw [kf_none own _ _ (fun x hx e => by
      rcases psRs_bd ks n (n + 1) x hx with h1 | ⟨h1, _⟩ <;> omega)]
    rfl
theorem sizeR_pos (r : RT) : 0 < sizeR r := by cases r; rw [sizeR]; omega
theorem gi_app_r (a b : List Int) (k : Nat) : gi (a ++ b) (a.length + k) = gi b k := by simp [gi, List.getElem?_append_right]
theorem gs_app_r (a b : List ByteArray) (k : Nat) : gs (a ++ b) (a.length + k) = gs b k := by simp [gs, List.getElem?_append_right]
theorem gi_app_l {a : List Int} (b : List Int) {k : Nat} (h : k < a.length) : gi (a ++ b) k = gi a k := by simp [gi, List.getElem?_append_left h]
/-- A rose tree laid somewhere in a tree is found there. -/
theorem toRD_at : ∀ (d : Nat) (r : RT) (n : Nat) (p : Int) (t : Tre) (pre post : List Int) (nre nost : List ByteArray), sizeR r ≤ d → t.ps = pre ++ (psR r n p ++ post) → t.ns = nre ++ (nsR r ++ nost) → pre.length = n → nre.length = n → p < n → (∀ x ∈ pre, x < (n : Int)) → (∀ x ∈ post, x < (n : Int) ∨ ((n + sizeR r : Nat) : Int) ≤ x) → toRD (frT t) d n = r := by
  intro d
  induction d with
  | zero => intro r n p t pre post nre nost hd; have := sizeR_pos r; omega
  | succ d ih =>
    intro r n p t pre post nre nost hd hps hns hpl hnl hp hpre hpost
    obtain ⟨nm, ks⟩ := r
    rw [sizeR] at hd hpost
    rw [psR, List.cons_append] at hps
    rw [nsR, List.cons_append] at hns
    have hk : (frT t).kids n = hdR ks (n + 1) := by
      rw [frT_kids, kidsL_kf]
      · rw [hps, kf_app, kf_none n pre 0 (fun x hx e => by have := hpre x hx; omega), List.nil_append, kf, if_neg (by omega), kf_app, hpl, Nat.zero_add, kf_psRs n ks (n + 1) (by omega), psRs_len]
        rw [kf_none n post _ (fun x hx e => by rcases hpost x hx with h1 | h1 <;> omega), List.append_nil]
      · intro i hi e
        rw [hps] at e
        rcases Nat.lt_trichotomy i n with h1 | h1 | h1
        · rw [gi_app_l _ (by omega)] at e
          have := hpre _ (gi_mem (l := pre) (k := i) (by omega)); omega
        · subst h1
          have h2 := gi_app_r pre (p :: (psRs ks i (i + 1) ++ post)) 0
          rw [hpl] at h2
          have h2 : gi (pre ++ p :: (psRs ks i (i + 1) ++ post)) i = p := h2
          rw [h2] at e
          have e : p = i := e
          omega
        · exact h1
    have hnm : (frT t).nm n = nm := by
      show gs t.ns n = nm
      rw [hns, ← hnl]
      exact gs_app_r nre (nm :: (nsRs ks ++ nost)) 0
    rw [toRD, hk, hnm]
    congr 1
    have key : ∀ (rs : List RT) (m : Nat) (pr : List Int) (nr : List ByteArray), sizeRs rs ≤ d → t.ps = pr ++ (psRs rs n m ++ post) → t.ns = nr ++ (nsRs rs ++ nost) → pr.length = m → nr.length = m → n < m → (∀ x ∈ pr, x < (m : Int)) → (∀ x ∈ post, x < (n : Int) ∨ ((m + sizeRs rs : Nat) : Int) ≤ x) → (hdR rs m).map (toRD (frT t) d) = rs := by
      intro rs
      induction rs with
      | nil => intros; rfl
      | cons r rs ihr =>
        intro m pr nr hd2 hps2 hns2 hpl2 hnl2 hm hpr hpo
        rw [sizeRs] at hd2 hpo
        rw [psRs, List.append_assoc] at hps2
        rw [nsRs, List.append_assoc] at hns2
        rw [hdR, List.map_cons]
        have h1 := ih r m n t pr (psRs rs n (m + sizeR r) ++ post) nr (nsRs rs ++ nost) (by omega) hps2 hns2 hpl2 hnl2 (by omega) hpr (fun x hx => by
          rcases List.mem_append.1 hx with hx | hx
          · rcases psRs_bd rs n (m + sizeR r) x hx with h2 | ⟨h2, _⟩
            · exact .inl (by omega)
            · exact .inr h2
          · rcases hpo x hx with h2 | h2
            · exact .inl (by omega)
            · exact .inr (by omega))
        have h2 := ihr (m + sizeR r) (pr ++ psR r m n) (nr ++ nsR r) (by omega) (by rw [hps2, List.append_assoc]) (by rw [hns2, List.append_assoc])
          (by rw [List.length_append, psR_len, hpl2]) (by rw [List.length_append, nsR_len, hnl2]) (by omega) (fun x hx => by
            rcases List.mem_append.1 hx with hx | hx
            · have := hpr x hx; omega
            · rcases psR_bd r m n x hx with h3 | ⟨_, h3⟩ <;> omega) (fun x hx => by
            rcases hpo x hx with h3 | h3
            · exact .inl h3
            · exact .inr (by omega))
        rw [h1, h2]
    exact key ks (n + 1) (pre ++ [p]) (nre ++ [nm]) (by omega) (by rw [hps, List.append_assoc]; rfl) (by rw [hns, List.append_assoc]; rfl) (by simp [hpl]) (by simp [hnl]) (by omega) (fun x hx => by
      rcases List.mem_append.1 hx with hx | hx
      · have := hpre x hx; omega
      · have : x = p := by simpa using hx
        omega) (fun x hx => by
      rcases hpost x hx with h3 | h3
      · exact .inl h3
      · exact .inr (by omega))
theorem flat_ps (r : RT) : (flat r).ps.length = sizeR r := psR_len r 0 (-1)
theorem flat_ns (r : RT) : (flat r).ns.length = sizeR r := nsR_len r
/-- The rose tree of a rose tree's numbering is that rose tree. -/
theorem toR_flat (r : RT) : toR (flat r) = r := by
  unfold toR toRF
  have h : rkT (flat r) 0 = sizeR r := by unfold rkT; rw [flat_ps, Nat.sub_zero]
  rw [h]
  exact toRD_at (sizeR r) r 0 (-1) (flat r) [] [] [] [] (Nat.le_refl _) (by simp [flat]) (by simp [flat]) rfl rfl (by omega) (fun x hx => by simp at hx) (fun x hx => by simp at hx)
end Go.Proofs.Ytcaialhoclodjaa
