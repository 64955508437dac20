/- The contract of slices.DeleteFunc at nodes. phylotree.contracted: what it does to the forest. The tree that phylotree.made makes: plain. The tree of a forest whose rose tree is good: plain. The forest that pruned leaves: plain. Reroot: what its loop does to the forest. The sets of layer 35's reference are nested, and their tree is the program's: plain. SharederrorClades, plain: the tree whose leaves are renamed, the lists of the leaves below its nodes. The turned forest: plain. The turned forest: what the loop gives; what pruned leaves of it. Plain. -/
import Derived.Test.YtcbmbhghmfehpaaGreatQ18
import Derived.Test.YtcbmbhghmfehpaaGreatQ17
import Derived.Test.YtcbmbhghmfehpaaGreatQ14
import Derived.Test.YtcbmbhghmfehpaaGreatQ15
namespace Go.Proofs.YtcbmbhghmfehpaaGreat
open Go.RowKit Go.Deep
def keepF (P : Nat → Bool) (ks : List Nat) (j : Nat) : List Nat := (ks.take j).filter fun k => !P k
theorem keepF_len (P : Nat → Bool) (ks : List Nat) (j : Nat) : (keepF P ks j).length ≤ j := by
  unfold keepF
  refine Nat.le_trans (List.length_filter_le _ _) ?_
  rw [List.length_take]; omega
theorem keepF_succ (P : Nat → Bool) {ks : List Nat} {j : Nat} (hj : j < ks.length) : keepF P ks (j + 1) = if P (ks.getD j 0) then keepF P ks j else keepF P ks j ++ [ks.getD j 0] := by
  unfold keepF
  have hg : ks.getD j 0 = ks[j] := by rw [List.getD_eq_getElem?_getD, List.getElem?_eq_getElem hj]; rfl
  rw [List.take_succ_eq_append_getElem hj, List.filter_append, hg]
  cases h : P ks[j]
  · rw [if_neg (by decide), List.filter_cons_of_pos (by rw [h]; rfl)]; rfl
  · rw [if_pos rfl, List.filter_cons_of_neg (by rw [h]; decide)]; simp
/-- Behind element j of the row of block g: what stays lies ahead, the rest is as it was. -/
structure DfW (A : Nat → Nat) (P : Nat → Bool) (base : Nat) (w wr : World) (g cap : Nat) (ks : List Nat) (j : Nat) (X : List Value) : Prop where
  own : Owns base 145 wr (.slice (some ⟨g, 0, none⟩) ks.length cap) X
  len : X.length = ks.length
  head : X.take (keepF P ks j).length = (keepF P ks j).map (nptr A)
  rest : ∀ q, j ≤ q → X[q]? = (ks.map (nptr A))[q]?
  up : w.grownBy wr (some g)
section
variable {A : Nat → Nat} {P : Nat → Bool} {base : Nat} {w wr : World} {g cap : Nat} {ks : List Nat} {X : List Value}
theorem DfW.start (h : Owns base 145 w (.slice (some ⟨g, 0, none⟩) ks.length cap) (ks.map (nptr A))) {j : Nat} (hj : j < ks.length) (hno : ∀ i, i < j → P (ks.getD i 0) = false) (hP : P (ks.getD j 0) = true) (m : Nat) :
    DfW A P base w (w.drewN m) g cap ks (j + 1) (ks.map (nptr A)) ∧ (keepF P ks (j + 1)).length = j := by
  have hk : ∀ i, i ≤ j → keepF P ks i = ks.take i := by
    intro i
    induction i with
    | zero => intro _; rfl
    | succ i ih =>
      intro hi
      rw [keepF_succ P (show i < ks.length by omega), hno i (by omega), if_neg (by decide), ih (by omega), List.take_succ_eq_append_getElem (show i < ks.length by omega)]
      congr 2
      rw [List.getD_eq_getElem?_getD, List.getElem?_eq_getElem (show i < ks.length by omega)]; rfl
  have e : keepF P ks (j + 1) = ks.take j := by rw [keepF_succ P hj, hP, if_pos rfl, hk j (Nat.le_refl _)]
  have hl : (ks.take j).length = j := by rw [List.length_take]; omega
  refine ⟨⟨h.same2 fun _ _ => rfl, List.length_map _, ?_, fun _ _ => rfl, grown_up (Up.drewN w m) _⟩, by rw [e, hl]⟩
  rw [e, hl, List.map_take]
theorem DfW.skip {j : Nat} (h : DfW A P base w wr g cap ks j X) (hj : j < ks.length) (hP : P (ks.getD j 0) = true) (m : Nat) : DfW A P base w (wr.drewN m) g cap ks (j + 1) X :=
  ⟨h.own.same2 fun _ _ => rfl, h.len, by rw [keepF_succ P hj, if_pos hP]; exact h.head, fun q hq => h.rest q (by omega), grown_trans h.up (grown_up (Up.drewN wr m) _)⟩
theorem DfW.at {j : Nat} (h : DfW A P base w wr g cap ks j X) (hj : j < ks.length) : wr.cell? ⟨g, j, none⟩ = some (.pointer (some ⟨A (ks.getD j 0), 0, none⟩)) := by
  have hke : ks[j]? = some (ks.getD j 0) := by rw [List.getD_eq_getElem?_getD, List.getElem?_eq_getElem hj]; rfl
  exact (owns_cell h.own (j := j) (u := nptr A (ks.getD j 0)) (by rw [h.rest j (Nat.le_refl _), List.getElem?_map, hke]; rfl)).1
theorem DfW.push {j : Nat} (h : DfW A P base w wr g cap ks j X) (hj : j < ks.length) (hP : P (ks.getD j 0) = false) :
    (∃ x, wr.cell? ⟨g, (keepF P ks j).length, none⟩ = some x) ∧ wr.frozen? ⟨g, (keepF P ks j).length, none⟩ = false ∧ (keepF P ks (j + 1)).length = (keepF P ks j).length + 1 ∧
      ∃ X', DfW A P base w (wr.setCell ⟨g, (keepF P ks j).length, none⟩ (.pointer (some ⟨A (ks.getD j 0), 0, none⟩))) g cap ks (j + 1) X' := by
  have hle := keepF_len P ks j
  obtain ⟨g2, cap2, e1, _, _, hc, hf, hs⟩ := h.own.set (j := (keepF P ks j).length) (by rw [h.len]; omega)
  injection e1 with a1 a2 a3
  injection a1 with a1
  injection a1 with a1
  subst a1
  have hk := keepF_succ P hj
  rw [if_neg (by rw [hP]; decide)] at hk
  have hl : (keepF P ks (j + 1)).length = (keepF P ks j).length + 1 := by rw [hk, List.length_append]; rfl
  refine ⟨⟨_, hc⟩, hf, hl, X.set (keepF P ks j).length (nptr A (ks.getD j 0)), hs _, by rw [List.length_set]; exact h.len, ?_, fun q hq => ?_, grown_trans h.up grown_set⟩
  · rw [hl, hk, List.map_append, ← h.head]
    have hlt : (keepF P ks j).length < (X.set (keepF P ks j).length (nptr A (ks.getD j 0))).length := by rw [List.length_set, h.len]; omega
    rw [List.take_succ_eq_append_getElem hlt, List.take_set_of_le (Nat.le_refl _), List.getElem_set_self]; rfl
  · rw [List.getElem?_set_ne (by omega)]; exact h.rest q (by omega)
/-- The rest is cleared, the slice is cut. -/
theorem DfW.done {m : Nat} (h : DfW A P base w wr g cap ks ks.length X) (hm : (keepF P ks ks.length).length = m) (hlt : m < ks.length) :
    (∀ i, i < ks.length - m → (wr.cell? ⟨g, m + i, none⟩).isSome = true) ∧ (∀ i, i < ks.length - m → wr.frozen? ⟨g, m + i, none⟩ = false) ∧
      Owns base 145 (wr.setCells g m (List.replicate (ks.length - m) (.pointer none))) (.slice (some ⟨g, 0, none⟩) m cap) ((ks.filter fun k => !P k).map (nptr A)) ∧
      w.grownBy (wr.setCells g m (List.replicate (ks.length - m) (.pointer none))) (some g) := by
  have hall : keepF P ks ks.length = ks.filter fun k => !P k := by unfold keepF; rw [List.take_length]
  have hcell : ∀ i, i < ks.length - m → wr.cell? ⟨g, m + i, none⟩ = some (X.getD (m + i) undef) ∧ wr.frozen? ⟨g, m + i, none⟩ = false := fun i hi => by
    have hl : m + i < X.length := by rw [h.len]; omega
    exact owns_cell h.own (by rw [List.getD_eq_getElem?_getD, List.getElem?_eq_getElem hl]; rfl)
  refine ⟨fun i hi => by rw [(hcell i hi).1]; rfl, fun i hi => (hcell i hi).2, ?_, grown_trans h.up (grown_sets _ _ _)⟩
  refine owns_tails _ _ _ (Nat.le_refl _) ?_
  have := owns_take h.own (m := m) (by omega)
  rw [← hm, h.head] at this
  rw [← hm, ← hall]; exact this
end
theorem owns_cap {base : Nat} {e : TypeId} {w : World} {g n cap : Nat} {xs : List Value} (h : Owns base e w (.slice (some ⟨g, 0, none⟩) n cap) xs) : n ≤ cap := by
  obtain ⟨h1, h2⟩ := h
  rcases h2 with ⟨e1, _⟩ | ⟨g2, cap2, cur, e1, hg, hc, hn, _⟩
  · cases e1
  · injection e1 with a1 a2 a3
    omega
end Go.Proofs.YtcbmbhghmfehpaaGreat
namespace Go.Proofs.YtcbmbhghmfehpaaGreat
open Go.RowKit Go.Deep
section
variable {n base : Nat} {A : Nat → Nat} {kv : Nat → Value} {F : Frs} {w w' w2 : World} {rk : Nat → Nat}
end
end Go.Proofs.YtcbmbhghmfehpaaGreat
namespace Go.Proofs.YtcbmbhghmfehpaaGreat
theorem size_kid {nm : ByteArray} {ks : List RT} {k : RT} (h : k ∈ ks) : sizeR k < sizeR (.node nm ks) := by
  rw [sizeR]
  have : ∀ l : List RT, k ∈ l → sizeR k ≤ sizeRs l := fun l => by
    induction l with
    | nil => intro h; cases h
    | cons a l ih =>
      intro h
      rw [sizeRs]
      rcases List.mem_cons.1 h with rfl | h
      · omega
      · have := ih h; omega
  have := this ks h
  omega
section
variable {F : Frs} {n : Nat} {rk : Nat → Nat}
theorem rose_part (h : Wf F n rk) {i z : Nat} (hi : i < n) (hs : subF F rk i z = true) : toRF F rk z ∈ subR (toRF F rk i) := by
  rw [subR_toRF h hi (Nat.le_refl _)]
  exact List.mem_map.2 ⟨z, (mem_nodesF h hi (Nat.le_refl _)).2 hs, rfl⟩
/-- Where the rose tree is good, no node stands twice below the root. -/
theorem good_nodes (h : Wf F n rk) : ∀ (d i : Nat), rk i ≤ d → i < n → GoodR (toRF F rk i) → (nodesF F rk i).Nodup
  | d, i, hd, hi, hg => by
    rw [nodesF_eq h hi, List.nodup_cons]
    have hsub : ∀ k ∈ F.kids i, toRF F rk k ∈ subR (toRF F rk i) := fun k hk => rose_part h hi (subF_kid h hi hk (subF_self h (h.kid i hi k hk).1))
    have hgk : ∀ k ∈ F.kids i, GoodR (toRF F rk k) := fun k hk => ⟨fun s hs => hg.inn s (subR_trans _ (hsub k hk) hs), fun s hs => hg.lf s (subR_trans _ (hsub k hk) hs), (leafR_sub (hsub k hk)).nodup hg.nd⟩
    refine ⟨fun hm => ?_, ?_⟩
    · obtain ⟨k, hk, hm⟩ := List.mem_flatMap.1 hm
      have hkk := h.kid i hi k hk
      have := subD_rank h hkk.1 ((mem_nodesF h hkk.1 (Nat.le_refl _)).1 hm)
      omega
    · by_cases h0 : F.kids i = []
      · rw [h0]; simp
      · have hnd := hg.nd
        rw [toRF_eq h hi, leafR_node (by have := hg.inn _ (subR_self _); rw [toRF_nm h hi, toRF_kids h hi] at this; exact this (fun e => h0 (List.map_eq_nil_iff.1 e))), List.flatMap_map, List.nodup_iff_pairwise_ne, List.pairwise_flatMap] at hnd
        rw [List.nodup_iff_pairwise_ne, List.pairwise_flatMap]
        refine ⟨fun k hk => ?_, ?_⟩
        · have hkk := h.kid i hi k hk
          cases d with
          | zero => omega
          | succ d => exact good_nodes h d k (by omega) hkk.1 (hgk k hk)
        · refine hnd.2.imp_of_mem ?_
          intro a b ha hb hab x hx y hy e
          subst e
          have hka := h.kid i hi a ha
          have hkb := h.kid i hi b hb
          have h1 := rose_part h hka.1 ((mem_nodesF h hka.1 (Nat.le_refl _)).1 hx)
          have h2 := rose_part h hkb.1 ((mem_nodesF h hkb.1 (Nat.le_refl _)).1 hy)
          have hf := first_leaf (toRF F rk x) fun s hs => (hgk a ha).lf s (subR_trans _ h1 hs)
          exact hab _ ((leafR_sub h1).subset hf) _ ((leafR_sub h2).subset hf) rfl
end
end Go.Proofs.YtcbmbhghmfehpaaGreat
namespace Go.Proofs.YtcbmbhghmfehpaaGreat
section
variable {F : Frs} {n : Nat} {rk : Nat → Nat}
theorem num_sub2 (h : Wf F n rk) : ∀ {d i : Nat} (p : Option Nat) (np : Int) (s : Num), i < n → rk i ≤ d → (nodesF F rk i).Nodup → p ≠ some i → s.mp.lookup p = some np → (∀ j ∈ nodesF F rk i, s.mp.lookup (some j) = none) →
    NumTo s ((seqF F rk i p).foldl (numS F) s) (psR (toRF F rk i) s.ps.length np) (nsR (toRF F rk i)) (nodesF F rk i) := by
  intro d
  induction d with
  | zero =>
    intro i p np s hi hd hnd0 hp hl hn
    have hk : F.kids i = [] := by
      cases hk : F.kids i with
      | nil => rfl
      | cons k l => have := (h.kid i hi k (by rw [hk]; simp)).2; omega
    rw [seqF_eq h hi, toRF_eq h hi, nodesF_eq h hi, hk]
    have hni := hn i (by rw [nodesF_eq h hi]; simp)
    refine ⟨?_, ?_, fun k hk2 => lookup_putI_ne _ (hk2 i (by simp))⟩
    · show s.ps ++ [((putI s.mp (some i) _).lookup p).getD 0] = _
      rw [lookup_putI_ne _ hp, hl]; rfl
    · rfl
  | succ d ih =>
    intro i p np s hi hd hnd0 hp hl hn
    rw [seqF_eq h hi, toRF_eq h hi, nodesF_eq h hi]
    have hni := hn i (by rw [nodesF_eq h hi]; simp)
    have hnd := hnd0
    rw [nodesF_eq h hi, List.nodup_cons] at hnd
    have key : ∀ (l : List Nat), (∀ k ∈ l, k ∈ F.kids i) → (l.flatMap fun k => nodesF F rk k).Nodup → (∀ k ∈ l, i ∉ nodesF F rk k) → ∀ (s2 : Num) (own : Nat), s2.mp.lookup (some i) = some (own : Int) → (∀ k ∈ l, ∀ j ∈ nodesF F rk k, s2.mp.lookup (some j) = none) →
        NumTo s2 ((l.flatMap fun k => seqF F rk k (some i)).foldl (numS F) s2) (psRs (l.map (toRF F rk)) own s2.ps.length) (nsRs (l.map (toRF F rk))) (l.flatMap fun k => nodesF F rk k) := by
      intro l
      induction l with
      | nil => intro _ _ _ s2 own _ _; exact ⟨by simp [psRs], by simp [nsRs], fun _ _ => rfl⟩
      | cons c l ihl =>
        intro hin hdl hil s2 own ho hno
        have hcc := h.kid i hi c (hin c (by simp))
        rw [List.flatMap_cons, List.foldl_append, List.flatMap_cons]
        rw [List.flatMap_cons, List.nodup_append] at hdl
        have h1 := ih (some i) (own : Int) s2 hcc.1 (by omega) hdl.1 (fun e => by
          injection e with e
          have := hcc.2; rw [e] at this; omega) ho (hno c (by simp))
        have h2 := ihl (fun k hk => hin k (by simp [hk])) hdl.2.1 (fun k hk => hil k (by simp [hk])) ((seqF F rk c (some i)).foldl (numS F) s2) own
          ((h1.old (some i) (fun j hj e => by injection e with e; subst e; exact hil c (by simp) hj)).trans ho)
          (fun k hk j hj => (h1.old (some j) (fun j2 hj2 e => by
            injection e with e; subst e
            exact hdl.2.2 j hj2 j (List.mem_flatMap.2 ⟨k, hk, hj⟩) rfl)).trans (hno k (by simp [hk]) j hj))
        refine ⟨?_, ?_, fun k hk => ?_⟩
        · rw [h2.ps, h1.ps, List.map_cons, psRs, List.append_assoc, List.length_append, psR_len]
        · rw [h2.ns, h1.ns, List.map_cons, nsRs, List.append_assoc]
        · rw [h2.old k (fun j hj => hk j (by simp [hj])), h1.old k (fun j hj => hk j (by simp [hj]))]
    have hin : ∀ k ∈ F.kids i, i ∉ nodesF F rk k := fun k hk hm => hnd.1 (List.mem_flatMap.2 ⟨k, hk, hm⟩)
    have h3 := key (F.kids i) (fun k hk => hk) hnd.2 hin (numS F s (i, p)) s.ps.length (lookup_putI_new _ hni) (fun k hk j hj => by
      show (putI s.mp (some i) _).lookup (some j) = none
      rw [lookup_putI_ne _ (fun e => by injection e with e; subst e; exact hin k hk hj)]
      exact hn j (by rw [nodesF_eq h hi]; exact List.mem_cons_of_mem _ (List.mem_flatMap.2 ⟨k, hk, hj⟩)))
    have hps : (numS F s (i, p)).ps = s.ps ++ [np] := by
      show s.ps ++ [((putI s.mp (some i) _).lookup p).getD 0] = _
      rw [lookup_putI_ne _ hp, hl]; rfl
    rw [List.foldl_cons]
    refine ⟨?_, ?_, fun k hk => ?_⟩
    · rw [h3.ps, hps, psR, List.append_assoc, List.length_append]; rfl
    · rw [h3.ns]
      show (s.ns ++ [F.nm i]) ++ _ = _
      rw [nsR, List.append_assoc]; rfl
    · rw [h3.old k (fun j hj => hk j (by simp [hj]))]
      exact lookup_putI_ne _ (hk i (by simp))
theorem treeF_flat2 (h : Wf F n rk) {i : Nat} (hi : i < n) (hnd : (nodesF F rk i).Nodup) : treeF F rk i = flat (toRF F rk i) := by
  have h1 := num_sub2 h (d := rk i) none (-1) num0 hi (Nat.le_refl _) hnd (fun e => by cases e) rfl (fun j _ => rfl)
  unfold treeF flat numL
  rw [h1.ps, h1.ns]
  rfl
end
end Go.Proofs.YtcbmbhghmfehpaaGreat
namespace Go.Proofs.YtcbmbhghmfehpaaGreat
section
variable {F : Frs} {n : Nat} {rk : Nat → Nat} {P : Nat → Bool}
theorem good_size (h : Wf F n rk) {i : Nat} (hi : i < n) (hg : GoodR (toRF F rk i)) : sizeR (toRF F rk i) ≤ n := by
  rw [← subR_len, subR_toRF h hi (Nat.le_refl _), List.length_map]
  exact nodup_le (good_nodes h _ i (Nat.le_refl _) hi hg) fun x hx => subF_lt h hi (Nat.le_refl _) ((mem_nodesF h hi (Nat.le_refl _)).1 hx)
end
end Go.Proofs.YtcbmbhghmfehpaaGreat
namespace Go.Proofs.YtcbmbhghmfehpaaGreat
open Go.RowKit Go.Deep
section
variable {base n : Nat} {A : Nat → Nat} {kv : Nat → Value} {F : Frs} {w w' : World}
end
structure RrS where
  fr : Frs
  hang : Nat
  frm : Nat
  cur : Int
end Go.Proofs.YtcbmbhghmfehpaaGreat
namespace Go.Proofs.YtcbmbhghmfehpaaGreat
section
variable {names : List ByteArray} {l : List Grp}
theorem mem_setsL {n : Nat} (hn : 0 < n) {x : List Int} : x ∈ setsL n l ↔ x = allI n ∨ (∃ i, i < l.length ∧ (gg l i).src = x ∧ 2 ≤ x.length ∧ x.length < n) ∨ (1 < n ∧ ∃ i : Nat, i < n ∧ x = [(i : Int)]) := by
  unfold setsL
  by_cases h1 : 1 < n
  · rw [if_pos h1, List.mem_append, (stZ_ord h1 (n - 2) (Nat.le_refl _)).2.2 x, show n - (n - 2) = 2 by omega, List.mem_map, or_assoc]
    constructor
    · rintro (e | e | ⟨i, hi, rfl⟩)
      · exact .inl e
      · exact .inr (.inl e)
      · exact .inr (.inr ⟨h1, i, List.mem_range.1 hi, rfl⟩)
    · rintro (e | e | ⟨_, i, hi, rfl⟩)
      · exact .inl e
      · exact .inr (.inl e)
      · exact .inr (.inr ⟨i, List.mem_range.2 hi, rfl⟩)
  · obtain rfl : n = 1 := by omega
    rw [if_neg h1]
    show x ∈ [allI 1] ↔ _
    rw [List.mem_singleton]
    constructor
    · exact .inl
    · rintro (e | ⟨i, _, _, _, _⟩ | ⟨_, _⟩)
      · exact e
      · omega
      · omega
theorem stI_head {S : List (List Int)} {size : Nat} (h : 0 < S.length) : ∀ k, 0 < (stI l S size k).length ∧ gl (stI l S size k) 0 = gl S 0
  | 0 => ⟨h, rfl⟩
  | k + 1 => by
    obtain ⟨h1, h2⟩ := stI_head h k
    rw [stI]
    split
    · exact ⟨h1, h2⟩
    · refine ⟨by rw [List.length_append]; omega, ?_⟩
      rw [← h2]; unfold gl; rw [List.getD_eq_getElem?_getD, List.getD_eq_getElem?_getD, List.getElem?_append_left h1]
theorem stZ_head (n : Nat) : ∀ k, 0 < (stZ n l k).length ∧ gl (stZ n l k) 0 = allI n
  | 0 => ⟨by simp [stZ], rfl⟩
  | k + 1 => by
    obtain ⟨h1, h2⟩ := stZ_head n k
    obtain ⟨h3, h4⟩ := stI_head (l := l) (size := n - 1 - k) h1 l.length
    exact ⟨h3, h4.trans h2⟩
theorem ShOk.src_asc (h : ShOk names l) {k : Nat} (hk : k < l.length) : (gg l k).src.Pairwise (· < ·) ∧ (gg l k).src ≠ [] ∧ ∀ y ∈ (gg l k).src, 0 ≤ y ∧ y < (names.length : Int) := by
  have hs := ((gcErr_zero h.gc).2 k hk).2.2.2
  refine ⟨?_, fun e => ?_, fun y hy => ⟨?_, h.far k hk y hy⟩⟩
  · have hb := src_bits (n := names.length) hs (fun x hx => h.far k hk x hx)
    rw [hb, List.pairwise_map]
    exact (bits_asc _ _).imp fun h => Int.ofNat_lt.2 h
  · have := (srcOk_small hs).2.1
    rw [e] at this; simp at this
  · obtain ⟨q, rfl, _⟩ := small_mem (srcOk_small hs).1 hy
    omega
theorem ShOk.src_lam (h : ShOk names l) {i k : Nat} (hi : i < l.length) (hk : k < l.length) : (∀ z ∈ (gg l i).src, z ∈ (gg l k).src) ∨ (∀ z ∈ (gg l k).src, z ∈ (gg l i).src) ∨ ∀ z ∈ (gg l i).src, z ∉ (gg l k).src := by
  have hw : ∀ {a b : Nat}, a < l.length → b < l.length → withinB (ofS (gg l a).src) (ofS (gg l b).src) = true → ∀ z ∈ (gg l a).src, z ∈ (gg l b).src := fun {a b} ha hb hw z hz => by
    obtain ⟨q, rfl, _⟩ := small_mem (h.small ha) hz
    exact (h.bits hb).1 ((withinB_iff (ofS_u64 (h.small ha)) (ofS_u64 (h.small hb))).1 hw q ((h.bits ha).2 hz))
  have hd : ∀ {a b : Nat}, a < l.length → b < l.length → ofS (gg l a).src &&& ofS (gg l b).src = 0 → ∀ z ∈ (gg l a).src, z ∉ (gg l b).src := fun {a b} ha hb he z hz hz2 => by
    obtain ⟨q, rfl, _⟩ := small_mem (h.small ha) hz
    have h1 := (h.bits ha).2 hz
    have h2 := (h.bits hb).2 hz2
    have := congrArg (fun x => x.testBit q) he
    simp [Nat.testBit_and, h1, h2] at this
  rcases Nat.lt_trichotomy i k with c | c | c
  · rcases conf_cases (h.cf i k c hk) with q | q | q
    · exact .inl (hw hi hk q)
    · exact .inr (.inl (hw hk hi q))
    · exact .inr (.inr (hd hi hk q))
  · subst c; exact .inl fun z hz => hz
  · rcases conf_cases (h.cf k i c hi) with q | q | q
    · exact .inr (.inl (hw hk hi q))
    · exact .inl (hw hi hk q)
    · exact .inr (.inr (hd hi hk (by rw [Nat.and_comm]; exact q)))
theorem ShOk.sets (h : ShOk names l) : SetsOk names.length (setsL names.length l) := by
  have hn := h.pos
  have asc : ∀ x ∈ setsL names.length l, x.Pairwise (· < ·) ∧ x ≠ [] ∧ ∀ y ∈ x, 0 ≤ y ∧ y < (names.length : Int) := fun x hx => by
    rcases (mem_setsL hn).1 hx with rfl | ⟨i, hi, rfl, _, _⟩ | ⟨_, i, hi, rfl⟩
    · refine ⟨?_, fun e => ?_, fun y hy => mem_allI.1 hy⟩
      · unfold allI
        rw [List.pairwise_map]
        exact List.pairwise_lt_range.imp fun h => Int.ofNat_lt.2 h
      · have := congrArg List.length e
        rw [allI_len, List.length_nil] at this; omega
    · exact h.src_asc hi
    · refine ⟨by simp, by simp, fun y hy => ?_⟩
      rw [List.mem_singleton] at hy; omega
  refine ⟨asc, fun x hx y hy => ?_, ?_, ?_, ?_, ?_, fun i hi => ?_⟩
  · have top : ∀ {u : List Int}, u ∈ setsL names.length l → ∀ z ∈ u, z ∈ allI names.length := fun hu z hz => mem_allI.2 ((asc _ hu).2.2 z hz)
    have single : ∀ {u : List Int} {i : Int}, (∀ z ∈ [i], z ∈ u) ∨ ∀ z ∈ [i], z ∉ u := fun {u i} => by
      by_cases c : i ∈ u
      · exact .inl fun z hz => by rw [List.mem_singleton] at hz; rw [hz]; exact c
      · exact .inr fun z hz => by rw [List.mem_singleton] at hz; rw [hz]; exact c
    rcases (mem_setsL hn).1 hx with rfl | ⟨i, hi, rfl, _, _⟩ | ⟨_, i, hi, rfl⟩
    · exact .inr (.inl (top hy))
    · rcases (mem_setsL hn).1 hy with rfl | ⟨k, hk, rfl, _, _⟩ | ⟨_, k, hk, rfl⟩
      · exact .inl (top hx)
      · exact h.src_lam hi hk
      · rcases single (u := (gg l i).src) (i := (k : Int)) with q | q
        · exact .inr (.inl q)
        · exact .inr (.inr fun z hz c => q z c hz)
    · rcases single (u := y) (i := (i : Int)) with q | q
      · exact .inl q
      · exact .inr (.inr q)
  · unfold setsL
    by_cases h1 : 1 < names.length
    · rw [if_pos h1]
      obtain ⟨g1, _, g3⟩ := stZ_ord (l := l) h1 (names.length - 2) (Nat.le_refl _)
      refine List.nodup_append.2 ⟨g1, ?_, fun a ha b hb e => ?_⟩
      · unfold List.Nodup
        rw [List.pairwise_map]
        exact List.pairwise_lt_range.imp fun h e => by simp at e; omega
      · subst e
        obtain ⟨i, hi, rfl⟩ := List.mem_map.1 hb
        rcases (g3 _).1 ha with q | ⟨_, _, _, q, _⟩
        · have := congrArg List.length q
          rw [allI_len] at this; simp at this; omega
        · simp at q; omega
    · rw [if_neg h1]
      have : names.length - 2 = 0 := by omega
      rw [this]; simp [stZ]
  · unfold setsL
    by_cases h1 : 1 < names.length
    · rw [if_pos h1]
      obtain ⟨_, g2, g3⟩ := stZ_ord (l := l) h1 (names.length - 2) (Nat.le_refl _)
      refine List.pairwise_append.2 ⟨g2, ?_, fun a ha b hb => ?_⟩
      · rw [List.pairwise_map]
        exact List.pairwise_lt_range.imp fun _ => by simp
      · obtain ⟨i, hi, rfl⟩ := List.mem_map.1 hb
        rcases (g3 _).1 ha with rfl | ⟨_, _, _, q, _⟩
        · rw [allI_len]; simp; omega
        · simp; omega
    · rw [if_neg h1]
      have : names.length - 2 = 0 := by omega
      rw [this]; simp [stZ]
  · obtain ⟨g, _⟩ := stZ_head (l := l) names.length (names.length - 2)
    unfold setsL
    split
    · rw [List.length_append]; omega
    · exact g
  · obtain ⟨g, e⟩ := stZ_head (l := l) names.length (names.length - 2)
    unfold setsL
    split
    · rw [← e]; unfold gl; rw [List.getD_eq_getElem?_getD, List.getD_eq_getElem?_getD, List.getElem?_append_left g]
    · exact e
  · rw [mem_setsL hn]
    by_cases h1 : 1 < names.length
    · exact .inr (.inr ⟨h1, i, hi, rfl⟩)
    · left
      have e1 : names.length = 1 := by omega
      have : i = 0 := by omega
      subst this; rw [e1]; rfl
theorem lv_sort {s : RT} {x : List Int} (h : Lv names s x) : Lv names (sortR s) x := fun y => by rw [(leafR_sort s).mem_iff]; exact h y
end
end Go.Proofs.YtcbmbhghmfehpaaGreat
namespace Go.Proofs.YtcbmbhghmfehpaaGreat
section
variable {t : Tre}
/-- What lies below i, by the parents and by the children. -/
theorem sub_hit (h : treeErr t = 0) : ∀ (d i j : Nat), t.ps.length - i ≤ d → i < t.ps.length → j < t.ps.length → subF (frT t) (rkT t) i j = hitB t.ps i j
  | 0, i, _, hd, hi, _ => by omega
  | d + 1, i, j, hd, hi, hj => by
    obtain ⟨_, _, _, hok, _⟩ := treeErr_zero h
    have hw := (frT_arb h).wf
    rw [Bool.eq_iff_iff, hit_kid hok hj, subF_eq hw hi, Bool.or_eq_true, beq_iff_eq, List.any_eq_true]
    constructor
    · rintro (e | ⟨c, hc, e⟩)
      · exact .inl e
      · rw [frT_kids] at hc
        obtain ⟨h1, h2, h3⟩ := mem_kidsL.1 hc
        exact .inr ⟨c, h1, h2, h3, by rw [← sub_hit h d c j (by omega) h1 hj]; exact e⟩
    · rintro (e | ⟨c, h1, h2, h3, e⟩)
      · exact .inl e
      · exact .inr ⟨c, by rw [frT_kids]; exact mem_kidsL.2 ⟨h1, h2, h3⟩, by rw [sub_hit h d c j (by omega) h1 hj]; exact e⟩
theorem hit_chain {ps : List Int} (hp : pOkB ps = true) {i k : Nat} (hik : i ≤ k) : ∀ (d j : Nat), j ≤ d → j < ps.length → hitB ps i j = true → hitB ps k j = true → hitB ps i k = true
  | d, j, hd, hj, h1, h2 => by
    have hkj := hit_le hp hj h2
    by_cases e : j = k
    · subst e; exact h1
    · obtain ⟨p0, pj⟩ := pOkB_par hp hj (by omega)
      rw [hit_step hp hj (by omega)] at h1 h2
      cases d with
      | zero => omega
      | succ d => exact hit_chain hp hik d (gi ps j).toNat (by omega) (by omega) h1 h2
end
end Go.Proofs.YtcbmbhghmfehpaaGreat
namespace Go.Proofs.YtcbmbhghmfehpaaGreat
/-- Is z the leaf or above it? -/
def onP (t : Tre) (leaf z : Nat) : Bool := hitB t.ps z leaf
def rrQ (t : Tre) (leaf z : Nat) : List Nat :=
  if z = t.ps.length then leaf :: (if leaf = 0 then [] else [(gi t.ps leaf).toNat])
  else if onP t leaf z = true ∧ z ≠ leaf then (kidsL t.ps z).filter (fun k => !onP t leaf k) ++ (if z = 0 then [] else [(gi t.ps z).toNat])
  else kidsL t.ps z
def rrF (t : Tre) (leaf : Nat) : Frs := ⟨upd (gs t.ns) t.ps.length ByteArray.empty, upd (fun i => (i : Int)) t.ps.length 0, rrQ t leaf⟩
def rkR (t : Tre) (leaf z : Nat) : Nat := if z = t.ps.length then 3 * t.ps.length + 3 else if onP t leaf z = true ∧ z ≠ leaf then t.ps.length + 1 + z else rkT t z
structure LeafOk (t : Tre) (leaf : Nat) : Prop where
  te : treeErr t = 0
  lt : leaf < t.ps.length
  nm : (gs t.ns leaf).size ≠ 0
section
variable {t : Tre} {leaf : Nat}
theorem LeafOk.ok (h : LeafOk t leaf) : pOkB t.ps = true := (treeErr_zero h.te).2.2.2.1
theorem LeafOk.pos (h : LeafOk t leaf) : 0 < t.ps.length := (treeErr_zero h.te).1
theorem LeafOk.nokid (h : LeafOk t leaf) : kidsL t.ps leaf = [] := by
  cases hk : kidsL t.ps leaf with
  | nil => rfl
  | cons k l =>
    obtain ⟨h1, h2, h3⟩ := mem_kidsL.1 (show k ∈ kidsL t.ps leaf by rw [hk]; simp)
    exact absurd (inner_empty h.te h1 h2 h3) h.nm
theorem LeafOk.par (h : LeafOk t leaf) {z : Nat} (hz : z < t.ps.length) (h0 : z ≠ 0) : ∃ q : Nat, gi t.ps z = q ∧ q < z := by
  have := pOkB_par h.ok hz (by omega)
  exact ⟨(gi t.ps z).toNat, by omega, by omega⟩
theorem LeafOk.on_self (_h : LeafOk t leaf) : onP t leaf leaf = true := hit_self leaf
theorem LeafOk.on_le (h : LeafOk t leaf) {z : Nat} (hz : onP t leaf z = true) : z ≤ leaf := hit_le h.ok h.lt hz
theorem LeafOk.on_par (h : LeafOk t leaf) {z q : Nat} (hz : onP t leaf z = true) (h0 : z ≠ 0) (hq : gi t.ps z = q) : onP t leaf q = true := by
  have hzl := h.on_le hz
  have hzn : z < t.ps.length := Nat.lt_of_le_of_lt hzl h.lt
  obtain ⟨q', h1, h2⟩ := h.par hzn h0
  obtain rfl : q = q' := by omega
  exact (hit_kid h.ok h.lt).2 (.inr ⟨z, hzn, h2, hq, hz⟩)
theorem LeafOk.on_kid (h : LeafOk t leaf) {z : Nat} (hz : onP t leaf z = true) (hne : z ≠ leaf) : ∃ c, c < t.ps.length ∧ z < c ∧ gi t.ps c = z ∧ onP t leaf c = true := by
  rcases (hit_kid h.ok h.lt).1 hz with e | ⟨c, h1, h2, h3, h4⟩
  · exact absurd e.symm hne
  · exact ⟨c, h1, h2, h3, h4⟩
/-- Of two nodes on the way the lower number lies above. -/
theorem LeafOk.on_chain (h : LeafOk t leaf) {x y q : Nat} (hx : onP t leaf x = true) (hy : onP t leaf y = true) (hxy : x < y) (hq : gi t.ps y = q) : x ≤ q := by
  have hyn : y < t.ps.length := Nat.lt_of_le_of_lt (h.on_le hy) h.lt
  obtain ⟨q', h1, h2⟩ := h.par hyn (by omega)
  obtain rfl : q = q' := by omega
  have h3 := hit_chain h.ok (Nat.le_of_lt hxy) leaf leaf (Nat.le_refl _) h.lt hx hy
  rw [hit_step h.ok hyn hxy, hq] at h3
  exact hit_le h.ok (show q < _ by omega) h3
theorem LeafOk.on_one (h : LeafOk t leaf) {x y q : Nat} (hx : onP t leaf x = true) (hy : onP t leaf y = true) (hx0 : q < x) (hy0 : q < y) (e1 : gi t.ps x = q) (e2 : gi t.ps y = q) : x = y := by
  rcases Nat.lt_trichotomy x y with c | c | c
  · have := h.on_chain hx hy c e2; omega
  · exact c
  · have := h.on_chain hy hx c e1; omega
/-- Which children the nodes of the turned forest have. -/
theorem rr_mem (h : LeafOk t leaf) {p k : Nat} (hp : p < t.ps.length + 1) (hk : k ∈ (rrF t leaf).kids p) :
    (p = t.ps.length ∧ k = leaf) ∨ (p = t.ps.length ∧ leaf ≠ 0 ∧ gi t.ps leaf = k ∧ k < leaf) ∨ (p < t.ps.length ∧ k < t.ps.length ∧ p < k ∧ gi t.ps k = p ∧ onP t leaf k = false) ∨ (p < t.ps.length ∧ onP t leaf p = true ∧ p ≠ leaf ∧ p ≠ 0 ∧ gi t.ps p = k ∧ k < p) := by
  have hk : k ∈ rrQ t leaf p := hk
  unfold rrQ at hk
  split at hk
  · rename_i e
    rcases List.mem_cons.1 hk with e2 | e2
    · exact .inl ⟨e, e2⟩
    · split at e2
      · cases e2
      · rename_i h0
        have e2 : k = (gi t.ps leaf).toNat := by simpa using e2
        obtain ⟨q, h1, h2⟩ := h.par h.lt h0
        exact .inr (.inl ⟨e, h0, by omega, by omega⟩)
  · rename_i e
    split at hk
    · rename_i hz
      rcases List.mem_append.1 hk with h1 | h1
      · obtain ⟨h1, h2⟩ := List.mem_filter.1 h1
        obtain ⟨h3, h4, h5⟩ := mem_kidsL.1 h1
        exact .inr (.inr (.inl ⟨by omega, h3, h4, h5, by simpa using h2⟩))
      · split at h1
        · cases h1
        · rename_i h0
          have h1 : k = (gi t.ps p).toNat := by simpa using h1
          obtain ⟨q, h2, h3⟩ := h.par (z := p) (by omega) h0
          exact .inr (.inr (.inr ⟨by omega, hz.1, hz.2, h0, by omega, by omega⟩))
    · rename_i hz
      obtain ⟨h3, h4, h5⟩ := mem_kidsL.1 hk
      refine .inr (.inr (.inl ⟨by omega, h3, h4, h5, ?_⟩))
      cases hc : onP t leaf k with
      | false => rfl
      | true =>
        have := h.on_par hc (by omega) h5
        have : p = leaf := by
          by_cases c : p = leaf
          · exact c
          · exact absurd ⟨this, c⟩ hz
        rw [this, h.nokid] at hk; cases hk
theorem rk_on (_h : LeafOk t leaf) {z : Nat} (hz : z < t.ps.length) (ho : onP t leaf z = true) (hne : z ≠ leaf) : rkR t leaf z = t.ps.length + 1 + z := by
  unfold rkR; rw [if_neg (by omega), if_pos ⟨ho, hne⟩]
theorem rk_off {z : Nat} (hz : z < t.ps.length) (ho : onP t leaf z = false ∨ z = leaf) : rkR t leaf z = t.ps.length - z := by
  unfold rkR; rw [if_neg (by omega), if_neg]
  · rfl
  · rintro ⟨h1, h2⟩
    rcases ho with e | e
    · rw [e] at h1; cases h1
    · exact h2 e
/-- Which nodes have no children. -/
theorem rr_leaf (h : LeafOk t leaf) {z : Nat} (hz : z < t.ps.length + 1) (hk : (rrF t leaf).kids z = []) : z < t.ps.length ∧ (kidsL t.ps z = [] ∨ (z = 0 ∧ (gs t.ns 0).size = 0)) := by
  have hk : rrQ t leaf z = [] := hk
  unfold rrQ at hk
  split at hk
  · cases hk
  · rename_i e
    refine ⟨by omega, ?_⟩
    split at hk
    · rename_i hc
      obtain ⟨c, h1, h2, h3, _⟩ := h.on_kid hc.1 hc.2
      by_cases h0 : z = 0
      · subst h0; exact .inr ⟨rfl, inner_empty h.te h1 h2 h3⟩
      · rw [if_neg h0] at hk
        simp at hk
    · exact .inl hk
theorem tleaf_named (h : treeErr t = 0) {z : Nat} (hz : z < t.ps.length) (hk : kidsL t.ps z = []) : namedB (gs t.ns z).data.toList = true := by
  obtain ⟨_, _, _, hok, _⟩ := treeErr_zero h
  refine (leaf_named h hz ?_).1
  cases hin : isIn t.ps z with
  | false => rfl
  | true => exact absurd hk ((kids_isIn hok z).2 hin)
theorem rr_arb (h : LeafOk t leaf) : Arb (rrF t leaf) (t.ps.length + 1) (rkR t leaf) := by
  have hlt := h.lt
  refine ⟨⟨fun p hp k hk => ?_⟩, fun p q k hp hq h1 h2 => ?_, fun i hi => ?_, fun a b ha hb h1 h2 e => ?_⟩
  · rcases rr_mem h hp hk with ⟨rfl, rfl⟩ | ⟨rfl, h0, e, hlt2⟩ | ⟨h1, h2, h3, e, ho⟩ | ⟨h1, ho, hne, h0, e, hlt2⟩
    · refine ⟨by omega, ?_⟩
      rw [rk_off h.lt (.inr rfl)]
      unfold rkR; rw [if_pos rfl]; omega
    · refine ⟨by omega, ?_⟩
      rw [rk_on h (by omega) (h.on_par h.on_self h0 e) (by omega)]
      unfold rkR; rw [if_pos rfl]; omega
    · refine ⟨by omega, ?_⟩
      rw [rk_off h2 (.inl ho)]
      by_cases c : onP t leaf p = true ∧ p ≠ leaf
      · rw [rk_on h h1 c.1 c.2]; omega
      · have : onP t leaf p = false ∨ p = leaf := by
          cases hc : onP t leaf p with
          | false => exact .inl rfl
          | true => exact .inr (Classical.byContradiction fun x => c ⟨hc, x⟩)
        rw [rk_off h1 this]; omega
    · refine ⟨by omega, ?_⟩
      rw [rk_on h h1 ho hne, rk_on h (by omega) (h.on_par ho h0 e) (by have := h.on_le ho; omega)]; omega
  · have hon : ∀ p, p < t.ps.length + 1 → k ∈ (rrF t leaf).kids p → (onP t leaf k = false ∧ p < t.ps.length ∧ gi t.ps k = p) ∨ (onP t leaf k = true ∧ (p = t.ps.length ∧ (k = leaf ∨ gi t.ps leaf = k ∧ k < leaf) ∨ p < t.ps.length ∧ onP t leaf p = true ∧ p ≠ leaf ∧ gi t.ps p = k ∧ k < p)) := fun p hp hk => by
      rcases rr_mem h hp hk with ⟨rfl, rfl⟩ | ⟨rfl, h0, e, hlt2⟩ | ⟨h1, h2, h3, e, ho⟩ | ⟨h1, ho, hne, h0, e, hlt2⟩
      · exact .inr ⟨h.on_self, .inl ⟨rfl, .inl rfl⟩⟩
      · exact .inr ⟨h.on_par h.on_self h0 e, .inl ⟨rfl, .inr ⟨e, hlt2⟩⟩⟩
      · exact .inl ⟨ho, h1, e⟩
      · exact .inr ⟨h.on_par ho h0 e, .inr ⟨h1, ho, hne, e, hlt2⟩⟩
    rcases hon p hp h1 with ⟨a1, a2, a3⟩ | ⟨a1, a2⟩
    · rcases hon q hq h2 with ⟨_, b2, b3⟩ | ⟨b1, _⟩
      · omega
      · rw [a1] at b1; cases b1
    · rcases hon q hq h2 with ⟨b1, _⟩ | ⟨_, b2⟩
      · rw [a1] at b1; cases b1
      · rcases a2 with ⟨a2, a3⟩ | ⟨a2, a3, a4, a5, a6⟩
        · rcases b2 with ⟨b2, b3⟩ | ⟨b2, b3, b4, b5, b6⟩
          · omega
          · exfalso
            have := h.on_le b3
            rcases a3 with e | ⟨e, e2⟩
            · omega
            · exact b4 (h.on_one b3 h.on_self b6 e2 b5 e)
        · rcases b2 with ⟨b2, b3⟩ | ⟨b2, b3, b4, b5, b6⟩
          · exfalso
            have := h.on_le a3
            rcases b3 with e | ⟨e, e2⟩
            · omega
            · exact a4 (h.on_one a3 h.on_self a6 e2 a5 e)
          · exact h.on_one a3 b3 a6 b6 a5 b5
  · show (rrQ t leaf i).Nodup
    unfold rrQ
    have hkn : (kidsL t.ps i).Nodup := List.Pairwise.filter _ List.nodup_range
    split
    · split
      · simp
      · rename_i h0
        obtain ⟨q, h1, h2⟩ := h.par hlt h0
        simp; omega
    · split
      · split
        · rw [List.append_nil]; exact hkn.filter _
        · rename_i hi2 _ h0
          obtain ⟨q, h1, h2⟩ := h.par (z := i) (by omega) h0
          rw [List.nodup_append]
          refine ⟨hkn.filter _, by simp, fun a ha b hb e => ?_⟩
          have hb : b = (gi t.ps i).toNat := by simpa using hb
          have := (mem_kidsL.1 (List.mem_filter.1 ha).1).2.1
          omega
      · exact hkn
  · obtain ⟨a1, a2⟩ := rr_leaf h ha h1
    obtain ⟨b1, b2⟩ := rr_leaf h hb h2
    have e : gs t.ns a = gs t.ns b := by
      have e : upd (gs t.ns) t.ps.length ByteArray.empty a = upd (gs t.ns) t.ps.length ByteArray.empty b := e
      rw [upd_ne _ _ (by omega), upd_ne _ _ (by omega)] at e; exact e
    rcases a2 with a2 | ⟨a2, a3⟩
    · rcases b2 with b2 | ⟨b2, b3⟩
      · exact (frT_arb h.te).names a b a1 b1 a2 b2 e
      · subst b2
        exact absurd b3 (by rw [← e]; exact named_size (tleaf_named h.te a1 a2))
    · rcases b2 with b2 | ⟨b2, b3⟩
      · subst a2
        exact absurd a3 (by rw [e]; exact named_size (tleaf_named h.te b1 b2))
      · omega
end
end Go.Proofs.YtcbmbhghmfehpaaGreat
namespace Go.Proofs.YtcbmbhghmfehpaaGreat
/-- The children behind some turns: the way up to f is turned. -/
def rrI (t : Tre) (leaf f z : Nat) : List Nat :=
  if z = t.ps.length then leaf :: (if f = leaf then [] else [(gi t.ps leaf).toNat])
  else if onP t leaf z = true ∧ z ≠ leaf ∧ f ≤ z then (kidsL t.ps z).filter (fun k => !onP t leaf k) ++ (if z = f then [] else [(gi t.ps z).toNat])
  else kidsL t.ps z
structure RrJ (t : Tre) (leaf : Nat) (K : RrS) : Prop where
  on : onP t leaf K.frm = true
  cur : K.cur = gi t.ps K.frm
  hang : K.hang = if K.frm = leaf then t.ps.length else K.frm
  nm : K.fr.nm = (rrF t leaf).nm
  old : K.fr.old = (rrF t leaf).old
  kids : ∀ z, z < t.ps.length + 1 → K.fr.kids z = rrI t leaf K.frm z
section
variable {t : Tre} {leaf : Nat}
end
section
variable {F : Frs} {n : Nat} {rk : Nat → Nat} {P : Nat → Bool}
/-- What pruned leaves is good: inner nodes have no names, kept leaves have good ones. -/
structure PrOk (F : Frs) (n : Nat) (rk : Nat → Nat) (P : Nat → Bool) : Prop where
  inn : ∀ z, z < n → F.kids z ≠ [] → (F.nm z).size = 0
  lf : ∀ z, z < n → F.kids z = [] → P z = true → namedB (F.nm z).data.toList = true
end
section
variable {t : Tre} {leaf : Nat}
theorem rr_inner (h : LeafOk t leaf) {z : Nat} (hz : z < t.ps.length + 1) (hk : (rrF t leaf).kids z ≠ []) : ((rrF t leaf).nm z).size = 0 := by
  by_cases e : z = t.ps.length
  · subst e
    show (upd (gs t.ns) _ _ _).size = 0
    rw [upd_same]; rfl
  · show (upd (gs t.ns) _ _ z).size = 0
    rw [upd_ne _ _ e]
    by_cases c : kidsL t.ps z = []
    · exfalso
      refine hk ?_
      show rrQ t leaf z = []
      unfold rrQ
      rw [if_neg e, c, if_neg]
      rintro ⟨h1, h2⟩
      obtain ⟨k, h3, h4, h5, _⟩ := h.on_kid h1 h2
      have : k ∈ kidsL t.ps z := mem_kidsL.2 ⟨h3, h4, h5⟩
      rw [c] at this; cases this
    · obtain ⟨k, hk⟩ := List.exists_mem_of_ne_nil _ c
      obtain ⟨h3, h4, h5⟩ := mem_kidsL.1 hk
      exact inner_empty h.te h3 h4 h5
theorem rr_names (h : LeafOk t leaf) : ∀ a b, a < t.ps.length + 1 → b < t.ps.length + 1 → ((rrF t leaf).nm a).size ≠ 0 → (rrF t leaf).nm a = (rrF t leaf).nm b → a = b := fun a b ha hb h0 e => by
  have key : ∀ c, c < t.ps.length + 1 → ((rrF t leaf).nm c).size ≠ 0 → (rrF t leaf).kids c = [] := fun c hc hn => by
    by_cases x : (rrF t leaf).kids c = []
    · exact x
    · exact absurd (rr_inner h hc x) hn
  exact (rr_arb h).names a b ha hb (key a ha h0) (key b hb (by rw [← e]; exact h0)) e
end
end Go.Proofs.YtcbmbhghmfehpaaGreat
