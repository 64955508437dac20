/- phylotree.pruned: what it does to the forest. slices.IndexFunc, slices.DeleteFunc at nodes. The contract of slices.DeleteFunc at nodes. phylotree.contracted: what it does to the forest. The tree that phylotree.made makes: plain. The tree of a forest whose rose tree is good: plain. The forest that pruned leaves: plain. Reroot: what its loop does to the forest. The sets of layer 35's reference are nested, and their tree is the program's: plain. SharederrorClades, plain: the tree whose leaves are renamed, the lists of the leaves below its nodes. The turned forest: plain. The turned forest: what the loop gives; what pruned leaves of it. Plain. -/
import Derived.Test.YtcbmbhghmfehpaaGreatQ13
import Derived.Test.YtcbmbhghmfehpaaGreatQ12
import Derived.Lib.SliceRun
namespace Go.Proofs.YtcbmbhghmfehpaaGreat
open Go.RowKit Go.Deep
section
variable {P : Program} {ops : Array Oper} {rest : List Oper} {o : Oper} {a : Act} {Q : Exit → Act → World → Prop}
theorem wpList_appG (W : World) (hgd : o.guard = none) (s x : Operand) (t : TypeId) (ho : o.op = .call { callee := .builtin .append, args := #[s, x], argTypes := #[t, t] })
    (base : Nat) (e : TypeId) (z : Value) (bytes : Nat) (ht : P.underlying t = some (.slice e)) (hinfo : (P.info? e).map (fun i => (i.zero, i.size, i.bytes)) = some (some z, 1, bytes))
    (hz1 : z.cells.size = 1) (hb8 : bytes ≤ 64) {v : Value} {vs : List Value} (hown : Owns base e W v vs) (hs : a.eval s = v) (u : Value)
    (hx : a.eval x = .slice (some ⟨W.heap.size, 0, none⟩) 1 1) (h1 : u.oneCell' = true) (k : Nat) (hvn : vs.length = k) (hn : k ≤ 1000000) (hbase : base ≤ W.heap.size)
    (h : ∀ g cap w', Owns base e w' (.slice (some ⟨g, 0, none⟩) (k + 1) cap) (vs ++ [u]) → W.grownBy w' v.ownBlock → (v.ownBlock = some g ∨ W.heap.size ≤ g) → wpList P ops Q rest (a.put o.dst (.slice (some ⟨g, 0, none⟩) (k + 1) cap)) w') :
    wpList P ops Q (o :: rest) a (W.alloc (.cells #[u] e)) := by
  subst hvn
  obtain ⟨i, hi, hzz⟩ := Option.map_eq_some_iff.1 hinfo
  simp only [Prod.mk.injEq] at hzz
  obtain ⟨hz, hs1, hb⟩ := hzz
  refine wpList_append_lies _ hgd s x t ho base e i z 1 bytes ht hi hz hs1 hb hz1 (by omega) v vs.length vs hs (hown.alloc _) ⟨W.heap.size, 0, none⟩ 1 1 [u] hx rfl (cell_one_new _ _ _) (by simpa using h1) (by omega)
    (by unfold maxLen; omega) ?_ (by simp; omega) _ rfl fun g cap w' h2 h3 h4 _ => h g cap w' ?_ (grown_alloc h3) (h4.imp id fun e => by rw [e, World.size_alloc]; omega)
  · have : (vs.length + 1) * bytes ≤ (vs.length + 1) * 64 := Nat.mul_le_mul_left _ hb8
    omega
  · unfold Owns; rw [List.length_append]; exact h2
end
section
variable {n base : Nat} {A : Nat → Nat} {kv : Nat → Value} {F : Frs} {w w' w2 : World} {P : Nat → Bool} {rk : Nat → Nat}
theorem FAt.congr2 {G : Frs} (h : FAt base n A kv F w) (e : ∀ j, j < n → G.nm j = F.nm j ∧ G.old j = F.old j ∧ G.kids j = F.kids j) : FAt base n A kv G w :=
  ⟨fun i hi => by rw [(e i hi).1, (e i hi).2.1]; exact h.node i hi, h.lo, h.inj, fun i hi => by rw [(e i hi).2.2]; exact h.own i hi, h.apart, h.alone, fun i hi => by rw [(e i hi).2.2]; exact h.kid i hi⟩
end
end Go.Proofs.YtcbmbhghmfehpaaGreat
namespace Go.Proofs.YtcbmbhghmfehpaaGreat
open Go.RowKit Go.Deep
theorem grown_refl (w : World) (o : Option Nat) : w.grownBy w o := ⟨rfl, rfl, rfl, Nat.le_refl _, fun _ _ _ => rfl⟩
theorem grown_trans {w w' x : World} {o : Option Nat} (h : w.grownBy w' o) (k : w'.grownBy x o) : w.grownBy x o :=
  ⟨k.os.trans h.os, k.tape.trans h.tape, k.output.trans h.output, Nat.le_trans h.size k.size, fun b hb hn => (k.block b (Nat.lt_of_lt_of_le hb h.size) hn).trans (h.block b hb hn)⟩
theorem grown_up {w w' : World} (h : Up w w') (o : Option Nat) : w.grownBy w' o := ⟨h.os, h.tape, h.output, h.size, fun b hb _ => Below.block h b hb⟩
theorem grown_set {w : World} {g o : Nat} {z : Value} : w.grownBy (w.setCell ⟨g, o, none⟩ z) (some g) :=
  ⟨rfl, rfl, rfl, by rw [World.size_setCell]; exact Nat.le_refl _, fun b _ hn => blk_setCell_other _ _ _ _ fun e => hn (by rw [e])⟩
theorem grown_sets {g : Nat} : ∀ (vs : List Value) (o : Nat) (w : World), w.grownBy (w.setCells g o vs) (some g)
  | [], _, w => grown_refl w _
  | z :: vs, o, w => by rw [World.setCells]; exact grown_trans grown_set (grown_sets vs (o + 1) _)
theorem owns_take {base : Nat} {e : TypeId} {w : World} {g n cap : Nat} {xs : List Value} (h : Owns base e w (.slice (some ⟨g, 0, none⟩) n cap) xs) {m : Nat} (hm : m ≤ n) : Owns base e w (.slice (some ⟨g, 0, none⟩) m cap) (xs.take m) := by
  obtain ⟨h1, h2⟩ := h
  rcases h2 with ⟨e1, _⟩ | ⟨g2, cap2, cur, e1, hg, hc, hn, hcm, hcs, ht⟩
  · cases e1
  · injection e1 with a1 a2 a3
    injection a1 with a1
    injection a1 with a1
    subst a1; subst a3
    have hnx : n = xs.length := a2
    have hl : (xs.take m).length = m := by rw [List.length_take]; omega
    refine ⟨by rw [Nat.mul_one], .inr ⟨g, cap, cur, by rw [hl], hg, hc, by omega, hcm, hcs, ?_⟩⟩
    rw [hl, Nat.mul_one, ← ht, List.take_take]
    congr 1; omega
theorem owns_tail {base : Nat} {e : TypeId} {w : World} {g m cap o : Nat} {xs : List Value} {z : Value} (h : Owns base e w (.slice (some ⟨g, 0, none⟩) m cap) xs) (ho : m ≤ o) : Owns base e (w.setCell ⟨g, o, none⟩ z) (.slice (some ⟨g, 0, none⟩) m cap) xs := by
  obtain ⟨h1, h2⟩ := h
  rcases h2 with ⟨e1, _⟩ | ⟨g2, cap2, cur, e1, hg, hc, hn, hcm, hcs, ht⟩
  · cases e1
  · injection e1 with a1 a2 a3
    injection a1 with a1
    injection a1 with a1
    subst a1; subst a3
    refine ⟨h1, .inr ⟨g, cap, cur.setIfInBounds o z, by rw [a2], hg, ?_, hn, hcm, by rw [Array.size_setIfInBounds]; exact hcs, ?_⟩⟩
    · simp [World.setCell, Array.getElem?_modify, hc]
    · have hmx : m = xs.length := a2
      rw [Array.toList_setIfInBounds, List.take_set_of_le (by omega)]; exact ht
theorem owns_tails {base : Nat} {e : TypeId} {g m cap : Nat} {xs : List Value} : ∀ (vs : List Value) (o : Nat) (w : World), m ≤ o → Owns base e w (.slice (some ⟨g, 0, none⟩) m cap) xs → Owns base e (w.setCells g o vs) (.slice (some ⟨g, 0, none⟩) m cap) xs
  | [], _, _, _, h => h
  | z :: vs, o, w, ho, h => by rw [World.setCells]; exact owns_tails vs (o + 1) _ (by omega) (owns_tail h ho)
theorem owns_cell {base : Nat} {e : TypeId} {w : World} {g n cap : Nat} {xs : List Value} (h : Owns base e w (.slice (some ⟨g, 0, none⟩) n cap) xs) {j : Nat} {u : Value} (hj : xs[j]? = some u) : w.cell? ⟨g, j, none⟩ = some u ∧ w.frozen? ⟨g, j, none⟩ = false := by
  have hl := (List.getElem?_eq_some_iff.1 hj).1
  obtain ⟨g2, cap2, e1, _, _, hc, hf, _⟩ := h.set hl
  injection e1 with a1
  injection a1 with a1
  injection a1 with a1
  subst a1
  refine ⟨?_, hf⟩
  rw [hc]
  congr 1
  rw [List.getD_eq_getElem?_getD, hj]; rfl
section
variable {A : Nat → Nat} {P : Nat → Bool}
end
end Go.Proofs.YtcbmbhghmfehpaaGreat
namespace Go.Proofs.YtcbmbhghmfehpaaGreat
open Go.RowKit Go.Deep
section
variable {A : Nat → Nat} {P : Nat → Bool} {base : Nat} {w wr : World} {g cap : Nat} {ks : List Nat} {X : List Value}
end
theorem owns_cap {base : Nat} {e : TypeId} {w : World} {g n cap : Nat} {xs : List Value} (h : Owns base e w (.slice (some ⟨g, 0, none⟩) n cap) xs) : n ≤ cap := by
  obtain ⟨h1, h2⟩ := h
  rcases h2 with ⟨e1, _⟩ | ⟨g2, cap2, cur, e1, hg, hc, hn, _⟩
  · cases e1
  · injection e1 with a1 a2 a3
    omega
end Go.Proofs.YtcbmbhghmfehpaaGreat
namespace Go.Proofs.YtcbmbhghmfehpaaGreat
open Go.RowKit Go.Deep
section
variable {n base : Nat} {A : Nat → Nat} {kv : Nat → Value} {F : Frs} {w w' w2 : World} {rk : Nat → Nat}
end
end Go.Proofs.YtcbmbhghmfehpaaGreat
namespace Go.Proofs.YtcbmbhghmfehpaaGreat
theorem size_kid {nm : ByteArray} {ks : List RT} {k : RT} (h : k ∈ ks) : sizeR k < sizeR (.node nm ks) := by
  rw [sizeR]
  have : ∀ l : List RT, k ∈ l → sizeR k ≤ sizeRs l := fun l => by
    induction l with
    | nil => intro h; cases h
    | cons a l ih =>
      intro h
      rw [sizeRs]
      rcases List.mem_cons.1 h with rfl | h
      · omega
      · have := ih h; omega
  have := this ks h
  omega
section
variable {F : Frs} {n : Nat} {rk : Nat → Nat}
theorem rose_part (h : Wf F n rk) {i z : Nat} (hi : i < n) (hs : subF F rk i z = true) : toRF F rk z ∈ subR (toRF F rk i) := by
  rw [subR_toRF h hi (Nat.le_refl _)]
  exact List.mem_map.2 ⟨z, (mem_nodesF h hi (Nat.le_refl _)).2 hs, rfl⟩
theorem good_nodes (h : Wf F n rk) : ∀ (d i : Nat), rk i ≤ d → i < n → GoodR (toRF F rk i) → (nodesF F rk i).Nodup
  | d, i, hd, hi, hg => by
    rw [nodesF_eq h hi, List.nodup_cons]
    have hsub : ∀ k ∈ F.kids i, toRF F rk k ∈ subR (toRF F rk i) := fun k hk => rose_part h hi (subF_kid h hi hk (subF_self h (h.kid i hi k hk).1))
    have hgk : ∀ k ∈ F.kids i, GoodR (toRF F rk k) := fun k hk => ⟨fun s hs => hg.inn s (subR_trans _ (hsub k hk) hs), fun s hs => hg.lf s (subR_trans _ (hsub k hk) hs), (leafR_sub (hsub k hk)).nodup hg.nd⟩
    refine ⟨fun hm => ?_, ?_⟩
    · obtain ⟨k, hk, hm⟩ := List.mem_flatMap.1 hm
      have hkk := h.kid i hi k hk
      have := subD_rank h hkk.1 ((mem_nodesF h hkk.1 (Nat.le_refl _)).1 hm)
      omega
    · by_cases h0 : F.kids i = []
      · rw [h0]; simp
      · have hnd := hg.nd
        rw [toRF_eq h hi, leafR_node (by have := hg.inn _ (subR_self _); rw [toRF_nm h hi, toRF_kids h hi] at this; exact this (fun e => h0 (List.map_eq_nil_iff.1 e))), List.flatMap_map, List.nodup_iff_pairwise_ne, List.pairwise_flatMap] at hnd
        rw [List.nodup_iff_pairwise_ne, List.pairwise_flatMap]
        refine ⟨fun k hk => ?_, ?_⟩
        · have hkk := h.kid i hi k hk
          cases d with
          | zero => omega
          | succ d => exact good_nodes h d k (by omega) hkk.1 (hgk k hk)
        · refine hnd.2.imp_of_mem ?_
          intro a b ha hb hab x hx y hy e
          subst e
          have hka := h.kid i hi a ha
          have hkb := h.kid i hi b hb
          have h1 := rose_part h hka.1 ((mem_nodesF h hka.1 (Nat.le_refl _)).1 hx)
          have h2 := rose_part h hkb.1 ((mem_nodesF h hkb.1 (Nat.le_refl _)).1 hy)
          have hf := first_leaf (toRF F rk x) fun s hs => (hgk a ha).lf s (subR_trans _ h1 hs)
          exact hab _ ((leafR_sub h1).subset hf) _ ((leafR_sub h2).subset hf) rfl
end
end Go.Proofs.YtcbmbhghmfehpaaGreat
namespace Go.Proofs.YtcbmbhghmfehpaaGreat
section
variable {F : Frs} {n : Nat} {rk : Nat → Nat}
theorem num_sub2 (h : Wf F n rk) : ∀ {d i : Nat} (p : Option Nat) (np : Int) (s : Num), i < n → rk i ≤ d → (nodesF F rk i).Nodup → p ≠ some i → s.mp.lookup p = some np → (∀ j ∈ nodesF F rk i, s.mp.lookup (some j) = none) →
    NumTo s ((seqF F rk i p).foldl (numS F) s) (psR (toRF F rk i) s.ps.length np) (nsR (toRF F rk i)) (nodesF F rk i) := by
  intro d
  induction d with
  | zero =>
    intro i p np s hi hd hnd0 hp hl hn
    have hk : F.kids i = [] := by
      cases hk : F.kids i with
      | nil => rfl
      | cons k l => have := (h.kid i hi k (by rw [hk]; simp)).2; omega
    rw [seqF_eq h hi, toRF_eq h hi, nodesF_eq h hi, hk]
    have hni := hn i (by rw [nodesF_eq h hi]; simp)
    refine ⟨?_, ?_, fun k hk2 => lookup_putI_ne _ (hk2 i (by simp))⟩
    · show s.ps ++ [((putI s.mp (some i) _).lookup p).getD 0] = _
      rw [lookup_putI_ne _ hp, hl]; rfl
    · rfl
  | succ d ih =>
    intro i p np s hi hd hnd0 hp hl hn
    rw [seqF_eq h hi, toRF_eq h hi, nodesF_eq h hi]
    have hni := hn i (by rw [nodesF_eq h hi]; simp)
    have hnd := hnd0
    rw [nodesF_eq h hi, List.nodup_cons] at hnd
    have key : ∀ (l : List Nat), (∀ k ∈ l, k ∈ F.kids i) → (l.flatMap fun k => nodesF F rk k).Nodup → (∀ k ∈ l, i ∉ nodesF F rk k) → ∀ (s2 : Num) (own : Nat), s2.mp.lookup (some i) = some (own : Int) → (∀ k ∈ l, ∀ j ∈ nodesF F rk k, s2.mp.lookup (some j) = none) →
        NumTo s2 ((l.flatMap fun k => seqF F rk k (some i)).foldl (numS F) s2) (psRs (l.map (toRF F rk)) own s2.ps.length) (nsRs (l.map (toRF F rk))) (l.flatMap fun k => nodesF F rk k) := by
      intro l
      induction l with
      | nil => intro _ _ _ s2 own _ _; exact ⟨by simp [psRs], by simp [nsRs], fun _ _ => rfl⟩
      | cons c l ihl =>
        intro hin hdl hil s2 own ho hno
        have hcc := h.kid i hi c (hin c (by simp))
        rw [List.flatMap_cons, List.foldl_append, List.flatMap_cons]
        rw [List.flatMap_cons, List.nodup_append] at hdl
        have h1 := ih (some i) (own : Int) s2 hcc.1 (by omega) hdl.1 (fun e => by
          injection e with e
          have := hcc.2; rw [e] at this; omega) ho (hno c (by simp))
        have h2 := ihl (fun k hk => hin k (by simp [hk])) hdl.2.1 (fun k hk => hil k (by simp [hk])) ((seqF F rk c (some i)).foldl (numS F) s2) own
          ((h1.old (some i) (fun j hj e => by injection e with e; subst e; exact hil c (by simp) hj)).trans ho)
          (fun k hk j hj => (h1.old (some j) (fun j2 hj2 e => by
            injection e with e; subst e
            exact hdl.2.2 j hj2 j (List.mem_flatMap.2 ⟨k, hk, hj⟩) rfl)).trans (hno k (by simp [hk]) j hj))
        refine ⟨?_, ?_, fun k hk => ?_⟩
        · rw [h2.ps, h1.ps, List.map_cons, psRs, List.append_assoc, List.length_append, psR_len]
        · rw [h2.ns, h1.ns, List.map_cons, nsRs, List.append_assoc]
        · rw [h2.old k (fun j hj => hk j (by simp [hj])), h1.old k (fun j hj => hk j (by simp [hj]))]
    have hin : ∀ k ∈ F.kids i, i ∉ nodesF F rk k := fun k hk hm => hnd.1 (List.mem_flatMap.2 ⟨k, hk, hm⟩)
    have h3 := key (F.kids i) (fun k hk => hk) hnd.2 hin (numS F s (i, p)) s.ps.length (lookup_putI_new _ hni) (fun k hk j hj => by
      show (putI s.mp (some i) _).lookup (some j) = none
      rw [lookup_putI_ne _ (fun e => by injection e with e; subst e; exact hin k hk hj)]
      exact hn j (by rw [nodesF_eq h hi]; exact List.mem_cons_of_mem _ (List.mem_flatMap.2 ⟨k, hk, hj⟩)))
    have hps : (numS F s (i, p)).ps = s.ps ++ [np] := by
      show s.ps ++ [((putI s.mp (some i) _).lookup p).getD 0] = _
      rw [lookup_putI_ne _ hp, hl]; rfl
    rw [List.foldl_cons]
    refine ⟨?_, ?_, fun k hk => ?_⟩
    · rw [h3.ps, hps, psR, List.append_assoc, List.length_append]; rfl
    · rw [h3.ns]
      show (s.ns ++ [F.nm i]) ++ _ = _
      rw [nsR, List.append_assoc]; rfl
    · rw [h3.old k (fun j hj => hk j (by simp [hj]))]
      exact lookup_putI_ne _ (hk i (by simp))
theorem treeF_flat2 (h : Wf F n rk) {i : Nat} (hi : i < n) (hnd : (nodesF F rk i).Nodup) : treeF F rk i = flat (toRF F rk i) := by
  have h1 := num_sub2 h (d := rk i) none (-1) num0 hi (Nat.le_refl _) hnd (fun e => by cases e) rfl (fun j _ => rfl)
  unfold treeF flat numL
  rw [h1.ps, h1.ns]
  rfl
end
end Go.Proofs.YtcbmbhghmfehpaaGreat
namespace Go.Proofs.YtcbmbhghmfehpaaGreat
section
variable {F : Frs} {n : Nat} {rk : Nat → Nat} {P : Nat → Bool}
theorem good_size (h : Wf F n rk) {i : Nat} (hi : i < n) (hg : GoodR (toRF F rk i)) : sizeR (toRF F rk i) ≤ n := by
  rw [← subR_len, subR_toRF h hi (Nat.le_refl _), List.length_map]
  exact nodup_le (good_nodes h _ i (Nat.le_refl _) hi hg) fun x hx => subF_lt h hi (Nat.le_refl _) ((mem_nodesF h hi (Nat.le_refl _)).1 hx)
end
end Go.Proofs.YtcbmbhghmfehpaaGreat
namespace Go.Proofs.YtcbmbhghmfehpaaGreat
open Go.RowKit Go.Deep
section
variable {base n : Nat} {A : Nat → Nat} {kv : Nat → Value} {F : Frs} {w w' : World}
end
end Go.Proofs.YtcbmbhghmfehpaaGreat
namespace Go.Proofs.YtcbmbhghmfehpaaGreat
section
variable {names : List ByteArray} {l : List Grp}
end
end Go.Proofs.YtcbmbhghmfehpaaGreat
namespace Go.Proofs.YtcbmbhghmfehpaaGreat
section
variable {t : Tre}
theorem sub_hit (h : treeErr t = 0) : ∀ (d i j : Nat), t.ps.length - i ≤ d → i < t.ps.length → j < t.ps.length → subF (frT t) (rkT t) i j = hitB t.ps i j
  | 0, i, _, hd, hi, _ => by omega
  | d + 1, i, j, hd, hi, hj => by
    obtain ⟨_, _, _, hok, _⟩ := treeErr_zero h
    have hw := (frT_arb h).wf
    rw [Bool.eq_iff_iff, hit_kid hok hj, subF_eq hw hi, Bool.or_eq_true, beq_iff_eq, List.any_eq_true]
    constructor
    · rintro (e | ⟨c, hc, e⟩)
      · exact .inl e
      · rw [frT_kids] at hc
        obtain ⟨h1, h2, h3⟩ := mem_kidsL.1 hc
        exact .inr ⟨c, h1, h2, h3, by rw [← sub_hit h d c j (by omega) h1 hj]; exact e⟩
    · rintro (e | ⟨c, h1, h2, h3, e⟩)
      · exact .inl e
      · exact .inr ⟨c, by rw [frT_kids]; exact mem_kidsL.2 ⟨h1, h2, h3⟩, by rw [sub_hit h d c j (by omega) h1 hj]; exact e⟩
theorem hit_chain {ps : List Int} (hp : pOkB ps = true) {i k : Nat} (hik : i ≤ k) : ∀ (d j : Nat), j ≤ d → j < ps.length → hitB ps i j = true → hitB ps k j = true → hitB ps i k = true
  | d, j, hd, hj, h1, h2 => by
    have hkj := hit_le hp hj h2
    by_cases e : j = k
    · subst e; exact h1
    · obtain ⟨p0, pj⟩ := pOkB_par hp hj (by omega)
      rw [hit_step hp hj (by omega)] at h1 h2
      cases d with
      | zero => omega
      | succ d => exact hit_chain hp hik d (gi ps j).toNat (by omega) (by omega) h1 h2
end
end Go.Proofs.YtcbmbhghmfehpaaGreat
namespace Go.Proofs.YtcbmbhghmfehpaaGreat
def onP (t : Tre) (leaf z : Nat) : Bool := hitB t.ps z leaf
def rrQ (t : Tre) (leaf z : Nat) : List Nat :=
  if z = t.ps.length then leaf :: (if leaf = 0 then [] else [(gi t.ps leaf).toNat])
  else if onP t leaf z = true ∧ z ≠ leaf then (kidsL t.ps z).filter (fun k => !onP t leaf k) ++ (if z = 0 then [] else [(gi t.ps z).toNat])
  else kidsL t.ps z
def rrF (t : Tre) (leaf : Nat) : Frs := ⟨upd (gs t.ns) t.ps.length ByteArray.empty, upd (fun i => (i : Int)) t.ps.length 0, rrQ t leaf⟩
def rkR (t : Tre) (leaf z : Nat) : Nat := if z = t.ps.length then 3 * t.ps.length + 3 else if onP t leaf z = true ∧ z ≠ leaf then t.ps.length + 1 + z else rkT t z
structure LeafOk (t : Tre) (leaf : Nat) : Prop where
  te : treeErr t = 0
  lt : leaf < t.ps.length
  nm : (gs t.ns leaf).size ≠ 0
section
variable {t : Tre} {leaf : Nat}
theorem LeafOk.ok (h : LeafOk t leaf) : pOkB t.ps = true := (treeErr_zero h.te).2.2.2.1
theorem LeafOk.nokid (h : LeafOk t leaf) : kidsL t.ps leaf = [] := by
  cases hk : kidsL t.ps leaf with
  | nil => rfl
  | cons k l =>
    obtain ⟨h1, h2, h3⟩ := mem_kidsL.1 (show k ∈ kidsL t.ps leaf by rw [hk]; simp)
    exact absurd (inner_empty h.te h1 h2 h3) h.nm
theorem LeafOk.par (h : LeafOk t leaf) {z : Nat} (hz : z < t.ps.length) (h0 : z ≠ 0) : ∃ q : Nat, gi t.ps z = q ∧ q < z := by
  have := pOkB_par h.ok hz (by omega)
  exact ⟨(gi t.ps z).toNat, by omega, by omega⟩
theorem LeafOk.on_self (_h : LeafOk t leaf) : onP t leaf leaf = true := hit_self leaf
theorem LeafOk.on_le (h : LeafOk t leaf) {z : Nat} (hz : onP t leaf z = true) : z ≤ leaf := hit_le h.ok h.lt hz
theorem LeafOk.on_par (h : LeafOk t leaf) {z q : Nat} (hz : onP t leaf z = true) (h0 : z ≠ 0) (hq : gi t.ps z = q) : onP t leaf q = true := by
  have hzl := h.on_le hz
  have hzn : z < t.ps.length := Nat.lt_of_le_of_lt hzl h.lt
  obtain ⟨q', h1, h2⟩ := h.par hzn h0
  obtain rfl : q = q' := by omega
  exact (hit_kid h.ok h.lt).2 (.inr ⟨z, hzn, h2, hq, hz⟩)
theorem LeafOk.on_kid (h : LeafOk t leaf) {z : Nat} (hz : onP t leaf z = true) (hne : z ≠ leaf) : ∃ c, c < t.ps.length ∧ z < c ∧ gi t.ps c = z ∧ onP t leaf c = true := by
  rcases (hit_kid h.ok h.lt).1 hz with e | ⟨c, h1, h2, h3, h4⟩
  · exact absurd e.symm hne
  · exact ⟨c, h1, h2, h3, h4⟩
theorem LeafOk.on_chain (h : LeafOk t leaf) {x y q : Nat} (hx : onP t leaf x = true) (hy : onP t leaf y = true) (hxy : x < y) (hq : gi t.ps y = q) : x ≤ q := by
  have hyn : y < t.ps.length := Nat.lt_of_le_of_lt (h.on_le hy) h.lt
  obtain ⟨q', h1, h2⟩ := h.par hyn (by omega)
  obtain rfl : q = q' := by omega
  have h3 := hit_chain h.ok (Nat.le_of_lt hxy) leaf leaf (Nat.le_refl _) h.lt hx hy
  rw [hit_step h.ok hyn hxy, hq] at h3
  exact hit_le h.ok (show q < _ by omega) h3
theorem LeafOk.on_one (h : LeafOk t leaf) {x y q : Nat} (hx : onP t leaf x = true) (hy : onP t leaf y = true) (hx0 : q < x) (hy0 : q < y) (e1 : gi t.ps x = q) (e2 : gi t.ps y = q) : x = y := by
  rcases Nat.lt_trichotomy x y with c | c | c
  · have := h.on_chain hx hy c e2; omega
  · exact c
  · have := h.on_chain hy hx c e1; omega
theorem rr_mem (h : LeafOk t leaf) {p k : Nat} (hp : p < t.ps.length + 1) (hk : k ∈ (rrF t leaf).kids p) :
    (p = t.ps.length ∧ k = leaf) ∨ (p = t.ps.length ∧ leaf ≠ 0 ∧ gi t.ps leaf = k ∧ k < leaf) ∨ (p < t.ps.length ∧ k < t.ps.length ∧ p < k ∧ gi t.ps k = p ∧ onP t leaf k = false) ∨ (p < t.ps.length ∧ onP t leaf p = true ∧ p ≠ leaf ∧ p ≠ 0 ∧ gi t.ps p = k ∧ k < p) := by
  have hk : k ∈ rrQ t leaf p := hk
  unfold rrQ at hk
  split at hk
  · rename_i e
    rcases List.mem_cons.1 hk with e2 | e2
    · exact .inl ⟨e, e2⟩
    · split at e2
      · cases e2
      · rename_i h0
        have e2 : k = (gi t.ps leaf).toNat := by simpa using e2
        obtain ⟨q, h1, h2⟩ := h.par h.lt h0
        exact .inr (.inl ⟨e, h0, by omega, by omega⟩)
  · rename_i e
    split at hk
    · rename_i hz
      rcases List.mem_append.1 hk with h1 | h1
      · obtain ⟨h1, h2⟩ := List.mem_filter.1 h1
        obtain ⟨h3, h4, h5⟩ := mem_kidsL.1 h1
        exact .inr (.inr (.inl ⟨by omega, h3, h4, h5, by simpa using h2⟩))
      · split at h1
        · cases h1
        · rename_i h0
          have h1 : k = (gi t.ps p).toNat := by simpa using h1
          obtain ⟨q, h2, h3⟩ := h.par (z := p) (by omega) h0
          exact .inr (.inr (.inr ⟨by omega, hz.1, hz.2, h0, by omega, by omega⟩))
    · rename_i hz
      obtain ⟨h3, h4, h5⟩ := mem_kidsL.1 hk
      refine .inr (.inr (.inl ⟨by omega, h3, h4, h5, ?_⟩))
      cases hc : onP t leaf k with
      | false => rfl
      | true =>
        have := h.on_par hc (by omega) h5
        have : p = leaf := by
          by_cases c : p = leaf
          · exact c
          · exact absurd ⟨this, c⟩ hz
        rw [this, h.nokid] at hk; cases hk
theorem rk_on (_h : LeafOk t leaf) {z : Nat} (hz : z < t.ps.length) (ho : onP t leaf z = true) (hne : z ≠ leaf) : rkR t leaf z = t.ps.length + 1 + z := by
  unfold rkR; rw [if_neg (by omega), if_pos ⟨ho, hne⟩]
theorem rk_off {z : Nat} (hz : z < t.ps.length) (ho : onP t leaf z = false ∨ z = leaf) : rkR t leaf z = t.ps.length - z := by
  unfold rkR; rw [if_neg (by omega), if_neg]
  · rfl
  · rintro ⟨h1, h2⟩
    rcases ho with e | e
    · rw [e] at h1; cases h1
    · exact h2 e
theorem rr_leaf (h : LeafOk t leaf) {z : Nat} (hz : z < t.ps.length + 1) (hk : (rrF t leaf).kids z = []) : z < t.ps.length ∧ (kidsL t.ps z = [] ∨ (z = 0 ∧ (gs t.ns 0).size = 0)) := by
  have hk : rrQ t leaf z = [] := hk
  unfold rrQ at hk
  split at hk
  · cases hk
  · rename_i e
    refine ⟨by omega, ?_⟩
    split at hk
    · rename_i hc
      obtain ⟨c, h1, h2, h3, _⟩ := h.on_kid hc.1 hc.2
      by_cases h0 : z = 0
      · subst h0; exact .inr ⟨rfl, inner_empty h.te h1 h2 h3⟩
      · rw [if_neg h0] at hk
        simp at hk
    · exact .inl hk
theorem tleaf_named (h : treeErr t = 0) {z : Nat} (hz : z < t.ps.length) (hk : kidsL t.ps z = []) : namedB (gs t.ns z).data.toList = true := by
  obtain ⟨_, _, _, hok, _⟩ := treeErr_zero h
  refine (leaf_named h hz ?_).1
  cases hin : isIn t.ps z with
  | false => rfl
  | true => exact absurd hk ((kids_isIn hok z).2 hin)
theorem rr_arb (h : LeafOk t leaf) : Arb (rrF t leaf) (t.ps.length + 1) (rkR t leaf) := by
  have hlt := h.lt
  refine ⟨⟨fun p hp k hk => ?_⟩, fun p q k hp hq h1 h2 => ?_, fun i hi => ?_, fun a b ha hb h1 h2 e => ?_⟩
  · rcases rr_mem h hp hk with ⟨rfl, rfl⟩ | ⟨rfl, h0, e, hlt2⟩ | ⟨h1, h2, h3, e, ho⟩ | ⟨h1, ho, hne, h0, e, hlt2⟩
    · refine ⟨by omega, ?_⟩
      rw [rk_off h.lt (.inr rfl)]
      unfold rkR; rw [if_pos rfl]; omega
    · refine ⟨by omega, ?_⟩
      rw [rk_on h (by omega) (h.on_par h.on_self h0 e) (by omega)]
      unfold rkR; rw [if_pos rfl]; omega
    · refine ⟨by omega, ?_⟩
      rw [rk_off h2 (.inl ho)]
      by_cases c : onP t leaf p = true ∧ p ≠ leaf
      · rw [rk_on h h1 c.1 c.2]; omega
      · have : onP t leaf p = false ∨ p = leaf := by
          cases hc : onP t leaf p with
          | false => exact .inl rfl
          | true => exact .inr (Classical.byContradiction fun x => c ⟨hc, x⟩)
        rw [rk_off h1 this]; omega
    · refine ⟨by omega, ?_⟩
      rw [rk_on h h1 ho hne, rk_on h (by omega) (h.on_par ho h0 e) (by have := h.on_le ho; omega)]; omega
  · have hon : ∀ p, p < t.ps.length + 1 → k ∈ (rrF t leaf).kids p → (onP t leaf k = false ∧ p < t.ps.length ∧ gi t.ps k = p) ∨ (onP t leaf k = true ∧ (p = t.ps.length ∧ (k = leaf ∨ gi t.ps leaf = k ∧ k < leaf) ∨ p < t.ps.length ∧ onP t leaf p = true ∧ p ≠ leaf ∧ gi t.ps p = k ∧ k < p)) := fun p hp hk => by
      rcases rr_mem h hp hk with ⟨rfl, rfl⟩ | ⟨rfl, h0, e, hlt2⟩ | ⟨h1, h2, h3, e, ho⟩ | ⟨h1, ho, hne, h0, e, hlt2⟩
      · exact .inr ⟨h.on_self, .inl ⟨rfl, .inl rfl⟩⟩
      · exact .inr ⟨h.on_par h.on_self h0 e, .inl ⟨rfl, .inr ⟨e, hlt2⟩⟩⟩
      · exact .inl ⟨ho, h1, e⟩
      · exact .inr ⟨h.on_par ho h0 e, .inr ⟨h1, ho, hne, e, hlt2⟩⟩
    rcases hon p hp h1 with ⟨a1, a2, a3⟩ | ⟨a1, a2⟩
    · rcases hon q hq h2 with ⟨_, b2, b3⟩ | ⟨b1, _⟩
      · omega
      · rw [a1] at b1; cases b1
    · rcases hon q hq h2 with ⟨b1, _⟩ | ⟨_, b2⟩
      · rw [a1] at b1; cases b1
      · rcases a2 with ⟨a2, a3⟩ | ⟨a2, a3, a4, a5, a6⟩
        · rcases b2 with ⟨b2, b3⟩ | ⟨b2, b3, b4, b5, b6⟩
          · omega
          · exfalso
            have := h.on_le b3
            rcases a3 with e | ⟨e, e2⟩
            · omega
            · exact b4 (h.on_one b3 h.on_self b6 e2 b5 e)
        · rcases b2 with ⟨b2, b3⟩ | ⟨b2, b3, b4, b5, b6⟩
          · exfalso
            have := h.on_le a3
            rcases b3 with e | ⟨e, e2⟩
            · omega
            · exact a4 (h.on_one a3 h.on_self a6 e2 a5 e)
          · exact h.on_one a3 b3 a6 b6 a5 b5
  · show (rrQ t leaf i).Nodup
    unfold rrQ
    have hkn : (kidsL t.ps i).Nodup := List.Pairwise.filter _ List.nodup_range
    split
    · split
      · simp
      · rename_i h0
        obtain ⟨q, h1, h2⟩ := h.par hlt h0
        simp; omega
    · split
      · split
        · rw [List.append_nil]; exact hkn.filter _
        · rename_i hi2 _ h0
          obtain ⟨q, h1, h2⟩ := h.par (z := i) (by omega) h0
          rw [List.nodup_append]
          refine ⟨hkn.filter _, by simp, fun a ha b hb e => ?_⟩
          have hb : b = (gi t.ps i).toNat := by simpa using hb
          have := (mem_kidsL.1 (List.mem_filter.1 ha).1).2.1
          omega
      · exact hkn
  · obtain ⟨a1, a2⟩ := rr_leaf h ha h1
    obtain ⟨b1, b2⟩ := rr_leaf h hb h2
    have e : gs t.ns a = gs t.ns b := by
      have e : upd (gs t.ns) t.ps.length ByteArray.empty a = upd (gs t.ns) t.ps.length ByteArray.empty b := e
      rw [upd_ne _ _ (by omega), upd_ne _ _ (by omega)] at e; exact e
    rcases a2 with a2 | ⟨a2, a3⟩
    · rcases b2 with b2 | ⟨b2, b3⟩
      · exact (frT_arb h.te).names a b a1 b1 a2 b2 e
      · subst b2
        exact absurd b3 (by rw [← e]; exact named_size (tleaf_named h.te a1 a2))
    · rcases b2 with b2 | ⟨b2, b3⟩
      · subst a2
        exact absurd a3 (by rw [e]; exact named_size (tleaf_named h.te b1 b2))
      · omega
end
end Go.Proofs.YtcbmbhghmfehpaaGreat
namespace Go.Proofs.YtcbmbhghmfehpaaGreat
section
variable {t : Tre} {leaf : Nat}
end
section
variable {F : Frs} {n : Nat} {rk : Nat → Nat} {P : Nat → Bool}
end
section
variable {t : Tre} {leaf : Nat}
theorem rr_inner (h : LeafOk t leaf) {z : Nat} (hz : z < t.ps.length + 1) (hk : (rrF t leaf).kids z ≠ []) : ((rrF t leaf).nm z).size = 0 := by
  by_cases e : z = t.ps.length
  · subst e
    show (upd (gs t.ns) _ _ _).size = 0
    rw [upd_same]; rfl
  · show (upd (gs t.ns) _ _ z).size = 0
    rw [upd_ne _ _ e]
    by_cases c : kidsL t.ps z = []
    · exfalso
      refine hk ?_
      show rrQ t leaf z = []
      unfold rrQ
      rw [if_neg e, c, if_neg]
      rintro ⟨h1, h2⟩
      obtain ⟨k, h3, h4, h5, _⟩ := h.on_kid h1 h2
      have : k ∈ kidsL t.ps z := mem_kidsL.2 ⟨h3, h4, h5⟩
      rw [c] at this; cases this
    · obtain ⟨k, hk⟩ := List.exists_mem_of_ne_nil _ c
      obtain ⟨h3, h4, h5⟩ := mem_kidsL.1 hk
      exact inner_empty h.te h3 h4 h5
theorem rr_names (h : LeafOk t leaf) : ∀ a b, a < t.ps.length + 1 → b < t.ps.length + 1 → ((rrF t leaf).nm a).size ≠ 0 → (rrF t leaf).nm a = (rrF t leaf).nm b → a = b := fun a b ha hb h0 e => by
  have key : ∀ c, c < t.ps.length + 1 → ((rrF t leaf).nm c).size ≠ 0 → (rrF t leaf).kids c = [] := fun c hc hn => by
    by_cases x : (rrF t leaf).kids c = []
    · exact x
    · exact absurd (rr_inner h hc x) hn
  exact (rr_arb h).names a b ha hb (key a ha h0) (key b hb (by rw [← e]; exact h0)) e
end
end Go.Proofs.YtcbmbhghmfehpaaGreat
