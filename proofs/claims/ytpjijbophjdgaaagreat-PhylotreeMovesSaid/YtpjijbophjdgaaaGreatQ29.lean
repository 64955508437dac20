/- The forest that pruned leaves: plain. SharederrorClades, plain: the tree whose leaves are renamed, the lists of the leaves below its nodes. The last common ancestor of two nodes, plain. The example of the chapter: three, awake. slices.IndexFunc, slices.DeleteFunc at nodes. -/
import Derived.Test.YtpjijbophjdgaaaGreatQ27
import Derived.Test.YtpjijbophjdgaaaGreatQ28
import Derived.Test.YtpjijbophjdgaaaGreatQ25
import Derived.Test.YtpjijbophjdgaaaGreatQ26
import Derived.Test.YtpjijbophjdgaaaGreatQ4
import Derived.Test.YtpjijbophjdgaaaGreatQ7
import Derived.Lib.SliceRun
namespace Go.Proofs.YtpjijbophjdgaaaGreat
mutual
theorem size_contr : ∀ r : RT, sizeR (contrR r) ≤ sizeR r
  | .node nm [] => by rw [contrR]; exact Nat.le_refl _
  | .node nm [k] => by
    have := size_contr k
    rw [contrR, sizeR, sizeRs, sizeRs]; omega
  | .node nm (a :: b :: ks) => by
    have h1 := size_contr a
    have h2 := size_contr b
    have h3 := sizes_contr ks
    rw [contrR]
    simp only [sizeR, sizeRs]
    omega
theorem sizes_contr : ∀ rs : List RT, sizeRs (contrRs rs) ≤ sizeRs rs
  | [] => by rw [contrRs]; exact Nat.le_refl _
  | r :: rs => by
    have h1 := size_contr r
    have h2 := sizes_contr rs
    rw [contrRs, sizeRs, sizeRs]; omega
end
section
variable {F : Frs} {n : Nat} {rk : Nat → Nat} {P : Nat → Bool}
theorem pr_kids {i z : Nat} (hs : subF F rk i z = true) : (F.sub rk (prQ F P rk) i).kids z = (F.kids z).filter (al F P rk) := by
  show (if _ then _ else _) = _
  rw [if_pos hs]; rfl
theorem pr_mem {i z j : Nat} (hj : j ∈ (F.sub rk (prQ F P rk) i).kids z) : j ∈ F.kids z := by
  have hj : j ∈ if _ then _ else _ := hj
  split at hj
  · exact (List.mem_filter.1 hj).1
  · exact hj
theorem pr_wf (h : Wf F n rk) (i : Nat) : Wf (F.sub rk (prQ F P rk) i) n rk := ⟨fun z hz j hj => h.kid z hz j (pr_mem hj)⟩
theorem pr_len (hl : ∀ z, z < n → (F.kids z).length ≤ 1000) (i z : Nat) (hz : z < n) : ((F.sub rk (prQ F P rk) i).kids z).length ≤ 1000 := by
  show (if _ then _ else _ : List Nat).length ≤ _
  split
  · exact Nat.le_trans (List.length_filter_le _ _) (hl z hz)
  · exact hl z hz
theorem pr_below (h : Wf F n rk) (i : Nat) : ∀ (d x z : Nat), rk x ≤ d → x < n → subF (F.sub rk (prQ F P rk) i) rk x z = true → subF F rk x z = true
  | d, x, z, hd, hx, hs => by
    rcases subF_cases (pr_wf h i) hx hs with e | ⟨k, hk, h2⟩
    · subst e; exact subF_self h hx
    · have hk := pr_mem hk
      have hkk := h.kid x hx k hk
      cases d with
      | zero => omega
      | succ d => exact subF_kid h hx hk (pr_below h i d k z (by omega) hkk.1 h2)
theorem pr_alive (h : Wf F n rk) {i : Nat} (hi : i < n) : ∀ (d x z : Nat), rk x ≤ d → x < n → subF F rk i x = true → al F P rk x = true → subF (F.sub rk (prQ F P rk) i) rk x z = true → al F P rk z = true
  | d, x, z, hd, hx, hix, ha, hs => by
    rcases subF_cases (pr_wf h i) hx hs with e | ⟨k, hk, h2⟩
    · subst e; exact ha
    · rw [pr_kids hix] at hk
      obtain ⟨hk, hka⟩ := List.mem_filter.1 hk
      have hkk := h.kid x hx k hk
      cases d with
      | zero => omega
      | succ d => exact pr_alive h hi d k z (by omega) hkk.1 (sub_trans h hi (Nat.le_refl _) hix (subF_kid h hx hk (subF_self h hkk.1))) hka h2
theorem pr_reach (h : Wf F n rk) {i : Nat} (hi : i < n) : ∀ (d x z : Nat), rk x ≤ d → x < n → subF F rk i x = true → subF F rk x z = true → al F P rk z = true → al F P rk x = true ∧ subF (F.sub rk (prQ F P rk) i) rk x z = true
  | d, x, z, hd, hx, hix, hs, ha => by
    rcases subF_cases h hx hs with e | ⟨k, hk, h2⟩
    · subst e; exact ⟨ha, subF_self (pr_wf h i) hx⟩
    · have hkk := h.kid x hx k hk
      cases d with
      | zero => omega
      | succ d =>
        obtain ⟨h3, h4⟩ := pr_reach h hi d k z (by omega) hkk.1 (sub_trans h hi (Nat.le_refl _) hix (subF_kid h hx hk (subF_self h hkk.1))) h2 ha
        refine ⟨?_, subF_kid (pr_wf h i) hx (by rw [pr_kids hix]; exact List.mem_filter.2 ⟨hk, h3⟩) h4⟩
        rw [al_eq h hx, if_neg fun e => by rw [e] at hk; cases hk]
        exact List.any_eq_true.2 ⟨k, hk, h3⟩
theorem pr_dis (h : Wf F n rk) {i : Nat} (hi : i < n) (hD : Dis F n rk i) : Dis (F.sub rk (prQ F P rk) i) n rk i := fun z hz hs => by
  have hs2 := pr_below h i _ i z (Nat.le_refl _) hi hs
  obtain ⟨h1, h2⟩ := hD z hz hs2
  refine ⟨by rw [pr_kids hs2]; exact h1.filter _, fun x hx y hy j a b => ?_⟩
  have hx := pr_mem hx
  have hy := pr_mem hy
  exact h2 x hx y hy j (pr_below h i _ x j (Nat.le_refl _) (h.kid z hz x hx).1 a) (pr_below h i _ y j (Nat.le_refl _) (h.kid z hz y hy).1 b)
theorem pr_out (h : Wf F n rk) {i : Nat} (hi : i < n) (hall : ∀ z, z < n → subF F rk i z = true) : ∀ z, z < n → subF (F.sub rk (prQ F P rk) i) rk i z = false → ((F.sub rk (prQ F P rk) i).kids z).length ≤ 1 := fun z hz hs => by
  have h1 := hall z hz
  rw [pr_kids h1]
  have : (F.kids z).filter (al F P rk) = [] := by
    rw [List.filter_eq_nil_iff]
    intro k hk ha
    have hkk := h.kid z hz k hk
    have hza : al F P rk z = true := by
      rw [al_eq h hz, if_neg fun e => by rw [e] at hk; cases hk]
      exact List.any_eq_true.2 ⟨k, hk, ha⟩
    rw [(pr_reach h hi _ i z (Nat.le_refl _) hi (subF_self h hi) h1 hza).2] at hs
    cases hs
  rw [this]; exact Nat.zero_le _
theorem sublist_flatMap {f g : Nat → List ByteArray} {p : Nat → Bool} : ∀ l : List Nat, (∀ k ∈ l, p k = true → (f k).Sublist (g k)) → ((l.filter p).flatMap f).Sublist (l.flatMap g)
  | [], _ => List.Sublist.refl _
  | a :: l, h => by
    have ih := sublist_flatMap l fun k hk => h k (by simp [hk])
    rw [List.flatMap_cons]
    by_cases ha : p a = true
    · rw [List.filter_cons_of_pos ha, List.flatMap_cons]
      exact (h a (by simp) ha).append ih
    · rw [List.filter_cons_of_neg ha]
      exact ih.trans (List.sublist_append_right _ _)
theorem pr_part (h : Wf F n rk) {i : Nat} (hi : i < n) (hg : GoodR (toRF F rk i)) (ha : al F P rk i = true) {s : RT} (hs : s ∈ subR (toRF (F.sub rk (prQ F P rk) i) rk i)) :
    ∃ z, z < n ∧ subF F rk i z = true ∧ al F P rk z = true ∧ s = toRF (F.sub rk (prQ F P rk) i) rk z ∧ (s.kids ≠ [] → s.nm.size = 0) ∧ (s.kids = [] → F.kids z = [] ∧ namedB s.nm.data.toList = true) := by
  have hw := pr_wf (P := P) h i
  rw [subR_toRF hw hi (Nat.le_refl _)] at hs
  obtain ⟨z, hz, rfl⟩ := List.mem_map.1 hs
  have hsz := (mem_nodesF hw hi (Nat.le_refl _)).1 hz
  have hzn := subF_lt hw hi (Nat.le_refl _) hsz
  have hs2 := pr_below h i _ i z (Nat.le_refl _) hi hsz
  have hza := pr_alive h hi _ i z (Nat.le_refl _) hi (subF_self h hi) ha hsz
  have hpart := rose_part h hi hs2
  refine ⟨z, hzn, hs2, hza, rfl, fun hk => ?_, fun hk => ?_⟩
  · rw [toRF_nm hw hzn]
    have := hg.inn _ hpart
    rw [toRF_nm h hzn, toRF_kids h hzn] at this
    refine this fun e => hk ?_
    rw [toRF_kids hw hzn, pr_kids hs2, List.map_eq_nil_iff.1 e]; rfl
  · rw [toRF_kids hw hzn, pr_kids hs2, List.map_eq_nil_iff, List.filter_eq_nil_iff] at hk
    have h0 : F.kids z = [] := by
      by_cases c : F.kids z = []
      · exact c
      · rw [al_eq h hzn, if_neg c] at hza
        obtain ⟨k, hk2, hka⟩ := List.any_eq_true.1 hza
        exact absurd hka (hk k hk2)
    refine ⟨h0, ?_⟩
    rw [toRF_nm hw hzn]
    have := hg.lf _ hpart
    rw [toRF_nm h hzn, toRF_kids h hzn] at this
    exact this (by rw [h0]; rfl)
theorem pr_leaf (h : Wf F n rk) {i : Nat} (hi : i < n) (hg : GoodR (toRF F rk i)) (ha : al F P rk i = true) : ∀ (d z : Nat), rk z ≤ d → z < n → subF F rk i z = true → al F P rk z = true → (leafR (toRF (F.sub rk (prQ F P rk) i) rk z)).Sublist (leafR (toRF F rk z))
  | d, z, hd, hz, hs, hza => by
    have hw := pr_wf (P := P) h i
    rw [toRF_eq h hz, toRF_eq hw hz, pr_kids hs]
    have hn := rose_part h hi hs
    by_cases h0 : F.kids z = []
    · rw [h0]; exact List.Sublist.refl _
    · have hz0 : (F.nm z).size = 0 := by
        have := hg.inn _ hn
        rw [toRF_nm h hz, toRF_kids h hz] at this
        exact this fun e => h0 (List.map_eq_nil_iff.1 e)
      rw [leafR_node hz0, leafR_node (show ((F.sub rk (prQ F P rk) i).nm z).size = 0 from hz0), List.flatMap_map, List.flatMap_map]
      refine sublist_flatMap _ fun k hk hka => ?_
      have hkk := h.kid z hz k hk
      cases d with
      | zero => omega
      | succ d => exact pr_leaf h hi hg ha d k (by omega) hkk.1 (sub_trans h hi (Nat.le_refl _) hs (subF_kid h hz hk (subF_self h hkk.1))) hka
theorem pr_good (h : Wf F n rk) {i : Nat} (hi : i < n) (hg : GoodR (toRF F rk i)) (ha : al F P rk i = true) : GoodR (toRF (F.sub rk (prQ F P rk) i) rk i) := by
  refine ⟨fun s hs hk => ?_, fun s hs hk => ?_, (pr_leaf h hi hg ha _ i (Nat.le_refl _) hi (subF_self h hi) ha).nodup hg.nd⟩
  · obtain ⟨_, _, _, _, _, h1, _⟩ := pr_part h hi hg ha hs
    exact h1 hk
  · obtain ⟨_, _, _, _, _, _, h1⟩ := pr_part h hi hg ha hs
    exact (h1 hk).2
theorem good_size (h : Wf F n rk) {i : Nat} (hi : i < n) (hg : GoodR (toRF F rk i)) : sizeR (toRF F rk i) ≤ n := by
  rw [← subR_len, subR_toRF h hi (Nat.le_refl _), List.length_map]
  exact nodup_le (good_nodes h _ i (Nat.le_refl _) hi hg) fun x hx => subF_lt h hi (Nat.le_refl _) ((mem_nodesF h hi (Nat.le_refl _)).1 hx)
end
theorem all_below {t : Tre} (h : treeErr t = 0) : ∀ (d z : Nat), z ≤ d → z < t.ps.length → subF (frT t) (rkT t) 0 z = true
  | d, z, hd, hz => by
    obtain ⟨hp, _, _, hok, _⟩ := treeErr_zero h
    have hw := (frT_arb h).wf
    by_cases h0 : z = 0
    · subst h0; exact subF_self hw hz
    · obtain ⟨h1, h2⟩ := pOkB_par hok hz (by omega)
      obtain ⟨q, hq⟩ : ∃ q : Nat, gi t.ps z = q := ⟨(gi t.ps z).toNat, by omega⟩
      cases d with
      | zero => omega
      | succ d =>
        have ih := all_below h d q (by omega) (by omega)
        exact sub_trans hw hp (Nat.le_refl _) ih (subF_kid hw (show q < t.ps.length by omega) (by rw [frT_kids]; exact mem_kidsL.2 ⟨hz, by omega, hq⟩) (subF_self hw hz))
end Go.Proofs.YtpjijbophjdgaaaGreat
namespace Go.Proofs.YtpjijbophjdgaaaGreat
section
variable {t : Tre}
theorem hit_chain {ps : List Int} (hp : pOkB ps = true) {i k : Nat} (hik : i ≤ k) : ∀ (d j : Nat), j ≤ d → j < ps.length → hitB ps i j = true → hitB ps k j = true → hitB ps i k = true
  | d, j, hd, hj, h1, h2 => by
    have hkj := hit_le hp hj h2
    by_cases e : j = k
    · subst e; exact h1
    · obtain ⟨p0, pj⟩ := pOkB_par hp hj (by omega)
      rw [hit_step hp hj (by omega)] at h1 h2
      cases d with
      | zero => omega
      | succ d => exact hit_chain hp hik d (gi ps j).toNat (by omega) (by omega) h1 h2
end
end Go.Proofs.YtpjijbophjdgaaaGreat
namespace Go.Proofs.YtpjijbophjdgaaaGreat
section
variable {ps : List Int}
theorem pOkB_zero (hp : pOkB ps = true) (h : 0 < ps.length) : gi ps 0 = -1 := by
  unfold pOkB at hp
  have h1 := List.all_eq_true.1 hp 0 (List.mem_range.2 h)
  unfold okp at h1
  simpa using h1
end
end Go.Proofs.YtpjijbophjdgaaaGreat
namespace Go.Proofs.YtpjijbophjdgaaaGreat
open Go.RowKit Go.Deep
def t3 : Tre := ⟨[-1, 0, 1, 1, 0], [⟨#[]⟩, ⟨#[]⟩, ⟨#[65]⟩, ⟨#[66]⟩, ⟨#[67]⟩]⟩
def s3 : List Int := [0, 1, 1]
def u2 : List (List Int) := [[0, 1], [1, 0]]
theorem lit_ints (w : World) (cs : Array Value) (T : TypeId) (xs : List Int) (hcs : cs.toList = xs.map (Value.int .i64)) (n : Nat) (hn : n = xs.length) : IntsAt Any (w.alloc (.cells cs T)) (.slice (some ⟨w.heap.size, 0, none⟩) n n) xs := by
  subst hn
  refine ⟨_, _, rfl, Nat.le_refl _, .inr ⟨_, 0, rfl, trivial, fun k hk => ?_⟩⟩
  rw [Nat.zero_add, cell_at_new, ← Array.getElem?_toList, hcs]
  simp [gi, hk]
theorem lit_strs (w : World) (cs : Array Value) (T : TypeId) (xs : List ByteArray) (hcs : cs.toList = xs.map Value.string) (n : Nat) (hn : n = xs.length) : StrsAt Any (w.alloc (.cells cs T)) (.slice (some ⟨w.heap.size, 0, none⟩) n n) xs := by
  subst hn
  refine ⟨_, _, rfl, Nat.le_refl _, .inr ⟨_, 0, rfl, trivial, fun k hk => ?_⟩⟩
  rw [Nat.zero_add, cell_at_new, ← Array.getElem?_toList, hcs]
  simp [gs, hk]
end Go.Proofs.YtpjijbophjdgaaaGreat
namespace Go.Proofs.YtpjijbophjdgaaaGreat
open Go.RowKit Go.Deep
theorem grown_refl (w : World) (o : Option Nat) : w.grownBy w o := ⟨rfl, rfl, rfl, Nat.le_refl _, fun _ _ _ => rfl⟩
theorem grown_trans {w w' x : World} {o : Option Nat} (h : w.grownBy w' o) (k : w'.grownBy x o) : w.grownBy x o :=
  ⟨k.os.trans h.os, k.tape.trans h.tape, k.output.trans h.output, Nat.le_trans h.size k.size, fun b hb hn => (k.block b (Nat.lt_of_lt_of_le hb h.size) hn).trans (h.block b hb hn)⟩
theorem grown_up {w w' : World} (h : Up w w') (o : Option Nat) : w.grownBy w' o := ⟨h.os, h.tape, h.output, h.size, fun b hb _ => Below.block h b hb⟩
theorem grown_set {w : World} {g o : Nat} {z : Value} : w.grownBy (w.setCell ⟨g, o, none⟩ z) (some g) :=
  ⟨rfl, rfl, rfl, by rw [World.size_setCell]; exact Nat.le_refl _, fun b _ hn => blk_setCell_other _ _ _ _ fun e => hn (by rw [e])⟩
theorem grown_sets {g : Nat} : ∀ (vs : List Value) (o : Nat) (w : World), w.grownBy (w.setCells g o vs) (some g)
  | [], _, w => grown_refl w _
  | z :: vs, o, w => by rw [World.setCells]; exact grown_trans grown_set (grown_sets vs (o + 1) _)
theorem owns_take {base : Nat} {e : TypeId} {w : World} {g n cap : Nat} {xs : List Value} (h : Owns base e w (.slice (some ⟨g, 0, none⟩) n cap) xs) {m : Nat} (hm : m ≤ n) : Owns base e w (.slice (some ⟨g, 0, none⟩) m cap) (xs.take m) := by
  obtain ⟨h1, h2⟩ := h
  rcases h2 with ⟨e1, _⟩ | ⟨g2, cap2, cur, e1, hg, hc, hn, hcm, hcs, ht⟩
  · cases e1
  · injection e1 with a1 a2 a3
    injection a1 with a1
    injection a1 with a1
    subst a1; subst a3
    have hnx : n = xs.length := a2
    have hl : (xs.take m).length = m := by rw [List.length_take]; omega
    refine ⟨by rw [Nat.mul_one], .inr ⟨g, cap, cur, by rw [hl], hg, hc, by omega, hcm, hcs, ?_⟩⟩
    rw [hl, Nat.mul_one, ← ht, List.take_take]
    congr 1; omega
theorem owns_tail {base : Nat} {e : TypeId} {w : World} {g m cap o : Nat} {xs : List Value} {z : Value} (h : Owns base e w (.slice (some ⟨g, 0, none⟩) m cap) xs) (ho : m ≤ o) : Owns base e (w.setCell ⟨g, o, none⟩ z) (.slice (some ⟨g, 0, none⟩) m cap) xs := by
  obtain ⟨h1, h2⟩ := h
  rcases h2 with ⟨e1, _⟩ | ⟨g2, cap2, cur, e1, hg, hc, hn, hcm, hcs, ht⟩
  · cases e1
  · injection e1 with a1 a2 a3
    injection a1 with a1
    injection a1 with a1
    subst a1; subst a3
    refine ⟨h1, .inr ⟨g, cap, cur.setIfInBounds o z, by rw [a2], hg, ?_, hn, hcm, by rw [Array.size_setIfInBounds]; exact hcs, ?_⟩⟩
    · simp [World.setCell, Array.getElem?_modify, hc]
    · have hmx : m = xs.length := a2
      rw [Array.toList_setIfInBounds, List.take_set_of_le (by omega)]; exact ht
theorem owns_tails {base : Nat} {e : TypeId} {g m cap : Nat} {xs : List Value} : ∀ (vs : List Value) (o : Nat) (w : World), m ≤ o → Owns base e w (.slice (some ⟨g, 0, none⟩) m cap) xs → Owns base e (w.setCells g o vs) (.slice (some ⟨g, 0, none⟩) m cap) xs
  | [], _, _, _, h => h
  | z :: vs, o, w, ho, h => by rw [World.setCells]; exact owns_tails vs (o + 1) _ (by omega) (owns_tail h ho)
theorem owns_cell {base : Nat} {e : TypeId} {w : World} {g n cap : Nat} {xs : List Value} (h : Owns base e w (.slice (some ⟨g, 0, none⟩) n cap) xs) {j : Nat} {u : Value} (hj : xs[j]? = some u) : w.cell? ⟨g, j, none⟩ = some u ∧ w.frozen? ⟨g, j, none⟩ = false := by
  have hl := (List.getElem?_eq_some_iff.1 hj).1
  obtain ⟨g2, cap2, e1, _, _, hc, hf, _⟩ := h.set hl
  injection e1 with a1
  injection a1 with a1
  injection a1 with a1
  subst a1
  refine ⟨?_, hf⟩
  rw [hc]
  congr 1
  rw [List.getD_eq_getElem?_getD, hj]; rfl
section
variable {A : Nat → Nat} {P : Nat → Bool}
set_option maxRecDepth 100000 in
set_option maxHeartbeats 1000000 in
theorem index_node_t (g : Nat) (lb : Array Value) (eg : ∀ args w, (callFunc g args).run Tryz.prog w = .ok (.enter g args) w) {base : Nat} {w : World} {bk cap : Nat} {ks : List Nat} (h : Owns base 113 w (.slice (some ⟨bk, 0, none⟩) ks.length cap) (ks.map (nptr A))) (hn : ks.length ≤ 1000000)
    (hp : ∀ k ∈ ks, ∀ q, Calls Tryz.prog g (#[.pointer (some ⟨A k, 0, none⟩)] ++ lb) (w.drewN q) fun e w' => e = .returned (.bool (P k)) ∧ ∃ m, w' = w.drewN m) :
    Calls Tryz.prog 171 #[.slice (some ⟨bk, 0, none⟩) ks.length cap, .func (.func g) #[] lb] w fun e w' => e = .returned (.int .i64 (firstIx (fun j => P (ks.getD j 0)) ks.length)) ∧ ∃ m, w' = w.drewN m := by
  have HP := Lib.hid hp
  have HO := Lib.hid h
  clear h hp
  go_enter Tryz.func171, Tryz.ntmps171
  go_wp2_with fail
  go_loopw [5, 8] (fun _ i wr => ∃ k : Nat, k ≤ ks.length ∧ i = .int .i64 k ∧ Hid (QD w wr) ∧ Hid (∀ j, j < k → P (ks.getD j 0) = false)) (fun _ i _ => ks.length - (intOf i).toNat)
  case atStart => exact ⟨0, Nat.zero_le _, rfl, QD.refl _, fun j hj => absurd hj (Nat.not_lt_zero _)⟩
  case round =>
    obtain ⟨k, hk, rfl, hQ, hd⟩ := hrel
    obtain ⟨q, hq⟩ := hQ.out
    subst hq
    by_cases hlt : k < ks.length
    · have hke : ks[k]? = some (ks.getD k 0) := by rw [List.getD_eq_getElem?_getD, List.getElem?_eq_getElem hlt]; rfl
      have hx := (owns_cell (HO.out.same2 (w' := w.drewN q) fun _ _ => rfl) (j := k) (u := nptr A (ks.getD k 0)) (by rw [List.getElem?_map, hke]; rfl)).1
      simp only [nptr] at hx
      have i1 : (0 : Int) ≤ (k : Int) := by omega
      have i2 : (k : Int) < (ks.length : Int) := by omega
      have HPK := Lib.hid (HP.out (ks.getD k 0) (List.mem_of_getElem? hke) q)
      have HLT := Lib.hid hlt
      have HPV : Hid (∀ j, j < k + 1 → P (ks.getD k 0) = false → P (ks.getD j 0) = false) := fun j hj hf => if e : j = k then by subst e; exact hf else hd.out j (by omega)
      have HHI : Hid (P (ks.getD k 0) = true → firstIx (fun j => P (ks.getD j 0)) ks.length = k) := fun ht => firstIx_at hlt hd.out ht
      clear hke
      generalize ks.getD k 0 = c at *
      cases hv : P c
      · rw [hv] at HPK
        have HN : Hid (∀ j, j < k + 1 → P (ks.getD j 0) = false) := fun j hj => HPV.out j hj hv
        clear hv
        go_wp2_with fail
        refine HPK.out.mono ?_
        rintro e w' ⟨rfl, m, rfl⟩
        go_wp2_with fail
        go_roundw
        case rel => exact ⟨k + 1, HLT.out, by go_num, ⟨m, rfl⟩, HN.out⟩
        case measure => have := HLT.out; simp [intOf]; omega
      · rw [hv] at HPK
        have HN := Lib.hid (HHI.out hv)
        clear hv
        go_wp2_with fail
        refine HPK.out.mono ?_
        rintro e w' ⟨rfl, m, rfl⟩
        go_wp2_with fail
        go_ret
        exact ⟨ret_int HN.out.symm, m, rfl⟩
    · go_wp2_with fail
      go_ret
      exact ⟨ret_int (firstIx_none fun j hj => hd.out j (by omega)).symm, q, rfl⟩
end
end Go.Proofs.YtpjijbophjdgaaaGreat
