/- The forest that pruned leaves: plain. SharederrorClades, plain: the tree whose leaves are renamed, the lists of the leaves below its nodes. The last common ancestor of two nodes, plain. The example of the chapter: three, awake. slices.IndexFunc, slices.DeleteFunc at nodes. The contract of slices.DeleteFunc at nodes. -/
import Derived.Test.YtpjijbophjdgaaaGreatQ19
import Derived.Test.YtpjijbophjdgaaaGreatQ20
import Derived.Test.YtpjijbophjdgaaaGreatQ18
import Derived.Test.YtpjijbophjdgaaaGreatQ4
import Derived.Test.YtpjijbophjdgaaaGreatQ6
import Derived.Test.YtpjijbophjdgaaaGreatQ16
import Derived.Lib.SliceRun
namespace Go.Proofs.YtpjijbophjdgaaaGreat
mutual
theorem size_contr : ∀ r : RT, sizeR (contrR r) ≤ sizeR r
  | .node nm [] => by rw [contrR]; exact Nat.le_refl _
  | .node nm [k] => by
    have := size_contr k
    rw [contrR, sizeR, sizeRs, sizeRs]; omega
  | .node nm (a :: b :: ks) => by
    have h1 := size_contr a
    have h2 := size_contr b
    have h3 := sizes_contr ks
    rw [contrR]
    simp only [sizeR, sizeRs]
    omega
theorem sizes_contr : ∀ rs : List RT, sizeRs (contrRs rs) ≤ sizeRs rs
  | [] => by rw [contrRs]; exact Nat.le_refl _
  | r :: rs => by
    have h1 := size_contr r
    have h2 := sizes_contr rs
    rw [contrRs, sizeRs, sizeRs]; omega
end
section
variable {F : Frs} {n : Nat} {rk : Nat → Nat} {P : Nat → Bool}
theorem pr_kids {i z : Nat} (hs : subF F rk i z = true) : (F.sub rk (prQ F P rk) i).kids z = (F.kids z).filter (al F P rk) := by
  show (if _ then _ else _) = _
  rw [if_pos hs]; rfl
theorem pr_mem {i z j : Nat} (hj : j ∈ (F.sub rk (prQ F P rk) i).kids z) : j ∈ F.kids z := by
  have hj : j ∈ if _ then _ else _ := hj
  split at hj
  · exact (List.mem_filter.1 hj).1
  · exact hj
theorem pr_wf (h : Wf F n rk) (i : Nat) : Wf (F.sub rk (prQ F P rk) i) n rk := ⟨fun z hz j hj => h.kid z hz j (pr_mem hj)⟩
theorem pr_len (hl : ∀ z, z < n → (F.kids z).length ≤ 1000) (i z : Nat) (hz : z < n) : ((F.sub rk (prQ F P rk) i).kids z).length ≤ 1000 := by
  show (if _ then _ else _ : List Nat).length ≤ _
  split
  · exact Nat.le_trans (List.length_filter_le _ _) (hl z hz)
  · exact hl z hz
theorem pr_below (h : Wf F n rk) (i : Nat) : ∀ (d x z : Nat), rk x ≤ d → x < n → subF (F.sub rk (prQ F P rk) i) rk x z = true → subF F rk x z = true
  | d, x, z, hd, hx, hs => by
    rcases subF_cases (pr_wf h i) hx hs with e | ⟨k, hk, h2⟩
    · subst e; exact subF_self h hx
    · have hk := pr_mem hk
      have hkk := h.kid x hx k hk
      cases d with
      | zero => omega
      | succ d => exact subF_kid h hx hk (pr_below h i d k z (by omega) hkk.1 h2)
theorem pr_alive (h : Wf F n rk) {i : Nat} (hi : i < n) : ∀ (d x z : Nat), rk x ≤ d → x < n → subF F rk i x = true → al F P rk x = true → subF (F.sub rk (prQ F P rk) i) rk x z = true → al F P rk z = true
  | d, x, z, hd, hx, hix, ha, hs => by
    rcases subF_cases (pr_wf h i) hx hs with e | ⟨k, hk, h2⟩
    · subst e; exact ha
    · rw [pr_kids hix] at hk
      obtain ⟨hk, hka⟩ := List.mem_filter.1 hk
      have hkk := h.kid x hx k hk
      cases d with
      | zero => omega
      | succ d => exact pr_alive h hi d k z (by omega) hkk.1 (sub_trans h hi (Nat.le_refl _) hix (subF_kid h hx hk (subF_self h hkk.1))) hka h2
theorem pr_reach (h : Wf F n rk) {i : Nat} (hi : i < n) : ∀ (d x z : Nat), rk x ≤ d → x < n → subF F rk i x = true → subF F rk x z = true → al F P rk z = true → al F P rk x = true ∧ subF (F.sub rk (prQ F P rk) i) rk x z = true
  | d, x, z, hd, hx, hix, hs, ha => by
    rcases subF_cases h hx hs with e | ⟨k, hk, h2⟩
    · subst e; exact ⟨ha, subF_self (pr_wf h i) hx⟩
    · have hkk := h.kid x hx k hk
      cases d with
      | zero => omega
      | succ d =>
        obtain ⟨h3, h4⟩ := pr_reach h hi d k z (by omega) hkk.1 (sub_trans h hi (Nat.le_refl _) hix (subF_kid h hx hk (subF_self h hkk.1))) h2 ha
        refine ⟨?_, subF_kid (pr_wf h i) hx (by rw [pr_kids hix]; exact List.mem_filter.2 ⟨hk, h3⟩) h4⟩
        rw [al_eq h hx, if_neg fun e => by rw [e] at hk; cases hk]
        exact List.any_eq_true.2 ⟨k, hk, h3⟩
theorem pr_dis (h : Wf F n rk) {i : Nat} (hi : i < n) (hD : Dis F n rk i) : Dis (F.sub rk (prQ F P rk) i) n rk i := fun z hz hs => by
  have hs2 := pr_below h i _ i z (Nat.le_refl _) hi hs
  obtain ⟨h1, h2⟩ := hD z hz hs2
  refine ⟨by rw [pr_kids hs2]; exact h1.filter _, fun x hx y hy j a b => ?_⟩
  have hx := pr_mem hx
  have hy := pr_mem hy
  exact h2 x hx y hy j (pr_below h i _ x j (Nat.le_refl _) (h.kid z hz x hx).1 a) (pr_below h i _ y j (Nat.le_refl _) (h.kid z hz y hy).1 b)
theorem pr_out (h : Wf F n rk) {i : Nat} (hi : i < n) (hall : ∀ z, z < n → subF F rk i z = true) : ∀ z, z < n → subF (F.sub rk (prQ F P rk) i) rk i z = false → ((F.sub rk (prQ F P rk) i).kids z).length ≤ 1 := fun z hz hs => by
  have h1 := hall z hz
  rw [pr_kids h1]
  have : (F.kids z).filter (al F P rk) = [] := by
    rw [List.filter_eq_nil_iff]
    intro k hk ha
    have hkk := h.kid z hz k hk
    have hza : al F P rk z = true := by
      rw [al_eq h hz, if_neg fun e => by rw [e] at hk; cases hk]
      exact List.any_eq_true.2 ⟨k, hk, ha⟩
    rw [(pr_reach h hi _ i z (Nat.le_refl _) hi (subF_self h hi) h1 hza).2] at hs
    cases hs
  rw [this]; exact Nat.zero_le _
theorem sublist_flatMap {f g : Nat → List ByteArray} {p : Nat → Bool} : ∀ l : List Nat, (∀ k ∈ l, p k = true → (f k).Sublist (g k)) → ((l.filter p).flatMap f).Sublist (l.flatMap g)
  | [], _ => List.Sublist.refl _
  | a :: l, h => by
    have ih := sublist_flatMap l fun k hk => h k (by simp [hk])
    rw [List.flatMap_cons]
    by_cases ha : p a = true
    · rw [List.filter_cons_of_pos ha, List.flatMap_cons]
      exact (h a (by simp) ha).append ih
    · rw [List.filter_cons_of_neg ha]
      exact ih.trans (List.sublist_append_right _ _)
theorem good_size (h : Wf F n rk) {i : Nat} (hi : i < n) (hg : GoodR (toRF F rk i)) : sizeR (toRF F rk i) ≤ n := by
  rw [← subR_len, subR_toRF h hi (Nat.le_refl _), List.length_map]
  exact nodup_le (good_nodes h _ i (Nat.le_refl _) hi hg) fun x hx => subF_lt h hi (Nat.le_refl _) ((mem_nodesF h hi (Nat.le_refl _)).1 hx)
end
end Go.Proofs.YtpjijbophjdgaaaGreat
namespace Go.Proofs.YtpjijbophjdgaaaGreat
section
variable {t : Tre}
theorem sub_hit (h : treeErr t = 0) : ∀ (d i j : Nat), t.ps.length - i ≤ d → i < t.ps.length → j < t.ps.length → subF (frT t) (rkT t) i j = hitB t.ps i j
  | 0, i, _, hd, hi, _ => by omega
  | d + 1, i, j, hd, hi, hj => by
    obtain ⟨_, _, _, hok, _⟩ := treeErr_zero h
    have hw := (frT_arb h).wf
    rw [Bool.eq_iff_iff, hit_kid hok hj, subF_eq hw hi, Bool.or_eq_true, beq_iff_eq, List.any_eq_true]
    constructor
    · rintro (e | ⟨c, hc, e⟩)
      · exact .inl e
      · rw [frT_kids] at hc
        obtain ⟨h1, h2, h3⟩ := mem_kidsL.1 hc
        exact .inr ⟨c, h1, h2, h3, by rw [← sub_hit h d c j (by omega) h1 hj]; exact e⟩
    · rintro (e | ⟨c, h1, h2, h3, e⟩)
      · exact .inl e
      · exact .inr ⟨c, by rw [frT_kids]; exact mem_kidsL.2 ⟨h1, h2, h3⟩, by rw [sub_hit h d c j (by omega) h1 hj]; exact e⟩
theorem hit_chain {ps : List Int} (hp : pOkB ps = true) {i k : Nat} (hik : i ≤ k) : ∀ (d j : Nat), j ≤ d → j < ps.length → hitB ps i j = true → hitB ps k j = true → hitB ps i k = true
  | d, j, hd, hj, h1, h2 => by
    have hkj := hit_le hp hj h2
    by_cases e : j = k
    · subst e; exact h1
    · obtain ⟨p0, pj⟩ := pOkB_par hp hj (by omega)
      rw [hit_step hp hj (by omega)] at h1 h2
      cases d with
      | zero => omega
      | succ d => exact hit_chain hp hik d (gi ps j).toNat (by omega) (by omega) h1 h2
end
end Go.Proofs.YtpjijbophjdgaaaGreat
namespace Go.Proofs.YtpjijbophjdgaaaGreat
section
variable {ps : List Int}
end
end Go.Proofs.YtpjijbophjdgaaaGreat
namespace Go.Proofs.YtpjijbophjdgaaaGreat
open Go.RowKit Go.Deep
def t3 : Tre := ⟨[-1, 0, 1, 1, 0], [⟨#[]⟩, ⟨#[]⟩, ⟨#[65]⟩, ⟨#[66]⟩, ⟨#[67]⟩]⟩
def s3 : List Int := [0, 1, 1]
def u2 : List (List Int) := [[0, 1], [1, 0]]
theorem lit_ints (w : World) (cs : Array Value) (T : TypeId) (xs : List Int) (hcs : cs.toList = xs.map (Value.int .i64)) (n : Nat) (hn : n = xs.length) : IntsAt Any (w.alloc (.cells cs T)) (.slice (some ⟨w.heap.size, 0, none⟩) n n) xs := by
  subst hn
  refine ⟨_, _, rfl, Nat.le_refl _, .inr ⟨_, 0, rfl, trivial, fun k hk => ?_⟩⟩
  rw [Nat.zero_add, cell_at_new, ← Array.getElem?_toList, hcs]
  simp [gi, hk]
theorem lit_strs (w : World) (cs : Array Value) (T : TypeId) (xs : List ByteArray) (hcs : cs.toList = xs.map Value.string) (n : Nat) (hn : n = xs.length) : StrsAt Any (w.alloc (.cells cs T)) (.slice (some ⟨w.heap.size, 0, none⟩) n n) xs := by
  subst hn
  refine ⟨_, _, rfl, Nat.le_refl _, .inr ⟨_, 0, rfl, trivial, fun k hk => ?_⟩⟩
  rw [Nat.zero_add, cell_at_new, ← Array.getElem?_toList, hcs]
  simp [gs, hk]
end Go.Proofs.YtpjijbophjdgaaaGreat
namespace Go.Proofs.YtpjijbophjdgaaaGreat
open Go.RowKit Go.Deep
theorem grown_refl (w : World) (o : Option Nat) : w.grownBy w o := ⟨rfl, rfl, rfl, Nat.le_refl _, fun _ _ _ => rfl⟩
theorem grown_trans {w w' x : World} {o : Option Nat} (h : w.grownBy w' o) (k : w'.grownBy x o) : w.grownBy x o :=
  ⟨k.os.trans h.os, k.tape.trans h.tape, k.output.trans h.output, Nat.le_trans h.size k.size, fun b hb hn => (k.block b (Nat.lt_of_lt_of_le hb h.size) hn).trans (h.block b hb hn)⟩
theorem grown_up {w w' : World} (h : Up w w') (o : Option Nat) : w.grownBy w' o := ⟨h.os, h.tape, h.output, h.size, fun b hb _ => Below.block h b hb⟩
theorem grown_set {w : World} {g o : Nat} {z : Value} : w.grownBy (w.setCell ⟨g, o, none⟩ z) (some g) :=
  ⟨rfl, rfl, rfl, by rw [World.size_setCell]; exact Nat.le_refl _, fun b _ hn => blk_setCell_other _ _ _ _ fun e => hn (by rw [e])⟩
theorem grown_sets {g : Nat} : ∀ (vs : List Value) (o : Nat) (w : World), w.grownBy (w.setCells g o vs) (some g)
  | [], _, w => grown_refl w _
  | z :: vs, o, w => by rw [World.setCells]; exact grown_trans grown_set (grown_sets vs (o + 1) _)
theorem owns_take {base : Nat} {e : TypeId} {w : World} {g n cap : Nat} {xs : List Value} (h : Owns base e w (.slice (some ⟨g, 0, none⟩) n cap) xs) {m : Nat} (hm : m ≤ n) : Owns base e w (.slice (some ⟨g, 0, none⟩) m cap) (xs.take m) := by
  obtain ⟨h1, h2⟩ := h
  rcases h2 with ⟨e1, _⟩ | ⟨g2, cap2, cur, e1, hg, hc, hn, hcm, hcs, ht⟩
  · cases e1
  · injection e1 with a1 a2 a3
    injection a1 with a1
    injection a1 with a1
    subst a1; subst a3
    have hnx : n = xs.length := a2
    have hl : (xs.take m).length = m := by rw [List.length_take]; omega
    refine ⟨by rw [Nat.mul_one], .inr ⟨g, cap, cur, by rw [hl], hg, hc, by omega, hcm, hcs, ?_⟩⟩
    rw [hl, Nat.mul_one, ← ht, List.take_take]
    congr 1; omega
theorem owns_tail {base : Nat} {e : TypeId} {w : World} {g m cap o : Nat} {xs : List Value} {z : Value} (h : Owns base e w (.slice (some ⟨g, 0, none⟩) m cap) xs) (ho : m ≤ o) : Owns base e (w.setCell ⟨g, o, none⟩ z) (.slice (some ⟨g, 0, none⟩) m cap) xs := by
  obtain ⟨h1, h2⟩ := h
  rcases h2 with ⟨e1, _⟩ | ⟨g2, cap2, cur, e1, hg, hc, hn, hcm, hcs, ht⟩
  · cases e1
  · injection e1 with a1 a2 a3
    injection a1 with a1
    injection a1 with a1
    subst a1; subst a3
    refine ⟨h1, .inr ⟨g, cap, cur.setIfInBounds o z, by rw [a2], hg, ?_, hn, hcm, by rw [Array.size_setIfInBounds]; exact hcs, ?_⟩⟩
    · simp [World.setCell, Array.getElem?_modify, hc]
    · have hmx : m = xs.length := a2
      rw [Array.toList_setIfInBounds, List.take_set_of_le (by omega)]; exact ht
theorem owns_tails {base : Nat} {e : TypeId} {g m cap : Nat} {xs : List Value} : ∀ (vs : List Value) (o : Nat) (w : World), m ≤ o → Owns base e w (.slice (some ⟨g, 0, none⟩) m cap) xs → Owns base e (w.setCells g o vs) (.slice (some ⟨g, 0, none⟩) m cap) xs
  | [], _, _, _, h => h
  | z :: vs, o, w, ho, h => by rw [World.setCells]; exact owns_tails vs (o + 1) _ (by omega) (owns_tail h ho)
theorem owns_cell {base : Nat} {e : TypeId} {w : World} {g n cap : Nat} {xs : List Value} (h : Owns base e w (.slice (some ⟨g, 0, none⟩) n cap) xs) {j : Nat} {u : Value} (hj : xs[j]? = some u) : w.cell? ⟨g, j, none⟩ = some u ∧ w.frozen? ⟨g, j, none⟩ = false := by
  have hl := (List.getElem?_eq_some_iff.1 hj).1
  obtain ⟨g2, cap2, e1, _, _, hc, hf, _⟩ := h.set hl
  injection e1 with a1
  injection a1 with a1
  injection a1 with a1
  subst a1
  refine ⟨?_, hf⟩
  rw [hc]
  congr 1
  rw [List.getD_eq_getElem?_getD, hj]; rfl
section
variable {A : Nat → Nat} {P : Nat → Bool}
set_option maxRecDepth 100000 in
set_option maxHeartbeats 1000000 in
theorem index_node_t (g : Nat) (lb : Array Value) (eg : ∀ args w, (callFunc g args).run Tryz.prog w = .ok (.enter g args) w) {base : Nat} {w : World} {bk cap : Nat} {ks : List Nat} (h : Owns base 113 w (.slice (some ⟨bk, 0, none⟩) ks.length cap) (ks.map (nptr A))) (hn : ks.length ≤ 1000000)
    (hp : ∀ k ∈ ks, ∀ q, Calls Tryz.prog g (#[.pointer (some ⟨A k, 0, none⟩)] ++ lb) (w.drewN q) fun e w' => e = .returned (.bool (P k)) ∧ ∃ m, w' = w.drewN m) :
    Calls Tryz.prog 171 #[.slice (some ⟨bk, 0, none⟩) ks.length cap, .func (.func g) #[] lb] w fun e w' => e = .returned (.int .i64 (firstIx (fun j => P (ks.getD j 0)) ks.length)) ∧ ∃ m, w' = w.drewN m := by
  have HP := Lib.hid hp
  have HO := Lib.hid h
  clear h hp
  go_enter Tryz.func171, Tryz.ntmps171
  go_wp2_with fail
  go_loopw [5, 8] (fun _ i wr => ∃ k : Nat, k ≤ ks.length ∧ i = .int .i64 k ∧ Hid (QD w wr) ∧ Hid (∀ j, j < k → P (ks.getD j 0) = false)) (fun _ i _ => ks.length - (intOf i).toNat)
  case atStart => exact ⟨0, Nat.zero_le _, rfl, QD.refl _, fun j hj => absurd hj (Nat.not_lt_zero _)⟩
  case round =>
    obtain ⟨k, hk, rfl, hQ, hd⟩ := hrel
    obtain ⟨q, hq⟩ := hQ.out
    subst hq
    by_cases hlt : k < ks.length
    · have hke : ks[k]? = some (ks.getD k 0) := by rw [List.getD_eq_getElem?_getD, List.getElem?_eq_getElem hlt]; rfl
      have hx := (owns_cell (HO.out.same2 (w' := w.drewN q) fun _ _ => rfl) (j := k) (u := nptr A (ks.getD k 0)) (by rw [List.getElem?_map, hke]; rfl)).1
      simp only [nptr] at hx
      have i1 : (0 : Int) ≤ (k : Int) := by omega
      have i2 : (k : Int) < (ks.length : Int) := by omega
      have HPK := Lib.hid (HP.out (ks.getD k 0) (List.mem_of_getElem? hke) q)
      have HLT := Lib.hid hlt
      have HPV : Hid (∀ j, j < k + 1 → P (ks.getD k 0) = false → P (ks.getD j 0) = false) := fun j hj hf => if e : j = k then by subst e; exact hf else hd.out j (by omega)
      have HHI : Hid (P (ks.getD k 0) = true → firstIx (fun j => P (ks.getD j 0)) ks.length = k) := fun ht => firstIx_at hlt hd.out ht
      clear hke
      generalize ks.getD k 0 = c at *
      cases hv : P c
      · rw [hv] at HPK
        have HN : Hid (∀ j, j < k + 1 → P (ks.getD j 0) = false) := fun j hj => HPV.out j hj hv
        clear hv
        go_wp2_with fail
        refine HPK.out.mono ?_
        rintro e w' ⟨rfl, m, rfl⟩
        go_wp2_with fail
        go_roundw
        case rel => exact ⟨k + 1, HLT.out, by go_num, ⟨m, rfl⟩, HN.out⟩
        case measure => have := HLT.out; simp [intOf]; omega
      · rw [hv] at HPK
        have HN := Lib.hid (HHI.out hv)
        clear hv
        go_wp2_with fail
        refine HPK.out.mono ?_
        rintro e w' ⟨rfl, m, rfl⟩
        go_wp2_with fail
        go_ret
        exact ⟨ret_int HN.out.symm, m, rfl⟩
    · go_wp2_with fail
      go_ret
      exact ⟨ret_int (firstIx_none fun j hj => hd.out j (by omega)).symm, q, rfl⟩
end
end Go.Proofs.YtpjijbophjdgaaaGreat
namespace Go.Proofs.YtpjijbophjdgaaaGreat
open Go.RowKit Go.Deep
def keepF (P : Nat → Bool) (ks : List Nat) (j : Nat) : List Nat := (ks.take j).filter fun k => !P k
theorem keepF_len (P : Nat → Bool) (ks : List Nat) (j : Nat) : (keepF P ks j).length ≤ j := by
  unfold keepF
  refine Nat.le_trans (List.length_filter_le _ _) ?_
  rw [List.length_take]; omega
theorem keepF_succ (P : Nat → Bool) {ks : List Nat} {j : Nat} (hj : j < ks.length) : keepF P ks (j + 1) = if P (ks.getD j 0) then keepF P ks j else keepF P ks j ++ [ks.getD j 0] := by
  unfold keepF
  have hg : ks.getD j 0 = ks[j] := by rw [List.getD_eq_getElem?_getD, List.getElem?_eq_getElem hj]; rfl
  rw [List.take_succ_eq_append_getElem hj, List.filter_append, hg]
  cases h : P ks[j]
  · rw [if_neg (by decide), List.filter_cons_of_pos (by rw [h]; rfl)]; rfl
  · rw [if_pos rfl, List.filter_cons_of_neg (by rw [h]; decide)]; simp
structure DfW (A : Nat → Nat) (P : Nat → Bool) (base : Nat) (w wr : World) (g cap : Nat) (ks : List Nat) (j : Nat) (X : List Value) : Prop where
  own : Owns base 113 wr (.slice (some ⟨g, 0, none⟩) ks.length cap) X
  len : X.length = ks.length
  head : X.take (keepF P ks j).length = (keepF P ks j).map (nptr A)
  rest : ∀ q, j ≤ q → X[q]? = (ks.map (nptr A))[q]?
  up : w.grownBy wr (some g)
section
variable {A : Nat → Nat} {P : Nat → Bool} {base : Nat} {w wr : World} {g cap : Nat} {ks : List Nat} {X : List Value}
theorem DfW.start (h : Owns base 113 w (.slice (some ⟨g, 0, none⟩) ks.length cap) (ks.map (nptr A))) {j : Nat} (hj : j < ks.length) (hno : ∀ i, i < j → P (ks.getD i 0) = false) (hP : P (ks.getD j 0) = true) (m : Nat) :
    DfW A P base w (w.drewN m) g cap ks (j + 1) (ks.map (nptr A)) ∧ (keepF P ks (j + 1)).length = j := by
  have hk : ∀ i, i ≤ j → keepF P ks i = ks.take i := by
    intro i
    induction i with
    | zero => intro _; rfl
    | succ i ih =>
      intro hi
      rw [keepF_succ P (show i < ks.length by omega), hno i (by omega), if_neg (by decide), ih (by omega), List.take_succ_eq_append_getElem (show i < ks.length by omega)]
      congr 2
      rw [List.getD_eq_getElem?_getD, List.getElem?_eq_getElem (show i < ks.length by omega)]; rfl
  have e : keepF P ks (j + 1) = ks.take j := by rw [keepF_succ P hj, hP, if_pos rfl, hk j (Nat.le_refl _)]
  have hl : (ks.take j).length = j := by rw [List.length_take]; omega
  refine ⟨⟨h.same2 fun _ _ => rfl, List.length_map _, ?_, fun _ _ => rfl, grown_up (Up.drewN w m) _⟩, by rw [e, hl]⟩
  rw [e, hl, List.map_take]
theorem DfW.skip {j : Nat} (h : DfW A P base w wr g cap ks j X) (hj : j < ks.length) (hP : P (ks.getD j 0) = true) (m : Nat) : DfW A P base w (wr.drewN m) g cap ks (j + 1) X :=
  ⟨h.own.same2 fun _ _ => rfl, h.len, by rw [keepF_succ P hj, if_pos hP]; exact h.head, fun q hq => h.rest q (by omega), grown_trans h.up (grown_up (Up.drewN wr m) _)⟩
theorem DfW.up_drew {j : Nat} (h : DfW A P base w wr g cap ks j X) (m : Nat) : DfW A P base w (wr.drewN m) g cap ks j X :=
  ⟨h.own.same2 fun _ _ => rfl, h.len, h.head, h.rest, grown_trans h.up (grown_up (Up.drewN wr m) _)⟩
theorem DfW.at {j : Nat} (h : DfW A P base w wr g cap ks j X) (hj : j < ks.length) : wr.cell? ⟨g, j, none⟩ = some (.pointer (some ⟨A (ks.getD j 0), 0, none⟩)) := by
  have hke : ks[j]? = some (ks.getD j 0) := by rw [List.getD_eq_getElem?_getD, List.getElem?_eq_getElem hj]; rfl
  exact (owns_cell h.own (j := j) (u := nptr A (ks.getD j 0)) (by rw [h.rest j (Nat.le_refl _), List.getElem?_map, hke]; rfl)).1
theorem DfW.push {j : Nat} (h : DfW A P base w wr g cap ks j X) (hj : j < ks.length) (hP : P (ks.getD j 0) = false) :
    (∃ x, wr.cell? ⟨g, (keepF P ks j).length, none⟩ = some x) ∧ wr.frozen? ⟨g, (keepF P ks j).length, none⟩ = false ∧ (keepF P ks (j + 1)).length = (keepF P ks j).length + 1 ∧
      ∃ X', DfW A P base w (wr.setCell ⟨g, (keepF P ks j).length, none⟩ (.pointer (some ⟨A (ks.getD j 0), 0, none⟩))) g cap ks (j + 1) X' := by
  have hle := keepF_len P ks j
  obtain ⟨g2, cap2, e1, _, _, hc, hf, hs⟩ := h.own.set (j := (keepF P ks j).length) (by rw [h.len]; omega)
  injection e1 with a1 a2 a3
  injection a1 with a1
  injection a1 with a1
  subst a1
  have hk := keepF_succ P hj
  rw [if_neg (by rw [hP]; decide)] at hk
  have hl : (keepF P ks (j + 1)).length = (keepF P ks j).length + 1 := by rw [hk, List.length_append]; rfl
  refine ⟨⟨_, hc⟩, hf, hl, X.set (keepF P ks j).length (nptr A (ks.getD j 0)), hs _, by rw [List.length_set]; exact h.len, ?_, fun q hq => ?_, grown_trans h.up grown_set⟩
  · rw [hl, hk, List.map_append, ← h.head]
    have hlt : (keepF P ks j).length < (X.set (keepF P ks j).length (nptr A (ks.getD j 0))).length := by rw [List.length_set, h.len]; omega
    rw [List.take_succ_eq_append_getElem hlt, List.take_set_of_le (Nat.le_refl _), List.getElem_set_self]; rfl
  · rw [List.getElem?_set_ne (by omega)]; exact h.rest q (by omega)
theorem DfW.done {m : Nat} (h : DfW A P base w wr g cap ks ks.length X) (hm : (keepF P ks ks.length).length = m) (hlt : m < ks.length) :
    (∀ i, i < ks.length - m → (wr.cell? ⟨g, m + i, none⟩).isSome = true) ∧ (∀ i, i < ks.length - m → wr.frozen? ⟨g, m + i, none⟩ = false) ∧
      Owns base 113 (wr.setCells g m (List.replicate (ks.length - m) (.pointer none))) (.slice (some ⟨g, 0, none⟩) m cap) ((ks.filter fun k => !P k).map (nptr A)) ∧
      w.grownBy (wr.setCells g m (List.replicate (ks.length - m) (.pointer none))) (some g) := by
  have hall : keepF P ks ks.length = ks.filter fun k => !P k := by unfold keepF; rw [List.take_length]
  have hcell : ∀ i, i < ks.length - m → wr.cell? ⟨g, m + i, none⟩ = some (X.getD (m + i) undef) ∧ wr.frozen? ⟨g, m + i, none⟩ = false := fun i hi => by
    have hl : m + i < X.length := by rw [h.len]; omega
    exact owns_cell h.own (by rw [List.getD_eq_getElem?_getD, List.getElem?_eq_getElem hl]; rfl)
  refine ⟨fun i hi => by rw [(hcell i hi).1]; rfl, fun i hi => (hcell i hi).2, ?_, grown_trans h.up (grown_sets _ _ _)⟩
  refine owns_tails _ _ _ (Nat.le_refl _) ?_
  have := owns_take h.own (m := m) (by omega)
  rw [← hm, h.head] at this
  rw [← hm, ← hall]; exact this
end
theorem Tryz.zeroNd : ∀ w, (zeroValue 113).run Tryz.prog w = .ok (.pointer none) w := fun w => by simp [Tryz.zeroValue113]
theorem owns_cap {base : Nat} {e : TypeId} {w : World} {g n cap : Nat} {xs : List Value} (h : Owns base e w (.slice (some ⟨g, 0, none⟩) n cap) xs) : n ≤ cap := by
  obtain ⟨h1, h2⟩ := h
  rcases h2 with ⟨e1, _⟩ | ⟨g2, cap2, cur, e1, hg, hc, hn, _⟩
  · cases e1
  · injection e1 with a1 a2 a3
    omega
theorem qd_trans {w w' w'' : World} (h : QD w w') (k : QD w' w'') : QD w w'' := by
  obtain ⟨n, rfl⟩ := h
  obtain ⟨m, rfl⟩ := k
  exact (QD.refl w).drewN n |>.drewN m
theorem first_or (p : Nat → Bool) : ∀ n, (∀ j, j < n → p j = false) ∨ ∃ j, j < n ∧ p j = true ∧ ∀ i, i < j → p i = false
  | 0 => .inl fun j hj => absurd hj (Nat.not_lt_zero _)
  | n + 1 => by
    rcases first_or p n with h | ⟨j, h1, h2, h3⟩
    · cases hp : p n
      · exact .inl fun j hj => if e : j = n then by subst e; exact hp else h j (by omega)
      · exact .inr ⟨n, by omega, hp, h⟩
    · exact .inr ⟨j, by omega, h2, h3⟩
set_option maxRecDepth 100000 in
set_option maxHeartbeats 2000000 in
theorem delete_node_t {A : Nat → Nat} {P : Nat → Bool} (g : Nat) (lb : Array Value) (eg : ∀ args w, (callFunc g args).run Tryz.prog w = .ok (.enter g args) w) {base : Nat} {w : World} {bk cap : Nat} {ks : List Nat} (h : Owns base 113 w (.slice (some ⟨bk, 0, none⟩) ks.length cap) (ks.map (nptr A))) (hn : ks.length ≤ 1000000)
    (hp : ∀ k ∈ ks, ∀ W, w.grownBy W (some bk) → Calls Tryz.prog g (#[.pointer (some ⟨A k, 0, none⟩)] ++ lb) W fun e W' => e = .returned (.bool (P k)) ∧ ∃ m, W' = W.drewN m) :
    Calls Tryz.prog 95 #[.slice (some ⟨bk, 0, none⟩) ks.length cap, .func (.func g) #[] lb] w fun e w' => ∃ m, e = .returned (.slice (some ⟨bk, 0, none⟩) m cap) ∧ Owns base 113 w' (.slice (some ⟨bk, 0, none⟩) m cap) ((ks.filter fun k => !P k).map (nptr A)) ∧ w.grownBy w' (some bk) := by
  have HIX := Lib.hid (index_node_t (P := P) g lb eg h hn fun k hk q => (hp k hk (w.drewN q) (grown_up (Up.drewN w q) _)).mono fun _ _ h => ⟨h.1, qd_trans ⟨q, rfl⟩ h.2⟩)
  have HO := Lib.hid h
  have HP := Lib.hid hp
  obtain ⟨cap0, hcap⟩ : ∃ c, c = cap := ⟨_, rfl⟩
  clear h hp
  rcases first_or (fun j => P (ks.getD j 0)) ks.length with hno | ⟨j0, hj0, hP0, hno⟩
  · have hall : ks.filter (fun k => !P k) = ks := by
      rw [List.filter_eq_self]
      intro k hk
      obtain ⟨j, hj, e⟩ := List.getElem_of_mem hk
      have := hno j hj
      rw [show ks.getD j 0 = k by rw [List.getD_eq_getElem?_getD, List.getElem?_eq_getElem hj, e]; rfl] at this
      rw [this]; rfl
    rw [firstIx_none hno] at HIX
    have HA := Lib.hid hall
    clear hno hall hcap
    go_enter Tryz.func95, Tryz.ntmps95
    go_wp2_with fail
    refine HIX.out.mono ?_
    rintro e w1 ⟨rfl, m, rfl⟩
    go_wp2_with fail
    go_ret
    exact ⟨ks.length, rfl, by rw [HA.out]; exact HO.out.same2 fun _ _ => rfl, grown_up (Up.drewN w m) _⟩
  · rw [firstIx_at hj0 hno hP0] at HIX
    have HST := Lib.hid (fun m => (HO.out |> fun h => DfW.start h hj0 hno hP0 m))
    have hjn : (j0 : Int) < (ks.length : Int) := by omega
    have HJ0 := Lib.hid hj0
    have e1 : ((j0 : Int) == -1) = false := beq_eq_false_iff_ne.2 (by omega)
    clear hno hP0 hj0 hcap
    go_enter Tryz.func95, Tryz.ntmps95
    go_wp2_with fail
    refine HIX.out.mono ?_
    rintro e w1 ⟨rfl, m1, rfl⟩
    obtain ⟨hS1, hS2⟩ := HST.out m1
    have HS1 := Lib.hid hS1
    have HS2 := Lib.hid hS2
    clear hS1 hS2 HST
    go_wp2_with fail
    go_loopw [5, 6, 7] (fun x y _ wr => ∃ j : Nat, j0 < j ∧ j ≤ ks.length ∧ y = .int .i64 j ∧ x = .int .i64 ((keepF P ks j).length : Nat) ∧ Hid (∃ X, DfW A P base w wr bk cap ks j X) ∧ Hid ((keepF P ks j).length < j)) (fun _ y _ _ => ks.length - (intOf y).toNat)
    case atStart => exact ⟨j0 + 1, by omega, HJ0.out, by go_num, by rw [HS2.out], ⟨_, HS1.out⟩, by unfold Hid; rw [HS2.out]; omega⟩
    case round =>
      obtain ⟨j, hj1, hj, rfl, rfl, hX, hK⟩ := hrel
      obtain ⟨wo, rfl⟩ : ∃ wo : World, wo = wr := ⟨_, rfl⟩
      obtain ⟨X, hX⟩ := hX.out
      by_cases hlt : j < ks.length
      · have hx := hX.at hlt
        have i1 : (0 : Int) ≤ (j : Int) := by omega
        have i2 : (j : Int) < (ks.length : Int) := by omega
        have hmem : ks.getD j 0 ∈ ks := by
          rw [List.getD_eq_getElem?_getD, List.getElem?_eq_getElem hlt]; exact List.getElem_mem hlt
        have HPK := Lib.hid (HP.out _ hmem wo hX.up)
        have HLT := Lib.hid hlt
        have HXX := Lib.hid hX
        have HJ1 := Lib.hid hj1
        have n1 : (0 : Int) ≤ ((keepF P ks j).length : Int) := by omega
        have n2 : ((keepF P ks j).length : Int) < (ks.length : Int) := by have := hK.out; omega
        have HSK : Hid (P (ks.getD j 0) = true → (keepF P ks (j + 1)).length = (keepF P ks j).length) := fun hv => by rw [keepF_succ P hlt, if_pos hv]
        clear hmem hX
        cases hv : P (ks.getD j 0)
        · rw [hv] at HPK
          have HPU := Lib.hid (fun m => (HXX.out.up_drew m).push hlt hv)
          clear hv HSK
          generalize ks.getD j 0 = c at *
          go_wp2_with fail
          refine HPK.out.mono ?_
          rintro e w2 ⟨rfl, m, rfl⟩
          obtain ⟨⟨cx, hcx⟩, hff, hl, X', hX'⟩ := HPU.out m
          have HX' := Lib.hid hX'
          have HL := Lib.hid hl
          clear hX' hl
          go_wp2_with fail
          go_roundw
          case rel => exact ⟨j + 1, by have := HJ1.out; omega, HLT.out, by go_num, by rw [HL.out]; go_num, ⟨X', HX'.out⟩, by unfold Hid; have := hK.out; rw [HL.out]; omega⟩
          case measure => have := HLT.out; simp [intOf]; omega
        · rw [hv] at HPK
          have HN := Lib.hid (fun m => HXX.out.skip hlt hv m)
          have HL := Lib.hid (HSK.out hv)
          clear hv HSK
          generalize ks.getD j 0 = c at *
          go_wp2_with fail
          refine HPK.out.mono ?_
          rintro e w2 ⟨rfl, m, rfl⟩
          go_wp2_with fail
          go_roundw
          case rel => exact ⟨j + 1, by have := HJ1.out; omega, HLT.out, by go_num, by rw [HL.out], ⟨X, HN.out m⟩, by unfold Hid; have := hK.out; rw [HL.out]; omega⟩
          case measure => have := HLT.out; simp [intOf]; omega
      · obtain rfl : j = ks.length := by omega
        obtain ⟨mm, hmm⟩ : ∃ mm, (keepF P ks ks.length).length = mm := ⟨_, rfl⟩
        have hml : mm < ks.length := by rw [← hmm]; exact hK.out
        obtain ⟨hc, hf, ho, hg⟩ := hX.done hmm hml
        have HO2 := Lib.hid ho
        have HG2 := Lib.hid hg
        have hcl := Lib.run_clear_slice (P := Tryz.prog) wo 111 113 0 (.pointer none) Tryz.underlying111 Tryz.zeroNd rfl rfl bk mm (ks.length - mm) (cap - mm) (by omega) hc hf
        rw [hmm]
        have n1 : (0 : Int) ≤ (mm : Int) := by omega
        have n2 : (mm : Int) ≤ (ks.length : Int) := by omega
        have n3 : (mm : Int) < (ks.length : Int) := by omega
        clear hc hf ho hg hlt hj hX hK hmm
        have c1 : ks.length ≤ cap := owns_cap HO.out
        have c2 : mm ≤ cap := by omega
        have c3 : (mm : Int) ≤ (cap : Int) := by omega
        go_wp2_with fail
        go_ret
        exact ⟨mm, rfl, HO2.out, HG2.out⟩
end Go.Proofs.YtpjijbophjdgaaaGreat
