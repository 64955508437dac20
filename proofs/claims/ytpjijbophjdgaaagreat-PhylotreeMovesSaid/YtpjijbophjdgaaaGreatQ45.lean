/- What the reference's Reroot and Restrict make: plain, against the program's. -/
import Derived.Test.YtpjijbophjdgaaaGreatQ37
import Derived.Test.YtpjijbophjdgaaaGreatQ33
import Derived.Test.YtpjijbophjdgaaaGreatQ38
import Derived.Test.YtpjijbophjdgaaaGreatQ44
import Derived.Test.YtpjijbophjdgaaaGreatQ29
namespace Go.Proofs.YtpjijbophjdgaaaGreat
def leafOf (nm : ByteArray) : RT := .node nm []
def packR (ks : List RT) : Option RT := if ks.length = 0 then none else some (.node ByteArray.empty ks)
def awR (t : Tre) : Nat → Nat → Nat → Option RT
  | 0, _, _ => none
  | d + 1, n, f => packR (((kidsL t.ps n).filter fun k => k != f).map (toRF (frT t) (rkT t)) ++ if gi t.ps n < 0 then [] else (awR t d (gi t.ps n).toNat n).toList)
def urR (t : Tre) (leaf : Nat) : RT :=
  match (if leaf = 0 then none else awR t t.ps.length (gi t.ps leaf).toNat leaf) with
  | none => leafOf (gs t.ns leaf)
  | some r => .node ByteArray.empty [leafOf (gs t.ns leaf), r]
section
variable {t : Tre} {leaf : Nat}
theorem rr_kids_off (_h : LeafOk t leaf) {z : Nat} (hz : z < t.ps.length) (ho : onP t leaf z = false ∨ z = leaf) : (rrF t leaf).kids z = kidsL t.ps z := by
  show rrQ t leaf z = _
  unfold rrQ
  rw [if_neg (by omega), if_neg]
  rintro ⟨h1, h2⟩
  rcases ho with e | e
  · rw [e] at h1; cases h1
  · exact h2 e
theorem rr_kid_off (h : LeafOk t leaf) {z c : Nat} (ho : onP t leaf z = false ∨ z = leaf) (hc : c ∈ kidsL t.ps z) : onP t leaf c = false := by
  obtain ⟨h1, h2, h3⟩ := mem_kidsL.1 hc
  cases e : onP t leaf c with
  | false => rfl
  | true =>
    have := h.on_par e (by omega) h3
    rcases ho with e2 | e2
    · rw [e2] at this; cases this
    · rw [e2, h.nokid] at hc; cases hc
theorem rr_nm {z : Nat} (hz : z < t.ps.length) : (rrF t leaf).nm z = gs t.ns z := upd_ne _ _ (by omega)
theorem rr_sub_kids (h : LeafOk t leaf) {z : Nat} (hz : z < t.ps.length + 1) : ((rrF t leaf).sub (rkR t leaf) (prQ (rrF t leaf) (rrP t leaf) (rkR t leaf)) t.ps.length).kids z = ((rrF t leaf).kids z).filter (al (rrF t leaf) (rrP t leaf) (rkR t leaf)) := pr_kids (rr_all h z hz)
theorem off_al (h : LeafOk t leaf) : ∀ (d z : Nat), t.ps.length - z ≤ d → z < t.ps.length → (onP t leaf z = false ∨ z = leaf) →
    al (rrF t leaf) (rrP t leaf) (rkR t leaf) z = true ∧ toRF ((rrF t leaf).sub (rkR t leaf) (prQ (rrF t leaf) (rrP t leaf) (rkR t leaf)) t.ps.length) (rkR t leaf) z = toRF (frT t) (rkT t) z
  | d, z, hd, hz, ho => by
    have hw := (rr_arb h).wf
    have hkz := rr_kids_off h hz ho
    have ih : ∀ c ∈ kidsL t.ps z, al (rrF t leaf) (rrP t leaf) (rkR t leaf) c = true ∧ toRF ((rrF t leaf).sub (rkR t leaf) (prQ (rrF t leaf) (rrP t leaf) (rkR t leaf)) t.ps.length) (rkR t leaf) c = toRF (frT t) (rkT t) c := fun c hc => by
      obtain ⟨h1, h2, _⟩ := mem_kidsL.1 hc
      cases d with
      | zero => omega
      | succ d => exact off_al h d c (by omega) h1 (.inl (rr_kid_off h ho hc))
    have hal : al (rrF t leaf) (rrP t leaf) (rkR t leaf) z = true := by
      rw [al_eq hw (by omega), hkz]
      split
      · rename_i e
        refine decide_eq_true ?_
        rw [rr_nm hz]
        exact named_size (tleaf_named h.te hz e)
      · rename_i e
        obtain ⟨c, hc⟩ := List.exists_mem_of_ne_nil _ e
        exact List.any_eq_true.2 ⟨c, hc, (ih c hc).1⟩
    refine ⟨hal, ?_⟩
    rw [toRF_eq (pr_wf hw _) (by omega), rr_sub_kids h (by omega), hkz, toRF_eq (frT_arb h.te).wf hz, frT_kids, List.filter_eq_self.2 fun c hc => (ih c hc).1]
    have e1 : ((rrF t leaf).sub (rkR t leaf) (prQ (rrF t leaf) (rrP t leaf) (rkR t leaf)) t.ps.length).nm z = (frT t).nm z := rr_nm (leaf := leaf) hz
    rw [e1, List.map_congr_left fun c hc => (ih c hc).2]
theorem on_al (h : LeafOk t leaf) : ∀ (z d c : Nat), z < d → z < t.ps.length → c < t.ps.length → z < c → gi t.ps c = (z : Int) → onP t leaf c = true →
    awR t d z c = if al (rrF t leaf) (rrP t leaf) (rkR t leaf) z then some (toRF ((rrF t leaf).sub (rkR t leaf) (prQ (rrF t leaf) (rrP t leaf) (rkR t leaf)) t.ps.length) (rkR t leaf) z) else none := by
  intro z
  induction z using Nat.strongRecOn with
  | ind z ih =>
    intro d c hd hz hc hzc hpc hoc
    have hw := (rr_arb h).wf
    have hoz : onP t leaf z = true := h.on_par hoc (by omega) hpc
    have hzl : z ≠ leaf := fun e => by have := h.on_le hoc; omega
    have hnm : (gs t.ns z).size = 0 := inner_empty h.te hc hzc hpc
    cases d with
    | zero => omega
    | succ d =>
      rw [awR]
      have hfil : (kidsL t.ps z).filter (fun k => k != c) = (kidsL t.ps z).filter (fun k => !onP t leaf k) := List.filter_congr fun k hk => by
        obtain ⟨h1, h2, h3⟩ := mem_kidsL.1 hk
        by_cases e : k = c
        · subst e; rw [hoc]; simp
        · have : onP t leaf k = false := by
            cases e2 : onP t leaf k with
            | false => rfl
            | true => exact absurd (h.on_one e2 hoc h2 hzc h3 hpc) e
          rw [this]; simpa using e
      have hoff : ∀ k ∈ (kidsL t.ps z).filter (fun k => !onP t leaf k), al (rrF t leaf) (rrP t leaf) (rkR t leaf) k = true ∧ toRF ((rrF t leaf).sub (rkR t leaf) (prQ (rrF t leaf) (rrP t leaf) (rkR t leaf)) t.ps.length) (rkR t leaf) k = toRF (frT t) (rkT t) k := fun k hk => by
        obtain ⟨h1, h2⟩ := List.mem_filter.1 hk
        exact off_al h _ k (Nat.le_refl _) (mem_kidsL.1 h1).1 (.inl (by simpa using h2))
      have hkz : (rrF t leaf).kids z = (kidsL t.ps z).filter (fun k => !onP t leaf k) ++ (if z = 0 then [] else [(gi t.ps z).toNat]) := by
        show rrQ t leaf z = _
        unfold rrQ
        rw [if_neg (by omega), if_pos ⟨hoz, hzl⟩]
      have hup : (if gi t.ps z < 0 then [] else (awR t d (gi t.ps z).toNat z).toList) = ((if z = 0 then [] else [(gi t.ps z).toNat]).filter (al (rrF t leaf) (rrP t leaf) (rkR t leaf))).map (toRF ((rrF t leaf).sub (rkR t leaf) (prQ (rrF t leaf) (rrP t leaf) (rkR t leaf)) t.ps.length) (rkR t leaf)) := by
        by_cases e0 : z = 0
        · subst e0
          rw [if_pos (by rw [pOkB_zero h.ok hz]; decide), if_pos rfl]; rfl
        · obtain ⟨q, q1, q2⟩ := h.par hz e0
          rw [if_neg (by omega), if_neg e0, q1, Int.toNat_natCast, ih q q2 d z (by omega) (by omega) hz q2 q1 hoz, List.filter_cons]
          by_cases ea : al (rrF t leaf) (rrP t leaf) (rkR t leaf) q = true
          · rw [if_pos ea, if_pos ea]; rfl
          · rw [if_neg ea, if_neg ea]; rfl
      have hks : ((kidsL t.ps z).filter fun k => k != c).map (toRF (frT t) (rkT t)) ++ (if gi t.ps z < 0 then [] else (awR t d (gi t.ps z).toNat z).toList) = (((rrF t leaf).kids z).filter (al (rrF t leaf) (rrP t leaf) (rkR t leaf))).map (toRF ((rrF t leaf).sub (rkR t leaf) (prQ (rrF t leaf) (rrP t leaf) (rkR t leaf)) t.ps.length) (rkR t leaf)) := by
        rw [hup, hkz, List.filter_append, List.map_append, hfil, List.filter_eq_self.2 fun k hk => (hoff k hk).1, List.map_congr_left fun k hk => ((hoff k hk).2).symm]
      rw [hks]
      unfold packR
      rw [List.length_map]
      have ha : al (rrF t leaf) (rrP t leaf) (rkR t leaf) z = true ↔ (((rrF t leaf).kids z).filter (al (rrF t leaf) (rrP t leaf) (rkR t leaf))).length ≠ 0 := by
        rw [al_eq hw (by omega)]
        split
        · rename_i e
          rw [e]
          have hP : rrP t leaf z = false := by
            unfold rrP
            rw [rr_nm hz, hnm]; rfl
          rw [hP]; simp
        · rw [List.any_eq_true]
          constructor
          · rintro ⟨k, h1, h2⟩ e
            have := List.eq_nil_of_length_eq_zero e
            have hm : k ∈ ((rrF t leaf).kids z).filter (al (rrF t leaf) (rrP t leaf) (rkR t leaf)) := List.mem_filter.2 ⟨h1, h2⟩
            rw [this] at hm; cases hm
          · intro e
            obtain ⟨k, hk⟩ := List.exists_mem_of_length_pos (Nat.pos_of_ne_zero e)
            exact ⟨k, (List.mem_filter.1 hk).1, (List.mem_filter.1 hk).2⟩
      by_cases e : (((rrF t leaf).kids z).filter (al (rrF t leaf) (rrP t leaf) (rkR t leaf))).length = 0
      · rw [if_pos e, if_neg (fun q => ha.1 q e)]
      · rw [if_neg e, if_pos (ha.2 e), toRF_eq (pr_wf hw _) (by omega), rr_sub_kids h (by omega)]
        have e1 : ((rrF t leaf).sub (rkR t leaf) (prQ (rrF t leaf) (rrP t leaf) (rkR t leaf)) t.ps.length).nm z = ByteArray.empty := (rr_nm (leaf := leaf) hz).trans (size0_eq hnm rfl)
        rw [e1]
theorem urR_contr (h : LeafOk t leaf) : contrR (rrR t leaf) = contrR (urR t leaf) := by
  have hw := (rr_arb h).wf
  have hn : t.ps.length < t.ps.length + 1 := Nat.lt_succ_self _
  have hlf := off_al h _ leaf (Nat.le_refl _) h.lt (.inr rfl)
  have hll : toRF (frT t) (rkT t) leaf = leafOf (gs t.ns leaf) := by
    rw [toRF_eq (frT_arb h.te).wf h.lt, frT_kids, h.nokid]; rfl
  have hkn : (rrF t leaf).kids t.ps.length = leaf :: (if leaf = 0 then [] else [(gi t.ps leaf).toNat]) := by
    show rrQ t leaf _ = _
    unfold rrQ
    rw [if_pos rfl]
  have hnm : ((rrF t leaf).sub (rkR t leaf) (prQ (rrF t leaf) (rrP t leaf) (rkR t leaf)) t.ps.length).nm t.ps.length = ByteArray.empty := upd_same _ _ _
  unfold rrR
  rw [toRF_eq (pr_wf hw _) hn, rr_sub_kids h hn, hkn, hnm, List.filter_cons_of_pos hlf.1, List.map_cons, hlf.2, hll]
  unfold urR
  by_cases h0 : leaf = 0
  · rw [if_pos h0, if_pos h0]
    exact contr_one _ _
  · obtain ⟨q, q1, q2⟩ := h.par h.lt h0
    have hq := on_al h q t.ps.length leaf (by have := h.lt; omega) (by have := h.lt; omega) h.lt q2 q1 h.on_self
    rw [if_neg h0, if_neg h0, q1, Int.toNat_natCast, hq, List.filter_cons]
    by_cases ea : al (rrF t leaf) (rrP t leaf) (rkR t leaf) q = true
    · rw [if_pos ea, if_pos ea]; rfl
    · rw [if_neg ea, if_neg ea]
      exact contr_one _ _
theorem urR_eq (h : LeafOk t leaf) : rrR t leaf = urR t leaf ∨ urR t leaf = leafOf (gs t.ns leaf) := by
  have hw := (rr_arb h).wf
  have hn : t.ps.length < t.ps.length + 1 := Nat.lt_succ_self _
  have hlf := off_al h _ leaf (Nat.le_refl _) h.lt (.inr rfl)
  have hll : toRF (frT t) (rkT t) leaf = leafOf (gs t.ns leaf) := by
    rw [toRF_eq (frT_arb h.te).wf h.lt, frT_kids, h.nokid]; rfl
  have hkn : (rrF t leaf).kids t.ps.length = leaf :: (if leaf = 0 then [] else [(gi t.ps leaf).toNat]) := by
    show rrQ t leaf _ = _
    unfold rrQ
    rw [if_pos rfl]
  have hnm : ((rrF t leaf).sub (rkR t leaf) (prQ (rrF t leaf) (rrP t leaf) (rkR t leaf)) t.ps.length).nm t.ps.length = ByteArray.empty := upd_same _ _ _
  by_cases h0 : leaf = 0
  · right
    unfold urR
    rw [if_pos h0]
  · obtain ⟨q, q1, q2⟩ := h.par h.lt h0
    have hq := on_al h q t.ps.length leaf (by have := h.lt; omega) (by have := h.lt; omega) h.lt q2 q1 h.on_self
    by_cases ea : al (rrF t leaf) (rrP t leaf) (rkR t leaf) q = true
    · left
      unfold rrR
      rw [toRF_eq (pr_wf hw _) hn, rr_sub_kids h hn, hkn, hnm, List.filter_cons_of_pos hlf.1, List.map_cons, hlf.2, hll]
      unfold urR
      rw [if_neg h0, if_neg h0, q1, Int.toNat_natCast, hq, List.filter_cons, if_pos ea, if_pos ea]; rfl
    · right
      unfold urR
      rw [if_neg h0, q1, Int.toNat_natCast, hq, if_neg ea]
theorem urR_size (h : LeafOk t leaf) : sizeR (urR t leaf) ≤ 1000 := by
  rcases urR_eq h with e | e
  · rw [← e]; have := (rr_facts h).2.2; omega
  · rw [e, leafOf, sizeR, sizeRs]; omega
theorem urR_tree (h : LeafOk t leaf) : flat (ordR (contrR (urR t leaf))) = flat (sortR (contrR (rrR t leaf))) := by
  rw [← urR_contr h, ord_sort _ (good_dst (oku_contr (rr_facts h).2.1).good)]
end
mutual
def wiR (P : ByteArray → Bool) : RT → Option RT
  | .node nm [] => if P nm then some (leafOf nm) else none
  | .node _ (k :: ks) => packR ((wiR P k).toList ++ wiRs P ks)
def wiRs (P : ByteArray → Bool) : List RT → List RT
  | [] => []
  | r :: rs => (wiR P r).toList ++ wiRs P rs
end
theorem wiR_node {P : ByteArray → Bool} (nm : ByteArray) {ks : List RT} (h : ks ≠ []) : wiR P (.node nm ks) = packR (wiRs P ks) := by
  cases ks with
  | nil => exact absurd rfl h
  | cons k ks => rw [wiR, wiRs]
theorem wiRs_app (P : ByteArray → Bool) : ∀ a b : List RT, wiRs P (a ++ b) = wiRs P a ++ wiRs P b
  | [], _ => by rw [wiRs]; rfl
  | r :: a, b => by rw [List.cons_append, wiRs, wiRs, wiRs_app P a b, List.append_assoc]
section
variable {t : Tre} {L : List Int}
def rsN (t : Tre) (L : List Int) (nm : ByteArray) : Bool := L.any fun x => decide (gs t.ns x.toNat = nm)
theorem wi_map {P : ByteArray → Bool} {f g : Nat → RT} {a : Nat → Bool} : ∀ {l : List Nat}, (∀ k ∈ l, wiR P (f k) = if a k = true then some (g k) else none) → wiRs P (l.map f) = (l.filter a).map g
  | [], _ => by rw [List.map_nil, wiRs]; rfl
  | k :: l, h => by
    rw [List.map_cons, wiRs, h k (by simp), wi_map fun q hq => h q (by simp [hq]), List.filter_cons]
    by_cases e : a k = true
    · rw [if_pos e, if_pos e]; rfl
    · rw [if_neg e, if_neg e]; rfl
theorem wi_al (h : rsErr t L = 0) : ∀ (d z : Nat), t.ps.length - z ≤ d → z < t.ps.length →
    wiR (rsN t L) (toRF (frT t) (rkT t) z) = if al (frT t) (rsP L) (rkT t) z = true then some (toRF ((frT t).sub (rkT t) (prQ (frT t) (rsP L) (rkT t)) 0) (rkT t) z) else none
  | d, z, hd, hz => by
    obtain ⟨hte, hl0, hL⟩ := rsErr_zero h
    have hA := frT_arb hte
    have hw := hA.wf
    have hsk : ((frT t).sub (rkT t) (prQ (frT t) (rsP L) (rkT t)) 0).kids z = (kidsL t.ps z).filter (al (frT t) (rsP L) (rkT t)) := pr_kids (all_below hte z z (Nat.le_refl _) hz)
    have hnmz : ((frT t).sub (rkT t) (prQ (frT t) (rsP L) (rkT t)) 0).nm z = gs t.ns z := rfl
    rw [toRF_eq hw hz, toRF_eq (pr_wf hw 0) hz, hsk, hnmz, al_eq hw hz, frT_kids]
    by_cases hk : kidsL t.ps z = []
    · rw [hk, if_pos rfl]
      show wiR _ (.node (gs t.ns z) []) = if rsP L z = true then some (.node (gs t.ns z) []) else none
      rw [wiR]
      have e : rsN t L (gs t.ns z) = rsP L z := by
        unfold rsN rsP
        rw [Bool.eq_iff_iff, List.any_eq_true, decide_eq_true_eq]
        constructor
        · rintro ⟨x, hx, e⟩
          obtain ⟨k, hk2, rfl⟩ := in_gi hx
          obtain ⟨a1, a2, a3⟩ := hL k hk2
          have e := of_decide_eq_true e
          have hxk : (frT t).kids (gi L k).toNat = [] := by
            rw [frT_kids]
            cases hq : kidsL t.ps (gi L k).toNat with
            | nil => rfl
            | cons c cs =>
              obtain ⟨b1, b2, b3⟩ := mem_kidsL.1 (show c ∈ kidsL t.ps (gi L k).toNat by rw [hq]; simp)
              exact absurd (inner_empty hte b1 b2 b3) a3
          have := hA.names (gi L k).toNat z (by omega) hz hxk (by rw [frT_kids]; exact hk) e
          rw [← this, Int.toNat_of_nonneg a1]; exact gi_mem hk2
        · intro hx
          exact ⟨(z : Int), hx, by rw [Int.toNat_natCast]; exact decide_eq_true rfl⟩
      rw [e]; rfl
    · rw [if_neg hk, wiR_node _ (by simpa using hk), wi_map fun k hk2 => by
        obtain ⟨h1, h2, _⟩ := mem_kidsL.1 hk2
        cases d with
        | zero => omega
        | succ d => exact wi_al h d k (by omega) h1]
      unfold packR
      rw [List.length_map]
      obtain ⟨c, hc⟩ := List.exists_mem_of_ne_nil _ hk
      obtain ⟨c1, c2, c3⟩ := mem_kidsL.1 hc
      have hnm : gs t.ns z = ByteArray.empty := size0_eq (inner_empty hte c1 c2 c3) rfl
      by_cases e : ((kidsL t.ps z).filter (al (frT t) (rsP L) (rkT t))).length = 0
      · rw [if_pos e, if_neg]
        intro q
        obtain ⟨k, h1, h2⟩ := List.any_eq_true.1 q
        have hm : k ∈ (kidsL t.ps z).filter (al (frT t) (rsP L) (rkT t)) := List.mem_filter.2 ⟨h1, h2⟩
        rw [List.eq_nil_of_length_eq_zero e] at hm; cases hm
      · rw [if_neg e, if_pos, hnm]
        obtain ⟨k, hk2⟩ := List.exists_mem_of_length_pos (Nat.pos_of_ne_zero e)
        exact List.any_eq_true.2 ⟨k, (List.mem_filter.1 hk2).1, (List.mem_filter.1 hk2).2⟩
theorem wi_rsR (h : rsErr t L = 0) : wiR (rsN t L) (toR t) = some (rsR t L) := by
  have hp := (treeErr_zero (rsErr_zero h).1).1
  have := wi_al h _ 0 (Nat.le_refl _) hp
  rw [if_pos (rs_facts h).1] at this
  exact this
theorem rs_tree (h : rsErr t L = 0) : flat (ordR (contrR (rsR t L))) = rsT t L := by
  unfold rsT
  rw [if_neg (by simp [h]), ord_sort _ (good_dst (oku_contr (rs_facts h).2.1).good)]
end
end Go.Proofs.YtpjijbophjdgaaaGreat
