/- The turned forest: what the loop gives; what pruned leaves of it. Plain. The walk of phylotree.Reroot. The turns of Reroot in memory. -/
import Derived.Test.YtpjijbophjdgaaaGreatQ44
import Derived.Test.YtpjijbophjdgaaaGreatQ40
import Derived.Test.YtpjijbophjdgaaaGreatQ32
namespace Go.Proofs.YtpjijbophjdgaaaGreat
def rrI (t : Tre) (leaf f z : Nat) : List Nat :=
  if z = t.ps.length then leaf :: (if f = leaf then [] else [(gi t.ps leaf).toNat])
  else if onP t leaf z = true ∧ z ≠ leaf ∧ f ≤ z then (kidsL t.ps z).filter (fun k => !onP t leaf k) ++ (if z = f then [] else [(gi t.ps z).toNat])
  else kidsL t.ps z
theorem rrI_top {t : Tre} {leaf f z : Nat} (e : z = t.ps.length) : rrI t leaf f z = leaf :: (if f = leaf then [] else [(gi t.ps leaf).toNat]) := if_pos e
theorem rrI_way {t : Tre} {leaf f z : Nat} (e : z ≠ t.ps.length) (h : onP t leaf z = true ∧ z ≠ leaf ∧ f ≤ z) : rrI t leaf f z = (kidsL t.ps z).filter (fun k => !onP t leaf k) ++ (if z = f then [] else [(gi t.ps z).toNat]) := (if_neg e).trans (if_pos h)
theorem rrI_off {t : Tre} {leaf f z : Nat} (e : z ≠ t.ps.length) (h : ¬ (onP t leaf z = true ∧ z ≠ leaf ∧ f ≤ z)) : rrI t leaf f z = kidsL t.ps z := (if_neg e).trans (if_neg h)
structure RrJ (t : Tre) (leaf : Nat) (K : RrS) : Prop where
  on : onP t leaf K.frm = true
  cur : K.cur = gi t.ps K.frm
  hang : K.hang = if K.frm = leaf then t.ps.length else K.frm
  nm : K.fr.nm = (rrF t leaf).nm
  old : K.fr.old = (rrF t leaf).old
  kids : ∀ z, z < t.ps.length + 1 → K.fr.kids z = rrI t leaf K.frm z
section
variable {t : Tre} {leaf : Nat}
theorem rr_start (h : LeafOk t leaf) : RrJ t leaf (rrK t leaf 0) := by
  refine ⟨h.on_self, rfl, (if_pos rfl).symm, rfl, rfl, fun z hz => ?_⟩
  show upd (frT t).kids t.ps.length [leaf] z = rrI t leaf leaf z
  by_cases e : z = t.ps.length
  · rw [rrI_top e, if_pos rfl, e, upd_same]
  · rw [upd_ne _ _ e, rrI_off e]
    · rfl
    · rintro ⟨h1, h2, h3⟩
      have := h.on_le h1; omega
theorem rr_step (h : LeafOk t leaf) {K : RrS} (hK : RrJ t leaf K) (hc : ¬ K.cur < 0) : RrJ t leaf ⟨rrS K.fr K.hang K.frm K.cur.toNat, K.cur.toNat, K.cur.toNat, gi t.ps K.cur.toNat⟩ := by
  obtain ⟨F, hang, f, cur⟩ := K
  obtain ⟨hon, hcur, hhang, hnm, hold, hkids⟩ := hK
  simp only at hon hcur hhang hnm hold hkids hc ⊢
  have hfl := h.on_le hon
  have hln := h.lt
  have hf0 : f ≠ 0 := fun e => by
    have := pOkB_at h.ok h.pos
    unfold okp at this
    rw [if_pos rfl, beq_iff_eq] at this
    rw [hcur, e, this] at hc; omega
  obtain ⟨x, hx, hxf⟩ := h.par (z := f) (Nat.lt_of_le_of_lt hfl hln) hf0
  have hxc : cur.toNat = x := by rw [hcur, hx]; rfl
  rw [hxc]
  have hxon := h.on_par hon hf0 hx
  have hfilt : (kidsL t.ps x).filter (fun k => !decide ((rrF t leaf).old k = (f : Int))) = (kidsL t.ps x).filter (fun k => !onP t leaf k) := by
    refine List.filter_congr fun k hk => ?_
    obtain ⟨h1, h2, h3⟩ := mem_kidsL.1 hk
    have : (rrF t leaf).old k = (k : Int) := upd_ne _ _ (by omega)
    rw [this]
    congr 1
    rw [Bool.eq_iff_iff, decide_eq_true_eq]
    constructor
    · intro e
      have : k = f := by omega
      subst this; exact hon
    · intro e
      have := h.on_one e hon h2 hxf h3 hx
      omega
  refine ⟨hxon, rfl, ?_, hnm, hold, fun z hz => ?_⟩
  · exact (if_neg (show ¬ x = leaf by omega)).symm
  · show upd (upd F.kids x ((F.kids x).filter fun k => !decide (F.old k = (f : Int)))) hang (upd F.kids x ((F.kids x).filter fun k => !decide (F.old k = (f : Int))) hang ++ [x]) z = rrI t leaf x z
    have hFx : F.kids x = kidsL t.ps x := by
      rw [hkids x (by omega)]
      exact rrI_off (by omega) (by omega)
    rw [hFx, hold, hfilt]
    by_cases hzh : z = hang
    · by_cases hfe : f = leaf
      · rw [if_pos hfe] at hhang
        have hzn : z = t.ps.length := hzh.trans hhang
        rw [hzh, upd_same, ← hzh, upd_ne _ _ (by omega), hkids z hz, rrI_top hzn, rrI_top hzn, if_pos hfe, if_neg (by omega), ← hfe, hx]; rfl
      · rw [if_neg hfe] at hhang
        have hzf : z = f := hzh.trans hhang
        rw [hzh, upd_same, ← hzh, upd_ne _ _ (by omega), hkids z hz, hzf, rrI_way (by omega) ⟨hon, hfe, Nat.le_refl _⟩, rrI_way (by omega) ⟨hon, hfe, Nat.le_of_lt hxf⟩, if_pos rfl, if_neg (by omega), hx, List.append_nil]; rfl
    · rw [upd_ne _ _ hzh]
      by_cases hzx : z = x
      · rw [hzx, upd_same, rrI_way (by omega) ⟨hxon, by omega, Nat.le_refl _⟩, if_pos rfl, List.append_nil]
      · rw [upd_ne _ _ hzx, hkids z hz]
        by_cases hzn : z = t.ps.length
        · have : f ≠ leaf := fun e => by rw [if_pos e] at hhang; omega
          rw [rrI_top hzn, rrI_top hzn, if_neg this, if_neg (by omega)]
        · have hzf : z ≠ f ∨ z = leaf := by
            by_cases e : f = leaf
            · by_cases e2 : z = leaf
              · exact .inr e2
              · exact .inl (by omega)
            · rw [if_neg e] at hhang; exact .inl (by omega)
          by_cases hcnd : onP t leaf z = true ∧ z ≠ leaf
          · have hzf : z ≠ f := by
              rcases hzf with e | e
              · exact e
              · exact absurd e hcnd.2
            by_cases hle : f ≤ z
            · rw [rrI_way hzn ⟨hcnd.1, hcnd.2, hle⟩, rrI_way hzn ⟨hcnd.1, hcnd.2, by omega⟩, if_neg hzf, if_neg hzx]
            · have := h.on_chain hcnd.1 hon (by omega) hx
              rw [rrI_off hzn (by omega), rrI_off hzn (by omega)]
          · rw [rrI_off hzn (fun c => hcnd ⟨c.1, c.2.1⟩), rrI_off hzn (fun c => hcnd ⟨c.1, c.2.1⟩)]
theorem rr_all_steps (h : LeafOk t leaf) : ∀ i, RrJ t leaf (rrK t leaf i)
  | 0 => rr_start h
  | i + 1 => by
    have ih := rr_all_steps h i
    by_cases hc : (rrK t leaf i).cur < 0
    · rw [rrK, if_pos hc]; exact ih
    · rw [rrK_go hc]; exact rr_step h ih hc
theorem rr_end (h : LeafOk t leaf) {i : Nat} (hc : (rrK t leaf i).cur < 0) : ∀ z, z < t.ps.length + 1 → (rrF t leaf).nm z = (rrK t leaf i).fr.nm z ∧ (rrF t leaf).old z = (rrK t leaf i).fr.old z ∧ (rrF t leaf).kids z = (rrK t leaf i).fr.kids z := fun z hz => by
  have hK := rr_all_steps h i
  have hf : (rrK t leaf i).frm = 0 := by
    by_cases e : (rrK t leaf i).frm = 0
    · exact e
    · obtain ⟨q, h1, _⟩ := h.par (z := (rrK t leaf i).frm) (Nat.lt_of_le_of_lt (h.on_le hK.on) h.lt) e
      rw [hK.cur, h1] at hc; omega
  refine ⟨by rw [hK.nm], by rw [hK.old], ?_⟩
  rw [hK.kids z hz, hf]
  show rrQ t leaf z = _
  unfold rrQ
  by_cases hzn : z = t.ps.length
  · rw [rrI_top hzn, if_pos hzn]
    congr 1
    by_cases e : leaf = 0
    · rw [if_pos e, if_pos e.symm]
    · rw [if_neg e, if_neg (fun c => e c.symm)]
  · rw [if_neg hzn]
    by_cases hcnd : onP t leaf z = true ∧ z ≠ leaf
    · rw [rrI_way hzn ⟨hcnd.1, hcnd.2, Nat.zero_le _⟩, if_pos hcnd]
    · rw [rrI_off hzn (fun c => hcnd ⟨c.1, c.2.1⟩), if_neg hcnd]
end
section
variable {F : Frs} {n : Nat} {rk : Nat → Nat} {P : Nat → Bool}
structure PrOk (F : Frs) (n : Nat) (rk : Nat → Nat) (P : Nat → Bool) : Prop where
  inn : ∀ z, z < n → F.kids z ≠ [] → (F.nm z).size = 0
  lf : ∀ z, z < n → F.kids z = [] → P z = true → namedB (F.nm z).data.toList = true
theorem pr_part2 (h : Wf F n rk) {i : Nat} (hi : i < n) (hg : PrOk F n rk P) (ha : al F P rk i = true) {s : RT} (hs : s ∈ subR (toRF (F.sub rk (prQ F P rk) i) rk i)) :
    (s.kids ≠ [] → s.nm.size = 0) ∧ (s.kids = [] → namedB s.nm.data.toList = true) := by
  have hw := pr_wf (P := P) h i
  rw [subR_toRF hw hi (Nat.le_refl _)] at hs
  obtain ⟨z, hz, rfl⟩ := List.mem_map.1 hs
  have hsz := (mem_nodesF hw hi (Nat.le_refl _)).1 hz
  have hzn := subF_lt hw hi (Nat.le_refl _) hsz
  have hs2 := pr_below h i _ i z (Nat.le_refl _) hi hsz
  have hza := pr_alive h hi _ i z (Nat.le_refl _) hi (subF_self h hi) ha hsz
  refine ⟨fun hk => ?_, fun hk => ?_⟩
  · rw [toRF_nm hw hzn]
    refine hg.inn z hzn fun e => hk ?_
    rw [toRF_kids hw hzn, pr_kids hs2, e]; rfl
  · rw [toRF_kids hw hzn, pr_kids hs2, List.map_eq_nil_iff, List.filter_eq_nil_iff] at hk
    have h0 : F.kids z = [] := by
      by_cases c : F.kids z = []
      · exact c
      · rw [al_eq h hzn, if_neg c] at hza
        obtain ⟨k, hk2, hka⟩ := List.any_eq_true.1 hza
        exact absurd hka (hk k hk2)
    rw [toRF_nm hw hzn]
    rw [al_eq h hzn, if_pos h0] at hza
    exact hg.lf z hzn h0 hza
theorem pr_leaf2 (h : Wf F n rk) {i : Nat} (hi : i < n) (hg : PrOk F n rk P) : ∀ (d z : Nat), rk z ≤ d → z < n → subF F rk i z = true → (leafR (toRF (F.sub rk (prQ F P rk) i) rk z)).Sublist (leafR (toRF F rk z))
  | d, z, hd, hz, hs => by
    have hw := pr_wf (P := P) h i
    rw [toRF_eq h hz, toRF_eq hw hz, pr_kids hs]
    by_cases h0 : F.kids z = []
    · rw [h0]; exact List.Sublist.refl _
    · have hz0 : (F.nm z).size = 0 := hg.inn z hz h0
      rw [leafR_node hz0, leafR_node (show ((F.sub rk (prQ F P rk) i).nm z).size = 0 from hz0), List.flatMap_map, List.flatMap_map]
      refine sublist_flatMap _ fun k hk _ => ?_
      have hkk := h.kid z hz k hk
      cases d with
      | zero => omega
      | succ d => exact pr_leaf2 h hi hg d k (by omega) hkk.1 (sub_trans h hi (Nat.le_refl _) hs (subF_kid h hz hk (subF_self h hkk.1)))
theorem pr_good2 (h : Wf F n rk) {i : Nat} (hi : i < n) (hg : PrOk F n rk P) (hnd : (leafR (toRF F rk i)).Nodup) (ha : al F P rk i = true) : GoodR (toRF (F.sub rk (prQ F P rk) i) rk i) :=
  ⟨fun _ hs hk => (pr_part2 h hi hg ha hs).1 hk, fun _ hs hk => (pr_part2 h hi hg ha hs).2 hk, (pr_leaf2 h hi hg _ i (Nat.le_refl _) hi (subF_self h hi)).nodup hnd⟩
theorem leafs_nd (h : Arb F n rk) {R : Nat} (hR : ∀ i, i < n → rk i ≤ R) {i : Nat} (hi : i < n) (hinj : ∀ a b, a < n → b < n → (F.nm a).size ≠ 0 → F.nm a = F.nm b → a = b) : (leafR (toRF F rk i)).Nodup := by
  have hsub : subR (toRF F rk i) = (nodesF F rk i).map (toRF F rk) := subR_toRF h.wf hi (Nat.le_refl _)
  have e : nsR (toRF F rk i) = (nodesF F rk i).map F.nm := by
    rw [nsR_sub, hsub, List.map_map]
    refine List.map_congr_left fun z hz => ?_
    exact toRF_nm h.wf (subF_lt h.wf hi (Nat.le_refl _) ((mem_nodesF h.wf hi (Nat.le_refl _)).1 hz))
  unfold leafR
  rw [e]
  have hnd := nodesF_nodup h hR hi (Nat.le_refl _)
  have hlt : ∀ z ∈ nodesF F rk i, z < n := fun z hz => subF_lt h.wf hi (Nat.le_refl _) ((mem_nodesF h.wf hi (Nat.le_refl _)).1 hz)
  generalize nodesF F rk i = l at *
  clear e hsub
  induction l with
  | nil => simp
  | cons a l ih =>
    obtain ⟨h1, h2⟩ := List.nodup_cons.1 hnd
    rw [List.map_cons]
    have ih := ih h2 (fun z hz => hlt z (by simp [hz]))
    by_cases ha : (F.nm a).size ≠ 0
    · rw [List.filter_cons_of_pos (by simpa using ha), List.nodup_cons]
      refine ⟨fun hm => ?_, ih⟩
      obtain ⟨hm, _⟩ := List.mem_filter.1 hm
      obtain ⟨b, hb, e⟩ := List.mem_map.1 hm
      have := hinj a b (hlt a (by simp)) (hlt b (by simp [hb])) ha e.symm
      subst this; exact h1 hb
    · rw [List.filter_cons_of_neg (by simpa using ha)]; exact ih
end
section
variable {t : Tre} {leaf : Nat}
def rrP (t : Tre) (leaf j : Nat) : Bool := decide (((rrF t leaf).nm j).size ≠ 0)
theorem rr_inner (h : LeafOk t leaf) {z : Nat} (hz : z < t.ps.length + 1) (hk : (rrF t leaf).kids z ≠ []) : ((rrF t leaf).nm z).size = 0 := by
  by_cases e : z = t.ps.length
  · subst e
    show (upd (gs t.ns) _ _ _).size = 0
    rw [upd_same]; rfl
  · show (upd (gs t.ns) _ _ z).size = 0
    rw [upd_ne _ _ e]
    by_cases c : kidsL t.ps z = []
    · exfalso
      refine hk ?_
      show rrQ t leaf z = []
      unfold rrQ
      rw [if_neg e, c, if_neg]
      rintro ⟨h1, h2⟩
      obtain ⟨k, h3, h4, h5, _⟩ := h.on_kid h1 h2
      have : k ∈ kidsL t.ps z := mem_kidsL.2 ⟨h3, h4, h5⟩
      rw [c] at this; cases this
    · obtain ⟨k, hk⟩ := List.exists_mem_of_ne_nil _ c
      obtain ⟨h3, h4, h5⟩ := mem_kidsL.1 hk
      exact inner_empty h.te h3 h4 h5
theorem rr_ok (h : LeafOk t leaf) : PrOk (rrF t leaf) (t.ps.length + 1) (rkR t leaf) (rrP t leaf) := by
  refine ⟨fun z hz hk => rr_inner h hz hk, fun z hz hk hP => ?_⟩
  obtain ⟨h1, h2⟩ := rr_leaf h hz hk
  have hP : ((rrF t leaf).nm z).size ≠ 0 := of_decide_eq_true hP
  have e : (rrF t leaf).nm z = gs t.ns z := upd_ne _ _ (by omega)
  rw [e] at hP ⊢
  rcases h2 with h2 | ⟨h2, h3⟩
  · exact tleaf_named h.te h1 h2
  · subst h2; exact absurd h3 hP
theorem rr_names (h : LeafOk t leaf) : ∀ a b, a < t.ps.length + 1 → b < t.ps.length + 1 → ((rrF t leaf).nm a).size ≠ 0 → (rrF t leaf).nm a = (rrF t leaf).nm b → a = b := fun a b ha hb h0 e => by
  have key : ∀ c, c < t.ps.length + 1 → ((rrF t leaf).nm c).size ≠ 0 → (rrF t leaf).kids c = [] := fun c hc hn => by
    by_cases x : (rrF t leaf).kids c = []
    · exact x
    · exact absurd (rr_inner h hc x) hn
  exact (rr_arb h).names a b ha hb (key a ha h0) (key b hb (by rw [← e]; exact h0)) e
def rrR (t : Tre) (leaf : Nat) : RT := toRF ((rrF t leaf).sub (rkR t leaf) (prQ (rrF t leaf) (rrP t leaf) (rkR t leaf)) t.ps.length) (rkR t leaf) t.ps.length
theorem rr_facts (h : LeafOk t leaf) : al (rrF t leaf) (rrP t leaf) (rkR t leaf) t.ps.length = true ∧ GoodR (rrR t leaf) ∧ sizeR (rrR t leaf) ≤ 65 := by
  have hA := rr_arb h
  have hn : t.ps.length < t.ps.length + 1 := Nat.lt_succ_self _
  have hl : leaf < t.ps.length + 1 := Nat.lt_succ_of_lt h.lt
  have hla : al (rrF t leaf) (rrP t leaf) (rkR t leaf) leaf = true := by
    rw [al_eq hA.wf hl, if_pos (rr_kids_leaf h)]
    refine decide_eq_true ?_
    show (upd (gs t.ns) _ _ leaf).size ≠ 0
    rw [upd_ne _ _ (by have := h.lt; omega)]; exact h.nm
  have h0 := (pr_reach hA.wf hn _ t.ps.length leaf (Nat.le_refl _) hn (subF_self hA.wf hn) (rr_all h leaf hl) hla).1
  have hg : GoodR (rrR t leaf) := pr_good2 hA.wf hn (rr_ok h) (leafs_nd hA (fun z hz => rk_le z hz) hn (rr_names h)) h0
  have h64 := (treeErr_zero h.te).2.1
  exact ⟨h0, hg, Nat.le_trans (good_size (pr_wf hA.wf _) hn hg) (by omega)⟩
end
end Go.Proofs.YtpjijbophjdgaaaGreat
namespace Go.Proofs.YtpjijbophjdgaaaGreat
open Go.RowKit Go.Deep
set_option maxRecDepth 100000 in
set_option maxHeartbeats 1000000 in
theorem from_t (W : World) (aj bx : Nat) (x f : Int) (hb : W.cell? ⟨bx, 0, none⟩ = some (.int .i64 f)) (ho : W.cell? ⟨aj, 2, none⟩ = some (.int .i64 x)) :
    Calls Tryz.prog 96 (#[.pointer (some ⟨aj, 0, none⟩)] ++ #[.pointer (some ⟨bx, 0, none⟩)]) W fun e W' => e = .returned (.bool (decide (x = f))) ∧ ∃ m, W' = W.drewN m := by
  have d1 : (x == f) = decide (x = f) := by rw [Bool.eq_iff_iff, beq_iff_eq, decide_eq_true_eq]
  have D1 := Lib.hid d1
  clear d1
  go_enter Tryz.func96, Tryz.ntmps96
  go_wp2_with fail
  go_big_quiet (fail)
  go_wp2_with fail
  go_ret
  exact ⟨by rw [← D1.out]; rfl, _, rfl⟩
set_option maxRecDepth 100000 in
set_option maxHeartbeats 1000000 in
theorem named_leaf_t (W : World) (aj : Nat) (s : ByteArray) (ho : W.cell? ⟨aj, 0, none⟩ = some (.string s)) :
    Calls Tryz.prog 99 (#[.pointer (some ⟨aj, 0, none⟩)] ++ #[]) W fun e W' => e = .returned (.bool (decide (s.size ≠ 0))) ∧ Up W W' := by
  by_cases h : s.size = 0
  · have e3 : (s.toList == []) = true := by rw [(toList_nil _).2 h]; rfl
    have HD : Hid (decide (s.size ≠ 0) = false) := by rw [Hid, h]; rfl
    clear h
    go_enter Tryz.func99, Tryz.ntmps99
    go_wp2_with fail
    go_ret
    exact ⟨by rw [HD.out]; rfl, Up.refl _⟩
  · have e3 : (s.toList == []) = false := by
      rw [beq_eq_false_iff_ne]; exact fun q => h ((toList_nil _).1 q)
    have HD : Hid (decide (s.size ≠ 0) = true) := decide_eq_true h
    clear h
    go_enter Tryz.func99, Tryz.ntmps99
    go_wp2_with fail
    go_ret
    exact ⟨by rw [HD.out]; rfl, Up.refl _⟩
end Go.Proofs.YtpjijbophjdgaaaGreat
namespace Go.Proofs.YtpjijbophjdgaaaGreat
open Go.RowKit Go.Deep
structure TurnAt (g n : Nat) (A : Nat → Nat) (kv : Nat → Value) (F : Frs) (w3 wr : World) (fb : Nat) (f : Int) : Prop where
  fr : FAt (g + 1) n A kv F wr
  box : wr.heap[fb]? = some (.cells #[.int .i64 f] 3 (0, 0))
  lo : g < fb
  farA : ∀ j, j < n → A j ≠ fb
  farK : ∀ j, j < n → (kv j).ownBlock ≠ some fb
  up : Below (g + 1) w3 wr
section
variable {g n fb : Nat} {A : Nat → Nat} {kv : Nat → Value} {F : Frs} {w3 wr w' : World} {f : Int}
theorem TurnAt.fbl (h : TurnAt g n A kv F w3 wr fb f) : fb < wr.heap.size := (Array.getElem?_eq_some_iff.1 h.box).1
theorem TurnAt.cell (h : TurnAt g n A kv F w3 wr fb f) : wr.cell? ⟨fb, 0, none⟩ = some (.int .i64 f) := by simp [World.cell?, h.box]
theorem TurnAt.size (h : TurnAt g n A kv F w3 wr fb f) : g + 1 ≤ wr.heap.size := by have := h.lo; have := h.fbl; omega
theorem TurnAt.grown (h : TurnAt g n A kv F w3 wr fb f) {x : Nat} (hx : x < n) {row : Option Nat} (hr : row = (kv x).ownBlock) (hw : wr.grownBy w' row) :
    w'.heap[fb]? = some (.cells #[.int .i64 f] 3 (0, 0)) ∧ (∀ j, j < n → w'.heap[A j]? = wr.heap[A j]?) ∧ Below (g + 1) w3 w' := by
  subst hr
  exact ⟨by rw [hw.block fb h.fbl fun e => h.farK x hx e.symm]; exact h.box, fun j hj => hw.block _ (h.fr.lt hj) fun e => h.fr.apart x j hx hj e.symm, h.up.trans ((h.fr.own x hx).grown_below hw h.size)⟩
theorem TurnAt.store (h : TurnAt g n A kv F w3 wr fb f) {x : Nat} (hx : x < n) {row : Option Nat} (hr : row = (kv x).ownBlock) (hw : wr.grownBy w' row) :
    w'.cell? ⟨A x, 1, none⟩ = some (kv x) ∧ w'.frozen? ⟨A x, 1, none⟩ = false := by
  have h1 := (h.grown hx hr hw).2.1 x hx
  constructor
  · simp only [World.cell?, h1]; exact h.fr.kidv hx
  · simp only [World.frozen?, h1]; exact h.fr.thaw hx 1
theorem TurnAt.del (h : TurnAt g n A kv F w3 wr fb f) {x b m cap : Nat} {ks : List Nat} (hx : x < n) (hg : (kv x).ownBlock = some b) (hw : wr.grownBy w' (some b)) (hv : Owns (g + 1) 113 w' (.slice (some ⟨b, 0, none⟩) m cap) (ks.map (nptr A))) (hks : ∀ j ∈ ks, j < n) :
    TurnAt g n A (upd kv x (.slice (some ⟨b, 0, none⟩) m cap)) { F with kids := upd F.kids x ks } w3 (w'.setCell ⟨A x, 1, none⟩ (.slice (some ⟨b, 0, none⟩) m cap)) fb f := by
  obtain ⟨h1, h2, h3⟩ := h.grown hx hg.symm hw
  refine ⟨h.fr.del hx hg hw hv hks, ?_, h.lo, h.farA, fun j hj => ?_, h3.setCell (p := ⟨A x, 1, none⟩) (h.fr.lo x hx) _⟩
  · rw [blk_setCell_other _ _ _ _ (fun e => h.farA x hx e.symm)]; exact h1
  · by_cases e : j = x
    · subst e; rw [upd_same]; intro e2; exact h.farK j hj (hg.trans e2)
    · rw [upd_ne _ _ e]; exact h.farK j hj
theorem TurnAt.push (h : TurnAt g n A kv F w3 wr fb f) {k c : Nat} (hk : k < n) (hc : c < n) {b m cap : Nat} (hv : Owns (g + 1) 113 w' (.slice (some ⟨b, 0, none⟩) m cap) ((F.kids k).map (nptr A) ++ [nptr A c])) (hg : wr.grownBy w' (kv k).ownBlock)
    (hb : (kv k).ownBlock = some b ∨ wr.heap.size ≤ b) : TurnAt g n A (upd kv k (.slice (some ⟨b, 0, none⟩) m cap)) { F with kids := upd F.kids k (F.kids k ++ [c]) } w3 (w'.setCell ⟨A k, 1, none⟩ (.slice (some ⟨b, 0, none⟩) m cap)) fb f := by
  obtain ⟨h1, h2, h3⟩ := h.grown hk rfl hg
  refine ⟨h.fr.push hk hc (by rw [List.map_append]; exact hv) hg (fun b2 hb2 => by cases hb2; exact hb), ?_, h.lo, h.farA, fun j hj => ?_, h3.setCell (p := ⟨A k, 1, none⟩) (h.fr.lo k hk) _⟩
  · rw [blk_setCell_other _ _ _ _ (fun e => h.farA k hk e.symm)]; exact h1
  · by_cases e : j = k
    · subst e; rw [upd_same]
      intro e2
      have e2 : b = fb := by cases e2; rfl
      rcases hb with h4 | h4
      · exact h.farK j hj (by rw [h4, e2])
      · have := h.fbl; omega
    · rw [upd_ne _ _ e]; exact h.farK j hj
theorem TurnAt.rebox (h : TurnAt g n A kv F w3 wr fb f) (f' : Int) :
    TurnAt g n A kv F w3 (wr.alloc (.cells #[.int .i64 f'] 3)) wr.heap.size f' := by
  have hs := h.size
  have hA : ∀ j, j < n → A j ≠ wr.heap.size := fun j hj e => by have := h.fr.lt hj; omega
  have hK : ∀ j, j < n → (kv j).ownBlock ≠ some wr.heap.size := fun j hj e => by have := (h.fr.ownlt hj e).2; omega
  exact ⟨h.fr.up (Up.alloc _ _), blk_alloc_new _ _, by omega, hA, hK, h.up.alloc (by omega) _⟩
theorem TurnAt.drew (h : TurnAt g n A kv F w3 wr fb f) : TurnAt g n A kv F w3 wr.drew fb f :=
  ⟨h.fr.up (Up.drewN wr 1), h.box, h.lo, h.farA, h.farK, h.up.trans ((Up.drewN wr 1 : Up wr wr.drew).mono h.size)⟩
theorem TurnAt.congr (h : TurnAt g n A kv F w3 wr fb f) {G : Frs} (e : ∀ j, j < n → G.nm j = F.nm j ∧ G.old j = F.old j ∧ G.kids j = F.kids j) : TurnAt g n A kv G w3 wr fb f :=
  ⟨h.fr.congr2 e, h.box, h.lo, h.farA, h.farK, h.up⟩
theorem turn_start (hF : FAt (g + 1) n A kv F w3) (hg : g < w3.heap.size) {l : Nat} (hl : l < n) (nm : ByteArray) (old : Int) (f : Int) :
    TurnAt g (n + 1) (upd A n (w3.heap.size + 1)) (upd kv n (.slice (some ⟨w3.heap.size, 0, none⟩) 1 1)) ⟨upd F.nm n nm, upd F.old n old, upd F.kids n [l]⟩ w3
      (((w3.alloc (.cells #[nptr A l] 113)).alloc (.cells #[.string nm, .slice (some ⟨w3.heap.size, 0, none⟩) 1 1, .int .i64 old] 115)).alloc (.cells #[.int .i64 f] 3)).drew (w3.heap.size + 1 + 1) f := by
  have hu := Up.alloc w3 (.cells #[nptr A l] 113)
  have hs1 : (w3.alloc (.cells #[nptr A l] 113)).heap.size = w3.heap.size + 1 := World.size_alloc _ _
  have hown : Owns (g + 1) 113 (w3.alloc (.cells #[nptr A l] 113)) (.slice (some ⟨w3.heap.size, 0, none⟩) 1 1) ([l].map (nptr A)) :=
    ⟨rfl, .inr ⟨w3.heap.size, 1, #[nptr A l], rfl, by omega, blk_alloc_new _ _, ⟨by simp, by unfold maxLen; omega, rfl, rfl⟩⟩⟩
  have hob : ∀ b, (Value.slice (some ⟨w3.heap.size, 0, none⟩) 1 1).ownBlock = some b → b = w3.heap.size := fun b hb => by
    have hb : some w3.heap.size = some b := hb
    injection hb with hb; exact hb.symm
  have h1 := (hF.up hu).node_kids (by rw [hs1]; omega) (v := .slice (some ⟨w3.heap.size, 0, none⟩) 1 1) (ks := [l]) nm old hown
    (fun b hb i hi e => by have := hob b hb; have := hF.lt hi; omega) (fun b hb i hi e => by have := hob b hb; have := (hF.ownlt hi e).2; omega) (by simpa using hl)
  rw [hs1] at h1
  have hs2 : ((w3.alloc (.cells #[nptr A l] 113)).alloc (.cells #[.string nm, .slice (some ⟨w3.heap.size, 0, none⟩) 1 1, .int .i64 old] 115)).heap.size = w3.heap.size + 1 + 1 := by rw [World.size_alloc, World.size_alloc]
  have hup : Below (g + 1) w3 ((w3.alloc (.cells #[nptr A l] 113)).alloc (.cells #[.string nm, .slice (some ⟨w3.heap.size, 0, none⟩) 1 1, .int .i64 old] 115)) := (hu.trans (Up.alloc _ _)).mono (by omega)
  generalize (w3.alloc (.cells #[nptr A l] 113)).alloc (.cells #[.string nm, .slice (some ⟨w3.heap.size, 0, none⟩) 1 1, .int .i64 old] 115) = W at *
  rw [← hs2]
  have hA : ∀ j, j < n + 1 → (upd A n (w3.heap.size + 1)) j ≠ W.heap.size := fun j hj e => by have := h1.lt hj; omega
  have hK : ∀ j, j < n + 1 → ((upd kv n (.slice (some ⟨w3.heap.size, 0, none⟩) 1 1)) j).ownBlock ≠ some W.heap.size := fun j hj e => by have := (h1.ownlt hj e).2; omega
  have h2 : TurnAt g (n + 1) (upd A n (w3.heap.size + 1)) (upd kv n (.slice (some ⟨w3.heap.size, 0, none⟩) 1 1)) ⟨upd F.nm n nm, upd F.old n old, upd F.kids n [l]⟩ w3 (W.alloc (.cells #[.int .i64 f] 3)) W.heap.size f :=
    ⟨h1.up (Up.alloc _ _), blk_alloc_new _ _, by omega, hA, hK, hup.alloc (by omega) _⟩
  exact h2.drew
end
end Go.Proofs.YtpjijbophjdgaaaGreat
