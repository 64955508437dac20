/- The turned forest: what the loop gives; what pruned leaves of it. Plain. The contract of phylotree.pruned. -/
import Derived.Test.YtpjijbophjdgaaaGreatQ31
import Derived.Test.YtpjijbophjdgaaaGreatQ27
import Derived.Test.YtpjijbophjdgaaaGreatQ24
namespace Go.Proofs.YtpjijbophjdgaaaGreat
def rrI (t : Tre) (leaf f z : Nat) : List Nat :=
  if z = t.ps.length then leaf :: (if f = leaf then [] else [(gi t.ps leaf).toNat])
  else if onP t leaf z = true ∧ z ≠ leaf ∧ f ≤ z then (kidsL t.ps z).filter (fun k => !onP t leaf k) ++ (if z = f then [] else [(gi t.ps z).toNat])
  else kidsL t.ps z
theorem rrI_top {t : Tre} {leaf f z : Nat} (e : z = t.ps.length) : rrI t leaf f z = leaf :: (if f = leaf then [] else [(gi t.ps leaf).toNat]) := if_pos e
theorem rrI_way {t : Tre} {leaf f z : Nat} (e : z ≠ t.ps.length) (h : onP t leaf z = true ∧ z ≠ leaf ∧ f ≤ z) : rrI t leaf f z = (kidsL t.ps z).filter (fun k => !onP t leaf k) ++ (if z = f then [] else [(gi t.ps z).toNat]) := (if_neg e).trans (if_pos h)
theorem rrI_off {t : Tre} {leaf f z : Nat} (e : z ≠ t.ps.length) (h : ¬ (onP t leaf z = true ∧ z ≠ leaf ∧ f ≤ z)) : rrI t leaf f z = kidsL t.ps z := (if_neg e).trans (if_neg h)
structure RrJ (t : Tre) (leaf : Nat) (K : RrS) : Prop where
  on : onP t leaf K.frm = true
  cur : K.cur = gi t.ps K.frm
  hang : K.hang = if K.frm = leaf then t.ps.length else K.frm
  nm : K.fr.nm = (rrF t leaf).nm
  old : K.fr.old = (rrF t leaf).old
  kids : ∀ z, z < t.ps.length + 1 → K.fr.kids z = rrI t leaf K.frm z
section
variable {t : Tre} {leaf : Nat}
theorem rr_start (h : LeafOk t leaf) : RrJ t leaf (rrK t leaf 0) := by
  refine ⟨h.on_self, rfl, (if_pos rfl).symm, rfl, rfl, fun z hz => ?_⟩
  show upd (frT t).kids t.ps.length [leaf] z = rrI t leaf leaf z
  by_cases e : z = t.ps.length
  · rw [rrI_top e, if_pos rfl, e, upd_same]
  · rw [upd_ne _ _ e, rrI_off e]
    · rfl
    · rintro ⟨h1, h2, h3⟩
      have := h.on_le h1; omega
theorem rr_step (h : LeafOk t leaf) {K : RrS} (hK : RrJ t leaf K) (hc : ¬ K.cur < 0) : RrJ t leaf ⟨rrS K.fr K.hang K.frm K.cur.toNat, K.cur.toNat, K.cur.toNat, gi t.ps K.cur.toNat⟩ := by
  obtain ⟨F, hang, f, cur⟩ := K
  obtain ⟨hon, hcur, hhang, hnm, hold, hkids⟩ := hK
  simp only at hon hcur hhang hnm hold hkids hc ⊢
  have hfl := h.on_le hon
  have hln := h.lt
  have hf0 : f ≠ 0 := fun e => by
    have := pOkB_at h.ok h.pos
    unfold okp at this
    rw [if_pos rfl, beq_iff_eq] at this
    rw [hcur, e, this] at hc; omega
  obtain ⟨x, hx, hxf⟩ := h.par (z := f) (Nat.lt_of_le_of_lt hfl hln) hf0
  have hxc : cur.toNat = x := by rw [hcur, hx]; rfl
  rw [hxc]
  have hxon := h.on_par hon hf0 hx
  have hfilt : (kidsL t.ps x).filter (fun k => !decide ((rrF t leaf).old k = (f : Int))) = (kidsL t.ps x).filter (fun k => !onP t leaf k) := by
    refine List.filter_congr fun k hk => ?_
    obtain ⟨h1, h2, h3⟩ := mem_kidsL.1 hk
    have : (rrF t leaf).old k = (k : Int) := upd_ne _ _ (by omega)
    rw [this]
    congr 1
    rw [Bool.eq_iff_iff, decide_eq_true_eq]
    constructor
    · intro e
      have : k = f := by omega
      subst this; exact hon
    · intro e
      have := h.on_one e hon h2 hxf h3 hx
      omega
  refine ⟨hxon, rfl, ?_, hnm, hold, fun z hz => ?_⟩
  · exact (if_neg (show ¬ x = leaf by omega)).symm
  · show upd (upd F.kids x ((F.kids x).filter fun k => !decide (F.old k = (f : Int)))) hang (upd F.kids x ((F.kids x).filter fun k => !decide (F.old k = (f : Int))) hang ++ [x]) z = rrI t leaf x z
    have hFx : F.kids x = kidsL t.ps x := by
      rw [hkids x (by omega)]
      exact rrI_off (by omega) (by omega)
    rw [hFx, hold, hfilt]
    by_cases hzh : z = hang
    · by_cases hfe : f = leaf
      · rw [if_pos hfe] at hhang
        have hzn : z = t.ps.length := hzh.trans hhang
        rw [hzh, upd_same, ← hzh, upd_ne _ _ (by omega), hkids z hz, rrI_top hzn, rrI_top hzn, if_pos hfe, if_neg (by omega), ← hfe, hx]; rfl
      · rw [if_neg hfe] at hhang
        have hzf : z = f := hzh.trans hhang
        rw [hzh, upd_same, ← hzh, upd_ne _ _ (by omega), hkids z hz, hzf, rrI_way (by omega) ⟨hon, hfe, Nat.le_refl _⟩, rrI_way (by omega) ⟨hon, hfe, Nat.le_of_lt hxf⟩, if_pos rfl, if_neg (by omega), hx, List.append_nil]; rfl
    · rw [upd_ne _ _ hzh]
      by_cases hzx : z = x
      · rw [hzx, upd_same, rrI_way (by omega) ⟨hxon, by omega, Nat.le_refl _⟩, if_pos rfl, List.append_nil]
      · rw [upd_ne _ _ hzx, hkids z hz]
        by_cases hzn : z = t.ps.length
        · have : f ≠ leaf := fun e => by rw [if_pos e] at hhang; omega
          rw [rrI_top hzn, rrI_top hzn, if_neg this, if_neg (by omega)]
        · have hzf : z ≠ f ∨ z = leaf := by
            by_cases e : f = leaf
            · by_cases e2 : z = leaf
              · exact .inr e2
              · exact .inl (by omega)
            · rw [if_neg e] at hhang; exact .inl (by omega)
          by_cases hcnd : onP t leaf z = true ∧ z ≠ leaf
          · have hzf : z ≠ f := by
              rcases hzf with e | e
              · exact e
              · exact absurd e hcnd.2
            by_cases hle : f ≤ z
            · rw [rrI_way hzn ⟨hcnd.1, hcnd.2, hle⟩, rrI_way hzn ⟨hcnd.1, hcnd.2, by omega⟩, if_neg hzf, if_neg hzx]
            · have := h.on_chain hcnd.1 hon (by omega) hx
              rw [rrI_off hzn (by omega), rrI_off hzn (by omega)]
          · rw [rrI_off hzn (fun c => hcnd ⟨c.1, c.2.1⟩), rrI_off hzn (fun c => hcnd ⟨c.1, c.2.1⟩)]
theorem rr_all_steps (h : LeafOk t leaf) : ∀ i, RrJ t leaf (rrK t leaf i)
  | 0 => rr_start h
  | i + 1 => by
    have ih := rr_all_steps h i
    by_cases hc : (rrK t leaf i).cur < 0
    · rw [rrK, if_pos hc]; exact ih
    · rw [rrK_go hc]; exact rr_step h ih hc
theorem rr_end (h : LeafOk t leaf) {i : Nat} (hc : (rrK t leaf i).cur < 0) : ∀ z, z < t.ps.length + 1 → (rrF t leaf).nm z = (rrK t leaf i).fr.nm z ∧ (rrF t leaf).old z = (rrK t leaf i).fr.old z ∧ (rrF t leaf).kids z = (rrK t leaf i).fr.kids z := fun z hz => by
  have hK := rr_all_steps h i
  have hf : (rrK t leaf i).frm = 0 := by
    by_cases e : (rrK t leaf i).frm = 0
    · exact e
    · obtain ⟨q, h1, _⟩ := h.par (z := (rrK t leaf i).frm) (Nat.lt_of_le_of_lt (h.on_le hK.on) h.lt) e
      rw [hK.cur, h1] at hc; omega
  refine ⟨by rw [hK.nm], by rw [hK.old], ?_⟩
  rw [hK.kids z hz, hf]
  show rrQ t leaf z = _
  unfold rrQ
  by_cases hzn : z = t.ps.length
  · rw [rrI_top hzn, if_pos hzn]
    congr 1
    by_cases e : leaf = 0
    · rw [if_pos e, if_pos e.symm]
    · rw [if_neg e, if_neg (fun c => e c.symm)]
  · rw [if_neg hzn]
    by_cases hcnd : onP t leaf z = true ∧ z ≠ leaf
    · rw [rrI_way hzn ⟨hcnd.1, hcnd.2, Nat.zero_le _⟩, if_pos hcnd]
    · rw [rrI_off hzn (fun c => hcnd ⟨c.1, c.2.1⟩), if_neg hcnd]
end
section
variable {F : Frs} {n : Nat} {rk : Nat → Nat} {P : Nat → Bool}
structure PrOk (F : Frs) (n : Nat) (rk : Nat → Nat) (P : Nat → Bool) : Prop where
  inn : ∀ z, z < n → F.kids z ≠ [] → (F.nm z).size = 0
  lf : ∀ z, z < n → F.kids z = [] → P z = true → namedB (F.nm z).data.toList = true
theorem pr_part2 (h : Wf F n rk) {i : Nat} (hi : i < n) (hg : PrOk F n rk P) (ha : al F P rk i = true) {s : RT} (hs : s ∈ subR (toRF (F.sub rk (prQ F P rk) i) rk i)) :
    (s.kids ≠ [] → s.nm.size = 0) ∧ (s.kids = [] → namedB s.nm.data.toList = true) := by
  have hw := pr_wf (P := P) h i
  rw [subR_toRF hw hi (Nat.le_refl _)] at hs
  obtain ⟨z, hz, rfl⟩ := List.mem_map.1 hs
  have hsz := (mem_nodesF hw hi (Nat.le_refl _)).1 hz
  have hzn := subF_lt hw hi (Nat.le_refl _) hsz
  have hs2 := pr_below h i _ i z (Nat.le_refl _) hi hsz
  have hza := pr_alive h hi _ i z (Nat.le_refl _) hi (subF_self h hi) ha hsz
  refine ⟨fun hk => ?_, fun hk => ?_⟩
  · rw [toRF_nm hw hzn]
    refine hg.inn z hzn fun e => hk ?_
    rw [toRF_kids hw hzn, pr_kids hs2, e]; rfl
  · rw [toRF_kids hw hzn, pr_kids hs2, List.map_eq_nil_iff, List.filter_eq_nil_iff] at hk
    have h0 : F.kids z = [] := by
      by_cases c : F.kids z = []
      · exact c
      · rw [al_eq h hzn, if_neg c] at hza
        obtain ⟨k, hk2, hka⟩ := List.any_eq_true.1 hza
        exact absurd hka (hk k hk2)
    rw [toRF_nm hw hzn]
    rw [al_eq h hzn, if_pos h0] at hza
    exact hg.lf z hzn h0 hza
theorem pr_leaf2 (h : Wf F n rk) {i : Nat} (hi : i < n) (hg : PrOk F n rk P) : ∀ (d z : Nat), rk z ≤ d → z < n → subF F rk i z = true → (leafR (toRF (F.sub rk (prQ F P rk) i) rk z)).Sublist (leafR (toRF F rk z))
  | d, z, hd, hz, hs => by
    have hw := pr_wf (P := P) h i
    rw [toRF_eq h hz, toRF_eq hw hz, pr_kids hs]
    by_cases h0 : F.kids z = []
    · rw [h0]; exact List.Sublist.refl _
    · have hz0 : (F.nm z).size = 0 := hg.inn z hz h0
      rw [leafR_node hz0, leafR_node (show ((F.sub rk (prQ F P rk) i).nm z).size = 0 from hz0), List.flatMap_map, List.flatMap_map]
      refine sublist_flatMap _ fun k hk _ => ?_
      have hkk := h.kid z hz k hk
      cases d with
      | zero => omega
      | succ d => exact pr_leaf2 h hi hg d k (by omega) hkk.1 (sub_trans h hi (Nat.le_refl _) hs (subF_kid h hz hk (subF_self h hkk.1)))
theorem pr_good2 (h : Wf F n rk) {i : Nat} (hi : i < n) (hg : PrOk F n rk P) (hnd : (leafR (toRF F rk i)).Nodup) (ha : al F P rk i = true) : GoodR (toRF (F.sub rk (prQ F P rk) i) rk i) :=
  ⟨fun _ hs hk => (pr_part2 h hi hg ha hs).1 hk, fun _ hs hk => (pr_part2 h hi hg ha hs).2 hk, (pr_leaf2 h hi hg _ i (Nat.le_refl _) hi (subF_self h hi)).nodup hnd⟩
theorem leafs_nd (h : Arb F n rk) {R : Nat} (hR : ∀ i, i < n → rk i ≤ R) {i : Nat} (hi : i < n) (hinj : ∀ a b, a < n → b < n → (F.nm a).size ≠ 0 → F.nm a = F.nm b → a = b) : (leafR (toRF F rk i)).Nodup := by
  have hsub : subR (toRF F rk i) = (nodesF F rk i).map (toRF F rk) := subR_toRF h.wf hi (Nat.le_refl _)
  have e : nsR (toRF F rk i) = (nodesF F rk i).map F.nm := by
    rw [nsR_sub, hsub, List.map_map]
    refine List.map_congr_left fun z hz => ?_
    exact toRF_nm h.wf (subF_lt h.wf hi (Nat.le_refl _) ((mem_nodesF h.wf hi (Nat.le_refl _)).1 hz))
  unfold leafR
  rw [e]
  have hnd := nodesF_nodup h hR hi (Nat.le_refl _)
  have hlt : ∀ z ∈ nodesF F rk i, z < n := fun z hz => subF_lt h.wf hi (Nat.le_refl _) ((mem_nodesF h.wf hi (Nat.le_refl _)).1 hz)
  generalize nodesF F rk i = l at *
  clear e hsub
  induction l with
  | nil => simp
  | cons a l ih =>
    obtain ⟨h1, h2⟩ := List.nodup_cons.1 hnd
    rw [List.map_cons]
    have ih := ih h2 (fun z hz => hlt z (by simp [hz]))
    by_cases ha : (F.nm a).size ≠ 0
    · rw [List.filter_cons_of_pos (by simpa using ha), List.nodup_cons]
      refine ⟨fun hm => ?_, ih⟩
      obtain ⟨hm, _⟩ := List.mem_filter.1 hm
      obtain ⟨b, hb, e⟩ := List.mem_map.1 hm
      have := hinj a b (hlt a (by simp)) (hlt b (by simp [hb])) ha e.symm
      subst this; exact h1 hb
    · rw [List.filter_cons_of_neg (by simpa using ha)]; exact ih
end
section
variable {t : Tre} {leaf : Nat}
def rrP (t : Tre) (leaf j : Nat) : Bool := decide (((rrF t leaf).nm j).size ≠ 0)
theorem rr_inner (h : LeafOk t leaf) {z : Nat} (hz : z < t.ps.length + 1) (hk : (rrF t leaf).kids z ≠ []) : ((rrF t leaf).nm z).size = 0 := by
  by_cases e : z = t.ps.length
  · subst e
    show (upd (gs t.ns) _ _ _).size = 0
    rw [upd_same]; rfl
  · show (upd (gs t.ns) _ _ z).size = 0
    rw [upd_ne _ _ e]
    by_cases c : kidsL t.ps z = []
    · exfalso
      refine hk ?_
      show rrQ t leaf z = []
      unfold rrQ
      rw [if_neg e, c, if_neg]
      rintro ⟨h1, h2⟩
      obtain ⟨k, h3, h4, h5, _⟩ := h.on_kid h1 h2
      have : k ∈ kidsL t.ps z := mem_kidsL.2 ⟨h3, h4, h5⟩
      rw [c] at this; cases this
    · obtain ⟨k, hk⟩ := List.exists_mem_of_ne_nil _ c
      obtain ⟨h3, h4, h5⟩ := mem_kidsL.1 hk
      exact inner_empty h.te h3 h4 h5
theorem rr_ok (h : LeafOk t leaf) : PrOk (rrF t leaf) (t.ps.length + 1) (rkR t leaf) (rrP t leaf) := by
  refine ⟨fun z hz hk => rr_inner h hz hk, fun z hz hk hP => ?_⟩
  obtain ⟨h1, h2⟩ := rr_leaf h hz hk
  have hP : ((rrF t leaf).nm z).size ≠ 0 := of_decide_eq_true hP
  have e : (rrF t leaf).nm z = gs t.ns z := upd_ne _ _ (by omega)
  rw [e] at hP ⊢
  rcases h2 with h2 | ⟨h2, h3⟩
  · exact tleaf_named h.te h1 h2
  · subst h2; exact absurd h3 hP
theorem rr_names (h : LeafOk t leaf) : ∀ a b, a < t.ps.length + 1 → b < t.ps.length + 1 → ((rrF t leaf).nm a).size ≠ 0 → (rrF t leaf).nm a = (rrF t leaf).nm b → a = b := fun a b ha hb h0 e => by
  have key : ∀ c, c < t.ps.length + 1 → ((rrF t leaf).nm c).size ≠ 0 → (rrF t leaf).kids c = [] := fun c hc hn => by
    by_cases x : (rrF t leaf).kids c = []
    · exact x
    · exact absurd (rr_inner h hc x) hn
  exact (rr_arb h).names a b ha hb (key a ha h0) (key b hb (by rw [← e]; exact h0)) e
def rrR (t : Tre) (leaf : Nat) : RT := toRF ((rrF t leaf).sub (rkR t leaf) (prQ (rrF t leaf) (rrP t leaf) (rkR t leaf)) t.ps.length) (rkR t leaf) t.ps.length
theorem rr_facts (h : LeafOk t leaf) : al (rrF t leaf) (rrP t leaf) (rkR t leaf) t.ps.length = true ∧ GoodR (rrR t leaf) ∧ sizeR (rrR t leaf) ≤ 65 := by
  have hA := rr_arb h
  have hn : t.ps.length < t.ps.length + 1 := Nat.lt_succ_self _
  have hl : leaf < t.ps.length + 1 := Nat.lt_succ_of_lt h.lt
  have hla : al (rrF t leaf) (rrP t leaf) (rkR t leaf) leaf = true := by
    rw [al_eq hA.wf hl, if_pos (rr_kids_leaf h)]
    refine decide_eq_true ?_
    show (upd (gs t.ns) _ _ leaf).size ≠ 0
    rw [upd_ne _ _ (by have := h.lt; omega)]; exact h.nm
  have h0 := (pr_reach hA.wf hn _ t.ps.length leaf (Nat.le_refl _) hn (subF_self hA.wf hn) (rr_all h leaf hl) hla).1
  have hg : GoodR (rrR t leaf) := pr_good2 hA.wf hn (rr_ok h) (leafs_nd hA (fun z hz => rk_le z hz) hn (rr_names h)) h0
  have h64 := (treeErr_zero h.te).2.1
  exact ⟨h0, hg, Nat.le_trans (good_size (pr_wf hA.wf _) hn hg) (by omega)⟩
end
end Go.Proofs.YtpjijbophjdgaaaGreat
namespace Go.Proofs.YtpjijbophjdgaaaGreat
open Go.RowKit Go.Deep
set_option maxRecDepth 100000 in
set_option maxHeartbeats 1000000 in
theorem pruned_leaf {g : Nat} {lb : Array Value} (eg : ∀ args w, (callFunc g args).run Tryz.prog w = .ok (.enter g args) w) {base n : Nat} {A : Nat → Nat} {w0 : World} {m : Nat → ByteArray} {o : Nat → Int} {P : Nat → Bool} {rk : Nat → Nat}
    (hp : ∀ j W, j < n → Below base w0 W → W.cell? ⟨A j, 0, none⟩ = some (.string (m j)) → W.cell? ⟨A j, 2, none⟩ = some (.int .i64 (o j)) → Calls Tryz.prog g (#[.pointer (some ⟨A j, 0, none⟩)] ++ lb) W fun e W' => e = .returned (.bool (P j)) ∧ Up W W')
    {F : Frs} {i : Nat} {kv : Nat → Value} {w : World} (hm0 : F.nm = m) (ho : F.old = o) (hw : Wf F n rk) (hi : i < n) (hB : Below base w0 w) (_hb : base ≤ w.heap.size) (hF : FAt base n A kv F w) (h0 : F.kids i = []) :
    Calls Tryz.prog 98 #[.pointer (some ⟨A i, 0, none⟩), .func (.func g) #[] lb] w (PrPost base n A F P rk kv i w) := by
  have hown := hF.own i hi
  rw [h0] at hown
  obtain ⟨q, cap, hv, _⟩ := hown.form (n := 0) rfl
  have hkc := hF.kidv hi
  rw [hv] at hkc
  have HCALL := Lib.hid (hp i w hi hB (by have := hF.name hi; rw [hm0] at this; exact this) (by have := hF.oldc hi; rw [ho] at this; exact this))
  have HAL : Hid (al F P rk i = P i) := by rw [Hid, al_eq hw hi, if_pos h0]
  have HPD : Hid (∀ w', Up w w' → PrD base n A F P rk kv i w kv w') := fun w' hu => ⟨(hF.up hu).congr2 fun z hz => ⟨rfl, rfl, by
    show (if _ then _ else _) = _
    split
    · rename_i hs
      rw [subF_eq hw hi, h0] at hs
      have : z = i := by simpa using hs
      subst this
      unfold prQ; rw [h0]; rfl
    · rfl⟩, PUp.of_up hu, fun _ _ _ h => .inl h, fun _ _ => rfl⟩
  clear hown hF hp hv h0 hB
  go_enter Tryz.func98, Tryz.ntmps98
  go_wp2_with fail
  refine HCALL.out.mono ?_
  rintro e w' ⟨rfl, hu⟩
  have HN := Lib.hid (HPD.out w' hu)
  clear hu
  cases hP : P i with
  | true =>
    have HA2 : Hid (al F P rk i = true) := by rw [Hid, HAL.out, hP]
    go_wp2_with fail
    go_ret
    exact ⟨by rw [HA2.out]; rfl, _, HN.out⟩
  | false =>
    have HA2 : Hid (al F P rk i = false) := by rw [Hid, HAL.out, hP]
    go_wp2_with fail
    go_ret
    exact ⟨by rw [HA2.out]; rfl, _, HN.out⟩
set_option maxRecDepth 100000 in
set_option maxHeartbeats 4000000 in
theorem pruned_t (g : Nat) (lb : Array Value) (eg : ∀ args w, (callFunc g args).run Tryz.prog w = .ok (.enter g args) w) {base n : Nat} {A : Nat → Nat} {w0 : World} {m : Nat → ByteArray} {o : Nat → Int} {P : Nat → Bool} {rk : Nat → Nat}
    (hp : ∀ j W, j < n → Below base w0 W → W.cell? ⟨A j, 0, none⟩ = some (.string (m j)) → W.cell? ⟨A j, 2, none⟩ = some (.int .i64 (o j)) → Calls Tryz.prog g (#[.pointer (some ⟨A j, 0, none⟩)] ++ lb) W fun e W' => e = .returned (.bool (P j)) ∧ Up W W') :
    ∀ (d : Nat) (F : Frs) (i : Nat) (kv : Nat → Value) (w : World), F.nm = m → F.old = o → Wf F n rk → Dis F n rk i → (∀ z, z < n → (F.kids z).length ≤ 1000) → i < n → rk i ≤ d → Below base w0 w → base ≤ w.heap.size → FAt base n A kv F w →
    Calls Tryz.prog 98 #[.pointer (some ⟨A i, 0, none⟩), .func (.func g) #[] lb] w (PrPost base n A F P rk kv i w) := by
  intro d
  induction d with
  | zero =>
    intro F i kv w hm0 ho hw hD hl hi hd hB hb hF
    exact pruned_leaf eg hp hm0 ho hw hi hB hb hF (kids_nil0 hw hi hd)
  | succ d ih =>
    intro F i kv w hm0 ho hw hD hl hi hd hB hb hF
    by_cases h0 : F.kids i = []
    · exact pruned_leaf eg hp hm0 ho hw hi hB hb hF h0
    · have hown := hF.own i hi
      obtain ⟨L, hLL⟩ : ∃ L, L = F.kids i := ⟨_, rfl⟩
      have hL0 : 0 < L.length := by rw [hLL]; exact List.length_pos_iff.2 h0
      have hl1 : L.length ≤ 1000 := by rw [hLL]; exact hl i hi
      rw [← hLL] at hown
      obtain ⟨q, cap, hv, hq⟩ := hown.form (n := L.length) (by simp)
      obtain ⟨gk, rfl⟩ : ∃ g, q = some ⟨g, 0, none⟩ := by
        rcases hq with rfl | h
        · obtain ⟨_, h | ⟨g, _, _, h, _⟩⟩ := hown
          · have := h.2; rw [List.length_map] at this; omega
          · rw [hv] at h; cases h
        · exact h
      have hkc := hF.kidv hi
      rw [hv] at hkc
      have HF := Lib.hid hF
      have HV := Lib.hid hv
      have HLL := Lib.hid hLL
      have HIH := Lib.hid ih
      have HW := Lib.hid hw
      have HD := Lib.hid hD
      have HO := Lib.hid ho
      have HM0 := Lib.hid hm0
      have HLS := Lib.hid hl
      have HB := Lib.hid hB
      have HBS := Lib.hid hb
      have HLN : Hid (∀ c ∈ L, c < n ∧ rk c < rk i) := fun c hc => hw.kid i hi c (by rw [← hLL]; exact hc)
      have HST : Hid (PrW base n A F P rk kv i w kv w (.slice none 0 0) 0 0) := ⟨hF.congr2 fun z _ => ⟨rfl, rfl, upto_zero _ _ _⟩, PUp.refl _ _ _, fun _ _ _ h => .inl h, fun _ _ => rfl, Owns.nil _ _ _, fun b hb => by cases hb⟩
      have HAL : Hid (al F P rk i = (F.kids i).any (al F P rk)) := by rw [Hid, al_eq hw hi, if_neg h0]
      have d1 : ((L.length : Int) == 0) = false := beq_eq_false_iff_ne.2 (by omega)
      have hfr := hF.thaw hi 1
      clear hown hq hv hLL ih hw hD ho hm0 hl hB hb hF h0
      go_enter Tryz.func98, Tryz.ntmps98
      go_wp2_with fail
      go_loopw [5, 7, 8, 25] (fun dv _ _ x wr => ∃ k : Nat, k ≤ L.length ∧ x = .int .i64 k ∧ Hid (∃ kvk, PrW base n A F P rk kv i w kvk wr dv k k)) (fun _ _ _ x _ => L.length - (intOf x).toNat)
      case atStart => exact ⟨0, Nat.zero_le _, rfl, kv, HST.out⟩
      case round =>
        obtain ⟨k, hk, rfl, hO⟩ := hrel
        obtain ⟨wo, rfl⟩ : ∃ wo : World, wo = wr := ⟨_, rfl⟩
        obtain ⟨dv, rfl⟩ : ∃ d : Value, d = u5 := ⟨_, rfl⟩
        obtain ⟨kvk, hO⟩ := hO.out
        have HK := Lib.hid hO
        by_cases hlt : k < L.length
        · have hcL : L[k]? = some L[k] := List.getElem?_eq_getElem hlt
          have hc : (F.kids i)[k]? = some L[k] := by rw [← HLL.out]; exact hcL
          have hkvi : kvk i = .slice (some ⟨gk, 0, none⟩) L.length cap := (hO.old i (.inr rfl)).trans HV.out
          have hrow := hO.fr.kcell (i := i) (j := k) (c := L[k]) hi hkvi (by rw [upto_own HW.out hi k]; exact hc)
          have hcn := HLN.out L[k] (List.getElem_mem hlt)
          have HCALL := Lib.hid (HIH.out (F.upto rk (prQ F P rk) (F.kids i) k) L[k] kvk wo HM0.out HO.out (upto_wf HW.out P _ k) ((Dis.kid HW.out hi (List.mem_of_getElem? hc) HD.out).cong HW.out (upto_wf HW.out P _ k) hcn.1 (upto_fresh HW.out hi HD.out hc))
            (fun z hz => by
              show (if _ then _ else _ : List Nat).length ≤ _
              split
              · exact Nat.le_trans (List.length_filter_le _ _) (HLS.out z hz)
              · exact HLS.out z hz) hcn.1 (by have := hcn.2; omega) (HB.out.trans (hO.up.below HF.out.lo HBS.out)) (Nat.le_trans HBS.out hO.up.size) hO.fr)
          have HALC : Hid (al (F.upto rk (prQ F P rk) (F.kids i) k) P rk L[k] = al F P rk L[k]) := al_cong HW.out (upto_wf HW.out P _ k) hcn.1 (Nat.le_refl _) (upto_fresh HW.out hi HD.out hc)
          have HC := Lib.hid hc
          have HLT := Lib.hid hlt
          have i1 : (0 : Int) ≤ (k : Int) := by omega
          have i2 : (k : Int) < (L.length : Int) := by omega
          unfold PrPost at HCALL
          rw [HALC.out] at HCALL
          clear hcL hc hcn hkvi hO
          generalize L[k] = c at *
          go_wp2_with fail
          refine HCALL.out.mono ?_
          rintro e w2 ⟨rfl, kv2, h2⟩
          have HS := Lib.hid (HK.out.step HF.out HW.out HD.out hi HC.out h2)
          clear h2 HK
          cases ha : al F P rk c with
          | false =>
            have HN := Lib.hid (HS.out.skip HC.out ha)
            clear HS ha
            go_wp2_with fail
            go_roundw
            case rel => exact ⟨k + 1, HLT.out, by go_num, kv2, HN.out⟩
            case measure => have := HLT.out; simp [intOf]; omega
          | true =>
            have HA := Lib.hid ha
            have HLM : Hid (((((F.kids i).take k).filter (al F P rk)).map (nptr A)).length = (((F.kids i).take k).filter (al F P rk)).length) := List.length_map _
            have HLE : (((F.kids i).take k).filter (al F P rk)).length ≤ 1000000 := by
              refine Nat.le_trans (List.length_filter_le _ _) ?_
              rw [List.length_take]; omega
            have hwz : w.heap.size ≤ w2.heap.size := HS.out.up.size
            have HOW : Hid (Owns w.heap.size 113 w2 dv ((((F.kids i).take k).filter (al F P rk)).map (nptr A))) := HS.out.own
            clear ha
            unfold nptr
            go_wp2_with (first | (at_builtin; refine wpList_appG w2 rfl _ _ 111 rfl w.heap.size 113 (.pointer none) 8 Tryz.underlying111 Tryz.infoNP rfl (by decide) HOW.out rfl (.pointer (some ⟨A c, 0, none⟩)) rfl rfl _ HLM.out HLE hwz ?_; intro g8 cap8 w8 hown1 hgr1 hr1))
            have HN := Lib.hid (HS.out.push HF.out HC.out HA.out hown1 hgr1 hr1)
            clear hown1 hgr1 hr1 HS HOW
            go_roundw
            case rel => exact ⟨k + 1, HLT.out, by go_num, kv2, HN.out⟩
            case measure => have := HLT.out; simp [intOf]; omega
        · obtain rfl : k = L.length := by omega
          have hkl : (F.kids i).length = L.length := by rw [HLL.out]
          have HKD : Hid (PrW base n A F P rk kv i w kvk wo dv (F.kids i).length (F.kids i).length) := by rw [Hid, hkl]; exact hO
          have HDN := Lib.hid (HKD.out.done HF.out HW.out hi HBS.out)
          have hfr := HKD.out.fr.thaw hi 1
          have hdo := HKD.out.own
          rw [List.take_length] at hdo
          obtain ⟨dq, dc, rfl, _⟩ := hdo.form (n := ((F.kids i).filter (al F P rk)).length) (by simp)
          have HAE : Hid (al F P rk i = decide (0 < ((F.kids i).filter (al F P rk)).length)) := by
            rw [Hid, HAL.out, Bool.eq_iff_iff, List.any_eq_true, decide_eq_true_eq, List.length_pos_iff_exists_mem]
            constructor
            · rintro ⟨x, hx, e⟩; exact ⟨x, List.mem_filter.2 ⟨hx, e⟩⟩
            · rintro ⟨x, hx⟩; exact ⟨x, (List.mem_filter.1 hx).1, (List.mem_filter.1 hx).2⟩
          have hkc := HKD.out.fr.kidv hi
          clear hlt hk hdo hkl hO HK HKD
          generalize ((F.kids i).filter (al F P rk)).length = m at *
          by_cases hm : m = 0
          · have d2 : ((m : Int) == 0) = true := by rw [hm]; rfl
            have HA2 : Hid (al F P rk i = false) := by rw [Hid, HAE.out, hm]; rfl
            clear hm
            go_wp2_with fail
            go_ret
            exact ⟨by rw [HA2.out]; rfl, _, HDN.out⟩
          · have d2 : ((m : Int) == 0) = false := beq_eq_false_iff_ne.2 (by omega)
            have HA2 : Hid (al F P rk i = true) := by rw [Hid, HAE.out]; exact decide_eq_true (by omega)
            clear hm
            go_wp2_with fail
            go_ret
            exact ⟨by rw [HA2.out]; rfl, _, HDN.out⟩
end Go.Proofs.YtpjijbophjdgaaaGreat
