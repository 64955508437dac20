/- The contract of layer 31's reference's Canonical. The reference's canonical tree is the canonical tree: its order is the sort's order. Two rose trees without one-child nodes that have the same families of leaves are the same, sorted. -/
import Derived.Test.YtgjcfkadioblfaaGreatQ33
import Derived.Test.YtgjcfkadioblfaaGreatQ14
import Derived.Test.YtgjcfkadioblfaaGreatQ22
import Derived.Test.YtgjcfkadioblfaaGreatQ24
namespace Go.Proofs.YtgjcfkadioblfaaGreat
open Go.RowKit Go.Deep
/-- The canonical tree, as the reference makes it. -/
def canR (t : Tre) : Tre := flat (ordR (toR t))
def CrPost (w : World) (t : Tre) (e : Ending) (w' : World) : Prop :=
  Up w w' ∧ ((treeErr t ≠ 0 ∧ e = .returned (.tuple #[.agg #[.slice none 0 0, .slice none 0 0], .int .i64 1])) ∨ (treeErr t = 0 ∧ ∃ v, e = .returned (.tuple #[v, .int .i64 0]) ∧ TreeAt (fun b => w.heap.size ≤ b) w' v (canR t)))
set_option maxRecDepth 100000 in
set_option maxHeartbeats 2000000 in
theorem canonR_t (S : Nat → Prop) (w : World) (v : Value) (t : Tre) (hT : TreeAt S w v t) (hp : t.ps.length ≤ 1000000) (hn : t.ns.length ≤ 1000000) (hz : ∀ k, (gs t.ns k).size ≤ 70000) : Calls Tryz.prog 34 #[v] w (CrPost w t) := by
  obtain ⟨P, N, rfl, hP, hN⟩ := hT
  have hu := (Up.alloc w (.cells #[P, N] 25)).trans (Up.alloc _ (.cells #[.slice none 0 0, .slice none 0 0] 25))
  have hT1 : TreeAt S ((w.alloc (.cells #[P, N] 25)).alloc (.cells #[.slice none 0 0, .slice none 0 0] 25)) (.agg #[P, N]) t := TreeAt.keep ⟨P, N, rfl, hP, hN⟩ (hu.kept _)
  have HCK := Lib.hid (checkR_t S _ _ t hT1 hp hn hz)
  have HT := Lib.hid hT1
  have HU := Lib.hid hu
  have HC0 := Lib.hid ((Up.alloc _ (.cells #[.slice none 0 0, .slice none 0 0] 25)).cell (box2_0 w P N 25))
  have HC1 := Lib.hid ((Up.alloc _ (.cells #[.slice none 0 0, .slice none 0 0] 25)).cell (box2_1 w P N 25))
  have hc0 := HC0.out
  have hc1 := HC1.out
  have hrb := box_at (w := w.alloc (.cells #[P, N] 25)) (P := .slice none 0 0) (N := .slice none 0 0) (T := 25)
  have hsz : ((w.alloc (.cells #[P, N] 25)).alloc (.cells #[.slice none 0 0, .slice none 0 0] 25)).heap.size = w.heap.size + 2 := by simp
  rw [World.size_alloc] at hrb
  have HRB := Lib.hid hrb
  have HSZ := Lib.hid hsz
  clear hu hT1 hP hN hrb hsz
  go_enter Tryz.func34, Tryz.ntmps34
  go_wp2_with fail
  generalize (w.alloc (.cells #[P, N] 25)).alloc (.cells #[.slice none 0 0, .slice none 0 0] 25) = w1 at *
  refine HCK.out.mono ?_
  rintro e w2 ⟨rfl, hb2⟩
  have hu2 : Up w1 w2 := hb2
  have hc0 := hu2.cell HC0.out
  have hc1 := hu2.cell HC1.out
  have HT2 := Lib.hid (HT.out.keep (hu2.kept S))
  have hrb2 := (Below.block hu2 (w.heap.size + 1) (by rw [HSZ.out]; omega)).trans HRB.out
  have HU2 := Lib.hid (HU.out.trans hu2)
  have HS2 : Hid (w.heap.size + 2 ≤ w2.heap.size) := by unfold Hid; have := hu2.size; rw [HSZ.out] at this; exact this
  clear hb2 hu2 HCK HT HU HC0 HC1 HRB
  by_cases he : treeErr t = 0
  · have HE := Lib.hid he
    rw [he]
    have HRB2 := Lib.hid hrb2
    have HGR := Lib.hid (growR_t S t he (rkT t 0) 0 (Nat.le_refl _) (treeErr_zero he).1 w2 _ HT2.out)
    have hsize := sizeR_toR he
    have hord := sizeR_ord (toR t)
    have HSI := Lib.hid (And.intro hsize hord)
    clear hrb2 he hsize hord
    go_wp2_with fail
    refine HGR.out.mono ?_
    rintro e w3 ⟨hu3, v3, rfl, hr3⟩
    have HU3 := Lib.hid hu3
    have HOD := Lib.hid (ordered_t _ 64 (toR t) HSI.out.1 (by omega) w3 _ hr3)
    clear hu3 hr3 HGR
    go_wp2_with fail
    refine HOD.out.mono ?_
    rintro e w4 ⟨hu4, v4, rfl, hr4⟩
    have HU4 := Lib.hid (HU3.out.trans hu4)
    have HNB := Lib.hid (number_t _ w4 _ (ordR (toR t)) hr4 (by have := HSI.out; omega))
    have HS4 : Hid (w.heap.size + 2 ≤ w4.heap.size) := by unfold Hid; have := HU4.out.size; have := HS2.out; omega
    clear hu4 hr4 HOD HU3
    go_wp2_with fail
    refine HNB.out.mono ?_
    rintro e w5 ⟨hu5, _, rfl, P4, N4, rfl, hP4, hN4⟩
    have hP4 : IntsAt (fun b => w4.heap.size ≤ b) w5 P4 (canR t).ps := hP4
    have hN4 : StrsAt (fun b => w4.heap.size ≤ b) w5 N4 (canR t).ns := hN4
    obtain ⟨pp, pc, rfl, _, _⟩ := SlAt.open hP4
    obtain ⟨np, nc, rfl, _, _⟩ := SlAt.open hN4
    have hrb4 := (Below.block (HU4.out.trans hu5) (w.heap.size + 1) (by have := HS2.out; omega)).trans HRB2.out
    have hr0 : w5.cell? ⟨w.heap.size + 1, 0, none⟩ = some (.slice none 0 0) := by simp [World.cell?, hrb4]
    have hr1 : w5.cell? ⟨w.heap.size + 1, 1, none⟩ = some (.slice none 0 0) := by simp [World.cell?, hrb4]
    have hf0 : w5.frozen? ⟨w.heap.size + 1, 0, none⟩ = false := by simp [World.frozen?, hrb4]
    have hf1 : w5.frozen? ⟨w.heap.size + 1, 1, none⟩ = false := by simp [World.frozen?, hrb4]
    have HP4 := Lib.hid hP4
    have HN4 := Lib.hid hN4
    have HST := Lib.hid (store_two (w := w) (p := .slice pp (canR t).ps.length pc) (q := .slice np (canR t).ns.length nc) hrb4 (by omega) (HU2.out.trans (HU4.out.trans hu5)))
    clear hP4 hN4 hu5 hrb4 HNB HRB2 hc0 hc1
    go_wp2_with fail
    obtain ⟨s1, s2, s3, s4⟩ := HST.out
    have hs2 := HS2.out
    have hs4 := HS4.out
    refine ⟨rfl, .tuple #[.agg #[.slice pp (canR t).ps.length pc, .slice np (canR t).ns.length nc], .int .i64 0], by simp [results, Tryz.results34, go_sem, s2, s3], ?_⟩
    exact ⟨s1, .inr ⟨HE.out, _, rfl, _, _, rfl, (IntsAt.keep HP4.out fun b hb _ => s4 b (by omega)).sub fun b hb _ => by omega, (StrsAt.keep HN4.out fun b hb _ => s4 b (by omega)).sub fun b hb _ => by omega⟩⟩
  · have he1 : (treeErr t != 0) = true := by simpa using he
    have hr0 : w2.cell? ⟨w.heap.size + 1, 0, none⟩ = some (.slice none 0 0) := by simp [World.cell?, hrb2]
    have hr1 : w2.cell? ⟨w.heap.size + 1, 1, none⟩ = some (.slice none 0 0) := by simp [World.cell?, hrb2]
    have hf0 : w2.frozen? ⟨w.heap.size + 1, 0, none⟩ = false := by simp [World.frozen?, hrb2]
    have hf1 : w2.frozen? ⟨w.heap.size + 1, 1, none⟩ = false := by simp [World.frozen?, hrb2]
    have HST := Lib.hid (store_two (w := w) (p := .slice none 0 0) (q := .slice none 0 0) hrb2 (by omega) HU2.out)
    have HE := Lib.hid he
    clear he hrb2 hc0 hc1
    generalize treeErr t = te at he1 ⊢
    go_wp2_with fail
    obtain ⟨s1, s2, s3, s4⟩ := HST.out
    refine ⟨rfl, .tuple #[.agg #[.slice none 0 0, .slice none 0 0], .int .i64 1], by simp [results, Tryz.results34, go_sem, s2, s3], ?_⟩
    exact ⟨s1, .inl ⟨HE.out, rfl⟩⟩
end Go.Proofs.YtgjcfkadioblfaaGreat
namespace Go.Proofs.YtgjcfkadioblfaaGreat
open Go.RowKit Go.Deep
theorem less_cmp : ∀ a b : List UInt8, Op.bytesLess a b = decide (Lib.compareBytes a b < 0)
  | [], [] => rfl
  | [], _ :: _ => rfl
  | _ :: _, [] => rfl
  | a :: x, b :: y => by
    rw [Op.bytesLess, Lib.compareBytes, less_cmp x y]
    by_cases h : a < b
    · simp [h]
    · by_cases h2 : b < a
      · have : a ≠ b := by rintro rfl; exact h h2
        simp [h, h2, this]
      · have : a = b := by
          apply UInt8.toNat.inj
          rw [UInt8.lt_iff_toNat_lt] at h h2; omega
        subst this
        simp [h]
theorem lsB_cmp (a b : ByteArray) : lsB a b = decide (cmpS a b < 0) := by
  unfold lsB cmpS; rw [less_cmp, Lib.toList_data, Lib.toList_data]
theorem minS_cmp (a b : ByteArray) : minS a b = if cmpS a b ≤ 0 then a else b := by
  unfold minS
  rw [lsB_cmp]
  by_cases h : a.toList = b.toList
  · have e : a = b := ba_ext (by rw [← Lib.toList_data, ← Lib.toList_data, h])
    subst e
    simp [cmpS_self]
  · have e : cmpS a b ≠ 0 := fun q => h (by rw [cmpS_zero q])
    by_cases h1 : cmpS a b ≤ 0
    · rw [if_pos h1, if_pos]; simp; left; omega
    · rw [if_neg h1, if_neg]; simp [h]; omega
theorem cmpS_le_trans {a b c : ByteArray} (h : cmpS a b ≤ 0) (h' : cmpS b c ≤ 0) : cmpS a c ≤ 0 := by
  by_cases h1 : cmpS a b = 0
  · rw [cmpS_zero h1]; exact h'
  · by_cases h2 : cmpS b c = 0
    · rw [← cmpS_zero h2]; exact h
    · have := cmpS_trans (a := a) (b := b) (c := c) (by omega) (by omega); omega
theorem minS_assoc_l {s a b : ByteArray} (h : cmpS a b ≤ 0) : minS (minS s a) b = minS s a := by
  rw [minS_cmp s a]
  split
  · rename_i h1; rw [minS_cmp, if_pos (cmpS_le_trans h1 h)]
  · rw [minS_cmp, if_pos h]
theorem minS_assoc_r {s a b : ByteArray} (h : ¬ cmpS a b ≤ 0) : minS (minS s a) b = minS s b := by
  have hb := cmpS_anti a b
  rw [minS_cmp s a]
  split
  · rfl
  · rename_i h1
    rw [minS_cmp a b, if_neg h, minS_cmp s b, if_neg]
    intro q
    exact h1 (cmpS_le_trans q (by omega))
def hdMin (s : ByteArray) : List RT → ByteArray
  | [] => s
  | b :: _ => minS s (firstR b)
theorem hdMin_ins (s : ByteArray) (a : RT) : ∀ l, hdMin s (insR a l) = hdMin (minS s (firstR a)) l
  | [] => rfl
  | b :: l => by
    rw [insR]
    split
    · rename_i h; show minS s _ = minS (minS s _) _; rw [minS_assoc_l h]
    · rename_i h; show minS s _ = minS (minS s _) _; rw [minS_assoc_r h]
mutual
theorem lstR_first : ∀ r : RT, lstR r = firstR (sortR r)
  | .node nm [] => by rw [lstR, sortR, sortRs, firstR]
  | .node nm (k :: ks) => by
    rw [lstR, lstRs_first ks, lstR_first k, sortR, sortRs]
    cases h : sortRs ks with
    | nil => rfl
    | cons b l =>
      rw [insR]
      show minS _ _ = _
      rw [minS_cmp]
      split
      · rw [firstR]
      · rw [firstR]
theorem lstRs_first : ∀ (rs : List RT) (s : ByteArray), lstRs s rs = hdMin s (sortRs rs)
  | [], s => by rw [lstRs, sortRs]; rfl
  | r :: rs, s => by rw [lstRs, lstRs_first rs, lstR_first r, sortRs, hdMin_ins]
end
theorem insO_ins {s : ByteArray} {o : RT} (hs : s = firstR o) : ∀ {l : List RT}, (∀ b ∈ l, lstR b = firstR b) → insO s o l = insR o l
  | [], _ => rfl
  | b :: l, h => by
    have hb := h b (by simp)
    have ha := cmpS_anti (firstR b) (firstR o)
    have ih := insO_ins hs (l := l) fun q hq => h q (by simp [hq])
    unfold insO at ih ⊢
    rw [posK, insR, hb, lsB_cmp, hs]
    by_cases e : cmpS (firstR o) (firstR b) ≤ 0
    · rw [if_pos e, if_neg (by simp; omega)]; rfl
    · rw [if_neg e, if_pos (by simp; omega), List.take_succ_cons, List.drop_succ_cons, List.cons_append, ← hs, ih]
theorem insR_comm {a b : RT} (h : firstR a ≠ firstR b) : ∀ l, insR a (insR b l) = insR b (insR a l)
  | [] => by
    have h1 := cmpS_anti (firstR a) (firstR b)
    have h2 : cmpS (firstR a) (firstR b) ≠ 0 := fun q => h (cmpS_zero q)
    simp only [insR]
    by_cases e : cmpS (firstR a) (firstR b) ≤ 0
    · rw [if_pos e, if_neg (by omega)]
    · rw [if_neg e, if_pos (by omega)]
  | c :: l => by
    have h1 := cmpS_anti (firstR a) (firstR b)
    have h2 : cmpS (firstR a) (firstR b) ≠ 0 := fun q => h (cmpS_zero q)
    by_cases ea : cmpS (firstR a) (firstR c) ≤ 0
    · by_cases eb : cmpS (firstR b) (firstR c) ≤ 0
      · by_cases e : cmpS (firstR a) (firstR b) ≤ 0
        · have e' : ¬ cmpS (firstR b) (firstR a) ≤ 0 := by omega
          simp only [insR, ea, eb, e, e', if_true, if_false]
        · have e' : cmpS (firstR b) (firstR a) ≤ 0 := by omega
          simp only [insR, ea, eb, e, e', if_true, if_false]
      · have e' : ¬ cmpS (firstR b) (firstR a) ≤ 0 := fun q => eb (cmpS_le_trans q ea)
        simp only [insR, ea, eb, e', if_true, if_false]
    · by_cases eb : cmpS (firstR b) (firstR c) ≤ 0
      · have e' : ¬ cmpS (firstR a) (firstR b) ≤ 0 := fun q => ea (cmpS_le_trans q eb)
        simp only [insR, ea, eb, e', if_true, if_false]
      · simp only [insR, ea, eb, if_false]
        rw [insR_comm h l]
theorem mem_insR {a x : RT} : ∀ {l : List RT}, x ∈ insR a l ↔ x = a ∨ x ∈ l
  | [] => by simp [insR]
  | b :: l => by
    rw [insR]
    split
    · simp
    · rw [List.mem_cons, mem_insR (l := l), List.mem_cons]
      constructor
      · rintro (h | h | h) <;> simp [h]
      · rintro (h | h | h) <;> simp [h]
/-- The children's first leaves differ, all the way down. -/
def Dst (r : RT) : Prop := ∀ s ∈ subR r, (s.kids.map fun k => firstR (sortR k)).Nodup
def foldI (acc : List RT) : List RT → List RT
  | [] => acc
  | c :: cs => insR (sortR c) (foldI acc cs)
theorem foldI_ins {a : RT} : ∀ (cs acc : List RT), (∀ c ∈ cs, firstR a ≠ firstR (sortR c)) → foldI (insR a acc) cs = insR a (foldI acc cs)
  | [], _, _ => rfl
  | c :: cs, acc, h => by
    rw [foldI, foldI, foldI_ins cs acc (fun q hq => h q (by simp [hq])), insR_comm (h c (by simp))]
theorem foldI_nil : ∀ cs : List RT, foldI [] cs = sortRs cs
  | [] => by rw [foldI, sortRs]
  | c :: cs => by rw [foldI, sortRs, foldI_nil cs]
mutual
theorem ord_sort : ∀ r : RT, Dst r → ordR r = sortR r
  | .node nm ks, h => by
    have h0 := h (.node nm ks) (by rw [subR]; simp)
    rw [ordR, sortR, ords_sort ks [] (fun s hs => h s (by rw [subR]; simp [hs])) h0 (by simp), foldI_nil]
theorem ords_sort : ∀ (cs acc : List RT), (∀ s ∈ subRs cs, (s.kids.map fun k => firstR (sortR k)).Nodup) → (cs.map fun k => firstR (sortR k)).Nodup → (∀ b ∈ acc, lstR b = firstR b) → ordRs acc cs = foldI acc cs
  | [], acc, _, _, _ => by rw [ordRs, foldI]
  | c :: cs, acc, h, hn, ha => by
    have hc := ord_sort c (fun s hs => h s (by rw [subRs]; simp [hs]))
    have hl : lstR (sortR c) = firstR (sortR c) := by rw [lstR_first, sortR_idem]
    rw [List.map_cons, List.nodup_cons] at hn
    rw [ordRs, hc, insO_ins (lstR_first c) ha, ords_sort cs _ (fun s hs => h s (by rw [subRs]; simp [hs])) hn.2 (fun b hb => by
      rcases mem_insR.1 hb with rfl | hb
      · exact hl
      · exact ha b hb), foldI, foldI_ins cs acc]
    intro q hq e
    exact hn.1 (List.mem_map.2 ⟨q, hq, e.symm⟩)
end
mutual
theorem nsR_subl : ∀ (r s : RT), s ∈ subR r → (nsR s).Sublist (nsR r)
  | .node nm ks, s, h => by
    rw [subR, List.mem_cons] at h
    rcases h with rfl | h
    · exact List.Sublist.refl _
    · rw [nsR]; exact (nsRs_subl ks s h).trans (List.sublist_cons_self _ _)
theorem nsRs_subl : ∀ (rs : List RT) (s : RT), s ∈ subRs rs → (nsR s).Sublist (nsRs rs)
  | [], s, h => by simp [subRs] at h
  | r :: rs, s, h => by
    rw [subRs, List.mem_append] at h
    rw [nsRs]
    rcases h with h | h
    · exact (nsR_subl r s h).trans (List.sublist_append_left _ _)
    · exact (nsRs_subl rs s h).trans (List.sublist_append_right _ _)
end
theorem leafR_sub {r s : RT} (h : s ∈ subR r) : (leafR s).Sublist (leafR r) := (nsR_subl r s h).filter _
theorem subR_self (r : RT) : r ∈ subR r := by cases r; rw [subR]; simp
theorem first_leaf : ∀ r : RT, (∀ s ∈ subR r, s.kids = [] → namedB s.nm.data.toList = true) → firstR r ∈ leafR r
  | .node nm [], h => by
    have h1 : namedB nm.data.toList = true := h (.node nm []) (subR_self _) rfl
    rw [leafR_leaf (named_size h1), firstR]; simp
  | .node nm (k :: ks), h => by
    have hk : ∀ s ∈ subR k, s ∈ subR (.node nm (k :: ks)) := fun s hs => by rw [subR, subRs]; simp [hs]
    rw [firstR]
    exact (leafR_sub (hk k (subR_self k))).subset (first_leaf k fun s hs => h s (hk s hs))
theorem mem_subRs {k : RT} : ∀ {ks : List RT}, k ∈ ks → ∀ s ∈ subR k, s ∈ subRs ks
  | b :: ks, h, s, hs => by
    rw [subRs, List.mem_append]
    rcases List.mem_cons.1 h with rfl | h
    · exact .inl hs
    · exact .inr (mem_subRs h s hs)
mutual
theorem subR_trans : ∀ (r : RT) {s u : RT}, s ∈ subR r → u ∈ subR s → u ∈ subR r
  | .node nm ks, s, u, h, hu => by
    rw [subR, List.mem_cons] at h
    rcases h with rfl | h
    · exact hu
    · rw [subR]; exact List.mem_cons_of_mem _ (subRs_trans ks h hu)
theorem subRs_trans : ∀ (rs : List RT) {s u : RT}, s ∈ subRs rs → u ∈ subR s → u ∈ subRs rs
  | [], s, u, h, _ => by simp [subRs] at h
  | r :: rs, s, u, h, hu => by
    rw [subRs, List.mem_append] at h ⊢
    rcases h with h | h
    · exact .inl (subR_trans r h hu)
    · exact .inr (subRs_trans rs h hu)
end
theorem good_dst {r : RT} (h : GoodR r) : Dst r := by
  intro s hs
  have hnd : (leafR s).Nodup := (leafR_sub hs).nodup h.nd
  obtain ⟨nm, ks⟩ := s
  show (ks.map _).Nodup
  by_cases hk : ks = []
  · subst hk; simp
  · rw [leafR_node (nm := nm) (ks := ks) (h.inn (.node nm ks) hs hk)] at hnd
    have hmem : ∀ k ∈ ks, firstR (sortR k) ∈ leafR k := fun k hk => (leafR_sort k).mem_iff.1 (first_leaf _ fun q hq hqk => by
      obtain ⟨x, hx, rfl⟩ := List.mem_map.1 ((subR_sort k).mem_iff.1 hq)
      rw [sortR_kids] at hqk
      rw [sortR_nm]
      exact h.lf x (subR_trans r hs (by rw [subR]; exact List.mem_cons_of_mem _ (mem_subRs hk x hx))) (sortRs_nil.1 hqk))
    clear hs hk
    induction ks with
    | nil => simp
    | cons k ks ih =>
      rw [List.flatMap_cons, List.nodup_append] at hnd
      rw [List.map_cons, List.nodup_cons]
      refine ⟨fun hm => ?_, ih hnd.2.1 fun q hq => hmem q (by simp [hq])⟩
      obtain ⟨q, hq, e⟩ := List.mem_map.1 hm
      exact hnd.2.2 _ (hmem k (by simp)) _ (List.mem_flatMap.2 ⟨q, hq, hmem q (by simp [hq])⟩) e.symm
theorem canR_canT {t : Tre} (h : treeErr t = 0) : canR t = canT t := by
  unfold canR
  rw [ord_sort _ (good_dst (good_toR h)), canT_flat h]
end Go.Proofs.YtgjcfkadioblfaaGreat
namespace Go.Proofs.YtgjcfkadioblfaaGreat
structure OkU (r : RT) : Prop where
  nd : (leafR r).Nodup
  pt : ∀ s ∈ subR r, PartOk s
theorem OkU.good {r : RT} (h : OkU r) : GoodR r := ⟨fun s hs hk => (h.pt s hs).1 hk, fun s hs hk => (h.pt s hs).2.1 hk, h.nd⟩
theorem OkU.sub {r s : RT} (h : OkU r) (hs : s ∈ subR r) : OkU s := ⟨(leafR_sub hs).nodup h.nd, fun q hq => h.pt q (subR_trans r hs hq)⟩
theorem OkU.first {r : RT} (h : OkU r) : firstR r ∈ leafR r := first_leaf r h.good.lf
theorem mem_kid {nm : ByteArray} {ks : List RT} {k : RT} (hk : k ∈ ks) : k ∈ subR (.node nm ks) := by
  rw [subR]; exact List.mem_cons_of_mem _ (mem_subRs hk k (subR_self k))
theorem OkU.leafs {nm : ByteArray} {ks : List RT} (h : OkU (.node nm ks)) (h0 : ks ≠ []) : leafR (.node nm ks) = ks.flatMap leafR :=
  leafR_node ((h.pt _ (subR_self _)).1 h0)
theorem OkU.apart {nm : ByteArray} {ks : List RT} (h : OkU (.node nm ks)) {i j : Nat} (hi : i < ks.length) (hj : j < ks.length) {x : ByteArray} (h1 : x ∈ leafR ks[i]) (h2 : x ∈ leafR ks[j]) : i = j := by
  have h0 : ks ≠ [] := fun e => by subst e; simp at hi
  have hn := h.nd
  rw [h.leafs h0, List.nodup_iff_pairwise_ne, List.pairwise_flatMap] at hn
  have hp := List.pairwise_iff_getElem.1 hn.2
  rcases Nat.lt_trichotomy i j with c | c | c
  · exact absurd rfl (hp i j hi hj c x h1 x h2)
  · exact c
  · exact absurd rfl (hp j i hj hi c x h2 x h1)
theorem OkU.same_kid {nm : ByteArray} {ks : List RT} (h : OkU (.node nm ks)) {k k' : RT} (hk : k ∈ ks) (hk' : k' ∈ ks) {x : ByteArray} (h1 : x ∈ leafR k) (h2 : x ∈ leafR k') : k = k' := by
  obtain ⟨i, hi, rfl⟩ := List.getElem_of_mem hk
  obtain ⟨j, hj, rfl⟩ := List.getElem_of_mem hk'
  have := h.apart hi hj h1 h2
  subst this; rfl
/-- A child lacks some leaf. -/
theorem OkU.lacks {nm : ByteArray} {ks : List RT} (h : OkU (.node nm ks)) {k : RT} (hk : k ∈ ks) : ∃ x ∈ leafR (.node nm ks), x ∉ leafR k := by
  have h0 : ks ≠ [] := fun e => by subst e; simp at hk
  have h1 : ks.length ≠ 1 := (h.pt _ (subR_self _)).2.2
  have h2 : 2 ≤ ks.length := by
    have := List.length_pos_of_mem hk
    omega
  obtain ⟨i, hi, rfl⟩ := List.getElem_of_mem hk
  obtain ⟨j, hj, hij⟩ : ∃ j, j < ks.length ∧ i ≠ j := by
    by_cases c : i = 0
    · exact ⟨1, by omega, by omega⟩
    · exact ⟨0, by omega, c⟩
  have hf := (h.sub (mem_kid (List.getElem_mem hj))).first
  refine ⟨firstR ks[j], ?_, fun q => hij (h.apart hi hj q hf)⟩
  rw [h.leafs h0]
  exact List.mem_flatMap.2 ⟨_, List.getElem_mem hj, hf⟩
theorem OkU.two {nm : ByteArray} {ks : List RT} (h : OkU (.node nm ks)) (h0 : ks ≠ []) (y : ByteArray) : ∃ x ∈ leafR (.node nm ks), x ≠ y := by
  obtain ⟨k, hk⟩ := List.exists_mem_of_ne_nil _ h0
  obtain ⟨x, hx, hn⟩ := h.lacks hk
  have hf := (h.sub (mem_kid hk)).first
  by_cases c : x = y
  · subst c
    refine ⟨firstR k, (leafR_sub (mem_kid hk)).subset hf, fun e => hn ?_⟩
    rw [← e]; exact hf
  · exact ⟨x, hx, c⟩
def SameL (r s : RT) : Prop := ∀ x, x ∈ leafR r ↔ x ∈ leafR s
def FamIn (r1 r2 : RT) : Prop := ∀ s ∈ subR r1, ∃ u ∈ subR r2, SameL s u
theorem fam_root {r1 r2 : RT} (h1 : FamIn r1 r2) (h2 : FamIn r2 r1) : SameL r1 r2 := by
  obtain ⟨u, hu, e⟩ := h1 r1 (subR_self _)
  obtain ⟨v, hv, f⟩ := h2 r2 (subR_self _)
  exact fun x => ⟨fun hx => (leafR_sub hu).subset ((e x).1 hx), fun hx => (leafR_sub hv).subset ((f x).1 hx)⟩
theorem mem_subRs_ex {u : RT} {ks : List RT} (h : u ∈ subRs ks) : ∃ k ∈ ks, u ∈ subR k := by
  rw [subRs_flat] at h
  obtain ⟨k, hk, hu⟩ := List.mem_flatMap.1 h
  exact ⟨k, hk, hu⟩
/-- A part below a child of the one lies below a child of the other. -/
theorem fam_kid {n1 n2 : ByteArray} {k1 k2 : List RT} (o1 : OkU (.node n1 k1)) (h1 : FamIn (.node n1 k1) (.node n2 k2)) (hs : SameL (.node n1 k1) (.node n2 k2)) {k : RT} (hk : k ∈ k1) {s : RT} (hsk : s ∈ subR k) :
    ∃ q ∈ k2, ∃ u ∈ subR q, SameL s u := by
  obtain ⟨u, hu, e⟩ := h1 s (subR_trans _ (mem_kid hk) hsk)
  rw [subR, List.mem_cons] at hu
  rcases hu with rfl | hu
  · obtain ⟨x, hx, hn⟩ := o1.lacks hk
    exact absurd ((leafR_sub hsk).subset ((e x).2 ((hs x).1 hx))) hn
  · obtain ⟨q, hq, hu⟩ := mem_subRs_ex hu
    exact ⟨q, hq, u, hu, e⟩
theorem ins_perm {a b : List RT} (h : a.Perm b) : (a.map firstR).Nodup → a.foldr insR [] = b.foldr insR [] := by
  induction h with
  | nil => intro _; rfl
  | cons x _ ih => intro hn; rw [List.foldr_cons, List.foldr_cons, ih (by rw [List.map_cons, List.nodup_cons] at hn; exact hn.2)]
  | swap x y l =>
    intro hn
    simp only [List.foldr_cons]
    rw [List.map_cons, List.nodup_cons, List.map_cons] at hn
    exact insR_comm (fun e => hn.1 (by rw [e]; simp)) _
  | trans p _ ih1 ih2 => intro hn; rw [ih1 hn, ih2 ((p.map _).nodup_iff.1 hn)]
theorem sortRs_fold : ∀ l : List RT, sortRs l = (l.map sortR).foldr insR []
  | [] => by rw [sortRs]; rfl
  | r :: l => by rw [sortRs, sortRs_fold l]; rfl
theorem size0_eq {a b : ByteArray} (ha : a.size = 0) (hb : b.size = 0) : a = b := by
  apply ByteArray.ext
  apply Array.ext
  · show a.size = b.size; omega
  · intro i hi _; have : i < a.size := hi; omega
theorem uniq_sort : ∀ (d : Nat) (r1 r2 : RT), sizeR r1 ≤ d → OkU r1 → OkU r2 → FamIn r1 r2 → FamIn r2 r1 → sortR r1 = sortR r2
  | 0, r1, _, hd, _, _, _, _ => by have := sizeR_pos r1; omega
  | d + 1, .node n1 k1, .node n2 k2, hd, o1, o2, h1, h2 => by
    have hs := fam_root h1 h2
    have hs' : SameL (.node n2 k2) (.node n1 k1) := fun x => (hs x).symm
    by_cases e1 : k1 = []
    · subst e1
      have hz1 := named_size ((o1.pt _ (subR_self _)).2.1 rfl)
      have l1 : leafR (.node n1 []) = [n1] := leafR_leaf hz1
      by_cases e2 : k2 = []
      · subst e2
        have hz2 := named_size ((o2.pt _ (subR_self _)).2.1 rfl)
        have l2 : leafR (.node n2 []) = [n2] := leafR_leaf hz2
        have := (hs n1).1 (by rw [l1]; simp)
        rw [l2, List.mem_singleton] at this
        rw [this]
      · obtain ⟨x, hx, hn⟩ := o2.two e2 n1
        have := (hs x).2 hx
        rw [l1, List.mem_singleton] at this
        exact absurd this hn
    · by_cases e2 : k2 = []
      · subst e2
        have hz2 := named_size ((o2.pt _ (subR_self _)).2.1 rfl)
        have l2 : leafR (.node n2 []) = [n2] := leafR_leaf hz2
        obtain ⟨x, hx, hn⟩ := o1.two e1 n2
        have := (hs x).1 hx
        rw [l2, List.mem_singleton] at this
        exact absurd this hn
      · have hz1 := (o1.pt _ (subR_self _)).1 e1
        have hz2 : n2.size = 0 := (o2.pt _ (subR_self _)).1 e2
        have sub1 : ∀ k ∈ k1, OkU k := fun k hk => o1.sub (mem_kid hk)
        have sub2 : ∀ k ∈ k2, OkU k := fun k hk => o2.sub (mem_kid hk)
        -- children match
        have key : ∀ {n1 n2 : ByteArray} {k1 k2 : List RT}, OkU (.node n1 k1) → OkU (.node n2 k2) → FamIn (.node n1 k1) (.node n2 k2) → FamIn (.node n2 k2) (.node n1 k1) → SameL (.node n1 k1) (.node n2 k2) → SameL (.node n2 k2) (.node n1 k1) →
            ∀ k ∈ k1, ∃ q ∈ k2, SameL k q ∧ FamIn k q ∧ FamIn q k := by
          intro n1 n2 k1 k2 o1 o2 h1 h2 hs hs' k hk
          obtain ⟨q, hq, u, hu, e⟩ := fam_kid o1 h1 hs hk (subR_self k)
          obtain ⟨k', hk', u', hu', e'⟩ := fam_kid o2 h2 hs' hq (subR_self q)
          have hf := (o1.sub (mem_kid hk)).first
          have hfq : firstR k ∈ leafR q := (leafR_sub hu).subset ((e _).1 hf)
          have hkk : k = k' := o1.same_kid hk hk' hf ((leafR_sub hu').subset ((e' _).1 hfq))
          subst hkk
          have hsame : SameL k q := fun x => ⟨fun hx => (leafR_sub hu).subset ((e x).1 hx), fun hx => (leafR_sub hu').subset ((e' x).1 hx)⟩
          refine ⟨q, hq, hsame, fun s hsk => ?_, fun s hsq => ?_⟩
          · obtain ⟨q2, hq2, v, hv, ev⟩ := fam_kid o1 h1 hs hk hsk
            have hfs := ((o1.sub (mem_kid hk)).sub hsk).first
            have := o2.same_kid hq hq2 ((hsame _).1 ((leafR_sub hsk).subset hfs)) ((leafR_sub hv).subset ((ev _).1 hfs))
            subst this
            exact ⟨v, hv, ev⟩
          · obtain ⟨q2, hq2, v, hv, ev⟩ := fam_kid o2 h2 hs' hq hsq
            have hfs := ((o2.sub (mem_kid hq)).sub hsq).first
            have := o1.same_kid hk hq2 ((hsame _).2 ((leafR_sub hsq).subset hfs)) ((leafR_sub hv).subset ((ev _).1 hfs))
            subst this
            exact ⟨v, hv, ev⟩
        have hsz : ∀ k ∈ k1, sizeR k ≤ d := fun k hk => by
          rw [sizeR] at hd
          have : ∀ l : List RT, k ∈ l → sizeR k ≤ sizeRs l := fun l => by
            induction l with
            | nil => intro h; cases h
            | cons a l ih =>
              intro h
              rw [sizeRs]
              rcases List.mem_cons.1 h with rfl | h
              · omega
              · have := ih h; omega
          have := this k1 hk
          omega
        have m1 : ∀ k ∈ k1, ∃ q ∈ k2, sortR k = sortR q := fun k hk => by
          obtain ⟨q, hq, _, f1, f2⟩ := key o1 o2 h1 h2 hs hs' k hk
          exact ⟨q, hq, uniq_sort d k q (hsz k hk) (sub1 k hk) (sub2 q hq) f1 f2⟩
        have m2 : ∀ q ∈ k2, ∃ k ∈ k1, sortR q = sortR k := fun q hq => by
          obtain ⟨k, hk, _, f1, f2⟩ := key o2 o1 h2 h1 hs' hs q hq
          exact ⟨k, hk, (uniq_sort d k q (hsz k hk) (sub1 k hk) (sub2 q hq) f2 f1).symm⟩
        have d1 : ((k1.map sortR).map firstR).Nodup := by rw [List.map_map]; exact good_dst o1.good _ (subR_self _)
        have d2 : ((k2.map sortR).map firstR).Nodup := by rw [List.map_map]; exact good_dst o2.good _ (subR_self _)
        have nd : ∀ {l : List RT}, (l.map firstR).Nodup → l.Nodup := fun {l} h => by
          unfold List.Nodup at h ⊢
          rw [List.pairwise_map] at h
          exact h.imp fun h e => h (by rw [e])
        have hp : (k1.map sortR).Perm (k2.map sortR) := (List.perm_ext_iff_of_nodup (nd d1) (nd d2)).2 fun x => by
          constructor
          · intro hx
            obtain ⟨k, hk, rfl⟩ := List.mem_map.1 hx
            obtain ⟨q, hq, e⟩ := m1 k hk
            exact List.mem_map.2 ⟨q, hq, e.symm⟩
          · intro hx
            obtain ⟨q, hq, rfl⟩ := List.mem_map.1 hx
            obtain ⟨k, hk, e⟩ := m2 q hq
            exact List.mem_map.2 ⟨k, hk, e.symm⟩
        rw [sortR, sortR, sortRs_fold, sortRs_fold, ins_perm hp d1, size0_eq (a := n1) (b := n2) hz1 hz2]
end Go.Proofs.YtgjcfkadioblfaaGreat
