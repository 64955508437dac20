/- The contract of phylotree.Print. Valid trees and their texts, plain: what the statements on texts, equal trees and canonical trees say. The parts of the rerooted tree, plain: which sets of leaves they have. -/
import Derived.Test.YtcaialhoclodjaaQ19
import Derived.Test.YtcaialhoclodjaaQ20
import Derived.Test.YtcaialhoclodjaaQ16
import Derived.Test.YtcaialhoclodjaaQ18
namespace Go.Proofs.Ytcaialhoclodjaa
open Go.RowKit Go.Deep
mutual
theorem txR_len {M : Nat} : ∀ r : RT, (∀ s ∈ nsR r, s.size ≤ M) → (txR r).length + 1 ≤ sizeR r * (M + 3)
  | .node nm [], h => by
    rw [txR, sizeR, sizeRs]
    have h1 := h nm (by rw [nsR]; simp)
    have h2 : nm.data.toList.length = nm.size := by rw [Array.length_toList]; rfl
    omega
  | .node nm (k :: ks), h => by
    have h1 := txR_len k (fun s hs => h s (by rw [nsR, nsRs]; simp [hs]))
    have h2 := txRs_len ks (fun s hs => h s (by rw [nsR, nsRs]; simp [hs]))
    rw [txR, sizeR, sizeRs]
    simp only [List.length_cons, List.length_append, List.length_nil]
    rw [Nat.add_mul, Nat.add_mul]
    omega
theorem txRs_len {M : Nat} : ∀ rs : List RT, (∀ s ∈ nsRs rs, s.size ≤ M) → (txRs rs).length ≤ sizeRs rs * (M + 3)
  | [], _ => by rw [txRs]; exact Nat.zero_le _
  | r :: rs, h => by
    have h1 := txR_len r (fun s hs => h s (by rw [nsRs]; simp [hs]))
    have h2 := txRs_len rs (fun s hs => h s (by rw [nsRs]; simp [hs]))
    rw [txRs, sizeRs]
    simp only [List.length_cons, List.length_append]
    rw [Nat.add_mul]
    omega
end
theorem nsR_toRF {F : Frs} {n : Nat} {rk : Nat → Nat} (h : Wf F n rk) {i : Nat} (hi : i < n) : nsR (toRF F rk i) = (nodesF F rk i).map F.nm := by
  rw [nsR_sub, subR_toRF h hi (Nat.le_refl _), List.map_map]
  refine List.map_congr_left fun z hz => ?_
  exact toRF_nm h (subF_lt h hi (Nat.le_refl _) ((mem_nodesF h hi (Nat.le_refl _)).1 hz))
theorem txT_len {t : Tre} (h : treeErr t = 0) {M : Nat} (hz : ∀ k, (gs t.ns k).size ≤ M) : (txR (toR t)).length + 1 ≤ 64 * (M + 3) := by
  obtain ⟨hp, hp64, _⟩ := treeErr_zero h
  have h1 := txR_len (M := M) (toR t) (fun s hs => by
    unfold toR at hs
    rw [nsR_toRF (frT_arb h).wf hp] at hs
    obtain ⟨z, _, rfl⟩ := List.mem_map.1 hs
    exact hz z)
  have h2 : sizeR (toR t) ≤ t.ps.length := good_size (frT_arb h).wf hp (good_toR h)
  exact Nat.le_trans h1 (Nat.mul_le_mul_right _ (by omega))
def txE (t : Tre) : Int := if treeErr t ≠ 0 then 1 else 0
def txT (t : Tre) : List UInt8 := if treeErr t ≠ 0 then [] else txR (toR t) ++ [59]
def TxPost (w : World) (t : Tre) (e : Ending) (w' : World) : Prop := Up w w' ∧ e = .returned (.tuple #[.string ⟨(txT t).toArray⟩, .int .i64 (txE t)])
set_option maxRecDepth 100000 in
set_option maxHeartbeats 4000000 in
theorem print_t (S : Nat → Prop) (w : World) (v : Value) (t : Tre) (hT : TreeAt S w v t) (hp : t.ps.length ≤ 1000000) (hn : t.ns.length ≤ 1000000) (hz : ∀ k, (gs t.ns k).size ≤ 70000) :
    Calls Try.prog 23 #[v] w (TxPost w t) := by
  obtain ⟨P, N, rfl, hP, hN⟩ := hT
  obtain ⟨pp, pc, rfl, _, _⟩ := SlAt.open hP
  obtain ⟨pn, pm, rfl, _, _⟩ := SlAt.open hN
  have hP : IntsAt S w (.slice pp t.ps.length pc) t.ps := hP
  have hN : StrsAt S w (.slice pn t.ns.length pm) t.ns := hN
  have ha := Up.alloc w (.cells #[.slice pp t.ps.length pc, .slice pn t.ns.length pm] 25)
  have HC0 := Lib.hid (box2_0 w (.slice pp t.ps.length pc) (.slice pn t.ns.length pm) 25)
  have HC1 := Lib.hid (box2_1 w (.slice pp t.ps.length pc) (.slice pn t.ns.length pm) 25)
  have hsz : (w.alloc (.cells #[.slice pp t.ps.length pc, .slice pn t.ns.length pm] 25)).heap.size = w.heap.size + 1 := by simp
  have HU := Lib.hid ha
  have HT1 : Hid (TreeAt S _ _ t) := TreeAt.keep ⟨_, _, rfl, hP, hN⟩ (ha.kept S)
  have HSZ := Lib.hid hsz
  have HZ := Lib.hid hz
  have hc0 := HC0.out
  have hc1 := HC1.out
  have HCK := Lib.hid (check_t S _ _ t HT1.out hp hn hz)
  have HXE : Hid (txE t = if treeErr t ≠ 0 then 1 else 0) := rfl
  have HXT : Hid (txT t = if treeErr t ≠ 0 then [] else txR (toR t) ++ [59]) := rfl
  clear ha hP hN hsz hz
  go_enter Try.func23, Try.ntmps23
  go_wp2_with fail
  generalize w.alloc (.cells #[.slice pp t.ps.length pc, .slice pn t.ns.length pm] 25) = w1 at *
  refine HCK.out.mono ?_
  rintro e w2 ⟨rfl, hu2⟩
  have hu2 : Up w1 w2 := hu2
  have HU2 := Lib.hid hu2
  have HUW := Lib.hid (HU.out.trans hu2)
  have hc0 := hu2.cell HC0.out
  have hc1 := hu2.cell HC1.out
  clear hu2 HCK
  by_cases he : treeErr t = 0
  · obtain ⟨hp0, hp64, hnl, hok, _⟩ := treeErr_zero he
    have HTE := Lib.hid he
    rw [he]
    have HT2 := Lib.hid (TreeAt.keep HT1.out (HU2.out.kept S))
    clear he hnl hok
    go_wp2_with fail
    have hb := blk_alloc_new w2 (.cells #[.pointer none, .slice none 0 0] 80)
    have hu3 := Up.alloc w2 (.cells #[.pointer none, .slice none 0 0] 80)
    have hs3 : (w2.alloc (.cells #[.pointer none, .slice none 0 0] 80)).heap.size = w2.heap.size + 1 := World.size_alloc _ _
    have hfb := blk_alloc_new (w2.alloc (.cells #[.pointer none, .slice none 0 0] 80)) (.cells #[.func (.func 51) #[] #[.pointer (some ⟨w2.heap.size, 0, none⟩), .pointer (some ⟨w2.heap.size + 1, 0, none⟩)]] 81)
    have hu4 := Up.alloc (w2.alloc (.cells #[.pointer none, .slice none 0 0] 80)) (.cells #[.func (.func 51) #[] #[.pointer (some ⟨w2.heap.size, 0, none⟩), .pointer (some ⟨w2.heap.size + 1, 0, none⟩)]] 81)
    have hs4 : ((w2.alloc (.cells #[.pointer none, .slice none 0 0] 80)).alloc (.cells #[.func (.func 51) #[] #[.pointer (some ⟨w2.heap.size, 0, none⟩), .pointer (some ⟨w2.heap.size + 1, 0, none⟩)]] 81)).heap.size = w2.heap.size + 2 := by rw [World.size_alloc, hs3]
    have hb4 := (blk_alloc_lt (w2.alloc (.cells #[.pointer none, .slice none 0 0] 80)) (.cells #[.func (.func 51) #[] #[.pointer (some ⟨w2.heap.size, 0, none⟩), .pointer (some ⟨w2.heap.size + 1, 0, none⟩)]] 81) w2.heap.size (by omega)).trans hb
    rw [hs3] at hfb
    have hc04 := (hu3.trans hu4).cell hc0
    have hc14 := (hu3.trans hu4).cell hc1
    have HU4 := Lib.hid (hu3.trans hu4)
    clear hb hu3 hu4 hs3 hc0 hc1
    generalize (w2.alloc (.cells #[.pointer none, .slice none 0 0] 80)).alloc (.cells #[.func (.func 51) #[] #[.pointer (some ⟨w2.heap.size, 0, none⟩), .pointer (some ⟨w2.heap.size + 1, 0, none⟩)]] 81) = w4 at *
    have HBX : Hid (PrBox w2.heap.size (w2.heap.size + 1) w4) := hfb
    have hfc := HBX.out.cell
    have HB4 := Lib.hid hb4
    have HS4 := Lib.hid hs4
    clear hs4 hb4 hfb
    refine region_T (by kernel_rfl) 6 (fun w' => w'.cell? ⟨w2.heap.size + 1, 0, none⟩ = some (.func (.func 51) #[] #[.pointer (some ⟨w2.heap.size, 0, none⟩), .pointer (some ⟨w2.heap.size + 1, 0, none⟩)]) ∧ w'.cell? ⟨w.heap.size, 0, none⟩ = some (.slice pp t.ps.length pc) ∧ w'.cell? ⟨w.heap.size, 1, none⟩ = some (.slice pn t.ns.length pm)) ⟨hfc, hc04, hc14⟩ (fun hS => ?_)
    simp only [List.size_toArray, List.length_cons, List.length_nil, Nat.reduceAdd, Array.replicate_succ, Array.replicate_zero, List.push_toArray, List.nil_append, List.cons_append]
    refine anyT.take (i := 0) (v := ?gv0k1) rfl (by kernel_rfl) (fun _ _ _ h => h) (by rfl) (fun w hSw => ?gy0k1) hS ?gr0k1
    case gy0k1 =>
      (try dsimp only at hSw)
      go_simp
      try with_reducible rfl
    try simp only [Act.put, List.setIfInBounds_toArray, List.set_cons_zero, List.set_cons_succ]
    refine anyT.take (i := 1) (v := ?gv1k1) rfl (by kernel_rfl) (fun _ _ _ h => h) (by rfl) (fun w hSw => ?gy1k1) hS ?gr1k1
    case gy1k1 =>
      (try dsimp only at hSw)
      go_simp
      try with_reducible rfl
    try simp only [Act.put, List.setIfInBounds_toArray, List.set_cons_zero, List.set_cons_succ]
    refine anyT.step (i := 2) rfl (by kernel_rfl) (fun K' hK => ?_)
    go_simp
    have HUD : Hid (Up w4 w4.drew) := Up.drewN w4 1
    obtain ⟨_, _, hnl, hok, _⟩ := treeErr_zero HTE.out
    have HND := Lib.hid (nodes2_t S w4.drew _ t (TreeAt.keep HT2.out ((HU4.out.trans HUD.out).kept S)) (by omega) hnl hok HZ.out)
    refine HND.out.mono ?_
    rintro e w5 ⟨hu5, g, A, kv, hgl, rfl, hF, hrow⟩
    have hr0 := hrow.cell (i := 0) hp0
    simp only [nptr] at hr0
    have HU5 := Lib.hid (HUD.out.trans hu5)
    have hpos : (0 : Int) < (t.ps.length : Int) := by omega
    refine hK.out _ _ (fun _ => ⟨HU5.out.cell hfc, HU5.out.cell hc04, HU5.out.cell hc14⟩) (fun hS => ?_)
    try simp only [List.setIfInBounds_toArray, List.set_cons_zero, List.set_cons_succ]
    have HF := Lib.hid hF
    have HGL := Lib.hid hgl
    have HX1 : Hid (txE t = 0) := by rw [Hid, HXE.out, if_neg (by simp [HTE.out])]
    have HX2 : Hid (txT t = txR (toR t) ++ [59]) := by rw [Hid, HXT.out, if_neg (by simp [HTE.out])]
    have HLN := Lib.hid (txT_len HTE.out HZ.out)
    have HBL : Hid (Lib.IsBuilderF 80 5 w2.heap.size w2.heap.size (Lib.byteCells []) w5) := .inl ⟨Nat.le_refl _, _, (Below.block HU5.out _ (by rw [HS4.out]; omega)).trans HB4.out, ⟨rfl, .inl ⟨rfl, rfl⟩⟩, fun e => by cases e⟩
    have HBX5 : Hid (PrBox w2.heap.size (w2.heap.size + 1) w5) := (Below.block HU5.out _ (by rw [HS4.out]; omega)).trans HBX.out
    have HSB : Hid (w2.heap.size + 2 ≤ w5.heap.size) := by have := HU5.out.size; rw [HS4.out] at this; exact this
    have HP1 := Lib.hid (print1_t (base := g + 1) (n := t.ps.length) (B := w2.heap.size) (b := w2.heap.size) (fb := w2.heap.size + 1) (frT_arb HTE.out).wf (fun z _ => by have := frT_kids_len t z; omega) (by have := HS4.out; have h2 : w4.heap.size ≤ g := hgl; omega) (by omega) (rkT t 0) 0 [] w5 hp0 (Nat.le_refl _) hF HBX5.out HBL.out (by
      have := HLN.out
      show 0 + (txR (toR t)).length ≤ _
      omega) (by have := HSB.out; omega))
    clear hnl hok hF hgl hrow HND hu5
    refine anyT.step (i := 3) rfl (by kernel_rfl) (fun K' hK => ?_)
    go_simp
    refine hK.out _ _ (fun _ => ⟨HU5.out.cell hfc, HU5.out.cell hc04, HU5.out.cell hc14⟩) (fun hS => ?_)
    try simp only [List.setIfInBounds_toArray, List.set_cons_zero, List.set_cons_succ]
    refine anyT.step (i := 4) rfl (by kernel_rfl) (fun K' hK => ?_)
    go_simp
    refine hK.out _ _ (fun _ => ⟨HU5.out.cell hfc, HU5.out.cell hc04, HU5.out.cell hc14⟩) (fun hS => ?_)
    try simp only [List.setIfInBounds_toArray, List.set_cons_zero, List.set_cons_succ]
    refine anyT.step (i := 5) rfl (by kernel_rfl) (fun K' hK => ?_)
    go_simp
    refine HP1.out.mono ?_
    rintro e w6 ⟨rfl, h6⟩
    refine hK.out _ _ (not_more (by kernel_rfl)) (fun hS => ?_)
    refine anyT.done (by kernel_rfl) ?_
    have HX3 : Hid (toRF (frT t) (rkT t) 0 = toR t) := rfl
    rw [List.nil_append, HX3.out] at h6
    have HB6 := Lib.hid h6
    have HWB := Lib.hid (wbyte_t w2.heap.size w2.heap.size (Lib.byteCells (txR (toR t))) 59 w6 h6.bl (by rw [Lib.byteCells_length]; have := HLN.out; omega) (h6.size (by have := HSB.out; omega)))
    clear h6 HP1 hS hK
    go_wp2_with fail
    refine HWB.out.mono ?_
    rintro e w7 ⟨rfl, h1, h2, h3⟩
    have HB7 := Lib.hid (HB6.out.byte (x := 59) rfl h1 h2 h3)
    have HST := Lib.hid (bstr_t w2.heap.size w2.heap.size (txR (toR t) ++ [59]) w7 HB7.out.bl (HB7.out.size (by have := HSB.out; omega)))
    clear h1 h2 h3
    go_wp2_with fail
    refine HST.out.mono ?_
    rintro e w8 ⟨rfl, _, h2, _⟩
    have HB8 : Hid (Up w2 w8) := Below.trans (HU4.out.trans HU5.out) (HB7.out.up.trans h2)
    clear h2
    go_wp2_with fail
    go_ret2
    exact ⟨HUW.out.trans HB8.out, by rw [HX1.out, HX2.out]; rfl⟩
  · have he1 : (treeErr t != 0) = true := by simpa using he
    have HX1 : Hid (txE t = 1) := by rw [Hid, HXE.out, if_pos he]
    have HX2 : Hid (txT t = []) := by rw [Hid, HXT.out, if_pos he]
    clear he
    generalize treeErr t = te at *
    go_wp2_with fail
    go_ret2
    exact ⟨HUW.out, by rw [HX1.out, HX2.out]; rfl⟩
end Go.Proofs.Ytcaialhoclodjaa
namespace Go.Proofs.Ytcaialhoclodjaa
theorem aln_sp {c : UInt8} (h : aln c = true) : c ∉ sp4 := fun hm => by
  simp only [sp4, List.mem_cons, List.not_mem_nil, or_false] at hm
  rcases hm with rfl | rfl | rfl | rfl <;> exact absurd h (by decide)
theorem named_sp {s : ByteArray} (h : namedB s.data.toList = true) : s.data.toList ≠ [] ∧ ∀ c ∈ s.data.toList, c ∉ sp4 := by
  generalize s.data.toList = l at h ⊢
  unfold namedB at h
  have key : ∀ l : List UInt8, isNameB l = true → l ≠ [] ∧ ∀ c ∈ l, c ∉ sp4 := fun l h => by
    unfold isNameB at h
    simp only [Bool.and_eq_true, decide_eq_true_eq, List.all_eq_true] at h
    exact ⟨fun e => by rw [e] at h; simp at h, fun c hc => aln_sp (h.2 c hc)⟩
  by_cases e : l.getLast? = some 42
  · rw [if_pos e] at h
    simp only [Bool.and_eq_true] at h
    obtain ⟨h1, h2⟩ := key _ h.1
    have hl : l ≠ [] := fun e2 => by subst e2; cases e
    refine ⟨hl, fun c hc => ?_⟩
    rw [← List.dropLast_concat_getLast hl, List.mem_append, List.mem_singleton] at hc
    rcases hc with hc | hc
    · exact h2 c hc
    · rw [List.getLast?_eq_some_getLast hl] at e
      have e := Option.some.inj e
      rw [hc, e]; decide
  · rw [if_neg e] at h; exact key l h
theorem GoodR.okp {r : RT} (h : GoodR r) : OkP r := fun s hs => ⟨h.inn s hs, fun hk => named_sp (h.lf s hs hk)⟩
section
variable {t : Tre}
theorem hit_all0 (h : treeErr t = 0) : ∀ (d j : Nat), j ≤ d → j < t.ps.length → hitB t.ps 0 j = true
  | d, j, hd, hj => by
    by_cases h0 : j = 0
    · subst h0; exact hit_self 0
    · obtain ⟨_, _, _, hok, _⟩ := treeErr_zero h
      have hp := pOkB_par hok hj (by omega)
      rw [hit_step hok hj (by omega)]
      cases d with
      | zero => omega
      | succ d => exact hit_all0 h d _ (by omega) (by omega)
theorem nodes_perm (h : treeErr t = 0) : (nodesF (frT t) (rkT t) 0).Perm (List.range t.ps.length) := by
  have h0 := (treeErr_zero h).1
  refine (List.perm_ext_iff_of_nodup (nodesF_nodup (frT_arb h) (fun i _ => rkT_le t i) h0 (Nat.le_refl _)) List.nodup_range).2 fun j => ?_
  rw [List.mem_range]
  constructor
  · exact mem_nodes_lt h
  · intro hj
    refine (mem_nodesF (frT_arb h).wf h0 (Nat.le_refl _)).2 ?_
    rw [sub_hit h _ 0 j (Nat.le_refl _) h0 hj]
    exact hit_all0 h j j (Nat.le_refl _) hj
theorem ns_perm (h : treeErr t = 0) : (nsR (toR t)).Perm t.ns := by
  rw [nsR_toR h]
  have hl := (treeErr_zero h).2.2.1
  have h1 := (nodes_perm h).map (gs t.ns)
  rw [← hl, range_gs] at h1
  exact h1
theorem leafs_perm (h : treeErr t = 0) : (leafR (toR t)).Perm (fltN t.ns) := (ns_perm h).filter _
theorem leaf_one31 {nm : ByteArray} (h : nm.size ≠ 0) : leafR (.node nm []) = [nm] := by
  unfold leafR
  rw [nsR, nsRs]
  exact List.filter_eq_self.2 fun x hx => decide_eq_true (by rw [List.mem_singleton.1 hx]; exact h)
/-- The leaf that is met first. -/
theorem leaf_head : ∀ (r : RT), (∀ s ∈ subR r, s.kids ≠ [] → s.nm.size = 0) → (∀ s ∈ subR r, s.kids = [] → s.nm.size ≠ 0) → ∃ l, leafR r = firstR r :: l
  | .node nm [], _, h2 => ⟨[], by
    have h := h2 (.node nm []) (by rw [subR]; exact List.mem_cons_self) rfl
    rw [leaf_one31 (nm := nm) h, firstR]⟩
  | .node nm (k :: ks), h1, h2 => by
    have h0 : nm.size = 0 := h1 (.node nm (k :: ks)) (by rw [subR]; exact List.mem_cons_self) (by simp [RT.kids])
    have hk : ∀ s ∈ subR k, s ∈ subR (.node nm (k :: ks)) := fun s hs => by rw [subR, subRs]; simp [hs]
    obtain ⟨l, hl⟩ := leaf_head k (fun s hs => h1 s (hk s hs)) (fun s hs => h2 s (hk s hs))
    rw [leafR_node h0, List.flatMap_cons, hl, firstR]
    exact ⟨_, rfl⟩
theorem GoodR.head {r : RT} (h : GoodR r) : ∃ l, leafR r = firstR r :: l := leaf_head r h.inn fun s hs hk => named_size (h.lf s hs hk)
end
theorem GoodR.kid {nm : ByteArray} {ks : List RT} (h : GoodR (.node nm ks)) {k : RT} (hk : k ∈ ks) : GoodR k := by
  have hs : ∀ s ∈ subR k, s ∈ subR (.node nm ks) := fun s hs => by rw [subR, subRs_flat]; exact List.mem_cons_of_mem _ (List.mem_flatMap.2 ⟨k, hk, hs⟩)
  exact ⟨fun s h1 => h.inn s (hs s h1), fun s h1 => h.lf s (hs s h1), (leafR_sub (hs k (subR_self k))).nodup h.nd⟩
end Go.Proofs.Ytcaialhoclodjaa
namespace Go.Proofs.Ytcaialhoclodjaa
/-- Some part has these leaves. -/
def FamR (r : RT) (X : ByteArray → Prop) : Prop := ∃ s ∈ subR r, ∀ x, X x ↔ x ∈ leafR s
/-- Some part has all other leaves. -/
def CoR (r : RT) (X : ByteArray → Prop) : Prop := ∃ s ∈ subR r, ∀ x, X x ↔ x ∈ leafR r ∧ x ∉ leafR s
/-- The leaves of the parts of a tree that was rerooted at the leaf a. -/
def RrtS (r : RT) (a : ByteArray) (X : ByteArray → Prop) : Prop := (∀ x, X x ↔ x ∈ leafR r) ∨ (∀ x, X x ↔ x = a) ∨ (¬ X a ∧ (∃ x, X x) ∧ (FamR r X ∨ CoR r X))
theorem leaf_reach {F : Frs} {n : Nat} {rk : Nat → Nat} (h : Wf F n rk) {z : Nat} (hz : z < n) {x : ByteArray} : x ∈ leafR (toRF F rk z) ↔ ∃ j, j < n ∧ subF F rk z j = true ∧ (F.nm j).size ≠ 0 ∧ x = F.nm j := by
  unfold leafR
  rw [nsR_toRF h hz, List.mem_filter, List.mem_map]
  constructor
  · rintro ⟨⟨j, hj, rfl⟩, h0⟩
    have hs := (mem_nodesF h hz (Nat.le_refl _)).1 hj
    exact ⟨j, subF_lt h hz (Nat.le_refl _) hs, hs, of_decide_eq_true h0, rfl⟩
  · rintro ⟨j, _, hs, h0, rfl⟩
    exact ⟨⟨j, (mem_nodesF h hz (Nat.le_refl _)).2 hs, rfl⟩, decide_eq_true h0⟩
theorem al_ex {F : Frs} {n : Nat} {rk : Nat → Nat} {P : Nat → Bool} (h : Wf F n rk) : ∀ (d z : Nat), rk z ≤ d → z < n → al F P rk z = true → ∃ j, j < n ∧ subF F rk z j = true ∧ F.kids j = [] ∧ P j = true
  | d, z, hd, hz, ha => by
    rw [al_eq h hz] at ha
    by_cases h0 : F.kids z = []
    · rw [if_pos h0] at ha
      exact ⟨z, hz, subF_self h hz, h0, ha⟩
    · rw [if_neg h0] at ha
      obtain ⟨k, hk, hka⟩ := List.any_eq_true.1 ha
      have hkk := h.kid z hz k hk
      cases d with
      | zero => omega
      | succ d =>
        obtain ⟨j, h1, h2, h3, h4⟩ := al_ex h d k (by omega) hkk.1 hka
        exact ⟨j, h1, subF_kid h hz hk h2, h3, h4⟩
section
variable {t : Tre} {leaf : Nat}
theorem und_iff (h : treeErr t = 0) {z : Nat} (hz : z < t.ps.length) {x : ByteArray} : x ∈ leafR (toRF (frT t) (rkT t) z) ↔ ∃ j, j < t.ps.length ∧ hitB t.ps z j = true ∧ (gs t.ns j).size ≠ 0 ∧ x = gs t.ns j := by
  rw [leaf_reach (frT_arb h).wf hz]
  constructor
  · rintro ⟨j, hj, hs, h0, e⟩
    exact ⟨j, hj, by rw [← sub_hit h _ z j (Nat.le_refl _) hz hj]; exact hs, h0, e⟩
  · rintro ⟨j, hj, hs, h0, e⟩
    exact ⟨j, hj, by rw [sub_hit h _ z j (Nat.le_refl _) hz hj]; exact hs, h0, e⟩
theorem fam_toR (h : treeErr t = 0) {X : ByteArray → Prop} : FamR (toR t) X ↔ ∃ z, z < t.ps.length ∧ ∀ x, X x ↔ ∃ j, j < t.ps.length ∧ hitB t.ps z j = true ∧ (gs t.ns j).size ≠ 0 ∧ x = gs t.ns j := by
  unfold FamR
  rw [subR_toR h]
  constructor
  · rintro ⟨s, hs, hx⟩
    obtain ⟨z, hz, rfl⟩ := List.mem_map.1 hs
    have hz := mem_nodes_lt h hz
    exact ⟨z, hz, fun x => (hx x).trans (und_iff h hz)⟩
  · rintro ⟨z, hz, hx⟩
    exact ⟨_, List.mem_map_of_mem ((nodes_perm h).mem_iff.2 (List.mem_range.2 hz)), fun x => (hx x).trans (und_iff h hz).symm⟩
theorem leaf_all (h : treeErr t = 0) {x : ByteArray} : x ∈ leafR (toR t) ↔ ∃ j, j < t.ps.length ∧ (gs t.ns j).size ≠ 0 ∧ x = gs t.ns j := by
  have h0 := (treeErr_zero h).1
  refine (und_iff h h0).trans ⟨fun ⟨j, h1, _, h2⟩ => ⟨j, h1, h2⟩, fun ⟨j, h1, h2⟩ => ⟨j, h1, hit_all0 h j j (Nat.le_refl _) h1, h2⟩⟩
theorem co_toR (h : treeErr t = 0) {X : ByteArray → Prop} : CoR (toR t) X ↔ ∃ z, z < t.ps.length ∧ ∀ x, X x ↔ x ∈ leafR (toR t) ∧ ¬ ∃ j, j < t.ps.length ∧ hitB t.ps z j = true ∧ (gs t.ns j).size ≠ 0 ∧ x = gs t.ns j := by
  unfold CoR
  rw [subR_toR h]
  constructor
  · rintro ⟨s, hs, hx⟩
    obtain ⟨z, hz, rfl⟩ := List.mem_map.1 hs
    have hz := mem_nodes_lt h hz
    exact ⟨z, hz, fun x => by rw [hx x, und_iff h hz]⟩
  · rintro ⟨z, hz, hx⟩
    exact ⟨_, List.mem_map_of_mem ((nodes_perm h).mem_iff.2 (List.mem_range.2 hz)), fun x => by rw [hx x, und_iff h hz]⟩
theorem LeafOk.inj (h : LeafOk t leaf) {a b : Nat} (ha : a < t.ps.length) (hb : b < t.ps.length) (h0 : (gs t.ns a).size ≠ 0) (e : gs t.ns a = gs t.ns b) : a = b := by
  have ea : (rrF t leaf).nm a = gs t.ns a := upd_ne _ _ (by omega)
  have eb : (rrF t leaf).nm b = gs t.ns b := upd_ne _ _ (by omega)
  exact rr_names h a b (by omega) (by omega) (by rw [ea]; exact h0) (by rw [ea, eb]; exact e)
theorem reach_off (h : LeafOk t leaf) : ∀ (d z j : Nat), t.ps.length - z ≤ d → z < t.ps.length → j < t.ps.length + 1 → (onP t leaf z = false ∨ z = leaf) → (subF (rrF t leaf) (rkR t leaf) z j = true ↔ j < t.ps.length ∧ hitB t.ps z j = true)
  | d, z, j, hd, hz, hj, ho => by
    have hw := (rr_arb h).wf
    have hkz : (rrF t leaf).kids z = kidsL t.ps z := by
      show rrQ t leaf z = _
      unfold rrQ
      rw [if_neg (by omega), if_neg]
      rintro ⟨h1, h2⟩
      rcases ho with e | e
      · rw [e] at h1; cases h1
      · exact h2 e
    have hoff : ∀ c ∈ kidsL t.ps z, onP t leaf c = false := fun c hc => by
      obtain ⟨h1, h2, h3⟩ := mem_kidsL.1 hc
      cases e : onP t leaf c with
      | false => rfl
      | true =>
        have := h.on_par e (by omega) h3
        rcases ho with e2 | e2
        · rw [e2] at this; cases this
        · rw [e2, h.nokid] at hc; cases hc
    constructor
    · intro hs
      rcases subF_cases hw (by omega) hs with e | ⟨c, hc, h2⟩
      · subst e; exact ⟨hz, hit_self _⟩
      · rw [hkz] at hc
        obtain ⟨h1, h3, h4⟩ := mem_kidsL.1 hc
        cases d with
        | zero => omega
        | succ d =>
          obtain ⟨h5, h6⟩ := (reach_off h d c j (by omega) h1 hj (.inl (hoff c hc))).1 h2
          exact ⟨h5, (hit_kid h.ok h5).2 (.inr ⟨c, h1, h3, h4, h6⟩)⟩
    · rintro ⟨h1, h2⟩
      rcases (hit_kid h.ok h1).1 h2 with e | ⟨c, h3, h4, h5, h6⟩
      · subst e; exact subF_self hw (by omega)
      · have hc : c ∈ kidsL t.ps z := mem_kidsL.2 ⟨h3, h4, h5⟩
        cases d with
        | zero => omega
        | succ d => exact subF_kid hw (by omega) (by rw [hkz]; exact hc) ((reach_off h d c j (by omega) h3 hj (.inl (hoff c hc))).2 ⟨h1, h6⟩)
theorem reach_on (h : LeafOk t leaf) : ∀ (d z c j : Nat), z ≤ d → z < t.ps.length → j < t.ps.length + 1 → c < t.ps.length → z < c → gi t.ps c = (z : Int) → onP t leaf c = true → (subF (rrF t leaf) (rkR t leaf) z j = true ↔ j < t.ps.length ∧ hitB t.ps c j = false)
  | d, z, c, j, hd, hz, hj, hc, hzc, hpc, hoc => by
    have hw := (rr_arb h).wf
    have hoz : onP t leaf z = true := h.on_par hoc (by omega) hpc
    have hzl : z ≠ leaf := fun e => by have := h.on_le hoc; omega
    have hkz : (rrF t leaf).kids z = (kidsL t.ps z).filter (fun k => !onP t leaf k) ++ (if z = 0 then [] else [(gi t.ps z).toNat]) := by
      show rrQ t leaf z = _
      unfold rrQ
      rw [if_neg (by omega), if_pos ⟨hoz, hzl⟩]
    have hcz : ∀ {j : Nat}, j < t.ps.length → hitB t.ps c j = true → hitB t.ps z j = true := fun {j} hj hh => (hit_kid h.ok hj).2 (.inr ⟨c, hc, hzc, hpc, hh⟩)
    constructor
    · intro hs
      rcases subF_cases hw (by omega) hs with e | ⟨k, hk, h2⟩
      · subst e
        refine ⟨hz, ?_⟩
        cases e2 : hitB t.ps c j with
        | false => rfl
        | true => have := hit_le h.ok hz e2; omega
      · rw [hkz] at hk
        rcases List.mem_append.1 hk with h3 | h3
        · obtain ⟨h3, h4⟩ := List.mem_filter.1 h3
          obtain ⟨h5, h6, h7⟩ := mem_kidsL.1 h3
          have h4 : onP t leaf k = false := by simpa using h4
          obtain ⟨h8, h9⟩ := (reach_off h _ k j (Nat.le_refl _) h5 hj (.inl h4)).1 h2
          refine ⟨h8, ?_⟩
          cases e2 : hitB t.ps c j with
          | false => rfl
          | true =>
            exfalso
            have hne : k ≠ c := fun e3 => by rw [e3, hoc] at h4; cases h4
            rcases Nat.lt_or_ge k c with hlt | hge
            · have h10 := hit_chain h.ok (Nat.le_of_lt hlt) j j (Nat.le_refl _) h8 h9 e2
              rw [hit_step h.ok hc hlt, hpc] at h10
              have := hit_le h.ok (show z < _ by omega) h10
              omega
            · have h10 := hit_chain h.ok hge j j (Nat.le_refl _) h8 e2 h9
              rw [hit_step h.ok h5 (by omega), h7] at h10
              have := hit_le h.ok (show z < _ by omega) h10
              omega
        · by_cases h0 : z = 0
          · rw [if_pos h0] at h3; cases h3
          · rw [if_neg h0, List.mem_singleton] at h3
            obtain ⟨q, hq1, hq2⟩ := h.par hz h0
            have hkq : k = q := by omega
            subst hkq
            cases d with
            | zero => omega
            | succ d =>
              obtain ⟨h4, h5⟩ := (reach_on h d k z j (by omega) (by omega) hj hz hq2 hq1 hoz).1 h2
              refine ⟨h4, ?_⟩
              cases e2 : hitB t.ps c j with
              | false => rfl
              | true => rw [hcz h4 e2] at h5; cases h5
    · rintro ⟨h1, h2⟩
      cases e : hitB t.ps z j with
      | true =>
        rcases (hit_kid h.ok h1).1 e with e2 | ⟨k, h3, h4, h5, h6⟩
        · subst e2; exact subF_self hw (by omega)
        · have hko : onP t leaf k = false := by
            cases e3 : onP t leaf k with
            | false => rfl
            | true =>
              have := h.on_one e3 hoc h4 hzc h5 hpc
              subst this; rw [h6] at h2; cases h2
          exact subF_kid hw (by omega) (by rw [hkz]; exact List.mem_append_left _ (List.mem_filter.2 ⟨mem_kidsL.2 ⟨h3, h4, h5⟩, by simp [hko]⟩)) ((reach_off h _ k j (Nat.le_refl _) h3 hj (.inl hko)).2 ⟨h1, h6⟩)
      | false =>
        by_cases h0 : z = 0
        · subst h0; rw [hit_all0 h.te j j (Nat.le_refl _) h1] at e; cases e
        · obtain ⟨q, hq1, hq2⟩ := h.par hz h0
          cases d with
          | zero => omega
          | succ d => exact subF_kid hw (by omega) (by rw [hkz, if_neg h0]; exact List.mem_append_right _ (by simp; omega)) ((reach_on h d q z j (by omega) (by omega) hj hz hq2 hq1 hoz).2 ⟨h1, e⟩)
/-- A part of the pruned forest: the names that are reached. -/
theorem rr_part (h : LeafOk t leaf) {z : Nat} (hz : z < t.ps.length + 1) {x : ByteArray} :
    x ∈ leafR (toRF ((rrF t leaf).sub (rkR t leaf) (prQ (rrF t leaf) (rrP t leaf) (rkR t leaf)) t.ps.length) (rkR t leaf) z) ↔ ∃ j, j < t.ps.length ∧ subF (rrF t leaf) (rkR t leaf) z j = true ∧ (gs t.ns j).size ≠ 0 ∧ x = gs t.ns j := by
  have hw := (rr_arb h).wf
  have hn : t.ps.length < t.ps.length + 1 := Nat.lt_succ_self _
  rw [leaf_reach (pr_wf hw _) hz]
  have hnm : ∀ j, j < t.ps.length → (rrF t leaf).nm j = gs t.ns j := fun j hj => upd_ne _ _ (by omega)
  have hne : ∀ j, j < t.ps.length + 1 → ((rrF t leaf).nm j).size ≠ 0 → j < t.ps.length := fun j hj h0 => by
    by_cases e : j = t.ps.length
    · subst e
      exact absurd (show (upd (gs t.ns) _ _ _).size = 0 by rw [upd_same]; rfl) h0
    · omega
  constructor
  · rintro ⟨j, hj, hs, h0, e⟩
    have h0 : ((rrF t leaf).nm j).size ≠ 0 := h0
    have hjl := hne j hj h0
    have e : x = (rrF t leaf).nm j := e
    rw [hnm j hjl] at h0 e
    exact ⟨j, hjl, pr_below hw _ _ z j (Nat.le_refl _) hz hs, h0, e⟩
  · rintro ⟨j, hj, hs, h0, e⟩
    have h0' : ((rrF t leaf).nm j).size ≠ 0 := by rw [hnm j hj]; exact h0
    have hk : (rrF t leaf).kids j = [] := by
      by_cases c : (rrF t leaf).kids j = []
      · exact c
      · exact absurd (rr_inner h (by omega) c) h0'
    have ha : al (rrF t leaf) (rrP t leaf) (rkR t leaf) j = true := by
      rw [al_eq hw (by omega), if_pos hk]; exact decide_eq_true h0'
    exact ⟨j, by omega, (pr_reach hw hn _ z j (Nat.le_refl _) hz (rr_all h z hz) hs ha).2, h0', by rw [e]; exact (hnm j hj).symm⟩
theorem rr_fam0 (h : LeafOk t leaf) {X : ByteArray → Prop} : FamR (rrR t leaf) X ↔ ∃ z, z < t.ps.length + 1 ∧ (∃ x, X x) ∧ ∀ x, X x ↔ ∃ j, j < t.ps.length ∧ subF (rrF t leaf) (rkR t leaf) z j = true ∧ (gs t.ns j).size ≠ 0 ∧ x = gs t.ns j := by
  have hw := (rr_arb h).wf
  have hn : t.ps.length < t.ps.length + 1 := Nat.lt_succ_self _
  have hnm : ∀ j, j < t.ps.length → (rrF t leaf).nm j = gs t.ns j := fun j hj => upd_ne _ _ (by omega)
  unfold FamR rrR
  rw [subR_toRF (pr_wf hw _) hn (Nat.le_refl _)]
  constructor
  · rintro ⟨s, hs, hx⟩
    obtain ⟨z, hz, rfl⟩ := List.mem_map.1 hs
    have hsz := (mem_nodesF (pr_wf hw _) hn (Nat.le_refl _)).1 hz
    have hzn := subF_lt (pr_wf hw _) hn (Nat.le_refl _) hsz
    have hx2 : ∀ x, X x ↔ ∃ j, j < t.ps.length ∧ subF (rrF t leaf) (rkR t leaf) z j = true ∧ (gs t.ns j).size ≠ 0 ∧ x = gs t.ns j := fun x => (hx x).trans (rr_part h hzn)
    refine ⟨z, hzn, ?_, hx2⟩
    have ha := pr_alive hw hn _ _ z (Nat.le_refl _) hn (subF_self hw hn) (rr_facts h).1 hsz
    obtain ⟨j, h1, h2, h3, h4⟩ := al_ex hw _ z (Nat.le_refl _) hzn ha
    have h4 : ((rrF t leaf).nm j).size ≠ 0 := of_decide_eq_true h4
    have hjl : j < t.ps.length := by
      by_cases e : j = t.ps.length
      · subst e
        exact absurd (show (upd (gs t.ns) _ _ _).size = 0 by rw [upd_same]; rfl) h4
      · omega
    rw [hnm j hjl] at h4
    exact ⟨_, (hx2 _).2 ⟨j, hjl, h2, h4, rfl⟩⟩
  · rintro ⟨z, hz, ⟨x0, h0⟩, hx⟩
    refine ⟨_, List.mem_map_of_mem ((mem_nodesF (pr_wf hw _) hn (Nat.le_refl _)).2 ?_), fun x => (hx x).trans (rr_part h hz).symm⟩
    obtain ⟨j, h1, h2, h3, h4⟩ := (hx x0).1 h0
    have h3' : ((rrF t leaf).nm j).size ≠ 0 := by rw [hnm j h1]; exact h3
    have hk : (rrF t leaf).kids j = [] := by
      by_cases c : (rrF t leaf).kids j = []
      · exact c
      · exact absurd (rr_inner h (by omega) c) h3'
    have ha : al (rrF t leaf) (rrP t leaf) (rkR t leaf) j = true := by
      rw [al_eq hw (by omega), if_pos hk]; exact decide_eq_true h3'
    have haz := (pr_reach hw hn _ z j (Nat.le_refl _) hz (rr_all h z hz) h2 ha).1
    exact (pr_reach hw hn _ t.ps.length z (Nat.le_refl _) hn (subF_self hw hn) (rr_all h z hz) haz).2
theorem rr_fam (h : LeafOk t leaf) {X : ByteArray → Prop} : FamR (rrR t leaf) X ↔ RrtS (toR t) (gs t.ns leaf) X := by
  have hlt := h.lt
  have hinj : ∀ {a b : Nat}, a < t.ps.length → b < t.ps.length → (gs t.ns a).size ≠ 0 → gs t.ns a = gs t.ns b → a = b := fun ha hb h0 e => h.inj ha hb h0 e
  have hleaf : ∀ {j : Nat}, j < t.ps.length → hitB t.ps leaf j = true → j = leaf := fun {j} hj hh => by
    rcases (hit_kid h.ok hj).1 hh with e | ⟨c, h1, h2, h3, _⟩
    · exact e
    · have : c ∈ kidsL t.ps leaf := mem_kidsL.2 ⟨h1, h2, h3⟩
      rw [h.nokid] at this; cases this
  rw [rr_fam0 h]
  constructor
  · rintro ⟨z, hz, hne, hx⟩
    by_cases hr : z = t.ps.length
    · left
      intro x
      rw [hx x, leaf_all h.te]
      subst hr
      exact ⟨fun ⟨j, h1, _, h2⟩ => ⟨j, h1, h2⟩, fun ⟨j, h1, h2⟩ => ⟨j, h1, rr_all h j (by omega), h2⟩⟩
    have hzl : z < t.ps.length := by omega
    right
    by_cases hl : z = leaf
    · left
      intro x
      rw [hx x]
      constructor
      · rintro ⟨j, h1, h2, _, h4⟩
        have := hleaf h1 (by rw [← hl]; exact ((reach_off h _ z j (Nat.le_refl _) hzl (by omega) (.inr hl)).1 h2).2)
        rw [h4, this]
      · intro e
        exact ⟨leaf, hlt, by rw [hl]; exact subF_self (rr_arb h).wf (by omega), h.nm, e⟩
    right
    refine ⟨?_, hne, ?_⟩
    · intro ha
      obtain ⟨j, h1, h2, h3, h4⟩ := (hx _).1 ha
      have hj : leaf = j := hinj hlt h1 h.nm h4
      subst hj
      cases ho : onP t leaf z with
      | false =>
        have := ((reach_off h _ z leaf (Nat.le_refl _) hzl (by omega) (.inl ho)).1 h2).2
        unfold onP at ho
        rw [this] at ho; cases ho
      | true =>
        obtain ⟨c, c1, c2, c3, c4⟩ := h.on_kid ho hl
        have := ((reach_on h _ z c leaf (Nat.le_refl _) hzl (by omega) c1 c2 c3 c4).1 h2).2
        unfold onP at c4
        rw [this] at c4; cases c4
    · cases ho : onP t leaf z with
      | false =>
        left
        rw [fam_toR h.te]
        refine ⟨z, hzl, fun x => (hx x).trans ?_⟩
        constructor
        · rintro ⟨j, h1, h2, h3⟩
          exact ⟨j, h1, ((reach_off h _ z j (Nat.le_refl _) hzl (by omega) (.inl ho)).1 h2).2, h3⟩
        · rintro ⟨j, h1, h2, h3⟩
          exact ⟨j, h1, (reach_off h _ z j (Nat.le_refl _) hzl (by omega) (.inl ho)).2 ⟨h1, h2⟩, h3⟩
      | true =>
        right
        obtain ⟨c, c1, c2, c3, c4⟩ := h.on_kid ho hl
        rw [co_toR h.te]
        refine ⟨c, c1, fun x => (hx x).trans ?_⟩
        rw [leaf_all h.te]
        constructor
        · rintro ⟨j, h1, h2, h3, h4⟩
          refine ⟨⟨j, h1, h3, h4⟩, ?_⟩
          rintro ⟨i, i1, i2, i3, i4⟩
          have : j = i := hinj h1 i1 h3 (by rw [← h4, i4])
          subst this
          have := ((reach_on h _ z c j (Nat.le_refl _) hzl (by omega) c1 c2 c3 c4).1 h2).2
          rw [this] at i2; cases i2
        · rintro ⟨⟨j, h1, h3, h4⟩, hn⟩
          refine ⟨j, h1, (reach_on h _ z c j (Nat.le_refl _) hzl (by omega) c1 c2 c3 c4).2 ⟨h1, ?_⟩, h3, h4⟩
          cases e : hitB t.ps c j with
          | false => rfl
          | true => exact absurd ⟨j, h1, e, h3, h4⟩ hn
  · rintro (hx | hx | ⟨hna, hne, hx | hx⟩)
    · refine ⟨t.ps.length, Nat.lt_succ_self _, ⟨_, (hx _).2 ((leaf_all h.te).2 ⟨leaf, hlt, h.nm, rfl⟩)⟩, fun x => ?_⟩
      rw [hx x, leaf_all h.te]
      exact ⟨fun ⟨j, h1, h2⟩ => ⟨j, h1, rr_all h j (by omega), h2⟩, fun ⟨j, h1, _, h2⟩ => ⟨j, h1, h2⟩⟩
    · refine ⟨leaf, by omega, ⟨_, (hx _).2 rfl⟩, fun x => (hx x).trans ?_⟩
      constructor
      · intro e
        exact ⟨leaf, hlt, subF_self (rr_arb h).wf (by omega), h.nm, e⟩
      · rintro ⟨j, h1, h2, _, h4⟩
        have := hleaf h1 ((reach_off h _ leaf j (Nat.le_refl _) hlt (by omega) (.inr rfl)).1 h2).2
        rw [h4, this]
    · rw [fam_toR h.te] at hx
      obtain ⟨z, hz, hx⟩ := hx
      have ho : onP t leaf z = false := by
        cases ho : onP t leaf z with
        | false => rfl
        | true => exact absurd ((hx _).2 ⟨leaf, hlt, ho, h.nm, rfl⟩) hna
      refine ⟨z, by omega, hne, fun x => (hx x).trans ?_⟩
      constructor
      · rintro ⟨j, h1, h2, h3⟩
        exact ⟨j, h1, (reach_off h _ z j (Nat.le_refl _) hz (by omega) (.inl ho)).2 ⟨h1, h2⟩, h3⟩
      · rintro ⟨j, h1, h2, h3⟩
        exact ⟨j, h1, ((reach_off h _ z j (Nat.le_refl _) hz (by omega) (.inl ho)).1 h2).2, h3⟩
    · rw [co_toR h.te] at hx
      obtain ⟨c, hc, hx⟩ := hx
      have hoc : onP t leaf c = true := by
        cases ho : onP t leaf c with
        | true => rfl
        | false =>
          refine absurd ((hx _).2 ⟨(leaf_all h.te).2 ⟨leaf, hlt, h.nm, rfl⟩, ?_⟩) hna
          rintro ⟨j, h1, h2, h3, h4⟩
          have := hinj hlt h1 h.nm h4
          subst this
          unfold onP at ho
          rw [h2] at ho; cases ho
      have hc0 : c ≠ 0 := by
        rintro rfl
        obtain ⟨x, hx0⟩ := hne
        obtain ⟨h1, h2⟩ := (hx x).1 hx0
        obtain ⟨j, h3, h4, h5⟩ := (leaf_all h.te).1 h1
        exact h2 ⟨j, h3, hit_all0 h.te j j (Nat.le_refl _) h3, h4, h5⟩
      obtain ⟨z, hz1, hz2⟩ := h.par hc hc0
      refine ⟨z, by omega, hne, fun x => (hx x).trans ?_⟩
      rw [leaf_all h.te]
      constructor
      · rintro ⟨⟨j, h1, h3, h4⟩, hn⟩
        refine ⟨j, h1, (reach_on h _ z c j (Nat.le_refl _) (by omega) (by omega) hc hz2 hz1 hoc).2 ⟨h1, ?_⟩, h3, h4⟩
        cases e : hitB t.ps c j with
        | false => rfl
        | true => exact absurd ⟨j, h1, e, h3, h4⟩ hn
      · rintro ⟨j, h1, h2, h3, h4⟩
        refine ⟨⟨j, h1, h3, h4⟩, ?_⟩
        rintro ⟨i, i1, i2, i3, i4⟩
        have : j = i := hinj h1 i1 h3 (by rw [← h4, i4])
        subst this
        have := ((reach_on h _ z c j (Nat.le_refl _) (by omega) (by omega) hc hz2 hz1 hoc).1 h2).2
        rw [this] at i2; cases i2
end
end Go.Proofs.Ytcaialhoclodjaa
