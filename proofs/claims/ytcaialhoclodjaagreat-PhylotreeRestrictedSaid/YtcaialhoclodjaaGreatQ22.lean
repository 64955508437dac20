/- The contract of phylotree.Print. Valid trees and their texts, plain: what the statements on texts, equal trees and canonical trees say. The parts of the rerooted tree, plain: which sets of leaves they have. The contract of layer 31's reference's SameTree, at trees that are the same. The example of the chapter: three, awake. The example of chapter 35: awake. The plain law of SharederrorSupport: the supports of the different sets. The walk of SharederrorSupport. The walk of SharederrorLeaves. The walk of SharederrorNested. The contract of phylotree.pruned. -/
import Derived.Test.YtcaialhoclodjaaGreatQ20
import Derived.Test.YtcaialhoclodjaaGreatQ21
import Derived.Test.YtcaialhoclodjaaGreatQ17
import Derived.Test.YtcaialhoclodjaaGreatQ19
import Derived.Test.YtcaialhoclodjaaGreatQ13
import Derived.Test.YtcaialhoclodjaaGreatQ3
import Derived.Test.YtcaialhoclodjaaGreatQ5
import Derived.Test.YtcaialhoclodjaaGreatQ15
import Derived.Test.YtcaialhoclodjaaGreatQ11
import Derived.Test.YtcaialhoclodjaaGreatQ18
namespace Go.Proofs.YtcaialhoclodjaaGreat
open Go.RowKit Go.Deep
mutual
theorem txR_len {M : Nat} : ∀ r : RT, (∀ s ∈ nsR r, s.size ≤ M) → (txR r).length + 1 ≤ sizeR r * (M + 3)
  | .node nm [], h => by
    rw [txR, sizeR, sizeRs]
    have h1 := h nm (by rw [nsR]; simp)
    have h2 : nm.data.toList.length = nm.size := by rw [Array.length_toList]; rfl
    omega
  | .node nm (k :: ks), h => by
    have h1 := txR_len k (fun s hs => h s (by rw [nsR, nsRs]; simp [hs]))
    have h2 := txRs_len ks (fun s hs => h s (by rw [nsR, nsRs]; simp [hs]))
    rw [txR, sizeR, sizeRs]
    simp only [List.length_cons, List.length_append, List.length_nil]
    rw [Nat.add_mul, Nat.add_mul]
    omega
theorem txRs_len {M : Nat} : ∀ rs : List RT, (∀ s ∈ nsRs rs, s.size ≤ M) → (txRs rs).length ≤ sizeRs rs * (M + 3)
  | [], _ => by rw [txRs]; exact Nat.zero_le _
  | r :: rs, h => by
    have h1 := txR_len r (fun s hs => h s (by rw [nsRs]; simp [hs]))
    have h2 := txRs_len rs (fun s hs => h s (by rw [nsRs]; simp [hs]))
    rw [txRs, sizeRs]
    simp only [List.length_cons, List.length_append]
    rw [Nat.add_mul]
    omega
end
theorem nsR_toRF {F : Frs} {n : Nat} {rk : Nat → Nat} (h : Wf F n rk) {i : Nat} (hi : i < n) : nsR (toRF F rk i) = (nodesF F rk i).map F.nm := by
  rw [nsR_sub, subR_toRF h hi (Nat.le_refl _), List.map_map]
  refine List.map_congr_left fun z hz => ?_
  exact toRF_nm h (subF_lt h hi (Nat.le_refl _) ((mem_nodesF h hi (Nat.le_refl _)).1 hz))
theorem txT_len {t : Tre} (h : treeErr t = 0) {M : Nat} (hz : ∀ k, (gs t.ns k).size ≤ M) : (txR (toR t)).length + 1 ≤ 64 * (M + 3) := by
  obtain ⟨hp, hp64, _⟩ := treeErr_zero h
  have h1 := txR_len (M := M) (toR t) (fun s hs => by
    unfold toR at hs
    rw [nsR_toRF (frT_arb h).wf hp] at hs
    obtain ⟨z, _, rfl⟩ := List.mem_map.1 hs
    exact hz z)
  have h2 : sizeR (toR t) ≤ t.ps.length := good_size (frT_arb h).wf hp (good_toR h)
  exact Nat.le_trans h1 (Nat.mul_le_mul_right _ (by omega))
def txE (t : Tre) : Int := if treeErr t ≠ 0 then 1 else 0
def txT (t : Tre) : List UInt8 := if treeErr t ≠ 0 then [] else txR (toR t) ++ [59]
def TxPost (w : World) (t : Tre) (e : Ending) (w' : World) : Prop := Up w w' ∧ e = .returned (.tuple #[.string ⟨(txT t).toArray⟩, .int .i64 (txE t)])
set_option maxRecDepth 100000 in
set_option maxHeartbeats 4000000 in
theorem print_t (S : Nat → Prop) (w : World) (v : Value) (t : Tre) (hT : TreeAt S w v t) (hp : t.ps.length ≤ 1000000) (hn : t.ns.length ≤ 1000000) (hz : ∀ k, (gs t.ns k).size ≤ 70000) :
    Calls Tryz.prog 15 #[v] w (TxPost w t) := by
  obtain ⟨P, N, rfl, hP, hN⟩ := hT
  obtain ⟨pp, pc, rfl, _, _⟩ := SlAt.open hP
  obtain ⟨pn, pm, rfl, _, _⟩ := SlAt.open hN
  have hP : IntsAt S w (.slice pp t.ps.length pc) t.ps := hP
  have hN : StrsAt S w (.slice pn t.ns.length pm) t.ns := hN
  have ha := Up.alloc w (.cells #[.slice pp t.ps.length pc, .slice pn t.ns.length pm] 25)
  have HC0 := Lib.hid (box2_0 w (.slice pp t.ps.length pc) (.slice pn t.ns.length pm) 25)
  have HC1 := Lib.hid (box2_1 w (.slice pp t.ps.length pc) (.slice pn t.ns.length pm) 25)
  have hsz : (w.alloc (.cells #[.slice pp t.ps.length pc, .slice pn t.ns.length pm] 25)).heap.size = w.heap.size + 1 := by simp
  have HU := Lib.hid ha
  have HT1 : Hid (TreeAt S _ _ t) := TreeAt.keep ⟨_, _, rfl, hP, hN⟩ (ha.kept S)
  have HSZ := Lib.hid hsz
  have HZ := Lib.hid hz
  have hc0 := HC0.out
  have hc1 := HC1.out
  have HCK := Lib.hid (check_t S _ _ t HT1.out hp hn hz)
  have HXE : Hid (txE t = if treeErr t ≠ 0 then 1 else 0) := rfl
  have HXT : Hid (txT t = if treeErr t ≠ 0 then [] else txR (toR t) ++ [59]) := rfl
  clear ha hP hN hsz hz
  go_enter Tryz.func15, Tryz.ntmps15
  go_wp2_with fail
  generalize w.alloc (.cells #[.slice pp t.ps.length pc, .slice pn t.ns.length pm] 25) = w1 at *
  refine HCK.out.mono ?_
  rintro e w2 ⟨rfl, hu2⟩
  have hu2 : Up w1 w2 := hu2
  have HU2 := Lib.hid hu2
  have HUW := Lib.hid (HU.out.trans hu2)
  have hc0 := hu2.cell HC0.out
  have hc1 := hu2.cell HC1.out
  clear hu2 HCK
  by_cases he : treeErr t = 0
  · obtain ⟨hp0, hp64, hnl, hok, _⟩ := treeErr_zero he
    have HTE := Lib.hid he
    rw [he]
    have HT2 := Lib.hid (TreeAt.keep HT1.out (HU2.out.kept S))
    clear he hnl hok
    go_wp2_with fail
    have hb := blk_alloc_new w2 (.cells #[.pointer none, .slice none 0 0] 79)
    have hu3 := Up.alloc w2 (.cells #[.pointer none, .slice none 0 0] 79)
    have hs3 : (w2.alloc (.cells #[.pointer none, .slice none 0 0] 79)).heap.size = w2.heap.size + 1 := World.size_alloc _ _
    have hfb := blk_alloc_new (w2.alloc (.cells #[.pointer none, .slice none 0 0] 79)) (.cells #[.func (.func 49) #[] #[.pointer (some ⟨w2.heap.size, 0, none⟩), .pointer (some ⟨w2.heap.size + 1, 0, none⟩)]] 80)
    have hu4 := Up.alloc (w2.alloc (.cells #[.pointer none, .slice none 0 0] 79)) (.cells #[.func (.func 49) #[] #[.pointer (some ⟨w2.heap.size, 0, none⟩), .pointer (some ⟨w2.heap.size + 1, 0, none⟩)]] 80)
    have hs4 : ((w2.alloc (.cells #[.pointer none, .slice none 0 0] 79)).alloc (.cells #[.func (.func 49) #[] #[.pointer (some ⟨w2.heap.size, 0, none⟩), .pointer (some ⟨w2.heap.size + 1, 0, none⟩)]] 80)).heap.size = w2.heap.size + 2 := by rw [World.size_alloc, hs3]
    have hb4 := (blk_alloc_lt (w2.alloc (.cells #[.pointer none, .slice none 0 0] 79)) (.cells #[.func (.func 49) #[] #[.pointer (some ⟨w2.heap.size, 0, none⟩), .pointer (some ⟨w2.heap.size + 1, 0, none⟩)]] 80) w2.heap.size (by omega)).trans hb
    rw [hs3] at hfb
    have hc04 := (hu3.trans hu4).cell hc0
    have hc14 := (hu3.trans hu4).cell hc1
    have HU4 := Lib.hid (hu3.trans hu4)
    clear hb hu3 hu4 hs3 hc0 hc1
    generalize (w2.alloc (.cells #[.pointer none, .slice none 0 0] 79)).alloc (.cells #[.func (.func 49) #[] #[.pointer (some ⟨w2.heap.size, 0, none⟩), .pointer (some ⟨w2.heap.size + 1, 0, none⟩)]] 80) = w4 at *
    have HBX : Hid (PrBox w2.heap.size (w2.heap.size + 1) w4) := hfb
    have hfc := HBX.out.cell
    have HB4 := Lib.hid hb4
    have HS4 := Lib.hid hs4
    clear hs4 hb4 hfb
    refine region_T (by kernel_rfl) 6 (fun w' => w'.cell? ⟨w2.heap.size + 1, 0, none⟩ = some (.func (.func 49) #[] #[.pointer (some ⟨w2.heap.size, 0, none⟩), .pointer (some ⟨w2.heap.size + 1, 0, none⟩)]) ∧ w'.cell? ⟨w.heap.size, 0, none⟩ = some (.slice pp t.ps.length pc) ∧ w'.cell? ⟨w.heap.size, 1, none⟩ = some (.slice pn t.ns.length pm)) ⟨hfc, hc04, hc14⟩ (fun hS => ?_)
    simp only [List.size_toArray, List.length_cons, List.length_nil, Nat.reduceAdd, Array.replicate_succ, Array.replicate_zero, List.push_toArray, List.nil_append, List.cons_append]
    refine anyT.take (i := 0) (v := ?gv0k1) rfl (by kernel_rfl) (fun _ _ _ h => h) (by rfl) (fun w hSw => ?gy0k1) hS ?gr0k1
    case gy0k1 =>
      (try dsimp only at hSw)
      go_simp
      try with_reducible rfl
    try simp only [Act.put, List.setIfInBounds_toArray, List.set_cons_zero, List.set_cons_succ]
    refine anyT.take (i := 1) (v := ?gv1k1) rfl (by kernel_rfl) (fun _ _ _ h => h) (by rfl) (fun w hSw => ?gy1k1) hS ?gr1k1
    case gy1k1 =>
      (try dsimp only at hSw)
      go_simp
      try with_reducible rfl
    try simp only [Act.put, List.setIfInBounds_toArray, List.set_cons_zero, List.set_cons_succ]
    refine anyT.step (i := 2) rfl (by kernel_rfl) (fun K' hK => ?_)
    go_simp
    have HUD : Hid (Up w4 w4.drew) := Up.drewN w4 1
    obtain ⟨_, _, hnl, hok, _⟩ := treeErr_zero HTE.out
    have HND := Lib.hid (nodes2_t S w4.drew _ t (TreeAt.keep HT2.out ((HU4.out.trans HUD.out).kept S)) (by omega) hnl hok HZ.out)
    refine HND.out.mono ?_
    rintro e w5 ⟨hu5, g, A, kv, hgl, rfl, hF, hrow⟩
    have hr0 := hrow.cell (i := 0) hp0
    simp only [nptr] at hr0
    have HU5 := Lib.hid (HUD.out.trans hu5)
    have hpos : (0 : Int) < (t.ps.length : Int) := by omega
    refine hK.out _ _ (fun _ => ⟨HU5.out.cell hfc, HU5.out.cell hc04, HU5.out.cell hc14⟩) (fun hS => ?_)
    try simp only [List.setIfInBounds_toArray, List.set_cons_zero, List.set_cons_succ]
    have HF := Lib.hid hF
    have HGL := Lib.hid hgl
    have HX1 : Hid (txE t = 0) := by rw [Hid, HXE.out, if_neg (by simp [HTE.out])]
    have HX2 : Hid (txT t = txR (toR t) ++ [59]) := by rw [Hid, HXT.out, if_neg (by simp [HTE.out])]
    have HLN := Lib.hid (txT_len HTE.out HZ.out)
    have HBL : Hid (Lib.IsBuilderF 79 5 w2.heap.size w2.heap.size (Lib.byteCells []) w5) := .inl ⟨Nat.le_refl _, _, (Below.block HU5.out _ (by rw [HS4.out]; omega)).trans HB4.out, ⟨rfl, .inl ⟨rfl, rfl⟩⟩, fun e => by cases e⟩
    have HBX5 : Hid (PrBox w2.heap.size (w2.heap.size + 1) w5) := (Below.block HU5.out _ (by rw [HS4.out]; omega)).trans HBX.out
    have HSB : Hid (w2.heap.size + 2 ≤ w5.heap.size) := by have := HU5.out.size; rw [HS4.out] at this; exact this
    have HP1 := Lib.hid (print1_t (base := g + 1) (n := t.ps.length) (B := w2.heap.size) (b := w2.heap.size) (fb := w2.heap.size + 1) (frT_arb HTE.out).wf (fun z _ => by have := frT_kids_len t z; omega) (by have := HS4.out; have h2 : w4.heap.size ≤ g := hgl; omega) (by omega) (rkT t 0) 0 [] w5 hp0 (Nat.le_refl _) hF HBX5.out HBL.out (by
      have := HLN.out
      show 0 + (txR (toR t)).length ≤ _
      omega) (by have := HSB.out; omega))
    clear hnl hok hF hgl hrow HND hu5
    refine anyT.step (i := 3) rfl (by kernel_rfl) (fun K' hK => ?_)
    go_simp
    refine hK.out _ _ (fun _ => ⟨HU5.out.cell hfc, HU5.out.cell hc04, HU5.out.cell hc14⟩) (fun hS => ?_)
    try simp only [List.setIfInBounds_toArray, List.set_cons_zero, List.set_cons_succ]
    refine anyT.step (i := 4) rfl (by kernel_rfl) (fun K' hK => ?_)
    go_simp
    refine hK.out _ _ (fun _ => ⟨HU5.out.cell hfc, HU5.out.cell hc04, HU5.out.cell hc14⟩) (fun hS => ?_)
    try simp only [List.setIfInBounds_toArray, List.set_cons_zero, List.set_cons_succ]
    refine anyT.step (i := 5) rfl (by kernel_rfl) (fun K' hK => ?_)
    go_simp
    refine HP1.out.mono ?_
    rintro e w6 ⟨rfl, h6⟩
    refine hK.out _ _ (not_more (by kernel_rfl)) (fun hS => ?_)
    refine anyT.done (by kernel_rfl) ?_
    have HX3 : Hid (toRF (frT t) (rkT t) 0 = toR t) := rfl
    rw [List.nil_append, HX3.out] at h6
    have HB6 := Lib.hid h6
    have HWB := Lib.hid (wbyte_t w2.heap.size w2.heap.size (Lib.byteCells (txR (toR t))) 59 w6 h6.bl (by rw [Lib.byteCells_length]; have := HLN.out; omega) (h6.size (by have := HSB.out; omega)))
    clear h6 HP1 hS hK
    go_wp2_with fail
    refine HWB.out.mono ?_
    rintro e w7 ⟨rfl, h1, h2, h3⟩
    have HB7 := Lib.hid (HB6.out.byte (x := 59) rfl h1 h2 h3)
    have HST := Lib.hid (bstr_t w2.heap.size w2.heap.size (txR (toR t) ++ [59]) w7 HB7.out.bl (HB7.out.size (by have := HSB.out; omega)))
    clear h1 h2 h3
    go_wp2_with fail
    refine HST.out.mono ?_
    rintro e w8 ⟨rfl, _, h2, _⟩
    have HB8 : Hid (Up w2 w8) := Below.trans (HU4.out.trans HU5.out) (HB7.out.up.trans h2)
    clear h2
    go_wp2_with fail
    go_ret2
    exact ⟨HUW.out.trans HB8.out, by rw [HX1.out, HX2.out]; rfl⟩
  · have he1 : (treeErr t != 0) = true := by simpa using he
    have HX1 : Hid (txE t = 1) := by rw [Hid, HXE.out, if_pos he]
    have HX2 : Hid (txT t = []) := by rw [Hid, HXT.out, if_pos he]
    clear he
    generalize treeErr t = te at *
    go_wp2_with fail
    go_ret2
    exact ⟨HUW.out, by rw [HX1.out, HX2.out]; rfl⟩
end Go.Proofs.YtcaialhoclodjaaGreat
namespace Go.Proofs.YtcaialhoclodjaaGreat
theorem aln_sp {c : UInt8} (h : aln c = true) : c ∉ sp4 := fun hm => by
  simp only [sp4, List.mem_cons, List.not_mem_nil, or_false] at hm
  rcases hm with rfl | rfl | rfl | rfl <;> exact absurd h (by decide)
theorem named_sp {s : ByteArray} (h : namedB s.data.toList = true) : s.data.toList ≠ [] ∧ ∀ c ∈ s.data.toList, c ∉ sp4 := by
  generalize s.data.toList = l at h ⊢
  unfold namedB at h
  have key : ∀ l : List UInt8, isNameB l = true → l ≠ [] ∧ ∀ c ∈ l, c ∉ sp4 := fun l h => by
    unfold isNameB at h
    simp only [Bool.and_eq_true, decide_eq_true_eq, List.all_eq_true] at h
    exact ⟨fun e => by rw [e] at h; simp at h, fun c hc => aln_sp (h.2 c hc)⟩
  by_cases e : l.getLast? = some 42
  · rw [if_pos e] at h
    simp only [Bool.and_eq_true] at h
    obtain ⟨h1, h2⟩ := key _ h.1
    have hl : l ≠ [] := fun e2 => by subst e2; cases e
    refine ⟨hl, fun c hc => ?_⟩
    rw [← List.dropLast_concat_getLast hl, List.mem_append, List.mem_singleton] at hc
    rcases hc with hc | hc
    · exact h2 c hc
    · rw [List.getLast?_eq_some_getLast hl] at e
      have e := Option.some.inj e
      rw [hc, e]; decide
  · rw [if_neg e] at h; exact key l h
theorem GoodR.okp {r : RT} (h : GoodR r) : OkP r := fun s hs => ⟨h.inn s hs, fun hk => named_sp (h.lf s hs hk)⟩
section
variable {t : Tre}
theorem hit_all0 (h : treeErr t = 0) : ∀ (d j : Nat), j ≤ d → j < t.ps.length → hitB t.ps 0 j = true
  | d, j, hd, hj => by
    by_cases h0 : j = 0
    · subst h0; exact hit_self 0
    · obtain ⟨_, _, _, hok, _⟩ := treeErr_zero h
      have hp := pOkB_par hok hj (by omega)
      rw [hit_step hok hj (by omega)]
      cases d with
      | zero => omega
      | succ d => exact hit_all0 h d _ (by omega) (by omega)
theorem nodes_perm (h : treeErr t = 0) : (nodesF (frT t) (rkT t) 0).Perm (List.range t.ps.length) := by
  have h0 := (treeErr_zero h).1
  refine (List.perm_ext_iff_of_nodup (nodesF_nodup (frT_arb h) (fun i _ => rkT_le t i) h0 (Nat.le_refl _)) List.nodup_range).2 fun j => ?_
  rw [List.mem_range]
  constructor
  · exact mem_nodes_lt h
  · intro hj
    refine (mem_nodesF (frT_arb h).wf h0 (Nat.le_refl _)).2 ?_
    rw [sub_hit h _ 0 j (Nat.le_refl _) h0 hj]
    exact hit_all0 h j j (Nat.le_refl _) hj
theorem ns_perm (h : treeErr t = 0) : (nsR (toR t)).Perm t.ns := by
  rw [nsR_toR h]
  have hl := (treeErr_zero h).2.2.1
  have h1 := (nodes_perm h).map (gs t.ns)
  rw [← hl, range_gs] at h1
  exact h1
theorem leafs_perm (h : treeErr t = 0) : (leafR (toR t)).Perm (fltN t.ns) := (ns_perm h).filter _
theorem leaf_one31 {nm : ByteArray} (h : nm.size ≠ 0) : leafR (.node nm []) = [nm] := by
  unfold leafR
  rw [nsR, nsRs]
  exact List.filter_eq_self.2 fun x hx => decide_eq_true (by rw [List.mem_singleton.1 hx]; exact h)
/-- The leaf that is met first. -/
theorem leaf_head : ∀ (r : RT), (∀ s ∈ subR r, s.kids ≠ [] → s.nm.size = 0) → (∀ s ∈ subR r, s.kids = [] → s.nm.size ≠ 0) → ∃ l, leafR r = firstR r :: l
  | .node nm [], _, h2 => ⟨[], by
    have h := h2 (.node nm []) (by rw [subR]; exact List.mem_cons_self) rfl
    rw [leaf_one31 (nm := nm) h, firstR]⟩
  | .node nm (k :: ks), h1, h2 => by
    have h0 : nm.size = 0 := h1 (.node nm (k :: ks)) (by rw [subR]; exact List.mem_cons_self) (by simp [RT.kids])
    have hk : ∀ s ∈ subR k, s ∈ subR (.node nm (k :: ks)) := fun s hs => by rw [subR, subRs]; simp [hs]
    obtain ⟨l, hl⟩ := leaf_head k (fun s hs => h1 s (hk s hs)) (fun s hs => h2 s (hk s hs))
    rw [leafR_node h0, List.flatMap_cons, hl, firstR]
    exact ⟨_, rfl⟩
theorem GoodR.head {r : RT} (h : GoodR r) : ∃ l, leafR r = firstR r :: l := leaf_head r h.inn fun s hs hk => named_size (h.lf s hs hk)
theorem sortS_mem {l : List ByteArray} {x : ByteArray} : x ∈ sortS l ↔ x ∈ l := by
  unfold sortS srtL
  rw [List.mem_map]
  constructor
  · rintro ⟨y, hy, rfl⟩
    obtain ⟨z, hz, rfl⟩ := List.mem_map.1 ((List.mergeSort_perm _ _).mem_iff.1 hy)
    rw [ofL_toL]; exact hz
  · intro hx
    exact ⟨toL x, (List.mergeSort_perm _ _).mem_iff.2 (List.mem_map_of_mem hx), ofL_toL x⟩
end
theorem GoodR.kid {nm : ByteArray} {ks : List RT} (h : GoodR (.node nm ks)) {k : RT} (hk : k ∈ ks) : GoodR k := by
  have hs : ∀ s ∈ subR k, s ∈ subR (.node nm ks) := fun s hs => by rw [subR, subRs_flat]; exact List.mem_cons_of_mem _ (List.mem_flatMap.2 ⟨k, hk, hs⟩)
  exact ⟨fun s h1 => h.inn s (hs s h1), fun s h1 => h.lf s (hs s h1), (leafR_sub (hs k (subR_self k))).nodup h.nd⟩
end Go.Proofs.YtcaialhoclodjaaGreat
namespace Go.Proofs.YtcaialhoclodjaaGreat
/-- Some part has these leaves. -/
def FamR (r : RT) (X : ByteArray → Prop) : Prop := ∃ s ∈ subR r, ∀ x, X x ↔ x ∈ leafR s
theorem leaf_reach {F : Frs} {n : Nat} {rk : Nat → Nat} (h : Wf F n rk) {z : Nat} (hz : z < n) {x : ByteArray} : x ∈ leafR (toRF F rk z) ↔ ∃ j, j < n ∧ subF F rk z j = true ∧ (F.nm j).size ≠ 0 ∧ x = F.nm j := by
  unfold leafR
  rw [nsR_toRF h hz, List.mem_filter, List.mem_map]
  constructor
  · rintro ⟨⟨j, hj, rfl⟩, h0⟩
    have hs := (mem_nodesF h hz (Nat.le_refl _)).1 hj
    exact ⟨j, subF_lt h hz (Nat.le_refl _) hs, hs, of_decide_eq_true h0, rfl⟩
  · rintro ⟨j, _, hs, h0, rfl⟩
    exact ⟨⟨j, (mem_nodesF h hz (Nat.le_refl _)).2 hs, rfl⟩, decide_eq_true h0⟩
theorem al_ex {F : Frs} {n : Nat} {rk : Nat → Nat} {P : Nat → Bool} (h : Wf F n rk) : ∀ (d z : Nat), rk z ≤ d → z < n → al F P rk z = true → ∃ j, j < n ∧ subF F rk z j = true ∧ F.kids j = [] ∧ P j = true
  | d, z, hd, hz, ha => by
    rw [al_eq h hz] at ha
    by_cases h0 : F.kids z = []
    · rw [if_pos h0] at ha
      exact ⟨z, hz, subF_self h hz, h0, ha⟩
    · rw [if_neg h0] at ha
      obtain ⟨k, hk, hka⟩ := List.any_eq_true.1 ha
      have hkk := h.kid z hz k hk
      cases d with
      | zero => omega
      | succ d =>
        obtain ⟨j, h1, h2, h3, h4⟩ := al_ex h d k (by omega) hkk.1 hka
        exact ⟨j, h1, subF_kid h hz hk h2, h3, h4⟩
section
variable {t : Tre} {leaf : Nat}
theorem und_iff (h : treeErr t = 0) {z : Nat} (hz : z < t.ps.length) {x : ByteArray} : x ∈ leafR (toRF (frT t) (rkT t) z) ↔ ∃ j, j < t.ps.length ∧ hitB t.ps z j = true ∧ (gs t.ns j).size ≠ 0 ∧ x = gs t.ns j := by
  rw [leaf_reach (frT_arb h).wf hz]
  constructor
  · rintro ⟨j, hj, hs, h0, e⟩
    exact ⟨j, hj, by rw [← sub_hit h _ z j (Nat.le_refl _) hz hj]; exact hs, h0, e⟩
  · rintro ⟨j, hj, hs, h0, e⟩
    exact ⟨j, hj, by rw [sub_hit h _ z j (Nat.le_refl _) hz hj]; exact hs, h0, e⟩
theorem leaf_all (h : treeErr t = 0) {x : ByteArray} : x ∈ leafR (toR t) ↔ ∃ j, j < t.ps.length ∧ (gs t.ns j).size ≠ 0 ∧ x = gs t.ns j := by
  have h0 := (treeErr_zero h).1
  refine (und_iff h h0).trans ⟨fun ⟨j, h1, _, h2⟩ => ⟨j, h1, h2⟩, fun ⟨j, h1, h2⟩ => ⟨j, h1, hit_all0 h j j (Nat.le_refl _) h1, h2⟩⟩
theorem LeafOk.inj (h : LeafOk t leaf) {a b : Nat} (ha : a < t.ps.length) (hb : b < t.ps.length) (h0 : (gs t.ns a).size ≠ 0) (e : gs t.ns a = gs t.ns b) : a = b := by
  have ea : (rrF t leaf).nm a = gs t.ns a := upd_ne _ _ (by omega)
  have eb : (rrF t leaf).nm b = gs t.ns b := upd_ne _ _ (by omega)
  exact rr_names h a b (by omega) (by omega) (by rw [ea]; exact h0) (by rw [ea, eb]; exact e)
end
end Go.Proofs.YtcaialhoclodjaaGreat
namespace Go.Proofs.YtcaialhoclodjaaGreat
open Go.RowKit Go.Deep
set_option maxRecDepth 100000 in
set_option maxHeartbeats 2000000 in
theorem sameTree_yes (S T : Nat → Prop) (w : World) (v u : Value) (t : Tre) (h : TreeAt S w v t) (h2 : TreeAt T w u t) (hp : t.ps.length ≤ 1000000) (hn : t.ns.length ≤ 1000000) :
    Calls Tryz.prog 14 #[v, u] w fun e w' => e = .returned (.bool true) ∧ Up w w' := by
  obtain ⟨P, N, rfl, hP, hN⟩ := h
  obtain ⟨P2, N2, rfl, hP2, hN2⟩ := h2
  obtain ⟨pp, pc, rfl, _, _⟩ := SlAt.open hP
  obtain ⟨np, nc, rfl, _, _⟩ := SlAt.open hN
  obtain ⟨pp2, pc2, rfl, _, _⟩ := SlAt.open hP2
  obtain ⟨np2, nc2, rfl, _, _⟩ := SlAt.open hN2
  have hP : IntsAt S w (.slice pp t.ps.length pc) t.ps := hP
  have hN : StrsAt S w (.slice np t.ns.length nc) t.ns := hN
  have hP2 : IntsAt T w (.slice pp2 t.ps.length pc2) t.ps := hP2
  have hN2 : StrsAt T w (.slice np2 t.ns.length nc2) t.ns := hN2
  have hu1 := Up.alloc w (.cells #[.slice pp t.ps.length pc, .slice np t.ns.length nc] 25)
  have hu2 := Up.alloc (w.alloc (.cells #[.slice pp t.ps.length pc, .slice np t.ns.length nc] 25)) (.cells #[.slice pp2 t.ps.length pc2, .slice np2 t.ns.length nc2] 25)
  have hu := hu1.trans hu2
  have a0 := hu2.cell (box2_0 w (.slice pp t.ps.length pc) (.slice np t.ns.length nc) 25)
  have a1 := hu2.cell (box2_1 w (.slice pp t.ps.length pc) (.slice np t.ns.length nc) 25)
  have b0 := box2_0 (w.alloc (.cells #[.slice pp t.ps.length pc, .slice np t.ns.length nc] 25)) (.slice pp2 t.ps.length pc2) (.slice np2 t.ns.length nc2) 25
  have b1 := box2_1 (w.alloc (.cells #[.slice pp t.ps.length pc, .slice np t.ns.length nc] 25)) (.slice pp2 t.ps.length pc2) (.slice np2 t.ns.length nc2) 25
  rw [World.size_alloc] at b0 b1
  have HP := Lib.hid (IntsAt.keep hP (hu.kept S))
  have HN := Lib.hid (StrsAt.keep hN (hu.kept S))
  have HP2 := Lib.hid (IntsAt.keep hP2 (hu.kept T))
  have HN2 := Lib.hid (StrsAt.keep hN2 (hu.kept T))
  have HU := Lib.hid hu
  have A0 := Lib.hid a0
  have A1 := Lib.hid a1
  have B0' := Lib.hid b0
  have B1' := Lib.hid b1
  have d0 : ((t.ps.length : Int) != (t.ps.length : Int)) = false := by simp
  have d1 : ((t.ns.length : Int) != (t.ns.length : Int)) = false := by simp
  clear hP hN hP2 hN2 hu hu1 hu2
  go_enter Tryz.func14, Tryz.ntmps14
  go_wp2_with fail
  clear a0 a1 b0 b1
  generalize (w.alloc (.cells #[.slice pp t.ps.length pc, .slice np t.ns.length nc] 25)).alloc (.cells #[.slice pp2 t.ps.length pc2, .slice np2 t.ns.length nc2] 25) = w1 at *
  go_loopw [5] (fun i wr => ∃ k : Nat, k ≤ t.ps.length ∧ i = .int .i64 k ∧ Hid (QD w1 wr)) (fun i _ => t.ps.length - (intOf i).toNat)
  case atStart => exact ⟨0, Nat.zero_le _, rfl, QD.refl _⟩
  case round =>
    obtain ⟨k, hk, rfl, hQ⟩ := hrel
    have a0 := hQ.out.up.cell A0.out
    have b0 := hQ.out.up.cell B0'.out
    by_cases hlt : k < t.ps.length
    · obtain ⟨b, off, rfl, hc⟩ := ints_get (IntsAt.keep HP.out (hQ.out.kept S)) hlt
      obtain ⟨b2, off2, rfl, hc2⟩ := ints_get (IntsAt.keep HP2.out (hQ.out.kept T)) hlt
      have i1 : (0 : Int) ≤ (k : Int) := by omega
      have i2 : (k : Int) < (t.ps.length : Int) := by omega
      generalize gi t.ps k = x at *
      have j1 : (x != x) = false := by simp
      go_wp2_with fail
      go_quiet (fail)
      go_wp2_with fail
      go_roundw
      case rel => exact ⟨k + 1, by omega, by go_num, hQ.out.drewN nq⟩
      case measure => simp [intOf]; omega
    · obtain rfl : k = t.ps.length := by omega
      have HQ0 := Lib.hid hQ.out
      clear hlt hk
      go_wp2_with fail
      go_loopw [6] (fun i wr => ∃ k : Nat, k ≤ t.ns.length ∧ i = .int .i64 k ∧ Hid (QD w1 wr)) (fun i _ => t.ns.length - (intOf i).toNat)
      case atStart => exact ⟨0, Nat.zero_le _, rfl, HQ0.out⟩
      case round =>
        obtain ⟨k, hk, rfl, hQ⟩ := hrel
        have a1 := hQ.out.up.cell A1.out
        have b1 := hQ.out.up.cell B1'.out
        by_cases hlt : k < t.ns.length
        · obtain ⟨b, off, rfl, hc⟩ := strs_get (StrsAt.keep HN.out (hQ.out.kept S)) hlt
          obtain ⟨b2, off2, rfl, hc2⟩ := strs_get (StrsAt.keep HN2.out (hQ.out.kept T)) hlt
          have i1 : (0 : Int) ≤ (k : Int) := by omega
          have i2 : (k : Int) < (t.ns.length : Int) := by omega
          generalize gs t.ns k = x at *
          have j1 : (x.toList == x.toList) = true := by simp
          go_wp2_with fail
          go_quiet (fail)
          go_wp2_with fail
          go_roundw
          case rel => exact ⟨k + 1, by omega, by go_num, hQ.out.drewN nq⟩
          case measure => simp [intOf]; omega
        · obtain rfl : k = t.ns.length := by omega
          clear hlt hk
          go_wp2_with fail
          go_ret
          exact ⟨rfl, HU.out.trans hQ.out.up⟩
end Go.Proofs.YtcaialhoclodjaaGreat
namespace Go.Proofs.YtcaialhoclodjaaGreat
open Go.RowKit Go.Deep
def t3 : Tre := ⟨[-1, 0, 1, 1, 0], [⟨#[]⟩, ⟨#[]⟩, ⟨#[65]⟩, ⟨#[66]⟩, ⟨#[67]⟩]⟩
def s3 : List Int := [0, 1, 1]
theorem lit_ints (w : World) (cs : Array Value) (T : TypeId) (xs : List Int) (hcs : cs.toList = xs.map (Value.int .i64)) (n : Nat) (hn : n = xs.length) : IntsAt Any (w.alloc (.cells cs T)) (.slice (some ⟨w.heap.size, 0, none⟩) n n) xs := by
  subst hn
  refine ⟨_, _, rfl, Nat.le_refl _, .inr ⟨_, 0, rfl, trivial, fun k hk => ?_⟩⟩
  rw [Nat.zero_add, cell_at_new, ← Array.getElem?_toList, hcs]
  simp [gi, hk]
theorem lit_strs (w : World) (cs : Array Value) (T : TypeId) (xs : List ByteArray) (hcs : cs.toList = xs.map Value.string) (n : Nat) (hn : n = xs.length) : StrsAt Any (w.alloc (.cells cs T)) (.slice (some ⟨w.heap.size, 0, none⟩) n n) xs := by
  subst hn
  refine ⟨_, _, rfl, Nat.le_refl _, .inr ⟨_, 0, rfl, trivial, fun k hk => ?_⟩⟩
  rw [Nat.zero_add, cell_at_new, ← Array.getElem?_toList, hcs]
  simp [gs, hk]
end Go.Proofs.YtcaialhoclodjaaGreat
namespace Go.Proofs.YtcaialhoclodjaaGreat
open Go.RowKit Go.Deep
deriving instance DecidableEq for Grp
end Go.Proofs.YtcaialhoclodjaaGreat
namespace Go.Proofs.YtcaialhoclodjaaGreat
open Go.RowKit Go.Deep
end Go.Proofs.YtcaialhoclodjaaGreat
namespace Go.Proofs.YtcaialhoclodjaaGreat
open Go.RowKit Go.Deep
end Go.Proofs.YtcaialhoclodjaaGreat
namespace Go.Proofs.YtcaialhoclodjaaGreat
open Go.RowKit Go.Deep
end Go.Proofs.YtcaialhoclodjaaGreat
namespace Go.Proofs.YtcaialhoclodjaaGreat
open Go.RowKit Go.Deep
end Go.Proofs.YtcaialhoclodjaaGreat
namespace Go.Proofs.YtcaialhoclodjaaGreat
open Go.RowKit Go.Deep
set_option maxRecDepth 100000 in
set_option maxHeartbeats 1000000 in
theorem pruned_leaf {g : Nat} {lb : Array Value} (eg : ∀ args w, (callFunc g args).run Tryz.prog w = .ok (.enter g args) w) {base n : Nat} {A : Nat → Nat} {w0 : World} {m : Nat → ByteArray} {o : Nat → Int} {P : Nat → Bool} {rk : Nat → Nat}
    (hp : ∀ j W, j < n → Below base w0 W → W.cell? ⟨A j, 0, none⟩ = some (.string (m j)) → W.cell? ⟨A j, 2, none⟩ = some (.int .i64 (o j)) → Calls Tryz.prog g (#[.pointer (some ⟨A j, 0, none⟩)] ++ lb) W fun e W' => e = .returned (.bool (P j)) ∧ Up W W')
    {F : Frs} {i : Nat} {kv : Nat → Value} {w : World} (hm0 : F.nm = m) (ho : F.old = o) (hw : Wf F n rk) (hi : i < n) (hB : Below base w0 w) (_hb : base ≤ w.heap.size) (hF : FAt base n A kv F w) (h0 : F.kids i = []) :
    Calls Tryz.prog 41 #[.pointer (some ⟨A i, 0, none⟩), .func (.func g) #[] lb] w (PrPost base n A F P rk kv i w) := by
  have hown := hF.own i hi
  rw [h0] at hown
  obtain ⟨q, cap, hv, _⟩ := hown.form (n := 0) rfl
  have hkc := hF.kidv hi
  rw [hv] at hkc
  have HCALL := Lib.hid (hp i w hi hB (by have := hF.name hi; rw [hm0] at this; exact this) (by have := hF.oldc hi; rw [ho] at this; exact this))
  have HAL : Hid (al F P rk i = P i) := by rw [Hid, al_eq hw hi, if_pos h0]
  have HPD : Hid (∀ w', Up w w' → PrD base n A F P rk kv i w kv w') := fun w' hu => ⟨(hF.up hu).congr2 fun z hz => ⟨rfl, rfl, by
    show (if _ then _ else _) = _
    split
    · rename_i hs
      rw [subF_eq hw hi, h0] at hs
      have : z = i := by simpa using hs
      subst this
      unfold prQ; rw [h0]; rfl
    · rfl⟩, PUp.of_up hu, fun _ _ _ h => .inl h, fun _ _ => rfl⟩
  clear hown hF hp hv h0 hB
  go_enter Tryz.func41, Tryz.ntmps41
  go_wp2_with fail
  refine HCALL.out.mono ?_
  rintro e w' ⟨rfl, hu⟩
  have HN := Lib.hid (HPD.out w' hu)
  clear hu
  cases hP : P i with
  | true =>
    have HA2 : Hid (al F P rk i = true) := by rw [Hid, HAL.out, hP]
    go_wp2_with fail
    go_ret
    exact ⟨by rw [HA2.out]; rfl, _, HN.out⟩
  | false =>
    have HA2 : Hid (al F P rk i = false) := by rw [Hid, HAL.out, hP]
    go_wp2_with fail
    go_ret
    exact ⟨by rw [HA2.out]; rfl, _, HN.out⟩
set_option maxRecDepth 100000 in
set_option maxHeartbeats 4000000 in
theorem pruned_t (g : Nat) (lb : Array Value) (eg : ∀ args w, (callFunc g args).run Tryz.prog w = .ok (.enter g args) w) {base n : Nat} {A : Nat → Nat} {w0 : World} {m : Nat → ByteArray} {o : Nat → Int} {P : Nat → Bool} {rk : Nat → Nat}
    (hp : ∀ j W, j < n → Below base w0 W → W.cell? ⟨A j, 0, none⟩ = some (.string (m j)) → W.cell? ⟨A j, 2, none⟩ = some (.int .i64 (o j)) → Calls Tryz.prog g (#[.pointer (some ⟨A j, 0, none⟩)] ++ lb) W fun e W' => e = .returned (.bool (P j)) ∧ Up W W') :
    ∀ (d : Nat) (F : Frs) (i : Nat) (kv : Nat → Value) (w : World), F.nm = m → F.old = o → Wf F n rk → Dis F n rk i → (∀ z, z < n → (F.kids z).length ≤ 1000) → i < n → rk i ≤ d → Below base w0 w → base ≤ w.heap.size → FAt base n A kv F w →
    Calls Tryz.prog 41 #[.pointer (some ⟨A i, 0, none⟩), .func (.func g) #[] lb] w (PrPost base n A F P rk kv i w) := by
  intro d
  induction d with
  | zero =>
    intro F i kv w hm0 ho hw hD hl hi hd hB hb hF
    exact pruned_leaf eg hp hm0 ho hw hi hB hb hF (kids_nil0 hw hi hd)
  | succ d ih =>
    intro F i kv w hm0 ho hw hD hl hi hd hB hb hF
    by_cases h0 : F.kids i = []
    · exact pruned_leaf eg hp hm0 ho hw hi hB hb hF h0
    · have hown := hF.own i hi
      obtain ⟨L, hLL⟩ : ∃ L, L = F.kids i := ⟨_, rfl⟩
      have hL0 : 0 < L.length := by rw [hLL]; exact List.length_pos_iff.2 h0
      have hl1 : L.length ≤ 1000 := by rw [hLL]; exact hl i hi
      rw [← hLL] at hown
      obtain ⟨q, cap, hv, hq⟩ := hown.form (n := L.length) (by simp)
      obtain ⟨gk, rfl⟩ : ∃ g, q = some ⟨g, 0, none⟩ := by
        rcases hq with rfl | h
        · obtain ⟨_, h | ⟨g, _, _, h, _⟩⟩ := hown
          · have := h.2; rw [List.length_map] at this; omega
          · rw [hv] at h; cases h
        · exact h
      have hkc := hF.kidv hi
      rw [hv] at hkc
      have HF := Lib.hid hF
      have HV := Lib.hid hv
      have HLL := Lib.hid hLL
      have HIH := Lib.hid ih
      have HW := Lib.hid hw
      have HD := Lib.hid hD
      have HO := Lib.hid ho
      have HM0 := Lib.hid hm0
      have HLS := Lib.hid hl
      have HB := Lib.hid hB
      have HBS := Lib.hid hb
      have HLN : Hid (∀ c ∈ L, c < n ∧ rk c < rk i) := fun c hc => hw.kid i hi c (by rw [← hLL]; exact hc)
      have HST : Hid (PrW base n A F P rk kv i w kv w (.slice none 0 0) 0 0) := ⟨hF.congr2 fun z _ => ⟨rfl, rfl, upto_zero _ _ _⟩, PUp.refl _ _ _, fun _ _ _ h => .inl h, fun _ _ => rfl, Owns.nil _ _ _, fun b hb => by cases hb⟩
      have HAL : Hid (al F P rk i = (F.kids i).any (al F P rk)) := by rw [Hid, al_eq hw hi, if_neg h0]
      have d1 : ((L.length : Int) == 0) = false := beq_eq_false_iff_ne.2 (by omega)
      have hfr := hF.thaw hi 1
      clear hown hq hv hLL ih hw hD ho hm0 hl hB hb hF h0
      go_enter Tryz.func41, Tryz.ntmps41
      go_wp2_with fail
      go_loopw [5, 7, 8, 25] (fun dv _ _ x wr => ∃ k : Nat, k ≤ L.length ∧ x = .int .i64 k ∧ Hid (∃ kvk, PrW base n A F P rk kv i w kvk wr dv k k)) (fun _ _ _ x _ => L.length - (intOf x).toNat)
      case atStart => exact ⟨0, Nat.zero_le _, rfl, kv, HST.out⟩
      case round =>
        obtain ⟨k, hk, rfl, hO⟩ := hrel
        obtain ⟨wo, rfl⟩ : ∃ wo : World, wo = wr := ⟨_, rfl⟩
        obtain ⟨dv, rfl⟩ : ∃ d : Value, d = u5 := ⟨_, rfl⟩
        obtain ⟨kvk, hO⟩ := hO.out
        have HK := Lib.hid hO
        by_cases hlt : k < L.length
        · have hcL : L[k]? = some L[k] := List.getElem?_eq_getElem hlt
          have hc : (F.kids i)[k]? = some L[k] := by rw [← HLL.out]; exact hcL
          have hkvi : kvk i = .slice (some ⟨gk, 0, none⟩) L.length cap := (hO.old i (.inr rfl)).trans HV.out
          have hrow := hO.fr.kcell (i := i) (j := k) (c := L[k]) hi hkvi (by rw [upto_own HW.out hi k]; exact hc)
          have hcn := HLN.out L[k] (List.getElem_mem hlt)
          have HCALL := Lib.hid (HIH.out (F.upto rk (prQ F P rk) (F.kids i) k) L[k] kvk wo HM0.out HO.out (upto_wf HW.out P _ k) ((Dis.kid HW.out hi (List.mem_of_getElem? hc) HD.out).cong HW.out (upto_wf HW.out P _ k) hcn.1 (upto_fresh HW.out hi HD.out hc))
            (fun z hz => by
              show (if _ then _ else _ : List Nat).length ≤ _
              split
              · exact Nat.le_trans (List.length_filter_le _ _) (HLS.out z hz)
              · exact HLS.out z hz) hcn.1 (by have := hcn.2; omega) (HB.out.trans (hO.up.below HF.out.lo HBS.out)) (Nat.le_trans HBS.out hO.up.size) hO.fr)
          have HALC : Hid (al (F.upto rk (prQ F P rk) (F.kids i) k) P rk L[k] = al F P rk L[k]) := al_cong HW.out (upto_wf HW.out P _ k) hcn.1 (Nat.le_refl _) (upto_fresh HW.out hi HD.out hc)
          have HC := Lib.hid hc
          have HLT := Lib.hid hlt
          have i1 : (0 : Int) ≤ (k : Int) := by omega
          have i2 : (k : Int) < (L.length : Int) := by omega
          unfold PrPost at HCALL
          rw [HALC.out] at HCALL
          clear hcL hc hcn hkvi hO
          generalize L[k] = c at *
          go_wp2_with fail
          refine HCALL.out.mono ?_
          rintro e w2 ⟨rfl, kv2, h2⟩
          have HS := Lib.hid (HK.out.step HF.out HW.out HD.out hi HC.out h2)
          clear h2 HK
          cases ha : al F P rk c with
          | false =>
            have HN := Lib.hid (HS.out.skip HC.out ha)
            clear HS ha
            go_wp2_with fail
            go_roundw
            case rel => exact ⟨k + 1, HLT.out, by go_num, kv2, HN.out⟩
            case measure => have := HLT.out; simp [intOf]; omega
          | true =>
            have HA := Lib.hid ha
            have HLM : Hid (((((F.kids i).take k).filter (al F P rk)).map (nptr A)).length = (((F.kids i).take k).filter (al F P rk)).length) := List.length_map _
            have HLE : (((F.kids i).take k).filter (al F P rk)).length ≤ 1000000 := by
              refine Nat.le_trans (List.length_filter_le _ _) ?_
              rw [List.length_take]; omega
            have hwz : w.heap.size ≤ w2.heap.size := HS.out.up.size
            have HOW : Hid (Owns w.heap.size 59 w2 dv ((((F.kids i).take k).filter (al F P rk)).map (nptr A))) := HS.out.own
            clear ha
            unfold nptr
            go_wp2_with (first | (at_builtin; refine wpList_appG w2 rfl _ _ 57 rfl w.heap.size 59 (.pointer none) 8 Tryz.underlying57 Tryz.infoNP rfl (by decide) HOW.out rfl (.pointer (some ⟨A c, 0, none⟩)) rfl rfl _ HLM.out HLE hwz ?_; intro g8 cap8 w8 hown1 hgr1 hr1))
            have HN := Lib.hid (HS.out.push HF.out HC.out HA.out hown1 hgr1 hr1)
            clear hown1 hgr1 hr1 HS HOW
            go_roundw
            case rel => exact ⟨k + 1, HLT.out, by go_num, kv2, HN.out⟩
            case measure => have := HLT.out; simp [intOf]; omega
        · obtain rfl : k = L.length := by omega
          have hkl : (F.kids i).length = L.length := by rw [HLL.out]
          have HKD : Hid (PrW base n A F P rk kv i w kvk wo dv (F.kids i).length (F.kids i).length) := by rw [Hid, hkl]; exact hO
          have HDN := Lib.hid (HKD.out.done HF.out HW.out hi HBS.out)
          have hfr := HKD.out.fr.thaw hi 1
          have hdo := HKD.out.own
          rw [List.take_length] at hdo
          obtain ⟨dq, dc, rfl, _⟩ := hdo.form (n := ((F.kids i).filter (al F P rk)).length) (by simp)
          have HAE : Hid (al F P rk i = decide (0 < ((F.kids i).filter (al F P rk)).length)) := by
            rw [Hid, HAL.out, Bool.eq_iff_iff, List.any_eq_true, decide_eq_true_eq, List.length_pos_iff_exists_mem]
            constructor
            · rintro ⟨x, hx, e⟩; exact ⟨x, List.mem_filter.2 ⟨hx, e⟩⟩
            · rintro ⟨x, hx⟩; exact ⟨x, (List.mem_filter.1 hx).1, (List.mem_filter.1 hx).2⟩
          have hkc := HKD.out.fr.kidv hi
          clear hlt hk hdo hkl hO HK HKD
          generalize ((F.kids i).filter (al F P rk)).length = m at *
          by_cases hm : m = 0
          · have d2 : ((m : Int) == 0) = true := by rw [hm]; rfl
            have HA2 : Hid (al F P rk i = false) := by rw [Hid, HAE.out, hm]; rfl
            clear hm
            go_wp2_with fail
            go_ret
            exact ⟨by rw [HA2.out]; rfl, _, HDN.out⟩
          · have d2 : ((m : Int) == 0) = false := beq_eq_false_iff_ne.2 (by omega)
            have HA2 : Hid (al F P rk i = true) := by rw [Hid, HAE.out]; exact decide_eq_true (by omega)
            clear hm
            go_wp2_with fail
            go_ret
            exact ⟨by rw [HA2.out]; rfl, _, HDN.out⟩
end Go.Proofs.YtcaialhoclodjaaGreat
