/- The contract of phylotree.Print. Valid trees and their texts, plain: what the statements on texts, equal trees and canonical trees say. The parts of the rerooted tree, plain: which sets of leaves they have. The contract of phylotree.pruned. The contract of phylotree.contracted. The contract of phylotree.made. The contract of phylotree.Restrict. SharederrorClades, plain: the groups of the nodes have no conflict; their tree is the tree without nodes that have one child. The walk of phylotree.Restrict. The walk of phylotree.Reroot. The turns of Reroot in memory. Check, for names of any size. SharederrorClades, plain: Restrict keeps the whole tree, Consistent finds every group. SharederrorClades: what its loops keep in memory. The contract of phylotree.Reroot. Rerooting twice, plain. The root of a rerooted tree, plain. The last common ancestor of two nodes, plain. What Parse answers. The example of chapter 31, plain: what its functions answer. The helpers of the statements on layer 31: below, find, names, example. strings.IndexAny: laid -/
import Derived.Test.YtcbmbhghmfehpaaGreatQ20
import Derived.Test.YtcbmbhghmfehpaaGreatQ21
import Derived.Test.YtcbmbhghmfehpaaGreatQ19
import Derived.Test.YtcbmbhghmfehpaaGreatQ14
import Derived.Test.YtcbmbhghmfehpaaGreatQ18
import Derived.Test.YtcbmbhghmfehpaaGreatQ4
import Derived.Test.YtcbmbhghmfehpaaGreatQ5
import Derived.Test.YtcbmbhghmfehpaaGreatQ15
import Derived.Test.YtcbmbhghmfehpaaGreatQ12
import Derived.Test.YtcbmbhghmfehpaaGreatQ2
import Derived.Test.YtcbmbhghmfehpaaGreatQ3
import Derived.Shelf.SlGeneric
import Derived.Shelf.Strings.IndexAnyAll
import Derived.Ground.NamesProg
import Derived.Ground.Names2Prog
import Derived.Test.YtcbmbhghmfehpaaGreatProg
namespace Go.Proofs.YtcbmbhghmfehpaaGreat
open Go.RowKit Go.Deep
mutual
theorem txR_len {M : Nat} : ∀ r : RT, (∀ s ∈ nsR r, s.size ≤ M) → (txR r).length + 1 ≤ sizeR r * (M + 3)
  | .node nm [], h => by
    rw [txR, sizeR, sizeRs]
    have h1 := h nm (by rw [nsR]; simp)
    have h2 : nm.data.toList.length = nm.size := by rw [Array.length_toList]; rfl
    omega
  | .node nm (k :: ks), h => by
    have h1 := txR_len k (fun s hs => h s (by rw [nsR, nsRs]; simp [hs]))
    have h2 := txRs_len ks (fun s hs => h s (by rw [nsR, nsRs]; simp [hs]))
    rw [txR, sizeR, sizeRs]
    simp only [List.length_cons, List.length_append, List.length_nil]
    rw [Nat.add_mul, Nat.add_mul]
    omega
theorem txRs_len {M : Nat} : ∀ rs : List RT, (∀ s ∈ nsRs rs, s.size ≤ M) → (txRs rs).length ≤ sizeRs rs * (M + 3)
  | [], _ => by rw [txRs]; exact Nat.zero_le _
  | r :: rs, h => by
    have h1 := txR_len r (fun s hs => h s (by rw [nsRs]; simp [hs]))
    have h2 := txRs_len rs (fun s hs => h s (by rw [nsRs]; simp [hs]))
    rw [txRs, sizeRs]
    simp only [List.length_cons, List.length_append]
    rw [Nat.add_mul]
    omega
end
theorem nsR_toRF {F : Frs} {n : Nat} {rk : Nat → Nat} (h : Wf F n rk) {i : Nat} (hi : i < n) : nsR (toRF F rk i) = (nodesF F rk i).map F.nm := by
  rw [nsR_sub, subR_toRF h hi (Nat.le_refl _), List.map_map]
  refine List.map_congr_left fun z hz => ?_
  exact toRF_nm h (subF_lt h hi (Nat.le_refl _) ((mem_nodesF h hi (Nat.le_refl _)).1 hz))
theorem txT_len {t : Tre} (h : treeErr t = 0) {M : Nat} (hz : ∀ k, (gs t.ns k).size ≤ M) : (txR (toR t)).length + 1 ≤ 64 * (M + 3) := by
  obtain ⟨hp, hp64, _⟩ := treeErr_zero h
  have h1 := txR_len (M := M) (toR t) (fun s hs => by
    unfold toR at hs
    rw [nsR_toRF (frT_arb h).wf hp] at hs
    obtain ⟨z, _, rfl⟩ := List.mem_map.1 hs
    exact hz z)
  have h2 : sizeR (toR t) ≤ t.ps.length := good_size (frT_arb h).wf hp (good_toR h)
  exact Nat.le_trans h1 (Nat.mul_le_mul_right _ (by omega))
def txE (t : Tre) : Int := if treeErr t ≠ 0 then 1 else 0
def txT (t : Tre) : List UInt8 := if treeErr t ≠ 0 then [] else txR (toR t) ++ [59]
def TxPost (w : World) (t : Tre) (e : Ending) (w' : World) : Prop := Up w w' ∧ e = .returned (.tuple #[.string ⟨(txT t).toArray⟩, .int .i64 (txE t)])
set_option maxRecDepth 100000 in
set_option maxHeartbeats 4000000 in
theorem print_t (S : Nat → Prop) (w : World) (v : Value) (t : Tre) (hT : TreeAt S w v t) (hp : t.ps.length ≤ 1000000) (hn : t.ns.length ≤ 1000000) (hz : ∀ k, (gs t.ns k).size ≤ 70000) :
    Calls Tryz.prog 110 #[v] w (TxPost w t) := by
  obtain ⟨P, N, rfl, hP, hN⟩ := hT
  obtain ⟨pp, pc, rfl, _, _⟩ := SlAt.open hP
  obtain ⟨pn, pm, rfl, _, _⟩ := SlAt.open hN
  have hP : IntsAt S w (.slice pp t.ps.length pc) t.ps := hP
  have hN : StrsAt S w (.slice pn t.ns.length pm) t.ns := hN
  have ha := Up.alloc w (.cells #[.slice pp t.ps.length pc, .slice pn t.ns.length pm] 45)
  have HC0 := Lib.hid (box2_0 w (.slice pp t.ps.length pc) (.slice pn t.ns.length pm) 45)
  have HC1 := Lib.hid (box2_1 w (.slice pp t.ps.length pc) (.slice pn t.ns.length pm) 45)
  have hsz : (w.alloc (.cells #[.slice pp t.ps.length pc, .slice pn t.ns.length pm] 45)).heap.size = w.heap.size + 1 := by simp
  have HU := Lib.hid ha
  have HT1 : Hid (TreeAt S _ _ t) := TreeAt.keep ⟨_, _, rfl, hP, hN⟩ (ha.kept S)
  have HSZ := Lib.hid hsz
  have HZ := Lib.hid hz
  have hc0 := HC0.out
  have hc1 := HC1.out
  have HCK := Lib.hid (check_t S _ _ t HT1.out hp hn hz)
  have HXE : Hid (txE t = if treeErr t ≠ 0 then 1 else 0) := rfl
  have HXT : Hid (txT t = if treeErr t ≠ 0 then [] else txR (toR t) ++ [59]) := rfl
  clear ha hP hN hsz hz
  go_enter Tryz.func110, Tryz.ntmps110
  go_wp2_with fail
  generalize w.alloc (.cells #[.slice pp t.ps.length pc, .slice pn t.ns.length pm] 45) = w1 at *
  refine HCK.out.mono ?_
  rintro e w2 ⟨rfl, hu2⟩
  have hu2 : Up w1 w2 := hu2
  have HU2 := Lib.hid hu2
  have HUW := Lib.hid (HU.out.trans hu2)
  have hc0 := hu2.cell HC0.out
  have hc1 := hu2.cell HC1.out
  clear hu2 HCK
  by_cases he : treeErr t = 0
  · obtain ⟨hp0, hp64, hnl, hok, _⟩ := treeErr_zero he
    have HTE := Lib.hid he
    rw [he]
    have HT2 := Lib.hid (TreeAt.keep HT1.out (HU2.out.kept S))
    clear he hnl hok
    go_wp2_with fail
    have hb := blk_alloc_new w2 (.cells #[.pointer none, .slice none 0 0] 190)
    have hu3 := Up.alloc w2 (.cells #[.pointer none, .slice none 0 0] 190)
    have hs3 : (w2.alloc (.cells #[.pointer none, .slice none 0 0] 190)).heap.size = w2.heap.size + 1 := World.size_alloc _ _
    have hfb := blk_alloc_new (w2.alloc (.cells #[.pointer none, .slice none 0 0] 190)) (.cells #[.func (.func 174) #[] #[.pointer (some ⟨w2.heap.size, 0, none⟩), .pointer (some ⟨w2.heap.size + 1, 0, none⟩)]] 191)
    have hu4 := Up.alloc (w2.alloc (.cells #[.pointer none, .slice none 0 0] 190)) (.cells #[.func (.func 174) #[] #[.pointer (some ⟨w2.heap.size, 0, none⟩), .pointer (some ⟨w2.heap.size + 1, 0, none⟩)]] 191)
    have hs4 : ((w2.alloc (.cells #[.pointer none, .slice none 0 0] 190)).alloc (.cells #[.func (.func 174) #[] #[.pointer (some ⟨w2.heap.size, 0, none⟩), .pointer (some ⟨w2.heap.size + 1, 0, none⟩)]] 191)).heap.size = w2.heap.size + 2 := by rw [World.size_alloc, hs3]
    have hb4 := (blk_alloc_lt (w2.alloc (.cells #[.pointer none, .slice none 0 0] 190)) (.cells #[.func (.func 174) #[] #[.pointer (some ⟨w2.heap.size, 0, none⟩), .pointer (some ⟨w2.heap.size + 1, 0, none⟩)]] 191) w2.heap.size (by omega)).trans hb
    rw [hs3] at hfb
    have hc04 := (hu3.trans hu4).cell hc0
    have hc14 := (hu3.trans hu4).cell hc1
    have HU4 := Lib.hid (hu3.trans hu4)
    clear hb hu3 hu4 hs3 hc0 hc1
    generalize (w2.alloc (.cells #[.pointer none, .slice none 0 0] 190)).alloc (.cells #[.func (.func 174) #[] #[.pointer (some ⟨w2.heap.size, 0, none⟩), .pointer (some ⟨w2.heap.size + 1, 0, none⟩)]] 191) = w4 at *
    have HBX : Hid (PrBox w2.heap.size (w2.heap.size + 1) w4) := hfb
    have hfc := HBX.out.cell
    have HB4 := Lib.hid hb4
    have HS4 := Lib.hid hs4
    clear hs4 hb4 hfb
    refine region_T (by kernel_rfl) 6 (fun w' => w'.cell? ⟨w2.heap.size + 1, 0, none⟩ = some (.func (.func 174) #[] #[.pointer (some ⟨w2.heap.size, 0, none⟩), .pointer (some ⟨w2.heap.size + 1, 0, none⟩)]) ∧ w'.cell? ⟨w.heap.size, 0, none⟩ = some (.slice pp t.ps.length pc) ∧ w'.cell? ⟨w.heap.size, 1, none⟩ = some (.slice pn t.ns.length pm)) ⟨hfc, hc04, hc14⟩ (fun hS => ?_)
    simp only [List.size_toArray, List.length_cons, List.length_nil, Nat.reduceAdd, Array.replicate_succ, Array.replicate_zero, List.push_toArray, List.nil_append, List.cons_append]
    refine anyT.take (i := 0) (v := ?gv0k1) rfl (by kernel_rfl) (fun _ _ _ h => h) (by rfl) (fun w hSw => ?gy0k1) hS ?gr0k1
    case gy0k1 =>
      (try dsimp only at hSw)
      go_simp
      try with_reducible rfl
    try simp only [Act.put, List.setIfInBounds_toArray, List.set_cons_zero, List.set_cons_succ]
    refine anyT.take (i := 1) (v := ?gv1k1) rfl (by kernel_rfl) (fun _ _ _ h => h) (by rfl) (fun w hSw => ?gy1k1) hS ?gr1k1
    case gy1k1 =>
      (try dsimp only at hSw)
      go_simp
      try with_reducible rfl
    try simp only [Act.put, List.setIfInBounds_toArray, List.set_cons_zero, List.set_cons_succ]
    refine anyT.step (i := 2) rfl (by kernel_rfl) (fun K' hK => ?_)
    go_simp
    have HUD : Hid (Up w4 w4.drew) := Up.drewN w4 1
    obtain ⟨_, _, hnl, hok, _⟩ := treeErr_zero HTE.out
    have HND := Lib.hid (nodes2_t S w4.drew _ t (TreeAt.keep HT2.out ((HU4.out.trans HUD.out).kept S)) (by omega) hnl hok HZ.out)
    refine HND.out.mono ?_
    rintro e w5 ⟨hu5, g, A, kv, hgl, rfl, hF, hrow⟩
    have hr0 := hrow.cell (i := 0) hp0
    simp only [nptr] at hr0
    have HU5 := Lib.hid (HUD.out.trans hu5)
    have hpos : (0 : Int) < (t.ps.length : Int) := by omega
    refine hK.out _ _ (fun _ => ⟨HU5.out.cell hfc, HU5.out.cell hc04, HU5.out.cell hc14⟩) (fun hS => ?_)
    try simp only [List.setIfInBounds_toArray, List.set_cons_zero, List.set_cons_succ]
    have HF := Lib.hid hF
    have HGL := Lib.hid hgl
    have HX1 : Hid (txE t = 0) := by rw [Hid, HXE.out, if_neg (by simp [HTE.out])]
    have HX2 : Hid (txT t = txR (toR t) ++ [59]) := by rw [Hid, HXT.out, if_neg (by simp [HTE.out])]
    have HLN := Lib.hid (txT_len HTE.out HZ.out)
    have HBL : Hid (Lib.IsBuilderF 190 5 w2.heap.size w2.heap.size (Lib.byteCells []) w5) := .inl ⟨Nat.le_refl _, _, (Below.block HU5.out _ (by rw [HS4.out]; omega)).trans HB4.out, ⟨rfl, .inl ⟨rfl, rfl⟩⟩, fun e => by cases e⟩
    have HBX5 : Hid (PrBox w2.heap.size (w2.heap.size + 1) w5) := (Below.block HU5.out _ (by rw [HS4.out]; omega)).trans HBX.out
    have HSB : Hid (w2.heap.size + 2 ≤ w5.heap.size) := by have := HU5.out.size; rw [HS4.out] at this; exact this
    have HP1 := Lib.hid (print1_t (base := g + 1) (n := t.ps.length) (B := w2.heap.size) (b := w2.heap.size) (fb := w2.heap.size + 1) (frT_arb HTE.out).wf (fun z _ => by have := frT_kids_len t z; omega) (by have := HS4.out; have h2 : w4.heap.size ≤ g := hgl; omega) (by omega) (rkT t 0) 0 [] w5 hp0 (Nat.le_refl _) hF HBX5.out HBL.out (by
      have := HLN.out
      show 0 + (txR (toR t)).length ≤ _
      omega) (by have := HSB.out; omega))
    clear hnl hok hF hgl hrow HND hu5
    refine anyT.step (i := 3) rfl (by kernel_rfl) (fun K' hK => ?_)
    go_simp
    refine hK.out _ _ (fun _ => ⟨HU5.out.cell hfc, HU5.out.cell hc04, HU5.out.cell hc14⟩) (fun hS => ?_)
    try simp only [List.setIfInBounds_toArray, List.set_cons_zero, List.set_cons_succ]
    refine anyT.step (i := 4) rfl (by kernel_rfl) (fun K' hK => ?_)
    go_simp
    refine hK.out _ _ (fun _ => ⟨HU5.out.cell hfc, HU5.out.cell hc04, HU5.out.cell hc14⟩) (fun hS => ?_)
    try simp only [List.setIfInBounds_toArray, List.set_cons_zero, List.set_cons_succ]
    refine anyT.step (i := 5) rfl (by kernel_rfl) (fun K' hK => ?_)
    go_simp
    refine HP1.out.mono ?_
    rintro e w6 ⟨rfl, h6⟩
    refine hK.out _ _ (not_more (by kernel_rfl)) (fun hS => ?_)
    refine anyT.done (by kernel_rfl) ?_
    have HX3 : Hid (toRF (frT t) (rkT t) 0 = toR t) := rfl
    rw [List.nil_append, HX3.out] at h6
    have HB6 := Lib.hid h6
    have HWB := Lib.hid (wbyte_t w2.heap.size w2.heap.size (Lib.byteCells (txR (toR t))) 59 w6 h6.bl (by rw [Lib.byteCells_length]; have := HLN.out; omega) (h6.size (by have := HSB.out; omega)))
    clear h6 HP1 hS hK
    go_wp2_with fail
    refine HWB.out.mono ?_
    rintro e w7 ⟨rfl, h1, h2, h3⟩
    have HB7 := Lib.hid (HB6.out.byte (x := 59) rfl h1 h2 h3)
    have HST := Lib.hid (bstr_t w2.heap.size w2.heap.size (txR (toR t) ++ [59]) w7 HB7.out.bl (HB7.out.size (by have := HSB.out; omega)))
    clear h1 h2 h3
    go_wp2_with fail
    refine HST.out.mono ?_
    rintro e w8 ⟨rfl, _, h2, _⟩
    have HB8 : Hid (Up w2 w8) := Below.trans (HU4.out.trans HU5.out) (HB7.out.up.trans h2)
    clear h2
    go_wp2_with fail
    go_ret2
    exact ⟨HUW.out.trans HB8.out, by rw [HX1.out, HX2.out]; rfl⟩
  · have he1 : (treeErr t != 0) = true := by simpa using he
    have HX1 : Hid (txE t = 1) := by rw [Hid, HXE.out, if_pos he]
    have HX2 : Hid (txT t = []) := by rw [Hid, HXT.out, if_pos he]
    clear he
    generalize treeErr t = te at *
    go_wp2_with fail
    go_ret2
    exact ⟨HUW.out, by rw [HX1.out, HX2.out]; rfl⟩
end Go.Proofs.YtcbmbhghmfehpaaGreat
namespace Go.Proofs.YtcbmbhghmfehpaaGreat
theorem aln_sp {c : UInt8} (h : aln c = true) : c ∉ sp4 := fun hm => by
  simp only [sp4, List.mem_cons, List.not_mem_nil, or_false] at hm
  rcases hm with rfl | rfl | rfl | rfl <;> exact absurd h (by decide)
theorem named_sp {s : ByteArray} (h : namedB s.data.toList = true) : s.data.toList ≠ [] ∧ ∀ c ∈ s.data.toList, c ∉ sp4 := by
  generalize s.data.toList = l at h ⊢
  unfold namedB at h
  have key : ∀ l : List UInt8, isNameB l = true → l ≠ [] ∧ ∀ c ∈ l, c ∉ sp4 := fun l h => by
    unfold isNameB at h
    simp only [Bool.and_eq_true, decide_eq_true_eq, List.all_eq_true] at h
    exact ⟨fun e => by rw [e] at h; simp at h, fun c hc => aln_sp (h.2 c hc)⟩
  by_cases e : l.getLast? = some 42
  · rw [if_pos e] at h
    simp only [Bool.and_eq_true] at h
    obtain ⟨h1, h2⟩ := key _ h.1
    have hl : l ≠ [] := fun e2 => by subst e2; cases e
    refine ⟨hl, fun c hc => ?_⟩
    rw [← List.dropLast_concat_getLast hl, List.mem_append, List.mem_singleton] at hc
    rcases hc with hc | hc
    · exact h2 c hc
    · rw [List.getLast?_eq_some_getLast hl] at e
      have e := Option.some.inj e
      rw [hc, e]; decide
  · rw [if_neg e] at h; exact key l h
theorem GoodR.okp {r : RT} (h : GoodR r) : OkP r := fun s hs => ⟨h.inn s hs, fun hk => named_sp (h.lf s hs hk)⟩
section
variable {t : Tre}
theorem hit_all0 (h : treeErr t = 0) : ∀ (d j : Nat), j ≤ d → j < t.ps.length → hitB t.ps 0 j = true
  | d, j, hd, hj => by
    by_cases h0 : j = 0
    · subst h0; exact hit_self 0
    · obtain ⟨_, _, _, hok, _⟩ := treeErr_zero h
      have hp := pOkB_par hok hj (by omega)
      rw [hit_step hok hj (by omega)]
      cases d with
      | zero => omega
      | succ d => exact hit_all0 h d _ (by omega) (by omega)
theorem nodes_perm (h : treeErr t = 0) : (nodesF (frT t) (rkT t) 0).Perm (List.range t.ps.length) := by
  have h0 := (treeErr_zero h).1
  refine (List.perm_ext_iff_of_nodup (nodesF_nodup (frT_arb h) (fun i _ => rkT_le t i) h0 (Nat.le_refl _)) List.nodup_range).2 fun j => ?_
  rw [List.mem_range]
  constructor
  · exact mem_nodes_lt h
  · intro hj
    refine (mem_nodesF (frT_arb h).wf h0 (Nat.le_refl _)).2 ?_
    rw [sub_hit h _ 0 j (Nat.le_refl _) h0 hj]
    exact hit_all0 h j j (Nat.le_refl _) hj
theorem ns_perm (h : treeErr t = 0) : (nsR (toR t)).Perm t.ns := by
  rw [nsR_toR h]
  have hl := (treeErr_zero h).2.2.1
  have h1 := (nodes_perm h).map (gs t.ns)
  rw [← hl, range_gs] at h1
  exact h1
theorem leafs_perm (h : treeErr t = 0) : (leafR (toR t)).Perm (fltN t.ns) := (ns_perm h).filter _
theorem can_names (h : treeErr t = 0) : (fltN (canT t).ns).Perm (fltN t.ns) := by
  rw [canT_flat h]
  exact (leafR_sort (toR t)).trans (leafs_perm h)
theorem leaf_one31 {nm : ByteArray} (h : nm.size ≠ 0) : leafR (.node nm []) = [nm] := by
  unfold leafR
  rw [nsR, nsRs]
  exact List.filter_eq_self.2 fun x hx => decide_eq_true (by rw [List.mem_singleton.1 hx]; exact h)
/-- The leaf that is met first. -/
theorem leaf_head : ∀ (r : RT), (∀ s ∈ subR r, s.kids ≠ [] → s.nm.size = 0) → (∀ s ∈ subR r, s.kids = [] → s.nm.size ≠ 0) → ∃ l, leafR r = firstR r :: l
  | .node nm [], _, h2 => ⟨[], by
    have h := h2 (.node nm []) (by rw [subR]; exact List.mem_cons_self) rfl
    rw [leaf_one31 (nm := nm) h, firstR]⟩
  | .node nm (k :: ks), h1, h2 => by
    have h0 : nm.size = 0 := h1 (.node nm (k :: ks)) (by rw [subR]; exact List.mem_cons_self) (by simp [RT.kids])
    have hk : ∀ s ∈ subR k, s ∈ subR (.node nm (k :: ks)) := fun s hs => by rw [subR, subRs]; simp [hs]
    obtain ⟨l, hl⟩ := leaf_head k (fun s hs => h1 s (hk s hs)) (fun s hs => h2 s (hk s hs))
    rw [leafR_node h0, List.flatMap_cons, hl, firstR]
    exact ⟨_, rfl⟩
theorem GoodR.head {r : RT} (h : GoodR r) : ∃ l, leafR r = firstR r :: l := leaf_head r h.inn fun s hs hk => named_size (h.lf s hs hk)
end
theorem GoodR.kid {nm : ByteArray} {ks : List RT} (h : GoodR (.node nm ks)) {k : RT} (hk : k ∈ ks) : GoodR k := by
  have hs : ∀ s ∈ subR k, s ∈ subR (.node nm ks) := fun s hs => by rw [subR, subRs_flat]; exact List.mem_cons_of_mem _ (List.mem_flatMap.2 ⟨k, hk, hs⟩)
  exact ⟨fun s h1 => h.inn s (hs s h1), fun s h1 => h.lf s (hs s h1), (leafR_sub (hs k (subR_self k))).nodup h.nd⟩
end Go.Proofs.YtcbmbhghmfehpaaGreat
namespace Go.Proofs.YtcbmbhghmfehpaaGreat
theorem leaf_reach {F : Frs} {n : Nat} {rk : Nat → Nat} (h : Wf F n rk) {z : Nat} (hz : z < n) {x : ByteArray} : x ∈ leafR (toRF F rk z) ↔ ∃ j, j < n ∧ subF F rk z j = true ∧ (F.nm j).size ≠ 0 ∧ x = F.nm j := by
  unfold leafR
  rw [nsR_toRF h hz, List.mem_filter, List.mem_map]
  constructor
  · rintro ⟨⟨j, hj, rfl⟩, h0⟩
    have hs := (mem_nodesF h hz (Nat.le_refl _)).1 hj
    exact ⟨j, subF_lt h hz (Nat.le_refl _) hs, hs, of_decide_eq_true h0, rfl⟩
  · rintro ⟨j, _, hs, h0, rfl⟩
    exact ⟨⟨j, (mem_nodesF h hz (Nat.le_refl _)).2 hs, rfl⟩, decide_eq_true h0⟩
section
variable {t : Tre} {leaf : Nat}
theorem und_iff (h : treeErr t = 0) {z : Nat} (hz : z < t.ps.length) {x : ByteArray} : x ∈ leafR (toRF (frT t) (rkT t) z) ↔ ∃ j, j < t.ps.length ∧ hitB t.ps z j = true ∧ (gs t.ns j).size ≠ 0 ∧ x = gs t.ns j := by
  rw [leaf_reach (frT_arb h).wf hz]
  constructor
  · rintro ⟨j, hj, hs, h0, e⟩
    exact ⟨j, hj, by rw [← sub_hit h _ z j (Nat.le_refl _) hz hj]; exact hs, h0, e⟩
  · rintro ⟨j, hj, hs, h0, e⟩
    exact ⟨j, hj, by rw [sub_hit h _ z j (Nat.le_refl _) hz hj]; exact hs, h0, e⟩
theorem LeafOk.inj (h : LeafOk t leaf) {a b : Nat} (ha : a < t.ps.length) (hb : b < t.ps.length) (h0 : (gs t.ns a).size ≠ 0) (e : gs t.ns a = gs t.ns b) : a = b := by
  have ea : (rrF t leaf).nm a = gs t.ns a := upd_ne _ _ (by omega)
  have eb : (rrF t leaf).nm b = gs t.ns b := upd_ne _ _ (by omega)
  exact rr_names h a b (by omega) (by omega) (by rw [ea]; exact h0) (by rw [ea, eb]; exact e)
end
end Go.Proofs.YtcbmbhghmfehpaaGreat
namespace Go.Proofs.YtcbmbhghmfehpaaGreat
open Go.RowKit Go.Deep
end Go.Proofs.YtcbmbhghmfehpaaGreat
namespace Go.Proofs.YtcbmbhghmfehpaaGreat
open Go.RowKit Go.Deep
end Go.Proofs.YtcbmbhghmfehpaaGreat
namespace Go.Proofs.YtcbmbhghmfehpaaGreat
open Go.RowKit Go.Deep
theorem FUp.far {n base : Nat} {A : Nat → Nat} {kv : Nat → Value} {F : Frs} {w a b : World} (h : FUp n A kv a b) (hF : FAt base n A kv F w) {B : Nat} (hB : w.heap.size ≤ B) (hl : B < a.heap.size) : b.heap[B]? = a.heap[B]? :=
  h.block B hl (fun i hi e => by have := hF.lt hi; omega) (fun i hi e => by have := (hF.ownlt hi e).2; omega)
end Go.Proofs.YtcbmbhghmfehpaaGreat
namespace Go.Proofs.YtcbmbhghmfehpaaGreat
open Go.RowKit Go.Deep
end Go.Proofs.YtcbmbhghmfehpaaGreat
namespace Go.Proofs.YtcbmbhghmfehpaaGreat
section
variable {t : Tre}
end
section
variable {t : Tre}
end
end Go.Proofs.YtcbmbhghmfehpaaGreat
namespace Go.Proofs.YtcbmbhghmfehpaaGreat
open Go.RowKit Go.Deep
end Go.Proofs.YtcbmbhghmfehpaaGreat
namespace Go.Proofs.YtcbmbhghmfehpaaGreat
open Go.RowKit Go.Deep
end Go.Proofs.YtcbmbhghmfehpaaGreat
namespace Go.Proofs.YtcbmbhghmfehpaaGreat
open Go.RowKit Go.Deep
/-- The forest under way, and the box that holds the number of the node behind. -/
structure TurnAt (g n : Nat) (A : Nat → Nat) (kv : Nat → Value) (F : Frs) (w3 wr : World) (fb : Nat) (f : Int) : Prop where
  fr : FAt (g + 1) n A kv F wr
  box : wr.heap[fb]? = some (.cells #[.int .i64 f] 3 (0, 0))
  lo : g < fb
  farA : ∀ j, j < n → A j ≠ fb
  farK : ∀ j, j < n → (kv j).ownBlock ≠ some fb
  up : Below (g + 1) w3 wr
section
variable {g n fb : Nat} {A : Nat → Nat} {kv : Nat → Value} {F : Frs} {w3 wr w' : World} {f : Int}
theorem TurnAt.fbl (h : TurnAt g n A kv F w3 wr fb f) : fb < wr.heap.size := (Array.getElem?_eq_some_iff.1 h.box).1
theorem TurnAt.cell (h : TurnAt g n A kv F w3 wr fb f) : wr.cell? ⟨fb, 0, none⟩ = some (.int .i64 f) := by simp [World.cell?, h.box]
theorem TurnAt.size (h : TurnAt g n A kv F w3 wr fb f) : g + 1 ≤ wr.heap.size := by have := h.lo; have := h.fbl; omega
/-- What DeleteFunc leaves. -/
theorem TurnAt.grown (h : TurnAt g n A kv F w3 wr fb f) {x : Nat} (hx : x < n) {row : Option Nat} (hr : row = (kv x).ownBlock) (hw : wr.grownBy w' row) :
    w'.heap[fb]? = some (.cells #[.int .i64 f] 3 (0, 0)) ∧ (∀ j, j < n → w'.heap[A j]? = wr.heap[A j]?) ∧ Below (g + 1) w3 w' := by
  subst hr
  exact ⟨by rw [hw.block fb h.fbl fun e => h.farK x hx e.symm]; exact h.box, fun j hj => hw.block _ (h.fr.lt hj) fun e => h.fr.apart x j hx hj e.symm, h.up.trans ((h.fr.own x hx).grown_below hw h.size)⟩
theorem TurnAt.store (h : TurnAt g n A kv F w3 wr fb f) {x : Nat} (hx : x < n) {row : Option Nat} (hr : row = (kv x).ownBlock) (hw : wr.grownBy w' row) :
    w'.cell? ⟨A x, 1, none⟩ = some (kv x) ∧ w'.frozen? ⟨A x, 1, none⟩ = false := by
  have h1 := (h.grown hx hr hw).2.1 x hx
  constructor
  · simp only [World.cell?, h1]; exact h.fr.kidv hx
  · simp only [World.frozen?, h1]; exact h.fr.thaw hx 1
theorem TurnAt.push (h : TurnAt g n A kv F w3 wr fb f) {k c : Nat} (hk : k < n) (hc : c < n) {b m cap : Nat} (hv : Owns (g + 1) 145 w' (.slice (some ⟨b, 0, none⟩) m cap) ((F.kids k).map (nptr A) ++ [nptr A c])) (hg : wr.grownBy w' (kv k).ownBlock)
    (hb : (kv k).ownBlock = some b ∨ wr.heap.size ≤ b) : TurnAt g n A (upd kv k (.slice (some ⟨b, 0, none⟩) m cap)) { F with kids := upd F.kids k (F.kids k ++ [c]) } w3 (w'.setCell ⟨A k, 1, none⟩ (.slice (some ⟨b, 0, none⟩) m cap)) fb f := by
  obtain ⟨h1, h2, h3⟩ := h.grown hk rfl hg
  refine ⟨h.fr.push hk hc (by rw [List.map_append]; exact hv) hg (fun b2 hb2 => by cases hb2; exact hb), ?_, h.lo, h.farA, fun j hj => ?_, h3.setCell (p := ⟨A k, 1, none⟩) (h.fr.lo k hk) _⟩
  · rw [blk_setCell_other _ _ _ _ (fun e => h.farA k hk e.symm)]; exact h1
  · by_cases e : j = k
    · subst e; rw [upd_same]
      intro e2
      have e2 : b = fb := by cases e2; rfl
      rcases hb with h4 | h4
      · exact h.farK j hj (by rw [h4, e2])
      · have := h.fbl; omega
    · rw [upd_ne _ _ e]; exact h.farK j hj
theorem TurnAt.drew (h : TurnAt g n A kv F w3 wr fb f) : TurnAt g n A kv F w3 wr.drew fb f :=
  ⟨h.fr.up (Up.drewN wr 1), h.box, h.lo, h.farA, h.farK, h.up.trans ((Up.drewN wr 1 : Up wr wr.drew).mono h.size)⟩
theorem TurnAt.congr (h : TurnAt g n A kv F w3 wr fb f) {G : Frs} (e : ∀ j, j < n → G.nm j = F.nm j ∧ G.old j = F.old j ∧ G.kids j = F.kids j) : TurnAt g n A kv G w3 wr fb f :=
  ⟨h.fr.congr2 e, h.box, h.lo, h.farA, h.farK, h.up⟩
end
end Go.Proofs.YtcbmbhghmfehpaaGreat
namespace Go.Proofs.YtcbmbhghmfehpaaGreat
open Go.RowKit Go.Deep
end Go.Proofs.YtcbmbhghmfehpaaGreat
namespace Go.Proofs.YtcbmbhghmfehpaaGreat
theorem leavesL_asc (ns : List ByteArray) : (leavesL ns).Pairwise (· < ·) := by
  unfold leavesL
  rw [List.pairwise_map]
  exact (List.Pairwise.filter _ List.pairwise_lt_range).imp fun h => Int.ofNat_lt.2 h
section
variable {t : Tre}
end
end Go.Proofs.YtcbmbhghmfehpaaGreat
namespace Go.Proofs.YtcbmbhghmfehpaaGreat
open Go.RowKit Go.Deep
section
variable {P : Program} {ops : Array Oper} {rest : List Oper} {o : Oper} {a : Act} {Q : Exit → Act → World → Prop}
/-- 'out = append(out, u)', the world's size said. -/
theorem wpList_appGM (W : World) (hgd : o.guard = none) (s x : Operand) (t : TypeId) (ho : o.op = .call { callee := .builtin .append, args := #[s, x], argTypes := #[t, t] })
    (base : Nat) (e : TypeId) (z : Value) (bytes : Nat) (ht : P.underlying t = some (.slice e)) (hinfo : (P.info? e).map (fun i => (i.zero, i.size, i.bytes)) = some (some z, 1, bytes))
    (hz1 : z.cells.size = 1) (hb8 : bytes ≤ 64) {v : Value} {vs : List Value} (hown : Owns base e W v vs) (hs : a.eval s = v) (u : Value) (m : Nat) (hm : W.heap.size = m)
    (hx : a.eval x = .slice (some ⟨m, 0, none⟩) 1 1) (h1 : u.oneCell' = true) (k : Nat) (hvn : vs.length = k) (hn : k ≤ 1000000) (hbase : base ≤ W.heap.size)
    (h : ∀ g cap w', Owns base e w' (.slice (some ⟨g, 0, none⟩) (k + 1) cap) (vs ++ [u]) → W.grownBy w' v.ownBlock → (v.ownBlock = some g ∨ W.heap.size ≤ g) → wpList P ops Q rest (a.put o.dst (.slice (some ⟨g, 0, none⟩) (k + 1) cap)) w') :
    wpList P ops Q (o :: rest) a (W.alloc (.cells #[u] e)) := by
  subst hm
  exact wpList_appG W hgd s x t ho base e z bytes ht hinfo hz1 hb8 hown hs u hx h1 k hvn hn hbase h
end
/-- The tree under way: its parents given, its names grow in its cell. -/
structure ClW (w2 wr : World) (tb : Nat) (pv nv : Value) (xs : List ByteArray) : Prop where
  box : wr.heap[tb]? = some (Obj.cells #[pv, nv] 45 (0, 0))
  own : Owns (tb + 1) 9 wr nv (xs.map Value.string)
  up : Up w2 wr
  lo : tb = w2.heap.size ∧ tb + 1 ≤ wr.heap.size
section
variable {w2 wr wx w' : World} {tb : Nat} {pv nv v : Value} {xs : List ByteArray}
theorem ClW.start (w2 : World) (pv : Value) : ClW w2 (w2.alloc (.cells #[pv, .slice none 0 0] 45)) w2.heap.size pv (.slice none 0 0) [] :=
  ⟨blk_alloc_new _ _, Owns.nil _ _ _, Up.alloc _ _, rfl, by rw [World.size_alloc]; exact Nat.le_refl _⟩
theorem ClW.upw (h : ClW w2 wr tb pv nv xs) (hu : Up wr wx) : ClW w2 wx tb pv nv xs :=
  ⟨(Below.block hu tb (by have := h.lo; omega)).trans h.box, h.own.same2 fun b hb => Below.block hu b (ownBlock_lt h.own hb).2, h.up.trans hu, h.lo.1, Nat.le_trans h.lo.2 hu.size⟩
theorem ClW.cells (h : ClW w2 wr tb pv nv xs) : wr.cell? ⟨tb, 0, none⟩ = some pv ∧ wr.cell? ⟨tb, 1, none⟩ = some nv ∧ wr.frozen? ⟨tb, 0, none⟩ = false ∧ wr.frozen? ⟨tb, 1, none⟩ = false := by
  refine ⟨?_, ?_, ?_, ?_⟩ <;> simp [World.cell?, World.frozen?, h.box]
theorem ClW.grown (h : ClW w2 wr tb pv nv xs) (hg : wr.grownBy w' nv.ownBlock) : w'.heap[tb]? = some (Obj.cells #[pv, nv] 45 (0, 0)) :=
  (hg.block tb (by have := h.lo; omega) fun e => by have := (ownBlock_lt h.own e.symm).1; omega).trans h.box
theorem ClW.push {s : ByteArray} (h : ClW w2 wr tb pv nv xs) (ho : Owns (tb + 1) 9 w' v (xs.map Value.string ++ [.string s])) (hg : wr.grownBy w' nv.ownBlock) :
    (w'.cell? ⟨tb, 1, none⟩ = some nv ∧ w'.frozen? ⟨tb, 1, none⟩ = false) ∧ ClW w2 (w'.setCell ⟨tb, 1, none⟩ v) tb pv v (xs ++ [s]) := by
  have hb := h.grown hg
  refine ⟨⟨by simp [World.cell?, hb], by simp [World.frozen?, hb]⟩, ?_, ?_, ?_, h.lo.1, by rw [World.size_setCell]; exact Nat.le_trans h.lo.2 hg.size⟩
  · simp [World.setCell, Array.getElem?_modify, hb]
  · rw [List.map_append]
    exact ho.same2 fun b hb2 => blk_setCell_other _ _ _ _ (show b ≠ tb by have := (ownBlock_lt ho hb2).1; omega)
  · refine ⟨hg.os.trans h.up.os, hg.tape.trans h.up.tape, hg.output.trans h.up.output, by rw [World.size_setCell]; exact Nat.le_trans h.up.size hg.size, fun b hb2 => ?_⟩
    rw [blk_setCell_other _ _ _ _ (show b ≠ tb by have := h.lo.1; omega)]
    refine (hg.block b (Nat.lt_of_lt_of_le hb2 h.up.size) fun e => ?_).trans (Below.block h.up b hb2)
    have := (ownBlock_lt h.own e.symm).1
    have := h.lo.1
    omega
end
/-- The groups and the numbers of the leaves, two lists that grow. -/
structure ClG (w3 wr : World) (d a : Value) (gs : List Grp) (svs : List Value) (xs : List Int) : Prop where
  row : wr.ownsRow w3.heap.size 37 3 d gs.length (cellsG gs svs)
  len : svs.length = gs.length
  src : ∀ i, i < gs.length → IntsAt (fun b => some b ≠ d.ownBlock ∧ some b ≠ a.ownBlock) wr (svs.getD i undef) (gg gs i).src
  all : Owns w3.heap.size 3 wr a (xs.map (Value.int .i64))
  apart : ∀ b, d.ownBlock = some b → a.ownBlock ≠ some b
  up : Up w3 wr
section
variable {w3 wr wx w' : World} {d a : Value} {gs : List Grp} {svs : List Value} {xs : List Int}
theorem ClG.start (w3 : World) : ClG w3 w3 (.slice none 0 0) (.slice none 0 0) [] [] [] :=
  ⟨World.ownsRow_nil _ _ _ _, rfl, fun _ h => absurd h (Nat.not_lt_zero _), Owns.nil _ _ _, fun _ h => (by cases h), Up.refl _⟩
theorem ClG.dlt (h : ClG w3 wr d a gs svs xs) {b : Nat} (hb : d.ownBlock = some b) : w3.heap.size ≤ b ∧ b < wr.heap.size := World.ownsRow.lt h.row b hb
theorem ClG.alt (h : ClG w3 wr d a gs svs xs) {b : Nat} (hb : a.ownBlock = some b) : w3.heap.size ≤ b ∧ b < wr.heap.size := ownBlock_lt h.all hb
theorem ownsRow_same {base sz n : Nat} {e : TypeId} {w w' : World} {v : Value} {cs : List Value} (h : w.ownsRow base e sz v n cs) (k : ∀ b, v.ownBlock = some b → w'.heap[b]? = w.heap[b]?) : w'.ownsRow base e sz v n cs := by
  refine ⟨h.1, ?_⟩
  rcases h.2 with h0 | ⟨g, cap, cur, rfl, hg, hc, hr⟩
  · exact .inl h0
  · exact .inr ⟨g, cap, cur, rfl, hg, (k g rfl).trans hc, hr⟩
theorem ClG.upw (h : ClG w3 wr d a gs svs xs) (hu : Up wr wx) : ClG w3 wx d a gs svs xs :=
  ⟨ownsRow_same h.row fun b hb => Below.block hu b (h.dlt hb).2, h.len, fun i hi => (h.src i hi).keep (hu.kept _), h.all.same2 fun b hb => Below.block hu b (h.alt hb).2, h.apart, h.up.trans hu⟩
end
end Go.Proofs.YtcbmbhghmfehpaaGreat
namespace Go.Proofs.YtcbmbhghmfehpaaGreat
open Go.RowKit Go.Deep
end Go.Proofs.YtcbmbhghmfehpaaGreat
namespace Go.Proofs.YtcbmbhghmfehpaaGreat
theorem GoodR.sub {r s : RT} (h : GoodR r) (hs : s ∈ subR r) : GoodR s :=
  ⟨fun q hq => h.inn q (subR_trans r hs hq), fun q hq => h.lf q (subR_trans r hs hq), (leafR_sub hs).nodup h.nd⟩
/-- A leaf is a part. -/
theorem GoodR.single {r : RT} (h : GoodR r) {a : ByteArray} (ha : a ∈ leafR r) : ∃ s ∈ subR r, leafR s = [a] ∧ s = .node a [] := by
  unfold leafR at ha
  obtain ⟨h1, h2⟩ := List.mem_filter.1 ha
  rw [nsR_sub] at h1
  obtain ⟨s, hs, rfl⟩ := List.mem_map.1 h1
  have h2 : s.nm.size ≠ 0 := of_decide_eq_true h2
  have hk : s.kids = [] := by
    by_cases c : s.kids = []
    · exact c
    · exact absurd (h.inn s hs c) h2
  refine ⟨s, hs, ?_⟩
  cases s with
  | node nm ks =>
    have hk : ks = [] := hk
    have h2 : nm.size ≠ 0 := h2
    subst hk
    refine ⟨?_, rfl⟩
    exact leaf_one31 h2
theorem GoodR.meet {r s : RT} (h : GoodR r) (hs : s ∈ subR r) : ∃ x, x ∈ leafR s := by
  obtain ⟨l, hl⟩ := (h.sub hs).head
  exact ⟨firstR s, by rw [hl]; simp⟩
section
variable {r q : RT} {a b : ByteArray}
end
section
variable {t : Tre} {leaf : Nat}
end
end Go.Proofs.YtcbmbhghmfehpaaGreat
namespace Go.Proofs.YtcbmbhghmfehpaaGreat
section
variable {t : Tre} {leaf : Nat}
end
end Go.Proofs.YtcbmbhghmfehpaaGreat
namespace Go.Proofs.YtcbmbhghmfehpaaGreat
section
variable {ps : List Int}
end
end Go.Proofs.YtcbmbhghmfehpaaGreat
namespace Go.Proofs.YtcbmbhghmfehpaaGreat
def paE (s : ByteArray) : Int := match paR s.data.toList with
  | none => 3
  | some r => treeErr (flat r)
def paT (s : ByteArray) : Tre := match paR s.data.toList with
  | none => ⟨[], []⟩
  | some r => if treeErr (flat r) ≠ 0 then ⟨[], []⟩ else flat r
end Go.Proofs.YtcbmbhghmfehpaaGreat
namespace Go.Proofs.YtcbmbhghmfehpaaGreat
end Go.Proofs.YtcbmbhghmfehpaaGreat
namespace Go.Proofs.YtcbmbhghmfehpaaGreat
open Go.RowKit Go.Deep
@[go_sem high] theorem run_max0_4 (w : World) (ts : Array TypeId) (t : TypeId) (k : IntKind) : (Builtin.max_ ts t #[.int k 0, .int k 0, .int k 0, .int k 0]).run Tryz.prog w = .ok (.int k 0) w := by
  simp [Builtin.max_, Builtin.max2]
@[go_sem high] theorem run_max0_5 (w : World) (ts : Array TypeId) (t : TypeId) (k : IntKind) : (Builtin.max_ ts t #[.int k 0, .int k 0, .int k 0, .int k 0, .int k 0]).run Tryz.prog w = .ok (.int k 0) w := by
  simp [Builtin.max_, Builtin.max2]
@[go_sem high] theorem run_max0_6 (w : World) (ts : Array TypeId) (t : TypeId) (k : IntKind) : (Builtin.max_ ts t #[.int k 0, .int k 0, .int k 0, .int k 0, .int k 0, .int k 0]).run Tryz.prog w = .ok (.int k 0) w := by
  simp [Builtin.max_, Builtin.max2]
@[go_sem high] theorem run_max0_7 (w : World) (ts : Array TypeId) (t : TypeId) (k : IntKind) : (Builtin.max_ ts t #[.int k 0, .int k 0, .int k 0, .int k 0, .int k 0, .int k 0, .int k 0]).run Tryz.prog w = .ok (.int k 0) w := by
  simp [Builtin.max_, Builtin.max2]
end Go.Proofs.YtcbmbhghmfehpaaGreat
namespace Go.Proofs
open Go.Shelf
def Tryz.idxA_ren : Go.Shelf.Ren := ⟨fun | 153 => 173 | 152 => 206 | 226 => 207 | 227 => 208 | 228 => 209 | 137 => 238 | 119 => 239 | 224 => 240 | 225 => 241 | 217 => 250 | 266 => 262 | n => n, fun | 9 => 9 | 3 => 3 | 4 => 4 | 5 => 5 | 21 => 21 | 117 => 227 | 116 => 226 | 0 => 0 | 46 => 118 | 124 => 258 | n => n, fun | n => n⟩
theorem Tryz.idxA : Go.Proofs.Lays.n153 Tryz.prog Tryz.idxA_ren := {
  mixed := by kernel_rfl
  f119 := Tryz.func239.trans (congrArg some (by kernel_rfl))
  f137 := Tryz.func238.trans (congrArg some (by kernel_rfl))
  f152 := Tryz.func206.trans (congrArg some (by kernel_rfl))
  f153 := Tryz.func173.trans (congrArg some (by kernel_rfl))
  f217 := Tryz.func250.trans (congrArg some (by kernel_rfl))
  f224 := Tryz.func240.trans (congrArg some (by kernel_rfl))
  f225 := Tryz.func241.trans (congrArg some (by kernel_rfl))
  f226 := Tryz.func207.trans (congrArg some (by kernel_rfl))
  f227 := Tryz.func208.trans (congrArg some (by kernel_rfl))
  f228 := Tryz.func209.trans (congrArg some (by kernel_rfl))
  f266 := Tryz.func262.trans (congrArg some (by kernel_rfl))
  t0 := Tryz.underlying0
  a0 := Tryz.isAgg0
  z0 := Tryz.sizeOf0
  v0 := Tryz.zeroValue0
  t3 := Tryz.underlying3
  a3 := Tryz.isAgg3
  z3 := Tryz.sizeOf3
  v3 := Tryz.zeroValue3
  t4 := Tryz.underlying4
  a4 := Tryz.isAgg4
  z4 := Tryz.sizeOf4
  v4 := Tryz.zeroValue4
  t5 := Tryz.underlying5
  a5 := Tryz.isAgg5
  z5 := Tryz.sizeOf5
  v5 := Tryz.zeroValue5
  t9 := Tryz.underlying9
  a9 := Tryz.isAgg9
  z9 := Tryz.sizeOf9
  v9 := Tryz.zeroValue9
  t21 := Tryz.underlying21
  a21 := Tryz.isAgg21
  z21 := Tryz.sizeOf21
  v21 := Tryz.zeroValue21
  t46 := Tryz.underlying118
  a46 := Tryz.isAgg118
  z46 := Tryz.sizeOf118
  v46 := Tryz.zeroValue118
  t116 := Tryz.underlying226
  a116 := Tryz.isAgg226
  z116 := Tryz.sizeOf226
  t117 := Tryz.underlying227
  a117 := Tryz.isAgg227
  z117 := Tryz.sizeOf227
  v117 := Tryz.zeroValue227
  t124 := Tryz.underlying258
  a124 := Tryz.isAgg258
  z124 := Tryz.sizeOf258
  v124 := Tryz.zeroValue258 }
end Go.Proofs
