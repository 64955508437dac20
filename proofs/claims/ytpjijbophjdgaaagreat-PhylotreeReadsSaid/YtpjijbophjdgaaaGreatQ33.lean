/- The contract of phylotree.Print. The contracts of layer 31's reference's text and Print. -/
import Derived.Test.YtpjijbophjdgaaaGreatQ31
import Derived.Test.YtpjijbophjdgaaaGreatQ32
import Derived.Test.YtpjijbophjdgaaaGreatQ28
import Derived.Test.YtpjijbophjdgaaaGreatQ24
namespace Go.Proofs.YtpjijbophjdgaaaGreat
open Go.RowKit Go.Deep
mutual
theorem txR_len {M : Nat} : ∀ r : RT, (∀ s ∈ nsR r, s.size ≤ M) → (txR r).length + 1 ≤ sizeR r * (M + 3)
  | .node nm [], h => by
    rw [txR, sizeR, sizeRs]
    have h1 := h nm (by rw [nsR]; simp)
    have h2 : nm.data.toList.length = nm.size := by rw [Array.length_toList]; rfl
    omega
  | .node nm (k :: ks), h => by
    have h1 := txR_len k (fun s hs => h s (by rw [nsR, nsRs]; simp [hs]))
    have h2 := txRs_len ks (fun s hs => h s (by rw [nsR, nsRs]; simp [hs]))
    rw [txR, sizeR, sizeRs]
    simp only [List.length_cons, List.length_append, List.length_nil]
    rw [Nat.add_mul, Nat.add_mul]
    omega
theorem txRs_len {M : Nat} : ∀ rs : List RT, (∀ s ∈ nsRs rs, s.size ≤ M) → (txRs rs).length ≤ sizeRs rs * (M + 3)
  | [], _ => by rw [txRs]; exact Nat.zero_le _
  | r :: rs, h => by
    have h1 := txR_len r (fun s hs => h s (by rw [nsRs]; simp [hs]))
    have h2 := txRs_len rs (fun s hs => h s (by rw [nsRs]; simp [hs]))
    rw [txRs, sizeRs]
    simp only [List.length_cons, List.length_append]
    rw [Nat.add_mul]
    omega
end
theorem nsR_toRF {F : Frs} {n : Nat} {rk : Nat → Nat} (h : Wf F n rk) {i : Nat} (hi : i < n) : nsR (toRF F rk i) = (nodesF F rk i).map F.nm := by
  rw [nsR_sub, subR_toRF h hi (Nat.le_refl _), List.map_map]
  refine List.map_congr_left fun z hz => ?_
  exact toRF_nm h (subF_lt h hi (Nat.le_refl _) ((mem_nodesF h hi (Nat.le_refl _)).1 hz))
theorem txT_len {t : Tre} (h : treeErr t = 0) {M : Nat} (hz : ∀ k, (gs t.ns k).size ≤ M) : (txR (toR t)).length + 1 ≤ 64 * (M + 3) := by
  obtain ⟨hp, hp64, _⟩ := treeErr_zero h
  have h1 := txR_len (M := M) (toR t) (fun s hs => by
    unfold toR at hs
    rw [nsR_toRF (frT_arb h).wf hp] at hs
    obtain ⟨z, _, rfl⟩ := List.mem_map.1 hs
    exact hz z)
  have h2 : sizeR (toR t) ≤ t.ps.length := good_size (frT_arb h).wf hp (good_toR h)
  exact Nat.le_trans h1 (Nat.mul_le_mul_right _ (by omega))
def txE (t : Tre) : Int := if treeErr t ≠ 0 then 1 else 0
def txT (t : Tre) : List UInt8 := if treeErr t ≠ 0 then [] else txR (toR t) ++ [59]
def TxPost (w : World) (t : Tre) (e : Ending) (w' : World) : Prop := Up w w' ∧ e = .returned (.tuple #[.string ⟨(txT t).toArray⟩, .int .i64 (txE t)])
set_option maxRecDepth 100000 in
set_option maxHeartbeats 4000000 in
theorem print_t (S : Nat → Prop) (w : World) (v : Value) (t : Tre) (hT : TreeAt S w v t) (hp : t.ps.length ≤ 1000000) (hn : t.ns.length ≤ 1000000) (hz : ∀ k, (gs t.ns k).size ≤ 70000) :
    Calls Tryz.prog 38 #[v] w (TxPost w t) := by
  obtain ⟨P, N, rfl, hP, hN⟩ := hT
  obtain ⟨pp, pc, rfl, _, _⟩ := SlAt.open hP
  obtain ⟨pn, pm, rfl, _, _⟩ := SlAt.open hN
  have hP : IntsAt S w (.slice pp t.ps.length pc) t.ps := hP
  have hN : StrsAt S w (.slice pn t.ns.length pm) t.ns := hN
  have ha := Up.alloc w (.cells #[.slice pp t.ps.length pc, .slice pn t.ns.length pm] 45)
  have HC0 := Lib.hid (box2_0 w (.slice pp t.ps.length pc) (.slice pn t.ns.length pm) 45)
  have HC1 := Lib.hid (box2_1 w (.slice pp t.ps.length pc) (.slice pn t.ns.length pm) 45)
  have hsz : (w.alloc (.cells #[.slice pp t.ps.length pc, .slice pn t.ns.length pm] 45)).heap.size = w.heap.size + 1 := by simp
  have HU := Lib.hid ha
  have HT1 : Hid (TreeAt S _ _ t) := TreeAt.keep ⟨_, _, rfl, hP, hN⟩ (ha.kept S)
  have HSZ := Lib.hid hsz
  have HZ := Lib.hid hz
  have hc0 := HC0.out
  have hc1 := HC1.out
  have HCK := Lib.hid (check_t S _ _ t HT1.out hp hn hz)
  have HXE : Hid (txE t = if treeErr t ≠ 0 then 1 else 0) := rfl
  have HXT : Hid (txT t = if treeErr t ≠ 0 then [] else txR (toR t) ++ [59]) := rfl
  clear ha hP hN hsz hz
  go_enter Tryz.func38, Tryz.ntmps38
  go_wp2_with fail
  generalize w.alloc (.cells #[.slice pp t.ps.length pc, .slice pn t.ns.length pm] 45) = w1 at *
  refine HCK.out.mono ?_
  rintro e w2 ⟨rfl, hu2⟩
  have hu2 : Up w1 w2 := hu2
  have HU2 := Lib.hid hu2
  have HUW := Lib.hid (HU.out.trans hu2)
  have hc0 := hu2.cell HC0.out
  have hc1 := hu2.cell HC1.out
  clear hu2 HCK
  by_cases he : treeErr t = 0
  · obtain ⟨hp0, hp64, hnl, hok, _⟩ := treeErr_zero he
    have HTE := Lib.hid he
    rw [he]
    have HT2 := Lib.hid (TreeAt.keep HT1.out (HU2.out.kept S))
    clear he hnl hok
    go_wp2_with fail
    have hb := blk_alloc_new w2 (.cells #[.pointer none, .slice none 0 0] 130)
    have hu3 := Up.alloc w2 (.cells #[.pointer none, .slice none 0 0] 130)
    have hs3 : (w2.alloc (.cells #[.pointer none, .slice none 0 0] 130)).heap.size = w2.heap.size + 1 := World.size_alloc _ _
    have hfb := blk_alloc_new (w2.alloc (.cells #[.pointer none, .slice none 0 0] 130)) (.cells #[.func (.func 105) #[] #[.pointer (some ⟨w2.heap.size, 0, none⟩), .pointer (some ⟨w2.heap.size + 1, 0, none⟩)]] 131)
    have hu4 := Up.alloc (w2.alloc (.cells #[.pointer none, .slice none 0 0] 130)) (.cells #[.func (.func 105) #[] #[.pointer (some ⟨w2.heap.size, 0, none⟩), .pointer (some ⟨w2.heap.size + 1, 0, none⟩)]] 131)
    have hs4 : ((w2.alloc (.cells #[.pointer none, .slice none 0 0] 130)).alloc (.cells #[.func (.func 105) #[] #[.pointer (some ⟨w2.heap.size, 0, none⟩), .pointer (some ⟨w2.heap.size + 1, 0, none⟩)]] 131)).heap.size = w2.heap.size + 2 := by rw [World.size_alloc, hs3]
    have hb4 := (blk_alloc_lt (w2.alloc (.cells #[.pointer none, .slice none 0 0] 130)) (.cells #[.func (.func 105) #[] #[.pointer (some ⟨w2.heap.size, 0, none⟩), .pointer (some ⟨w2.heap.size + 1, 0, none⟩)]] 131) w2.heap.size (by omega)).trans hb
    rw [hs3] at hfb
    have hc04 := (hu3.trans hu4).cell hc0
    have hc14 := (hu3.trans hu4).cell hc1
    have HU4 := Lib.hid (hu3.trans hu4)
    clear hb hu3 hu4 hs3 hc0 hc1
    generalize (w2.alloc (.cells #[.pointer none, .slice none 0 0] 130)).alloc (.cells #[.func (.func 105) #[] #[.pointer (some ⟨w2.heap.size, 0, none⟩), .pointer (some ⟨w2.heap.size + 1, 0, none⟩)]] 131) = w4 at *
    have HBX : Hid (PrBox w2.heap.size (w2.heap.size + 1) w4) := hfb
    have hfc := HBX.out.cell
    have HB4 := Lib.hid hb4
    have HS4 := Lib.hid hs4
    clear hs4 hb4 hfb
    refine region_T (by kernel_rfl) 6 (fun w' => w'.cell? ⟨w2.heap.size + 1, 0, none⟩ = some (.func (.func 105) #[] #[.pointer (some ⟨w2.heap.size, 0, none⟩), .pointer (some ⟨w2.heap.size + 1, 0, none⟩)]) ∧ w'.cell? ⟨w.heap.size, 0, none⟩ = some (.slice pp t.ps.length pc) ∧ w'.cell? ⟨w.heap.size, 1, none⟩ = some (.slice pn t.ns.length pm)) ⟨hfc, hc04, hc14⟩ (fun hS => ?_)
    simp only [List.size_toArray, List.length_cons, List.length_nil, Nat.reduceAdd, Array.replicate_succ, Array.replicate_zero, List.push_toArray, List.nil_append, List.cons_append]
    refine anyT.take (i := 0) (v := ?gv0k1) rfl (by kernel_rfl) (fun _ _ _ h => h) (by rfl) (fun w hSw => ?gy0k1) hS ?gr0k1
    case gy0k1 =>
      (try dsimp only at hSw)
      go_simp
      try with_reducible rfl
    try simp only [Act.put, List.setIfInBounds_toArray, List.set_cons_zero, List.set_cons_succ]
    refine anyT.take (i := 1) (v := ?gv1k1) rfl (by kernel_rfl) (fun _ _ _ h => h) (by rfl) (fun w hSw => ?gy1k1) hS ?gr1k1
    case gy1k1 =>
      (try dsimp only at hSw)
      go_simp
      try with_reducible rfl
    try simp only [Act.put, List.setIfInBounds_toArray, List.set_cons_zero, List.set_cons_succ]
    refine anyT.step (i := 2) rfl (by kernel_rfl) (fun K' hK => ?_)
    go_simp
    have HUD : Hid (Up w4 w4.drew) := Up.drewN w4 1
    obtain ⟨_, _, hnl, hok, _⟩ := treeErr_zero HTE.out
    have HND := Lib.hid (nodes2_t S w4.drew _ t (TreeAt.keep HT2.out ((HU4.out.trans HUD.out).kept S)) (by omega) hnl hok HZ.out)
    refine HND.out.mono ?_
    rintro e w5 ⟨hu5, g, A, kv, hgl, rfl, hF, hrow⟩
    have hr0 := hrow.cell (i := 0) hp0
    simp only [nptr] at hr0
    have HU5 := Lib.hid (HUD.out.trans hu5)
    have hpos : (0 : Int) < (t.ps.length : Int) := by omega
    refine hK.out _ _ (fun _ => ⟨HU5.out.cell hfc, HU5.out.cell hc04, HU5.out.cell hc14⟩) (fun hS => ?_)
    try simp only [List.setIfInBounds_toArray, List.set_cons_zero, List.set_cons_succ]
    have HF := Lib.hid hF
    have HGL := Lib.hid hgl
    have HX1 : Hid (txE t = 0) := by rw [Hid, HXE.out, if_neg (by simp [HTE.out])]
    have HX2 : Hid (txT t = txR (toR t) ++ [59]) := by rw [Hid, HXT.out, if_neg (by simp [HTE.out])]
    have HLN := Lib.hid (txT_len HTE.out HZ.out)
    have HBL : Hid (Lib.IsBuilderF 130 5 w2.heap.size w2.heap.size (Lib.byteCells []) w5) := .inl ⟨Nat.le_refl _, _, (Below.block HU5.out _ (by rw [HS4.out]; omega)).trans HB4.out, ⟨rfl, .inl ⟨rfl, rfl⟩⟩, fun e => by cases e⟩
    have HBX5 : Hid (PrBox w2.heap.size (w2.heap.size + 1) w5) := (Below.block HU5.out _ (by rw [HS4.out]; omega)).trans HBX.out
    have HSB : Hid (w2.heap.size + 2 ≤ w5.heap.size) := by have := HU5.out.size; rw [HS4.out] at this; exact this
    have HP1 := Lib.hid (print1_t (base := g + 1) (n := t.ps.length) (B := w2.heap.size) (b := w2.heap.size) (fb := w2.heap.size + 1) (frT_arb HTE.out).wf (fun z _ => by have := frT_kids_len t z; omega) (by have := HS4.out; have h2 : w4.heap.size ≤ g := hgl; omega) (by omega) (rkT t 0) 0 [] w5 hp0 (Nat.le_refl _) hF HBX5.out HBL.out (by
      have := HLN.out
      show 0 + (txR (toR t)).length ≤ _
      omega) (by have := HSB.out; omega))
    clear hnl hok hF hgl hrow HND hu5
    refine anyT.step (i := 3) rfl (by kernel_rfl) (fun K' hK => ?_)
    go_simp
    refine hK.out _ _ (fun _ => ⟨HU5.out.cell hfc, HU5.out.cell hc04, HU5.out.cell hc14⟩) (fun hS => ?_)
    try simp only [List.setIfInBounds_toArray, List.set_cons_zero, List.set_cons_succ]
    refine anyT.step (i := 4) rfl (by kernel_rfl) (fun K' hK => ?_)
    go_simp
    refine hK.out _ _ (fun _ => ⟨HU5.out.cell hfc, HU5.out.cell hc04, HU5.out.cell hc14⟩) (fun hS => ?_)
    try simp only [List.setIfInBounds_toArray, List.set_cons_zero, List.set_cons_succ]
    refine anyT.step (i := 5) rfl (by kernel_rfl) (fun K' hK => ?_)
    go_simp
    refine HP1.out.mono ?_
    rintro e w6 ⟨rfl, h6⟩
    refine hK.out _ _ (not_more (by kernel_rfl)) (fun hS => ?_)
    refine anyT.done (by kernel_rfl) ?_
    have HX3 : Hid (toRF (frT t) (rkT t) 0 = toR t) := rfl
    rw [List.nil_append, HX3.out] at h6
    have HB6 := Lib.hid h6
    have HWB := Lib.hid (wbyte_t w2.heap.size w2.heap.size (Lib.byteCells (txR (toR t))) 59 w6 h6.bl (by rw [Lib.byteCells_length]; have := HLN.out; omega) (h6.size (by have := HSB.out; omega)))
    clear h6 HP1 hS hK
    go_wp2_with fail
    refine HWB.out.mono ?_
    rintro e w7 ⟨rfl, h1, h2, h3⟩
    have HB7 := Lib.hid (HB6.out.byte (x := 59) rfl h1 h2 h3)
    have HST := Lib.hid (bstr_t w2.heap.size w2.heap.size (txR (toR t) ++ [59]) w7 HB7.out.bl (HB7.out.size (by have := HSB.out; omega)))
    clear h1 h2 h3
    go_wp2_with fail
    refine HST.out.mono ?_
    rintro e w8 ⟨rfl, _, h2, _⟩
    have HB8 : Hid (Up w2 w8) := Below.trans (HU4.out.trans HU5.out) (HB7.out.up.trans h2)
    clear h2
    go_wp2_with fail
    go_ret2
    exact ⟨HUW.out.trans HB8.out, by rw [HX1.out, HX2.out]; rfl⟩
  · have he1 : (treeErr t != 0) = true := by simpa using he
    have HX1 : Hid (txE t = 1) := by rw [Hid, HXE.out, if_pos he]
    have HX2 : Hid (txT t = []) := by rw [Hid, HXT.out, if_pos he]
    clear he
    generalize treeErr t = te at *
    go_wp2_with fail
    go_ret2
    exact ⟨HUW.out, by rw [HX1.out, HX2.out]; rfl⟩
end Go.Proofs.YtpjijbophjdgaaaGreat
namespace Go.Proofs.YtpjijbophjdgaaaGreat
open Go.RowKit Go.Deep
def bL (l : List UInt8) : ByteArray := ⟨l.toArray⟩
theorem bL_list (l : List UInt8) : (bL l).data.toList = l := rfl
theorem bL_data (s : ByteArray) : bL s.data.toList = s := ba_ext (by rw [bL_list])
theorem bL_app (a b : List UInt8) : bL a ++ bL b = bL (a ++ b) := ba_ext (by rw [ByteArray.data_append, Array.toList_append]; rfl)
def txJ (ks : List RT) (j : Nat) : List UInt8 := if j = 0 then [40] else txK (ks.take j)
theorem txJ_one {ks : List RT} (h : 0 < ks.length) : txJ ks 0 ++ txR (gr ks 0) = txJ ks (0 + 1) := by
  cases ks with
  | nil => simp at h
  | cons k ks =>
    show [40] ++ txR k = txK [k]
    rw [txK, txRs, List.append_nil]; rfl
theorem txJ_next {ks : List RT} {j : Nat} (h : j < ks.length) (h0 : j ≠ 0) : txJ ks j ++ [44] ++ txR (gr ks j) = txJ ks (j + 1) := by
  have hg : gr ks j = ks[j] := by simp [gr, h]
  unfold txJ
  rw [if_neg h0, if_neg (by omega), List.take_succ_eq_append_getElem h, txK_app, hg, List.length_take, if_neg (by omega)]
  simp
theorem txJ_all {ks : List RT} (nm : ByteArray) (h : ks ≠ []) : txJ ks ks.length ++ [41] = txR (.node nm ks) := by
  unfold txJ
  rw [if_neg (fun e => h (List.eq_nil_of_length_eq_zero e)), List.take_length, txR_node nm h]
theorem bL_size (l : List UInt8) : (bL l).size = l.length := by rw [← size_data, bL_list]
theorem txJ_len {ks : List RT} (nm : ByteArray) (h : ks ≠ []) (j : Nat) : (txJ ks j).length + 1 ≤ (txR (.node nm ks)).length := by
  rw [txR_node nm h, List.length_append, List.length_singleton]
  unfold txJ
  split
  · cases ks with
    | nil => exact absurd rfl h
    | cons k ks => rw [txK]; simp
  · have := txK_len_take ks j; omega
theorem txJ_kid {ks : List RT} (nm : ByteArray) {j : Nat} (h : j < ks.length) : (txR (gr ks j)).length + 1 ≤ (txR (.node nm ks)).length := by
  have h0 : ks ≠ [] := fun e => by rw [e] at h; simp at h
  have h1 := txJ_len nm h0 (j + 1)
  by_cases e : j = 0
  · subst e
    rw [← txJ_one h, List.length_append] at h1; omega
  · rw [← txJ_next h e, List.length_append] at h1; omega
set_option maxRecDepth 100000 in
set_option maxHeartbeats 2000000 in
theorem text31R_t (S : Nat → Prop) : ∀ (d : Nat) (r : RT), sizeR r ≤ d → d ≤ 1000000 → (txR r).length ≤ 5000000 → ∀ (w : World) (v : Value), RAt S w r v → Calls Tryz.prog 109 #[v] w fun e w' => e = .returned (.string (bL (txR r))) ∧ w = w' := by
  intro d
  induction d with
  | zero => intro r hr; have := sizeR_pos r; omega
  | succ d ih =>
  intro r hr hd htl w v hv
  cases r with
  | node nm ks =>
    obtain ⟨b, kp, kc, vs, rfl, hS, c0, c1, hk, hs⟩ := hv.open
    simp only [RT.nm, RT.kids] at c0 c1 hk hs
    have hkl := len_sizeRs ks
    rw [sizeR] at hr
    have HIH : Hid (∀ j, j < ks.length → Calls Tryz.prog 109 #[vN vs j] w fun e w' => e = .returned (.string (bL (txR (gr ks j)))) ∧ w = w') := fun j hj => by
      have := gr_size hj
      have h2 := txJ_kid nm hj
      exact ih _ (by omega) (by omega) (by omega) w _ (RsAt.get ks hs j hj)
    have HK := Lib.hid hk
    clear ih hv hS hs hk
    by_cases h0 : ks = []
    · subst h0
      have htx : bL (txR (.node nm [])) = nm := by rw [txR_leaf, bL_data]
      rw [htx]
      clear hr htx
      go_enter Tryz.func109, Tryz.ntmps109
      go_wp2_with fail
      go_ret
      exact ⟨rfl, rfl⟩
    · have hpos : 0 < ks.length := List.length_pos_iff.2 h0
      have d0 : ((ks.length : Int) == 0) = false := beq_eq_false_iff_ne.2 (by omega)
      have HBD : Hid (ks.length ≤ 1000000) := by unfold Hid; omega
      have HALL := Lib.hid (txJ_all nm h0)
      have HONE := Lib.hid (txJ_one hpos)
      have HTL : Hid (∀ j, (bL (txJ ks j)).size + 1 ≤ 5000000) := fun j => by have := txJ_len nm h0 j; rw [bL_size]; omega
      have HKL : Hid (∀ j, j < ks.length → (bL (txR (gr ks j))).size + 1 ≤ 5000000) := fun j hj => by have := txJ_kid nm hj; rw [bL_size]; omega
      have HNX : Hid (∀ j, j < ks.length → j ≠ 0 → txJ ks j ++ [44] ++ txR (gr ks j) = txJ ks (j + 1)) := fun j h1 h2 => txJ_next h1 h2
      clear hr h0 hkl htl
      go_enter Tryz.func109, Tryz.ntmps109
      go_wp2_with fail
      go_loop [3, 4] (fun s i => ∃ j : Nat, j ≤ ks.length ∧ i = .int .i64 j ∧ s = .string (bL (txJ ks j))) (fun _ i => ks.length - (intOf i).toNat)
      case atStart => exact ⟨0, Nat.zero_le _, rfl, rfl⟩
      case round =>
        obtain ⟨j, hj, rfl, rfl⟩ := hrel
        by_cases hlt : j < ks.length
        · obtain ⟨kb, ko, rfl, hcj⟩ := vN_get HK.out hlt
          have HJ := Lib.hid (HIH.out j hlt)
          have i1 : (0 : Int) ≤ (j : Int) := by omega
          have i2 : (j : Int) < (ks.length : Int) := by omega
          have HLT := Lib.hid hlt
          have z1 := HTL.out j
          have z2 := HKL.out j hlt
          have i3 : (j : Int) < 1000000 := by have := HBD.out; omega
          clear hlt hj
          by_cases e0 : j = 0
          · subst e0
            rw [Nat.add_zero] at hcj
            go_wp2_with fail
            refine HJ.out.mono ?_
            rintro e w' ⟨rfl, rfl⟩
            go_wp2_with fail
            go_round
            case rel => exact ⟨1, HLT.out, rfl, by rw [bL_app, HONE.out]⟩
            case measure => have := HLT.out; simp [intOf]; omega
          · have d1 : decide ((0 : Int) < (j : Int)) = true := decide_eq_true (by omega)
            have HE0 := Lib.hid e0
            have e0n : 0 < j := by omega
            clear e0
            go_wp2_with fail
            refine HJ.out.mono ?_
            rintro e w' ⟨rfl, rfl⟩
            go_wp2_with fail
            go_round
            case rel => exact ⟨j + 1, HLT.out, by go_num, by rw [← HNX.out j HLT.out HE0.out, ← bL_app, ← bL_app]; rfl⟩
            case measure => have := HLT.out; simp [intOf]; omega
        · obtain rfl : j = ks.length := by omega
          have z1 := HTL.out ks.length
          clear hlt hj
          go_wp2_with fail
          go_ret
          exact ⟨by rw [← HALL.out, ← bL_app]; rfl, rfl⟩
set_option maxRecDepth 100000 in
set_option maxHeartbeats 2000000 in
theorem printR31_t (S : Nat → Prop) (w : World) (v : Value) (t : Tre) (hT : TreeAt S w v t) (hp : t.ps.length ≤ 1000000) (hn : t.ns.length ≤ 1000000) (hz : ∀ k, (gs t.ns k).size ≤ 70000) : Calls Tryz.prog 39 #[v] w (TxPost w t) := by
  obtain ⟨P, N, rfl, hP, hN⟩ := hT
  have hu := Up.alloc w (.cells #[P, N] 45)
  have hT1 : TreeAt S (w.alloc (.cells #[P, N] 45)) (.agg #[P, N]) t := TreeAt.keep ⟨P, N, rfl, hP, hN⟩ (hu.kept _)
  have HCK := Lib.hid (checkR_t S _ _ t hT1 hp hn hz)
  have HT := Lib.hid hT1
  have HU := Lib.hid hu
  have HC0 := Lib.hid (box2_0 w P N 45)
  have HC1 := Lib.hid (box2_1 w P N 45)
  have hc0 := HC0.out
  have hc1 := HC1.out
  clear hu hT1 hP hN
  go_enter Tryz.func39, Tryz.ntmps39
  go_wp2_with fail
  generalize w.alloc (.cells #[P, N] 45) = w1 at *
  refine HCK.out.mono ?_
  rintro e w2 ⟨rfl, hb2⟩
  have hu2 : Up w1 w2 := hb2
  have hc0 := hu2.cell HC0.out
  have hc1 := hu2.cell HC1.out
  have HT2 := Lib.hid (HT.out.keep (hu2.kept S))
  have HU2 := Lib.hid (HU.out.trans hu2)
  clear hb2 hu2 HCK HT HU HC0 HC1
  by_cases he : treeErr t = 0
  · have HE := Lib.hid he
    rw [he]
    have HGR := Lib.hid (growR_t S t he (rkT t 0) 0 (Nat.le_refl _) (treeErr_zero he).1 w2 _ HT2.out)
    have HSI := Lib.hid (sizeR_toR he)
    have htl := txT_len he hz
    have HLN : Hid ((txR (toR t)).length ≤ 5000000) := by unfold Hid; omega
    have hz1 : (bL (txR (toR t))).size ≤ 5000000 := by rw [bL_size]; omega
    clear htl
    have HX : Hid (bL (txR (toR t)) ++ bL [59] = bL (txT t)) := by unfold Hid txT; rw [bL_app, if_neg (by simp [he])]
    have HXE : Hid (txE t = 0) := by unfold Hid txE; rw [if_neg (by simp [he])]
    clear he
    go_wp2_with fail
    refine HGR.out.mono ?_
    rintro e w3 ⟨hu3, v3, rfl, hr3⟩
    have HU3 := Lib.hid (HU2.out.trans hu3)
    have HTX := Lib.hid (text31R_t _ 64 (toR t) HSI.out (by omega) HLN.out w3 _ hr3)
    clear hu3 hr3 HGR
    go_wp2_with fail
    refine HTX.out.mono ?_
    rintro e w4 ⟨rfl, rfl⟩
    go_wp2_with fail
    refine ⟨rfl, .tuple #[.string (bL (txT t)), .int .i64 0], ?_, HU3.out, by rw [HXE.out]; rfl⟩
    rw [← HX.out]
    simp [results, Tryz.results39, go_sem]
    rfl
  · have he1 : (treeErr t != 0) = true := by simpa using he
    have HX : Hid (txT t = []) := by unfold Hid txT; rw [if_pos he]
    have HXE : Hid (txE t = 1) := by unfold Hid txE; rw [if_pos he]
    clear he
    generalize treeErr t = te at he1 ⊢
    go_wp2_with fail
    exact ⟨rfl, .tuple #[.string ⟨#[]⟩, .int .i64 1], by simp [results, Tryz.results39, go_sem], HU2.out, by rw [HXE.out, HX.out]⟩
end Go.Proofs.YtpjijbophjdgaaaGreat
