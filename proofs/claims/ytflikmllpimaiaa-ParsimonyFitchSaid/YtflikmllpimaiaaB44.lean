/- The contract of the reference's table. -/
import Derived.Test.YtflikmllpimaiaaB42
import Derived.Test.YtflikmllpimaiaaB43
import Derived.Test.YtflikmllpimaiaaB27
import Derived.Test.YtflikmllpimaiaaP1
namespace Go.Proofs.Ytflikmllpimaiaa
open Go.RowKit Go.Deep
/-- A table of n rows of m numbers in blocks of the call's own: the list of rows is block ob, row i is block ob + 1 + i; the first k rows are made. -/
structure MatW (w0 w : World) (ob n m k : Nat) (F : Nat → Nat → Int) : Prop where
  below : Below ob w0 w
  top : w.rowIs ob 22 n (fun i => if i < k then .slice (some ⟨ob + 1 + i, 0, none⟩) m m else .slice none 0 0)
  rows : ∀ i, i < k → w.rowIs (ob + 1 + i) 3 m (fun s => .int .i64 (F i s))
theorem MatW.congr {w0 w : World} {ob n m k : Nat} {F G : Nat → Nat → Int} (h : MatW w0 w ob n m k F) (e : ∀ i s, i < k → s < m → F i s = G i s) : MatW w0 w ob n m k G :=
  ⟨h.below, h.top, fun i hi => (h.rows i hi).congr fun s hs => by rw [e i s hi hs]⟩
theorem MatW.keep {w0 w w' : World} {ob n m k : Nat} {F : Nat → Nat → Int} (h : MatW w0 w ob n m k F) (hb : Below ob w0 w') (hk : ∀ b, ob ≤ b → b < ob + 1 + k → w'.heap[b]? = w.heap[b]?) : MatW w0 w' ob n m k F :=
  ⟨hb, h.top.of_block (hk ob (Nat.le_refl _) (by omega)), fun i hi => (h.rows i hi).of_block (hk _ (by omega) (by omega))⟩
theorem MatW.up {w0 w w' : World} {ob n m k : Nat} {F : Nat → Nat → Int} (h : MatW w0 w ob n m k F) (hu : Up w w') : MatW w0 w' ob n m k F := by
  have h1 : ob < w.heap.size := h.top.lt
  refine h.keep (h.below.trans (Below.mono hu (Nat.le_of_lt h1))) fun b hb hb2 => ?_
  refine Below.block hu b ?_
  by_cases e : b = ob
  · omega
  · have := (h.rows (b - ob - 1) (by omega)).lt; omega
theorem MatW.drewN {w0 w : World} {ob n m k : Nat} {F : Nat → Nat → Int} (h : MatW w0 w ob n m k F) (j : Nat) : MatW w0 (w.drewN j) ob n m k F := h.up (Up.drewN w j)
theorem MatW.set {w0 w : World} {ob n m k : Nat} {F : Nat → Nat → Int} (h : MatW w0 w ob n m k F) {i : Nat} (hi : i < k) (s : Nat) (x : Int) : MatW w0 (w.setCell ⟨ob + 1 + i, s, none⟩ (.int .i64 x)) ob n m k (fun r c => if r = i ∧ c = s then x else F r c) := by
  refine ⟨h.below.setCell (p := ⟨ob + 1 + i, s, none⟩) (by simp only; omega) _, h.top.setOther (a := ⟨ob + 1 + i, s, none⟩) (by simp only; omega) _, fun r hr => ?_⟩
  by_cases e : r = i
  · subst e
    exact ((h.rows r hr).set s _).congr fun c _ => by by_cases e2 : c = s <;> simp [e2]
  · exact ((h.rows r hr).setOther (a := ⟨ob + 1 + i, s, none⟩) (by simp only; omega) _).congr fun c _ => by simp [e]
theorem MatW.add {w0 w : World} {ob n m k : Nat} {F : Nat → Nat → Int} (h : MatW w0 w ob n m k F) (hs : w.heap.size = ob + 1 + k) (hF : ∀ s, F k s = 0) :
    MatW w0 ((w.alloc (.cells (madeCells #[.int .i64 0] m) 3)).setCell ⟨ob, k, none⟩ (.slice (some ⟨ob + 1 + k, 0, none⟩) m m)) ob n m (k + 1) F := by
  refine ⟨(h.below.alloc (by omega) _).setCell (p := ⟨ob, k, none⟩) (Nat.le_refl _) _, ((h.top.alloc _).set k _).congr fun i _ => ?_, fun i hi => ?_⟩
  · by_cases e : i = k
    · subst e; simp
    · by_cases e2 : i < k
      · simp [e, e2, Nat.lt_succ_of_lt e2]
      · have e3 : ¬ i < k + 1 := by omega
        simp [e, e2, e3]
  · by_cases e : i = k
    · subst e
      have h1 := World.rowIs_made w (.int .i64 0) m 3
      rw [hs] at h1
      exact (h1.setOther (a := ⟨ob, i, none⟩) (by simp only; omega) _).congr fun s _ => by rw [hF]
    · exact ((h.rows i (by omega)).alloc _).setOther (a := ⟨ob, k, none⟩) (by simp only; omega) _
theorem lq_quiet {P : Program} {f : FuncId} {args : Array Value} {w : World} {n : Nat} {x : Int} (h : Calls P f args (w.drewN n) (LqPost (w.drewN n) x)) : Calls P f args (w.drewN n) fun e w'' => e = .returned (.int .i64 x) ∧ ∃ m, w'' = w.drewN m :=
  h.mono fun _ _ ⟨he, m, hm⟩ => ⟨he, n + m, by rw [hm, World.drewN_drewN]⟩
set_option maxRecDepth 100000 in
set_option maxHeartbeats 4000000 in
theorem tableR_t (S : Nat → Prop) (w : World) (v vs vc : Value) (t : Tre) (st : List Int) (cs : List (List Int)) (hT : TreeAt S w v t) (hS : IntsAt S w vs st) (hC : RowsAt S w vc cs)
    (hz : ∀ k, (gs t.ns k).size ≤ 70000) (hv : Valid t st cs) : Calls Try.prog 59 #[v, vs, vc] w (TbPost w (tabL t st cs)) := by
  obtain ⟨hn1, hn2, hn3, hok, _⟩ := treeErr_zero hv.tree
  obtain ⟨hm1, hm2, hm3, hm4, _⟩ := matErr_zero hv.mat
  obtain ⟨P, N, rfl, hP, hN⟩ := hT
  obtain ⟨pp, pcap, rfl, hpcap, _⟩ := SlAt.open hP
  have hP0 : IntsAt S w (.slice pp t.ps.length pcap) t.ps := hP
  obtain ⟨qS, capS, rfl, hcapS, _⟩ := SlAt.open hS
  have hS : IntsAt S w (.slice qS st.length capS) st := hS
  obtain ⟨qC, capC, rfl, hcapC, _⟩ := rows_open hC
  have hu := Up.alloc w (.cells #[.slice pp t.ps.length pcap, N] 25)
  have HT := Lib.hid (show TreeAt S (w.alloc (.cells #[.slice pp t.ps.length pcap, N] 25)) (.agg #[.slice pp t.ps.length pcap, N]) t from TreeAt.keep ⟨_, N, rfl, hP0, hN⟩ (hu.kept _))
  have HP := Lib.hid ((hP0.sub (T := (· < w.heap.size + 1)) fun b _ hb => Nat.lt_succ_of_lt hb).keep (hu.kept _))
  have HS := Lib.hid ((hS.sub (T := (· < w.heap.size + 1)) fun b _ hb => Nat.lt_succ_of_lt hb).keep (hu.kept _))
  have HC := Lib.hid ((hC.sub (T := (· < w.heap.size + 1)) fun b _ hb => Nat.lt_succ_of_lt hb).keep (hu.kept _))
  have HU := Lib.hid hu
  have HB0 := Lib.hid (box2_0 w (.slice pp t.ps.length pcap) N 25)
  have HB1 := Lib.hid (box2_1 w (.slice pp t.ps.length pcap) N 25)
  have hmk := fun W => run_make_row' (P := Try.prog) 26 22 (.slice none 0 0) 24 Try.underlying26 Try.infoSI rfl .i64 .i64 t.ps.length (by omega) (by omega) W
  have hmk2 := fun W => run_make_row' (P := Try.prog) 22 3 (.int .i64 0) 8 Try.underlying22 Try.infoI rfl .i64 .i64 cs.length (by omega) (by omega) W
  have hz1 : (w.alloc (.cells #[.slice pp t.ps.length pcap, N] 25)).heap.size = w.heap.size + 1 := by simp
  have hM0 : MatW (w.alloc (.cells #[.slice pp t.ps.length pcap, N] 25)) ((w.alloc (.cells #[.slice pp t.ps.length pcap, N] 25)).alloc (.cells (madeCells #[.slice none 0 0] t.ps.length) 22)) (w.heap.size + 1) t.ps.length cs.length 0 (fun _ _ => 0) := by
    refine ⟨(Below.refl _ _).alloc (by simp) _, ?_, fun i hi => absurd hi (Nat.not_lt_zero _)⟩
    have h1 := World.rowIs_made (w.alloc (.cells #[.slice pp t.ps.length pcap, N] 25)) (.slice none 0 0) t.ps.length 22
    rw [hz1] at h1
    exact h1.congr fun i _ => by simp
  have hz2 : ((w.alloc (.cells #[.slice pp t.ps.length pcap, N] 25)).alloc (.cells (madeCells #[.slice none 0 0] t.ps.length) 22)).heap.size = w.heap.size + 1 + 1 := by simp
  have HM0 := Lib.hid hM0
  have HZ1 := Lib.hid hz1
  have HZ2 := Lib.hid hz2
  have HV := Lib.hid hv
  have HZZ := Lib.hid hz
  have HN3 := Lib.hid hn3
  have HOK := Lib.hid hok
  have HM3 := Lib.hid hm3
  have HM4 := Lib.hid hm4
  have hcB : ((w.alloc (.cells #[.slice pp t.ps.length pcap, N] 25)).alloc (.cells (madeCells #[.slice none 0 0] t.ps.length) 22)).cell? ⟨w.heap.size, 0, none⟩ = some (.slice pp t.ps.length pcap) := (Up.alloc _ _).cell HB0.out
  have HCB := Lib.hid hcB
  clear hu hP hP0 hN hS hC hz hv hn3 hok hm3 hm4 hM0 hz1 hz2 hcB
  go_enter Try.func59, Try.ntmps59
  go_wp2_with fail
  clear hmk
  generalize (w.alloc (.cells #[.slice pp t.ps.length pcap, N] 25)).alloc (.cells (madeCells #[.slice none 0 0] t.ps.length) 22) = w2 at *
  generalize w.alloc (.cells #[.slice pp t.ps.length pcap, N] 25) = w1 at *
  go_loopw [9] (fun i wr => ∃ k : Nat, k ≤ t.ps.length ∧ i = .int .i64 k ∧ Hid (MatW w1 wr (w.heap.size + 1) t.ps.length cs.length k (fun _ _ => 0)) ∧ Hid (wr.heap.size = w.heap.size + 1 + 1 + k)) (fun i _ => t.ps.length - (intOf i).toNat)
  case atStart => exact ⟨0, Nat.zero_le _, rfl, HM0, HZ2⟩
  case round =>
    obtain ⟨k, hk, rfl, hM, hZ⟩ := hrel
    obtain ⟨wo, rfl⟩ : ∃ wo : World, wo = wr := ⟨_, rfl⟩
    by_cases hlt : k < t.ps.length
    · have hc1 := (hM.out.top.alloc (.cells (madeCells #[.int .i64 0] cs.length) 3)).cell hlt
      have hf1 := (hM.out.top.alloc (.cells (madeCells #[.int .i64 0] cs.length) 3)).frozen k
      obtain ⟨y, hc1⟩ : ∃ y, (wo.alloc (.cells (madeCells #[.int .i64 0] cs.length) 3)).cell? ⟨w.heap.size + 1, k, none⟩ = some y := ⟨_, hc1⟩
      have HN : Hid (MatW w1 ((wo.alloc (.cells (madeCells #[.int .i64 0] cs.length) 3)).setCell ⟨w.heap.size + 1, k, none⟩ (.slice (some ⟨w.heap.size + 1 + 1 + k, 0, none⟩) cs.length cs.length)) (w.heap.size + 1) t.ps.length cs.length (k + 1) (fun _ _ => 0)) := hM.out.add hZ.out fun _ => rfl
      have HZn : Hid (((wo.alloc (.cells (madeCells #[.int .i64 0] cs.length) 3)).setCell ⟨w.heap.size + 1, k, none⟩ (.slice (some ⟨w.heap.size + 1 + 1 + k, 0, none⟩) cs.length cs.length)).heap.size = w.heap.size + 1 + 1 + (k + 1)) := by
        unfold Hid; rw [World.size_setCell, World.size_alloc, hZ.out]; omega
      have HZo : Hid (wo.heap.size = w.heap.size + 1 + 1 + k) := hZ
      have hzr : wo.heap.size = w.heap.size + 1 + 1 + k := hZ.out
      rw [← hzr] at HN HZn
      clear hzr
      go_wp2_with fail
      go_roundw
      case rel => exact ⟨k + 1, by omega, by go_num, HN, HZn⟩
      case measure => simp [intOf]; omega
    · obtain rfl : k = t.ps.length := by omega
      clear hlt hk hmk2
      have hkb : Kept (· < w.heap.size + 1) w1 wo := fun b hb _ => hM.out.below.block b hb
      have hc0 : wo.cell? ⟨w.heap.size, 0, none⟩ = some (.slice pp t.ps.length pcap) := kept_cell hkb (Nat.lt_succ_self _) HB0.out
      have hc1 : wo.cell? ⟨w.heap.size, 1, none⟩ = some N := kept_cell hkb (Nat.lt_succ_self _) HB1.out
      have hT3 : TreeAt S wo (.agg #[.slice pp t.ps.length pcap, N]) t := by
        refine HT.out.keep fun b _ hl => hM.out.below.block b ?_
        have := HZ1.out; omega
      have HLV := Lib.hid (leavesR_t S wo _ t hT3 (by omega) (by rw [HN3.out]; omega) HZZ.out)
      clear hkb hT3
      go_wp2_with fail
      refine HLV.out.mono ?_
      rintro e w4 ⟨hb, ⟨h1, _⟩ | ⟨_, lv, rfl, hlv⟩⟩
      · exact absurd HV.out.tree h1
      obtain ⟨lp, lc, rfl, _, _⟩ := SlAt.open hlv
      have hu4 : Up wo w4 := hb
      have hlv : IntsAt (fun b => wo.heap.size ≤ b) w4 (.slice lp (leavesL t.ns).length lc) (leavesL t.ns) := hlv
      have HL4 : Hid (IntsAt (fun b => w.heap.size + 1 + 1 + t.ps.length ≤ b) w4 (.slice lp (leavesL t.ns).length lc) (leavesL t.ns)) := by unfold Hid; rw [← hZ.out]; exact hlv
      have HD0 := Lib.hid (hu4.cell hc0)
      have HM4 := Lib.hid ((hM.out.up hu4).congr (G := leafJ t st 0) fun i s _ _ => (leafJ_zero t st i s).symm)
      have hll : (leavesL t.ns).length ≤ 64 := by have := leavesL_len t.ns; have := HN3.out; omega
      clear hb hu4 hlv hc0 hc1 HLV hM HT
      go_wp2_with fail
      go_loopw [12, 13] (fun i _ wr => ∃ j : Nat, j ≤ (leavesL t.ns).length ∧ i = .int .i64 j ∧ Hid (MatW w1 wr (w.heap.size + 1) t.ps.length cs.length t.ps.length (leafJ t st j)) ∧ Hid (Kept (fun b => w.heap.size + 1 + 1 + t.ps.length ≤ b) w4 wr)) (fun i _ _ => (leavesL t.ns).length - (intOf i).toNat)
      case atStart => exact ⟨0, Nat.zero_le _, rfl, HM4, Kept.refl _ _⟩
      case round =>
        obtain ⟨j, hj, rfl, hM, hK⟩ := hrel
        obtain ⟨wp, rfl⟩ : ∃ wo : World, wo = wr := ⟨_, rfl⟩
        by_cases hlt : j < (leavesL t.ns).length
        · go_wp2_with fail
          go_loopw [13] (fun i wr => ∃ s : Nat, s ≤ cs.length ∧ i = .int .i64 s ∧ Hid (MatW w1 wr (w.heap.size + 1) t.ps.length cs.length t.ps.length (leafJS t st j s)) ∧ Hid (Kept (fun b => w.heap.size + 1 + 1 + t.ps.length ≤ b) w4 wr)) (fun i _ => cs.length - (intOf i).toNat)
          case atStart => exact ⟨0, Nat.zero_le _, rfl, hM.out.congr fun i s _ _ => (leafJS_zero t st j i s).symm, hK⟩
          case round =>
            obtain ⟨s, hs, rfl, hM2, hK2⟩ := hrel
            obtain ⟨wq, rfl⟩ : ∃ wo : World, wo = wr := ⟨_, rfl⟩
            by_cases hst : s < cs.length
            · obtain ⟨q, hq, hqn, _⟩ := leaf_nat hlt
              have hix := leafIx_of hlt hq
              have hown := ownS_of (st := st) hlt hq
              have hqp : q < t.ps.length := by rw [← HN3.out]; exact hqn
              have hks : j < st.length := by rw [HV.out.len]; exact hlt
              have hkb : Kept (· < w.heap.size + 1) w1 wq := fun b hb _ => hM2.out.below.block b hb
              obtain ⟨sb, so, rfl, hcs⟩ := ints_get (IntsAt.keep HS.out hkb) hks
              have hbase : baseT t st q s = if 0 ≤ gi st j ∧ gi st j ≠ s then -1 else 0 := by unfold baseT; rw [hown]
              have HBASE := Lib.hid hbase
              have hnext : ∀ i s', leafJS t st j (s + 1) i s' = if i = q ∧ s' = s then baseT t st q s else leafJS t st j s i s' := fun i s' => by
                unfold leafJS
                by_cases e : leafIx t.ns i = j
                · have hiq : i = q := by
                    have h1 := leafIx_lt (ns := t.ns) (i := i) (by omega)
                    rw [e, Int.toNat_natCast, hq] at h1; omega
                  subst hiq
                  rw [if_pos e, if_pos e]
                  by_cases e2 : s' = s
                  · subst e2; simp
                  · by_cases e3 : s' < s
                    · simp [e2, e3, Nat.lt_succ_of_lt e3]
                    · have e4 : ¬ s' < s + 1 := by omega
                      simp [e2, e3, e4]
                · have hiq : i ≠ q := fun h => e (by rw [h]; exact hix)
                  rw [if_neg e, if_neg e, if_neg (fun h => hiq h.1)]
              have HNEXT := Lib.hid hnext
              have hcell0 : leafJS t st j s q s = 0 := by unfold leafJS; rw [if_pos hix, if_neg (Nat.lt_irrefl _)]
              have hct := hM2.out.top.cell hqp
              rw [if_pos hqp] at hct
              have hcr := (hM2.out.rows q hqp).cell hst
              have hfr := (hM2.out.rows q hqp).frozen s
              rw [hcell0] at hcr
              have hlv2 := IntsAt.keep HL4.out hK2.out
              obtain ⟨lb, lo, rfl, hcl⟩ := ints_get hlv2 hlt
              rw [hq] at hcl
              clear hix hown hbase hnext hcell0 hlv2 hq hkb
              generalize gi st j = x at *
              by_cases h0 : 0 ≤ x
              · by_cases hxs : x = s
                · have hxs1 : (x != (s : Int)) = false := by simp [hxs]
                  have HMN : Hid (MatW w1 wq (w.heap.size + 1) t.ps.length cs.length t.ps.length (leafJS t st j (s + 1))) := hM2.out.congr fun i s' _ _ => by
                    rw [HNEXT.out]
                    by_cases e : i = q ∧ s' = s
                    · rw [if_pos e, e.1, e.2, HBASE.out, if_neg (fun h => h.2 hxs)]
                      have := hcr; have h2 := (hM2.out.rows q hqp).cell hst; rw [h2] at this; simpa using this
                    · rw [if_neg e]
                  clear hxs
                  go_wp2_with fail
                  go_roundw
                  case rel => exact ⟨s + 1, by omega, by go_num, HMN, hK2⟩
                  case measure => simp [intOf]; omega
                · have hxs1 : (x != (s : Int)) = true := by simpa using hxs
                  have HMN : Hid (MatW w1 (wq.setCell ⟨w.heap.size + 1 + 1 + q, s, none⟩ (.int .i64 (-1))) (w.heap.size + 1) t.ps.length cs.length t.ps.length (leafJS t st j (s + 1))) := (hM2.out.set hqp s (-1)).congr fun i s' _ _ => by
                    rw [HNEXT.out]
                    by_cases e : i = q ∧ s' = s
                    · rw [if_pos e, if_pos e, HBASE.out, if_pos ⟨h0, hxs⟩]
                    · rw [if_neg e, if_neg e]
                  have HKN : Hid (Kept (fun b => w.heap.size + 1 + 1 + t.ps.length ≤ b) w4 (wq.setCell ⟨w.heap.size + 1 + 1 + q, s, none⟩ (.int .i64 (-1)))) := fun b hb hl => (Below.heap_setCell wq _ _ b (by simp only; omega)).trans (hK2.out b hb hl)
                  clear hxs
                  go_wp2_with fail
                  go_roundw
                  case rel => exact ⟨s + 1, by omega, by go_num, HMN, HKN⟩
                  case measure => simp [intOf]; omega
              · have h01 : decide (0 ≤ x) = false := by simpa using h0
                have HMN : Hid (MatW w1 wq (w.heap.size + 1) t.ps.length cs.length t.ps.length (leafJS t st j (s + 1))) := hM2.out.congr fun i s' _ _ => by
                  rw [HNEXT.out]
                  by_cases e : i = q ∧ s' = s
                  · rw [if_pos e, e.1, e.2, HBASE.out, if_neg (fun h => h0 h.1)]
                    have := hcr; have h2 := (hM2.out.rows q hqp).cell hst; rw [h2] at this; simpa using this
                  · rw [if_neg e]
                go_wp2_with fail
                go_roundw
                case rel => exact ⟨s + 1, by omega, by go_num, HMN, hK2⟩
                case measure => simp [intOf]; omega
            · obtain rfl : s = cs.length := by omega
              have HMN : Hid (MatW w1 wq (w.heap.size + 1) t.ps.length cs.length t.ps.length (leafJ t st (j + 1))) := hM2.out.congr fun i s' _ hs' => leafJS_end hs'
              clear hst hs
              go_wp2_with fail
              go_roundw
              case rel => exact ⟨j + 1, by omega, by go_num, HMN, hK2⟩
              case measure => simp [intOf]; omega
        · obtain rfl : j = (leavesL t.ns).length := by omega
          have HM5 : Hid (MatW w1 wp (w.heap.size + 1) t.ps.length cs.length t.ps.length (part t st cs t.ps.length)) := hM.out.congr fun i s _ _ => by rw [leafJ_all, part_end _ _ _ (Nat.le_refl _)]
          clear hlt hj hM hK HL4 HM4
          have hn0 : ((t.ps.length : Int) - 1) = ((t.ps.length - 1 : Nat) : Int) := by omega
          have HN0 := Lib.hid hn0
          clear hn0
          go_wp2_with fail
          go_loopw [14, 15] (fun i _ wr => ∃ j : Nat, j < t.ps.length ∧ i = .int .i64 j ∧ Hid (MatW w1 wr (w.heap.size + 1) t.ps.length cs.length t.ps.length (part t st cs (j + 1)))) (fun i _ _ => (intOf i).toNat)
          case atStart =>
            refine ⟨t.ps.length - 1, by omega, by rw [HN0.out], ?_⟩
            have e : t.ps.length - 1 + 1 = t.ps.length := by omega
            rw [e]; exact HM5
          case round =>
            obtain ⟨j, hj, rfl, hM⟩ := hrel
            obtain ⟨wp, rfl⟩ : ∃ wo : World, wo = wr := ⟨_, rfl⟩
            by_cases hj0 : 0 < j
            · have hpar := par_ok HOK.out hj
              obtain ⟨p, hp⟩ : ∃ p : Nat, gi t.ps j = p := Int.eq_ofNat_of_zero_le (hpar.2.1 hj0)
              have hpj : p < j := by have := hpar.1; omega
              have HP2 := Lib.hid hp
              clear hpar hp
              go_wp2_with fail
              go_loopw [15] (fun i wr => ∃ s : Nat, s ≤ cs.length ∧ i = .int .i64 s ∧ Hid (MatW w1 wr (w.heap.size + 1) t.ps.length cs.length t.ps.length (partS t st cs j s))) (fun i _ => cs.length - (intOf i).toNat)
              case atStart => exact ⟨0, Nat.zero_le _, rfl, hM.out.congr fun r c _ _ => (partS_zero j r c).symm⟩
              case round =>
                obtain ⟨s, hs, rfl, hM2⟩ := hrel
                obtain ⟨wq, rfl⟩ : ∃ wo : World, wo = wr := ⟨_, rfl⟩
                by_cases hst : s < cs.length
                · have hkb : Kept (· < w.heap.size + 1) w1 wq := fun b hb _ => hM2.out.below.block b hb
                  have hcB : wq.cell? ⟨w.heap.size, 0, none⟩ = some (.slice pp t.ps.length pcap) := kept_cell hkb (Nat.lt_succ_self _) HB0.out
                  obtain ⟨pb, po, rfl, hcp⟩ := ints_get (IntsAt.keep HP.out hkb) hj
                  rw [HP2.out] at hcp
                  have hpn : p < t.ps.length := by omega
                  have hct := hM2.out.top.cell hpn
                  rw [if_pos hpn] at hct
                  have hcj := hM2.out.top.cell hj
                  rw [if_pos hj] at hcj
                  have hcr := (hM2.out.rows p hpn).cell hst
                  have hfr := (hM2.out.rows p hpn).frozen s
                  have hval : partS t st cs j s p s = part t st cs (j + 1) p s := by unfold partS; rw [if_neg (by omega)]
                  rw [hval] at hcr
                  have hnext : ∀ r c, partS t st cs j (s + 1) r c = if r = p ∧ c = s then part t st cs (j + 1) p s + addK t st cs s j else partS t st cs j s r c := fun r c => by
                    unfold partS
                    rw [HP2.out]
                    by_cases e : r = p ∧ c = s
                    · obtain ⟨rfl, rfl⟩ := e
                      rw [if_pos ⟨rfl, by omega⟩, if_pos ⟨rfl, rfl⟩, part_step hj HP2.out hpj]
                    · rw [if_neg e]
                      by_cases e2 : (p : Int) = r ∧ c < s
                      · rw [if_pos ⟨e2.1, by omega⟩, if_pos e2]
                      · rw [if_neg e2, if_neg (fun h => by
                          rcases Nat.lt_or_ge c s with h3 | h3
                          · exact e2 ⟨h.1, h3⟩
                          · exact e ⟨by omega, by omega⟩)]
                  have HNEXT := Lib.hid hnext
                  obtain ⟨cb, co, rq, rc, rfl, hcc, hri⟩ := rows_get (HC.out.keep hkb) hst
                  have hrowj : IntsAt Any wq (.slice (some ⟨w.heap.size + 1 + 1 + j, 0, none⟩) cs.length cs.length) (tabRow t st cs j) := by
                    refine ⟨some ⟨w.heap.size + 1 + 1 + j, 0, none⟩, cs.length, by rw [tabRow_len], by rw [tabRow_len]; exact Nat.le_refl _, .inr ⟨_, 0, rfl, trivial, fun c hc => ?_⟩⟩
                    rw [tabRow_len] at hc
                    rw [Nat.zero_add, (hM2.out.rows j hj).cell hc]
                    show some (Value.int .i64 (partS t st cs j s j c)) = some (Value.int .i64 (gi (tabRow t st cs j) c))
                    rw [gi_tabRow _ _ _ _ hc]
                    unfold partS
                    rw [HP2.out, if_neg (by omega), part_tab HV.out hj (Nat.le_refl _)]
                  have hleast := fun m => leastR_t Any (· < w.heap.size + 1) (wq.drewN m) _ _ (tabRow t st cs j) (gl cs s) (IntsAt.keep hrowj (kept_drewN _ _ _)) (IntsAt.keep hri (kept_drewN _ _ _)) (by rw [tabRow_len, HM3.out s hst]; exact Nat.le_refl _) (by rw [HM3.out s hst]; omega) (HM4.out s) (fun c => by have := (HV.out.tb j c hj).2; omega)
                  have hadd : (bestK (gi (gl cs s)) (gi (tabRow t st cs j)) (tabRow t st cs j).length).1 = addK t st cs s j := rfl
                  rw [hadd] at hleast
                  have hab := addK_nonneg HV.out hst hj
                  have hpb := part_bd HV.out (k := j + 1) hpn hst
                  have hpb2 := part_bd HV.out (k := j) hpn hst
                  rw [part_step hj HP2.out hpj] at hpb2
                  have HLEAST := Lib.hid hleast
                  have HSET := Lib.hid (hM2.out.set hpn s (part t st cs (j + 1) p s + addK t st cs s j))
                  have i1 : (0 : Int) ≤ (j : Int) := by omega
                  have i2 : (j : Int) < (t.ps.length : Int) := by omega
                  have i3 : (0 : Int) ≤ (p : Int) := by omega
                  have i4 : (p : Int) < (t.ps.length : Int) := by omega
                  have i5 : (0 : Int) ≤ (s : Int) := by omega
                  have i6 : (s : Int) < (cs.length : Int) := by omega
                  rw [HM3.out s hst] at hcc HLEAST
                  clear hkb hval hnext hri hrowj hleast hadd
                  generalize part t st cs (j + 1) p s = px at *
                  generalize addK t st cs s j = ax at *
                  obtain ⟨hpb, _⟩ := hpb
                  obtain ⟨_, hpb2⟩ := hpb2
                  have hsum : IntKind.i64.wrap (px + ax) = px + ax := IntWalk.i64_in _ (by omega)
                  go_wp2_with fail
                  refine region_tail_p 31 (by kernel_rfl) (by kernel_rfl) ?_
                  simp only [List.take_succ_cons, List.take_zero, List.drop_succ_cons, List.drop_zero]
                  repeat (go_big_quiet_step (exact lq_quiet (HLEAST.out _)))
                  refine wpQuiet_nil ?_
                  intro _ hw'
                  obtain ⟨nq, hw''⟩ := hw'
                  subst hw''
                  have hcr2 : (wq.drewN nq).cell? ⟨w.heap.size + 1 + 1 + p, s, none⟩ = _ := hcr
                  have hfr2 : (wq.drewN nq).frozen? ⟨w.heap.size + 1 + 1 + p, s, none⟩ = false := hfr
                  have HMN : Hid (MatW w1 ((wq.drewN nq).setCell ⟨w.heap.size + 1 + 1 + p, s, none⟩ (.int .i64 (px + ax))) (w.heap.size + 1) t.ps.length cs.length t.ps.length (partS t st cs j (s + 1))) := ((hM2.out.drewN nq).set hpn s (px + ax)).congr fun r c _ _ => (HNEXT.out r c).symm
                  go_wp2_with fail
                  go_roundw
                  case rel => exact ⟨s + 1, by omega, by go_num, HMN⟩
                  case measure => simp [intOf]; omega
                · obtain rfl : s = cs.length := by omega
                  obtain ⟨j', rfl⟩ : ∃ j', j = j' + 1 := ⟨j - 1, by omega⟩
                  have HMN : Hid (MatW w1 wq (w.heap.size + 1) t.ps.length cs.length t.ps.length (part t st cs (j' + 1))) := hM2.out.congr fun r c _ hc => partS_end hc
                  clear hst hs
                  go_wp2_with fail
                  go_roundw
                  case rel => exact ⟨j', by omega, by go_num, HMN⟩
                  case measure => simp [intOf]
            · obtain rfl : j = 0 := by omega
              clear hj0
              go_wp2_with fail
              go_ret
              refine ⟨HU.out.trans (by rw [← HZ1.out] at hM; exact hM.out.below), .slice (some ⟨w.heap.size + 1, 0, none⟩) t.ps.length t.ps.length, rfl, fun i => .slice (some ⟨w.heap.size + 1 + 1 + i, 0, none⟩) cs.length cs.length, ⟨some ⟨w.heap.size + 1, 0, none⟩, t.ps.length, by rw [tabL_len], by rw [tabL_len]; exact Nat.le_refl _, .inr ⟨_, 0, rfl, trivial, fun k hk => ?_⟩⟩, fun k hk => ?_⟩
              · rw [tabL_len] at hk
                have h1 := hM.out.top.cell hk
                rw [if_pos hk] at h1
                rw [Nat.zero_add]; exact h1
              · rw [tabL_len] at hk
                rw [gl_tabL _ _ _ hk]
                refine ⟨some ⟨w.heap.size + 1 + 1 + k, 0, none⟩, cs.length, by rw [tabRow_len], by rw [tabRow_len]; exact Nat.le_refl _, .inr ⟨_, 0, rfl, trivial, fun c hc => ?_⟩⟩
                rw [tabRow_len] at hc
                rw [Nat.zero_add, (hM.out.rows k hk).cell hc]
                show some (Value.int .i64 (part t st cs (0 + 1) k c)) = some (Value.int .i64 (gi (tabRow t st cs k) c))
                rw [gi_tabRow _ _ _ _ hc, part_tab HV.out hk (by omega)]
end Go.Proofs.Ytflikmllpimaiaa
