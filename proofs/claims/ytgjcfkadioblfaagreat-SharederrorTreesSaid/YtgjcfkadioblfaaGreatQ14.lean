/- The contract of layer 31's reference's Check. The contract of layer 35's reference's named. The plain law of the order of children: names compared, the least name below a node, children sorted. Maps whose keys are pointers at nodes. The closure that compares children: its contract. The world outside a forest. -/
import Derived.Test.YtgjcfkadioblfaaGreatQ6
import Derived.Test.YtgjcfkadioblfaaGreatQ13
import Derived.Test.YtgjcfkadioblfaaGreatQ9
import Derived.Lib.Bytealg
import Derived.Sort.Statements
import Derived.MapKept
import Derived.Laws.Pointers
import Derived.Test.YtgjcfkadioblfaaGreatQ2
namespace Go.Proofs.YtgjcfkadioblfaaGreat
open Go.RowKit Go.Deep
set_option maxRecDepth 100000 in
set_option maxHeartbeats 1600000 in
theorem checkR_t (S : Nat → Prop) (w : World) (v : Value) (t : Tre) (h : TreeAt S w v t) (hp : t.ps.length ≤ 1000000) (hn : t.ns.length ≤ 1000000) (hz : ∀ k, (gs t.ns k).size ≤ 70000) :
    Calls Tryz.prog 40 #[v] w fun e w' => e = .returned (.int .i64 (treeErr t)) ∧ Below w.heap.size w w' := by
  obtain ⟨P, N, rfl, hP, hN⟩ := h
  obtain ⟨ps, ns⟩ := t
  simp only at *
  have hfin : treeErr ⟨ps, ns⟩ = if ps.length = 0 then 5 else if 64 < ps.length then 4 else if ns.length ≠ ps.length then 9 else if pOkB ps then firstNZ (nErr ps ns) ps.length else 2 := rfl
  have HF := Lib.hid hfin
  clear hfin
  have hbx : Below w.heap.size w (w.alloc (.cells #[P, N] 25)) := (Below.refl _ _).alloc (Nat.le_refl _) _
  have hT0 : TreeAt S (w.alloc (.cells #[P, N] 25)) (.agg #[P, N]) ⟨ps, ns⟩ := TreeAt.keep ⟨P, N, rfl, hP, hN⟩ (Kept.below hbx)
  have hP' := hP.keep (Kept.below hbx)
  have hN' := hN.keep (Kept.below hbx)
  clear hP hN
  obtain ⟨p, cap, rfl, hcap, HP⟩ := SlAt.open hP'
  obtain ⟨q, cap2, rfl, hcap2, HN⟩ := SlAt.open hN'
  have HPh := Lib.hid HP
  have HNh := Lib.hid HN
  have HT0 := Lib.hid hT0
  have HBX := Lib.hid hbx
  clear hP' hN' HP HN hT0 hbx
  by_cases h0 : ps.length = 0
  · have HX : Hid (ps.length = 0) := h0
    have h0' : ((ps.length : Int) == 0) = true := by simp [h0]
    clear h0
    go_enter Tryz.func40, Tryz.ntmps40
    go_wp2_with fail
    go_ret
    exact ⟨ret_int (by rw [HF.out, if_pos HX.out]), HBX.out⟩
  have h0' : ((ps.length : Int) == 0) = false := by simpa using h0
  by_cases h1 : 64 < ps.length
  · go_enter Tryz.func40, Tryz.ntmps40
    go_wp2_with fail
    go_ret
    exact ⟨ret_int (by rw [HF.out, if_neg h0, if_pos h1]), HBX.out⟩
  by_cases h2 : ns.length = ps.length
  · have h2' : ((ns.length : Int) != ps.length) = false := by simp [h2]
    have H2 := Lib.hid h2
    clear h2
    have hcp : (w.alloc (.cells #[.slice p ps.length cap, .slice q ns.length cap2] 25)).cell? ⟨w.heap.size, 0, none⟩ = some (.slice p ps.length cap) := by simp [World.cell?_alloc_new]
    have hcq : (w.alloc (.cells #[.slice p ps.length cap, .slice q ns.length cap2] 25)).cell? ⟨w.heap.size, 1, none⟩ = some (.slice q ns.length cap2) := by simp [World.cell?_alloc_new]
    have hct : (w.alloc (.cells #[.slice p ps.length cap, .slice q ns.length cap2] 25)).rowIs w.heap.size 25 2 (fun i => if i = 0 then .slice p ps.length cap else .slice q ns.length cap2) :=
      World.rowIs_alloc w _ _ _ (fun i hi => by match i, hi with | 0, _ => rfl | 1, _ => rfl)
    have hsz : (w.alloc (.cells #[.slice p ps.length cap, .slice q ns.length cap2] 25)).heap.size = w.heap.size + 1 := by simp
    have HS := Lib.hid hsz
    have HCP := Lib.hid hcp
    have HCQ := Lib.hid hcq
    have HCT := Lib.hid hct
    clear hsz hcq hct
    go_enter Tryz.func40, Tryz.ntmps40
    go_wp2_with fail
    generalize hw0 : w.alloc (.cells #[.slice p ps.length cap, .slice q ns.length cap2] 25) = w0 at *
    clear hw0
    go_loop [3] (fun i => ∃ k : Nat, k ≤ ps.length ∧ i = .int .i64 k ∧ Hid (∀ j, j < k → okp j (gi ps j) = true)) (fun i => ps.length - (intOf i).toNat)
    case atStart => exact ⟨0, Nat.zero_le _, rfl, fun j hj => absurd hj (Nat.not_lt_zero _)⟩
    case round =>
      obtain ⟨k, hk, rfl, hd⟩ := hrel
      by_cases hlt : k < ps.length
      · obtain ⟨b, off, rfl, hc⟩ := HPh.out k hlt
        clear HPh HNh HT0
        generalize hpk : gi ps k = x at *
        have HX := Lib.hid hpk
        clear hpk
        by_cases hg : 0 < k ∧ 0 ≤ x ∧ x < k
        · obtain ⟨g1, g2, g3⟩ := hg
          go_wp2_with fail
          go_round
          case rel => exact ⟨k + 1, by omega, by go_num, fun j hj => if e : j = k then by subst e; rw [HX.out]; unfold okp; rw [if_neg (by omega)]; simp; omega else hd.out j (by omega)⟩
          case measure => simp [intOf]; omega
        · by_cases h00 : k = 0 ∧ x = -1
          · obtain ⟨rfl, rfl⟩ := h00
            have hc' : w0.cell? ⟨b, off, none⟩ = some (.int .i64 (-1)) := by simpa using hc
            go_wp2_with fail
            go_round
            case rel => exact ⟨1, by omega, by go_num, fun j hj => by obtain rfl : j = 0 := by omega
                                                                      rw [HX.out]; rfl⟩
            case measure => simp [intOf]; omega
          · have hbad : okp k x = false := by
              unfold okp; split
              · rename_i e; simp; exact fun e2 => h00 ⟨e, e2⟩
              · simp; intro; omega
            rw [← HX.out] at hbad
            have HB := Lib.hid (pOkB_bad hlt hbad)
            clear hbad
            have hc' : k = 0 → w0.cell? ⟨b, off, none⟩ = some (.int .i64 x) := fun e => by subst e; simpa using hc
            rcases Nat.eq_zero_or_pos k with rfl | hk0
            · have hc2 := hc' rfl
              clear hc' hc
              go_wp2_with fail
              all_goals go_ret
              all_goals exact ⟨ret_int (by rw [HF.out, if_neg h0, if_neg h1, if_neg (by rw [H2.out]; simp), HB.out]; simp), HBX.out⟩
            · clear hc'
              go_wp2_with fail
              all_goals go_ret
              all_goals exact ⟨ret_int (by rw [HF.out, if_neg h0, if_neg h1, if_neg (by rw [H2.out]; simp), HB.out]; simp), HBX.out⟩
      · obtain rfl : k = ps.length := by omega
        have hok0 := pOkB_all hd.out
        have hok := Lib.hid hok0
        clear hlt hk hd HPh hcap hok0
        go_wp2_with fail
        go_loopw [4, 5] (fun i _ wr => ∃ k : Nat, k ≤ ps.length ∧ i = .int .i64 k ∧ Hid (∀ j, j < k → nErr ps ns j = 0) ∧ Below w0.heap.size w0 wr) (fun i _ _ => ps.length - (intOf i).toNat)
        case atStart => exact ⟨0, Nat.zero_le _, rfl, fun j hj => absurd hj (Nat.not_lt_zero _), Below.refl _ _⟩
        case round =>
          obtain ⟨k, hk, rfl, hd, hbr⟩ := hrel
          clear hcp
          have hcp : wr.cell? ⟨w.heap.size, 0, none⟩ = some (.slice p ps.length cap) := (hbr.cell (p := ⟨w.heap.size, 0, none⟩) (by have := HS.out; simp; omega)).trans HCP.out
          have hcq : wr.cell? ⟨w.heap.size, 1, none⟩ = some (.slice q ns.length cap2) := (hbr.cell (p := ⟨w.heap.size, 1, none⟩) (by have := HS.out; simp; omega)).trans HCQ.out
          by_cases hlt : k < ps.length
          · have hlen : ns.length ≤ ps.length ∧ ps.length ≤ ns.length := by have := H2.out; omega
            obtain ⟨hl1, hl2⟩ := hlen
            have hT := HT0.out.keep (Kept.below hbr)
            have hkd := kidsR_t S wr _ ⟨ps, ns⟩ k hT hp hlt
            have HKD := Lib.hid hkd
            have hne : nErr ps ns k = if isIn ps k then (if (gs ns k).size = 0 then 0 else 14) else if namedB (gs ns k).data.toList then (if seenK ns k then 7 else 0) else 14 := rfl
            have hki := kids_isIn hok.out k
            have hend : nErr ps ns k ≠ 0 → treeErr ⟨ps, ns⟩ = nErr ps ns k := fun hn0 => by
              rw [HF.out, if_neg h0, if_neg h1, if_neg (by rw [H2.out]; simp), hok.out, if_pos rfl]; exact firstNZ_at hlt hd.out hn0
            have HE := Lib.hid hne
            have HEND := Lib.hid hend
            have HKI := Lib.hid hki
            clear hT hkd hne hend hki
            go_wp2_with fail
            refine HKD.out.mono ?_
            rintro e w2 ⟨hb2, v2, rfl, hv2⟩
            obtain ⟨p2, c2, rfl, _, _⟩ := SlAt.open hv2
            clear hv2
            have hcp2 : w2.cell? ⟨w.heap.size, 0, none⟩ = some (.slice p ps.length cap) := (hb2.cell (p := ⟨w.heap.size, 0, none⟩) (World.block_lt_of_cell? _ _ hcp)).trans hcp
            have hcq2 : w2.cell? ⟨w.heap.size, 1, none⟩ = some (.slice q ns.length cap2) := (hb2.cell (p := ⟨w.heap.size, 1, none⟩) (World.block_lt_of_cell? _ _ hcq)).trans hcq
            have hbw2 : Below w0.heap.size w0 w2 := hbr.trans (hb2.mono hbr.size)
            clear hcp hcq HKD hb2
            have hzk := hz k
            have hnil := toList_nil (gs ns k)
            have HNIL := Lib.hid hnil
            have HBW2 := Lib.hid hbw2
            obtain ⟨b, off, rfl, hc0⟩ := HNh.out k (by omega)
            have hc2 : w2.cell? ⟨b, off + k, none⟩ = some (.string (gs ns k)) := (hbw2.cell (p := ⟨b, off + k, none⟩) (World.block_lt_of_cell? _ _ hc0)).trans hc0
            clear hc0 hbw2 hnil hz
            cases hin : isIn ps k
            · have hk0 : (ofNats (kidsL ps k)).length = 0 := by
                rcases h : kidsL ps k with _ | ⟨a, l⟩
                · rfl
                · have h2 := HKI.out.1 (by rw [h]; simp); rw [hin] at h2; cases h2
              rw [hk0]
              have HIN := Lib.hid hin
              clear hk0 hin
              have hnm := namedR_t (gs ns k) hzk w2
              have HNM := Lib.hid hnm
              clear hnm
              cases hnb : namedB (gs ns k).data.toList
              · have HNB := Lib.hid hnb
                rw [hnb] at HNM
                clear hnb
                go_wp2_with fail
                refine HNM.out.mono ?_
                rintro e w3 ⟨rfl, hb3⟩
                go_wp2_with fail
                go_ret
                exact ⟨ret_int (by rw [HEND.out (by rw [HE.out, HIN.out, HNB.out]; simp), HE.out, HIN.out, HNB.out]; simp), HBX.out.trans ((HBW2.out.mono (by have := HS.out; omega)).trans (hb3.mono (by have := HS.out; have := HBW2.out.size; omega)))⟩
              · have HNB := Lib.hid hnb
                rw [hnb] at HNM
                clear hnb
                go_wp2_with fail
                refine HNM.out.mono ?_
                rintro e w3 ⟨rfl, hb3⟩
                have hbw3 : Below w0.heap.size w0 w3 := HBW2.out.trans (hb3.mono HBW2.out.size)
                have hcq3 : w3.cell? ⟨w.heap.size, 1, none⟩ = some (.slice (some ⟨b, off, none⟩) ns.length cap2) := (hb3.cell (p := ⟨w.heap.size, 1, none⟩) (World.block_lt_of_cell? _ _ hcq2)).trans hcq2
                have hc3 : w3.cell? ⟨b, off + k, none⟩ = some (.string (gs ns k)) := (hb3.cell (p := ⟨b, off + k, none⟩) (World.block_lt_of_cell? _ _ hc2)).trans hc2
                have HBW3 := Lib.hid hbw3
                clear hcp2 hcq2 hc2 hb3 hbw3
                go_wp2_with fail
                go_loopw [5] (fun i wq => ∃ j a : Nat, j ≤ k ∧ i = .int .i64 j ∧ Hid (∀ m, m < j → decide (gs ns m = gs ns k) = false) ∧ wq = w3.drewN a) (fun i _ => k - (intOf i).toNat)
                case atStart => exact ⟨0, 0, Nat.zero_le _, rfl, fun j hj => absurd hj (Nat.not_lt_zero _), rfl⟩
                case round =>
                  obtain ⟨j, a, hj, rfl, hd2, rfl⟩ := hrel
                  by_cases hjk : j < k
                  · obtain ⟨b', off', eb, hcj⟩ := HNh.out j (by omega)
                    cases eb
                    have hc4 : w3.cell? ⟨b, off + j, none⟩ = some (.string (gs ns j)) := (HBW3.out.cell (p := ⟨b, off + j, none⟩) (World.block_lt_of_cell? _ _ hcj)).trans hcj
                    clear hcj
                    have i1 : (0 : Int) ≤ (j : Int) := by omega
                    have i2 : (j : Int) < (ns.length : Int) := by omega
                    have i3 : (0 : Int) ≤ (k : Int) := by omega
                    have i4 : (k : Int) < (ns.length : Int) := by omega
                    have HNEQ := Lib.hid (toList_data (gs ns j))
                    go_wp2_with fail
                    go_quiet (fail)
                    go_wp2_with fail
                    · have hs : seenK ns k = true := List.any_eq_true.2 ⟨j, List.mem_range.2 hjk, by simpa using str_yes ‹_›⟩
                      go_ret
                      exact ⟨ret_int (by rw [HEND.out (by rw [HE.out, HIN.out, HNB.out, hs]; simp), HE.out, HIN.out, HNB.out, hs]; simp), HBX.out.trans (Below.mono (B := w0.heap.size) (below_drewN (below_drewN HBW3.out _) _) (by have := HS.out; omega))⟩
                    · have hs := str_no ‹((gs ns j).toList == (gs ns k).toList) = false›
                      go_roundw
                      case rel => exact ⟨j + 1, _, by omega, by go_num, fun m hm => if e : m = j then by subst e; simpa using hs else hd2.out m (by omega), rfl⟩
                      case measure => simp [intOf]; omega
                  · have hs : seenK ns k = false := by
                      rw [Bool.eq_false_iff]; intro e
                      obtain ⟨m, hm, h2⟩ := List.any_eq_true.1 e
                      have h3 := hd2.out m (by have := List.mem_range.1 hm; omega)
                      rw [h3] at h2; cases h2
                    have HSN := Lib.hid hs
                    clear hs
                    go_wp2_with fail
                    go_roundw
                    case rel => exact ⟨k + 1, by omega, by go_num, fun m hm => if e : m = k then by subst e; rw [HE.out, HIN.out, HNB.out, HSN.out]; simp else hd.out m (by omega), below_drewN HBW3.out _⟩
                    case measure => simp [intOf]; omega
            · have hk0 : 0 < (ofNats (kidsL ps k)).length := by
                have h2 := HKI.out.2 hin
                unfold ofNats; rw [List.length_map]; exact List.length_pos_iff.2 h2
              generalize (ofNats (kidsL ps k)).length = m at *
              have HIN := Lib.hid hin
              clear hin
              by_cases hg0 : (gs ns k).size = 0
              · have hg1 : (gs ns k).toList = [] := HNIL.out.2 hg0
                have HG0 := Lib.hid hg0
                clear hg0
                go_wp2_with fail
                go_roundw
                case rel => exact ⟨k + 1, by omega, by go_num, fun j hj => if e : j = k then by subst e; rw [HE.out, HIN.out, HG0.out]; simp else hd.out j (by omega), HBW2.out⟩
                case measure => simp [intOf]; omega
              · have hg1 : ((gs ns k).toList == []) = false := by
                  rw [Bool.eq_false_iff]; intro e; exact hg0 (HNIL.out.1 (by simpa using e))
                have hg2 : ((gs ns k).toList != []) = true := by
                  rw [bne_iff_ne]; intro e; exact hg0 (HNIL.out.1 (by simpa using e))
                have HG0 := Lib.hid hg0
                clear hg0
                go_wp2_with fail
                go_ret
                exact ⟨ret_int (by rw [HEND.out (by rw [HE.out, HIN.out, if_pos rfl, if_neg HG0.out]; simp), HE.out, HIN.out, if_pos rfl, if_neg HG0.out]), HBX.out.trans (HBW2.out.mono (by have := HS.out; omega))⟩
          · have hk2 : k = ps.length := by omega
            clear hlt
            go_wp2_with fail
            go_ret
            exact ⟨ret_int (by rw [HF.out, if_neg h0, if_neg h1, if_neg (by rw [H2.out]; simp), hok.out, if_pos rfl, firstNZ_zero fun j hj => hd.out j (by omega)]), HBX.out.trans (hbr.mono (by have := HS.out; omega))⟩
  · have h2' : ((ns.length : Int) != ps.length) = true := by simp; omega
    go_enter Tryz.func40, Tryz.ntmps40
    go_wp2_with fail
    go_ret
    exact ⟨ret_int (by rw [HF.out, if_neg h0, if_neg h1, if_pos h2]), HBX.out⟩
end Go.Proofs.YtgjcfkadioblfaaGreat
namespace Go.Proofs.YtgjcfkadioblfaaGreat
open Go.RowKit Go.Deep
def oneT (s : ByteArray) : Tre := ⟨[-1], [s]⟩
theorem one_at (w : World) (s : ByteArray) : TreeAt Any ((w.alloc (.cells #[.int .i64 (-1)] 3)).alloc (.cells #[.string s] 9)) (.agg #[.slice (some ⟨w.heap.size, 0, none⟩) 1 1, .slice (some ⟨w.heap.size + 1, 0, none⟩) 1 1]) (oneT s) := by
  refine ⟨_, _, rfl, ⟨_, 1, rfl, Nat.le_refl _, .inr ⟨_, 0, rfl, trivial, fun k hk => ?_⟩⟩, ⟨_, 1, rfl, Nat.le_refl _, .inr ⟨_, 0, rfl, trivial, fun k hk => ?_⟩⟩⟩
  · obtain rfl : k = 0 := by have : (oneT s).ps.length = 1 := rfl; omega
    refine (Up.alloc (w.alloc (.cells #[.int .i64 (-1)] 3)) _).cell ?_
    have h := World.alloc_heap_new w (Obj.cells #[.int .i64 (-1)] 3)
    simp only [World.cell?, h]; rfl
  · obtain rfl : k = 0 := by have : (oneT s).ns.length = 1 := rfl; omega
    have h := World.alloc_heap_new (w.alloc (.cells #[.int .i64 (-1)] 3)) (Obj.cells #[.string s] 9)
    rw [World.size_alloc] at h
    simp only [World.cell?, h]; rfl
set_option maxRecDepth 100000 in
set_option maxHeartbeats 2000000 in
theorem named35_t (w : World) (s : ByteArray) (hz : s.size ≤ 70000) :
    Calls Tryz.prog 65 #[.string s] w fun e w' => e = .returned (.bool (treeErr (oneT s) == 0)) ∧ Up w w' := by
  have hu := (Up.alloc w (.cells #[.int .i64 (-1)] 3)).trans (Up.alloc _ (.cells #[.string s] 9))
  have HU := Lib.hid hu
  have HC := Lib.hid (checkR_t Any _ _ (oneT s) (one_at w s) (by simp [oneT]) (by simp [oneT]) (fun k => by
    unfold oneT gs; cases k <;> simp; exact hz))
  clear hu
  go_enter Tryz.func65, Tryz.ntmps65
  go_wp2_with fail
  generalize (w.alloc (.cells #[.int .i64 (-1)] 3)).alloc (.cells #[.string s] 9) = w1 at *
  refine HC.out.mono ?_
  rintro e w2 ⟨rfl, hb⟩
  have HU2 := Lib.hid (HU.out.trans (show Up w1 w2 from hb))
  clear hb HC HU
  go_wp2_with fail
  go_ret
  exact ⟨ret_bool rfl, HU2.out⟩
theorem one_err (s : ByteArray) : (treeErr (oneT s) == 0) = namedB s.data.toList := by
  have h1 : isIn (oneT s).ps 0 = false := by
    unfold isIn inK oneT; simp
  have h2 : seenK (oneT s).ns 0 = false := by unfold seenK; simp
  have h3 : pOkB (oneT s).ps = true := by unfold pOkB oneT; simp [okp, gi]
  have h4 : gs (oneT s).ns 0 = s := rfl
  unfold treeErr
  rw [if_neg (by simp [oneT]), if_neg (by simp [oneT]), if_neg (by simp [oneT]), if_pos h3]
  show (firstNZ (nErr (oneT s).ps (oneT s).ns) 1 == 0) = _
  simp only [firstNZ, if_true]
  unfold nErr
  rw [h1, h2, h4]
  cases namedB s.data.toList <;> simp
end Go.Proofs.YtgjcfkadioblfaaGreat
namespace Go.Proofs.YtgjcfkadioblfaaGreat
open Go.Sort
theorem cmp_bd : ∀ a b : List UInt8, Lib.compareBytes a b = -1 ∨ Lib.compareBytes a b = 0 ∨ Lib.compareBytes a b = 1
  | [], [] => .inr (.inl rfl)
  | [], _ :: _ => .inl rfl
  | _ :: _, [] => .inr (.inr rfl)
  | a :: u, b :: v => by
    unfold Lib.compareBytes
    split
    · exact .inl rfl
    · split
      · exact .inr (.inr rfl)
      · exact cmp_bd u v
theorem cmp_anti : ∀ a b : List UInt8, Lib.compareBytes b a = - Lib.compareBytes a b
  | [], [] => rfl
  | [], _ :: _ => rfl
  | _ :: _, [] => rfl
  | a :: u, b :: v => by
    unfold Lib.compareBytes
    by_cases h1 : a < b
    · have h2 : ¬ b < a := by rw [UInt8.lt_iff_toNat_lt] at *; omega
      simp [h1, h2]
    · by_cases h2 : b < a
      · simp [h1, h2]
      · simp only [h1, h2, if_false]; exact cmp_anti u v
theorem cmp_zero : ∀ {a b : List UInt8}, Lib.compareBytes a b = 0 → a = b
  | [], [], _ => rfl
  | [], _ :: _, h => by cases h
  | _ :: _, [], h => by cases h
  | a :: u, b :: v, h => by
    unfold Lib.compareBytes at h
    split at h
    · cases h
    · split at h
      · cases h
      · rename_i h1 h2
        have e : a = b := by
          apply UInt8.toNat.inj
          rw [UInt8.lt_iff_toNat_lt] at h1 h2; omega
        rw [e, cmp_zero h]
theorem cmp_self (a : List UInt8) : Lib.compareBytes a a = 0 := by have := cmp_anti a a; omega
theorem cmp_trans : ∀ {a b c : List UInt8}, Lib.compareBytes a b < 0 → Lib.compareBytes b c < 0 → Lib.compareBytes a c < 0
  | [], [], _, h, _ => by cases h
  | [], _ :: _, [], _, h => by cases h
  | [], _ :: _, _ :: _, _, _ => Int.negSucc_lt_zero 0
  | _ :: _, [], _, h, _ => by cases h
  | _ :: _, _ :: _, [], _, h => by cases h
  | a :: u, b :: v, c :: x, h, h' => by
    unfold Lib.compareBytes at *
    by_cases h1 : a < b
    · by_cases h2 : b < c
      · have h3 : a < c := by rw [UInt8.lt_iff_toNat_lt] at *; omega
        rw [if_pos h3]; decide
      · rw [if_neg h2] at h'
        by_cases h3 : c < b
        · rw [if_pos h3] at h'; cases h'
        · have h4 : a < c := by rw [UInt8.lt_iff_toNat_lt] at *; omega
          rw [if_pos h4]; decide
    · rw [if_neg h1] at h
      by_cases h2 : b < a
      · rw [if_pos h2] at h; cases h
      · rw [if_neg h2] at h
        have e : a = b := by
          apply UInt8.toNat.inj
          rw [UInt8.lt_iff_toNat_lt] at h1 h2; omega
        subst e
        by_cases h3 : a < c
        · rw [if_pos h3]; decide
        · rw [if_neg h3] at h' ⊢
          by_cases h4 : c < a
          · rw [if_pos h4] at h'; cases h'
          · rw [if_neg h4] at h' ⊢; exact cmp_trans h h'
def cmpS (a b : ByteArray) : Int := Lib.compareBytes a.data.toList b.data.toList
theorem cmpS_anti (a b : ByteArray) : cmpS b a = - cmpS a b := cmp_anti _ _
theorem cmpS_zero {a b : ByteArray} (h : cmpS a b = 0) : a = b := ba_ext (cmp_zero h)
theorem cmpS_trans {a b c : ByteArray} (h : cmpS a b < 0) (h' : cmpS b c < 0) : cmpS a c < 0 := cmp_trans h h'
theorem cmpS_self (a : ByteArray) : cmpS a a = 0 := cmp_self _
/-- 'x stands no later than y'. -/
def leB (f : Nat → ByteArray) (x y : Nat) : Bool := decide (cmpS (f x) (f y) ≤ 0)
def srtBy (f : Nat → ByteArray) (l : List Nat) : List Nat := l.mergeSort (leB f)
theorem leB_trans (f : Nat → ByteArray) (a b c : Nat) (h : leB f a b = true) (h' : leB f b c = true) : leB f a c = true := by
  unfold leB at *
  simp only [decide_eq_true_eq] at *
  by_cases h1 : cmpS (f a) (f b) = 0
  · rw [cmpS_zero h1]; exact h'
  · by_cases h2 : cmpS (f b) (f c) = 0
    · rw [← cmpS_zero h2]; exact h
    · have := cmpS_trans (a := f a) (b := f b) (c := f c) (by omega) (by omega); omega
theorem leB_total (f : Nat → ByteArray) (a b : Nat) : (leB f a b || leB f b a) = true := by
  unfold leB
  have := cmpS_anti (f a) (f b)
  simp only [Bool.or_eq_true, decide_eq_true_eq]; omega
theorem srtBy_perm (f : Nat → ByteArray) (l : List Nat) : (srtBy f l).Perm l := List.mergeSort_perm _ _
theorem srtBy_sorted (f : Nat → ByteArray) (l : List Nat) : (srtBy f l).Pairwise (fun a b => leB f a b = true) := List.pairwise_mergeSort (leB_trans f) (leB_total f) l
theorem srtBy_congr {f g : Nat → ByteArray} {l : List Nat} (h : ∀ x ∈ l, f x = g x) : srtBy f l = srtBy g l := by
  have := List.map_mergeSort (f := id) (r := leB f) (s := leB g) (l := l) (fun a ha b hb => by simp only [leB, id]; rw [h a ha, h b hb])
  simpa [srtBy] using this
/-- Children whose least names differ. -/
def Sep (f : Nat → ByteArray) (l : List Nat) : Prop := ∀ x ∈ l, ∀ y ∈ l, f x = f y → x = y
theorem srtBy_of_perm {f : Nat → ByteArray} {l l' : List Nat} (hp : l.Perm l') (hs : Sep f l) : srtBy f l = srtBy f l' := by
  refine List.Perm.eq_of_pairwise (le := fun a b => leB f a b = true) ?_ (srtBy_sorted f l) (srtBy_sorted f l') (((srtBy_perm f l).trans hp).trans (srtBy_perm f l').symm)
  intro a b ha hb h1 h2
  refine hs a ((srtBy_perm f l).mem_iff.1 ha) b (hp.mem_iff.2 ((srtBy_perm f l').mem_iff.1 hb)) (cmpS_zero ?_)
  unfold leB at h1 h2
  simp only [decide_eq_true_eq] at h1 h2
  have := cmpS_anti (f a) (f b); omega
/-- Below each node a rank falls. -/
structure Wf (F : Frs) (n : Nat) (rk : Nat → Nat) : Prop where
  kid : ∀ i, i < n → ∀ k ∈ F.kids i, k < n ∧ rk k < rk i
/-- The least name below a node, d levels deep. -/
def lsD (F : Frs) : Nat → Nat → ByteArray
  | 0, i => F.nm i
  | d + 1, i => match srtBy (lsD F d) (F.kids i) with | [] => F.nm i | k :: _ => lsD F d k
theorem lsD_fuel {F : Frs} {n : Nat} {rk : Nat → Nat} (h : Wf F n rk) : ∀ {d e i : Nat}, i < n → rk i ≤ d → rk i ≤ e → lsD F d i = lsD F e i := by
  intro d
  induction d with
  | zero =>
    intro e i hi hd he
    have hk : F.kids i = [] := by
      cases hk : F.kids i with
      | nil => rfl
      | cons k l => have := (h.kid i hi k (by rw [hk]; simp)).2; omega
    cases e with
    | zero => rfl
    | succ e => simp [lsD, hk, srtBy]
  | succ d ih =>
    intro e i hi hd he
    have hsame : ∀ e', rk i ≤ e' + 1 → srtBy (lsD F d) (F.kids i) = srtBy (lsD F e') (F.kids i) := fun e' he' => srtBy_congr fun k hk => by
      have := h.kid i hi k hk
      exact ih this.1 (by omega) (by omega)
    cases e with
    | zero =>
      have hk : F.kids i = [] := by
        cases hk : F.kids i with
        | nil => rfl
        | cons k l => have := (h.kid i hi k (by rw [hk]; simp)).2; omega
      simp [lsD, hk, srtBy]
    | succ e =>
      simp only [lsD]
      rw [hsame e (by omega)]
      cases hc : srtBy (lsD F e) (F.kids i) with
      | nil => rfl
      | cons k l =>
        have hk : k ∈ F.kids i := (srtBy_perm _ _).mem_iff.1 (by rw [hc]; simp)
        have := h.kid i hi k hk
        exact ih this.1 (by omega) (by omega)
def lsF (F : Frs) (rk : Nat → Nat) (i : Nat) : ByteArray := lsD F (rk i) i
theorem lsF_eq {F : Frs} {n : Nat} {rk : Nat → Nat} (h : Wf F n rk) {i : Nat} (hi : i < n) : lsF F rk i = match srtBy (lsF F rk) (F.kids i) with | [] => F.nm i | k :: _ => lsF F rk k := by
  have h1 : lsF F rk i = lsD F (rk i + 1) i := lsD_fuel h hi (Nat.le_refl _) (Nat.le_succ _)
  rw [h1]
  simp only [lsD]
  have hs : srtBy (lsD F (rk i)) (F.kids i) = srtBy (lsF F rk) (F.kids i) := srtBy_congr fun k hk => by
    have := h.kid i hi k hk
    exact lsD_fuel h this.1 (by omega) (Nat.le_refl _)
  rw [hs]
  cases hc : srtBy (lsF F rk) (F.kids i) with
  | nil => rfl
  | cons k l =>
    have hk : k ∈ F.kids i := (srtBy_perm _ _).mem_iff.1 (by rw [hc]; simp)
    have := h.kid i hi k hk
    exact lsD_fuel h this.1 (by omega) (Nat.le_refl _)
/-- Number j lies below i, or is it: d levels deep. -/
def subD (F : Frs) : Nat → Nat → Nat → Bool
  | 0, i, j => j == i
  | d + 1, i, j => (j == i) || (F.kids i).any fun k => subD F d k j
def subF (F : Frs) (rk : Nat → Nat) (i j : Nat) : Bool := subD F (rk i) i j
theorem subD_fuel {F : Frs} {n : Nat} {rk : Nat → Nat} (h : Wf F n rk) : ∀ {d e i j : Nat}, i < n → rk i ≤ d → rk i ≤ e → subD F d i j = subD F e i j := by
  intro d
  induction d with
  | zero =>
    intro e i j hi hd he
    have hk : F.kids i = [] := by
      cases hk : F.kids i with
      | nil => rfl
      | cons k l => have := (h.kid i hi k (by rw [hk]; simp)).2; omega
    cases e with
    | zero => rfl
    | succ e => simp [subD, hk]
  | succ d ih =>
    intro e i j hi hd he
    cases e with
    | zero =>
      have hk : F.kids i = [] := by
        cases hk : F.kids i with
        | nil => rfl
        | cons k l => have := (h.kid i hi k (by rw [hk]; simp)).2; omega
      simp [subD, hk]
    | succ e =>
      simp only [subD]
      congr 1
      rw [Bool.eq_iff_iff, List.any_eq_true, List.any_eq_true]
      constructor
      · rintro ⟨k, hk, h1⟩
        have := h.kid i hi k hk
        exact ⟨k, hk, by rw [← ih (e := e) this.1 (by omega) (by omega)]; exact h1⟩
      · rintro ⟨k, hk, h1⟩
        have := h.kid i hi k hk
        exact ⟨k, hk, by rw [ih (e := e) this.1 (by omega) (by omega)]; exact h1⟩
theorem subF_eq {F : Frs} {n : Nat} {rk : Nat → Nat} (h : Wf F n rk) {i : Nat} (hi : i < n) (j : Nat) : subF F rk i j = ((j == i) || (F.kids i).any fun k => subF F rk k j) := by
  have h1 : subF F rk i j = subD F (rk i + 1) i j := subD_fuel h hi (Nat.le_refl _) (Nat.le_succ _)
  rw [h1]
  simp only [subD]
  congr 1
  rw [Bool.eq_iff_iff, List.any_eq_true, List.any_eq_true]
  constructor
  · rintro ⟨k, hk, h1⟩
    have := h.kid i hi k hk
    exact ⟨k, hk, by unfold subF; rw [← subD_fuel h this.1 (d := rk i) (by omega) (Nat.le_refl _)]; exact h1⟩
  · rintro ⟨k, hk, h1⟩
    have := h.kid i hi k hk
    exact ⟨k, hk, by rw [subD_fuel h this.1 (e := rk k) (by omega) (Nat.le_refl _)]; exact h1⟩
/-- The forest in which the children of the nodes of p are sorted. -/
def Frs.srt (F : Frs) (rk : Nat → Nat) (p : Nat → Bool) : Frs := { F with kids := fun i => if p i then srtBy (lsF F rk) (F.kids i) else F.kids i }
theorem Frs.srt_perm (F : Frs) (rk : Nat → Nat) (p : Nat → Bool) (i : Nat) : ((F.srt rk p).kids i).Perm (F.kids i) := by
  show (if p i then _ else _ : List Nat).Perm _
  split
  · exact srtBy_perm _ _
  · exact List.Perm.refl _
end Go.Proofs.YtgjcfkadioblfaaGreat
namespace Go.Proofs.YtgjcfkadioblfaaGreat
open Go.RowKit Go.Deep
/-- A block of plain cells. -/
def Plain (w : World) (b : Nat) : Prop := ∃ c t, w.heap[b]? = some (.cells c t (0, 0)) ∧ 0 < c.size
section
variable {P : Program} {w : World}
theorem run_sameAddr {a b : Nat} (ha : Plain w a) (hb : Plain w b) : (sameAddr ⟨a, 0, none⟩ ⟨b, 0, none⟩).run P w = .ok (decide (a = b)) w := by
  obtain ⟨ca, ta, ha, hca⟩ := ha
  obtain ⟨cb, tb, hb, hcb⟩ := hb
  by_cases h : a = b
  · subst h; simp [sameAddr]
  · have h1 : (a == b) = false := by simp [h]
    simp [sameAddr, h1, h, World.frozen?, ha, hb, noView, viewAt, mayBeOne, stringish, World.shape?, getObj, Sem.run, shape, frozen]
/-- A key: nil, or a block. -/
def pk : Option Nat → Value
  | none => .pointer none
  | some b => .pointer (some ⟨b, 0, none⟩)
def okKey (w : World) : Option Nat → Prop
  | none => True
  | some b => Plain w b
theorem run_eqIn {t e : TypeId} (ht : P.underlying t = some (.pointer e)) (he : ∀ w, (sizeOf e).run P w = .ok 3 w) {x y : Option Nat} (hx : okKey w x) (hy : okKey w y) (d : Nat) : (Op.equalIn (d + 1) t (pk x) (pk y)).run P w = .ok (decide (x = y)) w := by
  have hu := run_underlying (w := w) ht
  unfold Op.equalIn
  cases x with
  | none => cases y <;> simp [hu, pk]
  | some a =>
    cases y with
    | none => simp [hu, pk]
    | some b =>
      have h := run_sameAddr (P := P) hx hy
      simp [hu, pk, he, h]
theorem run_eqp {t e : TypeId} (ht : P.underlying t = some (.pointer e)) (he : ∀ w, (sizeOf e).run P w = .ok 3 w) {x y : Option Nat} (hx : okKey w x) (hy : okKey w y) : (Op.equal t (pk x) (pk y)).run P w = .ok (decide (x = y)) w :=
  run_eqIn ht he hx hy 9999
theorem run_asking {t e : TypeId} (ht : P.underlying t = some (.pointer e)) (he : ∀ w, (sizeOf e).run P w = .ok 3 w) {k : Option Nat} (hk : okKey w k) : ∀ (es : List MapEntry) (l : List (Option Nat × Value)) (i : Nat),
    es.map (fun x => (x.key, x.val)) = l.map (fun x => (pk x.1, x.2)) → (∀ x ∈ l, okKey w x.1) →
      (l.lookup k = none ∧ (Instr.findAsking t (pk k) es i).run P w = .ok none w) ∨ ∃ j v, l.lookup k = some v ∧ (Instr.findAsking t (pk k) es i).run P w = .ok (some (j, v)) w := by
  intro es
  induction es with
  | nil =>
    intro l i hl _
    cases l with
    | nil => exact .inl ⟨rfl, by simp [Instr.findAsking]⟩
    | cons => cases hl
  | cons x es ih =>
    intro l i hl hok
    cases l with
    | nil => cases hl
    | cons y l =>
      simp only [List.map_cons, List.cons.injEq, Prod.mk.injEq] at hl
      obtain ⟨⟨h1, h2⟩, h3⟩ := hl
      have heq := run_eqp (w := w) ht he hk (hok y (by simp))
      rw [← h1] at heq
      by_cases h : k = y.1
      · subst h
        refine .inr ⟨i, y.2, ?_, ?_⟩
        · obtain ⟨y1, y2⟩ := y; simp
        · simp [Instr.findAsking, heq, h2]
      · have hb : (k == y.1) = false := by simpa using h
        rcases ih l (i + 1) h3 (fun z hz => hok z (by simp [hz])) with ⟨h4, h5⟩ | ⟨j, v, h4, h5⟩
        · refine .inl ⟨?_, by simp [Instr.findAsking, heq, h, h5]⟩
          obtain ⟨y1, y2⟩ := y
          rw [List.lookup_cons, hb]; exact h4
        · refine .inr ⟨j, v, ?_, by simp [Instr.findAsking, heq, h, h5]⟩
          obtain ⟨y1, y2⟩ := y
          rw [List.lookup_cons, hb]; exact h4
/-- The map at block b holds the entries l. -/
def PMap (w : World) (b : Nat) (l : List (Option Nat × Value)) : Prop := ∃ es clock, w.heap[b]? = some (.map es clock) ∧ es.toList.map (fun x => (x.key, x.val)) = l.map (fun x => (pk x.1, x.2))
theorem run_findKey {t e : TypeId} (ht : P.underlying t = some (.pointer e)) (he : ∀ w, (sizeOf e).run P w = .ok 3 w) {k : Option Nat} (hk : okKey w k) (es : List MapEntry) (l : List (Option Nat × Value))
    (hl : es.map (fun x => (x.key, x.val)) = l.map (fun x => (pk x.1, x.2))) (hok : ∀ x ∈ l, okKey w x.1) :
      (l.lookup k = none ∧ (Instr.findKey t (pk k) es).run P w = .ok none w) ∨ ∃ j v, l.lookup k = some v ∧ (Instr.findKey t (pk k) es).run P w = .ok (some (j, v)) w := by
  have hu := run_underlying (w := w) ht
  have h := run_asking ht he hk es l 0 hl hok
  cases es with
  | nil =>
    cases l with
    | nil => exact .inl ⟨rfl, by simp [Instr.findKey, hu, Instr.findNow]⟩
    | cons => cases hl
  | cons x es =>
    have hn : Instr.findNow (.pointer e) (pk k) (x :: es) 0 = none := by simp [Instr.findNow, Instr.sameNow]
    rcases h with ⟨h1, h2⟩ | ⟨j, v, h1, h2⟩
    · exact .inl ⟨h1, by simp [Instr.findKey, hu, hn, h2]⟩
    · exact .inr ⟨j, v, h1, by simp [Instr.findKey, hu, hn, h2]⟩
theorem run_checkKey {t e : TypeId} (ht : P.underlying t = some (.pointer e)) (em : Bool) (k : Option Nat) : (Instr.checkKey em 10000 t (pk k)).run P w = .ok () w := by
  have hu := run_underlying (w := w) ht
  show (Instr.checkKey em (9999 + 1) t (pk k)).run P w = _
  unfold Instr.checkKey
  cases k <;> simp [hu, pk]
/-- 'm[p]' of an entry that is there. -/
theorem run_pget {mt t e el : TypeId} (hm : P.underlying mt = some (.map t el)) (ht : P.underlying t = some (.pointer e)) (he : ∀ w, (sizeOf e).run P w = .ok 3 w) {b : Nat} {l : List (Option Nat × Value)} (h : PMap w b l) {k : Option Nat} {v : Value}
    (hk : okKey w k) (hok : ∀ x ∈ l, okKey w x.1) (hv : l.lookup k = some v) : (Instr.lookup mt (.map (some b)) (pk k) false).run P w = .ok v w := by
  obtain ⟨es, clock, hb, hl⟩ := h
  have hu := run_underlying (w := w) hm
  have hg := MapKept.run_getObj_map (P := P) hb
  rcases run_findKey ht he hk es.toList l hl hok with ⟨h1, h2⟩ | ⟨j, v', h1, h2⟩
  · rw [h1] at hv; cases hv
  · rw [h1] at hv; injection hv with hv; subst hv
    simp [Instr.lookup, hu, hg, run_checkKey ht, h2]
/-- 'm[p] = v' of a new entry. -/
theorem run_pput {mt t e el : TypeId} (hm : P.underlying mt = some (.map t el)) (ht : P.underlying t = some (.pointer e)) (he : ∀ w, (sizeOf e).run P w = .ok 3 w) {b : Nat} {l : List (Option Nat × Value)} (h : PMap w b l) {k : Option Nat} (v : Value)
    (hk : okKey w k) (hok : ∀ x ∈ l, okKey w x.1) (hv : l.lookup k = none) :
    ∃ w', (Instr.mapUpdate mt (.map (some b)) (pk k) v).run P w = .ok () w' ∧ PMap w' b (l ++ [(k, v)]) ∧ w'.heap.size = w.heap.size ∧ w'.os = w.os ∧ w'.tape = w.tape ∧ w'.output = w.output ∧ ∀ j, j ≠ b → w'.heap[j]? = w.heap[j]? := by
  obtain ⟨es, clock, hb, hl⟩ := h
  have hu := run_underlying (w := w) hm
  have hg := MapKept.run_getObj_map (P := P) hb
  rcases run_findKey ht he hk es.toList l hl hok with ⟨h1, h2⟩ | ⟨j, v', h1, h2⟩
  · have hs := MapKept.run_setObj_map (P := P) (.map (es.push { key := pk k, val := v, born := clock }) (clock + 1)) hb
    refine ⟨{ w with heap := w.heap.setIfInBounds b (.map (es.push { key := pk k, val := v, born := clock }) (clock + 1)) }, by simp [Instr.mapUpdate, hu, hg, run_checkKey ht, h2, hs], ⟨es.push { key := pk k, val := v, born := clock }, clock + 1, ?_, by simp [hl]⟩, by simp, rfl, rfl, rfl, fun j hj => ?_⟩
    · have := (Array.getElem?_eq_some_iff.1 hb).1
      simp [this]
    · simp [Ne.symm hj]
  · rw [h1] at hv; cases hv
end
end Go.Proofs.YtgjcfkadioblfaaGreat
namespace Go.Proofs.YtgjcfkadioblfaaGreat
open Go.RowKit Go.Deep
theorem Tryz.sizeNd : ∀ w, (Go.sizeOf 97).run Tryz.prog w = .ok 3 w := Tryz.sizeOf97
/-- What lies outside the forest lies as it lay. -/
structure FUp (n : Nat) (A : Nat → Nat) (kv : Nat → Value) (w w' : World) : Prop where
  os : w'.os = w.os
  tape : w'.tape = w.tape
  output : w'.output = w.output
  size : w.heap.size ≤ w'.heap.size
  block : ∀ b, b < w.heap.size → (∀ i, i < n → b ≠ A i) → (∀ i, i < n → (kv i).ownBlock ≠ some b) → w'.heap[b]? = w.heap[b]?
section
variable {n base : Nat} {A : Nat → Nat} {kv : Nat → Value} {F : Frs} {a b c : World}
theorem FUp.refl (n : Nat) (A : Nat → Nat) (kv : Nat → Value) (w : World) : FUp n A kv w w := ⟨rfl, rfl, rfl, Nat.le_refl _, fun _ _ _ _ => rfl⟩
theorem FUp.trans (h : FUp n A kv a b) (k : FUp n A kv b c) : FUp n A kv a c :=
  ⟨k.os.trans h.os, k.tape.trans h.tape, k.output.trans h.output, Nat.le_trans h.size k.size, fun j hj h1 h2 => (k.block j (Nat.lt_of_lt_of_le hj h.size) h1 h2).trans (h.block j hj h1 h2)⟩
theorem FUp.of_up (h : Up a b) : FUp n A kv a b := ⟨h.os, h.tape, h.output, h.size, fun j hj _ _ => Below.block h j hj⟩
theorem FUp.below (h : FUp n A kv a b) (hF : FAt base n A kv F a) (hb : base ≤ a.heap.size) : Below base a b :=
  ⟨h.os, h.tape, h.output, h.size, fun j hj => h.block j (by omega) (fun i hi e => by have := hF.lo i hi; omega) (fun i hi e => by have := (hF.ownlt hi e).1; omega)⟩
end
set_option maxRecDepth 100000 in
set_option maxHeartbeats 400000 in
theorem sorted1_t (w : World) (bx m0 x y : Nat) (l : List (Option Nat × Value)) (sx sy : ByteArray) (hbx : w.cell? ⟨bx, 0, none⟩ = some (.map (some m0))) (hm : PMap w m0 l) (hok : ∀ z ∈ l, okKey w z.1) (hx : Plain w x) (hy : Plain w y)
    (h1 : l.lookup (some x) = some (.string sx)) (h2 : l.lookup (some y) = some (.string sy)) :
    Calls Tryz.prog 155 #[.pointer (some ⟨x, 0, none⟩), .pointer (some ⟨y, 0, none⟩), .pointer (some ⟨bx, 0, none⟩)] w fun e w' => e = .returned (.int .i64 (cmpS sx sy)) ∧ w = w' := by
  have g1 := run_pget (P := Tryz.prog) Tryz.underlying183 Tryz.underlying95 Tryz.sizeNd hm (k := some x) hx hok h1
  have g2 := run_pget (P := Tryz.prog) Tryz.underlying183 Tryz.underlying95 Tryz.sizeNd hm (k := some y) hy hok h2
  simp only [pk] at g1 g2
  clear hm hok hx hy h1 h2
  go_enter Tryz.func155, Tryz.ntmps155
  go_wp2_with (go_at_call 156; refine (Tryz.strings_Compare sx sy _).mono ?_; rintro e w' ⟨rfl, rfl⟩)
  go_ret
  exact ⟨rfl, rfl⟩
end Go.Proofs.YtgjcfkadioblfaaGreat
