/- Check, for names of any size. SharederrorClades, plain: Restrict keeps the whole tree, Consistent finds every group. SharederrorClades: what its loops keep in memory. -/
import Derived.Test.YtcaialhoclodjaaGreatQ2
import Derived.Test.YtcaialhoclodjaaGreatQ23
import Derived.Test.YtcaialhoclodjaaGreatQ24
import Derived.Test.YtcaialhoclodjaaGreatQ17
namespace Go.Proofs.YtcaialhoclodjaaGreat
open Go.RowKit Go.Deep
set_option maxHeartbeats 400000 in
theorem letters9_t (s : ByteArray) (hs : s.size ≤ 9223372036854775807) (w : World) : Calls Tryz.prog 115 #[.string s] w fun e w' => e = .returned (.int .i64 (cntA s.data.toList)) ∧ w = w' := by
  go_enter Tryz.func115, Tryz.ntmps115
  go_wp2
  go_loop [3, 4, 5, 8] (fun n _ _ i => ∃ k : Nat, k ≤ s.size ∧ i = .int .i64 k ∧ n = .int .i64 (cntA (s.data.toList.take k))) (fun _ _ _ i => s.size - (intOf i).toNat)
  case atStart => exact ⟨0, Nat.zero_le _, rfl, rfl⟩
  case round =>
    obtain ⟨k, hk, rfl, rfl⟩ := hrel
    have hb : cntA (s.data.toList.take k) ≤ k := Nat.le_trans (cntA_le _) (by simp; omega)
    by_cases hlt : k < s.size
    · have hst := letters_step s k hlt
      have hk' := kind_aln s[k]
      have hc : s[k].toNat < 256 := s[k].toNat_lt
      generalize hm : cntA (s.data.toList.take k) = m at *
      have HS := Lib.hid hst
      have HK := Lib.hid hk'
      clear hst hm hk'
      go_wp2_with (go_at_call 132; refine (kind_t _ hc _).mono ?_; rintro e w' ⟨rfl, rfl⟩; generalize kindL _ = q at *)
      all_goals
        go_round
        case rel => exact ⟨k + 1, by omega, by go_num, by rw [HS.out]; first | (rw [if_pos (HK.out.1 (by first | omega | (simp only [beq_iff_eq] at *; omega)))]; go_num) | (rw [if_neg (fun h => by have := HK.out.2 h; simp only [beq_eq_false_iff_ne, ne_eq] at *; omega)]; go_num)⟩
        case measure => simp [intOf]; omega
    · go_wp2
      go_ret
      exact ⟨ret_int (by rw [List.take_of_length_le (by simp; omega)]), rfl⟩
set_option maxHeartbeats 400000 in
theorem isName9_t (s : ByteArray) (hs : s.size ≤ 9223372036854775807) (w : World) : Calls Tryz.prog 82 #[.string s] w fun e w' => e = .returned (.bool (isNameB s.data.toList)) ∧ w = w' := by
  have hl : s.data.toList.length = s.size := by simp
  have ha := cntA_all s.data.toList
  have hle := cntA_le s.data.toList
  have he : s.data.toList = [] ↔ s.size = 0 := by rw [← List.length_eq_zero_iff, hl]
  rw [hl] at ha hle
  have HA := Lib.hid ha
  have HL := Lib.hid hl
  have HE := Lib.hid he
  clear ha hl he
  have hE1 := toList_nil s
  have hfin : isNameB s.data.toList = decide (1 ≤ s.size ∧ s.size ≤ 16 ∧ cntA s.data.toList = s.size) := by
    unfold isNameB; rw [HL.out, Bool.eq_iff_iff]; simp only [Bool.and_eq_true, decide_eq_true_eq]; rw [← HA.out, and_assoc]
  have HF := Lib.hid hfin
  have HE1 := Lib.hid hE1
  clear hfin hE1 HA HL HE
  generalize hm : cntA s.data.toList = m at *
  have HM := Lib.hid hm
  clear hm
  go_enter Tryz.func82, Tryz.ntmps82
  go_wp2_with (go_at_call 115; refine (letters9_t _ hs _).mono ?_; rintro e w' ⟨rfl, rfl⟩; rw [HM.out])
  all_goals go_ret
  all_goals refine ⟨ret_bool ?_, rfl⟩
  all_goals rw [HF.out]
  · have := HE1.out.1 ‹_›; simp; omega
  · have hne : ¬ s.size = 0 := fun h => ‹¬ s.toList = []› (HE1.out.2 h)
    have hne2 : s.toList.isEmpty = false := by simpa using ‹¬ s.toList = []›
    rw [Bool.eq_iff_iff]; simp [hne2]; omega
  · simp; omega

set_option maxHeartbeats 400000 in
theorem suffix9_t (s : ByteArray) (hs : s.size ≤ 9223372036854775807) (w : World) : Calls Tryz.prog 81 #[.string s, .string ⟨#[42]⟩] w fun e w' => CutPost s e ∧ w = w' := by
  by_cases h0 : s.size = 0
  · have hc : s.data.toList = [] := by rw [← toList_data]; exact (toList_nil s).2 h0
    have HC := Lib.hid hc
    clear hc
    go_enter Tryz.func81, Tryz.ntmps81
    go_wp2
    go_ret2
    exact ⟨.inr ⟨by rw [HC.out]; simp, rfl⟩, rfl⟩
  · have h1 : 1 ≤ s.size := by omega
    clear h0
    go_enter Tryz.func81, Tryz.ntmps81
    go_wp2
    · go_ret2
      refine ⟨.inr ⟨fun e => ?_, rfl⟩, rfl⟩
      have := (star_iff s h1).2 e
      simp_all
    · go_ret2
      have h2 := ‹(!(s.extract (s.size - 1) s.size).toList == [42]) = false›
      exact ⟨.inl ⟨(star_iff s h1).1 (by simpa using h2), s.extract 0 (s.size - 1), by simp, cut_star s, rfl⟩, rfl⟩
set_option maxHeartbeats 400000 in
theorem named9_t (s : ByteArray) (hs : s.size ≤ 9223372036854775807) (w : World) : Calls Tryz.prog 60 #[.string s] w fun e w' => e = .returned (.bool (namedB s.data.toList)) ∧ w = w' := by
  have hl := size_data s
  have HL := Lib.hid hl
  clear hl
  go_enter Tryz.func60, Tryz.ntmps60
  go_wp2_with fail
  refine (suffix9_t s hs _).mono ?_
  rintro e w' ⟨⟨h1, r, hr, hd, rfl⟩ | ⟨h1, rfl⟩, rfl⟩
  · have hf : namedB s.data.toList = (decide (s.size ≤ 16) && isNameB r.data.toList) := by
      unfold namedB; rw [if_pos h1, hd, HL.out, Bool.and_comm]
    have HF := Lib.hid hf
    clear hf hd h1
    go_wp2_with (go_at_call 82; refine (isName9_t r (by omega) _).mono ?_; rintro e w' ⟨rfl, rfl⟩)
    all_goals
      go_ret
      refine ⟨ret_bool ?_, rfl⟩
      rw [HF.out, Bool.eq_iff_iff]
      simp at *
      try omega
  · have hf : namedB s.data.toList = isNameB s.data.toList := by unfold namedB; rw [if_neg h1]
    have HF := Lib.hid hf
    clear hf h1
    go_wp2_with (go_at_call 82; refine (isName9_t s hs _).mono ?_; rintro e w' ⟨rfl, rfl⟩)
    go_ret
    exact ⟨ret_bool (by rw [HF.out]), rfl⟩
set_option maxRecDepth 100000 in
set_option maxHeartbeats 800000 in
theorem check9_t (S : Nat → Prop) (w : World) (v : Value) (t : Tre) (h : TreeAt S w v t) (hp : t.ps.length ≤ 1000000) (hn : t.ns.length ≤ 9223372036854775807) (hz : ∀ k, (gs t.ns k).size ≤ 9223372036854775807) :
    Calls Tryz.prog 25 #[v] w fun e w' => e = .returned (.int .i64 (treeErr t)) ∧ Below w.heap.size w w' := by
  obtain ⟨P, N, rfl, hP, hN⟩ := h
  obtain ⟨ps, ns⟩ := t
  simp only at *
  have hfin : treeErr ⟨ps, ns⟩ = if ps.length = 0 then 5 else if 64 < ps.length then 4 else if ns.length ≠ ps.length then 9 else if pOkB ps then firstNZ (nErr ps ns) ps.length else 2 := rfl
  have HF := Lib.hid hfin
  clear hfin
  have hP' := hP.keep (Kept.below ((Below.refl _ w).alloc (Nat.le_refl _) (.cells #[P, N] 25)))
  have hN' := hN.keep (Kept.below ((Below.refl _ w).alloc (Nat.le_refl _) (.cells #[P, N] 25)))
  clear hP hN
  obtain ⟨p, cap, rfl, hcap, HP⟩ := SlAt.open hP'
  obtain ⟨q, cap2, rfl, hcap2, HN⟩ := SlAt.open hN'
  have hbx : Below w.heap.size w (w.alloc (.cells #[.slice p ps.length cap, .slice q ns.length cap2] 25)) := (Below.refl _ _).alloc (Nat.le_refl _) _
  have HPh := Lib.hid HP
  have HNh := Lib.hid HN
  clear hP' hN' HP HN
  by_cases h0 : ps.length = 0
  · have HX : Hid (ps.length = 0) := h0
    have h0' : ((ps.length : Int) == 0) = true := by simp [h0]
    clear h0
    go_enter Tryz.func25, Tryz.ntmps25
    go_wp2
    go_ret
    exact ⟨ret_int (by rw [HF.out, if_pos HX.out]), hbx⟩
  have h0' : ((ps.length : Int) == 0) = false := by simpa using h0
  by_cases h1 : 64 < ps.length
  · go_enter Tryz.func25, Tryz.ntmps25
    go_wp2
    go_ret
    exact ⟨ret_int (by rw [HF.out, if_neg h0, if_pos h1]), hbx⟩
  by_cases h2 : ns.length = ps.length
  · have h2' : ((ns.length : Int) != ps.length) = false := by simp [h2]
    have H2 := Lib.hid h2
    clear h2
    have hmk := fun W => run_make_row' (P := Tryz.prog) 95 4 (.bool false) 1 Tryz.underlying95 Tryz.infoB rfl .i64 .i64 ps.length (by omega) (by omega) W
    go_enter Tryz.func25, Tryz.ntmps25
    go_wp2
    clear hmk hbx
    have hstart := CkW.start (w.alloc (.cells #[.slice p ps.length cap, .slice q ns.length cap2] 25)) ps.length (fun j => inK ps 0 j) (fun j => rfl)
    rw [World.size_alloc] at hstart
    have hcp : (w.alloc (.cells #[.slice p ps.length cap, .slice q ns.length cap2] 25)).cell? ⟨w.heap.size, 0, none⟩ = some (.slice p ps.length cap) := by simp [World.cell?_alloc_new]
    have hcq : (w.alloc (.cells #[.slice p ps.length cap, .slice q ns.length cap2] 25)).cell? ⟨w.heap.size, 1, none⟩ = some (.slice q ns.length cap2) := by simp [World.cell?_alloc_new]
    have hb0 : Below w.heap.size w (w.alloc (.cells #[.slice p ps.length cap, .slice q ns.length cap2] 25)) := (Below.refl _ _).alloc (Nat.le_refl _) _
    have hsz : (w.alloc (.cells #[.slice p ps.length cap, .slice q ns.length cap2] 25)).heap.size = w.heap.size + 1 := by simp
    generalize hw0 : w.alloc (.cells #[.slice p ps.length cap, .slice q ns.length cap2] 25) = w0 at *
    clear hw0
    have HS := Lib.hid hsz
    have HCP := Lib.hid hcp
    have HCQ := Lib.hid hcq
    clear hsz hcp hcq
    go_loopw [4, 5, 33] (fun _ _ i wr => ∃ k : Nat, k ≤ ps.length ∧ i = .int .i64 k ∧ Hid (∀ j, j < k → okp j (gi ps j) = true) ∧ CkW w0 wr (w.heap.size + 1) ps.length (fun j => inK ps k j)) (fun _ _ i _ => ps.length - (intOf i).toNat)
    case atStart => exact ⟨0, Nat.zero_le _, rfl, fun j hj => absurd hj (Nat.not_lt_zero _), hstart⟩
    case round =>
      obtain ⟨k, hk, rfl, hd, hW⟩ := hrel
      clear hstart
      by_cases hlt : k < ps.length
      · obtain ⟨b, off, rfl, hc0⟩ := HPh.out k hlt
        have hc : wr.cell? ⟨b, off + k, none⟩ = some (.int .i64 (gi ps k)) := by
          rw [hW.below.cell (p := ⟨b, off + k, none⟩) (by have := World.block_lt_of_cell? _ _ hc0; have := HS.out; simp at *; omega)]; exact hc0
        clear hc0
        generalize hpk : gi ps k = x at *
        have HX := Lib.hid hpk
        clear hpk
        by_cases hg : 0 < k ∧ 0 ≤ x ∧ x < k
        · obtain ⟨g1, g2, g3⟩ := hg
          obtain ⟨y, rfl⟩ := Int.eq_ofNat_of_zero_le g2
          have hi1 := hW.row.cell (i := y) (by omega)
          have hi2 := hW.row.frozen y
          go_wp2
          go_roundw
          case rel => exact ⟨k + 1, by omega, by go_num, fun j hj => if e : j = k then by subst e; rw [HX.out]; unfold okp; rw [if_neg (by omega)]; simp; omega else hd.out j (by omega), hW.set (q := y) fun j => by rw [inK_succ, HX.out]; simp only [g1, decide_true, Bool.true_and]; congr 1; rw [Bool.eq_iff_iff]; simp; omega⟩
          case measure => simp [intOf]; omega
        · by_cases h00 : k = 0 ∧ x = -1
          · obtain ⟨rfl, rfl⟩ := h00
            have hc' : wr.cell? ⟨b, off, none⟩ = some (.int .i64 (-1)) := by simpa using hc
            go_wp2
            go_roundw
            case rel => exact ⟨1, by omega, by go_num, fun j hj => by obtain rfl : j = 0 := by omega
                                                                      rw [HX.out]; rfl, hW.congr fun j => by rw [inK_succ]; simp⟩
            case measure => simp [intOf]; omega
          · have hbad : okp k x = false := by
              unfold okp; split
              · rename_i e; simp; exact fun e2 => h00 ⟨e, e2⟩
              · simp; intro; omega
            rw [← HX.out] at hbad
            have HB := Lib.hid (pOkB_bad hlt hbad)
            clear hbad
            go_wp2
            all_goals go_ret
            all_goals exact ⟨ret_int (by rw [HF.out, if_neg h0, if_neg h1, if_neg (by rw [H2.out]; simp), HB.out]; simp), hb0.trans (hW.below.mono (by omega))⟩
      · obtain rfl : k = ps.length := by omega
        have hok := Lib.hid (pOkB_all hd.out)
        have hcx : wr.cell? ⟨w.heap.size, 1, none⟩ = some (.slice q ns.length cap2) := by
          rw [hW.below.cell (p := ⟨w.heap.size, 1, none⟩) (by simp)]; exact HCQ.out
        clear hlt hk hd HPh hcap
        go_wp2
        go_loop [6, 7, 66] (fun _ _ i => ∃ k : Nat, k ≤ ps.length ∧ i = .int .i64 k ∧ Hid (∀ j, j < k → nErr ps ns j = 0)) (fun _ _ i => ps.length - (intOf i).toNat)
        case atStart => exact ⟨0, Nat.zero_le _, rfl, fun j hj => absurd hj (Nat.not_lt_zero _)⟩
        case round =>
          obtain ⟨k, hk, rfl, hd⟩ := hrel
          have hlen : ns.length ≤ ps.length ∧ ps.length ≤ ns.length := by have := H2.out; omega
          obtain ⟨hl1, hl2⟩ := hlen
          by_cases hlt : k < ps.length
          · obtain ⟨b, off, rfl, hc0⟩ := HNh.out k (by have := H2.out; omega)
            have hpre : SlAt Any wr (.slice (some ⟨b, off, none⟩) k cap2) k (fun j => .string (gs ns j)) := by
              refine ⟨_, _, rfl, by omega, .inr ⟨b, off, rfl, trivial, fun j hj => ?_⟩⟩
              obtain ⟨b', off', e, hcj⟩ := HNh.out j (by omega)
              cases e
              rw [hW.below.cell (p := ⟨b, off + j, none⟩) (by have := World.block_lt_of_cell? _ _ hcj; have := HS.out; simp at *; omega)]; exact hcj
            have hc : wr.cell? ⟨b, off + k, none⟩ = some (.string (gs ns k)) := by
              rw [hW.below.cell (p := ⟨b, off + k, none⟩) (by have := World.block_lt_of_cell? _ _ hc0; have := HS.out; simp at *; omega)]; exact hc0
            clear hc0
            have hi1 := hW.row.cell (i := k) (by omega)
            have hsk : (List.range k).any (fun j => decide (gs ns k = gs ns j)) = seenK ns k := by
              unfold seenK; congr 1; funext j; exact decide_eq_decide.2 eq_comm
            have HSK := Lib.hid hsk
            clear hsk
            have hzk := hz k
            have hne : nErr ps ns k = if isIn ps k then (if (gs ns k).size = 0 then 0 else 14) else if namedB (gs ns k).data.toList then (if seenK ns k then 7 else 0) else 14 := rfl
            have hnil := toList_nil (gs ns k)
            have hend : nErr ps ns k ≠ 0 → treeErr ⟨ps, ns⟩ = nErr ps ns k := fun hn0 => by
              rw [HF.out, if_neg h0, if_neg h1, if_neg (by rw [H2.out]; simp), hok.out, if_pos rfl]; exact firstNZ_at hlt hd.out hn0
            have HE := Lib.hid hne
            have HEND := Lib.hid hend
            have HNIL := Lib.hid hnil
            have hW' := Lib.hid hW
            clear hne hend hnil HNh hz hW
            have hi2 : inK ps ps.length k = isIn ps k := rfl
            rw [hi2] at hi1
            clear hi2
            generalize hin : isIn ps k = bi at *
            generalize hnm : namedB (gs ns k).data.toList = bn at *
            generalize hsn : seenK ns k = bs at *
            generalize hgk : gs ns k = g at *
            have HNM := Lib.hid hnm
            clear hin hnm hsn hgk
            cases bi
            · cases bn
              · go_wp2_with (first | (go_at_call 60; refine (named9_t _ hzk _).mono ?_; rintro e w' ⟨rfl, rfl⟩; rw [HNM.out]) | (go_at_call 61; refine (contains_str_t Any _ _ k (fun j => gs ns j) _ hpre (by omega)).mono ?_; rintro e w' ⟨rfl, rfl⟩; rw [HSK.out]))
                go_ret
                exact ⟨ret_int (by rw [HEND.out (by rw [HE.out]; simp), HE.out]; simp), hb0.trans (hW'.out.below.mono (by omega))⟩
              · cases bs
                · go_wp2_with (first | (go_at_call 60; refine (named9_t _ hzk _).mono ?_; rintro e w' ⟨rfl, rfl⟩; rw [HNM.out]) | (go_at_call 61; refine (contains_str_t Any _ _ k (fun j => gs ns j) _ hpre (by omega)).mono ?_; rintro e w' ⟨rfl, rfl⟩; rw [HSK.out]))
                  go_round
                  case rel => exact ⟨k + 1, by omega, by go_num, fun j hj => if e : j = k then by subst e; rw [HE.out]; simp else hd.out j (by omega)⟩
                  case measure => simp [intOf]; omega
                · go_wp2_with (first | (go_at_call 60; refine (named9_t _ hzk _).mono ?_; rintro e w' ⟨rfl, rfl⟩; rw [HNM.out]) | (go_at_call 61; refine (contains_str_t Any _ _ k (fun j => gs ns j) _ hpre (by omega)).mono ?_; rintro e w' ⟨rfl, rfl⟩; rw [HSK.out]))
                  go_ret
                  exact ⟨ret_int (by rw [HEND.out (by rw [HE.out]; simp), HE.out]; simp), hb0.trans (hW'.out.below.mono (by omega))⟩
            · by_cases hg0 : g.size = 0
              · have hg1 : g.toList = [] := HNIL.out.2 hg0
                have hg2 : (!g.toList.isEmpty) = false := by simp [hg1]
                have HG0 := Lib.hid hg0
                clear hg0
                go_wp2_with (first | (go_at_call 60; refine (named9_t _ hzk _).mono ?_; rintro e w' ⟨rfl, rfl⟩; rw [HNM.out]) | (go_at_call 61; refine (contains_str_t Any _ _ k (fun j => gs ns j) _ hpre (by omega)).mono ?_; rintro e w' ⟨rfl, rfl⟩; rw [HSK.out]))
                go_round
                case rel => exact ⟨k + 1, by omega, by go_num, fun j hj => if e : j = k then by subst e; rw [HE.out]; simp [HG0.out] else hd.out j (by omega)⟩
                case measure => simp [intOf]; omega
              · have hg1 : (g.toList == []) = false := by
                  rw [Bool.eq_false_iff]; intro e; exact hg0 (HNIL.out.1 (by simpa using e))
                have hg2 : g.toList.isEmpty = false := by
                  rw [Bool.eq_false_iff]; intro e; exact hg0 (HNIL.out.1 (by simpa using e))
                go_wp2_with (first | (go_at_call 60; refine (named9_t _ hzk _).mono ?_; rintro e w' ⟨rfl, rfl⟩; rw [HNM.out]) | (go_at_call 61; refine (contains_str_t Any _ _ k (fun j => gs ns j) _ hpre (by omega)).mono ?_; rintro e w' ⟨rfl, rfl⟩; rw [HSK.out]))
                go_ret
                exact ⟨ret_int (by rw [HEND.out (by rw [HE.out]; simp [hg0]), HE.out]; simp [hg0]), hb0.trans (hW'.out.below.mono (by omega))⟩
          · have hk2 : k = ps.length := by omega
            clear hlt
            go_wp2
            go_ret
            exact ⟨ret_int (by rw [HF.out, if_neg h0, if_neg h1, if_neg (by rw [H2.out]; simp), hok.out, if_pos rfl, firstNZ_zero fun j hj => hd.out j (by omega)]), hb0.trans (hW.below.mono (by omega))⟩
  · have h2' : ((ns.length : Int) != ps.length) = true := by simp; omega
    go_enter Tryz.func25, Tryz.ntmps25
    go_wp2
    go_ret
    exact ⟨ret_int (by rw [HF.out, if_neg h0, if_neg h1, if_pos h2]), hbx⟩
theorem tree_small {t : Tre} (h : treeErr t = 0) : ∀ k, (gs t.ns k).size ≤ 70000 := fun k => by
  obtain ⟨_, _, hl, _, hne⟩ := treeErr_zero h
  by_cases hk : k < t.ps.length
  · have h1 := hne k hk
    unfold nErr at h1
    split at h1
    · split at h1
      · omega
      · cases h1
    · split at h1
      · rename_i hn
        have hsz : (gs t.ns k).data.toList.length = (gs t.ns k).size := by simp
        rw [← hsz]
        unfold namedB at hn
        split at hn
        · simp only [Bool.and_eq_true, decide_eq_true_eq] at hn
          omega
        · unfold isNameB at hn
          simp only [Bool.and_eq_true, decide_eq_true_eq] at hn
          omega
      · cases h1
  · have : gs t.ns k = ByteArray.empty := by unfold gs; rw [List.getD_eq_getElem?_getD, List.getElem?_eq_none (by omega)]; rfl
    rw [this]; exact Nat.zero_le _
end Go.Proofs.YtcaialhoclodjaaGreat
namespace Go.Proofs.YtcaialhoclodjaaGreat
section
variable {t : Tre}
end
end Go.Proofs.YtcaialhoclodjaaGreat
namespace Go.Proofs.YtcaialhoclodjaaGreat
open Go.RowKit Go.Deep
section
variable {P : Program} {ops : Array Oper} {rest : List Oper} {o : Oper} {a : Act} {Q : Exit → Act → World → Prop}
/-- 'out = append(out, u)', the world's size said. -/
theorem wpList_appGM (W : World) (hgd : o.guard = none) (s x : Operand) (t : TypeId) (ho : o.op = .call { callee := .builtin .append, args := #[s, x], argTypes := #[t, t] })
    (base : Nat) (e : TypeId) (z : Value) (bytes : Nat) (ht : P.underlying t = some (.slice e)) (hinfo : (P.info? e).map (fun i => (i.zero, i.size, i.bytes)) = some (some z, 1, bytes))
    (hz1 : z.cells.size = 1) (hb8 : bytes ≤ 64) {v : Value} {vs : List Value} (hown : Owns base e W v vs) (hs : a.eval s = v) (u : Value) (m : Nat) (hm : W.heap.size = m)
    (hx : a.eval x = .slice (some ⟨m, 0, none⟩) 1 1) (h1 : u.oneCell' = true) (k : Nat) (hvn : vs.length = k) (hn : k ≤ 1000000) (hbase : base ≤ W.heap.size)
    (h : ∀ g cap w', Owns base e w' (.slice (some ⟨g, 0, none⟩) (k + 1) cap) (vs ++ [u]) → W.grownBy w' v.ownBlock → (v.ownBlock = some g ∨ W.heap.size ≤ g) → wpList P ops Q rest (a.put o.dst (.slice (some ⟨g, 0, none⟩) (k + 1) cap)) w') :
    wpList P ops Q (o :: rest) a (W.alloc (.cells #[u] e)) := by
  subst hm
  exact wpList_appG W hgd s x t ho base e z bytes ht hinfo hz1 hb8 hown hs u hx h1 k hvn hn hbase h
end
/-- The tree under way: its parents given, its names grow in its cell. -/
structure ClW (w2 wr : World) (tb : Nat) (pv nv : Value) (xs : List ByteArray) : Prop where
  box : wr.heap[tb]? = some (Obj.cells #[pv, nv] 25 (0, 0))
  own : Owns (tb + 1) 9 wr nv (xs.map Value.string)
  up : Up w2 wr
  lo : tb = w2.heap.size ∧ tb + 1 ≤ wr.heap.size
section
variable {w2 wr wx w' : World} {tb : Nat} {pv nv v : Value} {xs : List ByteArray}
theorem ClW.start (w2 : World) (pv : Value) : ClW w2 (w2.alloc (.cells #[pv, .slice none 0 0] 25)) w2.heap.size pv (.slice none 0 0) [] :=
  ⟨blk_alloc_new _ _, Owns.nil _ _ _, Up.alloc _ _, rfl, by rw [World.size_alloc]; exact Nat.le_refl _⟩
theorem ClW.cells (h : ClW w2 wr tb pv nv xs) : wr.cell? ⟨tb, 0, none⟩ = some pv ∧ wr.cell? ⟨tb, 1, none⟩ = some nv ∧ wr.frozen? ⟨tb, 0, none⟩ = false ∧ wr.frozen? ⟨tb, 1, none⟩ = false := by
  refine ⟨?_, ?_, ?_, ?_⟩ <;> simp [World.cell?, World.frozen?, h.box]
theorem ClW.grown (h : ClW w2 wr tb pv nv xs) (hg : wr.grownBy w' nv.ownBlock) : w'.heap[tb]? = some (Obj.cells #[pv, nv] 25 (0, 0)) :=
  (hg.block tb (by have := h.lo; omega) fun e => by have := (ownBlock_lt h.own e.symm).1; omega).trans h.box
theorem ClW.push {s : ByteArray} (h : ClW w2 wr tb pv nv xs) (ho : Owns (tb + 1) 9 w' v (xs.map Value.string ++ [.string s])) (hg : wr.grownBy w' nv.ownBlock) :
    (w'.cell? ⟨tb, 1, none⟩ = some nv ∧ w'.frozen? ⟨tb, 1, none⟩ = false) ∧ ClW w2 (w'.setCell ⟨tb, 1, none⟩ v) tb pv v (xs ++ [s]) := by
  have hb := h.grown hg
  refine ⟨⟨by simp [World.cell?, hb], by simp [World.frozen?, hb]⟩, ?_, ?_, ?_, h.lo.1, by rw [World.size_setCell]; exact Nat.le_trans h.lo.2 hg.size⟩
  · simp [World.setCell, Array.getElem?_modify, hb]
  · rw [List.map_append]
    exact ho.same2 fun b hb2 => blk_setCell_other _ _ _ _ (show b ≠ tb by have := (ownBlock_lt ho hb2).1; omega)
  · refine ⟨hg.os.trans h.up.os, hg.tape.trans h.up.tape, hg.output.trans h.up.output, by rw [World.size_setCell]; exact Nat.le_trans h.up.size hg.size, fun b hb2 => ?_⟩
    rw [blk_setCell_other _ _ _ _ (show b ≠ tb by have := h.lo.1; omega)]
    refine (hg.block b (Nat.lt_of_lt_of_le hb2 h.up.size) fun e => ?_).trans (Below.block h.up b hb2)
    have := (ownBlock_lt h.own e.symm).1
    have := h.lo.1
    omega
end
section
variable {w3 wr wx w' : World} {d a : Value} {gs : List Grp} {svs : List Value} {xs : List Int}
end
end Go.Proofs.YtcaialhoclodjaaGreat
