/- Names, as layer 1's and layer 31's references have them: Check, IsWord, IsName, named. The contract of layer 31's reference's Check. The contract of layer 31's reference's Canonical. Sets of sources as numbers: of, within, conflict, sources. -/
import Derived.Test.YtgjcfkadioblfaaGreatQ4
import Derived.Test.YtgjcfkadioblfaaGreatQ16
import Derived.Test.YtgjcfkadioblfaaGreatQ17
import Derived.Test.YtgjcfkadioblfaaGreatQ13
import Derived.Test.YtgjcfkadioblfaaGreatQ14
import Derived.Laws.Bits64b
import Derived.Laws.BitsAllLaws
namespace Go.Proofs.YtgjcfkadioblfaaGreat
open Go.RowKit Go.Deep
def CkRPost (w : World) (s : ByteArray) (e : Ending) (w' : World) : Prop := Below w.heap.size w w' ∧ ∃ r, e = .returned (.int .i64 r) ∧ (s.data.toList.all aln = true → r = 0)
theorem all_at {s : ByteArray} (h : s.data.toList.all aln = true) {k : Nat} (hk : k < s.size) : aln s[k] = true :=
  List.all_eq_true.1 h _ (by rw [Array.mem_toList_iff]; exact Array.getElem_mem _)
set_option maxRecDepth 100000 in
set_option maxHeartbeats 400000 in
theorem ckR_t (s : ByteArray) (hs : s.size ≤ 1000) (w : World) : Calls Tryz.prog 181 #[.string s] w (CkRPost w s) := by
  go_enter Tryz.func181, Tryz.ntmps181
  go_wp2_with fail
  refine (right_t s hs _).mono ?_
  rintro e w1 ⟨hb, v, bs, rfl, hbl, hsl⟩
  obtain ⟨p, cap, rfl, hcap, H⟩ := hsl.open
  have HH := Lib.hid H
  clear H hsl hbl
  go_wp2_with fail
  go_loop [4, 5] (fun i _ => ∃ k : Nat, k ≤ s.size ∧ i = .int .i64 k) (fun i _ => s.size - (intOf i).toNat)
  case atStart => exact ⟨0, Nat.zero_le _, rfl⟩
  case round =>
    obtain ⟨k, hk, rfl⟩ := hrel
    by_cases hlt : k < s.size
    · obtain ⟨b, off, rfl, hc⟩ := HH.out k hlt
      have hka : s.data.toList.all aln = true → kindL s[k].toNat = 1 ∨ kindL s[k].toNat = 3 := fun h => (kind_aln s[k]).2 (all_at h hlt)
      have HKA := Lib.hid hka
      clear HH hka
      go_wp2_with (go_at_call 182; refine (kindR_t _ (UInt8.toNat_lt _) _).mono ?_; rintro e w' ⟨rfl, rfl⟩; generalize kindL _ = q at *)
      all_goals first | (go_round; (case rel => exact ⟨k + 1, by omega, by go_num⟩); (case measure => simp [intOf]; omega)) | (go_ret; exact ⟨hb, _, rfl, fun h => by have := HKA.out h; simp at *; omega⟩)
    · clear HH
      go_wp2_with fail
      go_ret
      exact ⟨hb, _, rfl, fun _ => rfl⟩
def IwPost (w : World) (s : ByteArray) (e : Ending) (w' : World) : Prop := Below w.heap.size w w' ∧ ∃ b, e = .returned (.bool b) ∧ (s.data.toList.all aln = true → 1 ≤ s.size → b = true) ∧ (s.size = 0 → b = false)
set_option maxRecDepth 100000 in
set_option maxHeartbeats 400000 in
theorem isWordR_t (s : ByteArray) (hs : s.size ≤ 16) (w : World) : Calls Tryz.prog 164 #[.string s] w (IwPost w s) := by
  by_cases h0 : s.size < 1
  · go_enter Tryz.func164, Tryz.ntmps164
    go_wp2_with fail
    go_ret
    exact ⟨Below.refl _ _, _, rfl, fun _ h => by omega, fun _ => rfl⟩
  · have h0' : ((0 : Nat) < s.size) := by omega
    have hka : s.data.toList.all aln = true → kindL s[0].toNat = 1 ∨ kindL s[0].toNat = 3 := fun h => (kind_aln s[0]).2 (all_at h h0')
    have HKA := Lib.hid hka
    clear hka
    go_enter Tryz.func164, Tryz.ntmps164
    go_wp2_with fail
    refine (ckR_t s (by omega) _).mono ?_
    rintro e w1 ⟨hb, r, rfl, hr⟩
    have HR := Lib.hid hr
    clear hr
    go_wp2_with (go_at_call 182; refine (kindR_t _ (UInt8.toNat_lt _) _).mono ?_; rintro e w' ⟨rfl, rfl⟩; generalize kindL _ = q at *)
    all_goals first
      | (go_ret; exact ⟨hb, _, rfl, fun h _ => (by exfalso; have h1 := HKA.out h; have h2 := HR.out h; subst h2; simp at *; omega), fun _ => rfl⟩)
      | skip
    all_goals
      clear HR
      go_loop [4] (fun i => ∃ k : Nat, k ≤ s.size ∧ i = .int .i64 k) (fun i => s.size - (intOf i).toNat)
      case atStart => exact ⟨0, Nat.zero_le _, rfl⟩
      case round =>
        obtain ⟨k, hk, rfl⟩ := hrel
        by_cases hlt : k < s.size
        · have hka : s.data.toList.all aln = true → kindL s[k].toNat = 1 ∨ kindL s[k].toNat = 3 := fun h => (kind_aln s[k]).2 (all_at h hlt)
          have HKB := Lib.hid hka
          clear hka
          go_wp2_with (go_at_call 182; refine (kindR_t _ (UInt8.toNat_lt _) _).mono ?_; rintro e w' ⟨rfl, rfl⟩; generalize kindL s[k].toNat = y at *)
          all_goals first | (go_round; (case rel => exact ⟨k + 1, by omega, by go_num⟩); (case measure => simp [intOf]; omega)) | (go_ret; exact ⟨hb, _, rfl, fun h _ => (by exfalso; have h1 := HKB.out h; omega), fun _ => rfl⟩)
        · go_wp2_with fail
          go_ret
          exact ⟨hb, _, rfl, fun _ _ => rfl, fun h => by omega⟩
set_option maxRecDepth 100000 in
set_option maxHeartbeats 400000 in
theorem isNameR_t (s : ByteArray) (hs : s.size ≤ 70000) (w : World) : Calls Tryz.prog 128 #[.string s] w fun e w' => e = .returned (.bool (isNameB s.data.toList)) ∧ Below w.heap.size w w' := by
  have hl := size_data s
  have hA := cntA_all s.data.toList
  have hfin : isNameB s.data.toList = decide (1 ≤ s.size ∧ s.size ≤ 16 ∧ cntA s.data.toList = s.size) := by
    unfold isNameB; rw [hl] at hA ⊢; rw [Bool.eq_iff_iff]; simp only [Bool.and_eq_true, decide_eq_true_eq]; rw [← hA, and_assoc]
  rw [hl] at hA
  have HF := Lib.hid hfin
  have HA := Lib.hid hA
  clear hfin hl hA
  by_cases h16 : s.size ≤ 16
  · go_enter Tryz.func128, Tryz.ntmps128
    go_wp2_with fail
    refine (isWordR_t s h16 _).mono ?_
    rintro e w1 ⟨hb, b, rfl, h1, h2⟩
    have H1 := Lib.hid h1
    have H2 := Lib.hid h2
    clear h1 h2
    cases b
    · go_wp2_with fail
      go_ret
      refine ⟨ret_bool ?_, hb⟩
      rw [HF.out, eq_comm, decide_eq_false_iff_not]
      rintro ⟨a1, a2, a3⟩
      have := H1.out (HA.out.1 a3) a1
      cases this
    · go_wp2_with (go_at_call 165; refine (lettersR_t s hs _).mono ?_; rintro e w' ⟨rfl, rfl⟩)
      go_ret
      refine ⟨ret_bool ?_, hb⟩
      have h0 : s.size ≠ 0 := fun e => by have := H2.out e; cases this
      rw [HF.out, Bool.eq_iff_iff]
      simp
      omega
  · go_enter Tryz.func128, Tryz.ntmps128
    go_wp2_with fail
    go_ret
    refine ⟨ret_bool ?_, Below.refl _ _⟩
    rw [HF.out, eq_comm, decide_eq_false_iff_not]; omega
theorem last_get (s : ByteArray) (h : s.size - 1 < s.size) : s.data.toList.getLast? = some s[s.size - 1] := by
  have hl := size_data s
  rw [List.getLast?_eq_getElem?, hl, List.getElem?_eq_getElem (by rw [hl]; exact h)]; rfl
theorem named_star (s : ByteArray) (h : s.size - 1 < s.size) (h16 : s.size ≤ 16) (h42 : ((s[s.size - 1].toNat : Int) == 42) = true) : namedB s.data.toList = isNameB (s.extract 0 (s.size - 1)).data.toList := by
  have hl := size_data s
  have h2 : s[s.size - 1] = 42 := by
    have h3 : (s[s.size - 1].toNat : Int) = 42 := by simpa using h42
    have h4 : s[s.size - 1].toNat = 42 := by omega
    exact UInt8.toNat_inj.1 h4
  unfold namedB; rw [last_get s h, h2, if_pos rfl, cut_star, hl]; simp [h16]
theorem named_plain (s : ByteArray) (h : s.size - 1 < s.size) (h42 : ((s[s.size - 1].toNat : Int) == 42) = false) : namedB s.data.toList = isNameB s.data.toList := by
  unfold namedB; rw [last_get s h, if_neg]
  intro e; injection e with e; rw [e] at h42; simp at h42
theorem named_far (s : ByteArray) (h : 16 < s.size) : namedB s.data.toList = isNameB s.data.toList := by
  have hl := size_data s
  unfold namedB; split
  · rename_i h42
    rw [isNameB_star s.data.toList h42, hl, decide_eq_false (by omega), Bool.and_false]
  · rfl
theorem named_one (s : ByteArray) (h : s.size ≤ 1) : namedB s.data.toList = isNameB s.data.toList := by
  have hl := size_data s
  unfold namedB; split
  · rename_i h42
    rw [isNameB_star s.data.toList h42]
    have : s.data.toList.dropLast = [] := by rw [← List.length_eq_zero_iff, List.length_dropLast]; omega
    rw [this]; rfl
  · rfl
set_option maxRecDepth 100000 in
set_option maxHeartbeats 400000 in
theorem namedR_t (s : ByteArray) (hs : s.size ≤ 70000) (w : World) : Calls Tryz.prog 97 #[.string s] w fun e w' => e = .returned (.bool (namedB s.data.toList)) ∧ Below w.heap.size w w' := by
  go_enter Tryz.func97, Tryz.ntmps97
  go_wp2_with fail
  · have hf := Lib.hid (named_star s (by omega) (by omega) ‹_›)
    refine (isNameR_t _ (by simp; omega) _).mono ?_
    rintro e w1 ⟨rfl, hb⟩
    rw [← hf.out]
    go_wp2_with fail
    go_ret
    exact ⟨rfl, hb⟩
  · have hf := Lib.hid (named_plain s (by omega) ‹_›)
    refine (isNameR_t _ hs _).mono ?_
    rintro e w1 ⟨rfl, hb⟩
    rw [← hf.out]
    go_wp2_with fail
    go_ret
    exact ⟨rfl, hb⟩
  · have hf := Lib.hid (named_far s (by omega))
    refine (isNameR_t _ hs _).mono ?_
    rintro e w1 ⟨rfl, hb⟩
    rw [← hf.out]
    go_wp2_with fail
    go_ret
    exact ⟨rfl, hb⟩
  · have hf := Lib.hid (named_one s (by omega))
    refine (isNameR_t _ hs _).mono ?_
    rintro e w1 ⟨rfl, hb⟩
    rw [← hf.out]
    go_wp2_with fail
    go_ret
    exact ⟨rfl, hb⟩
end Go.Proofs.YtgjcfkadioblfaaGreat
namespace Go.Proofs.YtgjcfkadioblfaaGreat
open Go.RowKit Go.Deep
set_option maxRecDepth 100000 in
set_option maxHeartbeats 1600000 in
theorem checkR_t (S : Nat → Prop) (w : World) (v : Value) (t : Tre) (h : TreeAt S w v t) (hp : t.ps.length ≤ 1000000) (hn : t.ns.length ≤ 1000000) (hz : ∀ k, (gs t.ns k).size ≤ 70000) :
    Calls Tryz.prog 40 #[v] w fun e w' => e = .returned (.int .i64 (treeErr t)) ∧ Below w.heap.size w w' := by
  obtain ⟨P, N, rfl, hP, hN⟩ := h
  obtain ⟨ps, ns⟩ := t
  simp only at *
  have hfin : treeErr ⟨ps, ns⟩ = if ps.length = 0 then 5 else if 64 < ps.length then 4 else if ns.length ≠ ps.length then 9 else if pOkB ps then firstNZ (nErr ps ns) ps.length else 2 := rfl
  have HF := Lib.hid hfin
  clear hfin
  have hbx : Below w.heap.size w (w.alloc (.cells #[P, N] 25)) := (Below.refl _ _).alloc (Nat.le_refl _) _
  have hT0 : TreeAt S (w.alloc (.cells #[P, N] 25)) (.agg #[P, N]) ⟨ps, ns⟩ := TreeAt.keep ⟨P, N, rfl, hP, hN⟩ (Kept.below hbx)
  have hP' := hP.keep (Kept.below hbx)
  have hN' := hN.keep (Kept.below hbx)
  clear hP hN
  obtain ⟨p, cap, rfl, hcap, HP⟩ := SlAt.open hP'
  obtain ⟨q, cap2, rfl, hcap2, HN⟩ := SlAt.open hN'
  have HPh := Lib.hid HP
  have HNh := Lib.hid HN
  have HT0 := Lib.hid hT0
  have HBX := Lib.hid hbx
  clear hP' hN' HP HN hT0 hbx
  by_cases h0 : ps.length = 0
  · have HX : Hid (ps.length = 0) := h0
    have h0' : ((ps.length : Int) == 0) = true := by simp [h0]
    clear h0
    go_enter Tryz.func40, Tryz.ntmps40
    go_wp2_with fail
    go_ret
    exact ⟨ret_int (by rw [HF.out, if_pos HX.out]), HBX.out⟩
  have h0' : ((ps.length : Int) == 0) = false := by simpa using h0
  by_cases h1 : 64 < ps.length
  · go_enter Tryz.func40, Tryz.ntmps40
    go_wp2_with fail
    go_ret
    exact ⟨ret_int (by rw [HF.out, if_neg h0, if_pos h1]), HBX.out⟩
  by_cases h2 : ns.length = ps.length
  · have h2' : ((ns.length : Int) != ps.length) = false := by simp [h2]
    have H2 := Lib.hid h2
    clear h2
    have hcp : (w.alloc (.cells #[.slice p ps.length cap, .slice q ns.length cap2] 25)).cell? ⟨w.heap.size, 0, none⟩ = some (.slice p ps.length cap) := by simp [World.cell?_alloc_new]
    have hcq : (w.alloc (.cells #[.slice p ps.length cap, .slice q ns.length cap2] 25)).cell? ⟨w.heap.size, 1, none⟩ = some (.slice q ns.length cap2) := by simp [World.cell?_alloc_new]
    have hct : (w.alloc (.cells #[.slice p ps.length cap, .slice q ns.length cap2] 25)).rowIs w.heap.size 25 2 (fun i => if i = 0 then .slice p ps.length cap else .slice q ns.length cap2) :=
      World.rowIs_alloc w _ _ _ (fun i hi => by match i, hi with | 0, _ => rfl | 1, _ => rfl)
    have hsz : (w.alloc (.cells #[.slice p ps.length cap, .slice q ns.length cap2] 25)).heap.size = w.heap.size + 1 := by simp
    have HS := Lib.hid hsz
    have HCP := Lib.hid hcp
    have HCQ := Lib.hid hcq
    have HCT := Lib.hid hct
    clear hsz hcq hct
    go_enter Tryz.func40, Tryz.ntmps40
    go_wp2_with fail
    generalize hw0 : w.alloc (.cells #[.slice p ps.length cap, .slice q ns.length cap2] 25) = w0 at *
    clear hw0
    go_loop [3] (fun i => ∃ k : Nat, k ≤ ps.length ∧ i = .int .i64 k ∧ Hid (∀ j, j < k → okp j (gi ps j) = true)) (fun i => ps.length - (intOf i).toNat)
    case atStart => exact ⟨0, Nat.zero_le _, rfl, fun j hj => absurd hj (Nat.not_lt_zero _)⟩
    case round =>
      obtain ⟨k, hk, rfl, hd⟩ := hrel
      by_cases hlt : k < ps.length
      · obtain ⟨b, off, rfl, hc⟩ := HPh.out k hlt
        clear HPh HNh HT0
        generalize hpk : gi ps k = x at *
        have HX := Lib.hid hpk
        clear hpk
        by_cases hg : 0 < k ∧ 0 ≤ x ∧ x < k
        · obtain ⟨g1, g2, g3⟩ := hg
          go_wp2_with fail
          go_round
          case rel => exact ⟨k + 1, by omega, by go_num, fun j hj => if e : j = k then by subst e; rw [HX.out]; unfold okp; rw [if_neg (by omega)]; simp; omega else hd.out j (by omega)⟩
          case measure => simp [intOf]; omega
        · by_cases h00 : k = 0 ∧ x = -1
          · obtain ⟨rfl, rfl⟩ := h00
            have hc' : w0.cell? ⟨b, off, none⟩ = some (.int .i64 (-1)) := by simpa using hc
            go_wp2_with fail
            go_round
            case rel => exact ⟨1, by omega, by go_num, fun j hj => by obtain rfl : j = 0 := by omega
                                                                      rw [HX.out]; rfl⟩
            case measure => simp [intOf]; omega
          · have hbad : okp k x = false := by
              unfold okp; split
              · rename_i e; simp; exact fun e2 => h00 ⟨e, e2⟩
              · simp; intro; omega
            rw [← HX.out] at hbad
            have HB := Lib.hid (pOkB_bad hlt hbad)
            clear hbad
            have hc' : k = 0 → w0.cell? ⟨b, off, none⟩ = some (.int .i64 x) := fun e => by subst e; simpa using hc
            rcases Nat.eq_zero_or_pos k with rfl | hk0
            · have hc2 := hc' rfl
              clear hc' hc
              go_wp2_with fail
              all_goals go_ret
              all_goals exact ⟨ret_int (by rw [HF.out, if_neg h0, if_neg h1, if_neg (by rw [H2.out]; simp), HB.out]; simp), HBX.out⟩
            · clear hc'
              go_wp2_with fail
              all_goals go_ret
              all_goals exact ⟨ret_int (by rw [HF.out, if_neg h0, if_neg h1, if_neg (by rw [H2.out]; simp), HB.out]; simp), HBX.out⟩
      · obtain rfl : k = ps.length := by omega
        have hok0 := pOkB_all hd.out
        have hok := Lib.hid hok0
        clear hlt hk hd HPh hcap hok0
        go_wp2_with fail
        go_loopw [4, 5] (fun i _ wr => ∃ k : Nat, k ≤ ps.length ∧ i = .int .i64 k ∧ Hid (∀ j, j < k → nErr ps ns j = 0) ∧ Below w0.heap.size w0 wr) (fun i _ _ => ps.length - (intOf i).toNat)
        case atStart => exact ⟨0, Nat.zero_le _, rfl, fun j hj => absurd hj (Nat.not_lt_zero _), Below.refl _ _⟩
        case round =>
          obtain ⟨k, hk, rfl, hd, hbr⟩ := hrel
          clear hcp
          have hcp : wr.cell? ⟨w.heap.size, 0, none⟩ = some (.slice p ps.length cap) := (hbr.cell (p := ⟨w.heap.size, 0, none⟩) (by have := HS.out; simp; omega)).trans HCP.out
          have hcq : wr.cell? ⟨w.heap.size, 1, none⟩ = some (.slice q ns.length cap2) := (hbr.cell (p := ⟨w.heap.size, 1, none⟩) (by have := HS.out; simp; omega)).trans HCQ.out
          by_cases hlt : k < ps.length
          · have hlen : ns.length ≤ ps.length ∧ ps.length ≤ ns.length := by have := H2.out; omega
            obtain ⟨hl1, hl2⟩ := hlen
            have hT := HT0.out.keep (Kept.below hbr)
            have hkd := kidsR_t S wr _ ⟨ps, ns⟩ k hT hp hlt
            have HKD := Lib.hid hkd
            have hne : nErr ps ns k = if isIn ps k then (if (gs ns k).size = 0 then 0 else 14) else if namedB (gs ns k).data.toList then (if seenK ns k then 7 else 0) else 14 := rfl
            have hki := kids_isIn hok.out k
            have hend : nErr ps ns k ≠ 0 → treeErr ⟨ps, ns⟩ = nErr ps ns k := fun hn0 => by
              rw [HF.out, if_neg h0, if_neg h1, if_neg (by rw [H2.out]; simp), hok.out, if_pos rfl]; exact firstNZ_at hlt hd.out hn0
            have HE := Lib.hid hne
            have HEND := Lib.hid hend
            have HKI := Lib.hid hki
            clear hT hkd hne hend hki
            go_wp2_with fail
            refine HKD.out.mono ?_
            rintro e w2 ⟨hb2, v2, rfl, hv2⟩
            obtain ⟨p2, c2, rfl, _, _⟩ := SlAt.open hv2
            clear hv2
            have hcp2 : w2.cell? ⟨w.heap.size, 0, none⟩ = some (.slice p ps.length cap) := (hb2.cell (p := ⟨w.heap.size, 0, none⟩) (World.block_lt_of_cell? _ _ hcp)).trans hcp
            have hcq2 : w2.cell? ⟨w.heap.size, 1, none⟩ = some (.slice q ns.length cap2) := (hb2.cell (p := ⟨w.heap.size, 1, none⟩) (World.block_lt_of_cell? _ _ hcq)).trans hcq
            have hbw2 : Below w0.heap.size w0 w2 := hbr.trans (hb2.mono hbr.size)
            clear hcp hcq HKD hb2
            have hzk := hz k
            have hnil := toList_nil (gs ns k)
            have HNIL := Lib.hid hnil
            have HBW2 := Lib.hid hbw2
            obtain ⟨b, off, rfl, hc0⟩ := HNh.out k (by omega)
            have hc2 : w2.cell? ⟨b, off + k, none⟩ = some (.string (gs ns k)) := (hbw2.cell (p := ⟨b, off + k, none⟩) (World.block_lt_of_cell? _ _ hc0)).trans hc0
            clear hc0 hbw2 hnil hz
            cases hin : isIn ps k
            · have hk0 : (ofNats (kidsL ps k)).length = 0 := by
                rcases h : kidsL ps k with _ | ⟨a, l⟩
                · rfl
                · have h2 := HKI.out.1 (by rw [h]; simp); rw [hin] at h2; cases h2
              rw [hk0]
              have HIN := Lib.hid hin
              clear hk0 hin
              have hnm := namedR_t (gs ns k) hzk w2
              have HNM := Lib.hid hnm
              clear hnm
              cases hnb : namedB (gs ns k).data.toList
              · have HNB := Lib.hid hnb
                rw [hnb] at HNM
                clear hnb
                go_wp2_with fail
                refine HNM.out.mono ?_
                rintro e w3 ⟨rfl, hb3⟩
                go_wp2_with fail
                go_ret
                exact ⟨ret_int (by rw [HEND.out (by rw [HE.out, HIN.out, HNB.out]; simp), HE.out, HIN.out, HNB.out]; simp), HBX.out.trans ((HBW2.out.mono (by have := HS.out; omega)).trans (hb3.mono (by have := HS.out; have := HBW2.out.size; omega)))⟩
              · have HNB := Lib.hid hnb
                rw [hnb] at HNM
                clear hnb
                go_wp2_with fail
                refine HNM.out.mono ?_
                rintro e w3 ⟨rfl, hb3⟩
                have hbw3 : Below w0.heap.size w0 w3 := HBW2.out.trans (hb3.mono HBW2.out.size)
                have hcq3 : w3.cell? ⟨w.heap.size, 1, none⟩ = some (.slice (some ⟨b, off, none⟩) ns.length cap2) := (hb3.cell (p := ⟨w.heap.size, 1, none⟩) (World.block_lt_of_cell? _ _ hcq2)).trans hcq2
                have hc3 : w3.cell? ⟨b, off + k, none⟩ = some (.string (gs ns k)) := (hb3.cell (p := ⟨b, off + k, none⟩) (World.block_lt_of_cell? _ _ hc2)).trans hc2
                have HBW3 := Lib.hid hbw3
                clear hcp2 hcq2 hc2 hb3 hbw3
                go_wp2_with fail
                go_loopw [5] (fun i wq => ∃ j a : Nat, j ≤ k ∧ i = .int .i64 j ∧ Hid (∀ m, m < j → decide (gs ns m = gs ns k) = false) ∧ wq = w3.drewN a) (fun i _ => k - (intOf i).toNat)
                case atStart => exact ⟨0, 0, Nat.zero_le _, rfl, fun j hj => absurd hj (Nat.not_lt_zero _), rfl⟩
                case round =>
                  obtain ⟨j, a, hj, rfl, hd2, rfl⟩ := hrel
                  by_cases hjk : j < k
                  · obtain ⟨b', off', eb, hcj⟩ := HNh.out j (by omega)
                    cases eb
                    have hc4 : w3.cell? ⟨b, off + j, none⟩ = some (.string (gs ns j)) := (HBW3.out.cell (p := ⟨b, off + j, none⟩) (World.block_lt_of_cell? _ _ hcj)).trans hcj
                    clear hcj
                    have i1 : (0 : Int) ≤ (j : Int) := by omega
                    have i2 : (j : Int) < (ns.length : Int) := by omega
                    have i3 : (0 : Int) ≤ (k : Int) := by omega
                    have i4 : (k : Int) < (ns.length : Int) := by omega
                    have HNEQ := Lib.hid (toList_data (gs ns j))
                    go_wp2_with fail
                    go_quiet (fail)
                    go_wp2_with fail
                    · have hs : seenK ns k = true := List.any_eq_true.2 ⟨j, List.mem_range.2 hjk, by simpa using str_yes ‹_›⟩
                      go_ret
                      exact ⟨ret_int (by rw [HEND.out (by rw [HE.out, HIN.out, HNB.out, hs]; simp), HE.out, HIN.out, HNB.out, hs]; simp), HBX.out.trans (Below.mono (B := w0.heap.size) (below_drewN (below_drewN HBW3.out _) _) (by have := HS.out; omega))⟩
                    · have hs := str_no ‹((gs ns j).toList == (gs ns k).toList) = false›
                      go_roundw
                      case rel => exact ⟨j + 1, _, by omega, by go_num, fun m hm => if e : m = j then by subst e; simpa using hs else hd2.out m (by omega), rfl⟩
                      case measure => simp [intOf]; omega
                  · have hs : seenK ns k = false := by
                      rw [Bool.eq_false_iff]; intro e
                      obtain ⟨m, hm, h2⟩ := List.any_eq_true.1 e
                      have h3 := hd2.out m (by have := List.mem_range.1 hm; omega)
                      rw [h3] at h2; cases h2
                    have HSN := Lib.hid hs
                    clear hs
                    go_wp2_with fail
                    go_roundw
                    case rel => exact ⟨k + 1, by omega, by go_num, fun m hm => if e : m = k then by subst e; rw [HE.out, HIN.out, HNB.out, HSN.out]; simp else hd.out m (by omega), below_drewN HBW3.out _⟩
                    case measure => simp [intOf]; omega
            · have hk0 : 0 < (ofNats (kidsL ps k)).length := by
                have h2 := HKI.out.2 hin
                unfold ofNats; rw [List.length_map]; exact List.length_pos_iff.2 h2
              generalize (ofNats (kidsL ps k)).length = m at *
              have HIN := Lib.hid hin
              clear hin
              by_cases hg0 : (gs ns k).size = 0
              · have hg1 : (gs ns k).toList = [] := HNIL.out.2 hg0
                have HG0 := Lib.hid hg0
                clear hg0
                go_wp2_with fail
                go_roundw
                case rel => exact ⟨k + 1, by omega, by go_num, fun j hj => if e : j = k then by subst e; rw [HE.out, HIN.out, HG0.out]; simp else hd.out j (by omega), HBW2.out⟩
                case measure => simp [intOf]; omega
              · have hg1 : ((gs ns k).toList == []) = false := by
                  rw [Bool.eq_false_iff]; intro e; exact hg0 (HNIL.out.1 (by simpa using e))
                have hg2 : ((gs ns k).toList != []) = true := by
                  rw [bne_iff_ne]; intro e; exact hg0 (HNIL.out.1 (by simpa using e))
                have HG0 := Lib.hid hg0
                clear hg0
                go_wp2_with fail
                go_ret
                exact ⟨ret_int (by rw [HEND.out (by rw [HE.out, HIN.out, if_pos rfl, if_neg HG0.out]; simp), HE.out, HIN.out, if_pos rfl, if_neg HG0.out]), HBX.out.trans (HBW2.out.mono (by have := HS.out; omega))⟩
          · have hk2 : k = ps.length := by omega
            clear hlt
            go_wp2_with fail
            go_ret
            exact ⟨ret_int (by rw [HF.out, if_neg h0, if_neg h1, if_neg (by rw [H2.out]; simp), hok.out, if_pos rfl, firstNZ_zero fun j hj => hd.out j (by omega)]), HBX.out.trans (hbr.mono (by have := HS.out; omega))⟩
  · have h2' : ((ns.length : Int) != ps.length) = true := by simp; omega
    go_enter Tryz.func40, Tryz.ntmps40
    go_wp2_with fail
    go_ret
    exact ⟨ret_int (by rw [HF.out, if_neg h0, if_neg h1, if_pos h2]), HBX.out⟩
end Go.Proofs.YtgjcfkadioblfaaGreat
namespace Go.Proofs.YtgjcfkadioblfaaGreat
open Go.RowKit Go.Deep
/-- The canonical tree, as the reference makes it. -/
def canR (t : Tre) : Tre := flat (ordR (toR t))
def CrPost (w : World) (t : Tre) (e : Ending) (w' : World) : Prop :=
  Up w w' ∧ ((treeErr t ≠ 0 ∧ e = .returned (.tuple #[.agg #[.slice none 0 0, .slice none 0 0], .int .i64 1])) ∨ (treeErr t = 0 ∧ ∃ v, e = .returned (.tuple #[v, .int .i64 0]) ∧ TreeAt (fun b => w.heap.size ≤ b) w' v (canR t)))
set_option maxRecDepth 100000 in
set_option maxHeartbeats 2000000 in
theorem canonR_t (S : Nat → Prop) (w : World) (v : Value) (t : Tre) (hT : TreeAt S w v t) (hp : t.ps.length ≤ 1000000) (hn : t.ns.length ≤ 1000000) (hz : ∀ k, (gs t.ns k).size ≤ 70000) : Calls Tryz.prog 34 #[v] w (CrPost w t) := by
  obtain ⟨P, N, rfl, hP, hN⟩ := hT
  have hu := (Up.alloc w (.cells #[P, N] 25)).trans (Up.alloc _ (.cells #[.slice none 0 0, .slice none 0 0] 25))
  have hT1 : TreeAt S ((w.alloc (.cells #[P, N] 25)).alloc (.cells #[.slice none 0 0, .slice none 0 0] 25)) (.agg #[P, N]) t := TreeAt.keep ⟨P, N, rfl, hP, hN⟩ (hu.kept _)
  have HCK := Lib.hid (checkR_t S _ _ t hT1 hp hn hz)
  have HT := Lib.hid hT1
  have HU := Lib.hid hu
  have HC0 := Lib.hid ((Up.alloc _ (.cells #[.slice none 0 0, .slice none 0 0] 25)).cell (box2_0 w P N 25))
  have HC1 := Lib.hid ((Up.alloc _ (.cells #[.slice none 0 0, .slice none 0 0] 25)).cell (box2_1 w P N 25))
  have hc0 := HC0.out
  have hc1 := HC1.out
  have hrb := box_at (w := w.alloc (.cells #[P, N] 25)) (P := .slice none 0 0) (N := .slice none 0 0) (T := 25)
  have hsz : ((w.alloc (.cells #[P, N] 25)).alloc (.cells #[.slice none 0 0, .slice none 0 0] 25)).heap.size = w.heap.size + 2 := by simp
  rw [World.size_alloc] at hrb
  have HRB := Lib.hid hrb
  have HSZ := Lib.hid hsz
  clear hu hT1 hP hN hrb hsz
  go_enter Tryz.func34, Tryz.ntmps34
  go_wp2_with fail
  generalize (w.alloc (.cells #[P, N] 25)).alloc (.cells #[.slice none 0 0, .slice none 0 0] 25) = w1 at *
  refine HCK.out.mono ?_
  rintro e w2 ⟨rfl, hb2⟩
  have hu2 : Up w1 w2 := hb2
  have hc0 := hu2.cell HC0.out
  have hc1 := hu2.cell HC1.out
  have HT2 := Lib.hid (HT.out.keep (hu2.kept S))
  have hrb2 := (Below.block hu2 (w.heap.size + 1) (by rw [HSZ.out]; omega)).trans HRB.out
  have HU2 := Lib.hid (HU.out.trans hu2)
  have HS2 : Hid (w.heap.size + 2 ≤ w2.heap.size) := by unfold Hid; have := hu2.size; rw [HSZ.out] at this; exact this
  clear hb2 hu2 HCK HT HU HC0 HC1 HRB
  by_cases he : treeErr t = 0
  · have HE := Lib.hid he
    rw [he]
    have HRB2 := Lib.hid hrb2
    have HGR := Lib.hid (growR_t S t he (rkT t 0) 0 (Nat.le_refl _) (treeErr_zero he).1 w2 _ HT2.out)
    have hsize := sizeR_toR he
    have hord := sizeR_ord (toR t)
    have HSI := Lib.hid (And.intro hsize hord)
    clear hrb2 he hsize hord
    go_wp2_with fail
    refine HGR.out.mono ?_
    rintro e w3 ⟨hu3, v3, rfl, hr3⟩
    have HU3 := Lib.hid hu3
    have HOD := Lib.hid (ordered_t _ 64 (toR t) HSI.out.1 (by omega) w3 _ hr3)
    clear hu3 hr3 HGR
    go_wp2_with fail
    refine HOD.out.mono ?_
    rintro e w4 ⟨hu4, v4, rfl, hr4⟩
    have HU4 := Lib.hid (HU3.out.trans hu4)
    have HNB := Lib.hid (number_t _ w4 _ (ordR (toR t)) hr4 (by have := HSI.out; omega))
    have HS4 : Hid (w.heap.size + 2 ≤ w4.heap.size) := by unfold Hid; have := HU4.out.size; have := HS2.out; omega
    clear hu4 hr4 HOD HU3
    go_wp2_with fail
    refine HNB.out.mono ?_
    rintro e w5 ⟨hu5, _, rfl, P4, N4, rfl, hP4, hN4⟩
    have hP4 : IntsAt (fun b => w4.heap.size ≤ b) w5 P4 (canR t).ps := hP4
    have hN4 : StrsAt (fun b => w4.heap.size ≤ b) w5 N4 (canR t).ns := hN4
    obtain ⟨pp, pc, rfl, _, _⟩ := SlAt.open hP4
    obtain ⟨np, nc, rfl, _, _⟩ := SlAt.open hN4
    have hrb4 := (Below.block (HU4.out.trans hu5) (w.heap.size + 1) (by have := HS2.out; omega)).trans HRB2.out
    have hr0 : w5.cell? ⟨w.heap.size + 1, 0, none⟩ = some (.slice none 0 0) := by simp [World.cell?, hrb4]
    have hr1 : w5.cell? ⟨w.heap.size + 1, 1, none⟩ = some (.slice none 0 0) := by simp [World.cell?, hrb4]
    have hf0 : w5.frozen? ⟨w.heap.size + 1, 0, none⟩ = false := by simp [World.frozen?, hrb4]
    have hf1 : w5.frozen? ⟨w.heap.size + 1, 1, none⟩ = false := by simp [World.frozen?, hrb4]
    have HP4 := Lib.hid hP4
    have HN4 := Lib.hid hN4
    have HST := Lib.hid (store_two (w := w) (p := .slice pp (canR t).ps.length pc) (q := .slice np (canR t).ns.length nc) hrb4 (by omega) (HU2.out.trans (HU4.out.trans hu5)))
    clear hP4 hN4 hu5 hrb4 HNB HRB2 hc0 hc1
    go_wp2_with fail
    obtain ⟨s1, s2, s3, s4⟩ := HST.out
    have hs2 := HS2.out
    have hs4 := HS4.out
    refine ⟨rfl, .tuple #[.agg #[.slice pp (canR t).ps.length pc, .slice np (canR t).ns.length nc], .int .i64 0], by simp [results, Tryz.results34, go_sem, s2, s3], ?_⟩
    exact ⟨s1, .inr ⟨HE.out, _, rfl, _, _, rfl, (IntsAt.keep HP4.out fun b hb _ => s4 b (by omega)).sub fun b hb _ => by omega, (StrsAt.keep HN4.out fun b hb _ => s4 b (by omega)).sub fun b hb _ => by omega⟩⟩
  · have he1 : (treeErr t != 0) = true := by simpa using he
    have hr0 : w2.cell? ⟨w.heap.size + 1, 0, none⟩ = some (.slice none 0 0) := by simp [World.cell?, hrb2]
    have hr1 : w2.cell? ⟨w.heap.size + 1, 1, none⟩ = some (.slice none 0 0) := by simp [World.cell?, hrb2]
    have hf0 : w2.frozen? ⟨w.heap.size + 1, 0, none⟩ = false := by simp [World.frozen?, hrb2]
    have hf1 : w2.frozen? ⟨w.heap.size + 1, 1, none⟩ = false := by simp [World.frozen?, hrb2]
    have HST := Lib.hid (store_two (w := w) (p := .slice none 0 0) (q := .slice none 0 0) hrb2 (by omega) HU2.out)
    have HE := Lib.hid he
    clear he hrb2 hc0 hc1
    generalize treeErr t = te at he1 ⊢
    go_wp2_with fail
    obtain ⟨s1, s2, s3, s4⟩ := HST.out
    refine ⟨rfl, .tuple #[.agg #[.slice none 0 0, .slice none 0 0], .int .i64 1], by simp [results, Tryz.results34, go_sem, s2, s3], ?_⟩
    exact ⟨s1, .inl ⟨HE.out, rfl⟩⟩
end Go.Proofs.YtgjcfkadioblfaaGreat
namespace Go.Proofs.YtgjcfkadioblfaaGreat
open Go.RowKit Go.Deep
/-- The set of the first k elements. -/
def ofK (l : List Int) : Nat → Nat
  | 0 => 0
  | k + 1 => ofK l k ||| 2 ^ (gi l k).toNat
def ofS (l : List Int) : Nat := ofK l l.length
def Small (l : List Int) : Prop := ∀ k, k < l.length → 0 ≤ gi l k ∧ gi l k < 32
theorem ofK_lt {l : List Int} (h : Small l) : ∀ {k : Nat}, k ≤ l.length → ofK l k < 4294967296
  | 0, _ => by simp [ofK]
  | k + 1, hk => by
    have h1 := ofK_lt h (k := k) (by omega)
    have h2 := h k (by omega)
    have h3 : 2 ^ (gi l k).toNat < 2 ^ 32 := Nat.pow_lt_pow_right (by decide) (by omega)
    exact Nat.or_lt_two_pow (n := 32) (by omega) h3
theorem ofS_lt {l : List Int} (h : Small l) : ofS l < 4294967296 := ofK_lt h (Nat.le_refl _)
theorem pow_lt64 {x : Int} (_ : 0 ≤ x) (h1 : x < 32) : 2 ^ x.toNat < 18446744073709551616 := by
  have : 2 ^ x.toNat < 2 ^ 64 := Nat.pow_lt_pow_right (by decide) (by omega)
  simpa using this
theorem wrap_pow {x : Int} (h0 : 0 ≤ x) (h1 : x < 32) : IntKind.u64.wrap ((2 : Int) ^ x.toNat) = ((2 ^ x.toNat : Nat) : Int) := by
  have h := pow_lt64 h0 h1
  rw [IntKind.wrap_u64, show ((2 : Int) ^ x.toNat) = ((2 ^ x.toNat : Nat) : Int) by simp]
  generalize 2 ^ x.toNat = z at h ⊢
  omega
def withinB (a b : Nat) : Bool := decide (a &&& (18446744073709551615 - b) = 0)
def confB (a b : Nat) : Bool := decide (a &&& b ≠ 0) && !withinB a b && !withinB b a
set_option maxHeartbeats 400000 in
theorem within_t (a b : Nat) (ha : a < 18446744073709551616) (hb : b < 18446744073709551616) (w : World) : Calls Tryz.prog 61 #[.int .u64 a, .int .u64 b] w fun e w' => e = .returned (.bool (withinB a b)) ∧ w = w' := by
  go_enter Tryz.func61, Tryz.ntmps61
  go_wp2_with fail
  go_ret
  exact ⟨ret_bool (by rw [u64_andNot_nat a b ha hb]; unfold withinB; rw [Bool.eq_iff_iff]; simp [Int.natCast_eq_zero]), rfl⟩
set_option maxHeartbeats 400000 in
theorem of_t (S : Nat → Prop) (w : World) (v : Value) (l : List Int) (h : IntsAt S w v l) (hs : Small l) (hn : l.length ≤ 1000000) :
    Calls Tryz.prog 52 #[v] w fun e w' => e = .returned (.int .u64 (ofS l)) ∧ w = w' := by
  obtain ⟨p, cap, rfl, hcap, H⟩ := SlAt.open h
  clear h
  go_enter Tryz.func52, Tryz.ntmps52
  go_wp2_with fail
  go_loop [3, 5, 8] (fun a _ i => ∃ k : Nat, k ≤ l.length ∧ i = .int .i64 k ∧ a = .int .u64 (ofK l k)) (fun _ _ i => l.length - (intOf i).toNat)
  case atStart => exact ⟨0, Nat.zero_le _, rfl, rfl⟩
  case round =>
    obtain ⟨k, hk, rfl, rfl⟩ := hrel
    by_cases hlt : k < l.length
    · obtain ⟨b, off, rfl, hc⟩ := H k hlt
      have hb := hs k hlt
      clear H
      go_wp2_with fail
      go_round
      case rel => exact ⟨k + 1, by omega, by go_num, by rw [wrap_pow hb.1 hb.2, u64_or_nat _ _ (Nat.lt_of_lt_of_le (ofK_lt hs hk) (by decide)) (pow_lt64 hb.1 hb.2)]; rfl⟩
      case measure => simp [intOf]; omega
    · clear H
      go_wp2_with fail
      go_ret
      exact ⟨ret_int (by obtain rfl : k = l.length := by omega
                         rfl), rfl⟩
set_option maxRecDepth 100000 in
set_option maxHeartbeats 400000 in
theorem conflict_t (a b : Nat) (ha : a < 18446744073709551616) (hb : b < 18446744073709551616) (w : World) : Calls Tryz.prog 53 #[.int .u64 a, .int .u64 b] w fun e w' => e = .returned (.bool (confB a b)) ∧ w = w' := by
  have e0 : (bits BinOp.and IntKind.u64 (a : Int) (b : Int) != 0) = decide (a &&& b ≠ 0) := by
    rw [u64_and_nat a b ha hb, Bool.eq_iff_iff]; simp [Int.natCast_eq_zero]
  have HC : Hid (confB a b = (decide (a &&& b ≠ 0) && !withinB a b && !withinB b a)) := rfl
  have H1 := Lib.hid (within_t a b ha hb)
  have H2 := Lib.hid (within_t b a hb ha)
  generalize decide (a &&& b ≠ 0) = c0 at *
  generalize withinB a b = c1 at *
  generalize withinB b a = c2 at *
  clear ha hb
  cases c0
  · go_enter Tryz.func53, Tryz.ntmps53
    go_wp2_with fail
    go_ret
    exact ⟨ret_bool (by rw [HC.out]; rfl), rfl⟩
  · cases c1
    · go_enter Tryz.func53, Tryz.ntmps53
      go_wp2_with (first | (refine (H1.out _).mono ?_; rintro e w' ⟨rfl, rfl⟩) | (refine (H2.out _).mono ?_; rintro e w' ⟨rfl, rfl⟩))
      go_ret
      exact ⟨ret_bool (by rw [HC.out]; rfl), rfl⟩
    · go_enter Tryz.func53, Tryz.ntmps53
      go_wp2_with (first | (refine (H1.out _).mono ?_; rintro e w' ⟨rfl, rfl⟩) | (refine (H2.out _).mono ?_; rintro e w' ⟨rfl, rfl⟩))
      go_ret
      exact ⟨ret_bool (by rw [HC.out]; rfl), rfl⟩
/-- A list that could be the sources of a group. -/
def srcBad (l : List Int) (k : Nat) : Bool := decide (gi l k < 0) || decide (32 ≤ gi l k) || (decide (0 < k) && decide (gi l k ≤ gi l (k - 1)))
def srcOk (l : List Int) : Bool := !((List.range l.length).any (srcBad l)) && decide (0 < l.length)
set_option maxHeartbeats 1000000 in
theorem sources_t (S : Nat → Prop) (w : World) (v : Value) (l : List Int) (h : IntsAt S w v l) (hn : l.length ≤ 1000000) :
    Calls Tryz.prog 105 #[v] w fun e w' => e = .returned (.bool (srcOk l)) ∧ w = w' := by
  have HI0 := h
  obtain ⟨p, cap, rfl, hcap, H⟩ := SlAt.open h
  have HI := Lib.hid HI0
  clear h HI0
  have HS : Hid (srcOk l = (!((List.range l.length).any (srcBad l)) && decide (0 < l.length))) := rfl
  have HB : Hid (∀ k, srcBad l k = (decide (gi l k < 0) || decide (32 ≤ gi l k) || (decide (0 < k) && decide (gi l k ≤ gi l (k - 1))))) := fun _ => rfl
  go_enter Tryz.func105, Tryz.ntmps105
  go_wp2_with fail
  go_loop [3, 4, 7] (fun _ _ i => ∃ k : Nat, k ≤ l.length ∧ i = .int .i64 k ∧ Hid (∀ j, j < k → srcBad l j = false)) (fun _ _ i => l.length - (intOf i).toNat)
  case atStart => exact ⟨0, Nat.zero_le _, rfl, fun j hj => absurd hj (Nat.not_lt_zero _)⟩
  case round =>
    obtain ⟨k, hk, rfl, hd⟩ := hrel
    by_cases hlt : k < l.length
    · obtain ⟨b, off, rfl, hc⟩ := H k hlt
      have HBK := Lib.hid (HB.out k)
      clear H
      have HXK : Hid (srcBad l k = true → srcOk l = false) := fun hx => by
        rw [HS.out, any_at hlt hx]; rfl
      generalize hy : gi l k = y at *
      by_cases h0 : y < 0
      · have HR : Hid (srcOk l = false) := HXK.out (by rw [HBK.out]; simp [h0])
        have e0 : decide (y < 0) = true := by simpa using h0
        go_wp2_with fail
        go_ret
        exact ⟨ret_bool HR.out.symm, rfl⟩
      · have e0 : decide (y < 0) = false := by simpa using h0
        by_cases h1 : 32 ≤ y
        · have HR : Hid (srcOk l = false) := HXK.out (by rw [HBK.out]; simp [h1])
          have e1 : decide (32 ≤ y) = true := by simpa using h1
          go_wp2_with fail
          go_ret
          exact ⟨ret_bool HR.out.symm, rfl⟩
        · have e1 : decide (32 ≤ y) = false := by simpa using h1
          cases k with
          | zero =>
            have HR : Hid (srcBad l 0 = false) := by unfold Hid; rw [HBK.out]; simp [e0, e1]
            rw [Nat.add_zero] at hc
            go_wp2_with fail
            go_round
            case rel => exact ⟨1, by omega, by go_num, fun j hj => by obtain rfl : j = 0 := by omega
                                                                      exact HR.out⟩
            case measure => simp [intOf]; omega
          | succ j =>
            have hcj := ints_get' HI.out (k := j) (by omega)
            have HR : Hid (srcBad l (j + 1) = decide (y ≤ gi l j)) := by unfold Hid; rw [HBK.out, e0, e1]; simp
            have k1 : (0 : Int) < ((j + 1 : Nat) : Int) := by omega
            have k2 : decide ((0 : Int) < ((j + 1 : Nat) : Int)) = true := by simp
            have k3 : ((j + 1 : Nat) : Int) - 1 = (j : Int) := by omega
            generalize gi l j = z at *
            by_cases h2 : y ≤ z
            · have e2 : decide (y ≤ z) = true := by simpa using h2
              have HR2 : Hid (srcOk l = false) := HXK.out (by rw [HR.out, e2])
              go_wp2_with fail
              go_ret
              exact ⟨ret_bool HR2.out.symm, rfl⟩
            · have e2 : decide (y ≤ z) = false := by simpa using h2
              have HR2 : Hid (srcBad l (j + 1) = false) := by unfold Hid; rw [HR.out, e2]
              go_wp2_with fail
              go_round
              case rel => exact ⟨j + 2, by omega, by go_num, fun i hi => if e : i = j + 1 then by subst e; exact HR2.out else hd.out i (by omega)⟩
              case measure => simp [intOf]; omega
    · obtain rfl : k = l.length := by omega
      have HR : Hid (srcOk l = decide (0 < l.length)) := by unfold Hid; rw [HS.out, any_none hd.out]; rfl
      clear H
      go_wp2_with fail
      go_ret
      exact ⟨ret_bool (by rw [HR.out]), rfl⟩
end Go.Proofs.YtgjcfkadioblfaaGreat
