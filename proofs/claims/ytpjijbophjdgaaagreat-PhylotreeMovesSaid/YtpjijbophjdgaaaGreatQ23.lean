/- Names, as layer 1's and layer 31's references have them: Check, IsWord, IsName, named. The contract of layer 31's reference's Check. -/
import Derived.Test.YtpjijbophjdgaaaGreatQ4
import Derived.Test.YtpjijbophjdgaaaGreatQ19
namespace Go.Proofs.YtpjijbophjdgaaaGreat
open Go.RowKit Go.Deep
def CkRPost (w : World) (s : ByteArray) (e : Ending) (w' : World) : Prop := Below w.heap.size w w' ∧ ∃ r, e = .returned (.int .i64 r) ∧ (s.data.toList.all aln = true → r = 0)
theorem all_at {s : ByteArray} (h : s.data.toList.all aln = true) {k : Nat} (hk : k < s.size) : aln s[k] = true :=
  List.all_eq_true.1 h _ (by rw [Array.mem_toList_iff]; exact Array.getElem_mem _)
set_option maxRecDepth 100000 in
set_option maxHeartbeats 400000 in
theorem ckR_t (s : ByteArray) (hs : s.size ≤ 1000) (w : World) : Calls Tryz.prog 234 #[.string s] w (CkRPost w s) := by
  go_enter Tryz.func234, Tryz.ntmps234
  go_wp2_with fail
  refine (right_t s hs _).mono ?_
  rintro e w1 ⟨hb, v, bs, rfl, hbl, hsl⟩
  obtain ⟨p, cap, rfl, hcap, H⟩ := hsl.open
  have HH := Lib.hid H
  clear H hsl hbl
  go_wp2_with fail
  go_loop [4, 5] (fun i _ => ∃ k : Nat, k ≤ s.size ∧ i = .int .i64 k) (fun i _ => s.size - (intOf i).toNat)
  case atStart => exact ⟨0, Nat.zero_le _, rfl⟩
  case round =>
    obtain ⟨k, hk, rfl⟩ := hrel
    by_cases hlt : k < s.size
    · obtain ⟨b, off, rfl, hc⟩ := HH.out k hlt
      have hka : s.data.toList.all aln = true → kindL s[k].toNat = 1 ∨ kindL s[k].toNat = 3 := fun h => (kind_aln s[k]).2 (all_at h hlt)
      have HKA := Lib.hid hka
      clear HH hka
      go_wp2_with (go_at_call 235; refine (kindR_t _ (UInt8.toNat_lt _) _).mono ?_; rintro e w' ⟨rfl, rfl⟩; generalize kindL _ = q at *)
      all_goals first | (go_round; (case rel => exact ⟨k + 1, by omega, by go_num⟩); (case measure => simp [intOf]; omega)) | (go_ret; exact ⟨hb, _, rfl, fun h => by have := HKA.out h; simp at *; omega⟩)
    · clear HH
      go_wp2_with fail
      go_ret
      exact ⟨hb, _, rfl, fun _ => rfl⟩
def IwPost (w : World) (s : ByteArray) (e : Ending) (w' : World) : Prop := Below w.heap.size w w' ∧ ∃ b, e = .returned (.bool b) ∧ (s.data.toList.all aln = true → 1 ≤ s.size → b = true) ∧ (s.size = 0 → b = false)
set_option maxRecDepth 100000 in
set_option maxHeartbeats 400000 in
theorem isWordR_t (s : ByteArray) (hs : s.size ≤ 16) (w : World) : Calls Tryz.prog 212 #[.string s] w (IwPost w s) := by
  by_cases h0 : s.size < 1
  · go_enter Tryz.func212, Tryz.ntmps212
    go_wp2_with fail
    go_ret
    exact ⟨Below.refl _ _, _, rfl, fun _ h => by omega, fun _ => rfl⟩
  · have h0' : ((0 : Nat) < s.size) := by omega
    have hka : s.data.toList.all aln = true → kindL s[0].toNat = 1 ∨ kindL s[0].toNat = 3 := fun h => (kind_aln s[0]).2 (all_at h h0')
    have HKA := Lib.hid hka
    clear hka
    go_enter Tryz.func212, Tryz.ntmps212
    go_wp2_with fail
    refine (ckR_t s (by omega) _).mono ?_
    rintro e w1 ⟨hb, r, rfl, hr⟩
    have HR := Lib.hid hr
    clear hr
    go_wp2_with (go_at_call 235; refine (kindR_t _ (UInt8.toNat_lt _) _).mono ?_; rintro e w' ⟨rfl, rfl⟩; generalize kindL _ = q at *)
    all_goals first
      | (go_ret; exact ⟨hb, _, rfl, fun h _ => (by exfalso; have h1 := HKA.out h; have h2 := HR.out h; subst h2; simp at *; omega), fun _ => rfl⟩)
      | skip
    all_goals
      clear HR
      go_loop [4] (fun i => ∃ k : Nat, k ≤ s.size ∧ i = .int .i64 k) (fun i => s.size - (intOf i).toNat)
      case atStart => exact ⟨0, Nat.zero_le _, rfl⟩
      case round =>
        obtain ⟨k, hk, rfl⟩ := hrel
        by_cases hlt : k < s.size
        · have hka : s.data.toList.all aln = true → kindL s[k].toNat = 1 ∨ kindL s[k].toNat = 3 := fun h => (kind_aln s[k]).2 (all_at h hlt)
          have HKB := Lib.hid hka
          clear hka
          go_wp2_with (go_at_call 235; refine (kindR_t _ (UInt8.toNat_lt _) _).mono ?_; rintro e w' ⟨rfl, rfl⟩; generalize kindL s[k].toNat = y at *)
          all_goals first | (go_round; (case rel => exact ⟨k + 1, by omega, by go_num⟩); (case measure => simp [intOf]; omega)) | (go_ret; exact ⟨hb, _, rfl, fun h _ => (by exfalso; have h1 := HKB.out h; omega), fun _ => rfl⟩)
        · go_wp2_with fail
          go_ret
          exact ⟨hb, _, rfl, fun _ _ => rfl, fun h => by omega⟩
set_option maxRecDepth 100000 in
set_option maxHeartbeats 400000 in
theorem isNameR_t (s : ByteArray) (hs : s.size ≤ 70000) (w : World) : Calls Tryz.prog 182 #[.string s] w fun e w' => e = .returned (.bool (isNameB s.data.toList)) ∧ Below w.heap.size w w' := by
  have hl := size_data s
  have hA := cntA_all s.data.toList
  have hfin : isNameB s.data.toList = decide (1 ≤ s.size ∧ s.size ≤ 16 ∧ cntA s.data.toList = s.size) := by
    unfold isNameB; rw [hl] at hA ⊢; rw [Bool.eq_iff_iff]; simp only [Bool.and_eq_true, decide_eq_true_eq]; rw [← hA, and_assoc]
  rw [hl] at hA
  have HF := Lib.hid hfin
  have HA := Lib.hid hA
  clear hfin hl hA
  by_cases h16 : s.size ≤ 16
  · go_enter Tryz.func182, Tryz.ntmps182
    go_wp2_with fail
    refine (isWordR_t s h16 _).mono ?_
    rintro e w1 ⟨hb, b, rfl, h1, h2⟩
    have H1 := Lib.hid h1
    have H2 := Lib.hid h2
    clear h1 h2
    cases b
    · go_wp2_with fail
      go_ret
      refine ⟨ret_bool ?_, hb⟩
      rw [HF.out, eq_comm, decide_eq_false_iff_not]
      rintro ⟨a1, a2, a3⟩
      have := H1.out (HA.out.1 a3) a1
      cases this
    · go_wp2_with (go_at_call 213; refine (lettersR_t s hs _).mono ?_; rintro e w' ⟨rfl, rfl⟩)
      go_ret
      refine ⟨ret_bool ?_, hb⟩
      have h0 : s.size ≠ 0 := fun e => by have := H2.out e; cases this
      rw [HF.out, Bool.eq_iff_iff]
      simp
      omega
  · go_enter Tryz.func182, Tryz.ntmps182
    go_wp2_with fail
    go_ret
    refine ⟨ret_bool ?_, Below.refl _ _⟩
    rw [HF.out, eq_comm, decide_eq_false_iff_not]; omega
theorem last_get (s : ByteArray) (h : s.size - 1 < s.size) : s.data.toList.getLast? = some s[s.size - 1] := by
  have hl := size_data s
  rw [List.getLast?_eq_getElem?, hl, List.getElem?_eq_getElem (by rw [hl]; exact h)]; rfl
theorem named_star (s : ByteArray) (h : s.size - 1 < s.size) (h16 : s.size ≤ 16) (h42 : ((s[s.size - 1].toNat : Int) == 42) = true) : namedB s.data.toList = isNameB (s.extract 0 (s.size - 1)).data.toList := by
  have hl := size_data s
  have h2 : s[s.size - 1] = 42 := by
    have h3 : (s[s.size - 1].toNat : Int) = 42 := by simpa using h42
    have h4 : s[s.size - 1].toNat = 42 := by omega
    exact UInt8.toNat_inj.1 h4
  unfold namedB; rw [last_get s h, h2, if_pos rfl, cut_star, hl]; simp [h16]
theorem named_plain (s : ByteArray) (h : s.size - 1 < s.size) (h42 : ((s[s.size - 1].toNat : Int) == 42) = false) : namedB s.data.toList = isNameB s.data.toList := by
  unfold namedB; rw [last_get s h, if_neg]
  intro e; injection e with e; rw [e] at h42; simp at h42
theorem named_far (s : ByteArray) (h : 16 < s.size) : namedB s.data.toList = isNameB s.data.toList := by
  have hl := size_data s
  unfold namedB; split
  · rename_i h42
    rw [isNameB_star s.data.toList h42, hl, decide_eq_false (by omega), Bool.and_false]
  · rfl
theorem named_one (s : ByteArray) (h : s.size ≤ 1) : namedB s.data.toList = isNameB s.data.toList := by
  have hl := size_data s
  unfold namedB; split
  · rename_i h42
    rw [isNameB_star s.data.toList h42]
    have : s.data.toList.dropLast = [] := by rw [← List.length_eq_zero_iff, List.length_dropLast]; omega
    rw [this]; rfl
  · rfl
set_option maxRecDepth 100000 in
set_option maxHeartbeats 400000 in
theorem namedR_t (s : ByteArray) (hs : s.size ≤ 70000) (w : World) : Calls Tryz.prog 118 #[.string s] w fun e w' => e = .returned (.bool (namedB s.data.toList)) ∧ Below w.heap.size w w' := by
  go_enter Tryz.func118, Tryz.ntmps118
  go_wp2_with fail
  · have hf := Lib.hid (named_star s (by omega) (by omega) ‹_›)
    refine (isNameR_t _ (by simp; omega) _).mono ?_
    rintro e w1 ⟨rfl, hb⟩
    rw [← hf.out]
    go_wp2_with fail
    go_ret
    exact ⟨rfl, hb⟩
  · have hf := Lib.hid (named_plain s (by omega) ‹_›)
    refine (isNameR_t _ hs _).mono ?_
    rintro e w1 ⟨rfl, hb⟩
    rw [← hf.out]
    go_wp2_with fail
    go_ret
    exact ⟨rfl, hb⟩
  · have hf := Lib.hid (named_far s (by omega))
    refine (isNameR_t _ hs _).mono ?_
    rintro e w1 ⟨rfl, hb⟩
    rw [← hf.out]
    go_wp2_with fail
    go_ret
    exact ⟨rfl, hb⟩
  · have hf := Lib.hid (named_one s (by omega))
    refine (isNameR_t _ hs _).mono ?_
    rintro e w1 ⟨rfl, hb⟩
    rw [← hf.out]
    go_wp2_with fail
    go_ret
    exact ⟨rfl, hb⟩
end Go.Proofs.YtpjijbophjdgaaaGreat
namespace Go.Proofs.YtpjijbophjdgaaaGreat
open Go.RowKit Go.Deep
set_option maxRecDepth 100000 in
set_option maxHeartbeats 1600000 in
theorem checkR_t (S : Nat → Prop) (w : World) (v : Value) (t : Tre) (h : TreeAt S w v t) (hp : t.ps.length ≤ 1000000) (hn : t.ns.length ≤ 1000000) (hz : ∀ k, (gs t.ns k).size ≤ 70000) :
    Calls Tryz.prog 49 #[v] w fun e w' => e = .returned (.int .i64 (treeErr t)) ∧ Below w.heap.size w w' := by
  obtain ⟨P, N, rfl, hP, hN⟩ := h
  obtain ⟨ps, ns⟩ := t
  simp only at *
  have hfin : treeErr ⟨ps, ns⟩ = if ps.length = 0 then 5 else if 64 < ps.length then 4 else if ns.length ≠ ps.length then 9 else if pOkB ps then firstNZ (nErr ps ns) ps.length else 2 := rfl
  have HF := Lib.hid hfin
  clear hfin
  have hbx : Below w.heap.size w (w.alloc (.cells #[P, N] 45)) := (Below.refl _ _).alloc (Nat.le_refl _) _
  have hT0 : TreeAt S (w.alloc (.cells #[P, N] 45)) (.agg #[P, N]) ⟨ps, ns⟩ := TreeAt.keep ⟨P, N, rfl, hP, hN⟩ (Kept.below hbx)
  have hP' := hP.keep (Kept.below hbx)
  have hN' := hN.keep (Kept.below hbx)
  clear hP hN
  obtain ⟨p, cap, rfl, hcap, HP⟩ := SlAt.open hP'
  obtain ⟨q, cap2, rfl, hcap2, HN⟩ := SlAt.open hN'
  have HPh := Lib.hid HP
  have HNh := Lib.hid HN
  have HT0 := Lib.hid hT0
  have HBX := Lib.hid hbx
  clear hP' hN' HP HN hT0 hbx
  by_cases h0 : ps.length = 0
  · have HX : Hid (ps.length = 0) := h0
    have h0' : ((ps.length : Int) == 0) = true := by simp [h0]
    clear h0
    go_enter Tryz.func49, Tryz.ntmps49
    go_wp2_with fail
    go_ret
    exact ⟨ret_int (by rw [HF.out, if_pos HX.out]), HBX.out⟩
  have h0' : ((ps.length : Int) == 0) = false := by simpa using h0
  by_cases h1 : 64 < ps.length
  · go_enter Tryz.func49, Tryz.ntmps49
    go_wp2_with fail
    go_ret
    exact ⟨ret_int (by rw [HF.out, if_neg h0, if_pos h1]), HBX.out⟩
  by_cases h2 : ns.length = ps.length
  · have h2' : ((ns.length : Int) != ps.length) = false := by simp [h2]
    have H2 := Lib.hid h2
    clear h2
    have hcp : (w.alloc (.cells #[.slice p ps.length cap, .slice q ns.length cap2] 45)).cell? ⟨w.heap.size, 0, none⟩ = some (.slice p ps.length cap) := by simp [World.cell?_alloc_new]
    have hcq : (w.alloc (.cells #[.slice p ps.length cap, .slice q ns.length cap2] 45)).cell? ⟨w.heap.size, 1, none⟩ = some (.slice q ns.length cap2) := by simp [World.cell?_alloc_new]
    have hct : (w.alloc (.cells #[.slice p ps.length cap, .slice q ns.length cap2] 45)).rowIs w.heap.size 45 2 (fun i => if i = 0 then .slice p ps.length cap else .slice q ns.length cap2) :=
      World.rowIs_alloc w _ _ _ (fun i hi => by match i, hi with | 0, _ => rfl | 1, _ => rfl)
    have hsz : (w.alloc (.cells #[.slice p ps.length cap, .slice q ns.length cap2] 45)).heap.size = w.heap.size + 1 := by simp
    have HS := Lib.hid hsz
    have HCP := Lib.hid hcp
    have HCQ := Lib.hid hcq
    have HCT := Lib.hid hct
    clear hsz hcq hct
    go_enter Tryz.func49, Tryz.ntmps49
    go_wp2_with fail
    generalize hw0 : w.alloc (.cells #[.slice p ps.length cap, .slice q ns.length cap2] 45) = w0 at *
    clear hw0
    go_loop [3] (fun i => ∃ k : Nat, k ≤ ps.length ∧ i = .int .i64 k ∧ Hid (∀ j, j < k → okp j (gi ps j) = true)) (fun i => ps.length - (intOf i).toNat)
    case atStart => exact ⟨0, Nat.zero_le _, rfl, fun j hj => absurd hj (Nat.not_lt_zero _)⟩
    case round =>
      obtain ⟨k, hk, rfl, hd⟩ := hrel
      by_cases hlt : k < ps.length
      · obtain ⟨b, off, rfl, hc⟩ := HPh.out k hlt
        clear HPh HNh HT0
        generalize hpk : gi ps k = x at *
        have HX := Lib.hid hpk
        clear hpk
        by_cases hg : 0 < k ∧ 0 ≤ x ∧ x < k
        · obtain ⟨g1, g2, g3⟩ := hg
          go_wp2_with fail
          go_round
          case rel => exact ⟨k + 1, by omega, by go_num, fun j hj => if e : j = k then by subst e; rw [HX.out]; unfold okp; rw [if_neg (by omega)]; simp; omega else hd.out j (by omega)⟩
          case measure => simp [intOf]; omega
        · by_cases h00 : k = 0 ∧ x = -1
          · obtain ⟨rfl, rfl⟩ := h00
            have hc' : w0.cell? ⟨b, off, none⟩ = some (.int .i64 (-1)) := by simpa using hc
            go_wp2_with fail
            go_round
            case rel => exact ⟨1, by omega, by go_num, fun j hj => by obtain rfl : j = 0 := by omega
                                                                      rw [HX.out]; rfl⟩
            case measure => simp [intOf]; omega
          · have hbad : okp k x = false := by
              unfold okp; split
              · rename_i e; simp; exact fun e2 => h00 ⟨e, e2⟩
              · simp; intro; omega
            rw [← HX.out] at hbad
            have HB := Lib.hid (pOkB_bad hlt hbad)
            clear hbad
            have hc' : k = 0 → w0.cell? ⟨b, off, none⟩ = some (.int .i64 x) := fun e => by subst e; simpa using hc
            rcases Nat.eq_zero_or_pos k with rfl | hk0
            · have hc2 := hc' rfl
              clear hc' hc
              go_wp2_with fail
              all_goals go_ret
              all_goals exact ⟨ret_int (by rw [HF.out, if_neg h0, if_neg h1, if_neg (by rw [H2.out]; simp), HB.out]; simp), HBX.out⟩
            · clear hc'
              go_wp2_with fail
              all_goals go_ret
              all_goals exact ⟨ret_int (by rw [HF.out, if_neg h0, if_neg h1, if_neg (by rw [H2.out]; simp), HB.out]; simp), HBX.out⟩
      · obtain rfl : k = ps.length := by omega
        have hok0 := pOkB_all hd.out
        have hok := Lib.hid hok0
        clear hlt hk hd HPh hcap hok0
        go_wp2_with fail
        go_loopw [4, 5] (fun i _ wr => ∃ k : Nat, k ≤ ps.length ∧ i = .int .i64 k ∧ Hid (∀ j, j < k → nErr ps ns j = 0) ∧ Below w0.heap.size w0 wr) (fun i _ _ => ps.length - (intOf i).toNat)
        case atStart => exact ⟨0, Nat.zero_le _, rfl, fun j hj => absurd hj (Nat.not_lt_zero _), Below.refl _ _⟩
        case round =>
          obtain ⟨k, hk, rfl, hd, hbr⟩ := hrel
          clear hcp
          have hcp : wr.cell? ⟨w.heap.size, 0, none⟩ = some (.slice p ps.length cap) := (hbr.cell (p := ⟨w.heap.size, 0, none⟩) (by have := HS.out; simp; omega)).trans HCP.out
          have hcq : wr.cell? ⟨w.heap.size, 1, none⟩ = some (.slice q ns.length cap2) := (hbr.cell (p := ⟨w.heap.size, 1, none⟩) (by have := HS.out; simp; omega)).trans HCQ.out
          by_cases hlt : k < ps.length
          · have hlen : ns.length ≤ ps.length ∧ ps.length ≤ ns.length := by have := H2.out; omega
            obtain ⟨hl1, hl2⟩ := hlen
            have hT := HT0.out.keep (Kept.below hbr)
            have hkd := kidsR_t S wr _ ⟨ps, ns⟩ k hT hp hlt
            have HKD := Lib.hid hkd
            have hne : nErr ps ns k = if isIn ps k then (if (gs ns k).size = 0 then 0 else 14) else if namedB (gs ns k).data.toList then (if seenK ns k then 7 else 0) else 14 := rfl
            have hki := kids_isIn hok.out k
            have hend : nErr ps ns k ≠ 0 → treeErr ⟨ps, ns⟩ = nErr ps ns k := fun hn0 => by
              rw [HF.out, if_neg h0, if_neg h1, if_neg (by rw [H2.out]; simp), hok.out, if_pos rfl]; exact firstNZ_at hlt hd.out hn0
            have HE := Lib.hid hne
            have HEND := Lib.hid hend
            have HKI := Lib.hid hki
            clear hT hkd hne hend hki
            go_wp2_with fail
            refine HKD.out.mono ?_
            rintro e w2 ⟨hb2, v2, rfl, hv2⟩
            obtain ⟨p2, c2, rfl, _, _⟩ := SlAt.open hv2
            clear hv2
            have hcp2 : w2.cell? ⟨w.heap.size, 0, none⟩ = some (.slice p ps.length cap) := (hb2.cell (p := ⟨w.heap.size, 0, none⟩) (World.block_lt_of_cell? _ _ hcp)).trans hcp
            have hcq2 : w2.cell? ⟨w.heap.size, 1, none⟩ = some (.slice q ns.length cap2) := (hb2.cell (p := ⟨w.heap.size, 1, none⟩) (World.block_lt_of_cell? _ _ hcq)).trans hcq
            have hbw2 : Below w0.heap.size w0 w2 := hbr.trans (hb2.mono hbr.size)
            clear hcp hcq HKD hb2
            have hzk := hz k
            have hnil := toList_nil (gs ns k)
            have HNIL := Lib.hid hnil
            have HBW2 := Lib.hid hbw2
            obtain ⟨b, off, rfl, hc0⟩ := HNh.out k (by omega)
            have hc2 : w2.cell? ⟨b, off + k, none⟩ = some (.string (gs ns k)) := (hbw2.cell (p := ⟨b, off + k, none⟩) (World.block_lt_of_cell? _ _ hc0)).trans hc0
            clear hc0 hbw2 hnil hz
            cases hin : isIn ps k
            · have hk0 : (ofNats (kidsL ps k)).length = 0 := by
                rcases h : kidsL ps k with _ | ⟨a, l⟩
                · rfl
                · have h2 := HKI.out.1 (by rw [h]; simp); rw [hin] at h2; cases h2
              rw [hk0]
              have HIN := Lib.hid hin
              clear hk0 hin
              have hnm := namedR_t (gs ns k) hzk w2
              have HNM := Lib.hid hnm
              clear hnm
              cases hnb : namedB (gs ns k).data.toList
              · have HNB := Lib.hid hnb
                rw [hnb] at HNM
                clear hnb
                go_wp2_with fail
                refine HNM.out.mono ?_
                rintro e w3 ⟨rfl, hb3⟩
                go_wp2_with fail
                go_ret
                exact ⟨ret_int (by rw [HEND.out (by rw [HE.out, HIN.out, HNB.out]; simp), HE.out, HIN.out, HNB.out]; simp), HBX.out.trans ((HBW2.out.mono (by have := HS.out; omega)).trans (hb3.mono (by have := HS.out; have := HBW2.out.size; omega)))⟩
              · have HNB := Lib.hid hnb
                rw [hnb] at HNM
                clear hnb
                go_wp2_with fail
                refine HNM.out.mono ?_
                rintro e w3 ⟨rfl, hb3⟩
                have hbw3 : Below w0.heap.size w0 w3 := HBW2.out.trans (hb3.mono HBW2.out.size)
                have hcq3 : w3.cell? ⟨w.heap.size, 1, none⟩ = some (.slice (some ⟨b, off, none⟩) ns.length cap2) := (hb3.cell (p := ⟨w.heap.size, 1, none⟩) (World.block_lt_of_cell? _ _ hcq2)).trans hcq2
                have hc3 : w3.cell? ⟨b, off + k, none⟩ = some (.string (gs ns k)) := (hb3.cell (p := ⟨b, off + k, none⟩) (World.block_lt_of_cell? _ _ hc2)).trans hc2
                have HBW3 := Lib.hid hbw3
                clear hcp2 hcq2 hc2 hb3 hbw3
                go_wp2_with fail
                go_loopw [5] (fun i wq => ∃ j a : Nat, j ≤ k ∧ i = .int .i64 j ∧ Hid (∀ m, m < j → decide (gs ns m = gs ns k) = false) ∧ wq = w3.drewN a) (fun i _ => k - (intOf i).toNat)
                case atStart => exact ⟨0, 0, Nat.zero_le _, rfl, fun j hj => absurd hj (Nat.not_lt_zero _), rfl⟩
                case round =>
                  obtain ⟨j, a, hj, rfl, hd2, rfl⟩ := hrel
                  by_cases hjk : j < k
                  · obtain ⟨b', off', eb, hcj⟩ := HNh.out j (by omega)
                    cases eb
                    have hc4 : w3.cell? ⟨b, off + j, none⟩ = some (.string (gs ns j)) := (HBW3.out.cell (p := ⟨b, off + j, none⟩) (World.block_lt_of_cell? _ _ hcj)).trans hcj
                    clear hcj
                    have i1 : (0 : Int) ≤ (j : Int) := by omega
                    have i2 : (j : Int) < (ns.length : Int) := by omega
                    have i3 : (0 : Int) ≤ (k : Int) := by omega
                    have i4 : (k : Int) < (ns.length : Int) := by omega
                    have HNEQ := Lib.hid (toList_data (gs ns j))
                    go_wp2_with fail
                    go_quiet (fail)
                    go_wp2_with fail
                    · have hs : seenK ns k = true := List.any_eq_true.2 ⟨j, List.mem_range.2 hjk, by simpa using str_yes ‹_›⟩
                      go_ret
                      exact ⟨ret_int (by rw [HEND.out (by rw [HE.out, HIN.out, HNB.out, hs]; simp), HE.out, HIN.out, HNB.out, hs]; simp), HBX.out.trans (Below.mono (B := w0.heap.size) (below_drewN (below_drewN HBW3.out _) _) (by have := HS.out; omega))⟩
                    · have hs := str_no ‹((gs ns j).toList == (gs ns k).toList) = false›
                      go_roundw
                      case rel => exact ⟨j + 1, _, by omega, by go_num, fun m hm => if e : m = j then by subst e; simpa using hs else hd2.out m (by omega), rfl⟩
                      case measure => simp [intOf]; omega
                  · have hs : seenK ns k = false := by
                      rw [Bool.eq_false_iff]; intro e
                      obtain ⟨m, hm, h2⟩ := List.any_eq_true.1 e
                      have h3 := hd2.out m (by have := List.mem_range.1 hm; omega)
                      rw [h3] at h2; cases h2
                    have HSN := Lib.hid hs
                    clear hs
                    go_wp2_with fail
                    go_roundw
                    case rel => exact ⟨k + 1, by omega, by go_num, fun m hm => if e : m = k then by subst e; rw [HE.out, HIN.out, HNB.out, HSN.out]; simp else hd.out m (by omega), below_drewN HBW3.out _⟩
                    case measure => simp [intOf]; omega
            · have hk0 : 0 < (ofNats (kidsL ps k)).length := by
                have h2 := HKI.out.2 hin
                unfold ofNats; rw [List.length_map]; exact List.length_pos_iff.2 h2
              generalize (ofNats (kidsL ps k)).length = m at *
              have HIN := Lib.hid hin
              clear hin
              by_cases hg0 : (gs ns k).size = 0
              · have hg1 : (gs ns k).toList = [] := HNIL.out.2 hg0
                have HG0 := Lib.hid hg0
                clear hg0
                go_wp2_with fail
                go_roundw
                case rel => exact ⟨k + 1, by omega, by go_num, fun j hj => if e : j = k then by subst e; rw [HE.out, HIN.out, HG0.out]; simp else hd.out j (by omega), HBW2.out⟩
                case measure => simp [intOf]; omega
              · have hg1 : ((gs ns k).toList == []) = false := by
                  rw [Bool.eq_false_iff]; intro e; exact hg0 (HNIL.out.1 (by simpa using e))
                have hg2 : ((gs ns k).toList != []) = true := by
                  rw [bne_iff_ne]; intro e; exact hg0 (HNIL.out.1 (by simpa using e))
                have HG0 := Lib.hid hg0
                clear hg0
                go_wp2_with fail
                go_ret
                exact ⟨ret_int (by rw [HEND.out (by rw [HE.out, HIN.out, if_pos rfl, if_neg HG0.out]; simp), HE.out, HIN.out, if_pos rfl, if_neg HG0.out]), HBX.out.trans (HBW2.out.mono (by have := HS.out; omega))⟩
          · have hk2 : k = ps.length := by omega
            clear hlt
            go_wp2_with fail
            go_ret
            exact ⟨ret_int (by rw [HF.out, if_neg h0, if_neg h1, if_neg (by rw [H2.out]; simp), hok.out, if_pos rfl, firstNZ_zero fun j hj => hd.out j (by omega)]), HBX.out.trans (hbr.mono (by have := HS.out; omega))⟩
  · have h2' : ((ns.length : Int) != ps.length) = true := by simp; omega
    go_enter Tryz.func49, Tryz.ntmps49
    go_wp2_with fail
    go_ret
    exact ⟨ret_int (by rw [HF.out, if_neg h0, if_neg h1, if_pos h2]), HBX.out⟩
end Go.Proofs.YtpjijbophjdgaaaGreat
