/- The contracts of parsimony.known, matrix, Check. -/
import Derived.Test.YtflikmllpimaiaaB13
import Derived.Test.YtflikmllpimaiaaB6
import Derived.Test.YtflikmllpimaiaaS
namespace Go.Proofs.Ytflikmllpimaiaa
open Go.RowKit Go.Deep
def StI (e : Ending) (w' : World) (w : World) (n : Int) : Prop := e = .returned (.int .i64 n) ∧ Below w.heap.size w w'
set_option maxHeartbeats 400000 in
theorem known1_t (w : World) (b1 b2 : Nat) (x lo hi : Int) (h1 : w.cell? ⟨b1, 0, none⟩ = some (.int .i64 lo)) (h2 : w.cell? ⟨b2, 0, none⟩ = some (.int .i64 hi)) :
    FnIs 82 #[.pointer (some ⟨b1, 0, none⟩), .pointer (some ⟨b2, 0, none⟩)] #[.int .i64 x] (.bool (decide (x < lo) || decide (hi ≤ x))) w := by
  unfold FnIs
  go_enter Try.func82, Try.ntmps82
  by_cases hx : x < lo
  · go_wp2_with fail
    go_ret
    exact ⟨ret_bool (by simp [hx]), rfl⟩
  · go_wp2_with fail
    go_ret
    exact ⟨ret_bool (by simp; omega), rfl⟩
set_option maxHeartbeats 400000 in
theorem known_t (S : Nat → Prop) (w : World) (v : Value) (st : List Int) (n : Nat) (lo hi : Int) (h : IntsAt S w v st) (hn : st.length ≤ 1000000) :
    Calls Try.prog 55 #[v, .int .i64 n, .int .i64 lo, .int .i64 hi] w fun e w' => StI e w' w (knownErr st n lo hi) := by
  have hfin : knownErr st n lo hi = if st.length ≠ n then 9 else if stBad st lo hi then 2 else 0 := rfl
  have HF := Lib.hid hfin
  have hb : Below w.heap.size w ((w.alloc (.cells #[.int .i64 lo] 3)).alloc (.cells #[.int .i64 hi] 3)) := ((Below.refl _ _).alloc (Nat.le_refl _) _).alloc (by simp) _
  have hI := SlAt.keep h (Kept.below hb)
  obtain ⟨p, cap, rfl, hcap, H⟩ := SlAt.open h
  have hc1 : ((w.alloc (.cells #[.int .i64 lo] 3)).alloc (.cells #[.int .i64 hi] 3)).cell? ⟨w.heap.size, 0, none⟩ = some (.int .i64 lo) := by simp
  have hc2 : ((w.alloc (.cells #[.int .i64 lo] 3)).alloc (.cells #[.int .i64 hi] 3)).cell? ⟨w.heap.size + 1, 0, none⟩ = some (.int .i64 hi) := by simp
  have hC := ints_has_t 82 #[.pointer (some ⟨w.heap.size, 0, none⟩), .pointer (some ⟨w.heap.size + 1, 0, none⟩)] (enters_of Try.func82 (by kernel_rfl) rfl) S _ _ st.length (fun k => .int .i64 (gi st k)) (fun k => decide (gi st k < lo) || decide (hi ≤ gi st k)) hI hn
    (fun k _ => known1_t _ _ _ (gi st k) lo hi hc1 hc2)
  have HC := Lib.hid hC
  have HB := Lib.hid hb
  clear hfin hI H hc1 hc2 hC hb h
  by_cases hl : st.length = n
  · have hl1 : ((st.length : Int) != n) = false := by simp [hl]
    have HL := Lib.hid hl
    clear hl
    have hsb : stBad st lo hi = (List.range st.length).any fun k => decide (gi st k < lo) || decide (hi ≤ gi st k) := rfl
    have HSB := Lib.hid hsb
    clear hsb
    go_enter Try.func55, Try.ntmps55
    go_wp2_with fail
    refine HC.out.mono ?_
    rintro e w' ⟨rfl, rfl⟩
    rw [← HSB.out]
    go_wp2_with fail
    · go_ret
      exact ⟨ret_int (by rw [HF.out, if_neg (by rw [HL.out]; simp), if_pos ‹_›]), HB.out⟩
    · go_ret
      exact ⟨ret_int (by rw [HF.out, if_neg (by rw [HL.out]; simp), if_neg (by rw [‹stBad st lo hi = false›]; simp)]), HB.out⟩
  · have hl1 : ((st.length : Int) != n) = true := by simp; omega
    go_enter Try.func55, Try.ntmps55
    go_wp2_with fail
    go_ret
    exact ⟨ret_int (by rw [HF.out, if_pos hl]), HB.out⟩
set_option maxHeartbeats 400000 in
theorem matrix1_t (w : World) (b1 : Nat) (q : Option Addr) (n c m c2 : Nat) (a : Option Addr) (h1 : w.cell? ⟨b1, 0, none⟩ = some (.slice q n c)) :
    FnIs 81 #[.pointer (some ⟨b1, 0, none⟩)] #[.slice a m c2] (.bool (decide (m ≠ n))) w := by
  unfold FnIs
  go_enter Try.func81, Try.ntmps81
  go_wp2_with fail
  go_ret
  exact ⟨ret_bool (by rw [Bool.eq_iff_iff]; simp; omega), rfl⟩
set_option maxRecDepth 100000 in
set_option maxHeartbeats 800000 in
theorem matrix_t (S : Nat → Prop) (w : World) (v : Value) (cs : List (List Int)) (h : RowsAt S w v cs) (hn : cs.length ≤ 1000000) (hr : ∀ k, (gl cs k).length ≤ 1000000) :
    Calls Try.prog 54 #[v] w fun e w' => StI e w' w (matErr cs) := by
  have hfin : matErr cs = if cs.length = 0 then 5 else if 16 < cs.length then 4 else if lenBad cs then 9 else if matBadK cs cs.length then 2 else 0 := rfl
  have HF := Lib.hid hfin
  obtain ⟨f, hsl, hrow⟩ := h
  have hb : Below w.heap.size w (w.alloc (.cells #[v] 26)) := (Below.refl _ _).alloc (Nat.le_refl _) _
  have hI := SlAt.keep hsl (Kept.below hb)
  have hrow' : ∀ k, k < cs.length → IntsAt S (w.alloc (.cells #[v] 26)) (f k) (gl cs k) := fun k hk => (hrow k hk).keep (Kept.below hb)
  obtain ⟨p, cap, rfl, hcap, H⟩ := SlAt.open hI
  have hc1 : (w.alloc (.cells #[.slice p cs.length cap] 26)).cell? ⟨w.heap.size, 0, none⟩ = some (.slice p cs.length cap) := by simp
  have hC := rows_has_t 81 #[.pointer (some ⟨w.heap.size, 0, none⟩)] (enters_of Try.func81 (by kernel_rfl) rfl) S _ _ cs.length f (fun k => decide ((gl cs k).length ≠ cs.length)) hI hn
    (fun k hk => by
      obtain ⟨a, c, e, _, _⟩ := SlAt.open (hrow' k hk)
      rw [e]; exact matrix1_t _ _ _ _ _ _ _ _ hc1)
  have HC := Lib.hid hC
  have HB := Lib.hid hb
  have HH := Lib.hid H
  have HR := Lib.hid hrow'
  clear hfin hI H hC hb hsl hrow hrow'
  by_cases h0 : cs.length = 0
  · have HX : Hid (cs.length = 0) := h0
    have h0' : ((cs.length : Int) == 0) = true := by simp [h0]
    clear h0
    go_enter Try.func54, Try.ntmps54
    go_wp2_with fail
    go_ret
    exact ⟨ret_int (by rw [HF.out, if_pos HX.out]), HB.out⟩
  have h0' : ((cs.length : Int) == 0) = false := by simpa using h0
  by_cases h1 : 16 < cs.length
  · go_enter Try.func54, Try.ntmps54
    go_wp2_with fail
    go_ret
    exact ⟨ret_int (by rw [HF.out, if_neg h0, if_pos h1]), HB.out⟩
  have hlb : lenBad cs = (List.range cs.length).any fun a => decide ((gl cs a).length ≠ cs.length) := rfl
  rw [← hlb] at HC
  clear hlb
  cases hl : lenBad cs
  · rw [hl] at HC
    have HL := Lib.hid hl
    have hlen : ∀ k, k < cs.length → (gl cs k).length = cs.length := fun k hk => by
      have := any_false hl hk
      simpa using this
    have HLEN := Lib.hid hlen
    clear hl hlen
    go_enter Try.func54, Try.ntmps54
    go_wp2_with fail
    refine HC.out.mono ?_
    rintro e w' ⟨rfl, rfl⟩
    go_wp2_with fail
    go_loop [3, 4, 5, 6, 21, 28] (fun _ _ _ _ i _ => ∃ k : Nat, k ≤ cs.length ∧ i = .int .i64 k ∧ Hid (∀ j, j < k → rowBad j (gl cs j) (gl cs j).length = false)) (fun _ _ _ _ i _ => cs.length - (intOf i).toNat)
    case atStart => exact ⟨0, Nat.zero_le _, rfl, fun j hj => absurd hj (Nat.not_lt_zero _)⟩
    case round =>
      obtain ⟨k, hk, rfl, hd⟩ := hrel
      by_cases hlt : k < cs.length
      · obtain ⟨b, off, rfl, hc⟩ := HH.out k hlt
        obtain ⟨ra, rc, re, hrc, Hrow⟩ := SlAt.open (HR.out k hlt)
        rw [re] at hc
        have hrl := hr k
        have HROW := Lib.hid Hrow
        have HRB : Hid (matBadK cs cs.length = true → matErr cs = 2) := fun h => by rw [HF.out, if_neg h0, if_neg h1, HL.out, if_neg (by simp), if_pos h]
        have hmb : ∀ j, j < (gl cs k).length → badc k j (gi (gl cs k) j) = true → matErr cs = 2 := fun j hj hb => HRB.out (any_at hlt (any_at hj hb))
        have HMB := Lib.hid hmb
        have hrb : (∀ j, j < (gl cs k).length → badc k j (gi (gl cs k) j) = false) → rowBad k (gl cs k) (gl cs k).length = false := fun h => any_none h
        have HRZ := Lib.hid hrb
        clear Hrow hmb hrb HH HR hr re
        generalize hrw : gl cs k = row at *
        have HRW := Lib.hid hrw
        clear hrw
        go_wp2_with fail
        go_loop [5, 6, 28] (fun _ _ i => ∃ m : Nat, m ≤ row.length ∧ i = .int .i64 m ∧ Hid (∀ j, j < m → badc k j (gi row j) = false)) (fun _ _ i => row.length - (intOf i).toNat)
        case atStart => exact ⟨0, Nat.zero_le _, rfl, fun j hj => absurd hj (Nat.not_lt_zero _)⟩
        case round =>
          obtain ⟨m, hm, rfl, hd2⟩ := hrel
          by_cases hmt : m < row.length
          · obtain ⟨rb, roff, rfl, hcr⟩ := HROW.out m hmt
            clear HROW
            generalize hx : gi row m = x at *
            have HX := Lib.hid hx
            clear hx
            by_cases hb1 : x < 0 ∨ 1000 < x
            · have HBD := Lib.hid (HMB.out m hmt (by rw [HX.out]; unfold badc; rcases hb1 with h | h <;> simp [h]))
              rcases hb1 with hb1 | hb1
              · go_wp2_with fail
                go_ret
                exact ⟨ret_int HBD.out.symm, HB.out⟩
              · go_wp2_with fail
                go_ret
                exact ⟨ret_int HBD.out.symm, HB.out⟩
            · have hb2 : 0 ≤ x ∧ x ≤ 1000 := by omega
              obtain ⟨hb3, hb4⟩ := hb2
              clear hb1
              by_cases hkm : k = m ∧ x ≠ 0
              · obtain ⟨rfl, hx0⟩ := hkm
                have HBD := Lib.hid (HMB.out k hmt (by rw [HX.out]; unfold badc; simp [hx0]))
                have hx1 : (x != 0) = true := by simpa using hx0
                clear hx0
                go_wp2_with fail
                go_ret
                exact ⟨ret_int HBD.out.symm, HB.out⟩
              · have hgood : badc k m x = false := by
                  unfold badc
                  have e1 : decide (x < 0) = false := by simp; omega
                  have e2 : decide (1000 < x) = false := by simp; omega
                  have e3 : (decide (k = m) && decide (x ≠ 0)) = false := by
                    rw [Bool.eq_false_iff]; intro e; apply hkm; simpa using e
                  rw [e1, e2, e3]; rfl
                have HG := Lib.hid hgood
                clear hgood
                by_cases hkm2 : k = m
                · have hx0 : x = 0 := by
                    by_cases e : x = 0
                    · exact e
                    · exact absurd ⟨hkm2, e⟩ hkm
                  subst hx0
                  clear hkm
                  go_wp2_with fail
                  go_round
                  case rel => exact ⟨m + 1, by omega, by go_num, fun j hj => if e : j = m then by subst e; rw [HX.out]; exact HG.out else hd2.out j (by omega)⟩
                  case measure => simp [intOf]; omega
                · have hne : ((k : Int) == (m : Int)) = false := by rw [beq_eq_false_iff_ne]; omega
                  clear hkm hkm2
                  go_wp2_with fail
                  go_round
                  case rel => exact ⟨m + 1, by omega, by go_num, fun j hj => if e : j = m then by subst e; rw [HX.out]; exact HG.out else hd2.out j (by omega)⟩
                  case measure => simp [intOf]; omega
          · have hall := HRZ.out fun j hj => hd2.out j (by omega)
            have HALL := Lib.hid hall
            clear hall
            go_wp2_with fail
            go_round
            case rel => exact ⟨k + 1, by omega, by go_num, fun j hj => if e : j = k then by subst e; rw [HRW.out]; exact HALL.out else hd.out j (by omega)⟩
            case measure => simp [intOf]; omega
      · have hmb0 : matBadK cs cs.length = false := any_none fun j hj => hd.out j (by omega)
        have HMB0 := Lib.hid hmb0
        clear hmb0
        go_wp2_with fail
        go_ret
        exact ⟨ret_int (by rw [HF.out, if_neg h0, if_neg h1, HL.out, if_neg (by simp), HMB0.out]; simp), HB.out⟩
  · rw [hl] at HC
    have HL := Lib.hid hl
    clear hl
    go_enter Try.func54, Try.ntmps54
    go_wp2_with fail
    refine HC.out.mono ?_
    rintro e w' ⟨rfl, rfl⟩
    go_wp2_with fail
    go_ret
    exact ⟨ret_int (by rw [HF.out, if_neg h0, if_neg h1, if_pos HL.out]), HB.out⟩
set_option maxRecDepth 100000 in
set_option maxHeartbeats 800000 in
theorem pcheck_t (S : Nat → Prop) (w : World) (v vs vc : Value) (t : Tre) (st : List Int) (cs : List (List Int)) (hT : TreeAt S w v t) (hS : IntsAt S w vs st) (hC : RowsAt S w vc cs)
    (hp : t.ps.length ≤ 1000000) (hn : t.ns.length ≤ 1000000) (hz : ∀ k, (gs t.ns k).size ≤ 70000) (hst : st.length ≤ 1000000) (hcn : cs.length ≤ 1000000) (hr : ∀ k, (gl cs k).length ≤ 1000000) :
    Calls Try.prog 37 #[v, vs, vc] w fun e w' => StI e w' w (parErr t st cs) := by
  have hfin : parErr t st cs = if treeErr t ≠ 0 then 1 else if matErr cs ≠ 0 then matErr cs else knownErr st (leavesL t.ns).length (-1) cs.length := rfl
  have HF := Lib.hid hfin
  obtain ⟨P, N, rfl, hP, hN⟩ := hT
  have hb : Below w.heap.size w (w.alloc (.cells #[P, N] 25)) := (Below.refl _ _).alloc (Nat.le_refl _) _
  have hL := leaves_t S _ _ t (TreeAt.keep ⟨P, N, rfl, hP, hN⟩ (Kept.below hb)) hp hn hz
  have HB := Lib.hid hb
  have HL := Lib.hid hL
  obtain ⟨q, c, rfl, _, _⟩ := SlAt.open hS
  obtain ⟨f, hsl, hrow⟩ := hC
  obtain ⟨q2, c2, rfl, _, _⟩ := SlAt.open hsl
  have HC : Hid (RowsAt S w (.slice q2 cs.length c2) cs) := ⟨f, hsl, hrow⟩
  have HS : Hid (IntsAt S w (.slice q st.length c) st) := hS
  clear hfin hb hL hP hN hS hsl hrow
  go_enter Try.func37, Try.ntmps37
  go_wp2_with fail
  refine HL.out.mono ?_
  rintro e w1 ⟨hb1, ⟨he, rfl⟩ | ⟨he, lv, rfl, hlv⟩⟩
  · have HE := Lib.hid he
    clear he
    go_wp2_with fail
    go_ret
    exact ⟨ret_int (by rw [HF.out, if_pos HE.out]), HB.out.trans (hb1.mono (by simp))⟩
  · obtain ⟨lp, lc, rfl, _, _⟩ := SlAt.open hlv
    have HE := Lib.hid he
    have hb1' : Below w.heap.size w w1 := HB.out.trans (hb1.mono (by simp))
    have HB1 := Lib.hid hb1'
    have hM := matrix_t S w1 _ cs (HC.out.keep (Kept.below hb1')) hcn hr
    have HM := Lib.hid hM
    clear he hb1 hlv hb1' hM
    go_wp2_with fail
    refine HM.out.mono ?_
    rintro e w2 ⟨rfl, hb2⟩
    have hb2' : Below w.heap.size w w2 := HB1.out.trans (hb2.mono HB1.out.size)
    have hK := known_t S w2 _ st (leavesL t.ns).length (-1) cs.length (HS.out.keep (Kept.below hb2')) hst
    have HK := Lib.hid hK
    have HB2 := Lib.hid hb2'
    clear hK hb2' hb2
    by_cases hm : matErr cs = 0
    · have hm1 : (matErr cs != 0) = false := by simpa using hm
      have HMM := Lib.hid hm
      clear hm
      go_wp2_with fail
      refine HK.out.mono ?_
      rintro e w3 ⟨rfl, hb3⟩
      go_wp2_with fail
      go_ret
      exact ⟨ret_int (by rw [HF.out, if_neg (by rw [HE.out]; simp), if_neg (by rw [HMM.out]; simp)]), HB2.out.trans (hb3.mono HB2.out.size)⟩
    · have hm1 : (matErr cs != 0) = true := by simpa using hm
      have HMM := Lib.hid hm
      clear hm
      go_wp2_with fail
      go_ret
      exact ⟨ret_int (by rw [HF.out, if_neg (by rw [HE.out]; simp), if_pos HMM.out]), HB2.out⟩
end Go.Proofs.Ytflikmllpimaiaa
