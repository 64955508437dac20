/- The contracts of parsimony.Fitch and of the reference's Fitch. The example of TopParsimonySum: top33Awake. split.OfStates. -/
import Derived.Test.YtcbmbhghmfehpaaGreatQ46
import Derived.Deep.RegionHeld3
import Derived.Test.YtcbmbhghmfehpaaGreatQ31
import Derived.Test.YtcbmbhghmfehpaaGreatQ7
import Derived.Test.YtcbmbhghmfehpaaGreatQ9
import Derived.Test.YtcbmbhghmfehpaaGreatQ35
namespace Go.Proofs.YtcbmbhghmfehpaaGreat
open Go.RowKit Go.Deep
def FiPost (w : World) (t : Tre) (st : List Int) (e : Ending) (w' : World) : Prop :=
  Up w w' ∧ e = .returned (.tuple #[.int .i64 (scoreN t st (unitL 16)), .int .i64 (parErr t st (unitL 16))])
theorem mat16 : matErr (unitL 16) = 0 := by decide +kernel
theorem len16 : (unitL 16).length = 16 := unitL_len 16
theorem par16 {t : Tre} (h : treeErr t = 0) (st : List Int) : parErr t st (unitL 16) = knownErr st (leavesL t.ns).length (-1) 16 := by
  unfold parErr; rw [if_neg (fun e => e h), if_neg (fun e => e mat16), len16]; rfl
theorem score16 {t : Tre} {st : List Int} {cs : List (List Int)} (h : parErr t st cs ≠ 0) : scoreN t st cs = 0 := by unfold scoreN; rw [if_neg h]
theorem least2_t (T : Nat → Prop) (w : World) (vr : Value) (row : List Int) (hR : IntsAt T w vr row) (hrn : row.length ≤ 1000) :
    Calls Tryz.prog 104 #[vr] w fun e w' => e = .returned (.tuple #[.int .i64 (bestK (fun _ => 0) (gi row) row.length).1, .int .i64 (bestK (fun _ => 0) (gi row) row.length).2]) ∧ w = w' := least_t T w vr row hR hrn
set_option maxRecDepth 100000 in
set_option maxHeartbeats 2000000 in
theorem fitch_t (S : Nat → Prop) (w : World) (v vs : Value) (t : Tre) (st : List Int) (hT : TreeAt S w v t) (hS : IntsAt S w vs st) (hp : t.ps.length ≤ 1000000) (hn : t.ns.length ≤ 1000000) (hz : ∀ k, (gs t.ns k).size ≤ 70000) (hst : st.length ≤ 1000000) :
    Calls Tryz.prog 42 #[v, vs] w (FiPost w t st) := by
  obtain ⟨P, N, rfl, hP, hN⟩ := hT
  have hu := Up.alloc w (.cells #[P, N] 45)
  have hT1 : TreeAt S (w.alloc (.cells #[P, N] 45)) (.agg #[P, N]) t := TreeAt.keep ⟨P, N, rfl, hP, hN⟩ (hu.kept S)
  have HK := Lib.hid (leaves_t S _ _ t hT1 hp hn hz)
  have HU := Lib.hid hu
  have HB0 := Lib.hid (box2_0 w P N 45)
  have HB1 := Lib.hid (box2_1 w P N 45)
  have HT := Lib.hid hT1
  have HS := Lib.hid (IntsAt.keep hS (hu.kept S))
  have HNS := Lib.hid hz
  clear hu hT1 hS hP hN hz
  go_enter Tryz.func42, Tryz.ntmps42
  go_wp2_with fail
  generalize w.alloc (.cells #[P, N] 45) = w1 at *
  refine HK.out.mono ?_
  rintro e w2 ⟨hb, ⟨he, rfl⟩ | ⟨he, vl, rfl, hl⟩⟩
  · have HU2 := Lib.hid (HU.out.trans (show Up w1 w2 from hb))
    have HE := Lib.hid he
    clear hb he HK
    go_wp2_with fail
    go_ret2
    have hpe : parErr t st (unitL 16) = 1 := by unfold parErr; rw [if_pos HE.out]
    exact ⟨HU2.out, by rw [score16 (by rw [hpe]; decide), hpe]; rfl⟩
  · have hu2 : Up w1 w2 := hb
    have hc0 := hu2.cell HB0.out
    have hc1 := hu2.cell HB1.out
    have HU2 := Lib.hid (HU.out.trans hu2)
    have HT2 := Lib.hid (HT.out.keep (hu2.kept S))
    have HS2 := Lib.hid (IntsAt.keep HS.out (hu2.kept S))
    obtain ⟨ql, capl, rfl, _, _⟩ := SlAt.open hl
    have HE := Lib.hid he
    have HKN := Lib.hid (known_t S w2 vs st (leavesL t.ns).length (-1) 16 HS2.out hst)
    have HPE := Lib.hid (par16 he st)
    clear hb he HK hu2 hl HU HB0 HB1 HT HS
    go_wp2_with fail
    refine HKN.out.mono ?_
    rintro e w3 ⟨rfl, hb3⟩
    have hu3 : Up w2 w3 := hb3
    have hc0 := hu3.cell hc0
    have hc1 := hu3.cell hc1
    have HU3 := Lib.hid (HU2.out.trans hu3)
    have HT3 := Lib.hid (HT2.out.keep (hu3.kept S))
    have HS3 := Lib.hid (IntsAt.keep HS2.out (hu3.kept S))
    clear hb3 hu3 HKN
    rw [← HPE.out]
    by_cases hpe : parErr t st (unitL 16) = 0
    · rw [hpe]
      have hv := parErr_valid hpe
      have HF : Hid (scoreN t st (unitL 16) = (bestK (fun _ => 0) (gi (tabRow t st (unitL 16) 0)) (unitL 16).length).1) := by unfold Hid scoreN; rw [if_pos hpe]
      have HP := Lib.hid hpe
      have HTB : Hid (∀ W vc, Up w3 W → RowsAt Any W vc (unitL 16) → Calls Tryz.prog 105 #[.agg #[P, N], vs, vc] W (Tb1Post W t st (unitL 16))) := fun W vc hW hR =>
        (table_v Any W _ _ _ t st (unitL 16) ((HT3.out.keep (hW.kept _)).sub fun _ _ _ => trivial) (IntsAt.sub (IntsAt.keep HS3.out (hW.kept _)) fun _ _ _ => trivial) hR HNS.out hv).mono fun _ _ h => tb1 hv h
      have hml : (tabRow t st (unitL 16) 0).length ≤ 1000 := by rw [tabRow_len, len16]; omega
      have hpos0 : (0 : Int) < (t.ps.length : Int) := by have := (treeErr_zero HE.out).1; omega
      have HML := Lib.hid hml
      have HW3 := Lib.hid (Up.refl w3)
      have hup : Hid (Up w3 (w3.drewN 1)) := Up.drewN w3 1
      clear hpe hv hml
      go_wp2_with fail
      go_region_with (first
        | (go_at_call 106; refine (unit_t _ 16 (by decide) (by decide)).mono ?_; rintro e w5 ⟨hb5, vc, rfl, hr5⟩; have hR5 := Lib.hid hr5; have hc0 := (hup.out.trans (show Up _ w5 from hb5)).cell hc0; have hc1 := (hup.out.trans (show Up _ w5 from hb5)).cell hc1; have hup : Hid (Up w3 w5) := hup.out.trans (show Up _ w5 from hb5); clear hb5 hr5)
        | (go_at_call 105; refine (HTB.out _ _ hup.out hR5.out).mono ?_; rintro e w6 ⟨tb, tof, tcap, rq, rc, rfl, hcell, hrow, hup6⟩; have hR6 := Lib.hid hrow; have hup : Hid (Up w3 w6) := hup.out.trans hup6; clear hup6 hrow)
        | (go_at_call 104; refine (least2_t Any _ _ _ hR6.out HML.out).mono ?_; rintro e w7 ⟨rfl, rfl⟩))
      all_goals
        go_wp2_with fail
        go_ret2
        exact ⟨HU3.out.trans hup.out, by rw [HF.out, HP.out, len16, tabRow_len, len16]; rfl⟩
    · have he1 : (parErr t st (unitL 16) != 0) = true := by simpa using hpe
      have HP := Lib.hid hpe
      clear hpe
      have HSC : Hid (scoreN t st (unitL 16) = 0) := score16 HP.out
      go_wp2_with fail
      go_ret2
      exact ⟨HU3.out, by rw [HSC.out]; rfl⟩
end Go.Proofs.YtcbmbhghmfehpaaGreat
namespace Go.Proofs.YtcbmbhghmfehpaaGreat
open Go.RowKit Go.Deep
theorem tX_f1 : parErr tX [0, 0, 1, 1] (unitL 16) = 0 ∧ scoreN tX [0, 0, 1, 1] (unitL 16) = 1 := by decide +kernel
theorem tX_f2 : parErr tX [0, 1, 0, 1] (unitL 16) = 0 ∧ scoreN tX [0, 1, 0, 1] (unitL 16) = 2 := by decide +kernel
def TxBlk (w : World) : World := ((w.alloc (.cells #[.int .i64 (-1), .int .i64 0, .int .i64 1, .int .i64 1, .int .i64 0, .int .i64 4, .int .i64 4] 3)).alloc (.cells #[.string ⟨#[]⟩, .string ⟨#[]⟩, .string ⟨#[65]⟩, .string ⟨#[66]⟩, .string ⟨#[]⟩, .string ⟨#[67]⟩, .string ⟨#[68]⟩] 9)).alloc (.cells #[.slice (some ⟨w.heap.size, 0, none⟩) 7 7, .slice (some ⟨w.heap.size + 1, 0, none⟩) 7 7] 45)
theorem txBlk_ok (w : World) : Up w (TxBlk w) ∧ (TxBlk w).cell? ⟨w.heap.size + 1 + 1, 0, none⟩ = some (.slice (some ⟨w.heap.size, 0, none⟩) 7 7) ∧ (TxBlk w).cell? ⟨w.heap.size + 1 + 1, 1, none⟩ = some (.slice (some ⟨w.heap.size + 1, 0, none⟩) 7 7) ∧
    TreeAt Any (TxBlk w) (.agg #[.slice (some ⟨w.heap.size, 0, none⟩) 7 7, .slice (some ⟨w.heap.size + 1, 0, none⟩) 7 7]) tX := by
  unfold TxBlk
  have u1 := Up.alloc w (.cells #[.int .i64 (-1), .int .i64 0, .int .i64 1, .int .i64 1, .int .i64 0, .int .i64 4, .int .i64 4] 3)
  have h1 := lit_ints w #[.int .i64 (-1), .int .i64 0, .int .i64 1, .int .i64 1, .int .i64 0, .int .i64 4, .int .i64 4] 3 tX.ps rfl 7 rfl
  have z1 : (w.alloc (.cells #[.int .i64 (-1), .int .i64 0, .int .i64 1, .int .i64 1, .int .i64 0, .int .i64 4, .int .i64 4] 3)).heap.size = w.heap.size + 1 := World.size_alloc _ _
  generalize w.alloc (.cells #[.int .i64 (-1), .int .i64 0, .int .i64 1, .int .i64 1, .int .i64 0, .int .i64 4, .int .i64 4] 3) = w1 at *
  have u2 := Up.alloc w1 (.cells #[.string ⟨#[]⟩, .string ⟨#[]⟩, .string ⟨#[65]⟩, .string ⟨#[66]⟩, .string ⟨#[]⟩, .string ⟨#[67]⟩, .string ⟨#[68]⟩] 9)
  have h2 := lit_strs w1 #[.string ⟨#[]⟩, .string ⟨#[]⟩, .string ⟨#[65]⟩, .string ⟨#[66]⟩, .string ⟨#[]⟩, .string ⟨#[67]⟩, .string ⟨#[68]⟩] 9 tX.ns rfl 7 rfl
  have z2 : (w1.alloc (.cells #[.string ⟨#[]⟩, .string ⟨#[]⟩, .string ⟨#[65]⟩, .string ⟨#[66]⟩, .string ⟨#[]⟩, .string ⟨#[67]⟩, .string ⟨#[68]⟩] 9)).heap.size = w.heap.size + 1 + 1 := by rw [World.size_alloc, z1]
  rw [z1] at h2
  generalize w1.alloc (.cells #[.string ⟨#[]⟩, .string ⟨#[]⟩, .string ⟨#[65]⟩, .string ⟨#[66]⟩, .string ⟨#[]⟩, .string ⟨#[67]⟩, .string ⟨#[68]⟩] 9) = w2 at *
  have u3 := Up.alloc w2 (.cells #[.slice (some ⟨w.heap.size, 0, none⟩) 7 7, .slice (some ⟨w.heap.size + 1, 0, none⟩) 7 7] 45)
  have b0 := box2_0 w2 (.slice (some ⟨w.heap.size, 0, none⟩) 7 7) (.slice (some ⟨w.heap.size + 1, 0, none⟩) 7 7) 45
  have b1 := box2_1 w2 (.slice (some ⟨w.heap.size, 0, none⟩) 7 7) (.slice (some ⟨w.heap.size + 1, 0, none⟩) 7 7) 45
  rw [z2] at b0 b1
  exact ⟨(u1.trans u2).trans u3, b0, b1, _, _, rfl, IntsAt.keep h1 ((u2.trans u3).kept _), StrsAt.keep h2 (u3.kept _)⟩
set_option maxRecDepth 100000 in
set_option maxHeartbeats 4000000 in
theorem awake33T_t (w : World) : Calls Tryz.prog 36 #[] w fun e w' => e = .returned (.bool true) ∧ Up w w' := by
  obtain ⟨hu, b0, b1, ht⟩ := txBlk_ok w
  have hsz : (TxBlk w).heap.size = w.heap.size + 1 + 1 + 1 := by unfold TxBlk; rw [World.size_alloc, World.size_alloc, World.size_alloc]
  unfold TxBlk at hu b0 b1 ht hsz
  have HU := Lib.hid hu
  have HB0 := Lib.hid b0
  have HB1 := Lib.hid b1
  have HT := Lib.hid ht
  have HSZ := Lib.hid hsz
  clear hu b0 b1 ht hsz
  go_enter Tryz.func36, Tryz.ntmps36
  go_wp2_with fail
  generalize (((w.alloc (.cells #[.int .i64 (-1), .int .i64 0, .int .i64 1, .int .i64 1, .int .i64 0, .int .i64 4, .int .i64 4] 3)).alloc (.cells #[.string ⟨#[]⟩, .string ⟨#[]⟩, .string ⟨#[65]⟩, .string ⟨#[66]⟩, .string ⟨#[]⟩, .string ⟨#[67]⟩, .string ⟨#[68]⟩] 9)).alloc (.cells #[.slice (some ⟨w.heap.size, 0, none⟩) 7 7, .slice (some ⟨w.heap.size + 1, 0, none⟩) 7 7] 45)) = w1 at *
  have hl2 := lit_ints w1 #[.int .i64 0, .int .i64 0, .int .i64 1, .int .i64 1] 3 [0, 0, 1, 1] rfl 4 rfl
  have hu2 := Up.alloc w1 (.cells #[.int .i64 0, .int .i64 0, .int .i64 1, .int .i64 1] 3)
  rw [HSZ.out] at hl2
  refine (fitch_t Any _ _ _ tX [0, 0, 1, 1] (HT.out.keep (hu2.kept _)) hl2 (by decide) (by decide) tX_small (by decide)).mono ?_
  rintro e w2 ⟨hf2, rfl⟩
  rw [tX_f1.1, tX_f1.2]
  have HV2 := Lib.hid (hu2.trans hf2)
  have b0 := HV2.out.cell HB0.out
  have b1 := HV2.out.cell HB1.out
  clear hl2 hu2 hf2
  go_wp2_with fail
  have hl3 := lit_ints w2 #[.int .i64 0, .int .i64 1, .int .i64 0, .int .i64 1] 3 [0, 1, 0, 1] rfl 4 rfl
  have hu3 := Up.alloc w2 (.cells #[.int .i64 0, .int .i64 1, .int .i64 0, .int .i64 1] 3)
  refine (fitch_t Any _ _ _ tX [0, 1, 0, 1] (HT.out.keep ((HV2.out.trans hu3).kept _)) hl3 (by decide) (by decide) tX_small (by decide)).mono ?_
  rintro e w3 ⟨hf3, rfl⟩
  rw [tX_f2.1, tX_f2.2]
  have HV3 := Lib.hid (HV2.out.trans (hu3.trans hf3))
  have b0 := HV3.out.cell HB0.out
  have b1 := HV3.out.cell HB1.out
  clear hl3 hu3 hf3 HV2
  go_wp2_with fail
  have hl4 := lit_strs w3 #[.string ⟨#[65]⟩, .string ⟨#[66]⟩, .string ⟨#[67]⟩, .string ⟨#[68]⟩] 9 fourX rfl 4 rfl
  have hu4 := Up.alloc w3 (.cells #[.string ⟨#[65]⟩, .string ⟨#[66]⟩, .string ⟨#[67]⟩, .string ⟨#[68]⟩] 9)
  refine (splOf_t Any _ _ _ tX fourX (HT.out.keep ((HV3.out.trans hu4).kept _)) hl4 (by decide) (by decide) tX_small (by decide)).mono ?_
  rintro e w4 ⟨hf4, v4, rfl, hr4⟩
  rw [tX_of.1]
  rw [tX_of.2] at hr4
  obtain ⟨rp, rc, rfl, _, _⟩ := rows_open hr4
  obtain ⟨b, off, q, c, rfl, hc, hq⟩ := rows_get hr4 (show 0 < 1 by decide)
  rw [Nat.add_zero] at hc
  have hq : IntsAt Any w4 (.slice q 2 c) [2, 3] := hq
  have hc : w4.cell? ⟨b, off, none⟩ = some (.slice q 2 c) := hc
  have HV4 := Lib.hid (HV3.out.trans (hu4.trans hf4))
  have hu5 := Up.alloc w4 (.cells #[.int .i64 2, .int .i64 3] 3)
  have HEQ := Lib.hid (equal_yes Any Any _ _ _ [2, 3] [2, 3] (IntsAt.keep hq (hu5.kept _)) (lit_ints w4 #[.int .i64 2, .int .i64 3] 3 [2, 3] rfl 2 rfl) (by decide) (by decide) rfl)
  have HU5 := Lib.hid (HU.out.trans (HV4.out.trans hu5))
  clear hl4 hu4 hf4 hr4 hq hu5 b0 b1 HV3
  go_wp2_with fail
  refine HEQ.out.mono ?_
  rintro e w5 ⟨rfl, n5, rfl⟩
  go_wp2_with fail
  go_ret
  exact ⟨rfl, HU5.out.trans (Up.drewN _ _)⟩
end Go.Proofs.YtcbmbhghmfehpaaGreat
namespace Go.Proofs.YtcbmbhghmfehpaaGreat
open Go.RowKit Go.Deep
theorem bad1_t (w : World) (s : Int) : FnD 96 #[] #[.int .i64 s] (.bool (badS s)) w := by
  intro m
  show Calls Tryz.prog 96 #[.int .i64 s] (w.drewN m) _
  obtain ⟨W, hW⟩ : ∃ W, W = w.drewN m := ⟨_, rfl⟩
  have HW := Lib.hid hW
  have HB : Hid (badS s = (decide (s < -1) || decide (16 ≤ s))) := rfl
  rw [← hW]
  clear hW
  generalize badS s = r at *
  by_cases h1 : s < -1
  · have d1 : decide (s < -1) = true := decide_eq_true h1
    have HE : Hid (r = true) := by unfold Hid; rw [HB.out, d1]; rfl
    clear h1
    go_enter Tryz.func96, Tryz.ntmps96
    go_wp2_with fail
    go_ret
    exact ⟨ret_bool HE.out.symm, m, HW.out⟩
  · have d1 : decide (s < -1) = false := decide_eq_false h1
    have HE : Hid (r = decide (16 ≤ s)) := by unfold Hid; rw [HB.out, d1]; rfl
    clear h1
    go_enter Tryz.func96, Tryz.ntmps96
    go_wp2_with fail
    go_ret
    exact ⟨ret_bool HE.out.symm, m, HW.out⟩
theorem zero_intM (W : World) : (zeroValue 3).run Tryz.prog W = .ok (.int .i64 0) W := by simp [Tryz.zeroValue3]
theorem len_imap {W : World} {b : Nat} {l : List (Int × Value)} (h : IMap W b l) (ty : TypeId) : (Builtin.len_ #[120] ty #[.map (some b)]).run Tryz.prog W = .ok (goInt l.length) W := by
  obtain ⟨es, clock, hb, hl⟩ := h
  have h1 := run_len_map (P := Tryz.prog) W 120 ty b es clock (by simp [Program.mapKeyOf, Program.mapElemOf, Tryz.underlying120]) hb
  have h2 : es.size = l.length := by have := congrArg List.length hl; simpa using this
  rw [h1, h2]
theorem osO_succ (st : List Int) (k : Nat) : osO st (k + 1) = osO st k ++ if gi st k != gi st 0 then [(k : Int)] else [] := by
  unfold osO; rw [memK_succ, Int.toNat_natCast]
end Go.Proofs.YtcbmbhghmfehpaaGreat
