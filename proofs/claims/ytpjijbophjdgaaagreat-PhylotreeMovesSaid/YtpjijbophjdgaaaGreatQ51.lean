/- The example of chapter 31: awake. The contracts of layer 35's reference's beyond and GreatNames, of layer 31's reference's Great. The contract of layer 31's reference's Great. The statements' bounds on layer 31's trees. PhylotreeTexts, plain. PhylotreeRerooted, plain. The parts of a restricted tree, plain: which sets of leaves they have; restricting twice. PhylotreeRestricted, plain. The splits of a tree: plain. split.Of: the map of names, the closure that asks it. -/
import Derived.Test.YtpjijbophjdgaaaGreatQ41
import Derived.Test.YtpjijbophjdgaaaGreatQ50
import Derived.Test.YtpjijbophjdgaaaGreatQ37
import Derived.Test.YtpjijbophjdgaaaGreatQ34
import Derived.Test.YtpjijbophjdgaaaGreatQ4
import Derived.Deep.RegionHeld3
import Derived.Test.YtpjijbophjdgaaaGreatQ25
import Derived.Test.YtpjijbophjdgaaaGreatQ36
import Derived.Test.YtpjijbophjdgaaaGreatQ42
import Derived.Test.YtpjijbophjdgaaaGreatQ48
import Derived.Test.YtpjijbophjdgaaaGreatQ44
import Derived.Test.YtpjijbophjdgaaaGreatQ33
import Derived.Test.YtpjijbophjdgaaaGreatQ26
namespace Go.Proofs.YtpjijbophjdgaaaGreat
open Go.RowKit Go.Deep
theorem parse31_t (w : World) (s : ByteArray) (hs : s.size ≤ 1000) : Calls Tryz.prog 46 #[.string s] w (PaPost w s) := parse_t w s hs (ia_ok s hs)
theorem get_small31 {α : Type} {P : α → Prop} {l : List α} {d : α} (h : ∀ x ∈ l, P x) (hd : P d) (k : Nat) : P (l.getD k d) := by
  by_cases hk : k < l.length
  · have : l.getD k d = l[k] := by simp [hk]
    rw [this]; exact h _ (List.getElem_mem hk)
  · have : l.getD k d = d := by simp [show l.length ≤ k by omega]
    rw [this]; exact hd
theorem ex_small (k : Nat) : (gs exT.ns k).size ≤ 70000 := get_small31 (P := fun x : ByteArray => x.size ≤ 70000) (by decide) (by decide) k
theorem exX_small (k : Nat) : (gs exX.ns k).size ≤ 70000 := get_small31 (P := fun x : ByteArray => x.size ≤ 70000) (by decide) (by decide) k
theorem exR_small (k : Nat) : (gs exR.ns k).size ≤ 70000 := get_small31 (P := fun x : ByteArray => x.size ≤ 70000) (by decide) (by decide) k
theorem exX_str : (⟨(txT exX).toArray⟩ : ByteArray) = ⟨#[40, 40, 65, 44, 67, 41, 44, 66, 41, 59]⟩ := by rw [ex_tx.2]
theorem exR_str : (⟨(txT exR).toArray⟩ : ByteArray) = ⟨#[40, 65, 44, 67, 41, 59]⟩ := by rw [ex_tr.2]
set_option maxRecDepth 100000 in
set_option maxHeartbeats 4000000 in
theorem awake31_t (w : World) : Calls Tryz.prog 30 #[] w fun e w' => e = .returned (.bool true) ∧ Up w w' := by
  go_enter Tryz.func30, Tryz.ntmps30
  go_wp2_with fail
  refine (parse31_t w exS (by decide)).mono ?_
  rintro e w1 ⟨hu1, v1, rfl, ht1⟩
  rw [ex_par.1]
  rw [ex_par.2] at ht1
  obtain ⟨P1, N1, rfl, hP1, hN1⟩ := ht1
  obtain ⟨pp, pc, rfl, _, _⟩ := SlAt.open hP1
  obtain ⟨np, nc, rfl, _, _⟩ := SlAt.open hN1
  have hP1 : IntsAt Any w1 (.slice pp exT.ps.length pc) exT.ps := hP1
  have hN1 : StrsAt Any w1 (.slice np exT.ns.length nc) exT.ns := hN1
  have hu2 := Up.alloc w1 (.cells #[.slice pp exT.ps.length pc, .slice np exT.ns.length nc] 45)
  have HB0 := Lib.hid (box2_0 w1 (.slice pp exT.ps.length pc) (.slice np exT.ns.length nc) 45)
  have HB1 := Lib.hid (box2_1 w1 (.slice pp exT.ps.length pc) (.slice np exT.ns.length nc) 45)
  have HT2 : Hid (TreeAt Any (w1.alloc (.cells #[.slice pp exT.ps.length pc, .slice np exT.ns.length nc] 45)) (.agg #[.slice pp exT.ps.length pc, .slice np exT.ns.length nc]) exT) := TreeAt.keep ⟨_, _, rfl, hP1, hN1⟩ (hu2.kept _)
  have HU2 := Lib.hid (hu1.trans hu2)
  clear hu1 hu2 hP1 hN1
  go_wp2_with fail
  generalize w1.alloc (.cells #[.slice pp exT.ps.length pc, .slice np exT.ns.length nc] 45) = w2 at *
  refine (example31_t w2).mono ?_
  rintro e w3 ⟨hu3, v3, rfl, ht3⟩
  have HRR := Lib.hid (reroot_t Any w3 v3 exT 3 ht3 (by decide) (by decide) ex_small)
  have HU3 := Lib.hid (HU2.out.trans hu3)
  have HT3 := Lib.hid (HT2.out.keep (hu3.kept _))
  have HB03 := Lib.hid (hu3.cell HB0.out)
  have HB13 := Lib.hid (hu3.cell HB1.out)
  clear hu3 ht3 HU2 HT2 HB0 HB1
  go_wp2_with fail
  refine HRR.out.mono ?_
  rintro e w4 ⟨hu4, v4, rfl, ht4⟩
  rw [ex_rr.1]
  rw [ex_rr.2] at ht4
  obtain ⟨P4, N4, rfl, hP4, hN4⟩ := ht4
  obtain ⟨pp4, pc4, rfl, _, _⟩ := SlAt.open hP4
  obtain ⟨np4, nc4, rfl, _, _⟩ := SlAt.open hN4
  have hP4 : IntsAt Any w4 (.slice pp4 exX.ps.length pc4) exX.ps := hP4
  have hN4 : StrsAt Any w4 (.slice np4 exX.ns.length nc4) exX.ns := hN4
  have hu5 := Up.alloc w4 (.cells #[.slice pp4 exX.ps.length pc4, .slice np4 exX.ns.length nc4] 45)
  have b0 := box2_0 w4 (.slice pp4 exX.ps.length pc4) (.slice np4 exX.ns.length nc4) 45
  have b1 := box2_1 w4 (.slice pp4 exX.ps.length pc4) (.slice np4 exX.ns.length nc4) 45
  have HT5 : Hid (TreeAt Any (w4.alloc (.cells #[.slice pp4 exX.ps.length pc4, .slice np4 exX.ns.length nc4] 45)) (.agg #[.slice pp4 exX.ps.length pc4, .slice np4 exX.ns.length nc4]) exX) := TreeAt.keep ⟨_, _, rfl, hP4, hN4⟩ (hu5.kept _)
  have hu45 := hu4.trans hu5
  have HU5 := Lib.hid (HU3.out.trans hu45)
  have HT35 := Lib.hid (HT3.out.keep (hu45.kept _))
  have HB05 := Lib.hid (hu45.cell HB03.out)
  have HB15 := Lib.hid (hu45.cell HB13.out)
  have HPR := Lib.hid (print_t Any _ _ exX HT5.out (by decide) (by decide) exX_small)
  clear hu4 hu5 hu45 hP4 hN4 HU3 HT3 HB03 HB13 HRR
  go_wp2_with fail
  generalize w4.alloc (.cells #[.slice pp4 exX.ps.length pc4, .slice np4 exX.ns.length nc4] 45) = w5 at *
  refine HPR.out.mono ?_
  rintro e w6 ⟨hu6, rfl⟩
  rw [ex_tx.1, exX_str]
  have HU6 := Lib.hid (HU5.out.trans hu6)
  have HT36 := Lib.hid (HT35.out.keep (hu6.kept _))
  have HB06 := Lib.hid (hu6.cell HB05.out)
  have HB16 := Lib.hid (hu6.cell HB15.out)
  clear hu6 b0 b1 HU5 HT35 HB05 HB15 HPR HT5
  go_wp2_with fail
  refine (example31_t w6).mono ?_
  rintro e w7 ⟨hu7, v7, rfl, ht7⟩
  have hu8 := Up.alloc w7 (.cells #[.int .i64 2, .int .i64 4] 3)
  have hL := lit_ints w7 #[.int .i64 2, .int .i64 4] 3 [2, 4] rfl 2 rfl
  have HRS := Lib.hid (restrict_t Any _ v7 _ exT [2, 4] (ht7.keep (hu8.kept _)) hL (by decide) (by decide) ex_small (by decide))
  have hu78 := hu7.trans hu8
  have HU8 := Lib.hid (HU6.out.trans hu78)
  have HT38 := Lib.hid (HT36.out.keep (hu78.kept _))
  have HB08 := Lib.hid (hu78.cell HB06.out)
  have HB18 := Lib.hid (hu78.cell HB16.out)
  clear hu7 hu8 hu78 ht7 hL HU6 HT36 HB06 HB16
  go_wp2_with fail
  generalize w7.alloc (.cells #[.int .i64 2, .int .i64 4] 3) = w8 at *
  refine HRS.out.mono ?_
  rintro e w9 ⟨hu9, v9, rfl, ht9⟩
  rw [ex_rs.1]
  rw [ex_rs.2] at ht9
  obtain ⟨P9, N9, rfl, hP9, hN9⟩ := ht9
  obtain ⟨pp9, pc9, rfl, _, _⟩ := SlAt.open hP9
  obtain ⟨np9, nc9, rfl, _, _⟩ := SlAt.open hN9
  have hP9 : IntsAt Any w9 (.slice pp9 exR.ps.length pc9) exR.ps := hP9
  have hN9 : StrsAt Any w9 (.slice np9 exR.ns.length nc9) exR.ns := hN9
  have hu10 := Up.alloc w9 (.cells #[.slice pp9 exR.ps.length pc9, .slice np9 exR.ns.length nc9] 45)
  have b0 := box2_0 w9 (.slice pp9 exR.ps.length pc9) (.slice np9 exR.ns.length nc9) 45
  have b1 := box2_1 w9 (.slice pp9 exR.ps.length pc9) (.slice np9 exR.ns.length nc9) 45
  have HT10 : Hid (TreeAt Any (w9.alloc (.cells #[.slice pp9 exR.ps.length pc9, .slice np9 exR.ns.length nc9] 45)) (.agg #[.slice pp9 exR.ps.length pc9, .slice np9 exR.ns.length nc9]) exR) := TreeAt.keep ⟨_, _, rfl, hP9, hN9⟩ (hu10.kept _)
  have hu910 := hu9.trans hu10
  have HU10 := Lib.hid (HU8.out.trans hu910)
  have HT310 := Lib.hid (HT38.out.keep (hu910.kept _))
  have HB010 := Lib.hid (hu910.cell HB08.out)
  have HB110 := Lib.hid (hu910.cell HB18.out)
  have HPR := Lib.hid (print_t Any _ _ exR HT10.out (by decide) (by decide) exR_small)
  clear hu9 hu10 hu910 hP9 hN9 HU8 HT38 HB08 HB18 HRS
  go_wp2_with fail
  generalize w9.alloc (.cells #[.slice pp9 exR.ps.length pc9, .slice np9 exR.ns.length nc9] 45) = w10 at *
  refine HPR.out.mono ?_
  rintro e w11 ⟨hu11, rfl⟩
  rw [ex_tr.1, exR_str]
  have HU11 := Lib.hid (HU10.out.trans hu11)
  have HT11 := Lib.hid (HT310.out.keep (hu11.kept _))
  have HB011 := Lib.hid (hu11.cell HB010.out)
  have HB111 := Lib.hid (hu11.cell HB110.out)
  clear hu11 b0 b1 HU10 HT310 HB010 HB110 HPR HT10
  go_wp2_with fail
  have hup : Hid (Up w11 (w11.drewN 1)) := Up.drewN w11 1
  go_region_held3 (fun w' => Hid (Up w11 w') ∧ w'.cell? ⟨w1.heap.size, 0, none⟩ = some (.slice pp exT.ps.length pc) ∧ w'.cell? ⟨w1.heap.size, 1, none⟩ = some (.slice np exT.ns.length nc)) (exact ⟨hup, hup.out.cell HB011.out, hup.out.cell HB111.out⟩) (first
    | (go_at_call 91; refine (example31_t _).mono ?_; rintro e w12 ⟨hb12, v12, rfl, ht12⟩; have HT12 := Lib.hid ht12; have hup : Hid (Up w11 w12) := hup.out.trans hb12; clear hb12 ht12)
    | (go_at_call 37; refine (sameTree_yes Any Any _ _ _ exT (HT11.out.keep (hup.out.kept _)) HT12.out (by decide) (by decide)).mono ?_; rintro e w13 ⟨rfl, hb13⟩; have hup : Hid (Up w11 w13) := hup.out.trans hb13; clear hb13))
  go_wp2_with fail
  go_ret
  exact ⟨rfl, HU11.out.trans hup.out⟩
end Go.Proofs.YtpjijbophjdgaaaGreat
namespace Go.Proofs.YtpjijbophjdgaaaGreat
open Go.RowKit Go.Deep
end Go.Proofs.YtpjijbophjdgaaaGreat
namespace Go.Proofs.YtpjijbophjdgaaaGreat
open Go.RowKit Go.Deep
def gt31B (t : Tre) (n : Nat) : Bool := (decide (n < t.ps.length) && decide (t.ps.length ≤ 64)) || decide (66 < t.ps.length) || decide (t.ps.length + 2 < t.ns.length) || (List.range t.ns.length).any fun k => decide (20 < (gs t.ns k).size)
set_option maxRecDepth 100000 in
set_option maxHeartbeats 2000000 in
theorem great31_t (S : Nat → Prop) (w : World) (v : Value) (t : Tre) (n : Nat) (hT : TreeAt S w v t) (hp : t.ps.length ≤ 9223372036854775807) (hn : t.ns.length ≤ 9223372036854775807) (hz : ∀ k, (gs t.ns k).size ≤ 9223372036854775807) :
    Calls Tryz.prog 90 #[v, .int .i64 n] w fun e w' => e = .returned (.bool (gt31B t n)) ∧ Below w.heap.size w w' := by
  obtain ⟨P, N, rfl, hP, hN⟩ := hT
  have hu := Up.alloc w (.cells #[P, N] 45)
  have HU := Lib.hid hu
  have HN := Lib.hid (StrsAt.keep hN (hu.kept S))
  obtain ⟨pp, pc, rfl, _, _⟩ := SlAt.open hP
  obtain ⟨np, nc, rfl, _, _⟩ := SlAt.open hN
  have HB0 := Lib.hid (box2_0 w (.slice pp t.ps.length pc) (.slice np t.ns.length nc) 45)
  have HB1 := Lib.hid (box2_1 w (.slice pp t.ps.length pc) (.slice np t.ns.length nc) 45)
  have hc0 := HB0.out
  have hc1 := HB1.out
  have HZ := Lib.hid hz
  have HE : Hid (gt31B t n = ((decide (n < t.ps.length) && decide (t.ps.length ≤ 64)) || decide (66 < t.ps.length) || decide (t.ps.length + 2 < t.ns.length) || (List.range t.ns.length).any fun k => decide (20 < (gs t.ns k).size))) := rfl
  clear hu hP hN hz
  generalize gt31B t n = r at *
  obtain ⟨ps, ns⟩ := t
  simp only at *
  generalize ps.length = m at *
  go_enter Tryz.func90, Tryz.ntmps90
  go_wp2_with fail
  all_goals generalize w.alloc (.cells #[.slice pp m pc, .slice np ns.length nc] 45) = w1 at *
  all_goals try (go_ret; exact ⟨ret_bool (by rw [HE.out]; clear HE; symm; simp; omega), HU.out⟩)
  all_goals have HT : Hid (∀ k, k < ns.length → decide (20 < (gs ns k).size) = true → r = true) := fun k hk hb => by rw [HE.out, any_at (p := fun k => decide (20 < (gs ns k).size)) hk hb]; simp
  all_goals have HF : Hid ((∀ k, k < ns.length → decide (20 < (gs ns k).size) = false) → r = false) := fun hb => by rw [HE.out, any_none (p := fun k => decide (20 < (gs ns k).size)) hb]; clear HE; simp; omega
  all_goals clear HE
  all_goals go_loop [5] (fun i => ∃ k : Nat, k ≤ ns.length ∧ i = .int .i64 k ∧ Hid (∀ j, j < k → decide (20 < (gs ns j).size) = false)) (fun i => ns.length - (intOf i).toNat)
  case atStart => exact ⟨0, Nat.zero_le _, rfl, fun j hj => absurd hj (Nat.not_lt_zero _)⟩
  case atStart => exact ⟨0, Nat.zero_le _, rfl, fun j hj => absurd hj (Nat.not_lt_zero _)⟩
  all_goals
    obtain ⟨k, hk, rfl, hd⟩ := hrel
    by_cases hlt : k < ns.length
    · obtain ⟨b, off, rfl, hc⟩ := strs_get HN.out hlt
      have i1 : (0 : Int) ≤ (k : Int) := by omega
      have i2 : (k : Int) < (ns.length : Int) := by omega
      have hzk := HZ.out k
      have HTK := Lib.hid (HT.out k hlt)
      have HDK : Hid (decide (20 < (gs ns k).size) = false → ∀ j, j < k + 1 → decide (20 < (gs ns j).size) = false) := fun hx j hj => if e : j = k then by subst e; exact hx else hd.out j (by omega)
      generalize gs ns k = y at *
      by_cases h1 : 20 < y.size
      · have e0 : decide ((20 : Int) < (y.size : Int)) = true := by simp; omega
        have HQ := Lib.hid (HTK.out (by simpa using h1))
        clear h1
        go_wp2_with fail
        go_ret
        exact ⟨ret_bool HQ.out.symm, HU.out⟩
      · have e0 : decide ((20 : Int) < (y.size : Int)) = false := by simp; omega
        have HQ := Lib.hid (HDK.out (by simpa using h1))
        clear h1
        go_wp2_with fail
        go_round
        case rel => exact ⟨k + 1, by omega, by go_num, HQ.out⟩
        case measure => simp [intOf]; omega
    · obtain rfl : k = ns.length := by omega
      have HQ := Lib.hid (HF.out hd.out)
      clear hlt hk
      go_wp2_with fail
      go_ret
      exact ⟨ret_bool HQ.out.symm, HU.out⟩
end Go.Proofs.YtpjijbophjdgaaaGreat
namespace Go.Proofs.YtpjijbophjdgaaaGreat
open Go.RowKit Go.Deep
set_option maxRecDepth 100000 in
set_option maxHeartbeats 2000000 in
theorem lgreat31_t (S : Nat → Prop) (w : World) (v : Value) (t : Tre) (hT : TreeAt S w v t) (hp : t.ps.length ≤ 9223372036854775807) (hn : t.ns.length ≤ 9223372036854775807) (hz : ∀ k, (gs t.ns k).size ≤ 9223372036854775807) :
    Calls Tryz.prog 29 #[v] w fun e w' => e = .returned (.bool (gt31B t 16)) ∧ Up w w' := by
  obtain ⟨P, N, rfl, hP, hN⟩ := hT
  have hu := Up.alloc w (.cells #[P, N] 45)
  have HG : Hid (Calls Tryz.prog 90 #[.agg #[P, N], .int .i64 16] (w.alloc (.cells #[P, N] 45)) fun e w' => e = .returned (.bool (gt31B t 16)) ∧ Up (w.alloc (.cells #[P, N] 45)) w') := great31_t S _ _ t 16 (TreeAt.keep ⟨P, N, rfl, hP, hN⟩ (hu.kept S)) hp hn hz
  have HU := Lib.hid hu
  clear hu hP hN hp hn hz
  go_enter Tryz.func29, Tryz.ntmps29
  go_wp2_with fail
  refine HG.out.mono ?_
  rintro e w2 ⟨rfl, hu2⟩
  go_wp2_with fail
  go_ret
  exact ⟨rfl, HU.out.trans hu2⟩
end Go.Proofs.YtpjijbophjdgaaaGreat
namespace Go.Proofs.YtpjijbophjdgaaaGreat
section
variable {t : Tre}
end
end Go.Proofs.YtpjijbophjdgaaaGreat
namespace Go.Proofs.YtpjijbophjdgaaaGreat
section
variable {t : Tre}
end
section
variable {t : Tre} {la : Nat}
end
end Go.Proofs.YtpjijbophjdgaaaGreat
namespace Go.Proofs.YtpjijbophjdgaaaGreat
section
variable {t : Tre} {L : List Int}
end
end Go.Proofs.YtpjijbophjdgaaaGreat
namespace Go.Proofs.YtpjijbophjdgaaaGreat
section
variable {t : Tre}
end
end Go.Proofs.YtpjijbophjdgaaaGreat
namespace Go.Proofs.YtpjijbophjdgaaaGreat
section
variable {t : Tre} {names : List ByteArray}
end
end Go.Proofs.YtpjijbophjdgaaaGreat
namespace Go.Proofs.YtpjijbophjdgaaaGreat
open Go.RowKit Go.Deep
def smK (names : List ByteArray) : Nat → List (ByteArray × Value)
  | 0 => []
  | k + 1 => putS (smK names k) (gs names k) (.bool true)
def inNm (names : List ByteArray) (k : Nat) (s : ByteArray) : Bool := (List.range k).any fun j => decide (gs names j = s)
theorem smK_uniq (names : List ByteArray) : ∀ k, UniqS (smK names k)
  | 0 => List.nodup_nil
  | k + 1 => putS_uniq (smK_uniq names k) _ _
theorem smK_look (names : List ByteArray) (s : ByteArray) : ∀ k, ((smK names k).lookup s).getD (.bool false) = .bool (inNm names k s)
  | 0 => rfl
  | k + 1 => by
    rw [smK, lookup_putS]
    have e : inNm names (k + 1) s = (inNm names k s || decide (gs names k = s)) := by unfold inNm; rw [List.range_succ, List.any_append]; simp
    rw [e]
    by_cases h : s = gs names k
    · rw [if_pos h, decide_eq_true h.symm]; simp
    · rw [if_neg h, smK_look names s k, decide_eq_false (fun q => h q.symm)]; simp
theorem zero_bool (w : World) : (zeroValue 4).run Tryz.prog w = .ok (.bool false) w := by simp [Tryz.zeroValue4]
end Go.Proofs.YtpjijbophjdgaaaGreat
