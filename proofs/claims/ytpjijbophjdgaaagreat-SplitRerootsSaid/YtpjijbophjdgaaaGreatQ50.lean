/- split.Distance. The example of chapter 32: what each function answers. The helpers of the statements on layer 32: GreatNames, GreatTree, Great, small, four. Contracts: equal lists of lists. The order in which split.Build takes the splits: its closure. -/
import Derived.Test.YtpjijbophjdgaaaGreatQ4
import Derived.Test.YtpjijbophjdgaaaGreatQ42
import Derived.Test.YtpjijbophjdgaaaGreatQ48
import Derived.Test.YtpjijbophjdgaaaGreatQ38
import Derived.Test.YtpjijbophjdgaaaGreatQ49
import Derived.Test.YtpjijbophjdgaaaGreatQ12
import Derived.Test.YtpjijbophjdgaaaGreatQ30
import Derived.Test.YtpjijbophjdgaaaGreatQ36
import Derived.Test.YtpjijbophjdgaaaGreatQ16
import Derived.Test.YtpjijbophjdgaaaGreatQ46
namespace Go.Proofs.YtpjijbophjdgaaaGreat
open Go.RowKit Go.Deep
theorem distEq_t (S T : Nat → Prop) (w : World) (b : Nat) (v u : Value) (s x : List Int) (hb : w.cell? ⟨b, 0, none⟩ = some v) (h : IntsAt S w v s) (h2 : IntsAt T w u x) (hn : s.length ≤ 1000000) (hm : x.length ≤ 1000000) :
    FnD 138 #[.pointer (some ⟨b, 0, none⟩)] #[u] (.bool (decide (s = x))) w := by
  intro m
  have hb := (Up.drewN w m).cell hb
  have HE := Lib.hid (equal_int_t S T (w.drewN m) v u s x (IntsAt.keep h ((Up.drewN w m).kept _)) (IntsAt.keep h2 ((Up.drewN w m).kept _)) hn hm)
  obtain ⟨p, cap, rfl, -, -⟩ := SlAt.open h
  obtain ⟨q, caq, rfl, -, -⟩ := SlAt.open h2
  clear h h2
  go_enter Tryz.func138, Tryz.ntmps138
  go_wp2_with fail
  refine HE.out.mono ?_
  rintro e w' ⟨rfl, n, rfl⟩
  go_wp2_with fail
  go_ret
  exact ⟨rfl, m + n, rfl⟩
set_option maxRecDepth 100000 in
set_option maxHeartbeats 1000000 in
theorem only_t (S T : Nat → Prop) (w : World) (v u : Value) (a b : List (List Int)) (h : RowsAt S w v a) (h2 : RowsAt T w u b) (hn : a.length ≤ 1000000) (hm : b.length ≤ 1000000) (hr : ∀ k, (gl a k).length ≤ 1000000) (hq : ∀ k, (gl b k).length ≤ 1000000) :
    Calls Tryz.prog 137 #[v, u] w fun e w' => e = .returned (.int .i64 (onlyN a b : Int)) ∧ Up w w' := by
  have HO : Hid (∀ k, onlyK a b (k + 1) = onlyK a b k + if hasL b (gl a k) then 0 else 1) := fun _ => rfl
  have HON : Hid (onlyN a b = onlyK a b a.length) := rfl
  have HLE := Lib.hid (onlyK_le a b)
  obtain ⟨p, pc, rfl, -, -⟩ := rows_open h
  obtain ⟨q, qc, rfl, -, -⟩ := rows_open h2
  have HA : Hid (RowsAt S w (.slice p a.length pc) a) := h
  have HB : Hid (RowsAt T w (.slice q b.length qc) b) := h2
  have HR := Lib.hid hr
  have HQ := Lib.hid hq
  clear h h2 hr hq
  go_enter Tryz.func137, Tryz.ntmps137
  go_wp2_with fail
  go_loopw [5, 7, 10] (fun n _ i wr => ∃ k : Nat, k ≤ a.length ∧ i = .int .i64 k ∧ n = .int .i64 (onlyK a b k : Int) ∧ Hid (Up w wr)) (fun _ _ i _ => a.length - (intOf i).toNat)
  case atStart => exact ⟨0, Nat.zero_le _, rfl, rfl, Up.refl _⟩
  case round =>
    obtain ⟨k, hk, rfl, rfl, hU⟩ := hrel
    obtain ⟨wo, rfl⟩ : ∃ wo : World, wo = wr := ⟨_, rfl⟩
    by_cases hlt : k < a.length
    · obtain ⟨ab, ao, x, c, rfl, hc, hi⟩ := rows_get (RowsAt.keep HA.out (hU.out.kept _)) hlt
      have hu2 := Up.alloc wo (.cells #[.slice x (gl a k).length c] 26)
      have hb := box1_0 wo (.slice x (gl a k).length c) 26
      obtain ⟨f, hf1, hf2⟩ := RowsAt.keep HB.out ((hU.out.trans hu2).kept _)
      have HC := Lib.hid (rows_has_d 138 #[.pointer (some ⟨wo.heap.size, 0, none⟩)] (enters_of Tryz.func138 (by kernel_rfl) rfl) T _ _ b.length f (fun j => decide (gl a k = gl b j)) hf1 hm
        (fun j hj => distEq_t S T _ _ _ _ _ _ hb (IntsAt.keep hi (hu2.kept _)) (hf2 j hj) (HR.out k) (HQ.out j)))
      have HHL : Hid ((List.range b.length).any (fun j => decide (gl a k = gl b j)) = hasL b (gl a k)) := rfl
      rw [HHL.out] at HC
      have HU2 := Lib.hid (hU.out.trans hu2)
      have HOK := Lib.hid (HO.out k)
      have k1 : (0 : Int) ≤ (k : Int) := Int.natCast_nonneg _
      have k2 : (k : Int) < (a.length : Int) := by omega
      have k3 : (onlyK a b k : Int) ≤ (k : Int) := by have := HLE.out k; omega
      clear hb hf1 hf2 hi hU hu2 HHL
      generalize hasL b (gl a k) = bb at *
      cases bb
      · have HX : Hid ((onlyK a b (k + 1) : Int) = (onlyK a b k : Int) + 1) := by unfold Hid; rw [HOK.out]; simp
        clear HOK
        go_wp2_with fail
        refine HC.out.mono ?_
        rintro e w' ⟨rfl, nq, rfl⟩
        go_wp2_with fail
        go_roundw
        case rel => exact ⟨k + 1, by omega, by go_num, by rw [HX.out], HU2.out.trans (Up.drewN _ nq)⟩
        case measure => simp [intOf]; omega
      · have HX : Hid ((onlyK a b (k + 1) : Int) = (onlyK a b k : Int)) := by unfold Hid; rw [HOK.out]; simp
        clear HOK
        go_wp2_with fail
        refine HC.out.mono ?_
        rintro e w' ⟨rfl, nq, rfl⟩
        go_wp2_with fail
        go_roundw
        case rel => exact ⟨k + 1, by omega, by go_num, by rw [HX.out], HU2.out.trans (Up.drewN _ nq)⟩
        case measure => simp [intOf]; omega
    · obtain rfl : k = a.length := by omega
      have HUU := Lib.hid hU.out
      clear hU
      go_wp2_with fail
      go_ret
      exact ⟨ret_int (by rw [HON.out]), HUU.out⟩
def dsErr (t u : Tre) (names : List ByteArray) : Int := if splOErr t names ≠ 0 then splOErr t names else splOErr u names
def dsN (t u : Tre) (names : List ByteArray) : Nat := if dsErr t u names = 0 then distN (splO t names) (splO u names) else 0
theorem splO_row (t : Tre) (names : List ByteArray) (k : Nat) : (gl (splO t names) k).length ≤ 64 := by
  by_cases hk : k < (splO t names).length
  · by_cases he : splOErr t names = 0
    · have ho := splO_ok.1 he
      have := ((of_bld ho).spl _ (gl_in hk)).len
      have := ho.le
      omega
    · unfold splO at hk
      rw [if_neg he] at hk
      exact absurd hk (Nat.not_lt_zero _)
  · simp [gl, show (splO t names).length ≤ k by omega]
set_option maxRecDepth 100000 in
set_option maxHeartbeats 2000000 in
theorem distance_t (S : Nat → Prop) (w : World) (v v2 vs : Value) (t u : Tre) (names : List ByteArray) (hT : TreeAt S w v t) (hU : TreeAt S w v2 u) (hV : StrsAt S w vs names) (hp : t.ps.length ≤ 1000000) (hn : t.ns.length ≤ 1000000) (hz : ∀ k, (gs t.ns k).size ≤ 70000) (hp2 : u.ps.length ≤ 1000000) (hn2 : u.ns.length ≤ 1000000) (hz2 : ∀ k, (gs u.ns k).size ≤ 70000) (hnl : names.length ≤ 1000000) :
    Calls Tryz.prog 59 #[v, v2, vs] w fun e w' => e = .returned (.tuple #[.int .i64 (dsN t u names : Int), .int .i64 (dsErr t u names)]) ∧ Up w w' := by
  have HE : Hid (dsErr t u names = if splOErr t names ≠ 0 then splOErr t names else splOErr u names) := rfl
  have HN : Hid (dsN t u names = if dsErr t u names = 0 then onlyN (splO t names) (splO u names) + onlyN (splO u names) (splO t names) else 0) := rfl
  have HOF1 : Hid (∀ W, Up w W → Calls Tryz.prog 22 #[v, vs] W (OfPost W t names)) := fun W hW => splOf_t S W v vs t names (hT.keep (hW.kept _)) (StrsAt.keep hV (hW.kept _)) hp hn hz hnl
  have HOF2 : Hid (∀ W, Up w W → Calls Tryz.prog 22 #[v2, vs] W (OfPost W u names)) := fun W hW => splOf_t S W v2 vs u names (hU.keep (hW.kept _)) (StrsAt.keep hV (hW.kept _)) hp2 hn2 hz2 hnl
  have HL1 : Hid ((splO t names).length ≤ 1000000 ∧ ∀ k, (gl (splO t names) k).length ≤ 1000000) := ⟨Nat.le_trans (splO_len t names) hp, fun k => Nat.le_trans (splO_row t names k) (by decide)⟩
  have HL2 : Hid ((splO u names).length ≤ 1000000 ∧ ∀ k, (gl (splO u names) k).length ≤ 1000000) := ⟨Nat.le_trans (splO_len u names) hp2, fun k => Nat.le_trans (splO_row u names k) (by decide)⟩
  have HB1 : Hid (onlyN (splO t names) (splO u names) ≤ 1000000) := Nat.le_trans (only_le _ _) HL1.out.1
  have HB2 : Hid (onlyN (splO u names) (splO t names) ≤ 1000000) := Nat.le_trans (only_le _ _) HL2.out.1
  obtain ⟨P, N, rfl, hP, hN⟩ := hT
  obtain ⟨P2, N2, rfl, hP2, hN2⟩ := hU
  obtain ⟨mp, mc, rfl, -, -⟩ := SlAt.open hV
  have hu1 := (Up.alloc w (.cells #[P, N] 45)).trans (Up.alloc _ (.cells #[P2, N2] 45))
  have hsz : (w.alloc (.cells #[P, N] 45)).heap.size = w.heap.size + 1 := by simp
  have a0 := (Up.alloc (w.alloc (.cells #[P, N] 45)) (.cells #[P2, N2] 45)).cell (box2_0 w P N 45)
  have a1 := (Up.alloc (w.alloc (.cells #[P, N] 45)) (.cells #[P2, N2] 45)).cell (box2_1 w P N 45)
  have c0 := box2_0 (w.alloc (.cells #[P, N] 45)) P2 N2 45
  have c1 := box2_1 (w.alloc (.cells #[P, N] 45)) P2 N2 45
  rw [hsz] at c0 c1
  have HU1 := Lib.hid hu1
  have HA := Lib.hid (⟨a0, a1, c0, c1⟩ : _ ∧ _ ∧ _ ∧ _)
  clear hP hN hP2 hN2 hV hu1 hsz a0 a1 c0 c1
  go_enter Tryz.func59, Tryz.ntmps59
  go_wp2_with fail
  generalize (w.alloc (.cells #[P, N] 45)).alloc (.cells #[P2, N2] 45) = w1 at *
  obtain ⟨a0, a1, c0, c1⟩ := HA.out
  refine (HOF1.out w1 HU1.out).mono ?_
  rintro e w2 ⟨hu2, r1, rfl, hr1⟩
  have c0 := hu2.cell c0
  have c1 := hu2.cell c1
  have HU2 := Lib.hid (HU1.out.trans hu2)
  have HR1 := Lib.hid hr1
  clear hu2 hr1 a0 a1 HOF1 HU1 HA
  by_cases e1 : splOErr t names = 0
  · have HE2 : Hid (dsErr t u names = splOErr u names) := by unfold Hid; rw [HE.out, if_neg (fun e => e e1)]
    rw [e1]
    clear e1 HE
    go_wp2_with fail
    refine (HOF2.out w2 HU2.out).mono ?_
    rintro e w3 ⟨hu3, r2, rfl, hr2⟩
    have HU3 := Lib.hid (HU2.out.trans hu3)
    have HR2 := Lib.hid hr2
    have HR1' := Lib.hid (RowsAt.keep HR1.out (hu3.kept _))
    clear hu3 hr2 c0 c1 HOF2 HU2 HR1
    by_cases e2 : splOErr u names = 0
    · have HX : Hid (dsErr t u names = 0 ∧ dsN t u names = onlyN (splO t names) (splO u names) + onlyN (splO u names) (splO t names)) := ⟨HE2.out.trans e2, by rw [HN.out, if_pos (HE2.out.trans e2)]⟩
      rw [e2]
      clear e2 HE2 HN
      have HC1 := Lib.hid (only_t Any Any w3 _ _ _ _ HR1'.out HR2.out HL1.out.1 HL2.out.1 HL1.out.2 HL2.out.2)
      go_wp2_with fail
      refine HC1.out.mono ?_
      rintro e w4 ⟨rfl, hu4⟩
      have HC2 := Lib.hid (only_t Any Any w4 _ _ _ _ (RowsAt.keep HR2.out (hu4.kept _)) (RowsAt.keep HR1'.out (hu4.kept _)) HL2.out.1 HL1.out.1 HL2.out.2 HL1.out.2)
      have HU4 := Lib.hid (HU3.out.trans hu4)
      have b1 := HB1.out
      have b2 := HB2.out
      clear hu4 HC1 HU3 HR2 HR1'
      go_wp2_with fail
      refine HC2.out.mono ?_
      rintro e w5 ⟨rfl, hu5⟩
      have HU5 := Lib.hid (HU4.out.trans hu5)
      clear hu5
      generalize onlyN (splO t names) (splO u names) = x at *
      generalize onlyN (splO u names) (splO t names) = y at *
      go_wp2_with fail
      exact ⟨rfl, .tuple #[.int .i64 ((x : Int) + (y : Int)), .int .i64 0], by simp [results, Tryz.results59, go_sem], by rw [HX.out.1, HX.out.2]; simp, HU5.out⟩
    · have HX : Hid (dsErr t u names = splOErr u names ∧ dsN t u names = 0) := ⟨HE2.out, by rw [HN.out, if_neg (by rw [HE2.out]; exact e2)]⟩
      have d1 : (splOErr u names != 0) = true := by simpa using e2
      clear e2 HE2 HN
      generalize splOErr u names = z at *
      go_wp2_with fail
      exact ⟨rfl, .tuple #[.int .i64 0, .int .i64 z], by simp [results, Tryz.results59, go_sem], by rw [HX.out.1, HX.out.2]; rfl, HU3.out⟩
  · have HX : Hid (dsErr t u names = splOErr t names ∧ dsN t u names = 0) := ⟨by rw [HE.out, if_pos e1], by rw [HN.out, if_neg (by rw [HE.out, if_pos e1]; exact e1)]⟩
    have d1 : (splOErr t names != 0) = true := by simpa using e1
    clear e1 HE HN
    generalize splOErr t names = z at *
    go_wp2_with fail
    exact ⟨rfl, .tuple #[.int .i64 0, .int .i64 z], by simp [results, Tryz.results59, go_sem], by rw [HX.out.1, HX.out.2]; rfl, HU2.out⟩
end Go.Proofs.YtpjijbophjdgaaaGreat
namespace Go.Proofs.YtpjijbophjdgaaaGreat
def tX : Tre := ⟨[-1, 0, 1, 1, 0, 4, 4], [⟨#[]⟩, ⟨#[]⟩, ⟨#[65]⟩, ⟨#[66]⟩, ⟨#[]⟩, ⟨#[67]⟩, ⟨#[68]⟩]⟩
def uX : Tre := ⟨[-1, 0, 0, 2, 2, 4, 4], [⟨#[]⟩, ⟨#[65]⟩, ⟨#[]⟩, ⟨#[66]⟩, ⟨#[]⟩, ⟨#[67]⟩, ⟨#[68]⟩]⟩
def fourX : List ByteArray := [⟨#[65]⟩, ⟨#[66]⟩, ⟨#[67]⟩, ⟨#[68]⟩]
def tXs : ByteArray := ⟨#[40, 40, 65, 44, 66, 41, 44, 40, 67, 44, 68, 41, 41, 59]⟩
def uXs : ByteArray := ⟨#[40, 65, 44, 40, 66, 44, 40, 67, 44, 68, 41, 41, 41, 59]⟩
theorem tX_par : paE tXs = 0 ∧ paT tXs = tX := by decide +kernel
theorem uX_par : paE uXs = 0 ∧ paT uXs = uX := by decide +kernel
theorem tX_of : splOErr tX fourX = 0 ∧ splO tX fourX = [[2, 3]] := by decide +kernel
theorem tX_ds : dsErr tX uX fourX = 0 ∧ dsN tX uX fourX = 0 := by decide +kernel
theorem X_bld : bldErr fourX [[2, 3]] = 0 ∧ bldR fourX [[2, 3]] = uX := by
  refine ⟨by decide +kernel, ?_⟩
  unfold bldR bldT
  rw [canT_eq2 (bT fourX (ownQ [[2, 3]]))]
  decide +kernel
theorem uX_tx : txE uX = 0 ∧ txT uX = [40, 65, 44, 40, 66, 44, 40, 67, 44, 68, 41, 41, 41, 59] := by decide +kernel
theorem X_cp : cpB 4 [1, 2] [2, 3] = false ∧ cpErr 4 [1, 2] [2, 3] = 0 := by decide +kernel
end Go.Proofs.YtpjijbophjdgaaaGreat
namespace Go.Proofs.YtpjijbophjdgaaaGreat
open Go.RowKit Go.Deep
set_option maxRecDepth 100000 in
set_option maxHeartbeats 2000000 in
theorem gtree32_t (S : Nat → Prop) (w : World) (v : Value) (t : Tre) (hT : TreeAt S w v t) (hp : t.ps.length ≤ 9223372036854775807) (hn : t.ns.length ≤ 9223372036854775807) (hz : ∀ k, (gs t.ns k).size ≤ 9223372036854775807) :
    Calls Tryz.prog 50 #[v] w fun e w' => e = .returned (.bool (gt31B t 18)) ∧ Up w w' := by
  obtain ⟨P, N, rfl, hP, hN⟩ := hT
  have hu := Up.alloc w (.cells #[P, N] 45)
  have HG : Hid (Calls Tryz.prog 90 #[.agg #[P, N], .int .i64 18] (w.alloc (.cells #[P, N] 45)) fun e w' => e = .returned (.bool (gt31B t 18)) ∧ Up (w.alloc (.cells #[P, N] 45)) w') := great31_t S _ _ t 18 (TreeAt.keep ⟨_, _, rfl, hP, hN⟩ (hu.kept _)) hp hn hz
  have HU := Lib.hid hu
  clear hu hP hN hp hn hz
  go_enter Tryz.func50, Tryz.ntmps50
  go_wp2_with fail
  refine HG.out.mono ?_
  rintro e w2 ⟨rfl, hu2⟩
  go_wp2_with fail
  go_ret
  exact ⟨rfl, HU.out.trans hu2⟩
def FourPost (w : World) (e : Ending) (w' : World) : Prop := Up w w' ∧ ∃ v, e = .returned v ∧ StrsAt Any w' v fourX
set_option maxRecDepth 100000 in
set_option maxHeartbeats 400000 in
theorem four_t (w : World) : Calls Tryz.prog 119 #[] w (FourPost w) := by
  have HU := Lib.hid (Up.alloc w (.cells #[.string ⟨#[65]⟩, .string ⟨#[66]⟩, .string ⟨#[67]⟩, .string ⟨#[68]⟩] 9))
  have HS := Lib.hid (lit_strs w #[.string ⟨#[65]⟩, .string ⟨#[66]⟩, .string ⟨#[67]⟩, .string ⟨#[68]⟩] 9 fourX rfl 4 rfl)
  go_enter Tryz.func119, Tryz.ntmps119
  go_wp2_with fail
  go_ret
  exact ⟨HU.out, _, rfl, HS.out⟩
end Go.Proofs.YtpjijbophjdgaaaGreat
namespace Go.Proofs.YtpjijbophjdgaaaGreat
open Go.RowKit Go.Deep
set_option maxRecDepth 100000 in
set_option maxHeartbeats 400000 in
theorem same04_t (S T : Nat → Prop) (w : World) (v u : Value) (xs ys : List Int) (h : IntsAt S w v xs) (h2 : IntsAt T w u ys) (hn : xs.length ≤ 1000000) (hn2 : ys.length ≤ 1000000) :
    Calls Tryz.prog 126 #[v, u] w (EqPost w (decide (xs = ys))) := by
  obtain ⟨p, cap, rfl, hcap, _⟩ := SlAt.open h
  obtain ⟨q, cap2, rfl, hcap2, _⟩ := SlAt.open h2
  have HX : Hid (IntsAt S w (.slice p xs.length cap) xs) := h
  have HY : Hid (IntsAt T w (.slice q ys.length cap2) ys) := h2
  clear h h2
  by_cases hl : xs.length = ys.length
  · have hl1 : ((xs.length : Int) != ys.length) = false := by simp [hl]
    have HL := Lib.hid hl
    clear hl
    go_enter Tryz.func126, Tryz.ntmps126
    go_wp2_with fail
    go_loopw [5] (fun i wr => ∃ k n : Nat, k ≤ xs.length ∧ i = .int .i64 k ∧ wr = w.drewN n ∧ Hid (∀ j, j < k → gi xs j = gi ys j)) (fun i _ => xs.length - (intOf i).toNat)
    case atStart => exact ⟨0, 0, Nat.zero_le _, rfl, rfl, fun j hj => absurd hj (Nat.not_lt_zero _)⟩
    case round =>
      obtain ⟨k, n, hk, rfl, rfl, hd⟩ := hrel
      by_cases hlt : k < xs.length
      · have hlt2 : k < ys.length := by rw [← HL.out]; exact hlt
        obtain ⟨b, off, rfl, hc⟩ := ints_get HX.out hlt
        obtain ⟨b2, off2, rfl, hc2⟩ := ints_get HY.out hlt2
        have i1 : (0 : Int) ≤ (k : Int) := by omega
        have i2 : (k : Int) < (xs.length : Int) := by omega
        have i3 : (k : Int) < (ys.length : Int) := by omega
        generalize hx : gi xs k = x at *
        generalize hy : gi ys k = y at *
        have HXX := Lib.hid hx
        have HYY := Lib.hid hy
        clear hx hy
        by_cases hxy : x = y
        · have hxy1 : (x != y) = false := by simp [hxy]
          have HXY := Lib.hid hxy
          clear hxy
          go_wp2_with fail
          go_quiet (fail)
          go_wp2_with fail
          go_roundw
          case rel => exact ⟨k + 1, n + nq, by omega, by go_num, rfl, fun j hj => if e : j = k then by subst e; rw [HXX.out, HYY.out, HXY.out] else hd.out j (by omega)⟩
          case measure => simp [intOf]; omega
        · have hxy1 : (x != y) = true := by simpa using hxy
          have HXY := Lib.hid hxy
          clear hxy
          go_wp2_with fail
          go_quiet (fail)
          go_wp2_with fail
          go_ret
          refine ⟨ret_bool ?_, n + nq, by rw [World.drewN_drewN]⟩
          rw [eq_comm, decide_eq_false_iff_not]
          rintro rfl
          exact HXY.out (by rw [← HXX.out, ← HYY.out])
      · obtain rfl : k = xs.length := by omega
        clear hlt hk
        have hex : xs = ys := ints_ext HL.out hd.out
        have HEX : Hid (decide (xs = ys) = true) := decide_eq_true hex
        clear hex
        go_wp2_with fail
        go_ret
        exact ⟨ret_bool (by rw [HEX.out]), n, rfl⟩
  · have hl1 : ((xs.length : Int) != ys.length) = true := by simp; omega
    have HL := Lib.hid hl
    clear hl
    go_enter Tryz.func126, Tryz.ntmps126
    go_wp2_with fail
    go_ret
    refine ⟨ret_bool ?_, 0, rfl⟩
    rw [eq_comm, decide_eq_false_iff_not]
    rintro rfl
    exact HL.out rfl

set_option maxRecDepth 100000 in
set_option maxHeartbeats 800000 in
theorem sameLists_t (S T : Nat → Prop) (w : World) (v u : Value) (xs ys : List (List Int)) (h : RowsAt S w v xs) (h2 : RowsAt T w u ys) (hn : xs.length ≤ 1000000) (hn2 : ys.length ≤ 1000000) (hr : ∀ k, (gl xs k).length ≤ 1000000) (hr2 : ∀ k, (gl ys k).length ≤ 1000000) :
    Calls Tryz.prog 58 #[v, u] w (EqPost w (decide (xs = ys))) := by
  obtain ⟨p, cap, rfl, hcap, _⟩ := rows_open h
  obtain ⟨q, cap2, rfl, hcap2, _⟩ := rows_open h2
  have HX := Lib.hid h
  have HY := Lib.hid h2
  have HR := Lib.hid hr
  have HR2 := Lib.hid hr2
  clear h h2 hr hr2
  by_cases hl : xs.length = ys.length
  · have hl1 : ((xs.length : Int) != ys.length) = false := by simp [hl]
    have HL := Lib.hid hl
    clear hl
    go_enter Tryz.func58, Tryz.ntmps58
    go_wp2_with fail
    go_loopw [5] (fun i wr => ∃ k : Nat, k ≤ xs.length ∧ i = .int .i64 k ∧ Hid (QD w wr) ∧ Hid (∀ j, j < k → gl xs j = gl ys j)) (fun i _ => xs.length - (intOf i).toNat)
    case atStart => exact ⟨0, Nat.zero_le _, rfl, QD.refl _, fun j hj => absurd hj (Nat.not_lt_zero _)⟩
    case round =>
      obtain ⟨k, hk, rfl, hQ, hd⟩ := hrel
      by_cases hlt : k < xs.length
      · have hlt2 : k < ys.length := by rw [← HL.out]; exact hlt
        obtain ⟨b, off, rq, rc, rfl, hc, hri⟩ := rows_get (HX.out.keep (hQ.out.kept S)) hlt
        obtain ⟨b2, off2, rq2, rc2, rfl, hc2, hri2⟩ := rows_get (HY.out.keep (hQ.out.kept T)) hlt2
        have i1 : (0 : Int) ≤ (k : Int) := by omega
        have i2 : (k : Int) < (xs.length : Int) := by omega
        have i3 : (k : Int) < (ys.length : Int) := by omega
        have hsame := fun m => same04_t S T (wr.drewN m) _ _ _ _ (IntsAt.keep hri (kept_drewN S wr m)) (IntsAt.keep hri2 (kept_drewN T wr m)) (HR.out k) (HR2.out k)
        clear hri hri2
        by_cases hxy : gl xs k = gl ys k
        · have hb : decide (gl xs k = gl ys k) = true := decide_eq_true hxy
          simp only [hb] at hsame
          have HS := Lib.hid hsame
          have HXY := Lib.hid hxy
          clear hxy hb hsame
          go_wp2_with fail
          go_quiet (exact eq_quiet (HS.out _))
          go_wp2_with fail
          go_roundw
          case rel => exact ⟨k + 1, by omega, by go_num, hQ.out.drewN nq, fun j hj => if e : j = k then by subst e; exact HXY.out else hd.out j (by omega)⟩
          case measure => simp [intOf]; omega
        · have hb : decide (gl xs k = gl ys k) = false := decide_eq_false hxy
          simp only [hb] at hsame
          have HS := Lib.hid hsame
          have HXY := Lib.hid hxy
          clear hxy hb hsame
          go_wp2_with fail
          go_quiet (exact eq_quiet (HS.out _))
          go_wp2_with fail
          go_ret
          refine ⟨ret_bool ?_, hQ.out.drewN nq⟩
          rw [eq_comm, decide_eq_false_iff_not]
          rintro rfl
          exact HXY.out rfl
      · obtain rfl : k = xs.length := by omega
        clear hlt hk
        have hex : xs = ys := rows_ext HL.out hd.out
        have HEX : Hid (decide (xs = ys) = true) := decide_eq_true hex
        clear hex
        go_wp2_with fail
        go_ret
        exact ⟨ret_bool (by rw [HEX.out]), hQ.out⟩
  · have hl1 : ((xs.length : Int) != ys.length) = true := by simp; omega
    have HL := Lib.hid hl
    clear hl
    go_enter Tryz.func58, Tryz.ntmps58
    go_wp2_with fail
    go_ret
    refine ⟨ret_bool ?_, 0, rfl⟩
    rw [eq_comm, decide_eq_false_iff_not]
    rintro rfl
    exact HL.out rfl
end Go.Proofs.YtpjijbophjdgaaaGreat
namespace Go.Proofs.YtpjijbophjdgaaaGreat
open Go.RowKit Go.Deep Go.Sort
def orI (x y : Int) : Int := if x ≠ 0 then x else y
set_option maxHeartbeats 1000000 in
theorem or_t (w : World) (b : Nat) (x y : Int) (h0 : w.cell? ⟨b, 0, none⟩ = some (.int .i64 x)) (h1 : w.cell? ⟨b, 1, none⟩ = some (.int .i64 y)) :
    Calls Tryz.prog 131 #[.slice (some ⟨b, 0, none⟩) 2 2] w fun e w' => e = .returned (.int .i64 (orI x y)) ∧ w = w' := by
  have HO : Hid (orI x y = if x ≠ 0 then x else y) := rfl
  have H0 := Lib.hid h0
  have H1 := Lib.hid h1
  clear h0 h1
  go_enter Tryz.func131, Tryz.ntmps131
  go_wp2_with fail
  go_loop [5, 8] (fun _ i => ∃ k : Nat, k ≤ 2 ∧ i = .int .i64 k ∧ Hid (0 < k → x = 0) ∧ Hid (1 < k → y = 0)) (fun _ i => 2 - (intOf i).toNat)
  case atStart => exact ⟨0, Nat.zero_le _, rfl, fun h => absurd h (Nat.lt_irrefl _), fun h => absurd h (by omega)⟩
  case round =>
    obtain ⟨k, hk, rfl, hd, hd2⟩ := hrel
    have c0 := H0.out
    have c1 := H1.out
    by_cases k0 : k = 0
    · subst k0
      by_cases hx : x = 0
      · have HX := Lib.hid hx
        subst hx
        go_wp2_with fail
        go_round
        case rel => exact ⟨1, by omega, by go_num, fun _ => (by first | rfl | trivial), fun h => absurd h (by omega)⟩
        case measure => simp [intOf]
      · have HX := Lib.hid hx
        have d1 : (x == 0) = false := by simpa using hx
        have d2 : (x != 0) = true := by simpa using hx
        clear hx
        go_wp2_with fail
        go_ret
        exact ⟨ret_int (by rw [HO.out, if_pos HX.out]), rfl⟩
    by_cases k1 : k = 1
    · subst k1
      have HX := Lib.hid (hd.out (by omega))
      by_cases hy : y = 0
      · subst hy
        go_wp2_with fail
        go_round
        case rel => exact ⟨2, by omega, by go_num, fun _ => HX.out, fun _ => (by first | rfl | trivial)⟩
        case measure => simp [intOf]
      · have d1 : (y == 0) = false := by simpa using hy
        have d2 : (y != 0) = true := by simpa using hy
        clear hy
        go_wp2_with fail
        go_ret
        exact ⟨ret_int (by rw [HO.out, if_neg (fun e => e HX.out)]), rfl⟩
    · obtain rfl : k = 2 := by omega
      have HX := Lib.hid (hd.out (by omega))
      have HY := Lib.hid (hd2.out (by omega))
      go_wp2_with fail
      go_ret
      exact ⟨ret_int (by rw [HO.out, if_neg (fun e => e HX.out), HY.out]), rfl⟩
theorem orQ (a b : List Int) : orI (cmpI (b.length : Int) (a.length : Int)) (cmpL a b) = cmpQ a b := by
  unfold orI cmpI cmpQ
  by_cases h1 : b.length < a.length
  · rw [if_pos (show (b.length : Int) < (a.length : Int) by omega), if_pos (by decide), if_pos h1]
  · rw [if_neg (show ¬ (b.length : Int) < (a.length : Int) by omega), if_neg h1]
    by_cases h2 : a.length < b.length
    · rw [if_pos (show (a.length : Int) < (b.length : Int) by omega), if_pos (by decide), if_pos h2]
    · rw [if_neg (show ¬ (a.length : Int) < (b.length : Int) by omega), if_neg h2, if_neg (fun e => e rfl)]
set_option maxRecDepth 100000 in
set_option maxHeartbeats 1000000 in
theorem cmpQ_t (S T : Nat → Prop) (w : World) (v u : Value) (a b : List Int) (h : IntsAt S w v a) (h2 : IntsAt T w u b) (hn : a.length ≤ 1000000) (hm : b.length ≤ 1000000) :
    Calls Tryz.prog 130 #[v, u] w fun e w' => e = .returned (.int .i64 (cmpQ a b)) ∧ ∃ n os, w' = grow (w.drewN n) os := by
  have HC := Lib.hid (cmpI_t (b.length : Int) (a.length : Int) w)
  have HL := Lib.hid (cmpL_t S T w v u a b h h2 hn hm)
  have HQ := Lib.hid (orQ a b)
  obtain ⟨p, cap, rfl, -, -⟩ := SlAt.open h
  obtain ⟨q, caq, rfl, -, -⟩ := SlAt.open h2
  have HOR : Hid (Calls Tryz.prog 131 #[.slice (some ⟨w.heap.size, 0, none⟩) 2 2] (w.alloc (.cells #[.int .i64 (cmpI (b.length : Int) (a.length : Int)), .int .i64 (cmpL a b)] 3)) fun e w' => e = .returned (.int .i64 (cmpQ a b)) ∧ w.alloc (.cells #[.int .i64 (cmpI (b.length : Int) (a.length : Int)), .int .i64 (cmpL a b)] 3) = w') := by
    have h := or_t (w.alloc (.cells #[.int .i64 (cmpI (b.length : Int) (a.length : Int)), .int .i64 (cmpL a b)] 3)) w.heap.size _ _ (box2_0 w _ _ _) (box2_1 w _ _ _)
    rw [HQ.out] at h; exact h
  have HGR : Hid (∃ n os, w.alloc (.cells #[.int .i64 (cmpI (b.length : Int) (a.length : Int)), .int .i64 (cmpL a b)] 3) = grow (w.drewN n) os) := ⟨0, #[_], alloc_eq_grow w _⟩
  clear h h2
  go_enter Tryz.func130, Tryz.ntmps130
  go_wp2_with fail
  refine HC.out.mono ?_
  rintro e w' ⟨rfl, rfl⟩
  go_wp2_with fail
  refine HL.out.mono ?_
  rintro e w' ⟨rfl, rfl⟩
  go_wp2_with fail
  refine HOR.out.mono ?_
  rintro e w' ⟨rfl, rfl⟩
  go_wp2_with fail
  go_ret
  exact ⟨rfl, HGR.out⟩
end Go.Proofs.YtpjijbophjdgaaaGreat
