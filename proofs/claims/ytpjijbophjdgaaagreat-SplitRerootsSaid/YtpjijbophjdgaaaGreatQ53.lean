/- The walk of split.Build. -/
import Derived.Test.YtpjijbophjdgaaaGreatQ50
import Derived.Test.YtpjijbophjdgaaaGreatQ52
import Derived.Test.YtpjijbophjdgaaaGreatQ42
import Derived.Test.YtpjijbophjdgaaaGreatQ16
import Derived.Test.YtpjijbophjdgaaaGreatQ39
namespace Go.Proofs.YtpjijbophjdgaaaGreat
open Go.RowKit Go.Deep
def BdPost (w : World) (names : List ByteArray) (l : List (List Int)) (e : Ending) (w' : World) : Prop :=
  Up w w' ∧ ∃ v, e = .returned (.tuple #[v, .int .i64 (bldErr names l)]) ∧ TreeAt Any w' v (bldR names l)
theorem bd_err {w W : World} {B : Nat} {names : List ByteArray} {l : List (List Int)} {c : Int} (hB : w.heap.size ≤ B) (hu : Up w W) (hb : W.heap[B]? = some (Obj.cells #[.slice none 0 0, .slice none 0 0] 45 (0, 0))) (hc : bldErr names l = c) (h0 : c ≠ 0) :
    ((W.setCell ⟨B, 0, none⟩ (.slice none 0 0)).setCell ⟨B, 1, none⟩ (.slice none 0 0)).cell? ⟨B, 0, none⟩ = some (.slice none 0 0) ∧ ((W.setCell ⟨B, 0, none⟩ (.slice none 0 0)).setCell ⟨B, 1, none⟩ (.slice none 0 0)).cell? ⟨B, 1, none⟩ = some (.slice none 0 0) ∧
      BdPost w names l (.returned (.tuple #[.agg #[.slice none 0 0, .slice none 0 0], .int .i64 c])) ((W.setCell ⟨B, 0, none⟩ (.slice none 0 0)).setCell ⟨B, 1, none⟩ (.slice none 0 0)) := by
  obtain ⟨s1, s2, s3, s4⟩ := store_two (p := .slice none 0 0) (q := .slice none 0 0) hb hB hu
  refine ⟨s2, s3, s1, .agg #[.slice none 0 0, .slice none 0 0], by rw [hc], ?_⟩
  unfold bldR; rw [if_neg (by rw [hc]; exact h0)]; exact nil_tree _
theorem bd_err0 {w W : World} {B : Nat} {names : List ByteArray} {l : List (List Int)} {c : Int} (hu : Up w W) (hb : W.heap[B]? = some (Obj.cells #[.slice none 0 0, .slice none 0 0] 45 (0, 0))) (hc : bldErr names l = c) (h0 : c ≠ 0) :
    W.cell? ⟨B, 0, none⟩ = some (.slice none 0 0) ∧ W.cell? ⟨B, 1, none⟩ = some (.slice none 0 0) ∧ BdPost w names l (.returned (.tuple #[.agg #[.slice none 0 0, .slice none 0 0], .int .i64 c])) W := by
  refine ⟨by simp [World.cell?, hb], by simp [World.cell?, hb], hu, .agg #[.slice none 0 0, .slice none 0 0], by rw [hc], ?_⟩
  unfold bldR; rw [if_neg (by rw [hc]; exact h0)]; exact nil_tree _
theorem seen_any (names : List ByteArray) (k : Nat) : ((List.range k).any fun j => decide (gs names k = gs names j)) = seenK names k := by
  unfold seenK
  congr 1; funext j
  by_cases e : gs names j = gs names k
  · rw [decide_eq_true e, decide_eq_true e.symm]
  · rw [decide_eq_false e, decide_eq_false fun q => e q.symm]
theorem int_one {W : World} {b : Nat} {x : Int} (h : W.cell? ⟨b, 0, none⟩ = some (.int .i64 x)) : IntsAt Any W (.slice (some ⟨b, 0, none⟩) 1 1) [x] :=
  ⟨_, 1, rfl, Nat.le_refl _, .inr ⟨_, 0, rfl, trivial, fun k hk => by
    have hk0 : k < 1 := hk
    obtain rfl : k = 0 := by omega
    exact h⟩⟩
theorem str_one {W : World} {b : Nat} {x : ByteArray} (h : W.cell? ⟨b, 0, none⟩ = some (.string x)) : StrsAt Any W (.slice (some ⟨b, 0, none⟩) 1 1) [x] :=
  ⟨_, 1, rfl, Nat.le_refl _, .inr ⟨_, 0, rfl, trivial, fun k hk => by
    have hk0 : k < 1 := hk
    obtain rfl : k = 0 := by omega
    exact h⟩⟩
theorem rws_of {base k : Nat} {w : World} {v : Value} {vals : List Value} {l : List (List Int)} (ho : Owns base 26 w v vals) (hvl : vals.length = l.length) (hrow : ∀ i, i < l.length → IntsAt (fun b => b < k) w (vals.getD i undef) (gl l i)) (hk : k ≤ base) :
    ∃ ps, RwS base w v ps ∧ ps.map (·.1) = l ∧ ∀ p ∈ ps, IntsAt (fun b => b < k) w p.2 p.1 := by
  have hin : ∀ p ∈ (List.range l.length).map (fun i => (gl l i, vals.getD i undef)), IntsAt (fun b => b < k) w p.2 p.1 := fun p hp => by
    obtain ⟨i, hi, rfl⟩ := List.mem_map.1 hp
    exact hrow i (List.mem_range.1 hi)
  refine ⟨(List.range l.length).map fun i => (gl l i, vals.getD i undef), ⟨?_, fun p hp => ?_, fun p hp => ?_⟩, ?_, hin⟩
  · rw [List.map_map]
    have e : (List.range l.length).map ((fun x => x.2) ∘ fun i => (gl l i, vals.getD i undef)) = vals := by
      refine List.ext_getElem (by simp [hvl]) fun i h1 h2 => ?_
      simp [List.getElem_map, h2]
    rw [e]; exact ho
  · obtain ⟨q, c, e, _, _⟩ := SlAt.open (hin p hp)
    exact ⟨q, c, e⟩
  · exact (hin p hp).sub fun b hb _ e => by have := (ownBlock_lt ho e).1; omega
  · rw [List.map_map]
    refine List.ext_getElem (by simp) fun i h1 h2 => ?_
    simp [gl, h2]
theorem bd_fin {w W6 W8 : World} {names : List ByteArray} {l : List (List Int)} {T : Tre} {p n : Value} (hlt : w.heap.size < W6.heap.size) (hb : W8.heap[w.heap.size]? = some (Obj.cells #[.slice none 0 0, .slice none 0 0] 45 (0, 0))) (hu : Up w W8) (hP : IntsAt (fun b => W6.heap.size ≤ b) W8 p T.ps) (hN : StrsAt (fun b => W6.heap.size ≤ b) W8 n T.ns) (hX : bldErr names l = 0) (hT : bldR names l = T) :
    ((W8.setCell ⟨w.heap.size, 0, none⟩ p).setCell ⟨w.heap.size, 1, none⟩ n).cell? ⟨w.heap.size, 0, none⟩ = some p ∧ ((W8.setCell ⟨w.heap.size, 0, none⟩ p).setCell ⟨w.heap.size, 1, none⟩ n).cell? ⟨w.heap.size, 1, none⟩ = some n ∧
      BdPost w names l (.returned (.tuple #[.agg #[p, n], .int .i64 0])) ((W8.setCell ⟨w.heap.size, 0, none⟩ p).setCell ⟨w.heap.size, 1, none⟩ n) := by
  obtain ⟨s1, s2, s3, s4⟩ := store_two (p := p) (q := n) hb (Nat.le_refl _) hu
  refine ⟨s2, s3, s1, _, by rw [hX], ?_⟩
  rw [hT]
  exact ⟨_, _, rfl, (IntsAt.keep hP fun b hb _ => s4 b (by omega)).sub fun _ _ _ => trivial, (StrsAt.keep hN fun b hb _ => s4 b (by omega)).sub fun _ _ _ => trivial⟩
set_option maxRecDepth 100000 in
set_option maxHeartbeats 8000000 in
theorem build_t (S : Nat → Prop) (w : World) (v vl : Value) (names : List ByteArray) (l : List (List Int)) (h : StrsAt S w v names) (hL : RowsAt S w vl l) (hn : names.length ≤ 1000000) (hz : ∀ k, (gs names k).size ≤ 70000) (hln : l.length ≤ 1000000) (hr : ∀ k, (gl l k).length ≤ 1000000) :
    Calls Tryz.prog 56 #[v, vl] w (BdPost w names l) := by
  obtain ⟨lp, lc, rfl, -, -⟩ := rows_open hL
  obtain ⟨p, cap, rfl, hcap, _⟩ := SlAt.open h
  have h : StrsAt S w (.slice p names.length cap) names := h
  have hu1 : Up w (w.alloc (.cells #[.slice none 0 0, .slice none 0 0] 45)) := Up.alloc _ _
  have hrb := box_at (w := w) (P := .slice none 0 0) (N := .slice none 0 0) (T := 45)
  obtain ⟨q0, q1, q2, q3⟩ := boxed hrb
  have hsz1 : (w.alloc (.cells #[.slice none 0 0, .slice none 0 0] 45)).heap.size = w.heap.size + 1 := by simp
  have HN1 := Lib.hid (StrsAt.keep h (hu1.kept S))
  have HL1 := Lib.hid (RowsAt.keep (hL.sub (T := fun b => b < w.heap.size) fun b _ hb => hb) (hu1.kept _))
  have HSZ1 := Lib.hid hsz1
  have HU1 := Lib.hid hu1
  have HRB := Lib.hid hrb
  have HZ := Lib.hid hz
  have HR := Lib.hid hr
  have HSE : Hid (bldErr names l = if names.length = 0 then 5 else if 32 < names.length ∨ 64 < l.length then 4
    else if firstNZ (bnErr names) names.length ≠ 0 then firstNZ (bnErr names) names.length
    else if firstNZ (fun k => splErr names.length (gl l k)) l.length ≠ 0 then firstNZ (fun k => splErr names.length (gl l k)) l.length
    else if 0 ≤ pairI l then 17 else 0) := rfl
  clear h hL hu1 hrb hsz1 hz hr
  by_cases c0 : names.length = 0
  · have HST := Lib.hid (bd_err0 (c := 5) HU1.out HRB.out (by rw [HSE.out, if_pos c0]) (by decide))
    have d0 : ((names.length : Int) == 0) = true := by simp [c0]
    clear c0
    go_enter Tryz.func56, Tryz.ntmps56
    go_wp2_with fail
    obtain ⟨s2, s3, hp⟩ := HST.out
    exact ⟨rfl, .tuple #[.agg #[.slice none 0 0, .slice none 0 0], .int .i64 5], by simp [results, Tryz.results56, go_sem], hp⟩
  have d0 : ((names.length : Int) == 0) = false := by simpa using c0
  by_cases c1 : 32 < names.length
  · have HST := Lib.hid (bd_err0 (c := 4) HU1.out HRB.out (by rw [HSE.out, if_neg c0, if_pos (.inl c1)]) (by decide))
    have d1 : decide ((32 : Int) < (names.length : Int)) = true := by simp; omega
    clear c0
    go_enter Tryz.func56, Tryz.ntmps56
    go_wp2_with fail
    obtain ⟨s2, s3, hp⟩ := HST.out
    exact ⟨rfl, .tuple #[.agg #[.slice none 0 0, .slice none 0 0], .int .i64 4], by simp [results, Tryz.results56, go_sem], hp⟩
  have d1 : decide ((32 : Int) < (names.length : Int)) = false := by simp; omega
  by_cases c2 : 64 < l.length
  · have HST := Lib.hid (bd_err0 (c := 4) HU1.out HRB.out (by rw [HSE.out, if_neg c0, if_pos (.inr c2)]) (by decide))
    have d2 : decide ((64 : Int) < (l.length : Int)) = true := by simp; omega
    clear c0 c1
    go_enter Tryz.func56, Tryz.ntmps56
    go_wp2_with fail
    obtain ⟨s2, s3, hp⟩ := HST.out
    exact ⟨rfl, .tuple #[.agg #[.slice none 0 0, .slice none 0 0], .int .i64 4], by simp [results, Tryz.results56, go_sem], hp⟩
  have d2 : decide ((64 : Int) < (l.length : Int)) = false := by simp; omega
  have HSE1 : Hid (bldErr names l = if firstNZ (bnErr names) names.length ≠ 0 then firstNZ (bnErr names) names.length
    else if firstNZ (fun k => splErr names.length (gl l k)) l.length ≠ 0 then firstNZ (fun k => splErr names.length (gl l k)) l.length
    else if 0 ≤ pairI l then 17 else 0) := by unfold Hid; rw [HSE.out, if_neg c0, if_neg (by omega)]
  have h0p : 0 < names.length := by omega
  have hn32 : names.length ≤ 32 := by omega
  have hl64 : l.length ≤ 64 := by omega
  clear HSE c0 c1 c2
  have HNE : Hid (∀ k, k < names.length → (∀ j, j < k → bnErr names j = 0) → bnErr names k ≠ 0 → bldErr names l = bnErr names k) := fun k hk hj h0 => by
    have h1 := firstNZ_at hk hj h0
    rw [HSE1.out, h1, if_pos h0]
  go_enter Tryz.func56, Tryz.ntmps56
  go_wp2_with fail
  generalize w.alloc (.cells #[.slice none 0 0, .slice none 0 0] 45) = w1 at *
  go_loop [6, 7, 42] (fun _ _ i => ∃ k : Nat, k ≤ names.length ∧ i = .int .i64 k ∧ Hid (∀ j, j < k → bnErr names j = 0)) (fun _ _ i => names.length - (intOf i).toNat)
  case atStart => exact ⟨0, Nat.zero_le _, rfl, fun j hj => absurd hj (Nat.not_lt_zero _)⟩
  case round =>
    obtain ⟨k, hk, rfl, hd⟩ := hrel
    by_cases hlt : k < names.length
    · obtain ⟨nb0, no, rfl, hc⟩ := strs_get HN1.out hlt
      have HNM := Lib.hid (leafName_t (gs names k) (HZ.out k) w1)
      have HCT : Hid (Calls Tryz.prog 74 #[.slice (some ⟨nb0, no, none⟩) k cap, .string (gs names k)] w1 fun e w' => e = .returned (.bool (seenK names k)) ∧ w1 = w') := by
        have h := contains_str_t S w1 _ k (fun j => gs names j) (gs names k) (strs_take HN1.out hk) (by omega)
        rwa [seen_any] at h
      have HNEK := Lib.hid (HNE.out k hlt hd.out)
      have HK0 : Hid (bnErr names k = if namedB (gs names k).data.toList then (if seenK names k then 7 else 0) else 14) := rfl
      generalize gs names k = nm at *
      generalize seenK names k = bs at *
      generalize namedB nm.data.toList = bn at *
      cases bn
      · have HE : Hid (bnErr names k = 14) := HK0.out
        have HST := Lib.hid (bd_err (c := 14) (Nat.le_refl _) HU1.out HRB.out ((HNEK.out (by rw [HE.out]; decide)).trans HE.out) (by decide))
        go_wp2_with (first | (go_at_call 127; refine HNM.out.mono ?_; rintro e w' ⟨rfl, rfl⟩) | (go_at_call 74; refine HCT.out.mono ?_; rintro e w' ⟨rfl, rfl⟩))
        obtain ⟨s2, s3, hp⟩ := HST.out
        exact ⟨rfl, .tuple #[.agg #[.slice none 0 0, .slice none 0 0], .int .i64 14], by simp [results, Tryz.results56, go_sem, s2, s3], hp⟩
      · cases bs
        · have HE : Hid (bnErr names k = 0) := HK0.out
          go_wp2_with (first | (go_at_call 127; refine HNM.out.mono ?_; rintro e w' ⟨rfl, rfl⟩) | (go_at_call 74; refine HCT.out.mono ?_; rintro e w' ⟨rfl, rfl⟩))
          go_round
          case rel => exact ⟨k + 1, by omega, by go_num, fun j hj => if e : j = k then by subst e; exact HE.out else hd.out j (by omega)⟩
          case measure => simp [intOf]; omega
        · have HE : Hid (bnErr names k = 7) := HK0.out
          have HST := Lib.hid (bd_err (c := 7) (Nat.le_refl _) HU1.out HRB.out ((HNEK.out (by rw [HE.out]; decide)).trans HE.out) (by decide))
          go_wp2_with (first | (go_at_call 127; refine HNM.out.mono ?_; rintro e w' ⟨rfl, rfl⟩) | (go_at_call 74; refine HCT.out.mono ?_; rintro e w' ⟨rfl, rfl⟩))
          obtain ⟨s2, s3, hp⟩ := HST.out
          exact ⟨rfl, .tuple #[.agg #[.slice none 0 0, .slice none 0 0], .int .i64 7], by simp [results, Tryz.results56, go_sem, s2, s3], hp⟩
    · obtain rfl : k = names.length := by omega
      have HSE2 : Hid (bldErr names l = if firstNZ (fun k => splErr names.length (gl l k)) l.length ≠ 0 then firstNZ (fun k => splErr names.length (gl l k)) l.length
          else if 0 ≤ pairI l then 17 else 0) := by
        unfold Hid; rw [HSE1.out, if_neg (by rw [firstNZ_zero hd.out]; decide)]
      have HNM : Hid (∀ j, j < names.length → bnErr names j = 0) := hd.out
      clear hlt hk hd HSE1 HNE
      have HSP : Hid (∀ k, k < l.length → (∀ j, j < k → splErr names.length (gl l j) = 0) → splErr names.length (gl l k) ≠ 0 → bldErr names l = splErr names.length (gl l k)) := fun k hk hj h0 => by
        have h1 := firstNZ_at (f := fun k => splErr names.length (gl l k)) hk hj h0
        rw [HSE2.out, h1, if_pos h0]
      go_wp2_with fail
      go_loop [10, 11, 62] (fun _ _ i => ∃ k : Nat, k ≤ l.length ∧ i = .int .i64 k ∧ Hid (∀ j, j < k → splErr names.length (gl l j) = 0)) (fun _ _ i => l.length - (intOf i).toNat)
      case atStart => exact ⟨0, Nat.zero_le _, rfl, fun j hj => absurd hj (Nat.not_lt_zero _)⟩
      case round =>
        obtain ⟨k, hk, rfl, hd⟩ := hrel
        by_cases hlt : k < l.length
        · obtain ⟨b, off, q, c, rfl, hc, hi⟩ := rows_get HL1.out hlt
          have HCK := Lib.hid (splCheck_t _ w1 _ (names.length : Int) (gl l k) hi (HR.out k))
          have HSPK := Lib.hid (HSP.out k hlt hd.out)
          have k1 : (0 : Int) ≤ (k : Int) := Int.natCast_nonneg _
          have k2 : (k : Int) < (l.length : Int) := by omega
          have HEK : Hid (∀ z, splErr names.length (gl l k) = z → z = splErr names.length (gl l k)) := fun z e => e.symm
          clear hi
          by_cases e0 : splErr names.length (gl l k) = 0
          · have HE := Lib.hid e0
            rw [e0] at HCK
            clear e0 HEK
            go_wp2_with (first | (go_at_call 71; refine HCK.out.mono ?_; rintro e w' ⟨rfl, rfl⟩))
            go_round
            case rel => exact ⟨k + 1, by omega, by go_num, fun j hj => if e : j = k then by subst e; exact HE.out else hd.out j (by omega)⟩
            case measure => simp [intOf]; omega
          · have HST := Lib.hid (bd_err (c := splErr names.length (gl l k)) (Nat.le_refl _) HU1.out HRB.out (HSPK.out e0) e0)
            have g1 : (splErr names.length (gl l k) != 0) = true := by simpa using e0
            clear e0 HEK HSPK
            generalize splErr names.length (gl l k) = gc at *
            go_wp2_with (first | (go_at_call 71; refine HCK.out.mono ?_; rintro e w' ⟨rfl, rfl⟩))
            obtain ⟨s2, s3, hp⟩ := HST.out
            exact ⟨rfl, .tuple #[.agg #[.slice none 0 0, .slice none 0 0], .int .i64 gc], by simp [results, Tryz.results56, go_sem, s2, s3], hp⟩
        · obtain rfl : k = l.length := by omega
          have HSE3 : Hid (bldErr names l = if 0 ≤ pairI l then 17 else 0) := by
            unfold Hid; rw [HSE2.out, if_neg (by rw [firstNZ_zero hd.out]; decide)]
          have HPR := Lib.hid (pair_t _ w1 _ l HL1.out (fun k hk => (splErr_zero.1 (hd.out k hk)).set) (by omega))
          have HPB : Hid (prB l = decide (pairI l < 0)) := rfl
          clear hlt hk hd HSE2 HSP
          generalize prB l = pb at *
          cases pb
          · have HX : Hid (bldErr names l = 17) := by
              unfold Hid; rw [HSE3.out, if_pos]
              have := of_decide_eq_false HPB.out.symm; omega
            go_wp2_with fail
            refine HPR.out.mono ?_
            rintro e w2 ⟨rfl, hu2⟩
            have hrb2 := (Below.block hu2 w.heap.size (by rw [HSZ1.out]; omega)).trans HRB.out
            obtain ⟨q0, q1, q2, q3⟩ := boxed hrb2
            have HST := Lib.hid (bd_err (c := 17) (Nat.le_refl _) (HU1.out.trans hu2) hrb2 HX.out (by decide))
            clear hrb2 hu2
            go_wp2_with fail
            obtain ⟨s2, s3, hp⟩ := HST.out
            exact ⟨rfl, .tuple #[.agg #[.slice none 0 0, .slice none 0 0], .int .i64 17], by simp [results, Tryz.results56, go_sem, s2, s3], hp⟩
          · have HX : Hid (bldErr names l = 0) := by
              unfold Hid; rw [HSE3.out, if_neg]
              have := of_decide_eq_true HPB.out.symm; omega
            have HOK := Lib.hid (bldErr_ok.1 HX.out)
            clear HSE3 HNM HPB
            go_wp2_with fail
            refine HPR.out.mono ?_
            rintro e w2 ⟨rfl, hu2⟩
            have hrb2 := (Below.block hu2 w.heap.size (by rw [HSZ1.out]; omega)).trans HRB.out
            have HU2 := Lib.hid (HU1.out.trans hu2)
            have HRB2 := Lib.hid hrb2
            have HN2 := Lib.hid (StrsAt.keep HN1.out (hu2.kept S))
            have HL2 := Lib.hid (RowsAt.keep HL1.out (hu2.kept _))
            have HSZ2 : Hid (w.heap.size < w2.heap.size) := by have h1 := hu2.size; rw [HSZ1.out] at h1; exact h1
            clear hrb2 hu2 HU1 HRB HN1 HL1 HSZ1 HPR q0 q1 q2 q3
            obtain ⟨nb0, no, rfl, hc0⟩ := strs_get HN2.out h0p
            rw [Nat.add_zero] at hc0
            obtain ⟨q0, q1, q2, q3⟩ := boxed HRB2.out
            by_cases n1 : names.length = 1
            · have d3 : ((names.length : Int) == 1) = true := by simp [n1]
              obtain ⟨t1, t2, t3⟩ := two_boxes w2 (.int .i64 (-1)) (.string (gs names 0)) 3 9
              have hb3 := (Below.block t1 w.heap.size HSZ2.out).trans HRB2.out
              have HST := Lib.hid (store_two (w := w) (p := .slice (some ⟨w2.heap.size, 0, none⟩) 1 1) (q := .slice (some ⟨w2.heap.size + 1, 0, none⟩) 1 1) hb3 (Nat.le_refl _) (HU2.out.trans t1))
              have H3 := Lib.hid (⟨t2, t3⟩ : _ ∧ _)
              have hres : bldR names l = ⟨[-1], [gs names 0]⟩ := by unfold bldR bldT; rw [if_pos HX.out, if_pos n1]
              have HRES := Lib.hid hres
              have hq := t1.cell hc0
              have hq' := (Up.alloc w2 (.cells #[.int .i64 (-1)] 3)).cell hc0
              obtain ⟨q0, q1, q2, q3⟩ := boxed hb3
              have n1' : (0 : Int) < (names.length : Int) := by omega
              clear n1 t1 t2 t3 hb3 hres
              go_wp2_with fail
              obtain ⟨s1, s2, s3, s4⟩ := HST.out
              have hsz := HSZ2.out
              refine ⟨rfl, .tuple #[.agg #[.slice (some ⟨w2.heap.size, 0, none⟩) 1 1, .slice (some ⟨w2.heap.size + 1, 0, none⟩) 1 1], .int .i64 0], by simp [results, Tryz.results56, go_sem, s2, s3], s1, _, by rw [HX.out], ?_⟩
              rw [HRES.out]
              exact ⟨_, _, rfl, int_one ((World.cell?_of_block (a := ⟨w2.heap.size, 0, none⟩) (s4 w2.heap.size (Nat.ne_of_gt hsz))).trans H3.out.1), str_one ((World.cell?_of_block (a := ⟨w2.heap.size + 1, 0, none⟩) (s4 (w2.heap.size + 1) (by omega))).trans H3.out.2)⟩
            have d3 : ((names.length : Int) == 1) = false := by simp; omega
            have hu3 := Up.alloc w2 (.cells #[.slice none 0 0, .slice none 0 0] 45)
            have hG3 : GS w2.heap.size (w2.heap.size + 1) (w2.alloc (.cells #[.slice none 0 0, .slice none 0 0] 45)) (.slice none 0 0) (.slice none 0 0) ⟨[], []⟩ :=
              ⟨box_at, ⟨Owns.nil _ _ _, Owns.nil _ _ _, fun b hb => (by cases hb)⟩, by omega, by rw [World.size_alloc]; exact Nat.le_refl _⟩
            have HU3 := Lib.hid hu3
            have HG3 := Lib.hid hG3
            clear hu3 hG3 q0 q1 q2 q3
            go_wp2_with fail
            generalize w2.alloc (.cells #[.slice none 0 0, .slice none 0 0] 45) = w3 at *
            refine (add_t w2.heap.size (w2.heap.size + 1) ⟨[], []⟩ (-1) ByteArray.empty w3 _ _ HG3.out rfl (by decide)).mono ?_
            rintro e w4 ⟨rfl, P4, N4, hG4, hK4⟩
            have hu4 : Up w2 w4 := hK4.upw HG3.out HU3.out (Nat.le_refl _)
            have hc4 := hu4.cell hc0
            have HG4 := Lib.hid hG4
            have HU4 := Lib.hid hu4
            clear hG4 hK4 hu4 HG3 HU3 hc0
            go_wp2_with fail
            refine (add_t w2.heap.size (w2.heap.size + 1) _ 0 (gs names 0) w4 _ _ HG4.out rfl (by decide)).mono ?_
            rintro e w5 ⟨rfl, P5, N5, hG5, hK5⟩
            have hu5 : Up w2 w5 := hK5.upw HG4.out HU4.out (Nat.le_refl _)
            have HG5 := Lib.hid hG5
            have HU5 := Lib.hid hu5
            clear hG5 hK5 HG4 HU4 hc4
            by_cases n2 : names.length = 2
            · have d4 : ((names.length : Int) == 2) = true := by simp [n2]
              have HN2E := Lib.hid n2
              obtain ⟨nb1, no1, e1, hc1⟩ := strs_get HN2.out (show 1 < names.length by omega)
              injection e1 with e1; injection e1 with e1 e2; subst e1; subst e2
              have hc5 := hu5.cell hc1
              have n2' : (1 : Int) < (names.length : Int) := by omega
              clear hc1 hu5 n2
              go_wp2_with fail
              refine (add_t w2.heap.size (w2.heap.size + 1) _ 0 (gs names 1) w5 _ _ HG5.out rfl (show 2 + 1 ≤ 1000000 by decide)).mono ?_
              rintro e w6 ⟨he, P6, N6, hG6, hK6⟩
              have he : e = .returned (.int .i64 2) := he
              subst he
              have hu6 : Up w2 w6 := hK6.upw HG5.out HU5.out (Nat.le_refl _)
              obtain ⟨tc0, tc1, _, _⟩ := hG6.cells
              have hG6 : GS w2.heap.size (w2.heap.size + 1) w6 P6 N6 ⟨[-1, 0, 0], [ByteArray.empty, gs names 0, gs names 1]⟩ := hG6
              have hT6 : TreeAt (fun b => w2.heap.size + 1 ≤ b) w6 (.agg #[P6, N6]) ⟨[-1, 0, 0], [ByteArray.empty, gs names 0, gs names 1]⟩ := ⟨P6, N6, rfl, hG6.tl.pown.ints, hG6.tl.nown.strs⟩
              have HCN := Lib.hid (pcanonical_t _ w6 _ _ hT6 (show 3 ≤ 1000000 by decide) (show 3 ≤ 1000000 by decide) (fun k => Nmd.gs (Q := fun s => s.size ≤ 70000) (by
                intro s hs
                rcases List.mem_cons.1 hs with rfl | hs
                · decide
                rcases List.mem_cons.1 hs with rfl | hs
                · exact HZ.out 0
                rcases List.mem_cons.1 hs with rfl | hs
                · exact HZ.out 1
                · cases hs) (by decide) k))
              have hrb6 := (Below.block hu6 w.heap.size HSZ2.out).trans HRB2.out
              have HRB6 := Lib.hid hrb6
              have HU6 := Lib.hid hu6
              have HSZ6 : Hid (w.heap.size < w6.heap.size) := Nat.lt_of_lt_of_le HSZ2.out hu6.size
              have HT2 : Hid (treeErr ⟨[-1, 0, 0], [ByteArray.empty, gs names 0, gs names 1]⟩ = 0) := ((two_sets HOK.out HN2E.out).ofok0 hn32).te
              have HRES : Hid (bldR names l = canT ⟨[-1, 0, 0], [ByteArray.empty, gs names 0, gs names 1]⟩) := by unfold Hid bldR bldT; rw [if_pos HX.out, if_neg (by have := HN2E.out; omega), if_pos HN2E.out]
              clear hu6 hG6 hK6 hT6 hrb6 HG5 HU5 hc5 n2'
              go_wp2_with fail
              refine HCN.out.mono ?_
              rintro e w8 ⟨hu8, ⟨hte, rfl⟩ | ⟨hte, cv, rfl, P8, N8, rfl, hP8, hN8⟩⟩
              · exact absurd HT2.out hte
              obtain ⟨p8, c8, rfl, _, _⟩ := SlAt.open hP8
              obtain ⟨n8, d8, rfl, _, _⟩ := SlAt.open hN8
              have hrb8 := (Below.block hu8 w.heap.size HSZ6.out).trans HRB6.out
              obtain ⟨q0, q1, q2, q3⟩ := boxed hrb8
              have HFIN := Lib.hid (bd_fin HSZ6.out hrb8 ((HU2.out.trans HU6.out).trans hu8) hP8 hN8 HX.out HRES.out)
              clear hrb8 hu8 hte hP8 hN8
              go_wp2_with fail
              obtain ⟨s2, s3, hp⟩ := HFIN.out
              exact ⟨rfl, .tuple #[.agg #[.slice p8 _ c8, .slice n8 _ d8], .int .i64 0], by simp [results, Tryz.results56, go_sem, s2, s3], hp⟩
            · have d4 : ((names.length : Int) == 2) = false := by simp; omega
              have HN3 : Hid (3 ≤ names.length) := by unfold Hid; omega
              clear n1 n2
              go_wp2_with fail
              refine (add_t w2.heap.size (w2.heap.size + 1) _ 0 ByteArray.empty w5 _ _ HG5.out rfl (show 2 + 1 ≤ 1000000 by decide)).mono ?_
              rintro e w6 ⟨he, P6, N6, hG6, hK6⟩
              have he : e = .returned (.int .i64 2) := he
              subst he
              have hu6 : Up w2 w6 := hK6.upw HG5.out HU5.out (Nat.le_refl _)
              have HG6 : Hid (GS w2.heap.size (w2.heap.size + 1) w6 P6 N6 (bQ names (ownQ l) 0 0)) := hG6
              have HU6 := Lib.hid hu6
              have HU7 := Lib.hid (Up.alloc w6 (.cells #[.int .i64 2] 3))
              have HCL := Lib.hid (clone_rows_t (fun b => b < w.heap.size) (w6.alloc (.cells #[.int .i64 2] 3)) _ l (RowsAt.keep HL2.out ((hu6.trans HU7.out).kept _)) hln)
              have HB7 := Lib.hid (blk_alloc_new w6 (.cells #[.int .i64 2] 3))
              have HS7 : Hid ((w6.alloc (.cells #[.int .i64 2] 3)).heap.size = w6.heap.size + 1) := World.size_alloc _ _
              clear hG6 hK6 hu6 hu5 HG5 HU5
              go_wp2_with fail
              generalize w6.alloc (.cells #[.int .i64 2] 3) = w7 at *
              refine HCL.out.mono ?_
              rintro e w8 ⟨hu8, ov, vals, rfl, hvl, hov, hrow⟩
              have hu8 : Up w7 w8 := hu8
              obtain ⟨oq, oc, rfl, _⟩ := hov.form (n := l.length) hvl
              have hu9 := Up.alloc w8 (.cells #[.slice oq l.length oc] 22)
              have l8 := hu8.size
              have HL78 : Hid (w7.heap.size ≤ w8.heap.size) := hu8.size
              have l78 := HS7.out
              have lg6 := HG6.out.lo
              have lsz2 := HSZ2.out
              have how9 := hov.alloc (.cells #[.slice oq l.length oc] 22)
              obtain ⟨ps, hR9, hm9, hI9⟩ := rws_of (k := w.heap.size) how9 hvl (fun i hi => IntsAt.keep (hrow i hi) (hu9.kept _)) (by omega)
              have hpl : ps.length = l.length := by rw [← hm9, List.length_map]
              have hrl : ∀ p ∈ ps, p.1.length ≤ 1000000 := fun p hp => by
                have h1 : p.1 ∈ l := by rw [← hm9]; exact List.mem_map_of_mem hp
                obtain ⟨k, hk, e⟩ := in_gl h1
                rw [← e]; exact HR.out k
              have hso := sortRows_m (cf := cmpQ) cmpQ_self (fun h => cmpQ_zero h) cmpQ_anti (fun h k => cmpQ_trans h k) 130 #[] (enters_of Tryz.func130 (by kernel_rfl) rfl) hR9 (by omega) (fun p hp q hq W' hW' => by
                have hk : ∀ s ∈ ps, IntsAt Any W' s.2 s.1 := fun s hs => (SlAt.keep (hR9.row s hs) fun b hb hbl => hW'.block b hbl fun e => hb e.symm).sub fun _ _ _ => trivial
                exact cmpQ_t Any Any W' p.2 q.2 p.1 q.1 (hk p hp) (hk q hq) (hrl p hp) (hrl q hq))
              have HSO := Lib.hid hso
              have HOB9 := Lib.hid (blk_alloc_new w8 (.cells #[.slice oq l.length oc] 22))
              have HU69 := Lib.hid ((HU7.out.trans hu8).trans hu9)
              have HRB9 := Lib.hid ((Below.block (hu8.trans hu9) w6.heap.size (by omega)).trans HB7.out)
              have HR9 := Lib.hid hR9
              have HM9 := Lib.hid hm9
              have HI9 := Lib.hid hI9
              have HRL := Lib.hid hrl
              have HPL := Lib.hid hpl
              have HOV := Lib.hid hov
              have HS9 : Hid ((w8.alloc (.cells #[.slice oq l.length oc] 22)).heap.size = w8.heap.size + 1) := World.size_alloc _ _
              clear hso hu8 hu9 hov hvl hrow how9 hR9 hm9 hI9 hrl hpl HCL HU7 HB7 l8 l78 lg6 lsz2
              go_wp2_with fail
              generalize w8.alloc (.cells #[.slice oq l.length oc] 22) = w9 at *
              refine HSO.out.mono ?_
              rintro e w10 ⟨rfl, hg10, ps10, hp10, hs10, hR10, hmem10⟩
              have hov8 : ∀ g, (Value.slice oq l.length oc).ownBlock = some g → w7.heap.size ≤ g ∧ g < w8.heap.size := fun g hg => ownBlock_lt HOV.out hg
              have hob10 : w10.heap[w8.heap.size]? = some (Obj.cells #[.slice oq l.length oc] 22 (0, 0)) := (hg10.block _ (by have := HS9.out; omega) fun e => by have := hov8 _ e.symm; omega).trans HOB9.out
              have hbo : w10.cell? ⟨w8.heap.size, 0, none⟩ = some (.slice oq l.length oc) := by simp [World.cell?, hob10]
              have hS7 := HS7.out
              have hU10 : Up w6 w10 := Below.grown HU69.out hg10 HU69.out.size fun k hk => by have := hov8 k hk; omega
              have hrb10 := (hg10.block w6.heap.size (by have := HU69.out.size; have := HS9.out; have := (Array.getElem?_eq_some_iff.1 HRB9.out).1; omega) fun e => by have := hov8 _ e.symm; omega).trans HRB9.out
              have hl10 : ps10.length = l.length := by have := hp10.length_eq; rw [List.length_map, List.length_map, HPL.out] at this; exact this
              have hsq : ps10.map (·.1) = sortQ l := sortQ_uniq (by rw [HM9.out] at hp10; exact hp10) hs10
              have hI10 : ∀ p ∈ ps10, IntsAt (fun b => b < w.heap.size) w10 p.2 p.1 := fun p hp => IntsAt.keep (HI9.out p (hmem10 p hp)) fun b hb hbl => hg10.block b hbl fun e => by
                have := hov8 _ e.symm; have := HSZ2.out; have := HG6.out.lo; omega
              have HCO := Lib.hid (compactRows_m hR10 (by omega) (fun p hp => HRL.out p (hmem10 p hp)))
              have HOB10 := Lib.hid hob10
              have HU10 := Lib.hid hU10
              have HRB10 := Lib.hid hrb10
              have HSQ := Lib.hid hsq
              have HI10 := Lib.hid hI10
              have HR10 := Lib.hid hR10
              have HL10 := Lib.hid hl10
              clear hg10 hp10 hs10 hR10 hmem10 hov8 hob10 hU10 hrb10 hl10 hsq hI10 hS7 HSO HOB9 HU69 HRB9 HR9 HM9 HI9
              go_wp2_with fail
              refine HCO.out.mono ?_
              rintro e w11 ⟨hg11, v11, ps11, rfl, hp11, hR11, hmem11⟩
              rw [HSQ.out] at hp11
              have hp11 : ps11.map (·.1) = ownQ l := hp11
              have hlen11 : (ps11.map (·.2)).length = (ownQ l).length := by rw [← hp11]; simp
              obtain ⟨q11, c11, rfl, _⟩ := hR11.own.form hlen11
              have hS7 := HS7.out
              have ho10 : ∀ g, (Value.slice oq l.length oc).ownBlock = some g → w7.heap.size ≤ g ∧ g < w8.heap.size := fun g hg => ownBlock_lt HOV.out hg
              have hU11 : Up w6 w11 := Below.grown HU10.out hg11 HU10.out.size fun k hk => by have := ho10 k hk; omega
              have hob11 : w11.heap[w8.heap.size]? = some (Obj.cells #[.slice oq l.length oc] 22 (0, 0)) := (hg11.block _ (Array.getElem?_eq_some_iff.1 HOB10.out).1 fun e => by have := ho10 _ e.symm; omega).trans HOB10.out
              have hrb11 := (hg11.block w6.heap.size (Array.getElem?_eq_some_iff.1 HRB10.out).1 fun e => by have := ho10 _ e.symm; omega).trans HRB10.out
              have hI11 : ∀ p ∈ ps11, IntsAt (fun b => b < w2.heap.size) w11 p.2 p.1 := fun p hp => (IntsAt.keep (HI10.out p (hmem11 p hp)) fun b hb hbl => hg11.block b hbl fun e => by
                have := ho10 _ e.symm; have := HSZ2.out; have := HG6.out.lo; omega).sub fun b hb _ => Nat.lt_trans hb HSZ2.out
              have hne11 : (Value.slice q11 (ownQ l).length c11).ownBlock ≠ some w8.heap.size := fun e => by
                obtain ⟨c, h⟩ := Owns.typedV hR11.own e
                rw [hob11] at h
                injection h with h; injection h with _ h _
                exact absurd h (by decide)
              have l78 := HL78.out
              obtain ⟨hst, HAX, hu13⟩ := AX.start HG6.out rfl (by omega) (by omega) hU11 hrb11 hob11 hR11 hp11 hI11 hne11
              obtain ⟨b1, b2⟩ := hst
              have HAX := Lib.hid HAX
              have HG13 := Lib.hid (HG6.out.up hu13)
              have HU13 := Lib.hid (HU6.out.trans hu13)
              obtain ⟨_, b4, _, _⟩ := HAX.out.cells
              clear hg11 hp11 hR11 hmem11 hlen11 hS7 ho10 hU11 hob11 hrb11 hI11 hne11 l78 hu13 HCO hbo HOB10 HU10 HRB10 HSQ HI10 HR10 HG6 HU6
              have HOWN : Hid (∀ k, k < (ownQ l).length → SplOk names.length (gl (ownQ l) k)) := fun k hk => HOK.out.own hk
              have HOL : Hid ((ownQ l).length ≤ 64) := Nat.le_trans (ownQ_len l) hl64
              have HSM : Hid (3 + (ownQ l).length + (names.length - 1) ≤ 64) := own_small HOK.out HN3.out
              have HTE : Hid (treeErr (bT names (ownQ l)) = 0) := ((bld_sets HOK.out HN3.out HSM.out).ofok0 hn32).te
              have HRES : Hid (bldR names l = canT (bT names (ownQ l))) := by unfold Hid bldR bldT; rw [if_pos HX.out, if_neg (by have := HN3.out; omega), if_neg (by have := HN3.out; omega)]
              have HNMB : Hid (∀ k, (gs (bT names (ownQ l)).ns k).size ≤ 70000) := fun k => Nmd.gs (Q := fun s => s.size ≤ 70000) (by
                intro s hs
                rcases List.mem_append.1 hs with hs | hs
                · rcases List.mem_cons.1 hs with rfl | hs
                  · decide
                  rcases List.mem_cons.1 hs with rfl | hs
                  · exact HZ.out 0
                  rcases List.mem_cons.1 hs with rfl | hs
                  · decide
                  · cases hs
                · rcases List.mem_append.1 hs with hs | hs
                  · rw [List.eq_of_mem_replicate hs]; decide
                  · obtain ⟨b, _, rfl⟩ := List.mem_map.1 hs
                    exact HZ.out (b + 1)) (by decide) k
              have HBL : Hid (∀ j m, (bQ names (ownQ l) j m).ps.length = 3 + j + m ∧ (bQ names (ownQ l) j m).ns.length = 3 + j + m) := bQ_len names (ownQ l)
              have HBO : Hid (∀ j, (bQ names (ownQ l) j 0).push (lastQ (ownQ l) (gi (gl (ownQ l) j) 0) j) ByteArray.empty = bQ names (ownQ l) (j + 1) 0) := bQ_own names (ownQ l)
              have HBF : Hid (∀ m, (bQ names (ownQ l) (ownQ l).length m).push (lastQ (ownQ l) ((m + 1 : Nat) : Int) (ownQ l).length) (gs names (m + 1)) = bQ names (ownQ l) (ownQ l).length (m + 1)) := bQ_leaf names (ownQ l) _
              have HBA : Hid (bQ names (ownQ l) (ownQ l).length (names.length - 1) = bT names (ownQ l)) := rfl
              go_wp2_with fail
              generalize (w11.setCell ⟨w8.heap.size, 0, none⟩ (Value.slice q11 (ownQ l).length c11)).alloc (.cells #[.slice none 0 0] 26) = w13 at *
              generalize ownQ l = own at *
              clear b1 b2 b4
              go_loopw [22, 23, 124] (fun _ _ i wr => ∃ (k : Nat) (P N nv : Value), k ≤ own.length ∧ i = .int .i64 k ∧ Hid (GS w2.heap.size (w2.heap.size + 1) wr P N (bQ names own k 0)) ∧ Hid (AX w2.heap.size w6.heap.size w8.heap.size w11.heap.size wr P N (.slice q11 own.length c11) nv own ((List.range k).map fun j => ((3 + j : Nat) : Int))) ∧ Hid (Up w2 wr)) (fun _ _ i _ => own.length - (intOf i).toNat)
              case atStart => exact ⟨0, _, _, _, Nat.zero_le _, rfl, HG13.out, HAX.out, HU13.out⟩
              case round =>
                obtain ⟨k, P, N, nv, hk, rfl, hG, hA, hU⟩ := hrel
                obtain ⟨wo, rfl⟩ : ∃ wo : World, wo = wr := ⟨_, rfl⟩
                by_cases hlt : k < own.length
                · obtain ⟨b, off, q, c, rfl, hc, hi⟩ := rows_get hA.out.rows hlt
                  have hsp := (HOWN.out k hlt).len
                  obtain ⟨q', c', e, hn', h0 | ⟨b2, off2, rfl, hT, hcs⟩⟩ := hi
                  · omega
                  injection e with e1 _ _
                  subst e1
                  have hc2 : wo.cell? ⟨b2, off2, none⟩ = some (.int .i64 (gi (gl own k) 0)) := hcs 0 (by omega)
                  have HT := Lib.hid hT
                  have HC2 := Lib.hid hc2
                  have l2 : (0 : Int) < ((gl own k).length : Int) := by omega
                  have l3 : 0 < (gl own k).length := by omega
                  have i1 : (0 : Int) ≤ (k : Int) := by omega
                  have i2 : (k : Int) < (own.length : Int) := by omega
                  obtain ⟨_, _, hnv, _⟩ := hA.out.cells
                  have HKD : Hid (∀ W P' N', GK w2.heap.size wo W P N P' N' → W.cell? ⟨w11.heap.size, 0, none⟩ = some nv ∧ W.cell? ⟨b2, off2, none⟩ = some (.int .i64 (gi (gl own k) 0))) := fun W P' N' hK =>
                    ⟨((hA.out.gk hK).cells).2.2.1, (World.cell?_of_block (a := ⟨b2, off2, none⟩) (hK.block b2 (World.block_lt_of_cell? wo _ HC2.out) HT.out.1 HT.out.2.2.1 HT.out.2.2.2.1)).trans HC2.out⟩
                  have hAd := hA.out.up (drew_up wo)
                  obtain ⟨y1, y2, y3, _⟩ := hAd.cells
                  have HLS := Lib.hid (least32_t Any wo.drew w8.heap.size w11.heap.size w6.heap.size _ nv own ((List.range k).map fun j => ((3 + j : Nat) : Int)) (gi (gl own k) 0) k y2 (hAd.rows.sub fun _ _ _ => trivial) y3 (hAd.nds.ints.sub fun _ _ _ => trivial) y1 hk (by simp) (fun j hj => by simp [gi, hj]) (by have := HOL.out; omega) (fun j => by
                    by_cases hj : j < own.length
                    · have := (HOWN.out j hj).len; have := hn32; omega
                    · simp [gl, show own.length ≤ j by omega]))
                  have HAD := Lib.hid (add_t w2.heap.size (w2.heap.size + 1) (bQ names own k 0) (lastQ own (gi (gl own k) 0) k) ByteArray.empty wo.drew P N (hG.out.up (drew_up wo)) (by rw [(HBL.out k 0).1, (HBL.out k 0).2]) (by rw [(HBL.out k 0).1]; have := HOL.out; omega))
                  rw [HBO.out, (HBL.out k 0).1, Nat.add_zero] at HAD
                  have HLT := Lib.hid hlt
                  have HGG := Lib.hid hG.out
                  have HAA := Lib.hid hA.out
                  have HUU := Lib.hid hU.out
                  have HKL : Hid (k ≤ 64) := by have := HOL.out; unfold Hid; omega
                  clear hsp hn' hT hcs hc2 hAd y1 y2 y3 hG hA hU hk hlt
                  generalize gi (gl own k) 0 = x at *
                  generalize lastQ own x k = z at *
                  go_wp2_with fail
                  refine region_T (by kernel_rfl) 11 (fun w' => w'.cell? ⟨w11.heap.size, 0, none⟩ = some nv ∧ w'.cell? ⟨b2, off2, none⟩ = some (.int .i64 x)) (HKD.out _ _ _ (GK.of_up (drew_up wo))) (fun hS => ?_)
                  simp only [List.size_toArray, List.length_cons, List.length_nil, Nat.reduceAdd, Array.replicate_succ, Array.replicate_zero, List.push_toArray, List.nil_append, List.cons_append]
                  refine anyT.take (i := 0) (v := ?gv0k1) rfl (by kernel_rfl) (fun _ _ _ h => h) (by rfl) (fun w hSw => ?gy0k1) hS ?gr0k1
                  case gy0k1 =>
                    (try dsimp only at hSw)
                    go_simp
                    try with_reducible rfl
                  try simp only [Act.put, List.setIfInBounds_toArray, List.set_cons_zero, List.set_cons_succ]
                  refine anyT.take (i := 1) (v := ?gv1k1) rfl (by kernel_rfl) (fun _ _ _ h => h) (by rfl) (fun w hSw => ?gy1k1) hS ?gr1k1
                  case gy1k1 =>
                    (try dsimp only at hSw)
                    go_simp
                    try with_reducible rfl
                  try simp only [Act.put, List.setIfInBounds_toArray, List.set_cons_zero, List.set_cons_succ]
                  refine anyT.take (i := 2) (v := ?gv2k1) rfl (by kernel_rfl) (fun _ _ _ h => h) (by rfl) (fun w hSw => ?gy2k1) hS ?gr2k1
                  case gy2k1 =>
                    (try dsimp only at hSw)
                    go_simp
                    try with_reducible rfl
                  try simp only [Act.put, List.setIfInBounds_toArray, List.set_cons_zero, List.set_cons_succ]
                  refine anyT.take (i := 3) (v := ?gv3k1) rfl (by kernel_rfl) (fun _ _ _ h => h) (by rfl) (fun w hSw => ?gy3k1) hS ?gr3k1
                  case gy3k1 =>
                    (try dsimp only at hSw)
                    go_simp
                    try with_reducible rfl
                  try simp only [Act.put, List.setIfInBounds_toArray, List.set_cons_zero, List.set_cons_succ]
                  refine anyT.take (i := 4) (v := ?gv4k1) rfl (by kernel_rfl) (fun _ _ _ h => h) (by rfl) (fun w hSw => ?gy4k1) hS ?gr4k1
                  case gy4k1 =>
                    (try dsimp only at hSw)
                    go_simp
                    try with_reducible rfl
                  try simp only [Act.put, List.setIfInBounds_toArray, List.set_cons_zero, List.set_cons_succ]
                  refine anyT.take (i := 5) (v := ?gv5k1) rfl (by kernel_rfl) (fun _ _ _ h => h) (by rfl) (fun w hSw => ?gy5k1) hS ?gr5k1
                  case gy5k1 =>
                    (try dsimp only at hSw)
                    go_simp
                    try with_reducible rfl
                  try simp only [Act.put, List.setIfInBounds_toArray, List.set_cons_zero, List.set_cons_succ]
                  refine anyT.take (i := 6) (v := ?gv6k1) rfl (by kernel_rfl) (fun _ _ _ h => h) (by rfl) (fun w hSw => ?gy6k1) hS ?gr6k1
                  case gy6k1 =>
                    (try dsimp only at hSw)
                    go_simp
                    try with_reducible rfl
                  try simp only [Act.put, List.setIfInBounds_toArray, List.set_cons_zero, List.set_cons_succ]
                  refine anyT.step (i := 7) rfl (by kernel_rfl) (fun K' hK => ?_)
                  go_simp
                  refine HLS.out.mono ?_
                  rintro e w3' ⟨rfl, rfl⟩
                  refine hK.out _ _ (fun _ => hS) (fun hS => ?_)
                  replace hS := hS ⟨10, by decide, rfl⟩
                  try simp only [List.setIfInBounds_toArray, List.set_cons_zero, List.set_cons_succ]
                  refine anyT.step (i := 8) rfl (by kernel_rfl) (fun K' hK => ?_)
                  go_simp
                  refine HAD.out.mono ?_
                  rintro e w14 ⟨rfl, P14, N14, hG14, hK14⟩
                  have hK0 : GK w2.heap.size wo w14 P N P14 N14 := (GK.of_up (drew_up wo)).trans hK14
                  have HA14 := Lib.hid (HAA.out.gk hK0)
                  have HU14 := Lib.hid (hK0.upw HGG.out HUU.out (Nat.le_refl _))
                  have HG14 := Lib.hid hG14
                  have HK14 := Lib.hid hK0
                  clear hG14 hK14 hK0
                  refine hK.out _ _ (fun _ => HKD.out _ _ _ HK14.out) (fun hS => ?_)
                  replace hS := hS ⟨10, by decide, rfl⟩
                  try simp only [List.setIfInBounds_toArray, List.set_cons_zero, List.set_cons_succ]
                  refine anyT.step (i := 9) rfl (by kernel_rfl) (fun K' hK => ?_)
                  go_simp
                  have hu15 := Up.alloc w14 (.cells #[.int .i64 ((3 + k : Nat) : Int)] 3)
                  have HA15 := Lib.hid (HA14.out.up hu15)
                  have HG15 := Lib.hid (HG14.out.up hu15)
                  have HU15 := Lib.hid (HU14.out.trans hu15)
                  have HK15 := Lib.hid (HK14.out.up hu15)
                  clear hu15
                  refine hK.out _ _ (fun _ => HKD.out _ _ _ HK15.out) (fun hS => ?_)
                  replace hS := hS ⟨10, by decide, rfl⟩
                  try simp only [List.setIfInBounds_toArray, List.set_cons_zero, List.set_cons_succ]
                  refine anyT.step (i := 10) rfl (by kernel_rfl) (fun K' hK => ?_)
                  refine step_app1 (by rfl) _ _ _ (by rfl) (w11.heap.size + 1) 3 _ 8 Tryz.underlying26 Tryz.infoI (by rfl) (by decide) (by rfl) HA15.out.nds (.int .i64 ((3 + k : Nat) : Int)) w14.heap.size (by rfl) (box1_0 _ _ _) (by rfl) (by simp; have := HKL.out; omega) HA15.out.lt.2.2.2 ?_
                  intro g16 c16 w16 ho16 hg16 hr16 _
                  obtain ⟨⟨y1, y2⟩, hA17, hG17, hU17⟩ := HA15.out.app HG15.out ho16 hg16 (fun b hb => by
                    have hb : some g16 = some b := hb
                    injection hb with hb
                    rcases hr16 with h | h
                    · exact .inl (hb ▸ h)
                    · exact .inr (Nat.le_of_eq (h.symm.trans hb)))
                  simp only [List.length_map, List.length_range] at hA17 hG17 hU17
                  have HA17 := Lib.hid hA17
                  have HG17 := Lib.hid hG17
                  have HU17 := Lib.hid (hU17 w2 HU15.out (Nat.le_refl _))
                  clear ho16 hg16 hr16 hA17 hG17 hU17
                  refine hK.out _ _ (not_more (by kernel_rfl)) (fun _ => ?_)
                  try simp only [Act.put, List.setIfInBounds_toArray, List.set_cons_zero, List.set_cons_succ]
                  refine anyT.step (i := 11) rfl (by kernel_rfl) (fun K' hK => ?_)
                  go_simp
                  refine hK.out _ _ (not_more (by kernel_rfl)) (fun _ => ?_)
                  refine anyT.done (by kernel_rfl) ?_
                  have k64 := HKL.out
                  have hltk := HLT.out
                  go_wp2_with fail
                  go_roundw
                  case rel => exact ⟨k + 1, _, _, _, Nat.succ_le_of_lt HLT.out, by go_num, HG17, (by have h := HA17.out; rw [show (List.range (k + 1)).map (fun j => ((3 + j : Nat) : Int)) = (List.range k).map (fun j => ((3 + j : Nat) : Int)) ++ [((3 + k : Nat) : Int)] by rw [List.range_succ, List.map_append]; rfl]; exact Lib.hid h), HU17⟩
                  case measure => have := HLT.out; simp [intOf]; omega
                · obtain rfl : k = own.length := by omega
                  have HGG := Lib.hid hG.out
                  have HAA := Lib.hid hA.out
                  have HUU := Lib.hid hU.out
                  clear hG hA hU hlt hk
                  go_wp2_with fail
                  go_loopw [24] (fun i wr => ∃ (q m : Nat) (P N : Value), q ≤ names.length ∧ q = m + 1 ∧ i = .int .i64 (q : Int) ∧ Hid (GS w2.heap.size (w2.heap.size + 1) wr P N (bQ names own own.length m)) ∧ Hid (AX w2.heap.size w6.heap.size w8.heap.size w11.heap.size wr P N (.slice q11 own.length c11) nv own ((List.range own.length).map fun j => ((3 + j : Nat) : Int))) ∧ Hid (Up w2 wr)) (fun i _ => names.length - (intOf i).toNat)
                  case atStart => exact ⟨1, 0, P, N, h0p, rfl, rfl, HGG.out, HAA.out, HUU.out⟩
                  case round =>
                    obtain ⟨q, m, P', N', hq, hqm, rfl, hG, hA, hU⟩ := hrel
                    obtain ⟨wo, rfl⟩ : ∃ wo : World, wo = wr := ⟨_, rfl⟩
                    by_cases hlt : q < names.length
                    · obtain ⟨nb', no', e1, hc1⟩ := strs_get HN2.out hlt
                      injection e1 with e1; injection e1 with e1 e2; subst e1; subst e2
                      have hc1 := hU.out.cell hc1
                      have hAd := hA.out.up (drew_up wo)
                      obtain ⟨y1, y2, y3, _⟩ := hAd.cells
                      have i1 : (0 : Int) ≤ (q : Int) := by omega
                      have i2 : (q : Int) < (names.length : Int) := by omega
                      have HKD : Hid (wo.drew.cell? ⟨w8.heap.size, 0, none⟩ = some (.slice q11 own.length c11) ∧ wo.drew.cell? ⟨nb0, no + q, none⟩ = some (.string (gs names q))) := ⟨y2, (drew_up wo).cell hc1⟩
                      have HLS := Lib.hid (least32_t Any wo.drew w8.heap.size w11.heap.size w6.heap.size _ nv own ((List.range own.length).map fun j => ((3 + j : Nat) : Int)) (q : Int) own.length y2 (hAd.rows.sub fun _ _ _ => trivial) y3 (hAd.nds.ints.sub fun _ _ _ => trivial) y1 (Nat.le_refl _) (by simp) (fun j hj => by simp [gi, hj]) (by have := HOL.out; omega) (fun j => by
                        by_cases hj : j < own.length
                        · have := (HOWN.out j hj).len; have := hn32; omega
                        · simp [gl, show own.length ≤ j by omega]))
                      have HAD := Lib.hid (add_t w2.heap.size (w2.heap.size + 1) (bQ names own own.length m) (lastQ own (q : Int) own.length) (gs names q) wo.drew P' N' (hG.out.up (drew_up wo)) (by rw [(HBL.out own.length m).1, (HBL.out own.length m).2]) (by rw [(HBL.out own.length m).1]; have := HOL.out; omega))
                      rw [show (bQ names own own.length m).push (lastQ own (q : Int) own.length) (gs names q) = bQ names own own.length (m + 1) by rw [hqm]; exact HBF.out m] at HAD
                      have HLT := Lib.hid hlt
                      have HQM := Lib.hid hqm
                      have HGG := Lib.hid hG.out
                      have HAA := Lib.hid hA.out
                      have HUU := Lib.hid hU.out
                      clear hc1 hAd y1 y2 y3 hG hA hU hlt hqm hq
                      generalize lastQ own (q : Int) own.length = z at *
                      generalize gs names q = nm at *
                      go_wp2_with fail
                      refine region_T (by kernel_rfl) 11 (fun w' => w'.cell? ⟨w8.heap.size, 0, none⟩ = some (.slice q11 own.length c11) ∧ w'.cell? ⟨nb0, no + q, none⟩ = some (.string nm)) HKD.out (fun hS => ?_)
                      simp only [List.size_toArray, List.length_cons, List.length_nil, Nat.reduceAdd, Array.replicate_succ, Array.replicate_zero, List.push_toArray, List.nil_append, List.cons_append]
                      refine anyT.take (i := 0) (v := ?gv0k2) rfl (by kernel_rfl) (fun _ _ _ h => h) (by rfl) (fun w hSw => ?gy0k2) hS ?gr0k2
                      case gy0k2 =>
                        (try dsimp only at hSw)
                        go_simp
                        try with_reducible rfl
                      try simp only [Act.put, List.setIfInBounds_toArray, List.set_cons_zero, List.set_cons_succ]
                      refine anyT.take (i := 1) (v := ?gv1k2) rfl (by kernel_rfl) (fun _ _ _ h => h) (by rfl) (fun w hSw => ?gy1k2) hS ?gr1k2
                      case gy1k2 =>
                        (try dsimp only at hSw)
                        go_simp
                        try with_reducible rfl
                      try simp only [Act.put, List.setIfInBounds_toArray, List.set_cons_zero, List.set_cons_succ]
                      refine anyT.take (i := 2) (v := ?gv2k2) rfl (by kernel_rfl) (fun _ _ _ h => h) (by rfl) (fun w hSw => ?gy2k2) hS ?gr2k2
                      case gy2k2 =>
                        (try dsimp only at hSw)
                        go_simp
                        try with_reducible rfl
                      try simp only [Act.put, List.setIfInBounds_toArray, List.set_cons_zero, List.set_cons_succ]
                      refine anyT.take (i := 3) (v := ?gv3k2) rfl (by kernel_rfl) (fun _ _ _ h => h) (by rfl) (fun w hSw => ?gy3k2) hS ?gr3k2
                      case gy3k2 =>
                        (try dsimp only at hSw)
                        go_simp
                        try with_reducible rfl
                      try simp only [Act.put, List.setIfInBounds_toArray, List.set_cons_zero, List.set_cons_succ]
                      refine anyT.take (i := 4) (v := ?gv4k2) rfl (by kernel_rfl) (fun _ _ _ h => h) (by rfl) (fun w hSw => ?gy4k2) hS ?gr4k2
                      case gy4k2 =>
                        (try dsimp only at hSw)
                        go_simp
                        try with_reducible rfl
                      try simp only [Act.put, List.setIfInBounds_toArray, List.set_cons_zero, List.set_cons_succ]
                      refine anyT.take (i := 6) (v := ?gv6k2) rfl (by kernel_rfl) (fun _ _ _ h => h) (by rfl) (fun w hSw => ?gy6k2) hS ?gr6k2
                      case gy6k2 =>
                        (try dsimp only at hSw)
                        go_simp
                        try with_reducible rfl
                      try simp only [Act.put, List.setIfInBounds_toArray, List.set_cons_zero, List.set_cons_succ]
                      refine anyT.take (i := 7) (v := ?gv7k2) rfl (by kernel_rfl) (fun _ _ _ h => h) (by rfl) (fun w hSw => ?gy7k2) hS ?gr7k2
                      case gy7k2 =>
                        (try dsimp only at hSw)
                        go_simp
                        try with_reducible rfl
                      try simp only [Act.put, List.setIfInBounds_toArray, List.set_cons_zero, List.set_cons_succ]
                      refine anyT.take (i := 8) (v := ?gv8k2) rfl (by kernel_rfl) (fun _ _ _ h => h) (by rfl) (fun w hSw => ?gy8k2) hS ?gr8k2
                      case gy8k2 =>
                        (try dsimp only at hSw)
                        go_simp
                        try with_reducible rfl
                      try simp only [Act.put, List.setIfInBounds_toArray, List.set_cons_zero, List.set_cons_succ]
                      refine anyT.take (i := 9) (v := ?gv9k2) rfl (by kernel_rfl) (fun _ _ _ h => h) (by rfl) (fun w hSw => ?gy9k2) hS ?gr9k2
                      case gy9k2 =>
                        (try dsimp only at hSw)
                        go_simp
                        try with_reducible rfl
                      try simp only [Act.put, List.setIfInBounds_toArray, List.set_cons_zero, List.set_cons_succ]
                      refine anyT.step (i := 5) rfl (by kernel_rfl) (fun K' hK => ?_)
                      go_simp
                      refine HLS.out.mono ?_
                      rintro e w3' ⟨rfl, rfl⟩
                      refine hK.out _ _ (fun _ => hS) (fun hS => ?_)
                      replace hS := hS ⟨10, by decide, rfl⟩
                      try simp only [List.setIfInBounds_toArray, List.set_cons_zero, List.set_cons_succ]
                      refine anyT.step (i := 10) rfl (by kernel_rfl) (fun K' hK => ?_)
                      go_simp
                      refine HAD.out.mono ?_
                      rintro e w14 ⟨rfl, P14, N14, hG14, hK14⟩
                      have hK0 : GK w2.heap.size wo w14 P' N' P14 N14 := (GK.of_up (drew_up wo)).trans hK14
                      have HA14 := Lib.hid (HAA.out.gk hK0)
                      have HU14 := Lib.hid (hK0.upw HGG.out HUU.out (Nat.le_refl _))
                      have HG14 := Lib.hid hG14
                      clear hG14 hK14 hK0
                      refine hK.out _ _ (not_more (by kernel_rfl)) (fun _ => ?_)
                      refine anyT.done (by kernel_rfl) ?_
                      go_wp2_with fail
                      go_roundw
                      case rel => exact ⟨q + 1, m + 1, _, _, HLT.out, by have := HQM.out; omega, by go_num, HG14, HA14, HU14⟩
                      case measure => have := HLT.out; simp [intOf]; omega
                    · obtain rfl : q = names.length := by omega
                      have e1 : m = names.length - 1 := by omega
                      have hG6 : GS w2.heap.size (w2.heap.size + 1) wo P' N' (bT names own) := by have h := hG.out; rw [e1, HBA.out] at h; exact h
                      obtain ⟨tc0, tc1, _, _⟩ := hG6.cells
                      have hT6 : TreeAt (fun b => w2.heap.size + 1 ≤ b) wo (.agg #[P', N']) (bT names own) := ⟨P', N', rfl, hG6.tl.pown.ints, hG6.tl.nown.strs⟩
                      have HCN := Lib.hid (pcanonical_t _ wo _ _ hT6 (by rw [← HBA.out, (HBL.out _ _).1]; have := HSM.out; omega) (by rw [← HBA.out, (HBL.out _ _).2]; have := HSM.out; omega) HNMB.out)
                      have hrb6 := (Below.block hU.out w.heap.size HSZ2.out).trans HRB2.out
                      have HRB6 := Lib.hid hrb6
                      have HU6 := Lib.hid hU.out
                      have HSZ6 : Hid (w.heap.size < wo.heap.size) := Nat.lt_of_lt_of_le HSZ2.out hU.out.size
                      clear hG hA hU hG6 hT6 hrb6 e1 hqm hlt
                      go_wp2_with fail
                      refine HCN.out.mono ?_
                      rintro e w18 ⟨hu8, ⟨hte, rfl⟩ | ⟨hte, cv, rfl, P8, N8, rfl, hP8, hN8⟩⟩
                      · exact absurd HTE.out hte
                      obtain ⟨p8, c8, rfl, _, _⟩ := SlAt.open hP8
                      obtain ⟨n8, d8, rfl, _, _⟩ := SlAt.open hN8
                      have hrb8 := (Below.block hu8 w.heap.size HSZ6.out).trans HRB6.out
                      obtain ⟨q0, q1, q2, q3⟩ := boxed hrb8
                      have HFIN := Lib.hid (bd_fin HSZ6.out hrb8 ((HU2.out.trans HU6.out).trans hu8) hP8 hN8 HX.out HRES.out)
                      clear hrb8 hu8 hte hP8 hN8
                      go_wp2_with fail
                      obtain ⟨s2, s3, hp⟩ := HFIN.out
                      exact ⟨rfl, .tuple #[.agg #[.slice p8 _ c8, .slice n8 _ d8], .int .i64 0], by simp [results, Tryz.results56, go_sem, s2, s3], hp⟩
end Go.Proofs.YtpjijbophjdgaaaGreat
