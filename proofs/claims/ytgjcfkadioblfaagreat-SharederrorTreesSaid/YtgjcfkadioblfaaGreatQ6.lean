/- A list of groups that came in, opened. Sets of sources as numbers: of, within, conflict, sources. The contract of sharederror.check. The contract of layer 31's reference's children. The contract of sharederror.Conflicts. -/
import Derived.Test.YtgjcfkadioblfaaGreatQ4
import Derived.Test.YtgjcfkadioblfaaGreatQ5
import Derived.Laws.Bits64b
import Derived.Laws.BitsAllLaws
import Derived.Test.YtgjcfkadioblfaaGreatQ3
import Derived.Test.YtgjcfkadioblfaaGreatQ1
namespace Go.Proofs.YtgjcfkadioblfaaGreat
open Go.ChangeShapes Go.WideShapes Go.ChangeAt Go.RowKit Go.Deep
instance : Inhabited Grp := ⟨⟨0, 0, []⟩⟩
def GrpSz (l : List Grp) : Prop := l.length ≤ 9223372036854775807 ∧ ∀ k, (gg l k).src.length ≤ 9223372036854775807
section
variable {H : Type} {enc : TypeId × Value → H} {W : World}
set_option maxRecDepth 100000 in
theorem open_grps1 {fuel : Nat} {v : Value} {x : DataW H × List MemPlace} (h : DataW.trod enc Tryz.prog W 0 (fun _ => true) true fuel 26 [v] = some x) : ∃ l : List Grp, GrpsAt Any W v l ∧ GrpSz l := by
  rcases open_slice Tryz.underlying26 h with ⟨hcs, _⟩ | ⟨a, l, c, m, n, D, Pl, hcs, _, hl, hm, hmm, _, hx⟩
  · obtain rfl : v = .slice none 0 0 := by simpa using hcs
    exact ⟨[], ⟨none, 0, rfl, Nat.le_refl _, .inl rfl⟩, by simp, fun k => by simp [gg]⟩
  · obtain rfl : v = .slice (some a) l c := by simpa using hcs
    simp only [if_true] at hmm
    have hC : Tryz.prog.cellsOf 61 = 3 := by kernel_rfl
    have hCI : Tryz.prog.cellsOf 3 = 1 := by kernel_rfl
    have hCS : Tryz.prog.cellsOf 22 = 1 := by kernel_rfl
    rw [hC] at hx
    have hone : ∀ i, i < l → ∃ g : Grp, W.cell? (a.add (i * 3)) = some (.int .i64 g.un) ∧ W.cell? (a.add (i * 3 + 1)) = some (.int .i64 g.st) ∧ (∃ sv, W.cell? (a.add (i * 3 + 2)) = some sv ∧ IntsAt Any W sv g.src) ∧ g.src.length ≤ 9223372036854775807 := fun i hi => by
      obtain ⟨cs', h1, h2⟩ := hx i (by omega)
      obtain ⟨_, hlen, hcell⟩ := World.cells?_some h1
      match cs', hlen with
      | [c0, c1, c2], _ =>
        obtain ⟨y0, y1, y2, n', _, _, t0, t1, t2⟩ := trod_struct3 Tryz.underlying61 h2
        have t0' : DataW.trod enc Tryz.prog W 0 (fun _ => true) true n' 3 [c0] = some y0 := by simpa [hCI] using t0
        have t1' : DataW.trod enc Tryz.prog W 0 (fun _ => true) true n' 3 [c1] = some y1 := by simpa [hCI] using t1
        have t2' : DataW.trod enc Tryz.prog W 0 (fun _ => true) true n' 22 [c2] = some y2 := by simpa [hCS] using t2
        obtain ⟨n0, e0, _, _⟩ := DataW.trod_int Tryz.underlying3 t0'
        obtain ⟨n1, e1, _, _⟩ := DataW.trod_int Tryz.underlying3 t1'
        obtain ⟨xs, hxs, hxl⟩ := open_ints1 t2'
        obtain rfl : c0 = .int .i64 n0 := by simpa using e0
        obtain rfl : c1 = .int .i64 n1 := by simpa using e1
        have k0 := hcell 0 (by omega)
        have k1 := hcell 1 (by omega)
        have k2 := hcell 2 (by omega)
        rw [add_add] at k0 k1 k2
        exact ⟨⟨n0, n1, xs⟩, by simpa using k0, by simpa using k1, ⟨c2, by simpa using k2, hxs⟩, hxl⟩
    obtain ⟨f, hf⟩ := choose_lt hone
    have hlen : ((List.range l).map f).length = l := by simp
    have hgg : ∀ k, k < l → gg ((List.range l).map f) k = f k := fun k hk => by simp [gg, hk]
    refine ⟨(List.range l).map f, ⟨some a, c, by rw [hlen], by rw [hlen]; exact hl, ?_⟩, by rw [hlen]; exact len_max (Nat.le_trans hl hm), fun k => ?_⟩
    · by_cases h0 : l = 0
      · exact .inl (by rw [hlen]; exact h0)
      · obtain ⟨b, off, spot⟩ := a
        have hspot : spot = none := by
          have := World.cell?_spot (hf 0 (by omega)).1
          simpa [Addr.add] using this
        subst hspot
        refine .inr ⟨b, off, rfl, trivial, fun k hk => ?_⟩
        rw [hlen] at hk
        rw [hgg k hk]
        obtain ⟨h1, h2, ⟨sv, h3, h4⟩, _⟩ := hf k hk
        simp only [add_plain] at h1 h2 h3
        exact ⟨sv, h1, by rw [Nat.add_assoc]; exact h2, by rw [Nat.add_assoc]; exact h3, h4⟩
    · by_cases hk : k < l
      · rw [hgg k hk]; exact (hf k hk).2.2.2
      · have : gg ((List.range l).map f) k = ⟨0, 0, []⟩ := by simp [gg, hk]
        rw [this]; simp
set_option maxRecDepth 100000 in
theorem open_grpsV {v : Value} {d : DataW H} {p : List MemPlace} {base : Nat} (hv : Value.okWide Tryz.prog W .any base 26 v) (h : DataW.Trod enc Tryz.prog W 0 (fun _ => true) true 26 v d p) : ∃ l : List Grp, GrpsAt Any W v l ∧ GrpSz l := by
  obtain ⟨a, l, c, rfl⟩ := okWide_slice Tryz.underlying26 hv
  obtain ⟨n, hn⟩ := trod_one rfl h
  exact open_grps1 hn
set_option maxRecDepth 100000 in
theorem open_strsV {v : Value} {d : DataW H} {p : List MemPlace} {base : Nat} (hv : Value.okWide Tryz.prog W .any base 23 v) (h : DataW.Trod enc Tryz.prog W 0 (fun _ => true) true 23 v d p) : ∃ xs : List ByteArray, StrsAt Any W v xs ∧ xs.length ≤ 9223372036854775807 ∧ ∀ k, (gs xs k).size ≤ 9223372036854775807 := by
  obtain ⟨a, l, c, rfl⟩ := okWide_slice Tryz.underlying23 hv
  obtain ⟨n, hn⟩ := trod_one rfl h
  exact open_strs1 hn
end
end Go.Proofs.YtgjcfkadioblfaaGreat
namespace Go.Proofs.YtgjcfkadioblfaaGreat
open Go.RowKit Go.Deep
/-- The set of the first k elements. -/
def ofK (l : List Int) : Nat → Nat
  | 0 => 0
  | k + 1 => ofK l k ||| 2 ^ (gi l k).toNat
def ofS (l : List Int) : Nat := ofK l l.length
def Small (l : List Int) : Prop := ∀ k, k < l.length → 0 ≤ gi l k ∧ gi l k < 32
theorem ofK_lt {l : List Int} (h : Small l) : ∀ {k : Nat}, k ≤ l.length → ofK l k < 4294967296
  | 0, _ => by simp [ofK]
  | k + 1, hk => by
    have h1 := ofK_lt h (k := k) (by omega)
    have h2 := h k (by omega)
    have h3 : 2 ^ (gi l k).toNat < 2 ^ 32 := Nat.pow_lt_pow_right (by decide) (by omega)
    exact Nat.or_lt_two_pow (n := 32) (by omega) h3
theorem ofS_lt {l : List Int} (h : Small l) : ofS l < 4294967296 := ofK_lt h (Nat.le_refl _)
theorem pow_lt64 {x : Int} (_ : 0 ≤ x) (h1 : x < 32) : 2 ^ x.toNat < 18446744073709551616 := by
  have : 2 ^ x.toNat < 2 ^ 64 := Nat.pow_lt_pow_right (by decide) (by omega)
  simpa using this
theorem wrap_pow {x : Int} (h0 : 0 ≤ x) (h1 : x < 32) : IntKind.u64.wrap ((2 : Int) ^ x.toNat) = ((2 ^ x.toNat : Nat) : Int) := by
  have h := pow_lt64 h0 h1
  rw [IntKind.wrap_u64, show ((2 : Int) ^ x.toNat) = ((2 ^ x.toNat : Nat) : Int) by simp]
  generalize 2 ^ x.toNat = z at h ⊢
  omega
def withinB (a b : Nat) : Bool := decide (a &&& (18446744073709551615 - b) = 0)
def confB (a b : Nat) : Bool := decide (a &&& b ≠ 0) && !withinB a b && !withinB b a
set_option maxHeartbeats 400000 in
theorem within_t (a b : Nat) (ha : a < 18446744073709551616) (hb : b < 18446744073709551616) (w : World) : Calls Tryz.prog 61 #[.int .u64 a, .int .u64 b] w fun e w' => e = .returned (.bool (withinB a b)) ∧ w = w' := by
  go_enter Tryz.func61, Tryz.ntmps61
  go_wp2_with fail
  go_ret
  exact ⟨ret_bool (by rw [u64_andNot_nat a b ha hb]; unfold withinB; rw [Bool.eq_iff_iff]; simp [Int.natCast_eq_zero]), rfl⟩
set_option maxHeartbeats 400000 in
theorem of_t (S : Nat → Prop) (w : World) (v : Value) (l : List Int) (h : IntsAt S w v l) (hs : Small l) (hn : l.length ≤ 1000000) :
    Calls Tryz.prog 52 #[v] w fun e w' => e = .returned (.int .u64 (ofS l)) ∧ w = w' := by
  obtain ⟨p, cap, rfl, hcap, H⟩ := SlAt.open h
  clear h
  go_enter Tryz.func52, Tryz.ntmps52
  go_wp2_with fail
  go_loop [3, 5, 8] (fun a _ i => ∃ k : Nat, k ≤ l.length ∧ i = .int .i64 k ∧ a = .int .u64 (ofK l k)) (fun _ _ i => l.length - (intOf i).toNat)
  case atStart => exact ⟨0, Nat.zero_le _, rfl, rfl⟩
  case round =>
    obtain ⟨k, hk, rfl, rfl⟩ := hrel
    by_cases hlt : k < l.length
    · obtain ⟨b, off, rfl, hc⟩ := H k hlt
      have hb := hs k hlt
      clear H
      go_wp2_with fail
      go_round
      case rel => exact ⟨k + 1, by omega, by go_num, by rw [wrap_pow hb.1 hb.2, u64_or_nat _ _ (Nat.lt_of_lt_of_le (ofK_lt hs hk) (by decide)) (pow_lt64 hb.1 hb.2)]; rfl⟩
      case measure => simp [intOf]; omega
    · clear H
      go_wp2_with fail
      go_ret
      exact ⟨ret_int (by obtain rfl : k = l.length := by omega
                         rfl), rfl⟩
set_option maxRecDepth 100000 in
set_option maxHeartbeats 400000 in
theorem conflict_t (a b : Nat) (ha : a < 18446744073709551616) (hb : b < 18446744073709551616) (w : World) : Calls Tryz.prog 53 #[.int .u64 a, .int .u64 b] w fun e w' => e = .returned (.bool (confB a b)) ∧ w = w' := by
  have e0 : (bits BinOp.and IntKind.u64 (a : Int) (b : Int) != 0) = decide (a &&& b ≠ 0) := by
    rw [u64_and_nat a b ha hb, Bool.eq_iff_iff]; simp [Int.natCast_eq_zero]
  have HC : Hid (confB a b = (decide (a &&& b ≠ 0) && !withinB a b && !withinB b a)) := rfl
  have H1 := Lib.hid (within_t a b ha hb)
  have H2 := Lib.hid (within_t b a hb ha)
  generalize decide (a &&& b ≠ 0) = c0 at *
  generalize withinB a b = c1 at *
  generalize withinB b a = c2 at *
  clear ha hb
  cases c0
  · go_enter Tryz.func53, Tryz.ntmps53
    go_wp2_with fail
    go_ret
    exact ⟨ret_bool (by rw [HC.out]; rfl), rfl⟩
  · cases c1
    · go_enter Tryz.func53, Tryz.ntmps53
      go_wp2_with (first | (refine (H1.out _).mono ?_; rintro e w' ⟨rfl, rfl⟩) | (refine (H2.out _).mono ?_; rintro e w' ⟨rfl, rfl⟩))
      go_ret
      exact ⟨ret_bool (by rw [HC.out]; rfl), rfl⟩
    · go_enter Tryz.func53, Tryz.ntmps53
      go_wp2_with (first | (refine (H1.out _).mono ?_; rintro e w' ⟨rfl, rfl⟩) | (refine (H2.out _).mono ?_; rintro e w' ⟨rfl, rfl⟩))
      go_ret
      exact ⟨ret_bool (by rw [HC.out]; rfl), rfl⟩
/-- A list that could be the sources of a group. -/
def srcBad (l : List Int) (k : Nat) : Bool := decide (gi l k < 0) || decide (32 ≤ gi l k) || (decide (0 < k) && decide (gi l k ≤ gi l (k - 1)))
def srcOk (l : List Int) : Bool := !((List.range l.length).any (srcBad l)) && decide (0 < l.length)
set_option maxHeartbeats 1000000 in
theorem sources_t (S : Nat → Prop) (w : World) (v : Value) (l : List Int) (h : IntsAt S w v l) (hn : l.length ≤ 1000000) :
    Calls Tryz.prog 105 #[v] w fun e w' => e = .returned (.bool (srcOk l)) ∧ w = w' := by
  have HI0 := h
  obtain ⟨p, cap, rfl, hcap, H⟩ := SlAt.open h
  have HI := Lib.hid HI0
  clear h HI0
  have HS : Hid (srcOk l = (!((List.range l.length).any (srcBad l)) && decide (0 < l.length))) := rfl
  have HB : Hid (∀ k, srcBad l k = (decide (gi l k < 0) || decide (32 ≤ gi l k) || (decide (0 < k) && decide (gi l k ≤ gi l (k - 1))))) := fun _ => rfl
  go_enter Tryz.func105, Tryz.ntmps105
  go_wp2_with fail
  go_loop [3, 4, 7] (fun _ _ i => ∃ k : Nat, k ≤ l.length ∧ i = .int .i64 k ∧ Hid (∀ j, j < k → srcBad l j = false)) (fun _ _ i => l.length - (intOf i).toNat)
  case atStart => exact ⟨0, Nat.zero_le _, rfl, fun j hj => absurd hj (Nat.not_lt_zero _)⟩
  case round =>
    obtain ⟨k, hk, rfl, hd⟩ := hrel
    by_cases hlt : k < l.length
    · obtain ⟨b, off, rfl, hc⟩ := H k hlt
      have HBK := Lib.hid (HB.out k)
      clear H
      have HXK : Hid (srcBad l k = true → srcOk l = false) := fun hx => by
        rw [HS.out, any_at hlt hx]; rfl
      generalize hy : gi l k = y at *
      by_cases h0 : y < 0
      · have HR : Hid (srcOk l = false) := HXK.out (by rw [HBK.out]; simp [h0])
        have e0 : decide (y < 0) = true := by simpa using h0
        go_wp2_with fail
        go_ret
        exact ⟨ret_bool HR.out.symm, rfl⟩
      · have e0 : decide (y < 0) = false := by simpa using h0
        by_cases h1 : 32 ≤ y
        · have HR : Hid (srcOk l = false) := HXK.out (by rw [HBK.out]; simp [h1])
          have e1 : decide (32 ≤ y) = true := by simpa using h1
          go_wp2_with fail
          go_ret
          exact ⟨ret_bool HR.out.symm, rfl⟩
        · have e1 : decide (32 ≤ y) = false := by simpa using h1
          cases k with
          | zero =>
            have HR : Hid (srcBad l 0 = false) := by unfold Hid; rw [HBK.out]; simp [e0, e1]
            rw [Nat.add_zero] at hc
            go_wp2_with fail
            go_round
            case rel => exact ⟨1, by omega, by go_num, fun j hj => by obtain rfl : j = 0 := by omega
                                                                      exact HR.out⟩
            case measure => simp [intOf]; omega
          | succ j =>
            have hcj := ints_get' HI.out (k := j) (by omega)
            have HR : Hid (srcBad l (j + 1) = decide (y ≤ gi l j)) := by unfold Hid; rw [HBK.out, e0, e1]; simp
            have k1 : (0 : Int) < ((j + 1 : Nat) : Int) := by omega
            have k2 : decide ((0 : Int) < ((j + 1 : Nat) : Int)) = true := by simp
            have k3 : ((j + 1 : Nat) : Int) - 1 = (j : Int) := by omega
            generalize gi l j = z at *
            by_cases h2 : y ≤ z
            · have e2 : decide (y ≤ z) = true := by simpa using h2
              have HR2 : Hid (srcOk l = false) := HXK.out (by rw [HR.out, e2])
              go_wp2_with fail
              go_ret
              exact ⟨ret_bool HR2.out.symm, rfl⟩
            · have e2 : decide (y ≤ z) = false := by simpa using h2
              have HR2 : Hid (srcBad l (j + 1) = false) := by unfold Hid; rw [HR.out, e2]
              go_wp2_with fail
              go_round
              case rel => exact ⟨j + 2, by omega, by go_num, fun i hi => if e : i = j + 1 then by subst e; exact HR2.out else hd.out i (by omega)⟩
              case measure => simp [intOf]; omega
    · obtain rfl : k = l.length := by omega
      have HR : Hid (srcOk l = decide (0 < l.length)) := by unfold Hid; rw [HS.out, any_none hd.out]; rfl
      clear H
      go_wp2_with fail
      go_ret
      exact ⟨ret_bool (by rw [HR.out]), rfl⟩
end Go.Proofs.YtgjcfkadioblfaaGreat
namespace Go.Proofs.YtgjcfkadioblfaaGreat
open Go.RowKit Go.Deep
def gBad (g : Grp) : Bool := decide (g.un < 0) || decide (g.st < 0) || decide (16 ≤ g.st) || !srcOk g.src
def gcErr (l : List Grp) : Int := if 256 < l.length then 4 else if (List.range l.length).any fun k => gBad (gg l k) then 1 else 0
theorem box3 (w : World) (a b c : Value) (T : TypeId) : (w.alloc (.cells #[a, b, c] T)).cell? ⟨w.heap.size, 0, none⟩ = some a ∧ (w.alloc (.cells #[a, b, c] T)).cell? ⟨w.heap.size, 1, none⟩ = some b ∧ (w.alloc (.cells #[a, b, c] T)).cell? ⟨w.heap.size, 2, none⟩ = some c := by
  refine ⟨?_, ?_, ?_⟩ <;> simp [World.cell?_alloc_new]
set_option maxRecDepth 100000 in
set_option maxHeartbeats 1000000 in
theorem gcheck_t (S : Nat → Prop) (w : World) (v : Value) (l : List Grp) (h : GrpsAt S w v l) (hn : l.length ≤ 1000000) (hr : ∀ k, (gg l k).src.length ≤ 1000000) :
    Calls Tryz.prog 51 #[v] w fun e w' => e = .returned (.int .i64 (gcErr l)) ∧ Up w w' := by
  obtain ⟨p, cap, rfl, hcap⟩ := grps_open h
  have HX := Lib.hid h
  have HR := Lib.hid hr
  have HG : Hid (gcErr l = if 256 < l.length then 4 else if (List.range l.length).any fun k => gBad (gg l k) then 1 else 0) := rfl
  clear h hr
  by_cases h1 : 256 < l.length
  · have HQ : Hid (gcErr l = 4) := by unfold Hid; rw [HG.out, if_pos h1]
    go_enter Tryz.func51, Tryz.ntmps51
    go_wp2_with fail
    go_ret
    exact ⟨ret_int HQ.out.symm, Up.refl _⟩
  have HQ1 : Hid (∀ k, k < l.length → gBad (gg l k) = true → gcErr l = 1) := fun k hk hb => by rw [HG.out, if_neg h1, if_pos (any_at (p := fun k => gBad (gg l k)) hk hb)]
  have HQ0 : Hid ((∀ k, k < l.length → gBad (gg l k) = false) → gcErr l = 0) := fun hb => by rw [HG.out, if_neg h1, if_neg (by rw [any_none hb]; decide)]
  have hl2 : l.length ≤ 256 := by omega
  clear h1 HG
  go_enter Tryz.func51, Tryz.ntmps51
  go_wp2_with fail
  go_loopw [4, 10] (fun _ i wr => ∃ k : Nat, k ≤ l.length ∧ i = .int .i64 k ∧ Hid (Up w wr) ∧ Hid (∀ j, j < k → gBad (gg l j) = false)) (fun _ i _ => l.length - (intOf i).toNat)
  case atStart => exact ⟨0, Nat.zero_le _, rfl, Up.refl _, fun j hj => absurd hj (Nat.not_lt_zero _)⟩
  case round =>
    obtain ⟨k, hk, rfl, hU, hd⟩ := hrel
    obtain ⟨wo, rfl⟩ : ∃ wo : World, wo = wr := ⟨_, rfl⟩
    by_cases hlt : k < l.length
    · obtain ⟨b, off, rq, rc, rfl, hc0, hc1, hc2, hri⟩ := grps_get (HX.out.keep (hU.out.kept S)) hlt
      have i1 : (0 : Int) ≤ (k : Int) := by omega
      have i2 : (k : Int) < (l.length : Int) := by omega
      have HK1 := Lib.hid (HQ1.out k hlt)
      have HGB : Hid (gBad (gg l k) = (decide ((gg l k).un < 0) || decide ((gg l k).st < 0) || decide (16 ≤ (gg l k).st) || !srcOk (gg l k).src)) := rfl
      have hal := Up.alloc wo (.cells #[.int .i64 (gg l k).un, .int .i64 (gg l k).st, .slice rq (gg l k).src.length rc] 61)
      obtain ⟨hb0, hb1, hb2⟩ := box3 wo (.int .i64 (gg l k).un) (.int .i64 (gg l k).st) (.slice rq (gg l k).src.length rc) 61
      have HSC := Lib.hid (sources_t S _ _ _ (IntsAt.keep hri (hal.kept S)) (HR.out k))
      have HU2 := Lib.hid (hU.out.trans hal)
      clear hri hal
      generalize (gg l k).un = un at *
      generalize (gg l k).st = sx at *
      generalize (gg l k).src = src at *
      by_cases c0 : un < 0
      · have e0 : decide (un < 0) = true := by simpa using c0
        have HQ : Hid (gcErr l = 1) := HK1.out (by rw [HGB.out, e0]; rfl)
        go_wp2_with fail
        go_ret
        exact ⟨ret_int HQ.out.symm, HU2.out⟩
      · have e0 : decide (un < 0) = false := by simpa using c0
        by_cases c1 : sx < 0
        · have e1 : decide (sx < 0) = true := by simpa using c1
          have HQ : Hid (gcErr l = 1) := HK1.out (by rw [HGB.out, e0, e1]; rfl)
          go_wp2_with fail
          go_ret
          exact ⟨ret_int HQ.out.symm, HU2.out⟩
        · have e1 : decide (sx < 0) = false := by simpa using c1
          by_cases c2 : 16 ≤ sx
          · have e2 : decide (16 ≤ sx) = true := by simpa using c2
            have HQ : Hid (gcErr l = 1) := HK1.out (by rw [HGB.out, e0, e1, e2]; rfl)
            go_wp2_with fail
            go_ret
            exact ⟨ret_int HQ.out.symm, HU2.out⟩
          · have e2 : decide (16 ≤ sx) = false := by simpa using c2
            rw [e0, e1, e2] at HGB
            generalize srcOk src = so at *
            cases so
            · have HQ : Hid (gcErr l = 1) := HK1.out (by rw [HGB.out]; rfl)
              go_wp2_with (refine HSC.out.mono ?_; rintro e w' ⟨rfl, rfl⟩)
              go_ret
              exact ⟨ret_int HQ.out.symm, HU2.out⟩
            · have HQ : Hid (gBad (gg l k) = false) := by unfold Hid; rw [HGB.out]; rfl
              go_wp2_with (refine HSC.out.mono ?_; rintro e w' ⟨rfl, rfl⟩)
              go_roundw
              case rel => exact ⟨k + 1, by omega, by go_num, HU2, fun j hj => if e : j = k then by subst e; exact HQ.out else hd.out j (by omega)⟩
              case measure => simp [intOf]; omega
    · obtain rfl : k = l.length := by omega
      have HQ : Hid (gcErr l = 0) := HQ0.out hd.out
      clear hlt hk
      go_wp2_with fail
      go_ret
      exact ⟨ret_int HQ.out.symm, hU.out⟩
end Go.Proofs.YtgjcfkadioblfaaGreat
namespace Go.Proofs.YtgjcfkadioblfaaGreat
open Go.RowKit Go.Deep
def KdPost (w : World) (l : List Nat) (e : Ending) (w' : World) : Prop := Below w.heap.size w w' ∧ ∃ v, e = .returned v ∧ IntsAt (fun b => w.heap.size ≤ b) w' v (ofNats l)
set_option maxRecDepth 100000 in
set_option maxHeartbeats 800000 in
theorem kidsR_t (S : Nat → Prop) (w : World) (v : Value) (t : Tre) (n : Nat) (h : TreeAt S w v t) (hp : t.ps.length ≤ 1000000) (hn : n < t.ps.length) :
    Calls Tryz.prog 96 #[v, .int .i64 n] w (KdPost w (kidsL t.ps n)) := by
  obtain ⟨P, N, rfl, hP, hN⟩ := h
  have hb0 : Below w.heap.size w (w.alloc (.cells #[P, N] 25)) := (Below.refl _ _).alloc (Nat.le_refl _) _
  have hP1 := hP.keep (Kept.below hb0)
  have hcp : (w.alloc (.cells #[P, N] 25)).cell? ⟨w.heap.size, 0, none⟩ = some P := by simp [World.cell?_alloc_new]
  obtain ⟨ps, ns⟩ := t
  simp only at *
  obtain ⟨p, cap, rfl, hcap, HP⟩ := SlAt.open hP1
  have hsz : (w.alloc (.cells #[.slice p ps.length cap, N] 25)).heap.size = w.heap.size + 1 := by simp
  have HS := Lib.hid hsz
  have HB0 := Lib.hid hb0
  have HCP := Lib.hid hcp
  have HPP := Lib.hid HP
  clear HP hP1 hP hN hb0 hcp hsz
  go_enter Tryz.func96, Tryz.ntmps96
  go_wp2_with fail
  generalize hw0 : w.alloc (.cells #[.slice p ps.length cap, N] 25) = w0 at *
  clear hw0
  go_loopw [5, 6] (fun v i wr => ∃ k : Nat, n + 1 ≤ k ∧ k ≤ ps.length ∧ i = .int .i64 k ∧ Owns (w.heap.size + 1) 3 wr v ((ofNats (kidsK ps n k)).map (Value.int .i64)) ∧ Below (w.heap.size + 1) w0 wr) (fun _ i _ => ps.length - (intOf i).toNat)
  case atStart => exact ⟨n + 1, Nat.le_refl _, by omega, by go_num, by rw [kidsK_start]; exact Owns.nil _ _ _, Below.refl _ _⟩
  case round =>
    obtain ⟨k, hk1, hk, rfl, hown, hbr⟩ := hrel
    have hcp : wr.cell? ⟨w.heap.size, 0, none⟩ = some (.slice p ps.length cap) := (hbr.cell (p := ⟨w.heap.size, 0, none⟩) (by simp)).trans HCP.out
    by_cases hlt : k < ps.length
    · obtain ⟨b, off, rfl, hc0⟩ := HPP.out k hlt
      have hc : wr.cell? ⟨b, off + k, none⟩ = some (.int .i64 (gi ps k)) := by
        rw [hbr.cell (p := ⟨b, off + k, none⟩) (by have := World.block_lt_of_cell? _ _ hc0; have := HS.out; simp at *; omega)]; exact hc0
      have hsz : w.heap.size + 1 ≤ wr.heap.size := by have := hbr.size; have := HS.out; omega
      have hsucc := kidsK_succ ps n k
      have HSU := Lib.hid hsucc
      have HLL : Hid (((ofNats (kidsK ps n k)).map (Value.int .i64)).length ≤ 1000000) := by
        have := kidsK_len ps n k
        unfold Hid ofNats; rw [List.length_map, List.length_map]; omega
      clear hc0 hsucc HPP
      generalize hgk : gi ps k = x at *
      clear hgk
      by_cases hx : x = n
      · have hx1 : (x == (n : Int)) = true := by simp [hx]
        have HX : Hid (n < k ∧ x = n) := ⟨by omega, hx⟩
        clear hx
        go_wp2_with (at_builtin; refine wpList_app1 wr rfl _ _ 22 rfl (w.heap.size + 1) 3 _ 8 Tryz.underlying22 Tryz.infoI rfl (by decide) hown rfl _ rfl rfl HLL.out hsz ?_; intro g cap w2 hown1 hg1 hb1)
        go_roundw
        case rel => exact ⟨k + 1, by omega, by omega, by go_num, by rw [HSU.out, if_pos HX.out, ofNats_append, List.map_append]; rw [List.length_map] at hown1; exact hown1, hbr.trans hb1⟩
        case measure => simp [intOf]; omega
      · have hx1 : (x == (n : Int)) = false := by simpa using hx
        have HX : Hid ¬ (n < k ∧ x = n) := fun h => hx h.2
        clear hx
        go_wp2_with fail
        go_roundw
        case rel => exact ⟨k + 1, by omega, by omega, by go_num, by rw [HSU.out, if_neg HX.out, List.append_nil]; exact hown, hbr⟩
        case measure => simp [intOf]; omega
    · obtain rfl : k = ps.length := by omega
      clear hlt hk
      go_wp2_with fail
      go_ret
      exact ⟨HB0.out.trans (hbr.mono (by omega)), _, rfl, hown.ints.sub fun b hb _ => by omega⟩
end Go.Proofs.YtgjcfkadioblfaaGreat
namespace Go.Proofs.YtgjcfkadioblfaaGreat
open Go.RowKit Go.Deep
theorem same_quiet {P : Program} {f : FuncId} {args : Array Value} {w : World} {n : Nat} {v : Value} (h : Calls P f args (w.drewN n) fun e w' => e = .returned v ∧ w.drewN n = w') : Calls P f args (w.drewN n) fun e w'' => e = .returned v ∧ ∃ m, w'' = w.drewN m :=
  h.mono fun _ _ ⟨h1, h2⟩ => ⟨h1, n, h2.symm⟩
theorem Tryz.infoSI3 : (Tryz.prog.info? 22).map (fun i => (i.zero, i.size, i.bytes)) = some (some (.slice none 0 0), 1, 24) := by kernel_rfl
def cfB (l : List Grp) (i k : Nat) : Bool := confB (ofS (gg l i).src) (ofS (gg l k).src)
def cfRow (l : List Grp) (i k : Nat) : List (List Int) := ((List.range k).filter fun j => decide (i < j) && cfB l i j).map fun (j : Nat) => [(i : Int), (j : Int)]
def cfK (l : List Grp) (k : Nat) : List (List Int) := (List.range k).flatMap fun i => cfRow l i l.length
def cfL (l : List Grp) : List (List Int) := if gcErr l = 0 then cfK l l.length else []
theorem cfRow_succ (l : List Grp) (i k : Nat) : cfRow l i (k + 1) = cfRow l i k ++ (if i < k ∧ cfB l i k = true then [[(i : Int), (k : Int)]] else []) := by
  unfold cfRow
  rw [List.range_succ, List.filter_append, List.map_append]
  congr 1
  by_cases h : i < k <;> by_cases h2 : cfB l i k = true <;> simp [h, h2]
theorem cfRow_start (l : List Grp) (i : Nat) : cfRow l i (i + 1) = [] := by
  unfold cfRow
  rw [List.filter_eq_nil_iff.2 (fun j hj => by have := List.mem_range.1 hj; simp; omega)]
  rfl
theorem cfRow_len (l : List Grp) (i k : Nat) : (cfRow l i k).length ≤ k := by
  unfold cfRow
  rw [List.length_map]
  exact Nat.le_trans (List.length_filter_le _ _) (by simp)
theorem cfK_succ (l : List Grp) (k : Nat) : cfK l (k + 1) = cfK l k ++ cfRow l k l.length := by
  unfold cfK; rw [List.range_succ, List.flatMap_append]; simp
theorem cfK_len (l : List Grp) (k : Nat) : (cfK l k).length ≤ k * l.length := by
  induction k with
  | zero => exact Nat.zero_le _
  | succ k ih =>
    rw [cfK_succ, List.length_append, Nat.succ_mul]
    have := cfRow_len l k l.length
    omega
theorem gcErr_zero {l : List Grp} (h : gcErr l = 0) : l.length ≤ 256 ∧ ∀ k, k < l.length → 0 ≤ (gg l k).un ∧ 0 ≤ (gg l k).st ∧ (gg l k).st < 16 ∧ srcOk (gg l k).src = true := by
  unfold gcErr at h
  split at h
  · cases h
  · split at h
    · cases h
    · rename_i h1 h2
      refine ⟨by omega, fun k hk => ?_⟩
      have h3 := any_false (p := fun k => gBad (gg l k)) (by simpa using h2) hk
      unfold gBad at h3
      simp only [Bool.or_eq_false_iff, decide_eq_false_iff_not, Bool.not_eq_false'] at h3
      exact ⟨by omega, by omega, by omega, h3.2⟩
theorem srcOk_small {l : List Int} (h : srcOk l = true) : Small l ∧ 0 < l.length ∧ ∀ k, 0 < k → k < l.length → gi l (k - 1) < gi l k := by
  unfold srcOk at h
  simp only [Bool.and_eq_true, Bool.not_eq_true', decide_eq_true_eq] at h
  have h2 : ∀ k, k < l.length → srcBad l k = false := fun k hk => any_false h.1 hk
  refine ⟨fun k hk => ?_, h.2, fun k h0 hk => ?_⟩
  · have := h2 k hk
    unfold srcBad at this
    simp only [Bool.or_eq_false_iff, decide_eq_false_iff_not] at this
    omega
  · have := h2 k hk
    unfold srcBad at this
    simp only [Bool.or_eq_false_iff, decide_eq_false_iff_not, Bool.and_eq_false_imp, decide_eq_true_eq] at this
    have := this.2 h0
    omega
theorem pair_at (W : World) (a b : Int) (S : Nat → Prop) (hS : S W.heap.size) : IntsAt S (W.alloc (.cells #[.int .i64 a, .int .i64 b] 3)) (.slice (some ⟨W.heap.size, 0, none⟩) 2 2) [a, b] := by
  refine ⟨_, 2, rfl, Nat.le_refl _, .inr ⟨_, 0, rfl, hS, fun k hk => ?_⟩⟩
  match k with
  | 0 => simp [World.cell?_alloc_new, gi]
  | 1 => simp [World.cell?_alloc_new, gi]
  | k + 2 => exact absurd hk (by simp)
theorem RowsOwn.lt {base : Nat} {T : TypeId} {w : World} {d : Value} {xs : List (List Int)} (h : RowsOwn base T w d xs) {b : Nat} (hb : d.ownBlock = some b) : base ≤ b ∧ b < w.heap.size := by
  obtain ⟨vals, _, ho, _⟩ := h
  exact ownBlock_lt ho hb
theorem RowsOwn.len {base : Nat} {T : TypeId} {w : World} {d : Value} {xs : List (List Int)} (h : RowsOwn base T w d xs) : ∃ p c, d = .slice p xs.length c := by
  obtain ⟨vals, hl, ho, _⟩ := h
  obtain ⟨p, c, e, _⟩ := ho.form (n := xs.length) hl
  exact ⟨p, c, e⟩
section
variable {P : Program} {ops : Array Oper} {rest : List Oper} {o : Oper} {a : Act} {Q : Exit → Act → World → Prop}
/-- 'out = append(out, u)', u a list; the new block's number said. -/
theorem wpList_appRowM (W : World) (hgd : o.guard = none) (s x : Operand) (t : TypeId) (ho : o.op = .call { callee := .builtin .append, args := #[s, x], argTypes := #[t, t] })
    (base : Nat) (e : TypeId) (z : Value) (bytes : Nat) (ht : P.underlying t = some (.slice e)) (hinfo : (P.info? e).map (fun i => (i.zero, i.size, i.bytes)) = some (some z, 1, bytes))
    (hz1 : z.cells.size = 1) (hb8 : bytes ≤ 64) {v : Value} {xs : List (List Int)} (hown : RowsOwn base e W v xs) (hs : a.eval s = v) (u : Value) (y : List Int) (m : Nat) (hm : W.heap.size = m)
    (hx : a.eval x = .slice (some ⟨m, 0, none⟩) 1 1) (hu : IntsAt (fun b => some b ≠ v.ownBlock) W u y) (h1 : u.oneCell' = true) (n : Nat) (hxn : xs.length = n) (hn : n ≤ 1000000) (hbase : base ≤ W.heap.size)
    (h : ∀ g cap w', RowsOwn base e w' (.slice (some ⟨g, 0, none⟩) (n + 1) cap) (xs ++ [y]) → W.grownBy w' v.ownBlock → Below base W w' → wpList P ops Q rest (a.put o.dst (.slice (some ⟨g, 0, none⟩) (n + 1) cap)) w') :
    wpList P ops Q (o :: rest) a (W.alloc (.cells #[u] e)) := by
  subst hm
  exact wpList_appRow W hgd s x t ho base e z bytes ht hinfo hz1 hb8 hown hs u y hx hu h1 n hxn hn hbase h
end
def CfPost (w : World) (l : List Grp) (e : Ending) (w' : World) : Prop :=
  Up w w' ∧ ∃ v, e = .returned (.tuple #[v, .int .i64 (gcErr l)]) ∧ RowsAt Any w' v (cfL l)
set_option maxRecDepth 100000 in
set_option maxHeartbeats 2000000 in
theorem conflicts_t (S : Nat → Prop) (w : World) (v : Value) (l : List Grp) (h : GrpsAt S w v l) (hn : l.length ≤ 1000000) (hr : ∀ k, (gg l k).src.length ≤ 1000000) :
    Calls Tryz.prog 12 #[v] w (CfPost w l) := by
  have HGC := Lib.hid (gcheck_t S w v l h hn hr)
  obtain ⟨p, cap, rfl, hcap⟩ := grps_open h
  have HX := Lib.hid h
  have HR := Lib.hid hr
  have HCL : Hid (cfL l = if gcErr l = 0 then cfK l l.length else []) := rfl
  have HNIL : Hid (∀ W, RowsAt Any W (.slice none 0 0) []) := fun W => (RowsOwn.nil 0 22 W).rows
  clear h hr
  by_cases h0 : gcErr l = 0
  · obtain ⟨hl, hgr⟩ := gcErr_zero h0
    have HGR := Lib.hid hgr
    have HL : Hid (cfL l = cfK l l.length) := by unfold Hid; rw [HCL.out, if_pos h0]
    have H0 := Lib.hid h0
    rw [h0] at HGC
    clear HCL hgr h0
    go_enter Tryz.func12, Tryz.ntmps12
    go_wp2_with (refine HGC.out.mono ?_; rintro e w1 ⟨rfl, hU1⟩; have HU1 := Lib.hid hU1; clear hU1)
    go_loopw [5, 6, 7, 15] (fun d _ _ i wr => ∃ k : Nat, k ≤ l.length ∧ i = .int .i64 k ∧ Hid (RowsOwn w1.heap.size 22 wr d (cfK l k)) ∧ Hid (Up w1 wr)) (fun _ _ _ i _ => l.length - (intOf i).toNat)
    case atStart => exact ⟨0, Nat.zero_le _, rfl, RowsOwn.nil _ _ _, Up.refl _⟩
    case round =>
      obtain ⟨k, hk, rfl, hD, hUr⟩ := hrel
      obtain ⟨wo, rfl⟩ : ∃ wo : World, wo = wr := ⟨_, rfl⟩
      by_cases hlt : k < l.length
      · have HD0 : Hid (RowsOwn w1.heap.size 22 wo u5 (cfK l k ++ cfRow l k (k + 1))) := by unfold Hid; rw [cfRow_start, List.append_nil]; exact hD.out
        have HS := Lib.hid (cfK_succ l k)
        obtain ⟨d0, rfl⟩ : ∃ d : Value, d = u5 := ⟨_, rfl⟩
        go_wp2_with fail
        go_loopw [5, 7] (fun d i wr => ∃ j : Nat, k + 1 ≤ j ∧ j ≤ l.length ∧ i = .int .i64 j ∧ Hid (RowsOwn w1.heap.size 22 wr d (cfK l k ++ cfRow l k j)) ∧ Hid (Up w1 wr)) (fun _ i _ => l.length - (intOf i).toNat)
        case atStart => exact ⟨k + 1, Nat.le_refl _, by omega, by go_num, HD0, hUr⟩
        case round =>
          obtain ⟨j, hj1, hj, rfl, hD2, hU2⟩ := hrel
          obtain ⟨wi, rfl⟩ : ∃ wo : World, wo = wr := ⟨_, rfl⟩
          by_cases hjt : j < l.length
          · obtain ⟨b, off, rq, rc, rfl, _, _, hc2, hri⟩ := grps_get (HX.out.keep ((HU1.out.trans hU2.out).kept S)) hlt
            obtain ⟨b', off', rq2, rc2, e1, _, _, hd2, hri2⟩ := grps_get (HX.out.keep ((HU1.out.trans hU2.out).kept S)) hjt
            injection e1 with e1
            injection e1 with e1 e2
            subst e1; subst e2
            have i1 : (0 : Int) ≤ (k : Int) := by omega
            have i2 : (k : Int) < (l.length : Int) := by omega
            have i3 : (0 : Int) ≤ (j : Int) := by omega
            have i4 : (j : Int) < (l.length : Int) := by omega
            have hs1 := (srcOk_small (HGR.out k hlt).2.2.2).1
            have hs2 := (srcOk_small (HGR.out j hjt).2.2.2).1
            have HO1 := Lib.hid (fun m => same_quiet <| of_t S (wi.drewN m) _ _ (IntsAt.keep hri (kept_drewN S wi m)) hs1 (HR.out k))
            have HO2 := Lib.hid (fun m => same_quiet <| of_t S (wi.drewN m) _ _ (IntsAt.keep hri2 (kept_drewN S wi m)) hs2 (HR.out j))
            have HCC := Lib.hid (fun m => same_quiet <| conflict_t (ofS (gg l k).src) (ofS (gg l j).src) (Nat.lt_trans (ofS_lt hs1) (by decide)) (Nat.lt_trans (ofS_lt hs2) (by decide)) (wi.drewN m))
            have HRS := Lib.hid (cfRow_succ l k j)
            have HCB : Hid (cfB l k j = confB (ofS (gg l k).src) (ofS (gg l j).src)) := rfl
            clear hri hri2 hs1 hs2
            generalize (gg l k).src = s1 at *
            generalize (gg l j).src = s2 at *
            go_wp2_with fail
            go_quiet (first | with_reducible exact HO1.out _ | with_reducible exact HO2.out _ | with_reducible exact HCC.out _)
            cases hcb : confB (ofS s1) (ofS s2)
            · have HRN : Hid (RowsOwn w1.heap.size 22 (wi.drewN nq) u5 (cfK l k ++ cfRow l k (j + 1))) := by
                unfold Hid; rw [HRS.out, if_neg (by rw [HCB.out, hcb]; simp), List.append_nil]; exact hD2.out.kept (Up.drewN _ _)
              have HUN : Hid (Up w1 (wi.drewN nq)) := hU2.out.trans (Up.drewN _ _)
              go_wp2_with fail
              go_roundw
              case rel => exact ⟨j + 1, by omega, by omega, by go_num, HRN, HUN⟩
              case measure => simp [intOf]; omega
            · have HUA : Hid (Up wi ((wi.drewN nq).alloc (.cells #[.int .i64 k, .int .i64 j] 3))) := (Up.drewN wi nq).trans (Up.alloc _ _)
              have HRA := Lib.hid (hD2.out.kept HUA.out)
              have HPA : Hid (IntsAt (fun b => some b ≠ u5.ownBlock) ((wi.drewN nq).alloc (.cells #[.int .i64 k, .int .i64 j] 3)) (.slice (some ⟨(wi.drewN nq).heap.size, 0, none⟩) 2 2) [(k : Int), (j : Int)]) :=
                pair_at _ _ _ _ fun e => by have := (hD2.out.lt e.symm).2; exact absurd this (Nat.lt_irrefl _)
              have HLE : (cfK l k ++ cfRow l k j).length ≤ 1000000 := by
                have h1 := cfK_len l k
                have h2 := cfRow_len l k j
                have h3 : k * l.length ≤ 256 * 256 := Nat.mul_le_mul (by omega) hl
                rw [List.length_append]; omega
              have HWZ : w1.heap.size ≤ ((wi.drewN nq).alloc (.cells #[.int .i64 k, .int .i64 j] 3)).heap.size := (hU2.out.trans HUA.out).size
              have HSZ : ((wi.drewN nq).alloc (.cells #[.int .i64 k, .int .i64 j] 3)).heap.size = wi.heap.size + 1 := by rw [World.size_alloc]; rfl
              have HUW := Lib.hid (hU2.out.trans HUA.out)
              have HSN : Hid (cfK l k ++ cfRow l k (j + 1) = (cfK l k ++ cfRow l k j) ++ [[(k : Int), (j : Int)]]) := by
                unfold Hid; rw [HRS.out, if_pos ⟨by omega, by rw [HCB.out, hcb]⟩, List.append_assoc]
              generalize cfK l k ++ cfRow l k j = L0 at *
              go_wp2_with (at_builtin; refine wpList_appRowM ((wi.drewN nq).alloc (.cells #[.int .i64 k, .int .i64 j] 3)) rfl _ _ 31 rfl w1.heap.size 22 _ 24 Tryz.underlying31 Tryz.infoSI3 rfl (by decide) HRA.out rfl _ [(k : Int), (j : Int)] _ HSZ rfl HPA.out rfl _ rfl HLE HWZ ?_; intro g8 cap8 w8 hown1 hgr1 hbe1)
              go_roundw
              case rel => exact ⟨j + 1, by omega, by omega, by go_num, by unfold Hid; rw [HSN.out]; exact hown1, Below.trans HUW.out hbe1⟩
              case measure => simp [intOf]; omega
          · obtain rfl : j = l.length := by omega
            have HDN : Hid (RowsOwn w1.heap.size 22 wi u5 (cfK l (k + 1))) := by unfold Hid; rw [HS.out]; exact hD2.out
            clear hjt hj
            go_wp2_with fail
            go_roundw
            case rel => exact ⟨k + 1, by omega, by go_num, HDN, hU2⟩
            case measure => simp [intOf]; omega
      · obtain rfl : k = l.length := by omega
        clear hlt hk
        go_wp2_with fail
        go_ret2
        exact ⟨HU1.out.trans hUr.out, _, by rw [H0.out]; rfl, by rw [HL.out]; exact hD.out.rows⟩
  · have HL : Hid (cfL l = []) := by unfold Hid; rw [HCL.out, if_neg h0]
    have h1 : (gcErr l != 0) = true := by simpa using h0
    clear HCL h0
    go_enter Tryz.func12, Tryz.ntmps12
    go_wp2_with (refine HGC.out.mono ?_; rintro e w' ⟨rfl, hU1⟩; have HU1 := Lib.hid hU1; clear hU1)
    go_ret2
    exact ⟨HU1.out, _, rfl, by rw [HL.out]; exact HNIL.out _⟩
end Go.Proofs.YtgjcfkadioblfaaGreat
