/- Contracts: equal lists of lists. The contract of the reference's SameGroups, at groups that are the same. The contract of sharederror.check. The contract of sharederror.Conflicts. Contracts: Index, Contains, IndexFunc, ContainsFunc over sets; sharederror.named; Max; far. -/
import Derived.Test.YtgjcfkadioblfaaGreatQ5
import Derived.Test.YtgjcfkadioblfaaGreatQ14
import Derived.Test.YtgjcfkadioblfaaGreatQ18
import Derived.Test.YtgjcfkadioblfaaGreatQ16
import Derived.Test.YtgjcfkadioblfaaGreatQ3
namespace Go.Proofs.YtgjcfkadioblfaaGreat
open Go.RowKit Go.Deep
set_option maxRecDepth 100000 in
set_option maxHeartbeats 400000 in
theorem sameInts_t (S T : Nat → Prop) (w : World) (v u : Value) (xs ys : List Int) (h : IntsAt S w v xs) (h2 : IntsAt T w u ys) (hn : xs.length ≤ 1000000) (hn2 : ys.length ≤ 1000000) :
    Calls Tryz.prog 67 #[v, u] w (EqPost w (decide (xs = ys))) := by
  obtain ⟨p, cap, rfl, hcap, _⟩ := SlAt.open h
  obtain ⟨q, cap2, rfl, hcap2, _⟩ := SlAt.open h2
  have HX : Hid (IntsAt S w (.slice p xs.length cap) xs) := h
  have HY : Hid (IntsAt T w (.slice q ys.length cap2) ys) := h2
  clear h h2
  by_cases hl : xs.length = ys.length
  · have hl1 : ((xs.length : Int) != ys.length) = false := by simp [hl]
    have HL := Lib.hid hl
    clear hl
    go_enter Tryz.func67, Tryz.ntmps67
    go_wp2_with fail
    go_loopw [5] (fun i wr => ∃ k n : Nat, k ≤ xs.length ∧ i = .int .i64 k ∧ wr = w.drewN n ∧ Hid (∀ j, j < k → gi xs j = gi ys j)) (fun i _ => xs.length - (intOf i).toNat)
    case atStart => exact ⟨0, 0, Nat.zero_le _, rfl, rfl, fun j hj => absurd hj (Nat.not_lt_zero _)⟩
    case round =>
      obtain ⟨k, n, hk, rfl, rfl, hd⟩ := hrel
      by_cases hlt : k < xs.length
      · have hlt2 : k < ys.length := by rw [← HL.out]; exact hlt
        obtain ⟨b, off, rfl, hc⟩ := ints_get HX.out hlt
        obtain ⟨b2, off2, rfl, hc2⟩ := ints_get HY.out hlt2
        have i1 : (0 : Int) ≤ (k : Int) := by omega
        have i2 : (k : Int) < (xs.length : Int) := by omega
        have i3 : (k : Int) < (ys.length : Int) := by omega
        generalize hx : gi xs k = x at *
        generalize hy : gi ys k = y at *
        have HXX := Lib.hid hx
        have HYY := Lib.hid hy
        clear hx hy
        by_cases hxy : x = y
        · have hxy1 : (x != y) = false := by simp [hxy]
          have HXY := Lib.hid hxy
          clear hxy
          go_wp2_with fail
          go_quiet (fail)
          go_wp2_with fail
          go_roundw
          case rel => exact ⟨k + 1, n + nq, by omega, by go_num, rfl, fun j hj => if e : j = k then by subst e; rw [HXX.out, HYY.out, HXY.out] else hd.out j (by omega)⟩
          case measure => simp [intOf]; omega
        · have hxy1 : (x != y) = true := by simpa using hxy
          have HXY := Lib.hid hxy
          clear hxy
          go_wp2_with fail
          go_quiet (fail)
          go_wp2_with fail
          go_ret
          refine ⟨ret_bool ?_, n + nq, by rw [World.drewN_drewN]⟩
          rw [eq_comm, decide_eq_false_iff_not]
          rintro rfl
          exact HXY.out (by rw [← HXX.out, ← HYY.out])
      · obtain rfl : k = xs.length := by omega
        clear hlt hk
        have hex : xs = ys := ints_ext HL.out hd.out
        have HEX : Hid (decide (xs = ys) = true) := decide_eq_true hex
        clear hex
        go_wp2_with fail
        go_ret
        exact ⟨ret_bool (by rw [HEX.out]), n, rfl⟩
  · have hl1 : ((xs.length : Int) != ys.length) = true := by simp; omega
    have HL := Lib.hid hl
    clear hl
    go_enter Tryz.func67, Tryz.ntmps67
    go_wp2_with fail
    go_ret
    refine ⟨ret_bool ?_, 0, rfl⟩
    rw [eq_comm, decide_eq_false_iff_not]
    rintro rfl
    exact HL.out rfl

theorem rows_ext {xs ys : List (List Int)} (hl : xs.length = ys.length) (h : ∀ j, j < xs.length → gl xs j = gl ys j) : xs = ys := by
  refine List.ext_getElem hl fun i h1 h2 => ?_
  have := h i h1
  simpa [gl, h1, h2] using this
/-- After some draws. -/
def QD (w w' : World) : Prop := ∃ n, w' = w.drewN n
theorem QD.refl (w : World) : QD w w := ⟨0, rfl⟩
theorem QD.drewN {w w' : World} (h : QD w w') (n : Nat) : QD w (w'.drewN n) := by
  obtain ⟨m, rfl⟩ := h; exact ⟨m + n, by rw [World.drewN_drewN]⟩
theorem QD.kept {w w' : World} (h : QD w w') (S : Nat → Prop) : Kept S w w' := by
  obtain ⟨m, rfl⟩ := h; exact fun _ _ _ => rfl
theorem QD.up {w w' : World} (h : QD w w') : Up w w' := by
  obtain ⟨m, rfl⟩ := h; exact Up.drewN w m
theorem eq_quiet {P : Program} {f : FuncId} {args : Array Value} {w : World} {n : Nat} {b : Bool} (h : Calls P f args (w.drewN n) (EqPost (w.drewN n) b)) : Calls P f args (w.drewN n) fun e w'' => e = .returned (.bool b) ∧ ∃ m, w'' = w.drewN m :=
  h.mono fun _ _ ⟨he, m, hm⟩ => ⟨he, n + m, by rw [hm, World.drewN_drewN]⟩
set_option maxRecDepth 100000 in
set_option maxHeartbeats 800000 in
theorem sameTable_t (S T : Nat → Prop) (w : World) (v u : Value) (xs ys : List (List Int)) (h : RowsAt S w v xs) (h2 : RowsAt T w u ys) (hn : xs.length ≤ 1000000) (hn2 : ys.length ≤ 1000000) (hr : ∀ k, (gl xs k).length ≤ 1000000) (hr2 : ∀ k, (gl ys k).length ≤ 1000000) :
    Calls Tryz.prog 18 #[v, u] w (EqPost w (decide (xs = ys))) := by
  obtain ⟨p, cap, rfl, hcap, _⟩ := rows_open h
  obtain ⟨q, cap2, rfl, hcap2, _⟩ := rows_open h2
  have HX := Lib.hid h
  have HY := Lib.hid h2
  have HR := Lib.hid hr
  have HR2 := Lib.hid hr2
  clear h h2 hr hr2
  by_cases hl : xs.length = ys.length
  · have hl1 : ((xs.length : Int) != ys.length) = false := by simp [hl]
    have HL := Lib.hid hl
    clear hl
    go_enter Tryz.func18, Tryz.ntmps18
    go_wp2_with fail
    go_loopw [5] (fun i wr => ∃ k : Nat, k ≤ xs.length ∧ i = .int .i64 k ∧ Hid (QD w wr) ∧ Hid (∀ j, j < k → gl xs j = gl ys j)) (fun i _ => xs.length - (intOf i).toNat)
    case atStart => exact ⟨0, Nat.zero_le _, rfl, QD.refl _, fun j hj => absurd hj (Nat.not_lt_zero _)⟩
    case round =>
      obtain ⟨k, hk, rfl, hQ, hd⟩ := hrel
      by_cases hlt : k < xs.length
      · have hlt2 : k < ys.length := by rw [← HL.out]; exact hlt
        obtain ⟨b, off, rq, rc, rfl, hc, hri⟩ := rows_get (HX.out.keep (hQ.out.kept S)) hlt
        obtain ⟨b2, off2, rq2, rc2, rfl, hc2, hri2⟩ := rows_get (HY.out.keep (hQ.out.kept T)) hlt2
        have i1 : (0 : Int) ≤ (k : Int) := by omega
        have i2 : (k : Int) < (xs.length : Int) := by omega
        have i3 : (k : Int) < (ys.length : Int) := by omega
        have hsame := fun m => sameInts_t S T (wr.drewN m) _ _ _ _ (IntsAt.keep hri (kept_drewN S wr m)) (IntsAt.keep hri2 (kept_drewN T wr m)) (HR.out k) (HR2.out k)
        clear hri hri2
        by_cases hxy : gl xs k = gl ys k
        · have hb : decide (gl xs k = gl ys k) = true := decide_eq_true hxy
          simp only [hb] at hsame
          have HS := Lib.hid hsame
          have HXY := Lib.hid hxy
          clear hxy hb hsame
          go_wp2_with fail
          go_quiet (exact eq_quiet (HS.out _))
          go_wp2_with fail
          go_roundw
          case rel => exact ⟨k + 1, by omega, by go_num, hQ.out.drewN nq, fun j hj => if e : j = k then by subst e; exact HXY.out else hd.out j (by omega)⟩
          case measure => simp [intOf]; omega
        · have hb : decide (gl xs k = gl ys k) = false := decide_eq_false hxy
          simp only [hb] at hsame
          have HS := Lib.hid hsame
          have HXY := Lib.hid hxy
          clear hxy hb hsame
          go_wp2_with fail
          go_quiet (exact eq_quiet (HS.out _))
          go_wp2_with fail
          go_ret
          refine ⟨ret_bool ?_, hQ.out.drewN nq⟩
          rw [eq_comm, decide_eq_false_iff_not]
          rintro rfl
          exact HXY.out rfl
      · obtain rfl : k = xs.length := by omega
        clear hlt hk
        have hex : xs = ys := rows_ext HL.out hd.out
        have HEX : Hid (decide (xs = ys) = true) := decide_eq_true hex
        clear hex
        go_wp2_with fail
        go_ret
        exact ⟨ret_bool (by rw [HEX.out]), hQ.out⟩
  · have hl1 : ((xs.length : Int) != ys.length) = true := by simp; omega
    have HL := Lib.hid hl
    clear hl
    go_enter Tryz.func18, Tryz.ntmps18
    go_wp2_with fail
    go_ret
    refine ⟨ret_bool ?_, 0, rfl⟩
    rw [eq_comm, decide_eq_false_iff_not]
    rintro rfl
    exact HL.out rfl
end Go.Proofs.YtgjcfkadioblfaaGreat
namespace Go.Proofs.YtgjcfkadioblfaaGreat
open Go.RowKit Go.Deep
theorem grps_open {S : Nat → Prop} {w : World} {v : Value} {gs : List Grp} (h : GrpsAt S w v gs) : ∃ p cap, v = .slice p gs.length cap ∧ gs.length ≤ cap := by
  obtain ⟨p, cap, e, hn, _⟩ := h
  exact ⟨p, cap, e, hn⟩
theorem grps_get {S : Nat → Prop} {w : World} {p : Option Addr} {n cap : Nat} {gs : List Grp} (h : GrpsAt S w (.slice p n cap) gs) {k : Nat} (hk : k < gs.length) :
    ∃ b off rq rc, p = some ⟨b, off, none⟩ ∧ w.cell? ⟨b, off + k * 3, none⟩ = some (.int .i64 (gg gs k).un) ∧ w.cell? ⟨b, off + k * 3 + 1, none⟩ = some (.int .i64 (gg gs k).st) ∧ w.cell? ⟨b, off + k * 3 + 2, none⟩ = some (.slice rq (gg gs k).src.length rc) ∧ IntsAt S w (.slice rq (gg gs k).src.length rc) (gg gs k).src := by
  obtain ⟨q, c, e, _, h⟩ := h
  injection e with e1
  subst e1
  rcases h with h | ⟨b, off, rfl, _, h⟩
  · omega
  · obtain ⟨sv, h1, h2, h3, h4⟩ := h k hk
    obtain ⟨rq, rc, rfl, _, _⟩ := SlAt.open h4
    exact ⟨b, off, rq, rc, rfl, h1, h2, h3, h4⟩
set_option maxRecDepth 100000 in
set_option maxHeartbeats 1000000 in
theorem sameGroups_yes (S T : Nat → Prop) (w : World) (v u : Value) (gs : List Grp) (h : GrpsAt S w v gs) (h2 : GrpsAt T w u gs) (hn : gs.length ≤ 1000000) (hr : ∀ k, (gg gs k).src.length ≤ 1000000) :
    Calls Tryz.prog 50 #[v, u] w (EqPost w true) := by
  obtain ⟨p, cap, rfl, hcap⟩ := grps_open h
  obtain ⟨q, cap2, rfl, hcap2⟩ := grps_open h2
  have HX := Lib.hid h
  have HY := Lib.hid h2
  have HR := Lib.hid hr
  clear h h2 hr
  have hl1 : ((gs.length : Int) != gs.length) = false := by simp
  go_enter Tryz.func50, Tryz.ntmps50
  go_wp2_with fail
  go_loopw [5] (fun i wr => ∃ k : Nat, k ≤ gs.length ∧ i = .int .i64 k ∧ Hid (QD w wr)) (fun i _ => gs.length - (intOf i).toNat)
  case atStart => exact ⟨0, Nat.zero_le _, rfl, QD.refl _⟩
  case round =>
    obtain ⟨k, hk, rfl, hQ⟩ := hrel
    by_cases hlt : k < gs.length
    · obtain ⟨b, off, rq, rc, rfl, hc0, hc1, hc2, hri⟩ := grps_get (HX.out.keep (hQ.out.kept S)) hlt
      obtain ⟨b2, off2, rq2, rc2, rfl, hd0, hd1, hd2, hri2⟩ := grps_get (HY.out.keep (hQ.out.kept T)) hlt
      have i1 : (0 : Int) ≤ (k : Int) := by omega
      have i2 : (k : Int) < (gs.length : Int) := by omega
      have hsame := fun m => sameInts_t S T (wr.drewN m) _ _ _ _ (IntsAt.keep hri (kept_drewN S wr m)) (IntsAt.keep hri2 (kept_drewN T wr m)) (HR.out k) (HR.out k)
      simp only [decide_true] at hsame
      have HS := Lib.hid hsame
      clear hri hri2 hsame
      generalize (gg gs k).un = un at *
      generalize (gg gs k).st = sx at *
      generalize (gg gs k).src = src at *
      have j1 : (un != un) = false := by simp
      have j2 : (sx != sx) = false := by simp
      go_wp2_with fail
      go_quiet (exact eq_quiet (HS.out _))
      go_wp2_with fail
      go_roundw
      case rel => exact ⟨k + 1, by omega, by go_num, hQ.out.drewN nq⟩
      case measure => simp [intOf]; omega
    · obtain rfl : k = gs.length := by omega
      clear hlt hk
      go_wp2_with fail
      go_ret
      exact ⟨rfl, hQ.out⟩
end Go.Proofs.YtgjcfkadioblfaaGreat
namespace Go.Proofs.YtgjcfkadioblfaaGreat
open Go.RowKit Go.Deep
def gBad (g : Grp) : Bool := decide (g.un < 0) || decide (g.st < 0) || decide (16 ≤ g.st) || !srcOk g.src
def gcErr (l : List Grp) : Int := if 256 < l.length then 4 else if (List.range l.length).any fun k => gBad (gg l k) then 1 else 0
theorem box3 (w : World) (a b c : Value) (T : TypeId) : (w.alloc (.cells #[a, b, c] T)).cell? ⟨w.heap.size, 0, none⟩ = some a ∧ (w.alloc (.cells #[a, b, c] T)).cell? ⟨w.heap.size, 1, none⟩ = some b ∧ (w.alloc (.cells #[a, b, c] T)).cell? ⟨w.heap.size, 2, none⟩ = some c := by
  refine ⟨?_, ?_, ?_⟩ <;> simp [World.cell?_alloc_new]
set_option maxRecDepth 100000 in
set_option maxHeartbeats 1000000 in
theorem gcheck_t (S : Nat → Prop) (w : World) (v : Value) (l : List Grp) (h : GrpsAt S w v l) (hn : l.length ≤ 1000000) (hr : ∀ k, (gg l k).src.length ≤ 1000000) :
    Calls Tryz.prog 51 #[v] w fun e w' => e = .returned (.int .i64 (gcErr l)) ∧ Up w w' := by
  obtain ⟨p, cap, rfl, hcap⟩ := grps_open h
  have HX := Lib.hid h
  have HR := Lib.hid hr
  have HG : Hid (gcErr l = if 256 < l.length then 4 else if (List.range l.length).any fun k => gBad (gg l k) then 1 else 0) := rfl
  clear h hr
  by_cases h1 : 256 < l.length
  · have HQ : Hid (gcErr l = 4) := by unfold Hid; rw [HG.out, if_pos h1]
    go_enter Tryz.func51, Tryz.ntmps51
    go_wp2_with fail
    go_ret
    exact ⟨ret_int HQ.out.symm, Up.refl _⟩
  have HQ1 : Hid (∀ k, k < l.length → gBad (gg l k) = true → gcErr l = 1) := fun k hk hb => by rw [HG.out, if_neg h1, if_pos (any_at (p := fun k => gBad (gg l k)) hk hb)]
  have HQ0 : Hid ((∀ k, k < l.length → gBad (gg l k) = false) → gcErr l = 0) := fun hb => by rw [HG.out, if_neg h1, if_neg (by rw [any_none hb]; decide)]
  have hl2 : l.length ≤ 256 := by omega
  clear h1 HG
  go_enter Tryz.func51, Tryz.ntmps51
  go_wp2_with fail
  go_loopw [4, 10] (fun _ i wr => ∃ k : Nat, k ≤ l.length ∧ i = .int .i64 k ∧ Hid (Up w wr) ∧ Hid (∀ j, j < k → gBad (gg l j) = false)) (fun _ i _ => l.length - (intOf i).toNat)
  case atStart => exact ⟨0, Nat.zero_le _, rfl, Up.refl _, fun j hj => absurd hj (Nat.not_lt_zero _)⟩
  case round =>
    obtain ⟨k, hk, rfl, hU, hd⟩ := hrel
    obtain ⟨wo, rfl⟩ : ∃ wo : World, wo = wr := ⟨_, rfl⟩
    by_cases hlt : k < l.length
    · obtain ⟨b, off, rq, rc, rfl, hc0, hc1, hc2, hri⟩ := grps_get (HX.out.keep (hU.out.kept S)) hlt
      have i1 : (0 : Int) ≤ (k : Int) := by omega
      have i2 : (k : Int) < (l.length : Int) := by omega
      have HK1 := Lib.hid (HQ1.out k hlt)
      have HGB : Hid (gBad (gg l k) = (decide ((gg l k).un < 0) || decide ((gg l k).st < 0) || decide (16 ≤ (gg l k).st) || !srcOk (gg l k).src)) := rfl
      have hal := Up.alloc wo (.cells #[.int .i64 (gg l k).un, .int .i64 (gg l k).st, .slice rq (gg l k).src.length rc] 61)
      obtain ⟨hb0, hb1, hb2⟩ := box3 wo (.int .i64 (gg l k).un) (.int .i64 (gg l k).st) (.slice rq (gg l k).src.length rc) 61
      have HSC := Lib.hid (sources_t S _ _ _ (IntsAt.keep hri (hal.kept S)) (HR.out k))
      have HU2 := Lib.hid (hU.out.trans hal)
      clear hri hal
      generalize (gg l k).un = un at *
      generalize (gg l k).st = sx at *
      generalize (gg l k).src = src at *
      by_cases c0 : un < 0
      · have e0 : decide (un < 0) = true := by simpa using c0
        have HQ : Hid (gcErr l = 1) := HK1.out (by rw [HGB.out, e0]; rfl)
        go_wp2_with fail
        go_ret
        exact ⟨ret_int HQ.out.symm, HU2.out⟩
      · have e0 : decide (un < 0) = false := by simpa using c0
        by_cases c1 : sx < 0
        · have e1 : decide (sx < 0) = true := by simpa using c1
          have HQ : Hid (gcErr l = 1) := HK1.out (by rw [HGB.out, e0, e1]; rfl)
          go_wp2_with fail
          go_ret
          exact ⟨ret_int HQ.out.symm, HU2.out⟩
        · have e1 : decide (sx < 0) = false := by simpa using c1
          by_cases c2 : 16 ≤ sx
          · have e2 : decide (16 ≤ sx) = true := by simpa using c2
            have HQ : Hid (gcErr l = 1) := HK1.out (by rw [HGB.out, e0, e1, e2]; rfl)
            go_wp2_with fail
            go_ret
            exact ⟨ret_int HQ.out.symm, HU2.out⟩
          · have e2 : decide (16 ≤ sx) = false := by simpa using c2
            rw [e0, e1, e2] at HGB
            generalize srcOk src = so at *
            cases so
            · have HQ : Hid (gcErr l = 1) := HK1.out (by rw [HGB.out]; rfl)
              go_wp2_with (refine HSC.out.mono ?_; rintro e w' ⟨rfl, rfl⟩)
              go_ret
              exact ⟨ret_int HQ.out.symm, HU2.out⟩
            · have HQ : Hid (gBad (gg l k) = false) := by unfold Hid; rw [HGB.out]; rfl
              go_wp2_with (refine HSC.out.mono ?_; rintro e w' ⟨rfl, rfl⟩)
              go_roundw
              case rel => exact ⟨k + 1, by omega, by go_num, HU2, fun j hj => if e : j = k then by subst e; exact HQ.out else hd.out j (by omega)⟩
              case measure => simp [intOf]; omega
    · obtain rfl : k = l.length := by omega
      have HQ : Hid (gcErr l = 0) := HQ0.out hd.out
      clear hlt hk
      go_wp2_with fail
      go_ret
      exact ⟨ret_int HQ.out.symm, hU.out⟩
end Go.Proofs.YtgjcfkadioblfaaGreat
namespace Go.Proofs.YtgjcfkadioblfaaGreat
open Go.RowKit Go.Deep
theorem same_quiet {P : Program} {f : FuncId} {args : Array Value} {w : World} {n : Nat} {v : Value} (h : Calls P f args (w.drewN n) fun e w' => e = .returned v ∧ w.drewN n = w') : Calls P f args (w.drewN n) fun e w'' => e = .returned v ∧ ∃ m, w'' = w.drewN m :=
  h.mono fun _ _ ⟨h1, h2⟩ => ⟨h1, n, h2.symm⟩
theorem Tryz.infoSI3 : (Tryz.prog.info? 22).map (fun i => (i.zero, i.size, i.bytes)) = some (some (.slice none 0 0), 1, 24) := by kernel_rfl
def cfB (l : List Grp) (i k : Nat) : Bool := confB (ofS (gg l i).src) (ofS (gg l k).src)
def cfRow (l : List Grp) (i k : Nat) : List (List Int) := ((List.range k).filter fun j => decide (i < j) && cfB l i j).map fun (j : Nat) => [(i : Int), (j : Int)]
def cfK (l : List Grp) (k : Nat) : List (List Int) := (List.range k).flatMap fun i => cfRow l i l.length
def cfL (l : List Grp) : List (List Int) := if gcErr l = 0 then cfK l l.length else []
theorem cfRow_succ (l : List Grp) (i k : Nat) : cfRow l i (k + 1) = cfRow l i k ++ (if i < k ∧ cfB l i k = true then [[(i : Int), (k : Int)]] else []) := by
  unfold cfRow
  rw [List.range_succ, List.filter_append, List.map_append]
  congr 1
  by_cases h : i < k <;> by_cases h2 : cfB l i k = true <;> simp [h, h2]
theorem cfRow_start (l : List Grp) (i : Nat) : cfRow l i (i + 1) = [] := by
  unfold cfRow
  rw [List.filter_eq_nil_iff.2 (fun j hj => by have := List.mem_range.1 hj; simp; omega)]
  rfl
theorem cfRow_len (l : List Grp) (i k : Nat) : (cfRow l i k).length ≤ k := by
  unfold cfRow
  rw [List.length_map]
  exact Nat.le_trans (List.length_filter_le _ _) (by simp)
theorem cfK_succ (l : List Grp) (k : Nat) : cfK l (k + 1) = cfK l k ++ cfRow l k l.length := by
  unfold cfK; rw [List.range_succ, List.flatMap_append]; simp
theorem cfK_len (l : List Grp) (k : Nat) : (cfK l k).length ≤ k * l.length := by
  induction k with
  | zero => exact Nat.zero_le _
  | succ k ih =>
    rw [cfK_succ, List.length_append, Nat.succ_mul]
    have := cfRow_len l k l.length
    omega
theorem gcErr_zero {l : List Grp} (h : gcErr l = 0) : l.length ≤ 256 ∧ ∀ k, k < l.length → 0 ≤ (gg l k).un ∧ 0 ≤ (gg l k).st ∧ (gg l k).st < 16 ∧ srcOk (gg l k).src = true := by
  unfold gcErr at h
  split at h
  · cases h
  · split at h
    · cases h
    · rename_i h1 h2
      refine ⟨by omega, fun k hk => ?_⟩
      have h3 := any_false (p := fun k => gBad (gg l k)) (by simpa using h2) hk
      unfold gBad at h3
      simp only [Bool.or_eq_false_iff, decide_eq_false_iff_not, Bool.not_eq_false'] at h3
      exact ⟨by omega, by omega, by omega, h3.2⟩
theorem srcOk_small {l : List Int} (h : srcOk l = true) : Small l ∧ 0 < l.length ∧ ∀ k, 0 < k → k < l.length → gi l (k - 1) < gi l k := by
  unfold srcOk at h
  simp only [Bool.and_eq_true, Bool.not_eq_true', decide_eq_true_eq] at h
  have h2 : ∀ k, k < l.length → srcBad l k = false := fun k hk => any_false h.1 hk
  refine ⟨fun k hk => ?_, h.2, fun k h0 hk => ?_⟩
  · have := h2 k hk
    unfold srcBad at this
    simp only [Bool.or_eq_false_iff, decide_eq_false_iff_not] at this
    omega
  · have := h2 k hk
    unfold srcBad at this
    simp only [Bool.or_eq_false_iff, decide_eq_false_iff_not, Bool.and_eq_false_imp, decide_eq_true_eq] at this
    have := this.2 h0
    omega
theorem pair_at (W : World) (a b : Int) (S : Nat → Prop) (hS : S W.heap.size) : IntsAt S (W.alloc (.cells #[.int .i64 a, .int .i64 b] 3)) (.slice (some ⟨W.heap.size, 0, none⟩) 2 2) [a, b] := by
  refine ⟨_, 2, rfl, Nat.le_refl _, .inr ⟨_, 0, rfl, hS, fun k hk => ?_⟩⟩
  match k with
  | 0 => simp [World.cell?_alloc_new, gi]
  | 1 => simp [World.cell?_alloc_new, gi]
  | k + 2 => exact absurd hk (by simp)
theorem RowsOwn.lt {base : Nat} {T : TypeId} {w : World} {d : Value} {xs : List (List Int)} (h : RowsOwn base T w d xs) {b : Nat} (hb : d.ownBlock = some b) : base ≤ b ∧ b < w.heap.size := by
  obtain ⟨vals, _, ho, _⟩ := h
  exact ownBlock_lt ho hb
theorem RowsOwn.len {base : Nat} {T : TypeId} {w : World} {d : Value} {xs : List (List Int)} (h : RowsOwn base T w d xs) : ∃ p c, d = .slice p xs.length c := by
  obtain ⟨vals, hl, ho, _⟩ := h
  obtain ⟨p, c, e, _⟩ := ho.form (n := xs.length) hl
  exact ⟨p, c, e⟩
section
variable {P : Program} {ops : Array Oper} {rest : List Oper} {o : Oper} {a : Act} {Q : Exit → Act → World → Prop}
/-- 'out = append(out, u)', u a list; the new block's number said. -/
theorem wpList_appRowM (W : World) (hgd : o.guard = none) (s x : Operand) (t : TypeId) (ho : o.op = .call { callee := .builtin .append, args := #[s, x], argTypes := #[t, t] })
    (base : Nat) (e : TypeId) (z : Value) (bytes : Nat) (ht : P.underlying t = some (.slice e)) (hinfo : (P.info? e).map (fun i => (i.zero, i.size, i.bytes)) = some (some z, 1, bytes))
    (hz1 : z.cells.size = 1) (hb8 : bytes ≤ 64) {v : Value} {xs : List (List Int)} (hown : RowsOwn base e W v xs) (hs : a.eval s = v) (u : Value) (y : List Int) (m : Nat) (hm : W.heap.size = m)
    (hx : a.eval x = .slice (some ⟨m, 0, none⟩) 1 1) (hu : IntsAt (fun b => some b ≠ v.ownBlock) W u y) (h1 : u.oneCell' = true) (n : Nat) (hxn : xs.length = n) (hn : n ≤ 1000000) (hbase : base ≤ W.heap.size)
    (h : ∀ g cap w', RowsOwn base e w' (.slice (some ⟨g, 0, none⟩) (n + 1) cap) (xs ++ [y]) → W.grownBy w' v.ownBlock → Below base W w' → wpList P ops Q rest (a.put o.dst (.slice (some ⟨g, 0, none⟩) (n + 1) cap)) w') :
    wpList P ops Q (o :: rest) a (W.alloc (.cells #[u] e)) := by
  subst hm
  exact wpList_appRow W hgd s x t ho base e z bytes ht hinfo hz1 hb8 hown hs u y hx hu h1 n hxn hn hbase h
end
def CfPost (w : World) (l : List Grp) (e : Ending) (w' : World) : Prop :=
  Up w w' ∧ ∃ v, e = .returned (.tuple #[v, .int .i64 (gcErr l)]) ∧ RowsAt Any w' v (cfL l)
set_option maxRecDepth 100000 in
set_option maxHeartbeats 2000000 in
theorem conflicts_t (S : Nat → Prop) (w : World) (v : Value) (l : List Grp) (h : GrpsAt S w v l) (hn : l.length ≤ 1000000) (hr : ∀ k, (gg l k).src.length ≤ 1000000) :
    Calls Tryz.prog 12 #[v] w (CfPost w l) := by
  have HGC := Lib.hid (gcheck_t S w v l h hn hr)
  obtain ⟨p, cap, rfl, hcap⟩ := grps_open h
  have HX := Lib.hid h
  have HR := Lib.hid hr
  have HCL : Hid (cfL l = if gcErr l = 0 then cfK l l.length else []) := rfl
  have HNIL : Hid (∀ W, RowsAt Any W (.slice none 0 0) []) := fun W => (RowsOwn.nil 0 22 W).rows
  clear h hr
  by_cases h0 : gcErr l = 0
  · obtain ⟨hl, hgr⟩ := gcErr_zero h0
    have HGR := Lib.hid hgr
    have HL : Hid (cfL l = cfK l l.length) := by unfold Hid; rw [HCL.out, if_pos h0]
    have H0 := Lib.hid h0
    rw [h0] at HGC
    clear HCL hgr h0
    go_enter Tryz.func12, Tryz.ntmps12
    go_wp2_with (refine HGC.out.mono ?_; rintro e w1 ⟨rfl, hU1⟩; have HU1 := Lib.hid hU1; clear hU1)
    go_loopw [5, 6, 7, 15] (fun d _ _ i wr => ∃ k : Nat, k ≤ l.length ∧ i = .int .i64 k ∧ Hid (RowsOwn w1.heap.size 22 wr d (cfK l k)) ∧ Hid (Up w1 wr)) (fun _ _ _ i _ => l.length - (intOf i).toNat)
    case atStart => exact ⟨0, Nat.zero_le _, rfl, RowsOwn.nil _ _ _, Up.refl _⟩
    case round =>
      obtain ⟨k, hk, rfl, hD, hUr⟩ := hrel
      obtain ⟨wo, rfl⟩ : ∃ wo : World, wo = wr := ⟨_, rfl⟩
      by_cases hlt : k < l.length
      · have HD0 : Hid (RowsOwn w1.heap.size 22 wo u5 (cfK l k ++ cfRow l k (k + 1))) := by unfold Hid; rw [cfRow_start, List.append_nil]; exact hD.out
        have HS := Lib.hid (cfK_succ l k)
        obtain ⟨d0, rfl⟩ : ∃ d : Value, d = u5 := ⟨_, rfl⟩
        go_wp2_with fail
        go_loopw [5, 7] (fun d i wr => ∃ j : Nat, k + 1 ≤ j ∧ j ≤ l.length ∧ i = .int .i64 j ∧ Hid (RowsOwn w1.heap.size 22 wr d (cfK l k ++ cfRow l k j)) ∧ Hid (Up w1 wr)) (fun _ i _ => l.length - (intOf i).toNat)
        case atStart => exact ⟨k + 1, Nat.le_refl _, by omega, by go_num, HD0, hUr⟩
        case round =>
          obtain ⟨j, hj1, hj, rfl, hD2, hU2⟩ := hrel
          obtain ⟨wi, rfl⟩ : ∃ wo : World, wo = wr := ⟨_, rfl⟩
          by_cases hjt : j < l.length
          · obtain ⟨b, off, rq, rc, rfl, _, _, hc2, hri⟩ := grps_get (HX.out.keep ((HU1.out.trans hU2.out).kept S)) hlt
            obtain ⟨b', off', rq2, rc2, e1, _, _, hd2, hri2⟩ := grps_get (HX.out.keep ((HU1.out.trans hU2.out).kept S)) hjt
            injection e1 with e1
            injection e1 with e1 e2
            subst e1; subst e2
            have i1 : (0 : Int) ≤ (k : Int) := by omega
            have i2 : (k : Int) < (l.length : Int) := by omega
            have i3 : (0 : Int) ≤ (j : Int) := by omega
            have i4 : (j : Int) < (l.length : Int) := by omega
            have hs1 := (srcOk_small (HGR.out k hlt).2.2.2).1
            have hs2 := (srcOk_small (HGR.out j hjt).2.2.2).1
            have HO1 := Lib.hid (fun m => same_quiet <| of_t S (wi.drewN m) _ _ (IntsAt.keep hri (kept_drewN S wi m)) hs1 (HR.out k))
            have HO2 := Lib.hid (fun m => same_quiet <| of_t S (wi.drewN m) _ _ (IntsAt.keep hri2 (kept_drewN S wi m)) hs2 (HR.out j))
            have HCC := Lib.hid (fun m => same_quiet <| conflict_t (ofS (gg l k).src) (ofS (gg l j).src) (Nat.lt_trans (ofS_lt hs1) (by decide)) (Nat.lt_trans (ofS_lt hs2) (by decide)) (wi.drewN m))
            have HRS := Lib.hid (cfRow_succ l k j)
            have HCB : Hid (cfB l k j = confB (ofS (gg l k).src) (ofS (gg l j).src)) := rfl
            clear hri hri2 hs1 hs2
            generalize (gg l k).src = s1 at *
            generalize (gg l j).src = s2 at *
            go_wp2_with fail
            go_quiet (first | with_reducible exact HO1.out _ | with_reducible exact HO2.out _ | with_reducible exact HCC.out _)
            cases hcb : confB (ofS s1) (ofS s2)
            · have HRN : Hid (RowsOwn w1.heap.size 22 (wi.drewN nq) u5 (cfK l k ++ cfRow l k (j + 1))) := by
                unfold Hid; rw [HRS.out, if_neg (by rw [HCB.out, hcb]; simp), List.append_nil]; exact hD2.out.kept (Up.drewN _ _)
              have HUN : Hid (Up w1 (wi.drewN nq)) := hU2.out.trans (Up.drewN _ _)
              go_wp2_with fail
              go_roundw
              case rel => exact ⟨j + 1, by omega, by omega, by go_num, HRN, HUN⟩
              case measure => simp [intOf]; omega
            · have HUA : Hid (Up wi ((wi.drewN nq).alloc (.cells #[.int .i64 k, .int .i64 j] 3))) := (Up.drewN wi nq).trans (Up.alloc _ _)
              have HRA := Lib.hid (hD2.out.kept HUA.out)
              have HPA : Hid (IntsAt (fun b => some b ≠ u5.ownBlock) ((wi.drewN nq).alloc (.cells #[.int .i64 k, .int .i64 j] 3)) (.slice (some ⟨(wi.drewN nq).heap.size, 0, none⟩) 2 2) [(k : Int), (j : Int)]) :=
                pair_at _ _ _ _ fun e => by have := (hD2.out.lt e.symm).2; exact absurd this (Nat.lt_irrefl _)
              have HLE : (cfK l k ++ cfRow l k j).length ≤ 1000000 := by
                have h1 := cfK_len l k
                have h2 := cfRow_len l k j
                have h3 : k * l.length ≤ 256 * 256 := Nat.mul_le_mul (by omega) hl
                rw [List.length_append]; omega
              have HWZ : w1.heap.size ≤ ((wi.drewN nq).alloc (.cells #[.int .i64 k, .int .i64 j] 3)).heap.size := (hU2.out.trans HUA.out).size
              have HSZ : ((wi.drewN nq).alloc (.cells #[.int .i64 k, .int .i64 j] 3)).heap.size = wi.heap.size + 1 := by rw [World.size_alloc]; rfl
              have HUW := Lib.hid (hU2.out.trans HUA.out)
              have HSN : Hid (cfK l k ++ cfRow l k (j + 1) = (cfK l k ++ cfRow l k j) ++ [[(k : Int), (j : Int)]]) := by
                unfold Hid; rw [HRS.out, if_pos ⟨by omega, by rw [HCB.out, hcb]⟩, List.append_assoc]
              generalize cfK l k ++ cfRow l k j = L0 at *
              go_wp2_with (at_builtin; refine wpList_appRowM ((wi.drewN nq).alloc (.cells #[.int .i64 k, .int .i64 j] 3)) rfl _ _ 31 rfl w1.heap.size 22 _ 24 Tryz.underlying31 Tryz.infoSI3 rfl (by decide) HRA.out rfl _ [(k : Int), (j : Int)] _ HSZ rfl HPA.out rfl _ rfl HLE HWZ ?_; intro g8 cap8 w8 hown1 hgr1 hbe1)
              go_roundw
              case rel => exact ⟨j + 1, by omega, by omega, by go_num, by unfold Hid; rw [HSN.out]; exact hown1, Below.trans HUW.out hbe1⟩
              case measure => simp [intOf]; omega
          · obtain rfl : j = l.length := by omega
            have HDN : Hid (RowsOwn w1.heap.size 22 wi u5 (cfK l (k + 1))) := by unfold Hid; rw [HS.out]; exact hD2.out
            clear hjt hj
            go_wp2_with fail
            go_roundw
            case rel => exact ⟨k + 1, by omega, by go_num, HDN, hU2⟩
            case measure => simp [intOf]; omega
      · obtain rfl : k = l.length := by omega
        clear hlt hk
        go_wp2_with fail
        go_ret2
        exact ⟨HU1.out.trans hUr.out, _, by rw [H0.out]; rfl, by rw [HL.out]; exact hD.out.rows⟩
  · have HL : Hid (cfL l = []) := by unfold Hid; rw [HCL.out, if_neg h0]
    have h1 : (gcErr l != 0) = true := by simpa using h0
    clear HCL h0
    go_enter Tryz.func12, Tryz.ntmps12
    go_wp2_with (refine HGC.out.mono ?_; rintro e w' ⟨rfl, hU1⟩; have HU1 := Lib.hid hU1; clear hU1)
    go_ret2
    exact ⟨HU1.out, _, rfl, by rw [HL.out]; exact HNIL.out _⟩
end Go.Proofs.YtgjcfkadioblfaaGreat
namespace Go.Proofs.YtgjcfkadioblfaaGreat
open Go.RowKit Go.Shelf Go.Deep
def gn (l : List Nat) (k : Nat) : Nat := l.getD k 0
def SetsAt (S : Nat → Prop) (w : World) (v : Value) (xs : List Nat) : Prop := SlAt S w v xs.length (fun k => .int .u64 (gn xs k))
theorem SetsAt.keep {S : Nat → Prop} {w w' : World} {v : Value} {xs : List Nat} (h : SetsAt S w v xs) (k : Kept S w w') : SetsAt S w' v xs := SlAt.keep h k
theorem SetsAt.sub {S T : Nat → Prop} {w : World} {v : Value} {xs : List Nat} (h : SetsAt S w v xs) (k : ∀ b, S b → b < w.heap.size → T b) : SetsAt T w v xs := SlAt.sub h k
theorem sets_get {S : Nat → Prop} {w : World} {p : Option Addr} {n cap : Nat} {xs : List Nat} (h : SetsAt S w (.slice p n cap) xs) {k : Nat} (hk : k < xs.length) : ∃ b off, p = some ⟨b, off, none⟩ ∧ w.cell? ⟨b, off + k, none⟩ = some (.int .u64 (gn xs k)) := by
  obtain ⟨q, c, e, _, H⟩ := SlAt.open h
  injection e with e1
  subst e1
  exact H k hk
section
attribute [local go_sem] Oper.semAt_some
set_option maxHeartbeats 400000 in
theorem index_set_t (S : Nat → Prop) (w : World) (v : Value) (xs : List Nat) (x : Nat) (h : SetsAt S w v xs) (hn : xs.length ≤ 1000000) :
    Calls Tryz.prog 112 #[v, .int .u64 x] w fun e w' => e = .returned (.int .i64 (firstIx (fun j => decide (x = gn xs j)) xs.length)) ∧ w = w' := by
  obtain ⟨p, cap, rfl, hcap, H⟩ := SlAt.open h
  clear h
  go_enter Tryz.func112, Tryz.ntmps112
  go_wp2_with fail
  go_loop [5, 8] (fun _ i => ∃ k : Nat, k ≤ xs.length ∧ i = .int .i64 k ∧ Hid (∀ j, j < k → decide (x = gn xs j) = false)) (fun _ i => xs.length - (intOf i).toNat)
  case atStart => exact ⟨0, Nat.zero_le _, rfl, fun j hj => absurd hj (Nat.not_lt_zero _)⟩
  case round =>
    obtain ⟨k, hk, rfl, hd⟩ := hrel
    by_cases hlt : k < xs.length
    · obtain ⟨b, off, rfl, hc⟩ := H k hlt
      clear H
      generalize hy : gn xs k = y at *
      have HY := Lib.hid hy
      clear hy
      by_cases hxy : x = y
      · have hx1 : (x == y) = true := by simp [hxy]
        have HXY := Lib.hid hxy
        clear hxy
        go_wp2_with fail
        go_ret
        exact ⟨ret_int (firstIx_at (p := fun j => decide (x = gn xs j)) hlt hd.out (by rw [HY.out]; simpa using HXY.out)).symm, rfl⟩
      · have hx1 : (x == y) = false := by simpa using hxy
        have HXY := Lib.hid hxy
        clear hxy
        go_wp2_with fail
        go_round
        case rel => exact ⟨k + 1, by omega, by go_num, fun j hj => if e : j = k then by subst e; rw [HY.out]; simpa using HXY.out else hd.out j (by omega)⟩
        case measure => simp [intOf]; omega
    · clear H
      go_wp2_with fail
      go_ret
      exact ⟨ret_int (firstIx_none fun j hj => hd.out j (by omega)).symm, rfl⟩
end
set_option maxHeartbeats 400000 in
theorem contains_set_t (S : Nat → Prop) (w : World) (v : Value) (xs : List Nat) (x : Nat) (h : SetsAt S w v xs) (hn : xs.length ≤ 1000000) :
    Calls Tryz.prog 59 #[v, .int .u64 x] w fun e w' => e = .returned (.bool ((List.range xs.length).any fun j => decide (x = gn xs j))) ∧ w = w' := by
  have hx := firstIx_any (fun j => decide (x = gn xs j)) xs.length
  have HX := Lib.hid hx
  have HI := Lib.hid (index_set_t S w v xs x h hn)
  clear hx h
  go_enter Tryz.func59, Tryz.ntmps59
  go_wp2_with fail
  refine HI.out.mono ?_
  rintro e w' ⟨rfl, rfl⟩
  go_wp2_with fail
  go_ret
  exact ⟨ret_bool (by rw [← HX.out]), rfl⟩
set_option maxHeartbeats 400000 in
theorem sets_ix_t (g : Nat) (lb : Array Value) (eg : ∀ args w, (callFunc g args).run Tryz.prog w = .ok (.enter g args) w) (S : Nat → Prop) (w : World) (v : Value) (n : Nat) (f : Nat → Value) (p : Nat → Bool)
    (h : SlAt S w v n f) (hn : n ≤ 1000000) (hp : ∀ k, k < n → FnIs g lb #[f k] (.bool (p k)) w) :
    Calls Tryz.prog 113 #[v, .func (.func g) #[] lb] w fun e w' => e = .returned (.int .i64 (firstIx p n)) ∧ w = w' := by
  obtain ⟨q, cap, rfl, hcap, H⟩ := h.open
  have HP := Lib.hid hp
  clear h hp
  go_enter Tryz.func113, Tryz.ntmps113
  go_wp2_with fail
  go_loop [5, 8] (fun _ i => ∃ k : Nat, k ≤ n ∧ i = .int .i64 k ∧ Hid (∀ j, j < k → p j = false)) (fun _ i => n - (intOf i).toNat)
  case atStart => exact ⟨0, Nat.zero_le _, rfl, fun j hj => absurd hj (Nat.not_lt_zero _)⟩
  case round =>
    obtain ⟨k, hk, rfl, hd⟩ := hrel
    by_cases hlt : k < n
    · obtain ⟨b, off, rfl, hc⟩ := H k hlt
      clear H
      have hpk := HP.out k hlt
      unfold FnIs at hpk
      have HPK := Lib.hid hpk
      clear hpk HP
      generalize hv : p k = pk at *
      have HV := Lib.hid hv
      clear hv
      cases pk
      · go_wp2_with fail
        refine HPK.out.mono ?_
        rintro e w' ⟨rfl, rfl⟩
        go_wp2_with fail
        go_round
        case rel => exact ⟨k + 1, by omega, by go_num, fun j hj => if e : j = k then by subst e; exact HV.out else hd.out j (by omega)⟩
        case measure => simp [intOf]; omega
      · go_wp2_with fail
        refine HPK.out.mono ?_
        rintro e w' ⟨rfl, rfl⟩
        go_wp2_with fail
        go_ret
        exact ⟨ret_int (firstIx_at hlt hd.out HV.out).symm, rfl⟩
    · clear H
      go_wp2_with fail
      go_ret
      exact ⟨ret_int (firstIx_none fun j hj => hd.out j (by omega)).symm, rfl⟩
set_option maxHeartbeats 400000 in
theorem sets_has_t (g : Nat) (lb : Array Value) (eg : ∀ args w, (callFunc g args).run Tryz.prog w = .ok (.enter g args) w) (S : Nat → Prop) (w : World) (v : Value) (n : Nat) (f : Nat → Value) (p : Nat → Bool)
    (h : SlAt S w v n f) (hn : n ≤ 1000000) (hp : ∀ k, k < n → FnIs g lb #[f k] (.bool (p k)) w) :
    Calls Tryz.prog 62 #[v, .func (.func g) #[] lb] w fun e w' => e = .returned (.bool ((List.range n).any p)) ∧ w = w' := by
  have hx := firstIx_any p n
  have HX := Lib.hid hx
  have HI := Lib.hid (sets_ix_t g lb eg S w v n f p h hn hp)
  clear hx hp h eg
  go_enter Tryz.func62, Tryz.ntmps62
  go_wp2_with fail
  refine HI.out.mono ?_
  rintro e w' ⟨rfl, rfl⟩
  go_wp2_with fail
  go_ret
  exact ⟨ret_bool (by rw [← HX.out]), rfl⟩
set_option maxHeartbeats 400000 in
theorem snamed_t (s : ByteArray) (hs : s.size ≤ 70000) (w : World) : Calls Tryz.prog 56 #[.string s] w fun e w' => e = .returned (.bool (namedB s.data.toList)) ∧ w = w' := by
  have hl := size_data s
  have HL := Lib.hid hl
  clear hl
  go_enter Tryz.func56, Tryz.ntmps56
  go_wp2_with fail
  refine (suffix_t s hs _).mono ?_
  rintro e w' ⟨⟨h1, r, hr, hd, rfl⟩ | ⟨h1, rfl⟩, rfl⟩
  · have hf : namedB s.data.toList = (decide (s.size ≤ 16) && isNameB r.data.toList) := by
      unfold namedB; rw [if_pos h1, hd, HL.out, Bool.and_comm]
    have HF := Lib.hid hf
    clear hf hd h1
    go_wp2_with (go_at_call 108; refine (isName_t r (by omega) _).mono ?_; rintro e w' ⟨rfl, rfl⟩)
    all_goals
      go_ret
      refine ⟨ret_bool ?_, rfl⟩
      rw [HF.out, Bool.eq_iff_iff]
      simp at *
      try omega
  · have hf : namedB s.data.toList = isNameB s.data.toList := by unfold namedB; rw [if_neg h1]
    have HF := Lib.hid hf
    clear hf h1
    go_wp2_with (go_at_call 108; refine (isName_t s hs _).mono ?_; rintro e w' ⟨rfl, rfl⟩)
    go_ret
    exact ⟨ret_bool (by rw [HF.out]), rfl⟩
/-- The greatest of the first k numbers. -/
def mxK (l : List Int) : Nat → Int
  | 0 => gi l 0
  | k + 1 => max (mxK l k) (gi l k)
def mxL (l : List Int) : Int := mxK l l.length
set_option maxHeartbeats 400000 in
theorem max_int_t (S : Nat → Prop) (w : World) (v : Value) (xs : List Int) (h : IntsAt S w v xs) (h0 : 0 < xs.length) (hn : xs.length ≤ 1000000) :
    Calls Tryz.prog 111 #[v] w fun e w' => e = .returned (.int .i64 (mxL xs)) ∧ w = w' := by
  obtain ⟨p, cap, rfl, hcap, H⟩ := SlAt.open h
  clear h
  obtain ⟨b0, o0, rfl, hc0⟩ := H 0 h0
  rw [Nat.add_zero] at hc0
  have hx1 : mxK xs 1 = gi xs 0 := by show max (gi xs 0) (gi xs 0) = _; exact Int.max_self _
  have HX1 := Lib.hid hx1
  have d0 : decide ((xs.length : Int) < 1) = false := by simp; omega
  clear hx1
  have HML : Hid (mxL xs = mxK xs xs.length) := rfl
  go_enter Tryz.func111, Tryz.ntmps111
  go_wp2_with fail
  go_loop [3, 4] (fun m i => ∃ k : Nat, 1 ≤ k ∧ k ≤ xs.length ∧ i = .int .i64 k ∧ m = .int .i64 (mxK xs k)) (fun _ i => xs.length - (intOf i).toNat)
  case atStart => exact ⟨1, Nat.le_refl _, h0, by go_num, by rw [HX1.out]⟩
  case round =>
    obtain ⟨k, hk1, hk, rfl, rfl⟩ := hrel
    by_cases hlt : k < xs.length
    · obtain ⟨b, off, e1, hc⟩ := H k hlt
      injection e1 with e1
      injection e1 with e1 e2
      subst e1; subst e2
      have HS : Hid (mxK xs (k + 1) = max (mxK xs k) (gi xs k)) := rfl
      clear H
      go_wp2_with fail
      go_round
      case rel => exact ⟨k + 1, by omega, by omega, by go_num, by rw [HS.out]⟩
      case measure => simp [intOf]; omega
    · obtain rfl : k = xs.length := by omega
      clear H
      go_wp2_with fail
      go_ret
      exact ⟨ret_int HML.out.symm, rfl⟩
end Go.Proofs.YtgjcfkadioblfaaGreat
