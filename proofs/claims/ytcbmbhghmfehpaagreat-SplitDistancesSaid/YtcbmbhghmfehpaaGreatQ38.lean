/- The walk of SplitDistances. -/
import Derived.Test.YtcbmbhghmfehpaaGreatQ37
namespace Go.Proofs.YtcbmbhghmfehpaaGreat
open Go.RowKit Go.Deep
def mxI (x y : Int) : Int := if y > x then y else x
theorem run_mx3 (w : World) (ts : Array TypeId) (t : TypeId) (k : IntKind) (a b c : Int) : (Builtin.max_ ts t #[.int k a, .int k b, .int k c]).run Tryz.prog w = .ok (.int k (mxI (mxI a b) c)) w := by
  simp [Builtin.max_, Builtin.max2, mxI]
@[go_sem high] theorem run_max3z (w : World) (ts : Array TypeId) (t : TypeId) (k : IntKind) : (Builtin.max_ ts t #[.int k 0, .int k 0, .int k 0]).run Tryz.prog w = .ok (.int k 0) w := by
  simp [Builtin.max_, Builtin.max2]
@[go_sem high] theorem run_max4z (w : World) (ts : Array TypeId) (t : TypeId) (k : IntKind) : (Builtin.max_ ts t #[.int k 0, .int k 0, .int k 0, .int k 0]).run Tryz.prog w = .ok (.int k 0) w := by
  simp [Builtin.max_, Builtin.max2]
theorem mx_ne {a b c : Int} (ha : 0 ≤ a) (hb : 0 ≤ b) (hc : 0 ≤ c) (h : ¬(a = 0 ∧ b = 0 ∧ c = 0)) : (mxI (mxI a b) c != 0) = true := by
  unfold mxI
  rw [bne_iff_ne]
  split <;> split <;> omega
theorem splOErr_nn (t : Tre) (names : List ByteArray) : 0 ≤ splOErr t names := by
  unfold splOErr
  split
  · decide
  · split
    · decide
    · split
      · decide
      · split <;> decide
/-- What a list of splits weighs. -/
theorem gt31_small {t : Tre} {n : Nat} (h : gt31B t n = false) (_ : n ≤ 64) : t.ps.length ≤ 66 ∧ t.ns.length ≤ 68 ∧ ∀ k, (gs t.ns k).size ≤ 20 := by
  unfold gt31B at h
  simp only [Bool.or_eq_false_iff, Bool.and_eq_false_iff, decide_eq_false_iff_not] at h
  refine ⟨by omega, by omega, fun k => ?_⟩
  by_cases hk : k < t.ns.length
  · have := any_false h.2 hk
    have := of_decide_eq_false this; omega
  · have : gs t.ns k = ByteArray.empty := by simp [gs, show t.ns.length ≤ k by omega]
    rw [this]; decide
set_option maxRecDepth 100000 in
set_option maxHeartbeats 16000000 in
theorem sdist_law (w : World) (v1 v2 v3 vn : Value) (t1 t2 t3 : Tre) (names : List ByteArray) (hT1 : TreeAt Any w v1 t1) (hT2 : TreeAt Any w v2 t2) (hT3 : TreeAt Any w v3 t3) (hV : StrsAt Any w vn names)
    (hp1 : t1.ps.length ≤ 9223372036854775807) (hn1 : t1.ns.length ≤ 9223372036854775807) (hz1 : ∀ k, (gs t1.ns k).size ≤ 9223372036854775807)
    (hp2 : t2.ps.length ≤ 9223372036854775807) (hn2 : t2.ns.length ≤ 9223372036854775807) (hz2 : ∀ k, (gs t2.ns k).size ≤ 9223372036854775807)
    (hp3 : t3.ps.length ≤ 9223372036854775807) (hn3 : t3.ns.length ≤ 9223372036854775807) (hz3 : ∀ k, (gs t3.ns k).size ≤ 9223372036854775807)
    (hn : names.length ≤ 9223372036854775807) (hz : ∀ k, (gs names k).size ≤ 9223372036854775807) :
    Calls Tryz.prog 8 #[v1, v2, v3, vn] w fun e w' => e = .returned (.bool true) ∧ Up w w' := by
  have HAW := Lib.hid awake32_t
  obtain ⟨np, nc, rfl, _, _⟩ := SlAt.open hV
  obtain ⟨P1, N1, rfl, hP1, hN1⟩ := hT1
  obtain ⟨p1, c1, rfl, _, _⟩ := SlAt.open hP1
  obtain ⟨q1, e1, rfl, _, _⟩ := SlAt.open hN1
  obtain ⟨P2, N2, rfl, hP2, hN2⟩ := hT2
  obtain ⟨p2, c2, rfl, _, _⟩ := SlAt.open hP2
  obtain ⟨q2, e2, rfl, _, _⟩ := SlAt.open hN2
  obtain ⟨P3, N3, rfl, hP3, hN3⟩ := hT3
  obtain ⟨p3, c3, rfl, _, _⟩ := SlAt.open hP3
  obtain ⟨q3, e3, rfl, _, _⟩ := SlAt.open hN3
  have hu1 := ((Up.alloc w (.cells #[.slice p1 t1.ps.length c1, .slice q1 t1.ns.length e1] 45)).trans (Up.alloc _ (.cells #[.slice p2 t2.ps.length c2, .slice q2 t2.ns.length e2] 45))).trans (Up.alloc _ (.cells #[.slice p3 t3.ps.length c3, .slice q3 t3.ns.length e3] 45))
  have z1 : (w.alloc (.cells #[.slice p1 t1.ps.length c1, .slice q1 t1.ns.length e1] 45)).heap.size = w.heap.size + 1 := World.size_alloc _ _
  have z2 : ((w.alloc (.cells #[.slice p1 t1.ps.length c1, .slice q1 t1.ns.length e1] 45)).alloc (.cells #[.slice p2 t2.ps.length c2, .slice q2 t2.ns.length e2] 45)).heap.size = w.heap.size + 1 + 1 := by rw [World.size_alloc, z1]
  have b10 := ((Up.alloc _ (.cells #[.slice p2 t2.ps.length c2, .slice q2 t2.ns.length e2] 45)).trans (Up.alloc _ (.cells #[.slice p3 t3.ps.length c3, .slice q3 t3.ns.length e3] 45))).cell (box2_0 w (.slice p1 t1.ps.length c1) (.slice q1 t1.ns.length e1) 45)
  have b11 := ((Up.alloc _ (.cells #[.slice p2 t2.ps.length c2, .slice q2 t2.ns.length e2] 45)).trans (Up.alloc _ (.cells #[.slice p3 t3.ps.length c3, .slice q3 t3.ns.length e3] 45))).cell (box2_1 w (.slice p1 t1.ps.length c1) (.slice q1 t1.ns.length e1) 45)
  have b20 := (Up.alloc _ (.cells #[.slice p3 t3.ps.length c3, .slice q3 t3.ns.length e3] 45)).cell (box2_0 (w.alloc (.cells #[.slice p1 t1.ps.length c1, .slice q1 t1.ns.length e1] 45)) (.slice p2 t2.ps.length c2) (.slice q2 t2.ns.length e2) 45)
  have b21 := (Up.alloc _ (.cells #[.slice p3 t3.ps.length c3, .slice q3 t3.ns.length e3] 45)).cell (box2_1 (w.alloc (.cells #[.slice p1 t1.ps.length c1, .slice q1 t1.ns.length e1] 45)) (.slice p2 t2.ps.length c2) (.slice q2 t2.ns.length e2) 45)
  have b30 := box2_0 ((w.alloc (.cells #[.slice p1 t1.ps.length c1, .slice q1 t1.ns.length e1] 45)).alloc (.cells #[.slice p2 t2.ps.length c2, .slice q2 t2.ns.length e2] 45)) (.slice p3 t3.ps.length c3) (.slice q3 t3.ns.length e3) 45
  have b31 := box2_1 ((w.alloc (.cells #[.slice p1 t1.ps.length c1, .slice q1 t1.ns.length e1] 45)).alloc (.cells #[.slice p2 t2.ps.length c2, .slice q2 t2.ns.length e2] 45)) (.slice p3 t3.ps.length c3) (.slice q3 t3.ns.length e3) 45
  rw [z1] at b20 b21
  rw [z2] at b30 b31
  have HB := Lib.hid (⟨b10, b11, b20, b21, b30, b31⟩ : _ ∧ _ ∧ _ ∧ _ ∧ _ ∧ _)
  have HT1 : Hid (TreeAt Any (((w.alloc (.cells #[.slice p1 t1.ps.length c1, .slice q1 t1.ns.length e1] 45)).alloc (.cells #[.slice p2 t2.ps.length c2, .slice q2 t2.ns.length e2] 45)).alloc (.cells #[.slice p3 t3.ps.length c3, .slice q3 t3.ns.length e3] 45)) (.agg #[.slice p1 t1.ps.length c1, .slice q1 t1.ns.length e1]) t1) := TreeAt.keep ⟨_, _, rfl, hP1, hN1⟩ (hu1.kept _)
  have HT2 : Hid (TreeAt Any (((w.alloc (.cells #[.slice p1 t1.ps.length c1, .slice q1 t1.ns.length e1] 45)).alloc (.cells #[.slice p2 t2.ps.length c2, .slice q2 t2.ns.length e2] 45)).alloc (.cells #[.slice p3 t3.ps.length c3, .slice q3 t3.ns.length e3] 45)) (.agg #[.slice p2 t2.ps.length c2, .slice q2 t2.ns.length e2]) t2) := TreeAt.keep ⟨_, _, rfl, hP2, hN2⟩ (hu1.kept _)
  have HT3 : Hid (TreeAt Any (((w.alloc (.cells #[.slice p1 t1.ps.length c1, .slice q1 t1.ns.length e1] 45)).alloc (.cells #[.slice p2 t2.ps.length c2, .slice q2 t2.ns.length e2] 45)).alloc (.cells #[.slice p3 t3.ps.length c3, .slice q3 t3.ns.length e3] 45)) (.agg #[.slice p3 t3.ps.length c3, .slice q3 t3.ns.length e3]) t3) := TreeAt.keep ⟨_, _, rfl, hP3, hN3⟩ (hu1.kept _)
  have HN : Hid (StrsAt Any (((w.alloc (.cells #[.slice p1 t1.ps.length c1, .slice q1 t1.ns.length e1] 45)).alloc (.cells #[.slice p2 t2.ps.length c2, .slice q2 t2.ns.length e2] 45)).alloc (.cells #[.slice p3 t3.ps.length c3, .slice q3 t3.ns.length e3] 45)) (.slice np names.length nc) names) := StrsAt.keep hV (hu1.kept _)
  have HU1 := Lib.hid hu1
  have HG1 : Hid (∀ W, Up (((w.alloc (.cells #[.slice p1 t1.ps.length c1, .slice q1 t1.ns.length e1] 45)).alloc (.cells #[.slice p2 t2.ps.length c2, .slice q2 t2.ns.length e2] 45)).alloc (.cells #[.slice p3 t3.ps.length c3, .slice q3 t3.ns.length e3] 45)) W → Calls Tryz.prog 43 #[.agg #[.slice p1 t1.ps.length c1, .slice q1 t1.ns.length e1]] W fun e w' => e = .returned (.bool (gt31B t1 18)) ∧ Up W w') := fun W hW => gtree32_t Any W _ t1 (HT1.out.keep (hW.kept _)) hp1 hn1 hz1
  have HG2 : Hid (∀ W, Up (((w.alloc (.cells #[.slice p1 t1.ps.length c1, .slice q1 t1.ns.length e1] 45)).alloc (.cells #[.slice p2 t2.ps.length c2, .slice q2 t2.ns.length e2] 45)).alloc (.cells #[.slice p3 t3.ps.length c3, .slice q3 t3.ns.length e3] 45)) W → Calls Tryz.prog 43 #[.agg #[.slice p2 t2.ps.length c2, .slice q2 t2.ns.length e2]] W fun e w' => e = .returned (.bool (gt31B t2 18)) ∧ Up W w') := fun W hW => gtree32_t Any W _ t2 (HT2.out.keep (hW.kept _)) hp2 hn2 hz2
  have HG3 : Hid (∀ W, Up (((w.alloc (.cells #[.slice p1 t1.ps.length c1, .slice q1 t1.ns.length e1] 45)).alloc (.cells #[.slice p2 t2.ps.length c2, .slice q2 t2.ns.length e2] 45)).alloc (.cells #[.slice p3 t3.ps.length c3, .slice q3 t3.ns.length e3] 45)) W → Calls Tryz.prog 43 #[.agg #[.slice p3 t3.ps.length c3, .slice q3 t3.ns.length e3]] W fun e w' => e = .returned (.bool (gt31B t3 18)) ∧ Up W w') := fun W hW => gtree32_t Any W _ t3 (HT3.out.keep (hW.kept _)) hp3 hn3 hz3
  have HGN : Hid (∀ W, Up (((w.alloc (.cells #[.slice p1 t1.ps.length c1, .slice q1 t1.ns.length e1] 45)).alloc (.cells #[.slice p2 t2.ps.length c2, .slice q2 t2.ns.length e2] 45)).alloc (.cells #[.slice p3 t3.ps.length c3, .slice q3 t3.ns.length e3] 45)) W → Calls Tryz.prog 44 #[.slice np names.length nc] W fun e w' => e = .returned (.bool (g32B names)) ∧ W = w') := fun W hW => gnames32_t Any W _ names (StrsAt.keep HN.out (hW.kept _)) hn hz
  have HOF1 : Hid (gt31B t1 18 = false → g32B names = false → ∀ W, Up (((w.alloc (.cells #[.slice p1 t1.ps.length c1, .slice q1 t1.ns.length e1] 45)).alloc (.cells #[.slice p2 t2.ps.length c2, .slice q2 t2.ns.length e2] 45)).alloc (.cells #[.slice p3 t3.ps.length c3, .slice q3 t3.ns.length e3] 45)) W → Calls Tryz.prog 27 #[.agg #[.slice p1 t1.ps.length c1, .slice q1 t1.ns.length e1], .slice np names.length nc] W (OfPost W t1 names)) := fun h h2 W hW => by
    obtain ⟨s1, s2, s3⟩ := gt31_small h (by decide)
    obtain ⟨s4, _⟩ := g32_small h2
    exact splOf_t Any W _ _ t1 names (HT1.out.keep (hW.kept _)) (StrsAt.keep HN.out (hW.kept _)) (by omega) (by omega) (fun k => Nat.le_trans (s3 k) (by decide)) (by omega)
  have HOF2 : Hid (gt31B t2 18 = false → g32B names = false → ∀ W, Up (((w.alloc (.cells #[.slice p1 t1.ps.length c1, .slice q1 t1.ns.length e1] 45)).alloc (.cells #[.slice p2 t2.ps.length c2, .slice q2 t2.ns.length e2] 45)).alloc (.cells #[.slice p3 t3.ps.length c3, .slice q3 t3.ns.length e3] 45)) W → Calls Tryz.prog 27 #[.agg #[.slice p2 t2.ps.length c2, .slice q2 t2.ns.length e2], .slice np names.length nc] W (OfPost W t2 names)) := fun h h2 W hW => by
    obtain ⟨s1, s2, s3⟩ := gt31_small h (by decide)
    obtain ⟨s4, _⟩ := g32_small h2
    exact splOf_t Any W _ _ t2 names (HT2.out.keep (hW.kept _)) (StrsAt.keep HN.out (hW.kept _)) (by omega) (by omega) (fun k => Nat.le_trans (s3 k) (by decide)) (by omega)
  have HOF3 : Hid (gt31B t3 18 = false → g32B names = false → ∀ W, Up (((w.alloc (.cells #[.slice p1 t1.ps.length c1, .slice q1 t1.ns.length e1] 45)).alloc (.cells #[.slice p2 t2.ps.length c2, .slice q2 t2.ns.length e2] 45)).alloc (.cells #[.slice p3 t3.ps.length c3, .slice q3 t3.ns.length e3] 45)) W → Calls Tryz.prog 27 #[.agg #[.slice p3 t3.ps.length c3, .slice q3 t3.ns.length e3], .slice np names.length nc] W (OfPost W t3 names)) := fun h h2 W hW => by
    obtain ⟨s1, s2, s3⟩ := gt31_small h (by decide)
    obtain ⟨s4, _⟩ := g32_small h2
    exact splOf_t Any W _ _ t3 names (HT3.out.keep (hW.kept _)) (StrsAt.keep HN.out (hW.kept _)) (by omega) (by omega) (fun k => Nat.le_trans (s3 k) (by decide)) (by omega)
  have HD12 : Hid (gt31B t1 18 = false → gt31B t2 18 = false → g32B names = false → ∀ W, Up (((w.alloc (.cells #[.slice p1 t1.ps.length c1, .slice q1 t1.ns.length e1] 45)).alloc (.cells #[.slice p2 t2.ps.length c2, .slice q2 t2.ns.length e2] 45)).alloc (.cells #[.slice p3 t3.ps.length c3, .slice q3 t3.ns.length e3] 45)) W → Calls Tryz.prog 52 #[.agg #[.slice p1 t1.ps.length c1, .slice q1 t1.ns.length e1], .agg #[.slice p2 t2.ps.length c2, .slice q2 t2.ns.length e2], .slice np names.length nc] W fun e w' => e = .returned (.tuple #[.int .i64 (dsN t1 t2 names : Int), .int .i64 (dsErr t1 t2 names)]) ∧ Up W w') := fun h h1 h2 W hW => by
    obtain ⟨s1, s2, s3⟩ := gt31_small h (by decide)
    obtain ⟨r1, r2, r3⟩ := gt31_small h1 (by decide)
    obtain ⟨s4, _⟩ := g32_small h2
    exact distance_t Any W _ _ _ t1 t2 names (HT1.out.keep (hW.kept _)) (HT2.out.keep (hW.kept _)) (StrsAt.keep HN.out (hW.kept _)) (by omega) (by omega) (fun k => Nat.le_trans (s3 k) (by decide)) (by omega) (by omega) (fun k => Nat.le_trans (r3 k) (by decide)) (by omega)
  have HD21 : Hid (gt31B t2 18 = false → gt31B t1 18 = false → g32B names = false → ∀ W, Up (((w.alloc (.cells #[.slice p1 t1.ps.length c1, .slice q1 t1.ns.length e1] 45)).alloc (.cells #[.slice p2 t2.ps.length c2, .slice q2 t2.ns.length e2] 45)).alloc (.cells #[.slice p3 t3.ps.length c3, .slice q3 t3.ns.length e3] 45)) W → Calls Tryz.prog 52 #[.agg #[.slice p2 t2.ps.length c2, .slice q2 t2.ns.length e2], .agg #[.slice p1 t1.ps.length c1, .slice q1 t1.ns.length e1], .slice np names.length nc] W fun e w' => e = .returned (.tuple #[.int .i64 (dsN t2 t1 names : Int), .int .i64 (dsErr t2 t1 names)]) ∧ Up W w') := fun h h1 h2 W hW => by
    obtain ⟨s1, s2, s3⟩ := gt31_small h (by decide)
    obtain ⟨r1, r2, r3⟩ := gt31_small h1 (by decide)
    obtain ⟨s4, _⟩ := g32_small h2
    exact distance_t Any W _ _ _ t2 t1 names (HT2.out.keep (hW.kept _)) (HT1.out.keep (hW.kept _)) (StrsAt.keep HN.out (hW.kept _)) (by omega) (by omega) (fun k => Nat.le_trans (s3 k) (by decide)) (by omega) (by omega) (fun k => Nat.le_trans (r3 k) (by decide)) (by omega)
  have HD23 : Hid (gt31B t2 18 = false → gt31B t3 18 = false → g32B names = false → ∀ W, Up (((w.alloc (.cells #[.slice p1 t1.ps.length c1, .slice q1 t1.ns.length e1] 45)).alloc (.cells #[.slice p2 t2.ps.length c2, .slice q2 t2.ns.length e2] 45)).alloc (.cells #[.slice p3 t3.ps.length c3, .slice q3 t3.ns.length e3] 45)) W → Calls Tryz.prog 52 #[.agg #[.slice p2 t2.ps.length c2, .slice q2 t2.ns.length e2], .agg #[.slice p3 t3.ps.length c3, .slice q3 t3.ns.length e3], .slice np names.length nc] W fun e w' => e = .returned (.tuple #[.int .i64 (dsN t2 t3 names : Int), .int .i64 (dsErr t2 t3 names)]) ∧ Up W w') := fun h h1 h2 W hW => by
    obtain ⟨s1, s2, s3⟩ := gt31_small h (by decide)
    obtain ⟨r1, r2, r3⟩ := gt31_small h1 (by decide)
    obtain ⟨s4, _⟩ := g32_small h2
    exact distance_t Any W _ _ _ t2 t3 names (HT2.out.keep (hW.kept _)) (HT3.out.keep (hW.kept _)) (StrsAt.keep HN.out (hW.kept _)) (by omega) (by omega) (fun k => Nat.le_trans (s3 k) (by decide)) (by omega) (by omega) (fun k => Nat.le_trans (r3 k) (by decide)) (by omega)
  have HD13 : Hid (gt31B t1 18 = false → gt31B t3 18 = false → g32B names = false → ∀ W, Up (((w.alloc (.cells #[.slice p1 t1.ps.length c1, .slice q1 t1.ns.length e1] 45)).alloc (.cells #[.slice p2 t2.ps.length c2, .slice q2 t2.ns.length e2] 45)).alloc (.cells #[.slice p3 t3.ps.length c3, .slice q3 t3.ns.length e3] 45)) W → Calls Tryz.prog 52 #[.agg #[.slice p1 t1.ps.length c1, .slice q1 t1.ns.length e1], .agg #[.slice p3 t3.ps.length c3, .slice q3 t3.ns.length e3], .slice np names.length nc] W fun e w' => e = .returned (.tuple #[.int .i64 (dsN t1 t3 names : Int), .int .i64 (dsErr t1 t3 names)]) ∧ Up W w') := fun h h1 h2 W hW => by
    obtain ⟨s1, s2, s3⟩ := gt31_small h (by decide)
    obtain ⟨r1, r2, r3⟩ := gt31_small h1 (by decide)
    obtain ⟨s4, _⟩ := g32_small h2
    exact distance_t Any W _ _ _ t1 t3 names (HT1.out.keep (hW.kept _)) (HT3.out.keep (hW.kept _)) (StrsAt.keep HN.out (hW.kept _)) (by omega) (by omega) (fun k => Nat.le_trans (s3 k) (by decide)) (by omega) (by omega) (fun k => Nat.le_trans (r3 k) (by decide)) (by omega)
  have HPL : Hid (∀ t, gt31B t 18 = false → t.ps.length ≤ 66) := fun t h => (gt31_small h (by decide)).1
  clear hP1 hN1 hp1 hn1 hz1 hP2 hN2 hp2 hn2 hz2 hP3 hN3 hp3 hn3 hz3 hV hz hu1 z1 z2 b10 b11 b20 b21 b30 b31
  generalize hx1 : t1.ps.length = x1 at *
  generalize hy1 : t1.ns.length = y1 at *
  have HX1 := Lib.hid hx1
  clear hx1 hy1
  generalize hx2 : t2.ps.length = x2 at *
  generalize hy2 : t2.ns.length = y2 at *
  have HX2 := Lib.hid hx2
  clear hx2 hy2
  generalize hx3 : t3.ps.length = x3 at *
  generalize hy3 : t3.ns.length = y3 at *
  have HX3 := Lib.hid hx3
  clear hx3 hy3
  cases g1 : gt31B t1 18
  case true =>
    rw [g1] at HG1
    clear g1
    go_enter Tryz.func8, Tryz.ntmps8
    go_wp2_with fail
    generalize ((w.alloc (.cells #[.slice p1 x1 c1, .slice q1 y1 e1] 45)).alloc (.cells #[.slice p2 x2 c2, .slice q2 y2 e2] 45)).alloc (.cells #[.slice p3 x3 c3, .slice q3 y3 e3] 45) = w1 at *
    obtain ⟨b10, b11, b20, b21, b30, b31⟩ := HB.out
    clear HB
    have U0 := Lib.hid (Up.refl w1)
    refine (HG1.out w1 U0.out).mono ?_
    rintro e w1_1 ⟨rfl, hu⟩
    have b10 := hu.cell b10
    have b11 := hu.cell b11
    have b20 := hu.cell b20
    have b21 := hu.cell b21
    have b30 := hu.cell b30
    have b31 := hu.cell b31
    have U1 := Lib.hid (U0.out.trans hu)
    clear hu
    go_wp2_with fail
    refine (HAW.out _).mono ?_
    rintro e w' ⟨rfl, hu⟩
    go_wp2_with fail
    go_ret
    exact ⟨rfl, (HU1.out.trans U1.out).trans hu⟩
  have G1 := Lib.hid g1
  rw [g1] at HG1
  clear g1
  cases g2 : gt31B t2 18
  case true =>
    rw [g2] at HG2
    clear g2
    go_enter Tryz.func8, Tryz.ntmps8
    go_wp2_with fail
    generalize ((w.alloc (.cells #[.slice p1 x1 c1, .slice q1 y1 e1] 45)).alloc (.cells #[.slice p2 x2 c2, .slice q2 y2 e2] 45)).alloc (.cells #[.slice p3 x3 c3, .slice q3 y3 e3] 45) = w1 at *
    obtain ⟨b10, b11, b20, b21, b30, b31⟩ := HB.out
    clear HB
    have U0 := Lib.hid (Up.refl w1)
    refine (HG1.out w1 U0.out).mono ?_
    rintro e w1_1 ⟨rfl, hu⟩
    have b10 := hu.cell b10
    have b11 := hu.cell b11
    have b20 := hu.cell b20
    have b21 := hu.cell b21
    have b30 := hu.cell b30
    have b31 := hu.cell b31
    have U1 := Lib.hid (U0.out.trans hu)
    clear hu
    go_wp2_with fail
    refine (HG2.out w1_1 U1.out).mono ?_
    rintro e w1_2 ⟨rfl, hu⟩
    have b10 := hu.cell b10
    have b11 := hu.cell b11
    have b20 := hu.cell b20
    have b21 := hu.cell b21
    have b30 := hu.cell b30
    have b31 := hu.cell b31
    have U2 := Lib.hid (U1.out.trans hu)
    clear hu
    go_wp2_with fail
    refine (HAW.out _).mono ?_
    rintro e w' ⟨rfl, hu⟩
    go_wp2_with fail
    go_ret
    exact ⟨rfl, (HU1.out.trans U2.out).trans hu⟩
  have G2 := Lib.hid g2
  rw [g2] at HG2
  clear g2
  cases g3 : gt31B t3 18
  case true =>
    rw [g3] at HG3
    clear g3
    go_enter Tryz.func8, Tryz.ntmps8
    go_wp2_with fail
    generalize ((w.alloc (.cells #[.slice p1 x1 c1, .slice q1 y1 e1] 45)).alloc (.cells #[.slice p2 x2 c2, .slice q2 y2 e2] 45)).alloc (.cells #[.slice p3 x3 c3, .slice q3 y3 e3] 45) = w1 at *
    obtain ⟨b10, b11, b20, b21, b30, b31⟩ := HB.out
    clear HB
    have U0 := Lib.hid (Up.refl w1)
    refine (HG1.out w1 U0.out).mono ?_
    rintro e w1_1 ⟨rfl, hu⟩
    have b10 := hu.cell b10
    have b11 := hu.cell b11
    have b20 := hu.cell b20
    have b21 := hu.cell b21
    have b30 := hu.cell b30
    have b31 := hu.cell b31
    have U1 := Lib.hid (U0.out.trans hu)
    clear hu
    go_wp2_with fail
    refine (HG2.out w1_1 U1.out).mono ?_
    rintro e w1_2 ⟨rfl, hu⟩
    have b10 := hu.cell b10
    have b11 := hu.cell b11
    have b20 := hu.cell b20
    have b21 := hu.cell b21
    have b30 := hu.cell b30
    have b31 := hu.cell b31
    have U2 := Lib.hid (U1.out.trans hu)
    clear hu
    go_wp2_with fail
    refine (HG3.out w1_2 U2.out).mono ?_
    rintro e w1_3 ⟨rfl, hu⟩
    have b10 := hu.cell b10
    have b11 := hu.cell b11
    have b20 := hu.cell b20
    have b21 := hu.cell b21
    have b30 := hu.cell b30
    have b31 := hu.cell b31
    have U3 := Lib.hid (U2.out.trans hu)
    clear hu
    go_wp2_with fail
    refine (HAW.out _).mono ?_
    rintro e w' ⟨rfl, hu⟩
    go_wp2_with fail
    go_ret
    exact ⟨rfl, (HU1.out.trans U3.out).trans hu⟩
  have G3 := Lib.hid g3
  rw [g3] at HG3
  clear g3
  cases g4 : g32B names
  case true =>
    rw [g4] at HGN
    clear g4
    go_enter Tryz.func8, Tryz.ntmps8
    go_wp2_with fail
    generalize ((w.alloc (.cells #[.slice p1 x1 c1, .slice q1 y1 e1] 45)).alloc (.cells #[.slice p2 x2 c2, .slice q2 y2 e2] 45)).alloc (.cells #[.slice p3 x3 c3, .slice q3 y3 e3] 45) = w1 at *
    obtain ⟨b10, b11, b20, b21, b30, b31⟩ := HB.out
    clear HB
    have U0 := Lib.hid (Up.refl w1)
    refine (HG1.out w1 U0.out).mono ?_
    rintro e w1_1 ⟨rfl, hu⟩
    have b10 := hu.cell b10
    have b11 := hu.cell b11
    have b20 := hu.cell b20
    have b21 := hu.cell b21
    have b30 := hu.cell b30
    have b31 := hu.cell b31
    have U1 := Lib.hid (U0.out.trans hu)
    clear hu
    go_wp2_with fail
    refine (HG2.out w1_1 U1.out).mono ?_
    rintro e w1_2 ⟨rfl, hu⟩
    have b10 := hu.cell b10
    have b11 := hu.cell b11
    have b20 := hu.cell b20
    have b21 := hu.cell b21
    have b30 := hu.cell b30
    have b31 := hu.cell b31
    have U2 := Lib.hid (U1.out.trans hu)
    clear hu
    go_wp2_with fail
    refine (HG3.out w1_2 U2.out).mono ?_
    rintro e w1_3 ⟨rfl, hu⟩
    have b10 := hu.cell b10
    have b11 := hu.cell b11
    have b20 := hu.cell b20
    have b21 := hu.cell b21
    have b30 := hu.cell b30
    have b31 := hu.cell b31
    have U3 := Lib.hid (U2.out.trans hu)
    clear hu
    go_wp2_with fail
    refine (HGN.out w1_3 U3.out).mono ?_
    rintro e w1_4 ⟨rfl, rfl⟩
    go_wp2_with fail
    refine (HAW.out _).mono ?_
    rintro e w' ⟨rfl, hu⟩
    go_wp2_with fail
    go_ret
    exact ⟨rfl, (HU1.out.trans U3.out).trans hu⟩
  have G4 := Lib.hid g4
  rw [g4] at HGN
  clear g4
  by_cases g5 : 9 < names.length
  · have d5 : decide ((9 : Int) < (names.length : Int)) = true := decide_eq_true (by omega)
    clear g5
    go_enter Tryz.func8, Tryz.ntmps8
    go_wp2_with fail
    generalize ((w.alloc (.cells #[.slice p1 x1 c1, .slice q1 y1 e1] 45)).alloc (.cells #[.slice p2 x2 c2, .slice q2 y2 e2] 45)).alloc (.cells #[.slice p3 x3 c3, .slice q3 y3 e3] 45) = w1 at *
    obtain ⟨b10, b11, b20, b21, b30, b31⟩ := HB.out
    clear HB
    have U0 := Lib.hid (Up.refl w1)
    refine (HG1.out w1 U0.out).mono ?_
    rintro e w1_1 ⟨rfl, hu⟩
    have b10 := hu.cell b10
    have b11 := hu.cell b11
    have b20 := hu.cell b20
    have b21 := hu.cell b21
    have b30 := hu.cell b30
    have b31 := hu.cell b31
    have U1 := Lib.hid (U0.out.trans hu)
    clear hu
    go_wp2_with fail
    refine (HG2.out w1_1 U1.out).mono ?_
    rintro e w1_2 ⟨rfl, hu⟩
    have b10 := hu.cell b10
    have b11 := hu.cell b11
    have b20 := hu.cell b20
    have b21 := hu.cell b21
    have b30 := hu.cell b30
    have b31 := hu.cell b31
    have U2 := Lib.hid (U1.out.trans hu)
    clear hu
    go_wp2_with fail
    refine (HG3.out w1_2 U2.out).mono ?_
    rintro e w1_3 ⟨rfl, hu⟩
    have b10 := hu.cell b10
    have b11 := hu.cell b11
    have b20 := hu.cell b20
    have b21 := hu.cell b21
    have b30 := hu.cell b30
    have b31 := hu.cell b31
    have U3 := Lib.hid (U2.out.trans hu)
    clear hu
    go_wp2_with fail
    refine (HGN.out w1_3 U3.out).mono ?_
    rintro e w1_4 ⟨rfl, rfl⟩
    go_wp2_with fail
    refine (HAW.out _).mono ?_
    rintro e w' ⟨rfl, hu⟩
    go_wp2_with fail
    go_ret
    exact ⟨rfl, (HU1.out.trans U3.out).trans hu⟩
  have d5 : decide ((9 : Int) < (names.length : Int)) = false := decide_eq_false (by omega)
  clear g5
  go_enter Tryz.func8, Tryz.ntmps8
  go_wp2_with fail
  generalize ((w.alloc (.cells #[.slice p1 x1 c1, .slice q1 y1 e1] 45)).alloc (.cells #[.slice p2 x2 c2, .slice q2 y2 e2] 45)).alloc (.cells #[.slice p3 x3 c3, .slice q3 y3 e3] 45) = w1 at *
  obtain ⟨b10, b11, b20, b21, b30, b31⟩ := HB.out
  clear HB
  have U0 := Lib.hid (Up.refl w1)
  refine (HG1.out w1 U0.out).mono ?_
  rintro e w1_1 ⟨rfl, hu⟩
  have b10 := hu.cell b10
  have b11 := hu.cell b11
  have b20 := hu.cell b20
  have b21 := hu.cell b21
  have b30 := hu.cell b30
  have b31 := hu.cell b31
  have U1 := Lib.hid (U0.out.trans hu)
  clear hu
  go_wp2_with fail
  refine (HG2.out w1_1 U1.out).mono ?_
  rintro e w1_2 ⟨rfl, hu⟩
  have b10 := hu.cell b10
  have b11 := hu.cell b11
  have b20 := hu.cell b20
  have b21 := hu.cell b21
  have b30 := hu.cell b30
  have b31 := hu.cell b31
  have U2 := Lib.hid (U1.out.trans hu)
  clear hu
  go_wp2_with fail
  refine (HG3.out w1_2 U2.out).mono ?_
  rintro e w1_3 ⟨rfl, hu⟩
  have b10 := hu.cell b10
  have b11 := hu.cell b11
  have b20 := hu.cell b20
  have b21 := hu.cell b21
  have b30 := hu.cell b30
  have b31 := hu.cell b31
  have U3 := Lib.hid (U2.out.trans hu)
  clear hu
  go_wp2_with fail
  refine (HGN.out w1_3 U3.out).mono ?_
  rintro e w1_4 ⟨rfl, rfl⟩
  go_wp2_with fail
  refine (HOF1.out G1.out G4.out w1_3 U3.out).mono ?_
  rintro e w2_1 ⟨hu, r1, rfl, hr⟩
  have HR1 := Lib.hid hr
  clear hr
  have b10 := hu.cell b10
  have b11 := hu.cell b11
  have b20 := hu.cell b20
  have b21 := hu.cell b21
  have b30 := hu.cell b30
  have b31 := hu.cell b31
  have U4 := Lib.hid (U3.out.trans hu)
  clear hu
  go_wp2_with fail
  refine (HOF2.out G2.out G4.out w2_1 U4.out).mono ?_
  rintro e w2_2 ⟨hu, r2, rfl, hr⟩
  have HR2 := Lib.hid hr
  clear hr
  have HR1 := Lib.hid (HR1.out.keep (hu.kept _))
  have b10 := hu.cell b10
  have b11 := hu.cell b11
  have b20 := hu.cell b20
  have b21 := hu.cell b21
  have b30 := hu.cell b30
  have b31 := hu.cell b31
  have U5 := Lib.hid (U4.out.trans hu)
  clear hu
  go_wp2_with fail
  refine (HOF3.out G3.out G4.out w2_2 U5.out).mono ?_
  rintro e w2_3 ⟨hu, r3, rfl, hr⟩
  have HR3 := Lib.hid hr
  clear hr
  have HR1 := Lib.hid (HR1.out.keep (hu.kept _))
  have HR2 := Lib.hid (HR2.out.keep (hu.kept _))
  have b10 := hu.cell b10
  have b11 := hu.cell b11
  have b20 := hu.cell b20
  have b21 := hu.cell b21
  have b30 := hu.cell b30
  have b31 := hu.cell b31
  have U6 := Lib.hid (U5.out.trans hu)
  clear hu

  by_cases h0 : splOErr t1 names = 0 ∧ splOErr t2 names = 0 ∧ splOErr t3 names = 0
  case neg =>
    have d6 := mx_ne (splOErr_nn t1 names) (splOErr_nn t2 names) (splOErr_nn t3 names) h0
    have hmx := fun (W : World) (ts : Array TypeId) (t : TypeId) => run_mx3 W ts t .i64 (splOErr t1 names) (splOErr t2 names) (splOErr t3 names)
    have hmx2 := fun (W : World) (ts : Array TypeId) (t : TypeId) => run_mx3 W ts t .u8 (splOErr t1 names) (splOErr t2 names) (splOErr t3 names)
    clear h0
    generalize splOErr t1 names = z1 at *
    generalize splOErr t2 names = z2 at *
    generalize splOErr t3 names = z3 at *
    go_wp2_with fail
    refine (HAW.out _).mono ?_
    rintro e w' ⟨rfl, hu⟩
    go_wp2_with fail
    go_ret
    exact ⟨rfl, (HU1.out.trans U6.out).trans hu⟩
  obtain ⟨h1, h2, h3⟩ := h0
  have de : ∀ t u, splOErr t names = 0 → splOErr u names = 0 → dsErr t u names = 0 := fun t u a b => by unfold dsErr; rw [if_neg (fun e => e a)]; exact b
  have dn : ∀ t u, splOErr t names = 0 → splOErr u names = 0 → dsN t u names = distN (splO t names) (splO u names) := fun t u a b => by unfold dsN; rw [if_pos (de t u a b)]
  rw [dn t1 t2 h1 h2, de t1 t2 h1 h2] at HD12
  rw [dn t2 t1 h2 h1, de t2 t1 h2 h1, dist_symm] at HD21
  rw [dn t2 t3 h2 h3, de t2 t3 h2 h3] at HD23
  rw [dn t1 t3 h1 h3, de t1 t3 h1 h3] at HD13
  have e0 := dist_zero (splO_strict t1 names) (splO_strict t2 names)
  have e1 := dist_tri (a := splO t1 names) (b := splO t2 names) (c := splO t3 names) (splO_strict t1 names) (splO_strict t3 names)
  have e2 := dist_le (splO t1 names) (splO t2 names)
  have e3 := dist_le (splO t2 names) (splO t3 names)
  have l1 := splO_len t1 names
  have l2 := splO_len t2 names
  have l3 := splO_len t3 names
  have m1 := HPL.out t1 G1.out
  have m2 := HPL.out t2 G2.out
  have m3 := HPL.out t3 G3.out
  have HSL := Lib.hid (fun W (hW : Up w2_3 W) => sameLists_t Any Any W r1 r2 (splO t1 names) (splO t2 names) (HR1.out.keep (hW.kept _)) (HR2.out.keep (hW.kept _)) (by omega) (by omega) (fun k => Nat.le_trans (splO_row t1 names k) (by decide)) (fun k => Nat.le_trans (splO_row t2 names k) (by decide)))
  obtain ⟨rp1, rc1, hrv1, _, _⟩ := rows_open HR1.out
  obtain ⟨rp2, rc2, hrv2, _, _⟩ := rows_open HR2.out
  subst hrv1
  subst hrv2
  rw [h1, h2, h3]
  have hd0 : ((distN (splO t1 names) (splO t2 names) : Int) == 0) = decide (splO t1 names = splO t2 names) := by
    rw [Bool.eq_iff_iff, beq_iff_eq, decide_eq_true_eq, ← e0]; omega
  clear de dn h1 h2 h3 e0
  generalize distN (splO t1 names) (splO t2 names) = a12 at *
  generalize distN (splO t2 names) (splO t3 names) = a23 at *
  generalize distN (splO t1 names) (splO t3 names) = a13 at *
  generalize (splO t1 names).length = l1' at *
  generalize (splO t2 names).length = l2' at *
  generalize (splO t3 names).length = l3' at *
  generalize decide (splO t1 names = splO t2 names) = sm at *
  have f1 : decide ((a13 : Int) ≤ (a12 : Int) + (a23 : Int)) = true := decide_eq_true (by omega)
  have f2 : decide ((a12 : Int) ≤ (l1' : Int) + (l2' : Int)) = true := decide_eq_true (by omega)
  have n1 : (a12 : Int) ≤ 1000 := by omega
  have n2 : (a23 : Int) ≤ 1000 := by omega
  have n3 : (a13 : Int) ≤ 1000 := by omega
  have n4 : (l1' : Int) ≤ 1000 := by omega
  have n5 : (l2' : Int) ≤ 1000 := by omega
  clear e1 e2 e3 l1 l2 l3 m1 m2 m3 HR1 HR2 HR3
  go_wp2_with fail
  have V0 := Lib.hid (Up.refl w2_3)
  refine (HD12.out G1.out G2.out G4.out w2_3 U6.out).mono ?_
  rintro e w3_1 ⟨rfl, hu⟩
  have V1 := Lib.hid (V0.out.trans hu)
  have b10 := hu.cell b10
  have b11 := hu.cell b11
  have b20 := hu.cell b20
  have b21 := hu.cell b21
  have b30 := hu.cell b30
  have b31 := hu.cell b31
  have U7 := Lib.hid (U6.out.trans hu)
  clear hu
  go_wp2_with fail
  refine (HD21.out G2.out G1.out G4.out w3_1 U7.out).mono ?_
  rintro e w3_2 ⟨rfl, hu⟩
  have V2 := Lib.hid (V1.out.trans hu)
  have b10 := hu.cell b10
  have b11 := hu.cell b11
  have b20 := hu.cell b20
  have b21 := hu.cell b21
  have b30 := hu.cell b30
  have b31 := hu.cell b31
  have U8 := Lib.hid (U7.out.trans hu)
  clear hu
  go_wp2_with fail
  refine (HD23.out G2.out G3.out G4.out w3_2 U8.out).mono ?_
  rintro e w3_3 ⟨rfl, hu⟩
  have V3 := Lib.hid (V2.out.trans hu)
  have b10 := hu.cell b10
  have b11 := hu.cell b11
  have b20 := hu.cell b20
  have b21 := hu.cell b21
  have b30 := hu.cell b30
  have b31 := hu.cell b31
  have U9 := Lib.hid (U8.out.trans hu)
  clear hu
  go_wp2_with fail
  refine (HD13.out G1.out G3.out G4.out w3_3 U9.out).mono ?_
  rintro e w3_4 ⟨rfl, hu⟩
  have V4 := Lib.hid (V3.out.trans hu)
  have b10 := hu.cell b10
  have b11 := hu.cell b11
  have b20 := hu.cell b20
  have b21 := hu.cell b21
  have b30 := hu.cell b30
  have b31 := hu.cell b31
  have U10 := Lib.hid (U9.out.trans hu)
  clear hu
  have HS4 := Lib.hid (HSL.out w3_4 V4.out)
  clear HSL
  clear b10 b11 b20 b21 b30 b31
  cases sm
  all_goals
    go_wp2_with fail
    refine HS4.out.mono ?_
    rintro e w4 ⟨rfl, n4', rfl⟩
    go_wp2_with fail
    refine (HAW.out _).mono ?_
    rintro e w' ⟨rfl, hu⟩
    go_wp2_with fail
    go_ret
    exact ⟨rfl, ((HU1.out.trans U10.out).trans (Up.drewN _ n4')).trans hu⟩
end Go.Proofs.YtcbmbhghmfehpaaGreat
