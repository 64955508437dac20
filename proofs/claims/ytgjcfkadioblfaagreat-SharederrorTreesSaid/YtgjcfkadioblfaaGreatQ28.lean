/- The contract of layer 31's reference's SameTree, at trees that are the same. The example of the chapter: three, awake. The example of chapter 35: awake. The plain law of SharederrorSupport: the supports of the different sets. The walk of SharederrorSupport. The walk of SharederrorLeaves. The walk of SharederrorNested. The contracts of layer 35's reference's beyond and GreatNames, of layer 31's reference's Great. -/
import Derived.Test.YtgjcfkadioblfaaGreatQ5
import Derived.Test.YtgjcfkadioblfaaGreatQ9
import Derived.Test.YtgjcfkadioblfaaGreatQ8
import Derived.Test.YtgjcfkadioblfaaGreatQ20
import Derived.Test.YtgjcfkadioblfaaGreatQ21
import Derived.Test.YtgjcfkadioblfaaGreatQ25
import Derived.Test.YtgjcfkadioblfaaGreatQ27
import Derived.Test.YtgjcfkadioblfaaGreatQ13
namespace Go.Proofs.YtgjcfkadioblfaaGreat
open Go.RowKit Go.Deep
set_option maxRecDepth 100000 in
set_option maxHeartbeats 2000000 in
theorem sameTree_yes (S T : Nat → Prop) (w : World) (v u : Value) (t : Tre) (h : TreeAt S w v t) (h2 : TreeAt T w u t) (hp : t.ps.length ≤ 1000000) (hn : t.ns.length ≤ 1000000) :
    Calls Tryz.prog 19 #[v, u] w fun e w' => e = .returned (.bool true) ∧ Up w w' := by
  obtain ⟨P, N, rfl, hP, hN⟩ := h
  obtain ⟨P2, N2, rfl, hP2, hN2⟩ := h2
  obtain ⟨pp, pc, rfl, _, _⟩ := SlAt.open hP
  obtain ⟨np, nc, rfl, _, _⟩ := SlAt.open hN
  obtain ⟨pp2, pc2, rfl, _, _⟩ := SlAt.open hP2
  obtain ⟨np2, nc2, rfl, _, _⟩ := SlAt.open hN2
  have hP : IntsAt S w (.slice pp t.ps.length pc) t.ps := hP
  have hN : StrsAt S w (.slice np t.ns.length nc) t.ns := hN
  have hP2 : IntsAt T w (.slice pp2 t.ps.length pc2) t.ps := hP2
  have hN2 : StrsAt T w (.slice np2 t.ns.length nc2) t.ns := hN2
  have hu1 := Up.alloc w (.cells #[.slice pp t.ps.length pc, .slice np t.ns.length nc] 25)
  have hu2 := Up.alloc (w.alloc (.cells #[.slice pp t.ps.length pc, .slice np t.ns.length nc] 25)) (.cells #[.slice pp2 t.ps.length pc2, .slice np2 t.ns.length nc2] 25)
  have hu := hu1.trans hu2
  have a0 := hu2.cell (box2_0 w (.slice pp t.ps.length pc) (.slice np t.ns.length nc) 25)
  have a1 := hu2.cell (box2_1 w (.slice pp t.ps.length pc) (.slice np t.ns.length nc) 25)
  have b0 := box2_0 (w.alloc (.cells #[.slice pp t.ps.length pc, .slice np t.ns.length nc] 25)) (.slice pp2 t.ps.length pc2) (.slice np2 t.ns.length nc2) 25
  have b1 := box2_1 (w.alloc (.cells #[.slice pp t.ps.length pc, .slice np t.ns.length nc] 25)) (.slice pp2 t.ps.length pc2) (.slice np2 t.ns.length nc2) 25
  rw [World.size_alloc] at b0 b1
  have HP := Lib.hid (IntsAt.keep hP (hu.kept S))
  have HN := Lib.hid (StrsAt.keep hN (hu.kept S))
  have HP2 := Lib.hid (IntsAt.keep hP2 (hu.kept T))
  have HN2 := Lib.hid (StrsAt.keep hN2 (hu.kept T))
  have HU := Lib.hid hu
  have A0 := Lib.hid a0
  have A1 := Lib.hid a1
  have B0' := Lib.hid b0
  have B1' := Lib.hid b1
  have d0 : ((t.ps.length : Int) != (t.ps.length : Int)) = false := by simp
  have d1 : ((t.ns.length : Int) != (t.ns.length : Int)) = false := by simp
  clear hP hN hP2 hN2 hu hu1 hu2
  go_enter Tryz.func19, Tryz.ntmps19
  go_wp2_with fail
  clear a0 a1 b0 b1
  generalize (w.alloc (.cells #[.slice pp t.ps.length pc, .slice np t.ns.length nc] 25)).alloc (.cells #[.slice pp2 t.ps.length pc2, .slice np2 t.ns.length nc2] 25) = w1 at *
  go_loopw [5] (fun i wr => ∃ k : Nat, k ≤ t.ps.length ∧ i = .int .i64 k ∧ Hid (QD w1 wr)) (fun i _ => t.ps.length - (intOf i).toNat)
  case atStart => exact ⟨0, Nat.zero_le _, rfl, QD.refl _⟩
  case round =>
    obtain ⟨k, hk, rfl, hQ⟩ := hrel
    have a0 := hQ.out.up.cell A0.out
    have b0 := hQ.out.up.cell B0'.out
    by_cases hlt : k < t.ps.length
    · obtain ⟨b, off, rfl, hc⟩ := ints_get (IntsAt.keep HP.out (hQ.out.kept S)) hlt
      obtain ⟨b2, off2, rfl, hc2⟩ := ints_get (IntsAt.keep HP2.out (hQ.out.kept T)) hlt
      have i1 : (0 : Int) ≤ (k : Int) := by omega
      have i2 : (k : Int) < (t.ps.length : Int) := by omega
      generalize gi t.ps k = x at *
      have j1 : (x != x) = false := by simp
      go_wp2_with fail
      go_quiet (fail)
      go_wp2_with fail
      go_roundw
      case rel => exact ⟨k + 1, by omega, by go_num, hQ.out.drewN nq⟩
      case measure => simp [intOf]; omega
    · obtain rfl : k = t.ps.length := by omega
      have HQ0 := Lib.hid hQ.out
      clear hlt hk
      go_wp2_with fail
      go_loopw [6] (fun i wr => ∃ k : Nat, k ≤ t.ns.length ∧ i = .int .i64 k ∧ Hid (QD w1 wr)) (fun i _ => t.ns.length - (intOf i).toNat)
      case atStart => exact ⟨0, Nat.zero_le _, rfl, HQ0.out⟩
      case round =>
        obtain ⟨k, hk, rfl, hQ⟩ := hrel
        have a1 := hQ.out.up.cell A1.out
        have b1 := hQ.out.up.cell B1'.out
        by_cases hlt : k < t.ns.length
        · obtain ⟨b, off, rfl, hc⟩ := strs_get (StrsAt.keep HN.out (hQ.out.kept S)) hlt
          obtain ⟨b2, off2, rfl, hc2⟩ := strs_get (StrsAt.keep HN2.out (hQ.out.kept T)) hlt
          have i1 : (0 : Int) ≤ (k : Int) := by omega
          have i2 : (k : Int) < (t.ns.length : Int) := by omega
          generalize gs t.ns k = x at *
          have j1 : (x.toList == x.toList) = true := by simp
          go_wp2_with fail
          go_quiet (fail)
          go_wp2_with fail
          go_roundw
          case rel => exact ⟨k + 1, by omega, by go_num, hQ.out.drewN nq⟩
          case measure => simp [intOf]; omega
        · obtain rfl : k = t.ns.length := by omega
          clear hlt hk
          go_wp2_with fail
          go_ret
          exact ⟨rfl, HU.out.trans hQ.out.up⟩
end Go.Proofs.YtgjcfkadioblfaaGreat
namespace Go.Proofs.YtgjcfkadioblfaaGreat
open Go.RowKit Go.Deep
def t3 : Tre := ⟨[-1, 0, 1, 1, 0], [⟨#[]⟩, ⟨#[]⟩, ⟨#[65]⟩, ⟨#[66]⟩, ⟨#[67]⟩]⟩
def s3 : List Int := [0, 1, 1]
def u2 : List (List Int) := [[0, 1], [1, 0]]
theorem lit_ints (w : World) (cs : Array Value) (T : TypeId) (xs : List Int) (hcs : cs.toList = xs.map (Value.int .i64)) (n : Nat) (hn : n = xs.length) : IntsAt Any (w.alloc (.cells cs T)) (.slice (some ⟨w.heap.size, 0, none⟩) n n) xs := by
  subst hn
  refine ⟨_, _, rfl, Nat.le_refl _, .inr ⟨_, 0, rfl, trivial, fun k hk => ?_⟩⟩
  rw [Nat.zero_add, cell_at_new, ← Array.getElem?_toList, hcs]
  simp [gi, hk]
theorem lit_strs (w : World) (cs : Array Value) (T : TypeId) (xs : List ByteArray) (hcs : cs.toList = xs.map Value.string) (n : Nat) (hn : n = xs.length) : StrsAt Any (w.alloc (.cells cs T)) (.slice (some ⟨w.heap.size, 0, none⟩) n n) xs := by
  subst hn
  refine ⟨_, _, rfl, Nat.le_refl _, .inr ⟨_, 0, rfl, trivial, fun k hk => ?_⟩⟩
  rw [Nat.zero_add, cell_at_new, ← Array.getElem?_toList, hcs]
  simp [gs, hk]
theorem equal_yes (S T : Nat → Prop) (w : World) (v u : Value) (xs ys : List Int) (h : IntsAt S w v xs) (h2 : IntsAt T w u ys) (hn : xs.length ≤ 1000000) (hn2 : ys.length ≤ 1000000) (e : xs = ys) :
    Calls Tryz.prog 20 #[v, u] w (EqPost w true) := by
  have h3 := equal_int_t S T w v u xs ys h h2 hn hn2
  rw [decide_eq_true e] at h3; exact h3
theorem sized3 : Sized t3 s3 u2 := ⟨by decide, by decide, fun k => by
  by_cases h : k < 5
  · have : k = 0 ∨ k = 1 ∨ k = 2 ∨ k = 3 ∨ k = 4 := by omega
    rcases this with rfl | rfl | rfl | rfl | rfl <;> decide
  · simp [gs, t3, List.getElem?_eq_none (by simp; omega : [(⟨#[]⟩ : ByteArray), ⟨#[]⟩, ⟨#[65]⟩, ⟨#[66]⟩, ⟨#[67]⟩].length ≤ k)], by decide, by decide, fun k => by
  by_cases h : k < 2
  · have : k = 0 ∨ k = 1 := by omega
    rcases this with rfl | rfl <;> decide
  · simp [gl, u2, List.getElem?_eq_none (by simp; omega : [[(0 : Int), 1], [1, 0]].length ≤ k)]⟩
theorem par3 : parErr t3 s3 u2 = 0 := by decide +kernel
theorem score3 : scoreN t3 s3 u2 = 1 := by decide +kernel
theorem assign3 : assignN t3 s3 u2 = [1, 1, 0, 1, 1] := by decide +kernel
theorem table3 : tableN t3 s3 u2 = [[2, 1], [1, 1], [0, -1], [-1, 0], [-1, 0]] := by decide +kernel
def ThPost (w : World) (e : Ending) (w' : World) : Prop := Up w w' ∧ ∃ v, e = .returned v ∧ TreeAt Any w' v t3
end Go.Proofs.YtgjcfkadioblfaaGreat
namespace Go.Proofs.YtgjcfkadioblfaaGreat
open Go.RowKit Go.Deep
def nmA : List ByteArray := [⟨#[65]⟩, ⟨#[66]⟩, ⟨#[67]⟩, ⟨#[68]⟩]
def stA : List (List Int) := [[0], [1], [1], [2]]
def gpA : List Grp := [⟨0, 1, [1, 2]⟩, ⟨0, 2, [3]⟩]
def trA : Tre := ⟨[-1, 0, 0, 2, 2, 0], [⟨#[]⟩, ⟨#[65]⟩, ⟨#[]⟩, ⟨#[66]⟩, ⟨#[67]⟩, ⟨#[68]⟩]⟩
deriving instance DecidableEq for Grp
theorem grpA : groupsN stA [0] = gpA := by decide +kernel
theorem grErrA : grErr stA [0] = 0 := by decide +kernel
theorem shErrA : shErr nmA gpA = 0 := by decide +kernel
def rwA : Tre := ⟨[-1, 0, 1, 1, 0, 0], [⟨#[]⟩, ⟨#[]⟩, ⟨#[66]⟩, ⟨#[67]⟩, ⟨#[65]⟩, ⟨#[68]⟩]⟩
theorem rawA : rawT nmA gpA = rwA := by decide +kernel
theorem trErrA : treeErr rwA = 0 := by decide +kernel
theorem canA : canT rwA = trA := by rw [canT_eq2]; decide +kernel
theorem shTreeA : shTree nmA gpA = trA ∧ shRes nmA gpA = 0 := by
  unfold shTree shRes
  rw [shErrA, rawA, trErrA, canA]
  exact ⟨rfl, rfl⟩
theorem get_small {α : Type} {P : α → Prop} {l : List α} {d : α} (h : ∀ x ∈ l, P x) (hd : P d) (k : Nat) : P (l.getD k d) := by
  by_cases hk : k < l.length
  · have : l.getD k d = l[k] := by simp [hk]
    rw [this]; exact h _ (List.getElem_mem hk)
  · have : l.getD k d = d := by simp [show l.length ≤ k by omega]
    rw [this]; exact hd
theorem litA (w : World) : Up w ((((((w.alloc (.cells #[.int .i64 0] 3)).alloc (.cells #[.int .i64 1] 3)).alloc (.cells #[.int .i64 1] 3)).alloc (.cells #[.int .i64 2] 3)).alloc (.cells #[.slice (some ⟨w.heap.size, 0, none⟩) 1 1, .slice (some ⟨w.heap.size + 1, 0, none⟩) 1 1, .slice (some ⟨w.heap.size + 1 + 1, 0, none⟩) 1 1, .slice (some ⟨w.heap.size + 1 + 1 + 1, 0, none⟩) 1 1] 22)).alloc (.cells #[.int .i64 0] 3)) ∧ RowsAt Any ((((((w.alloc (.cells #[.int .i64 0] 3)).alloc (.cells #[.int .i64 1] 3)).alloc (.cells #[.int .i64 1] 3)).alloc (.cells #[.int .i64 2] 3)).alloc (.cells #[.slice (some ⟨w.heap.size, 0, none⟩) 1 1, .slice (some ⟨w.heap.size + 1, 0, none⟩) 1 1, .slice (some ⟨w.heap.size + 1 + 1, 0, none⟩) 1 1, .slice (some ⟨w.heap.size + 1 + 1 + 1, 0, none⟩) 1 1] 22)).alloc (.cells #[.int .i64 0] 3)) (.slice (some ⟨w.heap.size + 1 + 1 + 1 + 1, 0, none⟩) 4 4) stA ∧ IntsAt Any ((((((w.alloc (.cells #[.int .i64 0] 3)).alloc (.cells #[.int .i64 1] 3)).alloc (.cells #[.int .i64 1] 3)).alloc (.cells #[.int .i64 2] 3)).alloc (.cells #[.slice (some ⟨w.heap.size, 0, none⟩) 1 1, .slice (some ⟨w.heap.size + 1, 0, none⟩) 1 1, .slice (some ⟨w.heap.size + 1 + 1, 0, none⟩) 1 1, .slice (some ⟨w.heap.size + 1 + 1 + 1, 0, none⟩) 1 1] 22)).alloc (.cells #[.int .i64 0] 3)) (.slice (some ⟨w.heap.size + 1 + 1 + 1 + 1 + 1, 0, none⟩) 1 1) [0] := by
  refine ⟨((((((Up.alloc _ _).trans (Up.alloc _ _)).trans (Up.alloc _ _)).trans (Up.alloc _ _)).trans (Up.alloc _ _)).trans (Up.alloc _ _)), ⟨fun k => .slice (some ⟨w.heap.size + k, 0, none⟩) 1 1, ⟨_, _, rfl, Nat.le_refl _, .inr ⟨_, 0, rfl, trivial, fun k hk => ?_⟩⟩, fun k hk => ?_⟩, ?_⟩
  · have h2 : k < 4 := hk
    have h := cell_at_new ((((w.alloc (.cells #[.int .i64 0] 3)).alloc (.cells #[.int .i64 1] 3)).alloc (.cells #[.int .i64 1] 3)).alloc (.cells #[.int .i64 2] 3)) #[.slice (some ⟨w.heap.size, 0, none⟩) 1 1, .slice (some ⟨w.heap.size + 1, 0, none⟩) 1 1, .slice (some ⟨w.heap.size + 1 + 1, 0, none⟩) 1 1, .slice (some ⟨w.heap.size + 1 + 1 + 1, 0, none⟩) 1 1] 22 k
    simp only [World.size_alloc] at h
    rw [Nat.zero_add]
    refine (Up.alloc _ _).cell (h.trans ?_)
    have : k = 0 ∨ k = 1 ∨ k = 2 ∨ k = 3 := by omega
    rcases this with rfl | rfl | rfl | rfl <;> rfl
  · have h2 : k < 4 := hk
    have : k = 0 ∨ k = 1 ∨ k = 2 ∨ k = 3 := by omega
    rcases this with rfl | rfl | rfl | rfl
    · have h := lit_ints w #[.int .i64 0] 3 [0] rfl 1 rfl
      try simp only [World.size_alloc] at h
      exact IntsAt.keep h (((((((Up.alloc _ _).trans (Up.alloc _ _)).trans (Up.alloc _ _)).trans (Up.alloc _ _)).trans (Up.alloc _ _))).kept _)
    · have h := lit_ints (w.alloc (.cells #[.int .i64 0] 3)) #[.int .i64 1] 3 [1] rfl 1 rfl
      try simp only [World.size_alloc] at h
      exact IntsAt.keep h ((((((Up.alloc _ _).trans (Up.alloc _ _)).trans (Up.alloc _ _)).trans (Up.alloc _ _))).kept _)
    · have h := lit_ints ((w.alloc (.cells #[.int .i64 0] 3)).alloc (.cells #[.int .i64 1] 3)) #[.int .i64 1] 3 [1] rfl 1 rfl
      try simp only [World.size_alloc] at h
      exact IntsAt.keep h (((((Up.alloc _ _).trans (Up.alloc _ _)).trans (Up.alloc _ _))).kept _)
    · have h := lit_ints (((w.alloc (.cells #[.int .i64 0] 3)).alloc (.cells #[.int .i64 1] 3)).alloc (.cells #[.int .i64 1] 3)) #[.int .i64 2] 3 [2] rfl 1 rfl
      try simp only [World.size_alloc] at h
      exact IntsAt.keep h ((((Up.alloc _ _).trans (Up.alloc _ _))).kept _)
  · have h := lit_ints (((((w.alloc (.cells #[.int .i64 0] 3)).alloc (.cells #[.int .i64 1] 3)).alloc (.cells #[.int .i64 1] 3)).alloc (.cells #[.int .i64 2] 3)).alloc (.cells #[.slice (some ⟨w.heap.size, 0, none⟩) 1 1, .slice (some ⟨w.heap.size + 1, 0, none⟩) 1 1, .slice (some ⟨w.heap.size + 1 + 1, 0, none⟩) 1 1, .slice (some ⟨w.heap.size + 1 + 1 + 1, 0, none⟩) 1 1] 22)) #[.int .i64 0] 3 [0] rfl 1 rfl
    simp only [World.size_alloc] at h
    exact h
theorem litG (w5 : World) : Up w5 (((w5.alloc (.cells #[.int .i64 1, .int .i64 2] 3)).alloc (.cells #[.int .i64 3] 3)).alloc (.cells #[.int .i64 0, .int .i64 1, .slice (some ⟨w5.heap.size, 0, none⟩) 2 2, .int .i64 0, .int .i64 2, .slice (some ⟨w5.heap.size + 1, 0, none⟩) 1 1] 61)) ∧ GrpsAt Any (((w5.alloc (.cells #[.int .i64 1, .int .i64 2] 3)).alloc (.cells #[.int .i64 3] 3)).alloc (.cells #[.int .i64 0, .int .i64 1, .slice (some ⟨w5.heap.size, 0, none⟩) 2 2, .int .i64 0, .int .i64 2, .slice (some ⟨w5.heap.size + 1, 0, none⟩) 1 1] 61)) (.slice (some ⟨w5.heap.size + 1 + 1, 0, none⟩) 2 2) gpA := by
  refine ⟨(((Up.alloc _ _).trans (Up.alloc _ _)).trans (Up.alloc _ _)), _, 2, rfl, Nat.le_refl _, .inr ⟨_, 0, rfl, trivial, fun k hk => ?_⟩⟩
  have h2 : k < 2 := hk
  have h := fun j => cell_at_new ((w5.alloc (.cells #[.int .i64 1, .int .i64 2] 3)).alloc (.cells #[.int .i64 3] 3)) #[.int .i64 0, .int .i64 1, .slice (some ⟨w5.heap.size, 0, none⟩) 2 2, .int .i64 0, .int .i64 2, .slice (some ⟨w5.heap.size + 1, 0, none⟩) 1 1] 61 j
  simp only [World.size_alloc] at h
  have hk2 : k = 0 ∨ k = 1 := by omega
  rcases hk2 with rfl | rfl
  · refine ⟨_, h 0, h 1, h 2, ?_⟩
    exact IntsAt.keep (lit_ints w5 #[.int .i64 1, .int .i64 2] 3 [1, 2] rfl 2 rfl) ((((Up.alloc _ _).trans (Up.alloc _ _))).kept _)
  · refine ⟨_, h 3, h 4, h 5, ?_⟩
    have h3 := lit_ints (w5.alloc (.cells #[.int .i64 1, .int .i64 2] 3)) #[.int .i64 3] 3 [3] rfl 1 rfl
    simp only [World.size_alloc] at h3
    exact IntsAt.keep h3 ((Up.alloc _ _).kept _)
theorem litT (w7 : World) : Up w7 ((w7.alloc (.cells #[.int .i64 (-1), .int .i64 0, .int .i64 0, .int .i64 2, .int .i64 2, .int .i64 0] 3)).alloc (.cells #[.string ⟨#[]⟩, .string ⟨#[65]⟩, .string ⟨#[]⟩, .string ⟨#[66]⟩, .string ⟨#[67]⟩, .string ⟨#[68]⟩] 9)) ∧ TreeAt Any ((w7.alloc (.cells #[.int .i64 (-1), .int .i64 0, .int .i64 0, .int .i64 2, .int .i64 2, .int .i64 0] 3)).alloc (.cells #[.string ⟨#[]⟩, .string ⟨#[65]⟩, .string ⟨#[]⟩, .string ⟨#[66]⟩, .string ⟨#[67]⟩, .string ⟨#[68]⟩] 9)) (.agg #[.slice (some ⟨w7.heap.size, 0, none⟩) 6 6, .slice (some ⟨w7.heap.size + 1, 0, none⟩) 6 6]) trA := by
  have h1 := lit_ints w7 #[.int .i64 (-1), .int .i64 0, .int .i64 0, .int .i64 2, .int .i64 2, .int .i64 0] 3 trA.ps rfl 6 rfl
  have h2 := lit_strs (w7.alloc (.cells #[.int .i64 (-1), .int .i64 0, .int .i64 0, .int .i64 2, .int .i64 2, .int .i64 0] 3)) #[.string ⟨#[]⟩, .string ⟨#[65]⟩, .string ⟨#[]⟩, .string ⟨#[66]⟩, .string ⟨#[67]⟩, .string ⟨#[68]⟩] 9 trA.ns rfl 6 rfl
  simp only [World.size_alloc] at h2
  exact ⟨(Up.alloc _ _).trans (Up.alloc _ _), _, _, rfl, IntsAt.keep h1 ((Up.alloc _ _).kept _), h2⟩
set_option maxRecDepth 100000 in
set_option maxHeartbeats 4000000 in
theorem awake35_t (w : World) : Calls Tryz.prog 11 #[] w fun e w' => e = .returned (.bool true) ∧ Up w w' := by
  obtain ⟨hu1, hr1, hi1⟩ := litA w
  have HU1 := Lib.hid hu1
  have HGR := Lib.hid (groups_t Any _ _ _ stA [0] hr1 hi1 (by decide) (fun k => get_small (P := fun x : List Int => x.length ≤ 1000000) (by decide) (by decide) k) (by decide))
  clear hu1 hr1 hi1
  go_enter Tryz.func11, Tryz.ntmps11
  go_wp2_with fail
  generalize ((((((w.alloc (.cells #[.int .i64 0] 3)).alloc (.cells #[.int .i64 1] 3)).alloc (.cells #[.int .i64 1] 3)).alloc (.cells #[.int .i64 2] 3)).alloc (.cells #[.slice (some ⟨w.heap.size, 0, none⟩) 1 1, .slice (some ⟨w.heap.size + 1, 0, none⟩) 1 1, .slice (some ⟨w.heap.size + 1 + 1, 0, none⟩) 1 1, .slice (some ⟨w.heap.size + 1 + 1 + 1, 0, none⟩) 1 1] 22)).alloc (.cells #[.int .i64 0] 3)) = w0 at *
  refine HGR.out.mono ?_
  rintro e w1 ⟨hu1, gv, rfl, hg1⟩
  rw [grpA] at hg1
  rw [grErrA]
  have HU2 := Lib.hid (HU1.out.trans hu1)
  have hs1 := Up.alloc w1 (.cells #[.string ⟨#[65]⟩, .string ⟨#[66]⟩, .string ⟨#[67]⟩, .string ⟨#[68]⟩] 9)
  have q1 : ∀ k, (gs nmA k).size ≤ 70000 := fun k => get_small (P := fun x : ByteArray => x.size ≤ 70000) (by decide) (by decide) k
  have q2 : ∀ k, (gg gpA k).src.length ≤ 1000000 := fun k => get_small (P := fun x : Grp => x.src.length ≤ 1000000) (by decide) (by decide) k
  have q3 : (rawT nmA gpA).ps.length ≤ 1000000 := by rw [rawA]; decide
  have q4 := lit_strs w1 #[.string ⟨#[65]⟩, .string ⟨#[66]⟩, .string ⟨#[67]⟩, .string ⟨#[68]⟩] 9 nmA rfl 4 rfl
  have HSH := Lib.hid (shTree_t Any (w1.alloc (.cells #[.string ⟨#[65]⟩, .string ⟨#[66]⟩, .string ⟨#[67]⟩, .string ⟨#[68]⟩] 9)) _ _ nmA gpA q4 (hg1.keep (hs1.kept _)) (by decide) q1 (by decide) q2 (fun _ => q3))
  have HG2 := Lib.hid (hg1.keep (hs1.kept Any))
  have HU3 := Lib.hid (HU2.out.trans hs1)
  clear hu1 hg1 hs1 HGR HU1 q1 q2 q3 q4
  go_wp2_with fail
  generalize (w1.alloc (.cells #[.string ⟨#[65]⟩, .string ⟨#[66]⟩, .string ⟨#[67]⟩, .string ⟨#[68]⟩] 9)) = w2 at *
  refine HSH.out.mono ?_
  rintro e w3 ⟨hu3, tv, rfl, ht3⟩
  rw [shTreeA.1] at ht3
  rw [shTreeA.2]
  obtain ⟨P, N, rfl, hP, hN⟩ := ht3
  obtain ⟨pp, pc, rfl, _, _⟩ := SlAt.open hP
  obtain ⟨np, nc, rfl, _, _⟩ := SlAt.open hN
  have HG3 := Lib.hid (HG2.out.keep (hu3.kept _))
  have HT3 : Hid (TreeAt Any w3 (.agg #[.slice pp trA.ps.length pc, .slice np trA.ns.length nc]) trA) := ⟨_, _, rfl, hP, hN⟩
  have HU4 := Lib.hid (HU3.out.trans hu3)
  clear hu3 hP hN HG2 HU3 HSH HU2
  have hu5 := Up.alloc w3 (.cells #[.slice pp trA.ps.length pc, .slice np trA.ns.length nc] 25)
  have b0 := box2_0 w3 (.slice pp trA.ps.length pc) (.slice np trA.ns.length nc) 25
  have b1 := box2_1 w3 (.slice pp trA.ps.length pc) (.slice np trA.ns.length nc) 25
  have HB0 := Lib.hid b0
  have HB1 := Lib.hid b1
  have HG5 := Lib.hid (HG3.out.keep (hu5.kept _))
  have HT5 := Lib.hid (HT3.out.keep (hu5.kept _))
  have HU5 := Lib.hid (HU4.out.trans hu5)
  obtain ⟨gq, gcp, rfl, _⟩ := grps_open HG5.out
  have hsz5 : (w3.alloc (.cells #[.slice pp trA.ps.length pc, .slice np trA.ns.length nc] 25)).heap.size = w3.heap.size + 1 := World.size_alloc _ _
  have HSZ5 := Lib.hid hsz5
  clear hu5 HG3 HT3 HU4 hsz5
  go_wp2_with fail
  generalize w3.alloc (.cells #[.slice pp trA.ps.length pc, .slice np trA.ns.length nc] 25) = w5 at *
  obtain ⟨hu6, hg6⟩ := litG w5
  rw [HSZ5.out] at hu6 hg6
  refine (sameGroups_yes Any Any _ _ _ gpA (HG5.out.keep (hu6.kept _)) hg6 (by decide) (fun k => get_small (P := fun x : Grp => x.src.length ≤ 1000000) (by decide) (by decide) k)).mono ?_
  rintro e w7 ⟨rfl, n7, rfl⟩
  have hu7 := hu6.trans (Up.drewN _ n7)
  have b0 := hu7.cell HB0.out
  have b1 := hu7.cell HB1.out
  have HT7 := Lib.hid (HT5.out.keep (hu7.kept _))
  have HU7 := Lib.hid (HU5.out.trans hu7)
  clear hu6 hg6 hu7 HB0 HB1 HG5 HT5 HU5
  generalize ((((w5.alloc (.cells #[.int .i64 1, .int .i64 2] 3)).alloc (.cells #[.int .i64 3] 3)).alloc (.cells #[.int .i64 0, .int .i64 1, .slice (some ⟨w3.heap.size + 1, 0, none⟩) 2 2, .int .i64 0, .int .i64 2, .slice (some ⟨w3.heap.size + 1 + 1, 0, none⟩) 1 1] 61))).drewN n7 = w7 at *
  go_wp2_with fail
  obtain ⟨hu8, ht8⟩ := litT w7
  refine (sameTree_yes Any Any _ _ _ trA (HT7.out.keep (hu8.kept _)) ht8 (by decide) (by decide)).mono ?_
  rintro e w9 ⟨rfl, hu9⟩
  have HU9 := Lib.hid ((HU7.out.trans hu8).trans hu9)
  clear hu8 ht8 hu9
  go_wp2_with fail
  go_ret
  exact ⟨rfl, HU9.out⟩
end Go.Proofs.YtgjcfkadioblfaaGreat
namespace Go.Proofs.YtgjcfkadioblfaaGreat
open Go.RowKit Go.Deep
/-- The sources of group k did not come before. -/
def newB (l : List Grp) (k : Nat) : Nat → Bool
  | 0 => true
  | j + 1 => newB l k j && !decide ((gg l j).src = (gg l k).src)
theorem newB_iff (l : List Grp) (k : Nat) : ∀ j, newB l k j = true ↔ ∀ i, i < j → (gg l i).src ≠ (gg l k).src
  | 0 => by simp [newB]
  | j + 1 => by
    rw [show newB l k (j + 1) = (newB l k j && !decide ((gg l j).src = (gg l k).src)) from rfl, Bool.and_eq_true, newB_iff l k j, Bool.not_eq_true', decide_eq_false_iff_not]
    constructor
    · rintro ⟨h1, h2⟩ i hi
      by_cases e : i = j
      · subst e; exact h2
      · exact h1 i (by omega)
    · intro h; exact ⟨fun i hi => h i (by omega), h j (by omega)⟩
/-- The sum of the supports of the sets that are new, of the first k groups. -/
def sumS (l : List Grp) : Nat → Nat
  | 0 => 0
  | k + 1 => if newB l k k then sumS l k + supK l (gg l k).src l.length else sumS l k
/-- How many of the n groups have a set that is among the first k. -/
def covK (l : List Grp) (k : Nat) : Nat → Nat
  | 0 => 0
  | n + 1 => covK l k n + if (List.range k).any (fun i => decide ((gg l i).src = (gg l n).src)) then 1 else 0
theorem covK_succ (l : List Grp) (k : Nat) : ∀ n, covK l (k + 1) n = covK l k n + if newB l k k then supK l (gg l k).src n else 0
  | 0 => by simp [covK, supK]
  | n + 1 => by
    have ih := covK_succ l k n
    have e : ((List.range (k + 1)).any fun i => decide ((gg l i).src = (gg l n).src)) = (((List.range k).any fun i => decide ((gg l i).src = (gg l n).src)) || decide ((gg l k).src = (gg l n).src)) := any_succ _ _
    show covK l (k + 1) n + _ = covK l k n + _ + _
    rw [ih, e]
    have hs : supK l (gg l k).src (n + 1) = supK l (gg l k).src n + if (gg l n).src = (gg l k).src then 1 else 0 := rfl
    rw [hs]
    cases hn : newB l k k
    · have : ∃ i, i < k ∧ (gg l i).src = (gg l k).src := by
        refine Classical.byContradiction fun hc => ?_
        have h2 : newB l k k = true := (newB_iff l k k).2 fun i hi he => hc ⟨i, hi, he⟩
        rw [hn] at h2; cases h2
      obtain ⟨i, hi, he⟩ := this
      by_cases h1 : (gg l k).src = (gg l n).src
      · have h2 : ((List.range k).any fun i => decide ((gg l i).src = (gg l n).src)) = true := any_at (p := fun i => decide ((gg l i).src = (gg l n).src)) hi (by simp [he, h1])
        rw [h2]; simp
      · rw [decide_eq_false h1]; simp
    · have hnew := (newB_iff l k k).1 hn
      by_cases h1 : (gg l n).src = (gg l k).src
      · have h2 : ((List.range k).any fun i => decide ((gg l i).src = (gg l n).src)) = false := any_none fun j hj => by
          rw [decide_eq_false_iff_not]; intro e2; exact hnew j hj (e2.trans h1)
        rw [h2, h1, decide_eq_true rfl]; simp; omega
      · have h3 : ¬ (gg l k).src = (gg l n).src := fun e => h1 e.symm
        rw [decide_eq_false h3, if_neg h1]; simp; omega
theorem sumS_cov (l : List Grp) : ∀ k, sumS l k = covK l k l.length
  | 0 => by
    have : ∀ n, covK l 0 n = 0 := fun n => by
      induction n with
      | zero => rfl
      | succ n ih => show covK l 0 n + _ = 0; rw [ih]; simp
    rw [this]; rfl
  | k + 1 => by
    rw [covK_succ l k, ← sumS_cov l k]
    show (if newB l k k then _ else _) = _
    cases newB l k k <;> simp
theorem cov_all (l : List Grp) : ∀ n, n ≤ l.length → covK l l.length n = n
  | 0, _ => rfl
  | n + 1, h => by
    show covK l l.length n + _ = _
    rw [cov_all l n (by omega), if_pos (any_at (p := fun i => decide ((gg l i).src = (gg l n).src)) (by omega : n < l.length) (by simp))]
theorem sumS_all (l : List Grp) : sumS l l.length = l.length := by rw [sumS_cov, cov_all l _ (Nat.le_refl _)]
theorem sumS_mono (l : List Grp) {k : Nat} : ∀ {n : Nat}, k ≤ n → sumS l k ≤ sumS l n
  | 0, h => by obtain rfl : k = 0 := by omega
               exact Nat.le_refl _
  | n + 1, h => by
    by_cases e : k = n + 1
    · subst e; exact Nat.le_refl _
    · refine Nat.le_trans (sumS_mono l (k := k) (n := n) (by omega)) ?_
      show _ ≤ if newB l n n then _ else _
      split <;> omega
theorem supK_pos (l : List Grp) (own : List Int) : ∀ n, 0 < supK l own n ↔ (List.range n).any (fun i => decide ((gg l i).src = own)) = true
  | 0 => by simp [supK]
  | n + 1 => by
    rw [any_succ, Bool.or_eq_true, ← supK_pos l own n, decide_eq_true_eq]
    show 0 < supK l own n + _ ↔ _
    by_cases h : (gg l n).src = own
    · rw [if_pos h]; constructor
      · intro _; exact .inr h
      · intro _; omega
    · rw [if_neg h]; constructor
      · intro h1; exact .inl (by omega)
      · rintro (h1 | h1)
        · omega
        · exact absurd h1 h
end Go.Proofs.YtgjcfkadioblfaaGreat
namespace Go.Proofs.YtgjcfkadioblfaaGreat
open Go.RowKit Go.Deep
theorem grps_take {S : Nat → Prop} {w : World} {p : Option Addr} {n cap : Nat} {l : List Grp} (h : GrpsAt S w (.slice p n cap) l) {k : Nat} (hk : k ≤ l.length) : ∃ cap', k ≤ cap' ∧ cap' = cap := by
  obtain ⟨q, c, e, hn, _⟩ := h
  injection e with e1 e2 e3
  exact ⟨cap, by omega, rfl⟩
end Go.Proofs.YtgjcfkadioblfaaGreat
namespace Go.Proofs.YtgjcfkadioblfaaGreat
open Go.RowKit Go.Deep
theorem flt_take {ns : List ByteArray} {k : Nat} (hk : k < ns.length) : fltN (ns.take (k + 1)) = fltN (ns.take k) ++ if (gs ns k).size = 0 then [] else [gs ns k] := by
  have hg : gs ns k = ns[k] := by simp [gs, hk]
  rw [List.take_succ_eq_append_getElem hk, fltN_app, ← hg]
  congr 1
  unfold fltN
  by_cases h : (gs ns k).size = 0
  · rw [if_pos h, List.filter_cons_of_neg (by simp [h])]; rfl
  · rw [if_neg h, List.filter_cons_of_pos (by simpa using h)]; rfl
theorem cntI_le (ps : List Int) (i : Int) : ∀ k, cntI ps i k ≤ k
  | 0 => Nat.le_refl _
  | k + 1 => by
    have := cntI_le ps i k
    rw [cntI]; split <;> omega
theorem gs_small {n : Nat} {ns : List ByteArray} (h : (fltN ns).Perm (namesA n)) (k : Nat) : (gs ns k).size ≤ 70000 := by
  by_cases hk : k < ns.length
  · by_cases hz : (gs ns k).size = 0
    · omega
    · have h1 : gs ns k ∈ ns := by simp [gs, hk]
      have h2 : gs ns k ∈ fltN ns := List.mem_filter.2 ⟨h1, by simpa using hz⟩
      obtain ⟨i, _, h4⟩ := List.mem_map.1 (h.mem_iff.1 h2)
      rw [← h4]; show 1 ≤ 70000; omega
  · have : gs ns k = ByteArray.empty := by simp [gs, show ns.length ≤ k by omega]
    rw [this]; show 0 ≤ 70000; omega
end Go.Proofs.YtgjcfkadioblfaaGreat
namespace Go.Proofs.YtgjcfkadioblfaaGreat
open Go.RowKit Go.Deep
/-- The last source is no name's number. -/
def lastB (n : Nat) (g : Grp) : Bool := decide ((n : Int) ≤ gi g.src (g.src.length - 1))
theorem last_mx {l : List Int} (h : srcOk l = true) : mxL l = gi l (l.length - 1) := by
  obtain ⟨_, h0, hm⟩ := srcOk_small h
  have asc : ∀ k, k < l.length → ∀ j, j < k → gi l j < gi l k := by
    intro k
    induction k with
    | zero => intro _ j hj; omega
    | succ k ih =>
      intro hk j hj
      have h1 := hm (k + 1) (by omega) hk
      rw [Nat.add_sub_cancel] at h1
      by_cases e : j = k
      · subst e; exact h1
      · have := ih (by omega) j (by omega); omega
  have up : ∀ k, k ≤ l.length → mxK l k ≤ gi l (l.length - 1) := by
    intro k
    induction k with
    | zero =>
      intro _
      show gi l 0 ≤ _
      by_cases e : l.length - 1 = 0
      · rw [e]; omega
      · have := asc (l.length - 1) (by omega) 0 (by omega); omega
    | succ k ih =>
      intro hk
      have h1 := ih (by omega)
      rw [mxK]
      by_cases e : l.length - 1 = k
      · subst e; omega
      · have := asc (l.length - 1) (by omega) k (by omega); omega
  have h1 := up l.length (Nat.le_refl _)
  have h2 := mxK_ge l (show l.length - 1 < l.length by omega)
  unfold mxL; omega
theorem far_last {l : List Grp} (hg : gcErr l = 0) (n : Nat) : farB l n = (List.range l.length).any fun k => lastB n (gg l k) := by
  unfold farB
  rw [Bool.eq_iff_iff, List.any_eq_true, List.any_eq_true]
  constructor
  · rintro ⟨k, hk, h⟩
    refine ⟨k, hk, ?_⟩
    rw [last_mx ((gcErr_zero hg).2 k (List.mem_range.1 hk)).2.2.2] at h; exact h
  · rintro ⟨k, hk, h⟩
    refine ⟨k, hk, ?_⟩
    rw [last_mx ((gcErr_zero hg).2 k (List.mem_range.1 hk)).2.2.2]; exact h
theorem shErr_N {n : Nat} {l : List Grp} (h0 : 0 < n) (hn : n ≤ 10) (hg : gcErr l = 0) (hf : farB l n = false) : shErr (namesA n) l = if cfL l = [] then 0 else 17 := by
  unfold shErr
  have hl := namesA_len n
  rw [if_neg (by omega), if_neg (by omega), if_neg (by rw [namesA_err hn]; simp), if_neg (by rw [hg]; simp), hl, hf]
  by_cases e : cfL l = []
  · rw [if_pos e, if_neg (by simp), if_neg (by simp [e])]
  · rw [if_neg e, if_neg (by simp), if_pos e]
theorem nmLt_num : ∀ i, i < 10 → (nmLt i).size = 1 ∧ lvNum (nmLt i) = (i : Nat) := by decide +kernel
theorem nil_shape {w : World} {v : Value} (h : IntsAt Any w v []) : ∃ q c, v = .slice q 0 c := by
  obtain ⟨q, c, rfl, _⟩ := h
  exact ⟨q, c, rfl⟩
end Go.Proofs.YtgjcfkadioblfaaGreat
namespace Go.Proofs.YtgjcfkadioblfaaGreat
open Go.RowKit Go.Deep
def byB (names : Nat) (l : List Grp) : Bool := (List.range l.length).any fun k => decide ((names : Int) ≤ gi (gg l k).src ((gg l k).src.length - 1))
set_option maxRecDepth 100000 in
set_option maxHeartbeats 2000000 in
theorem beyond_t (S T : Nat → Prop) (w : World) (vn v : Value) (names : List ByteArray) (l : List Grp) (hN : StrsAt T w vn names) (h : GrpsAt S w v l) (hn : l.length ≤ 1000000) (h0 : ∀ k, k < l.length → 0 < (gg l k).src.length) (hr : ∀ k, (gg l k).src.length ≤ 1000000) :
    Calls Tryz.prog 66 #[vn, v] w fun e w' => e = .returned (.bool (byB names.length l)) ∧ QD w w' := by
  obtain ⟨p, cap, rfl, hcap⟩ := grps_open h
  obtain ⟨np, ncap, rfl, hncap, _⟩ := SlAt.open hN
  have HX := Lib.hid h
  have HR := Lib.hid hr
  have H0 := Lib.hid h0
  have HT : Hid (∀ k, k < l.length → decide ((names.length : Int) ≤ gi (gg l k).src ((gg l k).src.length - 1)) = true → byB names.length l = true) := fun k hk hb => any_at hk hb
  have HF : Hid ((∀ k, k < l.length → decide ((names.length : Int) ≤ gi (gg l k).src ((gg l k).src.length - 1)) = false) → byB names.length l = false) := fun hb => any_none hb
  clear h hr h0 hN
  generalize byB names.length l = r at *
  go_enter Tryz.func66, Tryz.ntmps66
  go_wp2_with fail
  go_loopw [5] (fun i wr => ∃ k : Nat, k ≤ l.length ∧ i = .int .i64 k ∧ Hid (QD w wr) ∧ Hid (∀ j, j < k → decide ((names.length : Int) ≤ gi (gg l j).src ((gg l j).src.length - 1)) = false)) (fun i _ => l.length - (intOf i).toNat)
  case atStart => exact ⟨0, Nat.zero_le _, rfl, QD.refl _, fun j hj => absurd hj (Nat.not_lt_zero _)⟩
  case round =>
    obtain ⟨k, hk, rfl, hU, hd⟩ := hrel
    obtain ⟨wo, rfl⟩ : ∃ wo : World, wo = wr := ⟨_, rfl⟩
    by_cases hlt : k < l.length
    · obtain ⟨b, off, rq, rc, rfl, hc0, hc1, hc2, hri⟩ := grps_get (HX.out.keep (hU.out.kept S)) hlt
      have i1 : (0 : Int) ≤ (k : Int) := by omega
      have i2 : (k : Int) < (l.length : Int) := by omega
      have HTK := Lib.hid (HT.out k hlt)
      have HDK : Hid (decide ((names.length : Int) ≤ gi (gg l k).src ((gg l k).src.length - 1)) = false → ∀ j, j < k + 1 → decide ((names.length : Int) ≤ gi (gg l j).src ((gg l j).src.length - 1)) = false) := fun hx j hj => if e : j = k then by subst e; exact hx else hd.out j (by omega)
      have hp0 := H0.out k hlt
      have hpr := HR.out k
      generalize (gg l k).src = src at *
      obtain ⟨b2, off2, rfl, hc3⟩ := ints_get hri (k := src.length - 1) (by omega)
      have k1 : (src.length : Int) - 1 = ((src.length - 1 : Nat) : Int) := by omega
      have k2 : (0 : Int) ≤ ((src.length - 1 : Nat) : Int) := by omega
      have k3 : ((src.length - 1 : Nat) : Int) < (src.length : Int) := by omega
      clear hri hc0 hc1
      generalize gi src (src.length - 1) = y at *
      by_cases h1 : (names.length : Int) ≤ y
      · have e0 : decide ((names.length : Int) ≤ y) = true := by simpa using h1
        have HQ := Lib.hid (HTK.out e0)
        clear h1
        go_wp2_with fail
        go_big_quiet (fail)
        go_wp2_with fail
        go_ret
        exact ⟨ret_bool HQ.out.symm, hU.out.drewN nq⟩
      · have e0 : decide ((names.length : Int) ≤ y) = false := by simpa using h1
        have HQ := Lib.hid (HDK.out e0)
        clear h1
        go_wp2_with fail
        go_big_quiet (fail)
        go_wp2_with fail
        go_roundw
        case rel => exact ⟨k + 1, by omega, by go_num, hU.out.drewN nq, HQ.out⟩
        case measure => simp [intOf]; omega
    · obtain rfl : k = l.length := by omega
      have HQ := Lib.hid (HF.out hd.out)
      clear hlt hk
      go_wp2_with fail
      go_ret
      exact ⟨ret_bool HQ.out.symm, hU.out⟩
def gnB (l : List ByteArray) : Bool := (decide (10 < l.length) && decide (l.length ≤ 32)) || decide (34 < l.length) || (List.range l.length).any fun k => decide (20 < (gs l k).size)
set_option maxRecDepth 100000 in
set_option maxHeartbeats 2000000 in
theorem gnames_t (S : Nat → Prop) (w : World) (v : Value) (l : List ByteArray) (h : StrsAt S w v l) (hn : l.length ≤ 9223372036854775807) (hz : ∀ k, (gs l k).size ≤ 9223372036854775807) :
    Calls Tryz.prog 9 #[v] w fun e w' => e = .returned (.bool (gnB l)) ∧ w = w' := by
  have HX := Lib.hid h
  have HZ := Lib.hid hz
  obtain ⟨p, cap, rfl, hcap, _⟩ := SlAt.open h
  have HE : Hid (gnB l = ((decide (10 < l.length) && decide (l.length ≤ 32)) || decide (34 < l.length) || (List.range l.length).any fun k => decide (20 < (gs l k).size))) := rfl
  clear h hz
  generalize hr : gnB l = r at *
  clear hr
  go_enter Tryz.func9, Tryz.ntmps9
  go_wp2_with fail
  all_goals try (go_ret; exact ⟨ret_bool (by rw [HE.out]; clear HE; symm; simp; omega), rfl⟩)
  all_goals have HT : Hid (∀ k, k < l.length → decide (20 < (gs l k).size) = true → r = true) := fun k hk hb => by rw [HE.out, any_at (p := fun k => decide (20 < (gs l k).size)) hk hb]; simp
  all_goals have HF : Hid ((∀ k, k < l.length → decide (20 < (gs l k).size) = false) → r = false) := fun hb => by rw [HE.out, any_none (p := fun k => decide (20 < (gs l k).size)) hb]; clear HE; simp; omega
  all_goals go_loop [3] (fun i => ∃ k : Nat, k ≤ l.length ∧ i = .int .i64 k ∧ Hid (∀ j, j < k → decide (20 < (gs l j).size) = false)) (fun i => l.length - (intOf i).toNat)
  case atStart => exact ⟨0, Nat.zero_le _, rfl, fun j hj => absurd hj (Nat.not_lt_zero _)⟩
  case atStart => exact ⟨0, Nat.zero_le _, rfl, fun j hj => absurd hj (Nat.not_lt_zero _)⟩
  all_goals
    obtain ⟨k, hk, rfl, hd⟩ := hrel
    by_cases hlt : k < l.length
    · obtain ⟨b, off, rfl, hc⟩ := strs_get HX.out hlt
      have i1 : (0 : Int) ≤ (k : Int) := by omega
      have i2 : (k : Int) < (l.length : Int) := by omega
      have hzk := HZ.out k
      have HTK := Lib.hid (HT.out k hlt)
      have HDK : Hid (decide (20 < (gs l k).size) = false → ∀ j, j < k + 1 → decide (20 < (gs l j).size) = false) := fun hx j hj => if e : j = k then by subst e; exact hx else hd.out j (by omega)
      generalize gs l k = y at *
      by_cases h1 : 20 < y.size
      · have e0 : decide ((20 : Int) < (y.size : Int)) = true := by simp; omega
        have HQ := Lib.hid (HTK.out (by simpa using h1))
        clear h1
        go_wp2_with fail
        go_ret
        exact ⟨ret_bool HQ.out.symm, rfl⟩
      · have e0 : decide ((20 : Int) < (y.size : Int)) = false := by simp; omega
        have HQ := Lib.hid (HDK.out (by simpa using h1))
        clear h1
        go_wp2_with fail
        go_round
        case rel => exact ⟨k + 1, by omega, by go_num, HQ.out⟩
        case measure => simp [intOf]; omega
    · obtain rfl : k = l.length := by omega
      have HQ := Lib.hid (HF.out hd.out)
      clear hlt hk
      go_wp2_with fail
      go_ret
      exact ⟨ret_bool HQ.out.symm, rfl⟩
end Go.Proofs.YtgjcfkadioblfaaGreat
