/- The contract of layer 31's reference's SameTree, at trees that are the same. Canonical trees reckoned by the kernel: the sort of children as an insertion sort. The example of the chapter: three, awake. The example of chapter 35: awake. Great of layer 30; slices.Contains of numbers. Contracts: Great of layer 35, fine, Support, Original, Significant. -/
import Derived.Test.YtkfndaebmbnmaaaQ5
import Derived.Test.YtkfndaebmbnmaaaQ17
import Derived.Test.YtkfndaebmbnmaaaQ4
import Derived.Test.YtkfndaebmbnmaaaQ8
import Derived.Test.YtkfndaebmbnmaaaQ6
import Derived.Test.YtkfndaebmbnmaaaQ18
import Derived.Test.YtkfndaebmbnmaaaQ3
import Derived.Test.YtkfndaebmbnmaaaQ7
namespace Go.Proofs.Ytkfndaebmbnmaaa
open Go.RowKit Go.Deep
set_option maxRecDepth 100000 in
set_option maxHeartbeats 2000000 in
theorem sameTree_yes (S T : Nat → Prop) (w : World) (v u : Value) (t : Tre) (h : TreeAt S w v t) (h2 : TreeAt T w u t) (hp : t.ps.length ≤ 1000000) (hn : t.ns.length ≤ 1000000) :
    Calls Try.prog 37 #[v, u] w fun e w' => e = .returned (.bool true) ∧ Up w w' := by
  obtain ⟨P, N, rfl, hP, hN⟩ := h
  obtain ⟨P2, N2, rfl, hP2, hN2⟩ := h2
  obtain ⟨pp, pc, rfl, _, _⟩ := SlAt.open hP
  obtain ⟨np, nc, rfl, _, _⟩ := SlAt.open hN
  obtain ⟨pp2, pc2, rfl, _, _⟩ := SlAt.open hP2
  obtain ⟨np2, nc2, rfl, _, _⟩ := SlAt.open hN2
  have hP : IntsAt S w (.slice pp t.ps.length pc) t.ps := hP
  have hN : StrsAt S w (.slice np t.ns.length nc) t.ns := hN
  have hP2 : IntsAt T w (.slice pp2 t.ps.length pc2) t.ps := hP2
  have hN2 : StrsAt T w (.slice np2 t.ns.length nc2) t.ns := hN2
  have hu1 := Up.alloc w (.cells #[.slice pp t.ps.length pc, .slice np t.ns.length nc] 55)
  have hu2 := Up.alloc (w.alloc (.cells #[.slice pp t.ps.length pc, .slice np t.ns.length nc] 55)) (.cells #[.slice pp2 t.ps.length pc2, .slice np2 t.ns.length nc2] 55)
  have hu := hu1.trans hu2
  have a0 := hu2.cell (box2_0 w (.slice pp t.ps.length pc) (.slice np t.ns.length nc) 55)
  have a1 := hu2.cell (box2_1 w (.slice pp t.ps.length pc) (.slice np t.ns.length nc) 55)
  have b0 := box2_0 (w.alloc (.cells #[.slice pp t.ps.length pc, .slice np t.ns.length nc] 55)) (.slice pp2 t.ps.length pc2) (.slice np2 t.ns.length nc2) 55
  have b1 := box2_1 (w.alloc (.cells #[.slice pp t.ps.length pc, .slice np t.ns.length nc] 55)) (.slice pp2 t.ps.length pc2) (.slice np2 t.ns.length nc2) 55
  rw [World.size_alloc] at b0 b1
  have HP := Lib.hid (IntsAt.keep hP (hu.kept S))
  have HN := Lib.hid (StrsAt.keep hN (hu.kept S))
  have HP2 := Lib.hid (IntsAt.keep hP2 (hu.kept T))
  have HN2 := Lib.hid (StrsAt.keep hN2 (hu.kept T))
  have HU := Lib.hid hu
  have A0 := Lib.hid a0
  have A1 := Lib.hid a1
  have B0' := Lib.hid b0
  have B1' := Lib.hid b1
  have d0 : ((t.ps.length : Int) != (t.ps.length : Int)) = false := by simp
  have d1 : ((t.ns.length : Int) != (t.ns.length : Int)) = false := by simp
  clear hP hN hP2 hN2 hu hu1 hu2
  go_enter Try.func37, Try.ntmps37
  go_wp2_with fail
  clear a0 a1 b0 b1
  generalize (w.alloc (.cells #[.slice pp t.ps.length pc, .slice np t.ns.length nc] 55)).alloc (.cells #[.slice pp2 t.ps.length pc2, .slice np2 t.ns.length nc2] 55) = w1 at *
  go_loopw [5] (fun i wr => ∃ k : Nat, k ≤ t.ps.length ∧ i = .int .i64 k ∧ Hid (QD w1 wr)) (fun i _ => t.ps.length - (intOf i).toNat)
  case atStart => exact ⟨0, Nat.zero_le _, rfl, QD.refl _⟩
  case round =>
    obtain ⟨k, hk, rfl, hQ⟩ := hrel
    have a0 := hQ.out.up.cell A0.out
    have b0 := hQ.out.up.cell B0'.out
    by_cases hlt : k < t.ps.length
    · obtain ⟨b, off, rfl, hc⟩ := ints_get (IntsAt.keep HP.out (hQ.out.kept S)) hlt
      obtain ⟨b2, off2, rfl, hc2⟩ := ints_get (IntsAt.keep HP2.out (hQ.out.kept T)) hlt
      have i1 : (0 : Int) ≤ (k : Int) := by omega
      have i2 : (k : Int) < (t.ps.length : Int) := by omega
      generalize gi t.ps k = x at *
      have j1 : (x != x) = false := by simp
      go_wp2_with fail
      go_quiet (fail)
      go_wp2_with fail
      go_roundw
      case rel => exact ⟨k + 1, by omega, by go_num, hQ.out.drewN nq⟩
      case measure => simp [intOf]; omega
    · obtain rfl : k = t.ps.length := by omega
      have HQ0 := Lib.hid hQ.out
      clear hlt hk
      go_wp2_with fail
      go_loopw [6] (fun i wr => ∃ k : Nat, k ≤ t.ns.length ∧ i = .int .i64 k ∧ Hid (QD w1 wr)) (fun i _ => t.ns.length - (intOf i).toNat)
      case atStart => exact ⟨0, Nat.zero_le _, rfl, HQ0.out⟩
      case round =>
        obtain ⟨k, hk, rfl, hQ⟩ := hrel
        have a1 := hQ.out.up.cell A1.out
        have b1 := hQ.out.up.cell B1'.out
        by_cases hlt : k < t.ns.length
        · obtain ⟨b, off, rfl, hc⟩ := strs_get (StrsAt.keep HN.out (hQ.out.kept S)) hlt
          obtain ⟨b2, off2, rfl, hc2⟩ := strs_get (StrsAt.keep HN2.out (hQ.out.kept T)) hlt
          have i1 : (0 : Int) ≤ (k : Int) := by omega
          have i2 : (k : Int) < (t.ns.length : Int) := by omega
          generalize gs t.ns k = x at *
          have j1 : (x.toList == x.toList) = true := by simp
          go_wp2_with fail
          go_quiet (fail)
          go_wp2_with fail
          go_roundw
          case rel => exact ⟨k + 1, by omega, by go_num, hQ.out.drewN nq⟩
          case measure => simp [intOf]; omega
        · obtain rfl : k = t.ns.length := by omega
          clear hlt hk
          go_wp2_with fail
          go_ret
          exact ⟨rfl, HU.out.trans hQ.out.up⟩
end Go.Proofs.Ytkfndaebmbnmaaa
namespace Go.Proofs.Ytkfndaebmbnmaaa
deriving instance DecidableEq for Tre
def insB (f : Nat → ByteArray) (a : Nat) : List Nat → List Nat
  | [] => [a]
  | b :: l => if leB f a b then a :: b :: l else b :: insB f a l
def isrt (f : Nat → ByteArray) : List Nat → List Nat
  | [] => []
  | a :: l => insB f a (isrt f l)
theorem insB_split (f : Nat → ByteArray) (a : Nat) (l₂ : List Nat) (h2 : ∀ b ∈ l₂, leB f a b = true) : ∀ l₁ : List Nat, (∀ b ∈ l₁, leB f a b = false) → insB f a (l₁ ++ l₂) = l₁ ++ a :: l₂
  | [], _ => by
    cases l₂ with
    | nil => rfl
    | cons b l => simp only [List.nil_append, insB]; rw [if_pos (h2 b (by simp))]
  | b :: l₁, h1 => by
    simp only [List.cons_append, insB]
    rw [if_neg (by rw [h1 b (by simp)]; decide), insB_split f a l₂ h2 l₁ fun c hc => h1 c (by simp [hc])]
theorem srtBy_eq (f : Nat → ByteArray) : ∀ l, srtBy f l = isrt f l
  | [] => by unfold srtBy; simp [isrt]
  | a :: l => by
    have ih := srtBy_eq f l
    obtain ⟨l₁, l₂, h1, h2, h3⟩ := List.mergeSort_cons (leB_trans f) (leB_total f) a l
    have hs := srtBy_sorted f (a :: l)
    unfold srtBy at hs ih ⊢
    rw [h1] at hs ⊢
    show _ = insB f a (isrt f l)
    rw [← ih, h2]
    refine (insB_split f a l₂ (fun b hb => ?_) l₁ fun b hb => by simpa using h3 b hb).symm
    have h4 := (List.pairwise_append.1 hs).2.1
    exact (List.pairwise_cons.1 h4).1 b hb
def lsD2 (F : Frs) : Nat → Nat → ByteArray
  | 0, i => F.nm i
  | d + 1, i => match isrt (lsD2 F d) (F.kids i) with | [] => F.nm i | k :: _ => lsD2 F d k
theorem lsD_eq (F : Frs) : ∀ d, lsD F d = lsD2 F d
  | 0 => rfl
  | d + 1 => by
    funext i
    show (match srtBy (lsD F d) (F.kids i) with | [] => F.nm i | k :: _ => lsD F d k) = _
    rw [lsD_eq F d, srtBy_eq]; rfl
def lsF2 (F : Frs) (rk : Nat → Nat) (i : Nat) : ByteArray := lsD2 F (rk i) i
theorem lsF_eq2 (F : Frs) (rk : Nat → Nat) : lsF F rk = lsF2 F rk := by
  funext i; unfold lsF lsF2; rw [lsD_eq]
def canF2 (t : Tre) : Frs := { frT t with kids := fun i => if subF (frT t) (rkT t) 0 i then isrt (lsF2 (frT t) (rkT t)) ((frT t).kids i) else (frT t).kids i }
theorem canF_eq2 (t : Tre) : canF t = canF2 t := by
  unfold canF Frs.srt canF2
  rw [lsF_eq2]
  congr 1
  funext i
  show (if (false || subF (frT t) (rkT t) 0 i) = true then _ else _) = _
  rw [Bool.false_or]
  split
  · rw [srtBy_eq]
  · rfl
theorem canT_eq2 (t : Tre) : canT t = treeF (canF2 t) (rkT t) 0 := by unfold canT; rw [canF_eq2]
end Go.Proofs.Ytkfndaebmbnmaaa
namespace Go.Proofs.Ytkfndaebmbnmaaa
open Go.RowKit Go.Deep
def t3 : Tre := ⟨[-1, 0, 1, 1, 0], [⟨#[]⟩, ⟨#[]⟩, ⟨#[65]⟩, ⟨#[66]⟩, ⟨#[67]⟩]⟩
def s3 : List Int := [0, 1, 1]
def u2 : List (List Int) := [[0, 1], [1, 0]]
theorem lit_ints (w : World) (cs : Array Value) (T : TypeId) (xs : List Int) (hcs : cs.toList = xs.map (Value.int .i64)) (n : Nat) (hn : n = xs.length) : IntsAt Any (w.alloc (.cells cs T)) (.slice (some ⟨w.heap.size, 0, none⟩) n n) xs := by
  subst hn
  refine ⟨_, _, rfl, Nat.le_refl _, .inr ⟨_, 0, rfl, trivial, fun k hk => ?_⟩⟩
  rw [Nat.zero_add, cell_at_new, ← Array.getElem?_toList, hcs]
  simp [gi, hk]
theorem lit_strs (w : World) (cs : Array Value) (T : TypeId) (xs : List ByteArray) (hcs : cs.toList = xs.map Value.string) (n : Nat) (hn : n = xs.length) : StrsAt Any (w.alloc (.cells cs T)) (.slice (some ⟨w.heap.size, 0, none⟩) n n) xs := by
  subst hn
  refine ⟨_, _, rfl, Nat.le_refl _, .inr ⟨_, 0, rfl, trivial, fun k hk => ?_⟩⟩
  rw [Nat.zero_add, cell_at_new, ← Array.getElem?_toList, hcs]
  simp [gs, hk]
theorem equal_yes (S T : Nat → Prop) (w : World) (v u : Value) (xs ys : List Int) (h : IntsAt S w v xs) (h2 : IntsAt T w u ys) (hn : xs.length ≤ 1000000) (hn2 : ys.length ≤ 1000000) (e : xs = ys) :
    Calls Try.prog 23 #[v, u] w (EqPost w true) := by
  have h3 := equal_int_t S T w v u xs ys h h2 hn hn2
  rw [decide_eq_true e] at h3; exact h3
theorem sized3 : Sized t3 s3 u2 := ⟨by decide, by decide, fun k => by
  by_cases h : k < 5
  · have : k = 0 ∨ k = 1 ∨ k = 2 ∨ k = 3 ∨ k = 4 := by omega
    rcases this with rfl | rfl | rfl | rfl | rfl <;> decide
  · simp [gs, t3, List.getElem?_eq_none (by simp; omega : [(⟨#[]⟩ : ByteArray), ⟨#[]⟩, ⟨#[65]⟩, ⟨#[66]⟩, ⟨#[67]⟩].length ≤ k)], by decide, by decide, fun k => by
  by_cases h : k < 2
  · have : k = 0 ∨ k = 1 := by omega
    rcases this with rfl | rfl <;> decide
  · simp [gl, u2, List.getElem?_eq_none (by simp; omega : [[(0 : Int), 1], [1, 0]].length ≤ k)]⟩
theorem par3 : parErr t3 s3 u2 = 0 := by decide +kernel
theorem score3 : scoreN t3 s3 u2 = 1 := by decide +kernel
theorem assign3 : assignN t3 s3 u2 = [1, 1, 0, 1, 1] := by decide +kernel
theorem table3 : tableN t3 s3 u2 = [[2, 1], [1, 1], [0, -1], [-1, 0], [-1, 0]] := by decide +kernel
def ThPost (w : World) (e : Ending) (w' : World) : Prop := Up w w' ∧ ∃ v, e = .returned v ∧ TreeAt Any w' v t3
end Go.Proofs.Ytkfndaebmbnmaaa
namespace Go.Proofs.Ytkfndaebmbnmaaa
open Go.RowKit Go.Deep
def nmA : List ByteArray := [⟨#[65]⟩, ⟨#[66]⟩, ⟨#[67]⟩, ⟨#[68]⟩]
def stA : List (List Int) := [[0], [1], [1], [2]]
def gpA : List Grp := [⟨0, 1, [1, 2]⟩, ⟨0, 2, [3]⟩]
def trA : Tre := ⟨[-1, 0, 0, 2, 2, 0], [⟨#[]⟩, ⟨#[65]⟩, ⟨#[]⟩, ⟨#[66]⟩, ⟨#[67]⟩, ⟨#[68]⟩]⟩
deriving instance DecidableEq for Grp
theorem grpA : groupsN stA [0] = gpA := by decide +kernel
theorem grErrA : grErr stA [0] = 0 := by decide +kernel
theorem shErrA : shErr nmA gpA = 0 := by decide +kernel
def rwA : Tre := ⟨[-1, 0, 1, 1, 0, 0], [⟨#[]⟩, ⟨#[]⟩, ⟨#[66]⟩, ⟨#[67]⟩, ⟨#[65]⟩, ⟨#[68]⟩]⟩
theorem rawA : rawT nmA gpA = rwA := by decide +kernel
theorem trErrA : treeErr rwA = 0 := by decide +kernel
theorem canA : canT rwA = trA := by rw [canT_eq2]; decide +kernel
theorem shTreeA : shTree nmA gpA = trA ∧ shRes nmA gpA = 0 := by
  unfold shTree shRes
  rw [shErrA, rawA, trErrA, canA]
  exact ⟨rfl, rfl⟩
theorem get_small {α : Type} {P : α → Prop} {l : List α} {d : α} (h : ∀ x ∈ l, P x) (hd : P d) (k : Nat) : P (l.getD k d) := by
  by_cases hk : k < l.length
  · have : l.getD k d = l[k] := by simp [hk]
    rw [this]; exact h _ (List.getElem_mem hk)
  · have : l.getD k d = d := by simp [show l.length ≤ k by omega]
    rw [this]; exact hd
theorem litA (w : World) : Up w ((((((w.alloc (.cells #[.int .i64 0] 3)).alloc (.cells #[.int .i64 1] 3)).alloc (.cells #[.int .i64 1] 3)).alloc (.cells #[.int .i64 2] 3)).alloc (.cells #[.slice (some ⟨w.heap.size, 0, none⟩) 1 1, .slice (some ⟨w.heap.size + 1, 0, none⟩) 1 1, .slice (some ⟨w.heap.size + 1 + 1, 0, none⟩) 1 1, .slice (some ⟨w.heap.size + 1 + 1 + 1, 0, none⟩) 1 1] 23)).alloc (.cells #[.int .i64 0] 3)) ∧ RowsAt Any ((((((w.alloc (.cells #[.int .i64 0] 3)).alloc (.cells #[.int .i64 1] 3)).alloc (.cells #[.int .i64 1] 3)).alloc (.cells #[.int .i64 2] 3)).alloc (.cells #[.slice (some ⟨w.heap.size, 0, none⟩) 1 1, .slice (some ⟨w.heap.size + 1, 0, none⟩) 1 1, .slice (some ⟨w.heap.size + 1 + 1, 0, none⟩) 1 1, .slice (some ⟨w.heap.size + 1 + 1 + 1, 0, none⟩) 1 1] 23)).alloc (.cells #[.int .i64 0] 3)) (.slice (some ⟨w.heap.size + 1 + 1 + 1 + 1, 0, none⟩) 4 4) stA ∧ IntsAt Any ((((((w.alloc (.cells #[.int .i64 0] 3)).alloc (.cells #[.int .i64 1] 3)).alloc (.cells #[.int .i64 1] 3)).alloc (.cells #[.int .i64 2] 3)).alloc (.cells #[.slice (some ⟨w.heap.size, 0, none⟩) 1 1, .slice (some ⟨w.heap.size + 1, 0, none⟩) 1 1, .slice (some ⟨w.heap.size + 1 + 1, 0, none⟩) 1 1, .slice (some ⟨w.heap.size + 1 + 1 + 1, 0, none⟩) 1 1] 23)).alloc (.cells #[.int .i64 0] 3)) (.slice (some ⟨w.heap.size + 1 + 1 + 1 + 1 + 1, 0, none⟩) 1 1) [0] := by
  refine ⟨((((((Up.alloc _ _).trans (Up.alloc _ _)).trans (Up.alloc _ _)).trans (Up.alloc _ _)).trans (Up.alloc _ _)).trans (Up.alloc _ _)), ⟨fun k => .slice (some ⟨w.heap.size + k, 0, none⟩) 1 1, ⟨_, _, rfl, Nat.le_refl _, .inr ⟨_, 0, rfl, trivial, fun k hk => ?_⟩⟩, fun k hk => ?_⟩, ?_⟩
  · have h2 : k < 4 := hk
    have h := cell_at_new ((((w.alloc (.cells #[.int .i64 0] 3)).alloc (.cells #[.int .i64 1] 3)).alloc (.cells #[.int .i64 1] 3)).alloc (.cells #[.int .i64 2] 3)) #[.slice (some ⟨w.heap.size, 0, none⟩) 1 1, .slice (some ⟨w.heap.size + 1, 0, none⟩) 1 1, .slice (some ⟨w.heap.size + 1 + 1, 0, none⟩) 1 1, .slice (some ⟨w.heap.size + 1 + 1 + 1, 0, none⟩) 1 1] 23 k
    simp only [World.size_alloc] at h
    rw [Nat.zero_add]
    refine (Up.alloc _ _).cell (h.trans ?_)
    have : k = 0 ∨ k = 1 ∨ k = 2 ∨ k = 3 := by omega
    rcases this with rfl | rfl | rfl | rfl <;> rfl
  · have h2 : k < 4 := hk
    have : k = 0 ∨ k = 1 ∨ k = 2 ∨ k = 3 := by omega
    rcases this with rfl | rfl | rfl | rfl
    · have h := lit_ints w #[.int .i64 0] 3 [0] rfl 1 rfl
      try simp only [World.size_alloc] at h
      exact IntsAt.keep h (((((((Up.alloc _ _).trans (Up.alloc _ _)).trans (Up.alloc _ _)).trans (Up.alloc _ _)).trans (Up.alloc _ _))).kept _)
    · have h := lit_ints (w.alloc (.cells #[.int .i64 0] 3)) #[.int .i64 1] 3 [1] rfl 1 rfl
      try simp only [World.size_alloc] at h
      exact IntsAt.keep h ((((((Up.alloc _ _).trans (Up.alloc _ _)).trans (Up.alloc _ _)).trans (Up.alloc _ _))).kept _)
    · have h := lit_ints ((w.alloc (.cells #[.int .i64 0] 3)).alloc (.cells #[.int .i64 1] 3)) #[.int .i64 1] 3 [1] rfl 1 rfl
      try simp only [World.size_alloc] at h
      exact IntsAt.keep h (((((Up.alloc _ _).trans (Up.alloc _ _)).trans (Up.alloc _ _))).kept _)
    · have h := lit_ints (((w.alloc (.cells #[.int .i64 0] 3)).alloc (.cells #[.int .i64 1] 3)).alloc (.cells #[.int .i64 1] 3)) #[.int .i64 2] 3 [2] rfl 1 rfl
      try simp only [World.size_alloc] at h
      exact IntsAt.keep h ((((Up.alloc _ _).trans (Up.alloc _ _))).kept _)
  · have h := lit_ints (((((w.alloc (.cells #[.int .i64 0] 3)).alloc (.cells #[.int .i64 1] 3)).alloc (.cells #[.int .i64 1] 3)).alloc (.cells #[.int .i64 2] 3)).alloc (.cells #[.slice (some ⟨w.heap.size, 0, none⟩) 1 1, .slice (some ⟨w.heap.size + 1, 0, none⟩) 1 1, .slice (some ⟨w.heap.size + 1 + 1, 0, none⟩) 1 1, .slice (some ⟨w.heap.size + 1 + 1 + 1, 0, none⟩) 1 1] 23)) #[.int .i64 0] 3 [0] rfl 1 rfl
    simp only [World.size_alloc] at h
    exact h
theorem litG (w5 : World) : Up w5 (((w5.alloc (.cells #[.int .i64 1, .int .i64 2] 3)).alloc (.cells #[.int .i64 3] 3)).alloc (.cells #[.int .i64 0, .int .i64 1, .slice (some ⟨w5.heap.size, 0, none⟩) 2 2, .int .i64 0, .int .i64 2, .slice (some ⟨w5.heap.size + 1, 0, none⟩) 1 1] 32)) ∧ GrpsAt Any (((w5.alloc (.cells #[.int .i64 1, .int .i64 2] 3)).alloc (.cells #[.int .i64 3] 3)).alloc (.cells #[.int .i64 0, .int .i64 1, .slice (some ⟨w5.heap.size, 0, none⟩) 2 2, .int .i64 0, .int .i64 2, .slice (some ⟨w5.heap.size + 1, 0, none⟩) 1 1] 32)) (.slice (some ⟨w5.heap.size + 1 + 1, 0, none⟩) 2 2) gpA := by
  refine ⟨(((Up.alloc _ _).trans (Up.alloc _ _)).trans (Up.alloc _ _)), _, 2, rfl, Nat.le_refl _, .inr ⟨_, 0, rfl, trivial, fun k hk => ?_⟩⟩
  have h2 : k < 2 := hk
  have h := fun j => cell_at_new ((w5.alloc (.cells #[.int .i64 1, .int .i64 2] 3)).alloc (.cells #[.int .i64 3] 3)) #[.int .i64 0, .int .i64 1, .slice (some ⟨w5.heap.size, 0, none⟩) 2 2, .int .i64 0, .int .i64 2, .slice (some ⟨w5.heap.size + 1, 0, none⟩) 1 1] 32 j
  simp only [World.size_alloc] at h
  have hk2 : k = 0 ∨ k = 1 := by omega
  rcases hk2 with rfl | rfl
  · refine ⟨_, h 0, h 1, h 2, ?_⟩
    exact IntsAt.keep (lit_ints w5 #[.int .i64 1, .int .i64 2] 3 [1, 2] rfl 2 rfl) ((((Up.alloc _ _).trans (Up.alloc _ _))).kept _)
  · refine ⟨_, h 3, h 4, h 5, ?_⟩
    have h3 := lit_ints (w5.alloc (.cells #[.int .i64 1, .int .i64 2] 3)) #[.int .i64 3] 3 [3] rfl 1 rfl
    simp only [World.size_alloc] at h3
    exact IntsAt.keep h3 ((Up.alloc _ _).kept _)
theorem litT (w7 : World) : Up w7 ((w7.alloc (.cells #[.int .i64 (-1), .int .i64 0, .int .i64 0, .int .i64 2, .int .i64 2, .int .i64 0] 3)).alloc (.cells #[.string ⟨#[]⟩, .string ⟨#[65]⟩, .string ⟨#[]⟩, .string ⟨#[66]⟩, .string ⟨#[67]⟩, .string ⟨#[68]⟩] 9)) ∧ TreeAt Any ((w7.alloc (.cells #[.int .i64 (-1), .int .i64 0, .int .i64 0, .int .i64 2, .int .i64 2, .int .i64 0] 3)).alloc (.cells #[.string ⟨#[]⟩, .string ⟨#[65]⟩, .string ⟨#[]⟩, .string ⟨#[66]⟩, .string ⟨#[67]⟩, .string ⟨#[68]⟩] 9)) (.agg #[.slice (some ⟨w7.heap.size, 0, none⟩) 6 6, .slice (some ⟨w7.heap.size + 1, 0, none⟩) 6 6]) trA := by
  have h1 := lit_ints w7 #[.int .i64 (-1), .int .i64 0, .int .i64 0, .int .i64 2, .int .i64 2, .int .i64 0] 3 trA.ps rfl 6 rfl
  have h2 := lit_strs (w7.alloc (.cells #[.int .i64 (-1), .int .i64 0, .int .i64 0, .int .i64 2, .int .i64 2, .int .i64 0] 3)) #[.string ⟨#[]⟩, .string ⟨#[65]⟩, .string ⟨#[]⟩, .string ⟨#[66]⟩, .string ⟨#[67]⟩, .string ⟨#[68]⟩] 9 trA.ns rfl 6 rfl
  simp only [World.size_alloc] at h2
  exact ⟨(Up.alloc _ _).trans (Up.alloc _ _), _, _, rfl, IntsAt.keep h1 ((Up.alloc _ _).kept _), h2⟩
set_option maxRecDepth 100000 in
set_option maxHeartbeats 4000000 in
theorem awake35_t (w : World) : Calls Try.prog 12 #[] w fun e w' => e = .returned (.bool true) ∧ Up w w' := by
  obtain ⟨hu1, hr1, hi1⟩ := litA w
  have HU1 := Lib.hid hu1
  have HGR := Lib.hid (groups_t Any _ _ _ stA [0] hr1 hi1 (by decide) (fun k => get_small (P := fun x : List Int => x.length ≤ 1000000) (by decide) (by decide) k) (by decide))
  clear hu1 hr1 hi1
  go_enter Try.func12, Try.ntmps12
  go_wp2_with fail
  generalize ((((((w.alloc (.cells #[.int .i64 0] 3)).alloc (.cells #[.int .i64 1] 3)).alloc (.cells #[.int .i64 1] 3)).alloc (.cells #[.int .i64 2] 3)).alloc (.cells #[.slice (some ⟨w.heap.size, 0, none⟩) 1 1, .slice (some ⟨w.heap.size + 1, 0, none⟩) 1 1, .slice (some ⟨w.heap.size + 1 + 1, 0, none⟩) 1 1, .slice (some ⟨w.heap.size + 1 + 1 + 1, 0, none⟩) 1 1] 23)).alloc (.cells #[.int .i64 0] 3)) = w0 at *
  refine HGR.out.mono ?_
  rintro e w1 ⟨hu1, gv, rfl, hg1⟩
  rw [grpA] at hg1
  rw [grErrA]
  have HU2 := Lib.hid (HU1.out.trans hu1)
  have hs1 := Up.alloc w1 (.cells #[.string ⟨#[65]⟩, .string ⟨#[66]⟩, .string ⟨#[67]⟩, .string ⟨#[68]⟩] 9)
  have q1 : ∀ k, (gs nmA k).size ≤ 70000 := fun k => get_small (P := fun x : ByteArray => x.size ≤ 70000) (by decide) (by decide) k
  have q2 : ∀ k, (gg gpA k).src.length ≤ 1000000 := fun k => get_small (P := fun x : Grp => x.src.length ≤ 1000000) (by decide) (by decide) k
  have q3 : (rawT nmA gpA).ps.length ≤ 1000000 := by rw [rawA]; decide
  have q4 := lit_strs w1 #[.string ⟨#[65]⟩, .string ⟨#[66]⟩, .string ⟨#[67]⟩, .string ⟨#[68]⟩] 9 nmA rfl 4 rfl
  have HSH := Lib.hid (shTree_t Any (w1.alloc (.cells #[.string ⟨#[65]⟩, .string ⟨#[66]⟩, .string ⟨#[67]⟩, .string ⟨#[68]⟩] 9)) _ _ nmA gpA q4 (hg1.keep (hs1.kept _)) (by decide) q1 (by decide) q2 (fun _ => q3))
  have HG2 := Lib.hid (hg1.keep (hs1.kept Any))
  have HU3 := Lib.hid (HU2.out.trans hs1)
  clear hu1 hg1 hs1 HGR HU1 q1 q2 q3 q4
  go_wp2_with fail
  generalize (w1.alloc (.cells #[.string ⟨#[65]⟩, .string ⟨#[66]⟩, .string ⟨#[67]⟩, .string ⟨#[68]⟩] 9)) = w2 at *
  refine HSH.out.mono ?_
  rintro e w3 ⟨hu3, tv, rfl, ht3⟩
  rw [shTreeA.1] at ht3
  rw [shTreeA.2]
  obtain ⟨P, N, rfl, hP, hN⟩ := ht3
  obtain ⟨pp, pc, rfl, _, _⟩ := SlAt.open hP
  obtain ⟨np, nc, rfl, _, _⟩ := SlAt.open hN
  have HG3 := Lib.hid (HG2.out.keep (hu3.kept _))
  have HT3 : Hid (TreeAt Any w3 (.agg #[.slice pp trA.ps.length pc, .slice np trA.ns.length nc]) trA) := ⟨_, _, rfl, hP, hN⟩
  have HU4 := Lib.hid (HU3.out.trans hu3)
  clear hu3 hP hN HG2 HU3 HSH HU2
  have hu5 := Up.alloc w3 (.cells #[.slice pp trA.ps.length pc, .slice np trA.ns.length nc] 55)
  have b0 := box2_0 w3 (.slice pp trA.ps.length pc) (.slice np trA.ns.length nc) 55
  have b1 := box2_1 w3 (.slice pp trA.ps.length pc) (.slice np trA.ns.length nc) 55
  have HB0 := Lib.hid b0
  have HB1 := Lib.hid b1
  have HG5 := Lib.hid (HG3.out.keep (hu5.kept _))
  have HT5 := Lib.hid (HT3.out.keep (hu5.kept _))
  have HU5 := Lib.hid (HU4.out.trans hu5)
  obtain ⟨gq, gcp, rfl, _⟩ := grps_open HG5.out
  have hsz5 : (w3.alloc (.cells #[.slice pp trA.ps.length pc, .slice np trA.ns.length nc] 55)).heap.size = w3.heap.size + 1 := World.size_alloc _ _
  have HSZ5 := Lib.hid hsz5
  clear hu5 HG3 HT3 HU4 hsz5
  go_wp2_with fail
  generalize w3.alloc (.cells #[.slice pp trA.ps.length pc, .slice np trA.ns.length nc] 55) = w5 at *
  obtain ⟨hu6, hg6⟩ := litG w5
  rw [HSZ5.out] at hu6 hg6
  refine (sameGroups_yes Any Any _ _ _ gpA (HG5.out.keep (hu6.kept _)) hg6 (by decide) (fun k => get_small (P := fun x : Grp => x.src.length ≤ 1000000) (by decide) (by decide) k)).mono ?_
  rintro e w7 ⟨rfl, n7, rfl⟩
  have hu7 := hu6.trans (Up.drewN _ n7)
  have b0 := hu7.cell HB0.out
  have b1 := hu7.cell HB1.out
  have HT7 := Lib.hid (HT5.out.keep (hu7.kept _))
  have HU7 := Lib.hid (HU5.out.trans hu7)
  clear hu6 hg6 hu7 HB0 HB1 HG5 HT5 HU5
  generalize ((((w5.alloc (.cells #[.int .i64 1, .int .i64 2] 3)).alloc (.cells #[.int .i64 3] 3)).alloc (.cells #[.int .i64 0, .int .i64 1, .slice (some ⟨w3.heap.size + 1, 0, none⟩) 2 2, .int .i64 0, .int .i64 2, .slice (some ⟨w3.heap.size + 1 + 1, 0, none⟩) 1 1] 32))).drewN n7 = w7 at *
  go_wp2_with fail
  obtain ⟨hu8, ht8⟩ := litT w7
  refine (sameTree_yes Any Any _ _ _ trA (HT7.out.keep (hu8.kept _)) ht8 (by decide) (by decide)).mono ?_
  rintro e w9 ⟨rfl, hu9⟩
  have HU9 := Lib.hid ((HU7.out.trans hu8).trans hu9)
  clear hu8 ht8 hu9
  go_wp2_with fail
  go_ret
  exact ⟨rfl, HU9.out⟩
end Go.Proofs.Ytkfndaebmbnmaaa
namespace Go.Proofs.Ytkfndaebmbnmaaa
open Go.RowKit Go.Deep
theorem contains_int_t (S : Nat → Prop) (w : World) (v : Value) (xs : List Int) (x : Int) (h : IntsAt S w v xs) (hn : xs.length ≤ 1000000) :
    Calls Try.prog 14 #[v, .int .i64 x] w fun e w' => e = .returned (.bool ((List.range xs.length).any fun j => decide (x = gi xs j))) ∧ w = w' := by
  have hx := firstIx_any (fun j => decide (x = gi xs j)) xs.length
  have HX := Lib.hid hx
  have HI := Lib.hid (index_int_t S w v xs x h hn)
  clear hx h
  go_enter Try.func14, Try.ntmps14
  go_wp2_with fail
  refine HI.out.mono ?_
  rintro e w' ⟨rfl, rfl⟩
  go_wp2_with fail
  go_ret
  exact ⟨ret_bool (by rw [← HX.out]), rfl⟩
theorem any_memI (x : Int) (xs : List Int) : ((List.range xs.length).any fun j => decide (x = gi xs j)) = decide (x ∈ xs) := by
  rw [Bool.eq_iff_iff, List.any_eq_true, decide_eq_true_eq]
  constructor
  · rintro ⟨j, hj, h⟩
    rw [of_decide_eq_true h]; exact gi_mem (List.mem_range.1 hj)
  · intro h
    obtain ⟨j, hj, e⟩ := List.getElem_of_mem h
    exact ⟨j, List.mem_range.2 hj, by simp [gi, hj, e]⟩
def g30At (xs : List (List Int)) (k : Nat) : Bool := (decide (10 < (gl xs k).length) && decide ((gl xs k).length ≤ 4096)) || decide (4098 < (gl xs k).length) || (decide (10 < (gl xs k).length) && decide (1 < k))
def great30B (xs : List (List Int)) : Bool := (List.range xs.length).any (g30At xs) || ((decide (8 < xs.length) && decide (xs.length ≤ 32)) || decide (34 < xs.length))
theorem great30_small {xs : List (List Int)} (h : great30B xs = false) : xs.length ≤ 34 ∧ ∀ k, (gl xs k).length ≤ 4098 := by
  unfold great30B at h
  simp only [Bool.or_eq_false_iff, Bool.and_eq_false_iff, decide_eq_false_iff_not] at h
  refine ⟨by omega, fun k => ?_⟩
  by_cases hk : k < xs.length
  · have := any_false h.1 hk
    unfold g30At at this
    simp only [Bool.or_eq_false_iff, Bool.and_eq_false_iff, decide_eq_false_iff_not] at this
    omega
  · have : gl xs k = [] := by simp [gl, List.getElem?_eq_none (by omega : xs.length ≤ k)]
    rw [this]; simp
set_option maxRecDepth 100000 in
set_option maxHeartbeats 2000000 in
theorem great30_t (S : Nat → Prop) (w : World) (v : Value) (xs : List (List Int)) (h : RowsAt S w v xs) (hn : xs.length ≤ 9223372036854775807) (hr : ∀ k, (gl xs k).length ≤ 9223372036854775807) :
    Calls Try.prog 10 #[v] w fun e w' => e = .returned (.bool (great30B xs)) ∧ w = w' := by
  obtain ⟨p, cap, rfl, hcap, _⟩ := rows_open h
  have H := Lib.hid h
  have HR := Lib.hid hr
  have HG : Hid (great30B xs = ((List.range xs.length).any (g30At xs) || ((decide (8 < xs.length) && decide (xs.length ≤ 32)) || decide (34 < xs.length)))) := rfl
  have HT : Hid (∀ k, k < xs.length → g30At xs k = true → great30B xs = true) := fun k hk hg => by rw [HG.out, any_at hk hg]; rfl
  have HA : Hid (∀ k, g30At xs k = ((decide (10 < (gl xs k).length) && decide ((gl xs k).length ≤ 4096)) || decide (4098 < (gl xs k).length) || (decide (10 < (gl xs k).length) && decide (1 < k)))) := fun _ => rfl
  clear h hr
  go_enter Try.func10, Try.ntmps10
  go_wp2_with fail
  go_loop [3, 4] (fun i _ => ∃ k : Nat, k ≤ xs.length ∧ i = .int .i64 k ∧ Hid (∀ j, j < k → g30At xs j = false)) (fun i _ => xs.length - (intOf i).toNat)
  case atStart => exact ⟨0, Nat.zero_le _, rfl, fun j hj => absurd hj (Nat.not_lt_zero _)⟩
  case round =>
    obtain ⟨k, hk, rfl, hd⟩ := hrel
    by_cases hlt : k < xs.length
    · obtain ⟨b, off, q, c, rfl, hc, _⟩ := rows_get H.out hlt
      have hrk := HR.out k
      have HTK := Lib.hid (HT.out k hlt)
      have HAK := Lib.hid (HA.out k)
      have i1 : (0 : Int) ≤ (k : Int) := by omega
      have i2 : (k : Int) < (xs.length : Int) := by omega
      generalize (gl xs k).length = n at *
      by_cases h1 : 10 < n
      · have d1 : decide ((10 : Int) < (n : Int)) = true := by simp; omega
        by_cases h2 : n ≤ 4096
        · have d2 : decide ((n : Int) ≤ 4096) = true := by simp; omega
          have HQ : Hid (great30B xs = true) := HTK.out (by rw [HAK.out]; simp [h1, h2])
          go_wp2_with fail
          go_ret
          exact ⟨ret_bool HQ.out.symm, rfl⟩
        · have d2 : decide ((n : Int) ≤ 4096) = false := by simp; omega
          by_cases h3 : 4098 < n
          · have d3 : decide ((4098 : Int) < (n : Int)) = true := by simp; omega
            have HQ : Hid (great30B xs = true) := HTK.out (by rw [HAK.out]; simp [h3])
            go_wp2_with fail
            go_ret
            exact ⟨ret_bool HQ.out.symm, rfl⟩
          · have d3 : decide ((4098 : Int) < (n : Int)) = false := by simp; omega
            by_cases h4 : 1 < k
            · have d4 : decide ((1 : Int) < (k : Int)) = true := by simp; omega
              have HQ : Hid (great30B xs = true) := HTK.out (by rw [HAK.out]; simp [h1, h4])
              go_wp2_with fail
              go_ret
              exact ⟨ret_bool HQ.out.symm, rfl⟩
            · have d4 : decide ((1 : Int) < (k : Int)) = false := by simp; omega
              have HQ : Hid (g30At xs k = false) := by unfold Hid; rw [HAK.out]; simp [h2, h3, h4]
              go_wp2_with fail
              go_round
              case rel => exact ⟨k + 1, by omega, by go_num, fun j hj => if e : j = k then by subst e; exact HQ.out else hd.out j (by omega)⟩
              case measure => simp [intOf]; omega
      · have d1 : decide ((10 : Int) < (n : Int)) = false := by simp; omega
        have d3 : decide ((4098 : Int) < (n : Int)) = false := by simp; omega
        have HQ : Hid (g30At xs k = false) := by unfold Hid; rw [HAK.out]; simp [h1]; omega
        go_wp2_with fail
        go_round
        case rel => exact ⟨k + 1, by omega, by go_num, fun j hj => if e : j = k then by subst e; exact HQ.out else hd.out j (by omega)⟩
        case measure => simp [intOf]; omega
    · obtain rfl : k = xs.length := by omega
      have HQ : Hid (great30B xs = ((decide (8 < xs.length) && decide (xs.length ≤ 32)) || decide (34 < xs.length))) := by unfold Hid; rw [HG.out, any_none hd.out]; rfl
      clear hlt hk hd H HR HG HT HA
      generalize xs.length = n at *
      by_cases h1 : 8 < n
      · have d1 : decide ((8 : Int) < (n : Int)) = true := by simp; omega
        by_cases h2 : n ≤ 32
        · have d2 : decide ((n : Int) ≤ 32) = true := by simp; omega
          have HE : Hid (great30B xs = true) := by unfold Hid; rw [HQ.out]; simp [h1, h2]
          go_wp2_with fail
          go_ret
          exact ⟨ret_bool HE.out.symm, rfl⟩
        · have d2 : decide ((n : Int) ≤ 32) = false := by simp; omega
          have HE : Hid (great30B xs = decide ((34 : Int) < (n : Int))) := by unfold Hid; rw [HQ.out, Bool.eq_iff_iff]; simp [h1, h2]; omega
          go_wp2_with fail
          go_ret
          exact ⟨ret_bool HE.out.symm, rfl⟩
      · have d1 : decide ((8 : Int) < (n : Int)) = false := by simp; omega
        have d3 : decide ((34 : Int) < (n : Int)) = false := by simp; omega
        have HE : Hid (great30B xs = false) := by unfold Hid; rw [HQ.out]; simp [h1]; omega
        go_wp2_with fail
        go_ret
        exact ⟨ret_bool HE.out.symm, rfl⟩
end Go.Proofs.Ytkfndaebmbnmaaa
namespace Go.Proofs.Ytkfndaebmbnmaaa
open Go.RowKit Go.Deep
def gr35B (l : List Grp) : Bool := (decide (12 < l.length) && decide (l.length ≤ 256)) || decide (258 < l.length) || (List.range l.length).any fun k => decide (36 < (gg l k).src.length)
theorem gr35_small {l : List Grp} (h : gr35B l = false) : l.length ≤ 258 ∧ ∀ k, (gg l k).src.length ≤ 36 := by
  unfold gr35B at h
  simp only [Bool.or_eq_false_iff, Bool.and_eq_false_iff, decide_eq_false_iff_not] at h
  refine ⟨by omega, fun k => ?_⟩
  by_cases hk : k < l.length
  · have := any_false h.2 hk
    simp at this; omega
  · have : gg l k = ⟨0, 0, []⟩ := by simp [gg, hk]
    rw [this]; simp
set_option maxRecDepth 100000 in
set_option maxHeartbeats 1000000 in
theorem great35_t (S : Nat → Prop) (w : World) (v : Value) (l : List Grp) (h : GrpsAt S w v l) (hn : l.length ≤ 9223372036854775807) (hr : ∀ k, (gg l k).src.length ≤ 9223372036854775807) :
    Calls Try.prog 28 #[v] w fun e w' => e = .returned (.bool (gr35B l)) ∧ w = w' := by
  obtain ⟨p, cap, rfl, hcap⟩ := grps_open h
  have H := Lib.hid h
  have HR := Lib.hid hr
  have HG : Hid (gr35B l = ((decide (12 < l.length) && decide (l.length ≤ 256)) || decide (258 < l.length) || (List.range l.length).any fun k => decide (36 < (gg l k).src.length))) := rfl
  clear h hr
  by_cases c1 : (12 < l.length ∧ l.length ≤ 256) ∨ 258 < l.length
  · have HE : Hid (gr35B l = true) := by unfold Hid; rw [HG.out]; rcases c1 with ⟨a, b⟩ | a <;> simp [*]
    clear HG H HR
    by_cases h1 : 12 < l.length
    · have d1 : decide ((12 : Int) < (l.length : Int)) = true := by simp; omega
      by_cases h2 : l.length ≤ 256
      · have d2 : decide ((l.length : Int) ≤ 256) = true := by simp; omega
        go_enter Try.func28, Try.ntmps28
        go_wp2_with fail
        go_ret
        exact ⟨ret_bool HE.out.symm, rfl⟩
      · have d2 : decide ((l.length : Int) ≤ 256) = false := by simp; omega
        have d3 : decide ((258 : Int) < (l.length : Int)) = true := by simp; omega
        go_enter Try.func28, Try.ntmps28
        go_wp2_with fail
        go_ret
        exact ⟨ret_bool HE.out.symm, rfl⟩
    · omega
  · have hs : l.length ≤ 12 ∨ (256 < l.length ∧ l.length ≤ 258) := by omega
    have HA : Hid (gr35B l = (List.range l.length).any fun k => decide (36 < (gg l k).src.length)) := by
      unfold Hid; rw [HG.out]
      have e1 : (decide (12 < l.length) && decide (l.length ≤ 256)) = false := by simp; omega
      have e2 : decide (258 < l.length) = false := by simp; omega
      rw [e1, e2]; rfl
    have d3 : decide ((258 : Int) < (l.length : Int)) = false := by simp; omega
    have hd12 : ∃ b1 b2 : Bool, decide ((12 : Int) < (l.length : Int)) = b1 ∧ decide ((l.length : Int) ≤ 256) = b2 ∧ (b1 && b2) = false := ⟨_, _, rfl, rfl, by simp; omega⟩
    obtain ⟨b1, b2, d1, d2, d12⟩ := hd12
    have HD12 := Lib.hid d12
    clear HG c1 hs d12
    cases b1
    · go_enter Try.func28, Try.ntmps28
      go_wp2_with fail
      go_loop [3] (fun i => ∃ k : Nat, k ≤ l.length ∧ i = .int .i64 k ∧ Hid (∀ j, j < k → decide (36 < (gg l j).src.length) = false)) (fun i => l.length - (intOf i).toNat)
      case atStart => exact ⟨0, Nat.zero_le _, rfl, fun j hj => absurd hj (Nat.not_lt_zero _)⟩
      case round =>
        obtain ⟨k, hk, rfl, hd⟩ := hrel
        by_cases hlt : k < l.length
        · obtain ⟨b, off, rq, rc, rfl, _, _, hc2, _⟩ := grps_get H.out hlt
          have hrk := HR.out k
          have i1 : (0 : Int) ≤ (k : Int) := by omega
          have i2 : (k : Int) < (l.length : Int) := by omega
          by_cases hb : 36 < (gg l k).src.length
          · have e1 : decide ((36 : Int) < ((gg l k).src.length : Int)) = true := by simp; omega
            have HE : Hid (gr35B l = true) := by unfold Hid; rw [HA.out]; exact any_at (p := fun k => decide (36 < (gg l k).src.length)) hlt (by simpa using hb)
            go_wp2_with fail
            go_ret
            exact ⟨ret_bool HE.out.symm, rfl⟩
          · have e1 : decide ((36 : Int) < ((gg l k).src.length : Int)) = false := by simp; omega
            have HB : Hid (decide (36 < (gg l k).src.length) = false) := decide_eq_false hb
            go_wp2_with fail
            go_round
            case rel => exact ⟨k + 1, by omega, by go_num, fun j hj => if e : j = k then by subst e; exact HB.out else hd.out j (by omega)⟩
            case measure => simp [intOf]; omega
        · obtain rfl : k = l.length := by omega
          have HE : Hid (gr35B l = false) := by unfold Hid; rw [HA.out]; exact any_none hd.out
          clear hlt hk
          go_wp2_with fail
          go_ret
          exact ⟨ret_bool HE.out.symm, rfl⟩
    · cases b2
      · go_enter Try.func28, Try.ntmps28
        go_wp2_with fail
        go_loop [3] (fun i => ∃ k : Nat, k ≤ l.length ∧ i = .int .i64 k ∧ Hid (∀ j, j < k → decide (36 < (gg l j).src.length) = false)) (fun i => l.length - (intOf i).toNat)
        case atStart => exact ⟨0, Nat.zero_le _, rfl, fun j hj => absurd hj (Nat.not_lt_zero _)⟩
        case round =>
          obtain ⟨k, hk, rfl, hd⟩ := hrel
          by_cases hlt : k < l.length
          · obtain ⟨b, off, rq, rc, rfl, _, _, hc2, _⟩ := grps_get H.out hlt
            have hrk := HR.out k
            have i1 : (0 : Int) ≤ (k : Int) := by omega
            have i2 : (k : Int) < (l.length : Int) := by omega
            by_cases hb : 36 < (gg l k).src.length
            · have e1 : decide ((36 : Int) < ((gg l k).src.length : Int)) = true := by simp; omega
              have HE : Hid (gr35B l = true) := by unfold Hid; rw [HA.out]; exact any_at (p := fun k => decide (36 < (gg l k).src.length)) hlt (by simpa using hb)
              go_wp2_with fail
              go_ret
              exact ⟨ret_bool HE.out.symm, rfl⟩
            · have e1 : decide ((36 : Int) < ((gg l k).src.length : Int)) = false := by simp; omega
              have HB : Hid (decide (36 < (gg l k).src.length) = false) := decide_eq_false hb
              go_wp2_with fail
              go_round
              case rel => exact ⟨k + 1, by omega, by go_num, fun j hj => if e : j = k then by subst e; exact HB.out else hd.out j (by omega)⟩
              case measure => simp [intOf]; omega
          · obtain rfl : k = l.length := by omega
            have HE : Hid (gr35B l = false) := by unfold Hid; rw [HA.out]; exact any_none hd.out
            clear hlt hk
            go_wp2_with fail
            go_ret
            exact ⟨ret_bool HE.out.symm, rfl⟩
      · exact absurd HD12.out (by decide)
def fine35B (l : List Grp) : Bool := if 12 < l.length then false else if gr35B l then false else decide (gcErr l = 0)
set_option maxRecDepth 100000 in
set_option maxHeartbeats 1000000 in
theorem fine35_t (S : Nat → Prop) (w : World) (v : Value) (l : List Grp) (h : GrpsAt S w v l) (hn : l.length ≤ 9223372036854775807) (hr : ∀ k, (gg l k).src.length ≤ 9223372036854775807) :
    Calls Try.prog 15 #[v] w fun e w' => e = .returned (.bool (fine35B l)) ∧ Up w w' := by
  obtain ⟨p, cap, rfl, hcap⟩ := grps_open h
  have HG := Lib.hid (great35_t S w _ l h hn hr)
  have HF : Hid (fine35B l = if 12 < l.length then false else if gr35B l then false else decide (gcErr l = 0)) := rfl
  by_cases h1 : 12 < l.length
  · have d1 : decide ((12 : Int) < (l.length : Int)) = true := by simp; omega
    have HE : Hid (fine35B l = false) := by unfold Hid; rw [HF.out, if_pos h1]
    clear h1
    go_enter Try.func15, Try.ntmps15
    go_wp2_with fail
    go_ret
    exact ⟨ret_bool HE.out.symm, Up.refl _⟩
  · have d1 : decide ((12 : Int) < (l.length : Int)) = false := by simp; omega
    cases hg : gr35B l
    · have hsm := gr35_small hg
      have HCF := Lib.hid (conflicts_t S w _ l h (by omega) (fun k => by have := hsm.2 k; omega))
      have HE : Hid (fine35B l = decide (gcErr l = 0)) := by unfold Hid; rw [HF.out, if_neg h1, hg]; rfl
      rw [hg] at HG
      clear h hsm hg h1 hr
      go_enter Try.func15, Try.ntmps15
      go_wp2_with (go_at_call 28; refine HG.out.mono ?_; rintro e w' ⟨rfl, rfl⟩)
      refine HCF.out.mono ?_
      rintro e w' ⟨hu, cv, rfl, _⟩
      go_wp2_with fail
      go_ret
      exact ⟨ret_bool (by rw [HE.out]; simp [Bool.beq_eq_decide_eq]), hu⟩
    · have HE : Hid (fine35B l = false) := by unfold Hid; rw [HF.out, if_neg h1, hg]; rfl
      rw [hg] at HG
      clear hg h1 h hr
      go_enter Try.func15, Try.ntmps15
      go_wp2_with (go_at_call 28; refine HG.out.mono ?_; rintro e w' ⟨rfl, rfl⟩)
      go_ret
      exact ⟨ret_bool HE.out.symm, Up.refl _⟩
theorem fine35_ok {l : List Grp} (h : fine35B l = true) : l.length ≤ 12 ∧ (∀ k, (gg l k).src.length ≤ 36) ∧ gcErr l = 0 := by
  unfold fine35B at h
  split at h
  · cases h
  · split at h
    · cases h
    · rename_i h1 h2
      have := gr35_small (by simpa using h2 : gr35B l = false)
      exact ⟨by omega, this.2, by simpa using h⟩
end Go.Proofs.Ytkfndaebmbnmaaa
