/- The closure of split.Build that finds the least set that holds a leaf. split.Distance. split.Build: what lies in memory while the tree grows. TopErrors: where a pair stands among the conflicts. The example of chapter 32: what each function answers. The walk of split.Build. The helpers of the statements on layer 32: GreatNames, GreatTree, Great, small, four. The example of chapter 32: awake. The example of TopParsimonySum: top33Awake. The example of TopErrors: top35Awake. The closures of TopErrors. -/
import Derived.Test.YtpjijbophjdgaaaGreatQ9
import Derived.Test.YtpjijbophjdgaaaGreatQ44
import Derived.Test.YtpjijbophjdgaaaGreatQ40
import Derived.Test.YtpjijbophjdgaaaGreatQ8
import Derived.Test.YtpjijbophjdgaaaGreatQ10
import Derived.Test.YtpjijbophjdgaaaGreatQ47
import Derived.Test.YtpjijbophjdgaaaGreatQ41
import Derived.Test.YtpjijbophjdgaaaGreatQ45
import Derived.Test.YtpjijbophjdgaaaGreatQ30
import Derived.Test.YtpjijbophjdgaaaGreatQ38
import Derived.Test.YtpjijbophjdgaaaGreatQ13
import Derived.Test.YtpjijbophjdgaaaGreatQ28
import Derived.Test.YtpjijbophjdgaaaGreatQ43
import Derived.Test.YtpjijbophjdgaaaGreatQ46
import Derived.Test.YtpjijbophjdgaaaGreatQ34
import Derived.Test.YtpjijbophjdgaaaGreatQ39
import Derived.Test.YtpjijbophjdgaaaGreatQ32
import Derived.Test.YtpjijbophjdgaaaGreatQ15
import Derived.Deep.RegionHeld3
import Derived.Test.YtpjijbophjdgaaaGreatQ18
import Derived.Test.YtpjijbophjdgaaaGreatQ11
namespace Go.Proofs.YtpjijbophjdgaaaGreat
open Go.RowKit Go.Deep
end Go.Proofs.YtpjijbophjdgaaaGreat
namespace Go.Proofs.YtpjijbophjdgaaaGreat
open Go.RowKit Go.Deep
theorem splO_row (t : Tre) (names : List ByteArray) (k : Nat) : (gl (splO t names) k).length ≤ 64 := by
  by_cases hk : k < (splO t names).length
  · by_cases he : splOErr t names = 0
    · have ho := splO_ok.1 he
      have := ((of_bld ho).spl _ (gl_in hk)).len
      have := ho.le
      omega
    · unfold splO at hk
      rw [if_neg he] at hk
      exact absurd hk (Nat.not_lt_zero _)
  · simp [gl, show (splO t names).length ≤ k by omega]
end Go.Proofs.YtpjijbophjdgaaaGreat
namespace Go.Proofs.YtpjijbophjdgaaaGreat
open Go.RowKit Go.Deep
section
variable {tb r o n : Nat} {W X : World} {P N P' N' ov nv nv' : Value} {own : List (List Int)} {nds : List Int}
end
end Go.Proofs.YtpjijbophjdgaaaGreat
namespace Go.Proofs.YtpjijbophjdgaaaGreat
theorem cfRow_pre (l : List Grp) (i : Nat) {j : Nat} : ∀ {m : Nat}, j ≤ m → ∃ r, cfRow l i m = cfRow l i j ++ r
  | 0, h => by
    obtain rfl : j = 0 := by omega
    exact ⟨[], (List.append_nil _).symm⟩
  | m + 1, h => by
    by_cases e : j = m + 1
    · exact ⟨[], by subst e; simp⟩
    · obtain ⟨r, hr⟩ := cfRow_pre l i (show j ≤ m by omega)
      exact ⟨r ++ (if i < m ∧ cfB l i m = true then [[(i : Int), (m : Int)]] else []), by rw [cfRow_succ, hr, List.append_assoc]⟩
theorem cfK_pre (l : List Grp) {k : Nat} : ∀ {m : Nat}, k ≤ m → ∃ r, cfK l m = cfK l k ++ r
  | 0, h => by
    obtain rfl : k = 0 := by omega
    exact ⟨[], (List.append_nil _).symm⟩
  | m + 1, h => by
    by_cases e : k = m + 1
    · exact ⟨[], by subst e; simp⟩
    · obtain ⟨r, hr⟩ := cfK_pre l (show k ≤ m by omega)
      exact ⟨r ++ cfRow l m l.length, by rw [cfK_succ, hr, List.append_assoc]⟩
theorem cf_at {l : List Grp} {k j : Nat} (hk : k < j) (hj : j < l.length) (hc : cfB l k j = true) :
    (cfK l k).length + (cfRow l k j).length < (cfK l l.length).length ∧ gl (cfK l l.length) ((cfK l k).length + (cfRow l k j).length) = [(k : Int), (j : Int)] := by
  obtain ⟨r, hr⟩ := cfK_pre l (show k + 1 ≤ l.length by omega)
  obtain ⟨q, hq⟩ := cfRow_pre l k (show j + 1 ≤ l.length by omega)
  rw [cfRow_succ, if_pos ⟨hk, hc⟩] at hq
  have e : cfK l l.length = (cfK l k ++ cfRow l k j) ++ ([(k : Int), (j : Int)] :: (q ++ r)) := by
    rw [hr, cfK_succ, hq]; simp
  rw [e]
  constructor
  · simp
  · have e2 : (cfK l k).length + (cfRow l k j).length = (cfK l k ++ cfRow l k j).length := by rw [List.length_append]
    rw [e2]
    simp [gl]
theorem mem_cfK {l : List Grp} {p : List Int} {m : Nat} (h : p ∈ cfK l m) : ∃ a b : Nat, a < m ∧ b < l.length ∧ p = [(a : Int), (b : Int)] ∧ cfB l a b = true := by
  unfold cfK at h
  obtain ⟨a, ha, h⟩ := List.mem_flatMap.1 h
  unfold cfRow at h
  obtain ⟨b, hb, rfl⟩ := List.mem_map.1 h
  obtain ⟨hb1, hb2⟩ := List.mem_filter.1 hb
  exact ⟨a, b, List.mem_range.1 ha, List.mem_range.1 hb1, rfl, by simp at hb2; exact hb2.2⟩
section
variable {names : List ByteArray} {l : List Grp}
theorem TeOk.off (h : TeOk names l) {i : Nat} (hi : i < l.length) (hf : (names.length : Int) - 2 < ((gg l i).src.length : Int)) {m : Nat} (hm : m < (cfL l).length) :
    ∃ a b : Int, gl (cfL l) m = [a, b] ∧ a ≠ i ∧ b ≠ i := by
  have e : cfL l = cfK l l.length := by unfold cfL; rw [if_pos h.gc]
  rw [e] at hm ⊢
  obtain ⟨a, b, ha, hb, hp, hc⟩ := mem_cfK (gl_in hm)
  refine ⟨a, b, hp, fun q => ?_, fun q => ?_⟩
  · have : a = i := by omega
    subst this
    rw [(h.free hi hb hf).1] at hc; cases hc
  · have : b = i := by omega
    subst this
    rw [(h.free hi ha hf).2] at hc; cases hc
theorem TeOk.row0 (h : TeOk names l) {i : Nat} (hi : i < l.length) (hf : (names.length : Int) - 2 < ((gg l i).src.length : Int)) (m : Nat) (hm : m ≤ l.length) : cfRow l i m = [] := by
  unfold cfRow
  rw [List.map_eq_nil_iff, List.filter_eq_nil_iff]
  intro j hj
  have hj := List.mem_range.1 hj
  rw [(h.free hi (show j < l.length by omega) hf).1]
  simp
theorem TeOk.rowF (h : TeOk names l) {i j : Nat} (hi : i < l.length) (hj : j < l.length) (hf : (names.length : Int) - 2 < ((gg l j).src.length : Int)) : cfRow l i (j + 1) = cfRow l i j := by
  rw [cfRow_succ, if_neg (fun q => by rw [(h.free hj hi hf).2] at q; cases q.2), List.append_nil]
theorem TeOk.cp (h : TeOk names l) {i j : Nat} (hi : i < l.length) (hj : j < l.length) (fi : ¬ (names.length : Int) - 2 < ((gg l i).src.length : Int)) (fj : ¬ (names.length : Int) - 2 < ((gg l j).src.length : Int)) :
    cpErr names.length (gg l i).src (gg l j).src = 0 ∧ cpB names.length (gg l i).src (gg l j).src = !cfB l i j := by
  have e1 := splErr_zero.2 (h.spl hi fi)
  have e2 := splErr_zero.2 (h.spl hj fj)
  have e3 : cpErr names.length (gg l i).src (gg l j).src = 0 := by unfold cpErr; rw [if_neg (by rw [e1]; decide), e2]
  refine ⟨e3, ?_⟩
  unfold cpB
  rw [e3, h.conf hi hj]; simp
theorem TeOk.cfL_eq (h : TeOk names l) : cfL l = cfK l l.length := by unfold cfL; rw [if_pos h.gc]
end
theorem nm35_ok {n : Nat} (h2 : 2 ≤ n) (h8 : n ≤ 8) : (∀ k, k < n → namedB (gs (namesA n) k).data.toList = true) ∧ ∀ k, k < n → ∀ j, j < k → gs (namesA n) k ≠ gs (namesA n) j := by
  have : n = 2 ∨ n = 3 ∨ n = 4 ∨ n = 5 ∨ n = 6 ∨ n = 7 ∨ n = 8 := by omega
  rcases this with rfl | rfl | rfl | rfl | rfl | rfl | rfl <;> decide +kernel
theorem nm35_small {n : Nat} : ∀ k, (gs (namesA n) k).size ≤ 70000 := fun k => by
  by_cases hk : k < n
  · have : gs (namesA n) k = nmLt k := by simp [gs, namesA, hk]
    rw [this]; exact (show 1 ≤ 70000 by decide)
  · have : gs (namesA n) k = ByteArray.empty := by simp [gs, namesA, hk]
    rw [this]; exact (show 0 ≤ 70000 by decide)
end Go.Proofs.YtpjijbophjdgaaaGreat
namespace Go.Proofs.YtpjijbophjdgaaaGreat
end Go.Proofs.YtpjijbophjdgaaaGreat
namespace Go.Proofs.YtpjijbophjdgaaaGreat
open Go.RowKit Go.Deep
end Go.Proofs.YtpjijbophjdgaaaGreat
namespace Go.Proofs.YtpjijbophjdgaaaGreat
open Go.RowKit Go.Deep
end Go.Proofs.YtpjijbophjdgaaaGreat
namespace Go.Proofs.YtpjijbophjdgaaaGreat
open Go.RowKit Go.Deep
@[go_sem high] theorem run_max7z (w : World) (ts : Array TypeId) (t : TypeId) (k : IntKind) : (Builtin.max_ ts t #[.int k 0, .int k 0, .int k 0, .int k 0, .int k 0, .int k 0, .int k 0]).run Tryz.prog w = .ok (.int k 0) w := by
  simp [Builtin.max_, Builtin.max2]
end Go.Proofs.YtpjijbophjdgaaaGreat
namespace Go.Proofs.YtpjijbophjdgaaaGreat
open Go.RowKit Go.Deep
end Go.Proofs.YtpjijbophjdgaaaGreat
namespace Go.Proofs.YtpjijbophjdgaaaGreat
open Go.RowKit Go.Deep
def nmE : List ByteArray := [⟨#[65]⟩, ⟨#[66]⟩, ⟨#[67]⟩, ⟨#[68]⟩]
def stE : List (List Int) := [[0, 0], [1, 0], [1, 1], [1, 1]]
def gpE : List Grp := [⟨0, 1, [1, 2, 3]⟩, ⟨1, 1, [2, 3]⟩]
def trE : Tre := ⟨[-1, 0, 0, 2, 2, 4, 4], [⟨#[]⟩, ⟨#[65]⟩, ⟨#[]⟩, ⟨#[66]⟩, ⟨#[]⟩, ⟨#[67]⟩, ⟨#[68]⟩]⟩
theorem grpE : (groupsN stE [0, 0]).length = 2 ∧ gg (groupsN stE [0, 0]) 0 = ⟨0, 1, [1, 2, 3]⟩ ∧ gg (groupsN stE [0, 0]) 1 = ⟨1, 1, [2, 3]⟩ := by
  refine ⟨by decide +kernel, ?_, ?_⟩ <;> rfl
theorem grpE' : groupsN stE [0, 0] = gpE := by
  obtain ⟨h1, h2, h3⟩ := grpE
  match h : groupsN stE [0, 0], h1, h2, h3 with
  | [a, b], _, h2, h3 =>
    have e2 : a = ⟨0, 1, [1, 2, 3]⟩ := h2
    have e3 : b = ⟨1, 1, [2, 3]⟩ := h3
    rw [e2, e3]; rfl
theorem grErrE : grErr stE [0, 0] = 0 := by decide +kernel
theorem shErrE : shErr nmE gpE = 0 := by decide +kernel
theorem rawE : treeErr (rawT nmE gpE) = 0 ∧ (rawT nmE gpE).ps.length ≤ 1000000 := by decide +kernel
theorem canE : canT (rawT nmE gpE) = trE := by rw [canT_eq2]; decide +kernel
theorem shTreeE : shTree nmE gpE = trE ∧ shRes nmE gpE = 0 := by
  unfold shTree shRes
  rw [shErrE, rawE.1, canE]
  exact ⟨rfl, rfl⟩
theorem ofE : splOErr trE nmE = 0 ∧ splO trE nmE = [[2, 3]] := by decide +kernel
theorem get_smallE {α : Type} {P : α → Prop} {l : List α} {d : α} (h : ∀ x ∈ l, P x) (hd : P d) (k : Nat) : P (l.getD k d) := by
  by_cases hk : k < l.length
  · have : l.getD k d = l[k] := by simp [hk]
    rw [this]; exact h _ (List.getElem_mem hk)
  · have : l.getD k d = d := by simp [show l.length ≤ k by omega]
    rw [this]; exact hd
theorem trE_small : ∀ k, (gs trE.ns k).size ≤ 70000 := fun k => get_smallE (P := fun x : ByteArray => x.size ≤ 70000) (by decide) (by decide) k
theorem litE (w : World) : Up w ((((((w.alloc (.cells #[.int .i64 0, .int .i64 0] 3)).alloc (.cells #[.int .i64 1, .int .i64 0] 3)).alloc (.cells #[.int .i64 1, .int .i64 1] 3)).alloc (.cells #[.int .i64 1, .int .i64 1] 3)).alloc (.cells #[.slice (some ⟨w.heap.size, 0, none⟩) 2 2, .slice (some ⟨w.heap.size + 1, 0, none⟩) 2 2, .slice (some ⟨w.heap.size + 1 + 1, 0, none⟩) 2 2, .slice (some ⟨w.heap.size + 1 + 1 + 1, 0, none⟩) 2 2] 26)).alloc (.cells #[.int .i64 0, .int .i64 0] 3)) ∧ RowsAt Any ((((((w.alloc (.cells #[.int .i64 0, .int .i64 0] 3)).alloc (.cells #[.int .i64 1, .int .i64 0] 3)).alloc (.cells #[.int .i64 1, .int .i64 1] 3)).alloc (.cells #[.int .i64 1, .int .i64 1] 3)).alloc (.cells #[.slice (some ⟨w.heap.size, 0, none⟩) 2 2, .slice (some ⟨w.heap.size + 1, 0, none⟩) 2 2, .slice (some ⟨w.heap.size + 1 + 1, 0, none⟩) 2 2, .slice (some ⟨w.heap.size + 1 + 1 + 1, 0, none⟩) 2 2] 26)).alloc (.cells #[.int .i64 0, .int .i64 0] 3)) (.slice (some ⟨w.heap.size + 1 + 1 + 1 + 1, 0, none⟩) 4 4) stE ∧ IntsAt Any ((((((w.alloc (.cells #[.int .i64 0, .int .i64 0] 3)).alloc (.cells #[.int .i64 1, .int .i64 0] 3)).alloc (.cells #[.int .i64 1, .int .i64 1] 3)).alloc (.cells #[.int .i64 1, .int .i64 1] 3)).alloc (.cells #[.slice (some ⟨w.heap.size, 0, none⟩) 2 2, .slice (some ⟨w.heap.size + 1, 0, none⟩) 2 2, .slice (some ⟨w.heap.size + 1 + 1, 0, none⟩) 2 2, .slice (some ⟨w.heap.size + 1 + 1 + 1, 0, none⟩) 2 2] 26)).alloc (.cells #[.int .i64 0, .int .i64 0] 3)) (.slice (some ⟨w.heap.size + 1 + 1 + 1 + 1 + 1, 0, none⟩) 2 2) [0, 0] := by
  refine ⟨((((((Up.alloc _ _).trans (Up.alloc _ _)).trans (Up.alloc _ _)).trans (Up.alloc _ _)).trans (Up.alloc _ _)).trans (Up.alloc _ _)), ⟨fun k => .slice (some ⟨w.heap.size + k, 0, none⟩) 2 2, ⟨_, _, rfl, Nat.le_refl _, .inr ⟨_, 0, rfl, trivial, fun k hk => ?_⟩⟩, fun k hk => ?_⟩, ?_⟩
  · have h2 : k < 4 := hk
    have h := cell_at_new ((((w.alloc (.cells #[.int .i64 0, .int .i64 0] 3)).alloc (.cells #[.int .i64 1, .int .i64 0] 3)).alloc (.cells #[.int .i64 1, .int .i64 1] 3)).alloc (.cells #[.int .i64 1, .int .i64 1] 3)) #[.slice (some ⟨w.heap.size, 0, none⟩) 2 2, .slice (some ⟨w.heap.size + 1, 0, none⟩) 2 2, .slice (some ⟨w.heap.size + 1 + 1, 0, none⟩) 2 2, .slice (some ⟨w.heap.size + 1 + 1 + 1, 0, none⟩) 2 2] 26 k
    simp only [World.size_alloc] at h
    rw [Nat.zero_add]
    refine (Up.alloc _ _).cell (h.trans ?_)
    have : k = 0 ∨ k = 1 ∨ k = 2 ∨ k = 3 := by omega
    rcases this with rfl | rfl | rfl | rfl <;> rfl
  · have h2 : k < 4 := hk
    have : k = 0 ∨ k = 1 ∨ k = 2 ∨ k = 3 := by omega
    rcases this with rfl | rfl | rfl | rfl
    · have h := lit_ints w #[.int .i64 0, .int .i64 0] 3 [0, 0] rfl 2 rfl
      try simp only [World.size_alloc] at h
      exact IntsAt.keep h ((((((Up.alloc _ _).trans (Up.alloc _ _)).trans (Up.alloc _ _)).trans (Up.alloc _ _)).trans (Up.alloc _ _)).kept _)
    · have h := lit_ints (w.alloc (.cells #[.int .i64 0, .int .i64 0] 3)) #[.int .i64 1, .int .i64 0] 3 [1, 0] rfl 2 rfl
      try simp only [World.size_alloc] at h
      exact IntsAt.keep h (((((Up.alloc _ _).trans (Up.alloc _ _)).trans (Up.alloc _ _)).trans (Up.alloc _ _)).kept _)
    · have h := lit_ints ((w.alloc (.cells #[.int .i64 0, .int .i64 0] 3)).alloc (.cells #[.int .i64 1, .int .i64 0] 3)) #[.int .i64 1, .int .i64 1] 3 [1, 1] rfl 2 rfl
      try simp only [World.size_alloc] at h
      exact IntsAt.keep h ((((Up.alloc _ _).trans (Up.alloc _ _)).trans (Up.alloc _ _)).kept _)
    · have h := lit_ints (((w.alloc (.cells #[.int .i64 0, .int .i64 0] 3)).alloc (.cells #[.int .i64 1, .int .i64 0] 3)).alloc (.cells #[.int .i64 1, .int .i64 1] 3)) #[.int .i64 1, .int .i64 1] 3 [1, 1] rfl 2 rfl
      try simp only [World.size_alloc] at h
      exact IntsAt.keep h (((Up.alloc _ _).trans (Up.alloc _ _)).kept _)
  · have h := lit_ints (((((w.alloc (.cells #[.int .i64 0, .int .i64 0] 3)).alloc (.cells #[.int .i64 1, .int .i64 0] 3)).alloc (.cells #[.int .i64 1, .int .i64 1] 3)).alloc (.cells #[.int .i64 1, .int .i64 1] 3)).alloc (.cells #[.slice (some ⟨w.heap.size, 0, none⟩) 2 2, .slice (some ⟨w.heap.size + 1, 0, none⟩) 2 2, .slice (some ⟨w.heap.size + 1 + 1, 0, none⟩) 2 2, .slice (some ⟨w.heap.size + 1 + 1 + 1, 0, none⟩) 2 2] 26)) #[.int .i64 0, .int .i64 0] 3 [0, 0] rfl 2 rfl
    simp only [World.size_alloc] at h
    exact h
set_option maxRecDepth 100000 in
set_option maxHeartbeats 4000000 in
theorem awake35T_t (w : World) : Calls Tryz.prog 10 #[] w fun e w' => e = .returned (.bool true) ∧ Up w w' := by
  obtain ⟨hu1, hr1, hi1⟩ := litE w
  have HU1 := Lib.hid hu1
  have HGR := Lib.hid (groups_t Any _ _ _ stE [0, 0] hr1 hi1 (by decide) (fun k => get_smallE (P := fun x : List Int => x.length ≤ 1000000) (by decide) (by decide) k) (by decide))
  clear hu1 hr1 hi1
  go_enter Tryz.func10, Tryz.ntmps10
  go_wp2_with fail
  generalize ((((((w.alloc (.cells #[.int .i64 0, .int .i64 0] 3)).alloc (.cells #[.int .i64 1, .int .i64 0] 3)).alloc (.cells #[.int .i64 1, .int .i64 1] 3)).alloc (.cells #[.int .i64 1, .int .i64 1] 3)).alloc (.cells #[.slice (some ⟨w.heap.size, 0, none⟩) 2 2, .slice (some ⟨w.heap.size + 1, 0, none⟩) 2 2, .slice (some ⟨w.heap.size + 1 + 1, 0, none⟩) 2 2, .slice (some ⟨w.heap.size + 1 + 1 + 1, 0, none⟩) 2 2] 26)).alloc (.cells #[.int .i64 0, .int .i64 0] 3)) = w0 at *
  refine HGR.out.mono ?_
  rintro e w1 ⟨hu1, gv, rfl, hg1⟩
  rw [grpE'] at hg1
  rw [grErrE]
  obtain ⟨gq, gcp, rfl, _⟩ := grps_open hg1
  rw [show gpE.length = 2 from rfl] at hg1 ⊢
  have HU2 := Lib.hid (HU1.out.trans hu1)
  have hs1 := Up.alloc w1 (.cells #[.string ⟨#[65]⟩, .string ⟨#[66]⟩, .string ⟨#[67]⟩, .string ⟨#[68]⟩] 9)
  have q1 : ∀ k, (gs nmE k).size ≤ 70000 := fun k => get_smallE (P := fun x : ByteArray => x.size ≤ 70000) (by decide) (by decide) k
  have q2 : ∀ k, (gg gpE k).src.length ≤ 1000000 := fun k => get_smallE (P := fun x : Grp => x.src.length ≤ 1000000) (by decide) (by decide) k
  have q4 := lit_strs w1 #[.string ⟨#[65]⟩, .string ⟨#[66]⟩, .string ⟨#[67]⟩, .string ⟨#[68]⟩] 9 nmE rfl 4 rfl
  have HSH := Lib.hid (shTree_t Any (w1.alloc (.cells #[.string ⟨#[65]⟩, .string ⟨#[66]⟩, .string ⟨#[67]⟩, .string ⟨#[68]⟩] 9)) _ _ nmE gpE q4 (hg1.keep (hs1.kept _)) (by decide) q1 (by decide) q2 (fun _ => rawE.2))
  have HU3 := Lib.hid (HU2.out.trans hs1)
  clear hu1 hg1 hs1 HGR HU1 q2 q4
  go_wp2_with fail
  generalize (w1.alloc (.cells #[.string ⟨#[65]⟩, .string ⟨#[66]⟩, .string ⟨#[67]⟩, .string ⟨#[68]⟩] 9)) = w2 at *
  refine HSH.out.mono ?_
  rintro e w3 ⟨hu3, tv, rfl, ht3⟩
  rw [shTreeE.1] at ht3
  rw [shTreeE.2]
  obtain ⟨P, N, rfl, hP, hN⟩ := ht3
  obtain ⟨pp, pc, rfl, _, _⟩ := SlAt.open hP
  obtain ⟨np, nc, rfl, _, _⟩ := SlAt.open hN
  have HP3 : Hid (IntsAt Any w3 (.slice pp 7 pc) trE.ps) := hP
  have HN3 : Hid (StrsAt Any w3 (.slice np 7 nc) trE.ns) := hN
  have HU4 := Lib.hid (HU3.out.trans hu3)
  clear hu3 hP hN HU3 HSH HU2
  have hu5 := Up.alloc w3 (.cells #[.slice pp 7 pc, .slice np 7 nc] 45)
  have b0 := box2_0 w3 (.slice pp 7 pc) (.slice np 7 nc) 45
  have b1 := box2_1 w3 (.slice pp 7 pc) (.slice np 7 nc) 45
  have HT5 : Hid (TreeAt Any (w3.alloc (.cells #[.slice pp 7 pc, .slice np 7 nc] 45)) (.agg #[.slice pp 7 pc, .slice np 7 nc]) trE) := TreeAt.keep ⟨_, _, rfl, HP3.out, HN3.out⟩ (hu5.kept _)
  have HU5 := Lib.hid (HU4.out.trans hu5)
  have hsz5 : (w3.alloc (.cells #[.slice pp 7 pc, .slice np 7 nc] 45)).heap.size = w3.heap.size + 1 := World.size_alloc _ _
  have HSZ5 := Lib.hid hsz5
  clear hu5 HU4 hsz5 HP3 HN3
  rw [show trE.ps.length = 7 from rfl, show trE.ns.length = 7 from rfl]
  go_wp2_with fail
  generalize w3.alloc (.cells #[.slice pp 7 pc, .slice np 7 nc] 45) = w5 at *
  have hl4 := lit_strs w5 #[.string ⟨#[65]⟩, .string ⟨#[66]⟩, .string ⟨#[67]⟩, .string ⟨#[68]⟩] 9 nmE rfl 4 rfl
  rw [HSZ5.out] at hl4
  have hu6 := Up.alloc w5 (.cells #[.string ⟨#[65]⟩, .string ⟨#[66]⟩, .string ⟨#[67]⟩, .string ⟨#[68]⟩] 9)
  refine (splOf_t Any _ _ _ trE nmE (HT5.out.keep (hu6.kept _)) hl4 (by decide) (by decide) trE_small (by decide)).mono ?_
  rintro e w6 ⟨hf6, v6, rfl, hr6⟩
  rw [ofE.1]
  rw [ofE.2] at hr6
  obtain ⟨rp, rc, rfl, _, _⟩ := rows_open hr6
  have HU6 := Lib.hid (hu6.trans hf6)
  have b0 := HU6.out.cell b0
  have b1 := HU6.out.cell b1
  have HT6 := Lib.hid (HT5.out.keep (HU6.out.kept _))
  have hp6 : IntsAt Any w6 (.slice pp 7 pc) trE.ps := by
    obtain ⟨P9, N9, e9, h9, _⟩ := HT6.out
    injection e9 with e9
    cases e9; exact h9
  have hu7 := Up.alloc w6 (.cells #[.int .i64 (-1), .int .i64 0, .int .i64 0, .int .i64 2, .int .i64 2, .int .i64 4, .int .i64 4] 3)
  have HEQ := Lib.hid (equal_yes Any Any _ _ _ trE.ps trE.ps (IntsAt.keep hp6 (hu7.kept _)) (lit_ints w6 #[.int .i64 (-1), .int .i64 0, .int .i64 0, .int .i64 2, .int .i64 2, .int .i64 4, .int .i64 4] 3 trE.ps rfl 7 rfl) (by decide) (by decide) rfl)
  have HU7 := Lib.hid (HU5.out.trans (HU6.out.trans hu7))
  clear hl4 hu6 hf6 hr6 hp6 hu7 HT5 HT6
  go_wp2_with fail
  refine HEQ.out.mono ?_
  rintro e w7 ⟨rfl, n7, rfl⟩
  go_wp2_with fail
  go_ret
  exact ⟨rfl, HU7.out.trans (Up.drewN _ _)⟩
end Go.Proofs.YtpjijbophjdgaaaGreat
namespace Go.Proofs.YtpjijbophjdgaaaGreat
open Go.RowKit Go.Deep Go.Sort
theorem teCmp_t (S T : Nat → Prop) (w : World) (v u : Value) (a b : List Int) (h : IntsAt S w v a) (h2 : IntsAt T w u b) (hn : a.length ≤ 1000000) (hm : b.length ≤ 1000000) :
    Calls Tryz.prog 23 #[v, u] w fun e w' => e = .returned (.int .i64 (cmpL a b)) ∧ ∃ n os, w' = grow (w.drewN n) os := by
  have HC := Lib.hid (cmpL_t S T w v u a b h h2 hn hm)
  obtain ⟨p, cap, rfl, -, -⟩ := SlAt.open h
  obtain ⟨q, caq, rfl, -, -⟩ := SlAt.open h2
  clear h h2
  go_enter Tryz.func23, Tryz.ntmps23
  go_wp2_with fail
  refine HC.out.mono ?_
  rintro e w' ⟨rfl, rfl⟩
  go_wp2_with fail
  go_ret
  exact ⟨rfl, grow_same _⟩
theorem teEq_t (S T : Nat → Prop) (w : World) (v u : Value) (a b : List Int) (h : IntsAt S w v a) (h2 : IntsAt T w u b) (hn : a.length ≤ 1000000) (hm : b.length ≤ 1000000) :
    Calls Tryz.prog 28 #[v, u] w fun e w' => e = .returned (.bool (decide (a = b))) ∧ ∃ m, w' = w.drewN m := by
  have HC := Lib.hid (equal_int_t S T w v u a b h h2 hn hm)
  obtain ⟨p, cap, rfl, -, -⟩ := SlAt.open h
  obtain ⟨q, caq, rfl, -, -⟩ := SlAt.open h2
  clear h h2
  go_enter Tryz.func28, Tryz.ntmps28
  go_wp2_with fail
  refine HC.out.mono ?_
  rintro e w' ⟨rfl, m, rfl⟩
  go_wp2_with fail
  go_ret
  exact ⟨rfl, m, rfl⟩
theorem teHas_d (S T : Nat → Prop) (w : World) (bx : Nat) (v vs : Value) (s src : List Int) (hb : w.cell? ⟨bx, 2, none⟩ = some vs) (hs : IntsAt S w vs src) (h : IntsAt T w v s) (hn : s.length ≤ 1000000) (hm : src.length ≤ 1000000) :
    FnD 17 #[.pointer (some ⟨bx, 0, none⟩)] #[v] (.bool (decide (s = src))) w := by
  intro d
  show Calls Tryz.prog 17 #[v, .pointer (some ⟨bx, 0, none⟩)] (w.drewN d) _
  have hd := Up.drewN w d
  have HC := Lib.hid (equal_int_t T S (w.drewN d) v vs s src (IntsAt.keep h (hd.kept _)) (IntsAt.keep hs (hd.kept _)) hn hm)
  have c1 := hd.cell hb
  obtain ⟨p, cap, rfl, -, -⟩ := SlAt.open h
  obtain ⟨q, caq, rfl, -, -⟩ := SlAt.open hs
  obtain ⟨W, hW⟩ : ∃ W, W = w.drewN d := ⟨_, rfl⟩
  have HW := Lib.hid hW
  rw [← hW] at c1 HC ⊢
  clear hd hb h hs hW
  go_enter Tryz.func17, Tryz.ntmps17
  go_wp2_with fail
  refine HC.out.mono ?_
  rintro e w' ⟨rfl, m, rfl⟩
  go_wp2_with fail
  go_ret
  rw [HW.out]
  exact ⟨rfl, qd_trans ⟨d, rfl⟩ ⟨m, rfl⟩⟩
theorem teOff_d (S : Nat → Prop) (w : World) (bx : Nat) (v : Value) (i a b : Int) (hb : w.cell? ⟨bx, 0, none⟩ = some (.int .i64 i)) (h : IntsAt S w v [a, b]) (h1 : a ≠ i) (h2 : b ≠ i) :
    FnD 16 #[.pointer (some ⟨bx, 0, none⟩)] #[v] (.bool false) w := by
  intro d
  show Calls Tryz.prog 16 #[v, .pointer (some ⟨bx, 0, none⟩)] (w.drewN d) _
  have hd := Up.drewN w d
  have c0 := hd.cell hb
  have hk := IntsAt.keep h (hd.kept _)
  obtain ⟨p, cap, rfl, _, H⟩ := SlAt.open hk
  obtain ⟨bb, off, rfl, c1⟩ := H 0 (show 0 < 2 by decide)
  obtain ⟨b2, off2, e2, c2⟩ := H 1 (show 1 < 2 by decide)
  injection e2 with e2
  injection e2 with e3 e4
  subst e3; subst e4
  have c1 : (w.drewN d).cell? ⟨bb, off, none⟩ = some (.int .i64 a) := c1
  have c2 : (w.drewN d).cell? ⟨bb, off + 1, none⟩ = some (.int .i64 b) := c2
  have d1 : (a == i) = false := by simpa using h1
  have d2 : (b == i) = false := by simpa using h2
  obtain ⟨W, hW⟩ : ∃ W, W = w.drewN d := ⟨_, rfl⟩
  have HW := Lib.hid hW
  rw [← hW] at c0 c1 c2 ⊢
  clear hd hb h hk H hW h1 h2
  go_enter Tryz.func16, Tryz.ntmps16
  go_wp2_with fail
  go_quiet (fail)
  go_wp2_with fail
  go_ret
  refine ⟨rfl, ?_⟩
  rw [HW.out]
  exact qd_trans ⟨d, rfl⟩ ⟨_, rfl⟩
end Go.Proofs.YtpjijbophjdgaaaGreat
