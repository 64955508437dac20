/- The contract of parsimony.children: an iterator over the children of a node. -/
import Derived.RangeFuncNested
import Derived.RangeFuncBound
import Derived.RangeFuncCalls
import Derived.RangeFuncLeaves
import Derived.Shelf.Abstract
import Derived.Shelf.RegionOpen
import Derived.WalkKit
import Derived.OwnWalkIn
import Derived.TacticsInMore
import Derived.LoopNIn
import Derived.LoopIn
import Derived.Sort.QuietIn
import Derived.Stop.RegionWithIn
import Derived.Test.YtflikmllpimaiaaB14
namespace Go.Proofs.Ytflikmllpimaiaa
open Go.RowKit Go.Shelf Go.Deep
attribute [local go_sem] Oper.semAt_some
theorem grown_drew (w : World) (row : Option Nat) : w.grownBy w.drew row := ⟨rfl, rfl, rfl, Nat.le_refl _, fun _ _ _ => rfl⟩
abbrev Kid (ps : List Int) (node : Nat) := { x : Nat // x ∈ kidsL ps node }
def vals {ps : List Int} {node : Nat} (l : List (Kid ps node)) : List Nat := l.map Subtype.val
theorem vals_snoc {ps : List Int} {node : Nat} (l : List (Kid ps node)) (x : Kid ps node) : vals (l ++ [x]) = vals l ++ [x.1] := by simp [vals]
theorem kidsK_prefix (ps : List Int) (n k : Nat) (h : k ≤ ps.length) : kidsK ps n k <+: kidsL ps n := by
  unfold kidsL
  obtain ⟨d, hd⟩ : ∃ d, ps.length = k + d := ⟨ps.length - k, by omega⟩
  rw [hd]
  clear hd h
  induction d with
  | zero => exact List.prefix_rfl
  | succ d ih => rw [← Nat.add_assoc, kidsK_succ]; exact ih.trans (List.prefix_append _ _)
theorem round_or {e : Ending} {A B : Prop} (h : (e = .returned (.bool true) ∧ A) ∨ (e = .returned (.bool false) ∧ B)) : ∃ bb, e = .returned (.bool bb) ∧ Hid ((bb = true ∧ A) ∨ (bb = false ∧ B)) := by
  rcases h with ⟨h1, h2⟩ | ⟨h1, h2⟩
  · exact ⟨true, h1, .inl ⟨rfl, h2⟩⟩
  · exact ⟨false, h1, .inr ⟨rfl, h2⟩⟩
/-- The blocks of T lie as they lay. -/
def KS (T : Nat → Prop) (w w' : World) : Prop := ∀ b, T b → w'.heap[b]? = w.heap[b]?
theorem KS.refl (T : Nat → Prop) (w : World) : KS T w w := fun _ _ => rfl
theorem KS.trans {T : Nat → Prop} {a b c : World} (h : KS T a b) (k : KS T b c) : KS T a c := fun i hi => (k i hi).trans (h i hi)
theorem KS.cell {T : Nat → Prop} {a b : World} (h : KS T a b) {p : Addr} (hp : T p.block) : b.cell? p = a.cell? p := World.cell?_of_block (h p.block hp)
theorem KS.drew {T : Nat → Prop} {a b : World} (h : KS T a b) : KS T a b.drew := h
theorem KS.drewN {T : Nat → Prop} {a b : World} (h : KS T a b) (n : Nat) : KS T a (b.drewN n) := h
set_option maxRecDepth 100000 in
set_option maxHeartbeats 1000000 in
theorem chil1_in (n l Bn Bt : Nat) (T : Nat → Prop) (hn : 1 ≤ n) (ps : List Int) (node : Nat) (P : Value) (J Jx : List (Kid ps node) → World → Prop)
    (hY : ∀ pre x W, J pre W → pre.length < ps.length → YieldAt Fence.wide (n - 1) Try.prog l #[.int .i64 (x.1 : Int)] W fun e W' =>
      (e = .returned (.bool true) ∧ J (pre ++ [x]) W' ∧ KS T W W') ∨ (e = .returned (.bool false) ∧ Jx (pre ++ [x]) W'))
    (W : World) (hJa : AbidesFrom W.heap.size J) (hcn : W.cell? ⟨Bn, 0, none⟩ = some (.int .i64 node)) (hcp : W.cell? ⟨Bt, 0, none⟩ = some P) (hP : IntsAt T W P ps) (hBn : T Bn) (hBt : T Bt)
    (hnode : node < ps.length) (hlen : ps.length ≤ 1000000) (h0 : J [] W) :
    CallsIn Fence.wide n Try.prog 93 #[.func (.yield l) #[] #[], .pointer (some ⟨Bn, 0, none⟩), .pointer (some ⟨Bt, 0, none⟩)] W fun e W' => (∃ v, e = .returned v) ∧
      ((∃ xs, vals xs = kidsL ps node ∧ J xs W') ∨ (∃ pre, vals pre <+: kidsL ps node ∧ Jx pre W')) := by
  obtain ⟨q, cap, rfl, hcap, hsl⟩ := hP
  have HSL := Lib.hid hsl
  have HJA := Lib.hid hJa
  have HCN := Lib.hid hcn
  have HCP := Lib.hid hcp
  have HY := Lib.hid hY
  clear hsl hJa hY
  refine callsIn_of_wp Try.func93 rfl trivial ?_ rfl
  simp only [Try.ntmps93, List.size_toArray, List.length_cons, List.length_nil, Nat.reduceAdd, Nat.reduceSub, Array.replicate_succ, Array.replicate_zero, List.push_toArray, List.append_toArray, List.nil_append, List.cons_append]
  gi_wp2
  clear hcn hcp
  gi_loopw [4] (fun i wr => ∃ (k : Nat) (pre : List (Kid ps node)), node + 1 ≤ k ∧ k ≤ ps.length ∧ i = .int .i64 k ∧ vals pre = kidsK ps node k ∧ J pre wr ∧ KS T W wr) (fun i _ => ps.length - (intOf i).toNat)
  case atStart => exact ⟨node + 1, [], Nat.le_refl _, by omega, by go_num, (kidsK_start _ _).symm, h0, KS.refl _ _⟩
  case round =>
    obtain ⟨k, pre, hk1, hk, rfl, hpre, hJ, hbr⟩ := hrel
    have hcn : wr.cell? ⟨Bn, 0, none⟩ = some (.int .i64 node) := (hbr.cell (p := ⟨Bn, 0, none⟩) hBn).trans HCN.out
    have hcp : wr.cell? ⟨Bt, 0, none⟩ = some (.slice q ps.length cap) := (hbr.cell (p := ⟨Bt, 0, none⟩) hBt).trans HCP.out
    have HPRE := Lib.hid hpre
    clear hpre
    by_cases hlt : k < ps.length
    · have hsl2 := HSL.out
      rcases hsl2 with h | ⟨b, off, rfl, hb, hcell⟩
      · omega
      · have hc : wr.cell? ⟨b, off + k, none⟩ = some (.int .i64 (gi ps k)) := (hbr.cell (p := ⟨b, off + k, none⟩) hb).trans (hcell k hlt)
        have hsucc := kidsK_succ ps node k
        have hlen2 : pre.length < ps.length := by
          have h1 := kidsK_len ps node k
          have h2 := congrArg List.length HPRE.out
          unfold vals at h2; rw [List.length_map] at h2; omega
        have hmem : gi ps k = node → k ∈ kidsL ps node := fun h => mem_kidsL.2 ⟨hlt, by omega, h⟩
        have HMEM := Lib.hid hmem
        have HSU := Lib.hid hsucc
        clear hcell hsucc hmem
        have i1 : (0 : Int) ≤ (k : Int) := by omega
        have i2 : (k : Int) < (ps.length : Int) := by omega
        generalize hx : gi ps k = x at *
        clear hx
        by_cases hxn : x = node
        · have hx1 : (x == (node : Int)) = true := by simp [hxn]
          have HX := Lib.hid hxn
          clear hxn
          have hJ' : J pre wr.drew := HJA.out pre wr wr.drew none hJ (grown_drew _ _) (fun r e => by cases e)
          obtain ⟨fn, tmps, assign, body, hy, hR⟩ := HY.out pre ⟨k, HMEM.out HX.out⟩ wr.drew hJ' hlen2
          dsimp only at hy
          clear hJ'
          gi_wp2
          gi_region_with (refine hR.mono ?_; rintro e W3 hor; obtain ⟨bb, rfl, hq⟩ := round_or hor)
          all_goals
            gi_wp2
            · have hbb := ‹(!bb) = true›
              have hq2 : bb = false ∧ Jx (pre ++ [⟨k, HMEM.out HX.out⟩]) W3 := by
                rcases hq.out with ⟨h1, _⟩ | h2
                · rw [h1] at hbb; cases hbb
                · exact h2
              refine bodyPost_ret (results_none rfl _ _ _) rfl ?_
              exact ⟨⟨_, rfl⟩, .inr ⟨pre ++ [⟨k, HMEM.out HX.out⟩], by
                rw [vals_snoc, HPRE.out]
                have h3 := kidsK_prefix ps node (k + 1) hlt
                rw [HSU.out, if_pos ⟨by omega, HX.out⟩] at h3; exact h3, hq2.2⟩⟩
            · have hbb := ‹(!bb) = false›
              have hq2 : bb = true ∧ J (pre ++ [⟨k, HMEM.out HX.out⟩]) W3 ∧ KS T wr.drew W3 := by
                rcases hq.out with h2 | ⟨h1, _⟩
                · exact h2
                · rw [h1] at hbb; cases hbb
              go_roundw
              case rel => exact ⟨k + 1, pre ++ [⟨k, HMEM.out HX.out⟩], by omega, by omega, by go_num, by rw [vals_snoc, HPRE.out, HSU.out, if_pos ⟨by omega, HX.out⟩], hq2.2.1, hbr.drew.trans hq2.2.2⟩
              case measure => simp [intOf]; omega
        · have hx1 : (x == (node : Int)) = false := by simpa using hxn
          have HX := Lib.hid hxn
          clear hxn
          gi_wp2
          refine wpIn_region_quiet_lit rfl (by kernel_rfl) (by kernel_rfl) ?_
          repeat (gi_big_quiet_step (fail))
          refine BigFrame.wpQuietIn_skip (fun _ _ _ _ => trivial) rfl ?_
          simp only [Act.put, List.setIfInBounds_toArray, List.set_cons_succ, List.set_cons_zero]
          repeat (gi_big_quiet_step (fail))
          refine wpQuietIn_nil ?_
          intro _ hw'
          obtain ⟨nq, hw''⟩ := hw'
          subst hw''
          gi_wp2
          go_roundw
          case rel => exact ⟨k + 1, pre, by omega, by omega, by go_num, by rw [HPRE.out, HSU.out, if_neg (fun h => HX.out h.2), List.append_nil], HJA.out pre wr _ none hJ ⟨rfl, rfl, rfl, Nat.le_refl _, fun _ _ _ => rfl⟩ (fun r e => by cases e), hbr.drewN _⟩
          case measure => simp [intOf]; omega
    · gi_wp2
      go_end0
      obtain rfl : k = ps.length := by omega
      exact ⟨⟨_, rfl⟩, .inl ⟨pre, HPRE.out, hJ⟩⟩
set_option maxHeartbeats 400000 in
theorem chil_t (w : World) (v : Value) (P N : Value) (hv : v = .agg #[P, N]) (node : Nat) :
    Calls Try.prog 78 #[v, .int .i64 node] w fun e w' => e = .returned (.func (.func 93) #[] #[.pointer (some ⟨w.heap.size + 1, 0, none⟩), .pointer (some ⟨w.heap.size, 0, none⟩)]) ∧ w' = (w.alloc (.cells #[P, N] 25)).alloc (.cells #[.int .i64 node] 3) := by
  subst hv
  go_enter Try.func78, Try.ntmps78
  go_wp2_with fail
  go_ret
  exact ⟨rfl, rfl⟩
theorem chil_stops (n : Nat) (hn : 1 ≤ n) (Bn Bt : Nat) (T : Nat → Prop) (ps : List Int) (node : Nat) (P : Value) (w : World) (hT : ∀ b, T b → b < w.heap.size)
    (hcn : w.cell? ⟨Bn, 0, none⟩ = some (.int .i64 node)) (hcp : w.cell? ⟨Bt, 0, none⟩ = some P) (hP : IntsAt T w P ps) (hBn : T Bn) (hBt : T Bt) (hnode : node < ps.length) (hlen : ps.length ≤ 1000000) :
    SeqStopsK Fence.wide n Try.prog 93 #[.pointer (some ⟨Bn, 0, none⟩), .pointer (some ⟨Bt, 0, none⟩)] (fun x : Kid ps node => #[Value.int .i64 (x.1 : Int)]) (KS T)
      (fun xs => vals xs = kidsL ps node) (fun pre => vals pre <+: kidsL ps node) ps.length w := fun l J Jx W hW hJ _ hY h0 =>
  chil1_in n l Bn Bt T hn ps node P J Jx hY W hJ ((hW.cell (p := ⟨Bn, 0, none⟩) (hT _ hBn)).trans hcn) ((hW.cell (p := ⟨Bt, 0, none⟩) (hT _ hBt)).trans hcp)
    (hP.keep fun b hb _ => hW.block b (hT b hb)) hBn hBt hnode hlen h0
end Go.Proofs.Ytflikmllpimaiaa
