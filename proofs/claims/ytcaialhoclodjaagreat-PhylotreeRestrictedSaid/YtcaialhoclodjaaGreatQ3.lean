/- The contract of phylotree.Leaves. The contracts of parsimony.known, matrix, Check. The contract of parsimony.children: an iterator over the children of a node. A function's end behind loops over functions. A region that draws its order and only reads, within a round of a loop over a function. The contracts of parsimony.best, least. The contract of the closure that fills a row of the table. The contract of parsimony.table. The contracts of parsimony.Score and Table. The arguments of a law, opened; the frame of a law's proof. A region that draws its order, only reads, and ends in one operation that may write: by the walk in the order of the text. Names, as layer 1's and layer 31's references have them. Names, as layer 1's and layer 31's references have them: IsName, named. The contracts of slices.Clone and slices.Equal of numbers. Lists of lists that a call grows; a store into a list of the call's own. Nodes that point at each other: how a forest lies in memory, and what keeps it. -/
import Derived.Test.YtcaialhoclodjaaGreatQ2
import Derived.Test.YtcaialhoclodjaaGreatQ1
import Derived.RangeFuncNested
import Derived.RangeFuncBound
import Derived.RangeFuncCalls
import Derived.RangeFuncLeaves
import Derived.Shelf.Abstract
import Derived.Shelf.RegionOpen
import Derived.WalkKit
import Derived.OwnWalkIn
import Derived.TacticsInMore
import Derived.LoopNIn
import Derived.LoopIn
import Derived.Sort.QuietIn
import Derived.Stop.RegionWithIn
import Derived.Test.YtcaialhoclodjaaGreatRows
import Derived.ProofKit
import Derived.OpenShut
import Derived.ShutString
import Derived.ChangeOld
import Derived.Below
import Derived.Deep.Matrix
import Derived.Lib.SmallJoins
import Derived.StillTail
namespace Go.Proofs.YtcaialhoclodjaaGreat
open Go.RowKit Go.Deep
theorem Tryz.infoI : (Tryz.prog.info? 3).map (fun i => (i.zero, i.size, i.bytes)) = some (some (.int .i64 0), 1, 8) := by kernel_rfl
def LvPost (w : World) (t : Tre) (e : Ending) (w' : World) : Prop :=
  Below w.heap.size w w' ∧ ((treeErr t ≠ 0 ∧ e = .returned (.tuple #[.slice none 0 0, .int .i64 1])) ∨
    (treeErr t = 0 ∧ ∃ v, e = .returned (.tuple #[v, .int .i64 0]) ∧ IntsAt (fun b => w.heap.size ≤ b) w' v (leavesL t.ns)))
set_option maxRecDepth 100000 in
set_option maxHeartbeats 800000 in
theorem leaves_t (S : Nat → Prop) (w : World) (v : Value) (t : Tre) (h : TreeAt S w v t) (hp : t.ps.length ≤ 1000000) (hn : t.ns.length ≤ 1000000) (hz : ∀ k, (gs t.ns k).size ≤ 70000) :
    Calls Tryz.prog 17 #[v] w (LvPost w t) := by
  obtain ⟨P, N, rfl, hP, hN⟩ := h
  have ht0 : TreeAt S (w.alloc (.cells #[P, N] 25)) (.agg #[P, N]) t := TreeAt.keep ⟨P, N, rfl, hP, hN⟩ (Kept.below ((Below.refl _ w).alloc (Nat.le_refl _) _))
  have hb0 : Below w.heap.size w (w.alloc (.cells #[P, N] 25)) := (Below.refl _ _).alloc (Nat.le_refl _) _
  have hcq : (w.alloc (.cells #[P, N] 25)).cell? ⟨w.heap.size, 1, none⟩ = some N := by simp [World.cell?_alloc_new]
  have hck := check_t S (w.alloc (.cells #[P, N] 25)) _ t ht0 hp hn hz
  rw [World.size_alloc] at hck
  have HCK := Lib.hid hck
  have HCQ := Lib.hid hcq
  have HB0 := Lib.hid hb0
  have HN := Lib.hid hN
  clear hck hcq hb0 ht0 hP hN
  by_cases he : treeErr t = 0
  · go_enter Tryz.func17, Tryz.ntmps17
    go_wp2_with fail
    refine HCK.out.mono ?_
    rintro e w1 ⟨rfl, hb1⟩
    have hbw : Below w.heap.size w w1 := HB0.out.trans (hb1.mono (by omega))
    have hN1 := HN.out.keep (Kept.below hbw)
    have hcq : w1.cell? ⟨w.heap.size, 1, none⟩ = some N := (hb1.cell (p := ⟨w.heap.size, 1, none⟩) (by simp)).trans HCQ.out
    obtain ⟨q, cap2, rfl, hcap2, HNN⟩ := SlAt.open hN1
    have hHN := Lib.hid HNN
    have hwz : w.heap.size ≤ w1.heap.size := hbw.size
    have HE := Lib.hid he
    rw [he]
    clear HNN hN1 HCK HCQ HB0 HN hb1 he
    go_wp2_with fail
    go_loopw [4, 5, 6, 13] (fun v _ _ i wr => ∃ k : Nat, k ≤ t.ns.length ∧ i = .int .i64 k ∧ Owns w1.heap.size 3 wr v ((leavesK t.ns k).map (Value.int .i64)) ∧ Below w1.heap.size w1 wr) (fun _ _ _ i _ => t.ns.length - (intOf i).toNat)
    case atStart => exact ⟨0, Nat.zero_le _, rfl, Owns.nil _ _ _, Below.refl _ _⟩
    case round =>
      obtain ⟨k, hk, rfl, hown, hbr⟩ := hrel
      by_cases hlt : k < t.ns.length
      · obtain ⟨b, off, rfl, hc0⟩ := hHN.out k hlt
        have hc : wr.cell? ⟨b, off + k, none⟩ = some (.string (gs t.ns k)) := by
          rw [hbr.cell (p := ⟨b, off + k, none⟩) (World.block_lt_of_cell? _ _ hc0)]; exact hc0
        have hsz := hbr.size
        have hsucc := leavesK_succ t.ns k
        have hll := leavesK_len t.ns k
        have hnil := toList_nil (gs t.ns k)
        have HNIL := Lib.hid hnil
        have HSU := Lib.hid hsucc
        have HLL : Hid (((leavesK t.ns k).map (Value.int .i64)).length ≤ 1000000) := by unfold Hid; rw [List.length_map]; omega
        clear hc0 hnil hsucc hll hHN hz
        generalize hgk : gs t.ns k = g at *
        clear hgk
        by_cases hg0 : g.size = 0
        · have hg1 : g.toList = [] := HNIL.out.2 hg0
          have HG0 := Lib.hid hg0
          clear hg0
          go_wp2
          go_roundw
          case rel => exact ⟨k + 1, by omega, by go_num, by rw [HSU.out, if_pos HG0.out, List.append_nil]; exact hown, hbr⟩
          case measure => simp [intOf]; omega
        · have hg1 : (g.toList == []) = false := by
            rw [Bool.eq_false_iff]; intro e; exact hg0 (HNIL.out.1 (by simpa using e))
          have hg2 : (g.toList != []) = true := by
            rw [bne_iff_ne]; intro e; exact hg0 (HNIL.out.1 (by simpa using e))
          have HG0 := Lib.hid hg0
          clear hg0
          go_wp2_with (at_builtin; refine wpList_app1 wr rfl _ _ 22 rfl w1.heap.size 3 _ 8 Tryz.underlying22 Tryz.infoI rfl (by decide) hown rfl _ rfl rfl HLL.out hsz ?_; intro g cap w2 hown1 hg1 hb1)
          go_roundw
          case rel => exact ⟨k + 1, by omega, by go_num, by rw [HSU.out, if_neg HG0.out, List.map_append]; rw [List.length_map] at hown1; exact hown1, hbr.trans hb1⟩
          case measure => simp [intOf]; omega
      · obtain rfl : k = t.ns.length := by omega
        clear hlt hk hHN
        go_wp2
        go_ret2
        exact ⟨hbw.trans (hbr.mono hwz), .inr ⟨HE.out, _, rfl, hown.ints.sub fun b hb _ => Nat.le_trans hwz hb⟩⟩
  · have he' : (treeErr t != 0) = true := by simpa using he
    have HE := Lib.hid he
    clear he
    go_enter Tryz.func17, Tryz.ntmps17
    go_wp2_with fail
    refine HCK.out.mono ?_
    rintro e w1 ⟨rfl, hb1⟩
    go_wp2_with fail
    go_ret2
    exact ⟨HB0.out.trans (hb1.mono (by omega)), .inl ⟨HE.out, rfl⟩⟩
end Go.Proofs.YtcaialhoclodjaaGreat
namespace Go.Proofs.YtcaialhoclodjaaGreat
open Go.RowKit Go.Deep
end Go.Proofs.YtcaialhoclodjaaGreat
namespace Go.Proofs.YtcaialhoclodjaaGreat
open Go.RowKit Go.Shelf Go.Deep
attribute [local go_sem] Oper.semAt_some
abbrev Kid (ps : List Int) (node : Nat) := { x : Nat // x ∈ kidsL ps node }
def vals {ps : List Int} {node : Nat} (l : List (Kid ps node)) : List Nat := l.map Subtype.val
/-- The blocks of T lie as they lay. -/
def KS (T : Nat → Prop) (w w' : World) : Prop := ∀ b, T b → w'.heap[b]? = w.heap[b]?
theorem KS.refl (T : Nat → Prop) (w : World) : KS T w w := fun _ _ => rfl
theorem KS.trans {T : Nat → Prop} {a b c : World} (h : KS T a b) (k : KS T b c) : KS T a c := fun i hi => (k i hi).trans (h i hi)
theorem KS.cell {T : Nat → Prop} {a b : World} (h : KS T a b) {p : Addr} (hp : T p.block) : b.cell? p = a.cell? p := World.cell?_of_block (h p.block hp)
theorem KS.drew {T : Nat → Prop} {a b : World} (h : KS T a b) : KS T a b.drew := h
theorem KS.drewN {T : Nat → Prop} {a b : World} (h : KS T a b) (n : Nat) : KS T a (b.drewN n) := h
end Go.Proofs.YtcaialhoclodjaaGreat
namespace Go.Proofs.YtcaialhoclodjaaGreat
open Go.RowKit Go.Shelf Go.Deep
/-- What is left to do at a function's end: marks of loops over functions, in which nothing waits. -/
def Marks (n₀ : Nat) (w : World) : List Deferred → Prop
  | [] => True
  | d :: ds => (∃ r, d = { target := .collected r, args := #[] } ∧ n₀ ≤ r ∧ w.heap[r]? = some (.deferred (some [])) ∧ (∀ d' ∈ ds, d'.target ≠ .collected r)) ∧ Marks n₀ w ds
theorem Marks.keep {n₀ : Nat} {w w' : World} (h : ∀ r, w.heap[r]? = some (.deferred (some [])) → n₀ ≤ r → w'.heap[r]? = w.heap[r]?) : ∀ {ds : List Deferred}, Marks n₀ w ds → Marks n₀ w' ds
  | [], _ => trivial
  | _ :: _, ⟨⟨r, e, hr, hk, hne⟩, ht⟩ => ⟨⟨r, e, hr, (h r hk hr).trans hk, hne⟩, ht.keep h⟩
theorem Marks.lt {n₀ : Nat} {w : World} : ∀ {ds : List Deferred}, Marks n₀ w ds → ∀ d ∈ ds, ∃ r, d.target = .collected r ∧ r < w.heap.size
  | _ :: _, ⟨⟨r, e, _, hk, _⟩, ht⟩, d, hd => by
    rcases List.mem_cons.1 hd with rfl | hd
    · refine ⟨r, by rw [e], ?_⟩
      rcases Nat.lt_or_ge r w.heap.size with h | h
      · exact h
      · rw [Array.getElem?_eq_none h] at hk; cases hk
    · exact ht.lt d hd
end Go.Proofs.YtcaialhoclodjaaGreat
namespace Go.Proofs.YtcaialhoclodjaaGreat
open Go.RowKit Go.Shelf Go.Deep
section
variable {F : Fence} {n : Nat} {P : Program} {ops : Array Oper} {C : World → Prop}
end
end Go.Proofs.YtcaialhoclodjaaGreat
namespace Go.Proofs.YtcaialhoclodjaaGreat
open Go.RowKit Go.Deep
end Go.Proofs.YtcaialhoclodjaaGreat
namespace Go.Proofs.YtcaialhoclodjaaGreat
open Go.RowKit Go.Shelf Go.Deep
attribute [local go_sem] Oper.semAt_some
set_option maxHeartbeats 400000 in
theorem index_int_t (S : Nat → Prop) (w : World) (v : Value) (xs : List Int) (x : Int) (h : IntsAt S w v xs) (hn : xs.length ≤ 1000000) :
    Calls Tryz.prog 72 #[v, .int .i64 x] w fun e w' => e = .returned (.int .i64 (firstIx (fun j => decide (x = gi xs j)) xs.length)) ∧ w = w' := by
  obtain ⟨p, cap, rfl, hcap, H⟩ := SlAt.open h
  clear h
  go_enter Tryz.func72, Tryz.ntmps72
  go_wp2_with fail
  go_loop [5, 8] (fun _ i => ∃ k : Nat, k ≤ xs.length ∧ i = .int .i64 k ∧ Hid (∀ j, j < k → decide (x = gi xs j) = false)) (fun _ i => xs.length - (intOf i).toNat)
  case atStart => exact ⟨0, Nat.zero_le _, rfl, fun j hj => absurd hj (Nat.not_lt_zero _)⟩
  case round =>
    obtain ⟨k, hk, rfl, hd⟩ := hrel
    by_cases hlt : k < xs.length
    · obtain ⟨b, off, rfl, hc⟩ := H k hlt
      clear H
      generalize hy : gi xs k = y at *
      have HY := Lib.hid hy
      clear hy
      by_cases hxy : x = y
      · have hx1 : (x == y) = true := by simp [hxy]
        have HXY := Lib.hid hxy
        clear hxy
        go_wp2_with fail
        go_ret
        exact ⟨ret_int (firstIx_at (p := fun j => decide (x = gi xs j)) hlt hd.out (by rw [HY.out]; simpa using HXY.out)).symm, rfl⟩
      · have hx1 : (x == y) = false := by simpa using hxy
        have HXY := Lib.hid hxy
        clear hxy
        go_wp2_with fail
        go_round
        case rel => exact ⟨k + 1, by omega, by go_num, fun j hj => if e : j = k then by subst e; rw [HY.out]; simpa using HXY.out else hd.out j (by omega)⟩
        case measure => simp [intOf]; omega
    · clear H
      go_wp2_with fail
      go_ret
      exact ⟨ret_int (firstIx_none fun j hj => hd.out j (by omega)).symm, rfl⟩
/-- The world in which a row is filled: what the closure's variables hold. -/
structure FillW (w : World) (t : Tre) (st : List Int) (cs : List (List Int)) (pC pL pS pT pO ob : Nat) (V : Nat → Value) (k : Nat) : Prop where
  cC : ∃ C, w.cell? ⟨pC, 0, none⟩ = some C ∧ RowsAt (· ≠ ob) w C cs
  cL : ∃ L, w.cell? ⟨pL, 0, none⟩ = some L ∧ IntsAt (· ≠ ob) w L (leavesL t.ns)
  cS : ∃ L, w.cell? ⟨pS, 0, none⟩ = some L ∧ IntsAt (· ≠ ob) w L st
  cT : ∃ P N, w.cell? ⟨pT, 0, none⟩ = some P ∧ w.cell? ⟨pT, 1, none⟩ = some N ∧ IntsAt (· ≠ ob) w P t.ps
  cO : w.cell? ⟨pO, 0, none⟩ = some (.slice (some ⟨ob, 0, none⟩) t.ps.length t.ps.length)
  row : w.rowIs ob 22 t.ps.length V
  rows : ∀ j, k ≤ j → j < t.ps.length → IntsAt (· ≠ ob) w (V j) (tabRow t st cs j)
  ne : pC ≠ ob ∧ pL ≠ ob ∧ pS ≠ ob ∧ pT ≠ ob ∧ pO ≠ ob
structure RoundW (w1 wr : World) (R0 m : Nat) (f : Nat → Int) (ds : List Deferred) : Prop where
  grown : w1.grownBy wr (some R0)
  row : wr.rowIs R0 3 m (fun j => .int .i64 (f j))
  marks : Marks w1.heap.size wr ds
theorem Marks.drewN {n₀ : Nat} {w : World} {ds : List Deferred} (h : Marks n₀ w ds) (k : Nat) : Marks n₀ (w.drewN k) ds := Marks.keep (w := w) (w' := w.drewN k) (fun _ _ _ => rfl) h
theorem RoundW.drewN {w1 wr : World} {R0 m : Nat} {f : Nat → Int} {ds : List Deferred} (h : RoundW w1 wr R0 m f ds) (k : Nat) : RoundW w1 (wr.drewN k) R0 m f ds :=
  ⟨⟨h.grown.os, h.grown.tape, h.grown.output, h.grown.size, h.grown.block⟩, h.row, h.marks.drewN k⟩
theorem RoundW.congr {w1 wr : World} {R0 m : Nat} {f g : Nat → Int} {ds : List Deferred} (h : RoundW w1 wr R0 m f ds) (e : ∀ j, j < m → f j = g j) : RoundW w1 wr R0 m g ds :=
  ⟨h.grown, h.row.congr fun j hj => by rw [e j hj], h.marks⟩
theorem RoundW.set {w1 wr : World} {R0 m : Nat} {f : Nat → Int} {ds : List Deferred} (h : RoundW w1 wr R0 m f ds) (hR : R0 < w1.heap.size) (s : Nat) (x : Int) :
    RoundW w1 (wr.setCell ⟨R0, s, none⟩ (.int .i64 x)) R0 m (fun j => if j = s then x else f j) ds :=
  ⟨⟨h.grown.os, h.grown.tape, h.grown.output, by rw [World.size_setCell]; exact h.grown.size, fun k hk hne => (Below.heap_setCell _ _ _ k (fun e => hne (by rw [e]))).trans (h.grown.block k hk hne)⟩,
    (h.row.set s _).congr (fun j _ => by by_cases e : j = s <;> simp [e]), h.marks.keep fun r _ hr2 => Below.heap_setCell _ _ _ r (by simp only; omega)⟩
theorem RoundW.alloc {w1 wr : World} {R0 m : Nat} {f : Nat → Int} {ds : List Deferred} (h : RoundW w1 wr R0 m f ds) (o : Obj) : RoundW w1 (wr.alloc o) R0 m f ds :=
  ⟨⟨h.grown.os, h.grown.tape, h.grown.output, by simp; have := h.grown.size; omega, fun k hk hne => (Below.heap_alloc _ _ k (Nat.lt_of_lt_of_le hk h.grown.size)).trans (h.grown.block k hk hne)⟩,
    h.row.alloc o, h.marks.keep fun r hr _ => Below.heap_alloc _ _ r (by
      rcases Nat.lt_or_ge r wr.heap.size with h | h
      · exact h
      · rw [Array.getElem?_eq_none h] at hr; cases hr)⟩
theorem kept_drewN (S : Nat → Prop) (w : World) (n : Nat) : Kept S w (w.drewN n) := fun _ _ _ => rfl
theorem grown_tr {a b c : World} {R : Nat} (h : a.grownBy b (some R)) (k : b.grownBy c (some R)) : a.grownBy c (some R) :=
  ⟨k.os.trans h.os, k.tape.trans h.tape, k.output.trans h.output, Nat.le_trans h.size k.size, fun i hi hne => (k.block i (Nat.lt_of_lt_of_le hi h.size) hne).trans (h.block i hi hne)⟩
theorem RoundW.later {w1 w7 W : World} {R0 m : Nat} {f g : Nat → Int} {ds : List Deferred} (h : RoundW w1 w7 R0 m f ds) (hg : w7.grownBy W (some R0)) (hr : W.rowIs R0 3 m (fun j => .int .i64 (g j))) (hR : R0 < w1.heap.size) : RoundW w1 W R0 m g ds :=
  ⟨grown_tr h.grown hg, hr, h.marks.keep fun r hr hr2 => hg.block r (by
      rcases Nat.lt_or_ge r w7.heap.size with h | h
      · exact h
      · rw [Array.getElem?_eq_none h] at hr; cases hr) (by simp; omega)⟩
end Go.Proofs.YtcaialhoclodjaaGreat
namespace Go.Proofs.YtcaialhoclodjaaGreat
open Go.RowKit Go.Deep
theorem cell_at_new (W : World) (cs : Array Value) (t : TypeId) (k : Nat) : (W.alloc (.cells cs t)).cell? ⟨W.heap.size, k, none⟩ = cs[k]? := by
  unfold World.cell?; rw [World.alloc_heap_new]; rfl
theorem FillW.step {w w' : World} {t : Tre} {st : List Int} {cs : List (List Int)} {pC pL pS pT pO ob : Nat} {V : Nat → Value} {j : Nat} {v : Value} (h : FillW w t st cs pC pL pS pT pO ob V (j + 1))
    (hg : w.grownBy w' (some ob)) (hr : w'.rowIs ob 22 t.ps.length (fun x => if x = j then v else V x)) (hv : IntsAt (· ≠ ob) w' v (tabRow t st cs j)) : FillW w' t st cs pC pL pS pT pO ob (fun x => if x = j then v else V x) j := by
  have hk : Kept (· ≠ ob) w w' := fun b hb hl => hg.block b hl (by simp; exact hb)
  have hc : ∀ {p o : Nat} {x : Value}, p ≠ ob → w.cell? ⟨p, o, none⟩ = some x → w'.cell? ⟨p, o, none⟩ = some x := fun hp hx => hg.cell hx (by simp; exact hp)
  obtain ⟨n1, n2, n3, n4, n5⟩ := h.ne
  obtain ⟨C, a1, a2⟩ := h.cC
  obtain ⟨L, b1, b2⟩ := h.cL
  obtain ⟨Q, c1, c2⟩ := h.cS
  obtain ⟨P, N, d1, d2, d3⟩ := h.cT
  refine ⟨⟨C, hc n1 a1, a2.keep hk⟩, ⟨L, hc n2 b1, b2.keep hk⟩, ⟨Q, hc n3 c1, c2.keep hk⟩, ⟨P, N, hc n4 d1, hc n4 d2, d3.keep hk⟩, hc n5 h.cO, hr, fun x h1 h2 => ?_, h.ne⟩
  by_cases e : x = j
  · subst e; simp only [if_true]; exact hv
  · simp only [e, if_false]; exact (h.rows x (by omega) h2).keep hk
end Go.Proofs.YtcaialhoclodjaaGreat
namespace Go.Proofs.YtcaialhoclodjaaGreat
open Go.RowKit Go.Deep
/-- What lay in w lies in w' as it lay. -/
def Up (w w' : World) : Prop := Below w.heap.size w w'
theorem Up.refl (w : World) : Up w w := Below.refl _ _
theorem Up.trans {a b c : World} (h : Up a b) (k : Up b c) : Up a c := Below.trans h (Below.mono k h.size)
theorem Up.alloc (w : World) (o : Obj) : Up w (w.alloc o) := (Below.refl _ _).alloc (Nat.le_refl _) _
theorem Up.drewN (w : World) (n : Nat) : Up w (w.drewN n) := below_drewN (Below.refl _ _) n
theorem Up.kept {w w' : World} (h : Up w w') (S : Nat → Prop) : Kept S w w' := Kept.below h
theorem Up.size {w w' : World} (h : Up w w') : w.heap.size ≤ w'.heap.size := Below.size h
theorem Up.cell {w w' : World} (h : Up w w') {p : Addr} {v : Value} (hc : w.cell? p = some v) : w'.cell? p = some v := by
  obtain ⟨b, o, i⟩ := p
  have hl : b < w.heap.size := World.block_lt_of_cell? w _ hc
  rw [Below.cell h (p := ⟨b, o, i⟩) hl]; exact hc
theorem box2_0 (w : World) (P N : Value) (T : TypeId) : (w.alloc (.cells #[P, N] T)).cell? ⟨w.heap.size, 0, none⟩ = some P := by simp [World.cell?_alloc_new]
theorem box2_1 (w : World) (P N : Value) (T : TypeId) : (w.alloc (.cells #[P, N] T)).cell? ⟨w.heap.size, 1, none⟩ = some N := by simp [World.cell?_alloc_new]
theorem box1_0 (w : World) (P : Value) (T : TypeId) : (w.alloc (.cells #[P] T)).cell? ⟨w.heap.size, 0, none⟩ = some P := by simp [World.cell?_alloc_new]
theorem ints_get {S : Nat → Prop} {w : World} {p : Option Addr} {n cap : Nat} {xs : List Int} (h : IntsAt S w (.slice p n cap) xs) {k : Nat} (hk : k < xs.length) : ∃ b off, p = some ⟨b, off, none⟩ ∧ w.cell? ⟨b, off + k, none⟩ = some (.int .i64 (gi xs k)) := by
  obtain ⟨q, c, e, _, H⟩ := SlAt.open h
  injection e with e1
  subst e1
  exact H k hk
theorem strs_get {S : Nat → Prop} {w : World} {p : Option Addr} {n cap : Nat} {xs : List ByteArray} (h : StrsAt S w (.slice p n cap) xs) {k : Nat} (hk : k < xs.length) : ∃ b off, p = some ⟨b, off, none⟩ ∧ w.cell? ⟨b, off + k, none⟩ = some (.string (gs xs k)) := by
  obtain ⟨q, c, e, _, H⟩ := SlAt.open h
  injection e with e1
  subst e1
  exact H k hk
theorem ints_get' {S : Nat → Prop} {w : World} {b off : Nat} {n cap : Nat} {xs : List Int} (h : IntsAt S w (.slice (some ⟨b, off, none⟩) n cap) xs) {k : Nat} (hk : k < xs.length) : w.cell? ⟨b, off + k, none⟩ = some (.int .i64 (gi xs k)) := by
  obtain ⟨b', o', e, hc⟩ := ints_get h hk
  injection e with e
  injection e with e1 e2
  subst e1; subst e2; exact hc
end Go.Proofs.YtcaialhoclodjaaGreat
namespace Go.Proofs.YtcaialhoclodjaaGreat
open Go.ChangeShapes Go.WideShapes Go.ChangeAt Go.RowKit Go.Deep
theorem own_none : ownKnob Tryz.prog.godebug = none := by kernel_rfl
theorem laidOut : laidOutB Tryz.prog = true := by kernel_rfl
section
variable {H : Type} {enc : TypeId × Value → H} {W : World}
theorem len_max {n : Nat} (h : n ≤ maxLen) : n ≤ 9223372036854775807 := by unfold maxLen at h; exact h
theorem open_ints1 {fuel : Nat} {v : Value} {x : DataW H × List MemPlace} (h : DataW.trod enc Tryz.prog W 0 (fun _ => true) true fuel 22 [v] = some x) : ∃ xs : List Int, IntsAt Any W v xs ∧ xs.length ≤ 9223372036854775807 := by
  rcases open_ints Tryz.underlying22 Tryz.underlying3 (by kernel_rfl) h with ⟨hcs, _⟩ | ⟨a, l, c, zs, hcs, _, hl, hm, hz, _, hcell, _⟩
  · obtain rfl : v = .slice none 0 0 := by simpa using hcs
    exact ⟨[], ⟨none, 0, rfl, Nat.le_refl _, .inl rfl⟩, by simp⟩
  · obtain rfl : v = .slice (some a) l c := by simpa using hcs
    simp only [if_true] at hz
    have hlen : (zs.take l).length = l := by simp; omega
    refine ⟨zs.take l, ⟨some a, c, by rw [hlen], by rw [hlen]; exact hl, ?_⟩, by rw [hlen]; exact len_max (Nat.le_trans hl hm)⟩
    by_cases h0 : l = 0
    · exact .inl (by rw [hlen]; exact h0)
    · obtain ⟨b, off, rfl, hc⟩ := ints_at hcell (by omega)
      refine .inr ⟨b, off, rfl, trivial, fun k hk => ?_⟩
      rw [hlen] at hk
      rw [hc k (by omega)]
      simp [gi, hk]
theorem open_strs1 {fuel : Nat} {v : Value} {x : DataW H × List MemPlace} (h : DataW.trod enc Tryz.prog W 0 (fun _ => true) true fuel 23 [v] = some x) : ∃ xs : List ByteArray, StrsAt Any W v xs ∧ xs.length ≤ 9223372036854775807 ∧ ∀ k, (gs xs k).size ≤ 9223372036854775807 := by
  rcases open_strings Tryz.underlying23 Tryz.underlying9 (by kernel_rfl) h with ⟨hcs, _⟩ | ⟨a, l, c, zs, hcs, _, hl, hm, hz, _, hcell, hwf⟩
  · obtain rfl : v = .slice none 0 0 := by simpa using hcs
    exact ⟨[], ⟨none, 0, rfl, Nat.le_refl _, .inl rfl⟩, by simp, fun k => by simp [gs]⟩
  · obtain rfl : v = .slice (some a) l c := by simpa using hcs
    simp only [if_true] at hz
    have hlen : (zs.take l).length = l := by simp; omega
    refine ⟨zs.take l, ⟨some a, c, by rw [hlen], by rw [hlen]; exact hl, ?_⟩, by rw [hlen]; exact len_max (Nat.le_trans hl hm), fun k => ?_⟩
    · by_cases h0 : l = 0
      · exact .inl (by rw [hlen]; exact h0)
      · obtain ⟨b, off, spot⟩ := a
        have hspot : spot = none := by simpa [Addr.add] using World.cell?_spot (hcell 0 (by omega))
        subst hspot
        refine .inr ⟨b, off, rfl, trivial, fun k hk => ?_⟩
        rw [hlen] at hk
        rw [← add_plain, hcell k (by omega)]
        have hk2 : k < zs.length := by omega
        simp [gs, hk, hk2]
    · by_cases hk : k < (zs.take l).length
      · have hm : gs (zs.take l) k ∈ zs := by
          have : gs (zs.take l) k = (zs.take l)[k] := by unfold gs; rw [List.getD_eq_getElem?_getD, List.getElem?_eq_getElem hk]; rfl
          rw [this]; exact List.mem_of_mem_take (List.getElem_mem hk)
        exact len_max (hwf _ hm)
      · have : gs (zs.take l) k = ByteArray.empty := by simp [gs, List.getElem?_eq_none (by omega : (zs.take l).length ≤ k)]
        rw [this]; simp
set_option maxRecDepth 100000 in
theorem open_tree1 {v : Value} {d : DataW H} {p : List MemPlace} {base : Nat} (hv : Value.okWide Tryz.prog W .any base 25 v) (h : DataW.Trod enc Tryz.prog W 0 (fun _ => true) true 25 v d p) :
    ∃ t : Tre, TreeAt Any W v t ∧ t.ps.length ≤ 9223372036854775807 ∧ t.ns.length ≤ 9223372036854775807 ∧ ∀ k, (gs t.ns k).size ≤ 9223372036854775807 := by
  obtain ⟨c0, c1, y0, y1, m, rfl, _, _, h0, h1⟩ := Joins.open_agg2 Tryz.underlying25 (by kernel_rfl) (by kernel_rfl) hv h
  obtain ⟨ps, hp, hpl⟩ := open_ints1 h0
  obtain ⟨ns, hn, hnl, hns⟩ := open_strs1 h1
  exact ⟨⟨ps, ns⟩, ⟨c0, c1, rfl, hp, hn⟩, hpl, hnl, hns⟩
theorem lt_of {t : TypeId} {v : Value} {d : DataW H} {p : List MemPlace} (h : DataW.Trod enc Tryz.prog W 0 (fun _ => true) true t v d p) : ∀ x ∈ p, x.block < W.heap.size := by
  obtain ⟨m, hm⟩ := h; exact DataW.trod_lt m _ _ _ hm
end
end Go.Proofs.YtcaialhoclodjaaGreat
namespace Go.Proofs.YtcaialhoclodjaaGreat
open Go.RowKit Go.Shelf Go.Deep
section
variable {F : Fence} {n : Nat} {P : Program} {C : World → Prop}
end
end Go.Proofs.YtcaialhoclodjaaGreat
namespace Go.Proofs.YtcaialhoclodjaaGreat
open Go.RowKit Go.Deep
def KindPost (c : Nat) (w : World) (e : Ending) (w' : World) : Prop := e = .returned (.int .i64 (kindL c)) ∧ w = w'
theorem kp {c : Nat} {n : Int} {w : World} (h : n = kindL c) : KindPost c w (.returned (.int .i64 n)) w := ⟨by rw [h], rfl⟩
end Go.Proofs.YtcaialhoclodjaaGreat
namespace Go.Proofs.YtcaialhoclodjaaGreat
open Go.RowKit Go.Deep
theorem Owns.form {base : Nat} {e : TypeId} {w : World} {v : Value} {vs : List Value} {n : Nat} (h : Owns base e w v vs) (hn : vs.length = n) : ∃ p cap, v = .slice p n cap ∧ (p = none ∨ ∃ g, p = some ⟨g, 0, none⟩) := by
  subst hn
  rcases h.2 with ⟨rfl, h0⟩ | ⟨g, cap, cur, rfl, _⟩
  · exact ⟨none, 0, by rw [h0], .inl rfl⟩
  · exact ⟨_, cap, rfl, .inr ⟨g, rfl⟩⟩
theorem Owns.made (w : World) (e : TypeId) : Owns w.heap.size e (w.alloc (.cells #[] e)) (.slice (some ⟨w.heap.size, 0, none⟩) 0 0) [] := World.ownsRow_made w #[] 0 (Nat.le_refl _) (by unfold maxLen; omega) (by simp)
end Go.Proofs.YtcaialhoclodjaaGreat
namespace Go.Proofs.YtcaialhoclodjaaGreat
open Go.RowKit Go.Deep
section
variable {P : Program} {ops : Array Oper} {rest : List Oper} {o : Oper} {a : Act} {Q : Exit → Act → World → Prop}
end
def EqPost (w : World) (b : Bool) (e : Ending) (w' : World) : Prop := e = .returned (.bool b) ∧ ∃ n, w' = w.drewN n
end Go.Proofs.YtcaialhoclodjaaGreat
namespace Go.Proofs.YtcaialhoclodjaaGreat
open Go.RowKit Go.Deep
theorem Owns.set {base : Nat} {e : TypeId} {w : World} {v : Value} {vs : List Value} (h : Owns base e w v vs) {j : Nat} (hj : j < vs.length) :
    ∃ g cap, v = .slice (some ⟨g, 0, none⟩) vs.length cap ∧ base ≤ g ∧ g < w.heap.size ∧ w.cell? ⟨g, j, none⟩ = some (vs.getD j undef) ∧ w.frozen? ⟨g, j, none⟩ = false ∧ ∀ x, Owns base e (w.setCell ⟨g, j, none⟩ x) v (vs.set j x) := by
  obtain ⟨hl, h | ⟨g, cap, cur, rfl, hg, hc, hn, hcm, hcs, ht⟩⟩ := h
  · omega
  · have hgl : g < w.heap.size := (Array.getElem?_eq_some_iff.1 hc).1
    have ht1 : cur.toList.take vs.length = vs := by rw [Nat.mul_one] at ht; exact ht
    have hj2 : j < cur.size := by omega
    have hcell : cur[j]? = some (vs.getD j undef) := by
      have h1 : vs[j]? = some (vs.getD j undef) := by simp [hj]
      rw [← h1]
      have h2 := congrArg (·[j]?) ht1
      simp only [List.getElem?_take, hj, if_true] at h2
      rw [← h2]; simp
    refine ⟨g, cap, rfl, hg, hgl, by simp [World.cell?, hc, hcell], by simp [World.frozen?, hc], fun x => ⟨by simp, .inr ⟨g, cap, cur.setIfInBounds j x, by simp, hg, ?_, by simpa using hn, hcm, by simpa using hcs, ?_⟩⟩⟩
    · simp [World.setCell, Array.getElem?_modify, hc]
    · rw [List.length_set, Nat.mul_one, Array.toList_setIfInBounds, List.take_set, ht1]
/-- d is a list of lists that the call owns; the lists in it lie elsewhere. -/
def RowsOwn (base : Nat) (T : TypeId) (w : World) (d : Value) (xs : List (List Int)) : Prop :=
  ∃ vals : List Value, vals.length = xs.length ∧ Owns base T w d vals ∧ ∀ i, i < xs.length → IntsAt (fun b => some b ≠ d.ownBlock) w (vals.getD i undef) (gl xs i)
theorem ownBlock_lt {base : Nat} {e : TypeId} {w : World} {v : Value} {vs : List Value} (h : Owns base e w v vs) {b : Nat} (hb : v.ownBlock = some b) : base ≤ b ∧ b < w.heap.size := World.ownsRow.lt h b hb
theorem Owns.ne {base base' : Nat} {e e' : TypeId} {w w' : World} {v u : Value} {vs us : List Value} (h : Owns base e w v vs) (_ : Owns base' e' w' u us) (hb : w.heap.size ≤ base') {b : Nat} (hb' : base' ≤ b) : some b ≠ v.ownBlock := fun e2 => by
  have := (ownBlock_lt h e2.symm).2; omega
theorem RowsOwn.nil (base : Nat) (T : TypeId) (w : World) : RowsOwn base T w (.slice none 0 0) [] := ⟨[], rfl, Owns.nil _ _ _, fun _ hi => absurd hi (Nat.not_lt_zero _)⟩
theorem RowsOwn.rows {base : Nat} {T : TypeId} {w : World} {d : Value} {xs : List (List Int)} (h : RowsOwn base T w d xs) : RowsAt Any w d xs := by
  obtain ⟨vals, hl, ho, hr⟩ := h
  have h1 := ho.slAt
  rw [hl] at h1
  exact ⟨_, h1.sub fun _ _ _ => trivial, fun k hk => (hr k hk).sub fun _ _ _ => trivial⟩
theorem RowsOwn.kept {base : Nat} {T : TypeId} {w w' : World} {d : Value} {xs : List (List Int)} (h : RowsOwn base T w d xs) (k : Up w w') : RowsOwn base T w' d xs := by
  obtain ⟨vals, hl, ho, hr⟩ := h
  exact ⟨vals, hl, ho.kept fun b _ hb => Below.block k b hb, fun i hi => (hr i hi).keep (k.kept _)⟩
section
variable {P : Program} {ops : Array Oper} {rest : List Oper} {o : Oper} {a : Act} {Q : Exit → Act → World → Prop}
end
end Go.Proofs.YtcaialhoclodjaaGreat
namespace Go.Proofs.YtcaialhoclodjaaGreat
open Go.RowKit Go.Deep
/-- Nodes 0, 1, ..: their names, old numbers and children. -/
structure Frs where
  nm : Nat → ByteArray
  old : Nat → Int
  kids : Nat → List Nat
def nptr (A : Nat → Nat) (k : Nat) : Value := .pointer (some ⟨A k, 0, none⟩)
def upd {α : Type} (f : Nat → α) (k : Nat) (x : α) (i : Nat) : α := if i = k then x else f i
theorem upd_same {α : Type} (f : Nat → α) (k : Nat) (x : α) : upd f k x k = x := by simp [upd]
theorem upd_ne {α : Type} (f : Nat → α) {k i : Nat} (x : α) (h : i ≠ k) : upd f k x i = f i := by simp [upd, h]
/-- Nodes 0 .. n - 1 lie at blocks A 0 ..; their lists of children are kv 0 ..; all of it lies at base or beyond, each block apart from every other. -/
structure FAt (base n : Nat) (A : Nat → Nat) (kv : Nat → Value) (F : Frs) (w : World) : Prop where
  node : ∀ i, i < n → w.heap[A i]? = some (.cells #[.string (F.nm i), kv i, .int .i64 (F.old i)] 61 (0, 0))
  lo : ∀ i, i < n → base ≤ A i
  inj : ∀ i j, i < n → j < n → A i = A j → i = j
  own : ∀ i, i < n → Owns base 59 w (kv i) ((F.kids i).map (nptr A))
  apart : ∀ i j, i < n → j < n → (kv i).ownBlock ≠ some (A j)
  alone : ∀ i j b, i < n → j < n → (kv i).ownBlock = some b → (kv j).ownBlock = some b → i = j
  kid : ∀ i, i < n → ∀ k ∈ F.kids i, k < n
theorem Owns.same {base : Nat} {e : TypeId} {w w' : World} {v : Value} {vs : List Value} (h : Owns base e w v vs) (k : ∀ b, v.ownBlock = some b → w'.heap[b]? = w.heap[b]?) : Owns base e w' v vs := by
  obtain ⟨hl, h | ⟨g, cap, cur, rfl, hg, hc, hr⟩⟩ := h
  · exact ⟨hl, .inl h⟩
  · exact ⟨hl, .inr ⟨g, cap, cur, rfl, hg, by rw [k g rfl]; exact hc, hr⟩⟩
theorem Owns.mono_base {base base' : Nat} {e : TypeId} {w : World} {v : Value} {vs : List Value} (h : Owns base e w v vs) (hb : base' ≤ base) : Owns base' e w v vs := by
  obtain ⟨hl, h | ⟨g, cap, cur, rfl, hg, hc, hr⟩⟩ := h
  · exact ⟨hl, .inl h⟩
  · exact ⟨hl, .inr ⟨g, cap, cur, rfl, Nat.le_trans hb hg, hc, hr⟩⟩
section
variable {base n : Nat} {A : Nat → Nat} {kv : Nat → Value} {F : Frs} {w w' : World}
theorem FAt.lt (h : FAt base n A kv F w) {i : Nat} (hi : i < n) : A i < w.heap.size := (Array.getElem?_eq_some_iff.1 (h.node i hi)).1
theorem FAt.ownlt (h : FAt base n A kv F w) {i b : Nat} (hi : i < n) (hb : (kv i).ownBlock = some b) : base ≤ b ∧ b < w.heap.size := ownBlock_lt (h.own i hi) hb
theorem FAt.name (h : FAt base n A kv F w) {i : Nat} (hi : i < n) : w.cell? ⟨A i, 0, none⟩ = some (.string (F.nm i)) := by simp [World.cell?, h.node i hi]
theorem FAt.kidv (h : FAt base n A kv F w) {i : Nat} (hi : i < n) : w.cell? ⟨A i, 1, none⟩ = some (kv i) := by simp [World.cell?, h.node i hi]
theorem FAt.oldc (h : FAt base n A kv F w) {i : Nat} (hi : i < n) : w.cell? ⟨A i, 2, none⟩ = some (.int .i64 (F.old i)) := by simp [World.cell?, h.node i hi]
theorem FAt.thaw (h : FAt base n A kv F w) {i : Nat} (hi : i < n) (o : Nat) : w.frozen? ⟨A i, o, none⟩ = false := by simp [World.frozen?, h.node i hi]
/-- What lies at the blocks of the forest lies in w' as in w. -/
theorem FAt.same (h : FAt base n A kv F w) (ha : ∀ i, i < n → w'.heap[A i]? = w.heap[A i]?) (hk : ∀ i b, i < n → (kv i).ownBlock = some b → w'.heap[b]? = w.heap[b]?) : FAt base n A kv F w' :=
  ⟨fun i hi => by rw [ha i hi]; exact h.node i hi, h.lo, h.inj, fun i hi => (h.own i hi).same fun b hb => hk i b hi hb, h.apart, h.alone, h.kid⟩
theorem FAt.kept (h : FAt base n A kv F w) (k : ∀ b, base ≤ b → b < w.heap.size → w'.heap[b]? = w.heap[b]?) : FAt base n A kv F w' :=
  h.same (fun i hi => k _ (h.lo i hi) (h.lt hi)) (fun _ _ hi hb => k _ (h.ownlt hi hb).1 (h.ownlt hi hb).2)
theorem FAt.up (h : FAt base n A kv F w) (k : Up w w') : FAt base n A kv F w' := h.kept fun b _ hb => Below.block k b hb
/-- One list of children is replaced. -/
theorem FAt.put (h : FAt base n A kv F w) {k : Nat} (hk : k < n) {v : Value} {ks : List Nat}
    (ha : ∀ i, i < n → i ≠ k → w'.heap[A i]? = w.heap[A i]?) (hn : w'.heap[A k]? = some (.cells #[.string (F.nm k), v, .int .i64 (F.old k)] 61 (0, 0)))
    (hv : Owns base 59 w' v (ks.map (nptr A))) (ho : ∀ i b, i < n → i ≠ k → (kv i).ownBlock = some b → w'.heap[b]? = w.heap[b]?)
    (hb : ∀ b, v.ownBlock = some b → (kv k).ownBlock = some b ∨ w.heap.size ≤ b) (hks : ∀ j ∈ ks, j < n) : FAt base n A (upd kv k v) { F with kids := upd F.kids k ks } w' := by
  refine ⟨fun i hi => ?_, h.lo, h.inj, fun i hi => ?_, fun i j hi hj => ?_, fun i j b hi hj h1 h2 => ?_, fun i hi => ?_⟩
  · by_cases e : i = k
    · subst e; rw [upd_same]; exact hn
    · rw [upd_ne _ _ e, ha i hi e]; exact h.node i hi
  · by_cases e : i = k
    · subst e; simp only [upd_same]; exact hv
    · simp only [upd_ne _ _ e]; exact (h.own i hi).same fun b hb => ho i b hi e hb
  · by_cases e : i = k
    · subst e; rw [upd_same]; intro h3
      rcases hb _ h3 with h4 | h4
      · exact h.apart i j hi hj h4
      · exact absurd (h.lt hj) (by omega)
    · rw [upd_ne _ _ e]; exact h.apart i j hi hj
  · by_cases e1 : i = k
    · by_cases e2 : j = k
      · rw [e1, e2]
      · subst e1
        rw [upd_same] at h1
        rw [upd_ne _ _ e2] at h2
        rcases hb _ h1 with h4 | h4
        · exact h.alone i j b hi hj h4 h2
        · exact absurd (h.ownlt hj h2).2 (by omega)
    · by_cases e2 : j = k
      · subst e2
        rw [upd_same] at h2
        rw [upd_ne _ _ e1] at h1
        rcases hb _ h2 with h4 | h4
        · exact h.alone i j b hi hj h1 h4
        · exact absurd (h.ownlt hi h1).2 (by omega)
      · rw [upd_ne _ _ e1] at h1
        rw [upd_ne _ _ e2] at h2
        exact h.alone i j b hi hj h1 h2
  · by_cases e : i = k
    · subst e; simp only [upd_same]; exact hks
    · simp only [upd_ne _ _ e]; exact h.kid i hi
/-- A node without children is laid. -/
theorem FAt.node_new (h : FAt base n A kv F w) (hb : base ≤ w.heap.size) (nm : ByteArray) (old : Int) :
    FAt base (n + 1) (upd A n w.heap.size) (upd kv n (.slice none 0 0)) ⟨upd F.nm n nm, upd F.old n old, upd F.kids n []⟩ (w.alloc (.cells #[.string nm, .slice none 0 0, .int .i64 old] 61)) := by
  have hne : ∀ i, i < n → i ≠ n := fun i hi => by omega
  have hmap : ∀ i, i < n → (F.kids i).map (nptr (upd A n w.heap.size)) = (F.kids i).map (nptr A) := fun i hi => by
    refine List.map_congr_left fun k hk => ?_
    unfold nptr; rw [upd_ne _ _ (hne k (h.kid i hi k hk))]
  have hcase : ∀ i, i < n + 1 → i < n ∨ i = n := fun i hi => by omega
  refine ⟨fun i hi => ?_, fun i hi => ?_, fun i j hi hj e => ?_, fun i hi => ?_, fun i j hi hj => ?_, fun i j b hi hj h1 h2 => ?_, fun i hi => ?_⟩
  · rcases hcase i hi with hi | rfl
    · simp only [upd_ne _ _ (hne i hi)]; rw [blk_alloc_lt _ _ _ (h.lt hi)]; exact h.node i hi
    · simp only [upd_same]; exact blk_alloc_new _ _
  · rcases hcase i hi with hi | rfl
    · rw [upd_ne _ _ (hne i hi)]; exact h.lo i hi
    · rw [upd_same]; exact hb
  · rcases hcase i hi with hi | rfl <;> rcases hcase j hj with hj | rfl
    · rw [upd_ne _ _ (hne i hi), upd_ne _ _ (hne j hj)] at e; exact h.inj i j hi hj e
    · rw [upd_ne _ _ (hne i hi), upd_same] at e; have := h.lt hi; omega
    · rw [upd_same, upd_ne _ _ (hne j hj)] at e; have := h.lt hj; omega
    · rfl
  · rcases hcase i hi with hi | rfl
    · simp only [upd_ne _ _ (hne i hi)]; rw [hmap i hi]; exact (h.own i hi).alloc _
    · simp only [upd_same]; exact Owns.nil _ _ _
  · rcases hcase i hi with hi | rfl
    · rw [upd_ne _ _ (hne i hi)]
      rcases hcase j hj with hj | rfl
      · rw [upd_ne _ _ (hne j hj)]; exact h.apart i j hi hj
      · rw [upd_same]; intro e; have := (h.ownlt hi e).2; omega
    · rw [upd_same]; intro e; cases e
  · rcases hcase i hi with hi | rfl <;> rcases hcase j hj with hj | rfl
    · rw [upd_ne _ _ (hne i hi)] at h1; rw [upd_ne _ _ (hne j hj)] at h2; exact h.alone i j b hi hj h1 h2
    · rw [upd_same] at h2; cases h2
    · rw [upd_same] at h1; cases h1
    · rfl
  · rcases hcase i hi with hi | rfl
    · simp only [upd_ne _ _ (hne i hi)]; intro k hk; have := h.kid i hi k hk; omega
    · simp only [upd_same]; intro k hk; cases hk
theorem FAt.empty (base : Nat) (A : Nat → Nat) (kv : Nat → Value) (F : Frs) (w : World) : FAt base 0 A kv F w :=
  ⟨fun _ h => absurd h (Nat.not_lt_zero _), fun _ h => absurd h (Nat.not_lt_zero _), fun _ _ h => absurd h (Nat.not_lt_zero _), fun _ h => absurd h (Nat.not_lt_zero _), fun _ _ h => absurd h (Nat.not_lt_zero _), fun _ _ _ h => absurd h (Nat.not_lt_zero _), fun _ h => absurd h (Nat.not_lt_zero _)⟩
/-- A child is appended: w' is the world behind append, v the new list. -/
theorem FAt.push (h : FAt base n A kv F w) {k c : Nat} (hk : k < n) (hc : c < n) {v : Value} (hv : Owns base 59 w' v ((F.kids k ++ [c]).map (nptr A))) (hg : w.grownBy w' (kv k).ownBlock)
    (hb : ∀ b, v.ownBlock = some b → (kv k).ownBlock = some b ∨ w.heap.size ≤ b) : FAt base n A (upd kv k v) { F with kids := upd F.kids k (F.kids k ++ [c]) } (w'.setCell ⟨A k, 1, none⟩ v) := by
  have hold : ∀ i, i < n → w'.heap[A i]? = w.heap[A i]? := fun i hi => hg.block (A i) (h.lt hi) (fun e => h.apart k i hk hi e.symm)
  have hnA : ∀ b, v.ownBlock = some b → b ≠ A k := fun b hv2 e => by
    rcases hb b hv2 with h4 | h4
    · exact h.apart k k hk hk (by rw [h4, e])
    · have := h.lt hk; omega
  refine h.put hk (fun i hi e => ?_) ?_ (hv.same fun b hv2 => blk_setCell_other _ _ _ _ (hnA b hv2)) (fun i b hi e hb2 => ?_) hb ?_
  · rw [blk_setCell_other _ _ _ _ (fun e2 => e (h.inj i k hi hk e2))]; exact hold i hi
  · have hn := hold k hk
    rw [h.node k hk] at hn
    simp [World.setCell, Array.getElem?_modify, hn]
  · have hne : b ≠ A k := fun e2 => h.apart i k hi hk (by rw [hb2, e2])
    rw [blk_setCell_other _ _ _ _ hne]
    exact hg.block b (h.ownlt hi hb2).2 (fun e2 => e (h.alone i k b hi hk hb2 e2.symm))
  · intro j hj
    rcases List.mem_append.1 hj with h1 | h1
    · exact h.kid k hk j h1
    · have : j = c := by simpa using h1
      omega
end
end Go.Proofs.YtcaialhoclodjaaGreat
