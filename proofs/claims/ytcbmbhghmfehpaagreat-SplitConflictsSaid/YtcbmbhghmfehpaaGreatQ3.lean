/- The contract of phylotree.Leaves. The contracts of parsimony.known, matrix, Check. The contract of parsimony.children: an iterator over the children of a node. A function's end behind loops over functions. A region that draws its order and only reads, within a round of a loop over a function. The contracts of parsimony.best, least. The contract of the closure that fills a row of the table. The contract of parsimony.table. The contracts of parsimony.Score and Table. The arguments of a law, opened; the frame of a law's proof. A region that draws its order, only reads, and ends in one operation that may write: by the walk in the order of the text. Names, as layer 1's and layer 31's references have them. Names, as layer 1's and layer 31's references have them: IsName, named. The contracts of slices.Clone and slices.Equal of numbers. Lists of lists that a call grows; a store into a list of the call's own. -/
import Derived.Test.YtcbmbhghmfehpaaGreatQ2
import Derived.Test.YtcbmbhghmfehpaaGreatQ1
import Derived.RangeFuncNested
import Derived.RangeFuncBound
import Derived.RangeFuncCalls
import Derived.RangeFuncLeaves
import Derived.Shelf.Abstract
import Derived.Shelf.RegionOpen
import Derived.WalkKit
import Derived.OwnWalkIn
import Derived.TacticsInMore
import Derived.LoopNIn
import Derived.LoopIn
import Derived.Sort.QuietIn
import Derived.Stop.RegionWithIn
import Derived.Test.YtcbmbhghmfehpaaGreatRows
import Derived.ProofKit
import Derived.OpenShut
import Derived.ShutString
import Derived.ChangeOld
import Derived.Below
import Derived.Deep.Matrix
import Derived.Lib.SmallJoins
import Derived.StillTail
namespace Go.Proofs.YtcbmbhghmfehpaaGreat
open Go.RowKit Go.Deep
theorem Tryz.infoI : (Tryz.prog.info? 3).map (fun i => (i.zero, i.size, i.bytes)) = some (some (.int .i64 0), 1, 8) := by kernel_rfl
def LvPost (w : World) (t : Tre) (e : Ending) (w' : World) : Prop :=
  Below w.heap.size w w' ∧ ((treeErr t ≠ 0 ∧ e = .returned (.tuple #[.slice none 0 0, .int .i64 1])) ∨
    (treeErr t = 0 ∧ ∃ v, e = .returned (.tuple #[v, .int .i64 0]) ∧ IntsAt (fun b => w.heap.size ≤ b) w' v (leavesL t.ns)))
set_option maxRecDepth 100000 in
set_option maxHeartbeats 800000 in
theorem leaves_t (S : Nat → Prop) (w : World) (v : Value) (t : Tre) (h : TreeAt S w v t) (hp : t.ps.length ≤ 1000000) (hn : t.ns.length ≤ 1000000) (hz : ∀ k, (gs t.ns k).size ≤ 70000) :
    Calls Tryz.prog 40 #[v] w (LvPost w t) := by
  obtain ⟨P, N, rfl, hP, hN⟩ := h
  have ht0 : TreeAt S (w.alloc (.cells #[P, N] 45)) (.agg #[P, N]) t := TreeAt.keep ⟨P, N, rfl, hP, hN⟩ (Kept.below ((Below.refl _ w).alloc (Nat.le_refl _) _))
  have hb0 : Below w.heap.size w (w.alloc (.cells #[P, N] 45)) := (Below.refl _ _).alloc (Nat.le_refl _) _
  have hcq : (w.alloc (.cells #[P, N] 45)).cell? ⟨w.heap.size, 1, none⟩ = some N := by simp [World.cell?_alloc_new]
  have hck := check_t S (w.alloc (.cells #[P, N] 45)) _ t ht0 hp hn hz
  rw [World.size_alloc] at hck
  have HCK := Lib.hid hck
  have HCQ := Lib.hid hcq
  have HB0 := Lib.hid hb0
  have HN := Lib.hid hN
  clear hck hcq hb0 ht0 hP hN
  by_cases he : treeErr t = 0
  · go_enter Tryz.func40, Tryz.ntmps40
    go_wp2_with fail
    refine HCK.out.mono ?_
    rintro e w1 ⟨rfl, hb1⟩
    have hbw : Below w.heap.size w w1 := HB0.out.trans (hb1.mono (by omega))
    have hN1 := HN.out.keep (Kept.below hbw)
    have hcq : w1.cell? ⟨w.heap.size, 1, none⟩ = some N := (hb1.cell (p := ⟨w.heap.size, 1, none⟩) (by simp)).trans HCQ.out
    obtain ⟨q, cap2, rfl, hcap2, HNN⟩ := SlAt.open hN1
    have hHN := Lib.hid HNN
    have hwz : w.heap.size ≤ w1.heap.size := hbw.size
    have HE := Lib.hid he
    rw [he]
    clear HNN hN1 HCK HCQ HB0 HN hb1 he
    go_wp2_with fail
    go_loopw [4, 5, 6, 13] (fun v _ _ i wr => ∃ k : Nat, k ≤ t.ns.length ∧ i = .int .i64 k ∧ Owns w1.heap.size 3 wr v ((leavesK t.ns k).map (Value.int .i64)) ∧ Below w1.heap.size w1 wr) (fun _ _ _ i _ => t.ns.length - (intOf i).toNat)
    case atStart => exact ⟨0, Nat.zero_le _, rfl, Owns.nil _ _ _, Below.refl _ _⟩
    case round =>
      obtain ⟨k, hk, rfl, hown, hbr⟩ := hrel
      by_cases hlt : k < t.ns.length
      · obtain ⟨b, off, rfl, hc0⟩ := hHN.out k hlt
        have hc : wr.cell? ⟨b, off + k, none⟩ = some (.string (gs t.ns k)) := by
          rw [hbr.cell (p := ⟨b, off + k, none⟩) (World.block_lt_of_cell? _ _ hc0)]; exact hc0
        have hsz := hbr.size
        have hsucc := leavesK_succ t.ns k
        have hll := leavesK_len t.ns k
        have hnil := toList_nil (gs t.ns k)
        have HNIL := Lib.hid hnil
        have HSU := Lib.hid hsucc
        have HLL : Hid (((leavesK t.ns k).map (Value.int .i64)).length ≤ 1000000) := by unfold Hid; rw [List.length_map]; omega
        clear hc0 hnil hsucc hll hHN hz
        generalize hgk : gs t.ns k = g at *
        clear hgk
        by_cases hg0 : g.size = 0
        · have hg1 : g.toList = [] := HNIL.out.2 hg0
          have HG0 := Lib.hid hg0
          clear hg0
          go_wp2
          go_roundw
          case rel => exact ⟨k + 1, by omega, by go_num, by rw [HSU.out, if_pos HG0.out, List.append_nil]; exact hown, hbr⟩
          case measure => simp [intOf]; omega
        · have hg1 : (g.toList == []) = false := by
            rw [Bool.eq_false_iff]; intro e; exact hg0 (HNIL.out.1 (by simpa using e))
          have hg2 : (g.toList != []) = true := by
            rw [bne_iff_ne]; intro e; exact hg0 (HNIL.out.1 (by simpa using e))
          have HG0 := Lib.hid hg0
          clear hg0
          go_wp2_with (at_builtin; refine wpList_app1 wr rfl _ _ 26 rfl w1.heap.size 3 _ 8 Tryz.underlying26 Tryz.infoI rfl (by decide) hown rfl _ rfl rfl HLL.out hsz ?_; intro g cap w2 hown1 hg1 hb1)
          go_roundw
          case rel => exact ⟨k + 1, by omega, by go_num, by rw [HSU.out, if_neg HG0.out, List.map_append]; rw [List.length_map] at hown1; exact hown1, hbr.trans hb1⟩
          case measure => simp [intOf]; omega
      · obtain rfl : k = t.ns.length := by omega
        clear hlt hk hHN
        go_wp2
        go_ret2
        exact ⟨hbw.trans (hbr.mono hwz), .inr ⟨HE.out, _, rfl, hown.ints.sub fun b hb _ => Nat.le_trans hwz hb⟩⟩
  · have he' : (treeErr t != 0) = true := by simpa using he
    have HE := Lib.hid he
    clear he
    go_enter Tryz.func40, Tryz.ntmps40
    go_wp2_with fail
    refine HCK.out.mono ?_
    rintro e w1 ⟨rfl, hb1⟩
    go_wp2_with fail
    go_ret2
    exact ⟨HB0.out.trans (hb1.mono (by omega)), .inl ⟨HE.out, rfl⟩⟩
end Go.Proofs.YtcbmbhghmfehpaaGreat
namespace Go.Proofs.YtcbmbhghmfehpaaGreat
open Go.RowKit Go.Deep
end Go.Proofs.YtcbmbhghmfehpaaGreat
namespace Go.Proofs.YtcbmbhghmfehpaaGreat
open Go.RowKit Go.Shelf Go.Deep
attribute [local go_sem] Oper.semAt_some
abbrev Kid (ps : List Int) (node : Nat) := { x : Nat // x ∈ kidsL ps node }
def vals {ps : List Int} {node : Nat} (l : List (Kid ps node)) : List Nat := l.map Subtype.val
theorem round_or {e : Ending} {A B : Prop} (h : (e = .returned (.bool true) ∧ A) ∨ (e = .returned (.bool false) ∧ B)) : ∃ bb, e = .returned (.bool bb) ∧ Hid ((bb = true ∧ A) ∨ (bb = false ∧ B)) := by
  rcases h with ⟨h1, h2⟩ | ⟨h1, h2⟩
  · exact ⟨true, h1, .inl ⟨rfl, h2⟩⟩
  · exact ⟨false, h1, .inr ⟨rfl, h2⟩⟩
/-- The blocks of T lie as they lay. -/
def KS (T : Nat → Prop) (w w' : World) : Prop := ∀ b, T b → w'.heap[b]? = w.heap[b]?
theorem KS.refl (T : Nat → Prop) (w : World) : KS T w w := fun _ _ => rfl
theorem KS.trans {T : Nat → Prop} {a b c : World} (h : KS T a b) (k : KS T b c) : KS T a c := fun i hi => (k i hi).trans (h i hi)
theorem KS.cell {T : Nat → Prop} {a b : World} (h : KS T a b) {p : Addr} (hp : T p.block) : b.cell? p = a.cell? p := World.cell?_of_block (h p.block hp)
theorem KS.drew {T : Nat → Prop} {a b : World} (h : KS T a b) : KS T a b.drew := h
theorem KS.drewN {T : Nat → Prop} {a b : World} (h : KS T a b) (n : Nat) : KS T a (b.drewN n) := h
end Go.Proofs.YtcbmbhghmfehpaaGreat
namespace Go.Proofs.YtcbmbhghmfehpaaGreat
open Go.RowKit Go.Shelf Go.Deep
/-- What is left to do at a function's end: marks of loops over functions, in which nothing waits. -/
def Marks (n₀ : Nat) (w : World) : List Deferred → Prop
  | [] => True
  | d :: ds => (∃ r, d = { target := .collected r, args := #[] } ∧ n₀ ≤ r ∧ w.heap[r]? = some (.deferred (some [])) ∧ (∀ d' ∈ ds, d'.target ≠ .collected r)) ∧ Marks n₀ w ds
theorem Marks.keep {n₀ : Nat} {w w' : World} (h : ∀ r, w.heap[r]? = some (.deferred (some [])) → n₀ ≤ r → w'.heap[r]? = w.heap[r]?) : ∀ {ds : List Deferred}, Marks n₀ w ds → Marks n₀ w' ds
  | [], _ => trivial
  | _ :: _, ⟨⟨r, e, hr, hk, hne⟩, ht⟩ => ⟨⟨r, e, hr, (h r hk hr).trans hk, hne⟩, ht.keep h⟩
theorem Marks.lt {n₀ : Nat} {w : World} : ∀ {ds : List Deferred}, Marks n₀ w ds → ∀ d ∈ ds, ∃ r, d.target = .collected r ∧ r < w.heap.size
  | _ :: _, ⟨⟨r, e, _, hk, _⟩, ht⟩, d, hd => by
    rcases List.mem_cons.1 hd with rfl | hd
    · refine ⟨r, by rw [e], ?_⟩
      rcases Nat.lt_or_ge r w.heap.size with h | h
      · exact h
      · rw [Array.getElem?_eq_none h] at hk; cases hk
    · exact ht.lt d hd
end Go.Proofs.YtcbmbhghmfehpaaGreat
namespace Go.Proofs.YtcbmbhghmfehpaaGreat
open Go.RowKit Go.Shelf Go.Deep
section
variable {F : Fence} {n : Nat} {P : Program} {ops : Array Oper} {C : World → Prop}
end
end Go.Proofs.YtcbmbhghmfehpaaGreat
namespace Go.Proofs.YtcbmbhghmfehpaaGreat
open Go.RowKit Go.Deep
end Go.Proofs.YtcbmbhghmfehpaaGreat
namespace Go.Proofs.YtcbmbhghmfehpaaGreat
open Go.RowKit Go.Shelf Go.Deep
attribute [local go_sem] Oper.semAt_some
set_option maxHeartbeats 400000 in
theorem index_int_t (S : Nat → Prop) (w : World) (v : Value) (xs : List Int) (x : Int) (h : IntsAt S w v xs) (hn : xs.length ≤ 1000000) :
    Calls Tryz.prog 126 #[v, .int .i64 x] w fun e w' => e = .returned (.int .i64 (firstIx (fun j => decide (x = gi xs j)) xs.length)) ∧ w = w' := by
  obtain ⟨p, cap, rfl, hcap, H⟩ := SlAt.open h
  clear h
  go_enter Tryz.func126, Tryz.ntmps126
  go_wp2_with fail
  go_loop [5, 8] (fun _ i => ∃ k : Nat, k ≤ xs.length ∧ i = .int .i64 k ∧ Hid (∀ j, j < k → decide (x = gi xs j) = false)) (fun _ i => xs.length - (intOf i).toNat)
  case atStart => exact ⟨0, Nat.zero_le _, rfl, fun j hj => absurd hj (Nat.not_lt_zero _)⟩
  case round =>
    obtain ⟨k, hk, rfl, hd⟩ := hrel
    by_cases hlt : k < xs.length
    · obtain ⟨b, off, rfl, hc⟩ := H k hlt
      clear H
      generalize hy : gi xs k = y at *
      have HY := Lib.hid hy
      clear hy
      by_cases hxy : x = y
      · have hx1 : (x == y) = true := by simp [hxy]
        have HXY := Lib.hid hxy
        clear hxy
        go_wp2_with fail
        go_ret
        exact ⟨ret_int (firstIx_at (p := fun j => decide (x = gi xs j)) hlt hd.out (by rw [HY.out]; simpa using HXY.out)).symm, rfl⟩
      · have hx1 : (x == y) = false := by simpa using hxy
        have HXY := Lib.hid hxy
        clear hxy
        go_wp2_with fail
        go_round
        case rel => exact ⟨k + 1, by omega, by go_num, fun j hj => if e : j = k then by subst e; rw [HY.out]; simpa using HXY.out else hd.out j (by omega)⟩
        case measure => simp [intOf]; omega
    · clear H
      go_wp2_with fail
      go_ret
      exact ⟨ret_int (firstIx_none fun j hj => hd.out j (by omega)).symm, rfl⟩
/-- The world in which a row is filled: what the closure's variables hold. -/
structure FillW (w : World) (t : Tre) (st : List Int) (cs : List (List Int)) (pC pL pS pT pO ob : Nat) (V : Nat → Value) (k : Nat) : Prop where
  cC : ∃ C, w.cell? ⟨pC, 0, none⟩ = some C ∧ RowsAt (· ≠ ob) w C cs
  cL : ∃ L, w.cell? ⟨pL, 0, none⟩ = some L ∧ IntsAt (· ≠ ob) w L (leavesL t.ns)
  cS : ∃ L, w.cell? ⟨pS, 0, none⟩ = some L ∧ IntsAt (· ≠ ob) w L st
  cT : ∃ P N, w.cell? ⟨pT, 0, none⟩ = some P ∧ w.cell? ⟨pT, 1, none⟩ = some N ∧ IntsAt (· ≠ ob) w P t.ps
  cO : w.cell? ⟨pO, 0, none⟩ = some (.slice (some ⟨ob, 0, none⟩) t.ps.length t.ps.length)
  row : w.rowIs ob 26 t.ps.length V
  rows : ∀ j, k ≤ j → j < t.ps.length → IntsAt (· ≠ ob) w (V j) (tabRow t st cs j)
  ne : pC ≠ ob ∧ pL ≠ ob ∧ pS ≠ ob ∧ pT ≠ ob ∧ pO ≠ ob
structure RoundW (w1 wr : World) (R0 m : Nat) (f : Nat → Int) (ds : List Deferred) : Prop where
  grown : w1.grownBy wr (some R0)
  row : wr.rowIs R0 3 m (fun j => .int .i64 (f j))
  marks : Marks w1.heap.size wr ds
theorem Marks.drewN {n₀ : Nat} {w : World} {ds : List Deferred} (h : Marks n₀ w ds) (k : Nat) : Marks n₀ (w.drewN k) ds := Marks.keep (w := w) (w' := w.drewN k) (fun _ _ _ => rfl) h
theorem RoundW.drewN {w1 wr : World} {R0 m : Nat} {f : Nat → Int} {ds : List Deferred} (h : RoundW w1 wr R0 m f ds) (k : Nat) : RoundW w1 (wr.drewN k) R0 m f ds :=
  ⟨⟨h.grown.os, h.grown.tape, h.grown.output, h.grown.size, h.grown.block⟩, h.row, h.marks.drewN k⟩
theorem RoundW.congr {w1 wr : World} {R0 m : Nat} {f g : Nat → Int} {ds : List Deferred} (h : RoundW w1 wr R0 m f ds) (e : ∀ j, j < m → f j = g j) : RoundW w1 wr R0 m g ds :=
  ⟨h.grown, h.row.congr fun j hj => by rw [e j hj], h.marks⟩
theorem RoundW.set {w1 wr : World} {R0 m : Nat} {f : Nat → Int} {ds : List Deferred} (h : RoundW w1 wr R0 m f ds) (hR : R0 < w1.heap.size) (s : Nat) (x : Int) :
    RoundW w1 (wr.setCell ⟨R0, s, none⟩ (.int .i64 x)) R0 m (fun j => if j = s then x else f j) ds :=
  ⟨⟨h.grown.os, h.grown.tape, h.grown.output, by rw [World.size_setCell]; exact h.grown.size, fun k hk hne => (Below.heap_setCell _ _ _ k (fun e => hne (by rw [e]))).trans (h.grown.block k hk hne)⟩,
    (h.row.set s _).congr (fun j _ => by by_cases e : j = s <;> simp [e]), h.marks.keep fun r _ hr2 => Below.heap_setCell _ _ _ r (by simp only; omega)⟩
theorem RoundW.alloc {w1 wr : World} {R0 m : Nat} {f : Nat → Int} {ds : List Deferred} (h : RoundW w1 wr R0 m f ds) (o : Obj) : RoundW w1 (wr.alloc o) R0 m f ds :=
  ⟨⟨h.grown.os, h.grown.tape, h.grown.output, by simp; have := h.grown.size; omega, fun k hk hne => (Below.heap_alloc _ _ k (Nat.lt_of_lt_of_le hk h.grown.size)).trans (h.grown.block k hk hne)⟩,
    h.row.alloc o, h.marks.keep fun r hr _ => Below.heap_alloc _ _ r (by
      rcases Nat.lt_or_ge r wr.heap.size with h | h
      · exact h
      · rw [Array.getElem?_eq_none h] at hr; cases hr)⟩
theorem kept_drewN (S : Nat → Prop) (w : World) (n : Nat) : Kept S w (w.drewN n) := fun _ _ _ => rfl
theorem grown_tr {a b c : World} {R : Nat} (h : a.grownBy b (some R)) (k : b.grownBy c (some R)) : a.grownBy c (some R) :=
  ⟨k.os.trans h.os, k.tape.trans h.tape, k.output.trans h.output, Nat.le_trans h.size k.size, fun i hi hne => (k.block i (Nat.lt_of_lt_of_le hi h.size) hne).trans (h.block i hi hne)⟩
theorem RoundW.later {w1 w7 W : World} {R0 m : Nat} {f g : Nat → Int} {ds : List Deferred} (h : RoundW w1 w7 R0 m f ds) (hg : w7.grownBy W (some R0)) (hr : W.rowIs R0 3 m (fun j => .int .i64 (g j))) (hR : R0 < w1.heap.size) : RoundW w1 W R0 m g ds :=
  ⟨grown_tr h.grown hg, hr, h.marks.keep fun r hr hr2 => hg.block r (by
      rcases Nat.lt_or_ge r w7.heap.size with h | h
      · exact h
      · rw [Array.getElem?_eq_none h] at hr; cases hr) (by simp; omega)⟩
end Go.Proofs.YtcbmbhghmfehpaaGreat
namespace Go.Proofs.YtcbmbhghmfehpaaGreat
open Go.RowKit Go.Deep
theorem cell_at_new (W : World) (cs : Array Value) (t : TypeId) (k : Nat) : (W.alloc (.cells cs t)).cell? ⟨W.heap.size, k, none⟩ = cs[k]? := by
  unfold World.cell?; rw [World.alloc_heap_new]; rfl
theorem FillW.step {w w' : World} {t : Tre} {st : List Int} {cs : List (List Int)} {pC pL pS pT pO ob : Nat} {V : Nat → Value} {j : Nat} {v : Value} (h : FillW w t st cs pC pL pS pT pO ob V (j + 1))
    (hg : w.grownBy w' (some ob)) (hr : w'.rowIs ob 26 t.ps.length (fun x => if x = j then v else V x)) (hv : IntsAt (· ≠ ob) w' v (tabRow t st cs j)) : FillW w' t st cs pC pL pS pT pO ob (fun x => if x = j then v else V x) j := by
  have hk : Kept (· ≠ ob) w w' := fun b hb hl => hg.block b hl (by simp; exact hb)
  have hc : ∀ {p o : Nat} {x : Value}, p ≠ ob → w.cell? ⟨p, o, none⟩ = some x → w'.cell? ⟨p, o, none⟩ = some x := fun hp hx => hg.cell hx (by simp; exact hp)
  obtain ⟨n1, n2, n3, n4, n5⟩ := h.ne
  obtain ⟨C, a1, a2⟩ := h.cC
  obtain ⟨L, b1, b2⟩ := h.cL
  obtain ⟨Q, c1, c2⟩ := h.cS
  obtain ⟨P, N, d1, d2, d3⟩ := h.cT
  refine ⟨⟨C, hc n1 a1, a2.keep hk⟩, ⟨L, hc n2 b1, b2.keep hk⟩, ⟨Q, hc n3 c1, c2.keep hk⟩, ⟨P, N, hc n4 d1, hc n4 d2, d3.keep hk⟩, hc n5 h.cO, hr, fun x h1 h2 => ?_, h.ne⟩
  by_cases e : x = j
  · subst e; simp only [if_true]; exact hv
  · simp only [e, if_false]; exact (h.rows x (by omega) h2).keep hk
end Go.Proofs.YtcbmbhghmfehpaaGreat
namespace Go.Proofs.YtcbmbhghmfehpaaGreat
open Go.RowKit Go.Deep
/-- What lay in w lies in w' as it lay. -/
def Up (w w' : World) : Prop := Below w.heap.size w w'
theorem Up.refl (w : World) : Up w w := Below.refl _ _
theorem Up.trans {a b c : World} (h : Up a b) (k : Up b c) : Up a c := Below.trans h (Below.mono k h.size)
theorem Up.alloc (w : World) (o : Obj) : Up w (w.alloc o) := (Below.refl _ _).alloc (Nat.le_refl _) _
theorem Up.drewN (w : World) (n : Nat) : Up w (w.drewN n) := below_drewN (Below.refl _ _) n
theorem Up.kept {w w' : World} (h : Up w w') (S : Nat → Prop) : Kept S w w' := Kept.below h
theorem Up.size {w w' : World} (h : Up w w') : w.heap.size ≤ w'.heap.size := Below.size h
theorem Up.cell {w w' : World} (h : Up w w') {p : Addr} {v : Value} (hc : w.cell? p = some v) : w'.cell? p = some v := by
  obtain ⟨b, o, i⟩ := p
  have hl : b < w.heap.size := World.block_lt_of_cell? w _ hc
  rw [Below.cell h (p := ⟨b, o, i⟩) hl]; exact hc
theorem box2_0 (w : World) (P N : Value) (T : TypeId) : (w.alloc (.cells #[P, N] T)).cell? ⟨w.heap.size, 0, none⟩ = some P := by simp [World.cell?_alloc_new]
theorem box2_1 (w : World) (P N : Value) (T : TypeId) : (w.alloc (.cells #[P, N] T)).cell? ⟨w.heap.size, 1, none⟩ = some N := by simp [World.cell?_alloc_new]
theorem box1_0 (w : World) (P : Value) (T : TypeId) : (w.alloc (.cells #[P] T)).cell? ⟨w.heap.size, 0, none⟩ = some P := by simp [World.cell?_alloc_new]
theorem rows_open {S : Nat → Prop} {w : World} {v : Value} {xs : List (List Int)} (h : RowsAt S w v xs) : ∃ p cap, v = .slice p xs.length cap ∧ xs.length ≤ cap ∧
    ∀ k, k < xs.length → ∃ b off q c, p = some ⟨b, off, none⟩ ∧ w.cell? ⟨b, off + k, none⟩ = some (.slice q (gl xs k).length c) ∧ IntsAt S w (.slice q (gl xs k).length c) (gl xs k) := by
  obtain ⟨f, hsl, hr⟩ := h
  obtain ⟨p, cap, rfl, hcap, H⟩ := SlAt.open hsl
  refine ⟨p, cap, rfl, hcap, fun k hk => ?_⟩
  obtain ⟨b, off, rfl, hc⟩ := H k hk
  have h1 := hr k hk
  obtain ⟨q, c, e, _, _⟩ := SlAt.open h1
  rw [e] at hc h1
  exact ⟨b, off, q, c, rfl, hc, h1⟩
theorem ints_get {S : Nat → Prop} {w : World} {p : Option Addr} {n cap : Nat} {xs : List Int} (h : IntsAt S w (.slice p n cap) xs) {k : Nat} (hk : k < xs.length) : ∃ b off, p = some ⟨b, off, none⟩ ∧ w.cell? ⟨b, off + k, none⟩ = some (.int .i64 (gi xs k)) := by
  obtain ⟨q, c, e, _, H⟩ := SlAt.open h
  injection e with e1
  subst e1
  exact H k hk
theorem strs_get {S : Nat → Prop} {w : World} {p : Option Addr} {n cap : Nat} {xs : List ByteArray} (h : StrsAt S w (.slice p n cap) xs) {k : Nat} (hk : k < xs.length) : ∃ b off, p = some ⟨b, off, none⟩ ∧ w.cell? ⟨b, off + k, none⟩ = some (.string (gs xs k)) := by
  obtain ⟨q, c, e, _, H⟩ := SlAt.open h
  injection e with e1
  subst e1
  exact H k hk
theorem rows_get {S : Nat → Prop} {w : World} {p : Option Addr} {n cap : Nat} {xs : List (List Int)} (h : RowsAt S w (.slice p n cap) xs) {k : Nat} (hk : k < xs.length) :
    ∃ b off q c, p = some ⟨b, off, none⟩ ∧ w.cell? ⟨b, off + k, none⟩ = some (.slice q (gl xs k).length c) ∧ IntsAt S w (.slice q (gl xs k).length c) (gl xs k) := by
  obtain ⟨q, c, e, _, H⟩ := rows_open h
  injection e with e1
  subst e1
  exact H k hk
theorem ints_get' {S : Nat → Prop} {w : World} {b off : Nat} {n cap : Nat} {xs : List Int} (h : IntsAt S w (.slice (some ⟨b, off, none⟩) n cap) xs) {k : Nat} (hk : k < xs.length) : w.cell? ⟨b, off + k, none⟩ = some (.int .i64 (gi xs k)) := by
  obtain ⟨b', o', e, hc⟩ := ints_get h hk
  injection e with e
  injection e with e1 e2
  subst e1; subst e2; exact hc
end Go.Proofs.YtcbmbhghmfehpaaGreat
namespace Go.Proofs.YtcbmbhghmfehpaaGreat
open Go.ChangeShapes Go.WideShapes Go.ChangeAt Go.RowKit Go.Deep
theorem own_none : ownKnob Tryz.prog.godebug = none := by kernel_rfl
theorem laidOut : laidOutB Tryz.prog = true := by kernel_rfl
section
variable {H : Type} {enc : TypeId × Value → H} {W : World}
theorem len_max {n : Nat} (h : n ≤ maxLen) : n ≤ 9223372036854775807 := by unfold maxLen at h; exact h
theorem open_strs1 {fuel : Nat} {v : Value} {x : DataW H × List MemPlace} (h : DataW.trod enc Tryz.prog W 0 (fun _ => true) true fuel 43 [v] = some x) : ∃ xs : List ByteArray, StrsAt Any W v xs ∧ xs.length ≤ 9223372036854775807 ∧ ∀ k, (gs xs k).size ≤ 9223372036854775807 := by
  rcases open_strings Tryz.underlying43 Tryz.underlying9 (by kernel_rfl) h with ⟨hcs, _⟩ | ⟨a, l, c, zs, hcs, _, hl, hm, hz, _, hcell, hwf⟩
  · obtain rfl : v = .slice none 0 0 := by simpa using hcs
    exact ⟨[], ⟨none, 0, rfl, Nat.le_refl _, .inl rfl⟩, by simp, fun k => by simp [gs]⟩
  · obtain rfl : v = .slice (some a) l c := by simpa using hcs
    simp only [if_true] at hz
    have hlen : (zs.take l).length = l := by simp; omega
    refine ⟨zs.take l, ⟨some a, c, by rw [hlen], by rw [hlen]; exact hl, ?_⟩, by rw [hlen]; exact len_max (Nat.le_trans hl hm), fun k => ?_⟩
    · by_cases h0 : l = 0
      · exact .inl (by rw [hlen]; exact h0)
      · obtain ⟨b, off, spot⟩ := a
        have hspot : spot = none := by simpa [Addr.add] using World.cell?_spot (hcell 0 (by omega))
        subst hspot
        refine .inr ⟨b, off, rfl, trivial, fun k hk => ?_⟩
        rw [hlen] at hk
        rw [← add_plain, hcell k (by omega)]
        have hk2 : k < zs.length := by omega
        simp [gs, hk, hk2]
    · by_cases hk : k < (zs.take l).length
      · have hm : gs (zs.take l) k ∈ zs := by
          have : gs (zs.take l) k = (zs.take l)[k] := by unfold gs; rw [List.getD_eq_getElem?_getD, List.getElem?_eq_getElem hk]; rfl
          rw [this]; exact List.mem_of_mem_take (List.getElem_mem hk)
        exact len_max (hwf _ hm)
      · have : gs (zs.take l) k = ByteArray.empty := by simp [gs, List.getElem?_eq_none (by omega : (zs.take l).length ≤ k)]
        rw [this]; simp
theorem open_rows1 {fuel : Nat} {v : Value} {x : DataW H × List MemPlace} (h : DataW.trod enc Tryz.prog W 0 (fun _ => true) true fuel 22 [v] = some x) : ∃ xs : List (List Int), RowsAt Any W v xs ∧ xs.length ≤ 9223372036854775807 ∧ ∀ k, (gl xs k).length ≤ 9223372036854775807 := by
  rcases open_int_rows Tryz.underlying22 Tryz.underlying26 Tryz.underlying3 (by kernel_rfl) (by kernel_rfl) h with ⟨hcs, _⟩ | ⟨a, l, c, A, L, C, Z, hcs, _, hl, hm, _, hr⟩
  · obtain rfl : v = .slice none 0 0 := by simpa using hcs
    exact ⟨[], ⟨fun _ => undef, ⟨none, 0, rfl, Nat.le_refl _, .inl rfl⟩, fun k hk => absurd hk (Nat.not_lt_zero _)⟩, by simp, fun k => by simp [gl]⟩
  · obtain rfl : v = .slice (some a) l c := by simpa using hcs
    have hlen : ((List.range l).map fun r => (Z r).take (L r)).length = l := by simp
    have hgl : ∀ k, k < l → gl ((List.range l).map fun r => (Z r).take (L r)) k = (Z k).take (L k) := fun k hk => by simp [gl, hk]
    have hLk : ∀ k, k < l → ((Z k).take (L k)).length = L k := fun k hk => by obtain ⟨_, h1, _, h3, _⟩ := hr k (by omega); simp; omega
    refine ⟨(List.range l).map fun r => (Z r).take (L r), ⟨fun k => .slice (A k) (L k) (C k), ⟨some a, c, by rw [hlen], by rw [hlen]; exact hl, ?_⟩, fun k hk => ?_⟩, by rw [hlen]; exact len_max (Nat.le_trans hl hm), fun k => ?_⟩
    · by_cases h0 : l = 0
      · exact .inl (by rw [hlen]; exact h0)
      · obtain ⟨b, off, spot⟩ := a
        have hspot : spot = none := by simpa [Addr.add] using World.cell?_spot (hr 0 (by omega)).1
        subst hspot
        refine .inr ⟨b, off, rfl, trivial, fun k hk => ?_⟩
        rw [hlen] at hk
        rw [← add_plain]; exact (hr k (by omega)).1
    · rw [hlen] at hk
      obtain ⟨_, h1, h2, h3, _, h5, h6⟩ := hr k (by omega)
      rw [hgl k hk]
      refine ⟨A k, C k, by rw [hLk k hk], by rw [hLk k hk]; exact h1, ?_⟩
      by_cases h0 : L k = 0
      · exact .inl (by rw [hLk k hk]; exact h0)
      · cases hA : A k with
        | none => have := h5 hA; omega
        | some a' =>
          obtain ⟨_, h7⟩ := h6 a' hA
          obtain ⟨b, off, rfl, hc⟩ := ints_at (zs := Z k) (k := .i64) (fun i hi => h7 i (by omega)) (by omega)
          refine .inr ⟨b, off, rfl, trivial, fun j hj => ?_⟩
          rw [hLk k hk] at hj
          rw [hc j (by omega)]
          simp [gi, hj]
    · by_cases hk : k < l
      · rw [hgl k hk, hLk k hk]
        obtain ⟨_, h1, h2, _⟩ := hr k (by omega)
        exact len_max (Nat.le_trans h1 h2)
      · have : gl ((List.range l).map fun r => (Z r).take (L r)) k = [] := by simp [gl, hk]
        rw [this]; simp
theorem trod_one {t : TypeId} {v : Value} {d : DataW H} {p : List MemPlace} (h1 : v.cells = #[v]) (h : DataW.Trod enc Tryz.prog W 0 (fun _ => true) true t v d p) : ∃ fuel, DataW.trod enc Tryz.prog W 0 (fun _ => true) true fuel t [v] = some (d, p) := by
  obtain ⟨n, hn⟩ := h
  rw [h1] at hn; exact ⟨n, hn⟩
theorem lt_of {t : TypeId} {v : Value} {d : DataW H} {p : List MemPlace} (h : DataW.Trod enc Tryz.prog W 0 (fun _ => true) true t v d p) : ∀ x ∈ p, x.block < W.heap.size := by
  obtain ⟨m, hm⟩ := h; exact DataW.trod_lt m _ _ _ hm
set_option maxRecDepth 100000 in
theorem open_rowsV {v : Value} {d : DataW H} {p : List MemPlace} {base : Nat} (hv : Value.okWide Tryz.prog W .any base 22 v) (h : DataW.Trod enc Tryz.prog W 0 (fun _ => true) true 22 v d p) : ∃ xs : List (List Int), RowsAt Any W v xs ∧ xs.length ≤ 9223372036854775807 ∧ ∀ k, (gl xs k).length ≤ 9223372036854775807 := by
  obtain ⟨a, l, c, rfl⟩ := okWide_slice Tryz.underlying22 hv
  obtain ⟨n, hn⟩ := trod_one rfl h
  exact open_rows1 hn
end
end Go.Proofs.YtcbmbhghmfehpaaGreat
namespace Go.Proofs.YtcbmbhghmfehpaaGreat
open Go.RowKit Go.Shelf Go.Deep
section
variable {F : Fence} {n : Nat} {P : Program} {C : World → Prop}
end
end Go.Proofs.YtcbmbhghmfehpaaGreat
namespace Go.Proofs.YtcbmbhghmfehpaaGreat
open Go.RowKit Go.Deep
def KindPost (c : Nat) (w : World) (e : Ending) (w' : World) : Prop := e = .returned (.int .i64 (kindL c)) ∧ w = w'
theorem kp {c : Nat} {n : Int} {w : World} (h : n = kindL c) : KindPost c w (.returned (.int .i64 n)) w := ⟨by rw [h], rfl⟩
end Go.Proofs.YtcbmbhghmfehpaaGreat
namespace Go.Proofs.YtcbmbhghmfehpaaGreat
open Go.RowKit Go.Deep
theorem SlAt.at0 {S : Nat → Prop} {w : World} {b n cap : Nat} {f : Nat → Value} {o : Nat} (h : SlAt S w (.slice (some ⟨b, o, none⟩) n cap) n f) {k : Nat} (hk : k < n) : w.cell? ⟨b, o + k, none⟩ = some (f k) := by
  obtain ⟨p, c, e, _, H⟩ := h.open
  cases e
  obtain ⟨b', o', e', hc⟩ := H k hk
  cases e'
  exact hc
theorem Owns.form {base : Nat} {e : TypeId} {w : World} {v : Value} {vs : List Value} {n : Nat} (h : Owns base e w v vs) (hn : vs.length = n) : ∃ p cap, v = .slice p n cap ∧ (p = none ∨ ∃ g, p = some ⟨g, 0, none⟩) := by
  subst hn
  rcases h.2 with ⟨rfl, h0⟩ | ⟨g, cap, cur, rfl, _⟩
  · exact ⟨none, 0, by rw [h0], .inl rfl⟩
  · exact ⟨_, cap, rfl, .inr ⟨g, rfl⟩⟩
theorem Owns.made (w : World) (e : TypeId) : Owns w.heap.size e (w.alloc (.cells #[] e)) (.slice (some ⟨w.heap.size, 0, none⟩) 0 0) [] := World.ownsRow_made w #[] 0 (Nat.le_refl _) (by unfold maxLen; omega) (by simp)
end Go.Proofs.YtcbmbhghmfehpaaGreat
namespace Go.Proofs.YtcbmbhghmfehpaaGreat
open Go.RowKit Go.Deep
section
variable {P : Program} {ops : Array Oper} {rest : List Oper} {o : Oper} {a : Act} {Q : Exit → Act → World → Prop}
/-- 'out = append(out, src...)'. -/
theorem wpList_appS (W : World) (hgd : o.guard = none) (s x : Operand) (t : TypeId) (ho : o.op = .call { callee := .builtin .append, args := #[s, x], argTypes := #[t, t] })
    (base : Nat) (e : TypeId) (z : Value) (bytes : Nat) (ht : P.underlying t = some (.slice e)) (hinfo : (P.info? e).map (fun i => (i.zero, i.size, i.bytes)) = some (some z, 1, bytes))
    (hz1 : z.cells.size = 1) (hb8 : bytes ≤ 64) {v : Value} {vs : List Value} (hown : Owns base e W v vs) (hs : a.eval s = v) (ad : Addr) (c : Nat) (news : List Value)
    (hx : a.eval x = .slice (some ad) news.length c) (hnews : ∀ j u, news[j]? = some u → W.cell? (ad.add j) = some u) (h1 : ∀ u ∈ news, u.oneCell' = true) (hn : vs.length + news.length ≤ 1000000) (hbase : base ≤ W.heap.size)
    (h : ∀ v' w', Owns base e w' v' (vs ++ news) → W.grownBy w' v.ownBlock → Below base W w' → wpList P ops Q rest (a.put o.dst v') w') :
    wpList P ops Q (o :: rest) a W := by
  obtain ⟨i, hi, hzz⟩ := Option.map_eq_some_iff.1 hinfo
  simp only [Prod.mk.injEq] at hzz
  obtain ⟨hz, hs1, hb⟩ := hzz
  refine wpList_append_own _ hgd s x t ho base e i z 1 bytes ht hi hz hs1 hb hz1 (by omega) v vs.length vs hs hown ad news.length c news hx (by omega) hnews h1
    (by unfold maxLen; omega) ?_ hbase fun v' w' h2 h3 _ => h v' w' ?_ h3 (hown.grown_below h3 hbase)
  · have : (vs.length + news.length) * bytes ≤ (vs.length + news.length) * 64 := Nat.mul_le_mul_left _ hb8
    omega
  · unfold Owns; rw [List.length_append]; exact h2
end
theorem news_ints {S : Nat → Prop} {w : World} {b off n cap : Nat} {xs : List Int} (h : IntsAt S w (.slice (some ⟨b, off, none⟩) n cap) xs) : ∀ j u, (xs.map (Value.int .i64))[j]? = some u → w.cell? ((⟨b, off, none⟩ : Addr).add j) = some u := by
  intro j u hj
  have hadd : (⟨b, off, none⟩ : Addr).add j = ⟨b, off + j, none⟩ := by unfold Addr.add; split <;> simp_all
  rw [List.getElem?_map] at hj
  obtain ⟨x, hx, rfl⟩ := Option.map_eq_some_iff.1 hj
  have hk : j < xs.length := (List.getElem?_eq_some_iff.1 hx).1
  rw [hadd, ints_get' h hk]
  simp [gi, hx]
/-- Equal numbers, one by one. -/
theorem ints_ext {xs ys : List Int} (hl : xs.length = ys.length) (h : ∀ j, j < xs.length → gi xs j = gi ys j) : xs = ys := by
  refine List.ext_getElem hl fun i h1 h2 => ?_
  have := h i h1
  simpa [gi, h1, h2] using this
def EqPost (w : World) (b : Bool) (e : Ending) (w' : World) : Prop := e = .returned (.bool b) ∧ ∃ n, w' = w.drewN n
set_option maxRecDepth 100000 in
set_option maxHeartbeats 400000 in
theorem equal_int_t (S T : Nat → Prop) (w : World) (v u : Value) (xs ys : List Int) (h : IntsAt S w v xs) (h2 : IntsAt T w u ys) (hn : xs.length ≤ 1000000) (hn2 : ys.length ≤ 1000000) :
    Calls Tryz.prog 23 #[v, u] w (EqPost w (decide (xs = ys))) := by
  obtain ⟨p, cap, rfl, hcap, _⟩ := SlAt.open h
  obtain ⟨q, cap2, rfl, hcap2, _⟩ := SlAt.open h2
  have HX : Hid (IntsAt S w (.slice p xs.length cap) xs) := h
  have HY : Hid (IntsAt T w (.slice q ys.length cap2) ys) := h2
  clear h h2
  by_cases hl : xs.length = ys.length
  · have hl1 : ((xs.length : Int) != ys.length) = false := by simp [hl]
    have HL := Lib.hid hl
    clear hl
    go_enter Tryz.func23, Tryz.ntmps23
    go_wp2_with fail
    go_loopw [5, 13] (fun _ i wr => ∃ k n : Nat, k ≤ xs.length ∧ i = .int .i64 k ∧ wr = w.drewN n ∧ Hid (∀ j, j < k → gi xs j = gi ys j)) (fun _ i _ => xs.length - (intOf i).toNat)
    case atStart => exact ⟨0, 0, Nat.zero_le _, rfl, rfl, fun j hj => absurd hj (Nat.not_lt_zero _)⟩
    case round =>
      obtain ⟨k, n, hk, rfl, rfl, hd⟩ := hrel
      by_cases hlt : k < xs.length
      · have hlt2 : k < ys.length := by rw [← HL.out]; exact hlt
        obtain ⟨b, off, rfl, hc⟩ := ints_get HX.out hlt
        obtain ⟨b2, off2, rfl, hc2⟩ := ints_get HY.out hlt2
        have i1 : (0 : Int) ≤ (k : Int) := by omega
        have i2 : (k : Int) < (xs.length : Int) := by omega
        have i3 : (k : Int) < (ys.length : Int) := by omega
        generalize hx : gi xs k = x at *
        generalize hy : gi ys k = y at *
        have HXX := Lib.hid hx
        have HYY := Lib.hid hy
        clear hx hy
        by_cases hxy : x = y
        · have hxy1 : (x != y) = false := by simp [hxy]
          have HXY := Lib.hid hxy
          clear hxy
          go_wp2_with fail
          go_quiet (fail)
          go_wp2_with fail
          go_roundw
          case rel => exact ⟨k + 1, n + nq, by omega, by go_num, rfl, fun j hj => if e : j = k then by subst e; rw [HXX.out, HYY.out, HXY.out] else hd.out j (by omega)⟩
          case measure => simp [intOf]; omega
        · have hxy1 : (x != y) = true := by simpa using hxy
          have HXY := Lib.hid hxy
          clear hxy
          go_wp2_with fail
          go_quiet (fail)
          go_wp2_with fail
          go_ret
          refine ⟨ret_bool ?_, n + nq, by rw [World.drewN_drewN]⟩
          rw [eq_comm, decide_eq_false_iff_not]
          rintro rfl
          exact HXY.out (by rw [← HXX.out, ← HYY.out])
      · obtain rfl : k = xs.length := by omega
        clear hlt hk
        have hex : xs = ys := ints_ext HL.out hd.out
        have HEX : Hid (decide (xs = ys) = true) := decide_eq_true hex
        clear hex
        go_wp2_with fail
        go_ret
        exact ⟨ret_bool (by rw [HEX.out]), n, rfl⟩
  · have hl1 : ((xs.length : Int) != ys.length) = true := by simp; omega
    have HL := Lib.hid hl
    clear hl
    go_enter Tryz.func23, Tryz.ntmps23
    go_wp2_with fail
    go_ret
    refine ⟨ret_bool ?_, 0, rfl⟩
    rw [eq_comm, decide_eq_false_iff_not]
    rintro rfl
    exact HL.out rfl
end Go.Proofs.YtcbmbhghmfehpaaGreat
namespace Go.Proofs.YtcbmbhghmfehpaaGreat
open Go.RowKit Go.Deep
theorem Owns.set {base : Nat} {e : TypeId} {w : World} {v : Value} {vs : List Value} (h : Owns base e w v vs) {j : Nat} (hj : j < vs.length) :
    ∃ g cap, v = .slice (some ⟨g, 0, none⟩) vs.length cap ∧ base ≤ g ∧ g < w.heap.size ∧ w.cell? ⟨g, j, none⟩ = some (vs.getD j undef) ∧ w.frozen? ⟨g, j, none⟩ = false ∧ ∀ x, Owns base e (w.setCell ⟨g, j, none⟩ x) v (vs.set j x) := by
  obtain ⟨hl, h | ⟨g, cap, cur, rfl, hg, hc, hn, hcm, hcs, ht⟩⟩ := h
  · omega
  · have hgl : g < w.heap.size := (Array.getElem?_eq_some_iff.1 hc).1
    have ht1 : cur.toList.take vs.length = vs := by rw [Nat.mul_one] at ht; exact ht
    have hj2 : j < cur.size := by omega
    have hcell : cur[j]? = some (vs.getD j undef) := by
      have h1 : vs[j]? = some (vs.getD j undef) := by simp [hj]
      rw [← h1]
      have h2 := congrArg (·[j]?) ht1
      simp only [List.getElem?_take, hj, if_true] at h2
      rw [← h2]; simp
    refine ⟨g, cap, rfl, hg, hgl, by simp [World.cell?, hc, hcell], by simp [World.frozen?, hc], fun x => ⟨by simp, .inr ⟨g, cap, cur.setIfInBounds j x, by simp, hg, ?_, by simpa using hn, hcm, by simpa using hcs, ?_⟩⟩⟩
    · simp [World.setCell, Array.getElem?_modify, hc]
    · rw [List.length_set, Nat.mul_one, Array.toList_setIfInBounds, List.take_set, ht1]
/-- d is a list of lists that the call owns; the lists in it lie elsewhere. -/
def RowsOwn (base : Nat) (T : TypeId) (w : World) (d : Value) (xs : List (List Int)) : Prop :=
  ∃ vals : List Value, vals.length = xs.length ∧ Owns base T w d vals ∧ ∀ i, i < xs.length → IntsAt (fun b => some b ≠ d.ownBlock) w (vals.getD i undef) (gl xs i)
theorem ownBlock_lt {base : Nat} {e : TypeId} {w : World} {v : Value} {vs : List Value} (h : Owns base e w v vs) {b : Nat} (hb : v.ownBlock = some b) : base ≤ b ∧ b < w.heap.size := World.ownsRow.lt h b hb
theorem take_gl {l : List (List Int)} {m : Nat} (h : m < l.length) : l.take (m + 1) = l.take m ++ [gl l m] := by
  rw [List.take_succ_eq_append_getElem h]; simp [gl, h]
theorem Owns.ne {base base' : Nat} {e e' : TypeId} {w w' : World} {v u : Value} {vs us : List Value} (h : Owns base e w v vs) (_ : Owns base' e' w' u us) (hb : w.heap.size ≤ base') {b : Nat} (hb' : base' ≤ b) : some b ≠ v.ownBlock := fun e2 => by
  have := (ownBlock_lt h e2.symm).2; omega
theorem RowsOwn.nil (base : Nat) (T : TypeId) (w : World) : RowsOwn base T w (.slice none 0 0) [] := ⟨[], rfl, Owns.nil _ _ _, fun _ hi => absurd hi (Nat.not_lt_zero _)⟩
theorem RowsOwn.rows {base : Nat} {T : TypeId} {w : World} {d : Value} {xs : List (List Int)} (h : RowsOwn base T w d xs) : RowsAt Any w d xs := by
  obtain ⟨vals, hl, ho, hr⟩ := h
  have h1 := ho.slAt
  rw [hl] at h1
  exact ⟨_, h1.sub fun _ _ _ => trivial, fun k hk => (hr k hk).sub fun _ _ _ => trivial⟩
theorem RowsOwn.kept {base : Nat} {T : TypeId} {w w' : World} {d : Value} {xs : List (List Int)} (h : RowsOwn base T w d xs) (k : Up w w') : RowsOwn base T w' d xs := by
  obtain ⟨vals, hl, ho, hr⟩ := h
  exact ⟨vals, hl, ho.kept fun b _ hb => Below.block k b hb, fun i hi => (hr i hi).keep (k.kept _)⟩
section
variable {P : Program} {ops : Array Oper} {rest : List Oper} {o : Oper} {a : Act} {Q : Exit → Act → World → Prop}
end
end Go.Proofs.YtcbmbhghmfehpaaGreat
