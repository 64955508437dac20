/- Valid trees and their texts, plain: what the statements on texts, equal trees and canonical trees say. The parts of the rerooted tree, plain: which sets of leaves they have. The contract of layer 31's reference's SameTree, at trees that are the same. The example of the chapter: three, awake. The example of chapter 35: awake. The plain law of SharederrorSupport: the supports of the different sets. The walk of SharederrorSupport. The walk of SharederrorLeaves. The walk of SharederrorNested. The contract of phylotree.pruned. The contract of phylotree.contracted. The contract of phylotree.made. The contract of phylotree.Restrict. SharederrorClades, plain: the groups of the nodes have no conflict; their tree is the tree without nodes that have one child. The walk of phylotree.Restrict. The walk of phylotree.Reroot. The turns of Reroot in memory. Check, for names of any size. SharederrorClades, plain: Restrict keeps the whole tree, Consistent finds every group. SharederrorClades: what its loops keep in memory. The contract of phylotree.Reroot. Rerooting twice, plain. The root of a rerooted tree, plain. The last common ancestor of two nodes, plain. What Parse answers. The example of chapter 31, plain: what its functions answer. The helpers of the statements on layer 31: below, find, names, example. strings.IndexAny: laid Parse: what its loop keeps in memory. The contract of phylotree.Parse. strings.IndexRune: a rune above ASCII is not among the four signs. strings.IndexAny at the four signs, for strings of any bytes. The example of chapter 31: awake. The contracts of layer 35's reference's beyond and GreatNames, of layer 31's reference's Great. The contract of layer 31's reference's Great. The statements' bounds on layer 31's trees. The contract of phylotree.Same. PhylotreeTexts, plain. PhylotreeRerooted, plain. The parts of a restricted tree, plain: which sets of leaves they have; restricting twice. PhylotreeRestricted, plain. -/
import Derived.Test.YtcbmbhghmfehpaaGreatQ25
import Derived.Test.YtcbmbhghmfehpaaGreatQ23
import Derived.Test.YtcbmbhghmfehpaaGreatQ22
import Derived.Test.YtcbmbhghmfehpaaGreatQ9
import Derived.Test.YtcbmbhghmfehpaaGreatQ12
import Derived.Test.YtcbmbhghmfehpaaGreatQ20
import Derived.Test.YtcbmbhghmfehpaaGreatQ24
import Derived.Test.YtcbmbhghmfehpaaGreatQ3
import Derived.Test.YtcbmbhghmfehpaaGreatQ2
import Derived.Test.YtcbmbhghmfehpaaGreatQ7
import Derived.Shelf.SlGeneric
import Derived.Shelf.Strings.IndexAnyAll
import Derived.Ground.NamesProg
import Derived.Ground.Names2Prog
import Derived.Test.YtcbmbhghmfehpaaGreatProg
import Derived.Test.YtcbmbhghmfehpaaGreatQ18
import Derived.Test.YtcbmbhghmfehpaaGreatQ15
import Derived.Laws.RangeAny
import Derived.WalkMore
import Derived.Shelf.Small.Utf8
import Derived.Shelf.Small.Strs
import Derived.Lib.OthersKept
import Derived.Deep.RegionHeld3
import Derived.Test.YtcbmbhghmfehpaaGreatQ19
namespace Go.Proofs.YtcbmbhghmfehpaaGreat
section
variable {t : Tre}
theorem hit_all0 (h : treeErr t = 0) : ∀ (d j : Nat), j ≤ d → j < t.ps.length → hitB t.ps 0 j = true
  | d, j, hd, hj => by
    by_cases h0 : j = 0
    · subst h0; exact hit_self 0
    · obtain ⟨_, _, _, hok, _⟩ := treeErr_zero h
      have hp := pOkB_par hok hj (by omega)
      rw [hit_step hok hj (by omega)]
      cases d with
      | zero => omega
      | succ d => exact hit_all0 h d _ (by omega) (by omega)
theorem nodes_perm (h : treeErr t = 0) : (nodesF (frT t) (rkT t) 0).Perm (List.range t.ps.length) := by
  have h0 := (treeErr_zero h).1
  refine (List.perm_ext_iff_of_nodup (nodesF_nodup (frT_arb h) (fun i _ => rkT_le t i) h0 (Nat.le_refl _)) List.nodup_range).2 fun j => ?_
  rw [List.mem_range]
  constructor
  · exact mem_nodes_lt h
  · intro hj
    refine (mem_nodesF (frT_arb h).wf h0 (Nat.le_refl _)).2 ?_
    rw [sub_hit h _ 0 j (Nat.le_refl _) h0 hj]
    exact hit_all0 h j j (Nat.le_refl _) hj
theorem ns_perm (h : treeErr t = 0) : (nsR (toR t)).Perm t.ns := by
  rw [nsR_toR h]
  have hl := (treeErr_zero h).2.2.1
  have h1 := (nodes_perm h).map (gs t.ns)
  rw [← hl, range_gs] at h1
  exact h1
theorem leafs_perm (h : treeErr t = 0) : (leafR (toR t)).Perm (fltN t.ns) := (ns_perm h).filter _
theorem can_names (h : treeErr t = 0) : (fltN (canT t).ns).Perm (fltN t.ns) := by
  rw [canT_flat h]
  exact (leafR_sort (toR t)).trans (leafs_perm h)
theorem leaf_one31 {nm : ByteArray} (h : nm.size ≠ 0) : leafR (.node nm []) = [nm] := by
  unfold leafR
  rw [nsR, nsRs]
  exact List.filter_eq_self.2 fun x hx => decide_eq_true (by rw [List.mem_singleton.1 hx]; exact h)
theorem leaf_head : ∀ (r : RT), (∀ s ∈ subR r, s.kids ≠ [] → s.nm.size = 0) → (∀ s ∈ subR r, s.kids = [] → s.nm.size ≠ 0) → ∃ l, leafR r = firstR r :: l
  | .node nm [], _, h2 => ⟨[], by
    have h := h2 (.node nm []) (by rw [subR]; exact List.mem_cons_self) rfl
    rw [leaf_one31 (nm := nm) h, firstR]⟩
  | .node nm (k :: ks), h1, h2 => by
    have h0 : nm.size = 0 := h1 (.node nm (k :: ks)) (by rw [subR]; exact List.mem_cons_self) (by simp [RT.kids])
    have hk : ∀ s ∈ subR k, s ∈ subR (.node nm (k :: ks)) := fun s hs => by rw [subR, subRs]; simp [hs]
    obtain ⟨l, hl⟩ := leaf_head k (fun s hs => h1 s (hk s hs)) (fun s hs => h2 s (hk s hs))
    rw [leafR_node h0, List.flatMap_cons, hl, firstR]
    exact ⟨_, rfl⟩
theorem GoodR.head {r : RT} (h : GoodR r) : ∃ l, leafR r = firstR r :: l := leaf_head r h.inn fun s hs hk => named_size (h.lf s hs hk)
end
end Go.Proofs.YtcbmbhghmfehpaaGreat
namespace Go.Proofs.YtcbmbhghmfehpaaGreat
theorem leaf_reach {F : Frs} {n : Nat} {rk : Nat → Nat} (h : Wf F n rk) {z : Nat} (hz : z < n) {x : ByteArray} : x ∈ leafR (toRF F rk z) ↔ ∃ j, j < n ∧ subF F rk z j = true ∧ (F.nm j).size ≠ 0 ∧ x = F.nm j := by
  unfold leafR
  rw [nsR_toRF h hz, List.mem_filter, List.mem_map]
  constructor
  · rintro ⟨⟨j, hj, rfl⟩, h0⟩
    have hs := (mem_nodesF h hz (Nat.le_refl _)).1 hj
    exact ⟨j, subF_lt h hz (Nat.le_refl _) hs, hs, of_decide_eq_true h0, rfl⟩
  · rintro ⟨j, _, hs, h0, rfl⟩
    exact ⟨⟨j, (mem_nodesF h hz (Nat.le_refl _)).2 hs, rfl⟩, decide_eq_true h0⟩
section
variable {t : Tre} {leaf : Nat}
theorem und_iff (h : treeErr t = 0) {z : Nat} (hz : z < t.ps.length) {x : ByteArray} : x ∈ leafR (toRF (frT t) (rkT t) z) ↔ ∃ j, j < t.ps.length ∧ hitB t.ps z j = true ∧ (gs t.ns j).size ≠ 0 ∧ x = gs t.ns j := by
  rw [leaf_reach (frT_arb h).wf hz]
  constructor
  · rintro ⟨j, hj, hs, h0, e⟩
    exact ⟨j, hj, by rw [← sub_hit h _ z j (Nat.le_refl _) hz hj]; exact hs, h0, e⟩
  · rintro ⟨j, hj, hs, h0, e⟩
    exact ⟨j, hj, by rw [sub_hit h _ z j (Nat.le_refl _) hz hj]; exact hs, h0, e⟩
theorem LeafOk.inj (h : LeafOk t leaf) {a b : Nat} (ha : a < t.ps.length) (hb : b < t.ps.length) (h0 : (gs t.ns a).size ≠ 0) (e : gs t.ns a = gs t.ns b) : a = b := by
  have ea : (rrF t leaf).nm a = gs t.ns a := upd_ne _ _ (by omega)
  have eb : (rrF t leaf).nm b = gs t.ns b := upd_ne _ _ (by omega)
  exact rr_names h a b (by omega) (by omega) (by rw [ea]; exact h0) (by rw [ea, eb]; exact e)
end
end Go.Proofs.YtcbmbhghmfehpaaGreat
namespace Go.Proofs.YtcbmbhghmfehpaaGreat
open Go.RowKit Go.Deep
end Go.Proofs.YtcbmbhghmfehpaaGreat
namespace Go.Proofs.YtcbmbhghmfehpaaGreat
open Go.RowKit Go.Deep
def t3 : Tre := ⟨[-1, 0, 1, 1, 0], [⟨#[]⟩, ⟨#[]⟩, ⟨#[65]⟩, ⟨#[66]⟩, ⟨#[67]⟩]⟩
def s3 : List Int := [0, 1, 1]
def u2 : List (List Int) := [[0, 1], [1, 0]]
theorem lit_ints (w : World) (cs : Array Value) (T : TypeId) (xs : List Int) (hcs : cs.toList = xs.map (Value.int .i64)) (n : Nat) (hn : n = xs.length) : IntsAt Any (w.alloc (.cells cs T)) (.slice (some ⟨w.heap.size, 0, none⟩) n n) xs := by
  subst hn
  refine ⟨_, _, rfl, Nat.le_refl _, .inr ⟨_, 0, rfl, trivial, fun k hk => ?_⟩⟩
  rw [Nat.zero_add, cell_at_new, ← Array.getElem?_toList, hcs]
  simp [gi, hk]
theorem lit_strs (w : World) (cs : Array Value) (T : TypeId) (xs : List ByteArray) (hcs : cs.toList = xs.map Value.string) (n : Nat) (hn : n = xs.length) : StrsAt Any (w.alloc (.cells cs T)) (.slice (some ⟨w.heap.size, 0, none⟩) n n) xs := by
  subst hn
  refine ⟨_, _, rfl, Nat.le_refl _, .inr ⟨_, 0, rfl, trivial, fun k hk => ?_⟩⟩
  rw [Nat.zero_add, cell_at_new, ← Array.getElem?_toList, hcs]
  simp [gs, hk]
theorem equal_yes (S T : Nat → Prop) (w : World) (v u : Value) (xs ys : List Int) (h : IntsAt S w v xs) (h2 : IntsAt T w u ys) (hn : xs.length ≤ 1000000) (hn2 : ys.length ≤ 1000000) (e : xs = ys) :
    Calls Tryz.prog 23 #[v, u] w (EqPost w true) := by
  have h3 := equal_int_t S T w v u xs ys h h2 hn hn2
  rw [decide_eq_true e] at h3; exact h3
end Go.Proofs.YtcbmbhghmfehpaaGreat
namespace Go.Proofs.YtcbmbhghmfehpaaGreat
open Go.RowKit Go.Deep
deriving instance DecidableEq for Grp
end Go.Proofs.YtcbmbhghmfehpaaGreat
namespace Go.Proofs.YtcbmbhghmfehpaaGreat
open Go.RowKit Go.Deep
end Go.Proofs.YtcbmbhghmfehpaaGreat
namespace Go.Proofs.YtcbmbhghmfehpaaGreat
open Go.RowKit Go.Deep
end Go.Proofs.YtcbmbhghmfehpaaGreat
namespace Go.Proofs.YtcbmbhghmfehpaaGreat
open Go.RowKit Go.Deep
end Go.Proofs.YtcbmbhghmfehpaaGreat
namespace Go.Proofs.YtcbmbhghmfehpaaGreat
open Go.RowKit Go.Deep
end Go.Proofs.YtcbmbhghmfehpaaGreat
namespace Go.Proofs.YtcbmbhghmfehpaaGreat
open Go.RowKit Go.Deep
end Go.Proofs.YtcbmbhghmfehpaaGreat
namespace Go.Proofs.YtcbmbhghmfehpaaGreat
open Go.RowKit Go.Deep
end Go.Proofs.YtcbmbhghmfehpaaGreat
namespace Go.Proofs.YtcbmbhghmfehpaaGreat
open Go.RowKit Go.Deep
end Go.Proofs.YtcbmbhghmfehpaaGreat
namespace Go.Proofs.YtcbmbhghmfehpaaGreat
open Go.RowKit Go.Deep
end Go.Proofs.YtcbmbhghmfehpaaGreat
namespace Go.Proofs.YtcbmbhghmfehpaaGreat
section
variable {t : Tre}
end
section
variable {t : Tre}
end
end Go.Proofs.YtcbmbhghmfehpaaGreat
namespace Go.Proofs.YtcbmbhghmfehpaaGreat
open Go.RowKit Go.Deep
end Go.Proofs.YtcbmbhghmfehpaaGreat
namespace Go.Proofs.YtcbmbhghmfehpaaGreat
open Go.RowKit Go.Deep
end Go.Proofs.YtcbmbhghmfehpaaGreat
namespace Go.Proofs.YtcbmbhghmfehpaaGreat
open Go.RowKit Go.Deep
section
variable {g n fb : Nat} {A : Nat → Nat} {kv : Nat → Value} {F : Frs} {w3 wr w' : World} {f : Int}
end
end Go.Proofs.YtcbmbhghmfehpaaGreat
namespace Go.Proofs.YtcbmbhghmfehpaaGreat
open Go.RowKit Go.Deep
theorem tree_small {t : Tre} (h : treeErr t = 0) : ∀ k, (gs t.ns k).size ≤ 70000 := fun k => by
  obtain ⟨_, _, hl, _, hne⟩ := treeErr_zero h
  by_cases hk : k < t.ps.length
  · have h1 := hne k hk
    unfold nErr at h1
    split at h1
    · split at h1
      · omega
      · cases h1
    · split at h1
      · rename_i hn
        have hsz : (gs t.ns k).data.toList.length = (gs t.ns k).size := by simp
        rw [← hsz]
        unfold namedB at hn
        split at hn
        · simp only [Bool.and_eq_true, decide_eq_true_eq] at hn
          omega
        · unfold isNameB at hn
          simp only [Bool.and_eq_true, decide_eq_true_eq] at hn
          omega
      · cases h1
  · have : gs t.ns k = ByteArray.empty := by unfold gs; rw [List.getD_eq_getElem?_getD, List.getElem?_eq_none (by omega)]; rfl
    rw [this]; exact Nat.zero_le _
end Go.Proofs.YtcbmbhghmfehpaaGreat
namespace Go.Proofs.YtcbmbhghmfehpaaGreat
theorem leavesL_asc (ns : List ByteArray) : (leavesL ns).Pairwise (· < ·) := by
  unfold leavesL
  rw [List.pairwise_map]
  exact (List.Pairwise.filter _ List.pairwise_lt_range).imp fun h => Int.ofNat_lt.2 h
section
variable {t : Tre}
end
end Go.Proofs.YtcbmbhghmfehpaaGreat
namespace Go.Proofs.YtcbmbhghmfehpaaGreat
open Go.RowKit Go.Deep
section
variable {P : Program} {ops : Array Oper} {rest : List Oper} {o : Oper} {a : Act} {Q : Exit → Act → World → Prop}
end
section
variable {w2 wr wx w' : World} {tb : Nat} {pv nv v : Value} {xs : List ByteArray}
end
section
variable {w3 wr wx w' : World} {d a : Value} {gs : List Grp} {svs : List Value} {xs : List Int}
end
end Go.Proofs.YtcbmbhghmfehpaaGreat
namespace Go.Proofs.YtcbmbhghmfehpaaGreat
open Go.RowKit Go.Deep
end Go.Proofs.YtcbmbhghmfehpaaGreat
namespace Go.Proofs.YtcbmbhghmfehpaaGreat
theorem GoodR.sub {r s : RT} (h : GoodR r) (hs : s ∈ subR r) : GoodR s :=
  ⟨fun q hq => h.inn q (subR_trans r hs hq), fun q hq => h.lf q (subR_trans r hs hq), (leafR_sub hs).nodup h.nd⟩
theorem GoodR.meet {r s : RT} (h : GoodR r) (hs : s ∈ subR r) : ∃ x, x ∈ leafR s := by
  obtain ⟨l, hl⟩ := (h.sub hs).head
  exact ⟨firstR s, by rw [hl]; simp⟩
section
variable {r q : RT} {a b : ByteArray}
end
section
variable {t : Tre} {leaf : Nat}
end
end Go.Proofs.YtcbmbhghmfehpaaGreat
namespace Go.Proofs.YtcbmbhghmfehpaaGreat
section
variable {t : Tre} {leaf : Nat}
end
end Go.Proofs.YtcbmbhghmfehpaaGreat
namespace Go.Proofs.YtcbmbhghmfehpaaGreat
section
variable {ps : List Int}
end
end Go.Proofs.YtcbmbhghmfehpaaGreat
namespace Go.Proofs.YtcbmbhghmfehpaaGreat
end Go.Proofs.YtcbmbhghmfehpaaGreat
namespace Go.Proofs.YtcbmbhghmfehpaaGreat
end Go.Proofs.YtcbmbhghmfehpaaGreat
namespace Go.Proofs.YtcbmbhghmfehpaaGreat
open Go.RowKit Go.Deep
@[go_sem high] theorem run_max0_4 (w : World) (ts : Array TypeId) (t : TypeId) (k : IntKind) : (Builtin.max_ ts t #[.int k 0, .int k 0, .int k 0, .int k 0]).run Tryz.prog w = .ok (.int k 0) w := by
  simp [Builtin.max_, Builtin.max2]
@[go_sem high] theorem run_max0_5 (w : World) (ts : Array TypeId) (t : TypeId) (k : IntKind) : (Builtin.max_ ts t #[.int k 0, .int k 0, .int k 0, .int k 0, .int k 0]).run Tryz.prog w = .ok (.int k 0) w := by
  simp [Builtin.max_, Builtin.max2]
@[go_sem high] theorem run_max0_6 (w : World) (ts : Array TypeId) (t : TypeId) (k : IntKind) : (Builtin.max_ ts t #[.int k 0, .int k 0, .int k 0, .int k 0, .int k 0, .int k 0]).run Tryz.prog w = .ok (.int k 0) w := by
  simp [Builtin.max_, Builtin.max2]
@[go_sem high] theorem run_max0_7 (w : World) (ts : Array TypeId) (t : TypeId) (k : IntKind) : (Builtin.max_ ts t #[.int k 0, .int k 0, .int k 0, .int k 0, .int k 0, .int k 0, .int k 0]).run Tryz.prog w = .ok (.int k 0) w := by
  simp [Builtin.max_, Builtin.max2]
end Go.Proofs.YtcbmbhghmfehpaaGreat
namespace Go.Proofs
open Go.Shelf
end Go.Proofs
namespace Go.Proofs.YtcbmbhghmfehpaaGreat
open Go.RowKit Go.Deep
section
variable {base : Nat} {s : ByteArray} {R : Option RT} {w0 wr w' : World} {top k n f o : Nat} {b : Bool} {ov : Value} {A : Nat → Nat} {kv : Nat → Value} {F : Frs} {os : List Nat} {Z : List RT} {st : List (List RT)}
end
end Go.Proofs.YtcbmbhghmfehpaaGreat
namespace Go.Proofs.YtcbmbhghmfehpaaGreat
open Go.RowKit Go.Deep
end Go.Proofs.YtcbmbhghmfehpaaGreat
namespace Go.Proofs.YtcbmbhghmfehpaaGreat
open Go.RowKit Go.Deep
end Go.Proofs.YtcbmbhghmfehpaaGreat
namespace Go.Proofs.YtcbmbhghmfehpaaGreat
open Go.RowKit Go.Deep
end Go.Proofs.YtcbmbhghmfehpaaGreat
namespace Go.Proofs.YtcbmbhghmfehpaaGreat
open Go.RowKit Go.Deep
end Go.Proofs.YtcbmbhghmfehpaaGreat
namespace Go.Proofs.YtcbmbhghmfehpaaGreat
open Go.RowKit Go.Deep
end Go.Proofs.YtcbmbhghmfehpaaGreat
namespace Go.Proofs.YtcbmbhghmfehpaaGreat
open Go.RowKit Go.Deep
end Go.Proofs.YtcbmbhghmfehpaaGreat
namespace Go.Proofs.YtcbmbhghmfehpaaGreat
open Go.RowKit Go.Deep
end Go.Proofs.YtcbmbhghmfehpaaGreat
namespace Go.Proofs.YtcbmbhghmfehpaaGreat
open Go.RowKit Go.Deep
section
variable {P : Program} {ops : Array Oper} {Q : Exit → Act → World → Prop} {md : Region.Mode} {S : World → Prop} {t : Nat}
end
end Go.Proofs.YtcbmbhghmfehpaaGreat
namespace Go.Proofs.YtcbmbhghmfehpaaGreat
section
variable {t : Tre}
end
end Go.Proofs.YtcbmbhghmfehpaaGreat
namespace Go.Proofs.YtcbmbhghmfehpaaGreat
section
variable {t : Tre}
def fdN (ns : List ByteArray) (a : ByteArray) : Int := firstIx (fun j => decide (a = gs ns j)) ns.length
theorem mem_flt {ns : List ByteArray} {a : ByteArray} : a ∈ fltN ns ↔ ∃ j, j < ns.length ∧ gs ns j = a ∧ a.size ≠ 0 := by
  unfold fltN
  rw [List.mem_filter]
  constructor
  · rintro ⟨h1, h2⟩
    obtain ⟨j, hj, e⟩ := List.mem_iff_getElem.1 h1
    exact ⟨j, hj, by rw [← e]; simp [gs, hj], of_decide_eq_true h2⟩
  · rintro ⟨j, hj, e, h2⟩
    refine ⟨?_, decide_eq_true h2⟩
    have : gs ns j = ns[j] := by simp [gs, hj]
    rw [← e, this]; exact List.getElem_mem hj
end
section
variable {t : Tre} {la : Nat}
end
end Go.Proofs.YtcbmbhghmfehpaaGreat
namespace Go.Proofs.YtcbmbhghmfehpaaGreat
section
variable {t : Tre} {L : List Int}
end
end Go.Proofs.YtcbmbhghmfehpaaGreat
namespace Go.Proofs.YtcbmbhghmfehpaaGreat
section
variable {t : Tre}
theorem sortL_pair (l : List Int) : (sortL l).Pairwise (· ≤ ·) := by
  have h := List.pairwise_mergeSort (le := fun x y : Int => decide (x ≤ y)) (fun a b c h1 h2 => by simp at h1 h2 ⊢; omega) (fun a b => by
    simp only [Bool.or_eq_true, decide_eq_true_eq]; omega) l
  exact h.imp fun h => by simpa using h
theorem nodup_map {α β : Type} {f : α → β} : ∀ {l : List α}, l.Nodup → (∀ x ∈ l, ∀ y ∈ l, f x = f y → x = y) → (l.map f).Nodup
  | [], _, _ => List.nodup_nil
  | a :: l, hn, h => by
    rw [List.map_cons, List.nodup_cons]
    have hn2 := List.nodup_cons.1 hn
    refine ⟨fun hm => ?_, nodup_map hn2.2 fun x hx y hy e => h x (List.mem_cons_of_mem _ hx) y (List.mem_cons_of_mem _ hy) e⟩
    obtain ⟨y, hy, e⟩ := List.mem_map.1 hm
    exact hn2.1 (h y (List.mem_cons_of_mem _ hy) a (List.mem_cons_self ..) e ▸ hy)
theorem lv_leafOk (he : treeErr t = 0) {x : Int} (hx : x ∈ leavesL t.ns) : ∃ j : Nat, x = j ∧ LeafOk t j := by
  obtain ⟨_, _, hl, _, _⟩ := treeErr_zero he
  obtain ⟨j, rfl, h1, h2⟩ := mem_leavesL.1 hx
  exact ⟨j, rfl, he, by omega, h2⟩
end
end Go.Proofs.YtcbmbhghmfehpaaGreat
