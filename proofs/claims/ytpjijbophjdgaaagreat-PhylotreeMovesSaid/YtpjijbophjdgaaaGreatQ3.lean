/- A slice that a call grows by one element at a time. The contract of phylotree.Leaves. The contracts of parsimony.known, matrix, Check. The contract of parsimony.children: an iterator over the children of a node. A function's end behind loops over functions. A region that draws its order and only reads, within a round of a loop over a function. The contracts of parsimony.best, least. The contract of the closure that fills a row of the table. The contract of parsimony.table. The contracts of parsimony.Score and Table. The arguments of a law, opened; the frame of a law's proof. A region that draws its order, only reads, and ends in one operation that may write: by the walk in the order of the text. -/
import Derived.Test.YtpjijbophjdgaaaGreatQ1
import Derived.Maps.AppendAt
import Derived.Deep.AppendLies
import Derived.Test.YtpjijbophjdgaaaGreatQ2
import Derived.RangeFuncNested
import Derived.RangeFuncBound
import Derived.RangeFuncCalls
import Derived.RangeFuncLeaves
import Derived.Shelf.Abstract
import Derived.Shelf.RegionOpen
import Derived.WalkKit
import Derived.OwnWalkIn
import Derived.TacticsInMore
import Derived.LoopNIn
import Derived.LoopIn
import Derived.Sort.QuietIn
import Derived.Stop.RegionWithIn
import Derived.Test.YtpjijbophjdgaaaGreatRows
import Derived.ProofKit
import Derived.OpenShut
import Derived.ShutString
import Derived.ChangeOld
import Derived.Below
import Derived.Deep.Matrix
import Derived.Lib.SmallJoins
import Derived.StillTail
namespace Go.Proofs.YtpjijbophjdgaaaGreat
open Go.RowKit Go.Deep
def Owns (base : Nat) (e : TypeId) (w : World) (v : Value) (vs : List Value) : Prop := w.ownsRow base e 1 v vs.length vs
theorem Owns.nil (base : Nat) (e : TypeId) (w : World) : Owns base e w (.slice none 0 0) [] := World.ownsRow_nil _ _ _ _
theorem SlAt.congr {S : Nat → Prop} {w : World} {v : Value} {n : Nat} {f g : Nat → Value} (h : SlAt S w v n f) (e : ∀ k, k < n → f k = g k) : SlAt S w v n g := by
  obtain ⟨p, cap, rfl, hn, h⟩ := h
  refine ⟨p, cap, rfl, hn, ?_⟩
  rcases h with h | ⟨b, off, rfl, hS, h⟩
  · exact .inl h
  · exact .inr ⟨b, off, rfl, hS, fun k hk => by rw [← e k hk]; exact h k hk⟩
theorem Owns.slAt {base : Nat} {e : TypeId} {w : World} {v : Value} {vs : List Value} (h : Owns base e w v vs) : SlAt (fun b => base ≤ b) w v vs.length (fun k => vs.getD k undef) := by
  rcases h.2 with ⟨rfl, h0⟩ | ⟨g, cap, cur, rfl, hg, hc, hn, _, _, ht⟩
  · exact ⟨none, 0, by rw [h0], by omega, .inl h0⟩
  · refine ⟨_, cap, rfl, hn, .inr ⟨g, 0, rfl, hg, fun k hk => ?_⟩⟩
    have := World.ownsRow.cells h (g := g) rfl k vs[k] (by simp [hk])
    have hadd : (⟨g, 0, none⟩ : Addr).add k = ⟨g, 0 + k, none⟩ := by unfold Addr.add; split <;> simp_all
    rw [hadd] at this
    rw [this]; simp [hk]
theorem Owns.ints {base : Nat} {e : TypeId} {w : World} {v : Value} {xs : List Int} (h : Owns base e w v (xs.map (Value.int .i64))) : IntsAt (fun b => base ≤ b) w v xs := by
  have := h.slAt
  rw [List.length_map] at this
  exact this.congr fun k hk => by simp [gi, hk]
theorem Owns.strs {base : Nat} {e : TypeId} {w : World} {v : Value} {xs : List ByteArray} (h : Owns base e w v (xs.map Value.string)) : StrsAt (fun b => base ≤ b) w v xs := by
  have := h.slAt
  rw [List.length_map] at this
  exact this.congr fun k hk => by simp [gs, hk]
theorem Owns.kept {base : Nat} {e : TypeId} {w w' : World} {v : Value} {vs : List Value} (h : Owns base e w v vs) (k : ∀ b, base ≤ b → b < w.heap.size → w'.heap[b]? = w.heap[b]?) : Owns base e w' v vs := by
  refine ⟨h.1, ?_⟩
  rcases h.2 with h0 | ⟨g, cap, cur, rfl, hg, hc, hr⟩
  · exact .inl h0
  · have hlt : g < w.heap.size := by
      rcases Nat.lt_or_ge g w.heap.size with h1 | h1
      · exact h1
      · rw [Array.getElem?_eq_none h1] at hc; cases hc
    exact .inr ⟨g, cap, cur, rfl, hg, (k g hg hlt).trans hc, hr⟩
theorem Owns.alloc {base : Nat} {e : TypeId} {w : World} {v : Value} {vs : List Value} (h : Owns base e w v vs) (o : Obj) : Owns base e (w.alloc o) v vs := World.ownsRow.alloc h o
theorem grown_alloc {w w' : World} {o : Obj} {row : Option Nat} (h : (w.alloc o).grownBy w' row) : w.grownBy w' row :=
  ⟨h.os, h.tape, h.output, Nat.le_trans (by simp) h.size, fun k hk hne => (h.block k (by simp; omega) hne).trans (Below.heap_alloc w o k hk)⟩
theorem Owns.grown_below {base : Nat} {e : TypeId} {w w' : World} {v : Value} {vs : List Value} (h : Owns base e w v vs) (hg : w.grownBy w' v.ownBlock) (hb : base ≤ w.heap.size) : Below base w w' :=
  (Below.refl base w).grown hg hb fun k hk => (World.ownsRow.lt h k hk).1
section
variable {P : Program} {ops : Array Oper} {rest : List Oper} {o : Oper} {a : Act} {Q : Exit → Act → World → Prop}
theorem wpList_app1 (W : World) (hgd : o.guard = none) (s x : Operand) (t : TypeId) (ho : o.op = .call { callee := .builtin .append, args := #[s, x], argTypes := #[t, t] })
    (base : Nat) (e : TypeId) (z : Value) (bytes : Nat) (ht : P.underlying t = some (.slice e)) (hinfo : (P.info? e).map (fun i => (i.zero, i.size, i.bytes)) = some (some z, 1, bytes))
    (hz1 : z.cells.size = 1) (hb8 : bytes ≤ 64) {v : Value} {vs : List Value} (hown : Owns base e W v vs) (hs : a.eval s = v) (u : Value)
    (hx : a.eval x = .slice (some ⟨W.heap.size, 0, none⟩) 1 1) (h1 : u.oneCell' = true) (hn : vs.length ≤ 1000000) (hbase : base ≤ W.heap.size)
    (h : ∀ g cap w', Owns base e w' (.slice (some ⟨g, 0, none⟩) (vs.length + 1) cap) (vs ++ [u]) → W.grownBy w' v.ownBlock → Below base W w' → wpList P ops Q rest (a.put o.dst (.slice (some ⟨g, 0, none⟩) (vs.length + 1) cap)) w') :
    wpList P ops Q (o :: rest) a (W.alloc (.cells #[u] e)) := by
  obtain ⟨i, hi, hzz⟩ := Option.map_eq_some_iff.1 hinfo
  simp only [Prod.mk.injEq] at hzz
  obtain ⟨hz, hs1, hb⟩ := hzz
  refine wpList_append_lies _ hgd s x t ho base e i z 1 bytes ht hi hz hs1 hb hz1 (by omega) v vs.length vs hs (hown.alloc _) ⟨W.heap.size, 0, none⟩ 1 1 [u] hx rfl (cell_one_new _ _ _) (by simpa using h1) (by omega)
    (by unfold maxLen; omega) ?_ (by simp; omega) _ rfl fun g cap w' h2 h3 _ _ => h g cap w' ?_ (grown_alloc h3) (hown.grown_below (grown_alloc h3) hbase)
  · have : (vs.length + 1) * bytes ≤ (vs.length + 1) * 64 := Nat.mul_le_mul_left _ hb8
    omega
  · unfold Owns; rw [List.length_append]; exact h2
end
end Go.Proofs.YtpjijbophjdgaaaGreat
namespace Go.Proofs.YtpjijbophjdgaaaGreat
open Go.RowKit Go.Deep
theorem Tryz.infoI : (Tryz.prog.info? 3).map (fun i => (i.zero, i.size, i.bytes)) = some (some (.int .i64 0), 1, 8) := by kernel_rfl
end Go.Proofs.YtpjijbophjdgaaaGreat
namespace Go.Proofs.YtpjijbophjdgaaaGreat
open Go.RowKit Go.Deep
end Go.Proofs.YtpjijbophjdgaaaGreat
namespace Go.Proofs.YtpjijbophjdgaaaGreat
open Go.RowKit Go.Shelf Go.Deep
attribute [local go_sem] Oper.semAt_some
def KS (T : Nat → Prop) (w w' : World) : Prop := ∀ b, T b → w'.heap[b]? = w.heap[b]?
theorem KS.refl (T : Nat → Prop) (w : World) : KS T w w := fun _ _ => rfl
theorem KS.trans {T : Nat → Prop} {a b c : World} (h : KS T a b) (k : KS T b c) : KS T a c := fun i hi => (k i hi).trans (h i hi)
end Go.Proofs.YtpjijbophjdgaaaGreat
namespace Go.Proofs.YtpjijbophjdgaaaGreat
open Go.RowKit Go.Shelf Go.Deep
end Go.Proofs.YtpjijbophjdgaaaGreat
namespace Go.Proofs.YtpjijbophjdgaaaGreat
open Go.RowKit Go.Shelf Go.Deep
section
variable {F : Fence} {n : Nat} {P : Program} {ops : Array Oper} {C : World → Prop}
end
end Go.Proofs.YtpjijbophjdgaaaGreat
namespace Go.Proofs.YtpjijbophjdgaaaGreat
open Go.RowKit Go.Deep
end Go.Proofs.YtpjijbophjdgaaaGreat
namespace Go.Proofs.YtpjijbophjdgaaaGreat
open Go.RowKit Go.Shelf Go.Deep
attribute [local go_sem] Oper.semAt_some
set_option maxHeartbeats 400000 in
theorem index_int_t (S : Nat → Prop) (w : World) (v : Value) (xs : List Int) (x : Int) (h : IntsAt S w v xs) (hn : xs.length ≤ 1000000) :
    Calls Tryz.prog 154 #[v, .int .i64 x] w fun e w' => e = .returned (.int .i64 (firstIx (fun j => decide (x = gi xs j)) xs.length)) ∧ w = w' := by
  obtain ⟨p, cap, rfl, hcap, H⟩ := SlAt.open h
  clear h
  go_enter Tryz.func154, Tryz.ntmps154
  go_wp2_with fail
  go_loop [5, 8] (fun _ i => ∃ k : Nat, k ≤ xs.length ∧ i = .int .i64 k ∧ Hid (∀ j, j < k → decide (x = gi xs j) = false)) (fun _ i => xs.length - (intOf i).toNat)
  case atStart => exact ⟨0, Nat.zero_le _, rfl, fun j hj => absurd hj (Nat.not_lt_zero _)⟩
  case round =>
    obtain ⟨k, hk, rfl, hd⟩ := hrel
    by_cases hlt : k < xs.length
    · obtain ⟨b, off, rfl, hc⟩ := H k hlt
      clear H
      generalize hy : gi xs k = y at *
      have HY := Lib.hid hy
      clear hy
      by_cases hxy : x = y
      · have hx1 : (x == y) = true := by simp [hxy]
        have HXY := Lib.hid hxy
        clear hxy
        go_wp2_with fail
        go_ret
        exact ⟨ret_int (firstIx_at (p := fun j => decide (x = gi xs j)) hlt hd.out (by rw [HY.out]; simpa using HXY.out)).symm, rfl⟩
      · have hx1 : (x == y) = false := by simpa using hxy
        have HXY := Lib.hid hxy
        clear hxy
        go_wp2_with fail
        go_round
        case rel => exact ⟨k + 1, by omega, by go_num, fun j hj => if e : j = k then by subst e; rw [HY.out]; simpa using HXY.out else hd.out j (by omega)⟩
        case measure => simp [intOf]; omega
    · clear H
      go_wp2_with fail
      go_ret
      exact ⟨ret_int (firstIx_none fun j hj => hd.out j (by omega)).symm, rfl⟩
theorem kept_drewN (S : Nat → Prop) (w : World) (n : Nat) : Kept S w (w.drewN n) := fun _ _ _ => rfl
end Go.Proofs.YtpjijbophjdgaaaGreat
namespace Go.Proofs.YtpjijbophjdgaaaGreat
open Go.RowKit Go.Deep
theorem cell_at_new (W : World) (cs : Array Value) (t : TypeId) (k : Nat) : (W.alloc (.cells cs t)).cell? ⟨W.heap.size, k, none⟩ = cs[k]? := by
  unfold World.cell?; rw [World.alloc_heap_new]; rfl
end Go.Proofs.YtpjijbophjdgaaaGreat
namespace Go.Proofs.YtpjijbophjdgaaaGreat
open Go.RowKit Go.Deep
def Up (w w' : World) : Prop := Below w.heap.size w w'
theorem Up.refl (w : World) : Up w w := Below.refl _ _
theorem Up.trans {a b c : World} (h : Up a b) (k : Up b c) : Up a c := Below.trans h (Below.mono k h.size)
theorem Up.alloc (w : World) (o : Obj) : Up w (w.alloc o) := (Below.refl _ _).alloc (Nat.le_refl _) _
theorem Up.drewN (w : World) (n : Nat) : Up w (w.drewN n) := below_drewN (Below.refl _ _) n
theorem Up.kept {w w' : World} (h : Up w w') (S : Nat → Prop) : Kept S w w' := Kept.below h
theorem Up.size {w w' : World} (h : Up w w') : w.heap.size ≤ w'.heap.size := Below.size h
theorem Up.cell {w w' : World} (h : Up w w') {p : Addr} {v : Value} (hc : w.cell? p = some v) : w'.cell? p = some v := by
  obtain ⟨b, o, i⟩ := p
  have hl : b < w.heap.size := World.block_lt_of_cell? w _ hc
  rw [Below.cell h (p := ⟨b, o, i⟩) hl]; exact hc
theorem box2_0 (w : World) (P N : Value) (T : TypeId) : (w.alloc (.cells #[P, N] T)).cell? ⟨w.heap.size, 0, none⟩ = some P := by simp [World.cell?_alloc_new]
theorem box2_1 (w : World) (P N : Value) (T : TypeId) : (w.alloc (.cells #[P, N] T)).cell? ⟨w.heap.size, 1, none⟩ = some N := by simp [World.cell?_alloc_new]
theorem box1_0 (w : World) (P : Value) (T : TypeId) : (w.alloc (.cells #[P] T)).cell? ⟨w.heap.size, 0, none⟩ = some P := by simp [World.cell?_alloc_new]
theorem ints_get {S : Nat → Prop} {w : World} {p : Option Addr} {n cap : Nat} {xs : List Int} (h : IntsAt S w (.slice p n cap) xs) {k : Nat} (hk : k < xs.length) : ∃ b off, p = some ⟨b, off, none⟩ ∧ w.cell? ⟨b, off + k, none⟩ = some (.int .i64 (gi xs k)) := by
  obtain ⟨q, c, e, _, H⟩ := SlAt.open h
  injection e with e1
  subst e1
  exact H k hk
theorem strs_get {S : Nat → Prop} {w : World} {p : Option Addr} {n cap : Nat} {xs : List ByteArray} (h : StrsAt S w (.slice p n cap) xs) {k : Nat} (hk : k < xs.length) : ∃ b off, p = some ⟨b, off, none⟩ ∧ w.cell? ⟨b, off + k, none⟩ = some (.string (gs xs k)) := by
  obtain ⟨q, c, e, _, H⟩ := SlAt.open h
  injection e with e1
  subst e1
  exact H k hk
theorem ints_get' {S : Nat → Prop} {w : World} {b off : Nat} {n cap : Nat} {xs : List Int} (h : IntsAt S w (.slice (some ⟨b, off, none⟩) n cap) xs) {k : Nat} (hk : k < xs.length) : w.cell? ⟨b, off + k, none⟩ = some (.int .i64 (gi xs k)) := by
  obtain ⟨b', o', e, hc⟩ := ints_get h hk
  injection e with e
  injection e with e1 e2
  subst e1; subst e2; exact hc
end Go.Proofs.YtpjijbophjdgaaaGreat
namespace Go.Proofs.YtpjijbophjdgaaaGreat
open Go.ChangeShapes Go.WideShapes Go.ChangeAt Go.RowKit Go.Deep
theorem own_none : ownKnob Tryz.prog.godebug = none := by kernel_rfl
theorem laidOut : laidOutB Tryz.prog = true := by kernel_rfl
section
variable {H : Type} {enc : TypeId × Value → H} {W : World}
theorem len_max {n : Nat} (h : n ≤ maxLen) : n ≤ 9223372036854775807 := by unfold maxLen at h; exact h
theorem open_ints1 {fuel : Nat} {v : Value} {x : DataW H × List MemPlace} (h : DataW.trod enc Tryz.prog W 0 (fun _ => true) true fuel 26 [v] = some x) : ∃ xs : List Int, IntsAt Any W v xs ∧ xs.length ≤ 9223372036854775807 := by
  rcases open_ints Tryz.underlying26 Tryz.underlying3 (by kernel_rfl) h with ⟨hcs, _⟩ | ⟨a, l, c, zs, hcs, _, hl, hm, hz, _, hcell, _⟩
  · obtain rfl : v = .slice none 0 0 := by simpa using hcs
    exact ⟨[], ⟨none, 0, rfl, Nat.le_refl _, .inl rfl⟩, by simp⟩
  · obtain rfl : v = .slice (some a) l c := by simpa using hcs
    simp only [if_true] at hz
    have hlen : (zs.take l).length = l := by simp; omega
    refine ⟨zs.take l, ⟨some a, c, by rw [hlen], by rw [hlen]; exact hl, ?_⟩, by rw [hlen]; exact len_max (Nat.le_trans hl hm)⟩
    by_cases h0 : l = 0
    · exact .inl (by rw [hlen]; exact h0)
    · obtain ⟨b, off, rfl, hc⟩ := ints_at hcell (by omega)
      refine .inr ⟨b, off, rfl, trivial, fun k hk => ?_⟩
      rw [hlen] at hk
      rw [hc k (by omega)]
      simp [gi, hk]
theorem open_strs1 {fuel : Nat} {v : Value} {x : DataW H × List MemPlace} (h : DataW.trod enc Tryz.prog W 0 (fun _ => true) true fuel 43 [v] = some x) : ∃ xs : List ByteArray, StrsAt Any W v xs ∧ xs.length ≤ 9223372036854775807 ∧ ∀ k, (gs xs k).size ≤ 9223372036854775807 := by
  rcases open_strings Tryz.underlying43 Tryz.underlying9 (by kernel_rfl) h with ⟨hcs, _⟩ | ⟨a, l, c, zs, hcs, _, hl, hm, hz, _, hcell, hwf⟩
  · obtain rfl : v = .slice none 0 0 := by simpa using hcs
    exact ⟨[], ⟨none, 0, rfl, Nat.le_refl _, .inl rfl⟩, by simp, fun k => by simp [gs]⟩
  · obtain rfl : v = .slice (some a) l c := by simpa using hcs
    simp only [if_true] at hz
    have hlen : (zs.take l).length = l := by simp; omega
    refine ⟨zs.take l, ⟨some a, c, by rw [hlen], by rw [hlen]; exact hl, ?_⟩, by rw [hlen]; exact len_max (Nat.le_trans hl hm), fun k => ?_⟩
    · by_cases h0 : l = 0
      · exact .inl (by rw [hlen]; exact h0)
      · obtain ⟨b, off, spot⟩ := a
        have hspot : spot = none := by simpa [Addr.add] using World.cell?_spot (hcell 0 (by omega))
        subst hspot
        refine .inr ⟨b, off, rfl, trivial, fun k hk => ?_⟩
        rw [hlen] at hk
        rw [← add_plain, hcell k (by omega)]
        have hk2 : k < zs.length := by omega
        simp [gs, hk, hk2]
    · by_cases hk : k < (zs.take l).length
      · have hm : gs (zs.take l) k ∈ zs := by
          have : gs (zs.take l) k = (zs.take l)[k] := by unfold gs; rw [List.getD_eq_getElem?_getD, List.getElem?_eq_getElem hk]; rfl
          rw [this]; exact List.mem_of_mem_take (List.getElem_mem hk)
        exact len_max (hwf _ hm)
      · have : gs (zs.take l) k = ByteArray.empty := by simp [gs, List.getElem?_eq_none (by omega : (zs.take l).length ≤ k)]
        rw [this]; simp
set_option maxRecDepth 100000 in
theorem open_tree1 {v : Value} {d : DataW H} {p : List MemPlace} {base : Nat} (hv : Value.okWide Tryz.prog W .any base 45 v) (h : DataW.Trod enc Tryz.prog W 0 (fun _ => true) true 45 v d p) :
    ∃ t : Tre, TreeAt Any W v t ∧ t.ps.length ≤ 9223372036854775807 ∧ t.ns.length ≤ 9223372036854775807 ∧ ∀ k, (gs t.ns k).size ≤ 9223372036854775807 := by
  obtain ⟨c0, c1, y0, y1, m, rfl, _, _, h0, h1⟩ := Joins.open_agg2 Tryz.underlying45 (by kernel_rfl) (by kernel_rfl) hv h
  obtain ⟨ps, hp, hpl⟩ := open_ints1 h0
  obtain ⟨ns, hn, hnl, hns⟩ := open_strs1 h1
  exact ⟨⟨ps, ns⟩, ⟨c0, c1, rfl, hp, hn⟩, hpl, hnl, hns⟩
theorem trod_one {t : TypeId} {v : Value} {d : DataW H} {p : List MemPlace} (h1 : v.cells = #[v]) (h : DataW.Trod enc Tryz.prog W 0 (fun _ => true) true t v d p) : ∃ fuel, DataW.trod enc Tryz.prog W 0 (fun _ => true) true fuel t [v] = some (d, p) := by
  obtain ⟨n, hn⟩ := h
  rw [h1] at hn; exact ⟨n, hn⟩
theorem lt_of {t : TypeId} {v : Value} {d : DataW H} {p : List MemPlace} (h : DataW.Trod enc Tryz.prog W 0 (fun _ => true) true t v d p) : ∀ x ∈ p, x.block < W.heap.size := by
  obtain ⟨m, hm⟩ := h; exact DataW.trod_lt m _ _ _ hm
set_option maxRecDepth 100000 in
theorem open_intsV {v : Value} {d : DataW H} {p : List MemPlace} {base : Nat} (hv : Value.okWide Tryz.prog W .any base 26 v) (h : DataW.Trod enc Tryz.prog W 0 (fun _ => true) true 26 v d p) : ∃ xs : List Int, IntsAt Any W v xs ∧ xs.length ≤ 9223372036854775807 := by
  obtain ⟨a, l, c, rfl⟩ := okWide_slice Tryz.underlying26 hv
  obtain ⟨n, hn⟩ := trod_one rfl h
  exact open_ints1 hn
end
end Go.Proofs.YtpjijbophjdgaaaGreat
namespace Go.Proofs.YtpjijbophjdgaaaGreat
open Go.RowKit Go.Shelf Go.Deep
section
variable {F : Fence} {n : Nat} {P : Program} {C : World → Prop}
end
end Go.Proofs.YtpjijbophjdgaaaGreat
