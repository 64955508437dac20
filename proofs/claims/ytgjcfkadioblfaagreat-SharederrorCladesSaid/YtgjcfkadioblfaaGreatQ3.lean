/- A slice that a call grows by one element at a time. The contract of phylotree.Leaves. The contracts of parsimony.known, matrix, Check. The contract of parsimony.children: an iterator over the children of a node. A function's end behind loops over functions. A region that draws its order and only reads, within a round of a loop over a function. The contracts of parsimony.best, least. The contract of the closure that fills a row of the table. The contract of parsimony.table. The contracts of parsimony.Score and Table. -/
import Derived.Test.YtgjcfkadioblfaaGreatQ2
import Derived.Maps.AppendAt
import Derived.Deep.AppendLies
import Derived.Test.YtgjcfkadioblfaaGreatQ1
import Derived.RangeFuncNested
import Derived.RangeFuncBound
import Derived.RangeFuncCalls
import Derived.RangeFuncLeaves
import Derived.Shelf.Abstract
import Derived.Shelf.RegionOpen
import Derived.WalkKit
import Derived.OwnWalkIn
import Derived.TacticsInMore
import Derived.LoopNIn
import Derived.LoopIn
import Derived.Sort.QuietIn
import Derived.Stop.RegionWithIn
namespace Go.Proofs.YtgjcfkadioblfaaGreat
open Go.RowKit Go.Deep
def Owns (base : Nat) (e : TypeId) (w : World) (v : Value) (vs : List Value) : Prop := w.ownsRow base e 1 v vs.length vs
theorem Owns.nil (base : Nat) (e : TypeId) (w : World) : Owns base e w (.slice none 0 0) [] := World.ownsRow_nil _ _ _ _
theorem SlAt.congr {S : Nat → Prop} {w : World} {v : Value} {n : Nat} {f g : Nat → Value} (h : SlAt S w v n f) (e : ∀ k, k < n → f k = g k) : SlAt S w v n g := by
  obtain ⟨p, cap, rfl, hn, h⟩ := h
  refine ⟨p, cap, rfl, hn, ?_⟩
  rcases h with h | ⟨b, off, rfl, hS, h⟩
  · exact .inl h
  · exact .inr ⟨b, off, rfl, hS, fun k hk => by rw [← e k hk]; exact h k hk⟩
theorem Owns.slAt {base : Nat} {e : TypeId} {w : World} {v : Value} {vs : List Value} (h : Owns base e w v vs) : SlAt (fun b => base ≤ b) w v vs.length (fun k => vs.getD k undef) := by
  rcases h.2 with ⟨rfl, h0⟩ | ⟨g, cap, cur, rfl, hg, hc, hn, _, _, ht⟩
  · exact ⟨none, 0, by rw [h0], by omega, .inl h0⟩
  · refine ⟨_, cap, rfl, hn, .inr ⟨g, 0, rfl, hg, fun k hk => ?_⟩⟩
    have := World.ownsRow.cells h (g := g) rfl k vs[k] (by simp [hk])
    have hadd : (⟨g, 0, none⟩ : Addr).add k = ⟨g, 0 + k, none⟩ := by unfold Addr.add; split <;> simp_all
    rw [hadd] at this
    rw [this]; simp [hk]
theorem Owns.ints {base : Nat} {e : TypeId} {w : World} {v : Value} {xs : List Int} (h : Owns base e w v (xs.map (Value.int .i64))) : IntsAt (fun b => base ≤ b) w v xs := by
  have := h.slAt
  rw [List.length_map] at this
  exact this.congr fun k hk => by simp [gi, hk]
theorem Owns.strs {base : Nat} {e : TypeId} {w : World} {v : Value} {xs : List ByteArray} (h : Owns base e w v (xs.map Value.string)) : StrsAt (fun b => base ≤ b) w v xs := by
  have := h.slAt
  rw [List.length_map] at this
  exact this.congr fun k hk => by simp [gs, hk]
theorem Owns.kept {base : Nat} {e : TypeId} {w w' : World} {v : Value} {vs : List Value} (h : Owns base e w v vs) (k : ∀ b, base ≤ b → b < w.heap.size → w'.heap[b]? = w.heap[b]?) : Owns base e w' v vs := by
  refine ⟨h.1, ?_⟩
  rcases h.2 with h0 | ⟨g, cap, cur, rfl, hg, hc, hr⟩
  · exact .inl h0
  · have hlt : g < w.heap.size := by
      rcases Nat.lt_or_ge g w.heap.size with h1 | h1
      · exact h1
      · rw [Array.getElem?_eq_none h1] at hc; cases hc
    exact .inr ⟨g, cap, cur, rfl, hg, (k g hg hlt).trans hc, hr⟩
theorem Owns.alloc {base : Nat} {e : TypeId} {w : World} {v : Value} {vs : List Value} (h : Owns base e w v vs) (o : Obj) : Owns base e (w.alloc o) v vs := World.ownsRow.alloc h o
theorem grown_alloc {w w' : World} {o : Obj} {row : Option Nat} (h : (w.alloc o).grownBy w' row) : w.grownBy w' row :=
  ⟨h.os, h.tape, h.output, Nat.le_trans (by simp) h.size, fun k hk hne => (h.block k (by simp; omega) hne).trans (Below.heap_alloc w o k hk)⟩
theorem Owns.grown_below {base : Nat} {e : TypeId} {w w' : World} {v : Value} {vs : List Value} (h : Owns base e w v vs) (hg : w.grownBy w' v.ownBlock) (hb : base ≤ w.heap.size) : Below base w w' :=
  (Below.refl base w).grown hg hb fun k hk => (World.ownsRow.lt h k hk).1
section
variable {P : Program} {ops : Array Oper} {rest : List Oper} {o : Oper} {a : Act} {Q : Exit → Act → World → Prop}
/-- 'out = append(out, u)': u lies in the block that was laid for it just before. -/
theorem wpList_app1 (W : World) (hgd : o.guard = none) (s x : Operand) (t : TypeId) (ho : o.op = .call { callee := .builtin .append, args := #[s, x], argTypes := #[t, t] })
    (base : Nat) (e : TypeId) (z : Value) (bytes : Nat) (ht : P.underlying t = some (.slice e)) (hinfo : (P.info? e).map (fun i => (i.zero, i.size, i.bytes)) = some (some z, 1, bytes))
    (hz1 : z.cells.size = 1) (hb8 : bytes ≤ 64) {v : Value} {vs : List Value} (hown : Owns base e W v vs) (hs : a.eval s = v) (u : Value)
    (hx : a.eval x = .slice (some ⟨W.heap.size, 0, none⟩) 1 1) (h1 : u.oneCell' = true) (hn : vs.length ≤ 1000000) (hbase : base ≤ W.heap.size)
    (h : ∀ g cap w', Owns base e w' (.slice (some ⟨g, 0, none⟩) (vs.length + 1) cap) (vs ++ [u]) → W.grownBy w' v.ownBlock → Below base W w' → wpList P ops Q rest (a.put o.dst (.slice (some ⟨g, 0, none⟩) (vs.length + 1) cap)) w') :
    wpList P ops Q (o :: rest) a (W.alloc (.cells #[u] e)) := by
  obtain ⟨i, hi, hzz⟩ := Option.map_eq_some_iff.1 hinfo
  simp only [Prod.mk.injEq] at hzz
  obtain ⟨hz, hs1, hb⟩ := hzz
  refine wpList_append_lies _ hgd s x t ho base e i z 1 bytes ht hi hz hs1 hb hz1 (by omega) v vs.length vs hs (hown.alloc _) ⟨W.heap.size, 0, none⟩ 1 1 [u] hx rfl (cell_one_new _ _ _) (by simpa using h1) (by omega)
    (by unfold maxLen; omega) ?_ (by simp; omega) _ rfl fun g cap w' h2 h3 _ _ => h g cap w' ?_ (grown_alloc h3) (hown.grown_below (grown_alloc h3) hbase)
  · have : (vs.length + 1) * bytes ≤ (vs.length + 1) * 64 := Nat.mul_le_mul_left _ hb8
    omega
  · unfold Owns; rw [List.length_append]; exact h2
end
end Go.Proofs.YtgjcfkadioblfaaGreat
namespace Go.Proofs.YtgjcfkadioblfaaGreat
open Go.RowKit Go.Deep
theorem Tryz.infoI : (Tryz.prog.info? 3).map (fun i => (i.zero, i.size, i.bytes)) = some (some (.int .i64 0), 1, 8) := by kernel_rfl
def LvPost (w : World) (t : Tre) (e : Ending) (w' : World) : Prop :=
  Below w.heap.size w w' ∧ ((treeErr t ≠ 0 ∧ e = .returned (.tuple #[.slice none 0 0, .int .i64 1])) ∨
    (treeErr t = 0 ∧ ∃ v, e = .returned (.tuple #[v, .int .i64 0]) ∧ IntsAt (fun b => w.heap.size ≤ b) w' v (leavesL t.ns)))
set_option maxRecDepth 100000 in
set_option maxHeartbeats 800000 in
theorem leaves_t (S : Nat → Prop) (w : World) (v : Value) (t : Tre) (h : TreeAt S w v t) (hp : t.ps.length ≤ 1000000) (hn : t.ns.length ≤ 1000000) (hz : ∀ k, (gs t.ns k).size ≤ 70000) :
    Calls Tryz.prog 31 #[v] w (LvPost w t) := by
  obtain ⟨P, N, rfl, hP, hN⟩ := h
  have ht0 : TreeAt S (w.alloc (.cells #[P, N] 25)) (.agg #[P, N]) t := TreeAt.keep ⟨P, N, rfl, hP, hN⟩ (Kept.below ((Below.refl _ w).alloc (Nat.le_refl _) _))
  have hb0 : Below w.heap.size w (w.alloc (.cells #[P, N] 25)) := (Below.refl _ _).alloc (Nat.le_refl _) _
  have hcq : (w.alloc (.cells #[P, N] 25)).cell? ⟨w.heap.size, 1, none⟩ = some N := by simp [World.cell?_alloc_new]
  have hck := check_t S (w.alloc (.cells #[P, N] 25)) _ t ht0 hp hn hz
  rw [World.size_alloc] at hck
  have HCK := Lib.hid hck
  have HCQ := Lib.hid hcq
  have HB0 := Lib.hid hb0
  have HN := Lib.hid hN
  clear hck hcq hb0 ht0 hP hN
  by_cases he : treeErr t = 0
  · go_enter Tryz.func31, Tryz.ntmps31
    go_wp2_with fail
    refine HCK.out.mono ?_
    rintro e w1 ⟨rfl, hb1⟩
    have hbw : Below w.heap.size w w1 := HB0.out.trans (hb1.mono (by omega))
    have hN1 := HN.out.keep (Kept.below hbw)
    have hcq : w1.cell? ⟨w.heap.size, 1, none⟩ = some N := (hb1.cell (p := ⟨w.heap.size, 1, none⟩) (by simp)).trans HCQ.out
    obtain ⟨q, cap2, rfl, hcap2, HNN⟩ := SlAt.open hN1
    have hHN := Lib.hid HNN
    have hwz : w.heap.size ≤ w1.heap.size := hbw.size
    have HE := Lib.hid he
    rw [he]
    clear HNN hN1 HCK HCQ HB0 HN hb1 he
    go_wp2_with fail
    go_loopw [4, 5, 6, 13] (fun v _ _ i wr => ∃ k : Nat, k ≤ t.ns.length ∧ i = .int .i64 k ∧ Owns w1.heap.size 3 wr v ((leavesK t.ns k).map (Value.int .i64)) ∧ Below w1.heap.size w1 wr) (fun _ _ _ i _ => t.ns.length - (intOf i).toNat)
    case atStart => exact ⟨0, Nat.zero_le _, rfl, Owns.nil _ _ _, Below.refl _ _⟩
    case round =>
      obtain ⟨k, hk, rfl, hown, hbr⟩ := hrel
      by_cases hlt : k < t.ns.length
      · obtain ⟨b, off, rfl, hc0⟩ := hHN.out k hlt
        have hc : wr.cell? ⟨b, off + k, none⟩ = some (.string (gs t.ns k)) := by
          rw [hbr.cell (p := ⟨b, off + k, none⟩) (World.block_lt_of_cell? _ _ hc0)]; exact hc0
        have hsz := hbr.size
        have hsucc := leavesK_succ t.ns k
        have hll := leavesK_len t.ns k
        have hnil := toList_nil (gs t.ns k)
        have HNIL := Lib.hid hnil
        have HSU := Lib.hid hsucc
        have HLL : Hid (((leavesK t.ns k).map (Value.int .i64)).length ≤ 1000000) := by unfold Hid; rw [List.length_map]; omega
        clear hc0 hnil hsucc hll hHN hz
        generalize hgk : gs t.ns k = g at *
        clear hgk
        by_cases hg0 : g.size = 0
        · have hg1 : g.toList = [] := HNIL.out.2 hg0
          have HG0 := Lib.hid hg0
          clear hg0
          go_wp2
          go_roundw
          case rel => exact ⟨k + 1, by omega, by go_num, by rw [HSU.out, if_pos HG0.out, List.append_nil]; exact hown, hbr⟩
          case measure => simp [intOf]; omega
        · have hg1 : (g.toList == []) = false := by
            rw [Bool.eq_false_iff]; intro e; exact hg0 (HNIL.out.1 (by simpa using e))
          have hg2 : (g.toList != []) = true := by
            rw [bne_iff_ne]; intro e; exact hg0 (HNIL.out.1 (by simpa using e))
          have HG0 := Lib.hid hg0
          clear hg0
          go_wp2_with (at_builtin; refine wpList_app1 wr rfl _ _ 22 rfl w1.heap.size 3 _ 8 Tryz.underlying22 Tryz.infoI rfl (by decide) hown rfl _ rfl rfl HLL.out hsz ?_; intro g cap w2 hown1 hg1 hb1)
          go_roundw
          case rel => exact ⟨k + 1, by omega, by go_num, by rw [HSU.out, if_neg HG0.out, List.map_append]; rw [List.length_map] at hown1; exact hown1, hbr.trans hb1⟩
          case measure => simp [intOf]; omega
      · obtain rfl : k = t.ns.length := by omega
        clear hlt hk hHN
        go_wp2
        go_ret2
        exact ⟨hbw.trans (hbr.mono hwz), .inr ⟨HE.out, _, rfl, hown.ints.sub fun b hb _ => Nat.le_trans hwz hb⟩⟩
  · have he' : (treeErr t != 0) = true := by simpa using he
    have HE := Lib.hid he
    clear he
    go_enter Tryz.func31, Tryz.ntmps31
    go_wp2_with fail
    refine HCK.out.mono ?_
    rintro e w1 ⟨rfl, hb1⟩
    go_wp2_with fail
    go_ret2
    exact ⟨HB0.out.trans (hb1.mono (by omega)), .inl ⟨HE.out, rfl⟩⟩
end Go.Proofs.YtgjcfkadioblfaaGreat
namespace Go.Proofs.YtgjcfkadioblfaaGreat
open Go.RowKit Go.Deep
def StI (e : Ending) (w' : World) (w : World) (n : Int) : Prop := e = .returned (.int .i64 n) ∧ Below w.heap.size w w'
end Go.Proofs.YtgjcfkadioblfaaGreat
namespace Go.Proofs.YtgjcfkadioblfaaGreat
open Go.RowKit Go.Shelf Go.Deep
attribute [local go_sem] Oper.semAt_some
theorem grown_drew (w : World) (row : Option Nat) : w.grownBy w.drew row := ⟨rfl, rfl, rfl, Nat.le_refl _, fun _ _ _ => rfl⟩
abbrev Kid (ps : List Int) (node : Nat) := { x : Nat // x ∈ kidsL ps node }
def vals {ps : List Int} {node : Nat} (l : List (Kid ps node)) : List Nat := l.map Subtype.val
theorem vals_snoc {ps : List Int} {node : Nat} (l : List (Kid ps node)) (x : Kid ps node) : vals (l ++ [x]) = vals l ++ [x.1] := by simp [vals]
theorem kidsK_prefix (ps : List Int) (n k : Nat) (h : k ≤ ps.length) : kidsK ps n k <+: kidsL ps n := by
  unfold kidsL
  obtain ⟨d, hd⟩ : ∃ d, ps.length = k + d := ⟨ps.length - k, by omega⟩
  rw [hd]
  clear hd h
  induction d with
  | zero => exact List.prefix_rfl
  | succ d ih => rw [← Nat.add_assoc, kidsK_succ]; exact ih.trans (List.prefix_append _ _)
theorem round_or {e : Ending} {A B : Prop} (h : (e = .returned (.bool true) ∧ A) ∨ (e = .returned (.bool false) ∧ B)) : ∃ bb, e = .returned (.bool bb) ∧ Hid ((bb = true ∧ A) ∨ (bb = false ∧ B)) := by
  rcases h with ⟨h1, h2⟩ | ⟨h1, h2⟩
  · exact ⟨true, h1, .inl ⟨rfl, h2⟩⟩
  · exact ⟨false, h1, .inr ⟨rfl, h2⟩⟩
/-- The blocks of T lie as they lay. -/
def KS (T : Nat → Prop) (w w' : World) : Prop := ∀ b, T b → w'.heap[b]? = w.heap[b]?
theorem KS.refl (T : Nat → Prop) (w : World) : KS T w w := fun _ _ => rfl
theorem KS.trans {T : Nat → Prop} {a b c : World} (h : KS T a b) (k : KS T b c) : KS T a c := fun i hi => (k i hi).trans (h i hi)
theorem KS.cell {T : Nat → Prop} {a b : World} (h : KS T a b) {p : Addr} (hp : T p.block) : b.cell? p = a.cell? p := World.cell?_of_block (h p.block hp)
theorem KS.drew {T : Nat → Prop} {a b : World} (h : KS T a b) : KS T a b.drew := h
theorem KS.drewN {T : Nat → Prop} {a b : World} (h : KS T a b) (n : Nat) : KS T a (b.drewN n) := h
end Go.Proofs.YtgjcfkadioblfaaGreat
namespace Go.Proofs.YtgjcfkadioblfaaGreat
open Go.RowKit Go.Shelf Go.Deep
/-- What is left to do at a function's end: marks of loops over functions, in which nothing waits. -/
def Marks (n₀ : Nat) (w : World) : List Deferred → Prop
  | [] => True
  | d :: ds => (∃ r, d = { target := .collected r, args := #[] } ∧ n₀ ≤ r ∧ w.heap[r]? = some (.deferred (some [])) ∧ (∀ d' ∈ ds, d'.target ≠ .collected r)) ∧ Marks n₀ w ds
theorem Marks.keep {n₀ : Nat} {w w' : World} (h : ∀ r, w.heap[r]? = some (.deferred (some [])) → n₀ ≤ r → w'.heap[r]? = w.heap[r]?) : ∀ {ds : List Deferred}, Marks n₀ w ds → Marks n₀ w' ds
  | [], _ => trivial
  | _ :: _, ⟨⟨r, e, hr, hk, hne⟩, ht⟩ => ⟨⟨r, e, hr, (h r hk hr).trans hk, hne⟩, ht.keep h⟩
theorem Marks.lt {n₀ : Nat} {w : World} : ∀ {ds : List Deferred}, Marks n₀ w ds → ∀ d ∈ ds, ∃ r, d.target = .collected r ∧ r < w.heap.size
  | _ :: _, ⟨⟨r, e, _, hk, _⟩, ht⟩, d, hd => by
    rcases List.mem_cons.1 hd with rfl | hd
    · refine ⟨r, by rw [e], ?_⟩
      rcases Nat.lt_or_ge r w.heap.size with h | h
      · exact h
      · rw [Array.getElem?_eq_none h] at hk; cases hk
    · exact ht.lt d hd
theorem Marks.keep' {n₀ r : Nat} {w w' : World} (h : ∀ k, k ≠ r → w'.heap[k]? = w.heap[k]?) : ∀ {ds : List Deferred}, (∀ d' ∈ ds, d'.target ≠ .collected r) → Marks n₀ w ds → Marks n₀ w' ds
  | [], _, _ => trivial
  | _ :: _, hne, ⟨⟨s, e, hs, hk, hns⟩, ht⟩ => ⟨⟨s, e, hs, (h s (by rintro rfl; exact hne _ List.mem_cons_self (by rw [e]))).trans hk, hns⟩, Marks.keep' h (fun d hd => hne d (List.mem_cons_of_mem _ hd)) ht⟩
theorem leaves_marks {fn : Func} {tmps : Array Value} {R : Ending → World → Prop} {n n₀ : Nat} {v : Value} (hres : ∀ w, (results fn tmps).run Tryz.prog w = .ok v w) :
    ∀ {ds : List Deferred} {w : World}, Marks n₀ w ds → (∀ w', Below n₀ w w' → w'.heap.size = w.heap.size → (∀ b : Nat, (∃ c t z, w.heap[b]? = some (Obj.cells c t z)) → w'.heap[b]? = w.heap[b]?) → R (.returned v) w') →
    LeavesInM Fence.wide n Tryz.prog fn tmps R ds .returning w
  | [], w, _, hR => ⟨v, hres w, hR w (Below.refl _ _) rfl fun _ _ => rfl⟩
  | d :: ds, w, ⟨⟨r, e, hr, hk, hne⟩, ht⟩, hR => by
    refine ⟨by simp, .inl ⟨r, _, by rw [e], run_takeDeferred hk, ?_⟩⟩
    have hoth : ∀ k, k ≠ r → (w.putObj r (.deferred none)).heap[k]? = w.heap[k]? := fun k hk2 => World.putObj_heap_other hk2
    refine leaves_marks hres (Marks.keep' hoth hne ht) fun w' hb hs hc => hR w' ?_ (hs.trans (by simp)) fun b ⟨c, t, z, hbk⟩ => ?_
    · exact (show Below n₀ w (w.putObj r (.deferred none)) from ⟨rfl, rfl, rfl, by simp, fun k hk2 => hoth k (by omega)⟩).trans hb
    · have hbr : b ≠ r := by rintro rfl; rw [hk] at hbk; cases hbk
      rw [hc b ⟨c, t, z, by rw [hoth b hbr]; exact hbk⟩, hoth b hbr]
end Go.Proofs.YtgjcfkadioblfaaGreat
namespace Go.Proofs.YtgjcfkadioblfaaGreat
open Go.RowKit Go.Shelf Go.Deep
section
variable {F : Fence} {n : Nat} {P : Program} {ops : Array Oper} {C : World → Prop}
theorem op_quiet_r {o : Oper} {a : Act} {K : Act → Prop} {K' : Act → World → Prop} {Q' : Exit → Act → World → Prop} {w : World} (hs : ∀ ρ, Oper.semAt F.round ρ o = execOp ρ o) (hw : C w)
    (h : ∀ a w', C w' → K a → K' a w') (ha : o.askedIn F P a C) (hh : o.quietIn F n P a C K) : o.wpIn F n P a w K' Q' := by
  obtain ⟨v, hv, hk⟩ := hh
  have hv := hv w hw
  refine ⟨ha w hw, ?_⟩
  rw [hs]
  unfold Oper.quietAtIn at hv
  cases hr : (execOp a.eval o).run P w with
  | halt x w' => rw [hr] at hv; exact hv.elim
  | ok x w' =>
    rw [hr] at hv
    cases x with
    | value u => obtain ⟨rfl, rfl⟩ := hv; exact h _ _ hw hk
    | skip => obtain ⟨rfl, rfl⟩ := hv; exact h _ _ hw hk
    | enter f args => obtain ⟨rfl, hd, hc⟩ := hv; exact ⟨hd, hc.mono fun e w'' ⟨he, hw2⟩ => by subst he; exact h _ _ hw2 hk⟩
    | _ => exact hv.elim
theorem at_quiet_r {i : Nat} {a : Act} {K : Act → Prop} {K' : Act → World → Prop} {Q' : Exit → Act → World → Prop} {w : World} (hs : ∀ o : Oper, ops[i]? = some o → ∀ ρ, Oper.semAt F.round ρ o = execOp ρ o) (hC : C w)
    (h : ∀ a w', C w' → K a → K' a w') (hh : qOpIn F n P ops C i K a) : wpOpIn F n P ops Q' i K' a w := by
  cases ho : ops[i]? with
  | none => simp only [qOpIn, wpOpIn, ho] at hh ⊢; exact h _ _ hC hh
  | some o =>
    simp only [qOpIn, wpOpIn, ho] at hh ⊢
    by_cases hg : Region.wanted o (yielded ops a.tmps) = true
    · rw [if_pos hg] at hh ⊢; exact op_quiet_r (hs o ho) hC h hh.1 hh.2
    · rw [if_neg hg] at hh ⊢; exact ⟨hh.1 w hC, h _ _ hC hh.2⟩
theorem any_quiet_r {Q : Act → Prop} {Q' : Exit → Act → World → Prop} {md : Region.Mode} (hs : ∀ (i : Nat) (o : Oper), ops[i]? = some o → ∀ ρ, Oper.semAt F.round ρ o = execOp ρ o) (hQ : ∀ a w, C w → Q a → Q' .normal a w) (fuel : Nat) :
    ∀ (listed : Array Bool) (a : Act) (w : World), C w → wpAnyQIn F n P md ops C Q fuel listed a → wpAnyIn F n P md ops Q' fuel listed a w := by
  induction fuel with
  | zero => intro _ a w hw h; exact ⟨h.1, hQ a w hw h.2⟩
  | succ k ih => intro _ a w hw h; exact ⟨fun h0 => hQ a w hw (h.1 h0), fun i hi => at_quiet_r (hs i) hw (fun a' w' hw' => ih _ a' w' hw') (h.2 i hi)⟩
theorem region_quiet_r {id l₀ : Nat} {Q : Exit → Act → World → Prop} {a : Act} {w : World} {l : List Oper} (hro : F.round = some l₀) (hm : P.follows .mixedOrders = true) (hB : Region.lexB .any l.toArray = true)
    (hd : l.all (fun o => match o.op with | .defer _ => false | _ => true) = true)
    (h : wpQuietIn F n P l.toArray (fun w' => ∃ n, w' = w.drewN n) (fun a' => ∀ w', (∃ n, w' = w.drewN n) → Q .normal a' w') l a) : (Code.region id l.toArray true).wpIn F n P Q a w := by
  have hs : ∀ (i : Nat) o, l.toArray[i]? = some o → ∀ ρ, Oper.semAt F.round ρ o = execOp ρ o := fun i o ho ρ => by
    rw [hro]
    refine Oper.semAt_some l₀ ρ o fun c e => ?_
    have h1 := List.all_eq_true.1 hd o (List.mem_of_getElem? (by simpa using ho))
    rw [e] at h1; cases h1
  simp only [Region.lexB, Bool.and_eq_true] at hB
  refine wpIn_region_any hm (any_quiet_r (C := fun w' => ∃ n, w' = w.drewN n) (Q := fun a' => ∀ w', (∃ n, w' = w.drewN n) → Q .normal a' w') hs (fun _ w' hw' h => h w' hw') _ _ _ _ ⟨1, rfl⟩ ?_)
  have h2 := wpAnyQIn_lex (F := F) (n := n) (C := fun w' => ∃ n, w' = w.drewN n) (md := .any) hB.1 l.toArray.toList 0 (Array.replicate l.toArray.size false) a (by simp) (by simpa using hB.2) (by simpa using h)
  simpa using h2
end
end Go.Proofs.YtgjcfkadioblfaaGreat
namespace Go.Proofs.YtgjcfkadioblfaaGreat
open Go.RowKit Go.Deep
def pairOf (x : Int × Int) : Value := .tuple #[.int .i64 x.1, .int .i64 x.2]
def BkStep (x : Int × Int) (l o : Int) : Prop := x = (l, o)
end Go.Proofs.YtgjcfkadioblfaaGreat
namespace Go.Proofs.YtgjcfkadioblfaaGreat
open Go.RowKit Go.Shelf Go.Deep
attribute [local go_sem] Oper.semAt_some
set_option maxHeartbeats 400000 in
theorem index_int_t (S : Nat → Prop) (w : World) (v : Value) (xs : List Int) (x : Int) (h : IntsAt S w v xs) (hn : xs.length ≤ 1000000) :
    Calls Tryz.prog 119 #[v, .int .i64 x] w fun e w' => e = .returned (.int .i64 (firstIx (fun j => decide (x = gi xs j)) xs.length)) ∧ w = w' := by
  obtain ⟨p, cap, rfl, hcap, H⟩ := SlAt.open h
  clear h
  go_enter Tryz.func119, Tryz.ntmps119
  go_wp2_with fail
  go_loop [5, 8] (fun _ i => ∃ k : Nat, k ≤ xs.length ∧ i = .int .i64 k ∧ Hid (∀ j, j < k → decide (x = gi xs j) = false)) (fun _ i => xs.length - (intOf i).toNat)
  case atStart => exact ⟨0, Nat.zero_le _, rfl, fun j hj => absurd hj (Nat.not_lt_zero _)⟩
  case round =>
    obtain ⟨k, hk, rfl, hd⟩ := hrel
    by_cases hlt : k < xs.length
    · obtain ⟨b, off, rfl, hc⟩ := H k hlt
      clear H
      generalize hy : gi xs k = y at *
      have HY := Lib.hid hy
      clear hy
      by_cases hxy : x = y
      · have hx1 : (x == y) = true := by simp [hxy]
        have HXY := Lib.hid hxy
        clear hxy
        go_wp2_with fail
        go_ret
        exact ⟨ret_int (firstIx_at (p := fun j => decide (x = gi xs j)) hlt hd.out (by rw [HY.out]; simpa using HXY.out)).symm, rfl⟩
      · have hx1 : (x == y) = false := by simpa using hxy
        have HXY := Lib.hid hxy
        clear hxy
        go_wp2_with fail
        go_round
        case rel => exact ⟨k + 1, by omega, by go_num, fun j hj => if e : j = k then by subst e; rw [HY.out]; simpa using HXY.out else hd.out j (by omega)⟩
        case measure => simp [intOf]; omega
    · clear H
      go_wp2_with fail
      go_ret
      exact ⟨ret_int (firstIx_none fun j hj => hd.out j (by omega)).symm, rfl⟩
/-- The world in which a row is filled: what the closure's variables hold. -/
structure FillW (w : World) (t : Tre) (st : List Int) (cs : List (List Int)) (pC pL pS pT pO ob : Nat) (V : Nat → Value) (k : Nat) : Prop where
  cC : ∃ C, w.cell? ⟨pC, 0, none⟩ = some C ∧ RowsAt (· ≠ ob) w C cs
  cL : ∃ L, w.cell? ⟨pL, 0, none⟩ = some L ∧ IntsAt (· ≠ ob) w L (leavesL t.ns)
  cS : ∃ L, w.cell? ⟨pS, 0, none⟩ = some L ∧ IntsAt (· ≠ ob) w L st
  cT : ∃ P N, w.cell? ⟨pT, 0, none⟩ = some P ∧ w.cell? ⟨pT, 1, none⟩ = some N ∧ IntsAt (· ≠ ob) w P t.ps
  cO : w.cell? ⟨pO, 0, none⟩ = some (.slice (some ⟨ob, 0, none⟩) t.ps.length t.ps.length)
  row : w.rowIs ob 22 t.ps.length V
  rows : ∀ j, k ≤ j → j < t.ps.length → IntsAt (· ≠ ob) w (V j) (tabRow t st cs j)
  ne : pC ≠ ob ∧ pL ≠ ob ∧ pS ≠ ob ∧ pT ≠ ob ∧ pO ≠ ob
def FillPost (w : World) (t : Tre) (st : List Int) (cs : List (List Int)) (ob : Nat) (V : Nat → Value) (i : Nat) (e : Ending) (w' : World) : Prop :=
  e = .returned (.tuple #[]) ∧ w.grownBy w' (some ob) ∧ ∃ v, w'.rowIs ob 22 t.ps.length (fun j => if j = i then v else V j) ∧ IntsAt (· ≠ ob) w' v (tabRow t st cs i)
structure RoundW (w1 wr : World) (R0 m : Nat) (f : Nat → Int) (ds : List Deferred) : Prop where
  grown : w1.grownBy wr (some R0)
  row : wr.rowIs R0 3 m (fun j => .int .i64 (f j))
  marks : Marks w1.heap.size wr ds
theorem Marks.drewN {n₀ : Nat} {w : World} {ds : List Deferred} (h : Marks n₀ w ds) (k : Nat) : Marks n₀ (w.drewN k) ds := Marks.keep (w := w) (w' := w.drewN k) (fun _ _ _ => rfl) h
theorem RoundW.drewN {w1 wr : World} {R0 m : Nat} {f : Nat → Int} {ds : List Deferred} (h : RoundW w1 wr R0 m f ds) (k : Nat) : RoundW w1 (wr.drewN k) R0 m f ds :=
  ⟨⟨h.grown.os, h.grown.tape, h.grown.output, h.grown.size, h.grown.block⟩, h.row, h.marks.drewN k⟩
theorem RoundW.congr {w1 wr : World} {R0 m : Nat} {f g : Nat → Int} {ds : List Deferred} (h : RoundW w1 wr R0 m f ds) (e : ∀ j, j < m → f j = g j) : RoundW w1 wr R0 m g ds :=
  ⟨h.grown, h.row.congr fun j hj => by rw [e j hj], h.marks⟩
theorem RoundW.set {w1 wr : World} {R0 m : Nat} {f : Nat → Int} {ds : List Deferred} (h : RoundW w1 wr R0 m f ds) (hR : R0 < w1.heap.size) (s : Nat) (x : Int) :
    RoundW w1 (wr.setCell ⟨R0, s, none⟩ (.int .i64 x)) R0 m (fun j => if j = s then x else f j) ds :=
  ⟨⟨h.grown.os, h.grown.tape, h.grown.output, by rw [World.size_setCell]; exact h.grown.size, fun k hk hne => (Below.heap_setCell _ _ _ k (fun e => hne (by rw [e]))).trans (h.grown.block k hk hne)⟩,
    (h.row.set s _).congr (fun j _ => by by_cases e : j = s <;> simp [e]), h.marks.keep fun r _ hr2 => Below.heap_setCell _ _ _ r (by simp only; omega)⟩
theorem RoundW.alloc {w1 wr : World} {R0 m : Nat} {f : Nat → Int} {ds : List Deferred} (h : RoundW w1 wr R0 m f ds) (o : Obj) : RoundW w1 (wr.alloc o) R0 m f ds :=
  ⟨⟨h.grown.os, h.grown.tape, h.grown.output, by simp; have := h.grown.size; omega, fun k hk hne => (Below.heap_alloc _ _ k (Nat.lt_of_lt_of_le hk h.grown.size)).trans (h.grown.block k hk hne)⟩,
    h.row.alloc o, h.marks.keep fun r hr _ => Below.heap_alloc _ _ r (by
      rcases Nat.lt_or_ge r wr.heap.size with h | h
      · exact h
      · rw [Array.getElem?_eq_none h] at hr; cases hr)⟩
theorem quiet_left {P : Program} {f : FuncId} {args : Array Value} {w : World} {n : Nat} {v : Value} (h : Calls P f args (w.drewN n) fun e w' => e = .returned v ∧ w.drewN n = w') :
    Calls P f args (w.drewN n) fun e w'' => e = .returned v ∧ ∃ m, w'' = w.drewN m := h.mono fun _ _ ⟨he, hm⟩ => ⟨he, n, hm.symm⟩
theorem kept_drewN (S : Nat → Prop) (w : World) (n : Nat) : Kept S w (w.drewN n) := fun _ _ _ => rfl
theorem grown_tr {a b c : World} {R : Nat} (h : a.grownBy b (some R)) (k : b.grownBy c (some R)) : a.grownBy c (some R) :=
  ⟨k.os.trans h.os, k.tape.trans h.tape, k.output.trans h.output, Nat.le_trans h.size k.size, fun i hi hne => (k.block i (Nat.lt_of_lt_of_le hi h.size) hne).trans (h.block i hi hne)⟩
theorem RoundW.later {w1 w7 W : World} {R0 m : Nat} {f g : Nat → Int} {ds : List Deferred} (h : RoundW w1 w7 R0 m f ds) (hg : w7.grownBy W (some R0)) (hr : W.rowIs R0 3 m (fun j => .int .i64 (g j))) (hR : R0 < w1.heap.size) : RoundW w1 W R0 m g ds :=
  ⟨grown_tr h.grown hg, hr, h.marks.keep fun r hr hr2 => hg.block r (by
      rcases Nat.lt_or_ge r w7.heap.size with h | h
      · exact h
      · rw [Array.getElem?_eq_none h] at hr; cases hr) (by simp; omega)⟩
theorem own_row {w7 : World} {R0 m : Nat} {β : Type} {f : β → Nat → Int} (hR : R0 < w7.heap.size) :
    OwnFrom w7.heap.size (fun (pre : β) W => W.rowIs R0 3 m (fun j => .int .i64 (f pre j)) ∧ w7.grownBy W (some R0)) := by
  rintro pre W W' row ⟨h1, h2⟩ hg hr
  refine ⟨h1.of_block (hg.block _ h1.lt (fun e => by have := (hr _ e.symm).1; omega)), hg.os.trans h2.os, hg.tape.trans h2.tape, hg.output.trans h2.output, Nat.le_trans h2.size hg.size, fun k hk hne => ?_⟩
  exact (hg.block k (Nat.lt_of_lt_of_le hk h2.size) (fun e => by have := (hr _ e.symm).1; omega)).trans (h2.block k hk hne)
theorem sum_bd {f : Nat → Int} {A : Int} (hA : 0 ≤ A) (h : ∀ c, -1 ≤ f c ∧ f c ≤ A) : ∀ l : List Nat, -(l.length : Int) ≤ (l.map f).sum ∧ (l.map f).sum ≤ A * l.length
  | [] => by simp
  | c :: l => by
    have := sum_bd hA h l
    have := h c
    simp only [List.map_cons, List.sum_cons, List.length_cons]
    have e : A * ((l.length + 1 : Nat) : Int) = A * l.length + A := by rw [Int.natCast_add, Int.mul_add]; simp
    rw [e]
    constructor <;> omega
theorem sum_vals {ps : List Int} {i : Nat} {f : Nat → Int} {A : Int} {B : Nat} (hA : 0 ≤ A) (hB : 0 ≤ (B : Int)) : ∀ (l : List (Kid ps i)), (∀ c : Kid ps i, -1 ≤ f c.1 ∧ f c.1 ≤ A) → l.length ≤ B → -(B : Int) ≤ ((vals l).map f).sum ∧ ((vals l).map f).sum ≤ A * B := by
  intro l h
  induction l generalizing B with
  | nil => intro _; simp [vals]; exact Int.mul_nonneg hA hB
  | cons c l ih =>
    intro hl
    simp only [List.length_cons] at hl
    obtain ⟨B', rfl⟩ : ∃ B', B = B' + 1 := ⟨B - 1, by omega⟩
    have := ih (B := B') (by omega) (by omega)
    have hc := h c
    have e : A * ((B' + 1 : Nat) : Int) = A * B' + A := by rw [Int.natCast_add, Int.mul_add]; simp
    rw [e]
    simp only [vals, List.map_cons, List.sum_cons] at this ⊢
    constructor <;> omega
end Go.Proofs.YtgjcfkadioblfaaGreat
namespace Go.Proofs.YtgjcfkadioblfaaGreat
open Go.RowKit Go.Deep
theorem Tryz.infoSI : (Tryz.prog.info? 22).map (fun i => (i.zero, i.size, i.bytes)) = some (some (.slice none 0 0), 1, 24) := by kernel_rfl
theorem cell_at_new (W : World) (cs : Array Value) (t : TypeId) (k : Nat) : (W.alloc (.cells cs t)).cell? ⟨W.heap.size, k, none⟩ = cs[k]? := by
  unfold World.cell?; rw [World.alloc_heap_new]; rfl
theorem cell_of_box_new (W : World) (v : Value) (t : TypeId) : (W.alloc (.cells #[v] t)).cell? ⟨W.heap.size, 0, none⟩ = some v := cell_at_new W _ t 0
theorem FillW.step {w w' : World} {t : Tre} {st : List Int} {cs : List (List Int)} {pC pL pS pT pO ob : Nat} {V : Nat → Value} {j : Nat} {v : Value} (h : FillW w t st cs pC pL pS pT pO ob V (j + 1))
    (hg : w.grownBy w' (some ob)) (hr : w'.rowIs ob 22 t.ps.length (fun x => if x = j then v else V x)) (hv : IntsAt (· ≠ ob) w' v (tabRow t st cs j)) : FillW w' t st cs pC pL pS pT pO ob (fun x => if x = j then v else V x) j := by
  have hk : Kept (· ≠ ob) w w' := fun b hb hl => hg.block b hl (by simp; exact hb)
  have hc : ∀ {p o : Nat} {x : Value}, p ≠ ob → w.cell? ⟨p, o, none⟩ = some x → w'.cell? ⟨p, o, none⟩ = some x := fun hp hx => hg.cell hx (by simp; exact hp)
  obtain ⟨n1, n2, n3, n4, n5⟩ := h.ne
  obtain ⟨C, a1, a2⟩ := h.cC
  obtain ⟨L, b1, b2⟩ := h.cL
  obtain ⟨Q, c1, c2⟩ := h.cS
  obtain ⟨P, N, d1, d2, d3⟩ := h.cT
  refine ⟨⟨C, hc n1 a1, a2.keep hk⟩, ⟨L, hc n2 b1, b2.keep hk⟩, ⟨Q, hc n3 c1, c2.keep hk⟩, ⟨P, N, hc n4 d1, hc n4 d2, d3.keep hk⟩, hc n5 h.cO, hr, fun x h1 h2 => ?_, h.ne⟩
  by_cases e : x = j
  · subst e; simp only [if_true]; exact hv
  · simp only [e, if_false]; exact (h.rows x (by omega) h2).keep hk
def tabL (t : Tre) (st : List Int) (cs : List (List Int)) : List (List Int) := (List.range t.ps.length).map (tabRow t st cs)
def TbPost (w : World) (l : List (List Int)) (e : Ending) (w' : World) : Prop := Below w.heap.size w w' ∧ ∃ v, e = .returned v ∧ RowsAt Any w' v l
end Go.Proofs.YtgjcfkadioblfaaGreat
namespace Go.Proofs.YtgjcfkadioblfaaGreat
open Go.RowKit Go.Deep
/-- What lay in w lies in w' as it lay. -/
def Up (w w' : World) : Prop := Below w.heap.size w w'
theorem Up.refl (w : World) : Up w w := Below.refl _ _
theorem Up.trans {a b c : World} (h : Up a b) (k : Up b c) : Up a c := Below.trans h (Below.mono k h.size)
theorem Up.alloc (w : World) (o : Obj) : Up w (w.alloc o) := (Below.refl _ _).alloc (Nat.le_refl _) _
theorem Up.drewN (w : World) (n : Nat) : Up w (w.drewN n) := below_drewN (Below.refl _ _) n
theorem Up.kept {w w' : World} (h : Up w w') (S : Nat → Prop) : Kept S w w' := Kept.below h
theorem Up.size {w w' : World} (h : Up w w') : w.heap.size ≤ w'.heap.size := Below.size h
theorem Up.cell {w w' : World} (h : Up w w') {p : Addr} {v : Value} (hc : w.cell? p = some v) : w'.cell? p = some v := by
  obtain ⟨b, o, i⟩ := p
  have hl : b < w.heap.size := World.block_lt_of_cell? w _ hc
  rw [Below.cell h (p := ⟨b, o, i⟩) hl]; exact hc
theorem box2_0 (w : World) (P N : Value) (T : TypeId) : (w.alloc (.cells #[P, N] T)).cell? ⟨w.heap.size, 0, none⟩ = some P := by simp [World.cell?_alloc_new]
theorem box2_1 (w : World) (P N : Value) (T : TypeId) : (w.alloc (.cells #[P, N] T)).cell? ⟨w.heap.size, 1, none⟩ = some N := by simp [World.cell?_alloc_new]
theorem box1_0 (w : World) (P : Value) (T : TypeId) : (w.alloc (.cells #[P] T)).cell? ⟨w.heap.size, 0, none⟩ = some P := by simp [World.cell?_alloc_new]
def Sized (t : Tre) (st : List Int) (cs : List (List Int)) : Prop :=
  t.ps.length ≤ 1000000 ∧ t.ns.length ≤ 1000000 ∧ (∀ k, (gs t.ns k).size ≤ 70000) ∧ st.length ≤ 1000000 ∧ cs.length ≤ 1000000 ∧ ∀ k, (gl cs k).length ≤ 1000000
def ScPost (w : World) (t : Tre) (st : List Int) (cs : List (List Int)) (e : Ending) (w' : World) : Prop :=
  Up w w' ∧ e = .returned (.tuple #[.int .i64 (scoreN t st cs), .int .i64 (parErr t st cs)])
theorem rows_open {S : Nat → Prop} {w : World} {v : Value} {xs : List (List Int)} (h : RowsAt S w v xs) : ∃ p cap, v = .slice p xs.length cap ∧ xs.length ≤ cap ∧
    ∀ k, k < xs.length → ∃ b off q c, p = some ⟨b, off, none⟩ ∧ w.cell? ⟨b, off + k, none⟩ = some (.slice q (gl xs k).length c) ∧ IntsAt S w (.slice q (gl xs k).length c) (gl xs k) := by
  obtain ⟨f, hsl, hr⟩ := h
  obtain ⟨p, cap, rfl, hcap, H⟩ := SlAt.open hsl
  refine ⟨p, cap, rfl, hcap, fun k hk => ?_⟩
  obtain ⟨b, off, rfl, hc⟩ := H k hk
  have h1 := hr k hk
  obtain ⟨q, c, e, _, _⟩ := SlAt.open h1
  rw [e] at hc h1
  exact ⟨b, off, q, c, rfl, hc, h1⟩
theorem ints_get {S : Nat → Prop} {w : World} {p : Option Addr} {n cap : Nat} {xs : List Int} (h : IntsAt S w (.slice p n cap) xs) {k : Nat} (hk : k < xs.length) : ∃ b off, p = some ⟨b, off, none⟩ ∧ w.cell? ⟨b, off + k, none⟩ = some (.int .i64 (gi xs k)) := by
  obtain ⟨q, c, e, _, H⟩ := SlAt.open h
  injection e with e1
  subst e1
  exact H k hk
theorem strs_get {S : Nat → Prop} {w : World} {p : Option Addr} {n cap : Nat} {xs : List ByteArray} (h : StrsAt S w (.slice p n cap) xs) {k : Nat} (hk : k < xs.length) : ∃ b off, p = some ⟨b, off, none⟩ ∧ w.cell? ⟨b, off + k, none⟩ = some (.string (gs xs k)) := by
  obtain ⟨q, c, e, _, H⟩ := SlAt.open h
  injection e with e1
  subst e1
  exact H k hk
theorem rows_get {S : Nat → Prop} {w : World} {p : Option Addr} {n cap : Nat} {xs : List (List Int)} (h : RowsAt S w (.slice p n cap) xs) {k : Nat} (hk : k < xs.length) :
    ∃ b off q c, p = some ⟨b, off, none⟩ ∧ w.cell? ⟨b, off + k, none⟩ = some (.slice q (gl xs k).length c) ∧ IntsAt S w (.slice q (gl xs k).length c) (gl xs k) := by
  obtain ⟨q, c, e, _, H⟩ := rows_open h
  injection e with e1
  subst e1
  exact H k hk
theorem ints_get' {S : Nat → Prop} {w : World} {b off : Nat} {n cap : Nat} {xs : List Int} (h : IntsAt S w (.slice (some ⟨b, off, none⟩) n cap) xs) {k : Nat} (hk : k < xs.length) : w.cell? ⟨b, off + k, none⟩ = some (.int .i64 (gi xs k)) := by
  obtain ⟨b', o', e, hc⟩ := ints_get h hk
  injection e with e
  injection e with e1 e2
  subst e1; subst e2; exact hc
theorem rows_get' {S : Nat → Prop} {w : World} {b off : Nat} {n cap : Nat} {xs : List (List Int)} (h : RowsAt S w (.slice (some ⟨b, off, none⟩) n cap) xs) {k : Nat} (hk : k < xs.length) :
    ∃ q c, w.cell? ⟨b, off + k, none⟩ = some (.slice q (gl xs k).length c) ∧ IntsAt S w (.slice q (gl xs k).length c) (gl xs k) := by
  obtain ⟨b', o', q, c, e, hc, hi⟩ := rows_get h hk
  injection e with e
  injection e with e1 e2
  subst e1; subst e2; exact ⟨q, c, hc, hi⟩
theorem gl_tabL (t : Tre) (st : List Int) (cs : List (List Int)) {k : Nat} (hk : k < t.ps.length) : gl (tabL t st cs) k = tabRow t st cs k := by simp [gl, tabL, hk]
theorem tabL_len (t : Tre) (st : List Int) (cs : List (List Int)) : (tabL t st cs).length = t.ps.length := by simp [tabL]
end Go.Proofs.YtgjcfkadioblfaaGreat
