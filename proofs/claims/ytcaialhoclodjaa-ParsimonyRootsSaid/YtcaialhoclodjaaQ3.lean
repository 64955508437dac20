/- A slice that a call grows by one element at a time. The contract of phylotree.Leaves. The contracts of parsimony.known, matrix, Check. The contract of parsimony.children: an iterator over the children of a node. A function's end behind loops over functions. -/
import Derived.Test.YtcaialhoclodjaaQ2
import Derived.Maps.AppendAt
import Derived.Deep.AppendLies
import Derived.Test.YtcaialhoclodjaaQ1
import Derived.RangeFuncNested
import Derived.RangeFuncBound
import Derived.RangeFuncCalls
import Derived.RangeFuncLeaves
import Derived.Shelf.Abstract
import Derived.Shelf.RegionOpen
import Derived.WalkKit
import Derived.OwnWalkIn
import Derived.TacticsInMore
import Derived.LoopNIn
import Derived.LoopIn
import Derived.Sort.QuietIn
import Derived.Stop.RegionWithIn
namespace Go.Proofs.Ytcaialhoclodjaa
open Go.RowKit Go.Deep
def Owns (base : Nat) (e : TypeId) (w : World) (v : Value) (vs : List Value) : Prop := w.ownsRow base e 1 v vs.length vs
theorem Owns.nil (base : Nat) (e : TypeId) (w : World) : Owns base e w (.slice none 0 0) [] := World.ownsRow_nil _ _ _ _
theorem SlAt.congr {S : Nat → Prop} {w : World} {v : Value} {n : Nat} {f g : Nat → Value} (h : SlAt S w v n f) (e : ∀ k, k < n → f k = g k) : SlAt S w v n g := by
  obtain ⟨p, cap, rfl, hn, h⟩ := h
  refine ⟨p, cap, rfl, hn, ?_⟩
  rcases h with h | ⟨b, off, rfl, hS, h⟩
  · exact .inl h
  · exact .inr ⟨b, off, rfl, hS, fun k hk => by rw [← e k hk]; exact h k hk⟩
theorem Owns.slAt {base : Nat} {e : TypeId} {w : World} {v : Value} {vs : List Value} (h : Owns base e w v vs) : SlAt (fun b => base ≤ b) w v vs.length (fun k => vs.getD k undef) := by
  rcases h.2 with ⟨rfl, h0⟩ | ⟨g, cap, cur, rfl, hg, hc, hn, _, _, ht⟩
  · exact ⟨none, 0, by rw [h0], by omega, .inl h0⟩
  · refine ⟨_, cap, rfl, hn, .inr ⟨g, 0, rfl, hg, fun k hk => ?_⟩⟩
    have := World.ownsRow.cells h (g := g) rfl k vs[k] (by simp [hk])
    have hadd : (⟨g, 0, none⟩ : Addr).add k = ⟨g, 0 + k, none⟩ := by unfold Addr.add; split <;> simp_all
    rw [hadd] at this
    rw [this]; simp [hk]
theorem Owns.ints {base : Nat} {e : TypeId} {w : World} {v : Value} {xs : List Int} (h : Owns base e w v (xs.map (Value.int .i64))) : IntsAt (fun b => base ≤ b) w v xs := by
  have := h.slAt
  rw [List.length_map] at this
  exact this.congr fun k hk => by simp [gi, hk]
theorem Owns.strs {base : Nat} {e : TypeId} {w : World} {v : Value} {xs : List ByteArray} (h : Owns base e w v (xs.map Value.string)) : StrsAt (fun b => base ≤ b) w v xs := by
  have := h.slAt
  rw [List.length_map] at this
  exact this.congr fun k hk => by simp [gs, hk]
theorem Owns.kept {base : Nat} {e : TypeId} {w w' : World} {v : Value} {vs : List Value} (h : Owns base e w v vs) (k : ∀ b, base ≤ b → b < w.heap.size → w'.heap[b]? = w.heap[b]?) : Owns base e w' v vs := by
  refine ⟨h.1, ?_⟩
  rcases h.2 with h0 | ⟨g, cap, cur, rfl, hg, hc, hr⟩
  · exact .inl h0
  · have hlt : g < w.heap.size := by
      rcases Nat.lt_or_ge g w.heap.size with h1 | h1
      · exact h1
      · rw [Array.getElem?_eq_none h1] at hc; cases hc
    exact .inr ⟨g, cap, cur, rfl, hg, (k g hg hlt).trans hc, hr⟩
theorem Owns.alloc {base : Nat} {e : TypeId} {w : World} {v : Value} {vs : List Value} (h : Owns base e w v vs) (o : Obj) : Owns base e (w.alloc o) v vs := World.ownsRow.alloc h o
theorem grown_alloc {w w' : World} {o : Obj} {row : Option Nat} (h : (w.alloc o).grownBy w' row) : w.grownBy w' row :=
  ⟨h.os, h.tape, h.output, Nat.le_trans (by simp) h.size, fun k hk hne => (h.block k (by simp; omega) hne).trans (Below.heap_alloc w o k hk)⟩
theorem Owns.grown_below {base : Nat} {e : TypeId} {w w' : World} {v : Value} {vs : List Value} (h : Owns base e w v vs) (hg : w.grownBy w' v.ownBlock) (hb : base ≤ w.heap.size) : Below base w w' :=
  (Below.refl base w).grown hg hb fun k hk => (World.ownsRow.lt h k hk).1
section
variable {P : Program} {ops : Array Oper} {rest : List Oper} {o : Oper} {a : Act} {Q : Exit → Act → World → Prop}
/-- 'out = append(out, u)': u lies in the block that was laid for it just before. -/
theorem wpList_app1 (W : World) (hgd : o.guard = none) (s x : Operand) (t : TypeId) (ho : o.op = .call { callee := .builtin .append, args := #[s, x], argTypes := #[t, t] })
    (base : Nat) (e : TypeId) (z : Value) (bytes : Nat) (ht : P.underlying t = some (.slice e)) (hinfo : (P.info? e).map (fun i => (i.zero, i.size, i.bytes)) = some (some z, 1, bytes))
    (hz1 : z.cells.size = 1) (hb8 : bytes ≤ 64) {v : Value} {vs : List Value} (hown : Owns base e W v vs) (hs : a.eval s = v) (u : Value)
    (hx : a.eval x = .slice (some ⟨W.heap.size, 0, none⟩) 1 1) (h1 : u.oneCell' = true) (hn : vs.length ≤ 1000000) (hbase : base ≤ W.heap.size)
    (h : ∀ g cap w', Owns base e w' (.slice (some ⟨g, 0, none⟩) (vs.length + 1) cap) (vs ++ [u]) → W.grownBy w' v.ownBlock → Below base W w' → wpList P ops Q rest (a.put o.dst (.slice (some ⟨g, 0, none⟩) (vs.length + 1) cap)) w') :
    wpList P ops Q (o :: rest) a (W.alloc (.cells #[u] e)) := by
  obtain ⟨i, hi, hzz⟩ := Option.map_eq_some_iff.1 hinfo
  simp only [Prod.mk.injEq] at hzz
  obtain ⟨hz, hs1, hb⟩ := hzz
  refine wpList_append_lies _ hgd s x t ho base e i z 1 bytes ht hi hz hs1 hb hz1 (by omega) v vs.length vs hs (hown.alloc _) ⟨W.heap.size, 0, none⟩ 1 1 [u] hx rfl (cell_one_new _ _ _) (by simpa using h1) (by omega)
    (by unfold maxLen; omega) ?_ (by simp; omega) _ rfl fun g cap w' h2 h3 _ _ => h g cap w' ?_ (grown_alloc h3) (hown.grown_below (grown_alloc h3) hbase)
  · have : (vs.length + 1) * bytes ≤ (vs.length + 1) * 64 := Nat.mul_le_mul_left _ hb8
    omega
  · unfold Owns; rw [List.length_append]; exact h2
end
end Go.Proofs.Ytcaialhoclodjaa
namespace Go.Proofs.Ytcaialhoclodjaa
open Go.RowKit Go.Deep
theorem Try.infoI : (Try.prog.info? 3).map (fun i => (i.zero, i.size, i.bytes)) = some (some (.int .i64 0), 1, 8) := by kernel_rfl
def LvPost (w : World) (t : Tre) (e : Ending) (w' : World) : Prop :=
  Below w.heap.size w w' ∧ ((treeErr t ≠ 0 ∧ e = .returned (.tuple #[.slice none 0 0, .int .i64 1])) ∨
    (treeErr t = 0 ∧ ∃ v, e = .returned (.tuple #[v, .int .i64 0]) ∧ IntsAt (fun b => w.heap.size ≤ b) w' v (leavesL t.ns)))
set_option maxRecDepth 100000 in
set_option maxHeartbeats 800000 in
theorem leaves_t (S : Nat → Prop) (w : World) (v : Value) (t : Tre) (h : TreeAt S w v t) (hp : t.ps.length ≤ 1000000) (hn : t.ns.length ≤ 1000000) (hz : ∀ k, (gs t.ns k).size ≤ 70000) :
    Calls Try.prog 11 #[v] w (LvPost w t) := by
  obtain ⟨P, N, rfl, hP, hN⟩ := h
  have ht0 : TreeAt S (w.alloc (.cells #[P, N] 25)) (.agg #[P, N]) t := TreeAt.keep ⟨P, N, rfl, hP, hN⟩ (Kept.below ((Below.refl _ w).alloc (Nat.le_refl _) _))
  have hb0 : Below w.heap.size w (w.alloc (.cells #[P, N] 25)) := (Below.refl _ _).alloc (Nat.le_refl _) _
  have hcq : (w.alloc (.cells #[P, N] 25)).cell? ⟨w.heap.size, 1, none⟩ = some N := by simp [World.cell?_alloc_new]
  have hck := check_t S (w.alloc (.cells #[P, N] 25)) _ t ht0 hp hn hz
  rw [World.size_alloc] at hck
  have HCK := Lib.hid hck
  have HCQ := Lib.hid hcq
  have HB0 := Lib.hid hb0
  have HN := Lib.hid hN
  clear hck hcq hb0 ht0 hP hN
  by_cases he : treeErr t = 0
  · go_enter Try.func11, Try.ntmps11
    go_wp2_with fail
    refine HCK.out.mono ?_
    rintro e w1 ⟨rfl, hb1⟩
    have hbw : Below w.heap.size w w1 := HB0.out.trans (hb1.mono (by omega))
    have hN1 := HN.out.keep (Kept.below hbw)
    have hcq : w1.cell? ⟨w.heap.size, 1, none⟩ = some N := (hb1.cell (p := ⟨w.heap.size, 1, none⟩) (by simp)).trans HCQ.out
    obtain ⟨q, cap2, rfl, hcap2, HNN⟩ := SlAt.open hN1
    have hHN := Lib.hid HNN
    have hwz : w.heap.size ≤ w1.heap.size := hbw.size
    have HE := Lib.hid he
    rw [he]
    clear HNN hN1 HCK HCQ HB0 HN hb1 he
    go_wp2_with fail
    go_loopw [4, 5, 6, 13] (fun v _ _ i wr => ∃ k : Nat, k ≤ t.ns.length ∧ i = .int .i64 k ∧ Owns w1.heap.size 3 wr v ((leavesK t.ns k).map (Value.int .i64)) ∧ Below w1.heap.size w1 wr) (fun _ _ _ i _ => t.ns.length - (intOf i).toNat)
    case atStart => exact ⟨0, Nat.zero_le _, rfl, Owns.nil _ _ _, Below.refl _ _⟩
    case round =>
      obtain ⟨k, hk, rfl, hown, hbr⟩ := hrel
      by_cases hlt : k < t.ns.length
      · obtain ⟨b, off, rfl, hc0⟩ := hHN.out k hlt
        have hc : wr.cell? ⟨b, off + k, none⟩ = some (.string (gs t.ns k)) := by
          rw [hbr.cell (p := ⟨b, off + k, none⟩) (World.block_lt_of_cell? _ _ hc0)]; exact hc0
        have hsz := hbr.size
        have hsucc := leavesK_succ t.ns k
        have hll := leavesK_len t.ns k
        have hnil := toList_nil (gs t.ns k)
        have HNIL := Lib.hid hnil
        have HSU := Lib.hid hsucc
        have HLL : Hid (((leavesK t.ns k).map (Value.int .i64)).length ≤ 1000000) := by unfold Hid; rw [List.length_map]; omega
        clear hc0 hnil hsucc hll hHN hz
        generalize hgk : gs t.ns k = g at *
        clear hgk
        by_cases hg0 : g.size = 0
        · have hg1 : g.toList = [] := HNIL.out.2 hg0
          have HG0 := Lib.hid hg0
          clear hg0
          go_wp2
          go_roundw
          case rel => exact ⟨k + 1, by omega, by go_num, by rw [HSU.out, if_pos HG0.out, List.append_nil]; exact hown, hbr⟩
          case measure => simp [intOf]; omega
        · have hg1 : (g.toList == []) = false := by
            rw [Bool.eq_false_iff]; intro e; exact hg0 (HNIL.out.1 (by simpa using e))
          have hg2 : (g.toList != []) = true := by
            rw [bne_iff_ne]; intro e; exact hg0 (HNIL.out.1 (by simpa using e))
          have HG0 := Lib.hid hg0
          clear hg0
          go_wp2_with (at_builtin; refine wpList_app1 wr rfl _ _ 22 rfl w1.heap.size 3 _ 8 Try.underlying22 Try.infoI rfl (by decide) hown rfl _ rfl rfl HLL.out hsz ?_; intro g cap w2 hown1 hg1 hb1)
          go_roundw
          case rel => exact ⟨k + 1, by omega, by go_num, by rw [HSU.out, if_neg HG0.out, List.map_append]; rw [List.length_map] at hown1; exact hown1, hbr.trans hb1⟩
          case measure => simp [intOf]; omega
      · obtain rfl : k = t.ns.length := by omega
        clear hlt hk hHN
        go_wp2
        go_ret2
        exact ⟨hbw.trans (hbr.mono hwz), .inr ⟨HE.out, _, rfl, hown.ints.sub fun b hb _ => Nat.le_trans hwz hb⟩⟩
  · have he' : (treeErr t != 0) = true := by simpa using he
    have HE := Lib.hid he
    clear he
    go_enter Try.func11, Try.ntmps11
    go_wp2_with fail
    refine HCK.out.mono ?_
    rintro e w1 ⟨rfl, hb1⟩
    go_wp2_with fail
    go_ret2
    exact ⟨HB0.out.trans (hb1.mono (by omega)), .inl ⟨HE.out, rfl⟩⟩
end Go.Proofs.Ytcaialhoclodjaa
namespace Go.Proofs.Ytcaialhoclodjaa
open Go.RowKit Go.Deep
def StI (e : Ending) (w' : World) (w : World) (n : Int) : Prop := e = .returned (.int .i64 n) ∧ Below w.heap.size w w'
set_option maxHeartbeats 400000 in
theorem known1_t (w : World) (b1 b2 : Nat) (x lo hi : Int) (h1 : w.cell? ⟨b1, 0, none⟩ = some (.int .i64 lo)) (h2 : w.cell? ⟨b2, 0, none⟩ = some (.int .i64 hi)) :
    FnIs 94 #[.pointer (some ⟨b1, 0, none⟩), .pointer (some ⟨b2, 0, none⟩)] #[.int .i64 x] (.bool (decide (x < lo) || decide (hi ≤ x))) w := by
  unfold FnIs
  go_enter Try.func94, Try.ntmps94
  by_cases hx : x < lo
  · go_wp2_with fail
    go_ret
    exact ⟨ret_bool (by simp [hx]), rfl⟩
  · go_wp2_with fail
    go_ret
    exact ⟨ret_bool (by simp; omega), rfl⟩
set_option maxHeartbeats 400000 in
theorem known_t (S : Nat → Prop) (w : World) (v : Value) (st : List Int) (n : Nat) (lo hi : Int) (h : IntsAt S w v st) (hn : st.length ≤ 1000000) :
    Calls Try.prog 70 #[v, .int .i64 n, .int .i64 lo, .int .i64 hi] w fun e w' => StI e w' w (knownErr st n lo hi) := by
  have hfin : knownErr st n lo hi = if st.length ≠ n then 9 else if stBad st lo hi then 2 else 0 := rfl
  have HF := Lib.hid hfin
  have hb : Below w.heap.size w ((w.alloc (.cells #[.int .i64 lo] 3)).alloc (.cells #[.int .i64 hi] 3)) := ((Below.refl _ _).alloc (Nat.le_refl _) _).alloc (by simp) _
  have hI := SlAt.keep h (Kept.below hb)
  obtain ⟨p, cap, rfl, hcap, H⟩ := SlAt.open h
  have hc1 : ((w.alloc (.cells #[.int .i64 lo] 3)).alloc (.cells #[.int .i64 hi] 3)).cell? ⟨w.heap.size, 0, none⟩ = some (.int .i64 lo) := by simp
  have hc2 : ((w.alloc (.cells #[.int .i64 lo] 3)).alloc (.cells #[.int .i64 hi] 3)).cell? ⟨w.heap.size + 1, 0, none⟩ = some (.int .i64 hi) := by simp
  have hC := ints_has_t 94 #[.pointer (some ⟨w.heap.size, 0, none⟩), .pointer (some ⟨w.heap.size + 1, 0, none⟩)] (enters_of Try.func94 (by kernel_rfl) rfl) S _ _ st.length (fun k => .int .i64 (gi st k)) (fun k => decide (gi st k < lo) || decide (hi ≤ gi st k)) hI hn
    (fun k _ => known1_t _ _ _ (gi st k) lo hi hc1 hc2)
  have HC := Lib.hid hC
  have HB := Lib.hid hb
  clear hfin hI H hc1 hc2 hC hb h
  by_cases hl : st.length = n
  · have hl1 : ((st.length : Int) != n) = false := by simp [hl]
    have HL := Lib.hid hl
    clear hl
    have hsb : stBad st lo hi = (List.range st.length).any fun k => decide (gi st k < lo) || decide (hi ≤ gi st k) := rfl
    have HSB := Lib.hid hsb
    clear hsb
    go_enter Try.func70, Try.ntmps70
    go_wp2_with fail
    refine HC.out.mono ?_
    rintro e w' ⟨rfl, rfl⟩
    rw [← HSB.out]
    go_wp2_with fail
    · go_ret
      exact ⟨ret_int (by rw [HF.out, if_neg (by rw [HL.out]; simp), if_pos ‹_›]), HB.out⟩
    · go_ret
      exact ⟨ret_int (by rw [HF.out, if_neg (by rw [HL.out]; simp), if_neg (by rw [‹stBad st lo hi = false›]; simp)]), HB.out⟩
  · have hl1 : ((st.length : Int) != n) = true := by simp; omega
    go_enter Try.func70, Try.ntmps70
    go_wp2_with fail
    go_ret
    exact ⟨ret_int (by rw [HF.out, if_pos hl]), HB.out⟩
set_option maxHeartbeats 400000 in
theorem matrix1_t (w : World) (b1 : Nat) (q : Option Addr) (n c m c2 : Nat) (a : Option Addr) (h1 : w.cell? ⟨b1, 0, none⟩ = some (.slice q n c)) :
    FnIs 93 #[.pointer (some ⟨b1, 0, none⟩)] #[.slice a m c2] (.bool (decide (m ≠ n))) w := by
  unfold FnIs
  go_enter Try.func93, Try.ntmps93
  go_wp2_with fail
  go_ret
  exact ⟨ret_bool (by rw [Bool.eq_iff_iff]; simp; omega), rfl⟩
set_option maxRecDepth 100000 in
set_option maxHeartbeats 800000 in
theorem matrix_t (S : Nat → Prop) (w : World) (v : Value) (cs : List (List Int)) (h : RowsAt S w v cs) (hn : cs.length ≤ 1000000) (hr : ∀ k, (gl cs k).length ≤ 1000000) :
    Calls Try.prog 69 #[v] w fun e w' => StI e w' w (matErr cs) := by
  have hfin : matErr cs = if cs.length = 0 then 5 else if 16 < cs.length then 4 else if lenBad cs then 9 else if matBadK cs cs.length then 2 else 0 := rfl
  have HF := Lib.hid hfin
  obtain ⟨f, hsl, hrow⟩ := h
  have hb : Below w.heap.size w (w.alloc (.cells #[v] 26)) := (Below.refl _ _).alloc (Nat.le_refl _) _
  have hI := SlAt.keep hsl (Kept.below hb)
  have hrow' : ∀ k, k < cs.length → IntsAt S (w.alloc (.cells #[v] 26)) (f k) (gl cs k) := fun k hk => (hrow k hk).keep (Kept.below hb)
  obtain ⟨p, cap, rfl, hcap, H⟩ := SlAt.open hI
  have hc1 : (w.alloc (.cells #[.slice p cs.length cap] 26)).cell? ⟨w.heap.size, 0, none⟩ = some (.slice p cs.length cap) := by simp
  have hC := rows_has_t 93 #[.pointer (some ⟨w.heap.size, 0, none⟩)] (enters_of Try.func93 (by kernel_rfl) rfl) S _ _ cs.length f (fun k => decide ((gl cs k).length ≠ cs.length)) hI hn
    (fun k hk => by
      obtain ⟨a, c, e, _, _⟩ := SlAt.open (hrow' k hk)
      rw [e]; exact matrix1_t _ _ _ _ _ _ _ _ hc1)
  have HC := Lib.hid hC
  have HB := Lib.hid hb
  have HH := Lib.hid H
  have HR := Lib.hid hrow'
  clear hfin hI H hC hb hsl hrow hrow'
  by_cases h0 : cs.length = 0
  · have HX : Hid (cs.length = 0) := h0
    have h0' : ((cs.length : Int) == 0) = true := by simp [h0]
    clear h0
    go_enter Try.func69, Try.ntmps69
    go_wp2_with fail
    go_ret
    exact ⟨ret_int (by rw [HF.out, if_pos HX.out]), HB.out⟩
  have h0' : ((cs.length : Int) == 0) = false := by simpa using h0
  by_cases h1 : 16 < cs.length
  · go_enter Try.func69, Try.ntmps69
    go_wp2_with fail
    go_ret
    exact ⟨ret_int (by rw [HF.out, if_neg h0, if_pos h1]), HB.out⟩
  have hlb : lenBad cs = (List.range cs.length).any fun a => decide ((gl cs a).length ≠ cs.length) := rfl
  rw [← hlb] at HC
  clear hlb
  cases hl : lenBad cs
  · rw [hl] at HC
    have HL := Lib.hid hl
    have hlen : ∀ k, k < cs.length → (gl cs k).length = cs.length := fun k hk => by
      have := any_false hl hk
      simpa using this
    have HLEN := Lib.hid hlen
    clear hl hlen
    go_enter Try.func69, Try.ntmps69
    go_wp2_with fail
    refine HC.out.mono ?_
    rintro e w' ⟨rfl, rfl⟩
    go_wp2_with fail
    go_loop [3, 4, 5, 6, 21, 28] (fun _ _ _ _ i _ => ∃ k : Nat, k ≤ cs.length ∧ i = .int .i64 k ∧ Hid (∀ j, j < k → rowBad j (gl cs j) (gl cs j).length = false)) (fun _ _ _ _ i _ => cs.length - (intOf i).toNat)
    case atStart => exact ⟨0, Nat.zero_le _, rfl, fun j hj => absurd hj (Nat.not_lt_zero _)⟩
    case round =>
      obtain ⟨k, hk, rfl, hd⟩ := hrel
      by_cases hlt : k < cs.length
      · obtain ⟨b, off, rfl, hc⟩ := HH.out k hlt
        obtain ⟨ra, rc, re, hrc, Hrow⟩ := SlAt.open (HR.out k hlt)
        rw [re] at hc
        have hrl := hr k
        have HROW := Lib.hid Hrow
        have HRB : Hid (matBadK cs cs.length = true → matErr cs = 2) := fun h => by rw [HF.out, if_neg h0, if_neg h1, HL.out, if_neg (by simp), if_pos h]
        have hmb : ∀ j, j < (gl cs k).length → badc k j (gi (gl cs k) j) = true → matErr cs = 2 := fun j hj hb => HRB.out (any_at hlt (any_at hj hb))
        have HMB := Lib.hid hmb
        have hrb : (∀ j, j < (gl cs k).length → badc k j (gi (gl cs k) j) = false) → rowBad k (gl cs k) (gl cs k).length = false := fun h => any_none h
        have HRZ := Lib.hid hrb
        clear Hrow hmb hrb HH HR hr re
        generalize hrw : gl cs k = row at *
        have HRW := Lib.hid hrw
        clear hrw
        go_wp2_with fail
        go_loop [5, 6, 28] (fun _ _ i => ∃ m : Nat, m ≤ row.length ∧ i = .int .i64 m ∧ Hid (∀ j, j < m → badc k j (gi row j) = false)) (fun _ _ i => row.length - (intOf i).toNat)
        case atStart => exact ⟨0, Nat.zero_le _, rfl, fun j hj => absurd hj (Nat.not_lt_zero _)⟩
        case round =>
          obtain ⟨m, hm, rfl, hd2⟩ := hrel
          by_cases hmt : m < row.length
          · obtain ⟨rb, roff, rfl, hcr⟩ := HROW.out m hmt
            clear HROW
            generalize hx : gi row m = x at *
            have HX := Lib.hid hx
            clear hx
            by_cases hb1 : x < 0 ∨ 1000 < x
            · have HBD := Lib.hid (HMB.out m hmt (by rw [HX.out]; unfold badc; rcases hb1 with h | h <;> simp [h]))
              rcases hb1 with hb1 | hb1
              · go_wp2_with fail
                go_ret
                exact ⟨ret_int HBD.out.symm, HB.out⟩
              · go_wp2_with fail
                go_ret
                exact ⟨ret_int HBD.out.symm, HB.out⟩
            · have hb2 : 0 ≤ x ∧ x ≤ 1000 := by omega
              obtain ⟨hb3, hb4⟩ := hb2
              clear hb1
              by_cases hkm : k = m ∧ x ≠ 0
              · obtain ⟨rfl, hx0⟩ := hkm
                have HBD := Lib.hid (HMB.out k hmt (by rw [HX.out]; unfold badc; simp [hx0]))
                have hx1 : (x != 0) = true := by simpa using hx0
                clear hx0
                go_wp2_with fail
                go_ret
                exact ⟨ret_int HBD.out.symm, HB.out⟩
              · have hgood : badc k m x = false := by
                  unfold badc
                  have e1 : decide (x < 0) = false := by simp; omega
                  have e2 : decide (1000 < x) = false := by simp; omega
                  have e3 : (decide (k = m) && decide (x ≠ 0)) = false := by
                    rw [Bool.eq_false_iff]; intro e; apply hkm; simpa using e
                  rw [e1, e2, e3]; rfl
                have HG := Lib.hid hgood
                clear hgood
                by_cases hkm2 : k = m
                · have hx0 : x = 0 := by
                    by_cases e : x = 0
                    · exact e
                    · exact absurd ⟨hkm2, e⟩ hkm
                  subst hx0
                  clear hkm
                  go_wp2_with fail
                  go_round
                  case rel => exact ⟨m + 1, by omega, by go_num, fun j hj => if e : j = m then by subst e; rw [HX.out]; exact HG.out else hd2.out j (by omega)⟩
                  case measure => simp [intOf]; omega
                · have hne : ((k : Int) == (m : Int)) = false := by rw [beq_eq_false_iff_ne]; omega
                  clear hkm hkm2
                  go_wp2_with fail
                  go_round
                  case rel => exact ⟨m + 1, by omega, by go_num, fun j hj => if e : j = m then by subst e; rw [HX.out]; exact HG.out else hd2.out j (by omega)⟩
                  case measure => simp [intOf]; omega
          · have hall := HRZ.out fun j hj => hd2.out j (by omega)
            have HALL := Lib.hid hall
            clear hall
            go_wp2_with fail
            go_round
            case rel => exact ⟨k + 1, by omega, by go_num, fun j hj => if e : j = k then by subst e; rw [HRW.out]; exact HALL.out else hd.out j (by omega)⟩
            case measure => simp [intOf]; omega
      · have hmb0 : matBadK cs cs.length = false := any_none fun j hj => hd.out j (by omega)
        have HMB0 := Lib.hid hmb0
        clear hmb0
        go_wp2_with fail
        go_ret
        exact ⟨ret_int (by rw [HF.out, if_neg h0, if_neg h1, HL.out, if_neg (by simp), HMB0.out]; simp), HB.out⟩
  · rw [hl] at HC
    have HL := Lib.hid hl
    clear hl
    go_enter Try.func69, Try.ntmps69
    go_wp2_with fail
    refine HC.out.mono ?_
    rintro e w' ⟨rfl, rfl⟩
    go_wp2_with fail
    go_ret
    exact ⟨ret_int (by rw [HF.out, if_neg h0, if_neg h1, if_pos HL.out]), HB.out⟩
set_option maxRecDepth 100000 in
set_option maxHeartbeats 800000 in
theorem pcheck_t (S : Nat → Prop) (w : World) (v vs vc : Value) (t : Tre) (st : List Int) (cs : List (List Int)) (hT : TreeAt S w v t) (hS : IntsAt S w vs st) (hC : RowsAt S w vc cs)
    (hp : t.ps.length ≤ 1000000) (hn : t.ns.length ≤ 1000000) (hz : ∀ k, (gs t.ns k).size ≤ 70000) (hst : st.length ≤ 1000000) (hcn : cs.length ≤ 1000000) (hr : ∀ k, (gl cs k).length ≤ 1000000) :
    Calls Try.prog 45 #[v, vs, vc] w fun e w' => StI e w' w (parErr t st cs) := by
  have hfin : parErr t st cs = if treeErr t ≠ 0 then 1 else if matErr cs ≠ 0 then matErr cs else knownErr st (leavesL t.ns).length (-1) cs.length := rfl
  have HF := Lib.hid hfin
  obtain ⟨P, N, rfl, hP, hN⟩ := hT
  have hb : Below w.heap.size w (w.alloc (.cells #[P, N] 25)) := (Below.refl _ _).alloc (Nat.le_refl _) _
  have hL := leaves_t S _ _ t (TreeAt.keep ⟨P, N, rfl, hP, hN⟩ (Kept.below hb)) hp hn hz
  have HB := Lib.hid hb
  have HL := Lib.hid hL
  obtain ⟨q, c, rfl, _, _⟩ := SlAt.open hS
  obtain ⟨f, hsl, hrow⟩ := hC
  obtain ⟨q2, c2, rfl, _, _⟩ := SlAt.open hsl
  have HC : Hid (RowsAt S w (.slice q2 cs.length c2) cs) := ⟨f, hsl, hrow⟩
  have HS : Hid (IntsAt S w (.slice q st.length c) st) := hS
  clear hfin hb hL hP hN hS hsl hrow
  go_enter Try.func45, Try.ntmps45
  go_wp2_with fail
  refine HL.out.mono ?_
  rintro e w1 ⟨hb1, ⟨he, rfl⟩ | ⟨he, lv, rfl, hlv⟩⟩
  · have HE := Lib.hid he
    clear he
    go_wp2_with fail
    go_ret
    exact ⟨ret_int (by rw [HF.out, if_pos HE.out]), HB.out.trans (hb1.mono (by simp))⟩
  · obtain ⟨lp, lc, rfl, _, _⟩ := SlAt.open hlv
    have HE := Lib.hid he
    have hb1' : Below w.heap.size w w1 := HB.out.trans (hb1.mono (by simp))
    have HB1 := Lib.hid hb1'
    have hM := matrix_t S w1 _ cs (HC.out.keep (Kept.below hb1')) hcn hr
    have HM := Lib.hid hM
    clear he hb1 hlv hb1' hM
    go_wp2_with fail
    refine HM.out.mono ?_
    rintro e w2 ⟨rfl, hb2⟩
    have hb2' : Below w.heap.size w w2 := HB1.out.trans (hb2.mono HB1.out.size)
    have hK := known_t S w2 _ st (leavesL t.ns).length (-1) cs.length (HS.out.keep (Kept.below hb2')) hst
    have HK := Lib.hid hK
    have HB2 := Lib.hid hb2'
    clear hK hb2' hb2
    by_cases hm : matErr cs = 0
    · have hm1 : (matErr cs != 0) = false := by simpa using hm
      have HMM := Lib.hid hm
      clear hm
      go_wp2_with fail
      refine HK.out.mono ?_
      rintro e w3 ⟨rfl, hb3⟩
      go_wp2_with fail
      go_ret
      exact ⟨ret_int (by rw [HF.out, if_neg (by rw [HE.out]; simp), if_neg (by rw [HMM.out]; simp)]), HB2.out.trans (hb3.mono HB2.out.size)⟩
    · have hm1 : (matErr cs != 0) = true := by simpa using hm
      have HMM := Lib.hid hm
      clear hm
      go_wp2_with fail
      go_ret
      exact ⟨ret_int (by rw [HF.out, if_neg (by rw [HE.out]; simp), if_pos HMM.out]), HB2.out⟩
end Go.Proofs.Ytcaialhoclodjaa
namespace Go.Proofs.Ytcaialhoclodjaa
open Go.RowKit Go.Shelf Go.Deep
attribute [local go_sem] Oper.semAt_some
theorem grown_drew (w : World) (row : Option Nat) : w.grownBy w.drew row := ⟨rfl, rfl, rfl, Nat.le_refl _, fun _ _ _ => rfl⟩
abbrev Kid (ps : List Int) (node : Nat) := { x : Nat // x ∈ kidsL ps node }
def vals {ps : List Int} {node : Nat} (l : List (Kid ps node)) : List Nat := l.map Subtype.val
theorem vals_snoc {ps : List Int} {node : Nat} (l : List (Kid ps node)) (x : Kid ps node) : vals (l ++ [x]) = vals l ++ [x.1] := by simp [vals]
theorem kidsK_prefix (ps : List Int) (n k : Nat) (h : k ≤ ps.length) : kidsK ps n k <+: kidsL ps n := by
  unfold kidsL
  obtain ⟨d, hd⟩ : ∃ d, ps.length = k + d := ⟨ps.length - k, by omega⟩
  rw [hd]
  clear hd h
  induction d with
  | zero => exact List.prefix_rfl
  | succ d ih => rw [← Nat.add_assoc, kidsK_succ]; exact ih.trans (List.prefix_append _ _)
theorem round_or {e : Ending} {A B : Prop} (h : (e = .returned (.bool true) ∧ A) ∨ (e = .returned (.bool false) ∧ B)) : ∃ bb, e = .returned (.bool bb) ∧ Hid ((bb = true ∧ A) ∨ (bb = false ∧ B)) := by
  rcases h with ⟨h1, h2⟩ | ⟨h1, h2⟩
  · exact ⟨true, h1, .inl ⟨rfl, h2⟩⟩
  · exact ⟨false, h1, .inr ⟨rfl, h2⟩⟩
/-- The blocks of T lie as they lay. -/
def KS (T : Nat → Prop) (w w' : World) : Prop := ∀ b, T b → w'.heap[b]? = w.heap[b]?
theorem KS.refl (T : Nat → Prop) (w : World) : KS T w w := fun _ _ => rfl
theorem KS.trans {T : Nat → Prop} {a b c : World} (h : KS T a b) (k : KS T b c) : KS T a c := fun i hi => (k i hi).trans (h i hi)
theorem KS.cell {T : Nat → Prop} {a b : World} (h : KS T a b) {p : Addr} (hp : T p.block) : b.cell? p = a.cell? p := World.cell?_of_block (h p.block hp)
theorem KS.drew {T : Nat → Prop} {a b : World} (h : KS T a b) : KS T a b.drew := h
theorem KS.drewN {T : Nat → Prop} {a b : World} (h : KS T a b) (n : Nat) : KS T a (b.drewN n) := h
set_option maxRecDepth 100000 in
set_option maxHeartbeats 1000000 in
theorem chil1_in (n l Bn Bt : Nat) (T : Nat → Prop) (hn : 1 ≤ n) (ps : List Int) (node : Nat) (P : Value) (J Jx : List (Kid ps node) → World → Prop)
    (hY : ∀ pre x W, J pre W → pre.length < ps.length → YieldAt Fence.wide (n - 1) Try.prog l #[.int .i64 (x.1 : Int)] W fun e W' =>
      (e = .returned (.bool true) ∧ J (pre ++ [x]) W' ∧ KS T W W') ∨ (e = .returned (.bool false) ∧ Jx (pre ++ [x]) W'))
    (W : World) (hJa : AbidesFrom W.heap.size J) (hcn : W.cell? ⟨Bn, 0, none⟩ = some (.int .i64 node)) (hcp : W.cell? ⟨Bt, 0, none⟩ = some P) (hP : IntsAt T W P ps) (hBn : T Bn) (hBt : T Bt)
    (hnode : node < ps.length) (hlen : ps.length ≤ 1000000) (h0 : J [] W) :
    CallsIn Fence.wide n Try.prog 95 #[.func (.yield l) #[] #[], .pointer (some ⟨Bn, 0, none⟩), .pointer (some ⟨Bt, 0, none⟩)] W fun e W' => (∃ v, e = .returned v) ∧
      ((∃ xs, vals xs = kidsL ps node ∧ J xs W') ∨ (∃ pre, vals pre <+: kidsL ps node ∧ Jx pre W')) := by
  obtain ⟨q, cap, rfl, hcap, hsl⟩ := hP
  have HSL := Lib.hid hsl
  have HJA := Lib.hid hJa
  have HCN := Lib.hid hcn
  have HCP := Lib.hid hcp
  have HY := Lib.hid hY
  clear hsl hJa hY
  refine callsIn_of_wp Try.func95 rfl trivial ?_ rfl
  simp only [Try.ntmps95, List.size_toArray, List.length_cons, List.length_nil, Nat.reduceAdd, Nat.reduceSub, Array.replicate_succ, Array.replicate_zero, List.push_toArray, List.append_toArray, List.nil_append, List.cons_append]
  gi_wp2
  clear hcn hcp
  gi_loopw [4] (fun i wr => ∃ (k : Nat) (pre : List (Kid ps node)), node + 1 ≤ k ∧ k ≤ ps.length ∧ i = .int .i64 k ∧ vals pre = kidsK ps node k ∧ J pre wr ∧ KS T W wr) (fun i _ => ps.length - (intOf i).toNat)
  case atStart => exact ⟨node + 1, [], Nat.le_refl _, by omega, by go_num, (kidsK_start _ _).symm, h0, KS.refl _ _⟩
  case round =>
    obtain ⟨k, pre, hk1, hk, rfl, hpre, hJ, hbr⟩ := hrel
    have hcn : wr.cell? ⟨Bn, 0, none⟩ = some (.int .i64 node) := (hbr.cell (p := ⟨Bn, 0, none⟩) hBn).trans HCN.out
    have hcp : wr.cell? ⟨Bt, 0, none⟩ = some (.slice q ps.length cap) := (hbr.cell (p := ⟨Bt, 0, none⟩) hBt).trans HCP.out
    have HPRE := Lib.hid hpre
    clear hpre
    by_cases hlt : k < ps.length
    · have hsl2 := HSL.out
      rcases hsl2 with h | ⟨b, off, rfl, hb, hcell⟩
      · omega
      · have hc : wr.cell? ⟨b, off + k, none⟩ = some (.int .i64 (gi ps k)) := (hbr.cell (p := ⟨b, off + k, none⟩) hb).trans (hcell k hlt)
        have hsucc := kidsK_succ ps node k
        have hlen2 : pre.length < ps.length := by
          have h1 := kidsK_len ps node k
          have h2 := congrArg List.length HPRE.out
          unfold vals at h2; rw [List.length_map] at h2; omega
        have hmem : gi ps k = node → k ∈ kidsL ps node := fun h => mem_kidsL.2 ⟨hlt, by omega, h⟩
        have HMEM := Lib.hid hmem
        have HSU := Lib.hid hsucc
        clear hcell hsucc hmem
        have i1 : (0 : Int) ≤ (k : Int) := by omega
        have i2 : (k : Int) < (ps.length : Int) := by omega
        generalize hx : gi ps k = x at *
        clear hx
        by_cases hxn : x = node
        · have hx1 : (x == (node : Int)) = true := by simp [hxn]
          have HX := Lib.hid hxn
          clear hxn
          have hJ' : J pre wr.drew := HJA.out pre wr wr.drew none hJ (grown_drew _ _) (fun r e => by cases e)
          obtain ⟨fn, tmps, assign, body, hy, hR⟩ := HY.out pre ⟨k, HMEM.out HX.out⟩ wr.drew hJ' hlen2
          dsimp only at hy
          clear hJ'
          gi_wp2
          gi_region_with (refine hR.mono ?_; rintro e W3 hor; obtain ⟨bb, rfl, hq⟩ := round_or hor)
          all_goals
            gi_wp2
            · have hbb := ‹(!bb) = true›
              have hq2 : bb = false ∧ Jx (pre ++ [⟨k, HMEM.out HX.out⟩]) W3 := by
                rcases hq.out with ⟨h1, _⟩ | h2
                · rw [h1] at hbb; cases hbb
                · exact h2
              refine bodyPost_ret (results_none rfl _ _ _) rfl ?_
              exact ⟨⟨_, rfl⟩, .inr ⟨pre ++ [⟨k, HMEM.out HX.out⟩], by
                rw [vals_snoc, HPRE.out]
                have h3 := kidsK_prefix ps node (k + 1) hlt
                rw [HSU.out, if_pos ⟨by omega, HX.out⟩] at h3; exact h3, hq2.2⟩⟩
            · have hbb := ‹(!bb) = false›
              have hq2 : bb = true ∧ J (pre ++ [⟨k, HMEM.out HX.out⟩]) W3 ∧ KS T wr.drew W3 := by
                rcases hq.out with h2 | ⟨h1, _⟩
                · exact h2
                · rw [h1] at hbb; cases hbb
              go_roundw
              case rel => exact ⟨k + 1, pre ++ [⟨k, HMEM.out HX.out⟩], by omega, by omega, by go_num, by rw [vals_snoc, HPRE.out, HSU.out, if_pos ⟨by omega, HX.out⟩], hq2.2.1, hbr.drew.trans hq2.2.2⟩
              case measure => simp [intOf]; omega
        · have hx1 : (x == (node : Int)) = false := by simpa using hxn
          have HX := Lib.hid hxn
          clear hxn
          gi_wp2
          refine wpIn_region_quiet_lit rfl (by kernel_rfl) (by kernel_rfl) ?_
          repeat (gi_big_quiet_step (fail))
          refine BigFrame.wpQuietIn_skip (fun _ _ _ _ => trivial) rfl ?_
          simp only [Act.put, List.setIfInBounds_toArray, List.set_cons_succ, List.set_cons_zero]
          repeat (gi_big_quiet_step (fail))
          refine wpQuietIn_nil ?_
          intro _ hw'
          obtain ⟨nq, hw''⟩ := hw'
          subst hw''
          gi_wp2
          go_roundw
          case rel => exact ⟨k + 1, pre, by omega, by omega, by go_num, by rw [HPRE.out, HSU.out, if_neg (fun h => HX.out h.2), List.append_nil], HJA.out pre wr _ none hJ ⟨rfl, rfl, rfl, Nat.le_refl _, fun _ _ _ => rfl⟩ (fun r e => by cases e), hbr.drewN _⟩
          case measure => simp [intOf]; omega
    · gi_wp2
      go_end0
      obtain rfl : k = ps.length := by omega
      exact ⟨⟨_, rfl⟩, .inl ⟨pre, HPRE.out, hJ⟩⟩
set_option maxHeartbeats 400000 in
theorem chil_t (w : World) (v : Value) (P N : Value) (hv : v = .agg #[P, N]) (node : Nat) :
    Calls Try.prog 73 #[v, .int .i64 node] w fun e w' => e = .returned (.func (.func 95) #[] #[.pointer (some ⟨w.heap.size + 1, 0, none⟩), .pointer (some ⟨w.heap.size, 0, none⟩)]) ∧ w' = (w.alloc (.cells #[P, N] 25)).alloc (.cells #[.int .i64 node] 3) := by
  subst hv
  go_enter Try.func73, Try.ntmps73
  go_wp2_with fail
  go_ret
  exact ⟨rfl, rfl⟩
theorem chil_stops (n : Nat) (hn : 1 ≤ n) (Bn Bt : Nat) (T : Nat → Prop) (ps : List Int) (node : Nat) (P : Value) (w : World) (hT : ∀ b, T b → b < w.heap.size)
    (hcn : w.cell? ⟨Bn, 0, none⟩ = some (.int .i64 node)) (hcp : w.cell? ⟨Bt, 0, none⟩ = some P) (hP : IntsAt T w P ps) (hBn : T Bn) (hBt : T Bt) (hnode : node < ps.length) (hlen : ps.length ≤ 1000000) :
    SeqStopsK Fence.wide n Try.prog 95 #[.pointer (some ⟨Bn, 0, none⟩), .pointer (some ⟨Bt, 0, none⟩)] (fun x : Kid ps node => #[Value.int .i64 (x.1 : Int)]) (KS T)
      (fun xs => vals xs = kidsL ps node) (fun pre => vals pre <+: kidsL ps node) ps.length w := fun l J Jx W hW hJ _ hY h0 =>
  chil1_in n l Bn Bt T hn ps node P J Jx hY W hJ ((hW.cell (p := ⟨Bn, 0, none⟩) (hT _ hBn)).trans hcn) ((hW.cell (p := ⟨Bt, 0, none⟩) (hT _ hBt)).trans hcp)
    (hP.keep fun b hb _ => hW.block b (hT b hb)) hBn hBt hnode hlen h0
end Go.Proofs.Ytcaialhoclodjaa
namespace Go.Proofs.Ytcaialhoclodjaa
open Go.RowKit Go.Shelf Go.Deep
/-- What is left to do at a function's end: marks of loops over functions, in which nothing waits. -/
def Marks (n₀ : Nat) (w : World) : List Deferred → Prop
  | [] => True
  | d :: ds => (∃ r, d = { target := .collected r, args := #[] } ∧ n₀ ≤ r ∧ w.heap[r]? = some (.deferred (some [])) ∧ (∀ d' ∈ ds, d'.target ≠ .collected r)) ∧ Marks n₀ w ds
theorem Marks.keep {n₀ : Nat} {w w' : World} (h : ∀ r, w.heap[r]? = some (.deferred (some [])) → n₀ ≤ r → w'.heap[r]? = w.heap[r]?) : ∀ {ds : List Deferred}, Marks n₀ w ds → Marks n₀ w' ds
  | [], _ => trivial
  | _ :: _, ⟨⟨r, e, hr, hk, hne⟩, ht⟩ => ⟨⟨r, e, hr, (h r hk hr).trans hk, hne⟩, ht.keep h⟩
theorem Marks.lt {n₀ : Nat} {w : World} : ∀ {ds : List Deferred}, Marks n₀ w ds → ∀ d ∈ ds, ∃ r, d.target = .collected r ∧ r < w.heap.size
  | _ :: _, ⟨⟨r, e, _, hk, _⟩, ht⟩, d, hd => by
    rcases List.mem_cons.1 hd with rfl | hd
    · refine ⟨r, by rw [e], ?_⟩
      rcases Nat.lt_or_ge r w.heap.size with h | h
      · exact h
      · rw [Array.getElem?_eq_none h] at hk; cases hk
    · exact ht.lt d hd
theorem Marks.keep' {n₀ r : Nat} {w w' : World} (h : ∀ k, k ≠ r → w'.heap[k]? = w.heap[k]?) : ∀ {ds : List Deferred}, (∀ d' ∈ ds, d'.target ≠ .collected r) → Marks n₀ w ds → Marks n₀ w' ds
  | [], _, _ => trivial
  | _ :: _, hne, ⟨⟨s, e, hs, hk, hns⟩, ht⟩ => ⟨⟨s, e, hs, (h s (by rintro rfl; exact hne _ List.mem_cons_self (by rw [e]))).trans hk, hns⟩, Marks.keep' h (fun d hd => hne d (List.mem_cons_of_mem _ hd)) ht⟩
theorem leaves_marks {fn : Func} {tmps : Array Value} {R : Ending → World → Prop} {n n₀ : Nat} {v : Value} (hres : ∀ w, (results fn tmps).run Try.prog w = .ok v w) :
    ∀ {ds : List Deferred} {w : World}, Marks n₀ w ds → (∀ w', Below n₀ w w' → w'.heap.size = w.heap.size → (∀ b : Nat, (∃ c t z, w.heap[b]? = some (Obj.cells c t z)) → w'.heap[b]? = w.heap[b]?) → R (.returned v) w') →
    LeavesInM Fence.wide n Try.prog fn tmps R ds .returning w
  | [], w, _, hR => ⟨v, hres w, hR w (Below.refl _ _) rfl fun _ _ => rfl⟩
  | d :: ds, w, ⟨⟨r, e, hr, hk, hne⟩, ht⟩, hR => by
    refine ⟨by simp, .inl ⟨r, _, by rw [e], run_takeDeferred hk, ?_⟩⟩
    have hoth : ∀ k, k ≠ r → (w.putObj r (.deferred none)).heap[k]? = w.heap[k]? := fun k hk2 => World.putObj_heap_other hk2
    refine leaves_marks hres (Marks.keep' hoth hne ht) fun w' hb hs hc => hR w' ?_ (hs.trans (by simp)) fun b ⟨c, t, z, hbk⟩ => ?_
    · exact (show Below n₀ w (w.putObj r (.deferred none)) from ⟨rfl, rfl, rfl, by simp, fun k hk2 => hoth k (by omega)⟩).trans hb
    · have hbr : b ≠ r := by rintro rfl; rw [hk] at hbk; cases hbk
      rw [hc b ⟨c, t, z, by rw [hoth b hbr]; exact hbk⟩, hoth b hbr]
end Go.Proofs.Ytcaialhoclodjaa
