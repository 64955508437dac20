/- A slice that a call grows by one element at a time. Contracts: slices.IndexFunc, .. -/
import Derived.Maps.AppendAt
import Derived.Deep.AppendLies
import Derived.Test.YthgabkgmkolobaaGreatQ2
import Derived.Shelf.Abstract
import Derived.Test.YthgabkgmkolobaaGreatQ1
import Derived.RangeFuncNested
import Derived.RangeFuncBound
import Derived.RangeFuncCalls
import Derived.RangeFuncLeaves
import Derived.Shelf.RegionOpen
import Derived.WalkKit
import Derived.OwnWalkIn
import Derived.TacticsInMore
import Derived.LoopNIn
import Derived.LoopIn
import Derived.Sort.QuietIn
import Derived.Stop.RegionWithIn
set_option maxRecDepth 100000
namespace Go.Proofs.YthgabkgmkolobaaGreat
section
open Go.RowKit Go.Deep
def aC (base : Nat) (e : TypeId) (w : World) (v : Value) (vs : List Value) : Prop := w.ownsRow base e 1 v vs.length vs
theorem aC.nil (base : Nat) (e : TypeId) (w : World) : aC base e w (.slice none 0 0) [] := World.ownsRow_nil _ _ _ _
theorem aB.congr {S : Nat → Prop} {w : World} {v : Value} {n : Nat} {f g : Nat → Value} (h : aB S w v n f) (e : ∀ k, k < n → f k = g k) : aB S w v n g := by
 obtain ⟨p, cap, rfl, hn, h⟩ := h
 refine ⟨p, cap, rfl, hn, ?_⟩
 rcases h with h | ⟨b, off, rfl, hS, h⟩
 ·exact .inl h
 ·exact .inr ⟨b, off, rfl, hS, fun k hk => by rw [← e k hk]; exact h k hk⟩
theorem aC.Au {base : Nat} {e : TypeId} {w : World} {v : Value} {vs : List Value} (h : aC base e w v vs) : aB (fun b => base ≤ b) w v vs.length (fun k => vs.getD k undef) := by
 rcases h.2 with ⟨rfl, h0⟩ | ⟨g, cap, cur, rfl, hg, hc, hn, _, _, ht⟩
 ·exact ⟨none, 0, by rw [h0], by omega, .inl h0⟩
 ·refine ⟨_, cap, rfl, hn, .inr ⟨g, 0, rfl, hg, fun k hk => ?_⟩⟩
  have := World.ownsRow.cells h (g := g) rfl k vs[k] (by simp [hk])
  have xL : (⟨g, 0, none⟩ : Addr).add k = ⟨g, 0 + k, none⟩ := by unfold Addr.add; split <;> simp_all
  rw [xL] at this
  rw [this]; simp [hk]
theorem aC.ints {base : Nat} {e : TypeId} {w : World} {v : Value} {xs : List Int} (h : aC base e w v (xs.map (Value.int .i64))) : aq (fun b => base ≤ b) w v xs := by
 have := h.Au
 rw [List.length_map] at this
 exact this.congr fun k hk => by simp [gi, hk]
theorem aC.strs {base : Nat} {e : TypeId} {w : World} {v : Value} {xs : List ByteArray} (h : aC base e w v (xs.map Value.string)) : ah (fun b => base ≤ b) w v xs := by
 have := h.Au
 rw [List.length_map] at this
 exact this.congr fun k hk => by simp [gs, hk]
theorem aC.kept {base : Nat} {e : TypeId} {w w' : World} {v : Value} {vs : List Value} (h : aC base e w v vs) (k : ∀ b, base ≤ b → b < w.heap.size → w'.heap[b]? = w.heap[b]?) : aC base e w' v vs := by
 refine ⟨h.1, ?_⟩
 rcases h.2 with h0 | ⟨g, cap, cur, rfl, hg, hc, hr⟩
 ·exact .inl h0
 ·have hlt : g < w.heap.size := by
   rcases Nat.lt_or_ge g w.heap.size with h1 | h1
   ·exact h1
   ·rw [Array.getElem?_eq_none h1] at hc; cases hc
  exact .inr ⟨g, cap, cur, rfl, hg, (k g hg hlt).trans hc, hr⟩
theorem aC.alloc {base : Nat} {e : TypeId} {w : World} {v : Value} {vs : List Value} (h : aC base e w v vs) (o : Obj) : aC base e (w.alloc o) v vs := World.ownsRow.alloc h o
theorem iK {w w' : World} {o : Obj} {row : Option Nat} (h : (w.alloc o).grownBy w' row) : w.grownBy w' row :=
 ⟨h.os, h.tape, h.output, Nat.le_trans (by simp) h.size, fun k hk hne => (h.block k (by simp; omega) hne).trans (Below.heap_alloc w o k hk)⟩
theorem aC.dy {base : Nat} {e : TypeId} {w w' : World} {v : Value} {vs : List Value} (h : aC base e w v vs) (hg : w.grownBy w' v.ownBlock) (hb : base ≤ w.heap.size) : Below base w w' :=
 (Below.refl base w).grown hg hb fun k hk => (World.ownsRow.lt h k hk).1
section
variable {P : Program} {ops : Array Oper} {rest : List Oper} {o : Oper} {a : Act} {Q : Exit → Act → World → Prop}
theorem l9 (W : World) (hgd : o.guard = none) (s x : Operand) (t : TypeId) (ho : o.op = .call { callee := .builtin .append, args := #[s, x], argTypes := #[t, t] })
  (base : Nat) (e : TypeId) (z : Value) (bytes : Nat) (ht : P.underlying t = some (.slice e)) (hinfo : (P.info? e).map (fun i => (i.zero, i.size, i.bytes)) = some (some z, 1, bytes))
  (hz1 : z.cells.size = 1) (mg : bytes ≤ 64) {v : Value} {vs : List Value} (hown : aC base e W v vs) (hs : a.eval s = v) (u : Value)
  (hx : a.eval x = .slice (some ⟨W.heap.size, 0, none⟩) 1 1) (h1 : u.oneCell' = true) (hn : vs.length ≤ 1000000) (hbase : base ≤ W.heap.size)
  (h : ∀ g cap w', aC base e w' (.slice (some ⟨g, 0, none⟩) (vs.length + 1) cap) (vs ++ [u]) → W.grownBy w' v.ownBlock → Below base W w' → wpList P ops Q rest (a.put o.dst (.slice (some ⟨g, 0, none⟩) (vs.length + 1) cap)) w') :
  wpList P ops Q (o :: rest) a (W.alloc (.cells #[u] e)) := by
 obtain ⟨i, hi, hzz⟩ := Option.map_eq_some_iff.1 hinfo
 simp only [Prod.mk.injEq] at hzz
 obtain ⟨hz, hs1, hb⟩ := hzz
 refine wpList_append_lies _ hgd s x t ho base e i z 1 bytes ht hi hz hs1 hb hz1 (by omega) v vs.length vs hs (hown.alloc _) ⟨W.heap.size, 0, none⟩ 1 1 [u] hx rfl (cell_one_new _ _ _) (by simpa using h1) (by omega)
  (by unfold maxLen; omega) ?_ (by simp; omega) _ rfl fun g cap w' h2 h3 _ _ => h g cap w' ?_ (iK h3) (hown.dy (iK h3) hbase)
 ·have : (vs.length + 1) * bytes ≤ (vs.length + 1) * 64 := Nat.mul_le_mul_left _ mg
  omega
 ·unfold aC; rw [List.length_append]; exact h2
end
end
section
open Go.RowKit Go.Deep
def Av (g : Nat) (lb args : Array Value) (res : Value) (w : World) : Prop := Calls Tryz.prog g (args ++ lb) w fun e w' => e = .returned res ∧ w = w'
set_option maxHeartbeats 400000 in
theorem N6 (g : Nat) (lb : Array Value) (eg : ∀ args w, (callFunc g args).run Tryz.prog w = .ok (.enter g args) w) (S : Nat → Prop) (w : World) (v : Value) (n : Nat) (f : Nat → Value) (p : Nat → Bool)
  (h : aB S w v n f) (hn : n ≤ 1000000) (hp : ∀ k, k < n → Av g lb #[f k] (.bool (p k)) w) :
  Calls Tryz.prog 117 #[v, .func (.func g) #[] lb] w fun e w' => e = .returned (.int .i64 (b8 p n)) ∧ w = w' := by
 obtain ⟨q, cap, rfl, hcap, H⟩ := h.open
 have HP := aa hp
 clear h hp
 go_enter Tryz.func117, Tryz.ntmps117
 go_wp2_with fail
 go_loop [5, 8] (fun _ i => ∃ k : Nat, k ≤ n ∧ i = .int .i64 k ∧ Hid (∀ j, j < k → p j = false)) (fun _ i => n - (intOf i).toNat)
 case atStart => exact ⟨0, Nat.zero_le _, rfl, fun j hj => absurd hj (Nat.not_lt_zero _)⟩
 case round =>
  obtain ⟨k, hk, rfl, hd⟩ := hrel
  by_cases hlt : k < n
  ·obtain ⟨b, off, rfl, hc⟩ := H k hlt
   clear H
   have hpk := HP.out k hlt
   unfold Av at hpk
   have HPK := aa hpk
   clear hpk HP
   generalize hv : p k = pk at *
   have HV := aa hv
   clear hv
   cases pk
   ·go_wp2_with fail
    refine HPK.out.mono ?_
    rintro e w' ⟨rfl, rfl⟩
    go_wp2_with fail
    go_round
    case rel => exact ⟨k + 1, by omega, by go_num, fun j hj => if e : j = k then by subst e; exact HV.out else hd.out j (by omega)⟩
    case measure => simp [intOf]; omega
   ·go_wp2_with fail
    refine HPK.out.mono ?_
    rintro e w' ⟨rfl, rfl⟩
    go_wp2_with fail
    go_ret
    exact ⟨aI (lB hlt hd.out HV.out).symm, rfl⟩
  ·clear H
   go_wp2_with fail
   go_ret
   exact ⟨aI (jc fun j hj => hd.out j (by omega)).symm, rfl⟩
set_option maxHeartbeats 400000 in
theorem Bp (g : Nat) (lb : Array Value) (eg : ∀ args w, (callFunc g args).run Tryz.prog w = .ok (.enter g args) w) (S : Nat → Prop) (w : World) (v : Value) (n : Nat) (f : Nat → Value) (p : Nat → Bool)
  (h : aB S w v n f) (hn : n ≤ 1000000) (hp : ∀ k, k < n → Av g lb #[f k] (.bool (p k)) w) :
  Calls Tryz.prog 63 #[v, .func (.func g) #[] lb] w fun e w' => e = .returned (.bool ((List.range n).any p)) ∧ w = w' := by
 have hx := l7 p n
 have HX := aa hx
 have HI := aa (N6 g lb eg S w v n f p h hn hp)
 clear hx hp h eg
 go_enter Tryz.func63, Tryz.ntmps63
 go_wp2_with fail
 refine HI.out.mono ?_
 rintro e w' ⟨rfl, rfl⟩
 go_wp2_with fail
 go_ret
 exact ⟨aL (by rw [← HX.out]), rfl⟩
end
section
open Go.RowKit Go.Deep
theorem Tryz.ki : (Tryz.prog.info? 3).map (fun i => (i.zero, i.size, i.bytes)) = some (some (.int .i64 0), 1, 8) := by kernel_rfl
def Xi (w : World) (t : ay) (e : Ending) (w' : World) : Prop :=
 Below w.heap.size w w' ∧ ((az t ≠ 0 ∧ e = .returned (.tuple #[.slice none 0 0, .int .i64 1])) ∨
  (az t = 0 ∧ ∃ v, e = .returned (.tuple #[v, .int .i64 0]) ∧ aq (fun b => w.heap.size ≤ b) w' v (aj t.ns)))
set_option maxHeartbeats 800000 in
theorem rE (S : Nat → Prop) (w : World) (v : Value) (t : ay) (h : aA S w v t) (hp : t.ps.length ≤ 1000000) (hn : t.ns.length ≤ 1000000) (hz : ∀ k, (gs t.ns k).size ≤ 70000) :
  Calls Tryz.prog 30 #[v] w (Xi w t) := by
 obtain ⟨P, N, rfl, hP, hN⟩ := h
 have ht0 : aA S (w.alloc (.cells #[P, N] 39)) (.agg #[P, N]) t := aA.keep ⟨P, N, rfl, hP, hN⟩ (Kept.below ((Below.refl _ w).alloc (Nat.le_refl _) _))
 have hb0 : Below w.heap.size w (w.alloc (.cells #[P, N] 39)) := (Below.refl _ _).alloc (Nat.le_refl _) _
 have uk : (w.alloc (.cells #[P, N] 39)).cell? ⟨w.heap.size, 1, none⟩ = some N := by simp [World.cell?_alloc_new]
 have xH := qZ S (w.alloc (.cells #[P, N] 39)) _ t ht0 hp hn hz
 rw [World.size_alloc] at xH
 have eY := aa xH
 have KR := aa uk
 have gj := aa hb0
 have HN := aa hN
 clear xH uk hb0 ht0 hP hN
 by_cases he : az t = 0
 ·go_enter Tryz.func30, Tryz.ntmps30
  go_wp2_with fail
  refine eY.out.mono ?_
  rintro e w1 ⟨rfl, hb1⟩
  have kj : Below w.heap.size w w1 := gj.out.trans (hb1.mono (by omega))
  have KT := HN.out.keep (Kept.below kj)
  have uk : w1.cell? ⟨w.heap.size, 1, none⟩ = some N := (hb1.cell (p := ⟨w.heap.size, 1, none⟩) (by simp)).trans KR.out
  obtain ⟨q, dw, rfl, sX, HNN⟩ := aB.open KT
  have Xj := aa HNN
  have hwz : w.heap.size ≤ w1.heap.size := kj.size
  have HE := aa he
  rw [he]
  clear HNN KT eY KR gj HN hb1 he
  go_wp2_with fail
  go_loopw [4, 5, 6, 13] (fun v _ _ i wr => ∃ k : Nat, k ≤ t.ns.length ∧ i = .int .i64 k ∧ aC w1.heap.size 3 wr v ((dx t.ns k).map (Value.int .i64)) ∧ Below w1.heap.size w1 wr) (fun _ _ _ i _ => t.ns.length - (intOf i).toNat)
  case atStart => exact ⟨0, Nat.zero_le _, rfl, aC.nil _ _ _, Below.refl _ _⟩
  case round =>
   obtain ⟨k, hk, rfl, hown, hbr⟩ := hrel
   by_cases hlt : k < t.ns.length
   ·obtain ⟨b, off, rfl, hc0⟩ := Xj.out k hlt
    have hc : wr.cell? ⟨b, off + k, none⟩ = some (.string (gs t.ns k)) := by
     rw [hbr.cell (p := ⟨b, off + k, none⟩) (World.block_lt_of_cell? _ _ hc0)]; exact hc0
    have hsz := hbr.size
    have kr := xF t.ns k
    have iz := J1 t.ns k
    have hnil := toList_nil (gs t.ns k)
    have rD := aa hnil
    have rF := aa kr
    have dQ : Hid (((dx t.ns k).map (Value.int .i64)).length ≤ 1000000) := by unfold Hid; rw [List.length_map]; omega
    clear hc0 hnil kr iz Xj hz
    generalize DN : gs t.ns k = g at *
    clear DN
    by_cases hg0 : g.size = 0
    ·have hg1 : g.toList = [] := rD.out.2 hg0
     have uo := aa hg0
     clear hg0
     go_wp2
     go_roundw
     case rel => exact ⟨k + 1, by omega, by go_num, by rw [rF.out, if_pos uo.out, List.append_nil]; exact hown, hbr⟩
     case measure => simp [intOf]; omega
    ·have hg1 : (g.toList == []) = false := by
      rw [Bool.eq_false_iff]; intro e; exact hg0 (rD.out.1 (by simpa using e))
     have hg2 : (g.toList != []) = true := by
      rw [bne_iff_ne]; intro e; exact hg0 (rD.out.1 (by simpa using e))
     have uo := aa hg0
     clear hg0
     go_wp2_with (at_builtin; refine l9 wr rfl _ _ 26 rfl w1.heap.size 3 _ 8 Tryz.underlying26 Tryz.ki rfl (by decide) hown rfl _ rfl rfl dQ.out hsz ?_; intro g cap w2 hown1 hg1 hb1)
     go_roundw
     case rel => exact ⟨k + 1, by omega, by go_num, by rw [rF.out, if_neg uo.out, List.map_append]; rw [List.length_map] at hown1; exact hown1, hbr.trans hb1⟩
     case measure => simp [intOf]; omega
   ·obtain rfl : k = t.ns.length := by omega
    clear hlt hk Xj
    go_wp2
    go_ret2
    exact ⟨kj.trans (hbr.mono hwz), .inr ⟨HE.out, _, rfl, hown.ints.sub fun b hb _ => Nat.le_trans hwz hb⟩⟩
 ·have he' : (az t != 0) = true := by simpa using he
  have HE := aa he
  clear he
  go_enter Tryz.func30, Tryz.ntmps30
  go_wp2_with fail
  refine eY.out.mono ?_
  rintro e w1 ⟨rfl, hb1⟩
  go_wp2_with fail
  go_ret2
  exact ⟨gj.out.trans (hb1.mono (by omega)), .inl ⟨HE.out, rfl⟩⟩
end
section
open Go.RowKit Go.Deep
def StI (e : Ending) (w' : World) (w : World) (n : Int) : Prop := e = .returned (.int .i64 n) ∧ Below w.heap.size w w'
set_option maxHeartbeats 400000 in
theorem Ra (w : World) (b1 b2 : Nat) (x lo hi : Int) (h1 : w.cell? ⟨b1, 0, none⟩ = some (.int .i64 lo)) (h2 : w.cell? ⟨b2, 0, none⟩ = some (.int .i64 hi)) :
  Av 229 #[.pointer (some ⟨b1, 0, none⟩), .pointer (some ⟨b2, 0, none⟩)] #[.int .i64 x] (.bool (decide (x < lo) || decide (hi ≤ x))) w := by
 unfold Av
 go_enter Tryz.func229, Tryz.ntmps229
 by_cases hx : x < lo
 ·go_wp2_with fail
  go_ret
  exact ⟨aL (by simp [hx]), rfl⟩
 ·go_wp2_with fail
  go_ret
  exact ⟨aL (by simp; omega), rfl⟩
set_option maxHeartbeats 400000 in
theorem VL (S : Nat → Prop) (w : World) (v : Value) (st : List Int) (n : Nat) (lo hi : Int) (h : aq S w v st) (hn : st.length ≤ 1000000) :
  Calls Tryz.prog 168 #[v, .int .i64 n, .int .i64 lo, .int .i64 hi] w fun e w' => StI e w' w (mD st n lo hi) := by
 have dr : mD st n lo hi = if st.length ≠ n then 9 else if iy st lo hi then 2 else 0 := rfl
 have HF := aa dr
 have hb : Below w.heap.size w ((w.alloc (.cells #[.int .i64 lo] 3)).alloc (.cells #[.int .i64 hi] 3)) := ((Below.refl _ _).alloc (Nat.le_refl _) _).alloc (by simp) _
 have hI := aB.keep h (Kept.below hb)
 obtain ⟨p, cap, rfl, hcap, H⟩ := aB.open h
 have hc1 : ((w.alloc (.cells #[.int .i64 lo] 3)).alloc (.cells #[.int .i64 hi] 3)).cell? ⟨w.heap.size, 0, none⟩ = some (.int .i64 lo) := by simp
 have hc2 : ((w.alloc (.cells #[.int .i64 lo] 3)).alloc (.cells #[.int .i64 hi] 3)).cell? ⟨w.heap.size + 1, 0, none⟩ = some (.int .i64 hi) := by simp
 have hC := Bp 229 #[.pointer (some ⟨w.heap.size, 0, none⟩), .pointer (some ⟨w.heap.size + 1, 0, none⟩)] (enters_of Tryz.func229 (by kernel_rfl) rfl) S _ _ st.length (fun k => .int .i64 (gi st k)) (fun k => decide (gi st k < lo) || decide (hi ≤ gi st k)) hI hn
  (fun k _ => Ra _ _ _ (gi st k) lo hi hc1 hc2)
 have HC := aa hC
 have HB := aa hb
 clear dr hI H hc1 hc2 hC hb h
 by_cases hl : st.length = n
 ·have fA : ((st.length : Int) != n) = false := by simp [hl]
  have HL := aa hl
  clear hl
  have oa : iy st lo hi = (List.range st.length).any fun k => decide (gi st k < lo) || decide (hi ≤ gi st k) := rfl
  have bY := aa oa
  clear oa
  go_enter Tryz.func168, Tryz.ntmps168
  go_wp2_with fail
  refine HC.out.mono ?_
  rintro e w' ⟨rfl, rfl⟩
  rw [← bY.out]
  go_wp2_with fail
  ·go_ret
   exact ⟨aI (by rw [HF.out, if_neg (by rw [HL.out]; simp), if_pos ‹_›]), HB.out⟩
  ·go_ret
   exact ⟨aI (by rw [HF.out, if_neg (by rw [HL.out]; simp), if_neg (by rw [‹iy st lo hi = false›]; simp)]), HB.out⟩
 ·have fA : ((st.length : Int) != n) = true := by simp; omega
  go_enter Tryz.func168, Tryz.ntmps168
  go_wp2_with fail
  go_ret
  exact ⟨aI (by rw [HF.out, if_pos hl]), HB.out⟩
end
section
open Go.RowKit Go.Shelf Go.Deep
attribute [local go_sem] Oper.semAt_some
theorem Ma (w : World) (row : Option Nat) : w.grownBy w.drew row := ⟨rfl, rfl, rfl, Nat.le_refl _, fun _ _ _ => rfl⟩
abbrev DO (ps : List Int) (node : Nat) := { x : Nat // x ∈ aS ps node }
def vals {ps : List Int} {node : Nat} (l : List (DO ps node)) : List Nat := l.map Subtype.val
theorem xM {ps : List Int} {node : Nat} (l : List (DO ps node)) (x : DO ps node) : vals (l ++ [x]) = vals l ++ [x.1] := by simp [vals]
theorem F5 (ps : List Int) (n k : Nat) (h : k ≤ ps.length) : bI ps n k <+: aS ps n := by
 unfold aS
 obtain ⟨d, hd⟩ : ∃ d, ps.length = k + d := ⟨ps.length - k, by omega⟩
 rw [hd]
 clear hd h
 induction d with
 | zero => exact List.prefix_rfl
 | succ d ih => rw [← Nat.add_assoc, gq]; exact ih.trans (List.prefix_append _ _)
theorem Rb {e : Ending} {A B : Prop} (h : (e = .returned (.bool true) ∧ A) ∨ (e = .returned (.bool false) ∧ B)) : ∃ bb, e = .returned (.bool bb) ∧ Hid ((bb = true ∧ A) ∨ (bb = false ∧ B)) := by
 rcases h with ⟨h1, h2⟩ | ⟨h1, h2⟩
 ·exact ⟨true, h1, .inl ⟨rfl, h2⟩⟩
 ·exact ⟨false, h1, .inr ⟨rfl, h2⟩⟩
def KS (T : Nat → Prop) (w w' : World) : Prop := ∀ b, T b → w'.heap[b]? = w.heap[b]?
theorem KS.refl (T : Nat → Prop) (w : World) : KS T w w := fun _ _ => rfl
theorem KS.trans {T : Nat → Prop} {a b c : World} (h : KS T a b) (k : KS T b c) : KS T a c := fun i hi => (k i hi).trans (h i hi)
theorem KS.cell {T : Nat → Prop} {a b : World} (h : KS T a b) {p : Addr} (hp : T p.block) : b.cell? p = a.cell? p := World.cell?_of_block (h p.block hp)
theorem KS.drew {T : Nat → Prop} {a b : World} (h : KS T a b) : KS T a b.drew := h
theorem KS.drewN {T : Nat → Prop} {a b : World} (h : KS T a b) (n : Nat) : KS T a (b.drewN n) := h
set_option maxHeartbeats 1000000 in
theorem Rc (n l Bn Bt : Nat) (T : Nat → Prop) (hn : 1 ≤ n) (ps : List Int) (node : Nat) (P : Value) (J Jx : List (DO ps node) → World → Prop)
  (hY : ∀ pre x W, J pre W → pre.length < ps.length → YieldAt Fence.wide (n - 1) Tryz.prog l #[.int .i64 (x.1 : Int)] W fun e W' =>
   (e = .returned (.bool true) ∧ J (pre ++ [x]) W' ∧ KS T W W') ∨ (e = .returned (.bool false) ∧ Jx (pre ++ [x]) W'))
  (W : World) (N8 : AbidesFrom W.heap.size J) (dL : W.cell? ⟨Bn, 0, none⟩ = some (.int .i64 node)) (jN : W.cell? ⟨Bt, 0, none⟩ = some P) (hP : aq T W P ps) (Uj : T Bn) (Uk : T Bt)
  (Ul : node < ps.length) (hlen : ps.length ≤ 1000000) (h0 : J [] W) :
  CallsIn Fence.wide n Tryz.prog 268 #[.func (.yield l) #[] #[], .pointer (some ⟨Bn, 0, none⟩), .pointer (some ⟨Bt, 0, none⟩)] W fun e W' => (∃ v, e = .returned v) ∧
   ((∃ xs, vals xs = aS ps node ∧ J xs W') ∨ (∃ pre, vals pre <+: aS ps node ∧ Jx pre W')) := by
 obtain ⟨q, cap, rfl, hcap, gN⟩ := hP
 have iA := aa gN
 have HJA := aa N8
 have ij := aa dL
 have KQ := aa jN
 have HY := aa hY
 clear gN N8 hY
 refine callsIn_of_wp Tryz.func268 rfl trivial ?_ rfl
 simp only [Tryz.ntmps268, List.size_toArray, List.length_cons, List.length_nil, Nat.reduceAdd, Nat.reduceSub, Array.replicate_succ, Array.replicate_zero, List.push_toArray, List.append_toArray, List.nil_append, List.cons_append]
 gi_wp2
 clear dL jN
 gi_loopw [4] (fun i wr => ∃ (k : Nat) (pre : List (DO ps node)), node + 1 ≤ k ∧ k ≤ ps.length ∧ i = .int .i64 k ∧ vals pre = bI ps node k ∧ J pre wr ∧ KS T W wr) (fun i _ => ps.length - (intOf i).toNat)
 case atStart => exact ⟨node + 1, [], Nat.le_refl _, by omega, by go_num, (zI _ _).symm, h0, KS.refl _ _⟩
 case round =>
  obtain ⟨k, pre, hk1, hk, rfl, hpre, hJ, hbr⟩ := hrel
  have dL : wr.cell? ⟨Bn, 0, none⟩ = some (.int .i64 node) := (hbr.cell (p := ⟨Bn, 0, none⟩) Uj).trans ij.out
  have jN : wr.cell? ⟨Bt, 0, none⟩ = some (.slice q ps.length cap) := (hbr.cell (p := ⟨Bt, 0, none⟩) Uk).trans KQ.out
  have F6 := aa hpre
  clear hpre
  by_cases hlt : k < ps.length
  ·have hsl2 := iA.out
   rcases hsl2 with h | ⟨b, off, rfl, hb, hcell⟩
   ·omega
   ·have hc : wr.cell? ⟨b, off + k, none⟩ = some (.int .i64 (gi ps k)) := (hbr.cell (p := ⟨b, off + k, none⟩) hb).trans (hcell k hlt)
    have kr := gq ps node k
    have hlen2 : pre.length < ps.length := by
     have h1 := pW ps node k
     have h2 := congrArg List.length F6.out
     unfold vals at h2; rw [List.length_map] at h2; omega
    have hmem : gi ps k = node → k ∈ aS ps node := fun h => cr.2 ⟨hlt, by omega, h⟩
    have F7 := aa hmem
    have rF := aa kr
    clear hcell kr hmem
    have i1 : (0 : Int) ≤ (k : Int) := by omega
    have i2 : (k : Int) < (ps.length : Int) := by omega
    generalize hx : gi ps k = x at *
    clear hx
    by_cases pZ : x = node
    ·have hx1 : (x == (node : Int)) = true := by simp [pZ]
     have HX := aa pZ
     clear pZ
     have hJ' : J pre wr.drew := HJA.out pre wr wr.drew none hJ (Ma _ _) (fun r e => by cases e)
     obtain ⟨fn, tmps, assign, body, hy, hR⟩ := HY.out pre ⟨k, F7.out HX.out⟩ wr.drew hJ' hlen2
     dsimp only at hy
     clear hJ'
     gi_wp2
     gi_region_with (refine hR.mono ?_; rintro e W3 ep; obtain ⟨bb, rfl, hq⟩ := Rb ep)
     all_goals
      gi_wp2
      ·have hbb := ‹(!bb) = true›
       have Br : bb = false ∧ Jx (pre ++ [⟨k, F7.out HX.out⟩]) W3 := by
        rcases hq.out with ⟨h1, _⟩ | h2
        ·rw [h1] at hbb; cases hbb
        ·exact h2
       refine bodyPost_ret (results_none rfl _ _ _) rfl ?_
       exact ⟨⟨_, rfl⟩, .inr ⟨pre ++ [⟨k, F7.out HX.out⟩], by
        rw [xM, F6.out]
        have h3 := F5 ps node (k + 1) hlt
        rw [rF.out, if_pos ⟨by omega, HX.out⟩] at h3; exact h3, Br.2⟩⟩
      ·have hbb := ‹(!bb) = false›
       have Br : bb = true ∧ J (pre ++ [⟨k, F7.out HX.out⟩]) W3 ∧ KS T wr.drew W3 := by
        rcases hq.out with h2 | ⟨h1, _⟩
        ·exact h2
        ·rw [h1] at hbb; cases hbb
       go_roundw
       case rel => exact ⟨k + 1, pre ++ [⟨k, F7.out HX.out⟩], by omega, by omega, by go_num, by rw [xM, F6.out, rF.out, if_pos ⟨by omega, HX.out⟩], Br.2.1, hbr.drew.trans Br.2.2⟩
       case measure => simp [intOf]; omega
    ·have hx1 : (x == (node : Int)) = false := by simpa using pZ
     have HX := aa pZ
     clear pZ
     gi_wp2
     refine wpIn_region_quiet_lit rfl (by kernel_rfl) (by kernel_rfl) ?_
     repeat (gi_big_quiet_step (fail))
     refine BigFrame.wpQuietIn_skip (fun _ _ _ _ => trivial) rfl ?_
     simp only [Act.put, au, ax, av]
     repeat (gi_big_quiet_step (fail))
     refine wpQuietIn_nil ?_
     intro _ hw'
     obtain ⟨nq, hw''⟩ := hw'
     subst hw''
     gi_wp2
     go_roundw
     case rel => exact ⟨k + 1, pre, by omega, by omega, by go_num, by rw [F6.out, rF.out, if_neg (fun h => HX.out h.2), List.append_nil], HJA.out pre wr _ none hJ ⟨rfl, rfl, rfl, Nat.le_refl _, fun _ _ _ => rfl⟩ (fun r e => by cases e), hbr.drewN _⟩
     case measure => simp [intOf]; omega
  ·gi_wp2
   go_end0
   obtain rfl : k = ps.length := by omega
   exact ⟨⟨_, rfl⟩, .inl ⟨pre, F6.out, hJ⟩⟩
set_option maxHeartbeats 400000 in
theorem Xk (w : World) (v : Value) (P N : Value) (hv : v = .agg #[P, N]) (node : Nat) :
  Calls Tryz.prog 231 #[v, .int .i64 node] w fun e w' => e = .returned (.func (.func 268) #[] #[.pointer (some ⟨w.heap.size + 1, 0, none⟩), .pointer (some ⟨w.heap.size, 0, none⟩)]) ∧ w' = (w.alloc (.cells #[P, N] 39)).alloc (.cells #[.int .i64 node] 3) := by
 subst hv
 go_enter Tryz.func231, Tryz.ntmps231
 go_wp2_with fail
 go_ret
 exact ⟨rfl, rfl⟩
theorem Mb (n : Nat) (hn : 1 ≤ n) (Bn Bt : Nat) (T : Nat → Prop) (ps : List Int) (node : Nat) (P : Value) (w : World) (hT : ∀ b, T b → b < w.heap.size)
  (dL : w.cell? ⟨Bn, 0, none⟩ = some (.int .i64 node)) (jN : w.cell? ⟨Bt, 0, none⟩ = some P) (hP : aq T w P ps) (Uj : T Bn) (Uk : T Bt) (Ul : node < ps.length) (hlen : ps.length ≤ 1000000) :
  SeqStopsK Fence.wide n Tryz.prog 268 #[.pointer (some ⟨Bn, 0, none⟩), .pointer (some ⟨Bt, 0, none⟩)] (fun x : DO ps node => #[Value.int .i64 (x.1 : Int)]) (KS T)
   (fun xs => vals xs = aS ps node) (fun pre => vals pre <+: aS ps node) ps.length w := fun l J Jx W hW hJ _ hY h0 =>
 Rc n l Bn Bt T hn ps node P J Jx hY W hJ ((hW.cell (p := ⟨Bn, 0, none⟩) (hT _ Uj)).trans dL) ((hW.cell (p := ⟨Bt, 0, none⟩) (hT _ Uk)).trans jN)
  (hP.keep fun b hb _ => hW.block b (hT b hb)) Uj Uk Ul hlen h0
end
section
open Go.RowKit Go.Shelf Go.Deep
def Marks (n₀ : Nat) (w : World) : List Deferred → Prop
 | [] => True
 | d :: ds => (∃ r, d = { target := .collected r, args := #[] } ∧ n₀ ≤ r ∧ w.heap[r]? = some (.deferred (some [])) ∧ (∀ d' ∈ ds, d'.target ≠ .collected r)) ∧ Marks n₀ w ds
theorem Marks.keep {n₀ : Nat} {w w' : World} (h : ∀ r, w.heap[r]? = some (.deferred (some [])) → n₀ ≤ r → w'.heap[r]? = w.heap[r]?) : ∀ {ds : List Deferred}, Marks n₀ w ds → Marks n₀ w' ds
 | [], _ => trivial
 | _ :: _, ⟨⟨r, e, hr, hk, hne⟩, ht⟩ => ⟨⟨r, e, hr, (h r hk hr).trans hk, hne⟩, ht.keep h⟩
theorem Marks.lt {n₀ : Nat} {w : World} : ∀ {ds : List Deferred}, Marks n₀ w ds → ∀ d ∈ ds, ∃ r, d.target = .collected r ∧ r < w.heap.size
 | _ :: _, ⟨⟨r, e, _, hk, _⟩, ht⟩, d, hd => by
  rcases List.mem_cons.1 hd with rfl | hd
  ·refine ⟨r, by rw [e], ?_⟩
   rcases Nat.lt_or_ge r w.heap.size with h | h
   ·exact h
   ·rw [Array.getElem?_eq_none h] at hk; cases hk
  ·exact ht.lt d hd
theorem Marks.keep' {n₀ r : Nat} {w w' : World} (h : ∀ k, k ≠ r → w'.heap[k]? = w.heap[k]?) : ∀ {ds : List Deferred}, (∀ d' ∈ ds, d'.target ≠ .collected r) → Marks n₀ w ds → Marks n₀ w' ds
 | [], _, _ => trivial
 | _ :: _, hne, ⟨⟨s, e, hs, hk, uq⟩, ht⟩ => ⟨⟨s, e, hs, (h s (by rintro rfl; exact hne _ List.mem_cons_self (by rw [e]))).trans hk, uq⟩, Marks.keep' h (fun d hd => hne d (List.mem_cons_of_mem _ hd)) ht⟩
theorem xN {fn : Func} {tmps : Array Value} {R : Ending → World → Prop} {n n₀ : Nat} {v : Value} (hres : ∀ w, (results fn tmps).run Tryz.prog w = .ok v w) :
  ∀ {ds : List Deferred} {w : World}, Marks n₀ w ds → (∀ w', Below n₀ w w' → w'.heap.size = w.heap.size → (∀ b : Nat, (∃ c t z, w.heap[b]? = some (Obj.cells c t z)) → w'.heap[b]? = w.heap[b]?) → R (.returned v) w') →
  LeavesInM Fence.wide n Tryz.prog fn tmps R ds .returning w
 | [], w, _, hR => ⟨v, hres w, hR w (Below.refl _ _) rfl fun _ _ => rfl⟩
 | d :: ds, w, ⟨⟨r, e, hr, hk, hne⟩, ht⟩, hR => by
  refine ⟨by simp, .inl ⟨r, _, by rw [e], run_takeDeferred hk, ?_⟩⟩
  have Mc : ∀ k, k ≠ r → (w.putObj r (.deferred none)).heap[k]? = w.heap[k]? := fun k hk2 => World.putObj_heap_other hk2
  refine xN hres (Marks.keep' Mc hne ht) fun w' hb hs hc => hR w' ?_ (hs.trans (by simp)) fun b ⟨c, t, z, hbk⟩ => ?_
  ·exact (show Below n₀ w (w.putObj r (.deferred none)) from ⟨rfl, rfl, rfl, by simp, fun k hk2 => Mc k (by omega)⟩).trans hb
  ·have hbr : b ≠ r := by rintro rfl; rw [hk] at hbk; cases hbk
   rw [hc b ⟨c, t, z, by rw [Mc b hbr]; exact hbk⟩, Mc b hbr]
end
section
open Go.RowKit Go.Shelf Go.Deep
section
variable {F : Fence} {n : Nat} {P : Program} {ops : Array Oper} {C : World → Prop}
theorem Md {o : Oper} {a : Act} {K : Act → Prop} {K' : Act → World → Prop} {Q' : Exit → Act → World → Prop} {w : World} (hs : ∀ ρ, Oper.semAt F.round ρ o = execOp ρ o) (hw : C w)
  (h : ∀ a w', C w' → K a → K' a w') (ha : o.askedIn F P a C) (hh : o.quietIn F n P a C K) : o.wpIn F n P a w K' Q' := by
 obtain ⟨v, hv, hk⟩ := hh
 have hv := hv w hw
 refine ⟨ha w hw, ?_⟩
 rw [hs]
 unfold Oper.quietAtIn at hv
 cases hr : (execOp a.eval o).run P w with
 | halt x w' => rw [hr] at hv; exact hv.elim
 | ok x w' =>
  rw [hr] at hv
  cases x with
  | value u => obtain ⟨rfl, rfl⟩ := hv; exact h _ _ hw hk
  | skip => obtain ⟨rfl, rfl⟩ := hv; exact h _ _ hw hk
  | enter f args => obtain ⟨rfl, hd, hc⟩ := hv; exact ⟨hd, hc.mono fun e w'' ⟨he, hw2⟩ => by subst he; exact h _ _ hw2 hk⟩
  | _ => exact hv.elim
theorem Me {i : Nat} {a : Act} {K : Act → Prop} {K' : Act → World → Prop} {Q' : Exit → Act → World → Prop} {w : World} (hs : ∀ o : Oper, ops[i]? = some o → ∀ ρ, Oper.semAt F.round ρ o = execOp ρ o) (hC : C w)
  (h : ∀ a w', C w' → K a → K' a w') (hh : qOpIn F n P ops C i K a) : wpOpIn F n P ops Q' i K' a w := by
 cases ho : ops[i]? with
 | none => simp only [qOpIn, wpOpIn, ho] at hh ⊢; exact h _ _ hC hh
 | some o =>
  simp only [qOpIn, wpOpIn, ho] at hh ⊢
  by_cases hg : Region.wanted o (yielded ops a.tmps) = true
  ·rw [if_pos hg] at hh ⊢; exact Md (hs o ho) hC h hh.1 hh.2
  ·rw [if_neg hg] at hh ⊢; exact ⟨hh.1 w hC, h _ _ hC hh.2⟩
theorem J3 {Q : Act → Prop} {Q' : Exit → Act → World → Prop} {md : Region.Mode} (hs : ∀ (i : Nat) (o : Oper), ops[i]? = some o → ∀ ρ, Oper.semAt F.round ρ o = execOp ρ o) (hQ : ∀ a w, C w → Q a → Q' .normal a w) (fuel : Nat) :
  ∀ (listed : Array Bool) (a : Act) (w : World), C w → wpAnyQIn F n P md ops C Q fuel listed a → wpAnyIn F n P md ops Q' fuel listed a w := by
 induction fuel with
 | zero => intro _ a w hw h; exact ⟨h.1, hQ a w hw h.2⟩
 | succ k ih => intro _ a w hw h; exact ⟨fun h0 => hQ a w hw (h.1 h0), fun i hi => Me (hs i) hw (fun a' w' hw' => ih _ a' w' hw') (h.2 i hi)⟩
theorem CQ {id l₀ : Nat} {Q : Exit → Act → World → Prop} {a : Act} {w : World} {l : List Oper} (hro : F.round = some l₀) (hm : P.follows .mixedOrders = true) (hB : Region.lexB .any l.toArray = true)
  (hd : l.all (fun o => match o.op with | .defer _ => false | _ => true) = true)
  (h : wpQuietIn F n P l.toArray (fun w' => ∃ n, w' = w.drewN n) (fun a' => ∀ w', (∃ n, w' = w.drewN n) → Q .normal a' w') l a) : (Code.region id l.toArray true).wpIn F n P Q a w := by
 have hs : ∀ (i : Nat) o, l.toArray[i]? = some o → ∀ ρ, Oper.semAt F.round ρ o = execOp ρ o := fun i o ho ρ => by
  rw [hro]
  refine Oper.semAt_some l₀ ρ o fun c e => ?_
  have h1 := List.all_eq_true.1 hd o (List.mem_of_getElem? (by simpa using ho))
  rw [e] at h1; cases h1
 simp only [Region.lexB, Bool.and_eq_true] at hB
 refine wpIn_region_any hm (J3 (C := fun w' => ∃ n, w' = w.drewN n) (Q := fun a' => ∀ w', (∃ n, w' = w.drewN n) → Q .normal a' w') hs (fun _ w' hw' h => h w' hw') _ _ _ _ ⟨1, rfl⟩ ?_)
 have h2 := wpAnyQIn_lex (F := F) (n := n) (C := fun w' => ∃ n, w' = w.drewN n) (md := .any) hB.1 l.toArray.toList 0 (Array.replicate l.toArray.size false) a (by simp) (by simpa using hB.2) (by simpa using h)
 simpa using h2
end
end
end Go.Proofs.YthgabkgmkolobaaGreat
