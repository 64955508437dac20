/- Between two rounds of slices.AppendSeq at ints: cut out of V1. The contract of slices.BinarySearch at ints: the laying. Package intset: Check, the membership function; split.Check. -/
import Derived.RangeFuncWrites
import Derived.Test.YtcbmbhghmfehpaaGreatQ4
import Derived.Test.YtcbmbhghmfehpaaGreatQ9
import Derived.Laws.EntriesVeiled
import Derived.Shelf.SlGeneric
import Derived.Shelf.Slices.SearchI
import Derived.Ground.Names2Prog
import Derived.Test.YtcbmbhghmfehpaaGreatProg
import Derived.Shelf.Slices.Empties
import Derived.Test.YtcbmbhghmfehpaaGreatQ2
import Derived.Test.YtcbmbhghmfehpaaGreatQ7
import Derived.Test.YtcbmbhghmfehpaaGreatQ8
namespace Go.Proofs.YtcbmbhghmfehpaaGreat
open Go.RowKit Go.Shelf Go.Deep
attribute [local go_sem] Oper.semAt_some
theorem Owns.sameZ {base : Nat} {e : TypeId} {w w' : World} {v : Value} {vs : List Value} (h : Owns base e w v vs) (k : ∀ b, v.ownBlock = some b → w'.heap[b]? = w.heap[b]?) : Owns base e w' v vs := by
  obtain ⟨hl, h | ⟨g, cap, cur, rfl, hg, hc, hr⟩⟩ := h
  · exact ⟨hl, .inl h⟩
  · exact ⟨hl, .inr ⟨g, cap, cur, rfl, hg, by rw [k g rfl]; exact hc, hr⟩⟩
theorem Owns.mono_baseZ {base base' : Nat} {e : TypeId} {w : World} {v : Value} {vs : List Value} (h : Owns base e w v vs) (hb : base' ≤ base) : Owns base' e w v vs := by
  obtain ⟨hl, h | ⟨g, cap, cur, rfl, hg, hc, hr⟩⟩ := h
  · exact ⟨hl, .inl h⟩
  · exact ⟨hl, .inr ⟨g, cap, cur, rfl, Nat.le_trans hb hg, hc, hr⟩⟩
theorem Owns.typedV {base : Nat} {e : TypeId} {w : World} {v : Value} {vs : List Value} (h : Owns base e w v vs) {b : Nat} (hb : v.ownBlock = some b) : ∃ c, w.heap[b]? = some (Obj.cells c e (0, 0)) := by
  obtain ⟨_, ⟨rfl, _⟩ | ⟨g, cap, cur, rfl, _, hc, _⟩⟩ := h
  · cases hb
  · injection hb with hb; subst hb; exact ⟨cur, hc⟩

def AqI (w0 : World) (pre : List Int) (W : World) : Prop := Below w0.heap.size w0 W ∧ w0.heap.size + 1 ≤ W.heap.size ∧ ∃ v, W.heap[w0.heap.size]? = some (Obj.cells #[v] 26 (0, 0)) ∧ Owns (w0.heap.size + 1) 3 W v (pre.map (Value.int .i64))
theorem AqI.own (w0 : World) {B : Nat} (hB : w0.heap.size + 1 ≤ B) : OwnFrom B (AqI w0) := by
  rintro s X Y row ⟨hb, hsz, v, hbox, hown⟩ hg hr
  have hcell : ∀ (b : Nat) (c : Array Value) (e : TypeId) (z : Nat × Nat), X.heap[b]? = some (Obj.cells c e z) → Y.heap[b]? = X.heap[b]? := fun b c e z hc => hg.block b (Array.getElem?_eq_some_iff.1 hc).1 (fun e2 => by
    obtain ⟨_, o, h1, h2⟩ := hr b e2.symm
    rw [hc] at h1; injection h1 with h1; subst h1; cases h2)
  refine ⟨⟨hg.os.trans hb.os, hg.tape.trans hb.tape, hg.output.trans hb.output, Nat.le_trans hb.size hg.size, fun b hb2 => (hg.block b (by have := hb.size; omega) (fun e => by obtain ⟨h1, _⟩ := hr b e.symm; omega)).trans (hb.block b hb2)⟩, Nat.le_trans hsz hg.size, v, (hcell _ _ _ _ hbox).trans hbox, hown.sameZ fun b hb2 => ?_⟩
  obtain ⟨c, hc⟩ := hown.typedV hb2
  exact hcell _ _ _ _ hc
end Go.Proofs.YtcbmbhghmfehpaaGreat
namespace Go.Proofs.YtcbmbhghmfehpaaGreat
open Go.RowKit Go.Shelf Go.Deep
def AqPost (w : World) (xs : List Int) (e : Ending) (w' : World) : Prop := Up w w' ∧ ∃ v, e = .returned v ∧ Owns w.heap.size 3 w' v (xs.map (Value.int .i64))
theorem AqI.next {w W We : World} {pre : List Int} {x : Int} {v v' : Value} (hbw : Below w.heap.size w W) (hsz : w.heap.size + 1 ≤ W.heap.size) (hbox : W.heap[w.heap.size]? = some (Obj.cells #[v] 26 (0, 0))) (hown : Owns (w.heap.size + 1) 3 W v (pre.map (Value.int .i64)))
    (ho : Owns (w.heap.size + 1) 3 We v' (pre.map (Value.int .i64) ++ [.int .i64 x])) (hg : (W.alloc (.cells #[.int .i64 x] 3)).grownBy We v.ownBlock) :
    KeepsFrom (w.heap.size + 1) W (We.setCell ⟨w.heap.size, 0, none⟩ v') ∧ KS (· < w.heap.size) W (We.setCell ⟨w.heap.size, 0, none⟩ v') ∧ AqI w (pre ++ [x]) (We.setCell ⟨w.heap.size, 0, none⟩ v') := by
  have hset : ∀ b, b ≠ w.heap.size → (We.setCell ⟨w.heap.size, 0, none⟩ v').heap[b]? = We.heap[b]? := fun b hb => blk_setCell_other _ _ _ _ hb
  have hszs : (We.setCell ⟨w.heap.size, 0, none⟩ v').heap.size = We.heap.size := by simp [World.size_setCell]
  have hga : ∀ b, b < W.heap.size → some b ≠ v.ownBlock → We.heap[b]? = W.heap[b]? := fun b hb hne => (hg.block b (by rw [World.size_alloc]; exact Nat.lt_succ_of_lt hb) hne).trans (Below.heap_alloc W _ b hb)
  have hsize : W.heap.size + 1 ≤ We.heap.size := by have h := hg.size; rw [World.size_alloc] at h; exact h
  have hlow : ∀ b, b < w.heap.size + 1 → We.heap[b]? = W.heap[b]? := fun b hb => hga b (by omega) (fun e => by have := (ownBlock_lt hown e.symm).1; omega)
  have hbe := (hlow w.heap.size (Nat.lt_succ_self _)).trans hbox
  refine ⟨⟨by omega, fun k o hk ho2 hc => ?_⟩, fun b (hb : b < w.heap.size) => (hset b (by omega)).trans (hlow b (by omega)), ⟨hg.os.trans hbw.os, hg.tape.trans hbw.tape, hg.output.trans hbw.output, by omega, fun b hb => ((hset b (by omega)).trans (hlow b (by omega))).trans (hbw.block b hb)⟩, by omega, v', ?_, ?_⟩
  · have hkl : k < W.heap.size := (Array.getElem?_eq_some_iff.1 ho2).1
    rw [hset k (by omega), hga k hkl (fun e => by
      obtain ⟨c, h⟩ := hown.typedV e.symm
      rw [ho2] at h; injection h with h; subst h; cases hc)]
    exact ho2
  · simp [World.setCell, Array.getElem?_modify, hbe]
  · rw [List.map_append]
    exact ho.sameZ fun b hb => hset b (by have := (ownBlock_lt ho hb).1; omega)
end Go.Proofs.YtcbmbhghmfehpaaGreat
namespace Go.Proofs
open Go.Shelf
def Tryz.bsI_ren : Go.Shelf.Ren := ⟨fun | 25 => 195 | 31 => 229 | 32 => 232 | 37 => 156 | n => n, fun | 22 => 26 | 3 => 3 | 4 => 4 | 40 => 118 | 0 => 0 | n => n, fun | n => n⟩
theorem Tryz.bsI : Go.Proofs.Lays2.n25 Tryz.prog Tryz.bsI_ren := {
  mixed := by kernel_rfl
  f25 := Tryz.func195.trans (congrArg some (by kernel_rfl))
  f31 := Tryz.func229.trans (congrArg some (by kernel_rfl))
  f32 := Tryz.func232.trans (congrArg some (by kernel_rfl))
  f37 := Tryz.func156.trans (congrArg some (by kernel_rfl))
  t0 := Tryz.underlying0
  a0 := Tryz.isAgg0
  z0 := Tryz.sizeOf0
  v0 := Tryz.zeroValue0
  t3 := Tryz.underlying3
  a3 := Tryz.isAgg3
  z3 := Tryz.sizeOf3
  v3 := Tryz.zeroValue3
  t4 := Tryz.underlying4
  a4 := Tryz.isAgg4
  z4 := Tryz.sizeOf4
  v4 := Tryz.zeroValue4
  t22 := Tryz.underlying26
  a22 := Tryz.isAgg26
  z22 := Tryz.sizeOf26
  v22 := Tryz.zeroValue26
  t40 := Tryz.underlying118
  a40 := Tryz.isAgg118
  z40 := Tryz.sizeOf118
  v40 := Tryz.zeroValue118 }
end Go.Proofs
namespace Go.Proofs.YtcbmbhghmfehpaaGreat
open Go.RowKit Go.Deep
set_option maxRecDepth 100000 in
set_option maxHeartbeats 1000000 in
theorem setCheck_t (S : Nat → Prop) (w : World) (v : Value) (l : List Int) (h : IntsAt S w v l) (hn : l.length ≤ 1000000) :
    Calls Tryz.prog 125 #[v] w fun e w' => e = .returned (.int .i64 (setErr l)) ∧ w = w' := by
  have HF : Hid (setErr l = firstNZ (setBad l) l.length) := rfl
  have HB : Hid (∀ i, setBad l i = if gi l i < 0 ∨ 63 < gi l i then 2 else if 0 < i ∧ gi l i ≤ gi l (i - 1) then 10 else 0) := fun _ => rfl
  obtain ⟨p, cap, rfl, -, -⟩ := SlAt.open h
  have H : Hid (IntsAt S w (.slice p l.length cap) l) := h
  clear h
  go_enter Tryz.func125, Tryz.ntmps125
  go_wp2_with fail
  go_loop [3, 4, 7] (fun _ _ i => ∃ k : Nat, k ≤ l.length ∧ i = .int .i64 k ∧ Hid (∀ j, j < k → setBad l j = 0)) (fun _ _ i => l.length - (intOf i).toNat)
  case atStart => exact ⟨0, Nat.zero_le _, rfl, fun j hj => absurd hj (Nat.not_lt_zero _)⟩
  case round =>
    obtain ⟨k, hk, rfl, hd⟩ := hrel
    by_cases hlt : k < l.length
    · obtain ⟨b, off, rfl, hc⟩ := ints_get H.out hlt
      have HK := Lib.hid (HB.out k)
      have HP : Hid (0 < k → w.cell? ⟨b, off + (k - 1), none⟩ = some (.int .i64 (gi l (k - 1)))) := fun h0 => by
        obtain ⟨b2, off2, e, hc2⟩ := ints_get H.out (k := k - 1) (by omega)
        cases e; exact hc2
      generalize gi l k = x at *
      generalize gi l (k - 1) = y at *
      by_cases h1 : x < 0
      · go_wp2_with fail
        go_ret
        have hr : setBad l k = 2 := by rw [HK.out, if_pos (.inl h1)]
        exact ⟨ret_int (by rw [HF.out, firstNZ_at hlt hd.out (by rw [hr]; decide), hr]), rfl⟩
      by_cases h2 : 63 < x
      · go_wp2_with fail
        go_ret
        have hr : setBad l k = 2 := by rw [HK.out, if_pos (.inr h2)]
        exact ⟨ret_int (by rw [HF.out, firstNZ_at hlt hd.out (by rw [hr]; decide), hr]), rfl⟩
      have HX : Hid (¬ (x < 0 ∨ 63 < x)) := by unfold Hid; omega
      by_cases h0 : k = 0
      · subst h0
        rw [Nat.add_zero] at hc
        go_wp2_with fail
        go_round
        case rel => exact ⟨1, by omega, by go_num, fun j hj => by
          have : j = 0 := by omega
          subst this; rw [HK.out, if_neg HX.out, if_neg (by omega)]⟩
        case measure => simp [intOf]; omega
      · have hcp := HP.out (by omega)
        have i1 : (0 : Int) ≤ (k : Int) - 1 := by omega
        have i2 : (k : Int) - 1 < (l.length : Int) := by omega
        have i3 : ((k : Int) - 1).toNat = k - 1 := by omega
        have i4 : wrap64 ((k : Int) - 1) = (k : Int) - 1 := by unfold wrap64; omega
        have i5 : (0 : Int) < (k : Int) := by omega
        have i6 : 0 < k := by omega
        by_cases h3 : x ≤ y
        · go_wp2_with fail
          go_ret
          have hr : setBad l k = 10 := by rw [HK.out, if_neg HX.out, if_pos ⟨by omega, h3⟩]
          exact ⟨ret_int (by rw [HF.out, firstNZ_at hlt hd.out (by rw [hr]; decide), hr]), rfl⟩
        · have HY := Lib.hid h3
          go_wp2_with fail
          go_round
          case rel => exact ⟨k + 1, by omega, by clear i4; go_num, fun j hj => by
            by_cases e : j = k
            · subst e; rw [HK.out, if_neg HX.out, if_neg (fun q => HY.out q.2)]
            · exact hd.out j (by omega)⟩
          case measure => clear i4; simp [intOf]; omega
    · obtain rfl : k = l.length := by omega
      clear hlt
      go_wp2_with fail
      go_ret
      exact ⟨ret_int (by rw [HF.out, firstNZ_zero hd.out]), rfl⟩
theorem has1_t (S : Nat → Prop) (w : World) (b : Nat) (v : Value) (l : List Int) (k : Int) (hb : w.cell? ⟨b, 0, none⟩ = some v) (h : IntsAt S w v l) (hn : l.length ≤ 1000000) (ha : l.Pairwise (· < ·)) :
    Calls Tryz.prog 194 #[.int .i64 k, .pointer (some ⟨b, 0, none⟩)] w fun e w' => e = .returned (.bool (l.contains k)) ∧ ∃ q, w' = w.drewN q := by
  have HB : Hid (Calls Tryz.prog 195 #[v, .int .i64 k] w fun e w' => (∃ c : Int, e = .returned (.tuple #[.int .i64 c, .bool (l.contains k)])) ∧ ∃ q, w' = w.drewN q) := by
    obtain ⟨p, cap, rfl, hcap, hc⟩ := SlAt.open h
    by_cases h0 : l = []
    · subst h0
      refine (Any.slices_BinarySearch_int_empty Tryz.bsI p cap k w).mono ?_
      rintro e w' ⟨rfl, rfl⟩
      exact ⟨⟨_, rfl⟩, 0, rfl⟩
    · have hl : 0 < l.length := List.length_pos_iff.2 h0
      obtain ⟨g, off, rfl, _⟩ := hc 0 hl
      refine (Any.slices_BinarySearch_int Tryz.bsI g off l.length cap l k w (Nat.le_refl _) (by omega) (fun j hj => ?_) (by rw [List.take_length]; exact ha.imp fun h => Int.le_of_lt h)).mono ?_
      · obtain ⟨g', off', e, hc'⟩ := hc j hj
        cases e
        exact hc'
      · rintro e w' ⟨rfl, q, rfl⟩
        rw [List.take_length]
        exact ⟨⟨_, rfl⟩, q, rfl⟩
  obtain ⟨p, cap, rfl, -, -⟩ := SlAt.open h
  clear h ha
  go_enter Tryz.func194, Tryz.ntmps194
  go_wp2_with fail
  refine HB.out.mono ?_
  rintro e w' ⟨⟨c, rfl⟩, q, rfl⟩
  go_wp2_with fail
  go_ret
  exact ⟨ret_bool (by simp), q, rfl⟩
theorem has_t (w : World) (p : Option Addr) (n c : Nat) : Calls Tryz.prog 152 #[.slice p n c] w fun e w' => e = .returned (.func (.func 194) #[] #[.pointer (some ⟨w.heap.size, 0, none⟩)]) ∧ w' = w.alloc (.cells #[.slice p n c] 26) := by
  go_enter Tryz.func152, Tryz.ntmps152
  go_wp2_with fail
  go_ret
  exact ⟨rfl, rfl⟩
set_option maxRecDepth 100000 in
set_option maxHeartbeats 1000000 in
theorem splCheck_t (S : Nat → Prop) (w : World) (v : Value) (n : Int) (l : List Int) (h : IntsAt S w v l) (hn : l.length ≤ 1000000) :
    Calls Tryz.prog 59 #[.int .i64 n, v] w fun e w' => e = .returned (.int .i64 (splErr n l)) ∧ w = w' := by
  have HF : Hid (splErr n l = if n < 1 ∨ 32 < n then 2 else if setErr l ≠ 0 then setErr l else if 0 < l.length ∧ (gi l 0 = 0 ∨ n ≤ gi l (l.length - 1)) then 2 else if (l.length : Int) < 2 ∨ n - 2 < l.length then 8 else 0) := rfl
  have HC := Lib.hid (setCheck_t S w v l h hn)
  obtain ⟨p, cap, rfl, -, -⟩ := SlAt.open h
  have H : Hid (IntsAt S w (.slice p l.length cap) l) := h
  clear h
  by_cases h1 : n < 1
  · go_enter Tryz.func59, Tryz.ntmps59
    go_wp2_with fail
    go_ret
    exact ⟨ret_int (by rw [HF.out, if_pos (.inl h1)]), rfl⟩
  by_cases h2 : 32 < n
  · go_enter Tryz.func59, Tryz.ntmps59
    go_wp2_with fail
    go_ret
    exact ⟨ret_int (by rw [HF.out, if_pos (.inr h2)]), rfl⟩
  have HN : Hid (¬ (n < 1 ∨ 32 < n)) := by unfold Hid; omega
  generalize hse : setErr l = se at *
  by_cases h3 : se = 0
  · have HSE : Hid (¬ se ≠ 0) := fun e => e h3
    subst h3
    have hm2 : wrap64 (n - 2) = n - 2 := by unfold wrap64; omega
    by_cases h0 : l.length = 0
    · have h00 : ((l.length : Int) < 2) := by omega
      have h01 : ¬ (0 : Int) < (l.length : Int) := by omega
      have h02 : ¬ 0 < l.length := by omega
      clear h0
      go_enter Tryz.func59, Tryz.ntmps59
      go_wp2_with fail
      refine HC.out.mono ?_
      rintro e w' ⟨rfl, rfl⟩
      go_wp2_with fail
      go_ret
      exact ⟨ret_int (by rw [HF.out, if_neg HN.out, if_neg HSE.out, if_neg (by omega), if_pos (.inl h00)]), rfl⟩
    · obtain ⟨b, off, rfl, hc⟩ := ints_get H.out (show 0 < l.length by omega)
      obtain ⟨b2, off2, e2, hd⟩ := ints_get H.out (show l.length - 1 < l.length by omega)
      cases e2
      rw [Nat.add_zero] at hc
      have i0 : 0 < l.length := by omega
      have i00 : (0 : Int) < (l.length : Int) := by omega
      have i1 : (0 : Int) ≤ (l.length : Int) - 1 := by omega
      have i2 : (l.length : Int) - 1 < (l.length : Int) := by omega
      have i3 : ((l.length : Int) - 1).toNat = l.length - 1 := by omega
      have i4 : wrap64 ((l.length : Int) - 1) = (l.length : Int) - 1 := by unfold wrap64; omega
      generalize gi l 0 = x at *
      generalize gi l (l.length - 1) = y at *
      by_cases h4 : x = 0
      · subst h4
        go_enter Tryz.func59, Tryz.ntmps59
        go_wp2_with fail
        refine HC.out.mono ?_
        rintro e w' ⟨rfl, rfl⟩
        go_wp2_with fail
        go_ret
        exact ⟨ret_int (by rw [HF.out, if_neg HN.out, if_neg HSE.out, if_pos ⟨i0, .inl (by simp)⟩]), rfl⟩
      have h4b : (x == 0) = false := by simpa using h4
      by_cases h5 : n ≤ y
      · go_enter Tryz.func59, Tryz.ntmps59
        go_wp2_with fail
        refine HC.out.mono ?_
        rintro e w' ⟨rfl, rfl⟩
        go_wp2_with fail
        go_ret
        exact ⟨ret_int (by rw [HF.out, if_neg HN.out, if_neg HSE.out, if_pos ⟨i0, .inr h5⟩]), rfl⟩
      have HQ : Hid (¬ (0 < l.length ∧ (x = 0 ∨ n ≤ y))) := fun e => by
        rcases e.2 with e | e
        · exact h4 e
        · exact h5 e
      by_cases h6 : (l.length : Int) < 2
      · go_enter Tryz.func59, Tryz.ntmps59
        go_wp2_with fail
        refine HC.out.mono ?_
        rintro e w' ⟨rfl, rfl⟩
        go_wp2_with fail
        go_ret
        exact ⟨ret_int (by rw [HF.out, if_neg HN.out, if_neg HSE.out, if_neg HQ.out, if_pos (.inl h6)]), rfl⟩
      by_cases h7 : n - 2 < (l.length : Int)
      · go_enter Tryz.func59, Tryz.ntmps59
        go_wp2_with fail
        refine HC.out.mono ?_
        rintro e w' ⟨rfl, rfl⟩
        go_wp2_with fail
        go_ret
        exact ⟨ret_int (by rw [HF.out, if_neg HN.out, if_neg HSE.out, if_neg HQ.out, if_pos (.inr h7)]), rfl⟩
      · go_enter Tryz.func59, Tryz.ntmps59
        go_wp2_with fail
        refine HC.out.mono ?_
        rintro e w' ⟨rfl, rfl⟩
        go_wp2_with fail
        go_ret
        exact ⟨ret_int (by rw [HF.out, if_neg HN.out, if_neg HSE.out, if_neg HQ.out, if_neg (by omega)]), rfl⟩
  · have hsb : (se == 0) = false := by simpa using h3
    have hsc : (se != 0) = true := by simpa using h3
    go_enter Tryz.func59, Tryz.ntmps59
    go_wp2_with fail
    refine HC.out.mono ?_
    rintro e w' ⟨rfl, rfl⟩
    go_wp2_with fail
    go_ret
    exact ⟨ret_int (by rw [HF.out, if_neg HN.out, if_pos h3]), rfl⟩
end Go.Proofs.YtcbmbhghmfehpaaGreat
