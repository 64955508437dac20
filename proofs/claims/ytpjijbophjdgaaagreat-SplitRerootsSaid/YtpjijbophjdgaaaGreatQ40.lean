/- Between two rounds of slices.AppendSeq at ints: cut out of V1. The contract of slices.BinarySearch at ints: the laying. Package intset: Check, the membership function; split.Check. Package intset: the iterator members; slices.AppendSeq and Collect over any iterator of ints. -/
import Derived.RangeFuncWrites
import Derived.Test.YtpjijbophjdgaaaGreatQ3
import Derived.Test.YtpjijbophjdgaaaGreatQ4
import Derived.Laws.EntriesVeiled
import Derived.Shelf.SlGeneric
import Derived.Shelf.Slices.SearchI
import Derived.Ground.Names2Prog
import Derived.Test.YtpjijbophjdgaaaGreatProg
import Derived.Shelf.Slices.Empties
import Derived.Test.YtpjijbophjdgaaaGreatQ2
import Derived.Test.YtpjijbophjdgaaaGreatQ31
namespace Go.Proofs.YtpjijbophjdgaaaGreat
open Go.RowKit Go.Shelf Go.Deep
attribute [local go_sem] Oper.semAt_some
theorem Owns.sameZ {base : Nat} {e : TypeId} {w w' : World} {v : Value} {vs : List Value} (h : Owns base e w v vs) (k : ∀ b, v.ownBlock = some b → w'.heap[b]? = w.heap[b]?) : Owns base e w' v vs := by
  obtain ⟨hl, h | ⟨g, cap, cur, rfl, hg, hc, hr⟩⟩ := h
  · exact ⟨hl, .inl h⟩
  · exact ⟨hl, .inr ⟨g, cap, cur, rfl, hg, by rw [k g rfl]; exact hc, hr⟩⟩
theorem Owns.mono_baseZ {base base' : Nat} {e : TypeId} {w : World} {v : Value} {vs : List Value} (h : Owns base e w v vs) (hb : base' ≤ base) : Owns base' e w v vs := by
  obtain ⟨hl, h | ⟨g, cap, cur, rfl, hg, hc, hr⟩⟩ := h
  · exact ⟨hl, .inl h⟩
  · exact ⟨hl, .inr ⟨g, cap, cur, rfl, Nat.le_trans hb hg, hc, hr⟩⟩
theorem Owns.typedV {base : Nat} {e : TypeId} {w : World} {v : Value} {vs : List Value} (h : Owns base e w v vs) {b : Nat} (hb : v.ownBlock = some b) : ∃ c, w.heap[b]? = some (Obj.cells c e (0, 0)) := by
  obtain ⟨_, ⟨rfl, _⟩ | ⟨g, cap, cur, rfl, _, hc, _⟩⟩ := h
  · cases hb
  · injection hb with hb; subst hb; exact ⟨cur, hc⟩

def AqI (w0 : World) (pre : List Int) (W : World) : Prop := Below w0.heap.size w0 W ∧ w0.heap.size + 1 ≤ W.heap.size ∧ ∃ v, W.heap[w0.heap.size]? = some (Obj.cells #[v] 26 (0, 0)) ∧ Owns (w0.heap.size + 1) 3 W v (pre.map (Value.int .i64))
theorem AqI.own (w0 : World) {B : Nat} (hB : w0.heap.size + 1 ≤ B) : OwnFrom B (AqI w0) := by
  rintro s X Y row ⟨hb, hsz, v, hbox, hown⟩ hg hr
  have hcell : ∀ (b : Nat) (c : Array Value) (e : TypeId) (z : Nat × Nat), X.heap[b]? = some (Obj.cells c e z) → Y.heap[b]? = X.heap[b]? := fun b c e z hc => hg.block b (Array.getElem?_eq_some_iff.1 hc).1 (fun e2 => by
    obtain ⟨_, o, h1, h2⟩ := hr b e2.symm
    rw [hc] at h1; injection h1 with h1; subst h1; cases h2)
  refine ⟨⟨hg.os.trans hb.os, hg.tape.trans hb.tape, hg.output.trans hb.output, Nat.le_trans hb.size hg.size, fun b hb2 => (hg.block b (by have := hb.size; omega) (fun e => by obtain ⟨h1, _⟩ := hr b e.symm; omega)).trans (hb.block b hb2)⟩, Nat.le_trans hsz hg.size, v, (hcell _ _ _ _ hbox).trans hbox, hown.sameZ fun b hb2 => ?_⟩
  obtain ⟨c, hc⟩ := hown.typedV hb2
  exact hcell _ _ _ _ hc
end Go.Proofs.YtpjijbophjdgaaaGreat
namespace Go.Proofs.YtpjijbophjdgaaaGreat
open Go.RowKit Go.Shelf Go.Deep
def AqPost (w : World) (xs : List Int) (e : Ending) (w' : World) : Prop := Up w w' ∧ ∃ v, e = .returned v ∧ Owns w.heap.size 3 w' v (xs.map (Value.int .i64))
theorem AqI.next {w W We : World} {pre : List Int} {x : Int} {v v' : Value} (hbw : Below w.heap.size w W) (hsz : w.heap.size + 1 ≤ W.heap.size) (hbox : W.heap[w.heap.size]? = some (Obj.cells #[v] 26 (0, 0))) (hown : Owns (w.heap.size + 1) 3 W v (pre.map (Value.int .i64)))
    (ho : Owns (w.heap.size + 1) 3 We v' (pre.map (Value.int .i64) ++ [.int .i64 x])) (hg : (W.alloc (.cells #[.int .i64 x] 3)).grownBy We v.ownBlock) :
    KeepsFrom (w.heap.size + 1) W (We.setCell ⟨w.heap.size, 0, none⟩ v') ∧ KS (· < w.heap.size) W (We.setCell ⟨w.heap.size, 0, none⟩ v') ∧ AqI w (pre ++ [x]) (We.setCell ⟨w.heap.size, 0, none⟩ v') := by
  have hset : ∀ b, b ≠ w.heap.size → (We.setCell ⟨w.heap.size, 0, none⟩ v').heap[b]? = We.heap[b]? := fun b hb => blk_setCell_other _ _ _ _ hb
  have hszs : (We.setCell ⟨w.heap.size, 0, none⟩ v').heap.size = We.heap.size := by simp [World.size_setCell]
  have hga : ∀ b, b < W.heap.size → some b ≠ v.ownBlock → We.heap[b]? = W.heap[b]? := fun b hb hne => (hg.block b (by rw [World.size_alloc]; exact Nat.lt_succ_of_lt hb) hne).trans (Below.heap_alloc W _ b hb)
  have hsize : W.heap.size + 1 ≤ We.heap.size := by have h := hg.size; rw [World.size_alloc] at h; exact h
  have hlow : ∀ b, b < w.heap.size + 1 → We.heap[b]? = W.heap[b]? := fun b hb => hga b (by omega) (fun e => by have := (ownBlock_lt hown e.symm).1; omega)
  have hbe := (hlow w.heap.size (Nat.lt_succ_self _)).trans hbox
  refine ⟨⟨by omega, fun k o hk ho2 hc => ?_⟩, fun b (hb : b < w.heap.size) => (hset b (by omega)).trans (hlow b (by omega)), ⟨hg.os.trans hbw.os, hg.tape.trans hbw.tape, hg.output.trans hbw.output, by omega, fun b hb => ((hset b (by omega)).trans (hlow b (by omega))).trans (hbw.block b hb)⟩, by omega, v', ?_, ?_⟩
  · have hkl : k < W.heap.size := (Array.getElem?_eq_some_iff.1 ho2).1
    rw [hset k (by omega), hga k hkl (fun e => by
      obtain ⟨c, h⟩ := hown.typedV e.symm
      rw [ho2] at h; injection h with h; subst h; cases hc)]
    exact ho2
  · simp [World.setCell, Array.getElem?_modify, hbe]
  · rw [List.map_append]
    exact ho.sameZ fun b hb => hset b (by have := (ownBlock_lt ho hb).1; omega)
end Go.Proofs.YtpjijbophjdgaaaGreat
namespace Go.Proofs
open Go.Shelf
def Tryz.bsI_ren : Go.Shelf.Ren := ⟨fun | 25 => 194 | 31 => 226 | 32 => 229 | 37 => 159 | n => n, fun | 22 => 26 | 3 => 3 | 4 => 4 | 40 => 106 | 0 => 0 | n => n, fun | n => n⟩
theorem Tryz.bsI : Go.Proofs.Lays2.n25 Tryz.prog Tryz.bsI_ren := {
  mixed := by kernel_rfl
  f25 := Tryz.func194.trans (congrArg some (by kernel_rfl))
  f31 := Tryz.func226.trans (congrArg some (by kernel_rfl))
  f32 := Tryz.func229.trans (congrArg some (by kernel_rfl))
  f37 := Tryz.func159.trans (congrArg some (by kernel_rfl))
  t0 := Tryz.underlying0
  a0 := Tryz.isAgg0
  z0 := Tryz.sizeOf0
  v0 := Tryz.zeroValue0
  t3 := Tryz.underlying3
  a3 := Tryz.isAgg3
  z3 := Tryz.sizeOf3
  v3 := Tryz.zeroValue3
  t4 := Tryz.underlying4
  a4 := Tryz.isAgg4
  z4 := Tryz.sizeOf4
  v4 := Tryz.zeroValue4
  t22 := Tryz.underlying26
  a22 := Tryz.isAgg26
  z22 := Tryz.sizeOf26
  v22 := Tryz.zeroValue26
  t40 := Tryz.underlying106
  a40 := Tryz.isAgg106
  z40 := Tryz.sizeOf106
  v40 := Tryz.zeroValue106 }
end Go.Proofs
namespace Go.Proofs.YtpjijbophjdgaaaGreat
open Go.RowKit Go.Deep
set_option maxRecDepth 100000 in
set_option maxHeartbeats 1000000 in
theorem setCheck_t (S : Nat → Prop) (w : World) (v : Value) (l : List Int) (h : IntsAt S w v l) (hn : l.length ≤ 1000000) :
    Calls Tryz.prog 142 #[v] w fun e w' => e = .returned (.int .i64 (setErr l)) ∧ w = w' := by
  have HF : Hid (setErr l = firstNZ (setBad l) l.length) := rfl
  have HB : Hid (∀ i, setBad l i = if gi l i < 0 ∨ 63 < gi l i then 2 else if 0 < i ∧ gi l i ≤ gi l (i - 1) then 10 else 0) := fun _ => rfl
  obtain ⟨p, cap, rfl, -, -⟩ := SlAt.open h
  have H : Hid (IntsAt S w (.slice p l.length cap) l) := h
  clear h
  go_enter Tryz.func142, Tryz.ntmps142
  go_wp2_with fail
  go_loop [3, 4, 7] (fun _ _ i => ∃ k : Nat, k ≤ l.length ∧ i = .int .i64 k ∧ Hid (∀ j, j < k → setBad l j = 0)) (fun _ _ i => l.length - (intOf i).toNat)
  case atStart => exact ⟨0, Nat.zero_le _, rfl, fun j hj => absurd hj (Nat.not_lt_zero _)⟩
  case round =>
    obtain ⟨k, hk, rfl, hd⟩ := hrel
    by_cases hlt : k < l.length
    · obtain ⟨b, off, rfl, hc⟩ := ints_get H.out hlt
      have HK := Lib.hid (HB.out k)
      have HP : Hid (0 < k → w.cell? ⟨b, off + (k - 1), none⟩ = some (.int .i64 (gi l (k - 1)))) := fun h0 => by
        obtain ⟨b2, off2, e, hc2⟩ := ints_get H.out (k := k - 1) (by omega)
        cases e; exact hc2
      generalize gi l k = x at *
      generalize gi l (k - 1) = y at *
      by_cases h1 : x < 0
      · go_wp2_with fail
        go_ret
        have hr : setBad l k = 2 := by rw [HK.out, if_pos (.inl h1)]
        exact ⟨ret_int (by rw [HF.out, firstNZ_at hlt hd.out (by rw [hr]; decide), hr]), rfl⟩
      by_cases h2 : 63 < x
      · go_wp2_with fail
        go_ret
        have hr : setBad l k = 2 := by rw [HK.out, if_pos (.inr h2)]
        exact ⟨ret_int (by rw [HF.out, firstNZ_at hlt hd.out (by rw [hr]; decide), hr]), rfl⟩
      have HX : Hid (¬ (x < 0 ∨ 63 < x)) := by unfold Hid; omega
      by_cases h0 : k = 0
      · subst h0
        rw [Nat.add_zero] at hc
        go_wp2_with fail
        go_round
        case rel => exact ⟨1, by omega, by go_num, fun j hj => by
          have : j = 0 := by omega
          subst this; rw [HK.out, if_neg HX.out, if_neg (by omega)]⟩
        case measure => simp [intOf]; omega
      · have hcp := HP.out (by omega)
        have i1 : (0 : Int) ≤ (k : Int) - 1 := by omega
        have i2 : (k : Int) - 1 < (l.length : Int) := by omega
        have i3 : ((k : Int) - 1).toNat = k - 1 := by omega
        have i4 : wrap64 ((k : Int) - 1) = (k : Int) - 1 := by unfold wrap64; omega
        have i5 : (0 : Int) < (k : Int) := by omega
        have i6 : 0 < k := by omega
        by_cases h3 : x ≤ y
        · go_wp2_with fail
          go_ret
          have hr : setBad l k = 10 := by rw [HK.out, if_neg HX.out, if_pos ⟨by omega, h3⟩]
          exact ⟨ret_int (by rw [HF.out, firstNZ_at hlt hd.out (by rw [hr]; decide), hr]), rfl⟩
        · have HY := Lib.hid h3
          go_wp2_with fail
          go_round
          case rel => exact ⟨k + 1, by omega, by clear i4; go_num, fun j hj => by
            by_cases e : j = k
            · subst e; rw [HK.out, if_neg HX.out, if_neg (fun q => HY.out q.2)]
            · exact hd.out j (by omega)⟩
          case measure => clear i4; simp [intOf]; omega
    · obtain rfl : k = l.length := by omega
      clear hlt
      go_wp2_with fail
      go_ret
      exact ⟨ret_int (by rw [HF.out, firstNZ_zero hd.out]), rfl⟩
theorem has1_t (S : Nat → Prop) (w : World) (b : Nat) (v : Value) (l : List Int) (k : Int) (hb : w.cell? ⟨b, 0, none⟩ = some v) (h : IntsAt S w v l) (hn : l.length ≤ 1000000) (ha : l.Pairwise (· < ·)) :
    Calls Tryz.prog 193 #[.int .i64 k, .pointer (some ⟨b, 0, none⟩)] w fun e w' => e = .returned (.bool (l.contains k)) ∧ ∃ q, w' = w.drewN q := by
  have HB : Hid (Calls Tryz.prog 194 #[v, .int .i64 k] w fun e w' => (∃ c : Int, e = .returned (.tuple #[.int .i64 c, .bool (l.contains k)])) ∧ ∃ q, w' = w.drewN q) := by
    obtain ⟨p, cap, rfl, hcap, hc⟩ := SlAt.open h
    by_cases h0 : l = []
    · subst h0
      refine (Any.slices_BinarySearch_int_empty Tryz.bsI p cap k w).mono ?_
      rintro e w' ⟨rfl, rfl⟩
      exact ⟨⟨_, rfl⟩, 0, rfl⟩
    · have hl : 0 < l.length := List.length_pos_iff.2 h0
      obtain ⟨g, off, rfl, _⟩ := hc 0 hl
      refine (Any.slices_BinarySearch_int Tryz.bsI g off l.length cap l k w (Nat.le_refl _) (by omega) (fun j hj => ?_) (by rw [List.take_length]; exact ha.imp fun h => Int.le_of_lt h)).mono ?_
      · obtain ⟨g', off', e, hc'⟩ := hc j hj
        cases e
        exact hc'
      · rintro e w' ⟨rfl, q, rfl⟩
        rw [List.take_length]
        exact ⟨⟨_, rfl⟩, q, rfl⟩
  obtain ⟨p, cap, rfl, -, -⟩ := SlAt.open h
  clear h ha
  go_enter Tryz.func193, Tryz.ntmps193
  go_wp2_with fail
  refine HB.out.mono ?_
  rintro e w' ⟨⟨c, rfl⟩, q, rfl⟩
  go_wp2_with fail
  go_ret
  exact ⟨ret_bool (by simp), q, rfl⟩
theorem has_t (w : World) (p : Option Addr) (n c : Nat) : Calls Tryz.prog 155 #[.slice p n c] w fun e w' => e = .returned (.func (.func 193) #[] #[.pointer (some ⟨w.heap.size, 0, none⟩)]) ∧ w' = w.alloc (.cells #[.slice p n c] 26) := by
  go_enter Tryz.func155, Tryz.ntmps155
  go_wp2_with fail
  go_ret
  exact ⟨rfl, rfl⟩
set_option maxRecDepth 100000 in
set_option maxHeartbeats 1000000 in
theorem splCheck_t (S : Nat → Prop) (w : World) (v : Value) (n : Int) (l : List Int) (h : IntsAt S w v l) (hn : l.length ≤ 1000000) :
    Calls Tryz.prog 71 #[.int .i64 n, v] w fun e w' => e = .returned (.int .i64 (splErr n l)) ∧ w = w' := by
  have HF : Hid (splErr n l = if n < 1 ∨ 32 < n then 2 else if setErr l ≠ 0 then setErr l else if 0 < l.length ∧ (gi l 0 = 0 ∨ n ≤ gi l (l.length - 1)) then 2 else if (l.length : Int) < 2 ∨ n - 2 < l.length then 8 else 0) := rfl
  have HC := Lib.hid (setCheck_t S w v l h hn)
  obtain ⟨p, cap, rfl, -, -⟩ := SlAt.open h
  have H : Hid (IntsAt S w (.slice p l.length cap) l) := h
  clear h
  by_cases h1 : n < 1
  · go_enter Tryz.func71, Tryz.ntmps71
    go_wp2_with fail
    go_ret
    exact ⟨ret_int (by rw [HF.out, if_pos (.inl h1)]), rfl⟩
  by_cases h2 : 32 < n
  · go_enter Tryz.func71, Tryz.ntmps71
    go_wp2_with fail
    go_ret
    exact ⟨ret_int (by rw [HF.out, if_pos (.inr h2)]), rfl⟩
  have HN : Hid (¬ (n < 1 ∨ 32 < n)) := by unfold Hid; omega
  generalize hse : setErr l = se at *
  by_cases h3 : se = 0
  · have HSE : Hid (¬ se ≠ 0) := fun e => e h3
    subst h3
    have hm2 : wrap64 (n - 2) = n - 2 := by unfold wrap64; omega
    by_cases h0 : l.length = 0
    · have h00 : ((l.length : Int) < 2) := by omega
      have h01 : ¬ (0 : Int) < (l.length : Int) := by omega
      have h02 : ¬ 0 < l.length := by omega
      clear h0
      go_enter Tryz.func71, Tryz.ntmps71
      go_wp2_with fail
      refine HC.out.mono ?_
      rintro e w' ⟨rfl, rfl⟩
      go_wp2_with fail
      go_ret
      exact ⟨ret_int (by rw [HF.out, if_neg HN.out, if_neg HSE.out, if_neg (by omega), if_pos (.inl h00)]), rfl⟩
    · obtain ⟨b, off, rfl, hc⟩ := ints_get H.out (show 0 < l.length by omega)
      obtain ⟨b2, off2, e2, hd⟩ := ints_get H.out (show l.length - 1 < l.length by omega)
      cases e2
      rw [Nat.add_zero] at hc
      have i0 : 0 < l.length := by omega
      have i00 : (0 : Int) < (l.length : Int) := by omega
      have i1 : (0 : Int) ≤ (l.length : Int) - 1 := by omega
      have i2 : (l.length : Int) - 1 < (l.length : Int) := by omega
      have i3 : ((l.length : Int) - 1).toNat = l.length - 1 := by omega
      have i4 : wrap64 ((l.length : Int) - 1) = (l.length : Int) - 1 := by unfold wrap64; omega
      generalize gi l 0 = x at *
      generalize gi l (l.length - 1) = y at *
      by_cases h4 : x = 0
      · subst h4
        go_enter Tryz.func71, Tryz.ntmps71
        go_wp2_with fail
        refine HC.out.mono ?_
        rintro e w' ⟨rfl, rfl⟩
        go_wp2_with fail
        go_ret
        exact ⟨ret_int (by rw [HF.out, if_neg HN.out, if_neg HSE.out, if_pos ⟨i0, .inl (by simp)⟩]), rfl⟩
      have h4b : (x == 0) = false := by simpa using h4
      by_cases h5 : n ≤ y
      · go_enter Tryz.func71, Tryz.ntmps71
        go_wp2_with fail
        refine HC.out.mono ?_
        rintro e w' ⟨rfl, rfl⟩
        go_wp2_with fail
        go_ret
        exact ⟨ret_int (by rw [HF.out, if_neg HN.out, if_neg HSE.out, if_pos ⟨i0, .inr h5⟩]), rfl⟩
      have HQ : Hid (¬ (0 < l.length ∧ (x = 0 ∨ n ≤ y))) := fun e => by
        rcases e.2 with e | e
        · exact h4 e
        · exact h5 e
      by_cases h6 : (l.length : Int) < 2
      · go_enter Tryz.func71, Tryz.ntmps71
        go_wp2_with fail
        refine HC.out.mono ?_
        rintro e w' ⟨rfl, rfl⟩
        go_wp2_with fail
        go_ret
        exact ⟨ret_int (by rw [HF.out, if_neg HN.out, if_neg HSE.out, if_neg HQ.out, if_pos (.inl h6)]), rfl⟩
      by_cases h7 : n - 2 < (l.length : Int)
      · go_enter Tryz.func71, Tryz.ntmps71
        go_wp2_with fail
        refine HC.out.mono ?_
        rintro e w' ⟨rfl, rfl⟩
        go_wp2_with fail
        go_ret
        exact ⟨ret_int (by rw [HF.out, if_neg HN.out, if_neg HSE.out, if_neg HQ.out, if_pos (.inr h7)]), rfl⟩
      · go_enter Tryz.func71, Tryz.ntmps71
        go_wp2_with fail
        refine HC.out.mono ?_
        rintro e w' ⟨rfl, rfl⟩
        go_wp2_with fail
        go_ret
        exact ⟨ret_int (by rw [HF.out, if_neg HN.out, if_neg HSE.out, if_neg HQ.out, if_neg (by omega)]), rfl⟩
  · have hsb : (se == 0) = false := by simpa using h3
    have hsc : (se != 0) = true := by simpa using h3
    go_enter Tryz.func71, Tryz.ntmps71
    go_wp2_with fail
    refine HC.out.mono ?_
    rintro e w' ⟨rfl, rfl⟩
    go_wp2_with fail
    go_ret
    exact ⟨ret_int (by rw [HF.out, if_neg HN.out, if_pos h3]), rfl⟩
end Go.Proofs.YtpjijbophjdgaaaGreat
namespace Go.Proofs.YtpjijbophjdgaaaGreat
open Go.RowKit Go.Shelf Go.Deep
attribute [local go_sem] Oper.semAt_some
theorem memK_pre (p : Int → Bool) (k : Nat) : ∀ {N : Nat}, k ≤ N → memK p k <+: memK p N
  | 0, h => by rw [show k = 0 by omega]; exact List.prefix_refl _
  | N + 1, h => by
    by_cases e : k = N + 1
    · rw [e]; exact List.prefix_refl _
    · refine (memK_pre p k (N := N) (by omega)).trans ?_
      rw [memK_succ]; exact List.prefix_append _ _
set_option maxRecDepth 100000 in
set_option maxHeartbeats 1000000 in
theorem members1_in (n l B1 B2 : Nat) (T : Nat → Prop) (N : Nat) (hN : N ≤ 64) (p : Int → Bool) (gf : Nat) (lbf : Array Value) (eg : ∀ args w, (callFunc gf args).run Tryz.prog w = .ok (.enter gf args) w) (J Jx : List Int → World → Prop)
    (hY : ∀ pre x W, J pre W → pre.length < (memK p N).length → YieldAt Fence.wide (n - 1) Tryz.prog l #[.int .i64 x] W fun e W' =>
      (e = .returned (.bool true) ∧ J (pre ++ [x]) W' ∧ KS T W W') ∨ (e = .returned (.bool false) ∧ Jx (pre ++ [x]) W'))
    (W : World) (hJa : AbidesFrom W.heap.size J) (hc1 : W.cell? ⟨B1, 0, none⟩ = some (.int .i64 (N : Int))) (hc2 : W.cell? ⟨B2, 0, none⟩ = some (.func (.func gf) #[] lbf)) (_ : T B1) (hT2 : T B2)
    (hIs : ∀ k : Nat, k < N → ∀ W', KS T W W' → CallsIn Fence.wide (n - 1) Tryz.prog gf (#[.int .i64 k] ++ lbf) W' fun e w' => e = .returned (.bool (p k)) ∧ ∃ q, w' = W'.drewN q) (h0 : J [] W) :
    CallsIn Fence.wide n Tryz.prog 196 #[.func (.yield l) #[] #[], .pointer (some ⟨B1, 0, none⟩), .pointer (some ⟨B2, 0, none⟩)] W fun e W' => (∃ v, e = .returned v) ∧ (J (memK p N) W' ∨ ∃ pre, pre <+: memK p N ∧ Jx pre W') := by
  have HJA := Lib.hid hJa
  have HY := Lib.hid hY
  have HIS := Lib.hid hIs
  have HC2 := Lib.hid hc2
  clear hJa hY hIs
  refine callsIn_of_wp Tryz.func196 rfl trivial ?_ rfl
  simp only [Tryz.ntmps196, List.size_toArray, List.length_cons, List.length_nil, Nat.reduceAdd, Nat.reduceSub, Array.replicate_succ, Array.replicate_zero, List.push_toArray, List.append_toArray, List.nil_append, List.cons_append]
  gi_wp2
  clear hc1 hc2
  gi_loopw [4, 6] (fun _ i wr => ∃ (k : Nat), k ≤ N ∧ i = .int .i64 k ∧ Hid (J (memK p k) wr) ∧ Hid (KS T W wr)) (fun _ i _ => N - (intOf i).toNat)
  case atStart => exact ⟨0, Nat.zero_le _, rfl, h0, KS.refl _ _⟩
  case round =>
    obtain ⟨k, hk, rfl, hJ, hbr⟩ := hrel
    by_cases hlt : k < N
    · have hc2 := (hbr.out.cell (p := ⟨B2, 0, none⟩) hT2).trans HC2.out
      have HCALL := Lib.hid (HIS.out k hlt wr hbr.out)
      have HS := Lib.hid (memK_succ p k)
      have HPL : Hid (p k = true → (memK p k).length < (memK p N).length) := fun e => by
        have h1 := (memK_pre p (k + 1) (N := N) (by omega)).length_le
        rw [memK_succ, if_pos e, List.length_append] at h1
        simp at h1; omega
      have hfn : Fence.wide.fn gf := trivial
      have k1 : (k : Int) < 64 := by omega
      gi_wp2
      refine ⟨fun h => (by cases h), ?_⟩
      refine HCALL.out.mono ?_
      rintro e W2 ⟨rfl, q, rfl⟩
      have hJ2 : Hid (J (memK p k) (wr.drewN q)) := HJA.out _ wr _ none hJ.out ⟨rfl, rfl, rfl, Nat.le_refl _, fun _ _ _ => rfl⟩ (fun r e => by cases e)
      have hb2 : Hid (KS T W (wr.drewN q)) := hbr.out.drewN q
      clear hc2 HCALL
      cases hp : p k
      · have HS2 : Hid (memK p (k + 1) = memK p k) := by unfold Hid; rw [HS.out, hp]; simp
        clear hp
        gi_wp2
        rename_i hkk _ _ _ _
        refine ⟨fun f h => (by cases h), hkk _ _ ?_⟩
        gi_wp2
        go_roundw
        case rel => exact ⟨k + 1, hlt, by go_num, by rw [HS2.out]; exact hJ2, hb2⟩
        case measure => simp [intOf]; omega
      · have HS2 : Hid (memK p (k + 1) = memK p k ++ [(k : Int)]) := by unfold Hid; rw [HS.out, hp]; simp
        obtain ⟨fn, tmps, assign, body, hy, hR⟩ := HY.out (memK p k) k (wr.drewN q) hJ2.out (HPL.out hp)
        clear hp
        gi_wp2
        refine ⟨fun h => (by cases h), ?_⟩
        refine hR.mono ?_
        rintro e W3 hor
        obtain ⟨bb, rfl, hq⟩ := round_or hor
        cases bb
        · have hq2 : Jx (memK p k ++ [(k : Int)]) W3 := by
            rcases hq.out with ⟨h1, _⟩ | h2
            · cases h1
            · exact h2.2
          gi_wp2
          refine bodyPost_ret (results_none rfl _ _ _) rfl ?_
          exact ⟨⟨_, rfl⟩, .inr ⟨_, by rw [← HS2.out]; exact memK_pre p (k + 1) (by omega), hq2⟩⟩
        · have hq2 : J (memK p k ++ [(k : Int)]) W3 ∧ KS T (wr.drewN q) W3 := by
            rcases hq.out with h2 | ⟨h1, _⟩
            · exact h2.2
            · cases h1
          gi_wp2
          go_roundw
          case rel => exact ⟨k + 1, hlt, by go_num, by rw [HS2.out]; exact hq2.1, hb2.out.trans hq2.2⟩
          case measure => simp [intOf]; omega
    · gi_wp2
      go_end0
      obtain rfl : k = N := by omega
      exact ⟨⟨_, rfl⟩, .inl hJ.out⟩
end Go.Proofs.YtpjijbophjdgaaaGreat
namespace Go.Proofs.YtpjijbophjdgaaaGreat
open Go.RowKit Go.Shelf Go.Deep
set_option maxRecDepth 100000 in
set_option maxHeartbeats 2000000 in
theorem appendSeqG_t (w : World) (g : Nat) (lb : Array Value) (eg : ∀ args w, (callFunc g args).run Tryz.prog w = .ok (.enter g args) w) (xs : List Int)
    (hseq : ∀ w6, Up w w6 → SeqStopsK Fence.wide 8 Tryz.prog g lb (fun x : Int => #[Value.int .i64 x]) (KS (· < w.heap.size)) (fun l => l = xs) (fun pre => pre <+: xs) xs.length w6) (hlen : xs.length ≤ 1000000) :
    Calls Tryz.prog 195 #[.slice none 0 0, .func (.func g) #[] lb] w (AqPost w xs) := by
  refine (callsIn_wide (n := 9)).1 ?_
  refine callsIn_of_wp_marks Tryz.func195 rfl trivial ?_
  simp only [Tryz.ntmps195, List.size_toArray, List.length_cons, List.length_nil, Nat.reduceAdd, Nat.reduceSub, Array.replicate_succ, Array.replicate_zero, List.push_toArray, List.append_toArray, List.nil_append, List.cons_append]
  gi_wp2_with fail
  have hu6 : Up w (w.alloc (.cells #[.slice none 0 0] 26)) := Up.alloc _ _
  have hz6 : (w.alloc (.cells #[.slice none 0 0] 26)).heap.size = w.heap.size + 1 := by simp
  have hx6 := World.alloc_heap_new w (.cells #[.slice none 0 0] 26)
  generalize w.alloc (.cells #[.slice none 0 0] 26) = w6 at *
  apply wpIn_rangeFunc_ownG (F := Fence.wide) (n := 9) (P := Tryz.prog) (ps := #[7]) (w := w6) rfl (by omega) (gf := g) (lb := lb) rfl trivial eg
    (hseq w6 hu6)
    (fun h k => KS.trans h k) (fun W l o o' hl ho hc _ => fun b (hb : b < w.heap.size) => World.putObj_heap_other (by omega)) (Below.refl _ _) (fun _ => (rfl : (1 : Nat) = 1))
    (AqI w) (fun _ _ _ => False)
  · exact AqI.own w (by omega)
  · exact fun _ _ _ _ _ h _ _ => h
  · exact ⟨hu6, by omega, _, hx6, Owns.nil _ _ _⟩
  · intro l x W K hK
    gi_wp2_with (rw [Oper.semAt_eq _ _ _ (fun c h => by cases h)]; go_simp; try go_bits)
    exact hK
  · rintro l pre x W ⟨hbw, hsz, v, hbox, hown⟩ hpl
    have hb0 : W.cell? ⟨w.heap.size, 0, none⟩ = some v := by simp [World.cell?, hbox]
    have hf0 : ∀ w', KS (· < w.heap.size + 1) W w' → w'.cell? ⟨w.heap.size, 0, none⟩ = some v ∧ ∀ o, w'.frozen? ⟨w.heap.size, o, none⟩ = false := fun w' hS => by
      have h1 := (hS w.heap.size (Nat.lt_succ_self _)).trans hbox
      exact ⟨by simp [World.cell?, h1], fun o => by simp [World.frozen?, h1]⟩
    have hpl2 : pre.length ≤ 1000000 := by omega
    clear hx6
    have HF0 := Lib.hid hf0
    have HNX : Hid (∀ We v', Owns (w.heap.size + 1) 3 We v' (pre.map (Value.int .i64) ++ [.int .i64 x]) → (W.alloc (.cells #[.int .i64 x] 3)).grownBy We v.ownBlock → KeepsFrom (w.heap.size + 1) W (We.setCell ⟨w.heap.size, 0, none⟩ v') ∧ KS (· < w.heap.size) W (We.setCell ⟨w.heap.size, 0, none⟩ v') ∧ AqI w (pre ++ [x]) (We.setCell ⟨w.heap.size, 0, none⟩ v')) :=
      fun We v' => AqI.next hbw hsz hbox hown
    have HLO : Hid (∀ We, (W.alloc (.cells #[.int .i64 x] 3)).grownBy We v.ownBlock → KS (· < w.heap.size + 1) W We) := fun We hg b (hb : b < w.heap.size + 1) => (hg.block b (by rw [World.size_alloc]; show b < W.heap.size + 1; omega) (fun e => by have := (ownBlock_lt hown e.symm).1; omega)).trans (Below.heap_alloc W _ b (by show b < W.heap.size; omega))
    obtain ⟨i0, hi, hz0, hz1, hz2⟩ := info_parts Tryz.infoI
    have how1 : W.ownsRow (w.heap.size + 1) 3 1 v pre.length (pre.map (Value.int .i64)) := by have h := hown; unfold Owns at h; rwa [List.length_map] at h
    obtain ⟨q1, q2⟩ := hf0 W (KS.refl _ _)
    clear hf0 hbw hbox hown hb0
    gi_wp2_with (first
      | (gi_at_builtin; refine wpListIn_append_own _ rfl _ _ 26 rfl (w.heap.size + 1) 3 i0 (.int .i64 0) 1 8 Tryz.underlying26 hi hz0 hz1 hz2 rfl (by decide) _ _ _ rfl (how1.alloc _) ⟨W.heap.size, 0, none⟩ 1 1 [.int .i64 x] rfl rfl (cell_one_new _ _ _) (by simp [Value.oneCell']) (by unfold maxLen; omega) (by omega) (by rw [World.size_alloc]; omega) ?_; intro v' w3 hown' hg3 hnil3
         have how3 : Owns (w.heap.size + 1) 3 w3 v' (pre.map (Value.int .i64) ++ [.int .i64 x]) := by unfold Owns; rw [List.length_append, List.length_map]; exact hown'
         obtain ⟨vp, vc, rfl, _⟩ := how3.form (n := pre.length + 1) (by simp)
         have HFIN := Lib.hid (HNX.out w3 _ how3 hg3)
         obtain ⟨q3, q4⟩ := HF0.out w3 (HLO.out w3 hg3)
         clear hown' hg3 hnil3 how3 q1 q2 HNX HLO HF0 how1)
      | (rw [Oper.semAt_eq _ _ _ (fun c h => by cases h)]; go_simp; try go_bits))
    have hfin := HFIN.out
    rw [hz6]
    exact hfin
  · rintro D ys W hD rfl ⟨hbw, hsz, v, hbox, hown⟩ hK
    have hb0 : W.cell? ⟨w.heap.size, 0, none⟩ = some v := by simp [World.cell?, hbox]
    gi_wp2_with fail
    have hq : ∀ b, b ≠ D → (W.putObj D (.deferred none)).heap[b]? = W.heap[b]? := fun b hb => World.putObj_heap_other hb
    refine ⟨by simp, .inl ⟨_, _, rfl, run_takeDeferred hK, ?_⟩⟩
    refine ⟨v, by simp [results, Tryz.results195, go_sem], ⟨hbw.os, hbw.tape, hbw.output, by have h := hbw.size; simpa using h, fun b hb => (hq b (by omega)).trans (hbw.block b hb)⟩, v, rfl, ?_⟩
    refine Owns.mono_baseZ (hown.sameZ fun b hb => hq b (fun e => ?_)) (Nat.le_succ _)
    obtain ⟨c, hc⟩ := hown.typedV hb
    subst e; rw [hK] at hc; cases hc
  · rintro D c pre W _ _ h _
    exact h.elim
end Go.Proofs.YtpjijbophjdgaaaGreat
