/- Between two rounds of slices.AppendSeq at ints: cut out of V1. Package intset: Check, the .. -/
import Derived.Test.YtpnmblnahjjmhaaGreatQ1
import Derived.RangeFuncWrites
import Derived.Test.YtpnmblnahjjmhaaGreatQ2
import Derived.Test.YtpnmblnahjjmhaaGreatQ3
import Derived.Laws.EntriesVeiled
import Derived.Shelf.Slices.Empties
import Derived.Test.YtpnmblnahjjmhaaGreatQ28
import Derived.Test.YtpnmblnahjjmhaaGreatQ23
set_option maxRecDepth 100000
namespace Go.Proofs.YtpnmblnahjjmhaaGreat
section
open Go.RowKit Go.Shelf Go.Deep
attribute [local go_sem] Oper.semAt_some
theorem ah.vC {base : Nat} {e : TypeId} {w w' : World} {v : Value} {vs : List Value} (h : ah base e w v vs) (k : ∀ b, v.ownBlock = some b → w'.heap[b]? = w.heap[b]?) : ah base e w' v vs := by
 obtain ⟨hl, h | ⟨g, cap, cur, rfl, hg, hc, hr⟩⟩ := h
 ·exact ⟨hl, .inl h⟩
 ·exact ⟨hl, .inr ⟨g, cap, cur, rfl, hg, by rw [k g rfl]; exact hc, hr⟩⟩
theorem ah.MH {base base' : Nat} {e : TypeId} {w : World} {v : Value} {vs : List Value} (h : ah base e w v vs) (hb : base' ≤ base) : ah base' e w v vs := by
 obtain ⟨hl, h | ⟨g, cap, cur, rfl, hg, hc, hr⟩⟩ := h
 ·exact ⟨hl, .inl h⟩
 ·exact ⟨hl, .inr ⟨g, cap, cur, rfl, Nat.le_trans hb hg, hc, hr⟩⟩
theorem ah.iP {base : Nat} {e : TypeId} {w : World} {v : Value} {vs : List Value} (h : ah base e w v vs) {b : Nat} (hb : v.ownBlock = some b) : ∃ c, w.heap[b]? = some (Obj.cells c e (0, 0)) := by
 obtain ⟨_, ⟨rfl, _⟩ | ⟨g, cap, cur, rfl, _, hc, _⟩⟩ := h
 ·cases hb
 ·injection hb with hb; subst hb; exact ⟨cur, hc⟩

def Eo (w0 : World) (pre : List Int) (W : World) : Prop := Below w0.heap.size w0 W ∧ w0.heap.size + 1 ≤ W.heap.size ∧ ∃ v, W.heap[w0.heap.size]? = some (Obj.cells #[v] 26 (0, 0)) ∧ ah (w0.heap.size + 1) 3 W v (pre.map (Value.int .i64))
theorem Eo.own (w0 : World) {B : Nat} (hB : w0.heap.size + 1 ≤ B) : OwnFrom B (Eo w0) := by
 rintro s X Y row ⟨hb, hsz, v, fc, hown⟩ hg hr
 have hcell : ∀ (b : Nat) (c : Array Value) (e : TypeId) (z : Nat × Nat), X.heap[b]? = some (Obj.cells c e z) → Y.heap[b]? = X.heap[b]? := fun b c e z hc => hg.block b (Array.getElem?_eq_some_iff.1 hc).1 (fun e2 => by
  obtain ⟨_, o, h1, h2⟩ := hr b e2.symm
  rw [hc] at h1; injection h1 with h1; subst h1; cases h2)
 refine ⟨⟨hg.os.trans hb.os, hg.tape.trans hb.tape, hg.output.trans hb.output, Nat.le_trans hb.size hg.size, fun b hb2 => (hg.block b (by have := hb.size; omega) (fun e => by obtain ⟨h1, _⟩ := hr b e.symm; omega)).trans (hb.block b hb2)⟩, Nat.le_trans hsz hg.size, v, (hcell _ _ _ _ fc).trans fc, hown.vC fun b hb2 => ?_⟩
 obtain ⟨c, hc⟩ := hown.iP hb2
 exact hcell _ _ _ _ hc
end
section
open Go.RowKit Go.Shelf Go.Deep
def uI (w : World) (xs : List Int) (e : Ending) (w' : World) : Prop := Up w w' ∧ ∃ v, e = .returned v ∧ ah w.heap.size 3 w' v (xs.map (Value.int .i64))
theorem Eo.next {w W We : World} {pre : List Int} {x : Int} {v v' : Value} (fu : Below w.heap.size w W) (hsz : w.heap.size + 1 ≤ W.heap.size) (fc : W.heap[w.heap.size]? = some (Obj.cells #[v] 26 (0, 0))) (hown : ah (w.heap.size + 1) 3 W v (pre.map (Value.int .i64)))
  (ho : ah (w.heap.size + 1) 3 We v' (pre.map (Value.int .i64) ++ [.int .i64 x])) (hg : (W.alloc (.cells #[.int .i64 x] 3)).grownBy We v.ownBlock) :
  KeepsFrom (w.heap.size + 1) W (We.setCell ⟨w.heap.size, 0, none⟩ v') ∧ KS (· < w.heap.size) W (We.setCell ⟨w.heap.size, 0, none⟩ v') ∧ Eo w (pre ++ [x]) (We.setCell ⟨w.heap.size, 0, none⟩ v') := by
 have bD : ∀ b, b ≠ w.heap.size → (We.setCell ⟨w.heap.size, 0, none⟩ v').heap[b]? = We.heap[b]? := fun b hb => blk_setCell_other _ _ _ _ hb
 have hszs : (We.setCell ⟨w.heap.size, 0, none⟩ v').heap.size = We.heap.size := by simp [World.size_setCell]
 have hga : ∀ b, b < W.heap.size → some b ≠ v.ownBlock → We.heap[b]? = W.heap[b]? := fun b hb hne => (hg.block b (by rw [World.size_alloc]; exact Nat.lt_succ_of_lt hb) hne).trans (Below.heap_alloc W _ b hb)
 have hsize : W.heap.size + 1 ≤ We.heap.size := by have h := hg.size; rw [World.size_alloc] at h; exact h
 have mz : ∀ b, b < w.heap.size + 1 → We.heap[b]? = W.heap[b]? := fun b hb => hga b (by omega) (fun e => by have := (ax hown e.symm).1; omega)
 have sM := (mz w.heap.size (Nat.lt_succ_self _)).trans fc
 refine ⟨⟨by omega, fun k o hk zG hc => ?_⟩, fun b (hb : b < w.heap.size) => (bD b (by omega)).trans (mz b (by omega)), ⟨hg.os.trans fu.os, hg.tape.trans fu.tape, hg.output.trans fu.output, by omega, fun b hb => ((bD b (by omega)).trans (mz b (by omega))).trans (fu.block b hb)⟩, by omega, v', ?_, ?_⟩
 ·have iq : k < W.heap.size := (Array.getElem?_eq_some_iff.1 zG).1
  rw [bD k (by omega), hga k iq (fun e => by
   obtain ⟨c, h⟩ := hown.iP e.symm
   rw [zG] at h; injection h with h; subst h; cases hc)]
  exact zG
 ·simp [World.setCell, Array.getElem?_modify, sM]
 ·rw [List.map_append]
  exact ho.vC fun b hb => bD b (by have := (ax ho hb).1; omega)
end
section
open Go.RowKit Go.Deep
set_option maxHeartbeats 1000000 in
theorem qI (S : Nat → Prop) (w : World) (v : Value) (l : List Int) (h : af S w v l) (hn : l.length ≤ 1000000) :
  Calls Tryz.prog 155 #[v] w fun e w' => e = .returned (.int .i64 (dN l)) ∧ w = w' := by
 have HF : Hid (dN l = firstNZ (gI l) l.length) := rfl
 have HB : Hid (∀ i, gI l i = if gi l i < 0 ∨ 63 < gi l i then 2 else if 0 < i ∧ gi l i ≤ gi l (i - 1) then 10 else 0) := fun _ => rfl
 obtain ⟨p, cap, rfl, -, -⟩ := av.open h
 have H : Hid (af S w (.slice p l.length cap) l) := h
 clear h
 go_enter Tryz.func155, Tryz.ntmps155
 go_wp2_with fail
 go_loop [3, 4, 7] (fun _ _ i => ∃ k : Nat, k ≤ l.length ∧ i = .int .i64 k ∧ Hid (∀ j, j < k → gI l j = 0)) (fun _ _ i => l.length - (intOf i).toNat)
 case atStart => exact ⟨0, Nat.zero_le _, rfl, fun j hj => absurd hj (Nat.not_lt_zero _)⟩
 case round =>
  obtain ⟨k, hk, rfl, hd⟩ := hrel
  by_cases hlt : k < l.length
  ·obtain ⟨b, off, rfl, hc⟩ := bw H.out hlt
   have HK := aa (HB.out k)
   have HP : Hid (0 < k → w.cell? ⟨b, off + (k - 1), none⟩ = some (.int .i64 (gi l (k - 1)))) := fun h0 => by
    obtain ⟨b2, off2, e, hc2⟩ := bw H.out (k := k - 1) (by omega)
    cases e; exact hc2
   generalize gi l k = x at *
   generalize gi l (k - 1) = y at *
   by_cases h1 : x < 0
   ·go_wp2_with fail
    go_ret
    have hr : gI l k = 2 := by rw [HK.out, if_pos (.inl h1)]
    exact ⟨aI (by rw [HF.out, eY hlt hd.out (by rw [hr]; decide), hr]), rfl⟩
   by_cases h2 : 63 < x
   ·go_wp2_with fail
    go_ret
    have hr : gI l k = 2 := by rw [HK.out, if_pos (.inr h2)]
    exact ⟨aI (by rw [HF.out, eY hlt hd.out (by rw [hr]; decide), hr]), rfl⟩
   have HX : Hid (¬ (x < 0 ∨ 63 < x)) := by unfold Hid; omega
   by_cases h0 : k = 0
   ·subst h0
    rw [Nat.add_zero] at hc
    go_wp2_with fail
    go_round
    case rel => exact ⟨1, by omega, by go_num, fun j hj => by
     have : j = 0 := by omega
     subst this; rw [HK.out, if_neg HX.out, if_neg (by omega)]⟩
    case measure => simp [intOf]; omega
   ·have qX := HP.out (by omega)
    have i1 : (0 : Int) ≤ (k : Int) - 1 := by omega
    have i2 : (k : Int) - 1 < (l.length : Int) := by omega
    have i3 : ((k : Int) - 1).toNat = k - 1 := by omega
    have i4 : wrap64 ((k : Int) - 1) = (k : Int) - 1 := by unfold wrap64; omega
    have i5 : (0 : Int) < (k : Int) := by omega
    have i6 : 0 < k := by omega
    by_cases h3 : x ≤ y
    ·go_wp2_with fail
     go_ret
     have hr : gI l k = 10 := by rw [HK.out, if_neg HX.out, if_pos ⟨by omega, h3⟩]
     exact ⟨aI (by rw [HF.out, eY hlt hd.out (by rw [hr]; decide), hr]), rfl⟩
    ·have HY := aa h3
     go_wp2_with fail
     go_round
     case rel => exact ⟨k + 1, by omega, by clear i4; go_num, fun j hj => by
      by_cases e : j = k
      ·subst e; rw [HK.out, if_neg HX.out, if_neg (fun q => HY.out q.2)]
      ·exact hd.out j (by omega)⟩
     case measure => clear i4; simp [intOf]; omega
  ·obtain rfl : k = l.length := by omega
   clear hlt
   go_wp2_with fail
   go_ret
   exact ⟨aI (by rw [HF.out, cA hd.out]), rfl⟩
theorem Hj (S : Nat → Prop) (w : World) (b : Nat) (v : Value) (l : List Int) (k : Int) (hb : w.cell? ⟨b, 0, none⟩ = some v) (h : af S w v l) (hn : l.length ≤ 1000000) (ha : l.Pairwise (· < ·)) :
  Calls Tryz.prog 226 #[.int .i64 k, .pointer (some ⟨b, 0, none⟩)] w fun e w' => e = .returned (.bool (l.contains k)) ∧ ∃ q, w' = w.drewN q := by
 have HB : Hid (Calls Tryz.prog 227 #[v, .int .i64 k] w fun e w' => (∃ c : Int, e = .returned (.tuple #[.int .i64 c, .bool (l.contains k)])) ∧ ∃ q, w' = w.drewN q) := by
  obtain ⟨p, cap, rfl, hcap, hc⟩ := av.open h
  by_cases h0 : l = []
  ·subst h0
   refine (Any.slices_BinarySearch_int_empty Tryz.bsI p cap k w).mono ?_
   rintro e w' ⟨rfl, rfl⟩
   exact ⟨⟨_, rfl⟩, 0, rfl⟩
  ·have hl : 0 < l.length := List.length_pos_iff.2 h0
   obtain ⟨g, off, rfl, _⟩ := hc 0 hl
   refine (Any.slices_BinarySearch_int Tryz.bsI g off l.length cap l k w (Nat.le_refl _) (by omega) (fun j hj => ?_) (by rw [List.take_length]; exact ha.imp fun h => Int.le_of_lt h)).mono ?_
   ·obtain ⟨g', off', e, hc'⟩ := hc j hj
    cases e
    exact hc'
   ·rintro e w' ⟨rfl, q, rfl⟩
    rw [List.take_length]
    exact ⟨⟨_, rfl⟩, q, rfl⟩
 obtain ⟨p, cap, rfl, -, -⟩ := av.open h
 clear h ha
 go_enter Tryz.func226, Tryz.ntmps226
 go_wp2_with fail
 refine HB.out.mono ?_
 rintro e w' ⟨⟨c, rfl⟩, q, rfl⟩
 go_wp2_with fail
 go_ret
 exact ⟨aO (by simp), q, rfl⟩
theorem Ff (w : World) (p : Option Addr) (n c : Nat) : Calls Tryz.prog 170 #[.slice p n c] w fun e w' => e = .returned (.func (.func 226) #[] #[.pointer (some ⟨w.heap.size, 0, none⟩)]) ∧ w' = w.alloc (.cells #[.slice p n c] 26) := by
 go_enter Tryz.func170, Tryz.ntmps170
 go_wp2_with fail
 go_ret
 exact ⟨rfl, rfl⟩
set_option maxHeartbeats 1000000 in
theorem nS (S : Nat → Prop) (w : World) (v : Value) (n : Int) (l : List Int) (h : af S w v l) (hn : l.length ≤ 1000000) :
  Calls Tryz.prog 81 #[.int .i64 n, v] w fun e w' => e = .returned (.int .i64 (aF n l)) ∧ w = w' := by
 have HF : Hid (aF n l = if n < 1 ∨ 32 < n then 2 else if dN l ≠ 0 then dN l else if 0 < l.length ∧ (gi l 0 = 0 ∨ n ≤ gi l (l.length - 1)) then 2 else if (l.length : Int) < 2 ∨ n - 2 < l.length then 8 else 0) := rfl
 have HC := aa (qI S w v l h hn)
 obtain ⟨p, cap, rfl, -, -⟩ := av.open h
 have H : Hid (af S w (.slice p l.length cap) l) := h
 clear h
 by_cases h1 : n < 1
 ·go_enter Tryz.func81, Tryz.ntmps81
  go_wp2_with fail
  go_ret
  exact ⟨aI (by rw [HF.out, if_pos (.inl h1)]), rfl⟩
 by_cases h2 : 32 < n
 ·go_enter Tryz.func81, Tryz.ntmps81
  go_wp2_with fail
  go_ret
  exact ⟨aI (by rw [HF.out, if_pos (.inr h2)]), rfl⟩
 have HN : Hid (¬ (n < 1 ∨ 32 < n)) := by unfold Hid; omega
 generalize Ep : dN l = se at *
 by_cases h3 : se = 0
 ·have gJ : Hid (¬ se ≠ 0) := fun e => e h3
  subst h3
  have hm2 : wrap64 (n - 2) = n - 2 := by unfold wrap64; omega
  by_cases h0 : l.length = 0
  ·have Fp : ((l.length : Int) < 2) := by omega
   have h01 : ¬ (0 : Int) < (l.length : Int) := by omega
   have h02 : ¬ 0 < l.length := by omega
   clear h0
   go_enter Tryz.func81, Tryz.ntmps81
   go_wp2_with fail
   refine HC.out.mono ?_
   rintro e w' ⟨rfl, rfl⟩
   go_wp2_with fail
   go_ret
   exact ⟨aI (by rw [HF.out, if_neg HN.out, if_neg gJ.out, if_neg (by omega), if_pos (.inl Fp)]), rfl⟩
  ·obtain ⟨b, off, rfl, hc⟩ := bw H.out (show 0 < l.length by omega)
   obtain ⟨b2, off2, e2, hd⟩ := bw H.out (show l.length - 1 < l.length by omega)
   cases e2
   rw [Nat.add_zero] at hc
   have i0 : 0 < l.length := by omega
   have i00 : (0 : Int) < (l.length : Int) := by omega
   have i1 : (0 : Int) ≤ (l.length : Int) - 1 := by omega
   have i2 : (l.length : Int) - 1 < (l.length : Int) := by omega
   have i3 : ((l.length : Int) - 1).toNat = l.length - 1 := by omega
   have i4 : wrap64 ((l.length : Int) - 1) = (l.length : Int) - 1 := by unfold wrap64; omega
   generalize gi l 0 = x at *
   generalize gi l (l.length - 1) = y at *
   by_cases h4 : x = 0
   ·subst h4
    go_enter Tryz.func81, Tryz.ntmps81
    go_wp2_with fail
    refine HC.out.mono ?_
    rintro e w' ⟨rfl, rfl⟩
    go_wp2_with fail
    go_ret
    exact ⟨aI (by rw [HF.out, if_neg HN.out, if_neg gJ.out, if_pos ⟨i0, .inl (by simp)⟩]), rfl⟩
   have h4b : (x == 0) = false := by simpa using h4
   by_cases h5 : n ≤ y
   ·go_enter Tryz.func81, Tryz.ntmps81
    go_wp2_with fail
    refine HC.out.mono ?_
    rintro e w' ⟨rfl, rfl⟩
    go_wp2_with fail
    go_ret
    exact ⟨aI (by rw [HF.out, if_neg HN.out, if_neg gJ.out, if_pos ⟨i0, .inr h5⟩]), rfl⟩
   have HQ : Hid (¬ (0 < l.length ∧ (x = 0 ∨ n ≤ y))) := fun e => by
    rcases e.2 with e | e
    ·exact h4 e
    ·exact h5 e
   by_cases h6 : (l.length : Int) < 2
   ·go_enter Tryz.func81, Tryz.ntmps81
    go_wp2_with fail
    refine HC.out.mono ?_
    rintro e w' ⟨rfl, rfl⟩
    go_wp2_with fail
    go_ret
    exact ⟨aI (by rw [HF.out, if_neg HN.out, if_neg gJ.out, if_neg HQ.out, if_pos (.inl h6)]), rfl⟩
   by_cases h7 : n - 2 < (l.length : Int)
   ·go_enter Tryz.func81, Tryz.ntmps81
    go_wp2_with fail
    refine HC.out.mono ?_
    rintro e w' ⟨rfl, rfl⟩
    go_wp2_with fail
    go_ret
    exact ⟨aI (by rw [HF.out, if_neg HN.out, if_neg gJ.out, if_neg HQ.out, if_pos (.inr h7)]), rfl⟩
   ·go_enter Tryz.func81, Tryz.ntmps81
    go_wp2_with fail
    refine HC.out.mono ?_
    rintro e w' ⟨rfl, rfl⟩
    go_wp2_with fail
    go_ret
    exact ⟨aI (by rw [HF.out, if_neg HN.out, if_neg gJ.out, if_neg HQ.out, if_neg (by omega)]), rfl⟩
 ·have YF : (se == 0) = false := by simpa using h3
  have hsc : (se != 0) = true := by simpa using h3
  go_enter Tryz.func81, Tryz.ntmps81
  go_wp2_with fail
  refine HC.out.mono ?_
  rintro e w' ⟨rfl, rfl⟩
  go_wp2_with fail
  go_ret
  exact ⟨aI (by rw [HF.out, if_neg HN.out, if_pos h3]), rfl⟩
end
section
def aN (t : aA) (names : List ByteArray) (k : Nat) : List Int := ey (fun b => (List.range t.ps.length).any fun j => dm t.ps k j && decide ((gs t.ns j).size ≠ 0) && decide (eR names (gs t.ns j) = b)) names.length
def aU (n : Nat) (S : List Int) : List Int := if S.contains 0 then aS n S else S
def rW (names : List ByteArray) : Bool := (List.range names.length).any (cZ names)
def nT (t : aA) (names : List ByteArray) : Bool := (List.range (aV t.ns).length).any fun j => decide (eR names (gs t.ns (gi (aV t.ns) j).toNat) < 0)
def aL (t : aA) (names : List ByteArray) : Int :=
 if aB t ≠ 0 then 1 else if 32 < names.length then 4 else if rW names then 7 else if (aV t.ns).length ≠ names.length ∨ nT t names = true then 9 else 0
def Al (t : aA) (names : List ByteArray) : List (List Int) := (((List.range t.ps.length).filter (fun k => decide (0 < k))).map fun k => aU names.length (aN t names k)).filter fun s => decide (aF names.length s = 0)
def az (t : aA) (names : List ByteArray) : List (List Int) := if aL t names = 0 then p9 (Al t names) else []
structure iz (t : aA) (names : List ByteArray) : Prop where
 te : aB t = 0
 le : names.length ≤ 32
 nd : ∀ j k, j < k → k < names.length → gs names k ≠ gs names j
 len : (aV t.ns).length = names.length
 has : ∀ j, j < t.ps.length → (gs t.ns j).size ≠ 0 → ∃ b : Nat, b < names.length ∧ gs names b = gs t.ns j
theorem MI {names : List ByteArray} {a : ByteArray} : 0 ≤ eR names a ↔ ∃ b, b < names.length ∧ gs names b = a := by
 constructor
 ·intro h
  obtain ⟨k, hk⟩ := Int.eq_ofNat_of_zero_le h
  obtain ⟨h1, h2, _⟩ := ni hk
  exact ⟨k, h1, (of_decide_eq_true h2).symm⟩
 ·rintro ⟨b, hb, e⟩
  have YG : (List.range names.length).any (fun j => decide (a = gs names j)) = true := List.any_eq_true.2 ⟨b, List.mem_range.2 hb, decide_eq_true e.symm⟩
  rw [← fT] at YG
  exact of_decide_eq_true YG
theorem B5 {names : List ByteArray} (h : ∀ j k, j < k → k < names.length → gs names k ≠ gs names j) {a b : Nat} (ha : a < names.length) (hb : b < names.length) (e : gs names a = gs names b) : a = b := by
 rcases Nat.lt_trichotomy a b with c | c | c
 ·exact absurd e.symm (h a b c hb)
 ·exact c
 ·exact absurd e (h b a c ha)
theorem nU {names : List ByteArray} (h : ∀ j k, j < k → k < names.length → gs names k ≠ gs names j) {b : Nat} (hb : b < names.length) : eR names (gs names b) = (b : Int) := by
 have h1 : 0 ≤ eR names (gs names b) := MI.2 ⟨b, hb, rfl⟩
 obtain ⟨k, hk⟩ := Int.eq_ofNat_of_zero_le h1
 obtain ⟨h2, h3, _⟩ := ni hk
 have h3 := of_decide_eq_true h3
 rw [hk]
 have := B5 h h2 hb h3.symm
 rw [this]
theorem KI {names : List ByteArray} : rW names = false ↔ ∀ j k, j < k → k < names.length → gs names k ≠ gs names j := by
 constructor
 ·intro h j k hjk hk e
  have h1 := any_false h hk
  unfold cZ at h1
  have := any_false h1 hjk
  rw [decide_eq_true e.symm] at this; cases this
 ·intro h
  refine any_none fun k hk => any_none fun j hj => decide_eq_false fun e => h j k hj hk e.symm
theorem mW {t : aA} {names : List ByteArray} : aL t names = 0 ↔ iz t names := by
 unfold aL
 constructor
 ·intro h
  split at h
  ·cases h
  ·rename_i h1
   have h1 := Classical.not_not.1 h1
   obtain ⟨_, _, hl, _, _⟩ := aH h1
   split at h
   ·cases h
   ·split at h
    ·cases h
    ·rename_i h3
     split at h
     ·cases h
     ·rename_i h4
      have h3 : rW names = false := by simpa using h3
      have h4a : (aV t.ns).length = names.length := Classical.byContradiction fun e => h4 (.inl e)
      have h4b : nT t names = false := by
       cases e : nT t names with
       | false => rfl
       | true => exact absurd (.inr e) h4
      refine ⟨h1, by omega, KI.1 h3, h4a, fun j hj h0 => ?_⟩
      have hm : (j : Int) ∈ aV t.ns := jQ.2 ⟨j, rfl, by omega, h0⟩
      obtain ⟨i, hi, e⟩ := vz hm
      have := any_false h4b hi
      rw [e, Int.toNat_natCast] at this
      have := of_decide_eq_false this
      exact MI.1 (by omega)
 ·intro h
  obtain ⟨_, _, hl, _, _⟩ := aH h.te
  have hle := h.le
  rw [if_neg (fun e => e h.te), if_neg (by omega), KI.2 h.nd, if_neg (by decide), if_neg]
  rintro (e | e)
  ·exact e h.len
  ·obtain ⟨i, hi, e⟩ := List.any_eq_true.1 e
   have hi := List.mem_range.1 hi
   obtain ⟨j, e1, e2, e3⟩ := jQ.1 (pg hi)
   have e := of_decide_eq_true e
   rw [e1, Int.toNat_natCast] at e
   have := MI.2 (h.has j (by omega) e3)
   omega
section
variable {t : aA} {names : List ByteArray}
theorem xX (h : aB t = 0) (k : Nat) (hk : k < t.ps.length) : dm t.ps 0 k = true := Ak h k k (Nat.le_refl _) hk
theorem rX (h : iz t names) {b : Nat} (hb : b < names.length) : ∃ j, j < t.ps.length ∧ (gs t.ns j).size ≠ 0 ∧ gs t.ns j = gs names b := by
 obtain ⟨_, _, hl, _, _⟩ := aH h.te
 have hp : ∀ x ∈ aV t.ns, ∃ j : Nat, x = j ∧ cK t j := fun x hx => Pr h.te hx
 have dZ : ((aV t.ns).map fun x => eR names (gs t.ns x.toNat)).Nodup := by
  refine En ((JI t.ns).imp fun h e => by omega) fun x hx y hy e => ?_
  obtain ⟨j, rfl, hj⟩ := hp x hx
  obtain ⟨k, rfl, hk⟩ := hp y hy
  rw [Int.toNat_natCast, Int.toNat_natCast] at e
  obtain ⟨b1, c1, e1⟩ := h.has j hj.lt hj.nm
  obtain ⟨b2, c2, e2⟩ := h.has k hk.lt hk.nm
  rw [← e1, ← e2, nU h.nd c1, nU h.nd c2] at e
  have : b1 = b2 := by omega
  subst this
  have := hj.inj hj.lt hk.lt hj.nm (by rw [← e1, ← e2])
  rw [this]
 have iB := Ea (q := allI names.length) dZ (fun x hx => by
  obtain ⟨y, hy, rfl⟩ := List.mem_map.1 hx
  obtain ⟨j, rfl, hj⟩ := hp y hy
  obtain ⟨b1, c1, e1⟩ := h.has j hj.lt hj.nm
  rw [Int.toNat_natCast, ← e1, nU h.nd c1]
  exact iw.2 ⟨by omega, by omega⟩) (by rw [rQ, List.length_map, h.len]; exact Nat.le_refl _)
 have hb' : (b : Int) ∈ (aV t.ns).map fun x => eR names (gs t.ns x.toNat) := iB.mem_iff.2 (iw.2 ⟨by omega, by omega⟩)
 obtain ⟨y, hy, e⟩ := List.mem_map.1 hb'
 obtain ⟨j, rfl, hj⟩ := hp y hy
 rw [Int.toNat_natCast] at e
 refine ⟨j, hj.lt, hj.nm, ?_⟩
 obtain ⟨b1, c1, e1⟩ := h.has j hj.lt hj.nm
 rw [← e1, nU h.nd c1] at e
 have : b1 = b := by omega
 rw [← e1, this]
theorem gY {k : Nat} {x : Int} : x ∈ aN t names k ↔ 0 ≤ x ∧ x < (names.length : Int) ∧ ∃ j, j < t.ps.length ∧ dm t.ps k j = true ∧ (gs t.ns j).size ≠ 0 ∧ eR names (gs t.ns j) = x := by
 unfold aN
 rw [vB, List.any_eq_true]
 constructor
 ·rintro ⟨h1, h2, j, hj, h3⟩
  simp only [Bool.and_eq_true, decide_eq_true_eq] at h3
  exact ⟨h1, h2, j, List.mem_range.1 hj, h3.1.1, h3.1.2, h3.2⟩
 ·rintro ⟨h1, h2, j, hj, h3, h4, h5⟩
  refine ⟨h1, h2, j, List.mem_range.2 hj, ?_⟩
  simp only [Bool.and_eq_true, decide_eq_true_eq]
  exact ⟨⟨h3, h4⟩, h5⟩
theorem oK (t : aA) (names : List ByteArray) (k : Nat) : (aN t names k).Pairwise (· < ·) := jb _ _
theorem lV (h : iz t names) {k : Nat} (hk : k < t.ps.length) : Lv names (aR (cF t) (bM t) k) (aN t names k) := fun y => by
 rw [VP h.te hk]
 constructor
 ·rintro ⟨j, hj, h1, h2, rfl⟩
  obtain ⟨b, hb, e⟩ := h.has j hj h2
  refine ⟨b, gY.2 ⟨by omega, by omega, j, hj, h1, h2, ?_⟩, e.symm⟩
  rw [← e, nU h.nd hb]
 ·rintro ⟨b, hb, rfl⟩
  obtain ⟨_, h1, j, hj, h2, h3, h4⟩ := gY.1 hb
  obtain ⟨b', hb', e⟩ := h.has j hj h3
  rw [← e, nU h.nd hb'] at h4
  refine ⟨j, hj, h2, h3, ?_⟩
  rw [← e]
  congr 1
  omega
theorem B6 (hn : ∀ j k, j < k → k < names.length → gs names k ≠ gs names j) {s : RT} {X Y : List Int} (hX : X.Pairwise (· < ·)) (hY : Y.Pairwise (· < ·)) (bX : ∀ x ∈ X, 0 ≤ x ∧ x < (names.length : Int)) (bY : ∀ x ∈ Y, 0 ≤ x ∧ x < (names.length : Int)) (h1 : Lv names s X) (h2 : Lv names s Y) : X = Y := by
 have key : ∀ {X Y : List Int}, (∀ x ∈ X, 0 ≤ x ∧ x < (names.length : Int)) → (∀ x ∈ Y, 0 ≤ x ∧ x < (names.length : Int)) → Lv names s X → Lv names s Y → ∀ x ∈ X, x ∈ Y := fun {X Y} bX bY h1 h2 x hx => by
  obtain ⟨x0, xn⟩ := bX x hx
  obtain ⟨b, rfl⟩ := Int.eq_ofNat_of_zero_le x0
  obtain ⟨b', hb', e⟩ := (h2 (gs names b)).1 ((h1 _).2 ⟨b, hx, rfl⟩)
  have := bY _ hb'
  have := B5 hn (a := b) (b := b') (by omega) (by omega) e
  rw [this]; exact hb'
 exact k7 hX hY fun x => ⟨key bX bY h1 h2 x, key bY bX h2 h1 x⟩
theorem rY (h : iz t names) {s : List Int} : s ∈ az t names ↔ vA names.length s ∧ ∃ q ∈ subR (fC t), ∃ X, X.Pairwise (· < ·) ∧ (∀ x ∈ X, 0 ≤ x ∧ x < (names.length : Int)) ∧ Lv names q X ∧ s = aU names.length X := by
 unfold az
 rw [if_pos (mW.2 h), rV]
 unfold Al
 rw [List.mem_filter, List.mem_map, decide_eq_true_eq, gU]
 constructor
 ·rintro ⟨⟨k, hk, rfl⟩, h2⟩
  have hk := List.mem_range.1 (List.mem_filter.1 hk).1
  refine ⟨h2, aR (cF t) (bM t) k, ?_, aN t names k, oK _ _ _, fun x hx => by have := gY.1 hx; exact ⟨this.1, this.2.1⟩, lV h hk, rfl⟩
  rw [iW h.te]
  refine List.mem_map.2 ⟨k, ?_, rfl⟩
  have h0 := (aH h.te).1
  refine (cU (cg h.te).wf h0 (Nat.le_refl _)).2 ?_
  rw [qO h.te _ 0 k (Nat.le_refl _) h0 hk]
  exact xX h.te k hk
 ·rintro ⟨h2, q, hq, X, hX, bX, hL, rfl⟩
  refine ⟨?_, h2⟩
  rw [iW h.te] at hq
  obtain ⟨k, hk, rfl⟩ := List.mem_map.1 hq
  have hk := eu h.te hk
  have e := B6 h.nd hX (oK t names k) bX (fun x hx => by have := gY.1 hx; exact ⟨this.1, this.2.1⟩) hL (lV h hk)
  refine ⟨k, List.mem_filter.2 ⟨List.mem_range.2 hk, decide_eq_true ?_⟩, by rw [e]⟩
  rcases Nat.eq_zero_or_pos k with e0 | e0
  ·exfalso
   subst e0
   have hall : ∀ b : Nat, b < names.length → (b : Int) ∈ X := fun b hb => by
    rw [e]
    obtain ⟨j, hj, h3, h4⟩ := rX h hb
    exact gY.2 ⟨by omega, by omega, j, hj, xX h.te j hj, h3, by rw [h4, nU h.nd hb]⟩
   have h0 := h2.n1
   have h3 : X.contains 0 = true := List.contains_iff_mem.2 (hall 0 (by omega))
   have h4 := h2.len
   have h5 : aU names.length X = [] := by
    unfold aU
    rw [if_pos h3, List.eq_nil_iff_forall_not_mem]
    intro x hx
    obtain ⟨x0, xn, hx⟩ := iN.1 hx
    obtain ⟨b, rfl⟩ := Int.eq_ofNat_of_zero_le x0
    exact hx (hall b (by omega))
   rw [h5] at h4
   simp at h4
  ·exact e0
end
end
end Go.Proofs.YtpnmblnahjjmhaaGreat
