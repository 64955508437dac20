/- The order in which split.Build takes the splits: its closure. split.Build: what lies in memory while the tree grows. The example of chapter 32: what each function answers. The contracts of layer 31's reference's text and Print. The reference's reader of texts, plain: it reads what the machine of Parse reads. Help for the walk of layer 32's reference's grow. split.OfStates. -/
import Derived.Test.YtpnmblnahjjmhaaGreatQ1
import Derived.Test.YtpnmblnahjjmhaaGreatQ33
import Derived.Test.YtpnmblnahjjmhaaGreatQ29
import Derived.Test.YtpnmblnahjjmhaaGreatQ42
import Derived.Test.YtpnmblnahjjmhaaGreatQ35
import Derived.Test.YtpnmblnahjjmhaaGreatQ11
import Derived.Test.YtpnmblnahjjmhaaGreatQ36
import Derived.Test.YtpnmblnahjjmhaaGreatQ39
import Derived.Test.YtpnmblnahjjmhaaGreatQ24
import Derived.Test.YtpnmblnahjjmhaaGreatQ19
import Derived.Test.YtpnmblnahjjmhaaGreatQ23
import Derived.Test.YtpnmblnahjjmhaaGreatQ43
import Derived.Test.YtpnmblnahjjmhaaGreatQ15
import Derived.Test.YtpnmblnahjjmhaaGreatQ3
import Derived.Test.YtpnmblnahjjmhaaGreatQ34
namespace Go.Proofs.YtpnmblnahjjmhaaGreat
set_option maxRecDepth 100000
section
open Go.RowKit Go.Deep Go.Sort
def UY (x y : Int) : Int := if x ≠ 0 then x else y
set_option maxHeartbeats 1000000 in
theorem or_t (w : World) (b : Nat) (x y : Int) (h0 : w.cell? ⟨b, 0, none⟩ = some (.int .i64 x)) (h1 : w.cell? ⟨b, 1, none⟩ = some (.int .i64 y)) :
  Calls Tryz.prog 95 #[.slice (some ⟨b, 0, none⟩) 2 2] w fun e w' => e = .returned (.int .i64 (UY x y)) ∧ w = w' := by
 have HO : Hid (UY x y = if x ≠ 0 then x else y) := rfl
 have H0 := ag h0
 have H1 := ag h1
 clear h0 h1
 aq Tryz.func95, Tryz.ntmps95
 aa fail
 dD [5, 8] (fun _ i => ∃ k : Nat, k ≤ 2 ∧ i = .int .i64 k ∧ Hid (0 < k → x = 0) ∧ Hid (1 < k → y = 0)) (fun _ i => 2 - (intOf i).toNat)
 case atStart => exact ⟨0, Nat.zero_le _, rfl, fun h => absurd h (Nat.lt_irrefl _), fun h => absurd h (by omega)⟩
 case round =>
  obtain ⟨k, hk, rfl, hd, hd2⟩ := bE
  have c0 := H0.out
  have c1 := H1.out
  by_cases k0 : k = 0
  ·subst k0
   by_cases hx : x = 0
   ·have HX := ag hx
    subst hx
    aa fail
    cz
    case rel => exact ⟨1, by omega, by aH, fun _ => (by first | rfl | trivial), fun h => absurd h (by omega)⟩
    case measure => simp [intOf]
   ·have HX := ag hx
    have d1 : (x == 0) = false := by simpa using hx
    have d2 : (x != 0) = true := by simpa using hx
    clear hx
    aa fail
    ax
    exact ⟨aQ (by rw [HO.out, if_pos HX.out]), rfl⟩
  by_cases k1 : k = 1
  ·subst k1
   have HX := ag (hd.out (by omega))
   by_cases hy : y = 0
   ·subst hy
    aa fail
    cz
    case rel => exact ⟨2, by omega, by aH, fun _ => HX.out, fun _ => (by first | rfl | trivial)⟩
    case measure => simp [intOf]
   ·have d1 : (y == 0) = false := by simpa using hy
    have d2 : (y != 0) = true := by simpa using hy
    clear hy
    aa fail
    ax
    exact ⟨aQ (by rw [HO.out, if_neg (fun e => e HX.out)]), rfl⟩
  ·obtain rfl : k = 2 := by omega
   have HX := ag (hd.out (by omega))
   have HY := ag (hd2.out (by omega))
   aa fail
   ax
   exact ⟨aQ (by rw [HO.out, if_neg (fun e => e HX.out), HY.out]), rfl⟩
theorem orQ (a b : List Int) : UY (mJ (b.length : Int) (a.length : Int)) (cmpL a b) = gR a b := by
 unfold UY mJ gR
 by_cases h1 : b.length < a.length
 ·rw [if_pos (show (b.length : Int) < (a.length : Int) by omega), if_pos (by decide), if_pos h1]
 ·rw [if_neg (show ¬ (b.length : Int) < (a.length : Int) by omega), if_neg h1]
  by_cases h2 : a.length < b.length
  ·rw [if_pos (show (a.length : Int) < (b.length : Int) by omega), if_pos (by decide), if_pos h2]
  ·rw [if_neg (show ¬ (a.length : Int) < (b.length : Int) by omega), if_neg h2, if_neg (fun e => e rfl)]
set_option maxHeartbeats 1000000 in
theorem Zu (S T : Nat → Prop) (w : World) (v u : Value) (a b : List Int) (h : an S w v a) (h2 : an T w u b) (hn : a.length ≤ 1000000) (hm : b.length ≤ 1000000) :
  Calls Tryz.prog 94 #[v, u] w fun e w' => e = .returned (.int .i64 (gR a b)) ∧ ∃ n os, w' = grow (w.drewN n) os := by
 have HC := ag (Pz (b.length : Int) (a.length : Int) w)
 have HL := ag (PA S T w v u a b h h2 hn hm)
 have HQ := ag (orQ a b)
 obtain ⟨p, cap, rfl, -, -⟩ := aC.open h
 obtain ⟨q, tS, rfl, -, -⟩ := aC.open h2
 have HOR : Hid (Calls Tryz.prog 95 #[.slice (some ⟨w.heap.size, 0, none⟩) 2 2] (w.alloc (.cells #[.int .i64 (mJ (b.length : Int) (a.length : Int)), .int .i64 (cmpL a b)] 3)) fun e w' => e = .returned (.int .i64 (gR a b)) ∧ w.alloc (.cells #[.int .i64 (mJ (b.length : Int) (a.length : Int)), .int .i64 (cmpL a b)] 3) = w') := by
  have h := or_t (w.alloc (.cells #[.int .i64 (mJ (b.length : Int) (a.length : Int)), .int .i64 (cmpL a b)] 3)) w.heap.size _ _ (dg w _ _ _) (dy w _ _ _)
  rw [HQ.out] at h; exact h
 have Uq : Hid (∃ n os, w.alloc (.cells #[.int .i64 (mJ (b.length : Int) (a.length : Int)), .int .i64 (cmpL a b)] 3) = grow (w.drewN n) os) := ⟨0, #[_], alloc_eq_grow w _⟩
 clear h h2
 aq Tryz.func94, Tryz.ntmps94
 aa fail
 refine HC.out.mono ?_
 rintro e w' ⟨rfl, rfl⟩
 aa fail
 refine HL.out.mono ?_
 rintro e w' ⟨rfl, rfl⟩
 aa fail
 refine HOR.out.mono ?_
 rintro e w' ⟨rfl, rfl⟩
 aa fail
 ax
 exact ⟨rfl, Uq.out⟩
end
section
open Go.RowKit Go.Deep
def bQ (names : List ByteArray) (own : List (List Int)) (j m : Nat) : aJ :=
  ⟨[-1, 0, 0] ++ ((List.range j).map (fun k => lastQ own (gi (gl own k) 0) k) ++ (List.range m).map fun b => lastQ own ((b + 1 : Nat) : Int) own.length),
   [ByteArray.empty, gs names 0, ByteArray.empty] ++ (List.replicate j ByteArray.empty ++ (List.range m).map fun b => gs names (b + 1))⟩
theorem Zv (names : List ByteArray) (own : List (List Int)) (j : Nat) : (bQ names own j 0).push (lastQ own (gi (gl own j) 0) j) ByteArray.empty = bQ names own (j + 1) 0 := by
 unfold bQ aJ.push
 simp [List.range_succ, List.replicate_succ']
theorem V8 (names : List ByteArray) (own : List (List Int)) (j m : Nat) : (bQ names own j m).push (lastQ own ((m + 1 : Nat) : Int) own.length) (gs names (m + 1)) = bQ names own j (m + 1) := by
 unfold bQ aJ.push
 simp [List.range_succ]
theorem Zw (names : List ByteArray) (own : List (List Int)) (j m : Nat) : (bQ names own j m).ps.length = 3 + j + m ∧ (bQ names own j m).ns.length = 3 + j + m := by
 unfold bQ
 constructor <;> simp <;> omega
structure AX (tb r o n : Nat) (W : World) (P N ov nv : Value) (own : List (List Int)) (jT : List Int) : Prop where
 lt : tb < r ∧ r < o ∧ o < n ∧ n < W.heap.size
 yK : ∀ b, P.ownBlock = some b → b ≠ r ∧ b ≠ o ∧ b ≠ n ∧ nv.ownBlock ≠ some b
 yL : ∀ b, N.ownBlock = some b → b ≠ r ∧ b ≠ o ∧ b ≠ n ∧ nv.ownBlock ≠ some b
 rb : W.heap[r]? = some (Obj.cells #[.int .i64 2] 3 (0, 0))
 ob : W.heap[o]? = some (Obj.cells #[ov] 23 (0, 0))
 nb : W.heap[n]? = some (Obj.cells #[nv] 26 (0, 0))
 rows : aR (fun b => b ≠ tb ∧ b ≠ n ∧ some b ≠ P.ownBlock ∧ some b ≠ N.ownBlock ∧ some b ≠ nv.ownBlock) W ov own
 jT : ay (n + 1) 3 W nv (jT.map (Value.int .i64))
section
variable {tb r o n : Nat} {W X : World} {P N P' N' ov nv yM : Value} {own : List (List Int)} {jT : List Int}
theorem AX.gk (h : AX tb r o n W P N ov nv own jT) (k : GK tb W X P N P' N') : AX tb r o n X P' N' ov nv own jT := by
 obtain ⟨l1, l2, l3, l4⟩ := h.lt
 have oa : ∀ {Q Q' : Value}, (∀ b, Q'.ownBlock = some b → Q.ownBlock = some b ∨ W.heap.size ≤ b) → (∀ b, Q.ownBlock = some b → b ≠ r ∧ b ≠ o ∧ b ≠ n ∧ nv.ownBlock ≠ some b) → ∀ b, Q'.ownBlock = some b → b ≠ r ∧ b ≠ o ∧ b ≠ n ∧ nv.ownBlock ≠ some b := fun h1 h2 b hb => by
  rcases h1 b hb with h3 | h3
  ·exact h2 b h3
  ·exact ⟨by omega, by omega, by omega, fun e => by have := (aD h.jT e).2; omega⟩
 have bl : ∀ b, b < W.heap.size → b ≠ tb → (∀ c, P.ownBlock = some c → b ≠ c) → (∀ c, N.ownBlock = some c → b ≠ c) → X.heap[b]? = W.heap[b]? := fun b hb h1 h2 h3 => k.block b hb h1 (fun e => h2 b e.symm rfl) (fun e => h3 b e.symm rfl)
 refine ⟨⟨l1, l2, l3, Nat.lt_of_lt_of_le l4 k.size⟩, oa k.gA h.yK, oa k.gB h.yL, ?_, ?_, ?_, ?_, ?_⟩
 ·rw [bl r (by omega) (by omega) (fun c hc e => (h.yK c hc).1 e.symm) (fun c hc e => (h.yL c hc).1 e.symm)]; exact h.rb
 ·rw [bl o (by omega) (by omega) (fun c hc e => (h.yK c hc).2.1 e.symm) (fun c hc e => (h.yL c hc).2.1 e.symm)]; exact h.ob
 ·rw [bl n (by omega) (by omega) (fun c hc e => (h.yK c hc).2.2.1 e.symm) (fun c hc e => (h.yL c hc).2.2.1 e.symm)]; exact h.nb
 ·refine ((h.rows.sub (T := fun b => (b ≠ tb ∧ b ≠ n ∧ some b ≠ P.ownBlock ∧ some b ≠ N.ownBlock ∧ some b ≠ nv.ownBlock) ∧ b < W.heap.size) fun b hb hl => ⟨hb, hl⟩).keep fun b hb hl => k.block b hl hb.1.1 hb.1.2.2.1 hb.1.2.2.2.1).sub fun b hb _ => ⟨hb.1.1, hb.1.2.1, fun e => ?_, fun e => ?_, hb.1.2.2.2.2⟩
  ·rcases k.gA b e.symm with h1 | h1
   ·exact hb.1.2.2.1 h1.symm
   ·have := hb.2; omega
  ·rcases k.gB b e.symm with h1 | h1
   ·exact hb.1.2.2.2.1 h1.symm
   ·have := hb.2; omega
 ·exact h.jT.ef fun b hb => bl b (aD h.jT hb).2 (by have := (aD h.jT hb).1; omega) (fun c hc e => (h.yK c hc).2.2.2 (e ▸ hb)) (fun c hc e => (h.yL c hc).2.2.2 (e ▸ hb))
theorem AX.up (h : AX tb r o n W P N ov nv own jT) (k : Up W X) : AX tb r o n X P N ov nv own jT := h.gk (GK.yY k)
theorem AX.cells (h : AX tb r o n W P N ov nv own jT) : W.cell? ⟨r, 0, none⟩ = some (.int .i64 2) ∧ W.cell? ⟨o, 0, none⟩ = some ov ∧ W.cell? ⟨n, 0, none⟩ = some nv ∧ W.frozen? ⟨n, 0, none⟩ = false := by
 refine ⟨?_, ?_, ?_, ?_⟩ <;> simp [World.cell?, World.frozen?, h.rb, h.ob, h.nb]
theorem AX.app {B0 : Nat} {t : aJ} {z : Int} (h : AX tb r o n W P N ov nv own jT) (hG : GS tb B0 W P N t) {w8 : World} (ho : ay (n + 1) 3 w8 yM (jT.map (Value.int .i64) ++ [.int .i64 z])) (hg : W.grownBy w8 nv.ownBlock) (fC : ∀ b, yM.ownBlock = some b → nv.ownBlock = some b ∨ W.heap.size ≤ b) :
  (w8.cell? ⟨n, 0, none⟩ = some nv ∧ w8.frozen? ⟨n, 0, none⟩ = false) ∧ AX tb r o n (w8.setCell ⟨n, 0, none⟩ yM) P N ov yM own (jT ++ [z]) ∧ GS tb B0 (w8.setCell ⟨n, 0, none⟩ yM) P N t ∧ (∀ w0, Up w0 W → w0.heap.size ≤ tb → Up w0 (w8.setCell ⟨n, 0, none⟩ yM)) := by
 obtain ⟨l1, l2, l3, l4⟩ := h.lt
 have hnlt : ∀ b, nv.ownBlock = some b → n < b := fun b hb => (aD h.jT hb).1
 have h8 : ∀ b, b < W.heap.size → nv.ownBlock ≠ some b → w8.heap[b]? = W.heap[b]? := fun b hb hne => hg.block b hb fun e => hne e.symm
 have hx : ∀ b, b < W.heap.size → b ≠ n → nv.ownBlock ≠ some b → (w8.setCell ⟨n, 0, none⟩ yM).heap[b]? = W.heap[b]? := fun b hb hn hne => (blk_setCell_other _ _ _ _ hn).trans (h8 b hb hne)
 have Zx : w8.heap[n]? = some (Obj.cells #[nv] 26 (0, 0)) := (h8 n l4 fun e => by have := hnlt n e; omega).trans h.nb
 have hnx : (w8.setCell ⟨n, 0, none⟩ yM).heap[n]? = some (Obj.cells #[yM] 26 (0, 0)) := by simp [World.setCell, Array.getElem?_modify, Zx]
 have hsz : (w8.setCell ⟨n, 0, none⟩ yM).heap.size = w8.heap.size := World.size_setCell _ _ _
 have hle := hg.size
 have oa : ∀ {Q : Value}, (∀ b, Q.ownBlock = some b → b < W.heap.size) → (∀ b, Q.ownBlock = some b → b ≠ r ∧ b ≠ o ∧ b ≠ n ∧ nv.ownBlock ≠ some b) → ∀ b, Q.ownBlock = some b → b ≠ r ∧ b ≠ o ∧ b ≠ n ∧ yM.ownBlock ≠ some b := fun hq h2 b hb => by
  obtain ⟨h3, h4, h5, h6⟩ := h2 b hb
  refine ⟨h3, h4, h5, fun e => ?_⟩
  rcases fC b e with h7 | h7
  ·exact h6 h7
  ·have := hq b hb; omega
 have Ld : ∀ b, P.ownBlock = some b → b < W.heap.size := fun b hb => (aD hG.tl.bJ hb).2
 have Le : ∀ b, N.ownBlock = some b → b < W.heap.size := fun b hb => (aD hG.tl.bW hb).2
 refine ⟨⟨by simp [World.cell?, Zx], by simp [World.frozen?, Zx]⟩, ⟨⟨l1, l2, l3, by omega⟩, oa Ld h.yK, oa Le h.yL, ?_, ?_, hnx, ?_, ?_⟩, ⟨?_, ⟨?_, ?_, hG.tl.apart⟩, hG.lo.1, by have := hG.lo.2; omega⟩, fun w0 hu hw => ?_⟩
 ·rw [hx r (by omega) (by omega) fun e => by have := hnlt r e; omega]; exact h.rb
 ·rw [hx o (by omega) (by omega) fun e => by have := hnlt o e; omega]; exact h.ob
 ·refine ((h.rows.sub (T := fun b => (b ≠ tb ∧ b ≠ n ∧ some b ≠ P.ownBlock ∧ some b ≠ N.ownBlock ∧ some b ≠ nv.ownBlock) ∧ b < W.heap.size) fun b hb hl => ⟨hb, hl⟩).keep fun b hb hl => hx b hl hb.1.2.1 fun e => hb.1.2.2.2.2 e.symm).sub fun b hb _ => ⟨hb.1.1, hb.1.2.1, hb.1.2.2.1, hb.1.2.2.2.1, fun e => ?_⟩
  rcases fC b e.symm with h7 | h7
  ·exact hb.1.2.2.2.2 h7.symm
  ·have := hb.2; omega
 ·rw [List.map_append]
  exact ho.kept fun b hb _ => blk_setCell_other _ _ _ _ (show b ≠ n by omega)
 ·rw [hx tb (by omega) (by omega) fun e => by have := hnlt tb e; omega]; exact hG.box
 ·exact hG.tl.bJ.ef fun b hb => hx b (Ld b hb) (h.yK b hb).2.2.1 (h.yK b hb).2.2.2
 ·exact hG.tl.bW.ef fun b hb => hx b (Le b hb) (h.yL b hb).2.2.1 (h.yL b hb).2.2.2
 ·refine ⟨hg.os.trans hu.os, hg.tape.trans hu.tape, hg.output.trans hu.output, by have := hu.size; omega, fun b hb => ?_⟩
  rw [hx b (by have := hu.size; omega) (by omega) fun e => by have := hnlt b e; omega]
  exact hu.block b hb
end
theorem GK.Lf {tb : Nat} {w0 W X : World} {P N P' N' : Value} {t : aJ} {B0 : Nat} (h : GK tb W X P N P' N') (hG : GS tb B0 W P N t) (hu : Up w0 W) (hw : w0.heap.size ≤ tb) : Up w0 X :=
 ⟨h.os.trans hu.os, h.tape.trans hu.tape, h.output.trans hu.output, Nat.le_trans hu.size h.size, fun b hb => by
  have h1 := hG.lo
  rw [h.block b (by omega) (by omega) (fun e => by have := (aD hG.tl.bJ e.symm).1; omega) (fun e => by have := (aD hG.tl.bW e.symm).1; omega)]
  exact hu.block b hb⟩
theorem ay.slAtO {base : Nat} {e : TypeId} {w : World} {v : Value} {vs : List Value} (h : ay base e w v vs) : aC (fun b => v.ownBlock = some b) w v vs.length (fun k => vs.getD k undef) := by
 obtain ⟨q, c, hv, hn, h0 | ⟨b, off, hq, hS, hc⟩⟩ := h.rV
 ·exact ⟨q, c, hv, hn, .inl h0⟩
 ·subst hq; subst hv
  exact ⟨_, c, rfl, hn, .inr ⟨b, off, rfl, rfl, hc⟩⟩
theorem AX.start {tb r o B0 base : Nat} {w6 cV : World} {P N ov v11 : Value} {t : aJ} {own : List (List Int)} {ps : List (List Int × Value)} (hG : GS tb B0 w6 P N t) (hr : r = w6.heap.size) (hb : r < base) (ho : r < o) (hu : Up w6 cV) (hrb : cV.heap[r]? = some (Obj.cells #[.int .i64 2] 3 (0, 0))) (UZ : cV.heap[o]? = some (Obj.cells #[ov] 23 (0, 0)))
  (hR : vg base cV v11 ps) (hm : ps.map (·.1) = own) (hS : ∀ p ∈ ps, an (fun b => b < tb) cV p.2 p.1) (hne : v11.ownBlock ≠ some o) :
  (cV.cell? ⟨o, 0, none⟩ = some ov ∧ cV.frozen? ⟨o, 0, none⟩ = false) ∧
  AX tb r o cV.heap.size ((cV.setCell ⟨o, 0, none⟩ v11).alloc (.cells #[.slice none 0 0] 26)) P N v11 (.slice none 0 0) own [] ∧ Up w6 ((cV.setCell ⟨o, 0, none⟩ v11).alloc (.cells #[.slice none 0 0] 26)) := by
 have l6 := hu.size
 have KH : o < cV.heap.size := (Array.getElem?_eq_some_iff.1 UZ).1
 have hsz : (cV.setCell ⟨o, 0, none⟩ v11).heap.size = cV.heap.size := World.size_setCell _ _ _
 have hx : ∀ b, b < cV.heap.size → b ≠ o → ((cV.setCell ⟨o, 0, none⟩ v11).alloc (.cells #[.slice none 0 0] 26)).heap[b]? = cV.heap[b]? := fun b hb xQ =>
  ((Up.alloc (cV.setCell ⟨o, 0, none⟩ v11) (.cells #[.slice none 0 0] 26)).block b (by rw [hsz]; exact hb)).trans (blk_setCell_other _ _ _ _ xQ)
 have Ld : ∀ b, P.ownBlock = some b → tb < b ∧ b < w6.heap.size := fun b hb => by have := aD hG.tl.bJ hb; have := hG.lo; omega
 have Le : ∀ b, N.ownBlock = some b → tb < b ∧ b < w6.heap.size := fun b hb => by have := aD hG.tl.bW hb; have := hG.lo; omega
 have hvl : ∀ b, v11.ownBlock = some b → base ≤ b ∧ b < cV.heap.size := fun b hb => aD hR.own hb
 have hlo := hG.lo
 have ho8 : (cV.setCell ⟨o, 0, none⟩ v11).heap[o]? = some (Obj.cells #[v11] 23 (0, 0)) := by simp [World.setCell, Array.getElem?_modify, UZ]
 refine ⟨⟨by simp [World.cell?, UZ], by simp [World.frozen?, UZ]⟩, ⟨⟨by omega, ho, KH, by rw [World.size_alloc, hsz]; omega⟩, fun b hb => ?_, fun b hb => ?_, ?_, ?_, ?_, ?_, ay.nil _ _ _⟩, ?_⟩
 ·have := Ld b hb; exact ⟨by omega, by omega, by omega, fun e => by cases e⟩
 ·have := Le b hb; exact ⟨by omega, by omega, by omega, fun e => by cases e⟩
 ·rw [hx r (by omega) (by omega)]; exact hrb
 ·exact ((Up.alloc _ _).block o (by rw [hsz]; exact KH)).trans ho8
 ·have h := blk_alloc_new (cV.setCell ⟨o, 0, none⟩ v11) (.cells #[.slice none 0 0] 26)
  rw [hsz] at h; exact h
 ·subst hm
  refine ⟨fun k => (ps.map (·.2)).getD k undef, ?_, fun k hk => ?_⟩
  ·have h1 := hR.own.slAtO
   rw [List.length_map] at h1 ⊢
   refine ((h1.sub (T := fun b => v11.ownBlock = some b ∧ b < cV.heap.size) fun b hb hl => ⟨hb, hl⟩).keep fun b hb hl => hx b hl fun e => hne (e ▸ hb.1)).sub fun b hb _ => ?_
   obtain ⟨cB, bK⟩ := hb
   have := hvl b cB
   exact ⟨by omega, by omega, fun e => by have := Ld b e.symm; omega, fun e => by have := Le b e.symm; omega, fun e => by cases e⟩
  ·have hk' : k < ps.length := by simpa using hk
   have h2 := hS ps[k] (List.getElem_mem hk')
   have e : gl (ps.map (·.1)) k = ps[k].1 := by simp [gl, hk']
   have e2 : (ps.map (·.2)).getD k undef = ps[k].2 := by simp [hk']
   rw [e]
   show an _ _ ((ps.map (·.2)).getD k undef) _
   rw [e2]
   refine (h2.keep fun b hb hl => hx b hl (by omega)).sub fun b hb _ => ⟨by omega, by omega, fun e => by have := Ld b e.symm; omega, fun e => by have := Le b e.symm; omega, fun e => by cases e⟩
 ·refine Up.trans (b := cV.setCell ⟨o, 0, none⟩ v11) ?_ (Up.alloc _ _)
  exact Below.setCell (p := ⟨o, 0, none⟩) hu (show w6.heap.size ≤ o by omega) _
end
section
def tX : aJ := ⟨[-1, 0, 1, 1, 0, 4, 4], [⟨#[]⟩, ⟨#[]⟩, ⟨#[65]⟩, ⟨#[66]⟩, ⟨#[]⟩, ⟨#[67]⟩, ⟨#[68]⟩]⟩
def uX : aJ := ⟨[-1, 0, 0, 2, 2, 4, 4], [⟨#[]⟩, ⟨#[65]⟩, ⟨#[]⟩, ⟨#[66]⟩, ⟨#[]⟩, ⟨#[67]⟩, ⟨#[68]⟩]⟩
def mu : List ByteArray := [⟨#[65]⟩, ⟨#[66]⟩, ⟨#[67]⟩, ⟨#[68]⟩]
def Lg : ByteArray := ⟨#[40, 40, 65, 44, 66, 41, 44, 40, 67, 44, 68, 41, 41, 59]⟩
def U0 : ByteArray := ⟨#[40, 65, 44, 40, 66, 44, 40, 67, 44, 68, 41, 41, 41, 59]⟩
theorem Qo : paE Lg = 0 ∧ Er Lg = tX := by decide +kernel
theorem Qp : paE U0 = 0 ∧ Er U0 = uX := by decide +kernel
theorem U1 : aT tX mu = 0 ∧ aI tX mu = [[2, 3]] := by decide +kernel
theorem U2 : jt tX uX mu = 0 ∧ xh tX uX mu = 0 := by decide +kernel
theorem U3 : dJ mu [[2, 3]] = 0 ∧ cr mu [[2, 3]] = uX := by
 refine ⟨by decide +kernel, ?_⟩
 unfold cr qK
 rw [RE (bT mu (aM [[2, 3]]))]
 decide +kernel
theorem U4 : Pk uX = 0 ∧ KC uX = [40, 65, 44, 40, 66, 44, 40, 67, 44, 68, 41, 41, 41, 59] := by decide +kernel
theorem Zy : EH 4 [1, 2] [2, 3] = false ∧ vY 4 [1, 2] [2, 3] = 0 := by decide +kernel
end
section
open Go.RowKit Go.Deep
end
section
end
section
open Go.RowKit Go.Deep
section
variable {tb B0 : Nat} {w W X : World} {P N P' N' : Value} {t u : aJ}
theorem GW.putP (h : GW tb B0 W P N t) (hk : GK tb W X P N P' N) (hs : X.heap[tb]? = W.heap[tb]?) (ht : TL B0 X P' N u.ps u.ns) :
  GW tb B0 (X.setCell ⟨tb, 0, none⟩ P') P' N u ∧ GK tb W (X.setCell ⟨tb, 0, none⟩ P') P N P' N := by
 have h1 := hs.trans h.box
 have hl := h.lt
 have hp : P'.ownBlock ≠ some tb := fun e => by
  rcases hk.gA tb e with h2 | h2
  ·exact h.lo.1.1 h2
  ·omega
 have cg : ∀ b, b ≠ tb → (X.setCell ⟨tb, 0, none⟩ P').heap[b]? = X.heap[b]? := fun b hb => by rw [blk_setCell_other _ _ _ _ hb]
 have hsz : (X.setCell ⟨tb, 0, none⟩ P').heap.size = X.heap.size := by simp [World.size_setCell]
 refine ⟨⟨by simp [World.setCell, Array.getElem?_modify, h1], ⟨ht.bJ.ef fun b hb => cg b (fun e => hp (by rw [hb, e])), ht.bW.ef fun b hb => cg b (fun e => h.lo.1.2 (by rw [hb, e])), ht.apart⟩, ⟨hp, h.lo.1.2⟩, by rw [hsz]; exact Nat.le_trans h.lo.2 hk.size⟩, hk.os, hk.tape, hk.output, by rw [hsz]; exact hk.size, fun b hb h2 h3 h4 => (cg b h2).trans (hk.block b hb h2 h3 h4), hk.gA, hk.gB⟩
theorem GW.Zz (h : GW tb B0 W P N t) (hk : GK tb W X P N P N') (hs : X.heap[tb]? = W.heap[tb]?) (ht : TL B0 X P N' u.ps u.ns) :
  GW tb B0 (X.setCell ⟨tb, 1, none⟩ N') P N' u ∧ GK tb W (X.setCell ⟨tb, 1, none⟩ N') P N P N' := by
 have h1 := hs.trans h.box
 have hl := h.lt
 have hn : N'.ownBlock ≠ some tb := fun e => by
  rcases hk.gB tb e with h2 | h2
  ·exact h.lo.1.2 h2
  ·omega
 have cg : ∀ b, b ≠ tb → (X.setCell ⟨tb, 1, none⟩ N').heap[b]? = X.heap[b]? := fun b hb => by rw [blk_setCell_other _ _ _ _ hb]
 have hsz : (X.setCell ⟨tb, 1, none⟩ N').heap.size = X.heap.size := by simp [World.size_setCell]
 refine ⟨⟨by simp [World.setCell, Array.getElem?_modify, h1], ⟨ht.bJ.ef fun b hb => cg b (fun e => h.lo.1.1 (by rw [hb, e])), ht.bW.ef fun b hb => cg b (fun e => hn (by rw [hb, e])), ht.apart⟩, ⟨h.lo.1.1, hn⟩, by rw [hsz]; exact Nat.le_trans h.lo.2 hk.size⟩, hk.os, hk.tape, hk.output, by rw [hsz]; exact hk.size, fun b hb h2 h3 h4 => (cg b h2).trans (hk.block b hb h2 h3 h4), hk.gA, hk.gB⟩
theorem GW.CA (h : GW tb B0 W P N t) {g cap k : Nat} {z : Int} (ho : ay B0 3 X (.slice (some ⟨g, 0, none⟩) k cap) (t.ps.map (Value.int .i64) ++ [.int .i64 z])) (hg : W.grownBy X P.ownBlock) (fC : P.ownBlock = some g ∨ W.heap.size ≤ g) : X.cell? ⟨tb, 0, none⟩ = some P ∧ X.frozen? ⟨tb, 0, none⟩ = false := by
 have hR := (RW.start h.tl ⟨⟨h.lt, h.lo.1⟩, h.lo.2⟩).pI ho hg fC
 exact ⟨(hR.cells h.box).1, hR.frozen h.box 0⟩
theorem GW.M5 (h : GW tb B0 W P N t) {g cap k : Nat} {z : ByteArray} (ho : ay B0 9 X (.slice (some ⟨g, 0, none⟩) k cap) (t.ns.map Value.string ++ [.string z])) (hg : W.grownBy X N.ownBlock) (fC : N.ownBlock = some g ∨ W.heap.size ≤ g) : X.cell? ⟨tb, 1, none⟩ = some N ∧ X.frozen? ⟨tb, 1, none⟩ = false := by
 have hR := (RW.start h.tl ⟨⟨h.lt, h.lo.1⟩, h.lo.2⟩).ou ho hg fC
 exact ⟨(hR.cells h.box).2, hR.frozen h.box 1⟩
theorem GW.U5 (h : GW tb B0 W P N t) {g cap k : Nat} {z : Int} (ho : ay B0 3 X (.slice (some ⟨g, 0, none⟩) k cap) (t.ps.map (Value.int .i64) ++ [.int .i64 z])) (hg : W.grownBy X P.ownBlock) (fC : P.ownBlock = some g ∨ W.heap.size ≤ g) :
  GW tb B0 (X.setCell ⟨tb, 0, none⟩ (.slice (some ⟨g, 0, none⟩) k cap)) (.slice (some ⟨g, 0, none⟩) k cap) N ⟨t.ps ++ [z], t.ns⟩ ∧ GK tb W (X.setCell ⟨tb, 0, none⟩ (.slice (some ⟨g, 0, none⟩) k cap)) P N (.slice (some ⟨g, 0, none⟩) k cap) N := by
 have hR := (RW.start h.tl ⟨⟨h.lt, h.lo.1⟩, h.lo.2⟩).pI ho hg fC
 exact h.putP hR.gk hR.same hR.tl
theorem GW.pushN (h : GW tb B0 W P N t) {g cap k : Nat} {z : ByteArray} (ho : ay B0 9 X (.slice (some ⟨g, 0, none⟩) k cap) (t.ns.map Value.string ++ [.string z])) (hg : W.grownBy X N.ownBlock) (fC : N.ownBlock = some g ∨ W.heap.size ≤ g) :
  GW tb B0 (X.setCell ⟨tb, 1, none⟩ (.slice (some ⟨g, 0, none⟩) k cap)) P (.slice (some ⟨g, 0, none⟩) k cap) ⟨t.ps, t.ns ++ [z]⟩ ∧ GK tb W (X.setCell ⟨tb, 1, none⟩ (.slice (some ⟨g, 0, none⟩) k cap)) P N P (.slice (some ⟨g, 0, none⟩) k cap) := by
 have hR := (RW.start h.tl ⟨⟨h.lt, h.lo.1⟩, h.lo.2⟩).ou ho hg fC
 exact h.Zz hR.gk hR.same hR.tl
end
section
variable {l : List (List Int)} {set : List Int} {names : List ByteArray}
theorem V9 (h : wh l) (hs : set.Pairwise (· < ·)) {i : Nat} (hi : i < l.length) (hb : qD l set i = true) : (gl l i).length < set.length ∧ gl l i ≠ [] ∧ ∀ x ∈ gl l i, x ∈ set := by
 obtain ⟨a1, a2, _⟩ := rN.1 hb
 have hl := h.gn _ (iX hi)
 have l1 := eB hl.1 hs a2
 have l2 : (gl l i).length ≠ set.length := fun e => a1 (me hl.1 hs fun x => ⟨a2 x, kz hl.1 hs a2 e x⟩)
 exact ⟨by omega, fun e => by rw [e] at hl; simp at hl, a2⟩
def qP (names : List ByteArray) (l : List (List Int)) (d : Nat) (set : List Int) (n : Nat) : List RT := (grI l set n).map (grR names l d)
def nY (names : List ByteArray) (l : List (List Int)) (d : Nat) (set : List Int) (n : Nat) : List RT := qP names l d set l.length ++ ((fq l set l.length).take n).map (gE names)
theorem IB (names : List ByteArray) (l : List (List Int)) (d : Nat) (set : List Int) (n : Nat) : qP names l d set (n + 1) = qP names l d set n ++ if qD l set n then [grR names l d (gl l n)] else [] := by
 unfold qP
 rw [grI, List.map_append]
 congr 1
 split <;> rfl
theorem Wa (names : List ByteArray) (l : List (List Int)) (d : Nat) (set : List Int) : ∀ {n m : Nat}, n ≤ m → qP names l d set n <+: qP names l d set m := by
 intro n m h
 induction m with
 | zero => rw [Nat.le_zero.1 h]; exact List.prefix_refl _
 | succ m ih =>
  by_cases e : n = m + 1
  ·rw [e]; exact List.prefix_refl _
  ·rw [IB]
   exact (ih (by omega)).trans (List.prefix_append _ _)
theorem IC (names : List ByteArray) (l : List (List Int)) (d : Nat) (set : List Int) : nY names l d set 0 = qP names l d set l.length := by unfold nY; simp
theorem Td (names : List ByteArray) (l : List (List Int)) (d : Nat) (set : List Int) {n : Nat} (hn : n < (fq l set l.length).length) : nY names l d set (n + 1) = nY names l d set n ++ [gE names (gi (fq l set l.length) n)] := by
 unfold nY
 have hg : gi (fq l set l.length) n = (fq l set l.length)[n] := by simp [gi, hn]
 rw [List.take_succ_eq_append_getElem hn, List.map_append, ← List.append_assoc, hg]
 rfl
theorem Dl (names : List ByteArray) (l : List (List Int)) (d : Nat) {set : List Int} (h : set.length ≠ 1) : grR names l (d + 1) set = .node ByteArray.empty (nY names l d set (fq l set l.length).length) := by
 rw [grR, if_neg h]
 unfold nY qP
 rw [List.take_length]
theorem Lh (names : List ByteArray) (l : List (List Int)) (d : Nat) (x : Int) : grR names l (d + 1) [x] = gE names x := by rw [grR, if_pos (by simp)]; rfl
theorem wu {a b : List RT} (h : a <+: b) : sizeRs a ≤ sizeRs b := by
 obtain ⟨c, rfl⟩ := h
 have hX : ∀ x : List RT, sizeRs (x ++ c) = sizeRs x + sizeRs c := fun x => by
  induction x with
  | nil => rw [sizeRs]; simp
  | cons y x ih => rw [List.cons_append, sizeRs, sizeRs, ih]; omega
 rw [hX]; omega
theorem Li (names : List ByteArray) (l : List (List Int)) (d : Nat) (set : List Int) (n : Nat) : nY names l d set n <+: nY names l d set (fq l set l.length).length := by
 unfold nY
 rw [List.take_length]
 exact List.prefix_append_right_inj _ |>.2 ((List.take_prefix _ _).map _)
theorem ID (l : List (List Int)) (set : List Int) (n : Nat) : fq l set (n + 1) = if qD l set n then (fq l set n).filter (fun x => !(gl l n).contains x) else fq l set n := rfl
theorem Dm {n : Nat} {x : Int} (h : x ∈ fq l set n) : x ∈ set := (rM.1 h).1
theorem Dn (l : List (List Int)) (set : List Int) : ∀ n, (fq l set n).length ≤ set.length
 | 0 => Nat.le_refl _
 | n + 1 => by
  have := Dn l set n
  rw [ID]
  split
  ·exact Nat.le_trans (List.length_filter_le _ _) this
  ·exact this
def IE (l : List (List Int)) (set : List Int) (i k : Nat) : Bool := !decide (gl l k = gl l i) && (!decide (gl l k = set) && (fh (gl l i) (gl l k) && fh (gl l k) set))
def Lj (l : List (List Int)) (i k : Nat) : Bool := decide (k < i) && decide (gl l k = gl l i)
def Af (l : List (List Int)) (set : List Int) (i n : Nat) : Bool := (List.range n).all fun k => !IE l set i k && !Lj l i k
theorem Te (l : List (List Int)) (set : List Int) (i n : Nat) : Af l set i (n + 1) = (Af l set i n && (!IE l set i n && !Lj l i n)) := by
 unfold Af; rw [List.range_succ, List.all_append]; simp
theorem ZA (l : List (List Int)) (set : List Int) (i : Nat) : qD l set i = (!decide (gl l i = set) && (fh (gl l i) set && Af l set i l.length)) := rfl
end
end
section
open Go.RowKit Go.Deep
end
end Go.Proofs.YtpnmblnahjjmhaaGreat
