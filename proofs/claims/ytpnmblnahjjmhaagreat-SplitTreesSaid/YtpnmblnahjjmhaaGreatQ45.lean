/- The order in which split.Build takes the splits: its closure. split.Build: what lies in .. -/
import Derived.Test.YtpnmblnahjjmhaaGreatQ1
import Derived.Test.YtpnmblnahjjmhaaGreatQ34
import Derived.Test.YtpnmblnahjjmhaaGreatQ30
import Derived.Test.YtpnmblnahjjmhaaGreatQ43
import Derived.Test.YtpnmblnahjjmhaaGreatQ36
import Derived.Test.YtpnmblnahjjmhaaGreatQ11
import Derived.Test.YtpnmblnahjjmhaaGreatQ37
import Derived.Test.YtpnmblnahjjmhaaGreatQ40
import Derived.Test.YtpnmblnahjjmhaaGreatQ24
import Derived.Test.YtpnmblnahjjmhaaGreatQ19
import Derived.Test.YtpnmblnahjjmhaaGreatQ23
import Derived.Test.YtpnmblnahjjmhaaGreatQ44
import Derived.Test.YtpnmblnahjjmhaaGreatQ15
import Derived.Test.YtpnmblnahjjmhaaGreatQ3
import Derived.Test.YtpnmblnahjjmhaaGreatQ35
set_option maxRecDepth 100000
namespace Go.Proofs.YtpnmblnahjjmhaaGreat
section
open Go.RowKit Go.Deep Go.Sort
def U0 (x y : Int) : Int := if x ≠ 0 then x else y
set_option maxHeartbeats 1000000 in
theorem or_t (w : World) (b : Nat) (x y : Int) (h0 : w.cell? ⟨b, 0, none⟩ = some (.int .i64 x)) (h1 : w.cell? ⟨b, 1, none⟩ = some (.int .i64 y)) :
  Calls Tryz.prog 95 #[.slice (some ⟨b, 0, none⟩) 2 2] w fun e w' => e = .returned (.int .i64 (U0 x y)) ∧ w = w' := by
 have HO : Hid (U0 x y = if x ≠ 0 then x else y) := rfl
 have H0 := aa h0
 have H1 := aa h1
 clear h0 h1
 go_enter Tryz.func95, Tryz.ntmps95
 go_wp2_with fail
 go_loop [5, 8] (fun _ i => ∃ k : Nat, k ≤ 2 ∧ i = .int .i64 k ∧ Hid (0 < k → x = 0) ∧ Hid (1 < k → y = 0)) (fun _ i => 2 - (intOf i).toNat)
 case atStart => exact ⟨0, Nat.zero_le _, rfl, fun h => absurd h (Nat.lt_irrefl _), fun h => absurd h (by omega)⟩
 case round =>
  obtain ⟨k, hk, rfl, hd, hd2⟩ := hrel
  have c0 := H0.out
  have c1 := H1.out
  by_cases k0 : k = 0
  ·subst k0
   by_cases hx : x = 0
   ·have HX := aa hx
    subst hx
    go_wp2_with fail
    go_round
    case rel => exact ⟨1, by omega, by go_num, fun _ => (by first | rfl | trivial), fun h => absurd h (by omega)⟩
    case measure => simp [intOf]
   ·have HX := aa hx
    have d1 : (x == 0) = false := by simpa using hx
    have d2 : (x != 0) = true := by simpa using hx
    clear hx
    go_wp2_with fail
    go_ret
    exact ⟨aI (by rw [HO.out, if_pos HX.out]), rfl⟩
  by_cases k1 : k = 1
  ·subst k1
   have HX := aa (hd.out (by omega))
   by_cases hy : y = 0
   ·subst hy
    go_wp2_with fail
    go_round
    case rel => exact ⟨2, by omega, by go_num, fun _ => HX.out, fun _ => (by first | rfl | trivial)⟩
    case measure => simp [intOf]
   ·have d1 : (y == 0) = false := by simpa using hy
    have d2 : (y != 0) = true := by simpa using hy
    clear hy
    go_wp2_with fail
    go_ret
    exact ⟨aI (by rw [HO.out, if_neg (fun e => e HX.out)]), rfl⟩
  ·obtain rfl : k = 2 := by omega
   have HX := aa (hd.out (by omega))
   have HY := aa (hd2.out (by omega))
   go_wp2_with fail
   go_ret
   exact ⟨aI (by rw [HO.out, if_neg (fun e => e HX.out), HY.out]), rfl⟩
theorem orQ (a b : List Int) : U0 (lJ (b.length : Int) (a.length : Int)) (cmpL a b) = gw a b := by
 unfold U0 lJ gw
 by_cases h1 : b.length < a.length
 ·rw [if_pos (show (b.length : Int) < (a.length : Int) by omega), if_pos (by decide), if_pos h1]
 ·rw [if_neg (show ¬ (b.length : Int) < (a.length : Int) by omega), if_neg h1]
  by_cases h2 : a.length < b.length
  ·rw [if_pos (show (a.length : Int) < (b.length : Int) by omega), if_pos (by decide), if_pos h2]
  ·rw [if_neg (show ¬ (a.length : Int) < (b.length : Int) by omega), if_neg h2, if_neg (fun e => e rfl)]
set_option maxHeartbeats 1000000 in
theorem Zx (S T : Nat → Prop) (w : World) (v u : Value) (a b : List Int) (h : af S w v a) (h2 : af T w u b) (hn : a.length ≤ 1000000) (hm : b.length ≤ 1000000) :
  Calls Tryz.prog 94 #[v, u] w fun e w' => e = .returned (.int .i64 (gw a b)) ∧ ∃ n os, w' = grow (w.drewN n) os := by
 have HC := aa (Pw (b.length : Int) (a.length : Int) w)
 have HL := aa (Px S T w v u a b h h2 hn hm)
 have HQ := aa (orQ a b)
 obtain ⟨p, cap, rfl, -, -⟩ := av.open h
 obtain ⟨q, tu, rfl, -, -⟩ := av.open h2
 have HOR : Hid (Calls Tryz.prog 95 #[.slice (some ⟨w.heap.size, 0, none⟩) 2 2] (w.alloc (.cells #[.int .i64 (lJ (b.length : Int) (a.length : Int)), .int .i64 (cmpL a b)] 3)) fun e w' => e = .returned (.int .i64 (gw a b)) ∧ w.alloc (.cells #[.int .i64 (lJ (b.length : Int) (a.length : Int)), .int .i64 (cmpL a b)] 3) = w') := by
  have h := or_t (w.alloc (.cells #[.int .i64 (lJ (b.length : Int) (a.length : Int)), .int .i64 (cmpL a b)] 3)) w.heap.size _ _ (cB w _ _ _) (cI w _ _ _)
  rw [HQ.out] at h; exact h
 have Ut : Hid (∃ n os, w.alloc (.cells #[.int .i64 (lJ (b.length : Int) (a.length : Int)), .int .i64 (cmpL a b)] 3) = grow (w.drewN n) os) := ⟨0, #[_], alloc_eq_grow w _⟩
 clear h h2
 go_enter Tryz.func94, Tryz.ntmps94
 go_wp2_with fail
 refine HC.out.mono ?_
 rintro e w' ⟨rfl, rfl⟩
 go_wp2_with fail
 refine HL.out.mono ?_
 rintro e w' ⟨rfl, rfl⟩
 go_wp2_with fail
 refine HOR.out.mono ?_
 rintro e w' ⟨rfl, rfl⟩
 go_wp2_with fail
 go_ret
 exact ⟨rfl, Ut.out⟩
end
section
open Go.RowKit Go.Deep
def bQ (names : List ByteArray) (own : List (List Int)) (j m : Nat) : aA :=
  ⟨[-1, 0, 0] ++ ((List.range j).map (fun k => lastQ own (gi (gl own k) 0) k) ++ (List.range m).map fun b => lastQ own ((b + 1 : Nat) : Int) own.length),
   [ByteArray.empty, gs names 0, ByteArray.empty] ++ (List.replicate j ByteArray.empty ++ (List.range m).map fun b => gs names (b + 1))⟩
theorem Zy (names : List ByteArray) (own : List (List Int)) (j : Nat) : (bQ names own j 0).push (lastQ own (gi (gl own j) 0) j) ByteArray.empty = bQ names own (j + 1) 0 := by
 unfold bQ aA.push
 simp [List.range_succ, List.replicate_succ']
theorem V9 (names : List ByteArray) (own : List (List Int)) (j m : Nat) : (bQ names own j m).push (lastQ own ((m + 1 : Nat) : Int) own.length) (gs names (m + 1)) = bQ names own j (m + 1) := by
 unfold bQ aA.push
 simp [List.range_succ]
theorem Zz (names : List ByteArray) (own : List (List Int)) (j m : Nat) : (bQ names own j m).ps.length = 3 + j + m ∧ (bQ names own j m).ns.length = 3 + j + m := by
 unfold bQ
 constructor <;> simp <;> omega
structure AX (tb r o n : Nat) (W : World) (P N ov nv : Value) (own : List (List Int)) (js : List Int) : Prop where
 lt : tb < r ∧ r < o ∧ o < n ∧ n < W.heap.size
 yt : ∀ b, P.ownBlock = some b → b ≠ r ∧ b ≠ o ∧ b ≠ n ∧ nv.ownBlock ≠ some b
 yu : ∀ b, N.ownBlock = some b → b ≠ r ∧ b ≠ o ∧ b ≠ n ∧ nv.ownBlock ≠ some b
 rb : W.heap[r]? = some (Obj.cells #[.int .i64 2] 3 (0, 0))
 ob : W.heap[o]? = some (Obj.cells #[ov] 23 (0, 0))
 nb : W.heap[n]? = some (Obj.cells #[nv] 26 (0, 0))
 rows : aJ (fun b => b ≠ tb ∧ b ≠ n ∧ some b ≠ P.ownBlock ∧ some b ≠ N.ownBlock ∧ some b ≠ nv.ownBlock) W ov own
 js : ah (n + 1) 3 W nv (js.map (Value.int .i64))
section
variable {tb r o n : Nat} {W X : World} {P N P' N' ov nv yw : Value} {own : List (List Int)} {js : List Int}
theorem AX.gk (h : AX tb r o n W P N ov nv own js) (k : GK tb W X P N P' N') : AX tb r o n X P' N' ov nv own js := by
 obtain ⟨l1, l2, l3, l4⟩ := h.lt
 have far : ∀ {Q Q' : Value}, (∀ b, Q'.ownBlock = some b → Q.ownBlock = some b ∨ W.heap.size ≤ b) → (∀ b, Q.ownBlock = some b → b ≠ r ∧ b ≠ o ∧ b ≠ n ∧ nv.ownBlock ≠ some b) → ∀ b, Q'.ownBlock = some b → b ≠ r ∧ b ≠ o ∧ b ≠ n ∧ nv.ownBlock ≠ some b := fun h1 h2 b hb => by
  rcases h1 b hb with h3 | h3
  ·exact h2 b h3
  ·exact ⟨by omega, by omega, by omega, fun e => by have := (ax h.js e).2; omega⟩
 have bl : ∀ b, b < W.heap.size → b ≠ tb → (∀ c, P.ownBlock = some c → b ≠ c) → (∀ c, N.ownBlock = some c → b ≠ c) → X.heap[b]? = W.heap[b]? := fun b hb h1 h2 h3 => k.block b hb h1 (fun e => h2 b e.symm rfl) (fun e => h3 b e.symm rfl)
 refine ⟨⟨l1, l2, l3, Nat.lt_of_lt_of_le l4 k.size⟩, far k.fN h.yt, far k.fO h.yu, ?_, ?_, ?_, ?_, ?_⟩
 ·rw [bl r (by omega) (by omega) (fun c hc e => (h.yt c hc).1 e.symm) (fun c hc e => (h.yu c hc).1 e.symm)]; exact h.rb
 ·rw [bl o (by omega) (by omega) (fun c hc e => (h.yt c hc).2.1 e.symm) (fun c hc e => (h.yu c hc).2.1 e.symm)]; exact h.ob
 ·rw [bl n (by omega) (by omega) (fun c hc e => (h.yt c hc).2.2.1 e.symm) (fun c hc e => (h.yu c hc).2.2.1 e.symm)]; exact h.nb
 ·refine ((h.rows.sub (T := fun b => (b ≠ tb ∧ b ≠ n ∧ some b ≠ P.ownBlock ∧ some b ≠ N.ownBlock ∧ some b ≠ nv.ownBlock) ∧ b < W.heap.size) fun b hb hl => ⟨hb, hl⟩).keep fun b hb hl => k.block b hl hb.1.1 hb.1.2.2.1 hb.1.2.2.2.1).sub fun b hb _ => ⟨hb.1.1, hb.1.2.1, fun e => ?_, fun e => ?_, hb.1.2.2.2.2⟩
  ·rcases k.fN b e.symm with h1 | h1
   ·exact hb.1.2.2.1 h1.symm
   ·have := hb.2; omega
  ·rcases k.fO b e.symm with h1 | h1
   ·exact hb.1.2.2.2.1 h1.symm
   ·have := hb.2; omega
 ·exact h.js.dz fun b hb => bl b (ax h.js hb).2 (by have := (ax h.js hb).1; omega) (fun c hc e => (h.yt c hc).2.2.2 (e ▸ hb)) (fun c hc e => (h.yu c hc).2.2.2 (e ▸ hb))
theorem AX.up (h : AX tb r o n W P N ov nv own js) (k : Up W X) : AX tb r o n X P N ov nv own js := h.gk (GK.yI k)
theorem AX.cells (h : AX tb r o n W P N ov nv own js) : W.cell? ⟨r, 0, none⟩ = some (.int .i64 2) ∧ W.cell? ⟨o, 0, none⟩ = some ov ∧ W.cell? ⟨n, 0, none⟩ = some nv ∧ W.frozen? ⟨n, 0, none⟩ = false := by
 refine ⟨?_, ?_, ?_, ?_⟩ <;> simp [World.cell?, World.frozen?, h.rb, h.ob, h.nb]
theorem AX.app {B0 : Nat} {t : aA} {z : Int} (h : AX tb r o n W P N ov nv own js) (hG : GS tb B0 W P N t) {w8 : World} (ho : ah (n + 1) 3 w8 yw (js.map (Value.int .i64) ++ [.int .i64 z])) (hg : W.grownBy w8 nv.ownBlock) (eL : ∀ b, yw.ownBlock = some b → nv.ownBlock = some b ∨ W.heap.size ≤ b) :
  (w8.cell? ⟨n, 0, none⟩ = some nv ∧ w8.frozen? ⟨n, 0, none⟩ = false) ∧ AX tb r o n (w8.setCell ⟨n, 0, none⟩ yw) P N ov yw own (js ++ [z]) ∧ GS tb B0 (w8.setCell ⟨n, 0, none⟩ yw) P N t ∧ (∀ w0, Up w0 W → w0.heap.size ≤ tb → Up w0 (w8.setCell ⟨n, 0, none⟩ yw)) := by
 obtain ⟨l1, l2, l3, l4⟩ := h.lt
 have hnlt : ∀ b, nv.ownBlock = some b → n < b := fun b hb => (ax h.js hb).1
 have h8 : ∀ b, b < W.heap.size → nv.ownBlock ≠ some b → w8.heap[b]? = W.heap[b]? := fun b hb hne => hg.block b hb fun e => hne e.symm
 have hx : ∀ b, b < W.heap.size → b ≠ n → nv.ownBlock ≠ some b → (w8.setCell ⟨n, 0, none⟩ yw).heap[b]? = W.heap[b]? := fun b hb hn hne => (blk_setCell_other _ _ _ _ hn).trans (h8 b hb hne)
 have ZA : w8.heap[n]? = some (Obj.cells #[nv] 26 (0, 0)) := (h8 n l4 fun e => by have := hnlt n e; omega).trans h.nb
 have hnx : (w8.setCell ⟨n, 0, none⟩ yw).heap[n]? = some (Obj.cells #[yw] 26 (0, 0)) := by simp [World.setCell, Array.getElem?_modify, ZA]
 have hsz : (w8.setCell ⟨n, 0, none⟩ yw).heap.size = w8.heap.size := World.size_setCell _ _ _
 have hle := hg.size
 have far : ∀ {Q : Value}, (∀ b, Q.ownBlock = some b → b < W.heap.size) → (∀ b, Q.ownBlock = some b → b ≠ r ∧ b ≠ o ∧ b ≠ n ∧ nv.ownBlock ≠ some b) → ∀ b, Q.ownBlock = some b → b ≠ r ∧ b ≠ o ∧ b ≠ n ∧ yw.ownBlock ≠ some b := fun hq h2 b hb => by
  obtain ⟨h3, h4, h5, h6⟩ := h2 b hb
  refine ⟨h3, h4, h5, fun e => ?_⟩
  rcases eL b e with h7 | h7
  ·exact h6 h7
  ·have := hq b hb; omega
 have La : ∀ b, P.ownBlock = some b → b < W.heap.size := fun b hb => (ax hG.tl.bg hb).2
 have Lb : ∀ b, N.ownBlock = some b → b < W.heap.size := fun b hb => (ax hG.tl.bA hb).2
 refine ⟨⟨by simp [World.cell?, ZA], by simp [World.frozen?, ZA]⟩, ⟨⟨l1, l2, l3, by omega⟩, far La h.yt, far Lb h.yu, ?_, ?_, hnx, ?_, ?_⟩, ⟨?_, ⟨?_, ?_, hG.tl.apart⟩, hG.lo.1, by have := hG.lo.2; omega⟩, fun w0 hu hw => ?_⟩
 ·rw [hx r (by omega) (by omega) fun e => by have := hnlt r e; omega]; exact h.rb
 ·rw [hx o (by omega) (by omega) fun e => by have := hnlt o e; omega]; exact h.ob
 ·refine ((h.rows.sub (T := fun b => (b ≠ tb ∧ b ≠ n ∧ some b ≠ P.ownBlock ∧ some b ≠ N.ownBlock ∧ some b ≠ nv.ownBlock) ∧ b < W.heap.size) fun b hb hl => ⟨hb, hl⟩).keep fun b hb hl => hx b hl hb.1.2.1 fun e => hb.1.2.2.2.2 e.symm).sub fun b hb _ => ⟨hb.1.1, hb.1.2.1, hb.1.2.2.1, hb.1.2.2.2.1, fun e => ?_⟩
  rcases eL b e.symm with h7 | h7
  ·exact hb.1.2.2.2.2 h7.symm
  ·have := hb.2; omega
 ·rw [List.map_append]
  exact ho.kept fun b hb _ => blk_setCell_other _ _ _ _ (show b ≠ n by omega)
 ·rw [hx tb (by omega) (by omega) fun e => by have := hnlt tb e; omega]; exact hG.box
 ·exact hG.tl.bg.dz fun b hb => hx b (La b hb) (h.yt b hb).2.2.1 (h.yt b hb).2.2.2
 ·exact hG.tl.bA.dz fun b hb => hx b (Lb b hb) (h.yu b hb).2.2.1 (h.yu b hb).2.2.2
 ·refine ⟨hg.os.trans hu.os, hg.tape.trans hu.tape, hg.output.trans hu.output, by have := hu.size; omega, fun b hb => ?_⟩
  rw [hx b (by have := hu.size; omega) (by omega) fun e => by have := hnlt b e; omega]
  exact hu.block b hb
end
theorem GK.Lc {tb : Nat} {w0 W X : World} {P N P' N' : Value} {t : aA} {B0 : Nat} (h : GK tb W X P N P' N') (hG : GS tb B0 W P N t) (hu : Up w0 W) (hw : w0.heap.size ≤ tb) : Up w0 X :=
 ⟨h.os.trans hu.os, h.tape.trans hu.tape, h.output.trans hu.output, Nat.le_trans hu.size h.size, fun b hb => by
  have h1 := hG.lo
  rw [h.block b (by omega) (by omega) (fun e => by have := (ax hG.tl.bg e.symm).1; omega) (fun e => by have := (ax hG.tl.bA e.symm).1; omega)]
  exact hu.block b hb⟩
theorem ah.slAtO {base : Nat} {e : TypeId} {w : World} {v : Value} {vs : List Value} (h : ah base e w v vs) : av (fun b => v.ownBlock = some b) w v vs.length (fun k => vs.getD k undef) := by
 obtain ⟨q, c, hv, hn, h0 | ⟨b, off, hq, hS, hc⟩⟩ := h.qZ
 ·exact ⟨q, c, hv, hn, .inl h0⟩
 ·subst hq; subst hv
  exact ⟨_, c, rfl, hn, .inr ⟨b, off, rfl, rfl, hc⟩⟩
theorem AX.start {tb r o B0 base : Nat} {w6 cr : World} {P N ov v11 : Value} {t : aA} {own : List (List Int)} {ps : List (List Int × Value)} (hG : GS tb B0 w6 P N t) (hr : r = w6.heap.size) (hb : r < base) (ho : r < o) (hu : Up w6 cr) (hrb : cr.heap[r]? = some (Obj.cells #[.int .i64 2] 3 (0, 0))) (U1 : cr.heap[o]? = some (Obj.cells #[ov] 23 (0, 0)))
  (hR : uK base cr v11 ps) (hm : ps.map (·.1) = own) (hS : ∀ p ∈ ps, af (fun b => b < tb) cr p.2 p.1) (hne : v11.ownBlock ≠ some o) :
  (cr.cell? ⟨o, 0, none⟩ = some ov ∧ cr.frozen? ⟨o, 0, none⟩ = false) ∧
  AX tb r o cr.heap.size ((cr.setCell ⟨o, 0, none⟩ v11).alloc (.cells #[.slice none 0 0] 26)) P N v11 (.slice none 0 0) own [] ∧ Up w6 ((cr.setCell ⟨o, 0, none⟩ v11).alloc (.cells #[.slice none 0 0] 26)) := by
 have l6 := hu.size
 have KG : o < cr.heap.size := (Array.getElem?_eq_some_iff.1 U1).1
 have hsz : (cr.setCell ⟨o, 0, none⟩ v11).heap.size = cr.heap.size := World.size_setCell _ _ _
 have hx : ∀ b, b < cr.heap.size → b ≠ o → ((cr.setCell ⟨o, 0, none⟩ v11).alloc (.cells #[.slice none 0 0] 26)).heap[b]? = cr.heap[b]? := fun b hb xA =>
  ((Up.alloc (cr.setCell ⟨o, 0, none⟩ v11) (.cells #[.slice none 0 0] 26)).block b (by rw [hsz]; exact hb)).trans (blk_setCell_other _ _ _ _ xA)
 have La : ∀ b, P.ownBlock = some b → tb < b ∧ b < w6.heap.size := fun b hb => by have := ax hG.tl.bg hb; have := hG.lo; omega
 have Lb : ∀ b, N.ownBlock = some b → tb < b ∧ b < w6.heap.size := fun b hb => by have := ax hG.tl.bA hb; have := hG.lo; omega
 have hvl : ∀ b, v11.ownBlock = some b → base ≤ b ∧ b < cr.heap.size := fun b hb => ax hR.own hb
 have hlo := hG.lo
 have ho8 : (cr.setCell ⟨o, 0, none⟩ v11).heap[o]? = some (Obj.cells #[v11] 23 (0, 0)) := by simp [World.setCell, Array.getElem?_modify, U1]
 refine ⟨⟨by simp [World.cell?, U1], by simp [World.frozen?, U1]⟩, ⟨⟨by omega, ho, KG, by rw [World.size_alloc, hsz]; omega⟩, fun b hb => ?_, fun b hb => ?_, ?_, ?_, ?_, ?_, ah.nil _ _ _⟩, ?_⟩
 ·have := La b hb; exact ⟨by omega, by omega, by omega, fun e => by cases e⟩
 ·have := Lb b hb; exact ⟨by omega, by omega, by omega, fun e => by cases e⟩
 ·rw [hx r (by omega) (by omega)]; exact hrb
 ·exact ((Up.alloc _ _).block o (by rw [hsz]; exact KG)).trans ho8
 ·have h := blk_alloc_new (cr.setCell ⟨o, 0, none⟩ v11) (.cells #[.slice none 0 0] 26)
  rw [hsz] at h; exact h
 ·subst hm
  refine ⟨fun k => (ps.map (·.2)).getD k undef, ?_, fun k hk => ?_⟩
  ·have h1 := hR.own.slAtO
   rw [List.length_map] at h1 ⊢
   refine ((h1.sub (T := fun b => v11.ownBlock = some b ∧ b < cr.heap.size) fun b hb hl => ⟨hb, hl⟩).keep fun b hb hl => hx b hl fun e => hne (e ▸ hb.1)).sub fun b hb _ => ?_
   obtain ⟨hb1, hb2⟩ := hb
   have := hvl b hb1
   exact ⟨by omega, by omega, fun e => by have := La b e.symm; omega, fun e => by have := Lb b e.symm; omega, fun e => by cases e⟩
  ·have hk' : k < ps.length := by simpa using hk
   have h2 := hS ps[k] (List.getElem_mem hk')
   have e : gl (ps.map (·.1)) k = ps[k].1 := by simp [gl, hk']
   have e2 : (ps.map (·.2)).getD k undef = ps[k].2 := by simp [hk']
   rw [e]
   show af _ _ ((ps.map (·.2)).getD k undef) _
   rw [e2]
   refine (h2.keep fun b hb hl => hx b hl (by omega)).sub fun b hb _ => ⟨by omega, by omega, fun e => by have := La b e.symm; omega, fun e => by have := Lb b e.symm; omega, fun e => by cases e⟩
 ·refine Up.trans (b := cr.setCell ⟨o, 0, none⟩ v11) ?_ (Up.alloc _ _)
  exact Below.setCell (p := ⟨o, 0, none⟩) hu (show w6.heap.size ≤ o by omega) _
end
section
def tX : aA := ⟨[-1, 0, 1, 1, 0, 4, 4], [⟨#[]⟩, ⟨#[]⟩, ⟨#[65]⟩, ⟨#[66]⟩, ⟨#[]⟩, ⟨#[67]⟩, ⟨#[68]⟩]⟩
def uX : aA := ⟨[-1, 0, 0, 2, 2, 4, 4], [⟨#[]⟩, ⟨#[65]⟩, ⟨#[]⟩, ⟨#[66]⟩, ⟨#[]⟩, ⟨#[67]⟩, ⟨#[68]⟩]⟩
def lq : List ByteArray := [⟨#[65]⟩, ⟨#[66]⟩, ⟨#[67]⟩, ⟨#[68]⟩]
def Ld : ByteArray := ⟨#[40, 40, 65, 44, 66, 41, 44, 40, 67, 44, 68, 41, 41, 59]⟩
def U2 : ByteArray := ⟨#[40, 65, 44, 40, 66, 44, 40, 67, 44, 68, 41, 41, 41, 59]⟩
theorem Ql : paE Ld = 0 ∧ Ek Ld = tX := by decide +kernel
theorem Qm : paE U2 = 0 ∧ Ek U2 = uX := by decide +kernel
theorem U3 : aL tX lq = 0 ∧ az tX lq = [[2, 3]] := by decide +kernel
theorem U4 : iQ tX uX lq = 0 ∧ wO tX uX lq = 0 := by decide +kernel
theorem U5 : cS lq [[2, 3]] = 0 ∧ bF lq [[2, 3]] = uX := by
 refine ⟨by decide +kernel, ?_⟩
 unfold bF qa
 rw [RB (bT lq (aD [[2, 3]]))]
 decide +kernel
theorem U6 : Ph uX = 0 ∧ KB uX = [40, 65, 44, 40, 66, 44, 40, 67, 44, 68, 41, 41, 41, 59] := by decide +kernel
theorem ZB : EB 4 [1, 2] [2, 3] = false ∧ vH 4 [1, 2] [2, 3] = 0 := by decide +kernel
end
section
open Go.RowKit Go.Deep
end
section
end
section
open Go.RowKit Go.Deep
section
variable {tb B0 : Nat} {w W X : World} {P N P' N' : Value} {t u : aA}
theorem GW.putP (h : GW tb B0 W P N t) (hk : GK tb W X P N P' N) (hs : X.heap[tb]? = W.heap[tb]?) (ht : TL B0 X P' N u.ps u.ns) :
  GW tb B0 (X.setCell ⟨tb, 0, none⟩ P') P' N u ∧ GK tb W (X.setCell ⟨tb, 0, none⟩ P') P N P' N := by
 have h1 := hs.trans h.box
 have hl := h.lt
 have hp : P'.ownBlock ≠ some tb := fun e => by
  rcases hk.fN tb e with h2 | h2
  ·exact h.lo.1.1 h2
  ·omega
 have bD : ∀ b, b ≠ tb → (X.setCell ⟨tb, 0, none⟩ P').heap[b]? = X.heap[b]? := fun b hb => by rw [blk_setCell_other _ _ _ _ hb]
 have hsz : (X.setCell ⟨tb, 0, none⟩ P').heap.size = X.heap.size := by simp [World.size_setCell]
 refine ⟨⟨by simp [World.setCell, Array.getElem?_modify, h1], ⟨ht.bg.dz fun b hb => bD b (fun e => hp (by rw [hb, e])), ht.bA.dz fun b hb => bD b (fun e => h.lo.1.2 (by rw [hb, e])), ht.apart⟩, ⟨hp, h.lo.1.2⟩, by rw [hsz]; exact Nat.le_trans h.lo.2 hk.size⟩, hk.os, hk.tape, hk.output, by rw [hsz]; exact hk.size, fun b hb h2 h3 h4 => (bD b h2).trans (hk.block b hb h2 h3 h4), hk.fN, hk.fO⟩
theorem GW.ZC (h : GW tb B0 W P N t) (hk : GK tb W X P N P N') (hs : X.heap[tb]? = W.heap[tb]?) (ht : TL B0 X P N' u.ps u.ns) :
  GW tb B0 (X.setCell ⟨tb, 1, none⟩ N') P N' u ∧ GK tb W (X.setCell ⟨tb, 1, none⟩ N') P N P N' := by
 have h1 := hs.trans h.box
 have hl := h.lt
 have hn : N'.ownBlock ≠ some tb := fun e => by
  rcases hk.fO tb e with h2 | h2
  ·exact h.lo.1.2 h2
  ·omega
 have bD : ∀ b, b ≠ tb → (X.setCell ⟨tb, 1, none⟩ N').heap[b]? = X.heap[b]? := fun b hb => by rw [blk_setCell_other _ _ _ _ hb]
 have hsz : (X.setCell ⟨tb, 1, none⟩ N').heap.size = X.heap.size := by simp [World.size_setCell]
 refine ⟨⟨by simp [World.setCell, Array.getElem?_modify, h1], ⟨ht.bg.dz fun b hb => bD b (fun e => h.lo.1.1 (by rw [hb, e])), ht.bA.dz fun b hb => bD b (fun e => hn (by rw [hb, e])), ht.apart⟩, ⟨h.lo.1.1, hn⟩, by rw [hsz]; exact Nat.le_trans h.lo.2 hk.size⟩, hk.os, hk.tape, hk.output, by rw [hsz]; exact hk.size, fun b hb h2 h3 h4 => (bD b h2).trans (hk.block b hb h2 h3 h4), hk.fN, hk.fO⟩
theorem GW.Cq (h : GW tb B0 W P N t) {g cap k : Nat} {z : Int} (ho : ah B0 3 X (.slice (some ⟨g, 0, none⟩) k cap) (t.ps.map (Value.int .i64) ++ [.int .i64 z])) (hg : W.grownBy X P.ownBlock) (eL : P.ownBlock = some g ∨ W.heap.size ≤ g) : X.cell? ⟨tb, 0, none⟩ = some P ∧ X.frozen? ⟨tb, 0, none⟩ = false := by
 have hR := (RW.start h.tl ⟨⟨h.lt, h.lo.1⟩, h.lo.2⟩).oC ho hg eL
 exact ⟨(hR.cells h.box).1, hR.frozen h.box 0⟩
theorem GW.M4 (h : GW tb B0 W P N t) {g cap k : Nat} {z : ByteArray} (ho : ah B0 9 X (.slice (some ⟨g, 0, none⟩) k cap) (t.ns.map Value.string ++ [.string z])) (hg : W.grownBy X N.ownBlock) (eL : N.ownBlock = some g ∨ W.heap.size ≤ g) : X.cell? ⟨tb, 1, none⟩ = some N ∧ X.frozen? ⟨tb, 1, none⟩ = false := by
 have hR := (RW.start h.tl ⟨⟨h.lt, h.lo.1⟩, h.lo.2⟩).nA ho hg eL
 exact ⟨(hR.cells h.box).2, hR.frozen h.box 1⟩
theorem GW.U7 (h : GW tb B0 W P N t) {g cap k : Nat} {z : Int} (ho : ah B0 3 X (.slice (some ⟨g, 0, none⟩) k cap) (t.ps.map (Value.int .i64) ++ [.int .i64 z])) (hg : W.grownBy X P.ownBlock) (eL : P.ownBlock = some g ∨ W.heap.size ≤ g) :
  GW tb B0 (X.setCell ⟨tb, 0, none⟩ (.slice (some ⟨g, 0, none⟩) k cap)) (.slice (some ⟨g, 0, none⟩) k cap) N ⟨t.ps ++ [z], t.ns⟩ ∧ GK tb W (X.setCell ⟨tb, 0, none⟩ (.slice (some ⟨g, 0, none⟩) k cap)) P N (.slice (some ⟨g, 0, none⟩) k cap) N := by
 have hR := (RW.start h.tl ⟨⟨h.lt, h.lo.1⟩, h.lo.2⟩).oC ho hg eL
 exact h.putP hR.gk hR.same hR.tl
theorem GW.pushN (h : GW tb B0 W P N t) {g cap k : Nat} {z : ByteArray} (ho : ah B0 9 X (.slice (some ⟨g, 0, none⟩) k cap) (t.ns.map Value.string ++ [.string z])) (hg : W.grownBy X N.ownBlock) (eL : N.ownBlock = some g ∨ W.heap.size ≤ g) :
  GW tb B0 (X.setCell ⟨tb, 1, none⟩ (.slice (some ⟨g, 0, none⟩) k cap)) P (.slice (some ⟨g, 0, none⟩) k cap) ⟨t.ps, t.ns ++ [z]⟩ ∧ GK tb W (X.setCell ⟨tb, 1, none⟩ (.slice (some ⟨g, 0, none⟩) k cap)) P N P (.slice (some ⟨g, 0, none⟩) k cap) := by
 have hR := (RW.start h.tl ⟨⟨h.lt, h.lo.1⟩, h.lo.2⟩).nA ho hg eL
 exact h.ZC hR.gk hR.same hR.tl
end
section
variable {l : List (List Int)} {set : List Int} {names : List ByteArray}
theorem Wa (h : vL l) (hs : set.Pairwise (· < ·)) {i : Nat} (hi : i < l.length) (hb : pW l set i = true) : (gl l i).length < set.length ∧ gl l i ≠ [] ∧ ∀ x ∈ gl l i, x ∈ set := by
 obtain ⟨a1, a2, _⟩ := qQ.1 hb
 have hl := h.fF _ (iC hi)
 have l1 := dH hl.1 hs a2
 have l2 : (gl l i).length ≠ set.length := fun e => a1 (k7 hl.1 hs fun x => ⟨a2 x, jH hl.1 hs a2 e x⟩)
 exact ⟨by omega, fun e => by rw [e] at hl; simp at hl, a2⟩
def qg (names : List ByteArray) (l : List (List Int)) (d : Nat) (set : List Int) (n : Nat) : List RT := (grI l set n).map (grR names l d)
def nh (names : List ByteArray) (l : List (List Int)) (d : Nat) (set : List Int) (n : Nat) : List RT := qg names l d set l.length ++ ((eE l set l.length).take n).map (fR names)
theorem IB (names : List ByteArray) (l : List (List Int)) (d : Nat) (set : List Int) (n : Nat) : qg names l d set (n + 1) = qg names l d set n ++ if pW l set n then [grR names l d (gl l n)] else [] := by
 unfold qg
 rw [grI, List.map_append]
 congr 1
 split <;> rfl
theorem Wb (names : List ByteArray) (l : List (List Int)) (d : Nat) (set : List Int) : ∀ {n m : Nat}, n ≤ m → qg names l d set n <+: qg names l d set m := by
 intro n m h
 induction m with
 | zero => rw [Nat.le_zero.1 h]; exact List.prefix_refl _
 | succ m ih =>
  by_cases e : n = m + 1
  ·rw [e]; exact List.prefix_refl _
  ·rw [IB]
   exact (ih (by omega)).trans (List.prefix_append _ _)
theorem IC (names : List ByteArray) (l : List (List Int)) (d : Nat) (set : List Int) : nh names l d set 0 = qg names l d set l.length := by unfold nh; simp
theorem Tf (names : List ByteArray) (l : List (List Int)) (d : Nat) (set : List Int) {n : Nat} (hn : n < (eE l set l.length).length) : nh names l d set (n + 1) = nh names l d set n ++ [fR names (gi (eE l set l.length) n)] := by
 unfold nh
 have hg : gi (eE l set l.length) n = (eE l set l.length)[n] := by simp [gi, hn]
 rw [List.take_succ_eq_append_getElem hn, List.map_append, ← List.append_assoc, hg]
 rfl
theorem Db (names : List ByteArray) (l : List (List Int)) (d : Nat) {set : List Int} (h : set.length ≠ 1) : grR names l (d + 1) set = .node ByteArray.empty (nh names l d set (eE l set l.length).length) := by
 rw [grR, if_neg h]
 unfold nh qg
 rw [List.take_length]
theorem Le (names : List ByteArray) (l : List (List Int)) (d : Nat) (x : Int) : grR names l (d + 1) [x] = fR names x := by rw [grR, if_pos (by simp)]; rfl
theorem vO {a b : List RT} (h : a <+: b) : sizeRs a ≤ sizeRs b := by
 obtain ⟨c, rfl⟩ := h
 have hX : ∀ x : List RT, sizeRs (x ++ c) = sizeRs x + sizeRs c := fun x => by
  induction x with
  | nil => rw [sizeRs]; simp
  | cons y x ih => rw [List.cons_append, sizeRs, sizeRs, ih]; omega
 rw [hX]; omega
theorem Lf (names : List ByteArray) (l : List (List Int)) (d : Nat) (set : List Int) (n : Nat) : nh names l d set n <+: nh names l d set (eE l set l.length).length := by
 unfold nh
 rw [List.take_length]
 exact List.prefix_append_right_inj _ |>.2 ((List.take_prefix _ _).map _)
theorem ID (l : List (List Int)) (set : List Int) (n : Nat) : eE l set (n + 1) = if pW l set n then (eE l set n).filter (fun x => !(gl l n).contains x) else eE l set n := rfl
theorem Dc {n : Nat} {x : Int} (h : x ∈ eE l set n) : x ∈ set := (qP.1 h).1
theorem Dd (l : List (List Int)) (set : List Int) : ∀ n, (eE l set n).length ≤ set.length
 | 0 => Nat.le_refl _
 | n + 1 => by
  have := Dd l set n
  rw [ID]
  split
  ·exact Nat.le_trans (List.length_filter_le _ _) this
  ·exact this
def IE (l : List (List Int)) (set : List Int) (i k : Nat) : Bool := !decide (gl l k = gl l i) && (!decide (gl l k = set) && (eA (gl l i) (gl l k) && eA (gl l k) set))
def Lg (l : List (List Int)) (i k : Nat) : Bool := decide (k < i) && decide (gl l k = gl l i)
def zR (l : List (List Int)) (set : List Int) (i n : Nat) : Bool := (List.range n).all fun k => !IE l set i k && !Lg l i k
theorem Tg (l : List (List Int)) (set : List Int) (i n : Nat) : zR l set i (n + 1) = (zR l set i n && (!IE l set i n && !Lg l i n)) := by
 unfold zR; rw [List.range_succ, List.all_append]; simp
theorem ZE (l : List (List Int)) (set : List Int) (i : Nat) : pW l set i = (!decide (gl l i = set) && (eA (gl l i) set && zR l set i l.length)) := rfl
end
end
section
open Go.RowKit Go.Deep
end
end Go.Proofs.YtpnmblnahjjmhaaGreat
