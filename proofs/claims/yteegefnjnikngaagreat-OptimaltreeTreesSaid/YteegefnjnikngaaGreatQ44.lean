/- Lists of trees in memory: reading and appending. Reference 34: Count, leaf, index. Plain: .. -/
import Derived.Test.YteegefnjnikngaaGreatQ1
import Derived.Test.YteegefnjnikngaaGreatQ42
import Derived.Test.YteegefnjnikngaaGreatQ39
import Derived.Test.YteegefnjnikngaaGreatQ40
import Derived.Test.YteegefnjnikngaaGreatQ36
import Derived.Test.YteegefnjnikngaaGreatQ41
set_option maxRecDepth 100000
namespace Go.Proofs.YteegefnjnikngaaGreat
section
open Go.RowKit Go.Deep
def cz (S : Nat → Prop) (w : World) (v : Value) (ts : List av) : Prop :=
 ∃ p cap, v = .slice p ts.length cap ∧ ts.length ≤ cap ∧ (ts.length = 0 ∨ ∃ b off, p = some ⟨b, off, none⟩ ∧ S b ∧ ∀ k, k < ts.length → ∃ P N, w.cell? ⟨b, off + k * 2, none⟩ = some P ∧ w.cell? ⟨b, off + k * 2 + 1, none⟩ = some N ∧ ay S w (.agg #[P, N]) (gt ts k))
theorem cz.keep {S : Nat → Prop} {w w' : World} {v : Value} {ts : List av} (h : cz S w v ts) (k : Kept S w w') : cz S w' v ts := by
 obtain ⟨p, cap, rfl, hn, h⟩ := h
 refine ⟨p, cap, rfl, hn, ?_⟩
 rcases h with h | ⟨b, off, rfl, hS, h⟩
 ·exact .inl h
 ·refine .inr ⟨b, off, rfl, hS, fun i hi => ?_⟩
  obtain ⟨P, N, h1, h2, h3⟩ := h i hi
  have hlt : b < w.heap.size := World.block_lt_of_cell? w _ h1
  have hc : ∀ o, w'.cell? ⟨b, o, none⟩ = w.cell? ⟨b, o, none⟩ := fun o => World.cell?_of_block (a := ⟨b, o, none⟩) (k b hS hlt)
  exact ⟨P, N, (hc _).trans h1, (hc _).trans h2, h3.keep k⟩
theorem lR {S : Nat → Prop} {w : World} {v : Value} {ts : List av} (h : cz S w v ts) : ∃ p cap, v = .slice p ts.length cap ∧ ts.length ≤ cap := by
 obtain ⟨p, cap, e, hn, _⟩ := h
 exact ⟨p, cap, e, hn⟩
theorem cz.nil (S : Nat → Prop) (w : World) : cz S w (.slice none 0 0) [] := ⟨none, 0, rfl, Nat.le_refl _, .inl rfl⟩
theorem B7 {S : Nat → Prop} {w : World} {p : Option Addr} {n cap : Nat} {ts : List av} (h : cz S w (.slice p n cap) ts) {k : Nat} (hk : k < ts.length) :
  ∃ b off pp pc np nc, p = some ⟨b, off, none⟩ ∧ w.cell? ⟨b, off + k * 2, none⟩ = some (.slice pp (gt ts k).ps.length pc) ∧ w.cell? ⟨b, off + k * 2 + 1, none⟩ = some (.slice np (gt ts k).ns.length nc) ∧ ay S w (.agg #[.slice pp (gt ts k).ps.length pc, .slice np (gt ts k).ns.length nc]) (gt ts k) := by
 obtain ⟨q, c, e, _, h⟩ := h
 injection e with e1
 subst e1
 rcases h with h | ⟨b, off, rfl, _, h⟩
 ·omega
 ·obtain ⟨P, N, h1, h2, h3⟩ := h k hk
  obtain ⟨P1, N1, e, hP, hN⟩ := h3
  injection e with e
  have e1 : P = P1 ∧ N = N1 := by simpa using e
  obtain ⟨rfl, rfl⟩ := e1
  obtain ⟨pp, pc, rfl, _, _⟩ := aA.open hP
  obtain ⟨np, nc, rfl, _, _⟩ := aA.open hN
  exact ⟨b, off, pp, pc, np, nc, rfl, h1, h2, _, _, rfl, hP, hN⟩
abbrev jP := (Value × Value) × av
def td (x : jP) : List Value := [x.1.1, x.1.2]
def jv (es : List jP) : List Value := es.flatMap td
def tN (es : List jP) (k : Nat) : jP := es.getD k ((undef, undef), ⟨[], []⟩)
theorem FX (es : List jP) (x : jP) : jv (es ++ [x]) = jv es ++ td x := by unfold jv; rw [List.flatMap_append]; simp
theorem B8 : ∀ (es : List jP) (k : Nat), k < es.length → (jv es)[k * 2]? = some (tN es k).1.1 ∧ (jv es)[k * 2 + 1]? = some (tN es k).1.2
 | [], k, h => absurd h (Nat.not_lt_zero _)
 | x :: es, 0, _ => by simp [jv, td, tN]
 | x :: es, k + 1, h => by
  have ih := B8 es k (by simpa using h)
  have e : (k + 1) * 2 = k * 2 + 1 + 1 := by omega
  have e2 : tN (x :: es) (k + 1) = tN es k := by simp [tN]
  have e3 : jv (x :: es) = x.1.1 :: x.1.2 :: jv es := by simp [jv, td]
  rw [e2, e3, e]
  simp only [List.getElem?_cons_succ]
  exact ih
def fM (base : Nat) (w : World) (v : Value) (es : List jP) : Prop :=
 w.ownsRow base 39 2 v es.length (jv es) ∧ ∀ x ∈ es, ay (fun b => some b ≠ v.ownBlock) w (.agg #[x.1.1, x.1.2]) x.2
theorem fM.nil (base : Nat) (w : World) : fM base w (.slice none 0 0) [] := ⟨World.ownsRow_nil _ _ _ _, fun _ h => by cases h⟩
theorem fM.up {base : Nat} {w w' : World} {v : Value} {es : List jP} (h : fM base w v es) (hu : Up w w') : fM base w' v es :=
 ⟨B2 h.1 fun b hb => Below.block hu b (World.ownsRow.lt h.1 b hb).2, fun x hx => (h.2 x hx).keep (hu.kept _)⟩
theorem fM.form {base : Nat} {w : World} {v : Value} {es : List jP} (h : fM base w v es) : ∃ p c, v = .slice p es.length c := by
 rcases h.1.2 with ⟨e, h0⟩ | ⟨g, cap, cur, e, _⟩
 ·exact ⟨none, 0, by rw [e, h0]⟩
 ·exact ⟨_, _, e⟩
theorem Rq {es : List jP} {k : Nat} (h : k < es.length) : tN es k ∈ es := by simp [tN, h]
theorem fM.trees {base : Nat} {w : World} {v : Value} {es : List jP} (h : fM base w v es) : cz Any w v (es.map (·.2)) := by
 obtain ⟨ho, hT⟩ := h
 have hgt : ∀ k, k < es.length → gt (es.map (·.2)) k = (tN es k).2 := fun k hk => by simp [gt, tN, hk]
 rcases ho.2 with ⟨e, h0⟩ | ⟨g, cap, cur, e, hg, hc, hn, hcm, hcs, ht⟩
 ·have CK : es.length = 0 := h0
  have : es = [] := List.eq_nil_of_length_eq_zero CK
  subst this
  subst e
  exact cz.nil _ _
 ·subst e
  refine ⟨_, cap, by rw [List.length_map], by rw [List.length_map]; exact hn, .inr ⟨g, 0, rfl, trivial, fun k hk => ?_⟩⟩
  rw [List.length_map] at hk
  rw [hgt k hk]
  obtain ⟨c0, c1⟩ := B8 es k hk
  refine ⟨(tN es k).1.1, (tN es k).1.2, ?_, ?_, (hT _ (Rq hk)).sub fun _ _ _ => trivial⟩
  ·rw [Nat.zero_add, ho.cellAt (k * 2) (by omega)]; exact c0
  ·rw [Nat.zero_add, ho.cellAt (k * 2 + 1) (by omega)]; exact c1
section
variable {P : Program} {ops : Array Oper} {rest : List Oper} {o : Oper} {a : Act} {Q : Exit → Act → World → Prop}
theorem pV (W : World) (hgd : o.guard = none) (s x : Operand) (t : TypeId) (ho : o.op = .call { callee := .builtin .append, args := #[s, x], argTypes := #[t, t] })
  (base : Nat) (z : Value) (bytes : Nat) (ht : P.underlying t = some (.slice 39)) (hinfo : (P.info? 39).map (fun i => (i.zero, i.size, i.bytes)) = some (some z, 2, bytes))
  (hz1 : z.cells.size = 2) (kY : bytes ≤ 64) {v : Value} {es : List jP} (hown : fM base W v es) (hs : a.eval s = v) (G : jP)
  (hx : a.eval x = .slice (some ⟨W.heap.size, 0, none⟩) 1 1) (hu : ay (fun b => some b ≠ v.ownBlock) W (.agg #[G.1.1, G.1.2]) G.2) (n : Nat) (mO : es.length = n) (hn : n ≤ 1000000) (hbase : base ≤ W.heap.size)
  (h : ∀ g cap w', fM base w' (.slice (some ⟨g, 0, none⟩) (n + 1) cap) (es ++ [G]) → W.grownBy w' v.ownBlock → Below base W w' → wpList P ops Q rest (a.put o.dst (.slice (some ⟨g, 0, none⟩) (n + 1) cap)) w') :
  wpList P ops Q (o :: rest) a (W.alloc (.cells #[G.1.1, G.1.2] 39)) := by
 subst mO
 obtain ⟨i, hi, hzz⟩ := Option.map_eq_some_iff.1 hinfo
 simp only [Prod.mk.injEq] at hzz
 obtain ⟨hz, hs1, hb⟩ := hzz
 obtain ⟨hown, hrows⟩ := hown
 have h1 : G.1.1.oneCell' = true ∧ G.1.2.oneCell' = true := by
  obtain ⟨P1, N1, e, hP, hN⟩ := hu
  injection e with e
  have e1 : G.1.1 = P1 ∧ G.1.2 = N1 := by simpa using e
  obtain ⟨p, c, e2, _⟩ := aA.open hP
  obtain ⟨q, d, e3, _⟩ := aA.open hN
  rw [e1.1, e1.2, e2, e3]; exact ⟨rfl, rfl⟩
 refine wpList_append_lies _ hgd s x t ho base 39 i z 2 bytes ht hi hz hs1 hb hz1 (by omega) v es.length (jv es) hs (hown.alloc _) ⟨W.heap.size, 0, none⟩ 1 1 (td G) hx rfl ?_ (fun q hq => by
  unfold td at hq
  rcases List.mem_cons.1 hq with e | hq
  ·subst e; exact h1.1
  ·rw [List.mem_singleton.1 hq]; exact h1.2) (by omega)
  (by unfold maxLen; omega) ?_ (by simp; omega) _ rfl fun g cap w' h2 h3 h4 _ => ?_
 ·intro j u' hj
  match j with
  | 0 =>
   obtain rfl : G.1.1 = u' := by simpa [td] using hj
   exact aK W _ _ 0
  | 1 =>
   obtain rfl : G.1.2 = u' := by simpa [td] using hj
   exact aK W _ _ 1
  | j + 2 => simp [td] at hj
 ·have : (es.length + 1) * bytes ≤ (es.length + 1) * 64 := Nat.mul_le_mul_left _ kY
  omega
 ·have hg := gu h3
  have ES : ∀ b : Nat, some b ≠ v.ownBlock → b < W.heap.size → some b ≠ (Value.slice (some ⟨g, 0, none⟩) (es.length + 1) cap).ownBlock := fun b hb hlt e => by
   simp only [Value.ownBlock, Option.some.injEq] at e
   rcases h4 with h4 | h4
   ·exact hb (by rw [h4, e])
   ·rw [World.size_alloc] at h4; omega
  have hkeep : ∀ {u' : Value} {y' : av}, ay (fun b => some b ≠ v.ownBlock) W u' y' → ay (fun b => some b ≠ (Value.slice (some ⟨g, 0, none⟩) (es.length + 1) cap).ownBlock) w' u' y' := fun hi' => by
   obtain ⟨P1, N1, e, hP, hN⟩ := hi'
   have k : Kept (fun b => some b ≠ v.ownBlock ∧ b < W.heap.size) W w' := fun b hb hlt => hg.block b hlt hb.1
   exact ⟨P1, N1, e, (ax.keep (hP.sub fun b hb hlt => ⟨hb, hlt⟩) k).sub fun b hb _ => ES b hb.1 hb.2, (au.keep (hN.sub fun b hb hlt => ⟨hb, hlt⟩) k).sub fun b hb _ => ES b hb.1 hb.2⟩
  refine h g cap w' ⟨by rw [List.length_append, FX]; exact h2, fun x hx => ?_⟩ hg (Below.grown (Below.refl _ _) hg hbase fun k hk => (World.ownsRow.lt hown k hk).1)
  rcases List.mem_append.1 hx with hx | hx
  ·exact hkeep (hrows x hx)
  ·rw [List.mem_singleton.1 hx]; exact hkeep hu
end
theorem Tryz.infoTree : (Tryz.prog.info? 39).map (fun i => (i.zero, i.size, i.bytes)) = some (some (.agg #[.slice none 0 0, .slice none 0 0]), 2, 48) := by kernel_rfl
end
section
open Go.RowKit Go.Deep
set_option maxHeartbeats 2000000 in
theorem Jm (n : Int) (hn : -9223372036854775808 ≤ n ∧ n ≤ 9223372036854775807) (w : World) : Calls Tryz.prog 30 #[.int .i64 n] w fun e w' => e = .returned (.tuple #[.int .i64 (vo n), .int .i64 (vk n)]) ∧ w = w' := by
 have HC : Hid (vk n = if n < 2 ∨ 7 < n then 2 else 0) := rfl
 have HR : Hid (vo n = if n < 2 ∨ 7 < n then 0 else eW (n - 3).toNat) := rfl
 by_cases h1 : n < 2
 ·go_enter Tryz.func30, Tryz.ntmps30
  go_wp2_with fail
  go_ret2
  rw [HC.out, HR.out, if_pos (.inl h1), if_pos (.inl h1)]; exact ⟨rfl, rfl⟩
 by_cases h2 : 7 < n
 ·go_enter Tryz.func30, Tryz.ntmps30
  go_wp2_with fail
  go_ret2
  rw [HC.out, HR.out, if_pos (.inr h2), if_pos (.inr h2)]; exact ⟨rfl, rfl⟩
 obtain ⟨k, rfl⟩ : ∃ k : Nat, n = k := ⟨n.toNat, by omega⟩
 have HF : Hid (vk (k : Int) = 0 ∧ vo (k : Int) = eW (k - 3)) := by
  unfold Hid; rw [HC.out, HR.out, if_neg (by omega), if_neg (by omega), show ((k : Int) - 3).toNat = k - 3 by omega]; exact ⟨rfl, rfl⟩
 clear HC HR hn
 have hk : k = 2 ∨ k = 3 ∨ k = 4 ∨ k = 5 ∨ k = 6 ∨ k = 7 := by omega
 have e0 := HF.out.1
 have e1 := HF.out.2
 rw [e0, e1]
 clear HF e0 e1
 go_enter Tryz.func30, Tryz.ntmps30
 go_wp2_with fail
 go_loop [4, 5] (fun o i => ∃ m : Nat, m ≤ k - 3 ∧ i = .int .i64 ((m : Int) + 3) ∧ o = .int .i64 (eW m)) (fun _ i => 20 - (intOf i).toNat)
 case atStart => exact ⟨0, Nat.zero_le _, rfl, rfl⟩
 case round =>
  obtain ⟨m, hm, rfl, rfl⟩ := hrel
  have hm4 : m ≤ 4 := by omega
  by_cases hlt : m < k - 3
  ·have hb : eW (m + 1) = eW m * (2 * (m : Int) + 3) ∧ 1 ≤ eW m ∧ eW m ≤ 105 ∧ 1 ≤ eW (m + 1) ∧ eW (m + 1) ≤ 945 := by
    have : m = 0 ∨ m = 1 ∨ m = 2 ∨ m = 3 := by omega
    rcases this with rfl | rfl | rfl | rfl <;> refine ⟨rfl, by decide, by decide, by decide, by decide⟩
   obtain ⟨b0, b1, b2, b3, b4⟩ := hb
   have hc : (m : Int) + 3 < (k : Int) := by omega
   have hw : 2 * ((m : Int) + 3) - 3 = 2 * (m : Int) + 3 := by omega
   generalize hcm : eW (m + 1) = c' at *
   generalize eW m = c at *
   go_wp2_with fail
   go_round
   case rel => exact ⟨m + 1, hlt, by go_num, by rw [hcm, b0]⟩
   case measure => simp [intOf]; omega
  ·obtain rfl : m = k - 3 := by omega
   have hc : ¬ ((k - 3 : Nat) : Int) + 3 < (k : Int) := by omega
   go_wp2_with fail
   go_ret2
   exact ⟨rfl, rfl⟩
set_option maxHeartbeats 400000 in
theorem LY (s : ByteArray) (hs : s.size ≤ 70000) (w : World) : Calls Tryz.prog 150 #[.string s] w fun e w' => e = .returned (.bool (aP s.data.toList)) ∧ Below w.heap.size w w' := by
 go_enter Tryz.func150, Tryz.ntmps150
 go_wp2_with fail
 ·have hf := aa (yQ s (by omega) (by omega) ‹_›)
  refine (jo _ (by simp; omega) _).mono ?_
  rintro e w1 ⟨rfl, hb⟩
  rw [← hf.out]
  go_wp2_with fail
  go_ret
  exact ⟨rfl, hb⟩
 ·have hf := aa (Cm s (by omega) (by omega) ‹_›)
  go_ret
  exact ⟨bB (by rw [hf.out]), Below.refl _ _⟩
 ·have hf := aa (wQ s (by omega) ‹_›)
  refine (jo _ hs _).mono ?_
  rintro e w1 ⟨rfl, hb⟩
  rw [← hf.out]
  go_wp2_with fail
  go_ret
  exact ⟨rfl, hb⟩
 ·have hf := aa (Bg s (by omega))
  refine (jo _ hs _).mono ?_
  rintro e w1 ⟨rfl, hb⟩
  rw [← hf.out]
  go_wp2_with fail
  go_ret
  exact ⟨rfl, hb⟩
set_option maxHeartbeats 400000 in
theorem Jn (S : Nat → Prop) (w : World) (v : Value) (names : List ByteArray) (s : ByteArray) (h : au S w v names) (hn : names.length ≤ 1000000) :
  Calls Tryz.prog 151 #[v, .string s] w fun e w' => e = .returned (.int .i64 (gJ names s)) ∧ w = w' := by
 obtain ⟨p, cap, rfl, hcap, -⟩ := aA.open h
 have h : au S w (.slice p names.length cap) names := h
 have HF : Hid (gJ names s = bJ (fun j => decide (s = gs names j)) names.length) := rfl
 have HN := aa h
 clear h
 go_enter Tryz.func151, Tryz.ntmps151
 go_wp2_with fail
 go_loop [4, 5] (fun _ i => ∃ k : Nat, k ≤ names.length ∧ i = .int .i64 k ∧ Hid (∀ j, j < k → decide (s = gs names j) = false)) (fun _ i => names.length - (intOf i).toNat)
 case atStart => exact ⟨0, Nat.zero_le _, rfl, fun j hj => absurd hj (Nat.not_lt_zero _)⟩
 case round =>
  obtain ⟨k, hk, rfl, hd⟩ := hrel
  by_cases hlt : k < names.length
  ·obtain ⟨b, off, rfl, hc⟩ := bQ HN.out hlt
   have qF : Hid (decide (s = gs names k) = true → (k : Int) = gJ names s) := fun h1 => by rw [HF.out]; exact (kT (p := fun j => decide (s = gs names j)) hlt hd.out h1).symm
   have HX : Hid (∀ j, j < k + 1 → ¬ j = k → decide (s = gs names j) = false) := fun j hj h1 => hd.out j (by omega)
   have HK : Hid (∀ j, j < k + 1 → decide (s = gs names k) = false → decide (s = gs names j) = false) := fun j hj h1 => if e : j = k then by subst e; exact h1 else HX.out j hj e
   generalize gs names k = nm at *
   go_wp2_with fail
   ·have hx := zC ‹(nm.toList == s.toList) = true›
    go_ret
    exact ⟨aH (qF.out (by simpa using hx.symm)), rfl⟩
   ·have hx := CI ‹(nm.toList == s.toList) = false›
    go_round
    case rel => exact ⟨k + 1, by omega, by go_num, fun j hj => HK.out j hj (by simpa using fun e => hx e.symm)⟩
    case measure => simp [intOf]; omega
  ·obtain rfl : k = names.length := by omega
   have HE : Hid (gJ names s = -1) := by unfold Hid; rw [HF.out]; exact gO hd.out
   go_wp2_with fail
   go_ret
   exact ⟨aH HE.out.symm, rfl⟩
end
section
def jN (L : List ByteArray) : List (BT ByteArray) := rf L.length L
def bf (L : List ByteArray) : List ByteArray := (jN L).map gK
def eA (L : List ByteArray) (bits : Nat) : List ByteArray := gs L 0 :: aU (fun i => bits.testBit i) L.tail (L.length - 1)
def eB (L : List ByteArray) (bits : Nat) : List ByteArray := aU (fun i => !bits.testBit i) L.tail (L.length - 1)
def zq (L : List ByteArray) (bits : Nat) : List ByteArray := (bf (eA L bits)).flatMap fun s => (bf (eB L bits)).map fun t => pairT s t
theorem xW (L : List ByteArray) : (iO L).Perm (jN L) := Jb _ _
theorem Fb (L : List ByteArray) : (bg L).Perm (bf L) := (xW L).map gK
theorem LZ (L : List ByteArray) {bits : Nat} (h : bits < 2 ^ (L.length - 1) - 1) : eA L bits = dA L (2 ^ (L.length - 1) - 1 - bits) ∧ eB L bits = dB L (2 ^ (L.length - 1) - 1 - bits) := by
 have e1 : ∀ i, i < L.length - 1 → (2 ^ (L.length - 1) - 1 - bits).testBit i = !bits.testBit i := fun i hi => by
  have := Nat.testBit_two_pow_sub_succ (x := bits) (n := L.length - 1) (by omega) i
  rw [show 2 ^ (L.length - 1) - 1 - bits = 2 ^ (L.length - 1) - (bits + 1) by omega, this]
  simp [hi]
 unfold eA eB dA dB
 rw [mJ (p := fun i => !(2 ^ (L.length - 1) - 1 - bits).testBit i) (q := fun i => bits.testBit i) fun i hi => by rw [e1 i hi, Bool.not_not], mJ (p := fun i => (2 ^ (L.length - 1) - 1 - bits).testBit i) (q := fun i => !bits.testBit i) e1]
 exact ⟨rfl, rfl⟩
theorem e_len {L : List ByteArray} (h : 2 ≤ L.length) {bits : Nat} (h2 : bits < 2 ^ (L.length - 1) - 1) : (eA L bits).length < L.length ∧ 1 ≤ (eA L bits).length ∧ (eB L bits).length < L.length ∧ 1 ≤ (eB L bits).length := by
 obtain ⟨e1, e2⟩ := LZ L h2
 rw [e1, e2]
 exact Je h (by omega) (by omega)
theorem XE {L : List ByteArray} {bits : Nat} (h : 1 ≤ L.length) (h2 : bits < 2 ^ (L.length - 1) - 1) : (∀ x ∈ eA L bits, x ∈ L) ∧ ∀ x ∈ eB L bits, x ∈ L := by
 obtain ⟨e1, e2⟩ := LZ L h2
 rw [e1, e2]
 exact Jf h
theorem vV : ∀ (d e : Nat) (L : List ByteArray), L.length ≤ d → L.length ≤ e → rf d L = rf e L
 | 0, e, L, h, _ => by
  have : L = [] := List.eq_nil_of_length_eq_zero (by omega)
  subst this
  cases e <;> rfl
 | d + 1, 0, L, _, h => by
  have : L = [] := List.eq_nil_of_length_eq_zero (by omega)
  subst this; rfl
 | _ + 1, _ + 1, [], _, _ => rfl
 | _ + 1, _ + 1, [x], _, _ => rfl
 | d + 1, e + 1, x :: y :: L, h1, h2 => by
  rw [rf, rf]
  refine gD fun bits hb => ?_
  have hb := List.mem_range.1 hb
  have hd := e_len (L := x :: y :: L) (by simp) (bits := bits) (by have : (x :: y :: L).length - 1 = (y :: L).length := rfl; rw [this]; omega)
  have ea : eA (x :: y :: L) bits = x :: aU (fun i => bits.testBit i) (y :: L) (y :: L).length := rfl
  have eb : eB (x :: y :: L) bits = aU (fun i => !bits.testBit i) (y :: L) (y :: L).length := rfl
  rw [← ea, ← eb]
  simp only [List.length_cons] at hd h1 h2
  rw [vV d e (eA _ _) (by omega) (by omega), vV d e (eB _ _) (by omega) (by omega)]
theorem Rs (x : ByteArray) : bf [x] = [x] := by
 unfold bf jN
 rw [List.length_singleton, rf, List.map_singleton, xR]
theorem VN {L : List ByteArray} (h : 2 ≤ L.length) : bf L = (List.range (2 ^ (L.length - 1) - 1)).flatMap (zq L) := by
 obtain ⟨x, y, L, rfl⟩ : ∃ x y L', L = x :: y :: L' := by
  cases L with
  | nil => simp at h
  | cons x L =>
   cases L with
   | nil => simp at h
   | cons y L => exact ⟨x, y, L, rfl⟩
 unfold bf jN
 have e1 : (x :: y :: L).length = (y :: L).length + 1 := rfl
 rw [e1, rf, List.map_flatMap, Nat.add_sub_cancel]
 refine gD fun bits hb => ?_
 have hb := List.mem_range.1 hb
 have hd := e_len (L := x :: y :: L) h (bits := bits) (by have : (x :: y :: L).length - 1 = (y :: L).length := rfl; rw [this]; omega)
 unfold zq bf
 rw [List.map_flatMap, List.flatMap_map]
 have ea : eA (x :: y :: L) bits = x :: aU (fun i => bits.testBit i) (y :: L) (y :: L).length := rfl
 have eb : eB (x :: y :: L) bits = aU (fun i => !bits.testBit i) (y :: L) (y :: L).length := rfl
 rw [← ea, ← eb]
 have f1 : rf (y :: L).length (eA (x :: y :: L) bits) = jN (eA (x :: y :: L) bits) := vV _ _ _ (by simp only [List.length_cons] at hd ⊢; omega) (Nat.le_refl _)
 have f2 : rf (y :: L).length (eB (x :: y :: L) bits) = jN (eB (x :: y :: L) bits) := vV _ _ _ (by simp only [List.length_cons] at hd ⊢; omega) (Nat.le_refl _)
 rw [f1, f2]
 refine gD fun a _ => ?_
 rw [List.map_map, List.map_map]
 refine List.map_congr_left fun b _ => ?_
 exact xS a b
theorem mE {L : List ByteArray} (h : L.length ≤ 4) : (bf L).length ≤ 15 := by
 rw [← (Fb L).length_eq]; exact oh h
theorem xX {L : List ByteArray} (h : L.length ≤ 4) (hz : ∀ x ∈ L, x.size ≤ 20) {s : ByteArray} (hs : s ∈ bf L) : s.size ≤ 100 := s8 h hz ((Fb L).mem_iff.2 hs)
def nh (L : List ByteArray) (n : Nat) : List ByteArray := (List.range n).flatMap (zq L)
theorem OD (L : List ByteArray) (n : Nat) : nh L (n + 1) = nh L n ++ zq L n := by
 unfold nh; rw [List.range_succ, List.flatMap_append]; simp
theorem Rt {L : List ByteArray} {bits : Nat} (ha : (eA L bits).length ≤ 4) (hb : (eB L bits).length ≤ 4) : (zq L bits).length ≤ 225 := by
 unfold zq
 have h1 := mE ha
 have h2 := mE hb
 have h3 := kB (f := fun s => (bf (eB L bits)).map fun t => pairT s t) (K := 15) (bf (eA L bits)) fun s _ => by rw [List.length_map]; exact h2
 have h4 : (bf (eA L bits)).length * 15 ≤ 15 * 15 := Nat.mul_le_mul_right _ h1
 omega
theorem Ru {L : List ByteArray} (h2 : 2 ≤ L.length) (h : L.length ≤ 4) {n : Nat} (hn : n ≤ 2 ^ (L.length - 1) - 1) : (nh L n).length ≤ n * 225 := by
 unfold nh
 have h1 := kB (f := zq L) (K := 225) (List.range n) fun b hb => by
  have hb := List.mem_range.1 hb
  have he := e_len h2 (bits := b) (by omega)
  exact Rt (by omega) (by omega)
 rw [List.length_range] at h1
 exact h1
def nK (L : List ByteArray) (bits n : Nat) : List ByteArray := ((bf (eA L bits)).take n).flatMap fun s => (bf (eB L bits)).map fun t => pairT s t
theorem OE (L : List ByteArray) (bits : Nat) {n : Nat} (h : n < (bf (eA L bits)).length) : nK L bits (n + 1) = nK L bits n ++ (bf (eB L bits)).map fun t => pairT (gs (bf (eA L bits)) n) t := by
 have hg : gs (bf (eA L bits)) n = (bf (eA L bits))[n] := by simp [gs, h]
 unfold nK
 rw [List.take_succ_eq_append_getElem h, List.flatMap_append, hg]; simp
theorem Rv (L : List ByteArray) (bits : Nat) : nK L bits (bf (eA L bits)).length = zq L bits := by unfold nK zq; rw [List.take_length]
theorem Rw {L : List ByteArray} {bits n : Nat} (ha : (eA L bits).length ≤ 4) (hb : (eB L bits).length ≤ 4) : (nK L bits n).length ≤ 225 := by
 unfold nK
 have h1 := mE ha
 have h2 := mE hb
 have h3 := kB (f := fun s => (bf (eB L bits)).map fun t => pairT s t) (K := 15) ((bf (eA L bits)).take n) fun s _ => by rw [List.length_map]; exact h2
 rw [List.length_take] at h3
 have h4 : (min n (bf (eA L bits)).length) * 15 ≤ 15 * 15 := Nat.mul_le_mul_right _ (by omega)
 omega
def vv (L : List ByteArray) (bits n : Nat) : List ByteArray := gs L 0 :: aU (fun i => bits.testBit i) L.tail n
def vw (L : List ByteArray) (bits n : Nat) : List ByteArray := aU (fun i => !bits.testBit i) L.tail n
theorem OG (L : List ByteArray) (bits n : Nat) (h : n + 1 < L.length) : vv L bits (n + 1) = vv L bits n ++ (if bits.testBit n then [gs L (n + 1)] else []) ∧ vw L bits (n + 1) = vw L bits n ++ (if bits.testBit n then [] else [gs L (n + 1)]) := by
 have hg : L.tail.getD n default = gs L (n + 1) := by
  unfold gs
  cases L with
  | nil => simp at h
  | cons a l =>
   have hl : n < l.length := by simpa using h
   simp [hl]
 unfold vv vw
 rw [gm, gm, hg]
 cases bits.testBit n <;> simp
theorem He (L : List ByteArray) (bits : Nat) : vv L bits (L.length - 1) = eA L bits ∧ vw L bits (L.length - 1) = eB L bits := ⟨rfl, rfl⟩
theorem VO {q : RT} {xs : List RT} (hs : xs.Pairwise dX) {k : Nat} (hk : k ≤ xs.length) (hhi : ∀ j, k ≤ j → j < xs.length → ¬ dX (xs.getD j (.node ByteArray.empty [])) q) (hlo : k = 0 ∨ dX (xs.getD (k - 1) (.node ByteArray.empty [])) q) : (xs.take k ++ q :: xs.drop k).Perm (q :: xs) ∧ (xs.take k ++ q :: xs.drop k).Pairwise dX := by
 constructor
 ·refine List.perm_middle.trans ?_
  rw [List.take_append_drop]
 ·have hs2 := hs
  rw [← List.take_append_drop k xs, List.pairwise_append] at hs2
  obtain ⟨h1, h2, h3⟩ := hs2
  rw [List.pairwise_append, List.pairwise_cons]
  have hd : ∀ b ∈ xs.drop k, dX q b := fun b hb => by
   obtain ⟨j, hj, e⟩ := List.mem_iff_getElem.1 hb
   rw [List.length_drop] at hj
   rw [List.getElem_drop] at e
   have := hhi (k + j) (by omega) (by omega)
   rw [List.getD_eq_getElem?_getD, List.getElem?_eq_getElem (by omega), Option.getD_some, e] at this
   exact dX.total this
  have ht : ∀ a ∈ xs.take k, dX a q := fun a ha => by
   rcases hlo with e | h
   ·subst e; simp at ha
   ·obtain ⟨j, hj, e⟩ := List.mem_iff_getElem.1 ha
    rw [List.length_take] at hj
    rw [List.getElem_take] at e
    rw [List.getD_eq_getElem?_getD, List.getElem?_eq_getElem (by omega), Option.getD_some] at h
    by_cases ej : j = k - 1
    ·subst ej; rw [← e]; exact h
    ·have := List.pairwise_iff_getElem.1 hs j (k - 1) (by omega) (by omega) (by omega)
     rw [e] at this
     exact this.trans h
  exact ⟨h1, ⟨hd, h2⟩, fun a ha b hb => by
   rcases List.mem_cons.1 hb with rfl | hb
   ·exact ht a ha
   ·exact (ht a ha).trans (hd b hb)⟩
theorem Jo {names : List ByteArray} (hn : fQ names) {q : RT} (hq : q ∈ aW names) : (aO q).size ≤ 1000 ∧ qu (aO q) = 0 ∧ nI (aO q) = flat q := by
 obtain ⟨h1, h2, h3, h4, h5, h6⟩ := eC hn hq
 have hg := h1.good
 have hp : gH (aO q).data.toList = some q := by
  have e : (aO q).data.toList = txR q ++ [59] := by unfold aO bG; simp
  rw [e]; exact rL hg.ig
 refine ⟨?_, by unfold qu; rw [hp]; exact h5, by unfold nI; rw [hp]; simp [h5]⟩
 have hl := vQ (M := 20) q fun s hs => by
  rw [kN] at hs
  obtain ⟨u, hu, rfl⟩ := List.mem_map.1 hs
  by_cases e : u.kids = []
  ·exact rT (hg.lf u hu e)
  ·rw [hg.A5 u hu e]; exact Nat.zero_le _
 have hs : (aO q).size = (bG q).length := by unfold aO; rw [← size_data]
 have hk : (bG q).length = (txR q).length + 1 := by unfold bG; simp
 have := hn.hi
 have h9 : aG q * (20 + 3) ≤ 9 * 23 := Nat.mul_le_mul_right _ (by omega)
 omega
theorem VP {names : List ByteArray} (hn : fQ names) {qs : List RT} (hp : qs.Perm ((jN names.tail).map (uR names))) (hs : qs.Pairwise dX) : qs = aW names := by
 have h1 : ((jN names.tail).map (uR names)).Perm ((rt names.length names.tail).map (uR names)) := by
  have : rt names.length names.tail = iO names.tail := mC _ _ _ (by simp) (Nat.le_refl _)
  rw [this]
  exact ((xW _).symm).map _
 refine sY (hp.trans (h1.trans (js _).symm)) hs (qU _) fun r hr => ?_
 have hr2 : r ∈ aW names := (js _).mem_iff.2 (h1.mem_iff.1 (hp.mem_iff.1 hr))
 exact (eC hn hr2).1.good.ig
end
end Go.Proofs.YteegefnjnikngaaGreat
