/- An append onto a slice without room, inside a region that draws its order; a node whose .. -/
import Derived.Test.YthgabkgmkolobaaGreatQ1
import Derived.ArgAppend
import Derived.Test.YthgabkgmkolobaaGreatQ17
import Derived.StillTail
import Derived.Test.YthgabkgmkolobaaGreatQ6
import Derived.Test.YthgabkgmkolobaaGreatQ3
import Derived.Test.YthgabkgmkolobaaGreatQ18
import Derived.Laws.Bits64b
import Derived.Laws.BitsAllLaws
import Derived.Test.YthgabkgmkolobaaGreatQ15
set_option maxRecDepth 100000
namespace Go.Proofs.YthgabkgmkolobaaGreat
section
open Go.RowKit Go.Deep
section
variable {P : Program} {ops : Array Oper} {o : Oper} {a : Act} {w : World} {K : Act → World → Prop} {Q : Exit → Act → World → Prop} {E : Prop}
theorem yf (hgd : o.guard = none) (s x : Operand) (t : TypeId) (ho : o.op = .call { callee := .builtin .append, args := #[s, x], argTypes := #[t, t] })
  (e : TypeId) (z : Value) (bytes : Nat) (ht : P.underlying t = some (.slice e)) (hinfo : (P.info? e).map (fun i => (i.zero, i.size, i.bytes)) = some (some z, 1, bytes))
  (hz1 : z.cells.size = 1) (mg : bytes ≤ 64) {ao : Option Addr} {n : Nat} {olds : List Value} (hs : a.eval s = .slice ao n n) (hnone : ao = none → n = 0) (hlo : olds.length = n) (holds : ∀ b, ao = some b → ∀ j u, olds[j]? = some u → w.cell? (b.add j) = some u)
  {ad : Addr} {m c : Nat} {news : List Value} (hx : a.eval x = .slice (some ad) m c) (hl : news.length = m) (hnews : ∀ j u, news[j]? = some u → w.cell? (ad.add j) = some u) (h1 : ∀ u ∈ news, u.oneCell' = true) (hm : 0 < m) (hn : n + m ≤ 1000000)
  (h : ∀ g cap w', aC w.heap.size e w' (.slice (some ⟨g, 0, none⟩) (n + m) cap) (olds ++ news) → Up w w' → K (a.put o.dst (.slice (some ⟨g, 0, none⟩) (n + m) cap)) w') :
  if Region.wanted o (yielded ops a.tmps) = true then Oper.wp P o a w K Q else E := by
 have hw : Region.wanted o (yielded ops a.tmps) = true := by simp [Region.wanted, hgd]
 rw [if_pos hw]
 obtain ⟨i, hi, hzz⟩ := Option.map_eq_some_iff.1 hinfo
 simp only [Prod.mk.injEq] at hzz
 obtain ⟨hz, hs1, hb⟩ := hzz
 have hb1 : n + m ≤ maxLen := by unfold maxLen; omega
 have hb2 : (n + m) * bytes ≤ 140737488355328 := by
  have : (n + m) * bytes ≤ (n + m) * 64 := Nat.mul_le_mul_left _ mg
  omega
 have fin : ∀ v' w', w'.ownsRow w.heap.size e 1 v' (n + m) (olds ++ news) → w.grownBy w' none → K (a.put o.dst v') w' := fun v' w' r1 r2 => by
  have hlen : (olds ++ news).length = n + m := by rw [List.length_append, hlo, hl]
  have hown : aC w.heap.size e w' v' (olds ++ news) := by unfold aC; rw [hlen]; exact r1
  have eZ : Up w w' := ⟨r2.os, r2.tape, r2.output, r2.size, fun b hb => r2.block b hb (fun e => by cases e)⟩
  obtain ⟨h2, h3 | ⟨g, c', cur, h3, _⟩⟩ := hown
  ·omega
  ·rw [hlen] at h3
   subst h3
   exact h g c' w' (by unfold aC; rw [hlen]; exact r1) eZ
 cases ao with
 | some b =>
  obtain ⟨v', w', hrun, r1, r2⟩ := run_append_arg_grows (P := P) w t o.type e i z 1 bytes ht hi hz hs1 hb hz1 (by omega) b n n olds (by omega) (holds b rfl) ad m c news (by omega) hnews (by omega) hb1 hb2
  unfold Oper.wp
  simp [execOp, ho, resolve, invoke, builtin, hs, hx, hrun, Result.andThen]
  exact fin v' w' r1 r2
 | none =>
  obtain rfl := hnone rfl
  obtain rfl : olds = [] := List.eq_nil_of_length_eq_zero hlo
  obtain ⟨v', w', hrun, r1, r2, _⟩ := run_append_own (P := P) w w.heap.size t o.type e i z 1 bytes ht hi hz hs1 hb hz1 (by omega) (.slice none 0 0) 0 [] (World.ownsRow_nil w _ e 1) ad m c news (by omega) hnews h1 hb1 hb2 (Nat.le_refl _)
  unfold Oper.wp
  simp [execOp, ho, resolve, invoke, builtin, hs, hx, hrun, Result.andThen]
  exact fin v' w' r1 r2
theorem Pa (hgd : o.guard = none) (s x : Operand) (t : TypeId) (ho : o.op = .call { callee := .builtin .append, args := #[s, x], argTypes := #[t, t] })
  (e : TypeId) (z : Value) (bytes : Nat) (ht : P.underlying t = some (.slice e)) (hinfo : (P.info? e).map (fun i => (i.zero, i.size, i.bytes)) = some (some z, 1, bytes))
  {ao : Option Addr} {n c : Nat} (hs : a.eval s = .slice ao n c) (hle : n ≤ c) {ad : Option Addr} {c2 : Nat} (hx : a.eval x = .slice ad 0 c2)
  (h : K (a.put o.dst (.slice ao n c)) w) : if Region.wanted o (yielded ops a.tmps) = true then Oper.wp P o a w K Q else E := by
 have hw : Region.wanted o (yielded ops a.tmps) = true := by simp [Region.wanted, hgd]
 rw [if_pos hw]
 obtain ⟨i, hi, hzz⟩ := Option.map_eq_some_iff.1 hinfo
 have hrun : (Builtin.append_ #[t, t] o.type #[.slice ao n c, .slice ad 0 c2]).run P w = .ok (.slice ao n c) w := by
  cases ao <;> cases ad <;> simp [Builtin.append_, run_underlying ht, sizeOf, typeInfo, hi, Builtin.lenOf, hle, Builtin.firstCells, storeCells, loadCells, loadCellsFrom]
 unfold Oper.wp
 simp [execOp, ho, resolve, invoke, builtin, hs, hx, hrun, Result.andThen]
 exact h
end
theorem RsAt.YF {S : Nat → Prop} {w : World} : ∀ (a b : List RT) {vs us : List Value}, RsAt S w a vs → RsAt S w b us → RsAt S w (a ++ b) (vs ++ us)
 | [], b, vs, us, h, h2 => by unfold RsAt at h; subst h; exact h2
 | r :: a, b, vs, us, h, h2 => by
  unfold RsAt at h
  obtain ⟨u, q, rfl, h3, h4⟩ := h
  show RsAt S w (r :: (a ++ b)) (u :: (q ++ us))
  unfold RsAt
  exact ⟨u, q ++ us, rfl, h3, RsAt.YF a b h4 h2⟩
theorem RsAt.UY {S : Nat → Prop} {w : World} : ∀ (a : List RT) (k : Nat) {vs : List Value}, RsAt S w a vs → RsAt S w (a.take k) (vs.take k)
 | [], k, vs, h => by unfold RsAt at h; subst h; simp [RsAt]
 | r :: a, 0, vs, h => by simp [RsAt]
 | r :: a, k + 1, vs, h => by
  unfold RsAt at h
  obtain ⟨u, q, rfl, h3, h4⟩ := h
  rw [List.take_succ_cons, List.take_succ_cons]
  unfold RsAt
  exact ⟨u, _, rfl, h3, RsAt.UY a k h4⟩
theorem RsAt.UZ {S : Nat → Prop} {w : World} : ∀ (a : List RT) (k : Nat) {vs : List Value}, RsAt S w a vs → RsAt S w (a.drop k) (vs.drop k)
 | [], k, vs, h => by unfold RsAt at h; subst h; simp [RsAt]
 | r :: a, 0, vs, h => h
 | r :: a, k + 1, vs, h => by
  unfold RsAt at h
  obtain ⟨u, q, rfl, h3, h4⟩ := h
  rw [List.drop_succ_cons, List.drop_succ_cons]
  exact RsAt.UZ a k h4
theorem kD.lay {base B X : Nat} {w W : World} {nm : ByteArray} {kv kv' : Value} {acc : List RT} {r4 : List Value} {o : RT} {u : Value} (h : kD base B w nm kv acc) (BV : RsAt (fun b => base ≤ b ∧ b ≠ B ∧ kv.ownBlock ≠ some b) w acc r4) (hu : Up w W) (hX : w.heap.size ≤ X)
  (hkb : ∀ b, kv'.ownBlock = some b → X ≤ b) (hr : RAt (fun b => w.heap.size ≤ b ∧ b < X) W o u) (k : Nat) (ho : aC (B + 1) 210 W kv' (r4.take k ++ u :: r4.drop k)) :
  kD base B (W.setCell ⟨B, 1, none⟩ kv') nm kv' (acc.take k ++ o :: acc.drop k) := by
 have hBl := h.lt
 have cw : ∀ b, b ≠ B → (W.setCell ⟨B, 1, none⟩ kv').heap[b]? = W.heap[b]? := fun b hb => blk_setCell_other _ _ _ _ hb
 have hn := (Below.block hu B hBl).trans h.node
 have hlo := h.lo
 refine ⟨by simp [World.setCell, Array.getElem?_modify, hn], h.lo, _, ho.eD fun b hb => cw b (by have := hkb b hb; omega), ?_⟩
 have k1 : Kept (fun b => base ≤ b ∧ b ≠ B ∧ kv'.ownBlock ≠ some b) w (W.setCell ⟨B, 1, none⟩ kv') := fun b hb hl => (cw b hb.2.1).trans (Below.block hu b hl)
 have a1 : RsAt (fun b => base ≤ b ∧ b ≠ B ∧ kv'.ownBlock ≠ some b) (W.setCell ⟨B, 1, none⟩ kv') acc r4 :=
  RsAt.keep k1 acc (RsAt.sub (fun b hb hl => ⟨hb.1, hb.2.1, fun e => by have := hkb b e; omega⟩) acc BV)
 have k2 : Kept (fun b => base ≤ b ∧ b ≠ B ∧ kv'.ownBlock ≠ some b) W (W.setCell ⟨B, 1, none⟩ kv') := fun b hb _ => cw b hb.2.1
 have a2 : RAt (fun b => base ≤ b ∧ b ≠ B ∧ kv'.ownBlock ≠ some b) (W.setCell ⟨B, 1, none⟩ kv') o u :=
  RAt.keep k2 o (RAt.sub (fun b hb _ => ⟨by have := hb.1; omega, by have := hb.1; omega, fun e => by have := hkb b e; have := hb.2; omega⟩) o hr)
 refine RsAt.YF _ _ (RsAt.UY acc k a1) ?_
 unfold RsAt
 exact ⟨u, r4.drop k, rfl, a2, RsAt.UZ acc k a1⟩
end
section
open Go.RowKit Go.Deep
def QD (w w' : World) : Prop := ∃ n, w' = w.drewN n
theorem QD.refl (w : World) : QD w w := ⟨0, rfl⟩
theorem QD.drewN {w w' : World} (h : QD w w') (n : Nat) : QD w (w'.drewN n) := by
 obtain ⟨m, rfl⟩ := h; exact ⟨m + n, by rw [World.drewN_drewN]⟩
theorem QD.kept {w w' : World} (h : QD w w') (S : Nat → Prop) : Kept S w w' := by
 obtain ⟨m, rfl⟩ := h; exact fun _ _ _ => rfl
theorem QD.up {w w' : World} (h : QD w w') : Up w w' := by
 obtain ⟨m, rfl⟩ := h; exact Up.drewN w m
end
section
open Go.RowKit Go.Deep
def YG (w : World) (r : RT) (e : Ending) (w' : World) : Prop := Up w w' ∧ ∃ v, e = .returned v ∧ aA (fun b => w.heap.size ≤ b) w' v (flat r)
theorem V4 (r : RT) (p : Int) : (⟨[], []⟩ : ay).app r p = ⟨psR r 0 p, cM r⟩ := by simp [ay.app]
set_option maxHeartbeats 1000000 in
theorem AU (S : Nat → Prop) (w : World) (v : Value) (r : RT) (h : RAt S w r v) (hs : aH r ≤ 90000) : Calls Tryz.prog 205 #[v] w (YG w r) := by
 have bf := Up.alloc w (.cells #[.slice none 0 0, .slice none 0 0] 39)
 have hsz : (w.alloc (.cells #[.slice none 0 0, .slice none 0 0] 39)).heap.size = w.heap.size + 1 := World.size_alloc _ _
 have hrb := fh (w := w) (P := .slice none 0 0) (N := .slice none 0 0) (T := 39)
 have hx : RAt (fun b => (Value.slice none 0 0).ownBlock ≠ some b ∧ (Value.slice none 0 0).ownBlock ≠ some b) (w.alloc (.cells #[.slice none 0 0, .slice none 0 0] 39)) r v := RAt.sub (fun b _ _ => ⟨fun e => (by cases e), fun e => (by cases e)⟩) r (RAt.keep (bf.kept S) r h)
 have HW := aa (Yz (w.heap.size + 1) (aH r) r (Nat.le_refl _) (w.alloc (.cells #[.slice none 0 0, .slice none 0 0] 39)) (.slice none 0 0) (.slice none 0 0) v ⟨[], []⟩ (-1) ⟨aC.nil _ _ _, aC.nil _ _ _, fun b hb => by cases hb⟩ (by omega) rfl (by simp; omega) hx)
 have HU := aa bf
 have lT := aa hrb
 have ct := aa hsz
 clear bf hrb hsz h hx
 go_enter Tryz.func205, Tryz.ntmps205
 go_wp2_with fail
 generalize w.alloc (.cells #[.slice none 0 0, .slice none 0 0] 39) = w1 at *
 refine HW.out.mono ?_
 rintro e w2 ⟨P2, N2, rfl, hT, hK⟩
 rw [V4] at hT
 obtain ⟨p2, c2, rfl, _, _⟩ := aB.open hT.cR.ints
 obtain ⟨q2, e2, rfl, _, _⟩ := aB.open hT.dF.strs
 have hu : Up w1 w2 := ⟨hK.os, hK.tape, hK.output, hK.size, fun b hb => hK.block b hb (by omega) (fun e => by cases e) (fun e => by cases e)⟩
 have hb2 := (Below.block hu w.heap.size (by rw [ct.out]; omega)).trans lT.out
 obtain ⟨r0, r1, r2, r3⟩ : w2.cell? ⟨w.heap.size, 0, none⟩ = some (.slice none 0 0) ∧ w2.cell? ⟨w.heap.size, 1, none⟩ = some (.slice none 0 0) ∧ w2.frozen? ⟨w.heap.size, 0, none⟩ = false ∧ w2.frozen? ⟨w.heap.size, 1, none⟩ = false := by
  refine ⟨?_, ?_, ?_, ?_⟩ <;> simp [World.cell?, World.frozen?, hb2]
 have HST := aa (dZ (w := w) (p := .slice p2 (psR r 0 (-1)).length c2) (q := .slice q2 (cM r).length e2) hb2 (Nat.le_refl _) (HU.out.trans hu))
 have HP := aa hT.cR.ints
 have HN := aa hT.dF.strs
 clear hT hK hu hb2
 go_wp2_with fail
 obtain ⟨s1, s2, s3, s4⟩ := HST.out
 refine ⟨rfl, .agg #[.slice p2 (psR r 0 (-1)).length c2, .slice q2 (cM r).length e2], by simp [results, Tryz.results205, go_sem, s2, s3], ?_⟩
 exact ⟨s1, _, rfl, _, _, rfl, (aq.keep HP.out fun b hb _ => s4 b (by have : w.heap.size + 1 ≤ b := hb; omega)).sub fun b hb _ => by have : w.heap.size + 1 ≤ b := hb; omega, (ah.keep HN.out fun b hb _ => s4 b (by have : w.heap.size + 1 ≤ b := hb; omega)).sub fun b hb _ => by have : w.heap.size + 1 ≤ b := hb; omega⟩
end
section
open Go.RowKit Go.Deep
def R9 (a : Option Addr) (n c : Nat) : Option Addr := if c = n then a else Option.map (fun x => x.add n) a
theorem all_none {S : Nat → Prop} {w : World} {n c : Nat} {f : Nat → Value} {a : Option Addr} (h : aB S w (.slice a n c) n f) (e : a = none) : n = 0 := by
 subst e
 by_cases hn : n = 0
 ·exact hn
 ·obtain ⟨q, c', e, _, H⟩ := aB.open h
  injection e with e
  subst e
  obtain ⟨b, off, e2, _⟩ := H 0 (by omega)
  cases e2
theorem Pb {S : Nat → Prop} {w : World} {n c : Nat} {vs : List Value} {a : Option Addr} (h : aB S w (.slice a n c) n (vN vs)) (hl : vs.length = n) (b : Addr) (e : a = some b) (i : Nat) (q : Value) (hq : vs[i]? = some q) : w.cell? (b.add i) = some q := by
 have hki : i < n := by rw [← hl]; exact (List.getElem?_eq_some_iff.1 hq).1
 obtain ⟨b', o', e2, hc⟩ := nM h hki
 rw [e] at e2
 injection e2 with e2
 subst e2
 have hv : vN vs i = q := by unfold vN; rw [List.getD_eq_getElem?_getD, hq]; rfl
 rw [hv] at hc
 rw [Addr.add_lit]; exact hc
end
section
open Go.RowKit Go.Deep
def V5 (w : World) (s : ByteArray) (e : Ending) (w' : World) : Prop := Below w.heap.size w w' ∧ ∃ r, e = .returned (.int .i64 r) ∧ (s.data.toList.all qz = true → r = 0)
theorem G3 {s : ByteArray} (h : s.data.toList.all qz = true) {k : Nat} (hk : k < s.size) : qz s[k] = true :=
 List.all_eq_true.1 h _ (by rw [Array.mem_toList_iff]; exact Array.getElem_mem _)
set_option maxHeartbeats 400000 in
theorem ckR_t (s : ByteArray) (hs : s.size ≤ 1000) (w : World) : Calls Tryz.prog 248 #[.string s] w (V5 w s) := by
 go_enter Tryz.func248, Tryz.ntmps248
 go_wp2_with fail
 refine (VR s hs _).mono ?_
 rintro e w1 ⟨hb, v, bs, rfl, hbl, gN⟩
 obtain ⟨p, cap, rfl, hcap, H⟩ := gN.open
 have HH := aa H
 clear H gN hbl
 go_wp2_with fail
 go_loop [4, 5] (fun i _ => ∃ k : Nat, k ≤ s.size ∧ i = .int .i64 k) (fun i _ => s.size - (intOf i).toNat)
 case atStart => exact ⟨0, Nat.zero_le _, rfl⟩
 case round =>
  obtain ⟨k, hk, rfl⟩ := hrel
  by_cases hlt : k < s.size
  ·obtain ⟨b, off, rfl, hc⟩ := HH.out k hlt
   have hka : s.data.toList.all qz = true → cW s[k].toNat = 1 ∨ cW s[k].toNat = 3 := fun h => (rC s[k]).2 (G3 h hlt)
   have YH := aa hka
   clear HH hka
   go_wp2_with (go_at_call 249; refine (q8 _ (UInt8.toNat_lt _) _).mono ?_; rintro e w' ⟨rfl, rfl⟩; generalize cW _ = q at *)
   all_goals first | (go_round; (case rel => exact ⟨k + 1, by omega, by go_num⟩); (case measure => simp [intOf]; omega)) | (go_ret; exact ⟨hb, _, rfl, fun h => by have := YH.out h; simp at *; omega⟩)
  ·clear HH
   go_wp2_with fail
   go_ret
   exact ⟨hb, _, rfl, fun _ => rfl⟩
def YI (w : World) (s : ByteArray) (e : Ending) (w' : World) : Prop := Below w.heap.size w w' ∧ ∃ b, e = .returned (.bool b) ∧ (s.data.toList.all qz = true → 1 ≤ s.size → b = true) ∧ (s.size = 0 → b = false)
set_option maxHeartbeats 400000 in
theorem Pc (s : ByteArray) (hs : s.size ≤ 16) (w : World) : Calls Tryz.prog 199 #[.string s] w (YI w s) := by
 by_cases h0 : s.size < 1
 ·go_enter Tryz.func199, Tryz.ntmps199
  go_wp2_with fail
  go_ret
  exact ⟨Below.refl _ _, _, rfl, fun _ h => by omega, fun _ => rfl⟩
 ·have h0' : ((0 : Nat) < s.size) := by omega
  have hka : s.data.toList.all qz = true → cW s[0].toNat = 1 ∨ cW s[0].toNat = 3 := fun h => (rC s[0]).2 (G3 h h0')
  have YH := aa hka
  clear hka
  go_enter Tryz.func199, Tryz.ntmps199
  go_wp2_with fail
  refine (ckR_t s (by omega) _).mono ?_
  rintro e w1 ⟨hb, r, rfl, hr⟩
  have HR := aa hr
  clear hr
  go_wp2_with (go_at_call 249; refine (q8 _ (UInt8.toNat_lt _) _).mono ?_; rintro e w' ⟨rfl, rfl⟩; generalize cW _ = q at *)
  all_goals first
   | (go_ret; exact ⟨hb, _, rfl, fun h _ => (by exfalso; have h1 := YH.out h; have h2 := HR.out h; subst h2; simp at *; omega), fun _ => rfl⟩)
   | skip
  all_goals
   clear HR
   go_loop [4] (fun i => ∃ k : Nat, k ≤ s.size ∧ i = .int .i64 k) (fun i => s.size - (intOf i).toNat)
   case atStart => exact ⟨0, Nat.zero_le _, rfl⟩
   case round =>
    obtain ⟨k, hk, rfl⟩ := hrel
    by_cases hlt : k < s.size
    ·have hka : s.data.toList.all qz = true → cW s[k].toNat = 1 ∨ cW s[k].toNat = 3 := fun h => (rC s[k]).2 (G3 h hlt)
     have HKB := aa hka
     clear hka
     go_wp2_with (go_at_call 249; refine (q8 _ (UInt8.toNat_lt _) _).mono ?_; rintro e w' ⟨rfl, rfl⟩; generalize cW s[k].toNat = y at *)
     all_goals first | (go_round; (case rel => exact ⟨k + 1, by omega, by go_num⟩); (case measure => simp [intOf]; omega)) | (go_ret; exact ⟨hb, _, rfl, fun h _ => (by exfalso; have h1 := HKB.out h; omega), fun _ => rfl⟩)
    ·go_wp2_with fail
     go_ret
     exact ⟨hb, _, rfl, fun _ _ => rfl, fun h => by omega⟩
set_option maxHeartbeats 400000 in
theorem kT (s : ByteArray) (hs : s.size ≤ 70000) (w : World) : Calls Tryz.prog 141 #[.string s] w fun e w' => e = .returned (.bool (dS s.data.toList)) ∧ Below w.heap.size w w' := by
 have hl := size_data s
 have hA := FW s.data.toList
 have dr : dS s.data.toList = decide (1 ≤ s.size ∧ s.size ≤ 16 ∧ jA s.data.toList = s.size) := by
  unfold dS; rw [hl] at hA ⊢; rw [Bool.eq_iff_iff]; simp only [Bool.and_eq_true, decide_eq_true_eq]; rw [← hA, and_assoc]
 rw [hl] at hA
 have HF := aa dr
 have HA := aa hA
 clear dr hl hA
 by_cases U0 : s.size ≤ 16
 ·go_enter Tryz.func141, Tryz.ntmps141
  go_wp2_with fail
  refine (Pc s U0 _).mono ?_
  rintro e w1 ⟨hb, b, rfl, h1, h2⟩
  have H1 := aa h1
  have H2 := aa h2
  clear h1 h2
  cases b
  ·go_wp2_with fail
   go_ret
   refine ⟨aL ?_, hb⟩
   rw [HF.out, eq_comm, decide_eq_false_iff_not]
   rintro ⟨a1, a2, a3⟩
   have := H1.out (HA.out.1 a3) a1
   cases this
  ·go_wp2_with (go_at_call 200; refine (Mi s hs _).mono ?_; rintro e w' ⟨rfl, rfl⟩)
   go_ret
   refine ⟨aL ?_, hb⟩
   have h0 : s.size ≠ 0 := fun e => by have := H2.out e; cases this
   rw [HF.out, Bool.eq_iff_iff]
   simp
   omega
 ·go_enter Tryz.func141, Tryz.ntmps141
  go_wp2_with fail
  go_ret
  refine ⟨aL ?_, Below.refl _ _⟩
  rw [HF.out, eq_comm, decide_eq_false_iff_not]; omega
theorem AV (s : ByteArray) (h : s.size - 1 < s.size) : s.data.toList.getLast? = some s[s.size - 1] := by
 have hl := size_data s
 rw [List.getLast?_eq_getElem?, hl, List.getElem?_eq_getElem (by rw [hl]; exact h)]; rfl
theorem BZ (s : ByteArray) (h : s.size - 1 < s.size) (U0 : s.size ≤ 16) (zZ : ((s[s.size - 1].toNat : Int) == 42) = true) : aY s.data.toList = dS (s.extract 0 (s.size - 1)).data.toList := by
 have hl := size_data s
 have h2 : s[s.size - 1] = 42 := by
  have h3 : (s[s.size - 1].toNat : Int) = 42 := by simpa using zZ
  have h4 : s[s.size - 1].toNat = 42 := by omega
  exact UInt8.toNat_inj.1 h4
 unfold aY; rw [AV s h, h2, if_pos rfl, FZ, hl]; simp [U0]
theorem z7 (s : ByteArray) (h : s.size - 1 < s.size) (zZ : ((s[s.size - 1].toNat : Int) == 42) = false) : aY s.data.toList = dS s.data.toList := by
 unfold aY; rw [AV s h, if_neg]
 intro e; injection e with e; rw [e] at zZ; simp at zZ
theorem Pd (s : ByteArray) (h : 16 < s.size) : aY s.data.toList = dS s.data.toList := by
 have hl := size_data s
 unfold aY; split
 ·rename_i zZ
  rw [xK s.data.toList zZ, hl, decide_eq_false (by omega), Bool.and_false]
 ·rfl
theorem Ev (s : ByteArray) (h : s.size ≤ 1) : aY s.data.toList = dS s.data.toList := by
 have hl := size_data s
 unfold aY; split
 ·rename_i zZ
  rw [xK s.data.toList zZ]
  have : s.data.toList.dropLast = [] := by rw [← List.length_eq_zero_iff, List.length_dropLast]; omega
  rw [this]; rfl
 ·rfl
set_option maxHeartbeats 400000 in
theorem Sa (s : ByteArray) (hs : s.size ≤ 70000) (w : World) : Calls Tryz.prog 97 #[.string s] w fun e w' => e = .returned (.bool (aY s.data.toList)) ∧ Below w.heap.size w w' := by
 go_enter Tryz.func97, Tryz.ntmps97
 go_wp2_with fail
 ·have hf := aa (BZ s (by omega) (by omega) ‹_›)
  refine (kT _ (by simp; omega) _).mono ?_
  rintro e w1 ⟨rfl, hb⟩
  rw [← hf.out]
  go_wp2_with fail
  go_ret
  exact ⟨rfl, hb⟩
 ·have hf := aa (z7 s (by omega) ‹_›)
  refine (kT _ hs _).mono ?_
  rintro e w1 ⟨rfl, hb⟩
  rw [← hf.out]
  go_wp2_with fail
  go_ret
  exact ⟨rfl, hb⟩
 ·have hf := aa (Pd s (by omega))
  refine (kT _ hs _).mono ?_
  rintro e w1 ⟨rfl, hb⟩
  rw [← hf.out]
  go_wp2_with fail
  go_ret
  exact ⟨rfl, hb⟩
 ·have hf := aa (Ev s (by omega))
  refine (kT _ hs _).mono ?_
  rintro e w1 ⟨rfl, hb⟩
  rw [← hf.out]
  go_wp2_with fail
  go_ret
  exact ⟨rfl, hb⟩
end
section
open Go.RowKit Go.Deep
def Small (l : List Int) : Prop := ∀ k, k < l.length → 0 ≤ gi l k ∧ gi l k < 32
end
end Go.Proofs.YthgabkgmkolobaaGreat
