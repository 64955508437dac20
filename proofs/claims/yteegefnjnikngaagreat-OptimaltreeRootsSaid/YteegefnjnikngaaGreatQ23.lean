/- An append onto a slice without room, inside a region that draws its order; a node whose .. -/
import Derived.Test.YteegefnjnikngaaGreatQ1
import Derived.Test.YteegefnjnikngaaGreatQ21
import Derived.ArgAppend
import Derived.Test.YteegefnjnikngaaGreatQ20
import Derived.Test.YteegefnjnikngaaGreatQ9
import Derived.Lib.SliceRun
import Derived.Test.YteegefnjnikngaaGreatQ18
import Derived.Test.YteegefnjnikngaaGreatQ8
import Derived.Test.YteegefnjnikngaaGreatQ15
import Derived.OwnWalkIn
import Derived.Deep.AppendLies
import Derived.Test.YteegefnjnikngaaGreatQ22
set_option maxRecDepth 100000
namespace Go.Proofs.YteegefnjnikngaaGreat
section
open Go.RowKit Go.Deep
section
variable {P : Program} {ops : Array Oper} {o : Oper} {a : Act} {w : World} {K : Act → World → Prop} {Q : Exit → Act → World → Prop} {E : Prop}
theorem yH (hgd : o.guard = none) (s x : Operand) (t : TypeId) (ho : o.op = .call { callee := .builtin .append, args := #[s, x], argTypes := #[t, t] })
  (e : TypeId) (z : Value) (bytes : Nat) (ht : P.underlying t = some (.slice e)) (hinfo : (P.info? e).map (fun i => (i.zero, i.size, i.bytes)) = some (some z, 1, bytes))
  (hz1 : z.cells.size = 1) (nU : bytes ≤ 64) {ao : Option Addr} {n : Nat} {olds : List Value} (hs : a.eval s = .slice ao n n) (hnone : ao = none → n = 0) (hlo : olds.length = n) (holds : ∀ b, ao = some b → ∀ j u, olds[j]? = some u → w.cell? (b.add j) = some u)
  {ad : Addr} {m c : Nat} {news : List Value} (hx : a.eval x = .slice (some ad) m c) (hl : news.length = m) (hnews : ∀ j u, news[j]? = some u → w.cell? (ad.add j) = some u) (h1 : ∀ u ∈ news, u.oneCell' = true) (hm : 0 < m) (hn : n + m ≤ 1000000)
  (h : ∀ g cap w', aA w.heap.size e w' (.slice (some ⟨g, 0, none⟩) (n + m) cap) (olds ++ news) → Up w w' → K (a.put o.dst (.slice (some ⟨g, 0, none⟩) (n + m) cap)) w') :
  if Region.wanted o (yielded ops a.tmps) = true then Oper.wp P o a w K Q else E := by
 have hw : Region.wanted o (yielded ops a.tmps) = true := by simp [Region.wanted, hgd]
 rw [if_pos hw]
 obtain ⟨i, hi, hzz⟩ := Option.map_eq_some_iff.1 hinfo
 simp only [Prod.mk.injEq] at hzz
 obtain ⟨hz, hs1, hb⟩ := hzz
 have hb1 : n + m ≤ maxLen := by unfold maxLen; omega
 have hb2 : (n + m) * bytes ≤ 140737488355328 := by
  have : (n + m) * bytes ≤ (n + m) * 64 := Nat.mul_le_mul_left _ nU
  omega
 have fin : ∀ v' w', w'.ownsRow w.heap.size e 1 v' (n + m) (olds ++ news) → w.grownBy w' none → K (a.put o.dst v') w' := fun v' w' r1 r2 => by
  have hlen : (olds ++ news).length = n + m := by rw [List.length_append, hlo, hl]
  have hown : aA w.heap.size e w' v' (olds ++ news) := by unfold aA; rw [hlen]; exact r1
  have eC : Up w w' := ⟨r2.os, r2.tape, r2.output, r2.size, fun b hb => r2.block b hb (fun e => by cases e)⟩
  obtain ⟨h2, h3 | ⟨g, c', cur, h3, _⟩⟩ := hown
  ·omega
  ·rw [hlen] at h3
   subst h3
   exact h g c' w' (by unfold aA; rw [hlen]; exact r1) eC
 cases ao with
 | some b =>
  obtain ⟨v', w', hrun, r1, r2⟩ := run_append_arg_grows (P := P) w t o.type e i z 1 bytes ht hi hz hs1 hb hz1 (by omega) b n n olds (by omega) (holds b rfl) ad m c news (by omega) hnews (by omega) hb1 hb2
  unfold Oper.wp
  simp [execOp, ho, resolve, invoke, builtin, hs, hx, hrun, Result.andThen]
  exact fin v' w' r1 r2
 | none =>
  obtain rfl := hnone rfl
  obtain rfl : olds = [] := List.eq_nil_of_length_eq_zero hlo
  obtain ⟨v', w', hrun, r1, r2, _⟩ := run_append_own (P := P) w w.heap.size t o.type e i z 1 bytes ht hi hz hs1 hb hz1 (by omega) (.slice none 0 0) 0 [] (World.ownsRow_nil w _ e 1) ad m c news (by omega) hnews h1 hb1 hb2 (Nat.le_refl _)
  unfold Oper.wp
  simp [execOp, ho, resolve, invoke, builtin, hs, hx, hrun, Result.andThen]
  exact fin v' w' r1 r2
theorem PT (hgd : o.guard = none) (s x : Operand) (t : TypeId) (ho : o.op = .call { callee := .builtin .append, args := #[s, x], argTypes := #[t, t] })
  (e : TypeId) (z : Value) (bytes : Nat) (ht : P.underlying t = some (.slice e)) (hinfo : (P.info? e).map (fun i => (i.zero, i.size, i.bytes)) = some (some z, 1, bytes))
  {ao : Option Addr} {n c : Nat} (hs : a.eval s = .slice ao n c) (hle : n ≤ c) {ad : Option Addr} {c2 : Nat} (hx : a.eval x = .slice ad 0 c2)
  (h : K (a.put o.dst (.slice ao n c)) w) : if Region.wanted o (yielded ops a.tmps) = true then Oper.wp P o a w K Q else E := by
 have hw : Region.wanted o (yielded ops a.tmps) = true := by simp [Region.wanted, hgd]
 rw [if_pos hw]
 obtain ⟨i, hi, hzz⟩ := Option.map_eq_some_iff.1 hinfo
 have hrun : (Builtin.append_ #[t, t] o.type #[.slice ao n c, .slice ad 0 c2]).run P w = .ok (.slice ao n c) w := by
  cases ao <;> cases ad <;> simp [Builtin.append_, run_underlying ht, sizeOf, typeInfo, hi, Builtin.lenOf, hle, Builtin.firstCells, storeCells, loadCells, loadCellsFrom]
 unfold Oper.wp
 simp [execOp, ho, resolve, invoke, builtin, hs, hx, hrun, Result.andThen]
 exact h
end
theorem RsAt.Zm {S : Nat → Prop} {w : World} : ∀ (a b : List RT) {vs us : List Value}, RsAt S w a vs → RsAt S w b us → RsAt S w (a ++ b) (vs ++ us)
 | [], b, vs, us, h, h2 => by unfold RsAt at h; subst h; exact h2
 | r :: a, b, vs, us, h, h2 => by
  unfold RsAt at h
  obtain ⟨u, q, rfl, h3, h4⟩ := h
  show RsAt S w (r :: (a ++ b)) (u :: (q ++ us))
  unfold RsAt
  exact ⟨u, q ++ us, rfl, h3, RsAt.Zm a b h4 h2⟩
theorem RsAt.UK {S : Nat → Prop} {w : World} : ∀ (a : List RT) (k : Nat) {vs : List Value}, RsAt S w a vs → RsAt S w (a.take k) (vs.take k)
 | [], k, vs, h => by unfold RsAt at h; subst h; simp [RsAt]
 | r :: a, 0, vs, h => by simp [RsAt]
 | r :: a, k + 1, vs, h => by
  unfold RsAt at h
  obtain ⟨u, q, rfl, h3, h4⟩ := h
  rw [List.take_succ_cons, List.take_succ_cons]
  unfold RsAt
  exact ⟨u, _, rfl, h3, RsAt.UK a k h4⟩
theorem RsAt.UL {S : Nat → Prop} {w : World} : ∀ (a : List RT) (k : Nat) {vs : List Value}, RsAt S w a vs → RsAt S w (a.drop k) (vs.drop k)
 | [], k, vs, h => by unfold RsAt at h; subst h; simp [RsAt]
 | r :: a, 0, vs, h => h
 | r :: a, k + 1, vs, h => by
  unfold RsAt at h
  obtain ⟨u, q, rfl, h3, h4⟩ := h
  rw [List.drop_succ_cons, List.drop_succ_cons]
  exact RsAt.UL a k h4
theorem kT.lay {base B X : Nat} {w W : World} {nm : ByteArray} {kv kv' : Value} {acc : List RT} {sW : List Value} {o : RT} {u : Value} (h : kT base B w nm kv acc) (Cn : RsAt (fun b => base ≤ b ∧ b ≠ B ∧ kv.ownBlock ≠ some b) w acc sW) (hu : Up w W) (hX : w.heap.size ≤ X)
  (hkb : ∀ b, kv'.ownBlock = some b → X ≤ b) (hr : RAt (fun b => w.heap.size ≤ b ∧ b < X) W o u) (k : Nat) (ho : aA (B + 1) 214 W kv' (sW.take k ++ u :: sW.drop k)) :
  kT base B (W.setCell ⟨B, 1, none⟩ kv') nm kv' (acc.take k ++ o :: acc.drop k) := by
 have hBl := h.lt
 have b8 : ∀ b, b ≠ B → (W.setCell ⟨B, 1, none⟩ kv').heap[b]? = W.heap[b]? := fun b hb => blk_setCell_other _ _ _ _ hb
 have hn := (Below.block hu B hBl).trans h.node
 have hlo := h.lo
 refine ⟨by simp [World.setCell, Array.getElem?_modify, hn], h.lo, _, ho.eV fun b hb => b8 b (by have := hkb b hb; omega), ?_⟩
 have k1 : Kept (fun b => base ≤ b ∧ b ≠ B ∧ kv'.ownBlock ≠ some b) w (W.setCell ⟨B, 1, none⟩ kv') := fun b hb hl => (b8 b hb.2.1).trans (Below.block hu b hl)
 have a1 : RsAt (fun b => base ≤ b ∧ b ≠ B ∧ kv'.ownBlock ≠ some b) (W.setCell ⟨B, 1, none⟩ kv') acc sW :=
  RsAt.keep k1 acc (RsAt.sub (fun b hb hl => ⟨hb.1, hb.2.1, fun e => by have := hkb b e; omega⟩) acc Cn)
 have k2 : Kept (fun b => base ≤ b ∧ b ≠ B ∧ kv'.ownBlock ≠ some b) W (W.setCell ⟨B, 1, none⟩ kv') := fun b hb _ => b8 b hb.2.1
 have a2 : RAt (fun b => base ≤ b ∧ b ≠ B ∧ kv'.ownBlock ≠ some b) (W.setCell ⟨B, 1, none⟩ kv') o u :=
  RAt.keep k2 o (RAt.sub (fun b hb _ => ⟨by have := hb.1; omega, by have := hb.1; omega, fun e => by have := hkb b e; have := hb.2; omega⟩) o hr)
 refine RsAt.Zm _ _ (RsAt.UK acc k a1) ?_
 unfold RsAt
 exact ⟨u, sW.drop k, rfl, a2, RsAt.UL acc k a1⟩
end
section
def IC (s : RT) : Prop := (s.kids ≠ [] → s.nm.size = 0) ∧ (s.kids = [] → aZ s.nm.data.toList = true) ∧ s.kids.length ≠ 1
def mS (l : List ByteArray) : List ByteArray := l.filter fun s => decide (s.size ≠ 0)
theorem ID (a b : List ByteArray) : mS (a ++ b) = mS a ++ mS b := List.filter_append _ _
theorem iY {nm : ByteArray} {ks : List RT} (h : nm.size = 0) : bu (.node nm ks) = ks.flatMap bu := by
 have key : ∀ ks : List RT, mS (dr ks) = ks.flatMap bu := by
  intro ks
  induction ks with
  | nil => rfl
  | cons r rs ih => rw [dr, ID, ih, List.flatMap_cons]; rfl
 show mS (cQ _) = _
 rw [cQ, ← key]
 unfold mS
 rw [List.filter_cons_of_neg (by simp [h])]
theorem Nc {nm : ByteArray} (h : nm.size ≠ 0) : bu (.node nm []) = [nm] := by
 show List.filter _ (cQ _) = _
 rw [cQ, dr, List.filter_cons_of_pos (by simpa using h)]; rfl
end
section
open Go.RowKit Go.Deep
theorem Nd (w : World) (o : Option Nat) : w.grownBy w o := ⟨rfl, rfl, rfl, Nat.le_refl _, fun _ _ _ => rfl⟩
theorem mF {w w' x : World} {o : Option Nat} (h : w.grownBy w' o) (k : w'.grownBy x o) : w.grownBy x o :=
 ⟨k.os.trans h.os, k.tape.trans h.tape, k.output.trans h.output, Nat.le_trans h.size k.size, fun b hb hn => (k.block b (Nat.lt_of_lt_of_le hb h.size) hn).trans (h.block b hb hn)⟩
theorem sX {w w' : World} (h : Up w w') (o : Option Nat) : w.grownBy w' o := ⟨h.os, h.tape, h.output, h.size, fun b hb _ => Below.block h b hb⟩
theorem E3 {w : World} {g o : Nat} {z : Value} : w.grownBy (w.setCell ⟨g, o, none⟩ z) (some g) :=
 ⟨rfl, rfl, rfl, by rw [World.size_setCell]; exact Nat.le_refl _, fun b _ hn => blk_setCell_other _ _ _ _ fun e => hn (by rw [e])⟩
theorem Cr {g : Nat} : ∀ (vs : List Value) (o : Nat) (w : World), w.grownBy (w.setCells g o vs) (some g)
 | [], _, w => Nd w _
 | z :: vs, o, w => by rw [World.setCells]; exact mF E3 (Cr vs (o + 1) _)
theorem E4 {base : Nat} {e : TypeId} {w : World} {g n cap : Nat} {xs : List Value} (h : aA base e w (.slice (some ⟨g, 0, none⟩) n cap) xs) {m : Nat} (hm : m ≤ n) : aA base e w (.slice (some ⟨g, 0, none⟩) m cap) (xs.take m) := by
 obtain ⟨h1, h2⟩ := h
 rcases h2 with ⟨e1, _⟩ | ⟨g2, dM, cur, e1, hg, hc, hn, hcm, hcs, ht⟩
 ·cases e1
 ·injection e1 with a1 a2 a3
  injection a1 with a1
  injection a1 with a1
  subst a1; subst a3
  have hnx : n = xs.length := a2
  have hl : (xs.take m).length = m := by rw [List.length_take]; omega
  refine ⟨by rw [Nat.mul_one], .inr ⟨g, cap, cur, by rw [hl], hg, hc, by omega, hcm, hcs, ?_⟩⟩
  rw [hl, Nat.mul_one, ← ht, List.take_take]
  congr 1; omega
theorem PU {base : Nat} {e : TypeId} {w : World} {g m cap o : Nat} {xs : List Value} {z : Value} (h : aA base e w (.slice (some ⟨g, 0, none⟩) m cap) xs) (ho : m ≤ o) : aA base e (w.setCell ⟨g, o, none⟩ z) (.slice (some ⟨g, 0, none⟩) m cap) xs := by
 obtain ⟨h1, h2⟩ := h
 rcases h2 with ⟨e1, _⟩ | ⟨g2, dM, cur, e1, hg, hc, hn, hcm, hcs, ht⟩
 ·cases e1
 ·injection e1 with a1 a2 a3
  injection a1 with a1
  injection a1 with a1
  subst a1; subst a3
  refine ⟨h1, .inr ⟨g, cap, cur.setIfInBounds o z, by rw [a2], hg, ?_, hn, hcm, by rw [Array.size_setIfInBounds]; exact hcs, ?_⟩⟩
  ·simp [World.setCell, Array.getElem?_modify, hc]
  ·have hmx : m = xs.length := a2
   rw [Array.toList_setIfInBounds, List.take_set_of_le (by omega)]; exact ht
theorem Cs {base : Nat} {e : TypeId} {g m cap : Nat} {xs : List Value} : ∀ (vs : List Value) (o : Nat) (w : World), m ≤ o → aA base e w (.slice (some ⟨g, 0, none⟩) m cap) xs → aA base e (w.setCells g o vs) (.slice (some ⟨g, 0, none⟩) m cap) xs
 | [], _, _, _, h => h
 | z :: vs, o, w, ho, h => by rw [World.setCells]; exact Cs vs (o + 1) _ (by omega) (PU h ho)
theorem qF {base : Nat} {e : TypeId} {w : World} {g n cap : Nat} {xs : List Value} (h : aA base e w (.slice (some ⟨g, 0, none⟩) n cap) xs) {j : Nat} {u : Value} (hj : xs[j]? = some u) : w.cell? ⟨g, j, none⟩ = some u ∧ w.frozen? ⟨g, j, none⟩ = false := by
 have hl := (List.getElem?_eq_some_iff.1 hj).1
 obtain ⟨g2, dM, e1, _, _, hc, hf, _⟩ := h.set hl
 injection e1 with a1
 injection a1 with a1
 injection a1 with a1
 subst a1
 refine ⟨?_, hf⟩
 rw [hc]
 congr 1
 rw [List.getD_eq_getElem?_getD, hj]; rfl
section
variable {A : Nat → Nat} {P : Nat → Bool}
set_option maxHeartbeats 1000000 in
theorem IE (g : Nat) (lb : Array Value) (eg : ∀ args w, (callFunc g args).run Tryz.prog w = .ok (.enter g args) w) {base : Nat} {w : World} {bk cap : Nat} {ks : List Nat} (h : aA base 124 w (.slice (some ⟨bk, 0, none⟩) ks.length cap) (ks.map (aL A))) (hn : ks.length ≤ 1000000)
  (hp : ∀ k ∈ ks, ∀ q, Calls Tryz.prog g (#[.pointer (some ⟨A k, 0, none⟩)] ++ lb) (w.drewN q) fun e w' => e = .returned (.bool (P k)) ∧ ∃ m, w' = w.drewN m) :
  Calls Tryz.prog 161 #[.slice (some ⟨bk, 0, none⟩) ks.length cap, .func (.func g) #[] lb] w fun e w' => e = .returned (.int .i64 (bW (fun j => P (ks.getD j 0)) ks.length)) ∧ ∃ m, w' = w.drewN m := by
 have HP := aa hp
 have HO := aa h
 clear h hp
 go_enter Tryz.func161, Tryz.ntmps161
 go_wp2_with fail
 go_loopw [5, 8] (fun _ i wr => ∃ k : Nat, k ≤ ks.length ∧ i = .int .i64 k ∧ Hid (QD w wr) ∧ Hid (∀ j, j < k → P (ks.getD j 0) = false)) (fun _ i _ => ks.length - (intOf i).toNat)
 case atStart => exact ⟨0, Nat.zero_le _, rfl, QD.refl _, fun j hj => absurd hj (Nat.not_lt_zero _)⟩
 case round =>
  obtain ⟨k, hk, rfl, hQ, hd⟩ := hrel
  obtain ⟨q, hq⟩ := hQ.out
  subst hq
  by_cases hlt : k < ks.length
  ·have hke : ks[k]? = some (ks.getD k 0) := by rw [List.getD_eq_getElem?_getD, List.getElem?_eq_getElem hlt]; rfl
   have hx := (qF (HO.out.eV (w' := w.drewN q) fun _ _ => rfl) (j := k) (u := aL A (ks.getD k 0)) (by rw [List.getElem?_map, hke]; rfl)).1
   simp only [aL] at hx
   have i1 : (0 : Int) ≤ (k : Int) := by omega
   have i2 : (k : Int) < (ks.length : Int) := by omega
   have xw := aa (HP.out (ks.getD k 0) (List.mem_of_getElem? hke) q)
   have aY := aa hlt
   have HPV : Hid (∀ j, j < k + 1 → P (ks.getD k 0) = false → P (ks.getD j 0) = false) := fun j hj hf => if e : j = k then by subst e; exact hf else hd.out j (by omega)
   have HHI : Hid (P (ks.getD k 0) = true → bW (fun j => P (ks.getD j 0)) ks.length = k) := fun ht => iO hlt hd.out ht
   clear hke
   generalize ks.getD k 0 = c at *
   cases hv : P c
   ·rw [hv] at xw
    have HN : Hid (∀ j, j < k + 1 → P (ks.getD j 0) = false) := fun j hj => HPV.out j hj hv
    clear hv
    go_wp2_with fail
    refine xw.out.mono ?_
    rintro e w' ⟨rfl, m, rfl⟩
    go_wp2_with fail
    go_roundw
    case rel => exact ⟨k + 1, aY.out, by go_num, ⟨m, rfl⟩, HN.out⟩
    case measure => have := aY.out; simp [intOf]; omega
   ·rw [hv] at xw
    have HN := aa (HHI.out hv)
    clear hv
    go_wp2_with fail
    refine xw.out.mono ?_
    rintro e w' ⟨rfl, m, rfl⟩
    go_wp2_with fail
    go_ret
    exact ⟨aO HN.out.symm, m, rfl⟩
  ·go_wp2_with fail
   go_ret
   exact ⟨aO (gu fun j hj => hd.out j (by omega)).symm, q, rfl⟩
end
end
section
open Go.RowKit Go.Shelf Go.Deep
theorem SI (W : World) : (zeroValue 3).run Tryz.prog W = .ok (.int .i64 0) W := by simp [Tryz.zeroValue3]
end
section
open Go.RowKit Go.Deep
set_option maxHeartbeats 1000000 in
theorem Ah {g : Nat} {lb : Array Value} (eg : ∀ args w, (callFunc g args).run Tryz.prog w = .ok (.enter g args) w) {base n : Nat} {A : Nat → Nat} {w0 : World} {m : Nat → ByteArray} {o : Nat → Int} {P : Nat → Bool} {rk : Nat → Nat}
  (hp : ∀ j W, j < n → Below base w0 W → W.cell? ⟨A j, 0, none⟩ = some (.string (m j)) → W.cell? ⟨A j, 2, none⟩ = some (.int .i64 (o j)) → Calls Tryz.prog g (#[.pointer (some ⟨A j, 0, none⟩)] ++ lb) W fun e W' => e = .returned (.bool (P j)) ∧ Up W W')
  {F : aP} {i : Nat} {kv : Nat → Value} {w : World} (hm0 : F.nm = m) (ho : F.old = o) (hw : Wf F n rk) (hi : i < n) (hB : Below base w0 w) (_hb : base ≤ w.heap.size) (hF : aS base n A kv F w) (h0 : F.kids i = []) :
  Calls Tryz.prog 117 #[.pointer (some ⟨A i, 0, none⟩), .func (.func g) #[] lb] w (Cg base n A F P rk kv i w) := by
 have hown := hF.own i hi
 rw [h0] at hown
 obtain ⟨q, cap, hv, _⟩ := hown.form (n := 0) rfl
 have hkc := hF.je hi
 rw [hv] at hkc
 have dO := aa (hp i w hi hB (by have := hF.name hi; rw [hm0] at this; exact this) (by have := hF.Yi hi; rw [ho] at this; exact this))
 have iH : Hid (al F P rk i = P i) := by rw [Hid, jx hw hi, if_pos h0]
 have HPD : Hid (∀ w', Up w w' → UI base n A F P rk kv i w kv w') := fun w' hu => ⟨(hF.up hu).ox fun z hz => ⟨rfl, rfl, by
  show (if _ then _ else _) = _
  split
  ·rename_i hs
   rw [fh hw hi, h0] at hs
   have : z = i := by simpa using hs
   subst this
   unfold gY; rw [h0]; rfl
  ·rfl⟩, tV.MQ hu, fun _ _ _ h => .inl h, fun _ _ => rfl⟩
 clear hown hF hp hv h0 hB
 go_enter Tryz.func117, Tryz.ntmps117
 go_wp2_with fail
 refine dO.out.mono ?_
 rintro e w' ⟨rfl, hu⟩
 have HN := aa (HPD.out w' hu)
 clear hu
 cases hP : P i with
 | true =>
  have IG : Hid (al F P rk i = true) := by rw [Hid, iH.out, hP]
  go_wp2_with fail
  go_ret
  exact ⟨by rw [IG.out]; rfl, _, HN.out⟩
 | false =>
  have IG : Hid (al F P rk i = false) := by rw [Hid, iH.out, hP]
  go_wp2_with fail
  go_ret
  exact ⟨by rw [IG.out]; rfl, _, HN.out⟩
set_option maxHeartbeats 4000000 in
theorem SJ (g : Nat) (lb : Array Value) (eg : ∀ args w, (callFunc g args).run Tryz.prog w = .ok (.enter g args) w) {base n : Nat} {A : Nat → Nat} {w0 : World} {m : Nat → ByteArray} {o : Nat → Int} {P : Nat → Bool} {rk : Nat → Nat}
  (hp : ∀ j W, j < n → Below base w0 W → W.cell? ⟨A j, 0, none⟩ = some (.string (m j)) → W.cell? ⟨A j, 2, none⟩ = some (.int .i64 (o j)) → Calls Tryz.prog g (#[.pointer (some ⟨A j, 0, none⟩)] ++ lb) W fun e W' => e = .returned (.bool (P j)) ∧ Up W W') :
  ∀ (d : Nat) (F : aP) (i : Nat) (kv : Nat → Value) (w : World), F.nm = m → F.old = o → Wf F n rk → oh F n rk i → (∀ z, z < n → (F.kids z).length ≤ 1000) → i < n → rk i ≤ d → Below base w0 w → base ≤ w.heap.size → aS base n A kv F w →
  Calls Tryz.prog 117 #[.pointer (some ⟨A i, 0, none⟩), .func (.func g) #[] lb] w (Cg base n A F P rk kv i w) := by
 intro d
 induction d with
 | zero =>
  intro F i kv w hm0 ho hw hD hl hi hd hB hb hF
  exact Ah eg hp hm0 ho hw hi hB hb hF (eL hw hi hd)
 | succ d ih =>
  intro F i kv w hm0 ho hw hD hl hi hd hB hb hF
  by_cases h0 : F.kids i = []
  ·exact Ah eg hp hm0 ho hw hi hB hb hF h0
  ·have hown := hF.own i hi
   obtain ⟨L, iw⟩ : ∃ L, L = F.kids i := ⟨_, rfl⟩
   have yj : 0 < L.length := by rw [iw]; exact List.length_pos_iff.2 h0
   have gK : L.length ≤ 1000 := by rw [iw]; exact hl i hi
   rw [← iw] at hown
   obtain ⟨q, cap, hv, hq⟩ := hown.form (n := L.length) (by simp)
   obtain ⟨gk, rfl⟩ : ∃ g, q = some ⟨g, 0, none⟩ := by
    rcases hq with rfl | h
    ·obtain ⟨_, h | ⟨g, _, _, h, _⟩⟩ := hown
     ·have := h.2; rw [List.length_map] at this; omega
     ·rw [hv] at h; cases h
    ·exact h
   have hkc := hF.je hi
   rw [hv] at hkc
   have HF := aa hF
   have HV := aa hv
   have dF := aa iw
   have iG := aa ih
   have HW := aa hw
   have HD := aa hD
   have HO := aa ho
   have Zn := aa hm0
   have EC := aa hl
   have HB := aa hB
   have jq := aa hb
   have eT : Hid (∀ c ∈ L, c < n ∧ rk c < rk i) := fun c hc => hw.kid i hi c (by rw [← iw]; exact hc)
   have HST : Hid (tW base n A F P rk kv i w kv w (.slice none 0 0) 0 0) := ⟨hF.ox fun z _ => ⟨rfl, rfl, EX _ _ _⟩, tV.refl _ _ _, fun _ _ _ h => .inl h, fun _ _ => rfl, aA.nil _ _ _, fun b hb => by cases hb⟩
   have iH : Hid (al F P rk i = (F.kids i).any (al F P rk)) := by rw [Hid, jx hw hi, if_neg h0]
   have d1 : ((L.length : Int) == 0) = false := beq_eq_false_iff_ne.2 (by omega)
   have hfr := hF.thaw hi 1
   clear hown hq hv iw ih hw hD ho hm0 hl hB hb hF h0
   go_enter Tryz.func117, Tryz.ntmps117
   go_wp2_with fail
   go_loopw [5, 7, 8, 25] (fun dv _ _ x wr => ∃ k : Nat, k ≤ L.length ∧ x = .int .i64 k ∧ Hid (∃ l7, tW base n A F P rk kv i w l7 wr dv k k)) (fun _ _ _ x _ => L.length - (intOf x).toNat)
   case atStart => exact ⟨0, Nat.zero_le _, rfl, kv, HST.out⟩
   case round =>
    obtain ⟨k, hk, rfl, hO⟩ := hrel
    obtain ⟨wo, rfl⟩ : ∃ wo : World, wo = wr := ⟨_, rfl⟩
    obtain ⟨dv, rfl⟩ : ∃ d : Value, d = u5 := ⟨_, rfl⟩
    obtain ⟨l7, hO⟩ := hO.out
    have HK := aa hO
    by_cases hlt : k < L.length
    ·have uT : L[k]? = some L[k] := List.getElem?_eq_getElem hlt
     have hc : (F.kids i)[k]? = some L[k] := by rw [← dF.out]; exact uT
     have Zo : l7 i = .slice (some ⟨gk, 0, none⟩) L.length cap := (hO.old i (.inr rfl)).trans HV.out
     have hrow := hO.fr.wC (i := i) (j := k) (c := L[k]) hi Zo (by rw [Sy HW.out hi k]; exact hc)
     have cD := eT.out L[k] (List.getElem_mem hlt)
     have dO := aa (iG.out (F.upto rk (gY F P rk) (F.kids i) k) L[k] l7 wo Zn.out HO.out (zm HW.out P _ k) ((oh.kid HW.out hi (List.mem_of_getElem? hc) HD.out).Zb HW.out (zm HW.out P _ k) cD.1 (rF HW.out hi HD.out hc))
      (fun z hz => by
       show (if _ then _ else _ : List Nat).length ≤ _
       split
       ·exact Nat.le_trans (List.length_filter_le _ _) (EC.out z hz)
       ·exact EC.out z hz) cD.1 (by have := cD.2; omega) (HB.out.trans (hO.up.below HF.out.lo jq.out)) (Nat.le_trans jq.out hO.up.size) hO.fr)
     have HALC : Hid (al (F.upto rk (gY F P rk) (F.kids i) k) P rk L[k] = al F P rk L[k]) := Ls HW.out (zm HW.out P _ k) cD.1 (Nat.le_refl _) (rF HW.out hi HD.out hc)
     have HC := aa hc
     have aY := aa hlt
     have i1 : (0 : Int) ≤ (k : Int) := by omega
     have i2 : (k : Int) < (L.length : Int) := by omega
     unfold Cg at dO
     rw [HALC.out] at dO
     clear uT hc cD Zo hO
     generalize L[k] = c at *
     go_wp2_with fail
     refine dO.out.mono ?_
     rintro e w2 ⟨rfl, PG, h2⟩
     have HS := aa (HK.out.step HF.out HW.out HD.out hi HC.out h2)
     clear h2 HK
     cases ha : al F P rk c with
     | false =>
      have HN := aa (HS.out.skip HC.out ha)
      clear HS ha
      go_wp2_with fail
      go_roundw
      case rel => exact ⟨k + 1, aY.out, by go_num, PG, HN.out⟩
      case measure => have := aY.out; simp [intOf]; omega
     | true =>
      have HA := aa ha
      have Ct : Hid (((((F.kids i).take k).filter (al F P rk)).map (aL A)).length = (((F.kids i).take k).filter (al F P rk)).length) := List.length_map _
      have Ai : (((F.kids i).take k).filter (al F P rk)).length ≤ 1000000 := by
       refine Nat.le_trans (List.length_filter_le _ _) ?_
       rw [List.length_take]; omega
      have T8 : w.heap.size ≤ w2.heap.size := HS.out.up.size
      have HOW : Hid (aA w.heap.size 124 w2 dv ((((F.kids i).take k).filter (al F P rk)).map (aL A))) := HS.out.own
      clear ha
      unfold aL
      go_wp2_with (first | (at_builtin; refine gX w2 rfl _ _ 125 rfl w.heap.size 124 (.pointer none) 8 Tryz.underlying125 Tryz.nX rfl (by decide) HOW.out rfl (.pointer (some ⟨A c, 0, none⟩)) rfl rfl _ Ct.out Ai T8 ?_; intro g8 iz w8 hown1 Zp hr1))
      have HN := aa (HS.out.push HF.out HC.out HA.out hown1 Zp hr1)
      clear hown1 Zp hr1 HS HOW
      go_roundw
      case rel => exact ⟨k + 1, aY.out, by go_num, PG, HN.out⟩
      case measure => have := aY.out; simp [intOf]; omega
    ·obtain rfl : k = L.length := by omega
     have dY : (F.kids i).length = L.length := by rw [dF.out]
     have kO : Hid (tW base n A F P rk kv i w l7 wo dv (F.kids i).length (F.kids i).length) := by rw [Hid, dY]; exact hO
     have HDN := aa (kO.out.done HF.out HW.out hi jq.out)
     have hfr := kO.out.fr.thaw hi 1
     have Zq := kO.out.own
     rw [List.take_length] at Zq
     obtain ⟨dq, dc, rfl, _⟩ := Zq.form (n := ((F.kids i).filter (al F P rk)).length) (by simp)
     have HAE : Hid (al F P rk i = decide (0 < ((F.kids i).filter (al F P rk)).length)) := by
      rw [Hid, iH.out, Bool.eq_iff_iff, List.any_eq_true, decide_eq_true_eq, List.length_pos_iff_exists_mem]
      constructor
      ·rintro ⟨x, hx, e⟩; exact ⟨x, List.mem_filter.2 ⟨hx, e⟩⟩
      ·rintro ⟨x, hx⟩; exact ⟨x, (List.mem_filter.1 hx).1, (List.mem_filter.1 hx).2⟩
     have hkc := kO.out.fr.je hi
     clear hlt hk Zq dY hO HK kO
     generalize ((F.kids i).filter (al F P rk)).length = m at *
     by_cases hm : m = 0
     ·have d2 : ((m : Int) == 0) = true := by rw [hm]; rfl
      have IG : Hid (al F P rk i = false) := by rw [Hid, HAE.out, hm]; rfl
      clear hm
      go_wp2_with fail
      go_ret
      exact ⟨by rw [IG.out]; rfl, _, HDN.out⟩
     ·have d2 : ((m : Int) == 0) = false := beq_eq_false_iff_ne.2 (by omega)
      have IG : Hid (al F P rk i = true) := by rw [Hid, HAE.out]; exact decide_eq_true (by omega)
      clear hm
      go_wp2_with fail
      go_ret
      exact ⟨by rw [IG.out]; rfl, _, HDN.out⟩
end
section
open Go Go.RowKit Go.Deep
theorem qU {F : Fence} {nF : Nat} {P : Program} {ops : Array Oper} {rest : List Oper} {o : Oper} {a : Act} {Q : Exit → Act → World → Prop} (W : World) (hgd : o.guard = none) (s x : Operand) (t : TypeId) (ho : o.op = .call { callee := .builtin .append, args := #[s, x], argTypes := #[t, t] })
  (base : Nat) (e : TypeId) (z : Value) (bytes : Nat) (ht : P.underlying t = some (.slice e)) (hinfo : (P.info? e).map (fun i => (i.zero, i.size, i.bytes)) = some (some z, 1, bytes))
  (hz1 : z.cells.size = 1) (nU : bytes ≤ 64) {v : Value} {vs : List Value} (hown : aA base e W v vs) (hs : a.eval s = v) (u : Value)
  (hx : a.eval x = .slice (some ⟨W.heap.size, 0, none⟩) 1 1) (h1 : u.oneCell' = true) (k : Nat) (zX : vs.length = k) (hn : k ≤ 1000000) (hbase : base ≤ W.heap.size)
  (h : ∀ g cap w', aA base e w' (.slice (some ⟨g, 0, none⟩) (k + 1) cap) (vs ++ [u]) → W.grownBy w' v.ownBlock → (v.ownBlock = some g ∨ W.heap.size ≤ g) → wpListIn F nF P ops Q rest (a.put o.dst (.slice (some ⟨g, 0, none⟩) (k + 1) cap)) w') :
  wpListIn F nF P ops Q (o :: rest) a (W.alloc (.cells #[u] e)) := by
 subst zX
 obtain ⟨i, hi, hzz⟩ := Option.map_eq_some_iff.1 hinfo
 simp only [Prod.mk.injEq] at hzz
 obtain ⟨hz, hs1, hb⟩ := hzz
 refine wpListIn_plain hgd fun K hK' => ?_
 obtain ⟨g, cap, w', hr, h2, h3, h4, h5⟩ := run_append_lies (P := P) (W.alloc (.cells #[u] e)) t o.type base e i z 1 bytes ht hi hz hs1 hb hz1 (by omega) v vs.length vs (hown.alloc _) ⟨W.heap.size, 0, none⟩ 1 1 [u] rfl (cell_one_new _ _ _) (by simpa using h1) (by omega)
  (by unfold maxLen; omega) (by have : (vs.length + 1) * bytes ≤ (vs.length + 1) * 64 := Nat.mul_le_mul_left _ nU; omega) (by simp; omega) _ rfl
 unfold Oper.wpIn
 refine ⟨by simp [Oper.about, ho, resolve, Target.leads, Sem.run_pure], ?_⟩
 rw [Oper.semAt_plain F _ _ (by rw [ho]; intro c hc'; cases hc')]
 simp [execOp, ho, resolve, invoke, builtin, hs, hx, hr, Result.andThen]
 exact hK' _ _ (h g cap w' (by unfold aA; rw [List.length_append]; exact h2) (jb h3) (h4.imp id fun e => by rw [e, World.size_alloc]; omega))
end
section
open Go.RowKit Go.Deep
def Zr (w : World) (r : RT) (e : Ending) (w' : World) : Prop := Up w w' ∧ ∃ v, e = .returned v ∧ aC (fun b => w.heap.size ≤ b) w' v (flat r)
theorem Wp (r : RT) (p : Int) : (⟨[], []⟩ : ax).app r p = ⟨psR r 0 p, cQ r⟩ := by simp [ax.app]
set_option maxHeartbeats 1000000 in
theorem A9 (S : Nat → Prop) (w : World) (v : Value) (r : RT) (h : RAt S w r v) (hs : aI r ≤ 90000) : Calls Tryz.prog 211 #[v] w (Zr w r) := by
 have bq := Up.alloc w (.cells #[.slice none 0 0, .slice none 0 0] 39)
 have hsz : (w.alloc (.cells #[.slice none 0 0, .slice none 0 0] 39)).heap.size = w.heap.size + 1 := World.size_alloc _ _
 have hrb := fF (w := w) (P := .slice none 0 0) (N := .slice none 0 0) (T := 39)
 have hx : RAt (fun b => (Value.slice none 0 0).ownBlock ≠ some b ∧ (Value.slice none 0 0).ownBlock ≠ some b) (w.alloc (.cells #[.slice none 0 0, .slice none 0 0] 39)) r v := RAt.sub (fun b _ _ => ⟨fun e => (by cases e), fun e => (by cases e)⟩) r (RAt.keep (bq.kept S) r h)
 have HW := aa (Zg (w.heap.size + 1) (aI r) r (Nat.le_refl _) (w.alloc (.cells #[.slice none 0 0, .slice none 0 0] 39)) (.slice none 0 0) (.slice none 0 0) v ⟨[], []⟩ (-1) ⟨aA.nil _ _ _, aA.nil _ _ _, fun b hb => by cases hb⟩ (by omega) rfl (by simp; omega) hx)
 have HU := aa bq
 have jA := aa hrb
 have bQ := aa hsz
 clear bq hrb hsz h hx
 go_enter Tryz.func211, Tryz.ntmps211
 go_wp2_with fail
 generalize w.alloc (.cells #[.slice none 0 0, .slice none 0 0] 39) = w1 at *
 refine HW.out.mono ?_
 rintro e w2 ⟨P2, N2, rfl, hT, hK⟩
 rw [Wp] at hT
 obtain ⟨p2, c2, rfl, _, _⟩ := aD.open hT.cV.ints
 obtain ⟨q2, e2, rfl, _, _⟩ := aD.open hT.dN.strs
 have hu : Up w1 w2 := ⟨hK.os, hK.tape, hK.output, hK.size, fun b hb => hK.block b hb (by omega) (fun e => by cases e) (fun e => by cases e)⟩
 have hb2 := (Below.block hu w.heap.size (by rw [bQ.out]; omega)).trans jA.out
 obtain ⟨r0, r1, r2, r3⟩ : w2.cell? ⟨w.heap.size, 0, none⟩ = some (.slice none 0 0) ∧ w2.cell? ⟨w.heap.size, 1, none⟩ = some (.slice none 0 0) ∧ w2.frozen? ⟨w.heap.size, 0, none⟩ = false ∧ w2.frozen? ⟨w.heap.size, 1, none⟩ = false := by
  refine ⟨?_, ?_, ?_, ?_⟩ <;> simp [World.cell?, World.frozen?, hb2]
 have HST := aa (dL (w := w) (p := .slice p2 (psR r 0 (-1)).length c2) (q := .slice q2 (cQ r).length e2) hb2 (Nat.le_refl _) (HU.out.trans hu))
 have HP := aa hT.cV.ints
 have HN := aa hT.dN.strs
 clear hT hK hu hb2
 go_wp2_with fail
 obtain ⟨s1, s2, s3, s4⟩ := HST.out
 refine ⟨rfl, .agg #[.slice p2 (psR r 0 (-1)).length c2, .slice q2 (cQ r).length e2], by simp [results, Tryz.results211, go_sem, s2, s3], ?_⟩
 exact ⟨s1, _, rfl, _, _, rfl, (aB.keep HP.out fun b hb _ => s4 b (by have : w.heap.size + 1 ≤ b := hb; omega)).sub fun b hb _ => by have : w.heap.size + 1 ≤ b := hb; omega, (av.keep HN.out fun b hb _ => s4 b (by have : w.heap.size + 1 ≤ b := hb; omega)).sub fun b hb _ => by have : w.heap.size + 1 ≤ b := hb; omega⟩
end
section
open Go.RowKit Go.Deep
def SK (a : Option Addr) (n c : Nat) : Option Addr := if c = n then a else Option.map (fun x => x.add n) a
theorem all_none {S : Nat → Prop} {w : World} {n c : Nat} {f : Nat → Value} {a : Option Addr} (h : aD S w (.slice a n c) n f) (e : a = none) : n = 0 := by
 subst e
 by_cases hn : n = 0
 ·exact hn
 ·obtain ⟨q, c', e, _, H⟩ := aD.open h
  injection e with e
  subst e
  obtain ⟨b, off, e2, _⟩ := H 0 (by omega)
  cases e2
theorem PV {S : Nat → Prop} {w : World} {n c : Nat} {vs : List Value} {a : Option Addr} (h : aD S w (.slice a n c) n (vN vs)) (hl : vs.length = n) (b : Addr) (e : a = some b) (i : Nat) (q : Value) (hq : vs[i]? = some q) : w.cell? (b.add i) = some q := by
 have hki : i < n := by rw [← hl]; exact (List.getElem?_eq_some_iff.1 hq).1
 obtain ⟨b', o', e2, hc⟩ := oo h hki
 rw [e] at e2
 injection e2 with e2
 subst e2
 have hv : vN vs i = q := by unfold vN; rw [List.getD_eq_getElem?_getD, hq]; rfl
 rw [hv] at hc
 rw [Addr.add_lit]; exact hc
end
section
section
variable {names : List ByteArray} {l : List Eu}
theorem SL (names : List ByteArray) : (List.range names.length).map (gs names) = names := by
 refine List.ext_getElem (by simp) fun i h1 h2 => ?_
 simp [gs, h2]
end
end
end Go.Proofs.YteegefnjnikngaaGreat
