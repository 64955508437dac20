/- The contract of phylotree.nodes. -/
import Derived.Test.YteegefnjnikngaaGreatQ1
import Derived.Test.YteegefnjnikngaaGreatQ7
import Derived.Test.YteegefnjnikngaaGreatQ8
import Derived.Deep.RegionHeld3
import Derived.Deep.AppendLies
set_option maxRecDepth 100000
namespace Go.Proofs.YteegefnjnikngaaGreat
open Go.RowKit Go.Deep
theorem Tryz.oL : (Tryz.prog.info? 124).map (fun i => (i.zero, i.size, i.bytes)) = some (some (.pointer none), 1, 8) := by kernel_rfl
theorem aR.congr {base n : Nat} {A : Nat → Nat} {kv : Nat → Value} {F F' : aL} {w : World} (h : aR base n A kv F w) (e : ∀ i, i < n → F'.nm i = F.nm i ∧ F'.old i = F.old i ∧ F'.kids i = F.kids i) : aR base n A kv F' w :=
 ⟨fun i hi => by rw [(e i hi).1, (e i hi).2.1]; exact h.node i hi, h.lo, h.inj, fun i hi => by rw [(e i hi).2.2]; exact h.own i hi, h.apart, h.alone, fun i hi => by rw [(e i hi).2.2]; exact h.kid i hi⟩
theorem Ci {w : World} {p : Addr} {v : Value} (h : ∃ u, w.cell? p = some u) : (w.setCell p v).cell? p = some v := by
 obtain ⟨u, h⟩ := h
 exact World.cell?_setCell_same' _ _ _ (by rw [h]; rfl)
theorem ru {w : World} {p : Addr} {v : Value} {b o : Nat} (h : p.block ≠ b) : (w.setCell p v).cell? ⟨b, o, none⟩ = w.cell? ⟨b, o, none⟩ :=
 World.cell?_of_block (a := ⟨b, o, none⟩) (blk_setCell_other _ _ _ _ (fun e => h e.symm))
theorem kr {w w' : World} {o : Obj} {row : Option Nat} (h : (w.alloc o).drew.grownBy w' row) : w.grownBy w' row :=
 gu (o := o) ⟨h.os, h.tape, h.output, h.size, h.block⟩
section
variable {P : Program} {ops : Array Oper} {o : Oper} {a : Act} {w : World} {K : Act → World → Prop} {Q : Exit → Act → World → Prop} {E : Prop}
theorem eE (hgd : o.guard = none) (s x : Operand) (t : TypeId) (ho : o.op = .call { callee := .builtin .append, args := #[s, x], argTypes := #[t, t] })
  (base : Nat) (e : TypeId) (z : Value) (bytes : Nat) (ht : P.underlying t = some (.slice e)) (hinfo : (P.info? e).map (fun i => (i.zero, i.size, i.bytes)) = some (some z, 1, bytes))
  (hz1 : z.cells.size = 1) (kY : bytes ≤ 64) {v : Value} {vs : List Value} (hs : a.eval s = v) (hown : az base e w v vs) (u : Value) (B : Nat)
  (hx : a.eval x = .slice (some ⟨B, 0, none⟩) 1 1) (hB : w.cell? ⟨B, 0, none⟩ = some u) (h1 : u.oneCell' = true) (hn : vs.length ≤ 1000000) (hbase : base ≤ w.heap.size)
  (h : ∀ g cap w', az base e w' (.slice (some ⟨g, 0, none⟩) (vs.length + 1) cap) (vs ++ [u]) → w.grownBy w' v.ownBlock → (v.ownBlock = some g ∨ g = w.heap.size) → Below base w w' → K (a.put o.dst (.slice (some ⟨g, 0, none⟩) (vs.length + 1) cap)) w') :
  if Region.wanted o (yielded ops a.tmps) = true then Oper.wp P o a w K Q else E := by
 obtain ⟨i, hi, hzz⟩ := Option.map_eq_some_iff.1 hinfo
 simp only [Prod.mk.injEq] at hzz
 obtain ⟨hz, hs1, hb⟩ := hzz
 refine step_append_lies w hgd s x t ho base e i z 1 bytes ht hi hz hs1 hb hz1 (by omega) v vs.length vs hs hown ⟨B, 0, none⟩ 1 1 [u] hx rfl ?_ (by simpa using h1) (by omega)
  (by unfold maxLen; omega) ?_ hbase _ rfl fun g cap w' h2 h3 h4 _ => h g cap w' ?_ h3 h4 (hown.cQ h3 hbase)
 ·intro j u' hj
  cases j with
  | zero => (simp at hj; subst hj; simpa [Addr.add] using hB)
  | succ j => simp at hj
 ·have : (vs.length + 1) * bytes ≤ (vs.length + 1) * 64 := Nat.mul_le_mul_left _ kY
  omega
 ·unfold az; rw [List.length_append]; exact h2
end
def Y1 (t : av) (k : Nat) : aL := ⟨gs t.ns, fun i => i, fun i => bS t.ps i k⟩
def eG (t : av) : aL := Y1 t t.ps.length
def wH (w wr : World) (g0 n k : Nat) (t : av) : Prop :=
 Below g0 w wr ∧ ∃ A kv, aR (g0 + 1) k A kv (Y1 t k) wr ∧ wr.rowIs g0 124 n (fun i => if i < k then aT A i else .pointer none)
def Ka (t : av) (k : Nat) : aL := ⟨gs t.ns, fun i => i, upd (fun i => bS t.ps i k) k []⟩
structure Kb (w wr : World) (g0 n k : Nat) (t : av) (A : Nat → Nat) (kv : Nat → Value) : Prop where
 up : Below g0 w wr
 fr : aR (g0 + 1) (k + 1) A kv (Ka t k) wr
 row : wr.rowIs g0 124 n (fun i => if i < k + 1 then aT A i else .pointer none)
theorem aR.far {g0 n : Nat} {A : Nat → Nat} {kv : Nat → Value} {F : aL} {w : World} (h : aR (g0 + 1) n A kv F w) {i : Nat} (hi : i < n) : A i ≠ g0 ∧ (kv i).ownBlock ≠ some g0 :=
 ⟨fun e => by have := h.lo i hi; omega, fun e => by have := (h.eT hi e).1; omega⟩
theorem wH.new {w wo : World} {g0 n k : Nat} {t : av} (h : wH w wo g0 n k t) :
  ∃ A kv, A k = wo.heap.size ∧ Kb w ((wo.alloc (.cells #[.string (gs t.ns k), .slice none 0 0, .int .i64 k] 127)).setCell ⟨g0, k, none⟩ (.pointer (some ⟨wo.heap.size, 0, none⟩))) g0 n k t A kv := by
 obtain ⟨dK, A, kv, hF, hrow⟩ := h
 have hg0 := hrow.lt
 have hF2 := hF.xw (by omega) (gs t.ns k) k
 refine ⟨upd A k wo.heap.size, upd kv k (.slice none 0 0), upd_same _ _ _, (dK.alloc (by omega) _).setCell (p := ⟨g0, k, none⟩) (Nat.le_refl _) _, ?_, ?_⟩
 ·have Gh := hF2.congr (F' := Ka t k) fun i hi => by
   refine ⟨?_, ?_, rfl⟩
   ·by_cases e : i = k
    ·subst e; exact (upd_same _ _ _).symm
    ·exact (upd_ne _ _ e).symm
   ·by_cases e : i = k
    ·subst e; exact (upd_same _ _ _).symm
    ·exact (upd_ne _ _ e).symm
  exact Gh.same (fun i hi => blk_setCell_other _ _ _ _ (Gh.far hi).1) fun i b hi hb => blk_setCell_other _ _ _ _ (fun e2 => (Gh.far hi).2 (by rw [hb]; exact congrArg some e2))
 ·refine ((hrow.alloc _).set k _).congr fun i hi => ?_
  by_cases e : i = k
  ·subst e; rw [if_pos rfl, if_pos (by omega)]; unfold aT; rw [upd_same]
  ·rw [if_neg e]
   by_cases e2 : i < k
   ·rw [if_pos e2, if_pos (by omega)]; unfold aT; rw [upd_ne _ _ e]
   ·rw [if_neg e2, if_neg (by omega)]
theorem Ig (ps : List Int) (k : Nat) : bS ps k k = [] := by
 unfold bS
 refine List.filter_eq_nil_iff.2 fun i hi => ?_
 have := List.mem_range.1 hi
 simp; omega
theorem l6 (t : av) (k i : Nat) : (Ka t k).kids i = bS t.ps i k := by
 show upd (fun i => bS t.ps i k) k [] i = _
 by_cases e : i = k
 ·subst e; rw [upd_same, Ig]
 ·rw [upd_ne _ _ e]
theorem Kb.root {w wr : World} {g0 n k : Nat} {t : av} {A : Nat → Nat} {kv : Nat → Value} (h : Kb w wr g0 n k t A kv) (hp : gi t.ps k < 0) : wH w wr g0 n (k + 1) t := by
 refine ⟨h.up, A, kv, h.fr.congr fun i hi => ⟨rfl, rfl, ?_⟩, h.row⟩
 rw [l6]
 show bS t.ps i (k + 1) = _
 rw [iz, if_neg (by omega), List.append_nil]
theorem Kb.push {w wr w' : World} {g0 n k p : Nat} {t : av} {A : Nat → Nat} {kv : Nat → Value} (h : Kb w wr g0 n k t A kv) (hpk : p < k) (hp : gi t.ps k = p) {v : Value}
  (hv : az (g0 + 1) 124 w' v ((bS t.ps p k).map (aT A) ++ [aT A k])) (hg : wr.grownBy w' (kv p).ownBlock) (hb : ∀ b, v.ownBlock = some b → (kv p).ownBlock = some b ∨ wr.heap.size ≤ b) :
  wH w (w'.setCell ⟨A p, 1, none⟩ v) g0 n (k + 1) t := by
 have hF := h.fr.push (k := p) (c := k) (v := v) (by omega) (by omega) (by rw [l6, List.map_append]; exact hv) hg hb
 have hlo := h.fr.lo p (by omega)
 have hrl := h.row.lt
 refine ⟨?_, A, upd kv p v, hF.congr fun i hi => ⟨rfl, rfl, ?_⟩, ?_⟩
 ·have h1 : Below (g0 + 1) wr w' := (h.fr.own p (by omega)).cQ hg (by omega)
  exact (Below.trans h.up (h1.mono (by omega))).setCell (p := ⟨A p, 1, none⟩) (by show g0 ≤ A p; omega) _
 ·show bS t.ps i (k + 1) = upd (Ka t k).kids p ((Ka t k).kids p ++ [k]) i
  rw [iz, l6]
  by_cases e : i = p
  ·subst e; rw [upd_same, if_pos ⟨hpk, hp⟩]
  ·rw [upd_ne _ _ e, if_neg (by omega), List.append_nil, l6]
 ·have hne : g0 ≠ A p := fun e => (h.fr.far (i := p) (by omega)).1 e.symm
  refine (h.row.of_block ?_).setOther (a := ⟨A p, 1, none⟩) hne v
  exact hg.block g0 hrl (fun e => (h.fr.far (i := p) (by omega)).2 e.symm)
theorem aR.QM {base base' n : Nat} {A : Nat → Nat} {kv : Nat → Value} {F : aL} {w : World} (h : aR base n A kv F w) (hb : base' ≤ base) : aR base' n A kv F w :=
 ⟨h.node, fun i hi => Nat.le_trans hb (h.lo i hi), h.inj, fun i hi => (h.own i hi).uk hb, h.apart, h.alone, h.kid⟩
def Kc (w : World) (t : av) (e : Ending) (w' : World) : Prop :=
 Up w w' ∧ ∃ g A kv, e = .returned (.slice (some ⟨g, 0, none⟩) t.ps.length t.ps.length) ∧ aR w.heap.size t.ps.length A kv (eG t) w' ∧ w'.rowIs g 124 t.ps.length (aT A)
set_option maxHeartbeats 2000000 in
theorem QN (S : Nat → Prop) (w : World) (v : Value) (t : av) (hT : ay S w v t) (hp : t.ps.length ≤ 1000) (hn : t.ns.length = t.ps.length) (hok : gN t.ps = true) (hz : ∀ k, (gs t.ns k).size ≤ 70000) :
  Calls Tryz.prog 100 #[v] w (Kc w t) := by
 obtain ⟨P, N, rfl, hP, hN⟩ := hT
 obtain ⟨pP, fD, rfl, WB, _⟩ := aA.open hP
 have hP : ax S w (.slice pP t.ps.length fD) t.ps := hP
 obtain ⟨pN, fE, rfl, WC, _⟩ := aA.open hN
 have hN : au S w (.slice pN t.ns.length fE) t.ns := hN
 have hmk := fun W => run_make_row' (P := Tryz.prog) 125 124 (.pointer none) 8 Tryz.underlying125 Tryz.oL rfl .i64 .i64 t.ps.length (by omega) (by omega) W
 have hu := Up.alloc w (.cells #[.slice pP t.ps.length fD, .slice pN t.ns.length fE] 39)
 have hb0 := dO w (.slice pP t.ps.length fD) (.slice pN t.ns.length fE) 39
 have hb1 := dP w (.slice pP t.ps.length fD) (.slice pN t.ns.length fE) 39
 have aF := Up.alloc (w.alloc (.cells #[.slice pP t.ps.length fD, .slice pN t.ns.length fE] 39)) (.cells (madeCells #[.pointer none] t.ps.length) 124)
 have HW : Hid (wH ((w.alloc (.cells #[.slice pP t.ps.length fD, .slice pN t.ns.length fE] 39)).alloc (.cells (madeCells #[.pointer none] t.ps.length) 124)) ((w.alloc (.cells #[.slice pP t.ps.length fD, .slice pN t.ns.length fE] 39)).alloc (.cells (madeCells #[.pointer none] t.ps.length) 124)) (w.heap.size + 1) t.ps.length 0 t) := by
  refine ⟨Below.refl _ _, fun _ => 0, fun _ => .slice none 0 0, aR.empty _ _ _ _ _, ?_⟩
  have h := World.rowIs_made (w.alloc (.cells #[.slice pP t.ps.length fD, .slice pN t.ns.length fE] 39)) (.pointer none) t.ps.length 124
  simp only [World.size_alloc] at h
  exact h
 have jU := aa (hu.trans aF)
 have hsz : w.heap.size + 1 + 1 = ((w.alloc (.cells #[.slice pP t.ps.length fD, .slice pN t.ns.length fE] 39)).alloc (.cells (madeCells #[.pointer none] t.ps.length) 124)).heap.size := by simp
 have b5 := aa hsz
 have gG := aa (aF.cell hb0)
 have eO := aa (aF.cell hb1)
 have HP := aa hP
 have HN := aa hN
 have SG := aa hz
 have tu := aa hok
 have dW := aa hn
 have hnl : (t.ps.length : Int) ≤ (t.ns.length : Int) := by omega
 clear hsz hu hb0 hb1 aF hP hN hz hok hn
 go_enter Tryz.func100, Tryz.ntmps100
 go_wp2_with fail
 generalize (w.alloc (.cells #[.slice pP t.ps.length fD, .slice pN t.ns.length fE] 39)).alloc (.cells (madeCells #[.pointer none] t.ps.length) 124) = w1 at *
 go_loopw [13] (fun i wr => ∃ k : Nat, k ≤ t.ps.length ∧ i = .int .i64 k ∧ Hid (wH w1 wr (w.heap.size + 1) t.ps.length k t)) (fun i _ => t.ps.length - (intOf i).toNat)
 case atStart => exact ⟨0, Nat.zero_le _, rfl, HW⟩
 case round =>
  obtain ⟨k, hk, rfl, hO⟩ := hrel
  obtain ⟨wo, rfl⟩ : ∃ wo : World, wo = wr := ⟨_, rfl⟩
  by_cases hlt : k < t.ps.length
  ·obtain ⟨dK, A, kv, hF, hrow⟩ := hO.out
   have hc0 : wo.cell? ⟨w.heap.size, 0, none⟩ = some (.slice pP t.ps.length fD) := by rw [dK.cell (p := ⟨w.heap.size, 0, none⟩) (Nat.lt_succ_self _)]; exact gG.out
   have hc1 : wo.cell? ⟨w.heap.size, 1, none⟩ = some (.slice pN t.ns.length fE) := by rw [dK.cell (p := ⟨w.heap.size, 1, none⟩) (Nat.lt_succ_self _)]; exact eO.out
   have CY : Up w wo := Below.trans jU.out (dK.mono (Nat.le_succ _))
   obtain ⟨bP, oP, rfl, kZ⟩ := dQ (ax.keep HP.out (CY.kept S)) hlt
   obtain ⟨bN, oN, rfl, nE⟩ := bQ (au.keep HN.out (CY.kept S)) (k := k) (by rw [dW.out]; exact hlt)
   have HX := aa hO.out.new
   have SH : (wo.alloc (.cells #[.string (gs t.ns k), .slice none 0 0, .int .i64 k] 127)).cell? ⟨w.heap.size + 1, k, none⟩ = some (.pointer none) := by
    have h := (hrow.alloc (.cells #[.string (gs t.ns k), .slice none 0 0, .int .i64 k] 127)).cell hlt
    rw [h, if_neg (Nat.lt_irrefl k)]
   have hfo : (wo.alloc (.cells #[.string (gs t.ns k), .slice none 0 0, .int .i64 k] 127)).frozen? ⟨w.heap.size + 1, k, none⟩ = false := (hrow.alloc _).frozen k
   clear hF hrow dK CY hO
   have h0 : gi t.ps k < k ∧ (0 < k → 0 ≤ gi t.ps k) ∧ (k = 0 → gi t.ps k = -1) := x9 tu.out hlt
   by_cases kW : 0 ≤ gi t.ps k
   ·obtain ⟨p, CZ⟩ := Int.eq_ofNat_of_zero_le kW
    have hpk : p < k := by omega
    rw [CZ] at kZ
    have d1 : decide ((0 : Int) ≤ (p : Int)) = true := by simp
    have tq := aa CZ
    clear h0 kW CZ
    go_wp2_with fail
    generalize (wo.alloc (.cells #[.string (gs t.ns k), .slice none 0 0, .int .i64 k] 127)).setCell ⟨w.heap.size + 1, k, none⟩ (.pointer (some ⟨wo.heap.size, 0, none⟩)) = w2 at *
    obtain ⟨A, kv, hAk, hX⟩ := HX.out
    have hr1 : w2.cell? ⟨w.heap.size + 1, p, none⟩ = some (.pointer (some ⟨A p, 0, none⟩)) := by
     have h := hX.row.cell (i := p) (by omega)
     rw [if_pos (by omega)] at h; exact h
    have hr2 : w2.cell? ⟨w.heap.size + 1, k, none⟩ = some (.pointer (some ⟨A k, 0, none⟩)) := by
     have h := hX.row.cell (i := k) hlt
     rw [if_pos (by omega)] at h; exact h
    have SI : Hid (aT A k = .pointer (some ⟨wo.heap.size, 0, none⟩)) := by unfold Hid aT; rw [hAk]
    rw [hAk] at hr2
    have hkc := hX.fr.nt (i := p) (by omega)
    have hfz := hX.fr.thaw (i := p) (by omega) 1
    have C6 : Hid (az (w.heap.size + 1 + 1) 124 w2 (kv p) ((bS t.ps p k).map (aT A))) := by have h := hX.fr.own p (by omega); rw [l6] at h; exact h
    have SJ := aa hX
    have yu : Hid (A p ≠ w.heap.size + 1 ∧ (kv p).ownBlock ≠ some (w.heap.size + 1) ∧ (kv p).ownBlock ≠ some (A p) ∧ w.heap.size + 1 < w2.heap.size ∧ A p < w2.heap.size) := ⟨(hX.fr.far (by omega)).1, (hX.fr.far (by omega)).2, hX.fr.apart p p (by omega) (by omega), hX.row.lt, hX.fr.lt (by omega)⟩
    have i0 : (0 : Int) ≤ (p : Int) := by omega
    have i1 : (p : Int) < (t.ps.length : Int) := by omega
    have i2 : (0 : Int) ≤ (k : Int) := by omega
    have i3 : (k : Int) < (t.ps.length : Int) := by omega
    have fT : Hid (((bS t.ps p k).map (aT A)).length ≤ 1000000) := by unfold Hid; rw [List.length_map]; have := mM t.ps p k; omega
    have yw : Hid (∀ g cap w', az (w.heap.size + 1 + 1) 124 w' (.slice (some ⟨g, 0, none⟩) (((bS t.ps p k).map (aT A)).length + 1) cap) ((bS t.ps p k).map (aT A) ++ [.pointer (some ⟨wo.heap.size, 0, none⟩)]) → w2.grownBy w' (kv p).ownBlock → ((kv p).ownBlock = some g ∨ w2.heap.size ≤ g) → wH w1 (w'.setCell ⟨A p, 1, none⟩ (.slice (some ⟨g, 0, none⟩) (((bS t.ps p k).map (aT A)).length + 1) cap)) (w.heap.size + 1) t.ps.length (k + 1) t) := fun g cap w' h1 h2 h3 => hX.push hpk tq.out (by rw [SI.out]; exact h1) h2 (fun b hb => by cases hb; exact h3)
    clear hAk hX HX SH hfo kZ nE hc0 hc1
    generalize aT A = na at *
    generalize hap : A p = ap at *
    generalize wo.heap.size = ak at *
    generalize kv p = ov at *
    generalize List.map na (bS t.ps p k) = vs at *
    have MS : Hid (az (w.heap.size + 1 + 1) 124 (w2.alloc (.cells #[.pointer (some ⟨ak, 0, none⟩)] 124)).drew ov vs) := C6.out.alloc _
    have kG : Hid ((w2.alloc (.cells #[.pointer (some ⟨ak, 0, none⟩)] 124)).drew.cell? ⟨w2.heap.size, 0, none⟩ = some (.pointer (some ⟨ak, 0, none⟩))) := aK _ _ _ 0
    have kI : Hid (w.heap.size + 1 + 1 ≤ (w2.alloc (.cells #[.pointer (some ⟨ak, 0, none⟩)] 124)).drew.heap.size) := by
     have := yu.out.2.2.2.1
     show _ ≤ (w2.alloc _).heap.size
     rw [World.size_alloc]; omega
    have C7 : Hid (∀ (w' : World), (w2.alloc (.cells #[.pointer (some ⟨ak, 0, none⟩)] 124)).drew.grownBy w' ov.ownBlock → w'.cell? ⟨w.heap.size + 1, p, none⟩ = some (.pointer (some ⟨ap, 0, none⟩)) ∧ w'.cell? ⟨w.heap.size + 1, k, none⟩ = some (.pointer (some ⟨ak, 0, none⟩)) ∧ w'.cell? ⟨ap, 1, none⟩ = some ov ∧ w'.frozen? ⟨ap, 1, none⟩ = false) := fun w' hg => by
     obtain ⟨q1, q2, q3, q4, q5⟩ := yu.out
     have hl : ∀ b, b < w2.heap.size → b < (w2.alloc (.cells #[.pointer (some ⟨ak, 0, none⟩)] 124)).drew.heap.size := fun b hb => by show b < (w2.alloc _).heap.size; rw [World.size_alloc]; omega
     have hu := Up.alloc w2 (.cells #[.pointer (some ⟨ak, 0, none⟩)] 124)
     refine ⟨?_, ?_, ?_, ?_⟩
     ·rw [hg.cell_far _ (hl _ q4) (Ne.symm q2)]; exact hu.cell hr1
     ·rw [hg.cell_far _ (hl _ q4) (Ne.symm q2)]; exact hu.cell hr2
     ·rw [hg.cell_far _ (hl _ q5) (Ne.symm q3)]; exact hu.cell hkc
     ·rw [hg.frozen_far _ (hl _ q5) (Ne.symm q3)]; exact (Below.frozen hu (p := ⟨ap, 1, none⟩) q5).trans hfz
    have hr1a := (Up.alloc w2 (.cells #[.pointer (some ⟨ak, 0, none⟩)] 124)).cell hr1
    have hr2a := (Up.alloc w2 (.cells #[.pointer (some ⟨ak, 0, none⟩)] 124)).cell hr2
    have hkca := (Up.alloc w2 (.cells #[.pointer (some ⟨ak, 0, none⟩)] 124)).cell hkc
    clear SJ
    refine cZ (by kernel_rfl) 20 (fun w' => w'.cell? ⟨w.heap.size + 1, p, none⟩ = some (.pointer (some ⟨ap, 0, none⟩)) ∧ w'.cell? ⟨w.heap.size + 1, k, none⟩ = some (.pointer (some ⟨ak, 0, none⟩)) ∧ w'.cell? ⟨ap, 1, none⟩ = some ov) ⟨hr1, hr2, hkc⟩ (fun hS => ?_)
    simp only [List.size_toArray, List.length_cons, List.length_nil, Nat.reduceAdd, Array.replicate_succ, Array.replicate_zero, List.push_toArray, List.nil_append, List.cons_append]
    refine af.take (i := 0) (v := ?Ke) rfl (by kernel_rfl) (fun _ _ _ h => h) (by rfl) (fun w hSw => ?ur) hS ?Kf
    case ur =>
     (try dsimp only at hSw)
     go_simp
     try with_reducible rfl
    try simp only [Act.put, ah, aj, aq]
    refine af.take (i := 1) (v := ?Kg) rfl (by kernel_rfl) (fun _ _ _ h => h) (by rfl) (fun w hSw => ?uu) hS ?Kh
    case uu =>
     (try dsimp only at hSw)
     go_simp
     try with_reducible rfl
    try simp only [Act.put, ah, aj, aq]
    refine af.take (i := 2) (v := ?Ki) rfl (by kernel_rfl) (fun _ _ _ h => h) (by rfl) (fun w hSw => ?uv) hS ?Kj
    case uv =>
     (try dsimp only at hSw)
     go_simp
     try with_reducible rfl
    try simp only [Act.put, ah, aj, aq]
    refine af.take (i := 3) (v := ?SK) rfl (by kernel_rfl) (fun _ _ _ h => h) (by rfl) (fun w hSw => ?C8) hS ?SL
    case C8 =>
     (try dsimp only at hSw)
     go_simp
     try with_reducible rfl
    try simp only [Act.put, ah, aj, aq]
    refine af.take (i := 4) (v := ?SM) rfl (by kernel_rfl) (fun _ _ _ h => h) (by rfl) (fun w hSw => ?C9) hS ?SN
    case C9 =>
     (try dsimp only at hSw)
     go_simp
     try with_reducible rfl
    try simp only [Act.put, ah, aj, aq]
    refine af.take (i := 5) (v := ?SP) rfl (by kernel_rfl) (fun _ _ _ h => h) (by rfl) (fun w hSw => ?Da) hS ?SQ
    case Da =>
     (try dsimp only at hSw)
     go_simp
     try with_reducible rfl
    try simp only [Act.put, ah, aj, aq]
    refine af.take (i := 6) (v := ?SR) rfl (by kernel_rfl) (fun _ _ _ h => h) (by rfl) (fun w hSw => ?Db) hS ?SS
    case Db =>
     (try dsimp only at hSw)
     go_simp
     try with_reducible rfl
    try simp only [Act.put, ah, aj, aq]
    refine af.take (i := 7) (v := ?Pj) rfl (by kernel_rfl) (fun _ _ _ h => h) (by rfl) (fun w hSw => ?yx) hS ?Pk
    case yx =>
     (try dsimp only at hSw)
     go_simp
     try with_reducible rfl
    try simp only [Act.put, ah, aj, aq]
    refine af.take (i := 8) (v := ?Pm) rfl (by kernel_rfl) (fun _ _ _ h => h) (by rfl) (fun w hSw => ?yy) hS ?Pn
    case yy =>
     (try dsimp only at hSw)
     go_simp
     try with_reducible rfl
    try simp only [Act.put, ah, aj, aq]
    refine af.take (i := 9) (v := ?Po) rfl (by kernel_rfl) (fun _ _ _ h => h) (by rfl) (fun w hSw => ?yz) hS ?Pp
    case yz =>
     (try dsimp only at hSw)
     go_simp
     try with_reducible rfl
    try simp only [Act.put, ah, aj, aq]
    refine af.take (i := 10) (v := ?MT) rfl (by kernel_rfl) (fun _ _ _ h => h) (by rfl) (fun w hSw => ?xy) hS ?MU
    case xy =>
     (try dsimp only at hSw)
     go_simp
     try with_reducible rfl
    try simp only [Act.put, ah, aj, aq]
    refine af.take (i := 11) (v := ?SU) rfl (by kernel_rfl) (fun _ _ _ h => h) (by rfl) (fun w hSw => ?Dc) hS ?SV
    case Dc =>
     (try dsimp only at hSw)
     go_simp
     try with_reducible rfl
    try simp only [Act.put, ah, aj, aq]
    refine af.take (i := 12) (v := ?SX) rfl (by kernel_rfl) (fun _ _ _ h => h) (by rfl) (fun w hSw => ?Dd) hS ?SY
    case Dd =>
     (try dsimp only at hSw)
     go_simp
     try with_reducible rfl
    try simp only [Act.put, ah, aj, aq]
    refine af.take (i := 13) (v := ?SZ) rfl (by kernel_rfl) (fun _ _ _ h => h) (by rfl) (fun w hSw => ?De) hS ?S0
    case De =>
     (try dsimp only at hSw)
     go_simp
     try with_reducible rfl
    try simp only [Act.put, ah, aj, aq]
    refine af.take (i := 14) (v := ?S1) rfl (by kernel_rfl) (fun _ _ _ h => h) (by rfl) (fun w hSw => ?Df) hS ?S2
    case Df =>
     (try dsimp only at hSw)
     go_simp
     try with_reducible rfl
    try simp only [Act.put, ah, aj, aq]
    refine af.step (i := 15) rfl (by kernel_rfl) (fun K' hK => ?_)
    go_simp
    refine hK.out _ _ (fun _ => ⟨(Up.alloc _ _).cell hr1, (Up.alloc _ _).cell hr2, (Up.alloc _ _).cell hkc⟩) (fun hS => ?_)
    try simp only [ah, aj, aq]
    refine af.step (i := 16) rfl (by kernel_rfl) (fun K' hK => ?_)
    refine eE (by rfl) _ _ _ (by rfl) (w.heap.size + 1 + 1) 124 _ 8 Tryz.underlying125 Tryz.oL (by rfl) (by decide) (by rfl) MS.out (.pointer (some ⟨ak, 0, none⟩)) w2.heap.size (by rfl) kG.out (by rfl) fT.out kI.out ?_
    intro g cap w4 qg hg4 uw Dg
    obtain ⟨MV, MW, MX, hfz4⟩ := C7.out w4 hg4
    have Ih := aa qg
    have Kk := aa (kr hg4)
    have MZ := aa uw
    clear qg hg4 uw Dg
    refine hK.out _ _ (fun _ => ⟨MV, MW, MX⟩) (fun hS => ?_)
    replace hS := hS ⟨19, by decide, rfl⟩
    try simp only [Act.put, ah, aj, aq]
    refine af.take (i := 17) (v := ?gv17) rfl (by kernel_rfl) (fun _ _ _ h => h) (by rfl) (fun w hSw => ?M0) hS ?gr17
    case M0 =>
     (try dsimp only at hSw)
     go_simp
     try with_reducible rfl
    try simp only [Act.put, ah, aj, aq]
    refine af.take (i := 18) (v := ?gv18) rfl (by kernel_rfl) (fun _ _ _ h => h) (by rfl) (fun w hSw => ?M3) hS ?gr18
    case M3 =>
     (try dsimp only at hSw)
     go_simp
     try with_reducible rfl
    try simp only [Act.put, ah, aj, aq]
    refine af.step (i := 19) rfl (by kernel_rfl) (fun K' hK => ?_)
    go_simp
    refine hK.out _ _ (aJ (by kernel_rfl)) (fun hS => ?_)
    refine af.done (by kernel_rfl) ?_
    go_wp2_with fail
    go_roundw
    case rel =>
     refine ⟨k + 1, by omega, by go_num, yw.out g cap w4 Ih.out Kk.out ?_⟩
     rcases MZ.out with h | h
     ·exact .inl h
     ·refine .inr ?_
      rw [h]; exact Nat.le_trans (Nat.le_succ _) (Nat.le_of_eq (World.size_alloc _ _).symm)
    case measure => simp [intOf]; omega
   ·have tq : Hid (gi t.ps k < 0) := by unfold Hid; omega
    have d1 : decide ((0 : Int) ≤ gi t.ps k) = false := by simpa using kW
    clear h0 kW
    go_wp2_with fail
    go_roundw
    case rel =>
     obtain ⟨A', kv', _, hX⟩ := HX.out
     exact ⟨k + 1, by omega, by go_num, hX.root tq.out⟩
    case measure => simp [intOf]; omega
  ·obtain rfl : k = t.ps.length := by omega
   go_wp2_with fail
   go_ret
   obtain ⟨dK, A, kv, hF, hrow⟩ := hO.out
   exact ⟨Below.trans jU.out (dK.mono (Nat.le_succ _)), _, A, kv, rfl, hF.QM (by omega), hrow.congr fun i hi => by rw [if_pos hi]⟩
end Go.Proofs.YteegefnjnikngaaGreat
