/- The contract of phylotree.nodes. -/
import Derived.Test.YtpnmblnahjjmhaaGreatQ1
import Derived.Test.YtpnmblnahjjmhaaGreatQ4
import Derived.Test.YtpnmblnahjjmhaaGreatQ5
import Derived.Deep.RegionHeld3
import Derived.Deep.AppendLies
namespace Go.Proofs.YtpnmblnahjjmhaaGreat
set_option maxRecDepth 100000
open Go.RowKit Go.Deep
theorem Tryz.r7 : (Tryz.prog.info? 137).map (fun i => (i.zero, i.size, i.bytes)) = some (some (.pointer none), 1, 8) := by af
theorem bZ.congr {base n : Nat} {A : Nat → Nat} {kv : Nat → Value} {F F' : bA} {w : World} (h : bZ base n A kv F w) (e : ∀ i, i < n → F'.nm i = F.nm i ∧ F'.old i = F.old i ∧ F'.kids i = F.kids i) : bZ base n A kv F' w :=
 ⟨fun i hi => by rw [(e i hi).1, (e i hi).2.1]; exact h.node i hi, h.lo, h.inj, fun i hi => by rw [(e i hi).2.2]; exact h.own i hi, h.apart, h.alone, fun i hi => by rw [(e i hi).2.2]; exact h.bF i hi⟩
theorem nj {w w' : World} {o : Obj} {row : Option Nat} (h : (w.alloc o).drew.grownBy w' row) : w.grownBy w' row :=
 pZ (o := o) ⟨h.os, h.tape, h.output, h.size, h.block⟩
section
variable {P : Program} {ops : Array Oper} {o : Oper} {a : Act} {w : World} {K : Act → World → Prop} {Q : Exit → Act → World → Prop} {E : Prop}
theorem dK (hgd : o.guard = none) (s x : Operand) (t : TypeId) (ho : o.op = .call { callee := .builtin .append, args := #[s, x], argTypes := #[t, t] })
  (base : Nat) (e : TypeId) (z : Value) (bytes : Nat) (ht : P.underlying t = some (.slice e)) (hinfo : (P.info? e).map (fun i => (i.zero, i.size, i.bytes)) = some (some z, 1, bytes))
  (hz1 : z.cells.size = 1) (kB : bytes ≤ 64) {v : Value} {vs : List Value} (hs : a.eval s = v) (hown : ay base e w v vs) (u : Value) (B : Nat)
  (hx : a.eval x = .slice (some ⟨B, 0, none⟩) 1 1) (hB : w.cell? ⟨B, 0, none⟩ = some u) (h1 : u.oneCell' = true) (hn : vs.length ≤ 1000000) (hbase : base ≤ w.heap.size)
  (h : ∀ g cap w', ay base e w' (.slice (some ⟨g, 0, none⟩) (vs.length + 1) cap) (vs ++ [u]) → w.grownBy w' v.ownBlock → (v.ownBlock = some g ∨ g = w.heap.size) → Below base w w' → K (a.put o.dst (.slice (some ⟨g, 0, none⟩) (vs.length + 1) cap)) w') :
  if Region.wanted o (yielded ops a.tmps) = true then Oper.wp P o a w K Q else E := by
 obtain ⟨i, hi, je⟩ := Option.map_eq_some_iff.1 hinfo
 simp only [Prod.mk.injEq] at je
 obtain ⟨hz, hs1, hb⟩ := je
 refine step_append_lies w hgd s x t ho base e i z 1 bytes ht hi hz hs1 hb hz1 (by omega) v vs.length vs hs hown ⟨B, 0, none⟩ 1 1 [u] hx rfl ?_ (by simpa using h1) (by omega)
  (by unfold maxLen; omega) ?_ hbase _ rfl fun g cap w' h2 h3 h4 _ => h g cap w' ?_ h3 h4 (hown.fK h3 hbase)
 ·intro j u' hj
  cases j with
  | zero => (simp at hj; subst hj; simpa [Addr.add] using hB)
  | succ j => simp at hj
 ·have : (vs.length + 1) * bytes ≤ (vs.length + 1) * 64 := Nat.mul_le_mul_left _ kB
  omega
 ·unfold ay; rw [List.length_append]; exact h2
end
def frK (t : aJ) (k : Nat) : bA := ⟨gs t.ns, fun i => i, fun i => cA t.ps i k⟩
def dr (t : aJ) : bA := frK t t.ps.length
def zC (w wr : World) (g0 n k : Nat) (t : aJ) : Prop :=
 Below g0 w wr ∧ ∃ A kv, bZ (g0 + 1) k A kv (frK t k) wr ∧ wr.rowIs g0 137 n (fun i => if i < k then b7 A i else .pointer none)
def NU (t : aJ) (k : Nat) : bA := ⟨gs t.ns, fun i => i, dQ (fun i => cA t.ps i k) k []⟩
structure NV (w wr : World) (g0 n k : Nat) (t : aJ) (A : Nat → Nat) (kv : Nat → Value) : Prop where
 up : Below g0 w wr
 fr : bZ (g0 + 1) (k + 1) A kv (NU t k) wr
 row : wr.rowIs g0 137 n (fun i => if i < k + 1 then b7 A i else .pointer none)
theorem bZ.oa {g0 n : Nat} {A : Nat → Nat} {kv : Nat → Value} {F : bA} {w : World} (h : bZ (g0 + 1) n A kv F w) {i : Nat} (hi : i < n) : A i ≠ g0 ∧ (kv i).ownBlock ≠ some g0 :=
 ⟨fun e => by have := h.lo i hi; omega, fun e => by have := (h.iw hi e).1; omega⟩
theorem zC.new {w wo : World} {g0 n k : Nat} {t : aJ} (h : zC w wo g0 n k t) :
  ∃ A kv, A k = wo.heap.size ∧ NV w ((wo.alloc (.cells #[.string (gs t.ns k), .slice none 0 0, .int .i64 k] 140)).setCell ⟨g0, k, none⟩ (.pointer (some ⟨wo.heap.size, 0, none⟩))) g0 n k t A kv := by
 obtain ⟨bG, A, kv, hF, hrow⟩ := h
 have kL := hrow.lt
 have xF := hF.Aj (by omega) (gs t.ns k) k
 refine ⟨dQ A k wo.heap.size, dQ kv k (.slice none 0 0), bB _ _ _, (bG.alloc (by omega) _).setCell (p := ⟨g0, k, none⟩) (Nat.le_refl _) _, ?_, ?_⟩
 ·have J1 := xF.congr (F' := NU t k) fun i hi => by
   refine ⟨?_, ?_, rfl⟩
   ·by_cases e : i = k
    ·subst e; exact (bB _ _ _).symm
    ·exact (bU _ _ e).symm
   ·by_cases e : i = k
    ·subst e; exact (bB _ _ _).symm
    ·exact (bU _ _ e).symm
  exact J1.same (fun i hi => blk_setCell_other _ _ _ _ (J1.oa hi).1) fun i b hi hb => blk_setCell_other _ _ _ _ (fun e2 => (J1.oa hi).2 (by rw [hb]; exact congrArg some e2))
 ·refine ((hrow.alloc _).set k _).congr fun i hi => ?_
  by_cases e : i = k
  ·subst e; rw [if_pos rfl, if_pos (by omega)]; unfold b7; rw [bB]
  ·rw [if_neg e]
   by_cases e2 : i < k
   ·rw [if_pos e2, if_pos (by omega)]; unfold b7; rw [bU _ _ e]
   ·rw [if_neg e2, if_neg (by omega)]
theorem LQ (ps : List Int) (k : Nat) : cA ps k k = [] := by
 unfold cA
 refine List.filter_eq_nil_iff.2 fun i hi => ?_
 have := List.mem_range.1 hi
 simp; omega
theorem pF (t : aJ) (k i : Nat) : (NU t k).kids i = cA t.ps i k := by
 show dQ (fun i => cA t.ps i k) k [] i = _
 by_cases e : i = k
 ·subst e; rw [bB, LQ]
 ·rw [bU _ _ e]
theorem NV.root {w wr : World} {g0 n k : Nat} {t : aJ} {A : Nat → Nat} {kv : Nat → Value} (h : NV w wr g0 n k t A kv) (hp : gi t.ps k < 0) : zC w wr g0 n (k + 1) t := by
 refine ⟨h.up, A, kv, h.fr.congr fun i hi => ⟨rfl, rfl, ?_⟩, h.row⟩
 rw [pF]
 show cA t.ps i (k + 1) = _
 rw [lW, if_neg (by omega), List.append_nil]
theorem NV.push {w wr w' : World} {g0 n k p : Nat} {t : aJ} {A : Nat → Nat} {kv : Nat → Value} (h : NV w wr g0 n k t A kv) (hpk : p < k) (hp : gi t.ps k = p) {v : Value}
  (hv : ay (g0 + 1) 137 w' v ((cA t.ps p k).map (b7 A) ++ [b7 A k])) (hg : wr.grownBy w' (kv p).ownBlock) (hb : ∀ b, v.ownBlock = some b → (kv p).ownBlock = some b ∨ wr.heap.size ≤ b) :
  zC w (w'.setCell ⟨A p, 1, none⟩ v) g0 n (k + 1) t := by
 have hF := h.fr.push (k := p) (c := k) (v := v) (by omega) (by omega) (by rw [pF, List.map_append]; exact hv) hg hb
 have hlo := h.fr.lo p (by omega)
 have hrl := h.row.lt
 refine ⟨?_, A, dQ kv p v, hF.congr fun i hi => ⟨rfl, rfl, ?_⟩, ?_⟩
 ·have h1 : Below (g0 + 1) wr w' := (h.fr.own p (by omega)).fK hg (by omega)
  exact (Below.trans h.up (h1.mono (by omega))).setCell (p := ⟨A p, 1, none⟩) (by show g0 ≤ A p; omega) _
 ·show cA t.ps i (k + 1) = dQ (NU t k).kids p ((NU t k).kids p ++ [k]) i
  rw [lW, pF]
  by_cases e : i = p
  ·subst e; rw [bB, if_pos ⟨hpk, hp⟩]
  ·rw [bU _ _ e, if_neg (by omega), List.append_nil, pF]
 ·have hne : g0 ≠ A p := fun e => (h.fr.oa (i := p) (by omega)).1 e.symm
  refine (h.row.of_block ?_).setOther (a := ⟨A p, 1, none⟩) hne v
  exact hg.block g0 hrl (fun e => (h.fr.oa (i := p) (by omega)).2 e.symm)
theorem bZ.Vt {base base' n : Nat} {A : Nat → Nat} {kv : Nat → Value} {F : bA} {w : World} (h : bZ base n A kv F w) (hb : base' ≤ base) : bZ base' n A kv F w :=
 ⟨h.node, fun i hi => Nat.le_trans hb (h.lo i hi), h.inj, fun i hi => (h.own i hi).nH hb, h.apart, h.alone, h.bF⟩
def NW (w : World) (t : aJ) (e : Ending) (w' : World) : Prop :=
 Up w w' ∧ ∃ g A kv, e = .returned (.slice (some ⟨g, 0, none⟩) t.ps.length t.ps.length) ∧ bZ w.heap.size t.ps.length A kv (dr t) w' ∧ w'.rowIs g 137 t.ps.length (b7 A)
set_option maxHeartbeats 2000000 in
theorem Vu (S : Nat → Prop) (w : World) (v : Value) (t : aJ) (hT : aO S w v t) (hp : t.ps.length ≤ 1000) (hn : t.ns.length = t.ps.length) (hok : gx t.ps = true) (hz : ∀ k, (gs t.ns k).size ≤ 70000) :
  Calls Tryz.prog 129 #[v] w (NW w t) := by
 obtain ⟨P, N, rfl, hP, hN⟩ := hT
 obtain ⟨pP, iM, rfl, hcapP, _⟩ := aC.open hP
 have hP : an S w (.slice pP t.ps.length iM) t.ps := hP
 obtain ⟨pN, iN, rfl, hcapN, _⟩ := aC.open hN
 have hN : aG S w (.slice pN t.ns.length iN) t.ns := hN
 have hmk := fun W => run_make_row' (P := Tryz.prog) 138 137 (.pointer none) 8 Tryz.underlying138 Tryz.r7 rfl .i64 .i64 t.ps.length (by omega) (by omega) W
 have hu := Up.alloc w (.cells #[.slice pP t.ps.length iM, .slice pN t.ns.length iN] 39)
 have hb0 := dg w (.slice pP t.ps.length iM) (.slice pN t.ns.length iN) 39
 have cB := dy w (.slice pP t.ps.length iM) (.slice pN t.ns.length iN) 39
 have aL := Up.alloc (w.alloc (.cells #[.slice pP t.ps.length iM, .slice pN t.ns.length iN] 39)) (.cells (madeCells #[.pointer none] t.ps.length) 137)
 have HW : Hid (zC ((w.alloc (.cells #[.slice pP t.ps.length iM, .slice pN t.ns.length iN] 39)).alloc (.cells (madeCells #[.pointer none] t.ps.length) 137)) ((w.alloc (.cells #[.slice pP t.ps.length iM, .slice pN t.ns.length iN] 39)).alloc (.cells (madeCells #[.pointer none] t.ps.length) 137)) (w.heap.size + 1) t.ps.length 0 t) := by
  refine ⟨Below.refl _ _, fun _ => 0, fun _ => .slice none 0 0, bZ.empty _ _ _ _ _, ?_⟩
  have h := World.rowIs_made (w.alloc (.cells #[.slice pP t.ps.length iM, .slice pN t.ns.length iN] 39)) (.pointer none) t.ps.length 137
  simp only [World.size_alloc] at h
  exact h
 have iD := ag (hu.trans aL)
 have hsz : w.heap.size + 1 + 1 = ((w.alloc (.cells #[.slice pP t.ps.length iM, .slice pN t.ns.length iN] 39)).alloc (.cells (madeCells #[.pointer none] t.ps.length) 137)).heap.size := by simp
 have dG := ag hsz
 have gN := ag (aL.cell hb0)
 have gU := ag (aL.cell cB)
 have HP := ag hP
 have HN := ag hN
 have xG := ag hz
 have gu := ag hok
 have iY := ag hn
 have hnl : (t.ps.length : Int) ≤ (t.ns.length : Int) := by omega
 clear hsz hu hb0 cB aL hP hN hz hok hn
 aq Tryz.func129, Tryz.ntmps129
 aa fail
 generalize (w.alloc (.cells #[.slice pP t.ps.length iM, .slice pN t.ns.length iN] 39)).alloc (.cells (madeCells #[.pointer none] t.ps.length) 137) = w1 at *
 aV [13] (fun i wr => ∃ k : Nat, k ≤ t.ps.length ∧ i = .int .i64 k ∧ Hid (zC w1 wr (w.heap.size + 1) t.ps.length k t)) (fun i _ => t.ps.length - (intOf i).toNat)
 case atStart => exact ⟨0, Nat.zero_le _, rfl, HW⟩
 case round =>
  obtain ⟨k, hk, rfl, hO⟩ := bE
  obtain ⟨wo, rfl⟩ : ∃ wo : World, wo = wr := ⟨_, rfl⟩
  by_cases hlt : k < t.ps.length
  ·obtain ⟨bG, A, kv, hF, hrow⟩ := hO.out
   have hc0 : wo.cell? ⟨w.heap.size, 0, none⟩ = some (.slice pP t.ps.length iM) := by rw [bG.cell (p := ⟨w.heap.size, 0, none⟩) (Nat.lt_succ_self _)]; exact gN.out
   have hc1 : wo.cell? ⟨w.heap.size, 1, none⟩ = some (.slice pN t.ns.length iN) := by rw [bG.cell (p := ⟨w.heap.size, 1, none⟩) (Nat.lt_succ_self _)]; exact gU.out
   have FD : Up w wo := Below.trans iD.out (bG.mono (Nat.le_succ _))
   obtain ⟨bP, oP, rfl, nJ⟩ := bV (an.keep HP.out (FD.kept S)) hlt
   obtain ⟨bN, oN, rfl, o4⟩ := dh (aG.keep HN.out (FD.kept S)) (k := k) (by rw [iY.out]; exact hlt)
   have HX := ag hO.out.new
   have Ww : (wo.alloc (.cells #[.string (gs t.ns k), .slice none 0 0, .int .i64 k] 140)).cell? ⟨w.heap.size + 1, k, none⟩ = some (.pointer none) := by
    have h := (hrow.alloc (.cells #[.string (gs t.ns k), .slice none 0 0, .int .i64 k] 140)).cell hlt
    rw [h, if_neg (Nat.lt_irrefl k)]
   have hfo : (wo.alloc (.cells #[.string (gs t.ns k), .slice none 0 0, .int .i64 k] 140)).frozen? ⟨w.heap.size + 1, k, none⟩ = false := (hrow.alloc _).frozen k
   clear hF hrow bG FD hO
   have h0 : gi t.ps k < k ∧ (0 < k → 0 ≤ gi t.ps k) ∧ (k = 0 → gi t.ps k = -1) := Nz gu.out hlt
   by_cases od : 0 ≤ gi t.ps k
   ·obtain ⟨p, FE⟩ := Int.eq_ofNat_of_zero_le od
    have hpk : p < k := by omega
    rw [FE] at nJ
    have d1 : decide ((0 : Int) ≤ (p : Int)) = true := by simp
    have zD := ag FE
    clear h0 od FE
    aa fail
    generalize (wo.alloc (.cells #[.string (gs t.ns k), .slice none 0 0, .int .i64 k] 140)).setCell ⟨w.heap.size + 1, k, none⟩ (.pointer (some ⟨wo.heap.size, 0, none⟩)) = w2 at *
    obtain ⟨A, kv, FF, hX⟩ := HX.out
    have jg : w2.cell? ⟨w.heap.size + 1, p, none⟩ = some (.pointer (some ⟨A p, 0, none⟩)) := by
     have h := hX.row.cell (i := p) (by omega)
     rw [if_pos (by omega)] at h; exact h
    have jW : w2.cell? ⟨w.heap.size + 1, k, none⟩ = some (.pointer (some ⟨A k, 0, none⟩)) := by
     have h := hX.row.cell (i := k) hlt
     rw [if_pos (by omega)] at h; exact h
    have Wx : Hid (b7 A k = .pointer (some ⟨wo.heap.size, 0, none⟩)) := by unfold Hid b7; rw [FF]
    rw [FF] at jW
    have hkc := hX.fr.qG (i := p) (by omega)
    have hfz := hX.fr.Fz (i := p) (by omega) 1
    have vw : Hid (ay (w.heap.size + 1 + 1) 137 w2 (kv p) ((cA t.ps p k).map (b7 A))) := by have h := hX.fr.own p (by omega); rw [pF] at h; exact h
    have zy := ag hX
    have FG : Hid (A p ≠ w.heap.size + 1 ∧ (kv p).ownBlock ≠ some (w.heap.size + 1) ∧ (kv p).ownBlock ≠ some (A p) ∧ w.heap.size + 1 < w2.heap.size ∧ A p < w2.heap.size) := ⟨(hX.fr.oa (by omega)).1, (hX.fr.oa (by omega)).2, hX.fr.apart p p (by omega) (by omega), hX.row.lt, hX.fr.lt (by omega)⟩
    have i0 : (0 : Int) ≤ (p : Int) := by omega
    have i1 : (p : Int) < (t.ps.length : Int) := by omega
    have i2 : (0 : Int) ≤ (k : Int) := by omega
    have i3 : (k : Int) < (t.ps.length : Int) := by omega
    have kZ : Hid (((cA t.ps p k).map (b7 A)).length ≤ 1000000) := by unfold Hid; rw [List.length_map]; have := qi t.ps p k; omega
    have Bj : Hid (∀ g cap w', ay (w.heap.size + 1 + 1) 137 w' (.slice (some ⟨g, 0, none⟩) (((cA t.ps p k).map (b7 A)).length + 1) cap) ((cA t.ps p k).map (b7 A) ++ [.pointer (some ⟨wo.heap.size, 0, none⟩)]) → w2.grownBy w' (kv p).ownBlock → ((kv p).ownBlock = some g ∨ w2.heap.size ≤ g) → zC w1 (w'.setCell ⟨A p, 1, none⟩ (.slice (some ⟨g, 0, none⟩) (((cA t.ps p k).map (b7 A)).length + 1) cap)) (w.heap.size + 1) t.ps.length (k + 1) t) := fun g cap w' h1 h2 h3 => hX.push hpk zD.out (by rw [Wx.out]; exact h1) h2 (fun b hb => by cases hb; exact h3)
    clear FF hX HX Ww hfo nJ o4 hc0 hc1
    generalize b7 A = na at *
    generalize hap : A p = ap at *
    generalize wo.heap.size = ak at *
    generalize kv p = ov at *
    generalize List.map na (cA t.ps p k) = vs at *
    have Rl : Hid (ay (w.heap.size + 1 + 1) 137 (w2.alloc (.cells #[.pointer (some ⟨ak, 0, none⟩)] 137)).drew ov vs) := vw.out.alloc _
    have jH : Hid ((w2.alloc (.cells #[.pointer (some ⟨ak, 0, none⟩)] 137)).drew.cell? ⟨w2.heap.size, 0, none⟩ = some (.pointer (some ⟨ak, 0, none⟩))) := bI _ _ _ 0
    have zF : Hid (w.heap.size + 1 + 1 ≤ (w2.alloc (.cells #[.pointer (some ⟨ak, 0, none⟩)] 137)).drew.heap.size) := by
     have := FG.out.2.2.2.1
     show _ ≤ (w2.alloc _).heap.size
     rw [World.size_alloc]; omega
    have FH : Hid (∀ (w' : World), (w2.alloc (.cells #[.pointer (some ⟨ak, 0, none⟩)] 137)).drew.grownBy w' ov.ownBlock → w'.cell? ⟨w.heap.size + 1, p, none⟩ = some (.pointer (some ⟨ap, 0, none⟩)) ∧ w'.cell? ⟨w.heap.size + 1, k, none⟩ = some (.pointer (some ⟨ak, 0, none⟩)) ∧ w'.cell? ⟨ap, 1, none⟩ = some ov ∧ w'.frozen? ⟨ap, 1, none⟩ = false) := fun w' hg => by
     obtain ⟨q1, q2, q3, q4, q5⟩ := FG.out
     have hl : ∀ b, b < w2.heap.size → b < (w2.alloc (.cells #[.pointer (some ⟨ak, 0, none⟩)] 137)).drew.heap.size := fun b hb => by show b < (w2.alloc _).heap.size; rw [World.size_alloc]; omega
     have hu := Up.alloc w2 (.cells #[.pointer (some ⟨ak, 0, none⟩)] 137)
     refine ⟨?_, ?_, ?_, ?_⟩
     ·rw [hg.cell_far _ (hl _ q4) (Ne.symm q2)]; exact hu.cell jg
     ·rw [hg.cell_far _ (hl _ q4) (Ne.symm q2)]; exact hu.cell jW
     ·rw [hg.cell_far _ (hl _ q5) (Ne.symm q3)]; exact hu.cell hkc
     ·rw [hg.frozen_far _ (hl _ q5) (Ne.symm q3)]; exact (Below.frozen hu (p := ⟨ap, 1, none⟩) q5).trans hfz
    have hr1a := (Up.alloc w2 (.cells #[.pointer (some ⟨ak, 0, none⟩)] 137)).cell jg
    have hr2a := (Up.alloc w2 (.cells #[.pointer (some ⟨ak, 0, none⟩)] 137)).cell jW
    have hkca := (Up.alloc w2 (.cells #[.pointer (some ⟨ak, 0, none⟩)] 137)).cell hkc
    clear zy
    refine eE (by af) 20 (fun w' => w'.cell? ⟨w.heap.size + 1, p, none⟩ = some (.pointer (some ⟨ap, 0, none⟩)) ∧ w'.cell? ⟨w.heap.size + 1, k, none⟩ = some (.pointer (some ⟨ak, 0, none⟩)) ∧ w'.cell? ⟨ap, 1, none⟩ = some ov) ⟨jg, jW, hkc⟩ (fun hS => ?_)
    simp only [List.size_toArray, List.length_cons, List.length_nil, Nat.reduceAdd, Array.replicate_succ, Array.replicate_zero, List.push_toArray, List.nil_append, List.cons_append]
    refine au.take (i := 0) (v := ?DB) rfl (by af) (fun _ _ _ h => h) (by rfl) (fun w av => ?qm) hS ?DC
    case qm =>
     (try dsimp only at av)
     aj
     try ah rfl
    try simp only [Act.put, az, aA, aB]
    refine au.take (i := 1) (v := ?DD) rfl (by af) (fun _ _ _ h => h) (by rfl) (fun w av => ?qn) hS ?DE
    case qn =>
     (try dsimp only at av)
     aj
     try ah rfl
    try simp only [Act.put, az, aA, aB]
    refine au.take (i := 2) (v := ?DF) rfl (by af) (fun _ _ _ h => h) (by rfl) (fun w av => ?qq) hS ?DG
    case qq =>
     (try dsimp only at av)
     aj
     try ah rfl
    try simp only [Act.put, az, aA, aB]
    refine au.take (i := 3) (v := ?NX) rfl (by af) (fun _ _ _ h => h) (by rfl) (fun w av => ?xH) hS ?NY
    case xH =>
     (try dsimp only at av)
     aj
     try ah rfl
    try simp only [Act.put, az, aA, aB]
    refine au.take (i := 4) (v := ?NZ) rfl (by af) (fun _ _ _ h => h) (by rfl) (fun w av => ?xI) hS ?N9
    case xI =>
     (try dsimp only at av)
     aj
     try ah rfl
    try simp only [Act.put, az, aA, aB]
    refine au.take (i := 5) (v := ?J2) rfl (by af) (fun _ _ _ h => h) (by rfl) (fun w av => ?uI) hS ?J3
    case uI =>
     (try dsimp only at av)
     aj
     try ah rfl
    try simp only [Act.put, az, aA, aB]
    refine au.take (i := 6) (v := ?Oa) rfl (by af) (fun _ _ _ h => h) (by rfl) (fun w av => ?xJ) hS ?Ob
    case xJ =>
     (try dsimp only at av)
     aj
     try ah rfl
    try simp only [Act.put, az, aA, aB]
    refine au.take (i := 7) (v := ?J4) rfl (by af) (fun _ _ _ h => h) (by rfl) (fun w av => ?uJ) hS ?J5
    case uJ =>
     (try dsimp only at av)
     aj
     try ah rfl
    try simp only [Act.put, az, aA, aB]
    refine au.take (i := 8) (v := ?T4) rfl (by af) (fun _ _ _ h => h) (by rfl) (fun w av => ?Bk) hS ?T5
    case Bk =>
     (try dsimp only at av)
     aj
     try ah rfl
    try simp only [Act.put, az, aA, aB]
    refine au.take (i := 9) (v := ?T6) rfl (by af) (fun _ _ _ h => h) (by rfl) (fun w av => ?Bl) hS ?T7
    case Bl =>
     (try dsimp only at av)
     aj
     try ah rfl
    try simp only [Act.put, az, aA, aB]
    refine au.take (i := 10) (v := ?Rm) rfl (by af) (fun _ _ _ h => h) (by rfl) (fun w av => ?Am) hS ?Rn
    case Am =>
     (try dsimp only at av)
     aj
     try ah rfl
    try simp only [Act.put, az, aA, aB]
    refine au.take (i := 11) (v := ?Wy) rfl (by af) (fun _ _ _ h => h) (by rfl) (fun w av => ?FI) hS ?Wz
    case FI =>
     (try dsimp only at av)
     aj
     try ah rfl
    try simp only [Act.put, az, aA, aB]
    refine au.take (i := 12) (v := ?WA) rfl (by af) (fun _ _ _ h => h) (by rfl) (fun w av => ?FJ) hS ?WB
    case FJ =>
     (try dsimp only at av)
     aj
     try ah rfl
    try simp only [Act.put, az, aA, aB]
    refine au.take (i := 13) (v := ?WC) rfl (by af) (fun _ _ _ h => h) (by rfl) (fun w av => ?FK) hS ?WD
    case FK =>
     (try dsimp only at av)
     aj
     try ah rfl
    try simp only [Act.put, az, aA, aB]
    refine au.take (i := 14) (v := ?WE) rfl (by af) (fun _ _ _ h => h) (by rfl) (fun w av => ?FL) hS ?WG
    case FL =>
     (try dsimp only at av)
     aj
     try ah rfl
    try simp only [Act.put, az, aA, aB]
    refine au.step (i := 15) rfl (by af) (fun K' hK => ?_)
    aj
    refine hK.out _ _ (fun _ => ⟨(Up.alloc _ _).cell jg, (Up.alloc _ _).cell jW, (Up.alloc _ _).cell hkc⟩) (fun hS => ?_)
    try simp only [az, aA, aB]
    refine au.step (i := 16) rfl (by af) (fun K' hK => ?_)
    refine dK (by rfl) _ _ _ (by rfl) (w.heap.size + 1 + 1) 137 _ 8 Tryz.underlying138 Tryz.r7 (by rfl) (by decide) (by rfl) Rl.out (.pointer (some ⟨ak, 0, none⟩)) w2.heap.size (by rfl) jH.out (by rfl) kZ.out zF.out ?_
    intro g cap w4 oe hg4 xK FM
    obtain ⟨Ro, Rp, Rq, hfz4⟩ := FH.out w4 hg4
    have LR := ag oe
    have Bm := ag (nj hg4)
    have Rr := ag xK
    clear oe hg4 xK FM
    refine hK.out _ _ (fun _ => ⟨Ro, Rp, Rq⟩) (fun hS => ?_)
    replace hS := hS ⟨19, by decide, rfl⟩
    try simp only [Act.put, az, aA, aB]
    refine au.take (i := 17) (v := ?gv17) rfl (by af) (fun _ _ _ h => h) (by rfl) (fun w av => ?Rs) hS ?gr17
    case Rs =>
     (try dsimp only at av)
     aj
     try ah rfl
    try simp only [Act.put, az, aA, aB]
    refine au.take (i := 18) (v := ?gv18) rfl (by af) (fun _ _ _ h => h) (by rfl) (fun w av => ?Rt) hS ?gr18
    case Rt =>
     (try dsimp only at av)
     aj
     try ah rfl
    try simp only [Act.put, az, aA, aB]
    refine au.step (i := 19) rfl (by af) (fun K' hK => ?_)
    aj
    refine hK.out _ _ (bh (by af)) (fun hS => ?_)
    refine au.done (by af) ?_
    aa fail
    aF
    case rel =>
     refine ⟨k + 1, by omega, by aH, Bj.out g cap w4 LR.out Bm.out ?_⟩
     rcases Rr.out with h | h
     ·exact .inl h
     ·refine .inr ?_
      rw [h]; exact Nat.le_trans (Nat.le_succ _) (Nat.le_of_eq (World.size_alloc _ _).symm)
    case measure => simp [intOf]; omega
   ·have zD : Hid (gi t.ps k < 0) := by unfold Hid; omega
    have d1 : decide ((0 : Int) ≤ gi t.ps k) = false := by simpa using od
    clear h0 od
    aa fail
    aF
    case rel =>
     obtain ⟨A', kv', _, hX⟩ := HX.out
     exact ⟨k + 1, by omega, by aH, hX.root zD.out⟩
    case measure => simp [intOf]; omega
  ·obtain rfl : k = t.ps.length := by omega
   aa fail
   ax
   obtain ⟨bG, A, kv, hF, hrow⟩ := hO.out
   exact ⟨Below.trans iD.out (bG.mono (Nat.le_succ _)), _, A, kv, rfl, hF.Vt (by omega), hrow.congr fun i hi => by rw [if_pos hi]⟩
end Go.Proofs.YtpnmblnahjjmhaaGreat
