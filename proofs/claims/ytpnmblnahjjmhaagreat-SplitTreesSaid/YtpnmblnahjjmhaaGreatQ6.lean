/- The contract of phylotree.nodes. -/
import Derived.Test.YtpnmblnahjjmhaaGreatQ1
import Derived.Test.YtpnmblnahjjmhaaGreatQ4
import Derived.Test.YtpnmblnahjjmhaaGreatQ5
import Derived.Deep.RegionHeld3
import Derived.Deep.AppendLies
set_option maxRecDepth 100000
namespace Go.Proofs.YtpnmblnahjjmhaaGreat
open Go.RowKit Go.Deep
theorem Tryz.rC : (Tryz.prog.info? 137).map (fun i => (i.zero, i.size, i.bytes)) = some (some (.pointer none), 1, 8) := by kernel_rfl
theorem bB.congr {base n : Nat} {A : Nat → Nat} {kv : Nat → Value} {F F' : aT} {w : World} (h : bB base n A kv F w) (e : ∀ i, i < n → F'.nm i = F.nm i ∧ F'.old i = F.old i ∧ F'.kids i = F.kids i) : bB base n A kv F' w :=
 ⟨fun i hi => by rw [(e i hi).1, (e i hi).2.1]; exact h.node i hi, h.lo, h.inj, fun i hi => by rw [(e i hi).2.2]; exact h.own i hi, h.apart, h.alone, fun i hi => by rw [(e i hi).2.2]; exact h.kid i hi⟩
theorem mj {w w' : World} {o : Obj} {row : Option Nat} (h : (w.alloc o).drew.grownBy w' row) : w.grownBy w' row :=
 oU (o := o) ⟨h.os, h.tape, h.output, h.size, h.block⟩
section
variable {P : Program} {ops : Array Oper} {o : Oper} {a : Act} {w : World} {K : Act → World → Prop} {Q : Exit → Act → World → Prop} {E : Prop}
theorem cT (hgd : o.guard = none) (s x : Operand) (t : TypeId) (ho : o.op = .call { callee := .builtin .append, args := #[s, x], argTypes := #[t, t] })
  (base : Nat) (e : TypeId) (z : Value) (bytes : Nat) (ht : P.underlying t = some (.slice e)) (hinfo : (P.info? e).map (fun i => (i.zero, i.size, i.bytes)) = some (some z, 1, bytes))
  (hz1 : z.cells.size = 1) (jJ : bytes ≤ 64) {v : Value} {vs : List Value} (hs : a.eval s = v) (hown : ah base e w v vs) (u : Value) (B : Nat)
  (hx : a.eval x = .slice (some ⟨B, 0, none⟩) 1 1) (hB : w.cell? ⟨B, 0, none⟩ = some u) (h1 : u.oneCell' = true) (hn : vs.length ≤ 1000000) (hbase : base ≤ w.heap.size)
  (h : ∀ g cap w', ah base e w' (.slice (some ⟨g, 0, none⟩) (vs.length + 1) cap) (vs ++ [u]) → w.grownBy w' v.ownBlock → (v.ownBlock = some g ∨ g = w.heap.size) → Below base w w' → K (a.put o.dst (.slice (some ⟨g, 0, none⟩) (vs.length + 1) cap)) w') :
  if Region.wanted o (yielded ops a.tmps) = true then Oper.wp P o a w K Q else E := by
 obtain ⟨i, hi, hzz⟩ := Option.map_eq_some_iff.1 hinfo
 simp only [Prod.mk.injEq] at hzz
 obtain ⟨hz, hs1, hb⟩ := hzz
 refine step_append_lies w hgd s x t ho base e i z 1 bytes ht hi hz hs1 hb hz1 (by omega) v vs.length vs hs hown ⟨B, 0, none⟩ 1 1 [u] hx rfl ?_ (by simpa using h1) (by omega)
  (by unfold maxLen; omega) ?_ hbase _ rfl fun g cap w' h2 h3 h4 _ => h g cap w' ?_ h3 h4 (hown.eW h3 hbase)
 ·intro j u' hj
  cases j with
  | zero => (simp at hj; subst hj; simpa [Addr.add] using hB)
  | succ j => simp at hj
 ·have : (vs.length + 1) * bytes ≤ (vs.length + 1) * 64 := Nat.mul_le_mul_left _ jJ
  omega
 ·unfold ah; rw [List.length_append]; exact h2
end
def frK (t : aA) (k : Nat) : aT := ⟨gs t.ns, fun i => i, fun i => bG t.ps i k⟩
def cF (t : aA) : aT := frK t t.ps.length
def zj (w wr : World) (g0 n k : Nat) (t : aA) : Prop :=
 Below g0 w wr ∧ ∃ A kv, bB (g0 + 1) k A kv (frK t k) wr ∧ wr.rowIs g0 137 n (fun i => if i < k then bC A i else .pointer none)
def NQ (t : aA) (k : Nat) : aT := ⟨gs t.ns, fun i => i, upd (fun i => bG t.ps i k) k []⟩
structure NR (w wr : World) (g0 n k : Nat) (t : aA) (A : Nat → Nat) (kv : Nat → Value) : Prop where
 up : Below g0 w wr
 fr : bB (g0 + 1) (k + 1) A kv (NQ t k) wr
 row : wr.rowIs g0 137 n (fun i => if i < k + 1 then bC A i else .pointer none)
theorem bB.far {g0 n : Nat} {A : Nat → Nat} {kv : Nat → Value} {F : aT} {w : World} (h : bB (g0 + 1) n A kv F w) {i : Nat} (hi : i < n) : A i ≠ g0 ∧ (kv i).ownBlock ≠ some g0 :=
 ⟨fun e => by have := h.lo i hi; omega, fun e => by have := (h.gL hi e).1; omega⟩
theorem zj.new {w wo : World} {g0 n k : Nat} {t : aA} (h : zj w wo g0 n k t) :
  ∃ A kv, A k = wo.heap.size ∧ NR w ((wo.alloc (.cells #[.string (gs t.ns k), .slice none 0 0, .int .i64 k] 140)).setCell ⟨g0, k, none⟩ (.pointer (some ⟨wo.heap.size, 0, none⟩))) g0 n k t A kv := by
 obtain ⟨aW, A, kv, hF, hrow⟩ := h
 have hg0 := hrow.lt
 have hF2 := hF.zV (by omega) (gs t.ns k) k
 refine ⟨upd A k wo.heap.size, upd kv k (.slice none 0 0), upd_same _ _ _, (aW.alloc (by omega) _).setCell (p := ⟨g0, k, none⟩) (Nat.le_refl _) _, ?_, ?_⟩
 ·have JZ := hF2.congr (F' := NQ t k) fun i hi => by
   refine ⟨?_, ?_, rfl⟩
   ·by_cases e : i = k
    ·subst e; exact (upd_same _ _ _).symm
    ·exact (upd_ne _ _ e).symm
   ·by_cases e : i = k
    ·subst e; exact (upd_same _ _ _).symm
    ·exact (upd_ne _ _ e).symm
  exact JZ.same (fun i hi => blk_setCell_other _ _ _ _ (JZ.far hi).1) fun i b hi hb => blk_setCell_other _ _ _ _ (fun e2 => (JZ.far hi).2 (by rw [hb]; exact congrArg some e2))
 ·refine ((hrow.alloc _).set k _).congr fun i hi => ?_
  by_cases e : i = k
  ·subst e; rw [if_pos rfl, if_pos (by omega)]; unfold bC; rw [upd_same]
  ·rw [if_neg e]
   by_cases e2 : i < k
   ·rw [if_pos e2, if_pos (by omega)]; unfold bC; rw [upd_ne _ _ e]
   ·rw [if_neg e2, if_neg (by omega)]
theorem LN (ps : List Int) (k : Nat) : bG ps k k = [] := by
 unfold bG
 refine List.filter_eq_nil_iff.2 fun i hi => ?_
 have := List.mem_range.1 hi
 simp; omega
theorem oz (t : aA) (k i : Nat) : (NQ t k).kids i = bG t.ps i k := by
 show upd (fun i => bG t.ps i k) k [] i = _
 by_cases e : i = k
 ·subst e; rw [upd_same, LN]
 ·rw [upd_ne _ _ e]
theorem NR.root {w wr : World} {g0 n k : Nat} {t : aA} {A : Nat → Nat} {kv : Nat → Value} (h : NR w wr g0 n k t A kv) (hp : gi t.ps k < 0) : zj w wr g0 n (k + 1) t := by
 refine ⟨h.up, A, kv, h.fr.congr fun i hi => ⟨rfl, rfl, ?_⟩, h.row⟩
 rw [oz]
 show bG t.ps i (k + 1) = _
 rw [kV, if_neg (by omega), List.append_nil]
theorem NR.push {w wr w' : World} {g0 n k p : Nat} {t : aA} {A : Nat → Nat} {kv : Nat → Value} (h : NR w wr g0 n k t A kv) (hpk : p < k) (hp : gi t.ps k = p) {v : Value}
  (hv : ah (g0 + 1) 137 w' v ((bG t.ps p k).map (bC A) ++ [bC A k])) (hg : wr.grownBy w' (kv p).ownBlock) (hb : ∀ b, v.ownBlock = some b → (kv p).ownBlock = some b ∨ wr.heap.size ≤ b) :
  zj w (w'.setCell ⟨A p, 1, none⟩ v) g0 n (k + 1) t := by
 have hF := h.fr.push (k := p) (c := k) (v := v) (by omega) (by omega) (by rw [oz, List.map_append]; exact hv) hg hb
 have hlo := h.fr.lo p (by omega)
 have hrl := h.row.lt
 refine ⟨?_, A, upd kv p v, hF.congr fun i hi => ⟨rfl, rfl, ?_⟩, ?_⟩
 ·have h1 : Below (g0 + 1) wr w' := (h.fr.own p (by omega)).eW hg (by omega)
  exact (Below.trans h.up (h1.mono (by omega))).setCell (p := ⟨A p, 1, none⟩) (by show g0 ≤ A p; omega) _
 ·show bG t.ps i (k + 1) = upd (NQ t k).kids p ((NQ t k).kids p ++ [k]) i
  rw [kV, oz]
  by_cases e : i = p
  ·subst e; rw [upd_same, if_pos ⟨hpk, hp⟩]
  ·rw [upd_ne _ _ e, if_neg (by omega), List.append_nil, oz]
 ·have hne : g0 ≠ A p := fun e => (h.fr.far (i := p) (by omega)).1 e.symm
  refine (h.row.of_block ?_).setOther (a := ⟨A p, 1, none⟩) hne v
  exact hg.block g0 hrl (fun e => (h.fr.far (i := p) (by omega)).2 e.symm)
theorem bB.Vu {base base' n : Nat} {A : Nat → Nat} {kv : Nat → Value} {F : aT} {w : World} (h : bB base n A kv F w) (hb : base' ≤ base) : bB base' n A kv F w :=
 ⟨h.node, fun i hi => Nat.le_trans hb (h.lo i hi), h.inj, fun i hi => (h.own i hi).mJ hb, h.apart, h.alone, h.kid⟩
def NT (w : World) (t : aA) (e : Ending) (w' : World) : Prop :=
 Up w w' ∧ ∃ g A kv, e = .returned (.slice (some ⟨g, 0, none⟩) t.ps.length t.ps.length) ∧ bB w.heap.size t.ps.length A kv (cF t) w' ∧ w'.rowIs g 137 t.ps.length (bC A)
set_option maxHeartbeats 2000000 in
theorem Vv (S : Nat → Prop) (w : World) (v : Value) (t : aA) (hT : aG S w v t) (hp : t.ps.length ≤ 1000) (hn : t.ns.length = t.ps.length) (hok : fK t.ps = true) (hz : ∀ k, (gs t.ns k).size ≤ 70000) :
  Calls Tryz.prog 129 #[v] w (NT w t) := by
 obtain ⟨P, N, rfl, hP, hN⟩ := hT
 obtain ⟨pP, ig, rfl, hcapP, _⟩ := av.open hP
 have hP : af S w (.slice pP t.ps.length ig) t.ps := hP
 obtain ⟨pN, ij, rfl, hcapN, _⟩ := av.open hN
 have hN : ay S w (.slice pN t.ns.length ij) t.ns := hN
 have hmk := fun W => run_make_row' (P := Tryz.prog) 138 137 (.pointer none) 8 Tryz.underlying138 Tryz.rC rfl .i64 .i64 t.ps.length (by omega) (by omega) W
 have hu := Up.alloc w (.cells #[.slice pP t.ps.length ig, .slice pN t.ns.length ij] 39)
 have hb0 := cB w (.slice pP t.ps.length ig) (.slice pN t.ns.length ij) 39
 have hb1 := cI w (.slice pP t.ps.length ig) (.slice pN t.ns.length ij) 39
 have aC := Up.alloc (w.alloc (.cells #[.slice pP t.ps.length ig, .slice pN t.ns.length ij] 39)) (.cells (madeCells #[.pointer none] t.ps.length) 137)
 have HW : Hid (zj ((w.alloc (.cells #[.slice pP t.ps.length ig, .slice pN t.ns.length ij] 39)).alloc (.cells (madeCells #[.pointer none] t.ps.length) 137)) ((w.alloc (.cells #[.slice pP t.ps.length ig, .slice pN t.ns.length ij] 39)).alloc (.cells (madeCells #[.pointer none] t.ps.length) 137)) (w.heap.size + 1) t.ps.length 0 t) := by
  refine ⟨Below.refl _ _, fun _ => 0, fun _ => .slice none 0 0, bB.empty _ _ _ _ _, ?_⟩
  have h := World.rowIs_made (w.alloc (.cells #[.slice pP t.ps.length ig, .slice pN t.ns.length ij] 39)) (.pointer none) t.ps.length 137
  simp only [World.size_alloc] at h
  exact h
 have gR := aa (hu.trans aC)
 have hsz : w.heap.size + 1 + 1 = ((w.alloc (.cells #[.slice pP t.ps.length ig, .slice pN t.ns.length ij] 39)).alloc (.cells (madeCells #[.pointer none] t.ps.length) 137)).heap.size := by simp
 have cO := aa hsz
 have gm := aa (aC.cell hb0)
 have gz := aa (aC.cell hb1)
 have HP := aa hP
 have HN := aa hN
 have xd := aa hz
 have fI := aa hok
 have iD := aa hn
 have hnl : (t.ps.length : Int) ≤ (t.ns.length : Int) := by omega
 clear hsz hu hb0 hb1 aC hP hN hz hok hn
 go_enter Tryz.func129, Tryz.ntmps129
 go_wp2_with fail
 generalize (w.alloc (.cells #[.slice pP t.ps.length ig, .slice pN t.ns.length ij] 39)).alloc (.cells (madeCells #[.pointer none] t.ps.length) 137) = w1 at *
 go_loopw [13] (fun i wr => ∃ k : Nat, k ≤ t.ps.length ∧ i = .int .i64 k ∧ Hid (zj w1 wr (w.heap.size + 1) t.ps.length k t)) (fun i _ => t.ps.length - (intOf i).toNat)
 case atStart => exact ⟨0, Nat.zero_le _, rfl, HW⟩
 case round =>
  obtain ⟨k, hk, rfl, hO⟩ := hrel
  obtain ⟨wo, rfl⟩ : ∃ wo : World, wo = wr := ⟨_, rfl⟩
  by_cases hlt : k < t.ps.length
  ·obtain ⟨aW, A, kv, hF, hrow⟩ := hO.out
   have hc0 : wo.cell? ⟨w.heap.size, 0, none⟩ = some (.slice pP t.ps.length ig) := by rw [aW.cell (p := ⟨w.heap.size, 0, none⟩) (Nat.lt_succ_self _)]; exact gm.out
   have hc1 : wo.cell? ⟨w.heap.size, 1, none⟩ = some (.slice pN t.ns.length ij) := by rw [aW.cell (p := ⟨w.heap.size, 1, none⟩) (Nat.lt_succ_self _)]; exact gz.out
   have Fy : Up w wo := Below.trans gR.out (aW.mono (Nat.le_succ _))
   obtain ⟨bP, oP, rfl, mM⟩ := bw (af.keep HP.out (Fy.kept S)) hlt
   obtain ⟨bN, oN, rfl, og⟩ := cC (ay.keep HN.out (Fy.kept S)) (k := k) (by rw [iD.out]; exact hlt)
   have HX := aa hO.out.new
   have Wz : (wo.alloc (.cells #[.string (gs t.ns k), .slice none 0 0, .int .i64 k] 140)).cell? ⟨w.heap.size + 1, k, none⟩ = some (.pointer none) := by
    have h := (hrow.alloc (.cells #[.string (gs t.ns k), .slice none 0 0, .int .i64 k] 140)).cell hlt
    rw [h, if_neg (Nat.lt_irrefl k)]
   have hfo : (wo.alloc (.cells #[.string (gs t.ns k), .slice none 0 0, .int .i64 k] 140)).frozen? ⟨w.heap.size + 1, k, none⟩ = false := (hrow.alloc _).frozen k
   clear hF hrow aW Fy hO
   have h0 : gi t.ps k < k ∧ (0 < k → 0 ≤ gi t.ps k) ∧ (k = 0 → gi t.ps k = -1) := Nx fI.out hlt
   by_cases nj : 0 ≤ gi t.ps k
   ·obtain ⟨p, Fz⟩ := Int.eq_ofNat_of_zero_le nj
    have hpk : p < k := by omega
    rw [Fz] at mM
    have d1 : decide ((0 : Int) ≤ (p : Int)) = true := by simp
    have zk := aa Fz
    clear h0 nj Fz
    go_wp2_with fail
    generalize (wo.alloc (.cells #[.string (gs t.ns k), .slice none 0 0, .int .i64 k] 140)).setCell ⟨w.heap.size + 1, k, none⟩ (.pointer (some ⟨wo.heap.size, 0, none⟩)) = w2 at *
    obtain ⟨A, kv, hAk, hX⟩ := HX.out
    have hr1 : w2.cell? ⟨w.heap.size + 1, p, none⟩ = some (.pointer (some ⟨A p, 0, none⟩)) := by
     have h := hX.row.cell (i := p) (by omega)
     rw [if_pos (by omega)] at h; exact h
    have hr2 : w2.cell? ⟨w.heap.size + 1, k, none⟩ = some (.pointer (some ⟨A k, 0, none⟩)) := by
     have h := hX.row.cell (i := k) hlt
     rw [if_pos (by omega)] at h; exact h
    have WA : Hid (bC A k = .pointer (some ⟨wo.heap.size, 0, none⟩)) := by unfold Hid bC; rw [hAk]
    rw [hAk] at hr2
    have hkc := hX.fr.pZ (i := p) (by omega)
    have hfz := hX.fr.thaw (i := p) (by omega) 1
    have uV : Hid (ah (w.heap.size + 1 + 1) 137 w2 (kv p) ((bG t.ps p k).map (bC A))) := by have h := hX.fr.own p (by omega); rw [oz] at h; exact h
    have zg := aa hX
    have FA : Hid (A p ≠ w.heap.size + 1 ∧ (kv p).ownBlock ≠ some (w.heap.size + 1) ∧ (kv p).ownBlock ≠ some (A p) ∧ w.heap.size + 1 < w2.heap.size ∧ A p < w2.heap.size) := ⟨(hX.fr.far (by omega)).1, (hX.fr.far (by omega)).2, hX.fr.apart p p (by omega) (by omega), hX.row.lt, hX.fr.lt (by omega)⟩
    have i0 : (0 : Int) ≤ (p : Int) := by omega
    have i1 : (p : Int) < (t.ps.length : Int) := by omega
    have i2 : (0 : Int) ≤ (k : Int) := by omega
    have i3 : (k : Int) < (t.ps.length : Int) := by omega
    have kn : Hid (((bG t.ps p k).map (bC A)).length ≤ 1000000) := by unfold Hid; rw [List.length_map]; have := o9 t.ps p k; omega
    have A4 : Hid (∀ g cap w', ah (w.heap.size + 1 + 1) 137 w' (.slice (some ⟨g, 0, none⟩) (((bG t.ps p k).map (bC A)).length + 1) cap) ((bG t.ps p k).map (bC A) ++ [.pointer (some ⟨wo.heap.size, 0, none⟩)]) → w2.grownBy w' (kv p).ownBlock → ((kv p).ownBlock = some g ∨ w2.heap.size ≤ g) → zj w1 (w'.setCell ⟨A p, 1, none⟩ (.slice (some ⟨g, 0, none⟩) (((bG t.ps p k).map (bC A)).length + 1) cap)) (w.heap.size + 1) t.ps.length (k + 1) t) := fun g cap w' h1 h2 h3 => hX.push hpk zk.out (by rw [WA.out]; exact h1) h2 (fun b hb => by cases hb; exact h3)
    clear hAk hX HX Wz hfo mM og hc0 hc1
    generalize bC A = na at *
    generalize hap : A p = ap at *
    generalize wo.heap.size = ak at *
    generalize kv p = ov at *
    generalize List.map na (bG t.ps p k) = vs at *
    have Rh : Hid (ah (w.heap.size + 1 + 1) 137 (w2.alloc (.cells #[.pointer (some ⟨ak, 0, none⟩)] 137)).drew ov vs) := uV.out.alloc _
    have jd : Hid ((w2.alloc (.cells #[.pointer (some ⟨ak, 0, none⟩)] 137)).drew.cell? ⟨w2.heap.size, 0, none⟩ = some (.pointer (some ⟨ak, 0, none⟩))) := bf _ _ _ 0
    have zl : Hid (w.heap.size + 1 + 1 ≤ (w2.alloc (.cells #[.pointer (some ⟨ak, 0, none⟩)] 137)).drew.heap.size) := by
     have := FA.out.2.2.2.1
     show _ ≤ (w2.alloc _).heap.size
     rw [World.size_alloc]; omega
    have FB : Hid (∀ (w' : World), (w2.alloc (.cells #[.pointer (some ⟨ak, 0, none⟩)] 137)).drew.grownBy w' ov.ownBlock → w'.cell? ⟨w.heap.size + 1, p, none⟩ = some (.pointer (some ⟨ap, 0, none⟩)) ∧ w'.cell? ⟨w.heap.size + 1, k, none⟩ = some (.pointer (some ⟨ak, 0, none⟩)) ∧ w'.cell? ⟨ap, 1, none⟩ = some ov ∧ w'.frozen? ⟨ap, 1, none⟩ = false) := fun w' hg => by
     obtain ⟨q1, q2, q3, q4, q5⟩ := FA.out
     have hl : ∀ b, b < w2.heap.size → b < (w2.alloc (.cells #[.pointer (some ⟨ak, 0, none⟩)] 137)).drew.heap.size := fun b hb => by show b < (w2.alloc _).heap.size; rw [World.size_alloc]; omega
     have hu := Up.alloc w2 (.cells #[.pointer (some ⟨ak, 0, none⟩)] 137)
     refine ⟨?_, ?_, ?_, ?_⟩
     ·rw [hg.cell_far _ (hl _ q4) (Ne.symm q2)]; exact hu.cell hr1
     ·rw [hg.cell_far _ (hl _ q4) (Ne.symm q2)]; exact hu.cell hr2
     ·rw [hg.cell_far _ (hl _ q5) (Ne.symm q3)]; exact hu.cell hkc
     ·rw [hg.frozen_far _ (hl _ q5) (Ne.symm q3)]; exact (Below.frozen hu (p := ⟨ap, 1, none⟩) q5).trans hfz
    have hr1a := (Up.alloc w2 (.cells #[.pointer (some ⟨ak, 0, none⟩)] 137)).cell hr1
    have hr2a := (Up.alloc w2 (.cells #[.pointer (some ⟨ak, 0, none⟩)] 137)).cell hr2
    have hkca := (Up.alloc w2 (.cells #[.pointer (some ⟨ak, 0, none⟩)] 137)).cell hkc
    clear zg
    refine dK (by kernel_rfl) 20 (fun w' => w'.cell? ⟨w.heap.size + 1, p, none⟩ = some (.pointer (some ⟨ap, 0, none⟩)) ∧ w'.cell? ⟨w.heap.size + 1, k, none⟩ = some (.pointer (some ⟨ak, 0, none⟩)) ∧ w'.cell? ⟨ap, 1, none⟩ = some ov) ⟨hr1, hr2, hkc⟩ (fun hS => ?_)
    simp only [List.size_toArray, List.length_cons, List.length_nil, Nat.reduceAdd, Array.replicate_succ, Array.replicate_zero, List.push_toArray, List.nil_append, List.cons_append]
    refine ag.take (i := 0) (v := ?Dr) rfl (by kernel_rfl) (fun _ _ _ h => h) (by rfl) (fun w hSw => ?pF) hS ?Ds
    case pF =>
     (try dsimp only at hSw)
     go_simp
     try with_reducible rfl
    try simp only [Act.put, aj, aq, au]
    refine ag.take (i := 1) (v := ?Dt) rfl (by kernel_rfl) (fun _ _ _ h => h) (by rfl) (fun w hSw => ?pG) hS ?Du
    case pG =>
     (try dsimp only at hSw)
     go_simp
     try with_reducible rfl
    try simp only [Act.put, aj, aq, au]
    refine ag.take (i := 2) (v := ?Dv) rfl (by kernel_rfl) (fun _ _ _ h => h) (by rfl) (fun w hSw => ?pH) hS ?Dw
    case pH =>
     (try dsimp only at hSw)
     go_simp
     try with_reducible rfl
    try simp only [Act.put, aj, aq, au]
    refine ag.take (i := 3) (v := ?NU) rfl (by kernel_rfl) (fun _ _ _ h => h) (by rfl) (fun w hSw => ?xe) hS ?NV
    case xe =>
     (try dsimp only at hSw)
     go_simp
     try with_reducible rfl
    try simp only [Act.put, aj, aq, au]
    refine ag.take (i := 4) (v := ?NW) rfl (by kernel_rfl) (fun _ _ _ h => h) (by rfl) (fun w hSw => ?xg) hS ?NX
    case xg =>
     (try dsimp only at hSw)
     go_simp
     try with_reducible rfl
    try simp only [Act.put, aj, aq, au]
    refine ag.take (i := 5) (v := ?J1) rfl (by kernel_rfl) (fun _ _ _ h => h) (by rfl) (fun w hSw => ?uh) hS ?J2
    case uh =>
     (try dsimp only at hSw)
     go_simp
     try with_reducible rfl
    try simp only [Act.put, aj, aq, au]
    refine ag.take (i := 6) (v := ?NY) rfl (by kernel_rfl) (fun _ _ _ h => h) (by rfl) (fun w hSw => ?xh) hS ?NZ
    case xh =>
     (try dsimp only at hSw)
     go_simp
     try with_reducible rfl
    try simp only [Act.put, aj, aq, au]
    refine ag.take (i := 7) (v := ?J3) rfl (by kernel_rfl) (fun _ _ _ h => h) (by rfl) (fun w hSw => ?uj) hS ?J4
    case uj =>
     (try dsimp only at hSw)
     go_simp
     try with_reducible rfl
    try simp only [Act.put, aj, aq, au]
    refine ag.take (i := 8) (v := ?T8) rfl (by kernel_rfl) (fun _ _ _ h => h) (by rfl) (fun w hSw => ?A5) hS ?T9
    case A5 =>
     (try dsimp only at hSw)
     go_simp
     try with_reducible rfl
    try simp only [Act.put, aj, aq, au]
    refine ag.take (i := 9) (v := ?Ua) rfl (by kernel_rfl) (fun _ _ _ h => h) (by rfl) (fun w hSw => ?A6) hS ?Ub
    case A6 =>
     (try dsimp only at hSw)
     go_simp
     try with_reducible rfl
    try simp only [Act.put, aj, aq, au]
    refine ag.take (i := 10) (v := ?Ri) rfl (by kernel_rfl) (fun _ _ _ h => h) (by rfl) (fun w hSw => ?zY) hS ?Rj
    case zY =>
     (try dsimp only at hSw)
     go_simp
     try with_reducible rfl
    try simp only [Act.put, aj, aq, au]
    refine ag.take (i := 11) (v := ?WB) rfl (by kernel_rfl) (fun _ _ _ h => h) (by rfl) (fun w hSw => ?FC) hS ?WC
    case FC =>
     (try dsimp only at hSw)
     go_simp
     try with_reducible rfl
    try simp only [Act.put, aj, aq, au]
    refine ag.take (i := 12) (v := ?WD) rfl (by kernel_rfl) (fun _ _ _ h => h) (by rfl) (fun w hSw => ?FD) hS ?WE
    case FD =>
     (try dsimp only at hSw)
     go_simp
     try with_reducible rfl
    try simp only [Act.put, aj, aq, au]
    refine ag.take (i := 13) (v := ?WG) rfl (by kernel_rfl) (fun _ _ _ h => h) (by rfl) (fun w hSw => ?FE) hS ?WH
    case FE =>
     (try dsimp only at hSw)
     go_simp
     try with_reducible rfl
    try simp only [Act.put, aj, aq, au]
    refine ag.take (i := 14) (v := ?WI) rfl (by kernel_rfl) (fun _ _ _ h => h) (by rfl) (fun w hSw => ?FH) hS ?WJ
    case FH =>
     (try dsimp only at hSw)
     go_simp
     try with_reducible rfl
    try simp only [Act.put, aj, aq, au]
    refine ag.step (i := 15) rfl (by kernel_rfl) (fun K' hK => ?_)
    go_simp
    refine hK.out _ _ (fun _ => ⟨(Up.alloc _ _).cell hr1, (Up.alloc _ _).cell hr2, (Up.alloc _ _).cell hkc⟩) (fun hS => ?_)
    try simp only [aj, aq, au]
    refine ag.step (i := 16) rfl (by kernel_rfl) (fun K' hK => ?_)
    refine cT (by rfl) _ _ _ (by rfl) (w.heap.size + 1 + 1) 137 _ 8 Tryz.underlying138 Tryz.rC (by rfl) (by decide) (by rfl) Rh.out (.pointer (some ⟨ak, 0, none⟩)) w2.heap.size (by rfl) jd.out (by rfl) kn.out zl.out ?_
    intro g cap w4 nt hg4 xk FI
    obtain ⟨Rk, Rl, Rm, hfz4⟩ := FB.out w4 hg4
    have LO := aa nt
    have A7 := aa (mj hg4)
    have Rn := aa xk
    clear nt hg4 xk FI
    refine hK.out _ _ (fun _ => ⟨Rk, Rl, Rm⟩) (fun hS => ?_)
    replace hS := hS ⟨19, by decide, rfl⟩
    try simp only [Act.put, aj, aq, au]
    refine ag.take (i := 17) (v := ?gv17) rfl (by kernel_rfl) (fun _ _ _ h => h) (by rfl) (fun w hSw => ?Ro) hS ?gr17
    case Ro =>
     (try dsimp only at hSw)
     go_simp
     try with_reducible rfl
    try simp only [Act.put, aj, aq, au]
    refine ag.take (i := 18) (v := ?gv18) rfl (by kernel_rfl) (fun _ _ _ h => h) (by rfl) (fun w hSw => ?Rp) hS ?gr18
    case Rp =>
     (try dsimp only at hSw)
     go_simp
     try with_reducible rfl
    try simp only [Act.put, aj, aq, au]
    refine ag.step (i := 19) rfl (by kernel_rfl) (fun K' hK => ?_)
    go_simp
    refine hK.out _ _ (aP (by kernel_rfl)) (fun hS => ?_)
    refine ag.done (by kernel_rfl) ?_
    go_wp2_with fail
    go_roundw
    case rel =>
     refine ⟨k + 1, by omega, by go_num, A4.out g cap w4 LO.out A7.out ?_⟩
     rcases Rn.out with h | h
     ·exact .inl h
     ·refine .inr ?_
      rw [h]; exact Nat.le_trans (Nat.le_succ _) (Nat.le_of_eq (World.size_alloc _ _).symm)
    case measure => simp [intOf]; omega
   ·have zk : Hid (gi t.ps k < 0) := by unfold Hid; omega
    have d1 : decide ((0 : Int) ≤ gi t.ps k) = false := by simpa using nj
    clear h0 nj
    go_wp2_with fail
    go_roundw
    case rel =>
     obtain ⟨A', kv', _, hX⟩ := HX.out
     exact ⟨k + 1, by omega, by go_num, hX.root zk.out⟩
    case measure => simp [intOf]; omega
  ·obtain rfl : k = t.ps.length := by omega
   go_wp2_with fail
   go_ret
   obtain ⟨aW, A, kv, hF, hrow⟩ := hO.out
   exact ⟨Below.trans gR.out (aW.mono (Nat.le_succ _)), _, A, kv, rfl, hF.Vu (by omega), hrow.congr fun i hi => by rw [if_pos hi]⟩
end Go.Proofs.YtpnmblnahjjmhaaGreat
