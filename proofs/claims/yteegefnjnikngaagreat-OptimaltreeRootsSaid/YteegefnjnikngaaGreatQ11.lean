/- The contract of phylotree.nodes. The contract of sharederror.Groups. The contract of .. -/
import Derived.Test.YteegefnjnikngaaGreatQ1
import Derived.Test.YteegefnjnikngaaGreatQ10
import Derived.Test.YteegefnjnikngaaGreatQ7
import Derived.Test.YteegefnjnikngaaGreatQ8
import Derived.Deep.RegionHeld3
import Derived.Deep.AppendLies
import Derived.Test.YteegefnjnikngaaGreatQ5
import Derived.Test.YteegefnjnikngaaGreatQ9
import Derived.RangeFuncWrites
import Derived.Laws.EntriesVeiled
import Derived.Shelf.Lays2
import Derived.Shelf.Slices.CompactI
import Derived.Ground.Names2Prog
import Derived.Test.YteegefnjnikngaaGreatQ3
set_option maxRecDepth 100000
namespace Go.Proofs.YteegefnjnikngaaGreat
section
open Go.RowKit Go.Deep
theorem Tryz.nX : (Tryz.prog.info? 124).map (fun i => (i.zero, i.size, i.bytes)) = some (some (.pointer none), 1, 8) := by kernel_rfl
theorem aS.congr {base n : Nat} {A : Nat → Nat} {kv : Nat → Value} {F F' : aP} {w : World} (h : aS base n A kv F w) (e : ∀ i, i < n → F'.nm i = F.nm i ∧ F'.old i = F.old i ∧ F'.kids i = F.kids i) : aS base n A kv F' w :=
 ⟨fun i hi => by rw [(e i hi).1, (e i hi).2.1]; exact h.node i hi, h.lo, h.inj, fun i hi => by rw [(e i hi).2.2]; exact h.own i hi, h.apart, h.alone, fun i hi => by rw [(e i hi).2.2]; exact h.kid i hi⟩
theorem FR {w : World} {p : Addr} {v : Value} (h : ∃ u, w.cell? p = some u) : (w.setCell p v).cell? p = some v := by
 obtain ⟨u, h⟩ := h
 exact World.cell?_setCell_same' _ _ _ (by rw [h]; rfl)
theorem uX {w : World} {p : Addr} {v : Value} {b o : Nat} (h : p.block ≠ b) : (w.setCell p v).cell? ⟨b, o, none⟩ = w.cell? ⟨b, o, none⟩ :=
 World.cell?_of_block (a := ⟨b, o, none⟩) (blk_setCell_other _ _ _ _ (fun e => h e.symm))
theorem mP {w w' : World} {o : Obj} {row : Option Nat} (h : (w.alloc o).drew.grownBy w' row) : w.grownBy w' row :=
 jb (o := o) ⟨h.os, h.tape, h.output, h.size, h.block⟩
section
variable {P : Program} {ops : Array Oper} {o : Oper} {a : Act} {w : World} {K : Act → World → Prop} {Q : Exit → Act → World → Prop} {E : Prop}
theorem gy (hgd : o.guard = none) (s x : Operand) (t : TypeId) (ho : o.op = .call { callee := .builtin .append, args := #[s, x], argTypes := #[t, t] })
  (base : Nat) (e : TypeId) (z : Value) (bytes : Nat) (ht : P.underlying t = some (.slice e)) (hinfo : (P.info? e).map (fun i => (i.zero, i.size, i.bytes)) = some (some z, 1, bytes))
  (hz1 : z.cells.size = 1) (nU : bytes ≤ 64) {v : Value} {vs : List Value} (hs : a.eval s = v) (hown : aA base e w v vs) (u : Value) (B : Nat)
  (hx : a.eval x = .slice (some ⟨B, 0, none⟩) 1 1) (hB : w.cell? ⟨B, 0, none⟩ = some u) (h1 : u.oneCell' = true) (hn : vs.length ≤ 1000000) (hbase : base ≤ w.heap.size)
  (h : ∀ g cap w', aA base e w' (.slice (some ⟨g, 0, none⟩) (vs.length + 1) cap) (vs ++ [u]) → w.grownBy w' v.ownBlock → (v.ownBlock = some g ∨ g = w.heap.size) → Below base w w' → K (a.put o.dst (.slice (some ⟨g, 0, none⟩) (vs.length + 1) cap)) w') :
  if Region.wanted o (yielded ops a.tmps) = true then Oper.wp P o a w K Q else E := by
 obtain ⟨i, hi, hzz⟩ := Option.map_eq_some_iff.1 hinfo
 simp only [Prod.mk.injEq] at hzz
 obtain ⟨hz, hs1, hb⟩ := hzz
 refine step_append_lies w hgd s x t ho base e i z 1 bytes ht hi hz hs1 hb hz1 (by omega) v vs.length vs hs hown ⟨B, 0, none⟩ 1 1 [u] hx rfl ?_ (by simpa using h1) (by omega)
  (by unfold maxLen; omega) ?_ hbase _ rfl fun g cap w' h2 h3 h4 _ => h g cap w' ?_ h3 h4 (hown.dJ h3 hbase)
 ·intro j u' hj
  cases j with
  | zero => (simp at hj; subst hj; simpa [Addr.add] using hB)
  | succ j => simp at hj
 ·have : (vs.length + 1) * bytes ≤ (vs.length + 1) * 64 := Nat.mul_le_mul_left _ nU
  omega
 ·unfold aA; rw [List.length_append]; exact h2
end
def frK (t : ax) (k : Nat) : aP := ⟨gs t.ns, fun i => i, fun i => cG t.ps i k⟩
def dy (t : ax) : aP := frK t t.ps.length
def zZ (w wr : World) (g0 n k : Nat) (t : ax) : Prop :=
 Below g0 w wr ∧ ∃ A kv, aS (g0 + 1) k A kv (frK t k) wr ∧ wr.rowIs g0 124 n (fun i => if i < k then aL A i else .pointer none)
def OU (t : ax) (k : Nat) : aP := ⟨gs t.ns, fun i => i, upd (fun i => cG t.ps i k) k []⟩
structure OV (w wr : World) (g0 n k : Nat) (t : ax) (A : Nat → Nat) (kv : Nat → Value) : Prop where
 up : Below g0 w wr
 fr : aS (g0 + 1) (k + 1) A kv (OU t k) wr
 row : wr.rowIs g0 124 n (fun i => if i < k + 1 then aL A i else .pointer none)
theorem aS.far {g0 n : Nat} {A : Nat → Nat} {kv : Nat → Value} {F : aP} {w : World} (h : aS (g0 + 1) n A kv F w) {i : Nat} (hi : i < n) : A i ≠ g0 ∧ (kv i).ownBlock ≠ some g0 :=
 ⟨fun e => by have := h.lo i hi; omega, fun e => by have := (h.ep hi e).1; omega⟩
theorem zZ.new {w wo : World} {g0 n k : Nat} {t : ax} (h : zZ w wo g0 n k t) :
  ∃ A kv, A k = wo.heap.size ∧ OV w ((wo.alloc (.cells #[.string (gs t.ns k), .slice none 0 0, .int .i64 k] 127)).setCell ⟨g0, k, none⟩ (.pointer (some ⟨wo.heap.size, 0, none⟩))) g0 n k t A kv := by
 obtain ⟨eC, A, kv, hF, hrow⟩ := h
 have hg0 := hrow.lt
 have hF2 := hF.AP (by omega) (gs t.ns k) k
 refine ⟨upd A k wo.heap.size, upd kv k (.slice none 0 0), upd_same _ _ _, (eC.alloc (by omega) _).setCell (p := ⟨g0, k, none⟩) (Nat.le_refl _) _, ?_, ?_⟩
 ·have xB := hF2.congr (F' := OU t k) fun i hi => by
   refine ⟨?_, ?_, rfl⟩
   ·by_cases e : i = k
    ·subst e; exact (upd_same _ _ _).symm
    ·exact (upd_ne _ _ e).symm
   ·by_cases e : i = k
    ·subst e; exact (upd_same _ _ _).symm
    ·exact (upd_ne _ _ e).symm
  exact xB.same (fun i hi => blk_setCell_other _ _ _ _ (xB.far hi).1) fun i b hi hb => blk_setCell_other _ _ _ _ (fun e2 => (xB.far hi).2 (by rw [hb]; exact congrArg some e2))
 ·refine ((hrow.alloc _).set k _).congr fun i hi => ?_
  by_cases e : i = k
  ·subst e; rw [if_pos rfl, if_pos (by omega)]; unfold aL; rw [upd_same]
  ·rw [if_neg e]
   by_cases e2 : i < k
   ·rw [if_pos e2, if_pos (by omega)]; unfold aL; rw [upd_ne _ _ e]
   ·rw [if_neg e2, if_neg (by omega)]
theorem MN (ps : List Int) (k : Nat) : cG ps k k = [] := by
 unfold cG
 refine List.filter_eq_nil_iff.2 fun i hi => ?_
 have := List.mem_range.1 hi
 simp; omega
theorem o5 (t : ax) (k i : Nat) : (OU t k).kids i = cG t.ps i k := by
 show upd (fun i => cG t.ps i k) k [] i = _
 by_cases e : i = k
 ·subst e; rw [upd_same, MN]
 ·rw [upd_ne _ _ e]
theorem OV.root {w wr : World} {g0 n k : Nat} {t : ax} {A : Nat → Nat} {kv : Nat → Value} (h : OV w wr g0 n k t A kv) (hp : gi t.ps k < 0) : zZ w wr g0 n (k + 1) t := by
 refine ⟨h.up, A, kv, h.fr.congr fun i hi => ⟨rfl, rfl, ?_⟩, h.row⟩
 rw [o5]
 show cG t.ps i (k + 1) = _
 rw [jU, if_neg (by omega), List.append_nil]
theorem OV.push {w wr w' : World} {g0 n k p : Nat} {t : ax} {A : Nat → Nat} {kv : Nat → Value} (h : OV w wr g0 n k t A kv) (hpk : p < k) (hp : gi t.ps k = p) {v : Value}
  (hv : aA (g0 + 1) 124 w' v ((cG t.ps p k).map (aL A) ++ [aL A k])) (hg : wr.grownBy w' (kv p).ownBlock) (hb : ∀ b, v.ownBlock = some b → (kv p).ownBlock = some b ∨ wr.heap.size ≤ b) :
  zZ w (w'.setCell ⟨A p, 1, none⟩ v) g0 n (k + 1) t := by
 have hF := h.fr.push (k := p) (c := k) (v := v) (by omega) (by omega) (by rw [o5, List.map_append]; exact hv) hg hb
 have hlo := h.fr.lo p (by omega)
 have hrl := h.row.lt
 refine ⟨?_, A, upd kv p v, hF.congr fun i hi => ⟨rfl, rfl, ?_⟩, ?_⟩
 ·have h1 : Below (g0 + 1) wr w' := (h.fr.own p (by omega)).dJ hg (by omega)
  exact (Below.trans h.up (h1.mono (by omega))).setCell (p := ⟨A p, 1, none⟩) (by show g0 ≤ A p; omega) _
 ·show cG t.ps i (k + 1) = upd (OU t k).kids p ((OU t k).kids p ++ [k]) i
  rw [jU, o5]
  by_cases e : i = p
  ·subst e; rw [upd_same, if_pos ⟨hpk, hp⟩]
  ·rw [upd_ne _ _ e, if_neg (by omega), List.append_nil, o5]
 ·have hne : g0 ≠ A p := fun e => (h.fr.far (i := p) (by omega)).1 e.symm
  refine (h.row.of_block ?_).setOther (a := ⟨A p, 1, none⟩) hne v
  exact hg.block g0 hrl (fun e => (h.fr.far (i := p) (by omega)).2 e.symm)
theorem aS.V6 {base base' n : Nat} {A : Nat → Nat} {kv : Nat → Value} {F : aP} {w : World} (h : aS base n A kv F w) (hb : base' ≤ base) : aS base' n A kv F w :=
 ⟨h.node, fun i hi => Nat.le_trans hb (h.lo i hi), h.inj, fun i hi => (h.own i hi).tQ hb, h.apart, h.alone, h.kid⟩
def OW (w : World) (t : ax) (e : Ending) (w' : World) : Prop :=
 Up w w' ∧ ∃ g A kv, e = .returned (.slice (some ⟨g, 0, none⟩) t.ps.length t.ps.length) ∧ aS w.heap.size t.ps.length A kv (dy t) w' ∧ w'.rowIs g 124 t.ps.length (aL A)
set_option maxHeartbeats 2000000 in
theorem V7 (S : Nat → Prop) (w : World) (v : Value) (t : ax) (hT : aC S w v t) (hp : t.ps.length ≤ 1000) (hn : t.ns.length = t.ps.length) (hok : iJ t.ps = true) (hz : ∀ k, (gs t.ns k).size ≤ 70000) :
  Calls Tryz.prog 100 #[v] w (OW w t) := by
 obtain ⟨P, N, rfl, hP, hN⟩ := hT
 obtain ⟨pP, ir, rfl, hcapP, _⟩ := aD.open hP
 have hP : aB S w (.slice pP t.ps.length ir) t.ps := hP
 obtain ⟨pN, iu, rfl, hcapN, _⟩ := aD.open hN
 have hN : av S w (.slice pN t.ns.length iu) t.ns := hN
 have hmk := fun W => run_make_row' (P := Tryz.prog) 125 124 (.pointer none) 8 Tryz.underlying125 Tryz.nX rfl .i64 .i64 t.ps.length (by omega) (by omega) W
 have hu := Up.alloc w (.cells #[.slice pP t.ps.length ir, .slice pN t.ns.length iu] 39)
 have hb0 := ew w (.slice pP t.ps.length ir) (.slice pN t.ns.length iu) 39
 have hb1 := ey w (.slice pP t.ps.length ir) (.slice pN t.ns.length iu) 39
 have aK := Up.alloc (w.alloc (.cells #[.slice pP t.ps.length ir, .slice pN t.ns.length iu] 39)) (.cells (madeCells #[.pointer none] t.ps.length) 124)
 have HW : Hid (zZ ((w.alloc (.cells #[.slice pP t.ps.length ir, .slice pN t.ns.length iu] 39)).alloc (.cells (madeCells #[.pointer none] t.ps.length) 124)) ((w.alloc (.cells #[.slice pP t.ps.length ir, .slice pN t.ns.length iu] 39)).alloc (.cells (madeCells #[.pointer none] t.ps.length) 124)) (w.heap.size + 1) t.ps.length 0 t) := by
  refine ⟨Below.refl _ _, fun _ => 0, fun _ => .slice none 0 0, aS.empty _ _ _ _ _, ?_⟩
  have h := World.rowIs_made (w.alloc (.cells #[.slice pP t.ps.length ir, .slice pN t.ns.length iu] 39)) (.pointer none) t.ps.length 124
  simp only [World.size_alloc] at h
  exact h
 have jC := aa (hu.trans aK)
 have hsz : w.heap.size + 1 + 1 = ((w.alloc (.cells #[.slice pP t.ps.length ir, .slice pN t.ns.length iu] 39)).alloc (.cells (madeCells #[.pointer none] t.ps.length) 124)).heap.size := by simp
 have bQ := aa hsz
 have jo := aa (aK.cell hb0)
 have iq := aa (aK.cell hb1)
 have HP := aa hP
 have HN := aa hN
 have Yk := aa hz
 have xC := aa hok
 have eT := aa hn
 have hnl : (t.ps.length : Int) ≤ (t.ns.length : Int) := by omega
 clear hsz hu hb0 hb1 aK hP hN hz hok hn
 go_enter Tryz.func100, Tryz.ntmps100
 go_wp2_with fail
 generalize (w.alloc (.cells #[.slice pP t.ps.length ir, .slice pN t.ns.length iu] 39)).alloc (.cells (madeCells #[.pointer none] t.ps.length) 124) = w1 at *
 go_loopw [13] (fun i wr => ∃ k : Nat, k ≤ t.ps.length ∧ i = .int .i64 k ∧ Hid (zZ w1 wr (w.heap.size + 1) t.ps.length k t)) (fun i _ => t.ps.length - (intOf i).toNat)
 case atStart => exact ⟨0, Nat.zero_le _, rfl, HW⟩
 case round =>
  obtain ⟨k, hk, rfl, hO⟩ := hrel
  obtain ⟨wo, rfl⟩ : ∃ wo : World, wo = wr := ⟨_, rfl⟩
  by_cases hlt : k < t.ps.length
  ·obtain ⟨eC, A, kv, hF, hrow⟩ := hO.out
   have hc0 : wo.cell? ⟨w.heap.size, 0, none⟩ = some (.slice pP t.ps.length ir) := by rw [eC.cell (p := ⟨w.heap.size, 0, none⟩) (Nat.lt_succ_self _)]; exact jo.out
   have hc1 : wo.cell? ⟨w.heap.size, 1, none⟩ = some (.slice pN t.ns.length iu) := by rw [eC.cell (p := ⟨w.heap.size, 1, none⟩) (Nat.lt_succ_self _)]; exact iq.out
   have GY : Up w wo := Below.trans jC.out (eC.mono (Nat.le_succ _))
   obtain ⟨bP, oP, rfl, kQ⟩ := eE (aB.keep HP.out (GY.kept S)) hlt
   obtain ⟨bN, oN, rfl, qY⟩ := cu (av.keep HN.out (GY.kept S)) (k := k) (by rw [eT.out]; exact hlt)
   have HX := aa hO.out.new
   have Yl : (wo.alloc (.cells #[.string (gs t.ns k), .slice none 0 0, .int .i64 k] 127)).cell? ⟨w.heap.size + 1, k, none⟩ = some (.pointer none) := by
    have h := (hrow.alloc (.cells #[.string (gs t.ns k), .slice none 0 0, .int .i64 k] 127)).cell hlt
    rw [h, if_neg (Nat.lt_irrefl k)]
   have hfo : (wo.alloc (.cells #[.string (gs t.ns k), .slice none 0 0, .int .i64 k] 127)).frozen? ⟨w.heap.size + 1, k, none⟩ = false := (hrow.alloc _).frozen k
   clear hF hrow eC GY hO
   have h0 : gi t.ps k < k ∧ (0 < k → 0 ≤ gi t.ps k) ∧ (k = 0 → gi t.ps k = -1) := BH xC.out hlt
   by_cases ni : 0 ≤ gi t.ps k
   ·obtain ⟨p, GZ⟩ := Int.eq_ofNat_of_zero_le ni
    have hpk : p < k := by omega
    rw [GZ] at kQ
    have d1 : decide ((0 : Int) ≤ (p : Int)) = true := by simp
    have xy := aa GZ
    clear h0 ni GZ
    go_wp2_with fail
    generalize (wo.alloc (.cells #[.string (gs t.ns k), .slice none 0 0, .int .i64 k] 127)).setCell ⟨w.heap.size + 1, k, none⟩ (.pointer (some ⟨wo.heap.size, 0, none⟩)) = w2 at *
    obtain ⟨A, kv, hAk, hX⟩ := HX.out
    have hr1 : w2.cell? ⟨w.heap.size + 1, p, none⟩ = some (.pointer (some ⟨A p, 0, none⟩)) := by
     have h := hX.row.cell (i := p) (by omega)
     rw [if_pos (by omega)] at h; exact h
    have hr2 : w2.cell? ⟨w.heap.size + 1, k, none⟩ = some (.pointer (some ⟨A k, 0, none⟩)) := by
     have h := hX.row.cell (i := k) hlt
     rw [if_pos (by omega)] at h; exact h
    have Ym : Hid (aL A k = .pointer (some ⟨wo.heap.size, 0, none⟩)) := by unfold Hid aL; rw [hAk]
    rw [hAk] at hr2
    have hkc := hX.fr.je (i := p) (by omega)
    have hfz := hX.fr.thaw (i := p) (by omega) 1
    have AR : Hid (aA (w.heap.size + 1 + 1) 124 w2 (kv p) ((cG t.ps p k).map (aL A))) := by have h := hX.fr.own p (by omega); rw [o5] at h; exact h
    have K9 := aa hX
    have G0 : Hid (A p ≠ w.heap.size + 1 ∧ (kv p).ownBlock ≠ some (w.heap.size + 1) ∧ (kv p).ownBlock ≠ some (A p) ∧ w.heap.size + 1 < w2.heap.size ∧ A p < w2.heap.size) := ⟨(hX.fr.far (by omega)).1, (hX.fr.far (by omega)).2, hX.fr.apart p p (by omega) (by omega), hX.row.lt, hX.fr.lt (by omega)⟩
    have i0 : (0 : Int) ≤ (p : Int) := by omega
    have i1 : (p : Int) < (t.ps.length : Int) := by omega
    have i2 : (0 : Int) ≤ (k : Int) := by omega
    have i3 : (k : Int) < (t.ps.length : Int) := by omega
    have iT : Hid (((cG t.ps p k).map (aL A)).length ≤ 1000000) := by unfold Hid; rw [List.length_map]; have := qu t.ps p k; omega
    have BX : Hid (∀ g cap w', aA (w.heap.size + 1 + 1) 124 w' (.slice (some ⟨g, 0, none⟩) (((cG t.ps p k).map (aL A)).length + 1) cap) ((cG t.ps p k).map (aL A) ++ [.pointer (some ⟨wo.heap.size, 0, none⟩)]) → w2.grownBy w' (kv p).ownBlock → ((kv p).ownBlock = some g ∨ w2.heap.size ≤ g) → zZ w1 (w'.setCell ⟨A p, 1, none⟩ (.slice (some ⟨g, 0, none⟩) (((cG t.ps p k).map (aL A)).length + 1) cap)) (w.heap.size + 1) t.ps.length (k + 1) t) := fun g cap w' h1 h2 h3 => hX.push hpk xy.out (by rw [Ym.out]; exact h1) h2 (fun b hb => by cases hb; exact h3)
    clear hAk hX HX Yl hfo kQ qY hc0 hc1
    generalize aL A = na at *
    generalize hap : A p = ap at *
    generalize wo.heap.size = ak at *
    generalize kv p = ov at *
    generalize List.map na (cG t.ps p k) = vs at *
    have R2 : Hid (aA (w.heap.size + 1 + 1) 124 (w2.alloc (.cells #[.pointer (some ⟨ak, 0, none⟩)] 124)).drew ov vs) := AR.out.alloc _
    have nu : Hid ((w2.alloc (.cells #[.pointer (some ⟨ak, 0, none⟩)] 124)).drew.cell? ⟨w2.heap.size, 0, none⟩ = some (.pointer (some ⟨ak, 0, none⟩))) := aT _ _ _ 0
    have jq : Hid (w.heap.size + 1 + 1 ≤ (w2.alloc (.cells #[.pointer (some ⟨ak, 0, none⟩)] 124)).drew.heap.size) := by
     have := G0.out.2.2.2.1
     show _ ≤ (w2.alloc _).heap.size
     rw [World.size_alloc]; omega
    have G1 : Hid (∀ (w' : World), (w2.alloc (.cells #[.pointer (some ⟨ak, 0, none⟩)] 124)).drew.grownBy w' ov.ownBlock → w'.cell? ⟨w.heap.size + 1, p, none⟩ = some (.pointer (some ⟨ap, 0, none⟩)) ∧ w'.cell? ⟨w.heap.size + 1, k, none⟩ = some (.pointer (some ⟨ak, 0, none⟩)) ∧ w'.cell? ⟨ap, 1, none⟩ = some ov ∧ w'.frozen? ⟨ap, 1, none⟩ = false) := fun w' hg => by
     obtain ⟨q1, q2, q3, q4, q5⟩ := G0.out
     have hl : ∀ b, b < w2.heap.size → b < (w2.alloc (.cells #[.pointer (some ⟨ak, 0, none⟩)] 124)).drew.heap.size := fun b hb => by show b < (w2.alloc _).heap.size; rw [World.size_alloc]; omega
     have hu := Up.alloc w2 (.cells #[.pointer (some ⟨ak, 0, none⟩)] 124)
     refine ⟨?_, ?_, ?_, ?_⟩
     ·rw [hg.cell_far _ (hl _ q4) (Ne.symm q2)]; exact hu.cell hr1
     ·rw [hg.cell_far _ (hl _ q4) (Ne.symm q2)]; exact hu.cell hr2
     ·rw [hg.cell_far _ (hl _ q5) (Ne.symm q3)]; exact hu.cell hkc
     ·rw [hg.frozen_far _ (hl _ q5) (Ne.symm q3)]; exact (Below.frozen hu (p := ⟨ap, 1, none⟩) q5).trans hfz
    have hr1a := (Up.alloc w2 (.cells #[.pointer (some ⟨ak, 0, none⟩)] 124)).cell hr1
    have hr2a := (Up.alloc w2 (.cells #[.pointer (some ⟨ak, 0, none⟩)] 124)).cell hr2
    have hkca := (Up.alloc w2 (.cells #[.pointer (some ⟨ak, 0, none⟩)] 124)).cell hkc
    clear K9
    refine cU (by kernel_rfl) 20 (fun w' => w'.cell? ⟨w.heap.size + 1, p, none⟩ = some (.pointer (some ⟨ap, 0, none⟩)) ∧ w'.cell? ⟨w.heap.size + 1, k, none⟩ = some (.pointer (some ⟨ak, 0, none⟩)) ∧ w'.cell? ⟨ap, 1, none⟩ = some ov) ⟨hr1, hr2, hkc⟩ (fun hS => ?_)
    simp only [List.size_toArray, List.length_cons, List.length_nil, Nat.reduceAdd, Array.replicate_succ, Array.replicate_zero, List.push_toArray, List.nil_append, List.cons_append]
    refine af.take (i := 0) (v := ?OX) rfl (by kernel_rfl) (fun _ _ _ h => h) (by rfl) (fun w hSw => ?yu) hS ?OY
    case yu =>
     (try dsimp only at hSw)
     go_simp
     try with_reducible rfl
    try simp only [Act.put, aq, ah, au]
    refine af.take (i := 1) (v := ?OZ) rfl (by kernel_rfl) (fun _ _ _ h => h) (by rfl) (fun w hSw => ?yw) hS ?O0
    case yw =>
     (try dsimp only at hSw)
     go_simp
     try with_reducible rfl
    try simp only [Act.put, aq, ah, au]
    refine af.take (i := 2) (v := ?O1) rfl (by kernel_rfl) (fun _ _ _ h => h) (by rfl) (fun w hSw => ?yx) hS ?O2
    case yx =>
     (try dsimp only at hSw)
     go_simp
     try with_reducible rfl
    try simp only [Act.put, aq, ah, au]
    refine af.take (i := 3) (v := ?Yn) rfl (by kernel_rfl) (fun _ _ _ h => h) (by rfl) (fun w hSw => ?G2) hS ?Yo
    case G2 =>
     (try dsimp only at hSw)
     go_simp
     try with_reducible rfl
    try simp only [Act.put, aq, ah, au]
    refine af.take (i := 4) (v := ?Yp) rfl (by kernel_rfl) (fun _ _ _ h => h) (by rfl) (fun w hSw => ?G3) hS ?Yq
    case G3 =>
     (try dsimp only at hSw)
     go_simp
     try with_reducible rfl
    try simp only [Act.put, aq, ah, au]
    refine af.take (i := 5) (v := ?Yr) rfl (by kernel_rfl) (fun _ _ _ h => h) (by rfl) (fun w hSw => ?G4) hS ?Yt
    case G4 =>
     (try dsimp only at hSw)
     go_simp
     try with_reducible rfl
    try simp only [Act.put, aq, ah, au]
    refine af.take (i := 6) (v := ?Yu) rfl (by kernel_rfl) (fun _ _ _ h => h) (by rfl) (fun w hSw => ?G5) hS ?Yv
    case G5 =>
     (try dsimp only at hSw)
     go_simp
     try with_reducible rfl
    try simp only [Act.put, aq, ah, au]
    refine af.take (i := 7) (v := ?Ut) rfl (by kernel_rfl) (fun _ _ _ h => h) (by rfl) (fun w hSw => ?BZ) hS ?Uu
    case BZ =>
     (try dsimp only at hSw)
     go_simp
     try with_reducible rfl
    try simp only [Act.put, aq, ah, au]
    refine af.take (i := 8) (v := ?Uv) rfl (by kernel_rfl) (fun _ _ _ h => h) (by rfl) (fun w hSw => ?B1) hS ?Uw
    case B1 =>
     (try dsimp only at hSw)
     go_simp
     try with_reducible rfl
    try simp only [Act.put, aq, ah, au]
    refine af.take (i := 9) (v := ?Ux) rfl (by kernel_rfl) (fun _ _ _ h => h) (by rfl) (fun w hSw => ?B2) hS ?Uy
    case B2 =>
     (try dsimp only at hSw)
     go_simp
     try with_reducible rfl
    try simp only [Act.put, aq, ah, au]
    refine af.take (i := 10) (v := ?R3) rfl (by kernel_rfl) (fun _ _ _ h => h) (by rfl) (fun w hSw => ?AU) hS ?R4
    case AU =>
     (try dsimp only at hSw)
     go_simp
     try with_reducible rfl
    try simp only [Act.put, aq, ah, au]
    refine af.take (i := 11) (v := ?Yw) rfl (by kernel_rfl) (fun _ _ _ h => h) (by rfl) (fun w hSw => ?G6) hS ?Yx
    case G6 =>
     (try dsimp only at hSw)
     go_simp
     try with_reducible rfl
    try simp only [Act.put, aq, ah, au]
    refine af.take (i := 12) (v := ?Yy) rfl (by kernel_rfl) (fun _ _ _ h => h) (by rfl) (fun w hSw => ?G7) hS ?Yz
    case G7 =>
     (try dsimp only at hSw)
     go_simp
     try with_reducible rfl
    try simp only [Act.put, aq, ah, au]
    refine af.take (i := 13) (v := ?YA) rfl (by kernel_rfl) (fun _ _ _ h => h) (by rfl) (fun w hSw => ?G8) hS ?YB
    case G8 =>
     (try dsimp only at hSw)
     go_simp
     try with_reducible rfl
    try simp only [Act.put, aq, ah, au]
    refine af.take (i := 14) (v := ?YC) rfl (by kernel_rfl) (fun _ _ _ h => h) (by rfl) (fun w hSw => ?G9) hS ?YD
    case G9 =>
     (try dsimp only at hSw)
     go_simp
     try with_reducible rfl
    try simp only [Act.put, aq, ah, au]
    refine af.step (i := 15) rfl (by kernel_rfl) (fun K' hK => ?_)
    go_simp
    refine hK.out _ _ (fun _ => ⟨(Up.alloc _ _).cell hr1, (Up.alloc _ _).cell hr2, (Up.alloc _ _).cell hkc⟩) (fun hS => ?_)
    try simp only [aq, ah, au]
    refine af.step (i := 16) rfl (by kernel_rfl) (fun K' hK => ?_)
    refine gy (by rfl) _ _ _ (by rfl) (w.heap.size + 1 + 1) 124 _ 8 Tryz.underlying125 Tryz.nX (by rfl) (by decide) (by rfl) R2.out (.pointer (some ⟨ak, 0, none⟩)) w2.heap.size (by rfl) nu.out (by rfl) iT.out jq.out ?_
    intro g cap w4 tS hg4 yy He
    obtain ⟨R5, R6, R7, hfz4⟩ := G1.out w4 hg4
    have MO := aa tS
    have O3 := aa (mP hg4)
    have R8 := aa yy
    clear tS hg4 yy He
    refine hK.out _ _ (fun _ => ⟨R5, R6, R7⟩) (fun hS => ?_)
    replace hS := hS ⟨19, by decide, rfl⟩
    try simp only [Act.put, aq, ah, au]
    refine af.take (i := 17) (v := ?gv17) rfl (by kernel_rfl) (fun _ _ _ h => h) (by rfl) (fun w hSw => ?R9) hS ?gr17
    case R9 =>
     (try dsimp only at hSw)
     go_simp
     try with_reducible rfl
    try simp only [Act.put, aq, ah, au]
    refine af.take (i := 18) (v := ?gv18) rfl (by kernel_rfl) (fun _ _ _ h => h) (by rfl) (fun w hSw => ?Sa) hS ?gr18
    case Sa =>
     (try dsimp only at hSw)
     go_simp
     try with_reducible rfl
    try simp only [Act.put, aq, ah, au]
    refine af.step (i := 19) rfl (by kernel_rfl) (fun K' hK => ?_)
    go_simp
    refine hK.out _ _ (aJ (by kernel_rfl)) (fun hS => ?_)
    refine af.done (by kernel_rfl) ?_
    go_wp2_with fail
    go_roundw
    case rel =>
     refine ⟨k + 1, by omega, by go_num, BX.out g cap w4 MO.out O3.out ?_⟩
     rcases R8.out with h | h
     ·exact .inl h
     ·refine .inr ?_
      rw [h]; exact Nat.le_trans (Nat.le_succ _) (Nat.le_of_eq (World.size_alloc _ _).symm)
    case measure => simp [intOf]; omega
   ·have xy : Hid (gi t.ps k < 0) := by unfold Hid; omega
    have d1 : decide ((0 : Int) ≤ gi t.ps k) = false := by simpa using ni
    clear h0 ni
    go_wp2_with fail
    go_roundw
    case rel =>
     obtain ⟨A', kv', _, hX⟩ := HX.out
     exact ⟨k + 1, by omega, by go_num, hX.root xy.out⟩
    case measure => simp [intOf]; omega
  ·obtain rfl : k = t.ps.length := by omega
   go_wp2_with fail
   go_ret
   obtain ⟨eC, A, kv, hF, hrow⟩ := hO.out
   exact ⟨Below.trans jC.out (eC.mono (Nat.le_succ _)), _, A, kv, rfl, hF.V6 (by omega), hrow.congr fun i hi => by rw [if_pos hi]⟩
end
section
open Go.RowKit Go.Deep
end
section
open Go.RowKit Go.Deep
set_option maxHeartbeats 2000000 in
theorem Hf (S T : Nat → Prop) (w : World) (v u : Value) (t : ax) (h : aC S w v t) (h2 : aC T w u t) (hp : t.ps.length ≤ 1000000) (hn : t.ns.length ≤ 1000000) :
  Calls Tryz.prog 44 #[v, u] w fun e w' => e = .returned (.bool true) ∧ Up w w' := by
 obtain ⟨P, N, rfl, hP, hN⟩ := h
 obtain ⟨P2, N2, rfl, fP, fQ⟩ := h2
 obtain ⟨pp, pc, rfl, _, _⟩ := aD.open hP
 obtain ⟨np, nc, rfl, _, _⟩ := aD.open hN
 obtain ⟨nA, nB, rfl, _, _⟩ := aD.open fP
 obtain ⟨nC, nD, rfl, _, _⟩ := aD.open fQ
 have hP : aB S w (.slice pp t.ps.length pc) t.ps := hP
 have hN : av S w (.slice np t.ns.length nc) t.ns := hN
 have fP : aB T w (.slice nA t.ps.length nB) t.ps := fP
 have fQ : av T w (.slice nC t.ns.length nD) t.ns := fQ
 have aX := Up.alloc w (.cells #[.slice pp t.ps.length pc, .slice np t.ns.length nc] 39)
 have aK := Up.alloc (w.alloc (.cells #[.slice pp t.ps.length pc, .slice np t.ns.length nc] 39)) (.cells #[.slice nA t.ps.length nB, .slice nC t.ns.length nD] 39)
 have hu := aX.trans aK
 have a0 := aK.cell (ew w (.slice pp t.ps.length pc) (.slice np t.ns.length nc) 39)
 have a1 := aK.cell (ey w (.slice pp t.ps.length pc) (.slice np t.ns.length nc) 39)
 have b0 := ew (w.alloc (.cells #[.slice pp t.ps.length pc, .slice np t.ns.length nc] 39)) (.slice nA t.ps.length nB) (.slice nC t.ns.length nD) 39
 have b1 := ey (w.alloc (.cells #[.slice pp t.ps.length pc, .slice np t.ns.length nc] 39)) (.slice nA t.ps.length nB) (.slice nC t.ns.length nD) 39
 rw [World.size_alloc] at b0 b1
 have HP := aa (aB.keep hP (hu.kept S))
 have HN := aa (av.keep hN (hu.kept S))
 have Hg := aa (aB.keep fP (hu.kept T))
 have B3 := aa (av.keep fQ (hu.kept T))
 have HU := aa hu
 have A0 := aa a0
 have A1 := aa a1
 have YE := aa b0
 have YF := aa b1
 have d0 : ((t.ps.length : Int) != (t.ps.length : Int)) = false := by simp
 have d1 : ((t.ns.length : Int) != (t.ns.length : Int)) = false := by simp
 clear hP hN fP fQ hu aX aK
 go_enter Tryz.func44, Tryz.ntmps44
 go_wp2_with fail
 clear a0 a1 b0 b1
 generalize (w.alloc (.cells #[.slice pp t.ps.length pc, .slice np t.ns.length nc] 39)).alloc (.cells #[.slice nA t.ps.length nB, .slice nC t.ns.length nD] 39) = w1 at *
 go_loopw [5] (fun i wr => ∃ k : Nat, k ≤ t.ps.length ∧ i = .int .i64 k ∧ Hid (QD w1 wr)) (fun i _ => t.ps.length - (intOf i).toNat)
 case atStart => exact ⟨0, Nat.zero_le _, rfl, QD.refl _⟩
 case round =>
  obtain ⟨k, hk, rfl, hQ⟩ := hrel
  have a0 := hQ.out.up.cell A0.out
  have b0 := hQ.out.up.cell YE.out
  by_cases hlt : k < t.ps.length
  ·obtain ⟨b, off, rfl, hc⟩ := eE (aB.keep HP.out (hQ.out.kept S)) hlt
   obtain ⟨b2, off2, rfl, hc2⟩ := eE (aB.keep Hg.out (hQ.out.kept T)) hlt
   have i1 : (0 : Int) ≤ (k : Int) := by omega
   have i2 : (k : Int) < (t.ps.length : Int) := by omega
   generalize gi t.ps k = x at *
   have j1 : (x != x) = false := by simp
   go_wp2_with fail
   go_quiet (fail)
   go_wp2_with fail
   go_roundw
   case rel => exact ⟨k + 1, by omega, by go_num, hQ.out.drewN nq⟩
   case measure => simp [intOf]; omega
  ·obtain rfl : k = t.ps.length := by omega
   have YG := aa hQ.out
   clear hlt hk
   go_wp2_with fail
   go_loopw [6] (fun i wr => ∃ k : Nat, k ≤ t.ns.length ∧ i = .int .i64 k ∧ Hid (QD w1 wr)) (fun i _ => t.ns.length - (intOf i).toNat)
   case atStart => exact ⟨0, Nat.zero_le _, rfl, YG.out⟩
   case round =>
    obtain ⟨k, hk, rfl, hQ⟩ := hrel
    have a1 := hQ.out.up.cell A1.out
    have b1 := hQ.out.up.cell YF.out
    by_cases hlt : k < t.ns.length
    ·obtain ⟨b, off, rfl, hc⟩ := cu (av.keep HN.out (hQ.out.kept S)) hlt
     obtain ⟨b2, off2, rfl, hc2⟩ := cu (av.keep B3.out (hQ.out.kept T)) hlt
     have i1 : (0 : Int) ≤ (k : Int) := by omega
     have i2 : (k : Int) < (t.ns.length : Int) := by omega
     generalize gs t.ns k = x at *
     have j1 : (x.toList == x.toList) = true := by simp
     go_wp2_with fail
     go_quiet (fail)
     go_wp2_with fail
     go_roundw
     case rel => exact ⟨k + 1, by omega, by go_num, hQ.out.drewN nq⟩
     case measure => simp [intOf]; omega
    ·obtain rfl : k = t.ns.length := by omega
     clear hlt hk
     go_wp2_with fail
     go_ret
     exact ⟨rfl, HU.out.trans hQ.out.up⟩
end
section
open Go.RowKit Go.Shelf Go.Deep
attribute [local go_sem] Oper.semAt_some
end
section
open Go.RowKit Go.Shelf Go.Deep
end
section
open Go.RowKit Go.Deep
end
section
open Go.RowKit Go.Deep
end
end Go.Proofs.YteegefnjnikngaaGreat
namespace Go.Proofs
open Go.Shelf
def Tryz.compactZ_ren : Go.Shelf.Ren := ⟨fun | 20 => 77 | n => n, fun | 22 => 26 | 3 => 3 | 4 => 4 | 0 => 0 | n => n, fun | n => n⟩
theorem Tryz.compactZ : Go.Proofs.Lays2.n20 Tryz.prog Tryz.compactZ_ren := {
 mixed := by kernel_rfl
 f20 := Tryz.func77.trans (congrArg some (by kernel_rfl))
 t0 := Tryz.underlying0
 a0 := Tryz.isAgg0
 z0 := Tryz.sizeOf0
 v0 := Tryz.zeroValue0
 t3 := Tryz.underlying3
 a3 := Tryz.isAgg3
 z3 := Tryz.sizeOf3
 v3 := Tryz.zeroValue3
 t4 := Tryz.underlying4
 a4 := Tryz.isAgg4
 z4 := Tryz.sizeOf4
 v4 := Tryz.zeroValue4
 t22 := Tryz.underlying26
 a22 := Tryz.isAgg26
 z22 := Tryz.sizeOf26
 v22 := Tryz.zeroValue26
 i3 := by kernel_rfl }
end Go.Proofs
namespace Go.Proofs.YteegefnjnikngaaGreat
section
open Go.RowKit Go.Shelf Go.Deep Go.Sort
theorem Kv {w : World} {g n : Nat} (d : Array Int) : w.grownBy (putRow (Value.int .i64) (Sort.ahead w n) g 0 d) (some g) := by
 refine ⟨rfl, rfl, rfl, by simp [putRow, mapBlock, Sort.ahead], fun k hk hne => ?_⟩
 have : g ≠ k := fun e => hne (by rw [e])
 simp [putRow, mapBlock, Sort.ahead, Array.getElem?_modify, this]
theorem O4 (w w1 : World) (v : Value) (xs : List Int) (hu : Up w w1) (ho : aA w.heap.size 3 w1 v (xs.map (Value.int .i64))) (hlen : xs.length ≤ 1000000) :
  Calls Tryz.prog 77 #[v] w1 fun e w' => (∃ p cap, e = .returned (.slice p (Lib.compact xs).length cap)) ∧ Up w w' := by
 rcases ho.2 with ⟨rfl, h0⟩ | ⟨g, cap, cur, rfl, hg, hc, hn, hcm, hcs, ht⟩
 ·have hx : xs = [] := by cases xs with | nil => rfl | cons _ _ => simp at h0
  subst hx
  refine (Any.slices_Compact_int_empty Tryz.compactZ none 0 w1).mono ?_
  rintro e w' ⟨rfl, rfl⟩
  exact ⟨⟨_, _, rfl⟩, hu⟩
 ·simp only [List.length_map] at hn ht ho ⊢
  refine (Any.slices_Compact_int Tryz.compactZ g 0 cap xs w1 (holds_of_blockI hc (by simpa using ht)) (by omega) (by omega)).mono ?_
  rintro e w' ⟨rfl, q, rfl⟩
  exact ⟨⟨_, _, rfl⟩, Below.grown hu (Kv _) hu.size (fun j hj => by cases hj; exact hg)⟩
end
section
open Go
theorem lM (l : List Int) (j : Nat) : l.toArray[j]! = gi l j := by
 unfold gi
 by_cases h : j < l.length
 ·simp [h]
 ·simp [h]
theorem uD (l : List Int) (x : Int) : ∀ m, x ∈ Lib.compactUpTo l.toArray m ↔ ∃ j, j < m ∧ gi l j = x
 | 0 => by simp [Lib.compactUpTo]
 | m + 1 => by
  rw [Lib.compactUpTo_succ, List.mem_append, uD l x m, lM]
  constructor
  ·rintro (⟨j, hj, e⟩ | h)
   ·exact ⟨j, by omega, e⟩
   ·by_cases hk : Lib.keeps l.toArray m = true
    ·rw [if_pos hk] at h; exact ⟨m, by omega, (List.mem_singleton.1 h).symm⟩
    ·rw [if_neg hk] at h; cases h
  ·rintro ⟨j, hj, e⟩
   by_cases hjm : j = m
   ·subst hjm
    by_cases hk : Lib.keeps l.toArray j = true
    ·rw [if_pos hk]; exact .inr (by simp [e])
    ·unfold Lib.keeps at hk
     rw [lM, lM] at hk
     simp only [decide_eq_true_eq, not_or, ne_eq, Classical.not_not] at hk
     exact .inl ⟨j - 1, by omega, by rw [← hk.2]; exact e⟩
   ·exact .inl ⟨j, by omega, e⟩
theorem xD {l : List Int} (hs : ∀ i j, i < j → j < l.length → gi l i ≤ gi l j) : ∀ m, m ≤ l.length → (Lib.compactUpTo l.toArray m).Nodup
 | 0, _ => by simp [Lib.compactUpTo]
 | m + 1, h => by
  rw [Lib.compactUpTo_succ, List.nodup_append]
  refine ⟨xD hs m (by omega), by split <;> simp, fun a ha b hb e => ?_⟩
  subst e
  obtain ⟨j, hj, e⟩ := (uD l a m).1 ha
  by_cases hk : Lib.keeps l.toArray m = true
  ·rw [if_pos hk, lM] at hb
   have hb : a = gi l m := by simpa using hb
   unfold Lib.keeps at hk
   rw [lM, lM] at hk
   simp only [decide_eq_true_eq, ne_eq] at hk
   have hne : gi l m ≠ gi l (m - 1) := hk.resolve_left (by omega)
   have h1 : gi l j ≤ gi l (m - 1) := by
    by_cases e2 : j = m - 1
    ·rw [e2]; exact Int.le_refl _
    ·exact hs j (m - 1) (by omega) (by omega)
   have h2 := hs (m - 1) m (by omega) (by omega)
   omega
  ·rw [if_neg hk] at hb; cases hb
theorem Sb (xs : List Int) : ∀ i j, i < j → j < (jw xs).length → gi (jw xs) i ≤ gi (jw xs) j := fun i j hij hj => by
 have hp : (jw xs).Pairwise fun a b => decide (a ≤ b) = true := List.pairwise_mergeSort (le := fun x y => decide (x ≤ y)) (fun a b c h1 h2 => by simp at *; omega) (fun a b => by simp; omega) xs
 have := List.pairwise_iff_getElem.1 hp i j (by omega) hj hij
 have hi : i < (jw xs).length := by omega
 simpa [gi, hi, hj] using this
theorem O5 {xs : List Int} {x : Int} : x ∈ jw xs ↔ x ∈ xs := (List.mergeSort_perm xs _).mem_iff
theorem Ey (xs : List Int) : (Lib.compact (jw xs)).length = (dd xs).length := by
 have hn := xD (Sb xs) _ (Nat.le_refl _)
 have hm : ∀ x, x ∈ Lib.compact (jw xs) ↔ x ∈ dd xs := fun x => by
  unfold Lib.compact
  rw [uD, uM, ← O5]
  constructor
  ·rintro ⟨j, hj, e⟩; rw [← e]; exact xY hj
  ·intro h; exact Oi h
 exact Nat.le_antisymm (List.Nodup.length_le_of_subset hn fun x hx => (hm x).1 hx) (List.Nodup.length_le_of_subset (sg xs) fun x hx => (hm x).2 hx)
theorem Kw {st : List Int} {k : Nat} (hk : k < st.length) : dx (st.take (k + 1)) = dx (st.take k) ++ (if 0 ≤ gi st k then [gi st k] else []) := by
 rw [V5 hk]
 unfold dx
 rw [List.filter_append]
 congr 1
 by_cases h : 0 ≤ gi st k
 ·rw [if_pos h]; simp [h]
 ·rw [if_neg h]; simp [h]
theorem O6 (st : List Int) (k : Nat) : (dx (st.take k)).length ≤ k := Nat.le_trans (List.length_filter_le _ _) (by simp; omega)
end
section
open Go.RowKit Go.Deep
end
end Go.Proofs.YteegefnjnikngaaGreat
