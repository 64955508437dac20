/- The contract of phylotree.nodes. Two lists that grow in place: for 't.Parents, t.Names = append(..), append(..)' in a region that draws its order. What grow computes, plain; its closures. The walk of grow (sharederror.Tree's closure). -/
import Derived.Test.YtcbmbhghmfehpaaGreatQ4
import Derived.Test.YtcbmbhghmfehpaaGreatQ5
import Derived.Deep.RegionHeld3
import Derived.Deep.AppendLies
import Derived.Deep.CutRange
namespace Go.Proofs.YtcbmbhghmfehpaaGreat
open Go.RowKit Go.Deep
theorem Tryz.infoNP : (Tryz.prog.info? 145).map (fun i => (i.zero, i.size, i.bytes)) = some (some (.pointer none), 1, 8) := by kernel_rfl
theorem FAt.congr {base n : Nat} {A : Nat → Nat} {kv : Nat → Value} {F F' : Frs} {w : World} (h : FAt base n A kv F w) (e : ∀ i, i < n → F'.nm i = F.nm i ∧ F'.old i = F.old i ∧ F'.kids i = F.kids i) : FAt base n A kv F' w :=
  ⟨fun i hi => by rw [(e i hi).1, (e i hi).2.1]; exact h.node i hi, h.lo, h.inj, fun i hi => by rw [(e i hi).2.2]; exact h.own i hi, h.apart, h.alone, fun i hi => by rw [(e i hi).2.2]; exact h.kid i hi⟩
theorem grown_alloc_drew {w w' : World} {o : Obj} {row : Option Nat} (h : (w.alloc o).drew.grownBy w' row) : w.grownBy w' row :=
  grown_alloc (o := o) ⟨h.os, h.tape, h.output, h.size, h.block⟩
section
variable {P : Program} {ops : Array Oper} {o : Oper} {a : Act} {w : World} {K : Act → World → Prop} {Q : Exit → Act → World → Prop} {E : Prop}
/-- 'x.l = append(x.l, u)' inside a region that draws its order. -/
theorem step_app1 (hgd : o.guard = none) (s x : Operand) (t : TypeId) (ho : o.op = .call { callee := .builtin .append, args := #[s, x], argTypes := #[t, t] })
    (base : Nat) (e : TypeId) (z : Value) (bytes : Nat) (ht : P.underlying t = some (.slice e)) (hinfo : (P.info? e).map (fun i => (i.zero, i.size, i.bytes)) = some (some z, 1, bytes))
    (hz1 : z.cells.size = 1) (hb8 : bytes ≤ 64) {v : Value} {vs : List Value} (hs : a.eval s = v) (hown : Owns base e w v vs) (u : Value) (B : Nat)
    (hx : a.eval x = .slice (some ⟨B, 0, none⟩) 1 1) (hB : w.cell? ⟨B, 0, none⟩ = some u) (h1 : u.oneCell' = true) (hn : vs.length ≤ 1000000) (hbase : base ≤ w.heap.size)
    (h : ∀ g cap w', Owns base e w' (.slice (some ⟨g, 0, none⟩) (vs.length + 1) cap) (vs ++ [u]) → w.grownBy w' v.ownBlock → (v.ownBlock = some g ∨ g = w.heap.size) → Below base w w' → K (a.put o.dst (.slice (some ⟨g, 0, none⟩) (vs.length + 1) cap)) w') :
    if Region.wanted o (yielded ops a.tmps) = true then Oper.wp P o a w K Q else E := by
  obtain ⟨i, hi, hzz⟩ := Option.map_eq_some_iff.1 hinfo
  simp only [Prod.mk.injEq] at hzz
  obtain ⟨hz, hs1, hb⟩ := hzz
  refine step_append_lies w hgd s x t ho base e i z 1 bytes ht hi hz hs1 hb hz1 (by omega) v vs.length vs hs hown ⟨B, 0, none⟩ 1 1 [u] hx rfl ?_ (by simpa using h1) (by omega)
    (by unfold maxLen; omega) ?_ hbase _ rfl fun g cap w' h2 h3 h4 _ => h g cap w' ?_ h3 h4 (hown.grown_below h3 hbase)
  · intro j u' hj
    cases j with
    | zero => (simp at hj; subst hj; simpa [Addr.add] using hB)
    | succ j => simp at hj
  · have : (vs.length + 1) * bytes ≤ (vs.length + 1) * 64 := Nat.mul_le_mul_left _ hb8
    omega
  · unfold Owns; rw [List.length_append]; exact h2
end
/-- The forest of the first k nodes of a tree. -/
def frK (t : Tre) (k : Nat) : Frs := ⟨gs t.ns, fun i => i, fun i => kidsK t.ps i k⟩
def frT (t : Tre) : Frs := frK t t.ps.length
/-- The first k nodes are laid beyond block g0, the list of them. -/
def NdW (w wr : World) (g0 n k : Nat) (t : Tre) : Prop :=
  Below g0 w wr ∧ ∃ A kv, FAt (g0 + 1) k A kv (frK t k) wr ∧ wr.rowIs g0 145 n (fun i => if i < k then nptr A i else .pointer none)
/-- Node k is laid without children, its pointer stored. -/
def frX (t : Tre) (k : Nat) : Frs := ⟨gs t.ns, fun i => i, upd (fun i => kidsK t.ps i k) k []⟩
structure NdX (w wr : World) (g0 n k : Nat) (t : Tre) (A : Nat → Nat) (kv : Nat → Value) : Prop where
  up : Below g0 w wr
  fr : FAt (g0 + 1) (k + 1) A kv (frX t k) wr
  row : wr.rowIs g0 145 n (fun i => if i < k + 1 then nptr A i else .pointer none)
theorem FAt.far {g0 n : Nat} {A : Nat → Nat} {kv : Nat → Value} {F : Frs} {w : World} (h : FAt (g0 + 1) n A kv F w) {i : Nat} (hi : i < n) : A i ≠ g0 ∧ (kv i).ownBlock ≠ some g0 :=
  ⟨fun e => by have := h.lo i hi; omega, fun e => by have := (h.ownlt hi e).1; omega⟩
theorem NdW.new {w wo : World} {g0 n k : Nat} {t : Tre} (h : NdW w wo g0 n k t) :
    ∃ A kv, A k = wo.heap.size ∧ NdX w ((wo.alloc (.cells #[.string (gs t.ns k), .slice none 0 0, .int .i64 k] 147)).setCell ⟨g0, k, none⟩ (.pointer (some ⟨wo.heap.size, 0, none⟩))) g0 n k t A kv := by
  obtain ⟨hup, A, kv, hF, hrow⟩ := h
  have hg0 := hrow.lt
  have hF2 := hF.node_new (by omega) (gs t.ns k) k
  refine ⟨upd A k wo.heap.size, upd kv k (.slice none 0 0), upd_same _ _ _, (hup.alloc (by omega) _).setCell (p := ⟨g0, k, none⟩) (Nat.le_refl _) _, ?_, ?_⟩
  · have hF3 := hF2.congr (F' := frX t k) fun i hi => by
      refine ⟨?_, ?_, rfl⟩
      · by_cases e : i = k
        · subst e; exact (upd_same _ _ _).symm
        · exact (upd_ne _ _ e).symm
      · by_cases e : i = k
        · subst e; exact (upd_same _ _ _).symm
        · exact (upd_ne _ _ e).symm
    exact hF3.same (fun i hi => blk_setCell_other _ _ _ _ (hF3.far hi).1) fun i b hi hb => blk_setCell_other _ _ _ _ (fun e2 => (hF3.far hi).2 (by rw [hb]; exact congrArg some e2))
  · refine ((hrow.alloc _).set k _).congr fun i hi => ?_
    by_cases e : i = k
    · subst e; rw [if_pos rfl, if_pos (by omega)]; unfold nptr; rw [upd_same]
    · rw [if_neg e]
      by_cases e2 : i < k
      · rw [if_pos e2, if_pos (by omega)]; unfold nptr; rw [upd_ne _ _ e]
      · rw [if_neg e2, if_neg (by omega)]
theorem kidsK_len0 (ps : List Int) (k : Nat) : kidsK ps k k = [] := by
  unfold kidsK
  refine List.filter_eq_nil_iff.2 fun i hi => ?_
  have := List.mem_range.1 hi
  simp; omega
theorem frX_kids (t : Tre) (k i : Nat) : (frX t k).kids i = kidsK t.ps i k := by
  show upd (fun i => kidsK t.ps i k) k [] i = _
  by_cases e : i = k
  · subst e; rw [upd_same, kidsK_len0]
  · rw [upd_ne _ _ e]
theorem NdX.root {w wr : World} {g0 n k : Nat} {t : Tre} {A : Nat → Nat} {kv : Nat → Value} (h : NdX w wr g0 n k t A kv) (hp : gi t.ps k < 0) : NdW w wr g0 n (k + 1) t := by
  refine ⟨h.up, A, kv, h.fr.congr fun i hi => ⟨rfl, rfl, ?_⟩, h.row⟩
  rw [frX_kids]
  show kidsK t.ps i (k + 1) = _
  rw [kidsK_succ, if_neg (by omega), List.append_nil]
theorem NdX.push {w wr w' : World} {g0 n k p : Nat} {t : Tre} {A : Nat → Nat} {kv : Nat → Value} (h : NdX w wr g0 n k t A kv) (hpk : p < k) (hp : gi t.ps k = p) {v : Value}
    (hv : Owns (g0 + 1) 145 w' v ((kidsK t.ps p k).map (nptr A) ++ [nptr A k])) (hg : wr.grownBy w' (kv p).ownBlock) (hb : ∀ b, v.ownBlock = some b → (kv p).ownBlock = some b ∨ wr.heap.size ≤ b) :
    NdW w (w'.setCell ⟨A p, 1, none⟩ v) g0 n (k + 1) t := by
  have hF := h.fr.push (k := p) (c := k) (v := v) (by omega) (by omega) (by rw [frX_kids, List.map_append]; exact hv) hg hb
  have hlo := h.fr.lo p (by omega)
  have hrl := h.row.lt
  refine ⟨?_, A, upd kv p v, hF.congr fun i hi => ⟨rfl, rfl, ?_⟩, ?_⟩
  · have h1 : Below (g0 + 1) wr w' := (h.fr.own p (by omega)).grown_below hg (by omega)
    exact (Below.trans h.up (h1.mono (by omega))).setCell (p := ⟨A p, 1, none⟩) (by show g0 ≤ A p; omega) _
  · show kidsK t.ps i (k + 1) = upd (frX t k).kids p ((frX t k).kids p ++ [k]) i
    rw [kidsK_succ, frX_kids]
    by_cases e : i = p
    · subst e; rw [upd_same, if_pos ⟨hpk, hp⟩]
    · rw [upd_ne _ _ e, if_neg (by omega), List.append_nil, frX_kids]
  · have hne : g0 ≠ A p := fun e => (h.fr.far (i := p) (by omega)).1 e.symm
    refine (h.row.of_block ?_).setOther (a := ⟨A p, 1, none⟩) hne v
    exact hg.block g0 hrl (fun e => (h.fr.far (i := p) (by omega)).2 e.symm)
theorem FAt.base_le {base base' n : Nat} {A : Nat → Nat} {kv : Nat → Value} {F : Frs} {w : World} (h : FAt base n A kv F w) (hb : base' ≤ base) : FAt base' n A kv F w :=
  ⟨h.node, fun i hi => Nat.le_trans hb (h.lo i hi), h.inj, fun i hi => (h.own i hi).mono_base hb, h.apart, h.alone, h.kid⟩
def NodesPost (w : World) (t : Tre) (e : Ending) (w' : World) : Prop :=
  Up w w' ∧ ∃ g A kv, e = .returned (.slice (some ⟨g, 0, none⟩) t.ps.length t.ps.length) ∧ FAt w.heap.size t.ps.length A kv (frT t) w' ∧ w'.rowIs g 145 t.ps.length (nptr A)
set_option maxRecDepth 100000 in
set_option maxHeartbeats 2000000 in
theorem nodes_t (S : Nat → Prop) (w : World) (v : Value) (t : Tre) (hT : TreeAt S w v t) (hp : t.ps.length ≤ 1000) (hn : t.ns.length = t.ps.length) (hok : pOkB t.ps = true) (hz : ∀ k, (gs t.ns k).size ≤ 70000) :
    Calls Tryz.prog 131 #[v] w (NodesPost w t) := by
  obtain ⟨P, N, rfl, hP, hN⟩ := hT
  obtain ⟨pP, capP, rfl, hcapP, _⟩ := SlAt.open hP
  have hP : IntsAt S w (.slice pP t.ps.length capP) t.ps := hP
  obtain ⟨pN, capN, rfl, hcapN, _⟩ := SlAt.open hN
  have hN : StrsAt S w (.slice pN t.ns.length capN) t.ns := hN
  have hmk := fun W => run_make_row' (P := Tryz.prog) 143 145 (.pointer none) 8 Tryz.underlying143 Tryz.infoNP rfl .i64 .i64 t.ps.length (by omega) (by omega) W
  have hu := Up.alloc w (.cells #[.slice pP t.ps.length capP, .slice pN t.ns.length capN] 45)
  have hb0 := box2_0 w (.slice pP t.ps.length capP) (.slice pN t.ns.length capN) 45
  have hb1 := box2_1 w (.slice pP t.ps.length capP) (.slice pN t.ns.length capN) 45
  have hu2 := Up.alloc (w.alloc (.cells #[.slice pP t.ps.length capP, .slice pN t.ns.length capN] 45)) (.cells (madeCells #[.pointer none] t.ps.length) 145)
  have HW : Hid (NdW ((w.alloc (.cells #[.slice pP t.ps.length capP, .slice pN t.ns.length capN] 45)).alloc (.cells (madeCells #[.pointer none] t.ps.length) 145)) ((w.alloc (.cells #[.slice pP t.ps.length capP, .slice pN t.ns.length capN] 45)).alloc (.cells (madeCells #[.pointer none] t.ps.length) 145)) (w.heap.size + 1) t.ps.length 0 t) := by
    refine ⟨Below.refl _ _, fun _ => 0, fun _ => .slice none 0 0, FAt.empty _ _ _ _ _, ?_⟩
    have h := World.rowIs_made (w.alloc (.cells #[.slice pP t.ps.length capP, .slice pN t.ns.length capN] 45)) (.pointer none) t.ps.length 145
    simp only [World.size_alloc] at h
    exact h
  have HUW := Lib.hid (hu.trans hu2)
  have hsz : w.heap.size + 1 + 1 = ((w.alloc (.cells #[.slice pP t.ps.length capP, .slice pN t.ns.length capN] 45)).alloc (.cells (madeCells #[.pointer none] t.ps.length) 145)).heap.size := by simp
  have HSZ := Lib.hid hsz
  have HB0 := Lib.hid (hu2.cell hb0)
  have HB1 := Lib.hid (hu2.cell hb1)
  have HP := Lib.hid hP
  have HN := Lib.hid hN
  have HNS := Lib.hid hz
  have HOK := Lib.hid hok
  have HLN := Lib.hid hn
  have hnl : (t.ps.length : Int) ≤ (t.ns.length : Int) := by omega
  clear hsz hu hb0 hb1 hu2 hP hN hz hok hn
  go_enter Tryz.func131, Tryz.ntmps131
  go_wp2_with fail
  generalize (w.alloc (.cells #[.slice pP t.ps.length capP, .slice pN t.ns.length capN] 45)).alloc (.cells (madeCells #[.pointer none] t.ps.length) 145) = w1 at *
  go_loopw [13] (fun i wr => ∃ k : Nat, k ≤ t.ps.length ∧ i = .int .i64 k ∧ Hid (NdW w1 wr (w.heap.size + 1) t.ps.length k t)) (fun i _ => t.ps.length - (intOf i).toNat)
  case atStart => exact ⟨0, Nat.zero_le _, rfl, HW⟩
  case round =>
    obtain ⟨k, hk, rfl, hO⟩ := hrel
    obtain ⟨wo, rfl⟩ : ∃ wo : World, wo = wr := ⟨_, rfl⟩
    by_cases hlt : k < t.ps.length
    · obtain ⟨hup, A, kv, hF, hrow⟩ := hO.out
      have hc0 : wo.cell? ⟨w.heap.size, 0, none⟩ = some (.slice pP t.ps.length capP) := by rw [hup.cell (p := ⟨w.heap.size, 0, none⟩) (Nat.lt_succ_self _)]; exact HB0.out
      have hc1 : wo.cell? ⟨w.heap.size, 1, none⟩ = some (.slice pN t.ns.length capN) := by rw [hup.cell (p := ⟨w.heap.size, 1, none⟩) (Nat.lt_succ_self _)]; exact HB1.out
      have hUp : Up w wo := Below.trans HUW.out (hup.mono (Nat.le_succ _))
      obtain ⟨bP, oP, rfl, hcP⟩ := ints_get (IntsAt.keep HP.out (hUp.kept S)) hlt
      obtain ⟨bN, oN, rfl, hcN⟩ := strs_get (StrsAt.keep HN.out (hUp.kept S)) (k := k) (by rw [HLN.out]; exact hlt)
      have HX := Lib.hid hO.out.new
      have hco : (wo.alloc (.cells #[.string (gs t.ns k), .slice none 0 0, .int .i64 k] 147)).cell? ⟨w.heap.size + 1, k, none⟩ = some (.pointer none) := by
        have h := (hrow.alloc (.cells #[.string (gs t.ns k), .slice none 0 0, .int .i64 k] 147)).cell hlt
        rw [h, if_neg (Nat.lt_irrefl k)]
      have hfo : (wo.alloc (.cells #[.string (gs t.ns k), .slice none 0 0, .int .i64 k] 147)).frozen? ⟨w.heap.size + 1, k, none⟩ = false := (hrow.alloc _).frozen k
      clear hF hrow hup hUp hO
      have h0 : gi t.ps k < k ∧ (0 < k → 0 ≤ gi t.ps k) ∧ (k = 0 → gi t.ps k = -1) := par_ok HOK.out hlt
      by_cases hp0 : 0 ≤ gi t.ps k
      · obtain ⟨p, hpp⟩ := Int.eq_ofNat_of_zero_le hp0
        have hpk : p < k := by omega
        rw [hpp] at hcP
        have d1 : decide ((0 : Int) ≤ (p : Int)) = true := by simp
        have HPP := Lib.hid hpp
        clear h0 hp0 hpp
        go_wp2_with fail
        generalize (wo.alloc (.cells #[.string (gs t.ns k), .slice none 0 0, .int .i64 k] 147)).setCell ⟨w.heap.size + 1, k, none⟩ (.pointer (some ⟨wo.heap.size, 0, none⟩)) = w2 at *
        obtain ⟨A, kv, hAk, hX⟩ := HX.out
        have hr1 : w2.cell? ⟨w.heap.size + 1, p, none⟩ = some (.pointer (some ⟨A p, 0, none⟩)) := by
          have h := hX.row.cell (i := p) (by omega)
          rw [if_pos (by omega)] at h; exact h
        have hr2 : w2.cell? ⟨w.heap.size + 1, k, none⟩ = some (.pointer (some ⟨A k, 0, none⟩)) := by
          have h := hX.row.cell (i := k) hlt
          rw [if_pos (by omega)] at h; exact h
        have HNK : Hid (nptr A k = .pointer (some ⟨wo.heap.size, 0, none⟩)) := by unfold Hid nptr; rw [hAk]
        rw [hAk] at hr2
        have hkc := hX.fr.kidv (i := p) (by omega)
        have hfz := hX.fr.thaw (i := p) (by omega) 1
        have HOWN : Hid (Owns (w.heap.size + 1 + 1) 145 w2 (kv p) ((kidsK t.ps p k).map (nptr A))) := by have h := hX.fr.own p (by omega); rw [frX_kids] at h; exact h
        have HXX := Lib.hid hX
        have HAP : Hid (A p ≠ w.heap.size + 1 ∧ (kv p).ownBlock ≠ some (w.heap.size + 1) ∧ (kv p).ownBlock ≠ some (A p) ∧ w.heap.size + 1 < w2.heap.size ∧ A p < w2.heap.size) := ⟨(hX.fr.far (by omega)).1, (hX.fr.far (by omega)).2, hX.fr.apart p p (by omega) (by omega), hX.row.lt, hX.fr.lt (by omega)⟩
        have i0 : (0 : Int) ≤ (p : Int) := by omega
        have i1 : (p : Int) < (t.ps.length : Int) := by omega
        have i2 : (0 : Int) ≤ (k : Int) := by omega
        have i3 : (k : Int) < (t.ps.length : Int) := by omega
        have HKL : Hid (((kidsK t.ps p k).map (nptr A)).length ≤ 1000000) := by unfold Hid; rw [List.length_map]; have := kidsK_len t.ps p k; omega
        have HPUSH : Hid (∀ g cap w', Owns (w.heap.size + 1 + 1) 145 w' (.slice (some ⟨g, 0, none⟩) (((kidsK t.ps p k).map (nptr A)).length + 1) cap) ((kidsK t.ps p k).map (nptr A) ++ [.pointer (some ⟨wo.heap.size, 0, none⟩)]) → w2.grownBy w' (kv p).ownBlock → ((kv p).ownBlock = some g ∨ w2.heap.size ≤ g) → NdW w1 (w'.setCell ⟨A p, 1, none⟩ (.slice (some ⟨g, 0, none⟩) (((kidsK t.ps p k).map (nptr A)).length + 1) cap)) (w.heap.size + 1) t.ps.length (k + 1) t) := fun g cap w' h1 h2 h3 => hX.push hpk HPP.out (by rw [HNK.out]; exact h1) h2 (fun b hb => by cases hb; exact h3)
        clear hAk hX HX hco hfo hcP hcN hc0 hc1
        generalize nptr A = na at *
        generalize hap : A p = ap at *
        generalize wo.heap.size = ak at *
        generalize kv p = ov at *
        generalize List.map na (kidsK t.ps p k) = vs at *
        have HOW2 : Hid (Owns (w.heap.size + 1 + 1) 145 (w2.alloc (.cells #[.pointer (some ⟨ak, 0, none⟩)] 145)).drew ov vs) := HOWN.out.alloc _
        have HCN : Hid ((w2.alloc (.cells #[.pointer (some ⟨ak, 0, none⟩)] 145)).drew.cell? ⟨w2.heap.size, 0, none⟩ = some (.pointer (some ⟨ak, 0, none⟩))) := cell_at_new _ _ _ 0
        have HBS : Hid (w.heap.size + 1 + 1 ≤ (w2.alloc (.cells #[.pointer (some ⟨ak, 0, none⟩)] 145)).drew.heap.size) := by
          have := HAP.out.2.2.2.1
          show _ ≤ (w2.alloc _).heap.size
          rw [World.size_alloc]; omega
        have HFAR : Hid (∀ (w' : World), (w2.alloc (.cells #[.pointer (some ⟨ak, 0, none⟩)] 145)).drew.grownBy w' ov.ownBlock → w'.cell? ⟨w.heap.size + 1, p, none⟩ = some (.pointer (some ⟨ap, 0, none⟩)) ∧ w'.cell? ⟨w.heap.size + 1, k, none⟩ = some (.pointer (some ⟨ak, 0, none⟩)) ∧ w'.cell? ⟨ap, 1, none⟩ = some ov ∧ w'.frozen? ⟨ap, 1, none⟩ = false) := fun w' hg => by
          obtain ⟨q1, q2, q3, q4, q5⟩ := HAP.out
          have hl : ∀ b, b < w2.heap.size → b < (w2.alloc (.cells #[.pointer (some ⟨ak, 0, none⟩)] 145)).drew.heap.size := fun b hb => by show b < (w2.alloc _).heap.size; rw [World.size_alloc]; omega
          have hu := Up.alloc w2 (.cells #[.pointer (some ⟨ak, 0, none⟩)] 145)
          refine ⟨?_, ?_, ?_, ?_⟩
          · rw [hg.cell_far _ (hl _ q4) (Ne.symm q2)]; exact hu.cell hr1
          · rw [hg.cell_far _ (hl _ q4) (Ne.symm q2)]; exact hu.cell hr2
          · rw [hg.cell_far _ (hl _ q5) (Ne.symm q3)]; exact hu.cell hkc
          · rw [hg.frozen_far _ (hl _ q5) (Ne.symm q3)]; exact (Below.frozen hu (p := ⟨ap, 1, none⟩) q5).trans hfz
        have hr1a := (Up.alloc w2 (.cells #[.pointer (some ⟨ak, 0, none⟩)] 145)).cell hr1
        have hr2a := (Up.alloc w2 (.cells #[.pointer (some ⟨ak, 0, none⟩)] 145)).cell hr2
        have hkca := (Up.alloc w2 (.cells #[.pointer (some ⟨ak, 0, none⟩)] 145)).cell hkc
        clear HXX
        refine region_T (by kernel_rfl) 20 (fun w' => w'.cell? ⟨w.heap.size + 1, p, none⟩ = some (.pointer (some ⟨ap, 0, none⟩)) ∧ w'.cell? ⟨w.heap.size + 1, k, none⟩ = some (.pointer (some ⟨ak, 0, none⟩)) ∧ w'.cell? ⟨ap, 1, none⟩ = some ov) ⟨hr1, hr2, hkc⟩ (fun hS => ?_)
        simp only [List.size_toArray, List.length_cons, List.length_nil, Nat.reduceAdd, Array.replicate_succ, Array.replicate_zero, List.push_toArray, List.nil_append, List.cons_append]
        refine anyT.take (i := 0) (v := ?gv0) rfl (by kernel_rfl) (fun _ _ _ h => h) (by rfl) (fun w hSw => ?gy0) hS ?gr0
        case gy0 =>
          (try dsimp only at hSw)
          go_simp
          try with_reducible rfl
        try simp only [Act.put, List.setIfInBounds_toArray, List.set_cons_zero, List.set_cons_succ]
        refine anyT.take (i := 1) (v := ?gv1) rfl (by kernel_rfl) (fun _ _ _ h => h) (by rfl) (fun w hSw => ?gy1) hS ?gr1
        case gy1 =>
          (try dsimp only at hSw)
          go_simp
          try with_reducible rfl
        try simp only [Act.put, List.setIfInBounds_toArray, List.set_cons_zero, List.set_cons_succ]
        refine anyT.take (i := 2) (v := ?gv2) rfl (by kernel_rfl) (fun _ _ _ h => h) (by rfl) (fun w hSw => ?gy2) hS ?gr2
        case gy2 =>
          (try dsimp only at hSw)
          go_simp
          try with_reducible rfl
        try simp only [Act.put, List.setIfInBounds_toArray, List.set_cons_zero, List.set_cons_succ]
        refine anyT.take (i := 3) (v := ?gv3) rfl (by kernel_rfl) (fun _ _ _ h => h) (by rfl) (fun w hSw => ?gy3) hS ?gr3
        case gy3 =>
          (try dsimp only at hSw)
          go_simp
          try with_reducible rfl
        try simp only [Act.put, List.setIfInBounds_toArray, List.set_cons_zero, List.set_cons_succ]
        refine anyT.take (i := 4) (v := ?gv4) rfl (by kernel_rfl) (fun _ _ _ h => h) (by rfl) (fun w hSw => ?gy4) hS ?gr4
        case gy4 =>
          (try dsimp only at hSw)
          go_simp
          try with_reducible rfl
        try simp only [Act.put, List.setIfInBounds_toArray, List.set_cons_zero, List.set_cons_succ]
        refine anyT.take (i := 5) (v := ?gv5) rfl (by kernel_rfl) (fun _ _ _ h => h) (by rfl) (fun w hSw => ?gy5) hS ?gr5
        case gy5 =>
          (try dsimp only at hSw)
          go_simp
          try with_reducible rfl
        try simp only [Act.put, List.setIfInBounds_toArray, List.set_cons_zero, List.set_cons_succ]
        refine anyT.take (i := 6) (v := ?gv6) rfl (by kernel_rfl) (fun _ _ _ h => h) (by rfl) (fun w hSw => ?gy6) hS ?gr6
        case gy6 =>
          (try dsimp only at hSw)
          go_simp
          try with_reducible rfl
        try simp only [Act.put, List.setIfInBounds_toArray, List.set_cons_zero, List.set_cons_succ]
        refine anyT.take (i := 7) (v := ?gv7) rfl (by kernel_rfl) (fun _ _ _ h => h) (by rfl) (fun w hSw => ?gy7) hS ?gr7
        case gy7 =>
          (try dsimp only at hSw)
          go_simp
          try with_reducible rfl
        try simp only [Act.put, List.setIfInBounds_toArray, List.set_cons_zero, List.set_cons_succ]
        refine anyT.take (i := 8) (v := ?gv8) rfl (by kernel_rfl) (fun _ _ _ h => h) (by rfl) (fun w hSw => ?gy8) hS ?gr8
        case gy8 =>
          (try dsimp only at hSw)
          go_simp
          try with_reducible rfl
        try simp only [Act.put, List.setIfInBounds_toArray, List.set_cons_zero, List.set_cons_succ]
        refine anyT.take (i := 9) (v := ?gv9) rfl (by kernel_rfl) (fun _ _ _ h => h) (by rfl) (fun w hSw => ?gy9) hS ?gr9
        case gy9 =>
          (try dsimp only at hSw)
          go_simp
          try with_reducible rfl
        try simp only [Act.put, List.setIfInBounds_toArray, List.set_cons_zero, List.set_cons_succ]
        refine anyT.take (i := 10) (v := ?gv10) rfl (by kernel_rfl) (fun _ _ _ h => h) (by rfl) (fun w hSw => ?gy10) hS ?gr10
        case gy10 =>
          (try dsimp only at hSw)
          go_simp
          try with_reducible rfl
        try simp only [Act.put, List.setIfInBounds_toArray, List.set_cons_zero, List.set_cons_succ]
        refine anyT.take (i := 11) (v := ?gv11) rfl (by kernel_rfl) (fun _ _ _ h => h) (by rfl) (fun w hSw => ?gy11) hS ?gr11
        case gy11 =>
          (try dsimp only at hSw)
          go_simp
          try with_reducible rfl
        try simp only [Act.put, List.setIfInBounds_toArray, List.set_cons_zero, List.set_cons_succ]
        refine anyT.take (i := 12) (v := ?gv12) rfl (by kernel_rfl) (fun _ _ _ h => h) (by rfl) (fun w hSw => ?gy12) hS ?gr12
        case gy12 =>
          (try dsimp only at hSw)
          go_simp
          try with_reducible rfl
        try simp only [Act.put, List.setIfInBounds_toArray, List.set_cons_zero, List.set_cons_succ]
        refine anyT.take (i := 13) (v := ?gv13) rfl (by kernel_rfl) (fun _ _ _ h => h) (by rfl) (fun w hSw => ?gy13) hS ?gr13
        case gy13 =>
          (try dsimp only at hSw)
          go_simp
          try with_reducible rfl
        try simp only [Act.put, List.setIfInBounds_toArray, List.set_cons_zero, List.set_cons_succ]
        refine anyT.take (i := 14) (v := ?gv14) rfl (by kernel_rfl) (fun _ _ _ h => h) (by rfl) (fun w hSw => ?gy14) hS ?gr14
        case gy14 =>
          (try dsimp only at hSw)
          go_simp
          try with_reducible rfl
        try simp only [Act.put, List.setIfInBounds_toArray, List.set_cons_zero, List.set_cons_succ]
        refine anyT.step (i := 15) rfl (by kernel_rfl) (fun K' hK => ?_)
        go_simp
        refine hK.out _ _ (fun _ => ⟨(Up.alloc _ _).cell hr1, (Up.alloc _ _).cell hr2, (Up.alloc _ _).cell hkc⟩) (fun hS => ?_)
        try simp only [List.setIfInBounds_toArray, List.set_cons_zero, List.set_cons_succ]
        refine anyT.step (i := 16) rfl (by kernel_rfl) (fun K' hK => ?_)
        refine step_app1 (by rfl) _ _ _ (by rfl) (w.heap.size + 1 + 1) 145 _ 8 Tryz.underlying143 Tryz.infoNP (by rfl) (by decide) (by rfl) HOW2.out (.pointer (some ⟨ak, 0, none⟩)) w2.heap.size (by rfl) HCN.out (by rfl) HKL.out HBS.out ?_
        intro g cap w4 hown4 hg4 hor4 hbe4
        obtain ⟨hr1b, hr2b, hkcb, hfz4⟩ := HFAR.out w4 hg4
        have HOWN4 := Lib.hid hown4
        have HG4 := Lib.hid (grown_alloc_drew hg4)
        have HOR4 := Lib.hid hor4
        clear hown4 hg4 hor4 hbe4
        refine hK.out _ _ (fun _ => ⟨hr1b, hr2b, hkcb⟩) (fun hS => ?_)
        replace hS := hS ⟨19, by decide, rfl⟩
        try simp only [Act.put, List.setIfInBounds_toArray, List.set_cons_zero, List.set_cons_succ]
        refine anyT.take (i := 17) (v := ?gv17) rfl (by kernel_rfl) (fun _ _ _ h => h) (by rfl) (fun w hSw => ?gy17) hS ?gr17
        case gy17 =>
          (try dsimp only at hSw)
          go_simp
          try with_reducible rfl
        try simp only [Act.put, List.setIfInBounds_toArray, List.set_cons_zero, List.set_cons_succ]
        refine anyT.take (i := 18) (v := ?gv18) rfl (by kernel_rfl) (fun _ _ _ h => h) (by rfl) (fun w hSw => ?gy18) hS ?gr18
        case gy18 =>
          (try dsimp only at hSw)
          go_simp
          try with_reducible rfl
        try simp only [Act.put, List.setIfInBounds_toArray, List.set_cons_zero, List.set_cons_succ]
        refine anyT.step (i := 19) rfl (by kernel_rfl) (fun K' hK => ?_)
        go_simp
        refine hK.out _ _ (not_more (by kernel_rfl)) (fun hS => ?_)
        refine anyT.done (by kernel_rfl) ?_
        go_wp2_with fail
        go_roundw
        case rel =>
          refine ⟨k + 1, by omega, by go_num, HPUSH.out g cap w4 HOWN4.out HG4.out ?_⟩
          rcases HOR4.out with h | h
          · exact .inl h
          · refine .inr ?_
            rw [h]; exact Nat.le_trans (Nat.le_succ _) (Nat.le_of_eq (World.size_alloc _ _).symm)
        case measure => simp [intOf]; omega
      · have HPP : Hid (gi t.ps k < 0) := by unfold Hid; omega
        have d1 : decide ((0 : Int) ≤ gi t.ps k) = false := by simpa using hp0
        clear h0 hp0
        go_wp2_with fail
        go_roundw
        case rel =>
          obtain ⟨A', kv', _, hX⟩ := HX.out
          exact ⟨k + 1, by omega, by go_num, hX.root HPP.out⟩
        case measure => simp [intOf]; omega
    · obtain rfl : k = t.ps.length := by omega
      go_wp2_with fail
      go_ret
      obtain ⟨hup, A, kv, hF, hrow⟩ := hO.out
      exact ⟨Below.trans HUW.out (hup.mono (Nat.le_succ _)), _, A, kv, rfl, hF.base_le (by omega), hrow.congr fun i hi => by rw [if_pos hi]⟩
end Go.Proofs.YtcbmbhghmfehpaaGreat
namespace Go.Proofs.YtcbmbhghmfehpaaGreat
open Go.RowKit Go.Deep
theorem Tryz.infoStr2 : (Tryz.prog.info? 9).map (fun i => (i.zero, i.size, i.bytes)) = some (some (.string ⟨#[]⟩), 1, 16) := by kernel_rfl
/-- Beside block tb and the two lists' own blocks all lies as it lay. -/
structure GK (tb : Nat) (w W : World) (P N P' N' : Value) : Prop where
  os : W.os = w.os
  tape : W.tape = w.tape
  output : W.output = w.output
  size : w.heap.size ≤ W.heap.size
  block : ∀ b, b < w.heap.size → b ≠ tb → some b ≠ P.ownBlock → some b ≠ N.ownBlock → W.heap[b]? = w.heap[b]?
  newP : ∀ b, P'.ownBlock = some b → P.ownBlock = some b ∨ w.heap.size ≤ b
  newN : ∀ b, N'.ownBlock = some b → N.ownBlock = some b ∨ w.heap.size ≤ b
theorem GK.refl (tb : Nat) (w : World) (P N : Value) : GK tb w w P N P N := ⟨rfl, rfl, rfl, Nat.le_refl _, fun _ _ _ _ _ => rfl, fun _ h => .inl h, fun _ h => .inl h⟩
theorem GK.trans {tb : Nat} {w W X : World} {P N P' N' P2 N2 : Value} (h : GK tb w W P N P' N') (k : GK tb W X P' N' P2 N2) : GK tb w X P N P2 N2 :=
  ⟨k.os.trans h.os, k.tape.trans h.tape, k.output.trans h.output, Nat.le_trans h.size k.size, fun b hb h1 h2 h3 => by
    rw [← h.block b hb h1 h2 h3]
    refine k.block b (Nat.lt_of_lt_of_le hb h.size) h1 (fun e => ?_) (fun e => ?_)
    · rcases h.newP b e.symm with h4 | h4
      · exact h2 h4.symm
      · omega
    · rcases h.newN b e.symm with h4 | h4
      · exact h3 h4.symm
      · omega,
    fun b hb => by
      rcases k.newP b hb with h4 | h4
      · exact h.newP b h4
      · exact .inr (Nat.le_trans h.size h4),
    fun b hb => by
      rcases k.newN b hb with h4 | h4
      · exact h.newN b h4
      · exact .inr (Nat.le_trans h.size h4)⟩
theorem GK.up {tb : Nat} {w W X : World} {P N P' N' : Value} (h : GK tb w W P N P' N') (k : Up W X) : GK tb w X P N P' N' :=
  ⟨k.os.trans h.os, k.tape.trans h.tape, k.output.trans h.output, Nat.le_trans h.size k.size, fun b hb h1 h2 h3 => (Below.block k b (Nat.lt_of_lt_of_le hb h.size)).trans (h.block b hb h1 h2 h3), h.newP, h.newN⟩
theorem GK.of_up {tb : Nat} {w W : World} {P N : Value} (k : Up w W) : GK tb w W P N P N := (GK.refl tb w P N).up k
/-- The two lists, owned, apart. -/
structure TL (B0 : Nat) (W : World) (P N : Value) (ps : List Int) (ns : List ByteArray) : Prop where
  pown : Owns B0 3 W P (ps.map (Value.int .i64))
  nown : Owns B0 9 W N (ns.map Value.string)
  apart : ∀ b, P.ownBlock = some b → N.ownBlock ≠ some b
theorem Owns.same2 {base : Nat} {e : TypeId} {w w' : World} {v : Value} {vs : List Value} (h : Owns base e w v vs) (k : ∀ b, v.ownBlock = some b → w'.heap[b]? = w.heap[b]?) : Owns base e w' v vs := by
  refine ⟨h.1, ?_⟩
  rcases h.2 with h0 | ⟨g, cap, cur, rfl, hg, hc, hr⟩
  · exact .inl h0
  · exact .inr ⟨g, cap, cur, rfl, hg, (k g rfl).trans hc, hr⟩
structure RS (tb B0 : Nat) (w W : World) (P N Pv Nv : Value) (ps : List Int) (ns : List ByteArray) : Prop where
  gk : GK tb w W P N Pv Nv
  tl : TL B0 W Pv Nv ps ns
  same : W.heap[tb]? = w.heap[tb]?
  lo : tb < B0 ∧ B0 ≤ w.heap.size
section
variable {tb B0 : Nat} {w W W' : World} {P N Pv Nv : Value} {ps : List Int} {ns : List ByteArray}
theorem RS.start (h : TL B0 w P N ps ns) (hl : tb < B0 ∧ B0 ≤ w.heap.size) : RS tb B0 w w P N P N ps ns := ⟨GK.refl _ _ _ _, h, rfl, hl⟩
theorem TL.up (h : TL B0 W Pv Nv ps ns) (hu : Up W W') : TL B0 W' Pv Nv ps ns :=
  ⟨h.pown.same2 fun b hb => Below.block hu b (ownBlock_lt h.pown hb).2, h.nown.same2 fun b hb => Below.block hu b (ownBlock_lt h.nown hb).2, h.apart⟩
theorem RS.up (h : RS tb B0 w W P N Pv Nv ps ns) (hu : Up W W') : RS tb B0 w W' P N Pv Nv ps ns :=
  ⟨h.gk.up hu, h.tl.up hu, (Below.block hu tb (by have := h.gk.size; have := h.lo; omega)).trans h.same, h.lo⟩
theorem RS.appP (h : RS tb B0 w W P N Pv Nv ps ns) {g cap k : Nat} {u : Int} (ho : Owns B0 3 W' (.slice (some ⟨g, 0, none⟩) k cap) (ps.map (Value.int .i64) ++ [.int .i64 u])) (hg : W.grownBy W' Pv.ownBlock) (hor : Pv.ownBlock = some g ∨ W.heap.size ≤ g) :
    RS tb B0 w W' P N (.slice (some ⟨g, 0, none⟩) k cap) Nv (ps ++ [u]) ns := by
  have hlo := h.lo
  have hsz := h.gk.size
  refine ⟨⟨hg.os.trans h.gk.os, hg.tape.trans h.gk.tape, hg.output.trans h.gk.output, Nat.le_trans hsz hg.size, fun b hb h1 h2 h3 => ?_, fun b hb => ?_, h.gk.newN⟩, ⟨by rw [List.map_append]; exact ho, h.tl.nown.same2 fun b hb => hg.block b (ownBlock_lt h.tl.nown hb).2 (fun e => h.tl.apart b e.symm hb), fun b hb hb2 => ?_⟩, (hg.block tb (by omega) (fun e => by have := (ownBlock_lt h.tl.pown e.symm).1; omega)).trans h.same, hlo⟩
  · rw [← h.gk.block b hb h1 h2 h3]
    refine hg.block b (by omega) fun e => ?_
    rcases h.gk.newP b e.symm with h4 | h4
    · exact h2 h4.symm
    · omega
  · injection hb with hb
    have hb : g = b := hb
    subst hb
    rcases hor with h4 | h4
    · exact h.gk.newP g h4
    · exact .inr (by omega)
  · injection hb with hb
    have hb : g = b := hb
    subst hb
    rcases hor with h1 | h1
    · exact h.tl.apart g h1 hb2
    · have := (ownBlock_lt h.tl.nown hb2).2; omega
theorem RS.appN (h : RS tb B0 w W P N Pv Nv ps ns) {g cap k : Nat} {u : ByteArray} (ho : Owns B0 9 W' (.slice (some ⟨g, 0, none⟩) k cap) (ns.map Value.string ++ [.string u])) (hg : W.grownBy W' Nv.ownBlock) (hor : Nv.ownBlock = some g ∨ W.heap.size ≤ g) :
    RS tb B0 w W' P N Pv (.slice (some ⟨g, 0, none⟩) k cap) ps (ns ++ [u]) := by
  have hlo := h.lo
  have hsz := h.gk.size
  refine ⟨⟨hg.os.trans h.gk.os, hg.tape.trans h.gk.tape, hg.output.trans h.gk.output, Nat.le_trans hsz hg.size, fun b hb h1 h2 h3 => ?_, h.gk.newP, fun b hb => ?_⟩, ⟨h.tl.pown.same2 fun b hb => hg.block b (ownBlock_lt h.tl.pown hb).2 (fun e => h.tl.apart b hb e.symm), by rw [List.map_append]; exact ho, fun b hb hb2 => ?_⟩, (hg.block tb (by omega) (fun e => by have := (ownBlock_lt h.tl.nown e.symm).1; omega)).trans h.same, hlo⟩
  · rw [← h.gk.block b hb h1 h2 h3]
    refine hg.block b (by omega) fun e => ?_
    rcases h.gk.newN b e.symm with h4 | h4
    · exact h3 h4.symm
    · omega
  · injection hb with hb
    have hb : g = b := hb
    subst hb
    rcases hor with h4 | h4
    · exact h.gk.newN g h4
    · exact .inr (by omega)
  · injection hb2 with hb2
    have hb2 : g = b := hb2
    subst hb2
    rcases hor with h1 | h1
    · exact h.tl.apart g hb h1
    · have := (ownBlock_lt h.tl.pown hb).2; omega
end
/-- The tree under way, in block tb. -/
structure GS (tb B0 : Nat) (W : World) (P N : Value) (t : Tre) : Prop where
  box : W.heap[tb]? = some (Obj.cells #[P, N] 45 (0, 0))
  tl : TL B0 W P N t.ps t.ns
  lo : tb < B0 ∧ B0 ≤ W.heap.size
theorem GS.cells {tb B0 : Nat} {W : World} {P N : Value} {t : Tre} (h : GS tb B0 W P N t) : W.cell? ⟨tb, 0, none⟩ = some P ∧ W.cell? ⟨tb, 1, none⟩ = some N ∧ W.frozen? ⟨tb, 0, none⟩ = false ∧ W.frozen? ⟨tb, 1, none⟩ = false := by
  refine ⟨?_, ?_, ?_, ?_⟩ <;> simp [World.cell?, World.frozen?, h.box]
theorem GS.up {tb B0 : Nat} {W W' : World} {P N : Value} {t : Tre} (h : GS tb B0 W P N t) (hu : Up W W') : GS tb B0 W' P N t :=
  ⟨(Below.block hu tb (by have := h.lo; omega)).trans h.box, h.tl.up hu, ⟨h.lo.1, Nat.le_trans h.lo.2 hu.size⟩⟩
def Tre.push (t : Tre) (p : Int) (s : ByteArray) : Tre := ⟨t.ps ++ [p], t.ns ++ [s]⟩
theorem RS.cells {tb B0 : Nat} {w W : World} {P N Pv Nv P0 N0 : Value} {ps : List Int} {ns : List ByteArray} (h : RS tb B0 w W P N Pv Nv ps ns) (hb : w.heap[tb]? = some (Obj.cells #[P0, N0] 45 (0, 0))) :
    W.cell? ⟨tb, 0, none⟩ = some P0 ∧ W.cell? ⟨tb, 1, none⟩ = some N0 := by
  have h1 := h.same.trans hb
  exact ⟨by simp [World.cell?, h1], by simp [World.cell?, h1]⟩
theorem RS.frozen {tb B0 : Nat} {w W : World} {P N Pv Nv P0 N0 : Value} {ps : List Int} {ns : List ByteArray} (h : RS tb B0 w W P N Pv Nv ps ns) (hb : w.heap[tb]? = some (Obj.cells #[P0, N0] 45 (0, 0))) (o : Nat) :
    W.frozen? ⟨tb, o, none⟩ = false := by
  have h1 := h.same.trans hb
  simp [World.frozen?, h1]
/-- Both lists are stored. -/
theorem RS.store {tb B0 : Nat} {w W : World} {P N Pv Nv : Value} {t : Tre} {z : Int} {nm : ByteArray} (h0 : GS tb B0 w P N t) (h : RS tb B0 w W P N Pv Nv (t.ps ++ [z]) (t.ns ++ [nm])) :
    GS tb B0 ((W.setCell ⟨tb, 0, none⟩ Pv).setCell ⟨tb, 1, none⟩ Nv) Pv Nv (t.push z nm) ∧ GK tb w ((W.setCell ⟨tb, 0, none⟩ Pv).setCell ⟨tb, 1, none⟩ Nv) P N Pv Nv := by
  have h1 := h.same.trans h0.box
  have hset : ∀ b, b ≠ tb → ((W.setCell ⟨tb, 0, none⟩ Pv).setCell ⟨tb, 1, none⟩ Nv).heap[b]? = W.heap[b]? := fun b hb => by rw [blk_setCell_other _ _ _ _ hb, blk_setCell_other _ _ _ _ hb]
  have hsz : ((W.setCell ⟨tb, 0, none⟩ Pv).setCell ⟨tb, 1, none⟩ Nv).heap.size = W.heap.size := by simp [World.size_setCell]
  refine ⟨⟨by simp [World.setCell, Array.getElem?_modify, h1], ⟨h.tl.pown.same2 fun b hb => hset b ?_, h.tl.nown.same2 fun b hb => hset b ?_, h.tl.apart⟩, h.lo.1, by rw [hsz]; exact Nat.le_trans h.lo.2 h.gk.size⟩, h.gk.os, h.gk.tape, h.gk.output, by rw [hsz]; exact h.gk.size, fun b hb h2 h3 h4 => (hset b h2).trans (h.gk.block b hb h2 h3 h4), h.gk.newP, h.gk.newN⟩
  · have := (ownBlock_lt h.tl.pown hb).1; have := h.lo.1; omega
  · have := (ownBlock_lt h.tl.nown hb).1; have := h.lo.1; omega
end Go.Proofs.YtcbmbhghmfehpaaGreat
namespace Go.Proofs.YtcbmbhghmfehpaaGreat
open Go.RowKit Go.Shelf Go.Deep
def U64 (x : Nat) : Prop := x < 18446744073709551616
end Go.Proofs.YtcbmbhghmfehpaaGreat
namespace Go.Proofs.YtcbmbhghmfehpaaGreat
open Go.RowKit Go.Deep
theorem withinB_iff {a b : Nat} (ha : U64 a) (hb : U64 b) : withinB a b = true ↔ ∀ i, a.testBit i = true → b.testBit i = true := by
  unfold withinB
  rw [decide_eq_true_eq]
  have e : 18446744073709551615 - b = 2 ^ 64 - (b + 1) := by unfold U64 at hb; omega
  have hb2 : b < 2 ^ 64 := hb
  have ha2 : a < 2 ^ 64 := ha
  rw [e]
  constructor
  · intro h i hi
    have h1 := congrArg (fun z => z.testBit i) h
    simp only [Nat.testBit_and, hi, Bool.true_and, Nat.zero_testBit, Nat.testBit_two_pow_sub_succ hb2] at h1
    have h64 : i < 64 := by
      rcases Nat.lt_or_ge i 64 with h2 | h2
      · exact h2
      · rw [Nat.testBit_lt_two_pow (Nat.lt_of_lt_of_le ha2 (Nat.pow_le_pow_right (by decide) h2))] at hi; cases hi
    simpa [h64] using h1
  · intro h
    refine Nat.eq_of_testBit_eq fun i => ?_
    rw [Nat.testBit_and, Nat.zero_testBit, Nat.testBit_two_pow_sub_succ hb2]
    cases hi : a.testBit i
    · rfl
    · rw [h i hi]; simp
/-- What grow sees. -/
structure Env (names : List ByteArray) (inner : List Nat) (tb B0 ib fb nb : Nat) (w : World) : Prop where
  ic : ∃ iv, w.cell? ⟨ib, 0, none⟩ = some iv ∧ SetsAt (fun b => b < B0 ∧ b ≠ tb) w iv inner
  fc : w.cell? ⟨fb, 0, none⟩ = some (.func (.func 83) #[] #[.pointer (some ⟨tb, 0, none⟩), .pointer (some ⟨ib, 0, none⟩), .pointer (some ⟨fb, 0, none⟩), .pointer (some ⟨nb, 0, none⟩)])
  nc : ∃ nv, w.cell? ⟨nb, 0, none⟩ = some nv ∧ StrsAt (fun b => b < B0 ∧ b ≠ tb) w nv names
  lo : (ib < B0 ∧ ib ≠ tb) ∧ (fb < B0 ∧ fb ≠ tb) ∧ (nb < B0 ∧ nb ≠ tb)
theorem GK.keeps {tb B0 : Nat} {w W : World} {P N P' N' : Value} {ps : List Int} {ns : List ByteArray} (h : GK tb w W P N P' N') (k : TL B0 w P N ps ns) : Kept (fun b => b < B0 ∧ b ≠ tb) w W := fun b hb hl =>
  h.block b hl hb.2 (fun e => by have := (ownBlock_lt k.pown e.symm).1; have := hb.1; omega) (fun e => by have := (ownBlock_lt k.nown e.symm).1; have := hb.1; omega)
theorem Env.keep {names : List ByteArray} {inner : List Nat} {tb B0 ib fb nb : Nat} {w W : World} (h : Env names inner tb B0 ib fb nb w) (k : Kept (fun b => b < B0 ∧ b ≠ tb) w W) : Env names inner tb B0 ib fb nb W := by
  obtain ⟨⟨iv, h1, h2⟩, h3, ⟨nv, h4, h5⟩, hl⟩ := h
  have hc : ∀ (b : Nat) (v : Value), b < B0 ∧ b ≠ tb → w.cell? ⟨b, 0, none⟩ = some v → W.cell? ⟨b, 0, none⟩ = some v := fun b v hb hv => by
    rw [World.cell?_of_block (a := ⟨b, 0, none⟩) (k b hb (World.block_lt_of_cell? w _ hv))]; exact hv
  exact ⟨⟨iv, hc _ _ hl.1 h1, h2.keep k⟩, hc _ _ hl.2.1 h3, ⟨nv, hc _ _ hl.2.2 h4, StrsAt.keep h5 k⟩, hl⟩
end Go.Proofs.YtcbmbhghmfehpaaGreat
