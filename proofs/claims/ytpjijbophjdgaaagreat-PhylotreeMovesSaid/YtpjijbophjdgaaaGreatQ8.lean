/- The contract of phylotree.nodes. -/
import Derived.Test.YtpjijbophjdgaaaGreatQ5
import Derived.Test.YtpjijbophjdgaaaGreatQ7
import Derived.Deep.RegionHeld3
import Derived.Deep.AppendLies
namespace Go.Proofs.YtpjijbophjdgaaaGreat
open Go.RowKit Go.Deep
theorem Tryz.infoNP : (Tryz.prog.info? 113).map (fun i => (i.zero, i.size, i.bytes)) = some (some (.pointer none), 1, 8) := by kernel_rfl
theorem FAt.congr {base n : Nat} {A : Nat → Nat} {kv : Nat → Value} {F F' : Frs} {w : World} (h : FAt base n A kv F w) (e : ∀ i, i < n → F'.nm i = F.nm i ∧ F'.old i = F.old i ∧ F'.kids i = F.kids i) : FAt base n A kv F' w :=
  ⟨fun i hi => by rw [(e i hi).1, (e i hi).2.1]; exact h.node i hi, h.lo, h.inj, fun i hi => by rw [(e i hi).2.2]; exact h.own i hi, h.apart, h.alone, fun i hi => by rw [(e i hi).2.2]; exact h.kid i hi⟩
theorem grown_alloc_drew {w w' : World} {o : Obj} {row : Option Nat} (h : (w.alloc o).drew.grownBy w' row) : w.grownBy w' row :=
  grown_alloc (o := o) ⟨h.os, h.tape, h.output, h.size, h.block⟩
section
variable {P : Program} {ops : Array Oper} {o : Oper} {a : Act} {w : World} {K : Act → World → Prop} {Q : Exit → Act → World → Prop} {E : Prop}
theorem step_app1 (hgd : o.guard = none) (s x : Operand) (t : TypeId) (ho : o.op = .call { callee := .builtin .append, args := #[s, x], argTypes := #[t, t] })
    (base : Nat) (e : TypeId) (z : Value) (bytes : Nat) (ht : P.underlying t = some (.slice e)) (hinfo : (P.info? e).map (fun i => (i.zero, i.size, i.bytes)) = some (some z, 1, bytes))
    (hz1 : z.cells.size = 1) (hb8 : bytes ≤ 64) {v : Value} {vs : List Value} (hs : a.eval s = v) (hown : Owns base e w v vs) (u : Value) (B : Nat)
    (hx : a.eval x = .slice (some ⟨B, 0, none⟩) 1 1) (hB : w.cell? ⟨B, 0, none⟩ = some u) (h1 : u.oneCell' = true) (hn : vs.length ≤ 1000000) (hbase : base ≤ w.heap.size)
    (h : ∀ g cap w', Owns base e w' (.slice (some ⟨g, 0, none⟩) (vs.length + 1) cap) (vs ++ [u]) → w.grownBy w' v.ownBlock → (v.ownBlock = some g ∨ g = w.heap.size) → Below base w w' → K (a.put o.dst (.slice (some ⟨g, 0, none⟩) (vs.length + 1) cap)) w') :
    if Region.wanted o (yielded ops a.tmps) = true then Oper.wp P o a w K Q else E := by
  obtain ⟨i, hi, hzz⟩ := Option.map_eq_some_iff.1 hinfo
  simp only [Prod.mk.injEq] at hzz
  obtain ⟨hz, hs1, hb⟩ := hzz
  refine step_append_lies w hgd s x t ho base e i z 1 bytes ht hi hz hs1 hb hz1 (by omega) v vs.length vs hs hown ⟨B, 0, none⟩ 1 1 [u] hx rfl ?_ (by simpa using h1) (by omega)
    (by unfold maxLen; omega) ?_ hbase _ rfl fun g cap w' h2 h3 h4 _ => h g cap w' ?_ h3 h4 (hown.grown_below h3 hbase)
  · intro j u' hj
    cases j with
    | zero => (simp at hj; subst hj; simpa [Addr.add] using hB)
    | succ j => simp at hj
  · have : (vs.length + 1) * bytes ≤ (vs.length + 1) * 64 := Nat.mul_le_mul_left _ hb8
    omega
  · unfold Owns; rw [List.length_append]; exact h2
end
def frK (t : Tre) (k : Nat) : Frs := ⟨gs t.ns, fun i => i, fun i => kidsK t.ps i k⟩
def frT (t : Tre) : Frs := frK t t.ps.length
def NdW (w wr : World) (g0 n k : Nat) (t : Tre) : Prop :=
  Below g0 w wr ∧ ∃ A kv, FAt (g0 + 1) k A kv (frK t k) wr ∧ wr.rowIs g0 113 n (fun i => if i < k then nptr A i else .pointer none)
def frX (t : Tre) (k : Nat) : Frs := ⟨gs t.ns, fun i => i, upd (fun i => kidsK t.ps i k) k []⟩
structure NdX (w wr : World) (g0 n k : Nat) (t : Tre) (A : Nat → Nat) (kv : Nat → Value) : Prop where
  up : Below g0 w wr
  fr : FAt (g0 + 1) (k + 1) A kv (frX t k) wr
  row : wr.rowIs g0 113 n (fun i => if i < k + 1 then nptr A i else .pointer none)
theorem FAt.far {g0 n : Nat} {A : Nat → Nat} {kv : Nat → Value} {F : Frs} {w : World} (h : FAt (g0 + 1) n A kv F w) {i : Nat} (hi : i < n) : A i ≠ g0 ∧ (kv i).ownBlock ≠ some g0 :=
  ⟨fun e => by have := h.lo i hi; omega, fun e => by have := (h.ownlt hi e).1; omega⟩
theorem NdW.new {w wo : World} {g0 n k : Nat} {t : Tre} (h : NdW w wo g0 n k t) :
    ∃ A kv, A k = wo.heap.size ∧ NdX w ((wo.alloc (.cells #[.string (gs t.ns k), .slice none 0 0, .int .i64 k] 115)).setCell ⟨g0, k, none⟩ (.pointer (some ⟨wo.heap.size, 0, none⟩))) g0 n k t A kv := by
  obtain ⟨hup, A, kv, hF, hrow⟩ := h
  have hg0 := hrow.lt
  have hF2 := hF.node_new (by omega) (gs t.ns k) k
  refine ⟨upd A k wo.heap.size, upd kv k (.slice none 0 0), upd_same _ _ _, (hup.alloc (by omega) _).setCell (p := ⟨g0, k, none⟩) (Nat.le_refl _) _, ?_, ?_⟩
  · have hF3 := hF2.congr (F' := frX t k) fun i hi => by
      refine ⟨?_, ?_, rfl⟩
      · by_cases e : i = k
        · subst e; exact (upd_same _ _ _).symm
        · exact (upd_ne _ _ e).symm
      · by_cases e : i = k
        · subst e; exact (upd_same _ _ _).symm
        · exact (upd_ne _ _ e).symm
    exact hF3.same (fun i hi => blk_setCell_other _ _ _ _ (hF3.far hi).1) fun i b hi hb => blk_setCell_other _ _ _ _ (fun e2 => (hF3.far hi).2 (by rw [hb]; exact congrArg some e2))
  · refine ((hrow.alloc _).set k _).congr fun i hi => ?_
    by_cases e : i = k
    · subst e; rw [if_pos rfl, if_pos (by omega)]; unfold nptr; rw [upd_same]
    · rw [if_neg e]
      by_cases e2 : i < k
      · rw [if_pos e2, if_pos (by omega)]; unfold nptr; rw [upd_ne _ _ e]
      · rw [if_neg e2, if_neg (by omega)]
theorem kidsK_len0 (ps : List Int) (k : Nat) : kidsK ps k k = [] := by
  unfold kidsK
  refine List.filter_eq_nil_iff.2 fun i hi => ?_
  have := List.mem_range.1 hi
  simp; omega
theorem frX_kids (t : Tre) (k i : Nat) : (frX t k).kids i = kidsK t.ps i k := by
  show upd (fun i => kidsK t.ps i k) k [] i = _
  by_cases e : i = k
  · subst e; rw [upd_same, kidsK_len0]
  · rw [upd_ne _ _ e]
theorem NdX.root {w wr : World} {g0 n k : Nat} {t : Tre} {A : Nat → Nat} {kv : Nat → Value} (h : NdX w wr g0 n k t A kv) (hp : gi t.ps k < 0) : NdW w wr g0 n (k + 1) t := by
  refine ⟨h.up, A, kv, h.fr.congr fun i hi => ⟨rfl, rfl, ?_⟩, h.row⟩
  rw [frX_kids]
  show kidsK t.ps i (k + 1) = _
  rw [kidsK_succ, if_neg (by omega), List.append_nil]
theorem NdX.push {w wr w' : World} {g0 n k p : Nat} {t : Tre} {A : Nat → Nat} {kv : Nat → Value} (h : NdX w wr g0 n k t A kv) (hpk : p < k) (hp : gi t.ps k = p) {v : Value}
    (hv : Owns (g0 + 1) 113 w' v ((kidsK t.ps p k).map (nptr A) ++ [nptr A k])) (hg : wr.grownBy w' (kv p).ownBlock) (hb : ∀ b, v.ownBlock = some b → (kv p).ownBlock = some b ∨ wr.heap.size ≤ b) :
    NdW w (w'.setCell ⟨A p, 1, none⟩ v) g0 n (k + 1) t := by
  have hF := h.fr.push (k := p) (c := k) (v := v) (by omega) (by omega) (by rw [frX_kids, List.map_append]; exact hv) hg hb
  have hlo := h.fr.lo p (by omega)
  have hrl := h.row.lt
  refine ⟨?_, A, upd kv p v, hF.congr fun i hi => ⟨rfl, rfl, ?_⟩, ?_⟩
  · have h1 : Below (g0 + 1) wr w' := (h.fr.own p (by omega)).grown_below hg (by omega)
    exact (Below.trans h.up (h1.mono (by omega))).setCell (p := ⟨A p, 1, none⟩) (by show g0 ≤ A p; omega) _
  · show kidsK t.ps i (k + 1) = upd (frX t k).kids p ((frX t k).kids p ++ [k]) i
    rw [kidsK_succ, frX_kids]
    by_cases e : i = p
    · subst e; rw [upd_same, if_pos ⟨hpk, hp⟩]
    · rw [upd_ne _ _ e, if_neg (by omega), List.append_nil, frX_kids]
  · have hne : g0 ≠ A p := fun e => (h.fr.far (i := p) (by omega)).1 e.symm
    refine (h.row.of_block ?_).setOther (a := ⟨A p, 1, none⟩) hne v
    exact hg.block g0 hrl (fun e => (h.fr.far (i := p) (by omega)).2 e.symm)
theorem FAt.base_le {base base' n : Nat} {A : Nat → Nat} {kv : Nat → Value} {F : Frs} {w : World} (h : FAt base n A kv F w) (hb : base' ≤ base) : FAt base' n A kv F w :=
  ⟨h.node, fun i hi => Nat.le_trans hb (h.lo i hi), h.inj, fun i hi => (h.own i hi).mono_base hb, h.apart, h.alone, h.kid⟩
def NodesPost (w : World) (t : Tre) (e : Ending) (w' : World) : Prop :=
  Up w w' ∧ ∃ g A kv, e = .returned (.slice (some ⟨g, 0, none⟩) t.ps.length t.ps.length) ∧ FAt w.heap.size t.ps.length A kv (frT t) w' ∧ w'.rowIs g 113 t.ps.length (nptr A)
set_option maxRecDepth 100000 in
set_option maxHeartbeats 2000000 in
theorem nodes_t (S : Nat → Prop) (w : World) (v : Value) (t : Tre) (hT : TreeAt S w v t) (hp : t.ps.length ≤ 1000) (hn : t.ns.length = t.ps.length) (hok : pOkB t.ps = true) (hz : ∀ k, (gs t.ns k).size ≤ 70000) :
    Calls Tryz.prog 94 #[v] w (NodesPost w t) := by
  obtain ⟨P, N, rfl, hP, hN⟩ := hT
  obtain ⟨pP, capP, rfl, hcapP, _⟩ := SlAt.open hP
  have hP : IntsAt S w (.slice pP t.ps.length capP) t.ps := hP
  obtain ⟨pN, capN, rfl, hcapN, _⟩ := SlAt.open hN
  have hN : StrsAt S w (.slice pN t.ns.length capN) t.ns := hN
  have hmk := fun W => run_make_row' (P := Tryz.prog) 111 113 (.pointer none) 8 Tryz.underlying111 Tryz.infoNP rfl .i64 .i64 t.ps.length (by omega) (by omega) W
  have hu := Up.alloc w (.cells #[.slice pP t.ps.length capP, .slice pN t.ns.length capN] 45)
  have hb0 := box2_0 w (.slice pP t.ps.length capP) (.slice pN t.ns.length capN) 45
  have hb1 := box2_1 w (.slice pP t.ps.length capP) (.slice pN t.ns.length capN) 45
  have hu2 := Up.alloc (w.alloc (.cells #[.slice pP t.ps.length capP, .slice pN t.ns.length capN] 45)) (.cells (madeCells #[.pointer none] t.ps.length) 113)
  have HW : Hid (NdW ((w.alloc (.cells #[.slice pP t.ps.length capP, .slice pN t.ns.length capN] 45)).alloc (.cells (madeCells #[.pointer none] t.ps.length) 113)) ((w.alloc (.cells #[.slice pP t.ps.length capP, .slice pN t.ns.length capN] 45)).alloc (.cells (madeCells #[.pointer none] t.ps.length) 113)) (w.heap.size + 1) t.ps.length 0 t) := by
    refine ⟨Below.refl _ _, fun _ => 0, fun _ => .slice none 0 0, FAt.empty _ _ _ _ _, ?_⟩
    have h := World.rowIs_made (w.alloc (.cells #[.slice pP t.ps.length capP, .slice pN t.ns.length capN] 45)) (.pointer none) t.ps.length 113
    simp only [World.size_alloc] at h
    exact h
  have HUW := Lib.hid (hu.trans hu2)
  have hsz : w.heap.size + 1 + 1 = ((w.alloc (.cells #[.slice pP t.ps.length capP, .slice pN t.ns.length capN] 45)).alloc (.cells (madeCells #[.pointer none] t.ps.length) 113)).heap.size := by simp
  have HSZ := Lib.hid hsz
  have HB0 := Lib.hid (hu2.cell hb0)
  have HB1 := Lib.hid (hu2.cell hb1)
  have HP := Lib.hid hP
  have HN := Lib.hid hN
  have HNS := Lib.hid hz
  have HOK := Lib.hid hok
  have HLN := Lib.hid hn
  have hnl : (t.ps.length : Int) ≤ (t.ns.length : Int) := by omega
  clear hsz hu hb0 hb1 hu2 hP hN hz hok hn
  go_enter Tryz.func94, Tryz.ntmps94
  go_wp2_with fail
  generalize (w.alloc (.cells #[.slice pP t.ps.length capP, .slice pN t.ns.length capN] 45)).alloc (.cells (madeCells #[.pointer none] t.ps.length) 113) = w1 at *
  go_loopw [13] (fun i wr => ∃ k : Nat, k ≤ t.ps.length ∧ i = .int .i64 k ∧ Hid (NdW w1 wr (w.heap.size + 1) t.ps.length k t)) (fun i _ => t.ps.length - (intOf i).toNat)
  case atStart => exact ⟨0, Nat.zero_le _, rfl, HW⟩
  case round =>
    obtain ⟨k, hk, rfl, hO⟩ := hrel
    obtain ⟨wo, rfl⟩ : ∃ wo : World, wo = wr := ⟨_, rfl⟩
    by_cases hlt : k < t.ps.length
    · obtain ⟨hup, A, kv, hF, hrow⟩ := hO.out
      have hc0 : wo.cell? ⟨w.heap.size, 0, none⟩ = some (.slice pP t.ps.length capP) := by rw [hup.cell (p := ⟨w.heap.size, 0, none⟩) (Nat.lt_succ_self _)]; exact HB0.out
      have hc1 : wo.cell? ⟨w.heap.size, 1, none⟩ = some (.slice pN t.ns.length capN) := by rw [hup.cell (p := ⟨w.heap.size, 1, none⟩) (Nat.lt_succ_self _)]; exact HB1.out
      have hUp : Up w wo := Below.trans HUW.out (hup.mono (Nat.le_succ _))
      obtain ⟨bP, oP, rfl, hcP⟩ := ints_get (IntsAt.keep HP.out (hUp.kept S)) hlt
      obtain ⟨bN, oN, rfl, hcN⟩ := strs_get (StrsAt.keep HN.out (hUp.kept S)) (k := k) (by rw [HLN.out]; exact hlt)
      have HX := Lib.hid hO.out.new
      have hco : (wo.alloc (.cells #[.string (gs t.ns k), .slice none 0 0, .int .i64 k] 115)).cell? ⟨w.heap.size + 1, k, none⟩ = some (.pointer none) := by
        have h := (hrow.alloc (.cells #[.string (gs t.ns k), .slice none 0 0, .int .i64 k] 115)).cell hlt
        rw [h, if_neg (Nat.lt_irrefl k)]
      have hfo : (wo.alloc (.cells #[.string (gs t.ns k), .slice none 0 0, .int .i64 k] 115)).frozen? ⟨w.heap.size + 1, k, none⟩ = false := (hrow.alloc _).frozen k
      clear hF hrow hup hUp hO
      have h0 : gi t.ps k < k ∧ (0 < k → 0 ≤ gi t.ps k) ∧ (k = 0 → gi t.ps k = -1) := par_ok HOK.out hlt
      by_cases hp0 : 0 ≤ gi t.ps k
      · obtain ⟨p, hpp⟩ := Int.eq_ofNat_of_zero_le hp0
        have hpk : p < k := by omega
        rw [hpp] at hcP
        have d1 : decide ((0 : Int) ≤ (p : Int)) = true := by simp
        have HPP := Lib.hid hpp
        clear h0 hp0 hpp
        go_wp2_with fail
        generalize (wo.alloc (.cells #[.string (gs t.ns k), .slice none 0 0, .int .i64 k] 115)).setCell ⟨w.heap.size + 1, k, none⟩ (.pointer (some ⟨wo.heap.size, 0, none⟩)) = w2 at *
        obtain ⟨A, kv, hAk, hX⟩ := HX.out
        have hr1 : w2.cell? ⟨w.heap.size + 1, p, none⟩ = some (.pointer (some ⟨A p, 0, none⟩)) := by
          have h := hX.row.cell (i := p) (by omega)
          rw [if_pos (by omega)] at h; exact h
        have hr2 : w2.cell? ⟨w.heap.size + 1, k, none⟩ = some (.pointer (some ⟨A k, 0, none⟩)) := by
          have h := hX.row.cell (i := k) hlt
          rw [if_pos (by omega)] at h; exact h
        have HNK : Hid (nptr A k = .pointer (some ⟨wo.heap.size, 0, none⟩)) := by unfold Hid nptr; rw [hAk]
        rw [hAk] at hr2
        have hkc := hX.fr.kidv (i := p) (by omega)
        have hfz := hX.fr.thaw (i := p) (by omega) 1
        have HOWN : Hid (Owns (w.heap.size + 1 + 1) 113 w2 (kv p) ((kidsK t.ps p k).map (nptr A))) := by have h := hX.fr.own p (by omega); rw [frX_kids] at h; exact h
        have HXX := Lib.hid hX
        have HAP : Hid (A p ≠ w.heap.size + 1 ∧ (kv p).ownBlock ≠ some (w.heap.size + 1) ∧ (kv p).ownBlock ≠ some (A p) ∧ w.heap.size + 1 < w2.heap.size ∧ A p < w2.heap.size) := ⟨(hX.fr.far (by omega)).1, (hX.fr.far (by omega)).2, hX.fr.apart p p (by omega) (by omega), hX.row.lt, hX.fr.lt (by omega)⟩
        have i0 : (0 : Int) ≤ (p : Int) := by omega
        have i1 : (p : Int) < (t.ps.length : Int) := by omega
        have i2 : (0 : Int) ≤ (k : Int) := by omega
        have i3 : (k : Int) < (t.ps.length : Int) := by omega
        have HKL : Hid (((kidsK t.ps p k).map (nptr A)).length ≤ 1000000) := by unfold Hid; rw [List.length_map]; have := kidsK_len t.ps p k; omega
        have HPUSH : Hid (∀ g cap w', Owns (w.heap.size + 1 + 1) 113 w' (.slice (some ⟨g, 0, none⟩) (((kidsK t.ps p k).map (nptr A)).length + 1) cap) ((kidsK t.ps p k).map (nptr A) ++ [.pointer (some ⟨wo.heap.size, 0, none⟩)]) → w2.grownBy w' (kv p).ownBlock → ((kv p).ownBlock = some g ∨ w2.heap.size ≤ g) → NdW w1 (w'.setCell ⟨A p, 1, none⟩ (.slice (some ⟨g, 0, none⟩) (((kidsK t.ps p k).map (nptr A)).length + 1) cap)) (w.heap.size + 1) t.ps.length (k + 1) t) := fun g cap w' h1 h2 h3 => hX.push hpk HPP.out (by rw [HNK.out]; exact h1) h2 (fun b hb => by cases hb; exact h3)
        clear hAk hX HX hco hfo hcP hcN hc0 hc1
        generalize nptr A = na at *
        generalize hap : A p = ap at *
        generalize wo.heap.size = ak at *
        generalize kv p = ov at *
        generalize List.map na (kidsK t.ps p k) = vs at *
        have HOW2 : Hid (Owns (w.heap.size + 1 + 1) 113 (w2.alloc (.cells #[.pointer (some ⟨ak, 0, none⟩)] 113)).drew ov vs) := HOWN.out.alloc _
        have HCN : Hid ((w2.alloc (.cells #[.pointer (some ⟨ak, 0, none⟩)] 113)).drew.cell? ⟨w2.heap.size, 0, none⟩ = some (.pointer (some ⟨ak, 0, none⟩))) := cell_at_new _ _ _ 0
        have HBS : Hid (w.heap.size + 1 + 1 ≤ (w2.alloc (.cells #[.pointer (some ⟨ak, 0, none⟩)] 113)).drew.heap.size) := by
          have := HAP.out.2.2.2.1
          show _ ≤ (w2.alloc _).heap.size
          rw [World.size_alloc]; omega
        have HFAR : Hid (∀ (w' : World), (w2.alloc (.cells #[.pointer (some ⟨ak, 0, none⟩)] 113)).drew.grownBy w' ov.ownBlock → w'.cell? ⟨w.heap.size + 1, p, none⟩ = some (.pointer (some ⟨ap, 0, none⟩)) ∧ w'.cell? ⟨w.heap.size + 1, k, none⟩ = some (.pointer (some ⟨ak, 0, none⟩)) ∧ w'.cell? ⟨ap, 1, none⟩ = some ov ∧ w'.frozen? ⟨ap, 1, none⟩ = false) := fun w' hg => by
          obtain ⟨q1, q2, q3, q4, q5⟩ := HAP.out
          have hl : ∀ b, b < w2.heap.size → b < (w2.alloc (.cells #[.pointer (some ⟨ak, 0, none⟩)] 113)).drew.heap.size := fun b hb => by show b < (w2.alloc _).heap.size; rw [World.size_alloc]; omega
          have hu := Up.alloc w2 (.cells #[.pointer (some ⟨ak, 0, none⟩)] 113)
          refine ⟨?_, ?_, ?_, ?_⟩
          · rw [hg.cell_far _ (hl _ q4) (Ne.symm q2)]; exact hu.cell hr1
          · rw [hg.cell_far _ (hl _ q4) (Ne.symm q2)]; exact hu.cell hr2
          · rw [hg.cell_far _ (hl _ q5) (Ne.symm q3)]; exact hu.cell hkc
          · rw [hg.frozen_far _ (hl _ q5) (Ne.symm q3)]; exact (Below.frozen hu (p := ⟨ap, 1, none⟩) q5).trans hfz
        have hr1a := (Up.alloc w2 (.cells #[.pointer (some ⟨ak, 0, none⟩)] 113)).cell hr1
        have hr2a := (Up.alloc w2 (.cells #[.pointer (some ⟨ak, 0, none⟩)] 113)).cell hr2
        have hkca := (Up.alloc w2 (.cells #[.pointer (some ⟨ak, 0, none⟩)] 113)).cell hkc
        clear HXX
        refine region_T (by kernel_rfl) 20 (fun w' => w'.cell? ⟨w.heap.size + 1, p, none⟩ = some (.pointer (some ⟨ap, 0, none⟩)) ∧ w'.cell? ⟨w.heap.size + 1, k, none⟩ = some (.pointer (some ⟨ak, 0, none⟩)) ∧ w'.cell? ⟨ap, 1, none⟩ = some ov) ⟨hr1, hr2, hkc⟩ (fun hS => ?_)
        simp only [List.size_toArray, List.length_cons, List.length_nil, Nat.reduceAdd, Array.replicate_succ, Array.replicate_zero, List.push_toArray, List.nil_append, List.cons_append]
        refine anyT.take (i := 0) (v := ?gv0) rfl (by kernel_rfl) (fun _ _ _ h => h) (by rfl) (fun w hSw => ?gy0) hS ?gr0
        case gy0 =>
          (try dsimp only at hSw)
          go_simp
          try with_reducible rfl
        try simp only [Act.put, List.setIfInBounds_toArray, List.set_cons_zero, List.set_cons_succ]
        refine anyT.take (i := 1) (v := ?gv1) rfl (by kernel_rfl) (fun _ _ _ h => h) (by rfl) (fun w hSw => ?gy1) hS ?gr1
        case gy1 =>
          (try dsimp only at hSw)
          go_simp
          try with_reducible rfl
        try simp only [Act.put, List.setIfInBounds_toArray, List.set_cons_zero, List.set_cons_succ]
        refine anyT.take (i := 2) (v := ?gv2) rfl (by kernel_rfl) (fun _ _ _ h => h) (by rfl) (fun w hSw => ?gy2) hS ?gr2
        case gy2 =>
          (try dsimp only at hSw)
          go_simp
          try with_reducible rfl
        try simp only [Act.put, List.setIfInBounds_toArray, List.set_cons_zero, List.set_cons_succ]
        refine anyT.take (i := 3) (v := ?gv3) rfl (by kernel_rfl) (fun _ _ _ h => h) (by rfl) (fun w hSw => ?gy3) hS ?gr3
        case gy3 =>
          (try dsimp only at hSw)
          go_simp
          try with_reducible rfl
        try simp only [Act.put, List.setIfInBounds_toArray, List.set_cons_zero, List.set_cons_succ]
        refine anyT.take (i := 4) (v := ?gv4) rfl (by kernel_rfl) (fun _ _ _ h => h) (by rfl) (fun w hSw => ?gy4) hS ?gr4
        case gy4 =>
          (try dsimp only at hSw)
          go_simp
          try with_reducible rfl
        try simp only [Act.put, List.setIfInBounds_toArray, List.set_cons_zero, List.set_cons_succ]
        refine anyT.take (i := 5) (v := ?gv5) rfl (by kernel_rfl) (fun _ _ _ h => h) (by rfl) (fun w hSw => ?gy5) hS ?gr5
        case gy5 =>
          (try dsimp only at hSw)
          go_simp
          try with_reducible rfl
        try simp only [Act.put, List.setIfInBounds_toArray, List.set_cons_zero, List.set_cons_succ]
        refine anyT.take (i := 6) (v := ?gv6) rfl (by kernel_rfl) (fun _ _ _ h => h) (by rfl) (fun w hSw => ?gy6) hS ?gr6
        case gy6 =>
          (try dsimp only at hSw)
          go_simp
          try with_reducible rfl
        try simp only [Act.put, List.setIfInBounds_toArray, List.set_cons_zero, List.set_cons_succ]
        refine anyT.take (i := 7) (v := ?gv7) rfl (by kernel_rfl) (fun _ _ _ h => h) (by rfl) (fun w hSw => ?gy7) hS ?gr7
        case gy7 =>
          (try dsimp only at hSw)
          go_simp
          try with_reducible rfl
        try simp only [Act.put, List.setIfInBounds_toArray, List.set_cons_zero, List.set_cons_succ]
        refine anyT.take (i := 8) (v := ?gv8) rfl (by kernel_rfl) (fun _ _ _ h => h) (by rfl) (fun w hSw => ?gy8) hS ?gr8
        case gy8 =>
          (try dsimp only at hSw)
          go_simp
          try with_reducible rfl
        try simp only [Act.put, List.setIfInBounds_toArray, List.set_cons_zero, List.set_cons_succ]
        refine anyT.take (i := 9) (v := ?gv9) rfl (by kernel_rfl) (fun _ _ _ h => h) (by rfl) (fun w hSw => ?gy9) hS ?gr9
        case gy9 =>
          (try dsimp only at hSw)
          go_simp
          try with_reducible rfl
        try simp only [Act.put, List.setIfInBounds_toArray, List.set_cons_zero, List.set_cons_succ]
        refine anyT.take (i := 10) (v := ?gv10) rfl (by kernel_rfl) (fun _ _ _ h => h) (by rfl) (fun w hSw => ?gy10) hS ?gr10
        case gy10 =>
          (try dsimp only at hSw)
          go_simp
          try with_reducible rfl
        try simp only [Act.put, List.setIfInBounds_toArray, List.set_cons_zero, List.set_cons_succ]
        refine anyT.take (i := 11) (v := ?gv11) rfl (by kernel_rfl) (fun _ _ _ h => h) (by rfl) (fun w hSw => ?gy11) hS ?gr11
        case gy11 =>
          (try dsimp only at hSw)
          go_simp
          try with_reducible rfl
        try simp only [Act.put, List.setIfInBounds_toArray, List.set_cons_zero, List.set_cons_succ]
        refine anyT.take (i := 12) (v := ?gv12) rfl (by kernel_rfl) (fun _ _ _ h => h) (by rfl) (fun w hSw => ?gy12) hS ?gr12
        case gy12 =>
          (try dsimp only at hSw)
          go_simp
          try with_reducible rfl
        try simp only [Act.put, List.setIfInBounds_toArray, List.set_cons_zero, List.set_cons_succ]
        refine anyT.take (i := 13) (v := ?gv13) rfl (by kernel_rfl) (fun _ _ _ h => h) (by rfl) (fun w hSw => ?gy13) hS ?gr13
        case gy13 =>
          (try dsimp only at hSw)
          go_simp
          try with_reducible rfl
        try simp only [Act.put, List.setIfInBounds_toArray, List.set_cons_zero, List.set_cons_succ]
        refine anyT.take (i := 14) (v := ?gv14) rfl (by kernel_rfl) (fun _ _ _ h => h) (by rfl) (fun w hSw => ?gy14) hS ?gr14
        case gy14 =>
          (try dsimp only at hSw)
          go_simp
          try with_reducible rfl
        try simp only [Act.put, List.setIfInBounds_toArray, List.set_cons_zero, List.set_cons_succ]
        refine anyT.step (i := 15) rfl (by kernel_rfl) (fun K' hK => ?_)
        go_simp
        refine hK.out _ _ (fun _ => ⟨(Up.alloc _ _).cell hr1, (Up.alloc _ _).cell hr2, (Up.alloc _ _).cell hkc⟩) (fun hS => ?_)
        try simp only [List.setIfInBounds_toArray, List.set_cons_zero, List.set_cons_succ]
        refine anyT.step (i := 16) rfl (by kernel_rfl) (fun K' hK => ?_)
        refine step_app1 (by rfl) _ _ _ (by rfl) (w.heap.size + 1 + 1) 113 _ 8 Tryz.underlying111 Tryz.infoNP (by rfl) (by decide) (by rfl) HOW2.out (.pointer (some ⟨ak, 0, none⟩)) w2.heap.size (by rfl) HCN.out (by rfl) HKL.out HBS.out ?_
        intro g cap w4 hown4 hg4 hor4 hbe4
        obtain ⟨hr1b, hr2b, hkcb, hfz4⟩ := HFAR.out w4 hg4
        have HOWN4 := Lib.hid hown4
        have HG4 := Lib.hid (grown_alloc_drew hg4)
        have HOR4 := Lib.hid hor4
        clear hown4 hg4 hor4 hbe4
        refine hK.out _ _ (fun _ => ⟨hr1b, hr2b, hkcb⟩) (fun hS => ?_)
        replace hS := hS ⟨19, by decide, rfl⟩
        try simp only [Act.put, List.setIfInBounds_toArray, List.set_cons_zero, List.set_cons_succ]
        refine anyT.take (i := 17) (v := ?gv17) rfl (by kernel_rfl) (fun _ _ _ h => h) (by rfl) (fun w hSw => ?gy17) hS ?gr17
        case gy17 =>
          (try dsimp only at hSw)
          go_simp
          try with_reducible rfl
        try simp only [Act.put, List.setIfInBounds_toArray, List.set_cons_zero, List.set_cons_succ]
        refine anyT.take (i := 18) (v := ?gv18) rfl (by kernel_rfl) (fun _ _ _ h => h) (by rfl) (fun w hSw => ?gy18) hS ?gr18
        case gy18 =>
          (try dsimp only at hSw)
          go_simp
          try with_reducible rfl
        try simp only [Act.put, List.setIfInBounds_toArray, List.set_cons_zero, List.set_cons_succ]
        refine anyT.step (i := 19) rfl (by kernel_rfl) (fun K' hK => ?_)
        go_simp
        refine hK.out _ _ (not_more (by kernel_rfl)) (fun hS => ?_)
        refine anyT.done (by kernel_rfl) ?_
        go_wp2_with fail
        go_roundw
        case rel =>
          refine ⟨k + 1, by omega, by go_num, HPUSH.out g cap w4 HOWN4.out HG4.out ?_⟩
          rcases HOR4.out with h | h
          · exact .inl h
          · refine .inr ?_
            rw [h]; exact Nat.le_trans (Nat.le_succ _) (Nat.le_of_eq (World.size_alloc _ _).symm)
        case measure => simp [intOf]; omega
      · have HPP : Hid (gi t.ps k < 0) := by unfold Hid; omega
        have d1 : decide ((0 : Int) ≤ gi t.ps k) = false := by simpa using hp0
        clear h0 hp0
        go_wp2_with fail
        go_roundw
        case rel =>
          obtain ⟨A', kv', _, hX⟩ := HX.out
          exact ⟨k + 1, by omega, by go_num, hX.root HPP.out⟩
        case measure => simp [intOf]; omega
    · obtain rfl : k = t.ps.length := by omega
      go_wp2_with fail
      go_ret
      obtain ⟨hup, A, kv, hF, hrow⟩ := hO.out
      exact ⟨Below.trans HUW.out (hup.mono (Nat.le_succ _)), _, A, kv, rfl, hF.base_le (by omega), hrow.congr fun i hi => by rw [if_pos hi]⟩
end Go.Proofs.YtpjijbophjdgaaaGreat
