/- The contract of phylotree.Check. A slice that a call grows by one element at a time. .. -/
import Derived.Test.YteegefnjnikngaaGreatQ2
import Derived.Maps.AppendAt
import Derived.Deep.AppendLies
import Derived.Shelf.Abstract
import Derived.Test.YteegefnjnikngaaGreatQ1
set_option maxRecDepth 100000
namespace Go.Proofs.YteegefnjnikngaaGreat
section
open Go.RowKit Go.Deep
theorem Tryz.Ww : (Tryz.prog.info? 4).map (fun i => (i.zero, i.size, i.bytes)) = some (some (.bool false), 1, 1) := by kernel_rfl
structure wC (w0 wr : World) (B n : Nat) (f : Nat → Bool) : Prop where
 below : Below B w0 wr
 row : wr.rowIs B 4 n (fun j => .bool (f j))
 size : wr.heap.size = B + 1
theorem wC.start (w0 : World) (n : Nat) (f : Nat → Bool) (hf : ∀ j, f j = false) : wC w0 (w0.alloc (.cells (madeCells #[.bool false] n) 4)) w0.heap.size n f :=
 ⟨(Below.refl _ _).alloc (Nat.le_refl _) _, (World.rowIs_made w0 _ n _).congr fun i _ => by simp [hf], by simp⟩
theorem wC.set {w0 wr : World} {B n q : Nat} {f g : Nat → Bool} (h : wC w0 wr B n f) (hg : ∀ j, g j = (f j || decide (j = q))) :
  wC w0 (wr.setCell ⟨B, q, none⟩ (.bool true)) B n g :=
 ⟨h.below.setCell (p := ⟨B, q, none⟩) (Nat.le_refl _) _, (h.row.set q _).congr fun i _ => by
  by_cases e : i = q
  ·simp [e, hg]
  ·simp [e, hg], by simp [h.size]⟩
theorem wC.congr {w0 wr : World} {B n : Nat} {f g : Nat → Bool} (h : wC w0 wr B n f) (hg : ∀ j, g j = f j) : wC w0 wr B n g :=
 ⟨h.below, h.row.congr fun i _ => by simp [hg], h.size⟩
set_option maxHeartbeats 800000 in
theorem q8 (S : Nat → Prop) (w : World) (v : Value) (t : av) (h : ay S w v t) (hp : t.ps.length ≤ 1000000) (hn : t.ns.length ≤ 1000000) (hz : ∀ k, (gs t.ns k).size ≤ 70000) :
    Calls Tryz.prog 92 #[v] w fun e w' => e = .returned (.int .i64 (aB t)) ∧ Below w.heap.size w w' := by
  obtain ⟨P, N, rfl, hP, hN⟩ := h
  obtain ⟨ps, ns⟩ := t
  simp only at *
  have cD : aB ⟨ps, ns⟩ = if ps.length = 0 then 5 else if 64 < ps.length then 4 else if ns.length ≠ ps.length then 9 else if gN ps then firstNZ (gq ps ns) ps.length else 2 := rfl
  have HF := aa cD
  clear cD
  have JN := hP.keep (Kept.below ((Below.refl _ w).alloc (Nat.le_refl _) (.cells #[P, N] 39)))
  have JO := hN.keep (Kept.below ((Below.refl _ w).alloc (Nat.le_refl _) (.cells #[P, N] 39)))
  clear hP hN
  obtain ⟨p, cap, rfl, hcap, HP⟩ := aA.open JN
  obtain ⟨q, cW, rfl, yc, HN⟩ := aA.open JO
  have jS : Below w.heap.size w (w.alloc (.cells #[.slice p ps.length cap, .slice q ns.length cW] 39)) := (Below.refl _ _).alloc (Nat.le_refl _) _
  have Gc := aa HP
  have CJ := aa HN
  clear JN JO HP HN
  by_cases h0 : ps.length = 0
  · have HX : Hid (ps.length = 0) := h0
    have h0' : ((ps.length : Int) == 0) = true := by simp [h0]
    clear h0
    go_enter Tryz.func92, Tryz.ntmps92
    go_wp2
    go_ret
    exact ⟨aH (by rw [HF.out, if_pos HX.out]), jS⟩
  have h0' : ((ps.length : Int) == 0) = false := by simpa using h0
  by_cases h1 : 64 < ps.length
  · go_enter Tryz.func92, Tryz.ntmps92
    go_wp2
    go_ret
    exact ⟨aH (by rw [HF.out, if_neg h0, if_pos h1]), jS⟩
  by_cases h2 : ns.length = ps.length
  · have Aq : ((ns.length : Int) != ps.length) = false := by simp [h2]
    have H2 := aa h2
    clear h2
    have hmk := fun W => run_make_row' (P := Tryz.prog) 119 4 (.bool false) 1 Tryz.underlying119 Tryz.Ww rfl .i64 .i64 ps.length (by omega) (by omega) W
    go_enter Tryz.func92, Tryz.ntmps92
    go_wp2
    clear hmk jS
    have hstart := wC.start (w.alloc (.cells #[.slice p ps.length cap, .slice q ns.length cW] 39)) ps.length (fun j => Al ps 0 j) (fun j => rfl)
    rw [World.size_alloc] at hstart
    have kF : (w.alloc (.cells #[.slice p ps.length cap, .slice q ns.length cW] 39)).cell? ⟨w.heap.size, 0, none⟩ = some (.slice p ps.length cap) := by simp [World.cell?_alloc_new]
    have q9 : (w.alloc (.cells #[.slice p ps.length cap, .slice q ns.length cW] 39)).cell? ⟨w.heap.size, 1, none⟩ = some (.slice q ns.length cW) := by simp [World.cell?_alloc_new]
    have hb0 : Below w.heap.size w (w.alloc (.cells #[.slice p ps.length cap, .slice q ns.length cW] 39)) := (Below.refl _ _).alloc (Nat.le_refl _) _
    have hsz : (w.alloc (.cells #[.slice p ps.length cap, .slice q ns.length cW] 39)).heap.size = w.heap.size + 1 := by simp
    generalize hw0 : w.alloc (.cells #[.slice p ps.length cap, .slice q ns.length cW] 39) = w0 at *
    clear hw0
    have HS := aa hsz
    have Gd := aa kF
    have Ge := aa q9
    clear hsz kF q9
    go_loopw [4, 5, 33] (fun _ _ i wr => ∃ k : Nat, k ≤ ps.length ∧ i = .int .i64 k ∧ Hid (∀ j, j < k → ig j (gi ps j) = true) ∧ wC w0 wr (w.heap.size + 1) ps.length (fun j => Al ps k j)) (fun _ _ i _ => ps.length - (intOf i).toNat)
    case atStart => exact ⟨0, Nat.zero_le _, rfl, fun j hj => absurd hj (Nat.not_lt_zero _), hstart⟩
    case round =>
      obtain ⟨k, hk, rfl, hd, hW⟩ := hrel
      clear hstart
      by_cases hlt : k < ps.length
      · obtain ⟨b, off, rfl, hc0⟩ := Gc.out k hlt
        have hc : wr.cell? ⟨b, off + k, none⟩ = some (.int .i64 (gi ps k)) := by
          rw [hW.below.cell (p := ⟨b, off + k, none⟩) (by have := World.block_lt_of_cell? _ _ hc0; have := HS.out; simp at *; omega)]; exact hc0
        clear hc0
        generalize hpk : gi ps k = x at *
        have HX := aa hpk
        clear hpk
        by_cases hg : 0 < k ∧ 0 ≤ x ∧ x < k
        · obtain ⟨g1, g2, g3⟩ := hg
          obtain ⟨y, rfl⟩ := Int.eq_ofNat_of_zero_le g2
          have hi1 := hW.row.cell (i := y) (by omega)
          have hi2 := hW.row.frozen y
          go_wp2
          go_roundw
          case rel => exact ⟨k + 1, by omega, by go_num, fun j hj => if e : j = k then by subst e; rw [HX.out]; unfold ig; rw [if_neg (by omega)]; simp; omega else hd.out j (by omega), hW.set (q := y) fun j => by rw [Cw, HX.out]; simp only [g1, decide_true, Bool.true_and]; congr 1; rw [Bool.eq_iff_iff]; simp; omega⟩
          case measure => simp [intOf]; omega
        · by_cases CK : k = 0 ∧ x = -1
          · obtain ⟨rfl, rfl⟩ := CK
            have hc' : wr.cell? ⟨b, off, none⟩ = some (.int .i64 (-1)) := by simpa using hc
            go_wp2
            go_roundw
            case rel => exact ⟨1, by omega, by go_num, fun j hj => by obtain rfl : j = 0 := by omega
                                                                      rw [HX.out]; rfl, hW.congr fun j => by rw [Cw]; simp⟩
            case measure => simp [intOf]; omega
          · have kV : ig k x = false := by
              unfold ig; split
              · rename_i e; simp; exact fun e2 => CK ⟨e, e2⟩
              · simp; intro; omega
            rw [← HX.out] at kV
            have HB := aa (Cx hlt kV)
            clear kV
            go_wp2
            all_goals go_ret
            all_goals exact ⟨aH (by rw [HF.out, if_neg h0, if_neg h1, if_neg (by rw [H2.out]; simp), HB.out]; simp), hb0.trans (hW.below.mono (by omega))⟩
      · obtain rfl : k = ps.length := by omega
        have hok := aa (xe hd.out)
        have lT : wr.cell? ⟨w.heap.size, 1, none⟩ = some (.slice q ns.length cW) := by
          rw [hW.below.cell (p := ⟨w.heap.size, 1, none⟩) (by simp)]; exact Ge.out
        clear hlt hk hd Gc hcap
        go_wp2
        go_loop [6, 7, 66] (fun _ _ i => ∃ k : Nat, k ≤ ps.length ∧ i = .int .i64 k ∧ Hid (∀ j, j < k → gq ps ns j = 0)) (fun _ _ i => ps.length - (intOf i).toNat)
        case atStart => exact ⟨0, Nat.zero_le _, rfl, fun j hj => absurd hj (Nat.not_lt_zero _)⟩
        case round =>
          obtain ⟨k, hk, rfl, hd⟩ := hrel
          have hlen : ns.length ≤ ps.length ∧ ps.length ≤ ns.length := by have := H2.out; omega
          obtain ⟨gF, hl2⟩ := hlen
          by_cases hlt : k < ps.length
          · obtain ⟨b, off, rfl, hc0⟩ := CJ.out k (by have := H2.out; omega)
            have hpre : aA Any wr (.slice (some ⟨b, off, none⟩) k cW) k (fun j => .string (gs ns j)) := by
              refine ⟨_, _, rfl, by omega, .inr ⟨b, off, rfl, trivial, fun j hj => ?_⟩⟩
              obtain ⟨b', off', e, tj⟩ := CJ.out j (by omega)
              cases e
              rw [hW.below.cell (p := ⟨b, off + j, none⟩) (by have := World.block_lt_of_cell? _ _ tj; have := HS.out; simp at *; omega)]; exact tj
            have hc : wr.cell? ⟨b, off + k, none⟩ = some (.string (gs ns k)) := by
              rw [hW.below.cell (p := ⟨b, off + k, none⟩) (by have := World.block_lt_of_cell? _ _ hc0; have := HS.out; simp at *; omega)]; exact hc0
            clear hc0
            have hi1 := hW.row.cell (i := k) (by omega)
            have hsk : (List.range k).any (fun j => decide (gs ns k = gs ns j)) = cE ns k := by
              unfold cE; congr 1; funext j; exact decide_eq_decide.2 eq_comm
            have JP := aa hsk
            clear hsk
            have CL := hz k
            have hne : gq ps ns k = if isIn ps k then (if (gs ns k).size = 0 then 0 else 14) else if aP (gs ns k).data.toList then (if cE ns k then 7 else 0) else 14 := rfl
            have hnil := toList_nil (gs ns k)
            have hend : gq ps ns k ≠ 0 → aB ⟨ps, ns⟩ = gq ps ns k := fun hn0 => by
              rw [HF.out, if_neg h0, if_neg h1, if_neg (by rw [H2.out]; simp), hok.out, if_pos rfl]; exact eo hlt hd.out hn0
            have HE := aa hne
            have fP := aa hend
            have oz := aa hnil
            have JQ := aa hW
            clear hne hend hnil CJ hz hW
            have hi2 : Al ps ps.length k = isIn ps k := rfl
            rw [hi2] at hi1
            clear hi2
            generalize hin : isIn ps k = bi at *
            generalize hnm : aP (gs ns k).data.toList = bn at *
            generalize kX : cE ns k = bs at *
            generalize Ar : gs ns k = g at *
            have gP := aa hnm
            clear hin hnm kX Ar
            cases bi
            · cases bn
              · go_wp2_with (first | (go_at_call 148; refine (qZ _ CL _).mono ?_; rintro e w' ⟨rfl, rfl⟩; rw [gP.out]) | (go_at_call 39; refine (fe Any _ _ k (fun j => gs ns j) _ hpre (by omega)).mono ?_; rintro e w' ⟨rfl, rfl⟩; rw [JP.out]))
                go_ret
                exact ⟨aH (by rw [fP.out (by rw [HE.out]; simp), HE.out]; simp), hb0.trans (JQ.out.below.mono (by omega))⟩
              · cases bs
                · go_wp2_with (first | (go_at_call 148; refine (qZ _ CL _).mono ?_; rintro e w' ⟨rfl, rfl⟩; rw [gP.out]) | (go_at_call 39; refine (fe Any _ _ k (fun j => gs ns j) _ hpre (by omega)).mono ?_; rintro e w' ⟨rfl, rfl⟩; rw [JP.out]))
                  go_round
                  case rel => exact ⟨k + 1, by omega, by go_num, fun j hj => if e : j = k then by subst e; rw [HE.out]; simp else hd.out j (by omega)⟩
                  case measure => simp [intOf]; omega
                · go_wp2_with (first | (go_at_call 148; refine (qZ _ CL _).mono ?_; rintro e w' ⟨rfl, rfl⟩; rw [gP.out]) | (go_at_call 39; refine (fe Any _ _ k (fun j => gs ns j) _ hpre (by omega)).mono ?_; rintro e w' ⟨rfl, rfl⟩; rw [JP.out]))
                  go_ret
                  exact ⟨aH (by rw [fP.out (by rw [HE.out]; simp), HE.out]; simp), hb0.trans (JQ.out.below.mono (by omega))⟩
            · by_cases hg0 : g.size = 0
              · have hg1 : g.toList = [] := oz.out.2 hg0
                have hg2 : (!g.toList.isEmpty) = false := by simp [hg1]
                have ri := aa hg0
                clear hg0
                go_wp2_with (first | (go_at_call 148; refine (qZ _ CL _).mono ?_; rintro e w' ⟨rfl, rfl⟩; rw [gP.out]) | (go_at_call 39; refine (fe Any _ _ k (fun j => gs ns j) _ hpre (by omega)).mono ?_; rintro e w' ⟨rfl, rfl⟩; rw [JP.out]))
                go_round
                case rel => exact ⟨k + 1, by omega, by go_num, fun j hj => if e : j = k then by subst e; rw [HE.out]; simp [ri.out] else hd.out j (by omega)⟩
                case measure => simp [intOf]; omega
              · have hg1 : (g.toList == []) = false := by
                  rw [Bool.eq_false_iff]; intro e; exact hg0 (oz.out.1 (by simpa using e))
                have hg2 : g.toList.isEmpty = false := by
                  rw [Bool.eq_false_iff]; intro e; exact hg0 (oz.out.1 (by simpa using e))
                go_wp2_with (first | (go_at_call 148; refine (qZ _ CL _).mono ?_; rintro e w' ⟨rfl, rfl⟩; rw [gP.out]) | (go_at_call 39; refine (fe Any _ _ k (fun j => gs ns j) _ hpre (by omega)).mono ?_; rintro e w' ⟨rfl, rfl⟩; rw [JP.out]))
                go_ret
                exact ⟨aH (by rw [fP.out (by rw [HE.out]; simp [hg0]), HE.out]; simp [hg0]), hb0.trans (JQ.out.below.mono (by omega))⟩
          · have hk2 : k = ps.length := by omega
            clear hlt
            go_wp2
            go_ret
            exact ⟨aH (by rw [HF.out, if_neg h0, if_neg h1, if_neg (by rw [H2.out]; simp), hok.out, if_pos rfl, di fun j hj => hd.out j (by omega)]), hb0.trans (hW.below.mono (by omega))⟩
  · have Aq : ((ns.length : Int) != ps.length) = true := by simp; omega
    go_enter Tryz.func92, Tryz.ntmps92
    go_wp2
    go_ret
    exact ⟨aH (by rw [HF.out, if_neg h0, if_neg h1, if_pos h2]), jS⟩
end
section
open Go.RowKit Go.Deep
def az (base : Nat) (e : TypeId) (w : World) (v : Value) (vs : List Value) : Prop := w.ownsRow base e 1 v vs.length vs
theorem az.nil (base : Nat) (e : TypeId) (w : World) : az base e w (.slice none 0 0) [] := World.ownsRow_nil _ _ _ _
theorem aA.congr {S : Nat → Prop} {w : World} {v : Value} {n : Nat} {f g : Nat → Value} (h : aA S w v n f) (e : ∀ k, k < n → f k = g k) : aA S w v n g := by
 obtain ⟨p, cap, rfl, hn, h⟩ := h
 refine ⟨p, cap, rfl, hn, ?_⟩
 rcases h with h | ⟨b, off, rfl, hS, h⟩
 ·exact .inl h
 ·exact .inr ⟨b, off, rfl, hS, fun k hk => by rw [← e k hk]; exact h k hk⟩
theorem az.xk {base : Nat} {e : TypeId} {w : World} {v : Value} {vs : List Value} (h : az base e w v vs) : aA (fun b => base ≤ b) w v vs.length (fun k => vs.getD k undef) := by
 rcases h.2 with ⟨rfl, h0⟩ | ⟨g, cap, cur, rfl, hg, hc, hn, _, _, ht⟩
 ·exact ⟨none, 0, by rw [h0], by omega, .inl h0⟩
 ·refine ⟨_, cap, rfl, hn, .inr ⟨g, 0, rfl, hg, fun k hk => ?_⟩⟩
  have := World.ownsRow.cells h (g := g) rfl k vs[k] (by simp [hk])
  have My : (⟨g, 0, none⟩ : Addr).add k = ⟨g, 0 + k, none⟩ := by unfold Addr.add; split <;> simp_all
  rw [My] at this
  rw [this]; simp [hk]
theorem az.ints {base : Nat} {e : TypeId} {w : World} {v : Value} {xs : List Int} (h : az base e w v (xs.map (Value.int .i64))) : ax (fun b => base ≤ b) w v xs := by
 have := h.xk
 rw [List.length_map] at this
 exact this.congr fun k hk => by simp [gi, hk]
theorem az.strs {base : Nat} {e : TypeId} {w : World} {v : Value} {xs : List ByteArray} (h : az base e w v (xs.map Value.string)) : au (fun b => base ≤ b) w v xs := by
 have := h.xk
 rw [List.length_map] at this
 exact this.congr fun k hk => by simp [gs, hk]
theorem az.kept {base : Nat} {e : TypeId} {w w' : World} {v : Value} {vs : List Value} (h : az base e w v vs) (k : ∀ b, base ≤ b → b < w.heap.size → w'.heap[b]? = w.heap[b]?) : az base e w' v vs := by
 refine ⟨h.1, ?_⟩
 rcases h.2 with h0 | ⟨g, cap, cur, rfl, hg, hc, hr⟩
 ·exact .inl h0
 ·have hlt : g < w.heap.size := by
   rcases Nat.lt_or_ge g w.heap.size with h1 | h1
   ·exact h1
   ·rw [Array.getElem?_eq_none h1] at hc; cases hc
  exact .inr ⟨g, cap, cur, rfl, hg, (k g hg hlt).trans hc, hr⟩
theorem az.alloc {base : Nat} {e : TypeId} {w : World} {v : Value} {vs : List Value} (h : az base e w v vs) (o : Obj) : az base e (w.alloc o) v vs := World.ownsRow.alloc h o
theorem gu {w w' : World} {o : Obj} {row : Option Nat} (h : (w.alloc o).grownBy w' row) : w.grownBy w' row :=
 ⟨h.os, h.tape, h.output, Nat.le_trans (by simp) h.size, fun k hk hne => (h.block k (by simp; omega) hne).trans (Below.heap_alloc w o k hk)⟩
theorem az.cQ {base : Nat} {e : TypeId} {w w' : World} {v : Value} {vs : List Value} (h : az base e w v vs) (hg : w.grownBy w' v.ownBlock) (hb : base ≤ w.heap.size) : Below base w w' :=
 (Below.refl base w).grown hg hb fun k hk => (World.ownsRow.lt h k hk).1
section
variable {P : Program} {ops : Array Oper} {rest : List Oper} {o : Oper} {a : Act} {Q : Exit → Act → World → Prop}
theorem jT (W : World) (hgd : o.guard = none) (s x : Operand) (t : TypeId) (ho : o.op = .call { callee := .builtin .append, args := #[s, x], argTypes := #[t, t] })
  (base : Nat) (e : TypeId) (z : Value) (bytes : Nat) (ht : P.underlying t = some (.slice e)) (hinfo : (P.info? e).map (fun i => (i.zero, i.size, i.bytes)) = some (some z, 1, bytes))
  (hz1 : z.cells.size = 1) (kY : bytes ≤ 64) {v : Value} {vs : List Value} (hown : az base e W v vs) (hs : a.eval s = v) (u : Value)
  (hx : a.eval x = .slice (some ⟨W.heap.size, 0, none⟩) 1 1) (h1 : u.oneCell' = true) (hn : vs.length ≤ 1000000) (hbase : base ≤ W.heap.size)
  (h : ∀ g cap w', az base e w' (.slice (some ⟨g, 0, none⟩) (vs.length + 1) cap) (vs ++ [u]) → W.grownBy w' v.ownBlock → Below base W w' → wpList P ops Q rest (a.put o.dst (.slice (some ⟨g, 0, none⟩) (vs.length + 1) cap)) w') :
  wpList P ops Q (o :: rest) a (W.alloc (.cells #[u] e)) := by
 obtain ⟨i, hi, hzz⟩ := Option.map_eq_some_iff.1 hinfo
 simp only [Prod.mk.injEq] at hzz
 obtain ⟨hz, hs1, hb⟩ := hzz
 refine wpList_append_lies _ hgd s x t ho base e i z 1 bytes ht hi hz hs1 hb hz1 (by omega) v vs.length vs hs (hown.alloc _) ⟨W.heap.size, 0, none⟩ 1 1 [u] hx rfl (cell_one_new _ _ _) (by simpa using h1) (by omega)
  (by unfold maxLen; omega) ?_ (by simp; omega) _ rfl fun g cap w' h2 h3 _ _ => h g cap w' ?_ (gu h3) (hown.cQ (gu h3) hbase)
 ·have : (vs.length + 1) * bytes ≤ (vs.length + 1) * 64 := Nat.mul_le_mul_left _ kY
  omega
 ·unfold az; rw [List.length_append]; exact h2
end
end
section
open Go.RowKit Go.Deep
def xm (g : Nat) (lb args : Array Value) (res : Value) (w : World) : Prop := Calls Tryz.prog g (args ++ lb) w fun e w' => e = .returned res ∧ w = w'
set_option maxHeartbeats 400000 in
theorem JR (g : Nat) (lb : Array Value) (eg : ∀ args w, (callFunc g args).run Tryz.prog w = .ok (.enter g args) w) (S : Nat → Prop) (w : World) (v : Value) (n : Nat) (f : Nat → Value) (p : Nat → Bool)
  (h : aA S w v n f) (hn : n ≤ 1000000) (hp : ∀ k, k < n → xm g lb #[f k] (.bool (p k)) w) :
  Calls Tryz.prog 127 #[v, .func (.func g) #[] lb] w fun e w' => e = .returned (.int .i64 (bJ p n)) ∧ w = w' := by
 obtain ⟨q, cap, rfl, hcap, H⟩ := h.open
 have HP := aa hp
 clear h hp
 go_enter Tryz.func127, Tryz.ntmps127
 go_wp2_with fail
 go_loop [5, 8] (fun _ i => ∃ k : Nat, k ≤ n ∧ i = .int .i64 k ∧ Hid (∀ j, j < k → p j = false)) (fun _ i => n - (intOf i).toNat)
 case atStart => exact ⟨0, Nat.zero_le _, rfl, fun j hj => absurd hj (Nat.not_lt_zero _)⟩
 case round =>
  obtain ⟨k, hk, rfl, hd⟩ := hrel
  by_cases hlt : k < n
  ·obtain ⟨b, off, rfl, hc⟩ := H k hlt
   clear H
   have hpk := HP.out k hlt
   unfold xm at hpk
   have XJ := aa hpk
   clear hpk HP
   generalize hv : p k = pk at *
   have HV := aa hv
   clear hv
   cases pk
   ·go_wp2_with fail
    refine XJ.out.mono ?_
    rintro e w' ⟨rfl, rfl⟩
    go_wp2_with fail
    go_round
    case rel => exact ⟨k + 1, by omega, by go_num, fun j hj => if e : j = k then by subst e; exact HV.out else hd.out j (by omega)⟩
    case measure => simp [intOf]; omega
   ·go_wp2_with fail
    refine XJ.out.mono ?_
    rintro e w' ⟨rfl, rfl⟩
    go_wp2_with fail
    go_ret
    exact ⟨aH (kT hlt hd.out HV.out).symm, rfl⟩
  ·clear H
   go_wp2_with fail
   go_ret
   exact ⟨aH (gO fun j hj => hd.out j (by omega)).symm, rfl⟩
set_option maxHeartbeats 400000 in
theorem ye (g : Nat) (lb : Array Value) (eg : ∀ args w, (callFunc g args).run Tryz.prog w = .ok (.enter g args) w) (S : Nat → Prop) (w : World) (v : Value) (n : Nat) (f : Nat → Value) (p : Nat → Bool)
  (h : aA S w v n f) (hn : n ≤ 1000000) (hp : ∀ k, k < n → xm g lb #[f k] (.bool (p k)) w) :
  Calls Tryz.prog 68 #[v, .func (.func g) #[] lb] w fun e w' => e = .returned (.bool ((List.range n).any p)) ∧ w = w' := by
 have hx := jR p n
 have HX := aa hx
 have HI := aa (JR g lb eg S w v n f p h hn hp)
 clear hx hp h eg
 go_enter Tryz.func68, Tryz.ntmps68
 go_wp2_with fail
 refine HI.out.mono ?_
 rintro e w' ⟨rfl, rfl⟩
 go_wp2_with fail
 go_ret
 exact ⟨bB (by rw [← HX.out]), rfl⟩
end
section
open Go.RowKit Go.Deep
theorem Tryz.jx : (Tryz.prog.info? 3).map (fun i => (i.zero, i.size, i.bytes)) = some (some (.int .i64 0), 1, 8) := by kernel_rfl
def R5 (w : World) (t : av) (e : Ending) (w' : World) : Prop :=
 Below w.heap.size w w' ∧ ((aB t ≠ 0 ∧ e = .returned (.tuple #[.slice none 0 0, .int .i64 1])) ∨
  (aB t = 0 ∧ ∃ v, e = .returned (.tuple #[v, .int .i64 0]) ∧ ax (fun b => w.heap.size ≤ b) w' v (aC t.ns)))
set_option maxHeartbeats 800000 in
theorem xq (S : Nat → Prop) (w : World) (v : Value) (t : av) (h : ay S w v t) (hp : t.ps.length ≤ 1000000) (hn : t.ns.length ≤ 1000000) (hz : ∀ k, (gs t.ns k).size ≤ 70000) :
  Calls Tryz.prog 37 #[v] w (R5 w t) := by
 obtain ⟨P, N, rfl, hP, hN⟩ := h
 have XK : ay S (w.alloc (.cells #[P, N] 39)) (.agg #[P, N]) t := ay.keep ⟨P, N, rfl, hP, hN⟩ (Kept.below ((Below.refl _ w).alloc (Nat.le_refl _) _))
 have hb0 : Below w.heap.size w (w.alloc (.cells #[P, N] 39)) := (Below.refl _ _).alloc (Nat.le_refl _) _
 have q9 : (w.alloc (.cells #[P, N] 39)).cell? ⟨w.heap.size, 1, none⟩ = some N := by simp [World.cell?_alloc_new]
 have tV := q8 S (w.alloc (.cells #[P, N] 39)) _ t XK hp hn hz
 rw [World.size_alloc] at tV
 have fN := aa tV
 have Ge := aa q9
 have gG := aa hb0
 have HN := aa hN
 clear tV q9 hb0 XK hP hN
 by_cases he : aB t = 0
 ·go_enter Tryz.func37, Tryz.ntmps37
  go_wp2_with fail
  refine fN.out.mono ?_
  rintro e w1 ⟨rfl, hb1⟩
  have iV : Below w.heap.size w w1 := gG.out.trans (hb1.mono (by omega))
  have Gf := HN.out.keep (Kept.below iV)
  have q9 : w1.cell? ⟨w.heap.size, 1, none⟩ = some N := (hb1.cell (p := ⟨w.heap.size, 1, none⟩) (by simp)).trans Ge.out
  obtain ⟨q, cW, rfl, yc, XL⟩ := aA.open Gf
  have R6 := aa XL
  have XM : w.heap.size ≤ w1.heap.size := iV.size
  have HE := aa he
  rw [he]
  clear XL Gf fN Ge gG HN hb1 he
  go_wp2_with fail
  go_loopw [4, 5, 6, 13] (fun v _ _ i wr => ∃ k : Nat, k ≤ t.ns.length ∧ i = .int .i64 k ∧ az w1.heap.size 3 wr v ((lZ t.ns k).map (Value.int .i64)) ∧ Below w1.heap.size w1 wr) (fun _ _ _ i _ => t.ns.length - (intOf i).toNat)
  case atStart => exact ⟨0, Nat.zero_le _, rfl, az.nil _ _ _, Below.refl _ _⟩
  case round =>
   obtain ⟨k, hk, rfl, hown, hbr⟩ := hrel
   by_cases hlt : k < t.ns.length
   ·obtain ⟨b, off, rfl, hc0⟩ := R6.out k hlt
    have hc : wr.cell? ⟨b, off + k, none⟩ = some (.string (gs t.ns k)) := by
     rw [hbr.cell (p := ⟨b, off + k, none⟩) (World.block_lt_of_cell? _ _ hc0)]; exact hc0
    have hsz := hbr.size
    have iW := Cy t.ns k
    have mN := Fz t.ns k
    have hnil := toList_nil (gs t.ns k)
    have oz := aa hnil
    have oA := aa iW
    have dN : Hid (((lZ t.ns k).map (Value.int .i64)).length ≤ 1000000) := by unfold Hid; rw [List.length_map]; omega
    clear hc0 hnil iW mN R6 hz
    generalize Ar : gs t.ns k = g at *
    clear Ar
    by_cases hg0 : g.size = 0
    ·have hg1 : g.toList = [] := oz.out.2 hg0
     have ri := aa hg0
     clear hg0
     go_wp2
     go_roundw
     case rel => exact ⟨k + 1, by omega, by go_num, by rw [oA.out, if_pos ri.out, List.append_nil]; exact hown, hbr⟩
     case measure => simp [intOf]; omega
    ·have hg1 : (g.toList == []) = false := by
      rw [Bool.eq_false_iff]; intro e; exact hg0 (oz.out.1 (by simpa using e))
     have hg2 : (g.toList != []) = true := by
      rw [bne_iff_ne]; intro e; exact hg0 (oz.out.1 (by simpa using e))
     have ri := aa hg0
     clear hg0
     go_wp2_with (at_builtin; refine jT wr rfl _ _ 26 rfl w1.heap.size 3 _ 8 Tryz.underlying26 Tryz.jx rfl (by decide) hown rfl _ rfl rfl dN.out hsz ?_; intro g cap w2 hown1 hg1 hb1)
     go_roundw
     case rel => exact ⟨k + 1, by omega, by go_num, by rw [oA.out, if_neg ri.out, List.map_append]; rw [List.length_map] at hown1; exact hown1, hbr.trans hb1⟩
     case measure => simp [intOf]; omega
   ·obtain rfl : k = t.ns.length := by omega
    clear hlt hk R6
    go_wp2
    go_ret2
    exact ⟨iV.trans (hbr.mono XM), .inr ⟨HE.out, _, rfl, hown.ints.sub fun b hb _ => Nat.le_trans XM hb⟩⟩
 ·have he' : (aB t != 0) = true := by simpa using he
  have HE := aa he
  clear he
  go_enter Tryz.func37, Tryz.ntmps37
  go_wp2_with fail
  refine fN.out.mono ?_
  rintro e w1 ⟨rfl, hb1⟩
  go_wp2_with fail
  go_ret2
  exact ⟨gG.out.trans (hb1.mono (by omega)), .inl ⟨HE.out, rfl⟩⟩
end
end Go.Proofs.YteegefnjnikngaaGreat
