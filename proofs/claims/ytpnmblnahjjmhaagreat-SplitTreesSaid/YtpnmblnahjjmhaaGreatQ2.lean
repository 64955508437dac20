/- The contract of phylotree.Check. A slice that a call grows by one element at a time. .. -/
import Derived.Test.YtpnmblnahjjmhaaGreatQ1
import Derived.Maps.AppendAt
import Derived.Deep.AppendLies
import Derived.Shelf.Abstract
import Derived.RangeFuncNested
import Derived.RangeFuncBound
import Derived.RangeFuncCalls
import Derived.RangeFuncLeaves
import Derived.Shelf.RegionOpen
import Derived.WalkKit
import Derived.OwnWalkIn
import Derived.TacticsInMore
import Derived.LoopNIn
import Derived.LoopIn
import Derived.Sort.QuietIn
import Derived.Stop.RegionWithIn
set_option maxRecDepth 100000
namespace Go.Proofs.YtpnmblnahjjmhaaGreat
section
open Go.RowKit Go.Deep
theorem Tryz.infoB : (Tryz.prog.info? 4).map (fun i => (i.zero, i.size, i.bytes)) = some (some (.bool false), 1, 1) := by kernel_rfl
structure za (w0 wr : World) (B n : Nat) (f : Nat → Bool) : Prop where
 below : Below B w0 wr
 row : wr.rowIs B 4 n (fun j => .bool (f j))
 size : wr.heap.size = B + 1
theorem za.start (w0 : World) (n : Nat) (f : Nat → Bool) (hf : ∀ j, f j = false) : za w0 (w0.alloc (.cells (madeCells #[.bool false] n) 4)) w0.heap.size n f :=
 ⟨(Below.refl _ _).alloc (Nat.le_refl _) _, (World.rowIs_made w0 _ n _).congr fun i _ => by simp [hf], by simp⟩
theorem za.set {w0 wr : World} {B n q : Nat} {f g : Nat → Bool} (h : za w0 wr B n f) (hg : ∀ j, g j = (f j || decide (j = q))) :
  za w0 (wr.setCell ⟨B, q, none⟩ (.bool true)) B n g :=
 ⟨h.below.setCell (p := ⟨B, q, none⟩) (Nat.le_refl _) _, (h.row.set q _).congr fun i _ => by
  by_cases e : i = q
  ·simp [e, hg]
  ·simp [e, hg], by simp [h.size]⟩
theorem za.congr {w0 wr : World} {B n : Nat} {f g : Nat → Bool} (h : za w0 wr B n f) (hg : ∀ j, g j = f j) : za w0 wr B n g :=
 ⟨h.below, h.row.congr fun i _ => by simp [hg], h.size⟩
set_option maxHeartbeats 800000 in
theorem yH (S : Nat → Prop) (w : World) (v : Value) (t : aA) (h : aG S w v t) (hp : t.ps.length ≤ 1000000) (hn : t.ns.length ≤ 1000000) (hz : ∀ k, (gs t.ns k).size ≤ 70000) :
    Calls Tryz.prog 103 #[v] w fun e w' => e = .returned (.int .i64 (aB t)) ∧ Below w.heap.size w w' := by
  obtain ⟨P, N, rfl, hP, hN⟩ := h
  obtain ⟨ps, ns⟩ := t
  simp only at *
  have cH : aB ⟨ps, ns⟩ = if ps.length = 0 then 5 else if 64 < ps.length then 4 else if ns.length ≠ ps.length then 9 else if fK ps then firstNZ (iR ps ns) ps.length else 2 := rfl
  have HF := aa cH
  clear cH
  have NC := hP.keep (Kept.below ((Below.refl _ w).alloc (Nat.le_refl _) (.cells #[P, N] 39)))
  have ND := hN.keep (Kept.below ((Below.refl _ w).alloc (Nat.le_refl _) (.cells #[P, N] 39)))
  clear hP hN
  obtain ⟨p, cap, rfl, hcap, HP⟩ := av.open NC
  obtain ⟨q, bJ, rfl, AY, HN⟩ := av.open ND
  have eZ : Below w.heap.size w (w.alloc (.cells #[.slice p ps.length cap, .slice q ns.length bJ] 39)) := (Below.refl _ _).alloc (Nat.le_refl _) _
  have JV := aa HP
  have Fo := aa HN
  clear NC ND HP HN
  by_cases h0 : ps.length = 0
  · have HX : Hid (ps.length = 0) := h0
    have h0' : ((ps.length : Int) == 0) = true := by simp [h0]
    clear h0
    go_enter Tryz.func103, Tryz.ntmps103
    go_wp2
    go_ret
    exact ⟨aI (by rw [HF.out, if_pos HX.out]), eZ⟩
  have h0' : ((ps.length : Int) == 0) = false := by simpa using h0
  by_cases h1 : 64 < ps.length
  · go_enter Tryz.func103, Tryz.ntmps103
    go_wp2
    go_ret
    exact ⟨aI (by rw [HF.out, if_neg h0, if_pos h1]), eZ⟩
  by_cases h2 : ns.length = ps.length
  · have NF : ((ns.length : Int) != ps.length) = false := by simp [h2]
    have H2 := aa h2
    clear h2
    have hmk := fun W => run_make_row' (P := Tryz.prog) 132 4 (.bool false) 1 Tryz.underlying132 Tryz.infoB rfl .i64 .i64 ps.length (by omega) (by omega) W
    go_enter Tryz.func103, Tryz.ntmps103
    go_wp2
    clear hmk eZ
    have hstart := za.start (w.alloc (.cells #[.slice p ps.length cap, .slice q ns.length bJ] 39)) ps.length (fun j => AU ps 0 j) (fun j => rfl)
    rw [World.size_alloc] at hstart
    have qX : (w.alloc (.cells #[.slice p ps.length cap, .slice q ns.length bJ] 39)).cell? ⟨w.heap.size, 0, none⟩ = some (.slice p ps.length cap) := by simp [World.cell?_alloc_new]
    have ue : (w.alloc (.cells #[.slice p ps.length cap, .slice q ns.length bJ] 39)).cell? ⟨w.heap.size, 1, none⟩ = some (.slice q ns.length bJ) := by simp [World.cell?_alloc_new]
    have hb0 : Below w.heap.size w (w.alloc (.cells #[.slice p ps.length cap, .slice q ns.length bJ] 39)) := (Below.refl _ _).alloc (Nat.le_refl _) _
    have hsz : (w.alloc (.cells #[.slice p ps.length cap, .slice q ns.length bJ] 39)).heap.size = w.heap.size + 1 := by simp
    generalize hw0 : w.alloc (.cells #[.slice p ps.length cap, .slice q ns.length bJ] 39) = w0 at *
    clear hw0
    have HS := aa hsz
    have uf := aa qX
    have JW := aa ue
    clear hsz qX ue
    go_loopw [4, 5, 33] (fun _ _ i wr => ∃ k : Nat, k ≤ ps.length ∧ i = .int .i64 k ∧ Hid (∀ j, j < k → mH j (gi ps j) = true) ∧ za w0 wr (w.heap.size + 1) ps.length (fun j => AU ps k j)) (fun _ _ i _ => ps.length - (intOf i).toNat)
    case atStart => exact ⟨0, Nat.zero_le _, rfl, fun j hj => absurd hj (Nat.not_lt_zero _), hstart⟩
    case round =>
      obtain ⟨k, hk, rfl, hd, hW⟩ := hrel
      clear hstart
      by_cases hlt : k < ps.length
      · obtain ⟨b, off, rfl, hc0⟩ := JV.out k hlt
        have hc : wr.cell? ⟨b, off + k, none⟩ = some (.int .i64 (gi ps k)) := by
          rw [hW.below.cell (p := ⟨b, off + k, none⟩) (by have := World.block_lt_of_cell? _ _ hc0; have := HS.out; simp at *; omega)]; exact hc0
        clear hc0
        generalize hpk : gi ps k = x at *
        have HX := aa hpk
        clear hpk
        by_cases hg : 0 < k ∧ 0 ≤ x ∧ x < k
        · obtain ⟨g1, g2, g3⟩ := hg
          obtain ⟨y, rfl⟩ := Int.eq_ofNat_of_zero_le g2
          have hi1 := hW.row.cell (i := y) (by omega)
          have hi2 := hW.row.frozen y
          go_wp2
          go_roundw
          case rel => exact ⟨k + 1, by omega, by go_num, fun j hj => if e : j = k then by subst e; rw [HX.out]; unfold mH; rw [if_neg (by omega)]; simp; omega else hd.out j (by omega), hW.set (q := y) fun j => by rw [Fi, HX.out]; simp only [g1, decide_true, Bool.true_and]; congr 1; rw [Bool.eq_iff_iff]; simp; omega⟩
          case measure => simp [intOf]; omega
        · by_cases Fp : k = 0 ∧ x = -1
          · obtain ⟨rfl, rfl⟩ := Fp
            have hc' : wr.cell? ⟨b, off, none⟩ = some (.int .i64 (-1)) := by simpa using hc
            go_wp2
            go_roundw
            case rel => exact ⟨1, by omega, by go_num, fun j hj => by obtain rfl : j = 0 := by omega
                                                                      rw [HX.out]; rfl, hW.congr fun j => by rw [Fi]; simp⟩
            case measure => simp [intOf]; omega
          · have pY : mH k x = false := by
              unfold mH; split
              · rename_i e; simp; exact fun e2 => Fp ⟨e, e2⟩
              · simp; intro; omega
            rw [← HX.out] at pY
            have HB := aa (Fj hlt pY)
            clear pY
            go_wp2
            all_goals go_ret
            all_goals exact ⟨aI (by rw [HF.out, if_neg h0, if_neg h1, if_neg (by rw [H2.out]; simp), HB.out]; simp), hb0.trans (hW.below.mono (by omega))⟩
      · obtain rfl : k = ps.length := by omega
        have hok := aa (zT hd.out)
        have zb : wr.cell? ⟨w.heap.size, 1, none⟩ = some (.slice q ns.length bJ) := by
          rw [hW.below.cell (p := ⟨w.heap.size, 1, none⟩) (by simp)]; exact JW.out
        clear hlt hk hd JV hcap
        go_wp2
        go_loop [6, 7, 66] (fun _ _ i => ∃ k : Nat, k ≤ ps.length ∧ i = .int .i64 k ∧ Hid (∀ j, j < k → iR ps ns j = 0)) (fun _ _ i => ps.length - (intOf i).toNat)
        case atStart => exact ⟨0, Nat.zero_le _, rfl, fun j hj => absurd hj (Nat.not_lt_zero _)⟩
        case round =>
          obtain ⟨k, hk, rfl, hd⟩ := hrel
          have hlen : ns.length ≤ ps.length ∧ ps.length ≤ ns.length := by have := H2.out; omega
          obtain ⟨pE, hl2⟩ := hlen
          by_cases hlt : k < ps.length
          · obtain ⟨b, off, rfl, hc0⟩ := Fo.out k (by have := H2.out; omega)
            have hpre : av Any wr (.slice (some ⟨b, off, none⟩) k bJ) k (fun j => .string (gs ns j)) := by
              refine ⟨_, _, rfl, by omega, .inr ⟨b, off, rfl, trivial, fun j hj => ?_⟩⟩
              obtain ⟨b', off', e, wT⟩ := Fo.out j (by omega)
              cases e
              rw [hW.below.cell (p := ⟨b, off + j, none⟩) (by have := World.block_lt_of_cell? _ _ wT; have := HS.out; simp at *; omega)]; exact wT
            have hc : wr.cell? ⟨b, off + k, none⟩ = some (.string (gs ns k)) := by
              rw [hW.below.cell (p := ⟨b, off + k, none⟩) (by have := World.block_lt_of_cell? _ _ hc0; have := HS.out; simp at *; omega)]; exact hc0
            clear hc0
            have hi1 := hW.row.cell (i := k) (by omega)
            have hsk : (List.range k).any (fun j => decide (gs ns k = gs ns j)) = cZ ns k := by
              unfold cZ; congr 1; funext j; exact decide_eq_decide.2 eq_comm
            have qf := aa hsk
            clear hsk
            have AZ := hz k
            have hne : iR ps ns k = if isIn ps k then (if (gs ns k).size = 0 then 0 else 14) else if bq (gs ns k).data.toList then (if cZ ns k then 7 else 0) else 14 := rfl
            have hnil := toList_nil (gs ns k)
            have hend : iR ps ns k ≠ 0 → aB ⟨ps, ns⟩ = iR ps ns k := fun hn0 => by
              rw [HF.out, if_neg h0, if_neg h1, if_neg (by rw [H2.out]; simp), hok.out, if_pos rfl]; exact eY hlt hd.out hn0
            have HE := aa hne
            have zU := aa hend
            have mh := aa hnil
            have ki := aa hW
            clear hne hend hnil Fo hz hW
            have hi2 : AU ps ps.length k = isIn ps k := rfl
            rw [hi2] at hi1
            clear hi2
            generalize hin : isIn ps k = bi at *
            generalize hnm : bq (gs ns k).data.toList = bn at *
            generalize Wt : cZ ns k = bs at *
            generalize Dh : gs ns k = g at *
            have lu := aa hnm
            clear hin hnm Wt Dh
            cases bi
            · cases bn
              · go_wp2_with (first | (go_at_call 174; refine (ud _ AZ _).mono ?_; rintro e w' ⟨rfl, rfl⟩; rw [lu.out]) | (go_at_call 51; refine (gW Any _ _ k (fun j => gs ns j) _ hpre (by omega)).mono ?_; rintro e w' ⟨rfl, rfl⟩; rw [qf.out]))
                go_ret
                exact ⟨aI (by rw [zU.out (by rw [HE.out]; simp), HE.out]; simp), hb0.trans (ki.out.below.mono (by omega))⟩
              · cases bs
                · go_wp2_with (first | (go_at_call 174; refine (ud _ AZ _).mono ?_; rintro e w' ⟨rfl, rfl⟩; rw [lu.out]) | (go_at_call 51; refine (gW Any _ _ k (fun j => gs ns j) _ hpre (by omega)).mono ?_; rintro e w' ⟨rfl, rfl⟩; rw [qf.out]))
                  go_round
                  case rel => exact ⟨k + 1, by omega, by go_num, fun j hj => if e : j = k then by subst e; rw [HE.out]; simp else hd.out j (by omega)⟩
                  case measure => simp [intOf]; omega
                · go_wp2_with (first | (go_at_call 174; refine (ud _ AZ _).mono ?_; rintro e w' ⟨rfl, rfl⟩; rw [lu.out]) | (go_at_call 51; refine (gW Any _ _ k (fun j => gs ns j) _ hpre (by omega)).mono ?_; rintro e w' ⟨rfl, rfl⟩; rw [qf.out]))
                  go_ret
                  exact ⟨aI (by rw [zU.out (by rw [HE.out]; simp), HE.out]; simp), hb0.trans (ki.out.below.mono (by omega))⟩
            · by_cases hg0 : g.size = 0
              · have hg1 : g.toList = [] := mh.out.2 hg0
                have hg2 : (!g.toList.isEmpty) = false := by simp [hg1]
                have qY := aa hg0
                clear hg0
                go_wp2_with (first | (go_at_call 174; refine (ud _ AZ _).mono ?_; rintro e w' ⟨rfl, rfl⟩; rw [lu.out]) | (go_at_call 51; refine (gW Any _ _ k (fun j => gs ns j) _ hpre (by omega)).mono ?_; rintro e w' ⟨rfl, rfl⟩; rw [qf.out]))
                go_round
                case rel => exact ⟨k + 1, by omega, by go_num, fun j hj => if e : j = k then by subst e; rw [HE.out]; simp [qY.out] else hd.out j (by omega)⟩
                case measure => simp [intOf]; omega
              · have hg1 : (g.toList == []) = false := by
                  rw [Bool.eq_false_iff]; intro e; exact hg0 (mh.out.1 (by simpa using e))
                have hg2 : g.toList.isEmpty = false := by
                  rw [Bool.eq_false_iff]; intro e; exact hg0 (mh.out.1 (by simpa using e))
                go_wp2_with (first | (go_at_call 174; refine (ud _ AZ _).mono ?_; rintro e w' ⟨rfl, rfl⟩; rw [lu.out]) | (go_at_call 51; refine (gW Any _ _ k (fun j => gs ns j) _ hpre (by omega)).mono ?_; rintro e w' ⟨rfl, rfl⟩; rw [qf.out]))
                go_ret
                exact ⟨aI (by rw [zU.out (by rw [HE.out]; simp [hg0]), HE.out]; simp [hg0]), hb0.trans (ki.out.below.mono (by omega))⟩
          · have hk2 : k = ps.length := by omega
            clear hlt
            go_wp2
            go_ret
            exact ⟨aI (by rw [HF.out, if_neg h0, if_neg h1, if_neg (by rw [H2.out]; simp), hok.out, if_pos rfl, cA fun j hj => hd.out j (by omega)]), hb0.trans (hW.below.mono (by omega))⟩
  · have NF : ((ns.length : Int) != ps.length) = true := by simp; omega
    go_enter Tryz.func103, Tryz.ntmps103
    go_wp2
    go_ret
    exact ⟨aI (by rw [HF.out, if_neg h0, if_neg h1, if_pos h2]), eZ⟩
end
section
open Go.RowKit Go.Deep
def ah (base : Nat) (e : TypeId) (w : World) (v : Value) (vs : List Value) : Prop := w.ownsRow base e 1 v vs.length vs
theorem ah.nil (base : Nat) (e : TypeId) (w : World) : ah base e w (.slice none 0 0) [] := World.ownsRow_nil _ _ _ _
theorem av.congr {S : Nat → Prop} {w : World} {v : Value} {n : Nat} {f g : Nat → Value} (h : av S w v n f) (e : ∀ k, k < n → f k = g k) : av S w v n g := by
 obtain ⟨p, cap, rfl, hn, h⟩ := h
 refine ⟨p, cap, rfl, hn, ?_⟩
 rcases h with h | ⟨b, off, rfl, hS, h⟩
 ·exact .inl h
 ·exact .inr ⟨b, off, rfl, hS, fun k hk => by rw [← e k hk]; exact h k hk⟩
theorem ah.qZ {base : Nat} {e : TypeId} {w : World} {v : Value} {vs : List Value} (h : ah base e w v vs) : av (fun b => base ≤ b) w v vs.length (fun k => vs.getD k undef) := by
 rcases h.2 with ⟨rfl, h0⟩ | ⟨g, cap, cur, rfl, hg, hc, hn, _, _, ht⟩
 ·exact ⟨none, 0, by rw [h0], by omega, .inl h0⟩
 ·refine ⟨_, cap, rfl, hn, .inr ⟨g, 0, rfl, hg, fun k hk => ?_⟩⟩
  have := World.ownsRow.cells h (g := g) rfl k vs[k] (by simp [hk])
  have Fq : (⟨g, 0, none⟩ : Addr).add k = ⟨g, 0 + k, none⟩ := by unfold Addr.add; split <;> simp_all
  rw [Fq] at this
  rw [this]; simp [hk]
theorem ah.ints {base : Nat} {e : TypeId} {w : World} {v : Value} {xs : List Int} (h : ah base e w v (xs.map (Value.int .i64))) : af (fun b => base ≤ b) w v xs := by
 have := h.qZ
 rw [List.length_map] at this
 exact this.congr fun k hk => by simp [gi, hk]
theorem ah.strs {base : Nat} {e : TypeId} {w : World} {v : Value} {xs : List ByteArray} (h : ah base e w v (xs.map Value.string)) : ay (fun b => base ≤ b) w v xs := by
 have := h.qZ
 rw [List.length_map] at this
 exact this.congr fun k hk => by simp [gs, hk]
theorem ah.kept {base : Nat} {e : TypeId} {w w' : World} {v : Value} {vs : List Value} (h : ah base e w v vs) (k : ∀ b, base ≤ b → b < w.heap.size → w'.heap[b]? = w.heap[b]?) : ah base e w' v vs := by
 refine ⟨h.1, ?_⟩
 rcases h.2 with h0 | ⟨g, cap, cur, rfl, hg, hc, hr⟩
 ·exact .inl h0
 ·have hlt : g < w.heap.size := by
   rcases Nat.lt_or_ge g w.heap.size with h1 | h1
   ·exact h1
   ·rw [Array.getElem?_eq_none h1] at hc; cases hc
  exact .inr ⟨g, cap, cur, rfl, hg, (k g hg hlt).trans hc, hr⟩
theorem ah.alloc {base : Nat} {e : TypeId} {w : World} {v : Value} {vs : List Value} (h : ah base e w v vs) (o : Obj) : ah base e (w.alloc o) v vs := World.ownsRow.alloc h o
theorem oU {w w' : World} {o : Obj} {row : Option Nat} (h : (w.alloc o).grownBy w' row) : w.grownBy w' row :=
 ⟨h.os, h.tape, h.output, Nat.le_trans (by simp) h.size, fun k hk hne => (h.block k (by simp; omega) hne).trans (Below.heap_alloc w o k hk)⟩
theorem ah.eW {base : Nat} {e : TypeId} {w w' : World} {v : Value} {vs : List Value} (h : ah base e w v vs) (hg : w.grownBy w' v.ownBlock) (hb : base ≤ w.heap.size) : Below base w w' :=
 (Below.refl base w).grown hg hb fun k hk => (World.ownsRow.lt h k hk).1
section
variable {P : Program} {ops : Array Oper} {rest : List Oper} {o : Oper} {a : Act} {Q : Exit → Act → World → Prop}
theorem lM (W : World) (hgd : o.guard = none) (s x : Operand) (t : TypeId) (ho : o.op = .call { callee := .builtin .append, args := #[s, x], argTypes := #[t, t] })
  (base : Nat) (e : TypeId) (z : Value) (bytes : Nat) (ht : P.underlying t = some (.slice e)) (hinfo : (P.info? e).map (fun i => (i.zero, i.size, i.bytes)) = some (some z, 1, bytes))
  (hz1 : z.cells.size = 1) (jJ : bytes ≤ 64) {v : Value} {vs : List Value} (hown : ah base e W v vs) (hs : a.eval s = v) (u : Value)
  (hx : a.eval x = .slice (some ⟨W.heap.size, 0, none⟩) 1 1) (h1 : u.oneCell' = true) (hn : vs.length ≤ 1000000) (hbase : base ≤ W.heap.size)
  (h : ∀ g cap w', ah base e w' (.slice (some ⟨g, 0, none⟩) (vs.length + 1) cap) (vs ++ [u]) → W.grownBy w' v.ownBlock → Below base W w' → wpList P ops Q rest (a.put o.dst (.slice (some ⟨g, 0, none⟩) (vs.length + 1) cap)) w') :
  wpList P ops Q (o :: rest) a (W.alloc (.cells #[u] e)) := by
 obtain ⟨i, hi, hzz⟩ := Option.map_eq_some_iff.1 hinfo
 simp only [Prod.mk.injEq] at hzz
 obtain ⟨hz, hs1, hb⟩ := hzz
 refine wpList_append_lies _ hgd s x t ho base e i z 1 bytes ht hi hz hs1 hb hz1 (by omega) v vs.length vs hs (hown.alloc _) ⟨W.heap.size, 0, none⟩ 1 1 [u] hx rfl (cell_one_new _ _ _) (by simpa using h1) (by omega)
  (by unfold maxLen; omega) ?_ (by simp; omega) _ rfl fun g cap w' h2 h3 _ _ => h g cap w' ?_ (oU h3) (hown.eW (oU h3) hbase)
 ·have : (vs.length + 1) * bytes ≤ (vs.length + 1) * 64 := Nat.mul_le_mul_left _ jJ
  omega
 ·unfold ah; rw [List.length_append]; exact h2
end
end
section
open Go.RowKit Go.Deep
end
section
open Go.RowKit Go.Deep
theorem Tryz.fU : (Tryz.prog.info? 3).map (fun i => (i.zero, i.size, i.bytes)) = some (some (.int .i64 0), 1, 8) := by kernel_rfl
def NG (w : World) (t : aA) (e : Ending) (w' : World) : Prop :=
 Below w.heap.size w w' ∧ ((aB t ≠ 0 ∧ e = .returned (.tuple #[.slice none 0 0, .int .i64 1])) ∨
  (aB t = 0 ∧ ∃ v, e = .returned (.tuple #[v, .int .i64 0]) ∧ af (fun b => w.heap.size ≤ b) w' v (aV t.ns)))
set_option maxHeartbeats 800000 in
theorem Q5 (S : Nat → Prop) (w : World) (v : Value) (t : aA) (h : aG S w v t) (hp : t.ps.length ≤ 1000000) (hn : t.ns.length ≤ 1000000) (hz : ∀ k, (gs t.ns k).size ≤ 70000) :
  Calls Tryz.prog 49 #[v] w (NG w t) := by
 obtain ⟨P, N, rfl, hP, hN⟩ := h
 have wU : aG S (w.alloc (.cells #[P, N] 39)) (.agg #[P, N]) t := aG.keep ⟨P, N, rfl, hP, hN⟩ (Kept.below ((Below.refl _ w).alloc (Nat.le_refl _) _))
 have hb0 : Below w.heap.size w (w.alloc (.cells #[P, N] 39)) := (Below.refl _ _).alloc (Nat.le_refl _) _
 have ue : (w.alloc (.cells #[P, N] 39)).cell? ⟨w.heap.size, 1, none⟩ = some N := by simp [World.cell?_alloc_new]
 have JX := yH S (w.alloc (.cells #[P, N] 39)) _ t wU hp hn hz
 rw [World.size_alloc] at JX
 have e9 := aa JX
 have JW := aa ue
 have gm := aa hb0
 have HN := aa hN
 clear JX ue hb0 wU hP hN
 by_cases he : aB t = 0
 ·go_enter Tryz.func49, Tryz.ntmps49
  go_wp2_with fail
  refine e9.out.mono ?_
  rintro e w1 ⟨rfl, hb1⟩
  have fu : Below w.heap.size w w1 := gm.out.trans (hb1.mono (by omega))
  have Di := HN.out.keep (Kept.below fu)
  have ue : w1.cell? ⟨w.heap.size, 1, none⟩ = some N := (hb1.cell (p := ⟨w.heap.size, 1, none⟩) (by simp)).trans JW.out
  obtain ⟨q, bJ, rfl, AY, HNN⟩ := av.open Di
  have Wu := aa HNN
  have hwz : w.heap.size ≤ w1.heap.size := fu.size
  have HE := aa he
  rw [he]
  clear HNN Di e9 JW gm HN hb1 he
  go_wp2_with fail
  go_loopw [4, 5, 6, 13] (fun v _ _ i wr => ∃ k : Nat, k ≤ t.ns.length ∧ i = .int .i64 k ∧ ah w1.heap.size 3 wr v ((gy t.ns k).map (Value.int .i64)) ∧ Below w1.heap.size w1 wr) (fun _ _ _ i _ => t.ns.length - (intOf i).toNat)
  case atStart => exact ⟨0, Nat.zero_le _, rfl, ah.nil _ _ _, Below.refl _ _⟩
  case round =>
   obtain ⟨k, hk, rfl, hown, hbr⟩ := hrel
   by_cases hlt : k < t.ns.length
   ·obtain ⟨b, off, rfl, hc0⟩ := Wu.out k hlt
    have hc : wr.cell? ⟨b, off + k, none⟩ = some (.string (gs t.ns k)) := by
     rw [hbr.cell (p := ⟨b, off + k, none⟩) (World.block_lt_of_cell? _ _ hc0)]; exact hc0
    have hsz := hbr.size
    have A2 := wQ t.ns k
    have Dj := y8 t.ns k
    have hnil := toList_nil (gs t.ns k)
    have mh := aa hnil
    have Dk := aa A2
    have dr : Hid (((gy t.ns k).map (Value.int .i64)).length ≤ 1000000) := by unfold Hid; rw [List.length_map]; omega
    clear hc0 hnil A2 Dj Wu hz
    generalize Dh : gs t.ns k = g at *
    clear Dh
    by_cases hg0 : g.size = 0
    ·have hg1 : g.toList = [] := mh.out.2 hg0
     have qY := aa hg0
     clear hg0
     go_wp2
     go_roundw
     case rel => exact ⟨k + 1, by omega, by go_num, by rw [Dk.out, if_pos qY.out, List.append_nil]; exact hown, hbr⟩
     case measure => simp [intOf]; omega
    ·have hg1 : (g.toList == []) = false := by
      rw [Bool.eq_false_iff]; intro e; exact hg0 (mh.out.1 (by simpa using e))
     have hg2 : (g.toList != []) = true := by
      rw [bne_iff_ne]; intro e; exact hg0 (mh.out.1 (by simpa using e))
     have qY := aa hg0
     clear hg0
     go_wp2_with (at_builtin; refine lM wr rfl _ _ 26 rfl w1.heap.size 3 _ 8 Tryz.underlying26 Tryz.fU rfl (by decide) hown rfl _ rfl rfl dr.out hsz ?_; intro g cap w2 hown1 hg1 hb1)
     go_roundw
     case rel => exact ⟨k + 1, by omega, by go_num, by rw [Dk.out, if_neg qY.out, List.map_append]; rw [List.length_map] at hown1; exact hown1, hbr.trans hb1⟩
     case measure => simp [intOf]; omega
   ·obtain rfl : k = t.ns.length := by omega
    clear hlt hk Wu
    go_wp2
    go_ret2
    exact ⟨fu.trans (hbr.mono hwz), .inr ⟨HE.out, _, rfl, hown.ints.sub fun b hb _ => Nat.le_trans hwz hb⟩⟩
 ·have he' : (aB t != 0) = true := by simpa using he
  have HE := aa he
  clear he
  go_enter Tryz.func49, Tryz.ntmps49
  go_wp2_with fail
  refine e9.out.mono ?_
  rintro e w1 ⟨rfl, hb1⟩
  go_wp2_with fail
  go_ret2
  exact ⟨gm.out.trans (hb1.mono (by omega)), .inl ⟨HE.out, rfl⟩⟩
end
section
open Go.RowKit Go.Deep
end
section
open Go.RowKit Go.Shelf Go.Deep
attribute [local go_sem] Oper.semAt_some
theorem Q6 {e : Ending} {A B : Prop} (h : (e = .returned (.bool true) ∧ A) ∨ (e = .returned (.bool false) ∧ B)) : ∃ bb, e = .returned (.bool bb) ∧ Hid ((bb = true ∧ A) ∨ (bb = false ∧ B)) := by
 rcases h with ⟨h1, h2⟩ | ⟨h1, h2⟩
 ·exact ⟨true, h1, .inl ⟨rfl, h2⟩⟩
 ·exact ⟨false, h1, .inr ⟨rfl, h2⟩⟩
def KS (T : Nat → Prop) (w w' : World) : Prop := ∀ b, T b → w'.heap[b]? = w.heap[b]?
theorem KS.refl (T : Nat → Prop) (w : World) : KS T w w := fun _ _ => rfl
theorem KS.trans {T : Nat → Prop} {a b c : World} (h : KS T a b) (k : KS T b c) : KS T a c := fun i hi => (k i hi).trans (h i hi)
theorem KS.cell {T : Nat → Prop} {a b : World} (h : KS T a b) {p : Addr} (hp : T p.block) : b.cell? p = a.cell? p := World.cell?_of_block (h p.block hp)
theorem KS.drewN {T : Nat → Prop} {a b : World} (h : KS T a b) (n : Nat) : KS T a (b.drewN n) := h
end
section
open Go.RowKit Go.Shelf Go.Deep
end
section
open Go.RowKit Go.Shelf Go.Deep
section
variable {F : Fence} {n : Nat} {P : Program} {ops : Array Oper} {C : World → Prop}
end
end
section
open Go.RowKit Go.Deep
end
section
open Go.RowKit Go.Shelf Go.Deep
attribute [local go_sem] Oper.semAt_some
set_option maxHeartbeats 400000 in
theorem Jv (S : Nat → Prop) (w : World) (v : Value) (xs : List Int) (x : Int) (h : af S w v xs) (hn : xs.length ≤ 1000000) :
  Calls Tryz.prog 78 #[v, .int .i64 x] w fun e w' => e = .returned (.int .i64 (cE (fun j => decide (x = gi xs j)) xs.length)) ∧ w = w' := by
 obtain ⟨p, cap, rfl, hcap, H⟩ := av.open h
 clear h
 go_enter Tryz.func78, Tryz.ntmps78
 go_wp2_with fail
 go_loop [5, 8] (fun _ i => ∃ k : Nat, k ≤ xs.length ∧ i = .int .i64 k ∧ Hid (∀ j, j < k → decide (x = gi xs j) = false)) (fun _ i => xs.length - (intOf i).toNat)
 case atStart => exact ⟨0, Nat.zero_le _, rfl, fun j hj => absurd hj (Nat.not_lt_zero _)⟩
 case round =>
  obtain ⟨k, hk, rfl, hd⟩ := hrel
  by_cases hlt : k < xs.length
  ·obtain ⟨b, off, rfl, hc⟩ := H k hlt
   clear H
   generalize hy : gi xs k = y at *
   have HY := aa hy
   clear hy
   by_cases hxy : x = y
   ·have hx1 : (x == y) = true := by simp [hxy]
    have ri := aa hxy
    clear hxy
    go_wp2_with fail
    go_ret
    exact ⟨aI (fS (p := fun j => decide (x = gi xs j)) hlt hd.out (by rw [HY.out]; simpa using ri.out)).symm, rfl⟩
   ·have hx1 : (x == y) = false := by simpa using hxy
    have ri := aa hxy
    clear hxy
    go_wp2_with fail
    go_round
    case rel => exact ⟨k + 1, by omega, by go_num, fun j hj => if e : j = k then by subst e; rw [HY.out]; simpa using ri.out else hd.out j (by omega)⟩
    case measure => simp [intOf]; omega
  ·clear H
   go_wp2_with fail
   go_ret
   exact ⟨aI (dP fun j hj => hd.out j (by omega)).symm, rfl⟩
theorem A3 (S : Nat → Prop) (w : World) (n : Nat) : Kept S w (w.drewN n) := fun _ _ _ => rfl
end
section
open Go.RowKit Go.Deep
theorem bf (W : World) (cs : Array Value) (t : TypeId) (k : Nat) : (W.alloc (.cells cs t)).cell? ⟨W.heap.size, k, none⟩ = cs[k]? := by
 unfold World.cell?; rw [World.alloc_heap_new]; rfl
end
end Go.Proofs.YtpnmblnahjjmhaaGreat
