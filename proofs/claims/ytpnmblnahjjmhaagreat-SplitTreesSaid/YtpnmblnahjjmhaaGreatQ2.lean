/- The contract of phylotree.Check. A slice that a call grows by one element at a time. Contracts: slices.IndexFunc, ContainsFunc over a function value that only reads. The contract of phylotree.Leaves. The contracts of parsimony.known, matrix, Check. The contract of parsimony.children: an iterator over the children of a node. A function's end behind loops over functions. A region that draws its order and only reads, within a round of a loop over a function. The contracts of parsimony.best, least. The contract of the closure that fills a row of the table. The contract of parsimony.table. -/
import Derived.Test.YtpnmblnahjjmhaaGreatQ1
import Derived.Maps.AppendAt
import Derived.Deep.AppendLies
import Derived.Shelf.Abstract
import Derived.RangeFuncNested
import Derived.RangeFuncBound
import Derived.RangeFuncCalls
import Derived.RangeFuncLeaves
import Derived.Shelf.RegionOpen
import Derived.WalkKit
import Derived.OwnWalkIn
import Derived.TacticsInMore
import Derived.LoopNIn
import Derived.LoopIn
import Derived.Sort.QuietIn
import Derived.Stop.RegionWithIn
namespace Go.Proofs.YtpnmblnahjjmhaaGreat
set_option maxRecDepth 100000
section
open Go.RowKit Go.Deep
theorem Tryz.infoB : (Tryz.prog.info? 4).map (fun i => (i.zero, i.size, i.bytes)) = some (some (.bool false), 1, 1) := by af
structure zv (w0 wr : World) (B n : Nat) (f : Nat → Bool) : Prop where
 below : Below B w0 wr
 row : wr.rowIs B 4 n (fun j => .bool (f j))
 size : wr.heap.size = B + 1
theorem zv.start (w0 : World) (n : Nat) (f : Nat → Bool) (hf : ∀ j, f j = false) : zv w0 (w0.alloc (.cells (madeCells #[.bool false] n) 4)) w0.heap.size n f :=
 ⟨(Below.refl _ _).alloc (Nat.le_refl _) _, (World.rowIs_made w0 _ n _).congr fun i _ => by simp [hf], by simp⟩
theorem zv.set {w0 wr : World} {B n q : Nat} {f g : Nat → Bool} (h : zv w0 wr B n f) (hg : ∀ j, g j = (f j || decide (j = q))) :
  zv w0 (wr.setCell ⟨B, q, none⟩ (.bool true)) B n g :=
 ⟨h.below.setCell (p := ⟨B, q, none⟩) (Nat.le_refl _) _, (h.row.set q _).congr fun i _ => by
  by_cases e : i = q
  ·simp [e, hg]
  ·simp [e, hg], by simp [h.size]⟩
theorem zv.congr {w0 wr : World} {B n : Nat} {f g : Nat → Bool} (h : zv w0 wr B n f) (hg : ∀ j, g j = f j) : zv w0 wr B n g :=
 ⟨h.below, h.row.congr fun i _ => by simp [hg], h.size⟩
set_option maxHeartbeats 800000 in
theorem yX (S : Nat → Prop) (w : World) (v : Value) (t : aJ) (h : aO S w v t) (hp : t.ps.length ≤ 1000000) (hn : t.ns.length ≤ 1000000) (hz : ∀ k, (gs t.ns k).size ≤ 70000) :
    Calls Tryz.prog 103 #[v] w fun e w' => e = .returned (.int .i64 (aK t)) ∧ Below w.heap.size w w' := by
  obtain ⟨P, N, rfl, hP, hN⟩ := h
  obtain ⟨ps, ns⟩ := t
  simp only at *
  have dx : aK ⟨ps, ns⟩ = if ps.length = 0 then 5 else if 64 < ps.length then 4 else if ns.length ≠ ps.length then 9 else if gx ps then firstNZ (jv ps ns) ps.length else 2 := rfl
  have HF := ag dx
  clear dx
  have NF := hP.keep (Kept.below ((Below.refl _ w).alloc (Nat.le_refl _) (.cells #[P, N] 39)))
  have NG := hN.keep (Kept.below ((Below.refl _ w).alloc (Nat.le_refl _) (.cells #[P, N] 39)))
  clear hP hN
  obtain ⟨p, cap, rfl, hcap, HP⟩ := aC.open NF
  obtain ⟨q, cF, rfl, Bf, HN⟩ := aC.open NG
  have fN : Below w.heap.size w (w.alloc (.cells #[.slice p ps.length cap, .slice q ns.length cF] 39)) := (Below.refl _ _).alloc (Nat.le_refl _) _
  have JV := ag HP
  have Fu := ag HN
  clear NF NG HP HN
  by_cases h0 : ps.length = 0
  · have HX : Hid (ps.length = 0) := h0
    have h0' : ((ps.length : Int) == 0) = true := by simp [h0]
    clear h0
    aq Tryz.func103, Tryz.ntmps103
    dV
    ax
    exact ⟨aQ (by rw [HF.out, if_pos HX.out]), fN⟩
  have h0' : ((ps.length : Int) == 0) = false := by simpa using h0
  by_cases h1 : 64 < ps.length
  · aq Tryz.func103, Tryz.ntmps103
    dV
    ax
    exact ⟨aQ (by rw [HF.out, if_neg h0, if_pos h1]), fN⟩
  by_cases h2 : ns.length = ps.length
  · have NH : ((ns.length : Int) != ps.length) = false := by simp [h2]
    have H2 := ag h2
    clear h2
    have hmk := fun W => run_make_row' (P := Tryz.prog) 132 4 (.bool false) 1 Tryz.underlying132 Tryz.infoB rfl .i64 .i64 ps.length (by omega) (by omega) W
    aq Tryz.func103, Tryz.ntmps103
    dV
    clear hmk fN
    have hstart := zv.start (w.alloc (.cells #[.slice p ps.length cap, .slice q ns.length cF] 39)) ps.length (fun j => Bb ps 0 j) (fun j => rfl)
    rw [World.size_alloc] at hstart
    have rT : (w.alloc (.cells #[.slice p ps.length cap, .slice q ns.length cF] 39)).cell? ⟨w.heap.size, 0, none⟩ = some (.slice p ps.length cap) := by simp [World.cell?_alloc_new]
    have uF : (w.alloc (.cells #[.slice p ps.length cap, .slice q ns.length cF] 39)).cell? ⟨w.heap.size, 1, none⟩ = some (.slice q ns.length cF) := by simp [World.cell?_alloc_new]
    have hb0 : Below w.heap.size w (w.alloc (.cells #[.slice p ps.length cap, .slice q ns.length cF] 39)) := (Below.refl _ _).alloc (Nat.le_refl _) _
    have hsz : (w.alloc (.cells #[.slice p ps.length cap, .slice q ns.length cF] 39)).heap.size = w.heap.size + 1 := by simp
    generalize hw0 : w.alloc (.cells #[.slice p ps.length cap, .slice q ns.length cF] 39) = w0 at *
    clear hw0
    have HS := ag hsz
    have uG := ag rT
    have JW := ag uF
    clear hsz rT uF
    aV [4, 5, 33] (fun _ _ i wr => ∃ k : Nat, k ≤ ps.length ∧ i = .int .i64 k ∧ Hid (∀ j, j < k → nE j (gi ps j) = true) ∧ zv w0 wr (w.heap.size + 1) ps.length (fun j => Bb ps k j)) (fun _ _ i _ => ps.length - (intOf i).toNat)
    case atStart => exact ⟨0, Nat.zero_le _, rfl, fun j hj => absurd hj (Nat.not_lt_zero _), hstart⟩
    case round =>
      obtain ⟨k, hk, rfl, hd, hW⟩ := bE
      clear hstart
      by_cases hlt : k < ps.length
      · obtain ⟨b, off, rfl, hc0⟩ := JV.out k hlt
        have hc : wr.cell? ⟨b, off + k, none⟩ = some (.int .i64 (gi ps k)) := by
          rw [hW.below.cell (p := ⟨b, off + k, none⟩) (by have := World.block_lt_of_cell? _ _ hc0; have := HS.out; simp at *; omega)]; exact hc0
        clear hc0
        generalize hpk : gi ps k = x at *
        have HX := ag hpk
        clear hpk
        by_cases hg : 0 < k ∧ 0 ≤ x ∧ x < k
        · obtain ⟨g1, g2, g3⟩ := hg
          obtain ⟨y, rfl⟩ := Int.eq_ofNat_of_zero_le g2
          have hi1 := hW.row.cell (i := y) (by omega)
          have hi2 := hW.row.frozen y
          dV
          aF
          case rel => exact ⟨k + 1, by omega, by aH, fun j hj => if e : j = k then by subst e; rw [HX.out]; unfold nE; rw [if_neg (by omega)]; simp; omega else hd.out j (by omega), hW.set (q := y) fun j => by rw [Fo, HX.out]; simp only [g1, decide_true, Bool.true_and]; congr 1; rw [Bool.eq_iff_iff]; simp; omega⟩
          case measure => simp [intOf]; omega
        · by_cases Fv : k = 0 ∧ x = -1
          · obtain ⟨rfl, rfl⟩ := Fv
            have qM : wr.cell? ⟨b, off, none⟩ = some (.int .i64 (-1)) := by simpa using hc
            dV
            aF
            case rel => exact ⟨1, by omega, by aH, fun j hj => by obtain rfl : j = 0 := by omega
                                                                      rw [HX.out]; rfl, hW.congr fun j => by rw [Fo]; simp⟩
            case measure => simp [intOf]; omega
          · have qF : nE k x = false := by
              unfold nE; split
              · rename_i e; simp; exact fun e2 => Fv ⟨e, e2⟩
              · simp; intro; omega
            rw [← HX.out] at qF
            have HB := ag (Fp hlt qF)
            clear qF
            dV
            all_goals ax
            all_goals exact ⟨aQ (by rw [HF.out, if_neg h0, if_neg h1, if_neg (by rw [H2.out]; simp), HB.out]; simp), hb0.trans (hW.below.mono (by omega))⟩
      · obtain rfl : k = ps.length := by omega
        have hok := ag (Ah hd.out)
        have zw : wr.cell? ⟨w.heap.size, 1, none⟩ = some (.slice q ns.length cF) := by
          rw [hW.below.cell (p := ⟨w.heap.size, 1, none⟩) (by simp)]; exact JW.out
        clear hlt hk hd JV hcap
        dV
        dD [6, 7, 66] (fun _ _ i => ∃ k : Nat, k ≤ ps.length ∧ i = .int .i64 k ∧ Hid (∀ j, j < k → jv ps ns j = 0)) (fun _ _ i => ps.length - (intOf i).toNat)
        case atStart => exact ⟨0, Nat.zero_le _, rfl, fun j hj => absurd hj (Nat.not_lt_zero _)⟩
        case round =>
          obtain ⟨k, hk, rfl, hd⟩ := bE
          have hlen : ns.length ≤ ps.length ∧ ps.length ≤ ns.length := by have := H2.out; omega
          obtain ⟨ql, mw⟩ := hlen
          by_cases hlt : k < ps.length
          · obtain ⟨b, off, rfl, hc0⟩ := Fu.out k (by have := H2.out; omega)
            have hpre : aC Any wr (.slice (some ⟨b, off, none⟩) k cF) k (fun j => .string (gs ns j)) := by
              refine ⟨_, _, rfl, by omega, .inr ⟨b, off, rfl, trivial, fun j hj => ?_⟩⟩
              obtain ⟨b', off', e, xx⟩ := Fu.out j (by omega)
              cases e
              rw [hW.below.cell (p := ⟨b, off + j, none⟩) (by have := World.block_lt_of_cell? _ _ xx; have := HS.out; simp at *; omega)]; exact xx
            have hc : wr.cell? ⟨b, off + k, none⟩ = some (.string (gs ns k)) := by
              rw [hW.below.cell (p := ⟨b, off + k, none⟩) (by have := World.block_lt_of_cell? _ _ hc0; have := HS.out; simp at *; omega)]; exact hc0
            clear hc0
            have hi1 := hW.row.cell (i := k) (by omega)
            have hsk : (List.range k).any (fun j => decide (gs ns k = gs ns j)) = dO ns k := by
              unfold dO; congr 1; funext j; exact decide_eq_decide.2 eq_comm
            have qN := ag hsk
            clear hsk
            have Bg := hz k
            have hne : jv ps ns k = if isIn ps k then (if (gs ns k).size = 0 then 0 else 14) else if bM (gs ns k).data.toList then (if dO ns k then 7 else 0) else 14 := rfl
            have hnil := toList_nil (gs ns k)
            have hend : jv ps ns k ≠ 0 → aK ⟨ps, ns⟩ = jv ps ns k := fun hn0 => by
              rw [HF.out, if_neg h0, if_neg h1, if_neg (by rw [H2.out]; simp), hok.out, if_pos rfl]; exact fM hlt hd.out hn0
            have HE := ag hne
            have Ai := ag hend
            have nh := ag hnil
            have kX := ag hW
            clear hne hend hnil Fu hz hW
            have hi2 : Bb ps ps.length k = isIn ps k := rfl
            rw [hi2] at hi1
            clear hi2
            generalize hin : isIn ps k = bi at *
            generalize hnm : bM (gs ns k).data.toList = bn at *
            generalize Wq : dO ns k = bs at *
            generalize Ds : gs ns k = g at *
            have mz := ag hnm
            clear hin hnm Wq Ds
            cases bi
            · cases bn
              · aa (first | (bg 174; refine (uE _ Bg _).mono ?_; rintro e w' ⟨rfl, rfl⟩; rw [mz.out]) | (bg 51; refine (iH Any _ _ k (fun j => gs ns j) _ hpre (by omega)).mono ?_; rintro e w' ⟨rfl, rfl⟩; rw [qN.out]))
                ax
                exact ⟨aQ (by rw [Ai.out (by rw [HE.out]; simp), HE.out]; simp), hb0.trans (kX.out.below.mono (by omega))⟩
              · cases bs
                · aa (first | (bg 174; refine (uE _ Bg _).mono ?_; rintro e w' ⟨rfl, rfl⟩; rw [mz.out]) | (bg 51; refine (iH Any _ _ k (fun j => gs ns j) _ hpre (by omega)).mono ?_; rintro e w' ⟨rfl, rfl⟩; rw [qN.out]))
                  cz
                  case rel => exact ⟨k + 1, by omega, by aH, fun j hj => if e : j = k then by subst e; rw [HE.out]; simp else hd.out j (by omega)⟩
                  case measure => simp [intOf]; omega
                · aa (first | (bg 174; refine (uE _ Bg _).mono ?_; rintro e w' ⟨rfl, rfl⟩; rw [mz.out]) | (bg 51; refine (iH Any _ _ k (fun j => gs ns j) _ hpre (by omega)).mono ?_; rintro e w' ⟨rfl, rfl⟩; rw [qN.out]))
                  ax
                  exact ⟨aQ (by rw [Ai.out (by rw [HE.out]; simp), HE.out]; simp), hb0.trans (kX.out.below.mono (by omega))⟩
            · by_cases kL : g.size = 0
              · have hg1 : g.toList = [] := nh.out.2 kL
                have hg2 : (!g.toList.isEmpty) = false := by simp [hg1]
                have rU := ag kL
                clear kL
                aa (first | (bg 174; refine (uE _ Bg _).mono ?_; rintro e w' ⟨rfl, rfl⟩; rw [mz.out]) | (bg 51; refine (iH Any _ _ k (fun j => gs ns j) _ hpre (by omega)).mono ?_; rintro e w' ⟨rfl, rfl⟩; rw [qN.out]))
                cz
                case rel => exact ⟨k + 1, by omega, by aH, fun j hj => if e : j = k then by subst e; rw [HE.out]; simp [rU.out] else hd.out j (by omega)⟩
                case measure => simp [intOf]; omega
              · have hg1 : (g.toList == []) = false := by
                  rw [Bool.eq_false_iff]; intro e; exact kL (nh.out.1 (by simpa using e))
                have hg2 : g.toList.isEmpty = false := by
                  rw [Bool.eq_false_iff]; intro e; exact kL (nh.out.1 (by simpa using e))
                aa (first | (bg 174; refine (uE _ Bg _).mono ?_; rintro e w' ⟨rfl, rfl⟩; rw [mz.out]) | (bg 51; refine (iH Any _ _ k (fun j => gs ns j) _ hpre (by omega)).mono ?_; rintro e w' ⟨rfl, rfl⟩; rw [qN.out]))
                ax
                exact ⟨aQ (by rw [Ai.out (by rw [HE.out]; simp [kL]), HE.out]; simp [kL]), hb0.trans (kX.out.below.mono (by omega))⟩
          · have hk2 : k = ps.length := by omega
            clear hlt
            dV
            ax
            exact ⟨aQ (by rw [HF.out, if_neg h0, if_neg h1, if_neg (by rw [H2.out]; simp), hok.out, if_pos rfl, c9 fun j hj => hd.out j (by omega)]), hb0.trans (hW.below.mono (by omega))⟩
  · have NH : ((ns.length : Int) != ps.length) = true := by simp; omega
    aq Tryz.func103, Tryz.ntmps103
    dV
    ax
    exact ⟨aQ (by rw [HF.out, if_neg h0, if_neg h1, if_pos h2]), fN⟩
end
section
open Go.RowKit Go.Deep
def ay (base : Nat) (e : TypeId) (w : World) (v : Value) (vs : List Value) : Prop := w.ownsRow base e 1 v vs.length vs
theorem ay.nil (base : Nat) (e : TypeId) (w : World) : ay base e w (.slice none 0 0) [] := World.ownsRow_nil _ _ _ _
theorem aC.congr {S : Nat → Prop} {w : World} {v : Value} {n : Nat} {f g : Nat → Value} (h : aC S w v n f) (e : ∀ k, k < n → f k = g k) : aC S w v n g := by
 obtain ⟨p, cap, rfl, hn, h⟩ := h
 refine ⟨p, cap, rfl, hn, ?_⟩
 rcases h with h | ⟨b, off, rfl, hS, h⟩
 ·exact .inl h
 ·exact .inr ⟨b, off, rfl, hS, fun k hk => by rw [← e k hk]; exact h k hk⟩
theorem ay.rV {base : Nat} {e : TypeId} {w : World} {v : Value} {vs : List Value} (h : ay base e w v vs) : aC (fun b => base ≤ b) w v vs.length (fun k => vs.getD k undef) := by
 rcases h.2 with ⟨rfl, h0⟩ | ⟨g, cap, cur, rfl, hg, hc, hn, _, _, ht⟩
 ·exact ⟨none, 0, by rw [h0], by omega, .inl h0⟩
 ·refine ⟨_, cap, rfl, hn, .inr ⟨g, 0, rfl, hg, fun k hk => ?_⟩⟩
  have := World.ownsRow.cells h (g := g) rfl k vs[k] (by simp [hk])
  have Fw : (⟨g, 0, none⟩ : Addr).add k = ⟨g, 0 + k, none⟩ := by unfold Addr.add; split <;> vt
  rw [Fw] at this
  rw [this]; simp [hk]
theorem ay.ints {base : Nat} {e : TypeId} {w : World} {v : Value} {xs : List Int} (h : ay base e w v (xs.map (Value.int .i64))) : an (fun b => base ≤ b) w v xs := by
 have := h.rV
 rw [List.length_map] at this
 exact this.congr fun k hk => by simp [gi, hk]
theorem ay.strs {base : Nat} {e : TypeId} {w : World} {v : Value} {xs : List ByteArray} (h : ay base e w v (xs.map Value.string)) : aG (fun b => base ≤ b) w v xs := by
 have := h.rV
 rw [List.length_map] at this
 exact this.congr fun k hk => by simp [gs, hk]
theorem ay.kept {base : Nat} {e : TypeId} {w w' : World} {v : Value} {vs : List Value} (h : ay base e w v vs) (k : ∀ b, base ≤ b → b < w.heap.size → w'.heap[b]? = w.heap[b]?) : ay base e w' v vs := by
 refine ⟨h.1, ?_⟩
 rcases h.2 with h0 | ⟨g, cap, cur, rfl, hg, hc, hr⟩
 ·exact .inl h0
 ·have hlt : g < w.heap.size := by
   rcases Nat.lt_or_ge g w.heap.size with h1 | h1
   ·exact h1
   ·rw [Array.getElem?_eq_none h1] at hc; cases hc
  exact .inr ⟨g, cap, cur, rfl, hg, (k g hg hlt).trans hc, hr⟩
theorem ay.alloc {base : Nat} {e : TypeId} {w : World} {v : Value} {vs : List Value} (h : ay base e w v vs) (o : Obj) : ay base e (w.alloc o) v vs := World.ownsRow.alloc h o
theorem pZ {w w' : World} {o : Obj} {row : Option Nat} (h : (w.alloc o).grownBy w' row) : w.grownBy w' row :=
 ⟨h.os, h.tape, h.output, Nat.le_trans (by simp) h.size, fun k hk hne => (h.block k (by simp; omega) hne).trans (Below.heap_alloc w o k hk)⟩
theorem ay.fK {base : Nat} {e : TypeId} {w w' : World} {v : Value} {vs : List Value} (h : ay base e w v vs) (hg : w.grownBy w' v.ownBlock) (hb : base ≤ w.heap.size) : Below base w w' :=
 (Below.refl base w).grown hg hb fun k hk => (World.ownsRow.lt h k hk).1
section
variable {P : Program} {ops : Array Oper} {rest : List Oper} {o : Oper} {a : Act} {Q : Exit → Act → World → Prop}
theorem mM (W : World) (hgd : o.guard = none) (s x : Operand) (t : TypeId) (ho : o.op = .call { callee := .builtin .append, args := #[s, x], argTypes := #[t, t] })
  (base : Nat) (e : TypeId) (z : Value) (bytes : Nat) (ht : P.underlying t = some (.slice e)) (hinfo : (P.info? e).map (fun i => (i.zero, i.size, i.bytes)) = some (some z, 1, bytes))
  (hz1 : z.cells.size = 1) (kB : bytes ≤ 64) {v : Value} {vs : List Value} (hown : ay base e W v vs) (hs : a.eval s = v) (u : Value)
  (hx : a.eval x = .slice (some ⟨W.heap.size, 0, none⟩) 1 1) (h1 : u.oneCell' = true) (hn : vs.length ≤ 1000000) (hbase : base ≤ W.heap.size)
  (h : ∀ g cap w', ay base e w' (.slice (some ⟨g, 0, none⟩) (vs.length + 1) cap) (vs ++ [u]) → W.grownBy w' v.ownBlock → Below base W w' → wpList P ops Q rest (a.put o.dst (.slice (some ⟨g, 0, none⟩) (vs.length + 1) cap)) w') :
  wpList P ops Q (o :: rest) a (W.alloc (.cells #[u] e)) := by
 obtain ⟨i, hi, je⟩ := Option.map_eq_some_iff.1 hinfo
 simp only [Prod.mk.injEq] at je
 obtain ⟨hz, hs1, hb⟩ := je
 refine wpList_append_lies _ hgd s x t ho base e i z 1 bytes ht hi hz hs1 hb hz1 (by omega) v vs.length vs hs (hown.alloc _) ⟨W.heap.size, 0, none⟩ 1 1 [u] hx rfl (cell_one_new _ _ _) (by simpa using h1) (by omega)
  (by unfold maxLen; omega) ?_ (by simp; omega) _ rfl fun g cap w' h2 h3 _ _ => h g cap w' ?_ (pZ h3) (hown.fK (pZ h3) hbase)
 ·have : (vs.length + 1) * bytes ≤ (vs.length + 1) * 64 := Nat.mul_le_mul_left _ kB
  omega
 ·unfold ay; rw [List.length_append]; exact h2
end
end
section
open Go.RowKit Go.Deep
end
section
open Go.RowKit Go.Deep
theorem Tryz.gH : (Tryz.prog.info? 3).map (fun i => (i.zero, i.size, i.bytes)) = some (some (.int .i64 0), 1, 8) := by af
def NI (w : World) (t : aJ) (e : Ending) (w' : World) : Prop :=
 Below w.heap.size w w' ∧ ((aK t ≠ 0 ∧ e = .returned (.tuple #[.slice none 0 0, .int .i64 1])) ∨
  (aK t = 0 ∧ ∃ v, e = .returned (.tuple #[v, .int .i64 0]) ∧ an (fun b => w.heap.size ≤ b) w' v (bD t.ns)))
set_option maxHeartbeats 800000 in
theorem Q9 (S : Nat → Prop) (w : World) (v : Value) (t : aJ) (h : aO S w v t) (hp : t.ps.length ≤ 1000000) (hn : t.ns.length ≤ 1000000) (hz : ∀ k, (gs t.ns k).size ≤ 70000) :
  Calls Tryz.prog 49 #[v] w (NI w t) := by
 obtain ⟨P, N, rfl, hP, hN⟩ := h
 have xy : aO S (w.alloc (.cells #[P, N] 39)) (.agg #[P, N]) t := aO.keep ⟨P, N, rfl, hP, hN⟩ (Kept.below ((Below.refl _ w).alloc (Nat.le_refl _) _))
 have hb0 : Below w.heap.size w (w.alloc (.cells #[P, N] 39)) := (Below.refl _ _).alloc (Nat.le_refl _) _
 have uF : (w.alloc (.cells #[P, N] 39)).cell? ⟨w.heap.size, 1, none⟩ = some N := by simp [World.cell?_alloc_new]
 have JX := yX S (w.alloc (.cells #[P, N] 39)) _ t xy hp hn hz
 rw [World.size_alloc] at JX
 have fO := ag JX
 have JW := ag uF
 have gN := ag hb0
 have HN := ag hN
 clear JX uF hb0 xy hP hN
 by_cases he : aK t = 0
 ·aq Tryz.func49, Tryz.ntmps49
  aa fail
  refine fO.out.mono ?_
  rintro e w1 ⟨rfl, cB⟩
  have fW : Below w.heap.size w w1 := gN.out.trans (cB.mono (by omega))
  have Dt := HN.out.keep (Kept.below fW)
  have uF : w1.cell? ⟨w.heap.size, 1, none⟩ = some N := (cB.cell (p := ⟨w.heap.size, 1, none⟩) (by simp)).trans JW.out
  obtain ⟨q, cF, rfl, Bf, HNN⟩ := aC.open Dt
  have Wr := ag HNN
  have hwz : w.heap.size ≤ w1.heap.size := fW.size
  have HE := ag he
  rw [he]
  clear HNN Dt fO JW gN HN cB he
  aa fail
  aV [4, 5, 6, 13] (fun v _ _ i wr => ∃ k : Nat, k ≤ t.ns.length ∧ i = .int .i64 k ∧ ay w1.heap.size 3 wr v ((gT t.ns k).map (Value.int .i64)) ∧ Below w1.heap.size w1 wr) (fun _ _ _ i _ => t.ns.length - (intOf i).toNat)
  case atStart => exact ⟨0, Nat.zero_le _, rfl, ay.nil _ _ _, Below.refl _ _⟩
  case round =>
   obtain ⟨k, hk, rfl, hown, jG⟩ := bE
   by_cases hlt : k < t.ns.length
   ·obtain ⟨b, off, rfl, hc0⟩ := Wr.out k hlt
    have hc : wr.cell? ⟨b, off + k, none⟩ = some (.string (gs t.ns k)) := by
     rw [jG.cell (p := ⟨b, off + k, none⟩) (World.block_lt_of_cell? _ _ hc0)]; exact hc0
    have hsz := jG.size
    have Bh := xm t.ns k
    have Du := zq t.ns k
    have hnil := toList_nil (gs t.ns k)
    have nh := ag hnil
    have Dv := ag Bh
    have dW : Hid (((gT t.ns k).map (Value.int .i64)).length ≤ 1000000) := by unfold Hid; rw [List.length_map]; omega
    clear hc0 hnil Bh Du Wr hz
    generalize Ds : gs t.ns k = g at *
    clear Ds
    by_cases kL : g.size = 0
    ·have hg1 : g.toList = [] := nh.out.2 kL
     have rU := ag kL
     clear kL
     dV
     aF
     case rel => exact ⟨k + 1, by omega, by aH, by rw [Dv.out, if_pos rU.out, List.append_nil]; exact hown, jG⟩
     case measure => simp [intOf]; omega
    ·have hg1 : (g.toList == []) = false := by
      rw [Bool.eq_false_iff]; intro e; exact kL (nh.out.1 (by simpa using e))
     have hg2 : (g.toList != []) = true := by
      rw [bne_iff_ne]; intro e; exact kL (nh.out.1 (by simpa using e))
     have rU := ag kL
     clear kL
     aa (bR; refine mM wr rfl _ _ 26 rfl w1.heap.size 3 _ 8 Tryz.underlying26 Tryz.gH rfl (by decide) hown rfl _ rfl rfl dW.out hsz ?_; intro g cap w2 eF hg1 cB)
     aF
     case rel => exact ⟨k + 1, by omega, by aH, by rw [Dv.out, if_neg rU.out, List.map_append]; rw [List.length_map] at eF; exact eF, jG.trans cB⟩
     case measure => simp [intOf]; omega
   ·obtain rfl : k = t.ns.length := by omega
    clear hlt hk Wr
    dV
    pE
    exact ⟨fW.trans (jG.mono hwz), .inr ⟨HE.out, _, rfl, hown.ints.sub fun b hb _ => Nat.le_trans hwz hb⟩⟩
 ·have he' : (aK t != 0) = true := by simpa using he
  have HE := ag he
  clear he
  aq Tryz.func49, Tryz.ntmps49
  aa fail
  refine fO.out.mono ?_
  rintro e w1 ⟨rfl, cB⟩
  aa fail
  pE
  exact ⟨gN.out.trans (cB.mono (by omega)), .inl ⟨HE.out, rfl⟩⟩
end
section
open Go.RowKit Go.Deep
end
section
open Go.RowKit Go.Shelf Go.Deep
attribute [local go_sem] Oper.semAt_some
theorem Ra {e : Ending} {A B : Prop} (h : (e = .returned (.bool true) ∧ A) ∨ (e = .returned (.bool false) ∧ B)) : ∃ bb, e = .returned (.bool bb) ∧ Hid ((bb = true ∧ A) ∨ (bb = false ∧ B)) := by
 rcases h with ⟨h1, h2⟩ | ⟨h1, h2⟩
 ·exact ⟨true, h1, .inl ⟨rfl, h2⟩⟩
 ·exact ⟨false, h1, .inr ⟨rfl, h2⟩⟩
def KS (T : Nat → Prop) (w w' : World) : Prop := ∀ b, T b → w'.heap[b]? = w.heap[b]?
theorem KS.refl (T : Nat → Prop) (w : World) : KS T w w := fun _ _ => rfl
theorem KS.trans {T : Nat → Prop} {a b c : World} (h : KS T a b) (k : KS T b c) : KS T a c := fun i hi => (k i hi).trans (h i hi)
theorem KS.cell {T : Nat → Prop} {a b : World} (h : KS T a b) {p : Addr} (hp : T p.block) : b.cell? p = a.cell? p := World.cell?_of_block (h p.block hp)
theorem KS.drewN {T : Nat → Prop} {a b : World} (h : KS T a b) (n : Nat) : KS T a (b.drewN n) := h
end
section
open Go.RowKit Go.Shelf Go.Deep
end
section
open Go.RowKit Go.Shelf Go.Deep
section
variable {F : Fence} {n : Nat} {P : Program} {ops : Array Oper} {C : World → Prop}
end
end
section
open Go.RowKit Go.Deep
end
section
open Go.RowKit Go.Shelf Go.Deep
attribute [local go_sem] Oper.semAt_some
set_option maxHeartbeats 400000 in
theorem Ju (S : Nat → Prop) (w : World) (v : Value) (xs : List Int) (x : Int) (h : an S w v xs) (hn : xs.length ≤ 1000000) :
  Calls Tryz.prog 78 #[v, .int .i64 x] w fun e w' => e = .returned (.int .i64 (dm (fun j => decide (x = gi xs j)) xs.length)) ∧ w = w' := by
 obtain ⟨p, cap, rfl, hcap, H⟩ := aC.open h
 clear h
 aq Tryz.func78, Tryz.ntmps78
 aa fail
 dD [5, 8] (fun _ i => ∃ k : Nat, k ≤ xs.length ∧ i = .int .i64 k ∧ Hid (∀ j, j < k → decide (x = gi xs j) = false)) (fun _ i => xs.length - (intOf i).toNat)
 case atStart => exact ⟨0, Nat.zero_le _, rfl, fun j hj => absurd hj (Nat.not_lt_zero _)⟩
 case round =>
  obtain ⟨k, hk, rfl, hd⟩ := bE
  by_cases hlt : k < xs.length
  ·obtain ⟨b, off, rfl, hc⟩ := H k hlt
   clear H
   generalize hy : gi xs k = y at *
   have HY := ag hy
   clear hy
   by_cases hxy : x = y
   ·have hx1 : (x == y) = true := by simp [hxy]
    have rW := ag hxy
    clear hxy
    aa fail
    ax
    exact ⟨aQ (gF (p := fun j => decide (x = gi xs j)) hlt hd.out (by rw [HY.out]; simpa using rW.out)).symm, rfl⟩
   ·have hx1 : (x == y) = false := by simpa using hxy
    have rW := ag hxy
    clear hxy
    aa fail
    cz
    case rel => exact ⟨k + 1, by omega, by aH, fun j hj => if e : j = k then by subst e; rw [HY.out]; simpa using rW.out else hd.out j (by omega)⟩
    case measure => simp [intOf]; omega
  ·clear H
   aa fail
   ax
   exact ⟨aQ (eN fun j hj => hd.out j (by omega)).symm, rfl⟩
theorem Bi (S : Nat → Prop) (w : World) (n : Nat) : Kept S w (w.drewN n) := fun _ _ _ => rfl
end
section
open Go.RowKit Go.Deep
theorem bI (W : World) (cs : Array Value) (t : TypeId) (k : Nat) : (W.alloc (.cells cs t)).cell? ⟨W.heap.size, k, none⟩ = cs[k]? := by
 unfold World.cell?; rw [World.alloc_heap_new]; rfl
end
end Go.Proofs.YtpnmblnahjjmhaaGreat
