/- The contract of phylotree.Check. Names, as layer 1's and layer 31's references have them: .. -/
import Derived.Test.YteegefnjnikngaaGreatQ3
import Derived.Test.YteegefnjnikngaaGreatQ1
set_option maxRecDepth 100000
namespace Go.Proofs.YteegefnjnikngaaGreat
section
open Go.RowKit Go.Deep
theorem Tryz.infoB : (Tryz.prog.info? 4).map (fun i => (i.zero, i.size, i.bytes)) = some (some (.bool false), 1, 1) := by kernel_rfl
structure zP (w0 wr : World) (B n : Nat) (f : Nat → Bool) : Prop where
 below : Below B w0 wr
 row : wr.rowIs B 4 n (fun j => .bool (f j))
 size : wr.heap.size = B + 1
theorem zP.start (w0 : World) (n : Nat) (f : Nat → Bool) (hf : ∀ j, f j = false) : zP w0 (w0.alloc (.cells (madeCells #[.bool false] n) 4)) w0.heap.size n f :=
 ⟨(Below.refl _ _).alloc (Nat.le_refl _) _, (World.rowIs_made w0 _ n _).congr fun i _ => by simp [hf], by simp⟩
theorem zP.set {w0 wr : World} {B n q : Nat} {f g : Nat → Bool} (h : zP w0 wr B n f) (hg : ∀ j, g j = (f j || decide (j = q))) :
  zP w0 (wr.setCell ⟨B, q, none⟩ (.bool true)) B n g :=
 ⟨h.below.setCell (p := ⟨B, q, none⟩) (Nat.le_refl _) _, (h.row.set q _).congr fun i _ => by
  by_cases e : i = q
  ·simp [e, hg]
  ·simp [e, hg], by simp [h.size]⟩
theorem zP.congr {w0 wr : World} {B n : Nat} {f g : Nat → Bool} (h : zP w0 wr B n f) (hg : ∀ j, g j = f j) : zP w0 wr B n g :=
 ⟨h.below, h.row.congr fun i _ => by simp [hg], h.size⟩
set_option maxHeartbeats 800000 in
theorem oV (S : Nat → Prop) (w : World) (v : Value) (t : ax) (h : aC S w v t) (hp : t.ps.length ≤ 1000000) (hn : t.ns.length ≤ 1000000) (hz : ∀ k, (gs t.ns k).size ≤ 70000) :
    Calls Tryz.prog 92 #[v] w fun e w' => e = .returned (.int .i64 (az t)) ∧ Below w.heap.size w w' := by
  obtain ⟨P, N, rfl, hP, hN⟩ := h
  obtain ⟨ps, ns⟩ := t
  simp only at *
  have dG : az ⟨ps, ns⟩ = if ps.length = 0 then 5 else if 64 < ps.length then 4 else if ns.length ≠ ps.length then 9 else if iJ ps then firstNZ (ja ps ns) ps.length else 2 := rfl
  have HF := aa dG
  clear dG
  have Ot := hP.keep (Kept.below ((Below.refl _ w).alloc (Nat.le_refl _) (.cells #[P, N] 39)))
  have Ou := hN.keep (Kept.below ((Below.refl _ w).alloc (Nat.le_refl _) (.cells #[P, N] 39)))
  clear hP hN
  obtain ⟨p, cap, rfl, hcap, HP⟩ := aD.open Ot
  obtain ⟨q, dM, rfl, BL, HN⟩ := aD.open Ou
  have kj : Below w.heap.size w (w.alloc (.cells #[.slice p ps.length cap, .slice q ns.length dM] 39)) := (Below.refl _ _).alloc (Nat.le_refl _) _
  have K1 := aa HP
  have Gt := aa HN
  clear Ot Ou HP HN
  by_cases h0 : ps.length = 0
  · have HX : Hid (ps.length = 0) := h0
    have h0' : ((ps.length : Int) == 0) = true := by simp [h0]
    clear h0
    go_enter Tryz.func92, Tryz.ntmps92
    go_wp2
    go_ret
    exact ⟨aO (by rw [HF.out, if_pos HX.out]), kj⟩
  have h0' : ((ps.length : Int) == 0) = false := by simpa using h0
  by_cases h1 : 64 < ps.length
  · go_enter Tryz.func92, Tryz.ntmps92
    go_wp2
    go_ret
    exact ⟨aO (by rw [HF.out, if_neg h0, if_pos h1]), kj⟩
  by_cases h2 : ns.length = ps.length
  · have Ec : ((ns.length : Int) != ps.length) = false := by simp [h2]
    have H2 := aa h2
    clear h2
    have hmk := fun W => run_make_row' (P := Tryz.prog) 119 4 (.bool false) 1 Tryz.underlying119 Tryz.infoB rfl .i64 .i64 ps.length (by omega) (by omega) W
    go_enter Tryz.func92, Tryz.ntmps92
    go_wp2
    clear hmk kj
    have hstart := zP.start (w.alloc (.cells #[.slice p ps.length cap, .slice q ns.length dM] 39)) ps.length (fun j => D7 ps 0 j) (fun j => rfl)
    rw [World.size_alloc] at hstart
    have nt : (w.alloc (.cells #[.slice p ps.length cap, .slice q ns.length dM] 39)).cell? ⟨w.heap.size, 0, none⟩ = some (.slice p ps.length cap) := by simp [World.cell?_alloc_new]
    have uO : (w.alloc (.cells #[.slice p ps.length cap, .slice q ns.length dM] 39)).cell? ⟨w.heap.size, 1, none⟩ = some (.slice q ns.length dM) := by simp [World.cell?_alloc_new]
    have hb0 : Below w.heap.size w (w.alloc (.cells #[.slice p ps.length cap, .slice q ns.length dM] 39)) := (Below.refl _ _).alloc (Nat.le_refl _) _
    have hsz : (w.alloc (.cells #[.slice p ps.length cap, .slice q ns.length dM] 39)).heap.size = w.heap.size + 1 := by simp
    generalize hw0 : w.alloc (.cells #[.slice p ps.length cap, .slice q ns.length dM] 39) = w0 at *
    clear hw0
    have HS := aa hsz
    have K2 := aa nt
    have K3 := aa uO
    clear hsz nt uO
    go_loopw [4, 5, 33] (fun _ _ i wr => ∃ k : Nat, k ≤ ps.length ∧ i = .int .i64 k ∧ Hid (∀ j, j < k → jm j (gi ps j) = true) ∧ zP w0 wr (w.heap.size + 1) ps.length (fun j => D7 ps k j)) (fun _ _ i _ => ps.length - (intOf i).toNat)
    case atStart => exact ⟨0, Nat.zero_le _, rfl, fun j hj => absurd hj (Nat.not_lt_zero _), hstart⟩
    case round =>
      obtain ⟨k, hk, rfl, hd, hW⟩ := hrel
      clear hstart
      by_cases hlt : k < ps.length
      · obtain ⟨b, off, rfl, hc0⟩ := K1.out k hlt
        have hc : wr.cell? ⟨b, off + k, none⟩ = some (.int .i64 (gi ps k)) := by
          rw [hW.below.cell (p := ⟨b, off + k, none⟩) (by have := World.block_lt_of_cell? _ _ hc0; have := HS.out; simp at *; omega)]; exact hc0
        clear hc0
        generalize hpk : gi ps k = x at *
        have HX := aa hpk
        clear hpk
        by_cases hg : 0 < k ∧ 0 ≤ x ∧ x < k
        · obtain ⟨g1, g2, g3⟩ := hg
          obtain ⟨y, rfl⟩ := Int.eq_ofNat_of_zero_le g2
          have hi1 := hW.row.cell (i := y) (by omega)
          have hi2 := hW.row.frozen y
          go_wp2
          go_roundw
          case rel => exact ⟨k + 1, by omega, by go_num, fun j hj => if e : j = k then by subst e; rw [HX.out]; unfold jm; rw [if_neg (by omega)]; simp; omega else hd.out j (by omega), hW.set (q := y) fun j => by rw [Ga, HX.out]; simp only [g1, decide_true, Bool.true_and]; congr 1; rw [Bool.eq_iff_iff]; simp; omega⟩
          case measure => simp [intOf]; omega
        · by_cases Gu : k = 0 ∧ x = -1
          · obtain ⟨rfl, rfl⟩ := Gu
            have hc' : wr.cell? ⟨b, off, none⟩ = some (.int .i64 (-1)) := by simpa using hc
            go_wp2
            go_roundw
            case rel => exact ⟨1, by omega, by go_num, fun j hj => by obtain rfl : j = 0 := by omega
                                                                      rw [HX.out]; rfl, hW.congr fun j => by rw [Ga]; simp⟩
            case measure => simp [intOf]; omega
          · have mg : jm k x = false := by
              unfold jm; split
              · rename_i e; simp; exact fun e2 => Gu ⟨e, e2⟩
              · simp; intro; omega
            rw [← HX.out] at mg
            have HB := aa (Gc hlt mg)
            clear mg
            go_wp2
            all_goals go_ret
            all_goals exact ⟨aO (by rw [HF.out, if_neg h0, if_neg h1, if_neg (by rw [H2.out]; simp), HB.out]; simp), hb0.trans (hW.below.mono (by omega))⟩
      · obtain rfl : k = ps.length := by omega
        have hok := aa (AG hd.out)
        have qw : wr.cell? ⟨w.heap.size, 1, none⟩ = some (.slice q ns.length dM) := by
          rw [hW.below.cell (p := ⟨w.heap.size, 1, none⟩) (by simp)]; exact K3.out
        clear hlt hk hd K1 hcap
        go_wp2
        go_loop [6, 7, 66] (fun _ _ i => ∃ k : Nat, k ≤ ps.length ∧ i = .int .i64 k ∧ Hid (∀ j, j < k → ja ps ns j = 0)) (fun _ _ i => ps.length - (intOf i).toNat)
        case atStart => exact ⟨0, Nat.zero_le _, rfl, fun j hj => absurd hj (Nat.not_lt_zero _)⟩
        case round =>
          obtain ⟨k, hk, rfl, hd⟩ := hrel
          have hlen : ns.length ≤ ps.length ∧ ps.length ≤ ns.length := by have := H2.out; omega
          obtain ⟨gK, hl2⟩ := hlen
          by_cases hlt : k < ps.length
          · obtain ⟨b, off, rfl, hc0⟩ := Gt.out k (by have := H2.out; omega)
            have hpre : aD Any wr (.slice (some ⟨b, off, none⟩) k dM) k (fun j => .string (gs ns j)) := by
              refine ⟨_, _, rfl, by omega, .inr ⟨b, off, rfl, trivial, fun j hj => ?_⟩⟩
              obtain ⟨b', off', e, xx⟩ := Gt.out j (by omega)
              cases e
              rw [hW.below.cell (p := ⟨b, off + j, none⟩) (by have := World.block_lt_of_cell? _ _ xx; have := HS.out; simp at *; omega)]; exact xx
            have hc : wr.cell? ⟨b, off + k, none⟩ = some (.string (gs ns k)) := by
              rw [hW.below.cell (p := ⟨b, off + k, none⟩) (by have := World.block_lt_of_cell? _ _ hc0; have := HS.out; simp at *; omega)]; exact hc0
            clear hc0
            have hi1 := hW.row.cell (i := k) (by omega)
            have hsk : (List.range k).any (fun j => decide (gs ns k = gs ns j)) = dI ns k := by
              unfold dI; congr 1; funext j; exact decide_eq_decide.2 eq_comm
            have BM := aa hsk
            clear hsk
            have Gw := hz k
            have hne : ja ps ns k = if isIn ps k then (if (gs ns k).size = 0 then 0 else 14) else if aZ (gs ns k).data.toList then (if dI ns k then 7 else 0) else 14 := rfl
            have hnil := toList_nil (gs ns k)
            have hend : ja ps ns k ≠ 0 → az ⟨ps, ns⟩ = ja ps ns k := fun hn0 => by
              rw [HF.out, if_neg h0, if_neg h1, if_neg (by rw [H2.out]; simp), hok.out, if_pos rfl]; exact fZ hlt hd.out hn0
            have HE := aa hne
            have fN := aa hend
            have sk := aa hnil
            have Ov := aa hW
            clear hne hend hnil Gt hz hW
            have hi2 : D7 ps ps.length k = isIn ps k := rfl
            rw [hi2] at hi1
            clear hi2
            generalize hin : isIn ps k = bi at *
            generalize hnm : aZ (gs ns k).data.toList = bn at *
            generalize sr : dI ns k = bs at *
            generalize Ed : gs ns k = g at *
            have iF := aa hnm
            clear hin hnm sr Ed
            cases bi
            · cases bn
              · go_wp2_with (first | (go_at_call 148; refine (uN _ Gw _).mono ?_; rintro e w' ⟨rfl, rfl⟩; rw [iF.out]) | (go_at_call 39; refine (gZ Any _ _ k (fun j => gs ns j) _ hpre (by omega)).mono ?_; rintro e w' ⟨rfl, rfl⟩; rw [BM.out]))
                go_ret
                exact ⟨aO (by rw [fN.out (by rw [HE.out]; simp), HE.out]; simp), hb0.trans (Ov.out.below.mono (by omega))⟩
              · cases bs
                · go_wp2_with (first | (go_at_call 148; refine (uN _ Gw _).mono ?_; rintro e w' ⟨rfl, rfl⟩; rw [iF.out]) | (go_at_call 39; refine (gZ Any _ _ k (fun j => gs ns j) _ hpre (by omega)).mono ?_; rintro e w' ⟨rfl, rfl⟩; rw [BM.out]))
                  go_round
                  case rel => exact ⟨k + 1, by omega, by go_num, fun j hj => if e : j = k then by subst e; rw [HE.out]; simp else hd.out j (by omega)⟩
                  case measure => simp [intOf]; omega
                · go_wp2_with (first | (go_at_call 148; refine (uN _ Gw _).mono ?_; rintro e w' ⟨rfl, rfl⟩; rw [iF.out]) | (go_at_call 39; refine (gZ Any _ _ k (fun j => gs ns j) _ hpre (by omega)).mono ?_; rintro e w' ⟨rfl, rfl⟩; rw [BM.out]))
                  go_ret
                  exact ⟨aO (by rw [fN.out (by rw [HE.out]; simp), HE.out]; simp), hb0.trans (Ov.out.below.mono (by omega))⟩
            · by_cases hg0 : g.size = 0
              · have hg1 : g.toList = [] := sk.out.2 hg0
                have hg2 : (!g.toList.isEmpty) = false := by simp [hg1]
                have uP := aa hg0
                clear hg0
                go_wp2_with (first | (go_at_call 148; refine (uN _ Gw _).mono ?_; rintro e w' ⟨rfl, rfl⟩; rw [iF.out]) | (go_at_call 39; refine (gZ Any _ _ k (fun j => gs ns j) _ hpre (by omega)).mono ?_; rintro e w' ⟨rfl, rfl⟩; rw [BM.out]))
                go_round
                case rel => exact ⟨k + 1, by omega, by go_num, fun j hj => if e : j = k then by subst e; rw [HE.out]; simp [uP.out] else hd.out j (by omega)⟩
                case measure => simp [intOf]; omega
              · have hg1 : (g.toList == []) = false := by
                  rw [Bool.eq_false_iff]; intro e; exact hg0 (sk.out.1 (by simpa using e))
                have hg2 : g.toList.isEmpty = false := by
                  rw [Bool.eq_false_iff]; intro e; exact hg0 (sk.out.1 (by simpa using e))
                go_wp2_with (first | (go_at_call 148; refine (uN _ Gw _).mono ?_; rintro e w' ⟨rfl, rfl⟩; rw [iF.out]) | (go_at_call 39; refine (gZ Any _ _ k (fun j => gs ns j) _ hpre (by omega)).mono ?_; rintro e w' ⟨rfl, rfl⟩; rw [BM.out]))
                go_ret
                exact ⟨aO (by rw [fN.out (by rw [HE.out]; simp [hg0]), HE.out]; simp [hg0]), hb0.trans (Ov.out.below.mono (by omega))⟩
          · have hk2 : k = ps.length := by omega
            clear hlt
            go_wp2
            go_ret
            exact ⟨aO (by rw [HF.out, if_neg h0, if_neg h1, if_neg (by rw [H2.out]; simp), hok.out, if_pos rfl, eN fun j hj => hd.out j (by omega)]), hb0.trans (hW.below.mono (by omega))⟩
  · have Ec : ((ns.length : Int) != ps.length) = true := by simp; omega
    go_enter Tryz.func92, Tryz.ntmps92
    go_wp2
    go_ret
    exact ⟨aO (by rw [HF.out, if_neg h0, if_neg h1, if_pos h2]), kj⟩
end
section
open Go.RowKit Go.Deep
def Xz (w : World) (n : Nat) (e : Ending) (w' : World) : Prop := Below w.heap.size w w' ∧ ∃ v, ∃ bs : List Bool, e = .returned v ∧ bs.length = n ∧ aD Any w' v n (fun k => .bool (gb bs k))
theorem aA.bools {base : Nat} {e : TypeId} {w : World} {v : Value} {xs : List Bool} (h : aA base e w v (xs.map Value.bool)) : aD (fun b => base ≤ b) w v xs.length (fun k => .bool (gb xs k)) := by
 have := h.AJ
 rw [List.length_map] at this
 exact this.congr fun k hk => by simp [gb, hk]
theorem aD.XA {S : Nat → Prop} {w : World} {b n cap : Nat} {f : Nat → Value} {o : Nat} (h : aD S w (.slice (some ⟨b, o, none⟩) n cap) n f) {k : Nat} (hk : k < n) : w.cell? ⟨b, o + k, none⟩ = some (f k) := by
 obtain ⟨p, c, e, _, H⟩ := h.open
 cases e
 obtain ⟨b', o', e', hc⟩ := H k hk
 cases e'
 exact hc
theorem aA.form {base : Nat} {e : TypeId} {w : World} {v : Value} {vs : List Value} {n : Nat} (h : aA base e w v vs) (hn : vs.length = n) : ∃ p cap, v = .slice p n cap ∧ (p = none ∨ ∃ g, p = some ⟨g, 0, none⟩) := by
 subst hn
 rcases h.2 with ⟨rfl, h0⟩ | ⟨g, cap, cur, rfl, _⟩
 ·exact ⟨none, 0, by rw [h0], .inl rfl⟩
 ·exact ⟨_, cap, rfl, .inr ⟨g, rfl⟩⟩
theorem aA.made (w : World) (e : TypeId) : aA w.heap.size e (w.alloc (.cells #[] e)) (.slice (some ⟨w.heap.size, 0, none⟩) 0 0) [] := World.ownsRow_made w #[] 0 (Nat.le_refl _) (by unfold maxLen; omega) (by simp)
set_option maxHeartbeats 400000 in
theorem VV (s : ByteArray) (hs : s.size ≤ 1000) (w : World) : Calls Tryz.prog 287 #[.string s] w (Xz w s.size) := by
 go_enter Tryz.func287, Tryz.ntmps287
 go_wp2
 go_loopw [3, 4] (fun v i wr => ∃ k : Nat, ∃ bs : List Bool, k ≤ s.size ∧ i = .int .i64 k ∧ bs.length = k ∧ aA w.heap.size 4 wr v (bs.map .bool) ∧ Below w.heap.size w wr) (fun _ i _ => s.size - (intOf i).toNat)
 case atStart => exact ⟨0, [], Nat.zero_le _, rfl, rfl, aA.made _ _, (Below.refl _ _).alloc (Nat.le_refl _) _⟩
 case round =>
  obtain ⟨k, bs, hk, rfl, hbl, hown, hbr⟩ := hrel
  have hsz := hbr.size
  have uQ := aa hbl
  by_cases hlt : k < s.size
  ·have dF : Hid ((bs.map Value.bool).length ≤ 1000000) := by unfold Hid; rw [List.length_map]; omega
   clear hbl
   rcases Nat.eq_zero_or_pos k with rfl | tM
   ·go_wp2_with (first | (go_at_call 263; refine (rU _ (UInt8.toNat_lt _) _).mono ?_; rintro e w' ⟨rfl, rfl⟩; generalize dg _ = q at *) | (at_builtin; refine mB wr rfl _ _ 119 rfl w.heap.size 4 _ 1 Tryz.underlying119 Tryz.Oo rfl (by decide) hown rfl _ rfl rfl dF.out hsz ?_; intro g cap w2 hown1 hg1 hb1))
    all_goals
     go_roundw
     case rel => exact ⟨1, bs ++ [_], by omega, by go_num, by rw [List.length_append, uQ.out]; rfl, by rw [List.map_append]; rw [List.length_map] at hown1; exact hown1, hbr.trans hb1⟩
     case measure => simp [intOf]; omega
   ·have ij := hown.bools
    obtain ⟨p, cap, rfl, hp⟩ := hown.form (n := k) (by rw [List.length_map]; exact uQ.out)
    rw [uQ.out] at ij
    obtain ⟨p', cap', e', hcap', H⟩ := ij.open
    cases e'
    obtain ⟨b, off, rfl, hc⟩ := H (k - 1) (by have := uQ.out; omega)
    clear H ij hp
    go_wp2_with (first | (go_at_call 263; refine (rU _ (UInt8.toNat_lt _) _).mono ?_; rintro e w' ⟨rfl, rfl⟩; generalize dg _ = q at *) | (at_builtin; refine mB wr rfl _ _ 119 rfl w.heap.size 4 _ 1 Tryz.underlying119 Tryz.Oo rfl (by decide) hown rfl _ rfl rfl dF.out hsz ?_; intro g cap w2 hown1 hg1 hb1))
    all_goals
     go_roundw
     case rel => exact ⟨k + 1, bs ++ [_], by omega, by go_num, by rw [List.length_append, uQ.out]; rfl, by rw [List.map_append]; rw [List.length_map] at hown1; exact hown1, hbr.trans hb1⟩
     case measure => simp [intOf]; omega
  ·obtain rfl : k = s.size := by omega
   clear hlt hk hbl
   go_wp2
   go_ret
   exact ⟨hbr, _, bs, rfl, uQ.out, (by rw [← uQ.out]; exact hown.bools.sub fun _ _ _ => trivial)⟩
end
section
open Go.RowKit Go.Deep
theorem Tryz.lK : (Tryz.prog.info? 3).map (fun i => (i.zero, i.size, i.bytes)) = some (some (.int .i64 0), 1, 8) := by kernel_rfl
def XB (w : World) (t : ax) (e : Ending) (w' : World) : Prop :=
 Below w.heap.size w w' ∧ ((az t ≠ 0 ∧ e = .returned (.tuple #[.slice none 0 0, .int .i64 1])) ∨
  (az t = 0 ∧ ∃ v, e = .returned (.tuple #[v, .int .i64 0]) ∧ aB (fun b => w.heap.size ≤ b) w' v (ay t.ns)))
set_option maxHeartbeats 800000 in
theorem vX (S : Nat → Prop) (w : World) (v : Value) (t : ax) (h : aC S w v t) (hp : t.ps.length ≤ 1000000) (hn : t.ns.length ≤ 1000000) (hz : ∀ k, (gs t.ns k).size ≤ 70000) :
  Calls Tryz.prog 37 #[v] w (XB w t) := by
 obtain ⟨P, N, rfl, hP, hN⟩ := h
 have ht0 : aC S (w.alloc (.cells #[P, N] 39)) (.agg #[P, N]) t := aC.keep ⟨P, N, rfl, hP, hN⟩ (Kept.below ((Below.refl _ w).alloc (Nat.le_refl _) _))
 have hb0 : Below w.heap.size w (w.alloc (.cells #[P, N] 39)) := (Below.refl _ _).alloc (Nat.le_refl _) _
 have uO : (w.alloc (.cells #[P, N] 39)).cell? ⟨w.heap.size, 1, none⟩ = some N := by simp [World.cell?_alloc_new]
 have nh := oV S (w.alloc (.cells #[P, N] 39)) _ t ht0 hp hn hz
 rw [World.size_alloc] at nh
 have fA := aa nh
 have K3 := aa uO
 have jo := aa hb0
 have HN := aa hN
 clear nh uO hb0 ht0 hP hN
 by_cases he : az t = 0
 ·go_enter Tryz.func37, Tryz.ntmps37
  go_wp2_with fail
  refine fA.out.mono ?_
  rintro e w1 ⟨rfl, hb1⟩
  have kL : Below w.heap.size w w1 := jo.out.trans (hb1.mono (by omega))
  have K4 := HN.out.keep (Kept.below kL)
  have uO : w1.cell? ⟨w.heap.size, 1, none⟩ = some N := (hb1.cell (p := ⟨w.heap.size, 1, none⟩) (by simp)).trans K3.out
  obtain ⟨q, dM, rfl, BL, HNN⟩ := aD.open K4
  have XC := aa HNN
  have T8 : w.heap.size ≤ w1.heap.size := kL.size
  have HE := aa he
  rw [he]
  clear HNN K4 fA K3 jo HN hb1 he
  go_wp2_with fail
  go_loopw [4, 5, 6, 13] (fun v _ _ i wr => ∃ k : Nat, k ≤ t.ns.length ∧ i = .int .i64 k ∧ aA w1.heap.size 3 wr v ((oU t.ns k).map (Value.int .i64)) ∧ Below w1.heap.size w1 wr) (fun _ _ _ i _ => t.ns.length - (intOf i).toNat)
  case atStart => exact ⟨0, Nat.zero_le _, rfl, aA.nil _ _ _, Below.refl _ _⟩
  case round =>
   obtain ⟨k, hk, rfl, hown, hbr⟩ := hrel
   by_cases hlt : k < t.ns.length
   ·obtain ⟨b, off, rfl, hc0⟩ := XC.out k hlt
    have hc : wr.cell? ⟨b, off + k, none⟩ = some (.string (gs t.ns k)) := by
     rw [hbr.cell (p := ⟨b, off + k, none⟩) (World.block_lt_of_cell? _ _ hc0)]; exact hc0
    have hsz := hbr.size
    have kM := Gd t.ns k
    have qx := Ko t.ns k
    have hnil := toList_nil (gs t.ns k)
    have sk := aa hnil
    have su := aa kM
    have dF : Hid (((oU t.ns k).map (Value.int .i64)).length ≤ 1000000) := by unfold Hid; rw [List.length_map]; omega
    clear hc0 hnil kM qx XC hz
    generalize Ed : gs t.ns k = g at *
    clear Ed
    by_cases hg0 : g.size = 0
    ·have hg1 : g.toList = [] := sk.out.2 hg0
     have uP := aa hg0
     clear hg0
     go_wp2
     go_roundw
     case rel => exact ⟨k + 1, by omega, by go_num, by rw [su.out, if_pos uP.out, List.append_nil]; exact hown, hbr⟩
     case measure => simp [intOf]; omega
    ·have hg1 : (g.toList == []) = false := by
      rw [Bool.eq_false_iff]; intro e; exact hg0 (sk.out.1 (by simpa using e))
     have hg2 : (g.toList != []) = true := by
      rw [bne_iff_ne]; intro e; exact hg0 (sk.out.1 (by simpa using e))
     have uP := aa hg0
     clear hg0
     go_wp2_with (at_builtin; refine mB wr rfl _ _ 26 rfl w1.heap.size 3 _ 8 Tryz.underlying26 Tryz.lK rfl (by decide) hown rfl _ rfl rfl dF.out hsz ?_; intro g cap w2 hown1 hg1 hb1)
     go_roundw
     case rel => exact ⟨k + 1, by omega, by go_num, by rw [su.out, if_neg uP.out, List.map_append]; rw [List.length_map] at hown1; exact hown1, hbr.trans hb1⟩
     case measure => simp [intOf]; omega
   ·obtain rfl : k = t.ns.length := by omega
    clear hlt hk XC
    go_wp2
    go_ret2
    exact ⟨kL.trans (hbr.mono T8), .inr ⟨HE.out, _, rfl, hown.ints.sub fun b hb _ => Nat.le_trans T8 hb⟩⟩
 ·have he' : (az t != 0) = true := by simpa using he
  have HE := aa he
  clear he
  go_enter Tryz.func37, Tryz.ntmps37
  go_wp2_with fail
  refine fA.out.mono ?_
  rintro e w1 ⟨rfl, hb1⟩
  go_wp2_with fail
  go_ret2
  exact ⟨jo.out.trans (hb1.mono (by omega)), .inl ⟨HE.out, rfl⟩⟩
end
section
open Go.RowKit Go.Deep
def VW (w : World) (s : ByteArray) (e : Ending) (w' : World) : Prop := Below w.heap.size w w' ∧ ∃ r, e = .returned (.int .i64 r) ∧ (s.data.toList.all qW = true → r = 0)
theorem Gx {s : ByteArray} (h : s.data.toList.all qW = true) {k : Nat} (hk : k < s.size) : qW s[k] = true :=
 List.all_eq_true.1 h _ (by rw [Array.mem_toList_iff]; exact Array.getElem_mem _)
set_option maxHeartbeats 400000 in
theorem ckR_t (s : ByteArray) (hs : s.size ≤ 1000) (w : World) : Calls Tryz.prog 262 #[.string s] w (VW w s) := by
 go_enter Tryz.func262, Tryz.ntmps262
 go_wp2_with fail
 refine (VV s hs _).mono ?_
 rintro e w1 ⟨hb, v, bs, rfl, hbl, ij⟩
 obtain ⟨p, cap, rfl, hcap, H⟩ := ij.open
 have HH := aa H
 clear H ij hbl
 go_wp2_with fail
 go_loop [4, 5] (fun i _ => ∃ k : Nat, k ≤ s.size ∧ i = .int .i64 k) (fun i _ => s.size - (intOf i).toNat)
 case atStart => exact ⟨0, Nat.zero_le _, rfl⟩
 case round =>
  obtain ⟨k, hk, rfl⟩ := hrel
  by_cases hlt : k < s.size
  ·obtain ⟨b, off, rfl, hc⟩ := HH.out k hlt
   have hka : s.data.toList.all qW = true → dg s[k].toNat = 1 ∨ dg s[k].toNat = 3 := fun h => (si s[k]).2 (Gx h hlt)
   have XD := aa hka
   clear HH hka
   go_wp2_with (go_at_call 263; refine (rU _ (UInt8.toNat_lt _) _).mono ?_; rintro e w' ⟨rfl, rfl⟩; generalize dg _ = q at *)
   all_goals first | (go_round; (case rel => exact ⟨k + 1, by omega, by go_num⟩); (case measure => simp [intOf]; omega)) | (go_ret; exact ⟨hb, _, rfl, fun h => by have := XD.out h; simp at *; omega⟩)
  ·clear HH
   go_wp2_with fail
   go_ret
   exact ⟨hb, _, rfl, fun _ => rfl⟩
def XE (w : World) (s : ByteArray) (e : Ending) (w' : World) : Prop := Below w.heap.size w w' ∧ ∃ b, e = .returned (.bool b) ∧ (s.data.toList.all qW = true → 1 ≤ s.size → b = true) ∧ (s.size = 0 → b = false)
set_option maxHeartbeats 400000 in
theorem Ow (s : ByteArray) (hs : s.size ≤ 16) (w : World) : Calls Tryz.prog 216 #[.string s] w (XE w s) := by
 by_cases h0 : s.size < 1
 ·go_enter Tryz.func216, Tryz.ntmps216
  go_wp2_with fail
  go_ret
  exact ⟨Below.refl _ _, _, rfl, fun _ h => by omega, fun _ => rfl⟩
 ·have h0' : ((0 : Nat) < s.size) := by omega
  have hka : s.data.toList.all qW = true → dg s[0].toNat = 1 ∨ dg s[0].toNat = 3 := fun h => (si s[0]).2 (Gx h h0')
  have XD := aa hka
  clear hka
  go_enter Tryz.func216, Tryz.ntmps216
  go_wp2_with fail
  refine (ckR_t s (by omega) _).mono ?_
  rintro e w1 ⟨hb, r, rfl, hr⟩
  have HR := aa hr
  clear hr
  go_wp2_with (go_at_call 263; refine (rU _ (UInt8.toNat_lt _) _).mono ?_; rintro e w' ⟨rfl, rfl⟩; generalize dg _ = q at *)
  all_goals first
   | (go_ret; exact ⟨hb, _, rfl, fun h _ => (by exfalso; have h1 := XD.out h; have h2 := HR.out h; subst h2; simp at *; omega), fun _ => rfl⟩)
   | skip
  all_goals
   clear HR
   go_loop [4] (fun i => ∃ k : Nat, k ≤ s.size ∧ i = .int .i64 k) (fun i => s.size - (intOf i).toNat)
   case atStart => exact ⟨0, Nat.zero_le _, rfl⟩
   case round =>
    obtain ⟨k, hk, rfl⟩ := hrel
    by_cases hlt : k < s.size
    ·have hka : s.data.toList.all qW = true → dg s[k].toNat = 1 ∨ dg s[k].toNat = 3 := fun h => (si s[k]).2 (Gx h hlt)
     have HKB := aa hka
     clear hka
     go_wp2_with (go_at_call 263; refine (rU _ (UInt8.toNat_lt _) _).mono ?_; rintro e w' ⟨rfl, rfl⟩; generalize dg s[k].toNat = y at *)
     all_goals first | (go_round; (case rel => exact ⟨k + 1, by omega, by go_num⟩); (case measure => simp [intOf]; omega)) | (go_ret; exact ⟨hb, _, rfl, fun h _ => (by exfalso; have h1 := HKB.out h; omega), fun _ => rfl⟩)
    ·go_wp2_with fail
     go_ret
     exact ⟨hb, _, rfl, fun _ _ => rfl, fun h => by omega⟩
set_option maxHeartbeats 400000 in
theorem k7 (s : ByteArray) (hs : s.size ≤ 70000) (w : World) : Calls Tryz.prog 157 #[.string s] w fun e w' => e = .returned (.bool (eo s.data.toList)) ∧ Below w.heap.size w w' := by
 have hl := size_data s
 have hA := Gm s.data.toList
 have dG : eo s.data.toList = decide (1 ≤ s.size ∧ s.size ≤ 16 ∧ jT s.data.toList = s.size) := by
  unfold eo; rw [hl] at hA ⊢; rw [Bool.eq_iff_iff]; simp only [Bool.and_eq_true, decide_eq_true_eq]; rw [← hA, and_assoc]
 rw [hl] at hA
 have HF := aa dG
 have HA := aa hA
 clear dG hl hA
 by_cases T9 : s.size ≤ 16
 ·go_enter Tryz.func157, Tryz.ntmps157
  go_wp2_with fail
  refine (Ow s T9 _).mono ?_
  rintro e w1 ⟨hb, b, rfl, h1, h2⟩
  have H1 := aa h1
  have H2 := aa h2
  clear h1 h2
  cases b
  ·go_wp2_with fail
   go_ret
   refine ⟨bw ?_, hb⟩
   rw [HF.out, eq_comm, decide_eq_false_iff_not]
   rintro ⟨a1, a2, a3⟩
   have := H1.out (HA.out.1 a3) a1
   cases this
  ·go_wp2_with (go_at_call 217; refine (My s hs _).mono ?_; rintro e w' ⟨rfl, rfl⟩)
   go_ret
   refine ⟨bw ?_, hb⟩
   have h0 : s.size ≠ 0 := fun e => by have := H2.out e; cases this
   rw [HF.out, Bool.eq_iff_iff]
   simp
   omega
 ·go_enter Tryz.func157, Tryz.ntmps157
  go_wp2_with fail
  go_ret
  refine ⟨bw ?_, Below.refl _ _⟩
  rw [HF.out, eq_comm, decide_eq_false_iff_not]; omega
theorem AL (s : ByteArray) (h : s.size - 1 < s.size) : s.data.toList.getLast? = some s[s.size - 1] := by
 have hl := size_data s
 rw [List.getLast?_eq_getElem?, hl, List.getElem?_eq_getElem (by rw [hl]; exact h)]; rfl
theorem BN (s : ByteArray) (h : s.size - 1 < s.size) (T9 : s.size ≤ 16) (zQ : ((s[s.size - 1].toNat : Int) == 42) = true) : aZ s.data.toList = eo (s.extract 0 (s.size - 1)).data.toList := by
 have hl := size_data s
 have h2 : s[s.size - 1] = 42 := by
  have h3 : (s[s.size - 1].toNat : Int) = 42 := by simpa using zQ
  have h4 : s[s.size - 1].toNat = 42 := by omega
  exact UInt8.toNat_inj.1 h4
 unfold aZ; rw [AL s h, h2, if_pos rfl, Gq, hl]; simp [T9]
theorem zR (s : ByteArray) (h : s.size - 1 < s.size) (zQ : ((s[s.size - 1].toNat : Int) == 42) = false) : aZ s.data.toList = eo s.data.toList := by
 unfold aZ; rw [AL s h, if_neg]
 intro e; injection e with e; rw [e] at zQ; simp at zQ
theorem Ox (s : ByteArray) (h : 16 < s.size) : aZ s.data.toList = eo s.data.toList := by
 have hl := size_data s
 unfold aZ; split
 ·rename_i zQ
  rw [x8 s.data.toList zQ, hl, decide_eq_false (by omega), Bool.and_false]
 ·rfl
theorem Ee (s : ByteArray) (h : s.size ≤ 1) : aZ s.data.toList = eo s.data.toList := by
 have hl := size_data s
 unfold aZ; split
 ·rename_i zQ
  rw [x8 s.data.toList zQ]
  have : s.data.toList.dropLast = [] := by rw [← List.length_eq_zero_iff, List.length_dropLast]; omega
  rw [this]; rfl
 ·rfl
set_option maxHeartbeats 400000 in
theorem Rw (s : ByteArray) (hs : s.size ≤ 70000) (w : World) : Calls Tryz.prog 104 #[.string s] w fun e w' => e = .returned (.bool (aZ s.data.toList)) ∧ Below w.heap.size w w' := by
 go_enter Tryz.func104, Tryz.ntmps104
 go_wp2_with fail
 ·have hf := aa (BN s (by omega) (by omega) ‹_›)
  refine (k7 _ (by simp; omega) _).mono ?_
  rintro e w1 ⟨rfl, hb⟩
  rw [← hf.out]
  go_wp2_with fail
  go_ret
  exact ⟨rfl, hb⟩
 ·have hf := aa (zR s (by omega) ‹_›)
  refine (k7 _ hs _).mono ?_
  rintro e w1 ⟨rfl, hb⟩
  rw [← hf.out]
  go_wp2_with fail
  go_ret
  exact ⟨rfl, hb⟩
 ·have hf := aa (Ox s (by omega))
  refine (k7 _ hs _).mono ?_
  rintro e w1 ⟨rfl, hb⟩
  rw [← hf.out]
  go_wp2_with fail
  go_ret
  exact ⟨rfl, hb⟩
 ·have hf := aa (Ee s (by omega))
  refine (k7 _ hs _).mono ?_
  rintro e w1 ⟨rfl, hb⟩
  rw [← hf.out]
  go_wp2_with fail
  go_ret
  exact ⟨rfl, hb⟩
end
section
open Go.RowKit Go.Deep
end
section
open Go.RowKit Go.Deep
def StI (e : Ending) (w' : World) (w : World) (n : Int) : Prop := e = .returned (.int .i64 n) ∧ Below w.heap.size w w'
set_option maxHeartbeats 400000 in
theorem Rx (w : World) (b1 b2 : Nat) (x lo hi : Int) (h1 : w.cell? ⟨b1, 0, none⟩ = some (.int .i64 lo)) (h2 : w.cell? ⟨b2, 0, none⟩ = some (.int .i64 hi)) :
  AK 244 #[.pointer (some ⟨b1, 0, none⟩), .pointer (some ⟨b2, 0, none⟩)] #[.int .i64 x] (.bool (decide (x < lo) || decide (hi ≤ x))) w := by
 unfold AK
 go_enter Tryz.func244, Tryz.ntmps244
 by_cases hx : x < lo
 ·go_wp2_with fail
  go_ret
  exact ⟨bw (by simp [hx]), rfl⟩
 ·go_wp2_with fail
  go_ret
  exact ⟨bw (by simp; omega), rfl⟩
set_option maxHeartbeats 400000 in
theorem VX (S : Nat → Prop) (w : World) (v : Value) (st : List Int) (n : Nat) (lo hi : Int) (h : aB S w v st) (hn : st.length ≤ 1000000) :
  Calls Tryz.prog 181 #[v, .int .i64 n, .int .i64 lo, .int .i64 hi] w fun e w' => StI e w' w (mN st n lo hi) := by
 have dG : mN st n lo hi = if st.length ≠ n then 9 else if iP st lo hi then 2 else 0 := rfl
 have HF := aa dG
 have hb : Below w.heap.size w ((w.alloc (.cells #[.int .i64 lo] 3)).alloc (.cells #[.int .i64 hi] 3)) := ((Below.refl _ _).alloc (Nat.le_refl _) _).alloc (by simp) _
 have hI := aD.keep h (Kept.below hb)
 obtain ⟨p, cap, rfl, hcap, H⟩ := aD.open h
 have hc1 : ((w.alloc (.cells #[.int .i64 lo] 3)).alloc (.cells #[.int .i64 hi] 3)).cell? ⟨w.heap.size, 0, none⟩ = some (.int .i64 lo) := by simp
 have hc2 : ((w.alloc (.cells #[.int .i64 lo] 3)).alloc (.cells #[.int .i64 hi] 3)).cell? ⟨w.heap.size + 1, 0, none⟩ = some (.int .i64 hi) := by simp
 have hC := BK 244 #[.pointer (some ⟨w.heap.size, 0, none⟩), .pointer (some ⟨w.heap.size + 1, 0, none⟩)] (enters_of Tryz.func244 (by kernel_rfl) rfl) S _ _ st.length (fun k => .int .i64 (gi st k)) (fun k => decide (gi st k < lo) || decide (hi ≤ gi st k)) hI hn
  (fun k _ => Rx _ _ _ (gi st k) lo hi hc1 hc2)
 have HC := aa hC
 have HB := aa hb
 clear dG hI H hc1 hc2 hC hb h
 by_cases hl : st.length = n
 ·have gK : ((st.length : Int) != n) = false := by simp [hl]
  have HL := aa hl
  clear hl
  have oI : iP st lo hi = (List.range st.length).any fun k => decide (gi st k < lo) || decide (hi ≤ gi st k) := rfl
  have ct := aa oI
  clear oI
  go_enter Tryz.func181, Tryz.ntmps181
  go_wp2_with fail
  refine HC.out.mono ?_
  rintro e w' ⟨rfl, rfl⟩
  rw [← ct.out]
  go_wp2_with fail
  ·go_ret
   exact ⟨aO (by rw [HF.out, if_neg (by rw [HL.out]; simp), if_pos ‹_›]), HB.out⟩
  ·go_ret
   exact ⟨aO (by rw [HF.out, if_neg (by rw [HL.out]; simp), if_neg (by rw [‹iP st lo hi = false›]; simp)]), HB.out⟩
 ·have gK : ((st.length : Int) != n) = true := by simp; omega
  go_enter Tryz.func181, Tryz.ntmps181
  go_wp2_with fail
  go_ret
  exact ⟨aO (by rw [HF.out, if_pos hl]), HB.out⟩
end
end Go.Proofs.YteegefnjnikngaaGreat
