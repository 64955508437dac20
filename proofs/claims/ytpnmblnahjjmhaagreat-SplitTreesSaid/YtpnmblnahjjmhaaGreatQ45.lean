/- The walk of split.Build. -/
import Derived.Test.YtpnmblnahjjmhaaGreatQ1
import Derived.Test.YtpnmblnahjjmhaaGreatQ44
import Derived.Test.YtpnmblnahjjmhaaGreatQ35
import Derived.Test.YtpnmblnahjjmhaaGreatQ16
import Derived.Test.YtpnmblnahjjmhaaGreatQ40
namespace Go.Proofs.YtpnmblnahjjmhaaGreat
set_option maxRecDepth 100000
open Go.RowKit Go.Deep
def yN (w : World) (names : List ByteArray) (l : List (List Int)) (e : Ending) (w' : World) : Prop :=
 Up w w' ∧ ∃ v, e = .returned (.tuple #[v, .int .i64 (dJ names l)]) ∧ aO Any w' v (cr names l)
theorem qE {w W : World} {B : Nat} {names : List ByteArray} {l : List (List Int)} {c : Int} (hB : w.heap.size ≤ B) (hu : Up w W) (hb : W.heap[B]? = some (Obj.cells #[.slice none 0 0, .slice none 0 0] 39 (0, 0))) (hc : dJ names l = c) (h0 : c ≠ 0) :
    ((W.setCell ⟨B, 0, none⟩ (.slice none 0 0)).setCell ⟨B, 1, none⟩ (.slice none 0 0)).cell? ⟨B, 0, none⟩ = some (.slice none 0 0) ∧ ((W.setCell ⟨B, 0, none⟩ (.slice none 0 0)).setCell ⟨B, 1, none⟩ (.slice none 0 0)).cell? ⟨B, 1, none⟩ = some (.slice none 0 0) ∧
      yN w names l (.returned (.tuple #[.agg #[.slice none 0 0, .slice none 0 0], .int .i64 c])) ((W.setCell ⟨B, 0, none⟩ (.slice none 0 0)).setCell ⟨B, 1, none⟩ (.slice none 0 0)) := by
  obtain ⟨s1, s2, s3, s4⟩ := fD (p := .slice none 0 0) (q := .slice none 0 0) hb hB hu
  refine ⟨s2, s3, s1, .agg #[.slice none 0 0, .slice none 0 0], by rw [hc], ?_⟩
  unfold cr; rw [if_neg (by rw [hc]; exact h0)]; exact vG _
theorem rO {w W : World} {B : Nat} {names : List ByteArray} {l : List (List Int)} {c : Int} (hu : Up w W) (hb : W.heap[B]? = some (Obj.cells #[.slice none 0 0, .slice none 0 0] 39 (0, 0))) (hc : dJ names l = c) (h0 : c ≠ 0) :
  W.cell? ⟨B, 0, none⟩ = some (.slice none 0 0) ∧ W.cell? ⟨B, 1, none⟩ = some (.slice none 0 0) ∧ yN w names l (.returned (.tuple #[.agg #[.slice none 0 0, .slice none 0 0], .int .i64 c])) W := by
 refine ⟨by simp [World.cell?, hb], by simp [World.cell?, hb], hu, .agg #[.slice none 0 0, .slice none 0 0], by rw [hc], ?_⟩
 unfold cr; rw [if_neg (by rw [hc]; exact h0)]; exact vG _
theorem Tf (names : List ByteArray) (k : Nat) : ((List.range k).any fun j => decide (gs names k = gs names j)) = dO names k := by
 unfold dO
 congr 1; funext j
 by_cases e : gs names j = gs names k
 ·rw [decide_eq_true e, decide_eq_true e.symm]
 ·rw [decide_eq_false e, decide_eq_false fun q => e q.symm]
theorem Dp {W : World} {b : Nat} {x : Int} (h : W.cell? ⟨b, 0, none⟩ = some (.int .i64 x)) : an Any W (.slice (some ⟨b, 0, none⟩) 1 1) [x] :=
 ⟨_, 1, rfl, Nat.le_refl _, .inr ⟨_, 0, rfl, trivial, fun k hk => by
  have jf : k < 1 := hk
  obtain rfl : k = 0 := by omega
  exact h⟩⟩
theorem Ll {W : World} {b : Nat} {x : ByteArray} (h : W.cell? ⟨b, 0, none⟩ = some (.string x)) : aG Any W (.slice (some ⟨b, 0, none⟩) 1 1) [x] :=
 ⟨_, 1, rfl, Nat.le_refl _, .inr ⟨_, 0, rfl, trivial, fun k hk => by
  have jf : k < 1 := hk
  obtain rfl : k = 0 := by omega
  exact h⟩⟩
theorem ZB {base k : Nat} {w : World} {v : Value} {vals : List Value} {l : List (List Int)} (ho : ay base 26 w v vals) (hvl : vals.length = l.length) (hrow : ∀ i, i < l.length → an (fun b => b < k) w (vals.getD i undef) (gl l i)) (hk : k ≤ base) :
  ∃ ps, vg base w v ps ∧ ps.map (·.1) = l ∧ ∀ p ∈ ps, an (fun b => b < k) w p.2 p.1 := by
 have hin : ∀ p ∈ (List.range l.length).map (fun i => (gl l i, vals.getD i undef)), an (fun b => b < k) w p.2 p.1 := fun p hp => by
  obtain ⟨i, hi, rfl⟩ := List.mem_map.1 hp
  exact hrow i (List.mem_range.1 hi)
 refine ⟨(List.range l.length).map fun i => (gl l i, vals.getD i undef), ⟨?_, fun p hp => ?_, fun p hp => ?_⟩, ?_, hin⟩
 ·rw [List.map_map]
  have e : (List.range l.length).map ((fun x => x.2) ∘ fun i => (gl l i, vals.getD i undef)) = vals := by
   refine List.ext_getElem (by simp [hvl]) fun i h1 h2 => ?_
   simp [List.getElem_map, h2]
  rw [e]; exact ho
 ·obtain ⟨q, c, e, _, _⟩ := aC.open (hin p hp)
  exact ⟨q, c, e⟩
 ·exact (hin p hp).sub fun b hb _ e => by have := (aD ho e).1; omega
 ·rw [List.map_map]
  refine List.ext_getElem (by simp) fun i h1 h2 => ?_
  simp [gl, h2]
theorem IF {w W6 W8 : World} {names : List ByteArray} {l : List (List Int)} {T : aJ} {p n : Value} (hlt : w.heap.size < W6.heap.size) (hb : W8.heap[w.heap.size]? = some (Obj.cells #[.slice none 0 0, .slice none 0 0] 39 (0, 0))) (hu : Up w W8) (hP : an (fun b => W6.heap.size ≤ b) W8 p T.ps) (hN : aG (fun b => W6.heap.size ≤ b) W8 n T.ns) (hX : dJ names l = 0) (hT : cr names l = T) :
    ((W8.setCell ⟨w.heap.size, 0, none⟩ p).setCell ⟨w.heap.size, 1, none⟩ n).cell? ⟨w.heap.size, 0, none⟩ = some p ∧ ((W8.setCell ⟨w.heap.size, 0, none⟩ p).setCell ⟨w.heap.size, 1, none⟩ n).cell? ⟨w.heap.size, 1, none⟩ = some n ∧
      yN w names l (.returned (.tuple #[.agg #[p, n], .int .i64 0])) ((W8.setCell ⟨w.heap.size, 0, none⟩ p).setCell ⟨w.heap.size, 1, none⟩ n) := by
  obtain ⟨s1, s2, s3, s4⟩ := fD (p := p) (q := n) hb (Nat.le_refl _) hu
  refine ⟨s2, s3, s1, _, by rw [hX], ?_⟩
  rw [hT]
  exact ⟨_, _, rfl, (an.keep hP fun b hb _ => s4 b (by omega)).sub fun _ _ _ => trivial, (aG.keep hN fun b hb _ => s4 b (by omega)).sub fun _ _ _ => trivial⟩
set_option maxHeartbeats 8000000 in
theorem Lm (S : Nat → Prop) (w : World) (v vl : Value) (names : List ByteArray) (l : List (List Int)) (h : aG S w v names) (hL : aR S w vl l) (hn : names.length ≤ 1000000) (hz : ∀ k, (gs names k).size ≤ 70000) (o6 : l.length ≤ 1000000) (hr : ∀ k, (gl l k).length ≤ 1000000) :
  Calls Tryz.prog 22 #[v, vl] w (yN w names l) := by
 obtain ⟨lp, lc, rfl, -, -⟩ := dF hL
 obtain ⟨p, cap, rfl, hcap, _⟩ := aC.open h
 have h : aG S w (.slice p names.length cap) names := h
 have cK : Up w (w.alloc (.cells #[.slice none 0 0, .slice none 0 0] 39)) := Up.alloc _ _
 have hrb := lu (w := w) (P := .slice none 0 0) (N := .slice none 0 0) (T := 39)
 obtain ⟨q0, q1, q2, q3⟩ := boxed hrb
 have C7 : (w.alloc (.cells #[.slice none 0 0, .slice none 0 0] 39)).heap.size = w.heap.size + 1 := by simp
 have s0 := ag (aG.keep h (cK.kept S))
 have nW := ag (aR.keep (hL.sub (T := fun b => b < w.heap.size) fun b _ hb => hb) (cK.kept _))
 have uB := ag C7
 have eD := ag cK
 have gQ := ag hrb
 have HZ := ag hz
 have HR := ag hr
 have ir : Hid (dJ names l = if names.length = 0 then 5 else if 32 < names.length ∨ 64 < l.length then 4
  else if firstNZ (dR names) names.length ≠ 0 then firstNZ (dR names) names.length
  else if firstNZ (fun k => aN names.length (gl l k)) l.length ≠ 0 then firstNZ (fun k => aN names.length (gl l k)) l.length
  else if 0 ≤ fm l then 17 else 0) := rfl
 clear h hL cK hrb C7 hz hr
 by_cases c0 : names.length = 0
 ·have cu := ag (rO (c := 5) eD.out gQ.out (by rw [ir.out, if_pos c0]) (by decide))
  have d0 : ((names.length : Int) == 0) = true := by simp [c0]
  clear c0
  aq Tryz.func22, Tryz.ntmps22
  aa fail
  obtain ⟨s2, s3, hp⟩ := cu.out
  exact ⟨rfl, .tuple #[.agg #[.slice none 0 0, .slice none 0 0], .int .i64 5], by simp [results, Tryz.results22, go_sem], hp⟩
 have d0 : ((names.length : Int) == 0) = false := by simpa using c0
 by_cases c1 : 32 < names.length
 ·have cu := ag (rO (c := 4) eD.out gQ.out (by rw [ir.out, if_neg c0, if_pos (.inl c1)]) (by decide))
  have d1 : decide ((32 : Int) < (names.length : Int)) = true := by simp; omega
  clear c0
  aq Tryz.func22, Tryz.ntmps22
  aa fail
  obtain ⟨s2, s3, hp⟩ := cu.out
  exact ⟨rfl, .tuple #[.agg #[.slice none 0 0, .slice none 0 0], .int .i64 4], by simp [results, Tryz.results22, go_sem], hp⟩
 have d1 : decide ((32 : Int) < (names.length : Int)) = false := by simp; omega
 by_cases c2 : 64 < l.length
 ·have cu := ag (rO (c := 4) eD.out gQ.out (by rw [ir.out, if_neg c0, if_pos (.inr c2)]) (by decide))
  have d2 : decide ((64 : Int) < (l.length : Int)) = true := by simp; omega
  clear c0 c1
  aq Tryz.func22, Tryz.ntmps22
  aa fail
  obtain ⟨s2, s3, hp⟩ := cu.out
  exact ⟨rfl, .tuple #[.agg #[.slice none 0 0, .slice none 0 0], .int .i64 4], by simp [results, Tryz.results22, go_sem], hp⟩
 have d2 : decide ((64 : Int) < (l.length : Int)) = false := by simp; omega
 have AY : Hid (dJ names l = if firstNZ (dR names) names.length ≠ 0 then firstNZ (dR names) names.length
  else if firstNZ (fun k => aN names.length (gl l k)) l.length ≠ 0 then firstNZ (fun k => aN names.length (gl l k)) l.length
  else if 0 ≤ fm l then 17 else 0) := by unfold Hid; rw [ir.out, if_neg c0, if_neg (by omega)]
 have U6 : 0 < names.length := by omega
 have AZ : names.length ≤ 32 := by omega
 have yJ : l.length ≤ 64 := by omega
 clear ir c0 c1 c2
 have IG : Hid (∀ k, k < names.length → (∀ j, j < k → dR names j = 0) → dR names k ≠ 0 → dJ names l = dR names k) := fun k hk hj h0 => by
  have h1 := fM hk hj h0
  rw [AY.out, h1, if_pos h0]
 aq Tryz.func22, Tryz.ntmps22
 aa fail
 generalize w.alloc (.cells #[.slice none 0 0, .slice none 0 0] 39) = w1 at *
 dD [6, 7, 42] (fun _ _ i => ∃ k : Nat, k ≤ names.length ∧ i = .int .i64 k ∧ Hid (∀ j, j < k → dR names j = 0)) (fun _ _ i => names.length - (intOf i).toNat)
 case atStart => exact ⟨0, Nat.zero_le _, rfl, fun j hj => absurd hj (Nat.not_lt_zero _)⟩
 case round =>
  obtain ⟨k, hk, rfl, hd⟩ := bE
  by_cases hlt : k < names.length
  ·obtain ⟨II, no, rfl, hc⟩ := dh s0.out hlt
   have mz := ag (M3 (gs names k) (HZ.out k) w1)
   have BX : Hid (Calls Tryz.prog 51 #[.slice (some ⟨II, no, none⟩) k cap, .string (gs names k)] w1 fun e w' => e = .returned (.bool (dO names k)) ∧ w1 = w') := by
    have h := iH S w1 _ k (fun j => gs names j) (gs names k) (ON s0.out hk) (by omega)
    rwa [Tf] at h
   have IJ := ag (IG.out k hlt hd.out)
   have IK : Hid (dR names k = if bM (gs names k).data.toList then (if dO names k then 7 else 0) else 14) := rfl
   generalize gs names k = nm at *
   generalize dO names k = bs at *
   generalize bM nm.data.toList = bn at *
   cases bn
   ·have HE : Hid (dR names k = 14) := IK.out
    have cu := ag (qE (c := 14) (Nat.le_refl _) eD.out gQ.out ((IJ.out (by rw [HE.out]; decide)).trans HE.out) (by decide))
    aa (first | (bg 89; refine mz.out.mono ?_; rintro e w' ⟨rfl, rfl⟩) | (bg 51; refine BX.out.mono ?_; rintro e w' ⟨rfl, rfl⟩))
    obtain ⟨s2, s3, hp⟩ := cu.out
    exact ⟨rfl, .tuple #[.agg #[.slice none 0 0, .slice none 0 0], .int .i64 14], by simp [results, Tryz.results22, go_sem, s2, s3], hp⟩
   ·cases bs
    ·have HE : Hid (dR names k = 0) := IK.out
     aa (first | (bg 89; refine mz.out.mono ?_; rintro e w' ⟨rfl, rfl⟩) | (bg 51; refine BX.out.mono ?_; rintro e w' ⟨rfl, rfl⟩))
     cz
     case rel => exact ⟨k + 1, by omega, by aH, fun j hj => if e : j = k then by subst e; exact HE.out else hd.out j (by omega)⟩
     case measure => simp [intOf]; omega
    ·have HE : Hid (dR names k = 7) := IK.out
     have cu := ag (qE (c := 7) (Nat.le_refl _) eD.out gQ.out ((IJ.out (by rw [HE.out]; decide)).trans HE.out) (by decide))
     aa (first | (bg 89; refine mz.out.mono ?_; rintro e w' ⟨rfl, rfl⟩) | (bg 51; refine BX.out.mono ?_; rintro e w' ⟨rfl, rfl⟩))
     obtain ⟨s2, s3, hp⟩ := cu.out
     exact ⟨rfl, .tuple #[.agg #[.slice none 0 0, .slice none 0 0], .int .i64 7], by simp [results, Tryz.results22, go_sem, s2, s3], hp⟩
  ·obtain rfl : k = names.length := by omega
   have s5 : Hid (dJ names l = if firstNZ (fun k => aN names.length (gl l k)) l.length ≠ 0 then firstNZ (fun k => aN names.length (gl l k)) l.length
     else if 0 ≤ fm l then 17 else 0) := by
    unfold Hid; rw [AY.out, if_neg (by rw [c9 hd.out]; decide)]
   have mz : Hid (∀ j, j < names.length → dR names j = 0) := hd.out
   clear hlt hk hd AY IG
   have gY : Hid (∀ k, k < l.length → (∀ j, j < k → aN names.length (gl l j) = 0) → aN names.length (gl l k) ≠ 0 → dJ names l = aN names.length (gl l k)) := fun k hk hj h0 => by
    have h1 := fM (f := fun k => aN names.length (gl l k)) hk hj h0
    rw [s5.out, h1, if_pos h0]
   aa fail
   dD [10, 11, 62] (fun _ _ i => ∃ k : Nat, k ≤ l.length ∧ i = .int .i64 k ∧ Hid (∀ j, j < k → aN names.length (gl l j) = 0)) (fun _ _ i => l.length - (intOf i).toNat)
   case atStart => exact ⟨0, Nat.zero_le _, rfl, fun j hj => absurd hj (Nat.not_lt_zero _)⟩
   case round =>
    obtain ⟨k, hk, rfl, hd⟩ := bE
    by_cases hlt : k < l.length
    ·obtain ⟨b, off, q, c, rfl, hc, hi⟩ := eX nW.out hlt
     have fO := ag (oM _ w1 _ (names.length : Int) (gl l k) hi (HR.out k))
     have ZC := ag (gY.out k hlt hd.out)
     have k1 : (0 : Int) ≤ (k : Int) := Int.natCast_nonneg _
     have k2 : (k : Int) < (l.length : Int) := by omega
     have HEK : Hid (∀ z, aN names.length (gl l k) = z → z = aN names.length (gl l k)) := fun z e => e.symm
     clear hi
     by_cases e0 : aN names.length (gl l k) = 0
     ·have HE := ag e0
      rw [e0] at fO
      clear e0 HEK
      aa (first | (bg 81; refine fO.out.mono ?_; rintro e w' ⟨rfl, rfl⟩))
      cz
      case rel => exact ⟨k + 1, by omega, by aH, fun j hj => if e : j = k then by subst e; exact HE.out else hd.out j (by omega)⟩
      case measure => simp [intOf]; omega
     ·have cu := ag (qE (c := aN names.length (gl l k)) (Nat.le_refl _) eD.out gQ.out (ZC.out e0) e0)
      have g1 : (aN names.length (gl l k) != 0) = true := by simpa using e0
      clear e0 HEK ZC
      generalize aN names.length (gl l k) = gc at *
      aa (first | (bg 81; refine fO.out.mono ?_; rintro e w' ⟨rfl, rfl⟩))
      obtain ⟨s2, s3, hp⟩ := cu.out
      exact ⟨rfl, .tuple #[.agg #[.slice none 0 0, .slice none 0 0], .int .i64 gc], by simp [results, Tryz.results22, go_sem, s2, s3], hp⟩
    ·obtain rfl : k = l.length := by omega
     have Tg : Hid (dJ names l = if 0 ≤ fm l then 17 else 0) := by
      unfold Hid; rw [s5.out, if_neg (by rw [c9 hd.out]; decide)]
     have wT := ag (Y4 _ w1 _ l nW.out (fun k hk => (iF.1 (hd.out k hk)).set) (by omega))
     have x5 : Hid (xd l = decide (fm l < 0)) := rfl
     clear hlt hk hd s5 gY
     generalize xd l = pb at *
     cases pb
     ·have HX : Hid (dJ names l = 17) := by
       unfold Hid; rw [Tg.out, if_pos]
       have := of_decide_eq_false x5.out.symm; omega
      aa fail
      refine wT.out.mono ?_
      rintro e w2 ⟨rfl, aL⟩
      have iz := (Below.block aL w.heap.size (by rw [uB.out]; omega)).trans gQ.out
      obtain ⟨q0, q1, q2, q3⟩ := boxed iz
      have cu := ag (qE (c := 17) (Nat.le_refl _) (eD.out.trans aL) iz HX.out (by decide))
      clear iz aL
      aa fail
      obtain ⟨s2, s3, hp⟩ := cu.out
      exact ⟨rfl, .tuple #[.agg #[.slice none 0 0, .slice none 0 0], .int .i64 17], by simp [results, Tryz.results22, go_sem, s2, s3], hp⟩
     ·have HX : Hid (dJ names l = 0) := by
       unfold Hid; rw [Tg.out, if_neg]
       have := of_decide_eq_true x5.out.symm; omega
      have gu := ag (yt.1 HX.out)
      clear Tg mz x5
      aa fail
      refine wT.out.mono ?_
      rintro e w2 ⟨rfl, aL⟩
      have iz := (Below.block aL w.heap.size (by rw [uB.out]; omega)).trans gQ.out
      have cM := ag (eD.out.trans aL)
      have pL := ag iz
      have tC := ag (aG.keep s0.out (aL.kept S))
      have jS := ag (aR.keep nW.out (aL.kept _))
      have mL : Hid (w.heap.size < w2.heap.size) := by have h1 := aL.size; rw [uB.out] at h1; exact h1
      clear iz aL eD gQ s0 nW uB wT q0 q1 q2 q3
      obtain ⟨II, no, rfl, hc0⟩ := dh tC.out U6
      rw [Nat.add_zero] at hc0
      obtain ⟨q0, q1, q2, q3⟩ := boxed pL.out
      by_cases n1 : names.length = 1
      ·have d3 : ((names.length : Int) == 1) = true := by simp [n1]
       obtain ⟨t1, t2, t3⟩ := lP w2 (.int .i64 (-1)) (.string (gs names 0)) 3 9
       have jL := (Below.block t1 w.heap.size mL.out).trans pL.out
       have cu := ag (fD (w := w) (p := .slice (some ⟨w2.heap.size, 0, none⟩) 1 1) (q := .slice (some ⟨w2.heap.size + 1, 0, none⟩) 1 1) jL (Nat.le_refl _) (cM.out.trans t1))
       have H3 := ag (⟨t2, t3⟩ : _ ∧ _)
       have hres : cr names l = ⟨[-1], [gs names 0]⟩ := by unfold cr qK; rw [if_pos HX.out, if_pos n1]
       have wv := ag hres
       have hq := t1.cell hc0
       have hq' := (Up.alloc w2 (.cells #[.int .i64 (-1)] 3)).cell hc0
       obtain ⟨q0, q1, q2, q3⟩ := boxed jL
       have n1' : (0 : Int) < (names.length : Int) := by omega
       clear n1 t1 t2 t3 jL hres
       aa fail
       obtain ⟨s1, s2, s3, s4⟩ := cu.out
       have hsz := mL.out
       refine ⟨rfl, .tuple #[.agg #[.slice (some ⟨w2.heap.size, 0, none⟩) 1 1, .slice (some ⟨w2.heap.size + 1, 0, none⟩) 1 1], .int .i64 0], by simp [results, Tryz.results22, go_sem, s2, s3], s1, _, by rw [HX.out], ?_⟩
       rw [wv.out]
       exact ⟨_, _, rfl, Dp ((World.cell?_of_block (a := ⟨w2.heap.size, 0, none⟩) (s4 w2.heap.size (Nat.ne_of_gt hsz))).trans H3.out.1), Ll ((World.cell?_of_block (a := ⟨w2.heap.size + 1, 0, none⟩) (s4 (w2.heap.size + 1) (by omega))).trans H3.out.2)⟩
      have d3 : ((names.length : Int) == 1) = false := by simp; omega
      have cL := Up.alloc w2 (.cells #[.slice none 0 0, .slice none 0 0] 39)
      have qQ : GS w2.heap.size (w2.heap.size + 1) (w2.alloc (.cells #[.slice none 0 0, .slice none 0 0] 39)) (.slice none 0 0) (.slice none 0 0) ⟨[], []⟩ :=
       ⟨lu, ⟨ay.nil _ _ _, ay.nil _ _ _, fun b hb => (by cases hb)⟩, by omega, by rw [World.size_alloc]; exact Nat.le_refl _⟩
      have dI := ag cL
      have jR := ag qQ
      clear cL qQ q0 q1 q2 q3
      aa fail
      generalize w2.alloc (.cells #[.slice none 0 0, .slice none 0 0] 39) = w3 at *
      refine (zl w2.heap.size (w2.heap.size + 1) ⟨[], []⟩ (-1) ByteArray.empty w3 _ _ jR.out rfl (by decide)).mono ?_
      rintro e w4 ⟨rfl, P4, N4, hG4, Lo⟩
      have eG : Up w2 w4 := Lo.Lf jR.out dI.out (Nat.le_refl _)
      have Kq := eG.cell hc0
      have Bm := ag hG4
      have gd := ag eG
      clear hG4 Lo eG jR dI hc0
      aa fail
      refine (zl w2.heap.size (w2.heap.size + 1) _ 0 (gs names 0) w4 _ _ Bm.out rfl (by decide)).mono ?_
      rintro e w5 ⟨rfl, P5, N5, hG5, hK5⟩
      have fS : Up w2 w5 := hK5.Lf Bm.out gd.out (Nat.le_refl _)
      have Lp := ag hG5
      have ij := ag fS
      clear hG5 hK5 Bm gd Kq
      by_cases n2 : names.length = 2
      ·have d4 : ((names.length : Int) == 2) = true := by simp [n2]
       have Th := ag n2
       obtain ⟨nb1, no1, e1, hc1⟩ := dh tC.out (show 1 < names.length by omega)
       injection e1 with e1; injection e1 with e1 e2; subst e1; subst e2
       have hc5 := fS.cell hc1
       have n2' : (1 : Int) < (names.length : Int) := by omega
       clear hc1 fS n2
       aa fail
       refine (zl w2.heap.size (w2.heap.size + 1) _ 0 (gs names 1) w5 _ _ Lp.out rfl (show 2 + 1 ≤ 1000000 by decide)).mono ?_
       rintro e w6 ⟨he, P6, N6, tY, Qq⟩
       have he : e = .returned (.int .i64 2) := he
       subst he
       have gO : Up w2 w6 := Qq.Lf Lp.out ij.out (Nat.le_refl _)
       obtain ⟨tc0, tc1, _, _⟩ := tY.cells
       have tY : GS w2.heap.size (w2.heap.size + 1) w6 P6 N6 ⟨[-1, 0, 0], [ByteArray.empty, gs names 0, gs names 1]⟩ := tY
       have Qr : aO (fun b => w2.heap.size + 1 ≤ b) w6 (.agg #[P6, N6]) ⟨[-1, 0, 0], [ByteArray.empty, gs names 0, gs names 1]⟩ := ⟨P6, N6, rfl, tY.tl.bJ.ints, tY.tl.bW.strs⟩
       have jH := ag (xR _ w6 _ _ Qr (show 3 ≤ 1000000 by decide) (show 3 ≤ 1000000 by decide) (fun k => Ui.gs (Q := fun s => s.size ≤ 70000) (by
        intro s hs
        rcases List.mem_cons.1 hs with rfl | hs
        ·decide
        rcases List.mem_cons.1 hs with rfl | hs
        ·exact HZ.out 0
        rcases List.mem_cons.1 hs with rfl | hs
        ·exact HZ.out 1
        ·cases hs) (by decide) k))
       have vP := (Below.block gO w.heap.size mL.out).trans pL.out
       have C5 := ag vP
       have mE := ag gO
       have IL : Hid (w.heap.size < w6.heap.size) := Nat.lt_of_lt_of_le mL.out gO.size
       have zM : Hid (aK ⟨[-1, 0, 0], [ByteArray.empty, gs names 0, gs names 1]⟩ = 0) := ((AO gu.out Th.out).MS AZ).te
       have wv : Hid (cr names l = iy ⟨[-1, 0, 0], [ByteArray.empty, gs names 0, gs names 1]⟩) := by unfold Hid cr qK; rw [if_pos HX.out, if_neg (by have := Th.out; omega), if_pos Th.out]
       clear gO tY Qq Qr vP Lp ij hc5 n2'
       aa fail
       refine jH.out.mono ?_
       rintro e w8 ⟨kS, ⟨hte, rfl⟩ | ⟨hte, cv, rfl, P8, N8, rfl, yO, mR⟩⟩
       ·exact absurd zM.out hte
       obtain ⟨p8, c8, rfl, _, _⟩ := aC.open yO
       obtain ⟨n8, d8, rfl, _, _⟩ := aC.open mR
       have A2 := (Below.block kS w.heap.size IL.out).trans C5.out
       obtain ⟨q0, q1, q2, q3⟩ := boxed A2
       have fR := ag (IF IL.out A2 ((cM.out.trans mE.out).trans kS) yO mR HX.out wv.out)
       clear A2 kS hte yO mR
       aa fail
       obtain ⟨s2, s3, hp⟩ := fR.out
       exact ⟨rfl, .tuple #[.agg #[.slice p8 _ c8, .slice n8 _ d8], .int .i64 0], by simp [results, Tryz.results22, go_sem, s2, s3], hp⟩
      ·have d4 : ((names.length : Int) == 2) = false := by simp; omega
       have U7 : Hid (3 ≤ names.length) := by unfold Hid; omega
       clear n1 n2
       aa fail
       refine (zl w2.heap.size (w2.heap.size + 1) _ 0 ByteArray.empty w5 _ _ Lp.out rfl (show 2 + 1 ≤ 1000000 by decide)).mono ?_
       rintro e w6 ⟨he, P6, N6, tY, Qq⟩
       have he : e = .returned (.int .i64 2) := he
       subst he
       have gO : Up w2 w6 := Qq.Lf Lp.out ij.out (Nat.le_refl _)
       have Lr : Hid (GS w2.heap.size (w2.heap.size + 1) w6 P6 N6 (bQ names (aM l) 0 0)) := tY
       have mE := ag gO
       have CB := ag (Up.alloc w6 (.cells #[.int .i64 2] 3))
       have mU := ag (Iy (fun b => b < w.heap.size) (w6.alloc (.cells #[.int .i64 2] 3)) _ l (aR.keep jS.out ((gO.trans CB.out).kept _)) o6)
       have KF := ag (blk_alloc_new w6 (.cells #[.int .i64 2] 3))
       have Ls : Hid ((w6.alloc (.cells #[.int .i64 2] 3)).heap.size = w6.heap.size + 1) := World.size_alloc _ _
       clear tY Qq gO fS Lp ij
       aa fail
       generalize w6.alloc (.cells #[.int .i64 2] 3) = w7 at *
       refine mU.out.mono ?_
       rintro e w8 ⟨kS, ov, vals, rfl, hvl, qz, hrow⟩
       have kS : Up w7 w8 := kS
       obtain ⟨oq, oc, rfl, _⟩ := qz.form (n := l.length) hvl
       have Cu := Up.alloc w8 (.cells #[.slice oq l.length oc] 23)
       have l8 := kS.size
       have HL78 : Hid (w7.heap.size ≤ w8.heap.size) := kS.size
       have ZD := Ls.out
       have lg6 := Lr.out.lo
       have lsz2 := mL.out
       have ZE := qz.alloc (.cells #[.slice oq l.length oc] 23)
       obtain ⟨ps, U8, U9, hI9⟩ := ZB (k := w.heap.size) ZE hvl (fun i hi => an.keep (hrow i hi) (Cu.kept _)) (by omega)
       have hpl : ps.length = l.length := by rw [← U9, List.length_map]
       have hrl : ∀ p ∈ ps, p.1.length ≤ 1000000 := fun p hp => by
        have h1 : p.1 ∈ l := by rw [← U9]; exact List.mem_map_of_mem hp
        obtain ⟨k, hk, e⟩ := tO h1
        rw [← e]; exact HR.out k
       have wP := Cn (cf := gR) Ey (fun h => nU h) tP (fun h k => Ci h k) 94 #[] (enters_of Tryz.func94 (by af) rfl) U8 (by omega) (fun p hp q hq W' kX => by
        have hk : ∀ s ∈ ps, an Any W' s.2 s.1 := fun s hs => (aC.keep (U8.row s hs) fun b hb fZ => kX.block b fZ fun e => hb e.symm).sub fun _ _ _ => trivial
        exact Zu Any Any W' p.2 q.2 p.1 q.1 (hk p hp) (hk q hq) (hrl p hp) (hrl q hq))
       have lz := ag wP
       have ZF := ag (blk_alloc_new w8 (.cells #[.slice oq l.length oc] 23))
       have M7 := ag ((CB.out.trans kS).trans Cu)
       have Ti := ag ((Below.block (kS.trans Cu) w6.heap.size (by omega)).trans KF.out)
       have Va := ag U8
       have HM9 := ag U9
       have HI9 := ag hI9
       have oT := ag hrl
       have ew := ag hpl
       have EI := ag qz
       have HS9 : Hid ((w8.alloc (.cells #[.slice oq l.length oc] 23)).heap.size = w8.heap.size + 1) := World.size_alloc _ _
       clear wP kS Cu qz hvl hrow ZE U8 U9 hI9 hrl hpl mU CB KF l8 ZD lg6 lsz2
       aa fail
       generalize w8.alloc (.cells #[.slice oq l.length oc] 23) = w9 at *
       refine lz.out.mono ?_
       rintro e o9 ⟨rfl, sY, yD, ux, Io, Tj, IM⟩
       have IP : ∀ g, (Value.slice oq l.length oc).ownBlock = some g → w7.heap.size ≤ g ∧ g < w8.heap.size := fun g hg => aD EI.out hg
       have M8 : o9.heap[w8.heap.size]? = some (Obj.cells #[.slice oq l.length oc] 23 (0, 0)) := (sY.block _ (by have := HS9.out; omega) fun e => by have := IP _ e.symm; omega).trans ZF.out
       have xQ : o9.cell? ⟨w8.heap.size, 0, none⟩ = some (.slice oq l.length oc) := by simp [World.cell?, M8]
       have ZG := Ls.out
       have ZH : Up w6 o9 := Below.grown M7.out sY M7.out.size fun k hk => by have := IP k hk; omega
       have zm := (sY.block w6.heap.size (by have := M7.out.size; have := HS9.out; have := (Array.getElem?_eq_some_iff.1 Ti.out).1; omega) fun e => by have := IP _ e.symm; omega).trans Ti.out
       have MX : yD.length = l.length := by have := ux.length_eq; rw [List.length_map, List.length_map, ew.out] at this; exact this
       have Ks : yD.map (·.1) = vU l := ML (by rw [HM9.out] at ux; exact ux) Io
       have ZI : ∀ p ∈ yD, an (fun b => b < w.heap.size) o9 p.2 p.1 := fun p hp => an.keep (HI9.out p (IM p hp)) fun b hb fZ => sY.block b fZ fun e => by
        have := IP _ e.symm; have := mL.out; have := Lr.out.lo; omega
       have sW := ag (wZ Tj (by omega) (fun p hp => oT.out p (IM p hp)))
       have M9 := ag M8
       have pU := ag ZH
       have Na := ag zm
       have HSQ := ag Ks
       have ZJ := ag ZI
       have yE := ag Tj
       have HL10 := ag MX
       clear sY ux Io Tj IM IP M8 ZH zm MX Ks ZI ZG lz ZF M7 Ti Va HM9 HI9
       aa fail
       refine sW.out.mono ?_
       rintro e cV ⟨uz, v11, Ip, rfl, uA, Nb, Qs⟩
       rw [HSQ.out] at uA
       have uA : Ip.map (·.1) = aM l := uA
       have Qt : (Ip.map (·.2)).length = (aM l).length := by rw [← uA]; simp
       obtain ⟨Lt, Lu, rfl, _⟩ := Nb.own.form Qt
       have ZG := Ls.out
       have IQ : ∀ g, (Value.slice oq l.length oc).ownBlock = some g → w7.heap.size ≤ g ∧ g < w8.heap.size := fun g hg => aD EI.out hg
       have ZK : Up w6 cV := Below.grown pU.out uz pU.out.size fun k hk => by have := IQ k hk; omega
       have Ng : cV.heap[w8.heap.size]? = some (Obj.cells #[.slice oq l.length oc] 23 (0, 0)) := (uz.block _ (Array.getElem?_eq_some_iff.1 M9.out).1 fun e => by have := IQ _ e.symm; omega).trans M9.out
       have Vb := (uz.block w6.heap.size (Array.getElem?_eq_some_iff.1 Na.out).1 fun e => by have := IQ _ e.symm; omega).trans Na.out
       have ZL : ∀ p ∈ Ip, an (fun b => b < w2.heap.size) cV p.2 p.1 := fun p hp => (an.keep (ZJ.out p (Qs p hp)) fun b hb fZ => uz.block b fZ fun e => by
        have := IQ _ e.symm; have := mL.out; have := Lr.out.lo; omega).sub fun b hb _ => Nat.lt_trans hb mL.out
       have Vc : (Value.slice Lt (aM l).length Lu).ownBlock ≠ some w8.heap.size := fun e => by
        obtain ⟨c, h⟩ := ay.jr Nb.own e
        rw [Ng] at h
        injection h with h; injection h with _ h _
        exact absurd h (by decide)
       have ZD := HL78.out
       obtain ⟨hst, Vd, A3⟩ := AX.start Lr.out rfl (by omega) (by omega) ZK Vb Ng Nb uA ZL Vc
       obtain ⟨b1, b2⟩ := hst
       have Vd := ag Vd
       have HG13 := ag (Lr.out.up A3)
       have Tk := ag (mE.out.trans A3)
       obtain ⟨_, b4, _, _⟩ := Vd.out.cells
       clear uz uA Nb Qs Qt ZG IQ ZK Ng Vb ZL Vc ZD A3 sW xQ M9 pU Na HSQ ZJ yE Lr mE
       have vw : Hid (∀ k, k < (aM l).length → vR names.length (gl (aM l) k)) := fun k hk => gu.out.own hk
       have Es : Hid ((aM l).length ≤ 64) := Nat.le_trans (SE l) yJ
       have oW : Hid (3 + (aM l).length + (names.length - 1) ≤ 64) := yH gu.out U7.out
       have B9 : Hid (aK (bT names (aM l)) = 0) := ((vX gu.out U7.out oW.out).MS AZ).te
       have wv : Hid (cr names l = iy (bT names (aM l))) := by unfold Hid cr qK; rw [if_pos HX.out, if_neg (by have := U7.out; omega), if_neg (by have := U7.out; omega)]
       have ZM : Hid (∀ k, (gs (bT names (aM l)).ns k).size ≤ 70000) := fun k => Ui.gs (Q := fun s => s.size ≤ 70000) (by
        intro s hs
        rcases List.mem_append.1 hs with hs | hs
        ·rcases List.mem_cons.1 hs with rfl | hs
         ·decide
         rcases List.mem_cons.1 hs with rfl | hs
         ·exact HZ.out 0
         rcases List.mem_cons.1 hs with rfl | hs
         ·decide
         ·cases hs
        ·rcases List.mem_append.1 hs with hs | hs
         ·rw [List.eq_of_mem_replicate hs]; decide
         ·obtain ⟨b, _, rfl⟩ := List.mem_map.1 hs
          exact HZ.out (b + 1)) (by decide) k
       have kM : Hid (∀ j m, (bQ names (aM l) j m).ps.length = 3 + j + m ∧ (bQ names (aM l) j m).ns.length = 3 + j + m) := Zw names (aM l)
       have HBO : Hid (∀ j, (bQ names (aM l) j 0).push (lastQ (aM l) (gi (gl (aM l) j) 0) j) ByteArray.empty = bQ names (aM l) (j + 1) 0) := Zv names (aM l)
       have yP : Hid (∀ m, (bQ names (aM l) (aM l).length m).push (lastQ (aM l) ((m + 1 : Nat) : Int) (aM l).length) (gs names (m + 1)) = bQ names (aM l) (aM l).length (m + 1)) := V8 names (aM l) _
       have ZN : Hid (bQ names (aM l) (aM l).length (names.length - 1) = bT names (aM l)) := rfl
       aa fail
       generalize (cV.setCell ⟨w8.heap.size, 0, none⟩ (Value.slice Lt (aM l).length Lu)).alloc (.cells #[.slice none 0 0] 26) = yQ at *
       generalize aM l = own at *
       clear b1 b2 b4
       aV [22, 23, 124] (fun _ _ i wr => ∃ (k : Nat) (P N nv : Value), k ≤ own.length ∧ i = .int .i64 k ∧ Hid (GS w2.heap.size (w2.heap.size + 1) wr P N (bQ names own k 0)) ∧ Hid (AX w2.heap.size w6.heap.size w8.heap.size cV.heap.size wr P N (.slice Lt own.length Lu) nv own ((List.range k).map fun j => ((3 + j : Nat) : Int))) ∧ Hid (Up w2 wr)) (fun _ _ i _ => own.length - (intOf i).toNat)
       case atStart => exact ⟨0, _, _, _, Nat.zero_le _, rfl, HG13.out, Vd.out, Tk.out⟩
       case round =>
        obtain ⟨k, P, N, nv, hk, rfl, hG, hA, hU⟩ := bE
        obtain ⟨wo, rfl⟩ : ∃ wo : World, wo = wr := ⟨_, rfl⟩
        by_cases hlt : k < own.length
        ·obtain ⟨b, off, q, c, rfl, hc, hi⟩ := eX hA.out.rows hlt
         have hsp := (vw.out k hlt).len
         obtain ⟨q', c', e, hn', h0 | ⟨b2, off2, rfl, hT, hcs⟩⟩ := hi
         ·omega
         injection e with e1 _ _
         subst e1
         have fJ : wo.cell? ⟨b2, off2, none⟩ = some (.int .i64 (gi (gl own k) 0)) := hcs 0 (by omega)
         have HT := ag hT
         have mC := ag fJ
         have l2 : (0 : Int) < ((gl own k).length : Int) := by omega
         have l3 : 0 < (gl own k).length := by omega
         have i1 : (0 : Int) ≤ (k : Int) := by omega
         have i2 : (k : Int) < (own.length : Int) := by omega
         obtain ⟨_, _, hnv, _⟩ := hA.out.cells
         have kO : Hid (∀ W P' N', GK w2.heap.size wo W P N P' N' → W.cell? ⟨cV.heap.size, 0, none⟩ = some nv ∧ W.cell? ⟨b2, off2, none⟩ = some (.int .i64 (gi (gl own k) 0))) := fun W P' N' hK =>
          ⟨((hA.out.gk hK).cells).2.2.1, (World.cell?_of_block (a := ⟨b2, off2, none⟩) (hK.block b2 (World.block_lt_of_cell? wo _ mC.out) HT.out.1 HT.out.2.2.1 HT.out.2.2.2.1)).trans mC.out⟩
         have CC := hA.out.up (fE wo)
         obtain ⟨y1, y2, y3, _⟩ := CC.cells
         have og := ag (EM Any wo.drew w8.heap.size cV.heap.size w6.heap.size _ nv own ((List.range k).map fun j => ((3 + j : Nat) : Int)) (gi (gl own k) 0) k y2 (CC.rows.sub fun _ _ _ => trivial) y3 (CC.jT.ints.sub fun _ _ _ => trivial) y1 hk (by simp) (fun j hj => by simp [gi, hj]) (by have := Es.out; omega) (fun j => by
          by_cases hj : j < own.length
          ·have := (vw.out j hj).len; have := AZ; omega
          ·simp [gl, show own.length ≤ j by omega]))
         have Qu := ag (zl w2.heap.size (w2.heap.size + 1) (bQ names own k 0) (lastQ own (gi (gl own k) 0) k) ByteArray.empty wo.drew P N (hG.out.up (fE wo)) (by rw [(kM.out k 0).1, (kM.out k 0).2]) (by rw [(kM.out k 0).1]; have := Es.out; omega))
         rw [HBO.out, (kM.out k 0).1, Nat.add_zero] at Qu
         have aU := ag hlt
         have zP := ag hG.out
         have Qv := ag hA.out
         have uL := ag hU.out
         have kZ : Hid (k ≤ 64) := by have := Es.out; unfold Hid; omega
         clear hsp hn' hT hcs fJ CC y1 y2 y3 hG hA hU hk hlt
         generalize gi (gl own k) 0 = x at *
         generalize lastQ own x k = z at *
         aa fail
         refine eE (by af) 11 (fun w' => w'.cell? ⟨cV.heap.size, 0, none⟩ = some nv ∧ w'.cell? ⟨b2, off2, none⟩ = some (.int .i64 x)) (kO.out _ _ _ (GK.yY (fE wo))) (fun hS => ?_)
         simp only [List.size_toArray, List.length_cons, List.length_nil, Nat.reduceAdd, Array.replicate_succ, Array.replicate_zero, List.push_toArray, List.nil_append, List.cons_append]
         refine au.take (i := 0) (v := ?y6) rfl (by af) (fun _ _ _ h => h) (by rfl) (fun w av => ?l7) hS ?y7
         case l7 =>
          (try dsimp only at av)
          aj
          try ah rfl
         try simp only [Act.put, az, aA, aB]
         refine au.take (i := 1) (v := ?y8) rfl (by af) (fun _ _ _ h => h) (by rfl) (fun w av => ?l9) hS ?y9
         case l9 =>
          (try dsimp only at av)
          aj
          try ah rfl
         try simp only [Act.put, az, aA, aB]
         refine au.take (i := 2) (v := ?BI) rfl (by af) (fun _ _ _ h => h) (by rfl) (fun w av => ?oD) hS ?BJ
         case oD =>
          (try dsimp only at av)
          aj
          try ah rfl
         try simp only [Act.put, az, aA, aB]
         refine au.take (i := 3) (v := ?BK) rfl (by af) (fun _ _ _ h => h) (by rfl) (fun w av => ?oE) hS ?BL
         case oE =>
          (try dsimp only at av)
          aj
          try ah rfl
         try simp only [Act.put, az, aA, aB]
         refine au.take (i := 4) (v := ?BM) rfl (by af) (fun _ _ _ h => h) (by rfl) (fun w av => ?oF) hS ?BN
         case oF =>
          (try dsimp only at av)
          aj
          try ah rfl
         try simp only [Act.put, az, aA, aB]
         refine au.take (i := 5) (v := ?BO) rfl (by af) (fun _ _ _ h => h) (by rfl) (fun w av => ?oG) hS ?BP
         case oG =>
          (try dsimp only at av)
          aj
          try ah rfl
         try simp only [Act.put, az, aA, aB]
         refine au.take (i := 6) (v := ?Fh) rfl (by af) (fun _ _ _ h => h) (by rfl) (fun w av => ?qY) hS ?Fi
         case qY =>
          (try dsimp only at av)
          aj
          try ah rfl
         try simp only [Act.put, az, aA, aB]
         refine au.step (i := 7) rfl (by af) (fun K' hK => ?_)
         aj
         refine og.out.mono ?_
         rintro e w3' ⟨rfl, rfl⟩
         refine hK.out _ _ (fun _ => hS) (fun hS => ?_)
         replace hS := hS ⟨10, by decide, rfl⟩
         try simp only [az, aA, aB]
         refine au.step (i := 8) rfl (by af) (fun K' hK => ?_)
         aj
         refine Qu.out.mono ?_
         rintro e EO ⟨rfl, ZO, ZP, IU, IV⟩
         have EP : GK w2.heap.size wo EO P N ZO ZP := (GK.yY (fE wo)).trans IV
         have Tl := ag (Qv.out.gk EP)
         have nC := ag (EP.Lf zP.out uL.out (Nat.le_refl _))
         have Tm := ag IU
         have ZQ := ag EP
         clear IU IV EP
         refine hK.out _ _ (fun _ => kO.out _ _ _ ZQ.out) (fun hS => ?_)
         replace hS := hS ⟨10, by decide, rfl⟩
         try simp only [az, aA, aB]
         refine au.step (i := 9) rfl (by af) (fun K' hK => ?_)
         aj
         have wA := Up.alloc EO (.cells #[.int .i64 ((3 + k : Nat) : Int)] 3)
         have Tn := ag (Tl.out.up wA)
         have HG15 := ag (Tm.out.up wA)
         have uC := ag (nC.out.trans wA)
         have HK15 := ag (ZQ.out.up wA)
         clear wA
         refine hK.out _ _ (fun _ => kO.out _ _ _ HK15.out) (fun hS => ?_)
         replace hS := hS ⟨10, by decide, rfl⟩
         try simp only [az, aA, aB]
         refine au.step (i := 10) rfl (by af) (fun K' hK => ?_)
         refine dK (by rfl) _ _ _ (by rfl) (cV.heap.size + 1) 3 _ 8 Tryz.underlying26 Tryz.gH (by rfl) (by decide) (by rfl) Tn.out.jT (.int .i64 ((3 + k : Nat) : Int)) EO.heap.size (by rfl) (ig _ _ _) (by rfl) (by simp; have := kZ.out; omega) Tn.out.lt.2.2.2 ?_
         intro g16 c16 w16 ZR ZS ZT _
         obtain ⟨⟨y1, y2⟩, To, Tp, Tq⟩ := Tn.out.app HG15.out ZR ZS (fun b hb => by
          have hb : some g16 = some b := hb
          injection hb with hb
          rcases ZT with h | h
          ·exact .inl (hb ▸ h)
          ·exact .inr (Nat.le_of_eq (h.symm.trans hb)))
         simp only [List.length_map, List.length_range] at To Tp Tq
         have HA17 := ag To
         have HG17 := ag Tp
         have HU17 := ag (Tq w2 uC.out (Nat.le_refl _))
         clear ZR ZS ZT To Tp Tq
         refine hK.out _ _ (bh (by af)) (fun _ => ?_)
         try simp only [Act.put, az, aA, aB]
         refine au.step (i := 11) rfl (by af) (fun K' hK => ?_)
         aj
         refine hK.out _ _ (bh (by af)) (fun _ => ?_)
         refine au.done (by af) ?_
         have k64 := kZ.out
         have hltk := aU.out
         aa fail
         aF
         case rel => exact ⟨k + 1, _, _, _, Nat.succ_le_of_lt aU.out, by aH, HG17, (by have h := HA17.out; rw [show (List.range (k + 1)).map (fun j => ((3 + j : Nat) : Int)) = (List.range k).map (fun j => ((3 + j : Nat) : Int)) ++ [((3 + k : Nat) : Int)] by rw [List.range_succ, List.map_append]; rfl]; exact ag h), HU17⟩
         case measure => have := aU.out; simp [intOf]; omega
        ·obtain rfl : k = own.length := by omega
         have zP := ag hG.out
         have Qv := ag hA.out
         have uL := ag hU.out
         clear hG hA hU hlt hk
         aa fail
         aV [24] (fun i wr => ∃ (q m : Nat) (P N : Value), q ≤ names.length ∧ q = m + 1 ∧ i = .int .i64 (q : Int) ∧ Hid (GS w2.heap.size (w2.heap.size + 1) wr P N (bQ names own own.length m)) ∧ Hid (AX w2.heap.size w6.heap.size w8.heap.size cV.heap.size wr P N (.slice Lt own.length Lu) nv own ((List.range own.length).map fun j => ((3 + j : Nat) : Int))) ∧ Hid (Up w2 wr)) (fun i _ => names.length - (intOf i).toNat)
         case atStart => exact ⟨1, 0, P, N, U6, rfl, rfl, zP.out, Qv.out, uL.out⟩
         case round =>
          obtain ⟨q, m, P', N', hq, Ve, rfl, hG, hA, hU⟩ := bE
          obtain ⟨wo, rfl⟩ : ∃ wo : World, wo = wr := ⟨_, rfl⟩
          by_cases hlt : q < names.length
          ·obtain ⟨nb', no', e1, hc1⟩ := dh tC.out hlt
           injection e1 with e1; injection e1 with e1 e2; subst e1; subst e2
           have hc1 := hU.out.cell hc1
           have CC := hA.out.up (fE wo)
           obtain ⟨y1, y2, y3, _⟩ := CC.cells
           have i1 : (0 : Int) ≤ (q : Int) := by omega
           have i2 : (q : Int) < (names.length : Int) := by omega
           have kO : Hid (wo.drew.cell? ⟨w8.heap.size, 0, none⟩ = some (.slice Lt own.length Lu) ∧ wo.drew.cell? ⟨II, no + q, none⟩ = some (.string (gs names q))) := ⟨y2, (fE wo).cell hc1⟩
           have og := ag (EM Any wo.drew w8.heap.size cV.heap.size w6.heap.size _ nv own ((List.range own.length).map fun j => ((3 + j : Nat) : Int)) (q : Int) own.length y2 (CC.rows.sub fun _ _ _ => trivial) y3 (CC.jT.ints.sub fun _ _ _ => trivial) y1 (Nat.le_refl _) (by simp) (fun j hj => by simp [gi, hj]) (by have := Es.out; omega) (fun j => by
            by_cases hj : j < own.length
            ·have := (vw.out j hj).len; have := AZ; omega
            ·simp [gl, show own.length ≤ j by omega]))
           have Qu := ag (zl w2.heap.size (w2.heap.size + 1) (bQ names own own.length m) (lastQ own (q : Int) own.length) (gs names q) wo.drew P' N' (hG.out.up (fE wo)) (by rw [(kM.out own.length m).1, (kM.out own.length m).2]) (by rw [(kM.out own.length m).1]; have := Es.out; omega))
           rw [show (bQ names own own.length m).push (lastQ own (q : Int) own.length) (gs names q) = bQ names own own.length (m + 1) by rw [Ve]; exact yP.out m] at Qu
           have aU := ag hlt
           have HQM := ag Ve
           have zP := ag hG.out
           have Qv := ag hA.out
           have uL := ag hU.out
           clear hc1 CC y1 y2 y3 hG hA hU hlt Ve hq
           generalize lastQ own (q : Int) own.length = z at *
           generalize gs names q = nm at *
           aa fail
           refine eE (by af) 11 (fun w' => w'.cell? ⟨w8.heap.size, 0, none⟩ = some (.slice Lt own.length Lu) ∧ w'.cell? ⟨II, no + q, none⟩ = some (.string nm)) kO.out (fun hS => ?_)
           simp only [List.size_toArray, List.length_cons, List.length_nil, Nat.reduceAdd, Array.replicate_succ, Array.replicate_zero, List.push_toArray, List.nil_append, List.cons_append]
           refine au.take (i := 0) (v := ?gv0k2) rfl (by af) (fun _ _ _ h => h) (by rfl) (fun w av => ?Mx) hS ?gr0k2
           case Mx =>
            (try dsimp only at av)
            aj
            try ah rfl
           try simp only [Act.put, az, aA, aB]
           refine au.take (i := 1) (v := ?gv1k2) rfl (by af) (fun _ _ _ h => h) (by rfl) (fun w av => ?My) hS ?gr1k2
           case My =>
            (try dsimp only at av)
            aj
            try ah rfl
           try simp only [Act.put, az, aA, aB]
           refine au.take (i := 2) (v := ?gv2k2) rfl (by af) (fun _ _ _ h => h) (by rfl) (fun w av => ?Mz) hS ?gr2k2
           case Mz =>
            (try dsimp only at av)
            aj
            try ah rfl
           try simp only [Act.put, az, aA, aB]
           refine au.take (i := 3) (v := ?gv3k2) rfl (by af) (fun _ _ _ h => h) (by rfl) (fun w av => ?MA) hS ?gr3k2
           case MA =>
            (try dsimp only at av)
            aj
            try ah rfl
           try simp only [Act.put, az, aA, aB]
           refine au.take (i := 4) (v := ?gv4k2) rfl (by af) (fun _ _ _ h => h) (by rfl) (fun w av => ?MB) hS ?gr4k2
           case MB =>
            (try dsimp only at av)
            aj
            try ah rfl
           try simp only [Act.put, az, aA, aB]
           refine au.take (i := 6) (v := ?gv6k2) rfl (by af) (fun _ _ _ h => h) (by rfl) (fun w av => ?MC) hS ?gr6k2
           case MC =>
            (try dsimp only at av)
            aj
            try ah rfl
           try simp only [Act.put, az, aA, aB]
           refine au.take (i := 7) (v := ?gv7k2) rfl (by af) (fun _ _ _ h => h) (by rfl) (fun w av => ?gy7k2) hS ?gr7k2
           case gy7k2 =>
            (try dsimp only at av)
            aj
            try ah rfl
           try simp only [Act.put, az, aA, aB]
           refine au.take (i := 8) (v := ?Un) rfl (by af) (fun _ _ _ h => h) (by rfl) (fun w av => ?BU) hS ?Uo
           case BU =>
            (try dsimp only at av)
            aj
            try ah rfl
           try simp only [Act.put, az, aA, aB]
           refine au.take (i := 9) (v := ?gv9k2) rfl (by af) (fun _ _ _ h => h) (by rfl) (fun w av => ?Mn) hS ?gr9k2
           case Mn =>
            (try dsimp only at av)
            aj
            try ah rfl
           try simp only [Act.put, az, aA, aB]
           refine au.step (i := 5) rfl (by af) (fun K' hK => ?_)
           aj
           refine og.out.mono ?_
           rintro e w3' ⟨rfl, rfl⟩
           refine hK.out _ _ (fun _ => hS) (fun hS => ?_)
           replace hS := hS ⟨10, by decide, rfl⟩
           try simp only [az, aA, aB]
           refine au.step (i := 10) rfl (by af) (fun K' hK => ?_)
           aj
           refine Qu.out.mono ?_
           rintro e EO ⟨rfl, ZO, ZP, IU, IV⟩
           have EP : GK w2.heap.size wo EO P' N' ZO ZP := (GK.yY (fE wo)).trans IV
           have Tl := ag (Qv.out.gk EP)
           have nC := ag (EP.Lf zP.out uL.out (Nat.le_refl _))
           have Tm := ag IU
           clear IU IV EP
           refine hK.out _ _ (bh (by af)) (fun _ => ?_)
           refine au.done (by af) ?_
           aa fail
           aF
           case rel => exact ⟨q + 1, m + 1, _, _, aU.out, by have := HQM.out; omega, by aH, Tm, Tl, nC⟩
           case measure => have := aU.out; simp [intOf]; omega
          ·obtain rfl : q = names.length := by omega
           have e1 : m = names.length - 1 := by omega
           have tY : GS w2.heap.size (w2.heap.size + 1) wo P' N' (bT names own) := by have h := hG.out; rw [e1, ZN.out] at h; exact h
           obtain ⟨tc0, tc1, _, _⟩ := tY.cells
           have Qr : aO (fun b => w2.heap.size + 1 ≤ b) wo (.agg #[P', N']) (bT names own) := ⟨P', N', rfl, tY.tl.bJ.ints, tY.tl.bW.strs⟩
           have jH := ag (xR _ wo _ _ Qr (by rw [← ZN.out, (kM.out _ _).1]; have := oW.out; omega) (by rw [← ZN.out, (kM.out _ _).2]; have := oW.out; omega) ZM.out)
           have vP := (Below.block hU.out w.heap.size mL.out).trans pL.out
           have C5 := ag vP
           have mE := ag hU.out
           have IL : Hid (w.heap.size < wo.heap.size) := Nat.lt_of_lt_of_le mL.out hU.out.size
           clear hG hA hU tY Qr vP e1 Ve hlt
           aa fail
           refine jH.out.mono ?_
           rintro e w18 ⟨kS, ⟨hte, rfl⟩ | ⟨hte, cv, rfl, P8, N8, rfl, yO, mR⟩⟩
           ·exact absurd B9.out hte
           obtain ⟨p8, c8, rfl, _, _⟩ := aC.open yO
           obtain ⟨n8, d8, rfl, _, _⟩ := aC.open mR
           have A2 := (Below.block kS w.heap.size IL.out).trans C5.out
           obtain ⟨q0, q1, q2, q3⟩ := boxed A2
           have fR := ag (IF IL.out A2 ((cM.out.trans mE.out).trans kS) yO mR HX.out wv.out)
           clear A2 kS hte yO mR
           aa fail
           obtain ⟨s2, s3, hp⟩ := fR.out
           exact ⟨rfl, .tuple #[.agg #[.slice p8 _ c8, .slice n8 _ d8], .int .i64 0], by simp [results, Tryz.results22, go_sem, s2, s3], hp⟩
end Go.Proofs.YtpnmblnahjjmhaaGreat
