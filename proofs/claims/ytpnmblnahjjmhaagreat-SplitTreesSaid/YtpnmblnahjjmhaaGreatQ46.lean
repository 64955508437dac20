/- The walk of split.Build. -/
import Derived.Test.YtpnmblnahjjmhaaGreatQ1
import Derived.Test.YtpnmblnahjjmhaaGreatQ45
import Derived.Test.YtpnmblnahjjmhaaGreatQ36
import Derived.Test.YtpnmblnahjjmhaaGreatQ16
import Derived.Test.YtpnmblnahjjmhaaGreatQ41
set_option maxRecDepth 100000
namespace Go.Proofs.YtpnmblnahjjmhaaGreat
open Go.RowKit Go.Deep
def yx (w : World) (names : List ByteArray) (l : List (List Int)) (e : Ending) (w' : World) : Prop :=
 Up w w' ∧ ∃ v, e = .returned (.tuple #[v, .int .i64 (cS names l)]) ∧ aG Any w' v (bF names l)
theorem pX {w W : World} {B : Nat} {names : List ByteArray} {l : List (List Int)} {c : Int} (hB : w.heap.size ≤ B) (hu : Up w W) (hb : W.heap[B]? = some (Obj.cells #[.slice none 0 0, .slice none 0 0] 39 (0, 0))) (hc : cS names l = c) (h0 : c ≠ 0) :
    ((W.setCell ⟨B, 0, none⟩ (.slice none 0 0)).setCell ⟨B, 1, none⟩ (.slice none 0 0)).cell? ⟨B, 0, none⟩ = some (.slice none 0 0) ∧ ((W.setCell ⟨B, 0, none⟩ (.slice none 0 0)).setCell ⟨B, 1, none⟩ (.slice none 0 0)).cell? ⟨B, 1, none⟩ = some (.slice none 0 0) ∧
      yx w names l (.returned (.tuple #[.agg #[.slice none 0 0, .slice none 0 0], .int .i64 c])) ((W.setCell ⟨B, 0, none⟩ (.slice none 0 0)).setCell ⟨B, 1, none⟩ (.slice none 0 0)) := by
  obtain ⟨s1, s2, s3, s4⟩ := eM (p := .slice none 0 0) (q := .slice none 0 0) hb hB hu
  refine ⟨s2, s3, s1, .agg #[.slice none 0 0, .slice none 0 0], by rw [hc], ?_⟩
  unfold bF; rw [if_neg (by rw [hc]; exact h0)]; exact vh _
theorem qR {w W : World} {B : Nat} {names : List ByteArray} {l : List (List Int)} {c : Int} (hu : Up w W) (hb : W.heap[B]? = some (Obj.cells #[.slice none 0 0, .slice none 0 0] 39 (0, 0))) (hc : cS names l = c) (h0 : c ≠ 0) :
  W.cell? ⟨B, 0, none⟩ = some (.slice none 0 0) ∧ W.cell? ⟨B, 1, none⟩ = some (.slice none 0 0) ∧ yx w names l (.returned (.tuple #[.agg #[.slice none 0 0, .slice none 0 0], .int .i64 c])) W := by
 refine ⟨by simp [World.cell?, hb], by simp [World.cell?, hb], hu, .agg #[.slice none 0 0, .slice none 0 0], by rw [hc], ?_⟩
 unfold bF; rw [if_neg (by rw [hc]; exact h0)]; exact vh _
theorem Th (names : List ByteArray) (k : Nat) : ((List.range k).any fun j => decide (gs names k = gs names j)) = cZ names k := by
 unfold cZ
 congr 1; funext j
 by_cases e : gs names j = gs names k
 ·rw [decide_eq_true e, decide_eq_true e.symm]
 ·rw [decide_eq_false e, decide_eq_false fun q => e q.symm]
theorem De {W : World} {b : Nat} {x : Int} (h : W.cell? ⟨b, 0, none⟩ = some (.int .i64 x)) : af Any W (.slice (some ⟨b, 0, none⟩) 1 1) [x] :=
 ⟨_, 1, rfl, Nat.le_refl _, .inr ⟨_, 0, rfl, trivial, fun k hk => by
  have iI : k < 1 := hk
  obtain rfl : k = 0 := by omega
  exact h⟩⟩
theorem Lh {W : World} {b : Nat} {x : ByteArray} (h : W.cell? ⟨b, 0, none⟩ = some (.string x)) : ay Any W (.slice (some ⟨b, 0, none⟩) 1 1) [x] :=
 ⟨_, 1, rfl, Nat.le_refl _, .inr ⟨_, 0, rfl, trivial, fun k hk => by
  have iI : k < 1 := hk
  obtain rfl : k = 0 := by omega
  exact h⟩⟩
theorem ZF {base k : Nat} {w : World} {v : Value} {vals : List Value} {l : List (List Int)} (ho : ah base 26 w v vals) (hvl : vals.length = l.length) (hrow : ∀ i, i < l.length → af (fun b => b < k) w (vals.getD i undef) (gl l i)) (hk : k ≤ base) :
  ∃ ps, uK base w v ps ∧ ps.map (·.1) = l ∧ ∀ p ∈ ps, af (fun b => b < k) w p.2 p.1 := by
 have hin : ∀ p ∈ (List.range l.length).map (fun i => (gl l i, vals.getD i undef)), af (fun b => b < k) w p.2 p.1 := fun p hp => by
  obtain ⟨i, hi, rfl⟩ := List.mem_map.1 hp
  exact hrow i (List.mem_range.1 hi)
 refine ⟨(List.range l.length).map fun i => (gl l i, vals.getD i undef), ⟨?_, fun p hp => ?_, fun p hp => ?_⟩, ?_, hin⟩
 ·rw [List.map_map]
  have e : (List.range l.length).map ((fun x => x.2) ∘ fun i => (gl l i, vals.getD i undef)) = vals := by
   refine List.ext_getElem (by simp [hvl]) fun i h1 h2 => ?_
   simp [List.getElem_map, h2]
  rw [e]; exact ho
 ·obtain ⟨q, c, e, _, _⟩ := av.open (hin p hp)
  exact ⟨q, c, e⟩
 ·exact (hin p hp).sub fun b hb _ e => by have := (ax ho e).1; omega
 ·rw [List.map_map]
  refine List.ext_getElem (by simp) fun i h1 h2 => ?_
  simp [gl, h2]
theorem IG {w W6 W8 : World} {names : List ByteArray} {l : List (List Int)} {T : aA} {p n : Value} (hlt : w.heap.size < W6.heap.size) (hb : W8.heap[w.heap.size]? = some (Obj.cells #[.slice none 0 0, .slice none 0 0] 39 (0, 0))) (hu : Up w W8) (hP : af (fun b => W6.heap.size ≤ b) W8 p T.ps) (hN : ay (fun b => W6.heap.size ≤ b) W8 n T.ns) (hX : cS names l = 0) (hT : bF names l = T) :
    ((W8.setCell ⟨w.heap.size, 0, none⟩ p).setCell ⟨w.heap.size, 1, none⟩ n).cell? ⟨w.heap.size, 0, none⟩ = some p ∧ ((W8.setCell ⟨w.heap.size, 0, none⟩ p).setCell ⟨w.heap.size, 1, none⟩ n).cell? ⟨w.heap.size, 1, none⟩ = some n ∧
      yx w names l (.returned (.tuple #[.agg #[p, n], .int .i64 0])) ((W8.setCell ⟨w.heap.size, 0, none⟩ p).setCell ⟨w.heap.size, 1, none⟩ n) := by
  obtain ⟨s1, s2, s3, s4⟩ := eM (p := p) (q := n) hb (Nat.le_refl _) hu
  refine ⟨s2, s3, s1, _, by rw [hX], ?_⟩
  rw [hT]
  exact ⟨_, _, rfl, (af.keep hP fun b hb _ => s4 b (by omega)).sub fun _ _ _ => trivial, (ay.keep hN fun b hb _ => s4 b (by omega)).sub fun _ _ _ => trivial⟩
set_option maxHeartbeats 8000000 in
theorem Li (S : Nat → Prop) (w : World) (v vl : Value) (names : List ByteArray) (l : List (List Int)) (h : ay S w v names) (hL : aJ S w vl l) (hn : names.length ≤ 1000000) (hz : ∀ k, (gs names k).size ≤ 70000) (oo : l.length ≤ 1000000) (hr : ∀ k, (gl l k).length ≤ 1000000) :
  Calls Tryz.prog 22 #[v, vl] w (yx w names l) := by
 obtain ⟨lp, lc, rfl, -, -⟩ := cN hL
 obtain ⟨p, cap, rfl, hcap, _⟩ := av.open h
 have h : ay S w (.slice p names.length cap) names := h
 have bO : Up w (w.alloc (.cells #[.slice none 0 0, .slice none 0 0] 39)) := Up.alloc _ _
 have hrb := kA (w := w) (P := .slice none 0 0) (N := .slice none 0 0) (T := 39)
 obtain ⟨q0, q1, q2, q3⟩ := boxed hrb
 have CX : (w.alloc (.cells #[.slice none 0 0, .slice none 0 0] 39)).heap.size = w.heap.size + 1 := by simp
 have su := aa (ay.keep h (bO.kept S))
 have mZ := aa (aJ.keep (hL.sub (T := fun b => b < w.heap.size) fun b _ hb => hb) (bO.kept _))
 have tY := aa CX
 have dJ := aa bO
 have gu := aa hrb
 have HZ := aa hz
 have HR := aa hr
 have gJ : Hid (cS names l = if names.length = 0 then 5 else if 32 < names.length ∨ 64 < l.length then 4
  else if firstNZ (dh names) names.length ≠ 0 then firstNZ (dh names) names.length
  else if firstNZ (fun k => aF names.length (gl l k)) l.length ≠ 0 then firstNZ (fun k => aF names.length (gl l k)) l.length
  else if 0 ≤ eC l then 17 else 0) := rfl
 clear h hL bO hrb CX hz hr
 by_cases c0 : names.length = 0
 ·have HST := aa (qR (c := 5) dJ.out gu.out (by rw [gJ.out, if_pos c0]) (by decide))
  have d0 : ((names.length : Int) == 0) = true := by simp [c0]
  clear c0
  go_enter Tryz.func22, Tryz.ntmps22
  go_wp2_with fail
  obtain ⟨s2, s3, hp⟩ := HST.out
  exact ⟨rfl, .tuple #[.agg #[.slice none 0 0, .slice none 0 0], .int .i64 5], by simp [results, Tryz.results22, go_sem], hp⟩
 have d0 : ((names.length : Int) == 0) = false := by simpa using c0
 by_cases c1 : 32 < names.length
 ·have HST := aa (qR (c := 4) dJ.out gu.out (by rw [gJ.out, if_neg c0, if_pos (.inl c1)]) (by decide))
  have d1 : decide ((32 : Int) < (names.length : Int)) = true := by simp; omega
  clear c0
  go_enter Tryz.func22, Tryz.ntmps22
  go_wp2_with fail
  obtain ⟨s2, s3, hp⟩ := HST.out
  exact ⟨rfl, .tuple #[.agg #[.slice none 0 0, .slice none 0 0], .int .i64 4], by simp [results, Tryz.results22, go_sem], hp⟩
 have d1 : decide ((32 : Int) < (names.length : Int)) = false := by simp; omega
 by_cases c2 : 64 < l.length
 ·have HST := aa (qR (c := 4) dJ.out gu.out (by rw [gJ.out, if_neg c0, if_pos (.inr c2)]) (by decide))
  have d2 : decide ((64 : Int) < (l.length : Int)) = true := by simp; omega
  clear c0 c1
  go_enter Tryz.func22, Tryz.ntmps22
  go_wp2_with fail
  obtain ⟨s2, s3, hp⟩ := HST.out
  exact ⟨rfl, .tuple #[.agg #[.slice none 0 0, .slice none 0 0], .int .i64 4], by simp [results, Tryz.results22, go_sem], hp⟩
 have d2 : decide ((64 : Int) < (l.length : Int)) = false := by simp; omega
 have AE : Hid (cS names l = if firstNZ (dh names) names.length ≠ 0 then firstNZ (dh names) names.length
  else if firstNZ (fun k => aF names.length (gl l k)) l.length ≠ 0 then firstNZ (fun k => aF names.length (gl l k)) l.length
  else if 0 ≤ eC l then 17 else 0) := by unfold Hid; rw [gJ.out, if_neg c0, if_neg (by omega)]
 have U8 : 0 < names.length := by omega
 have AG : names.length ≤ 32 := by omega
 have yq : l.length ≤ 64 := by omega
 clear gJ c0 c1 c2
 have II : Hid (∀ k, k < names.length → (∀ j, j < k → dh names j = 0) → dh names k ≠ 0 → cS names l = dh names k) := fun k hk hj h0 => by
  have h1 := eY hk hj h0
  rw [AE.out, h1, if_pos h0]
 go_enter Tryz.func22, Tryz.ntmps22
 go_wp2_with fail
 generalize w.alloc (.cells #[.slice none 0 0, .slice none 0 0] 39) = w1 at *
 go_loop [6, 7, 42] (fun _ _ i => ∃ k : Nat, k ≤ names.length ∧ i = .int .i64 k ∧ Hid (∀ j, j < k → dh names j = 0)) (fun _ _ i => names.length - (intOf i).toNat)
 case atStart => exact ⟨0, Nat.zero_le _, rfl, fun j hj => absurd hj (Nat.not_lt_zero _)⟩
 case round =>
  obtain ⟨k, hk, rfl, hd⟩ := hrel
  by_cases hlt : k < names.length
  ·obtain ⟨IJ, no, rfl, hc⟩ := cC su.out hlt
   have lu := aa (MZ (gs names k) (HZ.out k) w1)
   have BM : Hid (Calls Tryz.prog 51 #[.slice (some ⟨IJ, no, none⟩) k cap, .string (gs names k)] w1 fun e w' => e = .returned (.bool (cZ names k)) ∧ w1 = w') := by
    have h := gW S w1 _ k (fun j => gs names j) (gs names k) (OH su.out hk) (by omega)
    rwa [Th] at h
   have IK := aa (II.out k hlt hd.out)
   have IL : Hid (dh names k = if bq (gs names k).data.toList then (if cZ names k then 7 else 0) else 14) := rfl
   generalize gs names k = nm at *
   generalize cZ names k = bs at *
   generalize bq nm.data.toList = bn at *
   cases bn
   ·have HE : Hid (dh names k = 14) := IL.out
    have HST := aa (pX (c := 14) (Nat.le_refl _) dJ.out gu.out ((IK.out (by rw [HE.out]; decide)).trans HE.out) (by decide))
    go_wp2_with (first | (go_at_call 89; refine lu.out.mono ?_; rintro e w' ⟨rfl, rfl⟩) | (go_at_call 51; refine BM.out.mono ?_; rintro e w' ⟨rfl, rfl⟩))
    obtain ⟨s2, s3, hp⟩ := HST.out
    exact ⟨rfl, .tuple #[.agg #[.slice none 0 0, .slice none 0 0], .int .i64 14], by simp [results, Tryz.results22, go_sem, s2, s3], hp⟩
   ·cases bs
    ·have HE : Hid (dh names k = 0) := IL.out
     go_wp2_with (first | (go_at_call 89; refine lu.out.mono ?_; rintro e w' ⟨rfl, rfl⟩) | (go_at_call 51; refine BM.out.mono ?_; rintro e w' ⟨rfl, rfl⟩))
     go_round
     case rel => exact ⟨k + 1, by omega, by go_num, fun j hj => if e : j = k then by subst e; exact HE.out else hd.out j (by omega)⟩
     case measure => simp [intOf]; omega
    ·have HE : Hid (dh names k = 7) := IL.out
     have HST := aa (pX (c := 7) (Nat.le_refl _) dJ.out gu.out ((IK.out (by rw [HE.out]; decide)).trans HE.out) (by decide))
     go_wp2_with (first | (go_at_call 89; refine lu.out.mono ?_; rintro e w' ⟨rfl, rfl⟩) | (go_at_call 51; refine BM.out.mono ?_; rintro e w' ⟨rfl, rfl⟩))
     obtain ⟨s2, s3, hp⟩ := HST.out
     exact ⟨rfl, .tuple #[.agg #[.slice none 0 0, .slice none 0 0], .int .i64 7], by simp [results, Tryz.results22, go_sem, s2, s3], hp⟩
  ·obtain rfl : k = names.length := by omega
   have sw : Hid (cS names l = if firstNZ (fun k => aF names.length (gl l k)) l.length ≠ 0 then firstNZ (fun k => aF names.length (gl l k)) l.length
     else if 0 ≤ eC l then 17 else 0) := by
    unfold Hid; rw [AE.out, if_neg (by rw [cA hd.out]; decide)]
   have lu : Hid (∀ j, j < names.length → dh names j = 0) := hd.out
   clear hlt hk hd AE II
   have gD : Hid (∀ k, k < l.length → (∀ j, j < k → aF names.length (gl l j) = 0) → aF names.length (gl l k) ≠ 0 → cS names l = aF names.length (gl l k)) := fun k hk hj h0 => by
    have h1 := eY (f := fun k => aF names.length (gl l k)) hk hj h0
    rw [sw.out, h1, if_pos h0]
   go_wp2_with fail
   go_loop [10, 11, 62] (fun _ _ i => ∃ k : Nat, k ≤ l.length ∧ i = .int .i64 k ∧ Hid (∀ j, j < k → aF names.length (gl l j) = 0)) (fun _ _ i => l.length - (intOf i).toNat)
   case atStart => exact ⟨0, Nat.zero_le _, rfl, fun j hj => absurd hj (Nat.not_lt_zero _)⟩
   case round =>
    obtain ⟨k, hk, rfl, hd⟩ := hrel
    by_cases hlt : k < l.length
    ·obtain ⟨b, off, q, c, rfl, hc, hi⟩ := dX mZ.out hlt
     have e9 := aa (nS _ w1 _ (names.length : Int) (gl l k) hi (HR.out k))
     have ZG := aa (gD.out k hlt hd.out)
     have k1 : (0 : Int) ≤ (k : Int) := Int.natCast_nonneg _
     have k2 : (k : Int) < (l.length : Int) := by omega
     have HEK : Hid (∀ z, aF names.length (gl l k) = z → z = aF names.length (gl l k)) := fun z e => e.symm
     clear hi
     by_cases e0 : aF names.length (gl l k) = 0
     ·have HE := aa e0
      rw [e0] at e9
      clear e0 HEK
      go_wp2_with (first | (go_at_call 81; refine e9.out.mono ?_; rintro e w' ⟨rfl, rfl⟩))
      go_round
      case rel => exact ⟨k + 1, by omega, by go_num, fun j hj => if e : j = k then by subst e; exact HE.out else hd.out j (by omega)⟩
      case measure => simp [intOf]; omega
     ·have HST := aa (pX (c := aF names.length (gl l k)) (Nat.le_refl _) dJ.out gu.out (ZG.out e0) e0)
      have g1 : (aF names.length (gl l k) != 0) = true := by simpa using e0
      clear e0 HEK ZG
      generalize aF names.length (gl l k) = gc at *
      go_wp2_with (first | (go_at_call 81; refine e9.out.mono ?_; rintro e w' ⟨rfl, rfl⟩))
      obtain ⟨s2, s3, hp⟩ := HST.out
      exact ⟨rfl, .tuple #[.agg #[.slice none 0 0, .slice none 0 0], .int .i64 gc], by simp [results, Tryz.results22, go_sem, s2, s3], hp⟩
    ·obtain rfl : k = l.length := by omega
     have Ti : Hid (cS names l = if 0 ≤ eC l then 17 else 0) := by
      unfold Hid; rw [sw.out, if_neg (by rw [cA hd.out]; decide)]
     have wE := aa (Y7 _ w1 _ l mZ.out (fun k hk => (gU.1 (hd.out k hk)).set) (by omega))
     have xK : Hid (wL l = decide (eC l < 0)) := rfl
     clear hlt hk hd sw gD
     generalize wL l = pb at *
     cases pb
     ·have HX : Hid (cS names l = 17) := by
       unfold Hid; rw [Ti.out, if_pos]
       have := of_decide_eq_false xK.out.symm; omega
      go_wp2_with fail
      refine wE.out.mono ?_
      rintro e w2 ⟨rfl, aC⟩
      have gN := (Below.block aC w.heap.size (by rw [tY.out]; omega)).trans gu.out
      obtain ⟨q0, q1, q2, q3⟩ := boxed gN
      have HST := aa (pX (c := 17) (Nat.le_refl _) (dJ.out.trans aC) gN HX.out (by decide))
      clear gN aC
      go_wp2_with fail
      obtain ⟨s2, s3, hp⟩ := HST.out
      exact ⟨rfl, .tuple #[.agg #[.slice none 0 0, .slice none 0 0], .int .i64 17], by simp [results, Tryz.results22, go_sem, s2, s3], hp⟩
     ·have HX : Hid (cS names l = 0) := by
       unfold Hid; rw [Ti.out, if_neg]
       have := of_decide_eq_true xK.out.symm; omega
      have fI := aa (xY.1 HX.out)
      clear Ti lu xK
      go_wp2_with fail
      refine wE.out.mono ?_
      rintro e w2 ⟨rfl, aC⟩
      have gN := (Below.block aC w.heap.size (by rw [tY.out]; omega)).trans gu.out
      have bU := aa (dJ.out.trans aC)
      have oF := aa gN
      have sV := aa (ay.keep su.out (aC.kept S))
      have jr := aa (aJ.keep mZ.out (aC.kept _))
      have lK : Hid (w.heap.size < w2.heap.size) := by have h1 := aC.size; rw [tY.out] at h1; exact h1
      clear gN aC dJ gu su mZ tY wE q0 q1 q2 q3
      obtain ⟨IJ, no, rfl, hc0⟩ := cC sV.out U8
      rw [Nat.add_zero] at hc0
      obtain ⟨q0, q1, q2, q3⟩ := boxed oF.out
      by_cases n1 : names.length = 1
      ·have d3 : ((names.length : Int) == 1) = true := by simp [n1]
       obtain ⟨t1, t2, t3⟩ := kO w2 (.int .i64 (-1)) (.string (gs names 0)) 3 9
       have hb3 := (Below.block t1 w.heap.size lK.out).trans oF.out
       have HST := aa (eM (w := w) (p := .slice (some ⟨w2.heap.size, 0, none⟩) 1 1) (q := .slice (some ⟨w2.heap.size + 1, 0, none⟩) 1 1) hb3 (Nat.le_refl _) (bU.out.trans t1))
       have H3 := aa (⟨t2, t3⟩ : _ ∧ _)
       have hres : bF names l = ⟨[-1], [gs names 0]⟩ := by unfold bF qa; rw [if_pos HX.out, if_pos n1]
       have vP := aa hres
       have hq := t1.cell hc0
       have hq' := (Up.alloc w2 (.cells #[.int .i64 (-1)] 3)).cell hc0
       obtain ⟨q0, q1, q2, q3⟩ := boxed hb3
       have n1' : (0 : Int) < (names.length : Int) := by omega
       clear n1 t1 t2 t3 hb3 hres
       go_wp2_with fail
       obtain ⟨s1, s2, s3, s4⟩ := HST.out
       have hsz := lK.out
       refine ⟨rfl, .tuple #[.agg #[.slice (some ⟨w2.heap.size, 0, none⟩) 1 1, .slice (some ⟨w2.heap.size + 1, 0, none⟩) 1 1], .int .i64 0], by simp [results, Tryz.results22, go_sem, s2, s3], s1, _, by rw [HX.out], ?_⟩
       rw [vP.out]
       exact ⟨_, _, rfl, De ((World.cell?_of_block (a := ⟨w2.heap.size, 0, none⟩) (s4 w2.heap.size (Nat.ne_of_gt hsz))).trans H3.out.1), Lh ((World.cell?_of_block (a := ⟨w2.heap.size + 1, 0, none⟩) (s4 (w2.heap.size + 1) (by omega))).trans H3.out.2)⟩
      have d3 : ((names.length : Int) == 1) = false := by simp; omega
      have bR := Up.alloc w2 (.cells #[.slice none 0 0, .slice none 0 0] 39)
      have qh : GS w2.heap.size (w2.heap.size + 1) (w2.alloc (.cells #[.slice none 0 0, .slice none 0 0] 39)) (.slice none 0 0) (.slice none 0 0) ⟨[], []⟩ :=
       ⟨kA, ⟨ah.nil _ _ _, ah.nil _ _ _, fun b hb => (by cases hb)⟩, by omega, by rw [World.size_alloc]; exact Nat.le_refl _⟩
      have cR := aa bR
      have jo := aa qh
      clear bR qh q0 q1 q2 q3
      go_wp2_with fail
      generalize w2.alloc (.cells #[.slice none 0 0, .slice none 0 0] 39) = w3 at *
      refine (yZ w2.heap.size (w2.heap.size + 1) ⟨[], []⟩ (-1) ByteArray.empty w3 _ _ jo.out rfl (by decide)).mono ?_
      rintro e w4 ⟨rfl, P4, N4, hG4, hK4⟩
      have dL : Up w2 w4 := hK4.Lc jo.out cR.out (Nat.le_refl _)
      have Ko := dL.cell hc0
      have A7 := aa hG4
      have fB := aa dL
      clear hG4 hK4 dL jo cR hc0
      go_wp2_with fail
      refine (yZ w2.heap.size (w2.heap.size + 1) _ 0 (gs names 0) w4 _ _ A7.out rfl (by decide)).mono ?_
      rintro e w5 ⟨rfl, P5, N5, hG5, hK5⟩
      have fh : Up w2 w5 := hK5.Lc A7.out fB.out (Nat.le_refl _)
      have Lj := aa hG5
      have gH := aa fh
      clear hG5 hK5 A7 fB Ko
      by_cases n2 : names.length = 2
      ·have d4 : ((names.length : Int) == 2) = true := by simp [n2]
       have Tj := aa n2
       obtain ⟨nb1, no1, e1, hc1⟩ := cC sV.out (show 1 < names.length by omega)
       injection e1 with e1; injection e1 with e1 e2; subst e1; subst e2
       have hc5 := fh.cell hc1
       have n2' : (1 : Int) < (names.length : Int) := by omega
       clear hc1 fh n2
       go_wp2_with fail
       refine (yZ w2.heap.size (w2.heap.size + 1) _ 0 (gs names 1) w5 _ _ Lj.out rfl (show 2 + 1 ≤ 1000000 by decide)).mono ?_
       rintro e w6 ⟨he, P6, N6, tD, Qn⟩
       have he : e = .returned (.int .i64 2) := he
       subst he
       have gp : Up w2 w6 := Qn.Lc Lj.out gH.out (Nat.le_refl _)
       obtain ⟨tc0, tc1, _, _⟩ := tD.cells
       have tD : GS w2.heap.size (w2.heap.size + 1) w6 P6 N6 ⟨[-1, 0, 0], [ByteArray.empty, gs names 0, gs names 1]⟩ := tD
       have Qo : aG (fun b => w2.heap.size + 1 ≤ b) w6 (.agg #[P6, N6]) ⟨[-1, 0, 0], [ByteArray.empty, gs names 0, gs names 1]⟩ := ⟨P6, N6, rfl, tD.tl.bg.ints, tD.tl.bA.strs⟩
       have jd := aa (xB _ w6 _ _ Qo (show 3 ≤ 1000000 by decide) (show 3 ≤ 1000000 by decide) (fun k => Ul.gs (Q := fun s => s.size ≤ 70000) (by
        intro s hs
        rcases List.mem_cons.1 hs with rfl | hs
        ·decide
        rcases List.mem_cons.1 hs with rfl | hs
        ·exact HZ.out 0
        rcases List.mem_cons.1 hs with rfl | hs
        ·exact HZ.out 1
        ·cases hs) (by decide) k))
       have vw := (Below.block gp w.heap.size lK.out).trans oF.out
       have CV := aa vw
       have lD := aa gp
       have IM : Hid (w.heap.size < w6.heap.size) := Nat.lt_of_lt_of_le lK.out gp.size
       have zv : Hid (aB ⟨[-1, 0, 0], [ByteArray.empty, gs names 0, gs names 1]⟩ = 0) := ((Au fI.out Tj.out).MP AG).te
       have vP : Hid (bF names l = gM ⟨[-1, 0, 0], [ByteArray.empty, gs names 0, gs names 1]⟩) := by unfold Hid bF qa; rw [if_pos HX.out, if_neg (by have := Tj.out; omega), if_pos Tj.out]
       clear gp tD Qn Qo vw Lj gH hc5 n2'
       go_wp2_with fail
       refine jd.out.mono ?_
       rintro e w8 ⟨jY, ⟨hte, rfl⟩ | ⟨hte, cv, rfl, P8, N8, rfl, yy, lT⟩⟩
       ·exact absurd zv.out hte
       obtain ⟨p8, c8, rfl, _, _⟩ := av.open yy
       obtain ⟨n8, d8, rfl, _, _⟩ := av.open lT
       have AH := (Below.block jY w.heap.size IM.out).trans CV.out
       obtain ⟨q0, q1, q2, q3⟩ := boxed AH
       have fe := aa (IG IM.out AH ((bU.out.trans lD.out).trans jY) yy lT HX.out vP.out)
       clear AH jY hte yy lT
       go_wp2_with fail
       obtain ⟨s2, s3, hp⟩ := fe.out
       exact ⟨rfl, .tuple #[.agg #[.slice p8 _ c8, .slice n8 _ d8], .int .i64 0], by simp [results, Tryz.results22, go_sem, s2, s3], hp⟩
      ·have d4 : ((names.length : Int) == 2) = false := by simp; omega
       have U9 : Hid (3 ≤ names.length) := by unfold Hid; omega
       clear n1 n2
       go_wp2_with fail
       refine (yZ w2.heap.size (w2.heap.size + 1) _ 0 ByteArray.empty w5 _ _ Lj.out rfl (show 2 + 1 ≤ 1000000 by decide)).mono ?_
       rintro e w6 ⟨he, P6, N6, tD, Qn⟩
       have he : e = .returned (.int .i64 2) := he
       subst he
       have gp : Up w2 w6 := Qn.Lc Lj.out gH.out (Nat.le_refl _)
       have Ll : Hid (GS w2.heap.size (w2.heap.size + 1) w6 P6 N6 (bQ names (aD l) 0 0)) := tD
       have lD := aa gp
       have Cr := aa (Up.alloc w6 (.cells #[.int .i64 2] 3))
       have lW := aa (Iy (fun b => b < w.heap.size) (w6.alloc (.cells #[.int .i64 2] 3)) _ l (aJ.keep jr.out ((gp.trans Cr.out).kept _)) oo)
       have KE := aa (blk_alloc_new w6 (.cells #[.int .i64 2] 3))
       have Lm : Hid ((w6.alloc (.cells #[.int .i64 2] 3)).heap.size = w6.heap.size + 1) := World.size_alloc _ _
       clear tD Qn gp fh Lj gH
       go_wp2_with fail
       generalize w6.alloc (.cells #[.int .i64 2] 3) = w7 at *
       refine lW.out.mono ?_
       rintro e w8 ⟨jY, ov, vals, rfl, hvl, pR, hrow⟩
       have jY : Up w7 w8 := jY
       obtain ⟨oq, oc, rfl, _⟩ := pR.form (n := l.length) hvl
       have Cj := Up.alloc w8 (.cells #[.slice oq l.length oc] 23)
       have l8 := jY.size
       have HL78 : Hid (w7.heap.size ≤ w8.heap.size) := jY.size
       have ZH := Lm.out
       have lg6 := Ll.out.lo
       have lsz2 := lK.out
       have ZI := pR.alloc (.cells #[.slice oq l.length oc] 23)
       obtain ⟨ps, Va, Vb, hI9⟩ := ZF (k := w.heap.size) ZI hvl (fun i hi => af.keep (hrow i hi) (Cj.kept _)) (by omega)
       have hpl : ps.length = l.length := by rw [← Vb, List.length_map]
       have hrl : ∀ p ∈ ps, p.1.length ≤ 1000000 := fun p hp => by
        have h1 : p.1 ∈ l := by rw [← Vb]; exact List.mem_map_of_mem hp
        obtain ⟨k, hk, e⟩ := th h1
        rw [← e]; exact HR.out k
       have wB := Cc (cf := gw) Es (fun h => mX h) tj (fun h k => B7 h k) 94 #[] (enters_of Tryz.func94 (by kernel_rfl) rfl) Va (by omega) (fun p hp q hq W' ki => by
        have hk : ∀ s ∈ ps, af Any W' s.2 s.1 := fun s hs => (av.keep (Va.row s hs) fun b hb hbl => ki.block b hbl fun e => hb e.symm).sub fun _ _ _ => trivial
        exact Zx Any Any W' p.2 q.2 p.1 q.1 (hk p hp) (hk q hq) (hrl p hp) (hrl q hq))
       have kB := aa wB
       have ZJ := aa (blk_alloc_new w8 (.cells #[.slice oq l.length oc] 23))
       have M5 := aa ((Cr.out.trans jY).trans Cj)
       have Tk := aa ((Below.block (jY.trans Cj) w6.heap.size (by omega)).trans KE.out)
       have Vc := aa Va
       have HM9 := aa Vb
       have HI9 := aa hI9
       have nX := aa hrl
       have dD := aa hpl
       have EC := aa pR
       have HS9 : Hid ((w8.alloc (.cells #[.slice oq l.length oc] 23)).heap.size = w8.heap.size + 1) := World.size_alloc _ _
       clear wB jY Cj pR hvl hrow ZI Va Vb hI9 hrl hpl lW Cr KE l8 ZH lg6 lsz2
       go_wp2_with fail
       generalize w8.alloc (.cells #[.slice oq l.length oc] 23) = w9 at *
       refine kB.out.mono ?_
       rintro e ox ⟨rfl, sk, yf, tT, Ik, Tl, IP⟩
       have IQ : ∀ g, (Value.slice oq l.length oc).ownBlock = some g → w7.heap.size ≤ g ∧ g < w8.heap.size := fun g hg => ax EC.out hg
       have M7 : ox.heap[w8.heap.size]? = some (Obj.cells #[.slice oq l.length oc] 23 (0, 0)) := (sk.block _ (by have := HS9.out; omega) fun e => by have := IQ _ e.symm; omega).trans ZJ.out
       have xA : ox.cell? ⟨w8.heap.size, 0, none⟩ = some (.slice oq l.length oc) := by simp [World.cell?, M7]
       have ZK := Lm.out
       have ZL : Up w6 ox := Below.grown M5.out sk M5.out.size fun k hk => by have := IQ k hk; omega
       have y5 := (sk.block w6.heap.size (by have := M5.out.size; have := HS9.out; have := (Array.getElem?_eq_some_iff.1 Tk.out).1; omega) fun e => by have := IQ _ e.symm; omega).trans Tk.out
       have MU : yf.length = l.length := by have := tT.length_eq; rw [List.length_map, List.length_map, dD.out] at this; exact this
       have Kr : yf.map (·.1) = vD l := MJ (by rw [HM9.out] at tT; exact tT) Ik
       have ZM : ∀ p ∈ yf, af (fun b => b < w.heap.size) ox p.2 p.1 := fun p hp => af.keep (HI9.out p (IP p hp)) fun b hb hbl => sk.block b hbl fun e => by
        have := IQ _ e.symm; have := lK.out; have := Ll.out.lo; omega
       have si := aa (wK Tl (by omega) (fun p hp => nX.out p (IP p hp)))
       have M8 := aa M7
       have oL := aa ZL
       have M9 := aa y5
       have HSQ := aa Kr
       have ZN := aa ZM
       have yg := aa Tl
       have HL10 := aa MU
       clear sk tT Ik Tl IP IQ M7 ZL y5 MU Kr ZM ZK kB ZJ M5 Tk Vc HM9 HI9
       go_wp2_with fail
       refine si.out.mono ?_
       rintro e cr ⟨tV, v11, Il, rfl, tW, Na, Qp⟩
       rw [HSQ.out] at tW
       have tW : Il.map (·.1) = aD l := tW
       have Qq : (Il.map (·.2)).length = (aD l).length := by rw [← tW]; simp
       obtain ⟨Lp, c11, rfl, _⟩ := Na.own.form Qq
       have ZK := Lm.out
       have IU : ∀ g, (Value.slice oq l.length oc).ownBlock = some g → w7.heap.size ≤ g ∧ g < w8.heap.size := fun g hg => ax EC.out hg
       have ZO : Up w6 cr := Below.grown oL.out tV oL.out.size fun k hk => by have := IU k hk; omega
       have Nb : cr.heap[w8.heap.size]? = some (Obj.cells #[.slice oq l.length oc] 23 (0, 0)) := (tV.block _ (Array.getElem?_eq_some_iff.1 M8.out).1 fun e => by have := IU _ e.symm; omega).trans M8.out
       have Vd := (tV.block w6.heap.size (Array.getElem?_eq_some_iff.1 M9.out).1 fun e => by have := IU _ e.symm; omega).trans M9.out
       have ZP : ∀ p ∈ Il, af (fun b => b < w2.heap.size) cr p.2 p.1 := fun p hp => (af.keep (ZN.out p (Qp p hp)) fun b hb hbl => tV.block b hbl fun e => by
        have := IU _ e.symm; have := lK.out; have := Ll.out.lo; omega).sub fun b hb _ => Nat.lt_trans hb lK.out
       have Ve : (Value.slice Lp (aD l).length c11).ownBlock ≠ some w8.heap.size := fun e => by
        obtain ⟨c, h⟩ := ah.iP Na.own e
        rw [Nb] at h
        injection h with h; injection h with _ h _
        exact absurd h (by decide)
       have ZH := HL78.out
       obtain ⟨hst, Vf, AJ⟩ := AX.start Ll.out rfl (by omega) (by omega) ZO Vd Nb Na tW ZP Ve
       obtain ⟨b1, b2⟩ := hst
       have Vf := aa Vf
       have HG13 := aa (Ll.out.up AJ)
       have Tm := aa (lD.out.trans AJ)
       obtain ⟨_, b4, _, _⟩ := Vf.out.cells
       clear tV tW Na Qp Qq ZK IU ZO Nb Vd ZP Ve ZH AJ si xA M8 oL M9 HSQ ZN yg Ll lD
       have uV : Hid (∀ k, k < (aD l).length → vA names.length (gl (aD l) k)) := fun k hk => fI.out.own hk
       have Em : Hid ((aD l).length ≤ 64) := Nat.le_trans (SF l) yq
       have oa : Hid (3 + (aD l).length + (names.length - 1) ≤ 64) := yl fI.out U9.out
       have BV : Hid (aB (bT names (aD l)) = 0) := ((vG fI.out U9.out oa.out).MP AG).te
       have vP : Hid (bF names l = gM (bT names (aD l))) := by unfold Hid bF qa; rw [if_pos HX.out, if_neg (by have := U9.out; omega), if_neg (by have := U9.out; omega)]
       have ZQ : Hid (∀ k, (gs (bT names (aD l)).ns k).size ≤ 70000) := fun k => Ul.gs (Q := fun s => s.size ≤ 70000) (by
        intro s hs
        rcases List.mem_append.1 hs with hs | hs
        ·rcases List.mem_cons.1 hs with rfl | hs
         ·decide
         rcases List.mem_cons.1 hs with rfl | hs
         ·exact HZ.out 0
         rcases List.mem_cons.1 hs with rfl | hs
         ·decide
         ·cases hs
        ·rcases List.mem_append.1 hs with hs | hs
         ·rw [List.eq_of_mem_replicate hs]; decide
         ·obtain ⟨b, _, rfl⟩ := List.mem_map.1 hs
          exact HZ.out (b + 1)) (by decide) k
       have jS : Hid (∀ j m, (bQ names (aD l) j m).ps.length = 3 + j + m ∧ (bQ names (aD l) j m).ns.length = 3 + j + m) := Zz names (aD l)
       have HBO : Hid (∀ j, (bQ names (aD l) j 0).push (lastQ (aD l) (gi (gl (aD l) j) 0) j) ByteArray.empty = bQ names (aD l) (j + 1) 0) := Zy names (aD l)
       have yz : Hid (∀ m, (bQ names (aD l) (aD l).length m).push (lastQ (aD l) ((m + 1 : Nat) : Int) (aD l).length) (gs names (m + 1)) = bQ names (aD l) (aD l).length (m + 1)) := V9 names (aD l) _
       have ZR : Hid (bQ names (aD l) (aD l).length (names.length - 1) = bT names (aD l)) := rfl
       go_wp2_with fail
       generalize (cr.setCell ⟨w8.heap.size, 0, none⟩ (Value.slice Lp (aD l).length c11)).alloc (.cells #[.slice none 0 0] 26) = yA at *
       generalize aD l = own at *
       clear b1 b2 b4
       go_loopw [22, 23, 124] (fun _ _ i wr => ∃ (k : Nat) (P N nv : Value), k ≤ own.length ∧ i = .int .i64 k ∧ Hid (GS w2.heap.size (w2.heap.size + 1) wr P N (bQ names own k 0)) ∧ Hid (AX w2.heap.size w6.heap.size w8.heap.size cr.heap.size wr P N (.slice Lp own.length c11) nv own ((List.range k).map fun j => ((3 + j : Nat) : Int))) ∧ Hid (Up w2 wr)) (fun _ _ i _ => own.length - (intOf i).toNat)
       case atStart => exact ⟨0, _, _, _, Nat.zero_le _, rfl, HG13.out, Vf.out, Tm.out⟩
       case round =>
        obtain ⟨k, P, N, nv, hk, rfl, hG, hA, hU⟩ := hrel
        obtain ⟨wo, rfl⟩ : ∃ wo : World, wo = wr := ⟨_, rfl⟩
        by_cases hlt : k < own.length
        ·obtain ⟨b, off, q, c, rfl, hc, hi⟩ := dX hA.out.rows hlt
         have hsp := (uV.out k hlt).len
         obtain ⟨q', c', e, hn', h0 | ⟨b2, off2, rfl, hT, hcs⟩⟩ := hi
         ·omega
         injection e with e1 _ _
         subst e1
         have hc2 : wo.cell? ⟨b2, off2, none⟩ = some (.int .i64 (gi (gl own k) 0)) := hcs 0 (by omega)
         have HT := aa hT
         have lC := aa hc2
         have l2 : (0 : Int) < ((gl own k).length : Int) := by omega
         have l3 : 0 < (gl own k).length := by omega
         have i1 : (0 : Int) ≤ (k : Int) := by omega
         have i2 : (k : Int) < (own.length : Int) := by omega
         obtain ⟨_, _, hnv, _⟩ := hA.out.cells
         have jU : Hid (∀ W P' N', GK w2.heap.size wo W P N P' N' → W.cell? ⟨cr.heap.size, 0, none⟩ = some nv ∧ W.cell? ⟨b2, off2, none⟩ = some (.int .i64 (gi (gl own k) 0))) := fun W P' N' hK =>
          ⟨((hA.out.gk hK).cells).2.2.1, (World.cell?_of_block (a := ⟨b2, off2, none⟩) (hK.block b2 (World.block_lt_of_cell? wo _ lC.out) HT.out.1 HT.out.2.2.1 HT.out.2.2.2.1)).trans lC.out⟩
         have Cs := hA.out.up (eN wo)
         obtain ⟨y1, y2, y3, _⟩ := Cs.cells
         have nu := aa (EG Any wo.drew w8.heap.size cr.heap.size w6.heap.size _ nv own ((List.range k).map fun j => ((3 + j : Nat) : Int)) (gi (gl own k) 0) k y2 (Cs.rows.sub fun _ _ _ => trivial) y3 (Cs.js.ints.sub fun _ _ _ => trivial) y1 hk (by simp) (fun j hj => by simp [gi, hj]) (by have := Em.out; omega) (fun j => by
          by_cases hj : j < own.length
          ·have := (uV.out j hj).len; have := AG; omega
          ·simp [gl, show own.length ≤ j by omega]))
         have HAD := aa (yZ w2.heap.size (w2.heap.size + 1) (bQ names own k 0) (lastQ own (gi (gl own k) 0) k) ByteArray.empty wo.drew P N (hG.out.up (eN wo)) (by rw [(jS.out k 0).1, (jS.out k 0).2]) (by rw [(jS.out k 0).1]; have := Em.out; omega))
         rw [HBO.out, (jS.out k 0).1, Nat.add_zero] at HAD
         have aM := aa hlt
         have zy := aa hG.out
         have Qr := aa hA.out
         have um := aa hU.out
         have kn : Hid (k ≤ 64) := by have := Em.out; unfold Hid; omega
         clear hsp hn' hT hcs hc2 Cs y1 y2 y3 hG hA hU hk hlt
         generalize gi (gl own k) 0 = x at *
         generalize lastQ own x k = z at *
         go_wp2_with fail
         refine dK (by kernel_rfl) 11 (fun w' => w'.cell? ⟨cr.heap.size, 0, none⟩ = some nv ∧ w'.cell? ⟨b2, off2, none⟩ = some (.int .i64 x)) (jU.out _ _ _ (GK.yI (eN wo))) (fun hS => ?_)
         simp only [List.size_toArray, List.length_cons, List.length_nil, Nat.reduceAdd, Array.replicate_succ, Array.replicate_zero, List.push_toArray, List.nil_append, List.cons_append]
         refine ag.take (i := 0) (v := ?yL) rfl (by kernel_rfl) (fun _ _ _ h => h) (by rfl) (fun w hSw => ?kY) hS ?yM
         case kY =>
          (try dsimp only at hSw)
          go_simp
          try with_reducible rfl
         try simp only [Act.put, aj, aq, au]
         refine ag.take (i := 1) (v := ?yN) rfl (by kernel_rfl) (fun _ _ _ h => h) (by rfl) (fun w hSw => ?kZ) hS ?yO
         case kZ =>
          (try dsimp only at hSw)
          go_simp
          try with_reducible rfl
         try simp only [Act.put, aj, aq, au]
         refine ag.take (i := 2) (v := ?Bv) rfl (by kernel_rfl) (fun _ _ _ h => h) (by rfl) (fun w hSw => ?nI) hS ?Bw
         case nI =>
          (try dsimp only at hSw)
          go_simp
          try with_reducible rfl
         try simp only [Act.put, aj, aq, au]
         refine ag.take (i := 3) (v := ?Bz) rfl (by kernel_rfl) (fun _ _ _ h => h) (by rfl) (fun w hSw => ?nJ) hS ?BA
         case nJ =>
          (try dsimp only at hSw)
          go_simp
          try with_reducible rfl
         try simp only [Act.put, aj, aq, au]
         refine ag.take (i := 4) (v := ?BB) rfl (by kernel_rfl) (fun _ _ _ h => h) (by rfl) (fun w hSw => ?nK) hS ?BC
         case nK =>
          (try dsimp only at hSw)
          go_simp
          try with_reducible rfl
         try simp only [Act.put, aj, aq, au]
         refine ag.take (i := 5) (v := ?BD) rfl (by kernel_rfl) (fun _ _ _ h => h) (by rfl) (fun w hSw => ?nM) hS ?BF
         case nM =>
          (try dsimp only at hSw)
          go_simp
          try with_reducible rfl
         try simp only [Act.put, aj, aq, au]
         refine ag.take (i := 6) (v := ?Fb) rfl (by kernel_rfl) (fun _ _ _ h => h) (by rfl) (fun w hSw => ?qx) hS ?Fc
         case qx =>
          (try dsimp only at hSw)
          go_simp
          try with_reducible rfl
         try simp only [Act.put, aj, aq, au]
         refine ag.step (i := 7) rfl (by kernel_rfl) (fun K' hK => ?_)
         go_simp
         refine nu.out.mono ?_
         rintro e w3' ⟨rfl, rfl⟩
         refine hK.out _ _ (fun _ => hS) (fun hS => ?_)
         replace hS := hS ⟨10, by decide, rfl⟩
         try simp only [aj, aq, au]
         refine ag.step (i := 8) rfl (by kernel_rfl) (fun K' hK => ?_)
         go_simp
         refine HAD.out.mono ?_
         rintro e EI ⟨rfl, ZT, ZU, IV, IW⟩
         have EJ : GK w2.heap.size wo EI P N ZT ZU := (GK.yI (eN wo)).trans IW
         have Tn := aa (Qr.out.gk EJ)
         have mF := aa (EJ.Lc zy.out um.out (Nat.le_refl _))
         have Tp := aa IV
         have ZV := aa EJ
         clear IV IW EJ
         refine hK.out _ _ (fun _ => jU.out _ _ _ ZV.out) (fun hS => ?_)
         replace hS := hS ⟨10, by decide, rfl⟩
         try simp only [aj, aq, au]
         refine ag.step (i := 9) rfl (by kernel_rfl) (fun K' hK => ?_)
         go_simp
         have vQ := Up.alloc EI (.cells #[.int .i64 ((3 + k : Nat) : Int)] 3)
         have Tq := aa (Tn.out.up vQ)
         have HG15 := aa (Tp.out.up vQ)
         have tZ := aa (mF.out.trans vQ)
         have HK15 := aa (ZV.out.up vQ)
         clear vQ
         refine hK.out _ _ (fun _ => jU.out _ _ _ HK15.out) (fun hS => ?_)
         replace hS := hS ⟨10, by decide, rfl⟩
         try simp only [aj, aq, au]
         refine ag.step (i := 10) rfl (by kernel_rfl) (fun K' hK => ?_)
         refine cT (by rfl) _ _ _ (by rfl) (cr.heap.size + 1) 3 _ 8 Tryz.underlying26 Tryz.fU (by rfl) (by decide) (by rfl) Tq.out.js (.int .i64 ((3 + k : Nat) : Int)) EI.heap.size (by rfl) (gG _ _ _) (by rfl) (by simp; have := kn.out; omega) Tq.out.lt.2.2.2 ?_
         intro g16 c16 w16 ZW ZX ZY _
         obtain ⟨⟨y1, y2⟩, Tr, Ts, Tt⟩ := Tq.out.app HG15.out ZW ZX (fun b hb => by
          have hb : some g16 = some b := hb
          injection hb with hb
          rcases ZY with h | h
          ·exact .inl (hb ▸ h)
          ·exact .inr (Nat.le_of_eq (h.symm.trans hb)))
         simp only [List.length_map, List.length_range] at Tr Ts Tt
         have HA17 := aa Tr
         have HG17 := aa Ts
         have HU17 := aa (Tt w2 tZ.out (Nat.le_refl _))
         clear ZW ZX ZY Tr Ts Tt
         refine hK.out _ _ (aP (by kernel_rfl)) (fun _ => ?_)
         try simp only [Act.put, aj, aq, au]
         refine ag.step (i := 11) rfl (by kernel_rfl) (fun K' hK => ?_)
         go_simp
         refine hK.out _ _ (aP (by kernel_rfl)) (fun _ => ?_)
         refine ag.done (by kernel_rfl) ?_
         have k64 := kn.out
         have hltk := aM.out
         go_wp2_with fail
         go_roundw
         case rel => exact ⟨k + 1, _, _, _, Nat.succ_le_of_lt aM.out, by go_num, HG17, (by have h := HA17.out; rw [show (List.range (k + 1)).map (fun j => ((3 + j : Nat) : Int)) = (List.range k).map (fun j => ((3 + j : Nat) : Int)) ++ [((3 + k : Nat) : Int)] by rw [List.range_succ, List.map_append]; rfl]; exact aa h), HU17⟩
         case measure => have := aM.out; simp [intOf]; omega
        ·obtain rfl : k = own.length := by omega
         have zy := aa hG.out
         have Qr := aa hA.out
         have um := aa hU.out
         clear hG hA hU hlt hk
         go_wp2_with fail
         go_loopw [24] (fun i wr => ∃ (q m : Nat) (P N : Value), q ≤ names.length ∧ q = m + 1 ∧ i = .int .i64 (q : Int) ∧ Hid (GS w2.heap.size (w2.heap.size + 1) wr P N (bQ names own own.length m)) ∧ Hid (AX w2.heap.size w6.heap.size w8.heap.size cr.heap.size wr P N (.slice Lp own.length c11) nv own ((List.range own.length).map fun j => ((3 + j : Nat) : Int))) ∧ Hid (Up w2 wr)) (fun i _ => names.length - (intOf i).toNat)
         case atStart => exact ⟨1, 0, P, N, U8, rfl, rfl, zy.out, Qr.out, um.out⟩
         case round =>
          obtain ⟨q, m, P', N', hq, Vg, rfl, hG, hA, hU⟩ := hrel
          obtain ⟨wo, rfl⟩ : ∃ wo : World, wo = wr := ⟨_, rfl⟩
          by_cases hlt : q < names.length
          ·obtain ⟨nb', no', e1, hc1⟩ := cC sV.out hlt
           injection e1 with e1; injection e1 with e1 e2; subst e1; subst e2
           have hc1 := hU.out.cell hc1
           have Cs := hA.out.up (eN wo)
           obtain ⟨y1, y2, y3, _⟩ := Cs.cells
           have i1 : (0 : Int) ≤ (q : Int) := by omega
           have i2 : (q : Int) < (names.length : Int) := by omega
           have jU : Hid (wo.drew.cell? ⟨w8.heap.size, 0, none⟩ = some (.slice Lp own.length c11) ∧ wo.drew.cell? ⟨IJ, no + q, none⟩ = some (.string (gs names q))) := ⟨y2, (eN wo).cell hc1⟩
           have nu := aa (EG Any wo.drew w8.heap.size cr.heap.size w6.heap.size _ nv own ((List.range own.length).map fun j => ((3 + j : Nat) : Int)) (q : Int) own.length y2 (Cs.rows.sub fun _ _ _ => trivial) y3 (Cs.js.ints.sub fun _ _ _ => trivial) y1 (Nat.le_refl _) (by simp) (fun j hj => by simp [gi, hj]) (by have := Em.out; omega) (fun j => by
            by_cases hj : j < own.length
            ·have := (uV.out j hj).len; have := AG; omega
            ·simp [gl, show own.length ≤ j by omega]))
           have HAD := aa (yZ w2.heap.size (w2.heap.size + 1) (bQ names own own.length m) (lastQ own (q : Int) own.length) (gs names q) wo.drew P' N' (hG.out.up (eN wo)) (by rw [(jS.out own.length m).1, (jS.out own.length m).2]) (by rw [(jS.out own.length m).1]; have := Em.out; omega))
           rw [show (bQ names own own.length m).push (lastQ own (q : Int) own.length) (gs names q) = bQ names own own.length (m + 1) by rw [Vg]; exact yz.out m] at HAD
           have aM := aa hlt
           have HQM := aa Vg
           have zy := aa hG.out
           have Qr := aa hA.out
           have um := aa hU.out
           clear hc1 Cs y1 y2 y3 hG hA hU hlt Vg hq
           generalize lastQ own (q : Int) own.length = z at *
           generalize gs names q = nm at *
           go_wp2_with fail
           refine dK (by kernel_rfl) 11 (fun w' => w'.cell? ⟨w8.heap.size, 0, none⟩ = some (.slice Lp own.length c11) ∧ w'.cell? ⟨IJ, no + q, none⟩ = some (.string nm)) jU.out (fun hS => ?_)
           simp only [List.size_toArray, List.length_cons, List.length_nil, Nat.reduceAdd, Array.replicate_succ, Array.replicate_zero, List.push_toArray, List.nil_append, List.cons_append]
           refine ag.take (i := 0) (v := ?gv0k2) rfl (by kernel_rfl) (fun _ _ _ h => h) (by rfl) (fun w hSw => ?Mv) hS ?gr0k2
           case Mv =>
            (try dsimp only at hSw)
            go_simp
            try with_reducible rfl
           try simp only [Act.put, aj, aq, au]
           refine ag.take (i := 1) (v := ?gv1k2) rfl (by kernel_rfl) (fun _ _ _ h => h) (by rfl) (fun w hSw => ?Mw) hS ?gr1k2
           case Mw =>
            (try dsimp only at hSw)
            go_simp
            try with_reducible rfl
           try simp only [Act.put, aj, aq, au]
           refine ag.take (i := 2) (v := ?gv2k2) rfl (by kernel_rfl) (fun _ _ _ h => h) (by rfl) (fun w hSw => ?Mx) hS ?gr2k2
           case Mx =>
            (try dsimp only at hSw)
            go_simp
            try with_reducible rfl
           try simp only [Act.put, aj, aq, au]
           refine ag.take (i := 3) (v := ?gv3k2) rfl (by kernel_rfl) (fun _ _ _ h => h) (by rfl) (fun w hSw => ?My) hS ?gr3k2
           case My =>
            (try dsimp only at hSw)
            go_simp
            try with_reducible rfl
           try simp only [Act.put, aj, aq, au]
           refine ag.take (i := 4) (v := ?gv4k2) rfl (by kernel_rfl) (fun _ _ _ h => h) (by rfl) (fun w hSw => ?Mz) hS ?gr4k2
           case Mz =>
            (try dsimp only at hSw)
            go_simp
            try with_reducible rfl
           try simp only [Act.put, aj, aq, au]
           refine ag.take (i := 6) (v := ?gv6k2) rfl (by kernel_rfl) (fun _ _ _ h => h) (by rfl) (fun w hSw => ?MA) hS ?gr6k2
           case MA =>
            (try dsimp only at hSw)
            go_simp
            try with_reducible rfl
           try simp only [Act.put, aj, aq, au]
           refine ag.take (i := 7) (v := ?gv7k2) rfl (by kernel_rfl) (fun _ _ _ h => h) (by rfl) (fun w hSw => ?gy7k2) hS ?gr7k2
           case gy7k2 =>
            (try dsimp only at hSw)
            go_simp
            try with_reducible rfl
           try simp only [Act.put, aj, aq, au]
           refine ag.take (i := 8) (v := ?Ur) rfl (by kernel_rfl) (fun _ _ _ h => h) (by rfl) (fun w hSw => ?BJ) hS ?Us
           case BJ =>
            (try dsimp only at hSw)
            go_simp
            try with_reducible rfl
           try simp only [Act.put, aj, aq, au]
           refine ag.take (i := 9) (v := ?gv9k2) rfl (by kernel_rfl) (fun _ _ _ h => h) (by rfl) (fun w hSw => ?Ml) hS ?gr9k2
           case Ml =>
            (try dsimp only at hSw)
            go_simp
            try with_reducible rfl
           try simp only [Act.put, aj, aq, au]
           refine ag.step (i := 5) rfl (by kernel_rfl) (fun K' hK => ?_)
           go_simp
           refine nu.out.mono ?_
           rintro e w3' ⟨rfl, rfl⟩
           refine hK.out _ _ (fun _ => hS) (fun hS => ?_)
           replace hS := hS ⟨10, by decide, rfl⟩
           try simp only [aj, aq, au]
           refine ag.step (i := 10) rfl (by kernel_rfl) (fun K' hK => ?_)
           go_simp
           refine HAD.out.mono ?_
           rintro e EI ⟨rfl, ZT, ZU, IV, IW⟩
           have EJ : GK w2.heap.size wo EI P' N' ZT ZU := (GK.yI (eN wo)).trans IW
           have Tn := aa (Qr.out.gk EJ)
           have mF := aa (EJ.Lc zy.out um.out (Nat.le_refl _))
           have Tp := aa IV
           clear IV IW EJ
           refine hK.out _ _ (aP (by kernel_rfl)) (fun _ => ?_)
           refine ag.done (by kernel_rfl) ?_
           go_wp2_with fail
           go_roundw
           case rel => exact ⟨q + 1, m + 1, _, _, aM.out, by have := HQM.out; omega, by go_num, Tp, Tn, mF⟩
           case measure => have := aM.out; simp [intOf]; omega
          ·obtain rfl : q = names.length := by omega
           have e1 : m = names.length - 1 := by omega
           have tD : GS w2.heap.size (w2.heap.size + 1) wo P' N' (bT names own) := by have h := hG.out; rw [e1, ZR.out] at h; exact h
           obtain ⟨tc0, tc1, _, _⟩ := tD.cells
           have Qo : aG (fun b => w2.heap.size + 1 ≤ b) wo (.agg #[P', N']) (bT names own) := ⟨P', N', rfl, tD.tl.bg.ints, tD.tl.bA.strs⟩
           have jd := aa (xB _ wo _ _ Qo (by rw [← ZR.out, (jS.out _ _).1]; have := oa.out; omega) (by rw [← ZR.out, (jS.out _ _).2]; have := oa.out; omega) ZQ.out)
           have vw := (Below.block hU.out w.heap.size lK.out).trans oF.out
           have CV := aa vw
           have lD := aa hU.out
           have IM : Hid (w.heap.size < wo.heap.size) := Nat.lt_of_lt_of_le lK.out hU.out.size
           clear hG hA hU tD Qo vw e1 Vg hlt
           go_wp2_with fail
           refine jd.out.mono ?_
           rintro e w18 ⟨jY, ⟨hte, rfl⟩ | ⟨hte, cv, rfl, P8, N8, rfl, yy, lT⟩⟩
           ·exact absurd BV.out hte
           obtain ⟨p8, c8, rfl, _, _⟩ := av.open yy
           obtain ⟨n8, d8, rfl, _, _⟩ := av.open lT
           have AH := (Below.block jY w.heap.size IM.out).trans CV.out
           obtain ⟨q0, q1, q2, q3⟩ := boxed AH
           have fe := aa (IG IM.out AH ((bU.out.trans lD.out).trans jY) yy lT HX.out vP.out)
           clear AH jY hte yy lT
           go_wp2_with fail
           obtain ⟨s2, s3, hp⟩ := fe.out
           exact ⟨rfl, .tuple #[.agg #[.slice p8 _ c8, .slice n8 _ d8], .int .i64 0], by simp [results, Tryz.results22, go_sem, s2, s3], hp⟩
end Go.Proofs.YtpnmblnahjjmhaaGreat
