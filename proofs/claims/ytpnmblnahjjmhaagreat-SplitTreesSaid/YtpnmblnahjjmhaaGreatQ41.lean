/- The contracts of layer 4's reference's Complement and Minus; of layer 32's reference's .. -/
import Derived.Test.YtpnmblnahjjmhaaGreatQ1
import Derived.Test.YtpnmblnahjjmhaaGreatQ39
import Derived.Test.YtpnmblnahjjmhaaGreatQ40
import Derived.Test.YtpnmblnahjjmhaaGreatQ16
import Derived.Test.YtpnmblnahjjmhaaGreatQ4
import Derived.Test.YtpnmblnahjjmhaaGreatQ37
set_option maxRecDepth 100000
namespace Go.Proofs.YtpnmblnahjjmhaaGreat
section
open Go.RowKit Go.Deep
def lG (a : List Int) (k : Nat) : List Int := ey (fun x => !a.contains x) k
theorem C5 (a : List Int) (k : Nat) : (lG a k).length ≤ k := ja _ _
theorem Ip (a : List Int) (k : Nat) : lG a (k + 1) = lG a k ++ if a.contains (k : Int) = true then [] else [(k : Int)] := by
 unfold lG
 rw [pS]
 cases a.contains (k : Int) <;> rfl
theorem PZ (N : Nat) (a : List Int) : aS (N : Int) a = lG a N := by unfold aS lG; rw [Int.toNat_natCast]
set_option maxHeartbeats 1000000 in
theorem EF (S : Nat → Prop) (w : World) (v : Value) (N : Nat) (a : List Int) (h : af S w v a) (hn : a.length ≤ 64) (hN : N ≤ 32) (ha : cz a) (hb : ∀ x ∈ a, x < (N : Int)) :
  Calls Tryz.prog 111 #[.int .i64 (N : Int), v] w fun e w' => Up w w' ∧ ∃ x, e = .returned (.tuple #[x, .int .i64 0]) ∧ ah w.heap.size 3 w' x ((aS N a).map (Value.int .i64)) := by
 have H1 := aa (yX S w v a h (by omega))
 obtain ⟨p, cap, rfl, -, -⟩ := av.open h
 have HA : Hid (af S w (.slice p a.length cap) a) := h
 have HH : Hid (∀ W (x : Int), Up w W → Calls Tryz.prog 110 #[.slice p a.length cap, .int .i64 x] W fun e w' => e = .returned (.bool (a.contains x)) ∧ W = w') := fun W x hW => uL S W _ a x (af.keep h (hW.kept _)) (by omega)
 have P9 : Hid (dN a = 0) := eX.2 ha
 have lW := aa (PZ N a)
 have HBB := aa hb
 rw [P9.out] at H1
 have k1 : decide ((N : Int) < 0) = false := decide_eq_false (by omega)
 have k2 : decide ((64 : Int) < (N : Int)) = false := decide_eq_false (by omega)
 have HN := aa hN
 have cG := aa hn
 clear h ha hb hN hn
 go_enter Tryz.func111, Tryz.ntmps111
 go_wp2_with fail
 refine H1.out.mono ?_
 rintro e w1 ⟨rfl, hq1⟩
 have dJ := aa hq1.up
 have lH := aa (af.keep HA.out (dJ.out.kept S))
 clear hq1 H1 k1 k2
 by_cases hm : a.length = 0
 ·have d0 : decide ((0 : Int) < (a.length : Int)) = false := decide_eq_false (by omega)
  have d1 : ¬ 0 < a.length := by omega
  clear hm
  go_wp2_with fail
  have HM := aa (ah.made w1 3)
  clear lH
  go_loopw [6, 7] (fun o i wr => ∃ k : Nat, k ≤ N ∧ i = .int .i64 k ∧ Hid (ah w1.heap.size 3 wr o ((lG a k).map (Value.int .i64))) ∧ Hid (Up w1 wr)) (fun _ i _ => N - (intOf i).toNat)
  case atStart => exact ⟨0, Nat.zero_le _, rfl, HM.out, Up.alloc _ _⟩
  case round =>
   obtain ⟨k, hk, rfl, hO, bL⟩ := hrel
   obtain ⟨wo, rfl⟩ : ∃ wo : World, wo = wr := ⟨_, rfl⟩
   by_cases hlt : k < N
   ·have nY := aa (Ip a k)
    have lF := aa (HH.out wo (k : Int) (dJ.out.trans bL.out))
    have i2 : (k : Int) < (N : Int) := by omega
    have i3 : (k : Int) < 1000000 := by have := HN.out; omega
    have aM := aa hlt
    have hsz := bL.out.size
    have dr : Hid (((lG a k).map (Value.int .i64)).length = (lG a k).length) := List.length_map _
    have cL : Hid ((lG a k).length ≤ 1000000) := by have h1 := C5 a k; have := HN.out; unfold Hid; omega
    have kR := aa bL.out
    cases hcc : a.contains (k : Int)
    ·rw [hcc] at lF
     have HS : Hid (lG a (k + 1) = lG a k ++ [(k : Int)]) := by unfold Hid; rw [nY.out, hcc]; simp
     clear hlt hk bL hcc nY
     go_wp2_with fail
     refine lF.out.mono ?_
     rintro e w' ⟨rfl, rfl⟩
     go_wp2_with (at_builtin; refine fW wo rfl _ _ 26 rfl w1.heap.size 3 (.int .i64 0) 8 Tryz.underlying26 Tryz.fU rfl (by decide) hO.out rfl (.int .i64 (k : Int)) _ rfl rfl rfl _ dr.out cL.out hsz ?_; intro g8 iZ w8 hown1 MV di)
     go_roundw
     case rel => exact ⟨k + 1, aM.out, by go_num, by unfold Hid; rw [HS.out, List.map_append]; exact hown1, Below.trans kR.out di⟩
     case measure => have := aM.out; simp [intOf]; omega
    ·rw [hcc] at lF
     have HS : Hid (lG a (k + 1) = lG a k) := by unfold Hid; rw [nY.out, hcc]; simp
     clear hlt hk bL hcc nY
     go_wp2_with fail
     refine lF.out.mono ?_
     rintro e w' ⟨rfl, rfl⟩
     go_wp2_with fail
     go_roundw
     case rel => exact ⟨k + 1, aM.out, by go_num, by unfold Hid; rw [HS.out]; exact hO.out, kR.out⟩
     case measure => have := aM.out; simp [intOf]; omega
   ·obtain rfl : k = N := by omega
    have gF := aa (dJ.out.trans bL.out)
    have hR := hO.out.mJ dJ.out.size
    rw [← lW.out] at hR
    have HR := aa hR
    clear hR
    have i2 : ¬ (k : Int) < (k : Int) := by omega
    clear hlt hk hO bL
    go_wp2_with fail
    exact ⟨rfl, .tuple #[_, .int .i64 0], by simp [results, Tryz.results111, go_sem], gF.out, _, rfl, HR.out⟩
 ·obtain ⟨m, hm⟩ : ∃ m, a.length = m + 1 := ⟨a.length - 1, by omega⟩
  have hc : decide ((N : Int) ≤ gi a m) = false := decide_eq_false (by have := HBB.out _ (gi_in (show m < a.length by omega)); omega)
  have hq : (a.length : Int) - 1 = (m : Int) := by omega
  obtain ⟨b, off, rfl, hcell⟩ := bw lH.out (show m < a.length by omega)
  have j1 : (0 : Int) ≤ (m : Int) := by omega
  have j2 : (m : Int) < (a.length : Int) := by omega
  have j3 : (m : Int) < 64 := by have := cG.out; omega
  have d0 : decide ((0 : Int) < (a.length : Int)) = true := decide_eq_true (by omega)
  have d1 : 0 < a.length := by omega
  have hw : wrap64 ((a.length : Int) - 1) = (m : Int) := by rw [hq]; unfold wrap64; omega
  clear hm
  go_wp2_with fail
  clear hw hq
  have HM := aa (ah.made w1 3)
  clear lH
  go_loopw [6, 7] (fun o i wr => ∃ k : Nat, k ≤ N ∧ i = .int .i64 k ∧ Hid (ah w1.heap.size 3 wr o ((lG a k).map (Value.int .i64))) ∧ Hid (Up w1 wr)) (fun _ i _ => N - (intOf i).toNat)
  case atStart => exact ⟨0, Nat.zero_le _, rfl, HM.out, Up.alloc _ _⟩
  case round =>
   obtain ⟨k, hk, rfl, hO, bL⟩ := hrel
   obtain ⟨wo, rfl⟩ : ∃ wo : World, wo = wr := ⟨_, rfl⟩
   by_cases hlt : k < N
   ·have nY := aa (Ip a k)
    have lF := aa (HH.out wo (k : Int) (dJ.out.trans bL.out))
    have i2 : (k : Int) < (N : Int) := by omega
    have i3 : (k : Int) < 1000000 := by have := HN.out; omega
    have aM := aa hlt
    have hsz := bL.out.size
    have dr : Hid (((lG a k).map (Value.int .i64)).length = (lG a k).length) := List.length_map _
    have cL : Hid ((lG a k).length ≤ 1000000) := by have h1 := C5 a k; have := HN.out; unfold Hid; omega
    have kR := aa bL.out
    cases hcc : a.contains (k : Int)
    ·rw [hcc] at lF
     have HS : Hid (lG a (k + 1) = lG a k ++ [(k : Int)]) := by unfold Hid; rw [nY.out, hcc]; simp
     clear hlt hk bL hcc nY
     go_wp2_with fail
     refine lF.out.mono ?_
     rintro e w' ⟨rfl, rfl⟩
     go_wp2_with (at_builtin; refine fW wo rfl _ _ 26 rfl w1.heap.size 3 (.int .i64 0) 8 Tryz.underlying26 Tryz.fU rfl (by decide) hO.out rfl (.int .i64 (k : Int)) _ rfl rfl rfl _ dr.out cL.out hsz ?_; intro g8 iZ w8 hown1 MV di)
     go_roundw
     case rel => exact ⟨k + 1, aM.out, by go_num, by unfold Hid; rw [HS.out, List.map_append]; exact hown1, Below.trans kR.out di⟩
     case measure => have := aM.out; simp [intOf]; omega
    ·rw [hcc] at lF
     have HS : Hid (lG a (k + 1) = lG a k) := by unfold Hid; rw [nY.out, hcc]; simp
     clear hlt hk bL hcc nY
     go_wp2_with fail
     refine lF.out.mono ?_
     rintro e w' ⟨rfl, rfl⟩
     go_wp2_with fail
     go_roundw
     case rel => exact ⟨k + 1, aM.out, by go_num, by unfold Hid; rw [HS.out]; exact hO.out, kR.out⟩
     case measure => have := aM.out; simp [intOf]; omega
   ·obtain rfl : k = N := by omega
    have gF := aa (dJ.out.trans bL.out)
    have hR := hO.out.mJ dJ.out.size
    rw [← lW.out] at hR
    have HR := aa hR
    clear hR
    have i2 : ¬ (k : Int) < (k : Int) := by omega
    clear hlt hk hO bL
    go_wp2_with fail
    exact ⟨rfl, .tuple #[_, .int .i64 0], by simp [results, Tryz.results111, go_sem], gF.out, _, rfl, HR.out⟩
def oQ (a b : List Int) (k : Nat) : List Int := (a.take k).filter fun x => !b.contains x
theorem Qa {a b : List Int} {k : Nat} (hk : k < a.length) : oQ a b (k + 1) = oQ a b k ++ (if b.contains (gi a k) = true then [] else [gi a k]) := by
 unfold oQ
 rw [List.take_add_one, List.filter_append]
 congr 1
 have e : a[k]? = some (gi a k) := by simp [gi, hk]
 rw [e]
 show List.filter _ [gi a k] = _
 cases h : b.contains (gi a k)
 ·rw [if_neg (by decide)]; simpa using h
 ·rw [if_pos rfl]; simpa using h
set_option maxHeartbeats 1000000 in
theorem Qb (S T : Nat → Prop) (w : World) (v u : Value) (a b : List Int) (h : af S w v a) (h2 : af T w u b) (hn : a.length ≤ 1000000) (hm : b.length ≤ 1000000) (ha : cz a) (hb : cz b) :
  Calls Tryz.prog 181 #[v, u] w fun e w' => Up w w' ∧ ∃ x, e = .returned (.tuple #[x, .int .i64 0]) ∧ ah w.heap.size 3 w' x ((a.filter fun x => !b.contains x).map (Value.int .i64)) := by
 have H1 := aa (C4 S T w v u a b h h2 hn hm ha hb)
 obtain ⟨p, cap, rfl, -, -⟩ := av.open h
 obtain ⟨q, tu, rfl, -, -⟩ := av.open h2
 have HA : Hid (af S w (.slice p a.length cap) a) := h
 have HH : Hid (∀ W (x : Int), Up w W → Calls Tryz.prog 110 #[.slice q b.length tu, .int .i64 x] W fun e w' => e = .returned (.bool (b.contains x)) ∧ W = w') := fun W x hW => uL T W _ b x (af.keep h2 (hW.kept _)) hm
 clear h h2 ha hb
 go_enter Tryz.func181, Tryz.ntmps181
 go_wp2_with fail
 refine H1.out.mono ?_
 rintro e w1 ⟨rfl, hq1⟩
 have dJ := aa hq1.up
 have HM := aa (ah.made w1 3)
 clear hq1 H1
 go_wp2_with fail
 go_loopw [6, 7] (fun o i wr => ∃ k : Nat, k ≤ a.length ∧ i = .int .i64 k ∧ Hid (ah w1.heap.size 3 wr o ((oQ a b k).map (Value.int .i64))) ∧ Hid (Up w1 wr)) (fun _ i _ => a.length - (intOf i).toNat)
 case atStart => exact ⟨0, Nat.zero_le _, rfl, HM.out, Up.alloc _ _⟩
 case round =>
  obtain ⟨k, hk, rfl, hO, bL⟩ := hrel
  obtain ⟨wo, rfl⟩ : ∃ wo : World, wo = wr := ⟨_, rfl⟩
  by_cases hlt : k < a.length
  ·obtain ⟨b1, off, rfl, hc⟩ := bw (af.keep HA.out ((dJ.out.trans bL.out).kept S)) hlt
   have nY := aa (Qa (b := b) hlt)
   have lF := aa (HH.out wo (gi a k) (dJ.out.trans bL.out))
   have i1 : (0 : Int) ≤ (k : Int) := by omega
   have i2 : (k : Int) < (a.length : Int) := by omega
   have i3 : (k : Int) < 1000000 := by omega
   have aM := aa hlt
   have hsz := bL.out.size
   have dr : Hid (((oQ a b k).map (Value.int .i64)).length = (oQ a b k).length) := List.length_map _
   have cL : Hid ((oQ a b k).length ≤ 1000000) := by
    have h1 : (oQ a b k).length ≤ (a.take k).length := List.length_filter_le _ _
    rw [List.length_take] at h1; unfold Hid; omega
   have kR := aa bL.out
   cases hcc : b.contains (gi a k)
   ·rw [hcc] at lF
    have HS : Hid (oQ a b (k + 1) = oQ a b k ++ [gi a k]) := by unfold Hid; rw [nY.out, hcc]; simp
    clear hlt hk bL hcc nY
    generalize gi a k = x at *
    go_wp2_with fail
    refine lF.out.mono ?_
    rintro e w' ⟨rfl, rfl⟩
    go_wp2_with (at_builtin; refine fW wo rfl _ _ 26 rfl w1.heap.size 3 (.int .i64 0) 8 Tryz.underlying26 Tryz.fU rfl (by decide) hO.out rfl (.int .i64 x) _ rfl rfl rfl _ dr.out cL.out hsz ?_; intro g8 iZ w8 hown1 MV di)
    go_roundw
    case rel => exact ⟨k + 1, aM.out, by go_num, by unfold Hid; rw [HS.out, List.map_append]; exact hown1, Below.trans kR.out di⟩
    case measure => have := aM.out; simp [intOf]; omega
   ·rw [hcc] at lF
    have HS : Hid (oQ a b (k + 1) = oQ a b k) := by unfold Hid; rw [nY.out, hcc]; simp
    clear hlt hk bL hcc nY
    generalize gi a k = x at *
    go_wp2_with fail
    refine lF.out.mono ?_
    rintro e w' ⟨rfl, rfl⟩
    go_wp2_with fail
    go_roundw
    case rel => exact ⟨k + 1, aM.out, by go_num, by unfold Hid; rw [HS.out]; exact hO.out, kR.out⟩
    case measure => have := aM.out; simp [intOf]; omega
  ·obtain rfl : k = a.length := by omega
   have Cl := hO.out
   unfold oQ at Cl
   rw [List.take_length] at Cl
   have HR := aa (Cl.mJ dJ.out.size)
   have gF := aa (dJ.out.trans bL.out)
   clear hlt hk hO Cl bL
   go_wp2_with fail
   exact ⟨rfl, .tuple #[_, .int .i64 0], by simp [results, Tryz.results181, go_sem], gF.out, _, rfl, HR.out⟩
theorem E6 {l : List (List Int)} {s : List Int} {k : Nat} (hk : k < l.length) (e : gl l k = s) : l.contains s = true := by
 rw [List.contains_iff_mem, ← e]; exact O1 hk
theorem Ay {l : List (List Int)} {s : List Int} (h : ∀ j, j < l.length → gl l j ≠ s) : l.contains s = false := by
 cases e : l.contains s with
 | false => rfl
 | true =>
  obtain ⟨j, hj, e2⟩ := List.getElem_of_mem (List.contains_iff_mem.1 e)
  exact absurd (by simp [gl, hj, e2]) (h j hj)
set_option maxHeartbeats 1000000 in
theorem K7 (S T : Nat → Prop) (w : World) (v u : Value) (l : List (List Int)) (s : List Int) (h : aJ S w v l) (h2 : af T w u s) (hn : l.length ≤ 1000000) (hr : ∀ k, (gl l k).length ≤ 1000000) (hm : s.length ≤ 1000000) :
  Calls Tryz.prog 122 #[v, u] w fun e w' => e = .returned (.bool (l.contains s)) ∧ QD w w' := by
 obtain ⟨p, cap, rfl, -, -⟩ := cN h
 have HX := aa h
 have mU := aa h2
 have HR := aa hr
 have HM := aa hm
 clear h h2 hr hm
 go_enter Tryz.func122, Tryz.ntmps122
 go_wp2_with fail
 go_loopw [5] (fun i wr => ∃ k : Nat, k ≤ l.length ∧ i = .int .i64 k ∧ Hid (QD w wr) ∧ Hid (∀ j, j < k → gl l j ≠ s)) (fun i _ => l.length - (intOf i).toNat)
 case atStart => exact ⟨0, Nat.zero_le _, rfl, QD.refl _, fun j hj => absurd hj (Nat.not_lt_zero _)⟩
 case round =>
  obtain ⟨k, hk, rfl, hQ, hd⟩ := hrel
  obtain ⟨wo, rfl⟩ : ∃ wo : World, wo = wr := ⟨_, rfl⟩
  by_cases hlt : k < l.length
  ·obtain ⟨b, off, q, tu, rfl, hc, hx⟩ := dX (HX.out.keep (hQ.out.kept S)) hlt
   have rO := aa (kS S T wo (.slice q (gl l k).length tu) u (gl l k) s hx (af.keep mU.out (hQ.out.kept T)) (HR.out k) HM.out)
   have i1 : (0 : Int) ≤ (k : Int) := by omega
   have i2 : (k : Int) < (l.length : Int) := by omega
   have i3 : (k : Int) < 1000000 := by omega
   have aM := aa hlt
   have HD := aa hd.out
   by_cases e : gl l k = s
   ·have HY : Hid (l.contains s = true) := E6 hlt e
    rw [decide_eq_true e] at rO
    clear hlt hk hd e hx
    go_wp2_with fail
    refine rO.out.mono ?_
    rintro e w' ⟨rfl, nq, rfl⟩
    go_wp2_with fail
    go_ret
    exact ⟨aO (by rw [HY.out]), hQ.out.drewN nq⟩
   ·have Qc : Hid (∀ j, j < k + 1 → gl l j ≠ s) := fun j hj => by
     by_cases q : j = k
     ·subst q; exact e
     ·exact HD.out j (by omega)
    rw [decide_eq_false e] at rO
    clear hlt hk hd e hx
    go_wp2_with fail
    refine rO.out.mono ?_
    rintro e w' ⟨rfl, nq, rfl⟩
    go_wp2_with fail
    go_roundw
    case rel => exact ⟨k + 1, aM.out, by go_num, hQ.out.drewN nq, Qc.out⟩
    case measure => have := aM.out; simp [intOf]; omega
  ·obtain rfl : k = l.length := by omega
   have HY : Hid (l.contains s = false) := Ay hd.out
   clear hlt hk hd
   go_wp2_with fail
   go_ret
   exact ⟨aO (by rw [HY.out]), hQ.out⟩
end
section
theorem Zr {L : List Int} {y z : Int} (h1 : y ∈ L) (h2 : z ∈ L) (hne : y ≠ z) : 2 ≤ L.length := by
 match L, h1, h2 with
 | [a], h1, h2 => exact absurd ((List.mem_singleton.1 h1).trans (List.mem_singleton.1 h2).symm) hne
 | _ :: _ :: _, _, _ => simp
def LamR (a b : List Int) : Prop := ((∀ x ∈ a, x ∉ b) ∨ ∀ x ∈ a, x ∈ b) ∧ ¬ ∀ x, x ∈ a ↔ x ∈ b
theorem K8 : ∀ (F : List (List Int)) (U : List Int), U ≠ [] → U.Nodup → (∀ s ∈ F, s.Nodup ∧ 2 ≤ s.length ∧ ∀ x ∈ s, x ∈ U) → F.Pairwise LamR → F.length + 1 ≤ U.length
 | [], U, hU, _, _, _ => by
  have := List.length_pos_iff.2 hU
  show 0 + 1 ≤ U.length
  omega
 | S :: F, U, hU, hN, hF, hP => by
  obtain ⟨hSn, hS2, hSU⟩ := hF S (by simp)
  obtain ⟨x, y, r, rfl⟩ : ∃ x y r, S = x :: y :: r := by
   match S, hS2 with
   | a :: b :: r, _ => exact ⟨a, b, r, rfl⟩
  have hxy : x ≠ y := fun e => (List.nodup_cons.1 hSn).1 (by rw [e]; simp)
  have hxU := hSU x (by simp)
  have hyU := hSU y (by simp)
  rw [List.pairwise_cons] at hP
  obtain ⟨wh, kK⟩ := hP
  have hlen := List.length_erase_of_mem hxU
  have hpos := List.length_pos_of_mem hxU
  have hin : ∀ T ∈ F, (x ∈ T ↔ y ∈ T) := fun T hT => by
   rcases (wh T hT).1 with h | h
   ·exact ⟨fun e => absurd e (h x (by simp)), fun e => absurd e (h y (by simp))⟩
   ·exact ⟨fun _ => h y (by simp), fun _ => h x (by simp)⟩
  have ih := K8 (F.map (·.erase x)) (U.erase x) (fun e => by
    have : y ∈ U.erase x := (List.Nodup.mem_erase_iff hN).2 ⟨fun e => hxy e.symm, hyU⟩
    rw [e] at this; cases this) (hN.erase x) (fun s hs => by
    obtain ⟨T, hT, rfl⟩ := List.mem_map.1 hs
    obtain ⟨UX, YH, hTU⟩ := hF T (List.mem_cons_of_mem _ hT)
    refine ⟨UX.erase x, ?_, fun z hz => ?_⟩
    ·rcases (wh T hT).1 with h | h
     ·rw [List.erase_of_not_mem (h x (by simp))]; exact YH
     ·obtain ⟨z, hz1, hz2⟩ : ∃ z, z ∈ T ∧ z ∉ x :: y :: r := by
       refine Classical.byContradiction fun hno => (wh T hT).2 fun z => ⟨h z, fun hz => ?_⟩
       exact Classical.byContradiction fun hz2 => hno ⟨z, hz, hz2⟩
      refine Zr (y := y) (z := z) ((List.Nodup.mem_erase_iff UX).2 ⟨fun e => hxy e.symm, h y (by simp)⟩) ((List.Nodup.mem_erase_iff UX).2 ⟨fun e => hz2 (by rw [e]; simp), hz1⟩) (fun e => hz2 (by rw [← e]; simp))
    ·obtain ⟨h1, h2⟩ := (List.Nodup.mem_erase_iff UX).1 hz
     exact (List.Nodup.mem_erase_iff hN).2 ⟨h1, hTU z h2⟩) (by
    rw [List.pairwise_map]
    refine kK.imp_of_mem fun {a b} ha hb hab => ?_
    have FU := (hF a (List.mem_cons_of_mem _ ha)).1
    have xE := (hF b (List.mem_cons_of_mem _ hb)).1
    have ma : ∀ z, z ∈ a.erase x ↔ z ≠ x ∧ z ∈ a := fun z => List.Nodup.mem_erase_iff FU
    have mb : ∀ z, z ∈ b.erase x ↔ z ≠ x ∧ z ∈ b := fun z => List.Nodup.mem_erase_iff xE
    refine ⟨?_, fun hall => hab.2 fun z => ?_⟩
    ·rcases hab.1 with h | h
     ·exact .inl fun z hz hz2 => h z ((ma z).1 hz).2 ((mb z).1 hz2).2
     ·exact .inr fun z hz => (mb z).2 ⟨((ma z).1 hz).1, h z ((ma z).1 hz).2⟩
    ·have UY : ∀ z, z ≠ x → (z ∈ a ↔ z ∈ b) := fun z hz => by
      have h := hall z
      rw [ma, mb] at h
      exact ⟨fun e => (h.1 ⟨hz, e⟩).2, fun e => (h.2 ⟨hz, e⟩).2⟩
     by_cases e : z = x
     ·rw [e, hin a ha, hin b hb]; exact UY y fun e => hxy e.symm
     ·exact UY z e)
  rw [List.length_map] at ih
  simp only [List.length_cons]
  omega
termination_by F => F.length
decreasing_by simp
theorem yl {names : List ByteArray} {l : List (List Int)} (h : eD names l) (h3 : 3 ≤ names.length) : 3 + (aD l).length + (names.length - 1) ≤ 64 := by
 have hr := kP (n := names.length) (by omega)
 have hle := h.le
 have dZ : (aS names.length [0]).Nodup := ((vF _).filter _).imp fun h e => by omega
 have key := K8 (aD l).reverse (aS names.length [0]) (fun e => by rw [e] at hr; simp at hr; omega) dZ (fun s hs => by
  have hs := kN.1 (List.mem_reverse.1 hs)
  have ho := h.td s hs
  exact ⟨ho.set.fF.imp fun h e => by omega, ho.len.1, fun x hx => fq.2 (ho.bd x hx)⟩) (by
  rw [List.pairwise_reverse, List.pairwise_iff_getElem]
  intro i k hi hk hik
  have ei : gl (aD l) i = (aD l)[i] := by simp [gl, hi]
  have ek : gl (aD l) k = (aD l)[k] := by simp [gl, hk]
  rw [← ei, ← ek]
  refine ⟨?_, fun hall => ?_⟩
  ·by_cases hc : ∃ x, x ∈ gl (aD l) k ∧ x ∈ gl (aD l) i
   ·obtain ⟨x, h1, h2⟩ := hc
    exact .inr (h.down hik hk h2 h1)
   ·exact .inl fun x h1 h2 => hc ⟨x, h1, h2⟩
  ·have := h.up (i := k) (k := i) hk hi (by omega) fun x hx => (hall x).2 hx
   omega)
 rw [List.length_reverse] at key
 omega
end
end Go.Proofs.YtpnmblnahjjmhaaGreat
