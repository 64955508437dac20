/- Reference 34: Bound. A list of groups that came in, opened. The walk of OptimaltreeTrees. -/
import Derived.Test.YteegefnjnikngaaGreatQ1
import Derived.Test.YteegefnjnikngaaGreatQ51
import Derived.Test.YteegefnjnikngaaGreatQ26
import Derived.Test.YteegefnjnikngaaGreatQ53
import Derived.Test.YteegefnjnikngaaGreatQ16
set_option maxRecDepth 100000
namespace Go.Proofs.YteegefnjnikngaaGreat
section
open Go.RowKit Go.Deep
def jI (st : List Int) : Array Value := ((List.range 16).map fun (x : Nat) => Value.bool (decide ((x : Int) ∈ st))).toArray
theorem XG : jI [] = #[.bool false, .bool false, .bool false, .bool false, .bool false, .bool false, .bool false, .bool false, .bool false, .bool false, .bool false, .bool false, .bool false, .bool false, .bool false, .bool false] := rfl
theorem OX (st : List Int) {x : Nat} (hx : x < 16) : (jI st)[x]? = some (.bool (decide ((x : Int) ∈ st))) := by simp [jI, hx]
theorem Mt (st : List Int) {x : Nat} (hx : x < 16) : (jI st).set! x (.bool true) = jI (st ++ [(x : Int)]) := by
 unfold jI
 apply Array.ext
 ·simp
 ·intro i h1 h2
  simp at h1 h2
  by_cases e : i = x
  ·subst e; simp
  ·have : ¬ x = i := fun q => e q.symm
   have e2 : ¬ ((i : Int) = (x : Int)) := by omega
   simp [this, e2]
theorem Mu (st : List Int) {x : Int} (h : x ∈ st) : jI (st ++ [x]) = jI st := by
 unfold jI
 congr 1
 refine List.map_congr_left fun i _ => ?_
 congr 1
 rw [decide_eq_decide, List.mem_append, List.mem_singleton]
 exact ⟨fun q => q.elim id fun e => by rw [e]; exact h, .inl⟩
def qH (w : World) (b : Nat) (wr : World) (st : List Int) : Prop := Up w wr ∧ w.heap.size ≤ b ∧ wr.heap[b]? = some (Obj.cells (jI st) 4 (0, 0))
theorem qH.cell {w wr : World} {b : Nat} {st : List Int} (h : qH w b wr st) {x : Nat} (hx : x < 16) : wr.cell? ⟨b, x, none⟩ = some (.bool (decide ((x : Int) ∈ st))) ∧ wr.frozen? ⟨b, x, none⟩ = false := by
 constructor
 ·simp [World.cell?, h.2.2, OX st hx]
 ·simp [World.frozen?, h.2.2]
theorem qH.put {w wr : World} {b : Nat} {st : List Int} (h : qH w b wr st) {x : Nat} (hx : x < 16) : qH w b (wr.setCell ⟨b, x, none⟩ (.bool true)) (st ++ [(x : Int)]) := by
 refine ⟨Below.setCell (p := ⟨b, x, none⟩) h.1 h.2.1 _, h.2.1, ?_⟩
 rw [← Mt st hx]
 simp [World.setCell, Array.getElem?_modify, h.2.2]
theorem OY (l : List Int) (x : Int) : (dd (l ++ [x])).length = (dd l).length + if x ∈ l then 0 else 1 := RA l x
set_option maxHeartbeats 4000000 in
theorem JA (S : Nat → Prop) (w : World) (vs : Value) (states : List (List Int)) (hS : aX S w vs states) (kX : states.length ≤ 1000000) (hr : ∀ k, (gl states k).length ≤ 1000000) :
  Calls Tryz.prog 33 #[vs] w (r6 w states) := by
 have rS := aa (IP S w vs states hS kX hr)
 obtain ⟨sp, sc, rfl, -, -⟩ := eD hS
 have HS := aa hS
 have HE : Hid (Ag states = if bU states = 0 then 0 else 1) := rfl
 have HR : Hid (Ah states = if bU states = 0 then vz states else 0) := rfl
 have Mi : Hid (bU states = 0 → 0 < states.length ∧ states.length ≤ 32 ∧ (gl states 0).length ≤ 4096 ∧ ∀ k, k < states.length → (gl states k).length = (gl states 0).length ∧ ∀ p, p < (gl states 0).length → -1 ≤ gi (gl states k) p ∧ gi (gl states k) p < 16) := fun h => by
  obtain ⟨a1, a2⟩ := Cu h
  obtain ⟨a3, a4⟩ := zo h
  exact ⟨a1, a3, a4, a2⟩
 clear hS kX hr
 go_enter Tryz.func33, Tryz.ntmps33
 go_wp2_with fail
 refine rS.out.mono ?_
 rintro e w1 ⟨rfl, hq⟩
 have bF : Hid (Up w w1) := hq.up
 by_cases c1 : bU states = 0
 ·obtain ⟨a0, a1, a2, a3⟩ := Mi.out c1
  have HA := aa (And.intro a0 (And.intro a1 (And.intro a2 a3)))
  have dS : Hid (∀ W, Up w W → r6 w states (.returned (.tuple #[.int .i64 (vz states), .int .i64 0])) W) := fun W hW => ⟨by rw [HE.out, HR.out, if_pos c1, if_pos c1], hW⟩
  have jY := aa (aX.keep HS.out (bF.out.kept S))
  obtain ⟨sb, so, s0, s1, rfl, hc0, iq⟩ := fA jY.out a0
  rw [Nat.add_zero] at hc0
  have i1 : (0 : Int) < (states.length : Int) := by omega
  have dR := aa hc0
  rw [c1]
  clear rS HE HR Mi hq c1 a0 a1 a2 a3 iq hc0
  have Wb : Hid (∀ n, 0 ≤ bw (eX states) n ∧ bw (eX states) n ≤ 100000 * n) := fun n => rX fun p _ => by have h1 := vW states p; have := HA.out.2.1; omega
  have eO : Hid (∀ n, bw (eX states) (n + 1) = bw (eX states) n + eX states n) := fun n => rfl
  have kI : Hid (vz states = bw (eX states) (gl states 0).length) := rfl
  go_wp2_with fail
  go_loopw [4, 5, 6, 7, 8, 9] (fun s i _ _ _ _ wr => ∃ n : Nat, n ≤ (gl states 0).length ∧ i = .int .i64 n ∧ s = .int .i64 (bw (eX states) n) ∧ Hid (Up w1 wr)) (fun _ i _ _ _ _ _ => (gl states 0).length - (intOf i).toNat)
  case atStart => exact ⟨0, Nat.zero_le _, rfl, rfl, Up.refl _⟩
  case round =>
   obtain ⟨n, hn, rfl, rfl, hU⟩ := hrel
   obtain ⟨wo, rfl⟩ : ∃ wo : World, wo = wr := ⟨_, rfl⟩
   have hc0 := hU.out.cell dR.out
   by_cases hlt : n < (gl states 0).length
   ·have i2 : (n : Int) < ((gl states 0).length : Int) := by omega
    have i3 : (n : Int) < 4096 := by have := HA.out.2.2.1; omega
    have i4 : (0 : Int) ≤ (n : Int) := by omega
    have aQ := aa hlt
    have Hl := aa (And.intro (Wb.out n) (vW states n))
    have p9 := aa hU.out
    have HSE : Hid (qH wo wo.heap.size (wo.alloc (.cells #[.bool false, .bool false, .bool false, .bool false, .bool false, .bool false, .bool false, .bool false, .bool false, .bool false, .bool false, .bool false, .bool false, .bool false, .bool false, .bool false] 4)) (aV ((bh states n).take 0))) := ⟨Up.alloc _ _, Nat.le_refl _, by show _ = some (Obj.cells (jI []) _ _); rw [XG]; exact World.alloc_heap_new _ _⟩
    generalize kX : bw (eX states) n = fn at *
    have ux := aa kX
    have hmk : ∀ W, (Instr.makeSlice 119 (.int .i64 16) (.int .i64 16)).run Tryz.prog W = .ok (.slice (some ⟨W.heap.size, 0, none⟩) 16 16) (W.alloc (.cells #[.bool false, .bool false, .bool false, .bool false, .bool false, .bool false, .bool false, .bool false, .bool false, .bool false, .bool false, .bool false, .bool false, .bool false, .bool false, .bool false] 4)) := fun _ => by kernel_rfl
    clear hlt hU kX
    go_wp2_with fail
    clear hmk
    go_loopw [7, 8, 9] (fun c k _ wr => ∃ j : Nat, j ≤ states.length ∧ k = .int .i64 j ∧ c = .int .i64 ((dd (aV ((bh states n).take j))).length : Nat) ∧ Hid (qH wo wo.heap.size wr (aV ((bh states n).take j)))) (fun _ k _ _ => states.length - (intOf k).toNat)
    case atStart => exact ⟨0, Nat.zero_le _, rfl, rfl, HSE.out⟩
    case round =>
     obtain ⟨j, hj, rfl, rfl, hB⟩ := hrel
     obtain ⟨wi, rfl⟩ : ∃ wi : World, wi = wr := ⟨_, rfl⟩
     have hdl : (dd (aV ((bh states n).take j))).length ≤ 32 := by
      have h1 : (dd (aV ((bh states n).take j))).length ≤ (aV ((bh states n).take j)).length := (kC _).length_le_of_subset fun x hx => jt.1 hx
      have h2 := Cc (bh states n) j
      have := HA.out.2.1
      omega
     by_cases hlj : j < states.length
     ·obtain ⟨rb, ro, r0, r1, er, LV, hir⟩ := fA (aX.keep jY.out ((p9.out.trans hB.out.1).kept S)) hlj
      injection er with er
      injection er with LW LX
      subst LW; subst LX
      rw [(HA.out.2.2.2 j hlj).1] at LV
      obtain ⟨yb, yo, rfl, hcy⟩ := dQ hir (k := n) (by rw [(HA.out.2.2.2 j hlj).1]; exact aQ.out)
      have fH := aa (wZ (st := bh states n) (k := j) (by rw [mF]; exact hlj))
      rw [zg _ _ hlj] at fH
      have hy := (HA.out.2.2.2 j hlj).2 n aQ.out
      have nJ := aa hlj
      have k1 : (0 : Int) ≤ (j : Int) := by omega
      have k2 : (j : Int) < (states.length : Int) := by omega
      have k3 : (j : Int) < 64 := by have := HA.out.2.1; omega
      generalize gi (gl states j) n = y at *
      clear hir hlj
      by_cases h0 : 0 ≤ y
      ·obtain ⟨x, rfl⟩ : ∃ x : Nat, y = (x : Int) := ⟨y.toNat, by omega⟩
       have hx : x < 16 := by omega
       obtain ⟨lT, hfx⟩ := hB.out.cell hx
       have HB := aa hB.out
       have o5 := aa (hB.out.put hx)
       have JB := aa (OY (aV ((bh states n).take j)) (x : Int))
       have GV : Hid (aV ((bh states n).take (j + 1)) = aV ((bh states n).take j) ++ [(x : Int)]) := by unfold Hid; rw [fH.out, if_pos h0]
       have yu : Hid ((x : Int) ∈ aV ((bh states n).take j) → jI (aV ((bh states n).take j) ++ [(x : Int)]) = jI (aV ((bh states n).take j))) := fun h => Mu _ h
       have d0 : decide (0 ≤ (x : Int)) = true := by simp
       have x1 : (x : Int) < 16 := by omega
       clear hB fH
       generalize aV ((bh states n).take j) = K at *
       by_cases hin : (x : Int) ∈ K
       ·have hb : decide ((x : Int) ∈ K) = true := decide_eq_true hin
        rw [hb] at lT
        rw [if_pos hin] at JB
        have vp : Hid (qH wo wo.heap.size wi (K ++ [(x : Int)])) := by
         obtain ⟨q1, q2, q3⟩ := HB.out
         exact ⟨q1, q2, by rw [yu.out hin]; exact q3⟩
        clear hin hb
        go_wp2_with fail
        go_roundw
        case rel => exact ⟨j + 1, nJ.out, by go_num, by rw [GV.out, JB.out]; rfl, by rw [GV.out]; exact vp.out⟩
        case measure => have := nJ.out; simp [intOf]; omega
       ·have hb : decide ((x : Int) ∈ K) = false := decide_eq_false hin
        rw [hb] at lT
        rw [if_neg hin] at JB
        clear hin hb
        go_wp2_with fail
        go_roundw
        case rel => exact ⟨j + 1, nJ.out, by go_num, by rw [GV.out, JB.out]; rfl, by rw [GV.out]; exact o5.out⟩
        case measure => have := nJ.out; simp [intOf]; omega
      ·have d0 : decide (0 ≤ y) = false := by simp; omega
       have wX : Hid (aV ((bh states n).take (j + 1)) = aV ((bh states n).take j)) := by unfold Hid; rw [fH.out, if_neg h0, List.append_nil]
       clear h0
       go_wp2_with fail
       go_roundw
       case rel => exact ⟨j + 1, nJ.out, by go_num, by rw [wX.out], by rw [wX.out]; exact hB.out⟩
       case measure => have := nJ.out; simp [intOf]; omega
     ·obtain rfl : j = states.length := by omega
      have Ho : (bh states n).take states.length = bh states n := by rw [← mF states n, List.take_length]
      rw [Ho] at hB hdl
      rw [Ho]
      have mZ := aa (p9.out.trans hB.out.1)
      have vp := aa (eO.out n)
      have r4 : Hid (eX states n = if (dd (aV (bh states n))).length = 0 then 0 else ((dd (aV (bh states n))).length : Int) - 1) := rfl
      rw [ux.out, r4.out] at vp
      have DG := Hl.out
      generalize eX states n = bk at *
      generalize (dd (aV (bh states n))).length = D at *
      have i6 : fn ≤ 409600000 ∧ 0 ≤ fn := by constructor <;> omega
      obtain ⟨i7, i8⟩ := i6
      clear DG Ho hB hj hlj r4
      go_wp2_with fail
      go_roundw
      case rel => exact ⟨n + 1, aQ.out, by go_num, by rw [vp.out]; congr 1; omega, mZ.out⟩
      case measure => have := aQ.out; simp [intOf]; omega
   ·obtain rfl : n = (gl states 0).length := by omega
    have ng := aa (dS.out wo (bF.out.trans hU.out))
    rw [kI.out] at ng
    clear hlt
    go_wp2_with fail
    go_ret2
    exact ng.out
 ·have dS : Hid (r6 w states (.returned (.tuple #[.int .i64 0, .int .i64 1])) w1) := ⟨by rw [HE.out, HR.out, if_neg c1, if_neg c1], bF.out⟩
  generalize bU states = a at *
  clear hq rS
  go_wp2_with fail
  go_ret2
  exact dS.out
end
section
open Go.ChangeShapes Go.WideShapes Go.ChangeAt Go.RowKit Go.Deep
instance : Inhabited AV := ⟨⟨0, 0, []⟩⟩
section
variable {H : Type} {enc : TypeId × Value → H} {W : World}
theorem JC {v : Value} {d : DataW H} {p : List MemPlace} {base : Nat} (hv : Value.okWide Tryz.prog W .any base 22 v) (h : DataW.Trod enc Tryz.prog W 0 (fun _ => true) true 22 v d p) : ∃ xs : List ByteArray, au Any W v xs ∧ xs.length ≤ 9223372036854775807 ∧ ∀ k, (gs xs k).size ≤ 9223372036854775807 := by
 obtain ⟨a, l, c, rfl⟩ := okWide_slice Tryz.underlying22 hv
 obtain ⟨n, hn⟩ := Fw rfl h
 exact Jv hn
end
end
section
open Go.RowKit Go.Deep
theorem JD {names : List ByteArray} (hn : fQ names) (k : Nat) : (gt (allT names) k).ps.length ≤ 1000000 ∧ (gt (allT names) k).ns.length ≤ 1000000 := by
 by_cases hk : k < (allT names).length
 ·obtain ⟨ho, _⟩ := Aa hn (zh hk)
  obtain ⟨_, h64, hl, _, _⟩ := aI ho.te
  omega
 ·have : gt (allT names) k = ⟨[], []⟩ := by simp [gt, hk]
  rw [this]; exact ⟨Nat.zero_le _, Nat.zero_le _⟩
theorem OZ {ts : List av} (h : ∀ t ∈ ts, t.ps.length ≤ 1000000 ∧ t.ns.length ≤ 1000000) (k : Nat) : (gt ts k).ps.length ≤ 1000000 ∧ (gt ts k).ns.length ≤ 1000000 := by
 by_cases hk : k < ts.length
 ·exact h _ (zh hk)
 ·have : gt ts k = ⟨[], []⟩ := by simp [gt, hk]
  rw [this]; exact ⟨Nat.zero_le _, Nat.zero_le _⟩
theorem JE {names : List ByteArray} (h5 : names.length ≤ 5 ∨ 7 < names.length) : (if bD names = 0 then allT names else []).length ≤ 1000000 ∧ ∀ k, (gt (if bD names = 0 then allT names else []) k).ps.length ≤ 1000000 ∧ (gt (if bD names = 0 then allT names else []) k).ns.length ≤ 1000000 := by
 by_cases h0 : bD names = 0
 ·rw [if_pos h0]
  have Fe : names.length ≤ 5 := by
   rcases h5 with h5 | h5
   ·exact h5
   ·unfold bD at h0; rw [if_pos (.inr h5)] at h0; cases h0
  have hn := (mD Fe).1 h0
  refine ⟨?_, JD hn⟩
  unfold allT
  rw [List.length_map, sZ hn]
  split <;> (try split) <;> (try split) <;> omega
 ·rw [if_neg h0]
  exact ⟨Nat.zero_le _, OZ fun t h => by cases h⟩
set_option maxHeartbeats 4000000 in
theorem F7 (w : World) (n : Int) (v vs : Value) (names : List ByteArray) (states : List (List Int)) (h : au Any w v names) (hS : aX Any w vs states) (hi : -9223372036854775808 ≤ n ∧ n ≤ 9223372036854775807)
  (hn : names.length ≤ 9223372036854775807) (hz : ∀ k, (gs names k).size ≤ 9223372036854775807) (hm : states.length ≤ 9223372036854775807) (hr : ∀ k, (gl states k).length ≤ 9223372036854775807) :
  Calls Tryz.prog 4 #[.int .i64 n, v, vs] w fun e w' => e = .returned (.bool true) ∧ Up w w' := by
 obtain ⟨p, cap, rfl, hcap, -⟩ := aA.open h
 have h : au Any w (.slice p names.length cap) names := h
 obtain ⟨sp, sc, rfl, -, -⟩ := eD hS
 have Br := aa (Ml Any Any w _ _ names states h hS hn hz hm hr)
 have HAW : Hid (∀ W, Calls Tryz.prog 28 #[] W fun e w' => e = .returned (.bool true) ∧ Up W w') := Mr
 have HG : Hid (jQ names states = false → Jt names states) := RM
 have iu := aa (BZ n hi)
 have GX := aa (Jm n hi)
 have HH := aa h
 have HS := aa hS
 clear h hS hz hr hi
 go_enter Tryz.func4, Tryz.ntmps4
 go_wp2_with fail
 refine Br.out.mono ?_
 rintro e w1 ⟨rfl, rfl⟩
 cases hg : jQ names states
 ·have wO := aa (HG.out hg)
  have h5 := wO.out.Fv.2.2
  have HZ : Hid (∀ k, (gs names k).size ≤ 70000) := fun k => by have := wO.out.nm k; omega
  have lX := aa (fun W (hW : Up w W) => Ry Any W _ names (au.keep HH.out (hW.kept _)) (by have := wO.out.Fv.1; omega) HZ.out h5)
  have AO := aa (fun W (hW : Up w W) => OV Any W _ names (au.keep HH.out (hW.kept _)) (by have := wO.out.Fv.1; omega) HZ.out h5)
  have HBP := aa (fun W (hW : Up w W) => Cf Any W _ states (aX.keep HS.out (hW.kept _)) (by have := wO.out.m10; omega) (fun k => by have := wO.out.Fv.2.1 k; omega))
  have HBR := aa (fun W (hW : Up w W) => JA Any W _ states (aX.keep HS.out (hW.kept _)) (by have := wO.out.m10; omega) (fun k => by have := wO.out.Fv.2.1 k; omega))
  have Ms := aa (JE h5)
  clear hg Br HG h5
  go_wp2_with fail
  refine (iu.out w).mono ?_
  rintro e w1 ⟨rfl, rfl⟩
  go_wp2_with fail
  refine (GX.out w).mono ?_
  rintro e w1 ⟨rfl, rfl⟩
  generalize vo n = cr at *
  generalize vk n = ce at *
  clear iu GX
  go_wp2_with fail
  refine (lX.out w (Up.refl _)).mono ?_
  rintro e w1 ⟨aS, v1, rfl, ht1⟩
  have bF := aa aS
  generalize hL : (if bD names = 0 then allT names else []) = L at *
  obtain ⟨p1, c1, rfl, -⟩ := lR ht1
  have uI := aa ht1
  have Ws := aa (AO.out w1 aS)
  clear aS ht1 lX AO
  go_wp2_with fail
  refine Ws.out.mono ?_
  rintro e w2 ⟨aF, v2, rfl, ht2⟩
  rw [hL] at ht2
  obtain ⟨p2, c2, rfl, -⟩ := lR ht2
  have bE := aa (bF.out.trans aF)
  have Wt := aa (uI.out.keep (aF.kept _))
  have mP := aa ht2
  generalize bD names = cn at *
  clear aF ht2 Ws uI hL
  go_wp2_with fail
  refine (HBP.out w2 bE.out).mono ?_
  rintro e w3 ⟨rfl, b9⟩
  have dL := aa (bE.out.trans b9)
  have GZ := aa (Wt.out.keep (b9.kept _))
  have yC := aa (mP.out.keep (b9.kept _))
  clear b9 Wt mP
  go_wp2_with fail
  refine (HBR.out w3 dL.out).mono ?_
  rintro e w4 ⟨rfl, b6⟩
  have jV := aa (dL.out.trans b6)
  have HST := aa (tR Any Any w4 _ _ L L (GZ.out.keep (b6.kept _)) (yC.out.keep (b6.kept _)) Ms.out.1 Ms.out.2)
  simp only [decide_true] at HST
  generalize Ah states = br at *
  generalize Ag states = be at *
  clear b6 GZ yC HBP HBR
  go_wp2_with fail
  refine HST.out.mono ?_
  rintro e w5 ⟨rfl, iN⟩
  have jq := aa (jV.out.trans iN)
  clear iN
  go_wp2_with fail
  refine (HAW.out _).mono ?_
  rintro e w' ⟨rfl, xd⟩
  go_wp2_with fail
  go_ret
  exact ⟨rfl, jq.out.trans xd⟩
 ·clear hg HG
  go_wp2_with fail
  refine (HAW.out _).mono ?_
  rintro e w' ⟨rfl, xd⟩
  go_wp2_with fail
  go_ret
  exact ⟨rfl, xd⟩
end
end Go.Proofs.YteegefnjnikngaaGreat
