/- Reference 34: rooted, the texts of all rooted binary trees of names. Reference 34: .. -/
import Derived.Test.YthgabkgmkolobaaGreatQ1
import Derived.Test.YthgabkgmkolobaaGreatQ38
import Derived.Test.YthgabkgmkolobaaGreatQ8
import Derived.Test.YthgabkgmkolobaaGreatQ16
import Derived.Test.YthgabkgmkolobaaGreatQ36
import Derived.Test.YthgabkgmkolobaaGreatQ19
set_option maxRecDepth 100000
namespace Go.Proofs.YthgabkgmkolobaaGreat
section
open Go.RowKit Go.Deep
theorem aC.Vq (w : World) (e : TypeId) (u : Value) : aC w.heap.size e (w.alloc (.cells #[u] e)) (.slice (some ⟨w.heap.size, 0, none⟩) 1 1) [u] := Iy w _ e u (Nat.le_refl _)
theorem Qi (w : World) (x : ByteArray) : Dup w.heap.size ((w.alloc (.cells #[.string x] 9)).alloc (.cells #[] 9)) (.slice (some ⟨w.heap.size, 0, none⟩) 1 1) (.slice (some ⟨w.heap.size + 1, 0, none⟩) 0 0) [x] [] := by
 have h1 := aC.Vq w 9 (.string x)
 have h2 := aC.made (w.alloc (.cells #[.string x] 9)) 9
 have hs : (w.alloc (.cells #[.string x] 9)).heap.size = w.heap.size + 1 := World.size_alloc _ _
 rw [hs] at h2
 refine ⟨h1.eD fun b hb => Below.block (Up.alloc _ _) b (aF h1 hb).2, ⟨by have := h2.1; omega, ?_⟩, fun b hb hb2 => ?_⟩
 ·rcases h2.2 with h | ⟨g, c, cur, e, hg, h⟩
  ·exact .inl h
  ·exact .inr ⟨g, c, cur, e, by omega, h⟩
 ·injection hb with hb
  injection hb2 with hb2
  have hb : w.heap.size = b := hb
  have hb2 : w.heap.size + 1 = b := hb2
  omega
def vh (w : World) (names : List ByteArray) (e : Ending) (w' : World) : Prop := Up w w' ∧ ∃ v, e = .returned v ∧ aC w.heap.size 9 w' v ((bB names).map Value.string)
def RfI (w : World) (names : List ByteArray) (n : Nat) (out : Value) (wr : World) : Prop := Up w wr ∧ aC w.heap.size 9 wr out ((qh names n).map Value.string)
theorem WB {n : Nat} (h : n ≤ 4) (h1 : 1 ≤ n) : 2 ^ (n - 1) ≤ 8 ∧ 1 ≤ 2 ^ (n - 1) := by
 have : 2 ^ (n - 1) ≤ 2 ^ 3 := Nat.pow_le_pow_right (by decide) (by omega)
 exact ⟨by omega, Nat.one_le_two_pow⟩
set_option maxHeartbeats 8000000 in
theorem Kn : ∀ (d : Nat) (names : List ByteArray), names.length ≤ d → 1 ≤ names.length → names.length ≤ 4 → (∀ x ∈ names, x.size ≤ 20) → ∀ (S : Nat → Prop) (w : World) (v : Value), ah S w v names → Calls Tryz.prog 145 #[v] w (vh w names) := by
 intro d
 induction d with
 | zero => intro names h1 h2; omega
 | succ d ih =>
 intro names hd h1 h4 hz S w v h
 obtain ⟨mp, mc, rfl, hmc, -⟩ := aB.open h
 have h : ah S w (.slice mp names.length mc) names := h
 obtain ⟨nb, no, rfl, hc0⟩ := bz h (k := 0) (by omega)
 rw [Nat.add_zero] at hc0
 by_cases hone : names.length = 1
 ·have d1 : ((names.length : Int) == 1) = true := by rw [hone]; rfl
  have hrt : bB names = [gs names 0] := by
   obtain ⟨x, rfl⟩ := List.length_eq_one_iff.1 hone
   exact Wt x
  have HX : Hid (vh w names (.returned (.slice (some ⟨w.heap.size, 0, none⟩) 1 1)) (w.alloc (.cells #[.string (gs names 0)] 9))) := ⟨Up.alloc _ _, _, rfl, by rw [hrt]; exact aC.Vq _ _ _⟩
  have i1 : (0 : Int) < (names.length : Int) := by omega
  clear h hrt ih hz hd h4
  go_enter Tryz.func145, Tryz.ntmps145
  go_wp2_with fail
  go_ret
  exact HX.out
 have d1 : ((names.length : Int) == 1) = false := beq_eq_false_iff_ne.2 (by omega)
 have h2 : 2 ≤ names.length := by omega
 have js := aa ih
 have HH := aa h
 have HZ := aa hz
 have HD := aa hd
 have eH := aa hc0
 obtain ⟨M, hM⟩ : ∃ M : Nat, M = 2 ^ (names.length - 1) := ⟨_, rfl⟩
 have PT := WB h4 h1
 rw [← hM] at PT
 have HM := aa hM
 have Qj := aa PT
 have hWS : wrap64 ((names.length : Int) - 1) = ((names.length - 1 : Nat) : Int) := by
  unfold wrap64; omega
 have ZJ : Hid (RfI w names 0 (.slice (some ⟨w.heap.size, 0, none⟩) 0 0) (w.alloc (.cells #[] 9))) := ⟨Up.alloc _ _, by unfold qh; exact aC.made _ _⟩
 have xA := aa h4
 have i0 : (0 : Int) < (names.length : Int) := by omega
 clear ih h hz hd h1 hone hc0 hM PT
 go_enter Tryz.func145, Tryz.ntmps145
 go_wp2_with fail
 go_loopw [3, 4, 5, 6, 7, 8, 9, 10, 11] (fun out i _ _ _ _ _ _ _ wr => ∃ n : Nat, n ≤ M - 1 ∧ i = .int .i64 n ∧ Hid (RfI w names n out wr)) (fun _ i _ _ _ _ _ _ _ _ => M - 1 - (intOf i).toNat)
 case atStart => exact ⟨0, Nat.zero_le _, rfl, ZJ.out⟩
 case round =>
  obtain ⟨n, hn, rfl, hI⟩ := hrel
  obtain ⟨wo, rfl⟩ : ∃ wo : World, wo = wr := ⟨_, rfl⟩
  obtain ⟨dH, Vr⟩ := hI.out
  have Vi : wrap64 ((2 : Int) ^ (names.length - 1)) = (M : Int) := by
   have : ((2 : Int) ^ (names.length - 1)) = (M : Int) := by rw [HM.out]; simp
   rw [this]; unfold wrap64; have := Qj.out; omega
  have hWN : wrap64 ((M : Int) - 1) = ((M - 1 : Nat) : Int) := by unfold wrap64; have := Qj.out; omega
  have j0 : (0 : Int) ≤ (n : Int) := by omega
  by_cases hlt : n < M - 1
  ·have i1 : (n : Int) < ((M - 1 : Nat) : Int) := by omega
   have i2 : (n : Int) < 8 := by have := Qj.out; omega
   have hc0 := dH.cell eH.out
   have hlt2 : n < 2 ^ (names.length - 1) - 1 := by rw [← HM.out]; exact hlt
   obtain ⟨l1, l2, l3, l4⟩ := e_len h2 hlt2
   obtain ⟨m1, m2⟩ := mem_e (L := names) (by omega) hlt2
   have II : ∀ x ∈ eA names n, x.size ≤ 20 := fun x hx => HZ.out x (m1 x hx)
   have hzb : ∀ x ∈ eB names n, x.size ≤ 20 := fun x hx => HZ.out x (m2 x hx)
   have Ci : Hid (∀ S W v, ah S W v (eA names n) → Calls Tryz.prog 145 #[v] W (vh W (eA names n))) := fun S W v hv => js.out (eA names n) (by have := HD.out; omega) l2 (by have := xA.out; omega) II S W v hv
   have gj : Hid (∀ S W v, ah S W v (eB names n) → Calls Tryz.prog 145 #[v] W (vh W (eB names n))) := fun S W v hv => js.out (eB names n) (by have := HD.out; omega) l4 (by have := xA.out; omega) hzb S W v hv
   have yg : Hid ((bB (eA names n)).length ≤ 15 ∧ ∀ k, (gs (bB (eA names n)) k).size ≤ 100) := ⟨o9 (by have := xA.out; omega), gI fun x hx => A9 (by have := xA.out; omega) II hx⟩
   have B1 : Hid ((bB (eB names n)).length ≤ 15 ∧ ∀ k, (gs (bB (eB names n)) k).size ≤ 100) := ⟨o9 (by have := xA.out; omega), gI fun x hx => A9 (by have := xA.out; omega) hzb hx⟩
   have HE4 : Hid ((eA names n).length ≤ 4 ∧ (eB names n).length ≤ 4) := ⟨by have := xA.out; omega, by have := xA.out; omega⟩
   have HPF : Hid ((qh names n).length ≤ 8 * 225) := by
    have h5 := Wv h2 xA.out (n := n) (by omega)
    have := Qj.out.1
    exact Nat.le_trans h5 (Nat.mul_le_mul_right _ (by omega))
   have Vj := aa (Qi wo (gs names 0))
   have bH := aa ((Up.alloc wo (.cells #[.string (gs names 0)] 9)).trans (Up.alloc _ (.cells #[] 9)))
   have vk := aa dH
   have Ai := aa Vr
   have aV := aa hlt
   clear hlt hlt2 l1 l2 l3 l4 m1 m2 II hzb hI dH Vr
   go_wp2_with fail
   generalize (wo.alloc (.cells #[.string (gs names 0)] 9)).alloc (.cells #[] 9) = w1 at *
   clear hWS Vi hWN
   go_loopw [5, 6, 7] (fun a b i wr => ∃ m : Nat, m ≤ names.length - 1 ∧ i = .int .i64 ((m : Int) + 1) ∧ Hid (Dup wo.heap.size wr a b (yT names n m) (yU names n m)) ∧ Hid (Up wo wr)) (fun _ _ i _ => names.length - (intOf i).toNat)
   case atStart => exact ⟨0, Nat.zero_le _, rfl, Vj.out, bH.out⟩
   case round =>
    obtain ⟨m, hm, rfl, hD, hU⟩ := hrel
    obtain ⟨wi, rfl⟩ : ∃ wi : World, wi = wr := ⟨_, rfl⟩
    have k0 : (0 : Int) ≤ (m : Int) := by omega
    have kw : wrap64 ((m : Int) + 1 - 1) = (m : Int) := by unfold wrap64; have := xA.out; omega
    by_cases hlm : m < names.length - 1
    ·have hcm := (vk.out.trans hU.out).cell (aB.at0 HH.out (show m + 1 < names.length by omega))
     have k1 : (m : Int) + 1 < (names.length : Int) := by omega
     have k2 : (m : Int) < 4 := by have := xA.out; omega
     have uU : bits BinOp.and IntKind.i64 ((n : Int) / 2 ^ m) 1 = if n.testBit m then 1 else 0 := by
      have e : (n : Int) / 2 ^ m = ((n / 2 ^ m : Nat) : Int) := by simp
      have : n / 2 ^ m ≤ n := Nat.div_le_self _ _
      rw [e, IC _ (by have := Qj.out; have := aV.out; omega), Lv]
     obtain ⟨e1, e2⟩ := S9 names n m (by omega)
     have iV := aa e1
     have bY := aa e2
     have IJ := aa hlm
     have dG : Hid (((yT names n m).map Value.string).length ≤ 1000000 ∧ ((yU names n m).map Value.string).length ≤ 1000000) := by
      have a1 := jv (fun i => n.testBit i) names.tail m
      have a2 := jv (fun i => !n.testBit i) names.tail m
      have := xA.out
      unfold Hid yT yU
      rw [List.length_map, List.length_map, List.length_cons]
      omega
     have ct : Hid (wo.heap.size ≤ wi.heap.size) := hU.out.size
     obtain ⟨ap, ac, rfl, -⟩ := hD.out.ao.form rfl
     obtain ⟨bp, bc, rfl, -⟩ := hD.out.bo.form rfl
     have Aj := aa hD.out
     have wW := aa hU.out
     clear hD hU hlm e1 e2
     cases hb : n.testBit m
     ·rw [hb] at uU iV bY
      have uU : bits BinOp.and IntKind.i64 ((n : Int) / 2 ^ m) 1 = 0 := uU
      have Tc : Hid (yT names n (m + 1) = yT names n m) := by unfold Hid; rw [iV.out]; simp
      have Td : Hid (yU names n (m + 1) = yU names n m ++ [gs names (m + 1)]) := by unfold Hid; rw [bY.out]; simp
      clear hb iV bY
      go_wp2_with (at_builtin; refine fM wi rfl _ _ 22 rfl wo.heap.size 9 (.string ⟨#[]⟩) 16 Tryz.underlying22 Tryz.fo rfl (by decide) Aj.out.bo rfl (.string (gs names (m + 1))) rfl rfl _ rfl dG.out.2 ct.out ?_; intro g8 gW w8 bU cG fq; have IE := aa (Aj.out.appB bU cG fq); have kY := aa (Aj.out.bo.dy cG ct.out); clear bU cG fq)
      go_roundw
      case rel => exact ⟨m + 1, IJ.out, by go_num, by rw [Tc.out, Td.out]; have q := IE.out; simp only [List.length_map] at q ⊢; exact q, Below.trans (show Below wo.heap.size wo wi from wW.out) kY.out⟩
      case measure => have := IJ.out; simp [intOf]; omega
     ·rw [hb] at uU iV bY
      have uU : bits BinOp.and IntKind.i64 ((n : Int) / 2 ^ m) 1 = 1 := uU
      have Tc : Hid (yT names n (m + 1) = yT names n m ++ [gs names (m + 1)]) := by unfold Hid; rw [iV.out]; simp
      have Td : Hid (yU names n (m + 1) = yU names n m) := by unfold Hid; rw [bY.out]; simp
      clear hb iV bY
      go_wp2_with (at_builtin; refine fM wi rfl _ _ 22 rfl wo.heap.size 9 (.string ⟨#[]⟩) 16 Tryz.underlying22 Tryz.fo rfl (by decide) Aj.out.ao rfl (.string (gs names (m + 1))) rfl rfl _ rfl dG.out.1 ct.out ?_; intro g8 gW w8 bU cG fq; have IE := aa (Aj.out.appA bU cG fq); have kY := aa (Aj.out.ao.dy cG ct.out); clear bU cG fq)
      go_roundw
      case rel => exact ⟨m + 1, IJ.out, by go_num, by rw [Tc.out, Td.out]; have q := IE.out; simp only [List.length_map] at q ⊢; exact q, Below.trans (show Below wo.heap.size wo wi from wW.out) kY.out⟩
      case measure => have := IJ.out; simp [intOf]; omega
    ·obtain rfl : m = names.length - 1 := by omega
     rw [(LK names n).1, (LK names n).2] at hD
     obtain ⟨ap, ac, rfl, -⟩ := hD.out.ao.form (n := (eA names n).length) (by rw [List.length_map])
     obtain ⟨bp, bc, rfl, -⟩ := hD.out.bo.form (n := (eB names n).length) (by rw [List.length_map])
     have HA1 := aa (Ci.out _ wi _ hD.out.ao.strs)
     have og := aa hD.out.bo.strs
     have wW := aa hU.out
     have i9 : ¬ ((names.length - 1 : Nat) : Int) + 1 < (names.length : Int) := by omega
     clear hD hU hlm hm kw
     go_wp2_with fail
     refine HA1.out.mono ?_
     rintro e W1 ⟨aR, sa, rfl, uH⟩
     have gm := aa (gj.out _ W1 _ (ah.keep og.out (aR.kept _)))
     have ES := aa aR
     clear aR HA1
     go_wp2_with fail
     refine gm.out.mono ?_
     rintro e W2 ⟨aG, sb, rfl, oa⟩
     have hz1 := ES.out.size
     have hz2 := aG.size
     have hz0 := wW.out.size
     obtain ⟨lp, lc, rfl, -⟩ := uH.form (n := (bB (eA names n)).length) (by rw [List.length_map])
     obtain ⟨rp, rc, rfl, -⟩ := oa.form (n := (bB (eB names n)).length) (by rw [List.length_map])
     have iV : Hid (ah (fun b => wo.heap.size ≤ b ∧ b < W2.heap.size) W2 (.slice lp (bB (eA names n)).length lc) (bB (eA names n))) := (ah.keep uH.strs (aG.kept _)).sub fun b hb hl => ⟨by omega, hl⟩
     have bY : Hid (ah (fun b => wo.heap.size ≤ b ∧ b < W2.heap.size) W2 (.slice rp (bB (eB names n)).length rc) (bB (eB names n))) := oa.strs.sub fun b hb hl => ⟨by omega, hl⟩
     have HW2 := aa ((wW.out.trans ES.out).trans aG)
     have HAT0 : Hid (qi wo.heap.size w W2 W2 u3 (qh names n ++ qG names n 0)) := by
      have e0 : qh names n ++ qG names n 0 = qh names n := by unfold qG; simp
      rw [e0]
      have hzw := vk.out.size
      refine ⟨vk.out.trans HW2.out, ⟨hzw, by omega, Nat.le_refl _⟩, Ai.out.eD fun b hb => Below.block HW2.out b (aF Ai.out hb).2, fun b hb => .inl (aF Ai.out hb).2, fun _ _ _ => rfl⟩
     clear uH oa aG hz0 hz1 hz2 gm og ES Ci gj wW
     go_wp2_with fail
     go_loopw [3, 10, 11] (fun o i _ wr => ∃ k : Nat, k ≤ (bB (eA names n)).length ∧ i = .int .i64 k ∧ Hid (qi wo.heap.size w W2 wr o (qh names n ++ qG names n k))) (fun _ i _ _ => (bB (eA names n)).length - (intOf i).toNat)
     case atStart => exact ⟨0, Nat.zero_le _, rfl, HAT0.out⟩
     case round =>
      obtain ⟨k, hk, rfl, hA⟩ := hrel
      obtain ⟨wp, rfl⟩ : ∃ wp : World, wp = wr := ⟨_, rfl⟩
      have k0 : (0 : Int) ≤ (k : Int) := by omega
      by_cases hlk : k < (bB (eA names n)).length
      ·have k1 : (k : Int) < ((bB (eA names n)).length : Int) := by omega
       have k2 : (k : Int) < 16 := by have := yg.out.1; omega
       have Ji := aa hlk
       have O6 := aa (S8 names n hlk)
       have HZS : Hid ((gs (bB (eA names n)) k).size ≤ 100) := yg.out.2 k
       have hEK : (qG names n k).length ≤ 225 := Wx HE4.out.1 HE4.out.2
       have HEK := aa hEK
       have HAA := aa hA.out
       clear hA hlk hEK
       go_wp2_with fail
       go_loopw [3, 11] (fun o i wr => ∃ q : Nat, q ≤ (bB (eB names n)).length ∧ i = .int .i64 q ∧ Hid (qi wo.heap.size w W2 wr o ((qh names n ++ qG names n k) ++ ((bB (eB names n)).take q).map fun t => pairT (gs (bB (eA names n)) k) t))) (fun _ i _ => (bB (eB names n)).length - (intOf i).toNat)
       case atStart => exact ⟨0, Nat.zero_le _, rfl, by rw [List.take_zero, List.map_nil, List.append_nil]; exact HAA.out⟩
       case round =>
        obtain ⟨q, hq, rfl, hB⟩ := hrel
        obtain ⟨wq, rfl⟩ : ∃ wq : World, wq = wr := ⟨_, rfl⟩
        have q0 : (0 : Int) ≤ (q : Int) := by omega
        by_cases LO : q < (bB (eB names n)).length
        ·obtain ⟨ab, ao, rfl, hca⟩ := bz (hB.out.strs iV.out) Ji.out
         obtain ⟨bb, bo, rfl, hcb⟩ := bz (hB.out.strs bY.out) LO
         have q1 : (q : Int) < ((bB (eB names n)).length : Int) := by omega
         have q2 : (q : Int) < 16 := by have := B1.out.1; omega
         have Qk := aa LO
         have gV : Hid (((bB (eB names n)).take (q + 1)).map (fun t => pairT (gs (bB (eA names n)) k) t) = ((bB (eB names n)).take q).map (fun t => pairT (gs (bB (eA names n)) k) t) ++ [pairT (gs (bB (eA names n)) k) (gs (bB (eB names n)) q)]) := by
          unfold Hid
          rw [List.take_succ_eq_append_getElem LO, List.map_append]
          simp [gs, LO]
         have z1 : (gs (bB (eA names n)) k).size ≤ 100 := HZS.out
         have z2 : (gs (bB (eB names n)) q).size ≤ 100 := B1.out.2 q
         obtain ⟨T, hT⟩ : ∃ T, T = (qh names n ++ qG names n k) ++ ((bB (eB names n)).take q).map fun t => pairT (gs (bB (eA names n)) k) t := ⟨_, rfl⟩
         have sj : Hid ((qh names n ++ qG names n k) ++ ((bB (eB names n)).take (q + 1)).map (fun t => pairT (gs (bB (eA names n)) k) t) = T ++ [pairT (gs (bB (eA names n)) k) (gs (bB (eB names n)) q)]) := by
          unfold Hid; rw [gV.out, ← List.append_assoc, ← hT]
         have tH : Hid (T.length ≤ 1000000) := by
          have a1 := HPF.out
          have a2 := HEK.out
          have a3 := B1.out.1
          unfold Hid
          rw [hT]
          simp only [List.length_append, List.length_map, List.length_take]
          omega
         rw [← hT] at hB
         have Ql := aa hB.out
         obtain ⟨oq, oc, IK, -⟩ := hB.out.own.form (n := T.length) (by rw [List.length_map])
         subst IK
         generalize gs (bB (eA names n)) k = sn at *
         generalize gs (bB (eB names n)) q = tm at *
         clear hB LO hT gV
         have y1 : (9223372036854775807 < 1 + sn.size) = False := by simp; omega
         have y2 : (9223372036854775807 < 1 + sn.size + 1) = False := by simp; omega
         have y3 : (9223372036854775807 < 1 + sn.size + 1 + tm.size) = False := by simp; omega
         have y4 : (9223372036854775807 < 1 + sn.size + 1 + tm.size + 1) = False := by simp; omega
         go_wp2_with fail
         refine dM (by kernel_rfl) 15 (fun w' => w'.cell? ⟨ab, ao + k, none⟩ = some (.string sn) ∧ w'.cell? ⟨bb, bo + q, none⟩ = some (.string tm)) ⟨hca, hcb⟩ (fun hS => ?_)
         simp only [List.size_toArray, List.length_cons, List.length_nil, Nat.reduceAdd, Array.replicate_succ, Array.replicate_zero, List.push_toArray, List.nil_append, List.cons_append]
         refine af.take (i := 0) (v := ?tq) rfl (by kernel_rfl) (fun _ _ _ h => h) (by rfl) (fun w hSw => ?iE) hS ?tr
         case iE =>
          (try dsimp only at hSw)
          go_simp
          try with_reducible rfl
         try simp only [Act.put, au, av, ax]
         refine af.take (i := 1) (v := ?tu) rfl (by kernel_rfl) (fun _ _ _ h => h) (by rfl) (fun w hSw => ?iF) hS ?tA
         case iF =>
          (try dsimp only at hSw)
          go_simp
          try with_reducible rfl
         try simp only [Act.put, au, av, ax]
         refine af.take (i := 2) (v := ?vM) rfl (by kernel_rfl) (fun _ _ _ h => h) (by rfl) (fun w hSw => ?jF) hS ?vO
         case jF =>
          (try dsimp only at hSw)
          go_simp
          try with_reducible rfl
         try simp only [Act.put, au, av, ax]
         refine af.take (i := 3) (v := ?vP) rfl (by kernel_rfl) (fun _ _ _ h => h) (by rfl) (fun w hSw => ?jG) hS ?vQ
         case jG =>
          (try dsimp only at hSw)
          go_simp
          try with_reducible rfl
         try simp only [Act.put, au, av, ax]
         refine af.take (i := 4) (v := ?vR) rfl (by kernel_rfl) (fun _ _ _ h => h) (by rfl) (fun w hSw => ?jH) hS ?vS
         case jH =>
          (try dsimp only at hSw)
          go_simp
          try with_reducible rfl
         try simp only [Act.put, au, av, ax]
         refine af.take (i := 5) (v := ?vT) rfl (by kernel_rfl) (fun _ _ _ h => h) (by rfl) (fun w hSw => ?jI) hS ?vU
         case jI =>
          (try dsimp only at hSw)
          go_simp
          try with_reducible rfl
         try simp only [Act.put, au, av, ax]
         refine af.take (i := 6) (v := ?zj) rfl (by kernel_rfl) (fun _ _ _ h => h) (by rfl) (fun w hSw => ?lM) hS ?zk
         case lM =>
          (try dsimp only at hSw)
          go_simp
          try with_reducible rfl
         try simp only [Act.put, au, av, ax]
         refine af.take (i := 7) (v := ?BW) rfl (by kernel_rfl) (fun _ _ _ h => h) (by rfl) (fun w hSw => ?nQ) hS ?BX
         case nQ =>
          (try dsimp only at hSw)
          go_simp
          try with_reducible rfl
         try simp only [Act.put, au, av, ax]
         refine af.take (i := 8) (v := ?MD) rfl (by kernel_rfl) (fun _ _ _ h => h) (by rfl) (fun w hSw => ?vV) hS ?ME
         case vV =>
          (try dsimp only at hSw)
          go_simp
          try with_reducible rfl
         try simp only [Act.put, au, av, ax]
         refine af.take (i := 9) (v := ?Va) rfl (by kernel_rfl) (fun _ _ _ h => h) (by rfl) (fun w hSw => ?Cb) hS ?Vb
         case Cb =>
          (try dsimp only at hSw)
          go_simp
          try with_reducible rfl
         try simp only [Act.put, au, av, ax]
         refine af.take (i := 10) (v := ?PM) rfl (by kernel_rfl) (fun _ _ _ h => h) (by rfl) (fun w hSw => ?yI) hS ?PN
         case yI =>
          (try dsimp only at hSw)
          go_simp
          try with_reducible rfl
         try simp only [Act.put, au, av, ax]
         refine af.take (i := 11) (v := ?ZT) rfl (by kernel_rfl) (fun _ _ _ h => h) (by rfl) (fun w hSw => ?Ir) hS ?ZU
         case Ir =>
          (try dsimp only at hSw)
          go_simp
          try with_reducible rfl
         try simp only [Act.put, au, av, ax]
         refine af.take (i := 12) (v := ?gv12k1) rfl (by kernel_rfl) (fun _ _ _ h => h) (by rfl) (fun w hSw => ?gy12k1) hS ?gr12k1
         case gy12k1 =>
          (try dsimp only at hSw)
          go_simp
          try with_reducible rfl
         try simp only [Act.put, au, av, ax]
         refine af.step (i := 13) rfl (by kernel_rfl) (fun K' hK => ?_)
         go_simp
         have bf := (Up.alloc wq (.cells #[.string (pairT sn tm)] 9)).trans (Up.drewN _ 1)
         have hAT := Ql.out.next bf
         have HS13 := aa (And.intro (bf.cell hca) (bf.cell hcb))
         have HC13 := aa (xP wq (.string (pairT sn tm)) 9)
         have qg := aa hAT
         clear bf hAT
         refine hK.out _ _ (fun _ => HS13.out) (fun hS => ?_)
         replace hS := hS ⟨14, by decide, rfl⟩
         try simp only [au, av, ax]
         refine af.step (i := 14) rfl (by kernel_rfl) (fun K' hK => ?_)
         refine fN (by rfl) _ _ _ (by rfl) w.heap.size 9 _ 16 Tryz.underlying22 Tryz.fo (by rfl) (by decide) (by rfl) qg.out.own (.string (pairT sn tm)) wq.heap.size (by rfl) HC13.out (by rfl) (by rw [List.length_map]; exact tH.out) (by obtain ⟨z1, z2, z3⟩ := qg.out.sz; exact Nat.le_trans z1 (Nat.le_trans z2 z3)) ?_
         intro g8 c8 w8 ho8 hg8 hr8 _
         have Ad := qg.out.app ho8 hg8 (hr8.imp id fun e => Nat.le_of_eq e.symm)
         have ZM := aa Ad
         clear ho8 hg8 hr8 Ad
         refine hK.out _ _ (aJ (by kernel_rfl)) (fun _ => ?_)
         try simp only [Act.put, au, av, ax]
         refine af.step (i := 15) rfl (by kernel_rfl) (fun K' hK => ?_)
         go_simp
         refine hK.out _ _ (aJ (by kernel_rfl)) (fun _ => ?_)
         refine af.done (by kernel_rfl) ?_
         go_wp2_with fail
         go_roundw
         case rel => exact ⟨q + 1, Qk.out, by go_num, by rw [sj.out]; have h := ZM.out; rw [List.length_map] at h; exact h⟩
         case measure => have := Qk.out; simp [intOf]; omega
        ·obtain rfl : q = (bB (eB names n)).length := by omega
         have Ql : Hid (qi wo.heap.size w W2 wq u3 (qh names n ++ qG names n (k + 1))) := by
          have h := hB.out
          rw [List.take_length] at h
          unfold Hid
          rw [O6.out, ← List.append_assoc]; exact h
         clear hB LO
         go_wp2_with fail
         go_roundw
         case rel => exact ⟨k + 1, Ji.out, by go_num, Ql.out⟩
         case measure => have := Ji.out; simp [intOf]; omega
      ·obtain rfl : k = (bB (eA names n)).length := by omega
       have Ql : Hid (RfI w names (n + 1) u3 wp) := by
        have h := hA.out
        rw [Ww, ← S7] at h
        exact ⟨h.up, h.own⟩
       clear hA hlk
       go_wp2_with fail
       go_roundw
       case rel => exact ⟨n + 1, aV.out, by go_num, Ql.out⟩
       case measure => have := aV.out; simp [intOf]; omega
  ·obtain rfl : n = M - 1 := by omega
   have i1 : ¬ ((M - 1 : Nat) : Int) < ((M - 1 : Nat) : Int) := by omega
   have ey : Hid (vh w names (.returned u3) wo) := by
    refine ⟨dH, _, rfl, ?_⟩
    have e : bB names = qh names (M - 1) := by rw [rfT_eq h2, HM.out]; rfl
    rw [e]; exact Vr
   clear hI dH Vr hlt
   go_wp2_with fail
   go_ret
   exact ey.out
end
section
open Go.RowKit Go.Deep
def Vs (names : List ByteArray) (k : Nat) : Int := ir (names.take k) (gs names k)
theorem WC (names : List ByteArray) {k : Nat} (hk : k < names.length) : dm names k = decide (0 ≤ Vs names k) := by
 unfold Vs
 have h1 : 0 ≤ ir (names.take k) (gs names k) ↔ ∃ j, j < (names.take k).length ∧ gs (names.take k) j = gs names k := FJ
 have h2 : dm names k = true ↔ ∃ j, j < k ∧ gs names j = gs names k := by
  unfold dm
  rw [List.any_eq_true]
  constructor
  ·rintro ⟨j, hj, h⟩; exact ⟨j, List.mem_range.1 hj, of_decide_eq_true h⟩
  ·rintro ⟨j, hj, h⟩; exact ⟨j, List.mem_range.2 hj, decide_eq_true h⟩
 have h3 : (∃ j, j < (names.take k).length ∧ gs (names.take k) j = gs names k) ↔ ∃ j, j < k ∧ gs names j = gs names k := by
  have hl : (names.take k).length = k := by rw [List.length_take]; omega
  rw [hl]
  constructor
  ·rintro ⟨j, hj, h⟩; exact ⟨j, hj, by rw [← h]; simp [gs, hj]⟩
  ·rintro ⟨j, hj, h⟩; exact ⟨j, hj, by rw [← h]; simp [gs, hj]⟩
 by_cases e : dm names k = true
 ·rw [e, decide_eq_true (h1.2 (h3.2 (h2.1 e)))]
 ·rw [Bool.not_eq_true] at e
  rw [e, decide_eq_false fun h => by rw [h2.2 (h3.1 (h1.1 h))] at e; cases e]
set_option maxHeartbeats 2000000 in
theorem Cw (S : Nat → Prop) (w : World) (v : Value) (names : List ByteArray) (h : ah S w v names) (hn : names.length ≤ 1000000) (hz : ∀ k, (gs names k).size ≤ 70000) :
  Calls Tryz.prog 112 #[v] w fun e w' => e = .returned (.int .i64 (bW names)) ∧ Up w w' := by
 obtain ⟨p, cap, rfl, hcap, _⟩ := aB.open h
 have h : ah S w (.slice p names.length cap) names := h
 have HC : Hid (bW names = if names.length < 2 ∨ 7 < names.length then 4 else firstNZ (dO names) names.length) := rfl
 have HN := aa h
 have HZ := aa hz
 clear h hz
 by_cases h1 : names.length < 2
 ·go_enter Tryz.func112, Tryz.ntmps112
  go_wp2_with fail
  go_ret
  exact ⟨aI (by rw [HC.out, if_pos (.inl h1)]), Up.refl _⟩
 by_cases h2 : 7 < names.length
 ·go_enter Tryz.func112, Tryz.ntmps112
  go_wp2_with fail
  go_ret
  exact ⟨aI (by rw [HC.out, if_pos (.inr h2)]), Up.refl _⟩
 have HF : Hid (bW names = firstNZ (dO names) names.length) := by unfold Hid; rw [HC.out, if_neg (by omega)]
 clear HC
 have uX : Hid (∀ k, k < names.length → (∀ j, j < k → dO names j = 0) → dO names k ≠ 0 → bW names = dO names k) := fun k hk hj h0 => by
  rw [HF.out, fG hk hj h0]
 go_enter Tryz.func112, Tryz.ntmps112
 go_wp2_with fail
 go_loopw [3] (fun i wr => ∃ k : Nat, k ≤ names.length ∧ i = .int .i64 k ∧ Hid (Up w wr ∧ ∀ j, j < k → dO names j = 0)) (fun i _ => names.length - (intOf i).toNat)
 case atStart => exact ⟨0, Nat.zero_le _, rfl, Up.refl _, fun j hj => absurd hj (Nat.not_lt_zero _)⟩
 case round =>
  obtain ⟨k, hk, rfl, hd⟩ := hrel
  obtain ⟨wo, rfl⟩ : ∃ wo : World, wo = wr := ⟨_, rfl⟩
  by_cases hlt : k < names.length
  ·have IY := ah.keep HN.out (hd.out.1.kept S)
   obtain ⟨Co, no, rfl, hc⟩ := bz IY hlt
   have fS := aa (Qd (gs names k) (HZ.out k) wo)
   have Aa : Hid (∀ W, Up wo W → ∀ m, Calls Tryz.prog 143 #[.slice (some ⟨Co, no, none⟩) k cap, .string (gs names k)] (W.drewN m) fun e w'' => e = .returned (.int .i64 (Vs names k)) ∧ ∃ m', w'' = W.drewN m') := fun W hW m => by
    have h1 := EA (ah.keep IY ((hW.trans (Up.drewN _ m)).kept S)) hk
    have h2 : ah S (W.drewN m) (.slice (some ⟨Co, no, none⟩) k cap) (names.take k) := by
     have hl : (names.take k).length = k := by rw [List.length_take]; omega
     have h3 := h1.congr (g := fun j => .string (gs (names.take k) j)) fun j hj => by simp [gs, hj]
     unfold ah
     rw [hl]; exact h3
    exact (Ng S (W.drewN m) _ (names.take k) (gs names k) h2 (by rw [List.length_take]; omega)).mono fun e w' ⟨h4, h5⟩ => ⟨h4, m, h5.symm⟩
   have DT := aa (WC names hlt)
   have IZ := aa (uX.out k hlt hd.out.2)
   have yP : Hid (dO names k = if aY (gs names k).data.toList then (if dm names k then 7 else 0) else 14) := rfl
   generalize Vs names k = ix at *
   generalize gs names k = nm at *
   generalize dm names k = bs at *
   generalize aY nm.data.toList = bn at *
   clear IY
   cases bn
   ·have HE : Hid (dO names k = 14) := yP.out
    go_wp2_with fail
    refine fS.out.mono ?_
    rintro e w1 ⟨rfl, aR⟩
    have bH := aa (hd.out.1.trans aR)
    clear aR
    go_wp2_with fail
    go_ret
    exact ⟨aI ((IZ.out (by rw [HE.out]; decide)).trans HE.out).symm, bH.out⟩
   ·cases bs
    ·have HE : Hid (dO names k = 0) := yP.out
     go_wp2_with fail
     refine fS.out.mono ?_
     rintro e w1 ⟨rfl, aR⟩
     have bH := aa (hd.out.1.trans aR)
     have A5 := aa (Aa.out w1 aR)
     have hc1 := (show Up wo w1 from aR).cell hc
     have d9 : decide (0 ≤ ix) = false := by have := DT.out; simp at this; simp; omega
     clear aR
     go_wp2_with fail
     go_quiet (with_reducible exact A5.out _)
     go_wp2_with fail
     go_roundw
     case rel => exact ⟨k + 1, by omega, by go_num, bH.out.trans (Up.drewN _ _), fun j hj => if e : j = k then by subst e; exact HE.out else hd.out.2 j (by omega)⟩
     case measure => simp [intOf]; omega
    ·have HE : Hid (dO names k = 7) := yP.out
     go_wp2_with fail
     refine fS.out.mono ?_
     rintro e w1 ⟨rfl, aR⟩
     have bH := aa (hd.out.1.trans aR)
     have A5 := aa (Aa.out w1 aR)
     have hc1 := (show Up wo w1 from aR).cell hc
     have d9 : decide (0 ≤ ix) = true := by have := DT.out; simp at this; simp; omega
     clear aR
     go_wp2_with fail
     go_quiet (with_reducible exact A5.out _)
     go_wp2_with fail
     go_ret
     exact ⟨aI ((IZ.out (by rw [HE.out]; decide)).trans HE.out).symm, bH.out.trans (Up.drewN _ _)⟩
  ·obtain rfl : k = names.length := by omega
   have mQ : Hid (bW names = 0) := by unfold Hid; rw [HF.out, dJ hd.out.2]
   go_wp2_with fail
   go_ret
   exact ⟨aI mQ.out.symm, hd.out.1⟩
end
end Go.Proofs.YthgabkgmkolobaaGreat
