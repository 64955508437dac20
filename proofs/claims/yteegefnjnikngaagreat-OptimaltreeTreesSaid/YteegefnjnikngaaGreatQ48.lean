/- Reference 34: rooted, the texts of all rooted binary trees of names. -/
import Derived.Test.YteegefnjnikngaaGreatQ1
import Derived.Test.YteegefnjnikngaaGreatQ46
import Derived.Test.YteegefnjnikngaaGreatQ8
import Derived.Test.YteegefnjnikngaaGreatQ18
set_option maxRecDepth 100000
namespace Go.Proofs.YteegefnjnikngaaGreat
open Go.RowKit Go.Deep
theorem az.Qp (w : World) (e : TypeId) (u : Value) : az w.heap.size e (w.alloc (.cells #[u] e)) (.slice (some ⟨w.heap.size, 0, none⟩) 1 1) [u] := EF w _ e u (Nat.le_refl _)
theorem Md (w : World) (x : ByteArray) : Dup w.heap.size ((w.alloc (.cells #[.string x] 9)).alloc (.cells #[] 9)) (.slice (some ⟨w.heap.size, 0, none⟩) 1 1) (.slice (some ⟨w.heap.size + 1, 0, none⟩) 0 0) [x] [] := by
 have h1 := az.Qp w 9 (.string x)
 have h2 := az.made (w.alloc (.cells #[.string x] 9)) 9
 have hs : (w.alloc (.cells #[.string x] 9)).heap.size = w.heap.size + 1 := World.size_alloc _ _
 rw [hs] at h2
 refine ⟨h1.eV fun b hb => Below.block (Up.alloc _ _) b (aD h1 hb).2, ⟨by have := h2.1; omega, ?_⟩, fun b hb hb2 => ?_⟩
 ·rcases h2.2 with h | ⟨g, c, cur, e, hg, h⟩
  ·exact .inl h
  ·exact .inr ⟨g, c, cur, e, by omega, h⟩
 ·injection hb with hb
  injection hb2 with hb2
  have hb : w.heap.size = b := hb
  have hb2 : w.heap.size + 1 = b := hb2
  omega
def rZ (w : World) (names : List ByteArray) (e : Ending) (w' : World) : Prop := Up w w' ∧ ∃ v, e = .returned v ∧ az w.heap.size 9 w' v ((bf names).map Value.string)
def VW (w : World) (names : List ByteArray) (n : Nat) (out : Value) (wr : World) : Prop := Up w wr ∧ az w.heap.size 9 wr out ((nh names n).map Value.string)
theorem RH {n : Nat} (h : n ≤ 4) (h1 : 1 ≤ n) : 2 ^ (n - 1) ≤ 8 ∧ 1 ≤ 2 ^ (n - 1) := by
 have : 2 ^ (n - 1) ≤ 2 ^ 3 := Nat.pow_le_pow_right (by decide) (by omega)
 exact ⟨by omega, Nat.one_le_two_pow⟩
set_option maxHeartbeats 8000000 in
theorem F0 : ∀ (d : Nat) (names : List ByteArray), names.length ≤ d → 1 ≤ names.length → names.length ≤ 4 → (∀ x ∈ names, x.size ≤ 20) → ∀ (S : Nat → Prop) (w : World) (v : Value), au S w v names → Calls Tryz.prog 152 #[v] w (rZ w names) := by
 intro d
 induction d with
 | zero => intro names h1 h2; omega
 | succ d ih =>
 intro names hd h1 h4 hz S w v h
 obtain ⟨mp, mc, rfl, Ur, -⟩ := aA.open h
 have h : au S w (.slice mp names.length mc) names := h
 obtain ⟨nb, no, rfl, hc0⟩ := bQ h (k := 0) (by omega)
 rw [Nat.add_zero] at hc0
 by_cases hone : names.length = 1
 ·have d1 : ((names.length : Int) == 1) = true := by rw [hone]; rfl
  have hrt : bf names = [gs names 0] := by
   obtain ⟨x, rfl⟩ := List.length_eq_one_iff.1 hone
   exact Rs x
  have HX : Hid (rZ w names (.returned (.slice (some ⟨w.heap.size, 0, none⟩) 1 1)) (w.alloc (.cells #[.string (gs names 0)] 9))) := ⟨Up.alloc _ _, _, rfl, by rw [hrt]; exact az.Qp _ _ _⟩
  have i1 : (0 : Int) < (names.length : Int) := by omega
  clear h hrt ih hz hd h4
  go_enter Tryz.func152, Tryz.ntmps152
  go_wp2_with fail
  go_ret
  exact HX.out
 have d1 : ((names.length : Int) == 1) = false := beq_eq_false_iff_ne.2 (by omega)
 have h2 : 2 ≤ names.length := by omega
 have ir := aa ih
 have HH := aa h
 have HZ := aa hz
 have HD := aa hd
 have dR := aa hc0
 obtain ⟨M, hM⟩ : ∃ M : Nat, M = 2 ^ (names.length - 1) := ⟨_, rfl⟩
 have LD := RH h4 h1
 rw [← hM] at LD
 have HM := aa hM
 have Me := aa LD
 have hWS : wrap64 ((names.length : Int) - 1) = ((names.length - 1 : Nat) : Int) := by
  unfold wrap64; omega
 have UT : Hid (VW w names 0 (.slice (some ⟨w.heap.size, 0, none⟩) 0 0) (w.alloc (.cells #[] 9))) := ⟨Up.alloc _ _, by unfold nh; exact az.made _ _⟩
 have tQ := aa h4
 have i0 : (0 : Int) < (names.length : Int) := by omega
 clear ih h hz hd h1 hone hc0 hM LD
 go_enter Tryz.func152, Tryz.ntmps152
 go_wp2_with fail
 go_loopw [3, 4, 5, 6, 7, 8, 9, 10, 11] (fun out i _ _ _ _ _ _ _ wr => ∃ n : Nat, n ≤ M - 1 ∧ i = .int .i64 n ∧ Hid (VW w names n out wr)) (fun _ i _ _ _ _ _ _ _ _ => M - 1 - (intOf i).toNat)
 case atStart => exact ⟨0, Nat.zero_le _, rfl, UT.out⟩
 case round =>
  obtain ⟨n, hn, rfl, hI⟩ := hrel
  obtain ⟨wo, rfl⟩ : ∃ wo : World, wo = wr := ⟨_, rfl⟩
  obtain ⟨eM, Qq⟩ := hI.out
  have Qb : wrap64 ((2 : Int) ^ (names.length - 1)) = (M : Int) := by
   have : ((2 : Int) ^ (names.length - 1)) = (M : Int) := by rw [HM.out]; simp
   rw [this]; unfold wrap64; have := Me.out; omega
  have hWN : wrap64 ((M : Int) - 1) = ((M - 1 : Nat) : Int) := by unfold wrap64; have := Me.out; omega
  have j0 : (0 : Int) ≤ (n : Int) := by omega
  by_cases hlt : n < M - 1
  ·have i1 : (n : Int) < ((M - 1 : Nat) : Int) := by omega
   have i2 : (n : Int) < 8 := by have := Me.out; omega
   have hc0 := eM.cell dR.out
   have hlt2 : n < 2 ^ (names.length - 1) - 1 := by rw [← HM.out]; exact hlt
   obtain ⟨l1, l2, l3, l4⟩ := e_len h2 hlt2
   obtain ⟨m1, m2⟩ := XE (L := names) (by omega) hlt2
   have EM : ∀ x ∈ eA names n, x.size ≤ 20 := fun x hx => HZ.out x (m1 x hx)
   have hzb : ∀ x ∈ eB names n, x.size ≤ 20 := fun x hx => HZ.out x (m2 x hx)
   have zb : Hid (∀ S W v, au S W v (eA names n) → Calls Tryz.prog 152 #[v] W (rZ W (eA names n))) := fun S W v hv => ir.out (eA names n) (by have := HD.out; omega) l2 (by have := tQ.out; omega) EM S W v hv
   have gG : Hid (∀ S W v, au S W v (eB names n) → Calls Tryz.prog 152 #[v] W (rZ W (eB names n))) := fun S W v hv => ir.out (eB names n) (by have := HD.out; omega) l4 (by have := tQ.out; omega) hzb S W v hv
   have uK : Hid ((bf (eA names n)).length ≤ 15 ∧ ∀ k, (gs (bf (eA names n)) k).size ≤ 100) := ⟨mE (by have := tQ.out; omega), gZ fun x hx => xX (by have := tQ.out; omega) EM hx⟩
   have yR : Hid ((bf (eB names n)).length ≤ 15 ∧ ∀ k, (gs (bf (eB names n)) k).size ≤ 100) := ⟨mE (by have := tQ.out; omega), gZ fun x hx => xX (by have := tQ.out; omega) hzb hx⟩
   have HE4 : Hid ((eA names n).length ≤ 4 ∧ (eB names n).length ≤ 4) := ⟨by have := tQ.out; omega, by have := tQ.out; omega⟩
   have Vq : Hid ((nh names n).length ≤ 8 * 225) := by
    have h5 := Ru h2 tQ.out (n := n) (by omega)
    have := Me.out.1
    exact Nat.le_trans h5 (Nat.mul_le_mul_right _ (by omega))
   have Qc := aa (Md wo (gs names 0))
   have bF := aa ((Up.alloc wo (.cells #[.string (gs names 0)] 9)).trans (Up.alloc _ (.cells #[] 9)))
   have p9 := aa eM
   have VX := aa Qq
   have aQ := aa hlt
   clear hlt hlt2 l1 l2 l3 l4 m1 m2 EM hzb hI eM Qq
   go_wp2_with fail
   generalize (wo.alloc (.cells #[.string (gs names 0)] 9)).alloc (.cells #[] 9) = w1 at *
   clear hWS Qb hWN
   go_loopw [5, 6, 7] (fun a b i wr => ∃ m : Nat, m ≤ names.length - 1 ∧ i = .int .i64 ((m : Int) + 1) ∧ Hid (Dup wo.heap.size wr a b (vv names n m) (vw names n m)) ∧ Hid (Up wo wr)) (fun _ _ i _ => names.length - (intOf i).toNat)
   case atStart => exact ⟨0, Nat.zero_le _, rfl, Qc.out, bF.out⟩
   case round =>
    obtain ⟨m, hm, rfl, hD, hU⟩ := hrel
    obtain ⟨wi, rfl⟩ : ∃ wi : World, wi = wr := ⟨_, rfl⟩
    have k0 : (0 : Int) ≤ (m : Int) := by omega
    have kw : wrap64 ((m : Int) + 1 - 1) = (m : Int) := by unfold wrap64; have := tQ.out; omega
    by_cases hlm : m < names.length - 1
    ·have hcm := (p9.out.trans hU.out).cell (aA.SE HH.out (show m + 1 < names.length by omega))
     have k1 : (m : Int) + 1 < (names.length : Int) := by omega
     have k2 : (m : Int) < 4 := by have := tQ.out; omega
     have rP : bits BinOp.and IntKind.i64 ((n : Int) / 2 ^ m) 1 = if n.testBit m then 1 else 0 := by
      have e : (n : Int) / 2 ^ m = ((n / 2 ^ m : Nat) : Int) := by simp
      have : n / 2 ^ m ≤ n := Nat.div_le_self _ _
      rw [e, EJ _ (by have := Me.out; have := aQ.out; omega), GQ]
     obtain ⟨e1, e2⟩ := OG names n m (by omega)
     have gI := aa e1
     have bH := aa e2
     have EN := aa hlm
     have dW : Hid (((vv names n m).map Value.string).length ≤ 1000000 ∧ ((vw names n m).map Value.string).length ≤ 1000000) := by
      have a1 := kP (fun i => n.testBit i) names.tail m
      have a2 := kP (fun i => !n.testBit i) names.tail m
      have := tQ.out
      unfold Hid vv vw
      rw [List.length_map, List.length_map, List.length_cons]
      omega
     have b5 : Hid (wo.heap.size ≤ wi.heap.size) := hU.out.size
     obtain ⟨ap, ac, rfl, -⟩ := hD.out.ao.form rfl
     obtain ⟨bp, bc, rfl, -⟩ := hD.out.bo.form rfl
     have r4 := aa hD.out
     have tB := aa hU.out
     clear hD hU hlm e1 e2
     cases hb : n.testBit m
     ·rw [hb] at rP gI bH
      have rP : bits BinOp.and IntKind.i64 ((n : Int) / 2 ^ m) 1 = 0 := rP
      have OP : Hid (vv names n (m + 1) = vv names n m) := by unfold Hid; rw [gI.out]; simp
      have OQ : Hid (vw names n (m + 1) = vw names n m ++ [gs names (m + 1)]) := by unfold Hid; rw [bH.out]; simp
      clear hb gI bH
      go_wp2_with (at_builtin; refine gA wi rfl _ _ 22 rfl wo.heap.size 9 (.string ⟨#[]⟩) 16 Tryz.underlying22 Tryz.gy rfl (by decide) r4.out.bo rfl (.string (gs names (m + 1))) rfl rfl _ rfl dW.out.2 b5.out ?_; intro g8 iG w8 bZ cH fI; have EL := aa (r4.out.Vk bZ cH fI); have mW := aa (r4.out.bo.cQ cH b5.out); clear bZ cH fI)
      go_roundw
      case rel => exact ⟨m + 1, EN.out, by go_num, by rw [OP.out, OQ.out]; have q := EL.out; simp only [List.length_map] at q ⊢; exact q, Below.trans (show Below wo.heap.size wo wi from tB.out) mW.out⟩
      case measure => have := EN.out; simp [intOf]; omega
     ·rw [hb] at rP gI bH
      have rP : bits BinOp.and IntKind.i64 ((n : Int) / 2 ^ m) 1 = 1 := rP
      have OP : Hid (vv names n (m + 1) = vv names n m ++ [gs names (m + 1)]) := by unfold Hid; rw [gI.out]; simp
      have OQ : Hid (vw names n (m + 1) = vw names n m) := by unfold Hid; rw [bH.out]; simp
      clear hb gI bH
      go_wp2_with (at_builtin; refine gA wi rfl _ _ 22 rfl wo.heap.size 9 (.string ⟨#[]⟩) 16 Tryz.underlying22 Tryz.gy rfl (by decide) r4.out.ao rfl (.string (gs names (m + 1))) rfl rfl _ rfl dW.out.1 b5.out ?_; intro g8 iG w8 bZ cH fI; have EL := aa (r4.out.Vj bZ cH fI); have mW := aa (r4.out.ao.cQ cH b5.out); clear bZ cH fI)
      go_roundw
      case rel => exact ⟨m + 1, EN.out, by go_num, by rw [OP.out, OQ.out]; have q := EL.out; simp only [List.length_map] at q ⊢; exact q, Below.trans (show Below wo.heap.size wo wi from tB.out) mW.out⟩
      case measure => have := EN.out; simp [intOf]; omega
    ·obtain rfl : m = names.length - 1 := by omega
     rw [(He names n).1, (He names n).2] at hD
     obtain ⟨ap, ac, rfl, -⟩ := hD.out.ao.form (n := (eA names n).length) (by rw [List.length_map])
     obtain ⟨bp, bc, rfl, -⟩ := hD.out.bo.form (n := (eB names n).length) (by rw [List.length_map])
     have HA1 := aa (zb.out _ wi _ hD.out.ao.strs)
     have kI := aa hD.out.bo.strs
     have tB := aa hU.out
     have i9 : ¬ ((names.length - 1 : Nat) : Int) + 1 < (names.length : Int) := by omega
     clear hD hU hlm hm kw
     go_wp2_with fail
     refine HA1.out.mono ?_
     rintro e W1 ⟨aS, sa, rfl, rH⟩
     have eO := aa (gG.out _ W1 _ (au.keep kI.out (aS.kept _)))
     have BR := aa aS
     clear aS HA1
     go_wp2_with fail
     refine eO.out.mono ?_
     rintro e W2 ⟨aF, sb, rfl, lU⟩
     have hz1 := BR.out.size
     have hz2 := aF.size
     have hz0 := tB.out.size
     obtain ⟨lp, lc, rfl, -⟩ := rH.form (n := (bf (eA names n)).length) (by rw [List.length_map])
     obtain ⟨rp, rc, rfl, -⟩ := lU.form (n := (bf (eB names n)).length) (by rw [List.length_map])
     have gI : Hid (au (fun b => wo.heap.size ≤ b ∧ b < W2.heap.size) W2 (.slice lp (bf (eA names n)).length lc) (bf (eA names n))) := (au.keep rH.strs (aF.kept _)).sub fun b hb hl => ⟨by omega, hl⟩
     have bH : Hid (au (fun b => wo.heap.size ≤ b ∧ b < W2.heap.size) W2 (.slice rp (bf (eB names n)).length rc) (bf (eB names n))) := lU.strs.sub fun b hb hl => ⟨by omega, hl⟩
     have HW2 := aa ((tB.out.trans BR.out).trans aF)
     have HAT0 : Hid (ni wo.heap.size w W2 W2 u3 (nh names n ++ nK names n 0)) := by
      have e0 : nh names n ++ nK names n 0 = nh names n := by unfold nK; simp
      rw [e0]
      have hzw := p9.out.size
      refine ⟨p9.out.trans HW2.out, ⟨hzw, by omega, Nat.le_refl _⟩, VX.out.eV fun b hb => Below.block HW2.out b (aD VX.out hb).2, fun b hb => .inl (aD VX.out hb).2, fun _ _ _ => rfl⟩
     clear rH lU aF hz0 hz1 hz2 eO kI BR zb gG tB
     go_wp2_with fail
     go_loopw [3, 10, 11] (fun o i _ wr => ∃ k : Nat, k ≤ (bf (eA names n)).length ∧ i = .int .i64 k ∧ Hid (ni wo.heap.size w W2 wr o (nh names n ++ nK names n k))) (fun _ i _ _ => (bf (eA names n)).length - (intOf i).toNat)
     case atStart => exact ⟨0, Nat.zero_le _, rfl, HAT0.out⟩
     case round =>
      obtain ⟨k, hk, rfl, hA⟩ := hrel
      obtain ⟨wp, rfl⟩ : ∃ wp : World, wp = wr := ⟨_, rfl⟩
      have k0 : (0 : Int) ≤ (k : Int) := by omega
      by_cases hlk : k < (bf (eA names n)).length
      ·have k1 : (k : Int) < ((bf (eA names n)).length : Int) := by omega
       have k2 : (k : Int) < 16 := by have := uK.out.1; omega
       have Fo := aa hlk
       have KR := aa (OE names n hlk)
       have HZS : Hid ((gs (bf (eA names n)) k).size ≤ 100) := uK.out.2 k
       have hEK : (nK names n k).length ≤ 225 := Rw HE4.out.1 HE4.out.2
       have HEK := aa hEK
       have HAA := aa hA.out
       clear hA hlk hEK
       go_wp2_with fail
       go_loopw [3, 11] (fun o i wr => ∃ q : Nat, q ≤ (bf (eB names n)).length ∧ i = .int .i64 q ∧ Hid (ni wo.heap.size w W2 wr o ((nh names n ++ nK names n k) ++ ((bf (eB names n)).take q).map fun t => pairT (gs (bf (eA names n)) k) t))) (fun _ i _ => (bf (eB names n)).length - (intOf i).toNat)
       case atStart => exact ⟨0, Nat.zero_le _, rfl, by rw [List.take_zero, List.map_nil, List.append_nil]; exact HAA.out⟩
       case round =>
        obtain ⟨q, hq, rfl, hB⟩ := hrel
        obtain ⟨wq, rfl⟩ : ∃ wq : World, wq = wr := ⟨_, rfl⟩
        have q0 : (0 : Int) ≤ (q : Int) := by omega
        by_cases Hg : q < (bf (eB names n)).length
        ·obtain ⟨ab, ao, rfl, hca⟩ := bQ (hB.out.strs gI.out) Fo.out
         obtain ⟨bb, bo, rfl, hcb⟩ := bQ (hB.out.strs bH.out) Hg
         have q1 : (q : Int) < ((bf (eB names n)).length : Int) := by omega
         have q2 : (q : Int) < 16 := by have := yR.out.1; omega
         have Mf := aa Hg
         have fH : Hid (((bf (eB names n)).take (q + 1)).map (fun t => pairT (gs (bf (eA names n)) k) t) = ((bf (eB names n)).take q).map (fun t => pairT (gs (bf (eA names n)) k) t) ++ [pairT (gs (bf (eA names n)) k) (gs (bf (eB names n)) q)]) := by
          unfold Hid
          rw [List.take_succ_eq_append_getElem Hg, List.map_append]
          simp [gs, Hg]
         have z1 : (gs (bf (eA names n)) k).size ≤ 100 := HZS.out
         have z2 : (gs (bf (eB names n)) q).size ≤ 100 := yR.out.2 q
         obtain ⟨T, hT⟩ : ∃ T, T = (nh names n ++ nK names n k) ++ ((bf (eB names n)).take q).map fun t => pairT (gs (bf (eA names n)) k) t := ⟨_, rfl⟩
         have yX : Hid ((nh names n ++ nK names n k) ++ ((bf (eB names n)).take (q + 1)).map (fun t => pairT (gs (bf (eA names n)) k) t) = T ++ [pairT (gs (bf (eA names n)) k) (gs (bf (eB names n)) q)]) := by
          unfold Hid; rw [fH.out, ← List.append_assoc, ← hT]
         have qx : Hid (T.length ≤ 1000000) := by
          have a1 := Vq.out
          have a2 := HEK.out
          have a3 := yR.out.1
          unfold Hid
          rw [hT]
          simp only [List.length_append, List.length_map, List.length_take]
          omega
         rw [← hT] at hB
         have Mg := aa hB.out
         obtain ⟨oq, oc, EO, -⟩ := hB.out.own.form (n := T.length) (by rw [List.length_map])
         subst EO
         generalize gs (bf (eA names n)) k = sn at *
         generalize gs (bf (eB names n)) q = tm at *
         clear hB Hg hT fH
         have y1 : (9223372036854775807 < 1 + sn.size) = False := by simp; omega
         have y2 : (9223372036854775807 < 1 + sn.size + 1) = False := by simp; omega
         have y3 : (9223372036854775807 < 1 + sn.size + 1 + tm.size) = False := by simp; omega
         have y4 : (9223372036854775807 < 1 + sn.size + 1 + tm.size + 1) = False := by simp; omega
         go_wp2_with fail
         refine cZ (by kernel_rfl) 15 (fun w' => w'.cell? ⟨ab, ao + k, none⟩ = some (.string sn) ∧ w'.cell? ⟨bb, bo + q, none⟩ = some (.string tm)) ⟨hca, hcb⟩ (fun hS => ?_)
         simp only [List.size_toArray, List.length_cons, List.length_nil, Nat.reduceAdd, Array.replicate_succ, Array.replicate_zero, List.push_toArray, List.nil_append, List.cons_append]
         refine af.take (i := 0) (v := ?sH) rfl (by kernel_rfl) (fun _ _ _ h => h) (by rfl) (fun w hSw => ?iD) hS ?sI
         case iD =>
          (try dsimp only at hSw)
          go_simp
          try with_reducible rfl
         try simp only [Act.put, ah, aj, aq]
         refine af.take (i := 1) (v := ?sJ) rfl (by kernel_rfl) (fun _ _ _ h => h) (by rfl) (fun w hSw => ?iE) hS ?sK
         case iE =>
          (try dsimp only at hSw)
          go_simp
          try with_reducible rfl
         try simp only [Act.put, ah, aj, aq]
         refine af.take (i := 2) (v := ?vE) rfl (by kernel_rfl) (fun _ _ _ h => h) (by rfl) (fun w hSw => ?jC) hS ?vF
         case jC =>
          (try dsimp only at hSw)
          go_simp
          try with_reducible rfl
         try simp only [Act.put, ah, aj, aq]
         refine af.take (i := 3) (v := ?vG) rfl (by kernel_rfl) (fun _ _ _ h => h) (by rfl) (fun w hSw => ?jD) hS ?vH
         case jD =>
          (try dsimp only at hSw)
          go_simp
          try with_reducible rfl
         try simp only [Act.put, ah, aj, aq]
         refine af.take (i := 4) (v := ?vI) rfl (by kernel_rfl) (fun _ _ _ h => h) (by rfl) (fun w hSw => ?jE) hS ?vJ
         case jE =>
          (try dsimp only at hSw)
          go_simp
          try with_reducible rfl
         try simp only [Act.put, ah, aj, aq]
         refine af.take (i := 5) (v := ?vK) rfl (by kernel_rfl) (fun _ _ _ h => h) (by rfl) (fun w hSw => ?jF) hS ?vL
         case jF =>
          (try dsimp only at hSw)
          go_simp
          try with_reducible rfl
         try simp only [Act.put, ah, aj, aq]
         refine af.take (i := 6) (v := ?yO) rfl (by kernel_rfl) (fun _ _ _ h => h) (by rfl) (fun w hSw => ?lK) hS ?yP
         case lK =>
          (try dsimp only at hSw)
          go_simp
          try with_reducible rfl
         try simp only [Act.put, ah, aj, aq]
         refine af.take (i := 7) (v := ?Cr) rfl (by kernel_rfl) (fun _ _ _ h => h) (by rfl) (fun w hSw => ?nT) hS ?Cs
         case nT =>
          (try dsimp only at hSw)
          go_simp
          try with_reducible rfl
         try simp only [Act.put, ah, aj, aq]
         refine af.take (i := 8) (v := ?IC) rfl (by kernel_rfl) (fun _ _ _ h => h) (by rfl) (fun w hSw => ?sL) hS ?ID
         case sL =>
          (try dsimp only at hSw)
          go_simp
          try with_reducible rfl
         try simp only [Act.put, ah, aj, aq]
         refine af.take (i := 9) (v := ?PV) rfl (by kernel_rfl) (fun _ _ _ h => h) (by rfl) (fun w hSw => ?y7) hS ?PW
         case y7 =>
          (try dsimp only at hSw)
          go_simp
          try with_reducible rfl
         try simp only [Act.put, ah, aj, aq]
         refine af.take (i := 10) (v := ?Lx) rfl (by kernel_rfl) (fun _ _ _ h => h) (by rfl) (fun w hSw => ?uY) hS ?Lz
         case uY =>
          (try dsimp only at hSw)
          go_simp
          try with_reducible rfl
         try simp only [Act.put, ah, aj, aq]
         refine af.take (i := 11) (v := ?U3) rfl (by kernel_rfl) (fun _ _ _ h => h) (by rfl) (fun w hSw => ?EA) hS ?U4
         case EA =>
          (try dsimp only at hSw)
          go_simp
          try with_reducible rfl
         try simp only [Act.put, ah, aj, aq]
         refine af.take (i := 12) (v := ?gv12k1) rfl (by kernel_rfl) (fun _ _ _ h => h) (by rfl) (fun w hSw => ?VY) hS ?gr12k1
         case VY =>
          (try dsimp only at hSw)
          go_simp
          try with_reducible rfl
         try simp only [Act.put, ah, aj, aq]
         refine af.step (i := 13) rfl (by kernel_rfl) (fun K' hK => ?_)
         go_simp
         have aZ := (Up.alloc wq (.cells #[.string (pairT sn tm)] 9)).trans (Up.drewN _ 1)
         have hAT := Mg.out.next aZ
         have HS13 := aa (And.intro (aZ.cell hca) (aZ.cell hcb))
         have HC13 := aa (uh wq (.string (pairT sn tm)) 9)
         have qF := aa hAT
         clear aZ hAT
         refine hK.out _ _ (fun _ => HS13.out) (fun hS => ?_)
         replace hS := hS ⟨14, by decide, rfl⟩
         try simp only [ah, aj, aq]
         refine af.step (i := 14) rfl (by kernel_rfl) (fun K' hK => ?_)
         refine eE (by rfl) _ _ _ (by rfl) w.heap.size 9 _ 16 Tryz.underlying22 Tryz.gy (by rfl) (by decide) (by rfl) qF.out.own (.string (pairT sn tm)) wq.heap.size (by rfl) HC13.out (by rfl) (by rw [List.length_map]; exact qx.out) (by obtain ⟨z1, z2, z3⟩ := qF.out.sz; exact Nat.le_trans z1 (Nat.le_trans z2 z3)) ?_
         intro g8 c8 w8 ho8 hg8 hr8 _
         have wU := qF.out.app ho8 hg8 (hr8.imp id fun e => Nat.le_of_eq e.symm)
         have UX := aa wU
         clear ho8 hg8 hr8 wU
         refine hK.out _ _ (aJ (by kernel_rfl)) (fun _ => ?_)
         try simp only [Act.put, ah, aj, aq]
         refine af.step (i := 15) rfl (by kernel_rfl) (fun K' hK => ?_)
         go_simp
         refine hK.out _ _ (aJ (by kernel_rfl)) (fun _ => ?_)
         refine af.done (by kernel_rfl) ?_
         go_wp2_with fail
         go_roundw
         case rel => exact ⟨q + 1, Mf.out, by go_num, by rw [yX.out]; have h := UX.out; rw [List.length_map] at h; exact h⟩
         case measure => have := Mf.out; simp [intOf]; omega
        ·obtain rfl : q = (bf (eB names n)).length := by omega
         have Mg : Hid (ni wo.heap.size w W2 wq u3 (nh names n ++ nK names n (k + 1))) := by
          have h := hB.out
          rw [List.take_length] at h
          unfold Hid
          rw [KR.out, ← List.append_assoc]; exact h
         clear hB Hg
         go_wp2_with fail
         go_roundw
         case rel => exact ⟨k + 1, Fo.out, by go_num, Mg.out⟩
         case measure => have := Fo.out; simp [intOf]; omega
      ·obtain rfl : k = (bf (eA names n)).length := by omega
       have Mg : Hid (VW w names (n + 1) u3 wp) := by
        have h := hA.out
        rw [Rv, ← OD] at h
        exact ⟨h.up, h.own⟩
       clear hA hlk
       go_wp2_with fail
       go_roundw
       case rel => exact ⟨n + 1, aQ.out, by go_num, Mg.out⟩
       case measure => have := aQ.out; simp [intOf]; omega
  ·obtain rfl : n = M - 1 := by omega
   have i1 : ¬ ((M - 1 : Nat) : Int) < ((M - 1 : Nat) : Int) := by omega
   have dS : Hid (rZ w names (.returned u3) wo) := by
    refine ⟨eM, _, rfl, ?_⟩
    have e : bf names = nh names (M - 1) := by rw [VN h2, HM.out]; rfl
    rw [e]; exact Qq
   clear hI eM Qq hlt
   go_wp2_with fail
   go_ret
   exact dS.out
end Go.Proofs.YteegefnjnikngaaGreat
