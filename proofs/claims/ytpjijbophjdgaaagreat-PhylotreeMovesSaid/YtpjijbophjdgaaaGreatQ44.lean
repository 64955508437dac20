/- The contract of layer 31's reference's contracted. The contracts of layer 31's reference's text and Print. The reference's reader of texts, plain: it reads what the machine of Parse reads. The contract of layer 31's reference's read. The parts of the rerooted tree, plain: which sets of leaves they have. Rerooting twice, plain. Sets and splits: what intset and split compute. Plain. -/
import Derived.Test.YtpjijbophjdgaaaGreatQ20
import Derived.Test.YtpjijbophjdgaaaGreatQ17
import Derived.Test.YtpjijbophjdgaaaGreatQ28
import Derived.Test.YtpjijbophjdgaaaGreatQ7
import Derived.Test.YtpjijbophjdgaaaGreatQ24
import Derived.Test.YtpjijbophjdgaaaGreatQ41
import Derived.Test.YtpjijbophjdgaaaGreatQ40
import Derived.Test.YtpjijbophjdgaaaGreatQ27
import Derived.Test.YtpjijbophjdgaaaGreatQ32
import Derived.Test.YtpjijbophjdgaaaGreatQ36
import Derived.Test.YtpjijbophjdgaaaGreatQ37
import Derived.Test.YtpjijbophjdgaaaGreatQ1
namespace Go.Proofs.YtpjijbophjdgaaaGreat
open Go.RowKit Go.Deep
theorem none_ints (S : Nat → Prop) (w : World) : IntsAt S w (.slice none ([] : List Int).length 0) [] := ⟨none, 0, rfl, Nat.le_refl _, .inl rfl⟩
theorem GInv.start0 (w : World) (nm : ByteArray) : GInv w w.heap.size w.heap.size nm [] none 0 (w.alloc (.cells #[.string nm, .slice none 0 0] 123)) (.slice none 0 0) [] :=
  ⟨Wip.start w (Nat.le_refl _) nm, Up.alloc w _, none_ints _ _, Nat.le_refl _⟩
theorem take_kid {ks : List RT} {k : Nat} (h : k < ks.length) (f : RT → RT) : (ks.take (k + 1)).map f = (ks.take k).map f ++ [f (gr ks k)] := by
  have hg : gr ks k = ks[k] := by simp [gr, h]
  rw [List.take_succ_eq_append_getElem h, List.map_append, hg]; rfl
set_option maxRecDepth 100000 in
set_option maxHeartbeats 4000000 in
theorem contracted31_t (S : Nat → Prop) : ∀ (d : Nat) (r : RT), sizeR r ≤ d → d ≤ 1000 → ∀ (w : World) (v : Value), RAt S w r v → Calls Tryz.prog 173 #[v] w (GrwPost w (contrR r)) := by
  intro d
  induction d with
  | zero => intro r hr; have := sizeR_pos r; omega
  | succ d ih =>
  intro r hr hd w v hv
  cases r with
  | node nm ks =>
    obtain ⟨b, kp, kc, vs, rfl, hS, c0, c1, hk, hs⟩ := hv.open
    simp only [RT.nm, RT.kids] at c0 c1 hk hs
    have hkl := len_sizeRs ks
    rw [sizeR] at hr
    have HIH : Hid (∀ j, j < ks.length → ∀ W, Up w W → Calls Tryz.prog 173 #[vN vs j] W (GrwPost W (contrR (gr ks j)))) := fun j hj W hW => by
      have := gr_size hj
      exact ih _ (by omega) (by omega) W _ (RAt.keep (hW.kept S) _ (RsAt.get ks hs j hj))
    have HK := Lib.hid hk
    have HKL : Hid (ks.length ≤ 1000) := by unfold Hid; omega
    have HC0 := Lib.hid c0
    have HC1 := Lib.hid c1
    clear ih hv hS hs hk hr hkl
    by_cases h1 : ks.length = 1
    · obtain ⟨k0, rfl⟩ := List.length_eq_one_iff.1 h1
      obtain ⟨kb, ko, rfl, hc0⟩ := vN_get HK.out (show 0 < [k0].length by simp)
      rw [Nat.add_zero] at hc0
      have H0 : Hid (Calls Tryz.prog 173 #[vN vs 0] w (GrwPost w (contrR (.node nm [k0])))) := by
        have h := HIH.out 0 (by simp) w (Up.refl _)
        unfold Hid
        rw [contr_one]
        exact h
      clear h1
      go_enter Tryz.func173, Tryz.ntmps173
      go_wp2_with fail
      refine H0.out.mono ?_
      rintro e w' ⟨hu, u, rfl, hr⟩
      go_wp2_with fail
      go_ret
      exact ⟨hu, u, rfl, hr⟩
    · have d1 : ((ks.length : Int) == 1) = false := beq_eq_false_iff_ne.2 (by omega)
      have HRF : Hid (contrR (.node nm ks) = .node nm (ks.map contrR)) := contr_many h1
      have HG0 := Lib.hid (GInv.start0 w nm)
      have a1 := (Up.alloc w (.cells #[.string nm, .slice none 0 0] 123)).cell HC1.out
      clear h1
      go_enter Tryz.func173, Tryz.ntmps173
      go_wp2_with fail
      clear d1
      generalize w.alloc (.cells #[.string nm, .slice none 0 0] 123) = w1 at *
      clear a1
      go_loopw [4] (fun i wr => ∃ (k : Nat) (kv : Value), k ≤ ks.length ∧ i = .int .i64 k ∧ Hid (GInv w w.heap.size w.heap.size nm [] none 0 wr kv ((ks.take k).map contrR))) (fun i _ => ks.length - (intOf i).toNat)
      case atStart => exact ⟨0, _, Nat.zero_le _, rfl, by rw [List.take_zero]; exact HG0.out⟩
      case round =>
        obtain ⟨k, kv, hk, rfl, hG⟩ := hrel
        obtain ⟨wo, rfl⟩ : ∃ wo : World, wo = wr := ⟨_, rfl⟩
        have a1 := hG.out.up.cell HC1.out
        by_cases hlt : k < ks.length
        · obtain ⟨kb, ko, rfl, hck⟩ := vN_get HK.out hlt
          have hc := hG.out.wip.cells
          have HTK := Lib.hid (take_kid hlt contrR)
          have HCALL := Lib.hid (fun W (hW : Up wo W) => HIH.out k hlt W (hG.out.up.trans hW))
          have k1 := hc.2.1
          have k2 := hc.2.2.2
          have k3 := hG.out.up.cell hck
          have i1 : (0 : Int) ≤ (k : Int) := by omega
          have i2 : (k : Int) < (ks.length : Int) := by omega
          have i3 : (k : Int) < 1000 := by have := HKL.out; omega
          have HLT := Lib.hid hlt
          have HCK := Lib.hid hck
          have HKD : Hid (∀ W, Up wo W → W.cell? ⟨w.heap.size, 1, none⟩ = some kv ∧ W.cell? ⟨b, 1, none⟩ = some (.slice (some ⟨kb, ko, none⟩) ks.length kc) ∧ W.cell? ⟨kb, ko + k, none⟩ = some (vN vs k)) := fun W hW => ⟨hW.cell hc.2.1, hW.cell (hG.out.up.cell HC1.out), hW.cell (hG.out.up.cell hck)⟩
          have HGG := Lib.hid hG.out
          clear hc hck hk hlt hG
          generalize vN vs k = vk at *
          generalize contrR (gr ks k) = rk2 at *
          go_wp2_with fail
          refine region_T (by kernel_rfl) 18 (fun w' => w'.cell? ⟨w.heap.size, 1, none⟩ = some kv ∧ w'.cell? ⟨b, 1, none⟩ = some (.slice (some ⟨kb, ko, none⟩) ks.length kc) ∧ w'.cell? ⟨kb, ko + k, none⟩ = some vk) (HKD.out _ (drew_up wo)) (fun hS => ?_)
          simp only [List.size_toArray, List.length_cons, List.length_nil, Nat.reduceAdd, Array.replicate_succ, Array.replicate_zero, List.push_toArray, List.nil_append, List.cons_append]
          refine anyT.take (i := 0) (v := ?gv0) rfl (by kernel_rfl) (fun _ _ _ h => h) (by rfl) (fun w hSw => ?gy0) hS ?gr0
          case gy0 =>
            (try dsimp only at hSw)
            go_simp
            try with_reducible rfl
          try simp only [Act.put, List.setIfInBounds_toArray, List.set_cons_zero, List.set_cons_succ]
          refine anyT.take (i := 1) (v := ?gv1) rfl (by kernel_rfl) (fun _ _ _ h => h) (by rfl) (fun w hSw => ?gy1) hS ?gr1
          case gy1 =>
            (try dsimp only at hSw)
            go_simp
            try with_reducible rfl
          try simp only [Act.put, List.setIfInBounds_toArray, List.set_cons_zero, List.set_cons_succ]
          refine anyT.take (i := 2) (v := ?gv2) rfl (by kernel_rfl) (fun _ _ _ h => h) (by rfl) (fun w hSw => ?gy2) hS ?gr2
          case gy2 =>
            (try dsimp only at hSw)
            go_simp
            try with_reducible rfl
          try simp only [Act.put, List.setIfInBounds_toArray, List.set_cons_zero, List.set_cons_succ]
          refine anyT.take (i := 3) (v := ?gv3) rfl (by kernel_rfl) (fun _ _ _ h => h) (by rfl) (fun w hSw => ?gy3) hS ?gr3
          case gy3 =>
            (try dsimp only at hSw)
            go_simp
            try with_reducible rfl
          try simp only [Act.put, List.setIfInBounds_toArray, List.set_cons_zero, List.set_cons_succ]
          refine anyT.take (i := 4) (v := ?gv4) rfl (by kernel_rfl) (fun _ _ _ h => h) (by rfl) (fun w hSw => ?gy4) hS ?gr4
          case gy4 =>
            (try dsimp only at hSw)
            go_simp
            try with_reducible rfl
          try simp only [Act.put, List.setIfInBounds_toArray, List.set_cons_zero, List.set_cons_succ]
          refine anyT.take (i := 5) (v := ?gv5) rfl (by kernel_rfl) (fun _ _ _ h => h) (by rfl) (fun w hSw => ?gy5) hS ?gr5
          case gy5 =>
            (try dsimp only at hSw)
            go_simp
            try with_reducible rfl
          try simp only [Act.put, List.setIfInBounds_toArray, List.set_cons_zero, List.set_cons_succ]
          refine anyT.take (i := 6) (v := ?gv6) rfl (by kernel_rfl) (fun _ _ _ h => h) (by rfl) (fun w hSw => ?gy6) hS ?gr6
          case gy6 =>
            (try dsimp only at hSw)
            go_simp
            try with_reducible rfl
          try simp only [Act.put, List.setIfInBounds_toArray, List.set_cons_zero, List.set_cons_succ]
          refine anyT.take (i := 7) (v := ?gv7) rfl (by kernel_rfl) (fun _ _ _ h => h) (by rfl) (fun w hSw => ?gy7) hS ?gr7
          case gy7 =>
            (try dsimp only at hSw)
            go_simp
            try with_reducible rfl
          try simp only [Act.put, List.setIfInBounds_toArray, List.set_cons_zero, List.set_cons_succ]
          refine anyT.take (i := 8) (v := ?gv8) rfl (by kernel_rfl) (fun _ _ _ h => h) (by rfl) (fun w hSw => ?gy8) hS ?gr8
          case gy8 =>
            (try dsimp only at hSw)
            go_simp
            try with_reducible rfl
          try simp only [Act.put, List.setIfInBounds_toArray, List.set_cons_zero, List.set_cons_succ]
          refine anyT.take (i := 9) (v := ?gv9) rfl (by kernel_rfl) (fun _ _ _ h => h) (by rfl) (fun w hSw => ?gy9) hS ?gr9
          case gy9 =>
            (try dsimp only at hSw)
            go_simp
            try with_reducible rfl
          try simp only [Act.put, List.setIfInBounds_toArray, List.set_cons_zero, List.set_cons_succ]
          refine anyT.take (i := 10) (v := ?gv10) rfl (by kernel_rfl) (fun _ _ _ h => h) (by rfl) (fun w hSw => ?gy10) hS ?gr10
          case gy10 =>
            (try dsimp only at hSw)
            go_simp
            try with_reducible rfl
          try simp only [Act.put, List.setIfInBounds_toArray, List.set_cons_zero, List.set_cons_succ]
          refine anyT.take (i := 11) (v := ?gv11) rfl (by kernel_rfl) (fun _ _ _ h => h) (by rfl) (fun w hSw => ?gy11) hS ?gr11
          case gy11 =>
            (try dsimp only at hSw)
            go_simp
            try with_reducible rfl
          try simp only [Act.put, List.setIfInBounds_toArray, List.set_cons_zero, List.set_cons_succ]
          refine anyT.step (i := 12) rfl (by kernel_rfl) (fun K' hK => ?_)
          go_simp
          refine (HCALL.out _ (drew_up wo)).mono ?_
          rintro e w3 ⟨hu3, u, rfl, hr3⟩
          have hu3 : Up wo.drew w3 := hu3
          obtain ⟨ub, rfl⟩ := rat_ptr hr3
          have HU3 := Lib.hid ((drew_up wo).trans hu3)
          obtain ⟨vs2, hvl, hown, hbs, hfar, hpush⟩ := HGG.out.push HU3.out hr3
          have HOW := Lib.hid hown
          have HBS := Lib.hid hbs
          have HFAR := Lib.hid hfar
          have HPUSH := Lib.hid hpush
          have HVL : Hid (vs2.length ≤ 1000000) := by
            have := HLT.out; have := HKL.out; rw [List.length_map, List.length_take] at hvl; unfold Hid; omega
          have HCN : Hid ((w3.alloc (.cells #[.pointer (some ⟨ub, 0, none⟩)] 120)).cell? ⟨w3.heap.size, 0, none⟩ = some (.pointer (some ⟨ub, 0, none⟩))) := box1_0 _ _ _
          clear hu3 hr3 hown hbs hfar hpush hvl
          refine hK.out _ _ (fun _ => HKD.out _ HU3.out) (fun hS => ?_)
          replace hS := hS ⟨13, by decide, rfl⟩
          try simp only [List.setIfInBounds_toArray, List.set_cons_zero, List.set_cons_succ]
          refine anyT.step (i := 13) rfl (by kernel_rfl) (fun K' hK => ?_)
          go_simp
          refine hK.out _ _ (fun _ => HKD.out _ (HU3.out.trans (Up.alloc _ _))) (fun hS => ?_)
          replace hS := hS ⟨14, by decide, rfl⟩
          try simp only [List.setIfInBounds_toArray, List.set_cons_zero, List.set_cons_succ]
          refine anyT.step (i := 14) rfl (by kernel_rfl) (fun K' hK => ?_)
          refine step_app1 (by rfl) _ _ _ (by rfl) (w.heap.size + 1) 120 _ 8 Tryz.underlying121 Tryz.infoRN (by rfl) (by decide) (by rfl) HOW.out (.pointer (some ⟨ub, 0, none⟩)) w3.heap.size (by rfl) HCN.out (by rfl) HVL.out HBS.out ?_
          intro g cap w4 hown4 hg4 hor4 hbe4
          obtain ⟨q1, q2, q3, q4⟩ := HFAR.out w4 hg4
          have q5 := q3 _ _ _ (World.block_lt_of_cell? _ _ HC1.out) HC1.out
          have q6 := q3 _ _ _ (World.block_lt_of_cell? _ _ HCK.out) HCK.out
          have HG4 := Lib.hid (HPUSH.out g cap w4 hown4 hg4 hor4)
          clear hown4 hg4 hor4 hbe4 q3 q4
          refine hK.out _ _ (fun _ => ⟨q1, q5, q6⟩) (fun hS => ?_)
          replace hS := hS ⟨17, by decide, rfl⟩
          try simp only [Act.put, List.setIfInBounds_toArray, List.set_cons_zero, List.set_cons_succ]
          refine anyT.take (i := 15) (v := ?gv15) rfl (by kernel_rfl) (fun _ _ _ h => h) (by rfl) (fun w hSw => ?gy15) hS ?gr15
          case gy15 =>
            (try dsimp only at hSw)
            go_simp
            try with_reducible rfl
          try simp only [Act.put, List.setIfInBounds_toArray, List.set_cons_zero, List.set_cons_succ]
          refine anyT.take (i := 16) (v := ?gv16) rfl (by kernel_rfl) (fun _ _ _ h => h) (by rfl) (fun w hSw => ?gy16) hS ?gr16
          case gy16 =>
            (try dsimp only at hSw)
            go_simp
            try with_reducible rfl
          try simp only [Act.put, List.setIfInBounds_toArray, List.set_cons_zero, List.set_cons_succ]
          refine anyT.step (i := 17) rfl (by kernel_rfl) (fun K' hK => ?_)
          go_simp
          refine hK.out _ _ (not_more (by kernel_rfl)) (fun hS => ?_)
          refine anyT.done (by kernel_rfl) ?_
          go_wp2_with fail
          go_roundw
          case rel => exact ⟨k + 1, _, HLT.out, by go_num, by rw [HTK.out]; exact HG4.out⟩
          case measure => have := HLT.out; simp [intOf]; omega
        · obtain rfl : k = ks.length := by omega
          have HGG := Lib.hid hG.out
          clear hG
          go_wp2_with fail
          go_ret
          refine ⟨HGG.out.up, _, rfl, ?_⟩
          have h := HGG.out.wip.done
          rw [List.take_length] at h
          rw [HRF.out]; exact h
end Go.Proofs.YtpjijbophjdgaaaGreat
namespace Go.Proofs.YtpjijbophjdgaaaGreat
open Go.RowKit Go.Deep
end Go.Proofs.YtpjijbophjdgaaaGreat
namespace Go.Proofs.YtpjijbophjdgaaaGreat
end Go.Proofs.YtpjijbophjdgaaaGreat
namespace Go.Proofs.YtpjijbophjdgaaaGreat
open Go.RowKit Go.Deep
structure RInv (w1 : World) (base B : Nat) (wr : World) (kv : Value) (rs : List RT) : Prop where
  wip : Wip base B wr ByteArray.empty kv rs
  up : Up w1 wr
  lo : w1.heap.size ≤ B
theorem RInv.push {w1 : World} {base B : Nat} {wr w2 : World} {kv : Value} {rs : List RT} (h : RInv w1 base B wr kv rs) {r : RT} {u : Value} (hu : Up wr w2) (hr : RAt (fun b => wr.heap.size ≤ b) w2 r u) :
    ∃ vs : List Value, vs.length = rs.length ∧ Owns (B + 1) 120 w2 kv vs ∧ B + 1 ≤ w2.heap.size ∧
      (∀ W, w2.grownBy W kv.ownBlock → W.cell? ⟨B, 1, none⟩ = some kv ∧ W.frozen? ⟨B, 1, none⟩ = false) ∧
      ∀ g c W, Owns (B + 1) 120 W (.slice (some ⟨g, 0, none⟩) (vs.length + 1) c) (vs ++ [u]) → w2.grownBy W kv.ownBlock → (kv.ownBlock = some g ∨ w2.heap.size ≤ g) →
        RInv w1 base B (W.setCell ⟨B, 1, none⟩ (.slice (some ⟨g, 0, none⟩) (vs.length + 1) c)) (.slice (some ⟨g, 0, none⟩) (vs.length + 1) c) (rs ++ [r]) := by
  have hW := h.wip.up hu
  have hBl := h.wip.lt
  have hsz := hu.size
  obtain ⟨vs, ho, hv⟩ := hW.kids
  obtain ⟨vs0, ho0, _⟩ := h.wip.kids
  have hkb : ∀ b, kv.ownBlock = some b → b < wr.heap.size ∧ B < b := fun b hb => ⟨(ownBlock_lt ho0 hb).2, by have := (ownBlock_lt ho0 hb).1; omega⟩
  refine ⟨vs, RsAt.len rs hv, ho, by omega, fun W hg => ?_, fun g c W hown hg hor => ?_⟩
  · have hc := hW.cells
    have hBo : some B ≠ kv.ownBlock := fun e => by have := (hkb B e.symm).2; omega
    refine ⟨?_, ?_⟩
    · rw [hg.cell_far (a := ⟨B, 1, none⟩) (by show B < _; omega) hBo]; exact hc.2.1
    · rw [hg.frozen_far (a := ⟨B, 1, none⟩) (by show B < _; omega) hBo]; exact hc.2.2.2
  · have hor2 : ∀ b, (Value.slice (some ⟨g, 0, none⟩) (vs.length + 1) c).ownBlock = some b → kv.ownBlock = some b ∨ w2.heap.size ≤ b := fun b hb => by
      injection hb with hb
      have hb : g = b := hb
      subst hb
      exact hor
    have hlo := h.lo
    have hw := h.wip.lo
    refine ⟨hW.push hr (by omega) hBl (fun b hb => (hkb b hb).1) hv hown hg hor2, ?_, h.lo⟩
    have h1 := h.up.trans hu
    refine ⟨hg.os.trans h1.os, hg.tape.trans h1.tape, hg.output.trans h1.output, ?_, fun b hb => ?_⟩
    · have := h1.size; have := hg.size; simp only [World.size_setCell]; omega
    · rw [blk_setCell_other _ _ _ _ (by omega : b ≠ B), hg.block b (Nat.lt_of_lt_of_le hb h1.size) (fun e => by have := (hkb b e.symm).2; omega)]
      exact h1.block b hb
theorem RInv.done {w1 : World} {base B : Nat} {wr : World} {kv : Value} {rs : List RT} (h : RInv w1 base B wr kv rs) : RAt (fun b => base ≤ b) wr (.node ByteArray.empty rs) (.pointer (some ⟨B, 0, none⟩)) := h.wip.done
def lenOf : Value → Nat
  | .string u => u.size
  | _ => 0
end Go.Proofs.YtpjijbophjdgaaaGreat
namespace Go.Proofs.YtpjijbophjdgaaaGreat
section
variable {t : Tre} {leaf : Nat}
end
end Go.Proofs.YtpjijbophjdgaaaGreat
namespace Go.Proofs.YtpjijbophjdgaaaGreat
section
variable {r q : RT} {a b : ByteArray}
end
section
variable {t : Tre} {leaf : Nat}
end
end Go.Proofs.YtpjijbophjdgaaaGreat
namespace Go.Proofs.YtpjijbophjdgaaaGreat
theorem in_gi {l : List Int} {x : Int} (h : x ∈ l) : ∃ k, k < l.length ∧ gi l k = x := by
  obtain ⟨k, hk, e⟩ := List.mem_iff_getElem.1 h
  exact ⟨k, hk, by simp [gi, hk, e]⟩
end Go.Proofs.YtpjijbophjdgaaaGreat
