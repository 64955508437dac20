/- The contract of layer 31's reference's without. -/
import Derived.Test.YtpjijbophjdgaaaGreatQ47
import Derived.Test.YtpjijbophjdgaaaGreatQ51
namespace Go.Proofs.YtpjijbophjdgaaaGreat
open Go.RowKit Go.Deep
structure WInv (S : Nat → Prop) (w0 : World) (B : Nat) (wr : World) (kv : Value) (rs : List RT) : Prop where
  node : wr.heap[B]? = some (.cells #[.string ByteArray.empty, kv] 123 (0, 0))
  kids : ∃ vs, Owns (B + 1) 120 wr kv vs ∧ RsAt (fun b => (S b ∨ w0.heap.size ≤ b) ∧ b ≠ B ∧ kv.ownBlock ≠ some b) wr rs vs
  up : Up w0 wr
  lo : w0.heap.size ≤ B
theorem WInv.lt {S : Nat → Prop} {w0 : World} {B : Nat} {wr : World} {kv : Value} {rs : List RT} (h : WInv S w0 B wr kv rs) : B < wr.heap.size := (Array.getElem?_eq_some_iff.1 h.node).1
theorem WInv.cells {S : Nat → Prop} {w0 : World} {B : Nat} {wr : World} {kv : Value} {rs : List RT} (h : WInv S w0 B wr kv rs) : wr.cell? ⟨B, 0, none⟩ = some (.string ByteArray.empty) ∧ wr.cell? ⟨B, 1, none⟩ = some kv ∧ wr.frozen? ⟨B, 0, none⟩ = false ∧ wr.frozen? ⟨B, 1, none⟩ = false := by
  refine ⟨?_, ?_, ?_, ?_⟩ <;> simp [World.cell?, World.frozen?, h.node]
theorem WInv.start (S : Nat → Prop) (w : World) : WInv S w w.heap.size (w.alloc (.cells #[.string ByteArray.empty, .slice none 0 0] 123)) (.slice none 0 0) [] :=
  ⟨World.alloc_heap_new _ _, ⟨[], Owns.nil _ _ _, by unfold RsAt; rfl⟩, Up.alloc _ _, Nat.le_refl _⟩
theorem WInv.step {S : Nat → Prop} {w0 : World} {B : Nat} {wr w2 : World} {kv : Value} {rs : List RT} (h : WInv S w0 B wr kv rs) (hu : Up wr w2) : WInv S w0 B w2 kv rs := by
  obtain ⟨vs, ho, hr⟩ := h.kids
  exact ⟨(Below.block hu B h.lt).trans h.node, ⟨vs, ho.kept fun b _ hb => Below.block hu b hb, RsAt.keep (hu.kept _) rs hr⟩, h.up.trans hu, h.lo⟩
theorem WInv.form {S : Nat → Prop} {w0 : World} {B : Nat} {wr : World} {kv : Value} {rs : List RT} (h : WInv S w0 B wr kv rs) : ∃ q c, kv = .slice q rs.length c := by
  obtain ⟨vs, ho, hr⟩ := h.kids
  obtain ⟨q, c, e, _⟩ := ho.form (n := rs.length) (RsAt.len rs hr)
  exact ⟨q, c, e⟩
theorem WInv.done {S : Nat → Prop} {w0 : World} {B : Nat} {wr : World} {kv : Value} {rs : List RT} (h : WInv S w0 B wr kv rs) : RAt (fun b => S b ∨ w0.heap.size ≤ b) wr (.node ByteArray.empty rs) (.pointer (some ⟨B, 0, none⟩)) := by
  obtain ⟨vs, ho, hr⟩ := h.kids
  have hlen := RsAt.len rs hr
  have hlo := h.lo
  unfold RAt
  have h1 := ho.slAt
  rw [hlen] at h1
  exact ⟨B, kv, vs, rfl, .inr h.lo, h.node, h1.sub fun b hb _ => .inr (by have : B + 1 ≤ b := hb; omega), RsAt.sub (fun b hb _ => hb.1) rs hr⟩
theorem WInv.push {S : Nat → Prop} {w0 : World} {B : Nat} {wr w2 : World} {kv : Value} {rs : List RT} (hS : ∀ b, S b → b < w0.heap.size) (h : WInv S w0 B wr kv rs) {r : RT} {u : Value} (hu : Up wr w2) (hr : RAt (fun b => S b ∨ wr.heap.size ≤ b) w2 r u) :
    ∃ vs : List Value, vs.length = rs.length ∧ Owns (B + 1) 120 w2 kv vs ∧ B + 1 ≤ w2.heap.size ∧
      (∀ W, w2.grownBy W kv.ownBlock → W.cell? ⟨B, 1, none⟩ = some kv ∧ W.frozen? ⟨B, 1, none⟩ = false) ∧
      ∀ g c W, Owns (B + 1) 120 W (.slice (some ⟨g, 0, none⟩) (vs.length + 1) c) (vs ++ [u]) → w2.grownBy W kv.ownBlock → (kv.ownBlock = some g ∨ w2.heap.size ≤ g) →
        WInv S w0 B (W.setCell ⟨B, 1, none⟩ (.slice (some ⟨g, 0, none⟩) (vs.length + 1) c)) (.slice (some ⟨g, 0, none⟩) (vs.length + 1) c) (rs ++ [r]) := by
  have hW := h.step hu
  have hBl := h.lt
  have hsz := hu.size
  have hlo := h.lo
  have h0 := h.up.size
  obtain ⟨vs, ho, hv⟩ := hW.kids
  obtain ⟨vs0, ho0, _⟩ := h.kids
  have hkb : ∀ b, kv.ownBlock = some b → b < wr.heap.size ∧ B < b := fun b hb => ⟨(ownBlock_lt ho0 hb).2, by have := (ownBlock_lt ho0 hb).1; omega⟩
  have hBo : some B ≠ kv.ownBlock := fun e => by have := (hkb B e.symm).2; omega
  refine ⟨vs, RsAt.len rs hv, ho, by omega, fun W hg => ?_, fun g c W hown hg hor => ?_⟩
  · have hc := hW.cells
    refine ⟨?_, ?_⟩
    · rw [hg.cell_far (a := ⟨B, 1, none⟩) (by show B < _; omega) hBo]; exact hc.2.1
    · rw [hg.frozen_far (a := ⟨B, 1, none⟩) (by show B < _; omega) hBo]; exact hc.2.2.2
  · obtain ⟨kv', hkv'⟩ : ∃ kv' : Value, kv' = .slice (some ⟨g, 0, none⟩) (vs.length + 1) c := ⟨_, rfl⟩
    have hob : ∀ b, kv'.ownBlock = some b → b = g := fun b hb => by
      rw [hkv'] at hb; injection hb with hb; exact hb.symm
    have hgB : g ≠ B := fun e => by
      rcases hor with h1 | h1
      · exact hBo (by rw [h1, e])
      · have := hW.lt; omega
    have hset : ∀ b, b ≠ B → (W.setCell ⟨B, 1, none⟩ kv').heap[b]? = W.heap[b]? := fun b hb => blk_setCell_other _ _ _ _ hb
    have hkeep : ∀ b, b ≠ B → kv.ownBlock ≠ some b → b < w2.heap.size → (W.setCell ⟨B, 1, none⟩ kv').heap[b]? = w2.heap[b]? := fun b h1 h2 h3 => (hset b h1).trans (hg.block b h3 fun e => h2 e.symm)
    have hnew : ∀ b, b < w2.heap.size → kv.ownBlock ≠ some b → kv'.ownBlock ≠ some b := fun b h1 h2 e => by
      have := hob b e
      subst this
      rcases hor with h3 | h3
      · exact h2 h3
      · omega
    rw [← hkv'] at hown ⊢
    have hB2 : W.heap[B]? = w2.heap[B]? := hg.block B hW.lt hBo
    have k1 : Kept (fun b => (S b ∨ w0.heap.size ≤ b) ∧ b ≠ B ∧ kv.ownBlock ≠ some b) w2 (W.setCell ⟨B, 1, none⟩ kv') := fun b hb hl => hkeep b hb.2.1 hb.2.2 hl
    have hr2 : RAt (fun b => (S b ∨ w0.heap.size ≤ b) ∧ b ≠ B ∧ kv.ownBlock ≠ some b) w2 r u := RAt.sub (fun b hb hl => by
      rcases hb with hb | hb
      · have := hS b hb
        exact ⟨.inl hb, by omega, fun e => by have := (hkb b e).2; omega⟩
      · exact ⟨.inr (by omega), by omega, fun e => by have := (hkb b e).1; omega⟩) r hr
    have kk : ∀ {q : RT} {x : Value}, RAt (fun b => (S b ∨ w0.heap.size ≤ b) ∧ b ≠ B ∧ kv.ownBlock ≠ some b) w2 q x → RAt (fun b => (S b ∨ w0.heap.size ≤ b) ∧ b ≠ B ∧ kv'.ownBlock ≠ some b) (W.setCell ⟨B, 1, none⟩ kv') q x := fun {q x} hq => by
      have h1 : RAt (fun b => (S b ∨ w0.heap.size ≤ b) ∧ b ≠ B ∧ kv.ownBlock ≠ some b ∧ kv'.ownBlock ≠ some b) w2 q x := RAt.sub (fun b hb hl => ⟨hb.1, hb.2.1, hb.2.2, hnew b hl hb.2.2⟩) q hq
      exact RAt.sub (fun b hb _ => ⟨hb.1, hb.2.1, hb.2.2.2⟩) q (RAt.keep (fun b hb hl => hkeep b hb.2.1 hb.2.2.1 hl) q h1)
    have ks : RsAt (fun b => (S b ∨ w0.heap.size ≤ b) ∧ b ≠ B ∧ kv'.ownBlock ≠ some b) (W.setCell ⟨B, 1, none⟩ kv') rs vs := by
      have h1 : RsAt (fun b => (S b ∨ w0.heap.size ≤ b) ∧ b ≠ B ∧ kv.ownBlock ≠ some b ∧ kv'.ownBlock ≠ some b) w2 rs vs := RsAt.sub (fun b hb hl => ⟨hb.1, hb.2.1, hb.2.2, hnew b hl hb.2.2⟩) rs hv
      exact RsAt.sub (fun b hb _ => ⟨hb.1, hb.2.1, hb.2.2.2⟩) rs (RsAt.keep (fun b hb hl => hkeep b hb.2.1 hb.2.2.1 hl) rs h1)
    refine ⟨?_, ⟨vs ++ [u], hown.same2 fun b hb => hset b (fun e => hgB (by rw [← hob b hb, e])), RsAt.app (kk hr2) rs ks⟩, ?_, h.lo⟩
    · have hn := hB2.trans hW.node
      simp [World.setCell, Array.getElem?_modify, hn]
    · have h1 := hW.up
      refine ⟨hg.os.trans h1.os, hg.tape.trans h1.tape, hg.output.trans h1.output, ?_, fun b hb => ?_⟩
      · have := h1.size; have := hg.size; simp only [World.size_setCell]; omega
      · rw [hset b (by omega), hg.block b (Nat.lt_of_lt_of_le hb h1.size) (fun e => by have := (hkb b e.symm).2; omega)]
        exact h1.block b hb
def WiPost (S : Nat → Prop) (w : World) (o : Option RT) (e : Ending) (w' : World) : Prop :=
  Up w w' ∧ match o with
    | none => e = .returned (.pointer none)
    | some r => ∃ b, e = .returned (.pointer (some ⟨b, 0, none⟩)) ∧ RAt (fun b => S b ∨ w.heap.size ≤ b) w' r (.pointer (some ⟨b, 0, none⟩))
theorem wi_none {S : Nat → Prop} {w w' : World} {o : Option RT} {e : Ending} (h : o = none) (hu : Up w w') (he : e = .returned (.pointer none)) : WiPost S w o e w' := by
  subst h; exact ⟨hu, he⟩
theorem wi_some {S : Nat → Prop} {w w' : World} {o : Option RT} {r : RT} {b : Nat} {e : Ending} (h : o = some r) (hu : Up w w') (he : e = .returned (.pointer (some ⟨b, 0, none⟩))) (hr : RAt (fun b => S b ∨ w.heap.size ≤ b) w' r (.pointer (some ⟨b, 0, none⟩))) : WiPost S w o e w' := by
  subst h; exact ⟨hu, b, he, hr⟩
theorem wiRs_take {P : ByteArray → Bool} {ks : List RT} {k : Nat} (h : k < ks.length) : wiRs P (ks.take (k + 1)) = wiRs P (ks.take k) ++ (wiR P (gr ks k)).toList := by
  have hg : gr ks k = ks[k] := by simp [gr, h]
  rw [List.take_succ_eq_append_getElem h, wiRs_app, hg]
  congr 1
  rw [wiRs, wiRs, List.append_nil]
theorem wiRs_len (P : ByteArray → Bool) : ∀ ks : List RT, (wiRs P ks).length ≤ ks.length
  | [] => by rw [wiRs]; exact Nat.le_refl _
  | k :: ks => by
    have := wiRs_len P ks
    rw [wiRs, List.length_append, List.length_cons]
    have h2 : (wiR P k).toList.length ≤ 1 := by cases wiR P k <;> simp
    omega
set_option maxRecDepth 100000 in
set_option maxHeartbeats 8000000 in
theorem without31_t (S : Nat → Prop) (nms : List ByteArray) (n mb : Nat) : ∀ (d : Nat) (r : RT), sizeR r ≤ d → d ≤ 1000 → ∀ (w : World) (v : Value), (∀ b, S b → b < w.heap.size) → RAt S w r v → SMap w mb (smK nms n) → Calls Tryz.prog 103 #[v, .map (some mb)] w (WiPost S w (wiR (inNm nms n) r)) := by
  intro d
  induction d with
  | zero => intro r hr; have := sizeR_pos r; omega
  | succ d ih =>
  intro r hr hd w v hSb hv hm
  cases r with
  | node nm ks =>
    have hv0 := hv
    obtain ⟨b, kp, kc, vs, rfl, hS, c0, c1, hk, hs⟩ := hv.open
    simp only [RT.nm, RT.kids] at c0 c1 hk hs
    have hkl := len_sizeRs ks
    rw [sizeR] at hr
    have HML := Lib.hid hm.lt
    have HIH : Hid (∀ j, j < ks.length → ∀ W, Up w W → Calls Tryz.prog 103 #[vN vs j, .map (some mb)] W (WiPost S W (wiR (inNm nms n) (gr ks j)))) := fun j hj W hW => by
      have := gr_size hj
      exact ih _ (by omega) (by omega) W _ (fun b hb => Nat.lt_of_lt_of_le (hSb b hb) hW.size) (RAt.keep (hW.kept S) _ (RsAt.get ks hs j hj)) (hm.same (Below.block hW mb HML.out))
    have HK := Lib.hid hk
    have HKL : Hid (ks.length ≤ 1000) := by unfold Hid; omega
    have HC1 := Lib.hid c1
    have HSB := Lib.hid hSb
    by_cases h0 : ks = []
    · subst h0
      have hlk : (Instr.lookup 96 (.map (some mb)) (.string nm) false).run Tryz.prog w = .ok (.bool (inNm nms n nm)) w := by
        have h := run_slook (P := Tryz.prog) Tryz.underlying96 Tryz.underlying9 (zero_bool _) hm nm
        rw [smK_look] at h
        exact h
      have HV := Lib.hid hv0
      have HWI : Hid (wiR (inNm nms n) (.node nm []) = if inNm nms n nm = true then some (leafOf nm) else none) := by unfold Hid; rw [wiR]
      clear ih hS hs hk hr hkl hm hSb hv hv0
      cases hq : inNm nms n nm
      · rw [hq] at hlk
        have HR : Hid (wiR (inNm nms n) (.node nm []) = none) := by unfold Hid; rw [HWI.out, hq]; rfl
        clear hq
        go_enter Tryz.func103, Tryz.ntmps103
        go_wp2_with fail
        go_ret
        exact wi_none HR.out (Up.refl _) rfl
      · rw [hq] at hlk
        have HR : Hid (wiR (inNm nms n) (.node nm []) = some (leafOf nm)) := by unfold Hid; rw [HWI.out, hq]; rfl
        clear hq
        go_enter Tryz.func103, Tryz.ntmps103
        go_wp2_with fail
        go_ret
        exact wi_some HR.out (Up.refl _) rfl (RAt.sub (fun b hb _ => .inl hb) _ HV.out)
    · have hpos : 0 < ks.length := List.length_pos_iff.2 h0
      have d0 : ((ks.length : Int) == 0) = false := beq_eq_false_iff_ne.2 (by omega)
      have d0n : ¬ ks.length = 0 := by omega
      have HRF : Hid (wiR (inNm nms n) (.node nm ks) = packR (wiRs (inNm nms n) ks)) := wiR_node nm h0
      have HST := Lib.hid (WInv.start S w)
      have a1 := (Up.alloc w (.cells #[.string ⟨#[]⟩, .slice none 0 0] 123)).cell HC1.out
      clear ih hS hs hk hr hkl hm hSb hv hv0 h0
      go_enter Tryz.func103, Tryz.ntmps103
      go_wp2_with fail
      clear d0 d0n a1
      have HST : Hid (WInv S w w.heap.size (w.alloc (.cells #[.string ⟨#[]⟩, .slice none 0 0] 123)) (.slice none 0 0) []) := HST.out
      generalize w.alloc (.cells #[.string ⟨#[]⟩, .slice none 0 0] 123) = w1 at *
      go_loopw [6, 7] (fun i _ wr => ∃ (k : Nat) (kv : Value), k ≤ ks.length ∧ i = .int .i64 k ∧ Hid (WInv S w w.heap.size wr kv (wiRs (inNm nms n) (ks.take k)))) (fun i _ _ => ks.length - (intOf i).toNat)
      case atStart => exact ⟨0, _, Nat.zero_le _, rfl, by rw [List.take_zero, wiRs]; exact HST.out⟩
      case round =>
        obtain ⟨k, kv, hk, rfl, hG⟩ := hrel
        obtain ⟨wo, rfl⟩ : ∃ wo : World, wo = wr := ⟨_, rfl⟩
        have a1 := hG.out.up.cell HC1.out
        by_cases hlt : k < ks.length
        · obtain ⟨kb, ko, rfl, hck⟩ := vN_get HK.out hlt
          have HTK := Lib.hid (wiRs_take (P := inNm nms n) hlt)
          have HCALL := Lib.hid (HIH.out k hlt wo hG.out.up)
          have k3 := hG.out.up.cell hck
          have i1 : (0 : Int) ≤ (k : Int) := by omega
          have i2 : (k : Int) < (ks.length : Int) := by omega
          have i3 : (k : Int) < 1000 := by have := HKL.out; omega
          have HLT := Lib.hid hlt
          have HGG := Lib.hid hG.out
          have HWL : Hid ((wiRs (inNm nms n) (ks.take k)).length ≤ 1000) := by
            have h1 := wiRs_len (inNm nms n) (ks.take k)
            rw [List.length_take] at h1
            have := HKL.out
            unfold Hid; omega
          clear hck hk hlt hG
          generalize vN vs k = vk at *
          generalize hoo : wiR (inNm nms n) (gr ks k) = o at *
          go_wp2_with fail
          refine HCALL.out.mono ?_
          rintro e w2 ⟨hu2, hm2⟩
          cases o with
          | none =>
            subst hm2
            have HN : Hid (WInv S w w.heap.size w2 kv (wiRs (inNm nms n) (ks.take (k + 1)))) := by
              unfold Hid
              rw [HTK.out, Option.toList_none, List.append_nil]
              exact HGG.out.step hu2
            clear hu2 hoo HCALL
            go_wp2_with fail
            go_roundw
            case rel => exact ⟨k + 1, _, HLT.out, by go_num, HN.out⟩
            case measure => have := HLT.out; simp [intOf]; omega
          | some r2 =>
            obtain ⟨b2, rfl, hr2⟩ := hm2
            obtain ⟨vs2, hvl, ho, hsz, hcW, hpush⟩ := HGG.out.push HSB.out hu2 hr2
            have k5 := (HGG.out.step hu2).cells.2.1
            have HHO := Lib.hid ho
            have HHS := Lib.hid hsz
            have HCW := Lib.hid hcW
            have HPS := Lib.hid hpush
            have HVB : Hid (vs2.length ≤ 1000000) := by have := HWL.out; unfold Hid; omega
            clear hu2 hr2 hvl ho hsz hcW hpush hoo HCALL
            go_wp2_with (at_builtin; refine wpList_appG w2 rfl _ _ 121 rfl (w.heap.size + 1) 120 (.pointer none) 8 Tryz.underlying121 Tryz.infoRN rfl (by decide) HHO.out rfl (.pointer (some ⟨b2, 0, none⟩)) rfl rfl vs2.length rfl HVB.out HHS.out ?_; intro g cap W hown hg hor; obtain ⟨hcB, hfB⟩ := HCW.out W hg; have hN := Lib.hid (HPS.out g cap W hown hg hor); clear hown hg hor)
            go_roundw
            case rel => exact ⟨k + 1, _, HLT.out, by go_num, by rw [HTK.out]; exact hN.out⟩
            case measure => have := HLT.out; simp [intOf]; omega
        · obtain rfl : k = ks.length := by omega
          have hI := hG.out
          rw [List.take_length] at hI
          obtain ⟨K, hK⟩ : ∃ K, K = wiRs (inNm nms n) ks := ⟨_, rfl⟩
          rw [← hK] at hI HRF
          obtain ⟨kq, kqc, rfl⟩ := hI.form
          have HI := Lib.hid hI
          have k1 := hI.cells.2.1
          clear hG hI hK hlt hk
          by_cases hz : K.length = 0
          · have hz1 : ((K.length : Int) == 0) = true := beq_iff_eq.2 (by omega)
            have HR : Hid (wiR (inNm nms n) (.node nm ks) = none) := by unfold Hid; rw [HRF.out]; unfold packR; rw [if_pos hz]
            go_wp2_with fail
            go_ret
            exact wi_none HR.out HI.out.up rfl
          · have hz1 : ((K.length : Int) == 0) = false := beq_eq_false_iff_ne.2 (by omega)
            have HR : Hid (wiR (inNm nms n) (.node nm ks) = some (.node ByteArray.empty K)) := by unfold Hid; rw [HRF.out]; unfold packR; rw [if_neg hz]
            clear hz
            go_wp2_with fail
            go_ret
            exact wi_some HR.out HI.out.up rfl HI.out.done
end Go.Proofs.YtpjijbophjdgaaaGreat
