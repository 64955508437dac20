/- split.OfStates: its list lies in new memory. -/
import Derived.Test.YtcbmbhghmfehpaaGreatQ47
namespace Go.Proofs.YtcbmbhghmfehpaaGreat
open Go.RowKit Go.Deep
def OsPostN (w : World) (st : List Int) (e : Ending) (w' : World) : Prop :=
  Up w w' ∧ ∃ v, e = .returned (.tuple #[v, .bool (osV st), .int .i64 (osErr st)]) ∧ IntsAt (fun b => w.heap.size ≤ b) w' v (osR st)
theorem os_nilN {w w' : World} {st : List Int} (h : ¬(osErr st = 0 ∧ osB st = true)) (hu : Up w w') : OsPostN w st (.returned (.tuple #[.slice none 0 0, .bool false, .int .i64 (osErr st)])) w' := by
  refine ⟨hu, .slice none 0 0, ?_, by unfold osR; rw [if_neg h]; exact ⟨none, 0, rfl, Nat.le_refl _, .inl rfl⟩⟩
  have : osV st = false := by
    unfold osV
    by_cases h0 : osErr st = 0
    · rw [decide_eq_true h0, Bool.true_and, Bool.eq_false_iff]; exact fun e => h ⟨h0, e⟩
    · rw [decide_eq_false h0]; rfl
  rw [this]
set_option maxRecDepth 100000 in
set_option maxHeartbeats 4000000 in
theorem ofStatesN_t (S : Nat → Prop) (w : World) (v : Value) (st : List Int) (h : IntsAt S w v st) (hn : st.length ≤ 1000000) :
    Calls Tryz.prog 37 #[v] w (OsPostN w st) := by
  obtain ⟨p, cap, rfl, hcap, _⟩ := SlAt.open h
  have h : IntsAt S w (.slice p st.length cap) st := h
  have HE : Hid (osErr st = if 32 < st.length then 4 else if (List.range st.length).any (fun j => badS (gi st j)) then 2 else 0) := rfl
  have HX := Lib.hid h
  have HCF := Lib.hid (ints_has_d 96 #[] (enters_of Tryz.func96 (by kernel_rfl) rfl) S w _ st.length (fun k => .int .i64 (gi st k)) (fun j => badS (gi st j)) h hn fun k _ => bad1_t w (gi st k))
  clear h
  have hosB : osB st = !(decide (0 < cntS st (-1) st.length) || decide ((ctK st st.length).length ≠ 2) || decide ((osO st st.length).length < 2) || decide ((st.length : Int) - 2 < ((osO st st.length).length : Int))) := rfl
  have HOB := Lib.hid hosB
  clear hosB
  by_cases h32 : 32 < st.length
  · have d1 : decide ((32 : Int) < (st.length : Int)) = true := decide_eq_true (by omega)
    have HZ : Hid (osErr st = 4) := by unfold Hid; rw [HE.out, if_pos h32]
    clear h32
    go_enter Tryz.func37, Tryz.ntmps37
    go_wp2_with fail
    exact ⟨rfl, .tuple #[.slice none 0 0, .bool false, .int .i64 4], by simp [results, Tryz.results37, go_sem], by have h := os_nilN (w := w) (w' := w) (st := st) (by rw [HZ.out]; exact fun e => absurd e.1 (by decide)) (Up.refl _); rwa [HZ.out] at h⟩
  have d1 : decide ((32 : Int) < (st.length : Int)) = false := decide_eq_false (by omega)
  have n32 : st.length ≤ 32 := by omega
  have HE2 : Hid (osErr st = if (List.range st.length).any (fun j => badS (gi st j)) then 2 else 0) := by unfold Hid; rw [HE.out, if_neg h32]
  clear HE h32
  cases hb : (List.range st.length).any (fun j => badS (gi st j))
  · have HZ : Hid (osErr st = 0) := by unfold Hid; rw [HE2.out, hb]; rfl
    rw [hb] at HCF
    clear hb HE2
    have hmm := fun W => run_makeMap (P := Tryz.prog) 120 W
    go_enter Tryz.func37, Tryz.ntmps37
    go_wp2_with fail
    refine HCF.out.mono ?_
    rintro e w2 ⟨rfl, n2, rfl⟩
    have HU2 := Lib.hid (Up.drewN w n2)
    generalize w.drewN n2 = w2 at *
    go_wp2_with fail
    clear hmm
    have HLE := Lib.hid (cntS_le st)
    have HCL := Lib.hid (ctK_len st)
    have HOL := Lib.hid (fun k => memK_len (fun i => gi st i.toNat != gi st 0) k)
    go_loopw [6, 7, 8, 19] (fun o _ _ i wr => ∃ k : Nat, k ≤ st.length ∧ i = .int .i64 k ∧ Hid (Owns (w2.heap.size + 1) 3 wr o ((osO st k).map (Value.int .i64))) ∧ Hid (IMap wr w2.heap.size (ctK st k)) ∧ Hid (Up w2 wr)) (fun _ _ _ i _ => st.length - (intOf i).toNat)
    case atStart => exact ⟨0, Nat.zero_le _, rfl, Owns.nil _ _ _, IMap.made w2, Up.alloc _ _⟩
    case round =>
      obtain ⟨k, hk, rfl, hO, hM, hUr⟩ := hrel
      obtain ⟨wo, rfl⟩ : ∃ wo : World, wo = wr := ⟨_, rfl⟩
      by_cases hlt : k < st.length
      · obtain ⟨b, off, rfl, hcell⟩ := ints_get (IntsAt.keep HX.out ((HU2.out.trans hUr.out).kept _)) hlt
        have i1 : (0 : Int) ≤ (k : Int) := by omega
        have i2 : (k : Int) < (st.length : Int) := by omega
        have i3 : (k : Int) < 64 := by omega
        have i4 : (0 : Int) < (st.length : Int) := by omega
        have HMS : Hid (ctK st (k + 1) = putJ (ctK st k) (gi st k) (.int .i64 ((cntS st (gi st k) k : Nat) + 1 : Int))) := rfl
        have hlk := run_ilook (P := Tryz.prog) Tryz.underlying120 Tryz.underlying3 (zero_intM wo) hM.out (gi st k)
        rw [ctK_look] at hlk
        have hcl : cntS st (gi st k) k ≤ k := HLE.out _ _
        have HSU := Lib.hid (osO_succ st k)
        have hll : (osO st k).length ≤ k := HOL.out k
        have HLL : Hid (((osO st k).map (Value.int .i64)).length = (osO st k).length) := List.length_map _
        obtain ⟨w5, hrun, hm5, hs5, ho5, ht5, hou5, hb5⟩ := run_iset (P := Tryz.prog) Tryz.underlying120 Tryz.underlying3 hM.out (ctK_uniq st k) (gi st k) (.int .i64 ((cntS st (gi st k) k : Nat) + 1 : Int))
        have HM5 : Hid (IMap w5 w2.heap.size (ctK st (k + 1))) := by unfold Hid; rw [HMS.out]; exact hm5
        have HU5 : Hid (Up w2 w5) := ⟨ho5.trans hUr.out.os, ht5.trans hUr.out.tape, hou5.trans hUr.out.output, by rw [hs5]; exact hUr.out.size, fun b hb => (hb5 b (by omega)).trans (hUr.out.block b hb)⟩
        have HO5 := Lib.hid (Owns.kept hO.out fun b hb _ => hb5 b (by omega))
        have hmlt := hm5.lt
        have hsz5 : w2.heap.size + 1 ≤ w5.heap.size := by omega
        obtain ⟨b', off', e0, hcell0⟩ := ints_get (IntsAt.keep HX.out ((HU2.out.trans HU5.out).kept _)) (show 0 < st.length by omega)
        injection e0 with e0
        injection e0 with e1 e2
        subst e1; subst e2
        rw [Nat.add_zero] at hcell0
        have HLT := Lib.hid hlt
        clear hm5 hs5 ho5 ht5 hou5 hb5 hM hUr hO hmlt HMS
        generalize cntS st (gi st k) k = c at *
        generalize gi st k = x at *
        generalize gi st 0 = y at *
        have HL6 : Hid ((osO st k).length ≤ 1000000) := by unfold Hid; omega
        generalize (osO st k).length = ol at *
        by_cases hxy : x = y
        · have hxy1 : (x != y) = false := by simp [hxy]
          have HS : Hid (osO st (k + 1) = osO st k) := by unfold Hid; rw [HSU.out, hxy1]; simp
          clear hxy
          go_wp2_with fail
          go_roundw
          case rel => exact ⟨k + 1, HLT.out, by go_num, by unfold Hid; rw [HS.out]; exact HO5.out, HM5, HU5⟩
          case measure => have := HLT.out; simp [intOf]; omega
        · have hxy1 : (x != y) = true := by simpa using hxy
          have HS : Hid (osO st (k + 1) = osO st k ++ [(k : Int)]) := by unfold Hid; rw [HSU.out, hxy1]; rfl
          clear hxy
          go_wp2_with (at_builtin; refine wpList_appM w5 rfl _ _ 26 rfl (w2.heap.size + 1) 3 (.int .i64 0) 8 Tryz.underlying26 Tryz.infoI rfl (by decide) HO5.out rfl (.int .i64 k) _ rfl rfl rfl _ HLL.out HL6.out hsz5 ?_; intro g8 cap8 w8 hown1 hgr1 hbe1)
          go_roundw
          case rel => exact ⟨k + 1, HLT.out, by go_num, by unfold Hid; rw [HS.out, List.map_append]; exact hown1, HM5.out.same (hbe1.block _ (Nat.lt_succ_self _)), Below.trans HU5.out (Below.mono hbe1 (Nat.le_succ _))⟩
          case measure => have := HLT.out; simp [intOf]; omega
      · obtain rfl : k = st.length := by omega
        have hlk := run_ilook (P := Tryz.prog) Tryz.underlying120 Tryz.underlying3 (zero_intM wo) hM.out (-1)
        rw [ctK_look] at hlk
        have hlen := fun ty => len_imap hM.out ty
        have hcl : cntS st (-1) st.length ≤ st.length := HLE.out _ _
        have hkl : (ctK st st.length).length ≤ st.length := HCL.out _
        have hll : (osO st st.length).length ≤ st.length := HOL.out _
        obtain ⟨op, oc, hov, _⟩ := Owns.form (n := (osO st st.length).length) hO.out (List.length_map _)
        have HUo := Lib.hid (HU2.out.trans hUr.out)
        have HOO := Lib.hid (IntsAt.sub (Owns.ints hO.out) (T := fun b => w.heap.size ≤ b) fun b hb _ => by have := HU2.out.size; omega)
        clear hlt hk hM hUr hO HLE HCL HOL HCF
        subst hov
        have HR : Hid (osB st = true → osR st = osO st st.length) := fun h => by unfold osR; rw [if_pos ⟨HZ.out, h⟩]
        have HV : Hid (osV st = osB st) := by unfold Hid osV; rw [HZ.out]; rfl
        generalize cntS st (-1) st.length = c at *
        generalize (ctK st st.length).length = m at *
        generalize (osO st st.length).length = ol at *
        have T1 : ∀ z : Int, (c : Int) = z → ((0 < c) ↔ (0 < z)) := fun z e => by omega
        generalize hci : (c : Int) = ci at *
        have T1 := T1 ci rfl
        by_cases t1 : 0 < c
        · have e1 : decide ((0 : Int) < ci) = true := decide_eq_true (T1.1 t1)
          have HN : Hid (osB st = false) := by unfold Hid; rw [HOB.out, decide_eq_true t1]; rfl
          clear t1 T1 hci hcl
          go_wp2_with fail
          exact ⟨rfl, .tuple #[.slice none 0 0, .bool false, .int .i64 0], by simp [results, Tryz.results37, go_sem], by have h := os_nilN (st := st) (by rw [HN.out]; exact fun e => absurd e.2 (by decide)) HUo.out; rwa [HZ.out] at h⟩
        have e1 : decide ((0 : Int) < ci) = false := decide_eq_false (fun e => t1 (T1.2 e))
        by_cases t2 : m = 2
        · have e2 : ((m : Int) != 2) = false := by simp; omega
          by_cases t3 : ol < 2
          · have e3 : decide ((ol : Int) < 2) = true := decide_eq_true (by omega)
            have HN : Hid (osB st = false) := by unfold Hid; rw [HOB.out, decide_eq_true t3]; simp
            clear t1 t2 t3 T1 hci hcl
            go_wp2_with fail
            exact ⟨rfl, .tuple #[.slice none 0 0, .bool false, .int .i64 0], by simp [results, Tryz.results37, go_sem], by have h := os_nilN (st := st) (by rw [HN.out]; exact fun e => absurd e.2 (by decide)) HUo.out; rwa [HZ.out] at h⟩
          have e3 : decide ((ol : Int) < 2) = false := decide_eq_false (by omega)
          by_cases t4 : (st.length : Int) - 2 < (ol : Int)
          · have e4 : decide ((st.length : Int) - 2 < (ol : Int)) = true := decide_eq_true t4
            have HN : Hid (osB st = false) := by unfold Hid; rw [HOB.out, e4]; simp
            clear t1 t2 t3 t4 T1 hci hcl
            go_wp2_with fail
            exact ⟨rfl, .tuple #[.slice none 0 0, .bool false, .int .i64 0], by simp [results, Tryz.results37, go_sem], by have h := os_nilN (st := st) (by rw [HN.out]; exact fun e => absurd e.2 (by decide)) HUo.out; rwa [HZ.out] at h⟩
          · have e4 : decide ((st.length : Int) - 2 < (ol : Int)) = false := decide_eq_false t4
            have HN : Hid (osB st = true) := by unfold Hid; rw [HOB.out, e4, decide_eq_false t1, decide_eq_false t3, decide_eq_false (fun h => h t2)]; rfl
            clear t1 t2 t3 t4 T1 hci hcl
            go_wp2_with fail
            exact ⟨rfl, .tuple #[.slice op ol oc, .bool true, .int .i64 0], by simp [results, Tryz.results37, go_sem], HUo.out, _, by rw [HV.out, HN.out, HZ.out], by rw [HR.out HN.out]; exact HOO.out⟩
        · have e2 : ((m : Int) != 2) = true := by simp; omega
          have HN : Hid (osB st = false) := by unfold Hid; rw [HOB.out, decide_eq_true (show m ≠ 2 from t2)]; simp
          clear t1 t2 T1 hci hcl
          go_wp2_with fail
          exact ⟨rfl, .tuple #[.slice none 0 0, .bool false, .int .i64 0], by simp [results, Tryz.results37, go_sem], by have h := os_nilN (st := st) (by rw [HN.out]; exact fun e => absurd e.2 (by decide)) HUo.out; rwa [HZ.out] at h⟩
  · have HZ : Hid (osErr st = 2) := by unfold Hid; rw [HE2.out, hb]; rfl
    rw [hb] at HCF
    clear hb HE2
    go_enter Tryz.func37, Tryz.ntmps37
    go_wp2_with fail
    refine HCF.out.mono ?_
    rintro e w2 ⟨rfl, n2, rfl⟩
    go_wp2_with fail
    exact ⟨rfl, .tuple #[.slice none 0 0, .bool false, .int .i64 2], by simp [results, Tryz.results37, go_sem], by have h := os_nilN (st := st) (by rw [HZ.out]; exact fun e => absurd e.1 (by decide)) (Up.drewN w n2); rwa [HZ.out] at h⟩
end Go.Proofs.YtcbmbhghmfehpaaGreat
