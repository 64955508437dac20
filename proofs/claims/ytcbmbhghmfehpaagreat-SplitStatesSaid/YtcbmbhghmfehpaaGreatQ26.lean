/- split.OfStates. slices.IndexFunc and ContainsFunc at lists with a function that draws. A range over a function whose iterator owns blocks: between two yields it may write what it owns; what it yields it gives away. Between two rounds of slices.AppendSeq at ints: cut out of V1. -/
import Derived.Test.YtcbmbhghmfehpaaGreatQ5
import Derived.Test.YtcbmbhghmfehpaaGreatQ25
import Derived.Test.YtcbmbhghmfehpaaGreatQ4
import Derived.RangeFuncWrites
import Derived.Test.YtcbmbhghmfehpaaGreatQ3
import Derived.Laws.EntriesVeiled
namespace Go.Proofs.YtcbmbhghmfehpaaGreat
open Go.RowKit Go.Deep
theorem bad1_t (w : World) (s : Int) : FnD 96 #[] #[.int .i64 s] (.bool (badS s)) w := by
  intro m
  show Calls Tryz.prog 96 #[.int .i64 s] (w.drewN m) _
  obtain ⟨W, hW⟩ : ∃ W, W = w.drewN m := ⟨_, rfl⟩
  have HW := Lib.hid hW
  have HB : Hid (badS s = (decide (s < -1) || decide (16 ≤ s))) := rfl
  rw [← hW]
  clear hW
  generalize badS s = r at *
  by_cases h1 : s < -1
  · have d1 : decide (s < -1) = true := decide_eq_true h1
    have HE : Hid (r = true) := by unfold Hid; rw [HB.out, d1]; rfl
    clear h1
    go_enter Tryz.func96, Tryz.ntmps96
    go_wp2_with fail
    go_ret
    exact ⟨ret_bool HE.out.symm, m, HW.out⟩
  · have d1 : decide (s < -1) = false := decide_eq_false h1
    have HE : Hid (r = decide (16 ≤ s)) := by unfold Hid; rw [HB.out, d1]; rfl
    clear h1
    go_enter Tryz.func96, Tryz.ntmps96
    go_wp2_with fail
    go_ret
    exact ⟨ret_bool HE.out.symm, m, HW.out⟩
theorem zero_intM (W : World) : (zeroValue 3).run Tryz.prog W = .ok (.int .i64 0) W := by simp [Tryz.zeroValue3]
theorem len_imap {W : World} {b : Nat} {l : List (Int × Value)} (h : IMap W b l) (ty : TypeId) : (Builtin.len_ #[120] ty #[.map (some b)]).run Tryz.prog W = .ok (goInt l.length) W := by
  obtain ⟨es, clock, hb, hl⟩ := h
  have h1 := run_len_map (P := Tryz.prog) W 120 ty b es clock (by simp [Program.mapKeyOf, Program.mapElemOf, Tryz.underlying120]) hb
  have h2 : es.size = l.length := by have := congrArg List.length hl; simpa using this
  rw [h1, h2]
def OsPost (w : World) (st : List Int) (e : Ending) (w' : World) : Prop :=
  Up w w' ∧ ∃ v, e = .returned (.tuple #[v, .bool (osV st), .int .i64 (osErr st)]) ∧ IntsAt Any w' v (osR st)
theorem os_nil {w w' : World} {st : List Int} (h : ¬(osErr st = 0 ∧ osB st = true)) (hu : Up w w') : OsPost w st (.returned (.tuple #[.slice none 0 0, .bool false, .int .i64 (osErr st)])) w' := by
  refine ⟨hu, .slice none 0 0, ?_, by unfold osR; rw [if_neg h]; exact ⟨none, 0, rfl, Nat.le_refl _, .inl rfl⟩⟩
  have : osV st = false := by
    unfold osV
    by_cases h0 : osErr st = 0
    · rw [decide_eq_true h0, Bool.true_and, Bool.eq_false_iff]; exact fun e => h ⟨h0, e⟩
    · rw [decide_eq_false h0]; rfl
  rw [this]
theorem osO_succ (st : List Int) (k : Nat) : osO st (k + 1) = osO st k ++ if gi st k != gi st 0 then [(k : Int)] else [] := by
  unfold osO; rw [memK_succ, Int.toNat_natCast]
set_option maxRecDepth 100000 in
set_option maxHeartbeats 4000000 in
theorem ofStates_t (S : Nat → Prop) (w : World) (v : Value) (st : List Int) (h : IntsAt S w v st) (hn : st.length ≤ 1000000) :
    Calls Tryz.prog 37 #[v] w (OsPost w st) := by
  obtain ⟨p, cap, rfl, hcap, _⟩ := SlAt.open h
  have h : IntsAt S w (.slice p st.length cap) st := h
  have HE : Hid (osErr st = if 32 < st.length then 4 else if (List.range st.length).any (fun j => badS (gi st j)) then 2 else 0) := rfl
  have HX := Lib.hid h
  have HCF := Lib.hid (ints_has_d 96 #[] (enters_of Tryz.func96 (by kernel_rfl) rfl) S w _ st.length (fun k => .int .i64 (gi st k)) (fun j => badS (gi st j)) h hn fun k _ => bad1_t w (gi st k))
  clear h
  have hosB : osB st = !(decide (0 < cntS st (-1) st.length) || decide ((ctK st st.length).length ≠ 2) || decide ((osO st st.length).length < 2) || decide ((st.length : Int) - 2 < ((osO st st.length).length : Int))) := rfl
  have HOB := Lib.hid hosB
  clear hosB
  by_cases h32 : 32 < st.length
  · have d1 : decide ((32 : Int) < (st.length : Int)) = true := decide_eq_true (by omega)
    have HZ : Hid (osErr st = 4) := by unfold Hid; rw [HE.out, if_pos h32]
    clear h32
    go_enter Tryz.func37, Tryz.ntmps37
    go_wp2_with fail
    exact ⟨rfl, .tuple #[.slice none 0 0, .bool false, .int .i64 4], by simp [results, Tryz.results37, go_sem], by have h := os_nil (w := w) (w' := w) (st := st) (by rw [HZ.out]; exact fun e => absurd e.1 (by decide)) (Up.refl _); rwa [HZ.out] at h⟩
  have d1 : decide ((32 : Int) < (st.length : Int)) = false := decide_eq_false (by omega)
  have n32 : st.length ≤ 32 := by omega
  have HE2 : Hid (osErr st = if (List.range st.length).any (fun j => badS (gi st j)) then 2 else 0) := by unfold Hid; rw [HE.out, if_neg h32]
  clear HE h32
  cases hb : (List.range st.length).any (fun j => badS (gi st j))
  · have HZ : Hid (osErr st = 0) := by unfold Hid; rw [HE2.out, hb]; rfl
    rw [hb] at HCF
    clear hb HE2
    have hmm := fun W => run_makeMap (P := Tryz.prog) 120 W
    go_enter Tryz.func37, Tryz.ntmps37
    go_wp2_with fail
    refine HCF.out.mono ?_
    rintro e w2 ⟨rfl, n2, rfl⟩
    have HU2 := Lib.hid (Up.drewN w n2)
    generalize w.drewN n2 = w2 at *
    go_wp2_with fail
    clear hmm
    have HLE := Lib.hid (cntS_le st)
    have HCL := Lib.hid (ctK_len st)
    have HOL := Lib.hid (fun k => memK_len (fun i => gi st i.toNat != gi st 0) k)
    go_loopw [6, 7, 8, 19] (fun o _ _ i wr => ∃ k : Nat, k ≤ st.length ∧ i = .int .i64 k ∧ Hid (Owns (w2.heap.size + 1) 3 wr o ((osO st k).map (Value.int .i64))) ∧ Hid (IMap wr w2.heap.size (ctK st k)) ∧ Hid (Up w2 wr)) (fun _ _ _ i _ => st.length - (intOf i).toNat)
    case atStart => exact ⟨0, Nat.zero_le _, rfl, Owns.nil _ _ _, IMap.made w2, Up.alloc _ _⟩
    case round =>
      obtain ⟨k, hk, rfl, hO, hM, hUr⟩ := hrel
      obtain ⟨wo, rfl⟩ : ∃ wo : World, wo = wr := ⟨_, rfl⟩
      by_cases hlt : k < st.length
      · obtain ⟨b, off, rfl, hcell⟩ := ints_get (IntsAt.keep HX.out ((HU2.out.trans hUr.out).kept _)) hlt
        have i1 : (0 : Int) ≤ (k : Int) := by omega
        have i2 : (k : Int) < (st.length : Int) := by omega
        have i3 : (k : Int) < 64 := by omega
        have i4 : (0 : Int) < (st.length : Int) := by omega
        have HMS : Hid (ctK st (k + 1) = putJ (ctK st k) (gi st k) (.int .i64 ((cntS st (gi st k) k : Nat) + 1 : Int))) := rfl
        have hlk := run_ilook (P := Tryz.prog) Tryz.underlying120 Tryz.underlying3 (zero_intM wo) hM.out (gi st k)
        rw [ctK_look] at hlk
        have hcl : cntS st (gi st k) k ≤ k := HLE.out _ _
        have HSU := Lib.hid (osO_succ st k)
        have hll : (osO st k).length ≤ k := HOL.out k
        have HLL : Hid (((osO st k).map (Value.int .i64)).length = (osO st k).length) := List.length_map _
        obtain ⟨w5, hrun, hm5, hs5, ho5, ht5, hou5, hb5⟩ := run_iset (P := Tryz.prog) Tryz.underlying120 Tryz.underlying3 hM.out (ctK_uniq st k) (gi st k) (.int .i64 ((cntS st (gi st k) k : Nat) + 1 : Int))
        have HM5 : Hid (IMap w5 w2.heap.size (ctK st (k + 1))) := by unfold Hid; rw [HMS.out]; exact hm5
        have HU5 : Hid (Up w2 w5) := ⟨ho5.trans hUr.out.os, ht5.trans hUr.out.tape, hou5.trans hUr.out.output, by rw [hs5]; exact hUr.out.size, fun b hb => (hb5 b (by omega)).trans (hUr.out.block b hb)⟩
        have HO5 := Lib.hid (Owns.kept hO.out fun b hb _ => hb5 b (by omega))
        have hmlt := hm5.lt
        have hsz5 : w2.heap.size + 1 ≤ w5.heap.size := by omega
        obtain ⟨b', off', e0, hcell0⟩ := ints_get (IntsAt.keep HX.out ((HU2.out.trans HU5.out).kept _)) (show 0 < st.length by omega)
        injection e0 with e0
        injection e0 with e1 e2
        subst e1; subst e2
        rw [Nat.add_zero] at hcell0
        have HLT := Lib.hid hlt
        clear hm5 hs5 ho5 ht5 hou5 hb5 hM hUr hO hmlt HMS
        generalize cntS st (gi st k) k = c at *
        generalize gi st k = x at *
        generalize gi st 0 = y at *
        have HL6 : Hid ((osO st k).length ≤ 1000000) := by unfold Hid; omega
        generalize (osO st k).length = ol at *
        by_cases hxy : x = y
        · have hxy1 : (x != y) = false := by simp [hxy]
          have HS : Hid (osO st (k + 1) = osO st k) := by unfold Hid; rw [HSU.out, hxy1]; simp
          clear hxy
          go_wp2_with fail
          go_roundw
          case rel => exact ⟨k + 1, HLT.out, by go_num, by unfold Hid; rw [HS.out]; exact HO5.out, HM5, HU5⟩
          case measure => have := HLT.out; simp [intOf]; omega
        · have hxy1 : (x != y) = true := by simpa using hxy
          have HS : Hid (osO st (k + 1) = osO st k ++ [(k : Int)]) := by unfold Hid; rw [HSU.out, hxy1]; rfl
          clear hxy
          go_wp2_with (at_builtin; refine wpList_appM w5 rfl _ _ 26 rfl (w2.heap.size + 1) 3 (.int .i64 0) 8 Tryz.underlying26 Tryz.infoI rfl (by decide) HO5.out rfl (.int .i64 k) _ rfl rfl rfl _ HLL.out HL6.out hsz5 ?_; intro g8 cap8 w8 hown1 hgr1 hbe1)
          go_roundw
          case rel => exact ⟨k + 1, HLT.out, by go_num, by unfold Hid; rw [HS.out, List.map_append]; exact hown1, HM5.out.same (hbe1.block _ (Nat.lt_succ_self _)), Below.trans HU5.out (Below.mono hbe1 (Nat.le_succ _))⟩
          case measure => have := HLT.out; simp [intOf]; omega
      · obtain rfl : k = st.length := by omega
        have hlk := run_ilook (P := Tryz.prog) Tryz.underlying120 Tryz.underlying3 (zero_intM wo) hM.out (-1)
        rw [ctK_look] at hlk
        have hlen := fun ty => len_imap hM.out ty
        have hcl : cntS st (-1) st.length ≤ st.length := HLE.out _ _
        have hkl : (ctK st st.length).length ≤ st.length := HCL.out _
        have hll : (osO st st.length).length ≤ st.length := HOL.out _
        obtain ⟨op, oc, hov, _⟩ := Owns.form (n := (osO st st.length).length) hO.out (List.length_map _)
        have HUo := Lib.hid (HU2.out.trans hUr.out)
        have HOO := Lib.hid (IntsAt.sub (Owns.ints hO.out) (T := Any) fun _ _ _ => trivial)
        clear hlt hk hM hUr hO HLE HCL HOL HCF
        subst hov
        have HR : Hid (osB st = true → osR st = osO st st.length) := fun h => by unfold osR; rw [if_pos ⟨HZ.out, h⟩]
        have HV : Hid (osV st = osB st) := by unfold Hid osV; rw [HZ.out]; rfl
        generalize cntS st (-1) st.length = c at *
        generalize (ctK st st.length).length = m at *
        generalize (osO st st.length).length = ol at *
        have T1 : ∀ z : Int, (c : Int) = z → ((0 < c) ↔ (0 < z)) := fun z e => by omega
        generalize hci : (c : Int) = ci at *
        have T1 := T1 ci rfl
        by_cases t1 : 0 < c
        · have e1 : decide ((0 : Int) < ci) = true := decide_eq_true (T1.1 t1)
          have HN : Hid (osB st = false) := by unfold Hid; rw [HOB.out, decide_eq_true t1]; rfl
          clear t1 T1 hci hcl
          go_wp2_with fail
          exact ⟨rfl, .tuple #[.slice none 0 0, .bool false, .int .i64 0], by simp [results, Tryz.results37, go_sem], by have h := os_nil (st := st) (by rw [HN.out]; exact fun e => absurd e.2 (by decide)) HUo.out; rwa [HZ.out] at h⟩
        have e1 : decide ((0 : Int) < ci) = false := decide_eq_false (fun e => t1 (T1.2 e))
        by_cases t2 : m = 2
        · have e2 : ((m : Int) != 2) = false := by simp; omega
          by_cases t3 : ol < 2
          · have e3 : decide ((ol : Int) < 2) = true := decide_eq_true (by omega)
            have HN : Hid (osB st = false) := by unfold Hid; rw [HOB.out, decide_eq_true t3]; simp
            clear t1 t2 t3 T1 hci hcl
            go_wp2_with fail
            exact ⟨rfl, .tuple #[.slice none 0 0, .bool false, .int .i64 0], by simp [results, Tryz.results37, go_sem], by have h := os_nil (st := st) (by rw [HN.out]; exact fun e => absurd e.2 (by decide)) HUo.out; rwa [HZ.out] at h⟩
          have e3 : decide ((ol : Int) < 2) = false := decide_eq_false (by omega)
          by_cases t4 : (st.length : Int) - 2 < (ol : Int)
          · have e4 : decide ((st.length : Int) - 2 < (ol : Int)) = true := decide_eq_true t4
            have HN : Hid (osB st = false) := by unfold Hid; rw [HOB.out, e4]; simp
            clear t1 t2 t3 t4 T1 hci hcl
            go_wp2_with fail
            exact ⟨rfl, .tuple #[.slice none 0 0, .bool false, .int .i64 0], by simp [results, Tryz.results37, go_sem], by have h := os_nil (st := st) (by rw [HN.out]; exact fun e => absurd e.2 (by decide)) HUo.out; rwa [HZ.out] at h⟩
          · have e4 : decide ((st.length : Int) - 2 < (ol : Int)) = false := decide_eq_false t4
            have HN : Hid (osB st = true) := by unfold Hid; rw [HOB.out, e4, decide_eq_false t1, decide_eq_false t3, decide_eq_false (fun h => h t2)]; rfl
            clear t1 t2 t3 t4 T1 hci hcl
            go_wp2_with fail
            exact ⟨rfl, .tuple #[.slice op ol oc, .bool true, .int .i64 0], by simp [results, Tryz.results37, go_sem], HUo.out, _, by rw [HV.out, HN.out, HZ.out], by rw [HR.out HN.out]; exact HOO.out⟩
        · have e2 : ((m : Int) != 2) = true := by simp; omega
          have HN : Hid (osB st = false) := by unfold Hid; rw [HOB.out, decide_eq_true (show m ≠ 2 from t2)]; simp
          clear t1 t2 T1 hci hcl
          go_wp2_with fail
          exact ⟨rfl, .tuple #[.slice none 0 0, .bool false, .int .i64 0], by simp [results, Tryz.results37, go_sem], by have h := os_nil (st := st) (by rw [HN.out]; exact fun e => absurd e.2 (by decide)) HUo.out; rwa [HZ.out] at h⟩
  · have HZ : Hid (osErr st = 2) := by unfold Hid; rw [HE2.out, hb]; rfl
    rw [hb] at HCF
    clear hb HE2
    go_enter Tryz.func37, Tryz.ntmps37
    go_wp2_with fail
    refine HCF.out.mono ?_
    rintro e w2 ⟨rfl, n2, rfl⟩
    go_wp2_with fail
    exact ⟨rfl, .tuple #[.slice none 0 0, .bool false, .int .i64 2], by simp [results, Tryz.results37, go_sem], by have h := os_nil (st := st) (by rw [HZ.out]; exact fun e => absurd e.1 (by decide)) (Up.drewN w n2); rwa [HZ.out] at h⟩
end Go.Proofs.YtcbmbhghmfehpaaGreat
namespace Go.Proofs.YtcbmbhghmfehpaaGreat
open Go.RowKit Go.Deep
set_option maxHeartbeats 400000 in
theorem rows_ix_d (g : Nat) (lb : Array Value) (eg : ∀ args w, (callFunc g args).run Tryz.prog w = .ok (.enter g args) w) (S : Nat → Prop) (w : World) (v : Value) (n : Nat) (f : Nat → Value) (p : Nat → Bool)
    (h : SlAt S w v n f) (hn : n ≤ 1000000) (hp : ∀ k, k < n → FnD g lb #[f k] (.bool (p k)) w) :
    Calls Tryz.prog 77 #[v, .func (.func g) #[] lb] w fun e w' => e = .returned (.int .i64 (firstIx p n)) ∧ ∃ q, w' = w.drewN q := by
  obtain ⟨q, cap, rfl, hcap, H⟩ := h.open
  have HP := Lib.hid hp
  clear h hp
  go_enter Tryz.func77, Tryz.ntmps77
  go_wp2_with fail
  go_loopw [5, 8] (fun _ i wr => ∃ k : Nat, k ≤ n ∧ i = .int .i64 k ∧ Hid (∀ j, j < k → p j = false) ∧ Hid (∃ m, wr = w.drewN m)) (fun _ i _ => n - (intOf i).toNat)
  case atStart => exact ⟨0, Nat.zero_le _, rfl, fun j hj => absurd hj (Nat.not_lt_zero _), 0, rfl⟩
  case round =>
    obtain ⟨k, hk, rfl, hd, hm⟩ := hrel
    obtain ⟨m, rfl⟩ := hm.out
    clear hm
    by_cases hlt : k < n
    · obtain ⟨b, off, rfl, hc⟩ := H k hlt
      have hc := (Up.drewN w m).cell hc
      clear H
      have hpk := HP.out k hlt
      unfold FnD at hpk
      have HPK := Lib.hid (hpk m)
      clear hpk HP
      generalize hv : p k = pk at *
      have HV := Lib.hid hv
      clear hv
      cases pk
      · go_wp2_with fail
        refine HPK.out.mono ?_
        rintro e w' ⟨rfl, m2, rfl⟩
        go_wp2_with fail
        go_roundw
        case rel => exact ⟨k + 1, by omega, by go_num, fun j hj => if e : j = k then by subst e; exact HV.out else hd.out j (by omega), m2, rfl⟩
        case measure => simp [intOf]; omega
      · go_wp2_with fail
        refine HPK.out.mono ?_
        rintro e w' ⟨rfl, m2, rfl⟩
        go_wp2_with fail
        go_ret
        exact ⟨ret_int (firstIx_at hlt hd.out HV.out).symm, m2, rfl⟩
    · clear H
      go_wp2_with fail
      go_ret
      exact ⟨ret_int (firstIx_none fun j hj => hd.out j (by omega)).symm, m, rfl⟩
set_option maxHeartbeats 400000 in
theorem rows_has_d (g : Nat) (lb : Array Value) (eg : ∀ args w, (callFunc g args).run Tryz.prog w = .ok (.enter g args) w) (S : Nat → Prop) (w : World) (v : Value) (n : Nat) (f : Nat → Value) (p : Nat → Bool)
    (h : SlAt S w v n f) (hn : n ≤ 1000000) (hp : ∀ k, k < n → FnD g lb #[f k] (.bool (p k)) w) :
    Calls Tryz.prog 20 #[v, .func (.func g) #[] lb] w fun e w' => e = .returned (.bool ((List.range n).any p)) ∧ ∃ q, w' = w.drewN q := by
  have hx := firstIx_any p n
  have HX := Lib.hid hx
  have HI := Lib.hid (rows_ix_d g lb eg S w v n f p h hn hp)
  obtain ⟨q, cap, rfl, -, -⟩ := SlAt.open h
  clear hx hp h eg
  go_enter Tryz.func20, Tryz.ntmps20
  go_wp2_with fail
  refine HI.out.mono ?_
  rintro e w' ⟨rfl, m, rfl⟩
  go_wp2_with fail
  go_ret
  exact ⟨ret_bool (by rw [← HX.out]), m, rfl⟩
end Go.Proofs.YtcbmbhghmfehpaaGreat
namespace Go.Proofs.YtcbmbhghmfehpaaGreat
open Go Go.RowKit Go.Deep
/-- A step of the iterator: what it does not own lies as it lay; it may own more: what is new. -/
structure OwnStep (L L' : Nat → Prop) (W W' : World) : Prop where
  os : W'.os = W.os
  tape : W'.tape = W.tape
  output : W'.output = W.output
  size : W.heap.size ≤ W'.heap.size
  block : ∀ b, b < W.heap.size → ¬ L b → W'.heap[b]? = W.heap[b]?
  more : ∀ b, L' b → (L b ∧ b < W.heap.size) ∨ (W.heap.size ≤ b ∧ b < W'.heap.size)
def AbL {α : Type} (J : List α → (Nat → Prop) → World → Prop) : Prop := ∀ s L L' W W', J s L W → OwnStep L L' W W' → J s L' W'
def SeqL {α : Type} (F : Fence) (n : Nat) (P : Program) (g : Nat) (lb : Array Value) (encs : α → Array Value) (Gv : α → (Nat → Prop) → World → Prop) (Gb : α → Nat → Prop) (S : List α → Prop) (N : Nat) (w w9 : World) (L0 : Nat → Prop) : Prop :=
  ∀ (l : Nat) (J : List α → (Nat → Prop) → World → Prop) (W : World), Below w.heap.size w W → (∀ b, L0 b → b < w9.heap.size ∧ W.heap[b]? = w9.heap[b]?) → w9.heap.size ≤ W.heap.size → AbL J →
    (∀ pre x L W1, J pre L W1 → Gv x L W1 → Below w.heap.size w W1 → (∀ b, L b → w.heap.size ≤ b ∧ b < W1.heap.size) → pre.length < N → YieldAt F (n - 1) P l (encs x) W1 fun e W' =>
      e = .returned (.bool true) ∧ J (pre ++ [x]) L W' ∧ Below w.heap.size w W' ∧ W1.heap.size ≤ W'.heap.size ∧ ∀ b, (L b ∨ Gb x b) → W'.heap[b]? = W1.heap[b]?) →
    J [] L0 W →
    CallsIn F n P g (#[.func (.yield l) #[] #[]] ++ lb) W fun e W' => (∃ v, e = .returned v) ∧ ∃ xs L, S xs ∧ J xs L W'
def ownPostL {α : Type} (B : Nat) (w0 : World) (I : List α → (Nat → Prop) → World → Prop) (xs : List α) (L Lk : Nat → Prop) (W : World) : Exit → Act → World → Prop
  | .normal, _, W' => KeepsFrom B W W' ∧ Below w0.heap.size w0 W' ∧ (∀ b, Lk b → W'.heap[b]? = W.heap[b]?) ∧ I xs L W'
  | _, _, _ => False
theorem wpIn_rangeL {α : Type} {F : Fence} {n : Nat} {P : Program} {w : World} {g : Operand} {ps : Array Tmp} {assign body : Code} {Q : Exit → Act → World → Prop} {a : Act}
    (hro : F.round = none) (h1 : 1 ≤ n) {gf : Nat} {lb : Array Value} (hg : a.eval g = .func (.func gf) #[] lb) (hFg : F.fn gf) (eg : ∀ args w, (callFunc gf args).run P w = .ok (.enter gf args) w)
    {encs : α → Array Value} {Gv : α → (Nat → Prop) → World → Prop} {Gb : α → Nat → Prop} {S : List α → Prop} {N : Nat} {w0 : World} {L0 : Nat → Prop} (hseq : SeqL F (n - 1) P gf lb encs Gv Gb S N w0 w L0) (hL0 : ∀ b, L0 b → b < w.heap.size) (hGb : ∀ x L W b, Gv x L W → Gb x b → ∃ o, W.heap[b]? = some o ∧ o.isCells = true) (hb0 : Below w0.heap.size w0 w) (hps : ∀ x, (encs x).size = ps.size)
    (hGv : ∀ x L, OwnFrom w.heap.size (fun (_ : Unit) W => Gv x L W))
    (I : List α → (Nat → Prop) → World → Prop) (hA : AbL I) (hI : ∀ L, OwnFrom w.heap.size (fun s W => I s L W)) (h0 : I [] L0 w) (a₁ : α → Act)
    (hassign : ∀ (l : Nat) (x : α) (W : World) (K : Act → World → Prop), K (a₁ x) W →
      assign.wpIn (F.inRound l) (n - 1 - 1) P (Exit.then K (fun _ _ _ => False)) { tmps := (ps.zip (encs x)).foldl (fun t (p, v) => t.setIfInBounds p v) a.tmps, defers := [] } W)
    (hbody : ∀ (l : Nat) (pre : List α) (x : α) (L : Nat → Prop) (W : World), I pre L W → Gv x L W → Below w0.heap.size w0 W → (∀ b, L b → w0.heap.size ≤ b ∧ b < W.heap.size) → pre.length < N → body.wpIn (F.inRound l) (n - 1 - 1) P (ownPostL w.heap.size w0 I (pre ++ [x]) L (fun b => L b ∨ Gb x b) W) (a₁ x) W)
    (hdone : ∀ (D : Nat) (xs : List α) (L : Nat → Prop) (W : World), w.heap.size ≤ D → S xs → I xs L W → W.heap[D]? = some (.deferred (some [])) → Q .normal { a with defers := { target := .collected D, args := #[] } :: a.defers } W) :
    (Code.rangeFunc g ps assign body).wpIn F n P Q a w := by
  refine wpIn_rangeFunc ?_
  intro fn hfn
  rw [hro]
  obtain ⟨rec, hrec⟩ : ∃ rec : LoopState → Option Code → Loop, rec = fun st pe => { state := st, pending := pe, fn, tmps := a.tmps, params := ps, assign, body, defers := w.heap.size } := ⟨_, rfl⟩
  obtain ⟨D, hD⟩ : ∃ D, D = w.heap.size := ⟨_, rfl⟩
  obtain ⟨W1, hW1⟩ : ∃ W1, (w.alloc (.deferred (some []))).alloc (.loop (rec .ready none)) = W1 := ⟨_, rfl⟩
  have hsz : W1.heap.size = D + 2 := by rw [← hW1, hD]; simp
  have hL1 : W1.heap[D + 1]? = some (.loop (rec .ready none)) := by
    rw [← hW1, hD]; have := World.alloc_heap_new (w.alloc (.deferred (some []))) (.loop (rec .ready none)); rwa [World.size_alloc] at this
  have hK1 : W1.heap[D]? = some (.deferred (some [])) := by
    rw [← hW1, hD]; exact (Below.heap_alloc _ _ _ (by simp)).trans (World.alloc_heap_new w _)
  have hI1 : I [] L0 W1 := by rw [← hW1]; exact (hI _).alloc _ ((hI _).alloc _ h0)
  have hb1 : Below w0.heap.size w0 W1 := by
    rw [← hW1]; exact hb0.trans ((((Below.refl _ w).alloc (Nat.le_refl _) _).alloc (by simp) _).mono hb0.size)
  have hb0s := hb0.size
  have putB : ∀ {W : World} (l : Nat) (o : Obj), D ≤ l → Below w0.heap.size w0 W → Below w0.heap.size w0 (W.putObj l o) := fun {W} l o hl hb =>
    ⟨hb.os, hb.tape, hb.output, by have := hb.size; simpa using this, fun b hbb => (World.putObj_heap_other (by omega)).trans (hb.block b hbb)⟩
  refine ⟨D + 1, [{ target := .collected D, args := #[] }], W1, { target := .fn (.func gf) lb, args := #[.func (.yield (D + 1)) #[] #[]] }, W1, gf,
    #[.func (.yield (D + 1)) #[] #[]] ++ lb, W1, ?_, ?_, ?_, ?_, fun _ => h1, ?_⟩
  · rw [← hW1, hrec, hD]; exact run_enterLoop_outer _ _ _ _ _
  · simp only [resolve, hg]
    simp [go_sem]
  · intro f' hf'; simp [Target.leads] at hf'; subst hf'; exact hFg
  · simp [invoke, go_sem, eg]
  · refine (hseq (D + 1) (fun pre L W => I pre L W ∧ W.heap[D + 1]? = some (.loop (rec .ready none)) ∧ W.heap[D]? = some (.deferred (some [])) ∧ ∀ b, L b → b ≠ D ∧ b ≠ D + 1) W1 hb1 (fun b hb => ⟨hL0 b hb, by rw [← hW1]; exact (Below.heap_alloc _ _ _ (by have := hL0 b hb; simp; omega)).trans (Below.heap_alloc _ _ _ (hL0 b hb))⟩) (by rw [hsz, ← hD]; omega) ?_ ?_ ⟨hI1, hL1, hK1, fun b h => by have := hL0 b h; omega⟩).mono ?_
    · rintro s L L' A B ⟨h1, h2, h3, h4⟩ hs
      have hlt := (Array.getElem?_eq_some_iff.1 h2).1
      refine ⟨hA s L L' A B h1 hs, (hs.block _ hlt fun e => ?_).trans h2, (hs.block _ (by omega) fun e => ?_).trans h3, fun b hb => ?_⟩
      · have := h4 _ e; omega
      · have := h4 _ e; omega
      · rcases hs.more b hb with e | e
        · exact h4 b e.1
        · omega
    · rintro pre x L W ⟨hi, hl, hk, hLb⟩ hgv hbw hLw hlen
      have hlt : D + 1 < W.heap.size := (Array.getElem?_eq_some_iff.1 hl).1
      have hy := run_yield (P := P) (args := encs x) hl (by rw [hrec]; exact hps x)
      rw [hrec] at hy
      refine ⟨fn, _, assign, body, hy, roundIn_of_wpIn hfn (hassign _ x W _ ⟨_, run_beginRound hl (by rw [hrec]), ?_⟩)⟩
      obtain ⟨W2, hW2⟩ : ∃ W2, W.putObj (D + 1) (.loop { rec .ready none with state := .busy }) = W2 := ⟨_, rfl⟩
      have hl2 : W2.heap[D + 1]? = some (.loop { rec .ready none with state := .busy }) := by rw [← hW2]; exact World.putObj_heap_same hlt
      have hk2 : W2.heap[D]? = some (.deferred (some [])) := by rw [← hW2]; exact (World.putObj_heap_other (by omega)).trans hk
      have hi2 : I pre L W2 := by rw [← hW2]; exact (hI L).putObj _ hi (by omega) hl rfl
      have hg2 : Gv x L W2 := by rw [← hW2]; exact (hGv x L).putObj (s := ()) _ hgv (by omega) hl rfl
      have hs2 : W2.heap.size = W.heap.size := by rw [← hW2]; simp
      have ho2 : ∀ b, b ≠ D + 1 → W2.heap[b]? = W.heap[b]? := fun b hb => by rw [← hW2]; exact World.putObj_heap_other (by omega)
      have hbw2 : Below w0.heap.size w0 W2 := by rw [← hW2]; exact putB _ _ (by omega) hbw
      rw [hW2]
      refine wpIn_mono (hbody _ pre x L W2 hi2 hg2 hbw2 (fun b hb => by rw [hs2]; exact hLw b hb) hlen) ?_
      rintro e a3 W3 hp
      cases e with
      | normal =>
        obtain ⟨hk3, hb3, hL3, hi3⟩ := hp
        have hl3 := hk3.same _ _ (by omega) hl2 rfl
        have hk4 := hk3.same _ _ (by omega) hk2 rfl
        have hend := run_endRound (P := P) none hl3
        rw [hrec] at hend
        refine ⟨_, _, hend, rfl, ⟨?_, ?_, ?_, hLb⟩, putB _ _ (by omega) hb3, ?_, fun b hb => ?_⟩
        · exact (hI L).putObj _ hi3 (by omega) hl3 rfl
        · rw [hrec]; exact World.putObj_heap_same (Array.getElem?_eq_some_iff.1 hl3).1
        · exact (World.putObj_heap_other (by omega)).trans hk4
        · have := hk3.size; simp; omega
        · have hne : b ≠ D + 1 := by
            rcases hb with hb | hb
            · have := hLb b hb; omega
            · rintro rfl
              obtain ⟨o, h1, h2⟩ := hGb _ _ _ _ hgv hb
              rw [hl] at h1; injection h1 with h1; subst h1; cases h2
          exact (World.putObj_heap_other (by omega)).trans ((hL3 b hb).trans (ho2 b (by omega)))
      | ret => exact hp.elim
      | exit id => exact hp.elim
      | goto t => exact hp.elim
      | panic ch => exact hp.elim
      | outgrown => exact hp.elim
    · rintro e W2 ⟨⟨v, rfl⟩, xs, L, hS, hi, hl, hk, hLb⟩
      exact ⟨none, _, by have := run_endLoop (P := P) hl (by rw [hrec]; simp); rw [hrec] at this; exact this, hdone D xs L _ (by omega) hS ((hI L).putObj _ hi (by omega) hl rfl) ((World.putObj_heap_other (by omega)).trans hk)⟩
end Go.Proofs.YtcbmbhghmfehpaaGreat
namespace Go.Proofs.YtcbmbhghmfehpaaGreat
open Go.RowKit Go.Shelf Go.Deep
attribute [local go_sem] Oper.semAt_some
theorem Owns.sameZ {base : Nat} {e : TypeId} {w w' : World} {v : Value} {vs : List Value} (h : Owns base e w v vs) (k : ∀ b, v.ownBlock = some b → w'.heap[b]? = w.heap[b]?) : Owns base e w' v vs := by
  obtain ⟨hl, h | ⟨g, cap, cur, rfl, hg, hc, hr⟩⟩ := h
  · exact ⟨hl, .inl h⟩
  · exact ⟨hl, .inr ⟨g, cap, cur, rfl, hg, by rw [k g rfl]; exact hc, hr⟩⟩
theorem Owns.mono_baseZ {base base' : Nat} {e : TypeId} {w : World} {v : Value} {vs : List Value} (h : Owns base e w v vs) (hb : base' ≤ base) : Owns base' e w v vs := by
  obtain ⟨hl, h | ⟨g, cap, cur, rfl, hg, hc, hr⟩⟩ := h
  · exact ⟨hl, .inl h⟩
  · exact ⟨hl, .inr ⟨g, cap, cur, rfl, Nat.le_trans hb hg, hc, hr⟩⟩
theorem Owns.typedV {base : Nat} {e : TypeId} {w : World} {v : Value} {vs : List Value} (h : Owns base e w v vs) {b : Nat} (hb : v.ownBlock = some b) : ∃ c, w.heap[b]? = some (Obj.cells c e (0, 0)) := by
  obtain ⟨_, ⟨rfl, _⟩ | ⟨g, cap, cur, rfl, _, hc, _⟩⟩ := h
  · cases hb
  · injection hb with hb; subst hb; exact ⟨cur, hc⟩

/-- Between two rounds of AppendSeq: the box's list; what lay before the call lies as it lay. -/
def AqI (w0 : World) (pre : List Int) (W : World) : Prop := Below w0.heap.size w0 W ∧ w0.heap.size + 1 ≤ W.heap.size ∧ ∃ v, W.heap[w0.heap.size]? = some (Obj.cells #[v] 26 (0, 0)) ∧ Owns (w0.heap.size + 1) 3 W v (pre.map (Value.int .i64))
theorem AqI.own (w0 : World) {B : Nat} (hB : w0.heap.size + 1 ≤ B) : OwnFrom B (AqI w0) := by
  rintro s X Y row ⟨hb, hsz, v, hbox, hown⟩ hg hr
  have hcell : ∀ (b : Nat) (c : Array Value) (e : TypeId) (z : Nat × Nat), X.heap[b]? = some (Obj.cells c e z) → Y.heap[b]? = X.heap[b]? := fun b c e z hc => hg.block b (Array.getElem?_eq_some_iff.1 hc).1 (fun e2 => by
    obtain ⟨_, o, h1, h2⟩ := hr b e2.symm
    rw [hc] at h1; injection h1 with h1; subst h1; cases h2)
  refine ⟨⟨hg.os.trans hb.os, hg.tape.trans hb.tape, hg.output.trans hb.output, Nat.le_trans hb.size hg.size, fun b hb2 => (hg.block b (by have := hb.size; omega) (fun e => by obtain ⟨h1, _⟩ := hr b e.symm; omega)).trans (hb.block b hb2)⟩, Nat.le_trans hsz hg.size, v, (hcell _ _ _ _ hbox).trans hbox, hown.sameZ fun b hb2 => ?_⟩
  obtain ⟨c, hc⟩ := hown.typedV hb2
  exact hcell _ _ _ _ hc
end Go.Proofs.YtcbmbhghmfehpaaGreat
namespace Go.Proofs.YtcbmbhghmfehpaaGreat
open Go.RowKit Go.Shelf Go.Deep
def AqPost (w : World) (xs : List Int) (e : Ending) (w' : World) : Prop := Up w w' ∧ ∃ v, e = .returned v ∧ Owns w.heap.size 3 w' v (xs.map (Value.int .i64))
theorem AqI.next {w W We : World} {pre : List Int} {x : Int} {v v' : Value} (hbw : Below w.heap.size w W) (hsz : w.heap.size + 1 ≤ W.heap.size) (hbox : W.heap[w.heap.size]? = some (Obj.cells #[v] 26 (0, 0))) (hown : Owns (w.heap.size + 1) 3 W v (pre.map (Value.int .i64)))
    (ho : Owns (w.heap.size + 1) 3 We v' (pre.map (Value.int .i64) ++ [.int .i64 x])) (hg : (W.alloc (.cells #[.int .i64 x] 3)).grownBy We v.ownBlock) :
    KeepsFrom (w.heap.size + 1) W (We.setCell ⟨w.heap.size, 0, none⟩ v') ∧ KS (· < w.heap.size) W (We.setCell ⟨w.heap.size, 0, none⟩ v') ∧ AqI w (pre ++ [x]) (We.setCell ⟨w.heap.size, 0, none⟩ v') := by
  have hset : ∀ b, b ≠ w.heap.size → (We.setCell ⟨w.heap.size, 0, none⟩ v').heap[b]? = We.heap[b]? := fun b hb => blk_setCell_other _ _ _ _ hb
  have hszs : (We.setCell ⟨w.heap.size, 0, none⟩ v').heap.size = We.heap.size := by simp [World.size_setCell]
  have hga : ∀ b, b < W.heap.size → some b ≠ v.ownBlock → We.heap[b]? = W.heap[b]? := fun b hb hne => (hg.block b (by rw [World.size_alloc]; exact Nat.lt_succ_of_lt hb) hne).trans (Below.heap_alloc W _ b hb)
  have hsize : W.heap.size + 1 ≤ We.heap.size := by have h := hg.size; rw [World.size_alloc] at h; exact h
  have hlow : ∀ b, b < w.heap.size + 1 → We.heap[b]? = W.heap[b]? := fun b hb => hga b (by omega) (fun e => by have := (ownBlock_lt hown e.symm).1; omega)
  have hbe := (hlow w.heap.size (Nat.lt_succ_self _)).trans hbox
  refine ⟨⟨by omega, fun k o hk ho2 hc => ?_⟩, fun b (hb : b < w.heap.size) => (hset b (by omega)).trans (hlow b (by omega)), ⟨hg.os.trans hbw.os, hg.tape.trans hbw.tape, hg.output.trans hbw.output, by omega, fun b hb => ((hset b (by omega)).trans (hlow b (by omega))).trans (hbw.block b hb)⟩, by omega, v', ?_, ?_⟩
  · have hkl : k < W.heap.size := (Array.getElem?_eq_some_iff.1 ho2).1
    rw [hset k (by omega), hga k hkl (fun e => by
      obtain ⟨c, h⟩ := hown.typedV e.symm
      rw [ho2] at h; injection h with h; subst h; cases hc)]
    exact ho2
  · simp [World.setCell, Array.getElem?_modify, hbe]
  · rw [List.map_append]
    exact ho.sameZ fun b hb => hset b (by have := (ownBlock_lt ho hb).1; omega)
end Go.Proofs.YtcbmbhghmfehpaaGreat
