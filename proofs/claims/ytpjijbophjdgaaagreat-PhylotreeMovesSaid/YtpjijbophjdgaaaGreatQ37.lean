/- The contract of phylotree.Reroot. -/
import Derived.Test.YtpjijbophjdgaaaGreatQ36
namespace Go.Proofs.YtpjijbophjdgaaaGreat
open Go.RowKit Go.Deep
def rrErr (t : Tre) (leaf : Int) : Int := if treeErr t ≠ 0 then 1 else if leaf < 0 ∨ (t.ps.length : Int) ≤ leaf then 2 else if (gs t.ns leaf.toNat).size = 0 then 8 else 0
def rrT (t : Tre) (leaf : Int) : Tre := flat (sortR (contrR (rrR t leaf.toNat)))
def rrCode (t : Tre) (leaf : Int) : Int := if rrErr t leaf ≠ 0 then rrErr t leaf else if 64 < (rrT t leaf).ps.length then 4 else 0
def rrRes (t : Tre) (leaf : Int) : Tre := if rrCode t leaf ≠ 0 then ⟨[], []⟩ else rrT t leaf
theorem rrI_len (t : Tre) (leaf f z : Nat) : (rrI t leaf f z).length ≤ t.ps.length + 2 := by
  have hk : (kidsL t.ps z).length ≤ t.ps.length := frT_kids_len t z
  unfold rrI
  split
  · split <;> simp
  · split
    · have := List.length_filter_le (fun k => !onP t leaf k) (kidsL t.ps z)
      rw [List.length_append]
      split
      · simp; omega
      · simp; omega
    · omega
def RrPost (w : World) (t : Tre) (leaf : Int) (e : Ending) (w' : World) : Prop :=
  Up w w' ∧ ∃ v, e = .returned (.tuple #[v, .int .i64 (rrCode t leaf)]) ∧ TreeAt Any w' v (rrRes t leaf)
theorem rr_err {w W : World} {B : Nat} {t : Tre} {leaf : Int} {c : Int} (hB : w.heap.size ≤ B) (hu : Up w W) (hb : W.heap[B]? = some (Obj.cells #[.slice none 0 0, .slice none 0 0] 45 (0, 0))) (hc : rrErr t leaf = c) (h0 : c ≠ 0) :
    ((W.setCell ⟨B, 0, none⟩ (.slice none 0 0)).setCell ⟨B, 1, none⟩ (.slice none 0 0)).cell? ⟨B, 0, none⟩ = some (.slice none 0 0) ∧ ((W.setCell ⟨B, 0, none⟩ (.slice none 0 0)).setCell ⟨B, 1, none⟩ (.slice none 0 0)).cell? ⟨B, 1, none⟩ = some (.slice none 0 0) ∧
      RrPost w t leaf (.returned (.tuple #[.agg #[.slice none 0 0, .slice none 0 0], .int .i64 c])) ((W.setCell ⟨B, 0, none⟩ (.slice none 0 0)).setCell ⟨B, 1, none⟩ (.slice none 0 0)) := by
  obtain ⟨s1, s2, s3, s4⟩ := store_two (p := .slice none 0 0) (q := .slice none 0 0) hb hB hu
  have hcode : rrCode t leaf = c := by unfold rrCode; rw [if_pos (by rw [hc]; exact h0), hc]
  refine ⟨s2, s3, s1, .agg #[.slice none 0 0, .slice none 0 0], by rw [hcode], ?_⟩
  unfold rrRes; rw [if_pos (by rw [hcode]; exact h0)]; exact nil_tree _
set_option maxRecDepth 100000 in
set_option maxHeartbeats 8000000 in
theorem reroot_t (S : Nat → Prop) (w : World) (v : Value) (t : Tre) (leaf : Int) (hT : TreeAt S w v t) (hp : t.ps.length ≤ 1000000) (hn : t.ns.length ≤ 1000000) (hz : ∀ k, (gs t.ns k).size ≤ 70000) :
    Calls Tryz.prog 33 #[v, .int .i64 leaf] w (RrPost w t leaf) := by
  obtain ⟨P, N, rfl, hP, hN⟩ := hT
  obtain ⟨pp, pc, rfl, _, _⟩ := SlAt.open hP
  obtain ⟨pn, pm, rfl, _, _⟩ := SlAt.open hN
  have hP : IntsAt S w (.slice pp t.ps.length pc) t.ps := hP
  have hN : StrsAt S w (.slice pn t.ns.length pm) t.ns := hN
  have ha := Up.alloc w (.cells #[.slice pp t.ps.length pc, .slice pn t.ns.length pm] 45)
  have hc := Up.alloc (w.alloc (.cells #[.slice pp t.ps.length pc, .slice pn t.ns.length pm] 45)) (.cells #[.slice none 0 0, .slice none 0 0] 45)
  have HC0 := Lib.hid (hc.cell (box2_0 w (.slice pp t.ps.length pc) (.slice pn t.ns.length pm) 45))
  have HC1 := Lib.hid (hc.cell (box2_1 w (.slice pp t.ps.length pc) (.slice pn t.ns.length pm) 45))
  have hrb := box_at (w := w.alloc (.cells #[.slice pp t.ps.length pc, .slice pn t.ns.length pm] 45)) (P := .slice none 0 0) (N := .slice none 0 0) (T := 45)
  have hsz : ((w.alloc (.cells #[.slice pp t.ps.length pc, .slice pn t.ns.length pm] 45)).alloc (.cells #[.slice none 0 0, .slice none 0 0] 45)).heap.size = w.heap.size + 2 := by simp
  rw [World.size_alloc] at hrb
  have hu := ha.trans hc
  have HU := Lib.hid hu
  have HT1 : Hid (TreeAt S _ _ t) := TreeAt.keep ⟨_, _, rfl, hP, hN⟩ (hu.kept S)
  have HN1 := Lib.hid (StrsAt.keep hN (hu.kept S))
  have HP1 := Lib.hid (IntsAt.keep hP (hu.kept S))
  have HRB := Lib.hid hrb
  have HSZ := Lib.hid hsz
  have HZ := Lib.hid hz
  have HRE : Hid (rrErr t leaf = if treeErr t ≠ 0 then 1 else if leaf < 0 ∨ (t.ps.length : Int) ≤ leaf then 2 else if (gs t.ns leaf.toNat).size = 0 then 8 else 0) := rfl
  have hc0 := HC0.out
  have hc1 := HC1.out
  have HCK := Lib.hid (check_t S _ _ t HT1.out hp hn hz)
  clear ha hc hu hP hN hrb hsz hz
  go_enter Tryz.func33, Tryz.ntmps33
  go_wp2_with fail
  generalize (w.alloc (.cells #[.slice pp t.ps.length pc, .slice pn t.ns.length pm] 45)).alloc (.cells #[.slice none 0 0, .slice none 0 0] 45) = w1 at *
  refine HCK.out.mono ?_
  rintro e w2 ⟨rfl, hu2⟩
  have hu2 : Up w1 w2 := hu2
  have HU2 := Lib.hid hu2
  have HUW := Lib.hid (HU.out.trans hu2)
  have hc0 := hu2.cell HC0.out
  have hc1 := hu2.cell HC1.out
  have hrb2 := (Below.block hu2 (w.heap.size + 1) (by rw [HSZ.out]; omega)).trans HRB.out
  obtain ⟨q0, q1, q2, q3⟩ := boxed hrb2
  have HRB2 := Lib.hid hrb2
  clear hu2 hrb2 HCK
  by_cases he : treeErr t = 0
  · obtain ⟨hp0, hp64, hnl, hok, _⟩ := treeErr_zero he
    have HTE := Lib.hid he
    rw [he]
    have HRE2 : Hid (rrErr t leaf = if leaf < 0 ∨ (t.ps.length : Int) ≤ leaf then 2 else if (gs t.ns leaf.toNat).size = 0 then 8 else 0) := by rw [Hid, HRE.out, if_neg (by simp [he])]
    have HNL := Lib.hid hnl
    clear he HRE hnl hok
    by_cases c1 : leaf < 0
    · have e1 : decide (leaf < 0) = true := decide_eq_true c1
      have HST := Lib.hid (rr_err (c := 2) (by omega) HUW.out HRB2.out (by rw [HRE2.out, if_pos (.inl c1)]) (by decide))
      clear c1
      go_wp2_with fail
      obtain ⟨s2, s3, hp⟩ := HST.out
      exact ⟨rfl, .tuple #[.agg #[.slice none 0 0, .slice none 0 0], .int .i64 2], by simp [results, Tryz.results33, go_sem, s2, s3], hp⟩
    · have e1 : decide (leaf < 0) = false := decide_eq_false c1
      by_cases c2 : (t.ps.length : Int) ≤ leaf
      · have e2 : decide ((t.ps.length : Int) ≤ leaf) = true := decide_eq_true c2
        have HST := Lib.hid (rr_err (c := 2) (by omega) HUW.out HRB2.out (by rw [HRE2.out, if_pos (.inr c2)]) (by decide))
        clear c1 c2
        go_wp2_with fail
        obtain ⟨s2, s3, hp⟩ := HST.out
        exact ⟨rfl, .tuple #[.agg #[.slice none 0 0, .slice none 0 0], .int .i64 2], by simp [results, Tryz.results33, go_sem, s2, s3], hp⟩
      · obtain ⟨q, rfl⟩ : ∃ q : Nat, leaf = q := ⟨leaf.toNat, by omega⟩
        have e2 : decide ((t.ps.length : Int) ≤ (q : Int)) = false := decide_eq_false c2
        have e2n : decide (t.ps.length ≤ q) = false := decide_eq_false (by omega)
        have e2p : ¬ t.ps.length ≤ q := by omega
        have hqn : q < t.ns.length := by have := HNL.out; omega
        have HN2 := Lib.hid (StrsAt.keep HN1.out (HU2.out.kept S))
        obtain ⟨nb, no, hnb, hxn⟩ := strs_get HN2.out hqn
        have n1 : (0 : Int) ≤ (q : Int) := by omega
        have n2 : (q : Int) < (t.ns.length : Int) := by omega
        have HK2 : Hid (rrErr t q = if (gs t.ns q).size = 0 then 8 else 0) := by
          rw [Hid, HRE2.out, if_neg (by omega)]; rfl
        have HQN : Hid (q < t.ps.length) := by unfold Hid; omega
        subst hnb
        clear c1 c2 HRE2 e2p
        by_cases c3 : (gs t.ns q).size = 0
        · have e3 : ((gs t.ns q).toList == []) = true := by
            rw [(toList_nil _).2 c3]; rfl
          have HST := Lib.hid (rr_err (c := 8) (by omega) HUW.out HRB2.out (by rw [HK2.out, if_pos c3]) (by decide))
          clear c3
          generalize gs t.ns q = nm at *
          go_wp2_with fail
          obtain ⟨s2, s3, hp⟩ := HST.out
          exact ⟨rfl, .tuple #[.agg #[.slice none 0 0, .slice none 0 0], .int .i64 8], by simp [results, Tryz.results33, go_sem, s2, s3], hp⟩
        · have e3 : ((gs t.ns q).toList == []) = false := by
            rw [beq_eq_false_iff_ne]
            exact fun h => c3 ((toList_nil _).1 h)
          have HR0 : Hid (rrErr t q = 0) := by rw [Hid, HK2.out, if_neg c3]
          have HLO : Hid (LeafOk t q) := ⟨HTE.out, HQN.out, c3⟩
          have HT2 := Lib.hid (TreeAt.keep HT1.out (HU2.out.kept S))
          have HP2 := Lib.hid (IntsAt.keep HP1.out (HU2.out.kept S))
          obtain ⟨_, _, hnl, hok, _⟩ := treeErr_zero HTE.out
          have HND := Lib.hid (nodes2_t S w2 _ t HT2.out (by omega) hnl hok HZ.out)
          clear c3 hnl hok HK2 HT1 HN1 HP1
          generalize gs t.ns q = nm at *
          go_wp2_with fail
          refine HND.out.mono ?_
          rintro e w3 ⟨hu3, g, A, kv, hgl, rfl, hF, hrow⟩
          have hl0 := hrow.cell (i := q) HQN.out
          have hgw := hrow.lt
          obtain ⟨bP, oP, hbP, hcP⟩ := ints_get (IntsAt.keep HP2.out (hu3.kept S)) HQN.out
          subst hbP
          have hc03 := hu3.cell hc0
          have HTS := Lib.hid (turn_start hF hgw HQN.out ⟨#[]⟩ 0 (q : Int))
          have HU3 := Lib.hid hu3
          have HROW := Lib.hid hrow
          have HC03 := Lib.hid hc03
          have HP3 := Lib.hid (IntsAt.keep HP2.out (hu3.kept S))
          have HGL := Lib.hid hgl
          have i1 : (0 : Int) ≤ (q : Int) := by omega
          have i2 : (q : Int) < (t.ps.length : Int) := by have := HQN.out; omega
          unfold nptr at HTS
          simp only [nptr] at hl0
          have hq2 := (Below.block hu3 (w.heap.size + 1) (by have := HU2.out.size; rw [HSZ.out] at this; omega)).trans HRB2.out
          have HRB3 := Lib.hid hq2
          clear hu3 hF hrow HND q0 q1 q2 q3 hq2
          go_wp2_with fail
          refine region_T (by kernel_rfl) 9 (fun w' => w'.cell? ⟨w.heap.size, 0, none⟩ = some (.slice (some ⟨bP, oP, none⟩) t.ps.length pc) ∧ w'.cell? ⟨bP, oP + q, none⟩ = some (.int .i64 (gi t.ps q))) ⟨((Up.alloc _ _).trans (Up.alloc _ _)).cell hc03, ((Up.alloc _ _).trans (Up.alloc _ _)).cell hcP⟩ (fun hS => ?_)
          simp only [List.size_toArray, List.length_cons, List.length_nil, Nat.reduceAdd, Array.replicate_succ, Array.replicate_zero, List.push_toArray, List.nil_append, List.cons_append]
          refine anyT.take (i := 0) (v := ?gv0k1) rfl (by kernel_rfl) (fun _ _ _ h => h) (by rfl) (fun w hSw => ?gy0k1) hS ?gr0k1
          case gy0k1 =>
            (try dsimp only at hSw)
            go_simp
            try with_reducible rfl
          try simp only [Act.put, List.setIfInBounds_toArray, List.set_cons_zero, List.set_cons_succ]
          refine anyT.take (i := 1) (v := ?gv1k1) rfl (by kernel_rfl) (fun _ _ _ h => h) (by rfl) (fun w hSw => ?gy1k1) hS ?gr1k1
          case gy1k1 =>
            (try dsimp only at hSw)
            go_simp
            try with_reducible rfl
          try simp only [Act.put, List.setIfInBounds_toArray, List.set_cons_zero, List.set_cons_succ]
          refine anyT.take (i := 2) (v := ?gv2k1) rfl (by kernel_rfl) (fun _ _ _ h => h) (by rfl) (fun w hSw => ?gy2k1) hS ?gr2k1
          case gy2k1 =>
            (try dsimp only at hSw)
            go_simp
            try with_reducible rfl
          try simp only [Act.put, List.setIfInBounds_toArray, List.set_cons_zero, List.set_cons_succ]
          refine anyT.take (i := 3) (v := ?gv3k1) rfl (by kernel_rfl) (fun _ _ _ h => h) (by rfl) (fun w hSw => ?gy3k1) hS ?gr3k1
          case gy3k1 =>
            (try dsimp only at hSw)
            go_simp
            try with_reducible rfl
          try simp only [Act.put, List.setIfInBounds_toArray, List.set_cons_zero, List.set_cons_succ]
          refine anyT.take (i := 4) (v := ?gv4k1) rfl (by kernel_rfl) (fun _ _ _ h => h) (by rfl) (fun w hSw => ?gy4k1) hS ?gr4k1
          case gy4k1 =>
            (try dsimp only at hSw)
            go_simp
            try with_reducible rfl
          try simp only [Act.put, List.setIfInBounds_toArray, List.set_cons_zero, List.set_cons_succ]
          refine anyT.take (i := 5) (v := ?gv5k1) rfl (by kernel_rfl) (fun _ _ _ h => h) (by rfl) (fun w hSw => ?gy5k1) hS ?gr5k1
          case gy5k1 =>
            (try dsimp only at hSw)
            go_simp
            try with_reducible rfl
          try simp only [Act.put, List.setIfInBounds_toArray, List.set_cons_zero, List.set_cons_succ]
          refine anyT.step (i := 6) rfl (by kernel_rfl) (fun K' hK => ?_)
          go_simp
          refine hK.out _ _ (fun _ => ⟨(((Up.alloc _ _).trans (Up.alloc _ _)).trans (Up.alloc _ _)).cell hc03, (((Up.alloc _ _).trans (Up.alloc _ _)).trans (Up.alloc _ _)).cell hcP⟩) (fun hS => ?_)
          try simp only [List.setIfInBounds_toArray, List.set_cons_zero, List.set_cons_succ]
          refine anyT.step (i := 7) rfl (by kernel_rfl) (fun K' hK => ?_)
          go_simp
          refine hK.out _ _ (fun _ => ⟨(((Up.alloc _ _).trans (Up.alloc _ _)).trans ((Up.alloc _ _).trans (Up.drewN _ 1))).cell hc03, (((Up.alloc _ _).trans (Up.alloc _ _)).trans ((Up.alloc _ _).trans (Up.drewN _ 1))).cell hcP⟩) (fun hS => ?_)
          try simp only [List.setIfInBounds_toArray, List.set_cons_zero, List.set_cons_succ]
          refine anyT.step (i := 8) rfl (by kernel_rfl) (fun K' hK => ?_)
          go_simp
          refine hK.out _ _ (not_more (by kernel_rfl)) (fun hS => ?_)
          refine anyT.done (by kernel_rfl) ?_
          have HAN : Hid (upd A t.ps.length (w3.heap.size + 1) t.ps.length = w3.heap.size + 1) := upd_same _ _ _
          have HAL : Hid (∀ j, j < t.ps.length → nptr A j = nptr (upd A t.ps.length (w3.heap.size + 1)) j) := fun j hj => by unfold nptr; rw [upd_ne _ _ (by omega)]
          have HST : Hid (∃ kv', TurnAt g (t.ps.length + 1) (upd A t.ps.length (w3.heap.size + 1)) kv' (rrK t q 0).fr w3 _ (w3.heap.size + 1 + 1) (rrK t q 0).frm) := ⟨_, HTS.out⟩
          have HRN := Lib.hid (fun i => rrK_inv HTE.out HQN.out i)
          have HRJ := Lib.hid (rr_all_steps HLO.out)
          have HRS : Hid (∀ j, j < t.ps.length → ∀ W, Below (g + 1) w3 W → W.cell? ⟨g, j, none⟩ = some (.pointer (some ⟨upd A t.ps.length (w3.heap.size + 1) j, 0, none⟩)) ∧ W.cell? ⟨bP, oP + j, none⟩ = some (.int .i64 (gi t.ps j)) ∧ W.cell? ⟨w.heap.size, 0, none⟩ = some (.slice (some ⟨bP, oP, none⟩) t.ps.length pc)) := fun j hj W hW => by
            have hup : Up w2 W := Below.trans HU3.out (hW.mono (by have := HGL.out; omega))
            refine ⟨?_, hup.cell (ints_get' HP2.out hj), hup.cell hc0⟩
            rw [hW.cell (p := ⟨g, j, none⟩) (Nat.lt_succ_self _), HROW.out.cell hj, HAL.out j hj]; rfl
          generalize upd A t.ps.length (w3.heap.size + 1) = A' at *
          clear HTS hS hK hl0 hcP hc03 hc0 hc1
          generalize (((w3.alloc (Obj.cells #[Value.pointer (some ⟨A q, 0, none⟩)] 113)).alloc (Obj.cells #[Value.string { data := #[] }, Value.slice (some ⟨w3.heap.size, 0, none⟩) 1 1, Value.int IntKind.i64 0] 115)).alloc (Obj.cells #[Value.int IntKind.i64 (q : Int)] 3)).drew = w4 at *
          go_wp2_with fail
          go_loopw [8, 9, 10, 11] (fun h b x _ wr => ∃ i fb : Nat, x = .int .i64 (rrK t q i).cur ∧ h = .pointer (some ⟨A' (rrK t q i).hang, 0, none⟩) ∧ b = .pointer (some ⟨fb, 0, none⟩) ∧ Hid (∃ kv', TurnAt g (t.ps.length + 1) A' kv' (rrK t q i).fr w3 wr fb (rrK t q i).frm)) (fun _ _ x _ _ => (intOf x + 1).toNat)
          case atStart => exact ⟨0, _, rfl, by rw [← HAN.out]; rfl, rfl, HST.out⟩
          case round =>
            obtain ⟨i, fb, rfl, rfl, rfl, hO⟩ := hrel
            obtain ⟨wo, rfl⟩ : ∃ wo : World, wo = wr := ⟨_, rfl⟩
            obtain ⟨k1, k2, k3, k4, k5, k6⟩ := HRN.out i
            by_cases hc : (rrK t q i).cur < 0
            · have HEND : Hid (∃ kv', TurnAt g (t.ps.length + 1) A' kv' (rrF t q) w3 wo fb (rrK t q i).frm) := by
                obtain ⟨kv', h⟩ := hO.out
                exact ⟨kv', h.congr (rr_end HLO.out hc)⟩
              have d1 : decide ((0 : Int) ≤ (rrK t q i).cur) = false := decide_eq_false (by omega)
              generalize (rrK t q i).cur = cur at *
              generalize (rrK t q i).hang = hang at *
              generalize (rrK t q i).frm = frm at *
              clear hO HST HRN HRJ HRS
              go_wp2_with fail
              obtain ⟨kv4, hT4⟩ := HEND.out
              have HT4 := Lib.hid hT4
              have HA := Lib.hid (rr_arb HLO.out)
              have hnn : t.ps.length < t.ps.length + 1 := Nat.lt_succ_self _
              have HLEN := Lib.hid (rr_len HLO.out)
              have HPR := Lib.hid (pruned_t 99 #[] (enters_of Tryz.func99 (by kernel_rfl) rfl) (base := g + 1) (n := t.ps.length + 1) (A := A') (w0 := w3) (m := (rrF t q).nm) (o := (rrF t q).old) (P := rrP t q) (rk := rkR t q)
                (fun j W _ _ hnm _ => named_leaf_t W (A' j) _ hnm) (rkR t q t.ps.length) (rrF t q) t.ps.length kv4 wo rfl rfl HA.out.wf (HA.out.dis (fun z hz => rk_le z hz) _) HLEN.out hnn (Nat.le_refl _) hT4.up hT4.size hT4.fr)
              have HFX := Lib.hid (rr_facts HLO.out)
              have HAT := Lib.hid HFX.out.1
              unfold PrPost at HPR
              rw [HAT.out, if_pos rfl] at HPR
              unfold nptr at HPR
              rw [HAN.out] at HPR
              clear hT4 HEND d1
              refine HPR.out.mono ?_
              rintro e w5 ⟨rfl, kv5, h5⟩
              have HB5 := Lib.hid (HT4.out.up.trans (h5.up.below HT4.out.fr.lo HT4.out.size))
              have HZ5 : Hid (g + 1 ≤ w5.heap.size) := Nat.le_trans HT4.out.size h5.up.size
              have HMD := Lib.hid (made_t (pr_wf HA.out.wf t.ps.length) (pr_dis HA.out.wf hnn (HA.out.dis (fun z hz => rk_le z hz) _)) (pr_len HLEN.out t.ps.length) (pr_out HA.out.wf hnn (rr_all HLO.out)) hnn HFX.out.2.1
                (Nat.le_trans (size_contr _) (Nat.le_trans HFX.out.2.2 (by decide))) HZ5.out h5.fr)
              have HRR : Hid (toRF ((rrF t q).sub (rkR t q) (prQ (rrF t q) (rrP t q) (rkR t q)) t.ps.length) (rkR t q) t.ps.length = rrR t q) := rfl
              have HCD : Hid (rrCode t q = if 64 < (rrT t q).ps.length then 4 else 0) := by unfold Hid rrCode; rw [if_neg (by simp [HR0.out])]
              have HRS : Hid (rrRes t q = if 64 < (rrT t q).ps.length then ⟨[], []⟩ else rrT t q) := by
                unfold Hid rrRes; rw [HCD.out]
                by_cases c : 64 < (rrT t q).ps.length
                · rw [if_pos c, if_pos c, if_pos (by decide)]
                · rw [if_neg c, if_neg c, if_neg (by simp)]
              have HT' : Hid (flat (sortR (contrR (rrR t q))) = rrT t q) := rfl
              unfold MdPost at HMD
              rw [HRR.out, HT'.out, ← HCD.out, ← HRS.out, HAN.out] at HMD
              clear h5 HPR hnn
              clear HCD HRS HT' HRR
              obtain ⟨T, hTT⟩ : ∃ T, T = rrRes t q := ⟨_, rfl⟩
              obtain ⟨cd, hcd⟩ : ∃ c, c = rrCode t q := ⟨_, rfl⟩
              rw [← hTT, ← hcd] at HMD
              have HTT := Lib.hid hTT
              have HCD := Lib.hid hcd
              clear hTT hcd
              go_wp2_with fail
              refine HMD.out.mono ?_
              rintro e w6 ⟨hb6, hz6, _, rfl, P5, N5, rfl, hP5, hN5⟩
              obtain ⟨p5, c5, rfl, _, _⟩ := SlAt.open hP5
              obtain ⟨n5, d5, rfl, _, _⟩ := SlAt.open hN5
              have hu6 : Up w2 w6 := Below.trans HU3.out ((HB5.out.trans hb6).mono (by have := HGL.out; omega))
              have hrb6 := (Below.block hu6 (w.heap.size + 1) (by have := HU2.out.size; rw [HSZ.out] at this; omega)).trans HRB2.out
              obtain ⟨q0, q1, q2, q3⟩ := boxed hrb6
              have HST := Lib.hid (store_two (w := w) (p := .slice p5 T.ps.length c5) (q := .slice n5 T.ns.length d5) hrb6 (by omega) (HUW.out.trans hu6))
              have HP5 := Lib.hid hP5
              have HN5 := Lib.hid hN5
              clear hb6 hrb6 hu6 hP5 hN5 HMD
              go_wp2_with fail
              obtain ⟨s1, s2, s3, s4⟩ := HST.out
              refine ⟨rfl, .tuple #[.agg #[.slice p5 T.ps.length c5, .slice n5 T.ns.length d5], .int .i64 cd], by simp [results, Tryz.results33, go_sem, s2, s3], s1, _, by rw [HCD.out], ?_⟩
              rw [← HTT.out]
              have hz5 := HZ5.out
              have hgl := HGL.out
              have hsz := HU2.out.size
              rw [HSZ.out] at hsz
              exact ⟨_, _, rfl, (IntsAt.keep HP5.out fun b hb _ => s4 b (by omega)).sub fun _ _ _ => trivial, (StrsAt.keep HN5.out fun b hb _ => s4 b (by omega)).sub fun _ _ _ => trivial⟩
            · obtain ⟨x, hx⟩ : ∃ x : Nat, (rrK t q i).cur = x := ⟨(rrK t q i).cur.toNat, by omega⟩
              have d1 : decide ((0 : Int) ≤ (rrK t q i).cur) = true := decide_eq_true (by omega)
              have HGO := Lib.hid (rrK_go hc)
              have HJ := Lib.hid (HRJ.out i)
              have HJ2 := Lib.hid (HRN.out (i + 1))
              have HX := Lib.hid hx
              obtain ⟨kv', hT⟩ := hO.out
              have hxn : x < t.ps.length := by omega
              obtain ⟨r1, r2, r3⟩ := HRS.out x hxn wo hT.up
              have hkx := hT.fr.kidv (i := x) (by omega)
              have hKX : (rrK t q i).fr.kids x = kidsL t.ps x := by rw [HJ.out.kids x (by omega)]; exact rrI_off (by omega) (by omega)
              have hfm : (rrK t q i).frm ∈ kidsL t.ps x := mem_kidsL.2 ⟨k1, by omega, by rw [← k3, hx]⟩
              have hown := hT.fr.own x (by omega)
              obtain ⟨L, hLL⟩ : ∃ L, L = (rrK t q i).fr.kids x := ⟨_, rfl⟩
              have hL0 : 0 < L.length := by rw [hLL, hKX]; exact List.length_pos_iff_exists_mem.2 ⟨_, hfm⟩
              have hl1 : L.length ≤ 1000 := by rw [hLL, hKX]; have : (kidsL t.ps x).length ≤ t.ps.length := frT_kids_len t x; have := (treeErr_zero HTE.out).2.1; omega
              rw [← hLL] at hown
              obtain ⟨qq, cap, hv, hq⟩ := hown.form (n := L.length) (by simp)
              obtain ⟨bk, rfl⟩ : ∃ g, qq = some ⟨g, 0, none⟩ := by
                rcases hq with rfl | h
                · obtain ⟨_, h | ⟨g, _, _, h, _⟩⟩ := hown
                  · have := h.2; rw [List.length_map] at this; omega
                  · rw [hv] at h; cases h
                · exact h
              rw [hv] at hkx hown
              have hbk : (kv' x).ownBlock = some bk := by rw [hv]; rfl
              have HT := Lib.hid hT
              have HDL := Lib.hid (delete_node_t (A := A') (P := fun k => decide ((rrK t q i).fr.old k = ((rrK t q i).frm : Int))) 96 #[.pointer (some ⟨fb, 0, none⟩)] (enters_of Tryz.func96 (by kernel_rfl) rfl) hown (by omega) (fun k hk W hW => by
                have hkn : k < t.ps.length + 1 := HT.out.fr.kid x (by omega) k (by rw [← hLL]; exact hk)
                obtain ⟨h1, h2, _⟩ := HT.out.grown (x := x) (by omega) hbk.symm hW
                exact from_t W (A' k) fb _ _ (by simp [World.cell?, h1]) (by have := HT.out.fr.oldc hkn; simp only [World.cell?, h2 k hkn]; exact this)))
              have HBK := Lib.hid hbk
              have HLL := Lib.hid hLL
              have i1 : (0 : Int) ≤ (x : Int) := by omega
              have i2 : (x : Int) < (t.ps.length : Int) := by omega
              rw [hx] at d1
              rw [hx]
              clear hO HST HRN hT hown hv hq hKX hfm hLL hbk hc
              go_wp2_with fail
              refine HDL.out.mono ?_
              rintro e w5 ⟨m5, rfl, hown5, hgr5⟩
              obtain ⟨hs1, hs2⟩ := HT.out.store (x := x) (by omega) HBK.out.symm hgr5
              obtain ⟨F2, hF2⟩ : ∃ F2 : Frs, F2 = ⟨(rrK t q i).fr.nm, (rrK t q i).fr.old, upd (rrK t q i).fr.kids x (L.filter fun k => !decide ((rrK t q i).fr.old k = ((rrK t q i).frm : Int)))⟩ := ⟨_, rfl⟩
              have HD : Hid (TurnAt g (t.ps.length + 1) A' (upd kv' x (.slice (some ⟨bk, 0, none⟩) m5 cap)) F2 w3 (w5.setCell ⟨A' x, 1, none⟩ (.slice (some ⟨bk, 0, none⟩) m5 cap)) fb (rrK t q i).frm) := by
                rw [Hid, hF2]
                exact HT.out.del (x := x) (by omega) HBK.out hgr5 hown5 (fun j hj => by rw [HLL.out] at hj; exact HT.out.fr.kid x (by omega) j (List.mem_filter.1 hj).1)
              have HHX : Hid ((rrK t q i).hang ≠ x) := by unfold Hid; omega
              have hkh := HD.out.fr.kidv (i := (rrK t q i).hang) k2
              have HFL : Hid (((F2.kids (rrK t q i).hang).map (nptr A')).length = (F2.kids (rrK t q i).hang).length ∧ (F2.kids (rrK t q i).hang).length ≤ 1000000) := by
                refine ⟨List.length_map _, ?_⟩
                rw [hF2]
                show (upd _ x _ _ : List Nat).length ≤ _
                rw [upd_ne _ _ HHX.out, HJ.out.kids _ (by omega)]
                have := rrI_len t q (rrK t q i).frm (rrK t q i).hang
                omega
              have HF2 : Hid (rrS (rrK t q i).fr (rrK t q i).hang (rrK t q i).frm x = { F2 with kids := upd F2.kids (rrK t q i).hang (F2.kids (rrK t q i).hang ++ [x]) }) := by rw [Hid, hF2, HLL.out]; rfl
              have HNX : Hid (∀ (b m c : Nat) (w' : World), Owns (g + 1) 113 w' (.slice (some ⟨b, 0, none⟩) m c) ((F2.kids (rrK t q i).hang).map (nptr A') ++ [.pointer (some ⟨A' x, 0, none⟩)]) → (w5.setCell ⟨A' x, 1, none⟩ (.slice (some ⟨bk, 0, none⟩) m5 cap)).grownBy w' (upd kv' x (.slice (some ⟨bk, 0, none⟩) m5 cap) (rrK t q i).hang).ownBlock →
                  ((upd kv' x (.slice (some ⟨bk, 0, none⟩) m5 cap) (rrK t q i).hang).ownBlock = some b ∨ (w5.setCell ⟨A' x, 1, none⟩ (.slice (some ⟨bk, 0, none⟩) m5 cap)).heap.size ≤ b) →
                  ∃ kv3, TurnAt g (t.ps.length + 1) A' kv3 (rrK t q (i + 1)).fr w3 (w'.setCell ⟨A' (rrK t q i).hang, 1, none⟩ (.slice (some ⟨b, 0, none⟩) m c)) fb (rrK t q i).frm) := fun b m c w' h1 h2 h3 => by
                refine ⟨_, (HD.out.push k2 (show x < t.ps.length + 1 by omega) h1 h2 h3).congr fun j _ => ?_⟩
                rw [HGO.out, HX.out]
                show _ ∧ _ ∧ (rrS _ _ _ x).kids j = _
                rw [HF2.out, hF2]
                exact ⟨rfl, rfl, rfl⟩
              have HSX : Hid (∀ w' : World, (w5.setCell ⟨A' x, 1, none⟩ (.slice (some ⟨bk, 0, none⟩) m5 cap)).grownBy w' (upd kv' x (.slice (some ⟨bk, 0, none⟩) m5 cap) (rrK t q i).hang).ownBlock → w'.cell? ⟨A' (rrK t q i).hang, 1, none⟩ = some (upd kv' x (.slice (some ⟨bk, 0, none⟩) m5 cap) (rrK t q i).hang) ∧ w'.frozen? ⟨A' (rrK t q i).hang, 1, none⟩ = false) := fun w' hw => HD.out.store k2 rfl hw
              have HK1 : Hid ((rrK t q (i + 1)).hang = x ∧ (rrK t q (i + 1)).frm = x ∧ (rrK t q (i + 1)).cur = gi t.ps x) := by rw [Hid, HGO.out, HX.out]; exact ⟨rfl, rfl, rfl⟩
              have HOWN : Hid (Owns (g + 1) 113 (w5.setCell ⟨A' x, 1, none⟩ (.slice (some ⟨bk, 0, none⟩) m5 cap)) (upd kv' x (.slice (some ⟨bk, 0, none⟩) m5 cap) (rrK t q i).hang) ((F2.kids (rrK t q i).hang).map (nptr A'))) := HD.out.fr.own (rrK t q i).hang k2
              have HSZ5 : Hid (g + 1 ≤ (w5.setCell ⟨A' x, 1, none⟩ (.slice (some ⟨bk, 0, none⟩) m5 cap)).heap.size) := HD.out.size
              have HXN : Hid (x < t.ps.length) := hxn
              have HJ2 := Lib.hid (HJ2.out.2.2.2.1)
              clear hown5 hgr5 HDL hF2 HF2 HGO HJ HRJ HD HLL HHX HT HBK k1 k2 k3 k4 k5 k6 hL0 hl1
              generalize upd kv' x (.slice (some ⟨bk, 0, none⟩) m5 cap) (rrK t q i).hang = kvh at *
              generalize (F2.kids (rrK t q i).hang).map (nptr A') = vs at *
              generalize (F2.kids (rrK t q i).hang).length = vl at *
              generalize (rrK t q i).hang = hang at *
              generalize (rrK t q i).frm = frm at *
              go_wp2_with (first | (at_builtin; refine wpList_appGM (w5.setCell ⟨A' x, 1, none⟩ (.slice (some ⟨bk, 0, none⟩) m5 cap)) rfl _ _ 111 rfl (g + 1) 113 (.pointer none) 8 Tryz.underlying111 Tryz.infoNP rfl (by decide) HOWN.out rfl (.pointer (some ⟨A' x, 0, none⟩)) w5.heap.size (World.size_setCell _ _ _) rfl rfl _ HFL.out.1 HFL.out.2 HSZ5.out ?_; intro g8 cap8 w8 hown8 hgr8 hor8; obtain ⟨hc8, hf8⟩ := HSX.out w8 hgr8; have HT8 := Lib.hid (HNX.out _ _ _ w8 hown8 hgr8 hor8); have hfb8 := HT8.out.choose_spec.cell; have HU8 := Lib.hid HT8.out.choose_spec.up; clear hown8 hgr8 hor8))
              have hs9 : (w8.setCell ⟨A' hang, 1, none⟩ (.slice (some ⟨g8, 0, none⟩) (vl + 1) cap8)).heap.size = w8.heap.size := World.size_setCell _ _ _
              rw [← hs9]
              generalize w8.setCell ⟨A' hang, 1, none⟩ (.slice (some ⟨g8, 0, none⟩) (vl + 1) cap8) = w9 at *
              obtain ⟨_, m2, m3⟩ := HRS.out x HXN.out (w9.alloc (.cells #[.int .i64 frm] 3)) (HU8.out.trans ((Up.alloc w9 _).mono (by obtain ⟨_, h⟩ := HT8.out; exact h.size)))
              have hcn := box1_0 w9 (.int .i64 frm) 3
              clear hs9 hc8 hf8 hfb8 r1 r2 r3
              refine region_T (by kernel_rfl) 8 (fun w' => w'.cell? ⟨w.heap.size, 0, none⟩ = some (.slice (some ⟨bP, oP, none⟩) t.ps.length pc) ∧ w'.cell? ⟨bP, oP + x, none⟩ = some (.int .i64 (gi t.ps x))) ⟨m3, m2⟩ (fun hS => ?_)
              simp only [List.size_toArray, List.length_cons, List.length_nil, Nat.reduceAdd, Array.replicate_succ, Array.replicate_zero, List.push_toArray, List.nil_append, List.cons_append]
              refine anyT.take (i := 0) (v := ?gv0k2) rfl (by kernel_rfl) (fun _ _ _ h => h) (by rfl) (fun w hSw => ?gy0k2) hS ?gr0k2
              case gy0k2 =>
                (try dsimp only at hSw)
                go_simp
                try with_reducible rfl
              try simp only [Act.put, List.setIfInBounds_toArray, List.set_cons_zero, List.set_cons_succ]
              refine anyT.take (i := 1) (v := ?gv1k2) rfl (by kernel_rfl) (fun _ _ _ h => h) (by rfl) (fun w hSw => ?gy1k2) hS ?gr1k2
              case gy1k2 =>
                (try dsimp only at hSw)
                go_simp
                try with_reducible rfl
              try simp only [Act.put, List.setIfInBounds_toArray, List.set_cons_zero, List.set_cons_succ]
              refine anyT.take (i := 2) (v := ?gv2k2) rfl (by kernel_rfl) (fun _ _ _ h => h) (by rfl) (fun w hSw => ?gy2k2) hS ?gr2k2
              case gy2k2 =>
                (try dsimp only at hSw)
                go_simp
                try with_reducible rfl
              try simp only [Act.put, List.setIfInBounds_toArray, List.set_cons_zero, List.set_cons_succ]
              refine anyT.take (i := 3) (v := ?gv3k2) rfl (by kernel_rfl) (fun _ _ _ h => h) (by rfl) (fun w hSw => ?gy3k2) hS ?gr3k2
              case gy3k2 =>
                (try dsimp only at hSw)
                go_simp
                try with_reducible rfl
              try simp only [Act.put, List.setIfInBounds_toArray, List.set_cons_zero, List.set_cons_succ]
              refine anyT.take (i := 4) (v := ?gv4k2) rfl (by kernel_rfl) (fun _ _ _ h => h) (by rfl) (fun w hSw => ?gy4k2) hS ?gr4k2
              case gy4k2 =>
                (try dsimp only at hSw)
                go_simp
                try with_reducible rfl
              try simp only [Act.put, List.setIfInBounds_toArray, List.set_cons_zero, List.set_cons_succ]
              refine anyT.take (i := 5) (v := ?gv5k2) rfl (by kernel_rfl) (fun _ _ _ h => h) (by rfl) (fun w hSw => ?gy5k2) hS ?gr5k2
              case gy5k2 =>
                (try dsimp only at hSw)
                go_simp
                try with_reducible rfl
              try simp only [Act.put, List.setIfInBounds_toArray, List.set_cons_zero, List.set_cons_succ]
              refine anyT.step (i := 6) rfl (by kernel_rfl) (fun K' hK => ?_)
              go_simp
              refine hK.out _ _ (fun _ => ?_) (fun hS => ?_)
              · obtain ⟨_, m2, m3⟩ := HRS.out x HXN.out ((w9.alloc (.cells #[.int .i64 (x : Int)] 3)).drew) (HU8.out.trans (((Up.alloc w9 _).trans (Up.drewN _ 1)).mono (by obtain ⟨_, h⟩ := HT8.out; exact h.size)))
                exact ⟨m3, m2⟩
              try simp only [List.setIfInBounds_toArray, List.set_cons_zero, List.set_cons_succ]
              refine anyT.step (i := 7) rfl (by kernel_rfl) (fun K' hK => ?_)
              go_simp
              refine hK.out _ _ (not_more (by kernel_rfl)) (fun hS => ?_)
              refine anyT.done (by kernel_rfl) ?_
              have HN : Hid (∃ kv', TurnAt g (t.ps.length + 1) A' kv' (rrK t q (i + 1)).fr w3 ((w9.alloc (.cells #[.int .i64 (x : Int)] 3)).drew) w9.heap.size (rrK t q (i + 1)).frm) := by
                obtain ⟨kv3, h⟩ := HT8.out
                exact ⟨kv3, by rw [HK1.out.2.1]; exact (h.rebox (x : Int)).drew⟩
              clear hS hK
              go_wp2_with fail
              go_roundw
              case rel => exact ⟨i + 1, _, by rw [HK1.out.2.2], by rw [HK1.out.1], rfl, HN.out⟩
              case measure =>
                have h2 := HJ2.out
                rw [HK1.out.2.2, HK1.out.2.1] at h2
                simp [intOf]; omega
  · have he1 : (treeErr t != 0) = true := by simpa using he
    have HST := Lib.hid (rr_err (c := 1) (by omega) HUW.out HRB2.out (by rw [HRE.out, if_pos he]) (by decide))
    clear he HRE
    generalize treeErr t = te at *
    go_wp2_with fail
    obtain ⟨s2, s3, hp⟩ := HST.out
    exact ⟨rfl, .tuple #[.agg #[.slice none 0 0, .slice none 0 0], .int .i64 1], by simp [results, Tryz.results33, go_sem, s2, s3], hp⟩
end Go.Proofs.YtpjijbophjdgaaaGreat
