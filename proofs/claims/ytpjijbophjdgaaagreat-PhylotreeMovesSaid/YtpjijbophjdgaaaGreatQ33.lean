/- The contract of phylotree.contracted. The contract of phylotree.made. The contract of phylotree.Restrict. -/
import Derived.Test.YtpjijbophjdgaaaGreatQ27
import Derived.Test.YtpjijbophjdgaaaGreatQ7
import Derived.Test.YtpjijbophjdgaaaGreatQ28
import Derived.Test.YtpjijbophjdgaaaGreatQ32
import Derived.Test.YtpjijbophjdgaaaGreatQ29
import Derived.Test.YtpjijbophjdgaaaGreatQ24
namespace Go.Proofs.YtpjijbophjdgaaaGreat
open Go.RowKit Go.Deep
set_option maxRecDepth 100000 in
set_option maxHeartbeats 4000000 in
theorem contracted_t {base n : Nat} {A : Nat → Nat} {kv : Nat → Value} {rk : Nat → Nat} : ∀ (d : Nat) (F : Frs) (i : Nat) (w : World), Wf F n rk → Dis F n rk i → (∀ z, z < n → (F.kids z).length ≤ 1000) → i < n → rk i ≤ d → FAt base n A kv F w →
    Calls Tryz.prog 172 #[.pointer (some ⟨A i, 0, none⟩)] w (CtPost base n A kv F rk i w) := by
  intro d
  induction d using Nat.strongRecOn with
  | ind d ih =>
    intro F i w hw hD hl hi hd hF
    obtain ⟨mv, hmv⟩ := rkAt_ex hF.inj rk
    have HF := Lib.hid hF
    have HIH := Lib.hid ih
    have HW := Lib.hid hw
    have HD := Lib.hid hD
    have HL := Lib.hid hl
    have HMV := Lib.hid hmv
    clear hw hD hl hF ih hmv
    go_enter Tryz.func172, Tryz.ntmps172
    go_wp2_with fail
    go_loop [0] (fun v => ∃ y : Nat, y < n ∧ v = .pointer (some ⟨A y, 0, none⟩) ∧ Hid (rk y ≤ rk i ∧ subF F rk i y = true ∧ cr F rk i = cr F rk y ∧ ∀ z, (F.sub rk (ctQ F rk) y).kids z = (F.sub rk (ctQ F rk) i).kids z)) (fun v => mv v)
    case atStart => exact ⟨i, hi, rfl, Nat.le_refl _, subF_self HW.out hi, rfl, fun _ => rfl⟩
    case round =>
      obtain ⟨y, hy, rfl, hR⟩ := hrel
      have hown := HF.out.own y hy
      obtain ⟨q, cap, hv, hq⟩ := hown.form (n := (F.kids y).length) (by simp)
      have hkc := HF.out.kidv hy
      rw [hv] at hkc
      have HV := Lib.hid hv
      by_cases h1 : (F.kids y).length = 1
      · obtain ⟨k, hk⟩ := List.length_eq_one_iff.1 h1
        have hkk := HW.out.kid y hy k (by rw [hk]; simp)
        obtain ⟨gk, rfl⟩ : ∃ g, q = some ⟨g, 0, none⟩ := by
          rcases hq with rfl | h
          · obtain ⟨_, h | ⟨g, _, _, h, _⟩⟩ := hown
            · have := h.2; rw [List.length_map] at this; omega
            · rw [hv] at h; cases h
          · exact h
        have hrow := HF.out.kcell (i := y) (j := 0) (c := k) hy hv (by rw [hk]; rfl)
        have d1 : (((F.kids y).length : Int) == 1) = true := by rw [h1]; rfl
        have i2 : (0 : Int) < ((F.kids y).length : Int) := by omega
        have HN : Hid (rk k ≤ rk i ∧ subF F rk i k = true ∧ cr F rk i = cr F rk k ∧ ∀ z, (F.sub rk (ctQ F rk) k).kids z = (F.sub rk (ctQ F rk) i).kids z) := by
          obtain ⟨r1, r2, r3, r4⟩ := hR.out
          exact ⟨by omega, sub_trans HW.out hi (Nat.le_refl _) r2 (subF_kid HW.out hy (by rw [hk]; simp) (subF_self HW.out hkk.1)), r3.trans (cr_one HW.out hy hk), fun z => (ct_chain HW.out hy hk z).trans (r4 z)⟩
        have HM : Hid (mv (.pointer (some ⟨A k, 0, none⟩)) < mv (.pointer (some ⟨A y, 0, none⟩))) := by rw [Hid, HMV.out k hkk.1, HMV.out y hy]; exact hkk.2
        have hkn := hkk.1
        clear hown hv hq h1 hk hkk hR HV
        go_wp2_with fail
        go_round
        case rel => exact ⟨k, hkn, rfl, HN⟩
        case measure => exact HM.out
      · have d1 : (((F.kids y).length : Int) == 1) = false := beq_eq_false_iff_ne.2 (by omega)
        have hl1 := HL.out y hy
        have HDY : Hid (Dis F n rk y) := fun z hz hs => HD.out z hz (sub_trans HW.out hi (Nat.le_refl _) hR.out.2.1 hs)
        have HCR : Hid (cr F rk i = y) := hR.out.2.2.1.trans (cr_self HW.out hy h1)
        have HEND : Hid (∀ z, (ctU F rk y (F.kids y).length).kids z = (F.sub rk (ctQ F rk) i).kids z) := fun z => (ctU_all HW.out hy h1 z).trans (hR.out.2.2.2 z)
        have HRK : Hid (rk y ≤ d) := Nat.le_trans hR.out.1 hd
        have HLN : Hid (∀ c ∈ F.kids y, c < n ∧ rk c < rk y) := fun c hc => HW.out.kid y hy c hc
        have HST : Hid (FAt base n A kv (ctU F rk y 0) w) := HF.out.congr2 fun z _ => ⟨rfl, rfl, ctU_zero y z⟩
        clear hR h1
        obtain ⟨L, hLL⟩ : ∃ L, L = F.kids y := ⟨_, rfl⟩
        have HLL := Lib.hid hLL
        rw [← hLL] at hkc d1 hl1 HEND HLN HV hown
        clear hLL hv
        go_wp2_with fail
        go_loopw [3, 4, 22] (fun _ _ x wr => ∃ k : Nat, k ≤ L.length ∧ x = .int .i64 k ∧ Hid (FAt base n A kv (ctU F rk y k) wr ∧ FUp n A kv w wr)) (fun _ _ x _ => L.length - (intOf x).toNat)
        case atStart => exact ⟨0, Nat.zero_le _, rfl, HST.out, FUp.refl _ _ _ _⟩
        case round =>
          obtain ⟨k, hk, rfl, hO⟩ := hrel
          obtain ⟨wo, rfl⟩ : ∃ wo : World, wo = wr := ⟨_, rfl⟩
          by_cases hlt : k < L.length
          · obtain ⟨gk, rfl⟩ : ∃ g, q = some ⟨g, 0, none⟩ := by
              rcases hq with rfl | h
              · obtain ⟨_, h | ⟨g, _, _, h, _⟩⟩ := hown
                · have := h.2; rw [List.length_map] at this; omega
                · rw [HV.out] at h; cases h
              · exact h
            have hcL : L[k]? = some L[k] := List.getElem?_eq_getElem hlt
            have hc : (F.kids y)[k]? = some L[k] := by rw [← HLL.out]; exact hcL
            have hcn := HLN.out L[k] (List.getElem_mem hlt)
            have hrow := hO.out.1.kcell (i := y) (j := k) (c := L[k]) hy HV.out (ctU_at hc)
            have hkx := hO.out.1.kidv hy
            rw [HV.out] at hkx
            have HCALL := Lib.hid (HIH.out (rk L[k]) (by have := HRK.out; omega) (ctU F rk y k) L[k] wo.drew (ctU_wf HW.out hy k) ((Dis.kid HW.out hy (List.mem_of_getElem? hc) HDY.out).cong HW.out (ctU_wf HW.out hy k) hcn.1 (ctU_fresh HW.out hy HDY.out hc)) (ctU_small HL.out hy k) hcn.1 (Nat.le_refl _) (hO.out.1.same (fun _ _ => rfl) (fun _ _ _ _ => rfl)))
            have HCC : Hid (cr (ctU F rk y k) rk L[k] = cr F rk L[k]) := cr_cong HW.out (ctU_wf HW.out hy k) hcn.1 (Nat.le_refl _) (ctU_fresh HW.out hy HDY.out hc)
            have HC := Lib.hid hc
            have HUO := Lib.hid hO.out.2
            have HLT := Lib.hid hlt
            have i1 : (0 : Int) ≤ (k : Int) := by omega
            have i2 : (k : Int) < (L.length : Int) := by omega
            unfold CtPost at HCALL
            rw [HCC.out] at HCALL
            clear hcL hc hcn hO HCC
            generalize L[k] = c at *
            go_wp2_with fail
            refine region_T (by kernel_rfl) 9 (fun w' => w'.cell? ⟨A y, 1, none⟩ = some (.slice (some ⟨gk, 0, none⟩) L.length cap)) hkx (fun hS => ?_)
            simp only [List.size_toArray, List.length_cons, List.length_nil, Nat.reduceAdd, Array.replicate_succ, Array.replicate_zero, List.push_toArray, List.nil_append, List.cons_append]
            refine anyT.take (i := 0) (v := ?gv0k1) rfl (by kernel_rfl) (fun _ _ _ h => h) (by rfl) (fun w hSw => ?gy0k1) hS ?gr0k1
            case gy0k1 =>
              (try dsimp only at hSw)
              go_simp
              try with_reducible rfl
            try simp only [Act.put, List.setIfInBounds_toArray, List.set_cons_zero, List.set_cons_succ]
            refine anyT.take (i := 1) (v := ?gv1k1) rfl (by kernel_rfl) (fun _ _ _ h => h) (by rfl) (fun w hSw => ?gy1k1) hS ?gr1k1
            case gy1k1 =>
              (try dsimp only at hSw)
              go_simp
              try with_reducible rfl
            try simp only [Act.put, List.setIfInBounds_toArray, List.set_cons_zero, List.set_cons_succ]
            refine anyT.take (i := 2) (v := ?gv2k1) rfl (by kernel_rfl) (fun _ _ _ h => h) (by rfl) (fun w hSw => ?gy2k1) hS ?gr2k1
            case gy2k1 =>
              (try dsimp only at hSw)
              go_simp
              try with_reducible rfl
            try simp only [Act.put, List.setIfInBounds_toArray, List.set_cons_zero, List.set_cons_succ]
            refine anyT.take (i := 3) (v := ?gv3k1) rfl (by kernel_rfl) (fun _ _ _ h => h) (by rfl) (fun w hSw => ?gy3k1) hS ?gr3k1
            case gy3k1 =>
              (try dsimp only at hSw)
              go_simp
              try with_reducible rfl
            try simp only [Act.put, List.setIfInBounds_toArray, List.set_cons_zero, List.set_cons_succ]
            refine anyT.take (i := 4) (v := ?gv4k1) rfl (by kernel_rfl) (fun _ _ _ h => h) (by rfl) (fun w hSw => ?gy4k1) hS ?gr4k1
            case gy4k1 =>
              (try dsimp only at hSw)
              go_simp
              try with_reducible rfl
            try simp only [Act.put, List.setIfInBounds_toArray, List.set_cons_zero, List.set_cons_succ]
            refine anyT.take (i := 5) (v := ?gv5k1) rfl (by kernel_rfl) (fun _ _ _ h => h) (by rfl) (fun w hSw => ?gy5k1) hS ?gr5k1
            case gy5k1 =>
              (try dsimp only at hSw)
              go_simp
              try with_reducible rfl
            try simp only [Act.put, List.setIfInBounds_toArray, List.set_cons_zero, List.set_cons_succ]
            refine anyT.step (i := 6) rfl (by kernel_rfl) (fun K' hK => ?_)
            go_simp
            refine HCALL.out.mono ?_
            rintro e w2 ⟨rfl, hF2, hU2⟩
            obtain ⟨hk2, hfz2, ⟨cx, hcx⟩, hF3, hU3⟩ := ct_step HW.out hy HDY.out HC.out HV.out hF2
            have HN : Hid (FAt base n A kv (ctU F rk y (k + 1)) (w2.setCell ⟨gk, k, none⟩ (.pointer (some ⟨A (cr F rk c), 0, none⟩))) ∧ FUp n A kv w (w2.setCell ⟨gk, k, none⟩ (.pointer (some ⟨A (cr F rk c), 0, none⟩)))) := ⟨hF3, HUO.out.trans ((FUp.of_drew hU2).trans hU3)⟩
            clear hF2 hU2 hF3 hU3
            refine hK.out _ _ (fun _ => hk2) (fun hS => ?_)
            try simp only [List.setIfInBounds_toArray, List.set_cons_zero, List.set_cons_succ]
            refine anyT.step (i := 7) rfl (by kernel_rfl) (fun K' hK => ?_)
            go_simp
            refine hK.out _ _ (fun _ => hk2) (fun hS => ?_)
            try simp only [List.setIfInBounds_toArray, List.set_cons_zero, List.set_cons_succ]
            refine anyT.step (i := 8) rfl (by kernel_rfl) (fun K' hK => ?_)
            go_simp
            refine hK.out _ _ (not_more (by kernel_rfl)) (fun hS => ?_)
            refine anyT.done (by kernel_rfl) ?_
            go_wp2_with fail
            go_roundw
            case rel => exact ⟨k + 1, HLT.out, by go_num, HN.out⟩
            case measure => have := HLT.out; simp [intOf]; omega
          · obtain rfl : k = L.length := by omega
            have HFIN : Hid (FAt base n A kv (F.sub rk (ctQ F rk) i) wo) := hO.out.1.congr2 fun z _ => ⟨rfl, rfl, (HEND.out z).symm⟩
            have HUF := Lib.hid hO.out.2
            clear hlt hk hO
            go_wp2_with fail
            go_ret
            exact ⟨by rw [HCR.out]; rfl, HFIN.out, HUF.out⟩
end Go.Proofs.YtpjijbophjdgaaaGreat
namespace Go.Proofs.YtpjijbophjdgaaaGreat
open Go.RowKit Go.Deep
theorem store_twoB {base : Nat} {w w4 : World} {B : Nat} {x y p q : Value} {T : TypeId} (hb : w4.heap[B]? = some (Obj.cells #[x, y] T (0, 0))) (hB : base ≤ B) (hu : Below base w w4) :
    Below base w ((w4.setCell ⟨B, 0, none⟩ p).setCell ⟨B, 1, none⟩ q) ∧ ((w4.setCell ⟨B, 0, none⟩ p).setCell ⟨B, 1, none⟩ q).cell? ⟨B, 0, none⟩ = some p ∧ ((w4.setCell ⟨B, 0, none⟩ p).setCell ⟨B, 1, none⟩ q).cell? ⟨B, 1, none⟩ = some q ∧
      ∀ b, b ≠ B → ((w4.setCell ⟨B, 0, none⟩ p).setCell ⟨B, 1, none⟩ q).heap[b]? = w4.heap[b]? := by
  have hset : ∀ b, b ≠ B → ((w4.setCell ⟨B, 0, none⟩ p).setCell ⟨B, 1, none⟩ q).heap[b]? = w4.heap[b]? := fun b hb => by rw [blk_setCell_other _ _ _ _ hb, blk_setCell_other _ _ _ _ hb]
  have hheap : ((w4.setCell ⟨B, 0, none⟩ p).setCell ⟨B, 1, none⟩ q).heap[B]? = some (Obj.cells #[p, q] T (0, 0)) := by
    simp [World.setCell, Array.getElem?_modify, hb]
  exact ⟨⟨hu.os, hu.tape, hu.output, by simp [World.size_setCell]; exact hu.size, fun b hb => (hset b (by omega)).trans (hu.block b hb)⟩, by simp [World.cell?, hheap], by simp [World.cell?, hheap], hset⟩
def MdPost (base : Nat) (w : World) (T : Tre) (e : Ending) (w' : World) : Prop :=
  Below base w w' ∧ w.heap.size ≤ w'.heap.size ∧ ∃ v, e = .returned (.tuple #[v, .int .i64 (if 64 < T.ps.length then 4 else 0)]) ∧ TreeAt (fun b => w.heap.size ≤ b) w' v (if 64 < T.ps.length then ⟨[], []⟩ else T)
theorem FUp.far {n base : Nat} {A : Nat → Nat} {kv : Nat → Value} {F : Frs} {w a b : World} (h : FUp n A kv a b) (hF : FAt base n A kv F w) {B : Nat} (hB : w.heap.size ≤ B) (hl : B < a.heap.size) : b.heap[B]? = a.heap[B]? :=
  h.block B hl (fun i hi e => by have := hF.lt hi; omega) (fun i hi e => by have := (hF.ownlt hi e).2; omega)
set_option maxRecDepth 100000 in
set_option maxHeartbeats 4000000 in
theorem made_t {base n : Nat} {A : Nat → Nat} {kv : Nat → Value} {rk : Nat → Nat} {F : Frs} {i : Nat} {w : World} (hw : Wf F n rk) (hD : Dis F n rk i) (hl : ∀ z, z < n → (F.kids z).length ≤ 1000) (hout : ∀ z, z < n → subF F rk i z = false → (F.kids z).length ≤ 1)
    (hi : i < n) (hg : GoodR (toRF F rk i)) (hsz : sizeR (contrR (toRF F rk i)) ≤ 100000) (hbs : base ≤ w.heap.size) (hF : FAt base n A kv F w) :
    Calls Tryz.prog 97 #[.pointer (some ⟨A i, 0, none⟩)] w (MdPost base w (flat (sortR (contrR (toRF F rk i))))) := by
  have hu := Up.alloc w (.cells #[.slice none 0 0, .slice none 0 0] 45)
  have hrb := box_at (w := w) (P := .slice none 0 0) (N := .slice none 0 0) (T := 45)
  have hsz1 : (w.alloc (.cells #[.slice none 0 0, .slice none 0 0] 45)).heap.size = w.heap.size + 1 := World.size_alloc _ _
  have HF := Lib.hid hF
  have HF1 := Lib.hid (hF.up hu)
  have HCT := Lib.hid (contracted_t (rk i) F i _ hw hD hl hi (Nat.le_refl _) (hF.up hu))
  have HR := Lib.hid (cr_ok hw hi (Nat.le_refl _))
  have HSO := Lib.hid (ct_sortable hw hi hg hl hout)
  have HRO : Hid (toRF (F.sub rk (ctQ F rk) i) rk (cr F rk i) = contrR (toRF F rk i)) := ct_rose hw hi (rk i) i (Nat.le_refl _) hi (subF_self hw hi)
  have HGR := Lib.hid (good_contr hg)
  have HSZ := Lib.hid hsz1
  have HRB := Lib.hid hrb
  have HBU : Hid (Below base w (w.alloc (.cells #[.slice none 0 0, .slice none 0 0] 45))) := Below.mono hu hbs
  have HBS := Lib.hid hbs
  have HSC := Lib.hid hsz
  clear hw hD hl hout hg hF hu hrb hsz1 hbs hsz
  unfold CtPost at HCT
  generalize contrR (toRF F rk i) = R at *
  generalize F.sub rk (ctQ F rk) i = F2 at *
  generalize cr F rk i = r at *
  go_enter Tryz.func97, Tryz.ntmps97
  go_wp2_with fail
  generalize w.alloc (.cells #[.slice none 0 0, .slice none 0 0] 45) = w1 at *
  refine HCT.out.mono ?_
  rintro e w2 ⟨rfl, hF2, hU2⟩
  obtain ⟨hr, _, _, _⟩ := HR.out
  have hF0 : FAt base n A kv (F2.srt rk fun _ => false) w2 := hF2.congr fun j _ => ⟨rfl, rfl, rfl⟩
  have HST := Lib.hid (sorted_t HSO.out (rk r) r (fun _ => false) w2 hr (Nat.le_refl _) hF0)
  have HRB2 := Lib.hid ((hU2.far HF.out (Nat.le_refl _) (by rw [HSZ.out]; omega)).trans HRB.out)
  have hs1 : base ≤ w1.heap.size := by have := HBS.out; rw [HSZ.out]; omega
  have HB2 := Lib.hid (HBU.out.trans (hU2.below HF1.out hs1))
  have HZ2 : Hid (w.heap.size + 1 ≤ w2.heap.size) := by have := hU2.size; rw [HSZ.out] at this; exact this
  have HF0 := Lib.hid hF0
  clear hF2 hU2 HCT hF0 HBU HRB
  go_wp2_with fail
  refine HST.out.mono ?_
  rintro e w3 ⟨rfl, hF3, hU3⟩
  have HRB3 := Lib.hid ((hU3.far HF.out (Nat.le_refl _) (by have := HZ2.out; omega)).trans HRB2.out)
  have HB3 := Lib.hid (HB2.out.trans (hU3.below HF0.out (by have := HBS.out; have := HZ2.out; omega)))
  have HZ3 : Hid (w.heap.size + 1 ≤ w3.heap.size) := Nat.le_trans HZ2.out hU3.size
  have hst := srt_tree HSO.out.wf hr (by rw [HRO.out]; exact HGR.out) (p := fun j => false || subF F2 rk r j) (fun j hj => by simpa using hj)
  rw [HRO.out] at hst
  have HTR := Lib.hid (tree_t (HSO.out.wf.srt fun j => false || subF F2 rk r j) (fun z hz => by
    rw [(F2.srt_perm rk (fun j => false || subF F2 rk r j) z).length_eq]; exact HSO.out.len z hz) w3 r hr hF3 (by rw [hst.2]; exact HSC.out))
  rw [hst.1] at HTR
  clear hF3 hU3 HST HF0 HRB2 HB2 HZ2 hst
  generalize flat (sortR R) = T at *
  go_wp2_with fail
  refine HTR.out.mono ?_
  rintro e w4 ⟨hu4, _, rfl, P4, N4, rfl, hP4, hN4⟩
  obtain ⟨pp, pc, rfl, _, _⟩ := SlAt.open hP4
  obtain ⟨np, nc, rfl, _, _⟩ := SlAt.open hN4
  have hu5 := Up.alloc w4 (.cells #[.slice pp T.ps.length pc, .slice np T.ns.length nc] 45)
  have HRB5 := Lib.hid (((Below.block (Below.trans hu4 (Below.mono hu5 hu4.size)) w.heap.size (by have := HZ3.out; omega)).trans HRB3.out))
  have HB5 := Lib.hid (HB3.out.trans (Below.mono (Below.trans hu4 (Below.mono hu5 hu4.size)) (by have := HBS.out; have := HZ3.out; omega)))
  have HP5 := Lib.hid (IntsAt.keep hP4 (hu5.kept _))
  have HN5 := Lib.hid (StrsAt.keep hN4 (hu5.kept _))
  have HZ5 : Hid (w.heap.size + 1 ≤ (w4.alloc (.cells #[.slice pp T.ps.length pc, .slice np T.ns.length nc] 45)).heap.size) := by have := hu5.size; have := hu4.size; have := HZ3.out; unfold Hid; omega
  have hc0 := box2_0 w4 (.slice pp T.ps.length pc) (.slice np T.ns.length nc) 45
  have hc1 := box2_1 w4 (.slice pp T.ps.length pc) (.slice np T.ns.length nc) 45
  obtain ⟨q0, q1, q2, q3⟩ : (w4.alloc (.cells #[.slice pp T.ps.length pc, .slice np T.ns.length nc] 45)).cell? ⟨w.heap.size, 0, none⟩ = some (.slice none 0 0) ∧ (w4.alloc (.cells #[.slice pp T.ps.length pc, .slice np T.ns.length nc] 45)).cell? ⟨w.heap.size, 1, none⟩ = some (.slice none 0 0) ∧ (w4.alloc (.cells #[.slice pp T.ps.length pc, .slice np T.ns.length nc] 45)).frozen? ⟨w.heap.size, 0, none⟩ = false ∧ (w4.alloc (.cells #[.slice pp T.ps.length pc, .slice np T.ns.length nc] 45)).frozen? ⟨w.heap.size, 1, none⟩ = false := by
    refine ⟨?_, ?_, ?_, ?_⟩ <;> simp only [World.cell?, World.frozen?, HRB5.out] <;> rfl
  clear hu4 hu5 hP4 hN4 HTR HRB3 HB3
  by_cases h64 : 64 < T.ps.length
  · have d1 : decide ((64 : Int) < (T.ps.length : Int)) = true := decide_eq_true (by omega)
    have HST := Lib.hid (store_twoB (p := .slice none 0 0) (q := .slice none 0 0) HRB5.out HBS.out HB5.out)
    have H64 := Lib.hid h64
    clear h64
    go_wp2_with fail
    obtain ⟨r1, r2, r3, r4⟩ := HST.out
    refine ⟨rfl, .tuple #[.agg #[.slice none 0 0, .slice none 0 0], .int .i64 4], by simp [results, Tryz.results97, go_sem, r2, r3], r1, ?_, .agg #[.slice none 0 0, .slice none 0 0], by rw [if_pos H64.out], by rw [if_pos H64.out]; exact ⟨_, _, rfl, ⟨none, 0, rfl, Nat.le_refl _, .inl rfl⟩, ⟨none, 0, rfl, Nat.le_refl _, .inl rfl⟩⟩⟩
    rw [World.size_setCell, World.size_setCell]; have := HZ5.out; omega
  · have d1 : decide ((64 : Int) < (T.ps.length : Int)) = false := decide_eq_false (by omega)
    have HST := Lib.hid (store_twoB (p := .slice pp T.ps.length pc) (q := .slice np T.ns.length nc) HRB5.out HBS.out HB5.out)
    have H64 := Lib.hid h64
    clear h64
    go_wp2_with fail
    obtain ⟨r1, r2, r3, r4⟩ := HST.out
    refine ⟨rfl, .tuple #[.agg #[.slice pp T.ps.length pc, .slice np T.ns.length nc], .int .i64 0], by simp [results, Tryz.results97, go_sem, r2, r3], r1, ?_, .agg #[.slice pp T.ps.length pc, .slice np T.ns.length nc], by rw [if_neg H64.out], ?_⟩
    · rw [World.size_setCell, World.size_setCell]; have := HZ5.out; omega
    · rw [if_neg H64.out]
      have hz := HZ3.out
      exact ⟨_, _, rfl, (IntsAt.keep HP5.out fun b hb _ => r4 b (by omega)).sub fun b hb _ => by omega, (StrsAt.keep HN5.out fun b hb _ => r4 b (by omega)).sub fun b hb _ => by omega⟩
end Go.Proofs.YtpjijbophjdgaaaGreat
namespace Go.Proofs.YtpjijbophjdgaaaGreat
open Go.RowKit Go.Deep
set_option maxRecDepth 100000 in
set_option maxHeartbeats 1000000 in
theorem keep_t (S : Nat → Prop) (W : World) (aj bx : Nat) (x : Int) (lv : Value) (L : List Int) (hl : L.length ≤ 1000000) (hb : W.cell? ⟨bx, 0, none⟩ = some lv) (hL : IntsAt S W lv L) (ho : W.cell? ⟨aj, 2, none⟩ = some (.int .i64 x)) :
    Calls Tryz.prog 102 (#[.pointer (some ⟨aj, 0, none⟩)] ++ #[.pointer (some ⟨bx, 0, none⟩)]) W fun e W' => e = .returned (.bool (decide (x ∈ L))) ∧ Up W W' := by
  have HC := Lib.hid (fun q => same_quiet (contains_int_t S (W.drewN q) lv L x (IntsAt.keep hL (kept_drewN _ W q)) hl))
  have HM := Lib.hid (any_memI x L)
  clear hL
  go_enter Tryz.func102, Tryz.ntmps102
  go_wp2_with fail
  go_big_quiet (with_reducible exact HC.out _)
  go_wp2_with fail
  go_ret
  exact ⟨by rw [HM.out]; rfl, Up.drewN _ _⟩
def rsE (t : Tre) (L : List Int) (k : Nat) : Int :=
  if gi L k < 0 ∨ (t.ps.length : Int) ≤ gi L k then 2 else if (gs t.ns (gi L k).toNat).size = 0 then 8 else if 0 < k ∧ gi L k ≤ gi L (k - 1) then 10 else 0
def rsErr (t : Tre) (L : List Int) : Int := if treeErr t ≠ 0 then 1 else if L.length = 0 then 5 else firstNZ (rsE t L) L.length
def rsP (L : List Int) (j : Nat) : Bool := decide ((j : Int) ∈ L)
def rsR (t : Tre) (L : List Int) : RT := toRF ((frT t).sub (rkT t) (prQ (frT t) (rsP L) (rkT t)) 0) (rkT t) 0
def rsT (t : Tre) (L : List Int) : Tre := if rsErr t L ≠ 0 then ⟨[], []⟩ else flat (sortR (contrR (rsR t L)))
def RsPost (w : World) (t : Tre) (L : List Int) (e : Ending) (w' : World) : Prop :=
  Up w w' ∧ ∃ v, e = .returned (.tuple #[v, .int .i64 (rsErr t L)]) ∧ TreeAt Any w' v (rsT t L)
theorem rsErr_zero {t : Tre} {L : List Int} (h : rsErr t L = 0) : treeErr t = 0 ∧ 0 < L.length ∧ ∀ k, k < L.length → 0 ≤ gi L k ∧ gi L k < t.ps.length ∧ (gs t.ns (gi L k).toNat).size ≠ 0 := by
  unfold rsErr at h
  by_cases h1 : treeErr t = 0
  · rw [if_neg (by simp [h1])] at h
    by_cases h2 : L.length = 0
    · rw [if_pos h2] at h; cases h
    · rw [if_neg h2] at h
      refine ⟨h1, by omega, fun k hk => ?_⟩
      have h3 := firstNZ_eq_zero h k hk
      unfold rsE at h3
      split at h3
      · cases h3
      · split at h3
        · cases h3
        · exact ⟨by omega, by omega, by assumption⟩
  · rw [if_pos h1] at h; cases h
theorem rs_facts {t : Tre} {L : List Int} (h : rsErr t L = 0) :
    al (frT t) (rsP L) (rkT t) 0 = true ∧ GoodR (rsR t L) ∧ sizeR (rsR t L) ≤ 64 ∧ (flat (sortR (contrR (rsR t L)))).ps.length ≤ 64 := by
  obtain ⟨h1, h2, h3⟩ := rsErr_zero h
  obtain ⟨hp, hp64, _, _, _⟩ := treeErr_zero h1
  have hA := frT_arb h1
  obtain ⟨a, b, c⟩ := h3 0 h2
  obtain ⟨q, hq⟩ : ∃ q : Nat, gi L 0 = q := ⟨(gi L 0).toNat, by omega⟩
  have hqn : q < t.ps.length := by omega
  have hmem : (q : Int) ∈ L := by rw [← hq]; exact gi_mem h2
  have hleaf : (frT t).kids q = [] := by
    cases hk : (frT t).kids q with
    | nil => rfl
    | cons k l =>
      have hg := good_toR h1
      have hpart := rose_part hA.wf hp (all_below h1 q q (Nat.le_refl _) hqn)
      have hin := hg.inn _ hpart
      rw [toRF_nm hA.wf hqn, toRF_kids hA.wf hqn, hk] at hin
      rw [hq] at c
      exact absurd (hin (by simp)) c
  have hqa : al (frT t) (rsP L) (rkT t) q = true := by
    rw [al_eq hA.wf hqn, if_pos hleaf]; unfold rsP; exact decide_eq_true hmem
  have h0 := (pr_reach hA.wf hp _ 0 q (Nat.le_refl _) hp (subF_self hA.wf hp) (all_below h1 q q (Nat.le_refl _) hqn) hqa).1
  have hg : GoodR (rsR t L) := pr_good hA.wf hp (good_toR h1) h0
  have hs : sizeR (rsR t L) ≤ 64 := Nat.le_trans (good_size (pr_wf hA.wf 0) hp hg) hp64
  refine ⟨h0, hg, hs, ?_⟩
  rw [flat_ps, sizeR_sort]
  exact Nat.le_trans (size_contr _) hs
end Go.Proofs.YtpjijbophjdgaaaGreat
