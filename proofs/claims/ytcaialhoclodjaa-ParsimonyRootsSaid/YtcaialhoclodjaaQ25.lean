/- The contract of phylotree.pruned. The contract of phylotree.contracted. The contract of phylotree.made. The contract of phylotree.Restrict. SharederrorClades, plain: the groups of the nodes have no conflict; their tree is the tree without nodes that have one child. The walk of phylotree.Restrict. The walk of phylotree.Reroot. -/
import Derived.Test.YtcaialhoclodjaaQ16
import Derived.Test.YtcaialhoclodjaaQ17
import Derived.Test.YtcaialhoclodjaaQ8
import Derived.Test.YtcaialhoclodjaaQ19
import Derived.Test.YtcaialhoclodjaaQ20
import Derived.Test.YtcaialhoclodjaaQ21
import Derived.Test.YtcaialhoclodjaaQ24
namespace Go.Proofs.Ytcaialhoclodjaa
open Go.RowKit Go.Deep
set_option maxRecDepth 100000 in
set_option maxHeartbeats 1000000 in
theorem pruned_leaf {g : Nat} {lb : Array Value} (eg : ∀ args w, (callFunc g args).run Try.prog w = .ok (.enter g args) w) {base n : Nat} {A : Nat → Nat} {w0 : World} {m : Nat → ByteArray} {o : Nat → Int} {P : Nat → Bool} {rk : Nat → Nat}
    (hp : ∀ j W, j < n → Below base w0 W → W.cell? ⟨A j, 0, none⟩ = some (.string (m j)) → W.cell? ⟨A j, 2, none⟩ = some (.int .i64 (o j)) → Calls Try.prog g (#[.pointer (some ⟨A j, 0, none⟩)] ++ lb) W fun e W' => e = .returned (.bool (P j)) ∧ Up W W')
    {F : Frs} {i : Nat} {kv : Nat → Value} {w : World} (hm0 : F.nm = m) (ho : F.old = o) (hw : Wf F n rk) (hi : i < n) (hB : Below base w0 w) (_hb : base ≤ w.heap.size) (hF : FAt base n A kv F w) (h0 : F.kids i = []) :
    Calls Try.prog 43 #[.pointer (some ⟨A i, 0, none⟩), .func (.func g) #[] lb] w (PrPost base n A F P rk kv i w) := by
  have hown := hF.own i hi
  rw [h0] at hown
  obtain ⟨q, cap, hv, _⟩ := hown.form (n := 0) rfl
  have hkc := hF.kidv hi
  rw [hv] at hkc
  have HCALL := Lib.hid (hp i w hi hB (by have := hF.name hi; rw [hm0] at this; exact this) (by have := hF.oldc hi; rw [ho] at this; exact this))
  have HAL : Hid (al F P rk i = P i) := by rw [Hid, al_eq hw hi, if_pos h0]
  have HPD : Hid (∀ w', Up w w' → PrD base n A F P rk kv i w kv w') := fun w' hu => ⟨(hF.up hu).congr2 fun z hz => ⟨rfl, rfl, by
    show (if _ then _ else _) = _
    split
    · rename_i hs
      rw [subF_eq hw hi, h0] at hs
      have : z = i := by simpa using hs
      subst this
      unfold prQ; rw [h0]; rfl
    · rfl⟩, PUp.of_up hu, fun _ _ _ h => .inl h, fun _ _ => rfl⟩
  clear hown hF hp hv h0 hB
  go_enter Try.func43, Try.ntmps43
  go_wp2_with fail
  refine HCALL.out.mono ?_
  rintro e w' ⟨rfl, hu⟩
  have HN := Lib.hid (HPD.out w' hu)
  clear hu
  cases hP : P i with
  | true =>
    have HA2 : Hid (al F P rk i = true) := by rw [Hid, HAL.out, hP]
    go_wp2_with fail
    go_ret
    exact ⟨by rw [HA2.out]; rfl, _, HN.out⟩
  | false =>
    have HA2 : Hid (al F P rk i = false) := by rw [Hid, HAL.out, hP]
    go_wp2_with fail
    go_ret
    exact ⟨by rw [HA2.out]; rfl, _, HN.out⟩
set_option maxRecDepth 100000 in
set_option maxHeartbeats 4000000 in
theorem pruned_t (g : Nat) (lb : Array Value) (eg : ∀ args w, (callFunc g args).run Try.prog w = .ok (.enter g args) w) {base n : Nat} {A : Nat → Nat} {w0 : World} {m : Nat → ByteArray} {o : Nat → Int} {P : Nat → Bool} {rk : Nat → Nat}
    (hp : ∀ j W, j < n → Below base w0 W → W.cell? ⟨A j, 0, none⟩ = some (.string (m j)) → W.cell? ⟨A j, 2, none⟩ = some (.int .i64 (o j)) → Calls Try.prog g (#[.pointer (some ⟨A j, 0, none⟩)] ++ lb) W fun e W' => e = .returned (.bool (P j)) ∧ Up W W') :
    ∀ (d : Nat) (F : Frs) (i : Nat) (kv : Nat → Value) (w : World), F.nm = m → F.old = o → Wf F n rk → Dis F n rk i → (∀ z, z < n → (F.kids z).length ≤ 1000) → i < n → rk i ≤ d → Below base w0 w → base ≤ w.heap.size → FAt base n A kv F w →
    Calls Try.prog 43 #[.pointer (some ⟨A i, 0, none⟩), .func (.func g) #[] lb] w (PrPost base n A F P rk kv i w) := by
  intro d
  induction d with
  | zero =>
    intro F i kv w hm0 ho hw hD hl hi hd hB hb hF
    exact pruned_leaf eg hp hm0 ho hw hi hB hb hF (kids_nil0 hw hi hd)
  | succ d ih =>
    intro F i kv w hm0 ho hw hD hl hi hd hB hb hF
    by_cases h0 : F.kids i = []
    · exact pruned_leaf eg hp hm0 ho hw hi hB hb hF h0
    · have hown := hF.own i hi
      obtain ⟨L, hLL⟩ : ∃ L, L = F.kids i := ⟨_, rfl⟩
      have hL0 : 0 < L.length := by rw [hLL]; exact List.length_pos_iff.2 h0
      have hl1 : L.length ≤ 1000 := by rw [hLL]; exact hl i hi
      rw [← hLL] at hown
      obtain ⟨q, cap, hv, hq⟩ := hown.form (n := L.length) (by simp)
      obtain ⟨gk, rfl⟩ : ∃ g, q = some ⟨g, 0, none⟩ := by
        rcases hq with rfl | h
        · obtain ⟨_, h | ⟨g, _, _, h, _⟩⟩ := hown
          · have := h.2; rw [List.length_map] at this; omega
          · rw [hv] at h; cases h
        · exact h
      have hkc := hF.kidv hi
      rw [hv] at hkc
      have HF := Lib.hid hF
      have HV := Lib.hid hv
      have HLL := Lib.hid hLL
      have HIH := Lib.hid ih
      have HW := Lib.hid hw
      have HD := Lib.hid hD
      have HO := Lib.hid ho
      have HM0 := Lib.hid hm0
      have HLS := Lib.hid hl
      have HB := Lib.hid hB
      have HBS := Lib.hid hb
      have HLN : Hid (∀ c ∈ L, c < n ∧ rk c < rk i) := fun c hc => hw.kid i hi c (by rw [← hLL]; exact hc)
      have HST : Hid (PrW base n A F P rk kv i w kv w (.slice none 0 0) 0 0) := ⟨hF.congr2 fun z _ => ⟨rfl, rfl, upto_zero _ _ _⟩, PUp.refl _ _ _, fun _ _ _ h => .inl h, fun _ _ => rfl, Owns.nil _ _ _, fun b hb => by cases hb⟩
      have HAL : Hid (al F P rk i = (F.kids i).any (al F P rk)) := by rw [Hid, al_eq hw hi, if_neg h0]
      have d1 : ((L.length : Int) == 0) = false := beq_eq_false_iff_ne.2 (by omega)
      have hfr := hF.thaw hi 1
      clear hown hq hv hLL ih hw hD ho hm0 hl hB hb hF h0
      go_enter Try.func43, Try.ntmps43
      go_wp2_with fail
      go_loopw [5, 7, 8, 25] (fun dv _ _ x wr => ∃ k : Nat, k ≤ L.length ∧ x = .int .i64 k ∧ Hid (∃ kvk, PrW base n A F P rk kv i w kvk wr dv k k)) (fun _ _ _ x _ => L.length - (intOf x).toNat)
      case atStart => exact ⟨0, Nat.zero_le _, rfl, kv, HST.out⟩
      case round =>
        obtain ⟨k, hk, rfl, hO⟩ := hrel
        obtain ⟨wo, rfl⟩ : ∃ wo : World, wo = wr := ⟨_, rfl⟩
        obtain ⟨dv, rfl⟩ : ∃ d : Value, d = u5 := ⟨_, rfl⟩
        obtain ⟨kvk, hO⟩ := hO.out
        have HK := Lib.hid hO
        by_cases hlt : k < L.length
        · have hcL : L[k]? = some L[k] := List.getElem?_eq_getElem hlt
          have hc : (F.kids i)[k]? = some L[k] := by rw [← HLL.out]; exact hcL
          have hkvi : kvk i = .slice (some ⟨gk, 0, none⟩) L.length cap := (hO.old i (.inr rfl)).trans HV.out
          have hrow := hO.fr.kcell (i := i) (j := k) (c := L[k]) hi hkvi (by rw [upto_own HW.out hi k]; exact hc)
          have hcn := HLN.out L[k] (List.getElem_mem hlt)
          have HCALL := Lib.hid (HIH.out (F.upto rk (prQ F P rk) (F.kids i) k) L[k] kvk wo HM0.out HO.out (upto_wf HW.out P _ k) ((Dis.kid HW.out hi (List.mem_of_getElem? hc) HD.out).cong HW.out (upto_wf HW.out P _ k) hcn.1 (upto_fresh HW.out hi HD.out hc))
            (fun z hz => by
              show (if _ then _ else _ : List Nat).length ≤ _
              split
              · exact Nat.le_trans (List.length_filter_le _ _) (HLS.out z hz)
              · exact HLS.out z hz) hcn.1 (by have := hcn.2; omega) (HB.out.trans (hO.up.below HF.out.lo HBS.out)) (Nat.le_trans HBS.out hO.up.size) hO.fr)
          have HALC : Hid (al (F.upto rk (prQ F P rk) (F.kids i) k) P rk L[k] = al F P rk L[k]) := al_cong HW.out (upto_wf HW.out P _ k) hcn.1 (Nat.le_refl _) (upto_fresh HW.out hi HD.out hc)
          have HC := Lib.hid hc
          have HLT := Lib.hid hlt
          have i1 : (0 : Int) ≤ (k : Int) := by omega
          have i2 : (k : Int) < (L.length : Int) := by omega
          unfold PrPost at HCALL
          rw [HALC.out] at HCALL
          clear hcL hc hcn hkvi hO
          generalize L[k] = c at *
          go_wp2_with fail
          refine HCALL.out.mono ?_
          rintro e w2 ⟨rfl, kv2, h2⟩
          have HS := Lib.hid (HK.out.step HF.out HW.out HD.out hi HC.out h2)
          clear h2 HK
          cases ha : al F P rk c with
          | false =>
            have HN := Lib.hid (HS.out.skip HC.out ha)
            clear HS ha
            go_wp2_with fail
            go_roundw
            case rel => exact ⟨k + 1, HLT.out, by go_num, kv2, HN.out⟩
            case measure => have := HLT.out; simp [intOf]; omega
          | true =>
            have HA := Lib.hid ha
            have HLM : Hid (((((F.kids i).take k).filter (al F P rk)).map (nptr A)).length = (((F.kids i).take k).filter (al F P rk)).length) := List.length_map _
            have HLE : (((F.kids i).take k).filter (al F P rk)).length ≤ 1000000 := by
              refine Nat.le_trans (List.length_filter_le _ _) ?_
              rw [List.length_take]; omega
            have hwz : w.heap.size ≤ w2.heap.size := HS.out.up.size
            have HOW : Hid (Owns w.heap.size 66 w2 dv ((((F.kids i).take k).filter (al F P rk)).map (nptr A))) := HS.out.own
            clear ha
            unfold nptr
            go_wp2_with (first | (at_builtin; refine wpList_appG w2 rfl _ _ 64 rfl w.heap.size 66 (.pointer none) 8 Try.underlying64 Try.infoNP rfl (by decide) HOW.out rfl (.pointer (some ⟨A c, 0, none⟩)) rfl rfl _ HLM.out HLE hwz ?_; intro g8 cap8 w8 hown1 hgr1 hr1))
            have HN := Lib.hid (HS.out.push HF.out HC.out HA.out hown1 hgr1 hr1)
            clear hown1 hgr1 hr1 HS HOW
            go_roundw
            case rel => exact ⟨k + 1, HLT.out, by go_num, kv2, HN.out⟩
            case measure => have := HLT.out; simp [intOf]; omega
        · obtain rfl : k = L.length := by omega
          have hkl : (F.kids i).length = L.length := by rw [HLL.out]
          have HKD : Hid (PrW base n A F P rk kv i w kvk wo dv (F.kids i).length (F.kids i).length) := by rw [Hid, hkl]; exact hO
          have HDN := Lib.hid (HKD.out.done HF.out HW.out hi HBS.out)
          have hfr := HKD.out.fr.thaw hi 1
          have hdo := HKD.out.own
          rw [List.take_length] at hdo
          obtain ⟨dq, dc, rfl, _⟩ := hdo.form (n := ((F.kids i).filter (al F P rk)).length) (by simp)
          have HAE : Hid (al F P rk i = decide (0 < ((F.kids i).filter (al F P rk)).length)) := by
            rw [Hid, HAL.out, Bool.eq_iff_iff, List.any_eq_true, decide_eq_true_eq, List.length_pos_iff_exists_mem]
            constructor
            · rintro ⟨x, hx, e⟩; exact ⟨x, List.mem_filter.2 ⟨hx, e⟩⟩
            · rintro ⟨x, hx⟩; exact ⟨x, (List.mem_filter.1 hx).1, (List.mem_filter.1 hx).2⟩
          have hkc := HKD.out.fr.kidv hi
          clear hlt hk hdo hkl hO HK HKD
          generalize ((F.kids i).filter (al F P rk)).length = m at *
          by_cases hm : m = 0
          · have d2 : ((m : Int) == 0) = true := by rw [hm]; rfl
            have HA2 : Hid (al F P rk i = false) := by rw [Hid, HAE.out, hm]; rfl
            clear hm
            go_wp2_with fail
            go_ret
            exact ⟨by rw [HA2.out]; rfl, _, HDN.out⟩
          · have d2 : ((m : Int) == 0) = false := beq_eq_false_iff_ne.2 (by omega)
            have HA2 : Hid (al F P rk i = true) := by rw [Hid, HAE.out]; exact decide_eq_true (by omega)
            clear hm
            go_wp2_with fail
            go_ret
            exact ⟨by rw [HA2.out]; rfl, _, HDN.out⟩
end Go.Proofs.Ytcaialhoclodjaa
namespace Go.Proofs.Ytcaialhoclodjaa
open Go.RowKit Go.Deep
set_option maxRecDepth 100000 in
set_option maxHeartbeats 4000000 in
theorem contracted_t {base n : Nat} {A : Nat → Nat} {kv : Nat → Value} {rk : Nat → Nat} : ∀ (d : Nat) (F : Frs) (i : Nat) (w : World), Wf F n rk → Dis F n rk i → (∀ z, z < n → (F.kids z).length ≤ 1000) → i < n → rk i ≤ d → FAt base n A kv F w →
    Calls Try.prog 67 #[.pointer (some ⟨A i, 0, none⟩)] w (CtPost base n A kv F rk i w) := by
  intro d
  induction d using Nat.strongRecOn with
  | ind d ih =>
    intro F i w hw hD hl hi hd hF
    obtain ⟨mv, hmv⟩ := rkAt_ex hF.inj rk
    have HF := Lib.hid hF
    have HIH := Lib.hid ih
    have HW := Lib.hid hw
    have HD := Lib.hid hD
    have HL := Lib.hid hl
    have HMV := Lib.hid hmv
    clear hw hD hl hF ih hmv
    go_enter Try.func67, Try.ntmps67
    go_wp2_with fail
    go_loop [0] (fun v => ∃ y : Nat, y < n ∧ v = .pointer (some ⟨A y, 0, none⟩) ∧ Hid (rk y ≤ rk i ∧ subF F rk i y = true ∧ cr F rk i = cr F rk y ∧ ∀ z, (F.sub rk (ctQ F rk) y).kids z = (F.sub rk (ctQ F rk) i).kids z)) (fun v => mv v)
    case atStart => exact ⟨i, hi, rfl, Nat.le_refl _, subF_self HW.out hi, rfl, fun _ => rfl⟩
    case round =>
      obtain ⟨y, hy, rfl, hR⟩ := hrel
      have hown := HF.out.own y hy
      obtain ⟨q, cap, hv, hq⟩ := hown.form (n := (F.kids y).length) (by simp)
      have hkc := HF.out.kidv hy
      rw [hv] at hkc
      have HV := Lib.hid hv
      by_cases h1 : (F.kids y).length = 1
      · obtain ⟨k, hk⟩ := List.length_eq_one_iff.1 h1
        have hkk := HW.out.kid y hy k (by rw [hk]; simp)
        obtain ⟨gk, rfl⟩ : ∃ g, q = some ⟨g, 0, none⟩ := by
          rcases hq with rfl | h
          · obtain ⟨_, h | ⟨g, _, _, h, _⟩⟩ := hown
            · have := h.2; rw [List.length_map] at this; omega
            · rw [hv] at h; cases h
          · exact h
        have hrow := HF.out.kcell (i := y) (j := 0) (c := k) hy hv (by rw [hk]; rfl)
        have d1 : (((F.kids y).length : Int) == 1) = true := by rw [h1]; rfl
        have i2 : (0 : Int) < ((F.kids y).length : Int) := by omega
        have HN : Hid (rk k ≤ rk i ∧ subF F rk i k = true ∧ cr F rk i = cr F rk k ∧ ∀ z, (F.sub rk (ctQ F rk) k).kids z = (F.sub rk (ctQ F rk) i).kids z) := by
          obtain ⟨r1, r2, r3, r4⟩ := hR.out
          exact ⟨by omega, sub_trans HW.out hi (Nat.le_refl _) r2 (subF_kid HW.out hy (by rw [hk]; simp) (subF_self HW.out hkk.1)), r3.trans (cr_one HW.out hy hk), fun z => (ct_chain HW.out hy hk z).trans (r4 z)⟩
        have HM : Hid (mv (.pointer (some ⟨A k, 0, none⟩)) < mv (.pointer (some ⟨A y, 0, none⟩))) := by rw [Hid, HMV.out k hkk.1, HMV.out y hy]; exact hkk.2
        have hkn := hkk.1
        clear hown hv hq h1 hk hkk hR HV
        go_wp2_with fail
        go_round
        case rel => exact ⟨k, hkn, rfl, HN⟩
        case measure => exact HM.out
      · have d1 : (((F.kids y).length : Int) == 1) = false := beq_eq_false_iff_ne.2 (by omega)
        have hl1 := HL.out y hy
        have HDY : Hid (Dis F n rk y) := fun z hz hs => HD.out z hz (sub_trans HW.out hi (Nat.le_refl _) hR.out.2.1 hs)
        have HCR : Hid (cr F rk i = y) := hR.out.2.2.1.trans (cr_self HW.out hy h1)
        have HEND : Hid (∀ z, (ctU F rk y (F.kids y).length).kids z = (F.sub rk (ctQ F rk) i).kids z) := fun z => (ctU_all HW.out hy h1 z).trans (hR.out.2.2.2 z)
        have HRK : Hid (rk y ≤ d) := Nat.le_trans hR.out.1 hd
        have HLN : Hid (∀ c ∈ F.kids y, c < n ∧ rk c < rk y) := fun c hc => HW.out.kid y hy c hc
        have HST : Hid (FAt base n A kv (ctU F rk y 0) w) := HF.out.congr2 fun z _ => ⟨rfl, rfl, ctU_zero y z⟩
        clear hR h1
        obtain ⟨L, hLL⟩ : ∃ L, L = F.kids y := ⟨_, rfl⟩
        have HLL := Lib.hid hLL
        rw [← hLL] at hkc d1 hl1 HEND HLN HV hown
        clear hLL hv
        go_wp2_with fail
        go_loopw [3, 4, 22] (fun _ _ x wr => ∃ k : Nat, k ≤ L.length ∧ x = .int .i64 k ∧ Hid (FAt base n A kv (ctU F rk y k) wr ∧ FUp n A kv w wr)) (fun _ _ x _ => L.length - (intOf x).toNat)
        case atStart => exact ⟨0, Nat.zero_le _, rfl, HST.out, FUp.refl _ _ _ _⟩
        case round =>
          obtain ⟨k, hk, rfl, hO⟩ := hrel
          obtain ⟨wo, rfl⟩ : ∃ wo : World, wo = wr := ⟨_, rfl⟩
          by_cases hlt : k < L.length
          · obtain ⟨gk, rfl⟩ : ∃ g, q = some ⟨g, 0, none⟩ := by
              rcases hq with rfl | h
              · obtain ⟨_, h | ⟨g, _, _, h, _⟩⟩ := hown
                · have := h.2; rw [List.length_map] at this; omega
                · rw [HV.out] at h; cases h
              · exact h
            have hcL : L[k]? = some L[k] := List.getElem?_eq_getElem hlt
            have hc : (F.kids y)[k]? = some L[k] := by rw [← HLL.out]; exact hcL
            have hcn := HLN.out L[k] (List.getElem_mem hlt)
            have hrow := hO.out.1.kcell (i := y) (j := k) (c := L[k]) hy HV.out (ctU_at hc)
            have hkx := hO.out.1.kidv hy
            rw [HV.out] at hkx
            have HCALL := Lib.hid (HIH.out (rk L[k]) (by have := HRK.out; omega) (ctU F rk y k) L[k] wo.drew (ctU_wf HW.out hy k) ((Dis.kid HW.out hy (List.mem_of_getElem? hc) HDY.out).cong HW.out (ctU_wf HW.out hy k) hcn.1 (ctU_fresh HW.out hy HDY.out hc)) (ctU_small HL.out hy k) hcn.1 (Nat.le_refl _) (hO.out.1.same (fun _ _ => rfl) (fun _ _ _ _ => rfl)))
            have HCC : Hid (cr (ctU F rk y k) rk L[k] = cr F rk L[k]) := cr_cong HW.out (ctU_wf HW.out hy k) hcn.1 (Nat.le_refl _) (ctU_fresh HW.out hy HDY.out hc)
            have HC := Lib.hid hc
            have HUO := Lib.hid hO.out.2
            have HLT := Lib.hid hlt
            have i1 : (0 : Int) ≤ (k : Int) := by omega
            have i2 : (k : Int) < (L.length : Int) := by omega
            unfold CtPost at HCALL
            rw [HCC.out] at HCALL
            clear hcL hc hcn hO HCC
            generalize L[k] = c at *
            go_wp2_with fail
            refine region_T (by kernel_rfl) 9 (fun w' => w'.cell? ⟨A y, 1, none⟩ = some (.slice (some ⟨gk, 0, none⟩) L.length cap)) hkx (fun hS => ?_)
            simp only [List.size_toArray, List.length_cons, List.length_nil, Nat.reduceAdd, Array.replicate_succ, Array.replicate_zero, List.push_toArray, List.nil_append, List.cons_append]
            refine anyT.take (i := 0) (v := ?gv0k1) rfl (by kernel_rfl) (fun _ _ _ h => h) (by rfl) (fun w hSw => ?gy0k1) hS ?gr0k1
            case gy0k1 =>
              (try dsimp only at hSw)
              go_simp
              try with_reducible rfl
            try simp only [Act.put, List.setIfInBounds_toArray, List.set_cons_zero, List.set_cons_succ]
            refine anyT.take (i := 1) (v := ?gv1k1) rfl (by kernel_rfl) (fun _ _ _ h => h) (by rfl) (fun w hSw => ?gy1k1) hS ?gr1k1
            case gy1k1 =>
              (try dsimp only at hSw)
              go_simp
              try with_reducible rfl
            try simp only [Act.put, List.setIfInBounds_toArray, List.set_cons_zero, List.set_cons_succ]
            refine anyT.take (i := 2) (v := ?gv2k1) rfl (by kernel_rfl) (fun _ _ _ h => h) (by rfl) (fun w hSw => ?gy2k1) hS ?gr2k1
            case gy2k1 =>
              (try dsimp only at hSw)
              go_simp
              try with_reducible rfl
            try simp only [Act.put, List.setIfInBounds_toArray, List.set_cons_zero, List.set_cons_succ]
            refine anyT.take (i := 3) (v := ?gv3k1) rfl (by kernel_rfl) (fun _ _ _ h => h) (by rfl) (fun w hSw => ?gy3k1) hS ?gr3k1
            case gy3k1 =>
              (try dsimp only at hSw)
              go_simp
              try with_reducible rfl
            try simp only [Act.put, List.setIfInBounds_toArray, List.set_cons_zero, List.set_cons_succ]
            refine anyT.take (i := 4) (v := ?gv4k1) rfl (by kernel_rfl) (fun _ _ _ h => h) (by rfl) (fun w hSw => ?gy4k1) hS ?gr4k1
            case gy4k1 =>
              (try dsimp only at hSw)
              go_simp
              try with_reducible rfl
            try simp only [Act.put, List.setIfInBounds_toArray, List.set_cons_zero, List.set_cons_succ]
            refine anyT.take (i := 5) (v := ?gv5k1) rfl (by kernel_rfl) (fun _ _ _ h => h) (by rfl) (fun w hSw => ?gy5k1) hS ?gr5k1
            case gy5k1 =>
              (try dsimp only at hSw)
              go_simp
              try with_reducible rfl
            try simp only [Act.put, List.setIfInBounds_toArray, List.set_cons_zero, List.set_cons_succ]
            refine anyT.step (i := 6) rfl (by kernel_rfl) (fun K' hK => ?_)
            go_simp
            refine HCALL.out.mono ?_
            rintro e w2 ⟨rfl, hF2, hU2⟩
            obtain ⟨hk2, hfz2, ⟨cx, hcx⟩, hF3, hU3⟩ := ct_step HW.out hy HDY.out HC.out HV.out hF2
            have HN : Hid (FAt base n A kv (ctU F rk y (k + 1)) (w2.setCell ⟨gk, k, none⟩ (.pointer (some ⟨A (cr F rk c), 0, none⟩))) ∧ FUp n A kv w (w2.setCell ⟨gk, k, none⟩ (.pointer (some ⟨A (cr F rk c), 0, none⟩)))) := ⟨hF3, HUO.out.trans ((FUp.of_drew hU2).trans hU3)⟩
            clear hF2 hU2 hF3 hU3
            refine hK.out _ _ (fun _ => hk2) (fun hS => ?_)
            try simp only [List.setIfInBounds_toArray, List.set_cons_zero, List.set_cons_succ]
            refine anyT.step (i := 7) rfl (by kernel_rfl) (fun K' hK => ?_)
            go_simp
            refine hK.out _ _ (fun _ => hk2) (fun hS => ?_)
            try simp only [List.setIfInBounds_toArray, List.set_cons_zero, List.set_cons_succ]
            refine anyT.step (i := 8) rfl (by kernel_rfl) (fun K' hK => ?_)
            go_simp
            refine hK.out _ _ (not_more (by kernel_rfl)) (fun hS => ?_)
            refine anyT.done (by kernel_rfl) ?_
            go_wp2_with fail
            go_roundw
            case rel => exact ⟨k + 1, HLT.out, by go_num, HN.out⟩
            case measure => have := HLT.out; simp [intOf]; omega
          · obtain rfl : k = L.length := by omega
            have HFIN : Hid (FAt base n A kv (F.sub rk (ctQ F rk) i) wo) := hO.out.1.congr2 fun z _ => ⟨rfl, rfl, (HEND.out z).symm⟩
            have HUF := Lib.hid hO.out.2
            clear hlt hk hO
            go_wp2_with fail
            go_ret
            exact ⟨by rw [HCR.out]; rfl, HFIN.out, HUF.out⟩
end Go.Proofs.Ytcaialhoclodjaa
namespace Go.Proofs.Ytcaialhoclodjaa
open Go.RowKit Go.Deep
/-- Two lists stored into a box of a tree that lies at base or beyond. -/
theorem store_twoB {base : Nat} {w w4 : World} {B : Nat} {x y p q : Value} {T : TypeId} (hb : w4.heap[B]? = some (Obj.cells #[x, y] T (0, 0))) (hB : base ≤ B) (hu : Below base w w4) :
    Below base w ((w4.setCell ⟨B, 0, none⟩ p).setCell ⟨B, 1, none⟩ q) ∧ ((w4.setCell ⟨B, 0, none⟩ p).setCell ⟨B, 1, none⟩ q).cell? ⟨B, 0, none⟩ = some p ∧ ((w4.setCell ⟨B, 0, none⟩ p).setCell ⟨B, 1, none⟩ q).cell? ⟨B, 1, none⟩ = some q ∧
      ∀ b, b ≠ B → ((w4.setCell ⟨B, 0, none⟩ p).setCell ⟨B, 1, none⟩ q).heap[b]? = w4.heap[b]? := by
  have hset : ∀ b, b ≠ B → ((w4.setCell ⟨B, 0, none⟩ p).setCell ⟨B, 1, none⟩ q).heap[b]? = w4.heap[b]? := fun b hb => by rw [blk_setCell_other _ _ _ _ hb, blk_setCell_other _ _ _ _ hb]
  have hheap : ((w4.setCell ⟨B, 0, none⟩ p).setCell ⟨B, 1, none⟩ q).heap[B]? = some (Obj.cells #[p, q] T (0, 0)) := by
    simp [World.setCell, Array.getElem?_modify, hb]
  exact ⟨⟨hu.os, hu.tape, hu.output, by simp [World.size_setCell]; exact hu.size, fun b hb => (hset b (by omega)).trans (hu.block b hb)⟩, by simp [World.cell?, hheap], by simp [World.cell?, hheap], hset⟩
def MdPost (base : Nat) (w : World) (T : Tre) (e : Ending) (w' : World) : Prop :=
  Below base w w' ∧ w.heap.size ≤ w'.heap.size ∧ ∃ v, e = .returned (.tuple #[v, .int .i64 (if 64 < T.ps.length then 4 else 0)]) ∧ TreeAt (fun b => w.heap.size ≤ b) w' v (if 64 < T.ps.length then ⟨[], []⟩ else T)
theorem FUp.far {n base : Nat} {A : Nat → Nat} {kv : Nat → Value} {F : Frs} {w a b : World} (h : FUp n A kv a b) (hF : FAt base n A kv F w) {B : Nat} (hB : w.heap.size ≤ B) (hl : B < a.heap.size) : b.heap[B]? = a.heap[B]? :=
  h.block B hl (fun i hi e => by have := hF.lt hi; omega) (fun i hi e => by have := (hF.ownlt hi e).2; omega)
set_option maxRecDepth 100000 in
set_option maxHeartbeats 4000000 in
theorem made_t {base n : Nat} {A : Nat → Nat} {kv : Nat → Value} {rk : Nat → Nat} {F : Frs} {i : Nat} {w : World} (hw : Wf F n rk) (hD : Dis F n rk i) (hl : ∀ z, z < n → (F.kids z).length ≤ 1000) (hout : ∀ z, z < n → subF F rk i z = false → (F.kids z).length ≤ 1)
    (hi : i < n) (hg : GoodR (toRF F rk i)) (hsz : sizeR (contrR (toRF F rk i)) ≤ 100000) (hbs : base ≤ w.heap.size) (hF : FAt base n A kv F w) :
    Calls Try.prog 42 #[.pointer (some ⟨A i, 0, none⟩)] w (MdPost base w (flat (sortR (contrR (toRF F rk i))))) := by
  have hu := Up.alloc w (.cells #[.slice none 0 0, .slice none 0 0] 25)
  have hrb := box_at (w := w) (P := .slice none 0 0) (N := .slice none 0 0) (T := 25)
  have hsz1 : (w.alloc (.cells #[.slice none 0 0, .slice none 0 0] 25)).heap.size = w.heap.size + 1 := World.size_alloc _ _
  have HF := Lib.hid hF
  have HF1 := Lib.hid (hF.up hu)
  have HCT := Lib.hid (contracted_t (rk i) F i _ hw hD hl hi (Nat.le_refl _) (hF.up hu))
  have HR := Lib.hid (cr_ok hw hi (Nat.le_refl _))
  have HSO := Lib.hid (ct_sortable hw hi hg hl hout)
  have HRO : Hid (toRF (F.sub rk (ctQ F rk) i) rk (cr F rk i) = contrR (toRF F rk i)) := ct_rose hw hi (rk i) i (Nat.le_refl _) hi (subF_self hw hi)
  have HGR := Lib.hid (good_contr hg)
  have HSZ := Lib.hid hsz1
  have HRB := Lib.hid hrb
  have HBU : Hid (Below base w (w.alloc (.cells #[.slice none 0 0, .slice none 0 0] 25))) := Below.mono hu hbs
  have HBS := Lib.hid hbs
  have HSC := Lib.hid hsz
  clear hw hD hl hout hg hF hu hrb hsz1 hbs hsz
  unfold CtPost at HCT
  generalize contrR (toRF F rk i) = R at *
  generalize F.sub rk (ctQ F rk) i = F2 at *
  generalize cr F rk i = r at *
  go_enter Try.func42, Try.ntmps42
  go_wp2_with fail
  generalize w.alloc (.cells #[.slice none 0 0, .slice none 0 0] 25) = w1 at *
  refine HCT.out.mono ?_
  rintro e w2 ⟨rfl, hF2, hU2⟩
  obtain ⟨hr, _, _, _⟩ := HR.out
  have hF0 : FAt base n A kv (F2.srt rk fun _ => false) w2 := hF2.congr fun j _ => ⟨rfl, rfl, rfl⟩
  have HST := Lib.hid (sorted_t HSO.out (rk r) r (fun _ => false) w2 hr (Nat.le_refl _) hF0)
  have HRB2 := Lib.hid ((hU2.far HF.out (Nat.le_refl _) (by rw [HSZ.out]; omega)).trans HRB.out)
  have hs1 : base ≤ w1.heap.size := by have := HBS.out; rw [HSZ.out]; omega
  have HB2 := Lib.hid (HBU.out.trans (hU2.below HF1.out hs1))
  have HZ2 : Hid (w.heap.size + 1 ≤ w2.heap.size) := by have := hU2.size; rw [HSZ.out] at this; exact this
  have HF0 := Lib.hid hF0
  clear hF2 hU2 HCT hF0 HBU HRB
  go_wp2_with fail
  refine HST.out.mono ?_
  rintro e w3 ⟨rfl, hF3, hU3⟩
  have HRB3 := Lib.hid ((hU3.far HF.out (Nat.le_refl _) (by have := HZ2.out; omega)).trans HRB2.out)
  have HB3 := Lib.hid (HB2.out.trans (hU3.below HF0.out (by have := HBS.out; have := HZ2.out; omega)))
  have HZ3 : Hid (w.heap.size + 1 ≤ w3.heap.size) := Nat.le_trans HZ2.out hU3.size
  have hst := srt_tree HSO.out.wf hr (by rw [HRO.out]; exact HGR.out) (p := fun j => false || subF F2 rk r j) (fun j hj => by simpa using hj)
  rw [HRO.out] at hst
  have HTR := Lib.hid (tree_t (HSO.out.wf.srt fun j => false || subF F2 rk r j) (fun z hz => by
    rw [(F2.srt_perm rk (fun j => false || subF F2 rk r j) z).length_eq]; exact HSO.out.len z hz) w3 r hr hF3 (by rw [hst.2]; exact HSC.out))
  rw [hst.1] at HTR
  clear hF3 hU3 HST HF0 HRB2 HB2 HZ2 hst
  generalize flat (sortR R) = T at *
  go_wp2_with fail
  refine HTR.out.mono ?_
  rintro e w4 ⟨hu4, _, rfl, P4, N4, rfl, hP4, hN4⟩
  obtain ⟨pp, pc, rfl, _, _⟩ := SlAt.open hP4
  obtain ⟨np, nc, rfl, _, _⟩ := SlAt.open hN4
  have hu5 := Up.alloc w4 (.cells #[.slice pp T.ps.length pc, .slice np T.ns.length nc] 25)
  have HRB5 := Lib.hid (((Below.block (Below.trans hu4 (Below.mono hu5 hu4.size)) w.heap.size (by have := HZ3.out; omega)).trans HRB3.out))
  have HB5 := Lib.hid (HB3.out.trans (Below.mono (Below.trans hu4 (Below.mono hu5 hu4.size)) (by have := HBS.out; have := HZ3.out; omega)))
  have HP5 := Lib.hid (IntsAt.keep hP4 (hu5.kept _))
  have HN5 := Lib.hid (StrsAt.keep hN4 (hu5.kept _))
  have HZ5 : Hid (w.heap.size + 1 ≤ (w4.alloc (.cells #[.slice pp T.ps.length pc, .slice np T.ns.length nc] 25)).heap.size) := by have := hu5.size; have := hu4.size; have := HZ3.out; unfold Hid; omega
  have hc0 := box2_0 w4 (.slice pp T.ps.length pc) (.slice np T.ns.length nc) 25
  have hc1 := box2_1 w4 (.slice pp T.ps.length pc) (.slice np T.ns.length nc) 25
  obtain ⟨q0, q1, q2, q3⟩ : (w4.alloc (.cells #[.slice pp T.ps.length pc, .slice np T.ns.length nc] 25)).cell? ⟨w.heap.size, 0, none⟩ = some (.slice none 0 0) ∧ (w4.alloc (.cells #[.slice pp T.ps.length pc, .slice np T.ns.length nc] 25)).cell? ⟨w.heap.size, 1, none⟩ = some (.slice none 0 0) ∧ (w4.alloc (.cells #[.slice pp T.ps.length pc, .slice np T.ns.length nc] 25)).frozen? ⟨w.heap.size, 0, none⟩ = false ∧ (w4.alloc (.cells #[.slice pp T.ps.length pc, .slice np T.ns.length nc] 25)).frozen? ⟨w.heap.size, 1, none⟩ = false := by
    refine ⟨?_, ?_, ?_, ?_⟩ <;> simp only [World.cell?, World.frozen?, HRB5.out] <;> rfl
  clear hu4 hu5 hP4 hN4 HTR HRB3 HB3
  by_cases h64 : 64 < T.ps.length
  · have d1 : decide ((64 : Int) < (T.ps.length : Int)) = true := decide_eq_true (by omega)
    have HST := Lib.hid (store_twoB (p := .slice none 0 0) (q := .slice none 0 0) HRB5.out HBS.out HB5.out)
    have H64 := Lib.hid h64
    clear h64
    go_wp2_with fail
    obtain ⟨r1, r2, r3, r4⟩ := HST.out
    refine ⟨rfl, .tuple #[.agg #[.slice none 0 0, .slice none 0 0], .int .i64 4], by simp [results, Try.results42, go_sem, r2, r3], r1, ?_, .agg #[.slice none 0 0, .slice none 0 0], by rw [if_pos H64.out], by rw [if_pos H64.out]; exact ⟨_, _, rfl, ⟨none, 0, rfl, Nat.le_refl _, .inl rfl⟩, ⟨none, 0, rfl, Nat.le_refl _, .inl rfl⟩⟩⟩
    rw [World.size_setCell, World.size_setCell]; have := HZ5.out; omega
  · have d1 : decide ((64 : Int) < (T.ps.length : Int)) = false := decide_eq_false (by omega)
    have HST := Lib.hid (store_twoB (p := .slice pp T.ps.length pc) (q := .slice np T.ns.length nc) HRB5.out HBS.out HB5.out)
    have H64 := Lib.hid h64
    clear h64
    go_wp2_with fail
    obtain ⟨r1, r2, r3, r4⟩ := HST.out
    refine ⟨rfl, .tuple #[.agg #[.slice pp T.ps.length pc, .slice np T.ns.length nc], .int .i64 0], by simp [results, Try.results42, go_sem, r2, r3], r1, ?_, .agg #[.slice pp T.ps.length pc, .slice np T.ns.length nc], by rw [if_neg H64.out], ?_⟩
    · rw [World.size_setCell, World.size_setCell]; have := HZ5.out; omega
    · rw [if_neg H64.out]
      have hz := HZ3.out
      exact ⟨_, _, rfl, (IntsAt.keep HP5.out fun b hb _ => r4 b (by omega)).sub fun b hb _ => by omega, (StrsAt.keep HN5.out fun b hb _ => r4 b (by omega)).sub fun b hb _ => by omega⟩
end Go.Proofs.Ytcaialhoclodjaa
namespace Go.Proofs.Ytcaialhoclodjaa
open Go.RowKit Go.Deep
end Go.Proofs.Ytcaialhoclodjaa
namespace Go.Proofs.Ytcaialhoclodjaa
section
variable {t : Tre}
end
/-- A part of the contracted tree for each part. -/
theorem contr_sub : ∀ (d : Nat) (r u : RT), sizeR r ≤ d → u ∈ subR r → contrR u ∈ subR (contrR r)
  | 0, r, _, hd, _ => by have := sizeR_pos r; omega
  | d + 1, .node nm ks, u, hd, h => by
    rw [subR, List.mem_cons] at h
    rcases h with rfl | h
    · exact subR_self _
    · obtain ⟨k, hk, hs⟩ := mem_subRs_ex h
      have ih := contr_sub d k u (by have := size_kid (nm := nm) hk; omega) hs
      by_cases h1 : ks.length = 1
      · obtain ⟨q, rfl⟩ := List.length_eq_one_iff.1 h1
        have : k = q := by simpa using hk
        subst this
        rw [contr_one]; exact ih
      · rw [contr_many h1]
        exact subR_trans _ (mem_kid (List.mem_map.2 ⟨k, hk, rfl⟩)) ih
section
variable {t : Tre}
end
end Go.Proofs.Ytcaialhoclodjaa
namespace Go.Proofs.Ytcaialhoclodjaa
open Go.RowKit Go.Deep
end Go.Proofs.Ytcaialhoclodjaa
namespace Go.Proofs.Ytcaialhoclodjaa
open Go.RowKit Go.Deep
set_option maxRecDepth 100000 in
set_option maxHeartbeats 1000000 in
/-- 'k.old == from'. -/
theorem from_t (W : World) (aj bx : Nat) (x f : Int) (hb : W.cell? ⟨bx, 0, none⟩ = some (.int .i64 f)) (ho : W.cell? ⟨aj, 2, none⟩ = some (.int .i64 x)) :
    Calls Try.prog 41 (#[.pointer (some ⟨aj, 0, none⟩)] ++ #[.pointer (some ⟨bx, 0, none⟩)]) W fun e W' => e = .returned (.bool (decide (x = f))) ∧ ∃ m, W' = W.drewN m := by
  have d1 : (x == f) = decide (x = f) := by rw [Bool.eq_iff_iff, beq_iff_eq, decide_eq_true_eq]
  have D1 := Lib.hid d1
  clear d1
  go_enter Try.func41, Try.ntmps41
  go_wp2_with fail
  go_big_quiet (fail)
  go_wp2_with fail
  go_ret
  exact ⟨by rw [← D1.out]; rfl, _, rfl⟩
set_option maxRecDepth 100000 in
set_option maxHeartbeats 1000000 in
/-- 'x.name != ""'. -/
theorem named_leaf_t (W : World) (aj : Nat) (s : ByteArray) (ho : W.cell? ⟨aj, 0, none⟩ = some (.string s)) :
    Calls Try.prog 44 (#[.pointer (some ⟨aj, 0, none⟩)] ++ #[]) W fun e W' => e = .returned (.bool (decide (s.size ≠ 0))) ∧ Up W W' := by
  by_cases h : s.size = 0
  · have e3 : (s.toList == []) = true := by rw [(toList_nil _).2 h]; rfl
    have HD : Hid (decide (s.size ≠ 0) = false) := by rw [Hid, h]; rfl
    clear h
    go_enter Try.func44, Try.ntmps44
    go_wp2_with fail
    go_ret
    exact ⟨by rw [HD.out]; rfl, Up.refl _⟩
  · have e3 : (s.toList == []) = false := by
      rw [beq_eq_false_iff_ne]; exact fun q => h ((toList_nil _).1 q)
    have HD : Hid (decide (s.size ≠ 0) = true) := decide_eq_true h
    clear h
    go_enter Try.func44, Try.ntmps44
    go_wp2_with fail
    go_ret
    exact ⟨by rw [HD.out]; rfl, Up.refl _⟩
end Go.Proofs.Ytcaialhoclodjaa
