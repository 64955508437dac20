/- The contract of layer 31's reference's read. -/
import Derived.Test.YtpjijbophjdgaaaGreatQ33
import Derived.Test.YtpjijbophjdgaaaGreatQ36
import Derived.Test.YtpjijbophjdgaaaGreatQ26
import Derived.Test.YtpjijbophjdgaaaGreatQ7
namespace Go.Proofs.YtpjijbophjdgaaaGreat
open Go.RowKit Go.Deep
structure RInv (w1 : World) (base B : Nat) (wr : World) (kv : Value) (rs : List RT) : Prop where
  wip : Wip base B wr ByteArray.empty kv rs
  up : Up w1 wr
  lo : w1.heap.size ≤ B
theorem RInv.push {w1 : World} {base B : Nat} {wr w2 : World} {kv : Value} {rs : List RT} (h : RInv w1 base B wr kv rs) {r : RT} {u : Value} (hu : Up wr w2) (hr : RAt (fun b => wr.heap.size ≤ b) w2 r u) :
    ∃ vs : List Value, vs.length = rs.length ∧ Owns (B + 1) 120 w2 kv vs ∧ B + 1 ≤ w2.heap.size ∧
      (∀ W, w2.grownBy W kv.ownBlock → W.cell? ⟨B, 1, none⟩ = some kv ∧ W.frozen? ⟨B, 1, none⟩ = false) ∧
      ∀ g c W, Owns (B + 1) 120 W (.slice (some ⟨g, 0, none⟩) (vs.length + 1) c) (vs ++ [u]) → w2.grownBy W kv.ownBlock → (kv.ownBlock = some g ∨ w2.heap.size ≤ g) →
        RInv w1 base B (W.setCell ⟨B, 1, none⟩ (.slice (some ⟨g, 0, none⟩) (vs.length + 1) c)) (.slice (some ⟨g, 0, none⟩) (vs.length + 1) c) (rs ++ [r]) := by
  have hW := h.wip.up hu
  have hBl := h.wip.lt
  have hsz := hu.size
  obtain ⟨vs, ho, hv⟩ := hW.kids
  obtain ⟨vs0, ho0, _⟩ := h.wip.kids
  have hkb : ∀ b, kv.ownBlock = some b → b < wr.heap.size ∧ B < b := fun b hb => ⟨(ownBlock_lt ho0 hb).2, by have := (ownBlock_lt ho0 hb).1; omega⟩
  refine ⟨vs, RsAt.len rs hv, ho, by omega, fun W hg => ?_, fun g c W hown hg hor => ?_⟩
  · have hc := hW.cells
    have hBo : some B ≠ kv.ownBlock := fun e => by have := (hkb B e.symm).2; omega
    refine ⟨?_, ?_⟩
    · rw [hg.cell_far (a := ⟨B, 1, none⟩) (by show B < _; omega) hBo]; exact hc.2.1
    · rw [hg.frozen_far (a := ⟨B, 1, none⟩) (by show B < _; omega) hBo]; exact hc.2.2.2
  · have hor2 : ∀ b, (Value.slice (some ⟨g, 0, none⟩) (vs.length + 1) c).ownBlock = some b → kv.ownBlock = some b ∨ w2.heap.size ≤ b := fun b hb => by
      injection hb with hb
      have hb : g = b := hb
      subst hb
      exact hor
    have hlo := h.lo
    have hw := h.wip.lo
    refine ⟨hW.push hr (by omega) hBl (fun b hb => (hkb b hb).1) hv hown hg hor2, ?_, h.lo⟩
    have h1 := h.up.trans hu
    refine ⟨hg.os.trans h1.os, hg.tape.trans h1.tape, hg.output.trans h1.output, ?_, fun b hb => ?_⟩
    · have := h1.size; have := hg.size; simp only [World.size_setCell]; omega
    · rw [blk_setCell_other _ _ _ _ (by omega : b ≠ B), hg.block b (Nat.lt_of_lt_of_le hb h1.size) (fun e => by have := (hkb b e.symm).2; omega)]
      exact h1.block b hb
theorem RInv.done {w1 : World} {base B : Nat} {wr : World} {kv : Value} {rs : List RT} (h : RInv w1 base B wr kv rs) : RAt (fun b => base ≤ b) wr (.node ByteArray.empty rs) (.pointer (some ⟨B, 0, none⟩)) := h.wip.done
def RdPost (w : World) (s : ByteArray) (e : Ending) (w' : World) : Prop :=
  Up w w' ∧ match rdn s.data.toList with
    | none => e = .returned (.tuple #[.pointer none, .string ⟨#[]⟩])
    | some (r, l) => ∃ v, e = .returned (.tuple #[v, .string (bL l)]) ∧ RAt (fun b => w.heap.size ≤ b) w' r v
theorem rd_post_none {w w' : World} {s : ByteArray} {e : Ending} (h : rdn s.data.toList = none) (hu : Up w w') (he : e = .returned (.tuple #[.pointer none, .string ⟨#[]⟩])) : RdPost w s e w' := by
  refine ⟨hu, ?_⟩
  rw [h]; exact he
theorem rd_post_some {w w' : World} {s : ByteArray} {e : Ending} {r : RT} {l : List UInt8} {v : Value} (h : rdn s.data.toList = some (r, l)) (hu : Up w w') (he : e = .returned (.tuple #[v, .string (bL l)])) (hr : RAt (fun b => w.heap.size ≤ b) w' r v) : RdPost w s e w' := by
  refine ⟨hu, ?_⟩
  rw [h]; exact ⟨v, he, hr⟩
theorem ext_list (s : ByteArray) (k : Nat) : (s.extract k s.size).data.toList = s.data.toList.drop k := by
  rw [ByteArray.data_extract]
  simp
  exact List.take_of_length_le (by simp)
theorem ext_take (s : ByteArray) (k : Nat) : (s.extract 0 k).data.toList = s.data.toList.take k := by
  rw [ByteArray.data_extract]
  simp
theorem leaf_at (w : World) (nm : ByteArray) : RAt (fun b => w.heap.size ≤ b) (w.alloc (.cells #[.string nm, .slice none 0 0] 123)).drew (.node nm []) (.pointer (some ⟨w.heap.size, 0, none⟩)) :=
  RAt.keep ((Up.drewN _ 1).kept _) _ (Wip.start w (Nat.le_refl _) nm).done
def lenOf : Value → Nat
  | .string u => u.size
  | _ => 0
theorem ch_no {c d : UInt8} {z : Int} (h : c ≠ d) (hz : z = d.toNat) : ¬ (c.toNat : Int) = z := fun e => h (UInt8.toNat_inj.1 (by omega))
theorem ch_yes {c d : UInt8} {z : Int} (h : c = d) (hz : z = d.toNat) : (c.toNat : Int) = z := by rw [h, hz]
theorem nmLen_at {s : List UInt8} {k : Nat} (h1 : k ≤ s.length) (h2 : ∀ j, (hj : j < k) → s[j] ∉ sp4) (h3 : k = s.length ∨ ∃ h : k < s.length, s[k] ∈ sp4) : nmLen s = k := by
  induction s generalizing k with
  | nil => simp at h1; rw [h1]; rfl
  | cons c s ih =>
    rw [nmLen]
    cases k with
    | zero =>
      rcases h3 with h3 | ⟨h, h3⟩
      · simp at h3
      · rw [if_pos (by simpa using h3)]
    | succ k =>
      rw [if_neg (by simpa using h2 0 (by omega))]
      congr 1
      refine ih (by simpa using h1) (fun j hj => by simpa using h2 (j + 1) (by omega)) ?_
      rcases h3 with h3 | ⟨h, h3⟩
      · exact .inl (by simpa using h3)
      · exact .inr ⟨by simpa using h, by simpa using h3⟩
theorem sp4_no {c : UInt8} : c ∉ sp4 ↔ c ≠ 40 ∧ c ≠ 41 ∧ c ≠ 44 ∧ c ≠ 59 := by simp [sp4]
set_option maxRecDepth 100000 in
set_option maxHeartbeats 4000000 in
theorem read31R_t : ∀ (n : Nat) (s : ByteArray), s.size = n → n ≤ 1000 → ∀ (w : World) (dp : Nat), dp + n ≤ 60000 → Calls Tryz.prog 115 #[.string s, .int .i64 dp] w (RdPost w s) := by
  intro n
  induction n using Nat.strongRecOn with
  | ind n ih =>
  intro s hs hn w dp hdp
  have hnil := toList_nil s
  by_cases h0 : s.size = 0
  · have hl : s.data.toList = [] := List.eq_nil_of_length_eq_zero (by rw [size_data]; exact h0)
    have e1 : s.toList = [] := hnil.2 h0
    have HN : Hid (rdn s.data.toList = none) := by unfold Hid; rw [hl]; rfl
    clear hl hnil ih hs hdp h0
    go_enter Tryz.func115, Tryz.ntmps115
    go_wp2_with fail
    exact ⟨rfl, .tuple #[.pointer none, .string ⟨#[]⟩], by simp [results, Tryz.results115, go_sem], rd_post_none HN.out (Up.refl _) rfl⟩
  · have hpos : 0 < s.size := by omega
    have e1 : (s.toList == []) = false := by
      rw [Bool.eq_false_iff]; intro e; exact h0 (hnil.1 (by simpa using e))
    have d1 : decide ((65536 : Int) < (dp : Int)) = false := decide_eq_false (by omega)
    have HSL : Hid (s.data.toList = s[0] :: s.data.toList.drop 1) := by
      unfold Hid
      have : 0 < s.data.toList.length := by rw [size_data]; exact hpos
      exact List.drop_eq_getElem_cons this
    have HS := Lib.hid (And.intro hs (And.intro hn hdp))
    clear hnil h0 hs hn hdp
    by_cases hc : s[0] = 40
    · have t40 : (s[0].toNat : Int) = 40 := ch_yes hc rfl
      have HC0 := Lib.hid hc
      clear hc
      go_enter Tryz.func115, Tryz.ntmps115
      go_wp2_with fail
      clear d1
      have HST : Hid (RInv w w.heap.size w.heap.size (w.alloc (.cells #[.string ⟨#[]⟩, .slice none 0 0] 123)) (.slice none 0 0) []) := ⟨Wip.start w (Nat.le_refl _) _, Up.alloc w _, Nat.le_refl _⟩
      have HR0 : Hid (rdk [] (s.data.toList.drop 1) = rdn s.data.toList) := by
        unfold Hid
        rw [← rdn_open]
        congr 1
        have := HSL.out
        rw [HC0.out] at this
        exact this.symm
      clear t40 e1
      generalize hw1 : w.alloc (.cells #[.string ⟨#[]⟩, .slice none 0 0] 123) = w1 at *
      clear hw1
      go_loopw [0, 8, 9] (fun sv _ _ wr => ∃ (u : ByteArray) (ks : List RT) (kv : Value), sv = .string u ∧ 0 < u.size ∧ Hid (ks.length + u.size ≤ n ∧ rdk ks (u.data.toList.drop 1) = rdn s.data.toList) ∧ Hid (RInv w w.heap.size w.heap.size wr kv ks)) (fun sv _ _ _ => lenOf sv)
      case atStart => exact ⟨s, [], _, rfl, hpos, ⟨by have := HS.out; rw [List.length_nil]; omega, HR0.out⟩, HST.out⟩
      case round =>
        obtain ⟨u, ks, kv, rfl, hu0, hu1, hI⟩ := hrel
        obtain ⟨wo, rfl⟩ : ∃ wo : World, wo = wr := ⟨_, rfl⟩
        have HU1 := Lib.hid hu1.out
        have HI := Lib.hid hI.out
        have HCALL := Lib.hid (ih (u.size - 1) (by have := HU1.out.1; omega) (u.extract 1 u.size) (by rw [ByteArray.size_extract]; omega) (by have := HS.out; have := HU1.out.1; omega) wo (dp + 1) (by have := HS.out; have := HU1.out.1; omega))
        have i1 : (1 : Int) ≤ (u.size : Int) := by omega
        clear hu1 hI HST HR0
        have hdp : wrap64 ((dp : Int) + 1) = ((dp + 1 : Nat) : Int) := by
          have := HS.out
          have hk := (show ((dp : Int) + 1) = ((dp + 1 : Nat) : Int) by omega)
          rw [hk]
          unfold wrap64
          omega
        have HDP := Lib.hid hdp
        have hcB := HI.out.wip.cells
        have HPU := Lib.hid (fun (w2 : World) (r : RT) (v : Value) (h1 : Up wo w2) (h2 : RAt (fun b => wo.heap.size ≤ b) w2 r v) => HI.out.push h1 h2)
        clear hdp hcB
        go_wp2_with fail
        rw [HDP.out]
        refine HCALL.out.mono ?_
        rintro e w2 ⟨hu2, hm⟩
        rw [ext_list u 1] at hm
        have hK := rdk_eq ks (u.data.toList.drop 1)
        have HU2 := Lib.hid (HI.out.up.trans hu2)
        clear HCALL ih
        cases hr : rdn (u.data.toList.drop 1) with
        | none =>
          rw [hr] at hm hK
          have HN : Hid (rdn s.data.toList = none) := by unfold Hid; rw [← HU1.out.2, hK]
          subst hm
          clear hK hr hu2 HPU
          go_wp2_with fail
          exact ⟨rfl, .tuple #[.pointer none, .string ⟨#[]⟩], by simp [results, Tryz.results115, go_sem], rd_post_none HN.out HU2.out rfl⟩
        | some q =>
          obtain ⟨r, l⟩ := q
          rw [hr] at hm hK
          obtain ⟨v2, rfl, hr2⟩ := hm
          obtain ⟨b2, rfl⟩ := rat_ptr hr2
          have hlen := rdN_len _ _ _ _ hr
          cases l with
          | nil =>
            have HN : Hid (rdn s.data.toList = none) := by unfold Hid; rw [← HU1.out.2, hK]
            have hb : (bL ([] : List UInt8)).toList = [] := (toList_nil _).2 rfl
            clear hK hr hu2 hr2 hlen HPU
            generalize bL ([] : List UInt8) = ub at *
            go_wp2_with fail
            exact ⟨rfl, .tuple #[.pointer none, .string ⟨#[]⟩], by simp [results, Tryz.results115, go_sem], rd_post_none HN.out HU2.out rfl⟩
          | cons c l2 =>
            rw [List.length_cons, List.length_drop, size_data] at hlen
            obtain ⟨vs, hvl, ho, hsz, hcW, hpush⟩ := HPU.out w2 r _ hu2 hr2
            obtain ⟨u2, hu2e⟩ : ∃ u2, u2 = bL (c :: l2) := ⟨_, rfl⟩
            have hz2 : u2.size = l2.length + 1 := by rw [hu2e, bL_size]; rfl
            have hp2 : 0 < u2.size := by omega
            have hc0 : u2[0] = c := by subst hu2e; rfl
            have hbn : (u2.toList == []) = false := by
              rw [Bool.eq_false_iff]; intro e; have := (toList_nil u2).1 (by simpa using e); omega
            have HEX : Hid (bL l2 = u2.extract 1 u2.size) := ba_ext (by rw [ext_list, hu2e]; rfl)
            have HDR : Hid (u2.data.toList.drop 1 = l2) := by unfold Hid; rw [hu2e]; rfl
            have HZ : Hid ((ks ++ [r]).length + u2.size ≤ n ∧ u2.size < u.size) := by
              unfold Hid; rw [List.length_append, List.length_singleton]; have := HU1.out.1; omega
            have hcells := (HI.out.wip.up hu2).cells
            obtain ⟨k0, k1, k2, k3⟩ := hcells
            have hvb : vs.length ≤ 1000000 := by have := HU1.out.1; have := HS.out; omega
            have HHO := Lib.hid ho
            have HHS := Lib.hid hsz
            have HCW := Lib.hid hcW
            have HPS := Lib.hid hpush
            have HVB := Lib.hid hvb
            have i2 : (1 : Int) ≤ (u2.size : Int) := by omega
            rw [← hu2e]
            have hK : rdk ks (u.data.toList.drop 1) = if c = 41 then some (.node ByteArray.empty (ks ++ [r]), l2) else if c = 44 then rdk (ks ++ [r]) l2 else none := hK
            have HK := Lib.hid hK
            clear hK hr hu2 hr2 hlen HPU hvl ho hsz hcW hpush hu2e hz2 hvb k0 k2
            by_cases q41 : c = 41
            · have t41 : (u2[0].toNat : Int) = 41 := ch_yes (by rw [hc0, q41]) rfl
              have HN : Hid (rdn s.data.toList = some (.node ByteArray.empty (ks ++ [r]), l2)) := by unfold Hid; rw [← HU1.out.2, HK.out, if_pos q41]
              clear q41 hc0
              go_wp2_with (at_builtin; refine wpList_appG w2 rfl _ _ 121 rfl (w.heap.size + 1) 120 (.pointer none) 8 Tryz.underlying121 Tryz.infoRN rfl (by decide) HHO.out rfl (.pointer (some ⟨b2, 0, none⟩)) rfl rfl vs.length rfl HVB.out HHS.out ?_; intro g cap W hown hg hor; obtain ⟨hcB, hfB⟩ := HCW.out W hg; have hN := Lib.hid (HPS.out g cap W hown hg hor); clear hown hg hor)
              go_region
              go_wp2_with fail
              exact ⟨rfl, .tuple #[.pointer (some ⟨w.heap.size, 0, none⟩), .string (u2.extract 1 u2.size)], by simp [results, Tryz.results115, go_sem], rd_post_some HN.out (hN.out.up.trans (Up.drewN _ 1)) (by rw [HEX.out]) (RAt.keep ((Up.drewN _ 1).kept _) _ hN.out.done)⟩
            · by_cases q44 : c = 44
              · have t44 : (u2[0].toNat : Int) = 44 := ch_yes (by rw [hc0, q44]) rfl
                have HN : Hid (rdk (ks ++ [r]) (u2.data.toList.drop 1) = rdn s.data.toList) := by unfold Hid; rw [← HU1.out.2, HK.out, if_neg q41, if_pos q44, HDR.out]
                clear q41 q44 hc0
                go_wp2_with (at_builtin; refine wpList_appG w2 rfl _ _ 121 rfl (w.heap.size + 1) 120 (.pointer none) 8 Tryz.underlying121 Tryz.infoRN rfl (by decide) HHO.out rfl (.pointer (some ⟨b2, 0, none⟩)) rfl rfl vs.length rfl HVB.out HHS.out ?_; intro g cap W hown hg hor; obtain ⟨hcB, hfB⟩ := HCW.out W hg; have hN := Lib.hid (HPS.out g cap W hown hg hor); clear hown hg hor)
                go_roundw
                case rel => exact ⟨u2, ks ++ [r], _, rfl, hp2, ⟨HZ.out.1, HN.out⟩, hN.out⟩
                case measure => have := HZ.out.2; simp [lenOf]; omega
              · have t41 : ¬ (u2[0].toNat : Int) = 41 := ch_no (by rw [hc0]; exact q41) rfl
                have t44 : ¬ (u2[0].toNat : Int) = 44 := ch_no (by rw [hc0]; exact q44) rfl
                have HN : Hid (rdn s.data.toList = none) := by unfold Hid; rw [← HU1.out.2, HK.out, if_neg q41, if_neg q44]
                clear q41 q44 hc0
                go_wp2_with (at_builtin; refine wpList_appG w2 rfl _ _ 121 rfl (w.heap.size + 1) 120 (.pointer none) 8 Tryz.underlying121 Tryz.infoRN rfl (by decide) HHO.out rfl (.pointer (some ⟨b2, 0, none⟩)) rfl rfl vs.length rfl HVB.out HHS.out ?_; intro g cap W hown hg hor; obtain ⟨hcB, hfB⟩ := HCW.out W hg; have hN := Lib.hid (HPS.out g cap W hown hg hor); clear hown hg hor)
                exact ⟨rfl, .tuple #[.pointer none, .string ⟨#[]⟩], by simp [results, Tryz.results115, go_sem], rd_post_none HN.out hN.out.up rfl⟩
    · have t40 : ¬ (s[0].toNat : Int) = 40 := ch_no hc rfl
      have HC0 := Lib.hid hc
      clear hc ih
      go_enter Tryz.func115, Tryz.ntmps115
      go_wp2_with fail
      clear t40 d1
      go_loop [6] (fun i => ∃ k : Nat, k ≤ s.size ∧ i = .int .i64 k ∧ Hid (∀ j, (hj : j < k) → ∀ hl : j < s.data.toList.length, s.data.toList[j] ∉ sp4)) (fun i => s.size - (intOf i).toNat)
      case atStart => exact ⟨0, Nat.zero_le _, rfl, fun j hj => by omega⟩
      case round =>
        obtain ⟨k, hk, rfl, hno⟩ := hrel
        by_cases hlt : k < s.size
        · have HNO := Lib.hid hno.out
          have HLT := Lib.hid hlt
          have i1 : (0 : Int) ≤ (k : Int) := by omega
          have i2 : (k : Int) < (s.size : Int) := by omega
          have hkl := hk
          clear hno hk
          by_cases q40 : s[k] = 40
          · have t40 : (s[k].toNat : Int) = 40 := ch_yes q40 rfl
            have HEND : Hid (k = s.data.toList.length ∨ ∃ h : k < s.data.toList.length, s.data.toList[k] ∈ sp4) := .inr ⟨by rw [size_data]; exact hlt, by show s[k] ∈ sp4; rw [q40]; decide⟩
            clear q40
            have HNL : Hid (nmLen s.data.toList = k) := nmLen_at (by rw [size_data]; omega) (fun j hj => HNO.out j hj (by rw [size_data]; omega)) HEND.out
            clear HNO HEND
            by_cases k0 : k = 0
            · have HN : Hid (rdn s.data.toList = none) := by unfold Hid; rw [HSL.out, rdn_name _ HC0.out, ← HSL.out, HNL.out, if_pos k0]
              have k1 : ((k : Int) == 0) = true := beq_iff_eq.2 (by omega)
              clear k0
              go_wp2_with fail
              exact ⟨rfl, .tuple #[.pointer none, .string ⟨#[]⟩], by simp [results, Tryz.results115, go_sem], rd_post_none HN.out (Up.refl _) rfl⟩
            · have HN : Hid (rdn s.data.toList = some (.node (s.extract 0 k) [], s.data.toList.drop k)) := by
                unfold Hid
                have e : (⟨(s.data.toList.take k).toArray⟩ : ByteArray) = s.extract 0 k := ba_ext (by rw [ext_take])
                rw [HSL.out, rdn_name _ HC0.out, ← HSL.out, HNL.out, if_neg k0, e]
              have HE : Hid (bL (s.data.toList.drop k) = s.extract k s.size) := ba_ext (by rw [ext_list]; rfl)
              have k1 : ((k : Int) == 0) = false := beq_eq_false_iff_ne.2 (by omega)
              have i4 : (k : Int) ≤ (s.size : Int) := by omega
              clear k0
              go_wp2_with fail
              go_region
              go_wp2_with fail
              exact ⟨rfl, .tuple #[.pointer (some ⟨w.heap.size, 0, none⟩), .string (s.extract k s.size)], by simp [results, Tryz.results115, go_sem], rd_post_some HN.out ((Up.alloc w _).trans (Up.drewN _ 1)) (by rw [HE.out]) (leaf_at w _)⟩
          · skip
            by_cases q41 : s[k] = 41
            · have t41 : (s[k].toNat : Int) = 41 := ch_yes q41 rfl
              have HEND : Hid (k = s.data.toList.length ∨ ∃ h : k < s.data.toList.length, s.data.toList[k] ∈ sp4) := .inr ⟨by rw [size_data]; exact hlt, by show s[k] ∈ sp4; rw [q41]; decide⟩
              clear q40 q41
              have HNL : Hid (nmLen s.data.toList = k) := nmLen_at (by rw [size_data]; omega) (fun j hj => HNO.out j hj (by rw [size_data]; omega)) HEND.out
              clear HNO HEND
              by_cases k0 : k = 0
              · have HN : Hid (rdn s.data.toList = none) := by unfold Hid; rw [HSL.out, rdn_name _ HC0.out, ← HSL.out, HNL.out, if_pos k0]
                have k1 : ((k : Int) == 0) = true := beq_iff_eq.2 (by omega)
                clear k0
                go_wp2_with fail
                exact ⟨rfl, .tuple #[.pointer none, .string ⟨#[]⟩], by simp [results, Tryz.results115, go_sem], rd_post_none HN.out (Up.refl _) rfl⟩
              · have HN : Hid (rdn s.data.toList = some (.node (s.extract 0 k) [], s.data.toList.drop k)) := by
                  unfold Hid
                  have e : (⟨(s.data.toList.take k).toArray⟩ : ByteArray) = s.extract 0 k := ba_ext (by rw [ext_take])
                  rw [HSL.out, rdn_name _ HC0.out, ← HSL.out, HNL.out, if_neg k0, e]
                have HE : Hid (bL (s.data.toList.drop k) = s.extract k s.size) := ba_ext (by rw [ext_list]; rfl)
                have k1 : ((k : Int) == 0) = false := beq_eq_false_iff_ne.2 (by omega)
                have i4 : (k : Int) ≤ (s.size : Int) := by omega
                clear k0
                go_wp2_with fail
                go_region
                go_wp2_with fail
                exact ⟨rfl, .tuple #[.pointer (some ⟨w.heap.size, 0, none⟩), .string (s.extract k s.size)], by simp [results, Tryz.results115, go_sem], rd_post_some HN.out ((Up.alloc w _).trans (Up.drewN _ 1)) (by rw [HE.out]) (leaf_at w _)⟩
            · skip
              by_cases q44 : s[k] = 44
              · have t44 : (s[k].toNat : Int) = 44 := ch_yes q44 rfl
                have HEND : Hid (k = s.data.toList.length ∨ ∃ h : k < s.data.toList.length, s.data.toList[k] ∈ sp4) := .inr ⟨by rw [size_data]; exact hlt, by show s[k] ∈ sp4; rw [q44]; decide⟩
                clear q40 q41 q44
                have HNL : Hid (nmLen s.data.toList = k) := nmLen_at (by rw [size_data]; omega) (fun j hj => HNO.out j hj (by rw [size_data]; omega)) HEND.out
                clear HNO HEND
                by_cases k0 : k = 0
                · have HN : Hid (rdn s.data.toList = none) := by unfold Hid; rw [HSL.out, rdn_name _ HC0.out, ← HSL.out, HNL.out, if_pos k0]
                  have k1 : ((k : Int) == 0) = true := beq_iff_eq.2 (by omega)
                  clear k0
                  go_wp2_with fail
                  exact ⟨rfl, .tuple #[.pointer none, .string ⟨#[]⟩], by simp [results, Tryz.results115, go_sem], rd_post_none HN.out (Up.refl _) rfl⟩
                · have HN : Hid (rdn s.data.toList = some (.node (s.extract 0 k) [], s.data.toList.drop k)) := by
                    unfold Hid
                    have e : (⟨(s.data.toList.take k).toArray⟩ : ByteArray) = s.extract 0 k := ba_ext (by rw [ext_take])
                    rw [HSL.out, rdn_name _ HC0.out, ← HSL.out, HNL.out, if_neg k0, e]
                  have HE : Hid (bL (s.data.toList.drop k) = s.extract k s.size) := ba_ext (by rw [ext_list]; rfl)
                  have k1 : ((k : Int) == 0) = false := beq_eq_false_iff_ne.2 (by omega)
                  have i4 : (k : Int) ≤ (s.size : Int) := by omega
                  clear k0
                  go_wp2_with fail
                  go_region
                  go_wp2_with fail
                  exact ⟨rfl, .tuple #[.pointer (some ⟨w.heap.size, 0, none⟩), .string (s.extract k s.size)], by simp [results, Tryz.results115, go_sem], rd_post_some HN.out ((Up.alloc w _).trans (Up.drewN _ 1)) (by rw [HE.out]) (leaf_at w _)⟩
              · skip
                by_cases q59 : s[k] = 59
                · have t40 : ¬ (s[k].toNat : Int) = 40 := ch_no q40 rfl
                  have b40 : ((s[k].toNat : Int) != 40) = true := bne_iff_ne.2 t40
                  have t41 : ¬ (s[k].toNat : Int) = 41 := ch_no q41 rfl
                  have b41 : ((s[k].toNat : Int) != 41) = true := bne_iff_ne.2 t41
                  have t44 : ¬ (s[k].toNat : Int) = 44 := ch_no q44 rfl
                  have b44 : ((s[k].toNat : Int) != 44) = true := bne_iff_ne.2 t44
                  have b59 : ((s[k].toNat : Int) != 59) = false := by rw [bne_eq_false_iff_eq]; exact ch_yes q59 rfl
                  have HEND : Hid (k = s.data.toList.length ∨ ∃ h : k < s.data.toList.length, s.data.toList[k] ∈ sp4) := .inr ⟨by rw [size_data]; exact hlt, by show s[k] ∈ sp4; rw [q59]; decide⟩
                  clear q40 q41 q44 q59
                  have HNL : Hid (nmLen s.data.toList = k) := nmLen_at (by rw [size_data]; omega) (fun j hj => HNO.out j hj (by rw [size_data]; omega)) HEND.out
                  clear HNO HEND
                  by_cases k0 : k = 0
                  · have HN : Hid (rdn s.data.toList = none) := by unfold Hid; rw [HSL.out, rdn_name _ HC0.out, ← HSL.out, HNL.out, if_pos k0]
                    have k1 : ((k : Int) == 0) = true := beq_iff_eq.2 (by omega)
                    clear k0
                    go_wp2_with fail
                    all_goals first | (exfalso; have hj := ‹((((s[k].toNat : Int) != 40) = true ∧ ((s[k].toNat : Int) != 41) = true) ∧ ((s[k].toNat : Int) != 44) = true) ∧ ((s[k].toNat : Int) != 59) = true›.2; rw [b59] at hj; cases hj; done) | skip
                    exact ⟨rfl, .tuple #[.pointer none, .string ⟨#[]⟩], by simp [results, Tryz.results115, go_sem], rd_post_none HN.out (Up.refl _) rfl⟩
                  · have HN : Hid (rdn s.data.toList = some (.node (s.extract 0 k) [], s.data.toList.drop k)) := by
                      unfold Hid
                      have e : (⟨(s.data.toList.take k).toArray⟩ : ByteArray) = s.extract 0 k := ba_ext (by rw [ext_take])
                      rw [HSL.out, rdn_name _ HC0.out, ← HSL.out, HNL.out, if_neg k0, e]
                    have HE : Hid (bL (s.data.toList.drop k) = s.extract k s.size) := ba_ext (by rw [ext_list]; rfl)
                    have k1 : ((k : Int) == 0) = false := beq_eq_false_iff_ne.2 (by omega)
                    have i4 : (k : Int) ≤ (s.size : Int) := by omega
                    clear k0
                    go_wp2_with fail
                    all_goals first | (exfalso; have hj := ‹((((s[k].toNat : Int) != 40) = true ∧ ((s[k].toNat : Int) != 41) = true) ∧ ((s[k].toNat : Int) != 44) = true) ∧ ((s[k].toNat : Int) != 59) = true›.2; rw [b59] at hj; cases hj; done) | skip
                    go_region
                    go_wp2_with fail
                    exact ⟨rfl, .tuple #[.pointer (some ⟨w.heap.size, 0, none⟩), .string (s.extract k s.size)], by simp [results, Tryz.results115, go_sem], rd_post_some HN.out ((Up.alloc w _).trans (Up.drewN _ 1)) (by rw [HE.out]) (leaf_at w _)⟩
                · skip
                  have t40 : ¬ (s[k].toNat : Int) = 40 := ch_no q40 rfl
                  have b40 : ((s[k].toNat : Int) != 40) = true := bne_iff_ne.2 t40
                  have t41 : ¬ (s[k].toNat : Int) = 41 := ch_no q41 rfl
                  have b41 : ((s[k].toNat : Int) != 41) = true := bne_iff_ne.2 t41
                  have t44 : ¬ (s[k].toNat : Int) = 44 := ch_no q44 rfl
                  have b44 : ((s[k].toNat : Int) != 44) = true := bne_iff_ne.2 t44
                  have t59 : ¬ (s[k].toNat : Int) = 59 := ch_no q59 rfl
                  have b59 : ((s[k].toNat : Int) != 59) = true := bne_iff_ne.2 t59
                  have HNX : Hid (s[k] ∉ sp4) := sp4_no.2 ⟨q40, q41, q44, q59⟩
                  have i3 : (k : Int) < 1001 := by have := HS.out; omega
                  clear q40 q41 q44 q59
                  go_wp2_with fail
                  all_goals first | (exfalso; have hj := ‹((((s[k].toNat : Int) != 40) = false ∨ ((s[k].toNat : Int) != 41) = false) ∨ ((s[k].toNat : Int) != 44) = false) ∨ ((s[k].toNat : Int) != 59) = false›; rw [b40, b41, b44, b59] at hj; simp at hj; done) | skip
                  go_round
                  case rel => exact ⟨k + 1, HLT.out, by go_num, fun j hj hl => by
                    by_cases e : j = k
                    · subst e; exact HNX.out
                    · exact HNO.out j (by omega) hl⟩
                  case measure => have := HLT.out; simp [intOf]; omega
        · skip
          have HNO := Lib.hid hno.out
          have HEND : Hid (k = s.data.toList.length ∨ ∃ h : k < s.data.toList.length, s.data.toList[k] ∈ sp4) := .inl (by rw [size_data]; omega)
          have hkn : ¬ (k : Int) < (s.size : Int) := by omega
          have hkd : decide ((k : Int) < (s.size : Int)) = false := decide_eq_false hkn
          have hkl : k ≤ s.size := hk
          clear hno hk hlt
          have HNL : Hid (nmLen s.data.toList = k) := nmLen_at (by rw [size_data]; omega) (fun j hj => HNO.out j hj (by rw [size_data]; omega)) HEND.out
          clear HNO HEND
          by_cases k0 : k = 0
          · have HN : Hid (rdn s.data.toList = none) := by unfold Hid; rw [HSL.out, rdn_name _ HC0.out, ← HSL.out, HNL.out, if_pos k0]
            have k1 : ((k : Int) == 0) = true := beq_iff_eq.2 (by omega)
            clear k0
            go_wp2_with fail
            exact ⟨rfl, .tuple #[.pointer none, .string ⟨#[]⟩], by simp [results, Tryz.results115, go_sem], rd_post_none HN.out (Up.refl _) rfl⟩
          · have HN : Hid (rdn s.data.toList = some (.node (s.extract 0 k) [], s.data.toList.drop k)) := by
              unfold Hid
              have e : (⟨(s.data.toList.take k).toArray⟩ : ByteArray) = s.extract 0 k := ba_ext (by rw [ext_take])
              rw [HSL.out, rdn_name _ HC0.out, ← HSL.out, HNL.out, if_neg k0, e]
            have HE : Hid (bL (s.data.toList.drop k) = s.extract k s.size) := ba_ext (by rw [ext_list]; rfl)
            have k1 : ((k : Int) == 0) = false := beq_eq_false_iff_ne.2 (by omega)
            have i4 : (k : Int) ≤ (s.size : Int) := by omega
            clear k0
            go_wp2_with fail
            go_region
            go_wp2_with fail
            exact ⟨rfl, .tuple #[.pointer (some ⟨w.heap.size, 0, none⟩), .string (s.extract k s.size)], by simp [results, Tryz.results115, go_sem], rd_post_some HN.out ((Up.alloc w _).trans (Up.drewN _ 1)) (by rw [HE.out]) (leaf_at w _)⟩
end Go.Proofs.YtpjijbophjdgaaaGreat
