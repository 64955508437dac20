/- The contract of layer 31's reference's read. -/
import Derived.Test.YthgabkgmkolobaaGreatQ1
import Derived.Test.YthgabkgmkolobaaGreatQ35
import Derived.Test.YthgabkgmkolobaaGreatQ22
import Derived.Test.YthgabkgmkolobaaGreatQ8
set_option maxRecDepth 100000
namespace Go.Proofs.YthgabkgmkolobaaGreat
open Go.RowKit Go.Deep
structure Ba (w1 : World) (base B : Nat) (wr : World) (kv : Value) (rs : List RT) : Prop where
 tj : kD base B wr ByteArray.empty kv rs
 up : Up w1 wr
 lo : w1.heap.size ≤ B
theorem Ba.push {w1 : World} {base B : Nat} {wr w2 : World} {kv : Value} {rs : List RT} (h : Ba w1 base B wr kv rs) {r : RT} {u : Value} (hu : Up wr w2) (hr : RAt (fun b => wr.heap.size ≤ b) w2 r u) :
  ∃ vs : List Value, vs.length = rs.length ∧ aC (B + 1) 210 w2 kv vs ∧ B + 1 ≤ w2.heap.size ∧
   (∀ W, w2.grownBy W kv.ownBlock → W.cell? ⟨B, 1, none⟩ = some kv ∧ W.frozen? ⟨B, 1, none⟩ = false) ∧
   ∀ g c W, aC (B + 1) 210 W (.slice (some ⟨g, 0, none⟩) (vs.length + 1) c) (vs ++ [u]) → w2.grownBy W kv.ownBlock → (kv.ownBlock = some g ∨ w2.heap.size ≤ g) →
    Ba w1 base B (W.setCell ⟨B, 1, none⟩ (.slice (some ⟨g, 0, none⟩) (vs.length + 1) c)) (.slice (some ⟨g, 0, none⟩) (vs.length + 1) c) (rs ++ [r]) := by
 have hW := h.tj.up hu
 have hBl := h.tj.lt
 have hsz := hu.size
 obtain ⟨vs, ho, hv⟩ := hW.kids
 obtain ⟨UT, zJ, _⟩ := h.tj.kids
 have hkb : ∀ b, kv.ownBlock = some b → b < wr.heap.size ∧ B < b := fun b hb => ⟨(aF zJ hb).2, by have := (aF zJ hb).1; omega⟩
 refine ⟨vs, RsAt.len rs hv, ho, by omega, fun W hg => ?_, fun g c W hown hg ep => ?_⟩
 ·have hc := hW.cells
  have O3 : some B ≠ kv.ownBlock := fun e => by have := (hkb B e.symm).2; omega
  refine ⟨?_, ?_⟩
  ·rw [hg.cell_far (a := ⟨B, 1, none⟩) (by show B < _; omega) O3]; exact hc.2.1
  ·rw [hg.frozen_far (a := ⟨B, 1, none⟩) (by show B < _; omega) O3]; exact hc.2.2.2
 ·have MB : ∀ b, (Value.slice (some ⟨g, 0, none⟩) (vs.length + 1) c).ownBlock = some b → kv.ownBlock = some b ∨ w2.heap.size ≤ b := fun b hb => by
   injection hb with hb
   have hb : g = b := hb
   subst hb
   exact ep
  have hlo := h.lo
  have hw := h.tj.lo
  refine ⟨hW.push hr (by omega) hBl (fun b hb => (hkb b hb).1) hv hown hg MB, ?_, h.lo⟩
  have h1 := h.up.trans hu
  refine ⟨hg.os.trans h1.os, hg.tape.trans h1.tape, hg.output.trans h1.output, ?_, fun b hb => ?_⟩
  ·have := h1.size; have := hg.size; simp only [World.size_setCell]; omega
  ·rw [blk_setCell_other _ _ _ _ (by omega : b ≠ B), hg.block b (Nat.lt_of_lt_of_le hb h1.size) (fun e => by have := (hkb b e.symm).2; omega)]
   exact h1.block b hb
theorem Ba.done {w1 : World} {base B : Nat} {wr : World} {kv : Value} {rs : List RT} (h : Ba w1 base B wr kv rs) : RAt (fun b => base ≤ b) wr (.node ByteArray.empty rs) (.pointer (some ⟨B, 0, none⟩)) := h.tj.done
def Jd (w : World) (s : ByteArray) (e : Ending) (w' : World) : Prop :=
 Up w w' ∧ match fW s.data.toList with
  | none => e = .returned (.tuple #[.pointer none, .string ⟨#[]⟩])
  | some (r, l) => ∃ v, e = .returned (.tuple #[v, .string (bL l)]) ∧ RAt (fun b => w.heap.size ≤ b) w' r v
theorem fc {w w' : World} {s : ByteArray} {e : Ending} (h : fW s.data.toList = none) (hu : Up w w') (he : e = .returned (.tuple #[.pointer none, .string ⟨#[]⟩])) : Jd w s e w' := by
 refine ⟨hu, ?_⟩
 rw [h]; exact he
theorem jo {w w' : World} {s : ByteArray} {e : Ending} {r : RT} {l : List UInt8} {v : Value} (h : fW s.data.toList = some (r, l)) (hu : Up w w') (he : e = .returned (.tuple #[v, .string (bL l)])) (hr : RAt (fun b => w.heap.size ≤ b) w' r v) : Jd w s e w' := by
 refine ⟨hu, ?_⟩
 rw [h]; exact ⟨v, he, hr⟩
theorem mL (s : ByteArray) (k : Nat) : (s.extract k s.size).data.toList = s.data.toList.drop k := by
 rw [ByteArray.data_extract]
 simp
 exact List.take_of_length_le (by simp)
theorem sK (s : ByteArray) (k : Nat) : (s.extract 0 k).data.toList = s.data.toList.take k := by
 rw [ByteArray.data_extract]
 simp
theorem vg (w : World) (nm : ByteArray) : RAt (fun b => w.heap.size ≤ b) (w.alloc (.cells #[.string nm, .slice none 0 0] 254)).drew (.node nm []) (.pointer (some ⟨w.heap.size, 0, none⟩)) :=
 RAt.keep ((Up.drewN _ 1).kept _) _ (kD.start w (Nat.le_refl _) nm).done
def lenOf : Value → Nat
 | .string u => u.size
 | _ => 0
theorem pR {c d : UInt8} {z : Int} (h : c ≠ d) (hz : z = d.toNat) : ¬ (c.toNat : Int) = z := fun e => h (UInt8.toNat_inj.1 (by omega))
theorem sL {c d : UInt8} {z : Int} (h : c = d) (hz : z = d.toNat) : (c.toNat : Int) = z := by rw [h, hz]
theorem sM {s : List UInt8} {k : Nat} (h1 : k ≤ s.length) (h2 : ∀ j, (hj : j < k) → s[j] ∉ bF) (h3 : k = s.length ∨ ∃ h : k < s.length, s[k] ∈ bF) : nmLen s = k := by
 induction s generalizing k with
 | nil => simp at h1; rw [h1]; rfl
 | cons c s ih =>
  rw [nmLen]
  cases k with
  | zero =>
   rcases h3 with h3 | ⟨h, h3⟩
   ·simp at h3
   ·rw [if_pos (by simpa using h3)]
  | succ k =>
   rw [if_neg (by simpa using h2 0 (by omega))]
   congr 1
   refine ih (by simpa using h1) (fun j hj => by simpa using h2 (j + 1) (by omega)) ?_
   rcases h3 with h3 | ⟨h, h3⟩
   ·exact .inl (by simpa using h3)
   ·exact .inr ⟨by simpa using h, by simpa using h3⟩
theorem sp4_no {c : UInt8} : c ∉ bF ↔ c ≠ 40 ∧ c ≠ 41 ∧ c ≠ 44 ∧ c ≠ 59 := by simp [bF]
set_option maxHeartbeats 4000000 in
theorem E5 : ∀ (n : Nat) (s : ByteArray), s.size = n → n ≤ 1000 → ∀ (w : World) (dp : Nat), dp + n ≤ 60000 → Calls Tryz.prog 204 #[.string s, .int .i64 dp] w (Jd w s) := by
 intro n
 induction n using Nat.strongRecOn with
 | ind n ih =>
 intro s hs hn w dp hdp
 have hnil := toList_nil s
 by_cases h0 : s.size = 0
 ·have hl : s.data.toList = [] := List.eq_nil_of_length_eq_zero (by rw [size_data]; exact h0)
  have e1 : s.toList = [] := hnil.2 h0
  have HN : Hid (fW s.data.toList = none) := by unfold Hid; rw [hl]; rfl
  clear hl hnil ih hs hdp h0
  go_enter Tryz.func204, Tryz.ntmps204
  go_wp2_with fail
  exact ⟨rfl, .tuple #[.pointer none, .string ⟨#[]⟩], by simp [results, Tryz.results204, go_sem], fc HN.out (Up.refl _) rfl⟩
 ·have hpos : 0 < s.size := by omega
  have e1 : (s.toList == []) = false := by
   rw [Bool.eq_false_iff]; intro e; exact h0 (hnil.1 (by simpa using e))
  have d1 : decide ((65536 : Int) < (dp : Int)) = false := decide_eq_false (by omega)
  have iA : Hid (s.data.toList = s[0] :: s.data.toList.drop 1) := by
   unfold Hid
   have : 0 < s.data.toList.length := by rw [size_data]; exact hpos
   exact List.drop_eq_getElem_cons this
  have HS := aa (And.intro hs (And.intro hn hdp))
  clear hnil h0 hs hn hdp
  by_cases hc : s[0] = 40
  ·have t40 : (s[0].toNat : Int) = 40 := sL hc rfl
   have eH := aa hc
   clear hc
   go_enter Tryz.func204, Tryz.ntmps204
   go_wp2_with fail
   clear d1
   have HST : Hid (Ba w w.heap.size w.heap.size (w.alloc (.cells #[.string ⟨#[]⟩, .slice none 0 0] 254)) (.slice none 0 0) []) := ⟨kD.start w (Nat.le_refl _) _, Up.alloc w _, Nat.le_refl _⟩
   have Cj : Hid (sF [] (s.data.toList.drop 1) = fW s.data.toList) := by
    unfold Hid
    rw [← I4]
    congr 1
    have := iA.out
    rw [eH.out] at this
    exact this.symm
   clear t40 e1
   generalize hw1 : w.alloc (.cells #[.string ⟨#[]⟩, .slice none 0 0] 254) = w1 at *
   clear hw1
   go_loopw [0, 8, 9] (fun sv _ _ wr => ∃ (u : ByteArray) (ks : List RT) (kv : Value), sv = .string u ∧ 0 < u.size ∧ Hid (ks.length + u.size ≤ n ∧ sF ks (u.data.toList.drop 1) = fW s.data.toList) ∧ Hid (Ba w w.heap.size w.heap.size wr kv ks)) (fun sv _ _ _ => lenOf sv)
   case atStart => exact ⟨s, [], _, rfl, hpos, ⟨by have := HS.out; rw [List.length_nil]; omega, Cj.out⟩, HST.out⟩
   case round =>
    obtain ⟨u, ks, kv, rfl, mz, aR, hI⟩ := hrel
    obtain ⟨wo, rfl⟩ : ∃ wo : World, wo = wr := ⟨_, rfl⟩
    have bH := aa aR.out
    have HI := aa hI.out
    have gw := aa (ih (u.size - 1) (by have := bH.out.1; omega) (u.extract 1 u.size) (by rw [ByteArray.size_extract]; omega) (by have := HS.out; have := bH.out.1; omega) wo (dp + 1) (by have := HS.out; have := bH.out.1; omega))
    have i1 : (1 : Int) ≤ (u.size : Int) := by omega
    clear aR hI HST Cj
    have hdp : wrap64 ((dp : Int) + 1) = ((dp + 1 : Nat) : Int) := by
     have := HS.out
     have hk := (show ((dp : Int) + 1) = ((dp + 1 : Nat) : Int) by omega)
     rw [hk]
     unfold wrap64
     omega
    have HDP := aa hdp
    have hcB := HI.out.tj.cells
    have Vn := aa (fun (w2 : World) (r : RT) (v : Value) (h1 : Up wo w2) (h2 : RAt (fun b => wo.heap.size ≤ b) w2 r v) => HI.out.push h1 h2)
    clear hdp hcB
    go_wp2_with fail
    rw [HDP.out]
    refine gw.out.mono ?_
    rintro e w2 ⟨aG, hm⟩
    rw [mL u 1] at hm
    have hK := I5 ks (u.data.toList.drop 1)
    have bw := aa (HI.out.up.trans aG)
    clear gw ih
    cases hr : fW (u.data.toList.drop 1) with
    | none =>
     rw [hr] at hm hK
     have HN : Hid (fW s.data.toList = none) := by unfold Hid; rw [← bH.out.2, hK]
     subst hm
     clear hK hr aG Vn
     go_wp2_with fail
     exact ⟨rfl, .tuple #[.pointer none, .string ⟨#[]⟩], by simp [results, Tryz.results204, go_sem], fc HN.out bw.out rfl⟩
    | some q =>
     obtain ⟨r, l⟩ := q
     rw [hr] at hm hK
     obtain ⟨v2, rfl, hr2⟩ := hm
     obtain ⟨b2, rfl⟩ := oO hr2
     have hlen := zx _ _ _ _ hr
     cases l with
     | nil =>
      have HN : Hid (fW s.data.toList = none) := by unfold Hid; rw [← bH.out.2, hK]
      have hb : (bL ([] : List UInt8)).toList = [] := (toList_nil _).2 rfl
      clear hK hr aG hr2 hlen Vn
      generalize bL ([] : List UInt8) = ub at *
      go_wp2_with fail
      exact ⟨rfl, .tuple #[.pointer none, .string ⟨#[]⟩], by simp [results, Tryz.results204, go_sem], fc HN.out bw.out rfl⟩
     | cons c l2 =>
      rw [List.length_cons, List.length_drop, size_data] at hlen
      obtain ⟨vs, hvl, ho, hsz, hcW, BQ⟩ := Vn.out w2 r _ aG hr2
      obtain ⟨u2, Dt⟩ : ∃ u2, u2 = bL (c :: l2) := ⟨_, rfl⟩
      have hz2 : u2.size = l2.length + 1 := by rw [Dt, zw]; rfl
      have hp2 : 0 < u2.size := by omega
      have hc0 : u2[0] = c := by subst Dt; rfl
      have En : (u2.toList == []) = false := by
       rw [Bool.eq_false_iff]; intro e; have := (toList_nil u2).1 (by simpa using e); omega
      have Je : Hid (bL l2 = u2.extract 1 u2.size) := eL (by rw [mL, Dt]; rfl)
      have U8 : Hid (u2.data.toList.drop 1 = l2) := by unfold Hid; rw [Dt]; rfl
      have HZ : Hid ((ks ++ [r]).length + u2.size ≤ n ∧ u2.size < u.size) := by
       unfold Hid; rw [List.length_append, List.length_singleton]; have := bH.out.1; omega
      have hcells := (HI.out.tj.up aG).cells
      obtain ⟨k0, k1, k2, k3⟩ := hcells
      have hvb : vs.length ≤ 1000000 := by have := bH.out.1; have := HS.out; omega
      have U2 := aa ho
      have HHS := aa hsz
      have HCW := aa hcW
      have mA := aa BQ
      have HVB := aa hvb
      have i2 : (1 : Int) ≤ (u2.size : Int) := by omega
      rw [← Dt]
      have hK : sF ks (u.data.toList.drop 1) = if c = 41 then some (.node ByteArray.empty (ks ++ [r]), l2) else if c = 44 then sF (ks ++ [r]) l2 else none := hK
      have HK := aa hK
      clear hK hr aG hr2 hlen Vn hvl ho hsz hcW BQ Dt hz2 hvb k0 k2
      by_cases ou : c = 41
      ·have t41 : (u2[0].toNat : Int) = 41 := sL (by rw [hc0, ou]) rfl
       have HN : Hid (fW s.data.toList = some (.node ByteArray.empty (ks ++ [r]), l2)) := by unfold Hid; rw [← bH.out.2, HK.out, if_pos ou]
       clear ou hc0
       go_wp2_with (at_builtin; refine fM w2 rfl _ _ 252 rfl (w.heap.size + 1) 210 (.pointer none) 8 Tryz.underlying252 Tryz.p7 rfl (by decide) U2.out rfl (.pointer (some ⟨b2, 0, none⟩)) rfl rfl vs.length rfl HVB.out HHS.out ?_; intro g cap W hown hg ep; obtain ⟨hcB, hfB⟩ := HCW.out W hg; have hN := aa (mA.out g cap W hown hg ep); clear hown hg ep)
       go_region
       go_wp2_with fail
       exact ⟨rfl, .tuple #[.pointer (some ⟨w.heap.size, 0, none⟩), .string (u2.extract 1 u2.size)], by simp [results, Tryz.results204, go_sem], jo HN.out (hN.out.up.trans (Up.drewN _ 1)) (by rw [Je.out]) (RAt.keep ((Up.drewN _ 1).kept _) _ hN.out.done)⟩
      ·by_cases sN : c = 44
       ·have t44 : (u2[0].toNat : Int) = 44 := sL (by rw [hc0, sN]) rfl
        have HN : Hid (sF (ks ++ [r]) (u2.data.toList.drop 1) = fW s.data.toList) := by unfold Hid; rw [← bH.out.2, HK.out, if_neg ou, if_pos sN, U8.out]
        clear ou sN hc0
        go_wp2_with (at_builtin; refine fM w2 rfl _ _ 252 rfl (w.heap.size + 1) 210 (.pointer none) 8 Tryz.underlying252 Tryz.p7 rfl (by decide) U2.out rfl (.pointer (some ⟨b2, 0, none⟩)) rfl rfl vs.length rfl HVB.out HHS.out ?_; intro g cap W hown hg ep; obtain ⟨hcB, hfB⟩ := HCW.out W hg; have hN := aa (mA.out g cap W hown hg ep); clear hown hg ep)
        go_roundw
        case rel => exact ⟨u2, ks ++ [r], _, rfl, hp2, ⟨HZ.out.1, HN.out⟩, hN.out⟩
        case measure => have := HZ.out.2; simp [lenOf]; omega
       ·have t41 : ¬ (u2[0].toNat : Int) = 41 := pR (by rw [hc0]; exact ou) rfl
        have t44 : ¬ (u2[0].toNat : Int) = 44 := pR (by rw [hc0]; exact sN) rfl
        have HN : Hid (fW s.data.toList = none) := by unfold Hid; rw [← bH.out.2, HK.out, if_neg ou, if_neg sN]
        clear ou sN hc0
        go_wp2_with (at_builtin; refine fM w2 rfl _ _ 252 rfl (w.heap.size + 1) 210 (.pointer none) 8 Tryz.underlying252 Tryz.p7 rfl (by decide) U2.out rfl (.pointer (some ⟨b2, 0, none⟩)) rfl rfl vs.length rfl HVB.out HHS.out ?_; intro g cap W hown hg ep; obtain ⟨hcB, hfB⟩ := HCW.out W hg; have hN := aa (mA.out g cap W hown hg ep); clear hown hg ep)
        exact ⟨rfl, .tuple #[.pointer none, .string ⟨#[]⟩], by simp [results, Tryz.results204, go_sem], fc HN.out hN.out.up rfl⟩
  ·have t40 : ¬ (s[0].toNat : Int) = 40 := pR hc rfl
   have eH := aa hc
   clear hc ih
   go_enter Tryz.func204, Tryz.ntmps204
   go_wp2_with fail
   clear t40 d1
   go_loop [6] (fun i => ∃ k : Nat, k ≤ s.size ∧ i = .int .i64 k ∧ Hid (∀ j, (hj : j < k) → ∀ hl : j < s.data.toList.length, s.data.toList[j] ∉ bF)) (fun i => s.size - (intOf i).toNat)
   case atStart => exact ⟨0, Nat.zero_le _, rfl, fun j hj => by omega⟩
   case round =>
    obtain ⟨k, hk, rfl, hno⟩ := hrel
    by_cases hlt : k < s.size
    ·have qH := aa hno.out
     have aV := aa hlt
     have i1 : (0 : Int) ≤ (k : Int) := by omega
     have i2 : (k : Int) < (s.size : Int) := by omega
     have fT := hk
     clear hno hk
     by_cases Ah : s[k] = 40
     ·have t40 : (s[k].toNat : Int) = 40 := sL Ah rfl
      have iw : Hid (k = s.data.toList.length ∨ ∃ h : k < s.data.toList.length, s.data.toList[k] ∈ bF) := .inr ⟨by rw [size_data]; exact hlt, by show s[k] ∈ bF; rw [Ah]; decide⟩
      clear Ah
      have fD : Hid (nmLen s.data.toList = k) := sM (by rw [size_data]; omega) (fun j hj => qH.out j hj (by rw [size_data]; omega)) iw.out
      clear qH iw
      by_cases k0 : k = 0
      ·have HN : Hid (fW s.data.toList = none) := by unfold Hid; rw [iA.out, gY _ eH.out, ← iA.out, fD.out, if_pos k0]
       have k1 : ((k : Int) == 0) = true := beq_iff_eq.2 (by omega)
       clear k0
       go_wp2_with fail
       exact ⟨rfl, .tuple #[.pointer none, .string ⟨#[]⟩], by simp [results, Tryz.results204, go_sem], fc HN.out (Up.refl _) rfl⟩
      ·have HN : Hid (fW s.data.toList = some (.node (s.extract 0 k) [], s.data.toList.drop k)) := by
        unfold Hid
        have e : (⟨(s.data.toList.take k).toArray⟩ : ByteArray) = s.extract 0 k := eL (by rw [sK])
        rw [iA.out, gY _ eH.out, ← iA.out, fD.out, if_neg k0, e]
       have HE : Hid (bL (s.data.toList.drop k) = s.extract k s.size) := eL (by rw [mL]; rfl)
       have k1 : ((k : Int) == 0) = false := beq_eq_false_iff_ne.2 (by omega)
       have i4 : (k : Int) ≤ (s.size : Int) := by omega
       clear k0
       go_wp2_with fail
       go_region
       go_wp2_with fail
       exact ⟨rfl, .tuple #[.pointer (some ⟨w.heap.size, 0, none⟩), .string (s.extract k s.size)], by simp [results, Tryz.results204, go_sem], jo HN.out ((Up.alloc w _).trans (Up.drewN _ 1)) (by rw [HE.out]) (vg w _)⟩
     ·skip
      by_cases ou : s[k] = 41
      ·have t41 : (s[k].toNat : Int) = 41 := sL ou rfl
       have iw : Hid (k = s.data.toList.length ∨ ∃ h : k < s.data.toList.length, s.data.toList[k] ∈ bF) := .inr ⟨by rw [size_data]; exact hlt, by show s[k] ∈ bF; rw [ou]; decide⟩
       clear Ah ou
       have fD : Hid (nmLen s.data.toList = k) := sM (by rw [size_data]; omega) (fun j hj => qH.out j hj (by rw [size_data]; omega)) iw.out
       clear qH iw
       by_cases k0 : k = 0
       ·have HN : Hid (fW s.data.toList = none) := by unfold Hid; rw [iA.out, gY _ eH.out, ← iA.out, fD.out, if_pos k0]
        have k1 : ((k : Int) == 0) = true := beq_iff_eq.2 (by omega)
        clear k0
        go_wp2_with fail
        exact ⟨rfl, .tuple #[.pointer none, .string ⟨#[]⟩], by simp [results, Tryz.results204, go_sem], fc HN.out (Up.refl _) rfl⟩
       ·have HN : Hid (fW s.data.toList = some (.node (s.extract 0 k) [], s.data.toList.drop k)) := by
         unfold Hid
         have e : (⟨(s.data.toList.take k).toArray⟩ : ByteArray) = s.extract 0 k := eL (by rw [sK])
         rw [iA.out, gY _ eH.out, ← iA.out, fD.out, if_neg k0, e]
        have HE : Hid (bL (s.data.toList.drop k) = s.extract k s.size) := eL (by rw [mL]; rfl)
        have k1 : ((k : Int) == 0) = false := beq_eq_false_iff_ne.2 (by omega)
        have i4 : (k : Int) ≤ (s.size : Int) := by omega
        clear k0
        go_wp2_with fail
        go_region
        go_wp2_with fail
        exact ⟨rfl, .tuple #[.pointer (some ⟨w.heap.size, 0, none⟩), .string (s.extract k s.size)], by simp [results, Tryz.results204, go_sem], jo HN.out ((Up.alloc w _).trans (Up.drewN _ 1)) (by rw [HE.out]) (vg w _)⟩
      ·skip
       by_cases sN : s[k] = 44
       ·have t44 : (s[k].toNat : Int) = 44 := sL sN rfl
        have iw : Hid (k = s.data.toList.length ∨ ∃ h : k < s.data.toList.length, s.data.toList[k] ∈ bF) := .inr ⟨by rw [size_data]; exact hlt, by show s[k] ∈ bF; rw [sN]; decide⟩
        clear Ah ou sN
        have fD : Hid (nmLen s.data.toList = k) := sM (by rw [size_data]; omega) (fun j hj => qH.out j hj (by rw [size_data]; omega)) iw.out
        clear qH iw
        by_cases k0 : k = 0
        ·have HN : Hid (fW s.data.toList = none) := by unfold Hid; rw [iA.out, gY _ eH.out, ← iA.out, fD.out, if_pos k0]
         have k1 : ((k : Int) == 0) = true := beq_iff_eq.2 (by omega)
         clear k0
         go_wp2_with fail
         exact ⟨rfl, .tuple #[.pointer none, .string ⟨#[]⟩], by simp [results, Tryz.results204, go_sem], fc HN.out (Up.refl _) rfl⟩
        ·have HN : Hid (fW s.data.toList = some (.node (s.extract 0 k) [], s.data.toList.drop k)) := by
          unfold Hid
          have e : (⟨(s.data.toList.take k).toArray⟩ : ByteArray) = s.extract 0 k := eL (by rw [sK])
          rw [iA.out, gY _ eH.out, ← iA.out, fD.out, if_neg k0, e]
         have HE : Hid (bL (s.data.toList.drop k) = s.extract k s.size) := eL (by rw [mL]; rfl)
         have k1 : ((k : Int) == 0) = false := beq_eq_false_iff_ne.2 (by omega)
         have i4 : (k : Int) ≤ (s.size : Int) := by omega
         clear k0
         go_wp2_with fail
         go_region
         go_wp2_with fail
         exact ⟨rfl, .tuple #[.pointer (some ⟨w.heap.size, 0, none⟩), .string (s.extract k s.size)], by simp [results, Tryz.results204, go_sem], jo HN.out ((Up.alloc w _).trans (Up.drewN _ 1)) (by rw [HE.out]) (vg w _)⟩
       ·skip
        by_cases LL : s[k] = 59
        ·have t40 : ¬ (s[k].toNat : Int) = 40 := pR Ah rfl
         have b40 : ((s[k].toNat : Int) != 40) = true := bne_iff_ne.2 t40
         have t41 : ¬ (s[k].toNat : Int) = 41 := pR ou rfl
         have b41 : ((s[k].toNat : Int) != 41) = true := bne_iff_ne.2 t41
         have t44 : ¬ (s[k].toNat : Int) = 44 := pR sN rfl
         have b44 : ((s[k].toNat : Int) != 44) = true := bne_iff_ne.2 t44
         have Vo : ((s[k].toNat : Int) != 59) = false := by rw [bne_eq_false_iff_eq]; exact sL LL rfl
         have iw : Hid (k = s.data.toList.length ∨ ∃ h : k < s.data.toList.length, s.data.toList[k] ∈ bF) := .inr ⟨by rw [size_data]; exact hlt, by show s[k] ∈ bF; rw [LL]; decide⟩
         clear Ah ou sN LL
         have fD : Hid (nmLen s.data.toList = k) := sM (by rw [size_data]; omega) (fun j hj => qH.out j hj (by rw [size_data]; omega)) iw.out
         clear qH iw
         by_cases k0 : k = 0
         ·have HN : Hid (fW s.data.toList = none) := by unfold Hid; rw [iA.out, gY _ eH.out, ← iA.out, fD.out, if_pos k0]
          have k1 : ((k : Int) == 0) = true := beq_iff_eq.2 (by omega)
          clear k0
          go_wp2_with fail
          all_goals first | (exfalso; have hj := ‹((((s[k].toNat : Int) != 40) = true ∧ ((s[k].toNat : Int) != 41) = true) ∧ ((s[k].toNat : Int) != 44) = true) ∧ ((s[k].toNat : Int) != 59) = true›.2; rw [Vo] at hj; cases hj; done) | skip
          exact ⟨rfl, .tuple #[.pointer none, .string ⟨#[]⟩], by simp [results, Tryz.results204, go_sem], fc HN.out (Up.refl _) rfl⟩
         ·have HN : Hid (fW s.data.toList = some (.node (s.extract 0 k) [], s.data.toList.drop k)) := by
           unfold Hid
           have e : (⟨(s.data.toList.take k).toArray⟩ : ByteArray) = s.extract 0 k := eL (by rw [sK])
           rw [iA.out, gY _ eH.out, ← iA.out, fD.out, if_neg k0, e]
          have HE : Hid (bL (s.data.toList.drop k) = s.extract k s.size) := eL (by rw [mL]; rfl)
          have k1 : ((k : Int) == 0) = false := beq_eq_false_iff_ne.2 (by omega)
          have i4 : (k : Int) ≤ (s.size : Int) := by omega
          clear k0
          go_wp2_with fail
          all_goals first | (exfalso; have hj := ‹((((s[k].toNat : Int) != 40) = true ∧ ((s[k].toNat : Int) != 41) = true) ∧ ((s[k].toNat : Int) != 44) = true) ∧ ((s[k].toNat : Int) != 59) = true›.2; rw [Vo] at hj; cases hj; done) | skip
          go_region
          go_wp2_with fail
          exact ⟨rfl, .tuple #[.pointer (some ⟨w.heap.size, 0, none⟩), .string (s.extract k s.size)], by simp [results, Tryz.results204, go_sem], jo HN.out ((Up.alloc w _).trans (Up.drewN _ 1)) (by rw [HE.out]) (vg w _)⟩
        ·skip
         have t40 : ¬ (s[k].toNat : Int) = 40 := pR Ah rfl
         have b40 : ((s[k].toNat : Int) != 40) = true := bne_iff_ne.2 t40
         have t41 : ¬ (s[k].toNat : Int) = 41 := pR ou rfl
         have b41 : ((s[k].toNat : Int) != 41) = true := bne_iff_ne.2 t41
         have t44 : ¬ (s[k].toNat : Int) = 44 := pR sN rfl
         have b44 : ((s[k].toNat : Int) != 44) = true := bne_iff_ne.2 t44
         have t59 : ¬ (s[k].toNat : Int) = 59 := pR LL rfl
         have Vo : ((s[k].toNat : Int) != 59) = true := bne_iff_ne.2 t59
         have qE : Hid (s[k] ∉ bF) := sp4_no.2 ⟨Ah, ou, sN, LL⟩
         have i3 : (k : Int) < 1001 := by have := HS.out; omega
         clear Ah ou sN LL
         go_wp2_with fail
         all_goals first | (exfalso; have hj := ‹((((s[k].toNat : Int) != 40) = false ∨ ((s[k].toNat : Int) != 41) = false) ∨ ((s[k].toNat : Int) != 44) = false) ∨ ((s[k].toNat : Int) != 59) = false›; rw [b40, b41, b44, Vo] at hj; simp at hj; done) | skip
         go_round
         case rel => exact ⟨k + 1, aV.out, by go_num, fun j hj hl => by
          by_cases e : j = k
          ·subst e; exact qE.out
          ·exact qH.out j (by omega) hl⟩
         case measure => have := aV.out; simp [intOf]; omega
    ·skip
     have qH := aa hno.out
     have iw : Hid (k = s.data.toList.length ∨ ∃ h : k < s.data.toList.length, s.data.toList[k] ∈ bF) := .inl (by rw [size_data]; omega)
     have hkn : ¬ (k : Int) < (s.size : Int) := by omega
     have Ze : decide ((k : Int) < (s.size : Int)) = false := decide_eq_false hkn
     have fT : k ≤ s.size := hk
     clear hno hk hlt
     have fD : Hid (nmLen s.data.toList = k) := sM (by rw [size_data]; omega) (fun j hj => qH.out j hj (by rw [size_data]; omega)) iw.out
     clear qH iw
     by_cases k0 : k = 0
     ·have HN : Hid (fW s.data.toList = none) := by unfold Hid; rw [iA.out, gY _ eH.out, ← iA.out, fD.out, if_pos k0]
      have k1 : ((k : Int) == 0) = true := beq_iff_eq.2 (by omega)
      clear k0
      go_wp2_with fail
      exact ⟨rfl, .tuple #[.pointer none, .string ⟨#[]⟩], by simp [results, Tryz.results204, go_sem], fc HN.out (Up.refl _) rfl⟩
     ·have HN : Hid (fW s.data.toList = some (.node (s.extract 0 k) [], s.data.toList.drop k)) := by
       unfold Hid
       have e : (⟨(s.data.toList.take k).toArray⟩ : ByteArray) = s.extract 0 k := eL (by rw [sK])
       rw [iA.out, gY _ eH.out, ← iA.out, fD.out, if_neg k0, e]
      have HE : Hid (bL (s.data.toList.drop k) = s.extract k s.size) := eL (by rw [mL]; rfl)
      have k1 : ((k : Int) == 0) = false := beq_eq_false_iff_ne.2 (by omega)
      have i4 : (k : Int) ≤ (s.size : Int) := by omega
      clear k0
      go_wp2_with fail
      go_region
      go_wp2_with fail
      exact ⟨rfl, .tuple #[.pointer (some ⟨w.heap.size, 0, none⟩), .string (s.extract k s.size)], by simp [results, Tryz.results204, go_sem], jo HN.out ((Up.alloc w _).trans (Up.drewN _ 1)) (by rw [HE.out]) (vg w _)⟩
end Go.Proofs.YthgabkgmkolobaaGreat
