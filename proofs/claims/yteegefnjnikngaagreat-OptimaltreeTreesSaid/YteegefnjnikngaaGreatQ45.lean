/- The contract of layer 31's reference's read. optimaltree.Score. -/
import Derived.Test.YteegefnjnikngaaGreatQ1
import Derived.Test.YteegefnjnikngaaGreatQ42
import Derived.Test.YteegefnjnikngaaGreatQ43
import Derived.Test.YteegefnjnikngaaGreatQ26
import Derived.Test.YteegefnjnikngaaGreatQ8
set_option maxRecDepth 100000
namespace Go.Proofs.YteegefnjnikngaaGreat
section
open Go.RowKit Go.Deep
structure xY (w1 : World) (base B : Nat) (wr : World) (kv : Value) (rs : List RT) : Prop where
 qm : jb base B wr ByteArray.empty kv rs
 up : Up w1 wr
 lo : w1.heap.size ≤ B
theorem xY.push {w1 : World} {base B : Nat} {wr w2 : World} {kv : Value} {rs : List RT} (h : xY w1 base B wr kv rs) {r : RT} {u : Value} (hu : Up wr w2) (hr : RAt (fun b => wr.heap.size ≤ b) w2 r u) :
  ∃ vs : List Value, vs.length = rs.length ∧ az (B + 1) 214 w2 kv vs ∧ B + 1 ≤ w2.heap.size ∧
   (∀ W, w2.grownBy W kv.ownBlock → W.cell? ⟨B, 1, none⟩ = some kv ∧ W.frozen? ⟨B, 1, none⟩ = false) ∧
   ∀ g c W, az (B + 1) 214 W (.slice (some ⟨g, 0, none⟩) (vs.length + 1) c) (vs ++ [u]) → w2.grownBy W kv.ownBlock → (kv.ownBlock = some g ∨ w2.heap.size ≤ g) →
    xY w1 base B (W.setCell ⟨B, 1, none⟩ (.slice (some ⟨g, 0, none⟩) (vs.length + 1) c)) (.slice (some ⟨g, 0, none⟩) (vs.length + 1) c) (rs ++ [r]) := by
 have hW := h.qm.up hu
 have hBl := h.qm.lt
 have hsz := hu.size
 obtain ⟨vs, ho, hv⟩ := hW.kids
 obtain ⟨Tw, wm, _⟩ := h.qm.kids
 have hkb : ∀ b, kv.ownBlock = some b → b < wr.heap.size ∧ B < b := fun b hb => ⟨(aD wm hb).2, by have := (aD wm hb).1; omega⟩
 refine ⟨vs, RsAt.len rs hv, ho, by omega, fun W hg => ?_, fun g c W hown hg dw => ?_⟩
 ·have hc := hW.cells
  have KO : some B ≠ kv.ownBlock := fun e => by have := (hkb B e.symm).2; omega
  refine ⟨?_, ?_⟩
  ·rw [hg.cell_far (a := ⟨B, 1, none⟩) (by show B < _; omega) KO]; exact hc.2.1
  ·rw [hg.frozen_far (a := ⟨B, 1, none⟩) (by show B < _; omega) KO]; exact hc.2.2.2
 ·have IA : ∀ b, (Value.slice (some ⟨g, 0, none⟩) (vs.length + 1) c).ownBlock = some b → kv.ownBlock = some b ∨ w2.heap.size ≤ b := fun b hb => by
   injection hb with hb
   have hb : g = b := hb
   subst hb
   exact dw
  have hlo := h.lo
  have hw := h.qm.lo
  refine ⟨hW.push hr (by omega) hBl (fun b hb => (hkb b hb).1) hv hown hg IA, ?_, h.lo⟩
  have h1 := h.up.trans hu
  refine ⟨hg.os.trans h1.os, hg.tape.trans h1.tape, hg.output.trans h1.output, ?_, fun b hb => ?_⟩
  ·have := h1.size; have := hg.size; simp only [World.size_setCell]; omega
  ·rw [blk_setCell_other _ _ _ _ (by omega : b ≠ B), hg.block b (Nat.lt_of_lt_of_le hb h1.size) (fun e => by have := (hkb b e.symm).2; omega)]
   exact h1.block b hb
theorem xY.done {w1 : World} {base B : Nat} {wr : World} {kv : Value} {rs : List RT} (h : xY w1 base B wr kv rs) : RAt (fun b => base ≤ b) wr (.node ByteArray.empty rs) (.pointer (some ⟨B, 0, none⟩)) := h.qm.done
def Fc (w : World) (s : ByteArray) (e : Ending) (w' : World) : Prop :=
 Up w w' ∧ match eN s.data.toList with
  | none => e = .returned (.tuple #[.pointer none, .string ⟨#[]⟩])
  | some (r, l) => ∃ v, e = .returned (.tuple #[v, .string (bL l)]) ∧ RAt (fun b => w.heap.size ≤ b) w' r v
theorem dU {w w' : World} {s : ByteArray} {e : Ending} (h : eN s.data.toList = none) (hu : Up w w') (he : e = .returned (.tuple #[.pointer none, .string ⟨#[]⟩])) : Fc w s e w' := by
 refine ⟨hu, ?_⟩
 rw [h]; exact he
theorem ic {w w' : World} {s : ByteArray} {e : Ending} {r : RT} {l : List UInt8} {v : Value} (h : eN s.data.toList = some (r, l)) (hu : Up w w') (he : e = .returned (.tuple #[v, .string (bL l)])) (hr : RAt (fun b => w.heap.size ≤ b) w' r v) : Fc w s e w' := by
 refine ⟨hu, ?_⟩
 rw [h]; exact ⟨v, he, hr⟩
theorem kD (s : ByteArray) (k : Nat) : (s.extract k s.size).data.toList = s.data.toList.drop k := by
 rw [ByteArray.data_extract]
 simp
 exact List.take_of_length_le (by simp)
theorem pW (s : ByteArray) (k : Nat) : (s.extract 0 k).data.toList = s.data.toList.take k := by
 rw [ByteArray.data_extract]
 simp
theorem rY (w : World) (nm : ByteArray) : RAt (fun b => w.heap.size ≤ b) (w.alloc (.cells #[.string nm, .slice none 0 0] 261)).drew (.node nm []) (.pointer (some ⟨w.heap.size, 0, none⟩)) :=
 RAt.keep ((Up.drewN _ 1).kept _) _ (jb.start w (Nat.le_refl _) nm).done
def lenOf : Value → Nat
 | .string u => u.size
 | _ => 0
theorem mL {c d : UInt8} {z : Int} (h : c ≠ d) (hz : z = d.toNat) : ¬ (c.toNat : Int) = z := fun e => h (UInt8.toNat_inj.1 (by omega))
theorem pX {c d : UInt8} {z : Int} (h : c = d) (hz : z = d.toNat) : (c.toNat : Int) = z := by rw [h, hz]
theorem pY {s : List UInt8} {k : Nat} (h1 : k ≤ s.length) (h2 : ∀ j, (hj : j < k) → s[j] ∉ bu) (h3 : k = s.length ∨ ∃ h : k < s.length, s[k] ∈ bu) : nmLen s = k := by
 induction s generalizing k with
 | nil => simp at h1; rw [h1]; rfl
 | cons c s ih =>
  rw [nmLen]
  cases k with
  | zero =>
   rcases h3 with h3 | ⟨h, h3⟩
   ·simp at h3
   ·rw [if_pos (by simpa using h3)]
  | succ k =>
   rw [if_neg (by simpa using h2 0 (by omega))]
   congr 1
   refine ih (by simpa using h1) (fun j hj => by simpa using h2 (j + 1) (by omega)) ?_
   rcases h3 with h3 | ⟨h, h3⟩
   ·exact .inl (by simpa using h3)
   ·exact .inr ⟨by simpa using h, by simpa using h3⟩
theorem VQ {c : UInt8} : c ∉ bu ↔ c ≠ 40 ∧ c ≠ 41 ∧ c ≠ 44 ∧ c ≠ 59 := by simp [bu]
set_option maxHeartbeats 4000000 in
theorem B9 : ∀ (n : Nat) (s : ByteArray), s.size = n → n ≤ 1000 → ∀ (w : World) (dp : Nat), dp + n ≤ 60000 → Calls Tryz.prog 210 #[.string s, .int .i64 dp] w (Fc w s) := by
 intro n
 induction n using Nat.strongRecOn with
 | ind n ih =>
 intro s hs hn w dp hdp
 have hnil := toList_nil s
 by_cases h0 : s.size = 0
 ·have hl : s.data.toList = [] := List.eq_nil_of_length_eq_zero (by rw [size_data]; exact h0)
  have e1 : s.toList = [] := hnil.2 h0
  have HN : Hid (eN s.data.toList = none) := by unfold Hid; rw [hl]; rfl
  clear hl hnil ih hs hdp h0
  go_enter Tryz.func210, Tryz.ntmps210
  go_wp2_with fail
  exact ⟨rfl, .tuple #[.pointer none, .string ⟨#[]⟩], by simp [results, Tryz.results210, go_sem], dU HN.out (Up.refl _) rfl⟩
 ·have hpos : 0 < s.size := by omega
  have e1 : (s.toList == []) = false := by
   rw [Bool.eq_false_iff]; intro e; exact h0 (hnil.1 (by simpa using e))
  have d1 : decide ((65536 : Int) < (dp : Int)) = false := decide_eq_false (by omega)
  have fS : Hid (s.data.toList = s[0] :: s.data.toList.drop 1) := by
   unfold Hid
   have : 0 < s.data.toList.length := by rw [size_data]; exact hpos
   exact List.drop_eq_getElem_cons this
  have HS := aa (And.intro hs (And.intro hn hdp))
  clear hnil h0 hs hn hdp
  by_cases hc : s[0] = 40
  ·have t40 : (s[0].toNat : Int) = 40 := pX hc rfl
   have dR := aa hc
   clear hc
   go_enter Tryz.func210, Tryz.ntmps210
   go_wp2_with fail
   clear d1
   have HST : Hid (xY w w.heap.size w.heap.size (w.alloc (.cells #[.string ⟨#[]⟩, .slice none 0 0] 261)) (.slice none 0 0) []) := ⟨jb.start w (Nat.le_refl _) _, Up.alloc w _, Nat.le_refl _⟩
   have ze : Hid (pU [] (s.data.toList.drop 1) = eN s.data.toList) := by
    unfold Hid
    rw [← E6]
    congr 1
    have := fS.out
    rw [dR.out] at this
    exact this.symm
   clear t40 e1
   generalize hw1 : w.alloc (.cells #[.string ⟨#[]⟩, .slice none 0 0] 261) = w1 at *
   clear hw1
   go_loopw [0, 8, 9] (fun sv _ _ wr => ∃ (u : ByteArray) (ks : List RT) (kv : Value), sv = .string u ∧ 0 < u.size ∧ Hid (ks.length + u.size ≤ n ∧ pU ks (u.data.toList.drop 1) = eN s.data.toList) ∧ Hid (xY w w.heap.size w.heap.size wr kv ks)) (fun sv _ _ _ => lenOf sv)
   case atStart => exact ⟨s, [], _, rfl, hpos, ⟨by have := HS.out; rw [List.length_nil]; omega, ze.out⟩, HST.out⟩
   case round =>
    obtain ⟨u, ks, kv, rfl, BW, aS, hI⟩ := hrel
    obtain ⟨wo, rfl⟩ : ∃ wo : World, wo = wr := ⟨_, rfl⟩
    have bF := aa aS.out
    have HI := aa hI.out
    have eU := aa (ih (u.size - 1) (by have := bF.out.1; omega) (u.extract 1 u.size) (by rw [ByteArray.size_extract]; omega) (by have := HS.out; have := bF.out.1; omega) wo (dp + 1) (by have := HS.out; have := bF.out.1; omega))
    have i1 : (1 : Int) ≤ (u.size : Int) := by omega
    clear aS hI HST ze
    have hdp : wrap64 ((dp : Int) + 1) = ((dp + 1 : Nat) : Int) := by
     have := HS.out
     have hk := (show ((dp : Int) + 1) = ((dp + 1 : Nat) : Int) by omega)
     rw [hk]
     unfold wrap64
     omega
    have HDP := aa hdp
    have hcB := HI.out.qm.cells
    have Ql := aa (fun (w2 : World) (r : RT) (v : Value) (h1 : Up wo w2) (h2 : RAt (fun b => wo.heap.size ≤ b) w2 r v) => HI.out.push h1 h2)
    clear hdp hcB
    go_wp2_with fail
    rw [HDP.out]
    refine eU.out.mono ?_
    rintro e w2 ⟨aF, hm⟩
    rw [kD u 1] at hm
    have hK := E7 ks (u.data.toList.drop 1)
    have bE := aa (HI.out.up.trans aF)
    clear eU ih
    cases hr : eN (u.data.toList.drop 1) with
    | none =>
     rw [hr] at hm hK
     have HN : Hid (eN s.data.toList = none) := by unfold Hid; rw [← bF.out.2, hK]
     subst hm
     clear hK hr aF Ql
     go_wp2_with fail
     exact ⟨rfl, .tuple #[.pointer none, .string ⟨#[]⟩], by simp [results, Tryz.results210, go_sem], dU HN.out bE.out rfl⟩
    | some q =>
     obtain ⟨r, l⟩ := q
     rw [hr] at hm hK
     obtain ⟨v2, rfl, hr2⟩ := hm
     obtain ⟨b2, rfl⟩ := mq hr2
     have hlen := vU _ _ _ _ hr
     cases l with
     | nil =>
      have HN : Hid (eN s.data.toList = none) := by unfold Hid; rw [← bF.out.2, hK]
      have hb : (bL ([] : List UInt8)).toList = [] := (toList_nil _).2 rfl
      clear hK hr aF hr2 hlen Ql
      generalize bL ([] : List UInt8) = ub at *
      go_wp2_with fail
      exact ⟨rfl, .tuple #[.pointer none, .string ⟨#[]⟩], by simp [results, Tryz.results210, go_sem], dU HN.out bE.out rfl⟩
     | cons c l2 =>
      rw [List.length_cons, List.length_drop, size_data] at hlen
      obtain ⟨vs, hvl, ho, hsz, hcW, yJ⟩ := Ql.out w2 r _ aF hr2
      obtain ⟨u2, Ae⟩ : ∃ u2, u2 = bL (c :: l2) := ⟨_, rfl⟩
      have hz2 : u2.size = l2.length + 1 := by rw [Ae, vT]; rfl
      have hp2 : 0 < u2.size := by omega
      have hc0 : u2[0] = c := by subst Ae; rfl
      have DG : (u2.toList == []) = false := by
       rw [Bool.eq_false_iff]; intro e; have := (toList_nil u2).1 (by simpa using e); omega
      have HEX : Hid (bL l2 = u2.extract 1 u2.size) := dH (by rw [kD, Ae]; rfl)
      have PR : Hid (u2.data.toList.drop 1 = l2) := by unfold Hid; rw [Ae]; rfl
      have HZ : Hid ((ks ++ [r]).length + u2.size ≤ n ∧ u2.size < u.size) := by
       unfold Hid; rw [List.length_append, List.length_singleton]; have := bF.out.1; omega
      have hcells := (HI.out.qm.up aF).cells
      obtain ⟨k0, k1, k2, k3⟩ := hcells
      have hvb : vs.length ≤ 1000000 := by have := bF.out.1; have := HS.out; omega
      have PF := aa ho
      have VR := aa hsz
      have VS := aa hcW
      have L3 := aa yJ
      have VT := aa hvb
      have i2 : (1 : Int) ≤ (u2.size : Int) := by omega
      rw [← Ae]
      have hK : pU ks (u.data.toList.drop 1) = if c = 41 then some (.node ByteArray.empty (ks ++ [r]), l2) else if c = 44 then pU (ks ++ [r]) l2 else none := hK
      have HK := aa hK
      clear hK hr aF hr2 hlen Ql hvl ho hsz hcW yJ Ae hz2 hvb k0 k2
      by_cases lY : c = 41
      ·have t41 : (u2[0].toNat : Int) = 41 := pX (by rw [hc0, lY]) rfl
       have HN : Hid (eN s.data.toList = some (.node ByteArray.empty (ks ++ [r]), l2)) := by unfold Hid; rw [← bF.out.2, HK.out, if_pos lY]
       clear lY hc0
       go_wp2_with (at_builtin; refine gA w2 rfl _ _ 259 rfl (w.heap.size + 1) 214 (.pointer none) 8 Tryz.underlying259 Tryz.mR rfl (by decide) PF.out rfl (.pointer (some ⟨b2, 0, none⟩)) rfl rfl vs.length rfl VT.out VR.out ?_; intro g cap W hown hg dw; obtain ⟨hcB, hfB⟩ := VS.out W hg; have hN := aa (L3.out g cap W hown hg dw); clear hown hg dw)
       go_region
       go_wp2_with fail
       exact ⟨rfl, .tuple #[.pointer (some ⟨w.heap.size, 0, none⟩), .string (u2.extract 1 u2.size)], by simp [results, Tryz.results210, go_sem], ic HN.out (hN.out.up.trans (Up.drewN _ 1)) (by rw [HEX.out]) (RAt.keep ((Up.drewN _ 1).kept _) _ hN.out.done)⟩
      ·by_cases pZ : c = 44
       ·have t44 : (u2[0].toNat : Int) = 44 := pX (by rw [hc0, pZ]) rfl
        have HN : Hid (pU (ks ++ [r]) (u2.data.toList.drop 1) = eN s.data.toList) := by unfold Hid; rw [← bF.out.2, HK.out, if_neg lY, if_pos pZ, PR.out]
        clear lY pZ hc0
        go_wp2_with (at_builtin; refine gA w2 rfl _ _ 259 rfl (w.heap.size + 1) 214 (.pointer none) 8 Tryz.underlying259 Tryz.mR rfl (by decide) PF.out rfl (.pointer (some ⟨b2, 0, none⟩)) rfl rfl vs.length rfl VT.out VR.out ?_; intro g cap W hown hg dw; obtain ⟨hcB, hfB⟩ := VS.out W hg; have hN := aa (L3.out g cap W hown hg dw); clear hown hg dw)
        go_roundw
        case rel => exact ⟨u2, ks ++ [r], _, rfl, hp2, ⟨HZ.out.1, HN.out⟩, hN.out⟩
        case measure => have := HZ.out.2; simp [lenOf]; omega
       ·have t41 : ¬ (u2[0].toNat : Int) = 41 := mL (by rw [hc0]; exact lY) rfl
        have t44 : ¬ (u2[0].toNat : Int) = 44 := mL (by rw [hc0]; exact pZ) rfl
        have HN : Hid (eN s.data.toList = none) := by unfold Hid; rw [← bF.out.2, HK.out, if_neg lY, if_neg pZ]
        clear lY pZ hc0
        go_wp2_with (at_builtin; refine gA w2 rfl _ _ 259 rfl (w.heap.size + 1) 214 (.pointer none) 8 Tryz.underlying259 Tryz.mR rfl (by decide) PF.out rfl (.pointer (some ⟨b2, 0, none⟩)) rfl rfl vs.length rfl VT.out VR.out ?_; intro g cap W hown hg dw; obtain ⟨hcB, hfB⟩ := VS.out W hg; have hN := aa (L3.out g cap W hown hg dw); clear hown hg dw)
        exact ⟨rfl, .tuple #[.pointer none, .string ⟨#[]⟩], by simp [results, Tryz.results210, go_sem], dU HN.out hN.out.up rfl⟩
  ·have t40 : ¬ (s[0].toNat : Int) = 40 := mL hc rfl
   have dR := aa hc
   clear hc ih
   go_enter Tryz.func210, Tryz.ntmps210
   go_wp2_with fail
   clear t40 d1
   go_loop [6] (fun i => ∃ k : Nat, k ≤ s.size ∧ i = .int .i64 k ∧ Hid (∀ j, (hj : j < k) → ∀ hl : j < s.data.toList.length, s.data.toList[j] ∉ bu)) (fun i => s.size - (intOf i).toNat)
   case atStart => exact ⟨0, Nat.zero_le _, rfl, fun j hj => by omega⟩
   case round =>
    obtain ⟨k, hk, rfl, hno⟩ := hrel
    by_cases hlt : k < s.size
    ·have tO := aa hno.out
     have aQ := aa hlt
     have i1 : (0 : Int) ≤ (k : Int) := by omega
     have i2 : (k : Int) < (s.size : Int) := by omega
     have eF := hk
     clear hno hk
     by_cases wY : s[k] = 40
     ·have t40 : (s[k].toNat : Int) = 40 := pX wY rfl
      have fP : Hid (k = s.data.toList.length ∨ ∃ h : k < s.data.toList.length, s.data.toList[k] ∈ bu) := .inr ⟨by rw [size_data]; exact hlt, by show s[k] ∈ bu; rw [wY]; decide⟩
      clear wY
      have lI : Hid (nmLen s.data.toList = k) := pY (by rw [size_data]; omega) (fun j hj => tO.out j hj (by rw [size_data]; omega)) fP.out
      clear tO fP
      by_cases k0 : k = 0
      ·have HN : Hid (eN s.data.toList = none) := by unfold Hid; rw [fS.out, fL _ dR.out, ← fS.out, lI.out, if_pos k0]
       have k1 : ((k : Int) == 0) = true := beq_iff_eq.2 (by omega)
       clear k0
       go_wp2_with fail
       exact ⟨rfl, .tuple #[.pointer none, .string ⟨#[]⟩], by simp [results, Tryz.results210, go_sem], dU HN.out (Up.refl _) rfl⟩
      ·have HN : Hid (eN s.data.toList = some (.node (s.extract 0 k) [], s.data.toList.drop k)) := by
        unfold Hid
        have e : (⟨(s.data.toList.take k).toArray⟩ : ByteArray) = s.extract 0 k := dH (by rw [pW])
        rw [fS.out, fL _ dR.out, ← fS.out, lI.out, if_neg k0, e]
       have HE : Hid (bL (s.data.toList.drop k) = s.extract k s.size) := dH (by rw [kD]; rfl)
       have k1 : ((k : Int) == 0) = false := beq_eq_false_iff_ne.2 (by omega)
       have i4 : (k : Int) ≤ (s.size : Int) := by omega
       clear k0
       go_wp2_with fail
       go_region
       go_wp2_with fail
       exact ⟨rfl, .tuple #[.pointer (some ⟨w.heap.size, 0, none⟩), .string (s.extract k s.size)], by simp [results, Tryz.results210, go_sem], ic HN.out ((Up.alloc w _).trans (Up.drewN _ 1)) (by rw [HE.out]) (rY w _)⟩
     ·skip
      by_cases lY : s[k] = 41
      ·have t41 : (s[k].toNat : Int) = 41 := pX lY rfl
       have fP : Hid (k = s.data.toList.length ∨ ∃ h : k < s.data.toList.length, s.data.toList[k] ∈ bu) := .inr ⟨by rw [size_data]; exact hlt, by show s[k] ∈ bu; rw [lY]; decide⟩
       clear wY lY
       have lI : Hid (nmLen s.data.toList = k) := pY (by rw [size_data]; omega) (fun j hj => tO.out j hj (by rw [size_data]; omega)) fP.out
       clear tO fP
       by_cases k0 : k = 0
       ·have HN : Hid (eN s.data.toList = none) := by unfold Hid; rw [fS.out, fL _ dR.out, ← fS.out, lI.out, if_pos k0]
        have k1 : ((k : Int) == 0) = true := beq_iff_eq.2 (by omega)
        clear k0
        go_wp2_with fail
        exact ⟨rfl, .tuple #[.pointer none, .string ⟨#[]⟩], by simp [results, Tryz.results210, go_sem], dU HN.out (Up.refl _) rfl⟩
       ·have HN : Hid (eN s.data.toList = some (.node (s.extract 0 k) [], s.data.toList.drop k)) := by
         unfold Hid
         have e : (⟨(s.data.toList.take k).toArray⟩ : ByteArray) = s.extract 0 k := dH (by rw [pW])
         rw [fS.out, fL _ dR.out, ← fS.out, lI.out, if_neg k0, e]
        have HE : Hid (bL (s.data.toList.drop k) = s.extract k s.size) := dH (by rw [kD]; rfl)
        have k1 : ((k : Int) == 0) = false := beq_eq_false_iff_ne.2 (by omega)
        have i4 : (k : Int) ≤ (s.size : Int) := by omega
        clear k0
        go_wp2_with fail
        go_region
        go_wp2_with fail
        exact ⟨rfl, .tuple #[.pointer (some ⟨w.heap.size, 0, none⟩), .string (s.extract k s.size)], by simp [results, Tryz.results210, go_sem], ic HN.out ((Up.alloc w _).trans (Up.drewN _ 1)) (by rw [HE.out]) (rY w _)⟩
      ·skip
       by_cases pZ : s[k] = 44
       ·have t44 : (s[k].toNat : Int) = 44 := pX pZ rfl
        have fP : Hid (k = s.data.toList.length ∨ ∃ h : k < s.data.toList.length, s.data.toList[k] ∈ bu) := .inr ⟨by rw [size_data]; exact hlt, by show s[k] ∈ bu; rw [pZ]; decide⟩
        clear wY lY pZ
        have lI : Hid (nmLen s.data.toList = k) := pY (by rw [size_data]; omega) (fun j hj => tO.out j hj (by rw [size_data]; omega)) fP.out
        clear tO fP
        by_cases k0 : k = 0
        ·have HN : Hid (eN s.data.toList = none) := by unfold Hid; rw [fS.out, fL _ dR.out, ← fS.out, lI.out, if_pos k0]
         have k1 : ((k : Int) == 0) = true := beq_iff_eq.2 (by omega)
         clear k0
         go_wp2_with fail
         exact ⟨rfl, .tuple #[.pointer none, .string ⟨#[]⟩], by simp [results, Tryz.results210, go_sem], dU HN.out (Up.refl _) rfl⟩
        ·have HN : Hid (eN s.data.toList = some (.node (s.extract 0 k) [], s.data.toList.drop k)) := by
          unfold Hid
          have e : (⟨(s.data.toList.take k).toArray⟩ : ByteArray) = s.extract 0 k := dH (by rw [pW])
          rw [fS.out, fL _ dR.out, ← fS.out, lI.out, if_neg k0, e]
         have HE : Hid (bL (s.data.toList.drop k) = s.extract k s.size) := dH (by rw [kD]; rfl)
         have k1 : ((k : Int) == 0) = false := beq_eq_false_iff_ne.2 (by omega)
         have i4 : (k : Int) ≤ (s.size : Int) := by omega
         clear k0
         go_wp2_with fail
         go_region
         go_wp2_with fail
         exact ⟨rfl, .tuple #[.pointer (some ⟨w.heap.size, 0, none⟩), .string (s.extract k s.size)], by simp [results, Tryz.results210, go_sem], ic HN.out ((Up.alloc w _).trans (Up.drewN _ 1)) (by rw [HE.out]) (rY w _)⟩
       ·skip
        by_cases Hf : s[k] = 59
        ·have t40 : ¬ (s[k].toNat : Int) = 40 := mL wY rfl
         have b40 : ((s[k].toNat : Int) != 40) = true := bne_iff_ne.2 t40
         have t41 : ¬ (s[k].toNat : Int) = 41 := mL lY rfl
         have b41 : ((s[k].toNat : Int) != 41) = true := bne_iff_ne.2 t41
         have t44 : ¬ (s[k].toNat : Int) = 44 := mL pZ rfl
         have b44 : ((s[k].toNat : Int) != 44) = true := bne_iff_ne.2 t44
         have Qm : ((s[k].toNat : Int) != 59) = false := by rw [bne_eq_false_iff_eq]; exact pX Hf rfl
         have fP : Hid (k = s.data.toList.length ∨ ∃ h : k < s.data.toList.length, s.data.toList[k] ∈ bu) := .inr ⟨by rw [size_data]; exact hlt, by show s[k] ∈ bu; rw [Hf]; decide⟩
         clear wY lY pZ Hf
         have lI : Hid (nmLen s.data.toList = k) := pY (by rw [size_data]; omega) (fun j hj => tO.out j hj (by rw [size_data]; omega)) fP.out
         clear tO fP
         by_cases k0 : k = 0
         ·have HN : Hid (eN s.data.toList = none) := by unfold Hid; rw [fS.out, fL _ dR.out, ← fS.out, lI.out, if_pos k0]
          have k1 : ((k : Int) == 0) = true := beq_iff_eq.2 (by omega)
          clear k0
          go_wp2_with fail
          all_goals first | (exfalso; have hj := ‹((((s[k].toNat : Int) != 40) = true ∧ ((s[k].toNat : Int) != 41) = true) ∧ ((s[k].toNat : Int) != 44) = true) ∧ ((s[k].toNat : Int) != 59) = true›.2; rw [Qm] at hj; cases hj; done) | skip
          exact ⟨rfl, .tuple #[.pointer none, .string ⟨#[]⟩], by simp [results, Tryz.results210, go_sem], dU HN.out (Up.refl _) rfl⟩
         ·have HN : Hid (eN s.data.toList = some (.node (s.extract 0 k) [], s.data.toList.drop k)) := by
           unfold Hid
           have e : (⟨(s.data.toList.take k).toArray⟩ : ByteArray) = s.extract 0 k := dH (by rw [pW])
           rw [fS.out, fL _ dR.out, ← fS.out, lI.out, if_neg k0, e]
          have HE : Hid (bL (s.data.toList.drop k) = s.extract k s.size) := dH (by rw [kD]; rfl)
          have k1 : ((k : Int) == 0) = false := beq_eq_false_iff_ne.2 (by omega)
          have i4 : (k : Int) ≤ (s.size : Int) := by omega
          clear k0
          go_wp2_with fail
          all_goals first | (exfalso; have hj := ‹((((s[k].toNat : Int) != 40) = true ∧ ((s[k].toNat : Int) != 41) = true) ∧ ((s[k].toNat : Int) != 44) = true) ∧ ((s[k].toNat : Int) != 59) = true›.2; rw [Qm] at hj; cases hj; done) | skip
          go_region
          go_wp2_with fail
          exact ⟨rfl, .tuple #[.pointer (some ⟨w.heap.size, 0, none⟩), .string (s.extract k s.size)], by simp [results, Tryz.results210, go_sem], ic HN.out ((Up.alloc w _).trans (Up.drewN _ 1)) (by rw [HE.out]) (rY w _)⟩
        ·skip
         have t40 : ¬ (s[k].toNat : Int) = 40 := mL wY rfl
         have b40 : ((s[k].toNat : Int) != 40) = true := bne_iff_ne.2 t40
         have t41 : ¬ (s[k].toNat : Int) = 41 := mL lY rfl
         have b41 : ((s[k].toNat : Int) != 41) = true := bne_iff_ne.2 t41
         have t44 : ¬ (s[k].toNat : Int) = 44 := mL pZ rfl
         have b44 : ((s[k].toNat : Int) != 44) = true := bne_iff_ne.2 t44
         have t59 : ¬ (s[k].toNat : Int) = 59 := mL Hf rfl
         have Qm : ((s[k].toNat : Int) != 59) = true := bne_iff_ne.2 t59
         have nH : Hid (s[k] ∉ bu) := VQ.2 ⟨wY, lY, pZ, Hf⟩
         have i3 : (k : Int) < 1001 := by have := HS.out; omega
         clear wY lY pZ Hf
         go_wp2_with fail
         all_goals first | (exfalso; have hj := ‹((((s[k].toNat : Int) != 40) = false ∨ ((s[k].toNat : Int) != 41) = false) ∨ ((s[k].toNat : Int) != 44) = false) ∨ ((s[k].toNat : Int) != 59) = false›; rw [b40, b41, b44, Qm] at hj; simp at hj; done) | skip
         go_round
         case rel => exact ⟨k + 1, aQ.out, by go_num, fun j hj hl => by
          by_cases e : j = k
          ·subst e; exact nH.out
          ·exact tO.out j (by omega) hl⟩
         case measure => have := aQ.out; simp [intOf]; omega
    ·skip
     have tO := aa hno.out
     have fP : Hid (k = s.data.toList.length ∨ ∃ h : k < s.data.toList.length, s.data.toList[k] ∈ bu) := .inl (by rw [size_data]; omega)
     have hkn : ¬ (k : Int) < (s.size : Int) := by omega
     have Uj : decide ((k : Int) < (s.size : Int)) = false := decide_eq_false hkn
     have eF : k ≤ s.size := hk
     clear hno hk hlt
     have lI : Hid (nmLen s.data.toList = k) := pY (by rw [size_data]; omega) (fun j hj => tO.out j hj (by rw [size_data]; omega)) fP.out
     clear tO fP
     by_cases k0 : k = 0
     ·have HN : Hid (eN s.data.toList = none) := by unfold Hid; rw [fS.out, fL _ dR.out, ← fS.out, lI.out, if_pos k0]
      have k1 : ((k : Int) == 0) = true := beq_iff_eq.2 (by omega)
      clear k0
      go_wp2_with fail
      exact ⟨rfl, .tuple #[.pointer none, .string ⟨#[]⟩], by simp [results, Tryz.results210, go_sem], dU HN.out (Up.refl _) rfl⟩
     ·have HN : Hid (eN s.data.toList = some (.node (s.extract 0 k) [], s.data.toList.drop k)) := by
       unfold Hid
       have e : (⟨(s.data.toList.take k).toArray⟩ : ByteArray) = s.extract 0 k := dH (by rw [pW])
       rw [fS.out, fL _ dR.out, ← fS.out, lI.out, if_neg k0, e]
      have HE : Hid (bL (s.data.toList.drop k) = s.extract k s.size) := dH (by rw [kD]; rfl)
      have k1 : ((k : Int) == 0) = false := beq_eq_false_iff_ne.2 (by omega)
      have i4 : (k : Int) ≤ (s.size : Int) := by omega
      clear k0
      go_wp2_with fail
      go_region
      go_wp2_with fail
      exact ⟨rfl, .tuple #[.pointer (some ⟨w.heap.size, 0, none⟩), .string (s.extract k s.size)], by simp [results, Tryz.results210, go_sem], ic HN.out ((Up.alloc w _).trans (Up.drewN _ 1)) (by rw [HE.out]) (rY w _)⟩
end
section
open Go.RowKit Go.Deep
theorem Rx {names : List ByteArray} (h5 : names.length ≤ 5 ∨ 7 < names.length) (h0 : bD names = 0) : names.length ≤ 5 := by
 rcases h5 with h5 | h5
 ·exact h5
 ·unfold bD at h0; rw [if_pos (.inr h5)] at h0; cases h0
theorem Jp {names : List ByteArray} {states : List (List Int)} (h5 : names.length ≤ 5 ∨ 7 < names.length) (h0 : fJ names states = 0) : xT names states := by
 have h1 : bD names = 0 := by
  unfold fJ at h0
  split at h0
  ·rename_i h; exact absurd h0 h
  ·rename_i h; omega
 exact (Oq (Rx h5 h1)).1 h0
end
end Go.Proofs.YteegefnjnikngaaGreat
