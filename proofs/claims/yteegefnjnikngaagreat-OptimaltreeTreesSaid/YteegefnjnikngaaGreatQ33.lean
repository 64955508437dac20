/- The contract of phylotree.Parse. -/
import Derived.Test.YteegefnjnikngaaGreatQ1
import Derived.Test.YteegefnjnikngaaGreatQ32
import Derived.Test.YteegefnjnikngaaGreatQ27
import Derived.Test.YteegefnjnikngaaGreatQ31
import Derived.Test.YteegefnjnikngaaGreatQ30
import Derived.Test.YteegefnjnikngaaGreatQ8
set_option maxRecDepth 100000
namespace Go.Proofs.YteegefnjnikngaaGreat
open Go.RowKit Go.Deep
def uV (w : World) (s : ByteArray) (e : Ending) (w' : World) : Prop :=
 Up w w' ∧ ∃ v, e = .returned (.tuple #[v, .int .i64 (qu s)]) ∧ ay Any w' v (nI s)
def UR (s : ByteArray) : Prop := ∀ (i : Nat) (W : World), i < s.size → Calls Tryz.prog 179 #[.string (s.extract i s.size), .string ⟨#[40, 41, 44, 59]⟩] W fun e W' => e = .returned (.int .i64 (Lib.indexAny (s.data.toList.drop i) bu)) ∧ Up W W'
theorem gY {w W : World} {s : ByteArray} (hu : Up w W) (hb : W.heap[w.heap.size]? = some (Obj.cells #[.slice none 0 0, .slice none 0 0] 39 (0, 0))) (h : gH s.data.toList = none) :
    ((W.setCell ⟨w.heap.size, 0, none⟩ (.slice none 0 0)).setCell ⟨w.heap.size, 1, none⟩ (.slice none 0 0)).cell? ⟨w.heap.size, 0, none⟩ = some (.slice none 0 0) ∧ ((W.setCell ⟨w.heap.size, 0, none⟩ (.slice none 0 0)).setCell ⟨w.heap.size, 1, none⟩ (.slice none 0 0)).cell? ⟨w.heap.size, 1, none⟩ = some (.slice none 0 0) ∧
      uV w s (.returned (.tuple #[.agg #[.slice none 0 0, .slice none 0 0], .int .i64 3])) ((W.setCell ⟨w.heap.size, 0, none⟩ (.slice none 0 0)).setCell ⟨w.heap.size, 1, none⟩ (.slice none 0 0)) := by
  obtain ⟨s1, s2, s3, s4⟩ := dg (p := .slice none 0 0) (q := .slice none 0 0) hb (Nat.le_refl _) hu
  refine ⟨s2, s3, s1, .agg #[.slice none 0 0, .slice none 0 0], by unfold qu; rw [h], ?_⟩
  unfold nI; rw [h]; exact xK _
theorem yZ {c d : UInt8} {z : Int} (h : c ≠ d) (hz : z = d.toNat) : ((c.toNat : Int) == z) = false := by
 subst hz
 rw [beq_eq_false_iff_ne]
 intro e
 exact h (UInt8.toNat_inj.1 (by omega))
theorem vR {c d : UInt8} {z : Int} (h : c = d) (hz : z = d.toNat) : ((c.toNat : Int) == z) = true := by
 subst hz; subst h; exact beq_self_eq_true _
set_option maxHeartbeats 8000000 in
theorem Q8 (w : World) (s : ByteArray) (hs : s.size ≤ 1000) (Ep : UR s) :
  Calls Tryz.prog 131 #[.string s] w (uV w s) := by
 have hrb := fW (w := w) (P := .slice none 0 0) (N := .slice none 0 0) (T := 39)
 have hu := Up.alloc w (.cells #[.slice none 0 0, .slice none 0 0] 39)
 have hsz : (w.alloc (.cells #[.slice none 0 0, .slice none 0 0] 39)).heap.size = w.heap.size + 1 := World.size_alloc _ _
 have HU := aa hu
 have b5 := aa hsz
 have jJ := aa hrb
 have UT := aa Ep
 have d1 : decide ((65536 : Int) < (s.size : Int)) = false := decide_eq_false (by omega)
 have PO : ¬ 65536 < s.size := by omega
 clear hrb hu hsz Ep
 go_enter Tryz.func131, Tryz.ntmps131
 go_wp2_with fail
 have HST := aa (N6 (w.alloc (.cells #[.slice none 0 0, .slice none 0 0] 39)) s)
 rw [b5.out] at HST
 generalize w.alloc (.cells #[.slice none 0 0, .slice none 0 0] 39) = w1 at *
 have bH : Hid (∀ wr, Below (w.heap.size + 1) w1 wr → wr.heap[w.heap.size]? = some (Obj.cells #[.slice none 0 0, .slice none 0 0] 39 (0, 0)) ∧ Up w wr) := fun wr h => ⟨(h.block _ (Nat.lt_succ_self _)).trans jJ.out, HU.out.trans (h.mono (by rw [b5.out]; exact Nat.le_refl _))⟩
 go_loopw [5, 6, 7, 8, 9, 10, 11, 12, 66, 86, 101, 111] (fun ov dn i _ _ _ _ _ _ _ _ _ wr => ∃ (k : Nat) (b : Bool), k ≤ s.size ∧ i = .int .i64 k ∧ dn = .bool b ∧ Hid (yY (w.heap.size + 1) s (gH s.data.toList) w1 (w.heap.size + 1) k b ov wr)) (fun _ _ i _ _ _ _ _ _ _ _ _ _ => s.size - (intOf i).toNat)
 case atStart => exact ⟨0, false, Nat.zero_le _, rfl, rfl, HST.out⟩
 case round =>
  obtain ⟨k, b, hk, rfl, rfl, hO⟩ := hrel
  obtain ⟨wo, rfl⟩ : ∃ wo : World, wo = wr := ⟨_, rfl⟩
  by_cases hlt : k < s.size
  ·obtain ⟨n, A, kv, F, o, os, Z, st, f, hM⟩ := hO.out
   obtain ⟨g, cap, PN, Xe, hrow⟩ := hM.row
   
   obtain ⟨f', ch, rD, hf2, hdr, hch⟩ := hM.step hlt
   have HF := aa rD
   have Ds := aa hf2
   have N8 := hdr
   have i1 : (0 : Int) ≤ (k : Int) := by omega
   have i2 : (k : Int) < (s.size : Int) := by omega
   have ZA := hM.ol
   have aQ := aa hlt
   obtain ⟨m, hm⟩ : ∃ m, m = os.length := ⟨_, rfl⟩
   have Ll := aa hm
   rw [← hm] at PN Xe hrow ZA
   subst PN
   have w1a : wrap64 (m : Int) = (m : Int) := by unfold wrap64; omega
   have w1b : (0 : Int) ≤ (m : Int) := by omega
   have w1c : (m : Int) < (m : Int) + 1 := by omega
   have w1d : m < m + 1 := by omega
   have w1e : m + 1 ≤ 1000000 := by omega
   have HM := aa hM
   clear hm ZA
   clear hO hM rD hf2 hdr
   have hfr := HM.out.fr.thaw HM.out.zf.on 1
   obtain ⟨q0, q1, q2, q3⟩ := boxed (bH.out wo HM.out.up).1
   have qw : Hid (∀ x, pz (f' + 1) (ch :: s.data.toList.drop (k + 1)) (Z :: st) b = x → gH s.data.toList = x) := fun x hx => by
    have hr := HM.out.run; rw [HF.out, N8] at hr; rw [← hr]; exact hx
   have PR := aa N8
   have zV : Hid ((Z :: st).length = m + 1) := by have h := HM.out.zf.len; rw [Hid, Ll.out]; simp at h ⊢; omega
   clear N8
   by_cases Er : ch = 40
   ·have e1 := vR (z := 40) Er rfl
    subst Er
    cases b with
    | true =>
     have HST := aa (gY (bH.out wo HM.out.up).2 (bH.out wo HM.out.up).1 (qw.out none (by simp [pz])))
     go_wp2_with fail
     obtain ⟨s2, s3, hp⟩ := HST.out
     exact ⟨rfl, .tuple #[.agg #[.slice none 0 0, .slice none 0 0], .int .i64 3], by simp [results, Tryz.results131, go_sem, s2, s3], hp⟩
    | false =>
     have hkc := (Up.alloc wo (.cells #[.string ⟨#[]⟩, .slice none 0 0, .int .i64 0] 127)).cell (HM.out.fr.nt HM.out.zf.on)
     have hs1 : (wo.alloc (.cells #[.string ⟨#[]⟩, .slice none 0 0, .int .i64 0] 127)).heap.size = wo.heap.size + 1 := World.size_alloc _ _
     have jY := aa hs1
     have HOW : Hid (az (w.heap.size + 1) 124 (wo.alloc (.cells #[.string ⟨#[]⟩, .slice none 0 0, .int .i64 0] 127)) (kv o) ((F.kids o).map (aT A))) := (HM.out.fr.own o HM.out.zf.on).alloc _
     have kI : Hid (w.heap.size + 1 ≤ wo.heap.size) := Nat.le_trans (Nat.le_of_eq b5.out.symm) HM.out.up.size
     have UU : Hid (w.heap.size + 1 ≤ (wo.alloc (.cells #[.string ⟨#[]⟩, .slice none 0 0, .int .i64 0] 127)).heap.size) := by rw [Hid, jY.out]; exact Nat.le_succ_of_le kI.out
     have Lm := aa HM.out.UN
     have nH : Hid (∀ g2 m2 cW w', az (w.heap.size + 1) 124 w' (.slice (some ⟨g2, 0, none⟩) m2 cW) ((F.kids o).map (aT A) ++ [.pointer (some ⟨wo.heap.size, 0, none⟩)]) → (wo.alloc (.cells #[.string ⟨#[]⟩, .slice none 0 0, .int .i64 0] 127)).grownBy w' (kv o).ownBlock → ((kv o).ownBlock = some g2 ∨ (wo.alloc (.cells #[.string ⟨#[]⟩, .slice none 0 0, .int .i64 0] 127)).heap.size ≤ g2) →
       (w'.cell? ⟨A o, 1, none⟩ = some (kv o) ∧ w'.frozen? ⟨A o, 1, none⟩ = false) ∧ ∃ A' kv', A' n = wo.heap.size ∧ PM (w.heap.size + 1) w1 (w.heap.size + 1) (.slice (some ⟨g, 0, none⟩) (m + 1) cap) n A' kv' (gC F n o ByteArray.empty) (o :: os) (w'.setCell ⟨A o, 1, none⟩ (.slice (some ⟨g2, 0, none⟩) m2 cW))) := fun g2 m2 cW w' h1 h2 h3 =>
      ⟨HM.out.store h2, HM.out.node ByteArray.empty kI.out h1 h2 (by rw [jY.out] at h3; exact h3)⟩
     have kO : Hid (n < 2000) := by have := HM.out.nk; unfold Hid; omega
     clear hs1
     generalize kv o = kvo at *
     have yl : Hid (gH s.data.toList = pz f' (s.data.toList.drop (k + 1)) ([] :: Z :: st) false) := qw.out _ (by simp [pz])
     go_wp2_with (first | (at_builtin; refine uU (wo.alloc (.cells #[.string ⟨#[]⟩, .slice none 0 0, .int .i64 0] 127)) rfl _ _ 125 rfl (w.heap.size + 1) 124 (.pointer none) 8 Tryz.underlying125 Tryz.oL rfl (by decide) HOW.out rfl (.pointer (some ⟨wo.heap.size, 0, none⟩)) (wo.heap.size + 1) jY.out rfl rfl _ Lm.out.1 Lm.out.2 UU.out ?_; intro g8 iG w8 bZ cH fI; obtain ⟨⟨UW, ZB⟩, A8, kv8, wU, Lp⟩ := nH.out _ _ _ w8 bZ cH fI; have ZC := aa Lp; have UX := aa wU; have UY : Hid (w.heap.size + 1 ≤ (w8.setCell ⟨A o, 1, none⟩ (.slice (some ⟨g8, 0, none⟩) ((F.kids o).length + 1) iG)).heap.size) := (by rw [Hid, World.size_setCell]; exact Nat.le_trans UU.out cH.size); clear bZ cH fI wU Lp) | (at_builtin; refine uU (w8.setCell ⟨A o, 1, none⟩ (.slice (some ⟨g8, 0, none⟩) ((F.kids o).length + 1) iG)) rfl _ _ 125 rfl (w.heap.size + 1) 124 (.pointer none) 8 Tryz.underlying125 Tryz.oL rfl (by decide) ZC.out.own rfl (.pointer (some ⟨wo.heap.size, 0, none⟩)) w8.heap.size (World.size_setCell _ _ _) rfl rfl (m + 1) (by rw [Ll.out]; simp) (by omega) UY.out ?_; intro g9 cap9 w9 I1 zW UZ; have HP9 : Hid (yY (w.heap.size + 1) s (gH s.data.toList) w1 (w.heap.size + 1) (k + 1) false (.slice (some ⟨g9, 0, none⟩) (m + 1 + 1) cap9) w9) := HM.out.opened kO.out ZC.out UY.out (by unfold aT at I1 ⊢; rw [UX.out]; exact I1) zW UZ yl.out.symm Ds.out; clear I1 zW UZ))
     go_roundw
     case rel => exact ⟨k + 1, false, aQ.out, by go_num, rfl, HP9.out⟩
     case measure => have := aQ.out; simp [intOf]; omega
   ·have e1 := yZ (z := 40) Er rfl
    by_cases Es : ch = 41
    ·have e2 := vR (z := 41) Es rfl
     subst Es
     cases b with
     | false =>
      have HST := aa (gY (bH.out wo HM.out.up).2 (bH.out wo HM.out.up).1 (qw.out none (by simp [pz])))
      go_wp2_with fail
      obtain ⟨s2, s3, hp⟩ := HST.out
      exact ⟨rfl, .tuple #[.agg #[.slice none 0 0, .slice none 0 0], .int .i64 3], by simp [results, Tryz.results131, go_sem, s2, s3], hp⟩
     | true =>
      by_cases hm0 : m = 0
      ·have d2 : (((m : Int) + 1) == 1) = true := by rw [hm0]; rfl
       have HST := aa (gY (bH.out wo HM.out.up).2 (bH.out wo HM.out.up).1 (qw.out none (by have h := zV.out; rw [hm0] at h; rw [pz, if_neg (by decide), if_pos rfl, if_pos (.inr h)])))
       clear hm0
       go_wp2_with fail
       obtain ⟨s2, s3, hp⟩ := HST.out
       exact ⟨rfl, .tuple #[.agg #[.slice none 0 0, .slice none 0 0], .int .i64 3], by simp [results, Tryz.results131, go_sem, s2, s3], hp⟩
      ·have d2 : (((m : Int) + 1) == 1) = false := beq_eq_false_iff_ne.2 (by omega)
       obtain ⟨q, os2, rfl⟩ : ∃ q os2, os = q :: os2 := by
        cases os with
        | nil => exact absurd (by have := Ll.out; simpa using this) hm0
        | cons q os2 => exact ⟨q, os2, rfl⟩
       obtain ⟨Y, st2, rfl⟩ : ∃ Y st2, st = Y :: st2 := by
        cases st with
        | nil => exact absurd (by have := zV.out; simp at this; omega) hm0
        | cons Y st2 => exact ⟨Y, st2, rfl⟩
       have yl : Hid (gH s.data.toList = pz f' (s.data.toList.drop (k + 1)) ((Y ++ [.node ByteArray.empty Z]) :: st2) true) := qw.out _ (by simp [pz, popZ])
       have ZE : Hid (m = os2.length + 1) := by have := Ll.out; simp at this; exact this
       have HN : Hid (yY (w.heap.size + 1) s (gH s.data.toList) w1 (w.heap.size + 1) (k + 1) true (.slice (some ⟨g, 0, none⟩) m cap) wo) := by
        rw [ZE.out]
        exact HM.out.UO (by rw [ZE.out]) yl.out.symm Ds.out
       have w1f : (m : Int) ≤ (cap : Int) := by omega
       clear hm0
       go_wp2_with fail
       go_roundw
       case rel => exact ⟨k + 1, true, aQ.out, by go_num, rfl, HN.out⟩
       case measure => have := aQ.out; simp [intOf]; omega
    ·have e2 := yZ (z := 41) Es rfl
     by_cases Et : ch = 44
     ·have e3 := vR (z := 44) Et rfl
      subst Et
      cases b with
      | false =>
       have HST := aa (gY (bH.out wo HM.out.up).2 (bH.out wo HM.out.up).1 (qw.out none (by simp [pz])))
       go_wp2_with fail
       obtain ⟨s2, s3, hp⟩ := HST.out
       exact ⟨rfl, .tuple #[.agg #[.slice none 0 0, .slice none 0 0], .int .i64 3], by simp [results, Tryz.results131, go_sem, s2, s3], hp⟩
      | true =>
       by_cases hm0 : m = 0
       ·have d2 : (((m : Int) + 1) == 1) = true := by rw [hm0]; rfl
        have HST := aa (gY (bH.out wo HM.out.up).2 (bH.out wo HM.out.up).1 (qw.out none (by have h := zV.out; rw [hm0] at h; rw [pz, if_neg (by decide), if_neg (by decide), if_pos rfl, if_pos (.inr h)])))
        clear hm0
        go_wp2_with fail
        obtain ⟨s2, s3, hp⟩ := HST.out
        exact ⟨rfl, .tuple #[.agg #[.slice none 0 0, .slice none 0 0], .int .i64 3], by simp [results, Tryz.results131, go_sem, s2, s3], hp⟩
       ·have d2 : (((m : Int) + 1) == 1) = false := beq_eq_false_iff_ne.2 (by omega)
        have yl : Hid (gH s.data.toList = pz f' (s.data.toList.drop (k + 1)) (Z :: st) false) := qw.out _ (by have h := zV.out; rw [pz, if_neg (by decide), if_neg (by decide), if_pos rfl, if_neg (by rw [h]; simp; omega)])
        have HN : Hid (yY (w.heap.size + 1) s (gH s.data.toList) w1 (w.heap.size + 1) (k + 1) false (.slice (some ⟨g, 0, none⟩) (m + 1) cap) wo) := HM.out.comma yl.out.symm Ds.out
        clear hm0
        go_wp2_with fail
        go_roundw
        case rel => exact ⟨k + 1, false, aQ.out, by go_num, rfl, HN.out⟩
        case measure => have := aQ.out; simp [intOf]; omega
     ·have e3 := yZ (z := 44) Et rfl
      by_cases Eu : ch = 59
      ·have e4 := vR (z := 59) Eu rfl
       subst Eu
       cases b with
       | false =>
        have HST := aa (gY (bH.out wo HM.out.up).2 (bH.out wo HM.out.up).1 (qw.out none (by simp [pz])))
        go_wp2_with fail
        obtain ⟨s2, s3, hp⟩ := HST.out
        exact ⟨rfl, .tuple #[.agg #[.slice none 0 0, .slice none 0 0], .int .i64 3], by simp [results, Tryz.results131, go_sem, s2, s3], hp⟩
       | true =>
        by_cases hm0 : m = 0
        ·have d2 : (((m : Int) + 1) != 1) = false := by rw [hm0]; rfl
         by_cases hk1 : k + 1 = s.size
         ·have d3 : ((k : Int) != (s.size : Int) - 1) = false := by simp; omega
          have hos : os = [] := List.eq_nil_of_length_eq_zero (by have := Ll.out; omega)
          subst hos
          have hst0 : st = [] := List.eq_nil_of_length_eq_zero (by have := zV.out; simp at this; omega)
          subst hst0
          obtain ⟨r, Y, rfl⟩ : ∃ r Y, Z = r :: Y := by
           have := HM.out.UL rfl
           cases Z with
           | nil => exact absurd rfl this
           | cons r Y => exact ⟨r, Y, rfl⟩
          have wm : o = 0 := by have := HM.out.last; simpa using this
          subst wm
          have U0 : s.data.toList.drop (k + 1) = [] := List.drop_eq_nil_of_le (by rw [Array.length_toList]; have : s.data.size = s.size := rfl; omega)
          have mQ : gH s.data.toList = some r := qw.out (some r) (by rw [U0]; simp [pz, firstZ])
          obtain ⟨c, ks, hkc, dr, htr⟩ := HM.out.zf.done
          have fu : s.data.toList.length = s.size := by rw [Array.length_toList]; rfl
          obtain ⟨y5, y6, BN⟩ := uT mQ
          rw [fu] at y5 y6
          have Ev := aa y5
          have Ew := aa y6
          have Ex : Hid (∀ k, (gs (flat r).ns k).size ≤ 70000) := fun j => by have := BN j; rw [fu] at this; omega
          have tG := aa mQ
          have PT := HM.out.a0
          have hkv := HM.out.fr.nt HM.out.zf.on
          have hown := HM.out.fr.own 0 HM.out.zf.on
          rw [hkc, List.map_cons] at hown
          rw [PT] at hkv
          obtain ⟨kq, kcap, N9, Lr⟩ := hown.form (n := (ks.map (aT A)).length + 1) (by simp)
          obtain ⟨kg, rfl⟩ : ∃ kg, kq = some ⟨kg, 0, none⟩ := by
           rcases Lr with rfl | h2
           ·obtain ⟨_, h3 | ⟨g, _, _, h3, _⟩⟩ := hown
            ·have := h3.2; simp at this
            ·rw [N9] at h3; cases h3
           ·exact h2
          rw [N9] at hown hkv
          have Ls := (BF hown (j := 0) (u := aT A c) (by simp)).1
          simp only [aT] at Ls
          have Gp := aa (Kw HM.out.zf.wf (fun i hi => Nat.le_trans (mg (HM.out.zf.nd i hi) (fun x hx => (HM.out.zf.kid i hi x hx).2)) (by have := HM.out.nk; omega)) wo c dr HM.out.fr (by
           have h1 : (cK F jX c none).length = (bz F jX c).length := by
            simp [bz]
           have h2 := mg (BG HM.out.zf.wf HM.out.zf.one HM.out.zf.nd (fun i _ => Ee i) dr) (fun x hx => l9 HM.out.zf.wf dr (Nat.le_refl _) ((cV HM.out.zf.wf dr (Nat.le_refl _)).1 hx))
           have := HM.out.nk
           omega))
          rw [htr] at Gp
          have U1 := aa (bH.out wo HM.out.up).1
          have jU := aa (bH.out wo HM.out.up).2
          have Lt : Hid (w.heap.size + 1 ≤ wo.heap.size) := Nat.le_trans (Nat.le_of_eq b5.out.symm) HM.out.up.size
          have i9 : (0 : Int) < ((ks.map (aT A)).length : Int) + 1 := by omega
          clear hm0 hk1 U0 mQ hkc htr fu y5 y6 BN hown N9 Lr dr
          generalize (ks.map (aT A)).length = kl at *
          go_wp2_with fail
          refine Gp.out.mono ?_
          rintro e w4 ⟨b6, _, rfl, P4, N4, rfl, dD, dF⟩
          obtain ⟨pp, pc, rfl, _, _⟩ := aA.open dD
          obtain ⟨np, nc, rfl, _, _⟩ := aA.open dF
          have dD : ax _ w4 (.slice pp (flat r).ps.length pc) (flat r).ps := dD
          have dF : au _ w4 (.slice np (flat r).ns.length nc) (flat r).ns := dF
          have aZ := Up.alloc w4 (.cells #[.slice pp (flat r).ps.length pc, .slice np (flat r).ns.length nc] 39)
          have b0 := dO w4 (.slice pp (flat r).ps.length pc) (.slice np (flat r).ns.length nc) 39
          have b1 := dP w4 (.slice pp (flat r).ps.length pc) (.slice np (flat r).ns.length nc) 39
          have gG := aa b0
          have eO := aa b1
          have uW := (Below.block (b6.trans aZ) w.heap.size (by have := Lt.out; omega)).trans U1.out
          have Ey := aa uW
          have Ez := aa (jU.out.trans (b6.trans aZ))
          have pI : Hid (ay (fun b => wo.heap.size ≤ b) (w4.alloc (.cells #[.slice pp (flat r).ps.length pc, .slice np (flat r).ns.length nc] 39)) (.agg #[.slice pp (flat r).ps.length pc, .slice np (flat r).ns.length nc]) (flat r)) := ay.keep ⟨_, _, rfl, dD, dF⟩ (aZ.kept _)
          have fN := aa (q8 _ _ _ (flat r) pI.out (by have := Ev.out; omega) (by have := Ew.out; omega) Ex.out)
          have Lu : Hid (wo.heap.size ≤ (w4.alloc (.cells #[.slice pp (flat r).ps.length pc, .slice np (flat r).ns.length nc] 39)).heap.size) := (b6.trans aZ).size
          clear b6 dD dF aZ Gp uW jU U1 q0 q1 q2 q3 Ls hkv
          go_wp2_with fail
          generalize w4.alloc (.cells #[.slice pp (flat r).ps.length pc, .slice np (flat r).ns.length nc] 39) = w5 at *
          refine fN.out.mono ?_
          rintro e w6 ⟨rfl, dz⟩
          have dz : Up w5 w6 := dz
          have b0 := dz.cell gG.out
          have b1 := dz.cell eO.out
          have pJ := (Below.block dz w.heap.size (by have := Lt.out; have := Lu.out; omega)).trans Ey.out
          have xN := aa pJ
          have xO := aa (Ez.out.trans dz)
          have BO := aa (pI.out.keep (dz.kept _))
          obtain ⟨q0, q1, q2, q3⟩ := boxed pJ
          have uX : Hid (qu s = aB (flat r)) := by unfold Hid qu; rw [tG.out]
          have o5 : Hid (nI s = if aB (flat r) ≠ 0 then ⟨[], []⟩ else flat r) := by unfold Hid nI; rw [tG.out]
          clear dz pJ fN
          by_cases he : aB (flat r) = 0
          ·have xP : Hid (nI s = flat r) := by unfold Hid; rw [o5.out, if_neg (by simp [he])]
           have Oa : Hid (qu s = 0) := by unfold Hid; rw [uX.out, he]
           rw [he]
           have HST := aa (dg (w := w) (p := .slice pp (flat r).ps.length pc) (q := .slice np (flat r).ns.length nc) xN.out (Nat.le_refl _) xO.out)
           clear he
           go_wp2_with fail
           obtain ⟨s1, s2, s3, s4⟩ := HST.out
           obtain ⟨P7, N7, e7, ym, Lv⟩ := BO.out
           have e8 : P7 = .slice pp (flat r).ps.length pc ∧ N7 = .slice np (flat r).ns.length nc := by
            injection e7 with e7
            have := congrArg Array.toList e7
            simp at this
            exact ⟨this.1.symm, this.2.symm⟩
           obtain ⟨rfl, rfl⟩ := e8
           have hsw := Lt.out
           refine ⟨rfl, .tuple #[.agg #[.slice pp (flat r).ps.length pc, .slice np (flat r).ns.length nc], .int .i64 0], by simp [results, Tryz.results131, go_sem, s2, s3], ?_⟩
           refine ⟨s1, _, by rw [Oa.out], ?_⟩
           rw [xP.out]
           exact ⟨_, _, rfl, (ax.keep ym fun b hb _ => s4 b (by omega)).sub fun b _ _ => trivial, (au.keep Lv fun b hb _ => s4 b (by omega)).sub fun b _ _ => trivial⟩
          ·have yD : (aB (flat r) != 0) = true := by simpa using he
           have xP : Hid (nI s = ⟨[], []⟩) := by unfold Hid; rw [o5.out, if_pos he]
           have HST := aa (dg (w := w) (p := .slice none 0 0) (q := .slice none 0 0) xN.out (Nat.le_refl _) xO.out)
           clear he
           generalize aB (flat r) = te at *
           go_wp2_with fail
           obtain ⟨s1, s2, s3, s4⟩ := HST.out
           refine ⟨rfl, .tuple #[.agg #[.slice none 0 0, .slice none 0 0], .int .i64 te], by simp [results, Tryz.results131, go_sem, s2, s3], ?_⟩
           refine ⟨s1, _, by rw [uX.out], ?_⟩
           rw [xP.out]; exact xK _
         ·have d3 : ((k : Int) != (s.size : Int) - 1) = true := by simp; omega
          have HST := aa (gY (bH.out wo HM.out.up).2 (bH.out wo HM.out.up).1 (qw.out none (by
           have hne : s.data.toList.drop (k + 1) ≠ [] := fun e => by
            have := List.drop_eq_nil_iff.1 e
            rw [Array.length_toList] at this
            have h2 : s.data.size = s.size := rfl
            omega
           rw [pz, if_neg (by decide), if_neg (by decide), if_neg (by decide), if_pos rfl, if_pos (.inr (.inr hne))])))
          clear hm0 hk1
          go_wp2_with fail
          obtain ⟨s2, s3, hp⟩ := HST.out
          exact ⟨rfl, .tuple #[.agg #[.slice none 0 0, .slice none 0 0], .int .i64 3], by simp [results, Tryz.results131, go_sem, s2, s3], hp⟩
        ·have d2 : (((m : Int) + 1) != 1) = true := by simp; omega
         have HST := aa (gY (bH.out wo HM.out.up).2 (bH.out wo HM.out.up).1 (qw.out none (by have h := zV.out; rw [pz, if_neg (by decide), if_neg (by decide), if_neg (by decide), if_pos rfl, if_pos (.inr (.inl (by rw [h]; omega)))])))
         clear hm0
         go_wp2_with fail
         obtain ⟨s2, s3, hp⟩ := HST.out
         exact ⟨rfl, .tuple #[.agg #[.slice none 0 0, .slice none 0 0], .int .i64 3], by simp [results, Tryz.results131, go_sem, s2, s3], hp⟩
      ·have e4 := yZ (z := 59) Eu rfl
       cases b with
       | true =>
        have HST := aa (gY (bH.out wo HM.out.up).2 (bH.out wo HM.out.up).1 (qw.out none (by rw [pz, if_neg Er, if_neg Es, if_neg Et, if_neg Eu, if_pos rfl])))
        go_wp2_with fail
        obtain ⟨s2, s3, hp⟩ := HST.out
        exact ⟨rfl, .tuple #[.agg #[.slice none 0 0, .slice none 0 0], .int .i64 3], by simp [results, Tryz.results131, go_sem, s2, s3], hp⟩
       | false =>
        have mS : Hid (ch ∉ bu) := zU Er Es Et Eu
        have U2 : Hid (∀ x, (if Lib.indexAny (s.data.toList.drop k) bu < 0 then none else pz f' ((s.data.toList.drop k).drop (Lib.indexAny (s.data.toList.drop k) bu).toNat) ((Z ++ [.node ⟨((s.data.toList.drop k).take (Lib.indexAny (s.data.toList.drop k) bu).toNat).toArray⟩ []]) :: st) true) = x → gH s.data.toList = x) := fun x hx => qw.out x (by
         rw [pz, if_neg Er, if_neg Es, if_neg Et, if_neg Eu, if_neg (by simp), ← PR.out]; exact hx)
        have BC := aa (UT.out k wo aQ.out)
        clear Er Es Et Eu
        have i3 : (k : Int) ≤ (s.size : Int) := by omega
        go_wp2_with fail
        refine BC.out.mono ?_
        rintro e w3 ⟨rfl, b9⟩
        have PU := aa (HM.out.UQ b9)
        obtain ⟨q0, q1, q2, q3⟩ := boxed (bH.out w3 PU.out.up).1
        clear b9 BC
        by_cases Ep : Lib.indexAny (s.data.toList.drop k) bu < 0
        ·have d5 : decide (Lib.indexAny (s.data.toList.drop k) bu < 0) = true := decide_eq_true Ep
         have HST := aa (gY (bH.out w3 PU.out.up).2 (bH.out w3 PU.out.up).1 (U2.out none (by rw [if_pos Ep])))
         clear Ep
         generalize Lib.indexAny (s.data.toList.drop k) bu = ia at *
         go_wp2_with fail
         obtain ⟨s2, s3, hp⟩ := HST.out
         exact ⟨rfl, .tuple #[.agg #[.slice none 0 0, .slice none 0 0], .int .i64 3], by simp [results, Tryz.results131, go_sem, s2, s3], hp⟩
        ·obtain ⟨x, hx⟩ : ∃ x : Nat, Lib.indexAny (s.data.toList.drop k) bu = (x : Int) := ⟨(Lib.indexAny (s.data.toList.drop k) bu).toNat, by omega⟩
         have hx1 : 1 ≤ x := by
          have h1 := Eh (s := s.data.toList.drop (k + 1)) mS.out
          rw [← PR.out, hx] at h1
          omega
         have hx2 : k + x < s.size := by
          have h1 := PK _ x hx
          rw [List.length_drop, Array.length_toList] at h1
          have h2 : s.data.size = s.size := rfl
          omega
         have HRUN : Hid (pz f' (s.data.toList.drop (k + x)) ((Z ++ [.node (s.extract k (k + x)) []]) :: st) true = gH s.data.toList) := by
          have h1 := U2.out _ rfl
          rw [hx, if_neg (by omega), Int.toNat_natCast, List.drop_drop, IU s k x] at h1
          exact h1.symm
         rw [hx]
         have d5 : decide ((x : Int) < 0) = false := decide_eq_false (by omega)
         have rN := aa hx2
         have jc := aa hx1
         have j1 : (0 : Int) ≤ (x : Int) := by omega
         have j2 : (k : Int) ≤ (k : Int) + (x : Int) := by omega
         have j3 : (k : Int) + (x : Int) ≤ (s.size : Int) := by omega
         have j4 : IntKind.i64.wrap ((k : Int) + (x : Int)) = (k : Int) + (x : Int) := by rw [IntKind.wrap_i64]; omega
         have j5 : ((k : Int) + (x : Int)).toNat = k + x := by omega
         have j6 : (0 : Int) ≤ (k : Int) + (x : Int) := by omega
         have tH := aa PU.out.drew
         have hkc := tH.out.fr.nt tH.out.zf.on
         have hkf := tH.out.fr.thaw tH.out.zf.on 1
         clear Ep hx hx1 U2
         go_wp2_with fail
         refine cZ (by kernel_rfl) 18 (fun w' => w'.cell? ⟨A o, 1, none⟩ = some (kv o)) hkc (fun hS => ?_)
         simp only [List.size_toArray, List.length_cons, List.length_nil, Nat.reduceAdd, Array.replicate_succ, Array.replicate_zero, List.push_toArray, List.nil_append, List.cons_append]
         refine af.take (i := 0) (v := ?sH) rfl (by kernel_rfl) (fun _ _ _ h => h) (by rfl) (fun w hSw => ?iD) hS ?sI
         case iD =>
          (try dsimp only at hSw)
          go_simp
          try with_reducible rfl
         try simp only [Act.put, ah, aj, aq]
         refine af.take (i := 1) (v := ?sJ) rfl (by kernel_rfl) (fun _ _ _ h => h) (by rfl) (fun w hSw => ?iE) hS ?sK
         case iE =>
          (try dsimp only at hSw)
          go_simp
          try with_reducible rfl
         try simp only [Act.put, ah, aj, aq]
         refine af.take (i := 2) (v := ?vE) rfl (by kernel_rfl) (fun _ _ _ h => h) (by rfl) (fun w hSw => ?jC) hS ?vF
         case jC =>
          (try dsimp only at hSw)
          go_simp
          try with_reducible rfl
         try simp only [Act.put, ah, aj, aq]
         refine af.take (i := 3) (v := ?vG) rfl (by kernel_rfl) (fun _ _ _ h => h) (by rfl) (fun w hSw => ?jD) hS ?vH
         case jD =>
          (try dsimp only at hSw)
          go_simp
          try with_reducible rfl
         try simp only [Act.put, ah, aj, aq]
         refine af.take (i := 4) (v := ?vI) rfl (by kernel_rfl) (fun _ _ _ h => h) (by rfl) (fun w hSw => ?jE) hS ?vJ
         case jE =>
          (try dsimp only at hSw)
          go_simp
          try with_reducible rfl
         try simp only [Act.put, ah, aj, aq]
         refine af.take (i := 5) (v := ?vK) rfl (by kernel_rfl) (fun _ _ _ h => h) (by rfl) (fun w hSw => ?jF) hS ?vL
         case jF =>
          (try dsimp only at hSw)
          go_simp
          try with_reducible rfl
         try simp only [Act.put, ah, aj, aq]
         refine af.take (i := 6) (v := ?yO) rfl (by kernel_rfl) (fun _ _ _ h => h) (by rfl) (fun w hSw => ?lK) hS ?yP
         case lK =>
          (try dsimp only at hSw)
          go_simp
          try with_reducible rfl
         try simp only [Act.put, ah, aj, aq]
         refine af.take (i := 7) (v := ?Cr) rfl (by kernel_rfl) (fun _ _ _ h => h) (by rfl) (fun w hSw => ?nT) hS ?Cs
         case nT =>
          (try dsimp only at hSw)
          go_simp
          try with_reducible rfl
         try simp only [Act.put, ah, aj, aq]
         refine af.take (i := 8) (v := ?IC) rfl (by kernel_rfl) (fun _ _ _ h => h) (by rfl) (fun w hSw => ?sL) hS ?ID
         case sL =>
          (try dsimp only at hSw)
          go_simp
          try with_reducible rfl
         try simp only [Act.put, ah, aj, aq]
         refine af.take (i := 9) (v := ?PV) rfl (by kernel_rfl) (fun _ _ _ h => h) (by rfl) (fun w hSw => ?y7) hS ?PW
         case y7 =>
          (try dsimp only at hSw)
          go_simp
          try with_reducible rfl
         try simp only [Act.put, ah, aj, aq]
         refine af.take (i := 10) (v := ?Lx) rfl (by kernel_rfl) (fun _ _ _ h => h) (by rfl) (fun w hSw => ?uY) hS ?Lz
         case uY =>
          (try dsimp only at hSw)
          go_simp
          try with_reducible rfl
         try simp only [Act.put, ah, aj, aq]
         refine af.take (i := 11) (v := ?U3) rfl (by kernel_rfl) (fun _ _ _ h => h) (by rfl) (fun w hSw => ?EA) hS ?U4
         case EA =>
          (try dsimp only at hSw)
          go_simp
          try with_reducible rfl
         try simp only [Act.put, ah, aj, aq]
         refine af.step (i := 12) rfl (by kernel_rfl) (fun K' hK => ?_)
         go_simp
         refine hK.out _ _ (fun _ => (Up.alloc _ _).cell hkc) (fun hS => ?_)
         try simp only [ah, aj, aq]
         have HOW : Hid (az (w.heap.size + 1) 124 ((w3.drew.alloc (.cells #[.string (s.extract k (k + x)), .slice none 0 0, .int .i64 0] 127)).alloc (.cells #[.pointer (some ⟨w3.drew.heap.size, 0, none⟩)] 124)) (kv o) ((F.kids o).map (aT A))) := ((tH.out.fr.own o tH.out.zf.on).alloc _).alloc _
         have rH : (w3.drew.alloc (.cells #[.string (s.extract k (k + x)), .slice none 0 0, .int .i64 0] 127)).heap.size = w3.drew.heap.size + 1 := World.size_alloc _ _
         have gI := aa rH
         have kG : Hid (((w3.drew.alloc (.cells #[.string (s.extract k (k + x)), .slice none 0 0, .int .i64 0] 127)).alloc (.cells #[.pointer (some ⟨w3.drew.heap.size, 0, none⟩)] 124)).cell? ⟨w3.drew.heap.size + 1, 0, none⟩ = some (.pointer (some ⟨w3.drew.heap.size, 0, none⟩))) := by
          have h := aK (w3.drew.alloc (.cells #[.string (s.extract k (k + x)), .slice none 0 0, .int .i64 0] 127)) #[.pointer (some ⟨w3.drew.heap.size, 0, none⟩)] 124 0
          rw [rH] at h; exact h
         have iJ : Hid (w.heap.size + 1 ≤ w3.drew.heap.size) := Nat.le_trans (Nat.le_of_eq b5.out.symm) tH.out.up.size
         have kI : Hid (w.heap.size + 1 ≤ ((w3.drew.alloc (.cells #[.string (s.extract k (k + x)), .slice none 0 0, .int .i64 0] 127)).alloc (.cells #[.pointer (some ⟨w3.drew.heap.size, 0, none⟩)] 124)).heap.size) := by have := iJ.out; rw [Hid, World.size_alloc, World.size_alloc]; omega
         have Lm := aa tH.out.UN
         have HFLM : Hid (((F.kids o).map (aT A)).length ≤ 1000000) := by have := Lm.out; unfold Hid; rw [this.1]; exact this.2
         clear rH
         refine af.step (i := 13) rfl (by kernel_rfl) (fun K' hK => ?_)
         go_simp
         refine hK.out _ _ (fun _ => ((Up.alloc _ _).trans (Up.alloc _ _)).cell hkc) (fun hS => ?_)
         try simp only [ah, aj, aq]
         try rw [gI.out]
         refine af.step (i := 14) rfl (by kernel_rfl) (fun K' hK => ?_)
         refine eE (by rfl) _ _ _ (by rfl) (w.heap.size + 1) 124 _ 8 Tryz.underlying125 Tryz.oL (by rfl) (by decide) (by rfl) HOW.out (.pointer (some ⟨w3.drew.heap.size, 0, none⟩)) (w3.drew.heap.size + 1) (by rfl) kG.out (by rfl) HFLM.out kI.out ?_
         intro g8 iG w8 bZ cH fI _
         have zX := kr cH
         have zW : (w3.drew.alloc (.cells #[.string (s.extract k (k + x)), .slice none 0 0, .int .i64 0] 127)).grownBy w8 (kv o).ownBlock := ⟨zX.os, zX.tape, zX.output, zX.size, zX.block⟩
         obtain ⟨UW, ZB⟩ := tH.out.store zW
         obtain ⟨A8, kv8, wU, Lp⟩ := tH.out.node (s.extract k (k + x)) iJ.out bZ zW (fI.imp id fun e => by rw [e]; show _ ≤ (World.alloc (World.alloc w3 _) _).heap.size; rw [World.size_alloc, World.size_alloc]; exact Nat.le_succ (w3.heap.size + 1))
         have U5 := aa (tH.out.leaf (by have := tH.out.nk; omega) (k' := k + x) (f' := f') (by have := jc.out; omega) Lp HRUN.out (by have := Ds.out; have := jc.out; omega))
         clear bZ cH fI zX zW Lp wU
         refine hK.out _ _ (fun _ => UW) (fun hS => ?_)
         try simp only [Act.put, ah, aj, aq]
         replace hS := hS ⟨17, by decide, rfl⟩
         refine af.take (i := 15) (v := ?gv15k2) rfl (by kernel_rfl) (fun _ _ _ h => h) (by rfl) (fun w hSw => ?U6) hS ?gr15k2
         case U6 =>
          (try dsimp only at hSw)
          go_simp
          try with_reducible rfl
         try simp only [Act.put, ah, aj, aq]
         refine af.take (i := 16) (v := ?gv16k2) rfl (by kernel_rfl) (fun _ _ _ h => h) (by rfl) (fun w hSw => ?U7) hS ?gr16k2
         case U7 =>
          (try dsimp only at hSw)
          go_simp
          try with_reducible rfl
         try simp only [Act.put, ah, aj, aq]
         refine af.step (i := 17) rfl (by kernel_rfl) (fun K' hK => ?_)
         go_simp
         refine hK.out _ _ (aJ (by kernel_rfl)) (fun hS => ?_)
         refine af.done (by kernel_rfl) ?_
         have j7 : (x : Int) - 1 < (s.size : Int) := by omega
         go_wp2_with fail
         go_roundw
         case rel => exact ⟨k + x, true, by have := rN.out; omega, by have := jc.out; have := rN.out; go_num, rfl, by have h := U5.out; rw [Lm.out.1] at h; exact h⟩
         case measure => have := jc.out; have := rN.out; simp [intOf]; omega
  ·obtain rfl : k = s.size := by omega
   obtain ⟨n, A, kv, F, o, os, Z, st, f, hM⟩ := hO.out
   have hf := hM.fuel
   have hrun := hM.run
   have ZF : s.data.toList.drop s.size = [] := List.drop_eq_nil_of_le (by rw [Array.length_toList]; exact Nat.le_refl _)
   obtain ⟨f', rfl⟩ : ∃ f', f = f' + 1 := ⟨f - 1, by omega⟩
   rw [ZF, pz] at hrun
   obtain ⟨q0, q1, q2, q3⟩ := boxed (bH.out wo hM.up).1
   have HST := aa (gY (bH.out wo hM.up).2 (bH.out wo hM.up).1 hrun.symm)
   clear hM hO hf hrun ZF hlt hk
   go_wp2_with fail
   obtain ⟨s2, s3, hp⟩ := HST.out
   exact ⟨rfl, .tuple #[.agg #[.slice none 0 0, .slice none 0 0], .int .i64 3], by simp [results, Tryz.results131, go_sem, s2, s3], hp⟩
end Go.Proofs.YteegefnjnikngaaGreat
