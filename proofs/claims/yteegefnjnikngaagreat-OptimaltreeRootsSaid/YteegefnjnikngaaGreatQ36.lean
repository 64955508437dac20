/- The contract of phylotree.Parse. -/
import Derived.Test.YteegefnjnikngaaGreatQ1
import Derived.Test.YteegefnjnikngaaGreatQ35
import Derived.Test.YteegefnjnikngaaGreatQ29
import Derived.Test.YteegefnjnikngaaGreatQ28
import Derived.Test.YteegefnjnikngaaGreatQ7
set_option maxRecDepth 100000
namespace Go.Proofs.YteegefnjnikngaaGreat
open Go.RowKit Go.Deep
def yX (w : World) (s : ByteArray) (e : Ending) (w' : World) : Prop :=
 Up w w' ∧ ∃ v, e = .returned (.tuple #[v, .int .i64 (uh s)]) ∧ aC Any w' v (ri s)
def IaOk (s : ByteArray) : Prop := ∀ (i : Nat) (W : World), i < s.size → Calls Tryz.prog 179 #[.string (s.extract i s.size), .string ⟨#[40, 41, 44, 59]⟩] W fun e W' => e = .returned (.int .i64 (Lib.indexAny (s.data.toList.drop i) bM)) ∧ Up W W'
theorem jK {w W : World} {s : ByteArray} (hu : Up w W) (hb : W.heap[w.heap.size]? = some (Obj.cells #[.slice none 0 0, .slice none 0 0] 39 (0, 0))) (h : jr s.data.toList = none) :
    ((W.setCell ⟨w.heap.size, 0, none⟩ (.slice none 0 0)).setCell ⟨w.heap.size, 1, none⟩ (.slice none 0 0)).cell? ⟨w.heap.size, 0, none⟩ = some (.slice none 0 0) ∧ ((W.setCell ⟨w.heap.size, 0, none⟩ (.slice none 0 0)).setCell ⟨w.heap.size, 1, none⟩ (.slice none 0 0)).cell? ⟨w.heap.size, 1, none⟩ = some (.slice none 0 0) ∧
      yX w s (.returned (.tuple #[.agg #[.slice none 0 0, .slice none 0 0], .int .i64 3])) ((W.setCell ⟨w.heap.size, 0, none⟩ (.slice none 0 0)).setCell ⟨w.heap.size, 1, none⟩ (.slice none 0 0)) := by
  obtain ⟨s1, s2, s3, s4⟩ := dL (p := .slice none 0 0) (q := .slice none 0 0) hb (Nat.le_refl _) hu
  refine ⟨s2, s3, s1, .agg #[.slice none 0 0, .slice none 0 0], by unfold uh; rw [h], ?_⟩
  unfold ri; rw [h]; exact wG _
theorem CO {c d : UInt8} {z : Int} (h : c ≠ d) (hz : z = d.toNat) : ((c.toNat : Int) == z) = false := by
 subst hz
 rw [beq_eq_false_iff_ne]
 intro e
 exact h (UInt8.toNat_inj.1 (by omega))
theorem zD {c d : UInt8} {z : Int} (h : c = d) (hz : z = d.toNat) : ((c.toNat : Int) == z) = true := by
 subst hz; subst h; exact beq_self_eq_true _
set_option maxHeartbeats 8000000 in
theorem WH (w : World) (s : ByteArray) (hs : s.size ≤ 1000) (Jv : IaOk s) :
  Calls Tryz.prog 131 #[.string s] w (yX w s) := by
 have hrb := fF (w := w) (P := .slice none 0 0) (N := .slice none 0 0) (T := 39)
 have hu := Up.alloc w (.cells #[.slice none 0 0, .slice none 0 0] 39)
 have hsz : (w.alloc (.cells #[.slice none 0 0, .slice none 0 0] 39)).heap.size = w.heap.size + 1 := World.size_alloc _ _
 have HU := aa hu
 have bQ := aa hsz
 have jA := aa hrb
 have HIA := aa Jv
 have d1 : decide ((65536 : Int) < (s.size : Int)) = false := decide_eq_false (by omega)
 have Vp : ¬ 65536 < s.size := by omega
 clear hrb hu hsz Jv
 go_enter Tryz.func131, Tryz.ntmps131
 go_wp2_with fail
 have HST := aa (Tm (w.alloc (.cells #[.slice none 0 0, .slice none 0 0] 39)) s)
 rw [bQ.out] at HST
 generalize w.alloc (.cells #[.slice none 0 0, .slice none 0 0] 39) = w1 at *
 have ct : Hid (∀ wr, Below (w.heap.size + 1) w1 wr → wr.heap[w.heap.size]? = some (Obj.cells #[.slice none 0 0, .slice none 0 0] 39 (0, 0)) ∧ Up w wr) := fun wr h => ⟨(h.block _ (Nat.lt_succ_self _)).trans jA.out, HU.out.trans (h.mono (by rw [bQ.out]; exact Nat.le_refl _))⟩
 go_loopw [5, 6, 7, 8, 9, 10, 11, 12, 66, 86, 101, 111] (fun ov dn i _ _ _ _ _ _ _ _ _ wr => ∃ (k : Nat) (b : Bool), k ≤ s.size ∧ i = .int .i64 k ∧ dn = .bool b ∧ Hid (CN (w.heap.size + 1) s (jr s.data.toList) w1 (w.heap.size + 1) k b ov wr)) (fun _ _ i _ _ _ _ _ _ _ _ _ _ => s.size - (intOf i).toNat)
 case atStart => exact ⟨0, false, Nat.zero_le _, rfl, rfl, HST.out⟩
 case round =>
  obtain ⟨k, b, hk, rfl, rfl, hO⟩ := hrel
  obtain ⟨wo, rfl⟩ : ∃ wo : World, wo = wr := ⟨_, rfl⟩
  by_cases hlt : k < s.size
  ·obtain ⟨n, A, kv, F, o, os, Z, st, f, hM⟩ := hO.out
   obtain ⟨g, cap, Vo, hcapn, hrow⟩ := hM.row
   
   obtain ⟨f', ch, vg, hf2, hdr, hch⟩ := hM.step hlt
   have HF := aa vg
   have Ac := aa hf2
   have Tp := hdr
   have i1 : (0 : Int) ≤ (k : Int) := by omega
   have i2 : (k : Int) < (s.size : Int) := by omega
   have hol := hM.ol
   have aY := aa hlt
   obtain ⟨m, hm⟩ : ∃ m, m = os.length := ⟨_, rfl⟩
   have Qy := aa hm
   rw [← hm] at Vo hcapn hrow hol
   subst Vo
   have w1a : wrap64 (m : Int) = (m : Int) := by unfold wrap64; omega
   have w1b : (0 : Int) ≤ (m : Int) := by omega
   have w1c : (m : Int) < (m : Int) + 1 := by omega
   have w1d : m < m + 1 := by omega
   have w1e : m + 1 ≤ 1000000 := by omega
   have HM := aa hM
   clear hm hol
   clear hO hM vg hf2 hdr
   have hfr := HM.out.fr.thaw HM.out.zf.on 1
   obtain ⟨q0, q1, q2, q3⟩ := boxed (ct.out wo HM.out.up).1
   have uk : Hid (∀ x, pz (f' + 1) (ch :: s.data.toList.drop (k + 1)) (Z :: st) b = x → jr s.data.toList = x) := fun x hx => by
    have hr := HM.out.run; rw [HF.out, Tp] at hr; rw [← hr]; exact hx
   have Vd := aa Tp
   have DM : Hid ((Z :: st).length = m + 1) := by have h := HM.out.zf.len; rw [Hid, Qy.out]; simp at h ⊢; omega
   clear Tp
   by_cases Jw : ch = 40
   ·have e1 := zD (z := 40) Jw rfl
    subst Jw
    cases b with
    | true =>
     have HST := aa (jK (ct.out wo HM.out.up).2 (ct.out wo HM.out.up).1 (uk.out none (by simp [pz])))
     go_wp2_with fail
     obtain ⟨s2, s3, hp⟩ := HST.out
     exact ⟨rfl, .tuple #[.agg #[.slice none 0 0, .slice none 0 0], .int .i64 3], by simp [results, Tryz.results131, go_sem, s2, s3], hp⟩
    | false =>
     have hkc := (Up.alloc wo (.cells #[.string ⟨#[]⟩, .slice none 0 0, .int .i64 0] 127)).cell (HM.out.fr.je HM.out.zf.on)
     have hs1 : (wo.alloc (.cells #[.string ⟨#[]⟩, .slice none 0 0, .int .i64 0] 127)).heap.size = wo.heap.size + 1 := World.size_alloc _ _
     have lg := aa hs1
     have HOW : Hid (aA (w.heap.size + 1) 124 (wo.alloc (.cells #[.string ⟨#[]⟩, .slice none 0 0, .int .i64 0] 127)) (kv o) ((F.kids o).map (aL A))) := (HM.out.fr.own o HM.out.zf.on).alloc _
     have jq : Hid (w.heap.size + 1 ≤ wo.heap.size) := Nat.le_trans (Nat.le_of_eq bQ.out.symm) HM.out.up.size
     have HBS1 : Hid (w.heap.size + 1 ≤ (wo.alloc (.cells #[.string ⟨#[]⟩, .slice none 0 0, .int .i64 0] 127)).heap.size) := by rw [Hid, lg.out]; exact Nat.le_succ_of_le jq.out
     have Fx := aa HM.out.klen
     have oL : Hid (∀ g2 m2 dM w', aA (w.heap.size + 1) 124 w' (.slice (some ⟨g2, 0, none⟩) m2 dM) ((F.kids o).map (aL A) ++ [.pointer (some ⟨wo.heap.size, 0, none⟩)]) → (wo.alloc (.cells #[.string ⟨#[]⟩, .slice none 0 0, .int .i64 0] 127)).grownBy w' (kv o).ownBlock → ((kv o).ownBlock = some g2 ∨ (wo.alloc (.cells #[.string ⟨#[]⟩, .slice none 0 0, .int .i64 0] 127)).heap.size ≤ g2) →
       (w'.cell? ⟨A o, 1, none⟩ = some (kv o) ∧ w'.frozen? ⟨A o, 1, none⟩ = false) ∧ ∃ A' kv', A' n = wo.heap.size ∧ Vn (w.heap.size + 1) w1 (w.heap.size + 1) (.slice (some ⟨g, 0, none⟩) (m + 1) cap) n A' kv' (jk F n o ByteArray.empty) (o :: os) (w'.setCell ⟨A o, 1, none⟩ (.slice (some ⟨g2, 0, none⟩) m2 dM))) := fun g2 m2 dM w' h1 h2 h3 =>
      ⟨HM.out.store h2, HM.out.node ByteArray.empty jq.out h1 h2 (by rw [lg.out] at h3; exact h3)⟩
     have nw : Hid (n < 2000) := by have := HM.out.nk; unfold Hid; omega
     clear hs1
     generalize kv o = kvo at *
     have BR : Hid (jr s.data.toList = pz f' (s.data.toList.drop (k + 1)) ([] :: Z :: st) false) := uk.out _ (by simp [pz])
     go_wp2_with (first | (at_builtin; refine tA (wo.alloc (.cells #[.string ⟨#[]⟩, .slice none 0 0, .int .i64 0] 127)) rfl _ _ 125 rfl (w.heap.size + 1) 124 (.pointer none) 8 Tryz.underlying125 Tryz.nX rfl (by decide) HOW.out rfl (.pointer (some ⟨wo.heap.size, 0, none⟩)) (wo.heap.size + 1) lg.out rfl rfl _ Fx.out.1 Fx.out.2 HBS1.out ?_; intro g8 iz w8 cA dw gC; obtain ⟨⟨Qv, Vl⟩, A8, kv8, Aw, Qz⟩ := oL.out _ _ _ w8 cA dw gC; have HN8 := aa Qz; have HA8 := aa Aw; have HBS8 : Hid (w.heap.size + 1 ≤ (w8.setCell ⟨A o, 1, none⟩ (.slice (some ⟨g8, 0, none⟩) ((F.kids o).length + 1) iz)).heap.size) := (by rw [Hid, World.size_setCell]; exact Nat.le_trans HBS1.out dw.size); clear cA dw gC Aw Qz) | (at_builtin; refine tA (w8.setCell ⟨A o, 1, none⟩ (.slice (some ⟨g8, 0, none⟩) ((F.kids o).length + 1) iz)) rfl _ _ 125 rfl (w.heap.size + 1) 124 (.pointer none) 8 Tryz.underlying125 Tryz.nX rfl (by decide) HN8.out.own rfl (.pointer (some ⟨wo.heap.size, 0, none⟩)) w8.heap.size (World.size_setCell _ _ _) rfl rfl (m + 1) (by rw [Qy.out]; simp) (by omega) HBS8.out ?_; intro g9 cap9 w9 Ny DN hor9; have HP9 : Hid (CN (w.heap.size + 1) s (jr s.data.toList) w1 (w.heap.size + 1) (k + 1) false (.slice (some ⟨g9, 0, none⟩) (m + 1 + 1) cap9) w9) := HM.out.opened nw.out HN8.out HBS8.out (by unfold aL at Ny ⊢; rw [HA8.out]; exact Ny) DN hor9 BR.out.symm Ac.out; clear Ny DN hor9))
     go_roundw
     case rel => exact ⟨k + 1, false, aY.out, by go_num, rfl, HP9.out⟩
     case measure => have := aY.out; simp [intOf]; omega
   ·have e1 := CO (z := 40) Jw rfl
    by_cases Jy : ch = 41
    ·have e2 := zD (z := 41) Jy rfl
     subst Jy
     cases b with
     | false =>
      have HST := aa (jK (ct.out wo HM.out.up).2 (ct.out wo HM.out.up).1 (uk.out none (by simp [pz])))
      go_wp2_with fail
      obtain ⟨s2, s3, hp⟩ := HST.out
      exact ⟨rfl, .tuple #[.agg #[.slice none 0 0, .slice none 0 0], .int .i64 3], by simp [results, Tryz.results131, go_sem, s2, s3], hp⟩
     | true =>
      by_cases hm0 : m = 0
      ·have d2 : (((m : Int) + 1) == 1) = true := by rw [hm0]; rfl
       have HST := aa (jK (ct.out wo HM.out.up).2 (ct.out wo HM.out.up).1 (uk.out none (by have h := DM.out; rw [hm0] at h; rw [pz, if_neg (by decide), if_pos rfl, if_pos (.inr h)])))
       clear hm0
       go_wp2_with fail
       obtain ⟨s2, s3, hp⟩ := HST.out
       exact ⟨rfl, .tuple #[.agg #[.slice none 0 0, .slice none 0 0], .int .i64 3], by simp [results, Tryz.results131, go_sem, s2, s3], hp⟩
      ·have d2 : (((m : Int) + 1) == 1) = false := beq_eq_false_iff_ne.2 (by omega)
       obtain ⟨q, os2, rfl⟩ : ∃ q os2, os = q :: os2 := by
        cases os with
        | nil => exact absurd (by have := Qy.out; simpa using this) hm0
        | cons q os2 => exact ⟨q, os2, rfl⟩
       obtain ⟨Y, st2, rfl⟩ : ∃ Y st2, st = Y :: st2 := by
        cases st with
        | nil => exact absurd (by have := DM.out; simp at this; omega) hm0
        | cons Y st2 => exact ⟨Y, st2, rfl⟩
       have BR : Hid (jr s.data.toList = pz f' (s.data.toList.drop (k + 1)) ((Y ++ [.node ByteArray.empty Z]) :: st2) true) := uk.out _ (by simp [pz, popZ])
       have HOL : Hid (m = os2.length + 1) := by have := Qy.out; simp at this; exact this
       have HN : Hid (CN (w.heap.size + 1) s (jr s.data.toList) w1 (w.heap.size + 1) (k + 1) true (.slice (some ⟨g, 0, none⟩) m cap) wo) := by
        rw [HOL.out]
        exact HM.out.popped (by rw [HOL.out]) BR.out.symm Ac.out
       have w1f : (m : Int) ≤ (cap : Int) := by omega
       clear hm0
       go_wp2_with fail
       go_roundw
       case rel => exact ⟨k + 1, true, aY.out, by go_num, rfl, HN.out⟩
       case measure => have := aY.out; simp [intOf]; omega
    ·have e2 := CO (z := 41) Jy rfl
     by_cases Jz : ch = 44
     ·have e3 := zD (z := 44) Jz rfl
      subst Jz
      cases b with
      | false =>
       have HST := aa (jK (ct.out wo HM.out.up).2 (ct.out wo HM.out.up).1 (uk.out none (by simp [pz])))
       go_wp2_with fail
       obtain ⟨s2, s3, hp⟩ := HST.out
       exact ⟨rfl, .tuple #[.agg #[.slice none 0 0, .slice none 0 0], .int .i64 3], by simp [results, Tryz.results131, go_sem, s2, s3], hp⟩
      | true =>
       by_cases hm0 : m = 0
       ·have d2 : (((m : Int) + 1) == 1) = true := by rw [hm0]; rfl
        have HST := aa (jK (ct.out wo HM.out.up).2 (ct.out wo HM.out.up).1 (uk.out none (by have h := DM.out; rw [hm0] at h; rw [pz, if_neg (by decide), if_neg (by decide), if_pos rfl, if_pos (.inr h)])))
        clear hm0
        go_wp2_with fail
        obtain ⟨s2, s3, hp⟩ := HST.out
        exact ⟨rfl, .tuple #[.agg #[.slice none 0 0, .slice none 0 0], .int .i64 3], by simp [results, Tryz.results131, go_sem, s2, s3], hp⟩
       ·have d2 : (((m : Int) + 1) == 1) = false := beq_eq_false_iff_ne.2 (by omega)
        have BR : Hid (jr s.data.toList = pz f' (s.data.toList.drop (k + 1)) (Z :: st) false) := uk.out _ (by have h := DM.out; rw [pz, if_neg (by decide), if_neg (by decide), if_pos rfl, if_neg (by rw [h]; simp; omega)])
        have HN : Hid (CN (w.heap.size + 1) s (jr s.data.toList) w1 (w.heap.size + 1) (k + 1) false (.slice (some ⟨g, 0, none⟩) (m + 1) cap) wo) := HM.out.comma BR.out.symm Ac.out
        clear hm0
        go_wp2_with fail
        go_roundw
        case rel => exact ⟨k + 1, false, aY.out, by go_num, rfl, HN.out⟩
        case measure => have := aY.out; simp [intOf]; omega
     ·have e3 := CO (z := 44) Jz rfl
      by_cases JA : ch = 59
      ·have e4 := zD (z := 59) JA rfl
       subst JA
       cases b with
       | false =>
        have HST := aa (jK (ct.out wo HM.out.up).2 (ct.out wo HM.out.up).1 (uk.out none (by simp [pz])))
        go_wp2_with fail
        obtain ⟨s2, s3, hp⟩ := HST.out
        exact ⟨rfl, .tuple #[.agg #[.slice none 0 0, .slice none 0 0], .int .i64 3], by simp [results, Tryz.results131, go_sem, s2, s3], hp⟩
       | true =>
        by_cases hm0 : m = 0
        ·have d2 : (((m : Int) + 1) != 1) = false := by rw [hm0]; rfl
         by_cases hk1 : k + 1 = s.size
         ·have d3 : ((k : Int) != (s.size : Int) - 1) = false := by simp; omega
          have hos : os = [] := List.eq_nil_of_length_eq_zero (by have := Qy.out; omega)
          subst hos
          have hst0 : st = [] := List.eq_nil_of_length_eq_zero (by have := DM.out; simp at this; omega)
          subst hst0
          obtain ⟨r, Y, rfl⟩ : ∃ r Y, Z = r :: Y := by
           have := HM.out.dnz rfl
           cases Z with
           | nil => exact absurd rfl this
           | cons r Y => exact ⟨r, Y, rfl⟩
          have zN : o = 0 := by have := HM.out.last; simpa using this
          subst zN
          have hdr0 : s.data.toList.drop (k + 1) = [] := List.drop_eq_nil_of_le (by rw [Array.length_toList]; have : s.data.size = s.size := rfl; omega)
          have qA : jr s.data.toList = some r := uk.out (some r) (by rw [hdr0]; simp [pz, firstZ])
          obtain ⟨c, ks, hkc, cD, htr⟩ := HM.out.zf.done
          have ij : s.data.toList.length = s.size := by rw [Array.length_toList]; rfl
          obtain ⟨CP, CQ, Fy⟩ := yR qA
          rw [ij] at CP CQ
          have JB := aa CP
          have JC := aa CQ
          have JD : Hid (∀ k, (gs (flat r).ns k).size ≤ 70000) := fun j => by have := Fy j; rw [ij] at this; omega
          have oF := aa qA
          have Vq := HM.out.a0
          have hkv := HM.out.fr.je HM.out.zf.on
          have hown := HM.out.fr.own 0 HM.out.zf.on
          rw [hkc, List.map_cons] at hown
          rw [Vq] at hkv
          obtain ⟨kq, kcap, Tq, QA⟩ := hown.form (n := (ks.map (aL A)).length + 1) (by simp)
          obtain ⟨kg, rfl⟩ : ∃ kg, kq = some ⟨kg, 0, none⟩ := by
           rcases QA with rfl | h2
           ·obtain ⟨_, h3 | ⟨g, _, _, h3, _⟩⟩ := hown
            ·have := h3.2; simp at this
            ·rw [Tq] at h3; cases h3
           ·exact h2
          rw [Tq] at hown hkv
          have QB := (qF hown (j := 0) (u := aL A c) (by simp)).1
          simp only [aL] at QB
          have Ad := aa (Ht HM.out.zf.wf (fun i hi => Nat.le_trans (mQ (HM.out.zf.nd i hi) (fun x hx => (HM.out.zf.kid i hi x hx).2)) (by have := HM.out.nk; omega)) wo c cD HM.out.fr (by
           have h1 : (dR F mG c none).length = (bF F mG c).length := by
            simp [bF]
           have h2 := mQ (Fi HM.out.zf.wf HM.out.zf.one HM.out.zf.nd (fun i _ => I4 i) cD) (fun x hx => iM HM.out.zf.wf cD (Nat.le_refl _) ((bX HM.out.zf.wf cD (Nat.le_refl _)).1 hx))
           have := HM.out.nk
           omega))
          rw [htr] at Ad
          have HRB1 := aa (ct.out wo HM.out.up).1
          have jC := aa (ct.out wo HM.out.up).2
          have QC : Hid (w.heap.size + 1 ≤ wo.heap.size) := Nat.le_trans (Nat.le_of_eq bQ.out.symm) HM.out.up.size
          have i9 : (0 : Int) < ((ks.map (aL A)).length : Int) + 1 := by omega
          clear hm0 hk1 hdr0 qA hkc htr ij CP CQ Fy hown Tq QA cD
          generalize (ks.map (aL A)).length = kl at *
          go_wp2_with fail
          refine Ad.out.mono ?_
          rintro e w4 ⟨b9, _, rfl, P4, N4, rfl, dZ, en⟩
          obtain ⟨pp, pc, rfl, _, _⟩ := aD.open dZ
          obtain ⟨np, nc, rfl, _, _⟩ := aD.open en
          have dZ : aB _ w4 (.slice pp (flat r).ps.length pc) (flat r).ps := dZ
          have en : av _ w4 (.slice np (flat r).ns.length nc) (flat r).ns := en
          have bq := Up.alloc w4 (.cells #[.slice pp (flat r).ps.length pc, .slice np (flat r).ns.length nc] 39)
          have b0 := ew w4 (.slice pp (flat r).ps.length pc) (.slice np (flat r).ns.length nc) 39
          have b1 := ey w4 (.slice pp (flat r).ps.length pc) (.slice np (flat r).ns.length nc) 39
          have jo := aa b0
          have iq := aa b1
          have yY := (Below.block (b9.trans bq) w.heap.size (by have := QC.out; omega)).trans HRB1.out
          have wV := aa yY
          have JE := aa (jC.out.trans (b9.trans bq))
          have qJ : Hid (aC (fun b => wo.heap.size ≤ b) (w4.alloc (.cells #[.slice pp (flat r).ps.length pc, .slice np (flat r).ns.length nc] 39)) (.agg #[.slice pp (flat r).ps.length pc, .slice np (flat r).ns.length nc]) (flat r)) := aC.keep ⟨_, _, rfl, dZ, en⟩ (bq.kept _)
          have fA := aa (oV _ _ _ (flat r) qJ.out (by have := JB.out; omega) (by have := JC.out; omega) JD.out)
          have QE : Hid (wo.heap.size ≤ (w4.alloc (.cells #[.slice pp (flat r).ps.length pc, .slice np (flat r).ns.length nc] 39)).heap.size) := (b9.trans bq).size
          clear b9 dZ en bq Ad yY jC HRB1 q0 q1 q2 q3 QB hkv
          go_wp2_with fail
          generalize w4.alloc (.cells #[.slice pp (flat r).ps.length pc, .slice np (flat r).ns.length nc] 39) = w5 at *
          refine fA.out.mono ?_
          rintro e w6 ⟨rfl, dH⟩
          have dH : Up w5 w6 := dH
          have b0 := dH.cell jo.out
          have b1 := dH.cell iq.out
          have mX := (Below.block dH w.heap.size (by have := QC.out; have := QE.out; omega)).trans wV.out
          have Bi := aa mX
          have Bj := aa (JE.out.trans dH)
          have Fz := aa (qJ.out.keep (dH.kept _))
          obtain ⟨q0, q1, q2, q3⟩ := boxed mX
          have yC : Hid (uh s = az (flat r)) := by unfold Hid uh; rw [oF.out]
          have vv : Hid (ri s = if az (flat r) ≠ 0 then ⟨[], []⟩ else flat r) := by unfold Hid ri; rw [oF.out]
          clear dH mX fA
          by_cases he : az (flat r) = 0
          ·have Bk : Hid (ri s = flat r) := by unfold Hid; rw [vv.out, if_neg (by simp [he])]
           have Tr : Hid (uh s = 0) := by unfold Hid; rw [yC.out, he]
           rw [he]
           have HST := aa (dL (w := w) (p := .slice pp (flat r).ps.length pc) (q := .slice np (flat r).ns.length nc) Bi.out (Nat.le_refl _) Bj.out)
           clear he
           go_wp2_with fail
           obtain ⟨s1, s2, s3, s4⟩ := HST.out
           obtain ⟨P7, N7, e7, BS, QF⟩ := Fz.out
           have e8 : P7 = .slice pp (flat r).ps.length pc ∧ N7 = .slice np (flat r).ns.length nc := by
            injection e7 with e7
            have := congrArg Array.toList e7
            simp at this
            exact ⟨this.1.symm, this.2.symm⟩
           obtain ⟨rfl, rfl⟩ := e8
           have hsw := QC.out
           refine ⟨rfl, .tuple #[.agg #[.slice pp (flat r).ps.length pc, .slice np (flat r).ns.length nc], .int .i64 0], by simp [results, Tryz.results131, go_sem, s2, s3], ?_⟩
           refine ⟨s1, _, by rw [Tr.out], ?_⟩
           rw [Bk.out]
           exact ⟨_, _, rfl, (aB.keep BS fun b hb _ => s4 b (by omega)).sub fun b _ _ => trivial, (av.keep QF fun b hb _ => s4 b (by omega)).sub fun b _ _ => trivial⟩
          ·have Ae : (az (flat r) != 0) = true := by simpa using he
           have Bk : Hid (ri s = ⟨[], []⟩) := by unfold Hid; rw [vv.out, if_pos he]
           have HST := aa (dL (w := w) (p := .slice none 0 0) (q := .slice none 0 0) Bi.out (Nat.le_refl _) Bj.out)
           clear he
           generalize az (flat r) = te at *
           go_wp2_with fail
           obtain ⟨s1, s2, s3, s4⟩ := HST.out
           refine ⟨rfl, .tuple #[.agg #[.slice none 0 0, .slice none 0 0], .int .i64 te], by simp [results, Tryz.results131, go_sem, s2, s3], ?_⟩
           refine ⟨s1, _, by rw [yC.out], ?_⟩
           rw [Bk.out]; exact wG _
         ·have d3 : ((k : Int) != (s.size : Int) - 1) = true := by simp; omega
          have HST := aa (jK (ct.out wo HM.out.up).2 (ct.out wo HM.out.up).1 (uk.out none (by
           have hne : s.data.toList.drop (k + 1) ≠ [] := fun e => by
            have := List.drop_eq_nil_iff.1 e
            rw [Array.length_toList] at this
            have h2 : s.data.size = s.size := rfl
            omega
           rw [pz, if_neg (by decide), if_neg (by decide), if_neg (by decide), if_pos rfl, if_pos (.inr (.inr hne))])))
          clear hm0 hk1
          go_wp2_with fail
          obtain ⟨s2, s3, hp⟩ := HST.out
          exact ⟨rfl, .tuple #[.agg #[.slice none 0 0, .slice none 0 0], .int .i64 3], by simp [results, Tryz.results131, go_sem, s2, s3], hp⟩
        ·have d2 : (((m : Int) + 1) != 1) = true := by simp; omega
         have HST := aa (jK (ct.out wo HM.out.up).2 (ct.out wo HM.out.up).1 (uk.out none (by have h := DM.out; rw [pz, if_neg (by decide), if_neg (by decide), if_neg (by decide), if_pos rfl, if_pos (.inr (.inl (by rw [h]; omega)))])))
         clear hm0
         go_wp2_with fail
         obtain ⟨s2, s3, hp⟩ := HST.out
         exact ⟨rfl, .tuple #[.agg #[.slice none 0 0, .slice none 0 0], .int .i64 3], by simp [results, Tryz.results131, go_sem, s2, s3], hp⟩
      ·have e4 := CO (z := 59) JA rfl
       cases b with
       | true =>
        have HST := aa (jK (ct.out wo HM.out.up).2 (ct.out wo HM.out.up).1 (uk.out none (by rw [pz, if_neg Jw, if_neg Jy, if_neg Jz, if_neg JA, if_pos rfl])))
        go_wp2_with fail
        obtain ⟨s2, s3, hp⟩ := HST.out
        exact ⟨rfl, .tuple #[.agg #[.slice none 0 0, .slice none 0 0], .int .i64 3], by simp [results, Tryz.results131, go_sem, s2, s3], hp⟩
       | false =>
        have qD : Hid (ch ∉ bM) := DF Jw Jy Jz JA
        have HPZ : Hid (∀ x, (if Lib.indexAny (s.data.toList.drop k) bM < 0 then none else pz f' ((s.data.toList.drop k).drop (Lib.indexAny (s.data.toList.drop k) bM).toNat) ((Z ++ [.node ⟨((s.data.toList.drop k).take (Lib.indexAny (s.data.toList.drop k) bM).toNat).toArray⟩ []]) :: st) true) = x → jr s.data.toList = x) := fun x hx => uk.out x (by
         rw [pz, if_neg Jw, if_neg Jy, if_neg Jz, if_neg JA, if_neg (by simp), ← Vd.out]; exact hx)
        have EP := aa (HIA.out k wo aY.out)
        clear Jw Jy Jz JA
        have i3 : (k : Int) ≤ (s.size : Int) := by omega
        go_wp2_with fail
        refine EP.out.mono ?_
        rintro e w3 ⟨rfl, cF⟩
        have Vr := aa (HM.out.keepUp cF)
        obtain ⟨q0, q1, q2, q3⟩ := boxed (ct.out w3 Vr.out.up).1
        clear cF EP
        by_cases Jv : Lib.indexAny (s.data.toList.drop k) bM < 0
        ·have d5 : decide (Lib.indexAny (s.data.toList.drop k) bM < 0) = true := decide_eq_true Jv
         have HST := aa (jK (ct.out w3 Vr.out.up).2 (ct.out w3 Vr.out.up).1 (HPZ.out none (by rw [if_pos Jv])))
         clear Jv
         generalize Lib.indexAny (s.data.toList.drop k) bM = ia at *
         go_wp2_with fail
         obtain ⟨s2, s3, hp⟩ := HST.out
         exact ⟨rfl, .tuple #[.agg #[.slice none 0 0, .slice none 0 0], .int .i64 3], by simp [results, Tryz.results131, go_sem, s2, s3], hp⟩
        ·obtain ⟨x, hx⟩ : ∃ x : Nat, Lib.indexAny (s.data.toList.drop k) bM = (x : Int) := ⟨(Lib.indexAny (s.data.toList.drop k) bM).toNat, by omega⟩
         have hx1 : 1 ≤ x := by
          have h1 := I6 (s := s.data.toList.drop (k + 1)) qD.out
          rw [← Vd.out, hx] at h1
          omega
         have hx2 : k + x < s.size := by
          have h1 := UY _ x hx
          rw [List.length_drop, Array.length_toList] at h1
          have h2 : s.data.size = s.size := rfl
          omega
         have HRUN : Hid (pz f' (s.data.toList.drop (k + x)) ((Z ++ [.node (s.extract k (k + x)) []]) :: st) true = jr s.data.toList) := by
          have h1 := HPZ.out _ rfl
          rw [hx, if_neg (by omega), Int.toNat_natCast, List.drop_drop, Nj s k x] at h1
          exact h1.symm
         rw [hx]
         have d5 : decide ((x : Int) < 0) = false := decide_eq_false (by omega)
         have vD := aa hx2
         have kU := aa hx1
         have j1 : (0 : Int) ≤ (x : Int) := by omega
         have j2 : (k : Int) ≤ (k : Int) + (x : Int) := by omega
         have j3 : (k : Int) + (x : Int) ≤ (s.size : Int) := by omega
         have j4 : IntKind.i64.wrap ((k : Int) + (x : Int)) = (k : Int) + (x : Int) := by rw [IntKind.wrap_i64]; omega
         have j5 : ((k : Int) + (x : Int)).toNat = k + x := by omega
         have j6 : (0 : Int) ≤ (k : Int) + (x : Int) := by omega
         have oO := aa Vr.out.drew
         have hkc := oO.out.fr.je oO.out.zf.on
         have hkf := oO.out.fr.thaw oO.out.zf.on 1
         clear Jv hx hx1 HPZ
         go_wp2_with fail
         refine cU (by kernel_rfl) 18 (fun w' => w'.cell? ⟨A o, 1, none⟩ = some (kv o)) hkc (fun hS => ?_)
         simp only [List.size_toArray, List.length_cons, List.length_nil, Nat.reduceAdd, Array.replicate_succ, Array.replicate_zero, List.push_toArray, List.nil_append, List.cons_append]
         refine af.take (i := 0) (v := ?qc) rfl (by kernel_rfl) (fun _ _ _ h => h) (by rfl) (fun w hSw => ?gp) hS ?qd
         case gp =>
          (try dsimp only at hSw)
          go_simp
          try with_reducible rfl
         try simp only [Act.put, aq, ah, au]
         refine af.take (i := 1) (v := ?qf) rfl (by kernel_rfl) (fun _ _ _ h => h) (by rfl) (fun w hSw => ?gq) hS ?qg
         case gq =>
          (try dsimp only at hSw)
          go_simp
          try with_reducible rfl
         try simp only [Act.put, aq, ah, au]
         refine af.take (i := 2) (v := ?rG) rfl (by kernel_rfl) (fun _ _ _ h => h) (by rfl) (fun w hSw => ?gN) hS ?rH
         case gN =>
          (try dsimp only at hSw)
          go_simp
          try with_reducible rfl
         try simp only [Act.put, aq, ah, au]
         refine af.take (i := 3) (v := ?rI) rfl (by kernel_rfl) (fun _ _ _ h => h) (by rfl) (fun w hSw => ?gO) hS ?rJ
         case gO =>
          (try dsimp only at hSw)
          go_simp
          try with_reducible rfl
         try simp only [Act.put, aq, ah, au]
         refine af.take (i := 4) (v := ?rK) rfl (by kernel_rfl) (fun _ _ _ h => h) (by rfl) (fun w hSw => ?gP) hS ?rL
         case gP =>
          (try dsimp only at hSw)
          go_simp
          try with_reducible rfl
         try simp only [Act.put, aq, ah, au]
         refine af.take (i := 5) (v := ?rM) rfl (by kernel_rfl) (fun _ _ _ h => h) (by rfl) (fun w hSw => ?gQ) hS ?rN
         case gQ =>
          (try dsimp only at hSw)
          go_simp
          try with_reducible rfl
         try simp only [Act.put, aq, ah, au]
         refine af.take (i := 6) (v := ?zo) rfl (by kernel_rfl) (fun _ _ _ h => h) (by rfl) (fun w hSw => ?lX) hS ?zq
         case lX =>
          (try dsimp only at hSw)
          go_simp
          try with_reducible rfl
         try simp only [Act.put, aq, ah, au]
         refine af.take (i := 7) (v := ?Co) rfl (by kernel_rfl) (fun _ _ _ h => h) (by rfl) (fun w hSw => ?oA) hS ?Cq
         case oA =>
          (try dsimp only at hSw)
          go_simp
          try with_reducible rfl
         try simp only [Act.put, aq, ah, au]
         refine af.take (i := 8) (v := ?F5) rfl (by kernel_rfl) (fun _ _ _ h => h) (by rfl) (fun w hSw => ?rO) hS ?F6
         case rO =>
          (try dsimp only at hSw)
          go_simp
          try with_reducible rfl
         try simp only [Act.put, aq, ah, au]
         refine af.take (i := 9) (v := ?Vs) rfl (by kernel_rfl) (fun _ _ _ h => h) (by rfl) (fun w hSw => ?CR) hS ?Vt
         case CR =>
          (try dsimp only at hSw)
          go_simp
          try with_reducible rfl
         try simp only [Act.put, aq, ah, au]
         refine af.take (i := 10) (v := ?QG) rfl (by kernel_rfl) (fun _ _ _ h => h) (by rfl) (fun w hSw => ?yZ) hS ?QH
         case yZ =>
          (try dsimp only at hSw)
          go_simp
          try with_reducible rfl
         try simp only [Act.put, aq, ah, au]
         refine af.take (i := 11) (v := ?gv11k1) rfl (by kernel_rfl) (fun _ _ _ h => h) (by rfl) (fun w hSw => ?JF) hS ?gr11k1
         case JF =>
          (try dsimp only at hSw)
          go_simp
          try with_reducible rfl
         try simp only [Act.put, aq, ah, au]
         refine af.step (i := 12) rfl (by kernel_rfl) (fun K' hK => ?_)
         go_simp
         refine hK.out _ _ (fun _ => (Up.alloc _ _).cell hkc) (fun hS => ?_)
         try simp only [aq, ah, au]
         have HOW : Hid (aA (w.heap.size + 1) 124 ((w3.drew.alloc (.cells #[.string (s.extract k (k + x)), .slice none 0 0, .int .i64 0] 127)).alloc (.cells #[.pointer (some ⟨w3.drew.heap.size, 0, none⟩)] 124)) (kv o) ((F.kids o).map (aL A))) := ((oO.out.fr.own o oO.out.zf.on).alloc _).alloc _
         have vt : (w3.drew.alloc (.cells #[.string (s.extract k (k + x)), .slice none 0 0, .int .i64 0] 127)).heap.size = w3.drew.heap.size + 1 := World.size_alloc _ _
         have js := aa vt
         have nu : Hid (((w3.drew.alloc (.cells #[.string (s.extract k (k + x)), .slice none 0 0, .int .i64 0] 127)).alloc (.cells #[.pointer (some ⟨w3.drew.heap.size, 0, none⟩)] 124)).cell? ⟨w3.drew.heap.size + 1, 0, none⟩ = some (.pointer (some ⟨w3.drew.heap.size, 0, none⟩))) := by
          have h := aT (w3.drew.alloc (.cells #[.string (s.extract k (k + x)), .slice none 0 0, .int .i64 0] 127)) #[.pointer (some ⟨w3.drew.heap.size, 0, none⟩)] 124 0
          rw [vt] at h; exact h
         have kr : Hid (w.heap.size + 1 ≤ w3.drew.heap.size) := Nat.le_trans (Nat.le_of_eq bQ.out.symm) oO.out.up.size
         have jq : Hid (w.heap.size + 1 ≤ ((w3.drew.alloc (.cells #[.string (s.extract k (k + x)), .slice none 0 0, .int .i64 0] 127)).alloc (.cells #[.pointer (some ⟨w3.drew.heap.size, 0, none⟩)] 124)).heap.size) := by have := kr.out; rw [Hid, World.size_alloc, World.size_alloc]; omega
         have Fx := aa oO.out.klen
         have HFLM : Hid (((F.kids o).map (aL A)).length ≤ 1000000) := by have := Fx.out; unfold Hid; rw [this.1]; exact this.2
         clear vt
         refine af.step (i := 13) rfl (by kernel_rfl) (fun K' hK => ?_)
         go_simp
         refine hK.out _ _ (fun _ => ((Up.alloc _ _).trans (Up.alloc _ _)).cell hkc) (fun hS => ?_)
         try simp only [aq, ah, au]
         try rw [js.out]
         refine af.step (i := 14) rfl (by kernel_rfl) (fun K' hK => ?_)
         refine gy (by rfl) _ _ _ (by rfl) (w.heap.size + 1) 124 _ 8 Tryz.underlying125 Tryz.nX (by rfl) (by decide) (by rfl) HOW.out (.pointer (some ⟨w3.drew.heap.size, 0, none⟩)) (w3.drew.heap.size + 1) (by rfl) nu.out (by rfl) HFLM.out jq.out ?_
         intro g8 iz w8 cA dw gC _
         have DO := mP dw
         have DN : (w3.drew.alloc (.cells #[.string (s.extract k (k + x)), .slice none 0 0, .int .i64 0] 127)).grownBy w8 (kv o).ownBlock := ⟨DO.os, DO.tape, DO.output, DO.size, DO.block⟩
         obtain ⟨Qv, Vl⟩ := oO.out.store DN
         obtain ⟨A8, kv8, Aw, Qz⟩ := oO.out.node (s.extract k (k + x)) kr.out cA DN (gC.imp id fun e => by rw [e]; show _ ≤ (World.alloc (World.alloc w3 _) _).heap.size; rw [World.size_alloc, World.size_alloc]; exact Nat.le_succ (w3.heap.size + 1))
         have HP8 := aa (oO.out.leaf (by have := oO.out.nk; omega) (k' := k + x) (f' := f') (by have := kU.out; omega) Qz HRUN.out (by have := Ac.out; have := kU.out; omega))
         clear cA dw gC DO DN Qz Aw
         refine hK.out _ _ (fun _ => Qv) (fun hS => ?_)
         try simp only [Act.put, aq, ah, au]
         replace hS := hS ⟨17, by decide, rfl⟩
         refine af.take (i := 15) (v := ?gv15k2) rfl (by kernel_rfl) (fun _ _ _ h => h) (by rfl) (fun w hSw => ?gy15k2) hS ?gr15k2
         case gy15k2 =>
          (try dsimp only at hSw)
          go_simp
          try with_reducible rfl
         try simp only [Act.put, aq, ah, au]
         refine af.take (i := 16) (v := ?gv16k2) rfl (by kernel_rfl) (fun _ _ _ h => h) (by rfl) (fun w hSw => ?gy16k2) hS ?gr16k2
         case gy16k2 =>
          (try dsimp only at hSw)
          go_simp
          try with_reducible rfl
         try simp only [Act.put, aq, ah, au]
         refine af.step (i := 17) rfl (by kernel_rfl) (fun K' hK => ?_)
         go_simp
         refine hK.out _ _ (aJ (by kernel_rfl)) (fun hS => ?_)
         refine af.done (by kernel_rfl) ?_
         have j7 : (x : Int) - 1 < (s.size : Int) := by omega
         go_wp2_with fail
         go_roundw
         case rel => exact ⟨k + x, true, by have := vD.out; omega, by have := kU.out; have := vD.out; go_num, rfl, by have h := HP8.out; rw [Fx.out.1] at h; exact h⟩
         case measure => have := kU.out; have := vD.out; simp [intOf]; omega
  ·obtain rfl : k = s.size := by omega
   obtain ⟨n, A, kv, F, o, os, Z, st, f, hM⟩ := hO.out
   have hf := hM.fuel
   have hrun := hM.run
   have hd0 : s.data.toList.drop s.size = [] := List.drop_eq_nil_of_le (by rw [Array.length_toList]; exact Nat.le_refl _)
   obtain ⟨f', rfl⟩ : ∃ f', f = f' + 1 := ⟨f - 1, by omega⟩
   rw [hd0, pz] at hrun
   obtain ⟨q0, q1, q2, q3⟩ := boxed (ct.out wo hM.up).1
   have HST := aa (jK (ct.out wo hM.up).2 (ct.out wo hM.up).1 hrun.symm)
   clear hM hO hf hrun hd0 hlt hk
   go_wp2_with fail
   obtain ⟨s2, s3, hp⟩ := HST.out
   exact ⟨rfl, .tuple #[.agg #[.slice none 0 0, .slice none 0 0], .int .i64 3], by simp [results, Tryz.results131, go_sem, s2, s3], hp⟩
end Go.Proofs.YteegefnjnikngaaGreat
