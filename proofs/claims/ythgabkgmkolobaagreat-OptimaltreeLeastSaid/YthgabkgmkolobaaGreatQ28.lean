/- The contract of phylotree.Parse. -/
import Derived.Test.YthgabkgmkolobaaGreatQ1
import Derived.Test.YthgabkgmkolobaaGreatQ27
import Derived.Test.YthgabkgmkolobaaGreatQ22
import Derived.Test.YthgabkgmkolobaaGreatQ19
import Derived.Test.YthgabkgmkolobaaGreatQ15
import Derived.Test.YthgabkgmkolobaaGreatQ6
import Derived.Test.YthgabkgmkolobaaGreatQ17
import Derived.Test.YthgabkgmkolobaaGreatQ5
import Derived.Test.YthgabkgmkolobaaGreatQ8
import Derived.Test.YthgabkgmkolobaaGreatQ23
import Derived.Test.YthgabkgmkolobaaGreatQ21
import Derived.Test.YthgabkgmkolobaaGreatQ26
set_option maxRecDepth 100000
namespace Go.Proofs.YthgabkgmkolobaaGreat
open Go.RowKit Go.Deep
def yF (w : World) (s : ByteArray) (e : Ending) (w' : World) : Prop :=
 Up w w' ∧ ∃ v, e = .returned (.tuple #[v, .int .i64 (tF s)]) ∧ aA Any w' v (qF s)
def ZI (s : ByteArray) : Prop := ∀ (i : Nat) (W : World), i < s.size → Calls Tryz.prog 166 #[.string (s.extract i s.size), .string ⟨#[40, 41, 44, 59]⟩] W fun e W' => e = .returned (.int .i64 (Lib.indexAny (s.data.toList.drop i) bF)) ∧ Up W W'
theorem jl {w W : World} {s : ByteArray} (hu : Up w W) (hb : W.heap[w.heap.size]? = some (Obj.cells #[.slice none 0 0, .slice none 0 0] 39 (0, 0))) (h : iU s.data.toList = none) :
    ((W.setCell ⟨w.heap.size, 0, none⟩ (.slice none 0 0)).setCell ⟨w.heap.size, 1, none⟩ (.slice none 0 0)).cell? ⟨w.heap.size, 0, none⟩ = some (.slice none 0 0) ∧ ((W.setCell ⟨w.heap.size, 0, none⟩ (.slice none 0 0)).setCell ⟨w.heap.size, 1, none⟩ (.slice none 0 0)).cell? ⟨w.heap.size, 1, none⟩ = some (.slice none 0 0) ∧
      yF w s (.returned (.tuple #[.agg #[.slice none 0 0, .slice none 0 0], .int .i64 3])) ((W.setCell ⟨w.heap.size, 0, none⟩ (.slice none 0 0)).setCell ⟨w.heap.size, 1, none⟩ (.slice none 0 0)) := by
  obtain ⟨s1, s2, s3, s4⟩ := dZ (p := .slice none 0 0) (q := .slice none 0 0) hb (Nat.le_refl _) hu
  refine ⟨s2, s3, s1, .agg #[.slice none 0 0, .slice none 0 0], by unfold tF; rw [h], ?_⟩
  unfold qF; rw [h]; exact AW _
theorem B8 {c d : UInt8} {z : Int} (h : c ≠ d) (hz : z = d.toNat) : ((c.toNat : Int) == z) = false := by
 subst hz
 rw [beq_eq_false_iff_ne]
 intro e
 exact h (UInt8.toNat_inj.1 (by omega))
theorem zq {c d : UInt8} {z : Int} (h : c = d) (hz : z = d.toNat) : ((c.toNat : Int) == z) = true := by
 subst hz; subst h; exact beq_self_eq_true _
set_option maxHeartbeats 8000000 in
theorem Wa (w : World) (s : ByteArray) (hs : s.size ≤ 1000) (Ie : ZI s) :
  Calls Tryz.prog 121 #[.string s] w (yF w s) := by
 have hrb := fh (w := w) (P := .slice none 0 0) (N := .slice none 0 0) (T := 39)
 have hu := Up.alloc w (.cells #[.slice none 0 0, .slice none 0 0] 39)
 have hsz : (w.alloc (.cells #[.slice none 0 0, .slice none 0 0] 39)).heap.size = w.heap.size + 1 := World.size_alloc _ _
 have HU := aa hu
 have ct := aa hsz
 have lT := aa hrb
 have ZJ := aa Ie
 have d1 : decide ((65536 : Int) < (s.size : Int)) = false := decide_eq_false (by omega)
 have Ls : ¬ 65536 < s.size := by omega
 clear hrb hu hsz Ie
 go_enter Tryz.func121, Tryz.ntmps121
 go_wp2_with fail
 have HST := aa (SG (w.alloc (.cells #[.slice none 0 0, .slice none 0 0] 39)) s)
 rw [ct.out] at HST
 generalize w.alloc (.cells #[.slice none 0 0, .slice none 0 0] 39) = w1 at *
 have bY : Hid (∀ wr, Below (w.heap.size + 1) w1 wr → wr.heap[w.heap.size]? = some (Obj.cells #[.slice none 0 0, .slice none 0 0] 39 (0, 0)) ∧ Up w wr) := fun wr h => ⟨(h.block _ (Nat.lt_succ_self _)).trans lT.out, HU.out.trans (h.mono (by rw [ct.out]; exact Nat.le_refl _))⟩
 go_loopw [5, 6, 7, 8, 9, 10, 11, 12, 66, 86, 101, 111] (fun ov dn i _ _ _ _ _ _ _ _ _ wr => ∃ (k : Nat) (b : Bool), k ≤ s.size ∧ i = .int .i64 k ∧ dn = .bool b ∧ Hid (B5 (w.heap.size + 1) s (iU s.data.toList) w1 (w.heap.size + 1) k b ov wr)) (fun _ _ i _ _ _ _ _ _ _ _ _ _ => s.size - (intOf i).toNat)
 case atStart => exact ⟨0, false, Nat.zero_le _, rfl, rfl, HST.out⟩
 case round =>
  obtain ⟨k, b, hk, rfl, rfl, hO⟩ := hrel
  obtain ⟨wo, rfl⟩ : ∃ wo : World, wo = wr := ⟨_, rfl⟩
  by_cases hlt : k < s.size
  ·obtain ⟨n, A, kv, F, o, os, Z, st, f, hM⟩ := hO.out
   obtain ⟨g, cap, U7, hcapn, hrow⟩ := hM.row
   
   obtain ⟨f', ch, uC, hf2, hdr, hch⟩ := hM.step hlt
   have HF := aa uC
   have GL := aa hf2
   have SI := hdr
   have i1 : (0 : Int) ≤ (k : Int) := by omega
   have i2 : (k : Int) < (s.size : Int) := by omega
   have hol := hM.ol
   have aV := aa hlt
   obtain ⟨m, hm⟩ : ∃ m, m = os.length := ⟨_, rfl⟩
   have PD := aa hm
   rw [← hm] at U7 hcapn hrow hol
   subst U7
   have w1a : wrap64 (m : Int) = (m : Int) := by unfold wrap64; omega
   have w1b : (0 : Int) ≤ (m : Int) := by omega
   have w1c : (m : Int) < (m : Int) + 1 := by omega
   have w1d : m < m + 1 := by omega
   have w1e : m + 1 ≤ 1000000 := by omega
   have HM := aa hM
   clear hm hol
   clear hO hM uC hf2 hdr
   have hfr := HM.out.fr.thaw HM.out.zf.on 1
   obtain ⟨q0, q1, q2, q3⟩ := boxed (bY.out wo HM.out.up).1
   have tG : Hid (∀ x, pz (f' + 1) (ch :: s.data.toList.drop (k + 1)) (Z :: st) b = x → iU s.data.toList = x) := fun x hx => by
    have hr := HM.out.run; rw [HF.out, SI] at hr; rw [← hr]; exact hx
   have U8 := aa SI
   have De : Hid ((Z :: st).length = m + 1) := by have h := HM.out.zf.len; rw [Hid, PD.out]; simp at h ⊢; omega
   clear SI
   by_cases Ig : ch = 40
   ·have e1 := zq (z := 40) Ig rfl
    subst Ig
    cases b with
    | true =>
     have HST := aa (jl (bY.out wo HM.out.up).2 (bY.out wo HM.out.up).1 (tG.out none (by simp [pz])))
     go_wp2_with fail
     obtain ⟨s2, s3, hp⟩ := HST.out
     exact ⟨rfl, .tuple #[.agg #[.slice none 0 0, .slice none 0 0], .int .i64 3], by simp [results, Tryz.results121, go_sem, s2, s3], hp⟩
    | false =>
     have hkc := (Up.alloc wo (.cells #[.string ⟨#[]⟩, .slice none 0 0, .int .i64 0] 122)).cell (HM.out.fr.qo HM.out.zf.on)
     have hs1 : (wo.alloc (.cells #[.string ⟨#[]⟩, .slice none 0 0, .int .i64 0] 122)).heap.size = wo.heap.size + 1 := World.size_alloc _ _
     have jT := aa hs1
     have HOW : Hid (aC (w.heap.size + 1) 119 (wo.alloc (.cells #[.string ⟨#[]⟩, .slice none 0 0, .int .i64 0] 122)) (kv o) ((F.kids o).map (bu A))) := (HM.out.fr.own o HM.out.zf.on).alloc _
     have og : Hid (w.heap.size + 1 ≤ wo.heap.size) := Nat.le_trans (Nat.le_of_eq ct.out.symm) HM.out.up.size
     have ZK : Hid (w.heap.size + 1 ≤ (wo.alloc (.cells #[.string ⟨#[]⟩, .slice none 0 0, .int .i64 0] 122)).heap.size) := by rw [Hid, jT.out]; exact Nat.le_succ_of_le og.out
     have PE := aa HM.out.ZE
     have qE : Hid (∀ g2 m2 dw w', aC (w.heap.size + 1) 119 w' (.slice (some ⟨g2, 0, none⟩) m2 dw) ((F.kids o).map (bu A) ++ [.pointer (some ⟨wo.heap.size, 0, none⟩)]) → (wo.alloc (.cells #[.string ⟨#[]⟩, .slice none 0 0, .int .i64 0] 122)).grownBy w' (kv o).ownBlock → ((kv o).ownBlock = some g2 ∨ (wo.alloc (.cells #[.string ⟨#[]⟩, .slice none 0 0, .int .i64 0] 122)).heap.size ≤ g2) →
       (w'.cell? ⟨A o, 1, none⟩ = some (kv o) ∧ w'.frozen? ⟨A o, 1, none⟩ = false) ∧ ∃ A' kv', A' n = wo.heap.size ∧ U6 (w.heap.size + 1) w1 (w.heap.size + 1) (.slice (some ⟨g, 0, none⟩) (m + 1) cap) n A' kv' (iQ F n o ByteArray.empty) (o :: os) (w'.setCell ⟨A o, 1, none⟩ (.slice (some ⟨g2, 0, none⟩) m2 dw))) := fun g2 m2 dw w' h1 h2 h3 =>
      ⟨HM.out.store h2, HM.out.node ByteArray.empty og.out h1 h2 (by rw [jT.out] at h3; exact h3)⟩
     have mV : Hid (n < 2000) := by have := HM.out.nk; unfold Hid; omega
     clear hs1
     generalize kv o = kvo at *
     have Bw : Hid (iU s.data.toList = pz f' (s.data.toList.drop (k + 1)) ([] :: Z :: st) false) := tG.out _ (by simp [pz])
     go_wp2_with (first | (at_builtin; refine yB (wo.alloc (.cells #[.string ⟨#[]⟩, .slice none 0 0, .int .i64 0] 122)) rfl _ _ 120 rfl (w.heap.size + 1) 119 (.pointer none) 8 Tryz.underlying120 Tryz.rQ rfl (by decide) HOW.out rfl (.pointer (some ⟨wo.heap.size, 0, none⟩)) (wo.heap.size + 1) jT.out rfl rfl _ PE.out.1 PE.out.2 ZK.out ?_; intro g8 gW w8 bU cG fq; obtain ⟨⟨ZL, hf8⟩, A8, kv8, Ad, PF⟩ := qE.out _ _ _ w8 bU cG fq; have HN8 := aa PF; have ZM := aa Ad; have ZN : Hid (w.heap.size + 1 ≤ (w8.setCell ⟨A o, 1, none⟩ (.slice (some ⟨g8, 0, none⟩) ((F.kids o).length + 1) gW)).heap.size) := (by rw [Hid, World.size_setCell]; exact Nat.le_trans ZK.out cG.size); clear bU cG fq Ad PF) | (at_builtin; refine yB (w8.setCell ⟨A o, 1, none⟩ (.slice (some ⟨g8, 0, none⟩) ((F.kids o).length + 1) gW)) rfl _ _ 120 rfl (w.heap.size + 1) 119 (.pointer none) 8 Tryz.underlying120 Tryz.rQ rfl (by decide) HN8.out.own rfl (.pointer (some ⟨wo.heap.size, 0, none⟩)) w8.heap.size (World.size_setCell _ _ _) rfl rfl (m + 1) (by rw [PD.out]; simp) (by omega) ZN.out ?_; intro g9 cap9 w9 MQ Df ZO; have HP9 : Hid (B5 (w.heap.size + 1) s (iU s.data.toList) w1 (w.heap.size + 1) (k + 1) false (.slice (some ⟨g9, 0, none⟩) (m + 1 + 1) cap9) w9) := HM.out.opened mV.out HN8.out ZN.out (by unfold bu at MQ ⊢; rw [ZM.out]; exact MQ) Df ZO Bw.out.symm GL.out; clear MQ Df ZO))
     go_roundw
     case rel => exact ⟨k + 1, false, aV.out, by go_num, rfl, HP9.out⟩
     case measure => have := aV.out; simp [intOf]; omega
   ·have e1 := B8 (z := 40) Ig rfl
    by_cases Ih : ch = 41
    ·have e2 := zq (z := 41) Ih rfl
     subst Ih
     cases b with
     | false =>
      have HST := aa (jl (bY.out wo HM.out.up).2 (bY.out wo HM.out.up).1 (tG.out none (by simp [pz])))
      go_wp2_with fail
      obtain ⟨s2, s3, hp⟩ := HST.out
      exact ⟨rfl, .tuple #[.agg #[.slice none 0 0, .slice none 0 0], .int .i64 3], by simp [results, Tryz.results121, go_sem, s2, s3], hp⟩
     | true =>
      by_cases hm0 : m = 0
      ·have d2 : (((m : Int) + 1) == 1) = true := by rw [hm0]; rfl
       have HST := aa (jl (bY.out wo HM.out.up).2 (bY.out wo HM.out.up).1 (tG.out none (by have h := De.out; rw [hm0] at h; rw [pz, if_neg (by decide), if_pos rfl, if_pos (.inr h)])))
       clear hm0
       go_wp2_with fail
       obtain ⟨s2, s3, hp⟩ := HST.out
       exact ⟨rfl, .tuple #[.agg #[.slice none 0 0, .slice none 0 0], .int .i64 3], by simp [results, Tryz.results121, go_sem, s2, s3], hp⟩
      ·have d2 : (((m : Int) + 1) == 1) = false := beq_eq_false_iff_ne.2 (by omega)
       obtain ⟨q, os2, rfl⟩ : ∃ q os2, os = q :: os2 := by
        cases os with
        | nil => exact absurd (by have := PD.out; simpa using this) hm0
        | cons q os2 => exact ⟨q, os2, rfl⟩
       obtain ⟨Y, st2, rfl⟩ : ∃ Y st2, st = Y :: st2 := by
        cases st with
        | nil => exact absurd (by have := De.out; simp at this; omega) hm0
        | cons Y st2 => exact ⟨Y, st2, rfl⟩
       have Bw : Hid (iU s.data.toList = pz f' (s.data.toList.drop (k + 1)) ((Y ++ [.node ByteArray.empty Z]) :: st2) true) := tG.out _ (by simp [pz, popZ])
       have HOL : Hid (m = os2.length + 1) := by have := PD.out; simp at this; exact this
       have HN : Hid (B5 (w.heap.size + 1) s (iU s.data.toList) w1 (w.heap.size + 1) (k + 1) true (.slice (some ⟨g, 0, none⟩) m cap) wo) := by
        rw [HOL.out]
        exact HM.out.ZF (by rw [HOL.out]) Bw.out.symm GL.out
       have w1f : (m : Int) ≤ (cap : Int) := by omega
       clear hm0
       go_wp2_with fail
       go_roundw
       case rel => exact ⟨k + 1, true, aV.out, by go_num, rfl, HN.out⟩
       case measure => have := aV.out; simp [intOf]; omega
    ·have e2 := B8 (z := 41) Ih rfl
     by_cases Ii : ch = 44
     ·have e3 := zq (z := 44) Ii rfl
      subst Ii
      cases b with
      | false =>
       have HST := aa (jl (bY.out wo HM.out.up).2 (bY.out wo HM.out.up).1 (tG.out none (by simp [pz])))
       go_wp2_with fail
       obtain ⟨s2, s3, hp⟩ := HST.out
       exact ⟨rfl, .tuple #[.agg #[.slice none 0 0, .slice none 0 0], .int .i64 3], by simp [results, Tryz.results121, go_sem, s2, s3], hp⟩
      | true =>
       by_cases hm0 : m = 0
       ·have d2 : (((m : Int) + 1) == 1) = true := by rw [hm0]; rfl
        have HST := aa (jl (bY.out wo HM.out.up).2 (bY.out wo HM.out.up).1 (tG.out none (by have h := De.out; rw [hm0] at h; rw [pz, if_neg (by decide), if_neg (by decide), if_pos rfl, if_pos (.inr h)])))
        clear hm0
        go_wp2_with fail
        obtain ⟨s2, s3, hp⟩ := HST.out
        exact ⟨rfl, .tuple #[.agg #[.slice none 0 0, .slice none 0 0], .int .i64 3], by simp [results, Tryz.results121, go_sem, s2, s3], hp⟩
       ·have d2 : (((m : Int) + 1) == 1) = false := beq_eq_false_iff_ne.2 (by omega)
        have Bw : Hid (iU s.data.toList = pz f' (s.data.toList.drop (k + 1)) (Z :: st) false) := tG.out _ (by have h := De.out; rw [pz, if_neg (by decide), if_neg (by decide), if_pos rfl, if_neg (by rw [h]; simp; omega)])
        have HN : Hid (B5 (w.heap.size + 1) s (iU s.data.toList) w1 (w.heap.size + 1) (k + 1) false (.slice (some ⟨g, 0, none⟩) (m + 1) cap) wo) := HM.out.comma Bw.out.symm GL.out
        clear hm0
        go_wp2_with fail
        go_roundw
        case rel => exact ⟨k + 1, false, aV.out, by go_num, rfl, HN.out⟩
        case measure => have := aV.out; simp [intOf]; omega
     ·have e3 := B8 (z := 44) Ii rfl
      by_cases Ij : ch = 59
      ·have e4 := zq (z := 59) Ij rfl
       subst Ij
       cases b with
       | false =>
        have HST := aa (jl (bY.out wo HM.out.up).2 (bY.out wo HM.out.up).1 (tG.out none (by simp [pz])))
        go_wp2_with fail
        obtain ⟨s2, s3, hp⟩ := HST.out
        exact ⟨rfl, .tuple #[.agg #[.slice none 0 0, .slice none 0 0], .int .i64 3], by simp [results, Tryz.results121, go_sem, s2, s3], hp⟩
       | true =>
        by_cases hm0 : m = 0
        ·have d2 : (((m : Int) + 1) != 1) = false := by rw [hm0]; rfl
         by_cases hk1 : k + 1 = s.size
         ·have d3 : ((k : Int) != (s.size : Int) - 1) = false := by simp; omega
          have hos : os = [] := List.eq_nil_of_length_eq_zero (by have := PD.out; omega)
          subst hos
          have hst0 : st = [] := List.eq_nil_of_length_eq_zero (by have := De.out; simp at this; omega)
          subst hst0
          obtain ⟨r, Y, rfl⟩ : ∃ r Y, Z = r :: Y := by
           have := HM.out.ZB rfl
           cases Z with
           | nil => exact absurd rfl this
           | cons r Y => exact ⟨r, Y, rfl⟩
          have zJ : o = 0 := by have := HM.out.last; simpa using this
          subst zJ
          have ZP : s.data.toList.drop (k + 1) = [] := List.drop_eq_nil_of_le (by rw [Array.length_toList]; have : s.data.size = s.size := rfl; omega)
          have p6 : iU s.data.toList = some r := tG.out (some r) (by rw [ZP]; simp [pz, firstZ])
          obtain ⟨c, ks, hkc, dL, htr⟩ := HM.out.zf.done
          have gN : s.data.toList.length = s.size := by rw [Array.length_toList]; rfl
          obtain ⟨B9, Ca, EP⟩ := yD p6
          rw [gN] at B9 Ca
          have Ik := aa B9
          have Il := aa Ca
          have Im : Hid (∀ k, (gs (flat r).ns k).size ≤ 70000) := fun j => by have := EP j; rw [gN] at this; omega
          have qb := aa p6
          have Io := HM.out.a0
          have hkv := HM.out.fr.qo HM.out.zf.on
          have hown := HM.out.fr.own 0 HM.out.zf.on
          rw [hkc, List.map_cons] at hown
          rw [Io] at hkv
          obtain ⟨kq, kcap, SJ, PG⟩ := hown.form (n := (ks.map (bu A)).length + 1) (by simp)
          obtain ⟨kg, rfl⟩ : ∃ kg, kq = some ⟨kg, 0, none⟩ := by
           rcases PG with rfl | h2
           ·obtain ⟨_, h3 | ⟨g, _, _, h3, _⟩⟩ := hown
            ·have := h3.2; simp at this
            ·rw [SJ] at h3; cases h3
           ·exact h2
          rw [SJ] at hown hkv
          have PI := (EM hown (j := 0) (u := bu A c) (by simp)).1
          simp only [bu] at PI
          have Eg := aa (OO HM.out.zf.wf (fun i hi => Nat.le_trans (oI (HM.out.zf.nd i hi) (fun x hx => (HM.out.zf.kid i hi x hx).2)) (by have := HM.out.nk; omega)) wo c dL HM.out.fr (by
           have h1 : (dN F mh c none).length = (bK F mh c).length := by
            simp [bK]
           have h2 := oI (EH HM.out.zf.wf HM.out.zf.one HM.out.zf.nd (fun i _ => Hu i) dL) (fun x hx => oH HM.out.zf.wf dL (Nat.le_refl _) ((dV HM.out.zf.wf dL (Nat.le_refl _)).1 hx))
           have := HM.out.nk
           omega))
          rw [htr] at Eg
          have ZQ := aa (bY.out wo HM.out.up).1
          have kC := aa (bY.out wo HM.out.up).2
          have PJ : Hid (w.heap.size + 1 ≤ wo.heap.size) := Nat.le_trans (Nat.le_of_eq ct.out.symm) HM.out.up.size
          have i9 : (0 : Int) < ((ks.map (bu A)).length : Int) + 1 := by omega
          clear hm0 hk1 ZP p6 hkc htr gN B9 Ca EP hown SJ PG dL
          generalize (ks.map (bu A)).length = kl at *
          go_wp2_with fail
          refine Eg.out.mono ?_
          rintro e w4 ⟨cF, _, rfl, P4, N4, rfl, dY, eG⟩
          obtain ⟨pp, pc, rfl, _, _⟩ := aB.open dY
          obtain ⟨np, nc, rfl, _, _⟩ := aB.open eG
          have dY : aq _ w4 (.slice pp (flat r).ps.length pc) (flat r).ps := dY
          have eG : ah _ w4 (.slice np (flat r).ns.length nc) (flat r).ns := eG
          have bf := Up.alloc w4 (.cells #[.slice pp (flat r).ps.length pc, .slice np (flat r).ns.length nc] 39)
          have b0 := dW w4 (.slice pp (flat r).ps.length pc) (.slice np (flat r).ns.length nc) 39
          have b1 := eu w4 (.slice pp (flat r).ps.length pc) (.slice np (flat r).ns.length nc) 39
          have gj := aa b0
          have gm := aa b1
          have yG := (Below.block (cF.trans bf) w.heap.size (by have := PJ.out; omega)).trans ZQ.out
          have Ip := aa yG
          have Iq := aa (kC.out.trans (cF.trans bf))
          have oo : Hid (aA (fun b => wo.heap.size ≤ b) (w4.alloc (.cells #[.slice pp (flat r).ps.length pc, .slice np (flat r).ns.length nc] 39)) (.agg #[.slice pp (flat r).ps.length pc, .slice np (flat r).ns.length nc]) (flat r)) := aA.keep ⟨_, _, rfl, dY, eG⟩ (bf.kept _)
          have eY := aa (qZ _ _ _ (flat r) oo.out (by have := Ik.out; omega) (by have := Il.out; omega) Im.out)
          have PK : Hid (wo.heap.size ≤ (w4.alloc (.cells #[.slice pp (flat r).ps.length pc, .slice np (flat r).ns.length nc] 39)).heap.size) := (cF.trans bf).size
          clear cF dY eG bf Eg yG kC ZQ q0 q1 q2 q3 PI hkv
          go_wp2_with fail
          generalize w4.alloc (.cells #[.slice pp (flat r).ps.length pc, .slice np (flat r).ns.length nc] 39) = w5 at *
          refine eY.out.mono ?_
          rintro e w6 ⟨rfl, cU⟩
          have cU : Up w5 w6 := cU
          have b0 := cU.cell gj.out
          have b1 := cU.cell gm.out
          have sr := (Below.block cU w.heap.size (by have := PJ.out; have := PK.out; omega)).trans Ip.out
          have AY := aa sr
          have AZ := aa (Iq.out.trans cU)
          have su := aa (oo.out.keep (cU.kept _))
          obtain ⟨q0, q1, q2, q3⟩ := boxed sr
          have yH : Hid (tF s = az (flat r)) := by unfold Hid tF; rw [qb.out]
          have uJ : Hid (qF s = if az (flat r) ≠ 0 then ⟨[], []⟩ else flat r) := by unfold Hid qF; rw [qb.out]
          clear cU sr eY
          by_cases he : az (flat r) = 0
          ·have A2 : Hid (qF s = flat r) := by unfold Hid; rw [uJ.out, if_neg (by simp [he])]
           have SK : Hid (tF s = 0) := by unfold Hid; rw [yH.out, he]
           rw [he]
           have HST := aa (dZ (w := w) (p := .slice pp (flat r).ps.length pc) (q := .slice np (flat r).ns.length nc) AY.out (Nat.le_refl _) AZ.out)
           clear he
           go_wp2_with fail
           obtain ⟨s1, s2, s3, s4⟩ := HST.out
           obtain ⟨P7, N7, e7, Bz, PL⟩ := su.out
           have e8 : P7 = .slice pp (flat r).ps.length pc ∧ N7 = .slice np (flat r).ns.length nc := by
            injection e7 with e7
            have := congrArg Array.toList e7
            simp at this
            exact ⟨this.1.symm, this.2.symm⟩
           obtain ⟨rfl, rfl⟩ := e8
           have hsw := PJ.out
           refine ⟨rfl, .tuple #[.agg #[.slice pp (flat r).ps.length pc, .slice np (flat r).ns.length nc], .int .i64 0], by simp [results, Tryz.results121, go_sem, s2, s3], ?_⟩
           refine ⟨s1, _, by rw [SK.out], ?_⟩
           rw [A2.out]
           exact ⟨_, _, rfl, (aq.keep Bz fun b hb _ => s4 b (by omega)).sub fun b _ _ => trivial, (ah.keep PL fun b hb _ => s4 b (by omega)).sub fun b _ _ => trivial⟩
          ·have BK : (az (flat r) != 0) = true := by simpa using he
           have A2 : Hid (qF s = ⟨[], []⟩) := by unfold Hid; rw [uJ.out, if_pos he]
           have HST := aa (dZ (w := w) (p := .slice none 0 0) (q := .slice none 0 0) AY.out (Nat.le_refl _) AZ.out)
           clear he
           generalize az (flat r) = te at *
           go_wp2_with fail
           obtain ⟨s1, s2, s3, s4⟩ := HST.out
           refine ⟨rfl, .tuple #[.agg #[.slice none 0 0, .slice none 0 0], .int .i64 te], by simp [results, Tryz.results121, go_sem, s2, s3], ?_⟩
           refine ⟨s1, _, by rw [yH.out], ?_⟩
           rw [A2.out]; exact AW _
         ·have d3 : ((k : Int) != (s.size : Int) - 1) = true := by simp; omega
          have HST := aa (jl (bY.out wo HM.out.up).2 (bY.out wo HM.out.up).1 (tG.out none (by
           have hne : s.data.toList.drop (k + 1) ≠ [] := fun e => by
            have := List.drop_eq_nil_iff.1 e
            rw [Array.length_toList] at this
            have h2 : s.data.size = s.size := rfl
            omega
           rw [pz, if_neg (by decide), if_neg (by decide), if_neg (by decide), if_pos rfl, if_pos (.inr (.inr hne))])))
          clear hm0 hk1
          go_wp2_with fail
          obtain ⟨s2, s3, hp⟩ := HST.out
          exact ⟨rfl, .tuple #[.agg #[.slice none 0 0, .slice none 0 0], .int .i64 3], by simp [results, Tryz.results121, go_sem, s2, s3], hp⟩
        ·have d2 : (((m : Int) + 1) != 1) = true := by simp; omega
         have HST := aa (jl (bY.out wo HM.out.up).2 (bY.out wo HM.out.up).1 (tG.out none (by have h := De.out; rw [pz, if_neg (by decide), if_neg (by decide), if_neg (by decide), if_pos rfl, if_pos (.inr (.inl (by rw [h]; omega)))])))
         clear hm0
         go_wp2_with fail
         obtain ⟨s2, s3, hp⟩ := HST.out
         exact ⟨rfl, .tuple #[.agg #[.slice none 0 0, .slice none 0 0], .int .i64 3], by simp [results, Tryz.results121, go_sem, s2, s3], hp⟩
      ·have e4 := B8 (z := 59) Ij rfl
       cases b with
       | true =>
        have HST := aa (jl (bY.out wo HM.out.up).2 (bY.out wo HM.out.up).1 (tG.out none (by rw [pz, if_neg Ig, if_neg Ih, if_neg Ii, if_neg Ij, if_pos rfl])))
        go_wp2_with fail
        obtain ⟨s2, s3, hp⟩ := HST.out
        exact ⟨rfl, .tuple #[.agg #[.slice none 0 0, .slice none 0 0], .int .i64 3], by simp [results, Tryz.results121, go_sem, s2, s3], hp⟩
       | false =>
        have p9 : Hid (ch ∉ bF) := Dd Ig Ih Ii Ij
        have ZR : Hid (∀ x, (if Lib.indexAny (s.data.toList.drop k) bF < 0 then none else pz f' ((s.data.toList.drop k).drop (Lib.indexAny (s.data.toList.drop k) bF).toNat) ((Z ++ [.node ⟨((s.data.toList.drop k).take (Lib.indexAny (s.data.toList.drop k) bF).toNat).toArray⟩ []]) :: st) true) = x → iU s.data.toList = x) := fun x hx => tG.out x (by
         rw [pz, if_neg Ig, if_neg Ih, if_neg Ii, if_neg Ij, if_neg (by simp), ← U8.out]; exact hx)
        have xg := aa (ZJ.out k wo aV.out)
        clear Ig Ih Ii Ij
        have i3 : (k : Int) ≤ (s.size : Int) := by omega
        go_wp2_with fail
        refine xg.out.mono ?_
        rintro e w3 ⟨rfl, bX⟩
        have U9 := aa (HM.out.ZG bX)
        obtain ⟨q0, q1, q2, q3⟩ := boxed (bY.out w3 U9.out.up).1
        clear bX xg
        by_cases Ie : Lib.indexAny (s.data.toList.drop k) bF < 0
        ·have d5 : decide (Lib.indexAny (s.data.toList.drop k) bF < 0) = true := decide_eq_true Ie
         have HST := aa (jl (bY.out w3 U9.out.up).2 (bY.out w3 U9.out.up).1 (ZR.out none (by rw [if_pos Ie])))
         clear Ie
         generalize Lib.indexAny (s.data.toList.drop k) bF = ia at *
         go_wp2_with fail
         obtain ⟨s2, s3, hp⟩ := HST.out
         exact ⟨rfl, .tuple #[.agg #[.slice none 0 0, .slice none 0 0], .int .i64 3], by simp [results, Tryz.results121, go_sem, s2, s3], hp⟩
        ·obtain ⟨x, hx⟩ : ∃ x : Nat, Lib.indexAny (s.data.toList.drop k) bF = (x : Int) := ⟨(Lib.indexAny (s.data.toList.drop k) bF).toNat, by omega⟩
         have hx1 : 1 ≤ x := by
          have h1 := Hx (s := s.data.toList.drop (k + 1)) p9.out
          rw [← U8.out, hx] at h1
          omega
         have hx2 : k + x < s.size := by
          have h1 := U4 _ x hx
          rw [List.length_drop, Array.length_toList] at h1
          have h2 : s.data.size = s.size := rfl
          omega
         have HRUN : Hid (pz f' (s.data.toList.drop (k + x)) ((Z ++ [.node (s.extract k (k + x)) []]) :: st) true = iU s.data.toList) := by
          have h1 := ZR.out _ rfl
          rw [hx, if_neg (by omega), Int.toNat_natCast, List.drop_drop, MN s k x] at h1
          exact h1.symm
         rw [hx]
         have d5 : decide ((x : Int) < 0) = false := decide_eq_false (by omega)
         have uS := aa hx2
         have kE := aa hx1
         have j1 : (0 : Int) ≤ (x : Int) := by omega
         have j2 : (k : Int) ≤ (k : Int) + (x : Int) := by omega
         have j3 : (k : Int) + (x : Int) ≤ (s.size : Int) := by omega
         have j4 : IntKind.i64.wrap ((k : Int) + (x : Int)) = (k : Int) + (x : Int) := by rw [IntKind.wrap_i64]; omega
         have j5 : ((k : Int) + (x : Int)).toNat = k + x := by omega
         have j6 : (0 : Int) ≤ (k : Int) + (x : Int) := by omega
         have xh := aa U9.out.drew
         have hkc := xh.out.fr.qo xh.out.zf.on
         have hkf := xh.out.fr.thaw xh.out.zf.on 1
         clear Ie hx hx1 ZR
         go_wp2_with fail
         refine dM (by kernel_rfl) 18 (fun w' => w'.cell? ⟨A o, 1, none⟩ = some (kv o)) hkc (fun hS => ?_)
         simp only [List.size_toArray, List.length_cons, List.length_nil, Nat.reduceAdd, Array.replicate_succ, Array.replicate_zero, List.push_toArray, List.nil_append, List.cons_append]
         refine af.take (i := 0) (v := ?tq) rfl (by kernel_rfl) (fun _ _ _ h => h) (by rfl) (fun w hSw => ?iE) hS ?tr
         case iE =>
          (try dsimp only at hSw)
          go_simp
          try with_reducible rfl
         try simp only [Act.put, au, av, ax]
         refine af.take (i := 1) (v := ?tu) rfl (by kernel_rfl) (fun _ _ _ h => h) (by rfl) (fun w hSw => ?iF) hS ?tA
         case iF =>
          (try dsimp only at hSw)
          go_simp
          try with_reducible rfl
         try simp only [Act.put, au, av, ax]
         refine af.take (i := 2) (v := ?vM) rfl (by kernel_rfl) (fun _ _ _ h => h) (by rfl) (fun w hSw => ?jF) hS ?vO
         case jF =>
          (try dsimp only at hSw)
          go_simp
          try with_reducible rfl
         try simp only [Act.put, au, av, ax]
         refine af.take (i := 3) (v := ?vP) rfl (by kernel_rfl) (fun _ _ _ h => h) (by rfl) (fun w hSw => ?jG) hS ?vQ
         case jG =>
          (try dsimp only at hSw)
          go_simp
          try with_reducible rfl
         try simp only [Act.put, au, av, ax]
         refine af.take (i := 4) (v := ?vR) rfl (by kernel_rfl) (fun _ _ _ h => h) (by rfl) (fun w hSw => ?jH) hS ?vS
         case jH =>
          (try dsimp only at hSw)
          go_simp
          try with_reducible rfl
         try simp only [Act.put, au, av, ax]
         refine af.take (i := 5) (v := ?vT) rfl (by kernel_rfl) (fun _ _ _ h => h) (by rfl) (fun w hSw => ?jI) hS ?vU
         case jI =>
          (try dsimp only at hSw)
          go_simp
          try with_reducible rfl
         try simp only [Act.put, au, av, ax]
         refine af.take (i := 6) (v := ?zj) rfl (by kernel_rfl) (fun _ _ _ h => h) (by rfl) (fun w hSw => ?lM) hS ?zk
         case lM =>
          (try dsimp only at hSw)
          go_simp
          try with_reducible rfl
         try simp only [Act.put, au, av, ax]
         refine af.take (i := 7) (v := ?BW) rfl (by kernel_rfl) (fun _ _ _ h => h) (by rfl) (fun w hSw => ?nQ) hS ?BX
         case nQ =>
          (try dsimp only at hSw)
          go_simp
          try with_reducible rfl
         try simp only [Act.put, au, av, ax]
         refine af.take (i := 8) (v := ?MD) rfl (by kernel_rfl) (fun _ _ _ h => h) (by rfl) (fun w hSw => ?vV) hS ?ME
         case vV =>
          (try dsimp only at hSw)
          go_simp
          try with_reducible rfl
         try simp only [Act.put, au, av, ax]
         refine af.take (i := 9) (v := ?Va) rfl (by kernel_rfl) (fun _ _ _ h => h) (by rfl) (fun w hSw => ?Cb) hS ?Vb
         case Cb =>
          (try dsimp only at hSw)
          go_simp
          try with_reducible rfl
         try simp only [Act.put, au, av, ax]
         refine af.take (i := 10) (v := ?PM) rfl (by kernel_rfl) (fun _ _ _ h => h) (by rfl) (fun w hSw => ?yI) hS ?PN
         case yI =>
          (try dsimp only at hSw)
          go_simp
          try with_reducible rfl
         try simp only [Act.put, au, av, ax]
         refine af.take (i := 11) (v := ?ZT) rfl (by kernel_rfl) (fun _ _ _ h => h) (by rfl) (fun w hSw => ?Ir) hS ?ZU
         case Ir =>
          (try dsimp only at hSw)
          go_simp
          try with_reducible rfl
         try simp only [Act.put, au, av, ax]
         refine af.step (i := 12) rfl (by kernel_rfl) (fun K' hK => ?_)
         go_simp
         refine hK.out _ _ (fun _ => (Up.alloc _ _).cell hkc) (fun hS => ?_)
         try simp only [au, av, ax]
         have HOW : Hid (aC (w.heap.size + 1) 119 ((w3.drew.alloc (.cells #[.string (s.extract k (k + x)), .slice none 0 0, .int .i64 0] 122)).alloc (.cells #[.pointer (some ⟨w3.drew.heap.size, 0, none⟩)] 119)) (kv o) ((F.kids o).map (bu A))) := ((xh.out.fr.own o xh.out.zf.on).alloc _).alloc _
         have uH : (w3.drew.alloc (.cells #[.string (s.extract k (k + x)), .slice none 0 0, .int .i64 0] 122)).heap.size = w3.drew.heap.size + 1 := World.size_alloc _ _
         have iV := aa uH
         have ij : Hid (((w3.drew.alloc (.cells #[.string (s.extract k (k + x)), .slice none 0 0, .int .i64 0] 122)).alloc (.cells #[.pointer (some ⟨w3.drew.heap.size, 0, none⟩)] 119)).cell? ⟨w3.drew.heap.size + 1, 0, none⟩ = some (.pointer (some ⟨w3.drew.heap.size, 0, none⟩))) := by
          have h := aO (w3.drew.alloc (.cells #[.string (s.extract k (k + x)), .slice none 0 0, .int .i64 0] 122)) #[.pointer (some ⟨w3.drew.heap.size, 0, none⟩)] 119 0
          rw [uH] at h; exact h
         have jO : Hid (w.heap.size + 1 ≤ w3.drew.heap.size) := Nat.le_trans (Nat.le_of_eq ct.out.symm) xh.out.up.size
         have og : Hid (w.heap.size + 1 ≤ ((w3.drew.alloc (.cells #[.string (s.extract k (k + x)), .slice none 0 0, .int .i64 0] 122)).alloc (.cells #[.pointer (some ⟨w3.drew.heap.size, 0, none⟩)] 119)).heap.size) := by have := jO.out; rw [Hid, World.size_alloc, World.size_alloc]; omega
         have PE := aa xh.out.ZE
         have HFLM : Hid (((F.kids o).map (bu A)).length ≤ 1000000) := by have := PE.out; unfold Hid; rw [this.1]; exact this.2
         clear uH
         refine af.step (i := 13) rfl (by kernel_rfl) (fun K' hK => ?_)
         go_simp
         refine hK.out _ _ (fun _ => ((Up.alloc _ _).trans (Up.alloc _ _)).cell hkc) (fun hS => ?_)
         try simp only [au, av, ax]
         try rw [iV.out]
         refine af.step (i := 14) rfl (by kernel_rfl) (fun K' hK => ?_)
         refine fN (by rfl) _ _ _ (by rfl) (w.heap.size + 1) 119 _ 8 Tryz.underlying120 Tryz.rQ (by rfl) (by decide) (by rfl) HOW.out (.pointer (some ⟨w3.drew.heap.size, 0, none⟩)) (w3.drew.heap.size + 1) (by rfl) ij.out (by rfl) HFLM.out og.out ?_
         intro g8 gW w8 bU cG fq _
         have Dg := mF cG
         have Df : (w3.drew.alloc (.cells #[.string (s.extract k (k + x)), .slice none 0 0, .int .i64 0] 122)).grownBy w8 (kv o).ownBlock := ⟨Dg.os, Dg.tape, Dg.output, Dg.size, Dg.block⟩
         obtain ⟨ZL, hf8⟩ := xh.out.store Df
         obtain ⟨A8, kv8, Ad, PF⟩ := xh.out.node (s.extract k (k + x)) jO.out bU Df (fq.imp id fun e => by rw [e]; show _ ≤ (World.alloc (World.alloc w3 _) _).heap.size; rw [World.size_alloc, World.size_alloc]; exact Nat.le_succ (w3.heap.size + 1))
         have ZV := aa (xh.out.leaf (by have := xh.out.nk; omega) (k' := k + x) (f' := f') (by have := kE.out; omega) PF HRUN.out (by have := GL.out; have := kE.out; omega))
         clear bU cG fq Dg Df PF Ad
         refine hK.out _ _ (fun _ => ZL) (fun hS => ?_)
         try simp only [Act.put, au, av, ax]
         replace hS := hS ⟨17, by decide, rfl⟩
         refine af.take (i := 15) (v := ?gv15k2) rfl (by kernel_rfl) (fun _ _ _ h => h) (by rfl) (fun w hSw => ?ZW) hS ?gr15k2
         case ZW =>
          (try dsimp only at hSw)
          go_simp
          try with_reducible rfl
         try simp only [Act.put, au, av, ax]
         refine af.take (i := 16) (v := ?gv16k2) rfl (by kernel_rfl) (fun _ _ _ h => h) (by rfl) (fun w hSw => ?ZX) hS ?gr16k2
         case ZX =>
          (try dsimp only at hSw)
          go_simp
          try with_reducible rfl
         try simp only [Act.put, au, av, ax]
         refine af.step (i := 17) rfl (by kernel_rfl) (fun K' hK => ?_)
         go_simp
         refine hK.out _ _ (aJ (by kernel_rfl)) (fun hS => ?_)
         refine af.done (by kernel_rfl) ?_
         have j7 : (x : Int) - 1 < (s.size : Int) := by omega
         go_wp2_with fail
         go_roundw
         case rel => exact ⟨k + x, true, by have := uS.out; omega, by have := kE.out; have := uS.out; go_num, rfl, by have h := ZV.out; rw [PE.out.1] at h; exact h⟩
         case measure => have := kE.out; have := uS.out; simp [intOf]; omega
  ·obtain rfl : k = s.size := by omega
   obtain ⟨n, A, kv, F, o, os, Z, st, f, hM⟩ := hO.out
   have hf := hM.fuel
   have hrun := hM.run
   have hd0 : s.data.toList.drop s.size = [] := List.drop_eq_nil_of_le (by rw [Array.length_toList]; exact Nat.le_refl _)
   obtain ⟨f', rfl⟩ : ∃ f', f = f' + 1 := ⟨f - 1, by omega⟩
   rw [hd0, pz] at hrun
   obtain ⟨q0, q1, q2, q3⟩ := boxed (bY.out wo hM.up).1
   have HST := aa (jl (bY.out wo hM.up).2 (bY.out wo hM.up).1 hrun.symm)
   clear hM hO hf hrun hd0 hlt hk
   go_wp2_with fail
   obtain ⟨s2, s3, hp⟩ := HST.out
   exact ⟨rfl, .tuple #[.agg #[.slice none 0 0, .slice none 0 0], .int .i64 3], by simp [results, Tryz.results121, go_sem, s2, s3], hp⟩
end Go.Proofs.YthgabkgmkolobaaGreat
