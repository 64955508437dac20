/- The contract of phylotree.Parse. -/
import Derived.Test.YtpnmblnahjjmhaaGreatQ1
import Derived.Test.YtpnmblnahjjmhaaGreatQ24
import Derived.Test.YtpnmblnahjjmhaaGreatQ21
import Derived.Test.YtpnmblnahjjmhaaGreatQ23
import Derived.Test.YtpnmblnahjjmhaaGreatQ5
namespace Go.Proofs.YtpnmblnahjjmhaaGreat
set_option maxRecDepth 100000
open Go.RowKit Go.Deep
def G3 (w : World) (s : ByteArray) (e : Ending) (w' : World) : Prop :=
 Up w w' ∧ ∃ v, e = .returned (.tuple #[v, .int .i64 (paE s)]) ∧ aO Any w' v (Er s)
def Yg (s : ByteArray) : Prop := ∀ (i : Nat) (W : World), i < s.size → Calls Tryz.prog 176 #[.string (s.extract i s.size), .string ⟨#[40, 41, 44, 59]⟩] W fun e W' => e = .returned (.int .i64 (Lib.indexAny (s.data.toList.drop i) eW)) ∧ Up W W'
theorem lM {w W : World} {s : ByteArray} (hu : Up w W) (hb : W.heap[w.heap.size]? = some (Obj.cells #[.slice none 0 0, .slice none 0 0] 39 (0, 0))) (h : qx s.data.toList = none) :
    ((W.setCell ⟨w.heap.size, 0, none⟩ (.slice none 0 0)).setCell ⟨w.heap.size, 1, none⟩ (.slice none 0 0)).cell? ⟨w.heap.size, 0, none⟩ = some (.slice none 0 0) ∧ ((W.setCell ⟨w.heap.size, 0, none⟩ (.slice none 0 0)).setCell ⟨w.heap.size, 1, none⟩ (.slice none 0 0)).cell? ⟨w.heap.size, 1, none⟩ = some (.slice none 0 0) ∧
      G3 w s (.returned (.tuple #[.agg #[.slice none 0 0, .slice none 0 0], .int .i64 3])) ((W.setCell ⟨w.heap.size, 0, none⟩ (.slice none 0 0)).setCell ⟨w.heap.size, 1, none⟩ (.slice none 0 0)) := by
  obtain ⟨s1, s2, s3, s4⟩ := fD (p := .slice none 0 0) (q := .slice none 0 0) hb (Nat.le_refl _) hu
  refine ⟨s2, s3, s1, .agg #[.slice none 0 0, .slice none 0 0], by unfold paE; rw [h], ?_⟩
  unfold Er; rw [h]; exact vG _
theorem Cb {c d : UInt8} {z : Int} (h : c ≠ d) (hz : z = d.toNat) : ((c.toNat : Int) == z) = false := by
 subst hz
 rw [beq_eq_false_iff_ne]
 intro e
 exact h (UInt8.toNat_inj.1 (by omega))
theorem ze {c d : UInt8} {z : Int} (h : c = d) (hz : z = d.toNat) : ((c.toNat : Int) == z) = true := by
 subst hz; subst h; exact beq_self_eq_true _
set_option maxHeartbeats 8000000 in
theorem KG (w : World) (s : ByteArray) (hs : s.size ≤ 1000) (G4 : Yg s) :
  Calls Tryz.prog 105 #[.string s] w (G3 w s) := by
 have hrb := lu (w := w) (P := .slice none 0 0) (N := .slice none 0 0) (T := 39)
 have hu := Up.alloc w (.cells #[.slice none 0 0, .slice none 0 0] 39)
 have hsz : (w.alloc (.cells #[.slice none 0 0, .slice none 0 0] 39)).heap.size = w.heap.size + 1 := World.size_alloc _ _
 have HU := ag hu
 have dG := ag hsz
 have gQ := ag hrb
 have HIA := ag G4
 have d1 : decide ((65536 : Int) < (s.size : Int)) = false := decide_eq_false (by omega)
 have d1n : ¬ 65536 < s.size := by omega
 clear hrb hu hsz G4
 aq Tryz.func105, Tryz.ntmps105
 aa fail
 have cu := ag (Ss (w.alloc (.cells #[.slice none 0 0, .slice none 0 0] 39)) s)
 rw [dG.out] at cu
 generalize w.alloc (.cells #[.slice none 0 0, .slice none 0 0] 39) = w1 at *
 have iT : Hid (∀ wr, Below (w.heap.size + 1) w1 wr → wr.heap[w.heap.size]? = some (Obj.cells #[.slice none 0 0, .slice none 0 0] 39 (0, 0)) ∧ Up w wr) := fun wr h => ⟨(h.block _ (Nat.lt_succ_self _)).trans gQ.out, HU.out.trans (h.mono (by rw [dG.out]; exact Nat.le_refl _))⟩
 aV [5, 6, 7, 8, 9, 10, 11, 12, 66, 86, 101, 111] (fun ov dn i _ _ _ _ _ _ _ _ _ wr => ∃ (k : Nat) (b : Bool), k ≤ s.size ∧ i = .int .i64 k ∧ dn = .bool b ∧ Hid (Ca (w.heap.size + 1) s (qx s.data.toList) w1 (w.heap.size + 1) k b ov wr)) (fun _ _ i _ _ _ _ _ _ _ _ _ _ => s.size - (intOf i).toNat)
 case atStart => exact ⟨0, false, Nat.zero_le _, rfl, rfl, cu.out⟩
 case round =>
  obtain ⟨k, b, hk, rfl, rfl, hO⟩ := bE
  obtain ⟨wo, rfl⟩ : ∃ wo : World, wo = wr := ⟨_, rfl⟩
  by_cases hlt : k < s.size
  ·obtain ⟨n, A, kv, F, o, os, Z, st, f, hM⟩ := hO.out
   obtain ⟨g, cap, qz, hcapn, hrow⟩ := hM.row
   
   obtain ⟨f', ch, mB, wQ, hdr, hch⟩ := hM.step hlt
   have HF := ag mB
   have oy := ag wQ
   have St := hdr
   have i1 : (0 : Int) ≤ (k : Int) := by omega
   have i2 : (k : Int) < (s.size : Int) := by omega
   have KH := hM.ol
   have aU := ag hlt
   obtain ⟨m, hm⟩ : ∃ m, m = os.length := ⟨_, rfl⟩
   have wR := ag hm
   rw [← hm] at qz hcapn hrow KH
   subst qz
   have w1a : wrap64 (m : Int) = (m : Int) := by unfold wrap64; omega
   have w1b : (0 : Int) ≤ (m : Int) := by omega
   have w1c : (m : Int) < (m : Int) + 1 := by omega
   have w1d : m < m + 1 := by omega
   have w1e : m + 1 ≤ 1000000 := by omega
   have HM := ag hM
   clear hm KH
   clear hO hM mB wQ hdr
   have hfr := HM.out.fr.Fz HM.out.zf.on 1
   obtain ⟨q0, q1, q2, q3⟩ := boxed (iT.out wo HM.out.up).1
   have tH : Hid (∀ x, pz (f' + 1) (ch :: s.data.toList.drop (k + 1)) (Z :: st) b = x → qx s.data.toList = x) := fun x hx => by
    have hr := HM.out.run; rw [HF.out, St] at hr; rw [← hr]; exact hx
   have HDR := ag St
   have C3 : Hid ((Z :: st).length = m + 1) := by have h := HM.out.zf.len; rw [Hid, wR.out]; simp at h ⊢; omega
   clear St
   by_cases G5 : ch = 40
   ·have e1 := ze (z := 40) G5 rfl
    subst G5
    cases b with
    | true =>
     have cu := ag (lM (iT.out wo HM.out.up).2 (iT.out wo HM.out.up).1 (tH.out none (by simp [pz])))
     aa fail
     obtain ⟨s2, s3, hp⟩ := cu.out
     exact ⟨rfl, .tuple #[.agg #[.slice none 0 0, .slice none 0 0], .int .i64 3], by simp [results, Tryz.results105, go_sem, s2, s3], hp⟩
    | false =>
     have hkc := (Up.alloc wo (.cells #[.string ⟨#[]⟩, .slice none 0 0, .int .i64 0] 140)).cell (HM.out.fr.qG HM.out.zf.on)
     have hs1 : (wo.alloc (.cells #[.string ⟨#[]⟩, .slice none 0 0, .int .i64 0] 140)).heap.size = wo.heap.size + 1 := World.size_alloc _ _
     have wS := ag hs1
     have sv : Hid (ay (w.heap.size + 1) 137 (wo.alloc (.cells #[.string ⟨#[]⟩, .slice none 0 0, .int .i64 0] 140)) (kv o) ((F.kids o).map (b7 A))) := (HM.out.fr.own o HM.out.zf.on).alloc _
     have zF : Hid (w.heap.size + 1 ≤ wo.heap.size) := Nat.le_trans (Nat.le_of_eq dG.out.symm) HM.out.up.size
     have Yh : Hid (w.heap.size + 1 ≤ (wo.alloc (.cells #[.string ⟨#[]⟩, .slice none 0 0, .int .i64 0] 140)).heap.size) := by rw [Hid, wS.out]; exact Nat.le_succ_of_le zF.out
     have G6 := ag HM.out.Yd
     have qy : Hid (∀ g2 m2 cF w', ay (w.heap.size + 1) 137 w' (.slice (some ⟨g2, 0, none⟩) m2 cF) ((F.kids o).map (b7 A) ++ [.pointer (some ⟨wo.heap.size, 0, none⟩)]) → (wo.alloc (.cells #[.string ⟨#[]⟩, .slice none 0 0, .int .i64 0] 140)).grownBy w' (kv o).ownBlock → ((kv o).ownBlock = some g2 ∨ (wo.alloc (.cells #[.string ⟨#[]⟩, .slice none 0 0, .int .i64 0] 140)).heap.size ≤ g2) →
       (w'.cell? ⟨A o, 1, none⟩ = some (kv o) ∧ w'.frozen? ⟨A o, 1, none⟩ = false) ∧ ∃ A' kv', A' n = wo.heap.size ∧ Uw (w.heap.size + 1) w1 (w.heap.size + 1) (.slice (some ⟨g, 0, none⟩) (m + 1) cap) n A' kv' (jC F n o ByteArray.empty) (o :: os) (w'.setCell ⟨A o, 1, none⟩ (.slice (some ⟨g2, 0, none⟩) m2 cF))) := fun g2 m2 cF w' h1 h2 h3 =>
      ⟨HM.out.store h2, HM.out.node ByteArray.empty zF.out h1 h2 (by rw [wS.out] at h3; exact h3)⟩
     have mO : Hid (n < 2000) := by have := HM.out.nk; unfold Hid; omega
     clear hs1
     generalize kv o = kvo at *
     have yj : Hid (qx s.data.toList = pz f' (s.data.toList.drop (k + 1)) ([] :: Z :: st) false) := tH.out _ (by simp [pz])
     aa (first | (bR; refine yh (wo.alloc (.cells #[.string ⟨#[]⟩, .slice none 0 0, .int .i64 0] 140)) rfl _ _ 138 rfl (w.heap.size + 1) 137 (.pointer none) 8 Tryz.underlying138 Tryz.r7 rfl (by decide) sv.out rfl (.pointer (some ⟨wo.heap.size, 0, none⟩)) (wo.heap.size + 1) wS.out rfl rfl _ G6.out.1 G6.out.2 Yh.out ?_; intro g8 jD w8 mZ pQ G7; obtain ⟨⟨KI, Po⟩, A8, kv8, Ux, mR⟩ := qy.out _ _ _ w8 mZ pQ G7; have HN8 := ag mR; have HA8 := ag Ux; have Yi : Hid (w.heap.size + 1 ≤ (w8.setCell ⟨A o, 1, none⟩ (.slice (some ⟨g8, 0, none⟩) ((F.kids o).length + 1) jD)).heap.size) := (by rw [Hid, World.size_setCell]; exact Nat.le_trans Yh.out pQ.size); clear mZ pQ G7 Ux mR) | (bR; refine yh (w8.setCell ⟨A o, 1, none⟩ (.slice (some ⟨g8, 0, none⟩) ((F.kids o).length + 1) jD)) rfl _ _ 138 rfl (w.heap.size + 1) 137 (.pointer none) 8 Tryz.underlying138 Tryz.r7 rfl (by decide) HN8.out.own rfl (.pointer (some ⟨wo.heap.size, 0, none⟩)) w8.heap.size (World.size_setCell _ _ _) rfl rfl (m + 1) (by rw [wR.out]; simp) (by omega) Yi.out ?_; intro g9 cap9 w9 Mw C4 Yj; have HP9 : Hid (Ca (w.heap.size + 1) s (qx s.data.toList) w1 (w.heap.size + 1) (k + 1) false (.slice (some ⟨g9, 0, none⟩) (m + 1 + 1) cap9) w9) := HM.out.opened mO.out HN8.out Yi.out (by unfold b7 at Mw ⊢; rw [HA8.out]; exact Mw) C4 Yj yj.out.symm oy.out; clear Mw C4 Yj))
     aF
     case rel => exact ⟨k + 1, false, aU.out, by aH, rfl, HP9.out⟩
     case measure => have := aU.out; simp [intOf]; omega
   ·have e1 := Cb (z := 40) G5 rfl
    by_cases G8 : ch = 41
    ·have e2 := ze (z := 41) G8 rfl
     subst G8
     cases b with
     | false =>
      have cu := ag (lM (iT.out wo HM.out.up).2 (iT.out wo HM.out.up).1 (tH.out none (by simp [pz])))
      aa fail
      obtain ⟨s2, s3, hp⟩ := cu.out
      exact ⟨rfl, .tuple #[.agg #[.slice none 0 0, .slice none 0 0], .int .i64 3], by simp [results, Tryz.results105, go_sem, s2, s3], hp⟩
     | true =>
      by_cases hm0 : m = 0
      ·have d2 : (((m : Int) + 1) == 1) = true := by rw [hm0]; rfl
       have cu := ag (lM (iT.out wo HM.out.up).2 (iT.out wo HM.out.up).1 (tH.out none (by have h := C3.out; rw [hm0] at h; rw [pz, if_neg (by decide), if_pos rfl, if_pos (.inr h)])))
       clear hm0
       aa fail
       obtain ⟨s2, s3, hp⟩ := cu.out
       exact ⟨rfl, .tuple #[.agg #[.slice none 0 0, .slice none 0 0], .int .i64 3], by simp [results, Tryz.results105, go_sem, s2, s3], hp⟩
      ·have d2 : (((m : Int) + 1) == 1) = false := beq_eq_false_iff_ne.2 (by omega)
       obtain ⟨q, vb, rfl⟩ : ∃ q vb, os = q :: vb := by
        cases os with
        | nil => exact absurd (by have := wR.out; simpa using this) hm0
        | cons q vb => exact ⟨q, vb, rfl⟩
       obtain ⟨Y, st2, rfl⟩ : ∃ Y st2, st = Y :: st2 := by
        cases st with
        | nil => exact absurd (by have := C3.out; simp at this; omega) hm0
        | cons Y st2 => exact ⟨Y, st2, rfl⟩
       have yj : Hid (qx s.data.toList = pz f' (s.data.toList.drop (k + 1)) ((Y ++ [.node ByteArray.empty Z]) :: st2) true) := tH.out _ (by simp [pz, popZ])
       have Es : Hid (m = vb.length + 1) := by have := wR.out; simp at this; exact this
       have HN : Hid (Ca (w.heap.size + 1) s (qx s.data.toList) w1 (w.heap.size + 1) (k + 1) true (.slice (some ⟨g, 0, none⟩) m cap) wo) := by
        rw [Es.out]
        exact HM.out.Ye (by rw [Es.out]) yj.out.symm oy.out
       have w1f : (m : Int) ≤ (cap : Int) := by omega
       clear hm0
       aa fail
       aF
       case rel => exact ⟨k + 1, true, aU.out, by aH, rfl, HN.out⟩
       case measure => have := aU.out; simp [intOf]; omega
    ·have e2 := Cb (z := 41) G8 rfl
     by_cases G9 : ch = 44
     ·have e3 := ze (z := 44) G9 rfl
      subst G9
      cases b with
      | false =>
       have cu := ag (lM (iT.out wo HM.out.up).2 (iT.out wo HM.out.up).1 (tH.out none (by simp [pz])))
       aa fail
       obtain ⟨s2, s3, hp⟩ := cu.out
       exact ⟨rfl, .tuple #[.agg #[.slice none 0 0, .slice none 0 0], .int .i64 3], by simp [results, Tryz.results105, go_sem, s2, s3], hp⟩
      | true =>
       by_cases hm0 : m = 0
       ·have d2 : (((m : Int) + 1) == 1) = true := by rw [hm0]; rfl
        have cu := ag (lM (iT.out wo HM.out.up).2 (iT.out wo HM.out.up).1 (tH.out none (by have h := C3.out; rw [hm0] at h; rw [pz, if_neg (by decide), if_neg (by decide), if_pos rfl, if_pos (.inr h)])))
        clear hm0
        aa fail
        obtain ⟨s2, s3, hp⟩ := cu.out
        exact ⟨rfl, .tuple #[.agg #[.slice none 0 0, .slice none 0 0], .int .i64 3], by simp [results, Tryz.results105, go_sem, s2, s3], hp⟩
       ·have d2 : (((m : Int) + 1) == 1) = false := beq_eq_false_iff_ne.2 (by omega)
        have yj : Hid (qx s.data.toList = pz f' (s.data.toList.drop (k + 1)) (Z :: st) false) := tH.out _ (by have h := C3.out; rw [pz, if_neg (by decide), if_neg (by decide), if_pos rfl, if_neg (by rw [h]; simp; omega)])
        have HN : Hid (Ca (w.heap.size + 1) s (qx s.data.toList) w1 (w.heap.size + 1) (k + 1) false (.slice (some ⟨g, 0, none⟩) (m + 1) cap) wo) := HM.out.comma yj.out.symm oy.out
        clear hm0
        aa fail
        aF
        case rel => exact ⟨k + 1, false, aU.out, by aH, rfl, HN.out⟩
        case measure => have := aU.out; simp [intOf]; omega
     ·have e3 := Cb (z := 44) G9 rfl
      by_cases He : ch = 59
      ·have e4 := ze (z := 59) He rfl
       subst He
       cases b with
       | false =>
        have cu := ag (lM (iT.out wo HM.out.up).2 (iT.out wo HM.out.up).1 (tH.out none (by simp [pz])))
        aa fail
        obtain ⟨s2, s3, hp⟩ := cu.out
        exact ⟨rfl, .tuple #[.agg #[.slice none 0 0, .slice none 0 0], .int .i64 3], by simp [results, Tryz.results105, go_sem, s2, s3], hp⟩
       | true =>
        by_cases hm0 : m = 0
        ·have d2 : (((m : Int) + 1) != 1) = false := by rw [hm0]; rfl
         by_cases iE : k + 1 = s.size
         ·have d3 : ((k : Int) != (s.size : Int) - 1) = false := by simp; omega
          have hos : os = [] := List.eq_nil_of_length_eq_zero (by have := wR.out; omega)
          subst hos
          have hst0 : st = [] := List.eq_nil_of_length_eq_zero (by have := C3.out; simp at this; omega)
          subst hst0
          obtain ⟨r, Y, rfl⟩ : ∃ r Y, Z = r :: Y := by
           have := HM.out.Yb rfl
           cases Z with
           | nil => exact absurd rfl this
           | cons r Y => exact ⟨r, Y, rfl⟩
          have Kk : o = 0 := by have := HM.out.last; simpa using this
          subst Kk
          have Yk : s.data.toList.drop (k + 1) = [] := List.drop_eq_nil_of_le (by rw [Array.length_toList]; have : s.data.size = s.size := rfl; omega)
          have Bw : qx s.data.toList = some r := tH.out (some r) (by rw [Yk]; simp [pz, firstZ])
          obtain ⟨c, ks, hkc, fB, htr⟩ := HM.out.zf.done
          have jV : s.data.toList.length = s.size := by rw [Array.length_toList]; rfl
          obtain ⟨Yl, Ym, rs3⟩ := Pj Bw
          rw [jV] at Yl Ym
          have HRS1 := ag Yl
          have HRS2 := ag Ym
          have HRS3 : Hid (∀ k, (gs (flat r).ns k).size ≤ 70000) := fun j => by have := rs3 j; rw [jV] at this; omega
          have wT := ag Bw
          have Uy := HM.out.a0
          have hkv := HM.out.fr.qG HM.out.zf.on
          have hown := HM.out.fr.own 0 HM.out.zf.on
          rw [hkc, List.map_cons] at hown
          rw [Uy] at hkv
          obtain ⟨kq, kcap, Su, Pp⟩ := hown.form (n := (ks.map (b7 A)).length + 1) (by simp)
          obtain ⟨kg, rfl⟩ : ∃ kg, kq = some ⟨kg, 0, none⟩ := by
           rcases Pp with rfl | h2
           ·obtain ⟨_, h3 | ⟨g, _, _, h3, _⟩⟩ := hown
            ·have := h3.2; simp at this
            ·rw [Su] at h3; cases h3
           ·exact h2
          rw [Su] at hown hkv
          have Pq := (nQ hown (j := 0) (u := b7 A c) (by simp)).1
          simp only [b7] at Pq
          have Ke := ag (Ot HM.out.zf.wf (fun i hi => Nat.le_trans (pJ (HM.out.zf.nd i hi) (fun x hx => (HM.out.zf.bF i hi x hx).2)) (by have := HM.out.nk; omega)) wo c fB HM.out.fr (by
           have h1 : (eO F mQ c none).length = (cm F mQ c).length := by
            simp [cm]
           have h2 := pJ (Ej HM.out.zf.wf HM.out.zf.one HM.out.zf.nd (fun i _ => GR i) fB) (fun x hx => nO HM.out.zf.wf fB (Nat.le_refl _) ((dL HM.out.zf.wf fB (Nat.le_refl _)).1 hx))
           have := HM.out.nk
           omega))
          rw [htr] at Ke
          have Yn := ag (iT.out wo HM.out.up).1
          have iD := ag (iT.out wo HM.out.up).2
          have Yo : Hid (w.heap.size + 1 ≤ wo.heap.size) := Nat.le_trans (Nat.le_of_eq dG.out.symm) HM.out.up.size
          have i9 : (0 : Int) < ((ks.map (b7 A)).length : Int) + 1 := by omega
          clear hm0 iE Yk Bw hkc htr jV Yl Ym rs3 hown Su Pp fB
          generalize (ks.map (b7 A)).length = kl at *
          aa fail
          refine Ke.out.mono ?_
          rintro e w4 ⟨eG, _, rfl, P4, N4, rfl, oz, oA⟩
          obtain ⟨pp, pc, rfl, _, _⟩ := aC.open oz
          obtain ⟨np, nc, rfl, _, _⟩ := aC.open oA
          have oz : an _ w4 (.slice pp (flat r).ps.length pc) (flat r).ps := oz
          have oA : aG _ w4 (.slice np (flat r).ns.length nc) (flat r).ns := oA
          have dY := Up.alloc w4 (.cells #[.slice pp (flat r).ps.length pc, .slice np (flat r).ns.length nc] 39)
          have b0 := dg w4 (.slice pp (flat r).ps.length pc) (.slice np (flat r).ns.length nc) 39
          have b1 := dy w4 (.slice pp (flat r).ps.length pc) (.slice np (flat r).ns.length nc) 39
          have gN := ag b0
          have gU := ag b1
          have Yp := (Below.block (eG.trans dY) w.heap.size (by have := Yo.out; omega)).trans Yn.out
          have HRB5 := ag Yp
          have HUW5 := ag (iD.out.trans (eG.trans dY))
          have HT5 : Hid (aO (fun b => wo.heap.size ≤ b) (w4.alloc (.cells #[.slice pp (flat r).ps.length pc, .slice np (flat r).ns.length nc] 39)) (.agg #[.slice pp (flat r).ps.length pc, .slice np (flat r).ns.length nc]) (flat r)) := aO.keep ⟨_, _, rfl, oz, oA⟩ (dY.kept _)
          have fO := ag (yX _ _ _ (flat r) HT5.out (by have := HRS1.out; omega) (by have := HRS2.out; omega) HRS3.out)
          have sH : Hid (wo.heap.size ≤ (w4.alloc (.cells #[.slice pp (flat r).ps.length pc, .slice np (flat r).ns.length nc] 39)).heap.size) := (eG.trans dY).size
          clear eG oz oA dY Ke Yp iD Yn q0 q1 q2 q3 Pq hkv
          aa fail
          generalize w4.alloc (.cells #[.slice pp (flat r).ps.length pc, .slice np (flat r).ns.length nc] 39) = w5 at *
          refine fO.out.mono ?_
          rintro e w6 ⟨rfl, gO⟩
          have gO : Up w5 w6 := gO
          have b0 := gO.cell gN.out
          have b1 := gO.cell gU.out
          have vP := (Below.block gO w.heap.size (by have := Yo.out; have := sH.out; omega)).trans HRB5.out
          have C5 := ag vP
          have Yq := ag (HUW5.out.trans gO)
          have Uz := ag (HT5.out.keep (gO.kept _))
          obtain ⟨q0, q1, q2, q3⟩ := boxed vP
          have HPE : Hid (paE s = aK (flat r)) := by unfold Hid paE; rw [wT.out]
          have Ko : Hid (Er s = if aK (flat r) ≠ 0 then ⟨[], []⟩ else flat r) := by unfold Hid Er; rw [wT.out]
          clear gO vP fO
          by_cases he : aK (flat r) = 0
          ·have Sv : Hid (Er s = flat r) := by unfold Hid; rw [Ko.out, if_neg (by simp [he])]
           have HPE0 : Hid (paE s = 0) := by unfold Hid; rw [HPE.out, he]
           rw [he]
           have cu := ag (fD (w := w) (p := .slice pp (flat r).ps.length pc) (q := .slice np (flat r).ns.length nc) C5.out (Nat.le_refl _) Yq.out)
           clear he
           aa fail
           obtain ⟨s1, s2, s3, s4⟩ := cu.out
           obtain ⟨P7, N7, e7, hP7, hN7⟩ := Uz.out
           have e8 : P7 = .slice pp (flat r).ps.length pc ∧ N7 = .slice np (flat r).ns.length nc := by
            injection e7 with e7
            have := congrArg Array.toList e7
            simp at this
            exact ⟨this.1.symm, this.2.symm⟩
           obtain ⟨rfl, rfl⟩ := e8
           have hsw := Yo.out
           refine ⟨rfl, .tuple #[.agg #[.slice pp (flat r).ps.length pc, .slice np (flat r).ns.length nc], .int .i64 0], by simp [results, Tryz.results105, go_sem, s2, s3], ?_⟩
           refine ⟨s1, _, by rw [HPE0.out], ?_⟩
           rw [Sv.out]
           exact ⟨_, _, rfl, (an.keep hP7 fun b hb _ => s4 b (by omega)).sub fun b _ _ => trivial, (aG.keep hN7 fun b hb _ => s4 b (by omega)).sub fun b _ _ => trivial⟩
          ·have F0 : (aK (flat r) != 0) = true := by simpa using he
           have Sv : Hid (Er s = ⟨[], []⟩) := by unfold Hid; rw [Ko.out, if_pos he]
           have cu := ag (fD (w := w) (p := .slice none 0 0) (q := .slice none 0 0) C5.out (Nat.le_refl _) Yq.out)
           clear he
           generalize aK (flat r) = te at *
           aa fail
           obtain ⟨s1, s2, s3, s4⟩ := cu.out
           refine ⟨rfl, .tuple #[.agg #[.slice none 0 0, .slice none 0 0], .int .i64 te], by simp [results, Tryz.results105, go_sem, s2, s3], ?_⟩
           refine ⟨s1, _, by rw [HPE.out], ?_⟩
           rw [Sv.out]; exact vG _
         ·have d3 : ((k : Int) != (s.size : Int) - 1) = true := by simp; omega
          have cu := ag (lM (iT.out wo HM.out.up).2 (iT.out wo HM.out.up).1 (tH.out none (by
           have hne : s.data.toList.drop (k + 1) ≠ [] := fun e => by
            have := List.drop_eq_nil_iff.1 e
            rw [Array.length_toList] at this
            have h2 : s.data.size = s.size := rfl
            omega
           rw [pz, if_neg (by decide), if_neg (by decide), if_neg (by decide), if_pos rfl, if_pos (.inr (.inr hne))])))
          clear hm0 iE
          aa fail
          obtain ⟨s2, s3, hp⟩ := cu.out
          exact ⟨rfl, .tuple #[.agg #[.slice none 0 0, .slice none 0 0], .int .i64 3], by simp [results, Tryz.results105, go_sem, s2, s3], hp⟩
        ·have d2 : (((m : Int) + 1) != 1) = true := by simp; omega
         have cu := ag (lM (iT.out wo HM.out.up).2 (iT.out wo HM.out.up).1 (tH.out none (by have h := C3.out; rw [pz, if_neg (by decide), if_neg (by decide), if_neg (by decide), if_pos rfl, if_pos (.inr (.inl (by rw [h]; omega)))])))
         clear hm0
         aa fail
         obtain ⟨s2, s3, hp⟩ := cu.out
         exact ⟨rfl, .tuple #[.agg #[.slice none 0 0, .slice none 0 0], .int .i64 3], by simp [results, Tryz.results105, go_sem, s2, s3], hp⟩
      ·have e4 := Cb (z := 59) He rfl
       cases b with
       | true =>
        have cu := ag (lM (iT.out wo HM.out.up).2 (iT.out wo HM.out.up).1 (tH.out none (by rw [pz, if_neg G5, if_neg G8, if_neg G9, if_neg He, if_pos rfl])))
        aa fail
        obtain ⟨s2, s3, hp⟩ := cu.out
        exact ⟨rfl, .tuple #[.agg #[.slice none 0 0, .slice none 0 0], .int .i64 3], by simp [results, Tryz.results105, go_sem, s2, s3], hp⟩
       | false =>
        have gY : Hid (ch ∉ eW) := Kz G5 G8 G9 He
        have Yr : Hid (∀ x, (if Lib.indexAny (s.data.toList.drop k) eW < 0 then none else pz f' ((s.data.toList.drop k).drop (Lib.indexAny (s.data.toList.drop k) eW).toNat) ((Z ++ [.node ⟨((s.data.toList.drop k).take (Lib.indexAny (s.data.toList.drop k) eW).toNat).toArray⟩ []]) :: st) true) = x → qx s.data.toList = x) := fun x hx => tH.out x (by
         rw [pz, if_neg G5, if_neg G8, if_neg G9, if_neg He, if_neg (by simp), ← HDR.out]; exact hx)
        have HIK := ag (HIA.out k wo aU.out)
        clear G5 G8 G9 He
        have i3 : (k : Int) ≤ (s.size : Int) := by omega
        aa fail
        refine HIK.out.mono ?_
        rintro e w3 ⟨rfl, cL⟩
        have UA := ag (HM.out.Yf cL)
        obtain ⟨q0, q1, q2, q3⟩ := boxed (iT.out w3 UA.out.up).1
        clear cL HIK
        by_cases G4 : Lib.indexAny (s.data.toList.drop k) eW < 0
        ·have d5 : decide (Lib.indexAny (s.data.toList.drop k) eW < 0) = true := decide_eq_true G4
         have cu := ag (lM (iT.out w3 UA.out.up).2 (iT.out w3 UA.out.up).1 (Yr.out none (by rw [if_pos G4])))
         clear G4
         generalize Lib.indexAny (s.data.toList.drop k) eW = ia at *
         aa fail
         obtain ⟨s2, s3, hp⟩ := cu.out
         exact ⟨rfl, .tuple #[.agg #[.slice none 0 0, .slice none 0 0], .int .i64 3], by simp [results, Tryz.results105, go_sem, s2, s3], hp⟩
        ·obtain ⟨x, hx⟩ : ∃ x : Nat, Lib.indexAny (s.data.toList.drop k) eW = (x : Int) := ⟨(Lib.indexAny (s.data.toList.drop k) eW).toNat, by omega⟩
         have hx1 : 1 ≤ x := by
          have h1 := Pg (s := s.data.toList.drop (k + 1)) gY.out
          rw [← HDR.out, hx] at h1
          omega
         have hx2 : k + x < s.size := by
          have h1 := Uu _ x hx
          rw [List.length_drop, Array.length_toList] at h1
          have h2 : s.data.size = s.size := rfl
          omega
         have HRUN : Hid (pz f' (s.data.toList.drop (k + x)) ((Z ++ [.node (s.extract k (k + x)) []]) :: st) true = qx s.data.toList) := by
          have h1 := Yr.out _ rfl
          rw [hx, if_neg (by omega), Int.toNat_natCast, List.drop_drop, Mr s k x] at h1
          exact h1.symm
         rw [hx]
         have d5 : decide ((x : Int) < 0) = false := decide_eq_false (by omega)
         have nR := ag hx2
         have kF := ag hx1
         have j1 : (0 : Int) ≤ (x : Int) := by omega
         have j2 : (k : Int) ≤ (k : Int) + (x : Int) := by omega
         have j3 : (k : Int) + (x : Int) ≤ (s.size : Int) := by omega
         have j4 : IntKind.i64.wrap ((k : Int) + (x : Int)) = (k : Int) + (x : Int) := by rw [IntKind.wrap_i64]; omega
         have j5 : ((k : Int) + (x : Int)).toNat = k + x := by omega
         have j6 : (0 : Int) ≤ (k : Int) + (x : Int) := by omega
         have wU := ag UA.out.drew
         have hkc := wU.out.fr.qG wU.out.zf.on
         have hkf := wU.out.fr.Fz wU.out.zf.on 1
         clear G4 hx hx1 Yr
         aa fail
         refine eE (by af) 18 (fun w' => w'.cell? ⟨A o, 1, none⟩ = some (kv o)) hkc (fun hS => ?_)
         simp only [List.size_toArray, List.length_cons, List.length_nil, Nat.reduceAdd, Array.replicate_succ, Array.replicate_zero, List.push_toArray, List.nil_append, List.cons_append]
         refine au.take (i := 0) (v := ?y6) rfl (by af) (fun _ _ _ h => h) (by rfl) (fun w av => ?l7) hS ?y7
         case l7 =>
          (try dsimp only at av)
          aj
          try ah rfl
         try simp only [Act.put, az, aA, aB]
         refine au.take (i := 1) (v := ?y8) rfl (by af) (fun _ _ _ h => h) (by rfl) (fun w av => ?l9) hS ?y9
         case l9 =>
          (try dsimp only at av)
          aj
          try ah rfl
         try simp only [Act.put, az, aA, aB]
         refine au.take (i := 2) (v := ?BI) rfl (by af) (fun _ _ _ h => h) (by rfl) (fun w av => ?oD) hS ?BJ
         case oD =>
          (try dsimp only at av)
          aj
          try ah rfl
         try simp only [Act.put, az, aA, aB]
         refine au.take (i := 3) (v := ?BK) rfl (by af) (fun _ _ _ h => h) (by rfl) (fun w av => ?oE) hS ?BL
         case oE =>
          (try dsimp only at av)
          aj
          try ah rfl
         try simp only [Act.put, az, aA, aB]
         refine au.take (i := 4) (v := ?BM) rfl (by af) (fun _ _ _ h => h) (by rfl) (fun w av => ?oF) hS ?BN
         case oF =>
          (try dsimp only at av)
          aj
          try ah rfl
         try simp only [Act.put, az, aA, aB]
         refine au.take (i := 5) (v := ?BO) rfl (by af) (fun _ _ _ h => h) (by rfl) (fun w av => ?oG) hS ?BP
         case oG =>
          (try dsimp only at av)
          aj
          try ah rfl
         try simp only [Act.put, az, aA, aB]
         refine au.take (i := 6) (v := ?Fh) rfl (by af) (fun _ _ _ h => h) (by rfl) (fun w av => ?qY) hS ?Fi
         case qY =>
          (try dsimp only at av)
          aj
          try ah rfl
         try simp only [Act.put, az, aA, aB]
         refine au.take (i := 7) (v := ?gv7k1) rfl (by af) (fun _ _ _ h => h) (by rfl) (fun w av => ?Mh) hS ?gr7k1
         case Mh =>
          (try dsimp only at av)
          aj
          try ah rfl
         try simp only [Act.put, az, aA, aB]
         refine au.take (i := 8) (v := ?gv8k1) rfl (by af) (fun _ _ _ h => h) (by rfl) (fun w av => ?Mi) hS ?gr8k1
         case Mi =>
          (try dsimp only at av)
          aj
          try ah rfl
         try simp only [Act.put, az, aA, aB]
         refine au.take (i := 9) (v := ?gv9k1) rfl (by af) (fun _ _ _ h => h) (by rfl) (fun w av => ?gy9k1) hS ?gr9k1
         case gy9k1 =>
          (try dsimp only at av)
          aj
          try ah rfl
         try simp only [Act.put, az, aA, aB]
         refine au.take (i := 10) (v := ?gv10k1) rfl (by af) (fun _ _ _ h => h) (by rfl) (fun w av => ?Yt) hS ?gr10k1
         case Yt =>
          (try dsimp only at av)
          aj
          try ah rfl
         try simp only [Act.put, az, aA, aB]
         refine au.take (i := 11) (v := ?gv11k1) rfl (by af) (fun _ _ _ h => h) (by rfl) (fun w av => ?Yu) hS ?gr11k1
         case Yu =>
          (try dsimp only at av)
          aj
          try ah rfl
         try simp only [Act.put, az, aA, aB]
         refine au.step (i := 12) rfl (by af) (fun K' hK => ?_)
         aj
         refine hK.out _ _ (fun _ => (Up.alloc _ _).cell hkc) (fun hS => ?_)
         try simp only [az, aA, aB]
         have sv : Hid (ay (w.heap.size + 1) 137 ((w3.drew.alloc (.cells #[.string (s.extract k (k + x)), .slice none 0 0, .int .i64 0] 140)).alloc (.cells #[.pointer (some ⟨w3.drew.heap.size, 0, none⟩)] 137)) (kv o) ((F.kids o).map (b7 A))) := ((wU.out.fr.own o wU.out.zf.on).alloc _).alloc _
         have Km : (w3.drew.alloc (.cells #[.string (s.extract k (k + x)), .slice none 0 0, .int .i64 0] 140)).heap.size = w3.drew.heap.size + 1 := World.size_alloc _ _
         have UB := ag Km
         have jH : Hid (((w3.drew.alloc (.cells #[.string (s.extract k (k + x)), .slice none 0 0, .int .i64 0] 140)).alloc (.cells #[.pointer (some ⟨w3.drew.heap.size, 0, none⟩)] 137)).cell? ⟨w3.drew.heap.size + 1, 0, none⟩ = some (.pointer (some ⟨w3.drew.heap.size, 0, none⟩))) := by
          have h := bI (w3.drew.alloc (.cells #[.string (s.extract k (k + x)), .slice none 0 0, .int .i64 0] 140)) #[.pointer (some ⟨w3.drew.heap.size, 0, none⟩)] 137 0
          rw [Km] at h; exact h
         have jk : Hid (w.heap.size + 1 ≤ w3.drew.heap.size) := Nat.le_trans (Nat.le_of_eq dG.out.symm) wU.out.up.size
         have zF : Hid (w.heap.size + 1 ≤ ((w3.drew.alloc (.cells #[.string (s.extract k (k + x)), .slice none 0 0, .int .i64 0] 140)).alloc (.cells #[.pointer (some ⟨w3.drew.heap.size, 0, none⟩)] 137)).heap.size) := by have := jk.out; rw [Hid, World.size_alloc, World.size_alloc]; omega
         have G6 := ag wU.out.Yd
         have HFLM : Hid (((F.kids o).map (b7 A)).length ≤ 1000000) := by have := G6.out; unfold Hid; rw [this.1]; exact this.2
         clear Km
         refine au.step (i := 13) rfl (by af) (fun K' hK => ?_)
         aj
         refine hK.out _ _ (fun _ => ((Up.alloc _ _).trans (Up.alloc _ _)).cell hkc) (fun hS => ?_)
         try simp only [az, aA, aB]
         try rw [UB.out]
         refine au.step (i := 14) rfl (by af) (fun K' hK => ?_)
         refine dK (by rfl) _ _ _ (by rfl) (w.heap.size + 1) 137 _ 8 Tryz.underlying138 Tryz.r7 (by rfl) (by decide) (by rfl) sv.out (.pointer (some ⟨w3.drew.heap.size, 0, none⟩)) (w3.drew.heap.size + 1) (by rfl) jH.out (by rfl) HFLM.out zF.out ?_
         intro g8 jD w8 mZ pQ G7 _
         have C6 := nj pQ
         have C4 : (w3.drew.alloc (.cells #[.string (s.extract k (k + x)), .slice none 0 0, .int .i64 0] 140)).grownBy w8 (kv o).ownBlock := ⟨C6.os, C6.tape, C6.output, C6.size, C6.block⟩
         obtain ⟨KI, Po⟩ := wU.out.store C4
         obtain ⟨A8, kv8, Ux, mR⟩ := wU.out.node (s.extract k (k + x)) jk.out mZ C4 (G7.imp id fun e => by rw [e]; show _ ≤ (World.alloc (World.alloc w3 _) _).heap.size; rw [World.size_alloc, World.size_alloc]; exact Nat.le_succ (w3.heap.size + 1))
         have HP8 := ag (wU.out.leaf (by have := wU.out.nk; omega) (k' := k + x) (f' := f') (by have := kF.out; omega) mR HRUN.out (by have := oy.out; have := kF.out; omega))
         clear mZ pQ G7 C6 C4 mR Ux
         refine hK.out _ _ (fun _ => KI) (fun hS => ?_)
         try simp only [Act.put, az, aA, aB]
         replace hS := hS ⟨17, by decide, rfl⟩
         refine au.take (i := 15) (v := ?gv15k2) rfl (by af) (fun _ _ _ h => h) (by rfl) (fun w av => ?Yv) hS ?gr15k2
         case Yv =>
          (try dsimp only at av)
          aj
          try ah rfl
         try simp only [Act.put, az, aA, aB]
         refine au.take (i := 16) (v := ?gv16k2) rfl (by af) (fun _ _ _ h => h) (by rfl) (fun w av => ?Yw) hS ?gr16k2
         case Yw =>
          (try dsimp only at av)
          aj
          try ah rfl
         try simp only [Act.put, az, aA, aB]
         refine au.step (i := 17) rfl (by af) (fun K' hK => ?_)
         aj
         refine hK.out _ _ (bh (by af)) (fun hS => ?_)
         refine au.done (by af) ?_
         have j7 : (x : Int) - 1 < (s.size : Int) := by omega
         aa fail
         aF
         case rel => exact ⟨k + x, true, by have := nR.out; omega, by have := kF.out; have := nR.out; aH, rfl, by have h := HP8.out; rw [G6.out.1] at h; exact h⟩
         case measure => have := kF.out; have := nR.out; simp [intOf]; omega
  ·obtain rfl : k = s.size := by omega
   obtain ⟨n, A, kv, F, o, os, Z, st, f, hM⟩ := hO.out
   have hf := hM.fuel
   have hrun := hM.run
   have Hf : s.data.toList.drop s.size = [] := List.drop_eq_nil_of_le (by rw [Array.length_toList]; exact Nat.le_refl _)
   obtain ⟨f', rfl⟩ : ∃ f', f = f' + 1 := ⟨f - 1, by omega⟩
   rw [Hf, pz] at hrun
   obtain ⟨q0, q1, q2, q3⟩ := boxed (iT.out wo hM.up).1
   have cu := ag (lM (iT.out wo hM.up).2 (iT.out wo hM.up).1 hrun.symm)
   clear hM hO hf hrun Hf hlt hk
   aa fail
   obtain ⟨s2, s3, hp⟩ := cu.out
   exact ⟨rfl, .tuple #[.agg #[.slice none 0 0, .slice none 0 0], .int .i64 3], by simp [results, Tryz.results105, go_sem, s2, s3], hp⟩
end Go.Proofs.YtpnmblnahjjmhaaGreat
