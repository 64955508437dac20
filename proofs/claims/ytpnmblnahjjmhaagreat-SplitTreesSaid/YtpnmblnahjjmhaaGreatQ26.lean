/- The contract of phylotree.Parse. -/
import Derived.Test.YtpnmblnahjjmhaaGreatQ1
import Derived.Test.YtpnmblnahjjmhaaGreatQ25
import Derived.Test.YtpnmblnahjjmhaaGreatQ21
import Derived.Test.YtpnmblnahjjmhaaGreatQ24
import Derived.Test.YtpnmblnahjjmhaaGreatQ23
import Derived.Test.YtpnmblnahjjmhaaGreatQ5
set_option maxRecDepth 100000
namespace Go.Proofs.YtpnmblnahjjmhaaGreat
open Go.RowKit Go.Deep
def G1 (w : World) (s : ByteArray) (e : Ending) (w' : World) : Prop :=
 Up w w' ∧ ∃ v, e = .returned (.tuple #[v, .int .i64 (paE s)]) ∧ aG Any w' v (Ek s)
def Yj (s : ByteArray) : Prop := ∀ (i : Nat) (W : World), i < s.size → Calls Tryz.prog 176 #[.string (s.extract i s.size), .string ⟨#[40, 41, 44, 59]⟩] W fun e W' => e = .returned (.int .i64 (Lib.indexAny (s.data.toList.drop i) dW)) ∧ Up W W'
theorem kM {w W : World} {s : ByteArray} (hu : Up w W) (hb : W.heap[w.heap.size]? = some (Obj.cells #[.slice none 0 0, .slice none 0 0] 39 (0, 0))) (h : pO s.data.toList = none) :
    ((W.setCell ⟨w.heap.size, 0, none⟩ (.slice none 0 0)).setCell ⟨w.heap.size, 1, none⟩ (.slice none 0 0)).cell? ⟨w.heap.size, 0, none⟩ = some (.slice none 0 0) ∧ ((W.setCell ⟨w.heap.size, 0, none⟩ (.slice none 0 0)).setCell ⟨w.heap.size, 1, none⟩ (.slice none 0 0)).cell? ⟨w.heap.size, 1, none⟩ = some (.slice none 0 0) ∧
      G1 w s (.returned (.tuple #[.agg #[.slice none 0 0, .slice none 0 0], .int .i64 3])) ((W.setCell ⟨w.heap.size, 0, none⟩ (.slice none 0 0)).setCell ⟨w.heap.size, 1, none⟩ (.slice none 0 0)) := by
  obtain ⟨s1, s2, s3, s4⟩ := eM (p := .slice none 0 0) (q := .slice none 0 0) hb (Nat.le_refl _) hu
  refine ⟨s2, s3, s1, .agg #[.slice none 0 0, .slice none 0 0], by unfold paE; rw [h], ?_⟩
  unfold Ek; rw [h]; exact vh _
theorem BX {c d : UInt8} {z : Int} (h : c ≠ d) (hz : z = d.toNat) : ((c.toNat : Int) == z) = false := by
 subst hz
 rw [beq_eq_false_iff_ne]
 intro e
 exact h (UInt8.toNat_inj.1 (by omega))
theorem yS {c d : UInt8} {z : Int} (h : c = d) (hz : z = d.toNat) : ((c.toNat : Int) == z) = true := by
 subst hz; subst h; exact beq_self_eq_true _
set_option maxHeartbeats 8000000 in
theorem KF (w : World) (s : ByteArray) (hs : s.size ≤ 1000) (G2 : Yj s) :
  Calls Tryz.prog 105 #[.string s] w (G1 w s) := by
 have hrb := kA (w := w) (P := .slice none 0 0) (N := .slice none 0 0) (T := 39)
 have hu := Up.alloc w (.cells #[.slice none 0 0, .slice none 0 0] 39)
 have hsz : (w.alloc (.cells #[.slice none 0 0, .slice none 0 0] 39)).heap.size = w.heap.size + 1 := World.size_alloc _ _
 have HU := aa hu
 have cO := aa hsz
 have gu := aa hrb
 have HIA := aa G2
 have d1 : decide ((65536 : Int) < (s.size : Int)) = false := decide_eq_false (by omega)
 have d1n : ¬ 65536 < s.size := by omega
 clear hrb hu hsz G2
 go_enter Tryz.func105, Tryz.ntmps105
 go_wp2_with fail
 have HST := aa (Sv (w.alloc (.cells #[.slice none 0 0, .slice none 0 0] 39)) s)
 rw [cO.out] at HST
 generalize w.alloc (.cells #[.slice none 0 0, .slice none 0 0] 39) = w1 at *
 have iy : Hid (∀ wr, Below (w.heap.size + 1) w1 wr → wr.heap[w.heap.size]? = some (Obj.cells #[.slice none 0 0, .slice none 0 0] 39 (0, 0)) ∧ Up w wr) := fun wr h => ⟨(h.block _ (Nat.lt_succ_self _)).trans gu.out, HU.out.trans (h.mono (by rw [cO.out]; exact Nat.le_refl _))⟩
 go_loopw [5, 6, 7, 8, 9, 10, 11, 12, 66, 86, 101, 111] (fun ov dn i _ _ _ _ _ _ _ _ _ wr => ∃ (k : Nat) (b : Bool), k ≤ s.size ∧ i = .int .i64 k ∧ dn = .bool b ∧ Hid (BW (w.heap.size + 1) s (pO s.data.toList) w1 (w.heap.size + 1) k b ov wr)) (fun _ _ i _ _ _ _ _ _ _ _ _ _ => s.size - (intOf i).toNat)
 case atStart => exact ⟨0, false, Nat.zero_le _, rfl, rfl, HST.out⟩
 case round =>
  obtain ⟨k, b, hk, rfl, rfl, hO⟩ := hrel
  obtain ⟨wo, rfl⟩ : ∃ wo : World, wo = wr := ⟨_, rfl⟩
  by_cases hlt : k < s.size
  ·obtain ⟨n, A, kv, F, o, os, Z, st, f, hM⟩ := hO.out
   obtain ⟨g, cap, pR, hcapn, hrow⟩ := hM.row
   
   obtain ⟨f', ch, lB, hf2, hdr, hch⟩ := hM.step hlt
   have HF := aa lB
   have nC := aa hf2
   have Sw := hdr
   have i1 : (0 : Int) ≤ (k : Int) := by omega
   have i2 : (k : Int) < (s.size : Int) := by omega
   have KG := hM.ol
   have aM := aa hlt
   obtain ⟨m, hm⟩ : ∃ m, m = os.length := ⟨_, rfl⟩
   have wC := aa hm
   rw [← hm] at pR hcapn hrow KG
   subst pR
   have w1a : wrap64 (m : Int) = (m : Int) := by unfold wrap64; omega
   have w1b : (0 : Int) ≤ (m : Int) := by omega
   have w1c : (m : Int) < (m : Int) + 1 := by omega
   have w1d : m < m + 1 := by omega
   have w1e : m + 1 ≤ 1000000 := by omega
   have HM := aa hM
   clear hm KG
   clear hO hM lB hf2 hdr
   have hfr := HM.out.fr.thaw HM.out.zf.on 1
   obtain ⟨q0, q1, q2, q3⟩ := boxed (iy.out wo HM.out.up).1
   have sZ : Hid (∀ x, pz (f' + 1) (ch :: s.data.toList.drop (k + 1)) (Z :: st) b = x → pO s.data.toList = x) := fun x hx => by
    have hr := HM.out.run; rw [HF.out, Sw] at hr; rw [← hr]; exact hx
   have HDR := aa Sw
   have CT : Hid ((Z :: st).length = m + 1) := by have h := HM.out.zf.len; rw [Hid, wC.out]; simp at h ⊢; omega
   clear Sw
   by_cases G3 : ch = 40
   ·have e1 := yS (z := 40) G3 rfl
    subst G3
    cases b with
    | true =>
     have HST := aa (kM (iy.out wo HM.out.up).2 (iy.out wo HM.out.up).1 (sZ.out none (by simp [pz])))
     go_wp2_with fail
     obtain ⟨s2, s3, hp⟩ := HST.out
     exact ⟨rfl, .tuple #[.agg #[.slice none 0 0, .slice none 0 0], .int .i64 3], by simp [results, Tryz.results105, go_sem, s2, s3], hp⟩
    | false =>
     have hkc := (Up.alloc wo (.cells #[.string ⟨#[]⟩, .slice none 0 0, .int .i64 0] 140)).cell (HM.out.fr.pZ HM.out.zf.on)
     have hs1 : (wo.alloc (.cells #[.string ⟨#[]⟩, .slice none 0 0, .int .i64 0] 140)).heap.size = wo.heap.size + 1 := World.size_alloc _ _
     have wD := aa hs1
     have HOW : Hid (ah (w.heap.size + 1) 137 (wo.alloc (.cells #[.string ⟨#[]⟩, .slice none 0 0, .int .i64 0] 140)) (kv o) ((F.kids o).map (bC A))) := (HM.out.fr.own o HM.out.zf.on).alloc _
     have zl : Hid (w.heap.size + 1 ≤ wo.heap.size) := Nat.le_trans (Nat.le_of_eq cO.out.symm) HM.out.up.size
     have Yk : Hid (w.heap.size + 1 ≤ (wo.alloc (.cells #[.string ⟨#[]⟩, .slice none 0 0, .int .i64 0] 140)).heap.size) := by rw [Hid, wD.out]; exact Nat.le_succ_of_le zl.out
     have G4 := aa HM.out.Yg
     have pQ : Hid (∀ g2 m2 bJ w', ah (w.heap.size + 1) 137 w' (.slice (some ⟨g2, 0, none⟩) m2 bJ) ((F.kids o).map (bC A) ++ [.pointer (some ⟨wo.heap.size, 0, none⟩)]) → (wo.alloc (.cells #[.string ⟨#[]⟩, .slice none 0 0, .int .i64 0] 140)).grownBy w' (kv o).ownBlock → ((kv o).ownBlock = some g2 ∨ (wo.alloc (.cells #[.string ⟨#[]⟩, .slice none 0 0, .int .i64 0] 140)).heap.size ≤ g2) →
       (w'.cell? ⟨A o, 1, none⟩ = some (kv o) ∧ w'.frozen? ⟨A o, 1, none⟩ = false) ∧ ∃ A' kv', A' n = wo.heap.size ∧ Uy (w.heap.size + 1) w1 (w.heap.size + 1) (.slice (some ⟨g, 0, none⟩) (m + 1) cap) n A' kv' (iY F n o ByteArray.empty) (o :: os) (w'.setCell ⟨A o, 1, none⟩ (.slice (some ⟨g2, 0, none⟩) m2 bJ))) := fun g2 m2 bJ w' h1 h2 h3 =>
      ⟨HM.out.store h2, HM.out.node ByteArray.empty zl.out h1 h2 (by rw [wD.out] at h3; exact h3)⟩
     have lQ : Hid (n < 2000) := by have := HM.out.nk; unfold Hid; omega
     clear hs1
     generalize kv o = kvo at *
     have xU : Hid (pO s.data.toList = pz f' (s.data.toList.drop (k + 1)) ([] :: Z :: st) false) := sZ.out _ (by simp [pz])
     go_wp2_with (first | (at_builtin; refine xT (wo.alloc (.cells #[.string ⟨#[]⟩, .slice none 0 0, .int .i64 0] 140)) rfl _ _ 138 rfl (w.heap.size + 1) 137 (.pointer none) 8 Tryz.underlying138 Tryz.rC rfl (by decide) HOW.out rfl (.pointer (some ⟨wo.heap.size, 0, none⟩)) (wo.heap.size + 1) wD.out rfl rfl _ G4.out.1 G4.out.2 Yk.out ?_; intro g8 iZ w8 mg oI G5; obtain ⟨⟨KH, Pm⟩, A8, kv8, Uz, lT⟩ := pQ.out _ _ _ w8 mg oI G5; have HN8 := aa lT; have HA8 := aa Uz; have Yl : Hid (w.heap.size + 1 ≤ (w8.setCell ⟨A o, 1, none⟩ (.slice (some ⟨g8, 0, none⟩) ((F.kids o).length + 1) iZ)).heap.size) := (by rw [Hid, World.size_setCell]; exact Nat.le_trans Yk.out oI.size); clear mg oI G5 Uz lT) | (at_builtin; refine xT (w8.setCell ⟨A o, 1, none⟩ (.slice (some ⟨g8, 0, none⟩) ((F.kids o).length + 1) iZ)) rfl _ _ 138 rfl (w.heap.size + 1) 137 (.pointer none) 8 Tryz.underlying138 Tryz.rC rfl (by decide) HN8.out.own rfl (.pointer (some ⟨wo.heap.size, 0, none⟩)) w8.heap.size (World.size_setCell _ _ _) rfl rfl (m + 1) (by rw [wC.out]; simp) (by omega) Yl.out ?_; intro g9 cap9 w9 Mu CU Ym; have HP9 : Hid (BW (w.heap.size + 1) s (pO s.data.toList) w1 (w.heap.size + 1) (k + 1) false (.slice (some ⟨g9, 0, none⟩) (m + 1 + 1) cap9) w9) := HM.out.opened lQ.out HN8.out Yl.out (by unfold bC at Mu ⊢; rw [HA8.out]; exact Mu) CU Ym xU.out.symm nC.out; clear Mu CU Ym))
     go_roundw
     case rel => exact ⟨k + 1, false, aM.out, by go_num, rfl, HP9.out⟩
     case measure => have := aM.out; simp [intOf]; omega
   ·have e1 := BX (z := 40) G3 rfl
    by_cases G6 : ch = 41
    ·have e2 := yS (z := 41) G6 rfl
     subst G6
     cases b with
     | false =>
      have HST := aa (kM (iy.out wo HM.out.up).2 (iy.out wo HM.out.up).1 (sZ.out none (by simp [pz])))
      go_wp2_with fail
      obtain ⟨s2, s3, hp⟩ := HST.out
      exact ⟨rfl, .tuple #[.agg #[.slice none 0 0, .slice none 0 0], .int .i64 3], by simp [results, Tryz.results105, go_sem, s2, s3], hp⟩
     | true =>
      by_cases hm0 : m = 0
      ·have d2 : (((m : Int) + 1) == 1) = true := by rw [hm0]; rfl
       have HST := aa (kM (iy.out wo HM.out.up).2 (iy.out wo HM.out.up).1 (sZ.out none (by have h := CT.out; rw [hm0] at h; rw [pz, if_neg (by decide), if_pos rfl, if_pos (.inr h)])))
       clear hm0
       go_wp2_with fail
       obtain ⟨s2, s3, hp⟩ := HST.out
       exact ⟨rfl, .tuple #[.agg #[.slice none 0 0, .slice none 0 0], .int .i64 3], by simp [results, Tryz.results105, go_sem, s2, s3], hp⟩
      ·have d2 : (((m : Int) + 1) == 1) = false := beq_eq_false_iff_ne.2 (by omega)
       obtain ⟨q, os2, rfl⟩ : ∃ q os2, os = q :: os2 := by
        cases os with
        | nil => exact absurd (by have := wC.out; simpa using this) hm0
        | cons q os2 => exact ⟨q, os2, rfl⟩
       obtain ⟨Y, st2, rfl⟩ : ∃ Y st2, st = Y :: st2 := by
        cases st with
        | nil => exact absurd (by have := CT.out; simp at this; omega) hm0
        | cons Y st2 => exact ⟨Y, st2, rfl⟩
       have xU : Hid (pO s.data.toList = pz f' (s.data.toList.drop (k + 1)) ((Y ++ [.node ByteArray.empty Z]) :: st2) true) := sZ.out _ (by simp [pz, popZ])
       have Em : Hid (m = os2.length + 1) := by have := wC.out; simp at this; exact this
       have HN : Hid (BW (w.heap.size + 1) s (pO s.data.toList) w1 (w.heap.size + 1) (k + 1) true (.slice (some ⟨g, 0, none⟩) m cap) wo) := by
        rw [Em.out]
        exact HM.out.Yh (by rw [Em.out]) xU.out.symm nC.out
       have w1f : (m : Int) ≤ (cap : Int) := by omega
       clear hm0
       go_wp2_with fail
       go_roundw
       case rel => exact ⟨k + 1, true, aM.out, by go_num, rfl, HN.out⟩
       case measure => have := aM.out; simp [intOf]; omega
    ·have e2 := BX (z := 41) G6 rfl
     by_cases G7 : ch = 44
     ·have e3 := yS (z := 44) G7 rfl
      subst G7
      cases b with
      | false =>
       have HST := aa (kM (iy.out wo HM.out.up).2 (iy.out wo HM.out.up).1 (sZ.out none (by simp [pz])))
       go_wp2_with fail
       obtain ⟨s2, s3, hp⟩ := HST.out
       exact ⟨rfl, .tuple #[.agg #[.slice none 0 0, .slice none 0 0], .int .i64 3], by simp [results, Tryz.results105, go_sem, s2, s3], hp⟩
      | true =>
       by_cases hm0 : m = 0
       ·have d2 : (((m : Int) + 1) == 1) = true := by rw [hm0]; rfl
        have HST := aa (kM (iy.out wo HM.out.up).2 (iy.out wo HM.out.up).1 (sZ.out none (by have h := CT.out; rw [hm0] at h; rw [pz, if_neg (by decide), if_neg (by decide), if_pos rfl, if_pos (.inr h)])))
        clear hm0
        go_wp2_with fail
        obtain ⟨s2, s3, hp⟩ := HST.out
        exact ⟨rfl, .tuple #[.agg #[.slice none 0 0, .slice none 0 0], .int .i64 3], by simp [results, Tryz.results105, go_sem, s2, s3], hp⟩
       ·have d2 : (((m : Int) + 1) == 1) = false := beq_eq_false_iff_ne.2 (by omega)
        have xU : Hid (pO s.data.toList = pz f' (s.data.toList.drop (k + 1)) (Z :: st) false) := sZ.out _ (by have h := CT.out; rw [pz, if_neg (by decide), if_neg (by decide), if_pos rfl, if_neg (by rw [h]; simp; omega)])
        have HN : Hid (BW (w.heap.size + 1) s (pO s.data.toList) w1 (w.heap.size + 1) (k + 1) false (.slice (some ⟨g, 0, none⟩) (m + 1) cap) wo) := HM.out.comma xU.out.symm nC.out
        clear hm0
        go_wp2_with fail
        go_roundw
        case rel => exact ⟨k + 1, false, aM.out, by go_num, rfl, HN.out⟩
        case measure => have := aM.out; simp [intOf]; omega
     ·have e3 := BX (z := 44) G7 rfl
      by_cases G8 : ch = 59
      ·have e4 := yS (z := 59) G8 rfl
       subst G8
       cases b with
       | false =>
        have HST := aa (kM (iy.out wo HM.out.up).2 (iy.out wo HM.out.up).1 (sZ.out none (by simp [pz])))
        go_wp2_with fail
        obtain ⟨s2, s3, hp⟩ := HST.out
        exact ⟨rfl, .tuple #[.agg #[.slice none 0 0, .slice none 0 0], .int .i64 3], by simp [results, Tryz.results105, go_sem, s2, s3], hp⟩
       | true =>
        by_cases hm0 : m = 0
        ·have d2 : (((m : Int) + 1) != 1) = false := by rw [hm0]; rfl
         by_cases gT : k + 1 = s.size
         ·have d3 : ((k : Int) != (s.size : Int) - 1) = false := by simp; omega
          have hos : os = [] := List.eq_nil_of_length_eq_zero (by have := wC.out; omega)
          subst hos
          have hst0 : st = [] := List.eq_nil_of_length_eq_zero (by have := CT.out; simp at this; omega)
          subst hst0
          obtain ⟨r, Y, rfl⟩ : ∃ r Y, Z = r :: Y := by
           have := HM.out.Ye rfl
           cases Z with
           | nil => exact absurd rfl this
           | cons r Y => exact ⟨r, Y, rfl⟩
          have Kj : o = 0 := by have := HM.out.last; simpa using this
          subst Kj
          have Yn : s.data.toList.drop (k + 1) = [] := List.drop_eq_nil_of_le (by rw [Array.length_toList]; have : s.data.size = s.size := rfl; omega)
          have Bg : pO s.data.toList = some r := sZ.out (some r) (by rw [Yn]; simp [pz, firstZ])
          obtain ⟨c, ks, hkc, eH, htr⟩ := HM.out.zf.done
          have jv : s.data.toList.length = s.size := by rw [Array.length_toList]; rfl
          obtain ⟨Yo, Yp, rs3⟩ := Pg Bg
          rw [jv] at Yo Yp
          have HRS1 := aa Yo
          have HRS2 := aa Yp
          have HRS3 : Hid (∀ k, (gs (flat r).ns k).size ≤ 70000) := fun j => by have := rs3 j; rw [jv] at this; omega
          have wE := aa Bg
          have UA := HM.out.a0
          have hkv := HM.out.fr.pZ HM.out.zf.on
          have hown := HM.out.fr.own 0 HM.out.zf.on
          rw [hkc, List.map_cons] at hown
          rw [UA] at hkv
          obtain ⟨kq, kcap, Sy, Pn⟩ := hown.form (n := (ks.map (bC A)).length + 1) (by simp)
          obtain ⟨kg, rfl⟩ : ∃ kg, kq = some ⟨kg, 0, none⟩ := by
           rcases Pn with rfl | h2
           ·obtain ⟨_, h3 | ⟨g, _, _, h3, _⟩⟩ := hown
            ·have := h3.2; simp at this
            ·rw [Sy] at h3; cases h3
           ·exact h2
          rw [Sy] at hown hkv
          have Po := (mS hown (j := 0) (u := bC A c) (by simp)).1
          simp only [bC] at Po
          have Kc := aa (Ol HM.out.zf.wf (fun i hi => Nat.le_trans (oD (HM.out.zf.nd i hi) (fun x hx => (HM.out.zf.kid i hi x hx).2)) (by have := HM.out.nk; omega)) wo c eH HM.out.fr (by
           have h1 : (dQ F lS c none).length = (bE F lS c).length := by
            simp [bE]
           have h2 := oD (Ee HM.out.zf.wf HM.out.zf.one HM.out.zf.nd (fun i _ => GP i) eH) (fun x hx => mQ HM.out.zf.wf eH (Nat.le_refl _) ((cU HM.out.zf.wf eH (Nat.le_refl _)).1 hx))
           have := HM.out.nk
           omega))
          rw [htr] at Kc
          have Yq := aa (iy.out wo HM.out.up).1
          have gR := aa (iy.out wo HM.out.up).2
          have Yr : Hid (w.heap.size + 1 ≤ wo.heap.size) := Nat.le_trans (Nat.le_of_eq cO.out.symm) HM.out.up.size
          have i9 : (0 : Int) < ((ks.map (bC A)).length : Int) + 1 := by omega
          clear hm0 gT Yn Bg hkc htr jv Yo Yp rs3 hown Sy Pn eH
          generalize (ks.map (bC A)).length = kl at *
          go_wp2_with fail
          refine Kc.out.mono ?_
          rintro e w4 ⟨dL, _, rfl, P4, N4, rfl, nD, nE⟩
          obtain ⟨pp, pc, rfl, _, _⟩ := av.open nD
          obtain ⟨np, nc, rfl, _, _⟩ := av.open nE
          have nD : af _ w4 (.slice pp (flat r).ps.length pc) (flat r).ps := nD
          have nE : ay _ w4 (.slice np (flat r).ns.length nc) (flat r).ns := nE
          have dx := Up.alloc w4 (.cells #[.slice pp (flat r).ps.length pc, .slice np (flat r).ns.length nc] 39)
          have b0 := cB w4 (.slice pp (flat r).ps.length pc) (.slice np (flat r).ns.length nc) 39
          have b1 := cI w4 (.slice pp (flat r).ps.length pc) (.slice np (flat r).ns.length nc) 39
          have gm := aa b0
          have gz := aa b1
          have Yt := (Below.block (dL.trans dx) w.heap.size (by have := Yr.out; omega)).trans Yq.out
          have HRB5 := aa Yt
          have HUW5 := aa (gR.out.trans (dL.trans dx))
          have HT5 : Hid (aG (fun b => wo.heap.size ≤ b) (w4.alloc (.cells #[.slice pp (flat r).ps.length pc, .slice np (flat r).ns.length nc] 39)) (.agg #[.slice pp (flat r).ps.length pc, .slice np (flat r).ns.length nc]) (flat r)) := aG.keep ⟨_, _, rfl, nD, nE⟩ (dx.kept _)
          have e9 := aa (yH _ _ _ (flat r) HT5.out (by have := HRS1.out; omega) (by have := HRS2.out; omega) HRS3.out)
          have rT : Hid (wo.heap.size ≤ (w4.alloc (.cells #[.slice pp (flat r).ps.length pc, .slice np (flat r).ns.length nc] 39)).heap.size) := (dL.trans dx).size
          clear dL nD nE dx Kc Yt gR Yq q0 q1 q2 q3 Po hkv
          go_wp2_with fail
          generalize w4.alloc (.cells #[.slice pp (flat r).ps.length pc, .slice np (flat r).ns.length nc] 39) = w5 at *
          refine e9.out.mono ?_
          rintro e w6 ⟨rfl, gp⟩
          have gp : Up w5 w6 := gp
          have b0 := gp.cell gm.out
          have b1 := gp.cell gz.out
          have vw := (Below.block gp w.heap.size (by have := Yr.out; have := rT.out; omega)).trans HRB5.out
          have CV := aa vw
          have Yu := aa (HUW5.out.trans gp)
          have UB := aa (HT5.out.keep (gp.kept _))
          obtain ⟨q0, q1, q2, q3⟩ := boxed vw
          have HPE : Hid (paE s = aB (flat r)) := by unfold Hid paE; rw [wE.out]
          have Kn : Hid (Ek s = if aB (flat r) ≠ 0 then ⟨[], []⟩ else flat r) := by unfold Hid Ek; rw [wE.out]
          clear gp vw e9
          by_cases he : aB (flat r) = 0
          ·have Sz : Hid (Ek s = flat r) := by unfold Hid; rw [Kn.out, if_neg (by simp [he])]
           have HPE0 : Hid (paE s = 0) := by unfold Hid; rw [HPE.out, he]
           rw [he]
           have HST := aa (eM (w := w) (p := .slice pp (flat r).ps.length pc) (q := .slice np (flat r).ns.length nc) CV.out (Nat.le_refl _) Yu.out)
           clear he
           go_wp2_with fail
           obtain ⟨s1, s2, s3, s4⟩ := HST.out
           obtain ⟨P7, N7, e7, hP7, hN7⟩ := UB.out
           have e8 : P7 = .slice pp (flat r).ps.length pc ∧ N7 = .slice np (flat r).ns.length nc := by
            injection e7 with e7
            have := congrArg Array.toList e7
            simp at this
            exact ⟨this.1.symm, this.2.symm⟩
           obtain ⟨rfl, rfl⟩ := e8
           have hsw := Yr.out
           refine ⟨rfl, .tuple #[.agg #[.slice pp (flat r).ps.length pc, .slice np (flat r).ns.length nc], .int .i64 0], by simp [results, Tryz.results105, go_sem, s2, s3], ?_⟩
           refine ⟨s1, _, by rw [HPE0.out], ?_⟩
           rw [Sz.out]
           exact ⟨_, _, rfl, (af.keep hP7 fun b hb _ => s4 b (by omega)).sub fun b _ _ => trivial, (ay.keep hN7 fun b hb _ => s4 b (by omega)).sub fun b _ _ => trivial⟩
          ·have FW : (aB (flat r) != 0) = true := by simpa using he
           have Sz : Hid (Ek s = ⟨[], []⟩) := by unfold Hid; rw [Kn.out, if_pos he]
           have HST := aa (eM (w := w) (p := .slice none 0 0) (q := .slice none 0 0) CV.out (Nat.le_refl _) Yu.out)
           clear he
           generalize aB (flat r) = te at *
           go_wp2_with fail
           obtain ⟨s1, s2, s3, s4⟩ := HST.out
           refine ⟨rfl, .tuple #[.agg #[.slice none 0 0, .slice none 0 0], .int .i64 te], by simp [results, Tryz.results105, go_sem, s2, s3], ?_⟩
           refine ⟨s1, _, by rw [HPE.out], ?_⟩
           rw [Sz.out]; exact vh _
         ·have d3 : ((k : Int) != (s.size : Int) - 1) = true := by simp; omega
          have HST := aa (kM (iy.out wo HM.out.up).2 (iy.out wo HM.out.up).1 (sZ.out none (by
           have hne : s.data.toList.drop (k + 1) ≠ [] := fun e => by
            have := List.drop_eq_nil_iff.1 e
            rw [Array.length_toList] at this
            have h2 : s.data.size = s.size := rfl
            omega
           rw [pz, if_neg (by decide), if_neg (by decide), if_neg (by decide), if_pos rfl, if_pos (.inr (.inr hne))])))
          clear hm0 gT
          go_wp2_with fail
          obtain ⟨s2, s3, hp⟩ := HST.out
          exact ⟨rfl, .tuple #[.agg #[.slice none 0 0, .slice none 0 0], .int .i64 3], by simp [results, Tryz.results105, go_sem, s2, s3], hp⟩
        ·have d2 : (((m : Int) + 1) != 1) = true := by simp; omega
         have HST := aa (kM (iy.out wo HM.out.up).2 (iy.out wo HM.out.up).1 (sZ.out none (by have h := CT.out; rw [pz, if_neg (by decide), if_neg (by decide), if_neg (by decide), if_pos rfl, if_pos (.inr (.inl (by rw [h]; omega)))])))
         clear hm0
         go_wp2_with fail
         obtain ⟨s2, s3, hp⟩ := HST.out
         exact ⟨rfl, .tuple #[.agg #[.slice none 0 0, .slice none 0 0], .int .i64 3], by simp [results, Tryz.results105, go_sem, s2, s3], hp⟩
      ·have e4 := BX (z := 59) G8 rfl
       cases b with
       | true =>
        have HST := aa (kM (iy.out wo HM.out.up).2 (iy.out wo HM.out.up).1 (sZ.out none (by rw [pz, if_neg G3, if_neg G6, if_neg G7, if_neg G8, if_pos rfl])))
        go_wp2_with fail
        obtain ⟨s2, s3, hp⟩ := HST.out
        exact ⟨rfl, .tuple #[.agg #[.slice none 0 0, .slice none 0 0], .int .i64 3], by simp [results, Tryz.results105, go_sem, s2, s3], hp⟩
       | false =>
        have gD : Hid (ch ∉ dW) := Ky G3 G6 G7 G8
        have Yv : Hid (∀ x, (if Lib.indexAny (s.data.toList.drop k) dW < 0 then none else pz f' ((s.data.toList.drop k).drop (Lib.indexAny (s.data.toList.drop k) dW).toNat) ((Z ++ [.node ⟨((s.data.toList.drop k).take (Lib.indexAny (s.data.toList.drop k) dW).toNat).toArray⟩ []]) :: st) true) = x → pO s.data.toList = x) := fun x hx => sZ.out x (by
         rw [pz, if_neg G3, if_neg G6, if_neg G7, if_neg G8, if_neg (by simp), ← HDR.out]; exact hx)
        have HIK := aa (HIA.out k wo aM.out)
        clear G3 G6 G7 G8
        have i3 : (k : Int) ≤ (s.size : Int) := by omega
        go_wp2_with fail
        refine HIK.out.mono ?_
        rintro e w3 ⟨rfl, bR⟩
        have UC := aa (HM.out.Yi bR)
        obtain ⟨q0, q1, q2, q3⟩ := boxed (iy.out w3 UC.out.up).1
        clear bR HIK
        by_cases G2 : Lib.indexAny (s.data.toList.drop k) dW < 0
        ·have d5 : decide (Lib.indexAny (s.data.toList.drop k) dW < 0) = true := decide_eq_true G2
         have HST := aa (kM (iy.out w3 UC.out.up).2 (iy.out w3 UC.out.up).1 (Yv.out none (by rw [if_pos G2])))
         clear G2
         generalize Lib.indexAny (s.data.toList.drop k) dW = ia at *
         go_wp2_with fail
         obtain ⟨s2, s3, hp⟩ := HST.out
         exact ⟨rfl, .tuple #[.agg #[.slice none 0 0, .slice none 0 0], .int .i64 3], by simp [results, Tryz.results105, go_sem, s2, s3], hp⟩
        ·obtain ⟨x, hx⟩ : ∃ x : Nat, Lib.indexAny (s.data.toList.drop k) dW = (x : Int) := ⟨(Lib.indexAny (s.data.toList.drop k) dW).toNat, by omega⟩
         have hx1 : 1 ≤ x := by
          have h1 := Pb (s := s.data.toList.drop (k + 1)) gD.out
          rw [← HDR.out, hx] at h1
          omega
         have hx2 : k + x < s.size := by
          have h1 := Uw _ x hx
          rw [List.length_drop, Array.length_toList] at h1
          have h2 : s.data.size = s.size := rfl
          omega
         have HRUN : Hid (pz f' (s.data.toList.drop (k + x)) ((Z ++ [.node (s.extract k (k + x)) []]) :: st) true = pO s.data.toList) := by
          have h1 := Yv.out _ rfl
          rw [hx, if_neg (by omega), Int.toNat_natCast, List.drop_drop, Mp s k x] at h1
          exact h1.symm
         rw [hx]
         have d5 : decide ((x : Int) < 0) = false := decide_eq_false (by omega)
         have mU := aa hx2
         have jN := aa hx1
         have j1 : (0 : Int) ≤ (x : Int) := by omega
         have j2 : (k : Int) ≤ (k : Int) + (x : Int) := by omega
         have j3 : (k : Int) + (x : Int) ≤ (s.size : Int) := by omega
         have j4 : IntKind.i64.wrap ((k : Int) + (x : Int)) = (k : Int) + (x : Int) := by rw [IntKind.wrap_i64]; omega
         have j5 : ((k : Int) + (x : Int)).toNat = k + x := by omega
         have j6 : (0 : Int) ≤ (k : Int) + (x : Int) := by omega
         have wF := aa UC.out.drew
         have hkc := wF.out.fr.pZ wF.out.zf.on
         have hkf := wF.out.fr.thaw wF.out.zf.on 1
         clear G2 hx hx1 Yv
         go_wp2_with fail
         refine dK (by kernel_rfl) 18 (fun w' => w'.cell? ⟨A o, 1, none⟩ = some (kv o)) hkc (fun hS => ?_)
         simp only [List.size_toArray, List.length_cons, List.length_nil, Nat.reduceAdd, Array.replicate_succ, Array.replicate_zero, List.push_toArray, List.nil_append, List.cons_append]
         refine ag.take (i := 0) (v := ?yL) rfl (by kernel_rfl) (fun _ _ _ h => h) (by rfl) (fun w hSw => ?kY) hS ?yM
         case kY =>
          (try dsimp only at hSw)
          go_simp
          try with_reducible rfl
         try simp only [Act.put, aj, aq, au]
         refine ag.take (i := 1) (v := ?yN) rfl (by kernel_rfl) (fun _ _ _ h => h) (by rfl) (fun w hSw => ?kZ) hS ?yO
         case kZ =>
          (try dsimp only at hSw)
          go_simp
          try with_reducible rfl
         try simp only [Act.put, aj, aq, au]
         refine ag.take (i := 2) (v := ?Bv) rfl (by kernel_rfl) (fun _ _ _ h => h) (by rfl) (fun w hSw => ?nI) hS ?Bw
         case nI =>
          (try dsimp only at hSw)
          go_simp
          try with_reducible rfl
         try simp only [Act.put, aj, aq, au]
         refine ag.take (i := 3) (v := ?Bz) rfl (by kernel_rfl) (fun _ _ _ h => h) (by rfl) (fun w hSw => ?nJ) hS ?BA
         case nJ =>
          (try dsimp only at hSw)
          go_simp
          try with_reducible rfl
         try simp only [Act.put, aj, aq, au]
         refine ag.take (i := 4) (v := ?BB) rfl (by kernel_rfl) (fun _ _ _ h => h) (by rfl) (fun w hSw => ?nK) hS ?BC
         case nK =>
          (try dsimp only at hSw)
          go_simp
          try with_reducible rfl
         try simp only [Act.put, aj, aq, au]
         refine ag.take (i := 5) (v := ?BD) rfl (by kernel_rfl) (fun _ _ _ h => h) (by rfl) (fun w hSw => ?nM) hS ?BF
         case nM =>
          (try dsimp only at hSw)
          go_simp
          try with_reducible rfl
         try simp only [Act.put, aj, aq, au]
         refine ag.take (i := 6) (v := ?Fb) rfl (by kernel_rfl) (fun _ _ _ h => h) (by rfl) (fun w hSw => ?qx) hS ?Fc
         case qx =>
          (try dsimp only at hSw)
          go_simp
          try with_reducible rfl
         try simp only [Act.put, aj, aq, au]
         refine ag.take (i := 7) (v := ?gv7k1) rfl (by kernel_rfl) (fun _ _ _ h => h) (by rfl) (fun w hSw => ?Mf) hS ?gr7k1
         case Mf =>
          (try dsimp only at hSw)
          go_simp
          try with_reducible rfl
         try simp only [Act.put, aj, aq, au]
         refine ag.take (i := 8) (v := ?gv8k1) rfl (by kernel_rfl) (fun _ _ _ h => h) (by rfl) (fun w hSw => ?Mg) hS ?gr8k1
         case Mg =>
          (try dsimp only at hSw)
          go_simp
          try with_reducible rfl
         try simp only [Act.put, aj, aq, au]
         refine ag.take (i := 9) (v := ?gv9k1) rfl (by kernel_rfl) (fun _ _ _ h => h) (by rfl) (fun w hSw => ?gy9k1) hS ?gr9k1
         case gy9k1 =>
          (try dsimp only at hSw)
          go_simp
          try with_reducible rfl
         try simp only [Act.put, aj, aq, au]
         refine ag.take (i := 10) (v := ?gv10k1) rfl (by kernel_rfl) (fun _ _ _ h => h) (by rfl) (fun w hSw => ?Yw) hS ?gr10k1
         case Yw =>
          (try dsimp only at hSw)
          go_simp
          try with_reducible rfl
         try simp only [Act.put, aj, aq, au]
         refine ag.take (i := 11) (v := ?gv11k1) rfl (by kernel_rfl) (fun _ _ _ h => h) (by rfl) (fun w hSw => ?Yx) hS ?gr11k1
         case Yx =>
          (try dsimp only at hSw)
          go_simp
          try with_reducible rfl
         try simp only [Act.put, aj, aq, au]
         refine ag.step (i := 12) rfl (by kernel_rfl) (fun K' hK => ?_)
         go_simp
         refine hK.out _ _ (fun _ => (Up.alloc _ _).cell hkc) (fun hS => ?_)
         try simp only [aj, aq, au]
         have HOW : Hid (ah (w.heap.size + 1) 137 ((w3.drew.alloc (.cells #[.string (s.extract k (k + x)), .slice none 0 0, .int .i64 0] 140)).alloc (.cells #[.pointer (some ⟨w3.drew.heap.size, 0, none⟩)] 137)) (kv o) ((F.kids o).map (bC A))) := ((wF.out.fr.own o wF.out.zf.on).alloc _).alloc _
         have Kl : (w3.drew.alloc (.cells #[.string (s.extract k (k + x)), .slice none 0 0, .int .i64 0] 140)).heap.size = w3.drew.heap.size + 1 := World.size_alloc _ _
         have UD := aa Kl
         have jd : Hid (((w3.drew.alloc (.cells #[.string (s.extract k (k + x)), .slice none 0 0, .int .i64 0] 140)).alloc (.cells #[.pointer (some ⟨w3.drew.heap.size, 0, none⟩)] 137)).cell? ⟨w3.drew.heap.size + 1, 0, none⟩ = some (.pointer (some ⟨w3.drew.heap.size, 0, none⟩))) := by
          have h := bf (w3.drew.alloc (.cells #[.string (s.extract k (k + x)), .slice none 0 0, .int .i64 0] 140)) #[.pointer (some ⟨w3.drew.heap.size, 0, none⟩)] 137 0
          rw [Kl] at h; exact h
         have iL : Hid (w.heap.size + 1 ≤ w3.drew.heap.size) := Nat.le_trans (Nat.le_of_eq cO.out.symm) wF.out.up.size
         have zl : Hid (w.heap.size + 1 ≤ ((w3.drew.alloc (.cells #[.string (s.extract k (k + x)), .slice none 0 0, .int .i64 0] 140)).alloc (.cells #[.pointer (some ⟨w3.drew.heap.size, 0, none⟩)] 137)).heap.size) := by have := iL.out; rw [Hid, World.size_alloc, World.size_alloc]; omega
         have G4 := aa wF.out.Yg
         have HFLM : Hid (((F.kids o).map (bC A)).length ≤ 1000000) := by have := G4.out; unfold Hid; rw [this.1]; exact this.2
         clear Kl
         refine ag.step (i := 13) rfl (by kernel_rfl) (fun K' hK => ?_)
         go_simp
         refine hK.out _ _ (fun _ => ((Up.alloc _ _).trans (Up.alloc _ _)).cell hkc) (fun hS => ?_)
         try simp only [aj, aq, au]
         try rw [UD.out]
         refine ag.step (i := 14) rfl (by kernel_rfl) (fun K' hK => ?_)
         refine cT (by rfl) _ _ _ (by rfl) (w.heap.size + 1) 137 _ 8 Tryz.underlying138 Tryz.rC (by rfl) (by decide) (by rfl) HOW.out (.pointer (some ⟨w3.drew.heap.size, 0, none⟩)) (w3.drew.heap.size + 1) (by rfl) jd.out (by rfl) HFLM.out zl.out ?_
         intro g8 iZ w8 mg oI G5 _
         have CW := mj oI
         have CU : (w3.drew.alloc (.cells #[.string (s.extract k (k + x)), .slice none 0 0, .int .i64 0] 140)).grownBy w8 (kv o).ownBlock := ⟨CW.os, CW.tape, CW.output, CW.size, CW.block⟩
         obtain ⟨KH, Pm⟩ := wF.out.store CU
         obtain ⟨A8, kv8, Uz, lT⟩ := wF.out.node (s.extract k (k + x)) iL.out mg CU (G5.imp id fun e => by rw [e]; show _ ≤ (World.alloc (World.alloc w3 _) _).heap.size; rw [World.size_alloc, World.size_alloc]; exact Nat.le_succ (w3.heap.size + 1))
         have HP8 := aa (wF.out.leaf (by have := wF.out.nk; omega) (k' := k + x) (f' := f') (by have := jN.out; omega) lT HRUN.out (by have := nC.out; have := jN.out; omega))
         clear mg oI G5 CW CU lT Uz
         refine hK.out _ _ (fun _ => KH) (fun hS => ?_)
         try simp only [Act.put, aj, aq, au]
         replace hS := hS ⟨17, by decide, rfl⟩
         refine ag.take (i := 15) (v := ?gv15k2) rfl (by kernel_rfl) (fun _ _ _ h => h) (by rfl) (fun w hSw => ?Yy) hS ?gr15k2
         case Yy =>
          (try dsimp only at hSw)
          go_simp
          try with_reducible rfl
         try simp only [Act.put, aj, aq, au]
         refine ag.take (i := 16) (v := ?gv16k2) rfl (by kernel_rfl) (fun _ _ _ h => h) (by rfl) (fun w hSw => ?Yz) hS ?gr16k2
         case Yz =>
          (try dsimp only at hSw)
          go_simp
          try with_reducible rfl
         try simp only [Act.put, aj, aq, au]
         refine ag.step (i := 17) rfl (by kernel_rfl) (fun K' hK => ?_)
         go_simp
         refine hK.out _ _ (aP (by kernel_rfl)) (fun hS => ?_)
         refine ag.done (by kernel_rfl) ?_
         have j7 : (x : Int) - 1 < (s.size : Int) := by omega
         go_wp2_with fail
         go_roundw
         case rel => exact ⟨k + x, true, by have := mU.out; omega, by have := jN.out; have := mU.out; go_num, rfl, by have h := HP8.out; rw [G4.out.1] at h; exact h⟩
         case measure => have := jN.out; have := mU.out; simp [intOf]; omega
  ·obtain rfl : k = s.size := by omega
   obtain ⟨n, A, kv, F, o, os, Z, st, f, hM⟩ := hO.out
   have hf := hM.fuel
   have hrun := hM.run
   have G9 : s.data.toList.drop s.size = [] := List.drop_eq_nil_of_le (by rw [Array.length_toList]; exact Nat.le_refl _)
   obtain ⟨f', rfl⟩ : ∃ f', f = f' + 1 := ⟨f - 1, by omega⟩
   rw [G9, pz] at hrun
   obtain ⟨q0, q1, q2, q3⟩ := boxed (iy.out wo hM.up).1
   have HST := aa (kM (iy.out wo hM.up).2 (iy.out wo hM.up).1 hrun.symm)
   clear hM hO hf hrun G9 hlt hk
   go_wp2_with fail
   obtain ⟨s2, s3, hp⟩ := HST.out
   exact ⟨rfl, .tuple #[.agg #[.slice none 0 0, .slice none 0 0], .int .i64 3], by simp [results, Tryz.results105, go_sem, s2, s3], hp⟩
end Go.Proofs.YtpnmblnahjjmhaaGreat
