/- The contract of phylotree.Parse. -/
import Derived.Test.YtpjijbophjdgaaaGreatQ48
import Derived.Test.YtpjijbophjdgaaaGreatQ34
import Derived.Test.YtpjijbophjdgaaaGreatQ41
import Derived.Test.YtpjijbophjdgaaaGreatQ40
import Derived.Test.YtpjijbophjdgaaaGreatQ7
namespace Go.Proofs.YtpjijbophjdgaaaGreat
open Go.RowKit Go.Deep
def PaPost (w : World) (s : ByteArray) (e : Ending) (w' : World) : Prop :=
  Up w w' ∧ ∃ v, e = .returned (.tuple #[v, .int .i64 (paE s)]) ∧ TreeAt Any w' v (paT s)
def IaOk (s : ByteArray) : Prop := ∀ (i : Nat) (W : World), i < s.size → Calls Tryz.prog 114 #[.string (s.extract i s.size), .string ⟨#[40, 41, 44, 59]⟩] W fun e W' => e = .returned (.int .i64 (Lib.indexAny (s.data.toList.drop i) sp4)) ∧ Up W W'
theorem pa_err {w W : World} {s : ByteArray} (hu : Up w W) (hb : W.heap[w.heap.size]? = some (Obj.cells #[.slice none 0 0, .slice none 0 0] 45 (0, 0))) (h : paR s.data.toList = none) :
    ((W.setCell ⟨w.heap.size, 0, none⟩ (.slice none 0 0)).setCell ⟨w.heap.size, 1, none⟩ (.slice none 0 0)).cell? ⟨w.heap.size, 0, none⟩ = some (.slice none 0 0) ∧ ((W.setCell ⟨w.heap.size, 0, none⟩ (.slice none 0 0)).setCell ⟨w.heap.size, 1, none⟩ (.slice none 0 0)).cell? ⟨w.heap.size, 1, none⟩ = some (.slice none 0 0) ∧
      PaPost w s (.returned (.tuple #[.agg #[.slice none 0 0, .slice none 0 0], .int .i64 3])) ((W.setCell ⟨w.heap.size, 0, none⟩ (.slice none 0 0)).setCell ⟨w.heap.size, 1, none⟩ (.slice none 0 0)) := by
  obtain ⟨s1, s2, s3, s4⟩ := store_two (p := .slice none 0 0) (q := .slice none 0 0) hb (Nat.le_refl _) hu
  refine ⟨s2, s3, s1, .agg #[.slice none 0 0, .slice none 0 0], by unfold paE; rw [h], ?_⟩
  unfold paT; rw [h]; exact nil_tree _
theorem chr_no {c d : UInt8} {z : Int} (h : c ≠ d) (hz : z = d.toNat) : ((c.toNat : Int) == z) = false := by
  subst hz
  rw [beq_eq_false_iff_ne]
  intro e
  exact h (UInt8.toNat_inj.1 (by omega))
theorem chr_yes {c d : UInt8} {z : Int} (h : c = d) (hz : z = d.toNat) : ((c.toNat : Int) == z) = true := by
  subst hz; subst h; exact beq_self_eq_true _
set_option maxRecDepth 100000 in
set_option maxHeartbeats 8000000 in
theorem parse_t (w : World) (s : ByteArray) (hs : s.size ≤ 1000) (hia : IaOk s) :
    Calls Tryz.prog 46 #[.string s] w (PaPost w s) := by
  have hrb := box_at (w := w) (P := .slice none 0 0) (N := .slice none 0 0) (T := 45)
  have hu := Up.alloc w (.cells #[.slice none 0 0, .slice none 0 0] 45)
  have hsz : (w.alloc (.cells #[.slice none 0 0, .slice none 0 0] 45)).heap.size = w.heap.size + 1 := World.size_alloc _ _
  have HU := Lib.hid hu
  have HSZ := Lib.hid hsz
  have HRB := Lib.hid hrb
  have HIA := Lib.hid hia
  have d1 : decide ((65536 : Int) < (s.size : Int)) = false := decide_eq_false (by omega)
  have d1n : ¬ 65536 < s.size := by omega
  clear hrb hu hsz hia
  go_enter Tryz.func46, Tryz.ntmps46
  go_wp2_with fail
  have HST := Lib.hid (pa_start (w.alloc (.cells #[.slice none 0 0, .slice none 0 0] 45)) s)
  rw [HSZ.out] at HST
  generalize w.alloc (.cells #[.slice none 0 0, .slice none 0 0] 45) = w1 at *
  have HSB : Hid (∀ wr, Below (w.heap.size + 1) w1 wr → wr.heap[w.heap.size]? = some (Obj.cells #[.slice none 0 0, .slice none 0 0] 45 (0, 0)) ∧ Up w wr) := fun wr h => ⟨(h.block _ (Nat.lt_succ_self _)).trans HRB.out, HU.out.trans (h.mono (by rw [HSZ.out]; exact Nat.le_refl _))⟩
  go_loopw [5, 6, 7, 8, 9, 10, 11, 12, 66, 86, 101, 111] (fun ov dn i _ _ _ _ _ _ _ _ _ wr => ∃ (k : Nat) (b : Bool), k ≤ s.size ∧ i = .int .i64 k ∧ dn = .bool b ∧ Hid (PaS (w.heap.size + 1) s (paR s.data.toList) w1 (w.heap.size + 1) k b ov wr)) (fun _ _ i _ _ _ _ _ _ _ _ _ _ => s.size - (intOf i).toNat)
  case atStart => exact ⟨0, false, Nat.zero_le _, rfl, rfl, HST.out⟩
  case round =>
    obtain ⟨k, b, hk, rfl, rfl, hO⟩ := hrel
    obtain ⟨wo, rfl⟩ : ∃ wo : World, wo = wr := ⟨_, rfl⟩
    by_cases hlt : k < s.size
    · obtain ⟨n, A, kv, F, o, os, Z, st, f, hM⟩ := hO.out
      obtain ⟨g, cap, hov, hcapn, hrow⟩ := hM.row
      
      obtain ⟨f', ch, hf1, hf2, hdr, hch⟩ := hM.step hlt
      have HF := Lib.hid hf1
      have HF2 := Lib.hid hf2
      have hdr2 := hdr
      have i1 : (0 : Int) ≤ (k : Int) := by omega
      have i2 : (k : Int) < (s.size : Int) := by omega
      have hol := hM.ol
      have HLT := Lib.hid hlt
      obtain ⟨m, hm⟩ : ∃ m, m = os.length := ⟨_, rfl⟩
      have HMM := Lib.hid hm
      rw [← hm] at hov hcapn hrow hol
      subst hov
      have w1a : wrap64 (m : Int) = (m : Int) := by unfold wrap64; omega
      have w1b : (0 : Int) ≤ (m : Int) := by omega
      have w1c : (m : Int) < (m : Int) + 1 := by omega
      have w1d : m < m + 1 := by omega
      have w1e : m + 1 ≤ 1000000 := by omega
      have HM := Lib.hid hM
      clear hm hol
      clear hO hM hf1 hf2 hdr
      have hfr := HM.out.fr.thaw HM.out.zf.on 1
      obtain ⟨q0, q1, q2, q3⟩ := boxed (HSB.out wo HM.out.up).1
      have HPN : Hid (∀ x, pz (f' + 1) (ch :: s.data.toList.drop (k + 1)) (Z :: st) b = x → paR s.data.toList = x) := fun x hx => by
        have hr := HM.out.run; rw [HF.out, hdr2] at hr; rw [← hr]; exact hx
      have HDR := Lib.hid hdr2
      have HST1 : Hid ((Z :: st).length = m + 1) := by have h := HM.out.zf.len; rw [Hid, HMM.out]; simp at h ⊢; omega
      clear hdr2
      by_cases c40 : ch = 40
      · have e1 := chr_yes (z := 40) c40 rfl
        subst c40
        cases b with
        | true =>
          have HST := Lib.hid (pa_err (HSB.out wo HM.out.up).2 (HSB.out wo HM.out.up).1 (HPN.out none (by simp [pz])))
          go_wp2_with fail
          obtain ⟨s2, s3, hp⟩ := HST.out
          exact ⟨rfl, .tuple #[.agg #[.slice none 0 0, .slice none 0 0], .int .i64 3], by simp [results, Tryz.results46, go_sem, s2, s3], hp⟩
        | false =>
          have hkc := (Up.alloc wo (.cells #[.string ⟨#[]⟩, .slice none 0 0, .int .i64 0] 115)).cell (HM.out.fr.kidv HM.out.zf.on)
          have hs1 : (wo.alloc (.cells #[.string ⟨#[]⟩, .slice none 0 0, .int .i64 0] 115)).heap.size = wo.heap.size + 1 := World.size_alloc _ _
          have HS1 := Lib.hid hs1
          have HOW : Hid (Owns (w.heap.size + 1) 113 (wo.alloc (.cells #[.string ⟨#[]⟩, .slice none 0 0, .int .i64 0] 115)) (kv o) ((F.kids o).map (nptr A))) := (HM.out.fr.own o HM.out.zf.on).alloc _
          have HBS : Hid (w.heap.size + 1 ≤ wo.heap.size) := Nat.le_trans (Nat.le_of_eq HSZ.out.symm) HM.out.up.size
          have HBS1 : Hid (w.heap.size + 1 ≤ (wo.alloc (.cells #[.string ⟨#[]⟩, .slice none 0 0, .int .i64 0] 115)).heap.size) := by rw [Hid, HS1.out]; exact Nat.le_succ_of_le HBS.out
          have HFL := Lib.hid HM.out.klen
          have HNX : Hid (∀ g2 m2 cap2 w', Owns (w.heap.size + 1) 113 w' (.slice (some ⟨g2, 0, none⟩) m2 cap2) ((F.kids o).map (nptr A) ++ [.pointer (some ⟨wo.heap.size, 0, none⟩)]) → (wo.alloc (.cells #[.string ⟨#[]⟩, .slice none 0 0, .int .i64 0] 115)).grownBy w' (kv o).ownBlock → ((kv o).ownBlock = some g2 ∨ (wo.alloc (.cells #[.string ⟨#[]⟩, .slice none 0 0, .int .i64 0] 115)).heap.size ≤ g2) →
              (w'.cell? ⟨A o, 1, none⟩ = some (kv o) ∧ w'.frozen? ⟨A o, 1, none⟩ = false) ∧ ∃ A' kv', A' n = wo.heap.size ∧ PaN (w.heap.size + 1) w1 (w.heap.size + 1) (.slice (some ⟨g, 0, none⟩) (m + 1) cap) n A' kv' (addF F n o ByteArray.empty) (o :: os) (w'.setCell ⟨A o, 1, none⟩ (.slice (some ⟨g2, 0, none⟩) m2 cap2))) := fun g2 m2 cap2 w' h1 h2 h3 =>
            ⟨HM.out.store h2, HM.out.node ByteArray.empty HBS.out h1 h2 (by rw [HS1.out] at h3; exact h3)⟩
          have HNB : Hid (n < 2000) := by have := HM.out.nk; unfold Hid; omega
          clear hs1
          generalize kv o = kvo at *
          have HR1 : Hid (paR s.data.toList = pz f' (s.data.toList.drop (k + 1)) ([] :: Z :: st) false) := HPN.out _ (by simp [pz])
          go_wp2_with (first | (at_builtin; refine wpList_appGM (wo.alloc (.cells #[.string ⟨#[]⟩, .slice none 0 0, .int .i64 0] 115)) rfl _ _ 111 rfl (w.heap.size + 1) 113 (.pointer none) 8 Tryz.underlying111 Tryz.infoNP rfl (by decide) HOW.out rfl (.pointer (some ⟨wo.heap.size, 0, none⟩)) (wo.heap.size + 1) HS1.out rfl rfl _ HFL.out.1 HFL.out.2 HBS1.out ?_; intro g8 cap8 w8 hown8 hgr8 hor8; obtain ⟨⟨hc8, hf8⟩, A8, kv8, hA8, hN8⟩ := HNX.out _ _ _ w8 hown8 hgr8 hor8; have HN8 := Lib.hid hN8; have HA8 := Lib.hid hA8; have HBS8 : Hid (w.heap.size + 1 ≤ (w8.setCell ⟨A o, 1, none⟩ (.slice (some ⟨g8, 0, none⟩) ((F.kids o).length + 1) cap8)).heap.size) := (by rw [Hid, World.size_setCell]; exact Nat.le_trans HBS1.out hgr8.size); clear hown8 hgr8 hor8 hA8 hN8) | (at_builtin; refine wpList_appGM (w8.setCell ⟨A o, 1, none⟩ (.slice (some ⟨g8, 0, none⟩) ((F.kids o).length + 1) cap8)) rfl _ _ 111 rfl (w.heap.size + 1) 113 (.pointer none) 8 Tryz.underlying111 Tryz.infoNP rfl (by decide) HN8.out.own rfl (.pointer (some ⟨wo.heap.size, 0, none⟩)) w8.heap.size (World.size_setCell _ _ _) rfl rfl (m + 1) (by rw [HMM.out]; simp) (by omega) HBS8.out ?_; intro g9 cap9 w9 hown9 hgr9 hor9; have HP9 : Hid (PaS (w.heap.size + 1) s (paR s.data.toList) w1 (w.heap.size + 1) (k + 1) false (.slice (some ⟨g9, 0, none⟩) (m + 1 + 1) cap9) w9) := HM.out.opened HNB.out HN8.out HBS8.out (by unfold nptr at hown9 ⊢; rw [HA8.out]; exact hown9) hgr9 hor9 HR1.out.symm HF2.out; clear hown9 hgr9 hor9))
          go_roundw
          case rel => exact ⟨k + 1, false, HLT.out, by go_num, rfl, HP9.out⟩
          case measure => have := HLT.out; simp [intOf]; omega
      · have e1 := chr_no (z := 40) c40 rfl
        by_cases c41 : ch = 41
        · have e2 := chr_yes (z := 41) c41 rfl
          subst c41
          cases b with
          | false =>
            have HST := Lib.hid (pa_err (HSB.out wo HM.out.up).2 (HSB.out wo HM.out.up).1 (HPN.out none (by simp [pz])))
            go_wp2_with fail
            obtain ⟨s2, s3, hp⟩ := HST.out
            exact ⟨rfl, .tuple #[.agg #[.slice none 0 0, .slice none 0 0], .int .i64 3], by simp [results, Tryz.results46, go_sem, s2, s3], hp⟩
          | true =>
            by_cases hm0 : m = 0
            · have d2 : (((m : Int) + 1) == 1) = true := by rw [hm0]; rfl
              have HST := Lib.hid (pa_err (HSB.out wo HM.out.up).2 (HSB.out wo HM.out.up).1 (HPN.out none (by have h := HST1.out; rw [hm0] at h; rw [pz, if_neg (by decide), if_pos rfl, if_pos (.inr h)])))
              clear hm0
              go_wp2_with fail
              obtain ⟨s2, s3, hp⟩ := HST.out
              exact ⟨rfl, .tuple #[.agg #[.slice none 0 0, .slice none 0 0], .int .i64 3], by simp [results, Tryz.results46, go_sem, s2, s3], hp⟩
            · have d2 : (((m : Int) + 1) == 1) = false := beq_eq_false_iff_ne.2 (by omega)
              obtain ⟨q, os2, rfl⟩ : ∃ q os2, os = q :: os2 := by
                cases os with
                | nil => exact absurd (by have := HMM.out; simpa using this) hm0
                | cons q os2 => exact ⟨q, os2, rfl⟩
              obtain ⟨Y, st2, rfl⟩ : ∃ Y st2, st = Y :: st2 := by
                cases st with
                | nil => exact absurd (by have := HST1.out; simp at this; omega) hm0
                | cons Y st2 => exact ⟨Y, st2, rfl⟩
              have HR1 : Hid (paR s.data.toList = pz f' (s.data.toList.drop (k + 1)) ((Y ++ [.node ByteArray.empty Z]) :: st2) true) := HPN.out _ (by simp [pz, popZ])
              have HOL : Hid (m = os2.length + 1) := by have := HMM.out; simp at this; exact this
              have HN : Hid (PaS (w.heap.size + 1) s (paR s.data.toList) w1 (w.heap.size + 1) (k + 1) true (.slice (some ⟨g, 0, none⟩) m cap) wo) := by
                rw [HOL.out]
                exact HM.out.popped (by rw [HOL.out]) HR1.out.symm HF2.out
              have w1f : (m : Int) ≤ (cap : Int) := by omega
              clear hm0
              go_wp2_with fail
              go_roundw
              case rel => exact ⟨k + 1, true, HLT.out, by go_num, rfl, HN.out⟩
              case measure => have := HLT.out; simp [intOf]; omega
        · have e2 := chr_no (z := 41) c41 rfl
          by_cases c44 : ch = 44
          · have e3 := chr_yes (z := 44) c44 rfl
            subst c44
            cases b with
            | false =>
              have HST := Lib.hid (pa_err (HSB.out wo HM.out.up).2 (HSB.out wo HM.out.up).1 (HPN.out none (by simp [pz])))
              go_wp2_with fail
              obtain ⟨s2, s3, hp⟩ := HST.out
              exact ⟨rfl, .tuple #[.agg #[.slice none 0 0, .slice none 0 0], .int .i64 3], by simp [results, Tryz.results46, go_sem, s2, s3], hp⟩
            | true =>
              by_cases hm0 : m = 0
              · have d2 : (((m : Int) + 1) == 1) = true := by rw [hm0]; rfl
                have HST := Lib.hid (pa_err (HSB.out wo HM.out.up).2 (HSB.out wo HM.out.up).1 (HPN.out none (by have h := HST1.out; rw [hm0] at h; rw [pz, if_neg (by decide), if_neg (by decide), if_pos rfl, if_pos (.inr h)])))
                clear hm0
                go_wp2_with fail
                obtain ⟨s2, s3, hp⟩ := HST.out
                exact ⟨rfl, .tuple #[.agg #[.slice none 0 0, .slice none 0 0], .int .i64 3], by simp [results, Tryz.results46, go_sem, s2, s3], hp⟩
              · have d2 : (((m : Int) + 1) == 1) = false := beq_eq_false_iff_ne.2 (by omega)
                have HR1 : Hid (paR s.data.toList = pz f' (s.data.toList.drop (k + 1)) (Z :: st) false) := HPN.out _ (by have h := HST1.out; rw [pz, if_neg (by decide), if_neg (by decide), if_pos rfl, if_neg (by rw [h]; simp; omega)])
                have HN : Hid (PaS (w.heap.size + 1) s (paR s.data.toList) w1 (w.heap.size + 1) (k + 1) false (.slice (some ⟨g, 0, none⟩) (m + 1) cap) wo) := HM.out.comma HR1.out.symm HF2.out
                clear hm0
                go_wp2_with fail
                go_roundw
                case rel => exact ⟨k + 1, false, HLT.out, by go_num, rfl, HN.out⟩
                case measure => have := HLT.out; simp [intOf]; omega
          · have e3 := chr_no (z := 44) c44 rfl
            by_cases c59 : ch = 59
            · have e4 := chr_yes (z := 59) c59 rfl
              subst c59
              cases b with
              | false =>
                have HST := Lib.hid (pa_err (HSB.out wo HM.out.up).2 (HSB.out wo HM.out.up).1 (HPN.out none (by simp [pz])))
                go_wp2_with fail
                obtain ⟨s2, s3, hp⟩ := HST.out
                exact ⟨rfl, .tuple #[.agg #[.slice none 0 0, .slice none 0 0], .int .i64 3], by simp [results, Tryz.results46, go_sem, s2, s3], hp⟩
              | true =>
                by_cases hm0 : m = 0
                · have d2 : (((m : Int) + 1) != 1) = false := by rw [hm0]; rfl
                  by_cases hk1 : k + 1 = s.size
                  · have d3 : ((k : Int) != (s.size : Int) - 1) = false := by simp; omega
                    have hos : os = [] := List.eq_nil_of_length_eq_zero (by have := HMM.out; omega)
                    subst hos
                    have hst0 : st = [] := List.eq_nil_of_length_eq_zero (by have := HST1.out; simp at this; omega)
                    subst hst0
                    obtain ⟨r, Y, rfl⟩ : ∃ r Y, Z = r :: Y := by
                      have := HM.out.dnz rfl
                      cases Z with
                      | nil => exact absurd rfl this
                      | cons r Y => exact ⟨r, Y, rfl⟩
                    have ho0 : o = 0 := by have := HM.out.last; simpa using this
                    subst ho0
                    have hdr0 : s.data.toList.drop (k + 1) = [] := List.drop_eq_nil_of_le (by rw [Array.length_toList]; have : s.data.size = s.size := rfl; omega)
                    have hpr : paR s.data.toList = some r := HPN.out (some r) (by rw [hdr0]; simp [pz, firstZ])
                    obtain ⟨c, ks, hkc, hcn, htr⟩ := HM.out.zf.done
                    have hsl : s.data.toList.length = s.size := by rw [Array.length_toList]; rfl
                    obtain ⟨rs1, rs2, rs3⟩ := read_size hpr
                    rw [hsl] at rs1 rs2
                    have HRS1 := Lib.hid rs1
                    have HRS2 := Lib.hid rs2
                    have HRS3 : Hid (∀ k, (gs (flat r).ns k).size ≤ 70000) := fun j => by have := rs3 j; rw [hsl] at this; omega
                    have HPR := Lib.hid hpr
                    have hA0 := HM.out.a0
                    have hkv := HM.out.fr.kidv HM.out.zf.on
                    have hown := HM.out.fr.own 0 HM.out.zf.on
                    rw [hkc, List.map_cons] at hown
                    rw [hA0] at hkv
                    obtain ⟨kq, kcap, hkvs, hkform⟩ := hown.form (n := (ks.map (nptr A)).length + 1) (by simp)
                    obtain ⟨kg, rfl⟩ : ∃ kg, kq = some ⟨kg, 0, none⟩ := by
                      rcases hkform with rfl | h2
                      · obtain ⟨_, h3 | ⟨g, _, _, h3, _⟩⟩ := hown
                        · have := h3.2; simp at this
                        · rw [hkvs] at h3; cases h3
                      · exact h2
                    rw [hkvs] at hown hkv
                    have hkcell := (owns_cell hown (j := 0) (u := nptr A c) (by simp)).1
                    simp only [nptr] at hkcell
                    have HTR := Lib.hid (tree_t HM.out.zf.wf (fun i hi => Nat.le_trans (nodup_le (HM.out.zf.nd i hi) (fun x hx => (HM.out.zf.kid i hi x hx).2)) (by have := HM.out.nk; omega)) wo c hcn HM.out.fr (by
                      have h1 : (seqF F rkN c none).length = (nodesF F rkN c).length := by
                        simp [nodesF]
                      have h2 := nodup_le (one_nodes HM.out.zf.wf HM.out.zf.one HM.out.zf.nd (fun i _ => rkN_le i) hcn) (fun x hx => subF_lt HM.out.zf.wf hcn (Nat.le_refl _) ((mem_nodesF HM.out.zf.wf hcn (Nat.le_refl _)).1 hx))
                      have := HM.out.nk
                      omega))
                    rw [htr] at HTR
                    have HRB1 := Lib.hid (HSB.out wo HM.out.up).1
                    have HUW := Lib.hid (HSB.out wo HM.out.up).2
                    have HSW : Hid (w.heap.size + 1 ≤ wo.heap.size) := Nat.le_trans (Nat.le_of_eq HSZ.out.symm) HM.out.up.size
                    have i9 : (0 : Int) < ((ks.map (nptr A)).length : Int) + 1 := by omega
                    clear hm0 hk1 hdr0 hpr hkc htr hsl rs1 rs2 rs3 hown hkvs hkform hcn
                    generalize (ks.map (nptr A)).length = kl at *
                    go_wp2_with fail
                    refine HTR.out.mono ?_
                    rintro e w4 ⟨hu4, _, rfl, P4, N4, rfl, hP4, hN4⟩
                    obtain ⟨pp, pc, rfl, _, _⟩ := SlAt.open hP4
                    obtain ⟨np, nc, rfl, _, _⟩ := SlAt.open hN4
                    have hP4 : IntsAt _ w4 (.slice pp (flat r).ps.length pc) (flat r).ps := hP4
                    have hN4 : StrsAt _ w4 (.slice np (flat r).ns.length nc) (flat r).ns := hN4
                    have hal := Up.alloc w4 (.cells #[.slice pp (flat r).ps.length pc, .slice np (flat r).ns.length nc] 45)
                    have b0 := box2_0 w4 (.slice pp (flat r).ps.length pc) (.slice np (flat r).ns.length nc) 45
                    have b1 := box2_1 w4 (.slice pp (flat r).ps.length pc) (.slice np (flat r).ns.length nc) 45
                    have HB0 := Lib.hid b0
                    have HB1 := Lib.hid b1
                    have hrb5 := (Below.block (hu4.trans hal) w.heap.size (by have := HSW.out; omega)).trans HRB1.out
                    have HRB5 := Lib.hid hrb5
                    have HUW5 := Lib.hid (HUW.out.trans (hu4.trans hal))
                    have HT5 : Hid (TreeAt (fun b => wo.heap.size ≤ b) (w4.alloc (.cells #[.slice pp (flat r).ps.length pc, .slice np (flat r).ns.length nc] 45)) (.agg #[.slice pp (flat r).ps.length pc, .slice np (flat r).ns.length nc]) (flat r)) := TreeAt.keep ⟨_, _, rfl, hP4, hN4⟩ (hal.kept _)
                    have HCK := Lib.hid (check_t _ _ _ (flat r) HT5.out (by have := HRS1.out; omega) (by have := HRS2.out; omega) HRS3.out)
                    have HS5 : Hid (wo.heap.size ≤ (w4.alloc (.cells #[.slice pp (flat r).ps.length pc, .slice np (flat r).ns.length nc] 45)).heap.size) := (hu4.trans hal).size
                    clear hu4 hP4 hN4 hal HTR hrb5 HUW HRB1 q0 q1 q2 q3 hkcell hkv
                    go_wp2_with fail
                    generalize w4.alloc (.cells #[.slice pp (flat r).ps.length pc, .slice np (flat r).ns.length nc] 45) = w5 at *
                    refine HCK.out.mono ?_
                    rintro e w6 ⟨rfl, hu6⟩
                    have hu6 : Up w5 w6 := hu6
                    have b0 := hu6.cell HB0.out
                    have b1 := hu6.cell HB1.out
                    have hrb6 := (Below.block hu6 w.heap.size (by have := HSW.out; have := HS5.out; omega)).trans HRB5.out
                    have HRB6 := Lib.hid hrb6
                    have HUW6 := Lib.hid (HUW5.out.trans hu6)
                    have HT6 := Lib.hid (HT5.out.keep (hu6.kept _))
                    obtain ⟨q0, q1, q2, q3⟩ := boxed hrb6
                    have HPE : Hid (paE s = treeErr (flat r)) := by unfold Hid paE; rw [HPR.out]
                    have HPT : Hid (paT s = if treeErr (flat r) ≠ 0 then ⟨[], []⟩ else flat r) := by unfold Hid paT; rw [HPR.out]
                    clear hu6 hrb6 HCK
                    by_cases he : treeErr (flat r) = 0
                    · have HPT0 : Hid (paT s = flat r) := by unfold Hid; rw [HPT.out, if_neg (by simp [he])]
                      have HPE0 : Hid (paE s = 0) := by unfold Hid; rw [HPE.out, he]
                      rw [he]
                      have HST := Lib.hid (store_two (w := w) (p := .slice pp (flat r).ps.length pc) (q := .slice np (flat r).ns.length nc) HRB6.out (Nat.le_refl _) HUW6.out)
                      clear he
                      go_wp2_with fail
                      obtain ⟨s1, s2, s3, s4⟩ := HST.out
                      obtain ⟨P7, N7, e7, hP7, hN7⟩ := HT6.out
                      have e8 : P7 = .slice pp (flat r).ps.length pc ∧ N7 = .slice np (flat r).ns.length nc := by
                        injection e7 with e7
                        have := congrArg Array.toList e7
                        simp at this
                        exact ⟨this.1.symm, this.2.symm⟩
                      obtain ⟨rfl, rfl⟩ := e8
                      have hsw := HSW.out
                      refine ⟨rfl, .tuple #[.agg #[.slice pp (flat r).ps.length pc, .slice np (flat r).ns.length nc], .int .i64 0], by simp [results, Tryz.results46, go_sem, s2, s3], ?_⟩
                      refine ⟨s1, _, by rw [HPE0.out], ?_⟩
                      rw [HPT0.out]
                      exact ⟨_, _, rfl, (IntsAt.keep hP7 fun b hb _ => s4 b (by omega)).sub fun b _ _ => trivial, (StrsAt.keep hN7 fun b hb _ => s4 b (by omega)).sub fun b _ _ => trivial⟩
                    · have he1 : (treeErr (flat r) != 0) = true := by simpa using he
                      have HPT0 : Hid (paT s = ⟨[], []⟩) := by unfold Hid; rw [HPT.out, if_pos he]
                      have HST := Lib.hid (store_two (w := w) (p := .slice none 0 0) (q := .slice none 0 0) HRB6.out (Nat.le_refl _) HUW6.out)
                      clear he
                      generalize treeErr (flat r) = te at *
                      go_wp2_with fail
                      obtain ⟨s1, s2, s3, s4⟩ := HST.out
                      refine ⟨rfl, .tuple #[.agg #[.slice none 0 0, .slice none 0 0], .int .i64 te], by simp [results, Tryz.results46, go_sem, s2, s3], ?_⟩
                      refine ⟨s1, _, by rw [HPE.out], ?_⟩
                      rw [HPT0.out]; exact nil_tree _
                  · have d3 : ((k : Int) != (s.size : Int) - 1) = true := by simp; omega
                    have HST := Lib.hid (pa_err (HSB.out wo HM.out.up).2 (HSB.out wo HM.out.up).1 (HPN.out none (by
                      have hne : s.data.toList.drop (k + 1) ≠ [] := fun e => by
                        have := List.drop_eq_nil_iff.1 e
                        rw [Array.length_toList] at this
                        have h2 : s.data.size = s.size := rfl
                        omega
                      rw [pz, if_neg (by decide), if_neg (by decide), if_neg (by decide), if_pos rfl, if_pos (.inr (.inr hne))])))
                    clear hm0 hk1
                    go_wp2_with fail
                    obtain ⟨s2, s3, hp⟩ := HST.out
                    exact ⟨rfl, .tuple #[.agg #[.slice none 0 0, .slice none 0 0], .int .i64 3], by simp [results, Tryz.results46, go_sem, s2, s3], hp⟩
                · have d2 : (((m : Int) + 1) != 1) = true := by simp; omega
                  have HST := Lib.hid (pa_err (HSB.out wo HM.out.up).2 (HSB.out wo HM.out.up).1 (HPN.out none (by have h := HST1.out; rw [pz, if_neg (by decide), if_neg (by decide), if_neg (by decide), if_pos rfl, if_pos (.inr (.inl (by rw [h]; omega)))])))
                  clear hm0
                  go_wp2_with fail
                  obtain ⟨s2, s3, hp⟩ := HST.out
                  exact ⟨rfl, .tuple #[.agg #[.slice none 0 0, .slice none 0 0], .int .i64 3], by simp [results, Tryz.results46, go_sem, s2, s3], hp⟩
            · have e4 := chr_no (z := 59) c59 rfl
              cases b with
              | true =>
                have HST := Lib.hid (pa_err (HSB.out wo HM.out.up).2 (HSB.out wo HM.out.up).1 (HPN.out none (by rw [pz, if_neg c40, if_neg c41, if_neg c44, if_neg c59, if_pos rfl])))
                go_wp2_with fail
                obtain ⟨s2, s3, hp⟩ := HST.out
                exact ⟨rfl, .tuple #[.agg #[.slice none 0 0, .slice none 0 0], .int .i64 3], by simp [results, Tryz.results46, go_sem, s2, s3], hp⟩
              | false =>
                have HSP : Hid (ch ∉ sp4) := not_sp4 c40 c41 c44 c59
                have HPZ : Hid (∀ x, (if Lib.indexAny (s.data.toList.drop k) sp4 < 0 then none else pz f' ((s.data.toList.drop k).drop (Lib.indexAny (s.data.toList.drop k) sp4).toNat) ((Z ++ [.node ⟨((s.data.toList.drop k).take (Lib.indexAny (s.data.toList.drop k) sp4).toNat).toArray⟩ []]) :: st) true) = x → paR s.data.toList = x) := fun x hx => HPN.out x (by
                  rw [pz, if_neg c40, if_neg c41, if_neg c44, if_neg c59, if_neg (by simp), ← HDR.out]; exact hx)
                have HIK := Lib.hid (HIA.out k wo HLT.out)
                clear c40 c41 c44 c59
                have i3 : (k : Int) ≤ (s.size : Int) := by omega
                go_wp2_with fail
                refine HIK.out.mono ?_
                rintro e w3 ⟨rfl, hu3⟩
                have HM3 := Lib.hid (HM.out.keepUp hu3)
                obtain ⟨q0, q1, q2, q3⟩ := boxed (HSB.out w3 HM3.out.up).1
                clear hu3 HIK
                by_cases hia : Lib.indexAny (s.data.toList.drop k) sp4 < 0
                · have d5 : decide (Lib.indexAny (s.data.toList.drop k) sp4 < 0) = true := decide_eq_true hia
                  have HST := Lib.hid (pa_err (HSB.out w3 HM3.out.up).2 (HSB.out w3 HM3.out.up).1 (HPZ.out none (by rw [if_pos hia])))
                  clear hia
                  generalize Lib.indexAny (s.data.toList.drop k) sp4 = ia at *
                  go_wp2_with fail
                  obtain ⟨s2, s3, hp⟩ := HST.out
                  exact ⟨rfl, .tuple #[.agg #[.slice none 0 0, .slice none 0 0], .int .i64 3], by simp [results, Tryz.results46, go_sem, s2, s3], hp⟩
                · obtain ⟨x, hx⟩ : ∃ x : Nat, Lib.indexAny (s.data.toList.drop k) sp4 = (x : Int) := ⟨(Lib.indexAny (s.data.toList.drop k) sp4).toNat, by omega⟩
                  have hx1 : 1 ≤ x := by
                    have h1 := ia_pos (s := s.data.toList.drop (k + 1)) HSP.out
                    rw [← HDR.out, hx] at h1
                    omega
                  have hx2 : k + x < s.size := by
                    have h1 := ia_lt _ x hx
                    rw [List.length_drop, Array.length_toList] at h1
                    have h2 : s.data.size = s.size := rfl
                    omega
                  have HRUN : Hid (pz f' (s.data.toList.drop (k + x)) ((Z ++ [.node (s.extract k (k + x)) []]) :: st) true = paR s.data.toList) := by
                    have h1 := HPZ.out _ rfl
                    rw [hx, if_neg (by omega), Int.toNat_natCast, List.drop_drop, ba_extract s k x] at h1
                    exact h1.symm
                  rw [hx]
                  have d5 : decide ((x : Int) < 0) = false := decide_eq_false (by omega)
                  have HX2 := Lib.hid hx2
                  have HX1 := Lib.hid hx1
                  have j1 : (0 : Int) ≤ (x : Int) := by omega
                  have j2 : (k : Int) ≤ (k : Int) + (x : Int) := by omega
                  have j3 : (k : Int) + (x : Int) ≤ (s.size : Int) := by omega
                  have j4 : IntKind.i64.wrap ((k : Int) + (x : Int)) = (k : Int) + (x : Int) := by rw [IntKind.wrap_i64]; omega
                  have j5 : ((k : Int) + (x : Int)).toNat = k + x := by omega
                  have j6 : (0 : Int) ≤ (k : Int) + (x : Int) := by omega
                  have HMD := Lib.hid HM3.out.drew
                  have hkc := HMD.out.fr.kidv HMD.out.zf.on
                  have hkf := HMD.out.fr.thaw HMD.out.zf.on 1
                  clear hia hx hx1 HPZ
                  go_wp2_with fail
                  refine region_T (by kernel_rfl) 18 (fun w' => w'.cell? ⟨A o, 1, none⟩ = some (kv o)) hkc (fun hS => ?_)
                  simp only [List.size_toArray, List.length_cons, List.length_nil, Nat.reduceAdd, Array.replicate_succ, Array.replicate_zero, List.push_toArray, List.nil_append, List.cons_append]
                  refine anyT.take (i := 0) (v := ?gv0k1) rfl (by kernel_rfl) (fun _ _ _ h => h) (by rfl) (fun w hSw => ?gy0k1) hS ?gr0k1
                  case gy0k1 =>
                    (try dsimp only at hSw)
                    go_simp
                    try with_reducible rfl
                  try simp only [Act.put, List.setIfInBounds_toArray, List.set_cons_zero, List.set_cons_succ]
                  refine anyT.take (i := 1) (v := ?gv1k1) rfl (by kernel_rfl) (fun _ _ _ h => h) (by rfl) (fun w hSw => ?gy1k1) hS ?gr1k1
                  case gy1k1 =>
                    (try dsimp only at hSw)
                    go_simp
                    try with_reducible rfl
                  try simp only [Act.put, List.setIfInBounds_toArray, List.set_cons_zero, List.set_cons_succ]
                  refine anyT.take (i := 2) (v := ?gv2k1) rfl (by kernel_rfl) (fun _ _ _ h => h) (by rfl) (fun w hSw => ?gy2k1) hS ?gr2k1
                  case gy2k1 =>
                    (try dsimp only at hSw)
                    go_simp
                    try with_reducible rfl
                  try simp only [Act.put, List.setIfInBounds_toArray, List.set_cons_zero, List.set_cons_succ]
                  refine anyT.take (i := 3) (v := ?gv3k1) rfl (by kernel_rfl) (fun _ _ _ h => h) (by rfl) (fun w hSw => ?gy3k1) hS ?gr3k1
                  case gy3k1 =>
                    (try dsimp only at hSw)
                    go_simp
                    try with_reducible rfl
                  try simp only [Act.put, List.setIfInBounds_toArray, List.set_cons_zero, List.set_cons_succ]
                  refine anyT.take (i := 4) (v := ?gv4k1) rfl (by kernel_rfl) (fun _ _ _ h => h) (by rfl) (fun w hSw => ?gy4k1) hS ?gr4k1
                  case gy4k1 =>
                    (try dsimp only at hSw)
                    go_simp
                    try with_reducible rfl
                  try simp only [Act.put, List.setIfInBounds_toArray, List.set_cons_zero, List.set_cons_succ]
                  refine anyT.take (i := 5) (v := ?gv5k1) rfl (by kernel_rfl) (fun _ _ _ h => h) (by rfl) (fun w hSw => ?gy5k1) hS ?gr5k1
                  case gy5k1 =>
                    (try dsimp only at hSw)
                    go_simp
                    try with_reducible rfl
                  try simp only [Act.put, List.setIfInBounds_toArray, List.set_cons_zero, List.set_cons_succ]
                  refine anyT.take (i := 6) (v := ?gv6k1) rfl (by kernel_rfl) (fun _ _ _ h => h) (by rfl) (fun w hSw => ?gy6k1) hS ?gr6k1
                  case gy6k1 =>
                    (try dsimp only at hSw)
                    go_simp
                    try with_reducible rfl
                  try simp only [Act.put, List.setIfInBounds_toArray, List.set_cons_zero, List.set_cons_succ]
                  refine anyT.take (i := 7) (v := ?gv7k1) rfl (by kernel_rfl) (fun _ _ _ h => h) (by rfl) (fun w hSw => ?gy7k1) hS ?gr7k1
                  case gy7k1 =>
                    (try dsimp only at hSw)
                    go_simp
                    try with_reducible rfl
                  try simp only [Act.put, List.setIfInBounds_toArray, List.set_cons_zero, List.set_cons_succ]
                  refine anyT.take (i := 8) (v := ?gv8k1) rfl (by kernel_rfl) (fun _ _ _ h => h) (by rfl) (fun w hSw => ?gy8k1) hS ?gr8k1
                  case gy8k1 =>
                    (try dsimp only at hSw)
                    go_simp
                    try with_reducible rfl
                  try simp only [Act.put, List.setIfInBounds_toArray, List.set_cons_zero, List.set_cons_succ]
                  refine anyT.take (i := 9) (v := ?gv9k1) rfl (by kernel_rfl) (fun _ _ _ h => h) (by rfl) (fun w hSw => ?gy9k1) hS ?gr9k1
                  case gy9k1 =>
                    (try dsimp only at hSw)
                    go_simp
                    try with_reducible rfl
                  try simp only [Act.put, List.setIfInBounds_toArray, List.set_cons_zero, List.set_cons_succ]
                  refine anyT.take (i := 10) (v := ?gv10k1) rfl (by kernel_rfl) (fun _ _ _ h => h) (by rfl) (fun w hSw => ?gy10k1) hS ?gr10k1
                  case gy10k1 =>
                    (try dsimp only at hSw)
                    go_simp
                    try with_reducible rfl
                  try simp only [Act.put, List.setIfInBounds_toArray, List.set_cons_zero, List.set_cons_succ]
                  refine anyT.take (i := 11) (v := ?gv11k1) rfl (by kernel_rfl) (fun _ _ _ h => h) (by rfl) (fun w hSw => ?gy11k1) hS ?gr11k1
                  case gy11k1 =>
                    (try dsimp only at hSw)
                    go_simp
                    try with_reducible rfl
                  try simp only [Act.put, List.setIfInBounds_toArray, List.set_cons_zero, List.set_cons_succ]
                  refine anyT.step (i := 12) rfl (by kernel_rfl) (fun K' hK => ?_)
                  go_simp
                  refine hK.out _ _ (fun _ => (Up.alloc _ _).cell hkc) (fun hS => ?_)
                  try simp only [List.setIfInBounds_toArray, List.set_cons_zero, List.set_cons_succ]
                  have HOW : Hid (Owns (w.heap.size + 1) 113 ((w3.drew.alloc (.cells #[.string (s.extract k (k + x)), .slice none 0 0, .int .i64 0] 115)).alloc (.cells #[.pointer (some ⟨w3.drew.heap.size, 0, none⟩)] 113)) (kv o) ((F.kids o).map (nptr A))) := ((HMD.out.fr.own o HMD.out.zf.on).alloc _).alloc _
                  have hsa : (w3.drew.alloc (.cells #[.string (s.extract k (k + x)), .slice none 0 0, .int .i64 0] 115)).heap.size = w3.drew.heap.size + 1 := World.size_alloc _ _
                  have HSA := Lib.hid hsa
                  have HCN : Hid (((w3.drew.alloc (.cells #[.string (s.extract k (k + x)), .slice none 0 0, .int .i64 0] 115)).alloc (.cells #[.pointer (some ⟨w3.drew.heap.size, 0, none⟩)] 113)).cell? ⟨w3.drew.heap.size + 1, 0, none⟩ = some (.pointer (some ⟨w3.drew.heap.size, 0, none⟩))) := by
                    have h := cell_at_new (w3.drew.alloc (.cells #[.string (s.extract k (k + x)), .slice none 0 0, .int .i64 0] 115)) #[.pointer (some ⟨w3.drew.heap.size, 0, none⟩)] 113 0
                    rw [hsa] at h; exact h
                  have HBD : Hid (w.heap.size + 1 ≤ w3.drew.heap.size) := Nat.le_trans (Nat.le_of_eq HSZ.out.symm) HMD.out.up.size
                  have HBS : Hid (w.heap.size + 1 ≤ ((w3.drew.alloc (.cells #[.string (s.extract k (k + x)), .slice none 0 0, .int .i64 0] 115)).alloc (.cells #[.pointer (some ⟨w3.drew.heap.size, 0, none⟩)] 113)).heap.size) := by have := HBD.out; rw [Hid, World.size_alloc, World.size_alloc]; omega
                  have HFL := Lib.hid HMD.out.klen
                  have HFLM : Hid (((F.kids o).map (nptr A)).length ≤ 1000000) := by have := HFL.out; unfold Hid; rw [this.1]; exact this.2
                  clear hsa
                  refine anyT.step (i := 13) rfl (by kernel_rfl) (fun K' hK => ?_)
                  go_simp
                  refine hK.out _ _ (fun _ => ((Up.alloc _ _).trans (Up.alloc _ _)).cell hkc) (fun hS => ?_)
                  try simp only [List.setIfInBounds_toArray, List.set_cons_zero, List.set_cons_succ]
                  try rw [HSA.out]
                  refine anyT.step (i := 14) rfl (by kernel_rfl) (fun K' hK => ?_)
                  refine step_app1 (by rfl) _ _ _ (by rfl) (w.heap.size + 1) 113 _ 8 Tryz.underlying111 Tryz.infoNP (by rfl) (by decide) (by rfl) HOW.out (.pointer (some ⟨w3.drew.heap.size, 0, none⟩)) (w3.drew.heap.size + 1) (by rfl) HCN.out (by rfl) HFLM.out HBS.out ?_
                  intro g8 cap8 w8 hown8 hgr8 hor8 _
                  have hgr7 := grown_alloc_drew hgr8
                  have hgr9 : (w3.drew.alloc (.cells #[.string (s.extract k (k + x)), .slice none 0 0, .int .i64 0] 115)).grownBy w8 (kv o).ownBlock := ⟨hgr7.os, hgr7.tape, hgr7.output, hgr7.size, hgr7.block⟩
                  obtain ⟨hc8, hf8⟩ := HMD.out.store hgr9
                  obtain ⟨A8, kv8, hA8, hN8⟩ := HMD.out.node (s.extract k (k + x)) HBD.out hown8 hgr9 (hor8.imp id fun e => by rw [e]; show _ ≤ (World.alloc (World.alloc w3 _) _).heap.size; rw [World.size_alloc, World.size_alloc]; exact Nat.le_succ (w3.heap.size + 1))
                  have HP8 := Lib.hid (HMD.out.leaf (by have := HMD.out.nk; omega) (k' := k + x) (f' := f') (by have := HX1.out; omega) hN8 HRUN.out (by have := HF2.out; have := HX1.out; omega))
                  clear hown8 hgr8 hor8 hgr7 hgr9 hN8 hA8
                  refine hK.out _ _ (fun _ => hc8) (fun hS => ?_)
                  try simp only [Act.put, List.setIfInBounds_toArray, List.set_cons_zero, List.set_cons_succ]
                  replace hS := hS ⟨17, by decide, rfl⟩
                  refine anyT.take (i := 15) (v := ?gv15k2) rfl (by kernel_rfl) (fun _ _ _ h => h) (by rfl) (fun w hSw => ?gy15k2) hS ?gr15k2
                  case gy15k2 =>
                    (try dsimp only at hSw)
                    go_simp
                    try with_reducible rfl
                  try simp only [Act.put, List.setIfInBounds_toArray, List.set_cons_zero, List.set_cons_succ]
                  refine anyT.take (i := 16) (v := ?gv16k2) rfl (by kernel_rfl) (fun _ _ _ h => h) (by rfl) (fun w hSw => ?gy16k2) hS ?gr16k2
                  case gy16k2 =>
                    (try dsimp only at hSw)
                    go_simp
                    try with_reducible rfl
                  try simp only [Act.put, List.setIfInBounds_toArray, List.set_cons_zero, List.set_cons_succ]
                  refine anyT.step (i := 17) rfl (by kernel_rfl) (fun K' hK => ?_)
                  go_simp
                  refine hK.out _ _ (not_more (by kernel_rfl)) (fun hS => ?_)
                  refine anyT.done (by kernel_rfl) ?_
                  have j7 : (x : Int) - 1 < (s.size : Int) := by omega
                  go_wp2_with fail
                  go_roundw
                  case rel => exact ⟨k + x, true, by have := HX2.out; omega, by have := HX1.out; have := HX2.out; go_num, rfl, by have h := HP8.out; rw [HFL.out.1] at h; exact h⟩
                  case measure => have := HX1.out; have := HX2.out; simp [intOf]; omega
    · obtain rfl : k = s.size := by omega
      obtain ⟨n, A, kv, F, o, os, Z, st, f, hM⟩ := hO.out
      have hf := hM.fuel
      have hrun := hM.run
      have hd0 : s.data.toList.drop s.size = [] := List.drop_eq_nil_of_le (by rw [Array.length_toList]; exact Nat.le_refl _)
      obtain ⟨f', rfl⟩ : ∃ f', f = f' + 1 := ⟨f - 1, by omega⟩
      rw [hd0, pz] at hrun
      obtain ⟨q0, q1, q2, q3⟩ := boxed (HSB.out wo hM.up).1
      have HST := Lib.hid (pa_err (HSB.out wo hM.up).2 (HSB.out wo hM.up).1 hrun.symm)
      clear hM hO hf hrun hd0 hlt hk
      go_wp2_with fail
      obtain ⟨s2, s3, hp⟩ := HST.out
      exact ⟨rfl, .tuple #[.agg #[.slice none 0 0, .slice none 0 0], .int .i64 3], by simp [results, Tryz.results46, go_sem, s2, s3], hp⟩
end Go.Proofs.YtpjijbophjdgaaaGreat
