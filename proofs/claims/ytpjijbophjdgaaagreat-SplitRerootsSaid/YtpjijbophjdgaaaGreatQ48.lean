/- The contract of split.Of. -/
import Derived.RangeFuncLeaves
import Derived.Test.YtpjijbophjdgaaaGreatQ42
import Derived.Test.YtpjijbophjdgaaaGreatQ47
import Derived.Test.YtpjijbophjdgaaaGreatQ16
import Derived.Test.YtpjijbophjdgaaaGreatQ38
import Derived.Test.YtpjijbophjdgaaaGreatQ3
namespace Go.Proofs.YtpjijbophjdgaaaGreat
open Go.RowKit Go.Deep Go.Shelf
def OfPost (w : World) (t : Tre) (names : List ByteArray) (e : Ending) (w' : World) : Prop := Up w w' ∧ ∃ u, e = .returned (.tuple #[u, .int .i64 (splOErr t names)]) ∧ RowsAt Any w' u (splO t names)
def OfPostT (w : World) (t : Tre) (names : List ByteArray) (e : Ending) (w' : World) : Prop := Up w w' ∧ ∃ u, e = .returned (.tuple #[u, .int .i64 (splOErr t names)]) ∧ ∃ f, SlAt (fun b => w.heap.size ≤ b) w' u (splO t names).length f ∧ ∀ k, k < (splO t names).length → IntsAt (TyI w') w' (f k) (gl (splO t names) k)
theorem of_bad {w w' : World} {t : Tre} {names : List ByteArray} {c : Int} (hE : splOErr t names = c) (hc : c ≠ 0) (hu : Up w w') : OfPostT w t names (.returned (.tuple #[.slice none 0 0, .int .i64 c])) w' := by
  refine ⟨hu, .slice none 0 0, by rw [hE], ?_⟩
  have h0 : splO t names = [] := by
    unfold splO
    rw [if_neg (by rw [hE]; exact hc)]
  rw [h0]
  exact ⟨fun _ => undef, ⟨none, 0, rfl, Nat.le_refl _, .inl rfl⟩, fun k hk => absurd hk (Nat.not_lt_zero _)⟩
set_option maxRecDepth 100000 in
set_option maxHeartbeats 4000000 in
theorem splOfT_t (S : Nat → Prop) (w : World) (v vs : Value) (t : Tre) (names : List ByteArray) (hT : TreeAt S w v t) (hV : StrsAt S w vs names) (hp : t.ps.length ≤ 1000000) (hn : t.ns.length ≤ 1000000) (hz : ∀ k, (gs t.ns k).size ≤ 70000) (hnl : names.length ≤ 1000000) :
    Calls Tryz.prog 22 #[v, vs] w (OfPostT w t names) := by
  have HE : Hid (splOErr t names = if treeErr t ≠ 0 then 1 else if 32 < names.length then 4 else if dupB names then 7 else if (leavesL t.ns).length ≠ names.length ∨ offB t names = true then 9 else 0) := rfl
  obtain ⟨P, N, rfl, hP, hN⟩ := hT
  obtain ⟨pp, pc, rfl, -, -⟩ := SlAt.open hP
  obtain ⟨np, nc, rfl, -, -⟩ := SlAt.open hN
  obtain ⟨mp, mc, rfl, -, -⟩ := SlAt.open hV
  have hP : IntsAt S w (.slice pp t.ps.length pc) t.ps := hP
  have hN : StrsAt S w (.slice np t.ns.length nc) t.ns := hN
  have HV : Hid (StrsAt S w (.slice mp names.length mc) names) := hV
  have hu := Up.alloc w (.cells #[.slice pp t.ps.length pc, .slice np t.ns.length nc] 45)
  have HB0 := Lib.hid (box2_0 w (.slice pp t.ps.length pc) (.slice np t.ns.length nc) 45)
  have HB1 := Lib.hid (box2_1 w (.slice pp t.ps.length pc) (.slice np t.ns.length nc) 45)
  have HU := Lib.hid hu
  have HP := Lib.hid hP
  have HN := Lib.hid hN
  have HLV : Hid (∀ W, Up w W → Calls Tryz.prog 40 #[.agg #[.slice pp t.ps.length pc, .slice np t.ns.length nc]] W (LvPost W t)) := fun W hW => leaves_t S W _ t (TreeAt.keep ⟨_, _, rfl, hP, hN⟩ (hW.kept _)) hp hn hz
  clear hu hP hN hV
  refine (callsIn_wide (n := 9)).1 ?_
  refine callsIn_of_wp_marks Tryz.func22 rfl trivial ?_
  simp only [Tryz.ntmps22, List.size_toArray, List.length_cons, List.length_nil, Nat.reduceAdd, Nat.reduceSub, Array.replicate_succ, Array.replicate_zero, List.push_toArray, List.append_toArray, List.nil_append, List.cons_append]
  gi_wp2_with fail
  generalize w.alloc (.cells #[.slice pp t.ps.length pc, .slice np t.ns.length nc] 45) = w1 at *
  refine ⟨trivial, (callsIn_wide.2 (HLV.out w1 HU.out)).mono ?_⟩
  rintro e w2 ⟨hu2, hcc⟩
  have hu2 : Up w1 w2 := hu2
  have HU2 := Lib.hid (HU.out.trans hu2)
  have HB02 := Lib.hid (hu2.cell HB0.out)
  have HB12 := Lib.hid (hu2.cell HB1.out)
  clear hu2 HLV HU HB0 HB1
  rcases hcc with ⟨hbad, rfl⟩ | ⟨hok, lv, rfl, hlv⟩
  · have HZ : Hid (splOErr t names = 1) := by unfold Hid; rw [HE.out, if_pos hbad]
    have d1 : (treeErr t == 0) = false := by simpa using hbad
    have d2 : (treeErr t != 0) = true := by simpa using hbad
    clear hbad
    gi_wp2_with fail
    exact ⟨.tuple #[.slice none 0 0, .int .i64 1], by simp [results, Tryz.results22, go_sem], of_bad HZ.out (by decide) HU2.out⟩
  obtain ⟨lp, lc, rfl, -, -⟩ := SlAt.open hlv
  have HI2 : Hid (IntsAt Any w2 (.slice lp (leavesL t.ns).length lc) (leavesL t.ns)) := IntsAt.sub hlv fun _ _ _ => trivial
  have HOK := Lib.hid hok
  clear hlv
  by_cases h32 : 32 < names.length
  · have HZ : Hid (splOErr t names = 4) := by unfold Hid; rw [HE.out, if_neg (fun e => e hok), if_pos h32]
    clear hok
    gi_wp2_with fail
    exact ⟨.tuple #[.slice none 0 0, .int .i64 4], by simp [results, Tryz.results22, go_sem], of_bad HZ.out (by decide) HU2.out⟩
  have HE2 : Hid (splOErr t names = if dupB names then 7 else if (leavesL t.ns).length ≠ names.length ∨ offB t names = true then 9 else 0) := by unfold Hid; rw [HE.out, if_neg (fun e => e hok), if_neg h32]
  have n32 : (names.length : Int) ≤ 32 := by omega
  have hmm := fun W => run_makeMap (P := Tryz.prog) 96 W
  clear hok HE
  gi_wp2_with fail
  have h3m : Up w2 ((w2.alloc (.map #[] 0)).alloc (.cells #[.map (some w2.heap.size)] 96)) := (Up.alloc _ _).trans (Up.alloc _ _)
  have h3s : SMap ((w2.alloc (.map #[] 0)).alloc (.cells #[.map (some w2.heap.size)] 96)) w2.heap.size (smK names 0) := (SMap.made w2).same (Below.block (Up.alloc (w2.alloc (.map #[] 0)) _) _ (by simp))
  have h3b : ((w2.alloc (.map #[] 0)).alloc (.cells #[.map (some w2.heap.size)] 96)).cell? ⟨w2.heap.size + 1, 0, none⟩ = some (.map (some w2.heap.size)) := by
    have h := box1_0 (w2.alloc (.map #[] 0)) (.map (some w2.heap.size)) 96
    rwa [World.size_alloc] at h
  have H3 := Lib.hid (⟨h3m, h3s, h3b⟩ : _ ∧ _ ∧ _)
  have d32 : decide ((32 : Int) < (names.length : Int)) = false := decide_eq_false (by omega)
  try simp only [d32]
  clear h3m h3s h3b hmm d32
  generalize (w2.alloc (.map #[] 0)).alloc (.cells #[.map (some w2.heap.size)] 96) = w3 at *
  have HV2 := Lib.hid (StrsAt.keep HV.out (HU2.out.kept _))
  have HSEEN : Hid (∀ k, seenK names k = inNm names k (gs names k)) := fun k => rfl
  gi_loopw [10, 29] (fun _ i wr => ∃ k : Nat, k ≤ names.length ∧ i = .int .i64 k ∧ Hid (SMap wr w2.heap.size (smK names k)) ∧ Hid (Up w2 wr) ∧ Hid (wr.cell? ⟨w2.heap.size + 1, 0, none⟩ = some (.map (some w2.heap.size))) ∧ Hid (∀ j, j < k → seenK names j = false)) (fun _ i _ => names.length - (intOf i).toNat)
  case atStart => exact ⟨0, Nat.zero_le _, rfl, H3.out.2.1, H3.out.1, H3.out.2.2, fun j hj => absurd hj (Nat.not_lt_zero _)⟩
  case round =>
    obtain ⟨k, hk, rfl, hM, hUr, hB, hno⟩ := hrel
    obtain ⟨wo, rfl⟩ : ∃ wo : World, wo = wr := ⟨_, rfl⟩
    have b8 := hB.out
    by_cases hlt : k < names.length
    · obtain ⟨b, off, rfl, hcell⟩ := strs_get (StrsAt.keep HV2.out (hUr.out.kept _)) hlt
      have i1 : (0 : Int) ≤ (k : Int) := by omega
      have i2 : (k : Int) < (names.length : Int) := by omega
      have i3 : (k : Int) < 64 := by omega
      have HMS : Hid (smK names (k + 1) = putS (smK names k) (gs names k) (.bool true)) := rfl
      have HSK := Lib.hid (HSEEN.out k)
      have hlk : (Instr.lookup 96 (.map (some w2.heap.size)) (.string (gs names k)) false).run Tryz.prog wo = .ok (.bool (inNm names k (gs names k))) wo := by
        have h := run_slook (P := Tryz.prog) Tryz.underlying96 Tryz.underlying9 (zero_bool _) hM.out (gs names k)
        rw [smK_look] at h
        exact h
      generalize gs names k = s at *
      generalize inNm names k s = q at *
      cases q
      · obtain ⟨w5, hrun, hm5, hs5, ho5, ht5, hou5, hb5⟩ := run_sset (P := Tryz.prog) Tryz.underlying96 Tryz.underlying9 hM.out (smK_uniq names k) s (.bool true)
        have HM5 : Hid (SMap w5 w2.heap.size (smK names (k + 1))) := by unfold Hid; rw [HMS.out]; exact hm5
        have HU5 : Hid (Up w2 w5) := ⟨ho5.trans hUr.out.os, ht5.trans hUr.out.tape, hou5.trans hUr.out.output, by rw [hs5]; exact hUr.out.size, fun b hb => (hb5 b (by omega)).trans (hUr.out.block b hb)⟩
        have HB5 : Hid (w5.cell? ⟨w2.heap.size + 1, 0, none⟩ = some (.map (some w2.heap.size))) := (World.cell?_of_block (a := ⟨w2.heap.size + 1, 0, none⟩) (hb5 (w2.heap.size + 1) (by omega))).trans hB.out
        have HNO : Hid (∀ j, j < k + 1 → seenK names j = false) := fun j hj => by
          by_cases e : j = k
          · rw [e]; exact HSK.out
          · exact hno.out j (by omega)
        clear hm5 hs5 ho5 ht5 hou5 hb5 hM hUr hB hno
        gi_wp2_with fail
        go_roundw
        case rel => exact ⟨k + 1, by omega, by go_num, HM5, HU5, HB5, HNO⟩
        case measure => simp [intOf]; omega
      · have HZ : Hid (splOErr t names = 7) := by
          unfold Hid
          rw [HE2.out, show dupB names = true from List.any_eq_true.2 ⟨k, List.mem_range.2 hlt, HSK.out⟩, if_pos rfl]
        gi_wp2_with fail
        exact ⟨.tuple #[.slice none 0 0, .int .i64 7], by simp [results, Tryz.results22, go_sem], of_bad HZ.out (by decide) (HU2.out.trans hUr.out)⟩
    · obtain rfl : k = names.length := by omega
      have HE3 : Hid (splOErr t names = if (leavesL t.ns).length ≠ names.length ∨ offB t names = true then 9 else 0) := by
        unfold Hid
        rw [HE2.out, show dupB names = false from any_none hno.out, if_neg (by decide)]
      have HUo := Lib.hid (HU2.out.trans hUr.out)
      clear hlt hk HE2 hno HSEEN HV2 H3
      by_cases hln : (leavesL t.ns).length = names.length
      · have d1 : (((leavesL t.ns).length : Int) == (names.length : Int)) = true := by rw [hln]; simp
        have d2 : (((leavesL t.ns).length : Int) != (names.length : Int)) = false := by rw [bne, d1]; rfl
        have HLNE := Lib.hid hln
        have HIo : Hid (IntsAt Any wo (.slice lp (leavesL t.ns).length lc) (leavesL t.ns)) := IntsAt.keep HI2.out (hUr.out.kept _)
        have hb1 := hUr.out.cell HB12.out
        have HCF := Lib.hid (ints_has_d 82 #[.pointer (some ⟨w2.heap.size + 1, 0, none⟩), .pointer (some ⟨w.heap.size, 0, none⟩)] (enters_of Tryz.func82 (by kernel_rfl) rfl) Any wo _ (leavesL t.ns).length (fun k => .int .i64 (gi (leavesL t.ns) k)) (fun j => decide (fdN names (gs t.ns (gi (leavesL t.ns) j).toNat) < 0)) HIo.out (by have := leavesL_len t.ns; omega) (fun k hk => by
          obtain ⟨q, h1, h2, _⟩ := leaf_nat hk
          simp only [h1, Int.toNat_natCast]
          exact of1_t wo S (w2.heap.size + 1) w.heap.size w2.heap.size np nc t.ns names q b8 hM.out hb1 (StrsAt.keep HN.out (HUo.out.kept _)) h2))
        have HOB : Hid (((List.range (leavesL t.ns).length).any fun j => decide (fdN names (gs t.ns (gi (leavesL t.ns) j).toNat) < 0)) = offB t names) := rfl
        rw [HOB.out] at HCF
        have HBo0 := Lib.hid (hUr.out.cell HB02.out)
        have HBo1 := Lib.hid hb1
        clear hln hb1 hM hUr hB HB02 HB12 HI2 HOB b8
        cases hof : offB t names
        · rw [hof] at HCF HE3
          have HZ : Hid (splOErr t names = 0) := by unfold Hid; rw [HE3.out, if_neg]; exact fun e => e.elim (fun e => e HLNE.out) (fun e => by cases e)
          have HOF := Lib.hid (splO_ok.1 HZ.out)
          clear hof HE3
          gi_wp2_with fail
          refine ⟨trivial, (callsIn_wide.2 HCF.out).mono ?_⟩
          rintro e w6 ⟨rfl, nq, hw6⟩
          have hu6 : Up wo w6 := by rw [hw6]; exact Up.drewN wo nq
          have HU6 := Lib.hid (HUo.out.trans hu6)
          have b0 := hu6.cell HBo0.out
          have b1 := hu6.cell HBo1.out
          have HB60 := Lib.hid b0
          have HB61 := Lib.hid b1
          clear hw6 hu6 HCF HBo0 HBo1 HUo
          obtain ⟨t1, t2, t3⟩ := two_boxes w6 (.int .i64 (names.length : Int)) (.slice none 0 0) 3 22
          have hn7 := blk_alloc_new (w6.alloc (.cells #[.int .i64 (names.length : Int)] 3)) (.cells #[.slice none 0 0] 22)
          have hn6 := (Below.block (Up.alloc (w6.alloc (.cells #[.int .i64 (names.length : Int)] 3)) (.cells #[.slice none 0 0] 22)) w6.heap.size (by simp)).trans (blk_alloc_new w6 (.cells #[.int .i64 (names.length : Int)] 3))
          have hs7 : ((w6.alloc (.cells #[.int .i64 (names.length : Int)] 3)).alloc (.cells #[.slice none 0 0] 22)).heap.size = w6.heap.size + 2 := by simp
          rw [World.size_alloc] at hn7
          have b0 := t1.cell b0
          have b1 := t1.cell b1
          have H7 := Lib.hid (⟨t1, hn6, hn7, hs7⟩ : _ ∧ _ ∧ _ ∧ _)
          clear t1 t2 t3 hn6 hn7 hs7 HB60 HB61
          gi_wp2_with fail
          generalize (w6.alloc (.cells #[.int .i64 (names.length : Int)] 3)).alloc (.cells #[.slice none 0 0] 22) = w7 at *
          refine ⟨trivial, (callsIn_wide.2 (sbelow_t w7 _ _ _ _ _)).mono ?_⟩
          rintro e w9 ⟨rfl, hw9⟩
          have hu9 : Up w7 w9 := by rw [hw9]; exact (Up.alloc _ _).trans (Up.alloc _ _)
          have hs9 : w9.heap.size = w7.heap.size + 2 := by rw [hw9]; simp
          have ht9 := (Up.alloc (w7.alloc (.cells #[.slice pp t.ps.length pc, .slice np t.ns.length nc] 45)) (.cells #[.slice mp names.length mc] 43))
          have hc0 := ht9.cell (box2_0 w7 (.slice pp t.ps.length pc) (.slice np t.ns.length nc) 45)
          have hc1 := ht9.cell (box2_1 w7 (.slice pp t.ps.length pc) (.slice np t.ns.length nc) 45)
          have hc2 := box1_0 (w7.alloc (.cells #[.slice pp t.ps.length pc, .slice np t.ns.length nc] 45)) (.slice mp names.length mc) 43
          rw [World.size_alloc] at hc2
          rw [← hw9] at hc0 hc1 hc2
          have hP6 : IntsAt Any w6 (.slice pp t.ps.length pc) t.ps := IntsAt.sub (IntsAt.keep HP.out (HU6.out.kept _)) fun _ _ _ => trivial
          have hN6 : StrsAt Any w6 (.slice np t.ns.length nc) t.ns := StrsAt.sub (StrsAt.keep HN.out (HU6.out.kept _)) fun _ _ _ => trivial
          have hV6 : StrsAt Any w6 (.slice mp names.length mc) names := StrsAt.sub (StrsAt.keep HV.out (HU6.out.kept _)) fun _ _ _ => trivial
          have h67 := H7.out.2.2.2
          have hb9 : Up w6 w9 := H7.out.1.trans hu9
          have hI0 : OfI w6 t names [] (fun b => b = w7.heap.size ∨ b = w7.heap.size + 1) w9 := ⟨hb9, by omega, fun b hb => by omega, ⟨by omega, by omega⟩, (Below.block hu9 _ (by omega)).trans H7.out.2.1, .slice none 0 0, [], (Below.block hu9 _ (by omega)).trans H7.out.2.2.1, Owns.nil _ _ _, rfl, Nat.le_refl _, (fun p hp => by cases hp), (fun p hp => by cases hp), fun g hg => by cases hg⟩
          have hseq := below_seqL (w0 := w6) (w9 := w9) (Bt := w7.heap.size) (Bn := w7.heap.size + 1) 8 HOF.out (by omega) (by omega) hc0 hc1 hc2 hP6 hN6 hV6
          have H9 := Lib.hid (⟨hb9, hs9, h67⟩ : _ ∧ _ ∧ _)
          clear hw9 hu9 ht9 hc0 hc1 hc2 hP6 hN6 hV6 b0 b1 H7 h67 hs9 hb9
          gi_wp2_with fail
          apply wpIn_rangeL (F := Fence.wide) (n := 9) (P := Tryz.prog) (ps := #[54]) (w := w9) rfl (by omega) (gf := 151) (lb := #[.pointer (some ⟨w7.heap.size, 0, none⟩), .pointer (some ⟨w7.heap.size + 1, 0, none⟩)]) rfl trivial (enters_of Tryz.func151 (by kernel_rfl) rfl)
            hseq (fun b hb => by have := H9.out.2.1; omega) (fun x L W b h1 h2 => gvB_gb x L W b h1 h2) H9.out.1 (fun _ => rfl) (fun x L => gvB_own x L)
            (OfI w6 t names) OfI.ab (OfI.own (by have := H9.out.2; omega)) hI0
          · intro l x W K hK
            gi_wp2_with (rw [Oper.semAt_eq _ _ _ (fun c h => by cases h)]; go_simp; try go_bits)
            exact hK
          · rintro l pre ⟨nk, v⟩ L W hI hG hbw hLb hlen
            obtain ⟨hx1, hx2, xp, xc, hxe, hxi, hxt⟩ := hG
            dsimp only at hx1 hx2 hxe hxi hxt
            subst hxe
            have HI := Lib.hid hI
            have HXI : Hid (IntsAt (fun b => ¬ L b) W (.slice xp (lvS t names nk).length xc) (lvS t names nk)) := hxi
            have HXT := Lib.hid hxt
            have HLL : Hid (∀ b, L b → b < W.heap.size) := fun b hb => (hLb b hb).2
            have HSOK : Hid (SetOk (lvS t names nk)) := ⟨lvS_asc _ _ _, fun x hx => by have h1 := mem_lvS.1 hx; have h2 := HOF.out.le; omega⟩
            have HXL : Hid ((lvS t names nk).length ≤ 32) := Nat.le_trans (memK_len _ _) HOF.out.le
            have HPX : Hid (pre.length ≤ 64) := by have := (treeErr_zero HOF.out.te).2.1; unfold Hid; omega
            have HSP : Hid (splS names.length (lvS t names nk) = if (lvS t names nk).contains 0 then complL names.length (lvS t names nk) else (lvS t names nk)) := rfl
            have hnb : W.cell? ⟨w6.heap.size, 0, none⟩ = some (.int .i64 (names.length : Int)) := by simp [World.cell?, hI.nb]
            have HNB := Lib.hid hnb
            have HC0 : Hid (Calls Tryz.prog 84 #[.slice xp (lvS t names nk).length xc, .int .i64 0] W fun e w' => e = .returned (.bool ((lvS t names nk).contains 0)) ∧ W = w') := by
              have h := contains_int_t (fun b => ¬ L b) W _ (lvS t names nk) 0 hxi (by have := HXL.out; omega)
              rw [any_contains] at h; exact h
            have HCM : Hid (Calls Tryz.prog 85 #[.int .i64 (names.length : Int), .slice xp (lvS t names nk).length xc] W fun e w' => Up W w' ∧ ∃ u, e = .returned (.tuple #[u, .int .i64 0]) ∧ Owns W.heap.size 3 w' u ((complL names.length (lvS t names nk)).map (Value.int .i64))) := complement_t (fun b => ¬ L b) W _ names.length (lvS t names nk) (by have := HOF.out.le; omega) hxi HSOK.out (fun x hx => (mem_lvS.1 hx).2.1) (by have := HXL.out; omega)
            clear hI hxi hxt hbw hLb hlen hx1 hx2
            cases hc0 : (lvS t names nk).contains 0
            · rw [hc0] at HC0
              have HSPX : Hid (splS names.length (lvS t names nk) = (lvS t names nk)) := by unfold Hid; rw [HSP.out, hc0]; rfl
              have HCK := Lib.hid (splCheck_t (fun b => ¬ L b) W _ (names.length : Int) (lvS t names nk) HXI.out (by have := HXL.out; omega))
              clear hc0 HCM HSP
              generalize hse : splErr names.length (lvS t names nk) = se at *
              have HSEE := Lib.hid hse
              clear hse
              by_cases h0 : se = 0
              · have HSE : Hid (splErr names.length (lvS t names nk) = 0) := by unfold Hid; rw [HSEE.out]; exact h0
                subst h0
                gi_wp2_with (rw [Oper.semAt_eq _ _ _ (fun c h => by cases h)]; go_simp; try go_bits)
                refine ⟨trivial, (callsIn_wide.2 HC0.out).mono ?_⟩
                rintro e w' ⟨rfl, rfl⟩
                gi_wp2_with (rw [Oper.semAt_eq _ _ _ (fun c h => by cases h)]; go_simp; try go_bits)
                refine ⟨trivial, (callsIn_wide.2 HCK.out).mono ?_⟩
                rintro e w' ⟨rfl, rfl⟩
                have hIn := HI.out
                obtain ⟨ov, ps, e1, e2, _, e4, _, _, _⟩ := hIn.ex
                obtain ⟨oq, oc, rfl, _⟩ := e2.form (n := ps.length) (by simp)
                have HOV := Lib.hid e1
                have HOW := Lib.hid e2
                have HPL : Hid (ps.length ≤ 64) := Nat.le_trans e4 HPX.out
                have hbo : W.cell? ⟨w6.heap.size + 1, 0, none⟩ = some (.slice oq ps.length oc) := by simp [World.cell?, e1]
                have HSZ : Hid (w6.heap.size + 2 ≤ W.heap.size) := hIn.sz
                obtain ⟨i0, hi0, hz0, hz1, hz2⟩ := info_parts Tryz.infoSI3
                have how1 : W.ownsRow (w6.heap.size + 2) 26 1 (.slice oq ps.length oc) ps.length (ps.map (·.2)) := by have h := e2; unfold Owns at h; rwa [List.length_map] at h
                have HW1 := Lib.hid how1
                have hua := Up.alloc W (.cells #[.slice xp (lvS t names nk).length xc] 26)
                have HUA := Lib.hid hua
                clear e1 e2 e4 hIn how1 hua
                gi_wp2_with (first
                  | (gi_at_builtin; refine wpListIn_append_own_at _ rfl _ _ 22 rfl (w6.heap.size + 2) 26 i0 (.slice none 0 0) 1 24 Tryz.underlying22 hi0 hz0 hz1 hz2 rfl (by decide) _ _ _ rfl (HW1.out.alloc _) ⟨W.heap.size, 0, none⟩ 1 1 [.slice xp (lvS t names nk).length xc] rfl rfl (cell_one_new _ _ _) (by simp [Value.oneCell']) (by have := HPL.out; unfold maxLen; omega) (by have := HPL.out; omega) (by have h1 := HSZ.out; have h2 := HUA.out.size; omega) ?_
                     intro v3 w3 hown3 hg3 hnil3 hblk3
                     have hno3 : Owns (w6.heap.size + 2) 26 w3 v3 (ps.map (·.2) ++ [.slice xp (lvS t names nk).length xc]) := by unfold Owns; rw [List.length_append, List.length_map]; exact hown3
                     obtain ⟨vp3, vc3, rfl, _⟩ := hno3.form (n := ps.length + 1) (by simp)
                     have HNO3 := Lib.hid hno3
                     have HG3 : Hid (W.grownBy w3 (Value.slice oq ps.length oc).ownBlock) := grown_trans (grown_up HUA.out _) hg3
                     have HBK3 : Hid (∀ g, (Value.slice vp3 (ps.length + 1) vc3).ownBlock = some g → (Value.slice oq ps.length oc).ownBlock = some g ∨ W.heap.size ≤ g) := fun g hgg => by
                       rcases hblk3 with e | e
                       · exact .inl (e ▸ hgg)
                       · rw [e] at hgg; injection hgg with hgg; rw [← hgg]; exact .inr HUA.out.size
                     have hq3 : w3.heap[w6.heap.size + 1]? = some (Obj.cells #[.slice oq ps.length oc] 22 (0, 0)) := (HG3.out.block _ (by have := HSZ.out; omega) fun e => by have := (ownBlock_lt HOW.out e.symm).1; omega).trans HOV.out
                     have q3 : w3.cell? ⟨w6.heap.size + 1, 0, none⟩ = some (.slice oq ps.length oc) := by simp [World.cell?, hq3]
                     have q4 : ∀ o, w3.frozen? ⟨w6.heap.size + 1, o, none⟩ = false := fun o => by simp [World.frozen?, hq3]
                     clear hown3 hg3 hnil3 hblk3 hno3 hq3)
                  | (rw [Oper.semAt_eq _ _ _ (fun c h => by cases h)]; go_simp; try go_bits))
                exact HI.out.fin_push (B := w9.heap.size) (x := (nk, .slice xp (lvS t names nk).length xc)) (by have := H9.out.2; omega) HLL.out (Up.refl W) HXT.out (by rw [HSPX.out]; exact HSE.out) ⟨xp, xc, by rw [HSPX.out]⟩ (by rw [HSPX.out]; exact HXI.out) HXT.out HOV.out HOW.out HNO3.out HG3.out HBK3.out
              · have d1 : (se == 0) = false := by simpa using h0
                have HZ : Hid (splErr names.length (splS names.length (lvS t names nk)) ≠ 0) := by unfold Hid; rw [HSPX.out, HSEE.out]; exact h0
                clear h0
                gi_wp2_with (rw [Oper.semAt_eq _ _ _ (fun c h => by cases h)]; go_simp; try go_bits)
                refine ⟨trivial, (callsIn_wide.2 HC0.out).mono ?_⟩
                rintro e w' ⟨rfl, rfl⟩
                gi_wp2_with (rw [Oper.semAt_eq _ _ _ (fun c h => by cases h)]; go_simp; try go_bits)
                refine ⟨trivial, (callsIn_wide.2 HCK.out).mono ?_⟩
                rintro e w' ⟨rfl, rfl⟩
                gi_wp2_with (rw [Oper.semAt_eq _ _ _ (fun c h => by cases h)]; go_simp; try go_bits)
                exact HI.out.fin_pass (B := w9.heap.size) (x := (nk, .slice xp (lvS t names nk).length xc)) HLL.out (Up.refl W) HXT.out HZ.out
            · rw [hc0] at HC0
              have HSPX : Hid (splS names.length (lvS t names nk) = complL names.length (lvS t names nk)) := by unfold Hid; rw [HSP.out, hc0]; rfl
              have HYL : Hid ((complL names.length (lvS t names nk)).length ≤ 32) := by
                have h1 := memK_len (fun x => !(lvS t names nk).contains x) (names.length : Int).toNat
                have h2 := HOF.out.le
                unfold Hid complL; rw [Int.toNat_natCast] at h1 ⊢; omega
              clear hc0 HSP
              generalize hse : splErr names.length (complL names.length (lvS t names nk)) = se at *
              have HSEE := Lib.hid hse
              clear hse
              gi_wp2_with (rw [Oper.semAt_eq _ _ _ (fun c h => by cases h)]; go_simp; try go_bits)
              refine ⟨trivial, (callsIn_wide.2 HC0.out).mono ?_⟩
              rintro e w' ⟨rfl, rfl⟩
              gi_wp2_with (rw [Oper.semAt_eq _ _ _ (fun c h => by cases h)]; go_simp; try go_bits)
              refine ⟨trivial, (callsIn_wide.2 HCM.out).mono ?_⟩
              rintro e W2 ⟨hu2, u, rfl, ho2⟩
              obtain ⟨uq, uc, rfl, _⟩ := ho2.form (n := (complL names.length (lvS t names nk)).length) (by simp)
              have HU2W := Lib.hid hu2
              have HOU := Lib.hid ho2
              have HYI : Hid (IntsAt (fun b => ¬ L b) W2 (.slice uq (complL names.length (lvS t names nk)).length uc) (complL names.length (lvS t names nk))) := ho2.ints.sub fun b hb _ hb' => by have := HLL.out b hb'; omega
              have HCK := Lib.hid (splCheck_t (fun b => ¬ L b) W2 _ (names.length : Int) (complL names.length (lvS t names nk)) HYI.out (by have := HYL.out; omega))
              rw [HSEE.out] at HCK
              have hnb := hu2.cell HNB.out
              clear hu2 ho2 HC0 HCM
              by_cases h0 : se = 0
              · have HSE : Hid (splErr names.length (complL names.length (lvS t names nk)) = 0) := by unfold Hid; rw [HSEE.out]; exact h0
                subst h0
                gi_wp2_with (rw [Oper.semAt_eq _ _ _ (fun c h => by cases h)]; go_simp; try go_bits)
                refine ⟨trivial, (callsIn_wide.2 HCK.out).mono ?_⟩
                rintro e w' ⟨rfl, rfl⟩
                have hIn := HI.out.grow HLL.out HU2W.out
                obtain ⟨ov, ps, e1, e2, _, e4, _, _, _⟩ := hIn.ex
                obtain ⟨oq, oc, rfl, _⟩ := e2.form (n := ps.length) (by simp)
                have HOV := Lib.hid e1
                have HOW := Lib.hid e2
                have HPL : Hid (ps.length ≤ 64) := Nat.le_trans e4 HPX.out
                have hbo : W2.cell? ⟨w6.heap.size + 1, 0, none⟩ = some (.slice oq ps.length oc) := by simp [World.cell?, e1]
                have HSZ : Hid (w6.heap.size + 2 ≤ W2.heap.size) := hIn.sz
                obtain ⟨i0, hi0, hz0, hz1, hz2⟩ := info_parts Tryz.infoSI3
                have how1 : W2.ownsRow (w6.heap.size + 2) 26 1 (.slice oq ps.length oc) ps.length (ps.map (·.2)) := by have h := e2; unfold Owns at h; rwa [List.length_map] at h
                have HW1 := Lib.hid how1
                have hua := Up.alloc W2 (.cells #[.slice uq (complL names.length (lvS t names nk)).length uc] 26)
                have HUA := Lib.hid hua
                clear e1 e2 e4 hIn how1 hua
                gi_wp2_with (first
                  | (gi_at_builtin; refine wpListIn_append_own_at _ rfl _ _ 22 rfl (w6.heap.size + 2) 26 i0 (.slice none 0 0) 1 24 Tryz.underlying22 hi0 hz0 hz1 hz2 rfl (by decide) _ _ _ rfl (HW1.out.alloc _) ⟨W2.heap.size, 0, none⟩ 1 1 [.slice uq (complL names.length (lvS t names nk)).length uc] rfl rfl (cell_one_new _ _ _) (by simp [Value.oneCell']) (by have := HPL.out; unfold maxLen; omega) (by have := HPL.out; omega) (by have h1 := HSZ.out; have h2 := HUA.out.size; omega) ?_
                     intro v3 w3 hown3 hg3 hnil3 hblk3
                     have hno3 : Owns (w6.heap.size + 2) 26 w3 v3 (ps.map (·.2) ++ [.slice uq (complL names.length (lvS t names nk)).length uc]) := by unfold Owns; rw [List.length_append, List.length_map]; exact hown3
                     obtain ⟨vp3, vc3, rfl, _⟩ := hno3.form (n := ps.length + 1) (by simp)
                     have HNO3 := Lib.hid hno3
                     have HG3 : Hid (W2.grownBy w3 (Value.slice oq ps.length oc).ownBlock) := grown_trans (grown_up HUA.out _) hg3
                     have HBK3 : Hid (∀ g, (Value.slice vp3 (ps.length + 1) vc3).ownBlock = some g → (Value.slice oq ps.length oc).ownBlock = some g ∨ W2.heap.size ≤ g) := fun g hgg => by
                       rcases hblk3 with e | e
                       · exact .inl (e ▸ hgg)
                       · rw [e] at hgg; injection hgg with hgg; rw [← hgg]; exact .inr HUA.out.size
                     have hq3 : w3.heap[w6.heap.size + 1]? = some (Obj.cells #[.slice oq ps.length oc] 22 (0, 0)) := (HG3.out.block _ (by have := HSZ.out; omega) fun e => by have := (ownBlock_lt HOW.out e.symm).1; omega).trans HOV.out
                     have q3 : w3.cell? ⟨w6.heap.size + 1, 0, none⟩ = some (.slice oq ps.length oc) := by simp [World.cell?, hq3]
                     have q4 : ∀ o, w3.frozen? ⟨w6.heap.size + 1, o, none⟩ = false := fun o => by simp [World.frozen?, hq3]
                     clear hown3 hg3 hnil3 hblk3 hno3 hq3)
                  | (rw [Oper.semAt_eq _ _ _ (fun c h => by cases h)]; go_simp; try go_bits))
                exact HI.out.fin_push (B := w9.heap.size) (x := (nk, .slice xp (lvS t names nk).length xc)) (by have := H9.out.2; omega) HLL.out HU2W.out HXT.out (by rw [HSPX.out]; exact HSE.out) ⟨uq, uc, by rw [HSPX.out]⟩ (by rw [HSPX.out]; exact HYI.out) (fun g hg => by obtain ⟨c, h⟩ := Owns.typedV HOU.out hg; exact ⟨c, _, h⟩) HOV.out HOW.out HNO3.out HG3.out HBK3.out
              · have d1 : (se == 0) = false := by simpa using h0
                have HZ : Hid (splErr names.length (splS names.length (lvS t names nk)) ≠ 0) := by unfold Hid; rw [HSPX.out, HSEE.out]; exact h0
                clear h0
                gi_wp2_with (rw [Oper.semAt_eq _ _ _ (fun c h => by cases h)]; go_simp; try go_bits)
                refine ⟨trivial, (callsIn_wide.2 HCK.out).mono ?_⟩
                rintro e w' ⟨rfl, rfl⟩
                gi_wp2_with (rw [Oper.semAt_eq _ _ _ (fun c h => by cases h)]; go_simp; try go_bits)
                exact HI.out.fin_pass (B := w9.heap.size) (x := (nk, .slice xp (lvS t names nk).length xc)) HLL.out HU2W.out HXT.out HZ.out
          · rintro D xs L W hD hS hI hK
            have hHI := Lib.hid hI
            obtain ⟨ov, ps, e1, e2, e3, e4, e5, e6, e7⟩ := hI.ex
            have HUI := Lib.hid hI.up
            have hrw : RwS (w6.heap.size + 2) W ov ps := ⟨e2, e5, fun p hp => IntsAt.sub (e6 p hp) fun b hb _ => hb.1⟩
            have HTY : Hid (∀ p ∈ ps, IntsAt (TyI W) W p.2 p.1) := fun p hp => IntsAt.sub (e6 p hp) fun b hb _ => hb.2.2.2
            have hxl : xs.length ≤ 64 := by
              have h1 := congrArg List.length hS
              rw [List.length_map] at h1
              have h2 := pos_len HOF.out.te
              have h3 := (treeErr_zero HOF.out.te).2.1
              omega
            have hpl : ps.length ≤ 64 := Nat.le_trans e4 hxl
            have hrl : ∀ p ∈ ps, p.1.length ≤ 32 := fun p hp => by
              have h1 : p.1 ∈ rawP t names (xs.map (·.1)) := by rw [← e3]; exact List.mem_map.2 ⟨p, hp, rfl⟩
              have h2 := (splErr_zero.1 (of_decide_eq_true (List.mem_filter.1 h1).2)).len
              have h3 := HOF.out.le
              omega
            rw [hS] at e3
            obtain ⟨oq, oc, rfl, _⟩ := e2.form (n := ps.length) (by simp)
            have hso := sortRows_m (cf := cmpL) cmpL_self (fun h => cmpL_zero h) cmpL_anti (fun h k => cmpL_trans h k) 24 #[] (enters_of Tryz.func24 (by kernel_rfl) rfl) hrw (by omega) (fun p hp q hq W' hW' => by
              have hk : ∀ s ∈ ps, IntsAt Any W' s.2 s.1 := fun s hs => (SlAt.keep (hrw.row s hs) fun b hb hbl => hW'.block b hbl fun e => hb e.symm).sub fun _ _ _ => trivial
              exact (cmpL_t Any Any W' p.2 q.2 p.1 q.1 (hk p hp) (hk q hq) (by have := hrl p hp; omega) (by have := hrl q hq; omega)).mono fun e w' ⟨he, hw⟩ => ⟨he, by rw [← hw]; exact grow_same W'⟩)
            have HSO := Lib.hid hso
            have HE3 := Lib.hid e3
            have HPL : Hid (ps.length ≤ 64) := hpl
            have HRL : Hid (∀ p ∈ ps, p.1.length ≤ 32) := hrl
            have hbo : W.cell? ⟨w6.heap.size + 1, 0, none⟩ = some (.slice oq ps.length oc) := by simp [World.cell?, e1]
            have HE1 := Lib.hid e1
            have HE2 := Lib.hid e2
            have HK := Lib.hid hK
            have HISZ := Lib.hid hI.sz
            clear e1 e2 e3 e4 e5 e6 e7 hrw hso hpl hrl hxl hI hS hK
            gi_wp2_with fail
            refine ⟨trivial, (callsIn_wide.2 HSO.out).mono ?_⟩
            rintro e w10 ⟨rfl, hg10, ps10, hp10, hs10, hr10, hm10⟩
            have HTY10 : Hid (∀ p ∈ ps10, IntsAt (TyI w10) w10 p.2 p.1) := fun p hp => tyi_keep (HTY.out p (hm10 p hp)) hg10 (own_notI HE2.out)
            have hD10 : w10.heap[D]? = some (.deferred (some [])) := (hg10.block D (Array.getElem?_eq_some_iff.1 HK.out).1 fun e => by
              obtain ⟨c, h⟩ := Owns.typedV HE2.out e.symm
              rw [HK.out] at h; injection h with h; cases h).trans HK.out
            have hb10 : w10.heap[w6.heap.size + 1]? = some (Obj.cells #[.slice oq ps.length oc] 22 (0, 0)) := (hg10.block _ (by have := HISZ.out; omega) fun e => by have := (ownBlock_lt HE2.out e.symm).1; omega).trans HE1.out
            have hbo := (show w10.cell? ⟨w6.heap.size + 1, 0, none⟩ = some (.slice oq ps.length oc) by simp [World.cell?, hb10])
            have hu10 : Up w6 w10 := Below.grown HUI.out hg10 HUI.out.size fun k hk => by have := (ownBlock_lt HE2.out hk).1; omega
            have hl10 : ps10.length = ps.length := by have := hp10.length_eq; simpa using this
            have hrl10 : ∀ p ∈ ps10, p.1.length ≤ 32 := fun p hp => by
              obtain ⟨q, hq, e⟩ := List.mem_map.1 (hp10.mem_iff.1 (List.mem_map.2 ⟨p, hp, rfl⟩))
              rw [← e]; exact HRL.out q hq
            have HCO := Lib.hid (compactRows_m hr10 (by have := HPL.out; omega) (fun p hp => by have := hrl10 p hp; omega))
            have HR10 := Lib.hid hr10
            have HD10 := Lib.hid hD10
            have HU10 := Lib.hid hu10
            have HCP : Hid (cptX (ps10.map (·.1)) = splO t names) := by
              rw [HE3.out] at hp10
              exact of_sorted HOF.out hp10 hs10
            clear hg10 hp10 hs10 hr10 hm10 hD10 hb10 hu10 hl10 hrl10 HSO
            gi_wp2_with fail
            refine ⟨trivial, (callsIn_wide.2 HCO.out).mono ?_⟩
            rintro e w11 ⟨hg11, v11, ps11, rfl, hp11, hr11, hm11⟩
            have HTY11 : Hid (∀ p ∈ ps11, IntsAt (TyI w11) w11 p.2 p.1) := fun p hp => tyi_keep (HTY10.out p (hm11 p hp)) hg11 (own_notI HR10.out.own)
            have hD11 : w11.heap[D]? = some (.deferred (some [])) := (hg11.block D (Array.getElem?_eq_some_iff.1 HD10.out).1 fun e => by
              obtain ⟨c, h⟩ := Owns.typedV HR10.out.own e.symm
              rw [HD10.out] at h; injection h with h; cases h).trans HD10.out
            have hu11 : Up w6 w11 := Below.grown HU10.out hg11 HU10.out.size fun k hk => by have := (ownBlock_lt HR10.out.own hk).1; omega
            rw [HCP.out] at hp11
            have HP11 := Lib.hid hp11
            have HR11 := Lib.hid hr11
            have HU11 := Lib.hid hu11
            have HD11 := Lib.hid hD11
            clear hg11 hp11 hr11 hm11 hu11 hD11 HCO hbo
            gi_wp2_with fail
            have hq : ∀ b, b ≠ D → (w11.putObj D (.deferred none)).heap[b]? = w11.heap[b]? := fun b hb => World.putObj_heap_other hb
            have hu := HU6.out.trans HU11.out
            have hws := HU6.out.size
            have hw9 := H9.out.2
            obtain ⟨f, hf1, hf2⟩ := HR11.out.rowsT HTY11.out
            rw [HP11.out] at hf1 hf2
            have hgd : w11.grownBy (w11.putObj D (.deferred none)) (some D) := grownBy_putObj' w11 D _
            have hrd : ∀ r, some D = some r → ∃ o, w11.heap[r]? = some o ∧ o.isCells = false := fun r e => by injection e with e; subst e; exact ⟨_, HD11.out, rfl⟩
            refine ⟨by simp, .inl ⟨_, _, rfl, run_takeDeferred HD11.out, ?_⟩⟩
            exact ⟨.tuple #[v11, .int .i64 0], by simp [results, Tryz.results22, go_sem], ⟨hu.os, hu.tape, hu.output, by have h := hu.size; simpa using h, fun b hb => (hq b (by omega)).trans (hu.block b hb)⟩, v11, by rw [HZ.out], f, (SlAt.grown hf1 hgd hrd).sub (fun b hb _ => by have : w6.heap.size + 2 ≤ b := hb; omega), fun k hk => tyi_keep (hf2 k hk) hgd fun r e ht => by
              obtain ⟨o, h1, h2⟩ := hrd r e
              obtain ⟨c, z, h3⟩ := ht
              rw [h3] at h1; injection h1 with h1; subst h1; cases h2⟩
        · rw [hof] at HCF
          have HZ : Hid (splOErr t names = 9) := by unfold Hid; rw [HE3.out, if_pos (.inr hof)]
          clear hof
          gi_wp2_with fail
          refine ⟨trivial, (callsIn_wide.2 HCF.out).mono ?_⟩
          rintro e w6 ⟨rfl, nq, rfl⟩
          gi_wp2_with fail
          exact ⟨.tuple #[.slice none 0 0, .int .i64 9], by simp [results, Tryz.results22, go_sem], of_bad HZ.out (by decide) (HUo.out.trans (Up.drewN _ _))⟩
      · have HZ : Hid (splOErr t names = 9) := by unfold Hid; rw [HE3.out, if_pos (.inl hln)]
        have d1 : (((leavesL t.ns).length : Int) == (names.length : Int)) = false := beq_eq_false_iff_ne.2 (by omega)
        have d2 : (((leavesL t.ns).length : Int) != (names.length : Int)) = true := by rw [bne, d1]; rfl
        clear hln
        gi_wp2_with fail
        rename_i hkk
        refine ⟨trivial, hkk _ _ ?_⟩
        gi_wp2_with fail
        exact ⟨.tuple #[.slice none 0 0, .int .i64 9], by simp [results, Tryz.results22, go_sem], of_bad HZ.out (by decide) HUo.out⟩
theorem splOf_t (S : Nat → Prop) (w : World) (v vs : Value) (t : Tre) (names : List ByteArray) (hT : TreeAt S w v t) (hV : StrsAt S w vs names) (hp : t.ps.length ≤ 1000000) (hn : t.ns.length ≤ 1000000) (hz : ∀ k, (gs t.ns k).size ≤ 70000) (hnl : names.length ≤ 1000000) :
    Calls Tryz.prog 22 #[v, vs] w (OfPost w t names) := (splOfT_t S w v vs t names hT hV hp hn hz hnl).mono fun _ _ ⟨h1, u, h2, f, h3, h4⟩ => ⟨h1, u, h2, f, h3.sub fun _ _ _ => trivial, fun k hk => (h4 k hk).sub fun _ _ _ => trivial⟩
end Go.Proofs.YtpjijbophjdgaaaGreat
