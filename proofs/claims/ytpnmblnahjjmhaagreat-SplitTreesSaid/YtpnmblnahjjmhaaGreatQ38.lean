/- The contract of split.Of. -/
import Derived.Test.YtpnmblnahjjmhaaGreatQ1
import Derived.RangeFuncLeaves
import Derived.Test.YtpnmblnahjjmhaaGreatQ35
import Derived.Test.YtpnmblnahjjmhaaGreatQ36
import Derived.Test.YtpnmblnahjjmhaaGreatQ13
import Derived.Test.YtpnmblnahjjmhaaGreatQ12
import Derived.Test.YtpnmblnahjjmhaaGreatQ28
import Derived.Test.YtpnmblnahjjmhaaGreatQ34
import Derived.Test.YtpnmblnahjjmhaaGreatQ2
set_option maxRecDepth 100000
namespace Go.Proofs.YtpnmblnahjjmhaaGreat
open Go.RowKit Go.Deep Go.Shelf
def nW (w : World) (t : aA) (names : List ByteArray) (e : Ending) (w' : World) : Prop := Up w w' ∧ ∃ u, e = .returned (.tuple #[u, .int .i64 (aL t names)]) ∧ aJ Any w' u (az t names)
def K2 (w : World) (t : aA) (names : List ByteArray) (e : Ending) (w' : World) : Prop := Up w w' ∧ ∃ u, e = .returned (.tuple #[u, .int .i64 (aL t names)]) ∧ ∃ f, av (fun b => w.heap.size ≤ b) w' u (az t names).length f ∧ ∀ k, k < (az t names).length → af (pV w') w' (f k) (gl (az t names) k)
theorem ye {w w' : World} {t : aA} {names : List ByteArray} {c : Int} (hE : aL t names = c) (hc : c ≠ 0) (hu : Up w w') : K2 w t names (.returned (.tuple #[.slice none 0 0, .int .i64 c])) w' := by
 refine ⟨hu, .slice none 0 0, by rw [hE], ?_⟩
 have h0 : az t names = [] := by
  unfold az
  rw [if_neg (by rw [hE]; exact hc)]
 rw [h0]
 exact ⟨fun _ => undef, ⟨none, 0, rfl, Nat.le_refl _, .inl rfl⟩, fun k hk => absurd hk (Nat.not_lt_zero _)⟩
set_option maxHeartbeats 4000000 in
theorem S2 (S : Nat → Prop) (w : World) (v vs : Value) (t : aA) (names : List ByteArray) (hT : aG S w v t) (hV : ay S w vs names) (hp : t.ps.length ≤ 1000000) (hn : t.ns.length ≤ 1000000) (hz : ∀ k, (gs t.ns k).size ≤ 70000) (hnl : names.length ≤ 1000000) :
    Calls Tryz.prog 23 #[v, vs] w (K2 w t names) := by
  have HE : Hid (aL t names = if aB t ≠ 0 then 1 else if 32 < names.length then 4 else if rW names then 7 else if (aV t.ns).length ≠ names.length ∨ nT t names = true then 9 else 0) := rfl
  obtain ⟨P, N, rfl, hP, hN⟩ := hT
  obtain ⟨pp, pc, rfl, -, -⟩ := av.open hP
  obtain ⟨np, nc, rfl, -, -⟩ := av.open hN
  obtain ⟨mp, mc, rfl, -, -⟩ := av.open hV
  have hP : af S w (.slice pp t.ps.length pc) t.ps := hP
  have hN : ay S w (.slice np t.ns.length nc) t.ns := hN
  have HV : Hid (ay S w (.slice mp names.length mc) names) := hV
  have hu := Up.alloc w (.cells #[.slice pp t.ps.length pc, .slice np t.ns.length nc] 39)
  have gm := aa (cB w (.slice pp t.ps.length pc) (.slice np t.ns.length nc) 39)
  have gz := aa (cI w (.slice pp t.ps.length pc) (.slice np t.ns.length nc) 39)
  have HU := aa hu
  have HP := aa hP
  have HN := aa hN
  have HLV : Hid (∀ W, Up w W → Calls Tryz.prog 49 #[.agg #[.slice pp t.ps.length pc, .slice np t.ns.length nc]] W (NG W t)) := fun W hW => Q5 S W _ t (aG.keep ⟨_, _, rfl, hP, hN⟩ (hW.kept _)) hp hn hz
  clear hu hP hN hV
  refine (callsIn_wide (n := 9)).1 ?_
  refine callsIn_of_wp_marks Tryz.func23 rfl trivial ?_
  simp only [Tryz.ntmps23, List.size_toArray, List.length_cons, List.length_nil, Nat.reduceAdd, Nat.reduceSub, Array.replicate_succ, Array.replicate_zero, List.push_toArray, List.append_toArray, List.nil_append, List.cons_append]
  gi_wp2_with fail
  generalize w.alloc (.cells #[.slice pp t.ps.length pc, .slice np t.ns.length nc] 39) = w1 at *
  refine ⟨trivial, (callsIn_wide.2 (HLV.out w1 HU.out)).mono ?_⟩
  rintro e w2 ⟨aC, hcc⟩
  have aC : Up w1 w2 := aC
  have bU := aa (HU.out.trans aC)
  have MS := aa (aC.cell gm.out)
  have MT := aa (aC.cell gz.out)
  clear aC HLV HU gm gz
  rcases hcc with ⟨pY, rfl⟩ | ⟨hok, lv, rfl, hlv⟩
  · have HZ : Hid (aL t names = 1) := by unfold Hid; rw [HE.out, if_pos pY]
    have d1 : (aB t == 0) = false := by simpa using pY
    have d2 : (aB t != 0) = true := by simpa using pY
    clear pY
    gi_wp2_with fail
    exact ⟨.tuple #[.slice none 0 0, .int .i64 1], by simp [results, Tryz.results23, go_sem], ye HZ.out (by decide) bU.out⟩
  obtain ⟨lp, lc, rfl, -, -⟩ := av.open hlv
  have UQ : Hid (af Any w2 (.slice lp (aV t.ns).length lc) (aV t.ns)) := af.sub hlv fun _ _ _ => trivial
  have fI := aa hok
  clear hlv
  by_cases h32 : 32 < names.length
  · have HZ : Hid (aL t names = 4) := by unfold Hid; rw [HE.out, if_neg (fun e => e hok), if_pos h32]
    clear hok
    gi_wp2_with fail
    exact ⟨.tuple #[.slice none 0 0, .int .i64 4], by simp [results, Tryz.results23, go_sem], ye HZ.out (by decide) bU.out⟩
  have jZ : Hid (aL t names = if rW names then 7 else if (aV t.ns).length ≠ names.length ∨ nT t names = true then 9 else 0) := by unfold Hid; rw [HE.out, if_neg (fun e => e hok), if_neg h32]
  have n32 : (names.length : Int) ≤ 32 := by omega
  have hmm := fun W => run_makeMap (P := Tryz.prog) 114 W
  clear hok HE
  gi_wp2_with fail
  have h3m : Up w2 ((w2.alloc (.map #[] 0)).alloc (.cells #[.map (some w2.heap.size)] 114)) := (Up.alloc _ _).trans (Up.alloc _ _)
  have h3s : SMap ((w2.alloc (.map #[] 0)).alloc (.cells #[.map (some w2.heap.size)] 114)) w2.heap.size (smK names 0) := (SMap.made w2).same (Below.block (Up.alloc (w2.alloc (.map #[] 0)) _) _ (by simp))
  have h3b : ((w2.alloc (.map #[] 0)).alloc (.cells #[.map (some w2.heap.size)] 114)).cell? ⟨w2.heap.size + 1, 0, none⟩ = some (.map (some w2.heap.size)) := by
    have h := gG (w2.alloc (.map #[] 0)) (.map (some w2.heap.size)) 114
    rwa [World.size_alloc] at h
  have H3 := aa (⟨h3m, h3s, h3b⟩ : _ ∧ _ ∧ _)
  have d32 : decide ((32 : Int) < (names.length : Int)) = false := decide_eq_false (by omega)
  try simp only [d32]
  clear h3m h3s h3b hmm d32
  generalize (w2.alloc (.map #[] 0)).alloc (.cells #[.map (some w2.heap.size)] 114) = w3 at *
  have K3 := aa (ay.keep HV.out (bU.out.kept _))
  have UU : Hid (∀ k, cZ names k = tR names k (gs names k)) := fun k => rfl
  gi_loopw [10, 29] (fun _ i wr => ∃ k : Nat, k ≤ names.length ∧ i = .int .i64 k ∧ Hid (SMap wr w2.heap.size (smK names k)) ∧ Hid (Up w2 wr) ∧ Hid (wr.cell? ⟨w2.heap.size + 1, 0, none⟩ = some (.map (some w2.heap.size))) ∧ Hid (∀ j, j < k → cZ names j = false)) (fun _ i _ => names.length - (intOf i).toNat)
  case atStart => exact ⟨0, Nat.zero_le _, rfl, H3.out.2.1, H3.out.1, H3.out.2.2, fun j hj => absurd hj (Nat.not_lt_zero _)⟩
  case round =>
    obtain ⟨k, hk, rfl, hM, bL, hB, hno⟩ := hrel
    obtain ⟨wo, rfl⟩ : ∃ wo : World, wo = wr := ⟨_, rfl⟩
    have b8 := hB.out
    by_cases hlt : k < names.length
    · obtain ⟨b, off, rfl, hcell⟩ := cC (ay.keep K3.out (bL.out.kept _)) hlt
      have i1 : (0 : Int) ≤ (k : Int) := by omega
      have i2 : (k : Int) < (names.length : Int) := by omega
      have i3 : (k : Int) < 64 := by omega
      have HMS : Hid (smK names (k + 1) = rM (smK names k) (gs names k) (.bool true)) := rfl
      have qf := aa (UU.out k)
      have hlk : (Instr.lookup 114 (.map (some w2.heap.size)) (.string (gs names k)) false).run Tryz.prog wo = .ok (.bool (tR names k (gs names k))) wo := by
        have h := D3 (P := Tryz.prog) Tryz.underlying114 Tryz.underlying9 (Ez _) hM.out (gs names k)
        rw [Aq] at h
        exact h
      generalize gs names k = s at *
      generalize tR names k s = q at *
      cases q
      · obtain ⟨w5, hrun, hm5, hs5, uE, ht5, Y9, K4⟩ := R3 (P := Tryz.prog) Tryz.underlying114 Tryz.underlying9 hM.out (H6 names k) s (.bool true)
        have HM5 : Hid (SMap w5 w2.heap.size (smK names (k + 1))) := by unfold Hid; rw [HMS.out]; exact hm5
        have gH : Hid (Up w2 w5) := ⟨uE.trans bL.out.os, ht5.trans bL.out.tape, Y9.trans bL.out.output, by rw [hs5]; exact bL.out.size, fun b hb => (K4 b (by omega)).trans (bL.out.block b hb)⟩
        have HB5 : Hid (w5.cell? ⟨w2.heap.size + 1, 0, none⟩ = some (.map (some w2.heap.size))) := (World.cell?_of_block (a := ⟨w2.heap.size + 1, 0, none⟩) (K4 (w2.heap.size + 1) (by omega))).trans hB.out
        have ow : Hid (∀ j, j < k + 1 → cZ names j = false) := fun j hj => by
          by_cases e : j = k
          · rw [e]; exact qf.out
          · exact hno.out j (by omega)
        clear hm5 hs5 uE ht5 Y9 K4 hM bL hB hno
        gi_wp2_with fail
        go_roundw
        case rel => exact ⟨k + 1, by omega, by go_num, HM5, gH, HB5, ow⟩
        case measure => simp [intOf]; omega
      · have HZ : Hid (aL t names = 7) := by
          unfold Hid
          rw [jZ.out, show rW names = true from List.any_eq_true.2 ⟨k, List.mem_range.2 hlt, qf.out⟩, if_pos rfl]
        gi_wp2_with fail
        exact ⟨.tuple #[.slice none 0 0, .int .i64 7], by simp [results, Tryz.results23, go_sem], ye HZ.out (by decide) (bU.out.trans bL.out)⟩
    · obtain rfl : k = names.length := by omega
      have Ii : Hid (aL t names = if (aV t.ns).length ≠ names.length ∨ nT t names = true then 9 else 0) := by
        unfold Hid
        rw [jZ.out, show rW names = false from any_none hno.out, if_neg (by decide)]
      have gF := aa (bU.out.trans bL.out)
      clear hlt hk jZ hno UU K3 H3
      by_cases oo : (aV t.ns).length = names.length
      · have d1 : (((aV t.ns).length : Int) == (names.length : Int)) = true := by rw [oo]; simp
        have d2 : (((aV t.ns).length : Int) != (names.length : Int)) = false := by rw [bne, d1]; rfl
        have HLNE := aa oo
        have HIo : Hid (af Any wo (.slice lp (aV t.ns).length lc) (aV t.ns)) := af.keep UQ.out (bL.out.kept _)
        have hb1 := bL.out.cell MT.out
        have K5 := aa (MM 100 #[.pointer (some ⟨w2.heap.size + 1, 0, none⟩), .pointer (some ⟨w.heap.size, 0, none⟩)] (enters_of Tryz.func100 (by kernel_rfl) rfl) Any wo _ (aV t.ns).length (fun k => .int .i64 (gi (aV t.ns) k)) (fun j => decide (eR names (gs t.ns (gi (aV t.ns) j).toNat) < 0)) HIo.out (by have := Ju t.ns; omega) (fun k hk => by
          obtain ⟨q, h1, h2, _⟩ := Q2 hk
          simp only [h1, Int.toNat_natCast]
          exact of1_t wo S (w2.heap.size + 1) w.heap.size w2.heap.size np nc t.ns names q b8 hM.out hb1 (ay.keep HN.out (gF.out.kept _)) h2))
        have HOB : Hid (((List.range (aV t.ns).length).any fun j => decide (eR names (gs t.ns (gi (aV t.ns) j).toNat) < 0)) = nT t names) := rfl
        rw [HOB.out] at K5
        have Za := aa (bL.out.cell MS.out)
        have Zb := aa hb1
        clear oo hb1 hM bL hB MS MT UQ HOB b8
        cases mV : nT t names
        · rw [mV] at K5 Ii
          have HZ : Hid (aL t names = 0) := by unfold Hid; rw [Ii.out, if_neg]; exact fun e => e.elim (fun e => e HLNE.out) (fun e => by cases e)
          have fJ := aa (mW.1 HZ.out)
          clear mV Ii
          gi_wp2_with fail
          refine ⟨trivial, (callsIn_wide.2 K5.out).mono ?_⟩
          rintro e w6 ⟨rfl, nq, hw6⟩
          have gp : Up wo w6 := by rw [hw6]; exact Up.drewN wo nq
          have lD := aa (gF.out.trans gp)
          have b0 := gp.cell Za.out
          have b1 := gp.cell Zb.out
          have HB60 := aa b0
          have HB61 := aa b1
          clear hw6 gp K5 Za Zb gF
          obtain ⟨t1, t2, t3⟩ := kO w6 (.int .i64 (names.length : Int)) (.slice none 0 0) 3 23
          have Zc := blk_alloc_new (w6.alloc (.cells #[.int .i64 (names.length : Int)] 3)) (.cells #[.slice none 0 0] 23)
          have hn6 := (Below.block (Up.alloc (w6.alloc (.cells #[.int .i64 (names.length : Int)] 3)) (.cells #[.slice none 0 0] 23)) w6.heap.size (by simp)).trans (blk_alloc_new w6 (.cells #[.int .i64 (names.length : Int)] 3))
          have Ij : ((w6.alloc (.cells #[.int .i64 (names.length : Int)] 3)).alloc (.cells #[.slice none 0 0] 23)).heap.size = w6.heap.size + 2 := by simp
          rw [World.size_alloc] at Zc
          have b0 := t1.cell b0
          have b1 := t1.cell b1
          have H7 := aa (⟨t1, hn6, Zc, Ij⟩ : _ ∧ _ ∧ _ ∧ _)
          clear t1 t2 t3 hn6 Zc Ij HB60 HB61
          gi_wp2_with fail
          generalize (w6.alloc (.cells #[.int .i64 (names.length : Int)] 3)).alloc (.cells #[.slice none 0 0] 23) = w7 at *
          refine ⟨trivial, (callsIn_wide.2 (SR w7 _ _ _ _ _)).mono ?_⟩
          rintro e w9 ⟨rfl, Ci⟩
          have Cj : Up w7 w9 := by rw [Ci]; exact (Up.alloc _ _).trans (Up.alloc _ _)
          have hs9 : w9.heap.size = w7.heap.size + 2 := by rw [Ci]; simp
          have Zd := (Up.alloc (w7.alloc (.cells #[.slice pp t.ps.length pc, .slice np t.ns.length nc] 39)) (.cells #[.slice mp names.length mc] 22))
          have hc0 := Zd.cell (cB w7 (.slice pp t.ps.length pc) (.slice np t.ns.length nc) 39)
          have hc1 := Zd.cell (cI w7 (.slice pp t.ps.length pc) (.slice np t.ns.length nc) 39)
          have hc2 := gG (w7.alloc (.cells #[.slice pp t.ps.length pc, .slice np t.ns.length nc] 39)) (.slice mp names.length mc) 22
          rw [World.size_alloc] at hc2
          rw [← Ci] at hc0 hc1 hc2
          have hP6 : af Any w6 (.slice pp t.ps.length pc) t.ps := af.sub (af.keep HP.out (lD.out.kept _)) fun _ _ _ => trivial
          have hN6 : ay Any w6 (.slice np t.ns.length nc) t.ns := ay.sub (ay.keep HN.out (lD.out.kept _)) fun _ _ _ => trivial
          have hV6 : ay Any w6 (.slice mp names.length mc) names := ay.sub (ay.keep HV.out (lD.out.kept _)) fun _ _ _ => trivial
          have h67 := H7.out.2.2.2
          have zN : Up w6 w9 := H7.out.1.trans Cj
          have hI0 : j0 w6 t names [] (fun b => b = w7.heap.size ∨ b = w7.heap.size + 1) w9 := ⟨zN, by omega, fun b hb => by omega, ⟨by omega, by omega⟩, (Below.block Cj _ (by omega)).trans H7.out.2.1, .slice none 0 0, [], (Below.block Cj _ (by omega)).trans H7.out.2.2.1, ah.nil _ _ _, rfl, Nat.le_refl _, (fun p hp => by cases hp), (fun p hp => by cases hp), fun g hg => by cases hg⟩
          have hseq := MN (w0 := w6) (w9 := w9) (Bt := w7.heap.size) (Bn := w7.heap.size + 1) 8 fJ.out (by omega) (by omega) hc0 hc1 hc2 hP6 hN6 hV6
          have H9 := aa (⟨zN, hs9, h67⟩ : _ ∧ _ ∧ _)
          clear Ci Cj Zd hc0 hc1 hc2 hP6 hN6 hV6 b0 b1 H7 h67 hs9 zN
          gi_wp2_with fail
          apply JN (F := Fence.wide) (n := 9) (P := Tryz.prog) (ps := #[54]) (w := w9) rfl (by omega) (gf := 168) (lb := #[.pointer (some ⟨w7.heap.size, 0, none⟩), .pointer (some ⟨w7.heap.size + 1, 0, none⟩)]) rfl trivial (enters_of Tryz.func168 (by kernel_rfl) rfl)
            hseq (fun b hb => by have := H9.out.2.1; omega) (fun x L W b h1 h2 => Y6 x L W b h1 h2) H9.out.1 (fun _ => rfl) (fun x L => VX x L)
            (j0 w6 t names) j0.ab (j0.own (by have := H9.out.2; omega)) hI0
          · intro l x W K hK
            gi_wp2_with (rw [Oper.semAt_eq _ _ _ (fun c h => by cases h)]; go_simp; try go_bits)
            exact hK
          · rintro l pre ⟨nk, v⟩ L W hI hG fu KM hlen
            obtain ⟨hx1, hx2, xp, xc, Dq, PT, Ze⟩ := hG
            dsimp only at hx1 hx2 Dq PT Ze
            subst Dq
            have HI := aa hI
            have sj : Hid (af (fun b => ¬ L b) W (.slice xp (aN t names nk).length xc) (aN t names nk)) := PT
            have Ei := aa Ze
            have dr : Hid (∀ b, L b → b < W.heap.size) := fun b hb => (KM b hb).2
            have S3 : Hid (cz (aN t names nk)) := ⟨oK _ _ _, fun x hx => by have h1 := gY.1 hx; have h2 := fJ.out.le; omega⟩
            have wG : Hid ((aN t names nk).length ≤ 32) := Nat.le_trans (ja _ _) fJ.out.le
            have HPX : Hid (pre.length ≤ 64) := by have := (aH fJ.out.te).2.1; unfold Hid; omega
            have gD : Hid (aU names.length (aN t names nk) = if (aN t names nk).contains 0 then aS names.length (aN t names nk) else (aN t names nk)) := rfl
            have hnb : W.cell? ⟨w6.heap.size, 0, none⟩ = some (.int .i64 (names.length : Int)) := by simp [World.cell?, hI.nb]
            have lQ := aa hnb
            have iE : Hid (Calls Tryz.prog 17 #[.slice xp (aN t names nk).length xc, .int .i64 0] W fun e w' => e = .returned (.bool ((aN t names nk).contains 0)) ∧ W = w') := by
              have h := uA (fun b => ¬ L b) W _ (aN t names nk) 0 PT (by have := wG.out; omega)
              rw [x9] at h; exact h
            have nG : Hid (Calls Tryz.prog 102 #[.int .i64 (names.length : Int), .slice xp (aN t names nk).length xc] W fun e w' => Up W w' ∧ ∃ u, e = .returned (.tuple #[u, .int .i64 0]) ∧ ah W.heap.size 3 w' u ((aS names.length (aN t names nk)).map (Value.int .i64))) := Hw (fun b => ¬ L b) W _ names.length (aN t names nk) (by have := fJ.out.le; omega) PT S3.out (fun x hx => (gY.1 hx).2.1) (by have := wG.out; omega)
            clear hI PT Ze fu KM hlen hx1 hx2
            cases hc0 : (aN t names nk).contains 0
            · rw [hc0] at iE
              have vJ : Hid (aU names.length (aN t names nk) = (aN t names nk)) := by unfold Hid; rw [gD.out, hc0]; rfl
              have e9 := aa (nS (fun b => ¬ L b) W _ (names.length : Int) (aN t names nk) sj.out (by have := wG.out; omega))
              clear hc0 nG gD
              generalize Ep : aF names.length (aN t names nk) = se at *
              have kF := aa Ep
              clear Ep
              by_cases h0 : se = 0
              · have gJ : Hid (aF names.length (aN t names nk) = 0) := by unfold Hid; rw [kF.out]; exact h0
                subst h0
                gi_wp2_with (rw [Oper.semAt_eq _ _ _ (fun c h => by cases h)]; go_simp; try go_bits)
                refine ⟨trivial, (callsIn_wide.2 iE.out).mono ?_⟩
                rintro e w' ⟨rfl, rfl⟩
                gi_wp2_with (rw [Oper.semAt_eq _ _ _ (fun c h => by cases h)]; go_simp; try go_bits)
                refine ⟨trivial, (callsIn_wide.2 e9.out).mono ?_⟩
                rintro e w' ⟨rfl, rfl⟩
                have hIn := HI.out
                obtain ⟨ov, ps, e1, e2, _, e4, _, _, _⟩ := hIn.ex
                obtain ⟨oq, oc, rfl, _⟩ := e2.form (n := ps.length) (by simp)
                have EC := aa e1
                have HOW := aa e2
                have dD : Hid (ps.length ≤ 64) := Nat.le_trans e4 HPX.out
                have xA : W.cell? ⟨w6.heap.size + 1, 0, none⟩ = some (.slice oq ps.length oc) := by simp [World.cell?, e1]
                have cO : Hid (w6.heap.size + 2 ≤ W.heap.size) := hIn.sz
                obtain ⟨i0, fP, hz0, hz1, hz2⟩ := info_parts Tryz.gB
                have rZ : W.ownsRow (w6.heap.size + 2) 26 1 (.slice oq ps.length oc) ps.length (ps.map (·.2)) := by have h := e2; unfold ah at h; rwa [List.length_map] at h
                have Ht := aa rZ
                have lZ := Up.alloc W (.cells #[.slice xp (aN t names nk).length xc] 26)
                have kR := aa lZ
                clear e1 e2 e4 hIn rZ lZ
                gi_wp2_with (first
                  | (gi_at_builtin; refine wpListIn_append_own_at _ rfl _ _ 23 rfl (w6.heap.size + 2) 26 i0 (.slice none 0 0) 1 24 Tryz.underlying23 fP hz0 hz1 hz2 rfl (by decide) _ _ _ rfl (Ht.out.alloc _) ⟨W.heap.size, 0, none⟩ 1 1 [.slice xp (aN t names nk).length xc] rfl rfl (cell_one_new _ _ _) (by simp [Value.oneCell']) (by have := dD.out; unfold maxLen; omega) (by have := dD.out; omega) (by have h1 := cO.out; have h2 := kR.out.size; omega) ?_
                     intro v3 w3 k9 hg3 hnil3 Ck
                     have Av : ah (w6.heap.size + 2) 26 w3 v3 (ps.map (·.2) ++ [.slice xp (aN t names nk).length xc]) := by unfold ah; rw [List.length_append, List.length_map]; exact k9
                     obtain ⟨Zf, Zg, rfl, _⟩ := Av.form (n := ps.length + 1) (by simp)
                     have S4 := aa Av
                     have jo : Hid (W.grownBy w3 (Value.slice oq ps.length oc).ownBlock) := gh (kL kR.out _) hg3
                     have S5 : Hid (∀ g, (Value.slice Zf (ps.length + 1) Zg).ownBlock = some g → (Value.slice oq ps.length oc).ownBlock = some g ∨ W.heap.size ≤ g) := fun g sg => by
                       rcases Ck with e | e
                       · exact .inl (e ▸ sg)
                       · rw [e] at sg; injection sg with sg; rw [← sg]; exact .inr kR.out.size
                     have zO : w3.heap[w6.heap.size + 1]? = some (Obj.cells #[.slice oq ps.length oc] 23 (0, 0)) := (jo.out.block _ (by have := cO.out; omega) fun e => by have := (ax HOW.out e.symm).1; omega).trans EC.out
                     have q3 : w3.cell? ⟨w6.heap.size + 1, 0, none⟩ = some (.slice oq ps.length oc) := by simp [World.cell?, zO]
                     have q4 : ∀ o, w3.frozen? ⟨w6.heap.size + 1, o, none⟩ = false := fun o => by simp [World.frozen?, zO]
                     clear k9 hg3 hnil3 Ck Av zO)
                  | (rw [Oper.semAt_eq _ _ _ (fun c h => by cases h)]; go_simp; try go_bits))
                exact HI.out.Ib (B := w9.heap.size) (x := (nk, .slice xp (aN t names nk).length xc)) (by have := H9.out.2; omega) dr.out (Up.refl W) Ei.out (by rw [vJ.out]; exact gJ.out) ⟨xp, xc, by rw [vJ.out]⟩ (by rw [vJ.out]; exact sj.out) Ei.out EC.out HOW.out S4.out jo.out S5.out
              · have d1 : (se == 0) = false := by simpa using h0
                have HZ : Hid (aF names.length (aU names.length (aN t names nk)) ≠ 0) := by unfold Hid; rw [vJ.out, kF.out]; exact h0
                clear h0
                gi_wp2_with (rw [Oper.semAt_eq _ _ _ (fun c h => by cases h)]; go_simp; try go_bits)
                refine ⟨trivial, (callsIn_wide.2 iE.out).mono ?_⟩
                rintro e w' ⟨rfl, rfl⟩
                gi_wp2_with (rw [Oper.semAt_eq _ _ _ (fun c h => by cases h)]; go_simp; try go_bits)
                refine ⟨trivial, (callsIn_wide.2 e9.out).mono ?_⟩
                rintro e w' ⟨rfl, rfl⟩
                gi_wp2_with (rw [Oper.semAt_eq _ _ _ (fun c h => by cases h)]; go_simp; try go_bits)
                exact HI.out.Ia (B := w9.heap.size) (x := (nk, .slice xp (aN t names nk).length xc)) dr.out (Up.refl W) Ei.out HZ.out
            · rw [hc0] at iE
              have vJ : Hid (aU names.length (aN t names nk) = aS names.length (aN t names nk)) := by unfold Hid; rw [gD.out, hc0]; rfl
              have HYL : Hid ((aS names.length (aN t names nk)).length ≤ 32) := by
                have h1 := ja (fun x => !(aN t names nk).contains x) (names.length : Int).toNat
                have h2 := fJ.out.le
                unfold Hid aS; rw [Int.toNat_natCast] at h1 ⊢; omega
              clear hc0 gD
              generalize Ep : aF names.length (aS names.length (aN t names nk)) = se at *
              have kF := aa Ep
              clear Ep
              gi_wp2_with (rw [Oper.semAt_eq _ _ _ (fun c h => by cases h)]; go_simp; try go_bits)
              refine ⟨trivial, (callsIn_wide.2 iE.out).mono ?_⟩
              rintro e w' ⟨rfl, rfl⟩
              gi_wp2_with (rw [Oper.semAt_eq _ _ _ (fun c h => by cases h)]; go_simp; try go_bits)
              refine ⟨trivial, (callsIn_wide.2 nG.out).mono ?_⟩
              rintro e W2 ⟨aC, u, rfl, zG⟩
              obtain ⟨uq, uc, rfl, _⟩ := zG.form (n := (aS names.length (aN t names nk)).length) (by simp)
              have S6 := aa aC
              have HOU := aa zG
              have HYI : Hid (af (fun b => ¬ L b) W2 (.slice uq (aS names.length (aN t names nk)).length uc) (aS names.length (aN t names nk))) := zG.ints.sub fun b hb _ hb' => by have := dr.out b hb'; omega
              have e9 := aa (nS (fun b => ¬ L b) W2 _ (names.length : Int) (aS names.length (aN t names nk)) HYI.out (by have := HYL.out; omega))
              rw [kF.out] at e9
              have hnb := aC.cell lQ.out
              clear aC zG iE nG
              by_cases h0 : se = 0
              · have gJ : Hid (aF names.length (aS names.length (aN t names nk)) = 0) := by unfold Hid; rw [kF.out]; exact h0
                subst h0
                gi_wp2_with (rw [Oper.semAt_eq _ _ _ (fun c h => by cases h)]; go_simp; try go_bits)
                refine ⟨trivial, (callsIn_wide.2 e9.out).mono ?_⟩
                rintro e w' ⟨rfl, rfl⟩
                have hIn := HI.out.grow dr.out S6.out
                obtain ⟨ov, ps, e1, e2, _, e4, _, _, _⟩ := hIn.ex
                obtain ⟨oq, oc, rfl, _⟩ := e2.form (n := ps.length) (by simp)
                have EC := aa e1
                have HOW := aa e2
                have dD : Hid (ps.length ≤ 64) := Nat.le_trans e4 HPX.out
                have xA : W2.cell? ⟨w6.heap.size + 1, 0, none⟩ = some (.slice oq ps.length oc) := by simp [World.cell?, e1]
                have cO : Hid (w6.heap.size + 2 ≤ W2.heap.size) := hIn.sz
                obtain ⟨i0, fP, hz0, hz1, hz2⟩ := info_parts Tryz.gB
                have rZ : W2.ownsRow (w6.heap.size + 2) 26 1 (.slice oq ps.length oc) ps.length (ps.map (·.2)) := by have h := e2; unfold ah at h; rwa [List.length_map] at h
                have Ht := aa rZ
                have lZ := Up.alloc W2 (.cells #[.slice uq (aS names.length (aN t names nk)).length uc] 26)
                have kR := aa lZ
                clear e1 e2 e4 hIn rZ lZ
                gi_wp2_with (first
                  | (gi_at_builtin; refine wpListIn_append_own_at _ rfl _ _ 23 rfl (w6.heap.size + 2) 26 i0 (.slice none 0 0) 1 24 Tryz.underlying23 fP hz0 hz1 hz2 rfl (by decide) _ _ _ rfl (Ht.out.alloc _) ⟨W2.heap.size, 0, none⟩ 1 1 [.slice uq (aS names.length (aN t names nk)).length uc] rfl rfl (cell_one_new _ _ _) (by simp [Value.oneCell']) (by have := dD.out; unfold maxLen; omega) (by have := dD.out; omega) (by have h1 := cO.out; have h2 := kR.out.size; omega) ?_
                     intro v3 w3 k9 hg3 hnil3 Ck
                     have Av : ah (w6.heap.size + 2) 26 w3 v3 (ps.map (·.2) ++ [.slice uq (aS names.length (aN t names nk)).length uc]) := by unfold ah; rw [List.length_append, List.length_map]; exact k9
                     obtain ⟨Zf, Zg, rfl, _⟩ := Av.form (n := ps.length + 1) (by simp)
                     have S4 := aa Av
                     have jo : Hid (W2.grownBy w3 (Value.slice oq ps.length oc).ownBlock) := gh (kL kR.out _) hg3
                     have S5 : Hid (∀ g, (Value.slice Zf (ps.length + 1) Zg).ownBlock = some g → (Value.slice oq ps.length oc).ownBlock = some g ∨ W2.heap.size ≤ g) := fun g sg => by
                       rcases Ck with e | e
                       · exact .inl (e ▸ sg)
                       · rw [e] at sg; injection sg with sg; rw [← sg]; exact .inr kR.out.size
                     have zO : w3.heap[w6.heap.size + 1]? = some (Obj.cells #[.slice oq ps.length oc] 23 (0, 0)) := (jo.out.block _ (by have := cO.out; omega) fun e => by have := (ax HOW.out e.symm).1; omega).trans EC.out
                     have q3 : w3.cell? ⟨w6.heap.size + 1, 0, none⟩ = some (.slice oq ps.length oc) := by simp [World.cell?, zO]
                     have q4 : ∀ o, w3.frozen? ⟨w6.heap.size + 1, o, none⟩ = false := fun o => by simp [World.frozen?, zO]
                     clear k9 hg3 hnil3 Ck Av zO)
                  | (rw [Oper.semAt_eq _ _ _ (fun c h => by cases h)]; go_simp; try go_bits))
                exact HI.out.Ib (B := w9.heap.size) (x := (nk, .slice xp (aN t names nk).length xc)) (by have := H9.out.2; omega) dr.out S6.out Ei.out (by rw [vJ.out]; exact gJ.out) ⟨uq, uc, by rw [vJ.out]⟩ (by rw [vJ.out]; exact HYI.out) (fun g hg => by obtain ⟨c, h⟩ := ah.iP HOU.out hg; exact ⟨c, _, h⟩) EC.out HOW.out S4.out jo.out S5.out
              · have d1 : (se == 0) = false := by simpa using h0
                have HZ : Hid (aF names.length (aU names.length (aN t names nk)) ≠ 0) := by unfold Hid; rw [vJ.out, kF.out]; exact h0
                clear h0
                gi_wp2_with (rw [Oper.semAt_eq _ _ _ (fun c h => by cases h)]; go_simp; try go_bits)
                refine ⟨trivial, (callsIn_wide.2 e9.out).mono ?_⟩
                rintro e w' ⟨rfl, rfl⟩
                gi_wp2_with (rw [Oper.semAt_eq _ _ _ (fun c h => by cases h)]; go_simp; try go_bits)
                exact HI.out.Ia (B := w9.heap.size) (x := (nk, .slice xp (aN t names nk).length xc)) dr.out S6.out Ei.out HZ.out
          · rintro D xs L W hD hS hI hK
            have hHI := aa hI
            obtain ⟨ov, ps, e1, e2, e3, e4, e5, e6, e7⟩ := hI.ex
            have HUI := aa hI.up
            have hrw : uK (w6.heap.size + 2) W ov ps := ⟨e2, e5, fun p hp => af.sub (e6 p hp) fun b hb _ => hb.1⟩
            have HTY : Hid (∀ p ∈ ps, af (pV W) W p.2 p.1) := fun p hp => af.sub (e6 p hp) fun b hb _ => hb.2.2.2
            have hxl : xs.length ≤ 64 := by
              have h1 := congrArg List.length hS
              rw [List.length_map] at h1
              have h2 := KP fJ.out.te
              have h3 := (aH fJ.out.te).2.1
              omega
            have hpl : ps.length ≤ 64 := Nat.le_trans e4 hxl
            have hrl : ∀ p ∈ ps, p.1.length ≤ 32 := fun p hp => by
              have h1 : p.1 ∈ x8 t names (xs.map (·.1)) := by rw [← e3]; exact List.mem_map.2 ⟨p, hp, rfl⟩
              have h2 := (gU.1 (of_decide_eq_true (List.mem_filter.1 h1).2)).len
              have h3 := fJ.out.le
              omega
            rw [hS] at e3
            obtain ⟨oq, oc, rfl, _⟩ := e2.form (n := ps.length) (by simp)
            have wB := Cc (cf := cmpL) s7 (fun h => iO h) jB (fun h k => nR h k) 97 #[] (enters_of Tryz.func97 (by kernel_rfl) rfl) hrw (by omega) (fun p hp q hq W' ki => by
              have hk : ∀ s ∈ ps, af Any W' s.2 s.1 := fun s hs => (av.keep (hrw.row s hs) fun b hb hbl => ki.block b hbl fun e => hb e.symm).sub fun _ _ _ => trivial
              exact (Px Any Any W' p.2 q.2 p.1 q.1 (hk p hp) (hk q hq) (by have := hrl p hp; omega) (by have := hrl q hq; omega)).mono fun e w' ⟨he, hw⟩ => ⟨he, by rw [← hw]; exact PJ W'⟩)
            have kB := aa wB
            have Ii := aa e3
            have dD : Hid (ps.length ≤ 64) := hpl
            have nX : Hid (∀ p ∈ ps, p.1.length ≤ 32) := hrl
            have xA : W.cell? ⟨w6.heap.size + 1, 0, none⟩ = some (.slice oq ps.length oc) := by simp [World.cell?, e1]
            have JT := aa e1
            have jZ := aa e2
            have HK := aa hK
            have HISZ := aa hI.sz
            clear e1 e2 e3 e4 e5 e6 e7 hrw wB hpl hrl hxl hI hS hK
            gi_wp2_with fail
            refine ⟨trivial, (callsIn_wide.2 kB.out).mono ?_⟩
            rintro e ox ⟨rfl, sk, yf, tT, Ik, Aw, Zh⟩
            have HTY10 : Hid (∀ p ∈ yf, af (pV ox) ox p.2 p.1) := fun p hp => Ar (HTY.out p (Zh p hp)) sk (Ic jZ.out)
            have Zi : ox.heap[D]? = some (.deferred (some [])) := (sk.block D (Array.getElem?_eq_some_iff.1 HK.out).1 fun e => by
              obtain ⟨c, h⟩ := ah.iP jZ.out e.symm
              rw [HK.out] at h; injection h with h; cases h).trans HK.out
            have Af : ox.heap[w6.heap.size + 1]? = some (Obj.cells #[.slice oq ps.length oc] 23 (0, 0)) := (sk.block _ (by have := HISZ.out; omega) fun e => by have := (ax jZ.out e.symm).1; omega).trans JT.out
            have xA := (show ox.cell? ⟨w6.heap.size + 1, 0, none⟩ = some (.slice oq ps.length oc) by simp [World.cell?, Af])
            have tU : Up w6 ox := Below.grown HUI.out sk HUI.out.size fun k hk => by have := (ax jZ.out hk).1; omega
            have MU : yf.length = ps.length := by have := tT.length_eq; simpa using this
            have UW : ∀ p ∈ yf, p.1.length ≤ 32 := fun p hp => by
              obtain ⟨q, hq, e⟩ := List.mem_map.1 (tT.mem_iff.1 (List.mem_map.2 ⟨p, hp, rfl⟩))
              rw [← e]; exact nX.out q hq
            have si := aa (wK Aw (by have := dD.out; omega) (fun p hp => by have := UW p hp; omega))
            have yg := aa Aw
            have S7 := aa Zi
            have oL := aa tU
            have uf : Hid (eF (yf.map (·.1)) = az t names) := by
              rw [Ii.out] at tT
              exact PN fJ.out tT Ik
            clear sk tT Ik Aw Zh Zi Af tU MU UW kB
            gi_wp2_with fail
            refine ⟨trivial, (callsIn_wide.2 si.out).mono ?_⟩
            rintro e cr ⟨tV, v11, Il, rfl, tW, Zj, Zk⟩
            have HTY11 : Hid (∀ p ∈ Il, af (pV cr) cr p.2 p.1) := fun p hp => Ar (HTY10.out p (Zk p hp)) tV (Ic yg.out.own)
            have Zl : cr.heap[D]? = some (.deferred (some [])) := (tV.block D (Array.getElem?_eq_some_iff.1 S7.out).1 fun e => by
              obtain ⟨c, h⟩ := ah.iP yg.out.own e.symm
              rw [S7.out] at h; injection h with h; cases h).trans S7.out
            have C2 : Up w6 cr := Below.grown oL.out tV oL.out.size fun k hk => by have := (ax yg.out.own hk).1; omega
            rw [uf.out] at tW
            have HP11 := aa tW
            have HR11 := aa Zj
            have HU11 := aa C2
            have Zm := aa Zl
            clear tV tW Zj Zk C2 Zl si xA
            gi_wp2_with fail
            have hq : ∀ b, b ≠ D → (cr.putObj D (.deferred none)).heap[b]? = cr.heap[b]? := fun b hb => World.putObj_heap_other hb
            have hu := lD.out.trans HU11.out
            have Y1 := lD.out.size
            have Ci := H9.out.2
            obtain ⟨f, lB, hf2⟩ := HR11.out.rowsT HTY11.out
            rw [HP11.out] at lB hf2
            have hgd : cr.grownBy (cr.putObj D (.deferred none)) (some D) := grownBy_putObj' cr D _
            have hrd : ∀ r, some D = some r → ∃ o, cr.heap[r]? = some o ∧ o.isCells = false := fun r e => by injection e with e; subst e; exact ⟨_, Zm.out, rfl⟩
            refine ⟨by simp, .inl ⟨_, _, rfl, run_takeDeferred Zm.out, ?_⟩⟩
            exact ⟨.tuple #[v11, .int .i64 0], by simp [results, Tryz.results23, go_sem], ⟨hu.os, hu.tape, hu.output, by have h := hu.size; simpa using h, fun b hb => (hq b (by omega)).trans (hu.block b hb)⟩, v11, by rw [HZ.out], f, (av.grown lB hgd hrd).sub (fun b hb _ => by have : w6.heap.size + 2 ≤ b := hb; omega), fun k hk => Ar (hf2 k hk) hgd fun r e ht => by
              obtain ⟨o, h1, h2⟩ := hrd r e
              obtain ⟨c, z, h3⟩ := ht
              rw [h3] at h1; injection h1 with h1; subst h1; cases h2⟩
        · rw [mV] at K5
          have HZ : Hid (aL t names = 9) := by unfold Hid; rw [Ii.out, if_pos (.inr mV)]
          clear mV
          gi_wp2_with fail
          refine ⟨trivial, (callsIn_wide.2 K5.out).mono ?_⟩
          rintro e w6 ⟨rfl, nq, rfl⟩
          gi_wp2_with fail
          exact ⟨.tuple #[.slice none 0 0, .int .i64 9], by simp [results, Tryz.results23, go_sem], ye HZ.out (by decide) (gF.out.trans (Up.drewN _ _))⟩
      · have HZ : Hid (aL t names = 9) := by unfold Hid; rw [Ii.out, if_pos (.inl oo)]
        have d1 : (((aV t.ns).length : Int) == (names.length : Int)) = false := beq_eq_false_iff_ne.2 (by omega)
        have d2 : (((aV t.ns).length : Int) != (names.length : Int)) = true := by rw [bne, d1]; rfl
        clear oo
        gi_wp2_with fail
        rename_i hkk
        refine ⟨trivial, hkk _ _ ?_⟩
        gi_wp2_with fail
        exact ⟨.tuple #[.slice none 0 0, .int .i64 9], by simp [results, Tryz.results23, go_sem], ye HZ.out (by decide) gF.out⟩
theorem yV (S : Nat → Prop) (w : World) (v vs : Value) (t : aA) (names : List ByteArray) (hT : aG S w v t) (hV : ay S w vs names) (hp : t.ps.length ≤ 1000000) (hn : t.ns.length ≤ 1000000) (hz : ∀ k, (gs t.ns k).size ≤ 70000) (hnl : names.length ≤ 1000000) :
  Calls Tryz.prog 23 #[v, vs] w (nW w t names) := (S2 S w v vs t names hT hV hp hn hz hnl).mono fun _ _ ⟨h1, u, h2, f, h3, h4⟩ => ⟨h1, u, h2, f, h3.sub fun _ _ _ => trivial, fun k hk => (h4 k hk).sub fun _ _ _ => trivial⟩
end Go.Proofs.YtpnmblnahjjmhaaGreat
