/- The contract of split.Of. -/
import Derived.Test.YtpnmblnahjjmhaaGreatQ1
import Derived.RangeFuncLeaves
import Derived.Test.YtpnmblnahjjmhaaGreatQ34
import Derived.Test.YtpnmblnahjjmhaaGreatQ35
import Derived.Test.YtpnmblnahjjmhaaGreatQ13
import Derived.Test.YtpnmblnahjjmhaaGreatQ12
import Derived.Test.YtpnmblnahjjmhaaGreatQ27
import Derived.Test.YtpnmblnahjjmhaaGreatQ33
import Derived.Test.YtpnmblnahjjmhaaGreatQ2
namespace Go.Proofs.YtpnmblnahjjmhaaGreat
set_option maxRecDepth 100000
open Go.RowKit Go.Deep Go.Shelf
def oS (w : World) (t : aJ) (names : List ByteArray) (e : Ending) (w' : World) : Prop := Up w w' ∧ ∃ u, e = .returned (.tuple #[u, .int .i64 (aT t names)]) ∧ aR Any w' u (aI t names)
def K5 (w : World) (t : aJ) (names : List ByteArray) (e : Ending) (w' : World) : Prop := Up w w' ∧ ∃ u, e = .returned (.tuple #[u, .int .i64 (aT t names)]) ∧ ∃ f, aC (fun b => w.heap.size ≤ b) w' u (aI t names).length f ∧ ∀ k, k < (aI t names).length → an (qC w') w' (f k) (gl (aI t names) k)
theorem yC {w w' : World} {t : aJ} {names : List ByteArray} {c : Int} (hE : aT t names = c) (hc : c ≠ 0) (hu : Up w w') : K5 w t names (.returned (.tuple #[.slice none 0 0, .int .i64 c])) w' := by
 refine ⟨hu, .slice none 0 0, by rw [hE], ?_⟩
 have h0 : aI t names = [] := by
  unfold aI
  rw [if_neg (by rw [hE]; exact hc)]
 rw [h0]
 exact ⟨fun _ => undef, ⟨none, 0, rfl, Nat.le_refl _, .inl rfl⟩, fun k hk => absurd hk (Nat.not_lt_zero _)⟩
set_option maxHeartbeats 4000000 in
theorem SZ (S : Nat → Prop) (w : World) (v vs : Value) (t : aJ) (names : List ByteArray) (hT : aO S w v t) (hV : aG S w vs names) (hp : t.ps.length ≤ 1000000) (hn : t.ns.length ≤ 1000000) (hz : ∀ k, (gs t.ns k).size ≤ 70000) (hnl : names.length ≤ 1000000) :
    Calls Tryz.prog 23 #[v, vs] w (K5 w t names) := by
  have HE : Hid (aT t names = if aK t ≠ 0 then 1 else if 32 < names.length then 4 else if sK names then 7 else if (bD t.ns).length ≠ names.length ∨ oO t names = true then 9 else 0) := rfl
  obtain ⟨P, N, rfl, hP, hN⟩ := hT
  obtain ⟨pp, pc, rfl, -, -⟩ := aC.open hP
  obtain ⟨np, nc, rfl, -, -⟩ := aC.open hN
  obtain ⟨mp, mc, rfl, -, -⟩ := aC.open hV
  have hP : an S w (.slice pp t.ps.length pc) t.ps := hP
  have hN : aG S w (.slice np t.ns.length nc) t.ns := hN
  have HV : Hid (aG S w (.slice mp names.length mc) names) := hV
  have hu := Up.alloc w (.cells #[.slice pp t.ps.length pc, .slice np t.ns.length nc] 39)
  have gN := ag (dg w (.slice pp t.ps.length pc) (.slice np t.ns.length nc) 39)
  have gU := ag (dy w (.slice pp t.ps.length pc) (.slice np t.ns.length nc) 39)
  have HU := ag hu
  have HP := ag hP
  have HN := ag hN
  have HLV : Hid (∀ W, Up w W → Calls Tryz.prog 49 #[.agg #[.slice pp t.ps.length pc, .slice np t.ns.length nc]] W (NI W t)) := fun W hW => Q9 S W _ t (aO.keep ⟨_, _, rfl, hP, hN⟩ (hW.kept _)) hp hn hz
  clear hu hP hN hV
  refine (callsIn_wide (n := 9)).1 ?_
  refine callsIn_of_wp_marks Tryz.func23 rfl trivial ?_
  simp only [Tryz.ntmps23, List.size_toArray, List.length_cons, List.length_nil, Nat.reduceAdd, Nat.reduceSub, Array.replicate_succ, Array.replicate_zero, List.push_toArray, List.append_toArray, List.nil_append, List.cons_append]
  bf fail
  generalize w.alloc (.cells #[.slice pp t.ps.length pc, .slice np t.ns.length nc] 39) = w1 at *
  refine ⟨trivial, (callsIn_wide.2 (HLV.out w1 HU.out)).mono ?_⟩
  rintro e w2 ⟨aL, gv⟩
  have aL : Up w1 w2 := aL
  have cM := ag (HU.out.trans aL)
  have MV := ag (aL.cell gN.out)
  have MW := ag (aL.cell gU.out)
  clear aL HLV HU gN gU
  rcases gv with ⟨qF, rfl⟩ | ⟨hok, lv, rfl, hlv⟩
  · have HZ : Hid (aT t names = 1) := by unfold Hid; rw [HE.out, if_pos qF]
    have d1 : (aK t == 0) = false := by simpa using qF
    have d2 : (aK t != 0) = true := by simpa using qF
    clear qF
    bf fail
    exact ⟨.tuple #[.slice none 0 0, .int .i64 1], by simp [results, Tryz.results23, go_sem], yC HZ.out (by decide) cM.out⟩
  obtain ⟨lp, lc, rfl, -, -⟩ := aC.open hlv
  have UN : Hid (an Any w2 (.slice lp (bD t.ns).length lc) (bD t.ns)) := an.sub hlv fun _ _ _ => trivial
  have gu := ag hok
  clear hlv
  by_cases h32 : 32 < names.length
  · have HZ : Hid (aT t names = 4) := by unfold Hid; rw [HE.out, if_neg (fun e => e hok), if_pos h32]
    clear hok
    bf fail
    exact ⟨.tuple #[.slice none 0 0, .int .i64 4], by simp [results, Tryz.results23, go_sem], yC HZ.out (by decide) cM.out⟩
  have kT : Hid (aT t names = if sK names then 7 else if (bD t.ns).length ≠ names.length ∨ oO t names = true then 9 else 0) := by unfold Hid; rw [HE.out, if_neg (fun e => e hok), if_neg h32]
  have n32 : (names.length : Int) ≤ 32 := by omega
  have hmm := fun W => run_makeMap (P := Tryz.prog) 114 W
  clear hok HE
  bf fail
  have h3m : Up w2 ((w2.alloc (.map #[] 0)).alloc (.cells #[.map (some w2.heap.size)] 114)) := (Up.alloc _ _).trans (Up.alloc _ _)
  have h3s : SMap ((w2.alloc (.map #[] 0)).alloc (.cells #[.map (some w2.heap.size)] 114)) w2.heap.size (smK names 0) := (SMap.made w2).same (Below.block (Up.alloc (w2.alloc (.map #[] 0)) _) _ (by simp))
  have h3b : ((w2.alloc (.map #[] 0)).alloc (.cells #[.map (some w2.heap.size)] 114)).cell? ⟨w2.heap.size + 1, 0, none⟩ = some (.map (some w2.heap.size)) := by
    have h := ig (w2.alloc (.map #[] 0)) (.map (some w2.heap.size)) 114
    rwa [World.size_alloc] at h
  have H3 := ag (⟨h3m, h3s, h3b⟩ : _ ∧ _ ∧ _)
  have d32 : decide ((32 : Int) < (names.length : Int)) = false := decide_eq_false (by omega)
  try simp only [d32]
  clear h3m h3s h3b hmm d32
  generalize (w2.alloc (.map #[] 0)).alloc (.cells #[.map (some w2.heap.size)] 114) = w3 at *
  have K6 := ag (aG.keep HV.out (cM.out.kept _))
  have US : Hid (∀ k, dO names k = uv names k (gs names k)) := fun k => rfl
  Aq [10, 29] (fun _ i wr => ∃ k : Nat, k ≤ names.length ∧ i = .int .i64 k ∧ Hid (SMap wr w2.heap.size (smK names k)) ∧ Hid (Up w2 wr) ∧ Hid (wr.cell? ⟨w2.heap.size + 1, 0, none⟩ = some (.map (some w2.heap.size))) ∧ Hid (∀ j, j < k → dO names j = false)) (fun _ i _ => names.length - (intOf i).toNat)
  case atStart => exact ⟨0, Nat.zero_le _, rfl, H3.out.2.1, H3.out.1, H3.out.2.2, fun j hj => absurd hj (Nat.not_lt_zero _)⟩
  case round =>
    obtain ⟨k, hk, rfl, hM, cH, hB, hno⟩ := bE
    obtain ⟨wo, rfl⟩ : ∃ wo : World, wo = wr := ⟨_, rfl⟩
    have b8 := hB.out
    by_cases hlt : k < names.length
    · obtain ⟨b, off, rfl, hcell⟩ := dh (aG.keep K6.out (cH.out.kept _)) hlt
      have i1 : (0 : Int) ≤ (k : Int) := by omega
      have i2 : (k : Int) < (names.length : Int) := by omega
      have i3 : (k : Int) < 64 := by omega
      have HMS : Hid (smK names (k + 1) = sA (smK names k) (gs names k) (.bool true)) := rfl
      have qN := ag (US.out k)
      have hlk : (Instr.lookup 114 (.map (some w2.heap.size)) (.string (gs names k)) false).run Tryz.prog wo = .ok (.bool (uv names k (gs names k))) wo := by
        have h := D8 (P := Tryz.prog) Tryz.underlying114 Tryz.underlying9 (EF _) hM.out (gs names k)
        rw [AM] at h
        exact h
      generalize gs names k = s at *
      generalize uv names k s = q at *
      cases q
      · obtain ⟨w5, hrun, hm5, hs5, u0, ht5, Y6, K7⟩ := R3 (P := Tryz.prog) Tryz.underlying114 Tryz.underlying9 hM.out (Ic names k) s (.bool true)
        have HM5 : Hid (SMap w5 w2.heap.size (smK names (k + 1))) := by unfold Hid; rw [HMS.out]; exact hm5
        have ij : Hid (Up w2 w5) := ⟨u0.trans cH.out.os, ht5.trans cH.out.tape, Y6.trans cH.out.output, by rw [hs5]; exact cH.out.size, fun b hb => (K7 b (by omega)).trans (cH.out.block b hb)⟩
        have HB5 : Hid (w5.cell? ⟨w2.heap.size + 1, 0, none⟩ = some (.map (some w2.heap.size))) := (World.cell?_of_block (a := ⟨w2.heap.size + 1, 0, none⟩) (K7 (w2.heap.size + 1) (by omega))).trans hB.out
        have o8 : Hid (∀ j, j < k + 1 → dO names j = false) := fun j hj => by
          by_cases e : j = k
          · rw [e]; exact qN.out
          · exact hno.out j (by omega)
        clear hm5 hs5 u0 ht5 Y6 K7 hM cH hB hno
        bf fail
        aF
        case rel => exact ⟨k + 1, by omega, by aH, HM5, ij, HB5, o8⟩
        case measure => simp [intOf]; omega
      · have HZ : Hid (aT t names = 7) := by
          unfold Hid
          rw [kT.out, show sK names = true from List.any_eq_true.2 ⟨k, List.mem_range.2 hlt, qN.out⟩, if_pos rfl]
        bf fail
        exact ⟨.tuple #[.slice none 0 0, .int .i64 7], by simp [results, Tryz.results23, go_sem], yC HZ.out (by decide) (cM.out.trans cH.out)⟩
    · obtain rfl : k = names.length := by omega
      have Il : Hid (aT t names = if (bD t.ns).length ≠ names.length ∨ oO t names = true then 9 else 0) := by
        unfold Hid
        rw [kT.out, show sK names = false from any_none hno.out, if_neg (by decide)]
      have ic := ag (cM.out.trans cH.out)
      clear hlt hk kT hno US K6 H3
      by_cases o6 : (bD t.ns).length = names.length
      · have d1 : (((bD t.ns).length : Int) == (names.length : Int)) = true := by rw [o6]; simp
        have d2 : (((bD t.ns).length : Int) != (names.length : Int)) = false := by rw [bne, d1]; rfl
        have HLNE := ag o6
        have HIo : Hid (an Any wo (.slice lp (bD t.ns).length lc) (bD t.ns)) := an.keep UN.out (cH.out.kept _)
        have cB := cH.out.cell MW.out
        have K8 := ag (MP 100 #[.pointer (some ⟨w2.heap.size + 1, 0, none⟩), .pointer (some ⟨w.heap.size, 0, none⟩)] (enters_of Tryz.func100 (by af) rfl) Any wo _ (bD t.ns).length (fun k => .int .i64 (gi (bD t.ns) k)) (fun j => decide (fG names (gs t.ns (gi (bD t.ns) j).toNat) < 0)) HIo.out (by have := Jt t.ns; omega) (fun k hk => by
          obtain ⟨q, h1, h2, _⟩ := Q6 hk
          simp only [h1, Int.toNat_natCast]
          exact of1_t wo S (w2.heap.size + 1) w.heap.size w2.heap.size np nc t.ns names q b8 hM.out cB (aG.keep HN.out (ic.out.kept _)) h2))
        have HOB : Hid (((List.range (bD t.ns).length).any fun j => decide (fG names (gs t.ns (gi (bD t.ns) j).toNat) < 0)) = oO t names) := rfl
        rw [HOB.out] at K8
        have Y7 := ag (cH.out.cell MV.out)
        have Y8 := ag cB
        clear o6 cB hM cH hB MV MW UN HOB b8
        cases nS : oO t names
        · rw [nS] at K8 Il
          have HZ : Hid (aT t names = 0) := by unfold Hid; rw [Il.out, if_neg]; exact fun e => e.elim (fun e => e HLNE.out) (fun e => by cases e)
          have gw := ag (nT.1 HZ.out)
          clear nS Il
          bf fail
          refine ⟨trivial, (callsIn_wide.2 K8.out).mono ?_⟩
          rintro e w6 ⟨rfl, nq, hw6⟩
          have gO : Up wo w6 := by rw [hw6]; exact Up.drewN wo nq
          have mE := ag (ic.out.trans gO)
          have b0 := gO.cell Y7.out
          have b1 := gO.cell Y8.out
          have HB60 := ag b0
          have HB61 := ag b1
          clear hw6 gO K8 Y7 Y8 ic
          obtain ⟨t1, t2, t3⟩ := lP w6 (.int .i64 (names.length : Int)) (.slice none 0 0) 3 23
          have Y9 := blk_alloc_new (w6.alloc (.cells #[.int .i64 (names.length : Int)] 3)) (.cells #[.slice none 0 0] 23)
          have hn6 := (Below.block (Up.alloc (w6.alloc (.cells #[.int .i64 (names.length : Int)] 3)) (.cells #[.slice none 0 0] 23)) w6.heap.size (by simp)).trans (blk_alloc_new w6 (.cells #[.int .i64 (names.length : Int)] 3))
          have Im : ((w6.alloc (.cells #[.int .i64 (names.length : Int)] 3)).alloc (.cells #[.slice none 0 0] 23)).heap.size = w6.heap.size + 2 := by simp
          rw [World.size_alloc] at Y9
          have b0 := t1.cell b0
          have b1 := t1.cell b1
          have H7 := ag (⟨t1, hn6, Y9, Im⟩ : _ ∧ _ ∧ _ ∧ _)
          clear t1 t2 t3 hn6 Y9 Im HB60 HB61
          bf fail
          generalize (w6.alloc (.cells #[.int .i64 (names.length : Int)] 3)).alloc (.cells #[.slice none 0 0] 23) = w7 at *
          refine ⟨trivial, (callsIn_wide.2 (SP w7 _ _ _ _ _)).mono ?_⟩
          rintro e w9 ⟨rfl, Ct⟩
          have Cu : Up w7 w9 := by rw [Ct]; exact (Up.alloc _ _).trans (Up.alloc _ _)
          have hs9 : w9.heap.size = w7.heap.size + 2 := by rw [Ct]; simp
          have Za := (Up.alloc (w7.alloc (.cells #[.slice pp t.ps.length pc, .slice np t.ns.length nc] 39)) (.cells #[.slice mp names.length mc] 22))
          have hc0 := Za.cell (dg w7 (.slice pp t.ps.length pc) (.slice np t.ns.length nc) 39)
          have hc1 := Za.cell (dy w7 (.slice pp t.ps.length pc) (.slice np t.ns.length nc) 39)
          have fJ := ig (w7.alloc (.cells #[.slice pp t.ps.length pc, .slice np t.ns.length nc] 39)) (.slice mp names.length mc) 22
          rw [World.size_alloc] at fJ
          rw [← Ct] at hc0 hc1 fJ
          have hP6 : an Any w6 (.slice pp t.ps.length pc) t.ps := an.sub (an.keep HP.out (mE.out.kept _)) fun _ _ _ => trivial
          have hN6 : aG Any w6 (.slice np t.ns.length nc) t.ns := aG.sub (aG.keep HN.out (mE.out.kept _)) fun _ _ _ => trivial
          have hV6 : aG Any w6 (.slice mp names.length mc) names := aG.sub (aG.keep HV.out (mE.out.kept _)) fun _ _ _ => trivial
          have h67 := H7.out.2.2.2
          have Ab : Up w6 w9 := H7.out.1.trans Cu
          have hI0 : kU w6 t names [] (fun b => b = w7.heap.size ∨ b = w7.heap.size + 1) w9 := ⟨Ab, by omega, fun b hb => by omega, ⟨by omega, by omega⟩, (Below.block Cu _ (by omega)).trans H7.out.2.1, .slice none 0 0, [], (Below.block Cu _ (by omega)).trans H7.out.2.2.1, ay.nil _ _ _, rfl, Nat.le_refl _, (fun p hp => by cases hp), (fun p hp => by cases hp), fun g hg => by cases hg⟩
          have hseq := MQ (w0 := w6) (w9 := w9) (Bt := w7.heap.size) (Bn := w7.heap.size + 1) 8 gw.out (by omega) (by omega) hc0 hc1 fJ hP6 hN6 hV6
          have H9 := ag (⟨Ab, hs9, h67⟩ : _ ∧ _ ∧ _)
          clear Ct Cu Za hc0 hc1 fJ hP6 hN6 hV6 b0 b1 H7 h67 hs9 Ab
          bf fail
          apply JM (F := Fence.wide) (n := 9) (P := Tryz.prog) (ps := #[54]) (w := w9) rfl (by omega) (gf := 168) (lb := #[.pointer (some ⟨w7.heap.size, 0, none⟩), .pointer (some ⟨w7.heap.size + 1, 0, none⟩)]) rfl trivial (enters_of Tryz.func168 (by af) rfl)
            hseq (fun b hb => by have := H9.out.2.1; omega) (fun x L W b h1 h2 => Y3 x L W b h1 h2) H9.out.1 (fun _ => rfl) (fun x L => VW x L)
            (kU w6 t names) kU.ab (kU.own (by have := H9.out.2; omega)) hI0
          · intro l x W K hK
            bf (rw [Oper.semAt_eq _ _ _ (fun c h => by cases h)]; aj; try gZ)
            exact hK
          · rintro l pre ⟨nk, v⟩ L W hI hG fW KO hlen
            obtain ⟨hx1, hx2, xp, xc, DA, PW, Zb⟩ := hG
            dsimp only at hx1 hx2 DA PW Zb
            subst DA
            have HI := ag hI
            have sX : Hid (an (fun b => ¬ L b) W (.slice xp (aW t names nk).length xc) (aW t names nk)) := PW
            have Eo := ag Zb
            have dW : Hid (∀ b, L b → b < W.heap.size) := fun b hb => (KO b hb).2
            have S1 : Hid (cZ (aW t names nk)) := ⟨pS _ _ _, fun x hx => by have h1 := iJ.1 hx; have h2 := gw.out.le; omega⟩
            have wV : Hid ((aW t names nk).length ≤ 32) := Nat.le_trans (jE _ _) gw.out.le
            have HPX : Hid (pre.length ≤ 64) := by have := (aP gw.out.te).2.1; unfold Hid; omega
            have gY : Hid (bC names.length (aW t names nk) = if (aW t names nk).contains 0 then bw names.length (aW t names nk) else (aW t names nk)) := rfl
            have hnb : W.cell? ⟨w6.heap.size, 0, none⟩ = some (.int .i64 (names.length : Int)) := by simp [World.cell?, hI.nb]
            have mO := ag hnb
            have iZ : Hid (Calls Tryz.prog 17 #[.slice xp (aW t names nk).length xc, .int .i64 0] W fun e w' => e = .returned (.bool ((aW t names nk).contains 0)) ∧ W = w') := by
              have h := uV (fun b => ¬ L b) W _ (aW t names nk) 0 PW (by have := wV.out; omega)
              rw [yB] at h; exact h
            have oB : Hid (Calls Tryz.prog 102 #[.int .i64 (names.length : Int), .slice xp (aW t names nk).length xc] W fun e w' => Up W w' ∧ ∃ u, e = .returned (.tuple #[u, .int .i64 0]) ∧ ay W.heap.size 3 w' u ((bw names.length (aW t names nk)).map (Value.int .i64))) := Hz (fun b => ¬ L b) W _ names.length (aW t names nk) (by have := gw.out.le; omega) PW S1.out (fun x hx => (iJ.1 hx).2.1) (by have := wV.out; omega)
            clear hI PW Zb fW KO hlen hx1 hx2
            cases hc0 : (aW t names nk).contains 0
            · rw [hc0] at iZ
              have v8 : Hid (bC names.length (aW t names nk) = (aW t names nk)) := by unfold Hid; rw [gY.out, hc0]; rfl
              have fO := ag (oM (fun b => ¬ L b) W _ (names.length : Int) (aW t names nk) sX.out (by have := wV.out; omega))
              clear hc0 oB gY
              generalize Ew : aN names.length (aW t names nk) = se at *
              have lE := ag Ew
              clear Ew
              by_cases h0 : se = 0
              · have ir : Hid (aN names.length (aW t names nk) = 0) := by unfold Hid; rw [lE.out]; exact h0
                subst h0
                bf (rw [Oper.semAt_eq _ _ _ (fun c h => by cases h)]; aj; try gZ)
                refine ⟨trivial, (callsIn_wide.2 iZ.out).mono ?_⟩
                rintro e w' ⟨rfl, rfl⟩
                bf (rw [Oper.semAt_eq _ _ _ (fun c h => by cases h)]; aj; try gZ)
                refine ⟨trivial, (callsIn_wide.2 fO.out).mono ?_⟩
                rintro e w' ⟨rfl, rfl⟩
                have hIn := HI.out
                obtain ⟨ov, ps, e1, e2, _, e4, _, _, _⟩ := hIn.ex
                obtain ⟨oq, oc, rfl, _⟩ := e2.form (n := ps.length) (by simp)
                have EI := ag e1
                have sv := ag e2
                have ew : Hid (ps.length ≤ 64) := Nat.le_trans e4 HPX.out
                have xQ : W.cell? ⟨w6.heap.size + 1, 0, none⟩ = some (.slice oq ps.length oc) := by simp [World.cell?, e1]
                have dG : Hid (w6.heap.size + 2 ≤ W.heap.size) := hIn.sz
                obtain ⟨i0, gC, tE, hz1, iR⟩ := info_parts Tryz.gW
                have sN : W.ownsRow (w6.heap.size + 2) 26 1 (.slice oq ps.length oc) ps.length (ps.map (·.2)) := by have h := e2; unfold ay at h; rwa [List.length_map] at h
                have Hw := ag sN
                have mV := Up.alloc W (.cells #[.slice xp (aW t names nk).length xc] 26)
                have lS := ag mV
                clear e1 e2 e4 hIn sN mV
                bf (first
                  | (qJ; refine wpListIn_append_own_at _ rfl _ _ 23 rfl (w6.heap.size + 2) 26 i0 (.slice none 0 0) 1 24 Tryz.underlying23 gC tE hz1 iR rfl (by decide) _ _ _ rfl (Hw.out.alloc _) ⟨W.heap.size, 0, none⟩ 1 1 [.slice xp (aW t names nk).length xc] rfl rfl (cell_one_new _ _ _) (by simp [Value.oneCell']) (by have := ew.out; unfold maxLen; omega) (by have := ew.out; omega) (by have h1 := dG.out; have h2 := lS.out.size; omega) ?_
                     intro v3 w3 mh hg3 Ch Cv
                     have AP : ay (w6.heap.size + 2) 26 w3 v3 (ps.map (·.2) ++ [.slice xp (aW t names nk).length xc]) := by unfold ay; rw [List.length_append, List.length_map]; exact mh
                     obtain ⟨Zc, Zd, rfl, _⟩ := AP.form (n := ps.length + 1) (by simp)
                     have S2 := ag AP
                     have jR : Hid (W.grownBy w3 (Value.slice oq ps.length oc).ownBlock) := gL (lK lS.out _) hg3
                     have S3 : Hid (∀ g, (Value.slice Zc (ps.length + 1) Zd).ownBlock = some g → (Value.slice oq ps.length oc).ownBlock = some g ∨ W.heap.size ≤ g) := fun g sV => by
                       rcases Cv with e | e
                       · exact .inl (e ▸ sV)
                       · rw [e] at sV; injection sV with sV; rw [← sV]; exact .inr lS.out.size
                     have Ac : w3.heap[w6.heap.size + 1]? = some (Obj.cells #[.slice oq ps.length oc] 23 (0, 0)) := (jR.out.block _ (by have := dG.out; omega) fun e => by have := (aD sv.out e.symm).1; omega).trans EI.out
                     have q3 : w3.cell? ⟨w6.heap.size + 1, 0, none⟩ = some (.slice oq ps.length oc) := by simp [World.cell?, Ac]
                     have q4 : ∀ o, w3.frozen? ⟨w6.heap.size + 1, o, none⟩ = false := fun o => by simp [World.frozen?, Ac]
                     clear mh hg3 Ch Cv AP Ac)
                  | (rw [Oper.semAt_eq _ _ _ (fun c h => by cases h)]; aj; try gZ))
                exact HI.out.Ig (B := w9.heap.size) (x := (nk, .slice xp (aW t names nk).length xc)) (by have := H9.out.2; omega) dW.out (Up.refl W) Eo.out (by rw [v8.out]; exact ir.out) ⟨xp, xc, by rw [v8.out]⟩ (by rw [v8.out]; exact sX.out) Eo.out EI.out sv.out S2.out jR.out S3.out
              · have d1 : (se == 0) = false := by simpa using h0
                have HZ : Hid (aN names.length (bC names.length (aW t names nk)) ≠ 0) := by unfold Hid; rw [v8.out, lE.out]; exact h0
                clear h0
                bf (rw [Oper.semAt_eq _ _ _ (fun c h => by cases h)]; aj; try gZ)
                refine ⟨trivial, (callsIn_wide.2 iZ.out).mono ?_⟩
                rintro e w' ⟨rfl, rfl⟩
                bf (rw [Oper.semAt_eq _ _ _ (fun c h => by cases h)]; aj; try gZ)
                refine ⟨trivial, (callsIn_wide.2 fO.out).mono ?_⟩
                rintro e w' ⟨rfl, rfl⟩
                bf (rw [Oper.semAt_eq _ _ _ (fun c h => by cases h)]; aj; try gZ)
                exact HI.out.Ie (B := w9.heap.size) (x := (nk, .slice xp (aW t names nk).length xc)) dW.out (Up.refl W) Eo.out HZ.out
            · rw [hc0] at iZ
              have v8 : Hid (bC names.length (aW t names nk) = bw names.length (aW t names nk)) := by unfold Hid; rw [gY.out, hc0]; rfl
              have HYL : Hid ((bw names.length (aW t names nk)).length ≤ 32) := by
                have h1 := jE (fun x => !(aW t names nk).contains x) (names.length : Int).toNat
                have h2 := gw.out.le
                unfold Hid bw; rw [Int.toNat_natCast] at h1 ⊢; omega
              clear hc0 gY
              generalize Ew : aN names.length (bw names.length (aW t names nk)) = se at *
              have lE := ag Ew
              clear Ew
              bf (rw [Oper.semAt_eq _ _ _ (fun c h => by cases h)]; aj; try gZ)
              refine ⟨trivial, (callsIn_wide.2 iZ.out).mono ?_⟩
              rintro e w' ⟨rfl, rfl⟩
              bf (rw [Oper.semAt_eq _ _ _ (fun c h => by cases h)]; aj; try gZ)
              refine ⟨trivial, (callsIn_wide.2 oB.out).mono ?_⟩
              rintro e W2 ⟨aL, u, rfl, zX⟩
              obtain ⟨uq, uc, rfl, _⟩ := zX.form (n := (bw names.length (aW t names nk)).length) (by simp)
              have S4 := ag aL
              have HOU := ag zX
              have HYI : Hid (an (fun b => ¬ L b) W2 (.slice uq (bw names.length (aW t names nk)).length uc) (bw names.length (aW t names nk))) := zX.ints.sub fun b hb _ hb' => by have := dW.out b hb'; omega
              have fO := ag (oM (fun b => ¬ L b) W2 _ (names.length : Int) (bw names.length (aW t names nk)) HYI.out (by have := HYL.out; omega))
              rw [lE.out] at fO
              have hnb := aL.cell mO.out
              clear aL zX iZ oB
              by_cases h0 : se = 0
              · have ir : Hid (aN names.length (bw names.length (aW t names nk)) = 0) := by unfold Hid; rw [lE.out]; exact h0
                subst h0
                bf (rw [Oper.semAt_eq _ _ _ (fun c h => by cases h)]; aj; try gZ)
                refine ⟨trivial, (callsIn_wide.2 fO.out).mono ?_⟩
                rintro e w' ⟨rfl, rfl⟩
                have hIn := HI.out.grow dW.out S4.out
                obtain ⟨ov, ps, e1, e2, _, e4, _, _, _⟩ := hIn.ex
                obtain ⟨oq, oc, rfl, _⟩ := e2.form (n := ps.length) (by simp)
                have EI := ag e1
                have sv := ag e2
                have ew : Hid (ps.length ≤ 64) := Nat.le_trans e4 HPX.out
                have xQ : W2.cell? ⟨w6.heap.size + 1, 0, none⟩ = some (.slice oq ps.length oc) := by simp [World.cell?, e1]
                have dG : Hid (w6.heap.size + 2 ≤ W2.heap.size) := hIn.sz
                obtain ⟨i0, gC, tE, hz1, iR⟩ := info_parts Tryz.gW
                have sN : W2.ownsRow (w6.heap.size + 2) 26 1 (.slice oq ps.length oc) ps.length (ps.map (·.2)) := by have h := e2; unfold ay at h; rwa [List.length_map] at h
                have Hw := ag sN
                have mV := Up.alloc W2 (.cells #[.slice uq (bw names.length (aW t names nk)).length uc] 26)
                have lS := ag mV
                clear e1 e2 e4 hIn sN mV
                bf (first
                  | (qJ; refine wpListIn_append_own_at _ rfl _ _ 23 rfl (w6.heap.size + 2) 26 i0 (.slice none 0 0) 1 24 Tryz.underlying23 gC tE hz1 iR rfl (by decide) _ _ _ rfl (Hw.out.alloc _) ⟨W2.heap.size, 0, none⟩ 1 1 [.slice uq (bw names.length (aW t names nk)).length uc] rfl rfl (cell_one_new _ _ _) (by simp [Value.oneCell']) (by have := ew.out; unfold maxLen; omega) (by have := ew.out; omega) (by have h1 := dG.out; have h2 := lS.out.size; omega) ?_
                     intro v3 w3 mh hg3 Ch Cv
                     have AP : ay (w6.heap.size + 2) 26 w3 v3 (ps.map (·.2) ++ [.slice uq (bw names.length (aW t names nk)).length uc]) := by unfold ay; rw [List.length_append, List.length_map]; exact mh
                     obtain ⟨Zc, Zd, rfl, _⟩ := AP.form (n := ps.length + 1) (by simp)
                     have S2 := ag AP
                     have jR : Hid (W2.grownBy w3 (Value.slice oq ps.length oc).ownBlock) := gL (lK lS.out _) hg3
                     have S3 : Hid (∀ g, (Value.slice Zc (ps.length + 1) Zd).ownBlock = some g → (Value.slice oq ps.length oc).ownBlock = some g ∨ W2.heap.size ≤ g) := fun g sV => by
                       rcases Cv with e | e
                       · exact .inl (e ▸ sV)
                       · rw [e] at sV; injection sV with sV; rw [← sV]; exact .inr lS.out.size
                     have Ac : w3.heap[w6.heap.size + 1]? = some (Obj.cells #[.slice oq ps.length oc] 23 (0, 0)) := (jR.out.block _ (by have := dG.out; omega) fun e => by have := (aD sv.out e.symm).1; omega).trans EI.out
                     have q3 : w3.cell? ⟨w6.heap.size + 1, 0, none⟩ = some (.slice oq ps.length oc) := by simp [World.cell?, Ac]
                     have q4 : ∀ o, w3.frozen? ⟨w6.heap.size + 1, o, none⟩ = false := fun o => by simp [World.frozen?, Ac]
                     clear mh hg3 Ch Cv AP Ac)
                  | (rw [Oper.semAt_eq _ _ _ (fun c h => by cases h)]; aj; try gZ))
                exact HI.out.Ig (B := w9.heap.size) (x := (nk, .slice xp (aW t names nk).length xc)) (by have := H9.out.2; omega) dW.out S4.out Eo.out (by rw [v8.out]; exact ir.out) ⟨uq, uc, by rw [v8.out]⟩ (by rw [v8.out]; exact HYI.out) (fun g hg => by obtain ⟨c, h⟩ := ay.jr HOU.out hg; exact ⟨c, _, h⟩) EI.out sv.out S2.out jR.out S3.out
              · have d1 : (se == 0) = false := by simpa using h0
                have HZ : Hid (aN names.length (bC names.length (aW t names nk)) ≠ 0) := by unfold Hid; rw [v8.out, lE.out]; exact h0
                clear h0
                bf (rw [Oper.semAt_eq _ _ _ (fun c h => by cases h)]; aj; try gZ)
                refine ⟨trivial, (callsIn_wide.2 fO.out).mono ?_⟩
                rintro e w' ⟨rfl, rfl⟩
                bf (rw [Oper.semAt_eq _ _ _ (fun c h => by cases h)]; aj; try gZ)
                exact HI.out.Ie (B := w9.heap.size) (x := (nk, .slice xp (aW t names nk).length xc)) dW.out S4.out Eo.out HZ.out
          · rintro D xs L W hD hS hI hK
            have hHI := ag hI
            obtain ⟨ov, ps, e1, e2, e3, e4, e5, e6, e7⟩ := hI.ex
            have HUI := ag hI.up
            have hrw : vg (w6.heap.size + 2) W ov ps := ⟨e2, e5, fun p hp => an.sub (e6 p hp) fun b hb _ => hb.1⟩
            have HTY : Hid (∀ p ∈ ps, an (qC W) W p.2 p.1) := fun p hp => an.sub (e6 p hp) fun b hb _ => hb.2.2.2
            have hxl : xs.length ≤ 64 := by
              have h1 := congrArg List.length hS
              rw [List.length_map] at h1
              have h2 := KQ gw.out.te
              have h3 := (aP gw.out.te).2.1
              omega
            have hpl : ps.length ≤ 64 := Nat.le_trans e4 hxl
            have hrl : ∀ p ∈ ps, p.1.length ≤ 32 := fun p hp => by
              have h1 : p.1 ∈ yA t names (xs.map (·.1)) := by rw [← e3]; exact List.mem_map.2 ⟨p, hp, rfl⟩
              have h2 := (iF.1 (of_decide_eq_true (List.mem_filter.1 h1).2)).len
              have h3 := gw.out.le
              omega
            rw [hS] at e3
            obtain ⟨oq, oc, rfl, _⟩ := e2.form (n := ps.length) (by simp)
            have wP := Cn (cf := cmpL) tK (fun h => jo h) j8 (fun h k => oL h k) 97 #[] (enters_of Tryz.func97 (by af) rfl) hrw (by omega) (fun p hp q hq W' kX => by
              have hk : ∀ s ∈ ps, an Any W' s.2 s.1 := fun s hs => (aC.keep (hrw.row s hs) fun b hb fZ => kX.block b fZ fun e => hb e.symm).sub fun _ _ _ => trivial
              exact (PA Any Any W' p.2 q.2 p.1 q.1 (hk p hp) (hk q hq) (by have := hrl p hp; omega) (by have := hrl q hq; omega)).mono fun e w' ⟨he, hw⟩ => ⟨he, by rw [← hw]; exact PM W'⟩)
            have lz := ag wP
            have Il := ag e3
            have ew : Hid (ps.length ≤ 64) := hpl
            have oT : Hid (∀ p ∈ ps, p.1.length ≤ 32) := hrl
            have xQ : W.cell? ⟨w6.heap.size + 1, 0, none⟩ = some (.slice oq ps.length oc) := by simp [World.cell?, e1]
            have JT := ag e1
            have kT := ag e2
            have HK := ag hK
            have HISZ := ag hI.sz
            clear e1 e2 e3 e4 e5 e6 e7 hrw wP hpl hrl hxl hI hS hK
            bf fail
            refine ⟨trivial, (callsIn_wide.2 lz.out).mono ?_⟩
            rintro e o9 ⟨rfl, sY, yD, ux, Io, AQ, Ze⟩
            have HTY10 : Hid (∀ p ∈ yD, an (qC o9) o9 p.2 p.1) := fun p hp => AN (HTY.out p (Ze p hp)) sY (Ih kT.out)
            have Zf : o9.heap[D]? = some (.deferred (some [])) := (sY.block D (Array.getElem?_eq_some_iff.1 HK.out).1 fun e => by
              obtain ⟨c, h⟩ := ay.jr kT.out e.symm
              rw [HK.out] at h; injection h with h; cases h).trans HK.out
            have AA : o9.heap[w6.heap.size + 1]? = some (Obj.cells #[.slice oq ps.length oc] 23 (0, 0)) := (sY.block _ (by have := HISZ.out; omega) fun e => by have := (aD kT.out e.symm).1; omega).trans JT.out
            have xQ := (show o9.cell? ⟨w6.heap.size + 1, 0, none⟩ = some (.slice oq ps.length oc) by simp [World.cell?, AA])
            have uy : Up w6 o9 := Below.grown HUI.out sY HUI.out.size fun k hk => by have := (aD kT.out hk).1; omega
            have MX : yD.length = ps.length := by have := ux.length_eq; simpa using this
            have UT : ∀ p ∈ yD, p.1.length ≤ 32 := fun p hp => by
              obtain ⟨q, hq, e⟩ := List.mem_map.1 (ux.mem_iff.1 (List.mem_map.2 ⟨p, hp, rfl⟩))
              rw [← e]; exact oT.out q hq
            have sW := ag (wZ AQ (by have := ew.out; omega) (fun p hp => by have := UT p hp; omega))
            have yE := ag AQ
            have S5 := ag Zf
            have pU := ag uy
            have uG : Hid (fu (yD.map (·.1)) = aI t names) := by
              rw [Il.out] at ux
              exact PT gw.out ux Io
            clear sY ux Io AQ Ze Zf AA uy MX UT lz
            bf fail
            refine ⟨trivial, (callsIn_wide.2 sW.out).mono ?_⟩
            rintro e cV ⟨uz, v11, Ip, rfl, uA, Zg, Zh⟩
            have HTY11 : Hid (∀ p ∈ Ip, an (qC cV) cV p.2 p.1) := fun p hp => AN (HTY10.out p (Zh p hp)) uz (Ih yE.out.own)
            have Zi : cV.heap[D]? = some (.deferred (some [])) := (uz.block D (Array.getElem?_eq_some_iff.1 S5.out).1 fun e => by
              obtain ⟨c, h⟩ := ay.jr yE.out.own e.symm
              rw [S5.out] at h; injection h with h; cases h).trans S5.out
            have Dc : Up w6 cV := Below.grown pU.out uz pU.out.size fun k hk => by have := (aD yE.out.own hk).1; omega
            rw [uG.out] at uA
            have HP11 := ag uA
            have HR11 := ag Zg
            have HU11 := ag Dc
            have Zj := ag Zi
            clear uz uA Zg Zh Dc Zi sW xQ
            bf fail
            have hq : ∀ b, b ≠ D → (cV.putObj D (.deferred none)).heap[b]? = cV.heap[b]? := fun b hb => World.putObj_heap_other hb
            have hu := mE.out.trans HU11.out
            have YY := mE.out.size
            have Ct := H9.out.2
            obtain ⟨f, mB, wQ⟩ := HR11.out.rowsT HTY11.out
            rw [HP11.out] at mB wQ
            have hgd : cV.grownBy (cV.putObj D (.deferred none)) (some D) := grownBy_putObj' cV D _
            have hrd : ∀ r, some D = some r → ∃ o, cV.heap[r]? = some o ∧ o.isCells = false := fun r e => by injection e with e; subst e; exact ⟨_, Zj.out, rfl⟩
            refine ⟨by simp, .inl ⟨_, _, rfl, run_takeDeferred Zj.out, ?_⟩⟩
            exact ⟨.tuple #[v11, .int .i64 0], by simp [results, Tryz.results23, go_sem], ⟨hu.os, hu.tape, hu.output, by have h := hu.size; simpa using h, fun b hb => (hq b (by omega)).trans (hu.block b hb)⟩, v11, by rw [HZ.out], f, (aC.grown mB hgd hrd).sub (fun b hb _ => by have : w6.heap.size + 2 ≤ b := hb; omega), fun k hk => AN (wQ k hk) hgd fun r e ht => by
              obtain ⟨o, h1, h2⟩ := hrd r e
              obtain ⟨c, z, h3⟩ := ht
              rw [h3] at h1; injection h1 with h1; subst h1; cases h2⟩
        · rw [nS] at K8
          have HZ : Hid (aT t names = 9) := by unfold Hid; rw [Il.out, if_pos (.inr nS)]
          clear nS
          bf fail
          refine ⟨trivial, (callsIn_wide.2 K8.out).mono ?_⟩
          rintro e w6 ⟨rfl, nq, rfl⟩
          bf fail
          exact ⟨.tuple #[.slice none 0 0, .int .i64 9], by simp [results, Tryz.results23, go_sem], yC HZ.out (by decide) (ic.out.trans (Up.drewN _ _))⟩
      · have HZ : Hid (aT t names = 9) := by unfold Hid; rw [Il.out, if_pos (.inl o6)]
        have d1 : (((bD t.ns).length : Int) == (names.length : Int)) = false := beq_eq_false_iff_ne.2 (by omega)
        have d2 : (((bD t.ns).length : Int) != (names.length : Int)) = true := by rw [bne, d1]; rfl
        clear o6
        bf fail
        rename_i hkk
        refine ⟨trivial, hkk _ _ ?_⟩
        bf fail
        exact ⟨.tuple #[.slice none 0 0, .int .i64 9], by simp [results, Tryz.results23, go_sem], yC HZ.out (by decide) ic.out⟩
theorem zi (S : Nat → Prop) (w : World) (v vs : Value) (t : aJ) (names : List ByteArray) (hT : aO S w v t) (hV : aG S w vs names) (hp : t.ps.length ≤ 1000000) (hn : t.ns.length ≤ 1000000) (hz : ∀ k, (gs t.ns k).size ≤ 70000) (hnl : names.length ≤ 1000000) :
  Calls Tryz.prog 23 #[v, vs] w (oS w t names) := (SZ S w v vs t names hT hV hp hn hz hnl).mono fun _ _ ⟨h1, u, h2, f, h3, h4⟩ => ⟨h1, u, h2, f, h3.sub fun _ _ _ => trivial, fun k hk => (h4 k hk).sub fun _ _ _ => trivial⟩
end Go.Proofs.YtpnmblnahjjmhaaGreat
