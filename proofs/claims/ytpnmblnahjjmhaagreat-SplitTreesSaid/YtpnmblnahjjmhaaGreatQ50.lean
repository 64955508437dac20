/- The example of chapter 32: awake. The laws SplitConflicts, SplitBack: plain. The contract of layer 31's reference's Parse. The arguments of a law, opened; the frame of a law's proof. -/
import Derived.Test.YtpnmblnahjjmhaaGreatQ1
import Derived.Test.YtpnmblnahjjmhaaGreatQ46
import Derived.Test.YtpnmblnahjjmhaaGreatQ39
import Derived.Test.YtpnmblnahjjmhaaGreatQ45
import Derived.Test.YtpnmblnahjjmhaaGreatQ26
import Derived.Test.YtpnmblnahjjmhaaGreatQ20
import Derived.Deep.RegionHeld3
import Derived.Test.YtpnmblnahjjmhaaGreatQ31
import Derived.Test.YtpnmblnahjjmhaaGreatQ40
import Derived.Test.YtpnmblnahjjmhaaGreatQ35
import Derived.Test.YtpnmblnahjjmhaaGreatQ25
import Derived.Test.YtpnmblnahjjmhaaGreatQ18
import Derived.Test.YtpnmblnahjjmhaaGreatRows
import Derived.WalkKit
import Derived.ProofKit
import Derived.OpenShut
import Derived.ShutString
import Derived.ChangeOld
import Derived.Below
import Derived.Deep.Matrix
import Derived.Lib.SmallJoins
import Derived.Test.YtpnmblnahjjmhaaGreatQ3
namespace Go.Proofs.YtpnmblnahjjmhaaGreat
set_option maxRecDepth 100000
section
open Go.RowKit Go.Deep
@[go_sem high] theorem run_max7z (w : World) (ts : Array TypeId) (t : TypeId) (k : IntKind) : (Builtin.max_ ts t #[.int k 0, .int k 0, .int k 0, .int k 0, .int k 0, .int k 0, .int k 0]).run Tryz.prog w = .ok (.int k 0) w := by
 simp [Builtin.max_, Builtin.max2]
theorem qh {α : Type} {P : α → Prop} {l : List α} {d : α} (h : ∀ x ∈ l, P x) (hd : P d) (k : Nat) : P (l.getD k d) := by
 by_cases hk : k < l.length
 ·have : l.getD k d = l[k] := by simp [hk]
  rw [this]; exact h _ (List.getElem_mem hk)
 ·have : l.getD k d = d := by simp [show l.length ≤ k by omega]
  rw [this]; exact hd
theorem Jc (k : Nat) : (gs tX.ns k).size ≤ 70000 := qh (P := fun x : ByteArray => x.size ≤ 70000) (by decide) (by decide) k
theorem Jd (k : Nat) : (gs uX.ns k).size ≤ 70000 := qh (P := fun x : ByteArray => x.size ≤ 70000) (by decide) (by decide) k
theorem Nj (k : Nat) : (gs mu k).size ≤ 70000 := qh (P := fun x : ByteArray => x.size ≤ 70000) (by decide) (by decide) k
theorem Ba (k : Nat) : (gl [[2, 3]] k).length ≤ 1000000 := qh (P := fun x : List Int => x.length ≤ 1000000) (by decide) (by decide) k
theorem uX_str : (⟨(KC uX).toArray⟩ : ByteArray) = ⟨#[40, 65, 44, 40, 66, 44, 40, 67, 44, 68, 41, 41, 41, 59]⟩ := by rw [U4.2]
theorem Vi (w : World) : aR Any ((w.alloc (.cells #[.int .i64 2, .int .i64 3] 3)).alloc (.cells #[.slice (some ⟨w.heap.size, 0, none⟩) 2 2] 26)) (.slice (some ⟨w.heap.size + 1, 0, none⟩) 1 1) [[2, 3]] := by
 have h1 := AE w #[.int .i64 2, .int .i64 3] 3 [2, 3] rfl 2 rfl
 refine ⟨fun _ => .slice (some ⟨w.heap.size, 0, none⟩) 2 2, ⟨_, _, rfl, Nat.le_refl _, .inr ⟨_, 0, rfl, trivial, fun k hk => ?_⟩⟩, fun k hk => ?_⟩
 ·have jf : k < 1 := hk
  obtain rfl : k = 0 := by omega
  have h := ig (w.alloc (.cells #[.int .i64 2, .int .i64 3] 3)) (.slice (some ⟨w.heap.size, 0, none⟩) 2 2) 26
  rwa [World.size_alloc] at h
 ·have jf : k < 1 := hk
  obtain rfl : k = 0 := by omega
  exact an.keep h1 ((Up.alloc _ _).kept _)
set_option maxHeartbeats 4000000 in
theorem QO (w : World) : Calls Tryz.prog 32 #[] w fun e w' => e = .returned (.bool true) ∧ Up w w' := by
 have G2 : Hid (Calls Tryz.prog 105 #[.string Lg] w (G3 w Lg)) := KG w Lg (by decide) (UE Lg (by decide))
 have HF := ag ZV
 aq Tryz.func32, Tryz.ntmps32
 aa fail
 refine G2.out.mono ?_
 rintro e w1 ⟨cK, v1, rfl, ht1⟩
 rw [Qo.1]
 rw [Qo.2] at ht1
 obtain ⟨P1, N1, rfl, wL, Dt⟩ := ht1
 obtain ⟨pp, pc, rfl, _, _⟩ := aC.open wL
 obtain ⟨np, nc, rfl, _, _⟩ := aC.open Dt
 have wL : an Any w1 (.slice pp tX.ps.length pc) tX.ps := wL
 have Dt : aG Any w1 (.slice np tX.ns.length nc) tX.ns := Dt
 have aL := Up.alloc w1 (.cells #[.slice pp tX.ps.length pc, .slice np tX.ns.length nc] 39)
 have gN := ag (dg w1 (.slice pp tX.ps.length pc) (.slice np tX.ns.length nc) 39)
 have gU := ag (dy w1 (.slice pp tX.ps.length pc) (.slice np tX.ns.length nc) 39)
 have zM : Hid (aO Any (w1.alloc (.cells #[.slice pp tX.ps.length pc, .slice np tX.ns.length nc] 39)) (.agg #[.slice pp tX.ps.length pc, .slice np tX.ns.length nc]) tX) := aO.keep ⟨_, _, rfl, wL, Dt⟩ (aL.kept _)
 have cM := ag (cK.trans aL)
 clear cK aL wL Dt G2
 aa fail
 generalize w1.alloc (.cells #[.slice pp tX.ps.length pc, .slice np tX.ns.length nc] 39) = w2 at *
 refine (KG w2 U0 (by decide) (UE U0 (by decide))).mono ?_
 rintro e w3 ⟨cL, v3, rfl, ht3⟩
 rw [Qp.1]
 rw [Qp.2] at ht3
 obtain ⟨P3, N3, rfl, QS, QT⟩ := ht3
 obtain ⟨EY, EZ, rfl, _, _⟩ := aC.open QS
 obtain ⟨E0, E1, rfl, _, _⟩ := aC.open QT
 have QS : an Any w3 (.slice EY uX.ps.length EZ) uX.ps := QS
 have QT : aG Any w3 (.slice E0 uX.ns.length E1) uX.ns := QT
 have eG := Up.alloc w3 (.cells #[.slice EY uX.ps.length EZ, .slice E0 uX.ns.length E1] 39)
 have Je := cL.trans eG
 have iZ := ag (dg w3 (.slice EY uX.ps.length EZ) (.slice E0 uX.ns.length E1) 39)
 have eH := ag (dy w3 (.slice EY uX.ps.length EZ) (.slice E0 uX.ns.length E1) 39)
 have HTU : Hid (aO Any (w3.alloc (.cells #[.slice EY uX.ps.length EZ, .slice E0 uX.ns.length E1] 39)) (.agg #[.slice EY uX.ps.length EZ, .slice E0 uX.ns.length E1]) uX) := aO.keep ⟨_, _, rfl, QS, QT⟩ (eG.kept _)
 have J8 := ag (zM.out.keep (Je.kept _))
 have TT := ag (Je.cell gN.out)
 have TU := ag (Je.cell gU.out)
 have gd := ag (cM.out.trans Je)
 clear cL eG Je QS QT zM gN gU cM
 aa fail
 generalize w3.alloc (.cells #[.slice EY uX.ps.length EZ, .slice E0 uX.ns.length E1] 39) = w4 at *
 have bG : Hid (Up w4 (w4.drewN 1)) := Up.drewN w4 1
 js (fun w' => Hid (Up w4 w') ∧ w'.cell? ⟨w1.heap.size, 0, none⟩ = some (.slice pp tX.ps.length pc) ∧ w'.cell? ⟨w1.heap.size, 1, none⟩ = some (.slice np tX.ns.length nc)) (exact ⟨bG, bG.out.cell TT.out, bG.out.cell TU.out⟩) (first
  | (bg 106; refine (HF.out _).mono ?_; rintro e w5 ⟨K7, v5, rfl, hs5⟩; have sH := ag hs5; have bG : Hid (Up w4 w5) := bG.out.trans K7; clear K7 hs5)
  | (bg 23; refine (zi Any _ _ _ tX mu (J8.out.keep (bG.out.kept _)) sH.out (by decide) (by decide) Jc (by decide)).mono ?_; rintro e w6 ⟨hb6, v6, rfl, Ow⟩; rw [U1.1]; rw [U1.2] at Ow; have HR6 := ag Ow; have bG : Hid (Up w4 w6) := bG.out.trans hb6; clear hb6 Ow))
 have mE := ag (gd.out.trans bG.out)
 have Uz := ag (J8.out.keep (bG.out.kept _))
 have HTU6 := ag (HTU.out.keep (bG.out.kept _))
 have HB06 := ag (bG.out.cell TT.out)
 have HB16 := ag (bG.out.cell TU.out)
 have HC06 := ag (bG.out.cell iZ.out)
 have HC16 := ag (bG.out.cell eH.out)
 clear bG J8 HTU TT TU iZ eH gd sH
 aa fail
 have bG : Hid (Up w6 (w6.drewN 1)) := Up.drewN w6 1
 js (fun w' => Hid (Up w6 w') ∧ w'.cell? ⟨w1.heap.size, 0, none⟩ = some (.slice pp tX.ps.length pc) ∧ w'.cell? ⟨w1.heap.size, 1, none⟩ = some (.slice np tX.ns.length nc) ∧ w'.cell? ⟨w3.heap.size, 0, none⟩ = some (.slice EY uX.ps.length EZ) ∧ w'.cell? ⟨w3.heap.size, 1, none⟩ = some (.slice E0 uX.ns.length E1)) (exact ⟨bG, bG.out.cell HB06.out, bG.out.cell HB16.out, bG.out.cell HC06.out, bG.out.cell HC16.out⟩) (first
  | (bg 106; refine (HF.out _).mono ?_; rintro e w7 ⟨hb7, v7, rfl, Im⟩; have Ls := ag Im; have bG : Hid (Up w6 w7) := bG.out.trans hb7; clear hb7 Im)
  | (bg 37; refine (Cx Any _ _ _ _ tX uX mu (Uz.out.keep (bG.out.kept _)) (HTU6.out.keep (bG.out.kept _)) Ls.out (by decide) (by decide) Jc (by decide) (by decide) Jd (by decide)).mono ?_; rintro e w8 ⟨rfl, kB⟩; rw [U2.1, U2.2]; have bG : Hid (Up w6 w8) := bG.out.trans kB; clear kB))
 have E2 := ag (mE.out.trans bG.out)
 have HR8 := ag (HR6.out.keep (bG.out.kept _))
 have h9 := (Up.alloc w8 (.cells #[.int .i64 1, .int .i64 2] 3)).trans (Up.alloc _ (.cells #[.int .i64 2, .int .i64 3] 3))
 have hA9 := an.keep (AE w8 #[.int .i64 1, .int .i64 2] 3 [1, 2] rfl 2 rfl) ((Up.alloc (w8.alloc (.cells #[.int .i64 1, .int .i64 2] 3)) (.cells #[.int .i64 2, .int .i64 3] 3)).kept _)
 have hB9 := AE (w8.alloc (.cells #[.int .i64 1, .int .i64 2] 3)) #[.int .i64 2, .int .i64 3] 3 [2, 3] rfl 2 rfl
 have uG := ag (Ii Any _ _ _ 4 [1, 2] [2, 3] hA9 hB9 (by decide) (by decide))
 have LI := ag (E2.out.trans h9)
 have Va := ag (HR8.out.keep (h9.kept _))
 rw [World.size_alloc] at uG
 clear bG h9 hA9 hB9 Uz HTU6 HB06 HB16 HC06 HC16 mE E2 HR6 HR8 Ls
 aa fail
 generalize (w8.alloc (.cells #[.int .i64 1, .int .i64 2] 3)).alloc (.cells #[.int .i64 2, .int .i64 3] 3) = w9 at *
 refine uG.out.mono ?_
 rintro e o9 ⟨rfl, uy⟩
 rw [Zy.1, Zy.2]
 have pU := ag (LI.out.trans uy)
 have yE := ag (Va.out.keep (uy.kept _))
 clear uy uG LI Va
 aa fail
 refine (HF.out o9).mono ?_
 rintro e cV ⟨Dc, v11, rfl, hs11⟩
 have h12 := (Up.alloc cV (.cells #[.int .i64 2, .int .i64 3] 3)).trans (Up.alloc _ (.cells #[.slice (some ⟨cV.heap.size, 0, none⟩) 2 2] 26))
 have jk := ag (Lm Any _ _ _ mu [[2, 3]] (aG.keep hs11 (h12.kept _)) (Vi cV) (by decide) Nj (by decide) Ba)
 have Nk := ag (pU.out.trans (Dc.trans h12))
 have HR12 := ag (yE.out.keep ((Dc.trans h12).kept _))
 clear Dc hs11 h12 pU yE
 aa fail
 generalize (cV.alloc (.cells #[.int .i64 2, .int .i64 3] 3)).alloc (.cells #[.slice (some ⟨cV.heap.size, 0, none⟩) 2 2] 26) = Vj at *
 refine jk.out.mono ?_
 rintro e yQ ⟨A3, v13, rfl, ht13⟩
 rw [U3.1]
 rw [U3.2] at ht13
 obtain ⟨P5, N5, rfl, QU, QV⟩ := ht13
 obtain ⟨Jf, Jg, rfl, _, _⟩ := aC.open QU
 obtain ⟨Jh, Ji, rfl, _, _⟩ := aC.open QV
 have QU : an Any yQ (.slice Jf uX.ps.length Jg) uX.ps := QU
 have QV : aG Any yQ (.slice Jh uX.ns.length Ji) uX.ns := QV
 have Nl := Up.alloc yQ (.cells #[.slice Jf uX.ps.length Jg, .slice Jh uX.ns.length Ji] 39)
 have b0 := dg yQ (.slice Jf uX.ps.length Jg) (.slice Jh uX.ns.length Ji) 39
 have b1 := dy yQ (.slice Jf uX.ps.length Jg) (.slice Jh uX.ns.length Ji) 39
 have HT14 : Hid (aO Any (yQ.alloc (.cells #[.slice Jf uX.ps.length Jg, .slice Jh uX.ns.length Ji] 39)) (.agg #[.slice Jf uX.ps.length Jg, .slice Jh uX.ns.length Ji]) uX) := aO.keep ⟨_, _, rfl, QU, QV⟩ (Nl.kept _)
 have wT := ag (VL Any _ _ uX HT14.out (by decide) (by decide) Jd)
 have nC := ag (Nk.out.trans (A3.trans Nl))
 have TV := ag (HR12.out.keep ((A3.trans Nl).kept _))
 clear A3 Nl QU QV Nk HR12 jk HT14
 aa fail
 generalize yQ.alloc (.cells #[.slice Jf uX.ps.length Jg, .slice Jh uX.ns.length Ji] 39) = EO at *
 refine wT.out.mono ?_
 rintro e Jj ⟨wA, rfl⟩
 rw [U4.1, uX_str]
 obtain ⟨rp, rc, hrv, _, _⟩ := dF TV.out
 subst hrv
 have BQ := (Up.alloc Jj (.cells #[.int .i64 2, .int .i64 3] 3)).trans (Up.alloc _ (.cells #[.slice (some ⟨Jj.heap.size, 0, none⟩) 2 2] 26))
 have lH := ag (Ad Any Any _ _ _ [[2, 3]] [[2, 3]] (TV.out.keep ((wA.trans BQ).kept _)) (Vi Jj) (by decide) (by decide) Ba Ba)
 have TW := ag (nC.out.trans (wA.trans BQ))
 clear wA BQ b0 b1 nC TV wT
 aa fail
 generalize (Jj.alloc (.cells #[.int .i64 2, .int .i64 3] 3)).alloc (.cells #[.slice (some ⟨Jj.heap.size, 0, none⟩) 2 2] 26) = w16 at *
 refine lH.out.mono ?_
 rintro e w17 ⟨rfl, n17, rfl⟩
 aa fail
 ax
 exact ⟨aZ (by decide), TW.out.trans (Up.drewN _ _)⟩
end
section
open Go.RowKit Go.Deep
theorem TX {names : List ByteArray} {l : List (List Int)} (h : dJ names l = 0) : aT (cr names l) names = 0 ∧ aI (cr names l) names = qI l ∧ aK (cr names l) = 0 := by
 have hk := yt.1 h
 have hr : cr names l = qK names l := by unfold cr; rw [if_pos h]
 rw [hr]
 by_cases h3 : 3 ≤ names.length
 ·obtain ⟨a, b⟩ := Ik hk (yH hk h3)
  exact ⟨nT.2 a, b, a.te⟩
 ·have hf := hk.UR (by omega)
  have mD : 3 + (aM l).length + (names.length - 1) ≤ 64 := by rw [hf]; simp [aM, vU, fu]; omega
  obtain ⟨a, b⟩ := Ik hk mD
  exact ⟨nT.2 a, b, a.te⟩
end
section
open Go.RowKit Go.Deep
end
section
open Go.ChangeShapes Go.WideShapes Go.ChangeAt Go.RowKit Go.Deep
theorem TY : ownKnob Tryz.prog.godebug = none := by af
theorem laidOut : laidOutB Tryz.prog = true := by af
section
variable {H : Type} {enc : TypeId × Value → H} {W : World}
theorem vm {n : Nat} (h : n ≤ maxLen) : n ≤ 9223372036854775807 := by unfold maxLen at h; exact h
theorem Nn {fuel : Nat} {v : Value} {x : DataW H × List MemPlace} (h : DataW.trod enc Tryz.prog W 0 (fun _ => true) true fuel 26 [v] = some x) : ∃ xs : List Int, an Any W v xs ∧ xs.length ≤ 9223372036854775807 := by
 rcases open_ints Tryz.underlying26 Tryz.underlying3 (by af) h with ⟨hcs, _⟩ | ⟨a, l, c, zs, hcs, _, hl, hm, hz, _, hcell, _⟩
 ·obtain rfl : v = .slice none 0 0 := by simpa using hcs
  exact ⟨[], ⟨none, 0, rfl, Nat.le_refl _, .inl rfl⟩, by simp⟩
 ·obtain rfl : v = .slice (some a) l c := by simpa using hcs
  simp only [if_true] at hz
  have hlen : (zs.take l).length = l := by simp; omega
  refine ⟨zs.take l, ⟨some a, c, by rw [hlen], by rw [hlen]; exact hl, ?_⟩, by rw [hlen]; exact vm (Nat.le_trans hl hm)⟩
  by_cases h0 : l = 0
  ·exact .inl (by rw [hlen]; exact h0)
  ·obtain ⟨b, off, rfl, hc⟩ := ints_at hcell (by omega)
   refine .inr ⟨b, off, rfl, trivial, fun k hk => ?_⟩
   rw [hlen] at hk
   rw [hc k (by omega)]
   simp [gi, hk]
theorem CG {fuel : Nat} {v : Value} {x : DataW H × List MemPlace} (h : DataW.trod enc Tryz.prog W 0 (fun _ => true) true fuel 22 [v] = some x) : ∃ xs : List ByteArray, aG Any W v xs ∧ xs.length ≤ 9223372036854775807 ∧ ∀ k, (gs xs k).size ≤ 9223372036854775807 := by
 rcases open_strings Tryz.underlying22 Tryz.underlying9 (by af) h with ⟨hcs, _⟩ | ⟨a, l, c, zs, hcs, _, hl, hm, hz, _, hcell, hwf⟩
 ·obtain rfl : v = .slice none 0 0 := by simpa using hcs
  exact ⟨[], ⟨none, 0, rfl, Nat.le_refl _, .inl rfl⟩, by simp, fun k => by simp [gs]⟩
 ·obtain rfl : v = .slice (some a) l c := by simpa using hcs
  simp only [if_true] at hz
  have hlen : (zs.take l).length = l := by simp; omega
  refine ⟨zs.take l, ⟨some a, c, by rw [hlen], by rw [hlen]; exact hl, ?_⟩, by rw [hlen]; exact vm (Nat.le_trans hl hm), fun k => ?_⟩
  ·by_cases h0 : l = 0
   ·exact .inl (by rw [hlen]; exact h0)
   ·obtain ⟨b, off, spot⟩ := a
    have Np : spot = none := by simpa [Addr.add] using World.cell?_spot (hcell 0 (by omega))
    subst Np
    refine .inr ⟨b, off, rfl, trivial, fun k hk => ?_⟩
    rw [hlen] at hk
    rw [← add_plain, hcell k (by omega)]
    have hk2 : k < zs.length := by omega
    simp [gs, hk, hk2]
  ·by_cases hk : k < (zs.take l).length
   ·have hm : gs (zs.take l) k ∈ zs := by
     have : gs (zs.take l) k = (zs.take l)[k] := by unfold gs; rw [List.getD_eq_getElem?_getD, List.getElem?_eq_getElem hk]; rfl
     rw [this]; exact List.mem_of_mem_take (List.getElem_mem hk)
    exact vm (hwf _ hm)
   ·have : gs (zs.take l) k = ByteArray.empty := by simp [gs, List.getElem?_eq_none (by omega : (zs.take l).length ≤ k)]
    rw [this]; simp
theorem Nq {fuel : Nat} {v : Value} {x : DataW H × List MemPlace} (h : DataW.trod enc Tryz.prog W 0 (fun _ => true) true fuel 23 [v] = some x) : ∃ xs : List (List Int), aR Any W v xs ∧ xs.length ≤ 9223372036854775807 ∧ ∀ k, (gl xs k).length ≤ 9223372036854775807 := by
 rcases open_int_rows Tryz.underlying23 Tryz.underlying26 Tryz.underlying3 (by af) (by af) h with ⟨hcs, _⟩ | ⟨a, l, c, A, L, C, Z, hcs, _, hl, hm, _, hr⟩
 ·obtain rfl : v = .slice none 0 0 := by simpa using hcs
  exact ⟨[], ⟨fun _ => undef, ⟨none, 0, rfl, Nat.le_refl _, .inl rfl⟩, fun k hk => absurd hk (Nat.not_lt_zero _)⟩, by simp, fun k => by simp [gl]⟩
 ·obtain rfl : v = .slice (some a) l c := by simpa using hcs
  have hlen : ((List.range l).map fun r => (Z r).take (L r)).length = l := by simp
  have th : ∀ k, k < l → gl ((List.range l).map fun r => (Z r).take (L r)) k = (Z k).take (L k) := fun k hk => by simp [gl, hk]
  have QW : ∀ k, k < l → ((Z k).take (L k)).length = L k := fun k hk => by obtain ⟨_, h1, _, h3, _⟩ := hr k (by omega); simp; omega
  refine ⟨(List.range l).map fun r => (Z r).take (L r), ⟨fun k => .slice (A k) (L k) (C k), ⟨some a, c, by rw [hlen], by rw [hlen]; exact hl, ?_⟩, fun k hk => ?_⟩, by rw [hlen]; exact vm (Nat.le_trans hl hm), fun k => ?_⟩
  ·by_cases h0 : l = 0
   ·exact .inl (by rw [hlen]; exact h0)
   ·obtain ⟨b, off, spot⟩ := a
    have Np : spot = none := by simpa [Addr.add] using World.cell?_spot (hr 0 (by omega)).1
    subst Np
    refine .inr ⟨b, off, rfl, trivial, fun k hk => ?_⟩
    rw [hlen] at hk
    rw [← add_plain]; exact (hr k (by omega)).1
  ·rw [hlen] at hk
   obtain ⟨_, h1, h2, h3, _, h5, h6⟩ := hr k (by omega)
   rw [th k hk]
   refine ⟨A k, C k, by rw [QW k hk], by rw [QW k hk]; exact h1, ?_⟩
   by_cases h0 : L k = 0
   ·exact .inl (by rw [QW k hk]; exact h0)
   ·cases hA : A k with
    | none => have := h5 hA; omega
    | some a' =>
     obtain ⟨_, h7⟩ := h6 a' hA
     obtain ⟨b, off, rfl, hc⟩ := ints_at (zs := Z k) (k := .i64) (fun i hi => h7 i (by omega)) (by omega)
     refine .inr ⟨b, off, rfl, trivial, fun j hj => ?_⟩
     rw [QW k hk] at hj
     rw [hc j (by omega)]
     simp [gi, hj]
  ·by_cases hk : k < l
   ·rw [th k hk, QW k hk]
    obtain ⟨_, h1, h2, _⟩ := hr k (by omega)
    exact vm (Nat.le_trans h1 h2)
   ·have : gl ((List.range l).map fun r => (Z r).take (L r)) k = [] := by simp [gl, hk]
    rw [this]; simp
theorem CH {v : Value} {d : DataW H} {p : List MemPlace} {base : Nat} (hv : Value.okWide Tryz.prog W .any base 39 v) (h : DataW.Trod enc Tryz.prog W 0 (fun _ => true) true 39 v d p) :
  ∃ t : aJ, aO Any W v t ∧ t.ps.length ≤ 9223372036854775807 ∧ t.ns.length ≤ 9223372036854775807 ∧ ∀ k, (gs t.ns k).size ≤ 9223372036854775807 := by
 obtain ⟨c0, c1, y0, y1, m, rfl, _, _, h0, h1⟩ := Joins.open_agg2 Tryz.underlying39 (by af) (by af) hv h
 obtain ⟨ps, hp, hpl⟩ := Nn h0
 obtain ⟨ns, hn, hnl, Bv⟩ := CG h1
 exact ⟨⟨ps, ns⟩, ⟨c0, c1, rfl, hp, hn⟩, hpl, hnl, Bv⟩
theorem Jk {t : TypeId} {v : Value} {d : DataW H} {p : List MemPlace} (h1 : v.cells = #[v]) (h : DataW.Trod enc Tryz.prog W 0 (fun _ => true) true t v d p) : ∃ fuel, DataW.trod enc Tryz.prog W 0 (fun _ => true) true fuel t [v] = some (d, p) := by
 obtain ⟨n, hn⟩ := h
 rw [h1] at hn; exact ⟨n, hn⟩
theorem Fm {t : TypeId} {v : Value} {d : DataW H} {p : List MemPlace} (h : DataW.Trod enc Tryz.prog W 0 (fun _ => true) true t v d p) : ∀ x ∈ p, x.block < W.heap.size := by
 obtain ⟨m, hm⟩ := h; exact DataW.trod_lt m _ _ _ hm
theorem Nr {v : Value} {d : DataW H} {p : List MemPlace} {base : Nat} (hv : Value.okWide Tryz.prog W .any base 23 v) (h : DataW.Trod enc Tryz.prog W 0 (fun _ => true) true 23 v d p) : ∃ xs : List (List Int), aR Any W v xs ∧ xs.length ≤ 9223372036854775807 ∧ ∀ k, (gl xs k).length ≤ 9223372036854775807 := by
 obtain ⟨a, l, c, rfl⟩ := okWide_slice Tryz.underlying23 hv
 obtain ⟨n, hn⟩ := Jk rfl h
 exact Nq hn
end
end
end Go.Proofs.YtpnmblnahjjmhaaGreat
