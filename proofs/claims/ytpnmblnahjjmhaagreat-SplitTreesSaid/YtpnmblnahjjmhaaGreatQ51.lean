/- The example of chapter 32: awake. The laws SplitConflicts, SplitBack: plain. The contract .. -/
import Derived.Test.YtpnmblnahjjmhaaGreatQ1
import Derived.Test.YtpnmblnahjjmhaaGreatQ47
import Derived.Test.YtpnmblnahjjmhaaGreatQ40
import Derived.Test.YtpnmblnahjjmhaaGreatQ46
import Derived.Test.YtpnmblnahjjmhaaGreatQ27
import Derived.Test.YtpnmblnahjjmhaaGreatQ20
import Derived.Deep.RegionHeld3
import Derived.Test.YtpnmblnahjjmhaaGreatQ32
import Derived.Test.YtpnmblnahjjmhaaGreatQ41
import Derived.Test.YtpnmblnahjjmhaaGreatQ36
import Derived.Test.YtpnmblnahjjmhaaGreatQ26
import Derived.Test.YtpnmblnahjjmhaaGreatQ18
import Derived.Test.YtpnmblnahjjmhaaGreatRows
import Derived.WalkKit
import Derived.ProofKit
import Derived.OpenShut
import Derived.ShutString
import Derived.ChangeOld
import Derived.Below
import Derived.Deep.Matrix
import Derived.Lib.SmallJoins
import Derived.Test.YtpnmblnahjjmhaaGreatQ3
set_option maxRecDepth 100000
namespace Go.Proofs.YtpnmblnahjjmhaaGreat
section
open Go.RowKit Go.Deep
@[go_sem high] theorem run_max7z (w : World) (ts : Array TypeId) (t : TypeId) (k : IntKind) : (Builtin.max_ ts t #[.int k 0, .int k 0, .int k 0, .int k 0, .int k 0, .int k 0, .int k 0]).run Tryz.prog w = .ok (.int k 0) w := by
 simp [Builtin.max_, Builtin.max2]
theorem o8 {α : Type} {P : α → Prop} {l : List α} {d : α} (h : ∀ x ∈ l, P x) (hd : P d) (k : Nat) : P (l.getD k d) := by
 by_cases hk : k < l.length
 ·have : l.getD k d = l[k] := by simp [hk]
  rw [this]; exact h _ (List.getElem_mem hk)
 ·have : l.getD k d = d := by simp [show l.length ≤ k by omega]
  rw [this]; exact hd
theorem Jd (k : Nat) : (gs tX.ns k).size ≤ 70000 := o8 (P := fun x : ByteArray => x.size ≤ 70000) (by decide) (by decide) k
theorem Je (k : Nat) : (gs uX.ns k).size ≤ 70000 := o8 (P := fun x : ByteArray => x.size ≤ 70000) (by decide) (by decide) k
theorem Ni (k : Nat) : (gs lq k).size ≤ 70000 := o8 (P := fun x : ByteArray => x.size ≤ 70000) (by decide) (by decide) k
theorem AR (k : Nat) : (gl [[2, 3]] k).length ≤ 1000000 := o8 (P := fun x : List Int => x.length ≤ 1000000) (by decide) (by decide) k
theorem uX_str : (⟨(KB uX).toArray⟩ : ByteArray) = ⟨#[40, 65, 44, 40, 66, 44, 40, 67, 44, 68, 41, 41, 41, 59]⟩ := by rw [U6.2]
theorem Vj (w : World) : aJ Any ((w.alloc (.cells #[.int .i64 2, .int .i64 3] 3)).alloc (.cells #[.slice (some ⟨w.heap.size, 0, none⟩) 2 2] 26)) (.slice (some ⟨w.heap.size + 1, 0, none⟩) 1 1) [[2, 3]] := by
 have h1 := Ai w #[.int .i64 2, .int .i64 3] 3 [2, 3] rfl 2 rfl
 refine ⟨fun _ => .slice (some ⟨w.heap.size, 0, none⟩) 2 2, ⟨_, _, rfl, Nat.le_refl _, .inr ⟨_, 0, rfl, trivial, fun k hk => ?_⟩⟩, fun k hk => ?_⟩
 ·have iI : k < 1 := hk
  obtain rfl : k = 0 := by omega
  have h := gG (w.alloc (.cells #[.int .i64 2, .int .i64 3] 3)) (.slice (some ⟨w.heap.size, 0, none⟩) 2 2) 26
  rwa [World.size_alloc] at h
 ·have iI : k < 1 := hk
  obtain rfl : k = 0 := by omega
  exact af.keep h1 ((Up.alloc _ _).kept _)
set_option maxHeartbeats 4000000 in
theorem QK (w : World) : Calls Tryz.prog 32 #[] w fun e w' => e = .returned (.bool true) ∧ Up w w' := by
 have G0 : Hid (Calls Tryz.prog 105 #[.string Ld] w (G1 w Ld)) := KF w Ld (by decide) (UG Ld (by decide))
 have HF := aa Z0
 go_enter Tryz.func32, Tryz.ntmps32
 go_wp2_with fail
 refine G0.out.mono ?_
 rintro e w1 ⟨bO, v1, rfl, ht1⟩
 rw [Ql.1]
 rw [Ql.2] at ht1
 obtain ⟨P1, N1, rfl, wh, Di⟩ := ht1
 obtain ⟨pp, pc, rfl, _, _⟩ := av.open wh
 obtain ⟨np, nc, rfl, _, _⟩ := av.open Di
 have wh : af Any w1 (.slice pp tX.ps.length pc) tX.ps := wh
 have Di : ay Any w1 (.slice np tX.ns.length nc) tX.ns := Di
 have aC := Up.alloc w1 (.cells #[.slice pp tX.ps.length pc, .slice np tX.ns.length nc] 39)
 have gm := aa (cB w1 (.slice pp tX.ps.length pc) (.slice np tX.ns.length nc) 39)
 have gz := aa (cI w1 (.slice pp tX.ps.length pc) (.slice np tX.ns.length nc) 39)
 have zv : Hid (aG Any (w1.alloc (.cells #[.slice pp tX.ps.length pc, .slice np tX.ns.length nc] 39)) (.agg #[.slice pp tX.ps.length pc, .slice np tX.ns.length nc]) tX) := aG.keep ⟨_, _, rfl, wh, Di⟩ (aC.kept _)
 have bU := aa (bO.trans aC)
 clear bO aC wh Di G0
 go_wp2_with fail
 generalize w1.alloc (.cells #[.slice pp tX.ps.length pc, .slice np tX.ns.length nc] 39) = w2 at *
 refine (KF w2 U2 (by decide) (UG U2 (by decide))).mono ?_
 rintro e w3 ⟨bR, v3, rfl, ht3⟩
 rw [Qm.1]
 rw [Qm.2] at ht3
 obtain ⟨P3, N3, rfl, QL, QM⟩ := ht3
 obtain ⟨ES, ET, rfl, _, _⟩ := av.open QL
 obtain ⟨EU, EW, rfl, _, _⟩ := av.open QM
 have QL : af Any w3 (.slice ES uX.ps.length ET) uX.ps := QL
 have QM : ay Any w3 (.slice EU uX.ns.length EW) uX.ns := QM
 have dL := Up.alloc w3 (.cells #[.slice ES uX.ps.length ET, .slice EU uX.ns.length EW] 39)
 have Jf := bR.trans dL
 have iE := aa (cB w3 (.slice ES uX.ps.length ET) (.slice EU uX.ns.length EW) 39)
 have dM := aa (cI w3 (.slice ES uX.ps.length ET) (.slice EU uX.ns.length EW) 39)
 have HTU : Hid (aG Any (w3.alloc (.cells #[.slice ES uX.ps.length ET, .slice EU uX.ns.length EW] 39)) (.agg #[.slice ES uX.ps.length ET, .slice EU uX.ns.length EW]) uX) := aG.keep ⟨_, _, rfl, QL, QM⟩ (dL.kept _)
 have J7 := aa (zv.out.keep (Jf.kept _))
 have TX := aa (Jf.cell gm.out)
 have TY := aa (Jf.cell gz.out)
 have fB := aa (bU.out.trans Jf)
 clear bR dL Jf QL QM zv gm gz bU
 go_wp2_with fail
 generalize w3.alloc (.cells #[.slice ES uX.ps.length ET, .slice EU uX.ns.length EW] 39) = w4 at *
 have aW : Hid (Up w4 (w4.drewN 1)) := Up.drewN w4 1
 go_region_held3 (fun w' => Hid (Up w4 w') ∧ w'.cell? ⟨w1.heap.size, 0, none⟩ = some (.slice pp tX.ps.length pc) ∧ w'.cell? ⟨w1.heap.size, 1, none⟩ = some (.slice np tX.ns.length nc)) (exact ⟨aW, aW.out.cell TX.out, aW.out.cell TY.out⟩) (first
  | (go_at_call 106; refine (HF.out _).mono ?_; rintro e w5 ⟨K4, v5, rfl, hs5⟩; have rT := aa hs5; have aW : Hid (Up w4 w5) := aW.out.trans K4; clear K4 hs5)
  | (go_at_call 23; refine (yV Any _ _ _ tX lq (J7.out.keep (aW.out.kept _)) rT.out (by decide) (by decide) Jd (by decide)).mono ?_; rintro e w6 ⟨hb6, v6, rfl, Oq⟩; rw [U3.1]; rw [U3.2] at Oq; have HR6 := aa Oq; have aW : Hid (Up w4 w6) := aW.out.trans hb6; clear hb6 Oq))
 have lD := aa (fB.out.trans aW.out)
 have UB := aa (J7.out.keep (aW.out.kept _))
 have HTU6 := aa (HTU.out.keep (aW.out.kept _))
 have HB06 := aa (aW.out.cell TX.out)
 have HB16 := aa (aW.out.cell TY.out)
 have HC06 := aa (aW.out.cell iE.out)
 have HC16 := aa (aW.out.cell dM.out)
 clear aW J7 HTU TX TY iE dM fB rT
 go_wp2_with fail
 have aW : Hid (Up w6 (w6.drewN 1)) := Up.drewN w6 1
 go_region_held3 (fun w' => Hid (Up w6 w') ∧ w'.cell? ⟨w1.heap.size, 0, none⟩ = some (.slice pp tX.ps.length pc) ∧ w'.cell? ⟨w1.heap.size, 1, none⟩ = some (.slice np tX.ns.length nc) ∧ w'.cell? ⟨w3.heap.size, 0, none⟩ = some (.slice ES uX.ps.length ET) ∧ w'.cell? ⟨w3.heap.size, 1, none⟩ = some (.slice EU uX.ns.length EW)) (exact ⟨aW, aW.out.cell HB06.out, aW.out.cell HB16.out, aW.out.cell HC06.out, aW.out.cell HC16.out⟩) (first
  | (go_at_call 106; refine (HF.out _).mono ?_; rintro e w7 ⟨hb7, v7, rfl, Ij⟩; have Lm := aa Ij; have aW : Hid (Up w6 w7) := aW.out.trans hb7; clear hb7 Ij)
  | (go_at_call 37; refine (Cm Any _ _ _ _ tX uX lq (UB.out.keep (aW.out.kept _)) (HTU6.out.keep (aW.out.kept _)) Lm.out (by decide) (by decide) Jd (by decide) (by decide) Je (by decide)).mono ?_; rintro e w8 ⟨rfl, jJ⟩; rw [U4.1, U4.2]; have aW : Hid (Up w6 w8) := aW.out.trans jJ; clear jJ))
 have EX := aa (lD.out.trans aW.out)
 have HR8 := aa (HR6.out.keep (aW.out.kept _))
 have h9 := (Up.alloc w8 (.cells #[.int .i64 1, .int .i64 2] 3)).trans (Up.alloc _ (.cells #[.int .i64 2, .int .i64 3] 3))
 have hA9 := af.keep (Ai w8 #[.int .i64 1, .int .i64 2] 3 [1, 2] rfl 2 rfl) ((Up.alloc (w8.alloc (.cells #[.int .i64 1, .int .i64 2] 3)) (.cells #[.int .i64 2, .int .i64 3] 3)).kept _)
 have hB9 := Ai (w8.alloc (.cells #[.int .i64 1, .int .i64 2] 3)) #[.int .i64 2, .int .i64 3] 3 [2, 3] rfl 2 rfl
 have uf := aa (Ie Any _ _ _ 4 [1, 2] [2, 3] hA9 hB9 (by decide) (by decide))
 have LD := aa (EX.out.trans h9)
 have Vc := aa (HR8.out.keep (h9.kept _))
 rw [World.size_alloc] at uf
 clear aW h9 hA9 hB9 UB HTU6 HB06 HB16 HC06 HC16 lD EX HR6 HR8 Lm
 go_wp2_with fail
 generalize (w8.alloc (.cells #[.int .i64 1, .int .i64 2] 3)).alloc (.cells #[.int .i64 2, .int .i64 3] 3) = w9 at *
 refine uf.out.mono ?_
 rintro e ox ⟨rfl, tU⟩
 rw [ZB.1, ZB.2]
 have oL := aa (LD.out.trans tU)
 have yg := aa (Vc.out.keep (tU.kept _))
 clear tU uf LD Vc
 go_wp2_with fail
 refine (HF.out ox).mono ?_
 rintro e cr ⟨C2, v11, rfl, hs11⟩
 have h12 := (Up.alloc cr (.cells #[.int .i64 2, .int .i64 3] 3)).trans (Up.alloc _ (.cells #[.slice (some ⟨cr.heap.size, 0, none⟩) 2 2] 26))
 have iL := aa (Li Any _ _ _ lq [[2, 3]] (ay.keep hs11 (h12.kept _)) (Vj cr) (by decide) Ni (by decide) AR)
 have Nj := aa (oL.out.trans (C2.trans h12))
 have HR12 := aa (yg.out.keep ((C2.trans h12).kept _))
 clear C2 hs11 h12 oL yg
 go_wp2_with fail
 generalize (cr.alloc (.cells #[.int .i64 2, .int .i64 3] 3)).alloc (.cells #[.slice (some ⟨cr.heap.size, 0, none⟩) 2 2] 26) = Vk at *
 refine iL.out.mono ?_
 rintro e yA ⟨AJ, v13, rfl, ht13⟩
 rw [U5.1]
 rw [U5.2] at ht13
 obtain ⟨P5, N5, rfl, QN, QO⟩ := ht13
 obtain ⟨Jg, Jh, rfl, _, _⟩ := av.open QN
 obtain ⟨Ji, Jj, rfl, _, _⟩ := av.open QO
 have QN : af Any yA (.slice Jg uX.ps.length Jh) uX.ps := QN
 have QO : ay Any yA (.slice Ji uX.ns.length Jj) uX.ns := QO
 have Nk := Up.alloc yA (.cells #[.slice Jg uX.ps.length Jh, .slice Ji uX.ns.length Jj] 39)
 have b0 := cB yA (.slice Jg uX.ps.length Jh) (.slice Ji uX.ns.length Jj) 39
 have b1 := cI yA (.slice Jg uX.ps.length Jh) (.slice Ji uX.ns.length Jj) 39
 have HT14 : Hid (aG Any (yA.alloc (.cells #[.slice Jg uX.ps.length Jh, .slice Ji uX.ns.length Jj] 39)) (.agg #[.slice Jg uX.ps.length Jh, .slice Ji uX.ns.length Jj]) uX) := aG.keep ⟨_, _, rfl, QN, QO⟩ (Nk.kept _)
 have wE := aa (VM Any _ _ uX HT14.out (by decide) (by decide) Je)
 have mF := aa (Nj.out.trans (AJ.trans Nk))
 have TZ := aa (HR12.out.keep ((AJ.trans Nk).kept _))
 clear AJ Nk QN QO Nj HR12 iL HT14
 go_wp2_with fail
 generalize yA.alloc (.cells #[.slice Jg uX.ps.length Jh, .slice Ji uX.ns.length Jj] 39) = EI at *
 refine wE.out.mono ?_
 rintro e Jk ⟨vQ, rfl⟩
 rw [U6.1, uX_str]
 obtain ⟨rp, rc, hrv, _, _⟩ := cN TZ.out
 subst hrv
 have BG := (Up.alloc Jk (.cells #[.int .i64 2, .int .i64 3] 3)).trans (Up.alloc _ (.cells #[.slice (some ⟨Jk.heap.size, 0, none⟩) 2 2] 26))
 have kI := aa (zP Any Any _ _ _ [[2, 3]] [[2, 3]] (TZ.out.keep ((vQ.trans BG).kept _)) (Vj Jk) (by decide) (by decide) AR AR)
 have T3 := aa (mF.out.trans (vQ.trans BG))
 clear vQ BG b0 b1 mF TZ wE
 go_wp2_with fail
 generalize (Jk.alloc (.cells #[.int .i64 2, .int .i64 3] 3)).alloc (.cells #[.slice (some ⟨Jk.heap.size, 0, none⟩) 2 2] 26) = w16 at *
 refine kI.out.mono ?_
 rintro e w17 ⟨rfl, n17, rfl⟩
 go_wp2_with fail
 go_ret
 exact ⟨aO (by decide), T3.out.trans (Up.drewN _ _)⟩
end
section
open Go.RowKit Go.Deep
theorem T4 {names : List ByteArray} {l : List (List Int)} (h : cS names l = 0) : aL (bF names l) names = 0 ∧ az (bF names l) names = p9 l ∧ aB (bF names l) = 0 := by
 have hk := xY.1 h
 have hr : bF names l = qa names l := by unfold bF; rw [if_pos h]
 rw [hr]
 by_cases h3 : 3 ≤ names.length
 ·obtain ⟨a, b⟩ := Ih hk (yl hk h3)
  exact ⟨mW.2 a, b, a.te⟩
 ·have hf := hk.few (by omega)
  have hsm : 3 + (aD l).length + (names.length - 1) ≤ 64 := by rw [hf]; simp [aD, vD, eF]; omega
  obtain ⟨a, b⟩ := Ih hk hsm
  exact ⟨mW.2 a, b, a.te⟩
end
section
open Go.RowKit Go.Deep
end
section
open Go.ChangeShapes Go.WideShapes Go.ChangeAt Go.RowKit Go.Deep
theorem T5 : ownKnob Tryz.prog.godebug = none := by kernel_rfl
theorem laidOut : laidOutB Tryz.prog = true := by kernel_rfl
section
variable {H : Type} {enc : TypeId × Value → H} {W : World}
theorem uP {n : Nat} (h : n ≤ maxLen) : n ≤ 9223372036854775807 := by unfold maxLen at h; exact h
theorem Nl {fuel : Nat} {v : Value} {x : DataW H × List MemPlace} (h : DataW.trod enc Tryz.prog W 0 (fun _ => true) true fuel 26 [v] = some x) : ∃ xs : List Int, af Any W v xs ∧ xs.length ≤ 9223372036854775807 := by
 rcases open_ints Tryz.underlying26 Tryz.underlying3 (by kernel_rfl) h with ⟨hcs, _⟩ | ⟨a, l, c, zs, hcs, _, hl, hm, hz, _, hcell, _⟩
 ·obtain rfl : v = .slice none 0 0 := by simpa using hcs
  exact ⟨[], ⟨none, 0, rfl, Nat.le_refl _, .inl rfl⟩, by simp⟩
 ·obtain rfl : v = .slice (some a) l c := by simpa using hcs
  simp only [if_true] at hz
  have hlen : (zs.take l).length = l := by simp; omega
  refine ⟨zs.take l, ⟨some a, c, by rw [hlen], by rw [hlen]; exact hl, ?_⟩, by rw [hlen]; exact uP (Nat.le_trans hl hm)⟩
  by_cases h0 : l = 0
  ·exact .inl (by rw [hlen]; exact h0)
  ·obtain ⟨b, off, rfl, hc⟩ := ints_at hcell (by omega)
   refine .inr ⟨b, off, rfl, trivial, fun k hk => ?_⟩
   rw [hlen] at hk
   rw [hc k (by omega)]
   simp [gi, hk]
theorem Cw {fuel : Nat} {v : Value} {x : DataW H × List MemPlace} (h : DataW.trod enc Tryz.prog W 0 (fun _ => true) true fuel 22 [v] = some x) : ∃ xs : List ByteArray, ay Any W v xs ∧ xs.length ≤ 9223372036854775807 ∧ ∀ k, (gs xs k).size ≤ 9223372036854775807 := by
 rcases open_strings Tryz.underlying22 Tryz.underlying9 (by kernel_rfl) h with ⟨hcs, _⟩ | ⟨a, l, c, zs, hcs, _, hl, hm, hz, _, hcell, hwf⟩
 ·obtain rfl : v = .slice none 0 0 := by simpa using hcs
  exact ⟨[], ⟨none, 0, rfl, Nat.le_refl _, .inl rfl⟩, by simp, fun k => by simp [gs]⟩
 ·obtain rfl : v = .slice (some a) l c := by simpa using hcs
  simp only [if_true] at hz
  have hlen : (zs.take l).length = l := by simp; omega
  refine ⟨zs.take l, ⟨some a, c, by rw [hlen], by rw [hlen]; exact hl, ?_⟩, by rw [hlen]; exact uP (Nat.le_trans hl hm), fun k => ?_⟩
  ·by_cases h0 : l = 0
   ·exact .inl (by rw [hlen]; exact h0)
   ·obtain ⟨b, off, spot⟩ := a
    have hspot : spot = none := by simpa [Addr.add] using World.cell?_spot (hcell 0 (by omega))
    subst hspot
    refine .inr ⟨b, off, rfl, trivial, fun k hk => ?_⟩
    rw [hlen] at hk
    rw [← add_plain, hcell k (by omega)]
    have hk2 : k < zs.length := by omega
    simp [gs, hk, hk2]
  ·by_cases hk : k < (zs.take l).length
   ·have hm : gs (zs.take l) k ∈ zs := by
     have : gs (zs.take l) k = (zs.take l)[k] := by unfold gs; rw [List.getD_eq_getElem?_getD, List.getElem?_eq_getElem hk]; rfl
     rw [this]; exact List.mem_of_mem_take (List.getElem_mem hk)
    exact uP (hwf _ hm)
   ·have : gs (zs.take l) k = ByteArray.empty := by simp [gs, List.getElem?_eq_none (by omega : (zs.take l).length ≤ k)]
    rw [this]; simp
theorem Nn {fuel : Nat} {v : Value} {x : DataW H × List MemPlace} (h : DataW.trod enc Tryz.prog W 0 (fun _ => true) true fuel 23 [v] = some x) : ∃ xs : List (List Int), aJ Any W v xs ∧ xs.length ≤ 9223372036854775807 ∧ ∀ k, (gl xs k).length ≤ 9223372036854775807 := by
 rcases open_int_rows Tryz.underlying23 Tryz.underlying26 Tryz.underlying3 (by kernel_rfl) (by kernel_rfl) h with ⟨hcs, _⟩ | ⟨a, l, c, A, L, C, Z, hcs, _, hl, hm, _, hr⟩
 ·obtain rfl : v = .slice none 0 0 := by simpa using hcs
  exact ⟨[], ⟨fun _ => undef, ⟨none, 0, rfl, Nat.le_refl _, .inl rfl⟩, fun k hk => absurd hk (Nat.not_lt_zero _)⟩, by simp, fun k => by simp [gl]⟩
 ·obtain rfl : v = .slice (some a) l c := by simpa using hcs
  have hlen : ((List.range l).map fun r => (Z r).take (L r)).length = l := by simp
  have sK : ∀ k, k < l → gl ((List.range l).map fun r => (Z r).take (L r)) k = (Z k).take (L k) := fun k hk => by simp [gl, hk]
  have QS : ∀ k, k < l → ((Z k).take (L k)).length = L k := fun k hk => by obtain ⟨_, h1, _, h3, _⟩ := hr k (by omega); simp; omega
  refine ⟨(List.range l).map fun r => (Z r).take (L r), ⟨fun k => .slice (A k) (L k) (C k), ⟨some a, c, by rw [hlen], by rw [hlen]; exact hl, ?_⟩, fun k hk => ?_⟩, by rw [hlen]; exact uP (Nat.le_trans hl hm), fun k => ?_⟩
  ·by_cases h0 : l = 0
   ·exact .inl (by rw [hlen]; exact h0)
   ·obtain ⟨b, off, spot⟩ := a
    have hspot : spot = none := by simpa [Addr.add] using World.cell?_spot (hr 0 (by omega)).1
    subst hspot
    refine .inr ⟨b, off, rfl, trivial, fun k hk => ?_⟩
    rw [hlen] at hk
    rw [← add_plain]; exact (hr k (by omega)).1
  ·rw [hlen] at hk
   obtain ⟨_, h1, h2, h3, _, h5, h6⟩ := hr k (by omega)
   rw [sK k hk]
   refine ⟨A k, C k, by rw [QS k hk], by rw [QS k hk]; exact h1, ?_⟩
   by_cases h0 : L k = 0
   ·exact .inl (by rw [QS k hk]; exact h0)
   ·cases hA : A k with
    | none => have := h5 hA; omega
    | some a' =>
     obtain ⟨_, h7⟩ := h6 a' hA
     obtain ⟨b, off, rfl, hc⟩ := ints_at (zs := Z k) (k := .i64) (fun i hi => h7 i (by omega)) (by omega)
     refine .inr ⟨b, off, rfl, trivial, fun j hj => ?_⟩
     rw [QS k hk] at hj
     rw [hc j (by omega)]
     simp [gi, hj]
  ·by_cases hk : k < l
   ·rw [sK k hk, QS k hk]
    obtain ⟨_, h1, h2, _⟩ := hr k (by omega)
    exact uP (Nat.le_trans h1 h2)
   ·have : gl ((List.range l).map fun r => (Z r).take (L r)) k = [] := by simp [gl, hk]
    rw [this]; simp
theorem Cx {v : Value} {d : DataW H} {p : List MemPlace} {base : Nat} (hv : Value.okWide Tryz.prog W .any base 39 v) (h : DataW.Trod enc Tryz.prog W 0 (fun _ => true) true 39 v d p) :
  ∃ t : aA, aG Any W v t ∧ t.ps.length ≤ 9223372036854775807 ∧ t.ns.length ≤ 9223372036854775807 ∧ ∀ k, (gs t.ns k).size ≤ 9223372036854775807 := by
 obtain ⟨c0, c1, y0, y1, m, rfl, _, _, h0, h1⟩ := Joins.open_agg2 Tryz.underlying39 (by kernel_rfl) (by kernel_rfl) hv h
 obtain ⟨ps, hp, hpl⟩ := Nl h0
 obtain ⟨ns, hn, hnl, Bf⟩ := Cw h1
 exact ⟨⟨ps, ns⟩, ⟨c0, c1, rfl, hp, hn⟩, hpl, hnl, Bf⟩
theorem Jl {t : TypeId} {v : Value} {d : DataW H} {p : List MemPlace} (h1 : v.cells = #[v]) (h : DataW.Trod enc Tryz.prog W 0 (fun _ => true) true t v d p) : ∃ fuel, DataW.trod enc Tryz.prog W 0 (fun _ => true) true fuel t [v] = some (d, p) := by
 obtain ⟨n, hn⟩ := h
 rw [h1] at hn; exact ⟨n, hn⟩
theorem Fh {t : TypeId} {v : Value} {d : DataW H} {p : List MemPlace} (h : DataW.Trod enc Tryz.prog W 0 (fun _ => true) true t v d p) : ∀ x ∈ p, x.block < W.heap.size := by
 obtain ⟨m, hm⟩ := h; exact DataW.trod_lt m _ _ _ hm
theorem Np {v : Value} {d : DataW H} {p : List MemPlace} {base : Nat} (hv : Value.okWide Tryz.prog W .any base 23 v) (h : DataW.Trod enc Tryz.prog W 0 (fun _ => true) true 23 v d p) : ∃ xs : List (List Int), aJ Any W v xs ∧ xs.length ≤ 9223372036854775807 ∧ ∀ k, (gl xs k).length ≤ 9223372036854775807 := by
 obtain ⟨a, l, c, rfl⟩ := okWide_slice Tryz.underlying23 hv
 obtain ⟨n, hn⟩ := Jl rfl h
 exact Nn hn
end
end
end Go.Proofs.YtpnmblnahjjmhaaGreat
