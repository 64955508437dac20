/- optimaltree.Bound. Layer 34's law: named, fine. The example of layer 34: awake. The .. -/
import Derived.Test.YthgabkgmkolobaaGreatQ1
import Derived.Test.YthgabkgmkolobaaGreatQ41
import Derived.Test.YthgabkgmkolobaaGreatQ15
import Derived.Test.YthgabkgmkolobaaGreatQ38
import Derived.StillTail
import Derived.Test.YthgabkgmkolobaaGreatQ42
import Derived.Test.YthgabkgmkolobaaGreatQ43
import Derived.Test.YthgabkgmkolobaaGreatQ19
import Derived.Test.YthgabkgmkolobaaGreatQ6
import Derived.Test.YthgabkgmkolobaaGreatQ17
import Derived.Test.YthgabkgmkolobaaGreatQ5
import Derived.Test.YthgabkgmkolobaaGreatQ3
import Derived.Deep.RegionHeld3
import Derived.Test.YthgabkgmkolobaaGreatQ44
import Derived.Test.YthgabkgmkolobaaGreatQ23
import Derived.Test.YthgabkgmkolobaaGreatRows
import Derived.WalkKit
import Derived.ProofKit
import Derived.OpenShut
import Derived.ShutString
import Derived.ChangeOld
import Derived.Below
import Derived.Deep.Matrix
import Derived.Lib.SmallJoins
import Derived.Test.YthgabkgmkolobaaGreatQ26
import Derived.Test.YthgabkgmkolobaaGreatQ24
import Derived.Test.YthgabkgmkolobaaGreatQ22
import Derived.Test.YthgabkgmkolobaaGreatQ8
import Derived.Test.YthgabkgmkolobaaGreatQ21
import Derived.Test.YthgabkgmkolobaaGreatQ25
import Derived.Test.YthgabkgmkolobaaGreatQ2
set_option maxRecDepth 100000
namespace Go.Proofs.YthgabkgmkolobaaGreat
section
open Go.RowKit Go.Deep
theorem Nl (xs : List Int) : (Lib.compact (iZ xs)).length ≤ xs.length := by
 rw [E9]
 exact (oZ xs).length_le_of_subset fun x hx => mm.1 hx
def CA (w : World) (states : List (List Int)) (e : Ending) (w' : World) : Prop := e = .returned (.tuple #[.int .i64 (Dx states), .int .i64 (Dw states)]) ∧ Up w w'
set_option maxHeartbeats 4000000 in
theorem Fc (S : Nat → Prop) (w : World) (vs : Value) (states : List (List Int)) (hS : aU S w vs states) (pY : states.length ≤ 1000000) (hr : ∀ k, (gl states k).length ≤ 1000000) :
  Calls Tryz.prog 18 #[vs] w (CA w states) := by
 have uY := aa (Ei S w vs states hS pY hr)
 obtain ⟨sp, sc, rfl, -, -⟩ := eR hS
 have HS := aa hS
 have HE : Hid (Dw states = if cn states = 0 then 0 else 1) := rfl
 have HR : Hid (Dx states = if cn states = 0 then qw states else 0) := rfl
 have HAK : Hid (cn states = 0 → 0 < states.length ∧ states.length ≤ 32 ∧ (gl states 0).length ≤ 4096 ∧ ∀ k, k < states.length → (gl states k).length = (gl states 0).length) := fun h => by
  obtain ⟨a1, a2⟩ := Cl h
  obtain ⟨a3, a4⟩ := Jf h
  exact ⟨a1, a3, a4, fun k hk => (a2 k hk).1⟩
 clear hS pY hr
 go_enter Tryz.func18, Tryz.ntmps18
 go_wp2_with fail
 refine uY.out.mono ?_
 rintro e w1 ⟨rfl, hq⟩
 have bH : Hid (Up w w1) := hq ▸ Up.refl _
 by_cases c1 : cn states = 0
 ·obtain ⟨a0, a1, a2, a3⟩ := HAK.out c1
  have HA := aa (And.intro a0 (And.intro a1 (And.intro a2 a3)))
  have ey : Hid (∀ W, Up w W → CA w states (.returned (.tuple #[.int .i64 (qw states), .int .i64 0])) W) := fun W hW => ⟨by rw [HE.out, HR.out, if_pos c1, if_pos c1], hW⟩
  have jT := aa (aU.keep HS.out (bH.out.kept S))
  obtain ⟨sb, so, s0, s1, rfl, hc0, kB⟩ := iL jT.out a0
  rw [Nat.add_zero] at hc0
  have i1 : (0 : Int) < (states.length : Int) := by omega
  rw [c1]
  clear uY HE HR HAK hq c1 a0 a1 a2 a3 kB
  have HBK : Hid (∀ n, 0 ≤ aZ (mM states) n ∧ aZ (mM states) n ≤ 100000 * n) := fun n => zA fun p _ => by have h1 := LP states p; have := HA.out.2.1; omega
  have gm : Hid (∀ n, aZ (mM states) (n + 1) = aZ (mM states) n + mM states n) := fun n => rfl
  have og : Hid (qw states = aZ (mM states) (gl states 0).length) := rfl
  go_wp2_with fail
  go_loopw [4, 5, 6, 8, 16, 21] (fun s _ _ _ i _ wr => ∃ n : Nat, n ≤ (gl states 0).length ∧ i = .int .i64 n ∧ s = .int .i64 (aZ (mM states) n) ∧ Hid (Up w1 wr)) (fun _ _ _ _ i _ _ => (gl states 0).length - (intOf i).toNat)
  case atStart => exact ⟨0, Nat.zero_le _, rfl, rfl, Up.refl _⟩
  case round =>
   obtain ⟨n, hn, rfl, rfl, hU⟩ := hrel
   obtain ⟨wo, rfl⟩ : ∃ wo : World, wo = wr := ⟨_, rfl⟩
   by_cases hlt : n < (gl states 0).length
   ·have i2 : (n : Int) < ((gl states 0).length : Int) := by omega
    have i3 : (n : Int) < 4096 := by have := HA.out.2.2.1; omega
    have i4 : (0 : Int) ≤ (n : Int) := by omega
    have aV := aa hlt
    have Al := aa (And.intro (HBK.out n) (LP states n))
    have vk := aa hU.out
    generalize pY : aZ (mM states) n = fn at *
    have BI := aa pY
    clear hlt hU pY
    go_wp2_with fail
    go_loopw [6, 8, 21] (fun l _ k wr => ∃ j : Nat, j ≤ states.length ∧ k = .int .i64 j ∧ Hid (aC wo.heap.size 3 wr l ((cm ((cN states n).take j)).map (Value.int .i64))) ∧ Hid (Up wo wr)) (fun _ _ k _ => states.length - (intOf k).toNat)
    case atStart => exact ⟨0, Nat.zero_le _, rfl, aC.nil _ _ _, Up.refl _⟩
    case round =>
     obtain ⟨j, hj, rfl, hA, fE⟩ := hrel
     obtain ⟨wi, rfl⟩ : ∃ wi : World, wi = wr := ⟨_, rfl⟩
     by_cases hlj : j < states.length
     ·obtain ⟨rb, ro, r0, r1, er, LN, hir⟩ := iL (aU.keep jT.out ((vk.out.trans fE.out).kept S)) hlj
      injection er with er
      injection er with er1 er2
      subst er1; subst er2
      rw [HA.out.2.2.2 j hlj] at LN
      obtain ⟨yb, yo, rfl, hcy⟩ := cK hir (k := n) (by rw [HA.out.2.2.2 j hlj]; exact aV.out)
      have gV := aa (Kw (st := cN states n) (k := j) (by rw [sQ]; exact hlj))
      rw [yO _ _ hlj] at gV
      have fT := Qr (cN states n) j
      have hsz := fE.out.size
      have kX := aa hlj
      have k1 : (0 : Int) ≤ (j : Int) := by omega
      have k2 : (j : Int) < (states.length : Int) := by omega
      have k3 : (j : Int) < 64 := by have := HA.out.2.1; omega
      generalize gi (gl states j) n = y at *
      clear hir hlj
      by_cases h0 : 0 ≤ y
      ·have dG : Hid (((cm ((cN states n).take j)).map (Value.int .i64)).length = (cm ((cN states n).take j)).length) := by unfold Hid; rw [List.length_map]
       have Jb : Hid (cm ((cN states n).take (j + 1)) = cm ((cN states n).take j) ++ [y]) := by unfold Hid; rw [gV.out, if_pos h0]
       have d0 : decide (0 ≤ y) = true := by simp [h0]
       generalize hm : (cm ((cN states n).take j)).length = m at *
       go_wp2_with (at_builtin; refine tT wi rfl _ _ 26 rfl wo.heap.size 3 _ 8 Tryz.underlying26 Tryz.ki rfl (by decide) hA.out rfl _ rfl rfl m dG.out (by omega) hsz ?_; intro g cap w8 hown1 hg1 nI)
       have HO2 : Hid (aC wo.heap.size 3 w8 (.slice (some ⟨g, 0, none⟩) (m + 1) cap) ((cm ((cN states n).take (j + 1))).map (Value.int .i64))) := by unfold Hid; rw [Jb.out, List.map_append]; exact hown1
       have iX : Hid (Up wo w8) := Below.trans fE.out nI
       clear hown1 hg1 nI
       go_roundw
       case rel => exact ⟨j + 1, kX.out, by go_num, HO2, iX⟩
       case measure => have := kX.out; simp [intOf]; omega
      ·have d0 : decide (0 ≤ y) = false := by simp; omega
       have Jb : Hid (cm ((cN states n).take (j + 1)) = cm ((cN states n).take j)) := by unfold Hid; rw [gV.out, if_neg h0, List.append_nil]
       clear h0
       go_wp2_with fail
       go_roundw
       case rel => exact ⟨j + 1, kX.out, by go_num, by rw [Jb.out]; exact hA, fE⟩
       case measure => have := kX.out; simp [intOf]; omega
     ·obtain rfl : j = states.length := by omega
      have htk : (cN states n).take states.length = cN states n := by rw [← sQ states n, List.take_length]
      rw [htk] at hA
      obtain ⟨kp, kc, rfl, _⟩ := hA.out.form (n := (cm (cN states n)).length) (by rw [List.length_map])
      have fT : (cm (cN states n)).length ≤ states.length := by rw [← sQ states n]; exact List.length_filter_le _ _
      have iB : Hid ((cm (cN states n)).length ≤ 32) := Nat.le_trans fT HA.out.2.1
      have x7 := aa (Zl wo wi _ (cm (cN states n)) fE.out hA.out (by have := iB.out; omega))
      have Aj : Hid (mM states n = if (dd (cm (cN states n))).length = 0 then 0 else ((dd (cm (cN states n))).length : Int) - 1) := rfl
      rw [← E9] at Aj
      clear htk hA fE fT hj
      go_wp2_with fail
      refine x7.out.mono ?_
      rintro e w7 ⟨rfl, xD, ho7⟩
      have zX := aa (Qp wo w7 _ (iZ (cm (cN states n))) xD ho7 (by rw [yx]; have := iB.out; omega))
      have Cu : Hid ((Lib.compact (iZ (cm (cN states n)))).length ≤ 32) := Nat.le_trans (Nl _) iB.out
      clear xD ho7 x7
      go_wp2_with fail
      refine zX.out.mono ?_
      rintro e w8 ⟨⟨p8, c8, rfl⟩, kY⟩
      have iX := aa (vk.out.trans kY)
      have lX := aa (gm.out n)
      rw [BI.out, Aj.out] at lX
      have En := Al.out
      have hcl := Cu.out
      clear kY zX Aj Cu
      generalize mM states n = bk at *
      generalize (Lib.compact (iZ (cm (cN states n)))).length = D at *
      have i6 : fn ≤ 409600000 ∧ 0 ≤ fn := by constructor <;> omega
      obtain ⟨i7, i8⟩ := i6
      clear En
      go_wp2_with fail
      go_roundw
      case rel => exact ⟨n + 1, aV.out, by go_num, by rw [lX.out]; congr 1; omega, iX.out⟩
      case measure => have := aV.out; simp [intOf]; omega
   ·obtain rfl : n = (gl states 0).length := by omega
    have qf := aa (ey.out wo (bH.out.trans hU.out))
    rw [og.out] at qf
    clear hlt
    go_wp2_with fail
    go_ret2
    exact qf.out
 ·have ey : Hid (CA w states (.returned (.tuple #[.int .i64 0, .int .i64 1])) w1) := ⟨by rw [HE.out, HR.out, if_neg c1, if_neg c1], bH.out⟩
  generalize cn states = a at *
  clear hq uY
  go_wp2_with fail
  go_ret2
  exact ey.out
end
section
open Go.RowKit Go.Deep
def qy (names : List ByteArray) : Bool := !gZ names [] && decide (names.length ≤ 5) && decide (bW names = 0)
theorem Qz {names : List ByteArray} (h : qy names = true) : cH names := by
 unfold qy at h
 rw [Bool.and_eq_true, Bool.and_eq_true, decide_eq_true_iff, decide_eq_true_iff] at h
 exact (mJ h.1.2).1 h.2
set_option maxHeartbeats 2000000 in
theorem Fe (S : Nat → Prop) (w : World) (v : Value) (names : List ByteArray) (h : ah S w v names) (hn : names.length ≤ 9223372036854775807) (hz : ∀ k, (gs names k).size ≤ 9223372036854775807) :
  Calls Tryz.prog 25 #[v] w fun e w' => e = .returned (.bool (qy names)) ∧ Up w w' := by
 obtain ⟨p, cap, rfl, hcap, -⟩ := aB.open h
 have h : ah S w (.slice p names.length cap) names := h
 have tB := aa (Fa S Any w _ _ names [] h (Rt _ _) hn hz (by decide) (fun k => by simp [gl]))
 have HB : Hid (qy names = (!gZ names [] && decide (names.length ≤ 5) && decide (bW names = 0))) := rfl
 have HH := aa h
 have LU : Hid (gZ names [] = false → Nj names []) := Dz
 clear h hz
 go_enter Tryz.func25, Tryz.ntmps25
 go_wp2_with fail
 refine tB.out.mono ?_
 rintro e w1 ⟨rfl, rfl⟩
 cases hg : gZ names []
 ·have HG := aa (LU.out hg)
  rw [hg] at HB
  clear hg tB LU
  by_cases h5 : names.length ≤ 5
  ·have kU := aa (Tk S w _ names HH.out (by omega) (fun k => by have := HG.out.nm k; omega) (.inl h5))
   have lX : Hid (qy names = decide (bW names = 0)) := by unfold Hid; rw [HB.out]; simp [h5]
   have i5 : ¬ (5 : Int) < (names.length : Int) := by omega
   have d5 : decide ((5 : Int) < (names.length : Int)) = false := by simp; omega
   clear HB
   go_wp2_with fail
   refine kU.out.mono ?_
   rintro e w2 ⟨aG, v2, rfl, -⟩
   have bw := aa aG
   clear aG kU
   generalize bW names = c at *
   go_wp2_with fail
   go_ret
   exact ⟨aL (by rw [lX.out]; first | done | (by_cases e : c = 0 <;> simp [e])), bw.out⟩
  ·have lX : Hid (qy names = false) := by unfold Hid; rw [HB.out]; simp [h5]
   have d5 : decide ((5 : Int) < (names.length : Int)) = true := by simp; omega
   go_wp2_with fail
   all_goals (go_ret; exact ⟨aL lX.out.symm, Up.refl _⟩)
 ·have lX : Hid (qy names = false) := by unfold Hid; rw [HB.out, hg]; rfl
  clear hg
  go_wp2_with fail
  all_goals (go_ret; exact ⟨aL lX.out.symm, Up.refl _⟩)
end
section
open Go.RowKit Go.Deep
theorem Ju {w : World} {B n : Nat} {xs : List (List Int)} (hn : n = xs.length) (f : Nat → Value) (hc : ∀ k, k < n → w.cell? ⟨B, k, none⟩ = some (f k)) (hr : ∀ k, k < n → aq Any w (f k) (gl xs k)) : aU Any w (.slice (some ⟨B, 0, none⟩) n n) xs := by
 subst hn
 refine ⟨f, ⟨_, _, rfl, Nat.le_refl _, .inr ⟨_, 0, rfl, trivial, fun k hk => ?_⟩⟩, fun k hk => hr k hk⟩
 rw [Nat.zero_add]; exact hc k hk
theorem zD (w : World) (x : Int) (xs : List Int) (h : xs = [x]) : aq Any (w.alloc (.cells #[.int .i64 x] 3)) (.slice (some ⟨w.heap.size, 0, none⟩) 1 1) xs := r8 w _ _ xs (by rw [h]; rfl) 1 (by rw [h]; rfl)
def zF (w : World) (a b c d : Int) : World := (((w.alloc (.cells #[.int .i64 a] 3)).alloc (.cells #[.int .i64 b] 3)).alloc (.cells #[.int .i64 c] 3)).alloc (.cells #[.int .i64 d] 3)
theorem QA (w : World) (a b c d : Int) : aU Any ((zF w a b c d).alloc (.cells #[.slice (some ⟨w.heap.size, 0, none⟩) 1 1, .slice (some ⟨w.heap.size + 1, 0, none⟩) 1 1, .slice (some ⟨w.heap.size + 1 + 1, 0, none⟩) 1 1, .slice (some ⟨w.heap.size + 1 + 1 + 1, 0, none⟩) 1 1] 26)) (.slice (some ⟨w.heap.size + 1 + 1 + 1 + 1, 0, none⟩) 4 4) [[a], [b], [c], [d]] ∧ Up w ((zF w a b c d).alloc (.cells #[.slice (some ⟨w.heap.size, 0, none⟩) 1 1, .slice (some ⟨w.heap.size + 1, 0, none⟩) 1 1, .slice (some ⟨w.heap.size + 1 + 1, 0, none⟩) 1 1, .slice (some ⟨w.heap.size + 1 + 1 + 1, 0, none⟩) 1 1] 26)) := by
 have s0 := zD w a [a] rfl
 have s1 := zD (w.alloc (.cells #[.int .i64 a] 3)) b [b] rfl
 have s2 := zD ((w.alloc (.cells #[.int .i64 a] 3)).alloc (.cells #[.int .i64 b] 3)) c [c] rfl
 have s3 := zD (((w.alloc (.cells #[.int .i64 a] 3)).alloc (.cells #[.int .i64 b] 3)).alloc (.cells #[.int .i64 c] 3)) d [d] rfl
 simp only [World.size_alloc] at s1 s2 s3
 have hsz : (zF w a b c d).heap.size = w.heap.size + 1 + 1 + 1 + 1 := by unfold zF; simp only [World.size_alloc]
 have hL := Up.alloc (zF w a b c d) (.cells #[.slice (some ⟨w.heap.size, 0, none⟩) 1 1, .slice (some ⟨w.heap.size + 1, 0, none⟩) 1 1, .slice (some ⟨w.heap.size + 1 + 1, 0, none⟩) 1 1, .slice (some ⟨w.heap.size + 1 + 1 + 1, 0, none⟩) 1 1] 26)
 have u3 := Up.alloc (((w.alloc (.cells #[.int .i64 a] 3)).alloc (.cells #[.int .i64 b] 3)).alloc (.cells #[.int .i64 c] 3)) (.cells #[.int .i64 d] 3)
 have u2 := Up.alloc ((w.alloc (.cells #[.int .i64 a] 3)).alloc (.cells #[.int .i64 b] 3)) (.cells #[.int .i64 c] 3)
 have u1 := Up.alloc (w.alloc (.cells #[.int .i64 a] 3)) (.cells #[.int .i64 b] 3)
 have u0 := Up.alloc w (.cells #[.int .i64 a] 3)
 refine ⟨Ju (f := fun k => .slice (some ⟨w.heap.size + k, 0, none⟩) 1 1) rfl (fun k hk => ?_) (fun k hk => ?_), ((((u0.trans u1).trans u2).trans u3).trans hL)⟩
 ·rw [← hsz, aO]
  match k, hk with
  | 0, _ => rfl
  | 1, _ => rfl
  | 2, _ => rfl
  | 3, _ => rfl
 ·match k, hk with
  | 0, _ => exact aq.keep s0 ((((u1.trans u2).trans u3).trans hL).kept _)
  | 1, _ => exact aq.keep s1 (((u2.trans u3).trans hL).kept _)
  | 2, _ => exact aq.keep s2 ((u3.trans hL).kept _)
  | 3, _ => exact aq.keep s3 (hL.kept _)
def tN (w : World) : World := ((w.alloc (.cells #[.int .i64 0, .int .i64 2] 3)).alloc (.cells #[.int .i64 0, .int .i64 (-1)] 3)).alloc (.cells #[.int .i64 1, .int .i64 3] 3)
theorem QB (w : World) : aU Any ((tN w).alloc (.cells #[.slice (some ⟨w.heap.size, 0, none⟩) 2 2, .slice (some ⟨w.heap.size + 1, 0, none⟩) 2 2, .slice (some ⟨w.heap.size + 1 + 1, 0, none⟩) 2 2] 26)) (.slice (some ⟨w.heap.size + 1 + 1 + 1, 0, none⟩) 3 3) Jq ∧ Up w ((tN w).alloc (.cells #[.slice (some ⟨w.heap.size, 0, none⟩) 2 2, .slice (some ⟨w.heap.size + 1, 0, none⟩) 2 2, .slice (some ⟨w.heap.size + 1 + 1, 0, none⟩) 2 2] 26)) := by
 have s0 := r8 w #[.int .i64 0, .int .i64 2] 3 [0, 2] rfl 2 rfl
 have s1 := r8 (w.alloc (.cells #[.int .i64 0, .int .i64 2] 3)) #[.int .i64 0, .int .i64 (-1)] 3 [0, -1] rfl 2 rfl
 have s2 := r8 ((w.alloc (.cells #[.int .i64 0, .int .i64 2] 3)).alloc (.cells #[.int .i64 0, .int .i64 (-1)] 3)) #[.int .i64 1, .int .i64 3] 3 [1, 3] rfl 2 rfl
 simp only [World.size_alloc] at s1 s2
 have hsz : (tN w).heap.size = w.heap.size + 1 + 1 + 1 := by unfold tN; simp only [World.size_alloc]
 have hL := Up.alloc (tN w) (.cells #[.slice (some ⟨w.heap.size, 0, none⟩) 2 2, .slice (some ⟨w.heap.size + 1, 0, none⟩) 2 2, .slice (some ⟨w.heap.size + 1 + 1, 0, none⟩) 2 2] 26)
 have u2 := Up.alloc ((w.alloc (.cells #[.int .i64 0, .int .i64 2] 3)).alloc (.cells #[.int .i64 0, .int .i64 (-1)] 3)) (.cells #[.int .i64 1, .int .i64 3] 3)
 have u1 := Up.alloc (w.alloc (.cells #[.int .i64 0, .int .i64 2] 3)) (.cells #[.int .i64 0, .int .i64 (-1)] 3)
 have u0 := Up.alloc w (.cells #[.int .i64 0, .int .i64 2] 3)
 refine ⟨Ju (f := fun k => .slice (some ⟨w.heap.size + k, 0, none⟩) 2 2) rfl (fun k hk => ?_) (fun k hk => ?_), (((u0.trans u1).trans u2).trans hL)⟩
 ·rw [← hsz, aO]
  match k, hk with
  | 0, _ => rfl
  | 1, _ => rfl
  | 2, _ => rfl
 ·match k, hk with
  | 0, _ => exact aq.keep s0 (((u1.trans u2).trans hL).kept _)
  | 1, _ => exact aq.keep s1 ((u2.trans hL).kept _)
  | 2, _ => exact aq.keep s2 (hL.kept _)
theorem nm4_sz (k : Nat) : (gs qI k).size ≤ 70000 := gI (M := 70000) (by decide) k
theorem Jv {l : List (List Int)} (h : ∀ x ∈ l, x.length ≤ 1000000) (k : Nat) : (gl l k).length ≤ 1000000 := by
 by_cases hk : k < l.length
 ·have : gl l k = l[k] := by simp [gl, hk]
  rw [this]; exact h _ (List.getElem_mem hk)
 ·have : gl l k = [] := by simp [gl, show l.length ≤ k by omega]
  rw [this]; simp
set_option maxHeartbeats 4000000 in
theorem Ff (w : World) : Calls Tryz.prog 26 #[] w fun e w' => e = .returned (.bool true) ∧ Up w w' := by
 have dL : IX 7 = 945 ∧ IW 7 = 0 := by decide +kernel
 have aR := Up.alloc w (.cells #[.string ⟨#[65]⟩, .string ⟨#[66]⟩, .string ⟨#[67]⟩, .string ⟨#[68]⟩] 9)
 have XF := Hq w #[.string ⟨#[65]⟩, .string ⟨#[66]⟩, .string ⟨#[67]⟩, .string ⟨#[68]⟩] 9 qI rfl 4 rfl
 have bH := aa aR
 have HN1 := aa XF
 clear aR XF
 go_enter Tryz.func26, Tryz.ntmps26
 go_wp2_with fail
 refine (EY 7 (by decide) w).mono ?_
 rintro e w0 ⟨rfl, rfl⟩
 rw [dL.1, dL.2]
 clear dL
 have Vw := aa (QA (w.alloc (.cells #[.string ⟨#[65]⟩, .string ⟨#[66]⟩, .string ⟨#[67]⟩, .string ⟨#[68]⟩] 9)) 0 0 1 1)
 have qJ := aa (Bf Any _ _ _ qI vo (ah.keep HN1.out (Vw.out.2.kept _)) (by decide) nm4_sz Vw.out.1 (by decide) (Jv (by decide)) (.inl (by decide)))
 have bw := aa (bH.out.trans Vw.out.2)
 simp only [World.size_alloc] at qJ bw
 unfold zF at qJ bw
 go_wp2_with fail
 refine qJ.out.mono ?_
 rintro e w2 ⟨aG, v2, rfl, ht2⟩
 have e1 : nZ qI vo = 1 := by unfold nZ; rw [Jr, if_pos rfl, Js]
 have e2 : ja qI vo = [sS] := by unfold ja; rw [if_pos Jr, WQ]
 rw [e2] at ht2
 rw [e1, Jr]
 obtain ⟨p2, c2, rfl, -⟩ := gz ht2
 have dc := aa (bw.out.trans aG)
 have qD : Hid (cD Any w2 (.slice p2 1 c2) [sS]) := ht2
 have h1 := r8 w2 #[.int .i64 (-1), .int .i64 0, .int .i64 0, .int .i64 2, .int .i64 2, .int .i64 4, .int .i64 4] 3 sS.ps rfl 7 rfl
 have h2 := Hq (w2.alloc (.cells #[.int .i64 (-1), .int .i64 0, .int .i64 0, .int .i64 2, .int .i64 2, .int .i64 4, .int .i64 4] 3)) #[.string ⟨#[]⟩, .string ⟨#[65]⟩, .string ⟨#[]⟩, .string ⟨#[66]⟩, .string ⟨#[]⟩, .string ⟨#[67]⟩, .string ⟨#[68]⟩] 9 sS.ns rfl 7 rfl
 have u1 := Up.alloc w2 (.cells #[.int .i64 (-1), .int .i64 0, .int .i64 0, .int .i64 2, .int .i64 2, .int .i64 4, .int .i64 4] 3)
 have u2 := Up.alloc (w2.alloc (.cells #[.int .i64 (-1), .int .i64 0, .int .i64 0, .int .i64 2, .int .i64 2, .int .i64 4, .int .i64 4] 3)) (.cells #[.string ⟨#[]⟩, .string ⟨#[65]⟩, .string ⟨#[]⟩, .string ⟨#[66]⟩, .string ⟨#[]⟩, .string ⟨#[67]⟩, .string ⟨#[68]⟩] 9)
 have u3 := Up.alloc ((w2.alloc (.cells #[.int .i64 (-1), .int .i64 0, .int .i64 0, .int .i64 2, .int .i64 2, .int .i64 4, .int .i64 4] 3)).alloc (.cells #[.string ⟨#[]⟩, .string ⟨#[65]⟩, .string ⟨#[]⟩, .string ⟨#[66]⟩, .string ⟨#[]⟩, .string ⟨#[67]⟩, .string ⟨#[68]⟩] 9)) (.cells #[.slice (some ⟨w2.heap.size, 0, none⟩) 7 7, .slice (some ⟨w2.heap.size + 1, 0, none⟩) 7 7] 39)
 have k0 := dW ((w2.alloc (.cells #[.int .i64 (-1), .int .i64 0, .int .i64 0, .int .i64 2, .int .i64 2, .int .i64 4, .int .i64 4] 3)).alloc (.cells #[.string ⟨#[]⟩, .string ⟨#[65]⟩, .string ⟨#[]⟩, .string ⟨#[66]⟩, .string ⟨#[]⟩, .string ⟨#[67]⟩, .string ⟨#[68]⟩] 9)) (.slice (some ⟨w2.heap.size, 0, none⟩) 7 7) (.slice (some ⟨w2.heap.size + 1, 0, none⟩) 7 7) 39
 have k1 := eu ((w2.alloc (.cells #[.int .i64 (-1), .int .i64 0, .int .i64 0, .int .i64 2, .int .i64 2, .int .i64 4, .int .i64 4] 3)).alloc (.cells #[.string ⟨#[]⟩, .string ⟨#[65]⟩, .string ⟨#[]⟩, .string ⟨#[66]⟩, .string ⟨#[]⟩, .string ⟨#[67]⟩, .string ⟨#[68]⟩] 9)) (.slice (some ⟨w2.heap.size, 0, none⟩) 7 7) (.slice (some ⟨w2.heap.size + 1, 0, none⟩) 7 7) 39
 simp only [World.size_alloc] at h2 k0 k1
 have QC := aa (aA.keep (S := Any) (t := sS) ⟨_, _, rfl, aq.keep h1 (u2.kept _), h2⟩ (u3.kept _))
 have HUT := aa ((u1.trans u2).trans u3)
 have yj := aa (And.intro k0 k1)
 have HST : Hid ((((w2.alloc (.cells #[.int .i64 (-1), .int .i64 0, .int .i64 0, .int .i64 2, .int .i64 2, .int .i64 4, .int .i64 4] 3)).alloc (.cells #[.string ⟨#[]⟩, .string ⟨#[65]⟩, .string ⟨#[]⟩, .string ⟨#[66]⟩, .string ⟨#[]⟩, .string ⟨#[67]⟩, .string ⟨#[68]⟩] 9)).alloc (.cells #[.slice (some ⟨w2.heap.size, 0, none⟩) 7 7, .slice (some ⟨w2.heap.size + 1, 0, none⟩) 7 7] 39)).heap.size = w2.heap.size + 1 + 1 + 1) := by unfold Hid; simp only [World.size_alloc]
 clear aG ht2 e1 e2 qJ Vw bw HN1 bH h1 h2 u1 u2 u3 k0 k1
 have HL3 : Hid (∀ W : World, W.heap.size = w2.heap.size + 1 + 1 + 1 → aU Any ((tN W).alloc (.cells #[.slice (some ⟨w2.heap.size + 1 + 1 + 1, 0, none⟩) 2 2, .slice (some ⟨w2.heap.size + 1 + 1 + 1 + 1, 0, none⟩) 2 2, .slice (some ⟨w2.heap.size + 1 + 1 + 1 + 1 + 1, 0, none⟩) 2 2] 26)) (.slice (some ⟨w2.heap.size + 1 + 1 + 1 + 1 + 1 + 1, 0, none⟩) 3 3) Jq ∧ Up W ((tN W).alloc (.cells #[.slice (some ⟨w2.heap.size + 1 + 1 + 1, 0, none⟩) 2 2, .slice (some ⟨w2.heap.size + 1 + 1 + 1 + 1, 0, none⟩) 2 2, .slice (some ⟨w2.heap.size + 1 + 1 + 1 + 1 + 1, 0, none⟩) 2 2] 26))) := fun W hW => by
  have h := QB W
  rw [hW] at h; exact h
 go_wp2_with fail
 generalize ((w2.alloc (.cells #[.int .i64 (-1), .int .i64 0, .int .i64 0, .int .i64 2, .int .i64 2, .int .i64 4, .int .i64 4] 3)).alloc (.cells #[.string ⟨#[]⟩, .string ⟨#[65]⟩, .string ⟨#[]⟩, .string ⟨#[66]⟩, .string ⟨#[]⟩, .string ⟨#[67]⟩, .string ⟨#[68]⟩] 9)).alloc (.cells #[.slice (some ⟨w2.heap.size, 0, none⟩) 7 7, .slice (some ⟨w2.heap.size + 1, 0, none⟩) 7 7] 39) = w7 at *
 obtain ⟨hr, hur⟩ := HL3.out w7 HST.out
 unfold tN at hr hur
 have HUR := aa hur
 have Al := aa (Fc Any _ _ Jq hr (by decide) (Jv (by decide)))
 clear hr hur HL3
 generalize ((((w7.alloc (.cells #[.int .i64 0, .int .i64 2] 3)).alloc (.cells #[.int .i64 0, .int .i64 (-1)] 3)).alloc (.cells #[.int .i64 1, .int .i64 3] 3)).alloc (.cells #[.slice (some ⟨w2.heap.size + 1 + 1 + 1, 0, none⟩) 2 2, .slice (some ⟨w2.heap.size + 1 + 1 + 1 + 1, 0, none⟩) 2 2, .slice (some ⟨w2.heap.size + 1 + 1 + 1 + 1 + 1, 0, none⟩) 2 2] 26)) = w8 at *
 refine Al.out.mono ?_
 rintro e w9 ⟨rfl, iH⟩
 have e3 : Dx Jq = 2 := by unfold Dx; rw [if_pos Bd.1, Bd.2]
 have e4 : Dw Jq = 0 := by unfold Dw; rw [if_pos Bd.1]
 rw [e3, e4]
 have mZ := HUR.out.trans iH
 have k0 := mZ.cell yj.out.1
 have k1 := mZ.cell yj.out.2
 have HT9 := aa (qD.out.keep ((HUT.out.trans mZ).kept _))
 have HW9 := aa (QC.out.keep (mZ.kept _))
 have ox := aa (dc.out.trans (HUT.out.trans mZ))
 have bf := Up.alloc w9 (.cells #[.slice (some ⟨w2.heap.size, 0, none⟩) 7 7, .slice (some ⟨w2.heap.size + 1, 0, none⟩) 7 7] 39)
 have aV : Hid (cD Any (w9.alloc (.cells #[.slice (some ⟨w2.heap.size, 0, none⟩) 7 7, .slice (some ⟨w2.heap.size + 1, 0, none⟩) 7 7] 39)) (.slice (some ⟨w9.heap.size, 0, none⟩) 1 1) [sS]) := by
  refine ⟨_, _, rfl, Nat.le_refl _, .inr ⟨_, 0, rfl, trivial, fun k hk => ?_⟩⟩
  obtain rfl : k = 0 := by have : k < 1 := hk; omega
  exact ⟨_, _, dW w9 _ _ _, eu w9 _ _ _, HW9.out.keep (bf.kept _)⟩
 have Fg := aa (FE Any Any _ _ _ [sS] [sS] (HT9.out.keep (bf.kept _)) aV.out (by decide) (fun k => by
  match k with
  | 0 => exact ⟨by decide, by decide⟩
  | k + 1 => exact ⟨Nat.zero_le _, Nat.zero_le _⟩))
 have Bg := aa (ox.out.trans bf)
 clear iH mZ bf e3 e4 Al yj QC qD HUR HUT HST HT9 HW9 dc ox aV
 go_wp2_with fail
 refine Fg.out.mono ?_
 rintro e Fh ⟨rfl, Bh⟩
 have yl := aa (Bg.out.trans Bh)
 simp only [decide_true]
 clear Bh Fg
 go_wp2_with fail
 go_ret
 exact ⟨rfl, yl.out⟩
end
section
open Go.ChangeShapes Go.WideShapes Go.ChangeAt Go.RowKit Go.Deep
theorem Jw : ownKnob Tryz.prog.godebug = none := by kernel_rfl
theorem laidOut : laidOutB Tryz.prog = true := by kernel_rfl
section
variable {H : Type} {enc : TypeId × Value → H} {W : World}
theorem vp {n : Nat} (h : n ≤ maxLen) : n ≤ 9223372036854775807 := by unfold maxLen at h; exact h
theorem CB {fuel : Nat} {v : Value} {x : DataW H × List MemPlace} (h : DataW.trod enc Tryz.prog W 0 (fun _ => true) true fuel 22 [v] = some x) : ∃ xs : List ByteArray, ah Any W v xs ∧ xs.length ≤ 9223372036854775807 ∧ ∀ k, (gs xs k).size ≤ 9223372036854775807 := by
 rcases open_strings Tryz.underlying22 Tryz.underlying9 (by kernel_rfl) h with ⟨hcs, _⟩ | ⟨a, l, c, zs, hcs, _, hl, hm, hz, _, hcell, hwf⟩
 ·obtain rfl : v = .slice none 0 0 := by simpa using hcs
  exact ⟨[], ⟨none, 0, rfl, Nat.le_refl _, .inl rfl⟩, by simp, fun k => by simp [gs]⟩
 ·obtain rfl : v = .slice (some a) l c := by simpa using hcs
  simp only [if_true] at hz
  have hlen : (zs.take l).length = l := by simp; omega
  refine ⟨zs.take l, ⟨some a, c, by rw [hlen], by rw [hlen]; exact hl, ?_⟩, by rw [hlen]; exact vp (Nat.le_trans hl hm), fun k => ?_⟩
  ·by_cases h0 : l = 0
   ·exact .inl (by rw [hlen]; exact h0)
   ·obtain ⟨b, off, spot⟩ := a
    have hspot : spot = none := by simpa [Addr.add] using World.cell?_spot (hcell 0 (by omega))
    subst hspot
    refine .inr ⟨b, off, rfl, trivial, fun k hk => ?_⟩
    rw [hlen] at hk
    rw [← add_plain, hcell k (by omega)]
    have hk2 : k < zs.length := by omega
    simp [gs, hk, hk2]
  ·by_cases hk : k < (zs.take l).length
   ·have hm : gs (zs.take l) k ∈ zs := by
     have : gs (zs.take l) k = (zs.take l)[k] := by unfold gs; rw [List.getD_eq_getElem?_getD, List.getElem?_eq_getElem hk]; rfl
     rw [this]; exact List.mem_of_mem_take (List.getElem_mem hk)
    exact vp (hwf _ hm)
   ·have : gs (zs.take l) k = ByteArray.empty := by simp [gs, List.getElem?_eq_none (by omega : (zs.take l).length ≤ k)]
    rw [this]; simp
theorem Jy {t : TypeId} {v : Value} {d : DataW H} {p : List MemPlace} (h1 : v.cells = #[v]) (h : DataW.Trod enc Tryz.prog W 0 (fun _ => true) true t v d p) : ∃ fuel, DataW.trod enc Tryz.prog W 0 (fun _ => true) true fuel t [v] = some (d, p) := by
 obtain ⟨n, hn⟩ := h
 rw [h1] at hn; exact ⟨n, hn⟩
theorem FL {t : TypeId} {v : Value} {d : DataW H} {p : List MemPlace} (h : DataW.Trod enc Tryz.prog W 0 (fun _ => true) true t v d p) : ∀ x ∈ p, x.block < W.heap.size := by
 obtain ⟨m, hm⟩ := h; exact DataW.trod_lt m _ _ _ hm
end
end
section
open Go.RowKit Go.Deep
theorem Jz {names : List ByteArray} (hn : cH names) : 0 < (allT names).length ∧ (allT names).length ≤ 15 := by
 refine ⟨IM hn, ?_⟩
 unfold allT
 rw [List.length_map, lN hn]
 split <;> (try split) <;> (try split) <;> omega
theorem wG {names : List ByteArray} (hn : cH names) {t : ay} (ht : t ∈ allT names) : kW t names ∧ t.ps.length + 1 = 2 * names.length ∧ t.ns.length = t.ps.length ∧ ∀ k, (gs t.ns k).size ≤ 70000 := by
 obtain ⟨ho, q, hq, rfl⟩ := o6 hn ht
 obtain ⟨h1, _, h3, _, h5, _⟩ := cQ hn hq
 obtain ⟨_, _, hl, _, _⟩ := aD h5
 exact ⟨ho, by rw [lH]; exact h3, hl, pQ h1.good⟩
end
section
open Go.ChangeShapes Go.WideShapes Go.ChangeAt Go.RowKit Go.Deep
instance : Inhabited UR := ⟨⟨0, 0, []⟩⟩
section
variable {H : Type} {enc : TypeId × Value → H} {W : World}
theorem CC {v : Value} {d : DataW H} {p : List MemPlace} {base : Nat} (hv : Value.okWide Tryz.prog W .any base 22 v) (h : DataW.Trod enc Tryz.prog W 0 (fun _ => true) true 22 v d p) : ∃ xs : List ByteArray, ah Any W v xs ∧ xs.length ≤ 9223372036854775807 ∧ ∀ k, (gs xs k).size ≤ 9223372036854775807 := by
 obtain ⟨a, l, c, rfl⟩ := okWide_slice Tryz.underlying22 hv
 obtain ⟨n, hn⟩ := Jy rfl h
 exact CB hn
end
end
end Go.Proofs.YthgabkgmkolobaaGreat
