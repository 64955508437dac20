/- The arguments of a law, opened; the frame of a law's proof. The example of layer 34: .. -/
import Derived.Test.YteegefnjnikngaaGreatQ1
import Derived.Test.YteegefnjnikngaaGreatRows
import Derived.WalkKit
import Derived.ProofKit
import Derived.OpenShut
import Derived.ShutString
import Derived.ChangeOld
import Derived.Below
import Derived.Deep.Matrix
import Derived.Lib.SmallJoins
import Derived.Test.YteegefnjnikngaaGreatQ6
import Derived.Test.YteegefnjnikngaaGreatQ49
import Derived.Test.YteegefnjnikngaaGreatQ50
import Derived.Test.YteegefnjnikngaaGreatQ51
import Derived.Test.YteegefnjnikngaaGreatQ27
import Derived.Deep.RegionHeld3
import Derived.Test.YteegefnjnikngaaGreatQ52
import Derived.Test.YteegefnjnikngaaGreatQ26
set_option maxRecDepth 100000
namespace Go.Proofs.YteegefnjnikngaaGreat
section
open Go.ChangeShapes Go.WideShapes Go.ChangeAt Go.RowKit Go.Deep
theorem OW : ownKnob Tryz.prog.godebug = none := by kernel_rfl
theorem laidOut : laidOutB Tryz.prog = true := by kernel_rfl
section
variable {H : Type} {enc : TypeId × Value → H} {W : World}
theorem vZ {n : Nat} (h : n ≤ maxLen) : n ≤ 9223372036854775807 := by unfold maxLen at h; exact h
theorem Jv {fuel : Nat} {v : Value} {x : DataW H × List MemPlace} (h : DataW.trod enc Tryz.prog W 0 (fun _ => true) true fuel 22 [v] = some x) : ∃ xs : List ByteArray, au Any W v xs ∧ xs.length ≤ 9223372036854775807 ∧ ∀ k, (gs xs k).size ≤ 9223372036854775807 := by
 rcases open_strings Tryz.underlying22 Tryz.underlying9 (by kernel_rfl) h with ⟨hcs, _⟩ | ⟨a, l, c, zs, hcs, _, hl, hm, hz, _, hcell, hwf⟩
 ·obtain rfl : v = .slice none 0 0 := by simpa using hcs
  exact ⟨[], ⟨none, 0, rfl, Nat.le_refl _, .inl rfl⟩, by simp, fun k => by simp [gs]⟩
 ·obtain rfl : v = .slice (some a) l c := by simpa using hcs
  simp only [if_true] at hz
  have hlen : (zs.take l).length = l := by simp; omega
  refine ⟨zs.take l, ⟨some a, c, by rw [hlen], by rw [hlen]; exact hl, ?_⟩, by rw [hlen]; exact vZ (Nat.le_trans hl hm), fun k => ?_⟩
  ·by_cases h0 : l = 0
   ·exact .inl (by rw [hlen]; exact h0)
   ·obtain ⟨b, off, spot⟩ := a
    have hspot : spot = none := by simpa [Addr.add] using World.cell?_spot (hcell 0 (by omega))
    subst hspot
    refine .inr ⟨b, off, rfl, trivial, fun k hk => ?_⟩
    rw [hlen] at hk
    rw [← add_plain, hcell k (by omega)]
    have hk2 : k < zs.length := by omega
    simp [gs, hk, hk2]
  ·by_cases hk : k < (zs.take l).length
   ·have hm : gs (zs.take l) k ∈ zs := by
     have : gs (zs.take l) k = (zs.take l)[k] := by unfold gs; rw [List.getD_eq_getElem?_getD, List.getElem?_eq_getElem hk]; rfl
     rw [this]; exact List.mem_of_mem_take (List.getElem_mem hk)
    exact vZ (hwf _ hm)
   ·have : gs (zs.take l) k = ByteArray.empty := by simp [gs, List.getElem?_eq_none (by omega : (zs.take l).length ≤ k)]
    rw [this]; simp
theorem Jw {fuel : Nat} {v : Value} {x : DataW H × List MemPlace} (h : DataW.trod enc Tryz.prog W 0 (fun _ => true) true fuel 23 [v] = some x) : ∃ xs : List (List Int), aX Any W v xs ∧ xs.length ≤ 9223372036854775807 ∧ ∀ k, (gl xs k).length ≤ 9223372036854775807 := by
 rcases open_int_rows Tryz.underlying23 Tryz.underlying26 Tryz.underlying3 (by kernel_rfl) (by kernel_rfl) h with ⟨hcs, _⟩ | ⟨a, l, c, A, L, C, Z, hcs, _, hl, hm, _, hr⟩
 ·obtain rfl : v = .slice none 0 0 := by simpa using hcs
  exact ⟨[], ⟨fun _ => undef, ⟨none, 0, rfl, Nat.le_refl _, .inl rfl⟩, fun k hk => absurd hk (Nat.not_lt_zero _)⟩, by simp, fun k => by simp [gl]⟩
 ·obtain rfl : v = .slice (some a) l c := by simpa using hcs
  have hlen : ((List.range l).map fun r => (Z r).take (L r)).length = l := by simp
  have wD : ∀ k, k < l → gl ((List.range l).map fun r => (Z r).take (L r)) k = (Z k).take (L k) := fun k hk => by simp [gl, hk]
  have za : ∀ k, k < l → ((Z k).take (L k)).length = L k := fun k hk => by obtain ⟨_, h1, _, h3, _⟩ := hr k (by omega); simp; omega
  refine ⟨(List.range l).map fun r => (Z r).take (L r), ⟨fun k => .slice (A k) (L k) (C k), ⟨some a, c, by rw [hlen], by rw [hlen]; exact hl, ?_⟩, fun k hk => ?_⟩, by rw [hlen]; exact vZ (Nat.le_trans hl hm), fun k => ?_⟩
  ·by_cases h0 : l = 0
   ·exact .inl (by rw [hlen]; exact h0)
   ·obtain ⟨b, off, spot⟩ := a
    have hspot : spot = none := by simpa [Addr.add] using World.cell?_spot (hr 0 (by omega)).1
    subst hspot
    refine .inr ⟨b, off, rfl, trivial, fun k hk => ?_⟩
    rw [hlen] at hk
    rw [← add_plain]; exact (hr k (by omega)).1
  ·rw [hlen] at hk
   obtain ⟨_, h1, h2, h3, _, h5, h6⟩ := hr k (by omega)
   rw [wD k hk]
   refine ⟨A k, C k, by rw [za k hk], by rw [za k hk]; exact h1, ?_⟩
   by_cases h0 : L k = 0
   ·exact .inl (by rw [za k hk]; exact h0)
   ·cases hA : A k with
    | none => have := h5 hA; omega
    | some a' =>
     obtain ⟨_, h7⟩ := h6 a' hA
     obtain ⟨b, off, rfl, hc⟩ := ints_at (zs := Z k) (k := .i64) (fun i hi => h7 i (by omega)) (by omega)
     refine .inr ⟨b, off, rfl, trivial, fun j hj => ?_⟩
     rw [za k hk] at hj
     rw [hc j (by omega)]
     simp [gi, hj]
  ·by_cases hk : k < l
   ·rw [wD k hk, za k hk]
    obtain ⟨_, h1, h2, _⟩ := hr k (by omega)
    exact vZ (Nat.le_trans h1 h2)
   ·have : gl ((List.range l).map fun r => (Z r).take (L r)) k = [] := by simp [gl, hk]
    rw [this]; simp
theorem Fw {t : TypeId} {v : Value} {d : DataW H} {p : List MemPlace} (h1 : v.cells = #[v]) (h : DataW.Trod enc Tryz.prog W 0 (fun _ => true) true t v d p) : ∃ fuel, DataW.trod enc Tryz.prog W 0 (fun _ => true) true fuel t [v] = some (d, p) := by
 obtain ⟨n, hn⟩ := h
 rw [h1] at hn; exact ⟨n, hn⟩
theorem Jy {t : TypeId} {v : Value} {d : DataW H} {p : List MemPlace} (h : DataW.Trod enc Tryz.prog W 0 (fun _ => true) true t v d p) : ∀ x ∈ p, x.block < W.heap.size := by
 obtain ⟨m, hm⟩ := h; exact DataW.trod_lt m _ _ _ hm
theorem Jz {v : Value} {d : DataW H} {p : List MemPlace} {base : Nat} (hv : Value.okWide Tryz.prog W .any base 23 v) (h : DataW.Trod enc Tryz.prog W 0 (fun _ => true) true 23 v d p) : ∃ xs : List (List Int), aX Any W v xs ∧ xs.length ≤ 9223372036854775807 ∧ ∀ k, (gl xs k).length ≤ 9223372036854775807 := by
 obtain ⟨a, l, c, rfl⟩ := okWide_slice Tryz.underlying23 hv
 obtain ⟨n, hn⟩ := Fw rfl h
 exact Jw hn
end
end
section
open Go.RowKit Go.Deep
theorem Fx {w : World} {B n : Nat} {xs : List (List Int)} (hn : n = xs.length) (f : Nat → Value) (hc : ∀ k, k < n → w.cell? ⟨B, k, none⟩ = some (f k)) (hr : ∀ k, k < n → ax Any w (f k) (gl xs k)) : aX Any w (.slice (some ⟨B, 0, none⟩) n n) xs := by
 subst hn
 refine ⟨f, ⟨_, _, rfl, Nat.le_refl _, .inr ⟨_, 0, rfl, trivial, fun k hk => ?_⟩⟩, fun k hk => hr k hk⟩
 rw [Nat.zero_add]; exact hc k hk
theorem wh (w : World) (x : Int) (xs : List Int) (h : xs = [x]) : ax Any (w.alloc (.cells #[.int .i64 x] 3)) (.slice (some ⟨w.heap.size, 0, none⟩) 1 1) xs := pE w _ _ xs (by rw [h]; rfl) 1 (by rw [h]; rfl)
def wj (w : World) (a b c d : Int) : World := (((w.alloc (.cells #[.int .i64 a] 3)).alloc (.cells #[.int .i64 b] 3)).alloc (.cells #[.int .i64 c] 3)).alloc (.cells #[.int .i64 d] 3)
theorem Mp (w : World) (a b c d : Int) : aX Any ((wj w a b c d).alloc (.cells #[.slice (some ⟨w.heap.size, 0, none⟩) 1 1, .slice (some ⟨w.heap.size + 1, 0, none⟩) 1 1, .slice (some ⟨w.heap.size + 1 + 1, 0, none⟩) 1 1, .slice (some ⟨w.heap.size + 1 + 1 + 1, 0, none⟩) 1 1] 26)) (.slice (some ⟨w.heap.size + 1 + 1 + 1 + 1, 0, none⟩) 4 4) [[a], [b], [c], [d]] ∧ Up w ((wj w a b c d).alloc (.cells #[.slice (some ⟨w.heap.size, 0, none⟩) 1 1, .slice (some ⟨w.heap.size + 1, 0, none⟩) 1 1, .slice (some ⟨w.heap.size + 1 + 1, 0, none⟩) 1 1, .slice (some ⟨w.heap.size + 1 + 1 + 1, 0, none⟩) 1 1] 26)) := by
 have s0 := wh w a [a] rfl
 have s1 := wh (w.alloc (.cells #[.int .i64 a] 3)) b [b] rfl
 have s2 := wh ((w.alloc (.cells #[.int .i64 a] 3)).alloc (.cells #[.int .i64 b] 3)) c [c] rfl
 have s3 := wh (((w.alloc (.cells #[.int .i64 a] 3)).alloc (.cells #[.int .i64 b] 3)).alloc (.cells #[.int .i64 c] 3)) d [d] rfl
 simp only [World.size_alloc] at s1 s2 s3
 have hsz : (wj w a b c d).heap.size = w.heap.size + 1 + 1 + 1 + 1 := by unfold wj; simp only [World.size_alloc]
 have hL := Up.alloc (wj w a b c d) (.cells #[.slice (some ⟨w.heap.size, 0, none⟩) 1 1, .slice (some ⟨w.heap.size + 1, 0, none⟩) 1 1, .slice (some ⟨w.heap.size + 1 + 1, 0, none⟩) 1 1, .slice (some ⟨w.heap.size + 1 + 1 + 1, 0, none⟩) 1 1] 26)
 have u3 := Up.alloc (((w.alloc (.cells #[.int .i64 a] 3)).alloc (.cells #[.int .i64 b] 3)).alloc (.cells #[.int .i64 c] 3)) (.cells #[.int .i64 d] 3)
 have u2 := Up.alloc ((w.alloc (.cells #[.int .i64 a] 3)).alloc (.cells #[.int .i64 b] 3)) (.cells #[.int .i64 c] 3)
 have u1 := Up.alloc (w.alloc (.cells #[.int .i64 a] 3)) (.cells #[.int .i64 b] 3)
 have u0 := Up.alloc w (.cells #[.int .i64 a] 3)
 refine ⟨Fx (f := fun k => .slice (some ⟨w.heap.size + k, 0, none⟩) 1 1) rfl (fun k hk => ?_) (fun k hk => ?_), ((((u0.trans u1).trans u2).trans u3).trans hL)⟩
 ·rw [← hsz, aK]
  match k, hk with
  | 0, _ => rfl
  | 1, _ => rfl
  | 2, _ => rfl
  | 3, _ => rfl
 ·match k, hk with
  | 0, _ => exact ax.keep s0 ((((u1.trans u2).trans u3).trans hL).kept _)
  | 1, _ => exact ax.keep s1 (((u2.trans u3).trans hL).kept _)
  | 2, _ => exact ax.keep s2 ((u3.trans hL).kept _)
  | 3, _ => exact ax.keep s3 (hL.kept _)
def qG (w : World) : World := ((w.alloc (.cells #[.int .i64 0, .int .i64 2] 3)).alloc (.cells #[.int .i64 0, .int .i64 (-1)] 3)).alloc (.cells #[.int .i64 1, .int .i64 3] 3)
theorem Mq (w : World) : aX Any ((qG w).alloc (.cells #[.slice (some ⟨w.heap.size, 0, none⟩) 2 2, .slice (some ⟨w.heap.size + 1, 0, none⟩) 2 2, .slice (some ⟨w.heap.size + 1 + 1, 0, none⟩) 2 2] 26)) (.slice (some ⟨w.heap.size + 1 + 1 + 1, 0, none⟩) 3 3) Fq ∧ Up w ((qG w).alloc (.cells #[.slice (some ⟨w.heap.size, 0, none⟩) 2 2, .slice (some ⟨w.heap.size + 1, 0, none⟩) 2 2, .slice (some ⟨w.heap.size + 1 + 1, 0, none⟩) 2 2] 26)) := by
 have s0 := pE w #[.int .i64 0, .int .i64 2] 3 [0, 2] rfl 2 rfl
 have s1 := pE (w.alloc (.cells #[.int .i64 0, .int .i64 2] 3)) #[.int .i64 0, .int .i64 (-1)] 3 [0, -1] rfl 2 rfl
 have s2 := pE ((w.alloc (.cells #[.int .i64 0, .int .i64 2] 3)).alloc (.cells #[.int .i64 0, .int .i64 (-1)] 3)) #[.int .i64 1, .int .i64 3] 3 [1, 3] rfl 2 rfl
 simp only [World.size_alloc] at s1 s2
 have hsz : (qG w).heap.size = w.heap.size + 1 + 1 + 1 := by unfold qG; simp only [World.size_alloc]
 have hL := Up.alloc (qG w) (.cells #[.slice (some ⟨w.heap.size, 0, none⟩) 2 2, .slice (some ⟨w.heap.size + 1, 0, none⟩) 2 2, .slice (some ⟨w.heap.size + 1 + 1, 0, none⟩) 2 2] 26)
 have u2 := Up.alloc ((w.alloc (.cells #[.int .i64 0, .int .i64 2] 3)).alloc (.cells #[.int .i64 0, .int .i64 (-1)] 3)) (.cells #[.int .i64 1, .int .i64 3] 3)
 have u1 := Up.alloc (w.alloc (.cells #[.int .i64 0, .int .i64 2] 3)) (.cells #[.int .i64 0, .int .i64 (-1)] 3)
 have u0 := Up.alloc w (.cells #[.int .i64 0, .int .i64 2] 3)
 refine ⟨Fx (f := fun k => .slice (some ⟨w.heap.size + k, 0, none⟩) 2 2) rfl (fun k hk => ?_) (fun k hk => ?_), (((u0.trans u1).trans u2).trans hL)⟩
 ·rw [← hsz, aK]
  match k, hk with
  | 0, _ => rfl
  | 1, _ => rfl
  | 2, _ => rfl
 ·match k, hk with
  | 0, _ => exact ax.keep s0 (((u1.trans u2).trans hL).kept _)
  | 1, _ => exact ax.keep s1 ((u2.trans hL).kept _)
  | 2, _ => exact ax.keep s2 (hL.kept _)
theorem Wn (k : Nat) : (gs nM k).size ≤ 70000 := gZ (M := 70000) (by decide) k
theorem Fy {l : List (List Int)} (h : ∀ x ∈ l, x.length ≤ 1000000) (k : Nat) : (gl l k).length ≤ 1000000 := by
 by_cases hk : k < l.length
 ·have : gl l k = l[k] := by simp [gl, hk]
  rw [this]; exact h _ (List.getElem_mem hk)
 ·have : gl l k = [] := by simp [gl, show l.length ≤ k by omega]
  rw [this]; simp
set_option maxHeartbeats 4000000 in
theorem Mr (w : World) : Calls Tryz.prog 28 #[] w fun e w' => e = .returned (.bool true) ∧ Up w w' := by
 have dr : vo 7 = 945 ∧ vk 7 = 0 := by decide +kernel
 have aS := Up.alloc w (.cells #[.string ⟨#[65]⟩, .string ⟨#[66]⟩, .string ⟨#[67]⟩, .string ⟨#[68]⟩] 9)
 have Sy := Ea w #[.string ⟨#[65]⟩, .string ⟨#[66]⟩, .string ⟨#[67]⟩, .string ⟨#[68]⟩] 9 nM rfl 4 rfl
 have bF := aa aS
 have HN1 := aa Sy
 clear aS Sy
 go_enter Tryz.func28, Tryz.ntmps28
 go_wp2_with fail
 refine (BZ 7 (by decide) w).mono ?_
 rintro e w0 ⟨rfl, rfl⟩
 rw [dr.1, dr.2]
 clear dr
 have Qu := aa (Mp (w.alloc (.cells #[.string ⟨#[65]⟩, .string ⟨#[66]⟩, .string ⟨#[67]⟩, .string ⟨#[68]⟩] 9)) 0 0 1 1)
 have Ce := aa (OT Any _ _ _ nM r5 (au.keep HN1.out (Qu.out.2.kept _)) (by decide) Wn Qu.out.1 (by decide) (Fy (by decide)) (.inl (by decide)))
 have bE := aa (bF.out.trans Qu.out.2)
 simp only [World.size_alloc] at Ce bE
 unfold wj at Ce bE
 go_wp2_with fail
 refine Ce.out.mono ?_
 rintro e w2 ⟨aF, v2, rfl, ht2⟩
 have e1 : zw nM r5 = 1 := by unfold zw; rw [Fs, if_pos rfl, Fu]
 have e2 : zx nM r5 = [qa] := by unfold zx; rw [if_pos Fs, RJ]
 rw [e2] at ht2
 rw [e1, Fs]
 obtain ⟨p2, c2, rfl, -⟩ := lR ht2
 have dL := aa (bE.out.trans aF)
 have mP : Hid (cz Any w2 (.slice p2 1 c2) [qa]) := ht2
 have h1 := pE w2 #[.int .i64 (-1), .int .i64 0, .int .i64 0, .int .i64 2, .int .i64 2, .int .i64 4, .int .i64 4] 3 qa.ps rfl 7 rfl
 have h2 := Ea (w2.alloc (.cells #[.int .i64 (-1), .int .i64 0, .int .i64 0, .int .i64 2, .int .i64 2, .int .i64 4, .int .i64 4] 3)) #[.string ⟨#[]⟩, .string ⟨#[65]⟩, .string ⟨#[]⟩, .string ⟨#[66]⟩, .string ⟨#[]⟩, .string ⟨#[67]⟩, .string ⟨#[68]⟩] 9 qa.ns rfl 7 rfl
 have u1 := Up.alloc w2 (.cells #[.int .i64 (-1), .int .i64 0, .int .i64 0, .int .i64 2, .int .i64 2, .int .i64 4, .int .i64 4] 3)
 have u2 := Up.alloc (w2.alloc (.cells #[.int .i64 (-1), .int .i64 0, .int .i64 0, .int .i64 2, .int .i64 2, .int .i64 4, .int .i64 4] 3)) (.cells #[.string ⟨#[]⟩, .string ⟨#[65]⟩, .string ⟨#[]⟩, .string ⟨#[66]⟩, .string ⟨#[]⟩, .string ⟨#[67]⟩, .string ⟨#[68]⟩] 9)
 have u3 := Up.alloc ((w2.alloc (.cells #[.int .i64 (-1), .int .i64 0, .int .i64 0, .int .i64 2, .int .i64 2, .int .i64 4, .int .i64 4] 3)).alloc (.cells #[.string ⟨#[]⟩, .string ⟨#[65]⟩, .string ⟨#[]⟩, .string ⟨#[66]⟩, .string ⟨#[]⟩, .string ⟨#[67]⟩, .string ⟨#[68]⟩] 9)) (.cells #[.slice (some ⟨w2.heap.size, 0, none⟩) 7 7, .slice (some ⟨w2.heap.size + 1, 0, none⟩) 7 7] 39)
 have k0 := dO ((w2.alloc (.cells #[.int .i64 (-1), .int .i64 0, .int .i64 0, .int .i64 2, .int .i64 2, .int .i64 4, .int .i64 4] 3)).alloc (.cells #[.string ⟨#[]⟩, .string ⟨#[65]⟩, .string ⟨#[]⟩, .string ⟨#[66]⟩, .string ⟨#[]⟩, .string ⟨#[67]⟩, .string ⟨#[68]⟩] 9)) (.slice (some ⟨w2.heap.size, 0, none⟩) 7 7) (.slice (some ⟨w2.heap.size + 1, 0, none⟩) 7 7) 39
 have k1 := dP ((w2.alloc (.cells #[.int .i64 (-1), .int .i64 0, .int .i64 0, .int .i64 2, .int .i64 2, .int .i64 4, .int .i64 4] 3)).alloc (.cells #[.string ⟨#[]⟩, .string ⟨#[65]⟩, .string ⟨#[]⟩, .string ⟨#[66]⟩, .string ⟨#[]⟩, .string ⟨#[67]⟩, .string ⟨#[68]⟩] 9)) (.slice (some ⟨w2.heap.size, 0, none⟩) 7 7) (.slice (some ⟨w2.heap.size + 1, 0, none⟩) 7 7) 39
 simp only [World.size_alloc] at h2 k0 k1
 have HTW := aa (ay.keep (S := Any) (t := qa) ⟨_, _, rfl, ax.keep h1 (u2.kept _), h2⟩ (u3.kept _))
 have Wo := aa ((u1.trans u2).trans u3)
 have uL := aa (And.intro k0 k1)
 have HST : Hid ((((w2.alloc (.cells #[.int .i64 (-1), .int .i64 0, .int .i64 0, .int .i64 2, .int .i64 2, .int .i64 4, .int .i64 4] 3)).alloc (.cells #[.string ⟨#[]⟩, .string ⟨#[65]⟩, .string ⟨#[]⟩, .string ⟨#[66]⟩, .string ⟨#[]⟩, .string ⟨#[67]⟩, .string ⟨#[68]⟩] 9)).alloc (.cells #[.slice (some ⟨w2.heap.size, 0, none⟩) 7 7, .slice (some ⟨w2.heap.size + 1, 0, none⟩) 7 7] 39)).heap.size = w2.heap.size + 1 + 1 + 1) := by unfold Hid; simp only [World.size_alloc]
 clear aF ht2 e1 e2 Ce Qu bE HN1 bF h1 h2 u1 u2 u3 k0 k1
 have HL3 : Hid (∀ W : World, W.heap.size = w2.heap.size + 1 + 1 + 1 → aX Any ((qG W).alloc (.cells #[.slice (some ⟨w2.heap.size + 1 + 1 + 1, 0, none⟩) 2 2, .slice (some ⟨w2.heap.size + 1 + 1 + 1 + 1, 0, none⟩) 2 2, .slice (some ⟨w2.heap.size + 1 + 1 + 1 + 1 + 1, 0, none⟩) 2 2] 26)) (.slice (some ⟨w2.heap.size + 1 + 1 + 1 + 1 + 1 + 1, 0, none⟩) 3 3) Fq ∧ Up W ((qG W).alloc (.cells #[.slice (some ⟨w2.heap.size + 1 + 1 + 1, 0, none⟩) 2 2, .slice (some ⟨w2.heap.size + 1 + 1 + 1 + 1, 0, none⟩) 2 2, .slice (some ⟨w2.heap.size + 1 + 1 + 1 + 1 + 1, 0, none⟩) 2 2] 26))) := fun W hW => by
  have h := Mq W
  rw [hW] at h; exact h
 go_wp2_with fail
 generalize ((w2.alloc (.cells #[.int .i64 (-1), .int .i64 0, .int .i64 0, .int .i64 2, .int .i64 2, .int .i64 4, .int .i64 4] 3)).alloc (.cells #[.string ⟨#[]⟩, .string ⟨#[65]⟩, .string ⟨#[]⟩, .string ⟨#[66]⟩, .string ⟨#[]⟩, .string ⟨#[67]⟩, .string ⟨#[68]⟩] 9)).alloc (.cells #[.slice (some ⟨w2.heap.size, 0, none⟩) 7 7, .slice (some ⟨w2.heap.size + 1, 0, none⟩) 7 7] 39) = w7 at *
 obtain ⟨hr, Wp⟩ := HL3.out w7 HST.out
 unfold qG at hr Wp
 have HUR := aa Wp
 have Hl := aa (Cf Any _ _ Fq hr (by decide) (Fy (by decide)))
 clear hr Wp HL3
 generalize ((((w7.alloc (.cells #[.int .i64 0, .int .i64 2] 3)).alloc (.cells #[.int .i64 0, .int .i64 (-1)] 3)).alloc (.cells #[.int .i64 1, .int .i64 3] 3)).alloc (.cells #[.slice (some ⟨w2.heap.size + 1 + 1 + 1, 0, none⟩) 2 2, .slice (some ⟨w2.heap.size + 1 + 1 + 1 + 1, 0, none⟩) 2 2, .slice (some ⟨w2.heap.size + 1 + 1 + 1 + 1 + 1, 0, none⟩) 2 2] 26)) = w8 at *
 refine Hl.out.mono ?_
 rintro e w9 ⟨rfl, qy⟩
 have e3 : Ah Fq = 2 := by unfold Ah; rw [if_pos x4.1, x4.2]
 have e4 : Ag Fq = 0 := by unfold Ag; rw [if_pos x4.1]
 rw [e3, e4]
 have xd := HUR.out.trans qy
 have k0 := xd.cell uL.out.1
 have k1 := xd.cell uL.out.2
 have HT9 := aa (mP.out.keep ((Wo.out.trans xd).kept _))
 have HW9 := aa (HTW.out.keep (xd.kept _))
 have Qk := aa (dL.out.trans (Wo.out.trans xd))
 have aZ := Up.alloc w9 (.cells #[.slice (some ⟨w2.heap.size, 0, none⟩) 7 7, .slice (some ⟨w2.heap.size + 1, 0, none⟩) 7 7] 39)
 have aQ : Hid (cz Any (w9.alloc (.cells #[.slice (some ⟨w2.heap.size, 0, none⟩) 7 7, .slice (some ⟨w2.heap.size + 1, 0, none⟩) 7 7] 39)) (.slice (some ⟨w9.heap.size, 0, none⟩) 1 1) [qa]) := by
  refine ⟨_, _, rfl, Nat.le_refl _, .inr ⟨_, 0, rfl, trivial, fun k hk => ?_⟩⟩
  obtain rfl : k = 0 := by have : k < 1 := hk; omega
  exact ⟨_, _, dO w9 _ _ _, dP w9 _ _ _, HW9.out.keep (aZ.kept _)⟩
 have Ms := aa (tR Any Any _ _ _ [qa] [qa] (HT9.out.keep (aZ.kept _)) aQ.out (by decide) (fun k => by
  match k with
  | 0 => exact ⟨by decide, by decide⟩
  | k + 1 => exact ⟨Nat.zero_le _, Nat.zero_le _⟩))
 have HU10 := aa (Qk.out.trans aZ)
 clear qy xd aZ e3 e4 Hl uL HTW mP HUR Wo HST HT9 HW9 dL Qk aQ
 go_wp2_with fail
 refine Ms.out.mono ?_
 rintro e w11 ⟨rfl, Wq⟩
 have Uh := aa (HU10.out.trans Wq)
 simp only [decide_true]
 clear Wq Ms
 go_wp2_with fail
 go_ret
 exact ⟨rfl, Uh.out⟩
end
section
open Go.RowKit Go.Deep
end
end Go.Proofs.YteegefnjnikngaaGreat
