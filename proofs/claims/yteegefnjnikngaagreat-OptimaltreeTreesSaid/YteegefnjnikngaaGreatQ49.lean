/- Reference 34: checkNames. The contract of layer 31's reference's Parse where the text is .. -/
import Derived.Test.YteegefnjnikngaaGreatQ1
import Derived.Test.YteegefnjnikngaaGreatQ44
import Derived.Test.YteegefnjnikngaaGreatQ14
import Derived.Test.YteegefnjnikngaaGreatQ46
import Derived.Test.YteegefnjnikngaaGreatQ16
set_option maxRecDepth 100000
namespace Go.Proofs.YteegefnjnikngaaGreat
section
open Go.RowKit Go.Deep
def Qr (names : List ByteArray) (k : Nat) : Int := gJ (names.take k) (gs names k)
theorem RI (names : List ByteArray) {k : Nat} (hk : k < names.length) : cE names k = decide (0 ≤ Qr names k) := by
 unfold Qr
 have h1 : 0 ≤ gJ (names.take k) (gs names k) ↔ ∃ j, j < (names.take k).length ∧ gs (names.take k) j = gs names k := Ct
 have h2 : cE names k = true ↔ ∃ j, j < k ∧ gs names j = gs names k := by
  unfold cE
  rw [List.any_eq_true]
  constructor
  ·rintro ⟨j, hj, h⟩; exact ⟨j, List.mem_range.1 hj, of_decide_eq_true h⟩
  ·rintro ⟨j, hj, h⟩; exact ⟨j, List.mem_range.2 hj, decide_eq_true h⟩
 have h3 : (∃ j, j < (names.take k).length ∧ gs (names.take k) j = gs names k) ↔ ∃ j, j < k ∧ gs names j = gs names k := by
  have hl : (names.take k).length = k := by rw [List.length_take]; omega
  rw [hl]
  constructor
  ·rintro ⟨j, hj, h⟩; exact ⟨j, hj, by rw [← h]; simp [gs, hj]⟩
  ·rintro ⟨j, hj, h⟩; exact ⟨j, hj, by rw [← h]; simp [gs, hj]⟩
 by_cases e : cE names k = true
 ·rw [e, decide_eq_true (h1.2 (h3.2 (h2.1 e)))]
 ·rw [Bool.not_eq_true] at e
  rw [e, decide_eq_false fun h => by rw [h2.2 (h3.1 (h1.1 h))] at e; cases e]
set_option maxHeartbeats 2000000 in
theorem zv (S : Nat → Prop) (w : World) (v : Value) (names : List ByteArray) (h : au S w v names) (hn : names.length ≤ 1000000) (hz : ∀ k, (gs names k).size ≤ 70000) :
  Calls Tryz.prog 95 #[v] w fun e w' => e = .returned (.int .i64 (bD names)) ∧ Up w w' := by
 obtain ⟨p, cap, rfl, hcap, _⟩ := aA.open h
 have h : au S w (.slice p names.length cap) names := h
 have HC : Hid (bD names = if names.length < 2 ∨ 7 < names.length then 4 else firstNZ (cN names) names.length) := rfl
 have HN := aa h
 have HZ := aa hz
 clear h hz
 by_cases h1 : names.length < 2
 ·go_enter Tryz.func95, Tryz.ntmps95
  go_wp2_with fail
  go_ret
  exact ⟨aH (by rw [HC.out, if_pos (.inl h1)]), Up.refl _⟩
 by_cases h2 : 7 < names.length
 ·go_enter Tryz.func95, Tryz.ntmps95
  go_wp2_with fail
  go_ret
  exact ⟨aH (by rw [HC.out, if_pos (.inr h2)]), Up.refl _⟩
 have HF : Hid (bD names = firstNZ (cN names) names.length) := by unfold Hid; rw [HC.out, if_neg (by omega)]
 clear HC
 have zk : Hid (∀ k, k < names.length → (∀ j, j < k → cN names j = 0) → cN names k ≠ 0 → bD names = cN names k) := fun k hk hj h0 => by
  rw [HF.out, eo hk hj h0]
 go_enter Tryz.func95, Tryz.ntmps95
 go_wp2_with fail
 go_loopw [3] (fun i wr => ∃ k : Nat, k ≤ names.length ∧ i = .int .i64 k ∧ Hid (Up w wr ∧ ∀ j, j < k → cN names j = 0)) (fun i _ => names.length - (intOf i).toNat)
 case atStart => exact ⟨0, Nat.zero_le _, rfl, Up.refl _, fun j hj => absurd hj (Nat.not_lt_zero _)⟩
 case round =>
  obtain ⟨k, hk, rfl, hd⟩ := hrel
  obtain ⟨wo, rfl⟩ : ∃ wo : World, wo = wr := ⟨_, rfl⟩
  by_cases hlt : k < names.length
  ·have ET := au.keep HN.out (hd.out.1.kept S)
   obtain ⟨Qg, no, rfl, hc⟩ := bQ ET hlt
   have gP := aa (LY (gs names k) (HZ.out k) wo)
   have GA : Hid (∀ W, Up wo W → ∀ m, Calls Tryz.prog 151 #[.slice (some ⟨Qg, no, none⟩) k cap, .string (gs names k)] (W.drewN m) fun e w'' => e = .returned (.int .i64 (Qr names k)) ∧ ∃ m', w'' = W.drewN m') := fun W hW m => by
    have h1 := Bf (au.keep ET ((hW.trans (Up.drewN _ m)).kept S)) hk
    have h2 : au S (W.drewN m) (.slice (some ⟨Qg, no, none⟩) k cap) (names.take k) := by
     have hl : (names.take k).length = k := by rw [List.length_take]; omega
     have h3 := h1.congr (g := fun j => .string (gs (names.take k) j)) fun j hj => by simp [gs, hj]
     unfold au
     rw [hl]; exact h3
    exact (Jn S (W.drewN m) _ (names.take k) (gs names k) h2 (by rw [List.length_take]; omega)).mono fun e w' ⟨h4, h5⟩ => ⟨h4, m, h5.symm⟩
   have Aw := aa (RI names hlt)
   have EU := aa (zk.out k hlt hd.out.2)
   have EW : Hid (cN names k = if aP (gs names k).data.toList then (if cE names k then 7 else 0) else 14) := rfl
   generalize Qr names k = ix at *
   generalize gs names k = nm at *
   generalize cE names k = bs at *
   generalize aP nm.data.toList = bn at *
   clear ET
   cases bn
   ·have HE : Hid (cN names k = 14) := EW.out
    go_wp2_with fail
    refine gP.out.mono ?_
    rintro e w1 ⟨rfl, aS⟩
    have bF := aa (hd.out.1.trans aS)
    clear aS
    go_wp2_with fail
    go_ret
    exact ⟨aH ((EU.out (by rw [HE.out]; decide)).trans HE.out).symm, bF.out⟩
   ·cases bs
    ·have HE : Hid (cN names k = 0) := EW.out
     go_wp2_with fail
     refine gP.out.mono ?_
     rintro e w1 ⟨rfl, aS⟩
     have bF := aa (hd.out.1.trans aS)
     have xU := aa (GA.out w1 aS)
     have hc1 := (show Up wo w1 from aS).cell hc
     have d9 : decide (0 ≤ ix) = false := by have := Aw.out; simp at this; simp; omega
     clear aS
     go_wp2_with fail
     go_quiet (with_reducible exact xU.out _)
     go_wp2_with fail
     go_roundw
     case rel => exact ⟨k + 1, by omega, by go_num, bF.out.trans (Up.drewN _ _), fun j hj => if e : j = k then by subst e; exact HE.out else hd.out.2 j (by omega)⟩
     case measure => simp [intOf]; omega
    ·have HE : Hid (cN names k = 7) := EW.out
     go_wp2_with fail
     refine gP.out.mono ?_
     rintro e w1 ⟨rfl, aS⟩
     have bF := aa (hd.out.1.trans aS)
     have xU := aa (GA.out w1 aS)
     have hc1 := (show Up wo w1 from aS).cell hc
     have d9 : decide (0 ≤ ix) = true := by have := Aw.out; simp at this; simp; omega
     clear aS
     go_wp2_with fail
     go_quiet (with_reducible exact xU.out _)
     go_wp2_with fail
     go_ret
     exact ⟨aH ((EU.out (by rw [HE.out]; decide)).trans HE.out).symm, bF.out.trans (Up.drewN _ _)⟩
  ·obtain rfl : k = names.length := by omega
   have nG : Hid (bD names = 0) := by unfold Hid; rw [HF.out, di hd.out.2]
   go_wp2_with fail
   go_ret
   exact ⟨aH nG.out.symm, hd.out.1⟩
end
section
open Go.RowKit Go.Deep
set_option maxHeartbeats 4000000 in
theorem F2 (w : World) (s : ByteArray) (hs : s.size ≤ 1000) {r : RT} (VZ : gH s.data.toList = some r) (he0 : aB (flat r) = 0) : Calls Tryz.prog 153 #[.string s] w fun e w' => Up w w' ∧ ∃ v, e = .returned (.tuple #[v, .int .i64 0]) ∧ ay (fun b => w.heap.size ≤ b) w' v (flat r) := by
 have VH := aa he0
 have V0 := aa VZ
 clear he0 VZ
 have hrb := fW (w := w) (P := .slice none 0 0) (N := .slice none 0 0) (T := 39)
 have hu := Up.alloc w (.cells #[.slice none 0 0, .slice none 0 0] 39)
 have hsz : (w.alloc (.cells #[.slice none 0 0, .slice none 0 0] 39)).heap.size = w.heap.size + 1 := World.size_alloc _ _
 have HU := aa hu
 have b5 := aa hsz
 have jJ := aa hrb
 have iJ := aa hs
 have d1 : decide ((65536 : Int) < (s.size : Int)) = false := decide_eq_false (by omega)
 have PO : ¬ 65536 < s.size := by omega
 have L5 := aa (fun W => B9 s.size s rfl hs W 0 (by omega))
 clear hrb hu hsz hs
 go_enter Tryz.func153, Tryz.ntmps153
 go_wp2_with fail
 clear d1 PO
 generalize w.alloc (.cells #[.slice none 0 0, .slice none 0 0] 39) = w1 at *
 refine (L5.out w1).mono ?_
 rintro e w2 ⟨aF, hm⟩
 have bE := aa (HU.out.trans aF)
 have gV := aa ((Below.block aF w.heap.size (by rw [b5.out]; omega)).trans jJ.out)
 have jM : Hid (w.heap.size + 1 ≤ w2.heap.size) := by have := aF.size; rw [b5.out] at this; exact this
 clear aF L5 HU b5 jJ
 have hr : eN s.data.toList = some (r, [59]) := Ad.2 V0.out
 rw [hr] at hm
 obtain ⟨v2, rfl, hr2⟩ := hm
 obtain ⟨b2, rfl⟩ := mq hr2
 have mQ : gH s.data.toList = some r := V0.out
 have fu : s.data.toList.length = s.size := by rw [Array.length_toList]; rfl
 obtain ⟨y5, y6, BN⟩ := uT mQ
 have L6 := E9 hr
 rw [fu] at y5 y6 L6
 have Ev : Hid ((flat r).ps.length ≤ 1000000) := by unfold Hid; have := iJ.out; omega
 have Ew : Hid ((flat r).ns.length ≤ 1000000) := by unfold Hid; have := iJ.out; omega
 have Ex : Hid (∀ k, (gs (flat r).ns k).size ≤ 70000) := fun j => by have := BN j; rw [fu] at this; have := iJ.out; omega
 have kO := aa (xL _ w2 _ r hr2 (by have := iJ.out; omega))
 have tG := aa mQ
 have t1 : (bL [59]).toList = [59] := by rw [toList_data]; rfl
 have t2 : ((bL [59]).toList == [59]) = true := by rw [t1]; rfl
 generalize bL [59] = ub at *
 obtain ⟨q0, q1, q2, q3⟩ := boxed gV.out
 clear y5 y6 BN L6 fu mQ hr hr2
 go_wp2_with fail
 refine kO.out.mono ?_
 rintro e w4 ⟨b6, _, rfl, P4, N4, rfl, dD, dF⟩
 obtain ⟨pp, pc, rfl, -, -⟩ := aA.open dD
 obtain ⟨np, nc, rfl, -, -⟩ := aA.open dF
 have dD : ax _ w4 (.slice pp (flat r).ps.length pc) (flat r).ps := dD
 have dF : au _ w4 (.slice np (flat r).ns.length nc) (flat r).ns := dF
 have aZ := Up.alloc w4 (.cells #[.slice pp (flat r).ps.length pc, .slice np (flat r).ns.length nc] 39)
 have b0 := dO w4 (.slice pp (flat r).ps.length pc) (.slice np (flat r).ns.length nc) 39
 have b1 := dP w4 (.slice pp (flat r).ps.length pc) (.slice np (flat r).ns.length nc) 39
 have gG := aa b0
 have eO := aa b1
 have uW := (Below.block (b6.trans aZ) w.heap.size (by have := jM.out; omega)).trans gV.out
 have Ey := aa uW
 have Ez := aa (bE.out.trans (b6.trans aZ))
 have pI : Hid (ay (fun b => w2.heap.size ≤ b) (w4.alloc (.cells #[.slice pp (flat r).ps.length pc, .slice np (flat r).ns.length nc] 39)) (.agg #[.slice pp (flat r).ps.length pc, .slice np (flat r).ns.length nc]) (flat r)) := ay.keep ⟨_, _, rfl, dD, dF⟩ (aZ.kept _)
 have fN := aa (sN _ _ _ (flat r) pI.out Ev.out Ew.out Ex.out)
 have Lu : Hid (w2.heap.size ≤ (w4.alloc (.cells #[.slice pp (flat r).ps.length pc, .slice np (flat r).ns.length nc] 39)).heap.size) := (b6.trans aZ).size
 clear b6 dD dF aZ kO uW gV bE q0 q1 q2 q3 t1 t2
 go_wp2_with fail
 generalize w4.alloc (.cells #[.slice pp (flat r).ps.length pc, .slice np (flat r).ns.length nc] 39) = w5 at *
 refine fN.out.mono ?_
 rintro e w6 ⟨rfl, dz⟩
 have dz : Up w5 w6 := dz
 have b0 := dz.cell gG.out
 have b1 := dz.cell eO.out
 have pJ := (Below.block dz w.heap.size (by have := jM.out; have := Lu.out; omega)).trans Ey.out
 have xN := aa pJ
 have xO := aa (Ez.out.trans dz)
 have BO := aa (pI.out.keep (dz.kept _))
 obtain ⟨q0, q1, q2, q3⟩ := boxed pJ
 clear dz pJ fN
 rw [VH.out]
 have HST := aa (dg (w := w) (p := .slice pp (flat r).ps.length pc) (q := .slice np (flat r).ns.length nc) xN.out (Nat.le_refl _) xO.out)
 go_wp2_with fail
 obtain ⟨s1, s2, s3, s4⟩ := HST.out
 obtain ⟨P7, N7, e7, ym, Lv⟩ := BO.out
 have e8 : P7 = .slice pp (flat r).ps.length pc ∧ N7 = .slice np (flat r).ns.length nc := by
  injection e7 with e7
  have := congrArg Array.toList e7
  simp at this
  exact ⟨this.1.symm, this.2.symm⟩
 obtain ⟨rfl, rfl⟩ := e8
 have hsw := jM.out
 refine ⟨rfl, .tuple #[.agg #[.slice pp (flat r).ps.length pc, .slice np (flat r).ns.length nc], .int .i64 0], by simp [results, Tryz.results153, go_sem, s2, s3], ?_⟩
 refine ⟨s1, _, rfl, ?_⟩
 exact ⟨_, _, rfl, (ax.keep ym fun b hb _ => s4 b (by have : w2.heap.size ≤ b := hb; omega)).sub fun b hb _ => by have : w2.heap.size ≤ b := hb; omega, (au.keep Lv fun b hb _ => s4 b (by have : w2.heap.size ≤ b := hb; omega)).sub fun b hb _ => by have : w2.heap.size ≤ b := hb; omega⟩
end
section
open Go.RowKit Go.Deep
structure th (w : World) (B : Nat) (W : World) (t : av) : Prop where
 up : Up w W
 lo : w.heap.size ≤ B ∧ B < W.heap.size
 ex : ∃ pp pc np nc, W.heap[B]? = some (Obj.cells #[.slice pp t.ps.length pc, .slice np t.ns.length nc] 39 (0, 0)) ∧ ay (fun b => b ≠ B) W (.agg #[.slice pp t.ps.length pc, .slice np t.ns.length nc]) t
theorem F3 {w4 : World} {B : Nat} {x y p q : Value} {T : TypeId} (hb : w4.heap[B]? = some (Obj.cells #[x, y] T (0, 0))) : ((w4.setCell ⟨B, 0, none⟩ p).setCell ⟨B, 1, none⟩ q).heap[B]? = some (Obj.cells #[p, q] T (0, 0)) := by
 simp [World.setCell, Array.getElem?_modify, hb]
theorem th.Fp {w w4 : World} {B : Nat} {x y : Value} {t : av} {pp np : Option Addr} {pc nc : Nat} (hb : w4.heap[B]? = some (Obj.cells #[x, y] 39 (0, 0))) (hB : w.heap.size ≤ B) (hu : Up w w4) (hT : ay (fun b => b ≠ B) w4 (.agg #[.slice pp t.ps.length pc, .slice np t.ns.length nc]) t) :
  th w B ((w4.setCell ⟨B, 0, none⟩ (.slice pp t.ps.length pc)).setCell ⟨B, 1, none⟩ (.slice np t.ns.length nc)) t := by
 obtain ⟨s1, _, _, s4⟩ := dg (p := .slice pp t.ps.length pc) (q := .slice np t.ns.length nc) hb hB hu
 have hlt := (Array.getElem?_eq_some_iff.1 hb).1
 refine ⟨s1, ⟨hB, by simpa using hlt⟩, pp, pc, np, nc, F3 hb, hT.keep fun b hb _ => s4 b hb⟩
theorem th.OS {w w2 : World} {t : av} {pp np : Option Addr} {pc nc : Nat} (hu : Up w w2) (hT : ay Any w2 (.agg #[.slice pp t.ps.length pc, .slice np t.ns.length nc]) t) : th w w2.heap.size (w2.alloc (.cells #[.slice pp t.ps.length pc, .slice np t.ns.length nc] 39)) t := by
 have aZ := Up.alloc w2 (.cells #[.slice pp t.ps.length pc, .slice np t.ns.length nc] 39)
 refine ⟨hu.trans aZ, ⟨hu.size, by rw [World.size_alloc]; omega⟩, pp, pc, np, nc, fW, ?_⟩
 exact ((hT.sub fun b _ hl => (show b < w2.heap.size from hl)).keep (aZ.kept _)).sub fun b hb _ => by omega
theorem F4 {W : World} {B : Nat} {v : Value} {xs : List Int} (h : ax Any W v xs) (hb : W.heap[B]? = some (Obj.cells #[.slice none 0 0, .slice none 0 0] 39 (0, 0))) : ax (fun b => b ≠ B) W v xs := by
 obtain ⟨p, c, e, hc, h⟩ := h
 refine ⟨p, c, e, hc, ?_⟩
 rcases h with h | ⟨b, off, e2, _, h⟩
 ·exact .inl h
 ·by_cases h0 : xs.length = 0
  ·exact .inl h0
  ·refine .inr ⟨b, off, e2, fun eb => ?_, h⟩
   subst eb
   have h1 := h 0 (by omega)
   rw [Nat.add_zero] at h1
   simp only [World.cell?, hb] at h1
   match off, h1 with
   | 0, h1 => simp at h1
   | 1, h1 => simp at h1
   | off + 2, h1 => simp at h1
theorem F5 {W : World} {B : Nat} {v : Value} {xs : List ByteArray} (h : au Any W v xs) (hb : W.heap[B]? = some (Obj.cells #[.slice none 0 0, .slice none 0 0] 39 (0, 0))) : au (fun b => b ≠ B) W v xs := by
 obtain ⟨p, c, e, hc, h⟩ := h
 refine ⟨p, c, e, hc, ?_⟩
 rcases h with h | ⟨b, off, e2, _, h⟩
 ·exact .inl h
 ·by_cases h0 : xs.length = 0
  ·exact .inl h0
  ·refine .inr ⟨b, off, e2, fun eb => ?_, h⟩
   subst eb
   have h1 := h 0 (by omega)
   rw [Nat.add_zero] at h1
   simp only [World.cell?, hb] at h1
   match off, h1 with
   | 0, h1 => simp at h1
   | 1, h1 => simp at h1
   | off + 2, h1 => simp at h1
theorem F6 {W : World} {B : Nat} {v : Value} {t : av} (h : ay Any W v t) (hb : W.heap[B]? = some (Obj.cells #[.slice none 0 0, .slice none 0 0] 39 (0, 0))) : ay (fun b => b ≠ B) W v t := by
 obtain ⟨P, N, e, hP, hN⟩ := h
 exact ⟨P, N, e, F4 hP hb, F5 hN hb⟩
end
section
def nM : List ByteArray := [⟨#[65]⟩, ⟨#[66]⟩, ⟨#[67]⟩, ⟨#[68]⟩]
def r5 : List (List Int) := [[0], [0], [1], [1]]
def Fq : List (List Int) := [[0, 2], [0, -1], [1, 3]]
def qa : av := ⟨[-1, 0, 0, 2, 2, 4, 4], [⟨#[]⟩, ⟨#[65]⟩, ⟨#[]⟩, ⟨#[66]⟩, ⟨#[]⟩, ⟨#[67]⟩, ⟨#[68]⟩]⟩
def Aj : av := ⟨[-1, 0, 0, 2, 3, 3, 2], [⟨#[]⟩, ⟨#[65]⟩, ⟨#[]⟩, ⟨#[]⟩, ⟨#[66]⟩, ⟨#[67]⟩, ⟨#[68]⟩]⟩
def Ak : av := ⟨[-1, 0, 0, 2, 3, 3, 2], [⟨#[]⟩, ⟨#[65]⟩, ⟨#[]⟩, ⟨#[]⟩, ⟨#[66]⟩, ⟨#[68]⟩, ⟨#[67]⟩]⟩
theorem Mh : allT nM = [Aj, Ak, qa] := by decide +kernel
theorem Fs : fJ nM r5 = 0 := by decide +kernel
theorem V1 : dY qa nM r5 = 1 ∧ dY Aj nM r5 = 2 ∧ dY Ak nM r5 = 2 := by decide +kernel
theorem Fu : iQ nM r5 = 1 := by
 obtain ⟨h1, h2, h3⟩ := V1
 unfold iQ
 rw [Mh]
 show mnK (fun k => dY (gt [Aj, Ak, qa] k) nM r5) 3 = 1
 have e0 : dY (gt [Aj, Ak, qa] 0) nM r5 = 2 := h2
 have e1 : dY (gt [Aj, Ak, qa] 1) nM r5 = 2 := h3
 have e2 : dY (gt [Aj, Ak, qa] 2) nM r5 = 1 := h1
 simp [mnK, e0, e1, e2]
theorem RJ : s9 nM r5 = [qa] := by
 obtain ⟨h1, h2, h3⟩ := V1
 unfold s9
 rw [Mh, Fu]
 simp [h1, h2, h3]
theorem x4 : bU Fq = 0 ∧ vz Fq = 2 := by decide +kernel
end
end Go.Proofs.YteegefnjnikngaaGreat
