/- Contracts: equal lists of lists. split.Distance. The contracts of layer 31's reference's Leaves, below and Ancestor. -/
import Derived.Test.YtpnmblnahjjmhaaGreatQ1
import Derived.Test.YtpnmblnahjjmhaaGreatQ3
import Derived.Test.YtpnmblnahjjmhaaGreatQ9
import Derived.Test.YtpnmblnahjjmhaaGreatQ36
import Derived.Test.YtpnmblnahjjmhaaGreatQ37
import Derived.Test.YtpnmblnahjjmhaaGreatQ31
import Derived.Test.YtpnmblnahjjmhaaGreatQ38
import Derived.Test.YtpnmblnahjjmhaaGreatQ2
import Derived.Test.YtpnmblnahjjmhaaGreatQ18
namespace Go.Proofs.YtpnmblnahjjmhaaGreat
set_option maxRecDepth 100000
section
open Go.RowKit Go.Deep
set_option maxHeartbeats 400000 in
theorem lT (S T : Nat → Prop) (w : World) (v u : Value) (xs ys : List Int) (h : an S w v xs) (h2 : an T w u ys) (hn : xs.length ≤ 1000000) (hn2 : ys.length ≤ 1000000) :
  Calls Tryz.prog 114 #[v, u] w (xB w (decide (xs = ys))) := by
 obtain ⟨p, cap, rfl, hcap, _⟩ := aC.open h
 obtain ⟨q, cF, rfl, Bf, _⟩ := aC.open h2
 have HX : Hid (an S w (.slice p xs.length cap) xs) := h
 have HY : Hid (an T w (.slice q ys.length cF) ys) := h2
 clear h h2
 by_cases hl : xs.length = ys.length
 ·have ql : ((xs.length : Int) != ys.length) = false := by simp [hl]
  have HL := ag hl
  clear hl
  aq Tryz.func114, Tryz.ntmps114
  aa fail
  aV [5] (fun i wr => ∃ k n : Nat, k ≤ xs.length ∧ i = .int .i64 k ∧ wr = w.drewN n ∧ Hid (∀ j, j < k → gi xs j = gi ys j)) (fun i _ => xs.length - (intOf i).toNat)
  case atStart => exact ⟨0, 0, Nat.zero_le _, rfl, rfl, fun j hj => absurd hj (Nat.not_lt_zero _)⟩
  case round =>
   obtain ⟨k, n, hk, rfl, rfl, hd⟩ := bE
   by_cases hlt : k < xs.length
   ·have jw : k < ys.length := by rw [← HL.out]; exact hlt
    obtain ⟨b, off, rfl, hc⟩ := bV HX.out hlt
    obtain ⟨b2, off2, rfl, fJ⟩ := bV HY.out jw
    have i1 : (0 : Int) ≤ (k : Int) := by omega
    have i2 : (k : Int) < (xs.length : Int) := by omega
    have i3 : (k : Int) < (ys.length : Int) := by omega
    generalize hx : gi xs k = x at *
    generalize hy : gi ys k = y at *
    have zy := ag hx
    have NM := ag hy
    clear hx hy
    by_cases hxy : x = y
    ·have Re : (x != y) = false := by simp [hxy]
     have rW := ag hxy
     clear hxy
     aa fail
     fP (fail)
     aa fail
     aF
     case rel => exact ⟨k + 1, n + nq, by omega, by aH, rfl, fun j hj => if e : j = k then by subst e; rw [zy.out, NM.out, rW.out] else hd.out j (by omega)⟩
     case measure => simp [intOf]; omega
    ·have Re : (x != y) = true := by simpa using hxy
     have rW := ag hxy
     clear hxy
     aa fail
     fP (fail)
     aa fail
     ax
     refine ⟨aZ ?_, n + nq, by rw [World.drewN_drewN]⟩
     rw [eq_comm, decide_eq_false_iff_not]
     rintro rfl
     exact rW.out (by rw [← zy.out, ← NM.out])
   ·obtain rfl : k = xs.length := by omega
    clear hlt hk
    have hex : xs = ys := Fy HL.out hd.out
    have NN : Hid (decide (xs = ys) = true) := decide_eq_true hex
    clear hex
    aa fail
    ax
    exact ⟨aZ (by rw [NN.out]), n, rfl⟩
 ·have ql : ((xs.length : Int) != ys.length) = true := by simp; omega
  have HL := ag hl
  clear hl
  aq Tryz.func114, Tryz.ntmps114
  aa fail
  ax
  refine ⟨aZ ?_, 0, rfl⟩
  rw [eq_comm, decide_eq_false_iff_not]
  rintro rfl
  exact HL.out rfl

set_option maxHeartbeats 800000 in
theorem Ad (S T : Nat → Prop) (w : World) (v u : Value) (xs ys : List (List Int)) (h : aR S w v xs) (h2 : aR T w u ys) (hn : xs.length ≤ 1000000) (hn2 : ys.length ≤ 1000000) (hr : ∀ k, (gl xs k).length ≤ 1000000) (jW : ∀ k, (gl ys k).length ≤ 1000000) :
  Calls Tryz.prog 35 #[v, u] w (xB w (decide (xs = ys))) := by
 obtain ⟨p, cap, rfl, hcap, _⟩ := dF h
 obtain ⟨q, cF, rfl, Bf, _⟩ := dF h2
 have HX := ag h
 have HY := ag h2
 have HR := ag hr
 have Ae := ag jW
 clear h h2 hr jW
 by_cases hl : xs.length = ys.length
 ·have ql : ((xs.length : Int) != ys.length) = false := by simp [hl]
  have HL := ag hl
  clear hl
  aq Tryz.func35, Tryz.ntmps35
  aa fail
  aV [5] (fun i wr => ∃ k : Nat, k ≤ xs.length ∧ i = .int .i64 k ∧ Hid (QD w wr) ∧ Hid (∀ j, j < k → gl xs j = gl ys j)) (fun i _ => xs.length - (intOf i).toNat)
  case atStart => exact ⟨0, Nat.zero_le _, rfl, QD.refl _, fun j hj => absurd hj (Nat.not_lt_zero _)⟩
  case round =>
   obtain ⟨k, hk, rfl, hQ, hd⟩ := bE
   by_cases hlt : k < xs.length
   ·have jw : k < ys.length := by rw [← HL.out]; exact hlt
    obtain ⟨b, off, rq, rc, rfl, hc, EK⟩ := eX (HX.out.keep (hQ.out.kept S)) hlt
    obtain ⟨b2, off2, rq2, rc2, rfl, fJ, Zn⟩ := eX (HY.out.keep (hQ.out.kept T)) jw
    have i1 : (0 : Int) ≤ (k : Int) := by omega
    have i2 : (k : Int) < (xs.length : Int) := by omega
    have i3 : (k : Int) < (ys.length : Int) := by omega
    have hsame := fun m => lT S T (wr.drewN m) _ _ _ _ (an.keep EK (Bi S wr m)) (an.keep Zn (Bi T wr m)) (HR.out k) (Ae.out k)
    clear EK Zn
    by_cases hxy : gl xs k = gl ys k
    ·have hb : decide (gl xs k = gl ys k) = true := decide_eq_true hxy
     simp only [hb] at hsame
     have HS := ag hsame
     have rW := ag hxy
     clear hxy hb hsame
     aa fail
     fP (exact FW (HS.out _))
     aa fail
     aF
     case rel => exact ⟨k + 1, by omega, by aH, hQ.out.drewN nq, fun j hj => if e : j = k then by subst e; exact rW.out else hd.out j (by omega)⟩
     case measure => simp [intOf]; omega
    ·have hb : decide (gl xs k = gl ys k) = false := decide_eq_false hxy
     simp only [hb] at hsame
     have HS := ag hsame
     have rW := ag hxy
     clear hxy hb hsame
     aa fail
     fP (exact FW (HS.out _))
     aa fail
     ax
     refine ⟨aZ ?_, hQ.out.drewN nq⟩
     rw [eq_comm, decide_eq_false_iff_not]
     rintro rfl
     exact rW.out rfl
   ·obtain rfl : k = xs.length := by omega
    clear hlt hk
    have hex : xs = ys := Ry HL.out hd.out
    have NN : Hid (decide (xs = ys) = true) := decide_eq_true hex
    clear hex
    aa fail
    ax
    exact ⟨aZ (by rw [NN.out]), hQ.out⟩
 ·have ql : ((xs.length : Int) != ys.length) = true := by simp; omega
  have HL := ag hl
  clear hl
  aq Tryz.func35, Tryz.ntmps35
  aa fail
  ax
  refine ⟨aZ ?_, 0, rfl⟩
  rw [eq_comm, decide_eq_false_iff_not]
  rintro rfl
  exact HL.out rfl
end
section
open Go.RowKit Go.Deep
theorem S7 (S T : Nat → Prop) (w : World) (b : Nat) (v u : Value) (s x : List Int) (hb : w.cell? ⟨b, 0, none⟩ = some v) (h : an S w v s) (h2 : an T w u x) (hn : s.length ≤ 1000000) (hm : x.length ≤ 1000000) :
  z7 121 #[.pointer (some ⟨b, 0, none⟩)] #[u] (.bool (decide (s = x))) w := by
 intro m
 have hb := (Up.drewN w m).cell hb
 have HE := ag (zx S T (w.drewN m) v u s x (an.keep h ((Up.drewN w m).kept _)) (an.keep h2 ((Up.drewN w m).kept _)) hn hm)
 obtain ⟨p, cap, rfl, -, -⟩ := aC.open h
 obtain ⟨q, tS, rfl, -, -⟩ := aC.open h2
 clear h h2
 aq Tryz.func121, Tryz.ntmps121
 aa fail
 refine HE.out.mono ?_
 rintro e w' ⟨rfl, n, rfl⟩
 aa fail
 ax
 exact ⟨rfl, m + n, rfl⟩
set_option maxHeartbeats 1000000 in
theorem Qa (S T : Nat → Prop) (w : World) (v u : Value) (a b : List (List Int)) (h : aR S w v a) (h2 : aR T w u b) (hn : a.length ≤ 1000000) (hm : b.length ≤ 1000000) (hr : ∀ k, (gl a k).length ≤ 1000000) (hq : ∀ k, (gl b k).length ≤ 1000000) :
  Calls Tryz.prog 120 #[v, u] w fun e w' => e = .returned (.int .i64 (er a b : Int)) ∧ Up w w' := by
 have HO : Hid (∀ k, onlyK a b (k + 1) = onlyK a b k + if sS b (gl a k) then 0 else 1) := fun _ => rfl
 have vi : Hid (er a b = onlyK a b a.length) := rfl
 have wO := ag (sU a b)
 obtain ⟨p, pc, rfl, -, -⟩ := dF h
 obtain ⟨q, qc, rfl, -, -⟩ := dF h2
 have HA : Hid (aR S w (.slice p a.length pc) a) := h
 have HB : Hid (aR T w (.slice q b.length qc) b) := h2
 have HR := ag hr
 have HQ := ag hq
 clear h h2 hr hq
 aq Tryz.func120, Tryz.ntmps120
 aa fail
 aV [5, 7, 10] (fun n _ i wr => ∃ k : Nat, k ≤ a.length ∧ i = .int .i64 k ∧ n = .int .i64 (onlyK a b k : Int) ∧ Hid (Up w wr)) (fun _ _ i _ => a.length - (intOf i).toNat)
 case atStart => exact ⟨0, Nat.zero_le _, rfl, rfl, Up.refl _⟩
 case round =>
  obtain ⟨k, hk, rfl, rfl, hU⟩ := bE
  obtain ⟨wo, rfl⟩ : ∃ wo : World, wo = wr := ⟨_, rfl⟩
  by_cases hlt : k < a.length
  ·obtain ⟨ab, ao, x, c, rfl, hc, hi⟩ := eX (aR.keep HA.out (hU.out.kept _)) hlt
   have aL := Up.alloc wo (.cells #[.slice x (gl a k).length c] 26)
   have hb := ig wo (.slice x (gl a k).length c) 26
   obtain ⟨f, mB, wQ⟩ := aR.keep HB.out ((hU.out.trans aL).kept _)
   have HC := ag (vZ 121 #[.pointer (some ⟨wo.heap.size, 0, none⟩)] (enters_of Tryz.func121 (by af) rfl) T _ _ b.length f (fun j => decide (gl a k = gl b j)) mB hm
    (fun j hj => S7 S T _ _ _ _ _ _ hb (an.keep hi (aL.kept _)) (wQ j hj) (HR.out k) (HQ.out j)))
   have HHL : Hid ((List.range b.length).any (fun j => decide (gl a k = gl b j)) = sS b (gl a k)) := rfl
   rw [HHL.out] at HC
   have cM := ag (hU.out.trans aL)
   have gu := ag (HO.out k)
   have k1 : (0 : Int) ≤ (k : Int) := Int.natCast_nonneg _
   have k2 : (k : Int) < (a.length : Int) := by omega
   have k3 : (onlyK a b k : Int) ≤ (k : Int) := by have := wO.out k; omega
   clear hb mB wQ hi hU aL HHL
   generalize sS b (gl a k) = bb at *
   cases bb
   ·have HX : Hid ((onlyK a b (k + 1) : Int) = (onlyK a b k : Int) + 1) := by unfold Hid; rw [gu.out]; simp
    clear gu
    aa fail
    refine HC.out.mono ?_
    rintro e w' ⟨rfl, nq, rfl⟩
    aa fail
    aF
    case rel => exact ⟨k + 1, by omega, by aH, by rw [HX.out], cM.out.trans (Up.drewN _ nq)⟩
    case measure => simp [intOf]; omega
   ·have HX : Hid ((onlyK a b (k + 1) : Int) = (onlyK a b k : Int)) := by unfold Hid; rw [gu.out]; simp
    clear gu
    aa fail
    refine HC.out.mono ?_
    rintro e w' ⟨rfl, nq, rfl⟩
    aa fail
    aF
    case rel => exact ⟨k + 1, by omega, by aH, by rw [HX.out], cM.out.trans (Up.drewN _ nq)⟩
    case measure => simp [intOf]; omega
  ·obtain rfl : k = a.length := by omega
   have uL := ag hU.out
   clear hU
   aa fail
   ax
   exact ⟨aQ (by rw [vi.out]), uL.out⟩
def jt (t u : aJ) (names : List ByteArray) : Int := if aT t names ≠ 0 then aT t names else aT u names
def xh (t u : aJ) (names : List ByteArray) : Nat := if jt t u names = 0 then distN (aI t names) (aI u names) else 0
theorem sZ (t : aJ) (names : List ByteArray) (k : Nat) : (gl (aI t names) k).length ≤ 64 := by
 by_cases hk : k < (aI t names).length
 ·by_cases he : aT t names = 0
  ·have ho := nT.1 he
   have := ((Zl ho).tN _ (iX hk)).len
   have := ho.le
   omega
  ·unfold aI at hk
   rw [if_neg he] at hk
   exact absurd hk (Nat.not_lt_zero _)
 ·simp [gl, show (aI t names).length ≤ k by omega]
set_option maxHeartbeats 2000000 in
theorem Cx (S : Nat → Prop) (w : World) (v v2 vs : Value) (t u : aJ) (names : List ByteArray) (hT : aO S w v t) (hU : aO S w v2 u) (hV : aG S w vs names) (hp : t.ps.length ≤ 1000000) (hn : t.ns.length ≤ 1000000) (hz : ∀ k, (gs t.ns k).size ≤ 70000) (hp2 : u.ps.length ≤ 1000000) (hn2 : u.ns.length ≤ 1000000) (iR : ∀ k, (gs u.ns k).size ≤ 70000) (hnl : names.length ≤ 1000000) :
  Calls Tryz.prog 37 #[v, v2, vs] w fun e w' => e = .returned (.tuple #[.int .i64 (xh t u names : Int), .int .i64 (jt t u names)]) ∧ Up w w' := by
 have HE : Hid (jt t u names = if aT t names ≠ 0 then aT t names else aT u names) := rfl
 have HN : Hid (xh t u names = if jt t u names = 0 then er (aI t names) (aI u names) + er (aI u names) (aI t names) else 0) := rfl
 have Ir : Hid (∀ W, Up w W → Calls Tryz.prog 23 #[v, vs] W (oS W t names)) := fun W hW => zi S W v vs t names (hT.keep (hW.kept _)) (aG.keep hV (hW.kept _)) hp hn hz hnl
 have yF : Hid (∀ W, Up w W → Calls Tryz.prog 23 #[v2, vs] W (oS W u names)) := fun W hW => zi S W v2 vs u names (hU.keep (hW.kept _)) (aG.keep hV (hW.kept _)) hp2 hn2 iR hnl
 have nW : Hid ((aI t names).length ≤ 1000000 ∧ ∀ k, (gl (aI t names) k).length ≤ 1000000) := ⟨Nat.le_trans (pV t names) hp, fun k => Nat.le_trans (sZ t names k) (by decide)⟩
 have jS : Hid ((aI u names).length ≤ 1000000 ∧ ∀ k, (gl (aI u names) k).length ≤ 1000000) := ⟨Nat.le_trans (pV u names) hp2, fun k => Nat.le_trans (sZ u names k) (by decide)⟩
 have gU : Hid (er (aI t names) (aI u names) ≤ 1000000) := Nat.le_trans (zh _ _) nW.out.1
 have Co : Hid (er (aI u names) (aI t names) ≤ 1000000) := Nat.le_trans (zh _ _) jS.out.1
 obtain ⟨P, N, rfl, hP, hN⟩ := hT
 obtain ⟨P2, N2, rfl, lJ, mP⟩ := hU
 obtain ⟨mp, mc, rfl, -, -⟩ := aC.open hV
 have cK := (Up.alloc w (.cells #[P, N] 39)).trans (Up.alloc _ (.cells #[P2, N2] 39))
 have hsz : (w.alloc (.cells #[P, N] 39)).heap.size = w.heap.size + 1 := by simp
 have a0 := (Up.alloc (w.alloc (.cells #[P, N] 39)) (.cells #[P2, N2] 39)).cell (dg w P N 39)
 have a1 := (Up.alloc (w.alloc (.cells #[P, N] 39)) (.cells #[P2, N2] 39)).cell (dy w P N 39)
 have c0 := dg (w.alloc (.cells #[P, N] 39)) P2 N2 39
 have c1 := dy (w.alloc (.cells #[P, N] 39)) P2 N2 39
 rw [hsz] at c0 c1
 have eD := ag cK
 have HA := ag (⟨a0, a1, c0, c1⟩ : _ ∧ _ ∧ _ ∧ _)
 clear hP hN lJ mP hV cK hsz a0 a1 c0 c1
 aq Tryz.func37, Tryz.ntmps37
 aa fail
 generalize (w.alloc (.cells #[P, N] 39)).alloc (.cells #[P2, N2] 39) = w1 at *
 obtain ⟨a0, a1, c0, c1⟩ := HA.out
 refine (Ir.out w1 eD.out).mono ?_
 rintro e w2 ⟨aL, r1, rfl, jg⟩
 have c0 := aL.cell c0
 have c1 := aL.cell c1
 have cM := ag (eD.out.trans aL)
 have yj := ag jg
 clear aL jg a0 a1 Ir eD HA
 by_cases e1 : aT t names = 0
 ·have kT : Hid (jt t u names = aT u names) := by unfold Hid; rw [HE.out, if_neg (fun e => e e1)]
  rw [e1]
  clear e1 HE
  aa fail
  refine (yF.out w2 cM.out).mono ?_
  rintro e w3 ⟨cL, r2, rfl, jW⟩
  have dI := ag (cM.out.trans cL)
  have Ae := ag jW
  have yG := ag (aR.keep yj.out (cL.kept _))
  clear cL jW c0 c1 yF cM yj
  by_cases e2 : aT u names = 0
  ·have HX : Hid (jt t u names = 0 ∧ xh t u names = er (aI t names) (aI u names) + er (aI u names) (aI t names)) := ⟨kT.out.trans e2, by rw [HN.out, if_pos (kT.out.trans e2)]⟩
   rw [e2]
   clear e2 kT HN
   have eH := ag (Qa Any Any w3 _ _ _ _ yG.out Ae.out nW.out.1 jS.out.1 nW.out.2 jS.out.2)
   aa fail
   refine eH.out.mono ?_
   rintro e w4 ⟨rfl, eG⟩
   have mC := ag (Qa Any Any w4 _ _ _ _ (aR.keep Ae.out (eG.kept _)) (aR.keep yG.out (eG.kept _)) jS.out.1 nW.out.1 jS.out.2 nW.out.2)
   have gd := ag (dI.out.trans eG)
   have b1 := gU.out
   have b2 := Co.out
   clear eG eH dI Ae yG
   aa fail
   refine mC.out.mono ?_
   rintro e w5 ⟨rfl, fS⟩
   have ij := ag (gd.out.trans fS)
   clear fS
   generalize er (aI t names) (aI u names) = x at *
   generalize er (aI u names) (aI t names) = y at *
   aa fail
   exact ⟨rfl, .tuple #[.int .i64 ((x : Int) + (y : Int)), .int .i64 0], by simp [results, Tryz.results37, go_sem], by rw [HX.out.1, HX.out.2]; simp, ij.out⟩
  ·have HX : Hid (jt t u names = aT u names ∧ xh t u names = 0) := ⟨kT.out, by rw [HN.out, if_neg (by rw [kT.out]; exact e2)]⟩
   have d1 : (aT u names != 0) = true := by simpa using e2
   clear e2 kT HN
   generalize aT u names = z at *
   aa fail
   exact ⟨rfl, .tuple #[.int .i64 0, .int .i64 z], by simp [results, Tryz.results37, go_sem], by rw [HX.out.1, HX.out.2]; rfl, dI.out⟩
 ·have HX : Hid (jt t u names = aT t names ∧ xh t u names = 0) := ⟨by rw [HE.out, if_pos e1], by rw [HN.out, if_neg (by rw [HE.out, if_pos e1]; exact e1)]⟩
  have d1 : (aT t names != 0) = true := by simpa using e1
  clear e1 HE HN
  generalize aT t names = z at *
  aa fail
  exact ⟨rfl, .tuple #[.int .i64 0, .int .i64 z], by simp [results, Tryz.results37, go_sem], by rw [HX.out.1, HX.out.2]; rfl, cM.out⟩
end
section
open Go.RowKit Go.Deep
end
end Go.Proofs.YtpnmblnahjjmhaaGreat
