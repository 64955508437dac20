/- Contracts: equal lists of lists. split.Distance. The contracts of layer 31's reference's .. -/
import Derived.Test.YtpnmblnahjjmhaaGreatQ1
import Derived.Test.YtpnmblnahjjmhaaGreatQ3
import Derived.Test.YtpnmblnahjjmhaaGreatQ9
import Derived.Test.YtpnmblnahjjmhaaGreatQ37
import Derived.Test.YtpnmblnahjjmhaaGreatQ38
import Derived.Test.YtpnmblnahjjmhaaGreatQ32
import Derived.Test.YtpnmblnahjjmhaaGreatQ39
import Derived.Test.YtpnmblnahjjmhaaGreatQ2
import Derived.Test.YtpnmblnahjjmhaaGreatQ18
set_option maxRecDepth 100000
namespace Go.Proofs.YtpnmblnahjjmhaaGreat
section
open Go.RowKit Go.Deep
set_option maxHeartbeats 400000 in
theorem kS (S T : Nat → Prop) (w : World) (v u : Value) (xs ys : List Int) (h : af S w v xs) (h2 : af T w u ys) (hn : xs.length ≤ 1000000) (hn2 : ys.length ≤ 1000000) :
  Calls Tryz.prog 114 #[v, u] w (wW w (decide (xs = ys))) := by
 obtain ⟨p, cap, rfl, hcap, _⟩ := av.open h
 obtain ⟨q, bJ, rfl, AY, _⟩ := av.open h2
 have HX : Hid (af S w (.slice p xs.length cap) xs) := h
 have HY : Hid (af T w (.slice q ys.length bJ) ys) := h2
 clear h h2
 by_cases hl : xs.length = ys.length
 ·have pE : ((xs.length : Int) != ys.length) = false := by simp [hl]
  have HL := aa hl
  clear hl
  go_enter Tryz.func114, Tryz.ntmps114
  go_wp2_with fail
  go_loopw [5] (fun i wr => ∃ k n : Nat, k ≤ xs.length ∧ i = .int .i64 k ∧ wr = w.drewN n ∧ Hid (∀ j, j < k → gi xs j = gi ys j)) (fun i _ => xs.length - (intOf i).toNat)
  case atStart => exact ⟨0, 0, Nat.zero_le _, rfl, rfl, fun j hj => absurd hj (Nat.not_lt_zero _)⟩
  case round =>
   obtain ⟨k, n, hk, rfl, rfl, hd⟩ := hrel
   by_cases hlt : k < xs.length
   ·have iT : k < ys.length := by rw [← HL.out]; exact hlt
    obtain ⟨b, off, rfl, hc⟩ := bw HX.out hlt
    obtain ⟨b2, off2, rfl, hc2⟩ := bw HY.out iT
    have i1 : (0 : Int) ≤ (k : Int) := by omega
    have i2 : (k : Int) < (xs.length : Int) := by omega
    have i3 : (k : Int) < (ys.length : Int) := by omega
    generalize hx : gi xs k = x at *
    generalize hy : gi ys k = y at *
    have zg := aa hx
    have NK := aa hy
    clear hx hy
    by_cases hxy : x = y
    ·have Q9 : (x != y) = false := by simp [hxy]
     have ri := aa hxy
     clear hxy
     go_wp2_with fail
     go_quiet (fail)
     go_wp2_with fail
     go_roundw
     case rel => exact ⟨k + 1, n + nq, by omega, by go_num, rfl, fun j hj => if e : j = k then by subst e; rw [zg.out, NK.out, ri.out] else hd.out j (by omega)⟩
     case measure => simp [intOf]; omega
    ·have Q9 : (x != y) = true := by simpa using hxy
     have ri := aa hxy
     clear hxy
     go_wp2_with fail
     go_quiet (fail)
     go_wp2_with fail
     go_ret
     refine ⟨aO ?_, n + nq, by rw [World.drewN_drewN]⟩
     rw [eq_comm, decide_eq_false_iff_not]
     rintro rfl
     exact ri.out (by rw [← zg.out, ← NK.out])
   ·obtain rfl : k = xs.length := by omega
    clear hlt hk
    have hex : xs = ys := Fu HL.out hd.out
    have NL : Hid (decide (xs = ys) = true) := decide_eq_true hex
    clear hex
    go_wp2_with fail
    go_ret
    exact ⟨aO (by rw [NL.out]), n, rfl⟩
 ·have pE : ((xs.length : Int) != ys.length) = true := by simp; omega
  have HL := aa hl
  clear hl
  go_enter Tryz.func114, Tryz.ntmps114
  go_wp2_with fail
  go_ret
  refine ⟨aO ?_, 0, rfl⟩
  rw [eq_comm, decide_eq_false_iff_not]
  rintro rfl
  exact HL.out rfl

set_option maxHeartbeats 800000 in
theorem zP (S T : Nat → Prop) (w : World) (v u : Value) (xs ys : List (List Int)) (h : aJ S w v xs) (h2 : aJ T w u ys) (hn : xs.length ≤ 1000000) (hn2 : ys.length ≤ 1000000) (hr : ∀ k, (gl xs k).length ≤ 1000000) (hr2 : ∀ k, (gl ys k).length ≤ 1000000) :
  Calls Tryz.prog 35 #[v, u] w (wW w (decide (xs = ys))) := by
 obtain ⟨p, cap, rfl, hcap, _⟩ := cN h
 obtain ⟨q, bJ, rfl, AY, _⟩ := cN h2
 have HX := aa h
 have HY := aa h2
 have HR := aa hr
 have zQ := aa hr2
 clear h h2 hr hr2
 by_cases hl : xs.length = ys.length
 ·have pE : ((xs.length : Int) != ys.length) = false := by simp [hl]
  have HL := aa hl
  clear hl
  go_enter Tryz.func35, Tryz.ntmps35
  go_wp2_with fail
  go_loopw [5] (fun i wr => ∃ k : Nat, k ≤ xs.length ∧ i = .int .i64 k ∧ Hid (QD w wr) ∧ Hid (∀ j, j < k → gl xs j = gl ys j)) (fun i _ => xs.length - (intOf i).toNat)
  case atStart => exact ⟨0, Nat.zero_le _, rfl, QD.refl _, fun j hj => absurd hj (Nat.not_lt_zero _)⟩
  case round =>
   obtain ⟨k, hk, rfl, hQ, hd⟩ := hrel
   by_cases hlt : k < xs.length
   ·have iT : k < ys.length := by rw [← HL.out]; exact hlt
    obtain ⟨b, off, rq, rc, rfl, hc, EE⟩ := dX (HX.out.keep (hQ.out.kept S)) hlt
    obtain ⟨b2, off2, rq2, rc2, rfl, hc2, Zq⟩ := dX (HY.out.keep (hQ.out.kept T)) iT
    have i1 : (0 : Int) ≤ (k : Int) := by omega
    have i2 : (k : Int) < (xs.length : Int) := by omega
    have i3 : (k : Int) < (ys.length : Int) := by omega
    have hsame := fun m => kS S T (wr.drewN m) _ _ _ _ (af.keep EE (A3 S wr m)) (af.keep Zq (A3 T wr m)) (HR.out k) (zQ.out k)
    clear EE Zq
    by_cases hxy : gl xs k = gl ys k
    ·have hb : decide (gl xs k = gl ys k) = true := decide_eq_true hxy
     simp only [hb] at hsame
     have HS := aa hsame
     have ri := aa hxy
     clear hxy hb hsame
     go_wp2_with fail
     go_quiet (exact FR (HS.out _))
     go_wp2_with fail
     go_roundw
     case rel => exact ⟨k + 1, by omega, by go_num, hQ.out.drewN nq, fun j hj => if e : j = k then by subst e; exact ri.out else hd.out j (by omega)⟩
     case measure => simp [intOf]; omega
    ·have hb : decide (gl xs k = gl ys k) = false := decide_eq_false hxy
     simp only [hb] at hsame
     have HS := aa hsame
     have ri := aa hxy
     clear hxy hb hsame
     go_wp2_with fail
     go_quiet (exact FR (HS.out _))
     go_wp2_with fail
     go_ret
     refine ⟨aO ?_, hQ.out.drewN nq⟩
     rw [eq_comm, decide_eq_false_iff_not]
     rintro rfl
     exact ri.out rfl
   ·obtain rfl : k = xs.length := by omega
    clear hlt hk
    have hex : xs = ys := Rv HL.out hd.out
    have NL : Hid (decide (xs = ys) = true) := decide_eq_true hex
    clear hex
    go_wp2_with fail
    go_ret
    exact ⟨aO (by rw [NL.out]), hQ.out⟩
 ·have pE : ((xs.length : Int) != ys.length) = true := by simp; omega
  have HL := aa hl
  clear hl
  go_enter Tryz.func35, Tryz.ntmps35
  go_wp2_with fail
  go_ret
  refine ⟨aO ?_, 0, rfl⟩
  rw [eq_comm, decide_eq_false_iff_not]
  rintro rfl
  exact HL.out rfl
end
section
open Go.RowKit Go.Deep
theorem S9 (S T : Nat → Prop) (w : World) (b : Nat) (v u : Value) (s x : List Int) (hb : w.cell? ⟨b, 0, none⟩ = some v) (h : af S w v s) (h2 : af T w u x) (hn : s.length ≤ 1000000) (hm : x.length ≤ 1000000) :
  zK 121 #[.pointer (some ⟨b, 0, none⟩)] #[u] (.bool (decide (s = x))) w := by
 intro m
 have hb := (Up.drewN w m).cell hb
 have HE := aa (ze S T (w.drewN m) v u s x (af.keep h ((Up.drewN w m).kept _)) (af.keep h2 ((Up.drewN w m).kept _)) hn hm)
 obtain ⟨p, cap, rfl, -, -⟩ := av.open h
 obtain ⟨q, tu, rfl, -, -⟩ := av.open h2
 clear h h2
 go_enter Tryz.func121, Tryz.ntmps121
 go_wp2_with fail
 refine HE.out.mono ?_
 rintro e w' ⟨rfl, n, rfl⟩
 go_wp2_with fail
 go_ret
 exact ⟨rfl, m + n, rfl⟩
set_option maxHeartbeats 1000000 in
theorem PY (S T : Nat → Prop) (w : World) (v u : Value) (a b : List (List Int)) (h : aJ S w v a) (h2 : aJ T w u b) (hn : a.length ≤ 1000000) (hm : b.length ≤ 1000000) (hr : ∀ k, (gl a k).length ≤ 1000000) (hq : ∀ k, (gl b k).length ≤ 1000000) :
  Calls Tryz.prog 120 #[v, u] w fun e w' => e = .returned (.int .i64 (dA a b : Int)) ∧ Up w w' := by
 have HO : Hid (∀ k, onlyK a b (k + 1) = onlyK a b k + if r8 b (gl a k) then 0 else 1) := fun _ => rfl
 have uM : Hid (dA a b = onlyK a b a.length) := rfl
 have wA := aa (r9 a b)
 obtain ⟨p, pc, rfl, -, -⟩ := cN h
 obtain ⟨q, qc, rfl, -, -⟩ := cN h2
 have HA : Hid (aJ S w (.slice p a.length pc) a) := h
 have HB : Hid (aJ T w (.slice q b.length qc) b) := h2
 have HR := aa hr
 have HQ := aa hq
 clear h h2 hr hq
 go_enter Tryz.func120, Tryz.ntmps120
 go_wp2_with fail
 go_loopw [5, 7, 10] (fun n _ i wr => ∃ k : Nat, k ≤ a.length ∧ i = .int .i64 k ∧ n = .int .i64 (onlyK a b k : Int) ∧ Hid (Up w wr)) (fun _ _ i _ => a.length - (intOf i).toNat)
 case atStart => exact ⟨0, Nat.zero_le _, rfl, rfl, Up.refl _⟩
 case round =>
  obtain ⟨k, hk, rfl, rfl, hU⟩ := hrel
  obtain ⟨wo, rfl⟩ : ∃ wo : World, wo = wr := ⟨_, rfl⟩
  by_cases hlt : k < a.length
  ·obtain ⟨ab, ao, x, c, rfl, hc, hi⟩ := dX (aJ.keep HA.out (hU.out.kept _)) hlt
   have aC := Up.alloc wo (.cells #[.slice x (gl a k).length c] 26)
   have hb := gG wo (.slice x (gl a k).length c) 26
   obtain ⟨f, lB, hf2⟩ := aJ.keep HB.out ((hU.out.trans aC).kept _)
   have HC := aa (vI 121 #[.pointer (some ⟨wo.heap.size, 0, none⟩)] (enters_of Tryz.func121 (by kernel_rfl) rfl) T _ _ b.length f (fun j => decide (gl a k = gl b j)) lB hm
    (fun j hj => S9 S T _ _ _ _ _ _ hb (af.keep hi (aC.kept _)) (hf2 j hj) (HR.out k) (HQ.out j)))
   have HHL : Hid ((List.range b.length).any (fun j => decide (gl a k = gl b j)) = r8 b (gl a k)) := rfl
   rw [HHL.out] at HC
   have bU := aa (hU.out.trans aC)
   have fI := aa (HO.out k)
   have k1 : (0 : Int) ≤ (k : Int) := Int.natCast_nonneg _
   have k2 : (k : Int) < (a.length : Int) := by omega
   have k3 : (onlyK a b k : Int) ≤ (k : Int) := by have := wA.out k; omega
   clear hb lB hf2 hi hU aC HHL
   generalize r8 b (gl a k) = bb at *
   cases bb
   ·have HX : Hid ((onlyK a b (k + 1) : Int) = (onlyK a b k : Int) + 1) := by unfold Hid; rw [fI.out]; simp
    clear fI
    go_wp2_with fail
    refine HC.out.mono ?_
    rintro e w' ⟨rfl, nq, rfl⟩
    go_wp2_with fail
    go_roundw
    case rel => exact ⟨k + 1, by omega, by go_num, by rw [HX.out], bU.out.trans (Up.drewN _ nq)⟩
    case measure => simp [intOf]; omega
   ·have HX : Hid ((onlyK a b (k + 1) : Int) = (onlyK a b k : Int)) := by unfold Hid; rw [fI.out]; simp
    clear fI
    go_wp2_with fail
    refine HC.out.mono ?_
    rintro e w' ⟨rfl, nq, rfl⟩
    go_wp2_with fail
    go_roundw
    case rel => exact ⟨k + 1, by omega, by go_num, by rw [HX.out], bU.out.trans (Up.drewN _ nq)⟩
    case measure => simp [intOf]; omega
  ·obtain rfl : k = a.length := by omega
   have um := aa hU.out
   clear hU
   go_wp2_with fail
   go_ret
   exact ⟨aI (by rw [uM.out]), um.out⟩
def iQ (t u : aA) (names : List ByteArray) : Int := if aL t names ≠ 0 then aL t names else aL u names
def wO (t u : aA) (names : List ByteArray) : Nat := if iQ t u names = 0 then distN (az t names) (az u names) else 0
theorem sr (t : aA) (names : List ByteArray) (k : Nat) : (gl (az t names) k).length ≤ 64 := by
 by_cases hk : k < (az t names).length
 ·by_cases he : aL t names = 0
  ·have ho := mW.1 he
   have := ((Zo ho).td _ (iC hk)).len
   have := ho.le
   omega
  ·unfold az at hk
   rw [if_neg he] at hk
   exact absurd hk (Nat.not_lt_zero _)
 ·simp [gl, show (az t names).length ≤ k by omega]
set_option maxHeartbeats 2000000 in
theorem Cm (S : Nat → Prop) (w : World) (v v2 vs : Value) (t u : aA) (names : List ByteArray) (hT : aG S w v t) (hU : aG S w v2 u) (hV : ay S w vs names) (hp : t.ps.length ≤ 1000000) (hn : t.ns.length ≤ 1000000) (hz : ∀ k, (gs t.ns k).size ≤ 70000) (hp2 : u.ps.length ≤ 1000000) (hn2 : u.ns.length ≤ 1000000) (hz2 : ∀ k, (gs u.ns k).size ≤ 70000) (hnl : names.length ≤ 1000000) :
  Calls Tryz.prog 37 #[v, v2, vs] w fun e w' => e = .returned (.tuple #[.int .i64 (wO t u names : Int), .int .i64 (iQ t u names)]) ∧ Up w w' := by
 have HE : Hid (iQ t u names = if aL t names ≠ 0 then aL t names else aL u names) := rfl
 have HN : Hid (wO t u names = if iQ t u names = 0 then dA (az t names) (az u names) + dA (az u names) (az t names) else 0) := rfl
 have Io : Hid (∀ W, Up w W → Calls Tryz.prog 23 #[v, vs] W (nW W t names)) := fun W hW => yV S W v vs t names (hT.keep (hW.kept _)) (ay.keep hV (hW.kept _)) hp hn hz hnl
 have yh : Hid (∀ W, Up w W → Calls Tryz.prog 23 #[v2, vs] W (nW W u names)) := fun W hW => yV S W v2 vs u names (hU.keep (hW.kept _)) (ay.keep hV (hW.kept _)) hp2 hn2 hz2 hnl
 have mZ : Hid ((az t names).length ≤ 1000000 ∧ ∀ k, (gl (az t names) k).length ≤ 1000000) := ⟨Nat.le_trans (oM t names) hp, fun k => Nat.le_trans (sr t names k) (by decide)⟩
 have jr : Hid ((az u names).length ≤ 1000000 ∧ ∀ k, (gl (az u names) k).length ≤ 1000000) := ⟨Nat.le_trans (oM u names) hp2, fun k => Nat.le_trans (sr u names k) (by decide)⟩
 have gz : Hid (dA (az t names) (az u names) ≤ 1000000) := Nat.le_trans (yU _ _) mZ.out.1
 have Ce : Hid (dA (az u names) (az t names) ≤ 1000000) := Nat.le_trans (yU _ _) jr.out.1
 obtain ⟨P, N, rfl, hP, hN⟩ := hT
 obtain ⟨P2, N2, rfl, kK, lR⟩ := hU
 obtain ⟨mp, mc, rfl, -, -⟩ := av.open hV
 have bO := (Up.alloc w (.cells #[P, N] 39)).trans (Up.alloc _ (.cells #[P2, N2] 39))
 have hsz : (w.alloc (.cells #[P, N] 39)).heap.size = w.heap.size + 1 := by simp
 have a0 := (Up.alloc (w.alloc (.cells #[P, N] 39)) (.cells #[P2, N2] 39)).cell (cB w P N 39)
 have a1 := (Up.alloc (w.alloc (.cells #[P, N] 39)) (.cells #[P2, N2] 39)).cell (cI w P N 39)
 have c0 := cB (w.alloc (.cells #[P, N] 39)) P2 N2 39
 have c1 := cI (w.alloc (.cells #[P, N] 39)) P2 N2 39
 rw [hsz] at c0 c1
 have dJ := aa bO
 have HA := aa (⟨a0, a1, c0, c1⟩ : _ ∧ _ ∧ _ ∧ _)
 clear hP hN kK lR hV bO hsz a0 a1 c0 c1
 go_enter Tryz.func37, Tryz.ntmps37
 go_wp2_with fail
 generalize (w.alloc (.cells #[P, N] 39)).alloc (.cells #[P2, N2] 39) = w1 at *
 obtain ⟨a0, a1, c0, c1⟩ := HA.out
 refine (Io.out w1 dJ.out).mono ?_
 rintro e w2 ⟨aC, r1, rfl, hr1⟩
 have c0 := aC.cell c0
 have c1 := aC.cell c1
 have bU := aa (dJ.out.trans aC)
 have xU := aa hr1
 clear aC hr1 a0 a1 Io dJ HA
 by_cases e1 : aL t names = 0
 ·have jZ : Hid (iQ t u names = aL u names) := by unfold Hid; rw [HE.out, if_neg (fun e => e e1)]
  rw [e1]
  clear e1 HE
  go_wp2_with fail
  refine (yh.out w2 bU.out).mono ?_
  rintro e w3 ⟨bR, r2, rfl, hr2⟩
  have cR := aa (bU.out.trans bR)
  have zQ := aa hr2
  have yj := aa (aJ.keep xU.out (bR.kept _))
  clear bR hr2 c0 c1 yh bU xU
  by_cases e2 : aL u names = 0
  ·have HX : Hid (iQ t u names = 0 ∧ wO t u names = dA (az t names) (az u names) + dA (az u names) (az t names)) := ⟨jZ.out.trans e2, by rw [HN.out, if_pos (jZ.out.trans e2)]⟩
   rw [e2]
   clear e2 jZ HN
   have dM := aa (PY Any Any w3 _ _ _ _ yj.out zQ.out mZ.out.1 jr.out.1 mZ.out.2 jr.out.2)
   go_wp2_with fail
   refine dM.out.mono ?_
   rintro e w4 ⟨rfl, dL⟩
   have lC := aa (PY Any Any w4 _ _ _ _ (aJ.keep zQ.out (dL.kept _)) (aJ.keep yj.out (dL.kept _)) jr.out.1 mZ.out.1 jr.out.2 mZ.out.2)
   have fB := aa (cR.out.trans dL)
   have b1 := gz.out
   have b2 := Ce.out
   clear dL dM cR zQ yj
   go_wp2_with fail
   refine lC.out.mono ?_
   rintro e w5 ⟨rfl, fh⟩
   have gH := aa (fB.out.trans fh)
   clear fh
   generalize dA (az t names) (az u names) = x at *
   generalize dA (az u names) (az t names) = y at *
   go_wp2_with fail
   exact ⟨rfl, .tuple #[.int .i64 ((x : Int) + (y : Int)), .int .i64 0], by simp [results, Tryz.results37, go_sem], by rw [HX.out.1, HX.out.2]; simp, gH.out⟩
  ·have HX : Hid (iQ t u names = aL u names ∧ wO t u names = 0) := ⟨jZ.out, by rw [HN.out, if_neg (by rw [jZ.out]; exact e2)]⟩
   have d1 : (aL u names != 0) = true := by simpa using e2
   clear e2 jZ HN
   generalize aL u names = z at *
   go_wp2_with fail
   exact ⟨rfl, .tuple #[.int .i64 0, .int .i64 z], by simp [results, Tryz.results37, go_sem], by rw [HX.out.1, HX.out.2]; rfl, cR.out⟩
 ·have HX : Hid (iQ t u names = aL t names ∧ wO t u names = 0) := ⟨by rw [HE.out, if_pos e1], by rw [HN.out, if_neg (by rw [HE.out, if_pos e1]; exact e1)]⟩
  have d1 : (aL t names != 0) = true := by simpa using e1
  clear e1 HE HN
  generalize aL t names = z at *
  go_wp2_with fail
  exact ⟨rfl, .tuple #[.int .i64 0, .int .i64 z], by simp [results, Tryz.results37, go_sem], by rw [HX.out.1, HX.out.2]; rfl, bU.out⟩
end
section
open Go.RowKit Go.Deep
end
end Go.Proofs.YtpnmblnahjjmhaaGreat
