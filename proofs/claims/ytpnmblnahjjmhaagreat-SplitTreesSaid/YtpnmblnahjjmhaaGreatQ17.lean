/- The contract of layer 31's reference's ordered. -/
import Derived.Test.YtpnmblnahjjmhaaGreatQ1
import Derived.Test.YtpnmblnahjjmhaaGreatQ16
namespace Go.Proofs.YtpnmblnahjjmhaaGreat
set_option maxRecDepth 100000
open Go.RowKit Go.Deep
def posK (s : ByteArray) : List RT → Nat
 | [] => 0
 | b :: l => if xV (lstR b) s = true then posK s l + 1 else 0
theorem CW {s : ByteArray} : ∀ {l : List RT} {k : Nat}, k ≤ l.length → (∀ j, j < k → xV (lstR (gr l j)) s = true) → (k < l.length → xV (lstR (gr l k)) s = false) → posK s l = k
 | [], k, hk, _, _ => by
  obtain rfl : k = 0 := by simpa using hk
  rfl
 | b :: l, 0, _, _, h => by
  have h1 : xV (lstR b) s = false := h (by simp)
  rw [posK, if_neg (by rw [h1]; simp)]
 | b :: l, k + 1, hk, h0, h => by
  have h1 : xV (lstR b) s = true := h0 0 (by omega)
  rw [posK, if_pos h1, CW (l := l) (k := k) (by simpa using hk) (fun j hj => h0 (j + 1) (by omega)) (fun hl => h (by simpa using hl))]
def pM (s : ByteArray) (o : RT) (l : List RT) : List RT := l.take (posK s l) ++ (o :: l.drop (posK s l))
mutual
def ordR : RT → RT
 | .node nm ks => .node nm (fk [] ks)
def fk (acc : List RT) : List RT → List RT
 | [] => acc
 | c :: cs => fk (pM (lstR c) (ordR c) acc) cs
end
theorem RR (s : ByteArray) (o : RT) (l : List RT) : (pM s o l).length = l.length + 1 := by
 unfold pM
 have : posK s l ≤ l.length := by
  induction l with
  | nil => exact Nat.le_refl _
  | cons b l ih =>
   rw [posK, List.length_cons]; split
   ·omega
   ·omega
 rw [List.length_append, List.length_take, List.length_cons, List.length_drop]; omega
theorem D3 (acc : List RT) : ∀ (a b : List RT), fk acc (a ++ b) = fk (fk acc a) b
 | [], _ => by rw [fk]; rfl
 | c :: a, b => by rw [List.cons_append, fk, fk]; exact D3 _ a b
theorem Mj {ks : List RT} {i : Nat} (h : i < ks.length) : fk [] (ks.take (i + 1)) = pM (lstR (gr ks i)) (ordR (gr ks i)) (fk [] (ks.take i)) := by
 have hg : gr ks i = ks[i] := by simp [gr, h]
 rw [List.take_succ_eq_append_getElem h, D3, fk, fk, hg]
theorem D4 : ∀ (ks acc : List RT), (fk acc ks).length = acc.length + ks.length
 | [], acc => by rw [fk]; simp
 | c :: ks, acc => by rw [fk, D4 ks, RR, List.length_cons]; omega
theorem qZ : ∀ (a b : List RT), sizeRs (a ++ b) = sizeRs a + sizeRs b
 | [], b => by rw [sizeRs]; simp
 | r :: a, b => by rw [List.cons_append, sizeRs, sizeRs, qZ a b]; omega
theorem Mk (s : ByteArray) (o : RT) (l : List RT) : sizeRs (pM s o l) = sizeRs l + aS o := by
 unfold pM
 rw [qZ, sizeRs]
 have h := qZ (l.take (posK s l)) (l.drop (posK s l))
 rw [List.take_append_drop] at h; omega
mutual
theorem D5 : ∀ r : RT, aS (ordR r) = aS r
 | .node nm ks => by rw [ordR, aS, aS, vJ ks []]; simp [sizeRs]
theorem vJ : ∀ (ks acc : List RT), sizeRs (fk acc ks) = sizeRs acc + sizeRs ks
 | [], acc => by rw [fk, sizeRs]; rfl
 | c :: ks, acc => by rw [fk, vJ ks, Mk, D5 c, sizeRs]; omega
end
theorem JE (ks : List RT) (i : Nat) : sizeRs (ks.take i) ≤ sizeRs ks := by
 have h := qZ (ks.take i) (ks.drop i)
 rw [List.take_append_drop] at h; omega
theorem Ml {S : Nat → Prop} {w : World} {b off n cap k : Nat} {vs : List Value} (h : aC S w (.slice (some ⟨b, off, none⟩) n cap) n (vN vs)) (hl : vs.length = n) (_ : k < n) (i : Nat) (q : Value) (hq : (vs.drop k)[i]? = some q) : w.cell? ((⟨b, off + k, none⟩ : Addr).add i) = some q := by
 rw [List.getElem?_drop] at hq
 have hki : k + i < n := by rw [← hl]; exact (List.getElem?_eq_some_iff.1 hq).1
 obtain ⟨b', o', e, hc⟩ := qt h hki
 injection e with e
 injection e with e1 e2
 subst e1; subst e2
 have hv : vN vs (k + i) = q := by unfold vN; rw [List.getD_eq_getElem?_getD, hq]; rfl
 rw [hv] at hc
 rw [Addr.add_lit, show off + k + i = off + (k + i) by omega]; exact hc
theorem Mm {S : Nat → Prop} {w : World} {b off n cap k : Nat} {vs : List Value} (h : aC S w (.slice (some ⟨b, off, none⟩) n cap) n (vN vs)) (hl : vs.length = n) (_ : k ≤ n) (i : Nat) (q : Value) (hq : (vs.take k)[i]? = some q) : w.cell? ((⟨b, off, none⟩ : Addr).add i) = some q := by
 rw [List.getElem?_take] at hq
 split at hq
 ·have hki : i < n := by rw [← hl]; exact (List.getElem?_eq_some_iff.1 hq).1
  obtain ⟨b', o', e, hc⟩ := qt h hki
  injection e with e
  injection e with e1 e2
  subst e1; subst e2
  have hv : vN vs i = q := by unfold vN; rw [List.getD_eq_getElem?_getD, hq]; rfl
  rw [hv] at hc
  rw [Addr.add_lit]; exact hc
 ·cases hq
theorem Gp {S : Nat → Prop} {w : World} : ∀ {rs : List RT} {vs : List Value}, RsAt S w rs vs → ∀ u ∈ vs, u.oneCell' = true
 | [], vs, h, u, hu => by unfold RsAt at h; subst h; cases hu
 | r :: rs, vs, h, u, hu => by
  unfold RsAt at h
  obtain ⟨x, us, rfl, h1, h2⟩ := h
  rcases List.mem_cons.1 hu with rfl | hu
  ·obtain ⟨b, rfl⟩ := y5 h1; rfl
  ·exact Gp h2 u hu
theorem quiet_of {P : Program} {f : FuncId} {args : Array Value} {w : World} {m n : Nat} {v : Value} (h : Calls P f args (w.drewN (m + n)) fun e w' => e = .returned v ∧ w.drewN (m + n) = w') : Calls P f args (w.drewN (m + n)) fun e w'' => e = .returned v ∧ ∃ q, w'' = w.drewN (m + q) :=
 h.mono fun _ _ ⟨h1, h2⟩ => ⟨h1, n, h2.symm⟩
def OS (w : World) (r : RT) (e : Ending) (w' : World) : Prop := Up w w' ∧ ∃ u, e = .returned u ∧ RAt (fun b => w.heap.size ≤ b) w' (ordR r) u
set_option maxHeartbeats 4000000 in
theorem OT (S : Nat → Prop) : ∀ (d : Nat) (r : RT), aS r ≤ d → d ≤ 90000 → ∀ (w : World) (v : Value), RAt S w r v → Calls Tryz.prog 183 #[v] w (OS w r) := by
 intro d
 induction d with
 | zero => intro r hr; have := jX r; omega
 | succ d ih =>
 intro r hr hd w v hv
 cases r with
 | node nm ks =>
  have hv0 := hv
  obtain ⟨xb, kp, kc, vs, rfl, hS, c0, c1, hk, hs⟩ := hv.open
  simp only [RT.nm, RT.kids] at c0 c1 hk hs
  have iO := qX ks
  rw [aS] at hr
  have dY := Up.alloc w (.cells #[.string nm, .slice none 0 0] 238)
  have HW0 := ag (mN.start w (Nat.le_refl _) nm)
  have eH := ag c1
  have HK := ag hk
  have HR := ag hs
  have k7 : Hid (∀ j, j < ks.length → ∀ W, Up w W → Calls Tryz.prog 183 #[vN vs j] W (OS W (gr ks j))) := fun j hj W hW => by
   have h1 := uW hj
   exact ih (gr ks j) (by omega) (by omega) W _ (RAt.keep (hW.kept S) _ (RsAt.get ks hs j hj))
  have HLX : Hid (∀ j, j < ks.length → ∀ W, Up w W → Calls Tryz.prog 242 #[vN vs j] W fun e w' => e = .returned (.string (lstR (gr ks j))) ∧ W = w') := fun j hj W hW => by
   have h1 := uW hj
   exact Gd S (aS (gr ks j)) _ (Nat.le_refl _) (by omega) W _ (RAt.keep (hW.kept S) _ (RsAt.get ks hs j hj))
  have HU := ag dY
  have kZ : Hid (ks.length ≤ 90000) := by unfold Hid; omega
  have Um : Hid (sizeRs ks ≤ 90000) := by unfold Hid; omega
  clear ih hv hv0 dY hk hs hr iO hS
  aq Tryz.func183, Tryz.ntmps183
  aa fail
  clear c0 c1
  aV [4, 5] (fun i _ wr => ∃ (j : Nat) (kv : Value), j ≤ ks.length ∧ i = .int .i64 j ∧ Hid (mN w.heap.size w.heap.size wr nm kv (fk [] (ks.take j))) ∧ Hid (Up w wr)) (fun i _ _ => ks.length - (intOf i).toNat)
  case atStart => exact ⟨0, _, Nat.zero_le _, rfl, by rw [List.take_zero, fk]; exact HW0.out, HU.out⟩
  case round =>
   obtain ⟨j, kv, hj, rfl, hW, cH⟩ := bE
   obtain ⟨wo, rfl⟩ : ∃ wo : World, wo = wr := ⟨_, rfl⟩
   have x1 := cH.out.cell eH.out
   by_cases hlt : j < ks.length
   ·obtain ⟨acc, hacc⟩ : ∃ acc, acc = fk [] (ks.take j) := ⟨_, rfl⟩
    have HT : Hid (fk [] (ks.take (j + 1)) = pM (lstR (gr ks j)) (ordR (gr ks j)) acc) := by rw [hacc]; exact Mj hlt
    have hal2 : acc.length ≤ 90000 := by
     rw [hacc, D4, List.length_take]; have := kZ.out; simp; omega
    have Km : sizeRs acc ≤ 90000 := by
     rw [hacc, vJ]; have := JE ks j; have := Um.out; simp [sizeRs]; omega
    rw [← hacc] at hW
    obtain ⟨sw, ho, oC⟩ := hW.out.kids
    have zR := hW.out.cells
    have hlen := RsAt.len acc oC
    have jV := ho.rV
    rw [hlen] at jV
    obtain ⟨ap, ac, rfl, hac, _⟩ := aC.open jV
    have hy1 := zR.2.1
    obtain ⟨kb, ko, rfl, hkc⟩ := qt (HK.out.keep (cH.out.kept _)) hlt
    have BR : Hid (∀ k, k < acc.length → ∀ W, Up wo W → Calls Tryz.prog 242 #[vN sw k] W fun e w' => e = .returned (.string (lstR (gr acc k))) ∧ W = w') := fun k hk W Xk => by
     have h1 := uW hk
     exact Gd _ (aS (gr acc k)) _ (Nat.le_refl _) (by omega) W _ (RAt.keep (Xk.kept _) _ (RsAt.get acc oC k hk))
    have BS : Hid (∀ W, Up wo W → Calls Tryz.prog 242 #[vN vs j] W fun e w' => e = .returned (.string (lstR (gr ks j))) ∧ W = w') := fun W Xk => HLX.out j hlt W (cH.out.trans Xk)
    have HOC := ag (k7.out j hlt)
    have HY1 := ag hy1
    have kF := ag x1
    have WK := ag hkc
    have lH := ag jV
    have Kn := ag hW.out
    have iD := ag cH.out
    have aU := ag hlt
    have D6 := ag oC
    have HHO := ag ho
    have wO := ag hlen
    have i1 : (0 : Int) ≤ (j : Int) := by omega
    have i2 : (j : Int) < (ks.length : Int) := by omega
    have i3 : (j : Int) < 90000 := by have := kZ.out; omega
    clear hacc Km oC ho zR hlen jV hW cH hlt hj
    generalize vN vs j = xv at *
    generalize hs : lstR (gr ks j) = s at *
    generalize hoc : ordR (gr ks j) = oc at *
    aa fail
    aV [5] (fun q wr => ∃ k m : Nat, k ≤ acc.length ∧ q = .int .i64 k ∧ wr = wo.drewN m ∧ Hid (∀ i, i < k → xV (lstR (gr acc i)) s = true)) (fun q _ => acc.length - (intOf q).toNat)
    case atStart => exact ⟨0, 0, Nat.zero_le _, rfl, rfl, fun i hi => absurd hi (Nat.not_lt_zero _)⟩
    case round =>
     obtain ⟨k, m, hk, rfl, rfl, hlo⟩ := bE
     by_cases Xl : k < acc.length
     ·obtain ⟨yb, yo, rfl, hyc⟩ := qt lH.out Xl
      have HM1 := ag (fun n => quiet_of (m := m) (n := n) (BR.out k Xl _ (Up.drewN wo _)))
      have HM2 := ag (fun n => quiet_of (m := m) (n := n) (BS.out _ (Up.drewN wo _)))
      have k1 : (0 : Int) ≤ (k : Int) := by omega
      have k2 : (k : Int) < (acc.length : Int) := by omega
      have k3 : (k : Int) < 90000 := by omega
      have dk : decide ((k : Int) < (acc.length : Int)) = true := by simp; omega
      have dn : decide (k < acc.length) = true := by simp; omega
      have Gq := ag Xl
      generalize vN sw k = yv at *
      cases hls : xV (lstR (gr acc k)) s
      ·have fZ : Op.bytesLess (lstR (gr acc k)).toList s.toList = false := hls
       have og := ag hls
       clear hls hk
       generalize hs1 : lstR (gr acc k) = s1 at *
       aa fail
       cn (first | ah exact HM1.out _ | ah exact HM2.out _)
       aa fail
       have HZ : Hid (Up wo ((wo.drewN m).drewN nq)) := (Up.drewN _ _).trans (Up.drewN _ _)
       have RU : Hid (posK s acc = k) := CW (by have := Gq.out; omega) hlo.out (fun _ => by rw [hs1]; exact og.out)
       have hkle : k ≤ acc.length := Nat.le_of_lt Gq.out
       generalize (wo.drewN m).drewN nq = wz at *
       have RV := HZ.out.cell HY1.out
       have RX := HZ.out.cell kF.out
       have RY := HZ.out.cell WK.out
       have g1 : (0 : Int) ≤ (k : Int) := by omega
       have g2 : (k : Int) ≤ (acc.length : Int) := by omega
       have g3 : (k : Int) ≤ (ac : Int) := by omega
       have kO : Hid (∀ W, Up wz W → W.cell? ⟨w.heap.size, 1, none⟩ = some (.slice (some ⟨yb, yo, none⟩) acc.length ac) ∧ W.cell? ⟨xb, 1, none⟩ = some (.slice (some ⟨kb, ko, none⟩) ks.length kc) ∧ W.cell? ⟨kb, ko + j, none⟩ = some xv) := fun W hW => ⟨hW.cell RV, hW.cell RX, hW.cell RY⟩
       refine eE (by af) 28 (fun w' => w'.cell? ⟨w.heap.size, 1, none⟩ = some (.slice (some ⟨yb, yo, none⟩) acc.length ac) ∧ w'.cell? ⟨xb, 1, none⟩ = some (.slice (some ⟨kb, ko, none⟩) ks.length kc) ∧ w'.cell? ⟨kb, ko + j, none⟩ = some xv) (kO.out _ (fE wz)) (fun hS => ?_)
       simp only [List.size_toArray, List.length_cons, List.length_nil, Nat.reduceAdd, Array.replicate_succ, Array.replicate_zero, List.push_toArray, List.nil_append, List.cons_append]
       refine au.take (i := 0) (v := ?y6) rfl (by af) (fun _ _ _ h => h) (by rfl) (fun w av => ?l7) hS ?y7
       case l7 =>
        (try dsimp only at av)
        aj
        try ah rfl
       try simp only [Act.put, az, aA, aB]
       refine au.take (i := 1) (v := ?y8) rfl (by af) (fun _ _ _ h => h) (by rfl) (fun w av => ?l9) hS ?y9
       case l9 =>
        (try dsimp only at av)
        aj
        try ah rfl
       try simp only [Act.put, az, aA, aB]
       refine au.take (i := 2) (v := ?BI) rfl (by af) (fun _ _ _ h => h) (by rfl) (fun w av => ?oD) hS ?BJ
       case oD =>
        (try dsimp only at av)
        aj
        try ah rfl
       try simp only [Act.put, az, aA, aB]
       refine au.take (i := 3) (v := ?BK) rfl (by af) (fun _ _ _ h => h) (by rfl) (fun w av => ?oE) hS ?BL
       case oE =>
        (try dsimp only at av)
        aj
        try ah rfl
       try simp only [Act.put, az, aA, aB]
       refine au.take (i := 4) (v := ?BM) rfl (by af) (fun _ _ _ h => h) (by rfl) (fun w av => ?oF) hS ?BN
       case oF =>
        (try dsimp only at av)
        aj
        try ah rfl
       try simp only [Act.put, az, aA, aB]
       refine au.take (i := 5) (v := ?BO) rfl (by af) (fun _ _ _ h => h) (by rfl) (fun w av => ?oG) hS ?BP
       case oG =>
        (try dsimp only at av)
        aj
        try ah rfl
       try simp only [Act.put, az, aA, aB]
       refine au.take (i := 6) (v := ?Fh) rfl (by af) (fun _ _ _ h => h) (by rfl) (fun w av => ?qY) hS ?Fi
       case qY =>
        (try dsimp only at av)
        aj
        try ah rfl
       try simp only [Act.put, az, aA, aB]
       refine au.take (i := 7) (v := .slice (some ⟨yb, yo, none⟩) k k) rfl (by af) (fun _ _ _ h => h) (by rfl) (fun w av => ?gy7a) hS ?gr7a
       case gy7a =>
        (try dsimp only at av)
        aj
       try simp only [Act.put, az, aA, aB]
       refine au.take (i := 8) (v := ?Un) rfl (by af) (fun _ _ _ h => h) (by rfl) (fun w av => ?BU) hS ?Uo
       case BU =>
        (try dsimp only at av)
        aj
        try ah rfl
       try simp only [Act.put, az, aA, aB]
       refine au.take (i := 9) (v := ?gv9k2) rfl (by af) (fun _ _ _ h => h) (by rfl) (fun w av => ?Mn) hS ?gr9k2
       case Mn =>
        (try dsimp only at av)
        aj
        try ah rfl
       try simp only [Act.put, az, aA, aB]
       refine au.take (i := 10) (v := ?gv10k2) rfl (by af) (fun _ _ _ h => h) (by rfl) (fun w av => ?Xm) hS ?gr10k2
       case Xm =>
        (try dsimp only at av)
        aj
        try ah rfl
       try simp only [Act.put, az, aA, aB]
       refine au.take (i := 11) (v := ?gv11k2) rfl (by af) (fun _ _ _ h => h) (by rfl) (fun w av => ?Xn) hS ?gr11k2
       case Xn =>
        (try dsimp only at av)
        aj
        try ah rfl
       try simp only [Act.put, az, aA, aB]
       refine au.take (i := 12) (v := ?gv12k2) rfl (by af) (fun _ _ _ h => h) (by rfl) (fun w av => ?Xo) hS ?gr12k2
       case Xo =>
        (try dsimp only at av)
        aj
        try ah rfl
       try simp only [Act.put, az, aA, aB]
       refine au.take (i := 13) (v := ?gv13k2) rfl (by af) (fun _ _ _ h => h) (by rfl) (fun w av => ?Xp) hS ?gr13k2
       case Xp =>
        (try dsimp only at av)
        aj
        try ah rfl
       try simp only [Act.put, az, aA, aB]
       refine au.take (i := 14) (v := ?gv14k2) rfl (by af) (fun _ _ _ h => h) (by rfl) (fun w av => ?Xq) hS ?gr14k2
       case Xq =>
        (try dsimp only at av)
        aj
        try ah rfl
       try simp only [Act.put, az, aA, aB]
       refine au.take (i := 17) (v := ?gv17k2) rfl (by af) (fun _ _ _ h => h) (by rfl) (fun w av => ?Xr) hS ?gr17k2
       case Xr =>
        (try dsimp only at av)
        aj
        try ah rfl
       try simp only [Act.put, az, aA, aB]
       refine au.take (i := 18) (v := ?gv18k2) rfl (by af) (fun _ _ _ h => h) (by rfl) (fun w av => ?Xt) hS ?gr18k2
       case Xt =>
        (try dsimp only at av)
        aj
        try ah rfl
       try simp only [Act.put, az, aA, aB]
       refine au.take (i := 19) (v := ?gv19k2) rfl (by af) (fun _ _ _ h => h) (by rfl) (fun w av => ?Xu) hS ?gr19k2
       case Xu =>
        (try dsimp only at av)
        aj
        try ah rfl
       try simp only [Act.put, az, aA, aB]
       refine au.take (i := 20) (v := ?gv20k2) rfl (by af) (fun _ _ _ h => h) (by rfl) (fun w av => ?Xv) hS ?gr20k2
       case Xv =>
        (try dsimp only at av)
        aj
        try ah rfl
       try simp only [Act.put, az, aA, aB]
       refine au.take (i := 21) (v := ?gv21k2) rfl (by af) (fun _ _ _ h => h) (by rfl) (fun w av => ?Xw) hS ?gr21k2
       case Xw =>
        (try dsimp only at av)
        aj
        try ah rfl
       try simp only [Act.put, az, aA, aB]
       refine au.take (i := 22) (v := .slice (some ⟨yb, yo + k, none⟩) (acc.length - k) (ac - k)) rfl (by af) (fun _ _ _ h => h) (by rfl) (fun w av => ?gy22a) hS ?gr22a
       case gy22a =>
        (try dsimp only at av)
        aj
        intro e; have := Gq.out; omega
       try simp only [Act.put, az, aA, aB]
       refine au.step (i := 15) rfl (by af) (fun K' hK => ?_)
       aj
       refine (HOC.out _ ((iD.out.trans HZ.out).trans (fE wz))).mono ?_
       rintro e w3 ⟨cL, u, rfl, ow⟩
       have cL : Up wz.drew w3 := cL
       obtain ⟨ub, rfl⟩ := y5 ow
       rw [hoc] at ow
       have dI := ag ((fE wz).trans cL)
       have Xx := ag ow
       have dw := ag (Up.alloc w3 (.cells #[.pointer (some ⟨ub, 0, none⟩)] 184))
       have hdc := Ml lH.out wO.out Gq.out
       have HDC := ag fun i q hq => dw.out.cell (dI.out.cell (HZ.out.cell (hdc i q hq)))
       have BV := ag (Mm lH.out wO.out hkle)
       have Xy : Hid ((w3.alloc (.cells #[.pointer (some ⟨ub, 0, none⟩)] 184)).cell? ⟨w3.heap.size, 0, none⟩ = some (.pointer (some ⟨ub, 0, none⟩))) := ig _ _ _
       have Ko := ag (Gp D6.out)
       have tA : Hid (0 < acc.length - k ∧ (sw.drop k).length = acc.length - k ∧ (sw.take k).length = k ∧ acc.length ≤ 90000) := by
        have := Gq.out; have := wO.out; unfold Hid; rw [List.length_drop, List.length_take]; omega
       clear cL ow hdc
       refine hK.out _ _ (fun _ => kO.out _ dI.out) (fun hS => ?_)
       replace hS := hS ⟨16, by decide, rfl⟩
       try simp only [az, aA, aB]
       refine au.step (i := 16) rfl (by af) (fun K' hK => ?_)
       aj
       refine hK.out _ _ (fun _ => kO.out _ (dI.out.trans dw.out)) (fun hS => ?_)
       replace hS := hS ⟨23, by decide, rfl⟩
       try simp only [az, aA, aB]
       refine au.step (i := 23) rfl (by af) (fun K' hK => ?_)
       refine x6 (by rfl) _ _ _ (by rfl) 184 _ 8 Tryz.underlying236 Tryz.xX (by rfl) (by decide) (ao := some ⟨w3.heap.size, 0, none⟩) (n := 1) (olds := [.pointer (some ⟨ub, 0, none⟩)]) (by rfl) (fun e => by cases e) rfl ?q1 (ad := ⟨yb, yo + k, none⟩) (m := acc.length - k) (c := ac - k) (news := sw.drop k) (by rfl) tA.out.2.1 (fun i q hq => HDC.out i q hq) ?q2 tA.out.1 (by have := tA.out.2.2.2; omega) ?q3
       case q1 =>
        intro b e i q hq
        injection e with e
        subst e
        cases i with
        | zero =>
         simp at hq
         subst hq
         have e0 : (⟨w3.heap.size, 0, none⟩ : Addr).add 0 = ⟨w3.heap.size, 0, none⟩ := by simp [Addr.add]
         rw [e0]; exact Xy.out
        | succ i => simp at hq
       case q2 => exact fun q hq => Ko.out q (List.mem_of_mem_drop hq)
       intro g1 c1 w4 Ou eG
       have gd := ag (dI.out.trans (dw.out.trans eG))
       have HOC4 := ag (World.ownsRow.cells Ou rfl)
       have HV4 := ag (dw.out.trans eG)
       clear Ou eG
       refine hK.out _ _ (fun _ => kO.out _ gd.out) (fun hS => ?_)
       replace hS := hS ⟨24, by decide, rfl⟩
       try simp only [Act.put, az, aA, aB]
       refine au.step (i := 24) rfl (by af) (fun K' hK => ?_)
       refine x6 (by rfl) _ _ _ (by rfl) 184 _ 8 Tryz.underlying236 Tryz.xX (by rfl) (by decide) (ao := some ⟨yb, yo, none⟩) (n := k) (olds := sw.take k) (by rfl) (fun e => by cases e) tA.out.2.2.1 ?r1 (ad := ⟨g1, 0, none⟩) (m := 1 + (acc.length - k)) (c := c1) (news := [.pointer (some ⟨ub, 0, none⟩)] ++ sw.drop k) (by rfl) (by rw [List.length_append, tA.out.2.1]; rfl) (fun i q hq => HOC4.out i q hq) ?r2 (by omega) (by have := tA.out.2.2.2; omega) ?r3
       case r1 =>
        intro b e i q hq
        injection e with e
        subst e
        exact gd.out.cell (HZ.out.cell (BV.out i q hq))
       case r2 =>
        intro q hq
        rcases List.mem_append.1 hq with h1 | h1
        ·obtain rfl : q = .pointer (some ⟨ub, 0, none⟩) := by simpa using h1
         rfl
        ·exact Ko.out q (List.mem_of_mem_drop h1)
       intro g2 c2 w5 u0 fS
       have BW := (HZ.out.trans gd.out).trans fS
       have OU : RAt (fun b => wo.heap.size ≤ b ∧ b < w3.heap.size) w5 oc (.pointer (some ⟨ub, 0, none⟩)) := RAt.keep ((HV4.out.trans fS).kept _) oc (RAt.sub (fun b hb hl => ⟨Nat.le_trans HZ.out.size hb, hl⟩) oc Xx.out)
       have qO := HV4.out.size
       have hsw := (HZ.out.trans dI.out).size
       have Gc := Kn.out.lt
       have RZ := ag (Kn.out.lay D6.out BW hsw (fun b hb => by have := (aD u0 hb).1; omega) OU k (u0.nH (by omega)))
       have u6 : Hid (pM s oc acc = acc.take k ++ oc :: acc.drop k) := by unfold Hid pM; rw [RU.out]
       have zR := (Kn.out.up BW).cells
       have hyf := zR.2.2.2
       have hyc5 := zR.2.1
       have ij := ag (gd.out.trans fS)
       have Xz : Hid (Up w (w5.setCell ⟨w.heap.size, 1, none⟩ (.slice (some ⟨g2, 0, none⟩) (k + (1 + (acc.length - k))) c2))) := Below.setCell (p := ⟨w.heap.size, 1, none⟩) (iD.out.trans BW) (Nat.le_refl _) _
       clear u0 fS BW OU qO hsw zR
       refine hK.out _ _ (fun _ => kO.out _ ij.out) (fun hS => ?_)
       replace hS := hS ⟨27, by decide, rfl⟩
       try simp only [Act.put, az, aA, aB]
       refine au.take (i := 25) (v := ?gv25k3) rfl (by af) (fun _ _ _ h => h) (by rfl) (fun w av => ?XA) hS ?gr25k3
       case XA =>
        (try dsimp only at av)
        aj
        try ah rfl
       try simp only [Act.put, az, aA, aB]
       refine au.take (i := 26) (v := ?gv26k3) rfl (by af) (fun _ _ _ h => h) (by rfl) (fun w av => ?XB) hS ?gr26k3
       case XB =>
        (try dsimp only at av)
        aj
        try ah rfl
       try simp only [Act.put, az, aA, aB]
       refine au.step (i := 27) rfl (by af) (fun K' hK => ?_)
       aj
       refine hK.out _ _ (bh (by af)) (fun hS => ?_)
       refine au.done (by af) ?_
       aa fail
       aF
       case rel => exact ⟨j + 1, _, aU.out, by aH, by rw [HT.out, u6.out]; exact RZ.out, Xz.out⟩
       case measure => have := aU.out; simp [intOf]; omega
      ·have fZ : Op.bytesLess (lstR (gr acc k)).toList s.toList = true := hls
       have og := ag hls
       clear hls hk
       generalize hs1 : lstR (gr acc k) = s1 at *
       aa fail
       cn (first | ah exact HM1.out _ | ah exact HM2.out _)
       aa fail
       aF
       case rel => exact ⟨k + 1, m + nq, Gq.out, by aH, rfl, fun i hi => if e : i = k then by subst e; rw [hs1]; exact og.out else hlo.out i (by omega)⟩
       case measure => have := Gq.out; simp [intOf]; omega
     ·obtain rfl : k = acc.length := by omega
      have dk : decide ((acc.length : Int) < (acc.length : Int)) = false := by simp
      have dn : decide (acc.length < acc.length) = false := by simp
      aa fail
      cn (fail)
      aa fail
      have HZ : Hid (Up wo ((wo.drewN m).drewN nq)) := (Up.drewN _ _).trans (Up.drewN _ _)
      have RU : Hid (posK s acc = acc.length) := CW (Nat.le_refl _) hlo.out (fun h => absurd h (Nat.lt_irrefl _))
      generalize (wo.drewN m).drewN nq = wz at *
      have RV := HZ.out.cell HY1.out
      have RX := HZ.out.cell kF.out
      have RY := HZ.out.cell WK.out
      have g1 : (0 : Int) ≤ (acc.length : Int) := by omega
      have g2 : (acc.length : Int) ≤ (acc.length : Int) := by omega
      have g3 : (acc.length : Int) ≤ (ac : Int) := by omega
      have kO : Hid (∀ W, Up wz W → W.cell? ⟨w.heap.size, 1, none⟩ = some (.slice ap acc.length ac) ∧ W.cell? ⟨xb, 1, none⟩ = some (.slice (some ⟨kb, ko, none⟩) ks.length kc) ∧ W.cell? ⟨kb, ko + j, none⟩ = some xv) := fun W hW => ⟨hW.cell RV, hW.cell RX, hW.cell RY⟩
      refine eE (by af) 28 (fun w' => w'.cell? ⟨w.heap.size, 1, none⟩ = some (.slice ap acc.length ac) ∧ w'.cell? ⟨xb, 1, none⟩ = some (.slice (some ⟨kb, ko, none⟩) ks.length kc) ∧ w'.cell? ⟨kb, ko + j, none⟩ = some xv) (kO.out _ (fE wz)) (fun hS => ?_)
      simp only [List.size_toArray, List.length_cons, List.length_nil, Nat.reduceAdd, Array.replicate_succ, Array.replicate_zero, List.push_toArray, List.nil_append, List.cons_append]
      refine au.take (i := 0) (v := ?gv0k4) rfl (by af) (fun _ _ _ h => h) (by rfl) (fun w av => ?gy0k4) hS ?gr0k4
      case gy0k4 =>
       (try dsimp only at av)
       aj
       try ah rfl
      try simp only [Act.put, az, aA, aB]
      refine au.take (i := 1) (v := ?gv1k4) rfl (by af) (fun _ _ _ h => h) (by rfl) (fun w av => ?gy1k4) hS ?gr1k4
      case gy1k4 =>
       (try dsimp only at av)
       aj
       try ah rfl
      try simp only [Act.put, az, aA, aB]
      refine au.take (i := 2) (v := ?gv2k4) rfl (by af) (fun _ _ _ h => h) (by rfl) (fun w av => ?gy2k4) hS ?gr2k4
      case gy2k4 =>
       (try dsimp only at av)
       aj
       try ah rfl
      try simp only [Act.put, az, aA, aB]
      refine au.take (i := 3) (v := ?gv3k4) rfl (by af) (fun _ _ _ h => h) (by rfl) (fun w av => ?gy3k4) hS ?gr3k4
      case gy3k4 =>
       (try dsimp only at av)
       aj
       try ah rfl
      try simp only [Act.put, az, aA, aB]
      refine au.take (i := 4) (v := ?gv4k4) rfl (by af) (fun _ _ _ h => h) (by rfl) (fun w av => ?gy4k4) hS ?gr4k4
      case gy4k4 =>
       (try dsimp only at av)
       aj
       try ah rfl
      try simp only [Act.put, az, aA, aB]
      refine au.take (i := 5) (v := ?gv5k4) rfl (by af) (fun _ _ _ h => h) (by rfl) (fun w av => ?gy5k4) hS ?gr5k4
      case gy5k4 =>
       (try dsimp only at av)
       aj
       try ah rfl
      try simp only [Act.put, az, aA, aB]
      refine au.take (i := 6) (v := ?gv6k4) rfl (by af) (fun _ _ _ h => h) (by rfl) (fun w av => ?gy6k4) hS ?gr6k4
      case gy6k4 =>
       (try dsimp only at av)
       aj
       try ah rfl
      try simp only [Act.put, az, aA, aB]
      refine au.take (i := 7) (v := .slice ap acc.length acc.length) rfl (by af) (fun _ _ _ h => h) (by rfl) (fun w av => ?gy7b) hS ?gr7b
      case gy7b =>
       (try dsimp only at av)
       aj
      try simp only [Act.put, az, aA, aB]
      refine au.take (i := 8) (v := ?gv8k5) rfl (by af) (fun _ _ _ h => h) (by rfl) (fun w av => ?gy8k5) hS ?gr8k5
      case gy8k5 =>
       (try dsimp only at av)
       aj
       try ah rfl
      try simp only [Act.put, az, aA, aB]
      refine au.take (i := 9) (v := ?gv9k5) rfl (by af) (fun _ _ _ h => h) (by rfl) (fun w av => ?gy9k5) hS ?gr9k5
      case gy9k5 =>
       (try dsimp only at av)
       aj
       try ah rfl
      try simp only [Act.put, az, aA, aB]
      refine au.take (i := 10) (v := ?gv10k5) rfl (by af) (fun _ _ _ h => h) (by rfl) (fun w av => ?XC) hS ?gr10k5
      case XC =>
       (try dsimp only at av)
       aj
       try ah rfl
      try simp only [Act.put, az, aA, aB]
      refine au.take (i := 11) (v := ?gv11k5) rfl (by af) (fun _ _ _ h => h) (by rfl) (fun w av => ?XD) hS ?gr11k5
      case XD =>
       (try dsimp only at av)
       aj
       try ah rfl
      try simp only [Act.put, az, aA, aB]
      refine au.take (i := 12) (v := ?gv12k5) rfl (by af) (fun _ _ _ h => h) (by rfl) (fun w av => ?XE) hS ?gr12k5
      case XE =>
       (try dsimp only at av)
       aj
       try ah rfl
      try simp only [Act.put, az, aA, aB]
      refine au.take (i := 13) (v := ?gv13k5) rfl (by af) (fun _ _ _ h => h) (by rfl) (fun w av => ?XF) hS ?gr13k5
      case XF =>
       (try dsimp only at av)
       aj
       try ah rfl
      try simp only [Act.put, az, aA, aB]
      refine au.take (i := 14) (v := ?gv14k5) rfl (by af) (fun _ _ _ h => h) (by rfl) (fun w av => ?XG) hS ?gr14k5
      case XG =>
       (try dsimp only at av)
       aj
       try ah rfl
      try simp only [Act.put, az, aA, aB]
      refine au.take (i := 17) (v := ?gv17k5) rfl (by af) (fun _ _ _ h => h) (by rfl) (fun w av => ?XH) hS ?gr17k5
      case XH =>
       (try dsimp only at av)
       aj
       try ah rfl
      try simp only [Act.put, az, aA, aB]
      refine au.take (i := 18) (v := ?gv18k5) rfl (by af) (fun _ _ _ h => h) (by rfl) (fun w av => ?XI) hS ?gr18k5
      case XI =>
       (try dsimp only at av)
       aj
       try ah rfl
      try simp only [Act.put, az, aA, aB]
      refine au.take (i := 19) (v := ?gv19k5) rfl (by af) (fun _ _ _ h => h) (by rfl) (fun w av => ?XJ) hS ?gr19k5
      case XJ =>
       (try dsimp only at av)
       aj
       try ah rfl
      try simp only [Act.put, az, aA, aB]
      refine au.take (i := 20) (v := ?gv20k5) rfl (by af) (fun _ _ _ h => h) (by rfl) (fun w av => ?XK) hS ?gr20k5
      case XK =>
       (try dsimp only at av)
       aj
       try ah rfl
      try simp only [Act.put, az, aA, aB]
      refine au.take (i := 21) (v := ?gv21k5) rfl (by af) (fun _ _ _ h => h) (by rfl) (fun w av => ?XL) hS ?gr21k5
      case XL =>
       (try dsimp only at av)
       aj
       try ah rfl
      try simp only [Act.put, az, aA, aB]
      refine au.take (i := 22) (v := .slice (RQ ap acc.length ac) 0 (ac - acc.length)) rfl (by af) (fun _ _ _ h => h) (by rfl) (fun w av => ?gy22b) hS ?gr22b
      case gy22b =>
       (try dsimp only at av)
       aj
       try (unfold RQ; simp)
      try simp only [Act.put, az, aA, aB]
      refine au.step (i := 15) rfl (by af) (fun K' hK => ?_)
      aj
      refine (HOC.out _ ((iD.out.trans HZ.out).trans (fE wz))).mono ?_
      rintro e w3 ⟨cL, u, rfl, ow⟩
      have cL : Up wz.drew w3 := cL
      obtain ⟨ub, rfl⟩ := y5 ow
      rw [hoc] at ow
      have dI := ag ((fE wz).trans cL)
      have Xx := ag ow
      have dw := ag (Up.alloc w3 (.cells #[.pointer (some ⟨ub, 0, none⟩)] 184))
      have BV := ag (OR lH.out wO.out)
      have Xy : Hid ((w3.alloc (.cells #[.pointer (some ⟨ub, 0, none⟩)] 184)).cell? ⟨w3.heap.size, 0, none⟩ = some (.pointer (some ⟨ub, 0, none⟩))) := ig _ _ _
      have Ko := ag (Gp D6.out)
      have tA : Hid (sw.length = acc.length ∧ acc.length ≤ 90000) := ⟨wO.out, hal2⟩
      clear cL ow
      refine hK.out _ _ (fun _ => kO.out _ dI.out) (fun hS => ?_)
      replace hS := hS ⟨16, by decide, rfl⟩
      try simp only [az, aA, aB]
      refine au.step (i := 16) rfl (by af) (fun K' hK => ?_)
      aj
      refine hK.out _ _ (fun _ => kO.out _ (dI.out.trans dw.out)) (fun hS => ?_)
      replace hS := hS ⟨23, by decide, rfl⟩
      try simp only [az, aA, aB]
      refine au.step (i := 23) rfl (by af) (fun K' hK => ?_)
      refine OM (by rfl) _ _ _ (by rfl) 184 _ 8 Tryz.underlying236 Tryz.xX (ao := some ⟨w3.heap.size, 0, none⟩) (n := 1) (c := 1) (by rfl) (Nat.le_refl _) (ad := RQ ap acc.length ac) (c2 := ac - acc.length) (by rfl) ?_
      refine hK.out _ _ (fun _ => kO.out _ (dI.out.trans dw.out)) (fun hS => ?_)
      replace hS := hS ⟨24, by decide, rfl⟩
      try simp only [Act.put, az, aA, aB]
      refine au.step (i := 24) rfl (by af) (fun K' hK => ?_)
      refine x6 (by rfl) _ _ _ (by rfl) 184 _ 8 Tryz.underlying236 Tryz.xX (by rfl) (by decide) (ao := ap) (n := acc.length) (olds := sw) (by rfl) (all_none lH.out) tA.out.1 ?p1 (ad := ⟨w3.heap.size, 0, none⟩) (m := 1) (c := 1) (news := [.pointer (some ⟨ub, 0, none⟩)]) (by rfl) rfl ?p2 ?p4 (by omega) (by have := tA.out.2; omega) ?p3
      case p1 => exact fun b e i q hq => dw.out.cell (dI.out.cell (HZ.out.cell (BV.out b e i q hq)))
      case p2 =>
       intro i q hq
       cases i with
       | zero =>
        simp at hq
        subst hq
        have e0 : (⟨w3.heap.size, 0, none⟩ : Addr).add 0 = ⟨w3.heap.size, 0, none⟩ := by simp [Addr.add]
        rw [e0]; exact Xy.out
       | succ i => simp at hq
      case p4 =>
       intro q hq
       obtain rfl : q = .pointer (some ⟨ub, 0, none⟩) := by simpa using hq
       rfl
      intro g2 c2 w5 u0 fS
      have BW := (HZ.out.trans (dI.out.trans dw.out)).trans fS
      have OU : RAt (fun b => wo.heap.size ≤ b ∧ b < w3.heap.size) w5 oc (.pointer (some ⟨ub, 0, none⟩)) := RAt.keep ((dw.out.trans fS).kept _) oc (RAt.sub (fun b hb hl => ⟨Nat.le_trans HZ.out.size hb, hl⟩) oc Xx.out)
      have qO := dw.out.size
      have hsw := (HZ.out.trans dI.out).size
      have Gc := Kn.out.lt
      have RZ := ag (Kn.out.lay D6.out BW hsw (fun b hb => by have := (aD u0 hb).1; omega) OU acc.length (by rw [List.take_of_length_le (by rw [tA.out.1]; exact Nat.le_refl _), List.drop_of_length_le (by rw [tA.out.1]; exact Nat.le_refl _)]; exact u0.nH (by omega)))
      have u6 : Hid (pM s oc acc = acc.take acc.length ++ oc :: acc.drop acc.length) := by unfold Hid pM; rw [RU.out]
      have zR := (Kn.out.up BW).cells
      have hyf := zR.2.2.2
      have hyc5 := zR.2.1
      have ij := ag ((dI.out.trans dw.out).trans fS)
      have Xz : Hid (Up w (w5.setCell ⟨w.heap.size, 1, none⟩ (.slice (some ⟨g2, 0, none⟩) (acc.length + 1) c2))) := Below.setCell (p := ⟨w.heap.size, 1, none⟩) (iD.out.trans BW) (Nat.le_refl _) _
      clear u0 fS BW OU qO hsw zR
      refine hK.out _ _ (fun _ => kO.out _ ij.out) (fun hS => ?_)
      replace hS := hS ⟨27, by decide, rfl⟩
      try simp only [Act.put, az, aA, aB]
      refine au.take (i := 25) (v := ?gv25k6) rfl (by af) (fun _ _ _ h => h) (by rfl) (fun w av => ?XM) hS ?gr25k6
      case XM =>
       (try dsimp only at av)
       aj
       try ah rfl
      try simp only [Act.put, az, aA, aB]
      refine au.take (i := 26) (v := ?gv26k6) rfl (by af) (fun _ _ _ h => h) (by rfl) (fun w av => ?XN) hS ?gr26k6
      case XN =>
       (try dsimp only at av)
       aj
       try ah rfl
      try simp only [Act.put, az, aA, aB]
      refine au.step (i := 27) rfl (by af) (fun K' hK => ?_)
      aj
      refine hK.out _ _ (bh (by af)) (fun hS => ?_)
      refine au.done (by af) ?_
      aa fail
      aF
      case rel => exact ⟨j + 1, _, aU.out, by aH, by rw [HT.out, u6.out]; exact RZ.out, Xz.out⟩
      case measure => have := aU.out; simp [intOf]; omega
   ·obtain rfl : j = ks.length := by omega
    have HD := ag hW.out.done
    have HUF := ag cH.out
    clear hW cH hlt hj
    aa fail
    ax
    refine ⟨HUF.out, _, rfl, ?_⟩
    have h := HD.out
    rw [List.take_length] at h
    rw [ordR]; exact h
end Go.Proofs.YtpnmblnahjjmhaaGreat
