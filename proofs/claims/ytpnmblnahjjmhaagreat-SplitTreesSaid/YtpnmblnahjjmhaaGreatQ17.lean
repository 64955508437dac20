/- The contract of layer 31's reference's ordered. -/
import Derived.Test.YtpnmblnahjjmhaaGreatQ1
import Derived.Test.YtpnmblnahjjmhaaGreatQ16
set_option maxRecDepth 100000
namespace Go.Proofs.YtpnmblnahjjmhaaGreat
open Go.RowKit Go.Deep
def posK (s : ByteArray) : List RT → Nat
 | [] => 0
 | b :: l => if xF (lstR b) s = true then posK s l + 1 else 0
theorem CM {s : ByteArray} : ∀ {l : List RT} {k : Nat}, k ≤ l.length → (∀ j, j < k → xF (lstR (gr l j)) s = true) → (k < l.length → xF (lstR (gr l k)) s = false) → posK s l = k
 | [], k, hk, _, _ => by
  obtain rfl : k = 0 := by simpa using hk
  rfl
 | b :: l, 0, _, _, h => by
  have h1 : xF (lstR b) s = false := h (by simp)
  rw [posK, if_neg (by rw [h1]; simp)]
 | b :: l, k + 1, hk, h0, h => by
  have h1 : xF (lstR b) s = true := h0 0 (by omega)
  rw [posK, if_pos h1, CM (l := l) (k := k) (by simpa using hk) (fun j hj => h0 (j + 1) (by omega)) (fun hl => h (by simpa using hl))]
def oG (s : ByteArray) (o : RT) (l : List RT) : List RT := l.take (posK s l) ++ (o :: l.drop (posK s l))
mutual
def ordR : RT → RT
 | .node nm ks => .node nm (eB [] ks)
def eB (acc : List RT) : List RT → List RT
 | [] => acc
 | c :: cs => eB (oG (lstR c) (ordR c) acc) cs
end
theorem RR (s : ByteArray) (o : RT) (l : List RT) : (oG s o l).length = l.length + 1 := by
 unfold oG
 have : posK s l ≤ l.length := by
  induction l with
  | nil => exact Nat.le_refl _
  | cons b l ih =>
   rw [posK, List.length_cons]; split
   ·omega
   ·omega
 rw [List.length_append, List.length_take, List.length_cons, List.length_drop]; omega
theorem DX (acc : List RT) : ∀ (a b : List RT), eB acc (a ++ b) = eB (eB acc a) b
 | [], _ => by rw [eB]; rfl
 | c :: a, b => by rw [List.cons_append, eB, eB]; exact DX _ a b
theorem Mh {ks : List RT} {i : Nat} (h : i < ks.length) : eB [] (ks.take (i + 1)) = oG (lstR (gr ks i)) (ordR (gr ks i)) (eB [] (ks.take i)) := by
 have hg : gr ks i = ks[i] := by simp [gr, h]
 rw [List.take_succ_eq_append_getElem h, DX, eB, eB, hg]
theorem DY : ∀ (ks acc : List RT), (eB acc ks).length = acc.length + ks.length
 | [], acc => by rw [eB]; simp
 | c :: ks, acc => by rw [eB, DY ks, RR, List.length_cons]; omega
theorem qy : ∀ (a b : List RT), sizeRs (a ++ b) = sizeRs a + sizeRs b
 | [], b => by rw [sizeRs]; simp
 | r :: a, b => by rw [List.cons_append, sizeRs, sizeRs, qy a b]; omega
theorem Mi (s : ByteArray) (o : RT) (l : List RT) : sizeRs (oG s o l) = sizeRs l + aK o := by
 unfold oG
 rw [qy, sizeRs]
 have h := qy (l.take (posK s l)) (l.drop (posK s l))
 rw [List.take_append_drop] at h; omega
mutual
theorem DZ : ∀ r : RT, aK (ordR r) = aK r
 | .node nm ks => by rw [ordR, aK, aK, vq ks []]; simp [sizeRs]
theorem vq : ∀ (ks acc : List RT), sizeRs (eB acc ks) = sizeRs acc + sizeRs ks
 | [], acc => by rw [eB, sizeRs]; rfl
 | c :: ks, acc => by rw [eB, vq ks, Mi, DZ c, sizeRs]; omega
end
theorem JF (ks : List RT) (i : Nat) : sizeRs (ks.take i) ≤ sizeRs ks := by
 have h := qy (ks.take i) (ks.drop i)
 rw [List.take_append_drop] at h; omega
theorem Mj {S : Nat → Prop} {w : World} {b off n cap k : Nat} {vs : List Value} (h : av S w (.slice (some ⟨b, off, none⟩) n cap) n (vN vs)) (hl : vs.length = n) (_ : k < n) (i : Nat) (q : Value) (hq : (vs.drop k)[i]? = some q) : w.cell? ((⟨b, off + k, none⟩ : Addr).add i) = some q := by
 rw [List.getElem?_drop] at hq
 have hki : k + i < n := by rw [← hl]; exact (List.getElem?_eq_some_iff.1 hq).1
 obtain ⟨b', o', e, hc⟩ := pI h hki
 injection e with e
 injection e with e1 e2
 subst e1; subst e2
 have hv : vN vs (k + i) = q := by unfold vN; rw [List.getD_eq_getElem?_getD, hq]; rfl
 rw [hv] at hc
 rw [Addr.add_lit, show off + k + i = off + (k + i) by omega]; exact hc
theorem Mk {S : Nat → Prop} {w : World} {b off n cap k : Nat} {vs : List Value} (h : av S w (.slice (some ⟨b, off, none⟩) n cap) n (vN vs)) (hl : vs.length = n) (_ : k ≤ n) (i : Nat) (q : Value) (hq : (vs.take k)[i]? = some q) : w.cell? ((⟨b, off, none⟩ : Addr).add i) = some q := by
 rw [List.getElem?_take] at hq
 split at hq
 ·have hki : i < n := by rw [← hl]; exact (List.getElem?_eq_some_iff.1 hq).1
  obtain ⟨b', o', e, hc⟩ := pI h hki
  injection e with e
  injection e with e1 e2
  subst e1; subst e2
  have hv : vN vs i = q := by unfold vN; rw [List.getD_eq_getElem?_getD, hq]; rfl
  rw [hv] at hc
  rw [Addr.add_lit]; exact hc
 ·cases hq
theorem Gk {S : Nat → Prop} {w : World} : ∀ {rs : List RT} {vs : List Value}, RsAt S w rs vs → ∀ u ∈ vs, u.oneCell' = true
 | [], vs, h, u, hu => by unfold RsAt at h; subst h; cases hu
 | r :: rs, vs, h, u, hu => by
  unfold RsAt at h
  obtain ⟨x, us, rfl, h1, h2⟩ := h
  rcases List.mem_cons.1 hu with rfl | hu
  ·obtain ⟨b, rfl⟩ := yK h1; rfl
  ·exact Gk h2 u hu
theorem quiet_of {P : Program} {f : FuncId} {args : Array Value} {w : World} {m n : Nat} {v : Value} (h : Calls P f args (w.drewN (m + n)) fun e w' => e = .returned v ∧ w.drewN (m + n) = w') : Calls P f args (w.drewN (m + n)) fun e w'' => e = .returned v ∧ ∃ q, w'' = w.drewN (m + q) :=
 h.mono fun _ _ ⟨h1, h2⟩ => ⟨h1, n, h2.symm⟩
def OP (w : World) (r : RT) (e : Ending) (w' : World) : Prop := Up w w' ∧ ∃ u, e = .returned u ∧ RAt (fun b => w.heap.size ≤ b) w' (ordR r) u
set_option maxHeartbeats 4000000 in
theorem OQ (S : Nat → Prop) : ∀ (d : Nat) (r : RT), aK r ≤ d → d ≤ 90000 → ∀ (w : World) (v : Value), RAt S w r v → Calls Tryz.prog 183 #[v] w (OP w r) := by
 intro d
 induction d with
 | zero => intro r hr; have := jw r; omega
 | succ d ih =>
 intro r hr hd w v hv
 cases r with
 | node nm ks =>
  have hv0 := hv
  obtain ⟨xb, kp, kc, vs, rfl, hS, c0, c1, hk, hs⟩ := hv.open
  simp only [RT.nm, RT.kids] at c0 c1 hk hs
  have iq := qw ks
  rw [aK] at hr
  have dx := Up.alloc w (.cells #[.string nm, .slice none 0 0] 238)
  have HW0 := aa (lN.start w (Nat.le_refl _) nm)
  have dM := aa c1
  have HK := aa hk
  have HR := aa hs
  have kr : Hid (∀ j, j < ks.length → ∀ W, Up w W → Calls Tryz.prog 183 #[vN vs j] W (OP W (gr ks j))) := fun j hj W hW => by
   have h1 := uB hj
   exact ih (gr ks j) (by omega) (by omega) W _ (RAt.keep (hW.kept S) _ (RsAt.get ks hs j hj))
  have HLX : Hid (∀ j, j < ks.length → ∀ W, Up w W → Calls Tryz.prog 242 #[vN vs j] W fun e w' => e = .returned (.string (lstR (gr ks j))) ∧ W = w') := fun j hj W hW => by
   have h1 := uB hj
   exact F8 S (aK (gr ks j)) _ (Nat.le_refl _) (by omega) W _ (RAt.keep (hW.kept S) _ (RsAt.get ks hs j hj))
  have HU := aa dx
  have kn : Hid (ks.length ≤ 90000) := by unfold Hid; omega
  have Uq : Hid (sizeRs ks ≤ 90000) := by unfold Hid; omega
  clear ih hv hv0 dx hk hs hr iq hS
  go_enter Tryz.func183, Tryz.ntmps183
  go_wp2_with fail
  clear c0 c1
  go_loopw [4, 5] (fun i _ wr => ∃ (j : Nat) (kv : Value), j ≤ ks.length ∧ i = .int .i64 j ∧ Hid (lN w.heap.size w.heap.size wr nm kv (eB [] (ks.take j))) ∧ Hid (Up w wr)) (fun i _ _ => ks.length - (intOf i).toNat)
  case atStart => exact ⟨0, _, Nat.zero_le _, rfl, by rw [List.take_zero, eB]; exact HW0.out, HU.out⟩
  case round =>
   obtain ⟨j, kv, hj, rfl, hW, bL⟩ := hrel
   obtain ⟨wo, rfl⟩ : ∃ wo : World, wo = wr := ⟨_, rfl⟩
   have x1 := bL.out.cell dM.out
   by_cases hlt : j < ks.length
   ·obtain ⟨acc, hacc⟩ : ∃ acc, acc = eB [] (ks.take j) := ⟨_, rfl⟩
    have HT : Hid (eB [] (ks.take (j + 1)) = oG (lstR (gr ks j)) (ordR (gr ks j)) acc) := by rw [hacc]; exact Mh hlt
    have hal2 : acc.length ≤ 90000 := by
     rw [hacc, DY, List.length_take]; have := kn.out; simp; omega
    have Kl : sizeRs acc ≤ 90000 := by
     rw [hacc, vq]; have := JF ks j; have := Uq.out; simp [sizeRs]; omega
    rw [← hacc] at hW
    obtain ⟨rL, ho, nH⟩ := hW.out.kids
    have hcw := hW.out.cells
    have hlen := RsAt.len acc nH
    have jv := ho.qZ
    rw [hlen] at jv
    obtain ⟨ap, ac, rfl, hac, _⟩ := av.open jv
    have hy1 := hcw.2.1
    obtain ⟨kb, ko, rfl, hkc⟩ := pI (HK.out.keep (bL.out.kept _)) hlt
    have BH : Hid (∀ k, k < acc.length → ∀ W, Up wo W → Calls Tryz.prog 242 #[vN rL k] W fun e w' => e = .returned (.string (lstR (gr acc k))) ∧ W = w') := fun k hk W Xn => by
     have h1 := uB hk
     exact F8 _ (aK (gr acc k)) _ (Nat.le_refl _) (by omega) W _ (RAt.keep (Xn.kept _) _ (RsAt.get acc nH k hk))
    have BI : Hid (∀ W, Up wo W → Calls Tryz.prog 242 #[vN vs j] W fun e w' => e = .returned (.string (lstR (gr ks j))) ∧ W = w') := fun W Xn => HLX.out j hlt W (bL.out.trans Xn)
    have HOC := aa (kr.out j hlt)
    have HY1 := aa hy1
    have jN := aa x1
    have WN := aa hkc
    have kI := aa jv
    have Km := aa hW.out
    have gR := aa bL.out
    have aM := aa hlt
    have D1 := aa nH
    have HHO := aa ho
    have wA := aa hlen
    have i1 : (0 : Int) ≤ (j : Int) := by omega
    have i2 : (j : Int) < (ks.length : Int) := by omega
    have i3 : (j : Int) < 90000 := by have := kn.out; omega
    clear hacc Kl nH ho hcw hlen jv hW bL hlt hj
    generalize vN vs j = xv at *
    generalize hs : lstR (gr ks j) = s at *
    generalize hoc : ordR (gr ks j) = oc at *
    go_wp2_with fail
    go_loopw [5] (fun q wr => ∃ k m : Nat, k ≤ acc.length ∧ q = .int .i64 k ∧ wr = wo.drewN m ∧ Hid (∀ i, i < k → xF (lstR (gr acc i)) s = true)) (fun q _ => acc.length - (intOf q).toNat)
    case atStart => exact ⟨0, 0, Nat.zero_le _, rfl, rfl, fun i hi => absurd hi (Nat.not_lt_zero _)⟩
    case round =>
     obtain ⟨k, m, hk, rfl, rfl, hlo⟩ := hrel
     by_cases Xo : k < acc.length
     ·obtain ⟨yb, yo, rfl, hyc⟩ := pI kI.out Xo
      have HM1 := aa (fun n => quiet_of (m := m) (n := n) (BH.out k Xo _ (Up.drewN wo _)))
      have HM2 := aa (fun n => quiet_of (m := m) (n := n) (BI.out _ (Up.drewN wo _)))
      have k1 : (0 : Int) ≤ (k : Int) := by omega
      have k2 : (k : Int) < (acc.length : Int) := by omega
      have k3 : (k : Int) < 90000 := by omega
      have dk : decide ((k : Int) < (acc.length : Int)) = true := by simp; omega
      have dn : decide (k < acc.length) = true := by simp; omega
      have Gl := aa Xo
      generalize vN rL k = yv at *
      cases hls : xF (lstR (gr acc k)) s
      ·have hbl : Op.bytesLess (lstR (gr acc k)).toList s.toList = false := hls
       have nu := aa hls
       clear hls hk
       generalize hs1 : lstR (gr acc k) = s1 at *
       go_wp2_with fail
       go_big_quiet (first | with_reducible exact HM1.out _ | with_reducible exact HM2.out _)
       go_wp2_with fail
       have HZ : Hid (Up wo ((wo.drewN m).drewN nq)) := (Up.drewN _ _).trans (Up.drewN _ _)
       have RU : Hid (posK s acc = k) := CM (by have := Gl.out; omega) hlo.out (fun _ => by rw [hs1]; exact nu.out)
       have hkle : k ≤ acc.length := Nat.le_of_lt Gl.out
       generalize (wo.drewN m).drewN nq = wz at *
       have RV := HZ.out.cell HY1.out
       have RX := HZ.out.cell jN.out
       have RY := HZ.out.cell WN.out
       have g1 : (0 : Int) ≤ (k : Int) := by omega
       have g2 : (k : Int) ≤ (acc.length : Int) := by omega
       have g3 : (k : Int) ≤ (ac : Int) := by omega
       have jU : Hid (∀ W, Up wz W → W.cell? ⟨w.heap.size, 1, none⟩ = some (.slice (some ⟨yb, yo, none⟩) acc.length ac) ∧ W.cell? ⟨xb, 1, none⟩ = some (.slice (some ⟨kb, ko, none⟩) ks.length kc) ∧ W.cell? ⟨kb, ko + j, none⟩ = some xv) := fun W hW => ⟨hW.cell RV, hW.cell RX, hW.cell RY⟩
       refine dK (by kernel_rfl) 28 (fun w' => w'.cell? ⟨w.heap.size, 1, none⟩ = some (.slice (some ⟨yb, yo, none⟩) acc.length ac) ∧ w'.cell? ⟨xb, 1, none⟩ = some (.slice (some ⟨kb, ko, none⟩) ks.length kc) ∧ w'.cell? ⟨kb, ko + j, none⟩ = some xv) (jU.out _ (eN wz)) (fun hS => ?_)
       simp only [List.size_toArray, List.length_cons, List.length_nil, Nat.reduceAdd, Array.replicate_succ, Array.replicate_zero, List.push_toArray, List.nil_append, List.cons_append]
       refine ag.take (i := 0) (v := ?yL) rfl (by kernel_rfl) (fun _ _ _ h => h) (by rfl) (fun w hSw => ?kY) hS ?yM
       case kY =>
        (try dsimp only at hSw)
        go_simp
        try with_reducible rfl
       try simp only [Act.put, aj, aq, au]
       refine ag.take (i := 1) (v := ?yN) rfl (by kernel_rfl) (fun _ _ _ h => h) (by rfl) (fun w hSw => ?kZ) hS ?yO
       case kZ =>
        (try dsimp only at hSw)
        go_simp
        try with_reducible rfl
       try simp only [Act.put, aj, aq, au]
       refine ag.take (i := 2) (v := ?Bv) rfl (by kernel_rfl) (fun _ _ _ h => h) (by rfl) (fun w hSw => ?nI) hS ?Bw
       case nI =>
        (try dsimp only at hSw)
        go_simp
        try with_reducible rfl
       try simp only [Act.put, aj, aq, au]
       refine ag.take (i := 3) (v := ?Bz) rfl (by kernel_rfl) (fun _ _ _ h => h) (by rfl) (fun w hSw => ?nJ) hS ?BA
       case nJ =>
        (try dsimp only at hSw)
        go_simp
        try with_reducible rfl
       try simp only [Act.put, aj, aq, au]
       refine ag.take (i := 4) (v := ?BB) rfl (by kernel_rfl) (fun _ _ _ h => h) (by rfl) (fun w hSw => ?nK) hS ?BC
       case nK =>
        (try dsimp only at hSw)
        go_simp
        try with_reducible rfl
       try simp only [Act.put, aj, aq, au]
       refine ag.take (i := 5) (v := ?BD) rfl (by kernel_rfl) (fun _ _ _ h => h) (by rfl) (fun w hSw => ?nM) hS ?BF
       case nM =>
        (try dsimp only at hSw)
        go_simp
        try with_reducible rfl
       try simp only [Act.put, aj, aq, au]
       refine ag.take (i := 6) (v := ?Fb) rfl (by kernel_rfl) (fun _ _ _ h => h) (by rfl) (fun w hSw => ?qx) hS ?Fc
       case qx =>
        (try dsimp only at hSw)
        go_simp
        try with_reducible rfl
       try simp only [Act.put, aj, aq, au]
       refine ag.take (i := 7) (v := .slice (some ⟨yb, yo, none⟩) k k) rfl (by kernel_rfl) (fun _ _ _ h => h) (by rfl) (fun w hSw => ?gy7a) hS ?gr7a
       case gy7a =>
        (try dsimp only at hSw)
        go_simp
       try simp only [Act.put, aj, aq, au]
       refine ag.take (i := 8) (v := ?Ur) rfl (by kernel_rfl) (fun _ _ _ h => h) (by rfl) (fun w hSw => ?BJ) hS ?Us
       case BJ =>
        (try dsimp only at hSw)
        go_simp
        try with_reducible rfl
       try simp only [Act.put, aj, aq, au]
       refine ag.take (i := 9) (v := ?gv9k2) rfl (by kernel_rfl) (fun _ _ _ h => h) (by rfl) (fun w hSw => ?Ml) hS ?gr9k2
       case Ml =>
        (try dsimp only at hSw)
        go_simp
        try with_reducible rfl
       try simp only [Act.put, aj, aq, au]
       refine ag.take (i := 10) (v := ?gv10k2) rfl (by kernel_rfl) (fun _ _ _ h => h) (by rfl) (fun w hSw => ?Xp) hS ?gr10k2
       case Xp =>
        (try dsimp only at hSw)
        go_simp
        try with_reducible rfl
       try simp only [Act.put, aj, aq, au]
       refine ag.take (i := 11) (v := ?gv11k2) rfl (by kernel_rfl) (fun _ _ _ h => h) (by rfl) (fun w hSw => ?Xq) hS ?gr11k2
       case Xq =>
        (try dsimp only at hSw)
        go_simp
        try with_reducible rfl
       try simp only [Act.put, aj, aq, au]
       refine ag.take (i := 12) (v := ?gv12k2) rfl (by kernel_rfl) (fun _ _ _ h => h) (by rfl) (fun w hSw => ?Xr) hS ?gr12k2
       case Xr =>
        (try dsimp only at hSw)
        go_simp
        try with_reducible rfl
       try simp only [Act.put, aj, aq, au]
       refine ag.take (i := 13) (v := ?gv13k2) rfl (by kernel_rfl) (fun _ _ _ h => h) (by rfl) (fun w hSw => ?Xt) hS ?gr13k2
       case Xt =>
        (try dsimp only at hSw)
        go_simp
        try with_reducible rfl
       try simp only [Act.put, aj, aq, au]
       refine ag.take (i := 14) (v := ?gv14k2) rfl (by kernel_rfl) (fun _ _ _ h => h) (by rfl) (fun w hSw => ?Xu) hS ?gr14k2
       case Xu =>
        (try dsimp only at hSw)
        go_simp
        try with_reducible rfl
       try simp only [Act.put, aj, aq, au]
       refine ag.take (i := 17) (v := ?gv17k2) rfl (by kernel_rfl) (fun _ _ _ h => h) (by rfl) (fun w hSw => ?Xv) hS ?gr17k2
       case Xv =>
        (try dsimp only at hSw)
        go_simp
        try with_reducible rfl
       try simp only [Act.put, aj, aq, au]
       refine ag.take (i := 18) (v := ?gv18k2) rfl (by kernel_rfl) (fun _ _ _ h => h) (by rfl) (fun w hSw => ?Xw) hS ?gr18k2
       case Xw =>
        (try dsimp only at hSw)
        go_simp
        try with_reducible rfl
       try simp only [Act.put, aj, aq, au]
       refine ag.take (i := 19) (v := ?gv19k2) rfl (by kernel_rfl) (fun _ _ _ h => h) (by rfl) (fun w hSw => ?Xx) hS ?gr19k2
       case Xx =>
        (try dsimp only at hSw)
        go_simp
        try with_reducible rfl
       try simp only [Act.put, aj, aq, au]
       refine ag.take (i := 20) (v := ?gv20k2) rfl (by kernel_rfl) (fun _ _ _ h => h) (by rfl) (fun w hSw => ?Xy) hS ?gr20k2
       case Xy =>
        (try dsimp only at hSw)
        go_simp
        try with_reducible rfl
       try simp only [Act.put, aj, aq, au]
       refine ag.take (i := 21) (v := ?gv21k2) rfl (by kernel_rfl) (fun _ _ _ h => h) (by rfl) (fun w hSw => ?Xz) hS ?gr21k2
       case Xz =>
        (try dsimp only at hSw)
        go_simp
        try with_reducible rfl
       try simp only [Act.put, aj, aq, au]
       refine ag.take (i := 22) (v := .slice (some ⟨yb, yo + k, none⟩) (acc.length - k) (ac - k)) rfl (by kernel_rfl) (fun _ _ _ h => h) (by rfl) (fun w hSw => ?gy22a) hS ?gr22a
       case gy22a =>
        (try dsimp only at hSw)
        go_simp
        intro e; have := Gl.out; omega
       try simp only [Act.put, aj, aq, au]
       refine ag.step (i := 15) rfl (by kernel_rfl) (fun K' hK => ?_)
       go_simp
       refine (HOC.out _ ((gR.out.trans HZ.out).trans (eN wz))).mono ?_
       rintro e w3 ⟨bR, u, rfl, hr3⟩
       have bR : Up wz.drew w3 := bR
       obtain ⟨ub, rfl⟩ := yK hr3
       rw [hoc] at hr3
       have cR := aa ((eN wz).trans bR)
       have XA := aa hr3
       have cG := aa (Up.alloc w3 (.cells #[.pointer (some ⟨ub, 0, none⟩)] 184))
       have hdc := Mj kI.out wA.out Gl.out
       have HDC := aa fun i q hq => cG.out.cell (cR.out.cell (HZ.out.cell (hdc i q hq)))
       have BK := aa (Mk kI.out wA.out hkle)
       have XB : Hid ((w3.alloc (.cells #[.pointer (some ⟨ub, 0, none⟩)] 184)).cell? ⟨w3.heap.size, 0, none⟩ = some (.pointer (some ⟨ub, 0, none⟩))) := gG _ _ _
       have Kn := aa (Gk D1.out)
       have sS : Hid (0 < acc.length - k ∧ (rL.drop k).length = acc.length - k ∧ (rL.take k).length = k ∧ acc.length ≤ 90000) := by
        have := Gl.out; have := wA.out; unfold Hid; rw [List.length_drop, List.length_take]; omega
       clear bR hr3 hdc
       refine hK.out _ _ (fun _ => jU.out _ cR.out) (fun hS => ?_)
       replace hS := hS ⟨16, by decide, rfl⟩
       try simp only [aj, aq, au]
       refine ag.step (i := 16) rfl (by kernel_rfl) (fun K' hK => ?_)
       go_simp
       refine hK.out _ _ (fun _ => jU.out _ (cR.out.trans cG.out)) (fun hS => ?_)
       replace hS := hS ⟨23, by decide, rfl⟩
       try simp only [aj, aq, au]
       refine ag.step (i := 23) rfl (by kernel_rfl) (fun K' hK => ?_)
       refine xL (by rfl) _ _ _ (by rfl) 184 _ 8 Tryz.underlying236 Tryz.xG (by rfl) (by decide) (ao := some ⟨w3.heap.size, 0, none⟩) (n := 1) (olds := [.pointer (some ⟨ub, 0, none⟩)]) (by rfl) (fun e => by cases e) rfl ?q1 (ad := ⟨yb, yo + k, none⟩) (m := acc.length - k) (c := ac - k) (news := rL.drop k) (by rfl) sS.out.2.1 (fun i q hq => HDC.out i q hq) ?q2 sS.out.1 (by have := sS.out.2.2.2; omega) ?q3
       case q1 =>
        intro b e i q hq
        injection e with e
        subst e
        cases i with
        | zero =>
         simp at hq
         subst hq
         have e0 : (⟨w3.heap.size, 0, none⟩ : Addr).add 0 = ⟨w3.heap.size, 0, none⟩ := by simp [Addr.add]
         rw [e0]; exact XB.out
        | succ i => simp at hq
       case q2 => exact fun q hq => Kn.out q (List.mem_of_mem_drop hq)
       intro g1 c1 w4 Om dL
       have fB := aa (cR.out.trans (cG.out.trans dL))
       have HOC4 := aa (World.ownsRow.cells Om rfl)
       have HV4 := aa (cG.out.trans dL)
       clear Om dL
       refine hK.out _ _ (fun _ => jU.out _ fB.out) (fun hS => ?_)
       replace hS := hS ⟨24, by decide, rfl⟩
       try simp only [Act.put, aj, aq, au]
       refine ag.step (i := 24) rfl (by kernel_rfl) (fun K' hK => ?_)
       refine xL (by rfl) _ _ _ (by rfl) 184 _ 8 Tryz.underlying236 Tryz.xG (by rfl) (by decide) (ao := some ⟨yb, yo, none⟩) (n := k) (olds := rL.take k) (by rfl) (fun e => by cases e) sS.out.2.2.1 ?r1 (ad := ⟨g1, 0, none⟩) (m := 1 + (acc.length - k)) (c := c1) (news := [.pointer (some ⟨ub, 0, none⟩)] ++ rL.drop k) (by rfl) (by rw [List.length_append, sS.out.2.1]; rfl) (fun i q hq => HOC4.out i q hq) ?r2 (by omega) (by have := sS.out.2.2.2; omega) ?r3
       case r1 =>
        intro b e i q hq
        injection e with e
        subst e
        exact fB.out.cell (HZ.out.cell (BK.out i q hq))
       case r2 =>
        intro q hq
        rcases List.mem_append.1 hq with h1 | h1
        ·obtain rfl : q = .pointer (some ⟨ub, 0, none⟩) := by simpa using h1
         rfl
        ·exact Kn.out q (List.mem_of_mem_drop h1)
       intro g2 c2 w5 uE fh
       have BL := (HZ.out.trans fB.out).trans fh
       have OS : RAt (fun b => wo.heap.size ≤ b ∧ b < w3.heap.size) w5 oc (.pointer (some ⟨ub, 0, none⟩)) := RAt.keep ((HV4.out.trans fh).kept _) oc (RAt.sub (fun b hb hl => ⟨Nat.le_trans HZ.out.size hb, hl⟩) oc XA.out)
       have hs3 := HV4.out.size
       have hsw := (HZ.out.trans cR.out).size
       have hBl := Km.out.lt
       have RZ := aa (Km.out.lay D1.out BL hsw (fun b hb => by have := (ax uE hb).1; omega) OS k (uE.mJ (by omega)))
       have uF : Hid (oG s oc acc = acc.take k ++ oc :: acc.drop k) := by unfold Hid oG; rw [RU.out]
       have hcw := (Km.out.up BL).cells
       have hyf := hcw.2.2.2
       have hyc5 := hcw.2.1
       have gH := aa (fB.out.trans fh)
       have XC : Hid (Up w (w5.setCell ⟨w.heap.size, 1, none⟩ (.slice (some ⟨g2, 0, none⟩) (k + (1 + (acc.length - k))) c2))) := Below.setCell (p := ⟨w.heap.size, 1, none⟩) (gR.out.trans BL) (Nat.le_refl _) _
       clear uE fh BL OS hs3 hsw hcw
       refine hK.out _ _ (fun _ => jU.out _ gH.out) (fun hS => ?_)
       replace hS := hS ⟨27, by decide, rfl⟩
       try simp only [Act.put, aj, aq, au]
       refine ag.take (i := 25) (v := ?gv25k3) rfl (by kernel_rfl) (fun _ _ _ h => h) (by rfl) (fun w hSw => ?XD) hS ?gr25k3
       case XD =>
        (try dsimp only at hSw)
        go_simp
        try with_reducible rfl
       try simp only [Act.put, aj, aq, au]
       refine ag.take (i := 26) (v := ?gv26k3) rfl (by kernel_rfl) (fun _ _ _ h => h) (by rfl) (fun w hSw => ?XE) hS ?gr26k3
       case XE =>
        (try dsimp only at hSw)
        go_simp
        try with_reducible rfl
       try simp only [Act.put, aj, aq, au]
       refine ag.step (i := 27) rfl (by kernel_rfl) (fun K' hK => ?_)
       go_simp
       refine hK.out _ _ (aP (by kernel_rfl)) (fun hS => ?_)
       refine ag.done (by kernel_rfl) ?_
       go_wp2_with fail
       go_roundw
       case rel => exact ⟨j + 1, _, aM.out, by go_num, by rw [HT.out, uF.out]; exact RZ.out, XC.out⟩
       case measure => have := aM.out; simp [intOf]; omega
      ·have hbl : Op.bytesLess (lstR (gr acc k)).toList s.toList = true := hls
       have nu := aa hls
       clear hls hk
       generalize hs1 : lstR (gr acc k) = s1 at *
       go_wp2_with fail
       go_big_quiet (first | with_reducible exact HM1.out _ | with_reducible exact HM2.out _)
       go_wp2_with fail
       go_roundw
       case rel => exact ⟨k + 1, m + nq, Gl.out, by go_num, rfl, fun i hi => if e : i = k then by subst e; rw [hs1]; exact nu.out else hlo.out i (by omega)⟩
       case measure => have := Gl.out; simp [intOf]; omega
     ·obtain rfl : k = acc.length := by omega
      have dk : decide ((acc.length : Int) < (acc.length : Int)) = false := by simp
      have dn : decide (acc.length < acc.length) = false := by simp
      go_wp2_with fail
      go_big_quiet (fail)
      go_wp2_with fail
      have HZ : Hid (Up wo ((wo.drewN m).drewN nq)) := (Up.drewN _ _).trans (Up.drewN _ _)
      have RU : Hid (posK s acc = acc.length) := CM (Nat.le_refl _) hlo.out (fun h => absurd h (Nat.lt_irrefl _))
      generalize (wo.drewN m).drewN nq = wz at *
      have RV := HZ.out.cell HY1.out
      have RX := HZ.out.cell jN.out
      have RY := HZ.out.cell WN.out
      have g1 : (0 : Int) ≤ (acc.length : Int) := by omega
      have g2 : (acc.length : Int) ≤ (acc.length : Int) := by omega
      have g3 : (acc.length : Int) ≤ (ac : Int) := by omega
      have jU : Hid (∀ W, Up wz W → W.cell? ⟨w.heap.size, 1, none⟩ = some (.slice ap acc.length ac) ∧ W.cell? ⟨xb, 1, none⟩ = some (.slice (some ⟨kb, ko, none⟩) ks.length kc) ∧ W.cell? ⟨kb, ko + j, none⟩ = some xv) := fun W hW => ⟨hW.cell RV, hW.cell RX, hW.cell RY⟩
      refine dK (by kernel_rfl) 28 (fun w' => w'.cell? ⟨w.heap.size, 1, none⟩ = some (.slice ap acc.length ac) ∧ w'.cell? ⟨xb, 1, none⟩ = some (.slice (some ⟨kb, ko, none⟩) ks.length kc) ∧ w'.cell? ⟨kb, ko + j, none⟩ = some xv) (jU.out _ (eN wz)) (fun hS => ?_)
      simp only [List.size_toArray, List.length_cons, List.length_nil, Nat.reduceAdd, Array.replicate_succ, Array.replicate_zero, List.push_toArray, List.nil_append, List.cons_append]
      refine ag.take (i := 0) (v := ?gv0k4) rfl (by kernel_rfl) (fun _ _ _ h => h) (by rfl) (fun w hSw => ?gy0k4) hS ?gr0k4
      case gy0k4 =>
       (try dsimp only at hSw)
       go_simp
       try with_reducible rfl
      try simp only [Act.put, aj, aq, au]
      refine ag.take (i := 1) (v := ?gv1k4) rfl (by kernel_rfl) (fun _ _ _ h => h) (by rfl) (fun w hSw => ?gy1k4) hS ?gr1k4
      case gy1k4 =>
       (try dsimp only at hSw)
       go_simp
       try with_reducible rfl
      try simp only [Act.put, aj, aq, au]
      refine ag.take (i := 2) (v := ?gv2k4) rfl (by kernel_rfl) (fun _ _ _ h => h) (by rfl) (fun w hSw => ?gy2k4) hS ?gr2k4
      case gy2k4 =>
       (try dsimp only at hSw)
       go_simp
       try with_reducible rfl
      try simp only [Act.put, aj, aq, au]
      refine ag.take (i := 3) (v := ?gv3k4) rfl (by kernel_rfl) (fun _ _ _ h => h) (by rfl) (fun w hSw => ?gy3k4) hS ?gr3k4
      case gy3k4 =>
       (try dsimp only at hSw)
       go_simp
       try with_reducible rfl
      try simp only [Act.put, aj, aq, au]
      refine ag.take (i := 4) (v := ?gv4k4) rfl (by kernel_rfl) (fun _ _ _ h => h) (by rfl) (fun w hSw => ?gy4k4) hS ?gr4k4
      case gy4k4 =>
       (try dsimp only at hSw)
       go_simp
       try with_reducible rfl
      try simp only [Act.put, aj, aq, au]
      refine ag.take (i := 5) (v := ?gv5k4) rfl (by kernel_rfl) (fun _ _ _ h => h) (by rfl) (fun w hSw => ?gy5k4) hS ?gr5k4
      case gy5k4 =>
       (try dsimp only at hSw)
       go_simp
       try with_reducible rfl
      try simp only [Act.put, aj, aq, au]
      refine ag.take (i := 6) (v := ?gv6k4) rfl (by kernel_rfl) (fun _ _ _ h => h) (by rfl) (fun w hSw => ?gy6k4) hS ?gr6k4
      case gy6k4 =>
       (try dsimp only at hSw)
       go_simp
       try with_reducible rfl
      try simp only [Act.put, aj, aq, au]
      refine ag.take (i := 7) (v := .slice ap acc.length acc.length) rfl (by kernel_rfl) (fun _ _ _ h => h) (by rfl) (fun w hSw => ?gy7b) hS ?gr7b
      case gy7b =>
       (try dsimp only at hSw)
       go_simp
      try simp only [Act.put, aj, aq, au]
      refine ag.take (i := 8) (v := ?gv8k5) rfl (by kernel_rfl) (fun _ _ _ h => h) (by rfl) (fun w hSw => ?gy8k5) hS ?gr8k5
      case gy8k5 =>
       (try dsimp only at hSw)
       go_simp
       try with_reducible rfl
      try simp only [Act.put, aj, aq, au]
      refine ag.take (i := 9) (v := ?gv9k5) rfl (by kernel_rfl) (fun _ _ _ h => h) (by rfl) (fun w hSw => ?gy9k5) hS ?gr9k5
      case gy9k5 =>
       (try dsimp only at hSw)
       go_simp
       try with_reducible rfl
      try simp only [Act.put, aj, aq, au]
      refine ag.take (i := 10) (v := ?gv10k5) rfl (by kernel_rfl) (fun _ _ _ h => h) (by rfl) (fun w hSw => ?XF) hS ?gr10k5
      case XF =>
       (try dsimp only at hSw)
       go_simp
       try with_reducible rfl
      try simp only [Act.put, aj, aq, au]
      refine ag.take (i := 11) (v := ?gv11k5) rfl (by kernel_rfl) (fun _ _ _ h => h) (by rfl) (fun w hSw => ?XG) hS ?gr11k5
      case XG =>
       (try dsimp only at hSw)
       go_simp
       try with_reducible rfl
      try simp only [Act.put, aj, aq, au]
      refine ag.take (i := 12) (v := ?gv12k5) rfl (by kernel_rfl) (fun _ _ _ h => h) (by rfl) (fun w hSw => ?XH) hS ?gr12k5
      case XH =>
       (try dsimp only at hSw)
       go_simp
       try with_reducible rfl
      try simp only [Act.put, aj, aq, au]
      refine ag.take (i := 13) (v := ?gv13k5) rfl (by kernel_rfl) (fun _ _ _ h => h) (by rfl) (fun w hSw => ?XI) hS ?gr13k5
      case XI =>
       (try dsimp only at hSw)
       go_simp
       try with_reducible rfl
      try simp only [Act.put, aj, aq, au]
      refine ag.take (i := 14) (v := ?gv14k5) rfl (by kernel_rfl) (fun _ _ _ h => h) (by rfl) (fun w hSw => ?XJ) hS ?gr14k5
      case XJ =>
       (try dsimp only at hSw)
       go_simp
       try with_reducible rfl
      try simp only [Act.put, aj, aq, au]
      refine ag.take (i := 17) (v := ?gv17k5) rfl (by kernel_rfl) (fun _ _ _ h => h) (by rfl) (fun w hSw => ?XK) hS ?gr17k5
      case XK =>
       (try dsimp only at hSw)
       go_simp
       try with_reducible rfl
      try simp only [Act.put, aj, aq, au]
      refine ag.take (i := 18) (v := ?gv18k5) rfl (by kernel_rfl) (fun _ _ _ h => h) (by rfl) (fun w hSw => ?XL) hS ?gr18k5
      case XL =>
       (try dsimp only at hSw)
       go_simp
       try with_reducible rfl
      try simp only [Act.put, aj, aq, au]
      refine ag.take (i := 19) (v := ?gv19k5) rfl (by kernel_rfl) (fun _ _ _ h => h) (by rfl) (fun w hSw => ?XM) hS ?gr19k5
      case XM =>
       (try dsimp only at hSw)
       go_simp
       try with_reducible rfl
      try simp only [Act.put, aj, aq, au]
      refine ag.take (i := 20) (v := ?gv20k5) rfl (by kernel_rfl) (fun _ _ _ h => h) (by rfl) (fun w hSw => ?XN) hS ?gr20k5
      case XN =>
       (try dsimp only at hSw)
       go_simp
       try with_reducible rfl
      try simp only [Act.put, aj, aq, au]
      refine ag.take (i := 21) (v := ?gv21k5) rfl (by kernel_rfl) (fun _ _ _ h => h) (by rfl) (fun w hSw => ?XO) hS ?gr21k5
      case XO =>
       (try dsimp only at hSw)
       go_simp
       try with_reducible rfl
      try simp only [Act.put, aj, aq, au]
      refine ag.take (i := 22) (v := .slice (RQ ap acc.length ac) 0 (ac - acc.length)) rfl (by kernel_rfl) (fun _ _ _ h => h) (by rfl) (fun w hSw => ?gy22b) hS ?gr22b
      case gy22b =>
       (try dsimp only at hSw)
       go_simp
       try (unfold RQ; simp)
      try simp only [Act.put, aj, aq, au]
      refine ag.step (i := 15) rfl (by kernel_rfl) (fun K' hK => ?_)
      go_simp
      refine (HOC.out _ ((gR.out.trans HZ.out).trans (eN wz))).mono ?_
      rintro e w3 ⟨bR, u, rfl, hr3⟩
      have bR : Up wz.drew w3 := bR
      obtain ⟨ub, rfl⟩ := yK hr3
      rw [hoc] at hr3
      have cR := aa ((eN wz).trans bR)
      have XA := aa hr3
      have cG := aa (Up.alloc w3 (.cells #[.pointer (some ⟨ub, 0, none⟩)] 184))
      have BK := aa (OO kI.out wA.out)
      have XB : Hid ((w3.alloc (.cells #[.pointer (some ⟨ub, 0, none⟩)] 184)).cell? ⟨w3.heap.size, 0, none⟩ = some (.pointer (some ⟨ub, 0, none⟩))) := gG _ _ _
      have Kn := aa (Gk D1.out)
      have sS : Hid (rL.length = acc.length ∧ acc.length ≤ 90000) := ⟨wA.out, hal2⟩
      clear bR hr3
      refine hK.out _ _ (fun _ => jU.out _ cR.out) (fun hS => ?_)
      replace hS := hS ⟨16, by decide, rfl⟩
      try simp only [aj, aq, au]
      refine ag.step (i := 16) rfl (by kernel_rfl) (fun K' hK => ?_)
      go_simp
      refine hK.out _ _ (fun _ => jU.out _ (cR.out.trans cG.out)) (fun hS => ?_)
      replace hS := hS ⟨23, by decide, rfl⟩
      try simp only [aj, aq, au]
      refine ag.step (i := 23) rfl (by kernel_rfl) (fun K' hK => ?_)
      refine OG (by rfl) _ _ _ (by rfl) 184 _ 8 Tryz.underlying236 Tryz.xG (ao := some ⟨w3.heap.size, 0, none⟩) (n := 1) (c := 1) (by rfl) (Nat.le_refl _) (ad := RQ ap acc.length ac) (c2 := ac - acc.length) (by rfl) ?_
      refine hK.out _ _ (fun _ => jU.out _ (cR.out.trans cG.out)) (fun hS => ?_)
      replace hS := hS ⟨24, by decide, rfl⟩
      try simp only [Act.put, aj, aq, au]
      refine ag.step (i := 24) rfl (by kernel_rfl) (fun K' hK => ?_)
      refine xL (by rfl) _ _ _ (by rfl) 184 _ 8 Tryz.underlying236 Tryz.xG (by rfl) (by decide) (ao := ap) (n := acc.length) (olds := rL) (by rfl) (all_none kI.out) sS.out.1 ?p1 (ad := ⟨w3.heap.size, 0, none⟩) (m := 1) (c := 1) (news := [.pointer (some ⟨ub, 0, none⟩)]) (by rfl) rfl ?p2 ?p4 (by omega) (by have := sS.out.2; omega) ?p3
      case p1 => exact fun b e i q hq => cG.out.cell (cR.out.cell (HZ.out.cell (BK.out b e i q hq)))
      case p2 =>
       intro i q hq
       cases i with
       | zero =>
        simp at hq
        subst hq
        have e0 : (⟨w3.heap.size, 0, none⟩ : Addr).add 0 = ⟨w3.heap.size, 0, none⟩ := by simp [Addr.add]
        rw [e0]; exact XB.out
       | succ i => simp at hq
      case p4 =>
       intro q hq
       obtain rfl : q = .pointer (some ⟨ub, 0, none⟩) := by simpa using hq
       rfl
      intro g2 c2 w5 uE fh
      have BL := (HZ.out.trans (cR.out.trans cG.out)).trans fh
      have OS : RAt (fun b => wo.heap.size ≤ b ∧ b < w3.heap.size) w5 oc (.pointer (some ⟨ub, 0, none⟩)) := RAt.keep ((cG.out.trans fh).kept _) oc (RAt.sub (fun b hb hl => ⟨Nat.le_trans HZ.out.size hb, hl⟩) oc XA.out)
      have hs3 := cG.out.size
      have hsw := (HZ.out.trans cR.out).size
      have hBl := Km.out.lt
      have RZ := aa (Km.out.lay D1.out BL hsw (fun b hb => by have := (ax uE hb).1; omega) OS acc.length (by rw [List.take_of_length_le (by rw [sS.out.1]; exact Nat.le_refl _), List.drop_of_length_le (by rw [sS.out.1]; exact Nat.le_refl _)]; exact uE.mJ (by omega)))
      have uF : Hid (oG s oc acc = acc.take acc.length ++ oc :: acc.drop acc.length) := by unfold Hid oG; rw [RU.out]
      have hcw := (Km.out.up BL).cells
      have hyf := hcw.2.2.2
      have hyc5 := hcw.2.1
      have gH := aa ((cR.out.trans cG.out).trans fh)
      have XC : Hid (Up w (w5.setCell ⟨w.heap.size, 1, none⟩ (.slice (some ⟨g2, 0, none⟩) (acc.length + 1) c2))) := Below.setCell (p := ⟨w.heap.size, 1, none⟩) (gR.out.trans BL) (Nat.le_refl _) _
      clear uE fh BL OS hs3 hsw hcw
      refine hK.out _ _ (fun _ => jU.out _ gH.out) (fun hS => ?_)
      replace hS := hS ⟨27, by decide, rfl⟩
      try simp only [Act.put, aj, aq, au]
      refine ag.take (i := 25) (v := ?gv25k6) rfl (by kernel_rfl) (fun _ _ _ h => h) (by rfl) (fun w hSw => ?XP) hS ?gr25k6
      case XP =>
       (try dsimp only at hSw)
       go_simp
       try with_reducible rfl
      try simp only [Act.put, aj, aq, au]
      refine ag.take (i := 26) (v := ?gv26k6) rfl (by kernel_rfl) (fun _ _ _ h => h) (by rfl) (fun w hSw => ?XQ) hS ?gr26k6
      case XQ =>
       (try dsimp only at hSw)
       go_simp
       try with_reducible rfl
      try simp only [Act.put, aj, aq, au]
      refine ag.step (i := 27) rfl (by kernel_rfl) (fun K' hK => ?_)
      go_simp
      refine hK.out _ _ (aP (by kernel_rfl)) (fun hS => ?_)
      refine ag.done (by kernel_rfl) ?_
      go_wp2_with fail
      go_roundw
      case rel => exact ⟨j + 1, _, aM.out, by go_num, by rw [HT.out, uF.out]; exact RZ.out, XC.out⟩
      case measure => have := aM.out; simp [intOf]; omega
   ·obtain rfl : j = ks.length := by omega
    have HD := aa hW.out.done
    have HUF := aa bL.out
    clear hW bL hlt hj
    go_wp2_with fail
    go_ret
    refine ⟨HUF.out, _, rfl, ?_⟩
    have h := HD.out
    rw [List.take_length] at h
    rw [ordR]; exact h
end Go.Proofs.YtpnmblnahjjmhaaGreat
