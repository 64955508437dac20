/- The contract of layer 31's reference's ordered. -/
import Derived.Test.YteegefnjnikngaaGreatQ1
import Derived.Test.YteegefnjnikngaaGreatQ22
set_option maxRecDepth 100000
namespace Go.Proofs.YteegefnjnikngaaGreat
open Go.RowKit Go.Deep
def posK (s : ByteArray) : List RT → Nat
 | [] => 0
 | b :: l => if uH (lstR b) s = true then posK s l + 1 else 0
theorem zQ {s : ByteArray} : ∀ {l : List RT} {k : Nat}, k ≤ l.length → (∀ j, j < k → uH (lstR (gr l j)) s = true) → (k < l.length → uH (lstR (gr l k)) s = false) → posK s l = k
 | [], k, hk, _, _ => by
  obtain rfl : k = 0 := by simpa using hk
  rfl
 | b :: l, 0, _, _, h => by
  have h1 : uH (lstR b) s = false := h (by simp)
  rw [posK, if_neg (by rw [h1]; simp)]
 | b :: l, k + 1, hk, h0, h => by
  have h1 : uH (lstR b) s = true := h0 0 (by omega)
  rw [posK, if_pos h1, zQ (l := l) (k := k) (by simpa using hk) (fun j hj => h0 (j + 1) (by omega)) (fun hl => h (by simpa using hl))]
def mz (s : ByteArray) (o : RT) (l : List RT) : List RT := l.take (posK s l) ++ (o :: l.drop (posK s l))
mutual
def ordR : RT → RT
 | .node nm ks => .node nm (dx [] ks)
def dx (acc : List RT) : List RT → List RT
 | [] => acc
 | c :: cs => dx (mz (lstR c) (ordR c) acc) cs
end
theorem Ny (s : ByteArray) (o : RT) (l : List RT) : (mz s o l).length = l.length + 1 := by
 unfold mz
 have : posK s l ≤ l.length := by
  induction l with
  | nil => exact Nat.le_refl _
  | cons b l ih =>
   rw [posK, List.length_cons]; split
   ·omega
   ·omega
 rw [List.length_append, List.length_take, List.length_cons, List.length_drop]; omega
theorem Bh (acc : List RT) : ∀ (a b : List RT), dx acc (a ++ b) = dx (dx acc a) b
 | [], _ => by rw [dx]; rfl
 | c :: a, b => by rw [List.cons_append, dx, dx]; exact Bh _ a b
theorem IE {ks : List RT} {i : Nat} (h : i < ks.length) : dx [] (ks.take (i + 1)) = mz (lstR (gr ks i)) (ordR (gr ks i)) (dx [] (ks.take i)) := by
 have hg : gr ks i = ks[i] := by simp [gr, h]
 rw [List.take_succ_eq_append_getElem h, Bh, dx, dx, hg]
theorem Bi : ∀ (ks acc : List RT), (dx acc ks).length = acc.length + ks.length
 | [], acc => by rw [dx]; simp
 | c :: ks, acc => by rw [dx, Bi ks, Ny, List.length_cons]; omega
theorem nU : ∀ (a b : List RT), sizeRs (a ++ b) = sizeRs a + sizeRs b
 | [], b => by rw [sizeRs]; simp
 | r :: a, b => by rw [List.cons_append, sizeRs, sizeRs, nU a b]; omega
theorem IG (s : ByteArray) (o : RT) (l : List RT) : sizeRs (mz s o l) = sizeRs l + aG o := by
 unfold mz
 rw [nU, sizeRs]
 have h := nU (l.take (posK s l)) (l.drop (posK s l))
 rw [List.take_append_drop] at h; omega
mutual
theorem Bj : ∀ r : RT, aG (ordR r) = aG r
 | .node nm ks => by rw [ordR, aG, aG, sM ks []]; simp [sizeRs]
theorem sM : ∀ (ks acc : List RT), sizeRs (dx acc ks) = sizeRs acc + sizeRs ks
 | [], acc => by rw [dx, sizeRs]; rfl
 | c :: ks, acc => by rw [dx, sM ks, IG, Bj c, sizeRs]; omega
end
theorem FN (ks : List RT) (i : Nat) : sizeRs (ks.take i) ≤ sizeRs ks := by
 have h := nU (ks.take i) (ks.drop i)
 rw [List.take_append_drop] at h; omega
theorem II {S : Nat → Prop} {w : World} {b off n cap k : Nat} {vs : List Value} (h : aA S w (.slice (some ⟨b, off, none⟩) n cap) n (vN vs)) (hl : vs.length = n) (_ : k < n) (i : Nat) (q : Value) (hq : (vs.drop k)[i]? = some q) : w.cell? ((⟨b, off + k, none⟩ : Addr).add i) = some q := by
 rw [List.getElem?_drop] at hq
 have hki : k + i < n := by rw [← hl]; exact (List.getElem?_eq_some_iff.1 hq).1
 obtain ⟨b', o', e, hc⟩ := lG h hki
 injection e with e
 injection e with e1 e2
 subst e1; subst e2
 have hv : vN vs (k + i) = q := by unfold vN; rw [List.getD_eq_getElem?_getD, hq]; rfl
 rw [hv] at hc
 rw [Addr.add_lit, show off + k + i = off + (k + i) by omega]; exact hc
theorem IJ {S : Nat → Prop} {w : World} {b off n cap k : Nat} {vs : List Value} (h : aA S w (.slice (some ⟨b, off, none⟩) n cap) n (vN vs)) (hl : vs.length = n) (_ : k ≤ n) (i : Nat) (q : Value) (hq : (vs.take k)[i]? = some q) : w.cell? ((⟨b, off, none⟩ : Addr).add i) = some q := by
 rw [List.getElem?_take] at hq
 split at hq
 ·have hki : i < n := by rw [← hl]; exact (List.getElem?_eq_some_iff.1 hq).1
  obtain ⟨b', o', e, hc⟩ := lG h hki
  injection e with e
  injection e with e1 e2
  subst e1; subst e2
  have hv : vN vs i = q := by unfold vN; rw [List.getD_eq_getElem?_getD, hq]; rfl
  rw [hv] at hc
  rw [Addr.add_lit]; exact hc
 ·cases hq
theorem DT {S : Nat → Prop} {w : World} : ∀ {rs : List RT} {vs : List Value}, RsAt S w rs vs → ∀ u ∈ vs, u.oneCell' = true
 | [], vs, h, u, hu => by unfold RsAt at h; subst h; cases hu
 | r :: rs, vs, h, u, hu => by
  unfold RsAt at h
  obtain ⟨x, us, rfl, h1, h2⟩ := h
  rcases List.mem_cons.1 hu with rfl | hu
  ·obtain ⟨b, rfl⟩ := mq h1; rfl
  ·exact DT h2 u hu
theorem quiet_of {P : Program} {f : FuncId} {args : Array Value} {w : World} {m n : Nat} {v : Value} (h : Calls P f args (w.drewN (m + n)) fun e w' => e = .returned v ∧ w.drewN (m + n) = w') : Calls P f args (w.drewN (m + n)) fun e w'' => e = .returned v ∧ ∃ q, w'' = w.drewN (m + q) :=
 h.mono fun _ _ ⟨h1, h2⟩ => ⟨h1, n, h2.symm⟩
def KZ (w : World) (r : RT) (e : Ending) (w' : World) : Prop := Up w w' ∧ ∃ u, e = .returned u ∧ RAt (fun b => w.heap.size ≤ b) w' (ordR r) u
set_option maxHeartbeats 4000000 in
theorem K0 (S : Nat → Prop) : ∀ (d : Nat) (r : RT), aG r ≤ d → d ≤ 90000 → ∀ (w : World) (v : Value), RAt S w r v → Calls Tryz.prog 212 #[v] w (KZ w r) := by
 intro d
 induction d with
 | zero => intro r hr; have := jl r; omega
 | succ d ih =>
 intro r hr hd w v hv
 cases r with
 | node nm ks =>
  have hv0 := hv
  obtain ⟨xb, kp, kc, vs, rfl, hS, c0, c1, hk, hs⟩ := hv.open
  simp only [RT.nm, RT.kids] at c0 c1 hk hs
  have eF := lH ks
  rw [aG] at hr
  have aZ := Up.alloc w (.cells #[.string nm, .slice none 0 0] 261)
  have HW0 := aa (jb.start w (Nat.le_refl _) nm)
  have iu := aa c1
  have HK := aa hk
  have HR := aa hs
  have ir : Hid (∀ j, j < ks.length → ∀ W, Up w W → Calls Tryz.prog 212 #[vN vs j] W (KZ W (gr ks j))) := fun j hj W hW => by
   have h1 := od hj
   exact ih (gr ks j) (by omega) (by omega) W _ (RAt.keep (hW.kept S) _ (RsAt.get ks hs j hj))
  have HLX : Hid (∀ j, j < ks.length → ∀ W, Up w W → Calls Tryz.prog 261 #[vN vs j] W fun e w' => e = .returned (.string (lstR (gr ks j))) ∧ W = w') := fun j hj W hW => by
   have h1 := od hj
   exact DI S (aG (gr ks j)) _ (Nat.le_refl _) (by omega) W _ (RAt.keep (hW.kept S) _ (RsAt.get ks hs j hj))
  have HU := aa aZ
  have fT : Hid (ks.length ≤ 90000) := by unfold Hid; omega
  have TI : Hid (sizeRs ks ≤ 90000) := by unfold Hid; omega
  clear ih hv hv0 aZ hk hs hr eF hS
  go_enter Tryz.func212, Tryz.ntmps212
  go_wp2_with fail
  clear c0 c1
  go_loopw [4, 5] (fun i _ wr => ∃ (j : Nat) (kv : Value), j ≤ ks.length ∧ i = .int .i64 j ∧ Hid (jb w.heap.size w.heap.size wr nm kv (dx [] (ks.take j))) ∧ Hid (Up w wr)) (fun i _ _ => ks.length - (intOf i).toNat)
  case atStart => exact ⟨0, _, Nat.zero_le _, rfl, by rw [List.take_zero, dx]; exact HW0.out, HU.out⟩
  case round =>
   obtain ⟨j, kv, hj, rfl, hW, en⟩ := hrel
   obtain ⟨wo, rfl⟩ : ∃ wo : World, wo = wr := ⟨_, rfl⟩
   have x1 := en.out.cell iu.out
   by_cases hlt : j < ks.length
   ·obtain ⟨acc, hacc⟩ : ∃ acc, acc = dx [] (ks.take j) := ⟨_, rfl⟩
    have HT : Hid (dx [] (ks.take (j + 1)) = mz (lstR (gr ks j)) (ordR (gr ks j)) acc) := by rw [hacc]; exact IE hlt
    have hal2 : acc.length ≤ 90000 := by
     rw [hacc, Bi, List.length_take]; have := fT.out; simp; omega
    have rH : sizeRs acc ≤ 90000 := by
     rw [hacc, sM]; have := FN ks j; have := TI.out; simp [sizeRs]; omega
    rw [← hacc] at hW
    obtain ⟨oZ, ho, yN⟩ := hW.out.kids
    have hcw := hW.out.cells
    have hlen := RsAt.len acc yN
    have fu := ho.xk
    rw [hlen] at fu
    obtain ⟨ap, ac, rfl, hac, _⟩ := aA.open fu
    have hy1 := hcw.2.1
    obtain ⟨kb, ko, rfl, hkc⟩ := lG (HK.out.keep (en.out.kept _)) hlt
    have uK : Hid (∀ k, k < acc.length → ∀ W, Up wo W → Calls Tryz.prog 261 #[vN oZ k] W fun e w' => e = .returned (.string (lstR (gr acc k))) ∧ W = w') := fun k hk W TJ => by
     have h1 := od hk
     exact DI _ (aG (gr acc k)) _ (Nat.le_refl _) (by omega) W _ (RAt.keep (TJ.kept _) _ (RsAt.get acc yN k hk))
    have yR : Hid (∀ W, Up wo W → Calls Tryz.prog 261 #[vN vs j] W fun e w' => e = .returned (.string (lstR (gr ks j))) ∧ W = w') := fun W TJ => HLX.out j hlt W (en.out.trans TJ)
    have Zl := aa (ir.out j hlt)
    have Zm := aa hy1
    have jc := aa x1
    have S4 := aa hkc
    have fS := aa fu
    have Gy := aa hW.out
    have jU := aa en.out
    have aQ := aa hlt
    have PE := aa yN
    have PF := aa ho
    have Bk := aa hlen
    have i1 : (0 : Int) ≤ (j : Int) := by omega
    have i2 : (j : Int) < (ks.length : Int) := by omega
    have i3 : (j : Int) < 90000 := by have := fT.out; omega
    clear hacc rH yN ho hcw hlen fu hW en hlt hj
    generalize vN vs j = xv at *
    generalize hs : lstR (gr ks j) = s at *
    generalize Zn : ordR (gr ks j) = oc at *
    go_wp2_with fail
    go_loopw [5] (fun q wr => ∃ k m : Nat, k ≤ acc.length ∧ q = .int .i64 k ∧ wr = wo.drewN m ∧ Hid (∀ i, i < k → uH (lstR (gr acc i)) s = true)) (fun q _ => acc.length - (intOf q).toNat)
    case atStart => exact ⟨0, 0, Nat.zero_le _, rfl, rfl, fun i hi => absurd hi (Nat.not_lt_zero _)⟩
    case round =>
     obtain ⟨k, m, hk, rfl, rfl, hlo⟩ := hrel
     by_cases TK : k < acc.length
     ·obtain ⟨yb, yo, rfl, hyc⟩ := lG fS.out TK
      have Zo := aa (fun n => quiet_of (m := m) (n := n) (uK.out k TK _ (Up.drewN wo _)))
      have Gz := aa (fun n => quiet_of (m := m) (n := n) (yR.out _ (Up.drewN wo _)))
      have k1 : (0 : Int) ≤ (k : Int) := by omega
      have k2 : (k : Int) < (acc.length : Int) := by omega
      have k3 : (k : Int) < 90000 := by omega
      have dk : decide ((k : Int) < (acc.length : Int)) = true := by simp; omega
      have dn : decide (k < acc.length) = true := by simp; omega
      have uL := aa TK
      generalize vN oZ k = yv at *
      cases hls : uH (lstR (gr acc k)) s
      ·have hbl : Op.bytesLess (lstR (gr acc k)).toList s.toList = false := hls
       have Km := aa hls
       clear hls hk
       generalize hs1 : lstR (gr acc k) = s1 at *
       go_wp2_with fail
       go_big_quiet (first | with_reducible exact Zo.out _ | with_reducible exact Gz.out _)
       go_wp2_with fail
       have HZ : Hid (Up wo ((wo.drewN m).drewN nq)) := (Up.drewN _ _).trans (Up.drewN _ _)
       have Nz : Hid (posK s acc = k) := zQ (by have := uL.out; omega) hlo.out (fun _ => by rw [hs1]; exact Km.out)
       have hkle : k ≤ acc.length := Nat.le_of_lt uL.out
       generalize (wo.drewN m).drewN nq = wz at *
       have NA := HZ.out.cell Zm.out
       have NB := HZ.out.cell jc.out
       have NC := HZ.out.cell S4.out
       have g1 : (0 : Int) ≤ (k : Int) := by omega
       have g2 : (k : Int) ≤ (acc.length : Int) := by omega
       have g3 : (k : Int) ≤ (ac : Int) := by omega
       have lW : Hid (∀ W, Up wz W → W.cell? ⟨w.heap.size, 1, none⟩ = some (.slice (some ⟨yb, yo, none⟩) acc.length ac) ∧ W.cell? ⟨xb, 1, none⟩ = some (.slice (some ⟨kb, ko, none⟩) ks.length kc) ∧ W.cell? ⟨kb, ko + j, none⟩ = some xv) := fun W hW => ⟨hW.cell NA, hW.cell NB, hW.cell NC⟩
       refine cZ (by kernel_rfl) 28 (fun w' => w'.cell? ⟨w.heap.size, 1, none⟩ = some (.slice (some ⟨yb, yo, none⟩) acc.length ac) ∧ w'.cell? ⟨xb, 1, none⟩ = some (.slice (some ⟨kb, ko, none⟩) ks.length kc) ∧ w'.cell? ⟨kb, ko + j, none⟩ = some xv) (lW.out _ (jB wz)) (fun hS => ?_)
       simp only [List.size_toArray, List.length_cons, List.length_nil, Nat.reduceAdd, Array.replicate_succ, Array.replicate_zero, List.push_toArray, List.nil_append, List.cons_append]
       refine af.take (i := 0) (v := ?sH) rfl (by kernel_rfl) (fun _ _ _ h => h) (by rfl) (fun w hSw => ?iD) hS ?sI
       case iD =>
        (try dsimp only at hSw)
        go_simp
        try with_reducible rfl
       try simp only [Act.put, ah, aj, aq]
       refine af.take (i := 1) (v := ?sJ) rfl (by kernel_rfl) (fun _ _ _ h => h) (by rfl) (fun w hSw => ?iE) hS ?sK
       case iE =>
        (try dsimp only at hSw)
        go_simp
        try with_reducible rfl
       try simp only [Act.put, ah, aj, aq]
       refine af.take (i := 2) (v := ?vE) rfl (by kernel_rfl) (fun _ _ _ h => h) (by rfl) (fun w hSw => ?jC) hS ?vF
       case jC =>
        (try dsimp only at hSw)
        go_simp
        try with_reducible rfl
       try simp only [Act.put, ah, aj, aq]
       refine af.take (i := 3) (v := ?vG) rfl (by kernel_rfl) (fun _ _ _ h => h) (by rfl) (fun w hSw => ?jD) hS ?vH
       case jD =>
        (try dsimp only at hSw)
        go_simp
        try with_reducible rfl
       try simp only [Act.put, ah, aj, aq]
       refine af.take (i := 4) (v := ?vI) rfl (by kernel_rfl) (fun _ _ _ h => h) (by rfl) (fun w hSw => ?jE) hS ?vJ
       case jE =>
        (try dsimp only at hSw)
        go_simp
        try with_reducible rfl
       try simp only [Act.put, ah, aj, aq]
       refine af.take (i := 5) (v := ?vK) rfl (by kernel_rfl) (fun _ _ _ h => h) (by rfl) (fun w hSw => ?jF) hS ?vL
       case jF =>
        (try dsimp only at hSw)
        go_simp
        try with_reducible rfl
       try simp only [Act.put, ah, aj, aq]
       refine af.take (i := 6) (v := ?yO) rfl (by kernel_rfl) (fun _ _ _ h => h) (by rfl) (fun w hSw => ?lK) hS ?yP
       case lK =>
        (try dsimp only at hSw)
        go_simp
        try with_reducible rfl
       try simp only [Act.put, ah, aj, aq]
       refine af.take (i := 7) (v := .slice (some ⟨yb, yo, none⟩) k k) rfl (by kernel_rfl) (fun _ _ _ h => h) (by rfl) (fun w hSw => ?gy7a) hS ?gr7a
       case gy7a =>
        (try dsimp only at hSw)
        go_simp
       try simp only [Act.put, ah, aj, aq]
       refine af.take (i := 8) (v := ?gv8k2) rfl (by kernel_rfl) (fun _ _ _ h => h) (by rfl) (fun w hSw => ?WW) hS ?gr8k2
       case WW =>
        (try dsimp only at hSw)
        go_simp
        try with_reducible rfl
       try simp only [Act.put, ah, aj, aq]
       refine af.take (i := 9) (v := ?gv9k2) rfl (by kernel_rfl) (fun _ _ _ h => h) (by rfl) (fun w hSw => ?WX) hS ?gr9k2
       case WX =>
        (try dsimp only at hSw)
        go_simp
        try with_reducible rfl
       try simp only [Act.put, ah, aj, aq]
       refine af.take (i := 10) (v := ?gv10k2) rfl (by kernel_rfl) (fun _ _ _ h => h) (by rfl) (fun w hSw => ?TM) hS ?gr10k2
       case TM =>
        (try dsimp only at hSw)
        go_simp
        try with_reducible rfl
       try simp only [Act.put, ah, aj, aq]
       refine af.take (i := 11) (v := ?gv11k2) rfl (by kernel_rfl) (fun _ _ _ h => h) (by rfl) (fun w hSw => ?TN) hS ?gr11k2
       case TN =>
        (try dsimp only at hSw)
        go_simp
        try with_reducible rfl
       try simp only [Act.put, ah, aj, aq]
       refine af.take (i := 12) (v := ?gv12k2) rfl (by kernel_rfl) (fun _ _ _ h => h) (by rfl) (fun w hSw => ?TP) hS ?gr12k2
       case TP =>
        (try dsimp only at hSw)
        go_simp
        try with_reducible rfl
       try simp only [Act.put, ah, aj, aq]
       refine af.take (i := 13) (v := ?gv13k2) rfl (by kernel_rfl) (fun _ _ _ h => h) (by rfl) (fun w hSw => ?TQ) hS ?gr13k2
       case TQ =>
        (try dsimp only at hSw)
        go_simp
        try with_reducible rfl
       try simp only [Act.put, ah, aj, aq]
       refine af.take (i := 14) (v := ?gv14k2) rfl (by kernel_rfl) (fun _ _ _ h => h) (by rfl) (fun w hSw => ?TR) hS ?gr14k2
       case TR =>
        (try dsimp only at hSw)
        go_simp
        try with_reducible rfl
       try simp only [Act.put, ah, aj, aq]
       refine af.take (i := 17) (v := ?gv17k2) rfl (by kernel_rfl) (fun _ _ _ h => h) (by rfl) (fun w hSw => ?TS) hS ?gr17k2
       case TS =>
        (try dsimp only at hSw)
        go_simp
        try with_reducible rfl
       try simp only [Act.put, ah, aj, aq]
       refine af.take (i := 18) (v := ?gv18k2) rfl (by kernel_rfl) (fun _ _ _ h => h) (by rfl) (fun w hSw => ?TT) hS ?gr18k2
       case TT =>
        (try dsimp only at hSw)
        go_simp
        try with_reducible rfl
       try simp only [Act.put, ah, aj, aq]
       refine af.take (i := 19) (v := ?gv19k2) rfl (by kernel_rfl) (fun _ _ _ h => h) (by rfl) (fun w hSw => ?TU) hS ?gr19k2
       case TU =>
        (try dsimp only at hSw)
        go_simp
        try with_reducible rfl
       try simp only [Act.put, ah, aj, aq]
       refine af.take (i := 20) (v := ?gv20k2) rfl (by kernel_rfl) (fun _ _ _ h => h) (by rfl) (fun w hSw => ?TV) hS ?gr20k2
       case TV =>
        (try dsimp only at hSw)
        go_simp
        try with_reducible rfl
       try simp only [Act.put, ah, aj, aq]
       refine af.take (i := 21) (v := ?gv21k2) rfl (by kernel_rfl) (fun _ _ _ h => h) (by rfl) (fun w hSw => ?TW) hS ?gr21k2
       case TW =>
        (try dsimp only at hSw)
        go_simp
        try with_reducible rfl
       try simp only [Act.put, ah, aj, aq]
       refine af.take (i := 22) (v := .slice (some ⟨yb, yo + k, none⟩) (acc.length - k) (ac - k)) rfl (by kernel_rfl) (fun _ _ _ h => h) (by rfl) (fun w hSw => ?WY) hS ?gr22a
       case WY =>
        (try dsimp only at hSw)
        go_simp
        intro e; have := uL.out; omega
       try simp only [Act.put, ah, aj, aq]
       refine af.step (i := 15) rfl (by kernel_rfl) (fun K' hK => ?_)
       go_simp
       refine (Zl.out _ ((jU.out.trans HZ.out).trans (jB wz))).mono ?_
       rintro e w3 ⟨b9, u, rfl, hr3⟩
       have b9 : Up wz.drew w3 := b9
       obtain ⟨ub, rfl⟩ := mq hr3
       rw [Zn] at hr3
       have dL := aa ((jB wz).trans b9)
       have TX := aa hr3
       have lX := aa (Up.alloc w3 (.cells #[.pointer (some ⟨ub, 0, none⟩)] 214))
       have hdc := II fS.out Bk.out uL.out
       have HDC := aa fun i q hq => lX.out.cell (dL.out.cell (HZ.out.cell (hdc i q hq)))
       have TY := aa (IJ fS.out Bk.out hkle)
       have TZ : Hid ((w3.alloc (.cells #[.pointer (some ⟨ub, 0, none⟩)] 214)).cell? ⟨w3.heap.size, 0, none⟩ = some (.pointer (some ⟨ub, 0, none⟩))) := uh _ _ _
       have o5 := aa (DT PE.out)
       have rI : Hid (0 < acc.length - k ∧ (oZ.drop k).length = acc.length - k ∧ (oZ.take k).length = k ∧ acc.length ≤ 90000) := by
        have := uL.out; have := Bk.out; unfold Hid; rw [List.length_drop, List.length_take]; omega
       clear b9 hr3 hdc
       refine hK.out _ _ (fun _ => lW.out _ dL.out) (fun hS => ?_)
       replace hS := hS ⟨16, by decide, rfl⟩
       try simp only [ah, aj, aq]
       refine af.step (i := 16) rfl (by kernel_rfl) (fun K' hK => ?_)
       go_simp
       refine hK.out _ _ (fun _ => lW.out _ (dL.out.trans lX.out)) (fun hS => ?_)
       replace hS := hS ⟨23, by decide, rfl⟩
       try simp only [ah, aj, aq]
       refine af.step (i := 23) rfl (by kernel_rfl) (fun K' hK => ?_)
       refine uJ (by rfl) _ _ _ (by rfl) 214 _ 8 Tryz.underlying259 Tryz.mR (by rfl) (by decide) (ao := some ⟨w3.heap.size, 0, none⟩) (n := 1) (olds := [.pointer (some ⟨ub, 0, none⟩)]) (by rfl) (fun e => by cases e) rfl ?q1 (ad := ⟨yb, yo + k, none⟩) (m := acc.length - k) (c := ac - k) (news := oZ.drop k) (by rfl) rI.out.2.1 (fun i q hq => HDC.out i q hq) ?q2 rI.out.1 (by have := rI.out.2.2.2; omega) ?q3
       case q1 =>
        intro b e i q hq
        injection e with e
        subst e
        cases i with
        | zero =>
         simp at hq
         subst hq
         have e0 : (⟨w3.heap.size, 0, none⟩ : Addr).add 0 = ⟨w3.heap.size, 0, none⟩ := by simp [Addr.add]
         rw [e0]; exact TZ.out
        | succ i => simp at hq
       case q2 => exact fun q hq => o5.out q (List.mem_of_mem_drop hq)
       intro g1 c1 w4 Ky b6
       have jV := aa (dL.out.trans (lX.out.trans b6))
       have HOC4 := aa (World.ownsRow.cells Ky rfl)
       have Zp := aa (lX.out.trans b6)
       clear Ky b6
       refine hK.out _ _ (fun _ => lW.out _ jV.out) (fun hS => ?_)
       replace hS := hS ⟨24, by decide, rfl⟩
       try simp only [Act.put, ah, aj, aq]
       refine af.step (i := 24) rfl (by kernel_rfl) (fun K' hK => ?_)
       refine uJ (by rfl) _ _ _ (by rfl) 214 _ 8 Tryz.underlying259 Tryz.mR (by rfl) (by decide) (ao := some ⟨yb, yo, none⟩) (n := k) (olds := oZ.take k) (by rfl) (fun e => by cases e) rI.out.2.2.1 ?r1 (ad := ⟨g1, 0, none⟩) (m := 1 + (acc.length - k)) (c := c1) (news := [.pointer (some ⟨ub, 0, none⟩)] ++ oZ.drop k) (by rfl) (by rw [List.length_append, rI.out.2.1]; rfl) (fun i q hq => HOC4.out i q hq) ?r2 (by omega) (by have := rI.out.2.2.2; omega) ?r3
       case r1 =>
        intro b e i q hq
        injection e with e
        subst e
        exact jV.out.cell (HZ.out.cell (TY.out i q hq))
       case r2 =>
        intro q hq
        rcases List.mem_append.1 hq with h1 | h1
        ·obtain rfl : q = .pointer (some ⟨ub, 0, none⟩) := by simpa using h1
         rfl
        ·exact o5.out q (List.mem_of_mem_drop h1)
       intro g2 c2 w5 wR iN
       have yS := (HZ.out.trans jV.out).trans iN
       have Bl : RAt (fun b => wo.heap.size ≤ b ∧ b < w3.heap.size) w5 oc (.pointer (some ⟨ub, 0, none⟩)) := RAt.keep ((Zp.out.trans iN).kept _) oc (RAt.sub (fun b hb hl => ⟨Nat.le_trans HZ.out.size hb, hl⟩) oc TX.out)
       have hs3 := Zp.out.size
       have hsw := (HZ.out.trans dL.out).size
       have hBl := Gy.out.lt
       have ND := aa (Gy.out.lay PE.out yS hsw (fun b hb => by have := (aD wR hb).1; omega) Bl k (wR.uk (by omega)))
       have rJ : Hid (mz s oc acc = acc.take k ++ oc :: acc.drop k) := by unfold Hid mz; rw [Nz.out]
       have hcw := (Gy.out.up yS).cells
       have hyf := hcw.2.2.2
       have hyc5 := hcw.2.1
       have jq := aa (jV.out.trans iN)
       have K1 : Hid (Up w (w5.setCell ⟨w.heap.size, 1, none⟩ (.slice (some ⟨g2, 0, none⟩) (k + (1 + (acc.length - k))) c2))) := Below.setCell (p := ⟨w.heap.size, 1, none⟩) (jU.out.trans yS) (Nat.le_refl _) _
       clear wR iN yS Bl hs3 hsw hcw
       refine hK.out _ _ (fun _ => lW.out _ jq.out) (fun hS => ?_)
       replace hS := hS ⟨27, by decide, rfl⟩
       try simp only [Act.put, ah, aj, aq]
       refine af.take (i := 25) (v := ?gv25k3) rfl (by kernel_rfl) (fun _ _ _ h => h) (by rfl) (fun w hSw => ?T3) hS ?gr25k3
       case T3 =>
        (try dsimp only at hSw)
        go_simp
        try with_reducible rfl
       try simp only [Act.put, ah, aj, aq]
       refine af.take (i := 26) (v := ?gv26k3) rfl (by kernel_rfl) (fun _ _ _ h => h) (by rfl) (fun w hSw => ?T4) hS ?gr26k3
       case T4 =>
        (try dsimp only at hSw)
        go_simp
        try with_reducible rfl
       try simp only [Act.put, ah, aj, aq]
       refine af.step (i := 27) rfl (by kernel_rfl) (fun K' hK => ?_)
       go_simp
       refine hK.out _ _ (aJ (by kernel_rfl)) (fun hS => ?_)
       refine af.done (by kernel_rfl) ?_
       go_wp2_with fail
       go_roundw
       case rel => exact ⟨j + 1, _, aQ.out, by go_num, by rw [HT.out, rJ.out]; exact ND.out, K1.out⟩
       case measure => have := aQ.out; simp [intOf]; omega
      ·have hbl : Op.bytesLess (lstR (gr acc k)).toList s.toList = true := hls
       have Km := aa hls
       clear hls hk
       generalize hs1 : lstR (gr acc k) = s1 at *
       go_wp2_with fail
       go_big_quiet (first | with_reducible exact Zo.out _ | with_reducible exact Gz.out _)
       go_wp2_with fail
       go_roundw
       case rel => exact ⟨k + 1, m + nq, uL.out, by go_num, rfl, fun i hi => if e : i = k then by subst e; rw [hs1]; exact Km.out else hlo.out i (by omega)⟩
       case measure => have := uL.out; simp [intOf]; omega
     ·obtain rfl : k = acc.length := by omega
      have dk : decide ((acc.length : Int) < (acc.length : Int)) = false := by simp
      have dn : decide (acc.length < acc.length) = false := by simp
      go_wp2_with fail
      go_big_quiet (fail)
      go_wp2_with fail
      have HZ : Hid (Up wo ((wo.drewN m).drewN nq)) := (Up.drewN _ _).trans (Up.drewN _ _)
      have Nz : Hid (posK s acc = acc.length) := zQ (Nat.le_refl _) hlo.out (fun h => absurd h (Nat.lt_irrefl _))
      generalize (wo.drewN m).drewN nq = wz at *
      have NA := HZ.out.cell Zm.out
      have NB := HZ.out.cell jc.out
      have NC := HZ.out.cell S4.out
      have g1 : (0 : Int) ≤ (acc.length : Int) := by omega
      have g2 : (acc.length : Int) ≤ (acc.length : Int) := by omega
      have g3 : (acc.length : Int) ≤ (ac : Int) := by omega
      have lW : Hid (∀ W, Up wz W → W.cell? ⟨w.heap.size, 1, none⟩ = some (.slice ap acc.length ac) ∧ W.cell? ⟨xb, 1, none⟩ = some (.slice (some ⟨kb, ko, none⟩) ks.length kc) ∧ W.cell? ⟨kb, ko + j, none⟩ = some xv) := fun W hW => ⟨hW.cell NA, hW.cell NB, hW.cell NC⟩
      refine cZ (by kernel_rfl) 28 (fun w' => w'.cell? ⟨w.heap.size, 1, none⟩ = some (.slice ap acc.length ac) ∧ w'.cell? ⟨xb, 1, none⟩ = some (.slice (some ⟨kb, ko, none⟩) ks.length kc) ∧ w'.cell? ⟨kb, ko + j, none⟩ = some xv) (lW.out _ (jB wz)) (fun hS => ?_)
      simp only [List.size_toArray, List.length_cons, List.length_nil, Nat.reduceAdd, Array.replicate_succ, Array.replicate_zero, List.push_toArray, List.nil_append, List.cons_append]
      refine af.take (i := 0) (v := ?gv0k4) rfl (by kernel_rfl) (fun _ _ _ h => h) (by rfl) (fun w hSw => ?WZ) hS ?gr0k4
      case WZ =>
       (try dsimp only at hSw)
       go_simp
       try with_reducible rfl
      try simp only [Act.put, ah, aj, aq]
      refine af.take (i := 1) (v := ?gv1k4) rfl (by kernel_rfl) (fun _ _ _ h => h) (by rfl) (fun w hSw => ?W4) hS ?gr1k4
      case W4 =>
       (try dsimp only at hSw)
       go_simp
       try with_reducible rfl
      try simp only [Act.put, ah, aj, aq]
      refine af.take (i := 2) (v := ?gv2k4) rfl (by kernel_rfl) (fun _ _ _ h => h) (by rfl) (fun w hSw => ?W5) hS ?gr2k4
      case W5 =>
       (try dsimp only at hSw)
       go_simp
       try with_reducible rfl
      try simp only [Act.put, ah, aj, aq]
      refine af.take (i := 3) (v := ?gv3k4) rfl (by kernel_rfl) (fun _ _ _ h => h) (by rfl) (fun w hSw => ?W6) hS ?gr3k4
      case W6 =>
       (try dsimp only at hSw)
       go_simp
       try with_reducible rfl
      try simp only [Act.put, ah, aj, aq]
      refine af.take (i := 4) (v := ?gv4k4) rfl (by kernel_rfl) (fun _ _ _ h => h) (by rfl) (fun w hSw => ?W8) hS ?gr4k4
      case W8 =>
       (try dsimp only at hSw)
       go_simp
       try with_reducible rfl
      try simp only [Act.put, ah, aj, aq]
      refine af.take (i := 5) (v := ?gv5k4) rfl (by kernel_rfl) (fun _ _ _ h => h) (by rfl) (fun w hSw => ?W9) hS ?gr5k4
      case W9 =>
       (try dsimp only at hSw)
       go_simp
       try with_reducible rfl
      try simp only [Act.put, ah, aj, aq]
      refine af.take (i := 6) (v := ?gv6k4) rfl (by kernel_rfl) (fun _ _ _ h => h) (by rfl) (fun w hSw => ?Xa) hS ?gr6k4
      case Xa =>
       (try dsimp only at hSw)
       go_simp
       try with_reducible rfl
      try simp only [Act.put, ah, aj, aq]
      refine af.take (i := 7) (v := .slice ap acc.length acc.length) rfl (by kernel_rfl) (fun _ _ _ h => h) (by rfl) (fun w hSw => ?gy7b) hS ?gr7b
      case gy7b =>
       (try dsimp only at hSw)
       go_simp
      try simp only [Act.put, ah, aj, aq]
      refine af.take (i := 8) (v := ?gv8k5) rfl (by kernel_rfl) (fun _ _ _ h => h) (by rfl) (fun w hSw => ?Xb) hS ?gr8k5
      case Xb =>
       (try dsimp only at hSw)
       go_simp
       try with_reducible rfl
      try simp only [Act.put, ah, aj, aq]
      refine af.take (i := 9) (v := ?gv9k5) rfl (by kernel_rfl) (fun _ _ _ h => h) (by rfl) (fun w hSw => ?Xc) hS ?gr9k5
      case Xc =>
       (try dsimp only at hSw)
       go_simp
       try with_reducible rfl
      try simp only [Act.put, ah, aj, aq]
      refine af.take (i := 10) (v := ?gv10k5) rfl (by kernel_rfl) (fun _ _ _ h => h) (by rfl) (fun w hSw => ?T5) hS ?gr10k5
      case T5 =>
       (try dsimp only at hSw)
       go_simp
       try with_reducible rfl
      try simp only [Act.put, ah, aj, aq]
      refine af.take (i := 11) (v := ?gv11k5) rfl (by kernel_rfl) (fun _ _ _ h => h) (by rfl) (fun w hSw => ?T6) hS ?gr11k5
      case T6 =>
       (try dsimp only at hSw)
       go_simp
       try with_reducible rfl
      try simp only [Act.put, ah, aj, aq]
      refine af.take (i := 12) (v := ?gv12k5) rfl (by kernel_rfl) (fun _ _ _ h => h) (by rfl) (fun w hSw => ?T7) hS ?gr12k5
      case T7 =>
       (try dsimp only at hSw)
       go_simp
       try with_reducible rfl
      try simp only [Act.put, ah, aj, aq]
      refine af.take (i := 13) (v := ?gv13k5) rfl (by kernel_rfl) (fun _ _ _ h => h) (by rfl) (fun w hSw => ?T8) hS ?gr13k5
      case T8 =>
       (try dsimp only at hSw)
       go_simp
       try with_reducible rfl
      try simp only [Act.put, ah, aj, aq]
      refine af.take (i := 14) (v := ?gv14k5) rfl (by kernel_rfl) (fun _ _ _ h => h) (by rfl) (fun w hSw => ?T9) hS ?gr14k5
      case T9 =>
       (try dsimp only at hSw)
       go_simp
       try with_reducible rfl
      try simp only [Act.put, ah, aj, aq]
      refine af.take (i := 17) (v := ?gv17k5) rfl (by kernel_rfl) (fun _ _ _ h => h) (by rfl) (fun w hSw => ?Ua) hS ?gr17k5
      case Ua =>
       (try dsimp only at hSw)
       go_simp
       try with_reducible rfl
      try simp only [Act.put, ah, aj, aq]
      refine af.take (i := 18) (v := ?gv18k5) rfl (by kernel_rfl) (fun _ _ _ h => h) (by rfl) (fun w hSw => ?Ub) hS ?gr18k5
      case Ub =>
       (try dsimp only at hSw)
       go_simp
       try with_reducible rfl
      try simp only [Act.put, ah, aj, aq]
      refine af.take (i := 19) (v := ?gv19k5) rfl (by kernel_rfl) (fun _ _ _ h => h) (by rfl) (fun w hSw => ?Uc) hS ?gr19k5
      case Uc =>
       (try dsimp only at hSw)
       go_simp
       try with_reducible rfl
      try simp only [Act.put, ah, aj, aq]
      refine af.take (i := 20) (v := ?gv20k5) rfl (by kernel_rfl) (fun _ _ _ h => h) (by rfl) (fun w hSw => ?Ud) hS ?gr20k5
      case Ud =>
       (try dsimp only at hSw)
       go_simp
       try with_reducible rfl
      try simp only [Act.put, ah, aj, aq]
      refine af.take (i := 21) (v := ?gv21k5) rfl (by kernel_rfl) (fun _ _ _ h => h) (by rfl) (fun w hSw => ?Ue) hS ?gr21k5
      case Ue =>
       (try dsimp only at hSw)
       go_simp
       try with_reducible rfl
      try simp only [Act.put, ah, aj, aq]
      refine af.take (i := 22) (v := .slice (Nw ap acc.length ac) 0 (ac - acc.length)) rfl (by kernel_rfl) (fun _ _ _ h => h) (by rfl) (fun w hSw => ?Xd) hS ?gr22b
      case Xd =>
       (try dsimp only at hSw)
       go_simp
       try (unfold Nw; simp)
      try simp only [Act.put, ah, aj, aq]
      refine af.step (i := 15) rfl (by kernel_rfl) (fun K' hK => ?_)
      go_simp
      refine (Zl.out _ ((jU.out.trans HZ.out).trans (jB wz))).mono ?_
      rintro e w3 ⟨b9, u, rfl, hr3⟩
      have b9 : Up wz.drew w3 := b9
      obtain ⟨ub, rfl⟩ := mq hr3
      rw [Zn] at hr3
      have dL := aa ((jB wz).trans b9)
      have TX := aa hr3
      have lX := aa (Up.alloc w3 (.cells #[.pointer (some ⟨ub, 0, none⟩)] 214))
      have TY := aa (KW fS.out Bk.out)
      have TZ : Hid ((w3.alloc (.cells #[.pointer (some ⟨ub, 0, none⟩)] 214)).cell? ⟨w3.heap.size, 0, none⟩ = some (.pointer (some ⟨ub, 0, none⟩))) := uh _ _ _
      have o5 := aa (DT PE.out)
      have rI : Hid (oZ.length = acc.length ∧ acc.length ≤ 90000) := ⟨Bk.out, hal2⟩
      clear b9 hr3
      refine hK.out _ _ (fun _ => lW.out _ dL.out) (fun hS => ?_)
      replace hS := hS ⟨16, by decide, rfl⟩
      try simp only [ah, aj, aq]
      refine af.step (i := 16) rfl (by kernel_rfl) (fun K' hK => ?_)
      go_simp
      refine hK.out _ _ (fun _ => lW.out _ (dL.out.trans lX.out)) (fun hS => ?_)
      replace hS := hS ⟨23, by decide, rfl⟩
      try simp only [ah, aj, aq]
      refine af.step (i := 23) rfl (by kernel_rfl) (fun K' hK => ?_)
      refine KV (by rfl) _ _ _ (by rfl) 214 _ 8 Tryz.underlying259 Tryz.mR (ao := some ⟨w3.heap.size, 0, none⟩) (n := 1) (c := 1) (by rfl) (Nat.le_refl _) (ad := Nw ap acc.length ac) (c2 := ac - acc.length) (by rfl) ?_
      refine hK.out _ _ (fun _ => lW.out _ (dL.out.trans lX.out)) (fun hS => ?_)
      replace hS := hS ⟨24, by decide, rfl⟩
      try simp only [Act.put, ah, aj, aq]
      refine af.step (i := 24) rfl (by kernel_rfl) (fun K' hK => ?_)
      refine uJ (by rfl) _ _ _ (by rfl) 214 _ 8 Tryz.underlying259 Tryz.mR (by rfl) (by decide) (ao := ap) (n := acc.length) (olds := oZ) (by rfl) (all_none fS.out) rI.out.1 ?p1 (ad := ⟨w3.heap.size, 0, none⟩) (m := 1) (c := 1) (news := [.pointer (some ⟨ub, 0, none⟩)]) (by rfl) rfl ?p2 ?p4 (by omega) (by have := rI.out.2; omega) ?p3
      case p1 => exact fun b e i q hq => lX.out.cell (dL.out.cell (HZ.out.cell (TY.out b e i q hq)))
      case p2 =>
       intro i q hq
       cases i with
       | zero =>
        simp at hq
        subst hq
        have e0 : (⟨w3.heap.size, 0, none⟩ : Addr).add 0 = ⟨w3.heap.size, 0, none⟩ := by simp [Addr.add]
        rw [e0]; exact TZ.out
       | succ i => simp at hq
      case p4 =>
       intro q hq
       obtain rfl : q = .pointer (some ⟨ub, 0, none⟩) := by simpa using hq
       rfl
      intro g2 c2 w5 wR iN
      have yS := (HZ.out.trans (dL.out.trans lX.out)).trans iN
      have Bl : RAt (fun b => wo.heap.size ≤ b ∧ b < w3.heap.size) w5 oc (.pointer (some ⟨ub, 0, none⟩)) := RAt.keep ((lX.out.trans iN).kept _) oc (RAt.sub (fun b hb hl => ⟨Nat.le_trans HZ.out.size hb, hl⟩) oc TX.out)
      have hs3 := lX.out.size
      have hsw := (HZ.out.trans dL.out).size
      have hBl := Gy.out.lt
      have ND := aa (Gy.out.lay PE.out yS hsw (fun b hb => by have := (aD wR hb).1; omega) Bl acc.length (by rw [List.take_of_length_le (by rw [rI.out.1]; exact Nat.le_refl _), List.drop_of_length_le (by rw [rI.out.1]; exact Nat.le_refl _)]; exact wR.uk (by omega)))
      have rJ : Hid (mz s oc acc = acc.take acc.length ++ oc :: acc.drop acc.length) := by unfold Hid mz; rw [Nz.out]
      have hcw := (Gy.out.up yS).cells
      have hyf := hcw.2.2.2
      have hyc5 := hcw.2.1
      have jq := aa ((dL.out.trans lX.out).trans iN)
      have K1 : Hid (Up w (w5.setCell ⟨w.heap.size, 1, none⟩ (.slice (some ⟨g2, 0, none⟩) (acc.length + 1) c2))) := Below.setCell (p := ⟨w.heap.size, 1, none⟩) (jU.out.trans yS) (Nat.le_refl _) _
      clear wR iN yS Bl hs3 hsw hcw
      refine hK.out _ _ (fun _ => lW.out _ jq.out) (fun hS => ?_)
      replace hS := hS ⟨27, by decide, rfl⟩
      try simp only [Act.put, ah, aj, aq]
      refine af.take (i := 25) (v := ?gv25k6) rfl (by kernel_rfl) (fun _ _ _ h => h) (by rfl) (fun w hSw => ?Uf) hS ?gr25k6
      case Uf =>
       (try dsimp only at hSw)
       go_simp
       try with_reducible rfl
      try simp only [Act.put, ah, aj, aq]
      refine af.take (i := 26) (v := ?gv26k6) rfl (by kernel_rfl) (fun _ _ _ h => h) (by rfl) (fun w hSw => ?Ug) hS ?gr26k6
      case Ug =>
       (try dsimp only at hSw)
       go_simp
       try with_reducible rfl
      try simp only [Act.put, ah, aj, aq]
      refine af.step (i := 27) rfl (by kernel_rfl) (fun K' hK => ?_)
      go_simp
      refine hK.out _ _ (aJ (by kernel_rfl)) (fun hS => ?_)
      refine af.done (by kernel_rfl) ?_
      go_wp2_with fail
      go_roundw
      case rel => exact ⟨j + 1, _, aQ.out, by go_num, by rw [HT.out, rJ.out]; exact ND.out, K1.out⟩
      case measure => have := aQ.out; simp [intOf]; omega
   ·obtain rfl : j = ks.length := by omega
    have HD := aa hW.out.done
    have Uh := aa en.out
    clear hW en hlt hj
    go_wp2_with fail
    go_ret
    refine ⟨Uh.out, _, rfl, ?_⟩
    have h := HD.out
    rw [List.take_length] at h
    rw [ordR]; exact h
end Go.Proofs.YteegefnjnikngaaGreat
