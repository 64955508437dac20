/- The contract of layer 31's reference's ordered. -/
import Derived.Test.YteegefnjnikngaaGreatQ1
import Derived.Test.YteegefnjnikngaaGreatQ23
set_option maxRecDepth 100000
namespace Go.Proofs.YteegefnjnikngaaGreat
open Go.RowKit Go.Deep
def posK (s : ByteArray) : List RT → Nat
 | [] => 0
 | b :: l => if yF (lstR b) s = true then posK s l + 1 else 0
theorem DC {s : ByteArray} : ∀ {l : List RT} {k : Nat}, k ≤ l.length → (∀ j, j < k → yF (lstR (gr l j)) s = true) → (k < l.length → yF (lstR (gr l k)) s = false) → posK s l = k
 | [], k, hk, _, _ => by
  obtain rfl : k = 0 := by simpa using hk
  rfl
 | b :: l, 0, _, _, h => by
  have h1 : yF (lstR b) s = false := h (by simp)
  rw [posK, if_neg (by rw [h1]; simp)]
 | b :: l, k + 1, hk, h0, h => by
  have h1 : yF (lstR b) s = true := h0 0 (by omega)
  rw [posK, if_pos h1, DC (l := l) (k := k) (by simpa using hk) (fun j hj => h0 (j + 1) (by omega)) (fun hl => h (by simpa using hl))]
def pQ (s : ByteArray) (o : RT) (l : List RT) : List RT := l.take (posK s l) ++ (o :: l.drop (posK s l))
mutual
def ordR : RT → RT
 | .node nm ks => .node nm (eW [] ks)
def eW (acc : List RT) : List RT → List RT
 | [] => acc
 | c :: cs => eW (pQ (lstR c) (ordR c) acc) cs
end
theorem SR (s : ByteArray) (o : RT) (l : List RT) : (pQ s o l).length = l.length + 1 := by
 unfold pQ
 have : posK s l ≤ l.length := by
  induction l with
  | nil => exact Nat.le_refl _
  | cons b l ih =>
   rw [posK, List.length_cons]; split
   ·omega
   ·omega
 rw [List.length_append, List.length_take, List.length_cons, List.length_drop]; omega
theorem E7 (acc : List RT) : ∀ (a b : List RT), eW acc (a ++ b) = eW (eW acc a) b
 | [], _ => by rw [eW]; rfl
 | c :: a, b => by rw [List.cons_append, eW, eW]; exact E7 _ a b
theorem Nf {ks : List RT} {i : Nat} (h : i < ks.length) : eW [] (ks.take (i + 1)) = pQ (lstR (gr ks i)) (ordR (gr ks i)) (eW [] (ks.take i)) := by
 have hg : gr ks i = ks[i] := by simp [gr, h]
 rw [List.take_succ_eq_append_getElem h, E7, eW, eW, hg]
theorem E8 : ∀ (ks acc : List RT), (eW acc ks).length = acc.length + ks.length
 | [], acc => by rw [eW]; simp
 | c :: ks, acc => by rw [eW, E8 ks, SR, List.length_cons]; omega
theorem rP : ∀ (a b : List RT), sizeRs (a ++ b) = sizeRs a + sizeRs b
 | [], b => by rw [sizeRs]; simp
 | r :: a, b => by rw [List.cons_append, sizeRs, sizeRs, rP a b]; omega
theorem Ng (s : ByteArray) (o : RT) (l : List RT) : sizeRs (pQ s o l) = sizeRs l + aI o := by
 unfold pQ
 rw [rP, sizeRs]
 have h := rP (l.take (posK s l)) (l.drop (posK s l))
 rw [List.take_append_drop] at h; omega
mutual
theorem E9 : ∀ r : RT, aI (ordR r) = aI r
 | .node nm ks => by rw [ordR, aI, aI, wN ks []]; simp [sizeRs]
theorem wN : ∀ (ks acc : List RT), sizeRs (eW acc ks) = sizeRs acc + sizeRs ks
 | [], acc => by rw [eW, sizeRs]; rfl
 | c :: ks, acc => by rw [eW, wN ks, Ng, E9 c, sizeRs]; omega
end
theorem KF (ks : List RT) (i : Nat) : sizeRs (ks.take i) ≤ sizeRs ks := by
 have h := rP (ks.take i) (ks.drop i)
 rw [List.take_append_drop] at h; omega
theorem Nh {S : Nat → Prop} {w : World} {b off n cap k : Nat} {vs : List Value} (h : aD S w (.slice (some ⟨b, off, none⟩) n cap) n (vN vs)) (hl : vs.length = n) (_ : k < n) (i : Nat) (q : Value) (hq : (vs.drop k)[i]? = some q) : w.cell? ((⟨b, off + k, none⟩ : Addr).add i) = some q := by
 rw [List.getElem?_drop] at hq
 have hki : k + i < n := by rw [← hl]; exact (List.getElem?_eq_some_iff.1 hq).1
 obtain ⟨b', o', e, hc⟩ := oo h hki
 injection e with e
 injection e with e1 e2
 subst e1; subst e2
 have hv : vN vs (k + i) = q := by unfold vN; rw [List.getD_eq_getElem?_getD, hq]; rfl
 rw [hv] at hc
 rw [Addr.add_lit, show off + k + i = off + (k + i) by omega]; exact hc
theorem Ni {S : Nat → Prop} {w : World} {b off n cap k : Nat} {vs : List Value} (h : aD S w (.slice (some ⟨b, off, none⟩) n cap) n (vN vs)) (hl : vs.length = n) (_ : k ≤ n) (i : Nat) (q : Value) (hq : (vs.take k)[i]? = some q) : w.cell? ((⟨b, off, none⟩ : Addr).add i) = some q := by
 rw [List.getElem?_take] at hq
 split at hq
 ·have hki : i < n := by rw [← hl]; exact (List.getElem?_eq_some_iff.1 hq).1
  obtain ⟨b', o', e, hc⟩ := oo h hki
  injection e with e
  injection e with e1 e2
  subst e1; subst e2
  have hv : vN vs i = q := by unfold vN; rw [List.getD_eq_getElem?_getD, hq]; rfl
  rw [hv] at hc
  rw [Addr.add_lit]; exact hc
 ·cases hq
theorem IP {S : Nat → Prop} {w : World} : ∀ {rs : List RT} {vs : List Value}, RsAt S w rs vs → ∀ u ∈ vs, u.oneCell' = true
 | [], vs, h, u, hu => by unfold RsAt at h; subst h; cases hu
 | r :: rs, vs, h, u, hu => by
  unfold RsAt at h
  obtain ⟨x, us, rfl, h1, h2⟩ := h
  rcases List.mem_cons.1 hu with rfl | hu
  ·obtain ⟨b, rfl⟩ := pM h1; rfl
  ·exact IP h2 u hu
theorem quiet_of {P : Program} {f : FuncId} {args : Array Value} {w : World} {m n : Nat} {v : Value} (h : Calls P f args (w.drewN (m + n)) fun e w' => e = .returned v ∧ w.drewN (m + n) = w') : Calls P f args (w.drewN (m + n)) fun e w'' => e = .returned v ∧ ∃ q, w'' = w.drewN (m + q) :=
 h.mono fun _ _ ⟨h1, h2⟩ => ⟨h1, n, h2.symm⟩
def PY (w : World) (r : RT) (e : Ending) (w' : World) : Prop := Up w w' ∧ ∃ u, e = .returned u ∧ RAt (fun b => w.heap.size ≤ b) w' (ordR r) u
set_option maxHeartbeats 4000000 in
theorem PZ (S : Nat → Prop) : ∀ (d : Nat) (r : RT), aI r ≤ d → d ≤ 90000 → ∀ (w : World) (v : Value), RAt S w r v → Calls Tryz.prog 212 #[v] w (PY w r) := by
 intro d
 induction d with
 | zero => intro r hr; have := gW r; omega
 | succ d ih =>
 intro r hr hd w v hv
 cases r with
 | node nm ks =>
  have hv0 := hv
  obtain ⟨xb, kp, kc, vs, rfl, hS, c0, c1, hk, hs⟩ := hv.open
  simp only [RT.nm, RT.kids] at c0 c1 hk hs
  have dY := oy ks
  rw [aI] at hr
  have bq := Up.alloc w (.cells #[.string nm, .slice none 0 0] 261)
  have HW0 := aa (kT.start w (Nat.le_refl _) nm)
  have jN := aa c1
  have HK := aa hk
  have HR := aa hs
  have iG : Hid (∀ j, j < ks.length → ∀ W, Up w W → Calls Tryz.prog 212 #[vN vs j] W (PY W (gr ks j))) := fun j hj W hW => by
   have h1 := rW hj
   exact ih (gr ks j) (by omega) (by omega) W _ (RAt.keep (hW.kept S) _ (RsAt.get ks hs j hj))
  have HLX : Hid (∀ j, j < ks.length → ∀ W, Up w W → Calls Tryz.prog 261 #[vN vs j] W fun e w' => e = .returned (.string (lstR (gr ks j))) ∧ W = w') := fun j hj W hW => by
   have h1 := rW hj
   exact Iu S (aI (gr ks j)) _ (Nat.le_refl _) (by omega) W _ (RAt.keep (hW.kept S) _ (RsAt.get ks hs j hj))
  have HU := aa bq
  have iT : Hid (ks.length ≤ 90000) := by unfold Hid; omega
  have Zx : Hid (sizeRs ks ≤ 90000) := by unfold Hid; omega
  clear ih hv hv0 bq hk hs hr dY hS
  go_enter Tryz.func212, Tryz.ntmps212
  go_wp2_with fail
  clear c0 c1
  go_loopw [4, 5] (fun i _ wr => ∃ (j : Nat) (kv : Value), j ≤ ks.length ∧ i = .int .i64 j ∧ Hid (kT w.heap.size w.heap.size wr nm kv (eW [] (ks.take j))) ∧ Hid (Up w wr)) (fun i _ _ => ks.length - (intOf i).toNat)
  case atStart => exact ⟨0, _, Nat.zero_le _, rfl, by rw [List.take_zero, eW]; exact HW0.out, HU.out⟩
  case round =>
   obtain ⟨j, kv, hj, rfl, hW, fV⟩ := hrel
   obtain ⟨wo, rfl⟩ : ∃ wo : World, wo = wr := ⟨_, rfl⟩
   have x1 := fV.out.cell jN.out
   by_cases hlt : j < ks.length
   ·obtain ⟨acc, hacc⟩ : ∃ acc, acc = eW [] (ks.take j) := ⟨_, rfl⟩
    have HT : Hid (eW [] (ks.take (j + 1)) = pQ (lstR (gr ks j)) (ordR (gr ks j)) acc) := by rw [hacc]; exact Nf hlt
    have hal2 : acc.length ≤ 90000 := by
     rw [hacc, E8, List.length_take]; have := iT.out; simp; omega
    have vt : sizeRs acc ≤ 90000 := by
     rw [hacc, wN]; have := KF ks j; have := Zx.out; simp [sizeRs]; omega
    rw [← hacc] at hW
    obtain ⟨sW, ho, Cn⟩ := hW.out.kids
    have hcw := hW.out.cells
    have hlen := RsAt.len acc Cn
    have ij := ho.AJ
    rw [hlen] at ij
    obtain ⟨ap, ac, rfl, hac, _⟩ := aD.open ij
    have hy1 := hcw.2.1
    obtain ⟨kb, ko, rfl, hkc⟩ := oo (HK.out.keep (fV.out.kept _)) hlt
    have yJ : Hid (∀ k, k < acc.length → ∀ W, Up wo W → Calls Tryz.prog 261 #[vN sW k] W fun e w' => e = .returned (.string (lstR (gr acc k))) ∧ W = w') := fun k hk W Zy => by
     have h1 := rW hk
     exact Iu _ (aI (gr acc k)) _ (Nat.le_refl _) (by omega) W _ (RAt.keep (Zy.kept _) _ (RsAt.get acc Cn k hk))
    have Cu : Hid (∀ W, Up wo W → Calls Tryz.prog 261 #[vN vs j] W fun e w' => e = .returned (.string (lstR (gr ks j))) ∧ W = w') := fun W Zy => HLX.out j hlt W (fV.out.trans Zy)
    have HOC := aa (iG.out j hlt)
    have HY1 := aa hy1
    have kU := aa x1
    have YK := aa hkc
    have iR := aa ij
    have LB := aa hW.out
    have jC := aa fV.out
    have aY := aa hlt
    have UN := aa Cn
    have UO := aa ho
    have Ai := aa hlen
    have i1 : (0 : Int) ≤ (j : Int) := by omega
    have i2 : (j : Int) < (ks.length : Int) := by omega
    have i3 : (j : Int) < 90000 := by have := iT.out; omega
    clear hacc vt Cn ho hcw hlen ij hW fV hlt hj
    generalize vN vs j = xv at *
    generalize hs : lstR (gr ks j) = s at *
    generalize Aj : ordR (gr ks j) = oc at *
    go_wp2_with fail
    go_loopw [5] (fun q wr => ∃ k m : Nat, k ≤ acc.length ∧ q = .int .i64 k ∧ wr = wo.drewN m ∧ Hid (∀ i, i < k → yF (lstR (gr acc i)) s = true)) (fun q _ => acc.length - (intOf q).toNat)
    case atStart => exact ⟨0, 0, Nat.zero_le _, rfl, rfl, fun i hi => absurd hi (Nat.not_lt_zero _)⟩
    case round =>
     obtain ⟨k, m, hk, rfl, rfl, hlo⟩ := hrel
     by_cases Zz : k < acc.length
     ·obtain ⟨yb, yo, rfl, hyc⟩ := oo iR.out Zz
      have HM1 := aa (fun n => quiet_of (m := m) (n := n) (yJ.out k Zz _ (Up.drewN wo _)))
      have LC := aa (fun n => quiet_of (m := m) (n := n) (Cu.out _ (Up.drewN wo _)))
      have k1 : (0 : Int) ≤ (k : Int) := by omega
      have k2 : (k : Int) < (acc.length : Int) := by omega
      have k3 : (k : Int) < 90000 := by omega
      have dk : decide ((k : Int) < (acc.length : Int)) = true := by simp; omega
      have dn : decide (k < acc.length) = true := by simp; omega
      have yK := aa Zz
      generalize vN sW k = yv at *
      cases hls : yF (lstR (gr acc k)) s
      ·have hbl : Op.bytesLess (lstR (gr acc k)).toList s.toList = false := hls
       have EC := aa hls
       clear hls hk
       generalize hs1 : lstR (gr acc k) = s1 at *
       go_wp2_with fail
       go_big_quiet (first | with_reducible exact HM1.out _ | with_reducible exact LC.out _)
       go_wp2_with fail
       have HZ : Hid (Up wo ((wo.drewN m).drewN nq)) := (Up.drewN _ _).trans (Up.drewN _ _)
       have SS : Hid (posK s acc = k) := DC (by have := yK.out; omega) hlo.out (fun _ => by rw [hs1]; exact EC.out)
       have hkle : k ≤ acc.length := Nat.le_of_lt yK.out
       generalize (wo.drewN m).drewN nq = wz at *
       have SU := HZ.out.cell HY1.out
       have SV := HZ.out.cell kU.out
       have SX := HZ.out.cell YK.out
       have g1 : (0 : Int) ≤ (k : Int) := by omega
       have g2 : (k : Int) ≤ (acc.length : Int) := by omega
       have g3 : (k : Int) ≤ (ac : Int) := by omega
       have kO : Hid (∀ W, Up wz W → W.cell? ⟨w.heap.size, 1, none⟩ = some (.slice (some ⟨yb, yo, none⟩) acc.length ac) ∧ W.cell? ⟨xb, 1, none⟩ = some (.slice (some ⟨kb, ko, none⟩) ks.length kc) ∧ W.cell? ⟨kb, ko + j, none⟩ = some xv) := fun W hW => ⟨hW.cell SU, hW.cell SV, hW.cell SX⟩
       refine cU (by kernel_rfl) 28 (fun w' => w'.cell? ⟨w.heap.size, 1, none⟩ = some (.slice (some ⟨yb, yo, none⟩) acc.length ac) ∧ w'.cell? ⟨xb, 1, none⟩ = some (.slice (some ⟨kb, ko, none⟩) ks.length kc) ∧ w'.cell? ⟨kb, ko + j, none⟩ = some xv) (kO.out _ (lW wz)) (fun hS => ?_)
       simp only [List.size_toArray, List.length_cons, List.length_nil, Nat.reduceAdd, Array.replicate_succ, Array.replicate_zero, List.push_toArray, List.nil_append, List.cons_append]
       refine af.take (i := 0) (v := ?qc) rfl (by kernel_rfl) (fun _ _ _ h => h) (by rfl) (fun w hSw => ?gp) hS ?qd
       case gp =>
        (try dsimp only at hSw)
        go_simp
        try with_reducible rfl
       try simp only [Act.put, aq, ah, au]
       refine af.take (i := 1) (v := ?qf) rfl (by kernel_rfl) (fun _ _ _ h => h) (by rfl) (fun w hSw => ?gq) hS ?qg
       case gq =>
        (try dsimp only at hSw)
        go_simp
        try with_reducible rfl
       try simp only [Act.put, aq, ah, au]
       refine af.take (i := 2) (v := ?rG) rfl (by kernel_rfl) (fun _ _ _ h => h) (by rfl) (fun w hSw => ?gN) hS ?rH
       case gN =>
        (try dsimp only at hSw)
        go_simp
        try with_reducible rfl
       try simp only [Act.put, aq, ah, au]
       refine af.take (i := 3) (v := ?rI) rfl (by kernel_rfl) (fun _ _ _ h => h) (by rfl) (fun w hSw => ?gO) hS ?rJ
       case gO =>
        (try dsimp only at hSw)
        go_simp
        try with_reducible rfl
       try simp only [Act.put, aq, ah, au]
       refine af.take (i := 4) (v := ?rK) rfl (by kernel_rfl) (fun _ _ _ h => h) (by rfl) (fun w hSw => ?gP) hS ?rL
       case gP =>
        (try dsimp only at hSw)
        go_simp
        try with_reducible rfl
       try simp only [Act.put, aq, ah, au]
       refine af.take (i := 5) (v := ?rM) rfl (by kernel_rfl) (fun _ _ _ h => h) (by rfl) (fun w hSw => ?gQ) hS ?rN
       case gQ =>
        (try dsimp only at hSw)
        go_simp
        try with_reducible rfl
       try simp only [Act.put, aq, ah, au]
       refine af.take (i := 6) (v := ?zo) rfl (by kernel_rfl) (fun _ _ _ h => h) (by rfl) (fun w hSw => ?lX) hS ?zq
       case lX =>
        (try dsimp only at hSw)
        go_simp
        try with_reducible rfl
       try simp only [Act.put, aq, ah, au]
       refine af.take (i := 7) (v := .slice (some ⟨yb, yo, none⟩) k k) rfl (by kernel_rfl) (fun _ _ _ h => h) (by rfl) (fun w hSw => ?gy7a) hS ?gr7a
       case gy7a =>
        (try dsimp only at hSw)
        go_simp
       try simp only [Act.put, aq, ah, au]
       refine af.take (i := 8) (v := ?gv8k2) rfl (by kernel_rfl) (fun _ _ _ h => h) (by rfl) (fun w hSw => ?gy8k2) hS ?gr8k2
       case gy8k2 =>
        (try dsimp only at hSw)
        go_simp
        try with_reducible rfl
       try simp only [Act.put, aq, ah, au]
       refine af.take (i := 9) (v := ?gv9k2) rfl (by kernel_rfl) (fun _ _ _ h => h) (by rfl) (fun w hSw => ?gy9k2) hS ?gr9k2
       case gy9k2 =>
        (try dsimp only at hSw)
        go_simp
        try with_reducible rfl
       try simp only [Act.put, aq, ah, au]
       refine af.take (i := 10) (v := ?gv10k2) rfl (by kernel_rfl) (fun _ _ _ h => h) (by rfl) (fun w hSw => ?ZA) hS ?gr10k2
       case ZA =>
        (try dsimp only at hSw)
        go_simp
        try with_reducible rfl
       try simp only [Act.put, aq, ah, au]
       refine af.take (i := 11) (v := ?gv11k2) rfl (by kernel_rfl) (fun _ _ _ h => h) (by rfl) (fun w hSw => ?ZB) hS ?gr11k2
       case ZB =>
        (try dsimp only at hSw)
        go_simp
        try with_reducible rfl
       try simp only [Act.put, aq, ah, au]
       refine af.take (i := 12) (v := ?gv12k2) rfl (by kernel_rfl) (fun _ _ _ h => h) (by rfl) (fun w hSw => ?ZC) hS ?gr12k2
       case ZC =>
        (try dsimp only at hSw)
        go_simp
        try with_reducible rfl
       try simp only [Act.put, aq, ah, au]
       refine af.take (i := 13) (v := ?gv13k2) rfl (by kernel_rfl) (fun _ _ _ h => h) (by rfl) (fun w hSw => ?ZE) hS ?gr13k2
       case ZE =>
        (try dsimp only at hSw)
        go_simp
        try with_reducible rfl
       try simp only [Act.put, aq, ah, au]
       refine af.take (i := 14) (v := ?gv14k2) rfl (by kernel_rfl) (fun _ _ _ h => h) (by rfl) (fun w hSw => ?ZF) hS ?gr14k2
       case ZF =>
        (try dsimp only at hSw)
        go_simp
        try with_reducible rfl
       try simp only [Act.put, aq, ah, au]
       refine af.take (i := 17) (v := ?gv17k2) rfl (by kernel_rfl) (fun _ _ _ h => h) (by rfl) (fun w hSw => ?ZG) hS ?gr17k2
       case ZG =>
        (try dsimp only at hSw)
        go_simp
        try with_reducible rfl
       try simp only [Act.put, aq, ah, au]
       refine af.take (i := 18) (v := ?gv18k2) rfl (by kernel_rfl) (fun _ _ _ h => h) (by rfl) (fun w hSw => ?ZH) hS ?gr18k2
       case ZH =>
        (try dsimp only at hSw)
        go_simp
        try with_reducible rfl
       try simp only [Act.put, aq, ah, au]
       refine af.take (i := 19) (v := ?gv19k2) rfl (by kernel_rfl) (fun _ _ _ h => h) (by rfl) (fun w hSw => ?ZI) hS ?gr19k2
       case ZI =>
        (try dsimp only at hSw)
        go_simp
        try with_reducible rfl
       try simp only [Act.put, aq, ah, au]
       refine af.take (i := 20) (v := ?gv20k2) rfl (by kernel_rfl) (fun _ _ _ h => h) (by rfl) (fun w hSw => ?ZJ) hS ?gr20k2
       case ZJ =>
        (try dsimp only at hSw)
        go_simp
        try with_reducible rfl
       try simp only [Act.put, aq, ah, au]
       refine af.take (i := 21) (v := ?gv21k2) rfl (by kernel_rfl) (fun _ _ _ h => h) (by rfl) (fun w hSw => ?ZK) hS ?gr21k2
       case ZK =>
        (try dsimp only at hSw)
        go_simp
        try with_reducible rfl
       try simp only [Act.put, aq, ah, au]
       refine af.take (i := 22) (v := .slice (some ⟨yb, yo + k, none⟩) (acc.length - k) (ac - k)) rfl (by kernel_rfl) (fun _ _ _ h => h) (by rfl) (fun w hSw => ?gy22a) hS ?gr22a
       case gy22a =>
        (try dsimp only at hSw)
        go_simp
        intro e; have := yK.out; omega
       try simp only [Act.put, aq, ah, au]
       refine af.step (i := 15) rfl (by kernel_rfl) (fun K' hK => ?_)
       go_simp
       refine (HOC.out _ ((jC.out.trans HZ.out).trans (lW wz))).mono ?_
       rintro e w3 ⟨cF, u, rfl, hr3⟩
       have cF : Up wz.drew w3 := cF
       obtain ⟨ub, rfl⟩ := pM hr3
       rw [Aj] at hr3
       have dS := aa ((lW wz).trans cF)
       have ZL := aa hr3
       have iH := aa (Up.alloc w3 (.cells #[.pointer (some ⟨ub, 0, none⟩)] 214))
       have hdc := Nh iR.out Ai.out yK.out
       have HDC := aa fun i q hq => iH.out.cell (dS.out.cell (HZ.out.cell (hdc i q hq)))
       have IQ := aa (Ni iR.out Ai.out hkle)
       have ZM : Hid ((w3.alloc (.cells #[.pointer (some ⟨ub, 0, none⟩)] 214)).cell? ⟨w3.heap.size, 0, none⟩ = some (.pointer (some ⟨ub, 0, none⟩))) := uW _ _ _
       have vv := aa (IP UN.out)
       have vk : Hid (0 < acc.length - k ∧ (sW.drop k).length = acc.length - k ∧ (sW.take k).length = k ∧ acc.length ≤ 90000) := by
        have := yK.out; have := Ai.out; unfold Hid; rw [List.length_drop, List.length_take]; omega
       clear cF hr3 hdc
       refine hK.out _ _ (fun _ => kO.out _ dS.out) (fun hS => ?_)
       replace hS := hS ⟨16, by decide, rfl⟩
       try simp only [aq, ah, au]
       refine af.step (i := 16) rfl (by kernel_rfl) (fun K' hK => ?_)
       go_simp
       refine hK.out _ _ (fun _ => kO.out _ (dS.out.trans iH.out)) (fun hS => ?_)
       replace hS := hS ⟨23, by decide, rfl⟩
       try simp only [aq, ah, au]
       refine af.step (i := 23) rfl (by kernel_rfl) (fun K' hK => ?_)
       refine yH (by rfl) _ _ _ (by rfl) 214 _ 8 Tryz.underlying259 Tryz.qB (by rfl) (by decide) (ao := some ⟨w3.heap.size, 0, none⟩) (n := 1) (olds := [.pointer (some ⟨ub, 0, none⟩)]) (by rfl) (fun e => by cases e) rfl ?q1 (ad := ⟨yb, yo + k, none⟩) (m := acc.length - k) (c := ac - k) (news := sW.drop k) (by rfl) vk.out.2.1 (fun i q hq => HDC.out i q hq) ?q2 vk.out.1 (by have := vk.out.2.2.2; omega) ?q3
       case q1 =>
        intro b e i q hq
        injection e with e
        subst e
        cases i with
        | zero =>
         simp at hq
         subst hq
         have e0 : (⟨w3.heap.size, 0, none⟩ : Addr).add 0 = ⟨w3.heap.size, 0, none⟩ := by simp [Addr.add]
         rw [e0]; exact ZM.out
        | succ i => simp at hq
       case q2 => exact fun q hq => vv.out q (List.mem_of_mem_drop hq)
       intro g1 c1 w4 Pp b9
       have mD := aa (dS.out.trans (iH.out.trans b9))
       have HOC4 := aa (World.ownsRow.cells Pp rfl)
       have HV4 := aa (iH.out.trans b9)
       clear Pp b9
       refine hK.out _ _ (fun _ => kO.out _ mD.out) (fun hS => ?_)
       replace hS := hS ⟨24, by decide, rfl⟩
       try simp only [Act.put, aq, ah, au]
       refine af.step (i := 24) rfl (by kernel_rfl) (fun K' hK => ?_)
       refine yH (by rfl) _ _ _ (by rfl) 214 _ 8 Tryz.underlying259 Tryz.qB (by rfl) (by decide) (ao := some ⟨yb, yo, none⟩) (n := k) (olds := sW.take k) (by rfl) (fun e => by cases e) vk.out.2.2.1 ?r1 (ad := ⟨g1, 0, none⟩) (m := 1 + (acc.length - k)) (c := c1) (news := [.pointer (some ⟨ub, 0, none⟩)] ++ sW.drop k) (by rfl) (by rw [List.length_append, vk.out.2.1]; rfl) (fun i q hq => HOC4.out i q hq) ?r2 (by omega) (by have := vk.out.2.2.2; omega) ?r3
       case r1 =>
        intro b e i q hq
        injection e with e
        subst e
        exact mD.out.cell (HZ.out.cell (IQ.out i q hq))
       case r2 =>
        intro q hq
        rcases List.mem_append.1 hq with h1 | h1
        ·obtain rfl : q = .pointer (some ⟨ub, 0, none⟩) := by simpa using h1
         rfl
        ·exact vv.out q (List.mem_of_mem_drop h1)
       intro g2 c2 w5 Ak eX
       have Cv := (HZ.out.trans mD.out).trans eX
       have EO : RAt (fun b => wo.heap.size ≤ b ∧ b < w3.heap.size) w5 oc (.pointer (some ⟨ub, 0, none⟩)) := RAt.keep ((HV4.out.trans eX).kept _) oc (RAt.sub (fun b hb hl => ⟨Nat.le_trans HZ.out.size hb, hl⟩) oc ZL.out)
       have hs3 := HV4.out.size
       have hsw := (HZ.out.trans dS.out).size
       have hBl := LB.out.lt
       have SY := aa (LB.out.lay UN.out Cv hsw (fun b hb => by have := (aF Ak hb).1; omega) EO k (Ak.tQ (by omega)))
       have uS : Hid (pQ s oc acc = acc.take k ++ oc :: acc.drop k) := by unfold Hid pQ; rw [SS.out]
       have hcw := (LB.out.up Cv).cells
       have hyf := hcw.2.2.2
       have hyc5 := hcw.2.1
       have jQ := aa (mD.out.trans eX)
       have P3 : Hid (Up w (w5.setCell ⟨w.heap.size, 1, none⟩ (.slice (some ⟨g2, 0, none⟩) (k + (1 + (acc.length - k))) c2))) := Below.setCell (p := ⟨w.heap.size, 1, none⟩) (jC.out.trans Cv) (Nat.le_refl _) _
       clear Ak eX Cv EO hs3 hsw hcw
       refine hK.out _ _ (fun _ => kO.out _ jQ.out) (fun hS => ?_)
       replace hS := hS ⟨27, by decide, rfl⟩
       try simp only [Act.put, aq, ah, au]
       refine af.take (i := 25) (v := ?gv25k3) rfl (by kernel_rfl) (fun _ _ _ h => h) (by rfl) (fun w hSw => ?ZN) hS ?gr25k3
       case ZN =>
        (try dsimp only at hSw)
        go_simp
        try with_reducible rfl
       try simp only [Act.put, aq, ah, au]
       refine af.take (i := 26) (v := ?gv26k3) rfl (by kernel_rfl) (fun _ _ _ h => h) (by rfl) (fun w hSw => ?ZO) hS ?gr26k3
       case ZO =>
        (try dsimp only at hSw)
        go_simp
        try with_reducible rfl
       try simp only [Act.put, aq, ah, au]
       refine af.step (i := 27) rfl (by kernel_rfl) (fun K' hK => ?_)
       go_simp
       refine hK.out _ _ (aJ (by kernel_rfl)) (fun hS => ?_)
       refine af.done (by kernel_rfl) ?_
       go_wp2_with fail
       go_roundw
       case rel => exact ⟨j + 1, _, aY.out, by go_num, by rw [HT.out, uS.out]; exact SY.out, P3.out⟩
       case measure => have := aY.out; simp [intOf]; omega
      ·have hbl : Op.bytesLess (lstR (gr acc k)).toList s.toList = true := hls
       have EC := aa hls
       clear hls hk
       generalize hs1 : lstR (gr acc k) = s1 at *
       go_wp2_with fail
       go_big_quiet (first | with_reducible exact HM1.out _ | with_reducible exact LC.out _)
       go_wp2_with fail
       go_roundw
       case rel => exact ⟨k + 1, m + nq, yK.out, by go_num, rfl, fun i hi => if e : i = k then by subst e; rw [hs1]; exact EC.out else hlo.out i (by omega)⟩
       case measure => have := yK.out; simp [intOf]; omega
     ·obtain rfl : k = acc.length := by omega
      have dk : decide ((acc.length : Int) < (acc.length : Int)) = false := by simp
      have dn : decide (acc.length < acc.length) = false := by simp
      go_wp2_with fail
      go_big_quiet (fail)
      go_wp2_with fail
      have HZ : Hid (Up wo ((wo.drewN m).drewN nq)) := (Up.drewN _ _).trans (Up.drewN _ _)
      have SS : Hid (posK s acc = acc.length) := DC (Nat.le_refl _) hlo.out (fun h => absurd h (Nat.lt_irrefl _))
      generalize (wo.drewN m).drewN nq = wz at *
      have SU := HZ.out.cell HY1.out
      have SV := HZ.out.cell kU.out
      have SX := HZ.out.cell YK.out
      have g1 : (0 : Int) ≤ (acc.length : Int) := by omega
      have g2 : (acc.length : Int) ≤ (acc.length : Int) := by omega
      have g3 : (acc.length : Int) ≤ (ac : Int) := by omega
      have kO : Hid (∀ W, Up wz W → W.cell? ⟨w.heap.size, 1, none⟩ = some (.slice ap acc.length ac) ∧ W.cell? ⟨xb, 1, none⟩ = some (.slice (some ⟨kb, ko, none⟩) ks.length kc) ∧ W.cell? ⟨kb, ko + j, none⟩ = some xv) := fun W hW => ⟨hW.cell SU, hW.cell SV, hW.cell SX⟩
      refine cU (by kernel_rfl) 28 (fun w' => w'.cell? ⟨w.heap.size, 1, none⟩ = some (.slice ap acc.length ac) ∧ w'.cell? ⟨xb, 1, none⟩ = some (.slice (some ⟨kb, ko, none⟩) ks.length kc) ∧ w'.cell? ⟨kb, ko + j, none⟩ = some xv) (kO.out _ (lW wz)) (fun hS => ?_)
      simp only [List.size_toArray, List.length_cons, List.length_nil, Nat.reduceAdd, Array.replicate_succ, Array.replicate_zero, List.push_toArray, List.nil_append, List.cons_append]
      refine af.take (i := 0) (v := ?gv0k4) rfl (by kernel_rfl) (fun _ _ _ h => h) (by rfl) (fun w hSw => ?gy0k4) hS ?gr0k4
      case gy0k4 =>
       (try dsimp only at hSw)
       go_simp
       try with_reducible rfl
      try simp only [Act.put, aq, ah, au]
      refine af.take (i := 1) (v := ?gv1k4) rfl (by kernel_rfl) (fun _ _ _ h => h) (by rfl) (fun w hSw => ?gy1k4) hS ?gr1k4
      case gy1k4 =>
       (try dsimp only at hSw)
       go_simp
       try with_reducible rfl
      try simp only [Act.put, aq, ah, au]
      refine af.take (i := 2) (v := ?gv2k4) rfl (by kernel_rfl) (fun _ _ _ h => h) (by rfl) (fun w hSw => ?gy2k4) hS ?gr2k4
      case gy2k4 =>
       (try dsimp only at hSw)
       go_simp
       try with_reducible rfl
      try simp only [Act.put, aq, ah, au]
      refine af.take (i := 3) (v := ?gv3k4) rfl (by kernel_rfl) (fun _ _ _ h => h) (by rfl) (fun w hSw => ?gy3k4) hS ?gr3k4
      case gy3k4 =>
       (try dsimp only at hSw)
       go_simp
       try with_reducible rfl
      try simp only [Act.put, aq, ah, au]
      refine af.take (i := 4) (v := ?gv4k4) rfl (by kernel_rfl) (fun _ _ _ h => h) (by rfl) (fun w hSw => ?gy4k4) hS ?gr4k4
      case gy4k4 =>
       (try dsimp only at hSw)
       go_simp
       try with_reducible rfl
      try simp only [Act.put, aq, ah, au]
      refine af.take (i := 5) (v := ?gv5k4) rfl (by kernel_rfl) (fun _ _ _ h => h) (by rfl) (fun w hSw => ?gy5k4) hS ?gr5k4
      case gy5k4 =>
       (try dsimp only at hSw)
       go_simp
       try with_reducible rfl
      try simp only [Act.put, aq, ah, au]
      refine af.take (i := 6) (v := ?gv6k4) rfl (by kernel_rfl) (fun _ _ _ h => h) (by rfl) (fun w hSw => ?gy6k4) hS ?gr6k4
      case gy6k4 =>
       (try dsimp only at hSw)
       go_simp
       try with_reducible rfl
      try simp only [Act.put, aq, ah, au]
      refine af.take (i := 7) (v := .slice ap acc.length acc.length) rfl (by kernel_rfl) (fun _ _ _ h => h) (by rfl) (fun w hSw => ?gy7b) hS ?gr7b
      case gy7b =>
       (try dsimp only at hSw)
       go_simp
      try simp only [Act.put, aq, ah, au]
      refine af.take (i := 8) (v := ?gv8k5) rfl (by kernel_rfl) (fun _ _ _ h => h) (by rfl) (fun w hSw => ?gy8k5) hS ?gr8k5
      case gy8k5 =>
       (try dsimp only at hSw)
       go_simp
       try with_reducible rfl
      try simp only [Act.put, aq, ah, au]
      refine af.take (i := 9) (v := ?gv9k5) rfl (by kernel_rfl) (fun _ _ _ h => h) (by rfl) (fun w hSw => ?gy9k5) hS ?gr9k5
      case gy9k5 =>
       (try dsimp only at hSw)
       go_simp
       try with_reducible rfl
      try simp only [Act.put, aq, ah, au]
      refine af.take (i := 10) (v := ?gv10k5) rfl (by kernel_rfl) (fun _ _ _ h => h) (by rfl) (fun w hSw => ?ZP) hS ?gr10k5
      case ZP =>
       (try dsimp only at hSw)
       go_simp
       try with_reducible rfl
      try simp only [Act.put, aq, ah, au]
      refine af.take (i := 11) (v := ?gv11k5) rfl (by kernel_rfl) (fun _ _ _ h => h) (by rfl) (fun w hSw => ?ZQ) hS ?gr11k5
      case ZQ =>
       (try dsimp only at hSw)
       go_simp
       try with_reducible rfl
      try simp only [Act.put, aq, ah, au]
      refine af.take (i := 12) (v := ?gv12k5) rfl (by kernel_rfl) (fun _ _ _ h => h) (by rfl) (fun w hSw => ?ZR) hS ?gr12k5
      case ZR =>
       (try dsimp only at hSw)
       go_simp
       try with_reducible rfl
      try simp only [Act.put, aq, ah, au]
      refine af.take (i := 13) (v := ?gv13k5) rfl (by kernel_rfl) (fun _ _ _ h => h) (by rfl) (fun w hSw => ?ZT) hS ?gr13k5
      case ZT =>
       (try dsimp only at hSw)
       go_simp
       try with_reducible rfl
      try simp only [Act.put, aq, ah, au]
      refine af.take (i := 14) (v := ?gv14k5) rfl (by kernel_rfl) (fun _ _ _ h => h) (by rfl) (fun w hSw => ?ZU) hS ?gr14k5
      case ZU =>
       (try dsimp only at hSw)
       go_simp
       try with_reducible rfl
      try simp only [Act.put, aq, ah, au]
      refine af.take (i := 17) (v := ?gv17k5) rfl (by kernel_rfl) (fun _ _ _ h => h) (by rfl) (fun w hSw => ?ZV) hS ?gr17k5
      case ZV =>
       (try dsimp only at hSw)
       go_simp
       try with_reducible rfl
      try simp only [Act.put, aq, ah, au]
      refine af.take (i := 18) (v := ?gv18k5) rfl (by kernel_rfl) (fun _ _ _ h => h) (by rfl) (fun w hSw => ?ZW) hS ?gr18k5
      case ZW =>
       (try dsimp only at hSw)
       go_simp
       try with_reducible rfl
      try simp only [Act.put, aq, ah, au]
      refine af.take (i := 19) (v := ?gv19k5) rfl (by kernel_rfl) (fun _ _ _ h => h) (by rfl) (fun w hSw => ?ZX) hS ?gr19k5
      case ZX =>
       (try dsimp only at hSw)
       go_simp
       try with_reducible rfl
      try simp only [Act.put, aq, ah, au]
      refine af.take (i := 20) (v := ?gv20k5) rfl (by kernel_rfl) (fun _ _ _ h => h) (by rfl) (fun w hSw => ?ZY) hS ?gr20k5
      case ZY =>
       (try dsimp only at hSw)
       go_simp
       try with_reducible rfl
      try simp only [Act.put, aq, ah, au]
      refine af.take (i := 21) (v := ?gv21k5) rfl (by kernel_rfl) (fun _ _ _ h => h) (by rfl) (fun w hSw => ?ZZ) hS ?gr21k5
      case ZZ =>
       (try dsimp only at hSw)
       go_simp
       try with_reducible rfl
      try simp only [Act.put, aq, ah, au]
      refine af.take (i := 22) (v := .slice (SK ap acc.length ac) 0 (ac - acc.length)) rfl (by kernel_rfl) (fun _ _ _ h => h) (by rfl) (fun w hSw => ?gy22b) hS ?gr22b
      case gy22b =>
       (try dsimp only at hSw)
       go_simp
       try (unfold SK; simp)
      try simp only [Act.put, aq, ah, au]
      refine af.step (i := 15) rfl (by kernel_rfl) (fun K' hK => ?_)
      go_simp
      refine (HOC.out _ ((jC.out.trans HZ.out).trans (lW wz))).mono ?_
      rintro e w3 ⟨cF, u, rfl, hr3⟩
      have cF : Up wz.drew w3 := cF
      obtain ⟨ub, rfl⟩ := pM hr3
      rw [Aj] at hr3
      have dS := aa ((lW wz).trans cF)
      have ZL := aa hr3
      have iH := aa (Up.alloc w3 (.cells #[.pointer (some ⟨ub, 0, none⟩)] 214))
      have IQ := aa (PV iR.out Ai.out)
      have ZM : Hid ((w3.alloc (.cells #[.pointer (some ⟨ub, 0, none⟩)] 214)).cell? ⟨w3.heap.size, 0, none⟩ = some (.pointer (some ⟨ub, 0, none⟩))) := uW _ _ _
      have vv := aa (IP UN.out)
      have vk : Hid (sW.length = acc.length ∧ acc.length ≤ 90000) := ⟨Ai.out, hal2⟩
      clear cF hr3
      refine hK.out _ _ (fun _ => kO.out _ dS.out) (fun hS => ?_)
      replace hS := hS ⟨16, by decide, rfl⟩
      try simp only [aq, ah, au]
      refine af.step (i := 16) rfl (by kernel_rfl) (fun K' hK => ?_)
      go_simp
      refine hK.out _ _ (fun _ => kO.out _ (dS.out.trans iH.out)) (fun hS => ?_)
      replace hS := hS ⟨23, by decide, rfl⟩
      try simp only [aq, ah, au]
      refine af.step (i := 23) rfl (by kernel_rfl) (fun K' hK => ?_)
      refine PT (by rfl) _ _ _ (by rfl) 214 _ 8 Tryz.underlying259 Tryz.qB (ao := some ⟨w3.heap.size, 0, none⟩) (n := 1) (c := 1) (by rfl) (Nat.le_refl _) (ad := SK ap acc.length ac) (c2 := ac - acc.length) (by rfl) ?_
      refine hK.out _ _ (fun _ => kO.out _ (dS.out.trans iH.out)) (fun hS => ?_)
      replace hS := hS ⟨24, by decide, rfl⟩
      try simp only [Act.put, aq, ah, au]
      refine af.step (i := 24) rfl (by kernel_rfl) (fun K' hK => ?_)
      refine yH (by rfl) _ _ _ (by rfl) 214 _ 8 Tryz.underlying259 Tryz.qB (by rfl) (by decide) (ao := ap) (n := acc.length) (olds := sW) (by rfl) (all_none iR.out) vk.out.1 ?p1 (ad := ⟨w3.heap.size, 0, none⟩) (m := 1) (c := 1) (news := [.pointer (some ⟨ub, 0, none⟩)]) (by rfl) rfl ?p2 ?p4 (by omega) (by have := vk.out.2; omega) ?p3
      case p1 => exact fun b e i q hq => iH.out.cell (dS.out.cell (HZ.out.cell (IQ.out b e i q hq)))
      case p2 =>
       intro i q hq
       cases i with
       | zero =>
        simp at hq
        subst hq
        have e0 : (⟨w3.heap.size, 0, none⟩ : Addr).add 0 = ⟨w3.heap.size, 0, none⟩ := by simp [Addr.add]
        rw [e0]; exact ZM.out
       | succ i => simp at hq
      case p4 =>
       intro q hq
       obtain rfl : q = .pointer (some ⟨ub, 0, none⟩) := by simpa using hq
       rfl
      intro g2 c2 w5 Ak eX
      have Cv := (HZ.out.trans (dS.out.trans iH.out)).trans eX
      have EO : RAt (fun b => wo.heap.size ≤ b ∧ b < w3.heap.size) w5 oc (.pointer (some ⟨ub, 0, none⟩)) := RAt.keep ((iH.out.trans eX).kept _) oc (RAt.sub (fun b hb hl => ⟨Nat.le_trans HZ.out.size hb, hl⟩) oc ZL.out)
      have hs3 := iH.out.size
      have hsw := (HZ.out.trans dS.out).size
      have hBl := LB.out.lt
      have SY := aa (LB.out.lay UN.out Cv hsw (fun b hb => by have := (aF Ak hb).1; omega) EO acc.length (by rw [List.take_of_length_le (by rw [vk.out.1]; exact Nat.le_refl _), List.drop_of_length_le (by rw [vk.out.1]; exact Nat.le_refl _)]; exact Ak.tQ (by omega)))
      have uS : Hid (pQ s oc acc = acc.take acc.length ++ oc :: acc.drop acc.length) := by unfold Hid pQ; rw [SS.out]
      have hcw := (LB.out.up Cv).cells
      have hyf := hcw.2.2.2
      have hyc5 := hcw.2.1
      have jQ := aa ((dS.out.trans iH.out).trans eX)
      have P3 : Hid (Up w (w5.setCell ⟨w.heap.size, 1, none⟩ (.slice (some ⟨g2, 0, none⟩) (acc.length + 1) c2))) := Below.setCell (p := ⟨w.heap.size, 1, none⟩) (jC.out.trans Cv) (Nat.le_refl _) _
      clear Ak eX Cv EO hs3 hsw hcw
      refine hK.out _ _ (fun _ => kO.out _ jQ.out) (fun hS => ?_)
      replace hS := hS ⟨27, by decide, rfl⟩
      try simp only [Act.put, aq, ah, au]
      refine af.take (i := 25) (v := ?gv25k6) rfl (by kernel_rfl) (fun _ _ _ h => h) (by rfl) (fun w hSw => ?Z0) hS ?gr25k6
      case Z0 =>
       (try dsimp only at hSw)
       go_simp
       try with_reducible rfl
      try simp only [Act.put, aq, ah, au]
      refine af.take (i := 26) (v := ?gv26k6) rfl (by kernel_rfl) (fun _ _ _ h => h) (by rfl) (fun w hSw => ?Z1) hS ?gr26k6
      case Z1 =>
       (try dsimp only at hSw)
       go_simp
       try with_reducible rfl
      try simp only [Act.put, aq, ah, au]
      refine af.step (i := 27) rfl (by kernel_rfl) (fun K' hK => ?_)
      go_simp
      refine hK.out _ _ (aJ (by kernel_rfl)) (fun hS => ?_)
      refine af.done (by kernel_rfl) ?_
      go_wp2_with fail
      go_roundw
      case rel => exact ⟨j + 1, _, aY.out, by go_num, by rw [HT.out, uS.out]; exact SY.out, P3.out⟩
      case measure => have := aY.out; simp [intOf]; omega
   ·obtain rfl : j = ks.length := by omega
    have HD := aa hW.out.done
    have PX := aa fV.out
    clear hW fV hlt hj
    go_wp2_with fail
    go_ret
    refine ⟨PX.out, _, rfl, ?_⟩
    have h := HD.out
    rw [List.take_length] at h
    rw [ordR]; exact h
end Go.Proofs.YteegefnjnikngaaGreat
