/- The contract of layer 31's reference's ordered. -/
import Derived.Test.YthgabkgmkolobaaGreatQ1
import Derived.Test.YthgabkgmkolobaaGreatQ19
set_option maxRecDepth 100000
namespace Go.Proofs.YthgabkgmkolobaaGreat
open Go.RowKit Go.Deep
def posK (s : ByteArray) : List RT → Nat
 | [] => 0
 | b :: l => if ye (lstR b) s = true then posK s l + 1 else 0
theorem C8 {s : ByteArray} : ∀ {l : List RT} {k : Nat}, k ≤ l.length → (∀ j, j < k → ye (lstR (gr l j)) s = true) → (k < l.length → ye (lstR (gr l k)) s = false) → posK s l = k
 | [], k, hk, _, _ => by
  obtain rfl : k = 0 := by simpa using hk
  rfl
 | b :: l, 0, _, _, h => by
  have h1 : ye (lstR b) s = false := h (by simp)
  rw [posK, if_neg (by rw [h1]; simp)]
 | b :: l, k + 1, hk, h0, h => by
  have h1 : ye (lstR b) s = true := h0 0 (by omega)
  rw [posK, if_pos h1, C8 (l := l) (k := k) (by simpa using hk) (fun j hj => h0 (j + 1) (by omega)) (fun hl => h (by simpa using hl))]
def oQ (s : ByteArray) (o : RT) (l : List RT) : List RT := l.take (posK s l) ++ (o :: l.drop (posK s l))
mutual
def ordR : RT → RT
 | .node nm ks => .node nm (eE [] ks)
def eE (acc : List RT) : List RT → List RT
 | [] => acc
 | c :: cs => eE (oQ (lstR c) (ordR c) acc) cs
end
theorem Sb (s : ByteArray) (o : RT) (l : List RT) : (oQ s o l).length = l.length + 1 := by
 unfold oQ
 have : posK s l ≤ l.length := by
  induction l with
  | nil => exact Nat.le_refl _
  | cons b l ih =>
   rw [posK, List.length_cons]; split
   ·omega
   ·omega
 rw [List.length_append, List.length_take, List.length_cons, List.length_drop]; omega
theorem Ew (acc : List RT) : ∀ (a b : List RT), eE acc (a ++ b) = eE (eE acc a) b
 | [], _ => by rw [eE]; rfl
 | c :: a, b => by rw [List.cons_append, eE, eE]; exact Ew _ a b
theorem MF {ks : List RT} {i : Nat} (h : i < ks.length) : eE [] (ks.take (i + 1)) = oQ (lstR (gr ks i)) (ordR (gr ks i)) (eE [] (ks.take i)) := by
 have hg : gr ks i = ks[i] := by simp [gr, h]
 rw [List.take_succ_eq_append_getElem h, Ew, eE, eE, hg]
theorem Ex : ∀ (ks acc : List RT), (eE acc ks).length = acc.length + ks.length
 | [], acc => by rw [eE]; simp
 | c :: ks, acc => by rw [eE, Ex ks, Sb, List.length_cons]; omega
theorem qQ : ∀ (a b : List RT), sizeRs (a ++ b) = sizeRs a + sizeRs b
 | [], b => by rw [sizeRs]; simp
 | r :: a, b => by rw [List.cons_append, sizeRs, sizeRs, qQ a b]; omega
theorem MG (s : ByteArray) (o : RT) (l : List RT) : sizeRs (oQ s o l) = sizeRs l + aH o := by
 unfold oQ
 rw [qQ, sizeRs]
 have h := qQ (l.take (posK s l)) (l.drop (posK s l))
 rw [List.take_append_drop] at h; omega
mutual
theorem Ey : ∀ r : RT, aH (ordR r) = aH r
 | .node nm ks => by rw [ordR, aH, aH, vW ks []]; simp [sizeRs]
theorem vW : ∀ (ks acc : List RT), sizeRs (eE acc ks) = sizeRs acc + sizeRs ks
 | [], acc => by rw [eE, sizeRs]; rfl
 | c :: ks, acc => by rw [eE, vW ks, MG, Ey c, sizeRs]; omega
end
theorem Kc (ks : List RT) (i : Nat) : sizeRs (ks.take i) ≤ sizeRs ks := by
 have h := qQ (ks.take i) (ks.drop i)
 rw [List.take_append_drop] at h; omega
theorem MH {S : Nat → Prop} {w : World} {b off n cap k : Nat} {vs : List Value} (h : aB S w (.slice (some ⟨b, off, none⟩) n cap) n (vN vs)) (hl : vs.length = n) (_ : k < n) (i : Nat) (q : Value) (hq : (vs.drop k)[i]? = some q) : w.cell? ((⟨b, off + k, none⟩ : Addr).add i) = some q := by
 rw [List.getElem?_drop] at hq
 have hki : k + i < n := by rw [← hl]; exact (List.getElem?_eq_some_iff.1 hq).1
 obtain ⟨b', o', e, hc⟩ := nM h hki
 injection e with e
 injection e with e1 e2
 subst e1; subst e2
 have hv : vN vs (k + i) = q := by unfold vN; rw [List.getD_eq_getElem?_getD, hq]; rfl
 rw [hv] at hc
 rw [Addr.add_lit, show off + k + i = off + (k + i) by omega]; exact hc
theorem MI {S : Nat → Prop} {w : World} {b off n cap k : Nat} {vs : List Value} (h : aB S w (.slice (some ⟨b, off, none⟩) n cap) n (vN vs)) (hl : vs.length = n) (_ : k ≤ n) (i : Nat) (q : Value) (hq : (vs.take k)[i]? = some q) : w.cell? ((⟨b, off, none⟩ : Addr).add i) = some q := by
 rw [List.getElem?_take] at hq
 split at hq
 ·have hki : i < n := by rw [← hl]; exact (List.getElem?_eq_some_iff.1 hq).1
  obtain ⟨b', o', e, hc⟩ := nM h hki
  injection e with e
  injection e with e1 e2
  subst e1; subst e2
  have hv : vN vs i = q := by unfold vN; rw [List.getD_eq_getElem?_getD, hq]; rfl
  rw [hv] at hc
  rw [Addr.add_lit]; exact hc
 ·cases hq
theorem G4 {S : Nat → Prop} {w : World} : ∀ {rs : List RT} {vs : List Value}, RsAt S w rs vs → ∀ u ∈ vs, u.oneCell' = true
 | [], vs, h, u, hu => by unfold RsAt at h; subst h; cases hu
 | r :: rs, vs, h, u, hu => by
  unfold RsAt at h
  obtain ⟨x, us, rfl, h1, h2⟩ := h
  rcases List.mem_cons.1 hu with rfl | hu
  ·obtain ⟨b, rfl⟩ := oO h1; rfl
  ·exact G4 h2 u hu
theorem quiet_of {P : Program} {f : FuncId} {args : Array Value} {w : World} {m n : Nat} {v : Value} (h : Calls P f args (w.drewN (m + n)) fun e w' => e = .returned v ∧ w.drewN (m + n) = w') : Calls P f args (w.drewN (m + n)) fun e w'' => e = .returned v ∧ ∃ q, w'' = w.drewN (m + q) :=
 h.mono fun _ _ ⟨h1, h2⟩ => ⟨h1, n, h2.symm⟩
def Pe (w : World) (r : RT) (e : Ending) (w' : World) : Prop := Up w w' ∧ ∃ u, e = .returned u ∧ RAt (fun b => w.heap.size ≤ b) w' (ordR r) u
set_option maxHeartbeats 4000000 in
theorem Pf (S : Nat → Prop) : ∀ (d : Nat) (r : RT), aH r ≤ d → d ≤ 90000 → ∀ (w : World) (v : Value), RAt S w r v → Calls Tryz.prog 206 #[v] w (Pe w r) := by
 intro d
 induction d with
 | zero => intro r hr; have := gD r; omega
 | succ d ih =>
 intro r hr hd w v hv
 cases r with
 | node nm ks =>
  have hv0 := hv
  obtain ⟨xb, kp, kc, vs, rfl, hS, c0, c1, hk, hs⟩ := hv.open
  simp only [RT.nm, RT.kids] at c0 c1 hk hs
  have fT := nN ks
  rw [aH] at hr
  have bf := Up.alloc w (.cells #[.string nm, .slice none 0 0] 254)
  have HW0 := aa (kD.start w (Nat.le_refl _) nm)
  have kQ := aa c1
  have HK := aa hk
  have HR := aa hs
  have js : Hid (∀ j, j < ks.length → ∀ W, Up w W → Calls Tryz.prog 206 #[vN vs j] W (Pe W (gr ks j))) := fun j hj W hW => by
   have h1 := rj hj
   exact ih (gr ks j) (by omega) (by omega) W _ (RAt.keep (hW.kept S) _ (RsAt.get ks hs j hj))
  have HLX : Hid (∀ j, j < ks.length → ∀ W, Up w W → Calls Tryz.prog 254 #[vN vs j] W fun e w' => e = .returned (.string (lstR (gr ks j))) ∧ W = w') := fun j hj W hW => by
   have h1 := rj hj
   exact GY S (aH (gr ks j)) _ (Nat.le_refl _) (by omega) W _ (RAt.keep (hW.kept S) _ (RsAt.get ks hs j hj))
  have HU := aa bf
  have iB : Hid (ks.length ≤ 90000) := by unfold Hid; omega
  have YJ : Hid (sizeRs ks ≤ 90000) := by unfold Hid; omega
  clear ih hv hv0 bf hk hs hr fT hS
  go_enter Tryz.func206, Tryz.ntmps206
  go_wp2_with fail
  clear c0 c1
  go_loopw [4, 5] (fun i _ wr => ∃ (j : Nat) (kv : Value), j ≤ ks.length ∧ i = .int .i64 j ∧ Hid (kD w.heap.size w.heap.size wr nm kv (eE [] (ks.take j))) ∧ Hid (Up w wr)) (fun i _ _ => ks.length - (intOf i).toNat)
  case atStart => exact ⟨0, _, Nat.zero_le _, rfl, by rw [List.take_zero, eE]; exact HW0.out, HU.out⟩
  case round =>
   obtain ⟨j, kv, hj, rfl, hW, fE⟩ := hrel
   obtain ⟨wo, rfl⟩ : ∃ wo : World, wo = wr := ⟨_, rfl⟩
   have x1 := fE.out.cell kQ.out
   by_cases hlt : j < ks.length
   ·obtain ⟨acc, hacc⟩ : ∃ acc, acc = eE [] (ks.take j) := ⟨_, rfl⟩
    have HT : Hid (eE [] (ks.take (j + 1)) = oQ (lstR (gr ks j)) (ordR (gr ks j)) acc) := by rw [hacc]; exact MF hlt
    have hal2 : acc.length ≤ 90000 := by
     rw [hacc, Ex, List.length_take]; have := iB.out; simp; omega
    have uH : sizeRs acc ≤ 90000 := by
     rw [hacc, vW]; have := Kc ks j; have := YJ.out; simp [sizeRs]; omega
    rw [← hacc] at hW
    obtain ⟨r4, ho, BV⟩ := hW.out.kids
    have hcw := hW.out.cells
    have hlen := RsAt.len acc BV
    have gN := ho.Au
    rw [hlen] at gN
    obtain ⟨ap, ac, rfl, hac, _⟩ := aB.open gN
    have hy1 := hcw.2.1
    obtain ⟨kb, ko, rfl, hkc⟩ := nM (HK.out.keep (fE.out.kept _)) hlt
    have yg : Hid (∀ k, k < acc.length → ∀ W, Up wo W → Calls Tryz.prog 254 #[vN r4 k] W fun e w' => e = .returned (.string (lstR (gr acc k))) ∧ W = w') := fun k hk W YK => by
     have h1 := rj hk
     exact GY _ (aH (gr acc k)) _ (Nat.le_refl _) (by omega) W _ (RAt.keep (YK.kept _) _ (RsAt.get acc BV k hk))
    have B1 : Hid (∀ W, Up wo W → Calls Tryz.prog 254 #[vN vs j] W fun e w' => e = .returned (.string (lstR (gr ks j))) ∧ W = w') := fun W YK => HLX.out j hlt W (fE.out.trans YK)
    have HOC := aa (js.out j hlt)
    have HY1 := aa hy1
    have kE := aa x1
    have X7 := aa hkc
    have iA := aa gN
    have La := aa hW.out
    have kC := aa fE.out
    have aV := aa hlt
    have U1 := aa BV
    have U2 := aa ho
    have yh := aa hlen
    have i1 : (0 : Int) ≤ (j : Int) := by omega
    have i2 : (j : Int) < (ks.length : Int) := by omega
    have i3 : (j : Int) < 90000 := by have := iB.out; omega
    clear hacc uH BV ho hcw hlen gN hW fE hlt hj
    generalize vN vs j = xv at *
    generalize hs : lstR (gr ks j) = s at *
    generalize hoc : ordR (gr ks j) = oc at *
    go_wp2_with fail
    go_loopw [5] (fun q wr => ∃ k m : Nat, k ≤ acc.length ∧ q = .int .i64 k ∧ wr = wo.drewN m ∧ Hid (∀ i, i < k → ye (lstR (gr acc i)) s = true)) (fun q _ => acc.length - (intOf q).toNat)
    case atStart => exact ⟨0, 0, Nat.zero_le _, rfl, rfl, fun i hi => absurd hi (Nat.not_lt_zero _)⟩
    case round =>
     obtain ⟨k, m, hk, rfl, rfl, hlo⟩ := hrel
     by_cases YL : k < acc.length
     ·obtain ⟨yb, yo, rfl, hyc⟩ := nM iA.out YL
      have HM1 := aa (fun n => quiet_of (m := m) (n := n) (yg.out k YL _ (Up.drewN wo _)))
      have Lb := aa (fun n => quiet_of (m := m) (n := n) (B1.out _ (Up.drewN wo _)))
      have k1 : (0 : Int) ≤ (k : Int) := by omega
      have k2 : (k : Int) < (acc.length : Int) := by omega
      have k3 : (k : Int) < 90000 := by omega
      have dk : decide ((k : Int) < (acc.length : Int)) = true := by simp; omega
      have dn : decide (k < acc.length) = true := by simp; omega
      have yj := aa YL
      generalize vN r4 k = yv at *
      cases hls : ye (lstR (gr acc k)) s
      ·have hbl : Op.bytesLess (lstR (gr acc k)).toList s.toList = false := hls
       have OC := aa hls
       clear hls hk
       generalize hs1 : lstR (gr acc k) = s1 at *
       go_wp2_with fail
       go_big_quiet (first | with_reducible exact HM1.out _ | with_reducible exact Lb.out _)
       go_wp2_with fail
       have HZ : Hid (Up wo ((wo.drewN m).drewN nq)) := (Up.drewN _ _).trans (Up.drewN _ _)
       have Sc : Hid (posK s acc = k) := C8 (by have := yj.out; omega) hlo.out (fun _ => by rw [hs1]; exact OC.out)
       have hkle : k ≤ acc.length := Nat.le_of_lt yj.out
       generalize (wo.drewN m).drewN nq = wz at *
       have Sd := HZ.out.cell HY1.out
       have Sg := HZ.out.cell kE.out
       have Sh := HZ.out.cell X7.out
       have g1 : (0 : Int) ≤ (k : Int) := by omega
       have g2 : (k : Int) ≤ (acc.length : Int) := by omega
       have g3 : (k : Int) ≤ (ac : Int) := by omega
       have oh : Hid (∀ W, Up wz W → W.cell? ⟨w.heap.size, 1, none⟩ = some (.slice (some ⟨yb, yo, none⟩) acc.length ac) ∧ W.cell? ⟨xb, 1, none⟩ = some (.slice (some ⟨kb, ko, none⟩) ks.length kc) ∧ W.cell? ⟨kb, ko + j, none⟩ = some xv) := fun W hW => ⟨hW.cell Sd, hW.cell Sg, hW.cell Sh⟩
       refine dM (by kernel_rfl) 28 (fun w' => w'.cell? ⟨w.heap.size, 1, none⟩ = some (.slice (some ⟨yb, yo, none⟩) acc.length ac) ∧ w'.cell? ⟨xb, 1, none⟩ = some (.slice (some ⟨kb, ko, none⟩) ks.length kc) ∧ w'.cell? ⟨kb, ko + j, none⟩ = some xv) (oh.out _ (lK wz)) (fun hS => ?_)
       simp only [List.size_toArray, List.length_cons, List.length_nil, Nat.reduceAdd, Array.replicate_succ, Array.replicate_zero, List.push_toArray, List.nil_append, List.cons_append]
       refine af.take (i := 0) (v := ?tq) rfl (by kernel_rfl) (fun _ _ _ h => h) (by rfl) (fun w hSw => ?iE) hS ?tr
       case iE =>
        (try dsimp only at hSw)
        go_simp
        try with_reducible rfl
       try simp only [Act.put, au, av, ax]
       refine af.take (i := 1) (v := ?tu) rfl (by kernel_rfl) (fun _ _ _ h => h) (by rfl) (fun w hSw => ?iF) hS ?tA
       case iF =>
        (try dsimp only at hSw)
        go_simp
        try with_reducible rfl
       try simp only [Act.put, au, av, ax]
       refine af.take (i := 2) (v := ?vM) rfl (by kernel_rfl) (fun _ _ _ h => h) (by rfl) (fun w hSw => ?jF) hS ?vO
       case jF =>
        (try dsimp only at hSw)
        go_simp
        try with_reducible rfl
       try simp only [Act.put, au, av, ax]
       refine af.take (i := 3) (v := ?vP) rfl (by kernel_rfl) (fun _ _ _ h => h) (by rfl) (fun w hSw => ?jG) hS ?vQ
       case jG =>
        (try dsimp only at hSw)
        go_simp
        try with_reducible rfl
       try simp only [Act.put, au, av, ax]
       refine af.take (i := 4) (v := ?vR) rfl (by kernel_rfl) (fun _ _ _ h => h) (by rfl) (fun w hSw => ?jH) hS ?vS
       case jH =>
        (try dsimp only at hSw)
        go_simp
        try with_reducible rfl
       try simp only [Act.put, au, av, ax]
       refine af.take (i := 5) (v := ?vT) rfl (by kernel_rfl) (fun _ _ _ h => h) (by rfl) (fun w hSw => ?jI) hS ?vU
       case jI =>
        (try dsimp only at hSw)
        go_simp
        try with_reducible rfl
       try simp only [Act.put, au, av, ax]
       refine af.take (i := 6) (v := ?zj) rfl (by kernel_rfl) (fun _ _ _ h => h) (by rfl) (fun w hSw => ?lM) hS ?zk
       case lM =>
        (try dsimp only at hSw)
        go_simp
        try with_reducible rfl
       try simp only [Act.put, au, av, ax]
       refine af.take (i := 7) (v := .slice (some ⟨yb, yo, none⟩) k k) rfl (by kernel_rfl) (fun _ _ _ h => h) (by rfl) (fun w hSw => ?gy7a) hS ?gr7a
       case gy7a =>
        (try dsimp only at hSw)
        go_simp
       try simp only [Act.put, au, av, ax]
       refine af.take (i := 8) (v := ?gv8k2) rfl (by kernel_rfl) (fun _ _ _ h => h) (by rfl) (fun w hSw => ?gy8k2) hS ?gr8k2
       case gy8k2 =>
        (try dsimp only at hSw)
        go_simp
        try with_reducible rfl
       try simp only [Act.put, au, av, ax]
       refine af.take (i := 9) (v := ?gv9k2) rfl (by kernel_rfl) (fun _ _ _ h => h) (by rfl) (fun w hSw => ?gy9k2) hS ?gr9k2
       case gy9k2 =>
        (try dsimp only at hSw)
        go_simp
        try with_reducible rfl
       try simp only [Act.put, au, av, ax]
       refine af.take (i := 10) (v := ?gv10k2) rfl (by kernel_rfl) (fun _ _ _ h => h) (by rfl) (fun w hSw => ?YM) hS ?gr10k2
       case YM =>
        (try dsimp only at hSw)
        go_simp
        try with_reducible rfl
       try simp only [Act.put, au, av, ax]
       refine af.take (i := 11) (v := ?gv11k2) rfl (by kernel_rfl) (fun _ _ _ h => h) (by rfl) (fun w hSw => ?YN) hS ?gr11k2
       case YN =>
        (try dsimp only at hSw)
        go_simp
        try with_reducible rfl
       try simp only [Act.put, au, av, ax]
       refine af.take (i := 12) (v := ?gv12k2) rfl (by kernel_rfl) (fun _ _ _ h => h) (by rfl) (fun w hSw => ?YO) hS ?gr12k2
       case YO =>
        (try dsimp only at hSw)
        go_simp
        try with_reducible rfl
       try simp only [Act.put, au, av, ax]
       refine af.take (i := 13) (v := ?gv13k2) rfl (by kernel_rfl) (fun _ _ _ h => h) (by rfl) (fun w hSw => ?YP) hS ?gr13k2
       case YP =>
        (try dsimp only at hSw)
        go_simp
        try with_reducible rfl
       try simp only [Act.put, au, av, ax]
       refine af.take (i := 14) (v := ?gv14k2) rfl (by kernel_rfl) (fun _ _ _ h => h) (by rfl) (fun w hSw => ?YQ) hS ?gr14k2
       case YQ =>
        (try dsimp only at hSw)
        go_simp
        try with_reducible rfl
       try simp only [Act.put, au, av, ax]
       refine af.take (i := 17) (v := ?gv17k2) rfl (by kernel_rfl) (fun _ _ _ h => h) (by rfl) (fun w hSw => ?YS) hS ?gr17k2
       case YS =>
        (try dsimp only at hSw)
        go_simp
        try with_reducible rfl
       try simp only [Act.put, au, av, ax]
       refine af.take (i := 18) (v := ?gv18k2) rfl (by kernel_rfl) (fun _ _ _ h => h) (by rfl) (fun w hSw => ?YT) hS ?gr18k2
       case YT =>
        (try dsimp only at hSw)
        go_simp
        try with_reducible rfl
       try simp only [Act.put, au, av, ax]
       refine af.take (i := 19) (v := ?gv19k2) rfl (by kernel_rfl) (fun _ _ _ h => h) (by rfl) (fun w hSw => ?YU) hS ?gr19k2
       case YU =>
        (try dsimp only at hSw)
        go_simp
        try with_reducible rfl
       try simp only [Act.put, au, av, ax]
       refine af.take (i := 20) (v := ?gv20k2) rfl (by kernel_rfl) (fun _ _ _ h => h) (by rfl) (fun w hSw => ?YV) hS ?gr20k2
       case YV =>
        (try dsimp only at hSw)
        go_simp
        try with_reducible rfl
       try simp only [Act.put, au, av, ax]
       refine af.take (i := 21) (v := ?gv21k2) rfl (by kernel_rfl) (fun _ _ _ h => h) (by rfl) (fun w hSw => ?YW) hS ?gr21k2
       case YW =>
        (try dsimp only at hSw)
        go_simp
        try with_reducible rfl
       try simp only [Act.put, au, av, ax]
       refine af.take (i := 22) (v := .slice (some ⟨yb, yo + k, none⟩) (acc.length - k) (ac - k)) rfl (by kernel_rfl) (fun _ _ _ h => h) (by rfl) (fun w hSw => ?gy22a) hS ?gr22a
       case gy22a =>
        (try dsimp only at hSw)
        go_simp
        intro e; have := yj.out; omega
       try simp only [Act.put, au, av, ax]
       refine af.step (i := 15) rfl (by kernel_rfl) (fun K' hK => ?_)
       go_simp
       refine (HOC.out _ ((kC.out.trans HZ.out).trans (lK wz))).mono ?_
       rintro e w3 ⟨bX, u, rfl, hr3⟩
       have bX : Up wz.drew w3 := bX
       obtain ⟨ub, rfl⟩ := oO hr3
       rw [hoc] at hr3
       have dc := aa ((lK wz).trans bX)
       have YX := aa hr3
       have kU := aa (Up.alloc w3 (.cells #[.pointer (some ⟨ub, 0, none⟩)] 210))
       have hdc := MH iA.out yh.out yj.out
       have HDC := aa fun i q hq => kU.out.cell (dc.out.cell (HZ.out.cell (hdc i q hq)))
       have G5 := aa (MI iA.out yh.out hkle)
       have YY : Hid ((w3.alloc (.cells #[.pointer (some ⟨ub, 0, none⟩)] 210)).cell? ⟨w3.heap.size, 0, none⟩ = some (.pointer (some ⟨ub, 0, none⟩))) := xP _ _ _
       have uJ := aa (G4 U1.out)
       have uK : Hid (0 < acc.length - k ∧ (r4.drop k).length = acc.length - k ∧ (r4.take k).length = k ∧ acc.length ≤ 90000) := by
        have := yj.out; have := yh.out; unfold Hid; rw [List.length_drop, List.length_take]; omega
       clear bX hr3 hdc
       refine hK.out _ _ (fun _ => oh.out _ dc.out) (fun hS => ?_)
       replace hS := hS ⟨16, by decide, rfl⟩
       try simp only [au, av, ax]
       refine af.step (i := 16) rfl (by kernel_rfl) (fun K' hK => ?_)
       go_simp
       refine hK.out _ _ (fun _ => oh.out _ (dc.out.trans kU.out)) (fun hS => ?_)
       replace hS := hS ⟨23, by decide, rfl⟩
       try simp only [au, av, ax]
       refine af.step (i := 23) rfl (by kernel_rfl) (fun K' hK => ?_)
       refine yf (by rfl) _ _ _ (by rfl) 210 _ 8 Tryz.underlying252 Tryz.p7 (by rfl) (by decide) (ao := some ⟨w3.heap.size, 0, none⟩) (n := 1) (olds := [.pointer (some ⟨ub, 0, none⟩)]) (by rfl) (fun e => by cases e) rfl ?q1 (ad := ⟨yb, yo + k, none⟩) (m := acc.length - k) (c := ac - k) (news := r4.drop k) (by rfl) uK.out.2.1 (fun i q hq => HDC.out i q hq) ?q2 uK.out.1 (by have := uK.out.2.2.2; omega) ?q3
       case q1 =>
        intro b e i q hq
        injection e with e
        subst e
        cases i with
        | zero =>
         simp at hq
         subst hq
         have e0 : (⟨w3.heap.size, 0, none⟩ : Addr).add 0 = ⟨w3.heap.size, 0, none⟩ := by simp [Addr.add]
         rw [e0]; exact YY.out
        | succ i => simp at hq
       case q2 => exact fun q hq => uJ.out q (List.mem_of_mem_drop hq)
       intro g1 c1 w4 OP cF
       have jQ := aa (dc.out.trans (kU.out.trans cF))
       have HOC4 := aa (World.ownsRow.cells OP rfl)
       have HV4 := aa (kU.out.trans cF)
       clear OP cF
       refine hK.out _ _ (fun _ => oh.out _ jQ.out) (fun hS => ?_)
       replace hS := hS ⟨24, by decide, rfl⟩
       try simp only [Act.put, au, av, ax]
       refine af.step (i := 24) rfl (by kernel_rfl) (fun K' hK => ?_)
       refine yf (by rfl) _ _ _ (by rfl) 210 _ 8 Tryz.underlying252 Tryz.p7 (by rfl) (by decide) (ao := some ⟨yb, yo, none⟩) (n := k) (olds := r4.take k) (by rfl) (fun e => by cases e) uK.out.2.2.1 ?r1 (ad := ⟨g1, 0, none⟩) (m := 1 + (acc.length - k)) (c := c1) (news := [.pointer (some ⟨ub, 0, none⟩)] ++ r4.drop k) (by rfl) (by rw [List.length_append, uK.out.2.1]; rfl) (fun i q hq => HOC4.out i q hq) ?r2 (by omega) (by have := uK.out.2.2.2; omega) ?r3
       case r1 =>
        intro b e i q hq
        injection e with e
        subst e
        exact jQ.out.cell (HZ.out.cell (G5.out i q hq))
       case r2 =>
        intro q hq
        rcases List.mem_append.1 hq with h1 | h1
        ·obtain rfl : q = .pointer (some ⟨ub, 0, none⟩) := by simpa using h1
         rfl
        ·exact uJ.out q (List.mem_of_mem_drop h1)
       intro g2 c2 w5 z8 gp
       have B2 := (HZ.out.trans jQ.out).trans gp
       have Ez : RAt (fun b => wo.heap.size ≤ b ∧ b < w3.heap.size) w5 oc (.pointer (some ⟨ub, 0, none⟩)) := RAt.keep ((HV4.out.trans gp).kept _) oc (RAt.sub (fun b hb hl => ⟨Nat.le_trans HZ.out.size hb, hl⟩) oc YX.out)
       have hs3 := HV4.out.size
       have hsw := (HZ.out.trans dc.out).size
       have hBl := La.out.lt
       have Si := aa (La.out.lay U1.out B2 hsw (fun b hb => by have := (aF z8 hb).1; omega) Ez k (z8.xR (by omega)))
       have uL : Hid (oQ s oc acc = acc.take k ++ oc :: acc.drop k) := by unfold Hid oQ; rw [Sc.out]
       have hcw := (La.out.up B2).cells
       have hyf := hcw.2.2.2
       have hyc5 := hcw.2.1
       have iT := aa (jQ.out.trans gp)
       have uM : Hid (Up w (w5.setCell ⟨w.heap.size, 1, none⟩ (.slice (some ⟨g2, 0, none⟩) (k + (1 + (acc.length - k))) c2))) := Below.setCell (p := ⟨w.heap.size, 1, none⟩) (kC.out.trans B2) (Nat.le_refl _) _
       clear z8 gp B2 Ez hs3 hsw hcw
       refine hK.out _ _ (fun _ => oh.out _ iT.out) (fun hS => ?_)
       replace hS := hS ⟨27, by decide, rfl⟩
       try simp only [Act.put, au, av, ax]
       refine af.take (i := 25) (v := ?gv25k3) rfl (by kernel_rfl) (fun _ _ _ h => h) (by rfl) (fun w hSw => ?YZ) hS ?gr25k3
       case YZ =>
        (try dsimp only at hSw)
        go_simp
        try with_reducible rfl
       try simp only [Act.put, au, av, ax]
       refine af.take (i := 26) (v := ?gv26k3) rfl (by kernel_rfl) (fun _ _ _ h => h) (by rfl) (fun w hSw => ?Y0) hS ?gr26k3
       case Y0 =>
        (try dsimp only at hSw)
        go_simp
        try with_reducible rfl
       try simp only [Act.put, au, av, ax]
       refine af.step (i := 27) rfl (by kernel_rfl) (fun K' hK => ?_)
       go_simp
       refine hK.out _ _ (aJ (by kernel_rfl)) (fun hS => ?_)
       refine af.done (by kernel_rfl) ?_
       go_wp2_with fail
       go_roundw
       case rel => exact ⟨j + 1, _, aV.out, by go_num, by rw [HT.out, uL.out]; exact Si.out, uM.out⟩
       case measure => have := aV.out; simp [intOf]; omega
      ·have hbl : Op.bytesLess (lstR (gr acc k)).toList s.toList = true := hls
       have OC := aa hls
       clear hls hk
       generalize hs1 : lstR (gr acc k) = s1 at *
       go_wp2_with fail
       go_big_quiet (first | with_reducible exact HM1.out _ | with_reducible exact Lb.out _)
       go_wp2_with fail
       go_roundw
       case rel => exact ⟨k + 1, m + nq, yj.out, by go_num, rfl, fun i hi => if e : i = k then by subst e; rw [hs1]; exact OC.out else hlo.out i (by omega)⟩
       case measure => have := yj.out; simp [intOf]; omega
     ·obtain rfl : k = acc.length := by omega
      have dk : decide ((acc.length : Int) < (acc.length : Int)) = false := by simp
      have dn : decide (acc.length < acc.length) = false := by simp
      go_wp2_with fail
      go_big_quiet (fail)
      go_wp2_with fail
      have HZ : Hid (Up wo ((wo.drewN m).drewN nq)) := (Up.drewN _ _).trans (Up.drewN _ _)
      have Sc : Hid (posK s acc = acc.length) := C8 (Nat.le_refl _) hlo.out (fun h => absurd h (Nat.lt_irrefl _))
      generalize (wo.drewN m).drewN nq = wz at *
      have Sd := HZ.out.cell HY1.out
      have Sg := HZ.out.cell kE.out
      have Sh := HZ.out.cell X7.out
      have g1 : (0 : Int) ≤ (acc.length : Int) := by omega
      have g2 : (acc.length : Int) ≤ (acc.length : Int) := by omega
      have g3 : (acc.length : Int) ≤ (ac : Int) := by omega
      have oh : Hid (∀ W, Up wz W → W.cell? ⟨w.heap.size, 1, none⟩ = some (.slice ap acc.length ac) ∧ W.cell? ⟨xb, 1, none⟩ = some (.slice (some ⟨kb, ko, none⟩) ks.length kc) ∧ W.cell? ⟨kb, ko + j, none⟩ = some xv) := fun W hW => ⟨hW.cell Sd, hW.cell Sg, hW.cell Sh⟩
      refine dM (by kernel_rfl) 28 (fun w' => w'.cell? ⟨w.heap.size, 1, none⟩ = some (.slice ap acc.length ac) ∧ w'.cell? ⟨xb, 1, none⟩ = some (.slice (some ⟨kb, ko, none⟩) ks.length kc) ∧ w'.cell? ⟨kb, ko + j, none⟩ = some xv) (oh.out _ (lK wz)) (fun hS => ?_)
      simp only [List.size_toArray, List.length_cons, List.length_nil, Nat.reduceAdd, Array.replicate_succ, Array.replicate_zero, List.push_toArray, List.nil_append, List.cons_append]
      refine af.take (i := 0) (v := ?gv0k4) rfl (by kernel_rfl) (fun _ _ _ h => h) (by rfl) (fun w hSw => ?gy0k4) hS ?gr0k4
      case gy0k4 =>
       (try dsimp only at hSw)
       go_simp
       try with_reducible rfl
      try simp only [Act.put, au, av, ax]
      refine af.take (i := 1) (v := ?gv1k4) rfl (by kernel_rfl) (fun _ _ _ h => h) (by rfl) (fun w hSw => ?gy1k4) hS ?gr1k4
      case gy1k4 =>
       (try dsimp only at hSw)
       go_simp
       try with_reducible rfl
      try simp only [Act.put, au, av, ax]
      refine af.take (i := 2) (v := ?gv2k4) rfl (by kernel_rfl) (fun _ _ _ h => h) (by rfl) (fun w hSw => ?gy2k4) hS ?gr2k4
      case gy2k4 =>
       (try dsimp only at hSw)
       go_simp
       try with_reducible rfl
      try simp only [Act.put, au, av, ax]
      refine af.take (i := 3) (v := ?gv3k4) rfl (by kernel_rfl) (fun _ _ _ h => h) (by rfl) (fun w hSw => ?gy3k4) hS ?gr3k4
      case gy3k4 =>
       (try dsimp only at hSw)
       go_simp
       try with_reducible rfl
      try simp only [Act.put, au, av, ax]
      refine af.take (i := 4) (v := ?gv4k4) rfl (by kernel_rfl) (fun _ _ _ h => h) (by rfl) (fun w hSw => ?gy4k4) hS ?gr4k4
      case gy4k4 =>
       (try dsimp only at hSw)
       go_simp
       try with_reducible rfl
      try simp only [Act.put, au, av, ax]
      refine af.take (i := 5) (v := ?gv5k4) rfl (by kernel_rfl) (fun _ _ _ h => h) (by rfl) (fun w hSw => ?gy5k4) hS ?gr5k4
      case gy5k4 =>
       (try dsimp only at hSw)
       go_simp
       try with_reducible rfl
      try simp only [Act.put, au, av, ax]
      refine af.take (i := 6) (v := ?gv6k4) rfl (by kernel_rfl) (fun _ _ _ h => h) (by rfl) (fun w hSw => ?gy6k4) hS ?gr6k4
      case gy6k4 =>
       (try dsimp only at hSw)
       go_simp
       try with_reducible rfl
      try simp only [Act.put, au, av, ax]
      refine af.take (i := 7) (v := .slice ap acc.length acc.length) rfl (by kernel_rfl) (fun _ _ _ h => h) (by rfl) (fun w hSw => ?gy7b) hS ?gr7b
      case gy7b =>
       (try dsimp only at hSw)
       go_simp
      try simp only [Act.put, au, av, ax]
      refine af.take (i := 8) (v := ?gv8k5) rfl (by kernel_rfl) (fun _ _ _ h => h) (by rfl) (fun w hSw => ?gy8k5) hS ?gr8k5
      case gy8k5 =>
       (try dsimp only at hSw)
       go_simp
       try with_reducible rfl
      try simp only [Act.put, au, av, ax]
      refine af.take (i := 9) (v := ?gv9k5) rfl (by kernel_rfl) (fun _ _ _ h => h) (by rfl) (fun w hSw => ?gy9k5) hS ?gr9k5
      case gy9k5 =>
       (try dsimp only at hSw)
       go_simp
       try with_reducible rfl
      try simp only [Act.put, au, av, ax]
      refine af.take (i := 10) (v := ?gv10k5) rfl (by kernel_rfl) (fun _ _ _ h => h) (by rfl) (fun w hSw => ?Y1) hS ?gr10k5
      case Y1 =>
       (try dsimp only at hSw)
       go_simp
       try with_reducible rfl
      try simp only [Act.put, au, av, ax]
      refine af.take (i := 11) (v := ?gv11k5) rfl (by kernel_rfl) (fun _ _ _ h => h) (by rfl) (fun w hSw => ?Y2) hS ?gr11k5
      case Y2 =>
       (try dsimp only at hSw)
       go_simp
       try with_reducible rfl
      try simp only [Act.put, au, av, ax]
      refine af.take (i := 12) (v := ?gv12k5) rfl (by kernel_rfl) (fun _ _ _ h => h) (by rfl) (fun w hSw => ?Y3) hS ?gr12k5
      case Y3 =>
       (try dsimp only at hSw)
       go_simp
       try with_reducible rfl
      try simp only [Act.put, au, av, ax]
      refine af.take (i := 13) (v := ?gv13k5) rfl (by kernel_rfl) (fun _ _ _ h => h) (by rfl) (fun w hSw => ?Y4) hS ?gr13k5
      case Y4 =>
       (try dsimp only at hSw)
       go_simp
       try with_reducible rfl
      try simp only [Act.put, au, av, ax]
      refine af.take (i := 14) (v := ?gv14k5) rfl (by kernel_rfl) (fun _ _ _ h => h) (by rfl) (fun w hSw => ?Y5) hS ?gr14k5
      case Y5 =>
       (try dsimp only at hSw)
       go_simp
       try with_reducible rfl
      try simp only [Act.put, au, av, ax]
      refine af.take (i := 17) (v := ?gv17k5) rfl (by kernel_rfl) (fun _ _ _ h => h) (by rfl) (fun w hSw => ?Y6) hS ?gr17k5
      case Y6 =>
       (try dsimp only at hSw)
       go_simp
       try with_reducible rfl
      try simp only [Act.put, au, av, ax]
      refine af.take (i := 18) (v := ?gv18k5) rfl (by kernel_rfl) (fun _ _ _ h => h) (by rfl) (fun w hSw => ?Y7) hS ?gr18k5
      case Y7 =>
       (try dsimp only at hSw)
       go_simp
       try with_reducible rfl
      try simp only [Act.put, au, av, ax]
      refine af.take (i := 19) (v := ?gv19k5) rfl (by kernel_rfl) (fun _ _ _ h => h) (by rfl) (fun w hSw => ?Y8) hS ?gr19k5
      case Y8 =>
       (try dsimp only at hSw)
       go_simp
       try with_reducible rfl
      try simp only [Act.put, au, av, ax]
      refine af.take (i := 20) (v := ?gv20k5) rfl (by kernel_rfl) (fun _ _ _ h => h) (by rfl) (fun w hSw => ?Y9) hS ?gr20k5
      case Y9 =>
       (try dsimp only at hSw)
       go_simp
       try with_reducible rfl
      try simp only [Act.put, au, av, ax]
      refine af.take (i := 21) (v := ?gv21k5) rfl (by kernel_rfl) (fun _ _ _ h => h) (by rfl) (fun w hSw => ?Za) hS ?gr21k5
      case Za =>
       (try dsimp only at hSw)
       go_simp
       try with_reducible rfl
      try simp only [Act.put, au, av, ax]
      refine af.take (i := 22) (v := .slice (R9 ap acc.length ac) 0 (ac - acc.length)) rfl (by kernel_rfl) (fun _ _ _ h => h) (by rfl) (fun w hSw => ?gy22b) hS ?gr22b
      case gy22b =>
       (try dsimp only at hSw)
       go_simp
       try (unfold R9; simp)
      try simp only [Act.put, au, av, ax]
      refine af.step (i := 15) rfl (by kernel_rfl) (fun K' hK => ?_)
      go_simp
      refine (HOC.out _ ((kC.out.trans HZ.out).trans (lK wz))).mono ?_
      rintro e w3 ⟨bX, u, rfl, hr3⟩
      have bX : Up wz.drew w3 := bX
      obtain ⟨ub, rfl⟩ := oO hr3
      rw [hoc] at hr3
      have dc := aa ((lK wz).trans bX)
      have YX := aa hr3
      have kU := aa (Up.alloc w3 (.cells #[.pointer (some ⟨ub, 0, none⟩)] 210))
      have G5 := aa (Pb iA.out yh.out)
      have YY : Hid ((w3.alloc (.cells #[.pointer (some ⟨ub, 0, none⟩)] 210)).cell? ⟨w3.heap.size, 0, none⟩ = some (.pointer (some ⟨ub, 0, none⟩))) := xP _ _ _
      have uJ := aa (G4 U1.out)
      have uK : Hid (r4.length = acc.length ∧ acc.length ≤ 90000) := ⟨yh.out, hal2⟩
      clear bX hr3
      refine hK.out _ _ (fun _ => oh.out _ dc.out) (fun hS => ?_)
      replace hS := hS ⟨16, by decide, rfl⟩
      try simp only [au, av, ax]
      refine af.step (i := 16) rfl (by kernel_rfl) (fun K' hK => ?_)
      go_simp
      refine hK.out _ _ (fun _ => oh.out _ (dc.out.trans kU.out)) (fun hS => ?_)
      replace hS := hS ⟨23, by decide, rfl⟩
      try simp only [au, av, ax]
      refine af.step (i := 23) rfl (by kernel_rfl) (fun K' hK => ?_)
      refine Pa (by rfl) _ _ _ (by rfl) 210 _ 8 Tryz.underlying252 Tryz.p7 (ao := some ⟨w3.heap.size, 0, none⟩) (n := 1) (c := 1) (by rfl) (Nat.le_refl _) (ad := R9 ap acc.length ac) (c2 := ac - acc.length) (by rfl) ?_
      refine hK.out _ _ (fun _ => oh.out _ (dc.out.trans kU.out)) (fun hS => ?_)
      replace hS := hS ⟨24, by decide, rfl⟩
      try simp only [Act.put, au, av, ax]
      refine af.step (i := 24) rfl (by kernel_rfl) (fun K' hK => ?_)
      refine yf (by rfl) _ _ _ (by rfl) 210 _ 8 Tryz.underlying252 Tryz.p7 (by rfl) (by decide) (ao := ap) (n := acc.length) (olds := r4) (by rfl) (all_none iA.out) uK.out.1 ?p1 (ad := ⟨w3.heap.size, 0, none⟩) (m := 1) (c := 1) (news := [.pointer (some ⟨ub, 0, none⟩)]) (by rfl) rfl ?p2 ?p4 (by omega) (by have := uK.out.2; omega) ?p3
      case p1 => exact fun b e i q hq => kU.out.cell (dc.out.cell (HZ.out.cell (G5.out b e i q hq)))
      case p2 =>
       intro i q hq
       cases i with
       | zero =>
        simp at hq
        subst hq
        have e0 : (⟨w3.heap.size, 0, none⟩ : Addr).add 0 = ⟨w3.heap.size, 0, none⟩ := by simp [Addr.add]
        rw [e0]; exact YY.out
       | succ i => simp at hq
      case p4 =>
       intro q hq
       obtain rfl : q = .pointer (some ⟨ub, 0, none⟩) := by simpa using hq
       rfl
      intro g2 c2 w5 z8 gp
      have B2 := (HZ.out.trans (dc.out.trans kU.out)).trans gp
      have Ez : RAt (fun b => wo.heap.size ≤ b ∧ b < w3.heap.size) w5 oc (.pointer (some ⟨ub, 0, none⟩)) := RAt.keep ((kU.out.trans gp).kept _) oc (RAt.sub (fun b hb hl => ⟨Nat.le_trans HZ.out.size hb, hl⟩) oc YX.out)
      have hs3 := kU.out.size
      have hsw := (HZ.out.trans dc.out).size
      have hBl := La.out.lt
      have Si := aa (La.out.lay U1.out B2 hsw (fun b hb => by have := (aF z8 hb).1; omega) Ez acc.length (by rw [List.take_of_length_le (by rw [uK.out.1]; exact Nat.le_refl _), List.drop_of_length_le (by rw [uK.out.1]; exact Nat.le_refl _)]; exact z8.xR (by omega)))
      have uL : Hid (oQ s oc acc = acc.take acc.length ++ oc :: acc.drop acc.length) := by unfold Hid oQ; rw [Sc.out]
      have hcw := (La.out.up B2).cells
      have hyf := hcw.2.2.2
      have hyc5 := hcw.2.1
      have iT := aa ((dc.out.trans kU.out).trans gp)
      have uM : Hid (Up w (w5.setCell ⟨w.heap.size, 1, none⟩ (.slice (some ⟨g2, 0, none⟩) (acc.length + 1) c2))) := Below.setCell (p := ⟨w.heap.size, 1, none⟩) (kC.out.trans B2) (Nat.le_refl _) _
      clear z8 gp B2 Ez hs3 hsw hcw
      refine hK.out _ _ (fun _ => oh.out _ iT.out) (fun hS => ?_)
      replace hS := hS ⟨27, by decide, rfl⟩
      try simp only [Act.put, au, av, ax]
      refine af.take (i := 25) (v := ?gv25k6) rfl (by kernel_rfl) (fun _ _ _ h => h) (by rfl) (fun w hSw => ?Zb) hS ?gr25k6
      case Zb =>
       (try dsimp only at hSw)
       go_simp
       try with_reducible rfl
      try simp only [Act.put, au, av, ax]
      refine af.take (i := 26) (v := ?gv26k6) rfl (by kernel_rfl) (fun _ _ _ h => h) (by rfl) (fun w hSw => ?Zc) hS ?gr26k6
      case Zc =>
       (try dsimp only at hSw)
       go_simp
       try with_reducible rfl
      try simp only [Act.put, au, av, ax]
      refine af.step (i := 27) rfl (by kernel_rfl) (fun K' hK => ?_)
      go_simp
      refine hK.out _ _ (aJ (by kernel_rfl)) (fun hS => ?_)
      refine af.done (by kernel_rfl) ?_
      go_wp2_with fail
      go_roundw
      case rel => exact ⟨j + 1, _, aV.out, by go_num, by rw [HT.out, uL.out]; exact Si.out, uM.out⟩
      case measure => have := aV.out; simp [intOf]; omega
   ·obtain rfl : j = ks.length := by omega
    have HD := aa hW.out.done
    have yl := aa fE.out
    clear hW fE hlt hj
    go_wp2_with fail
    go_ret
    refine ⟨yl.out, _, rfl, ?_⟩
    have h := HD.out
    rw [List.take_length] at h
    rw [ordR]; exact h
end Go.Proofs.YthgabkgmkolobaaGreat
