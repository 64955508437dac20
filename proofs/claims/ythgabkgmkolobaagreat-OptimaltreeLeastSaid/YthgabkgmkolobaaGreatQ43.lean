/- Reference 34: all, All. -/
import Derived.Test.YthgabkgmkolobaaGreatQ1
import Derived.Test.YthgabkgmkolobaaGreatQ40
import Derived.Test.YthgabkgmkolobaaGreatQ41
import Derived.Test.YthgabkgmkolobaaGreatQ35
import Derived.Test.YthgabkgmkolobaaGreatQ22
import Derived.Test.YthgabkgmkolobaaGreatQ39
set_option maxRecDepth 100000
namespace Go.Proofs.YthgabkgmkolobaaGreat
open Go.RowKit Go.Deep
def Bc (w : World) (names : List ByteArray) (e : Ending) (w' : World) : Prop := Up w w' ∧ ∃ v, e = .returned v ∧ cD Any w' v (allT names)
def AgI (w w2 : World) (names : List ByteArray) (n : Nat) (tv : Value) (wr : World) : Prop :=
 ∃ qs : List RT, qi (w.heap.size + 1) w w2 wr tv (qs.map aK) ∧ qs.Perm (((lY names.tail).take n).map (uR names)) ∧ qs.Pairwise eV
def Qu (w w2 : World) (qs : List RT) (q : RT) (k : Nat) (tv : Value) (wr : World) : Prop :=
 ∃ j : ByteArray, qi (w.heap.size + 1) w w2 wr tv (sP (qs.map aK) k j) ∧ ∀ i, k ≤ i → i < qs.length → ¬ eV (qs.getD i (.node ByteArray.empty [])) q
theorem rfs_gs {L : List ByteArray} {n : Nat} (h : n < (lY L).length) : gs (bB L) n = iW (gB (lY L) n) ∧ gB (lY L) n ∈ jU L := by
 unfold gs gB bB
 constructor
 ·simp [h]
 ·rw [(A7 L).mem_iff]; simp [h]
theorem zC {qs : List RT} {i : Nat} (h : i < qs.length) : gs (qs.map aK) i = aK (qs.getD i (.node ByteArray.empty [])) := by simp [gs, h]
theorem Qv (y q : RT) : eV y q ↔ Op.bytesLess (aK y).toList (aK q).toList = true ∨ (aK y).toList = (aK q).toList := by
 have e : ∀ r : RT, (aK r).toList = bJ r := fun r => by rw [toList_data]; unfold aK; simp
 rw [e, e, r6, decide_eq_true_iff]
 unfold eV
 constructor
 ·intro h
  by_cases h0 : Lib.compareBytes (bJ y) (bJ q) = 0
  ·exact .inr (oC h0)
  ·exact .inl (by omega)
 ·rintro (h | h)
  ·omega
  ·rw [h, vF]; exact Int.le_refl _
theorem WI {y q : RT} (h : (!Op.bytesLess (aK y).toList (aK q).toList) = false ∨ (!(aK y).toList == (aK q).toList) = false) : eV y q := by
 rw [Qv]
 rcases h with h | h
 ·exact .inl (by simpa using h)
 ·exact .inr (by simpa using h)
theorem key_no {y q : RT} (h : (!Op.bytesLess (aK y).toList (aK q).toList) = true ∧ (!(aK y).toList == (aK q).toList) = true) : ¬ eV y q := by
 rw [Qv]
 rintro (e | e)
 ·rw [e] at h; exact absurd h.1 (by decide)
 ·have := h.2; rw [e] at this; simp at this
set_option maxHeartbeats 8000000 in
theorem Tj (S : Nat → Prop) (w : World) (v : Value) (names : List ByteArray) (hok : cH names) (h : ah S w v names) : Calls Tryz.prog 105 #[v] w (Bc w names) := by
 have hlo := hok.lo
 have hhi := hok.hi
 obtain ⟨p, cap, rfl, hcap, -⟩ := aB.open h
 have h : ah S w (.slice p names.length cap) names := h
 obtain ⟨nb, no, rfl, hc0⟩ := bz h (k := 0) (by omega)
 rw [Nat.add_zero] at hc0
 have hz : ∀ x ∈ names, x.size ≤ 20 := fun x hx => o7 (hok.nm x hx)
 have mz := Up.alloc w (.cells #[] 9)
 have hs0 : (w.alloc (.cells #[] 9)).heap.size = w.heap.size + 1 := World.size_alloc _ _
 have P8 := aa (Kn names.tail.length names.tail (Nat.le_refl _) (by rw [List.length_tail]; omega) (by rw [List.length_tail]; omega) (fun x hx => hz x (List.mem_of_mem_tail hx)) S (w.alloc (.cells #[] 9)) _ (EW (ah.keep h (mz.kept _)) hlo))
 have lU := aa hok
 have eH := aa hc0
 have HO0 := aa (aC.made w 9)
 have nY := aa mz
 have Ak := aa hs0
 have tH : Hid (names.tail.length ≤ 4 ∧ 1 ≤ names.tail.length) := by unfold Hid; rw [List.length_tail]; omega
 have HGZ : Hid ((gs names 0).size ≤ 20) := gI hz 0
 have HZT : Hid (∀ k, (gs (bB names.tail) k).size ≤ 100) := gI fun x hx => A9 tH.out.1 (fun x hx => hz x (List.mem_of_mem_tail hx)) hx
 have od : Hid ((bB names.tail).length = (lY names.tail).length ∧ (bB names.tail).length ≤ 15) := ⟨by unfold bB; rw [List.length_map], o9 tH.out.1⟩
 have i0 : ¬ cap = 1 := by omega
 have i1 : (1 : Int) ≤ (names.length : Int) := by omega
 have i2 : 1 ≤ names.length := by omega
 clear h hc0 hz hok hhi mz hs0
 go_enter Tryz.func105, Tryz.ntmps105
 go_wp2_with fail
 generalize w.alloc (.cells #[] 9) = w1 at *
 refine P8.out.mono ?_
 rintro e w2 ⟨aG, tv, rfl, I8⟩
 obtain ⟨tp, tc, rfl, -⟩ := I8.form (n := (bB names.tail).length) (by rw [List.length_map])
 have HTV : Hid (ah (fun b => w.heap.size + 1 ≤ b ∧ b < w2.heap.size) w2 (.slice tp (bB names.tail).length tc) (bB names.tail)) := I8.strs.sub fun b hb hl => ⟨by have := Ak.out; omega, hl⟩
 have sG : Hid (AgI w w2 names 0 (.slice (some ⟨w.heap.size, 0, none⟩) 0 0) w2) := by
  refine ⟨[], ⟨nY.out.trans aG, ⟨Nat.le_succ _, by have := Ak.out; have := aG.size; omega, Nat.le_refl _⟩, HO0.out.eD fun b hb => Below.block aG b (by have := (aF HO0.out hb).2; exact this), fun b hb => .inl ?_, fun _ _ _ => rfl⟩, by simp, List.Pairwise.nil⟩
  have hb : some w.heap.size = some b := hb
  injection hb with hb
  omega
 clear I8 aG P8 HO0 Ak
 go_wp2_with fail
 go_loopw [3, 5, 6, 7, 8, 9, 10] (fun texts i _ _ _ _ _ wr => ∃ n : Nat, n ≤ (bB names.tail).length ∧ i = .int .i64 n ∧ Hid (AgI w w2 names n texts wr)) (fun _ i _ _ _ _ _ _ => (bB names.tail).length - (intOf i).toNat)
 case atStart => exact ⟨0, Nat.zero_le _, rfl, sG.out⟩
 case round =>
  obtain ⟨n, hn, rfl, hI⟩ := hrel
  obtain ⟨wo, rfl⟩ : ∃ wo : World, wo = wr := ⟨_, rfl⟩
  obtain ⟨qs, hA, hp, hs⟩ := hI.out
  have i3 : (0 : Int) ≤ (n : Int) := by omega
  have Vt : qs.length ≤ 15 := by
   have h1 := hp.length_eq
   rw [List.length_map, List.length_take] at h1
   have := od.out
   omega
  by_cases hlt : n < (bB names.tail).length
  ·obtain ⟨tb, to', rfl, hct⟩ := bz (hA.strs HTV.out) hlt
   have hnl : n < (lY names.tail).length := by rw [← od.out.1]; exact hlt
   obtain ⟨g1, g2⟩ := rfs_gs hnl
   have E2 := enF lU.out g2
   have gV : Hid (((lY names.tail).take (n + 1)).map (uR names) = ((lY names.tail).take n).map (uR names) ++ [uR names (gB (lY names.tail) n)]) := by
    unfold Hid; rw [LH hnl, List.map_append]; rfl
   have z1 := HGZ.out
   have z2 : (gs (bB names.tail) n).size ≤ 100 := HZT.out n
   rw [g1] at hct z2
   have yR : Hid (∀ W, Calls Tryz.prog 146 #[.string (mX names (iW (gB (lY names.tail) n)))] W (yF W (mX names (iW (gB (lY names.tail) n))))) := fun W => Ni W _ E2.psz
   unfold mX at yR
   have jy := aa E2
   have HA := aa hA
   have HP := aa hp
   have HS := aa hs
   have aV := aa hlt
   have HQN := aa Vt
   have HU0' := aa hA.up
   have dL := hA.up.cell eH.out
   have i4 : (n : Int) < ((bB names.tail).length : Int) := by omega
   have i5 : (n : Int) < 16 := by have := od.out.2; omega
   have i6 : 0 < names.length := by omega
   have i7 : n < (bB names.tail).length := hlt
   have i8 : (0 : Int) < (names.length : Int) := by omega
   have y1 : (9223372036854775807 < 1 + (gs names 0).size) = False := by simp; omega
   have y2 : (9223372036854775807 < 1 + (gs names 0).size + 1) = False := by simp; omega
   have y3 : (9223372036854775807 < 1 + (gs names 0).size + 1 + (iW (gB (lY names.tail) n)).size) = False := by simp; omega
   have y4 : (9223372036854775807 < 1 + (gs names 0).size + 1 + (iW (gB (lY names.tail) n)).size + 2) = False := by simp; omega
   clear hI E2 hA hp hs hlt hnl g1 g2 Vt
   generalize gB (lY names.tail) n = r at *
   have hpe : tF (mX names (iW r)) = 0 := by unfold tF; rw [jy.out.Nb]; exact jy.out.te
   have hpt : qF (mX names (iW r)) = flat (btR (uB names r)) := by unfold qF; rw [jy.out.Nb]; simp [jy.out.te]
   unfold mX at hpe hpt
   have yH := aa hpe
   have uJ := aa hpt
   clear hpe hpt
   go_wp2_with fail
   go_cut [6, 7] from 25 to 39 (fun s6 s7 wx => ∃ B : Nat, s6 = .pointer (some ⟨B, 0, none⟩) ∧ s7 = .int .i64 0 ∧ Hid (wE wo B wx (flat (btR (uB names r)))))
   case first =>
    refine dM (by kernel_rfl) 12 (fun w' => w'.cell? ⟨nb, no, none⟩ = some (.string (gs names 0)) ∧ w'.cell? ⟨tb, to' + n, none⟩ = some (.string (iW r))) ⟨dL, hct⟩ (fun hS => ?_)
    simp only [List.size_toArray, List.length_cons, List.length_nil, Nat.reduceAdd, Array.replicate_succ, Array.replicate_zero, List.push_toArray, List.nil_append, List.cons_append]
    refine af.take (i := 0) (v := ?tq) rfl (by kernel_rfl) (fun _ _ _ h => h) (by rfl) (fun w hSw => ?iE) hS ?tr
    case iE =>
     (try dsimp only at hSw)
     go_simp
     try with_reducible rfl
    try simp only [Act.put, au, av, ax]
    refine af.take (i := 1) (v := ?tu) rfl (by kernel_rfl) (fun _ _ _ h => h) (by rfl) (fun w hSw => ?iF) hS ?tA
    case iF =>
     (try dsimp only at hSw)
     go_simp
     try with_reducible rfl
    try simp only [Act.put, au, av, ax]
    refine af.take (i := 2) (v := ?vM) rfl (by kernel_rfl) (fun _ _ _ h => h) (by rfl) (fun w hSw => ?jF) hS ?vO
    case jF =>
     (try dsimp only at hSw)
     go_simp
     try with_reducible rfl
    try simp only [Act.put, au, av, ax]
    refine af.take (i := 3) (v := ?vP) rfl (by kernel_rfl) (fun _ _ _ h => h) (by rfl) (fun w hSw => ?jG) hS ?vQ
    case jG =>
     (try dsimp only at hSw)
     go_simp
     try with_reducible rfl
    try simp only [Act.put, au, av, ax]
    refine af.take (i := 4) (v := ?vR) rfl (by kernel_rfl) (fun _ _ _ h => h) (by rfl) (fun w hSw => ?jH) hS ?vS
    case jH =>
     (try dsimp only at hSw)
     go_simp
     try with_reducible rfl
    try simp only [Act.put, au, av, ax]
    refine af.take (i := 5) (v := ?vT) rfl (by kernel_rfl) (fun _ _ _ h => h) (by rfl) (fun w hSw => ?jI) hS ?vU
    case jI =>
     (try dsimp only at hSw)
     go_simp
     try with_reducible rfl
    try simp only [Act.put, au, av, ax]
    refine af.take (i := 6) (v := ?zj) rfl (by kernel_rfl) (fun _ _ _ h => h) (by rfl) (fun w hSw => ?lM) hS ?zk
    case lM =>
     (try dsimp only at hSw)
     go_simp
     try with_reducible rfl
    try simp only [Act.put, au, av, ax]
    refine af.take (i := 7) (v := ?BW) rfl (by kernel_rfl) (fun _ _ _ h => h) (by rfl) (fun w hSw => ?nQ) hS ?BX
    case nQ =>
     (try dsimp only at hSw)
     go_simp
     try with_reducible rfl
    try simp only [Act.put, au, av, ax]
    refine af.take (i := 8) (v := ?MD) rfl (by kernel_rfl) (fun _ _ _ h => h) (by rfl) (fun w hSw => ?vV) hS ?ME
    case vV =>
     (try dsimp only at hSw)
     go_simp
     try with_reducible rfl
    try simp only [Act.put, au, av, ax]
    refine af.take (i := 9) (v := ?Va) rfl (by kernel_rfl) (fun _ _ _ h => h) (by rfl) (fun w hSw => ?Cb) hS ?Vb
    case Cb =>
     (try dsimp only at hSw)
     go_simp
     try with_reducible rfl
    try simp only [Act.put, au, av, ax]
    refine af.take (i := 10) (v := ?PM) rfl (by kernel_rfl) (fun _ _ _ h => h) (by rfl) (fun w hSw => ?yI) hS ?PN
    case yI =>
     (try dsimp only at hSw)
     go_simp
     try with_reducible rfl
    try simp only [Act.put, au, av, ax]
    refine af.zg (i := 11) (i2 := 15) rfl rfl (by kernel_rfl) (fun K' hK => ?_) (fun K' hK => ?_)
    ·go_simp
     refine (yR.out _).mono ?_
     rintro e w2 ⟨aG, pv, rfl, hpv⟩
     rw [yH.out]
     have hpv : aA Any w2 pv (flat (btR (uB names r))) := by have h := hpv; unfold mX at h; rw [uJ.out] at h; exact h
     obtain ⟨P2, N2, rfl, fP, fQ⟩ := hpv
     obtain ⟨pp, pc, rfl, -, -⟩ := aB.open fP
     obtain ⟨np, nc, rfl, -, -⟩ := aB.open fQ
     have rR : Up wo w2 := (Up.drewN wo 1).trans aG
     have bf := Up.alloc w2 (.cells #[.slice none 0 0, .slice none 0 0] 39)
     have hb3 := fh (w := w2) (P := .slice none 0 0) (N := .slice none 0 0) (T := 39)
     have sY : Hid (wE wo w2.heap.size (w2.alloc (.cells #[.slice pp (flat (btR (uB names r))).ps.length pc, .slice np (flat (btR (uB names r))).ns.length nc] 39)) (flat (btR (uB names r)))) := wE.Te rR ⟨_, _, rfl, fP, fQ⟩
     have dc := aa (rR.trans bf)
     have x7 : Hid (wo.heap.size ≤ w2.heap.size) := rR.size
     obtain ⟨b0, b1, b2, b3⟩ := boxed hb3
     have Ag := aa hb3
     generalize flat (btR (uB names r)) = q0 at *
     clear fP fQ aG rR bf hb3
     refine hK.out _ _ (aJ (by kernel_rfl)) (fun _ => ?_)
     try simp only [au, av, ax]
     refine af.free (i := 12) (v := ?gv12fk2) rfl (by kernel_rfl) (fun _ _ _ h => h) (by rfl) (fun w => ?WJ) (aJ (by kernel_rfl)) ?gr12fk2
     case WJ =>
      go_simp
      try with_reducible rfl
     try simp only [Act.put, au, av, ax]
     refine af.free (i := 13) (v := ?gv13fk2) rfl (by kernel_rfl) (fun _ _ _ h => h) (by rfl) (fun w => ?WK) (aJ (by kernel_rfl)) ?gr13fk2
     case WK =>
      go_simp
      try with_reducible rfl
     try simp only [Act.put, au, av, ax]
     refine af.free (i := 14) (v := ?gv14fk2) rfl (by kernel_rfl) (fun _ _ _ h => h) (by rfl) (fun w => ?WL) (aJ (by kernel_rfl)) ?gr14fk2
     case WL =>
      go_simp
      try with_reducible rfl
     try simp only [Act.put, au, av, ax]
     refine af.step (i := 15) rfl (by kernel_rfl) (fun K' hK => ?_)
     go_simp
     refine hK.out _ _ (aJ (by kernel_rfl)) (fun _ => ?_)
     try simp only [au, av, ax]
     refine af.step (i := 16) rfl (by kernel_rfl) (fun K' hK => ?_)
     go_simp
     refine hK.out _ _ (aJ (by kernel_rfl)) (fun _ => ?_)
     try simp only [au, av, ax]
     refine af.step (i := 17) rfl (by kernel_rfl) (fun K' hK => ?_)
     go_simp
     refine hK.out _ _ (aJ (by kernel_rfl)) (fun _ => ?_)
     refine af.done (by kernel_rfl) ?_
     go_wp2_with fail
     go_meet
     case rel => exact ⟨_, rfl, rfl, sY.out⟩
    ·go_simp
     have bf := Up.alloc wo (.cells #[.slice none 0 0, .slice none 0 0] 39)
     have hd := Up.drewN (wo.alloc (.cells #[.slice none 0 0, .slice none 0 0] 39)) 1
     have hb1 := fh (w := wo) (P := .slice none 0 0) (N := .slice none 0 0) (T := 39)
     have hs1 : (wo.alloc (.cells #[.slice none 0 0, .slice none 0 0] 39)).heap.size = wo.heap.size + 1 := World.size_alloc _ _
     refine hK.out _ _ (fun _ => ⟨bf.cell dL, bf.cell hct⟩) (fun hS => ?_)
     replace hS := hS ⟨11, by decide, rfl⟩
     try simp only [au, av, ax]
     refine af.step (i := 11) rfl (by kernel_rfl) (fun K' hK => ?_)
     go_simp
     refine (yR.out _).mono ?_
     rintro e w2 ⟨aG, pv, rfl, hpv⟩
     rw [yH.out]
     have hpv : aA Any w2 pv (flat (btR (uB names r))) := by have h := hpv; unfold mX at h; rw [uJ.out] at h; exact h
     have rR := (bf.trans hd).trans aG
     have hb3 : w2.heap[wo.heap.size]? = some (Obj.cells #[.slice none 0 0, .slice none 0 0] 39 (0, 0)) := (Below.block (hd.trans aG) _ (by rw [hs1]; omega)).trans hb1
     have hpv := Kt hpv hb3
     obtain ⟨P2, N2, rfl, fP, fQ⟩ := hpv
     obtain ⟨pp, pc, rfl, -, -⟩ := aB.open fP
     obtain ⟨np, nc, rfl, -, -⟩ := aB.open fQ
     have HT3 : Hid (aA (fun b => b ≠ wo.heap.size) w2 (.agg #[.slice pp (flat (btR (uB names r))).ps.length pc, .slice np (flat (btR (uB names r))).ns.length nc]) (flat (btR (uB names r)))) := ⟨_, _, rfl, fP, fQ⟩
     have dc := aa rR
     have x7 : Hid (wo.heap.size ≤ wo.heap.size) := Nat.le_refl _
     obtain ⟨b0, b1, b2, b3⟩ := boxed hb3
     have Ag := aa hb3
     generalize flat (btR (uB names r)) = q0 at *
     clear fP fQ aG rR bf hd hb1 hs1 hb3
     refine hK.out _ _ (aJ (by kernel_rfl)) (fun _ => ?_)
     try simp only [au, av, ax]
     refine af.free (i := 12) (v := ?gv12fk3) rfl (by kernel_rfl) (fun _ _ _ h => h) (by rfl) (fun w => ?WM) (aJ (by kernel_rfl)) ?gr12fk3
     case WM =>
      go_simp
      try with_reducible rfl
     try simp only [Act.put, au, av, ax]
     refine af.free (i := 13) (v := ?gv13fk3) rfl (by kernel_rfl) (fun _ _ _ h => h) (by rfl) (fun w => ?WN) (aJ (by kernel_rfl)) ?gr13fk3
     case WN =>
      go_simp
      try with_reducible rfl
     try simp only [Act.put, au, av, ax]
     refine af.free (i := 14) (v := ?gv14fk3) rfl (by kernel_rfl) (fun _ _ _ h => h) (by rfl) (fun w => ?WO) (aJ (by kernel_rfl)) ?gr14fk3
     case WO =>
      go_simp
      try with_reducible rfl
     try simp only [Act.put, au, av, ax]
     refine af.step (i := 16) rfl (by kernel_rfl) (fun K' hK => ?_)
     go_simp
     refine hK.out _ _ (aJ (by kernel_rfl)) (fun _ => ?_)
     try simp only [au, av, ax]
     refine af.step (i := 17) rfl (by kernel_rfl) (fun K' hK => ?_)
     go_simp
     refine hK.out _ _ (aJ (by kernel_rfl)) (fun _ => ?_)
     refine af.done (by kernel_rfl) ?_
     go_wp2_with fail
     go_meet
     case rel => exact ⟨_, rfl, rfl, wE.Jj Ag.out x7.out dc.out HT3.out⟩
   case rest =>
    obtain ⟨B, rfl, rfl, hB⟩ := hcut
    obtain ⟨w3, rfl⟩ : ∃ w3 : World, w3 = wc := ⟨_, rfl⟩
    obtain ⟨pp, pc, np, nc, hb3, Eu⟩ := hB.out.ex
    obtain ⟨q0, xu⟩ : ∃ q0, q0 = flat (btR (uB names r)) := ⟨_, rfl⟩
    obtain ⟨q1, hq1⟩ : ∃ q1, q1 = flat (uR names r) := ⟨_, rfl⟩
    have dR := aa hB.out
    rw [← xu] at hb3 Eu
    have hl0 : q0.ps.length ≤ 1000000 ∧ q0.ns.length ≤ 1000000 := by have := jy.out.len; rw [xu, lH, ri]; omega
    have fA : q1.ps.length ≤ 1000000 ∧ q1.ns.length ≤ 1000000 := by have := jy.out.len; rw [hq1, lH, ri]; omega
    have Ef := aa (Sl _ w3 _ q0 Eu hl0.1 hl0.2 (by rw [xu]; exact jy.out.sz))
    have LI : Hid (az q0 = 0 ∧ tW q0 = q1) := by
     have h1 : az q0 = 0 := by rw [xu]; exact jy.out.te
     refine ⟨h1, ?_⟩
     rw [Ph h1, xu, hq1]; exact jy.out.can
    have kE : Hid (tE q1 = 0 ∧ (⟨(si q1).toArray⟩ : ByteArray) = aK (uR names r)) := by
     unfold Hid
     rw [hq1]
     refine ⟨by unfold tE; rw [if_neg (by simp [jy.out.te2])], ?_⟩
     unfold aK; rw [jy.out.tx]
    have qb : Hid (∀ W v, aA Any W v q1 → Calls Tryz.prog 148 #[v] W (yE W q1)) := fun W v h => Nc Any W v q1 h fA.1 fA.2 (by rw [hq1]; exact jy.out.sz2)
    have Ag := aa hb3
    obtain ⟨b0, b1, b2, b3⟩ := boxed hb3
    clear hl0 fA xu hq1 Eu hb3 dL hct yR yH uJ hB y1 y2 y3 y4
    go_wp2_with fail
    refine Ef.out.mono ?_
    rintro e w4 ⟨cF, ⟨jY, -⟩ | ⟨-, cv, rfl, P4, N4, rfl, dY, eG⟩⟩
    ·exact absurd LI.out.1 jY
    rw [LI.out.2] at dY eG
    obtain ⟨p4, c4, rfl, -, -⟩ := aB.open dY
    obtain ⟨n4, d4, rfl, -, -⟩ := aB.open eG
    have hb4 := (Below.block cF B dR.out.lo.2).trans Ag.out
    have HX5 := aa (wE.Jj (w := wo) (t := q1) (pp := p4) (np := n4) (pc := c4) (nc := d4) hb4 dR.out.lo.1 (dR.out.up.trans cF) (aA.sub ⟨_, _, rfl, dY, eG⟩ fun b hb _ => by have := dR.out.lo.2; omega))
    obtain ⟨b0, b1, b2, b3⟩ := boxed hb4
    obtain ⟨_, _, _, s4⟩ := dZ (w := wo) (p := .slice p4 q1.ps.length c4) (q := .slice n4 q1.ns.length d4) hb4 dR.out.lo.1 (dR.out.up.trans cF)
    have DX : aA Any ((w4.setCell ⟨B, 0, none⟩ (.slice p4 q1.ps.length c4)).setCell ⟨B, 1, none⟩ (.slice n4 q1.ns.length d4)) (.agg #[.slice p4 q1.ps.length c4, .slice n4 q1.ns.length d4]) q1 :=
     ((aA.sub (T := fun b => b ≠ B) ⟨_, _, rfl, dY, eG⟩ fun b hb _ => by have := dR.out.lo.2; omega).keep fun b hb _ => s4 b hb).sub fun _ _ _ => trivial
    have oo := aa DX
    clear hb4 cF dY eG Ef dR Ag s4 DX
    go_wp2_with fail
    generalize (w4.setCell ⟨B, 0, none⟩ _).setCell ⟨B, 1, none⟩ _ = w5 at *
    refine (qb.out w5 _ oo.out).mono ?_
    rintro e w6 ⟨cU, rfl⟩
    rw [kE.out.1, kE.out.2]
    have Qw := aa (HA.out.next (HX5.out.up.trans cU))
    obtain ⟨oq, oc, IK, -⟩ := Qw.out.own.form (n := qs.length) (by rw [List.length_map, List.length_map])
    subst IK
    have HQ : Hid (∃ q, q = uR names r) := ⟨_, rfl⟩
    obtain ⟨q, hq⟩ := HQ.out
    rw [← hq] at kE gV ⊢
    have Qk : Hid (((qs.map aK).map Value.string).length = qs.length) := by unfold Hid; rw [List.length_map, List.length_map]
    have ct : Hid (w.heap.size ≤ w6.heap.size) := by obtain ⟨z1, z2, z3⟩ := Qw.out.sz; unfold Hid; omega
    clear cU HX5 qb oo kE LI jy hq HQ b0 b1 b2 b3 HA z1 z2
    go_wp2_with (at_builtin; refine fM w6 rfl _ _ 22 rfl w.heap.size 9 (.string ⟨#[]⟩) 16 Tryz.underlying22 Tryz.fo rfl (by decide) Qw.out.own rfl (.string (aK q)) rfl rfl qs.length Qk.out (by have := HQN.out; omega) ct.out ?_; intro g8 gW w8 bU cG fq; have Ad := aa (Qw.out.app bU cG fq); clear bU cG fq)
    have iB : Hid ((qs.map aK).length = qs.length) := List.length_map _
    have PU : Hid (Qu w w2 qs q qs.length (.slice (some ⟨g8, 0, none⟩) (qs.length + 1) gW) w8) := by
     refine ⟨aK q, ?_, fun i h1 h2 => by omega⟩
     have h := Ad.out
     rw [Ta, iB.out] at h
     exact h
    have nJ : Hid (∀ (m : Nat) (wr : World), m ≤ qs.length → Qu w w2 qs q m (.slice (some ⟨g8, 0, none⟩) (qs.length + 1) gW) wr → (m = 0 ∨ eV (qs.getD (m - 1) (.node ByteArray.empty [])) q) → AgI w w2 names (n + 1) (.slice (some ⟨g8, 0, none⟩) (qs.length + 1) gW) (wr.setCell ⟨g8, m, none⟩ (.string (aK q)))) := fun m wr hm hJ hlo => by
     obtain ⟨j, hj, hhi⟩ := hJ
     obtain ⟨i1, i2⟩ := ins_at HS.out hm hhi hlo
     obtain ⟨g, cp, e, _, _, h4⟩ := hj.set (j := m) (by rw [Jg, iB.out]; omega)
     injection e with e
     injection e with e
     injection e with e
     subst e
     refine ⟨qs.take m ++ q :: qs.drop m, ?_, ?_, i2⟩
     ·have h5 := h4 (aK q)
      rw [Qf (by rw [iB.out]; exact hm)] at h5
      have e2 : (qs.take m ++ q :: qs.drop m).map aK = sP (qs.map aK) m (aK q) := by unfold sP; simp
      rw [e2]; exact h5
     ·rw [gV.out]
      exact i1.trans ((HP.out.cons q).trans (List.perm_append_comm (l₁ := [q])))
    have Cu : Hid (∀ (m : Nat) (wr : World), m ≤ qs.length → Qu w w2 qs q m (.slice (some ⟨g8, 0, none⟩) (qs.length + 1) gW) wr → wr.frozen? ⟨g8, m, none⟩ = false ∧ (∃ x, wr.cell? ⟨g8, m, none⟩ = some (.string x)) ∧ (0 < m → wr.cell? ⟨g8, m - 1, none⟩ = some (.string (aK (qs.getD (m - 1) (.node ByteArray.empty []))))) ∧ (0 < m → ¬ eV (qs.getD (m - 1) (.node ByteArray.empty [])) q → Qu w w2 qs q (m - 1) (.slice (some ⟨g8, 0, none⟩) (qs.length + 1) gW) (wr.setCell ⟨g8, m, none⟩ (.string (aK (qs.getD (m - 1) (.node ByteArray.empty []))))))) := fun m wr hm hJ => by
     obtain ⟨j, hj, hhi⟩ := hJ
     obtain ⟨g, cp, e, h2, h3, h4⟩ := hj.set (j := m) (by rw [Jg, iB.out]; omega)
     injection e with e
     injection e with e
     injection e with e
     subst e
     refine ⟨h3, ⟨_, h2⟩, fun h0 => ?_, fun h0 hn => ?_⟩
     ·obtain ⟨g', cp', e', DL, _, _⟩ := hj.set (j := m - 1) (by rw [Jg, iB.out]; omega)
      injection e' with e'
      injection e' with e'
      injection e' with e'
      subst e'
      rw [Wz h0 (by rw [iB.out]; exact hm), zC (by omega)] at DL
      exact DL
     ·refine ⟨gs (qs.map aK) (m - 1), ?_, fun i q1 q2 => ?_⟩
      ·have h5 := h4 (aK (qs.getD (m - 1) (.node ByteArray.empty [])))
       rw [← zC (by omega), Tb h0 (by rw [iB.out]; exact hm)] at h5
       rw [← zC (by omega)]
       exact h5
      ·by_cases ei : i = m - 1
       ·rw [ei]; exact hn
       ·exact hhi i (by omega) q2
    have Nk : Hid (qs.length ≤ 15) := HQN.out
    clear Ad Qw iB gV HP Qk ct
    go_wp2_with fail
    go_loopw [10] (fun k wr => ∃ m : Nat, m ≤ qs.length ∧ k = .int .i64 m ∧ Hid (Qu w w2 qs q m (.slice (some ⟨g8, 0, none⟩) (qs.length + 1) gW) wr)) (fun k _ => (intOf k).toNat)
    case atStart => exact ⟨qs.length, Nat.le_refl _, rfl, PU.out⟩
    case round =>
     obtain ⟨m, hm, rfl, hJ⟩ := hrel
     obtain ⟨wi, rfl⟩ : ∃ wi : World, wi = wr := ⟨_, rfl⟩
     obtain ⟨hf, ⟨x0, hx0⟩, hc1, hsh⟩ := Cu.out m wi hm hJ.out
     have m1 : (0 : Int) ≤ (m : Int) := by omega
     have m2 : (m : Int) < ((qs.length + 1 : Nat) : Int) := by omega
     have m3 : (m : Int) < 16 := by have := Nk.out; omega
     have m4 : m < qs.length + 1 := by omega
     by_cases h0 : m = 0
     ·subst h0
      have ey := aa (nJ.out 0 wi (Nat.zero_le _) hJ.out (.inl rfl))
      clear hJ hsh hc1
      go_wp2_with fail
      go_roundw
      case rel => exact ⟨n + 1, aV.out, by go_num, ey.out⟩
      case measure => have := aV.out; simp [intOf]; omega
     ·have hc2 := hc1 (by omega)
      have hw : wrap64 ((m : Int) - 1) = ((m - 1 : Nat) : Int) := by unfold wrap64; omega
      have m5 : (0 : Int) < (m : Int) := by omega
      have m6 : ((m - 1 : Nat) : Int) < ((qs.length + 1 : Nat) : Int) := by omega
      have m7 : m - 1 < qs.length + 1 := by omega
      obtain ⟨y, hy⟩ : ∃ y, y = qs.getD (m - 1) (.node ByteArray.empty []) := ⟨_, rfl⟩
      rw [← hy] at hc2 hsh
      have yh := aa (nJ.out m wi hm hJ.out)
      rw [← hy] at yh
      have HSH := aa hsh
      have HM0 : Hid (0 < m ∧ m ≤ qs.length) := ⟨by omega, hm⟩
      have HJJ := aa hJ.out
      clear hc1 hsh hy hJ
      go_wp2_with fail
      ·have hno := key_no ‹_ ∧ _›
       have hm0 := HM0.out
       have HX := aa (HSH.out hm0.1 hno)
       go_roundw
       case rel => exact ⟨m - 1, by omega, by go_num, HX.out⟩
       case measure => simp [intOf]; omega
      ·have hyes := WI ‹_ ∨ _›
       have ey := aa (yh.out (.inr hyes))
       go_roundw
       case rel => exact ⟨n + 1, aV.out, by go_num, ey.out⟩
       case measure => have := aV.out; simp [intOf]; omega
  ·obtain rfl : n = (bB names.tail).length := by omega
   have Yc : qs = aM names := by
    refine rf_all lU.out ?_ hs
    rw [od.out.1, List.take_length] at hp
    exact hp
   subst Yc
   have vk := aa hA.up
   have HST : Hid (ah Any wo u3 ((aM names).map aK)) := hA.own.strs.sub fun _ _ _ => trivial
   obtain ⟨op, oc, IK, -⟩ := hA.own.form (n := (aM names).length) (by rw [List.length_map, List.length_map])
   subst IK
   have HST : Hid (ah Any wo (.slice op (aM names).length oc) ((aM names).map aK)) := HST.out
   have dQ : Hid ((allT names).length = (aM names).length) := by unfold Hid allT; rw [List.length_map]
   have Nk := aa Vt
   clear hI hA hp hs hlt hn Vt
   have sG : Hid (Vp wo names 0 (.slice (some ⟨wo.heap.size, 0, none⟩) 0 0) (wo.alloc (.cells #[] 39))) := by
    refine ⟨Up.alloc _ _, [], ⟨World.ownsRow_made wo #[] 0 (Nat.le_refl _) (by unfold maxLen; omega) (by simp), fun _ h => by cases h⟩, by simp⟩
   go_wp2_with fail
   go_loopw [11, 12, 13, 14] (fun out i _ _ wr => ∃ k : Nat, k ≤ (aM names).length ∧ i = .int .i64 k ∧ Hid (Vp wo names k out wr)) (fun _ i _ _ _ => (aM names).length - (intOf i).toNat)
   case atStart => exact ⟨0, Nat.zero_le _, rfl, sG.out⟩
   case round =>
    obtain ⟨k, hk, rfl, hI⟩ := hrel
    obtain ⟨wi, rfl⟩ : ∃ wi : World, wi = wr := ⟨_, rfl⟩
    obtain ⟨lu, es, hes, hem⟩ := hI.out
    have k0 : (0 : Int) ≤ (k : Int) := by omega
    by_cases hlk : k < (aM names).length
    ·have hmem : (aM names).getD k (.node ByteArray.empty []) ∈ aM names := by simp [hlk]
     obtain ⟨p1, p2, p3⟩ := Nh lU.out hmem
     obtain ⟨_, _, _, _, p5, _⟩ := cQ lU.out hmem
     obtain ⟨xb, xo, rfl, gM⟩ := bz (ah.keep HST.out (lu.kept _)) (k := k) (by rw [List.length_map]; exact hlk)
     rw [zC hlk] at gM
     have p6 : iU (aK ((aM names).getD k (.node ByteArray.empty []))).data.toList = some ((aM names).getD k (.node ByteArray.empty [])) := by
      have hg := (cQ lU.out hmem).1.good
      have e : (aK ((aM names).getD k (.node ByteArray.empty []))).data.toList = txR ((aM names).getD k (.node ByteArray.empty [])) ++ [59] := by unfold aK bJ; simp
      rw [e]; exact uP hg.jb
     have yR := aa (Ko wi _ p1 p6 p5)
     have hlt2 : k < (allT names).length := by rw [dQ.out]; exact hlk
     have hgt : gt (allT names) k = flat ((aM names).getD k (.node ByteArray.empty [])) := by unfold allT gt; simp [hlk]
     have gV : Hid ((allT names).take (k + 1) = es.map (·.2) ++ [flat ((aM names).getD k (.node ByteArray.empty []))]) := by unfold Hid; rw [Du hlt2, hem, hgt]
     have gO : es.length = k := by
      have := congrArg List.length hem
      rw [List.length_map, List.length_take] at this
      omega
     have dG := aa gO
     obtain ⟨op2, oc2, rfl⟩ := hes.form
     have tL : Hid (ic wo.heap.size wi (.slice op2 k oc2) es) := by have h := hes; rw [gO] at h; exact h
     have HUi := aa lu
     have Ji := aa hlk
     have k1 : (k : Int) < ((aM names).length : Int) := by omega
     have k2 : (k : Int) < 16 := by have := Nk.out; omega
     rw [gO]
     clear hI lu hes hem hlk hlt2 hgt hmem p1 p2 p3 p5 p6 gO
     generalize aK ((aM names).getD k (.node ByteArray.empty [])) = key at *
     generalize flat ((aM names).getD k (.node ByteArray.empty [])) = q at *
     go_wp2_with fail
     refine yR.out.mono ?_
     rintro e w2 ⟨aG, v2, rfl, ht2⟩
     obtain ⟨P2, N2, rfl, fP, fQ⟩ := ht2
     obtain ⟨pp, pc, rfl, -, -⟩ := aB.open fP
     obtain ⟨np, nc, rfl, -, -⟩ := aB.open fQ
     have bf := Up.alloc w2 (.cells #[.slice pp q.ps.length pc, .slice np q.ns.length nc] 39)
     have hES2 := tL.out.up (aG.trans bf)
     have HES2 := aa hES2
     have hlo := fun b hb => (World.ownsRow.lt tL.out.1 b hb)
     have I9 : Hid (aA (fun b => some b ≠ (Value.slice op2 k oc2).ownBlock) (w2.alloc (.cells #[.slice pp q.ps.length pc, .slice np q.ns.length nc] 39)) (.agg #[.slice pp q.ps.length pc, .slice np q.ns.length nc]) q) :=
      (aA.keep ⟨_, _, rfl, fP, fQ⟩ (bf.kept _)).sub fun b hb _ e => by have h1 := (hlo b e.symm).2; have h2 : wi.heap.size ≤ b := hb; omega
     have bw := aa (HUi.out.trans (aG.trans bf))
     have gj := aa (dW w2 (.slice pp q.ps.length pc) (.slice np q.ns.length nc) 39)
     have gm := aa (eu w2 (.slice pp q.ps.length pc) (.slice np q.ns.length nc) 39)
     have Fb : Hid (es.length = k) := dG.out
     have Vu : Hid (k ≤ 1000000) := by have := Ji.out; have := Nk.out; unfold Hid; omega
     clear aG fP fQ bf hES2 hlo yR tL
     go_wp2_with (at_builtin; refine sO _ rfl _ _ 33 rfl wo.heap.size _ 48 Tryz.underlying33 Tryz.infoTree rfl (by decide) HES2.out rfl ((.slice pp q.ps.length pc, .slice np q.ns.length nc), q) (by rw [World.size_alloc]; rfl) I9.out k Fb.out Vu.out bw.out.size ?_; intro g8 gW w8 bU cG sH; have sI := aa bU; have iX := aa sH; clear bU cG sH)
     go_roundw
     case rel => exact ⟨k + 1, Ji.out, by go_num, Below.trans (show Below wo.heap.size wo _ from bw.out) iX.out, _, sI.out, by rw [gV.out, List.map_append]; rfl⟩
     case measure => have := Ji.out; simp [intOf]; omega
    ·obtain rfl : k = (aM names).length := by omega
     have sJ : es.map (·.2) = allT names := by rw [hem, ← dQ.out, List.take_length]
     have ey : Hid (Bc w names (.returned u11) wi) := ⟨vk.out.trans lu, u11, rfl, sJ ▸ hes.trees⟩
     clear hI lu hes hem sJ hlk
     go_wp2_with fail
     go_ret
     exact ey.out
set_option maxHeartbeats 2000000 in
theorem Tk (S : Nat → Prop) (w : World) (v : Value) (names : List ByteArray) (h : ah S w v names) (hn : names.length ≤ 1000000) (hz : ∀ k, (gs names k).size ≤ 70000) (h5 : names.length ≤ 5 ∨ 7 < names.length) :
  Calls Tryz.prog 61 #[v] w (pg w names) := by
 have fS := aa (Cw S w v names h hn hz)
 obtain ⟨p, cap, rfl, hcap, -⟩ := aB.open h
 have h : ah S w (.slice p names.length cap) names := h
 have u7 : Hid (∀ W, Up w W → bW names = 0 → Calls Tryz.prog 105 #[.slice p names.length cap] W (Bc W names)) := fun W hW h0 => by
  have Qx : names.length ≤ 5 := by
   rcases h5 with h5 | h5
   ·exact h5
   ·unfold bW at h0; rw [if_pos (.inr h5)] at h0; cases h0
  exact Tj S W _ names ((mJ Qx).1 h0) (ah.keep h (hW.kept S))
 clear h hz h5
 go_enter Tryz.func61, Tryz.ntmps61
 go_wp2_with fail
 refine fS.out.mono ?_
 rintro e w1 ⟨rfl, aR⟩
 have bH := aa aR
 have Jo := aa (u7.out w1 aR)
 clear aR fS u7
 by_cases c1 : bW names = 0
 ·have Jp := aa (Jo.out c1)
  have ey : Hid (∀ W v, Up w W → cD Any W v (allT names) → pg w names (.returned (.tuple #[v, .int .i64 0])) W) := fun W v hu ht => ⟨hu, v, by rw [c1], by rw [if_pos c1]; exact ht⟩
  rw [c1]
  clear c1 Jo
  go_wp2_with fail
  refine Jp.out.mono ?_
  rintro e w2 ⟨aG, v2, rfl, ht2⟩
  have qf := aa (ey.out w2 v2 (bH.out.trans aG) ht2)
  clear aG ht2 Jp
  go_wp2_with fail
  go_ret2
  exact qf.out
 ·have ey : Hid (pg w names (.returned (.tuple #[.slice none 0 0, .int .i64 (bW names)])) w1) := ⟨bH.out, _, rfl, by rw [if_neg c1]; exact cD.nil _ _⟩
  generalize bW names = a at *
  go_wp2_with fail
  go_ret2
  exact ey.out
end Go.Proofs.YthgabkgmkolobaaGreat
