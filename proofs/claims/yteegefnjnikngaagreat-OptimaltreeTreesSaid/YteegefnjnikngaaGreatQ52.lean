/- Reference 34: all, All. -/
import Derived.Test.YteegefnjnikngaaGreatQ1
import Derived.Test.YteegefnjnikngaaGreatQ48
import Derived.Test.YteegefnjnikngaaGreatQ49
import Derived.Test.YteegefnjnikngaaGreatQ42
import Derived.Test.YteegefnjnikngaaGreatQ26
import Derived.Test.YteegefnjnikngaaGreatQ46
set_option maxRecDepth 100000
namespace Go.Proofs.YteegefnjnikngaaGreat
open Go.RowKit Go.Deep
def x6 (w : World) (names : List ByteArray) (e : Ending) (w' : World) : Prop := Up w w' ∧ ∃ v, e = .returned v ∧ cz Any w' v (allT names)
def Wh (w w2 : World) (names : List ByteArray) (n : Nat) (tv : Value) (wr : World) : Prop :=
 ∃ qs : List RT, ni (w.heap.size + 1) w w2 wr tv (qs.map aO) ∧ qs.Perm (((jN names.tail).take n).map (uR names)) ∧ qs.Pairwise dX
def Mm (w w2 : World) (qs : List RT) (q : RT) (k : Nat) (tv : Value) (wr : World) : Prop :=
 ∃ j : ByteArray, ni (w.heap.size + 1) w w2 wr tv (p6 (qs.map aO) k j) ∧ ∀ i, k ≤ i → i < qs.length → ¬ dX (qs.getD i (.node ByteArray.empty [])) q
theorem Wi {L : List ByteArray} {n : Nat} (h : n < (jN L).length) : gs (bf L) n = gK (gB (jN L) n) ∧ gB (jN L) n ∈ iO L := by
 unfold gs gB bf
 constructor
 ·simp [h]
 ·rw [(xW L).mem_iff]; simp [h]
theorem vY {qs : List RT} {i : Nat} (h : i < qs.length) : gs (qs.map aO) i = aO (qs.getD i (.node ByteArray.empty [])) := by simp [gs, h]
theorem Mn (y q : RT) : dX y q ↔ Op.bytesLess (aO y).toList (aO q).toList = true ∨ (aO y).toList = (aO q).toList := by
 have e : ∀ r : RT, (aO r).toList = bG r := fun r => by rw [toList_data]; unfold aO; simp
 rw [e, e, sU, decide_eq_true_iff]
 unfold dX
 constructor
 ·intro h
  by_cases h0 : Lib.compareBytes (bG y) (bG q) = 0
  ·exact .inr (l5 h0)
  ·exact .inl (by omega)
 ·rintro (h | h)
  ·omega
  ·rw [h, si]; exact Int.le_refl _
theorem RN {y q : RT} (h : (!Op.bytesLess (aO y).toList (aO q).toList) = false ∨ (!(aO y).toList == (aO q).toList) = false) : dX y q := by
 rw [Mn]
 rcases h with h | h
 ·exact .inl (by simpa using h)
 ·exact .inr (by simpa using h)
theorem Wj {y q : RT} (h : (!Op.bytesLess (aO y).toList (aO q).toList) = true ∧ (!(aO y).toList == (aO q).toList) = true) : ¬ dX y q := by
 rw [Mn]
 rintro (e | e)
 ·rw [e] at h; exact absurd h.1 (by decide)
 ·have := h.2; rw [e] at this; simp at this
set_option maxHeartbeats 8000000 in
theorem OU (S : Nat → Prop) (w : World) (v : Value) (names : List ByteArray) (hok : fQ names) (h : au S w v names) : Calls Tryz.prog 96 #[v] w (x6 w names) := by
 have hlo := hok.lo
 have hhi := hok.hi
 obtain ⟨p, cap, rfl, hcap, -⟩ := aA.open h
 have h : au S w (.slice p names.length cap) names := h
 obtain ⟨nb, no, rfl, hc0⟩ := bQ h (k := 0) (by omega)
 rw [Nat.add_zero] at hc0
 have hz : ∀ x ∈ names, x.size ≤ 20 := fun x hx => rT (hok.nm x hx)
 have BW := Up.alloc w (.cells #[] 9)
 have hs0 : (w.alloc (.cells #[] 9)).heap.size = w.heap.size + 1 := World.size_alloc _ _
 have LP := aa (F0 names.tail.length names.tail (Nat.le_refl _) (by rw [List.length_tail]; omega) (by rw [List.length_tail]; omega) (fun x hx => hz x (List.mem_of_mem_tail hx)) S (w.alloc (.cells #[] 9)) _ (B1 (au.keep h (BW.kept _)) hlo))
 have tu := aa hok
 have dR := aa hc0
 have Wk := aa (az.made w 9)
 have Qe := aa BW
 have Wl := aa hs0
 have qx : Hid (names.tail.length ≤ 4 ∧ 1 ≤ names.tail.length) := by unfold Hid; rw [List.length_tail]; omega
 have VB : Hid ((gs names 0).size ≤ 20) := gZ hz 0
 have VC : Hid (∀ k, (gs (bf names.tail) k).size ≤ 100) := gZ fun x hx => xX qx.out.1 (fun x hx => hz x (List.mem_of_mem_tail hx)) hx
 have lV : Hid ((bf names.tail).length = (jN names.tail).length ∧ (bf names.tail).length ≤ 15) := ⟨by unfold bf; rw [List.length_map], mE qx.out.1⟩
 have i0 : ¬ cap = 1 := by omega
 have i1 : (1 : Int) ≤ (names.length : Int) := by omega
 have i2 : 1 ≤ names.length := by omega
 clear h hc0 hz hok hhi BW hs0
 go_enter Tryz.func96, Tryz.ntmps96
 go_wp2_with fail
 generalize w.alloc (.cells #[] 9) = w1 at *
 refine LP.out.mono ?_
 rintro e w2 ⟨aF, tv, rfl, E2⟩
 obtain ⟨tp, tc, rfl, -⟩ := E2.form (n := (bf names.tail).length) (by rw [List.length_map])
 have VD : Hid (au (fun b => w.heap.size + 1 ≤ b ∧ b < w2.heap.size) w2 (.slice tp (bf names.tail).length tc) (bf names.tail)) := E2.strs.sub fun b hb hl => ⟨by have := Wl.out; omega, hl⟩
 have vq : Hid (Wh w w2 names 0 (.slice (some ⟨w.heap.size, 0, none⟩) 0 0) w2) := by
  refine ⟨[], ⟨Qe.out.trans aF, ⟨Nat.le_succ _, by have := Wl.out; have := aF.size; omega, Nat.le_refl _⟩, Wk.out.eV fun b hb => Below.block aF b (by have := (aD Wk.out hb).2; exact this), fun b hb => .inl ?_, fun _ _ _ => rfl⟩, by simp, List.Pairwise.nil⟩
  have hb : some w.heap.size = some b := hb
  injection hb with hb
  omega
 clear E2 aF LP Wk Wl
 go_wp2_with fail
 go_loopw [3, 5, 6, 7, 8, 9, 10] (fun texts i _ _ _ _ _ wr => ∃ n : Nat, n ≤ (bf names.tail).length ∧ i = .int .i64 n ∧ Hid (Wh w w2 names n texts wr)) (fun _ i _ _ _ _ _ _ => (bf names.tail).length - (intOf i).toNat)
 case atStart => exact ⟨0, Nat.zero_le _, rfl, vq.out⟩
 case round =>
  obtain ⟨n, hn, rfl, hI⟩ := hrel
  obtain ⟨wo, rfl⟩ : ∃ wo : World, wo = wr := ⟨_, rfl⟩
  obtain ⟨qs, hA, hp, hs⟩ := hI.out
  have i3 : (0 : Int) ≤ (n : Int) := by omega
  have Qt : qs.length ≤ 15 := by
   have h1 := hp.length_eq
   rw [List.length_map, List.length_take] at h1
   have := lV.out
   omega
  by_cases hlt : n < (bf names.tail).length
  ·obtain ⟨tb, to', rfl, hct⟩ := bQ (hA.strs VD.out) hlt
   have hnl : n < (jN names.tail).length := by rw [← lV.out.1]; exact hlt
   obtain ⟨g1, g2⟩ := Wi hnl
   have B4 := ZZ tu.out g2
   have fH : Hid (((jN names.tail).take (n + 1)).map (uR names) = ((jN names.tail).take n).map (uR names) ++ [uR names (gB (jN names.tail) n)]) := by
    unfold Hid; rw [G1 hnl, List.map_append]; rfl
   have z1 := VB.out
   have z2 : (gs (bf names.tail) n).size ≤ 100 := VC.out n
   rw [g1] at hct z2
   have vt : Hid (∀ W, Calls Tryz.prog 153 #[.string (kR names (gK (gB (jN names.tail) n)))] W (uV W (kR names (gK (gB (jN names.tail) n))))) := fun W => Jq W _ B4.Vy
   unfold kR at vt
   have iw := aa B4
   have HA := aa hA
   have HP := aa hp
   have HS := aa hs
   have aQ := aa hlt
   have HQN := aa Qt
   have HU0' := aa hA.up
   have dr := hA.up.cell dR.out
   have i4 : (n : Int) < ((bf names.tail).length : Int) := by omega
   have i5 : (n : Int) < 16 := by have := lV.out.2; omega
   have i6 : 0 < names.length := by omega
   have i7 : n < (bf names.tail).length := hlt
   have i8 : (0 : Int) < (names.length : Int) := by omega
   have y1 : (9223372036854775807 < 1 + (gs names 0).size) = False := by simp; omega
   have y2 : (9223372036854775807 < 1 + (gs names 0).size + 1) = False := by simp; omega
   have y3 : (9223372036854775807 < 1 + (gs names 0).size + 1 + (gK (gB (jN names.tail) n)).size) = False := by simp; omega
   have y4 : (9223372036854775807 < 1 + (gs names 0).size + 1 + (gK (gB (jN names.tail) n)).size + 2) = False := by simp; omega
   clear hI B4 hA hp hs hlt hnl g1 g2 Qt
   generalize gB (jN names.tail) n = r at *
   have hpe : qu (kR names (gK r)) = 0 := by unfold qu; rw [iw.out.Jj]; exact iw.out.te
   have hpt : nI (kR names (gK r)) = flat (btR (uB names r)) := by unfold nI; rw [iw.out.Jj]; simp [iw.out.te]
   unfold kR at hpe hpt
   have uX := aa hpe
   have o5 := aa hpt
   clear hpe hpt
   go_wp2_with fail
   go_cut [6, 7] from 25 to 39 (fun s6 s7 wx => ∃ B : Nat, s6 = .pointer (some ⟨B, 0, none⟩) ∧ s7 = .int .i64 0 ∧ Hid (th wo B wx (flat (btR (uB names r)))))
   case first =>
    refine cZ (by kernel_rfl) 12 (fun w' => w'.cell? ⟨nb, no, none⟩ = some (.string (gs names 0)) ∧ w'.cell? ⟨tb, to' + n, none⟩ = some (.string (gK r))) ⟨dr, hct⟩ (fun hS => ?_)
    simp only [List.size_toArray, List.length_cons, List.length_nil, Nat.reduceAdd, Array.replicate_succ, Array.replicate_zero, List.push_toArray, List.nil_append, List.cons_append]
    refine af.take (i := 0) (v := ?sH) rfl (by kernel_rfl) (fun _ _ _ h => h) (by rfl) (fun w hSw => ?iD) hS ?sI
    case iD =>
     (try dsimp only at hSw)
     go_simp
     try with_reducible rfl
    try simp only [Act.put, ah, aj, aq]
    refine af.take (i := 1) (v := ?sJ) rfl (by kernel_rfl) (fun _ _ _ h => h) (by rfl) (fun w hSw => ?iE) hS ?sK
    case iE =>
     (try dsimp only at hSw)
     go_simp
     try with_reducible rfl
    try simp only [Act.put, ah, aj, aq]
    refine af.take (i := 2) (v := ?vE) rfl (by kernel_rfl) (fun _ _ _ h => h) (by rfl) (fun w hSw => ?jC) hS ?vF
    case jC =>
     (try dsimp only at hSw)
     go_simp
     try with_reducible rfl
    try simp only [Act.put, ah, aj, aq]
    refine af.take (i := 3) (v := ?vG) rfl (by kernel_rfl) (fun _ _ _ h => h) (by rfl) (fun w hSw => ?jD) hS ?vH
    case jD =>
     (try dsimp only at hSw)
     go_simp
     try with_reducible rfl
    try simp only [Act.put, ah, aj, aq]
    refine af.take (i := 4) (v := ?vI) rfl (by kernel_rfl) (fun _ _ _ h => h) (by rfl) (fun w hSw => ?jE) hS ?vJ
    case jE =>
     (try dsimp only at hSw)
     go_simp
     try with_reducible rfl
    try simp only [Act.put, ah, aj, aq]
    refine af.take (i := 5) (v := ?vK) rfl (by kernel_rfl) (fun _ _ _ h => h) (by rfl) (fun w hSw => ?jF) hS ?vL
    case jF =>
     (try dsimp only at hSw)
     go_simp
     try with_reducible rfl
    try simp only [Act.put, ah, aj, aq]
    refine af.take (i := 6) (v := ?yO) rfl (by kernel_rfl) (fun _ _ _ h => h) (by rfl) (fun w hSw => ?lK) hS ?yP
    case lK =>
     (try dsimp only at hSw)
     go_simp
     try with_reducible rfl
    try simp only [Act.put, ah, aj, aq]
    refine af.take (i := 7) (v := ?Cr) rfl (by kernel_rfl) (fun _ _ _ h => h) (by rfl) (fun w hSw => ?nT) hS ?Cs
    case nT =>
     (try dsimp only at hSw)
     go_simp
     try with_reducible rfl
    try simp only [Act.put, ah, aj, aq]
    refine af.take (i := 8) (v := ?IC) rfl (by kernel_rfl) (fun _ _ _ h => h) (by rfl) (fun w hSw => ?sL) hS ?ID
    case sL =>
     (try dsimp only at hSw)
     go_simp
     try with_reducible rfl
    try simp only [Act.put, ah, aj, aq]
    refine af.take (i := 9) (v := ?PV) rfl (by kernel_rfl) (fun _ _ _ h => h) (by rfl) (fun w hSw => ?y7) hS ?PW
    case y7 =>
     (try dsimp only at hSw)
     go_simp
     try with_reducible rfl
    try simp only [Act.put, ah, aj, aq]
    refine af.take (i := 10) (v := ?Lx) rfl (by kernel_rfl) (fun _ _ _ h => h) (by rfl) (fun w hSw => ?uY) hS ?Lz
    case uY =>
     (try dsimp only at hSw)
     go_simp
     try with_reducible rfl
    try simp only [Act.put, ah, aj, aq]
    refine af.vB (i := 11) (i2 := 15) rfl rfl (by kernel_rfl) (fun K' hK => ?_) (fun K' hK => ?_)
    ·go_simp
     refine (vt.out _).mono ?_
     rintro e w2 ⟨aF, pv, rfl, hpv⟩
     rw [uX.out]
     have hpv : ay Any w2 pv (flat (btR (uB names r))) := by have h := hpv; unfold kR at h; rw [o5.out] at h; exact h
     obtain ⟨P2, N2, rfl, gh, gj⟩ := hpv
     obtain ⟨pp, pc, rfl, -, -⟩ := aA.open gh
     obtain ⟨np, nc, rfl, -, -⟩ := aA.open gj
     have oM : Up wo w2 := (Up.drewN wo 1).trans aF
     have aZ := Up.alloc w2 (.cells #[.slice none 0 0, .slice none 0 0] 39)
     have hb3 := fW (w := w2) (P := .slice none 0 0) (N := .slice none 0 0) (T := 39)
     have yj : Hid (th wo w2.heap.size (w2.alloc (.cells #[.slice pp (flat (btR (uB names r))).ps.length pc, .slice np (flat (btR (uB names r))).ns.length nc] 39)) (flat (btR (uB names r)))) := th.OS oM ⟨_, _, rfl, gh, gj⟩
     have dL := aa (oM.trans aZ)
     have uC : Hid (wo.heap.size ≤ w2.heap.size) := oM.size
     obtain ⟨b0, b1, b2, b3⟩ := boxed hb3
     have wW := aa hb3
     generalize flat (btR (uB names r)) = q0 at *
     clear gh gj aF oM aZ hb3
     refine hK.out _ _ (aJ (by kernel_rfl)) (fun _ => ?_)
     try simp only [ah, aj, aq]
     refine af.free (i := 12) (v := ?gv12fk2) rfl (by kernel_rfl) (fun _ _ _ h => h) (by rfl) (fun w => ?RO) (aJ (by kernel_rfl)) ?gr12fk2
     case RO =>
      go_simp
      try with_reducible rfl
     try simp only [Act.put, ah, aj, aq]
     refine af.free (i := 13) (v := ?gv13fk2) rfl (by kernel_rfl) (fun _ _ _ h => h) (by rfl) (fun w => ?RP) (aJ (by kernel_rfl)) ?gr13fk2
     case RP =>
      go_simp
      try with_reducible rfl
     try simp only [Act.put, ah, aj, aq]
     refine af.free (i := 14) (v := ?gv14fk2) rfl (by kernel_rfl) (fun _ _ _ h => h) (by rfl) (fun w => ?RQ) (aJ (by kernel_rfl)) ?gr14fk2
     case RQ =>
      go_simp
      try with_reducible rfl
     try simp only [Act.put, ah, aj, aq]
     refine af.step (i := 15) rfl (by kernel_rfl) (fun K' hK => ?_)
     go_simp
     refine hK.out _ _ (aJ (by kernel_rfl)) (fun _ => ?_)
     try simp only [ah, aj, aq]
     refine af.step (i := 16) rfl (by kernel_rfl) (fun K' hK => ?_)
     go_simp
     refine hK.out _ _ (aJ (by kernel_rfl)) (fun _ => ?_)
     try simp only [ah, aj, aq]
     refine af.step (i := 17) rfl (by kernel_rfl) (fun K' hK => ?_)
     go_simp
     refine hK.out _ _ (aJ (by kernel_rfl)) (fun _ => ?_)
     refine af.done (by kernel_rfl) ?_
     go_wp2_with fail
     go_meet
     case rel => exact ⟨_, rfl, rfl, yj.out⟩
    ·go_simp
     have aZ := Up.alloc wo (.cells #[.slice none 0 0, .slice none 0 0] 39)
     have hd := Up.drewN (wo.alloc (.cells #[.slice none 0 0, .slice none 0 0] 39)) 1
     have hb1 := fW (w := wo) (P := .slice none 0 0) (N := .slice none 0 0) (T := 39)
     have hs1 : (wo.alloc (.cells #[.slice none 0 0, .slice none 0 0] 39)).heap.size = wo.heap.size + 1 := World.size_alloc _ _
     refine hK.out _ _ (fun _ => ⟨aZ.cell dr, aZ.cell hct⟩) (fun hS => ?_)
     replace hS := hS ⟨11, by decide, rfl⟩
     try simp only [ah, aj, aq]
     refine af.step (i := 11) rfl (by kernel_rfl) (fun K' hK => ?_)
     go_simp
     refine (vt.out _).mono ?_
     rintro e w2 ⟨aF, pv, rfl, hpv⟩
     rw [uX.out]
     have hpv : ay Any w2 pv (flat (btR (uB names r))) := by have h := hpv; unfold kR at h; rw [o5.out] at h; exact h
     have oM := (aZ.trans hd).trans aF
     have hb3 : w2.heap[wo.heap.size]? = some (Obj.cells #[.slice none 0 0, .slice none 0 0] 39 (0, 0)) := (Below.block (hd.trans aF) _ (by rw [hs1]; omega)).trans hb1
     have hpv := F6 hpv hb3
     obtain ⟨P2, N2, rfl, gh, gj⟩ := hpv
     obtain ⟨pp, pc, rfl, -, -⟩ := aA.open gh
     obtain ⟨np, nc, rfl, -, -⟩ := aA.open gj
     have GZ : Hid (ay (fun b => b ≠ wo.heap.size) w2 (.agg #[.slice pp (flat (btR (uB names r))).ps.length pc, .slice np (flat (btR (uB names r))).ns.length nc]) (flat (btR (uB names r)))) := ⟨_, _, rfl, gh, gj⟩
     have dL := aa oM
     have uC : Hid (wo.heap.size ≤ wo.heap.size) := Nat.le_refl _
     obtain ⟨b0, b1, b2, b3⟩ := boxed hb3
     have wW := aa hb3
     generalize flat (btR (uB names r)) = q0 at *
     clear gh gj aF oM aZ hd hb1 hs1 hb3
     refine hK.out _ _ (aJ (by kernel_rfl)) (fun _ => ?_)
     try simp only [ah, aj, aq]
     refine af.free (i := 12) (v := ?gv12fk3) rfl (by kernel_rfl) (fun _ _ _ h => h) (by rfl) (fun w => ?RR) (aJ (by kernel_rfl)) ?gr12fk3
     case RR =>
      go_simp
      try with_reducible rfl
     try simp only [Act.put, ah, aj, aq]
     refine af.free (i := 13) (v := ?gv13fk3) rfl (by kernel_rfl) (fun _ _ _ h => h) (by rfl) (fun w => ?RU) (aJ (by kernel_rfl)) ?gr13fk3
     case RU =>
      go_simp
      try with_reducible rfl
     try simp only [Act.put, ah, aj, aq]
     refine af.free (i := 14) (v := ?gv14fk3) rfl (by kernel_rfl) (fun _ _ _ h => h) (by rfl) (fun w => ?RV) (aJ (by kernel_rfl)) ?gr14fk3
     case RV =>
      go_simp
      try with_reducible rfl
     try simp only [Act.put, ah, aj, aq]
     refine af.step (i := 16) rfl (by kernel_rfl) (fun K' hK => ?_)
     go_simp
     refine hK.out _ _ (aJ (by kernel_rfl)) (fun _ => ?_)
     try simp only [ah, aj, aq]
     refine af.step (i := 17) rfl (by kernel_rfl) (fun K' hK => ?_)
     go_simp
     refine hK.out _ _ (aJ (by kernel_rfl)) (fun _ => ?_)
     refine af.done (by kernel_rfl) ?_
     go_wp2_with fail
     go_meet
     case rel => exact ⟨_, rfl, rfl, th.Fp wW.out uC.out dL.out GZ.out⟩
   case rest =>
    obtain ⟨B, rfl, rfl, hB⟩ := hcut
    obtain ⟨w3, rfl⟩ : ∃ w3 : World, w3 = wc := ⟨_, rfl⟩
    obtain ⟨pp, pc, np, nc, hb3, Bd⟩ := hB.out.ex
    obtain ⟨q0, tM⟩ : ∃ q0, q0 = flat (btR (uB names r)) := ⟨_, rfl⟩
    obtain ⟨q1, hq1⟩ : ∃ q1, q1 = flat (uR names r) := ⟨_, rfl⟩
    have dG := aa hB.out
    rw [← tM] at hb3 Bd
    have hl0 : q0.ps.length ≤ 1000000 ∧ q0.ns.length ≤ 1000000 := by have := iw.out.len; rw [tM, kM, oa]; omega
    have gF : q1.ps.length ≤ 1000000 ∧ q1.ns.length ≤ 1000000 := by have := iw.out.len; rw [hq1, kM, oa]; omega
    have A2 := aa (NJ _ w3 _ q0 Bd hl0.1 hl0.2 (by rw [tM]; exact iw.out.sz))
    have G2 : Hid (aB q0 = 0 ∧ qQ q0 = q1) := by
     have h1 : aB q0 = 0 := by rw [tM]; exact iw.out.te
     refine ⟨h1, ?_⟩
     rw [K9 h1, tM, hq1]; exact iw.out.can
    have jc : Hid (tF q1 = 0 ∧ (⟨(qq q1).toArray⟩ : ByteArray) = aO (uR names r)) := by
     unfold Hid
     rw [hq1]
     refine ⟨by unfold tF; rw [if_neg (by simp [iw.out.ZX])], ?_⟩
     unfold aO; rw [iw.out.tx]
    have tG : Hid (∀ W v, ay Any W v q1 → Calls Tryz.prog 155 #[v] W (yV W q1)) := fun W v h => Jl Any W v q1 h gF.1 gF.2 (by rw [hq1]; exact iw.out.ZY)
    have wW := aa hb3
    obtain ⟨b0, b1, b2, b3⟩ := boxed hb3
    clear hl0 gF tM hq1 Bd hb3 dr hct vt uX o5 hB y1 y2 y3 y4
    go_wp2_with fail
    refine A2.out.mono ?_
    rintro e w4 ⟨b6, ⟨kV, -⟩ | ⟨-, cv, rfl, P4, N4, rfl, dD, dF⟩⟩
    ·exact absurd G2.out.1 kV
    rw [G2.out.2] at dD dF
    obtain ⟨p4, c4, rfl, -, -⟩ := aA.open dD
    obtain ⟨n4, d4, rfl, -, -⟩ := aA.open dF
    have hb4 := (Below.block b6 B dG.out.lo.2).trans wW.out
    have HX5 := aa (th.Fp (w := wo) (t := q1) (pp := p4) (np := n4) (pc := c4) (nc := d4) hb4 dG.out.lo.1 (dG.out.up.trans b6) (ay.sub ⟨_, _, rfl, dD, dF⟩ fun b hb _ => by have := dG.out.lo.2; omega))
    obtain ⟨b0, b1, b2, b3⟩ := boxed hb4
    obtain ⟨_, _, _, s4⟩ := dg (w := wo) (p := .slice p4 q1.ps.length c4) (q := .slice n4 q1.ns.length d4) hb4 dG.out.lo.1 (dG.out.up.trans b6)
    have AB : ay Any ((w4.setCell ⟨B, 0, none⟩ (.slice p4 q1.ps.length c4)).setCell ⟨B, 1, none⟩ (.slice n4 q1.ns.length d4)) (.agg #[.slice p4 q1.ps.length c4, .slice n4 q1.ns.length d4]) q1 :=
     ((ay.sub (T := fun b => b ≠ B) ⟨_, _, rfl, dD, dF⟩ fun b hb _ => by have := dG.out.lo.2; omega).keep fun b hb _ => s4 b hb).sub fun _ _ _ => trivial
    have pI := aa AB
    clear hb4 b6 dD dF A2 dG wW s4 AB
    go_wp2_with fail
    generalize (w4.setCell ⟨B, 0, none⟩ _).setCell ⟨B, 1, none⟩ _ = w5 at *
    refine (tG.out w5 _ pI.out).mono ?_
    rintro e w6 ⟨dz, rfl⟩
    rw [jc.out.1, jc.out.2]
    have Mo := aa (HA.out.next (HX5.out.up.trans dz))
    obtain ⟨oq, oc, EO, -⟩ := Mo.out.own.form (n := qs.length) (by rw [List.length_map, List.length_map])
    subst EO
    have HQ : Hid (∃ q, q = uR names r) := ⟨_, rfl⟩
    obtain ⟨q, hq⟩ := HQ.out
    rw [← hq] at jc fH ⊢
    have Mf : Hid (((qs.map aO).map Value.string).length = qs.length) := by unfold Hid; rw [List.length_map, List.length_map]
    have b5 : Hid (w.heap.size ≤ w6.heap.size) := by obtain ⟨z1, z2, z3⟩ := Mo.out.sz; unfold Hid; omega
    clear dz HX5 tG pI jc G2 iw hq HQ b0 b1 b2 b3 HA z1 z2
    go_wp2_with (at_builtin; refine gA w6 rfl _ _ 22 rfl w.heap.size 9 (.string ⟨#[]⟩) 16 Tryz.underlying22 Tryz.gy rfl (by decide) Mo.out.own rfl (.string (aO q)) rfl rfl qs.length Mf.out (by have := HQN.out; omega) b5.out ?_; intro g8 iG w8 bZ cH fI; have wU := aa (Mo.out.app bZ cH fI); clear bZ cH fI)
    have fT : Hid ((qs.map aO).length = qs.length) := List.length_map _
    have LF : Hid (Mm w w2 qs q qs.length (.slice (some ⟨g8, 0, none⟩) (qs.length + 1) iG) w8) := by
     refine ⟨aO q, ?_, fun i h1 h2 => by omega⟩
     have h := wU.out
     rw [OH, fT.out] at h
     exact h
    have lz : Hid (∀ (m : Nat) (wr : World), m ≤ qs.length → Mm w w2 qs q m (.slice (some ⟨g8, 0, none⟩) (qs.length + 1) iG) wr → (m = 0 ∨ dX (qs.getD (m - 1) (.node ByteArray.empty [])) q) → Wh w w2 names (n + 1) (.slice (some ⟨g8, 0, none⟩) (qs.length + 1) iG) (wr.setCell ⟨g8, m, none⟩ (.string (aO q)))) := fun m wr hm hJ hlo => by
     obtain ⟨j, hj, hhi⟩ := hJ
     obtain ⟨i1, i2⟩ := VO HS.out hm hhi hlo
     obtain ⟨g, cp, e, _, _, h4⟩ := hj.set (j := m) (by rw [Fi, fT.out]; omega)
     injection e with e
     injection e with e
     injection e with e
     subst e
     refine ⟨qs.take m ++ q :: qs.drop m, ?_, ?_, i2⟩
     ·have h5 := h4 (aO q)
      rw [L4 (by rw [fT.out]; exact hm)] at h5
      have e2 : (qs.take m ++ q :: qs.drop m).map aO = p6 (qs.map aO) m (aO q) := by unfold p6; simp
      rw [e2]; exact h5
     ·rw [fH.out]
      exact i1.trans ((HP.out.cons q).trans (List.perm_append_comm (l₁ := [q])))
    have G8 : Hid (∀ (m : Nat) (wr : World), m ≤ qs.length → Mm w w2 qs q m (.slice (some ⟨g8, 0, none⟩) (qs.length + 1) iG) wr → wr.frozen? ⟨g8, m, none⟩ = false ∧ (∃ x, wr.cell? ⟨g8, m, none⟩ = some (.string x)) ∧ (0 < m → wr.cell? ⟨g8, m - 1, none⟩ = some (.string (aO (qs.getD (m - 1) (.node ByteArray.empty []))))) ∧ (0 < m → ¬ dX (qs.getD (m - 1) (.node ByteArray.empty [])) q → Mm w w2 qs q (m - 1) (.slice (some ⟨g8, 0, none⟩) (qs.length + 1) iG) (wr.setCell ⟨g8, m, none⟩ (.string (aO (qs.getD (m - 1) (.node ByteArray.empty []))))))) := fun m wr hm hJ => by
     obtain ⟨j, hj, hhi⟩ := hJ
     obtain ⟨g, cp, e, h2, h3, h4⟩ := hj.set (j := m) (by rw [Fi, fT.out]; omega)
     injection e with e
     injection e with e
     injection e with e
     subst e
     refine ⟨h3, ⟨_, h2⟩, fun h0 => ?_, fun h0 hn => ?_⟩
     ·obtain ⟨g', cp', e', Aq, _, _⟩ := hj.set (j := m - 1) (by rw [Fi, fT.out]; omega)
      injection e' with e'
      injection e' with e'
      injection e' with e'
      subst e'
      rw [Rz h0 (by rw [fT.out]; exact hm), vY (by omega)] at Aq
      exact Aq
     ·refine ⟨gs (qs.map aO) (m - 1), ?_, fun i q1 q2 => ?_⟩
      ·have h5 := h4 (aO (qs.getD (m - 1) (.node ByteArray.empty [])))
       rw [← vY (by omega), OI h0 (by rw [fT.out]; exact hm)] at h5
       rw [← vY (by omega)]
       exact h5
      ·by_cases ei : i = m - 1
       ·rw [ei]; exact hn
       ·exact hhi i (by omega) q2
    have Ju : Hid (qs.length ≤ 15) := HQN.out
    clear wU Mo fT fH HP Mf b5
    go_wp2_with fail
    go_loopw [10] (fun k wr => ∃ m : Nat, m ≤ qs.length ∧ k = .int .i64 m ∧ Hid (Mm w w2 qs q m (.slice (some ⟨g8, 0, none⟩) (qs.length + 1) iG) wr)) (fun k _ => (intOf k).toNat)
    case atStart => exact ⟨qs.length, Nat.le_refl _, rfl, LF.out⟩
    case round =>
     obtain ⟨m, hm, rfl, hJ⟩ := hrel
     obtain ⟨wi, rfl⟩ : ∃ wi : World, wi = wr := ⟨_, rfl⟩
     obtain ⟨hf, ⟨x0, hx0⟩, hc1, hsh⟩ := G8.out m wi hm hJ.out
     have m1 : (0 : Int) ≤ (m : Int) := by omega
     have m2 : (m : Int) < ((qs.length + 1 : Nat) : Int) := by omega
     have m3 : (m : Int) < 16 := by have := Ju.out; omega
     have m4 : m < qs.length + 1 := by omega
     by_cases h0 : m = 0
     ·subst h0
      have dS := aa (lz.out 0 wi (Nat.zero_le _) hJ.out (.inl rfl))
      clear hJ hsh hc1
      go_wp2_with fail
      go_roundw
      case rel => exact ⟨n + 1, aQ.out, by go_num, dS.out⟩
      case measure => have := aQ.out; simp [intOf]; omega
     ·have hc2 := hc1 (by omega)
      have hw : wrap64 ((m : Int) - 1) = ((m - 1 : Nat) : Int) := by unfold wrap64; omega
      have m5 : (0 : Int) < (m : Int) := by omega
      have m6 : ((m - 1 : Nat) : Int) < ((qs.length + 1 : Nat) : Int) := by omega
      have m7 : m - 1 < qs.length + 1 := by omega
      obtain ⟨y, hy⟩ : ∃ y, y = qs.getD (m - 1) (.node ByteArray.empty []) := ⟨_, rfl⟩
      rw [← hy] at hc2 hsh
      have Bk := aa (lz.out m wi hm hJ.out)
      rw [← hy] at Bk
      have HSH := aa hsh
      have HM0 : Hid (0 < m ∧ m ≤ qs.length) := ⟨by omega, hm⟩
      have HJJ := aa hJ.out
      clear hc1 hsh hy hJ
      go_wp2_with fail
      ·have hno := Wj ‹_ ∧ _›
       have hm0 := HM0.out
       have HX := aa (HSH.out hm0.1 hno)
       go_roundw
       case rel => exact ⟨m - 1, by omega, by go_num, HX.out⟩
       case measure => simp [intOf]; omega
      ·have hyes := RN ‹_ ∨ _›
       have dS := aa (Bk.out (.inr hyes))
       go_roundw
       case rel => exact ⟨n + 1, aQ.out, by go_num, dS.out⟩
       case measure => have := aQ.out; simp [intOf]; omega
  ·obtain rfl : n = (bf names.tail).length := by omega
   have Td : qs = aW names := by
    refine VP tu.out ?_ hs
    rw [lV.out.1, List.take_length] at hp
    exact hp
   subst Td
   have p9 := aa hA.up
   have HST : Hid (au Any wo u3 ((aW names).map aO)) := hA.own.strs.sub fun _ _ _ => trivial
   obtain ⟨op, oc, EO, -⟩ := hA.own.form (n := (aW names).length) (by rw [List.length_map, List.length_map])
   subst EO
   have HST : Hid (au Any wo (.slice op (aW names).length oc) ((aW names).map aO)) := HST.out
   have dN : Hid ((allT names).length = (aW names).length) := by unfold Hid allT; rw [List.length_map]
   have Ju := aa Qt
   clear hI hA hp hs hlt hn Qt
   have vq : Hid (Qn wo names 0 (.slice (some ⟨wo.heap.size, 0, none⟩) 0 0) (wo.alloc (.cells #[] 39))) := by
    refine ⟨Up.alloc _ _, [], ⟨World.ownsRow_made wo #[] 0 (Nat.le_refl _) (by unfold maxLen; omega) (by simp), fun _ h => by cases h⟩, by simp⟩
   go_wp2_with fail
   go_loopw [11, 12, 13, 14] (fun out i _ _ wr => ∃ k : Nat, k ≤ (aW names).length ∧ i = .int .i64 k ∧ Hid (Qn wo names k out wr)) (fun _ i _ _ _ => (aW names).length - (intOf i).toNat)
   case atStart => exact ⟨0, Nat.zero_le _, rfl, vq.out⟩
   case round =>
    obtain ⟨k, hk, rfl, hI⟩ := hrel
    obtain ⟨wi, rfl⟩ : ∃ wi : World, wi = wr := ⟨_, rfl⟩
    obtain ⟨qb, es, hes, hem⟩ := hI.out
    have k0 : (0 : Int) ≤ (k : Int) := by omega
    by_cases hlk : k < (aW names).length
    ·have hmem : (aW names).getD k (.node ByteArray.empty []) ∈ aW names := by simp [hlk]
     obtain ⟨p1, p2, p3⟩ := Jo tu.out hmem
     obtain ⟨_, _, _, _, p5, _⟩ := eC tu.out hmem
     obtain ⟨xb, xo, rfl, lT⟩ := bQ (au.keep HST.out (qb.kept _)) (k := k) (by rw [List.length_map]; exact hlk)
     rw [vY hlk] at lT
     have mQ : gH (aO ((aW names).getD k (.node ByteArray.empty []))).data.toList = some ((aW names).getD k (.node ByteArray.empty [])) := by
      have hg := (eC tu.out hmem).1.good
      have e : (aO ((aW names).getD k (.node ByteArray.empty []))).data.toList = txR ((aW names).getD k (.node ByteArray.empty [])) ++ [59] := by unfold aO bG; simp
      rw [e]; exact rL hg.ig
     have vt := aa (F2 wi _ p1 mQ p5)
     have hlt2 : k < (allT names).length := by rw [dN.out]; exact hlk
     have hgt : gt (allT names) k = flat ((aW names).getD k (.node ByteArray.empty [])) := by unfold allT gt; simp [hlk]
     have fH : Hid ((allT names).take (k + 1) = es.map (·.2) ++ [flat ((aW names).getD k (.node ByteArray.empty []))]) := by unfold Hid; rw [Af hlt2, hem, hgt]
     have jK : es.length = k := by
      have := congrArg List.length hem
      rw [List.length_map, List.length_take] at this
      omega
     have dW := aa jK
     obtain ⟨op2, oc2, rfl⟩ := hes.form
     have qD : Hid (fM wo.heap.size wi (.slice op2 k oc2) es) := by have h := hes; rw [jK] at h; exact h
     have VM := aa qb
     have Fo := aa hlk
     have k1 : (k : Int) < ((aW names).length : Int) := by omega
     have k2 : (k : Int) < 16 := by have := Ju.out; omega
     rw [jK]
     clear hI qb hes hem hlk hlt2 hgt hmem p1 p2 p3 p5 mQ jK
     generalize aO ((aW names).getD k (.node ByteArray.empty [])) = key at *
     generalize flat ((aW names).getD k (.node ByteArray.empty [])) = q at *
     go_wp2_with fail
     refine vt.out.mono ?_
     rintro e w2 ⟨aF, v2, rfl, ht2⟩
     obtain ⟨P2, N2, rfl, gh, gj⟩ := ht2
     obtain ⟨pp, pc, rfl, -, -⟩ := aA.open gh
     obtain ⟨np, nc, rfl, -, -⟩ := aA.open gj
     have aZ := Up.alloc w2 (.cells #[.slice pp q.ps.length pc, .slice np q.ns.length nc] 39)
     have Wm := qD.out.up (aF.trans aZ)
     have HES2 := aa Wm
     have hlo := fun b hb => (World.ownsRow.lt qD.out.1 b hb)
     have E3 : Hid (ay (fun b => some b ≠ (Value.slice op2 k oc2).ownBlock) (w2.alloc (.cells #[.slice pp q.ps.length pc, .slice np q.ns.length nc] 39)) (.agg #[.slice pp q.ps.length pc, .slice np q.ns.length nc]) q) :=
      (ay.keep ⟨_, _, rfl, gh, gj⟩ (aZ.kept _)).sub fun b hb _ e => by have h1 := (hlo b e.symm).2; have h2 : wi.heap.size ≤ b := hb; omega
     have bE := aa (VM.out.trans (aF.trans aZ))
     have gG := aa (dO w2 (.slice pp q.ps.length pc) (.slice np q.ns.length nc) 39)
     have eO := aa (dP w2 (.slice pp q.ps.length pc) (.slice np q.ns.length nc) 39)
     have HEQ : Hid (es.length = k) := dW.out
     have HK6 : Hid (k ≤ 1000000) := by have := Fo.out; have := Ju.out; unfold Hid; omega
     clear aF gh gj aZ Wm hlo vt qD
     go_wp2_with (at_builtin; refine pV _ rfl _ _ 33 rfl wo.heap.size _ 48 Tryz.underlying33 Tryz.infoTree rfl (by decide) HES2.out rfl ((.slice pp q.ps.length pc, .slice np q.ns.length nc), q) (by rw [World.size_alloc]; rfl) E3.out k HEQ.out HK6.out bE.out.size ?_; intro g8 iG w8 bZ cH pQ; have E4 := aa bZ; have mZ := aa pQ; clear bZ cH pQ)
     go_roundw
     case rel => exact ⟨k + 1, Fo.out, by go_num, Below.trans (show Below wo.heap.size wo _ from bE.out) mZ.out, _, E4.out, by rw [fH.out, List.map_append]; rfl⟩
     case measure => have := Fo.out; simp [intOf]; omega
    ·obtain rfl : k = (aW names).length := by omega
     have pR : es.map (·.2) = allT names := by rw [hem, ← dN.out, List.take_length]
     have dS : Hid (x6 w names (.returned u11) wi) := ⟨p9.out.trans qb, u11, rfl, pR ▸ hes.trees⟩
     clear hI qb hes hem pR hlk
     go_wp2_with fail
     go_ret
     exact dS.out
set_option maxHeartbeats 2000000 in
theorem OV (S : Nat → Prop) (w : World) (v : Value) (names : List ByteArray) (h : au S w v names) (hn : names.length ≤ 1000000) (hz : ∀ k, (gs names k).size ≤ 70000) (h5 : names.length ≤ 5 ∨ 7 < names.length) :
  Calls Tryz.prog 32 #[v] w (oo w names) := by
 have gP := aa (zv S w v names h hn hz)
 obtain ⟨p, cap, rfl, hcap, -⟩ := aA.open h
 have h : au S w (.slice p names.length cap) names := h
 have rV : Hid (∀ W, Up w W → bD names = 0 → Calls Tryz.prog 96 #[.slice p names.length cap] W (x6 W names)) := fun W hW h0 => by
  have Fe : names.length ≤ 5 := by
   rcases h5 with h5 | h5
   ·exact h5
   ·unfold bD at h0; rw [if_pos (.inr h5)] at h0; cases h0
  exact OU S W _ names ((mD Fe).1 h0) (au.keep h (hW.kept S))
 clear h hz h5
 go_enter Tryz.func32, Tryz.ntmps32
 go_wp2_with fail
 refine gP.out.mono ?_
 rintro e w1 ⟨rfl, aS⟩
 have bF := aa aS
 have Ff := aa (rV.out w1 aS)
 clear aS gP rV
 by_cases c1 : bD names = 0
 ·have Fg := aa (Ff.out c1)
  have dS : Hid (∀ W v, Up w W → cz Any W v (allT names) → oo w names (.returned (.tuple #[v, .int .i64 0])) W) := fun W v hu ht => ⟨hu, v, by rw [c1], by rw [if_pos c1]; exact ht⟩
  rw [c1]
  clear c1 Ff
  go_wp2_with fail
  refine Fg.out.mono ?_
  rintro e w2 ⟨aF, v2, rfl, ht2⟩
  have ng := aa (dS.out w2 v2 (bF.out.trans aF) ht2)
  clear aF ht2 Fg
  go_wp2_with fail
  go_ret2
  exact ng.out
 ·have dS : Hid (oo w names (.returned (.tuple #[.slice none 0 0, .int .i64 (bD names)])) w1) := ⟨bF.out, _, rfl, by rw [if_neg c1]; exact cz.nil _ _⟩
  generalize bD names = a at *
  go_wp2_with fail
  go_ret2
  exact dS.out
end Go.Proofs.YteegefnjnikngaaGreat
