/- Reference 34: all, All. Reference 34: Bound. -/
import Derived.Test.YteegefnjnikngaaGreatQ1
import Derived.Test.YteegefnjnikngaaGreatQ45
import Derived.Test.YteegefnjnikngaaGreatQ43
import Derived.Test.YteegefnjnikngaaGreatQ38
import Derived.Test.YteegefnjnikngaaGreatQ30
import Derived.Test.YteegefnjnikngaaGreatQ26
import Derived.Test.YteegefnjnikngaaGreatQ44
import Derived.Test.YteegefnjnikngaaGreatQ46
import Derived.Test.YteegefnjnikngaaGreatQ18
set_option maxRecDepth 100000
namespace Go.Proofs.YteegefnjnikngaaGreat
section
open Go.RowKit Go.Deep
def BC (w : World) (names : List ByteArray) (e : Ending) (w' : World) : Prop := Up w w' ∧ ∃ v, e = .returned v ∧ dz Any w' v (allT names)
def AgI (w w2 : World) (names : List ByteArray) (n : Nat) (tv : Value) (wr : World) : Prop :=
 ∃ qs : List RT, qO (w.heap.size + 1) w w2 wr tv (qs.map aW) ∧ qs.Perm (((l8 names.tail).take n).map (uR names)) ∧ qs.Pairwise fM
def Rg (w w2 : World) (qs : List RT) (q : RT) (k : Nat) (tv : Value) (wr : World) : Prop :=
 ∃ j : ByteArray, qO (w.heap.size + 1) w w2 wr tv (tH (qs.map aW) k j) ∧ ∀ i, k ≤ i → i < qs.length → ¬ fM (qs.getD i (.node ByteArray.empty [])) q
theorem rfs_gs {L : List ByteArray} {n : Nat} (h : n < (l8 L).length) : gs (bJ L) n = jt (gB (l8 L) n) ∧ gB (l8 L) n ∈ kD L := by
 unfold gs gB bJ
 constructor
 ·simp [h]
 ·rw [(Bw L).mem_iff]; simp [h]
theorem zJ {qs : List RT} {i : Nat} (h : i < qs.length) : gs (qs.map aW) i = aW (qs.getD i (.node ByteArray.empty [])) := by simp [gs, h]
theorem Rh (y q : RT) : fM y q ↔ Op.bytesLess (aW y).toList (aW q).toList = true ∨ (aW y).toList = (aW q).toList := by
 have e : ∀ r : RT, (aW r).toList = cn r := fun r => by rw [toList_data]; unfold aW; simp
 rw [e, e, wO, decide_eq_true_iff]
 unfold fM
 constructor
 ·intro h
  by_cases h0 : Lib.compareBytes (cn y) (cn q) = 0
  ·exact .inr (oZ h0)
  ·exact .inl (by omega)
 ·rintro (h | h)
  ·omega
  ·rw [h, wj]; exact Int.le_refl _
theorem Xb {y q : RT} (h : (!Op.bytesLess (aW y).toList (aW q).toList) = false ∨ (!(aW y).toList == (aW q).toList) = false) : fM y q := by
 rw [Rh]
 rcases h with h | h
 ·exact .inl (by simpa using h)
 ·exact .inr (by simpa using h)
theorem key_no {y q : RT} (h : (!Op.bytesLess (aW y).toList (aW q).toList) = true ∧ (!(aW y).toList == (aW q).toList) = true) : ¬ fM y q := by
 rw [Rh]
 rintro (e | e)
 ·rw [e] at h; exact absurd h.1 (by decide)
 ·have := h.2; rw [e] at this; simp at this
set_option maxHeartbeats 8000000 in
theorem TY (S : Nat → Prop) (w : World) (v : Value) (names : List ByteArray) (hok : fT names) (h : av S w v names) : Calls Tryz.prog 96 #[v] w (BC w names) := by
 have hlo := hok.lo
 have hhi := hok.hi
 obtain ⟨p, cap, rfl, hcap, -⟩ := aD.open h
 have h : av S w (.slice p names.length cap) names := h
 obtain ⟨nb, no, rfl, hc0⟩ := cu h (k := 0) (by omega)
 rw [Nat.add_zero] at hc0
 have hz : ∀ x ∈ names, x.size ≤ 20 := fun x hx => r7 (hok.nm x hx)
 have sG := Up.alloc w (.cells #[] 9)
 have hs0 : (w.alloc (.cells #[] 9)).heap.size = w.heap.size + 1 := World.size_alloc _ _
 have QY := aa (KR names.tail.length names.tail (Nat.le_refl _) (by rw [List.length_tail]; omega) (by rw [List.length_tail]; omega) (fun x hx => hz x (List.mem_of_mem_tail hx)) S (w.alloc (.cells #[] 9)) _ (FH (av.keep h (sG.kept _)) hlo))
 have xC := aa hok
 have fB := aa hc0
 have HO0 := aa (aA.made w 9)
 have K7 := aa sG
 have HS0 := aa hs0
 have uj : Hid (names.tail.length ≤ 4 ∧ 1 ≤ names.tail.length) := by unfold Hid; rw [List.length_tail]; omega
 have HGZ : Hid ((gs names 0).size ≤ 20) := iN hz 0
 have HZT : Hid (∀ k, (gs (bJ names.tail) k).size ≤ 100) := iN fun x hx => Bz uj.out.1 (fun x hx => hz x (List.mem_of_mem_tail hx)) hx
 have oJ : Hid ((bJ names.tail).length = (l8 names.tail).length ∧ (bJ names.tail).length ≤ 15) := ⟨by unfold bJ; rw [List.length_map], p6 uj.out.1⟩
 have i0 : ¬ cap = 1 := by omega
 have i1 : (1 : Int) ≤ (names.length : Int) := by omega
 have i2 : 1 ≤ names.length := by omega
 clear h hc0 hz hok hhi sG hs0
 go_enter Tryz.func96, Tryz.ntmps96
 go_wp2_with fail
 generalize w.alloc (.cells #[] 9) = w1 at *
 refine QY.out.mono ?_
 rintro e w2 ⟨aK, tv, rfl, J5⟩
 obtain ⟨tp, tc, rfl, -⟩ := J5.form (n := (bJ names.tail).length) (by rw [List.length_map])
 have HTV : Hid (av (fun b => w.heap.size + 1 ≤ b ∧ b < w2.heap.size) w2 (.slice tp (bJ names.tail).length tc) (bJ names.tail)) := J5.strs.sub fun b hb hl => ⟨by have := HS0.out; omega, hl⟩
 have y8 : Hid (AgI w w2 names 0 (.slice (some ⟨w.heap.size, 0, none⟩) 0 0) w2) := by
  refine ⟨[], ⟨K7.out.trans aK, ⟨Nat.le_succ _, by have := HS0.out; have := aK.size; omega, Nat.le_refl _⟩, HO0.out.eV fun b hb => Below.block aK b (by have := (aF HO0.out hb).2; exact this), fun b hb => .inl ?_, fun _ _ _ => rfl⟩, by simp, List.Pairwise.nil⟩
  have hb : some w.heap.size = some b := hb
  injection hb with hb
  omega
 clear J5 aK QY HO0 HS0
 go_wp2_with fail
 go_loopw [3, 5, 6, 7, 8, 9, 10] (fun texts i _ _ _ _ _ wr => ∃ n : Nat, n ≤ (bJ names.tail).length ∧ i = .int .i64 n ∧ Hid (AgI w w2 names n texts wr)) (fun _ i _ _ _ _ _ _ => (bJ names.tail).length - (intOf i).toNat)
 case atStart => exact ⟨0, Nat.zero_le _, rfl, y8.out⟩
 case round =>
  obtain ⟨n, hn, rfl, hI⟩ := hrel
  obtain ⟨wo, rfl⟩ : ∃ wo : World, wo = wr := ⟨_, rfl⟩
  obtain ⟨qs, hA, hp, hs⟩ := hI.out
  have i3 : (0 : Int) ≤ (n : Int) := by omega
  have L4 : qs.length ≤ 15 := by
   have h1 := hp.length_eq
   rw [List.length_map, List.length_take] at h1
   have := oJ.out
   omega
  by_cases hlt : n < (bJ names.tail).length
  ·obtain ⟨tb, to', rfl, hct⟩ := cu (hA.strs HTV.out) hlt
   have hnl : n < (l8 names.tail).length := by rw [← oJ.out.1]; exact hlt
   obtain ⟨g1, g2⟩ := rfs_gs hnl
   have FK := enF xC.out g2
   have jP : Hid (((l8 names.tail).take (n + 1)).map (uR names) = ((l8 names.tail).take n).map (uR names) ++ [uR names (gB (l8 names.tail) n)]) := by
    unfold Hid; rw [Mj hnl, List.map_append]; rfl
   have z1 := HGZ.out
   have z2 : (gs (bJ names.tail) n).size ≤ 100 := HZT.out n
   rw [g1] at hct z2
   have y9 : Hid (∀ W, Calls Tryz.prog 153 #[.string (nQ names (jt (gB (l8 names.tail) n)))] W (yX W (nQ names (jt (gB (l8 names.tail) n))))) := fun W => NC W _ FK.psz
   unfold nQ at y9
   have jS := aa FK
   have HA := aa hA
   have HP := aa hp
   have HS := aa hs
   have aY := aa hlt
   have CL := aa L4
   have HU0' := aa hA.up
   have cD := hA.up.cell fB.out
   have i4 : (n : Int) < ((bJ names.tail).length : Int) := by omega
   have i5 : (n : Int) < 16 := by have := oJ.out.2; omega
   have i6 : 0 < names.length := by omega
   have i7 : n < (bJ names.tail).length := hlt
   have i8 : (0 : Int) < (names.length : Int) := by omega
   have y1 : (9223372036854775807 < 1 + (gs names 0).size) = False := by simp; omega
   have y2 : (9223372036854775807 < 1 + (gs names 0).size + 1) = False := by simp; omega
   have y3 : (9223372036854775807 < 1 + (gs names 0).size + 1 + (jt (gB (l8 names.tail) n)).size) = False := by simp; omega
   have y4 : (9223372036854775807 < 1 + (gs names 0).size + 1 + (jt (gB (l8 names.tail) n)).size + 2) = False := by simp; omega
   clear hI FK hA hp hs hlt hnl g1 g2 L4
   generalize gB (l8 names.tail) n = r at *
   have hpe : uh (nQ names (jt r)) = 0 := by unfold uh; rw [jS.out.NQ]; exact jS.out.te
   have hpt : ri (nQ names (jt r)) = flat (btR (uB names r)) := by unfold ri; rw [jS.out.NQ]; simp [jS.out.te]
   unfold nQ at hpe hpt
   have yC := aa hpe
   have vv := aa hpt
   clear hpe hpt
   go_wp2_with fail
   go_cut [6, 7] from 25 to 39 (fun s6 s7 wx => ∃ B : Nat, s6 = .pointer (some ⟨B, 0, none⟩) ∧ s7 = .int .i64 0 ∧ Hid (p9 wo B wx (flat (btR (uB names r)))))
   case first =>
    refine cU (by kernel_rfl) 12 (fun w' => w'.cell? ⟨nb, no, none⟩ = some (.string (gs names 0)) ∧ w'.cell? ⟨tb, to' + n, none⟩ = some (.string (jt r))) ⟨cD, hct⟩ (fun hS => ?_)
    simp only [List.size_toArray, List.length_cons, List.length_nil, Nat.reduceAdd, Array.replicate_succ, Array.replicate_zero, List.push_toArray, List.nil_append, List.cons_append]
    refine af.take (i := 0) (v := ?qc) rfl (by kernel_rfl) (fun _ _ _ h => h) (by rfl) (fun w hSw => ?gp) hS ?qd
    case gp =>
     (try dsimp only at hSw)
     go_simp
     try with_reducible rfl
    try simp only [Act.put, aq, ah, au]
    refine af.take (i := 1) (v := ?qf) rfl (by kernel_rfl) (fun _ _ _ h => h) (by rfl) (fun w hSw => ?gq) hS ?qg
    case gq =>
     (try dsimp only at hSw)
     go_simp
     try with_reducible rfl
    try simp only [Act.put, aq, ah, au]
    refine af.take (i := 2) (v := ?rG) rfl (by kernel_rfl) (fun _ _ _ h => h) (by rfl) (fun w hSw => ?gN) hS ?rH
    case gN =>
     (try dsimp only at hSw)
     go_simp
     try with_reducible rfl
    try simp only [Act.put, aq, ah, au]
    refine af.take (i := 3) (v := ?rI) rfl (by kernel_rfl) (fun _ _ _ h => h) (by rfl) (fun w hSw => ?gO) hS ?rJ
    case gO =>
     (try dsimp only at hSw)
     go_simp
     try with_reducible rfl
    try simp only [Act.put, aq, ah, au]
    refine af.take (i := 4) (v := ?rK) rfl (by kernel_rfl) (fun _ _ _ h => h) (by rfl) (fun w hSw => ?gP) hS ?rL
    case gP =>
     (try dsimp only at hSw)
     go_simp
     try with_reducible rfl
    try simp only [Act.put, aq, ah, au]
    refine af.take (i := 5) (v := ?rM) rfl (by kernel_rfl) (fun _ _ _ h => h) (by rfl) (fun w hSw => ?gQ) hS ?rN
    case gQ =>
     (try dsimp only at hSw)
     go_simp
     try with_reducible rfl
    try simp only [Act.put, aq, ah, au]
    refine af.take (i := 6) (v := ?zo) rfl (by kernel_rfl) (fun _ _ _ h => h) (by rfl) (fun w hSw => ?lX) hS ?zq
    case lX =>
     (try dsimp only at hSw)
     go_simp
     try with_reducible rfl
    try simp only [Act.put, aq, ah, au]
    refine af.take (i := 7) (v := ?Co) rfl (by kernel_rfl) (fun _ _ _ h => h) (by rfl) (fun w hSw => ?oA) hS ?Cq
    case oA =>
     (try dsimp only at hSw)
     go_simp
     try with_reducible rfl
    try simp only [Act.put, aq, ah, au]
    refine af.take (i := 8) (v := ?F5) rfl (by kernel_rfl) (fun _ _ _ h => h) (by rfl) (fun w hSw => ?rO) hS ?F6
    case rO =>
     (try dsimp only at hSw)
     go_simp
     try with_reducible rfl
    try simp only [Act.put, aq, ah, au]
    refine af.take (i := 9) (v := ?Vs) rfl (by kernel_rfl) (fun _ _ _ h => h) (by rfl) (fun w hSw => ?CR) hS ?Vt
    case CR =>
     (try dsimp only at hSw)
     go_simp
     try with_reducible rfl
    try simp only [Act.put, aq, ah, au]
    refine af.take (i := 10) (v := ?QG) rfl (by kernel_rfl) (fun _ _ _ h => h) (by rfl) (fun w hSw => ?yZ) hS ?QH
    case yZ =>
     (try dsimp only at hSw)
     go_simp
     try with_reducible rfl
    try simp only [Act.put, aq, ah, au]
    refine af.wh (i := 11) (i2 := 15) rfl rfl (by kernel_rfl) (fun K' hK => ?_) (fun K' hK => ?_)
    ·go_simp
     refine (y9.out _).mono ?_
     rintro e w2 ⟨aK, pv, rfl, hpv⟩
     rw [yC.out]
     have hpv : aC Any w2 pv (flat (btR (uB names r))) := by have h := hpv; unfold nQ at h; rw [vv.out] at h; exact h
     obtain ⟨P2, N2, rfl, fP, fQ⟩ := hpv
     obtain ⟨pp, pc, rfl, -, -⟩ := aD.open fP
     obtain ⟨np, nc, rfl, -, -⟩ := aD.open fQ
     have iU : Up wo w2 := (Up.drewN wo 1).trans aK
     have bq := Up.alloc w2 (.cells #[.slice none 0 0, .slice none 0 0] 39)
     have hb3 := fF (w := w2) (P := .slice none 0 0) (N := .slice none 0 0) (T := 39)
     have ye : Hid (p9 wo w2.heap.size (w2.alloc (.cells #[.slice pp (flat (btR (uB names r))).ps.length pc, .slice np (flat (btR (uB names r))).ns.length nc] 39)) (flat (btR (uB names r)))) := p9.Kh iU ⟨_, _, rfl, fP, fQ⟩
     have dS := aa (iU.trans bq)
     have q8 : Hid (wo.heap.size ≤ w2.heap.size) := iU.size
     obtain ⟨b0, b1, b2, b3⟩ := boxed hb3
     have s5 := aa hb3
     generalize flat (btR (uB names r)) = q0 at *
     clear fP fQ aK iU bq hb3
     refine hK.out _ _ (aJ (by kernel_rfl)) (fun _ => ?_)
     try simp only [aq, ah, au]
     refine af.free (i := 12) (v := ?Xc) rfl (by kernel_rfl) (fun _ _ _ h => h) (by rfl) (fun w => ?D5) (aJ (by kernel_rfl)) ?Xd
     case D5 =>
      go_simp
      try with_reducible rfl
     try simp only [Act.put, aq, ah, au]
     refine af.free (i := 13) (v := ?gv13fk2) rfl (by kernel_rfl) (fun _ _ _ h => h) (by rfl) (fun w => ?Xe) (aJ (by kernel_rfl)) ?gr13fk2
     case Xe =>
      go_simp
      try with_reducible rfl
     try simp only [Act.put, aq, ah, au]
     refine af.free (i := 14) (v := ?gv14fk2) rfl (by kernel_rfl) (fun _ _ _ h => h) (by rfl) (fun w => ?Xf) (aJ (by kernel_rfl)) ?gr14fk2
     case Xf =>
      go_simp
      try with_reducible rfl
     try simp only [Act.put, aq, ah, au]
     refine af.step (i := 15) rfl (by kernel_rfl) (fun K' hK => ?_)
     go_simp
     refine hK.out _ _ (aJ (by kernel_rfl)) (fun _ => ?_)
     try simp only [aq, ah, au]
     refine af.step (i := 16) rfl (by kernel_rfl) (fun K' hK => ?_)
     go_simp
     refine hK.out _ _ (aJ (by kernel_rfl)) (fun _ => ?_)
     try simp only [aq, ah, au]
     refine af.step (i := 17) rfl (by kernel_rfl) (fun K' hK => ?_)
     go_simp
     refine hK.out _ _ (aJ (by kernel_rfl)) (fun _ => ?_)
     refine af.done (by kernel_rfl) ?_
     go_wp2_with fail
     go_meet
     case rel => exact ⟨_, rfl, rfl, ye.out⟩
    ·go_simp
     have bq := Up.alloc wo (.cells #[.slice none 0 0, .slice none 0 0] 39)
     have hd := Up.drewN (wo.alloc (.cells #[.slice none 0 0, .slice none 0 0] 39)) 1
     have hb1 := fF (w := wo) (P := .slice none 0 0) (N := .slice none 0 0) (T := 39)
     have hs1 : (wo.alloc (.cells #[.slice none 0 0, .slice none 0 0] 39)).heap.size = wo.heap.size + 1 := World.size_alloc _ _
     refine hK.out _ _ (fun _ => ⟨bq.cell cD, bq.cell hct⟩) (fun hS => ?_)
     replace hS := hS ⟨11, by decide, rfl⟩
     try simp only [aq, ah, au]
     refine af.step (i := 11) rfl (by kernel_rfl) (fun K' hK => ?_)
     go_simp
     refine (y9.out _).mono ?_
     rintro e w2 ⟨aK, pv, rfl, hpv⟩
     rw [yC.out]
     have hpv : aC Any w2 pv (flat (btR (uB names r))) := by have h := hpv; unfold nQ at h; rw [vv.out] at h; exact h
     have iU := (bq.trans hd).trans aK
     have hb3 : w2.heap[wo.heap.size]? = some (Obj.cells #[.slice none 0 0, .slice none 0 0] 39 (0, 0)) := (Below.block (hd.trans aK) _ (by rw [hs1]; omega)).trans hb1
     have hpv := AD hpv hb3
     obtain ⟨P2, N2, rfl, fP, fQ⟩ := hpv
     obtain ⟨pp, pc, rfl, -, -⟩ := aD.open fP
     obtain ⟨np, nc, rfl, -, -⟩ := aD.open fQ
     have Pz : Hid (aC (fun b => b ≠ wo.heap.size) w2 (.agg #[.slice pp (flat (btR (uB names r))).ps.length pc, .slice np (flat (btR (uB names r))).ns.length nc]) (flat (btR (uB names r)))) := ⟨_, _, rfl, fP, fQ⟩
     have dS := aa iU
     have q8 : Hid (wo.heap.size ≤ wo.heap.size) := Nat.le_refl _
     obtain ⟨b0, b1, b2, b3⟩ := boxed hb3
     have s5 := aa hb3
     generalize flat (btR (uB names r)) = q0 at *
     clear fP fQ aK iU bq hd hb1 hs1 hb3
     refine hK.out _ _ (aJ (by kernel_rfl)) (fun _ => ?_)
     try simp only [aq, ah, au]
     refine af.free (i := 12) (v := ?Xg) rfl (by kernel_rfl) (fun _ _ _ h => h) (by rfl) (fun w => ?D6) (aJ (by kernel_rfl)) ?Xh
     case D6 =>
      go_simp
      try with_reducible rfl
     try simp only [Act.put, aq, ah, au]
     refine af.free (i := 13) (v := ?gv13fk3) rfl (by kernel_rfl) (fun _ _ _ h => h) (by rfl) (fun w => ?Xi) (aJ (by kernel_rfl)) ?gr13fk3
     case Xi =>
      go_simp
      try with_reducible rfl
     try simp only [Act.put, aq, ah, au]
     refine af.free (i := 14) (v := ?gv14fk3) rfl (by kernel_rfl) (fun _ _ _ h => h) (by rfl) (fun w => ?Xj) (aJ (by kernel_rfl)) ?gr14fk3
     case Xj =>
      go_simp
      try with_reducible rfl
     try simp only [Act.put, aq, ah, au]
     refine af.step (i := 16) rfl (by kernel_rfl) (fun K' hK => ?_)
     go_simp
     refine hK.out _ _ (aJ (by kernel_rfl)) (fun _ => ?_)
     try simp only [aq, ah, au]
     refine af.step (i := 17) rfl (by kernel_rfl) (fun K' hK => ?_)
     go_simp
     refine hK.out _ _ (aJ (by kernel_rfl)) (fun _ => ?_)
     refine af.done (by kernel_rfl) ?_
     go_wp2_with fail
     go_meet
     case rel => exact ⟨_, rfl, rfl, p9.BB s5.out q8.out dS.out Pz.out⟩
   case rest =>
    obtain ⟨B, rfl, rfl, hB⟩ := hcut
    obtain ⟨w3, rfl⟩ : ∃ w3 : World, w3 = wc := ⟨_, rfl⟩
    obtain ⟨pp, pc, np, nc, hb3, E2⟩ := hB.out.ex
    obtain ⟨q0, xR⟩ : ∃ q0, q0 = flat (btR (uB names r)) := ⟨_, rfl⟩
    obtain ⟨q1, hq1⟩ : ∃ q1, q1 = flat (uR names r) := ⟨_, rfl⟩
    have dX := aa hB.out
    rw [← xR] at hb3 E2
    have hl0 : q0.ps.length ≤ 1000000 ∧ q0.ns.length ≤ 1000000 := by have := jS.out.len; rw [xR, jG, pF]; omega
    have gK : q1.ps.length ≤ 1000000 ∧ q1.ns.length ≤ 1000000 := by have := jS.out.len; rw [hq1, jG, pF]; omega
    have EM := aa (SZ _ w3 _ q0 E2 hl0.1 hl0.2 (by rw [xR]; exact jS.out.sz))
    have Mk : Hid (az q0 = 0 ∧ uH q0 = q1) := by
     have h1 : az q0 = 0 := by rw [xR]; exact jS.out.te
     refine ⟨h1, ?_⟩
     rw [P8 h1, xR, hq1]; exact jS.out.can
    have kU : Hid (xL q1 = 0 ∧ (⟨(ug q1).toArray⟩ : ByteArray) = aW (uR names r)) := by
     unfold Hid
     rw [hq1]
     refine ⟨by unfold xL; rw [if_neg (by simp [jS.out.te2])], ?_⟩
     unfold aW; rw [jS.out.tx]
    have oF : Hid (∀ W v, aC Any W v q1 → Calls Tryz.prog 155 #[v] W (Cz W q1)) := fun W v h => Nq Any W v q1 h gK.1 gK.2 (by rw [hq1]; exact jS.out.sz2)
    have s5 := aa hb3
    obtain ⟨b0, b1, b2, b3⟩ := boxed hb3
    clear hl0 gK xR hq1 E2 hb3 cD hct y9 yC vv hB y1 y2 y3 y4
    go_wp2_with fail
    refine EM.out.mono ?_
    rintro e w4 ⟨b9, ⟨mg, -⟩ | ⟨-, cv, rfl, P4, N4, rfl, dZ, en⟩⟩
    ·exact absurd Mk.out.1 mg
    rw [Mk.out.2] at dZ en
    obtain ⟨p4, c4, rfl, -, -⟩ := aD.open dZ
    obtain ⟨n4, d4, rfl, -, -⟩ := aD.open en
    have hb4 := (Below.block b9 B dX.out.lo.2).trans s5.out
    have HX5 := aa (p9.BB (w := wo) (t := q1) (pp := p4) (np := n4) (pc := c4) (nc := d4) hb4 dX.out.lo.1 (dX.out.up.trans b9) (aC.sub ⟨_, _, rfl, dZ, en⟩ fun b hb _ => by have := dX.out.lo.2; omega))
    obtain ⟨b0, b1, b2, b3⟩ := boxed hb4
    obtain ⟨_, _, _, s4⟩ := dL (w := wo) (p := .slice p4 q1.ps.length c4) (q := .slice n4 q1.ns.length d4) hb4 dX.out.lo.1 (dX.out.up.trans b9)
    have yh : aC Any ((w4.setCell ⟨B, 0, none⟩ (.slice p4 q1.ps.length c4)).setCell ⟨B, 1, none⟩ (.slice n4 q1.ns.length d4)) (.agg #[.slice p4 q1.ps.length c4, .slice n4 q1.ns.length d4]) q1 :=
     ((aC.sub (T := fun b => b ≠ B) ⟨_, _, rfl, dZ, en⟩ fun b hb _ => by have := dX.out.lo.2; omega).keep fun b hb _ => s4 b hb).sub fun _ _ _ => trivial
    have qJ := aa yh
    clear hb4 b9 dZ en EM dX s5 s4 yh
    go_wp2_with fail
    generalize (w4.setCell ⟨B, 0, none⟩ _).setCell ⟨B, 1, none⟩ _ = w5 at *
    refine (oF.out w5 _ qJ.out).mono ?_
    rintro e w6 ⟨dH, rfl⟩
    rw [kU.out.1, kU.out.2]
    have Ri := aa (HA.out.next (HX5.out.up.trans dH))
    obtain ⟨oq, oc, JS, -⟩ := Ri.out.own.form (n := qs.length) (by rw [List.length_map, List.length_map])
    subst JS
    have HQ : Hid (∃ q, q = uR names r) := ⟨_, rfl⟩
    obtain ⟨q, hq⟩ := HQ.out
    rw [← hq] at kU jP ⊢
    have Ra : Hid (((qs.map aW).map Value.string).length = qs.length) := by unfold Hid; rw [List.length_map, List.length_map]
    have bQ : Hid (w.heap.size ≤ w6.heap.size) := by obtain ⟨z1, z2, z3⟩ := Ri.out.sz; unfold Hid; omega
    clear dH HX5 oF qJ kU Mk jS hq HQ b0 b1 b2 b3 HA z1 z2
    go_wp2_with (at_builtin; refine gX w6 rfl _ _ 22 rfl w.heap.size 9 (.string ⟨#[]⟩) 16 Tryz.underlying22 Tryz.jf rfl (by decide) Ri.out.own rfl (.string (aW q)) rfl rfl qs.length Ra.out (by have := CL.out; omega) bQ.out ?_; intro g8 iz w8 cA dw gC; have Aw := aa (Ri.out.app cA dw gC); clear cA dw gC)
    have iT : Hid ((qs.map aW).length = qs.length) := List.length_map _
    have IK : Hid (Rg w w2 qs q qs.length (.slice (some ⟨g8, 0, none⟩) (qs.length + 1) iz) w8) := by
     refine ⟨aW q, ?_, fun i h1 h2 => by omega⟩
     have h := Aw.out
     rw [TR, iT.out] at h
     exact h
    have mj : Hid (∀ (m : Nat) (wr : World), m ≤ qs.length → Rg w w2 qs q m (.slice (some ⟨g8, 0, none⟩) (qs.length + 1) iz) wr → (m = 0 ∨ fM (qs.getD (m - 1) (.node ByteArray.empty [])) q) → AgI w w2 names (n + 1) (.slice (some ⟨g8, 0, none⟩) (qs.length + 1) iz) (wr.setCell ⟨g8, m, none⟩ (.string (aW q)))) := fun m wr hm hJ hlo => by
     obtain ⟨j, hj, hhi⟩ := hJ
     obtain ⟨i1, i2⟩ := ins_at HS.out hm hhi hlo
     obtain ⟨g, cp, e, _, _, h4⟩ := hj.set (j := m) (by rw [Ka, iT.out]; omega)
     injection e with e
     injection e with e
     injection e with e
     subst e
     refine ⟨qs.take m ++ q :: qs.drop m, ?_, ?_, i2⟩
     ·have h5 := h4 (aW q)
      rw [Q2 (by rw [iT.out]; exact hm)] at h5
      have e2 : (qs.take m ++ q :: qs.drop m).map aW = tH (qs.map aW) m (aW q) := by unfold tH; simp
      rw [e2]; exact h5
     ·rw [jP.out]
      exact i1.trans ((HP.out.cons q).trans (List.perm_append_comm (l₁ := [q])))
    have Mn : Hid (∀ (m : Nat) (wr : World), m ≤ qs.length → Rg w w2 qs q m (.slice (some ⟨g8, 0, none⟩) (qs.length + 1) iz) wr → wr.frozen? ⟨g8, m, none⟩ = false ∧ (∃ x, wr.cell? ⟨g8, m, none⟩ = some (.string x)) ∧ (0 < m → wr.cell? ⟨g8, m - 1, none⟩ = some (.string (aW (qs.getD (m - 1) (.node ByteArray.empty []))))) ∧ (0 < m → ¬ fM (qs.getD (m - 1) (.node ByteArray.empty [])) q → Rg w w2 qs q (m - 1) (.slice (some ⟨g8, 0, none⟩) (qs.length + 1) iz) (wr.setCell ⟨g8, m, none⟩ (.string (aW (qs.getD (m - 1) (.node ByteArray.empty []))))))) := fun m wr hm hJ => by
     obtain ⟨j, hj, hhi⟩ := hJ
     obtain ⟨g, cp, e, h2, h3, h4⟩ := hj.set (j := m) (by rw [Ka, iT.out]; omega)
     injection e with e
     injection e with e
     injection e with e
     subst e
     refine ⟨h3, ⟨_, h2⟩, fun h0 => ?_, fun h0 hn => ?_⟩
     ·obtain ⟨g', cp', e', Ec, _, _⟩ := hj.set (j := m - 1) (by rw [Ka, iT.out]; omega)
      injection e' with e'
      injection e' with e'
      injection e' with e'
      subst e'
      rw [W4 h0 (by rw [iT.out]; exact hm), zJ (by omega)] at Ec
      exact Ec
     ·refine ⟨gs (qs.map aW) (m - 1), ?_, fun i q1 q2 => ?_⟩
      ·have h5 := h4 (aW (qs.getD (m - 1) (.node ByteArray.empty [])))
       rw [← zJ (by omega), TS h0 (by rw [iT.out]; exact hm)] at h5
       rw [← zJ (by omega)]
       exact h5
      ·by_cases ei : i = m - 1
       ·rw [ei]; exact hn
       ·exact hhi i (by omega) q2
    have N3 : Hid (qs.length ≤ 15) := CL.out
    clear Aw Ri iT jP HP Ra bQ
    go_wp2_with fail
    go_loopw [10] (fun k wr => ∃ m : Nat, m ≤ qs.length ∧ k = .int .i64 m ∧ Hid (Rg w w2 qs q m (.slice (some ⟨g8, 0, none⟩) (qs.length + 1) iz) wr)) (fun k _ => (intOf k).toNat)
    case atStart => exact ⟨qs.length, Nat.le_refl _, rfl, IK.out⟩
    case round =>
     obtain ⟨m, hm, rfl, hJ⟩ := hrel
     obtain ⟨wi, rfl⟩ : ∃ wi : World, wi = wr := ⟨_, rfl⟩
     obtain ⟨hf, ⟨x0, hx0⟩, hc1, hsh⟩ := Mn.out m wi hm hJ.out
     have m1 : (0 : Int) ≤ (m : Int) := by omega
     have m2 : (m : Int) < ((qs.length + 1 : Nat) : Int) := by omega
     have m3 : (m : Int) < 16 := by have := N3.out; omega
     have m4 : m < qs.length + 1 := by omega
     by_cases h0 : m = 0
     ·subst h0
      have eD := aa (mj.out 0 wi (Nat.zero_le _) hJ.out (.inl rfl))
      clear hJ hsh hc1
      go_wp2_with fail
      go_roundw
      case rel => exact ⟨n + 1, aY.out, by go_num, eD.out⟩
      case measure => have := aY.out; simp [intOf]; omega
     ·have hc2 := hc1 (by omega)
      have hw : wrap64 ((m : Int) - 1) = ((m - 1 : Nat) : Int) := by unfold wrap64; omega
      have m5 : (0 : Int) < (m : Int) := by omega
      have m6 : ((m - 1 : Nat) : Int) < ((qs.length + 1 : Nat) : Int) := by omega
      have m7 : m - 1 < qs.length + 1 := by omega
      obtain ⟨y, hy⟩ : ∃ y, y = qs.getD (m - 1) (.node ByteArray.empty []) := ⟨_, rfl⟩
      rw [← hy] at hc2 hsh
      have Ai := aa (mj.out m wi hm hJ.out)
      rw [← hy] at Ai
      have HSH := aa hsh
      have Zn : Hid (0 < m ∧ m ≤ qs.length) := ⟨by omega, hm⟩
      have HJJ := aa hJ.out
      clear hc1 hsh hy hJ
      go_wp2_with fail
      ·have hno := key_no ‹_ ∧ _›
       have hm0 := Zn.out
       have HX := aa (HSH.out hm0.1 hno)
       go_roundw
       case rel => exact ⟨m - 1, by omega, by go_num, HX.out⟩
       case measure => simp [intOf]; omega
      ·have hyes := Xb ‹_ ∨ _›
       have eD := aa (Ai.out (.inr hyes))
       go_roundw
       case rel => exact ⟨n + 1, aY.out, by go_num, eD.out⟩
       case measure => have := aY.out; simp [intOf]; omega
  ·obtain rfl : n = (bJ names.tail).length := by omega
   have YT : qs = bD names := by
    refine rf_all xC.out ?_ hs
    rw [oJ.out.1, List.take_length] at hp
    exact hp
   subst YT
   have xT := aa hA.up
   have HST : Hid (av Any wo u3 ((bD names).map aW)) := hA.own.strs.sub fun _ _ _ => trivial
   obtain ⟨op, oc, JS, -⟩ := hA.own.form (n := (bD names).length) (by rw [List.length_map, List.length_map])
   subst JS
   have HST : Hid (av Any wo (.slice op (bD names).length oc) ((bD names).map aW)) := HST.out
   have dF : Hid ((allT names).length = (bD names).length) := by unfold Hid allT; rw [List.length_map]
   have N3 := aa L4
   clear hI hA hp hs hlt hn L4
   have y8 : Hid (VJ wo names 0 (.slice (some ⟨wo.heap.size, 0, none⟩) 0 0) (wo.alloc (.cells #[] 39))) := by
    refine ⟨Up.alloc _ _, [], ⟨World.ownsRow_made wo #[] 0 (Nat.le_refl _) (by unfold maxLen; omega) (by simp), fun _ h => by cases h⟩, by simp⟩
   go_wp2_with fail
   go_loopw [11, 12, 13, 14] (fun out i _ _ wr => ∃ k : Nat, k ≤ (bD names).length ∧ i = .int .i64 k ∧ Hid (VJ wo names k out wr)) (fun _ i _ _ _ => (bD names).length - (intOf i).toNat)
   case atStart => exact ⟨0, Nat.zero_le _, rfl, y8.out⟩
   case round =>
    obtain ⟨k, hk, rfl, hI⟩ := hrel
    obtain ⟨wi, rfl⟩ : ∃ wi : World, wi = wr := ⟨_, rfl⟩
    obtain ⟨tJ, es, hes, hem⟩ := hI.out
    have k0 : (0 : Int) ≤ (k : Int) := by omega
    by_cases hlk : k < (bD names).length
    ·have hmem : (bD names).getD k (.node ByteArray.empty []) ∈ bD names := by simp [hlk]
     obtain ⟨p1, p2, p3⟩ := NU xC.out hmem
     obtain ⟨_, _, _, _, p5, _⟩ := fJ xC.out hmem
     obtain ⟨xb, xo, rfl, qw⟩ := cu (av.keep HST.out (tJ.kept _)) (k := k) (by rw [List.length_map]; exact hlk)
     rw [zJ hlk] at qw
     have qA : jr (aW ((bD names).getD k (.node ByteArray.empty []))).data.toList = some ((bD names).getD k (.node ByteArray.empty [])) := by
      have hg := (fJ xC.out hmem).1.good
      have e : (aW ((bD names).getD k (.node ByteArray.empty []))).data.toList = txR ((bD names).getD k (.node ByteArray.empty [])) ++ [59] := by unfold aW cn; simp
      rw [e]; exact vA hg.jm
     have y9 := aa (KJ wi _ p1 qA p5)
     have hlt2 : k < (allT names).length := by rw [dF.out]; exact hlk
     have hgt : gt (allT names) k = flat ((bD names).getD k (.node ByteArray.empty [])) := by unfold allT gt; simp [hlk]
     have jP : Hid ((allT names).take (k + 1) = es.map (·.2) ++ [flat ((bD names).getD k (.node ByteArray.empty []))]) := by unfold Hid; rw [D2 hlt2, hem, hgt]
     have kP : es.length = k := by
      have := congrArg List.length hem
      rw [List.length_map, List.length_take] at this
      omega
     have eT := aa kP
     obtain ⟨op2, oc2, rfl⟩ := hes.form
     have uq : Hid (iE wo.heap.size wi (.slice op2 k oc2) es) := by have h := hes; rw [kP] at h; exact h
     have HUi := aa tJ
     have Kg := aa hlk
     have k1 : (k : Int) < ((bD names).length : Int) := by omega
     have k2 : (k : Int) < 16 := by have := N3.out; omega
     rw [kP]
     clear hI tJ hes hem hlk hlt2 hgt hmem p1 p2 p3 p5 qA kP
     generalize aW ((bD names).getD k (.node ByteArray.empty [])) = key at *
     generalize flat ((bD names).getD k (.node ByteArray.empty [])) = q at *
     go_wp2_with fail
     refine y9.out.mono ?_
     rintro e w2 ⟨aK, v2, rfl, ht2⟩
     obtain ⟨P2, N2, rfl, fP, fQ⟩ := ht2
     obtain ⟨pp, pc, rfl, -, -⟩ := aD.open fP
     obtain ⟨np, nc, rfl, -, -⟩ := aD.open fQ
     have bq := Up.alloc w2 (.cells #[.slice pp q.ps.length pc, .slice np q.ns.length nc] 39)
     have hES2 := uq.out.up (aK.trans bq)
     have HES2 := aa hES2
     have hlo := fun b hb => (World.ownsRow.lt uq.out.1 b hb)
     have AA : Hid (aC (fun b => some b ≠ (Value.slice op2 k oc2).ownBlock) (w2.alloc (.cells #[.slice pp q.ps.length pc, .slice np q.ns.length nc] 39)) (.agg #[.slice pp q.ps.length pc, .slice np q.ns.length nc]) q) :=
      (aC.keep ⟨_, _, rfl, fP, fQ⟩ (bq.kept _)).sub fun b hb _ e => by have h1 := (hlo b e.symm).2; have h2 : wi.heap.size ≤ b := hb; omega
     have bH := aa (HUi.out.trans (aK.trans bq))
     have jo := aa (ew w2 (.slice pp q.ps.length pc) (.slice np q.ns.length nc) 39)
     have iq := aa (ey w2 (.slice pp q.ps.length pc) (.slice np q.ns.length nc) 39)
     have HEQ : Hid (es.length = k) := eT.out
     have HK6 : Hid (k ≤ 1000000) := by have := Kg.out; have := N3.out; unfold Hid; omega
     clear aK fP fQ bq hES2 hlo y9 uq
     go_wp2_with (at_builtin; refine tG _ rfl _ _ 33 rfl wo.heap.size _ 48 Tryz.underlying33 Tryz.infoTree rfl (by decide) HES2.out rfl ((.slice pp q.ps.length pc, .slice np q.ns.length nc), q) (by rw [World.size_alloc]; rfl) AA.out k HEQ.out HK6.out bH.out.size ?_; intro g8 iz w8 cA dw tE; have J6 := aa cA; have oQ := aa tE; clear cA dw tE)
     go_roundw
     case rel => exact ⟨k + 1, Kg.out, by go_num, Below.trans (show Below wo.heap.size wo _ from bH.out) oQ.out, _, J6.out, by rw [jP.out, List.map_append]; rfl⟩
     case measure => have := Kg.out; simp [intOf]; omega
    ·obtain rfl : k = (bD names).length := by omega
     have tF : es.map (·.2) = allT names := by rw [hem, ← dF.out, List.take_length]
     have eD : Hid (BC w names (.returned u11) wi) := ⟨xT.out.trans tJ, u11, rfl, tF ▸ hes.trees⟩
     clear hI tJ hes hem tF hlk
     go_wp2_with fail
     go_ret
     exact eD.out
set_option maxHeartbeats 2000000 in
theorem TZ (S : Nat → Prop) (w : World) (v : Value) (names : List ByteArray) (h : av S w v names) (hn : names.length ≤ 1000000) (hz : ∀ k, (gs names k).size ≤ 70000) (h5 : names.length ≤ 5 ∨ 7 < names.length) :
  Calls Tryz.prog 32 #[v] w (p7 w names) := by
 have iF := aa (Db S w v names h hn hz)
 obtain ⟨p, cap, rfl, hcap, -⟩ := aD.open h
 have h : av S w (.slice p names.length cap) names := h
 have vS : Hid (∀ W, Up w W → bZ names = 0 → Calls Tryz.prog 96 #[.slice p names.length cap] W (BC W names)) := fun W hW h0 => by
  have Q3 : names.length ≤ 5 := by
   rcases h5 with h5 | h5
   ·exact h5
   ·unfold bZ at h0; rw [if_pos (.inr h5)] at h0; cases h0
  exact TY S W _ names ((ng Q3).1 h0) (av.keep h (hW.kept S))
 clear h hz h5
 go_enter Tryz.func32, Tryz.ntmps32
 go_wp2_with fail
 refine iF.out.mono ?_
 rintro e w1 ⟨rfl, aX⟩
 have bT := aa aX
 have Kb := aa (vS.out w1 aX)
 clear aX iF vS
 by_cases c1 : bZ names = 0
 ·have Kc := aa (Kb.out c1)
  have eD : Hid (∀ W v, Up w W → dz Any W v (allT names) → p7 w names (.returned (.tuple #[v, .int .i64 0])) W) := fun W v hu ht => ⟨hu, v, by rw [c1], by rw [if_pos c1]; exact ht⟩
  rw [c1]
  clear c1 Kb
  go_wp2_with fail
  refine Kc.out.mono ?_
  rintro e w2 ⟨aK, v2, rfl, ht2⟩
  have oT := aa (eD.out w2 v2 (bT.out.trans aK) ht2)
  clear aK ht2 Kc
  go_wp2_with fail
  go_ret2
  exact oT.out
 ·have eD : Hid (p7 w names (.returned (.tuple #[.slice none 0 0, .int .i64 (bZ names)])) w1) := ⟨bT.out, _, rfl, by rw [if_neg c1]; exact dz.nil _ _⟩
  generalize bZ names = a at *
  go_wp2_with fail
  go_ret2
  exact eD.out
end
section
open Go.RowKit Go.Deep
end
end Go.Proofs.YteegefnjnikngaaGreat
