/- The walk of OptimaltreeRoots. -/
import Derived.Test.YteegefnjnikngaaGreatQ1
import Derived.Test.YteegefnjnikngaaGreatQ48
import Derived.Test.YteegefnjnikngaaGreatQ41
import Derived.Test.YteegefnjnikngaaGreatQ34
import Derived.Test.YteegefnjnikngaaGreatQ4
import Derived.Test.YteegefnjnikngaaGreatQ46
set_option maxRecDepth 100000
namespace Go.Proofs.YteegefnjnikngaaGreat
open Go.RowKit Go.Deep
theorem T5 {names : List ByteArray} (hn : fT names) : 0 < (allT names).length ∧ (allT names).length ≤ 15 := by
 refine ⟨Ty hn, ?_⟩
 unfold allT
 rw [List.length_map, rS hn]
 split <;> (try split) <;> (try split) <;> omega
theorem N6 {names : List ByteArray} (hn : fT names) {t : ax} (ht : t ∈ allT names) : mZ t names ∧ t.ps.length + 1 = 2 * names.length ∧ t.ns.length = t.ps.length ∧ ∀ k, (gs t.ns k).size ≤ 70000 := by
 obtain ⟨ho, q, hq, rfl⟩ := DW hn ht
 obtain ⟨h1, _, h3, _, h5, _⟩ := fJ hn hq
 obtain ⟨_, _, hl, _, _⟩ := aH h5
 exact ⟨ho, by rw [jG]; exact h3, hl, mL h1.good⟩
set_option maxHeartbeats 4000000 in
theorem KW (w : World) (v vs : Value) (names : List ByteArray) (states : List (List Int)) (x y : Int) (h : av Any w v names) (hS : bh Any w vs states)
  (hn : names.length ≤ 9223372036854775807) (hz : ∀ k, (gs names k).size ≤ 9223372036854775807) (hm : states.length ≤ 9223372036854775807) (hr : ∀ k, (gl states k).length ≤ 9223372036854775807) (hx0 : 0 ≤ x) (hx1 : x ≤ 255) (hy0 : 0 ≤ y) (hy1 : y ≤ 255) :
  Calls Tryz.prog 10 #[v, vs, .int .u8 x, .int .u8 y] w fun e w' => e = .returned (.bool true) ∧ Up w w' := by
 obtain ⟨p, cap, rfl, hcap, -⟩ := aD.open h
 have h : av Any w (.slice p names.length cap) names := h
 obtain ⟨sp, sc, rfl, -, -⟩ := fL hS
 have oT := aa (T4 Any Any w _ _ names states h hS hn hz hm hr)
 have HAW : Hid (∀ W, Calls Tryz.prog 28 #[] W fun e w' => e = .returned (.bool true) ∧ Up W w') := Ro
 have HFO : Hid (jM names states = true → Rj names states) := Rk
 have HH := aa h
 have HS := aa hS
 obtain ⟨c, rfl⟩ := Int.eq_ofNat_of_zero_le hx0
 obtain ⟨d, rfl⟩ := Int.eq_ofNat_of_zero_le hy0
 clear h hS hz hr hn hm
 go_enter Tryz.func10, Tryz.ntmps10
 go_wp2_with fail
 refine oT.out.mono ?_
 rintro e w1 ⟨rfl, aX⟩
 have bT := aa aX
 cases hf : jM names states
 ·clear hf HFO oT aX
  go_wp2_with fail
  refine (HAW.out _).mono ?_
  rintro e w' ⟨rfl, AE⟩
  go_wp2_with fail
  go_ret
  exact ⟨rfl, bT.out.trans AE⟩
 ·have hF := HFO.out hf
  have hc := hF.cs
  have hnm := hc.nm
  have HC := aa hc
  have Ms := hnm.hi
  have hnl := hnm.lo
  have HZ : Hid (∀ k, (gs names k).size ≤ 70000) := fun k => Nat.le_trans (iN (M := 20) (fun x hx => r7 (hnm.nm x hx)) k) (by decide)
  have bq := T5 hnm
  have iH := aa (W8 Any w1 _ names (av.keep HH.out (aX.kept _)) (by omega) HZ.out (.inl Ms))
  have h0 : bZ names = 0 := (ng Ms).2 hnm
  unfold p7 at iH
  rw [h0, if_pos rfl] at iH
  obtain ⟨k, hk⟩ : ∃ k, k = c % (allT names).length := ⟨_, rfl⟩
  have dY : k < (allT names).length := by rw [hk]; exact Nat.mod_lt _ bq.1
  have hse : (c : Int).tmod ((allT names).length : Int) = (k : Int) := by rw [Int.tmod_eq_emod_of_nonneg (by omega), hk]; push_cast; rfl
  have hse2 : (c : Int) % ((allT names).length : Int) = (k : Int) := by rw [hk]; push_cast; rfl
  obtain ⟨ho, hps, Eh, hsz⟩ := N6 hnm (JN dY)
  have vo : Hid (∀ (W : World) (v : Value) (t : ax), Up w W → aC Any W v t → mZ t names → t.ps.length ≤ 1000000 → t.ns.length ≤ 1000000 → (∀ k, (gs t.ns k).size ≤ 70000) → Calls Tryz.prog 23 #[v, .slice p names.length cap, .slice sp states.length sc] W fun e w' => Up W w' ∧ e = .returned (.tuple #[.int .i64 (cN t names states), .int .i64 0])) := fun W v t hW hT hot q1 q2 q3 => by
   have h1 := NV Any W v _ _ t names states hT q1 q2 q3 (av.keep HH.out (hW.kept _)) (by omega) HZ.out (bh.keep HS.out (hW.kept _)) (by have := hc.len; omega) (fun k => by
    by_cases hk : k < states.length
    ·have := ((CX hc.ag).2 k hk).1; have := hF.wd; omega
    ·have : gl states k = [] := by simp [gl, hk]
     rw [this]; simp) (.inl Ms)
   have he : jL t names states = 0 := by
    unfold jL
    rw [if_neg (by rw [(JL Ms).2 hc]; simp), if_neg (by rw [hot.te]; simp), if_pos ((CW hnm hot.te).2 hot)]
   refine h1.mono fun e w' h => ?_
   unfold qP vK at h
   rw [he, if_pos rfl] at h
   exact h
  have HK := aa (And.intro dY bq)
  have hkk : (k : Int) < ((allT names).length : Int) := by omega
  have hk16 : (k : Int) < 16 := by omega
  have hl0 : ((allT names).length : Int) ≠ 0 := by omega
  have d0 : (((allT names).length : Int) == 0) = false := beq_eq_false_iff_ne.2 hl0
  have HO := aa ho
  have bQ := aa (And.intro hps (And.intro Eh hsz))
  have iX := aa (And.intro hnl Ms)
  have qI := aa ho.te
  have dF := aa ho.len
  clear hf HFO oT aX hF hc hnm Ms hnl bq h0 hk dY ho hps Eh hsz
  go_wp2_with fail
  refine iH.out.mono ?_
  rintro e w2 ⟨aK, v2, rfl, ht2⟩
  obtain ⟨p2, c2, rfl, -⟩ := rT ht2
  obtain ⟨tb, to', pp, pc, np, nc, rfl, q0, q1, hT⟩ := ze ht2 HK.out.1
  have bH := aa (bT.out.trans aK)
  generalize gt (allT names) k = t at *
  have Q4 := hT
  have kj := Up.alloc w2 (.cells #[.slice pp t.ps.length pc, .slice np t.ns.length nc] 39)
  have HT := aa (aC.keep hT (kj.kept _))
  have dX := aa (And.intro (ew w2 (.slice pp t.ps.length pc) (.slice np t.ns.length nc) 39) (ey w2 (.slice pp t.ps.length pc) (.slice np t.ns.length nc) 39))
  have dS := aa (bH.out.trans kj)
  clear ht2 aK hT Q4 kj iH bH
  go_wp2_with fail
  generalize w2.alloc (.cells #[.slice pp t.ps.length pc, .slice np t.ns.length nc] 39) = w3 at *
  have Az := aa (vX Any w3 _ t HT.out (by have := bQ.out.1; have := iX.out; omega) (by have := bQ.out; have := iX.out; omega) bQ.out.2.2)
  refine Az.out.mono ?_
  rintro e w4 ⟨b9, ⟨mg, -⟩ | ⟨-, lv, rfl, hlv⟩⟩
  ·exact absurd qI.out mg
  have b9 : Up w3 w4 := b9
  obtain ⟨lp, lc, rfl, -, -⟩ := aD.open hlv
  have hml : 0 < (ay t.ns).length := by have := dF.out; have := iX.out; omega
  obtain ⟨j, hj⟩ : ∃ j, j = d % (ay t.ns).length := ⟨_, rfl⟩
  have hjl : j < (ay t.ns).length := by rw [hj]; exact Nat.mod_lt _ hml
  have OO : (d : Int).tmod ((ay t.ns).length : Int) = (j : Int) := by rw [Int.tmod_eq_emod_of_nonneg (by omega), hj]; push_cast; rfl
  have hsf2 : (d : Int) % ((ay t.ns).length : Int) = (j : Int) := by rw [hj]; push_cast; rfl
  obtain ⟨la, hla, hla1, hla2⟩ := r9 hjl
  have hA : aR t la := ⟨qI.out, by have := bQ.out.2.1; omega, hla2⟩
  have h63 : t.ps.length ≤ 63 := by have := bQ.out.1; have := iX.out; omega
  obtain ⟨xt1, xt2, xt3⟩ := L9 hA h63
  have hlv : aB (fun b => w3.heap.size ≤ b) w4 (.slice lp (ay t.ns).length lc) (ay t.ns) := hlv
  obtain ⟨lb, lo, rfl, Iz⟩ := eE hlv hjl
  rw [hla] at Iz
  have sM := aa (HT.out.keep (b9.kept _))
  have Fw := aa (fun W (hW : Up w4 W) => Tk Any W _ t (la : Int) (sM.out.keep (hW.kept _)) (by omega) (by have := bQ.out; omega) bQ.out.2.2)
  unfold Jr at Fw
  rw [xt2, xt3] at Fw
  have vu : Hid (mZ (flat (jJ t la)) names ∧ cN (flat (jJ t la)) names states = cN t names states) := ⟨JX HC.out.nm HO.out hA h63, TF HC.out HO.out hA h63⟩
  have HUS : Hid ((flat (jJ t la)).ps.length ≤ 1000000 ∧ (flat (jJ t la)).ns.length ≤ 1000000 ∧ ∀ k, (gs (flat (jJ t la)).ns k).size ≤ 70000) := by
   have := Jt hA
   exact ⟨by rw [jG]; omega, by rw [pF]; omega, mL (Bh hA)⟩
  generalize flat (jJ t la) = u at *
  have c0 := b9.cell dX.out.1
  have c1 := b9.cell dX.out.2
  have Kn := aa (And.intro c0 (And.intro c1 Iz))
  have mD := aa (dS.out.trans b9)
  have d1 : (((ay t.ns).length : Int) != (names.length : Int)) = false := by rw [dF.out]; simp
  have j1 : (j : Int) < ((ay t.ns).length : Int) := by omega
  have j2 : (j : Int) < 16 := by have := dF.out; have := iX.out; omega
  have j0 : (0 : Int) ≤ (j : Int) := by omega
  have l0 : ((ay t.ns).length : Int) ≠ 0 := by omega
  have hjn : j < (ay t.ns).length := hjl
  have hne : (ay t.ns = []) = False := by simp; intro e; rw [e] at hml; simp at hml
  have hwd : IntKind.i64.wrap (d : Int) = (d : Int) := IntWalk.i64_in _ (by omega)
  clear b9 hlv hml hj hjl hla hla1 hla2 hA h63 xt1 xt2 xt3 Az Iz dX HT
  go_wp2_with fail
  go_cut [14, 15] from 59 to 71 (fun s14 s15 wx => ∃ B : Nat, s14 = .pointer (some ⟨B, 0, none⟩) ∧ s15 = .int .i64 0 ∧ Hid (p9 w4 B wx u))
  case first =>
   refine cU (by kernel_rfl) 10 (fun w' => w'.cell? ⟨w2.heap.size, 0, none⟩ = some (.slice pp t.ps.length pc) ∧ w'.cell? ⟨w2.heap.size, 1, none⟩ = some (.slice np t.ns.length nc) ∧ w'.cell? ⟨lb, lo + j, none⟩ = some (.int .i64 la)) Kn.out (fun hS => ?_)
   simp only [List.size_toArray, List.length_cons, List.length_nil, Nat.reduceAdd, Array.replicate_succ, Array.replicate_zero, List.push_toArray, List.nil_append, List.cons_append]
   refine af.take (i := 0) (v := ?qc) rfl (by kernel_rfl) (fun _ _ _ h => h) (by rfl) (fun w hSw => ?gp) hS ?qd
   case gp =>
    (try dsimp only at hSw)
    go_simp
    try with_reducible rfl
   try simp only [Act.put, aq, ah, au]
   refine af.take (i := 1) (v := ?qf) rfl (by kernel_rfl) (fun _ _ _ h => h) (by rfl) (fun w hSw => ?gq) hS ?qg
   case gq =>
    (try dsimp only at hSw)
    go_simp
    try with_reducible rfl
   try simp only [Act.put, aq, ah, au]
   refine af.take (i := 2) (v := ?rG) rfl (by kernel_rfl) (fun _ _ _ h => h) (by rfl) (fun w hSw => ?gN) hS ?rH
   case gN =>
    (try dsimp only at hSw)
    go_simp
    try with_reducible rfl
   try simp only [Act.put, aq, ah, au]
   refine af.take (i := 3) (v := ?rI) rfl (by kernel_rfl) (fun _ _ _ h => h) (by rfl) (fun w hSw => ?gO) hS ?rJ
   case gO =>
    (try dsimp only at hSw)
    go_simp
    try with_reducible rfl
   try simp only [Act.put, aq, ah, au]
   refine af.take (i := 4) (v := ?rK) rfl (by kernel_rfl) (fun _ _ _ h => h) (by rfl) (fun w hSw => ?gP) hS ?rL
   case gP =>
    (try dsimp only at hSw)
    go_simp
    try with_reducible rfl
   try simp only [Act.put, aq, ah, au]
   refine af.take (i := 5) (v := ?rM) rfl (by kernel_rfl) (fun _ _ _ h => h) (by rfl) (fun w hSw => ?gQ) hS ?rN
   case gQ =>
    (try dsimp only at hSw)
    go_simp
    try with_reducible rfl
   try simp only [Act.put, aq, ah, au]
   refine af.take (i := 6) (v := ?zo) rfl (by kernel_rfl) (fun _ _ _ h => h) (by rfl) (fun w hSw => ?lX) hS ?zq
   case lX =>
    (try dsimp only at hSw)
    go_simp
    try with_reducible rfl
   try simp only [Act.put, aq, ah, au]
   refine af.take (i := 7) (v := ?Co) rfl (by kernel_rfl) (fun _ _ _ h => h) (by rfl) (fun w hSw => ?oA) hS ?Cq
   case oA =>
    (try dsimp only at hSw)
    go_simp
    try with_reducible rfl
   try simp only [Act.put, aq, ah, au]
   refine af.take (i := 8) (v := ?F5) rfl (by kernel_rfl) (fun _ _ _ h => h) (by rfl) (fun w hSw => ?rO) hS ?F6
   case rO =>
    (try dsimp only at hSw)
    go_simp
    try with_reducible rfl
   try simp only [Act.put, aq, ah, au]
   refine af.wh (i := 9) (i2 := 13) rfl rfl (by kernel_rfl) (fun K' hK => ?_) (fun K' hK => ?_)
   ·go_simp
    refine (Fw.out _ (Up.drewN w4 1)).mono ?_
    rintro e w5 ⟨eX, pv, rfl, hpv⟩
    obtain ⟨P2, N2, rfl, fP, fQ⟩ := hpv
    obtain ⟨nA, nB, rfl, -, -⟩ := aD.open fP
    obtain ⟨nC, nD, rfl, -, -⟩ := aD.open fQ
    have iU : Up w4 w5 := (Up.drewN w4 1).trans eX
    have bq := Up.alloc w5 (.cells #[.slice none 0 0, .slice none 0 0] 39)
    have hb3 := fF (w := w5) (P := .slice none 0 0) (N := .slice none 0 0) (T := 39)
    have ye : Hid (p9 w4 w5.heap.size (w5.alloc (.cells #[.slice nA u.ps.length nB, .slice nC u.ns.length nD] 39)) u) := p9.Kh iU ⟨_, _, rfl, fP, fQ⟩
    obtain ⟨b0, b1, b2, b3⟩ := boxed hb3
    clear fP fQ eX iU bq hb3
    refine hK.out _ _ (aJ (by kernel_rfl)) (fun _ => ?_)
    try simp only [aq, ah, au]
    refine af.free (i := 10) (v := ?gv10fk2) rfl (by kernel_rfl) (fun _ _ _ h => h) (by rfl) (fun w => ?Xl) (aJ (by kernel_rfl)) ?gr10fk2
    case Xl =>
     go_simp
     try with_reducible rfl
    try simp only [Act.put, aq, ah, au]
    refine af.free (i := 11) (v := ?gv11fk2) rfl (by kernel_rfl) (fun _ _ _ h => h) (by rfl) (fun w => ?Xm) (aJ (by kernel_rfl)) ?gr11fk2
    case Xm =>
     go_simp
     try with_reducible rfl
    try simp only [Act.put, aq, ah, au]
    refine af.free (i := 12) (v := ?Xc) rfl (by kernel_rfl) (fun _ _ _ h => h) (by rfl) (fun w => ?D5) (aJ (by kernel_rfl)) ?Xd
    case D5 =>
     go_simp
     try with_reducible rfl
    try simp only [Act.put, aq, ah, au]
    refine af.step (i := 13) rfl (by kernel_rfl) (fun K' hK => ?_)
    go_simp
    refine hK.out _ _ (aJ (by kernel_rfl)) (fun _ => ?_)
    try simp only [aq, ah, au]
    refine af.step (i := 14) rfl (by kernel_rfl) (fun K' hK => ?_)
    go_simp
    refine hK.out _ _ (aJ (by kernel_rfl)) (fun _ => ?_)
    try simp only [aq, ah, au]
    refine af.step (i := 15) rfl (by kernel_rfl) (fun K' hK => ?_)
    go_simp
    refine hK.out _ _ (aJ (by kernel_rfl)) (fun _ => ?_)
    refine af.done (by kernel_rfl) ?_
    go_wp2_with fail
    go_meet
    case rel => exact ⟨_, rfl, rfl, ye.out⟩
   ·go_simp
    have bq := Up.alloc w4 (.cells #[.slice none 0 0, .slice none 0 0] 39)
    have hd := Up.drewN (w4.alloc (.cells #[.slice none 0 0, .slice none 0 0] 39)) 1
    have hb1 := fF (w := w4) (P := .slice none 0 0) (N := .slice none 0 0) (T := 39)
    have hs1 : (w4.alloc (.cells #[.slice none 0 0, .slice none 0 0] 39)).heap.size = w4.heap.size + 1 := World.size_alloc _ _
    refine hK.out _ _ (fun _ => ⟨bq.cell Kn.out.1, bq.cell Kn.out.2.1, bq.cell Kn.out.2.2⟩) (fun hS => ?_)
    replace hS := hS ⟨9, by decide, rfl⟩
    try simp only [aq, ah, au]
    refine af.step (i := 9) rfl (by kernel_rfl) (fun K' hK => ?_)
    go_simp
    refine (Fw.out _ (bq.trans hd)).mono ?_
    rintro e w5 ⟨eX, pv, rfl, hpv⟩
    have iU := (bq.trans hd).trans eX
    have hb3 : w5.heap[w4.heap.size]? = some (Obj.cells #[.slice none 0 0, .slice none 0 0] 39 (0, 0)) := (Below.block (hd.trans eX) _ (by rw [hs1]; omega)).trans hb1
    have hpv := AD hpv hb3
    obtain ⟨P2, N2, rfl, fP, fQ⟩ := hpv
    obtain ⟨nA, nB, rfl, -, -⟩ := aD.open fP
    obtain ⟨nC, nD, rfl, -, -⟩ := aD.open fQ
    have Pz : Hid (aC (fun b => b ≠ w4.heap.size) w5 (.agg #[.slice nA u.ps.length nB, .slice nC u.ns.length nD]) u) := ⟨_, _, rfl, fP, fQ⟩
    have jQ := aa iU
    obtain ⟨b0, b1, b2, b3⟩ := boxed hb3
    have s5 := aa hb3
    clear fP fQ eX iU bq hd hb1 hs1 hb3
    refine hK.out _ _ (aJ (by kernel_rfl)) (fun _ => ?_)
    try simp only [aq, ah, au]
    refine af.free (i := 10) (v := ?gv10fk3) rfl (by kernel_rfl) (fun _ _ _ h => h) (by rfl) (fun w => ?Xn) (aJ (by kernel_rfl)) ?gr10fk3
    case Xn =>
     go_simp
     try with_reducible rfl
    try simp only [Act.put, aq, ah, au]
    refine af.free (i := 11) (v := ?gv11fk3) rfl (by kernel_rfl) (fun _ _ _ h => h) (by rfl) (fun w => ?Xo) (aJ (by kernel_rfl)) ?gr11fk3
    case Xo =>
     go_simp
     try with_reducible rfl
    try simp only [Act.put, aq, ah, au]
    refine af.free (i := 12) (v := ?Xg) rfl (by kernel_rfl) (fun _ _ _ h => h) (by rfl) (fun w => ?D6) (aJ (by kernel_rfl)) ?Xh
    case D6 =>
     go_simp
     try with_reducible rfl
    try simp only [Act.put, aq, ah, au]
    refine af.step (i := 14) rfl (by kernel_rfl) (fun K' hK => ?_)
    go_simp
    refine hK.out _ _ (aJ (by kernel_rfl)) (fun _ => ?_)
    try simp only [aq, ah, au]
    refine af.step (i := 15) rfl (by kernel_rfl) (fun K' hK => ?_)
    go_simp
    refine hK.out _ _ (aJ (by kernel_rfl)) (fun _ => ?_)
    refine af.done (by kernel_rfl) ?_
    go_wp2_with fail
    go_meet
    case rel => exact ⟨_, rfl, rfl, p9.BB s5.out (Nat.le_refl _) jQ.out Pz.out⟩
  case rest =>
   obtain ⟨B, rfl, rfl, hB⟩ := hcut
   obtain ⟨w5, rfl⟩ : ∃ w5 : World, w5 = wc := ⟨_, rfl⟩
   have eX := hB.out.up
   obtain ⟨nA, nB, nC, nD, l5, yh⟩ := hB.out.ex
   have c0 := eX.cell Kn.out.1
   have c1 := eX.cell Kn.out.2.1
   have jQ := aa (mD.out.trans eX)
   have qJ := aa (sM.out.keep (eX.kept _))
   have AA := aa (aC.sub (T := Any) yh fun _ _ _ => trivial)
   have xz := aa l5
   have uQ : Hid (B < w5.heap.size) := hB.out.lo.2
   clear eX l5 yh hB Kn sM Fw hse OO hsf2 hse2 j1 j2 j0 l0 hjn hne hwd d1
   go_wp2_with fail
   refine (vo.out w5 _ t jQ.out qJ.out HO.out (by have := bQ.out.1; have := iX.out; omega) (by have := bQ.out; have := iX.out; omega) bQ.out.2.2).mono ?_
   rintro e w6 ⟨dH, rfl⟩
   have zU := (Below.block dH B uQ.out).trans xz.out
   have Ml := aa (jQ.out.trans dH)
   have HTU6 := aa (AA.out.keep (dH.kept _))
   obtain ⟨b0, b1, b2, b3⟩ := boxed zU
   clear dH zU AA c0 c1
   go_wp2_with fail
   refine (vo.out w6 _ u Ml.out HTU6.out vu.out.1 HUS.out.1 HUS.out.2.1 HUS.out.2.2).mono ?_
   rintro e w7 ⟨Dd, rfl⟩
   rw [vu.out.2]
   have HU7 := aa (Ml.out.trans Dd)
   generalize cN t names states = sc at *
   clear Dd HTU6 b0 b1 b2 b3
   go_wp2_with fail
   refine (HAW.out _).mono ?_
   rintro e w' ⟨rfl, AE⟩
   go_wp2_with fail
   go_ret
   exact ⟨rfl, HU7.out.trans AE⟩
end Go.Proofs.YteegefnjnikngaaGreat
