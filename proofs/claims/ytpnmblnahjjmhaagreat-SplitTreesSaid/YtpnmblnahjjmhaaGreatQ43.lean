/- The contracts of layer 32's reference: Check, Compatible, All. split.leafName; the .. -/
import Derived.Test.YtpnmblnahjjmhaaGreatQ39
import Derived.Test.YtpnmblnahjjmhaaGreatQ36
import Derived.Test.YtpnmblnahjjmhaaGreatQ13
import Derived.Test.YtpnmblnahjjmhaaGreatQ1
import Derived.Test.YtpnmblnahjjmhaaGreatQ16
import Derived.Test.YtpnmblnahjjmhaaGreatQ30
import Derived.Test.YtpnmblnahjjmhaaGreatQ3
import Derived.Test.YtpnmblnahjjmhaaGreatQ2
set_option maxRecDepth 100000
namespace Go.Proofs.YtpnmblnahjjmhaaGreat
section
open Go.RowKit Go.Deep
set_option maxHeartbeats 2000000 in
theorem C8 (S : Nat → Prop) (w : World) (v : Value) (n : Int) (s : List Int) (h : af S w v s) (hn : s.length ≤ 1000000) :
  Calls Tryz.prog 112 #[.int .i64 n, v] w fun e w' => e = .returned (.int .i64 (aF n s)) ∧ QD w w' := by
 have HF := aa (MR n s)
 have HC := aa (yX S w v s h hn)
 obtain ⟨p, cap, rfl, -, -⟩ := av.open h
 have H : Hid (af S w (.slice p s.length cap) s) := h
 have HO : Hid (∀ i, nV n s i = (decide (gi s i = 0) || decide (n ≤ gi s i))) := fun _ => rfl
 clear h
 by_cases h1 : n < 1
 ·have HR : Hid (aF n s = 2) := by unfold Hid; rw [HF.out, if_pos (.inl h1)]
  have e1 : decide (n < 1) = true := decide_eq_true h1
  clear h1
  go_enter Tryz.func112, Tryz.ntmps112
  go_wp2_with fail
  go_ret
  exact ⟨aI (by rw [HR.out]), QD.refl _⟩
 have e1 : decide (n < 1) = false := decide_eq_false h1
 by_cases h2 : 32 < n
 ·have HR : Hid (aF n s = 2) := by unfold Hid; rw [HF.out, if_pos (.inr h2)]
  have e2 : decide (32 < n) = true := decide_eq_true h2
  clear h1 h2
  go_enter Tryz.func112, Tryz.ntmps112
  go_wp2_with fail
  go_ret
  exact ⟨aI (by rw [HR.out]), QD.refl _⟩
 have e2 : decide (32 < n) = false := decide_eq_false h2
 have n1 : 1 ≤ n := by omega
 have n2 : n ≤ 32 := by omega
 have nC : Hid (aF n s = if dN s ≠ 0 then dN s else if (List.range s.length).any (nV n s) then 2 else if (s.length : Int) < 2 ∨ n - 2 < s.length then 8 else 0) := by unfold Hid; rw [HF.out, if_neg (by omega)]
 clear HF h1 h2
 by_cases h3 : dN s = 0
 case neg =>
  have e3 : (dN s != 0) = true := by simpa using h3
  have HR : Hid (aF n s = dN s) := by unfold Hid; rw [nC.out, if_pos h3]
  clear h3 nC
  generalize dN s = z at *
  go_enter Tryz.func112, Tryz.ntmps112
  go_wp2_with fail
  refine HC.out.mono ?_
  rintro e w1 ⟨rfl, hq1⟩
  have oy := aa hq1
  clear hq1
  go_wp2_with fail
  go_ret
  exact ⟨aI (by rw [HR.out]), oy.out⟩
 have Zt : Hid (aF n s = if (List.range s.length).any (nV n s) then 2 else if (s.length : Int) < 2 ∨ n - 2 < s.length then 8 else 0) := by unfold Hid; rw [nC.out, if_neg (fun e => e h3)]
 rw [h3] at HC
 have yq : s.length ≤ 64 := kQ (eX.1 h3)
 clear h3 nC
 go_enter Tryz.func112, Tryz.ntmps112
 go_wp2_with fail
 refine HC.out.mono ?_
 rintro e w1 ⟨rfl, hq1⟩
 have oy := aa hq1
 clear hq1 HC
 go_wp2_with fail
 go_loop [6] (fun i => ∃ k : Nat, k ≤ s.length ∧ i = .int .i64 k ∧ Hid (∀ j, j < k → nV n s j = false)) (fun i => s.length - (intOf i).toNat)
 case atStart => exact ⟨0, Nat.zero_le _, rfl, fun j hj => absurd hj (Nat.not_lt_zero _)⟩
 case round =>
  obtain ⟨k, hk, rfl, hd⟩ := hrel
  by_cases hlt : k < s.length
  ·obtain ⟨b, off, rfl, hc⟩ := bw (af.keep H.out (oy.out.kept S)) hlt
   have i1 : (0 : Int) ≤ (k : Int) := by omega
   have i2 : (k : Int) < (s.length : Int) := by omega
   have fI := aa (HO.out k)
   have aM := aa hlt
   have wH : Hid (nV n s k = true → aF n s = 2) := fun e => by rw [Zt.out, if_pos (AW (p := nV n s) hlt e)]
   have wN : Hid (nV n s k = false → ∀ j, j < k + 1 → nV n s j = false) := fun e j hj => if ej : j = k then by subst ej; exact e else hd.out j (by omega)
   generalize gi s k = x at *
   by_cases q1 : x = 0
   ·have HR := aa (wH.out (by rw [fI.out, decide_eq_true q1]; rfl))
    have f1 : (x == 0) = true := by simpa using q1
    clear q1
    go_wp2_with fail
    go_ret
    exact ⟨aI (by rw [HR.out]), oy.out⟩
   have f1 : (x == 0) = false := by simpa using q1
   by_cases q2 : n ≤ x
   ·have HR := aa (wH.out (by rw [fI.out, decide_eq_true q2]; simp))
    have f2 : decide (n ≤ x) = true := decide_eq_true q2
    clear q1 q2
    go_wp2_with fail
    go_ret
    exact ⟨aI (by rw [HR.out]), oy.out⟩
   ·have HR := aa (wN.out (by rw [fI.out, decide_eq_false q1, decide_eq_false q2]; rfl))
    have f2 : decide (n ≤ x) = false := decide_eq_false q2
    clear q1 q2
    go_wp2_with fail
    go_round
    case rel => exact ⟨k + 1, aM.out, by go_num, HR.out⟩
    case measure => have := aM.out; simp [intOf]; omega
  ·obtain rfl : k = s.length := by omega
   have Zu : Hid (aF n s = if (s.length : Int) < 2 ∨ n - 2 < s.length then 8 else 0) := by unfold Hid; rw [Zt.out, any_none (p := nV n s) hd.out, if_neg (by decide)]
   clear hlt hk hd Zt HO H
   by_cases q1 : (s.length : Int) < 2
   ·have HR : Hid (aF n s = 8) := by unfold Hid; rw [Zu.out, if_pos (.inl q1)]
    have f1 : decide ((s.length : Int) < 2) = true := decide_eq_true q1
    clear q1
    go_wp2_with fail
    go_ret
    exact ⟨aI (by rw [HR.out]), oy.out⟩
   have f1 : decide ((s.length : Int) < 2) = false := decide_eq_false q1
   by_cases q2 : n - 2 < (s.length : Int)
   ·have HR : Hid (aF n s = 8) := by unfold Hid; rw [Zu.out, if_pos (.inr q2)]
    have f2 : decide (n - 2 < (s.length : Int)) = true := decide_eq_true q2
    clear q1 q2
    go_wp2_with fail
    go_ret
    exact ⟨aI (by rw [HR.out]), oy.out⟩
   ·have HR : Hid (aF n s = 0) := by unfold Hid; rw [Zu.out, if_neg (by omega)]
    have f2 : decide (n - 2 < (s.length : Int)) = false := decide_eq_false q2
    clear q1 q2
    go_wp2_with fail
    go_ret
    exact ⟨aI (by rw [HR.out]), oy.out⟩
theorem nZ (S T : Nat → Prop) (w : World) (v u : Value) (a b : List Int) (h : af S w v a) (h2 : af T w u b) (hn : a.length ≤ 1000000) (hm : b.length ≤ 1000000) (ha : cz a) (hb : cz b) :
  Calls Tryz.prog 180 #[v, u] w fun e w' => e = .returned (.bool (eA a b)) ∧ QD w w' := by
 have H1 := aa (MW S T w v u a b h h2 hn hm ha hb)
 obtain ⟨p, cap, rfl, -, -⟩ := av.open h
 obtain ⟨q, tu, rfl, -, -⟩ := av.open h2
 clear h h2
 go_enter Tryz.func180, Tryz.ntmps180
 go_wp2_with fail
 refine H1.out.mono ?_
 rintro e w1 ⟨rfl, hq1⟩
 have oy := aa hq1
 clear hq1
 go_wp2_with fail
 go_ret
 exact ⟨rfl, oy.out⟩
set_option maxHeartbeats 1000000 in
theorem V5 (S T : Nat → Prop) (w : World) (v u : Value) (a b : List Int) (h : af S w v a) (h2 : af T w u b) (ha : cz a) (hb : cz b) :
  Calls Tryz.prog 179 #[v, u] w fun e w' => e = .returned (.bool (dU a b)) ∧ Up w w' := by
 have hla := kQ ha
 have hlb := kQ hb
 have H1 := aa (PX S T w v u a b h h2 (by omega) (by omega) ha hb)
 have H2 : Hid (∀ W, Up w W → Calls Tryz.prog 180 #[v, u] W fun e w' => e = .returned (.bool (eA a b)) ∧ QD W w') := fun W hW => nZ S T W v u a b (af.keep h (hW.kept _)) (af.keep h2 (hW.kept _)) (by omega) (by omega) ha hb
 have H3 : Hid (∀ W, Up w W → Calls Tryz.prog 180 #[u, v] W fun e w' => e = .returned (.bool (eA b a)) ∧ QD W w') := fun W hW => nZ T S W u v b a (af.keep h2 (hW.kept _)) (af.keep h (hW.kept _)) (by omega) (by omega) hb ha
 have HF := aa (S1 ha hb)
 obtain ⟨p, cap, rfl, -, -⟩ := av.open h
 obtain ⟨q, tu, rfl, -, -⟩ := av.open h2
 clear h h2 ha hb
 have wA : Hid ((a.filter fun x => b.contains x).length ≤ a.length) := List.length_filter_le _ _
 generalize dU a b = r at *
 generalize (a.filter fun x => b.contains x) = F at *
 go_enter Tryz.func179, Tryz.ntmps179
 go_wp2_with fail
 refine H1.out.mono ?_
 rintro e w1 ⟨bO, x, rfl, hx⟩
 obtain ⟨xp, xc, rfl, -, -⟩ := av.open hx
 have dJ := aa bO
 clear bO hx H1
 by_cases h0 : F.length = 0
 ·have HR : Hid (r = true) := by unfold Hid; rw [← HF.out, decide_eq_true h0]; rfl
  have e0 : ((F.length : Int) == 0) = true := by simp [h0]
  clear h0
  generalize F.length = m at *
  go_wp2_with fail
  go_ret
  exact ⟨aO HR.out.symm, dJ.out⟩
 have e0 : ((F.length : Int) == 0) = false := by simpa using h0
 have nC : Hid ((eA a b || eA b a) = r) := by unfold Hid; rw [← HF.out, decide_eq_false h0]; rfl
 clear h0 HF
 generalize F.length = m at *
 generalize eA a b = s1 at *
 generalize eA b a = s2 at *
 cases s1
 ·go_wp2_with fail
  refine (H2.out w1 dJ.out).mono ?_
  rintro e w2 ⟨rfl, ir⟩
  have bU := aa (dJ.out.trans ir.up)
  clear ir
  go_wp2_with fail
  refine (H3.out w2 bU.out).mono ?_
  rintro e w3 ⟨rfl, zO⟩
  have cR := aa (bU.out.trans zO.up)
  clear zO
  go_wp2_with fail
  go_ret
  exact ⟨aO nC.out, cR.out⟩
 ·go_wp2_with fail
  refine (H2.out w1 dJ.out).mono ?_
  rintro e w2 ⟨rfl, ir⟩
  have bU := aa (dJ.out.trans ir.up)
  clear ir
  go_wp2_with fail
  go_ret
  exact ⟨aO nC.out, bU.out⟩
end
section
open Go.RowKit Go.Deep
theorem JQ (s : ByteArray) (h : s.size - 1 < s.size) (BG : 16 < s.size) (wu : ((s[s.size - 1].toNat : Int) == 42) = true) : bq s.data.toList = false := by
 have hl := size_data s
 have h2 : s[s.size - 1] = 42 := by
  have h3 : (s[s.size - 1].toNat : Int) = 42 := by simpa using wu
  have h4 : s[s.size - 1].toNat = 42 := by omega
  exact UInt8.toNat_inj.1 h4
 unfold bq
 rw [vk s h, h2, if_pos rfl, hl, decide_eq_false (by omega), Bool.and_false]
set_option maxHeartbeats 400000 in
theorem MZ (s : ByteArray) (hs : s.size ≤ 70000) (w : World) : Calls Tryz.prog 89 #[.string s] w fun e w' => e = .returned (.bool (bq s.data.toList)) ∧ w = w' := by
 go_enter Tryz.func89, Tryz.ntmps89
 go_wp2_with fail
 ·have hf := aa (vo s (by omega) (by omega) ‹_›)
  refine (qW _ (by simp; omega) _).mono ?_
  rintro e w1 ⟨rfl, rfl⟩
  rw [← hf.out]
  go_wp2_with fail
  go_ret
  exact ⟨rfl, rfl⟩
 ·have hf := aa (JQ s (by omega) (by omega) ‹_›)
  go_ret
  exact ⟨aO hf.out.symm, rfl⟩
 ·have hf := aa (tL s (by omega) ‹_›)
  refine (qW _ hs _).mono ?_
  rintro e w1 ⟨rfl, rfl⟩
  rw [← hf.out]
  go_wp2_with fail
  go_ret
  exact ⟨rfl, rfl⟩
 ·have hf := aa (xM s (by omega))
  refine (qW _ hs _).mono ?_
  rintro e w1 ⟨rfl, rfl⟩
  rw [← hf.out]
  go_wp2_with fail
  go_ret
  exact ⟨rfl, rfl⟩
set_option maxHeartbeats 4000000 in
theorem yZ (tb B0 : Nat) (t : aA) (z : Int) (nm : ByteArray) (w : World) (P N : Value) (hG : GS tb B0 w P N t) (Bf : t.ns.length = t.ps.length) (hl : t.ps.length + 1 ≤ 1000000) :
  Calls Tryz.prog 90 #[.int .i64 z, .string nm, .pointer (some ⟨tb, 0, none⟩)] w fun e w' => e = .returned (.int .i64 (t.ps.length : Int)) ∧ ∃ P' N', GS tb B0 w' P' N' (t.push z nm) ∧ GK tb w w' P N P' N' := by
 obtain ⟨hc0, hc1, _, _⟩ := hG.cells
 obtain ⟨pp, pc, rfl, _⟩ := hG.tl.bg.form (n := t.ps.length) (by simp)
 obtain ⟨np, nc, rfl, _⟩ := hG.tl.bA.form (n := t.ps.length) (by simp [Bf])
 have HG := aa hG
 have xd := aa Bf
 clear hG Bf
 go_enter Tryz.func90, Tryz.ntmps90
 go_wp2_with fail
 go_cut [] from 6 to 17 (fun wx => ∃ P' N', GS tb B0 wx P' N' (t.push z nm) ∧ GK tb w wx (.slice pp t.ps.length pc) (.slice np t.ps.length nc) P' N')
 case first =>
  have hd := Up.drewN w 1
  have zA := aa HG.out
  have cn := aa HG.out.box
  have sQ : Hid (RS tb B0 w w.drew (.slice pp t.ps.length pc) (.slice np t.ps.length nc) (.slice pp t.ps.length pc) (.slice np t.ps.length nc) t.ps t.ns) := (RS.start HG.out.tl HG.out.lo).up hd
  have dD : Hid (t.ps.length ≤ 1000000 ∧ t.ns.length ≤ 1000000) := ⟨by omega, by rw [xd.out]; omega⟩
  refine dK (by kernel_rfl) 10 (fun w' => w'.cell? ⟨tb, 0, none⟩ = some (.slice pp t.ps.length pc) ∧ w'.cell? ⟨tb, 1, none⟩ = some (.slice np t.ps.length nc)) (sQ.out.cells cn.out) (fun hS => ?_)
  simp only [List.size_toArray, List.length_cons, List.length_nil, Nat.reduceAdd, Array.replicate_succ, Array.replicate_zero, List.push_toArray, List.nil_append, List.cons_append]
  generalize w.drew = Wd at *
  refine ag.take (i := 0) (v := ?Dr) rfl (by kernel_rfl) (fun _ _ _ h => h) (by rfl) (fun w hSw => ?pF) hS ?Ds
  case pF =>
   (try dsimp only at hSw)
   go_simp
   try with_reducible rfl
  try simp only [Act.put, aj, aq, au]
  refine ag.take (i := 1) (v := ?Dt) rfl (by kernel_rfl) (fun _ _ _ h => h) (by rfl) (fun w hSw => ?pG) hS ?Du
  case pG =>
   (try dsimp only at hSw)
   go_simp
   try with_reducible rfl
  try simp only [Act.put, aj, aq, au]
  refine ag.take (i := 2) (v := ?Dv) rfl (by kernel_rfl) (fun _ _ _ h => h) (by rfl) (fun w hSw => ?pH) hS ?Dw
  case pH =>
   (try dsimp only at hSw)
   go_simp
   try with_reducible rfl
  try simp only [Act.put, aj, aq, au]
  refine ag.take (i := 5) (v := ?J1) rfl (by kernel_rfl) (fun _ _ _ h => h) (by rfl) (fun w hSw => ?uh) hS ?J2
  case uh =>
   (try dsimp only at hSw)
   go_simp
   try with_reducible rfl
  try simp only [Act.put, aj, aq, au]
  refine ag.take (i := 6) (v := ?NY) rfl (by kernel_rfl) (fun _ _ _ h => h) (by rfl) (fun w hSw => ?xh) hS ?NZ
  case xh =>
   (try dsimp only at hSw)
   go_simp
   try with_reducible rfl
  try simp only [Act.put, aj, aq, au]
  refine ag.take (i := 7) (v := ?J3) rfl (by kernel_rfl) (fun _ _ _ h => h) (by rfl) (fun w hSw => ?uj) hS ?J4
  case uj =>
   (try dsimp only at hSw)
   go_simp
   try with_reducible rfl
  try simp only [Act.put, aj, aq, au]
  refine ag.uU (i := 3) (i2 := 8) rfl rfl (by kernel_rfl) (fun K' hK => ?_) (fun K' hK => ?_)
  ·go_simp
   have jM : Hid (RS tb B0 _ (Wd.alloc (.cells #[.int .i64 z] 3)) _ _ _ _ _ _) := sQ.out.up (Up.alloc _ _)
   refine hK.out _ _ (fun _ => jM.out.cells cn.out) (fun _ => ?_)
   try simp only [aj, aq, au]
   refine ag.uU (i := 4) (i2 := 8) rfl rfl (by kernel_rfl) (fun K' hK => ?_) (fun K' hK => ?_)
   ·refine cT (by rfl) _ _ _ (by rfl) B0 3 _ 8 Tryz.underlying26 Tryz.fU (by rfl) (by decide) (by rfl) jM.out.tl.bg (.int .i64 z) Wd.heap.size (by rfl) (bf Wd #[.int .i64 z] 3 0) (by rfl) (by rw [List.length_map]; exact dD.out.1) (Nat.le_trans jM.out.lo.2 jM.out.gk.size) ?_
    intro g1 DL fQ kz gq hrg1 _
    have iu : Hid (RS tb B0 _ fQ _ _ _ _ _ _) := jM.out.oC kz gq (hrg1.imp id (fun e => Nat.le_of_eq e.symm))
    refine hK.out _ _ (fun _ => iu.out.cells cn.out) (fun _ => ?_)
    try simp only [Act.put, aj, aq, au]
    refine ag.free (i := 10) (v := ?gv10a) rfl (by kernel_rfl) (fun _ _ _ h => h) (by rfl) (fun w => ?gy10a) (fun _ => iu.out.cells cn.out) ?gr10a
    case gy10a =>
     go_simp
     try with_reducible rfl
    try simp only [Act.put, aj, aq, au]
    refine ag.step (i := 8) rfl (by kernel_rfl) (fun K' hK => ?_)
    go_simp
    have fk : Hid (RS tb B0 _ (fQ.alloc (.cells #[.string nm] 9)) _ _ _ _ _ _) := iu.out.up (Up.alloc _ _)
    refine hK.out _ _ (fun _ => fk.out.cells cn.out) (fun _ => ?_)
    try simp only [aj, aq, au]
    refine ag.step (i := 9) rfl (by kernel_rfl) (fun K' hK => ?_)
    refine cT (by rfl) _ _ _ (by rfl) B0 9 _ 16 Tryz.underlying22 Tryz.kD (by rfl) (by decide) (by rfl) fk.out.tl.bA (.string nm) fQ.heap.size (by rfl) (bf fQ #[.string nm] 9 0) (by rfl) (by rw [List.length_map]; exact dD.out.2) (Nat.le_trans fk.out.lo.2 fk.out.gk.size) ?_
    intro g2 zq dI jD iG hrg2 _
    have ew : Hid (RS tb B0 _ dI _ _ _ _ _ _) := fk.out.nA jD iG (hrg2.imp id (fun e => Nat.le_of_eq e.symm))
    refine hK.out _ _ (fun _ => ew.out.cells cn.out) (fun _ => ?_)
    try simp only [Act.put, aj, aq, au]
    obtain ⟨sM, di⟩ := ew.out.cells cn.out
    have zu := ew.out.frozen cn.out 0
    have tJ := ew.out.frozen cn.out 1
    have fe := aa (ew.out.store zA.out)
    refine ag.step (i := 11) rfl (by kernel_rfl) (fun K' hK => ?_)
    go_simp
    refine hK.out _ _ (aP (by kernel_rfl)) (fun _ => ?_)
    try simp only [aj, aq, au]
    refine ag.free (i := 12) (v := ?gv12a) rfl (by kernel_rfl) (fun _ _ _ h => h) (by rfl) (fun w => ?gy12a) (aP (by kernel_rfl)) ?gr12a
    case gy12a =>
     go_simp
     try with_reducible rfl
    try simp only [Act.put, aj, aq, au]
    refine ag.step (i := 13) rfl (by kernel_rfl) (fun K' hK => ?_)
    go_simp
    refine hK.out _ _ (aP (by kernel_rfl)) (fun _ => ?_)
    refine ag.done (by kernel_rfl) ?_
    go_wp2_with fail
    go_meet
    case rel =>
     have cH := fe.out
     simp only [List.length_map] at cH
     exact ⟨_, _, cH.1, cH.2⟩
   ·go_simp
    have iu : Hid (RS tb B0 _ ((Wd.alloc (.cells #[.int .i64 z] 3)).alloc (.cells #[.string nm] 9)) _ _ _ _ _ _) := jM.out.up (Up.alloc _ _)
    refine hK.out _ _ (fun _ => iu.out.cells cn.out) (fun _ => ?_)
    try simp only [aj, aq, au]
    have og := bf (Wd.alloc (.cells #[.int .i64 z] 3)) #[.string nm] 9 0
    have mM := (Up.alloc (Wd.alloc (.cells #[.int .i64 z] 3)) (.cells #[.string nm] 9)).cell (bf Wd #[.int .i64 z] 3 0)
    rw [World.size_alloc] at og
    refine ag.step (i := 4) rfl (by kernel_rfl) (fun K' hK => ?_)
    refine cT (by rfl) _ _ _ (by rfl) B0 3 _ 8 Tryz.underlying26 Tryz.fU (by rfl) (by decide) (by rfl) iu.out.tl.bg (.int .i64 z) Wd.heap.size (by rfl) mM (by rfl) (by rw [List.length_map]; exact dD.out.1) (Nat.le_trans iu.out.lo.2 iu.out.gk.size) ?_
    intro g1 DL fQ kz gq hrg1 _
    have fk : Hid (RS tb B0 _ fQ _ _ _ _ _ _) := iu.out.oC kz gq (hrg1.imp id (fun e => Nat.le_of_eq e.symm))
    have rE : fQ.cell? ⟨Wd.heap.size + 1, 0, none⟩ = some (.string nm) := by
     rw [gq.cell_far ⟨Wd.heap.size + 1, 0, none⟩ (by simp) (fun e => absurd (ax sQ.out.tl.bg e.symm).2 (by show ¬ (Wd.heap.size + 1 < Wd.heap.size); omega))]; exact og
    refine hK.out _ _ (fun _ => fk.out.cells cn.out) (fun _ => ?_)
    try simp only [Act.put, aj, aq, au]
    refine ag.free (i := 10) (v := ?gv10b) rfl (by kernel_rfl) (fun _ _ _ h => h) (by rfl) (fun w => ?gy10b) (fun _ => fk.out.cells cn.out) ?gr10b
    case gy10b =>
     go_simp
     try with_reducible rfl
    try simp only [Act.put, aj, aq, au]
    refine ag.step (i := 9) rfl (by kernel_rfl) (fun K' hK => ?_)
    refine cT (by rfl) _ _ _ (by rfl) B0 9 _ 16 Tryz.underlying22 Tryz.kD (by rfl) (by decide) (by rfl) fk.out.tl.bA (.string nm) (Wd.heap.size + 1) (by rfl) rE (by rfl) (by rw [List.length_map]; exact dD.out.2) (Nat.le_trans fk.out.lo.2 fk.out.gk.size) ?_
    intro g2 zq dI jD iG hrg2 _
    have ew : Hid (RS tb B0 _ dI _ _ _ _ _ _) := fk.out.nA jD iG (hrg2.imp id (fun e => Nat.le_of_eq e.symm))
    refine hK.out _ _ (fun _ => ew.out.cells cn.out) (fun _ => ?_)
    try simp only [Act.put, aj, aq, au]
    obtain ⟨sM, di⟩ := ew.out.cells cn.out
    have zu := ew.out.frozen cn.out 0
    have tJ := ew.out.frozen cn.out 1
    have fe := aa (ew.out.store zA.out)
    refine ag.step (i := 11) rfl (by kernel_rfl) (fun K' hK => ?_)
    go_simp
    refine hK.out _ _ (aP (by kernel_rfl)) (fun _ => ?_)
    try simp only [aj, aq, au]
    refine ag.free (i := 12) (v := ?gv12b) rfl (by kernel_rfl) (fun _ _ _ h => h) (by rfl) (fun w => ?gy12b) (aP (by kernel_rfl)) ?gr12b
    case gy12b =>
     go_simp
     try with_reducible rfl
    try simp only [Act.put, aj, aq, au]
    refine ag.step (i := 13) rfl (by kernel_rfl) (fun K' hK => ?_)
    go_simp
    refine hK.out _ _ (aP (by kernel_rfl)) (fun _ => ?_)
    refine ag.done (by kernel_rfl) ?_
    go_wp2_with fail
    go_meet
    case rel =>
     have cH := fe.out
     simp only [List.length_map] at cH
     exact ⟨_, _, cH.1, cH.2⟩
  ·go_simp
   have jM : Hid (RS tb B0 _ (Wd.alloc (.cells #[.string nm] 9)) _ _ _ _ _ _) := sQ.out.up (Up.alloc _ _)
   refine hK.out _ _ (fun _ => jM.out.cells cn.out) (fun _ => ?_)
   try simp only [aj, aq, au]
   refine ag.step (i := 3) rfl (by kernel_rfl) (fun K' hK => ?_)
   go_simp
   have iu : Hid (RS tb B0 _ ((Wd.alloc (.cells #[.string nm] 9)).alloc (.cells #[.int .i64 z] 3)) _ _ _ _ _ _) := jM.out.up (Up.alloc _ _)
   refine hK.out _ _ (fun _ => iu.out.cells cn.out) (fun _ => ?_)
   try simp only [aj, aq, au]
   have mM := bf (Wd.alloc (.cells #[.string nm] 9)) #[.int .i64 z] 3 0
   have og := (Up.alloc (Wd.alloc (.cells #[.string nm] 9)) (.cells #[.int .i64 z] 3)).cell (bf Wd #[.string nm] 9 0)
   rw [World.size_alloc] at mM
   refine ag.step (i := 4) rfl (by kernel_rfl) (fun K' hK => ?_)
   refine cT (by rfl) _ _ _ (by rfl) B0 3 _ 8 Tryz.underlying26 Tryz.fU (by rfl) (by decide) (by rfl) iu.out.tl.bg (.int .i64 z) (Wd.heap.size + 1) (by rfl) mM (by rfl) (by rw [List.length_map]; exact dD.out.1) (Nat.le_trans iu.out.lo.2 iu.out.gk.size) ?_
   intro g1 DL fQ kz gq hrg1 _
   have fk : Hid (RS tb B0 _ fQ _ _ _ _ _ _) := iu.out.oC kz gq (hrg1.imp id (fun e => Nat.le_of_eq e.symm))
   have rE : fQ.cell? ⟨Wd.heap.size, 0, none⟩ = some (.string nm) := by
    rw [gq.cell_far ⟨Wd.heap.size, 0, none⟩ (by simp; omega) (fun e => absurd (ax sQ.out.tl.bg e.symm).2 (by show ¬ (Wd.heap.size < Wd.heap.size); omega))]; exact og
   refine hK.out _ _ (fun _ => fk.out.cells cn.out) (fun _ => ?_)
   try simp only [Act.put, aj, aq, au]
   refine ag.free (i := 10) (v := ?gv10c) rfl (by kernel_rfl) (fun _ _ _ h => h) (by rfl) (fun w => ?gy10c) (fun _ => fk.out.cells cn.out) ?gr10c
   case gy10c =>
    go_simp
    try with_reducible rfl
   try simp only [Act.put, aj, aq, au]
   refine ag.step (i := 9) rfl (by kernel_rfl) (fun K' hK => ?_)
   refine cT (by rfl) _ _ _ (by rfl) B0 9 _ 16 Tryz.underlying22 Tryz.kD (by rfl) (by decide) (by rfl) fk.out.tl.bA (.string nm) Wd.heap.size (by rfl) rE (by rfl) (by rw [List.length_map]; exact dD.out.2) (Nat.le_trans fk.out.lo.2 fk.out.gk.size) ?_
   intro g2 zq dI jD iG hrg2 _
   have ew : Hid (RS tb B0 _ dI _ _ _ _ _ _) := fk.out.nA jD iG (hrg2.imp id (fun e => Nat.le_of_eq e.symm))
   refine hK.out _ _ (fun _ => ew.out.cells cn.out) (fun _ => ?_)
   try simp only [Act.put, aj, aq, au]
   obtain ⟨sM, di⟩ := ew.out.cells cn.out
   have zu := ew.out.frozen cn.out 0
   have tJ := ew.out.frozen cn.out 1
   have fe := aa (ew.out.store zA.out)
   refine ag.step (i := 11) rfl (by kernel_rfl) (fun K' hK => ?_)
   go_simp
   refine hK.out _ _ (aP (by kernel_rfl)) (fun _ => ?_)
   try simp only [aj, aq, au]
   refine ag.free (i := 12) (v := ?gv12c) rfl (by kernel_rfl) (fun _ _ _ h => h) (by rfl) (fun w => ?gy12c) (aP (by kernel_rfl)) ?gr12c
   case gy12c =>
    go_simp
    try with_reducible rfl
   try simp only [Act.put, aj, aq, au]
   refine ag.step (i := 13) rfl (by kernel_rfl) (fun K' hK => ?_)
   go_simp
   refine hK.out _ _ (aP (by kernel_rfl)) (fun _ => ?_)
   refine ag.done (by kernel_rfl) ?_
   go_wp2_with fail
   go_meet
   case rel =>
    have cH := fe.out
    simp only [List.length_map] at cH
    exact ⟨_, _, cH.1, cH.2⟩
 case rest =>
  obtain ⟨P2, N2, UZ, hK2⟩ := hcut
  obtain ⟨d0, d1, _, _⟩ := UZ.cells
  have e1 : (t.push z nm).ps.length = t.ps.length + 1 := by simp [aA.push]
  obtain ⟨jy, jA, rfl, _⟩ := UZ.tl.bg.form (n := t.ps.length + 1) (by simp [e1])
  have HF := aa (⟨_, _, UZ, hK2⟩ : ∃ P' N', GS tb B0 wc P' N' (t.push z nm) ∧ GK tb w wc (.slice pp t.ps.length pc) (.slice np t.ps.length nc) P' N')
  have i1 : wrap64 ((((t.ps.length + 1 : Nat)) : Int) - 1) = (t.ps.length : Int) := by unfold wrap64; omega
  have i2 : wrap64 ((t.ps.length : Int) + 1 - 1) = (t.ps.length : Int) := by unfold wrap64; omega
  clear UZ hK2 e1 hc0 hc1
  go_wp2_with fail
  go_ret
  exact ⟨aI (by first | rfl | omega | simp), HF.out⟩
end
section
open Go.RowKit Go.Deep
set_option maxHeartbeats 1000000 in
theorem EG (S : Nat → Prop) (w : World) (bo bn br : Nat) (ov nv : Value) (own : List (List Int)) (js : List Int) (x : Int) (m : Nat) (ho : w.cell? ⟨bo, 0, none⟩ = some ov) (hO : aJ S w ov own) (hn : w.cell? ⟨bn, 0, none⟩ = some nv) (hN : af S w nv js) (hr : w.cell? ⟨br, 0, none⟩ = some (.int .i64 2))
  (hm : m ≤ own.length) (hm2 : m ≤ js.length) (dZ : ∀ k, k < m → gi js k = ((3 + k : Nat) : Int)) (KG : own.length ≤ 1000) (hl : ∀ k, (gl own k).length ≤ 1000000) :
  Calls Tryz.prog 99 #[.int .i64 x, .int .i64 (m : Int), .pointer (some ⟨bo, 0, none⟩), .pointer (some ⟨bn, 0, none⟩), .pointer (some ⟨br, 0, none⟩)] w fun e w' => e = .returned (.int .i64 (lastQ own x m)) ∧ w = w' := by
 obtain ⟨op, oc, rfl, -, -⟩ := cN hO
 obtain ⟨np, nc, rfl, -, -⟩ := av.open hN
 have HO : Hid (aJ S w (.slice op own.length oc) own) := hO
 have HN : Hid (af S w (.slice np js.length nc) js) := hN
 have GZ := aa dZ
 have HL := aa hl
 have m1 : wrap64 ((m : Int) - 1) = (m : Int) - 1 := by unfold wrap64; omega
 clear hO hN dZ hl
 go_enter Tryz.func99, Tryz.ntmps99
 go_wp2_with fail
 clear m1
 go_loop [8] (fun i => ∃ k : Nat, k ≤ m ∧ i = .int .i64 ((k : Int) - 1) ∧ Hid (lastQ own x m = lastQ own x k)) (fun i => (intOf i + 1).toNat)
 case atStart => exact ⟨m, Nat.le_refl _, rfl, rfl⟩
 case round =>
  obtain ⟨k, hk, rfl, hd⟩ := hrel
  cases k with
  | zero =>
   have i0 : ¬ (0 : Int) ≤ ((0 : Nat) : Int) - 1 := by decide
   go_wp2_with fail
   go_ret
   exact ⟨aI hd.out.symm, rfl⟩
  | succ k =>
   obtain ⟨b, off, q, c, rfl, hc, hi⟩ := dX HO.out (show k < own.length by omega)
   obtain ⟨b2, off2, rfl, hc2⟩ := bw HN.out (show k < js.length by omega)
   rw [GZ.out k (by omega)] at hc2
   have BM : Hid (Calls Tryz.prog 17 #[.slice q (gl own k).length c, .int .i64 x] w fun e w' => e = .returned (.bool ((gl own k).contains x)) ∧ w = w') := by
    have h := uA S w _ (gl own k) x hi (HL.out k)
    rw [x9] at h; exact h
   have HQ : Hid (lastQ own x (k + 1) = if (gl own k).contains x then ((3 + k : Nat) : Int) else lastQ own x k) := rfl
   have e1 : ((k + 1 : Nat) : Int) - 1 = (k : Int) := by omega
   rw [e1]
   have k1 : (0 : Int) ≤ (k : Int) := Int.natCast_nonneg _
   have k2 : (k : Int) < (own.length : Int) := by omega
   have k3 : (k : Int) < (js.length : Int) := by omega
   have k4 : wrap64 ((k : Int) - 1) = (k : Int) - 1 := by unfold wrap64; omega
   clear hi e1
   cases hct : (gl own k).contains x
   ·rw [hct] at BM HQ
    have PV : Hid (lastQ own x m = lastQ own x k) := by unfold Hid; rw [hd.out, HQ.out, if_neg (by decide)]
    clear hct
    go_wp2_with fail
    refine BM.out.mono ?_
    rintro e w' ⟨rfl, rfl⟩
    go_wp2_with fail
    go_round
    case rel => exact ⟨k, by omega, rfl, PV⟩
    case measure => clear k4; simp [intOf]
   ·rw [hct] at BM HQ
    have PV : Hid (lastQ own x m = ((3 + k : Nat) : Int)) := by unfold Hid; rw [hd.out, HQ.out, if_pos rfl]
    clear hct k4
    go_wp2_with fail
    refine BM.out.mono ?_
    rintro e w' ⟨rfl, rfl⟩
    go_wp2_with fail
    go_ret
    exact ⟨aI (by rw [PV.out]; omega), rfl⟩
end
section
open Go.RowKit Go.Deep
theorem Tryz.V6 : (Tryz.prog.info? 26).map (fun i => (i.zero, i.size, i.bytes)) = some (some (.slice none 0 0), 1, 24) := by kernel_rfl
def V7 (S : Nat → Prop) (w : World) (T : TypeId) (xs : List (List Int)) (en : Ending) (w' : World) : Prop :=
 Up w w' ∧ ∃ u vals, en = .returned u ∧ vals.length = xs.length ∧ ah w.heap.size T w' u vals ∧ ∀ i, i < xs.length → af S w' (vals.getD i undef) (gl xs i)
theorem Tc {S : Nat → Prop} {w : World} {n cap : Nat} {xs : List (List Int)} (h : aJ S w (.slice none n cap) xs) : xs = [] := by
 obtain ⟨f, ⟨q, c, e, _, h⟩, _⟩ := h
 injection e with e1 e2 e3
 rcases h with h | ⟨b, off, h, _⟩
 ·exact List.eq_nil_of_length_eq_zero h
 ·rw [← e1] at h; cases h
theorem Qh {u : Value} (h : ∃ p n c, u = .slice p n c) : u.oneCell' = true := by obtain ⟨_, _, _, rfl⟩ := h; rfl
set_option maxHeartbeats 400000 in
theorem Iy (S : Nat → Prop) (w : World) (v : Value) (xs : List (List Int)) (h : aJ S w v xs) (hn : xs.length ≤ 1000000) :
  Calls Tryz.prog 92 #[v] w (V7 S w 26 xs) := by
 obtain ⟨p, cap, rfl, hcap, _⟩ := cN h
 cases p with
 | none =>
  obtain rfl := Tc h
  have heq := fun (w : World) => Lib.run_eql_slice_nil (P := Tryz.prog) w 23 26 none 0 cap 0 0 Tryz.underlying23
  clear h
  go_enter Tryz.func92, Tryz.ntmps92
  go_wp2_with fail
  go_ret
  exact ⟨Up.refl _, _, [], rfl, rfl, ah.nil _ _ _, fun i hi => absurd hi (Nat.not_lt_zero _)⟩
 | some p =>
  have heq := fun (w : World) => Lib.run_eql_slice_nil (P := Tryz.prog) w 23 26 (some p) xs.length cap 0 0 Tryz.underlying23
  have hu := Up.alloc w (.cells #[] 26)
  obtain ⟨f, jv, hr⟩ := h
  obtain ⟨q, c, e, _, H⟩ := av.open (av.keep jv (hu.kept S))
  injection e with e1 e2 e3
  subst e1
  have hnl : ((List.range xs.length).map f).length = xs.length := by simp
  have hnews : ∀ j u, ((List.range xs.length).map f)[j]? = some u → (w.alloc (.cells #[] 26)).cell? (p.add j) = some u := fun j u hj => by
   have hj2 : j < xs.length := by
    have := (List.getElem?_eq_some_iff.1 hj).1
    simpa using this
   obtain ⟨b, off, e, hc⟩ := H j hj2
   injection e with e
   subst e
   have Fq : (⟨b, off, none⟩ : Addr).add j = ⟨b, off + j, none⟩ := by unfold Addr.add; split <;> simp_all
   rw [Fq, hc]
   simp [hj2] at hj; rw [hj]
  have hone : ∀ u ∈ (List.range xs.length).map f, u.oneCell' = true := fun u aC => by
   obtain ⟨k, hk, rfl⟩ := List.mem_map.1 aC
   obtain ⟨p', c', e', _⟩ := hr k (List.mem_range.1 hk)
   exact Qh ⟨_, _, _, e'⟩
  have HU := aa hu
  have HN := aa hnews
  have HO := aa hone
  have pJ := aa hnl
  have HR := aa hr
  have HM := aa (ah.made w 26)
  clear jv hr H hnews hu hone hnl e2 e3
  go_enter Tryz.func92, Tryz.ntmps92
  go_wp2_with (at_builtin; refine Jy _ rfl _ _ 23 rfl w.heap.size 26 (.slice none 0 0) 24 Tryz.underlying23 Tryz.V6 rfl (by decide) HM.out rfl p cap ((List.range xs.length).map f) (by rw [pJ.out]; rfl) HN.out HO.out (by rw [pJ.out]; simp; omega) (by simp) ?_; intro v' w' hown' hgrow hbel)
  go_ret
  have aW : Up w w' := Below.trans HU.out hbel
  refine ⟨aW, _, (List.range xs.length).map f, rfl, pJ.out, by simpa using hown', fun i hi => ?_⟩
  have e : ((List.range xs.length).map f).getD i undef = f i := by simp [hi]
  rw [e]; exact (HR.out i hi).keep (aW.kept S)
end
end Go.Proofs.YtpnmblnahjjmhaaGreat
