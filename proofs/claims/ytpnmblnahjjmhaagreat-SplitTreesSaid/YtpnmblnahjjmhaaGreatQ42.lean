/- The contracts of layer 32's reference: Check, Compatible, All. split.leafName; the closure of split.Build that adds a node. The closure of split.Build that finds the least set that holds a leaf. A copy of a list of lists; the law's closure. -/
import Derived.Test.YtpnmblnahjjmhaaGreatQ38
import Derived.Test.YtpnmblnahjjmhaaGreatQ35
import Derived.Test.YtpnmblnahjjmhaaGreatQ13
import Derived.Test.YtpnmblnahjjmhaaGreatQ1
import Derived.Test.YtpnmblnahjjmhaaGreatQ16
import Derived.Test.YtpnmblnahjjmhaaGreatQ29
import Derived.Test.YtpnmblnahjjmhaaGreatQ3
import Derived.Test.YtpnmblnahjjmhaaGreatQ2
namespace Go.Proofs.YtpnmblnahjjmhaaGreat
set_option maxRecDepth 100000
section
open Go.RowKit Go.Deep
set_option maxHeartbeats 2000000 in
theorem Di (S : Nat → Prop) (w : World) (v : Value) (n : Int) (s : List Int) (h : an S w v s) (hn : s.length ≤ 1000000) :
  Calls Tryz.prog 112 #[.int .i64 n, v] w fun e w' => e = .returned (.int .i64 (aN n s)) ∧ QD w w' := by
 have HF := ag (MU n s)
 have HC := ag (zj S w v s h hn)
 obtain ⟨p, cap, rfl, -, -⟩ := aC.open h
 have H : Hid (an S w (.slice p s.length cap) s) := h
 have HO : Hid (∀ i, oR n s i = (decide (gi s i = 0) || decide (n ≤ gi s i))) := fun _ => rfl
 clear h
 by_cases h1 : n < 1
 ·have HR : Hid (aN n s = 2) := by unfold Hid; rw [HF.out, if_pos (.inl h1)]
  have e1 : decide (n < 1) = true := decide_eq_true h1
  clear h1
  aq Tryz.func112, Tryz.ntmps112
  aa fail
  ax
  exact ⟨aQ (by rw [HR.out]), QD.refl _⟩
 have e1 : decide (n < 1) = false := decide_eq_false h1
 by_cases h2 : 32 < n
 ·have HR : Hid (aN n s = 2) := by unfold Hid; rw [HF.out, if_pos (.inr h2)]
  have e2 : decide (32 < n) = true := decide_eq_true h2
  clear h1 h2
  aq Tryz.func112, Tryz.ntmps112
  aa fail
  ax
  exact ⟨aQ (by rw [HR.out]), QD.refl _⟩
 have e2 : decide (32 < n) = false := decide_eq_false h2
 have n1 : 1 ≤ n := by omega
 have n2 : n ≤ 32 := by omega
 have oy : Hid (aN n s = if eL s ≠ 0 then eL s else if (List.range s.length).any (oR n s) then 2 else if (s.length : Int) < 2 ∨ n - 2 < s.length then 8 else 0) := by unfold Hid; rw [HF.out, if_neg (by omega)]
 clear HF h1 h2
 by_cases h3 : eL s = 0
 case neg =>
  have e3 : (eL s != 0) = true := by simpa using h3
  have HR : Hid (aN n s = eL s) := by unfold Hid; rw [oy.out, if_pos h3]
  clear h3 oy
  generalize eL s = z at *
  aq Tryz.func112, Tryz.ntmps112
  aa fail
  refine HC.out.mono ?_
  rintro e w1 ⟨rfl, hq1⟩
  have pg := ag hq1
  clear hq1
  aa fail
  ax
  exact ⟨aQ (by rw [HR.out]), pg.out⟩
 have Zq : Hid (aN n s = if (List.range s.length).any (oR n s) then 2 else if (s.length : Int) < 2 ∨ n - 2 < s.length then 8 else 0) := by unfold Hid; rw [oy.out, if_neg (fun e => e h3)]
 rw [h3] at HC
 have yJ : s.length ≤ 64 := lR (fL.1 h3)
 clear h3 oy
 aq Tryz.func112, Tryz.ntmps112
 aa fail
 refine HC.out.mono ?_
 rintro e w1 ⟨rfl, hq1⟩
 have pg := ag hq1
 clear hq1 HC
 aa fail
 dD [6] (fun i => ∃ k : Nat, k ≤ s.length ∧ i = .int .i64 k ∧ Hid (∀ j, j < k → oR n s j = false)) (fun i => s.length - (intOf i).toNat)
 case atStart => exact ⟨0, Nat.zero_le _, rfl, fun j hj => absurd hj (Nat.not_lt_zero _)⟩
 case round =>
  obtain ⟨k, hk, rfl, hd⟩ := bE
  by_cases hlt : k < s.length
  ·obtain ⟨b, off, rfl, hc⟩ := bV (an.keep H.out (pg.out.kept S)) hlt
   have i1 : (0 : Int) ≤ (k : Int) := by omega
   have i2 : (k : Int) < (s.length : Int) := by omega
   have gu := ag (HO.out k)
   have aU := ag hlt
   have wW : Hid (oR n s k = true → aN n s = 2) := fun e => by rw [Zq.out, if_pos (Bd (p := oR n s) hlt e)]
   have xg : Hid (oR n s k = false → ∀ j, j < k + 1 → oR n s j = false) := fun e j hj => if ej : j = k then by subst ej; exact e else hd.out j (by omega)
   generalize gi s k = x at *
   by_cases q1 : x = 0
   ·have HR := ag (wW.out (by rw [gu.out, decide_eq_true q1]; rfl))
    have f1 : (x == 0) = true := by simpa using q1
    clear q1
    aa fail
    ax
    exact ⟨aQ (by rw [HR.out]), pg.out⟩
   have f1 : (x == 0) = false := by simpa using q1
   by_cases q2 : n ≤ x
   ·have HR := ag (wW.out (by rw [gu.out, decide_eq_true q2]; simp))
    have f2 : decide (n ≤ x) = true := decide_eq_true q2
    clear q1 q2
    aa fail
    ax
    exact ⟨aQ (by rw [HR.out]), pg.out⟩
   ·have HR := ag (xg.out (by rw [gu.out, decide_eq_false q1, decide_eq_false q2]; rfl))
    have f2 : decide (n ≤ x) = false := decide_eq_false q2
    clear q1 q2
    aa fail
    cz
    case rel => exact ⟨k + 1, aU.out, by aH, HR.out⟩
    case measure => have := aU.out; simp [intOf]; omega
  ·obtain rfl : k = s.length := by omega
   have Zr : Hid (aN n s = if (s.length : Int) < 2 ∨ n - 2 < s.length then 8 else 0) := by unfold Hid; rw [Zq.out, any_none (p := oR n s) hd.out, if_neg (by decide)]
   clear hlt hk hd Zq HO H
   by_cases q1 : (s.length : Int) < 2
   ·have HR : Hid (aN n s = 8) := by unfold Hid; rw [Zr.out, if_pos (.inl q1)]
    have f1 : decide ((s.length : Int) < 2) = true := decide_eq_true q1
    clear q1
    aa fail
    ax
    exact ⟨aQ (by rw [HR.out]), pg.out⟩
   have f1 : decide ((s.length : Int) < 2) = false := decide_eq_false q1
   by_cases q2 : n - 2 < (s.length : Int)
   ·have HR : Hid (aN n s = 8) := by unfold Hid; rw [Zr.out, if_pos (.inr q2)]
    have f2 : decide (n - 2 < (s.length : Int)) = true := decide_eq_true q2
    clear q1 q2
    aa fail
    ax
    exact ⟨aQ (by rw [HR.out]), pg.out⟩
   ·have HR : Hid (aN n s = 0) := by unfold Hid; rw [Zr.out, if_neg (by omega)]
    have f2 : decide (n - 2 < (s.length : Int)) = false := decide_eq_false q2
    clear q1 q2
    aa fail
    ax
    exact ⟨aQ (by rw [HR.out]), pg.out⟩
theorem oV (S T : Nat → Prop) (w : World) (v u : Value) (a b : List Int) (h : an S w v a) (h2 : an T w u b) (hn : a.length ≤ 1000000) (hm : b.length ≤ 1000000) (ha : cZ a) (hb : cZ b) :
  Calls Tryz.prog 180 #[v, u] w fun e w' => e = .returned (.bool (fh a b)) ∧ QD w w' := by
 have H1 := ag (MZ S T w v u a b h h2 hn hm ha hb)
 obtain ⟨p, cap, rfl, -, -⟩ := aC.open h
 obtain ⟨q, tS, rfl, -, -⟩ := aC.open h2
 clear h h2
 aq Tryz.func180, Tryz.ntmps180
 aa fail
 refine H1.out.mono ?_
 rintro e w1 ⟨rfl, hq1⟩
 have pg := ag hq1
 clear hq1
 aa fail
 ax
 exact ⟨rfl, pg.out⟩
set_option maxHeartbeats 1000000 in
theorem V4 (S T : Nat → Prop) (w : World) (v u : Value) (a b : List Int) (h : an S w v a) (h2 : an T w u b) (ha : cZ a) (hb : cZ b) :
  Calls Tryz.prog 179 #[v, u] w fun e w' => e = .returned (.bool (eU a b)) ∧ Up w w' := by
 have hla := lR ha
 have hlb := lR hb
 have H1 := ag (P9 S T w v u a b h h2 (by omega) (by omega) ha hb)
 have H2 : Hid (∀ W, Up w W → Calls Tryz.prog 180 #[v, u] W fun e w' => e = .returned (.bool (fh a b)) ∧ QD W w') := fun W hW => oV S T W v u a b (an.keep h (hW.kept _)) (an.keep h2 (hW.kept _)) (by omega) (by omega) ha hb
 have H3 : Hid (∀ W, Up w W → Calls Tryz.prog 180 #[u, v] W fun e w' => e = .returned (.bool (fh b a)) ∧ QD W w') := fun W hW => oV T S W u v b a (an.keep h2 (hW.kept _)) (an.keep h (hW.kept _)) (by omega) (by omega) hb ha
 have HF := ag (SY ha hb)
 obtain ⟨p, cap, rfl, -, -⟩ := aC.open h
 obtain ⟨q, tS, rfl, -, -⟩ := aC.open h2
 clear h h2 ha hb
 have wO : Hid ((a.filter fun x => b.contains x).length ≤ a.length) := List.length_filter_le _ _
 generalize eU a b = r at *
 generalize (a.filter fun x => b.contains x) = F at *
 aq Tryz.func179, Tryz.ntmps179
 aa fail
 refine H1.out.mono ?_
 rintro e w1 ⟨cK, x, rfl, hx⟩
 obtain ⟨xp, xc, rfl, -, -⟩ := aC.open hx
 have eD := ag cK
 clear cK hx H1
 by_cases h0 : F.length = 0
 ·have HR : Hid (r = true) := by unfold Hid; rw [← HF.out, decide_eq_true h0]; rfl
  have e0 : ((F.length : Int) == 0) = true := by simp [h0]
  clear h0
  generalize F.length = m at *
  aa fail
  ax
  exact ⟨aZ HR.out.symm, eD.out⟩
 have e0 : ((F.length : Int) == 0) = false := by simpa using h0
 have oy : Hid ((fh a b || fh b a) = r) := by unfold Hid; rw [← HF.out, decide_eq_false h0]; rfl
 clear h0 HF
 generalize F.length = m at *
 generalize fh a b = s1 at *
 generalize fh b a = s2 at *
 cases s1
 ·aa fail
  refine (H2.out w1 eD.out).mono ?_
  rintro e w2 ⟨rfl, iP⟩
  have cM := ag (eD.out.trans iP.up)
  clear iP
  aa fail
  refine (H3.out w2 cM.out).mono ?_
  rintro e w3 ⟨rfl, Ac⟩
  have dI := ag (cM.out.trans Ac.up)
  clear Ac
  aa fail
  ax
  exact ⟨aZ oy.out, dI.out⟩
 ·aa fail
  refine (H2.out w1 eD.out).mono ?_
  rintro e w2 ⟨rfl, iP⟩
  have cM := ag (eD.out.trans iP.up)
  clear iP
  aa fail
  ax
  exact ⟨aZ oy.out, cM.out⟩
end
section
open Go.RowKit Go.Deep
theorem JP (s : ByteArray) (h : s.size - 1 < s.size) (BQ : 16 < s.size) (wN : ((s[s.size - 1].toNat : Int) == 42) = true) : bM s.data.toList = false := by
 have hl := size_data s
 have h2 : s[s.size - 1] = 42 := by
  have h3 : (s[s.size - 1].toNat : Int) = 42 := by simpa using wN
  have h4 : s[s.size - 1].toNat = 42 := by omega
  exact UInt8.toNat_inj.1 h4
 unfold bM
 rw [vH s h, h2, if_pos rfl, hl, decide_eq_false (by omega), Bool.and_false]
set_option maxHeartbeats 400000 in
theorem M3 (s : ByteArray) (hs : s.size ≤ 70000) (w : World) : Calls Tryz.prog 89 #[.string s] w fun e w' => e = .returned (.bool (bM s.data.toList)) ∧ w = w' := by
 aq Tryz.func89, Tryz.ntmps89
 aa fail
 ·have hf := ag (vI s (by omega) (by omega) ‹_›)
  refine (rS _ (by simp; omega) _).mono ?_
  rintro e w1 ⟨rfl, rfl⟩
  rw [← hf.out]
  aa fail
  ax
  exact ⟨rfl, rfl⟩
 ·have hf := ag (JP s (by omega) (by omega) ‹_›)
  ax
  exact ⟨aZ hf.out.symm, rfl⟩
 ·have hf := ag (uj s (by omega) ‹_›)
  refine (rS _ hs _).mono ?_
  rintro e w1 ⟨rfl, rfl⟩
  rw [← hf.out]
  aa fail
  ax
  exact ⟨rfl, rfl⟩
 ·have hf := ag (x7 s (by omega))
  refine (rS _ hs _).mono ?_
  rintro e w1 ⟨rfl, rfl⟩
  rw [← hf.out]
  aa fail
  ax
  exact ⟨rfl, rfl⟩
set_option maxHeartbeats 4000000 in
theorem zl (tb B0 : Nat) (t : aJ) (z : Int) (nm : ByteArray) (w : World) (P N : Value) (hG : GS tb B0 w P N t) (Bv : t.ns.length = t.ps.length) (hl : t.ps.length + 1 ≤ 1000000) :
  Calls Tryz.prog 90 #[.int .i64 z, .string nm, .pointer (some ⟨tb, 0, none⟩)] w fun e w' => e = .returned (.int .i64 (t.ps.length : Int)) ∧ ∃ P' N', GS tb B0 w' P' N' (t.push z nm) ∧ GK tb w w' P N P' N' := by
 obtain ⟨hc0, hc1, _, _⟩ := hG.cells
 obtain ⟨pp, pc, rfl, _⟩ := hG.tl.bJ.form (n := t.ps.length) (by simp)
 obtain ⟨np, nc, rfl, _⟩ := hG.tl.bW.form (n := t.ps.length) (by simp [Bv])
 have HG := ag hG
 have xG := ag Bv
 clear hG Bv
 aq Tryz.func90, Tryz.ntmps90
 aa fail
 OK [] from 6 to 17 (fun wx => ∃ P' N', GS tb B0 wx P' N' (t.push z nm) ∧ GK tb w wx (.slice pp t.ps.length pc) (.slice np t.ps.length nc) P' N')
 case first =>
  have hd := Up.drewN w 1
  have zQ := ag HG.out
  have cU := ag HG.out.box
  have tv : Hid (RS tb B0 w w.drew (.slice pp t.ps.length pc) (.slice np t.ps.length nc) (.slice pp t.ps.length pc) (.slice np t.ps.length nc) t.ps t.ns) := (RS.start HG.out.tl HG.out.lo).up hd
  have ew : Hid (t.ps.length ≤ 1000000 ∧ t.ns.length ≤ 1000000) := ⟨by omega, by rw [xG.out]; omega⟩
  refine eE (by af) 10 (fun w' => w'.cell? ⟨tb, 0, none⟩ = some (.slice pp t.ps.length pc) ∧ w'.cell? ⟨tb, 1, none⟩ = some (.slice np t.ps.length nc)) (tv.out.cells cU.out) (fun hS => ?_)
  simp only [List.size_toArray, List.length_cons, List.length_nil, Nat.reduceAdd, Array.replicate_succ, Array.replicate_zero, List.push_toArray, List.nil_append, List.cons_append]
  generalize w.drew = Wd at *
  refine au.take (i := 0) (v := ?DB) rfl (by af) (fun _ _ _ h => h) (by rfl) (fun w av => ?qm) hS ?DC
  case qm =>
   (try dsimp only at av)
   aj
   try ah rfl
  try simp only [Act.put, az, aA, aB]
  refine au.take (i := 1) (v := ?DD) rfl (by af) (fun _ _ _ h => h) (by rfl) (fun w av => ?qn) hS ?DE
  case qn =>
   (try dsimp only at av)
   aj
   try ah rfl
  try simp only [Act.put, az, aA, aB]
  refine au.take (i := 2) (v := ?DF) rfl (by af) (fun _ _ _ h => h) (by rfl) (fun w av => ?qq) hS ?DG
  case qq =>
   (try dsimp only at av)
   aj
   try ah rfl
  try simp only [Act.put, az, aA, aB]
  refine au.take (i := 5) (v := ?J2) rfl (by af) (fun _ _ _ h => h) (by rfl) (fun w av => ?uI) hS ?J3
  case uI =>
   (try dsimp only at av)
   aj
   try ah rfl
  try simp only [Act.put, az, aA, aB]
  refine au.take (i := 6) (v := ?Oa) rfl (by af) (fun _ _ _ h => h) (by rfl) (fun w av => ?xJ) hS ?Ob
  case xJ =>
   (try dsimp only at av)
   aj
   try ah rfl
  try simp only [Act.put, az, aA, aB]
  refine au.take (i := 7) (v := ?J4) rfl (by af) (fun _ _ _ h => h) (by rfl) (fun w av => ?uJ) hS ?J5
  case uJ =>
   (try dsimp only at av)
   aj
   try ah rfl
  try simp only [Act.put, az, aA, aB]
  refine au.vv (i := 3) (i2 := 8) rfl rfl (by af) (fun K' hK => ?_) (fun K' hK => ?_)
  ·aj
   have kE : Hid (RS tb B0 _ (Wd.alloc (.cells #[.int .i64 z] 3)) _ _ _ _ _ _) := tv.out.up (Up.alloc _ _)
   refine hK.out _ _ (fun _ => kE.out.cells cU.out) (fun _ => ?_)
   try simp only [az, aA, aB]
   refine au.vv (i := 4) (i2 := 8) rfl rfl (by af) (fun K' hK => ?_) (fun K' hK => ?_)
   ·refine dK (by rfl) _ _ _ (by rfl) B0 3 _ 8 Tryz.underlying26 Tryz.gH (by rfl) (by decide) (by rfl) kE.out.tl.bJ (.int .i64 z) Wd.heap.size (by rfl) (bI Wd #[.int .i64 z] 3 0) (by rfl) (by rw [List.length_map]; exact ew.out.1) (Nat.le_trans kE.out.lo.2 kE.out.gk.size) ?_
    intro g1 DU gD lg gP lq _
    have iQ : Hid (RS tb B0 _ gD _ _ _ _ _ _) := kE.out.pI lg gP (lq.imp id (fun e => Nat.le_of_eq e.symm))
    refine hK.out _ _ (fun _ => iQ.out.cells cU.out) (fun _ => ?_)
    try simp only [Act.put, az, aA, aB]
    refine au.free (i := 10) (v := ?gv10a) rfl (by af) (fun _ _ _ h => h) (by rfl) (fun w => ?gy10a) (fun _ => iQ.out.cells cU.out) ?gr10a
    case gy10a =>
     aj
     try ah rfl
    try simp only [Act.put, az, aA, aB]
    refine au.step (i := 8) rfl (by af) (fun K' hK => ?_)
    aj
    have fT : Hid (RS tb B0 _ (gD.alloc (.cells #[.string nm] 9)) _ _ _ _ _ _) := iQ.out.up (Up.alloc _ _)
    refine hK.out _ _ (fun _ => fT.out.cells cU.out) (fun _ => ?_)
    try simp only [az, aA, aB]
    refine au.step (i := 9) rfl (by af) (fun K' hK => ?_)
    refine dK (by rfl) _ _ _ (by rfl) B0 9 _ 16 Tryz.underlying22 Tryz.lC (by rfl) (by decide) (by rfl) fT.out.tl.bW (.string nm) gD.heap.size (by rfl) (bI gD #[.string nm] 9 0) (by rfl) (by rw [List.length_map]; exact ew.out.2) (Nat.le_trans fT.out.lo.2 fT.out.gk.size) ?_
    intro g2 zK eC ki jb kj _
    have fe : Hid (RS tb B0 _ eC _ _ _ _ _ _) := fT.out.ou ki jb (kj.imp id (fun e => Nat.le_of_eq e.symm))
    refine hK.out _ _ (fun _ => fe.out.cells cU.out) (fun _ => ?_)
    try simp only [Act.put, az, aA, aB]
    obtain ⟨tn, dS⟩ := fe.out.cells cU.out
    have zL := fe.out.frozen cU.out 0
    have ug := fe.out.frozen cU.out 1
    have fR := ag (fe.out.store zQ.out)
    refine au.step (i := 11) rfl (by af) (fun K' hK => ?_)
    aj
    refine hK.out _ _ (bh (by af)) (fun _ => ?_)
    try simp only [az, aA, aB]
    refine au.free (i := 12) (v := ?gv12a) rfl (by af) (fun _ _ _ h => h) (by rfl) (fun w => ?gy12a) (bh (by af)) ?gr12a
    case gy12a =>
     aj
     try ah rfl
    try simp only [Act.put, az, aA, aB]
    refine au.step (i := 13) rfl (by af) (fun K' hK => ?_)
    aj
    refine hK.out _ _ (bh (by af)) (fun _ => ?_)
    refine au.done (by af) ?_
    aa fail
    kK
    case rel =>
     have dx := fR.out
     simp only [List.length_map] at dx
     exact ⟨_, _, dx.1, dx.2⟩
   ·aj
    have iQ : Hid (RS tb B0 _ ((Wd.alloc (.cells #[.int .i64 z] 3)).alloc (.cells #[.string nm] 9)) _ _ _ _ _ _) := kE.out.up (Up.alloc _ _)
    refine hK.out _ _ (fun _ => iQ.out.cells cU.out) (fun _ => ?_)
    try simp only [az, aA, aB]
    have o4 := bI (Wd.alloc (.cells #[.int .i64 z] 3)) #[.string nm] 9 0
    have nJ := (Up.alloc (Wd.alloc (.cells #[.int .i64 z] 3)) (.cells #[.string nm] 9)).cell (bI Wd #[.int .i64 z] 3 0)
    rw [World.size_alloc] at o4
    refine au.step (i := 4) rfl (by af) (fun K' hK => ?_)
    refine dK (by rfl) _ _ _ (by rfl) B0 3 _ 8 Tryz.underlying26 Tryz.gH (by rfl) (by decide) (by rfl) iQ.out.tl.bJ (.int .i64 z) Wd.heap.size (by rfl) nJ (by rfl) (by rw [List.length_map]; exact ew.out.1) (Nat.le_trans iQ.out.lo.2 iQ.out.gk.size) ?_
    intro g1 DU gD lg gP lq _
    have fT : Hid (RS tb B0 _ gD _ _ _ _ _ _) := iQ.out.pI lg gP (lq.imp id (fun e => Nat.le_of_eq e.symm))
    have r9 : gD.cell? ⟨Wd.heap.size + 1, 0, none⟩ = some (.string nm) := by
     rw [gP.cell_far ⟨Wd.heap.size + 1, 0, none⟩ (by simp) (fun e => absurd (aD tv.out.tl.bJ e.symm).2 (by show ¬ (Wd.heap.size + 1 < Wd.heap.size); omega))]; exact o4
    refine hK.out _ _ (fun _ => fT.out.cells cU.out) (fun _ => ?_)
    try simp only [Act.put, az, aA, aB]
    refine au.free (i := 10) (v := ?gv10b) rfl (by af) (fun _ _ _ h => h) (by rfl) (fun w => ?gy10b) (fun _ => fT.out.cells cU.out) ?gr10b
    case gy10b =>
     aj
     try ah rfl
    try simp only [Act.put, az, aA, aB]
    refine au.step (i := 9) rfl (by af) (fun K' hK => ?_)
    refine dK (by rfl) _ _ _ (by rfl) B0 9 _ 16 Tryz.underlying22 Tryz.lC (by rfl) (by decide) (by rfl) fT.out.tl.bW (.string nm) (Wd.heap.size + 1) (by rfl) r9 (by rfl) (by rw [List.length_map]; exact ew.out.2) (Nat.le_trans fT.out.lo.2 fT.out.gk.size) ?_
    intro g2 zK eC ki jb kj _
    have fe : Hid (RS tb B0 _ eC _ _ _ _ _ _) := fT.out.ou ki jb (kj.imp id (fun e => Nat.le_of_eq e.symm))
    refine hK.out _ _ (fun _ => fe.out.cells cU.out) (fun _ => ?_)
    try simp only [Act.put, az, aA, aB]
    obtain ⟨tn, dS⟩ := fe.out.cells cU.out
    have zL := fe.out.frozen cU.out 0
    have ug := fe.out.frozen cU.out 1
    have fR := ag (fe.out.store zQ.out)
    refine au.step (i := 11) rfl (by af) (fun K' hK => ?_)
    aj
    refine hK.out _ _ (bh (by af)) (fun _ => ?_)
    try simp only [az, aA, aB]
    refine au.free (i := 12) (v := ?gv12b) rfl (by af) (fun _ _ _ h => h) (by rfl) (fun w => ?gy12b) (bh (by af)) ?gr12b
    case gy12b =>
     aj
     try ah rfl
    try simp only [Act.put, az, aA, aB]
    refine au.step (i := 13) rfl (by af) (fun K' hK => ?_)
    aj
    refine hK.out _ _ (bh (by af)) (fun _ => ?_)
    refine au.done (by af) ?_
    aa fail
    kK
    case rel =>
     have dx := fR.out
     simp only [List.length_map] at dx
     exact ⟨_, _, dx.1, dx.2⟩
  ·aj
   have kE : Hid (RS tb B0 _ (Wd.alloc (.cells #[.string nm] 9)) _ _ _ _ _ _) := tv.out.up (Up.alloc _ _)
   refine hK.out _ _ (fun _ => kE.out.cells cU.out) (fun _ => ?_)
   try simp only [az, aA, aB]
   refine au.step (i := 3) rfl (by af) (fun K' hK => ?_)
   aj
   have iQ : Hid (RS tb B0 _ ((Wd.alloc (.cells #[.string nm] 9)).alloc (.cells #[.int .i64 z] 3)) _ _ _ _ _ _) := kE.out.up (Up.alloc _ _)
   refine hK.out _ _ (fun _ => iQ.out.cells cU.out) (fun _ => ?_)
   try simp only [az, aA, aB]
   have nJ := bI (Wd.alloc (.cells #[.string nm] 9)) #[.int .i64 z] 3 0
   have o4 := (Up.alloc (Wd.alloc (.cells #[.string nm] 9)) (.cells #[.int .i64 z] 3)).cell (bI Wd #[.string nm] 9 0)
   rw [World.size_alloc] at nJ
   refine au.step (i := 4) rfl (by af) (fun K' hK => ?_)
   refine dK (by rfl) _ _ _ (by rfl) B0 3 _ 8 Tryz.underlying26 Tryz.gH (by rfl) (by decide) (by rfl) iQ.out.tl.bJ (.int .i64 z) (Wd.heap.size + 1) (by rfl) nJ (by rfl) (by rw [List.length_map]; exact ew.out.1) (Nat.le_trans iQ.out.lo.2 iQ.out.gk.size) ?_
   intro g1 DU gD lg gP lq _
   have fT : Hid (RS tb B0 _ gD _ _ _ _ _ _) := iQ.out.pI lg gP (lq.imp id (fun e => Nat.le_of_eq e.symm))
   have r9 : gD.cell? ⟨Wd.heap.size, 0, none⟩ = some (.string nm) := by
    rw [gP.cell_far ⟨Wd.heap.size, 0, none⟩ (by simp; omega) (fun e => absurd (aD tv.out.tl.bJ e.symm).2 (by show ¬ (Wd.heap.size < Wd.heap.size); omega))]; exact o4
   refine hK.out _ _ (fun _ => fT.out.cells cU.out) (fun _ => ?_)
   try simp only [Act.put, az, aA, aB]
   refine au.free (i := 10) (v := ?gv10c) rfl (by af) (fun _ _ _ h => h) (by rfl) (fun w => ?gy10c) (fun _ => fT.out.cells cU.out) ?gr10c
   case gy10c =>
    aj
    try ah rfl
   try simp only [Act.put, az, aA, aB]
   refine au.step (i := 9) rfl (by af) (fun K' hK => ?_)
   refine dK (by rfl) _ _ _ (by rfl) B0 9 _ 16 Tryz.underlying22 Tryz.lC (by rfl) (by decide) (by rfl) fT.out.tl.bW (.string nm) Wd.heap.size (by rfl) r9 (by rfl) (by rw [List.length_map]; exact ew.out.2) (Nat.le_trans fT.out.lo.2 fT.out.gk.size) ?_
   intro g2 zK eC ki jb kj _
   have fe : Hid (RS tb B0 _ eC _ _ _ _ _ _) := fT.out.ou ki jb (kj.imp id (fun e => Nat.le_of_eq e.symm))
   refine hK.out _ _ (fun _ => fe.out.cells cU.out) (fun _ => ?_)
   try simp only [Act.put, az, aA, aB]
   obtain ⟨tn, dS⟩ := fe.out.cells cU.out
   have zL := fe.out.frozen cU.out 0
   have ug := fe.out.frozen cU.out 1
   have fR := ag (fe.out.store zQ.out)
   refine au.step (i := 11) rfl (by af) (fun K' hK => ?_)
   aj
   refine hK.out _ _ (bh (by af)) (fun _ => ?_)
   try simp only [az, aA, aB]
   refine au.free (i := 12) (v := ?gv12c) rfl (by af) (fun _ _ _ h => h) (by rfl) (fun w => ?gy12c) (bh (by af)) ?gr12c
   case gy12c =>
    aj
    try ah rfl
   try simp only [Act.put, az, aA, aB]
   refine au.step (i := 13) rfl (by af) (fun K' hK => ?_)
   aj
   refine hK.out _ _ (bh (by af)) (fun _ => ?_)
   refine au.done (by af) ?_
   aa fail
   kK
   case rel =>
    have dx := fR.out
    simp only [List.length_map] at dx
    exact ⟨_, _, dx.1, dx.2⟩
 case rest =>
  obtain ⟨P2, N2, UX, Ud⟩ := Xf
  obtain ⟨d0, d1, _, _⟩ := UX.cells
  have e1 : (t.push z nm).ps.length = t.ps.length + 1 := by simp [aJ.push]
  obtain ⟨jZ, j0, rfl, _⟩ := UX.tl.bJ.form (n := t.ps.length + 1) (by simp [e1])
  have HF := ag (⟨_, _, UX, Ud⟩ : ∃ P' N', GS tb B0 wc P' N' (t.push z nm) ∧ GK tb w wc (.slice pp t.ps.length pc) (.slice np t.ps.length nc) P' N')
  have i1 : wrap64 ((((t.ps.length + 1 : Nat)) : Int) - 1) = (t.ps.length : Int) := by unfold wrap64; omega
  have i2 : wrap64 ((t.ps.length : Int) + 1 - 1) = (t.ps.length : Int) := by unfold wrap64; omega
  clear UX Ud e1 hc0 hc1
  aa fail
  ax
  exact ⟨aQ (by first | rfl | omega | simp), HF.out⟩
end
section
open Go.RowKit Go.Deep
set_option maxHeartbeats 1000000 in
theorem EM (S : Nat → Prop) (w : World) (bo bn br : Nat) (ov nv : Value) (own : List (List Int)) (jT : List Int) (x : Int) (m : Nat) (ho : w.cell? ⟨bo, 0, none⟩ = some ov) (hO : aR S w ov own) (hn : w.cell? ⟨bn, 0, none⟩ = some nv) (hN : an S w nv jT) (hr : w.cell? ⟨br, 0, none⟩ = some (.int .i64 2))
  (hm : m ≤ own.length) (hm2 : m ≤ jT.length) (eZ : ∀ k, k < m → gi jT k = ((3 + k : Nat) : Int)) (KH : own.length ≤ 1000) (hl : ∀ k, (gl own k).length ≤ 1000000) :
  Calls Tryz.prog 99 #[.int .i64 x, .int .i64 (m : Int), .pointer (some ⟨bo, 0, none⟩), .pointer (some ⟨bn, 0, none⟩), .pointer (some ⟨br, 0, none⟩)] w fun e w' => e = .returned (.int .i64 (lastQ own x m)) ∧ w = w' := by
 obtain ⟨op, oc, rfl, -, -⟩ := dF hO
 obtain ⟨np, nc, rfl, -, -⟩ := aC.open hN
 have HO : Hid (aR S w (.slice op own.length oc) own) := hO
 have HN : Hid (an S w (.slice np jT.length nc) jT) := hN
 have G1 := ag eZ
 have HL := ag hl
 have m1 : wrap64 ((m : Int) - 1) = (m : Int) - 1 := by unfold wrap64; omega
 clear hO hN eZ hl
 aq Tryz.func99, Tryz.ntmps99
 aa fail
 clear m1
 dD [8] (fun i => ∃ k : Nat, k ≤ m ∧ i = .int .i64 ((k : Int) - 1) ∧ Hid (lastQ own x m = lastQ own x k)) (fun i => (intOf i + 1).toNat)
 case atStart => exact ⟨m, Nat.le_refl _, rfl, rfl⟩
 case round =>
  obtain ⟨k, hk, rfl, hd⟩ := bE
  cases k with
  | zero =>
   have i0 : ¬ (0 : Int) ≤ ((0 : Nat) : Int) - 1 := by decide
   aa fail
   ax
   exact ⟨aQ hd.out.symm, rfl⟩
  | succ k =>
   obtain ⟨b, off, q, c, rfl, hc, hi⟩ := eX HO.out (show k < own.length by omega)
   obtain ⟨b2, off2, rfl, fJ⟩ := bV HN.out (show k < jT.length by omega)
   rw [G1.out k (by omega)] at fJ
   have BX : Hid (Calls Tryz.prog 17 #[.slice q (gl own k).length c, .int .i64 x] w fun e w' => e = .returned (.bool ((gl own k).contains x)) ∧ w = w') := by
    have h := uV S w _ (gl own k) x hi (HL.out k)
    rw [yB] at h; exact h
   have HQ : Hid (lastQ own x (k + 1) = if (gl own k).contains x then ((3 + k : Nat) : Int) else lastQ own x k) := rfl
   have e1 : ((k + 1 : Nat) : Int) - 1 = (k : Int) := by omega
   rw [e1]
   have k1 : (0 : Int) ≤ (k : Int) := Int.natCast_nonneg _
   have k2 : (k : Int) < (own.length : Int) := by omega
   have k3 : (k : Int) < (jT.length : Int) := by omega
   have k4 : wrap64 ((k : Int) - 1) = (k : Int) - 1 := by unfold wrap64; omega
   clear hi e1
   cases hct : (gl own k).contains x
   ·rw [hct] at BX HQ
    have PY : Hid (lastQ own x m = lastQ own x k) := by unfold Hid; rw [hd.out, HQ.out, if_neg (by decide)]
    clear hct
    aa fail
    refine BX.out.mono ?_
    rintro e w' ⟨rfl, rfl⟩
    aa fail
    cz
    case rel => exact ⟨k, by omega, rfl, PY⟩
    case measure => clear k4; simp [intOf]
   ·rw [hct] at BX HQ
    have PY : Hid (lastQ own x m = ((3 + k : Nat) : Int)) := by unfold Hid; rw [hd.out, HQ.out, if_pos rfl]
    clear hct k4
    aa fail
    refine BX.out.mono ?_
    rintro e w' ⟨rfl, rfl⟩
    aa fail
    ax
    exact ⟨aQ (by rw [PY.out]; omega), rfl⟩
end
section
open Go.RowKit Go.Deep
theorem Tryz.V5 : (Tryz.prog.info? 26).map (fun i => (i.zero, i.size, i.bytes)) = some (some (.slice none 0 0), 1, 24) := by af
def V6 (S : Nat → Prop) (w : World) (T : TypeId) (xs : List (List Int)) (en : Ending) (w' : World) : Prop :=
 Up w w' ∧ ∃ u vals, en = .returned u ∧ vals.length = xs.length ∧ ay w.heap.size T w' u vals ∧ ∀ i, i < xs.length → an S w' (vals.getD i undef) (gl xs i)
theorem Ta {S : Nat → Prop} {w : World} {n cap : Nat} {xs : List (List Int)} (h : aR S w (.slice none n cap) xs) : xs = [] := by
 obtain ⟨f, ⟨q, c, e, _, h⟩, _⟩ := h
 injection e with e1 e2 e3
 rcases h with h | ⟨b, off, h, _⟩
 ·exact List.eq_nil_of_length_eq_zero h
 ·rw [← e1] at h; cases h
theorem Qk {u : Value} (h : ∃ p n c, u = .slice p n c) : u.oneCell' = true := by obtain ⟨_, _, _, rfl⟩ := h; rfl
set_option maxHeartbeats 400000 in
theorem Iy (S : Nat → Prop) (w : World) (v : Value) (xs : List (List Int)) (h : aR S w v xs) (hn : xs.length ≤ 1000000) :
  Calls Tryz.prog 92 #[v] w (V6 S w 26 xs) := by
 obtain ⟨p, cap, rfl, hcap, _⟩ := dF h
 cases p with
 | none =>
  obtain rfl := Ta h
  have heq := fun (w : World) => Lib.run_eql_slice_nil (P := Tryz.prog) w 23 26 none 0 cap 0 0 Tryz.underlying23
  clear h
  aq Tryz.func92, Tryz.ntmps92
  aa fail
  ax
  exact ⟨Up.refl _, _, [], rfl, rfl, ay.nil _ _ _, fun i hi => absurd hi (Nat.not_lt_zero _)⟩
 | some p =>
  have heq := fun (w : World) => Lib.run_eql_slice_nil (P := Tryz.prog) w 23 26 (some p) xs.length cap 0 0 Tryz.underlying23
  have hu := Up.alloc w (.cells #[] 26)
  obtain ⟨f, jV, hr⟩ := h
  obtain ⟨q, c, e, _, H⟩ := aC.open (aC.keep jV (hu.kept S))
  injection e with e1 e2 e3
  subst e1
  have hnl : ((List.range xs.length).map f).length = xs.length := by simp
  have hnews : ∀ j u, ((List.range xs.length).map f)[j]? = some u → (w.alloc (.cells #[] 26)).cell? (p.add j) = some u := fun j u hj => by
   have hj2 : j < xs.length := by
    have := (List.getElem?_eq_some_iff.1 hj).1
    simpa using this
   obtain ⟨b, off, e, hc⟩ := H j hj2
   injection e with e
   subst e
   have Fw : (⟨b, off, none⟩ : Addr).add j = ⟨b, off + j, none⟩ := by unfold Addr.add; split <;> vt
   rw [Fw, hc]
   simp [hj2] at hj; rw [hj]
  have hone : ∀ u ∈ (List.range xs.length).map f, u.oneCell' = true := fun u aL => by
   obtain ⟨k, hk, rfl⟩ := List.mem_map.1 aL
   obtain ⟨p', c', e', _⟩ := hr k (List.mem_range.1 hk)
   exact Qk ⟨_, _, _, e'⟩
  have HU := ag hu
  have HN := ag hnews
  have HO := ag hone
  have qu := ag hnl
  have HR := ag hr
  have HM := ag (ay.made w 26)
  clear jV hr H hnews hu hone hnl e2 e3
  aq Tryz.func92, Tryz.ntmps92
  aa (bR; refine Jw _ rfl _ _ 23 rfl w.heap.size 26 (.slice none 0 0) 24 Tryz.underlying23 Tryz.V5 rfl (by decide) HM.out rfl p cap ((List.range xs.length).map f) (by rw [qu.out]; rfl) HN.out HO.out (by rw [qu.out]; simp; omega) (by simp) ?_; intro v' w' hown' hgrow hbel)
  ax
  have bG : Up w w' := Below.trans HU.out hbel
  refine ⟨bG, _, (List.range xs.length).map f, rfl, qu.out, by simpa using hown', fun i hi => ?_⟩
  have e : ((List.range xs.length).map f).getD i undef = f i := by simp [hi]
  rw [e]; exact (HR.out i hi).keep (bG.kept S)
end
end Go.Proofs.YtpnmblnahjjmhaaGreat
