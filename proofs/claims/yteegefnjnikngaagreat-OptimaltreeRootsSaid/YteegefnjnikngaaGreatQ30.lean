/- strings.IndexRune: a rune above ASCII is not among the four signs. The contracts of layer .. -/
import Derived.Test.YteegefnjnikngaaGreatQ1
import Derived.Test.YteegefnjnikngaaGreatQ29
import Derived.Test.YteegefnjnikngaaGreatQ2
import Derived.Test.YteegefnjnikngaaGreatQ15
import Derived.Test.YteegefnjnikngaaGreatQ7
import Derived.Laws.RangeAny
import Derived.WalkMore
import Derived.Shelf.Small.Utf8
import Derived.Shelf.Small.Strs
import Derived.Test.YteegefnjnikngaaGreatQ26
import Derived.Test.YteegefnjnikngaaGreatQ28
set_option maxRecDepth 100000
namespace Go.Proofs.YteegefnjnikngaaGreat
section
open Go.RowKit Go.Deep
def kW : ByteArray := ⟨#[40, 41, 44, 59]⟩
theorem UZ : ∀ i, (h : i < 4) → (kW[i]'h).toNat < 128 := by decide +kernel
theorem Wx (j : Nat) {b : UInt8} (h : 128 ≤ b.toNat) : Lib.indexByte ((kW.extract j 4).data.toList) b = -1 := by
 have key : ∀ l : List UInt8, b ∉ l → Lib.indexByte l b = -1 := fun l => by
  induction l with
  | nil => intro _; rfl
  | cons a l ih =>
   intro hm
   have h1 : a ≠ b := fun e => hm (by rw [e]; exact List.mem_cons_self)
   have h2 := ih fun h => hm (List.mem_cons_of_mem _ h)
   rw [Lib.indexByte, if_neg (by simpa using h1), h2]; rfl
 refine key _ fun hm => ?_
 rw [ByteArray.data_extract, Array.toList_extract] at hm
 have hm2 : b ∈ kW.data.toList := List.mem_of_mem_drop (List.mem_of_mem_take hm)
 have hall : ∀ x ∈ kW.data.toList, x.toNat < 128 := by decide +kernel
 have := hall b hm2
 omega
def Tb (s : ByteArray) : Prop := ∃ n : Nat, ∃ lb : UInt8, ∃ hs : s.size = n + 1, 1 ≤ n ∧ n ≤ 3 ∧ 128 ≤ lb.toNat ∧ s[n]'(by omega) = lb
theorem Tc (r : Int) (h : 128 ≤ r) : Tb (Utf8.encode r) := by
 obtain ⟨c, hcd⟩ : ∃ c, c = if Utf8.valid r then r.toNat else Utf8.runeError := ⟨_, rfl⟩
 have hc : 128 ≤ c := by
  rw [hcd]
  split
  ·omega
  ·decide
 have hl : ∀ c : Nat, 128 ≤ (UInt8.ofNat (0x80 + c % 64)).toNat := fun c => by
  rw [UInt8.toNat_ofNat']; omega
 by_cases h1 : c < 0x800
 ·have he : ∃ b0, Utf8.encode r = ⟨#[b0, UInt8.ofNat (0x80 + c % 64)]⟩ := by
   unfold Utf8.encode
   simp only [← hcd, if_neg (show ¬ c < 0x80 by omega), if_pos h1]
   exact ⟨_, rfl⟩
  obtain ⟨b0, he⟩ := he
  rw [he]
  exact ⟨1, _, rfl, by omega, by omega, hl c, rfl⟩
 ·by_cases h2 : c < 0x10000
  ·have he : ∃ b0 b1, Utf8.encode r = ⟨#[b0, b1, UInt8.ofNat (0x80 + c % 64)]⟩ := by
    unfold Utf8.encode
    simp only [← hcd, if_neg (show ¬ c < 0x80 by omega), if_neg h1, if_pos h2]
    exact ⟨_, _, rfl⟩
   obtain ⟨b0, b1, he⟩ := he
   rw [he]
   exact ⟨2, _, rfl, by omega, by omega, hl c, rfl⟩
  ·have he : ∃ b0 b1 b2, Utf8.encode r = ⟨#[b0, b1, b2, UInt8.ofNat (0x80 + c % 64)]⟩ := by
    unfold Utf8.encode
    simp only [← hcd, if_neg (show ¬ c < 0x80 by omega), if_neg h1, if_neg h2]
    exact ⟨_, _, _, rfl⟩
   obtain ⟨b0, b1, b2, he⟩ := he
   rw [he]
   exact ⟨3, _, rfl, by omega, by omega, hl c, rfl⟩
set_option maxHeartbeats 4000000 in
theorem Jf (w : World) (r : Int) (h : 128 ≤ r) (h2 : r ≤ 2147483647) :
  Calls Tryz.prog 232 #[.string kW, .int .i32 r] w fun e w' => e = .returned (.int .i64 (-1)) ∧ Up w w' := by
 have d1 : decide ((0 : Int) ≤ r) = true := decide_eq_true (by omega)
 have d2 : decide (r < (128 : Int)) = false := decide_eq_false (by omega)
 have HVR := aa (fun W => Go.Proofs.Any.utf8_ValidRune (ρ := Tryz.idxA_ren) { Tryz.idxA with } r W)
 by_cases h3 : r = 65533
 ·have d3 : (r == (65533 : Int)) = true := by simp [h3]
  clear h3
  go_enter Tryz.func232, Tryz.ntmps232
  go_wp2_with fail
  go_loopg [5, 6] 4 (fun g _ _ wx => ∃ i : Nat, i + g = 4 ∧ wx = w.iter kW i)
  case atStart => exact ⟨0, rfl, rfl⟩
  case round =>
   obtain ⟨i, hig, rfl⟩ := hrel
   cases gk with
   | zero =>
    obtain rfl : i = 4 := by omega
    have hnx := fun ty => run_next_end (P := Tryz.prog) w kW 4 ty (by decide)
    go_wp2_with fail
    go_ret
    exact ⟨rfl, Up.alloc _ _⟩
   | succ g =>
    have hi : i < 4 := by omega
    have hlt := UZ i hi
    have hnx := fun ty => run_next_ascii (P := Tryz.prog) w kW i ty hi hlt
    generalize (kW[i]'hi).toNat = x at *
    have d4 : ((x : Int) == 65533) = false := by simp; omega
    go_wp2_with fail
    go_roundg g
    case measure => omega
    case rel => exact ⟨i + 1, by omega, rfl⟩
 ·have d3 : (r == (65533 : Int)) = false := by simp [h3]
  clear h3
  obtain ⟨n, lb, sr, n1, n3, hlb, hix0⟩ := Tc r h
  go_enter Tryz.func232, Tryz.ntmps232
  go_wp2_with fail
  refine (HVR.out _).mono ?_
  rintro e w2 ⟨rfl, rfl⟩
  cases hv : Lib.validRune r
  ·go_wp2_with fail
   go_ret
   exact ⟨rfl, Up.refl _⟩
  ·go_wp2_with fail
   have hsz : ((Utf8.encode r).size : Int) = (n : Int) + 1 := by omega
   have hsz0 := hsz
   obtain ⟨nd, fk⟩ : ∃ nd, nd = Utf8.encode r := ⟨_, rfl⟩
   have hlt : n < nd.size := by rw [fk]; omega
   have hidx : nd[n]'hlt = lb := by subst fk; exact hix0
   rw [← fk] at hsz
   have i3 : (n : Int) < (nd.size : Int) := by omega
   have i1 : (n : Int) < 4 := by omega
   have i2 : (0 : Int) ≤ (n : Int) := by omega
   have Td : n < 4 := by omega
   have w1 : wrap64 (n : Int) = (n : Int) := by unfold wrap64; omega
   have w2a : (n : Int) < (n : Int) + 1 := by omega
   have w3a : IntKind.i64.wrap ((n : Int) + 1) = (n : Int) + 1 := by rw [IntKind.wrap_i64]; omega
   have w3b : ((n : Int) + 1).toNat = n + 1 := by omega
   have w3c : (0 : Int) ≤ (n : Int) + 1 := by omega
   have w3d : (n : Int) + 1 ≤ 4 := by omega
   obtain ⟨cx, qw⟩ : ∃ cx, cx = kW[n]'Td := ⟨_, rfl⟩
   have hcx1 : cx.toNat < 128 := by rw [qw]; exact UZ n Td
   have d5 : (((kW[n]'Td).toNat : Int) != (lb.toNat : Int)) = true := by rw [← qw]; simp; omega
   have HIB := aa (fun W => Go.Proofs.Any.strings_IndexByte (ρ := Tryz.idxA_ren) { Tryz.idxA with } (kW.extract (n + 1) 4) (lb.toNat : Int) W)
   have hback : ((lb.toNat : Int)).toNat.toUInt8 = lb := by simp
   rw [hback, Wx (n + 1) hlb] at HIB
   have hsg : (kW.size : Int) = 4 := rfl
   have hsg2 : kW.size = 4 := rfl
   have Fo := aa fk
   clear hix0 sr qw fk
   go_step3
   go_wp2_with fail
   rw [← Fo.out]
   clear Fo
   go_loop [9, 10, 11, 12] (fun i f _ _ => i = .int .i64 n ∧ f = .int .i64 0) (fun _ _ _ _ => 0)
   case atStart => exact ⟨rfl, rfl⟩
   case round =>
    obtain ⟨rfl, rfl⟩ := hrel
    go_wp2_with fail
    go_step3
    go_wp2_with fail
    refine cU (by kernel_rfl) 7 (fun _ => True) trivial (fun hS => ?_)
    simp only [List.size_toArray, List.length_cons, List.length_nil, Nat.reduceAdd, Array.replicate_succ, Array.replicate_zero, List.push_toArray, List.nil_append, List.cons_append]
    refine af.take (i := 0) (v := ?qc) rfl (by kernel_rfl) (fun _ _ _ h => h) (by rfl) (fun w hSw => ?gp) hS ?qd
    case gp =>
     (try dsimp only at hSw)
     go_simp
     try with_reducible rfl
    try simp only [Act.put, aq, ah, au]
    refine af.take (i := 1) (v := ?qf) rfl (by kernel_rfl) (fun _ _ _ h => h) (by rfl) (fun w hSw => ?gq) hS ?qg
    case gq =>
     (try dsimp only at hSw)
     go_simp
     try with_reducible rfl
    try simp only [Act.put, aq, ah, au]
    refine af.take (i := 2) (v := ?rG) rfl (by kernel_rfl) (fun _ _ _ h => h) (by rfl) (fun w hSw => ?gN) hS ?rH
    case gN =>
     (try dsimp only at hSw)
     go_simp
     try with_reducible rfl
    try simp only [Act.put, aq, ah, au]
    refine af.take (i := 3) (v := ?rI) rfl (by kernel_rfl) (fun _ _ _ h => h) (by rfl) (fun w hSw => ?gO) hS ?rJ
    case gO =>
     (try dsimp only at hSw)
     go_simp
     try with_reducible rfl
    try simp only [Act.put, aq, ah, au]
    refine af.take (i := 4) (v := ?rK) rfl (by kernel_rfl) (fun _ _ _ h => h) (by rfl) (fun w hSw => ?gP) hS ?rL
    case gP =>
     (try dsimp only at hSw)
     go_simp
     try with_reducible rfl
    try simp only [Act.put, aq, ah, au]
    refine af.take (i := 5) (v := ?rM) rfl (by kernel_rfl) (fun _ _ _ h => h) (by rfl) (fun w hSw => ?gQ) hS ?rN
    case gQ =>
     (try dsimp only at hSw)
     go_simp
     try with_reducible rfl
    try simp only [Act.put, aq, ah, au]
    refine af.step (i := 6) rfl (by kernel_rfl) (fun K' hK => ?_)
    go_simp
    refine hK.out _ _ (aJ (by kernel_rfl)) (fun hS => ?_)
    refine af.done (by kernel_rfl) ?_
    go_wp2_with fail
    refine cU (by kernel_rfl) 9 (fun _ => True) trivial (fun hS => ?_)
    simp only [List.size_toArray, List.length_cons, List.length_nil, Nat.reduceAdd, Array.replicate_succ, Array.replicate_zero, List.push_toArray, List.nil_append, List.cons_append]
    refine af.take (i := 0) (v := ?U0) rfl (by kernel_rfl) (fun _ _ _ h => h) (by rfl) (fun w hSw => ?CB) hS ?U1
    case CB =>
     (try dsimp only at hSw)
     go_simp
     try with_reducible rfl
    try simp only [Act.put, aq, ah, au]
    refine af.take (i := 1) (v := ?U2) rfl (by kernel_rfl) (fun _ _ _ h => h) (by rfl) (fun w hSw => ?CC) hS ?U3
    case CC =>
     (try dsimp only at hSw)
     go_simp
     try with_reducible rfl
    try simp only [Act.put, aq, ah, au]
    refine af.take (i := 2) (v := ?U4) rfl (by kernel_rfl) (fun _ _ _ h => h) (by rfl) (fun w hSw => ?CD) hS ?U5
    case CD =>
     (try dsimp only at hSw)
     go_simp
     try with_reducible rfl
    try simp only [Act.put, aq, ah, au]
    refine af.take (i := 3) (v := ?U6) rfl (by kernel_rfl) (fun _ _ _ h => h) (by rfl) (fun w hSw => ?CE) hS ?U7
    case CE =>
     (try dsimp only at hSw)
     go_simp
     try with_reducible rfl
    try simp only [Act.put, aq, ah, au]
    refine af.take (i := 4) (v := ?U8) rfl (by kernel_rfl) (fun _ _ _ h => h) (by rfl) (fun w hSw => ?CF) hS ?U9
    case CF =>
     (try dsimp only at hSw)
     go_simp
     try with_reducible rfl
    try simp only [Act.put, aq, ah, au]
    refine af.take (i := 5) (v := ?Va) rfl (by kernel_rfl) (fun _ _ _ h => h) (by rfl) (fun w hSw => ?CG) hS ?Vb
    case CG =>
     (try dsimp only at hSw)
     go_simp
     try with_reducible rfl
    try simp only [Act.put, aq, ah, au]
    refine af.take (i := 6) (v := ?gv6k2) rfl (by kernel_rfl) (fun _ _ _ h => h) (by rfl) (fun w hSw => ?Np) hS ?gr6k2
    case Np =>
     (try dsimp only at hSw)
     go_simp
     try with_reducible rfl
    try simp only [Act.put, aq, ah, au]
    refine af.step (i := 7) rfl (by kernel_rfl) (fun K' hK => ?_)
    go_simp
    refine (HIB.out _).mono ?_
    rintro e w4 ⟨rfl, rfl⟩
    refine hK.out _ _ (fun _ => trivial) (fun hS => ?_)
    try simp only [aq, ah, au]
    refine af.step (i := 8) rfl (by kernel_rfl) (fun K' hK => ?_)
    go_simp
    refine hK.out _ _ (aJ (by kernel_rfl)) (fun hS => ?_)
    refine af.done (by kernel_rfl) ?_
    go_wp2_with fail
    simp +zetaDelta only [Exit.noGoto, Exit.inBlock, Exit.then]
    refine bodyPost_ret (results_tmp rfl _ _ _) rfl ?_
    exact ⟨rfl, (Up.drewN _ 1).trans (Up.drewN _ 1)⟩
end
section
open Go.RowKit Go.Deep
def bL (l : List UInt8) : ByteArray := ⟨l.toArray⟩
theorem LQ (l : List UInt8) : (bL l).data.toList = l := rfl
theorem Wy (s : ByteArray) : bL s.data.toList = s := fc (by rw [LQ])
theorem yU (a b : List UInt8) : bL a ++ bL b = bL (a ++ b) := fc (by rw [ByteArray.data_append, Array.toList_append]; rfl)
def vF (ks : List RT) (j : Nat) : List UInt8 := if j = 0 then [40] else gF (ks.take j)
theorem LR {ks : List RT} (h : 0 < ks.length) : vF ks 0 ++ txR (gr ks 0) = vF ks (0 + 1) := by
 cases ks with
 | nil => simp at h
 | cons k ks =>
  show [40] ++ txR k = gF [k]
  rw [gF, txRs, List.append_nil]; rfl
theorem Jg {ks : List RT} {j : Nat} (h : j < ks.length) (h0 : j ≠ 0) : vF ks j ++ [44] ++ txR (gr ks j) = vF ks (j + 1) := by
 have hg : gr ks j = ks[j] := by simp [gr, h]
 unfold vF
 rw [if_neg h0, if_neg (by omega), List.take_succ_eq_append_getElem h, zu, hg, List.length_take, if_neg (by omega)]
 simp
theorem Wz {ks : List RT} (nm : ByteArray) (h : ks ≠ []) : vF ks ks.length ++ [41] = txR (.node nm ks) := by
 unfold vF
 rw [if_neg (fun e => h (List.eq_nil_of_length_eq_zero e)), List.take_length, sY nm h]
theorem zB (l : List UInt8) : (bL l).size = l.length := by rw [← size_data, LQ]
theorem LS {ks : List RT} (nm : ByteArray) (h : ks ≠ []) (j : Nat) : (vF ks j).length + 1 ≤ (txR (.node nm ks)).length := by
 rw [sY nm h, List.length_append, List.length_singleton]
 unfold vF
 split
 ·cases ks with
  | nil => exact absurd rfl h
  | cons k ks => rw [gF]; simp
 ·have := yI ks j; omega
theorem LU {ks : List RT} (nm : ByteArray) {j : Nat} (h : j < ks.length) : (txR (gr ks j)).length + 1 ≤ (txR (.node nm ks)).length := by
 have h0 : ks ≠ [] := fun e => by rw [e] at h; simp at h
 have h1 := LS nm h0 (j + 1)
 by_cases e : j = 0
 ·subst e
  rw [← LR h, List.length_append] at h1; omega
 ·rw [← Jg h e, List.length_append] at h1; omega
set_option maxHeartbeats 2000000 in
theorem Ql (S : Nat → Prop) : ∀ (d : Nat) (r : RT), aI r ≤ d → d ≤ 1000000 → (txR r).length ≤ 5000000 → ∀ (w : World) (v : Value), RAt S w r v → Calls Tryz.prog 214 #[v] w fun e w' => e = .returned (.string (bL (txR r))) ∧ w = w' := by
 intro d
 induction d with
 | zero => intro r hr; have := gW r; omega
 | succ d ih =>
 intro r hr hd htl w v hv
 cases r with
 | node nm ks =>
  obtain ⟨b, kp, kc, vs, rfl, hS, c0, c1, hk, hs⟩ := hv.open
  simp only [RT.nm, RT.kids] at c0 c1 hk hs
  have dY := oy ks
  rw [aI] at hr
  have iG : Hid (∀ j, j < ks.length → Calls Tryz.prog 214 #[vN vs j] w fun e w' => e = .returned (.string (bL (txR (gr ks j)))) ∧ w = w') := fun j hj => by
   have := rW hj
   have h2 := LU nm hj
   exact ih _ (by omega) (by omega) (by omega) w _ (RsAt.get ks hs j hj)
  have HK := aa hk
  clear ih hv hS hs hk
  by_cases h0 : ks = []
  ·subst h0
   have E6 : bL (txR (.node nm [])) = nm := by rw [wM, Wy]
   rw [E6]
   clear hr E6
   go_enter Tryz.func214, Tryz.ntmps214
   go_wp2_with fail
   go_ret
   exact ⟨rfl, rfl⟩
  ·have hpos : 0 < ks.length := List.length_pos_iff.2 h0
   have d0 : ((ks.length : Int) == 0) = false := beq_eq_false_iff_ne.2 (by omega)
   have kr : Hid (ks.length ≤ 1000000) := by unfold Hid; omega
   have HALL := aa (Wz nm h0)
   have HONE := aa (LR hpos)
   have uj : Hid (∀ j, (bL (vF ks j)).size + 1 ≤ 5000000) := fun j => by have := LS nm h0 j; rw [zB]; omega
   have iT : Hid (∀ j, j < ks.length → (bL (txR (gr ks j))).size + 1 ≤ 5000000) := fun j hj => by have := LU nm hj; rw [zB]; omega
   have oL : Hid (∀ j, j < ks.length → j ≠ 0 → vF ks j ++ [44] ++ txR (gr ks j) = vF ks (j + 1)) := fun j h1 h2 => Jg h1 h2
   clear hr h0 dY htl
   go_enter Tryz.func214, Tryz.ntmps214
   go_wp2_with fail
   go_loop [3, 4] (fun s i => ∃ j : Nat, j ≤ ks.length ∧ i = .int .i64 j ∧ s = .string (bL (vF ks j))) (fun _ i => ks.length - (intOf i).toNat)
   case atStart => exact ⟨0, Nat.zero_le _, rfl, rfl⟩
   case round =>
    obtain ⟨j, hj, rfl, rfl⟩ := hrel
    by_cases hlt : j < ks.length
    ·obtain ⟨kb, ko, rfl, xx⟩ := oo HK.out hlt
     have HJ := aa (iG.out j hlt)
     have i1 : (0 : Int) ≤ (j : Int) := by omega
     have i2 : (j : Int) < (ks.length : Int) := by omega
     have aY := aa hlt
     have z1 := uj.out j
     have z2 := iT.out j hlt
     have i3 : (j : Int) < 1000000 := by have := kr.out; omega
     clear hlt hj
     by_cases e0 : j = 0
     ·subst e0
      rw [Nat.add_zero] at xx
      go_wp2_with fail
      refine HJ.out.mono ?_
      rintro e w' ⟨rfl, rfl⟩
      go_wp2_with fail
      go_round
      case rel => exact ⟨1, aY.out, rfl, by rw [yU, HONE.out]⟩
      case measure => have := aY.out; simp [intOf]; omega
     ·have d1 : decide ((0 : Int) < (j : Int)) = true := decide_eq_true (by omega)
      have HE0 := aa e0
      have e0n : 0 < j := by omega
      clear e0
      go_wp2_with fail
      refine HJ.out.mono ?_
      rintro e w' ⟨rfl, rfl⟩
      go_wp2_with fail
      go_round
      case rel => exact ⟨j + 1, aY.out, by go_num, by rw [← oL.out j aY.out HE0.out, ← yU, ← yU]; rfl⟩
      case measure => have := aY.out; simp [intOf]; omega
    ·obtain rfl : j = ks.length := by omega
     have z1 := uj.out ks.length
     clear hlt hj
     go_wp2_with fail
     go_ret
     exact ⟨by rw [← HALL.out, ← yU]; rfl, rfl⟩
set_option maxHeartbeats 2000000 in
theorem Nq (S : Nat → Prop) (w : World) (v : Value) (t : ax) (hT : aC S w v t) (hp : t.ps.length ≤ 1000000) (hn : t.ns.length ≤ 1000000) (hz : ∀ k, (gs t.ns k).size ≤ 70000) : Calls Tryz.prog 155 #[v] w (Cz w t) := by
 obtain ⟨P, N, rfl, hP, hN⟩ := hT
 have hu := Up.alloc w (.cells #[P, N] 39)
 have kz : aC S (w.alloc (.cells #[P, N] 39)) (.agg #[P, N]) t := aC.keep ⟨P, N, rfl, hP, hN⟩ (hu.kept _)
 have fA := aa (vY S _ _ t kz hp hn hz)
 have HT := aa kz
 have HU := aa hu
 have fB := aa (ew w P N 39)
 have jN := aa (ey w P N 39)
 have hc0 := fB.out
 have hc1 := jN.out
 clear hu kz hP hN
 go_enter Tryz.func155, Tryz.ntmps155
 go_wp2_with fail
 generalize w.alloc (.cells #[P, N] 39) = w1 at *
 refine fA.out.mono ?_
 rintro e w2 ⟨rfl, hb2⟩
 have aK : Up w1 w2 := hb2
 have hc0 := aK.cell fB.out
 have hc1 := aK.cell jN.out
 have q9 := aa (HT.out.keep (aK.kept S))
 have bH := aa (HU.out.trans aK)
 clear hb2 aK fA HT HU fB jN
 by_cases he : az t = 0
 ·have HE := aa he
  rw [he]
  have vw := aa (Lt S t he (bY t 0) 0 (Nat.le_refl _) (aH he).1 w2 _ q9.out)
  have UQ := aa (EW he)
  have htl := LN he hz
  have eT : Hid ((txR (dU t)).length ≤ 5000000) := by unfold Hid; omega
  have hz1 : (bL (txR (dU t))).size ≤ 5000000 := by rw [zB]; omega
  clear htl
  have HX : Hid (bL (txR (dU t)) ++ bL [59] = bL (ug t)) := by unfold Hid ug; rw [yU, if_neg (by simp [he])]
  have LO : Hid (xL t = 0) := by unfold Hid xL; rw [if_neg (by simp [he])]
  clear he
  go_wp2_with fail
  refine vw.out.mono ?_
  rintro e w3 ⟨cF, v3, rfl, hr3⟩
  have dS := aa (bH.out.trans cF)
  have HTX := aa (Ql _ 64 (dU t) UQ.out (by omega) eT.out w3 _ hr3)
  clear cF hr3 vw
  go_wp2_with fail
  refine HTX.out.mono ?_
  rintro e w4 ⟨rfl, rfl⟩
  go_wp2_with fail
  refine ⟨rfl, .tuple #[.string (bL (ug t)), .int .i64 0], ?_, dS.out, by rw [LO.out]; rfl⟩
  rw [← HX.out]
  simp [results, Tryz.results155, go_sem]
  rfl
 ·have Ae : (az t != 0) = true := by simpa using he
  have HX : Hid (ug t = []) := by unfold Hid ug; rw [if_pos he]
  have LO : Hid (xL t = 1) := by unfold Hid xL; rw [if_pos he]
  clear he
  generalize az t = te at Ae ⊢
  go_wp2_with fail
  exact ⟨rfl, .tuple #[.string ⟨#[]⟩, .int .i64 1], by simp [results, Tryz.results155, go_sem], bH.out, by rw [LO.out, HX.out]⟩
end
section
def nmLen : List UInt8 → Nat
 | [] => 0
 | c :: s => if c ∈ bM then 0 else nmLen s + 1
theorem Bf : ∀ s : List UInt8, nmLen s ≤ s.length
 | [] => Nat.le_refl _
 | c :: s => by
  rw [nmLen, List.length_cons]
  have := Bf s
  split <;> omega
theorem CH : ∀ (s : List UInt8), ∀ c ∈ s.take (nmLen s), c ∉ bM
 | [], c, h => by simp at h
 | d :: s, c, h => by
  rw [nmLen] at h
  split at h
  ·simp at h
  ·rw [List.take_succ_cons, List.mem_cons] at h
   rcases h with rfl | h
   ·assumption
   ·exact CH s c h
theorem Fq : ∀ (n : List UInt8) (d : UInt8) (s : List UInt8), (∀ c ∈ n, c ∉ bM) → d ∈ bM → nmLen (n ++ d :: s) = n.length
 | [], d, s, _, hd => by rw [List.nil_append, nmLen, if_pos hd]; rfl
 | c :: n, d, s, h, hd => by
  rw [List.cons_append, nmLen, if_neg (h c (by simp)), Fq n d s (fun x hx => h x (by simp [hx])) hd]; rfl
mutual
def rdN : Nat → List UInt8 → Option (RT × List UInt8)
 | 0, _ => none
 | _ + 1, [] => none
 | f + 1, c :: s => if c = 40 then rdK f [] s else if nmLen (c :: s) = 0 then none else some (.node ⟨((c :: s).take (nmLen (c :: s))).toArray⟩ [], (c :: s).drop (nmLen (c :: s)))
def rdK : Nat → List RT → List UInt8 → Option (RT × List UInt8)
 | 0, _, _ => none
 | f + 1, ks, s => match rdN f s with
  | none => none
  | some (_, []) => none
  | some (k, d :: s2) => if d = 41 then some (.node ByteArray.empty (ks ++ [k]), s2) else if d = 44 then rdK f (ks ++ [k]) s2 else none
end
mutual
theorem zC : ∀ (f : Nat) (s : List UInt8) (r : RT) (l : List UInt8), rdN f s = some (r, l) → l.length < s.length
 | 0, s, r, l, h => by rw [rdN] at h; cases h
 | f + 1, [], r, l, h => by rw [rdN] at h; cases h
 | f + 1, c :: s, r, l, h => by
  rw [rdN] at h
  split at h
  ·have := LV f [] s r l h
   rw [List.length_cons]; omega
  ·split at h
   ·cases h
   ·injection h with h
    injection h with h1 h2
    subst h2
    rw [List.length_drop]
    have := Bf (c :: s)
    rw [List.length_cons] at this ⊢
    omega
theorem LV : ∀ (f : Nat) (ks : List RT) (s : List UInt8) (r : RT) (l : List UInt8), rdK f ks s = some (r, l) → l.length < s.length
 | 0, ks, s, r, l, h => by rw [rdK] at h; cases h
 | f + 1, ks, s, r, l, h => by
  rw [rdK] at h
  split at h
  ·cases h
  ·cases h
  ·rename_i k d s2 e
   have h1 := zC f s k (d :: s2) e
   rw [List.length_cons] at h1
   split at h
   ·injection h with h
    injection h with _ h
    subst h; omega
   ·split at h
    ·have := LV f _ s2 r l h
     omega
    ·cases h
end
theorem DI : ∀ (f g : Nat), (∀ s : List UInt8, 2 * s.length < f → 2 * s.length < g → rdN f s = rdN g s) ∧ (∀ (ks : List RT) (s : List UInt8), 2 * s.length + 1 < f → 2 * s.length + 1 < g → rdK f ks s = rdK g ks s)
 | 0, _ => ⟨fun s h => by omega, fun ks s h => by omega⟩
 | f + 1, 0 => ⟨fun s _ h => by omega, fun ks s _ h => by omega⟩
 | f + 1, g + 1 => by
  obtain ⟨h1, h2⟩ := DI f g
  refine ⟨fun s a b => ?_, fun ks s a b => ?_⟩
  ·cases s with
   | nil => rw [rdN, rdN]
   | cons c s =>
    rw [List.length_cons] at a b
    rw [rdN, rdN]
    split
    ·exact h2 [] s (by omega) (by omega)
    ·rfl
  ·rw [rdK, rdK, h1 s (by omega) (by omega)]
   cases e : rdN g s with
   | none => rfl
   | some q =>
    obtain ⟨k, l⟩ := q
    cases l with
    | nil => rfl
    | cons d s2 =>
     have := zC g s k _ e
     rw [List.length_cons] at this
     show (if d = 41 then _ else if d = 44 then _ else _) = (if d = 41 then _ else if d = 44 then _ else _)
     split
     ·rfl
     ·split
      ·exact h2 _ _ (by omega) (by omega)
      ·rfl
def gG (s : List UInt8) : Option (RT × List UInt8) := rdN (2 * s.length + 1) s
def s9 (ks : List RT) (s : List UInt8) : Option (RT × List UInt8) := rdK (2 * s.length + 2) ks s
theorem Jh (s : List UInt8) : gG (40 :: s) = s9 [] s := by
 unfold gG s9
 rw [rdN, if_pos rfl]
 exact (DI _ _).2 _ _ (by simp; omega) (by simp)
theorem iB {c : UInt8} (s : List UInt8) (h : c ≠ 40) : gG (c :: s) = if nmLen (c :: s) = 0 then none else some (.node ⟨((c :: s).take (nmLen (c :: s))).toArray⟩ [], (c :: s).drop (nmLen (c :: s))) := by
 unfold gG
 rw [rdN, if_neg h]
theorem Ji (ks : List RT) (s : List UInt8) : s9 ks s = match gG s with
  | none => none
  | some (_, []) => none
  | some (k, d :: s2) => if d = 41 then some (.node ByteArray.empty (ks ++ [k]), s2) else if d = 44 then s9 (ks ++ [k]) s2 else none := by
 unfold s9 gG
 rw [rdK]
 cases e : rdN (2 * s.length + 1) s with
 | none => rfl
 | some q =>
  obtain ⟨k, l⟩ := q
  cases l with
  | nil => rfl
  | cons d s2 =>
   have := zC _ s k _ e
   rw [List.length_cons] at this
   show (if d = 41 then _ else if d = 44 then _ else _) = (if d = 41 then _ else if d = 44 then _ else _)
   split
   ·rfl
   ·split
    ·exact (DI _ _).2 _ _ (by omega) (by omega)
    ·rfl
theorem DJ : ∀ (f : Nat), (∀ (s : List UInt8) (r : RT) (l : List UInt8), rdN f s = some (r, l) → s = txR r ++ l ∧ lz r) ∧ (∀ (ks : List RT) (s : List UInt8) (r : RT) (l : List UInt8), rdK f ks s = some (r, l) → ∃ k yO, r = .node ByteArray.empty (ks ++ k :: yO) ∧ s = txR k ++ txRs yO ++ 41 :: l ∧ ∀ q ∈ k :: yO, lz q)
 | 0 => ⟨fun s r l h => (by rw [rdN] at h; cases h), fun ks s r l h => (by rw [rdK] at h; cases h)⟩
 | f + 1 => by
  obtain ⟨h1, h2⟩ := DJ f
  refine ⟨fun s r l h => ?_, fun ks s r l h => ?_⟩
  ·cases s with
   | nil => rw [rdN] at h; cases h
   | cons c s =>
    rw [rdN] at h
    split at h
    ·rename_i hc
     obtain ⟨k, yO, rfl, h4, h5⟩ := h2 [] s r l h
     refine ⟨?_, I7 rfl (by simp) (by simpa using h5)⟩
     rw [List.nil_append, txR, hc, h4]; simp
    ·split at h
     ·cases h
     ·rename_i hc hn
      injection h with h
      injection h with h3 h4
      subst h3; subst h4
      refine ⟨by rw [txR, List.take_append_drop], I8 ?_ (by simpa using CH (c :: s))⟩
      show List.take _ _ ≠ []
      intro e
      have := congrArg List.length e
      rw [List.length_take] at this
      have h5 := Bf (c :: s)
      simp only [List.length_nil] at this
      omega
  ·rw [rdK] at h
   split at h
   ·cases h
   ·cases h
   ·rename_i k d s2 e
    obtain ⟨h3, h4⟩ := h1 s k _ e
    split at h
    ·rename_i hd
     injection h with h
     injection h with h5 h6
     subst h5; subst h6
     exact ⟨k, [], rfl, by rw [h3, hd, txRs]; simp, by simpa using h4⟩
    ·split at h
     ·rename_i _ hd
      obtain ⟨k2, yO, rfl, h6, h7⟩ := h2 _ _ _ _ h
      refine ⟨k, k2 :: yO, by simp, ?_, fun q hq => ?_⟩
      ·rw [h3, hd, h6, txRs]; simp
      ·rcases List.mem_cons.1 hq with rfl | hq
       ·exact h4
       ·exact h7 q hq
     ·cases h
mutual
theorem Jj : ∀ (r : RT), lz r → ∀ (d : UInt8) (s : List UInt8), d ∈ bM → gG (txR r ++ d :: s) = some (r, d :: s)
 | .node nm [], h, d, s, hd => by
  obtain ⟨_, h1⟩ := h _ (by rw [subR]; exact List.mem_cons_self)
  obtain ⟨h1, h2⟩ := h1 rfl
  have h1 : nm.data.toList ≠ [] := h1
  have h2 : ∀ c ∈ nm.data.toList, c ∉ bM := h2
  rw [txR]
  cases hn : nm.data.toList with
  | nil => exact absurd hn h1
  | cons c n =>
   rw [hn] at h2
   have hc : c ≠ 40 := fun e => h2 c (by simp) (by rw [e]; decide)
   have hl := Fq (c :: n) d s h2 hd
   rw [List.cons_append] at hl ⊢
   rw [iB _ hc, hl, if_neg (by simp), ← List.cons_append, List.take_left, List.drop_left]
   have e : (⟨(c :: n).toArray⟩ : ByteArray) = nm := fc (by rw [hn])
   rw [e]
 | .node nm (k :: ks), h, d, s, hd => by
  obtain ⟨h1, _⟩ := h _ (by rw [subR]; exact List.mem_cons_self)
  have h1 : nm = ByteArray.empty := I9 (h1 (by simp [RT.kids]))
  have e : txR k ++ txRs ks ++ [41] ++ d :: s = (txR k ++ txRs ks) ++ 41 :: (d :: s) := by simp
  rw [txR, List.cons_append, Jh, e, h1]
  exact Qm (k :: ks) (by simp) (fun q hq => rY h hq) [] (d :: s)
theorem Qm : ∀ (qs : List RT), qs ≠ [] → (∀ q ∈ qs, lz q) → ∀ (Z : List RT) (s : List UInt8), s9 Z ((match qs with | [] => [] | k :: ks => txR k ++ txRs ks) ++ 41 :: s) = some (.node ByteArray.empty (Z ++ qs), s)
 | [], h, _, _, _ => absurd rfl h
 | [k], _, h, Z, s => by
  show s9 Z ((txR k ++ txRs []) ++ 41 :: s) = _
  rw [Ji, txRs, List.append_nil, Jj k (h k (by simp)) 41 s (by decide)]
  rfl
 | k :: k2 :: ks, _, h, Z, s => by
  have e : (txR k ++ txRs (k2 :: ks)) ++ 41 :: s = txR k ++ 44 :: (txR k2 ++ txRs ks ++ 41 :: s) := by rw [txRs]; simp
  have ih := Qm (k2 :: ks) (by simp) (fun q hq => h q (by simp [hq])) (Z ++ [k]) s
  show s9 Z ((txR k ++ txRs (k2 :: ks)) ++ 41 :: s) = _
  rw [e, Ji, Jj k (h k (by simp)) 44 _ (by decide)]
  show (if (44 : UInt8) = 41 then _ else if (44 : UInt8) = 44 then s9 (Z ++ [k]) (txR k2 ++ txRs ks ++ 41 :: s) else none) = _
  rw [if_neg (by decide), if_pos rfl]
  have ih : s9 (Z ++ [k]) (txR k2 ++ txRs ks ++ 41 :: s) = _ := ih
  rw [ih]; simp
end
theorem DK {s : List UInt8} {r : RT} : gG s = some (r, [59]) ↔ jr s = some r := by
 constructor
 ·intro h
  obtain ⟨h1, h2⟩ := (DJ _).1 s r [59] h
  rw [h1]; exact vA h2
 ·intro h
  obtain ⟨h1, h2⟩ := Fm h
  rw [h1]; exact Jj r h2 59 [] (by decide)
theorem Jk {s : List UInt8} {r : RT} {l : List UInt8} (h : gG s = some (r, l)) : aI r ≤ s.length := by
 obtain ⟨h1, h2⟩ := (DJ _).1 s r l h
 have := (zy r h2).1
 rw [h1, List.length_append]; omega
end
section
theorem aln_sp {c : UInt8} (h : qW c = true) : c ∉ bM := fun hm => by
 simp only [bM, List.mem_cons, List.not_mem_nil, or_false] at hm
 rcases hm with rfl | rfl | rfl | rfl <;> exact absurd h (by decide)
theorem Te {s : ByteArray} (h : aZ s.data.toList = true) : s.data.toList ≠ [] ∧ ∀ c ∈ s.data.toList, c ∉ bM := by
 generalize s.data.toList = l at h ⊢
 unfold aZ at h
 have key : ∀ l : List UInt8, eo l = true → l ≠ [] ∧ ∀ c ∈ l, c ∉ bM := fun l h => by
  unfold eo at h
  simp only [Bool.and_eq_true, decide_eq_true_eq, List.all_eq_true] at h
  exact ⟨fun e => by rw [e] at h; simp at h, fun c hc => aln_sp (h.2 c hc)⟩
 by_cases e : l.getLast? = some 42
 ·rw [if_pos e] at h
  simp only [Bool.and_eq_true] at h
  obtain ⟨h1, h2⟩ := key _ h.1
  have hl : l ≠ [] := fun e2 => by subst e2; cases e
  refine ⟨hl, fun c hc => ?_⟩
  rw [← List.dropLast_concat_getLast hl, List.mem_append, List.mem_singleton] at hc
  rcases hc with hc | hc
  ·exact h2 c hc
  ·rw [List.getLast?_eq_some_getLast hl] at e
   have e := Option.some.inj e
   rw [hc, e]; decide
 ·rw [if_neg e] at h; exact key l h
theorem di.jm {r : RT} (h : di r) : lz r := fun s hs => ⟨h.sR s hs, fun hk => Te (h.lf s hs hk)⟩
section
variable {t : ax}
theorem txT_eq (h : az t = 0) : ug t = txR (dU t) ++ [59] := by unfold ug; rw [if_neg (by simp [h])]
theorem td (h : az t = 0) : ∀ (d j : Nat), j ≤ d → j < t.ps.length → eY t.ps 0 j = true
 | d, j, hd, hj => by
  by_cases h0 : j = 0
  ·subst h0; exact pJ 0
  ·obtain ⟨_, _, _, hok, _⟩ := aH h
   have hp := mR hok hj (by omega)
   rw [jZ hok hj (by omega)]
   cases d with
   | zero => omega
   | succ d => exact td h d _ (by omega) (by omega)
theorem wW (h : az t = 0) : (bF (dy t) (bY t) 0).Perm (List.range t.ps.length) := by
 have h0 := (aH h).1
 refine (List.perm_ext_iff_of_nodup (iy (cK h) (fun i _ => vh t i) h0 (Nat.le_refl _)) List.nodup_range).2 fun j => ?_
 rw [List.mem_range]
 constructor
 ·exact fG h
 ·intro hj
  refine (bX (cK h).wf h0 (Nat.le_refl _)).2 ?_
  rw [vC h _ 0 j (Nat.le_refl _) h0 hj]
  exact td h j j (Nat.le_refl _) hj
theorem WA (h : az t = 0) : (cQ (dU t)).Perm t.ns := by
 rw [Lp h]
 have hl := (aH h).2.2.1
 have h1 := (wW h).map (gs t.ns)
 rw [← hl, SL] at h1
 exact h1
theorem wX (h : az t = 0) : (bu (dU t)).Perm (mS t.ns) := (WA h).filter _
theorem Nr {nm : ByteArray} (h : nm.size ≠ 0) : bu (.node nm []) = [nm] := by
 unfold bu
 rw [cQ, dr]
 exact List.filter_eq_self.2 fun x hx => decide_eq_true (by rw [List.mem_singleton.1 hx]; exact h)
theorem LW : ∀ a b : List UInt8, Lib.compareBytes a b ≤ 0 ↔ a ≤ b
 | [], b => by
  cases b with
  | nil => simp [Lib.compareBytes]
  | cons y b => simp [Lib.compareBytes]
 | x :: a, [] => by simp [Lib.compareBytes]
 | x :: a, y :: b => by
  rw [Lib.compareBytes, List.cons_le_cons_iff]
  have ih := LW a b
  by_cases h1 : x < y
  ·simp [h1]
  ·by_cases h2 : y < x
   ·have : x ≠ y := by rintro rfl; exact h1 h2
    simp [h1, h2, this]
   ·have : x = y := by
     apply UInt8.toNat.inj
     rw [UInt8.lt_iff_toNat_lt] at h1 h2; omega
    subst this
    simp [ih]
end
end
end Go.Proofs.YteegefnjnikngaaGreat
