/- strings.IndexRune: a rune above ASCII is not among the four signs. The helpers of the statements on layer 31: below, find, names, example. strings.IndexAny at the four signs, for strings of any bytes. The contracts of layer 35's reference's beyond and GreatNames, of layer 31's reference's Great. The parts of the rerooted tree, plain: which sets of leaves they have. The example of chapter 31: awake. The contract of layer 31's reference's Great. Rerooting twice, plain. The statements' bounds on layer 31's trees. The contract of phylotree.Same. The root of a rerooted tree, plain. PhylotreeTexts, plain. -/
import Derived.Test.YtpnmblnahjjmhaaGreatQ24
import Derived.Test.YtpnmblnahjjmhaaGreatQ9
import Derived.Test.YtpnmblnahjjmhaaGreatQ5
import Derived.Laws.RangeAny
import Derived.WalkMore
import Derived.Shelf.Small.Utf8
import Derived.Shelf.Small.Strs
import Derived.Test.YtpnmblnahjjmhaaGreatQ1
import Derived.Test.YtpnmblnahjjmhaaGreatQ2
import Derived.Test.YtpnmblnahjjmhaaGreatQ3
import Derived.Test.YtpnmblnahjjmhaaGreatQ20
import Derived.Test.YtpnmblnahjjmhaaGreatQ12
import Derived.Test.YtpnmblnahjjmhaaGreatQ16
import Derived.Test.YtpnmblnahjjmhaaGreatQ25
import Derived.Lib.OthersKept
import Derived.Test.YtpnmblnahjjmhaaGreatQ21
import Derived.Deep.RegionHeld3
import Derived.Test.YtpnmblnahjjmhaaGreatQ11
import Derived.Test.YtpnmblnahjjmhaaGreatQ19
namespace Go.Proofs.YtpnmblnahjjmhaaGreat
set_option maxRecDepth 100000
section
open Go.RowKit Go.Deep
def kR : ByteArray := ⟨#[40, 41, 44, 59]⟩
theorem UC : ∀ i, (h : i < 4) → (kR[i]'h).toNat < 128 := by decide +kernel
theorem VN (j : Nat) {b : UInt8} (h : 128 ≤ b.toNat) : Lib.indexByte ((kR.extract j 4).data.toList) b = -1 := by
 have key : ∀ l : List UInt8, b ∉ l → Lib.indexByte l b = -1 := fun l => by
  induction l with
  | nil => intro _; rfl
  | cons a l ih =>
   intro hm
   have h1 : a ≠ b := fun e => hm (by rw [e]; exact List.mem_cons_self)
   have h2 := ih fun h => hm (List.mem_cons_of_mem _ h)
   rw [Lib.indexByte, if_neg (by simpa using h1), h2]; rfl
 refine key _ fun hm => ?_
 rw [ByteArray.data_extract, Array.toList_extract] at hm
 have hm2 : b ∈ kR.data.toList := List.mem_of_mem_drop (List.mem_of_mem_take hm)
 have hall : ∀ x ∈ kR.data.toList, x.toNat < 128 := by decide +kernel
 have := hall b hm2
 omega
def Sw (s : ByteArray) : Prop := ∃ n : Nat, ∃ lb : UInt8, ∃ hs : s.size = n + 1, 1 ≤ n ∧ n ≤ 3 ∧ 128 ≤ lb.toNat ∧ s[n]'(by omega) = lb
theorem Sy (r : Int) (h : 128 ≤ r) : Sw (Utf8.encode r) := by
 obtain ⟨c, hcd⟩ : ∃ c, c = if Utf8.valid r then r.toNat else Utf8.runeError := ⟨_, rfl⟩
 have hc : 128 ≤ c := by
  rw [hcd]
  split
  ·omega
  ·decide
 have hl : ∀ c : Nat, 128 ≤ (UInt8.ofNat (0KJ + c % 64)).toNat := fun c => by
  rw [UInt8.toNat_ofNat']; omega
 by_cases h1 : c < 0x800
 ·have he : ∃ b0, Utf8.encode r = ⟨#[b0, UInt8.ofNat (0KJ + c % 64)]⟩ := by
   unfold Utf8.encode
   simp only [← hcd, if_neg (show ¬ c < 0KJ by omega), if_pos h1]
   exact ⟨_, rfl⟩
  obtain ⟨b0, he⟩ := he
  rw [he]
  exact ⟨1, _, rfl, by omega, by omega, hl c, rfl⟩
 ·by_cases h2 : c < 0x10000
  ·have he : ∃ b0 b1, Utf8.encode r = ⟨#[b0, b1, UInt8.ofNat (0KJ + c % 64)]⟩ := by
    unfold Utf8.encode
    simp only [← hcd, if_neg (show ¬ c < 0KJ by omega), if_neg h1, if_pos h2]
    exact ⟨_, _, rfl⟩
   obtain ⟨b0, b1, he⟩ := he
   rw [he]
   exact ⟨2, _, rfl, by omega, by omega, hl c, rfl⟩
  ·have he : ∃ b0 b1 b2, Utf8.encode r = ⟨#[b0, b1, b2, UInt8.ofNat (0KJ + c % 64)]⟩ := by
    unfold Utf8.encode
    simp only [← hcd, if_neg (show ¬ c < 0KJ by omega), if_neg h1, if_neg h2]
    exact ⟨_, _, _, rfl⟩
   obtain ⟨b0, b1, b2, he⟩ := he
   rw [he]
   exact ⟨3, _, rfl, by omega, by omega, hl c, rfl⟩
set_option maxHeartbeats 4000000 in
theorem Hg (w : World) (r : Int) (h : 128 ≤ r) (h2 : r ≤ 2147483647) :
  Calls Tryz.prog 232 #[.string kR, .int .i32 r] w fun e w' => e = .returned (.int .i64 (-1)) ∧ Up w w' := by
 have d1 : decide ((0 : Int) ≤ r) = true := decide_eq_true (by omega)
 have d2 : decide (r < (128 : Int)) = false := decide_eq_false (by omega)
 have HVR := ag (fun W => Go.Proofs.Any.utf8_ValidRune (ρ := Tryz.idxA_ren) { Tryz.idxA with } r W)
 by_cases h3 : r = 65533
 ·have d3 : (r == (65533 : Int)) = true := by simp [h3]
  clear h3
  aq Tryz.func232, Tryz.ntmps232
  aa fail
  Sz [5, 6] 4 (fun g _ _ wx => ∃ i : Nat, i + g = 4 ∧ wx = w.iter kR i)
  case atStart => exact ⟨0, rfl, rfl⟩
  case round =>
   obtain ⟨i, hig, rfl⟩ := bE
   cases gk with
   | zero =>
    obtain rfl : i = 4 := by omega
    have hnx := fun ty => run_next_end (P := Tryz.prog) w kR 4 ty (by decide)
    aa fail
    ax
    exact ⟨rfl, Up.alloc _ _⟩
   | succ g =>
    have hi : i < 4 := by omega
    have hlt := UC i hi
    have hnx := fun ty => run_next_ascii (P := Tryz.prog) w kR i ty hi hlt
    generalize (kR[i]'hi).toNat = x at *
    have d4 : ((x : Int) == 65533) = false := by simp; omega
    aa fail
    Et g
    case measure => omega
    case rel => exact ⟨i + 1, by omega, rfl⟩
 ·have d3 : (r == (65533 : Int)) = false := by simp [h3]
  clear h3
  obtain ⟨n, lb, Wq, n1, n3, hlb, Yx⟩ := Sy r h
  aq Tryz.func232, Tryz.ntmps232
  aa fail
  refine (HVR.out _).mono ?_
  rintro e w2 ⟨rfl, rfl⟩
  cases hv : Lib.validRune r
  ·aa fail
   ax
   exact ⟨rfl, Up.refl _⟩
  ·aa fail
   have hsz : ((Utf8.encode r).size : Int) = (n : Int) + 1 := by omega
   have SA := hsz
   obtain ⟨nd, eZ⟩ : ∃ nd, nd = Utf8.encode r := ⟨_, rfl⟩
   have hlt : n < nd.size := by rw [eZ]; omega
   have hidx : nd[n]'hlt = lb := by subst eZ; exact Yx
   rw [← eZ] at hsz
   have i3 : (n : Int) < (nd.size : Int) := by omega
   have i1 : (n : Int) < 4 := by omega
   have i2 : (0 : Int) ≤ (n : Int) := by omega
   have SB : n < 4 := by omega
   have w1 : wrap64 (n : Int) = (n : Int) := by unfold wrap64; omega
   have w2a : (n : Int) < (n : Int) + 1 := by omega
   have w3a : IntKind.i64.wrap ((n : Int) + 1) = (n : Int) + 1 := by rw [IntKind.wrap_i64]; omega
   have w3b : ((n : Int) + 1).toNat = n + 1 := by omega
   have w3c : (0 : Int) ≤ (n : Int) + 1 := by omega
   have w3d : (n : Int) + 1 ≤ 4 := by omega
   obtain ⟨cx, zw⟩ : ∃ cx, cx = kR[n]'SB := ⟨_, rfl⟩
   have hcx1 : cx.toNat < 128 := by rw [zw]; exact UC n SB
   have d5 : (((kR[n]'SB).toNat : Int) != (lb.toNat : Int)) = true := by rw [← zw]; simp; omega
   have HIB := ag (fun W => Go.Proofs.Any.strings_IndexByte (ρ := Tryz.idxA_ren) { Tryz.idxA with } (kR.extract (n + 1) 4) (lb.toNat : Int) W)
   have hback : ((lb.toNat : Int)).toNat.toUInt8 = lb := by simp
   rw [hback, VN (n + 1) hlb] at HIB
   have hsg : (kR.size : Int) = 4 := rfl
   have hsg2 : kR.size = 4 := rfl
   have G1 := ag eZ
   clear Yx Wq zw eZ
   SC
   aa fail
   rw [← G1.out]
   clear G1
   dD [9, 10, 11, 12] (fun i f _ _ => i = .int .i64 n ∧ f = .int .i64 0) (fun _ _ _ _ => 0)
   case atStart => exact ⟨rfl, rfl⟩
   case round =>
    obtain ⟨rfl, rfl⟩ := bE
    aa fail
    SC
    aa fail
    refine eE (by af) 7 (fun _ => True) trivial (fun hS => ?_)
    simp only [List.size_toArray, List.length_cons, List.length_nil, Nat.reduceAdd, Array.replicate_succ, Array.replicate_zero, List.push_toArray, List.nil_append, List.cons_append]
    refine au.take (i := 0) (v := ?y6) rfl (by af) (fun _ _ _ h => h) (by rfl) (fun w av => ?l7) hS ?y7
    case l7 =>
     (try dsimp only at av)
     aj
     try ah rfl
    try simp only [Act.put, az, aA, aB]
    refine au.take (i := 1) (v := ?y8) rfl (by af) (fun _ _ _ h => h) (by rfl) (fun w av => ?l9) hS ?y9
    case l9 =>
     (try dsimp only at av)
     aj
     try ah rfl
    try simp only [Act.put, az, aA, aB]
    refine au.take (i := 2) (v := ?BI) rfl (by af) (fun _ _ _ h => h) (by rfl) (fun w av => ?oD) hS ?BJ
    case oD =>
     (try dsimp only at av)
     aj
     try ah rfl
    try simp only [Act.put, az, aA, aB]
    refine au.take (i := 3) (v := ?BK) rfl (by af) (fun _ _ _ h => h) (by rfl) (fun w av => ?oE) hS ?BL
    case oE =>
     (try dsimp only at av)
     aj
     try ah rfl
    try simp only [Act.put, az, aA, aB]
    refine au.take (i := 4) (v := ?BM) rfl (by af) (fun _ _ _ h => h) (by rfl) (fun w av => ?oF) hS ?BN
    case oF =>
     (try dsimp only at av)
     aj
     try ah rfl
    try simp only [Act.put, az, aA, aB]
    refine au.take (i := 5) (v := ?BO) rfl (by af) (fun _ _ _ h => h) (by rfl) (fun w av => ?oG) hS ?BP
    case oG =>
     (try dsimp only at av)
     aj
     try ah rfl
    try simp only [Act.put, az, aA, aB]
    refine au.step (i := 6) rfl (by af) (fun K' hK => ?_)
    aj
    refine hK.out _ _ (bh (by af)) (fun hS => ?_)
    refine au.done (by af) ?_
    aa fail
    refine eE (by af) 9 (fun _ => True) trivial (fun hS => ?_)
    simp only [List.size_toArray, List.length_cons, List.length_nil, Nat.reduceAdd, Array.replicate_succ, Array.replicate_zero, List.push_toArray, List.nil_append, List.cons_append]
    refine au.take (i := 0) (v := ?gv0k2) rfl (by af) (fun _ _ _ h => h) (by rfl) (fun w av => ?Mx) hS ?gr0k2
    case Mx =>
     (try dsimp only at av)
     aj
     try ah rfl
    try simp only [Act.put, az, aA, aB]
    refine au.take (i := 1) (v := ?gv1k2) rfl (by af) (fun _ _ _ h => h) (by rfl) (fun w av => ?My) hS ?gr1k2
    case My =>
     (try dsimp only at av)
     aj
     try ah rfl
    try simp only [Act.put, az, aA, aB]
    refine au.take (i := 2) (v := ?gv2k2) rfl (by af) (fun _ _ _ h => h) (by rfl) (fun w av => ?Mz) hS ?gr2k2
    case Mz =>
     (try dsimp only at av)
     aj
     try ah rfl
    try simp only [Act.put, az, aA, aB]
    refine au.take (i := 3) (v := ?gv3k2) rfl (by af) (fun _ _ _ h => h) (by rfl) (fun w av => ?MA) hS ?gr3k2
    case MA =>
     (try dsimp only at av)
     aj
     try ah rfl
    try simp only [Act.put, az, aA, aB]
    refine au.take (i := 4) (v := ?gv4k2) rfl (by af) (fun _ _ _ h => h) (by rfl) (fun w av => ?MB) hS ?gr4k2
    case MB =>
     (try dsimp only at av)
     aj
     try ah rfl
    try simp only [Act.put, az, aA, aB]
    refine au.take (i := 5) (v := ?gv5k2) rfl (by af) (fun _ _ _ h => h) (by rfl) (fun w av => ?gy5k2) hS ?gr5k2
    case gy5k2 =>
     (try dsimp only at av)
     aj
     try ah rfl
    try simp only [Act.put, az, aA, aB]
    refine au.take (i := 6) (v := ?gv6k2) rfl (by af) (fun _ _ _ h => h) (by rfl) (fun w av => ?MC) hS ?gr6k2
    case MC =>
     (try dsimp only at av)
     aj
     try ah rfl
    try simp only [Act.put, az, aA, aB]
    refine au.step (i := 7) rfl (by af) (fun K' hK => ?_)
    aj
    refine (HIB.out _).mono ?_
    rintro e w4 ⟨rfl, rfl⟩
    refine hK.out _ _ (fun _ => trivial) (fun hS => ?_)
    try simp only [az, aA, aB]
    refine au.step (i := 8) rfl (by af) (fun K' hK => ?_)
    aj
    refine hK.out _ _ (bh (by af)) (fun hS => ?_)
    refine au.done (by af) ?_
    aa fail
    simp +zetaDelta only [Exit.noGoto, Exit.inBlock, Exit.then]
    refine bodyPost_ret (results_tmp rfl _ _ _) rfl ?_
    exact ⟨rfl, (Up.drewN _ 1).trans (Up.drewN _ 1)⟩
end
section
open Go.RowKit Go.Deep
@[go_sem high] theorem run_max0_4 (w : World) (ts : Array TypeId) (t : TypeId) (k : IntKind) : (Builtin.max_ ts t #[.int k 0, .int k 0, .int k 0, .int k 0]).run Tryz.prog w = .ok (.int k 0) w := by
 simp [Builtin.max_, Builtin.max2]
@[go_sem high] theorem run_max0_5 (w : World) (ts : Array TypeId) (t : TypeId) (k : IntKind) : (Builtin.max_ ts t #[.int k 0, .int k 0, .int k 0, .int k 0, .int k 0]).run Tryz.prog w = .ok (.int k 0) w := by
 simp [Builtin.max_, Builtin.max2]
@[go_sem high] theorem run_max0_6 (w : World) (ts : Array TypeId) (t : TypeId) (k : IntKind) : (Builtin.max_ ts t #[.int k 0, .int k 0, .int k 0, .int k 0, .int k 0, .int k 0]).run Tryz.prog w = .ok (.int k 0) w := by
 simp [Builtin.max_, Builtin.max2]
@[go_sem high] theorem run_max0_7 (w : World) (ts : Array TypeId) (t : TypeId) (k : IntKind) : (Builtin.max_ ts t #[.int k 0, .int k 0, .int k 0, .int k 0, .int k 0, .int k 0, .int k 0]).run Tryz.prog w = .ok (.int k 0) w := by
 simp [Builtin.max_, Builtin.max2]
end
section
open Go.RowKit Go.Deep
theorem Yy (s : ByteArray) (k : Nat) (h : k < s.size) : s.get! k = s[k]'h := by
 simp [ByteArray.get!, getElem!_pos, h]; rfl
theorem JI (s : ByteArray) (pos : Nat) (h : pos < s.size) (ha : 128 ≤ (s[pos]'h).toNat) : 1 ≤ (Utf8.decode s pos).2 ∧ pos + (Utf8.decode s pos).2 ≤ s.size ∧ ∀ j, (hj : j < (Utf8.decode s pos).2) → ∀ hl : pos + j < s.size, 128 ≤ (s[pos + j]'hl).toNat := by
  have key : ∀ w : Nat, 1 ≤ w → w ≤ 4 → (∀ j, 1 ≤ j → j < w → pos + j < s.size ∧ (s.get! (pos + j)).toNat / 64 = 2) → 1 ≤ w ∧ pos + w ≤ s.size ∧ ∀ j, (hj : j < w) → ∀ hl : pos + j < s.size, 128 ≤ (s[pos + j]'hl).toNat := fun w h1 _ hc => by
    refine ⟨h1, ?_, fun j hj hl => ?_⟩
    · by_cases e : w = 1
      · omega
      · have := (hc (w - 1) (by omega) (by omega)).1; omega
    · by_cases e : j = 0
      · subst e; exact ha
      · have h2 := (hc j (by omega) hj).2
        rw [Yy s _ hl] at h2
        omega
  have one := key 1 (Nat.le_refl _) (by omega) (fun j a b => by omega)
  have cont : ∀ k, (decide (pos + k < s.size) && (s.get! (pos + k)).toNat / 64 == 2) = true → pos + k < s.size ∧ (s.get! (pos + k)).toNat / 64 = 2 := fun k hk => by
    simp only [Bool.and_eq_true, decide_eq_true_eq, beq_iff_eq] at hk; exact hk
  have hn : ¬ (s[pos]'h).toNat < 128 := by omega
  unfold Utf8.decode
  simp only [get_at s pos h, hn, if_false]
  split
  · rename_i hb
    rw [Bool.and_eq_true] at hb
    split
    · exact key 2 (by omega) (by omega) fun j h1 h2 => by obtain rfl : j = 1 := by omega
                                                          exact cont 1 hb.2
    · exact one
  · split
    · rename_i hb
      rw [Bool.and_eq_true, Bool.and_eq_true] at hb
      split
      · exact key 3 (by omega) (by omega) fun j h1 h2 => by
          by_cases e : j = 1
          · subst e; exact cont 1 hb.1.2
          · obtain rfl : j = 2 := by omega
            exact cont 2 hb.2
      · exact one
    · split
      · rename_i hb
        rw [Bool.and_eq_true, Bool.and_eq_true, Bool.and_eq_true] at hb
        split
        · exact key 4 (by omega) (by omega) fun j h1 h2 => by
            by_cases e : j = 1
            · subst e; exact cont 1 hb.1.1.2
            · by_cases e2 : j = 2
              · subst e2; exact cont 2 hb.1.2
              · obtain rfl : j = 3 := by omega
                exact cont 3 hb.2
        · exact one
      · exact one
theorem MD {s : ByteArray} {i d : Nat} (h : Lib.NoAny s.data.toList eW i) (hs : i + d ≤ s.size) (hb : ∀ j, (hj : j < d) → ∀ hl : i + j < s.size, 128 ≤ (s[i + j]'hl).toNat) : Lib.NoAny s.data.toList eW (i + d) := fun j b hj hx => by
 by_cases e : j < i
 ·exact h j b e hx
 ·obtain ⟨d2, rfl⟩ : ∃ d2, j = i + d2 := ⟨j - i, by omega⟩
  have hl : i + d2 < s.size := by omega
  have h1 := hb d2 (by omega) hl
  rw [Lib.data_getElem? s (i + d2) hl] at hx
  injection hx with hx
  have h3 : 128 ≤ b.toNat := by rw [← hx]; exact h1
  cases hc : eW.contains b with
  | false => rfl
  | true =>
   have hm := List.contains_iff_mem.1 hc
   simp only [eW, List.mem_cons, List.not_mem_nil, or_false] at hm
   rcases hm with rfl | rfl | rfl | rfl <;> exact absurd h3 (by decide)
set_option maxHeartbeats 8000000 in
theorem JJ (s : ByteArray) (w : World) (hs : s.size ≤ 1000) : Calls Tryz.prog 176 #[.string s, .string kR] w fun e w' => e = .returned (.int .i64 (Lib.indexAny s.data.toList eW)) ∧ Up w w' := by
 by_cases h8 : 8 < s.size
 ·have h := Go.Proofs.Any.strings_IndexAny_long (ρ := Tryz.idxA_ren) Tryz.idxA (zero_of_info (P := Tryz.prog) (t := 230) (v := .agg (Array.replicate 256 (.bool false))) (n := 256) (by af)).1 (zero_of_info (P := Tryz.prog) (t := 230) (v := .agg (Array.replicate 256 (.bool false))) (n := 256) (by af)).2 s kR w (by decide) h8 (by omega) (by decide) (by
   intro j b hb
   have hm := List.mem_of_getElem? hb
   have hall : ∀ x ∈ kR.data.toList, x.toNat < 128 := by decide +kernel
   exact hall b hm)
  refine h.mono ?_
  rintro e w' ⟨rfl, rfl⟩
  exact ⟨rfl, (Up.alloc _ _).trans (Up.alloc _ _)⟩
 ·have h8z : decide ((8 : Int) < (s.size : Int)) = false := decide_eq_false (by omega)
  have UB := ag (fun W => Go.Proofs.Any.strings_shouldUseASCIISet (ρ := Tryz.idxA_ren) { Tryz.idxA with } (s.size : Int) W)
  rw [h8z] at UB
  have k7 := ag Hg
  have HIL := ag (fun (x : UInt8) (h : x.toNat < 128) W => Go.Proofs.Any.strings_IndexRune_ascii (ρ := Tryz.idxA_ren) { Tryz.idxA with } kR (x.toNat : Int) W (by omega) (by omega))
  have C7 : ((kR.size : Int) == 1) = false := rfl
  have hemp : (kR.toList == []) = false := by decide +kernel
  clear h8
  aq Tryz.func176, Tryz.ntmps176
  aa fail
  refine (UB.out _).mono ?_
  rintro e w2 ⟨rfl, rfl⟩
  aa fail
  Sz [9, 10] s.size (fun g _ _ wx => ∃ i : Nat, i + g = s.size ∧ wx.heap[w2.heap.size]? = some (.stringIter s i) ∧ Hid (Up w2 wx) ∧ Hid (Lib.NoAny s.data.toList eW i))
  case atStart => exact ⟨0, by omega, World.iter_heap _ _ _, Up.alloc _ _, Lib.NoAny.zero _ _⟩
  case round =>
   obtain ⟨i, hig, hit, bG, hno⟩ := bE
   obtain ⟨wo, rfl⟩ : ∃ wo : World, wo = wr := ⟨_, rfl⟩
   by_cases hi : i < s.size
   ·have hnx := fun ty => Lib.run_next_any_at (P := Tryz.prog) wo w2.heap.size s i ty hit hi
    have ME := Lib.iterAt_heap wo w2.heap.size s i (i + (Utf8.decode s i).2) hit
    have UD := ag ME
    have cM : Hid (Up w2 (wo.iterAt w2.heap.size s (i + (Utf8.decode s i).2))) := Lib.below_iterAt bG.out (Nat.le_refl _) _ _
    have HDL := ag (decode_le s i)
    obtain ⟨x, hx⟩ : ∃ x : UInt8, s[i]'hi = x := ⟨_, rfl⟩
    have hxl : s.data.toList[i]? = some x := by rw [← hx]; exact Lib.data_getElem? s i hi
    have wV := ag hxl
    have HG := ag hig
    have HI := ag hi
    by_cases ha : 128 ≤ x.toNat
    ·obtain ⟨k1, k2, k3⟩ := JI s i hi (by rw [hx]; exact ha)
     have h1 := (decode_high s i hi (by rw [hx]; exact ha)).1
     have qy := ag (MD hno.out k2 k3)
     have HK := ag k1
     have tI := ag k2
     have HC := ag (k7.out (wo.iterAt w2.heap.size s (i + (Utf8.decode s i).2)) ((Utf8.decode s i).1 : Int) (by omega) (by have := HDL.out; omega))
     clear hit ME bG hno hxl hx hi hig k1 k2 k3 ha h1
     generalize (Utf8.decode s i).1 = rn at *
     generalize (Utf8.decode s i).2 = wd at *
     aa fail
     refine HC.out.mono ?_
     rintro e w5 ⟨rfl, fS⟩
     have ij : Hid (Up w2 w5) := cM.out.trans fS
     have HIT5 : Hid (w5.heap[w2.heap.size]? = some (.stringIter s (i + wd))) := (Below.block fS w2.heap.size (Array.getElem?_eq_some_iff.1 UD.out).1).trans UD.out
     clear fS
     aa fail
     Et (s.size - (i + wd))
     case measure => have := HG.out; have := HK.out; have := tI.out; omega
     case rel => exact ⟨i + wd, by have := tI.out; omega, HIT5.out, ij.out, qy.out⟩
    ·have h1 : Utf8.decode s i = (x.toNat, 1) := by rw [decode_ascii s i hi (by rw [hx]; omega), hx]
     rw [h1] at hnx UD cM
     have HC := ag (HIL.out x (by omega) (wo.iterAt w2.heap.size s (i + 1)))
     have hback : ((x.toNat : Int)).toNat.toUInt8 = x := by simp
     rw [hback] at HC
     have ni := Lib.contains_iff_indexByte eW x
     cases hin : eW.contains x
     ·have hlt : decide ((0 : Int) ≤ Lib.indexByte kR.data.toList x) = false := by rw [hin] at ni; exact ni.symm
      have qy := ag (hno.out.succ hxl hin)
      clear hit ME bG hno hxl hx hi hig ha h1 ni
      generalize Lib.indexByte kR.data.toList x = ib at *
      aa fail
      refine HC.out.mono ?_
      rintro e w5 ⟨rfl, rfl⟩
      aa fail
      Et (s.size - (i + 1))
      case measure => have := HG.out; have := HI.out; omega
      case rel => exact ⟨i + 1, by have := HI.out; omega, UD.out, cM.out, qy.out⟩
     ·have hlt : decide ((0 : Int) ≤ Lib.indexByte kR.data.toList x) = true := by rw [hin] at ni; exact ni.symm
      have HR : Hid (Lib.indexAny s.data.toList eW = (i : Int)) := Lib.indexAny_hit hno.out hxl hin
      clear hit ME bG hno hxl hx hi hig ha h1 ni
      generalize Lib.indexByte kR.data.toList x = ib at *
      aa fail
      refine HC.out.mono ?_
      rintro e w5 ⟨rfl, rfl⟩
      aa fail
      ax
      exact ⟨by rw [HR.out]; rfl, cM.out⟩
   ·have hnx := fun ty => Lib.run_next_end_at (P := Tryz.prog) wo w2.heap.size s i ty hit hi
    have Yz : i = s.size := by omega
    have HR : Hid (Lib.indexAny s.data.toList eW = -1) := Lib.indexAny_none (by rw [← Lib.size_eq, ← Yz]; exact hno.out)
    have HUP := ag bG.out
    clear hit bG hno hi hig Yz
    aa fail
    ax
    exact ⟨by rw [HR.out]; rfl, HUP.out⟩
theorem UE (s : ByteArray) (hs : s.size ≤ 1000) : Yg s := fun i W hi => by
 have h := JJ (s.extract i s.size) W (by rw [ByteArray.size_extract]; omega)
 have e : (s.extract i s.size).data.toList = s.data.toList.drop i := by
  rw [ByteArray.data_extract, Array.toList_extract]
  exact List.take_of_length_le (by rw [List.length_drop, Array.length_toList]; exact Nat.le_refl _)
 rw [e] at h
 exact h
end
section
open Go.RowKit Go.Deep
end
section
def Hh (r : RT) (X : ByteArray → Prop) : Prop := ∃ s ∈ subR r, ∀ x, X x ↔ x ∈ bH s
theorem MF {F : bA} {n : Nat} {rk : Nat → Nat} (h : Wf F n rk) {z : Nat} (hz : z < n) {x : ByteArray} : x ∈ bH (bu F rk z) ↔ ∃ j, j < n ∧ cG F rk z j = true ∧ (F.nm j).size ≠ 0 ∧ x = F.nm j := by
 unfold bH
 rw [G0 h hz, List.mem_filter, List.mem_map]
 constructor
 ·rintro ⟨⟨j, hj, rfl⟩, h0⟩
  have hs := (dL h hz (Nat.le_refl _)).1 hj
  exact ⟨j, nO h hz (Nat.le_refl _) hs, hs, of_decide_eq_true h0, rfl⟩
 ·rintro ⟨j, _, hs, h0, rfl⟩
  exact ⟨⟨j, (dL h hz (Nat.le_refl _)).2 hs, rfl⟩, decide_eq_true h0⟩
section
variable {t : aJ} {leaf : Nat}
theorem VO (h : aK t = 0) {z : Nat} (hz : z < t.ps.length) {x : ByteArray} : x ∈ bH (bu (dr t) (cI t) z) ↔ ∃ j, j < t.ps.length ∧ dU t.ps z j = true ∧ (gs t.ns j).size ≠ 0 ∧ x = gs t.ns j := by
 rw [MF (cS h).wf hz]
 constructor
 ·rintro ⟨j, hj, hs, h0, e⟩
  exact ⟨j, hj, by rw [← rL h _ z j (Nat.le_refl _) hz hj]; exact hs, h0, e⟩
 ·rintro ⟨j, hj, hs, h0, e⟩
  exact ⟨j, hj, by rw [rL h _ z j (Nat.le_refl _) hz hj]; exact hs, h0, e⟩
theorem dz.inj (h : dz t leaf) {a b : Nat} (ha : a < t.ps.length) (hb : b < t.ps.length) (h0 : (gs t.ns a).size ≠ 0) (e : gs t.ns a = gs t.ns b) : a = b := by
 have ea : (tD t leaf).nm a = gs t.ns a := bU _ _ (by omega)
 have eb : (tD t leaf).nm b = gs t.ns b := bU _ _ (by omega)
 exact Sh h a b (by omega) (by omega) (by rw [ea]; exact h0) (by rw [ea, eb]; exact e)
end
end
section
open Go.RowKit Go.Deep
end
section
open Go.RowKit Go.Deep
def rC (t : aJ) (n : Nat) : Bool := (decide (n < t.ps.length) && decide (t.ps.length ≤ 64)) || decide (66 < t.ps.length) || decide (t.ps.length + 2 < t.ns.length) || (List.range t.ns.length).any fun k => decide (20 < (gs t.ns k).size)
set_option maxHeartbeats 2000000 in
theorem Pr (S : Nat → Prop) (w : World) (v : Value) (t : aJ) (n : Nat) (hT : aO S w v t) (hp : t.ps.length ≤ 9223372036854775807) (hn : t.ns.length ≤ 9223372036854775807) (hz : ∀ k, (gs t.ns k).size ≤ 9223372036854775807) :
  Calls Tryz.prog 64 #[v, .int .i64 n] w fun e w' => e = .returned (.bool (rC t n)) ∧ Below w.heap.size w w' := by
 obtain ⟨P, N, rfl, hP, hN⟩ := hT
 have hu := Up.alloc w (.cells #[P, N] 39)
 have HU := ag hu
 have HN := ag (aG.keep hN (hu.kept S))
 obtain ⟨pp, pc, rfl, _, _⟩ := aC.open hP
 obtain ⟨np, nc, rfl, _, _⟩ := aC.open hN
 have gN := ag (dg w (.slice pp t.ps.length pc) (.slice np t.ns.length nc) 39)
 have gU := ag (dy w (.slice pp t.ps.length pc) (.slice np t.ns.length nc) 39)
 have hc0 := gN.out
 have hc1 := gU.out
 have HZ := ag hz
 have HE : Hid (rC t n = ((decide (n < t.ps.length) && decide (t.ps.length ≤ 64)) || decide (66 < t.ps.length) || decide (t.ps.length + 2 < t.ns.length) || (List.range t.ns.length).any fun k => decide (20 < (gs t.ns k).size))) := rfl
 clear hu hP hN hz
 generalize rC t n = r at *
 obtain ⟨ps, ns⟩ := t
 simp only at *
 generalize ps.length = m at *
 aq Tryz.func64, Tryz.ntmps64
 aa fail
 all_goals generalize w.alloc (.cells #[.slice pp m pc, .slice np ns.length nc] 39) = w1 at *
 all_goals try (ax; exact ⟨aZ (by rw [HE.out]; clear HE; symm; simp; omega), HU.out⟩)
 all_goals have HT : Hid (∀ k, k < ns.length → decide (20 < (gs ns k).size) = true → r = true) := fun k hk hb => by rw [HE.out, Bd (p := fun k => decide (20 < (gs ns k).size)) hk hb]; simp
 all_goals have HF : Hid ((∀ k, k < ns.length → decide (20 < (gs ns k).size) = false) → r = false) := fun hb => by rw [HE.out, any_none (p := fun k => decide (20 < (gs ns k).size)) hb]; clear HE; simp; omega
 all_goals clear HE
 all_goals dD [5] (fun i => ∃ k : Nat, k ≤ ns.length ∧ i = .int .i64 k ∧ Hid (∀ j, j < k → decide (20 < (gs ns j).size) = false)) (fun i => ns.length - (intOf i).toNat)
 case atStart => exact ⟨0, Nat.zero_le _, rfl, fun j hj => absurd hj (Nat.not_lt_zero _)⟩
 case atStart => exact ⟨0, Nat.zero_le _, rfl, fun j hj => absurd hj (Nat.not_lt_zero _)⟩
 all_goals
  obtain ⟨k, hk, rfl, hd⟩ := bE
  by_cases hlt : k < ns.length
  ·obtain ⟨b, off, rfl, hc⟩ := dh HN.out hlt
   have i1 : (0 : Int) ≤ (k : Int) := by omega
   have i2 : (k : Int) < (ns.length : Int) := by omega
   have Bg := HZ.out k
   have xY := ag (HT.out k hlt)
   have UF : Hid (decide (20 < (gs ns k).size) = false → ∀ j, j < k + 1 → decide (20 < (gs ns j).size) = false) := fun hx j hj => if e : j = k then by subst e; exact hx else hd.out j (by omega)
   generalize gs ns k = y at *
   by_cases h1 : 20 < y.size
   ·have e0 : decide ((20 : Int) < (y.size : Int)) = true := by simp; omega
    have HQ := ag (xY.out (by simpa using h1))
    clear h1
    aa fail
    ax
    exact ⟨aZ HQ.out.symm, HU.out⟩
   ·have e0 : decide ((20 : Int) < (y.size : Int)) = false := by simp; omega
    have HQ := ag (UF.out (by simpa using h1))
    clear h1
    aa fail
    cz
    case rel => exact ⟨k + 1, by omega, by aH, HQ.out⟩
    case measure => simp [intOf]; omega
  ·obtain rfl : k = ns.length := by omega
   have HQ := ag (HF.out hd.out)
   clear hlt hk
   aa fail
   ax
   exact ⟨aZ HQ.out.symm, HU.out⟩
end
section
theorem gX.sub {r s : RT} (h : gX r) (hs : s ∈ subR r) : gX s :=
 ⟨fun q hq => h.uU q (gK r hs hq), fun q hq => h.lf q (gK r hs hq), (cQ hs).nodup h.nd⟩
theorem YA {r1 r2 : RT} (o1 : jJ r1) (o2 : jJ r2) (h : ∀ X, Hh r1 X ↔ Hh r2 X) : sortR r1 = sortR r2 :=
 ye _ r1 r2 (Nat.le_refl _) o1 o2 (fun s hs => by
  obtain ⟨u, hu, e⟩ := (h _).1 ⟨s, hs, fun _ => Iff.rfl⟩
  exact ⟨u, hu, e⟩) (fun s hs => by
  obtain ⟨u, hu, e⟩ := (h _).2 ⟨s, hs, fun _ => Iff.rfl⟩
  exact ⟨u, hu, e⟩)
theorem gX.meet {r s : RT} (h : gX r) (hs : s ∈ subR r) : ∃ x, x ∈ bH s := by
 obtain ⟨l, hl⟩ := (h.sub hs).head
 exact ⟨firstR s, by rw [hl]; simp⟩
section
variable {r q : RT} {a b : ByteArray}
end
section
variable {t : aJ} {leaf : Nat}
end
end
section
open Go.RowKit Go.Deep
end
section
open Go.RowKit Go.Deep
section
variable {P : Program} {ops : Array Oper} {Q : Exit → Act → World → Prop} {md : Region.Mode} {S : World → Prop} {t : Nat}
end
end
section
section
variable {t : aJ} {leaf : Nat}
end
end
section
section
variable {t : aJ}
end
end
end Go.Proofs.YtpnmblnahjjmhaaGreat
