/- strings.IndexRune: a rune above ASCII is not among the four signs. The helpers of the .. -/
import Derived.Test.YtpnmblnahjjmhaaGreatQ24
import Derived.Test.YtpnmblnahjjmhaaGreatQ9
import Derived.Test.YtpnmblnahjjmhaaGreatQ5
import Derived.Laws.RangeAny
import Derived.WalkMore
import Derived.Shelf.Small.Utf8
import Derived.Shelf.Small.Strs
import Derived.Test.YtpnmblnahjjmhaaGreatQ25
import Derived.Test.YtpnmblnahjjmhaaGreatQ1
import Derived.Test.YtpnmblnahjjmhaaGreatQ2
import Derived.Test.YtpnmblnahjjmhaaGreatQ3
import Derived.Test.YtpnmblnahjjmhaaGreatQ20
import Derived.Test.YtpnmblnahjjmhaaGreatQ12
import Derived.Test.YtpnmblnahjjmhaaGreatQ16
import Derived.Test.YtpnmblnahjjmhaaGreatQ26
import Derived.Lib.OthersKept
import Derived.Test.YtpnmblnahjjmhaaGreatQ21
import Derived.Deep.RegionHeld3
import Derived.Test.YtpnmblnahjjmhaaGreatQ11
import Derived.Test.YtpnmblnahjjmhaaGreatQ19
set_option maxRecDepth 100000
namespace Go.Proofs.YtpnmblnahjjmhaaGreat
section
open Go.RowKit Go.Deep
def jX : ByteArray := ⟨#[40, 41, 44, 59]⟩
theorem UE : ∀ i, (h : i < 4) → (jX[i]'h).toNat < 128 := by decide +kernel
theorem VO (j : Nat) {b : UInt8} (h : 128 ≤ b.toNat) : Lib.indexByte ((jX.extract j 4).data.toList) b = -1 := by
 have key : ∀ l : List UInt8, b ∉ l → Lib.indexByte l b = -1 := fun l => by
  induction l with
  | nil => intro _; rfl
  | cons a l ih =>
   intro hm
   have h1 : a ≠ b := fun e => hm (by rw [e]; exact List.mem_cons_self)
   have h2 := ih fun h => hm (List.mem_cons_of_mem _ h)
   rw [Lib.indexByte, if_neg (by simpa using h1), h2]; rfl
 refine key _ fun hm => ?_
 rw [ByteArray.data_extract, Array.toList_extract] at hm
 have hm2 : b ∈ jX.data.toList := List.mem_of_mem_drop (List.mem_of_mem_take hm)
 have hall : ∀ x ∈ jX.data.toList, x.toNat < 128 := by decide +kernel
 have := hall b hm2
 omega
def SA (s : ByteArray) : Prop := ∃ n : Nat, ∃ lb : UInt8, ∃ hs : s.size = n + 1, 1 ≤ n ∧ n ≤ 3 ∧ 128 ≤ lb.toNat ∧ s[n]'(by omega) = lb
theorem SB (r : Int) (h : 128 ≤ r) : SA (Utf8.encode r) := by
 obtain ⟨c, hcd⟩ : ∃ c, c = if Utf8.valid r then r.toNat else Utf8.runeError := ⟨_, rfl⟩
 have hc : 128 ≤ c := by
  rw [hcd]
  split
  ·omega
  ·decide
 have hl : ∀ c : Nat, 128 ≤ (UInt8.ofNat (0x80 + c % 64)).toNat := fun c => by
  rw [UInt8.toNat_ofNat']; omega
 by_cases h1 : c < 0x800
 ·have he : ∃ b0, Utf8.encode r = ⟨#[b0, UInt8.ofNat (0x80 + c % 64)]⟩ := by
   unfold Utf8.encode
   simp only [← hcd, if_neg (show ¬ c < 0x80 by omega), if_pos h1]
   exact ⟨_, rfl⟩
  obtain ⟨b0, he⟩ := he
  rw [he]
  exact ⟨1, _, rfl, by omega, by omega, hl c, rfl⟩
 ·by_cases h2 : c < 0x10000
  ·have he : ∃ b0 b1, Utf8.encode r = ⟨#[b0, b1, UInt8.ofNat (0x80 + c % 64)]⟩ := by
    unfold Utf8.encode
    simp only [← hcd, if_neg (show ¬ c < 0x80 by omega), if_neg h1, if_pos h2]
    exact ⟨_, _, rfl⟩
   obtain ⟨b0, b1, he⟩ := he
   rw [he]
   exact ⟨2, _, rfl, by omega, by omega, hl c, rfl⟩
  ·have he : ∃ b0 b1 b2, Utf8.encode r = ⟨#[b0, b1, b2, UInt8.ofNat (0x80 + c % 64)]⟩ := by
    unfold Utf8.encode
    simp only [← hcd, if_neg (show ¬ c < 0x80 by omega), if_neg h1, if_neg h2]
    exact ⟨_, _, _, rfl⟩
   obtain ⟨b0, b1, b2, he⟩ := he
   rw [he]
   exact ⟨3, _, rfl, by omega, by omega, hl c, rfl⟩
set_option maxHeartbeats 4000000 in
theorem He (w : World) (r : Int) (h : 128 ≤ r) (h2 : r ≤ 2147483647) :
  Calls Tryz.prog 232 #[.string jX, .int .i32 r] w fun e w' => e = .returned (.int .i64 (-1)) ∧ Up w w' := by
 have d1 : decide ((0 : Int) ≤ r) = true := decide_eq_true (by omega)
 have d2 : decide (r < (128 : Int)) = false := decide_eq_false (by omega)
 have HVR := aa (fun W => Go.Proofs.Any.utf8_ValidRune (ρ := Tryz.idxA_ren) { Tryz.idxA with } r W)
 by_cases h3 : r = 65533
 ·have d3 : (r == (65533 : Int)) = true := by simp [h3]
  clear h3
  go_enter Tryz.func232, Tryz.ntmps232
  go_wp2_with fail
  go_loopg [5, 6] 4 (fun g _ _ wx => ∃ i : Nat, i + g = 4 ∧ wx = w.iter jX i)
  case atStart => exact ⟨0, rfl, rfl⟩
  case round =>
   obtain ⟨i, hig, rfl⟩ := hrel
   cases gk with
   | zero =>
    obtain rfl : i = 4 := by omega
    have hnx := fun ty => run_next_end (P := Tryz.prog) w jX 4 ty (by decide)
    go_wp2_with fail
    go_ret
    exact ⟨rfl, Up.alloc _ _⟩
   | succ g =>
    have hi : i < 4 := by omega
    have hlt := UE i hi
    have hnx := fun ty => run_next_ascii (P := Tryz.prog) w jX i ty hi hlt
    generalize (jX[i]'hi).toNat = x at *
    have d4 : ((x : Int) == 65533) = false := by simp; omega
    go_wp2_with fail
    go_roundg g
    case measure => omega
    case rel => exact ⟨i + 1, by omega, rfl⟩
 ·have d3 : (r == (65533 : Int)) = false := by simp [h3]
  clear h3
  obtain ⟨n, lb, Wt, n1, n3, hlb, YA⟩ := SB r h
  go_enter Tryz.func232, Tryz.ntmps232
  go_wp2_with fail
  refine (HVR.out _).mono ?_
  rintro e w2 ⟨rfl, rfl⟩
  cases hv : Lib.validRune r
  ·go_wp2_with fail
   go_ret
   exact ⟨rfl, Up.refl _⟩
  ·go_wp2_with fail
   have hsz : ((Utf8.encode r).size : Int) = (n : Int) + 1 := by omega
   have SC := hsz
   obtain ⟨nd, dZ⟩ : ∃ nd, nd = Utf8.encode r := ⟨_, rfl⟩
   have hlt : n < nd.size := by rw [dZ]; omega
   have hidx : nd[n]'hlt = lb := by subst dZ; exact YA
   rw [← dZ] at hsz
   have i3 : (n : Int) < (nd.size : Int) := by omega
   have i1 : (n : Int) < 4 := by omega
   have i2 : (0 : Int) ≤ (n : Int) := by omega
   have SD : n < 4 := by omega
   have w1 : wrap64 (n : Int) = (n : Int) := by unfold wrap64; omega
   have w2a : (n : Int) < (n : Int) + 1 := by omega
   have w3a : IntKind.i64.wrap ((n : Int) + 1) = (n : Int) + 1 := by rw [IntKind.wrap_i64]; omega
   have w3b : ((n : Int) + 1).toNat = n + 1 := by omega
   have w3c : (0 : Int) ≤ (n : Int) + 1 := by omega
   have w3d : (n : Int) + 1 ≤ 4 := by omega
   obtain ⟨cx, zb⟩ : ∃ cx, cx = jX[n]'SD := ⟨_, rfl⟩
   have hcx1 : cx.toNat < 128 := by rw [zb]; exact UE n SD
   have d5 : (((jX[n]'SD).toNat : Int) != (lb.toNat : Int)) = true := by rw [← zb]; simp; omega
   have HIB := aa (fun W => Go.Proofs.Any.strings_IndexByte (ρ := Tryz.idxA_ren) { Tryz.idxA with } (jX.extract (n + 1) 4) (lb.toNat : Int) W)
   have hback : ((lb.toNat : Int)).toNat.toUInt8 = lb := by simp
   rw [hback, VO (n + 1) hlb] at HIB
   have hsg : (jX.size : Int) = 4 := rfl
   have hsg2 : jX.size = 4 := rfl
   have GZ := aa dZ
   clear YA Wt zb dZ
   go_step3
   go_wp2_with fail
   rw [← GZ.out]
   clear GZ
   go_loop [9, 10, 11, 12] (fun i f _ _ => i = .int .i64 n ∧ f = .int .i64 0) (fun _ _ _ _ => 0)
   case atStart => exact ⟨rfl, rfl⟩
   case round =>
    obtain ⟨rfl, rfl⟩ := hrel
    go_wp2_with fail
    go_step3
    go_wp2_with fail
    refine dK (by kernel_rfl) 7 (fun _ => True) trivial (fun hS => ?_)
    simp only [List.size_toArray, List.length_cons, List.length_nil, Nat.reduceAdd, Array.replicate_succ, Array.replicate_zero, List.push_toArray, List.nil_append, List.cons_append]
    refine ag.take (i := 0) (v := ?yL) rfl (by kernel_rfl) (fun _ _ _ h => h) (by rfl) (fun w hSw => ?kY) hS ?yM
    case kY =>
     (try dsimp only at hSw)
     go_simp
     try with_reducible rfl
    try simp only [Act.put, aj, aq, au]
    refine ag.take (i := 1) (v := ?yN) rfl (by kernel_rfl) (fun _ _ _ h => h) (by rfl) (fun w hSw => ?kZ) hS ?yO
    case kZ =>
     (try dsimp only at hSw)
     go_simp
     try with_reducible rfl
    try simp only [Act.put, aj, aq, au]
    refine ag.take (i := 2) (v := ?Bv) rfl (by kernel_rfl) (fun _ _ _ h => h) (by rfl) (fun w hSw => ?nI) hS ?Bw
    case nI =>
     (try dsimp only at hSw)
     go_simp
     try with_reducible rfl
    try simp only [Act.put, aj, aq, au]
    refine ag.take (i := 3) (v := ?Bz) rfl (by kernel_rfl) (fun _ _ _ h => h) (by rfl) (fun w hSw => ?nJ) hS ?BA
    case nJ =>
     (try dsimp only at hSw)
     go_simp
     try with_reducible rfl
    try simp only [Act.put, aj, aq, au]
    refine ag.take (i := 4) (v := ?BB) rfl (by kernel_rfl) (fun _ _ _ h => h) (by rfl) (fun w hSw => ?nK) hS ?BC
    case nK =>
     (try dsimp only at hSw)
     go_simp
     try with_reducible rfl
    try simp only [Act.put, aj, aq, au]
    refine ag.take (i := 5) (v := ?BD) rfl (by kernel_rfl) (fun _ _ _ h => h) (by rfl) (fun w hSw => ?nM) hS ?BF
    case nM =>
     (try dsimp only at hSw)
     go_simp
     try with_reducible rfl
    try simp only [Act.put, aj, aq, au]
    refine ag.step (i := 6) rfl (by kernel_rfl) (fun K' hK => ?_)
    go_simp
    refine hK.out _ _ (aP (by kernel_rfl)) (fun hS => ?_)
    refine ag.done (by kernel_rfl) ?_
    go_wp2_with fail
    refine dK (by kernel_rfl) 9 (fun _ => True) trivial (fun hS => ?_)
    simp only [List.size_toArray, List.length_cons, List.length_nil, Nat.reduceAdd, Array.replicate_succ, Array.replicate_zero, List.push_toArray, List.nil_append, List.cons_append]
    refine ag.take (i := 0) (v := ?gv0k2) rfl (by kernel_rfl) (fun _ _ _ h => h) (by rfl) (fun w hSw => ?Mv) hS ?gr0k2
    case Mv =>
     (try dsimp only at hSw)
     go_simp
     try with_reducible rfl
    try simp only [Act.put, aj, aq, au]
    refine ag.take (i := 1) (v := ?gv1k2) rfl (by kernel_rfl) (fun _ _ _ h => h) (by rfl) (fun w hSw => ?Mw) hS ?gr1k2
    case Mw =>
     (try dsimp only at hSw)
     go_simp
     try with_reducible rfl
    try simp only [Act.put, aj, aq, au]
    refine ag.take (i := 2) (v := ?gv2k2) rfl (by kernel_rfl) (fun _ _ _ h => h) (by rfl) (fun w hSw => ?Mx) hS ?gr2k2
    case Mx =>
     (try dsimp only at hSw)
     go_simp
     try with_reducible rfl
    try simp only [Act.put, aj, aq, au]
    refine ag.take (i := 3) (v := ?gv3k2) rfl (by kernel_rfl) (fun _ _ _ h => h) (by rfl) (fun w hSw => ?My) hS ?gr3k2
    case My =>
     (try dsimp only at hSw)
     go_simp
     try with_reducible rfl
    try simp only [Act.put, aj, aq, au]
    refine ag.take (i := 4) (v := ?gv4k2) rfl (by kernel_rfl) (fun _ _ _ h => h) (by rfl) (fun w hSw => ?Mz) hS ?gr4k2
    case Mz =>
     (try dsimp only at hSw)
     go_simp
     try with_reducible rfl
    try simp only [Act.put, aj, aq, au]
    refine ag.take (i := 5) (v := ?gv5k2) rfl (by kernel_rfl) (fun _ _ _ h => h) (by rfl) (fun w hSw => ?gy5k2) hS ?gr5k2
    case gy5k2 =>
     (try dsimp only at hSw)
     go_simp
     try with_reducible rfl
    try simp only [Act.put, aj, aq, au]
    refine ag.take (i := 6) (v := ?gv6k2) rfl (by kernel_rfl) (fun _ _ _ h => h) (by rfl) (fun w hSw => ?MA) hS ?gr6k2
    case MA =>
     (try dsimp only at hSw)
     go_simp
     try with_reducible rfl
    try simp only [Act.put, aj, aq, au]
    refine ag.step (i := 7) rfl (by kernel_rfl) (fun K' hK => ?_)
    go_simp
    refine (HIB.out _).mono ?_
    rintro e w4 ⟨rfl, rfl⟩
    refine hK.out _ _ (fun _ => trivial) (fun hS => ?_)
    try simp only [aj, aq, au]
    refine ag.step (i := 8) rfl (by kernel_rfl) (fun K' hK => ?_)
    go_simp
    refine hK.out _ _ (aP (by kernel_rfl)) (fun hS => ?_)
    refine ag.done (by kernel_rfl) ?_
    go_wp2_with fail
    simp +zetaDelta only [Exit.noGoto, Exit.inBlock, Exit.then]
    refine bodyPost_ret (results_tmp rfl _ _ _) rfl ?_
    exact ⟨rfl, (Up.drewN _ 1).trans (Up.drewN _ 1)⟩
end
section
open Go.RowKit Go.Deep
@[go_sem high] theorem run_max0_4 (w : World) (ts : Array TypeId) (t : TypeId) (k : IntKind) : (Builtin.max_ ts t #[.int k 0, .int k 0, .int k 0, .int k 0]).run Tryz.prog w = .ok (.int k 0) w := by
 simp [Builtin.max_, Builtin.max2]
@[go_sem high] theorem run_max0_5 (w : World) (ts : Array TypeId) (t : TypeId) (k : IntKind) : (Builtin.max_ ts t #[.int k 0, .int k 0, .int k 0, .int k 0, .int k 0]).run Tryz.prog w = .ok (.int k 0) w := by
 simp [Builtin.max_, Builtin.max2]
@[go_sem high] theorem run_max0_6 (w : World) (ts : Array TypeId) (t : TypeId) (k : IntKind) : (Builtin.max_ ts t #[.int k 0, .int k 0, .int k 0, .int k 0, .int k 0, .int k 0]).run Tryz.prog w = .ok (.int k 0) w := by
 simp [Builtin.max_, Builtin.max2]
@[go_sem high] theorem run_max0_7 (w : World) (ts : Array TypeId) (t : TypeId) (k : IntKind) : (Builtin.max_ ts t #[.int k 0, .int k 0, .int k 0, .int k 0, .int k 0, .int k 0, .int k 0]).run Tryz.prog w = .ok (.int k 0) w := by
 simp [Builtin.max_, Builtin.max2]
end
section
open Go.RowKit Go.Deep
theorem YB (s : ByteArray) (k : Nat) (h : k < s.size) : s.get! k = s[k]'h := by
 simp [ByteArray.get!, getElem!_pos, h]; rfl
theorem JJ (s : ByteArray) (pos : Nat) (h : pos < s.size) (ha : 128 ≤ (s[pos]'h).toNat) : 1 ≤ (Utf8.decode s pos).2 ∧ pos + (Utf8.decode s pos).2 ≤ s.size ∧ ∀ j, (hj : j < (Utf8.decode s pos).2) → ∀ hl : pos + j < s.size, 128 ≤ (s[pos + j]'hl).toNat := by
  have key : ∀ w : Nat, 1 ≤ w → w ≤ 4 → (∀ j, 1 ≤ j → j < w → pos + j < s.size ∧ (s.get! (pos + j)).toNat / 64 = 2) → 1 ≤ w ∧ pos + w ≤ s.size ∧ ∀ j, (hj : j < w) → ∀ hl : pos + j < s.size, 128 ≤ (s[pos + j]'hl).toNat := fun w h1 _ hc => by
    refine ⟨h1, ?_, fun j hj hl => ?_⟩
    · by_cases e : w = 1
      · omega
      · have := (hc (w - 1) (by omega) (by omega)).1; omega
    · by_cases e : j = 0
      · subst e; exact ha
      · have h2 := (hc j (by omega) hj).2
        rw [YB s _ hl] at h2
        omega
  have one := key 1 (Nat.le_refl _) (by omega) (fun j a b => by omega)
  have cont : ∀ k, (decide (pos + k < s.size) && (s.get! (pos + k)).toNat / 64 == 2) = true → pos + k < s.size ∧ (s.get! (pos + k)).toNat / 64 = 2 := fun k hk => by
    simp only [Bool.and_eq_true, decide_eq_true_eq, beq_iff_eq] at hk; exact hk
  have hn : ¬ (s[pos]'h).toNat < 128 := by omega
  unfold Utf8.decode
  simp only [get_at s pos h, hn, if_false]
  split
  · rename_i hb
    rw [Bool.and_eq_true] at hb
    split
    · exact key 2 (by omega) (by omega) fun j h1 h2 => by obtain rfl : j = 1 := by omega
                                                          exact cont 1 hb.2
    · exact one
  · split
    · rename_i hb
      rw [Bool.and_eq_true, Bool.and_eq_true] at hb
      split
      · exact key 3 (by omega) (by omega) fun j h1 h2 => by
          by_cases e : j = 1
          · subst e; exact cont 1 hb.1.2
          · obtain rfl : j = 2 := by omega
            exact cont 2 hb.2
      · exact one
    · split
      · rename_i hb
        rw [Bool.and_eq_true, Bool.and_eq_true, Bool.and_eq_true] at hb
        split
        · exact key 4 (by omega) (by omega) fun j h1 h2 => by
            by_cases e : j = 1
            · subst e; exact cont 1 hb.1.1.2
            · by_cases e2 : j = 2
              · subst e2; exact cont 2 hb.1.2
              · obtain rfl : j = 3 := by omega
                exact cont 3 hb.2
        · exact one
      · exact one
theorem MB {s : ByteArray} {i d : Nat} (h : Lib.NoAny s.data.toList dW i) (hs : i + d ≤ s.size) (hb : ∀ j, (hj : j < d) → ∀ hl : i + j < s.size, 128 ≤ (s[i + j]'hl).toNat) : Lib.NoAny s.data.toList dW (i + d) := fun j b hj hx => by
 by_cases e : j < i
 ·exact h j b e hx
 ·obtain ⟨d2, rfl⟩ : ∃ d2, j = i + d2 := ⟨j - i, by omega⟩
  have hl : i + d2 < s.size := by omega
  have h1 := hb d2 (by omega) hl
  rw [Lib.data_getElem? s (i + d2) hl] at hx
  injection hx with hx
  have h3 : 128 ≤ b.toNat := by rw [← hx]; exact h1
  cases hc : dW.contains b with
  | false => rfl
  | true =>
   have hm := List.contains_iff_mem.1 hc
   simp only [dW, List.mem_cons, List.not_mem_nil, or_false] at hm
   rcases hm with rfl | rfl | rfl | rfl <;> exact absurd h3 (by decide)
set_option maxHeartbeats 8000000 in
theorem JK (s : ByteArray) (w : World) (hs : s.size ≤ 1000) : Calls Tryz.prog 176 #[.string s, .string jX] w fun e w' => e = .returned (.int .i64 (Lib.indexAny s.data.toList dW)) ∧ Up w w' := by
 by_cases h8 : 8 < s.size
 ·have h := Go.Proofs.Any.strings_IndexAny_long (ρ := Tryz.idxA_ren) Tryz.idxA (zero_of_info (P := Tryz.prog) (t := 230) (v := .agg (Array.replicate 256 (.bool false))) (n := 256) (by kernel_rfl)).1 (zero_of_info (P := Tryz.prog) (t := 230) (v := .agg (Array.replicate 256 (.bool false))) (n := 256) (by kernel_rfl)).2 s jX w (by decide) h8 (by omega) (by decide) (by
   intro j b hb
   have hm := List.mem_of_getElem? hb
   have hall : ∀ x ∈ jX.data.toList, x.toNat < 128 := by decide +kernel
   exact hall b hm)
  refine h.mono ?_
  rintro e w' ⟨rfl, rfl⟩
  exact ⟨rfl, (Up.alloc _ _).trans (Up.alloc _ _)⟩
 ·have h8z : decide ((8 : Int) < (s.size : Int)) = false := decide_eq_false (by omega)
  have UD := aa (fun W => Go.Proofs.Any.strings_shouldUseASCIISet (ρ := Tryz.idxA_ren) { Tryz.idxA with } (s.size : Int) W)
  rw [h8z] at UD
  have kr := aa He
  have HIL := aa (fun (x : UInt8) (h : x.toNat < 128) W => Go.Proofs.Any.strings_IndexRune_ascii (ρ := Tryz.idxA_ren) { Tryz.idxA with } jX (x.toNat : Int) W (by omega) (by omega))
  have CX : ((jX.size : Int) == 1) = false := rfl
  have hemp : (jX.toList == []) = false := by decide +kernel
  clear h8
  go_enter Tryz.func176, Tryz.ntmps176
  go_wp2_with fail
  refine (UD.out _).mono ?_
  rintro e w2 ⟨rfl, rfl⟩
  go_wp2_with fail
  go_loopg [9, 10] s.size (fun g _ _ wx => ∃ i : Nat, i + g = s.size ∧ wx.heap[w2.heap.size]? = some (.stringIter s i) ∧ Hid (Up w2 wx) ∧ Hid (Lib.NoAny s.data.toList dW i))
  case atStart => exact ⟨0, by omega, World.iter_heap _ _ _, Up.alloc _ _, Lib.NoAny.zero _ _⟩
  case round =>
   obtain ⟨i, hig, hit, aW, hno⟩ := hrel
   obtain ⟨wo, rfl⟩ : ∃ wo : World, wo = wr := ⟨_, rfl⟩
   by_cases hi : i < s.size
   ·have hnx := fun ty => Lib.run_next_any_at (P := Tryz.prog) wo w2.heap.size s i ty hit hi
    have MC := Lib.iterAt_heap wo w2.heap.size s i (i + (Utf8.decode s i).2) hit
    have UF := aa MC
    have bU : Hid (Up w2 (wo.iterAt w2.heap.size s (i + (Utf8.decode s i).2))) := Lib.below_iterAt aW.out (Nat.le_refl _) _ _
    have HDL := aa (decode_le s i)
    obtain ⟨x, hx⟩ : ∃ x : UInt8, s[i]'hi = x := ⟨_, rfl⟩
    have hxl : s.data.toList[i]? = some x := by rw [← hx]; exact Lib.data_getElem? s i hi
    have wG := aa hxl
    have HG := aa hig
    have HI := aa hi
    by_cases ha : 128 ≤ x.toNat
    ·obtain ⟨k1, k2, k3⟩ := JJ s i hi (by rw [hx]; exact ha)
     have h1 := (decode_high s i hi (by rw [hx]; exact ha)).1
     have pQ := aa (MB hno.out k2 k3)
     have HK := aa k1
     have s5 := aa k2
     have HC := aa (kr.out (wo.iterAt w2.heap.size s (i + (Utf8.decode s i).2)) ((Utf8.decode s i).1 : Int) (by omega) (by have := HDL.out; omega))
     clear hit MC aW hno hxl hx hi hig k1 k2 k3 ha h1
     generalize (Utf8.decode s i).1 = rn at *
     generalize (Utf8.decode s i).2 = wd at *
     go_wp2_with fail
     refine HC.out.mono ?_
     rintro e w5 ⟨rfl, fh⟩
     have gH : Hid (Up w2 w5) := bU.out.trans fh
     have HIT5 : Hid (w5.heap[w2.heap.size]? = some (.stringIter s (i + wd))) := (Below.block fh w2.heap.size (Array.getElem?_eq_some_iff.1 UF.out).1).trans UF.out
     clear fh
     go_wp2_with fail
     go_roundg (s.size - (i + wd))
     case measure => have := HG.out; have := HK.out; have := s5.out; omega
     case rel => exact ⟨i + wd, by have := s5.out; omega, HIT5.out, gH.out, pQ.out⟩
    ·have h1 : Utf8.decode s i = (x.toNat, 1) := by rw [decode_ascii s i hi (by rw [hx]; omega), hx]
     rw [h1] at hnx UF bU
     have HC := aa (HIL.out x (by omega) (wo.iterAt w2.heap.size s (i + 1)))
     have hback : ((x.toNat : Int)).toNat.toUInt8 = x := by simp
     rw [hback] at HC
     have hcon := Lib.contains_iff_indexByte dW x
     cases hin : dW.contains x
     ·have hlt : decide ((0 : Int) ≤ Lib.indexByte jX.data.toList x) = false := by rw [hin] at hcon; exact hcon.symm
      have pQ := aa (hno.out.succ hxl hin)
      clear hit MC aW hno hxl hx hi hig ha h1 hcon
      generalize Lib.indexByte jX.data.toList x = ib at *
      go_wp2_with fail
      refine HC.out.mono ?_
      rintro e w5 ⟨rfl, rfl⟩
      go_wp2_with fail
      go_roundg (s.size - (i + 1))
      case measure => have := HG.out; have := HI.out; omega
      case rel => exact ⟨i + 1, by have := HI.out; omega, UF.out, bU.out, pQ.out⟩
     ·have hlt : decide ((0 : Int) ≤ Lib.indexByte jX.data.toList x) = true := by rw [hin] at hcon; exact hcon.symm
      have HR : Hid (Lib.indexAny s.data.toList dW = (i : Int)) := Lib.indexAny_hit hno.out hxl hin
      clear hit MC aW hno hxl hx hi hig ha h1 hcon
      generalize Lib.indexByte jX.data.toList x = ib at *
      go_wp2_with fail
      refine HC.out.mono ?_
      rintro e w5 ⟨rfl, rfl⟩
      go_wp2_with fail
      go_ret
      exact ⟨by rw [HR.out]; rfl, bU.out⟩
   ·have hnx := fun ty => Lib.run_next_end_at (P := Tryz.prog) wo w2.heap.size s i ty hit hi
    have YC : i = s.size := by omega
    have HR : Hid (Lib.indexAny s.data.toList dW = -1) := Lib.indexAny_none (by rw [← Lib.size_eq, ← YC]; exact hno.out)
    have HUP := aa aW.out
    clear hit aW hno hi hig YC
    go_wp2_with fail
    go_ret
    exact ⟨by rw [HR.out]; rfl, HUP.out⟩
theorem UG (s : ByteArray) (hs : s.size ≤ 1000) : Yj s := fun i W hi => by
 have h := JK (s.extract i s.size) W (by rw [ByteArray.size_extract]; omega)
 have e : (s.extract i s.size).data.toList = s.data.toList.drop i := by
  rw [ByteArray.data_extract, Array.toList_extract]
  exact List.take_of_length_le (by rw [List.length_drop, Array.length_toList]; exact Nat.le_refl _)
 rw [e] at h
 exact h
end
section
open Go.RowKit Go.Deep
end
section
def Hf (r : RT) (X : ByteArray → Prop) : Prop := ∃ s ∈ subR r, ∀ x, X x ↔ x ∈ aZ s
theorem MD {F : aT} {n : Nat} {rk : Nat → Nat} (h : Wf F n rk) {z : Nat} (hz : z < n) {x : ByteArray} : x ∈ aZ (aR F rk z) ↔ ∃ j, j < n ∧ bK F rk z j = true ∧ (F.nm j).size ≠ 0 ∧ x = F.nm j := by
 unfold aZ
 rw [GY h hz, List.mem_filter, List.mem_map]
 constructor
 ·rintro ⟨⟨j, hj, rfl⟩, h0⟩
  have hs := (cU h hz (Nat.le_refl _)).1 hj
  exact ⟨j, mQ h hz (Nat.le_refl _) hs, hs, of_decide_eq_true h0, rfl⟩
 ·rintro ⟨j, _, hs, h0, rfl⟩
  exact ⟨⟨j, (cU h hz (Nat.le_refl _)).2 hs, rfl⟩, decide_eq_true h0⟩
section
variable {t : aA} {leaf : Nat}
theorem VP (h : aB t = 0) {z : Nat} (hz : z < t.ps.length) {x : ByteArray} : x ∈ aZ (aR (cF t) (bM t) z) ↔ ∃ j, j < t.ps.length ∧ dm t.ps z j = true ∧ (gs t.ns j).size ≠ 0 ∧ x = gs t.ns j := by
 rw [MD (cg h).wf hz]
 constructor
 ·rintro ⟨j, hj, hs, h0, e⟩
  exact ⟨j, hj, by rw [← qO h _ z j (Nat.le_refl _) hz hj]; exact hs, h0, e⟩
 ·rintro ⟨j, hj, hs, h0, e⟩
  exact ⟨j, hj, by rw [qO h _ z j (Nat.le_refl _) hz hj]; exact hs, h0, e⟩
theorem cK.inj (h : cK t leaf) {a b : Nat} (ha : a < t.ps.length) (hb : b < t.ps.length) (h0 : (gs t.ns a).size ≠ 0) (e : gs t.ns a = gs t.ns b) : a = b := by
 have ea : (sW t leaf).nm a = gs t.ns a := upd_ne _ _ (by omega)
 have eb : (sW t leaf).nm b = gs t.ns b := upd_ne _ _ (by omega)
 exact Sj h a b (by omega) (by omega) (by rw [ea]; exact h0) (by rw [ea, eb]; exact e)
end
end
section
open Go.RowKit Go.Deep
end
section
open Go.RowKit Go.Deep
def qG (t : aA) (n : Nat) : Bool := (decide (n < t.ps.length) && decide (t.ps.length ≤ 64)) || decide (66 < t.ps.length) || decide (t.ps.length + 2 < t.ns.length) || (List.range t.ns.length).any fun k => decide (20 < (gs t.ns k).size)
set_option maxHeartbeats 2000000 in
theorem Pp (S : Nat → Prop) (w : World) (v : Value) (t : aA) (n : Nat) (hT : aG S w v t) (hp : t.ps.length ≤ 9223372036854775807) (hn : t.ns.length ≤ 9223372036854775807) (hz : ∀ k, (gs t.ns k).size ≤ 9223372036854775807) :
  Calls Tryz.prog 64 #[v, .int .i64 n] w fun e w' => e = .returned (.bool (qG t n)) ∧ Below w.heap.size w w' := by
 obtain ⟨P, N, rfl, hP, hN⟩ := hT
 have hu := Up.alloc w (.cells #[P, N] 39)
 have HU := aa hu
 have HN := aa (ay.keep hN (hu.kept S))
 obtain ⟨pp, pc, rfl, _, _⟩ := av.open hP
 obtain ⟨np, nc, rfl, _, _⟩ := av.open hN
 have gm := aa (cB w (.slice pp t.ps.length pc) (.slice np t.ns.length nc) 39)
 have gz := aa (cI w (.slice pp t.ps.length pc) (.slice np t.ns.length nc) 39)
 have hc0 := gm.out
 have hc1 := gz.out
 have HZ := aa hz
 have HE : Hid (qG t n = ((decide (n < t.ps.length) && decide (t.ps.length ≤ 64)) || decide (66 < t.ps.length) || decide (t.ps.length + 2 < t.ns.length) || (List.range t.ns.length).any fun k => decide (20 < (gs t.ns k).size))) := rfl
 clear hu hP hN hz
 generalize qG t n = r at *
 obtain ⟨ps, ns⟩ := t
 simp only at *
 generalize ps.length = m at *
 go_enter Tryz.func64, Tryz.ntmps64
 go_wp2_with fail
 all_goals generalize w.alloc (.cells #[.slice pp m pc, .slice np ns.length nc] 39) = w1 at *
 all_goals try (go_ret; exact ⟨aO (by rw [HE.out]; clear HE; symm; simp; omega), HU.out⟩)
 all_goals have HT : Hid (∀ k, k < ns.length → decide (20 < (gs ns k).size) = true → r = true) := fun k hk hb => by rw [HE.out, AW (p := fun k => decide (20 < (gs ns k).size)) hk hb]; simp
 all_goals have HF : Hid ((∀ k, k < ns.length → decide (20 < (gs ns k).size) = false) → r = false) := fun hb => by rw [HE.out, any_none (p := fun k => decide (20 < (gs ns k).size)) hb]; clear HE; simp; omega
 all_goals clear HE
 all_goals go_loop [5] (fun i => ∃ k : Nat, k ≤ ns.length ∧ i = .int .i64 k ∧ Hid (∀ j, j < k → decide (20 < (gs ns j).size) = false)) (fun i => ns.length - (intOf i).toNat)
 case atStart => exact ⟨0, Nat.zero_le _, rfl, fun j hj => absurd hj (Nat.not_lt_zero _)⟩
 case atStart => exact ⟨0, Nat.zero_le _, rfl, fun j hj => absurd hj (Nat.not_lt_zero _)⟩
 all_goals
  obtain ⟨k, hk, rfl, hd⟩ := hrel
  by_cases hlt : k < ns.length
  ·obtain ⟨b, off, rfl, hc⟩ := cC HN.out hlt
   have i1 : (0 : Int) ≤ (k : Int) := by omega
   have i2 : (k : Int) < (ns.length : Int) := by omega
   have AZ := HZ.out k
   have xH := aa (HT.out k hlt)
   have UH : Hid (decide (20 < (gs ns k).size) = false → ∀ j, j < k + 1 → decide (20 < (gs ns j).size) = false) := fun hx j hj => if e : j = k then by subst e; exact hx else hd.out j (by omega)
   generalize gs ns k = y at *
   by_cases h1 : 20 < y.size
   ·have e0 : decide ((20 : Int) < (y.size : Int)) = true := by simp; omega
    have HQ := aa (xH.out (by simpa using h1))
    clear h1
    go_wp2_with fail
    go_ret
    exact ⟨aO HQ.out.symm, HU.out⟩
   ·have e0 : decide ((20 : Int) < (y.size : Int)) = false := by simp; omega
    have HQ := aa (UH.out (by simpa using h1))
    clear h1
    go_wp2_with fail
    go_round
    case rel => exact ⟨k + 1, by omega, by go_num, HQ.out⟩
    case measure => simp [intOf]; omega
  ·obtain rfl : k = ns.length := by omega
   have HQ := aa (HF.out hd.out)
   clear hlt hk
   go_wp2_with fail
   go_ret
   exact ⟨aO HQ.out.symm, HU.out⟩
end
section
theorem gC.sub {r s : RT} (h : gC r) (hs : s ∈ subR r) : gC s :=
 ⟨fun q hq => h.uz q (fZ r hs hq), fun q hq => h.lf q (fZ r hs hq), (bZ hs).nodup h.nd⟩
theorem YD {r1 r2 : RT} (o1 : jf r1) (o2 : jf r2) (h : ∀ X, Hf r1 X ↔ Hf r2 X) : sortR r1 = sortR r2 :=
 xQ _ r1 r2 (Nat.le_refl _) o1 o2 (fun s hs => by
  obtain ⟨u, hu, e⟩ := (h _).1 ⟨s, hs, fun _ => Iff.rfl⟩
  exact ⟨u, hu, e⟩) (fun s hs => by
  obtain ⟨u, hu, e⟩ := (h _).2 ⟨s, hs, fun _ => Iff.rfl⟩
  exact ⟨u, hu, e⟩)
theorem gC.meet {r s : RT} (h : gC r) (hs : s ∈ subR r) : ∃ x, x ∈ aZ s := by
 obtain ⟨l, hl⟩ := (h.sub hs).head
 exact ⟨firstR s, by rw [hl]; simp⟩
section
variable {r q : RT} {a b : ByteArray}
end
section
variable {t : aA} {leaf : Nat}
end
end
section
open Go.RowKit Go.Deep
end
section
open Go.RowKit Go.Deep
section
variable {P : Program} {ops : Array Oper} {Q : Exit → Act → World → Prop} {md : Region.Mode} {S : World → Prop} {t : Nat}
end
end
section
section
variable {t : aA} {leaf : Nat}
end
end
section
section
variable {t : aA}
end
end
end Go.Proofs.YtpnmblnahjjmhaaGreat
