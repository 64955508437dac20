/- strings.IndexRune: a rune above ASCII is not among the four signs. The helpers of the .. -/
import Derived.Test.YteegefnjnikngaaGreatQ31
import Derived.Test.YteegefnjnikngaaGreatQ13
import Derived.Test.YteegefnjnikngaaGreatQ8
import Derived.Laws.RangeAny
import Derived.WalkMore
import Derived.Shelf.Small.Utf8
import Derived.Shelf.Small.Strs
import Derived.Test.YteegefnjnikngaaGreatQ32
import Derived.Test.YteegefnjnikngaaGreatQ2
import Derived.Test.YteegefnjnikngaaGreatQ3
import Derived.Test.YteegefnjnikngaaGreatQ6
import Derived.Test.YteegefnjnikngaaGreatQ27
import Derived.Test.YteegefnjnikngaaGreatQ7
import Derived.Test.YteegefnjnikngaaGreatQ17
import Derived.Test.YteegefnjnikngaaGreatQ22
import Derived.Test.YteegefnjnikngaaGreatQ33
import Derived.Lib.OthersKept
import Derived.Test.YteegefnjnikngaaGreatQ26
import Derived.Test.YteegefnjnikngaaGreatQ29
import Derived.Deep.RegionHeld3
import Derived.Test.YteegefnjnikngaaGreatQ16
import Derived.Test.YteegefnjnikngaaGreatQ25
import Derived.Test.YteegefnjnikngaaGreatQ1
import Derived.Shelf.SlGeneric
import Derived.Shelf.Slices.SearchI
import Derived.Ground.Names2Prog
import Derived.Test.YteegefnjnikngaaGreatProg
set_option maxRecDepth 100000
namespace Go.Proofs.YteegefnjnikngaaGreat
section
open Go.RowKit Go.Deep
def je : ByteArray := ⟨#[40, 41, 44, 59]⟩
theorem PX : ∀ i, (h : i < 4) → (je[i]'h).toNat < 128 := by decide +kernel
theorem Q9 (j : Nat) {b : UInt8} (h : 128 ≤ b.toNat) : Lib.indexByte ((je.extract j 4).data.toList) b = -1 := by
 have key : ∀ l : List UInt8, b ∉ l → Lib.indexByte l b = -1 := fun l => by
  induction l with
  | nil => intro _; rfl
  | cons a l ih =>
   intro hm
   have h1 : a ≠ b := fun e => hm (by rw [e]; exact List.mem_cons_self)
   have h2 := ih fun h => hm (List.mem_cons_of_mem _ h)
   rw [Lib.indexByte, if_neg (by simpa using h1), h2]; rfl
 refine key _ fun hm => ?_
 rw [ByteArray.data_extract, Array.toList_extract] at hm
 have hm2 : b ∈ je.data.toList := List.mem_of_mem_drop (List.mem_of_mem_take hm)
 have hall : ∀ x ∈ je.data.toList, x.toNat < 128 := by decide +kernel
 have := hall b hm2
 omega
def Ob (s : ByteArray) : Prop := ∃ n : Nat, ∃ lb : UInt8, ∃ hs : s.size = n + 1, 1 ≤ n ∧ n ≤ 3 ∧ 128 ≤ lb.toNat ∧ s[n]'(by omega) = lb
theorem Oc (r : Int) (h : 128 ≤ r) : Ob (Utf8.encode r) := by
 obtain ⟨c, hcd⟩ : ∃ c, c = if Utf8.valid r then r.toNat else Utf8.runeError := ⟨_, rfl⟩
 have hc : 128 ≤ c := by
  rw [hcd]
  split
  ·omega
  ·decide
 have hl : ∀ c : Nat, 128 ≤ (UInt8.ofNat (0x80 + c % 64)).toNat := fun c => by
  rw [UInt8.toNat_ofNat']; omega
 by_cases h1 : c < 0x800
 ·have he : ∃ b0, Utf8.encode r = ⟨#[b0, UInt8.ofNat (0x80 + c % 64)]⟩ := by
   unfold Utf8.encode
   simp only [← hcd, if_neg (show ¬ c < 0x80 by omega), if_pos h1]
   exact ⟨_, rfl⟩
  obtain ⟨b0, he⟩ := he
  rw [he]
  exact ⟨1, _, rfl, by omega, by omega, hl c, rfl⟩
 ·by_cases h2 : c < 0x10000
  ·have he : ∃ b0 b1, Utf8.encode r = ⟨#[b0, b1, UInt8.ofNat (0x80 + c % 64)]⟩ := by
    unfold Utf8.encode
    simp only [← hcd, if_neg (show ¬ c < 0x80 by omega), if_neg h1, if_pos h2]
    exact ⟨_, _, rfl⟩
   obtain ⟨b0, b1, he⟩ := he
   rw [he]
   exact ⟨2, _, rfl, by omega, by omega, hl c, rfl⟩
  ·have he : ∃ b0 b1 b2, Utf8.encode r = ⟨#[b0, b1, b2, UInt8.ofNat (0x80 + c % 64)]⟩ := by
    unfold Utf8.encode
    simp only [← hcd, if_neg (show ¬ c < 0x80 by omega), if_neg h1, if_neg h2]
    exact ⟨_, _, _, rfl⟩
   obtain ⟨b0, b1, b2, he⟩ := he
   rw [he]
   exact ⟨3, _, rfl, by omega, by omega, hl c, rfl⟩
set_option maxHeartbeats 4000000 in
theorem EB (w : World) (r : Int) (h : 128 ≤ r) (h2 : r ≤ 2147483647) :
  Calls Tryz.prog 232 #[.string je, .int .i32 r] w fun e w' => e = .returned (.int .i64 (-1)) ∧ Up w w' := by
 have d1 : decide ((0 : Int) ≤ r) = true := decide_eq_true (by omega)
 have d2 : decide (r < (128 : Int)) = false := decide_eq_false (by omega)
 have HVR := aa (fun W => Go.Proofs.Any.utf8_ValidRune (ρ := Tryz.idxA_ren) { Tryz.idxA with } r W)
 by_cases h3 : r = 65533
 ·have d3 : (r == (65533 : Int)) = true := by simp [h3]
  clear h3
  go_enter Tryz.func232, Tryz.ntmps232
  go_wp2_with fail
  go_loopg [5, 6] 4 (fun g _ _ wx => ∃ i : Nat, i + g = 4 ∧ wx = w.iter je i)
  case atStart => exact ⟨0, rfl, rfl⟩
  case round =>
   obtain ⟨i, hig, rfl⟩ := hrel
   cases gk with
   | zero =>
    obtain rfl : i = 4 := by omega
    have hnx := fun ty => run_next_end (P := Tryz.prog) w je 4 ty (by decide)
    go_wp2_with fail
    go_ret
    exact ⟨rfl, Up.alloc _ _⟩
   | succ g =>
    have hi : i < 4 := by omega
    have hlt := PX i hi
    have hnx := fun ty => run_next_ascii (P := Tryz.prog) w je i ty hi hlt
    generalize (je[i]'hi).toNat = x at *
    have d4 : ((x : Int) == 65533) = false := by simp; omega
    go_wp2_with fail
    go_roundg g
    case measure => omega
    case rel => exact ⟨i + 1, by omega, rfl⟩
 ·have d3 : (r == (65533 : Int)) = false := by simp [h3]
  clear h3
  obtain ⟨n, lb, kX, n1, n3, hlb, U8⟩ := Oc r h
  go_enter Tryz.func232, Tryz.ntmps232
  go_wp2_with fail
  refine (HVR.out _).mono ?_
  rintro e w2 ⟨rfl, rfl⟩
  cases hv : Lib.validRune r
  ·go_wp2_with fail
   go_ret
   exact ⟨rfl, Up.refl _⟩
  ·go_wp2_with fail
   have hsz : ((Utf8.encode r).size : Int) = (n : Int) + 1 := by omega
   have hsz0 := hsz
   obtain ⟨nd, fF⟩ : ∃ nd, nd = Utf8.encode r := ⟨_, rfl⟩
   have hlt : n < nd.size := by rw [fF]; omega
   have hidx : nd[n]'hlt = lb := by subst fF; exact U8
   rw [← fF] at hsz
   have i3 : (n : Int) < (nd.size : Int) := by omega
   have i1 : (n : Int) < 4 := by omega
   have i2 : (0 : Int) ≤ (n : Int) := by omega
   have Od : n < 4 := by omega
   have w1 : wrap64 (n : Int) = (n : Int) := by unfold wrap64; omega
   have w2a : (n : Int) < (n : Int) + 1 := by omega
   have w3a : IntKind.i64.wrap ((n : Int) + 1) = (n : Int) + 1 := by rw [IntKind.wrap_i64]; omega
   have w3b : ((n : Int) + 1).toNat = n + 1 := by omega
   have w3c : (0 : Int) ≤ (n : Int) + 1 := by omega
   have w3d : (n : Int) + 1 ≤ 4 := by omega
   obtain ⟨cx, lT⟩ : ∃ cx, cx = je[n]'Od := ⟨_, rfl⟩
   have hcx1 : cx.toNat < 128 := by rw [lT]; exact PX n Od
   have d5 : (((je[n]'Od).toNat : Int) != (lb.toNat : Int)) = true := by rw [← lT]; simp; omega
   have ZG := aa (fun W => Go.Proofs.Any.strings_IndexByte (ρ := Tryz.idxA_ren) { Tryz.idxA with } (je.extract (n + 1) 4) (lb.toNat : Int) W)
   have hback : ((lb.toNat : Int)).toNat.toUInt8 = lb := by simp
   rw [hback, Q9 (n + 1) hlb] at ZG
   have hsg : (je.size : Int) = 4 := rfl
   have hsg2 : je.size = 4 := rfl
   have Lj := aa fF
   clear U8 kX lT fF
   go_step3
   go_wp2_with fail
   rw [← Lj.out]
   clear Lj
   go_loop [9, 10, 11, 12] (fun i f _ _ => i = .int .i64 n ∧ f = .int .i64 0) (fun _ _ _ _ => 0)
   case atStart => exact ⟨rfl, rfl⟩
   case round =>
    obtain ⟨rfl, rfl⟩ := hrel
    go_wp2_with fail
    go_step3
    go_wp2_with fail
    refine cZ (by kernel_rfl) 7 (fun _ => True) trivial (fun hS => ?_)
    simp only [List.size_toArray, List.length_cons, List.length_nil, Nat.reduceAdd, Array.replicate_succ, Array.replicate_zero, List.push_toArray, List.nil_append, List.cons_append]
    refine af.take (i := 0) (v := ?sH) rfl (by kernel_rfl) (fun _ _ _ h => h) (by rfl) (fun w hSw => ?iD) hS ?sI
    case iD =>
     (try dsimp only at hSw)
     go_simp
     try with_reducible rfl
    try simp only [Act.put, ah, aj, aq]
    refine af.take (i := 1) (v := ?sJ) rfl (by kernel_rfl) (fun _ _ _ h => h) (by rfl) (fun w hSw => ?iE) hS ?sK
    case iE =>
     (try dsimp only at hSw)
     go_simp
     try with_reducible rfl
    try simp only [Act.put, ah, aj, aq]
    refine af.take (i := 2) (v := ?vE) rfl (by kernel_rfl) (fun _ _ _ h => h) (by rfl) (fun w hSw => ?jC) hS ?vF
    case jC =>
     (try dsimp only at hSw)
     go_simp
     try with_reducible rfl
    try simp only [Act.put, ah, aj, aq]
    refine af.take (i := 3) (v := ?vG) rfl (by kernel_rfl) (fun _ _ _ h => h) (by rfl) (fun w hSw => ?jD) hS ?vH
    case jD =>
     (try dsimp only at hSw)
     go_simp
     try with_reducible rfl
    try simp only [Act.put, ah, aj, aq]
    refine af.take (i := 4) (v := ?vI) rfl (by kernel_rfl) (fun _ _ _ h => h) (by rfl) (fun w hSw => ?jE) hS ?vJ
    case jE =>
     (try dsimp only at hSw)
     go_simp
     try with_reducible rfl
    try simp only [Act.put, ah, aj, aq]
    refine af.take (i := 5) (v := ?vK) rfl (by kernel_rfl) (fun _ _ _ h => h) (by rfl) (fun w hSw => ?jF) hS ?vL
    case jF =>
     (try dsimp only at hSw)
     go_simp
     try with_reducible rfl
    try simp only [Act.put, ah, aj, aq]
    refine af.step (i := 6) rfl (by kernel_rfl) (fun K' hK => ?_)
    go_simp
    refine hK.out _ _ (aJ (by kernel_rfl)) (fun hS => ?_)
    refine af.done (by kernel_rfl) ?_
    go_wp2_with fail
    refine cZ (by kernel_rfl) 9 (fun _ => True) trivial (fun hS => ?_)
    simp only [List.size_toArray, List.length_cons, List.length_nil, Nat.reduceAdd, Array.replicate_succ, Array.replicate_zero, List.push_toArray, List.nil_append, List.cons_append]
    refine af.take (i := 0) (v := ?Xf) rfl (by kernel_rfl) (fun _ _ _ h => h) (by rfl) (fun w hSw => ?I2) hS ?Xg
    case I2 =>
     (try dsimp only at hSw)
     go_simp
     try with_reducible rfl
    try simp only [Act.put, ah, aj, aq]
    refine af.take (i := 1) (v := ?Xh) rfl (by kernel_rfl) (fun _ _ _ h => h) (by rfl) (fun w hSw => ?I3) hS ?Xi
    case I3 =>
     (try dsimp only at hSw)
     go_simp
     try with_reducible rfl
    try simp only [Act.put, ah, aj, aq]
    refine af.take (i := 2) (v := ?Xj) rfl (by kernel_rfl) (fun _ _ _ h => h) (by rfl) (fun w hSw => ?I4) hS ?Xk
    case I4 =>
     (try dsimp only at hSw)
     go_simp
     try with_reducible rfl
    try simp only [Act.put, ah, aj, aq]
    refine af.take (i := 3) (v := ?Xl) rfl (by kernel_rfl) (fun _ _ _ h => h) (by rfl) (fun w hSw => ?I5) hS ?Xm
    case I5 =>
     (try dsimp only at hSw)
     go_simp
     try with_reducible rfl
    try simp only [Act.put, ah, aj, aq]
    refine af.take (i := 4) (v := ?Xn) rfl (by kernel_rfl) (fun _ _ _ h => h) (by rfl) (fun w hSw => ?I6) hS ?Xo
    case I6 =>
     (try dsimp only at hSw)
     go_simp
     try with_reducible rfl
    try simp only [Act.put, ah, aj, aq]
    refine af.take (i := 5) (v := ?Xp) rfl (by kernel_rfl) (fun _ _ _ h => h) (by rfl) (fun w hSw => ?I7) hS ?Xq
    case I7 =>
     (try dsimp only at hSw)
     go_simp
     try with_reducible rfl
    try simp only [Act.put, ah, aj, aq]
    refine af.take (i := 6) (v := ?Xr) rfl (by kernel_rfl) (fun _ _ _ h => h) (by rfl) (fun w hSw => ?I8) hS ?Xt
    case I8 =>
     (try dsimp only at hSw)
     go_simp
     try with_reducible rfl
    try simp only [Act.put, ah, aj, aq]
    refine af.step (i := 7) rfl (by kernel_rfl) (fun K' hK => ?_)
    go_simp
    refine (ZG.out _).mono ?_
    rintro e w4 ⟨rfl, rfl⟩
    refine hK.out _ _ (fun _ => trivial) (fun hS => ?_)
    try simp only [ah, aj, aq]
    refine af.step (i := 8) rfl (by kernel_rfl) (fun K' hK => ?_)
    go_simp
    refine hK.out _ _ (aJ (by kernel_rfl)) (fun hS => ?_)
    refine af.done (by kernel_rfl) ?_
    go_wp2_with fail
    simp +zetaDelta only [Exit.noGoto, Exit.inBlock, Exit.then]
    refine bodyPost_ret (results_tmp rfl _ _ _) rfl ?_
    exact ⟨rfl, (Up.drewN _ 1).trans (Up.drewN _ 1)⟩
end
section
open Go.RowKit Go.Deep
@[go_sem high] theorem Xu (w : World) (ts : Array TypeId) (t : TypeId) (k : IntKind) : (Builtin.max_ ts t #[.int k 0, .int k 0, .int k 0, .int k 0]).run Tryz.prog w = .ok (.int k 0) w := by
 simp [Builtin.max_, Builtin.max2]
@[go_sem high] theorem Xv (w : World) (ts : Array TypeId) (t : TypeId) (k : IntKind) : (Builtin.max_ ts t #[.int k 0, .int k 0, .int k 0, .int k 0, .int k 0]).run Tryz.prog w = .ok (.int k 0) w := by
 simp [Builtin.max_, Builtin.max2]
@[go_sem high] theorem Xw (w : World) (ts : Array TypeId) (t : TypeId) (k : IntKind) : (Builtin.max_ ts t #[.int k 0, .int k 0, .int k 0, .int k 0, .int k 0, .int k 0]).run Tryz.prog w = .ok (.int k 0) w := by
 simp [Builtin.max_, Builtin.max2]
@[go_sem high] theorem Xx (w : World) (ts : Array TypeId) (t : TypeId) (k : IntKind) : (Builtin.max_ ts t #[.int k 0, .int k 0, .int k 0, .int k 0, .int k 0, .int k 0, .int k 0]).run Tryz.prog w = .ok (.int k 0) w := by
 simp [Builtin.max_, Builtin.max2]
end
section
open Go.RowKit Go.Deep
theorem U9 (s : ByteArray) (k : Nat) (h : k < s.size) : s.get! k = s[k]'h := by
 simp [ByteArray.get!, getElem!_pos, h]; rfl
theorem FQ (s : ByteArray) (pos : Nat) (h : pos < s.size) (ha : 128 ≤ (s[pos]'h).toNat) : 1 ≤ (Utf8.decode s pos).2 ∧ pos + (Utf8.decode s pos).2 ≤ s.size ∧ ∀ j, (hj : j < (Utf8.decode s pos).2) → ∀ hl : pos + j < s.size, 128 ≤ (s[pos + j]'hl).toNat := by
  have key : ∀ w : Nat, 1 ≤ w → w ≤ 4 → (∀ j, 1 ≤ j → j < w → pos + j < s.size ∧ (s.get! (pos + j)).toNat / 64 = 2) → 1 ≤ w ∧ pos + w ≤ s.size ∧ ∀ j, (hj : j < w) → ∀ hl : pos + j < s.size, 128 ≤ (s[pos + j]'hl).toNat := fun w h1 _ hc => by
    refine ⟨h1, ?_, fun j hj hl => ?_⟩
    · by_cases e : w = 1
      · omega
      · have := (hc (w - 1) (by omega) (by omega)).1; omega
    · by_cases e : j = 0
      · subst e; exact ha
      · have h2 := (hc j (by omega) hj).2
        rw [U9 s _ hl] at h2
        omega
  have one := key 1 (Nat.le_refl _) (by omega) (fun j a b => by omega)
  have cont : ∀ k, (decide (pos + k < s.size) && (s.get! (pos + k)).toNat / 64 == 2) = true → pos + k < s.size ∧ (s.get! (pos + k)).toNat / 64 = 2 := fun k hk => by
    simp only [Bool.and_eq_true, decide_eq_true_eq, beq_iff_eq] at hk; exact hk
  have hn : ¬ (s[pos]'h).toNat < 128 := by omega
  unfold Utf8.decode
  simp only [get_at s pos h, hn, if_false]
  split
  · rename_i hb
    rw [Bool.and_eq_true] at hb
    split
    · exact key 2 (by omega) (by omega) fun j h1 h2 => by obtain rfl : j = 1 := by omega
                                                          exact cont 1 hb.2
    · exact one
  · split
    · rename_i hb
      rw [Bool.and_eq_true, Bool.and_eq_true] at hb
      split
      · exact key 3 (by omega) (by omega) fun j h1 h2 => by
          by_cases e : j = 1
          · subst e; exact cont 1 hb.1.2
          · obtain rfl : j = 2 := by omega
            exact cont 2 hb.2
      · exact one
    · split
      · rename_i hb
        rw [Bool.and_eq_true, Bool.and_eq_true, Bool.and_eq_true] at hb
        split
        · exact key 4 (by omega) (by omega) fun j h1 h2 => by
            by_cases e : j = 1
            · subst e; exact cont 1 hb.1.1.2
            · by_cases e2 : j = 2
              · subst e2; exact cont 2 hb.1.2
              · obtain rfl : j = 3 := by omega
                exact cont 3 hb.2
        · exact one
      · exact one
theorem I9 {s : ByteArray} {i d : Nat} (h : Lib.NoAny s.data.toList bu i) (hs : i + d ≤ s.size) (hb : ∀ j, (hj : j < d) → ∀ hl : i + j < s.size, 128 ≤ (s[i + j]'hl).toNat) : Lib.NoAny s.data.toList bu (i + d) := fun j b hj hx => by
 by_cases e : j < i
 ·exact h j b e hx
 ·obtain ⟨d2, rfl⟩ : ∃ d2, j = i + d2 := ⟨j - i, by omega⟩
  have hl : i + d2 < s.size := by omega
  have h1 := hb d2 (by omega) hl
  rw [Lib.data_getElem? s (i + d2) hl] at hx
  injection hx with hx
  have h3 : 128 ≤ b.toNat := by rw [← hx]; exact h1
  cases hc : bu.contains b with
  | false => rfl
  | true =>
   have hm := List.contains_iff_mem.1 hc
   simp only [bu, List.mem_cons, List.not_mem_nil, or_false] at hm
   rcases hm with rfl | rfl | rfl | rfl <;> exact absurd h3 (by decide)
set_option maxHeartbeats 8000000 in
theorem FR (s : ByteArray) (w : World) (hs : s.size ≤ 1000) : Calls Tryz.prog 179 #[.string s, .string je] w fun e w' => e = .returned (.int .i64 (Lib.indexAny s.data.toList bu)) ∧ Up w w' := by
 by_cases h8 : 8 < s.size
 ·have h := Go.Proofs.Any.strings_IndexAny_long (ρ := Tryz.idxA_ren) Tryz.idxA (zero_of_info (P := Tryz.prog) (t := 237) (v := .agg (Array.replicate 256 (.bool false))) (n := 256) (by kernel_rfl)).1 (zero_of_info (P := Tryz.prog) (t := 237) (v := .agg (Array.replicate 256 (.bool false))) (n := 256) (by kernel_rfl)).2 s je w (by decide) h8 (by omega) (by decide) (by
   intro j b hb
   have hm := List.mem_of_getElem? hb
   have hall : ∀ x ∈ je.data.toList, x.toNat < 128 := by decide +kernel
   exact hall b hm)
  refine h.mono ?_
  rintro e w' ⟨rfl, rfl⟩
  exact ⟨rfl, (Up.alloc _ _).trans (Up.alloc _ _)⟩
 ·have h8z : decide ((8 : Int) < (s.size : Int)) = false := decide_eq_false (by omega)
  have gI := aa (fun W => Go.Proofs.Any.strings_shouldUseASCIISet (ρ := Tryz.idxA_ren) { Tryz.idxA with } (s.size : Int) W)
  rw [h8z] at gI
  have ir := aa EB
  have HIL := aa (fun (x : UInt8) (h : x.toNat < 128) W => Go.Proofs.Any.strings_IndexRune_ascii (ρ := Tryz.idxA_ren) { Tryz.idxA with } je (x.toNat : Int) W (by omega) (by omega))
  have MI : ((je.size : Int) == 1) = false := rfl
  have hemp : (je.toList == []) = false := by decide +kernel
  clear h8
  go_enter Tryz.func179, Tryz.ntmps179
  go_wp2_with fail
  refine (gI.out _).mono ?_
  rintro e w2 ⟨rfl, rfl⟩
  go_wp2_with fail
  go_loopg [9, 10] s.size (fun g _ _ wx => ∃ i : Nat, i + g = s.size ∧ wx.heap[w2.heap.size]? = some (.stringIter s i) ∧ Hid (Up w2 wx) ∧ Hid (Lib.NoAny s.data.toList bu i))
  case atStart => exact ⟨0, by omega, World.iter_heap _ _ _, Up.alloc _ _, Lib.NoAny.zero _ _⟩
  case round =>
   obtain ⟨i, hig, hit, dK, hno⟩ := hrel
   obtain ⟨wo, rfl⟩ : ∃ wo : World, wo = wr := ⟨_, rfl⟩
   by_cases hi : i < s.size
   ·have hnx := fun ty => Lib.run_next_any_at (P := Tryz.prog) wo w2.heap.size s i ty hit hi
    have Ja := Lib.iterAt_heap wo w2.heap.size s i (i + (Utf8.decode s i).2) hit
    have PY := aa Ja
    have bE : Hid (Up w2 (wo.iterAt w2.heap.size s (i + (Utf8.decode s i).2))) := Lib.below_iterAt dK.out (Nat.le_refl _) _ _
    have HDL := aa (decode_le s i)
    obtain ⟨x, hx⟩ : ∃ x : UInt8, s[i]'hi = x := ⟨_, rfl⟩
    have hxl : s.data.toList[i]? = some x := by rw [← hx]; exact Lib.data_getElem? s i hi
    have HXL := aa hxl
    have HG := aa hig
    have HI := aa hi
    by_cases ha : 128 ≤ x.toNat
    ·obtain ⟨k1, k2, k3⟩ := FQ s i hi (by rw [hx]; exact ha)
     have h1 := (decode_high s i hi (by rw [hx]; exact ha)).1
     have nH := aa (I9 hno.out k2 k3)
     have HK := aa k1
     have ZH := aa k2
     have HC := aa (ir.out (wo.iterAt w2.heap.size s (i + (Utf8.decode s i).2)) ((Utf8.decode s i).1 : Int) (by omega) (by have := HDL.out; omega))
     clear hit Ja dK hno hxl hx hi hig k1 k2 k3 ha h1
     generalize (Utf8.decode s i).1 = rn at *
     generalize (Utf8.decode s i).2 = wd at *
     go_wp2_with fail
     refine HC.out.mono ?_
     rintro e w5 ⟨rfl, iN⟩
     have jq : Hid (Up w2 w5) := bE.out.trans iN
     have HIT5 : Hid (w5.heap[w2.heap.size]? = some (.stringIter s (i + wd))) := (Below.block iN w2.heap.size (Array.getElem?_eq_some_iff.1 PY.out).1).trans PY.out
     clear iN
     go_wp2_with fail
     go_roundg (s.size - (i + wd))
     case measure => have := HG.out; have := HK.out; have := ZH.out; omega
     case rel => exact ⟨i + wd, by have := ZH.out; omega, HIT5.out, jq.out, nH.out⟩
    ·have h1 : Utf8.decode s i = (x.toNat, 1) := by rw [decode_ascii s i hi (by rw [hx]; omega), hx]
     rw [h1] at hnx PY bE
     have HC := aa (HIL.out x (by omega) (wo.iterAt w2.heap.size s (i + 1)))
     have hback : ((x.toNat : Int)).toNat.toUInt8 = x := by simp
     rw [hback] at HC
     have hcon := Lib.contains_iff_indexByte bu x
     cases hin : bu.contains x
     ·have hlt : decide ((0 : Int) ≤ Lib.indexByte je.data.toList x) = false := by rw [hin] at hcon; exact hcon.symm
      have nH := aa (hno.out.succ hxl hin)
      clear hit Ja dK hno hxl hx hi hig ha h1 hcon
      generalize Lib.indexByte je.data.toList x = ib at *
      go_wp2_with fail
      refine HC.out.mono ?_
      rintro e w5 ⟨rfl, rfl⟩
      go_wp2_with fail
      go_roundg (s.size - (i + 1))
      case measure => have := HG.out; have := HI.out; omega
      case rel => exact ⟨i + 1, by have := HI.out; omega, PY.out, bE.out, nH.out⟩
     ·have hlt : decide ((0 : Int) ≤ Lib.indexByte je.data.toList x) = true := by rw [hin] at hcon; exact hcon.symm
      have HR : Hid (Lib.indexAny s.data.toList bu = (i : Int)) := Lib.indexAny_hit hno.out hxl hin
      clear hit Ja dK hno hxl hx hi hig ha h1 hcon
      generalize Lib.indexByte je.data.toList x = ib at *
      go_wp2_with fail
      refine HC.out.mono ?_
      rintro e w5 ⟨rfl, rfl⟩
      go_wp2_with fail
      go_ret
      exact ⟨by rw [HR.out]; rfl, bE.out⟩
   ·have hnx := fun ty => Lib.run_next_end_at (P := Tryz.prog) wo w2.heap.size s i ty hit hi
    have Va : i = s.size := by omega
    have HR : Hid (Lib.indexAny s.data.toList bu = -1) := Lib.indexAny_none (by rw [← Lib.size_eq, ← Va]; exact hno.out)
    have HUP := aa dK.out
    clear hit dK hno hi hig Va
    go_wp2_with fail
    go_ret
    exact ⟨by rw [HR.out]; rfl, HUP.out⟩
theorem Xy (s : ByteArray) (hs : s.size ≤ 1000) : UR s := fun i W hi => by
 have h := FR (s.extract i s.size) W (by rw [ByteArray.size_extract]; omega)
 have e : (s.extract i s.size).data.toList = s.data.toList.drop i := by
  rw [ByteArray.data_extract, Array.toList_extract]
  exact List.take_of_length_le (by rw [List.length_drop, Array.length_toList]; exact Nat.le_refl _)
 rw [e] at h
 exact h
end
section
open Go.RowKit Go.Deep
end
section
section
variable {t : av} {leaf : Nat}
end
end
section
open Go.RowKit Go.Deep
end
section
open Go.RowKit Go.Deep
end
section
section
variable {r q : RT} {a b : ByteArray}
end
section
variable {t : av} {leaf : Nat}
end
end
section
open Go.RowKit Go.Deep
end
section
open Go.RowKit Go.Deep
section
variable {P : Program} {ops : Array Oper} {Q : Exit → Act → World → Prop} {md : Region.Mode} {S : World → Prop} {t : Nat}
end
end
section
section
variable {t : av} {leaf : Nat}
end
end
section
section
variable {t : av}
end
end
section
end
section
section
variable {t : av}
def gJ (ns : List ByteArray) (a : ByteArray) : Int := bJ (fun j => decide (a = gs ns j)) ns.length
theorem Ra {ns : List ByteArray} {a : ByteArray} : a ∈ mA ns ↔ ∃ j, j < ns.length ∧ gs ns j = a ∧ a.size ≠ 0 := by
 unfold mA
 rw [List.mem_filter]
 constructor
 ·rintro ⟨h1, h2⟩
  obtain ⟨j, hj, e⟩ := List.mem_iff_getElem.1 h1
  exact ⟨j, hj, by rw [← e]; simp [gs, hj], of_decide_eq_true h2⟩
 ·rintro ⟨j, hj, e, h2⟩
  refine ⟨?_, decide_eq_true h2⟩
  have : gs ns j = ns[j] := by simp [gs, hj]
  rw [← e, this]; exact List.getElem_mem hj
end
section
variable {t : av} {la : Nat}
end
end
section
section
variable {t : av} {L : List Int}
end
end
section
end
section
section
variable {names : List ByteArray} {t : av} {S : Nat → List Int}
end
end
section
section
variable {t : av}
end
end
end Go.Proofs.YteegefnjnikngaaGreat
namespace Go.Proofs
open Go.Shelf
end Go.Proofs
