/- strings.IndexRune: a rune above ASCII is not among the four signs. The helpers of the .. -/
import Derived.Laws.RangeAny
import Derived.WalkMore
import Derived.Shelf.Small.Utf8
import Derived.Shelf.Small.Strs
import Derived.Test.YthgabkgmkolobaaGreatQ26
import Derived.Test.YthgabkgmkolobaaGreatQ25
import Derived.Test.YthgabkgmkolobaaGreatQ12
import Derived.Test.YthgabkgmkolobaaGreatQ8
import Derived.Sort.OwnSorted
import Derived.Shelf.Slices.In.SortNone
import Derived.Shelf.SlGeneric
import Derived.Shelf.Lays
import Derived.Shelf.Sort.Plain
import Derived.Ground.NamesProg
import Derived.Test.YthgabkgmkolobaaGreatProg
import Derived.Test.YthgabkgmkolobaaGreatQ23
import Derived.Test.YthgabkgmkolobaaGreatQ2
import Derived.Test.YthgabkgmkolobaaGreatQ6
import Derived.Test.YthgabkgmkolobaaGreatQ19
import Derived.Test.YthgabkgmkolobaaGreatQ15
import Derived.Test.YthgabkgmkolobaaGreatQ17
import Derived.Test.YthgabkgmkolobaaGreatQ21
import Derived.Test.YthgabkgmkolobaaGreatQ1
import Derived.Test.YthgabkgmkolobaaGreatQ24
import Derived.Test.YthgabkgmkolobaaGreatQ22
import Derived.Test.YthgabkgmkolobaaGreatQ5
import Derived.Test.YthgabkgmkolobaaGreatQ27
import Derived.Lib.OthersKept
import Derived.Test.YthgabkgmkolobaaGreatQ28
import Derived.StillTail
import Derived.Laws.IdiomStrings
import Derived.Deep.RegionHeld3
import Derived.Deep.CutRange
import Derived.Test.YthgabkgmkolobaaGreatQ3
import Derived.Test.YthgabkgmkolobaaGreatQ16
import Derived.Test.YthgabkgmkolobaaGreatQ14
set_option maxRecDepth 100000
namespace Go.Proofs.YthgabkgmkolobaaGreat
section
open Go.RowKit Go.Deep
def kH : ByteArray := ⟨#[40, 41, 44, 59]⟩
theorem Vc : ∀ i, (h : i < 4) → (kH[i]'h).toNat < 128 := by decide +kernel
theorem Wb (j : Nat) {b : UInt8} (h : 128 ≤ b.toNat) : Lib.indexByte ((kH.extract j 4).data.toList) b = -1 := by
 have key : ∀ l : List UInt8, b ∉ l → Lib.indexByte l b = -1 := fun l => by
  induction l with
  | nil => intro _; rfl
  | cons a l ih =>
   intro hm
   have h1 : a ≠ b := fun e => hm (by rw [e]; exact List.mem_cons_self)
   have h2 := ih fun h => hm (List.mem_cons_of_mem _ h)
   rw [Lib.indexByte, if_neg (by simpa using h1), h2]; rfl
 refine key _ fun hm => ?_
 rw [ByteArray.data_extract, Array.toList_extract] at hm
 have hm2 : b ∈ kH.data.toList := List.mem_of_mem_drop (List.mem_of_mem_take hm)
 have hall : ∀ x ∈ kH.data.toList, x.toNat < 128 := by decide +kernel
 have := hall b hm2
 omega
def SL (s : ByteArray) : Prop := ∃ n : Nat, ∃ lb : UInt8, ∃ hs : s.size = n + 1, 1 ≤ n ∧ n ≤ 3 ∧ 128 ≤ lb.toNat ∧ s[n]'(by omega) = lb
theorem SM (r : Int) (h : 128 ≤ r) : SL (Utf8.encode r) := by
 obtain ⟨c, hcd⟩ : ∃ c, c = if Utf8.valid r then r.toNat else Utf8.runeError := ⟨_, rfl⟩
 have hc : 128 ≤ c := by
  rw [hcd]
  split
  ·omega
  ·decide
 have hl : ∀ c : Nat, 128 ≤ (UInt8.ofNat (0x80 + c % 64)).toNat := fun c => by
  rw [UInt8.toNat_ofNat']; omega
 by_cases h1 : c < 0x800
 ·have he : ∃ b0, Utf8.encode r = ⟨#[b0, UInt8.ofNat (0x80 + c % 64)]⟩ := by
   unfold Utf8.encode
   simp only [← hcd, if_neg (show ¬ c < 0x80 by omega), if_pos h1]
   exact ⟨_, rfl⟩
  obtain ⟨b0, he⟩ := he
  rw [he]
  exact ⟨1, _, rfl, by omega, by omega, hl c, rfl⟩
 ·by_cases h2 : c < 0x10000
  ·have he : ∃ b0 b1, Utf8.encode r = ⟨#[b0, b1, UInt8.ofNat (0x80 + c % 64)]⟩ := by
    unfold Utf8.encode
    simp only [← hcd, if_neg (show ¬ c < 0x80 by omega), if_neg h1, if_pos h2]
    exact ⟨_, _, rfl⟩
   obtain ⟨b0, b1, he⟩ := he
   rw [he]
   exact ⟨2, _, rfl, by omega, by omega, hl c, rfl⟩
  ·have he : ∃ b0 b1 b2, Utf8.encode r = ⟨#[b0, b1, b2, UInt8.ofNat (0x80 + c % 64)]⟩ := by
    unfold Utf8.encode
    simp only [← hcd, if_neg (show ¬ c < 0x80 by omega), if_neg h1, if_neg h2]
    exact ⟨_, _, _, rfl⟩
   obtain ⟨b0, b1, b2, he⟩ := he
   rw [he]
   exact ⟨3, _, rfl, by omega, by omega, hl c, rfl⟩
set_option maxHeartbeats 4000000 in
theorem Iu (w : World) (r : Int) (h : 128 ≤ r) (h2 : r ≤ 2147483647) :
  Calls Tryz.prog 217 #[.string kH, .int .i32 r] w fun e w' => e = .returned (.int .i64 (-1)) ∧ Up w w' := by
 have d1 : decide ((0 : Int) ≤ r) = true := decide_eq_true (by omega)
 have d2 : decide (r < (128 : Int)) = false := decide_eq_false (by omega)
 have HVR := aa (fun W => Go.Proofs.Any.utf8_ValidRune (ρ := Tryz.idxA_ren) { Tryz.idxA with } r W)
 by_cases h3 : r = 65533
 ·have d3 : (r == (65533 : Int)) = true := by simp [h3]
  clear h3
  go_enter Tryz.func217, Tryz.ntmps217
  go_wp2_with fail
  go_loopg [5, 6] 4 (fun g _ _ wx => ∃ i : Nat, i + g = 4 ∧ wx = w.iter kH i)
  case atStart => exact ⟨0, rfl, rfl⟩
  case round =>
   obtain ⟨i, hig, rfl⟩ := hrel
   cases gk with
   | zero =>
    obtain rfl : i = 4 := by omega
    have hnx := fun ty => run_next_end (P := Tryz.prog) w kH 4 ty (by decide)
    go_wp2_with fail
    go_ret
    exact ⟨rfl, Up.alloc _ _⟩
   | succ g =>
    have hi : i < 4 := by omega
    have hlt := Vc i hi
    have hnx := fun ty => run_next_ascii (P := Tryz.prog) w kH i ty hi hlt
    generalize (kH[i]'hi).toNat = x at *
    have d4 : ((x : Int) == 65533) = false := by simp; omega
    go_wp2_with fail
    go_roundg g
    case measure => omega
    case rel => exact ⟨i + 1, by omega, rfl⟩
 ·have d3 : (r == (65533 : Int)) = false := by simp [h3]
  clear h3
  obtain ⟨n, lb, pY, n1, n3, hlb, ZY⟩ := SM r h
  go_enter Tryz.func217, Tryz.ntmps217
  go_wp2_with fail
  refine (HVR.out _).mono ?_
  rintro e w2 ⟨rfl, rfl⟩
  cases hv : Lib.validRune r
  ·go_wp2_with fail
   go_ret
   exact ⟨rfl, Up.refl _⟩
  ·go_wp2_with fail
   have hsz : ((Utf8.encode r).size : Int) = (n : Int) + 1 := by omega
   have hsz0 := hsz
   obtain ⟨nd, eT⟩ : ∃ nd, nd = Utf8.encode r := ⟨_, rfl⟩
   have hlt : n < nd.size := by rw [eT]; omega
   have hidx : nd[n]'hlt = lb := by subst eT; exact ZY
   rw [← eT] at hsz
   have i3 : (n : Int) < (nd.size : Int) := by omega
   have i1 : (n : Int) < 4 := by omega
   have i2 : (0 : Int) ≤ (n : Int) := by omega
   have SN : n < 4 := by omega
   have w1 : wrap64 (n : Int) = (n : Int) := by unfold wrap64; omega
   have w2a : (n : Int) < (n : Int) + 1 := by omega
   have w3a : IntKind.i64.wrap ((n : Int) + 1) = (n : Int) + 1 := by rw [IntKind.wrap_i64]; omega
   have w3b : ((n : Int) + 1).toNat = n + 1 := by omega
   have w3c : (0 : Int) ≤ (n : Int) + 1 := by omega
   have w3d : (n : Int) + 1 ≤ 4 := by omega
   obtain ⟨cx, gM⟩ : ∃ cx, cx = kH[n]'SN := ⟨_, rfl⟩
   have hcx1 : cx.toNat < 128 := by rw [gM]; exact Vc n SN
   have d5 : (((kH[n]'SN).toNat : Int) != (lb.toNat : Int)) = true := by rw [← gM]; simp; omega
   have HIB := aa (fun W => Go.Proofs.Any.strings_IndexByte (ρ := Tryz.idxA_ren) { Tryz.idxA with } (kH.extract (n + 1) 4) (lb.toNat : Int) W)
   have hback : ((lb.toNat : Int)).toNat.toUInt8 = lb := by simp
   rw [hback, Wb (n + 1) hlb] at HIB
   have ZZ : (kH.size : Int) = 4 := rfl
   have hsg2 : kH.size = 4 := rfl
   have PB := aa eT
   clear ZY pY gM eT
   go_step3
   go_wp2_with fail
   rw [← PB.out]
   clear PB
   go_loop [9, 10, 11, 12] (fun i f _ _ => i = .int .i64 n ∧ f = .int .i64 0) (fun _ _ _ _ => 0)
   case atStart => exact ⟨rfl, rfl⟩
   case round =>
    obtain ⟨rfl, rfl⟩ := hrel
    go_wp2_with fail
    go_step3
    go_wp2_with fail
    refine dM (by kernel_rfl) 7 (fun _ => True) trivial (fun hS => ?_)
    simp only [List.size_toArray, List.length_cons, List.length_nil, Nat.reduceAdd, Array.replicate_succ, Array.replicate_zero, List.push_toArray, List.nil_append, List.cons_append]
    refine af.take (i := 0) (v := ?tq) rfl (by kernel_rfl) (fun _ _ _ h => h) (by rfl) (fun w hSw => ?iE) hS ?tr
    case iE =>
     (try dsimp only at hSw)
     go_simp
     try with_reducible rfl
    try simp only [Act.put, au, av, ax]
    refine af.take (i := 1) (v := ?tu) rfl (by kernel_rfl) (fun _ _ _ h => h) (by rfl) (fun w hSw => ?iF) hS ?tA
    case iF =>
     (try dsimp only at hSw)
     go_simp
     try with_reducible rfl
    try simp only [Act.put, au, av, ax]
    refine af.take (i := 2) (v := ?vM) rfl (by kernel_rfl) (fun _ _ _ h => h) (by rfl) (fun w hSw => ?jF) hS ?vO
    case jF =>
     (try dsimp only at hSw)
     go_simp
     try with_reducible rfl
    try simp only [Act.put, au, av, ax]
    refine af.take (i := 3) (v := ?vP) rfl (by kernel_rfl) (fun _ _ _ h => h) (by rfl) (fun w hSw => ?jG) hS ?vQ
    case jG =>
     (try dsimp only at hSw)
     go_simp
     try with_reducible rfl
    try simp only [Act.put, au, av, ax]
    refine af.take (i := 4) (v := ?vR) rfl (by kernel_rfl) (fun _ _ _ h => h) (by rfl) (fun w hSw => ?jH) hS ?vS
    case jH =>
     (try dsimp only at hSw)
     go_simp
     try with_reducible rfl
    try simp only [Act.put, au, av, ax]
    refine af.take (i := 5) (v := ?vT) rfl (by kernel_rfl) (fun _ _ _ h => h) (by rfl) (fun w hSw => ?jI) hS ?vU
    case jI =>
     (try dsimp only at hSw)
     go_simp
     try with_reducible rfl
    try simp only [Act.put, au, av, ax]
    refine af.step (i := 6) rfl (by kernel_rfl) (fun K' hK => ?_)
    go_simp
    refine hK.out _ _ (aJ (by kernel_rfl)) (fun hS => ?_)
    refine af.done (by kernel_rfl) ?_
    go_wp2_with fail
    refine dM (by kernel_rfl) 9 (fun _ => True) trivial (fun hS => ?_)
    simp only [List.size_toArray, List.length_cons, List.length_nil, Nat.reduceAdd, Array.replicate_succ, Array.replicate_zero, List.push_toArray, List.nil_append, List.cons_append]
    refine af.take (i := 0) (v := ?gv0k2) rfl (by kernel_rfl) (fun _ _ _ h => h) (by rfl) (fun w hSw => ?MR) hS ?gr0k2
    case MR =>
     (try dsimp only at hSw)
     go_simp
     try with_reducible rfl
    try simp only [Act.put, au, av, ax]
    refine af.take (i := 1) (v := ?gv1k2) rfl (by kernel_rfl) (fun _ _ _ h => h) (by rfl) (fun w hSw => ?MS) hS ?gr1k2
    case MS =>
     (try dsimp only at hSw)
     go_simp
     try with_reducible rfl
    try simp only [Act.put, au, av, ax]
    refine af.take (i := 2) (v := ?gv2k2) rfl (by kernel_rfl) (fun _ _ _ h => h) (by rfl) (fun w hSw => ?MT) hS ?gr2k2
    case MT =>
     (try dsimp only at hSw)
     go_simp
     try with_reducible rfl
    try simp only [Act.put, au, av, ax]
    refine af.take (i := 3) (v := ?gv3k2) rfl (by kernel_rfl) (fun _ _ _ h => h) (by rfl) (fun w hSw => ?MU) hS ?gr3k2
    case MU =>
     (try dsimp only at hSw)
     go_simp
     try with_reducible rfl
    try simp only [Act.put, au, av, ax]
    refine af.take (i := 4) (v := ?gv4k2) rfl (by kernel_rfl) (fun _ _ _ h => h) (by rfl) (fun w hSw => ?MV) hS ?gr4k2
    case MV =>
     (try dsimp only at hSw)
     go_simp
     try with_reducible rfl
    try simp only [Act.put, au, av, ax]
    refine af.take (i := 5) (v := ?gv5k2) rfl (by kernel_rfl) (fun _ _ _ h => h) (by rfl) (fun w hSw => ?MW) hS ?gr5k2
    case MW =>
     (try dsimp only at hSw)
     go_simp
     try with_reducible rfl
    try simp only [Act.put, au, av, ax]
    refine af.take (i := 6) (v := ?gv6k2) rfl (by kernel_rfl) (fun _ _ _ h => h) (by rfl) (fun w hSw => ?MX) hS ?gr6k2
    case MX =>
     (try dsimp only at hSw)
     go_simp
     try with_reducible rfl
    try simp only [Act.put, au, av, ax]
    refine af.step (i := 7) rfl (by kernel_rfl) (fun K' hK => ?_)
    go_simp
    refine (HIB.out _).mono ?_
    rintro e w4 ⟨rfl, rfl⟩
    refine hK.out _ _ (fun _ => trivial) (fun hS => ?_)
    try simp only [au, av, ax]
    refine af.step (i := 8) rfl (by kernel_rfl) (fun K' hK => ?_)
    go_simp
    refine hK.out _ _ (aJ (by kernel_rfl)) (fun hS => ?_)
    refine af.done (by kernel_rfl) ?_
    go_wp2_with fail
    simp +zetaDelta only [Exit.noGoto, Exit.inBlock, Exit.then]
    refine bodyPost_ret (results_tmp rfl _ _ _) rfl ?_
    exact ⟨rfl, (Up.drewN _ 1).trans (Up.drewN _ 1)⟩
end
section
open Go.RowKit Go.Deep
@[go_sem high] theorem run_max0_4 (w : World) (ts : Array TypeId) (t : TypeId) (k : IntKind) : (Builtin.max_ ts t #[.int k 0, .int k 0, .int k 0, .int k 0]).run Tryz.prog w = .ok (.int k 0) w := by
 simp [Builtin.max_, Builtin.max2]
@[go_sem high] theorem run_max0_5 (w : World) (ts : Array TypeId) (t : TypeId) (k : IntKind) : (Builtin.max_ ts t #[.int k 0, .int k 0, .int k 0, .int k 0, .int k 0]).run Tryz.prog w = .ok (.int k 0) w := by
 simp [Builtin.max_, Builtin.max2]
@[go_sem high] theorem run_max0_6 (w : World) (ts : Array TypeId) (t : TypeId) (k : IntKind) : (Builtin.max_ ts t #[.int k 0, .int k 0, .int k 0, .int k 0, .int k 0, .int k 0]).run Tryz.prog w = .ok (.int k 0) w := by
 simp [Builtin.max_, Builtin.max2]
@[go_sem high] theorem run_max0_7 (w : World) (ts : Array TypeId) (t : TypeId) (k : IntKind) : (Builtin.max_ ts t #[.int k 0, .int k 0, .int k 0, .int k 0, .int k 0, .int k 0, .int k 0]).run Tryz.prog w = .ok (.int k 0) w := by
 simp [Builtin.max_, Builtin.max2]
end
section
open Go.RowKit Go.Deep
theorem Z0 (s : ByteArray) (k : Nat) (h : k < s.size) : s.get! k = s[k]'h := by
 simp [ByteArray.get!, getElem!_pos, h]; rfl
theorem Kg (s : ByteArray) (pos : Nat) (h : pos < s.size) (ha : 128 ≤ (s[pos]'h).toNat) : 1 ≤ (Utf8.decode s pos).2 ∧ pos + (Utf8.decode s pos).2 ≤ s.size ∧ ∀ j, (hj : j < (Utf8.decode s pos).2) → ∀ hl : pos + j < s.size, 128 ≤ (s[pos + j]'hl).toNat := by
  have key : ∀ w : Nat, 1 ≤ w → w ≤ 4 → (∀ j, 1 ≤ j → j < w → pos + j < s.size ∧ (s.get! (pos + j)).toNat / 64 = 2) → 1 ≤ w ∧ pos + w ≤ s.size ∧ ∀ j, (hj : j < w) → ∀ hl : pos + j < s.size, 128 ≤ (s[pos + j]'hl).toNat := fun w h1 _ hc => by
    refine ⟨h1, ?_, fun j hj hl => ?_⟩
    · by_cases e : w = 1
      · omega
      · have := (hc (w - 1) (by omega) (by omega)).1; omega
    · by_cases e : j = 0
      · subst e; exact ha
      · have h2 := (hc j (by omega) hj).2
        rw [Z0 s _ hl] at h2
        omega
  have one := key 1 (Nat.le_refl _) (by omega) (fun j a b => by omega)
  have cont : ∀ k, (decide (pos + k < s.size) && (s.get! (pos + k)).toNat / 64 == 2) = true → pos + k < s.size ∧ (s.get! (pos + k)).toNat / 64 = 2 := fun k hk => by
    simp only [Bool.and_eq_true, decide_eq_true_eq, beq_iff_eq] at hk; exact hk
  have hn : ¬ (s[pos]'h).toNat < 128 := by omega
  unfold Utf8.decode
  simp only [get_at s pos h, hn, if_false]
  split
  · rename_i hb
    rw [Bool.and_eq_true] at hb
    split
    · exact key 2 (by omega) (by omega) fun j h1 h2 => by obtain rfl : j = 1 := by omega
                                                          exact cont 1 hb.2
    · exact one
  · split
    · rename_i hb
      rw [Bool.and_eq_true, Bool.and_eq_true] at hb
      split
      · exact key 3 (by omega) (by omega) fun j h1 h2 => by
          by_cases e : j = 1
          · subst e; exact cont 1 hb.1.2
          · obtain rfl : j = 2 := by omega
            exact cont 2 hb.2
      · exact one
    · split
      · rename_i hb
        rw [Bool.and_eq_true, Bool.and_eq_true, Bool.and_eq_true] at hb
        split
        · exact key 4 (by omega) (by omega) fun j h1 h2 => by
            by_cases e : j = 1
            · subst e; exact cont 1 hb.1.1.2
            · by_cases e2 : j = 2
              · subst e2; exact cont 2 hb.1.2
              · obtain rfl : j = 3 := by omega
                exact cont 3 hb.2
        · exact one
      · exact one
theorem MZ {s : ByteArray} {i d : Nat} (h : Lib.NoAny s.data.toList bF i) (hs : i + d ≤ s.size) (hb : ∀ j, (hj : j < d) → ∀ hl : i + j < s.size, 128 ≤ (s[i + j]'hl).toNat) : Lib.NoAny s.data.toList bF (i + d) := fun j b hj hx => by
 by_cases e : j < i
 ·exact h j b e hx
 ·obtain ⟨d2, rfl⟩ : ∃ d2, j = i + d2 := ⟨j - i, by omega⟩
  have hl : i + d2 < s.size := by omega
  have h1 := hb d2 (by omega) hl
  rw [Lib.data_getElem? s (i + d2) hl] at hx
  injection hx with hx
  have h3 : 128 ≤ b.toNat := by rw [← hx]; exact h1
  cases hc : bF.contains b with
  | false => rfl
  | true =>
   have hm := List.contains_iff_mem.1 hc
   simp only [bF, List.mem_cons, List.not_mem_nil, or_false] at hm
   rcases hm with rfl | rfl | rfl | rfl <;> exact absurd h3 (by decide)
set_option maxHeartbeats 8000000 in
theorem Kh (s : ByteArray) (w : World) (hs : s.size ≤ 1000) : Calls Tryz.prog 166 #[.string s, .string kH] w fun e w' => e = .returned (.int .i64 (Lib.indexAny s.data.toList bF)) ∧ Up w w' := by
 by_cases h8 : 8 < s.size
 ·have h := Go.Proofs.Any.strings_IndexAny_long (ρ := Tryz.idxA_ren) Tryz.idxA (zero_of_info (P := Tryz.prog) (t := 225) (v := .agg (Array.replicate 256 (.bool false))) (n := 256) (by kernel_rfl)).1 (zero_of_info (P := Tryz.prog) (t := 225) (v := .agg (Array.replicate 256 (.bool false))) (n := 256) (by kernel_rfl)).2 s kH w (by decide) h8 (by omega) (by decide) (by
   intro j b hb
   have hm := List.mem_of_getElem? hb
   have hall : ∀ x ∈ kH.data.toList, x.toNat < 128 := by decide +kernel
   exact hall b hm)
  refine h.mono ?_
  rintro e w' ⟨rfl, rfl⟩
  exact ⟨rfl, (Up.alloc _ _).trans (Up.alloc _ _)⟩
 ·have h8z : decide ((8 : Int) < (s.size : Int)) = false := decide_eq_false (by omega)
  have iV := aa (fun W => Go.Proofs.Any.strings_shouldUseASCIISet (ρ := Tryz.idxA_ren) { Tryz.idxA with } (s.size : Int) W)
  rw [h8z] at iV
  have js := aa Iu
  have HIL := aa (fun (x : UInt8) (h : x.toNat < 128) W => Go.Proofs.Any.strings_IndexRune_ascii (ρ := Tryz.idxA_ren) { Tryz.idxA with } kH (x.toNat : Int) W (by omega) (by omega))
  have Rk : ((kH.size : Int) == 1) = false := rfl
  have hemp : (kH.toList == []) = false := by decide +kernel
  clear h8
  go_enter Tryz.func166, Tryz.ntmps166
  go_wp2_with fail
  refine (iV.out _).mono ?_
  rintro e w2 ⟨rfl, rfl⟩
  go_wp2_with fail
  go_loopg [9, 10] s.size (fun g _ _ wx => ∃ i : Nat, i + g = s.size ∧ wx.heap[w2.heap.size]? = some (.stringIter s i) ∧ Hid (Up w2 wx) ∧ Hid (Lib.NoAny s.data.toList bF i))
  case atStart => exact ⟨0, by omega, World.iter_heap _ _ _, Up.alloc _ _, Lib.NoAny.zero _ _⟩
  case round =>
   obtain ⟨i, hig, hit, eZ, hno⟩ := hrel
   obtain ⟨wo, rfl⟩ : ∃ wo : World, wo = wr := ⟨_, rfl⟩
   by_cases hi : i < s.size
   ·have hnx := fun ty => Lib.run_next_any_at (P := Tryz.prog) wo w2.heap.size s i ty hit hi
    have M0 := Lib.iterAt_heap wo w2.heap.size s i (i + (Utf8.decode s i).2) hit
    have Vd := aa M0
    have bw : Hid (Up w2 (wo.iterAt w2.heap.size s (i + (Utf8.decode s i).2))) := Lib.below_iterAt eZ.out (Nat.le_refl _) _ _
    have HDL := aa (decode_le s i)
    obtain ⟨x, hx⟩ : ∃ x : UInt8, s[i]'hi = x := ⟨_, rfl⟩
    have hxl : s.data.toList[i]? = some x := by rw [← hx]; exact Lib.data_getElem? s i hi
    have HXL := aa hxl
    have HG := aa hig
    have HI := aa hi
    by_cases ha : 128 ≤ x.toNat
    ·obtain ⟨k1, k2, k3⟩ := Kg s i hi (by rw [hx]; exact ha)
     have h1 := (decode_high s i hi (by rw [hx]; exact ha)).1
     have qE := aa (MZ hno.out k2 k3)
     have HK := aa k1
     have HK2 := aa k2
     have HC := aa (js.out (wo.iterAt w2.heap.size s (i + (Utf8.decode s i).2)) ((Utf8.decode s i).1 : Int) (by omega) (by have := HDL.out; omega))
     clear hit M0 eZ hno hxl hx hi hig k1 k2 k3 ha h1
     generalize (Utf8.decode s i).1 = rn at *
     generalize (Utf8.decode s i).2 = wd at *
     go_wp2_with fail
     refine HC.out.mono ?_
     rintro e w5 ⟨rfl, gp⟩
     have iT : Hid (Up w2 w5) := bw.out.trans gp
     have HIT5 : Hid (w5.heap[w2.heap.size]? = some (.stringIter s (i + wd))) := (Below.block gp w2.heap.size (Array.getElem?_eq_some_iff.1 Vd.out).1).trans Vd.out
     clear gp
     go_wp2_with fail
     go_roundg (s.size - (i + wd))
     case measure => have := HG.out; have := HK.out; have := HK2.out; omega
     case rel => exact ⟨i + wd, by have := HK2.out; omega, HIT5.out, iT.out, qE.out⟩
    ·have h1 : Utf8.decode s i = (x.toNat, 1) := by rw [decode_ascii s i hi (by rw [hx]; omega), hx]
     rw [h1] at hnx Vd bw
     have HC := aa (HIL.out x (by omega) (wo.iterAt w2.heap.size s (i + 1)))
     have hback : ((x.toNat : Int)).toNat.toUInt8 = x := by simp
     rw [hback] at HC
     have hcon := Lib.contains_iff_indexByte bF x
     cases hin : bF.contains x
     ·have hlt : decide ((0 : Int) ≤ Lib.indexByte kH.data.toList x) = false := by rw [hin] at hcon; exact hcon.symm
      have qE := aa (hno.out.succ hxl hin)
      clear hit M0 eZ hno hxl hx hi hig ha h1 hcon
      generalize Lib.indexByte kH.data.toList x = ib at *
      go_wp2_with fail
      refine HC.out.mono ?_
      rintro e w5 ⟨rfl, rfl⟩
      go_wp2_with fail
      go_roundg (s.size - (i + 1))
      case measure => have := HG.out; have := HI.out; omega
      case rel => exact ⟨i + 1, by have := HI.out; omega, Vd.out, bw.out, qE.out⟩
     ·have hlt : decide ((0 : Int) ≤ Lib.indexByte kH.data.toList x) = true := by rw [hin] at hcon; exact hcon.symm
      have HR : Hid (Lib.indexAny s.data.toList bF = (i : Int)) := Lib.indexAny_hit hno.out hxl hin
      clear hit M0 eZ hno hxl hx hi hig ha h1 hcon
      generalize Lib.indexByte kH.data.toList x = ib at *
      go_wp2_with fail
      refine HC.out.mono ?_
      rintro e w5 ⟨rfl, rfl⟩
      go_wp2_with fail
      go_ret
      exact ⟨by rw [HR.out]; rfl, bw.out⟩
   ·have hnx := fun ty => Lib.run_next_end_at (P := Tryz.prog) wo w2.heap.size s i ty hit hi
    have Z1 : i = s.size := by omega
    have HR : Hid (Lib.indexAny s.data.toList bF = -1) := Lib.indexAny_none (by rw [← Lib.size_eq, ← Z1]; exact hno.out)
    have HUP := aa eZ.out
    clear hit eZ hno hi hig Z1
    go_wp2_with fail
    go_ret
    exact ⟨by rw [HR.out]; rfl, HUP.out⟩
theorem ia_ok (s : ByteArray) (hs : s.size ≤ 1000) : ZI s := fun i W hi => by
 have h := Kh (s.extract i s.size) W (by rw [ByteArray.size_extract]; omega)
 have e : (s.extract i s.size).data.toList = s.data.toList.drop i := by
  rw [ByteArray.data_extract, Array.toList_extract]
  exact List.take_of_length_le (by rw [List.length_drop, Array.length_toList]; exact Nat.le_refl _)
 rw [e] at h
 exact h
end
section
section
variable {t : ay}
def ir (ns : List ByteArray) (a : ByteArray) : Int := b8 (fun j => decide (a = gs ns j)) ns.length
theorem zu {ns : List ByteArray} {a : ByteArray} : a ∈ kV ns ↔ ∃ j, j < ns.length ∧ gs ns j = a ∧ a.size ≠ 0 := by
 unfold kV
 rw [List.mem_filter]
 constructor
 ·rintro ⟨h1, h2⟩
  obtain ⟨j, hj, e⟩ := List.mem_iff_getElem.1 h1
  exact ⟨j, hj, by rw [← e]; simp [gs, hj], of_decide_eq_true h2⟩
 ·rintro ⟨j, hj, e, h2⟩
  refine ⟨?_, decide_eq_true h2⟩
  have : gs ns j = ns[j] := by simp [gs, hj]
  rw [← e, this]; exact List.getElem_mem hj
end
end
section
inductive BT (α : Type) where
 | leaf (x : α)
 | node (a b : BT α)
namespace BT
def map {α β : Type} (f : α → β) : BT α → BT β
 | leaf x => leaf (f x)
 | node a b => node (map f a) (map f b)
def bM {α : Type} : BT α → List α
 | leaf x => [x]
 | node a b => bM a ++ bM b
inductive mj {α : Type} : BT α → BT α → Prop
 | leaf (x : α) : mj (leaf x) (leaf x)
 | node {a a' b b' : BT α} : mj a a' → mj b b' → mj (node a b) (node a' b')
 | swap {a a' b b' : BT α} : mj a a' → mj b b' → mj (node a b) (node b' a')
end BT
section
variable {α β : Type} [Inhabited α] [Inhabited β]
def aW (p : Nat → Bool) (L : List α) (n : Nat) : List α := ((List.range n).filter p).map fun i => L.getD i default
theorem iG (p : Nat → Bool) (L : List α) (n : Nat) : aW p L (n + 1) = aW p L n ++ if p n then [L.getD n default] else [] := by
 unfold aW
 rw [List.range_succ, List.filter_append, List.map_append]
 congr 1
 cases h : p n <;> simp [h]
theorem yJ (f : α → β) (p : Nat → Bool) (L : List α) : ∀ {n : Nat}, n ≤ L.length → aW p (L.map f) n = (aW p L n).map f
 | 0, _ => rfl
 | n + 1, h => by
  rw [iG, iG, List.map_append, yJ f p L (by omega)]
  congr 1
  split
  ·have : n < L.length := h
   simp [this]
  ·rfl
theorem jW (p : Nat → Bool) (L : List α) : ∀ {n : Nat}, n ≤ L.length → (aW p L n ++ aW (fun i => !p i) L n).Perm (L.take n)
 | 0, _ => by simp [aW]
 | n + 1, h => by
  have hn : n < L.length := h
  have ih := jW p L (n := n) (by omega)
  rw [iG, iG, List.take_succ_eq_append_getElem hn]
  have hg : L.getD n default = L[n] := by simp [hn]
  rw [hg]
  cases hp : p n
  ·simp only [Bool.false_eq_true, if_false, List.append_nil, Bool.not_false, if_true]
   rw [← List.append_assoc]
   exact ih.append_right _
  ·simp only [if_true, Bool.not_true, Bool.false_eq_true, if_false, List.append_nil]
   refine List.Perm.trans ?_ (ih.append_right _)
   rw [List.append_assoc, List.append_assoc]
   exact List.Perm.append_left _ List.perm_append_comm
theorem fR {p : Nat → Bool} {L : List α} {n : Nat} {x : α} : x ∈ aW p L n ↔ ∃ i, i < n ∧ p i = true ∧ L.getD i default = x := by
 unfold aW
 rw [List.mem_map]
 constructor
 ·rintro ⟨i, hi, h⟩
  rw [List.mem_filter, List.mem_range] at hi
  exact ⟨i, hi.1, hi.2, h⟩
 ·rintro ⟨i, h1, h2, h3⟩
  exact ⟨i, List.mem_filter.2 ⟨List.mem_range.2 h1, h2⟩, h3⟩
theorem jX {p q : Nat → Bool} {L : List α} {n : Nat} (h : ∀ i, i < n → p i = q i) : aW p L n = aW q L n := by
 unfold aW
 congr 1
 exact List.filter_congr fun i hi => h i (List.mem_range.1 hi)
theorem jv (p : Nat → Bool) (L : List α) (n : Nat) : (aW p L n).length ≤ n := by
 unfold aW
 rw [List.length_map]
 exact Nat.le_trans (List.length_filter_le _ _) (by simp)
def rt : Nat → List α → List (BT α)
 | 0, _ => []
 | _ + 1, [] => []
 | _ + 1, [x] => [.leaf x]
 | d + 1, x :: y :: L => (List.range' 1 (2 ^ (y :: L).length - 1)).flatMap fun bits =>
   (rt d (x :: aW (fun i => !bits.testBit i) (y :: L) (y :: L).length)).flatMap fun a =>
    (rt d (aW (fun i => bits.testBit i) (y :: L) (y :: L).length)).map fun b => .node a b
def rf : Nat → List α → List (BT α)
 | 0, _ => []
 | _ + 1, [] => []
 | _ + 1, [x] => [.leaf x]
 | d + 1, x :: y :: L => (List.range (2 ^ (y :: L).length - 1)).flatMap fun bits =>
   (rf d (x :: aW (fun i => bits.testBit i) (y :: L) (y :: L).length)).flatMap fun a =>
    (rf d (aW (fun i => !bits.testBit i) (y :: L) (y :: L).length)).map fun b => .node a b
theorem qq {γ δ : Type} {f g : γ → List δ} : ∀ {l : List γ}, (∀ a ∈ l, (f a).Perm (g a)) → (l.flatMap f).Perm (l.flatMap g)
 | [], _ => by simp
 | a :: l, h => by
  rw [List.flatMap_cons, List.flatMap_cons]
  exact (h a (by simp)).append (qq fun b hb => h b (by simp [hb]))
theorem xk {γ δ : Type} {f : γ → List δ} {l l' : List γ} (h : l.Perm l') : (l.flatMap f).Perm (l'.flatMap f) := by
 induction h with
 | nil => exact List.Perm.refl _
 | cons x _ ih => rw [List.flatMap_cons, List.flatMap_cons]; exact ih.append_left _
 | swap x y l =>
  simp only [List.flatMap_cons]
  rw [← List.append_assoc, ← List.append_assoc]
  exact List.perm_append_comm.append_right _
 | trans _ _ h1 h2 => exact h1.trans h2
theorem PO (m : Nat) : (List.range' 1 (m - 1)).Perm ((List.range (m - 1)).map fun k => m - 1 - k) := by
 have h : (List.range' 1 (m - 1)) = ((List.range (m - 1)).map fun k => m - 1 - k).reverse := by
  apply List.ext_getElem
  ·simp
  ·intro i h1 h2
   simp at h1
   simp
   omega
 rw [h]
 exact List.reverse_perm _
theorem M3 : ∀ (d : Nat) (L : List α), (rt d L).Perm (rf d L)
 | 0, _ => List.Perm.refl _
 | _ + 1, [] => List.Perm.refl _
 | _ + 1, [x] => List.Perm.refl _
 | d + 1, x :: y :: L => by
  rw [rt, rf]
  refine List.Perm.trans (xk (PO _)) ?_
  rw [List.flatMap_map]
  refine qq fun k hk => ?_
  have hk := List.mem_range.1 hk
  generalize hn : (y :: L).length = n at *
  have e1 : ∀ i, i < n → (2 ^ n - 1 - k).testBit i = !k.testBit i := fun i hi => by
   have := Nat.testBit_two_pow_sub_succ (x := k) (n := n) (by omega) i
   rw [show 2 ^ n - 1 - k = 2 ^ n - (k + 1) by omega, this]
   simp [hi]
  rw [jX (p := fun i => !(2 ^ n - 1 - k).testBit i) (q := fun i => k.testBit i) fun i hi => by rw [e1 i hi, Bool.not_not], jX (p := fun i => (2 ^ n - 1 - k).testBit i) (q := fun i => !k.testBit i) e1]
  refine List.Perm.trans (xk (M3 d _)) (qq fun a _ => (M3 d _).map _)
theorem Cc (f : α → β) : ∀ (d : Nat) (L : List α), rt d (L.map f) = (rt d L).map (BT.map f)
 | 0, _ => rfl
 | _ + 1, [] => rfl
 | _ + 1, [x] => rfl
 | d + 1, x :: y :: L => by
  rw [List.map_cons, List.map_cons, rt, rt, List.map_flatMap]
  have hl : (f y :: L.map f).length = (y :: L).length := by simp
  rw [hl]
  congr 1
  funext bits
  have e : f y :: L.map f = (y :: L).map f := rfl
  rw [e, yJ f _ _ (Nat.le_refl _), yJ f _ _ (Nat.le_refl _), ← List.map_cons, Cc f d, Cc f d, List.map_flatMap, List.flatMap_map]
  congr 1
  funext a
  rw [List.map_map, List.map_map]
  rfl
theorem jm : ∀ (d : Nat) (L : List α), ∀ r ∈ rt d L, r.bM.Perm L
 | 0, _ => fun r h => by cases h
 | _ + 1, [] => fun r h => by cases h
 | _ + 1, [x] => fun r h => by rw [rt, List.mem_singleton] at h; rw [h]; exact List.Perm.refl _
 | d + 1, x :: y :: L => fun r h => by
  rw [rt, List.mem_flatMap] at h
  obtain ⟨bits, hb, h⟩ := h
  rw [List.mem_flatMap] at h
  obtain ⟨a, ha, h⟩ := h
  obtain ⟨b, hb2, rfl⟩ := List.mem_map.1 h
  have h1 := jm d _ a ha
  have h2 := jm d _ b hb2
  have h3 := jW (fun i => bits.testBit i) (y :: L) (Nat.le_refl _)
  rw [List.take_length] at h3
  rw [BT.bM]
  refine (h1.append h2).trans ?_
  rw [List.cons_append]
  exact (List.perm_append_comm.trans h3).cons _
end
end
section
def Dh (t : ay) (names : List ByteArray) : Bool := (List.range (aj t.ns).length).any fun j => decide (ir names (gs t.ns (gi (aj t.ns) j).toNat) < 0)
structure kW (t : ay) (names : List ByteArray) : Prop where
 te : az t = 0
 le : names.length ≤ 32
 nd : ∀ j k, j < k → k < names.length → gs names k ≠ gs names j
 len : (aj t.ns).length = names.length
 has : ∀ j, j < t.ps.length → (gs t.ns j).size ≠ 0 → ∃ b : Nat, b < names.length ∧ gs names b = gs t.ns j
theorem FJ {names : List ByteArray} {a : ByteArray} : 0 ≤ ir names a ↔ ∃ b, b < names.length ∧ gs names b = a := by
 constructor
 ·intro h
  obtain ⟨k, hk⟩ := Int.eq_ofNat_of_zero_le h
  obtain ⟨h1, h2, _⟩ := rA hk
  exact ⟨k, h1, (of_decide_eq_true h2).symm⟩
 ·rintro ⟨b, hb, e⟩
  have Z2 : (List.range names.length).any (fun j => decide (a = gs names j)) = true := List.any_eq_true.2 ⟨b, List.mem_range.2 hb, decide_eq_true e.symm⟩
  rw [← l7] at Z2
  exact of_decide_eq_true Z2
theorem Z3 {names : List ByteArray} (h : ∀ j k, j < k → k < names.length → gs names k ≠ gs names j) {a b : Nat} (ha : a < names.length) (hb : b < names.length) (e : gs names a = gs names b) : a = b := by
 rcases Nat.lt_trichotomy a b with c | c | c
 ·exact absurd e.symm (h a b c hb)
 ·exact c
 ·exact absurd e (h b a c ha)
theorem Ve {names : List ByteArray} (h : ∀ j k, j < k → k < names.length → gs names k ≠ gs names j) {b : Nat} (hb : b < names.length) : ir names (gs names b) = (b : Int) := by
 have h1 : 0 ≤ ir names (gs names b) := FJ.2 ⟨b, hb, rfl⟩
 obtain ⟨k, hk⟩ := Int.eq_ofNat_of_zero_le h1
 obtain ⟨h2, h3, _⟩ := rA hk
 have h3 := of_decide_eq_true h3
 rw [hk]
 have := Z3 h h2 hb h3.symm
 rw [this]
end
end Go.Proofs.YthgabkgmkolobaaGreat
