/- Valid trees and their texts, plain: what the statements on texts, equal trees and canonical trees say. The example of chapter 31, plain: what its functions answer. The helpers of the statements on layer 31: below, find, names, example. strings.IndexRune: a rune above ASCII is not among the four signs. -/
import Derived.Test.YtpjijbophjdgaaaGreatQ35
import Derived.Test.YtpjijbophjdgaaaGreatQ44
import Derived.Test.YtpjijbophjdgaaaGreatQ25
import Derived.Test.YtpjijbophjdgaaaGreatQ33
import Derived.Test.YtpjijbophjdgaaaGreatQ46
import Derived.Test.YtpjijbophjdgaaaGreatQ40
import Derived.Test.YtpjijbophjdgaaaGreatQ41
import Derived.Test.YtpjijbophjdgaaaGreatQ28
import Derived.Test.YtpjijbophjdgaaaGreatQ2
import Derived.Test.YtpjijbophjdgaaaGreatQ3
import Derived.Test.YtpjijbophjdgaaaGreatQ38
import Derived.Test.YtpjijbophjdgaaaGreatQ4
import Derived.Test.YtpjijbophjdgaaaGreatQ24
import Derived.Test.YtpjijbophjdgaaaGreatQ10
import Derived.Test.YtpjijbophjdgaaaGreatQ7
import Derived.Laws.RangeAny
import Derived.WalkMore
import Derived.Shelf.Small.Utf8
import Derived.Shelf.Small.Strs
namespace Go.Proofs.YtpjijbophjdgaaaGreat
section
variable {t : Tre}
end
end Go.Proofs.YtpjijbophjdgaaaGreat
namespace Go.Proofs.YtpjijbophjdgaaaGreat
def exT : Tre := ⟨[-1, 0, 1, 1, 0], [⟨#[]⟩, ⟨#[]⟩, ⟨#[65]⟩, ⟨#[66]⟩, ⟨#[67]⟩]⟩
def exS : ByteArray := ⟨#[40, 40, 65, 44, 66, 41, 44, 67, 41, 59]⟩
def exX : Tre := ⟨[-1, 0, 1, 1, 0], [⟨#[]⟩, ⟨#[]⟩, ⟨#[65]⟩, ⟨#[67]⟩, ⟨#[66]⟩]⟩
def exR : Tre := ⟨[-1, 0, 0], [⟨#[]⟩, ⟨#[65]⟩, ⟨#[67]⟩]⟩
theorem ex_par : paE exS = 0 ∧ paT exS = exT := by decide +kernel
theorem ex_rr : rrCode exT 3 = 0 ∧ rrRes exT 3 = exX := by decide +kernel
theorem ex_tx : txE exX = 0 ∧ txT exX = [40, 40, 65, 44, 67, 41, 44, 66, 41, 59] := by decide +kernel
theorem ex_rs : rsErr exT [2, 4] = 0 ∧ rsT exT [2, 4] = exR := by decide +kernel
theorem ex_tr : txE exR = 0 ∧ txT exR = [40, 65, 44, 67, 41, 59] := by decide +kernel
end Go.Proofs.YtpjijbophjdgaaaGreat
namespace Go.Proofs.YtpjijbophjdgaaaGreat
open Go.RowKit Go.Deep
@[go_sem high] theorem run_max0_4 (w : World) (ts : Array TypeId) (t : TypeId) (k : IntKind) : (Builtin.max_ ts t #[.int k 0, .int k 0, .int k 0, .int k 0]).run Tryz.prog w = .ok (.int k 0) w := by
  simp [Builtin.max_, Builtin.max2]
@[go_sem high] theorem run_max0_5 (w : World) (ts : Array TypeId) (t : TypeId) (k : IntKind) : (Builtin.max_ ts t #[.int k 0, .int k 0, .int k 0, .int k 0, .int k 0]).run Tryz.prog w = .ok (.int k 0) w := by
  simp [Builtin.max_, Builtin.max2]
@[go_sem high] theorem run_max0_6 (w : World) (ts : Array TypeId) (t : TypeId) (k : IntKind) : (Builtin.max_ ts t #[.int k 0, .int k 0, .int k 0, .int k 0, .int k 0, .int k 0]).run Tryz.prog w = .ok (.int k 0) w := by
  simp [Builtin.max_, Builtin.max2]
@[go_sem high] theorem run_max0_7 (w : World) (ts : Array TypeId) (t : TypeId) (k : IntKind) : (Builtin.max_ ts t #[.int k 0, .int k 0, .int k 0, .int k 0, .int k 0, .int k 0, .int k 0]).run Tryz.prog w = .ok (.int k 0) w := by
  simp [Builtin.max_, Builtin.max2]
def ExPost (w : World) (e : Ending) (w' : World) : Prop := Up w w' ∧ ∃ v, e = .returned v ∧ TreeAt Any w' v exT
set_option maxRecDepth 100000 in
set_option maxHeartbeats 2000000 in
theorem example31_t (w : World) : Calls Tryz.prog 91 #[] w (ExPost w) := by
  have h1 := lit_ints (w.alloc (.cells #[.slice (some ⟨w.heap.size + 1, 0, none⟩) 5 5, .slice (some ⟨w.heap.size + 1 + 1, 0, none⟩) 5 5] 45)) #[.int .i64 (-1), .int .i64 0, .int .i64 1, .int .i64 1, .int .i64 0] 3 exT.ps rfl 5 rfl
  have h2 := lit_strs ((w.alloc (.cells #[.slice (some ⟨w.heap.size + 1, 0, none⟩) 5 5, .slice (some ⟨w.heap.size + 1 + 1, 0, none⟩) 5 5] 45)).alloc (.cells #[.int .i64 (-1), .int .i64 0, .int .i64 1, .int .i64 1, .int .i64 0] 3)) #[.string ⟨#[]⟩, .string ⟨#[]⟩, .string ⟨#[65]⟩, .string ⟨#[66]⟩, .string ⟨#[67]⟩] 9 exT.ns rfl 5 rfl
  have hu1 := Up.alloc w (.cells #[.slice (some ⟨w.heap.size + 1, 0, none⟩) 5 5, .slice (some ⟨w.heap.size + 1 + 1, 0, none⟩) 5 5] 45)
  have hu2 := Up.alloc (w.alloc (.cells #[.slice (some ⟨w.heap.size + 1, 0, none⟩) 5 5, .slice (some ⟨w.heap.size + 1 + 1, 0, none⟩) 5 5] 45)) (.cells #[.int .i64 (-1), .int .i64 0, .int .i64 1, .int .i64 1, .int .i64 0] 3)
  have hu3 := Up.alloc ((w.alloc (.cells #[.slice (some ⟨w.heap.size + 1, 0, none⟩) 5 5, .slice (some ⟨w.heap.size + 1 + 1, 0, none⟩) 5 5] 45)).alloc (.cells #[.int .i64 (-1), .int .i64 0, .int .i64 1, .int .i64 1, .int .i64 0] 3)) (.cells #[.string ⟨#[]⟩, .string ⟨#[]⟩, .string ⟨#[65]⟩, .string ⟨#[66]⟩, .string ⟨#[67]⟩] 9)
  have c0 := (hu2.trans hu3).cell (box2_0 w (.slice (some ⟨w.heap.size + 1, 0, none⟩) 5 5) (.slice (some ⟨w.heap.size + 1 + 1, 0, none⟩) 5 5) 45)
  have c1 := (hu2.trans hu3).cell (box2_1 w (.slice (some ⟨w.heap.size + 1, 0, none⟩) 5 5) (.slice (some ⟨w.heap.size + 1 + 1, 0, none⟩) 5 5) 45)
  simp only [World.size_alloc] at h1 h2
  have H1 := Lib.hid (IntsAt.keep h1 (hu3.kept _))
  have H2 := Lib.hid h2
  have HU3 := Lib.hid (hu1.trans (hu2.trans hu3))
  have C0 := Lib.hid c0
  have C1 := Lib.hid c1
  clear h1 h2 hu1 hu2 hu3 c0 c1
  go_enter Tryz.func91, Tryz.ntmps91
  go_wp2_with fail
  have c0 := C0.out
  have c1 := C1.out
  exact ⟨rfl, .agg #[.slice (some ⟨w.heap.size + 1, 0, none⟩) 5 5, .slice (some ⟨w.heap.size + 1 + 1, 0, none⟩) 5 5], by simp [results, Tryz.results91, go_sem, c0, c1], HU3.out, _, rfl, _, _, rfl, H1.out, H2.out⟩
end Go.Proofs.YtpjijbophjdgaaaGreat
namespace Go.Proofs.YtpjijbophjdgaaaGreat
open Go.RowKit Go.Deep
def sgB : ByteArray := ⟨#[40, 41, 44, 59]⟩
theorem sg_at : ∀ i, (h : i < 4) → (sgB[i]'h).toNat < 128 := by decide +kernel
theorem ib_none (j : Nat) {b : UInt8} (h : 128 ≤ b.toNat) : Lib.indexByte ((sgB.extract j 4).data.toList) b = -1 := by
  have key : ∀ l : List UInt8, b ∉ l → Lib.indexByte l b = -1 := fun l => by
    induction l with
    | nil => intro _; rfl
    | cons a l ih =>
      intro hm
      have h1 : a ≠ b := fun e => hm (by rw [e]; exact List.mem_cons_self)
      have h2 := ih fun h => hm (List.mem_cons_of_mem _ h)
      rw [Lib.indexByte, if_neg (by simpa using h1), h2]; rfl
  refine key _ fun hm => ?_
  rw [ByteArray.data_extract, Array.toList_extract] at hm
  have hm2 : b ∈ sgB.data.toList := List.mem_of_mem_drop (List.mem_of_mem_take hm)
  have hall : ∀ x ∈ sgB.data.toList, x.toNat < 128 := by decide +kernel
  have := hall b hm2
  omega
def LastHigh (s : ByteArray) : Prop := ∃ n : Nat, ∃ lb : UInt8, ∃ hs : s.size = n + 1, 1 ≤ n ∧ n ≤ 3 ∧ 128 ≤ lb.toNat ∧ s[n]'(by omega) = lb
theorem high_enc (r : Int) (h : 128 ≤ r) : LastHigh (Utf8.encode r) := by
  obtain ⟨c, hcd⟩ : ∃ c, c = if Utf8.valid r then r.toNat else Utf8.runeError := ⟨_, rfl⟩
  have hc : 128 ≤ c := by
    rw [hcd]
    split
    · omega
    · decide
  have hl : ∀ c : Nat, 128 ≤ (UInt8.ofNat (0x80 + c % 64)).toNat := fun c => by
    rw [UInt8.toNat_ofNat']; omega
  by_cases h1 : c < 0x800
  · have he : ∃ b0, Utf8.encode r = ⟨#[b0, UInt8.ofNat (0x80 + c % 64)]⟩ := by
      unfold Utf8.encode
      simp only [← hcd, if_neg (show ¬ c < 0x80 by omega), if_pos h1]
      exact ⟨_, rfl⟩
    obtain ⟨b0, he⟩ := he
    rw [he]
    exact ⟨1, _, rfl, by omega, by omega, hl c, rfl⟩
  · by_cases h2 : c < 0x10000
    · have he : ∃ b0 b1, Utf8.encode r = ⟨#[b0, b1, UInt8.ofNat (0x80 + c % 64)]⟩ := by
        unfold Utf8.encode
        simp only [← hcd, if_neg (show ¬ c < 0x80 by omega), if_neg h1, if_pos h2]
        exact ⟨_, _, rfl⟩
      obtain ⟨b0, b1, he⟩ := he
      rw [he]
      exact ⟨2, _, rfl, by omega, by omega, hl c, rfl⟩
    · have he : ∃ b0 b1 b2, Utf8.encode r = ⟨#[b0, b1, b2, UInt8.ofNat (0x80 + c % 64)]⟩ := by
        unfold Utf8.encode
        simp only [← hcd, if_neg (show ¬ c < 0x80 by omega), if_neg h1, if_neg h2]
        exact ⟨_, _, _, rfl⟩
      obtain ⟨b0, b1, b2, he⟩ := he
      rw [he]
      exact ⟨3, _, rfl, by omega, by omega, hl c, rfl⟩
set_option maxRecDepth 100000 in
set_option maxHeartbeats 4000000 in
theorem index_rune_t (w : World) (r : Int) (h : 128 ≤ r) (h2 : r ≤ 2147483647) :
    Calls Tryz.prog 178 #[.string sgB, .int .i32 r] w fun e w' => e = .returned (.int .i64 (-1)) ∧ Up w w' := by
  have d1 : decide ((0 : Int) ≤ r) = true := decide_eq_true (by omega)
  have d2 : decide (r < (128 : Int)) = false := decide_eq_false (by omega)
  have HVR := Lib.hid (fun W => Go.Proofs.Any.utf8_ValidRune (ρ := Tryz.idxA_ren) { Tryz.idxA with } r W)
  by_cases h3 : r = 65533
  · have d3 : (r == (65533 : Int)) = true := by simp [h3]
    clear h3
    go_enter Tryz.func178, Tryz.ntmps178
    go_wp2_with fail
    go_loopg [5, 6] 4 (fun g _ _ wx => ∃ i : Nat, i + g = 4 ∧ wx = w.iter sgB i)
    case atStart => exact ⟨0, rfl, rfl⟩
    case round =>
      obtain ⟨i, hig, rfl⟩ := hrel
      cases gk with
      | zero =>
        obtain rfl : i = 4 := by omega
        have hnx := fun ty => run_next_end (P := Tryz.prog) w sgB 4 ty (by decide)
        go_wp2_with fail
        go_ret
        exact ⟨rfl, Up.alloc _ _⟩
      | succ g =>
        have hi : i < 4 := by omega
        have hlt := sg_at i hi
        have hnx := fun ty => run_next_ascii (P := Tryz.prog) w sgB i ty hi hlt
        generalize (sgB[i]'hi).toNat = x at *
        have d4 : ((x : Int) == 65533) = false := by simp; omega
        go_wp2_with fail
        go_roundg g
        case measure => omega
        case rel => exact ⟨i + 1, by omega, rfl⟩
  · have d3 : (r == (65533 : Int)) = false := by simp [h3]
    clear h3
    obtain ⟨n, lb, hsn, n1, n3, hlb, hix0⟩ := high_enc r h
    go_enter Tryz.func178, Tryz.ntmps178
    go_wp2_with fail
    refine (HVR.out _).mono ?_
    rintro e w2 ⟨rfl, rfl⟩
    cases hv : Lib.validRune r
    · go_wp2_with fail
      go_ret
      exact ⟨rfl, Up.refl _⟩
    · go_wp2_with fail
      have hsz : ((Utf8.encode r).size : Int) = (n : Int) + 1 := by omega
      have hsz0 := hsz
      obtain ⟨nd, hnd⟩ : ∃ nd, nd = Utf8.encode r := ⟨_, rfl⟩
      have hlt : n < nd.size := by rw [hnd]; omega
      have hidx : nd[n]'hlt = lb := by subst hnd; exact hix0
      rw [← hnd] at hsz
      have i3 : (n : Int) < (nd.size : Int) := by omega
      have i1 : (n : Int) < 4 := by omega
      have i2 : (0 : Int) ≤ (n : Int) := by omega
      have hlt4 : n < 4 := by omega
      have w1 : wrap64 (n : Int) = (n : Int) := by unfold wrap64; omega
      have w2a : (n : Int) < (n : Int) + 1 := by omega
      have w3a : IntKind.i64.wrap ((n : Int) + 1) = (n : Int) + 1 := by rw [IntKind.wrap_i64]; omega
      have w3b : ((n : Int) + 1).toNat = n + 1 := by omega
      have w3c : (0 : Int) ≤ (n : Int) + 1 := by omega
      have w3d : (n : Int) + 1 ≤ 4 := by omega
      obtain ⟨cx, hcx⟩ : ∃ cx, cx = sgB[n]'hlt4 := ⟨_, rfl⟩
      have hcx1 : cx.toNat < 128 := by rw [hcx]; exact sg_at n hlt4
      have d5 : (((sgB[n]'hlt4).toNat : Int) != (lb.toNat : Int)) = true := by rw [← hcx]; simp; omega
      have HIB := Lib.hid (fun W => Go.Proofs.Any.strings_IndexByte (ρ := Tryz.idxA_ren) { Tryz.idxA with } (sgB.extract (n + 1) 4) (lb.toNat : Int) W)
      have hback : ((lb.toNat : Int)).toNat.toUInt8 = lb := by simp
      rw [hback, ib_none (n + 1) hlb] at HIB
      have hsg : (sgB.size : Int) = 4 := rfl
      have hsg2 : sgB.size = 4 := rfl
      have HND := Lib.hid hnd
      clear hix0 hsn hcx hnd
      go_step3
      go_wp2_with fail
      rw [← HND.out]
      clear HND
      go_loop [9, 10, 11, 12] (fun i f _ _ => i = .int .i64 n ∧ f = .int .i64 0) (fun _ _ _ _ => 0)
      case atStart => exact ⟨rfl, rfl⟩
      case round =>
        obtain ⟨rfl, rfl⟩ := hrel
        go_wp2_with fail
        go_step3
        go_wp2_with fail
        refine region_T (by kernel_rfl) 7 (fun _ => True) trivial (fun hS => ?_)
        simp only [List.size_toArray, List.length_cons, List.length_nil, Nat.reduceAdd, Array.replicate_succ, Array.replicate_zero, List.push_toArray, List.nil_append, List.cons_append]
        refine anyT.take (i := 0) (v := ?gv0k1) rfl (by kernel_rfl) (fun _ _ _ h => h) (by rfl) (fun w hSw => ?gy0k1) hS ?gr0k1
        case gy0k1 =>
          (try dsimp only at hSw)
          go_simp
          try with_reducible rfl
        try simp only [Act.put, List.setIfInBounds_toArray, List.set_cons_zero, List.set_cons_succ]
        refine anyT.take (i := 1) (v := ?gv1k1) rfl (by kernel_rfl) (fun _ _ _ h => h) (by rfl) (fun w hSw => ?gy1k1) hS ?gr1k1
        case gy1k1 =>
          (try dsimp only at hSw)
          go_simp
          try with_reducible rfl
        try simp only [Act.put, List.setIfInBounds_toArray, List.set_cons_zero, List.set_cons_succ]
        refine anyT.take (i := 2) (v := ?gv2k1) rfl (by kernel_rfl) (fun _ _ _ h => h) (by rfl) (fun w hSw => ?gy2k1) hS ?gr2k1
        case gy2k1 =>
          (try dsimp only at hSw)
          go_simp
          try with_reducible rfl
        try simp only [Act.put, List.setIfInBounds_toArray, List.set_cons_zero, List.set_cons_succ]
        refine anyT.take (i := 3) (v := ?gv3k1) rfl (by kernel_rfl) (fun _ _ _ h => h) (by rfl) (fun w hSw => ?gy3k1) hS ?gr3k1
        case gy3k1 =>
          (try dsimp only at hSw)
          go_simp
          try with_reducible rfl
        try simp only [Act.put, List.setIfInBounds_toArray, List.set_cons_zero, List.set_cons_succ]
        refine anyT.take (i := 4) (v := ?gv4k1) rfl (by kernel_rfl) (fun _ _ _ h => h) (by rfl) (fun w hSw => ?gy4k1) hS ?gr4k1
        case gy4k1 =>
          (try dsimp only at hSw)
          go_simp
          try with_reducible rfl
        try simp only [Act.put, List.setIfInBounds_toArray, List.set_cons_zero, List.set_cons_succ]
        refine anyT.take (i := 5) (v := ?gv5k1) rfl (by kernel_rfl) (fun _ _ _ h => h) (by rfl) (fun w hSw => ?gy5k1) hS ?gr5k1
        case gy5k1 =>
          (try dsimp only at hSw)
          go_simp
          try with_reducible rfl
        try simp only [Act.put, List.setIfInBounds_toArray, List.set_cons_zero, List.set_cons_succ]
        refine anyT.step (i := 6) rfl (by kernel_rfl) (fun K' hK => ?_)
        go_simp
        refine hK.out _ _ (not_more (by kernel_rfl)) (fun hS => ?_)
        refine anyT.done (by kernel_rfl) ?_
        go_wp2_with fail
        refine region_T (by kernel_rfl) 9 (fun _ => True) trivial (fun hS => ?_)
        simp only [List.size_toArray, List.length_cons, List.length_nil, Nat.reduceAdd, Array.replicate_succ, Array.replicate_zero, List.push_toArray, List.nil_append, List.cons_append]
        refine anyT.take (i := 0) (v := ?gv0k2) rfl (by kernel_rfl) (fun _ _ _ h => h) (by rfl) (fun w hSw => ?gy0k2) hS ?gr0k2
        case gy0k2 =>
          (try dsimp only at hSw)
          go_simp
          try with_reducible rfl
        try simp only [Act.put, List.setIfInBounds_toArray, List.set_cons_zero, List.set_cons_succ]
        refine anyT.take (i := 1) (v := ?gv1k2) rfl (by kernel_rfl) (fun _ _ _ h => h) (by rfl) (fun w hSw => ?gy1k2) hS ?gr1k2
        case gy1k2 =>
          (try dsimp only at hSw)
          go_simp
          try with_reducible rfl
        try simp only [Act.put, List.setIfInBounds_toArray, List.set_cons_zero, List.set_cons_succ]
        refine anyT.take (i := 2) (v := ?gv2k2) rfl (by kernel_rfl) (fun _ _ _ h => h) (by rfl) (fun w hSw => ?gy2k2) hS ?gr2k2
        case gy2k2 =>
          (try dsimp only at hSw)
          go_simp
          try with_reducible rfl
        try simp only [Act.put, List.setIfInBounds_toArray, List.set_cons_zero, List.set_cons_succ]
        refine anyT.take (i := 3) (v := ?gv3k2) rfl (by kernel_rfl) (fun _ _ _ h => h) (by rfl) (fun w hSw => ?gy3k2) hS ?gr3k2
        case gy3k2 =>
          (try dsimp only at hSw)
          go_simp
          try with_reducible rfl
        try simp only [Act.put, List.setIfInBounds_toArray, List.set_cons_zero, List.set_cons_succ]
        refine anyT.take (i := 4) (v := ?gv4k2) rfl (by kernel_rfl) (fun _ _ _ h => h) (by rfl) (fun w hSw => ?gy4k2) hS ?gr4k2
        case gy4k2 =>
          (try dsimp only at hSw)
          go_simp
          try with_reducible rfl
        try simp only [Act.put, List.setIfInBounds_toArray, List.set_cons_zero, List.set_cons_succ]
        refine anyT.take (i := 5) (v := ?gv5k2) rfl (by kernel_rfl) (fun _ _ _ h => h) (by rfl) (fun w hSw => ?gy5k2) hS ?gr5k2
        case gy5k2 =>
          (try dsimp only at hSw)
          go_simp
          try with_reducible rfl
        try simp only [Act.put, List.setIfInBounds_toArray, List.set_cons_zero, List.set_cons_succ]
        refine anyT.take (i := 6) (v := ?gv6k2) rfl (by kernel_rfl) (fun _ _ _ h => h) (by rfl) (fun w hSw => ?gy6k2) hS ?gr6k2
        case gy6k2 =>
          (try dsimp only at hSw)
          go_simp
          try with_reducible rfl
        try simp only [Act.put, List.setIfInBounds_toArray, List.set_cons_zero, List.set_cons_succ]
        refine anyT.step (i := 7) rfl (by kernel_rfl) (fun K' hK => ?_)
        go_simp
        refine (HIB.out _).mono ?_
        rintro e w4 ⟨rfl, rfl⟩
        refine hK.out _ _ (fun _ => trivial) (fun hS => ?_)
        try simp only [List.setIfInBounds_toArray, List.set_cons_zero, List.set_cons_succ]
        refine anyT.step (i := 8) rfl (by kernel_rfl) (fun K' hK => ?_)
        go_simp
        refine hK.out _ _ (not_more (by kernel_rfl)) (fun hS => ?_)
        refine anyT.done (by kernel_rfl) ?_
        go_wp2_with fail
        simp +zetaDelta only [Exit.noGoto, Exit.inBlock, Exit.then]
        refine bodyPost_ret (results_tmp rfl _ _ _) rfl ?_
        exact ⟨rfl, (Up.drewN _ 1).trans (Up.drewN _ 1)⟩
end Go.Proofs.YtpjijbophjdgaaaGreat
