/- strings.IndexRune: a rune above ASCII is not among the four signs. strings.IndexAny at the four signs, for strings of any bytes. The example of chapter 31: awake. The contracts of layer 35's reference's beyond and GreatNames, of layer 31's reference's Great. The contract of layer 31's reference's Great. The statements' bounds on layer 31's trees. The contract of phylotree.Same. PhylotreeTexts, plain. PhylotreeRerooted, plain. The parts of a restricted tree, plain: which sets of leaves they have; restricting twice. PhylotreeRestricted, plain. The splits of a tree: plain. -/
import Derived.Test.YtcbmbhghmfehpaaGreatQ17
import Derived.Test.YtcbmbhghmfehpaaGreatQ8
import Derived.Test.YtcbmbhghmfehpaaGreatQ5
import Derived.Laws.RangeAny
import Derived.WalkMore
import Derived.Shelf.Small.Utf8
import Derived.Shelf.Small.Strs
import Derived.Test.YtcbmbhghmfehpaaGreatQ19
import Derived.Lib.OthersKept
import Derived.Deep.RegionHeld3
import Derived.Test.YtcbmbhghmfehpaaGreatQ12
import Derived.Test.YtcbmbhghmfehpaaGreatQ11
import Derived.Test.YtcbmbhghmfehpaaGreatQ3
import Derived.Test.YtcbmbhghmfehpaaGreatQ13
import Derived.Test.YtcbmbhghmfehpaaGreatQ4
namespace Go.Proofs.YtcbmbhghmfehpaaGreat
open Go.RowKit Go.Deep
def sgB : ByteArray := ⟨#[40, 41, 44, 59]⟩
theorem sg_at : ∀ i, (h : i < 4) → (sgB[i]'h).toNat < 128 := by decide +kernel
theorem ib_none (j : Nat) {b : UInt8} (h : 128 ≤ b.toNat) : Lib.indexByte ((sgB.extract j 4).data.toList) b = -1 := by
  have key : ∀ l : List UInt8, b ∉ l → Lib.indexByte l b = -1 := fun l => by
    induction l with
    | nil => intro _; rfl
    | cons a l ih =>
      intro hm
      have h1 : a ≠ b := fun e => hm (by rw [e]; exact List.mem_cons_self)
      have h2 := ih fun h => hm (List.mem_cons_of_mem _ h)
      rw [Lib.indexByte, if_neg (by simpa using h1), h2]; rfl
  refine key _ fun hm => ?_
  rw [ByteArray.data_extract, Array.toList_extract] at hm
  have hm2 : b ∈ sgB.data.toList := List.mem_of_mem_drop (List.mem_of_mem_take hm)
  have hall : ∀ x ∈ sgB.data.toList, x.toNat < 128 := by decide +kernel
  have := hall b hm2
  omega
def LastHigh (s : ByteArray) : Prop := ∃ n : Nat, ∃ lb : UInt8, ∃ hs : s.size = n + 1, 1 ≤ n ∧ n ≤ 3 ∧ 128 ≤ lb.toNat ∧ s[n]'(by omega) = lb
theorem high_enc (r : Int) (h : 128 ≤ r) : LastHigh (Utf8.encode r) := by
  obtain ⟨c, hcd⟩ : ∃ c, c = if Utf8.valid r then r.toNat else Utf8.runeError := ⟨_, rfl⟩
  have hc : 128 ≤ c := by
    rw [hcd]
    split
    · omega
    · decide
  have hl : ∀ c : Nat, 128 ≤ (UInt8.ofNat (0x80 + c % 64)).toNat := fun c => by
    rw [UInt8.toNat_ofNat']; omega
  by_cases h1 : c < 0x800
  · have he : ∃ b0, Utf8.encode r = ⟨#[b0, UInt8.ofNat (0x80 + c % 64)]⟩ := by
      unfold Utf8.encode
      simp only [← hcd, if_neg (show ¬ c < 0x80 by omega), if_pos h1]
      exact ⟨_, rfl⟩
    obtain ⟨b0, he⟩ := he
    rw [he]
    exact ⟨1, _, rfl, by omega, by omega, hl c, rfl⟩
  · by_cases h2 : c < 0x10000
    · have he : ∃ b0 b1, Utf8.encode r = ⟨#[b0, b1, UInt8.ofNat (0x80 + c % 64)]⟩ := by
        unfold Utf8.encode
        simp only [← hcd, if_neg (show ¬ c < 0x80 by omega), if_neg h1, if_pos h2]
        exact ⟨_, _, rfl⟩
      obtain ⟨b0, b1, he⟩ := he
      rw [he]
      exact ⟨2, _, rfl, by omega, by omega, hl c, rfl⟩
    · have he : ∃ b0 b1 b2, Utf8.encode r = ⟨#[b0, b1, b2, UInt8.ofNat (0x80 + c % 64)]⟩ := by
        unfold Utf8.encode
        simp only [← hcd, if_neg (show ¬ c < 0x80 by omega), if_neg h1, if_neg h2]
        exact ⟨_, _, _, rfl⟩
      obtain ⟨b0, b1, b2, he⟩ := he
      rw [he]
      exact ⟨3, _, rfl, by omega, by omega, hl c, rfl⟩
set_option maxRecDepth 100000 in
set_option maxHeartbeats 4000000 in
theorem index_rune_t (w : World) (r : Int) (h : 128 ≤ r) (h2 : r ≤ 2147483647) :
    Calls Tryz.prog 206 #[.string sgB, .int .i32 r] w fun e w' => e = .returned (.int .i64 (-1)) ∧ Up w w' := by
  have d1 : decide ((0 : Int) ≤ r) = true := decide_eq_true (by omega)
  have d2 : decide (r < (128 : Int)) = false := decide_eq_false (by omega)
  have HVR := Lib.hid (fun W => Go.Proofs.Any.utf8_ValidRune (ρ := Tryz.idxA_ren) { Tryz.idxA with } r W)
  by_cases h3 : r = 65533
  · have d3 : (r == (65533 : Int)) = true := by simp [h3]
    clear h3
    go_enter Tryz.func206, Tryz.ntmps206
    go_wp2_with fail
    go_loopg [5, 6] 4 (fun g _ _ wx => ∃ i : Nat, i + g = 4 ∧ wx = w.iter sgB i)
    case atStart => exact ⟨0, rfl, rfl⟩
    case round =>
      obtain ⟨i, hig, rfl⟩ := hrel
      cases gk with
      | zero =>
        obtain rfl : i = 4 := by omega
        have hnx := fun ty => run_next_end (P := Tryz.prog) w sgB 4 ty (by decide)
        go_wp2_with fail
        go_ret
        exact ⟨rfl, Up.alloc _ _⟩
      | succ g =>
        have hi : i < 4 := by omega
        have hlt := sg_at i hi
        have hnx := fun ty => run_next_ascii (P := Tryz.prog) w sgB i ty hi hlt
        generalize (sgB[i]'hi).toNat = x at *
        have d4 : ((x : Int) == 65533) = false := by simp; omega
        go_wp2_with fail
        go_roundg g
        case measure => omega
        case rel => exact ⟨i + 1, by omega, rfl⟩
  · have d3 : (r == (65533 : Int)) = false := by simp [h3]
    clear h3
    obtain ⟨n, lb, hsn, n1, n3, hlb, hix0⟩ := high_enc r h
    go_enter Tryz.func206, Tryz.ntmps206
    go_wp2_with fail
    refine (HVR.out _).mono ?_
    rintro e w2 ⟨rfl, rfl⟩
    cases hv : Lib.validRune r
    · go_wp2_with fail
      go_ret
      exact ⟨rfl, Up.refl _⟩
    · go_wp2_with fail
      have hsz : ((Utf8.encode r).size : Int) = (n : Int) + 1 := by omega
      have hsz0 := hsz
      obtain ⟨nd, hnd⟩ : ∃ nd, nd = Utf8.encode r := ⟨_, rfl⟩
      have hlt : n < nd.size := by rw [hnd]; omega
      have hidx : nd[n]'hlt = lb := by subst hnd; exact hix0
      rw [← hnd] at hsz
      have i3 : (n : Int) < (nd.size : Int) := by omega
      have i1 : (n : Int) < 4 := by omega
      have i2 : (0 : Int) ≤ (n : Int) := by omega
      have hlt4 : n < 4 := by omega
      have w1 : wrap64 (n : Int) = (n : Int) := by unfold wrap64; omega
      have w2a : (n : Int) < (n : Int) + 1 := by omega
      have w3a : IntKind.i64.wrap ((n : Int) + 1) = (n : Int) + 1 := by rw [IntKind.wrap_i64]; omega
      have w3b : ((n : Int) + 1).toNat = n + 1 := by omega
      have w3c : (0 : Int) ≤ (n : Int) + 1 := by omega
      have w3d : (n : Int) + 1 ≤ 4 := by omega
      obtain ⟨cx, hcx⟩ : ∃ cx, cx = sgB[n]'hlt4 := ⟨_, rfl⟩
      have hcx1 : cx.toNat < 128 := by rw [hcx]; exact sg_at n hlt4
      have d5 : (((sgB[n]'hlt4).toNat : Int) != (lb.toNat : Int)) = true := by rw [← hcx]; simp; omega
      have HIB := Lib.hid (fun W => Go.Proofs.Any.strings_IndexByte (ρ := Tryz.idxA_ren) { Tryz.idxA with } (sgB.extract (n + 1) 4) (lb.toNat : Int) W)
      have hback : ((lb.toNat : Int)).toNat.toUInt8 = lb := by simp
      rw [hback, ib_none (n + 1) hlb] at HIB
      have hsg : (sgB.size : Int) = 4 := rfl
      have hsg2 : sgB.size = 4 := rfl
      have HND := Lib.hid hnd
      clear hix0 hsn hcx hnd
      go_step3
      go_wp2_with fail
      rw [← HND.out]
      clear HND
      go_loop [9, 10, 11, 12] (fun i f _ _ => i = .int .i64 n ∧ f = .int .i64 0) (fun _ _ _ _ => 0)
      case atStart => exact ⟨rfl, rfl⟩
      case round =>
        obtain ⟨rfl, rfl⟩ := hrel
        go_wp2_with fail
        go_step3
        go_wp2_with fail
        refine region_T (by kernel_rfl) 7 (fun _ => True) trivial (fun hS => ?_)
        simp only [List.size_toArray, List.length_cons, List.length_nil, Nat.reduceAdd, Array.replicate_succ, Array.replicate_zero, List.push_toArray, List.nil_append, List.cons_append]
        refine anyT.take (i := 0) (v := ?gv0k1) rfl (by kernel_rfl) (fun _ _ _ h => h) (by rfl) (fun w hSw => ?gy0k1) hS ?gr0k1
        case gy0k1 =>
          (try dsimp only at hSw)
          go_simp
          try with_reducible rfl
        try simp only [Act.put, List.setIfInBounds_toArray, List.set_cons_zero, List.set_cons_succ]
        refine anyT.take (i := 1) (v := ?gv1k1) rfl (by kernel_rfl) (fun _ _ _ h => h) (by rfl) (fun w hSw => ?gy1k1) hS ?gr1k1
        case gy1k1 =>
          (try dsimp only at hSw)
          go_simp
          try with_reducible rfl
        try simp only [Act.put, List.setIfInBounds_toArray, List.set_cons_zero, List.set_cons_succ]
        refine anyT.take (i := 2) (v := ?gv2k1) rfl (by kernel_rfl) (fun _ _ _ h => h) (by rfl) (fun w hSw => ?gy2k1) hS ?gr2k1
        case gy2k1 =>
          (try dsimp only at hSw)
          go_simp
          try with_reducible rfl
        try simp only [Act.put, List.setIfInBounds_toArray, List.set_cons_zero, List.set_cons_succ]
        refine anyT.take (i := 3) (v := ?gv3k1) rfl (by kernel_rfl) (fun _ _ _ h => h) (by rfl) (fun w hSw => ?gy3k1) hS ?gr3k1
        case gy3k1 =>
          (try dsimp only at hSw)
          go_simp
          try with_reducible rfl
        try simp only [Act.put, List.setIfInBounds_toArray, List.set_cons_zero, List.set_cons_succ]
        refine anyT.take (i := 4) (v := ?gv4k1) rfl (by kernel_rfl) (fun _ _ _ h => h) (by rfl) (fun w hSw => ?gy4k1) hS ?gr4k1
        case gy4k1 =>
          (try dsimp only at hSw)
          go_simp
          try with_reducible rfl
        try simp only [Act.put, List.setIfInBounds_toArray, List.set_cons_zero, List.set_cons_succ]
        refine anyT.take (i := 5) (v := ?gv5k1) rfl (by kernel_rfl) (fun _ _ _ h => h) (by rfl) (fun w hSw => ?gy5k1) hS ?gr5k1
        case gy5k1 =>
          (try dsimp only at hSw)
          go_simp
          try with_reducible rfl
        try simp only [Act.put, List.setIfInBounds_toArray, List.set_cons_zero, List.set_cons_succ]
        refine anyT.step (i := 6) rfl (by kernel_rfl) (fun K' hK => ?_)
        go_simp
        refine hK.out _ _ (not_more (by kernel_rfl)) (fun hS => ?_)
        refine anyT.done (by kernel_rfl) ?_
        go_wp2_with fail
        refine region_T (by kernel_rfl) 9 (fun _ => True) trivial (fun hS => ?_)
        simp only [List.size_toArray, List.length_cons, List.length_nil, Nat.reduceAdd, Array.replicate_succ, Array.replicate_zero, List.push_toArray, List.nil_append, List.cons_append]
        refine anyT.take (i := 0) (v := ?gv0k2) rfl (by kernel_rfl) (fun _ _ _ h => h) (by rfl) (fun w hSw => ?gy0k2) hS ?gr0k2
        case gy0k2 =>
          (try dsimp only at hSw)
          go_simp
          try with_reducible rfl
        try simp only [Act.put, List.setIfInBounds_toArray, List.set_cons_zero, List.set_cons_succ]
        refine anyT.take (i := 1) (v := ?gv1k2) rfl (by kernel_rfl) (fun _ _ _ h => h) (by rfl) (fun w hSw => ?gy1k2) hS ?gr1k2
        case gy1k2 =>
          (try dsimp only at hSw)
          go_simp
          try with_reducible rfl
        try simp only [Act.put, List.setIfInBounds_toArray, List.set_cons_zero, List.set_cons_succ]
        refine anyT.take (i := 2) (v := ?gv2k2) rfl (by kernel_rfl) (fun _ _ _ h => h) (by rfl) (fun w hSw => ?gy2k2) hS ?gr2k2
        case gy2k2 =>
          (try dsimp only at hSw)
          go_simp
          try with_reducible rfl
        try simp only [Act.put, List.setIfInBounds_toArray, List.set_cons_zero, List.set_cons_succ]
        refine anyT.take (i := 3) (v := ?gv3k2) rfl (by kernel_rfl) (fun _ _ _ h => h) (by rfl) (fun w hSw => ?gy3k2) hS ?gr3k2
        case gy3k2 =>
          (try dsimp only at hSw)
          go_simp
          try with_reducible rfl
        try simp only [Act.put, List.setIfInBounds_toArray, List.set_cons_zero, List.set_cons_succ]
        refine anyT.take (i := 4) (v := ?gv4k2) rfl (by kernel_rfl) (fun _ _ _ h => h) (by rfl) (fun w hSw => ?gy4k2) hS ?gr4k2
        case gy4k2 =>
          (try dsimp only at hSw)
          go_simp
          try with_reducible rfl
        try simp only [Act.put, List.setIfInBounds_toArray, List.set_cons_zero, List.set_cons_succ]
        refine anyT.take (i := 5) (v := ?gv5k2) rfl (by kernel_rfl) (fun _ _ _ h => h) (by rfl) (fun w hSw => ?gy5k2) hS ?gr5k2
        case gy5k2 =>
          (try dsimp only at hSw)
          go_simp
          try with_reducible rfl
        try simp only [Act.put, List.setIfInBounds_toArray, List.set_cons_zero, List.set_cons_succ]
        refine anyT.take (i := 6) (v := ?gv6k2) rfl (by kernel_rfl) (fun _ _ _ h => h) (by rfl) (fun w hSw => ?gy6k2) hS ?gr6k2
        case gy6k2 =>
          (try dsimp only at hSw)
          go_simp
          try with_reducible rfl
        try simp only [Act.put, List.setIfInBounds_toArray, List.set_cons_zero, List.set_cons_succ]
        refine anyT.step (i := 7) rfl (by kernel_rfl) (fun K' hK => ?_)
        go_simp
        refine (HIB.out _).mono ?_
        rintro e w4 ⟨rfl, rfl⟩
        refine hK.out _ _ (fun _ => trivial) (fun hS => ?_)
        try simp only [List.setIfInBounds_toArray, List.set_cons_zero, List.set_cons_succ]
        refine anyT.step (i := 8) rfl (by kernel_rfl) (fun K' hK => ?_)
        go_simp
        refine hK.out _ _ (not_more (by kernel_rfl)) (fun hS => ?_)
        refine anyT.done (by kernel_rfl) ?_
        go_wp2_with fail
        simp +zetaDelta only [Exit.noGoto, Exit.inBlock, Exit.then]
        refine bodyPost_ret (results_tmp rfl _ _ _) rfl ?_
        exact ⟨rfl, (Up.drewN _ 1).trans (Up.drewN _ 1)⟩
end Go.Proofs.YtcbmbhghmfehpaaGreat
namespace Go.Proofs.YtcbmbhghmfehpaaGreat
open Go.RowKit Go.Deep
theorem get_of (s : ByteArray) (k : Nat) (h : k < s.size) : s.get! k = s[k]'h := by
  simp [ByteArray.get!, getElem!_pos, h]; rfl
theorem decode_skip (s : ByteArray) (pos : Nat) (h : pos < s.size) (ha : 128 ≤ (s[pos]'h).toNat) : 1 ≤ (Utf8.decode s pos).2 ∧ pos + (Utf8.decode s pos).2 ≤ s.size ∧ ∀ j, (hj : j < (Utf8.decode s pos).2) → ∀ hl : pos + j < s.size, 128 ≤ (s[pos + j]'hl).toNat := by
  have key : ∀ w : Nat, 1 ≤ w → w ≤ 4 → (∀ j, 1 ≤ j → j < w → pos + j < s.size ∧ (s.get! (pos + j)).toNat / 64 = 2) → 1 ≤ w ∧ pos + w ≤ s.size ∧ ∀ j, (hj : j < w) → ∀ hl : pos + j < s.size, 128 ≤ (s[pos + j]'hl).toNat := fun w h1 _ hc => by
    refine ⟨h1, ?_, fun j hj hl => ?_⟩
    · by_cases e : w = 1
      · omega
      · have := (hc (w - 1) (by omega) (by omega)).1; omega
    · by_cases e : j = 0
      · subst e; exact ha
      · have h2 := (hc j (by omega) hj).2
        rw [get_of s _ hl] at h2
        omega
  have one := key 1 (Nat.le_refl _) (by omega) (fun j a b => by omega)
  have cont : ∀ k, (decide (pos + k < s.size) && (s.get! (pos + k)).toNat / 64 == 2) = true → pos + k < s.size ∧ (s.get! (pos + k)).toNat / 64 = 2 := fun k hk => by
    simp only [Bool.and_eq_true, decide_eq_true_eq, beq_iff_eq] at hk; exact hk
  have hn : ¬ (s[pos]'h).toNat < 128 := by omega
  unfold Utf8.decode
  simp only [get_at s pos h, hn, if_false]
  split
  · rename_i hb
    rw [Bool.and_eq_true] at hb
    split
    · exact key 2 (by omega) (by omega) fun j h1 h2 => by obtain rfl : j = 1 := by omega
                                                          exact cont 1 hb.2
    · exact one
  · split
    · rename_i hb
      rw [Bool.and_eq_true, Bool.and_eq_true] at hb
      split
      · exact key 3 (by omega) (by omega) fun j h1 h2 => by
          by_cases e : j = 1
          · subst e; exact cont 1 hb.1.2
          · obtain rfl : j = 2 := by omega
            exact cont 2 hb.2
      · exact one
    · split
      · rename_i hb
        rw [Bool.and_eq_true, Bool.and_eq_true, Bool.and_eq_true] at hb
        split
        · exact key 4 (by omega) (by omega) fun j h1 h2 => by
            by_cases e : j = 1
            · subst e; exact cont 1 hb.1.1.2
            · by_cases e2 : j = 2
              · subst e2; exact cont 2 hb.1.2
              · obtain rfl : j = 3 := by omega
                exact cont 3 hb.2
        · exact one
      · exact one
theorem noany_skip {s : ByteArray} {i d : Nat} (h : Lib.NoAny s.data.toList sp4 i) (hs : i + d ≤ s.size) (hb : ∀ j, (hj : j < d) → ∀ hl : i + j < s.size, 128 ≤ (s[i + j]'hl).toNat) : Lib.NoAny s.data.toList sp4 (i + d) := fun j b hj hx => by
  by_cases e : j < i
  · exact h j b e hx
  · obtain ⟨d2, rfl⟩ : ∃ d2, j = i + d2 := ⟨j - i, by omega⟩
    have hl : i + d2 < s.size := by omega
    have h1 := hb d2 (by omega) hl
    rw [Lib.data_getElem? s (i + d2) hl] at hx
    injection hx with hx
    have h3 : 128 ≤ b.toNat := by rw [← hx]; exact h1
    cases hc : sp4.contains b with
    | false => rfl
    | true =>
      have hm := List.contains_iff_mem.1 hc
      simp only [sp4, List.mem_cons, List.not_mem_nil, or_false] at hm
      rcases hm with rfl | rfl | rfl | rfl <;> exact absurd h3 (by decide)
set_option maxRecDepth 100000 in
set_option maxHeartbeats 8000000 in
theorem index_any_t (s : ByteArray) (w : World) (hs : s.size ≤ 1000) : Calls Tryz.prog 173 #[.string s, .string sgB] w fun e w' => e = .returned (.int .i64 (Lib.indexAny s.data.toList sp4)) ∧ Up w w' := by
  by_cases h8 : 8 < s.size
  · have h := Go.Proofs.Any.strings_IndexAny_long (ρ := Tryz.idxA_ren) Tryz.idxA (zero_of_info (P := Tryz.prog) (t := 226) (v := .agg (Array.replicate 256 (.bool false))) (n := 256) (by kernel_rfl)).1 (zero_of_info (P := Tryz.prog) (t := 226) (v := .agg (Array.replicate 256 (.bool false))) (n := 256) (by kernel_rfl)).2 s sgB w (by decide) h8 (by omega) (by decide) (by
      intro j b hb
      have hm := List.mem_of_getElem? hb
      have hall : ∀ x ∈ sgB.data.toList, x.toNat < 128 := by decide +kernel
      exact hall b hm)
    refine h.mono ?_
    rintro e w' ⟨rfl, rfl⟩
    exact ⟨rfl, (Up.alloc _ _).trans (Up.alloc _ _)⟩
  · have h8z : decide ((8 : Int) < (s.size : Int)) = false := decide_eq_false (by omega)
    have HSA := Lib.hid (fun W => Go.Proofs.Any.strings_shouldUseASCIISet (ρ := Tryz.idxA_ren) { Tryz.idxA with } (s.size : Int) W)
    rw [h8z] at HSA
    have HIH := Lib.hid index_rune_t
    have HIL := Lib.hid (fun (x : UInt8) (h : x.toNat < 128) W => Go.Proofs.Any.strings_IndexRune_ascii (ρ := Tryz.idxA_ren) { Tryz.idxA with } sgB (x.toNat : Int) W (by omega) (by omega))
    have hsz1 : ((sgB.size : Int) == 1) = false := rfl
    have hemp : (sgB.toList == []) = false := by decide +kernel
    clear h8
    go_enter Tryz.func173, Tryz.ntmps173
    go_wp2_with fail
    refine (HSA.out _).mono ?_
    rintro e w2 ⟨rfl, rfl⟩
    go_wp2_with fail
    go_loopg [9, 10] s.size (fun g _ _ wx => ∃ i : Nat, i + g = s.size ∧ wx.heap[w2.heap.size]? = some (.stringIter s i) ∧ Hid (Up w2 wx) ∧ Hid (Lib.NoAny s.data.toList sp4 i))
    case atStart => exact ⟨0, by omega, World.iter_heap _ _ _, Up.alloc _ _, Lib.NoAny.zero _ _⟩
    case round =>
      obtain ⟨i, hig, hit, hup, hno⟩ := hrel
      obtain ⟨wo, rfl⟩ : ∃ wo : World, wo = wr := ⟨_, rfl⟩
      by_cases hi : i < s.size
      · have hnx := fun ty => Lib.run_next_any_at (P := Tryz.prog) wo w2.heap.size s i ty hit hi
        have hit2 := Lib.iterAt_heap wo w2.heap.size s i (i + (Utf8.decode s i).2) hit
        have HIT := Lib.hid hit2
        have HU2 : Hid (Up w2 (wo.iterAt w2.heap.size s (i + (Utf8.decode s i).2))) := Lib.below_iterAt hup.out (Nat.le_refl _) _ _
        have HDL := Lib.hid (decode_le s i)
        obtain ⟨x, hx⟩ : ∃ x : UInt8, s[i]'hi = x := ⟨_, rfl⟩
        have hxl : s.data.toList[i]? = some x := by rw [← hx]; exact Lib.data_getElem? s i hi
        have HXL := Lib.hid hxl
        have HG := Lib.hid hig
        have HI := Lib.hid hi
        by_cases ha : 128 ≤ x.toNat
        · obtain ⟨k1, k2, k3⟩ := decode_skip s i hi (by rw [hx]; exact ha)
          have h1 := (decode_high s i hi (by rw [hx]; exact ha)).1
          have HNX := Lib.hid (noany_skip hno.out k2 k3)
          have HK := Lib.hid k1
          have HK2 := Lib.hid k2
          have HC := Lib.hid (HIH.out (wo.iterAt w2.heap.size s (i + (Utf8.decode s i).2)) ((Utf8.decode s i).1 : Int) (by omega) (by have := HDL.out; omega))
          clear hit hit2 hup hno hxl hx hi hig k1 k2 k3 ha h1
          generalize (Utf8.decode s i).1 = rn at *
          generalize (Utf8.decode s i).2 = wd at *
          go_wp2_with fail
          refine HC.out.mono ?_
          rintro e w5 ⟨rfl, hu5⟩
          have HU5 : Hid (Up w2 w5) := HU2.out.trans hu5
          have HIT5 : Hid (w5.heap[w2.heap.size]? = some (.stringIter s (i + wd))) := (Below.block hu5 w2.heap.size (Array.getElem?_eq_some_iff.1 HIT.out).1).trans HIT.out
          clear hu5
          go_wp2_with fail
          go_roundg (s.size - (i + wd))
          case measure => have := HG.out; have := HK.out; have := HK2.out; omega
          case rel => exact ⟨i + wd, by have := HK2.out; omega, HIT5.out, HU5.out, HNX.out⟩
        · have h1 : Utf8.decode s i = (x.toNat, 1) := by rw [decode_ascii s i hi (by rw [hx]; omega), hx]
          rw [h1] at hnx HIT HU2
          have HC := Lib.hid (HIL.out x (by omega) (wo.iterAt w2.heap.size s (i + 1)))
          have hback : ((x.toNat : Int)).toNat.toUInt8 = x := by simp
          rw [hback] at HC
          have hcon := Lib.contains_iff_indexByte sp4 x
          cases hin : sp4.contains x
          · have hlt : decide ((0 : Int) ≤ Lib.indexByte sgB.data.toList x) = false := by rw [hin] at hcon; exact hcon.symm
            have HNX := Lib.hid (hno.out.succ hxl hin)
            clear hit hit2 hup hno hxl hx hi hig ha h1 hcon
            generalize Lib.indexByte sgB.data.toList x = ib at *
            go_wp2_with fail
            refine HC.out.mono ?_
            rintro e w5 ⟨rfl, rfl⟩
            go_wp2_with fail
            go_roundg (s.size - (i + 1))
            case measure => have := HG.out; have := HI.out; omega
            case rel => exact ⟨i + 1, by have := HI.out; omega, HIT.out, HU2.out, HNX.out⟩
          · have hlt : decide ((0 : Int) ≤ Lib.indexByte sgB.data.toList x) = true := by rw [hin] at hcon; exact hcon.symm
            have HR : Hid (Lib.indexAny s.data.toList sp4 = (i : Int)) := Lib.indexAny_hit hno.out hxl hin
            clear hit hit2 hup hno hxl hx hi hig ha h1 hcon
            generalize Lib.indexByte sgB.data.toList x = ib at *
            go_wp2_with fail
            refine HC.out.mono ?_
            rintro e w5 ⟨rfl, rfl⟩
            go_wp2_with fail
            go_ret
            exact ⟨by rw [HR.out]; rfl, HU2.out⟩
      · have hnx := fun ty => Lib.run_next_end_at (P := Tryz.prog) wo w2.heap.size s i ty hit hi
        have hisz : i = s.size := by omega
        have HR : Hid (Lib.indexAny s.data.toList sp4 = -1) := Lib.indexAny_none (by rw [← Lib.size_eq, ← hisz]; exact hno.out)
        have HUP := Lib.hid hup.out
        clear hit hup hno hi hig hisz
        go_wp2_with fail
        go_ret
        exact ⟨by rw [HR.out]; rfl, HUP.out⟩
theorem ia_ok (s : ByteArray) (hs : s.size ≤ 1000) : IaOk s := fun i W hi => by
  have h := index_any_t (s.extract i s.size) W (by rw [ByteArray.size_extract]; omega)
  have e : (s.extract i s.size).data.toList = s.data.toList.drop i := by
    rw [ByteArray.data_extract, Array.toList_extract]
    exact List.take_of_length_le (by rw [List.length_drop, Array.length_toList]; exact Nat.le_refl _)
  rw [e] at h
  exact h
end Go.Proofs.YtcbmbhghmfehpaaGreat
namespace Go.Proofs.YtcbmbhghmfehpaaGreat
open Go.RowKit Go.Deep
end Go.Proofs.YtcbmbhghmfehpaaGreat
namespace Go.Proofs.YtcbmbhghmfehpaaGreat
open Go.RowKit Go.Deep
end Go.Proofs.YtcbmbhghmfehpaaGreat
namespace Go.Proofs.YtcbmbhghmfehpaaGreat
open Go.RowKit Go.Deep
end Go.Proofs.YtcbmbhghmfehpaaGreat
namespace Go.Proofs.YtcbmbhghmfehpaaGreat
open Go.RowKit Go.Deep
end Go.Proofs.YtcbmbhghmfehpaaGreat
namespace Go.Proofs.YtcbmbhghmfehpaaGreat
open Go.RowKit Go.Deep
section
variable {P : Program} {ops : Array Oper} {Q : Exit → Act → World → Prop} {md : Region.Mode} {S : World → Prop} {t : Nat}
end
end Go.Proofs.YtcbmbhghmfehpaaGreat
namespace Go.Proofs.YtcbmbhghmfehpaaGreat
section
variable {t : Tre}
end
end Go.Proofs.YtcbmbhghmfehpaaGreat
namespace Go.Proofs.YtcbmbhghmfehpaaGreat
section
variable {t : Tre}
def fdN (ns : List ByteArray) (a : ByteArray) : Int := firstIx (fun j => decide (a = gs ns j)) ns.length
theorem mem_flt {ns : List ByteArray} {a : ByteArray} : a ∈ fltN ns ↔ ∃ j, j < ns.length ∧ gs ns j = a ∧ a.size ≠ 0 := by
  unfold fltN
  rw [List.mem_filter]
  constructor
  · rintro ⟨h1, h2⟩
    obtain ⟨j, hj, e⟩ := List.mem_iff_getElem.1 h1
    exact ⟨j, hj, by rw [← e]; simp [gs, hj], of_decide_eq_true h2⟩
  · rintro ⟨j, hj, e, h2⟩
    refine ⟨?_, decide_eq_true h2⟩
    have : gs ns j = ns[j] := by simp [gs, hj]
    rw [← e, this]; exact List.getElem_mem hj
end
section
variable {t : Tre} {la : Nat}
end
end Go.Proofs.YtcbmbhghmfehpaaGreat
namespace Go.Proofs.YtcbmbhghmfehpaaGreat
section
variable {t : Tre} {L : List Int}
end
end Go.Proofs.YtcbmbhghmfehpaaGreat
namespace Go.Proofs.YtcbmbhghmfehpaaGreat
section
variable {t : Tre}
theorem sortL_pair (l : List Int) : (sortL l).Pairwise (· ≤ ·) := by
  have h := List.pairwise_mergeSort (le := fun x y : Int => decide (x ≤ y)) (fun a b c h1 h2 => by simp at h1 h2 ⊢; omega) (fun a b => by
    simp only [Bool.or_eq_true, decide_eq_true_eq]; omega) l
  exact h.imp fun h => by simpa using h
theorem nodup_map {α β : Type} {f : α → β} : ∀ {l : List α}, l.Nodup → (∀ x ∈ l, ∀ y ∈ l, f x = f y → x = y) → (l.map f).Nodup
  | [], _, _ => List.nodup_nil
  | a :: l, hn, h => by
    rw [List.map_cons, List.nodup_cons]
    have hn2 := List.nodup_cons.1 hn
    refine ⟨fun hm => ?_, nodup_map hn2.2 fun x hx y hy e => h x (List.mem_cons_of_mem _ hx) y (List.mem_cons_of_mem _ hy) e⟩
    obtain ⟨y, hy, e⟩ := List.mem_map.1 hm
    exact hn2.1 (h y (List.mem_cons_of_mem _ hy) a (List.mem_cons_self ..) e ▸ hy)
theorem lv_leafOk (he : treeErr t = 0) {x : Int} (hx : x ∈ leavesL t.ns) : ∃ j : Nat, x = j ∧ LeafOk t j := by
  obtain ⟨_, _, hl, _, _⟩ := treeErr_zero he
  obtain ⟨j, rfl, h1, h2⟩ := mem_leavesL.1 hx
  exact ⟨j, rfl, he, by omega, h2⟩
end
end Go.Proofs.YtcbmbhghmfehpaaGreat
namespace Go.Proofs.YtcbmbhghmfehpaaGreat
def lvS (t : Tre) (names : List ByteArray) (k : Nat) : List Int := memK (fun b => (List.range t.ps.length).any fun j => hitB t.ps k j && decide ((gs t.ns j).size ≠ 0) && decide (fdN names (gs t.ns j) = b)) names.length
def splS (n : Nat) (S : List Int) : List Int := if S.contains 0 then complL n S else S
def dupB (names : List ByteArray) : Bool := (List.range names.length).any (seenK names)
def offB (t : Tre) (names : List ByteArray) : Bool := (List.range (leavesL t.ns).length).any fun j => decide (fdN names (gs t.ns (gi (leavesL t.ns) j).toNat) < 0)
def splOErr (t : Tre) (names : List ByteArray) : Int :=
  if treeErr t ≠ 0 then 1 else if 32 < names.length then 4 else if dupB names then 7 else if (leavesL t.ns).length ≠ names.length ∨ offB t names = true then 9 else 0
def rawO (t : Tre) (names : List ByteArray) : List (List Int) := (((List.range t.ps.length).filter (fun k => decide (0 < k))).map fun k => splS names.length (lvS t names k)).filter fun s => decide (splErr names.length s = 0)
def splO (t : Tre) (names : List ByteArray) : List (List Int) := if splOErr t names = 0 then ordX (rawO t names) else []
structure OfOk (t : Tre) (names : List ByteArray) : Prop where
  te : treeErr t = 0
  le : names.length ≤ 32
  nd : ∀ j k, j < k → k < names.length → gs names k ≠ gs names j
  len : (leavesL t.ns).length = names.length
  has : ∀ j, j < t.ps.length → (gs t.ns j).size ≠ 0 → ∃ b : Nat, b < names.length ∧ gs names b = gs t.ns j
theorem fd_ex {names : List ByteArray} {a : ByteArray} : 0 ≤ fdN names a ↔ ∃ b, b < names.length ∧ gs names b = a := by
  constructor
  · intro h
    obtain ⟨k, hk⟩ := Int.eq_ofNat_of_zero_le h
    obtain ⟨h1, h2, _⟩ := firstIx_spec hk
    exact ⟨k, h1, (of_decide_eq_true h2).symm⟩
  · rintro ⟨b, hb, e⟩
    have hany : (List.range names.length).any (fun j => decide (a = gs names j)) = true := List.any_eq_true.2 ⟨b, List.mem_range.2 hb, decide_eq_true e.symm⟩
    rw [← firstIx_any] at hany
    exact of_decide_eq_true hany
theorem nd_inj {names : List ByteArray} (h : ∀ j k, j < k → k < names.length → gs names k ≠ gs names j) {a b : Nat} (ha : a < names.length) (hb : b < names.length) (e : gs names a = gs names b) : a = b := by
  rcases Nat.lt_trichotomy a b with c | c | c
  · exact absurd e.symm (h a b c hb)
  · exact c
  · exact absurd e (h b a c ha)
theorem fd_of {names : List ByteArray} (h : ∀ j k, j < k → k < names.length → gs names k ≠ gs names j) {b : Nat} (hb : b < names.length) : fdN names (gs names b) = (b : Int) := by
  have h1 : 0 ≤ fdN names (gs names b) := fd_ex.2 ⟨b, hb, rfl⟩
  obtain ⟨k, hk⟩ := Int.eq_ofNat_of_zero_le h1
  obtain ⟨h2, h3, _⟩ := firstIx_spec hk
  have h3 := of_decide_eq_true h3
  rw [hk]
  have := nd_inj h h2 hb h3.symm
  rw [this]
theorem dup_iff {names : List ByteArray} : dupB names = false ↔ ∀ j k, j < k → k < names.length → gs names k ≠ gs names j := by
  constructor
  · intro h j k hjk hk e
    have h1 := any_false h hk
    unfold seenK at h1
    have := any_false h1 hjk
    rw [decide_eq_true e.symm] at this; cases this
  · intro h
    refine any_none fun k hk => any_none fun j hj => decide_eq_false fun e => h j k hj hk e.symm
theorem splO_ok {t : Tre} {names : List ByteArray} : splOErr t names = 0 ↔ OfOk t names := by
  unfold splOErr
  constructor
  · intro h
    split at h
    · cases h
    · rename_i h1
      have h1 := Classical.not_not.1 h1
      obtain ⟨_, _, hl, _, _⟩ := treeErr_zero h1
      split at h
      · cases h
      · split at h
        · cases h
        · rename_i h3
          split at h
          · cases h
          · rename_i h4
            have h3 : dupB names = false := by simpa using h3
            have h4a : (leavesL t.ns).length = names.length := Classical.byContradiction fun e => h4 (.inl e)
            have h4b : offB t names = false := by
              cases e : offB t names with
              | false => rfl
              | true => exact absurd (.inr e) h4
            refine ⟨h1, by omega, dup_iff.1 h3, h4a, fun j hj h0 => ?_⟩
            have hm : (j : Int) ∈ leavesL t.ns := mem_leavesL.2 ⟨j, rfl, by omega, h0⟩
            obtain ⟨i, hi, e⟩ := in_gi hm
            have := any_false h4b hi
            rw [e, Int.toNat_natCast] at this
            have := of_decide_eq_false this
            exact fd_ex.1 (by omega)
  · intro h
    obtain ⟨_, _, hl, _, _⟩ := treeErr_zero h.te
    have hle := h.le
    rw [if_neg (fun e => e h.te), if_neg (by omega), dup_iff.2 h.nd, if_neg (by decide), if_neg]
    rintro (e | e)
    · exact e h.len
    · obtain ⟨i, hi, e⟩ := List.any_eq_true.1 e
      have hi := List.mem_range.1 hi
      obtain ⟨j, e1, e2, e3⟩ := mem_leavesL.1 (gi_mem hi)
      have e := of_decide_eq_true e
      rw [e1, Int.toNat_natCast] at e
      have := fd_ex.2 (h.has j (by omega) e3)
      omega
section
variable {t : Tre} {names : List ByteArray}
theorem hit_rootS (h : treeErr t = 0) (k : Nat) (hk : k < t.ps.length) : hitB t.ps 0 k = true := hit_all0 h k k (Nat.le_refl _) hk
theorem of_names (h : OfOk t names) {b : Nat} (hb : b < names.length) : ∃ j, j < t.ps.length ∧ (gs t.ns j).size ≠ 0 ∧ gs t.ns j = gs names b := by
  obtain ⟨_, _, hl, _, _⟩ := treeErr_zero h.te
  have hp : ∀ x ∈ leavesL t.ns, ∃ j : Nat, x = j ∧ LeafOk t j := fun x hx => lv_leafOk h.te hx
  have hnd : ((leavesL t.ns).map fun x => fdN names (gs t.ns x.toNat)).Nodup := by
    refine nodup_map ((leavesL_asc t.ns).imp fun h e => by omega) fun x hx y hy e => ?_
    obtain ⟨j, rfl, hj⟩ := hp x hx
    obtain ⟨k, rfl, hk⟩ := hp y hy
    rw [Int.toNat_natCast, Int.toNat_natCast] at e
    obtain ⟨b1, c1, e1⟩ := h.has j hj.lt hj.nm
    obtain ⟨b2, c2, e2⟩ := h.has k hk.lt hk.nm
    rw [← e1, ← e2, fd_of h.nd c1, fd_of h.nd c2] at e
    have : b1 = b2 := by omega
    subst this
    have := hj.inj hj.lt hk.lt hj.nm (by rw [← e1, ← e2])
    rw [this]
  have hperm := perm_subI (q := allI names.length) hnd (fun x hx => by
    obtain ⟨y, hy, rfl⟩ := List.mem_map.1 hx
    obtain ⟨j, rfl, hj⟩ := hp y hy
    obtain ⟨b1, c1, e1⟩ := h.has j hj.lt hj.nm
    rw [Int.toNat_natCast, ← e1, fd_of h.nd c1]
    exact mem_allI.2 ⟨by omega, by omega⟩) (by rw [allI_len, List.length_map, h.len]; exact Nat.le_refl _)
  have hb' : (b : Int) ∈ (leavesL t.ns).map fun x => fdN names (gs t.ns x.toNat) := hperm.mem_iff.2 (mem_allI.2 ⟨by omega, by omega⟩)
  obtain ⟨y, hy, e⟩ := List.mem_map.1 hb'
  obtain ⟨j, rfl, hj⟩ := hp y hy
  rw [Int.toNat_natCast] at e
  refine ⟨j, hj.lt, hj.nm, ?_⟩
  obtain ⟨b1, c1, e1⟩ := h.has j hj.lt hj.nm
  rw [← e1, fd_of h.nd c1] at e
  have : b1 = b := by omega
  rw [← e1, this]
theorem mem_lvS {k : Nat} {x : Int} : x ∈ lvS t names k ↔ 0 ≤ x ∧ x < (names.length : Int) ∧ ∃ j, j < t.ps.length ∧ hitB t.ps k j = true ∧ (gs t.ns j).size ≠ 0 ∧ fdN names (gs t.ns j) = x := by
  unfold lvS
  rw [mem_memK, List.any_eq_true]
  constructor
  · rintro ⟨h1, h2, j, hj, h3⟩
    simp only [Bool.and_eq_true, decide_eq_true_eq] at h3
    exact ⟨h1, h2, j, List.mem_range.1 hj, h3.1.1, h3.1.2, h3.2⟩
  · rintro ⟨h1, h2, j, hj, h3, h4, h5⟩
    refine ⟨h1, h2, j, List.mem_range.2 hj, ?_⟩
    simp only [Bool.and_eq_true, decide_eq_true_eq]
    exact ⟨⟨h3, h4⟩, h5⟩
theorem lvS_asc (t : Tre) (names : List ByteArray) (k : Nat) : (lvS t names k).Pairwise (· < ·) := memK_asc _ _
theorem lvS_lv (h : OfOk t names) {k : Nat} (hk : k < t.ps.length) : Lv names (toRF (frT t) (rkT t) k) (lvS t names k) := fun y => by
  rw [und_iff h.te hk]
  constructor
  · rintro ⟨j, hj, h1, h2, rfl⟩
    obtain ⟨b, hb, e⟩ := h.has j hj h2
    refine ⟨b, mem_lvS.2 ⟨by omega, by omega, j, hj, h1, h2, ?_⟩, e.symm⟩
    rw [← e, fd_of h.nd hb]
  · rintro ⟨b, hb, rfl⟩
    obtain ⟨_, h1, j, hj, h2, h3, h4⟩ := mem_lvS.1 hb
    obtain ⟨b', hb', e⟩ := h.has j hj h3
    rw [← e, fd_of h.nd hb'] at h4
    refine ⟨j, hj, h2, h3, ?_⟩
    rw [← e]
    congr 1
    omega
theorem lv_inj (hn : ∀ j k, j < k → k < names.length → gs names k ≠ gs names j) {s : RT} {X Y : List Int} (hX : X.Pairwise (· < ·)) (hY : Y.Pairwise (· < ·)) (bX : ∀ x ∈ X, 0 ≤ x ∧ x < (names.length : Int)) (bY : ∀ x ∈ Y, 0 ≤ x ∧ x < (names.length : Int)) (h1 : Lv names s X) (h2 : Lv names s Y) : X = Y := by
  have key : ∀ {X Y : List Int}, (∀ x ∈ X, 0 ≤ x ∧ x < (names.length : Int)) → (∀ x ∈ Y, 0 ≤ x ∧ x < (names.length : Int)) → Lv names s X → Lv names s Y → ∀ x ∈ X, x ∈ Y := fun {X Y} bX bY h1 h2 x hx => by
    obtain ⟨x0, xn⟩ := bX x hx
    obtain ⟨b, rfl⟩ := Int.eq_ofNat_of_zero_le x0
    obtain ⟨b', hb', e⟩ := (h2 (gs names b)).1 ((h1 _).2 ⟨b, hx, rfl⟩)
    have := bY _ hb'
    have := nd_inj hn (a := b) (b := b') (by omega) (by omega) e
    rw [this]; exact hb'
  exact asc_ext hX hY fun x => ⟨key bX bY h1 h2 x, key bY bX h2 h1 x⟩
theorem mem_splO (h : OfOk t names) {s : List Int} : s ∈ splO t names ↔ SplOk names.length s ∧ ∃ q ∈ subR (toR t), ∃ X, X.Pairwise (· < ·) ∧ (∀ x ∈ X, 0 ≤ x ∧ x < (names.length : Int)) ∧ Lv names q X ∧ s = splS names.length X := by
  unfold splO
  rw [if_pos (splO_ok.2 h), mem_ordX]
  unfold rawO
  rw [List.mem_filter, List.mem_map, decide_eq_true_eq, splErr_zero]
  constructor
  · rintro ⟨⟨k, hk, rfl⟩, h2⟩
    have hk := List.mem_range.1 (List.mem_filter.1 hk).1
    refine ⟨h2, toRF (frT t) (rkT t) k, ?_, lvS t names k, lvS_asc _ _ _, fun x hx => by have := mem_lvS.1 hx; exact ⟨this.1, this.2.1⟩, lvS_lv h hk, rfl⟩
    rw [subR_toR h.te]
    refine List.mem_map.2 ⟨k, ?_, rfl⟩
    have h0 := (treeErr_zero h.te).1
    refine (mem_nodesF (frT_arb h.te).wf h0 (Nat.le_refl _)).2 ?_
    rw [sub_hit h.te _ 0 k (Nat.le_refl _) h0 hk]
    exact hit_rootS h.te k hk
  · rintro ⟨h2, q, hq, X, hX, bX, hL, rfl⟩
    refine ⟨?_, h2⟩
    rw [subR_toR h.te] at hq
    obtain ⟨k, hk, rfl⟩ := List.mem_map.1 hq
    have hk := mem_nodes_lt h.te hk
    have e := lv_inj h.nd hX (lvS_asc t names k) bX (fun x hx => by have := mem_lvS.1 hx; exact ⟨this.1, this.2.1⟩) hL (lvS_lv h hk)
    refine ⟨k, List.mem_filter.2 ⟨List.mem_range.2 hk, decide_eq_true ?_⟩, by rw [e]⟩
    rcases Nat.eq_zero_or_pos k with e0 | e0
    · exfalso
      subst e0
      have hall : ∀ b : Nat, b < names.length → (b : Int) ∈ X := fun b hb => by
        rw [e]
        obtain ⟨j, hj, h3, h4⟩ := of_names h hb
        exact mem_lvS.2 ⟨by omega, by omega, j, hj, hit_rootS h.te j hj, h3, by rw [h4, fd_of h.nd hb]⟩
      have h0 := h2.n1
      have h3 : X.contains 0 = true := List.contains_iff_mem.2 (hall 0 (by omega))
      have h4 := h2.len
      have h5 : splS names.length X = [] := by
        unfold splS
        rw [if_pos h3, List.eq_nil_iff_forall_not_mem]
        intro x hx
        obtain ⟨x0, xn, hx⟩ := mem_complL.1 hx
        obtain ⟨b, rfl⟩ := Int.eq_ofNat_of_zero_le x0
        exact hx (hall b (by omega))
      rw [h5] at h4
      simp at h4
    · exact e0
end
end Go.Proofs.YtcbmbhghmfehpaaGreat
