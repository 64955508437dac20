/- strings.IndexRune: a rune above ASCII is not among the four signs. strings.IndexAny at the four signs, for strings of any bytes. -/
import Derived.Test.YtpjijbophjdgaaaGreatQ41
import Derived.Test.YtpjijbophjdgaaaGreatQ48
import Derived.Test.YtpjijbophjdgaaaGreatQ10
import Derived.Test.YtpjijbophjdgaaaGreatQ7
import Derived.Laws.RangeAny
import Derived.WalkMore
import Derived.Shelf.Small.Utf8
import Derived.Shelf.Small.Strs
import Derived.Test.YtpjijbophjdgaaaGreatQ49
import Derived.Lib.OthersKept
namespace Go.Proofs.YtpjijbophjdgaaaGreat
open Go.RowKit Go.Deep
def sgB : ByteArray := ⟨#[40, 41, 44, 59]⟩
theorem sg_at : ∀ i, (h : i < 4) → (sgB[i]'h).toNat < 128 := by decide +kernel
theorem ib_none (j : Nat) {b : UInt8} (h : 128 ≤ b.toNat) : Lib.indexByte ((sgB.extract j 4).data.toList) b = -1 := by
  have key : ∀ l : List UInt8, b ∉ l → Lib.indexByte l b = -1 := fun l => by
    induction l with
    | nil => intro _; rfl
    | cons a l ih =>
      intro hm
      have h1 : a ≠ b := fun e => hm (by rw [e]; exact List.mem_cons_self)
      have h2 := ih fun h => hm (List.mem_cons_of_mem _ h)
      rw [Lib.indexByte, if_neg (by simpa using h1), h2]; rfl
  refine key _ fun hm => ?_
  rw [ByteArray.data_extract, Array.toList_extract] at hm
  have hm2 : b ∈ sgB.data.toList := List.mem_of_mem_drop (List.mem_of_mem_take hm)
  have hall : ∀ x ∈ sgB.data.toList, x.toNat < 128 := by decide +kernel
  have := hall b hm2
  omega
def LastHigh (s : ByteArray) : Prop := ∃ n : Nat, ∃ lb : UInt8, ∃ hs : s.size = n + 1, 1 ≤ n ∧ n ≤ 3 ∧ 128 ≤ lb.toNat ∧ s[n]'(by omega) = lb
theorem high_enc (r : Int) (h : 128 ≤ r) : LastHigh (Utf8.encode r) := by
  obtain ⟨c, hcd⟩ : ∃ c, c = if Utf8.valid r then r.toNat else Utf8.runeError := ⟨_, rfl⟩
  have hc : 128 ≤ c := by
    rw [hcd]
    split
    · omega
    · decide
  have hl : ∀ c : Nat, 128 ≤ (UInt8.ofNat (0x80 + c % 64)).toNat := fun c => by
    rw [UInt8.toNat_ofNat']; omega
  by_cases h1 : c < 0x800
  · have he : ∃ b0, Utf8.encode r = ⟨#[b0, UInt8.ofNat (0x80 + c % 64)]⟩ := by
      unfold Utf8.encode
      simp only [← hcd, if_neg (show ¬ c < 0x80 by omega), if_pos h1]
      exact ⟨_, rfl⟩
    obtain ⟨b0, he⟩ := he
    rw [he]
    exact ⟨1, _, rfl, by omega, by omega, hl c, rfl⟩
  · by_cases h2 : c < 0x10000
    · have he : ∃ b0 b1, Utf8.encode r = ⟨#[b0, b1, UInt8.ofNat (0x80 + c % 64)]⟩ := by
        unfold Utf8.encode
        simp only [← hcd, if_neg (show ¬ c < 0x80 by omega), if_neg h1, if_pos h2]
        exact ⟨_, _, rfl⟩
      obtain ⟨b0, b1, he⟩ := he
      rw [he]
      exact ⟨2, _, rfl, by omega, by omega, hl c, rfl⟩
    · have he : ∃ b0 b1 b2, Utf8.encode r = ⟨#[b0, b1, b2, UInt8.ofNat (0x80 + c % 64)]⟩ := by
        unfold Utf8.encode
        simp only [← hcd, if_neg (show ¬ c < 0x80 by omega), if_neg h1, if_neg h2]
        exact ⟨_, _, _, rfl⟩
      obtain ⟨b0, b1, b2, he⟩ := he
      rw [he]
      exact ⟨3, _, rfl, by omega, by omega, hl c, rfl⟩
set_option maxRecDepth 100000 in
set_option maxHeartbeats 4000000 in
theorem index_rune_t (w : World) (r : Int) (h : 128 ≤ r) (h2 : r ≤ 2147483647) :
    Calls Tryz.prog 178 #[.string sgB, .int .i32 r] w fun e w' => e = .returned (.int .i64 (-1)) ∧ Up w w' := by
  have d1 : decide ((0 : Int) ≤ r) = true := decide_eq_true (by omega)
  have d2 : decide (r < (128 : Int)) = false := decide_eq_false (by omega)
  have HVR := Lib.hid (fun W => Go.Proofs.Any.utf8_ValidRune (ρ := Tryz.idxA_ren) { Tryz.idxA with } r W)
  by_cases h3 : r = 65533
  · have d3 : (r == (65533 : Int)) = true := by simp [h3]
    clear h3
    go_enter Tryz.func178, Tryz.ntmps178
    go_wp2_with fail
    go_loopg [5, 6] 4 (fun g _ _ wx => ∃ i : Nat, i + g = 4 ∧ wx = w.iter sgB i)
    case atStart => exact ⟨0, rfl, rfl⟩
    case round =>
      obtain ⟨i, hig, rfl⟩ := hrel
      cases gk with
      | zero =>
        obtain rfl : i = 4 := by omega
        have hnx := fun ty => run_next_end (P := Tryz.prog) w sgB 4 ty (by decide)
        go_wp2_with fail
        go_ret
        exact ⟨rfl, Up.alloc _ _⟩
      | succ g =>
        have hi : i < 4 := by omega
        have hlt := sg_at i hi
        have hnx := fun ty => run_next_ascii (P := Tryz.prog) w sgB i ty hi hlt
        generalize (sgB[i]'hi).toNat = x at *
        have d4 : ((x : Int) == 65533) = false := by simp; omega
        go_wp2_with fail
        go_roundg g
        case measure => omega
        case rel => exact ⟨i + 1, by omega, rfl⟩
  · have d3 : (r == (65533 : Int)) = false := by simp [h3]
    clear h3
    obtain ⟨n, lb, hsn, n1, n3, hlb, hix0⟩ := high_enc r h
    go_enter Tryz.func178, Tryz.ntmps178
    go_wp2_with fail
    refine (HVR.out _).mono ?_
    rintro e w2 ⟨rfl, rfl⟩
    cases hv : Lib.validRune r
    · go_wp2_with fail
      go_ret
      exact ⟨rfl, Up.refl _⟩
    · go_wp2_with fail
      have hsz : ((Utf8.encode r).size : Int) = (n : Int) + 1 := by omega
      have hsz0 := hsz
      obtain ⟨nd, hnd⟩ : ∃ nd, nd = Utf8.encode r := ⟨_, rfl⟩
      have hlt : n < nd.size := by rw [hnd]; omega
      have hidx : nd[n]'hlt = lb := by subst hnd; exact hix0
      rw [← hnd] at hsz
      have i3 : (n : Int) < (nd.size : Int) := by omega
      have i1 : (n : Int) < 4 := by omega
      have i2 : (0 : Int) ≤ (n : Int) := by omega
      have hlt4 : n < 4 := by omega
      have w1 : wrap64 (n : Int) = (n : Int) := by unfold wrap64; omega
      have w2a : (n : Int) < (n : Int) + 1 := by omega
      have w3a : IntKind.i64.wrap ((n : Int) + 1) = (n : Int) + 1 := by rw [IntKind.wrap_i64]; omega
      have w3b : ((n : Int) + 1).toNat = n + 1 := by omega
      have w3c : (0 : Int) ≤ (n : Int) + 1 := by omega
      have w3d : (n : Int) + 1 ≤ 4 := by omega
      obtain ⟨cx, hcx⟩ : ∃ cx, cx = sgB[n]'hlt4 := ⟨_, rfl⟩
      have hcx1 : cx.toNat < 128 := by rw [hcx]; exact sg_at n hlt4
      have d5 : (((sgB[n]'hlt4).toNat : Int) != (lb.toNat : Int)) = true := by rw [← hcx]; simp; omega
      have HIB := Lib.hid (fun W => Go.Proofs.Any.strings_IndexByte (ρ := Tryz.idxA_ren) { Tryz.idxA with } (sgB.extract (n + 1) 4) (lb.toNat : Int) W)
      have hback : ((lb.toNat : Int)).toNat.toUInt8 = lb := by simp
      rw [hback, ib_none (n + 1) hlb] at HIB
      have hsg : (sgB.size : Int) = 4 := rfl
      have hsg2 : sgB.size = 4 := rfl
      have HND := Lib.hid hnd
      clear hix0 hsn hcx hnd
      go_step3
      go_wp2_with fail
      rw [← HND.out]
      clear HND
      go_loop [9, 10, 11, 12] (fun i f _ _ => i = .int .i64 n ∧ f = .int .i64 0) (fun _ _ _ _ => 0)
      case atStart => exact ⟨rfl, rfl⟩
      case round =>
        obtain ⟨rfl, rfl⟩ := hrel
        go_wp2_with fail
        go_step3
        go_wp2_with fail
        refine region_T (by kernel_rfl) 7 (fun _ => True) trivial (fun hS => ?_)
        simp only [List.size_toArray, List.length_cons, List.length_nil, Nat.reduceAdd, Array.replicate_succ, Array.replicate_zero, List.push_toArray, List.nil_append, List.cons_append]
        refine anyT.take (i := 0) (v := ?gv0k1) rfl (by kernel_rfl) (fun _ _ _ h => h) (by rfl) (fun w hSw => ?gy0k1) hS ?gr0k1
        case gy0k1 =>
          (try dsimp only at hSw)
          go_simp
          try with_reducible rfl
        try simp only [Act.put, List.setIfInBounds_toArray, List.set_cons_zero, List.set_cons_succ]
        refine anyT.take (i := 1) (v := ?gv1k1) rfl (by kernel_rfl) (fun _ _ _ h => h) (by rfl) (fun w hSw => ?gy1k1) hS ?gr1k1
        case gy1k1 =>
          (try dsimp only at hSw)
          go_simp
          try with_reducible rfl
        try simp only [Act.put, List.setIfInBounds_toArray, List.set_cons_zero, List.set_cons_succ]
        refine anyT.take (i := 2) (v := ?gv2k1) rfl (by kernel_rfl) (fun _ _ _ h => h) (by rfl) (fun w hSw => ?gy2k1) hS ?gr2k1
        case gy2k1 =>
          (try dsimp only at hSw)
          go_simp
          try with_reducible rfl
        try simp only [Act.put, List.setIfInBounds_toArray, List.set_cons_zero, List.set_cons_succ]
        refine anyT.take (i := 3) (v := ?gv3k1) rfl (by kernel_rfl) (fun _ _ _ h => h) (by rfl) (fun w hSw => ?gy3k1) hS ?gr3k1
        case gy3k1 =>
          (try dsimp only at hSw)
          go_simp
          try with_reducible rfl
        try simp only [Act.put, List.setIfInBounds_toArray, List.set_cons_zero, List.set_cons_succ]
        refine anyT.take (i := 4) (v := ?gv4k1) rfl (by kernel_rfl) (fun _ _ _ h => h) (by rfl) (fun w hSw => ?gy4k1) hS ?gr4k1
        case gy4k1 =>
          (try dsimp only at hSw)
          go_simp
          try with_reducible rfl
        try simp only [Act.put, List.setIfInBounds_toArray, List.set_cons_zero, List.set_cons_succ]
        refine anyT.take (i := 5) (v := ?gv5k1) rfl (by kernel_rfl) (fun _ _ _ h => h) (by rfl) (fun w hSw => ?gy5k1) hS ?gr5k1
        case gy5k1 =>
          (try dsimp only at hSw)
          go_simp
          try with_reducible rfl
        try simp only [Act.put, List.setIfInBounds_toArray, List.set_cons_zero, List.set_cons_succ]
        refine anyT.step (i := 6) rfl (by kernel_rfl) (fun K' hK => ?_)
        go_simp
        refine hK.out _ _ (not_more (by kernel_rfl)) (fun hS => ?_)
        refine anyT.done (by kernel_rfl) ?_
        go_wp2_with fail
        refine region_T (by kernel_rfl) 9 (fun _ => True) trivial (fun hS => ?_)
        simp only [List.size_toArray, List.length_cons, List.length_nil, Nat.reduceAdd, Array.replicate_succ, Array.replicate_zero, List.push_toArray, List.nil_append, List.cons_append]
        refine anyT.take (i := 0) (v := ?gv0k2) rfl (by kernel_rfl) (fun _ _ _ h => h) (by rfl) (fun w hSw => ?gy0k2) hS ?gr0k2
        case gy0k2 =>
          (try dsimp only at hSw)
          go_simp
          try with_reducible rfl
        try simp only [Act.put, List.setIfInBounds_toArray, List.set_cons_zero, List.set_cons_succ]
        refine anyT.take (i := 1) (v := ?gv1k2) rfl (by kernel_rfl) (fun _ _ _ h => h) (by rfl) (fun w hSw => ?gy1k2) hS ?gr1k2
        case gy1k2 =>
          (try dsimp only at hSw)
          go_simp
          try with_reducible rfl
        try simp only [Act.put, List.setIfInBounds_toArray, List.set_cons_zero, List.set_cons_succ]
        refine anyT.take (i := 2) (v := ?gv2k2) rfl (by kernel_rfl) (fun _ _ _ h => h) (by rfl) (fun w hSw => ?gy2k2) hS ?gr2k2
        case gy2k2 =>
          (try dsimp only at hSw)
          go_simp
          try with_reducible rfl
        try simp only [Act.put, List.setIfInBounds_toArray, List.set_cons_zero, List.set_cons_succ]
        refine anyT.take (i := 3) (v := ?gv3k2) rfl (by kernel_rfl) (fun _ _ _ h => h) (by rfl) (fun w hSw => ?gy3k2) hS ?gr3k2
        case gy3k2 =>
          (try dsimp only at hSw)
          go_simp
          try with_reducible rfl
        try simp only [Act.put, List.setIfInBounds_toArray, List.set_cons_zero, List.set_cons_succ]
        refine anyT.take (i := 4) (v := ?gv4k2) rfl (by kernel_rfl) (fun _ _ _ h => h) (by rfl) (fun w hSw => ?gy4k2) hS ?gr4k2
        case gy4k2 =>
          (try dsimp only at hSw)
          go_simp
          try with_reducible rfl
        try simp only [Act.put, List.setIfInBounds_toArray, List.set_cons_zero, List.set_cons_succ]
        refine anyT.take (i := 5) (v := ?gv5k2) rfl (by kernel_rfl) (fun _ _ _ h => h) (by rfl) (fun w hSw => ?gy5k2) hS ?gr5k2
        case gy5k2 =>
          (try dsimp only at hSw)
          go_simp
          try with_reducible rfl
        try simp only [Act.put, List.setIfInBounds_toArray, List.set_cons_zero, List.set_cons_succ]
        refine anyT.take (i := 6) (v := ?gv6k2) rfl (by kernel_rfl) (fun _ _ _ h => h) (by rfl) (fun w hSw => ?gy6k2) hS ?gr6k2
        case gy6k2 =>
          (try dsimp only at hSw)
          go_simp
          try with_reducible rfl
        try simp only [Act.put, List.setIfInBounds_toArray, List.set_cons_zero, List.set_cons_succ]
        refine anyT.step (i := 7) rfl (by kernel_rfl) (fun K' hK => ?_)
        go_simp
        refine (HIB.out _).mono ?_
        rintro e w4 ⟨rfl, rfl⟩
        refine hK.out _ _ (fun _ => trivial) (fun hS => ?_)
        try simp only [List.setIfInBounds_toArray, List.set_cons_zero, List.set_cons_succ]
        refine anyT.step (i := 8) rfl (by kernel_rfl) (fun K' hK => ?_)
        go_simp
        refine hK.out _ _ (not_more (by kernel_rfl)) (fun hS => ?_)
        refine anyT.done (by kernel_rfl) ?_
        go_wp2_with fail
        simp +zetaDelta only [Exit.noGoto, Exit.inBlock, Exit.then]
        refine bodyPost_ret (results_tmp rfl _ _ _) rfl ?_
        exact ⟨rfl, (Up.drewN _ 1).trans (Up.drewN _ 1)⟩
end Go.Proofs.YtpjijbophjdgaaaGreat
namespace Go.Proofs.YtpjijbophjdgaaaGreat
open Go.RowKit Go.Deep
theorem get_of (s : ByteArray) (k : Nat) (h : k < s.size) : s.get! k = s[k]'h := by
  simp [ByteArray.get!, getElem!_pos, h]; rfl
theorem decode_skip (s : ByteArray) (pos : Nat) (h : pos < s.size) (ha : 128 ≤ (s[pos]'h).toNat) : 1 ≤ (Utf8.decode s pos).2 ∧ pos + (Utf8.decode s pos).2 ≤ s.size ∧ ∀ j, (hj : j < (Utf8.decode s pos).2) → ∀ hl : pos + j < s.size, 128 ≤ (s[pos + j]'hl).toNat := by
  have key : ∀ w : Nat, 1 ≤ w → w ≤ 4 → (∀ j, 1 ≤ j → j < w → pos + j < s.size ∧ (s.get! (pos + j)).toNat / 64 = 2) → 1 ≤ w ∧ pos + w ≤ s.size ∧ ∀ j, (hj : j < w) → ∀ hl : pos + j < s.size, 128 ≤ (s[pos + j]'hl).toNat := fun w h1 _ hc => by
    refine ⟨h1, ?_, fun j hj hl => ?_⟩
    · by_cases e : w = 1
      · omega
      · have := (hc (w - 1) (by omega) (by omega)).1; omega
    · by_cases e : j = 0
      · subst e; exact ha
      · have h2 := (hc j (by omega) hj).2
        rw [get_of s _ hl] at h2
        omega
  have one := key 1 (Nat.le_refl _) (by omega) (fun j a b => by omega)
  have cont : ∀ k, (decide (pos + k < s.size) && (s.get! (pos + k)).toNat / 64 == 2) = true → pos + k < s.size ∧ (s.get! (pos + k)).toNat / 64 = 2 := fun k hk => by
    simp only [Bool.and_eq_true, decide_eq_true_eq, beq_iff_eq] at hk; exact hk
  have hn : ¬ (s[pos]'h).toNat < 128 := by omega
  unfold Utf8.decode
  simp only [get_at s pos h, hn, if_false]
  split
  · rename_i hb
    rw [Bool.and_eq_true] at hb
    split
    · exact key 2 (by omega) (by omega) fun j h1 h2 => by obtain rfl : j = 1 := by omega
                                                          exact cont 1 hb.2
    · exact one
  · split
    · rename_i hb
      rw [Bool.and_eq_true, Bool.and_eq_true] at hb
      split
      · exact key 3 (by omega) (by omega) fun j h1 h2 => by
          by_cases e : j = 1
          · subst e; exact cont 1 hb.1.2
          · obtain rfl : j = 2 := by omega
            exact cont 2 hb.2
      · exact one
    · split
      · rename_i hb
        rw [Bool.and_eq_true, Bool.and_eq_true, Bool.and_eq_true] at hb
        split
        · exact key 4 (by omega) (by omega) fun j h1 h2 => by
            by_cases e : j = 1
            · subst e; exact cont 1 hb.1.1.2
            · by_cases e2 : j = 2
              · subst e2; exact cont 2 hb.1.2
              · obtain rfl : j = 3 := by omega
                exact cont 3 hb.2
        · exact one
      · exact one
theorem noany_skip {s : ByteArray} {i d : Nat} (h : Lib.NoAny s.data.toList sp4 i) (hs : i + d ≤ s.size) (hb : ∀ j, (hj : j < d) → ∀ hl : i + j < s.size, 128 ≤ (s[i + j]'hl).toNat) : Lib.NoAny s.data.toList sp4 (i + d) := fun j b hj hx => by
  by_cases e : j < i
  · exact h j b e hx
  · obtain ⟨d2, rfl⟩ : ∃ d2, j = i + d2 := ⟨j - i, by omega⟩
    have hl : i + d2 < s.size := by omega
    have h1 := hb d2 (by omega) hl
    rw [Lib.data_getElem? s (i + d2) hl] at hx
    injection hx with hx
    have h3 : 128 ≤ b.toNat := by rw [← hx]; exact h1
    cases hc : sp4.contains b with
    | false => rfl
    | true =>
      have hm := List.contains_iff_mem.1 hc
      simp only [sp4, List.mem_cons, List.not_mem_nil, or_false] at hm
      rcases hm with rfl | rfl | rfl | rfl <;> exact absurd h3 (by decide)
set_option maxRecDepth 100000 in
set_option maxHeartbeats 8000000 in
theorem index_any_t (s : ByteArray) (w : World) (hs : s.size ≤ 1000) : Calls Tryz.prog 114 #[.string s, .string sgB] w fun e w' => e = .returned (.int .i64 (Lib.indexAny s.data.toList sp4)) ∧ Up w w' := by
  by_cases h8 : 8 < s.size
  · have h := Go.Proofs.Any.strings_IndexAny_long (ρ := Tryz.idxA_ren) Tryz.idxA (zero_of_info (P := Tryz.prog) (t := 200) (v := .agg (Array.replicate 256 (.bool false))) (n := 256) (by kernel_rfl)).1 (zero_of_info (P := Tryz.prog) (t := 200) (v := .agg (Array.replicate 256 (.bool false))) (n := 256) (by kernel_rfl)).2 s sgB w (by decide) h8 (by omega) (by decide) (by
      intro j b hb
      have hm := List.mem_of_getElem? hb
      have hall : ∀ x ∈ sgB.data.toList, x.toNat < 128 := by decide +kernel
      exact hall b hm)
    refine h.mono ?_
    rintro e w' ⟨rfl, rfl⟩
    exact ⟨rfl, (Up.alloc _ _).trans (Up.alloc _ _)⟩
  · have h8z : decide ((8 : Int) < (s.size : Int)) = false := decide_eq_false (by omega)
    have HSA := Lib.hid (fun W => Go.Proofs.Any.strings_shouldUseASCIISet (ρ := Tryz.idxA_ren) { Tryz.idxA with } (s.size : Int) W)
    rw [h8z] at HSA
    have HIH := Lib.hid index_rune_t
    have HIL := Lib.hid (fun (x : UInt8) (h : x.toNat < 128) W => Go.Proofs.Any.strings_IndexRune_ascii (ρ := Tryz.idxA_ren) { Tryz.idxA with } sgB (x.toNat : Int) W (by omega) (by omega))
    have hsz1 : ((sgB.size : Int) == 1) = false := rfl
    have hemp : (sgB.toList == []) = false := by decide +kernel
    clear h8
    go_enter Tryz.func114, Tryz.ntmps114
    go_wp2_with fail
    refine (HSA.out _).mono ?_
    rintro e w2 ⟨rfl, rfl⟩
    go_wp2_with fail
    go_loopg [9, 10] s.size (fun g _ _ wx => ∃ i : Nat, i + g = s.size ∧ wx.heap[w2.heap.size]? = some (.stringIter s i) ∧ Hid (Up w2 wx) ∧ Hid (Lib.NoAny s.data.toList sp4 i))
    case atStart => exact ⟨0, by omega, World.iter_heap _ _ _, Up.alloc _ _, Lib.NoAny.zero _ _⟩
    case round =>
      obtain ⟨i, hig, hit, hup, hno⟩ := hrel
      obtain ⟨wo, rfl⟩ : ∃ wo : World, wo = wr := ⟨_, rfl⟩
      by_cases hi : i < s.size
      · have hnx := fun ty => Lib.run_next_any_at (P := Tryz.prog) wo w2.heap.size s i ty hit hi
        have hit2 := Lib.iterAt_heap wo w2.heap.size s i (i + (Utf8.decode s i).2) hit
        have HIT := Lib.hid hit2
        have HU2 : Hid (Up w2 (wo.iterAt w2.heap.size s (i + (Utf8.decode s i).2))) := Lib.below_iterAt hup.out (Nat.le_refl _) _ _
        have HDL := Lib.hid (decode_le s i)
        obtain ⟨x, hx⟩ : ∃ x : UInt8, s[i]'hi = x := ⟨_, rfl⟩
        have hxl : s.data.toList[i]? = some x := by rw [← hx]; exact Lib.data_getElem? s i hi
        have HXL := Lib.hid hxl
        have HG := Lib.hid hig
        have HI := Lib.hid hi
        by_cases ha : 128 ≤ x.toNat
        · obtain ⟨k1, k2, k3⟩ := decode_skip s i hi (by rw [hx]; exact ha)
          have h1 := (decode_high s i hi (by rw [hx]; exact ha)).1
          have HNX := Lib.hid (noany_skip hno.out k2 k3)
          have HK := Lib.hid k1
          have HK2 := Lib.hid k2
          have HC := Lib.hid (HIH.out (wo.iterAt w2.heap.size s (i + (Utf8.decode s i).2)) ((Utf8.decode s i).1 : Int) (by omega) (by have := HDL.out; omega))
          clear hit hit2 hup hno hxl hx hi hig k1 k2 k3 ha h1
          generalize (Utf8.decode s i).1 = rn at *
          generalize (Utf8.decode s i).2 = wd at *
          go_wp2_with fail
          refine HC.out.mono ?_
          rintro e w5 ⟨rfl, hu5⟩
          have HU5 : Hid (Up w2 w5) := HU2.out.trans hu5
          have HIT5 : Hid (w5.heap[w2.heap.size]? = some (.stringIter s (i + wd))) := (Below.block hu5 w2.heap.size (Array.getElem?_eq_some_iff.1 HIT.out).1).trans HIT.out
          clear hu5
          go_wp2_with fail
          go_roundg (s.size - (i + wd))
          case measure => have := HG.out; have := HK.out; have := HK2.out; omega
          case rel => exact ⟨i + wd, by have := HK2.out; omega, HIT5.out, HU5.out, HNX.out⟩
        · have h1 : Utf8.decode s i = (x.toNat, 1) := by rw [decode_ascii s i hi (by rw [hx]; omega), hx]
          rw [h1] at hnx HIT HU2
          have HC := Lib.hid (HIL.out x (by omega) (wo.iterAt w2.heap.size s (i + 1)))
          have hback : ((x.toNat : Int)).toNat.toUInt8 = x := by simp
          rw [hback] at HC
          have hcon := Lib.contains_iff_indexByte sp4 x
          cases hin : sp4.contains x
          · have hlt : decide ((0 : Int) ≤ Lib.indexByte sgB.data.toList x) = false := by rw [hin] at hcon; exact hcon.symm
            have HNX := Lib.hid (hno.out.succ hxl hin)
            clear hit hit2 hup hno hxl hx hi hig ha h1 hcon
            generalize Lib.indexByte sgB.data.toList x = ib at *
            go_wp2_with fail
            refine HC.out.mono ?_
            rintro e w5 ⟨rfl, rfl⟩
            go_wp2_with fail
            go_roundg (s.size - (i + 1))
            case measure => have := HG.out; have := HI.out; omega
            case rel => exact ⟨i + 1, by have := HI.out; omega, HIT.out, HU2.out, HNX.out⟩
          · have hlt : decide ((0 : Int) ≤ Lib.indexByte sgB.data.toList x) = true := by rw [hin] at hcon; exact hcon.symm
            have HR : Hid (Lib.indexAny s.data.toList sp4 = (i : Int)) := Lib.indexAny_hit hno.out hxl hin
            clear hit hit2 hup hno hxl hx hi hig ha h1 hcon
            generalize Lib.indexByte sgB.data.toList x = ib at *
            go_wp2_with fail
            refine HC.out.mono ?_
            rintro e w5 ⟨rfl, rfl⟩
            go_wp2_with fail
            go_ret
            exact ⟨by rw [HR.out]; rfl, HU2.out⟩
      · have hnx := fun ty => Lib.run_next_end_at (P := Tryz.prog) wo w2.heap.size s i ty hit hi
        have hisz : i = s.size := by omega
        have HR : Hid (Lib.indexAny s.data.toList sp4 = -1) := Lib.indexAny_none (by rw [← Lib.size_eq, ← hisz]; exact hno.out)
        have HUP := Lib.hid hup.out
        clear hit hup hno hi hig hisz
        go_wp2_with fail
        go_ret
        exact ⟨by rw [HR.out]; rfl, HUP.out⟩
theorem ia_ok (s : ByteArray) (hs : s.size ≤ 1000) : IaOk s := fun i W hi => by
  have h := index_any_t (s.extract i s.size) W (by rw [ByteArray.size_extract]; omega)
  have e : (s.extract i s.size).data.toList = s.data.toList.drop i := by
    rw [ByteArray.data_extract, Array.toList_extract]
    exact List.take_of_length_le (by rw [List.length_drop, Array.length_toList]; exact Nat.le_refl _)
  rw [e] at h
  exact h
end Go.Proofs.YtpjijbophjdgaaaGreat
