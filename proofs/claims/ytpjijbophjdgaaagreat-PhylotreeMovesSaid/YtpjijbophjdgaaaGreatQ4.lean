/- Names, as layer 1's and layer 31's references have them. Names, as layer 1's and layer 31's references have them: IsName, named. The contracts of slices.Clone and slices.Equal of numbers. Lists of lists that a call grows; a store into a list of the call's own. Contracts: equal lists of lists. The contract of layer 31's reference's SameTree, at trees that are the same. -/
import Derived.Test.YtpjijbophjdgaaaGreatQ2
import Derived.Test.YtpjijbophjdgaaaGreatQ3
namespace Go.Proofs.YtpjijbophjdgaaaGreat
open Go.RowKit Go.Deep
theorem Tryz.infoBo : (Tryz.prog.info? 4).map (fun i => (i.zero, i.size, i.bytes)) = some (some (.bool false), 1, 1) := by kernel_rfl
theorem kind_classes (c : Nat) : (97 ≤ c ∧ c ≤ 122) ∨ (65 ≤ c ∧ c ≤ 90) ∨ (48 ≤ c ∧ c ≤ 57) ∨ c = 94 ∨ c = 126 ∨ c = 37 ∨ c = 39 ∨ c = 32 ∨ c = 46 ∨ c = 44 ∨ c = 59 ∨ c = 58 ∨ c = 33 ∨ c = 63 ∨ c = 40 ∨ c = 41 ∨ c = 45 ∨
    ((c < 97 ∨ 122 < c) ∧ (c < 65 ∨ 90 < c) ∧ (c < 48 ∨ 57 < c) ∧ c ≠ 94 ∧ c ≠ 126 ∧ c ≠ 37 ∧ c ≠ 39 ∧ c ≠ 32 ∧ c ≠ 46 ∧ c ≠ 44 ∧ c ≠ 59 ∧ c ≠ 58 ∧ c ≠ 33 ∧ c ≠ 63 ∧ c ≠ 40 ∧ c ≠ 41 ∧ c ≠ 45) := by omega
def KindPost (c : Nat) (w : World) (e : Ending) (w' : World) : Prop := e = .returned (.int .i64 (kindL c)) ∧ w = w'
theorem kp {c : Nat} {n : Int} {w : World} (h : n = kindL c) : KindPost c w (.returned (.int .i64 n)) w := ⟨by rw [h], rfl⟩
set_option maxRecDepth 100000 in
set_option maxHeartbeats 400000 in
theorem kindR_const (c : Nat) (h : c ∈ [94, 126, 37, 39, 32, 46, 44, 59, 58, 33, 63, 40, 41, 45]) (w : World) : Calls Tryz.prog 235 #[.int .u8 c] w (KindPost c w) := by
  simp only [List.mem_cons, List.not_mem_nil, or_false] at h
  rcases h with rfl | rfl | rfl | rfl | rfl | rfl | rfl | rfl | rfl | rfl | rfl | rfl | rfl | rfl
  all_goals
    go_enter Tryz.func235, Tryz.ntmps235
    go_wp2
    go_ret
    exact kp rfl
set_option maxRecDepth 100000 in
set_option maxHeartbeats 400000 in
theorem kindR_o1 (c : Nat) (HK : Hid (kindL c = 0)) (hc : c < 256) (h : c < 48 ∨ (57 < c ∧ c < 65) ∨ (90 < c ∧ c < 97) ∨ 122 < c) (e94 : ((c : Int) == 94) = false) (e126 : ((c : Int) == 126) = false) (e37 : ((c : Int) == 37) = false) (e39 : ((c : Int) == 39) = false) (e32 : ((c : Int) == 32) = false) (e46 : ((c : Int) == 46) = false) (e44 : ((c : Int) == 44) = false) (e59 : ((c : Int) == 59) = false) (e58 : ((c : Int) == 58) = false) (e33 : ((c : Int) == 33) = false) (e63 : ((c : Int) == 63) = false) (e40 : ((c : Int) == 40) = false) (e41 : ((c : Int) == 41) = false) (e45 : ((c : Int) == 45) = false) (w : World) : Calls Tryz.prog 235 #[.int .u8 c] w (KindPost c w) := by
  rcases h with h1 | ⟨h1, h2⟩ | ⟨h1, h2⟩ | h1
  all_goals
    go_enter Tryz.func235, Tryz.ntmps235
    go_wp2
    go_ret
    exact kp HK.out.symm
theorem kindR_other (c : Nat) (hc : c < 256) (h1 : c < 97 ∨ 122 < c) (h2 : c < 65 ∨ 90 < c) (h3 : c < 48 ∨ 57 < c) (n94 : c ≠ 94) (n126 : c ≠ 126) (n37 : c ≠ 37) (n39 : c ≠ 39) (n32 : c ≠ 32) (n46 : c ≠ 46) (n44 : c ≠ 44) (n59 : c ≠ 59) (n58 : c ≠ 58) (n33 : c ≠ 33) (n63 : c ≠ 63) (n40 : c ≠ 40) (n41 : c ≠ 41) (n45 : c ≠ 45) (w : World) : Calls Tryz.prog 235 #[.int .u8 c] w (KindPost c w) := by
  have hk : kindL c = 0 := by
    unfold kindL isLet isPun
    rw [if_neg (by simp; omega), if_neg (by omega), if_neg (by omega), if_neg n39, if_neg n32, if_neg (by simp; omega)]
  have e94 : ((c : Int) == 94) = false := by rw [beq_eq_false_iff_ne]; omega
  have e126 : ((c : Int) == 126) = false := by rw [beq_eq_false_iff_ne]; omega
  have e37 : ((c : Int) == 37) = false := by rw [beq_eq_false_iff_ne]; omega
  have e39 : ((c : Int) == 39) = false := by rw [beq_eq_false_iff_ne]; omega
  have e32 : ((c : Int) == 32) = false := by rw [beq_eq_false_iff_ne]; omega
  have e46 : ((c : Int) == 46) = false := by rw [beq_eq_false_iff_ne]; omega
  have e44 : ((c : Int) == 44) = false := by rw [beq_eq_false_iff_ne]; omega
  have e59 : ((c : Int) == 59) = false := by rw [beq_eq_false_iff_ne]; omega
  have e58 : ((c : Int) == 58) = false := by rw [beq_eq_false_iff_ne]; omega
  have e33 : ((c : Int) == 33) = false := by rw [beq_eq_false_iff_ne]; omega
  have e63 : ((c : Int) == 63) = false := by rw [beq_eq_false_iff_ne]; omega
  have e40 : ((c : Int) == 40) = false := by rw [beq_eq_false_iff_ne]; omega
  have e41 : ((c : Int) == 41) = false := by rw [beq_eq_false_iff_ne]; omega
  have e45 : ((c : Int) == 45) = false := by rw [beq_eq_false_iff_ne]; omega
  exact kindR_o1 c hk hc (by omega) e94 e126 e37 e39 e32 e46 e44 e59 e58 e33 e63 e40 e41 e45 w
set_option maxRecDepth 100000 in
set_option maxHeartbeats 400000 in
theorem kindR_range (c : Nat) (hc : c < 256) (h : (97 ≤ c ∧ c ≤ 122) ∨ (65 ≤ c ∧ c ≤ 90) ∨ (48 ≤ c ∧ c ≤ 57)) (w : World) : Calls Tryz.prog 235 #[.int .u8 c] w (KindPost c w) := by
  rcases h with ⟨h1, h2⟩ | ⟨h1, h2⟩ | ⟨h1, h2⟩
  · have hk : kindL c = 1 := by unfold kindL isLet; rw [if_pos (by simp; omega)]
    have HK := Lib.hid hk
    clear hk
    go_enter Tryz.func235, Tryz.ntmps235
    go_wp2
    go_ret
    exact kp HK.out.symm
  · have hk : kindL c = 1 := by unfold kindL isLet; rw [if_pos (by simp; omega)]
    have HK := Lib.hid hk
    clear hk
    go_enter Tryz.func235, Tryz.ntmps235
    go_wp2
    go_ret
    exact kp HK.out.symm
  · have hk : kindL c = 3 := by unfold kindL isLet; rw [if_neg (by simp; omega), if_neg (by omega), if_pos (by omega)]
    have HK := Lib.hid hk
    clear hk
    have e94 : ((c : Int) == 94) = false := by rw [beq_eq_false_iff_ne]; omega
    have e126 : ((c : Int) == 126) = false := by rw [beq_eq_false_iff_ne]; omega
    have e37 : ((c : Int) == 37) = false := by rw [beq_eq_false_iff_ne]; omega
    go_enter Tryz.func235, Tryz.ntmps235
    go_wp2
    go_ret
    exact kp HK.out.symm
theorem kindR_t (c : Nat) (hc : c < 256) (w : World) : Calls Tryz.prog 235 #[.int .u8 c] w fun e w' => e = .returned (.int .i64 (kindL c)) ∧ w = w' := by
  have h := kind_classes c
  rcases h with h | h | h | h | h | h | h | h | h | h | h | h | h | h | h | h | h | ⟨h1, h2, h3, n94, n126, n37, n39, n32, n46, n44, n59, n58, n33, n63, n40, n41, n45⟩
  · exact kindR_range c hc (.inl h) w
  · exact kindR_range c hc (.inr (.inl h)) w
  · exact kindR_range c hc (.inr (.inr h)) w
  · exact kindR_const c (by rw [h]; decide) w
  · exact kindR_const c (by rw [h]; decide) w
  · exact kindR_const c (by rw [h]; decide) w
  · exact kindR_const c (by rw [h]; decide) w
  · exact kindR_const c (by rw [h]; decide) w
  · exact kindR_const c (by rw [h]; decide) w
  · exact kindR_const c (by rw [h]; decide) w
  · exact kindR_const c (by rw [h]; decide) w
  · exact kindR_const c (by rw [h]; decide) w
  · exact kindR_const c (by rw [h]; decide) w
  · exact kindR_const c (by rw [h]; decide) w
  · exact kindR_const c (by rw [h]; decide) w
  · exact kindR_const c (by rw [h]; decide) w
  · exact kindR_const c (by rw [h]; decide) w
  · exact kindR_other c hc h1 h2 h3 n94 n126 n37 n39 n32 n46 n44 n59 n58 n33 n63 n40 n41 n45 w
set_option maxHeartbeats 400000 in
theorem lettersR_t (s : ByteArray) (hs : s.size ≤ 70000) (w : World) : Calls Tryz.prog 213 #[.string s] w fun e w' => e = .returned (.int .i64 (cntA s.data.toList)) ∧ w = w' := by
  go_enter Tryz.func213, Tryz.ntmps213
  go_wp2
  go_loop [3, 4, 5] (fun n i _ => ∃ k : Nat, k ≤ s.size ∧ i = .int .i64 k ∧ n = .int .i64 (cntA (s.data.toList.take k))) (fun _ i _ => s.size - (intOf i).toNat)
  case atStart => exact ⟨0, Nat.zero_le _, rfl, rfl⟩
  case round =>
    obtain ⟨k, hk, rfl, rfl⟩ := hrel
    have hb : cntA (s.data.toList.take k) ≤ 70000 := Nat.le_trans (cntA_le _) (by simp; omega)
    by_cases hlt : k < s.size
    · have hst := letters_step s k hlt
      have hk' := kind_aln s[k]
      have hc : s[k].toNat < 256 := s[k].toNat_lt
      generalize hm : cntA (s.data.toList.take k) = m at *
      have HS := Lib.hid hst
      have HK := Lib.hid hk'
      clear hst hm hk'
      go_wp2_with (go_at_call 235; refine (kindR_t _ hc _).mono ?_; rintro e w' ⟨rfl, rfl⟩; generalize kindL _ = q at *)
      all_goals
        go_round
        case rel => exact ⟨k + 1, by omega, by go_num, by rw [HS.out]; first | (rw [if_pos (HK.out.1 (by first | omega | (simp only [beq_iff_eq] at *; omega)))]; go_num) | (rw [if_neg (fun h => by have := HK.out.2 h; simp only [beq_eq_false_iff_ne, ne_eq] at *; omega)]; go_num)⟩
        case measure => simp [intOf]; omega
    · go_wp2
      go_ret
      exact ⟨ret_int (by rw [List.take_of_length_le (by simp; omega)]), rfl⟩
end Go.Proofs.YtpjijbophjdgaaaGreat
namespace Go.Proofs.YtpjijbophjdgaaaGreat
open Go.RowKit Go.Deep
def RtPost (w : World) (n : Nat) (e : Ending) (w' : World) : Prop := Below w.heap.size w w' ∧ ∃ v, ∃ bs : List Bool, e = .returned v ∧ bs.length = n ∧ SlAt Any w' v n (fun k => .bool (gb bs k))
theorem Owns.bools {base : Nat} {e : TypeId} {w : World} {v : Value} {xs : List Bool} (h : Owns base e w v (xs.map Value.bool)) : SlAt (fun b => base ≤ b) w v xs.length (fun k => .bool (gb xs k)) := by
  have := h.slAt
  rw [List.length_map] at this
  exact this.congr fun k hk => by simp [gb, hk]
theorem Owns.form {base : Nat} {e : TypeId} {w : World} {v : Value} {vs : List Value} {n : Nat} (h : Owns base e w v vs) (hn : vs.length = n) : ∃ p cap, v = .slice p n cap ∧ (p = none ∨ ∃ g, p = some ⟨g, 0, none⟩) := by
  subst hn
  rcases h.2 with ⟨rfl, h0⟩ | ⟨g, cap, cur, rfl, _⟩
  · exact ⟨none, 0, by rw [h0], .inl rfl⟩
  · exact ⟨_, cap, rfl, .inr ⟨g, rfl⟩⟩
theorem Owns.made (w : World) (e : TypeId) : Owns w.heap.size e (w.alloc (.cells #[] e)) (.slice (some ⟨w.heap.size, 0, none⟩) 0 0) [] := World.ownsRow_made w #[] 0 (Nat.le_refl _) (by unfold maxLen; omega) (by simp)
set_option maxRecDepth 100000 in
set_option maxHeartbeats 400000 in
theorem right_t (s : ByteArray) (hs : s.size ≤ 1000) (w : World) : Calls Tryz.prog 249 #[.string s] w (RtPost w s.size) := by
  go_enter Tryz.func249, Tryz.ntmps249
  go_wp2
  go_loopw [3, 4] (fun v i wr => ∃ k : Nat, ∃ bs : List Bool, k ≤ s.size ∧ i = .int .i64 k ∧ bs.length = k ∧ Owns w.heap.size 4 wr v (bs.map .bool) ∧ Below w.heap.size w wr) (fun _ i _ => s.size - (intOf i).toNat)
  case atStart => exact ⟨0, [], Nat.zero_le _, rfl, rfl, Owns.made _ _, (Below.refl _ _).alloc (Nat.le_refl _) _⟩
  case round =>
    obtain ⟨k, bs, hk, rfl, hbl, hown, hbr⟩ := hrel
    have hsz := hbr.size
    have HBL := Lib.hid hbl
    by_cases hlt : k < s.size
    · have HLL : Hid ((bs.map Value.bool).length ≤ 1000000) := by unfold Hid; rw [List.length_map]; omega
      clear hbl
      rcases Nat.eq_zero_or_pos k with rfl | hk0
      · go_wp2_with (first | (go_at_call 235; refine (kindR_t _ (UInt8.toNat_lt _) _).mono ?_; rintro e w' ⟨rfl, rfl⟩; generalize kindL _ = q at *) | (at_builtin; refine wpList_app1 wr rfl _ _ 146 rfl w.heap.size 4 _ 1 Tryz.underlying146 Tryz.infoBo rfl (by decide) hown rfl _ rfl rfl HLL.out hsz ?_; intro g cap w2 hown1 hg1 hb1))
        all_goals
          go_roundw
          case rel => exact ⟨1, bs ++ [_], by omega, by go_num, by rw [List.length_append, HBL.out]; rfl, by rw [List.map_append]; rw [List.length_map] at hown1; exact hown1, hbr.trans hb1⟩
          case measure => simp [intOf]; omega
      · have hsl := hown.bools
        obtain ⟨p, cap, rfl, hp⟩ := hown.form (n := k) (by rw [List.length_map]; exact HBL.out)
        rw [HBL.out] at hsl
        obtain ⟨p', cap', e', hcap', H⟩ := hsl.open
        cases e'
        obtain ⟨b, off, rfl, hc⟩ := H (k - 1) (by have := HBL.out; omega)
        clear H hsl hp
        go_wp2_with (first | (go_at_call 235; refine (kindR_t _ (UInt8.toNat_lt _) _).mono ?_; rintro e w' ⟨rfl, rfl⟩; generalize kindL _ = q at *) | (at_builtin; refine wpList_app1 wr rfl _ _ 146 rfl w.heap.size 4 _ 1 Tryz.underlying146 Tryz.infoBo rfl (by decide) hown rfl _ rfl rfl HLL.out hsz ?_; intro g cap w2 hown1 hg1 hb1))
        all_goals
          go_roundw
          case rel => exact ⟨k + 1, bs ++ [_], by omega, by go_num, by rw [List.length_append, HBL.out]; rfl, by rw [List.map_append]; rw [List.length_map] at hown1; exact hown1, hbr.trans hb1⟩
          case measure => simp [intOf]; omega
    · obtain rfl : k = s.size := by omega
      clear hlt hk hbl
      go_wp2
      go_ret
      exact ⟨hbr, _, bs, rfl, HBL.out, (by rw [← HBL.out]; exact hown.bools.sub fun _ _ _ => trivial)⟩
end Go.Proofs.YtpjijbophjdgaaaGreat
namespace Go.Proofs.YtpjijbophjdgaaaGreat
open Go.RowKit Go.Deep
section
variable {P : Program} {ops : Array Oper} {rest : List Oper} {o : Oper} {a : Act} {Q : Exit → Act → World → Prop}
end
theorem ints_ext {xs ys : List Int} (hl : xs.length = ys.length) (h : ∀ j, j < xs.length → gi xs j = gi ys j) : xs = ys := by
  refine List.ext_getElem hl fun i h1 h2 => ?_
  have := h i h1
  simpa [gi, h1, h2] using this
def EqPost (w : World) (b : Bool) (e : Ending) (w' : World) : Prop := e = .returned (.bool b) ∧ ∃ n, w' = w.drewN n
set_option maxRecDepth 100000 in
set_option maxHeartbeats 400000 in
theorem equal_int_t (S T : Nat → Prop) (w : World) (v u : Value) (xs ys : List Int) (h : IntsAt S w v xs) (h2 : IntsAt T w u ys) (hn : xs.length ≤ 1000000) (hn2 : ys.length ≤ 1000000) :
    Calls Tryz.prog 18 #[v, u] w (EqPost w (decide (xs = ys))) := by
  obtain ⟨p, cap, rfl, hcap, _⟩ := SlAt.open h
  obtain ⟨q, cap2, rfl, hcap2, _⟩ := SlAt.open h2
  have HX : Hid (IntsAt S w (.slice p xs.length cap) xs) := h
  have HY : Hid (IntsAt T w (.slice q ys.length cap2) ys) := h2
  clear h h2
  by_cases hl : xs.length = ys.length
  · have hl1 : ((xs.length : Int) != ys.length) = false := by simp [hl]
    have HL := Lib.hid hl
    clear hl
    go_enter Tryz.func18, Tryz.ntmps18
    go_wp2_with fail
    go_loopw [5, 13] (fun _ i wr => ∃ k n : Nat, k ≤ xs.length ∧ i = .int .i64 k ∧ wr = w.drewN n ∧ Hid (∀ j, j < k → gi xs j = gi ys j)) (fun _ i _ => xs.length - (intOf i).toNat)
    case atStart => exact ⟨0, 0, Nat.zero_le _, rfl, rfl, fun j hj => absurd hj (Nat.not_lt_zero _)⟩
    case round =>
      obtain ⟨k, n, hk, rfl, rfl, hd⟩ := hrel
      by_cases hlt : k < xs.length
      · have hlt2 : k < ys.length := by rw [← HL.out]; exact hlt
        obtain ⟨b, off, rfl, hc⟩ := ints_get HX.out hlt
        obtain ⟨b2, off2, rfl, hc2⟩ := ints_get HY.out hlt2
        have i1 : (0 : Int) ≤ (k : Int) := by omega
        have i2 : (k : Int) < (xs.length : Int) := by omega
        have i3 : (k : Int) < (ys.length : Int) := by omega
        generalize hx : gi xs k = x at *
        generalize hy : gi ys k = y at *
        have HXX := Lib.hid hx
        have HYY := Lib.hid hy
        clear hx hy
        by_cases hxy : x = y
        · have hxy1 : (x != y) = false := by simp [hxy]
          have HXY := Lib.hid hxy
          clear hxy
          go_wp2_with fail
          go_quiet (fail)
          go_wp2_with fail
          go_roundw
          case rel => exact ⟨k + 1, n + nq, by omega, by go_num, rfl, fun j hj => if e : j = k then by subst e; rw [HXX.out, HYY.out, HXY.out] else hd.out j (by omega)⟩
          case measure => simp [intOf]; omega
        · have hxy1 : (x != y) = true := by simpa using hxy
          have HXY := Lib.hid hxy
          clear hxy
          go_wp2_with fail
          go_quiet (fail)
          go_wp2_with fail
          go_ret
          refine ⟨ret_bool ?_, n + nq, by rw [World.drewN_drewN]⟩
          rw [eq_comm, decide_eq_false_iff_not]
          rintro rfl
          exact HXY.out (by rw [← HXX.out, ← HYY.out])
      · obtain rfl : k = xs.length := by omega
        clear hlt hk
        have hex : xs = ys := ints_ext HL.out hd.out
        have HEX : Hid (decide (xs = ys) = true) := decide_eq_true hex
        clear hex
        go_wp2_with fail
        go_ret
        exact ⟨ret_bool (by rw [HEX.out]), n, rfl⟩
  · have hl1 : ((xs.length : Int) != ys.length) = true := by simp; omega
    have HL := Lib.hid hl
    clear hl
    go_enter Tryz.func18, Tryz.ntmps18
    go_wp2_with fail
    go_ret
    refine ⟨ret_bool ?_, 0, rfl⟩
    rw [eq_comm, decide_eq_false_iff_not]
    rintro rfl
    exact HL.out rfl
end Go.Proofs.YtpjijbophjdgaaaGreat
namespace Go.Proofs.YtpjijbophjdgaaaGreat
open Go.RowKit Go.Deep
theorem Owns.set {base : Nat} {e : TypeId} {w : World} {v : Value} {vs : List Value} (h : Owns base e w v vs) {j : Nat} (hj : j < vs.length) :
    ∃ g cap, v = .slice (some ⟨g, 0, none⟩) vs.length cap ∧ base ≤ g ∧ g < w.heap.size ∧ w.cell? ⟨g, j, none⟩ = some (vs.getD j undef) ∧ w.frozen? ⟨g, j, none⟩ = false ∧ ∀ x, Owns base e (w.setCell ⟨g, j, none⟩ x) v (vs.set j x) := by
  obtain ⟨hl, h | ⟨g, cap, cur, rfl, hg, hc, hn, hcm, hcs, ht⟩⟩ := h
  · omega
  · have hgl : g < w.heap.size := (Array.getElem?_eq_some_iff.1 hc).1
    have ht1 : cur.toList.take vs.length = vs := by rw [Nat.mul_one] at ht; exact ht
    have hj2 : j < cur.size := by omega
    have hcell : cur[j]? = some (vs.getD j undef) := by
      have h1 : vs[j]? = some (vs.getD j undef) := by simp [hj]
      rw [← h1]
      have h2 := congrArg (·[j]?) ht1
      simp only [List.getElem?_take, hj, if_true] at h2
      rw [← h2]; simp
    refine ⟨g, cap, rfl, hg, hgl, by simp [World.cell?, hc, hcell], by simp [World.frozen?, hc], fun x => ⟨by simp, .inr ⟨g, cap, cur.setIfInBounds j x, by simp, hg, ?_, by simpa using hn, hcm, by simpa using hcs, ?_⟩⟩⟩
    · simp [World.setCell, Array.getElem?_modify, hc]
    · rw [List.length_set, Nat.mul_one, Array.toList_setIfInBounds, List.take_set, ht1]
theorem ownBlock_lt {base : Nat} {e : TypeId} {w : World} {v : Value} {vs : List Value} (h : Owns base e w v vs) {b : Nat} (hb : v.ownBlock = some b) : base ≤ b ∧ b < w.heap.size := World.ownsRow.lt h b hb
section
variable {P : Program} {ops : Array Oper} {rest : List Oper} {o : Oper} {a : Act} {Q : Exit → Act → World → Prop}
end
end Go.Proofs.YtpjijbophjdgaaaGreat
namespace Go.Proofs.YtpjijbophjdgaaaGreat
open Go.RowKit Go.Deep
def QD (w w' : World) : Prop := ∃ n, w' = w.drewN n
theorem QD.refl (w : World) : QD w w := ⟨0, rfl⟩
theorem QD.drewN {w w' : World} (h : QD w w') (n : Nat) : QD w (w'.drewN n) := by
  obtain ⟨m, rfl⟩ := h; exact ⟨m + n, by rw [World.drewN_drewN]⟩
theorem QD.kept {w w' : World} (h : QD w w') (S : Nat → Prop) : Kept S w w' := by
  obtain ⟨m, rfl⟩ := h; exact fun _ _ _ => rfl
theorem QD.up {w w' : World} (h : QD w w') : Up w w' := by
  obtain ⟨m, rfl⟩ := h; exact Up.drewN w m
end Go.Proofs.YtpjijbophjdgaaaGreat
namespace Go.Proofs.YtpjijbophjdgaaaGreat
open Go.RowKit Go.Deep
set_option maxRecDepth 100000 in
set_option maxHeartbeats 2000000 in
theorem sameTree_yes (S T : Nat → Prop) (w : World) (v u : Value) (t : Tre) (h : TreeAt S w v t) (h2 : TreeAt T w u t) (hp : t.ps.length ≤ 1000000) (hn : t.ns.length ≤ 1000000) :
    Calls Tryz.prog 37 #[v, u] w fun e w' => e = .returned (.bool true) ∧ Up w w' := by
  obtain ⟨P, N, rfl, hP, hN⟩ := h
  obtain ⟨P2, N2, rfl, hP2, hN2⟩ := h2
  obtain ⟨pp, pc, rfl, _, _⟩ := SlAt.open hP
  obtain ⟨np, nc, rfl, _, _⟩ := SlAt.open hN
  obtain ⟨pp2, pc2, rfl, _, _⟩ := SlAt.open hP2
  obtain ⟨np2, nc2, rfl, _, _⟩ := SlAt.open hN2
  have hP : IntsAt S w (.slice pp t.ps.length pc) t.ps := hP
  have hN : StrsAt S w (.slice np t.ns.length nc) t.ns := hN
  have hP2 : IntsAt T w (.slice pp2 t.ps.length pc2) t.ps := hP2
  have hN2 : StrsAt T w (.slice np2 t.ns.length nc2) t.ns := hN2
  have hu1 := Up.alloc w (.cells #[.slice pp t.ps.length pc, .slice np t.ns.length nc] 45)
  have hu2 := Up.alloc (w.alloc (.cells #[.slice pp t.ps.length pc, .slice np t.ns.length nc] 45)) (.cells #[.slice pp2 t.ps.length pc2, .slice np2 t.ns.length nc2] 45)
  have hu := hu1.trans hu2
  have a0 := hu2.cell (box2_0 w (.slice pp t.ps.length pc) (.slice np t.ns.length nc) 45)
  have a1 := hu2.cell (box2_1 w (.slice pp t.ps.length pc) (.slice np t.ns.length nc) 45)
  have b0 := box2_0 (w.alloc (.cells #[.slice pp t.ps.length pc, .slice np t.ns.length nc] 45)) (.slice pp2 t.ps.length pc2) (.slice np2 t.ns.length nc2) 45
  have b1 := box2_1 (w.alloc (.cells #[.slice pp t.ps.length pc, .slice np t.ns.length nc] 45)) (.slice pp2 t.ps.length pc2) (.slice np2 t.ns.length nc2) 45
  rw [World.size_alloc] at b0 b1
  have HP := Lib.hid (IntsAt.keep hP (hu.kept S))
  have HN := Lib.hid (StrsAt.keep hN (hu.kept S))
  have HP2 := Lib.hid (IntsAt.keep hP2 (hu.kept T))
  have HN2 := Lib.hid (StrsAt.keep hN2 (hu.kept T))
  have HU := Lib.hid hu
  have A0 := Lib.hid a0
  have A1 := Lib.hid a1
  have B0' := Lib.hid b0
  have B1' := Lib.hid b1
  have d0 : ((t.ps.length : Int) != (t.ps.length : Int)) = false := by simp
  have d1 : ((t.ns.length : Int) != (t.ns.length : Int)) = false := by simp
  clear hP hN hP2 hN2 hu hu1 hu2
  go_enter Tryz.func37, Tryz.ntmps37
  go_wp2_with fail
  clear a0 a1 b0 b1
  generalize (w.alloc (.cells #[.slice pp t.ps.length pc, .slice np t.ns.length nc] 45)).alloc (.cells #[.slice pp2 t.ps.length pc2, .slice np2 t.ns.length nc2] 45) = w1 at *
  go_loopw [5] (fun i wr => ∃ k : Nat, k ≤ t.ps.length ∧ i = .int .i64 k ∧ Hid (QD w1 wr)) (fun i _ => t.ps.length - (intOf i).toNat)
  case atStart => exact ⟨0, Nat.zero_le _, rfl, QD.refl _⟩
  case round =>
    obtain ⟨k, hk, rfl, hQ⟩ := hrel
    have a0 := hQ.out.up.cell A0.out
    have b0 := hQ.out.up.cell B0'.out
    by_cases hlt : k < t.ps.length
    · obtain ⟨b, off, rfl, hc⟩ := ints_get (IntsAt.keep HP.out (hQ.out.kept S)) hlt
      obtain ⟨b2, off2, rfl, hc2⟩ := ints_get (IntsAt.keep HP2.out (hQ.out.kept T)) hlt
      have i1 : (0 : Int) ≤ (k : Int) := by omega
      have i2 : (k : Int) < (t.ps.length : Int) := by omega
      generalize gi t.ps k = x at *
      have j1 : (x != x) = false := by simp
      go_wp2_with fail
      go_quiet (fail)
      go_wp2_with fail
      go_roundw
      case rel => exact ⟨k + 1, by omega, by go_num, hQ.out.drewN nq⟩
      case measure => simp [intOf]; omega
    · obtain rfl : k = t.ps.length := by omega
      have HQ0 := Lib.hid hQ.out
      clear hlt hk
      go_wp2_with fail
      go_loopw [6] (fun i wr => ∃ k : Nat, k ≤ t.ns.length ∧ i = .int .i64 k ∧ Hid (QD w1 wr)) (fun i _ => t.ns.length - (intOf i).toNat)
      case atStart => exact ⟨0, Nat.zero_le _, rfl, HQ0.out⟩
      case round =>
        obtain ⟨k, hk, rfl, hQ⟩ := hrel
        have a1 := hQ.out.up.cell A1.out
        have b1 := hQ.out.up.cell B1'.out
        by_cases hlt : k < t.ns.length
        · obtain ⟨b, off, rfl, hc⟩ := strs_get (StrsAt.keep HN.out (hQ.out.kept S)) hlt
          obtain ⟨b2, off2, rfl, hc2⟩ := strs_get (StrsAt.keep HN2.out (hQ.out.kept T)) hlt
          have i1 : (0 : Int) ≤ (k : Int) := by omega
          have i2 : (k : Int) < (t.ns.length : Int) := by omega
          generalize gs t.ns k = x at *
          have j1 : (x.toList == x.toList) = true := by simp
          go_wp2_with fail
          go_quiet (fail)
          go_wp2_with fail
          go_roundw
          case rel => exact ⟨k + 1, by omega, by go_num, hQ.out.drewN nq⟩
          case measure => simp [intOf]; omega
        · obtain rfl : k = t.ns.length := by omega
          clear hlt hk
          go_wp2_with fail
          go_ret
          exact ⟨rfl, HU.out.trans hQ.out.up⟩
end Go.Proofs.YtpjijbophjdgaaaGreat
