/- Names, as layer 1's and layer 31's references have them: IsName, named. -/
import Derived.Test.YtflikmllpimaiaaB7
namespace Go.Proofs.Ytflikmllpimaiaa
open Go.RowKit Go.Deep
def RtPost (w : World) (n : Nat) (e : Ending) (w' : World) : Prop := Below w.heap.size w w' ∧ ∃ v, ∃ bs : List Bool, e = .returned v ∧ bs.length = n ∧ SlAt Any w' v n (fun k => .bool (gb bs k))
theorem Owns.bools {base : Nat} {e : TypeId} {w : World} {v : Value} {xs : List Bool} (h : Owns base e w v (xs.map Value.bool)) : SlAt (fun b => base ≤ b) w v xs.length (fun k => .bool (gb xs k)) := by
  have := h.slAt
  rw [List.length_map] at this
  exact this.congr fun k hk => by simp [gb, hk]
theorem SlAt.at0 {S : Nat → Prop} {w : World} {b n cap : Nat} {f : Nat → Value} {o : Nat} (h : SlAt S w (.slice (some ⟨b, o, none⟩) n cap) n f) {k : Nat} (hk : k < n) : w.cell? ⟨b, o + k, none⟩ = some (f k) := by
  obtain ⟨p, c, e, _, H⟩ := h.open
  cases e
  obtain ⟨b', o', e', hc⟩ := H k hk
  cases e'
  exact hc
theorem Owns.form {base : Nat} {e : TypeId} {w : World} {v : Value} {vs : List Value} {n : Nat} (h : Owns base e w v vs) (hn : vs.length = n) : ∃ p cap, v = .slice p n cap ∧ (p = none ∨ ∃ g, p = some ⟨g, 0, none⟩) := by
  subst hn
  rcases h.2 with ⟨rfl, h0⟩ | ⟨g, cap, cur, rfl, _⟩
  · exact ⟨none, 0, by rw [h0], .inl rfl⟩
  · exact ⟨_, cap, rfl, .inr ⟨g, rfl⟩⟩
theorem Owns.made (w : World) (e : TypeId) : Owns w.heap.size e (w.alloc (.cells #[] e)) (.slice (some ⟨w.heap.size, 0, none⟩) 0 0) [] := World.ownsRow_made w #[] 0 (Nat.le_refl _) (by unfold maxLen; omega) (by simp)
set_option maxRecDepth 100000 in
set_option maxHeartbeats 400000 in
theorem right_t (s : ByteArray) (hs : s.size ≤ 1000) (w : World) : Calls Try.prog 145 #[.string s] w (RtPost w s.size) := by
  go_enter Try.func145, Try.ntmps145
  go_wp2
  go_loopw [3, 4] (fun v i wr => ∃ k : Nat, ∃ bs : List Bool, k ≤ s.size ∧ i = .int .i64 k ∧ bs.length = k ∧ Owns w.heap.size 4 wr v (bs.map .bool) ∧ Below w.heap.size w wr) (fun _ i _ => s.size - (intOf i).toNat)
  case atStart => exact ⟨0, [], Nat.zero_le _, rfl, rfl, Owns.made _ _, (Below.refl _ _).alloc (Nat.le_refl _) _⟩
  case round =>
    obtain ⟨k, bs, hk, rfl, hbl, hown, hbr⟩ := hrel
    have hsz := hbr.size
    have HBL := Lib.hid hbl
    by_cases hlt : k < s.size
    · have HLL : Hid ((bs.map Value.bool).length ≤ 1000000) := by unfold Hid; rw [List.length_map]; omega
      clear hbl
      rcases Nat.eq_zero_or_pos k with rfl | hk0
      · go_wp2_with (first | (go_at_call 133; refine (kindR_t _ (UInt8.toNat_lt _) _).mono ?_; rintro e w' ⟨rfl, rfl⟩; generalize kindL _ = q at *) | (at_builtin; refine wpList_app1 wr rfl _ _ 92 rfl w.heap.size 4 _ 1 Try.underlying92 Try.infoBo rfl (by decide) hown rfl _ rfl rfl HLL.out hsz ?_; intro g cap w2 hown1 hg1 hb1))
        all_goals
          go_roundw
          case rel => exact ⟨1, bs ++ [_], by omega, by go_num, by rw [List.length_append, HBL.out]; rfl, by rw [List.map_append]; rw [List.length_map] at hown1; exact hown1, hbr.trans hb1⟩
          case measure => simp [intOf]; omega
      · have hsl := hown.bools
        obtain ⟨p, cap, rfl, hp⟩ := hown.form (n := k) (by rw [List.length_map]; exact HBL.out)
        rw [HBL.out] at hsl
        obtain ⟨p', cap', e', hcap', H⟩ := hsl.open
        cases e'
        obtain ⟨b, off, rfl, hc⟩ := H (k - 1) (by have := HBL.out; omega)
        clear H hsl hp
        go_wp2_with (first | (go_at_call 133; refine (kindR_t _ (UInt8.toNat_lt _) _).mono ?_; rintro e w' ⟨rfl, rfl⟩; generalize kindL _ = q at *) | (at_builtin; refine wpList_app1 wr rfl _ _ 92 rfl w.heap.size 4 _ 1 Try.underlying92 Try.infoBo rfl (by decide) hown rfl _ rfl rfl HLL.out hsz ?_; intro g cap w2 hown1 hg1 hb1))
        all_goals
          go_roundw
          case rel => exact ⟨k + 1, bs ++ [_], by omega, by go_num, by rw [List.length_append, HBL.out]; rfl, by rw [List.map_append]; rw [List.length_map] at hown1; exact hown1, hbr.trans hb1⟩
          case measure => simp [intOf]; omega
    · obtain rfl : k = s.size := by omega
      clear hlt hk hbl
      go_wp2
      go_ret
      exact ⟨hbr, _, bs, rfl, HBL.out, (by rw [← HBL.out]; exact hown.bools.sub fun _ _ _ => trivial)⟩
end Go.Proofs.Ytflikmllpimaiaa
