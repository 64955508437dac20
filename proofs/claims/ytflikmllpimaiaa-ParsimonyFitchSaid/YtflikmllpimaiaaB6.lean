/- The contract of phylotree.Leaves. -/
import Derived.Test.YtflikmllpimaiaaB4
import Derived.Test.YtflikmllpimaiaaB5
import Derived.Test.YtflikmllpimaiaaS
namespace Go.Proofs.Ytflikmllpimaiaa
open Go.RowKit Go.Deep
theorem Try.infoI : (Try.prog.info? 3).map (fun i => (i.zero, i.size, i.bytes)) = some (some (.int .i64 0), 1, 8) := by kernel_rfl
def LvPost (w : World) (t : Tre) (e : Ending) (w' : World) : Prop :=
  Below w.heap.size w w' ∧ ((treeErr t ≠ 0 ∧ e = .returned (.tuple #[.slice none 0 0, .int .i64 1])) ∨
    (treeErr t = 0 ∧ ∃ v, e = .returned (.tuple #[v, .int .i64 0]) ∧ IntsAt (fun b => w.heap.size ≤ b) w' v (leavesL t.ns)))
set_option maxRecDepth 100000 in
set_option maxHeartbeats 800000 in
theorem leaves_t (S : Nat → Prop) (w : World) (v : Value) (t : Tre) (h : TreeAt S w v t) (hp : t.ps.length ≤ 1000000) (hn : t.ns.length ≤ 1000000) (hz : ∀ k, (gs t.ns k).size ≤ 70000) :
    Calls Try.prog 42 #[v] w (LvPost w t) := by
  obtain ⟨P, N, rfl, hP, hN⟩ := h
  have ht0 : TreeAt S (w.alloc (.cells #[P, N] 25)) (.agg #[P, N]) t := TreeAt.keep ⟨P, N, rfl, hP, hN⟩ (Kept.below ((Below.refl _ w).alloc (Nat.le_refl _) _))
  have hb0 : Below w.heap.size w (w.alloc (.cells #[P, N] 25)) := (Below.refl _ _).alloc (Nat.le_refl _) _
  have hcq : (w.alloc (.cells #[P, N] 25)).cell? ⟨w.heap.size, 1, none⟩ = some N := by simp [World.cell?_alloc_new]
  have hck := check_t S (w.alloc (.cells #[P, N] 25)) _ t ht0 hp hn hz
  rw [World.size_alloc] at hck
  have HCK := Lib.hid hck
  have HCQ := Lib.hid hcq
  have HB0 := Lib.hid hb0
  have HN := Lib.hid hN
  clear hck hcq hb0 ht0 hP hN
  by_cases he : treeErr t = 0
  · go_enter Try.func42, Try.ntmps42
    go_wp2_with fail
    refine HCK.out.mono ?_
    rintro e w1 ⟨rfl, hb1⟩
    have hbw : Below w.heap.size w w1 := HB0.out.trans (hb1.mono (by omega))
    have hN1 := HN.out.keep (Kept.below hbw)
    have hcq : w1.cell? ⟨w.heap.size, 1, none⟩ = some N := (hb1.cell (p := ⟨w.heap.size, 1, none⟩) (by simp)).trans HCQ.out
    obtain ⟨q, cap2, rfl, hcap2, HNN⟩ := SlAt.open hN1
    have hHN := Lib.hid HNN
    have hwz : w.heap.size ≤ w1.heap.size := hbw.size
    have HE := Lib.hid he
    rw [he]
    clear HNN hN1 HCK HCQ HB0 HN hb1 he
    go_wp2_with fail
    go_loopw [4, 5, 6, 13] (fun v _ _ i wr => ∃ k : Nat, k ≤ t.ns.length ∧ i = .int .i64 k ∧ Owns w1.heap.size 3 wr v ((leavesK t.ns k).map (Value.int .i64)) ∧ Below w1.heap.size w1 wr) (fun _ _ _ i _ => t.ns.length - (intOf i).toNat)
    case atStart => exact ⟨0, Nat.zero_le _, rfl, Owns.nil _ _ _, Below.refl _ _⟩
    case round =>
      obtain ⟨k, hk, rfl, hown, hbr⟩ := hrel
      by_cases hlt : k < t.ns.length
      · obtain ⟨b, off, rfl, hc0⟩ := hHN.out k hlt
        have hc : wr.cell? ⟨b, off + k, none⟩ = some (.string (gs t.ns k)) := by
          rw [hbr.cell (p := ⟨b, off + k, none⟩) (World.block_lt_of_cell? _ _ hc0)]; exact hc0
        have hsz := hbr.size
        have hsucc := leavesK_succ t.ns k
        have hll := leavesK_len t.ns k
        have hnil := toList_nil (gs t.ns k)
        have HNIL := Lib.hid hnil
        have HSU := Lib.hid hsucc
        have HLL : Hid (((leavesK t.ns k).map (Value.int .i64)).length ≤ 1000000) := by unfold Hid; rw [List.length_map]; omega
        clear hc0 hnil hsucc hll hHN hz
        generalize hgk : gs t.ns k = g at *
        clear hgk
        by_cases hg0 : g.size = 0
        · have hg1 : g.toList = [] := HNIL.out.2 hg0
          have HG0 := Lib.hid hg0
          clear hg0
          go_wp2
          go_roundw
          case rel => exact ⟨k + 1, by omega, by go_num, by rw [HSU.out, if_pos HG0.out, List.append_nil]; exact hown, hbr⟩
          case measure => simp [intOf]; omega
        · have hg1 : (g.toList == []) = false := by
            rw [Bool.eq_false_iff]; intro e; exact hg0 (HNIL.out.1 (by simpa using e))
          have hg2 : (g.toList != []) = true := by
            rw [bne_iff_ne]; intro e; exact hg0 (HNIL.out.1 (by simpa using e))
          have HG0 := Lib.hid hg0
          clear hg0
          go_wp2_with (at_builtin; refine wpList_app1 wr rfl _ _ 22 rfl w1.heap.size 3 _ 8 Try.underlying22 Try.infoI rfl (by decide) hown rfl _ rfl rfl HLL.out hsz ?_; intro g cap w2 hown1 hg1 hb1)
          go_roundw
          case rel => exact ⟨k + 1, by omega, by go_num, by rw [HSU.out, if_neg HG0.out, List.map_append]; rw [List.length_map] at hown1; exact hown1, hbr.trans hb1⟩
          case measure => simp [intOf]; omega
      · obtain rfl : k = t.ns.length := by omega
        clear hlt hk hHN
        go_wp2
        go_ret2
        exact ⟨hbw.trans (hbr.mono hwz), .inr ⟨HE.out, _, rfl, hown.ints.sub fun b hb _ => Nat.le_trans hwz hb⟩⟩
  · have he' : (treeErr t != 0) = true := by simpa using he
    have HE := Lib.hid he
    clear he
    go_enter Try.func42, Try.ntmps42
    go_wp2_with fail
    refine HCK.out.mono ?_
    rintro e w1 ⟨rfl, hb1⟩
    go_wp2_with fail
    go_ret2
    exact ⟨HB0.out.trans (hb1.mono (by omega)), .inl ⟨HE.out, rfl⟩⟩
end Go.Proofs.Ytflikmllpimaiaa
