/- The contract of phylotree.Same. -/
import Derived.Test.YtpjijbophjdgaaaGreatQ14
import Derived.Test.YtpjijbophjdgaaaGreatQ7
import Derived.Test.YtpjijbophjdgaaaGreatQ4
import Derived.Test.YtpjijbophjdgaaaGreatQ25
import Derived.Test.YtpjijbophjdgaaaGreatQ24
import Derived.Test.YtpjijbophjdgaaaGreatQ41
namespace Go.Proofs.YtpjijbophjdgaaaGreat
open Go.RowKit Go.Deep
def smE (t u : Tre) : Int := if treeErr t ≠ 0 ∨ treeErr u ≠ 0 then 1 else 0
def smB (t u : Tre) : Bool := decide (smE t u = 0) && decide (canT t = canT u)
theorem can_ok_len {t : Tre} (h : treeErr t = 0) : (canT t).ps.length ≤ 1000000 ∧ (canT t).ns.length ≤ 1000000 := by
  obtain ⟨_, h1, h2, _, _⟩ := treeErr_zero (canT_ok h)
  omega
section
variable {P : Program} {ops : Array Oper} {Q : Exit → Act → World → Prop} {md : Region.Mode} {S : World → Prop} {t : Nat}
theorem anyT.step3 {i i2 i3 : Nat} {oi oi2 oi3 : Oper} {n : Nat} {l : Array Bool} {a : Act} {w : World} (hi0 : ops.toList[i]? = some oi) (hi20 : ops.toList[i2]? = some oi2) (hi30 : ops.toList[i3]? = some oi3) (hr : Region.ready md ops l = [i, i2, i3])
    (h : ∀ K' : Act → World → Prop, Shut (∀ a w, (More t (l.setIfInBounds i true) → S w) → ((More t (l.setIfInBounds i true) → S w) → anyT P md ops Q S t n (l.setIfInBounds i true) a w) → K' a w) → if Region.wanted oi (yielded ops a.tmps) = true then Oper.wp P oi a w K' Q else K' (a.put oi.dst undef) w)
    (h2 : ∀ K' : Act → World → Prop, Shut (∀ a w, (More t (l.setIfInBounds i2 true) → S w) → ((More t (l.setIfInBounds i2 true) → S w) → anyT P md ops Q S t n (l.setIfInBounds i2 true) a w) → K' a w) → if Region.wanted oi2 (yielded ops a.tmps) = true then Oper.wp P oi2 a w K' Q else K' (a.put oi2.dst undef) w)
    (h3 : ∀ K' : Act → World → Prop, Shut (∀ a w, (More t (l.setIfInBounds i3 true) → S w) → ((More t (l.setIfInBounds i3 true) → S w) → anyT P md ops Q S t n (l.setIfInBounds i3 true) a w) → K' a w) → if Region.wanted oi3 (yielded ops a.tmps) = true then Oper.wp P oi3 a w K' Q else K' (a.put oi3.dst undef) w) :
    anyT P md ops Q S t (n + 1) l a w :=
  ⟨fun h0 => absurd (h0.symm.trans hr) (by simp), fun j hj => by
    rw [hr] at hj
    rcases List.mem_cons.1 hj with rfl | hj
    · exact wpOp_step (by rw [← Array.getElem?_toList]; exact hi0) fun K' hK => h K' fun a w hS hW => hK a w ⟨hS, hW hS⟩
    · rcases List.mem_cons.1 hj with rfl | hj
      · exact wpOp_step (by rw [← Array.getElem?_toList]; exact hi20) fun K' hK => h2 K' fun a w hS hW => hK a w ⟨hS, hW hS⟩
      · obtain rfl : j = i3 := by simpa using hj
        exact wpOp_step (by rw [← Array.getElem?_toList]; exact hi30) fun K' hK => h3 K' fun a w hS hW => hK a w ⟨hS, hW hS⟩⟩
end
theorem same_fin {w3 W : World} {T : TypeId} {b4 b5 : Nat} {P4 N4 P5 N5 : Value} {t q : Tre} {S4 S5 : Nat → Prop} (hu : Up w3 W) (h4 : W.heap[b4]? = some (Obj.cells #[.slice none 0 0, .slice none 0 0] T (0, 0))) (h5 : W.heap[b5]? = some (Obj.cells #[.slice none 0 0, .slice none 0 0] T (0, 0))) (hne : b4 ≠ b5) (o4 : w3.heap.size ≤ b4) (o5 : w3.heap.size ≤ b5)
    (hP4 : IntsAt S4 W P4 t.ps) (hN4 : StrsAt S4 W N4 t.ns) (hP5 : IntsAt S5 W P5 q.ps) (hN5 : StrsAt S5 W N5 q.ns) (s4 : ∀ b, S4 b → b ≠ b4 ∧ b ≠ b5) (s5 : ∀ b, S5 b → b ≠ b4 ∧ b ≠ b5) :
    Up w3 ((W.setCell ⟨b4, 0, none⟩ P4).setCell ⟨b4, 1, none⟩ N4) ∧ ((W.setCell ⟨b4, 0, none⟩ P4).setCell ⟨b4, 1, none⟩ N4).heap[b5]? = some (Obj.cells #[.slice none 0 0, .slice none 0 0] T (0, 0)) ∧
      (Up w3 ((((W.setCell ⟨b4, 0, none⟩ P4).setCell ⟨b4, 1, none⟩ N4).setCell ⟨b5, 0, none⟩ P5).setCell ⟨b5, 1, none⟩ N5) ∧
        ((((W.setCell ⟨b4, 0, none⟩ P4).setCell ⟨b4, 1, none⟩ N4).setCell ⟨b5, 0, none⟩ P5).setCell ⟨b5, 1, none⟩ N5).cell? ⟨b4, 0, none⟩ = some P4 ∧ ((((W.setCell ⟨b4, 0, none⟩ P4).setCell ⟨b4, 1, none⟩ N4).setCell ⟨b5, 0, none⟩ P5).setCell ⟨b5, 1, none⟩ N5).cell? ⟨b4, 1, none⟩ = some N4 ∧
        ((((W.setCell ⟨b4, 0, none⟩ P4).setCell ⟨b4, 1, none⟩ N4).setCell ⟨b5, 0, none⟩ P5).setCell ⟨b5, 1, none⟩ N5).cell? ⟨b5, 0, none⟩ = some P5 ∧ ((((W.setCell ⟨b4, 0, none⟩ P4).setCell ⟨b4, 1, none⟩ N4).setCell ⟨b5, 0, none⟩ P5).setCell ⟨b5, 1, none⟩ N5).cell? ⟨b5, 1, none⟩ = some N5 ∧
        IntsAt Any ((((W.setCell ⟨b4, 0, none⟩ P4).setCell ⟨b4, 1, none⟩ N4).setCell ⟨b5, 0, none⟩ P5).setCell ⟨b5, 1, none⟩ N5) P4 t.ps ∧ StrsAt Any ((((W.setCell ⟨b4, 0, none⟩ P4).setCell ⟨b4, 1, none⟩ N4).setCell ⟨b5, 0, none⟩ P5).setCell ⟨b5, 1, none⟩ N5) N4 t.ns ∧
        IntsAt Any ((((W.setCell ⟨b4, 0, none⟩ P4).setCell ⟨b4, 1, none⟩ N4).setCell ⟨b5, 0, none⟩ P5).setCell ⟨b5, 1, none⟩ N5) P5 q.ps ∧ StrsAt Any ((((W.setCell ⟨b4, 0, none⟩ P4).setCell ⟨b4, 1, none⟩ N4).setCell ⟨b5, 0, none⟩ P5).setCell ⟨b5, 1, none⟩ N5) N5 q.ns) := by
  obtain ⟨u1, u2, u3, u4⟩ := store_two (w := w3) (p := P4) (q := N4) h4 o4 hu
  have h5' := (u4 b5 (fun e => hne e.symm)).trans h5
  obtain ⟨x1, x2, x3, x4⟩ := store_two (w := w3) (p := P5) (q := N5) h5' o5 u1
  have hk : ∀ b, b ≠ b4 ∧ b ≠ b5 → ((((W.setCell ⟨b4, 0, none⟩ P4).setCell ⟨b4, 1, none⟩ N4).setCell ⟨b5, 0, none⟩ P5).setCell ⟨b5, 1, none⟩ N5).heap[b]? = W.heap[b]? := fun b hb => (x4 b hb.2).trans (u4 b hb.1)
  exact ⟨u1, h5', x1, (World.cell?_of_block (a := ⟨b4, 0, none⟩) (x4 b4 hne)).trans u2, (World.cell?_of_block (a := ⟨b4, 1, none⟩) (x4 b4 hne)).trans u3, x2, x3,
    (IntsAt.keep hP4 fun b hb _ => hk b (s4 b hb)).sub fun _ _ _ => trivial, (StrsAt.keep hN4 fun b hb _ => hk b (s4 b hb)).sub fun _ _ _ => trivial, (IntsAt.keep hP5 fun b hb _ => hk b (s5 b hb)).sub fun _ _ _ => trivial, (StrsAt.keep hN5 fun b hb _ => hk b (s5 b hb)).sub fun _ _ _ => trivial⟩
set_option maxRecDepth 100000 in
set_option maxHeartbeats 8000000 in
theorem same31_t (S : Nat → Prop) (w : World) (v u : Value) (t q : Tre) (hT : TreeAt S w v t) (hQ : TreeAt S w u q) (hp : t.ps.length ≤ 1000000) (hn : t.ns.length ≤ 1000000) (hz : ∀ k, (gs t.ns k).size ≤ 70000) (hp2 : q.ps.length ≤ 1000000) (hn2 : q.ns.length ≤ 1000000) (hz2 : ∀ k, (gs q.ns k).size ≤ 70000) :
    Calls Tryz.prog 31 #[v, u] w fun e w' => e = .returned (.tuple #[.bool (smB t q), .int .i64 (smE t q)]) ∧ Up w w' := by
  obtain ⟨P, N, rfl, hP, hN⟩ := hT
  obtain ⟨P2, N2, rfl, hP2, hN2⟩ := hQ
  have hu1 := Up.alloc w (.cells #[P, N] 45)
  have hu2 := Up.alloc (w.alloc (.cells #[P, N] 45)) (.cells #[P2, N2] 45)
  have HA0 := Lib.hid (hu2.cell (box2_0 w P N 45))
  have HA1 := Lib.hid (hu2.cell (box2_1 w P N 45))
  have c0 := box2_0 (w.alloc (.cells #[P, N] 45)) P2 N2 45
  have c1 := box2_1 (w.alloc (.cells #[P, N] 45)) P2 N2 45
  rw [World.size_alloc] at c0 c1
  have HC0 := Lib.hid c0
  have HC1 := Lib.hid c1
  have a0 := HA0.out
  have a1 := HA1.out
  have hu := hu1.trans hu2
  have HT := Lib.hid (TreeAt.keep ⟨P, N, rfl, hP, hN⟩ (hu.kept S))
  have HQ := Lib.hid (TreeAt.keep ⟨P2, N2, rfl, hP2, hN2⟩ (hu.kept S))
  have HU := Lib.hid hu
  have HCK := Lib.hid (check_t S _ _ t HT.out hp hn hz)
  have HSE : Hid (smE t q = if treeErr t ≠ 0 ∨ treeErr q ≠ 0 then 1 else 0) := rfl
  have HSB : Hid (smE t q ≠ 0 → smB t q = false) := fun h => by unfold smB; rw [decide_eq_false h]; rfl
  have HZ := Lib.hid hz
  have HZ2 := Lib.hid hz2
  clear hu1 hu2 hu hP hN hP2 hN2 hz hz2
  go_enter Tryz.func31, Tryz.ntmps31
  go_wp2_with fail
  generalize (w.alloc (.cells #[P, N] 45)).alloc (.cells #[P2, N2] 45) = w1 at *
  refine HCK.out.mono ?_
  rintro e w2 ⟨rfl, hu2⟩
  have hu2 : Up w1 w2 := hu2
  have a0 := hu2.cell HA0.out
  have a1 := hu2.cell HA1.out
  have c0 := hu2.cell HC0.out
  have c1 := hu2.cell HC1.out
  have HU2 := Lib.hid hu2
  clear hu2 HCK
  by_cases he : treeErr t = 0
  · have HTE := Lib.hid he
    have HCK2 := Lib.hid (check_t S w2 _ q (HQ.out.keep (HU2.out.kept S)) hp2 hn2 HZ2.out)
    rw [he]
    clear he
    go_wp2_with fail
    refine HCK2.out.mono ?_
    rintro e w3 ⟨rfl, hu3⟩
    have hu3 : Up w2 w3 := hu3
    have HU3 := Lib.hid (HU2.out.trans hu3)
    have a0 := HU3.out.cell HA0.out
    have a1 := HU3.out.cell HA1.out
    have c0 := HU3.out.cell HC0.out
    have c1 := HU3.out.cell HC1.out
    clear hu3 HCK2
    by_cases he2 : treeErr q = 0
    · have HQE := Lib.hid he2
      rw [he2]
      clear he2
      go_wp2_with fail
      have HA03 := Lib.hid a0
      have HA13 := Lib.hid a1
      have HC03 := Lib.hid c0
      have HC13 := Lib.hid c1
      have HT3 := Lib.hid (HT.out.keep (HU3.out.kept S))
      have HQ3 := Lib.hid (HQ.out.keep (HU3.out.kept S))
      have HLT := Lib.hid (can_ok_len HTE.out)
      have HLQ := Lib.hid (can_ok_len HQE.out)
      go_cut [6, 7] from 16 to 19 (fun p6 p7 wx => ∃ (b4 b5 : Nat) (P4 N4 P5 N5 : Value), p6 = .pointer (some ⟨b4, 0, none⟩) ∧ p7 = .pointer (some ⟨b5, 0, none⟩) ∧ (Up w3 wx ∧ wx.cell? ⟨b4, 0, none⟩ = some P4 ∧ wx.cell? ⟨b4, 1, none⟩ = some N4 ∧ wx.cell? ⟨b5, 0, none⟩ = some P5 ∧ wx.cell? ⟨b5, 1, none⟩ = some N5 ∧ IntsAt Any wx P4 (canT t).ps ∧ StrsAt Any wx N4 (canT t).ns ∧ IntsAt Any wx P5 (canT q).ps ∧ StrsAt Any wx N5 (canT q).ns))
      case first =>
        refine region_T (by kernel_rfl) 8 (fun w' => w'.cell? ⟨w.heap.size, 0, none⟩ = some P ∧ w'.cell? ⟨w.heap.size, 1, none⟩ = some N ∧ w'.cell? ⟨w.heap.size + 1, 0, none⟩ = some P2 ∧ w'.cell? ⟨w.heap.size + 1, 1, none⟩ = some N2) ⟨a0, a1, c0, c1⟩ (fun hS => ?_)
        simp only [List.size_toArray, List.length_cons, List.length_nil, Nat.reduceAdd, Array.replicate_succ, Array.replicate_zero, List.push_toArray, List.nil_append, List.cons_append]
        have HUxy0 : Hid (Up w3 w3.drew) := Up.drewN w3 1
        clear a0 a1 c0 c1
        refine anyT.take (i := 0) (v := ?gv0k1) rfl (by kernel_rfl) (fun _ _ _ h => h) (by rfl) (fun w hSw => ?gy0k1) hS ?gr0k1
        case gy0k1 =>
          (try dsimp only at hSw)
          go_simp
          try with_reducible rfl
        try simp only [Act.put, List.setIfInBounds_toArray, List.set_cons_zero, List.set_cons_succ]
        refine anyT.take (i := 2) (v := ?gv2k1) rfl (by kernel_rfl) (fun _ _ _ h => h) (by rfl) (fun w hSw => ?gy2k1) hS ?gr2k1
        case gy2k1 =>
          (try dsimp only at hSw)
          go_simp
          try with_reducible rfl
        try simp only [Act.put, List.setIfInBounds_toArray, List.set_cons_zero, List.set_cons_succ]
        generalize w3.drew = y0 at *
        refine anyT.step3 (i := 1) (i2 := 4) (i3 := 5) rfl rfl rfl (by kernel_rfl) (fun K' hK => ?_) (fun K' hK => ?_) (fun K' hK => ?_) 
        · go_simp
          refine (canonical_t S y0 _ t (HT3.out.keep (HUxy0.out.kept S)) HTE.out HZ.out).mono ?_
          rintro e y1 ⟨hux, v1, rfl, htx⟩
          have HUxy1 := Lib.hid (HUxy0.out.trans hux)
          have HV1y1 : Hid (TreeAt (fun b => b ∉ ([] : List Nat)) y1 v1 (canT t)) := htx.sub fun b hb _ => by  simp; try omega
          clear hux htx
          refine hK.out _ _ (fun _ => ⟨HUxy1.out.cell HA03.out, HUxy1.out.cell HA13.out, HUxy1.out.cell HC03.out, HUxy1.out.cell HC13.out⟩) (fun hS => ?_)
          try simp only [List.setIfInBounds_toArray, List.set_cons_zero, List.set_cons_succ]
          refine anyT.step3 (i := 3) (i2 := 4) (i3 := 5) rfl rfl rfl (by kernel_rfl) (fun K' hK => ?_) (fun K' hK => ?_) (fun K' hK => ?_) 
          · go_simp
            refine (canonical_t S y1 _ q (HQ3.out.keep (HUxy1.out.kept S)) HQE.out HZ2.out).mono ?_
            rintro e y2 ⟨hux, v3, rfl, htx⟩
            have HUxy2 := Lib.hid (HUxy1.out.trans hux)
            have HV1y2 := Lib.hid (HV1y1.out.keep (hux.kept _))
            have HV3y2 : Hid (TreeAt (fun b => b ∉ ([] : List Nat)) y2 v3 (canT q)) := htx.sub fun b hb _ => by  simp; try omega
            clear hux htx
            refine hK.out _ _ (fun _ => ⟨HUxy2.out.cell HA03.out, HUxy2.out.cell HA13.out, HUxy2.out.cell HC03.out, HUxy2.out.cell HC13.out⟩) (fun hS => ?_)
            try simp only [List.setIfInBounds_toArray, List.set_cons_zero, List.set_cons_succ]
            refine anyT.step2 (i := 4) (i2 := 5) rfl rfl (by kernel_rfl) (fun K' hK => ?_) (fun K' hK => ?_) 
            · go_simp
              have hux := Up.alloc y2 (.cells #[.slice none 0 0, .slice none 0 0] 45)
              have hnb := blk_alloc_new y2 (.cells #[.slice none 0 0, .slice none 0 0] 45)
              have hlb : y2.heap.size < (y2.alloc (.cells #[.slice none 0 0, .slice none 0 0] 45)).heap.size := by rw [World.size_alloc]; exact Nat.lt_succ_self _
              have HS1 : Hid (TreeAt (fun b => b ∉ ([y2.heap.size] : List Nat)) y2 v1 (canT t)) := HV1y2.out.sub fun b hb hl => by simp at hb ⊢; omega
              have HS3 : Hid (TreeAt (fun b => b ∉ ([y2.heap.size] : List Nat)) y2 v3 (canT q)) := HV3y2.out.sub fun b hb hl => by simp at hb ⊢; omega
              generalize y2.alloc (.cells #[.slice none 0 0, .slice none 0 0] 45) = y3 at *
              have HUxy3 := Lib.hid (HUxy2.out.trans hux)
              have HV1y3 := Lib.hid (HS1.out.keep (hux.kept _))
              have HV3y3 := Lib.hid (HS3.out.keep (hux.kept _))
              have HB4y3 := Lib.hid hnb
              have HL4y3 := Lib.hid hlb
              have HO4 : Hid (w3.heap.size ≤ y2.heap.size) := HUxy2.out.size
              clear hux hnb hlb
              generalize y2.heap.size = b4 at *
              refine hK.out _ _ (fun _ => ⟨HUxy3.out.cell HA03.out, HUxy3.out.cell HA13.out, HUxy3.out.cell HC03.out, HUxy3.out.cell HC13.out⟩) (fun hS => ?_)
              try simp only [List.setIfInBounds_toArray, List.set_cons_zero, List.set_cons_succ]
              refine anyT.step (i := 5) rfl (by kernel_rfl) (fun K' hK => ?_)
              go_simp
              have hux := Up.alloc y3 (.cells #[.slice none 0 0, .slice none 0 0] 45)
              have hnb := blk_alloc_new y3 (.cells #[.slice none 0 0, .slice none 0 0] 45)
              have hlb : y3.heap.size < (y3.alloc (.cells #[.slice none 0 0, .slice none 0 0] 45)).heap.size := by rw [World.size_alloc]; exact Nat.lt_succ_self _
              have HS1 : Hid (TreeAt (fun b => b ∉ ([b4, y3.heap.size] : List Nat)) y3 v1 (canT t)) := HV1y3.out.sub fun b hb hl => by simp at hb ⊢; omega
              have HS3 : Hid (TreeAt (fun b => b ∉ ([b4, y3.heap.size] : List Nat)) y3 v3 (canT q)) := HV3y3.out.sub fun b hb hl => by simp at hb ⊢; omega
              have HNE := Lib.hid (show b4 ≠ y3.heap.size by have := HL4y3.out; omega)
              generalize y3.alloc (.cells #[.slice none 0 0, .slice none 0 0] 45) = y4 at *
              have HUxy4 := Lib.hid (HUxy3.out.trans hux)
              have HV1y4 := Lib.hid (HS1.out.keep (hux.kept _))
              have HV3y4 := Lib.hid (HS3.out.keep (hux.kept _))
              have HB4y4 : Hid (y4.heap[b4]? = some (Obj.cells #[.slice none 0 0, .slice none 0 0] 45 (0, 0))) := (Below.block hux b4 HL4y3.out).trans HB4y3.out
              have HL4y4 : Hid (b4 < y4.heap.size) := Nat.lt_of_lt_of_le HL4y3.out hux.size
              have HB5y4 := Lib.hid hnb
              have HL5y4 := Lib.hid hlb
              have HO5 : Hid (w3.heap.size ≤ y3.heap.size) := HUxy3.out.size
              clear hux hnb hlb
              generalize y3.heap.size = b5 at *
              refine hK.out _ _ (fun _ => ⟨HUxy4.out.cell HA03.out, HUxy4.out.cell HA13.out, HUxy4.out.cell HC03.out, HUxy4.out.cell HC13.out⟩) (fun hS => ?_)
              try simp only [List.setIfInBounds_toArray, List.set_cons_zero, List.set_cons_succ]
              obtain ⟨P4, N4, rfl, hP4, hN4⟩ := HV1y4.out
              obtain ⟨P5, N5, rfl, hP5, hN5⟩ := HV3y4.out
              obtain ⟨pp4, pc4, rfl, _, _⟩ := SlAt.open hP4
              obtain ⟨np4, nc4, rfl, _, _⟩ := SlAt.open hN4
              obtain ⟨pp5, pc5, rfl, _, _⟩ := SlAt.open hP5
              obtain ⟨np5, nc5, rfl, _, _⟩ := SlAt.open hN5
              have hP4 : IntsAt _ y4 (.slice pp4 (canT t).ps.length pc4) (canT t).ps := hP4
              have hN4 : StrsAt _ y4 (.slice np4 (canT t).ns.length nc4) (canT t).ns := hN4
              have hP5 : IntsAt _ y4 (.slice pp5 (canT q).ps.length pc5) (canT q).ps := hP5
              have hN5 : StrsAt _ y4 (.slice np5 (canT q).ns.length nc5) (canT q).ns := hN5
              have HP4 := Lib.hid hP4
              have HN4 := Lib.hid hN4
              have HP5 := Lib.hid hP5
              have HN5 := Lib.hid hN5
              have hb4 := HB4y4.out
              have hb5 := HB5y4.out
              obtain ⟨g1, g2, g3, g4⟩ := boxed hb4
              obtain ⟨g5, g6, g7, g8⟩ := boxed hb5
              have HFIN := Lib.hid (same_fin (T := 45) HUxy4.out HB4y4.out HB5y4.out (by have := HNE.out; omega) HO4.out HO5.out HP4.out HN4.out HP5.out HN5.out (fun b hb => by simp at hb; omega) (fun b hb => by simp at hb; omega))
              have hne1 : b4 ≠ b5 := by have := HNE.out; omega
              have hne2 : b5 ≠ b4 := fun e => hne1 e.symm
              clear hP4 hN4 hP5 hN5 hb4 hb5
              refine anyT.step (i := 6) rfl (by kernel_rfl) (fun K' hK => ?_)
              go_simp
              refine hK.out _ _ (fun _ => ⟨HFIN.out.1.cell HA03.out, HFIN.out.1.cell HA13.out, HFIN.out.1.cell HC03.out, HFIN.out.1.cell HC13.out⟩) (fun hS => ?_)
              try simp only [List.setIfInBounds_toArray, List.set_cons_zero, List.set_cons_succ]
              obtain ⟨k5, k6, k7, k8⟩ := boxed HFIN.out.2.1
              refine anyT.step (i := 7) rfl (by kernel_rfl) (fun K' hK => ?_)
              go_simp
              refine hK.out _ _ (not_more (by kernel_rfl)) (fun hS => ?_)
              refine anyT.done (by kernel_rfl) ?_
              go_wp2_with fail
              go_meet
              case rel => exact ⟨b4, b5, _, _, _, _, rfl, rfl, HFIN.out.2.2⟩
            · go_simp
              have hux := Up.alloc y2 (.cells #[.slice none 0 0, .slice none 0 0] 45)
              have hnb := blk_alloc_new y2 (.cells #[.slice none 0 0, .slice none 0 0] 45)
              have hlb : y2.heap.size < (y2.alloc (.cells #[.slice none 0 0, .slice none 0 0] 45)).heap.size := by rw [World.size_alloc]; exact Nat.lt_succ_self _
              have HS1 : Hid (TreeAt (fun b => b ∉ ([y2.heap.size] : List Nat)) y2 v1 (canT t)) := HV1y2.out.sub fun b hb hl => by simp at hb ⊢; omega
              have HS3 : Hid (TreeAt (fun b => b ∉ ([y2.heap.size] : List Nat)) y2 v3 (canT q)) := HV3y2.out.sub fun b hb hl => by simp at hb ⊢; omega
              generalize y2.alloc (.cells #[.slice none 0 0, .slice none 0 0] 45) = y5 at *
              have HUxy5 := Lib.hid (HUxy2.out.trans hux)
              have HV1y5 := Lib.hid (HS1.out.keep (hux.kept _))
              have HV3y5 := Lib.hid (HS3.out.keep (hux.kept _))
              have HB5y5 := Lib.hid hnb
              have HL5y5 := Lib.hid hlb
              have HO5 : Hid (w3.heap.size ≤ y2.heap.size) := HUxy2.out.size
              clear hux hnb hlb
              generalize y2.heap.size = b5 at *
              refine hK.out _ _ (fun _ => ⟨HUxy5.out.cell HA03.out, HUxy5.out.cell HA13.out, HUxy5.out.cell HC03.out, HUxy5.out.cell HC13.out⟩) (fun hS => ?_)
              try simp only [List.setIfInBounds_toArray, List.set_cons_zero, List.set_cons_succ]
              refine anyT.step (i := 4) rfl (by kernel_rfl) (fun K' hK => ?_)
              go_simp
              have hux := Up.alloc y5 (.cells #[.slice none 0 0, .slice none 0 0] 45)
              have hnb := blk_alloc_new y5 (.cells #[.slice none 0 0, .slice none 0 0] 45)
              have hlb : y5.heap.size < (y5.alloc (.cells #[.slice none 0 0, .slice none 0 0] 45)).heap.size := by rw [World.size_alloc]; exact Nat.lt_succ_self _
              have HS1 : Hid (TreeAt (fun b => b ∉ ([b5, y5.heap.size] : List Nat)) y5 v1 (canT t)) := HV1y5.out.sub fun b hb hl => by simp at hb ⊢; omega
              have HS3 : Hid (TreeAt (fun b => b ∉ ([b5, y5.heap.size] : List Nat)) y5 v3 (canT q)) := HV3y5.out.sub fun b hb hl => by simp at hb ⊢; omega
              have HNE := Lib.hid (show b5 ≠ y5.heap.size by have := HL5y5.out; omega)
              generalize y5.alloc (.cells #[.slice none 0 0, .slice none 0 0] 45) = y6 at *
              have HUxy6 := Lib.hid (HUxy5.out.trans hux)
              have HV1y6 := Lib.hid (HS1.out.keep (hux.kept _))
              have HV3y6 := Lib.hid (HS3.out.keep (hux.kept _))
              have HB5y6 : Hid (y6.heap[b5]? = some (Obj.cells #[.slice none 0 0, .slice none 0 0] 45 (0, 0))) := (Below.block hux b5 HL5y5.out).trans HB5y5.out
              have HL5y6 : Hid (b5 < y6.heap.size) := Nat.lt_of_lt_of_le HL5y5.out hux.size
              have HB4y6 := Lib.hid hnb
              have HL4y6 := Lib.hid hlb
              have HO4 : Hid (w3.heap.size ≤ y5.heap.size) := HUxy5.out.size
              clear hux hnb hlb
              generalize y5.heap.size = b4 at *
              refine hK.out _ _ (fun _ => ⟨HUxy6.out.cell HA03.out, HUxy6.out.cell HA13.out, HUxy6.out.cell HC03.out, HUxy6.out.cell HC13.out⟩) (fun hS => ?_)
              try simp only [List.setIfInBounds_toArray, List.set_cons_zero, List.set_cons_succ]
              obtain ⟨P4, N4, rfl, hP4, hN4⟩ := HV1y6.out
              obtain ⟨P5, N5, rfl, hP5, hN5⟩ := HV3y6.out
              obtain ⟨pp4, pc4, rfl, _, _⟩ := SlAt.open hP4
              obtain ⟨np4, nc4, rfl, _, _⟩ := SlAt.open hN4
              obtain ⟨pp5, pc5, rfl, _, _⟩ := SlAt.open hP5
              obtain ⟨np5, nc5, rfl, _, _⟩ := SlAt.open hN5
              have hP4 : IntsAt _ y6 (.slice pp4 (canT t).ps.length pc4) (canT t).ps := hP4
              have hN4 : StrsAt _ y6 (.slice np4 (canT t).ns.length nc4) (canT t).ns := hN4
              have hP5 : IntsAt _ y6 (.slice pp5 (canT q).ps.length pc5) (canT q).ps := hP5
              have hN5 : StrsAt _ y6 (.slice np5 (canT q).ns.length nc5) (canT q).ns := hN5
              have HP4 := Lib.hid hP4
              have HN4 := Lib.hid hN4
              have HP5 := Lib.hid hP5
              have HN5 := Lib.hid hN5
              have hb4 := HB4y6.out
              have hb5 := HB5y6.out
              obtain ⟨g1, g2, g3, g4⟩ := boxed hb4
              obtain ⟨g5, g6, g7, g8⟩ := boxed hb5
              have HFIN := Lib.hid (same_fin (T := 45) HUxy6.out HB4y6.out HB5y6.out (by have := HNE.out; omega) HO4.out HO5.out HP4.out HN4.out HP5.out HN5.out (fun b hb => by simp at hb; omega) (fun b hb => by simp at hb; omega))
              have hne1 : b4 ≠ b5 := by have := HNE.out; omega
              have hne2 : b5 ≠ b4 := fun e => hne1 e.symm
              clear hP4 hN4 hP5 hN5 hb4 hb5
              refine anyT.step (i := 6) rfl (by kernel_rfl) (fun K' hK => ?_)
              go_simp
              refine hK.out _ _ (fun _ => ⟨HFIN.out.1.cell HA03.out, HFIN.out.1.cell HA13.out, HFIN.out.1.cell HC03.out, HFIN.out.1.cell HC13.out⟩) (fun hS => ?_)
              try simp only [List.setIfInBounds_toArray, List.set_cons_zero, List.set_cons_succ]
              obtain ⟨k5, k6, k7, k8⟩ := boxed HFIN.out.2.1
              refine anyT.step (i := 7) rfl (by kernel_rfl) (fun K' hK => ?_)
              go_simp
              refine hK.out _ _ (not_more (by kernel_rfl)) (fun hS => ?_)
              refine anyT.done (by kernel_rfl) ?_
              go_wp2_with fail
              go_meet
              case rel => exact ⟨b4, b5, _, _, _, _, rfl, rfl, HFIN.out.2.2⟩
          · go_simp
            have hux := Up.alloc y1 (.cells #[.slice none 0 0, .slice none 0 0] 45)
            have hnb := blk_alloc_new y1 (.cells #[.slice none 0 0, .slice none 0 0] 45)
            have hlb : y1.heap.size < (y1.alloc (.cells #[.slice none 0 0, .slice none 0 0] 45)).heap.size := by rw [World.size_alloc]; exact Nat.lt_succ_self _
            have HS1 : Hid (TreeAt (fun b => b ∉ ([y1.heap.size] : List Nat)) y1 v1 (canT t)) := HV1y1.out.sub fun b hb hl => by simp at hb ⊢; omega
            generalize y1.alloc (.cells #[.slice none 0 0, .slice none 0 0] 45) = y7 at *
            have HUxy7 := Lib.hid (HUxy1.out.trans hux)
            have HV1y7 := Lib.hid (HS1.out.keep (hux.kept _))
            have HB4y7 := Lib.hid hnb
            have HL4y7 := Lib.hid hlb
            have HO4 : Hid (w3.heap.size ≤ y1.heap.size) := HUxy1.out.size
            clear hux hnb hlb
            generalize y1.heap.size = b4 at *
            refine hK.out _ _ (fun _ => ⟨HUxy7.out.cell HA03.out, HUxy7.out.cell HA13.out, HUxy7.out.cell HC03.out, HUxy7.out.cell HC13.out⟩) (fun hS => ?_)
            try simp only [List.setIfInBounds_toArray, List.set_cons_zero, List.set_cons_succ]
            refine anyT.step2 (i := 3) (i2 := 5) rfl rfl (by kernel_rfl) (fun K' hK => ?_) (fun K' hK => ?_) 
            · go_simp
              refine (canonical_t S y7 _ q (HQ3.out.keep (HUxy7.out.kept S)) HQE.out HZ2.out).mono ?_
              rintro e y8 ⟨hux, v3, rfl, htx⟩
              have HUxy8 := Lib.hid (HUxy7.out.trans hux)
              have HV1y8 := Lib.hid (HV1y7.out.keep (hux.kept _))
              have HB4y8 : Hid (y8.heap[b4]? = some (Obj.cells #[.slice none 0 0, .slice none 0 0] 45 (0, 0))) := (Below.block hux b4 HL4y7.out).trans HB4y7.out
              have HL4y8 : Hid (b4 < y8.heap.size) := Nat.lt_of_lt_of_le HL4y7.out hux.size
              have HV3y8 : Hid (TreeAt (fun b => b ∉ ([b4] : List Nat)) y8 v3 (canT q)) := htx.sub fun b hb _ => by have := HL4y7.out; simp; try omega
              clear hux htx
              refine hK.out _ _ (fun _ => ⟨HUxy8.out.cell HA03.out, HUxy8.out.cell HA13.out, HUxy8.out.cell HC03.out, HUxy8.out.cell HC13.out⟩) (fun hS => ?_)
              try simp only [List.setIfInBounds_toArray, List.set_cons_zero, List.set_cons_succ]
              refine anyT.step (i := 5) rfl (by kernel_rfl) (fun K' hK => ?_)
              go_simp
              have hux := Up.alloc y8 (.cells #[.slice none 0 0, .slice none 0 0] 45)
              have hnb := blk_alloc_new y8 (.cells #[.slice none 0 0, .slice none 0 0] 45)
              have hlb : y8.heap.size < (y8.alloc (.cells #[.slice none 0 0, .slice none 0 0] 45)).heap.size := by rw [World.size_alloc]; exact Nat.lt_succ_self _
              have HS1 : Hid (TreeAt (fun b => b ∉ ([b4, y8.heap.size] : List Nat)) y8 v1 (canT t)) := HV1y8.out.sub fun b hb hl => by simp at hb ⊢; omega
              have HS3 : Hid (TreeAt (fun b => b ∉ ([b4, y8.heap.size] : List Nat)) y8 v3 (canT q)) := HV3y8.out.sub fun b hb hl => by simp at hb ⊢; omega
              have HNE := Lib.hid (show b4 ≠ y8.heap.size by have := HL4y8.out; omega)
              generalize y8.alloc (.cells #[.slice none 0 0, .slice none 0 0] 45) = y9 at *
              have HUxy9 := Lib.hid (HUxy8.out.trans hux)
              have HV1y9 := Lib.hid (HS1.out.keep (hux.kept _))
              have HV3y9 := Lib.hid (HS3.out.keep (hux.kept _))
              have HB4y9 : Hid (y9.heap[b4]? = some (Obj.cells #[.slice none 0 0, .slice none 0 0] 45 (0, 0))) := (Below.block hux b4 HL4y8.out).trans HB4y8.out
              have HL4y9 : Hid (b4 < y9.heap.size) := Nat.lt_of_lt_of_le HL4y8.out hux.size
              have HB5y9 := Lib.hid hnb
              have HL5y9 := Lib.hid hlb
              have HO5 : Hid (w3.heap.size ≤ y8.heap.size) := HUxy8.out.size
              clear hux hnb hlb
              generalize y8.heap.size = b5 at *
              refine hK.out _ _ (fun _ => ⟨HUxy9.out.cell HA03.out, HUxy9.out.cell HA13.out, HUxy9.out.cell HC03.out, HUxy9.out.cell HC13.out⟩) (fun hS => ?_)
              try simp only [List.setIfInBounds_toArray, List.set_cons_zero, List.set_cons_succ]
              obtain ⟨P4, N4, rfl, hP4, hN4⟩ := HV1y9.out
              obtain ⟨P5, N5, rfl, hP5, hN5⟩ := HV3y9.out
              obtain ⟨pp4, pc4, rfl, _, _⟩ := SlAt.open hP4
              obtain ⟨np4, nc4, rfl, _, _⟩ := SlAt.open hN4
              obtain ⟨pp5, pc5, rfl, _, _⟩ := SlAt.open hP5
              obtain ⟨np5, nc5, rfl, _, _⟩ := SlAt.open hN5
              have hP4 : IntsAt _ y9 (.slice pp4 (canT t).ps.length pc4) (canT t).ps := hP4
              have hN4 : StrsAt _ y9 (.slice np4 (canT t).ns.length nc4) (canT t).ns := hN4
              have hP5 : IntsAt _ y9 (.slice pp5 (canT q).ps.length pc5) (canT q).ps := hP5
              have hN5 : StrsAt _ y9 (.slice np5 (canT q).ns.length nc5) (canT q).ns := hN5
              have HP4 := Lib.hid hP4
              have HN4 := Lib.hid hN4
              have HP5 := Lib.hid hP5
              have HN5 := Lib.hid hN5
              have hb4 := HB4y9.out
              have hb5 := HB5y9.out
              obtain ⟨g1, g2, g3, g4⟩ := boxed hb4
              obtain ⟨g5, g6, g7, g8⟩ := boxed hb5
              have HFIN := Lib.hid (same_fin (T := 45) HUxy9.out HB4y9.out HB5y9.out (by have := HNE.out; omega) HO4.out HO5.out HP4.out HN4.out HP5.out HN5.out (fun b hb => by simp at hb; omega) (fun b hb => by simp at hb; omega))
              have hne1 : b4 ≠ b5 := by have := HNE.out; omega
              have hne2 : b5 ≠ b4 := fun e => hne1 e.symm
              clear hP4 hN4 hP5 hN5 hb4 hb5
              refine anyT.step (i := 6) rfl (by kernel_rfl) (fun K' hK => ?_)
              go_simp
              refine hK.out _ _ (fun _ => ⟨HFIN.out.1.cell HA03.out, HFIN.out.1.cell HA13.out, HFIN.out.1.cell HC03.out, HFIN.out.1.cell HC13.out⟩) (fun hS => ?_)
              try simp only [List.setIfInBounds_toArray, List.set_cons_zero, List.set_cons_succ]
              obtain ⟨k5, k6, k7, k8⟩ := boxed HFIN.out.2.1
              refine anyT.step (i := 7) rfl (by kernel_rfl) (fun K' hK => ?_)
              go_simp
              refine hK.out _ _ (not_more (by kernel_rfl)) (fun hS => ?_)
              refine anyT.done (by kernel_rfl) ?_
              go_wp2_with fail
              go_meet
              case rel => exact ⟨b4, b5, _, _, _, _, rfl, rfl, HFIN.out.2.2⟩
            · go_simp
              have hux := Up.alloc y7 (.cells #[.slice none 0 0, .slice none 0 0] 45)
              have hnb := blk_alloc_new y7 (.cells #[.slice none 0 0, .slice none 0 0] 45)
              have hlb : y7.heap.size < (y7.alloc (.cells #[.slice none 0 0, .slice none 0 0] 45)).heap.size := by rw [World.size_alloc]; exact Nat.lt_succ_self _
              have HS1 : Hid (TreeAt (fun b => b ∉ ([b4, y7.heap.size] : List Nat)) y7 v1 (canT t)) := HV1y7.out.sub fun b hb hl => by simp at hb ⊢; omega
              have HNE := Lib.hid (show b4 ≠ y7.heap.size by have := HL4y7.out; omega)
              generalize y7.alloc (.cells #[.slice none 0 0, .slice none 0 0] 45) = y10 at *
              have HUxy10 := Lib.hid (HUxy7.out.trans hux)
              have HV1y10 := Lib.hid (HS1.out.keep (hux.kept _))
              have HB4y10 : Hid (y10.heap[b4]? = some (Obj.cells #[.slice none 0 0, .slice none 0 0] 45 (0, 0))) := (Below.block hux b4 HL4y7.out).trans HB4y7.out
              have HL4y10 : Hid (b4 < y10.heap.size) := Nat.lt_of_lt_of_le HL4y7.out hux.size
              have HB5y10 := Lib.hid hnb
              have HL5y10 := Lib.hid hlb
              have HO5 : Hid (w3.heap.size ≤ y7.heap.size) := HUxy7.out.size
              clear hux hnb hlb
              generalize y7.heap.size = b5 at *
              refine hK.out _ _ (fun _ => ⟨HUxy10.out.cell HA03.out, HUxy10.out.cell HA13.out, HUxy10.out.cell HC03.out, HUxy10.out.cell HC13.out⟩) (fun hS => ?_)
              try simp only [List.setIfInBounds_toArray, List.set_cons_zero, List.set_cons_succ]
              refine anyT.step (i := 3) rfl (by kernel_rfl) (fun K' hK => ?_)
              go_simp
              refine (canonical_t S y10 _ q (HQ3.out.keep (HUxy10.out.kept S)) HQE.out HZ2.out).mono ?_
              rintro e y11 ⟨hux, v3, rfl, htx⟩
              have HUxy11 := Lib.hid (HUxy10.out.trans hux)
              have HV1y11 := Lib.hid (HV1y10.out.keep (hux.kept _))
              have HB4y11 : Hid (y11.heap[b4]? = some (Obj.cells #[.slice none 0 0, .slice none 0 0] 45 (0, 0))) := (Below.block hux b4 HL4y10.out).trans HB4y10.out
              have HL4y11 : Hid (b4 < y11.heap.size) := Nat.lt_of_lt_of_le HL4y10.out hux.size
              have HB5y11 : Hid (y11.heap[b5]? = some (Obj.cells #[.slice none 0 0, .slice none 0 0] 45 (0, 0))) := (Below.block hux b5 HL5y10.out).trans HB5y10.out
              have HL5y11 : Hid (b5 < y11.heap.size) := Nat.lt_of_lt_of_le HL5y10.out hux.size
              have HV3y11 : Hid (TreeAt (fun b => b ∉ ([b4, b5] : List Nat)) y11 v3 (canT q)) := htx.sub fun b hb _ => by have := HL4y10.out; have := HL5y10.out; simp; try omega
              clear hux htx
              refine hK.out _ _ (fun _ => ⟨HUxy11.out.cell HA03.out, HUxy11.out.cell HA13.out, HUxy11.out.cell HC03.out, HUxy11.out.cell HC13.out⟩) (fun hS => ?_)
              try simp only [List.setIfInBounds_toArray, List.set_cons_zero, List.set_cons_succ]
              obtain ⟨P4, N4, rfl, hP4, hN4⟩ := HV1y11.out
              obtain ⟨P5, N5, rfl, hP5, hN5⟩ := HV3y11.out
              obtain ⟨pp4, pc4, rfl, _, _⟩ := SlAt.open hP4
              obtain ⟨np4, nc4, rfl, _, _⟩ := SlAt.open hN4
              obtain ⟨pp5, pc5, rfl, _, _⟩ := SlAt.open hP5
              obtain ⟨np5, nc5, rfl, _, _⟩ := SlAt.open hN5
              have hP4 : IntsAt _ y11 (.slice pp4 (canT t).ps.length pc4) (canT t).ps := hP4
              have hN4 : StrsAt _ y11 (.slice np4 (canT t).ns.length nc4) (canT t).ns := hN4
              have hP5 : IntsAt _ y11 (.slice pp5 (canT q).ps.length pc5) (canT q).ps := hP5
              have hN5 : StrsAt _ y11 (.slice np5 (canT q).ns.length nc5) (canT q).ns := hN5
              have HP4 := Lib.hid hP4
              have HN4 := Lib.hid hN4
              have HP5 := Lib.hid hP5
              have HN5 := Lib.hid hN5
              have hb4 := HB4y11.out
              have hb5 := HB5y11.out
              obtain ⟨g1, g2, g3, g4⟩ := boxed hb4
              obtain ⟨g5, g6, g7, g8⟩ := boxed hb5
              have HFIN := Lib.hid (same_fin (T := 45) HUxy11.out HB4y11.out HB5y11.out (by have := HNE.out; omega) HO4.out HO5.out HP4.out HN4.out HP5.out HN5.out (fun b hb => by simp at hb; omega) (fun b hb => by simp at hb; omega))
              have hne1 : b4 ≠ b5 := by have := HNE.out; omega
              have hne2 : b5 ≠ b4 := fun e => hne1 e.symm
              clear hP4 hN4 hP5 hN5 hb4 hb5
              refine anyT.step (i := 6) rfl (by kernel_rfl) (fun K' hK => ?_)
              go_simp
              refine hK.out _ _ (fun _ => ⟨HFIN.out.1.cell HA03.out, HFIN.out.1.cell HA13.out, HFIN.out.1.cell HC03.out, HFIN.out.1.cell HC13.out⟩) (fun hS => ?_)
              try simp only [List.setIfInBounds_toArray, List.set_cons_zero, List.set_cons_succ]
              obtain ⟨k5, k6, k7, k8⟩ := boxed HFIN.out.2.1
              refine anyT.step (i := 7) rfl (by kernel_rfl) (fun K' hK => ?_)
              go_simp
              refine hK.out _ _ (not_more (by kernel_rfl)) (fun hS => ?_)
              refine anyT.done (by kernel_rfl) ?_
              go_wp2_with fail
              go_meet
              case rel => exact ⟨b4, b5, _, _, _, _, rfl, rfl, HFIN.out.2.2⟩
          · go_simp
            have hux := Up.alloc y1 (.cells #[.slice none 0 0, .slice none 0 0] 45)
            have hnb := blk_alloc_new y1 (.cells #[.slice none 0 0, .slice none 0 0] 45)
            have hlb : y1.heap.size < (y1.alloc (.cells #[.slice none 0 0, .slice none 0 0] 45)).heap.size := by rw [World.size_alloc]; exact Nat.lt_succ_self _
            have HS1 : Hid (TreeAt (fun b => b ∉ ([y1.heap.size] : List Nat)) y1 v1 (canT t)) := HV1y1.out.sub fun b hb hl => by simp at hb ⊢; omega
            generalize y1.alloc (.cells #[.slice none 0 0, .slice none 0 0] 45) = y12 at *
            have HUxy12 := Lib.hid (HUxy1.out.trans hux)
            have HV1y12 := Lib.hid (HS1.out.keep (hux.kept _))
            have HB5y12 := Lib.hid hnb
            have HL5y12 := Lib.hid hlb
            have HO5 : Hid (w3.heap.size ≤ y1.heap.size) := HUxy1.out.size
            clear hux hnb hlb
            generalize y1.heap.size = b5 at *
            refine hK.out _ _ (fun _ => ⟨HUxy12.out.cell HA03.out, HUxy12.out.cell HA13.out, HUxy12.out.cell HC03.out, HUxy12.out.cell HC13.out⟩) (fun hS => ?_)
            try simp only [List.setIfInBounds_toArray, List.set_cons_zero, List.set_cons_succ]
            refine anyT.step2 (i := 3) (i2 := 4) rfl rfl (by kernel_rfl) (fun K' hK => ?_) (fun K' hK => ?_) 
            · go_simp
              refine (canonical_t S y12 _ q (HQ3.out.keep (HUxy12.out.kept S)) HQE.out HZ2.out).mono ?_
              rintro e y13 ⟨hux, v3, rfl, htx⟩
              have HUxy13 := Lib.hid (HUxy12.out.trans hux)
              have HV1y13 := Lib.hid (HV1y12.out.keep (hux.kept _))
              have HB5y13 : Hid (y13.heap[b5]? = some (Obj.cells #[.slice none 0 0, .slice none 0 0] 45 (0, 0))) := (Below.block hux b5 HL5y12.out).trans HB5y12.out
              have HL5y13 : Hid (b5 < y13.heap.size) := Nat.lt_of_lt_of_le HL5y12.out hux.size
              have HV3y13 : Hid (TreeAt (fun b => b ∉ ([b5] : List Nat)) y13 v3 (canT q)) := htx.sub fun b hb _ => by have := HL5y12.out; simp; try omega
              clear hux htx
              refine hK.out _ _ (fun _ => ⟨HUxy13.out.cell HA03.out, HUxy13.out.cell HA13.out, HUxy13.out.cell HC03.out, HUxy13.out.cell HC13.out⟩) (fun hS => ?_)
              try simp only [List.setIfInBounds_toArray, List.set_cons_zero, List.set_cons_succ]
              refine anyT.step (i := 4) rfl (by kernel_rfl) (fun K' hK => ?_)
              go_simp
              have hux := Up.alloc y13 (.cells #[.slice none 0 0, .slice none 0 0] 45)
              have hnb := blk_alloc_new y13 (.cells #[.slice none 0 0, .slice none 0 0] 45)
              have hlb : y13.heap.size < (y13.alloc (.cells #[.slice none 0 0, .slice none 0 0] 45)).heap.size := by rw [World.size_alloc]; exact Nat.lt_succ_self _
              have HS1 : Hid (TreeAt (fun b => b ∉ ([b5, y13.heap.size] : List Nat)) y13 v1 (canT t)) := HV1y13.out.sub fun b hb hl => by simp at hb ⊢; omega
              have HS3 : Hid (TreeAt (fun b => b ∉ ([b5, y13.heap.size] : List Nat)) y13 v3 (canT q)) := HV3y13.out.sub fun b hb hl => by simp at hb ⊢; omega
              have HNE := Lib.hid (show b5 ≠ y13.heap.size by have := HL5y13.out; omega)
              generalize y13.alloc (.cells #[.slice none 0 0, .slice none 0 0] 45) = y14 at *
              have HUxy14 := Lib.hid (HUxy13.out.trans hux)
              have HV1y14 := Lib.hid (HS1.out.keep (hux.kept _))
              have HV3y14 := Lib.hid (HS3.out.keep (hux.kept _))
              have HB5y14 : Hid (y14.heap[b5]? = some (Obj.cells #[.slice none 0 0, .slice none 0 0] 45 (0, 0))) := (Below.block hux b5 HL5y13.out).trans HB5y13.out
              have HL5y14 : Hid (b5 < y14.heap.size) := Nat.lt_of_lt_of_le HL5y13.out hux.size
              have HB4y14 := Lib.hid hnb
              have HL4y14 := Lib.hid hlb
              have HO4 : Hid (w3.heap.size ≤ y13.heap.size) := HUxy13.out.size
              clear hux hnb hlb
              generalize y13.heap.size = b4 at *
              refine hK.out _ _ (fun _ => ⟨HUxy14.out.cell HA03.out, HUxy14.out.cell HA13.out, HUxy14.out.cell HC03.out, HUxy14.out.cell HC13.out⟩) (fun hS => ?_)
              try simp only [List.setIfInBounds_toArray, List.set_cons_zero, List.set_cons_succ]
              obtain ⟨P4, N4, rfl, hP4, hN4⟩ := HV1y14.out
              obtain ⟨P5, N5, rfl, hP5, hN5⟩ := HV3y14.out
              obtain ⟨pp4, pc4, rfl, _, _⟩ := SlAt.open hP4
              obtain ⟨np4, nc4, rfl, _, _⟩ := SlAt.open hN4
              obtain ⟨pp5, pc5, rfl, _, _⟩ := SlAt.open hP5
              obtain ⟨np5, nc5, rfl, _, _⟩ := SlAt.open hN5
              have hP4 : IntsAt _ y14 (.slice pp4 (canT t).ps.length pc4) (canT t).ps := hP4
              have hN4 : StrsAt _ y14 (.slice np4 (canT t).ns.length nc4) (canT t).ns := hN4
              have hP5 : IntsAt _ y14 (.slice pp5 (canT q).ps.length pc5) (canT q).ps := hP5
              have hN5 : StrsAt _ y14 (.slice np5 (canT q).ns.length nc5) (canT q).ns := hN5
              have HP4 := Lib.hid hP4
              have HN4 := Lib.hid hN4
              have HP5 := Lib.hid hP5
              have HN5 := Lib.hid hN5
              have hb4 := HB4y14.out
              have hb5 := HB5y14.out
              obtain ⟨g1, g2, g3, g4⟩ := boxed hb4
              obtain ⟨g5, g6, g7, g8⟩ := boxed hb5
              have HFIN := Lib.hid (same_fin (T := 45) HUxy14.out HB4y14.out HB5y14.out (by have := HNE.out; omega) HO4.out HO5.out HP4.out HN4.out HP5.out HN5.out (fun b hb => by simp at hb; omega) (fun b hb => by simp at hb; omega))
              have hne1 : b4 ≠ b5 := by have := HNE.out; omega
              have hne2 : b5 ≠ b4 := fun e => hne1 e.symm
              clear hP4 hN4 hP5 hN5 hb4 hb5
              refine anyT.step (i := 6) rfl (by kernel_rfl) (fun K' hK => ?_)
              go_simp
              refine hK.out _ _ (fun _ => ⟨HFIN.out.1.cell HA03.out, HFIN.out.1.cell HA13.out, HFIN.out.1.cell HC03.out, HFIN.out.1.cell HC13.out⟩) (fun hS => ?_)
              try simp only [List.setIfInBounds_toArray, List.set_cons_zero, List.set_cons_succ]
              obtain ⟨k5, k6, k7, k8⟩ := boxed HFIN.out.2.1
              refine anyT.step (i := 7) rfl (by kernel_rfl) (fun K' hK => ?_)
              go_simp
              refine hK.out _ _ (not_more (by kernel_rfl)) (fun hS => ?_)
              refine anyT.done (by kernel_rfl) ?_
              go_wp2_with fail
              go_meet
              case rel => exact ⟨b4, b5, _, _, _, _, rfl, rfl, HFIN.out.2.2⟩
            · go_simp
              have hux := Up.alloc y12 (.cells #[.slice none 0 0, .slice none 0 0] 45)
              have hnb := blk_alloc_new y12 (.cells #[.slice none 0 0, .slice none 0 0] 45)
              have hlb : y12.heap.size < (y12.alloc (.cells #[.slice none 0 0, .slice none 0 0] 45)).heap.size := by rw [World.size_alloc]; exact Nat.lt_succ_self _
              have HS1 : Hid (TreeAt (fun b => b ∉ ([b5, y12.heap.size] : List Nat)) y12 v1 (canT t)) := HV1y12.out.sub fun b hb hl => by simp at hb ⊢; omega
              have HNE := Lib.hid (show b5 ≠ y12.heap.size by have := HL5y12.out; omega)
              generalize y12.alloc (.cells #[.slice none 0 0, .slice none 0 0] 45) = y15 at *
              have HUxy15 := Lib.hid (HUxy12.out.trans hux)
              have HV1y15 := Lib.hid (HS1.out.keep (hux.kept _))
              have HB5y15 : Hid (y15.heap[b5]? = some (Obj.cells #[.slice none 0 0, .slice none 0 0] 45 (0, 0))) := (Below.block hux b5 HL5y12.out).trans HB5y12.out
              have HL5y15 : Hid (b5 < y15.heap.size) := Nat.lt_of_lt_of_le HL5y12.out hux.size
              have HB4y15 := Lib.hid hnb
              have HL4y15 := Lib.hid hlb
              have HO4 : Hid (w3.heap.size ≤ y12.heap.size) := HUxy12.out.size
              clear hux hnb hlb
              generalize y12.heap.size = b4 at *
              refine hK.out _ _ (fun _ => ⟨HUxy15.out.cell HA03.out, HUxy15.out.cell HA13.out, HUxy15.out.cell HC03.out, HUxy15.out.cell HC13.out⟩) (fun hS => ?_)
              try simp only [List.setIfInBounds_toArray, List.set_cons_zero, List.set_cons_succ]
              refine anyT.step (i := 3) rfl (by kernel_rfl) (fun K' hK => ?_)
              go_simp
              refine (canonical_t S y15 _ q (HQ3.out.keep (HUxy15.out.kept S)) HQE.out HZ2.out).mono ?_
              rintro e y16 ⟨hux, v3, rfl, htx⟩
              have HUxy16 := Lib.hid (HUxy15.out.trans hux)
              have HV1y16 := Lib.hid (HV1y15.out.keep (hux.kept _))
              have HB4y16 : Hid (y16.heap[b4]? = some (Obj.cells #[.slice none 0 0, .slice none 0 0] 45 (0, 0))) := (Below.block hux b4 HL4y15.out).trans HB4y15.out
              have HL4y16 : Hid (b4 < y16.heap.size) := Nat.lt_of_lt_of_le HL4y15.out hux.size
              have HB5y16 : Hid (y16.heap[b5]? = some (Obj.cells #[.slice none 0 0, .slice none 0 0] 45 (0, 0))) := (Below.block hux b5 HL5y15.out).trans HB5y15.out
              have HL5y16 : Hid (b5 < y16.heap.size) := Nat.lt_of_lt_of_le HL5y15.out hux.size
              have HV3y16 : Hid (TreeAt (fun b => b ∉ ([b5, b4] : List Nat)) y16 v3 (canT q)) := htx.sub fun b hb _ => by have := HL4y15.out; have := HL5y15.out; simp; try omega
              clear hux htx
              refine hK.out _ _ (fun _ => ⟨HUxy16.out.cell HA03.out, HUxy16.out.cell HA13.out, HUxy16.out.cell HC03.out, HUxy16.out.cell HC13.out⟩) (fun hS => ?_)
              try simp only [List.setIfInBounds_toArray, List.set_cons_zero, List.set_cons_succ]
              obtain ⟨P4, N4, rfl, hP4, hN4⟩ := HV1y16.out
              obtain ⟨P5, N5, rfl, hP5, hN5⟩ := HV3y16.out
              obtain ⟨pp4, pc4, rfl, _, _⟩ := SlAt.open hP4
              obtain ⟨np4, nc4, rfl, _, _⟩ := SlAt.open hN4
              obtain ⟨pp5, pc5, rfl, _, _⟩ := SlAt.open hP5
              obtain ⟨np5, nc5, rfl, _, _⟩ := SlAt.open hN5
              have hP4 : IntsAt _ y16 (.slice pp4 (canT t).ps.length pc4) (canT t).ps := hP4
              have hN4 : StrsAt _ y16 (.slice np4 (canT t).ns.length nc4) (canT t).ns := hN4
              have hP5 : IntsAt _ y16 (.slice pp5 (canT q).ps.length pc5) (canT q).ps := hP5
              have hN5 : StrsAt _ y16 (.slice np5 (canT q).ns.length nc5) (canT q).ns := hN5
              have HP4 := Lib.hid hP4
              have HN4 := Lib.hid hN4
              have HP5 := Lib.hid hP5
              have HN5 := Lib.hid hN5
              have hb4 := HB4y16.out
              have hb5 := HB5y16.out
              obtain ⟨g1, g2, g3, g4⟩ := boxed hb4
              obtain ⟨g5, g6, g7, g8⟩ := boxed hb5
              have HFIN := Lib.hid (same_fin (T := 45) HUxy16.out HB4y16.out HB5y16.out (by have := HNE.out; omega) HO4.out HO5.out HP4.out HN4.out HP5.out HN5.out (fun b hb => by simp at hb; omega) (fun b hb => by simp at hb; omega))
              have hne1 : b4 ≠ b5 := by have := HNE.out; omega
              have hne2 : b5 ≠ b4 := fun e => hne1 e.symm
              clear hP4 hN4 hP5 hN5 hb4 hb5
              refine anyT.step (i := 6) rfl (by kernel_rfl) (fun K' hK => ?_)
              go_simp
              refine hK.out _ _ (fun _ => ⟨HFIN.out.1.cell HA03.out, HFIN.out.1.cell HA13.out, HFIN.out.1.cell HC03.out, HFIN.out.1.cell HC13.out⟩) (fun hS => ?_)
              try simp only [List.setIfInBounds_toArray, List.set_cons_zero, List.set_cons_succ]
              obtain ⟨k5, k6, k7, k8⟩ := boxed HFIN.out.2.1
              refine anyT.step (i := 7) rfl (by kernel_rfl) (fun K' hK => ?_)
              go_simp
              refine hK.out _ _ (not_more (by kernel_rfl)) (fun hS => ?_)
              refine anyT.done (by kernel_rfl) ?_
              go_wp2_with fail
              go_meet
              case rel => exact ⟨b4, b5, _, _, _, _, rfl, rfl, HFIN.out.2.2⟩
        · go_simp
          have hux := Up.alloc y0 (.cells #[.slice none 0 0, .slice none 0 0] 45)
          have hnb := blk_alloc_new y0 (.cells #[.slice none 0 0, .slice none 0 0] 45)
          have hlb : y0.heap.size < (y0.alloc (.cells #[.slice none 0 0, .slice none 0 0] 45)).heap.size := by rw [World.size_alloc]; exact Nat.lt_succ_self _
          generalize y0.alloc (.cells #[.slice none 0 0, .slice none 0 0] 45) = y17 at *
          have HUxy17 := Lib.hid (HUxy0.out.trans hux)
          have HB4y17 := Lib.hid hnb
          have HL4y17 := Lib.hid hlb
          have HO4 : Hid (w3.heap.size ≤ y0.heap.size) := HUxy0.out.size
          clear hux hnb hlb
          generalize y0.heap.size = b4 at *
          refine hK.out _ _ (fun _ => ⟨HUxy17.out.cell HA03.out, HUxy17.out.cell HA13.out, HUxy17.out.cell HC03.out, HUxy17.out.cell HC13.out⟩) (fun hS => ?_)
          try simp only [List.setIfInBounds_toArray, List.set_cons_zero, List.set_cons_succ]
          refine anyT.step2 (i := 1) (i2 := 5) rfl rfl (by kernel_rfl) (fun K' hK => ?_) (fun K' hK => ?_) 
          · go_simp
            refine (canonical_t S y17 _ t (HT3.out.keep (HUxy17.out.kept S)) HTE.out HZ.out).mono ?_
            rintro e y18 ⟨hux, v1, rfl, htx⟩
            have HUxy18 := Lib.hid (HUxy17.out.trans hux)
            have HB4y18 : Hid (y18.heap[b4]? = some (Obj.cells #[.slice none 0 0, .slice none 0 0] 45 (0, 0))) := (Below.block hux b4 HL4y17.out).trans HB4y17.out
            have HL4y18 : Hid (b4 < y18.heap.size) := Nat.lt_of_lt_of_le HL4y17.out hux.size
            have HV1y18 : Hid (TreeAt (fun b => b ∉ ([b4] : List Nat)) y18 v1 (canT t)) := htx.sub fun b hb _ => by have := HL4y17.out; simp; try omega
            clear hux htx
            refine hK.out _ _ (fun _ => ⟨HUxy18.out.cell HA03.out, HUxy18.out.cell HA13.out, HUxy18.out.cell HC03.out, HUxy18.out.cell HC13.out⟩) (fun hS => ?_)
            try simp only [List.setIfInBounds_toArray, List.set_cons_zero, List.set_cons_succ]
            refine anyT.step2 (i := 3) (i2 := 5) rfl rfl (by kernel_rfl) (fun K' hK => ?_) (fun K' hK => ?_) 
            · go_simp
              refine (canonical_t S y18 _ q (HQ3.out.keep (HUxy18.out.kept S)) HQE.out HZ2.out).mono ?_
              rintro e y19 ⟨hux, v3, rfl, htx⟩
              have HUxy19 := Lib.hid (HUxy18.out.trans hux)
              have HV1y19 := Lib.hid (HV1y18.out.keep (hux.kept _))
              have HB4y19 : Hid (y19.heap[b4]? = some (Obj.cells #[.slice none 0 0, .slice none 0 0] 45 (0, 0))) := (Below.block hux b4 HL4y18.out).trans HB4y18.out
              have HL4y19 : Hid (b4 < y19.heap.size) := Nat.lt_of_lt_of_le HL4y18.out hux.size
              have HV3y19 : Hid (TreeAt (fun b => b ∉ ([b4] : List Nat)) y19 v3 (canT q)) := htx.sub fun b hb _ => by have := HL4y18.out; simp; try omega
              clear hux htx
              refine hK.out _ _ (fun _ => ⟨HUxy19.out.cell HA03.out, HUxy19.out.cell HA13.out, HUxy19.out.cell HC03.out, HUxy19.out.cell HC13.out⟩) (fun hS => ?_)
              try simp only [List.setIfInBounds_toArray, List.set_cons_zero, List.set_cons_succ]
              refine anyT.step (i := 5) rfl (by kernel_rfl) (fun K' hK => ?_)
              go_simp
              have hux := Up.alloc y19 (.cells #[.slice none 0 0, .slice none 0 0] 45)
              have hnb := blk_alloc_new y19 (.cells #[.slice none 0 0, .slice none 0 0] 45)
              have hlb : y19.heap.size < (y19.alloc (.cells #[.slice none 0 0, .slice none 0 0] 45)).heap.size := by rw [World.size_alloc]; exact Nat.lt_succ_self _
              have HS1 : Hid (TreeAt (fun b => b ∉ ([b4, y19.heap.size] : List Nat)) y19 v1 (canT t)) := HV1y19.out.sub fun b hb hl => by simp at hb ⊢; omega
              have HS3 : Hid (TreeAt (fun b => b ∉ ([b4, y19.heap.size] : List Nat)) y19 v3 (canT q)) := HV3y19.out.sub fun b hb hl => by simp at hb ⊢; omega
              have HNE := Lib.hid (show b4 ≠ y19.heap.size by have := HL4y19.out; omega)
              generalize y19.alloc (.cells #[.slice none 0 0, .slice none 0 0] 45) = y20 at *
              have HUxy20 := Lib.hid (HUxy19.out.trans hux)
              have HV1y20 := Lib.hid (HS1.out.keep (hux.kept _))
              have HV3y20 := Lib.hid (HS3.out.keep (hux.kept _))
              have HB4y20 : Hid (y20.heap[b4]? = some (Obj.cells #[.slice none 0 0, .slice none 0 0] 45 (0, 0))) := (Below.block hux b4 HL4y19.out).trans HB4y19.out
              have HL4y20 : Hid (b4 < y20.heap.size) := Nat.lt_of_lt_of_le HL4y19.out hux.size
              have HB5y20 := Lib.hid hnb
              have HL5y20 := Lib.hid hlb
              have HO5 : Hid (w3.heap.size ≤ y19.heap.size) := HUxy19.out.size
              clear hux hnb hlb
              generalize y19.heap.size = b5 at *
              refine hK.out _ _ (fun _ => ⟨HUxy20.out.cell HA03.out, HUxy20.out.cell HA13.out, HUxy20.out.cell HC03.out, HUxy20.out.cell HC13.out⟩) (fun hS => ?_)
              try simp only [List.setIfInBounds_toArray, List.set_cons_zero, List.set_cons_succ]
              obtain ⟨P4, N4, rfl, hP4, hN4⟩ := HV1y20.out
              obtain ⟨P5, N5, rfl, hP5, hN5⟩ := HV3y20.out
              obtain ⟨pp4, pc4, rfl, _, _⟩ := SlAt.open hP4
              obtain ⟨np4, nc4, rfl, _, _⟩ := SlAt.open hN4
              obtain ⟨pp5, pc5, rfl, _, _⟩ := SlAt.open hP5
              obtain ⟨np5, nc5, rfl, _, _⟩ := SlAt.open hN5
              have hP4 : IntsAt _ y20 (.slice pp4 (canT t).ps.length pc4) (canT t).ps := hP4
              have hN4 : StrsAt _ y20 (.slice np4 (canT t).ns.length nc4) (canT t).ns := hN4
              have hP5 : IntsAt _ y20 (.slice pp5 (canT q).ps.length pc5) (canT q).ps := hP5
              have hN5 : StrsAt _ y20 (.slice np5 (canT q).ns.length nc5) (canT q).ns := hN5
              have HP4 := Lib.hid hP4
              have HN4 := Lib.hid hN4
              have HP5 := Lib.hid hP5
              have HN5 := Lib.hid hN5
              have hb4 := HB4y20.out
              have hb5 := HB5y20.out
              obtain ⟨g1, g2, g3, g4⟩ := boxed hb4
              obtain ⟨g5, g6, g7, g8⟩ := boxed hb5
              have HFIN := Lib.hid (same_fin (T := 45) HUxy20.out HB4y20.out HB5y20.out (by have := HNE.out; omega) HO4.out HO5.out HP4.out HN4.out HP5.out HN5.out (fun b hb => by simp at hb; omega) (fun b hb => by simp at hb; omega))
              have hne1 : b4 ≠ b5 := by have := HNE.out; omega
              have hne2 : b5 ≠ b4 := fun e => hne1 e.symm
              clear hP4 hN4 hP5 hN5 hb4 hb5
              refine anyT.step (i := 6) rfl (by kernel_rfl) (fun K' hK => ?_)
              go_simp
              refine hK.out _ _ (fun _ => ⟨HFIN.out.1.cell HA03.out, HFIN.out.1.cell HA13.out, HFIN.out.1.cell HC03.out, HFIN.out.1.cell HC13.out⟩) (fun hS => ?_)
              try simp only [List.setIfInBounds_toArray, List.set_cons_zero, List.set_cons_succ]
              obtain ⟨k5, k6, k7, k8⟩ := boxed HFIN.out.2.1
              refine anyT.step (i := 7) rfl (by kernel_rfl) (fun K' hK => ?_)
              go_simp
              refine hK.out _ _ (not_more (by kernel_rfl)) (fun hS => ?_)
              refine anyT.done (by kernel_rfl) ?_
              go_wp2_with fail
              go_meet
              case rel => exact ⟨b4, b5, _, _, _, _, rfl, rfl, HFIN.out.2.2⟩
            · go_simp
              have hux := Up.alloc y18 (.cells #[.slice none 0 0, .slice none 0 0] 45)
              have hnb := blk_alloc_new y18 (.cells #[.slice none 0 0, .slice none 0 0] 45)
              have hlb : y18.heap.size < (y18.alloc (.cells #[.slice none 0 0, .slice none 0 0] 45)).heap.size := by rw [World.size_alloc]; exact Nat.lt_succ_self _
              have HS1 : Hid (TreeAt (fun b => b ∉ ([b4, y18.heap.size] : List Nat)) y18 v1 (canT t)) := HV1y18.out.sub fun b hb hl => by simp at hb ⊢; omega
              have HNE := Lib.hid (show b4 ≠ y18.heap.size by have := HL4y18.out; omega)
              generalize y18.alloc (.cells #[.slice none 0 0, .slice none 0 0] 45) = y21 at *
              have HUxy21 := Lib.hid (HUxy18.out.trans hux)
              have HV1y21 := Lib.hid (HS1.out.keep (hux.kept _))
              have HB4y21 : Hid (y21.heap[b4]? = some (Obj.cells #[.slice none 0 0, .slice none 0 0] 45 (0, 0))) := (Below.block hux b4 HL4y18.out).trans HB4y18.out
              have HL4y21 : Hid (b4 < y21.heap.size) := Nat.lt_of_lt_of_le HL4y18.out hux.size
              have HB5y21 := Lib.hid hnb
              have HL5y21 := Lib.hid hlb
              have HO5 : Hid (w3.heap.size ≤ y18.heap.size) := HUxy18.out.size
              clear hux hnb hlb
              generalize y18.heap.size = b5 at *
              refine hK.out _ _ (fun _ => ⟨HUxy21.out.cell HA03.out, HUxy21.out.cell HA13.out, HUxy21.out.cell HC03.out, HUxy21.out.cell HC13.out⟩) (fun hS => ?_)
              try simp only [List.setIfInBounds_toArray, List.set_cons_zero, List.set_cons_succ]
              refine anyT.step (i := 3) rfl (by kernel_rfl) (fun K' hK => ?_)
              go_simp
              refine (canonical_t S y21 _ q (HQ3.out.keep (HUxy21.out.kept S)) HQE.out HZ2.out).mono ?_
              rintro e y22 ⟨hux, v3, rfl, htx⟩
              have HUxy22 := Lib.hid (HUxy21.out.trans hux)
              have HV1y22 := Lib.hid (HV1y21.out.keep (hux.kept _))
              have HB4y22 : Hid (y22.heap[b4]? = some (Obj.cells #[.slice none 0 0, .slice none 0 0] 45 (0, 0))) := (Below.block hux b4 HL4y21.out).trans HB4y21.out
              have HL4y22 : Hid (b4 < y22.heap.size) := Nat.lt_of_lt_of_le HL4y21.out hux.size
              have HB5y22 : Hid (y22.heap[b5]? = some (Obj.cells #[.slice none 0 0, .slice none 0 0] 45 (0, 0))) := (Below.block hux b5 HL5y21.out).trans HB5y21.out
              have HL5y22 : Hid (b5 < y22.heap.size) := Nat.lt_of_lt_of_le HL5y21.out hux.size
              have HV3y22 : Hid (TreeAt (fun b => b ∉ ([b4, b5] : List Nat)) y22 v3 (canT q)) := htx.sub fun b hb _ => by have := HL4y21.out; have := HL5y21.out; simp; try omega
              clear hux htx
              refine hK.out _ _ (fun _ => ⟨HUxy22.out.cell HA03.out, HUxy22.out.cell HA13.out, HUxy22.out.cell HC03.out, HUxy22.out.cell HC13.out⟩) (fun hS => ?_)
              try simp only [List.setIfInBounds_toArray, List.set_cons_zero, List.set_cons_succ]
              obtain ⟨P4, N4, rfl, hP4, hN4⟩ := HV1y22.out
              obtain ⟨P5, N5, rfl, hP5, hN5⟩ := HV3y22.out
              obtain ⟨pp4, pc4, rfl, _, _⟩ := SlAt.open hP4
              obtain ⟨np4, nc4, rfl, _, _⟩ := SlAt.open hN4
              obtain ⟨pp5, pc5, rfl, _, _⟩ := SlAt.open hP5
              obtain ⟨np5, nc5, rfl, _, _⟩ := SlAt.open hN5
              have hP4 : IntsAt _ y22 (.slice pp4 (canT t).ps.length pc4) (canT t).ps := hP4
              have hN4 : StrsAt _ y22 (.slice np4 (canT t).ns.length nc4) (canT t).ns := hN4
              have hP5 : IntsAt _ y22 (.slice pp5 (canT q).ps.length pc5) (canT q).ps := hP5
              have hN5 : StrsAt _ y22 (.slice np5 (canT q).ns.length nc5) (canT q).ns := hN5
              have HP4 := Lib.hid hP4
              have HN4 := Lib.hid hN4
              have HP5 := Lib.hid hP5
              have HN5 := Lib.hid hN5
              have hb4 := HB4y22.out
              have hb5 := HB5y22.out
              obtain ⟨g1, g2, g3, g4⟩ := boxed hb4
              obtain ⟨g5, g6, g7, g8⟩ := boxed hb5
              have HFIN := Lib.hid (same_fin (T := 45) HUxy22.out HB4y22.out HB5y22.out (by have := HNE.out; omega) HO4.out HO5.out HP4.out HN4.out HP5.out HN5.out (fun b hb => by simp at hb; omega) (fun b hb => by simp at hb; omega))
              have hne1 : b4 ≠ b5 := by have := HNE.out; omega
              have hne2 : b5 ≠ b4 := fun e => hne1 e.symm
              clear hP4 hN4 hP5 hN5 hb4 hb5
              refine anyT.step (i := 6) rfl (by kernel_rfl) (fun K' hK => ?_)
              go_simp
              refine hK.out _ _ (fun _ => ⟨HFIN.out.1.cell HA03.out, HFIN.out.1.cell HA13.out, HFIN.out.1.cell HC03.out, HFIN.out.1.cell HC13.out⟩) (fun hS => ?_)
              try simp only [List.setIfInBounds_toArray, List.set_cons_zero, List.set_cons_succ]
              obtain ⟨k5, k6, k7, k8⟩ := boxed HFIN.out.2.1
              refine anyT.step (i := 7) rfl (by kernel_rfl) (fun K' hK => ?_)
              go_simp
              refine hK.out _ _ (not_more (by kernel_rfl)) (fun hS => ?_)
              refine anyT.done (by kernel_rfl) ?_
              go_wp2_with fail
              go_meet
              case rel => exact ⟨b4, b5, _, _, _, _, rfl, rfl, HFIN.out.2.2⟩
          · go_simp
            have hux := Up.alloc y17 (.cells #[.slice none 0 0, .slice none 0 0] 45)
            have hnb := blk_alloc_new y17 (.cells #[.slice none 0 0, .slice none 0 0] 45)
            have hlb : y17.heap.size < (y17.alloc (.cells #[.slice none 0 0, .slice none 0 0] 45)).heap.size := by rw [World.size_alloc]; exact Nat.lt_succ_self _
            have HNE := Lib.hid (show b4 ≠ y17.heap.size by have := HL4y17.out; omega)
            generalize y17.alloc (.cells #[.slice none 0 0, .slice none 0 0] 45) = y23 at *
            have HUxy23 := Lib.hid (HUxy17.out.trans hux)
            have HB4y23 : Hid (y23.heap[b4]? = some (Obj.cells #[.slice none 0 0, .slice none 0 0] 45 (0, 0))) := (Below.block hux b4 HL4y17.out).trans HB4y17.out
            have HL4y23 : Hid (b4 < y23.heap.size) := Nat.lt_of_lt_of_le HL4y17.out hux.size
            have HB5y23 := Lib.hid hnb
            have HL5y23 := Lib.hid hlb
            have HO5 : Hid (w3.heap.size ≤ y17.heap.size) := HUxy17.out.size
            clear hux hnb hlb
            generalize y17.heap.size = b5 at *
            refine hK.out _ _ (fun _ => ⟨HUxy23.out.cell HA03.out, HUxy23.out.cell HA13.out, HUxy23.out.cell HC03.out, HUxy23.out.cell HC13.out⟩) (fun hS => ?_)
            try simp only [List.setIfInBounds_toArray, List.set_cons_zero, List.set_cons_succ]
            refine anyT.step (i := 1) rfl (by kernel_rfl) (fun K' hK => ?_)
            go_simp
            refine (canonical_t S y23 _ t (HT3.out.keep (HUxy23.out.kept S)) HTE.out HZ.out).mono ?_
            rintro e y24 ⟨hux, v1, rfl, htx⟩
            have HUxy24 := Lib.hid (HUxy23.out.trans hux)
            have HB4y24 : Hid (y24.heap[b4]? = some (Obj.cells #[.slice none 0 0, .slice none 0 0] 45 (0, 0))) := (Below.block hux b4 HL4y23.out).trans HB4y23.out
            have HL4y24 : Hid (b4 < y24.heap.size) := Nat.lt_of_lt_of_le HL4y23.out hux.size
            have HB5y24 : Hid (y24.heap[b5]? = some (Obj.cells #[.slice none 0 0, .slice none 0 0] 45 (0, 0))) := (Below.block hux b5 HL5y23.out).trans HB5y23.out
            have HL5y24 : Hid (b5 < y24.heap.size) := Nat.lt_of_lt_of_le HL5y23.out hux.size
            have HV1y24 : Hid (TreeAt (fun b => b ∉ ([b4, b5] : List Nat)) y24 v1 (canT t)) := htx.sub fun b hb _ => by have := HL4y23.out; have := HL5y23.out; simp; try omega
            clear hux htx
            refine hK.out _ _ (fun _ => ⟨HUxy24.out.cell HA03.out, HUxy24.out.cell HA13.out, HUxy24.out.cell HC03.out, HUxy24.out.cell HC13.out⟩) (fun hS => ?_)
            try simp only [List.setIfInBounds_toArray, List.set_cons_zero, List.set_cons_succ]
            refine anyT.step (i := 3) rfl (by kernel_rfl) (fun K' hK => ?_)
            go_simp
            refine (canonical_t S y24 _ q (HQ3.out.keep (HUxy24.out.kept S)) HQE.out HZ2.out).mono ?_
            rintro e y25 ⟨hux, v3, rfl, htx⟩
            have HUxy25 := Lib.hid (HUxy24.out.trans hux)
            have HV1y25 := Lib.hid (HV1y24.out.keep (hux.kept _))
            have HB4y25 : Hid (y25.heap[b4]? = some (Obj.cells #[.slice none 0 0, .slice none 0 0] 45 (0, 0))) := (Below.block hux b4 HL4y24.out).trans HB4y24.out
            have HL4y25 : Hid (b4 < y25.heap.size) := Nat.lt_of_lt_of_le HL4y24.out hux.size
            have HB5y25 : Hid (y25.heap[b5]? = some (Obj.cells #[.slice none 0 0, .slice none 0 0] 45 (0, 0))) := (Below.block hux b5 HL5y24.out).trans HB5y24.out
            have HL5y25 : Hid (b5 < y25.heap.size) := Nat.lt_of_lt_of_le HL5y24.out hux.size
            have HV3y25 : Hid (TreeAt (fun b => b ∉ ([b4, b5] : List Nat)) y25 v3 (canT q)) := htx.sub fun b hb _ => by have := HL4y24.out; have := HL5y24.out; simp; try omega
            clear hux htx
            refine hK.out _ _ (fun _ => ⟨HUxy25.out.cell HA03.out, HUxy25.out.cell HA13.out, HUxy25.out.cell HC03.out, HUxy25.out.cell HC13.out⟩) (fun hS => ?_)
            try simp only [List.setIfInBounds_toArray, List.set_cons_zero, List.set_cons_succ]
            obtain ⟨P4, N4, rfl, hP4, hN4⟩ := HV1y25.out
            obtain ⟨P5, N5, rfl, hP5, hN5⟩ := HV3y25.out
            obtain ⟨pp4, pc4, rfl, _, _⟩ := SlAt.open hP4
            obtain ⟨np4, nc4, rfl, _, _⟩ := SlAt.open hN4
            obtain ⟨pp5, pc5, rfl, _, _⟩ := SlAt.open hP5
            obtain ⟨np5, nc5, rfl, _, _⟩ := SlAt.open hN5
            have hP4 : IntsAt _ y25 (.slice pp4 (canT t).ps.length pc4) (canT t).ps := hP4
            have hN4 : StrsAt _ y25 (.slice np4 (canT t).ns.length nc4) (canT t).ns := hN4
            have hP5 : IntsAt _ y25 (.slice pp5 (canT q).ps.length pc5) (canT q).ps := hP5
            have hN5 : StrsAt _ y25 (.slice np5 (canT q).ns.length nc5) (canT q).ns := hN5
            have HP4 := Lib.hid hP4
            have HN4 := Lib.hid hN4
            have HP5 := Lib.hid hP5
            have HN5 := Lib.hid hN5
            have hb4 := HB4y25.out
            have hb5 := HB5y25.out
            obtain ⟨g1, g2, g3, g4⟩ := boxed hb4
            obtain ⟨g5, g6, g7, g8⟩ := boxed hb5
            have HFIN := Lib.hid (same_fin (T := 45) HUxy25.out HB4y25.out HB5y25.out (by have := HNE.out; omega) HO4.out HO5.out HP4.out HN4.out HP5.out HN5.out (fun b hb => by simp at hb; omega) (fun b hb => by simp at hb; omega))
            have hne1 : b4 ≠ b5 := by have := HNE.out; omega
            have hne2 : b5 ≠ b4 := fun e => hne1 e.symm
            clear hP4 hN4 hP5 hN5 hb4 hb5
            refine anyT.step (i := 6) rfl (by kernel_rfl) (fun K' hK => ?_)
            go_simp
            refine hK.out _ _ (fun _ => ⟨HFIN.out.1.cell HA03.out, HFIN.out.1.cell HA13.out, HFIN.out.1.cell HC03.out, HFIN.out.1.cell HC13.out⟩) (fun hS => ?_)
            try simp only [List.setIfInBounds_toArray, List.set_cons_zero, List.set_cons_succ]
            obtain ⟨k5, k6, k7, k8⟩ := boxed HFIN.out.2.1
            refine anyT.step (i := 7) rfl (by kernel_rfl) (fun K' hK => ?_)
            go_simp
            refine hK.out _ _ (not_more (by kernel_rfl)) (fun hS => ?_)
            refine anyT.done (by kernel_rfl) ?_
            go_wp2_with fail
            go_meet
            case rel => exact ⟨b4, b5, _, _, _, _, rfl, rfl, HFIN.out.2.2⟩
        · go_simp
          have hux := Up.alloc y0 (.cells #[.slice none 0 0, .slice none 0 0] 45)
          have hnb := blk_alloc_new y0 (.cells #[.slice none 0 0, .slice none 0 0] 45)
          have hlb : y0.heap.size < (y0.alloc (.cells #[.slice none 0 0, .slice none 0 0] 45)).heap.size := by rw [World.size_alloc]; exact Nat.lt_succ_self _
          generalize y0.alloc (.cells #[.slice none 0 0, .slice none 0 0] 45) = y26 at *
          have HUxy26 := Lib.hid (HUxy0.out.trans hux)
          have HB5y26 := Lib.hid hnb
          have HL5y26 := Lib.hid hlb
          have HO5 : Hid (w3.heap.size ≤ y0.heap.size) := HUxy0.out.size
          clear hux hnb hlb
          generalize y0.heap.size = b5 at *
          refine hK.out _ _ (fun _ => ⟨HUxy26.out.cell HA03.out, HUxy26.out.cell HA13.out, HUxy26.out.cell HC03.out, HUxy26.out.cell HC13.out⟩) (fun hS => ?_)
          try simp only [List.setIfInBounds_toArray, List.set_cons_zero, List.set_cons_succ]
          refine anyT.step2 (i := 1) (i2 := 4) rfl rfl (by kernel_rfl) (fun K' hK => ?_) (fun K' hK => ?_) 
          · go_simp
            refine (canonical_t S y26 _ t (HT3.out.keep (HUxy26.out.kept S)) HTE.out HZ.out).mono ?_
            rintro e y27 ⟨hux, v1, rfl, htx⟩
            have HUxy27 := Lib.hid (HUxy26.out.trans hux)
            have HB5y27 : Hid (y27.heap[b5]? = some (Obj.cells #[.slice none 0 0, .slice none 0 0] 45 (0, 0))) := (Below.block hux b5 HL5y26.out).trans HB5y26.out
            have HL5y27 : Hid (b5 < y27.heap.size) := Nat.lt_of_lt_of_le HL5y26.out hux.size
            have HV1y27 : Hid (TreeAt (fun b => b ∉ ([b5] : List Nat)) y27 v1 (canT t)) := htx.sub fun b hb _ => by have := HL5y26.out; simp; try omega
            clear hux htx
            refine hK.out _ _ (fun _ => ⟨HUxy27.out.cell HA03.out, HUxy27.out.cell HA13.out, HUxy27.out.cell HC03.out, HUxy27.out.cell HC13.out⟩) (fun hS => ?_)
            try simp only [List.setIfInBounds_toArray, List.set_cons_zero, List.set_cons_succ]
            refine anyT.step2 (i := 3) (i2 := 4) rfl rfl (by kernel_rfl) (fun K' hK => ?_) (fun K' hK => ?_) 
            · go_simp
              refine (canonical_t S y27 _ q (HQ3.out.keep (HUxy27.out.kept S)) HQE.out HZ2.out).mono ?_
              rintro e y28 ⟨hux, v3, rfl, htx⟩
              have HUxy28 := Lib.hid (HUxy27.out.trans hux)
              have HV1y28 := Lib.hid (HV1y27.out.keep (hux.kept _))
              have HB5y28 : Hid (y28.heap[b5]? = some (Obj.cells #[.slice none 0 0, .slice none 0 0] 45 (0, 0))) := (Below.block hux b5 HL5y27.out).trans HB5y27.out
              have HL5y28 : Hid (b5 < y28.heap.size) := Nat.lt_of_lt_of_le HL5y27.out hux.size
              have HV3y28 : Hid (TreeAt (fun b => b ∉ ([b5] : List Nat)) y28 v3 (canT q)) := htx.sub fun b hb _ => by have := HL5y27.out; simp; try omega
              clear hux htx
              refine hK.out _ _ (fun _ => ⟨HUxy28.out.cell HA03.out, HUxy28.out.cell HA13.out, HUxy28.out.cell HC03.out, HUxy28.out.cell HC13.out⟩) (fun hS => ?_)
              try simp only [List.setIfInBounds_toArray, List.set_cons_zero, List.set_cons_succ]
              refine anyT.step (i := 4) rfl (by kernel_rfl) (fun K' hK => ?_)
              go_simp
              have hux := Up.alloc y28 (.cells #[.slice none 0 0, .slice none 0 0] 45)
              have hnb := blk_alloc_new y28 (.cells #[.slice none 0 0, .slice none 0 0] 45)
              have hlb : y28.heap.size < (y28.alloc (.cells #[.slice none 0 0, .slice none 0 0] 45)).heap.size := by rw [World.size_alloc]; exact Nat.lt_succ_self _
              have HS1 : Hid (TreeAt (fun b => b ∉ ([b5, y28.heap.size] : List Nat)) y28 v1 (canT t)) := HV1y28.out.sub fun b hb hl => by simp at hb ⊢; omega
              have HS3 : Hid (TreeAt (fun b => b ∉ ([b5, y28.heap.size] : List Nat)) y28 v3 (canT q)) := HV3y28.out.sub fun b hb hl => by simp at hb ⊢; omega
              have HNE := Lib.hid (show b5 ≠ y28.heap.size by have := HL5y28.out; omega)
              generalize y28.alloc (.cells #[.slice none 0 0, .slice none 0 0] 45) = y29 at *
              have HUxy29 := Lib.hid (HUxy28.out.trans hux)
              have HV1y29 := Lib.hid (HS1.out.keep (hux.kept _))
              have HV3y29 := Lib.hid (HS3.out.keep (hux.kept _))
              have HB5y29 : Hid (y29.heap[b5]? = some (Obj.cells #[.slice none 0 0, .slice none 0 0] 45 (0, 0))) := (Below.block hux b5 HL5y28.out).trans HB5y28.out
              have HL5y29 : Hid (b5 < y29.heap.size) := Nat.lt_of_lt_of_le HL5y28.out hux.size
              have HB4y29 := Lib.hid hnb
              have HL4y29 := Lib.hid hlb
              have HO4 : Hid (w3.heap.size ≤ y28.heap.size) := HUxy28.out.size
              clear hux hnb hlb
              generalize y28.heap.size = b4 at *
              refine hK.out _ _ (fun _ => ⟨HUxy29.out.cell HA03.out, HUxy29.out.cell HA13.out, HUxy29.out.cell HC03.out, HUxy29.out.cell HC13.out⟩) (fun hS => ?_)
              try simp only [List.setIfInBounds_toArray, List.set_cons_zero, List.set_cons_succ]
              obtain ⟨P4, N4, rfl, hP4, hN4⟩ := HV1y29.out
              obtain ⟨P5, N5, rfl, hP5, hN5⟩ := HV3y29.out
              obtain ⟨pp4, pc4, rfl, _, _⟩ := SlAt.open hP4
              obtain ⟨np4, nc4, rfl, _, _⟩ := SlAt.open hN4
              obtain ⟨pp5, pc5, rfl, _, _⟩ := SlAt.open hP5
              obtain ⟨np5, nc5, rfl, _, _⟩ := SlAt.open hN5
              have hP4 : IntsAt _ y29 (.slice pp4 (canT t).ps.length pc4) (canT t).ps := hP4
              have hN4 : StrsAt _ y29 (.slice np4 (canT t).ns.length nc4) (canT t).ns := hN4
              have hP5 : IntsAt _ y29 (.slice pp5 (canT q).ps.length pc5) (canT q).ps := hP5
              have hN5 : StrsAt _ y29 (.slice np5 (canT q).ns.length nc5) (canT q).ns := hN5
              have HP4 := Lib.hid hP4
              have HN4 := Lib.hid hN4
              have HP5 := Lib.hid hP5
              have HN5 := Lib.hid hN5
              have hb4 := HB4y29.out
              have hb5 := HB5y29.out
              obtain ⟨g1, g2, g3, g4⟩ := boxed hb4
              obtain ⟨g5, g6, g7, g8⟩ := boxed hb5
              have HFIN := Lib.hid (same_fin (T := 45) HUxy29.out HB4y29.out HB5y29.out (by have := HNE.out; omega) HO4.out HO5.out HP4.out HN4.out HP5.out HN5.out (fun b hb => by simp at hb; omega) (fun b hb => by simp at hb; omega))
              have hne1 : b4 ≠ b5 := by have := HNE.out; omega
              have hne2 : b5 ≠ b4 := fun e => hne1 e.symm
              clear hP4 hN4 hP5 hN5 hb4 hb5
              refine anyT.step (i := 6) rfl (by kernel_rfl) (fun K' hK => ?_)
              go_simp
              refine hK.out _ _ (fun _ => ⟨HFIN.out.1.cell HA03.out, HFIN.out.1.cell HA13.out, HFIN.out.1.cell HC03.out, HFIN.out.1.cell HC13.out⟩) (fun hS => ?_)
              try simp only [List.setIfInBounds_toArray, List.set_cons_zero, List.set_cons_succ]
              obtain ⟨k5, k6, k7, k8⟩ := boxed HFIN.out.2.1
              refine anyT.step (i := 7) rfl (by kernel_rfl) (fun K' hK => ?_)
              go_simp
              refine hK.out _ _ (not_more (by kernel_rfl)) (fun hS => ?_)
              refine anyT.done (by kernel_rfl) ?_
              go_wp2_with fail
              go_meet
              case rel => exact ⟨b4, b5, _, _, _, _, rfl, rfl, HFIN.out.2.2⟩
            · go_simp
              have hux := Up.alloc y27 (.cells #[.slice none 0 0, .slice none 0 0] 45)
              have hnb := blk_alloc_new y27 (.cells #[.slice none 0 0, .slice none 0 0] 45)
              have hlb : y27.heap.size < (y27.alloc (.cells #[.slice none 0 0, .slice none 0 0] 45)).heap.size := by rw [World.size_alloc]; exact Nat.lt_succ_self _
              have HS1 : Hid (TreeAt (fun b => b ∉ ([b5, y27.heap.size] : List Nat)) y27 v1 (canT t)) := HV1y27.out.sub fun b hb hl => by simp at hb ⊢; omega
              have HNE := Lib.hid (show b5 ≠ y27.heap.size by have := HL5y27.out; omega)
              generalize y27.alloc (.cells #[.slice none 0 0, .slice none 0 0] 45) = y30 at *
              have HUxy30 := Lib.hid (HUxy27.out.trans hux)
              have HV1y30 := Lib.hid (HS1.out.keep (hux.kept _))
              have HB5y30 : Hid (y30.heap[b5]? = some (Obj.cells #[.slice none 0 0, .slice none 0 0] 45 (0, 0))) := (Below.block hux b5 HL5y27.out).trans HB5y27.out
              have HL5y30 : Hid (b5 < y30.heap.size) := Nat.lt_of_lt_of_le HL5y27.out hux.size
              have HB4y30 := Lib.hid hnb
              have HL4y30 := Lib.hid hlb
              have HO4 : Hid (w3.heap.size ≤ y27.heap.size) := HUxy27.out.size
              clear hux hnb hlb
              generalize y27.heap.size = b4 at *
              refine hK.out _ _ (fun _ => ⟨HUxy30.out.cell HA03.out, HUxy30.out.cell HA13.out, HUxy30.out.cell HC03.out, HUxy30.out.cell HC13.out⟩) (fun hS => ?_)
              try simp only [List.setIfInBounds_toArray, List.set_cons_zero, List.set_cons_succ]
              refine anyT.step (i := 3) rfl (by kernel_rfl) (fun K' hK => ?_)
              go_simp
              refine (canonical_t S y30 _ q (HQ3.out.keep (HUxy30.out.kept S)) HQE.out HZ2.out).mono ?_
              rintro e y31 ⟨hux, v3, rfl, htx⟩
              have HUxy31 := Lib.hid (HUxy30.out.trans hux)
              have HV1y31 := Lib.hid (HV1y30.out.keep (hux.kept _))
              have HB4y31 : Hid (y31.heap[b4]? = some (Obj.cells #[.slice none 0 0, .slice none 0 0] 45 (0, 0))) := (Below.block hux b4 HL4y30.out).trans HB4y30.out
              have HL4y31 : Hid (b4 < y31.heap.size) := Nat.lt_of_lt_of_le HL4y30.out hux.size
              have HB5y31 : Hid (y31.heap[b5]? = some (Obj.cells #[.slice none 0 0, .slice none 0 0] 45 (0, 0))) := (Below.block hux b5 HL5y30.out).trans HB5y30.out
              have HL5y31 : Hid (b5 < y31.heap.size) := Nat.lt_of_lt_of_le HL5y30.out hux.size
              have HV3y31 : Hid (TreeAt (fun b => b ∉ ([b5, b4] : List Nat)) y31 v3 (canT q)) := htx.sub fun b hb _ => by have := HL4y30.out; have := HL5y30.out; simp; try omega
              clear hux htx
              refine hK.out _ _ (fun _ => ⟨HUxy31.out.cell HA03.out, HUxy31.out.cell HA13.out, HUxy31.out.cell HC03.out, HUxy31.out.cell HC13.out⟩) (fun hS => ?_)
              try simp only [List.setIfInBounds_toArray, List.set_cons_zero, List.set_cons_succ]
              obtain ⟨P4, N4, rfl, hP4, hN4⟩ := HV1y31.out
              obtain ⟨P5, N5, rfl, hP5, hN5⟩ := HV3y31.out
              obtain ⟨pp4, pc4, rfl, _, _⟩ := SlAt.open hP4
              obtain ⟨np4, nc4, rfl, _, _⟩ := SlAt.open hN4
              obtain ⟨pp5, pc5, rfl, _, _⟩ := SlAt.open hP5
              obtain ⟨np5, nc5, rfl, _, _⟩ := SlAt.open hN5
              have hP4 : IntsAt _ y31 (.slice pp4 (canT t).ps.length pc4) (canT t).ps := hP4
              have hN4 : StrsAt _ y31 (.slice np4 (canT t).ns.length nc4) (canT t).ns := hN4
              have hP5 : IntsAt _ y31 (.slice pp5 (canT q).ps.length pc5) (canT q).ps := hP5
              have hN5 : StrsAt _ y31 (.slice np5 (canT q).ns.length nc5) (canT q).ns := hN5
              have HP4 := Lib.hid hP4
              have HN4 := Lib.hid hN4
              have HP5 := Lib.hid hP5
              have HN5 := Lib.hid hN5
              have hb4 := HB4y31.out
              have hb5 := HB5y31.out
              obtain ⟨g1, g2, g3, g4⟩ := boxed hb4
              obtain ⟨g5, g6, g7, g8⟩ := boxed hb5
              have HFIN := Lib.hid (same_fin (T := 45) HUxy31.out HB4y31.out HB5y31.out (by have := HNE.out; omega) HO4.out HO5.out HP4.out HN4.out HP5.out HN5.out (fun b hb => by simp at hb; omega) (fun b hb => by simp at hb; omega))
              have hne1 : b4 ≠ b5 := by have := HNE.out; omega
              have hne2 : b5 ≠ b4 := fun e => hne1 e.symm
              clear hP4 hN4 hP5 hN5 hb4 hb5
              refine anyT.step (i := 6) rfl (by kernel_rfl) (fun K' hK => ?_)
              go_simp
              refine hK.out _ _ (fun _ => ⟨HFIN.out.1.cell HA03.out, HFIN.out.1.cell HA13.out, HFIN.out.1.cell HC03.out, HFIN.out.1.cell HC13.out⟩) (fun hS => ?_)
              try simp only [List.setIfInBounds_toArray, List.set_cons_zero, List.set_cons_succ]
              obtain ⟨k5, k6, k7, k8⟩ := boxed HFIN.out.2.1
              refine anyT.step (i := 7) rfl (by kernel_rfl) (fun K' hK => ?_)
              go_simp
              refine hK.out _ _ (not_more (by kernel_rfl)) (fun hS => ?_)
              refine anyT.done (by kernel_rfl) ?_
              go_wp2_with fail
              go_meet
              case rel => exact ⟨b4, b5, _, _, _, _, rfl, rfl, HFIN.out.2.2⟩
          · go_simp
            have hux := Up.alloc y26 (.cells #[.slice none 0 0, .slice none 0 0] 45)
            have hnb := blk_alloc_new y26 (.cells #[.slice none 0 0, .slice none 0 0] 45)
            have hlb : y26.heap.size < (y26.alloc (.cells #[.slice none 0 0, .slice none 0 0] 45)).heap.size := by rw [World.size_alloc]; exact Nat.lt_succ_self _
            have HNE := Lib.hid (show b5 ≠ y26.heap.size by have := HL5y26.out; omega)
            generalize y26.alloc (.cells #[.slice none 0 0, .slice none 0 0] 45) = y32 at *
            have HUxy32 := Lib.hid (HUxy26.out.trans hux)
            have HB5y32 : Hid (y32.heap[b5]? = some (Obj.cells #[.slice none 0 0, .slice none 0 0] 45 (0, 0))) := (Below.block hux b5 HL5y26.out).trans HB5y26.out
            have HL5y32 : Hid (b5 < y32.heap.size) := Nat.lt_of_lt_of_le HL5y26.out hux.size
            have HB4y32 := Lib.hid hnb
            have HL4y32 := Lib.hid hlb
            have HO4 : Hid (w3.heap.size ≤ y26.heap.size) := HUxy26.out.size
            clear hux hnb hlb
            generalize y26.heap.size = b4 at *
            refine hK.out _ _ (fun _ => ⟨HUxy32.out.cell HA03.out, HUxy32.out.cell HA13.out, HUxy32.out.cell HC03.out, HUxy32.out.cell HC13.out⟩) (fun hS => ?_)
            try simp only [List.setIfInBounds_toArray, List.set_cons_zero, List.set_cons_succ]
            refine anyT.step (i := 1) rfl (by kernel_rfl) (fun K' hK => ?_)
            go_simp
            refine (canonical_t S y32 _ t (HT3.out.keep (HUxy32.out.kept S)) HTE.out HZ.out).mono ?_
            rintro e y33 ⟨hux, v1, rfl, htx⟩
            have HUxy33 := Lib.hid (HUxy32.out.trans hux)
            have HB4y33 : Hid (y33.heap[b4]? = some (Obj.cells #[.slice none 0 0, .slice none 0 0] 45 (0, 0))) := (Below.block hux b4 HL4y32.out).trans HB4y32.out
            have HL4y33 : Hid (b4 < y33.heap.size) := Nat.lt_of_lt_of_le HL4y32.out hux.size
            have HB5y33 : Hid (y33.heap[b5]? = some (Obj.cells #[.slice none 0 0, .slice none 0 0] 45 (0, 0))) := (Below.block hux b5 HL5y32.out).trans HB5y32.out
            have HL5y33 : Hid (b5 < y33.heap.size) := Nat.lt_of_lt_of_le HL5y32.out hux.size
            have HV1y33 : Hid (TreeAt (fun b => b ∉ ([b5, b4] : List Nat)) y33 v1 (canT t)) := htx.sub fun b hb _ => by have := HL4y32.out; have := HL5y32.out; simp; try omega
            clear hux htx
            refine hK.out _ _ (fun _ => ⟨HUxy33.out.cell HA03.out, HUxy33.out.cell HA13.out, HUxy33.out.cell HC03.out, HUxy33.out.cell HC13.out⟩) (fun hS => ?_)
            try simp only [List.setIfInBounds_toArray, List.set_cons_zero, List.set_cons_succ]
            refine anyT.step (i := 3) rfl (by kernel_rfl) (fun K' hK => ?_)
            go_simp
            refine (canonical_t S y33 _ q (HQ3.out.keep (HUxy33.out.kept S)) HQE.out HZ2.out).mono ?_
            rintro e y34 ⟨hux, v3, rfl, htx⟩
            have HUxy34 := Lib.hid (HUxy33.out.trans hux)
            have HV1y34 := Lib.hid (HV1y33.out.keep (hux.kept _))
            have HB4y34 : Hid (y34.heap[b4]? = some (Obj.cells #[.slice none 0 0, .slice none 0 0] 45 (0, 0))) := (Below.block hux b4 HL4y33.out).trans HB4y33.out
            have HL4y34 : Hid (b4 < y34.heap.size) := Nat.lt_of_lt_of_le HL4y33.out hux.size
            have HB5y34 : Hid (y34.heap[b5]? = some (Obj.cells #[.slice none 0 0, .slice none 0 0] 45 (0, 0))) := (Below.block hux b5 HL5y33.out).trans HB5y33.out
            have HL5y34 : Hid (b5 < y34.heap.size) := Nat.lt_of_lt_of_le HL5y33.out hux.size
            have HV3y34 : Hid (TreeAt (fun b => b ∉ ([b5, b4] : List Nat)) y34 v3 (canT q)) := htx.sub fun b hb _ => by have := HL4y33.out; have := HL5y33.out; simp; try omega
            clear hux htx
            refine hK.out _ _ (fun _ => ⟨HUxy34.out.cell HA03.out, HUxy34.out.cell HA13.out, HUxy34.out.cell HC03.out, HUxy34.out.cell HC13.out⟩) (fun hS => ?_)
            try simp only [List.setIfInBounds_toArray, List.set_cons_zero, List.set_cons_succ]
            obtain ⟨P4, N4, rfl, hP4, hN4⟩ := HV1y34.out
            obtain ⟨P5, N5, rfl, hP5, hN5⟩ := HV3y34.out
            obtain ⟨pp4, pc4, rfl, _, _⟩ := SlAt.open hP4
            obtain ⟨np4, nc4, rfl, _, _⟩ := SlAt.open hN4
            obtain ⟨pp5, pc5, rfl, _, _⟩ := SlAt.open hP5
            obtain ⟨np5, nc5, rfl, _, _⟩ := SlAt.open hN5
            have hP4 : IntsAt _ y34 (.slice pp4 (canT t).ps.length pc4) (canT t).ps := hP4
            have hN4 : StrsAt _ y34 (.slice np4 (canT t).ns.length nc4) (canT t).ns := hN4
            have hP5 : IntsAt _ y34 (.slice pp5 (canT q).ps.length pc5) (canT q).ps := hP5
            have hN5 : StrsAt _ y34 (.slice np5 (canT q).ns.length nc5) (canT q).ns := hN5
            have HP4 := Lib.hid hP4
            have HN4 := Lib.hid hN4
            have HP5 := Lib.hid hP5
            have HN5 := Lib.hid hN5
            have hb4 := HB4y34.out
            have hb5 := HB5y34.out
            obtain ⟨g1, g2, g3, g4⟩ := boxed hb4
            obtain ⟨g5, g6, g7, g8⟩ := boxed hb5
            have HFIN := Lib.hid (same_fin (T := 45) HUxy34.out HB4y34.out HB5y34.out (by have := HNE.out; omega) HO4.out HO5.out HP4.out HN4.out HP5.out HN5.out (fun b hb => by simp at hb; omega) (fun b hb => by simp at hb; omega))
            have hne1 : b4 ≠ b5 := by have := HNE.out; omega
            have hne2 : b5 ≠ b4 := fun e => hne1 e.symm
            clear hP4 hN4 hP5 hN5 hb4 hb5
            refine anyT.step (i := 6) rfl (by kernel_rfl) (fun K' hK => ?_)
            go_simp
            refine hK.out _ _ (fun _ => ⟨HFIN.out.1.cell HA03.out, HFIN.out.1.cell HA13.out, HFIN.out.1.cell HC03.out, HFIN.out.1.cell HC13.out⟩) (fun hS => ?_)
            try simp only [List.setIfInBounds_toArray, List.set_cons_zero, List.set_cons_succ]
            obtain ⟨k5, k6, k7, k8⟩ := boxed HFIN.out.2.1
            refine anyT.step (i := 7) rfl (by kernel_rfl) (fun K' hK => ?_)
            go_simp
            refine hK.out _ _ (not_more (by kernel_rfl)) (fun hS => ?_)
            refine anyT.done (by kernel_rfl) ?_
            go_wp2_with fail
            go_meet
            case rel => exact ⟨b4, b5, _, _, _, _, rfl, rfl, HFIN.out.2.2⟩
      case rest =>
        obtain ⟨b4, b5, P4, N4, P5, N5, rfl, rfl, hu4, k1, k2, k3, k4, hP4, hN4, hP5, hN5⟩ := hcut
        obtain ⟨wx, rfl⟩ : ∃ wx : World, wx = wc := ⟨_, rfl⟩
        obtain ⟨pp4, pc4, rfl, _, _⟩ := SlAt.open hP4
        obtain ⟨np4, nc4, rfl, _, _⟩ := SlAt.open hN4
        obtain ⟨pp5, pc5, rfl, _, _⟩ := SlAt.open hP5
        obtain ⟨np5, nc5, rfl, _, _⟩ := SlAt.open hN5
        have hP4 : IntsAt Any wx (.slice pp4 (canT t).ps.length pc4) (canT t).ps := hP4
        have hN4 : StrsAt Any wx (.slice np4 (canT t).ns.length nc4) (canT t).ns := hN4
        have hP5 : IntsAt Any wx (.slice pp5 (canT q).ps.length pc5) (canT q).ps := hP5
        have hN5 : StrsAt Any wx (.slice np5 (canT q).ns.length nc5) (canT q).ns := hN5
        have HE1 := Lib.hid (equal_int_t Any Any wx _ _ (canT t).ps (canT q).ps hP4 hP5 HLT.out.1 HLQ.out.1)
        have HE2 : Hid (∀ n, Calls Tryz.prog 93 #[.slice np4 (canT t).ns.length nc4, .slice np5 (canT q).ns.length nc5] (wx.drewN n) (EqPost (wx.drewN n) (decide ((canT t).ns = (canT q).ns)))) := fun n => equal_str_t Any Any _ _ _ (canT t).ns (canT q).ns (StrsAt.keep hN4 ((Up.drewN wx n).kept _)) (StrsAt.keep hN5 ((Up.drewN wx n).kept _)) HLT.out.2 HLQ.out.2
        have HU4 := Lib.hid (HU.out.trans (HU3.out.trans hu4))
        have K1 := Lib.hid k1
        have K2 := Lib.hid k2
        have K3 := Lib.hid k3
        have K4 := Lib.hid k4
        have HX0 : Hid (smE t q = 0) := by unfold Hid; rw [HSE.out, if_neg (by simp [HTE.out, HQE.out])]
        have HXB : Hid (smB t q = (decide ((canT t).ps = (canT q).ps) && decide ((canT t).ns = (canT q).ns))) := by
          unfold Hid smB
          rw [HX0.out, decide_eq_true rfl, Bool.true_and, Bool.eq_iff_iff]
          simp only [Bool.and_eq_true, decide_eq_true_eq]
          constructor
          · intro e; rw [e]; exact ⟨rfl, rfl⟩
          · rintro ⟨e1, e2⟩
            generalize canT t = x at *
            generalize canT q = y at *
            cases x; cases y
            simp at e1 e2
            rw [e1, e2]
        clear hu4 hP4 hN4 hP5 hN5 a0 a1 c0 c1
        generalize decide ((canT t).ns = (canT q).ns) = dn at *
        generalize decide ((canT t).ps = (canT q).ps) = dp at *
        cases dp
        · go_wp2_with fail
          refine HE1.out.mono ?_
          rintro e w5 ⟨rfl, n5, rfl⟩
          go_wp2_with fail
          exact ⟨rfl, .tuple #[.bool false, .int .i64 0], by simp [results, Tryz.results31, go_sem], by rw [HX0.out, HXB.out]; rfl, HU4.out.trans (Up.drewN _ _)⟩
        · go_wp2_with fail
          refine HE1.out.mono ?_
          rintro e w5 ⟨rfl, n5, rfl⟩
          have hud := Up.drewN wx n5
          have k1 := hud.cell K1.out
          have k2 := hud.cell K2.out
          have k3 := hud.cell K3.out
          have k4 := hud.cell K4.out
          clear hud
          go_wp2_with fail
          refine (HE2.out n5).mono ?_
          rintro e w6 ⟨rfl, n6, rfl⟩
          go_wp2_with fail
          exact ⟨rfl, .tuple #[.bool dn, .int .i64 0], by simp [results, Tryz.results31, go_sem], by rw [HX0.out, HXB.out]; simp, HU4.out.trans (Up.drewN _ _)⟩
    · have he1 : (treeErr q != 0) = true := by simpa using he2
      have HX : Hid (smE t q = 1) := by unfold Hid; rw [HSE.out, if_pos (.inr he2)]
      clear he2
      generalize treeErr q = te at he1 ⊢
      go_wp2_with fail
      exact ⟨rfl, .tuple #[.bool false, .int .i64 1], by simp [results, Tryz.results31, go_sem], by rw [HX.out, HSB.out (by rw [HX.out]; decide)], HU.out.trans HU3.out⟩
  · have he1 : (treeErr t != 0) = true := by simpa using he
    have HX : Hid (smE t q = 1) := by unfold Hid; rw [HSE.out, if_pos (.inl he)]
    clear he
    generalize treeErr t = te at he1 ⊢
    go_wp2_with fail
    exact ⟨rfl, .tuple #[.bool false, .int .i64 1], by simp [results, Tryz.results31, go_sem], by rw [HX.out, HSB.out (by rw [HX.out]; decide)], HU.out.trans HU2.out⟩
end Go.Proofs.YtpjijbophjdgaaaGreat
