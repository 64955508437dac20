/- The contracts of layer 31's reference's limited and Reroot. The contract of layer 31's reference's Reroot. -/
import Derived.Test.YtpjijbophjdgaaaGreatQ46
import Derived.Test.YtpjijbophjdgaaaGreatQ24
import Derived.Test.YtpjijbophjdgaaaGreatQ19
import Derived.Test.YtpjijbophjdgaaaGreatQ37
namespace Go.Proofs.YtpjijbophjdgaaaGreat
open Go.RowKit Go.Deep
def lmC (T : Tre) : Int := if 64 < T.ps.length then 4 else 0
def lmT (T : Tre) : Tre := if 64 < T.ps.length then ⟨[], []⟩ else T
def LmPost (w : World) (T : Tre) (e : Ending) (w' : World) : Prop :=
  Up w w' ∧ ∃ p pc q qc, e = .returned (.tuple #[.agg #[.slice p (lmT T).ps.length pc, .slice q (lmT T).ns.length qc], .int .i64 (lmC T)]) ∧ TreeAt (fun b => w.heap.size ≤ b) w' (.agg #[.slice p (lmT T).ps.length pc, .slice q (lmT T).ns.length qc]) (lmT T)
set_option maxRecDepth 100000 in
set_option maxHeartbeats 4000000 in
theorem limited31_t (S : Nat → Prop) (w : World) (v : Value) (r : RT) (h : RAt S w r v) (hs : sizeR r ≤ 1000) : Calls Tryz.prog 100 #[v] w (LmPost w (flat (ordR (contrR r)))) := by
  obtain ⟨b, rfl⟩ := rat_ptr h
  have hal := Up.alloc w (.cells #[.slice none 0 0, .slice none 0 0] 45)
  have hsz : (w.alloc (.cells #[.slice none 0 0, .slice none 0 0] 45)).heap.size = w.heap.size + 1 := World.size_alloc _ _
  have hrb := box_at (w := w) (P := .slice none 0 0) (N := .slice none 0 0) (T := 45)
  have HCT := Lib.hid (contracted31_t S 1000 r hs (by omega) _ _ (RAt.keep (hal.kept S) r h))
  have HSC : Hid (sizeR (contrR r) ≤ 1000) := Nat.le_trans (size_contr r) hs
  have HU := Lib.hid hal
  have HSZ := Lib.hid hsz
  have HRB := Lib.hid hrb
  clear hal hsz hrb h
  go_enter Tryz.func100, Tryz.ntmps100
  go_wp2_with fail
  generalize w.alloc (.cells #[.slice none 0 0, .slice none 0 0] 45) = w1 at *
  refine HCT.out.mono ?_
  rintro e w2 ⟨hu2, v2, rfl, hr2⟩
  have HU2 := Lib.hid hu2
  have HOD := Lib.hid (ordered_t _ 1000 (contrR r) HSC.out (by omega) w2 _ hr2)
  clear hu2 hr2 HCT
  go_wp2_with fail
  refine HOD.out.mono ?_
  rintro e w3 ⟨hu3, v3, rfl, hr3⟩
  have HU3 := Lib.hid (HU2.out.trans hu3)
  have HNB := Lib.hid (number_t _ w3 _ (ordR (contrR r)) hr3 (by rw [sizeR_ord]; have := HSC.out; omega))
  clear hu3 hr3 HOD HU2
  go_wp2_with fail
  refine HNB.out.mono ?_
  rintro e w4 ⟨hu4, _, rfl, P4, N4, rfl, hP4, hN4⟩
  obtain ⟨T, hT⟩ : ∃ T, T = flat (ordR (contrR r)) := ⟨_, rfl⟩
  rw [← hT] at hP4 hN4
  have HTE := Lib.hid hT
  obtain ⟨pp, pc, rfl, -, -⟩ := SlAt.open hP4
  obtain ⟨np, nc, rfl, -, -⟩ := SlAt.open hN4
  have hP4 : IntsAt _ w4 (.slice pp T.ps.length pc) T.ps := hP4
  have hN4 : StrsAt _ w4 (.slice np T.ns.length nc) T.ns := hN4
  have hal := Up.alloc w4 (.cells #[.slice pp T.ps.length pc, .slice np T.ns.length nc] 45)
  have b0 := box2_0 w4 (.slice pp T.ps.length pc) (.slice np T.ns.length nc) 45
  have b1 := box2_1 w4 (.slice pp T.ps.length pc) (.slice np T.ns.length nc) 45
  have hu5 := HU3.out.trans (hu4.trans hal)
  have HRB5 := Lib.hid ((Below.block hu5 w.heap.size (by rw [HSZ.out]; omega)).trans HRB.out)
  have HU5 := Lib.hid (HU.out.trans hu5)
  have HS3 : Hid (w.heap.size + 1 ≤ w3.heap.size) := by have := HU3.out.size; rw [HSZ.out] at this; exact this
  have HT5 : Hid (TreeAt (fun b => w3.heap.size ≤ b) (w4.alloc (.cells #[.slice pp T.ps.length pc, .slice np T.ns.length nc] 45)) (.agg #[.slice pp T.ps.length pc, .slice np T.ns.length nc]) T) := TreeAt.keep ⟨_, _, rfl, hP4, hN4⟩ (hal.kept _)
  obtain ⟨q0, q1, q2, q3⟩ := boxed HRB5.out
  clear hal hu4 hu5 hP4 hN4 HNB HSC HU HU3 HRB HSZ hT hs
  by_cases h64 : 64 < T.ps.length
  · have d1 : (64 : Int) < (T.ps.length : Int) := by omega
    have HC : Hid (lmC T = 4) := by unfold Hid lmC; rw [if_pos h64]
    have HT : Hid (lmT T = ⟨[], []⟩) := by unfold Hid lmT; rw [if_pos h64]
    have HST := Lib.hid (store_two (w := w) (p := .slice none 0 0) (q := .slice none 0 0) HRB5.out (Nat.le_refl _) HU5.out)
    go_wp2_with fail
    obtain ⟨s1, s2, s3, s4⟩ := HST.out
    refine ⟨rfl, .tuple #[.agg #[.slice none 0 0, .slice none 0 0], .int .i64 4], by simp [results, Tryz.results100, go_sem, s2, s3], ?_⟩
    rw [← HTE.out]
    unfold LmPost
    rw [HC.out, HT.out]
    exact ⟨s1, none, 0, none, 0, rfl, _, _, rfl, ⟨none, 0, rfl, Nat.le_refl _, .inl rfl⟩, ⟨none, 0, rfl, Nat.le_refl _, .inl rfl⟩⟩
  · have d1 : ¬ (64 : Int) < (T.ps.length : Int) := by omega
    have HC : Hid (lmC T = 0) := by unfold Hid lmC; rw [if_neg h64]
    have HT : Hid (lmT T = T) := by unfold Hid lmT; rw [if_neg h64]
    have HST := Lib.hid (store_two (w := w) (p := .slice pp T.ps.length pc) (q := .slice np T.ns.length nc) HRB5.out (Nat.le_refl _) HU5.out)
    go_wp2_with fail
    obtain ⟨s1, s2, s3, s4⟩ := HST.out
    refine ⟨rfl, .tuple #[.agg #[.slice pp T.ps.length pc, .slice np T.ns.length nc], .int .i64 0], by simp [results, Tryz.results100, go_sem, s2, s3], ?_⟩
    rw [← HTE.out]
    unfold LmPost
    rw [HC.out, HT.out]
    have hs3 := HS3.out
    exact ⟨s1, pp, pc, np, nc, rfl, (TreeAt.keep HT5.out fun b hb _ => s4 b (by have : w3.heap.size ≤ b := hb; omega)).sub fun b hb _ => by have : w3.heap.size ≤ b := hb; omega⟩
end Go.Proofs.YtpjijbophjdgaaaGreat
namespace Go.Proofs.YtpjijbophjdgaaaGreat
open Go.RowKit Go.Deep
theorem rr_fin {w W : World} {B : Nat} {t T : Tre} {leaf : Int} {p q : Value} (hB : w.heap.size ≤ B) (hu : Up w W) (hb : W.heap[B]? = some (Obj.cells #[.slice none 0 0, .slice none 0 0] 45 (0, 0))) (h0 : rrErr t leaf = 0) (hT : T = rrT t leaf) (h : TreeAt (fun b => b ≠ B) W (.agg #[p, q]) (lmT T)) :
    ((W.setCell ⟨B, 0, none⟩ p).setCell ⟨B, 1, none⟩ q).cell? ⟨B, 0, none⟩ = some p ∧ ((W.setCell ⟨B, 0, none⟩ p).setCell ⟨B, 1, none⟩ q).cell? ⟨B, 1, none⟩ = some q ∧
      RrPost w t leaf (.returned (.tuple #[.agg #[p, q], .int .i64 (lmC T)])) ((W.setCell ⟨B, 0, none⟩ p).setCell ⟨B, 1, none⟩ q) := by
  obtain ⟨s1, s2, s3, s4⟩ := store_two (p := p) (q := q) hb hB hu
  have e1 : rrCode t leaf = lmC T := by unfold rrCode lmC; rw [if_neg (by simp [h0]), hT]
  have e2 : rrRes t leaf = lmT T := by
    unfold rrRes
    rw [e1, hT]
    unfold lmC lmT
    by_cases c : 64 < (rrT t leaf).ps.length
    · rw [if_pos c, if_pos c, if_pos (by decide)]
    · rw [if_neg c, if_neg c, if_neg (by decide)]
  refine ⟨s2, s3, s1, _, by rw [e1], ?_⟩
  rw [e2]
  exact (TreeAt.keep h fun b hb _ => s4 b hb).sub fun _ _ _ => trivial
theorem leaf_raw (w : World) (nm : ByteArray) : RAt (fun b => w.heap.size ≤ b) (w.alloc (.cells #[.string nm, .slice none 0 0] 123)) (leafOf nm) (.pointer (some ⟨w.heap.size, 0, none⟩)) := (Wip.start w (Nat.le_refl _) nm).done
theorem urR_some {t : Tre} {leaf : Nat} {r : RT} (h0 : leaf ≠ 0) (h : awR t t.ps.length (gi t.ps leaf).toNat leaf = some r) : urR t leaf = .node ByteArray.empty [leafOf (gs t.ns leaf), r] := by
  unfold urR
  rw [if_neg h0, h]
theorem urR_none {t : Tre} {leaf : Nat} (h : leaf = 0 ∨ awR t t.ps.length (gi t.ps leaf).toNat leaf = none) : urR t leaf = leafOf (gs t.ns leaf) := by
  unfold urR
  by_cases h0 : leaf = 0
  · rw [if_pos h0]
  · rw [if_neg h0, h.resolve_left h0]
theorem two_node {S : Nat → Prop} {w : World} {a b : RT} {u v : Value} (ha : RAt S w a u) (hb : RAt S w b v) (hS : ∀ c, w.heap.size ≤ c → S c) :
    RAt S ((w.alloc (.cells #[u, v] 120)).alloc (.cells #[.string ByteArray.empty, .slice (some ⟨w.heap.size, 0, none⟩) 2 2] 123)) (.node ByteArray.empty [a, b]) (.pointer (some ⟨w.heap.size + 1, 0, none⟩)) := by
  have hu := (Up.alloc w (.cells #[u, v] 120)).trans (Up.alloc _ (.cells #[.string ByteArray.empty, .slice (some ⟨w.heap.size, 0, none⟩) 2 2] 123))
  unfold RAt
  refine ⟨w.heap.size + 1, .slice (some ⟨w.heap.size, 0, none⟩) 2 2, [u, v], rfl, hS _ (Nat.le_succ _), ?_, ?_, ?_⟩
  · have := World.alloc_heap_new (w.alloc (.cells #[u, v] 120)) (.cells #[.string ByteArray.empty, .slice (some ⟨w.heap.size, 0, none⟩) 2 2] 123)
    rw [World.size_alloc] at this
    exact this
  · have c0 := (Up.alloc _ (.cells #[.string ByteArray.empty, .slice (some ⟨w.heap.size, 0, none⟩) 2 2] 123)).cell (box2_0 w u v 120)
    have c1 := (Up.alloc _ (.cells #[.string ByteArray.empty, .slice (some ⟨w.heap.size, 0, none⟩) 2 2] 123)).cell (box2_1 w u v 120)
    refine ⟨_, 2, rfl, Nat.le_refl _, .inr ⟨w.heap.size, 0, rfl, hS _ (Nat.le_refl _), fun k hk => ?_⟩⟩
    have hk : k < 2 := hk
    have : k = 0 ∨ k = 1 := by omega
    rcases this with rfl | rfl
    · exact c0
    · exact c1
  · unfold RsAt
    refine ⟨u, [v], rfl, RAt.keep (hu.kept S) a ha, ?_⟩
    unfold RsAt
    exact ⟨v, [], rfl, RAt.keep (hu.kept S) b hb, by unfold RsAt; rfl⟩
set_option maxRecDepth 100000 in
set_option maxHeartbeats 8000000 in
theorem reroot31R_t (S : Nat → Prop) (w : World) (v : Value) (t : Tre) (leaf : Int) (hT : TreeAt S w v t) (hp : t.ps.length ≤ 1000000) (hn : t.ns.length ≤ 1000000) (hz : ∀ k, (gs t.ns k).size ≤ 70000) :
    Calls Tryz.prog 34 #[v, .int .i64 leaf] w (RrPost w t leaf) := by
  obtain ⟨P, N, rfl, hP, hN⟩ := hT
  obtain ⟨pp, pc, rfl, -, -⟩ := SlAt.open hP
  obtain ⟨pn, pm, rfl, -, -⟩ := SlAt.open hN
  have hP : IntsAt S w (.slice pp t.ps.length pc) t.ps := hP
  have hN : StrsAt S w (.slice pn t.ns.length pm) t.ns := hN
  have ha := Up.alloc w (.cells #[.slice pp t.ps.length pc, .slice pn t.ns.length pm] 45)
  have hc := Up.alloc (w.alloc (.cells #[.slice pp t.ps.length pc, .slice pn t.ns.length pm] 45)) (.cells #[.slice none 0 0, .slice none 0 0] 45)
  have HC0 := Lib.hid (hc.cell (box2_0 w (.slice pp t.ps.length pc) (.slice pn t.ns.length pm) 45))
  have HC1 := Lib.hid (hc.cell (box2_1 w (.slice pp t.ps.length pc) (.slice pn t.ns.length pm) 45))
  have hrb := box_at (w := w.alloc (.cells #[.slice pp t.ps.length pc, .slice pn t.ns.length pm] 45)) (P := .slice none 0 0) (N := .slice none 0 0) (T := 45)
  have hsz : ((w.alloc (.cells #[.slice pp t.ps.length pc, .slice pn t.ns.length pm] 45)).alloc (.cells #[.slice none 0 0, .slice none 0 0] 45)).heap.size = w.heap.size + 2 := by simp
  rw [World.size_alloc] at hrb
  have hu := ha.trans hc
  have HU := Lib.hid hu
  have HT1 : Hid (TreeAt S _ _ t) := TreeAt.keep ⟨_, _, rfl, hP, hN⟩ (hu.kept S)
  have HN1 := Lib.hid (StrsAt.keep hN (hu.kept S))
  have HP1 := Lib.hid (IntsAt.keep hP (hu.kept S))
  have HRB := Lib.hid hrb
  have HSZ := Lib.hid hsz
  have HRE : Hid (rrErr t leaf = if treeErr t ≠ 0 then 1 else if leaf < 0 ∨ (t.ps.length : Int) ≤ leaf then 2 else if (gs t.ns leaf.toNat).size = 0 then 8 else 0) := rfl
  have hc0 := HC0.out
  have hc1 := HC1.out
  have HCK := Lib.hid (checkR_t S _ _ t HT1.out hp hn hz)
  clear ha hc hu hP hN hrb hsz hz
  go_enter Tryz.func34, Tryz.ntmps34
  go_wp2_with fail
  generalize (w.alloc (.cells #[.slice pp t.ps.length pc, .slice pn t.ns.length pm] 45)).alloc (.cells #[.slice none 0 0, .slice none 0 0] 45) = w1 at *
  refine HCK.out.mono ?_
  rintro e w2 ⟨rfl, hb2⟩
  have hu2 : Up w1 w2 := hb2
  have HU2 := Lib.hid (HU.out.trans hu2)
  have hc0 := hu2.cell HC0.out
  have hc1 := hu2.cell HC1.out
  have HRB2 := Lib.hid ((Below.block hu2 (w.heap.size + 1) (by rw [HSZ.out]; omega)).trans HRB.out)
  have HT2 := Lib.hid (HT1.out.keep (hu2.kept S))
  have HN2 := Lib.hid (HN1.out.keep (hu2.kept S))
  have HP2 := Lib.hid (HP1.out.keep (hu2.kept S))
  have HS2 : Hid (w.heap.size + 2 ≤ w2.heap.size) := by have := hu2.size; rw [HSZ.out] at this; exact this
  obtain ⟨q0, q1, q2, q3⟩ := boxed HRB2.out
  clear hb2 hu2 HCK HT1 HN1 HP1 HU HRB HSZ HC0 HC1
  by_cases he : treeErr t = 0
  · obtain ⟨-, hp64, hnl, hok, -⟩ := treeErr_zero he
    have HTE := Lib.hid he
    have HOK := Lib.hid hok
    have H64 := Lib.hid (And.intro hp64 hnl)
    have HX1 : Hid (rrErr t leaf = if leaf < 0 ∨ (t.ps.length : Int) ≤ leaf then 2 else if (gs t.ns leaf.toNat).size = 0 then 8 else 0) := by unfold Hid; rw [HRE.out, if_neg (by simp [he])]
    rw [he]
    clear he hok hp64 hp hn HRE
    by_cases c0 : leaf < 0
    · have HER := Lib.hid (rr_err (Nat.le_succ _) HU2.out HRB2.out (show rrErr t leaf = 2 by rw [HX1.out, if_pos (.inl c0)]) (by decide))
      clear hnl
      go_wp2_with fail
      obtain ⟨s1, s2, s3⟩ := HER.out
      exact ⟨rfl, .tuple #[.agg #[.slice none 0 0, .slice none 0 0], .int .i64 2], by simp [results, Tryz.results34, go_sem, s1, s2], s3⟩
    · by_cases c1 : (t.ps.length : Int) ≤ leaf
      · have HER := Lib.hid (rr_err (Nat.le_succ _) HU2.out HRB2.out (show rrErr t leaf = 2 by rw [HX1.out, if_pos (.inr c1)]) (by decide))
        clear hnl
        go_wp2_with fail
        obtain ⟨s1, s2, s3⟩ := HER.out
        exact ⟨rfl, .tuple #[.agg #[.slice none 0 0, .slice none 0 0], .int .i64 2], by simp [results, Tryz.results34, go_sem, s1, s2], s3⟩
      · obtain ⟨l, rfl⟩ := Int.eq_ofNat_of_zero_le (show 0 ≤ leaf by omega)
        have hlt : l < t.ps.length := by omega
        have HX2 : Hid (rrErr t (l : Int) = if (gs t.ns l).size = 0 then 8 else 0) := by unfold Hid; rw [HX1.out, if_neg (by omega), Int.toNat_natCast]
        obtain ⟨nb, no, rfl, hnc⟩ := strs_get HN2.out (show l < t.ns.length by omega)
        have i1 : (0 : Int) ≤ (l : Int) := by omega
        have i2 : (l : Int) < (t.ps.length : Int) := by omega
        have i3 : (l : Int) < (t.ns.length : Int) := by omega
        have m1 : ¬ t.ps.length ≤ l := by omega
        have hnil := toList_nil (gs t.ns l)
        have HLT := Lib.hid hlt
        clear c0 c1 hnl hlt
        by_cases g0 : (gs t.ns l).size = 0
        · have hg1 : (gs t.ns l).toList = [] := hnil.2 g0
          have HER := Lib.hid (rr_err (Nat.le_succ _) HU2.out HRB2.out (show rrErr t (l : Int) = 8 by rw [HX2.out, if_pos g0]) (by decide))
          clear g0 hnil
          go_wp2_with fail
          obtain ⟨s1, s2, s3⟩ := HER.out
          exact ⟨rfl, .tuple #[.agg #[.slice none 0 0, .slice none 0 0], .int .i64 8], by simp [results, Tryz.results34, go_sem, s1, s2], s3⟩
        · have hg1 : ((gs t.ns l).toList == []) = false := by
            rw [Bool.eq_false_iff]; intro e; exact g0 (hnil.1 (by simpa using e))
          have HE0 : Hid (rrErr t (l : Int) = 0) := by unfold Hid; rw [HX2.out, if_neg g0]
          have HLO : Hid (LeafOk t l) := ⟨HTE.out, HLT.out, g0⟩
          have HLF := Lib.hid (leaf_raw w2 (gs t.ns l))
          have hal3 := Up.alloc w2 (.cells #[.string (gs t.ns l), .slice none 0 0] 123)
          have HU3 := Lib.hid hal3
          have hc0 := hal3.cell hc0
          have hc1 := hal3.cell hc1
          have HRB3 := Lib.hid ((Below.block hal3 (w.heap.size + 1) (by have := HS2.out; omega)).trans HRB2.out)
          have HS3 : Hid ((w2.alloc (.cells #[.string (gs t.ns l), .slice none 0 0] 123)).heap.size = w2.heap.size + 1) := World.size_alloc _ _
          clear g0 hnil hal3 q0 q1 q2 q3
          by_cases l0 : l = 0
          · have t0 : ((l : Int) == 0) = true := beq_iff_eq.2 (by omega)
            have HTT : Hid (flat (ordR (contrR (leafOf (gs t.ns l)))) = rrT t (l : Int)) := by
              unfold Hid rrT
              rw [Int.toNat_natCast, ← urR_tree HLO.out, urR_none (.inl l0)]
            have HLM := Lib.hid (limited31_t _ _ _ _ HLF.out (by rw [leafOf, sizeR, sizeRs]; omega))
            clear l0
            go_wp2_with fail
            generalize w2.alloc (.cells #[.string (gs t.ns l), .slice none 0 0] 123) = w3 at *
            generalize flat (ordR (contrR (leafOf (gs t.ns l)))) = T2 at *
            refine HLM.out.mono ?_
            rintro e w6 ⟨hu6, lp, lpc, lq, lqc, rfl, hT6⟩
            have HU6 := Lib.hid ((HU2.out.trans HU3.out).trans hu6)
            have HRB6 := Lib.hid ((Below.block hu6 (w.heap.size + 1) (by have := HU3.out.size; have := HS2.out; omega)).trans (HRB3.out))
            have HRT := Lib.hid (rr_fin (w := w) (B := w.heap.size + 1) (Nat.le_succ _) HU6.out HRB6.out HE0.out (HTT.out) (hT6.sub fun b hb _ => by have := ((HU3.out)).size; have := HS2.out; omega))
            obtain ⟨q0, q1, q2, q3⟩ := boxed HRB6.out
            clear hu6 hT6 HLM
            generalize (lmT T2).ps.length = lx at *
            generalize (lmT T2).ns.length = ly at *
            generalize lmC T2 = lc at *
            go_wp2_with fail
            obtain ⟨s1, s2, s3⟩ := HRT.out
            exact ⟨rfl, .tuple #[.agg #[.slice lp lx lpc, .slice lq ly lqc], .int .i64 lc], by simp [results, Tryz.results34, go_sem, s1, s2], s3⟩
          · have t0 : ((l : Int) == 0) = false := beq_eq_false_iff_ne.2 (by omega)
            have hpar := pOkB_par HOK.out HLT.out (by omega)
            obtain ⟨q, hq⟩ : ∃ q : Nat, gi t.ps l = q := ⟨(gi t.ps l).toNat, by omega⟩
            obtain ⟨ib, io, rfl, hic⟩ := ints_get HP2.out HLT.out
            rw [hq] at hic
            have HQ : Hid ((gi t.ps l).toNat = q) := by unfold Hid; rw [hq, Int.toNat_natCast]
            have HAW := Lib.hid (fun W (hW : Up w2 W) => away31_t S t HTE.out t.ps.length q l (by have := HLT.out; omega) (by have := HLT.out; omega) W _ (HT2.out.keep (hW.kept S)))
            have HIC := Lib.hid (HU3.out.cell hic)
            have HB0 := Lib.hid hc0
            have HB1 := Lib.hid hc1
            have HL0 := Lib.hid l0
            clear l0 hpar hq
            cases ho : awR t t.ps.length q l with
            | none =>
              have HCB : Hid (∀ W, Up w2 W → Calls Tryz.prog 101 #[.agg #[.slice (some ⟨ib, io, none⟩) t.ps.length pc, .slice (some ⟨nb, no, none⟩) t.ns.length pm], .int .i64 (q : Nat), .int .i64 (l : Nat)] W fun e w' => Up W w' ∧ e = .returned (.pointer none)) := fun W hW => (HAW.out W hW).mono (by
                rintro e w' ⟨h1, h2⟩
                rw [ho] at h2
                exact ⟨h1, h2⟩)
              have HTT : Hid (flat (ordR (contrR (leafOf (gs t.ns l)))) = rrT t (l : Int)) := by
                unfold Hid rrT
                rw [Int.toNat_natCast, ← urR_tree HLO.out, urR_none (.inr (by rw [HQ.out]; exact ho))]
              clear HAW ho
              go_wp2_with fail
              generalize w2.alloc (.cells #[.string (gs t.ns l), .slice none 0 0] 123) = w3 at *
              have hup : Hid (Up w3 (w3.drewN 1)) := Up.drewN w3 1
              go_region_held3 (fun w' => Hid (Up w3 w') ∧ w'.cell? ⟨w.heap.size, 0, none⟩ = some (.slice (some ⟨ib, io, none⟩) t.ps.length pc) ∧ w'.cell? ⟨w.heap.size, 1, none⟩ = some (.slice (some ⟨nb, no, none⟩) t.ns.length pm) ∧ w'.cell? ⟨ib, io + l, none⟩ = some (.int .i64 (q : Nat))) (exact ⟨hup, hup.out.cell HB0.out, hup.out.cell HB1.out, hup.out.cell HIC.out⟩) (first
                | (go_at_call 101; refine (HCB.out _ (HU3.out.trans hup.out)).mono ?_; rintro e w5 ⟨hu5, rfl⟩; have hup : Hid (Up w3 w5) := hup.out.trans hu5; clear hu5))
              have HLM := Lib.hid (limited31_t _ _ _ _ (RAt.keep (hup.out.kept _) _ HLF.out) (by rw [leafOf, sizeR, sizeRs]; omega))
              have HUW5 := Lib.hid (HU3.out.trans hup.out)
              have HRB5 := Lib.hid ((Below.block hup.out (w.heap.size + 1) (by rw [HS3.out]; have := HS2.out; omega)).trans HRB3.out)
              generalize flat (ordR (contrR (leafOf (gs t.ns l)))) = T2 at *
              go_wp2_with fail
              refine HLM.out.mono ?_
              rintro e w6 ⟨hu6, lp, lpc, lq, lqc, rfl, hT6⟩
              have HU6 := Lib.hid ((HU2.out.trans HUW5.out).trans hu6)
              have HRB6 := Lib.hid ((Below.block hu6 (w.heap.size + 1) (by have := HUW5.out.size; have := HS2.out; omega)).trans (HRB5.out))
              have HRT := Lib.hid (rr_fin (w := w) (B := w.heap.size + 1) (Nat.le_succ _) HU6.out HRB6.out HE0.out (HTT.out) (hT6.sub fun b hb _ => by have := ((HUW5.out)).size; have := HS2.out; omega))
              obtain ⟨q0, q1, q2, q3⟩ := boxed HRB6.out
              clear hu6 hT6 HLM
              generalize (lmT T2).ps.length = lx at *
              generalize (lmT T2).ns.length = ly at *
              generalize lmC T2 = lc at *
              go_wp2_with fail
              obtain ⟨s1, s2, s3⟩ := HRT.out
              exact ⟨rfl, .tuple #[.agg #[.slice lp lx lpc, .slice lq ly lqc], .int .i64 lc], by simp [results, Tryz.results34, go_sem, s1, s2], s3⟩
            | some r =>
              have HCB : Hid (∀ W, Up w2 W → Calls Tryz.prog 101 #[.agg #[.slice (some ⟨ib, io, none⟩) t.ps.length pc, .slice (some ⟨nb, no, none⟩) t.ns.length pm], .int .i64 (q : Nat), .int .i64 (l : Nat)] W fun e w' => Up W w' ∧ ∃ b, e = .returned (.pointer (some ⟨b, 0, none⟩)) ∧ RAt (fun b => W.heap.size ≤ b) w' r (.pointer (some ⟨b, 0, none⟩))) := fun W hW => (HAW.out W hW).mono (by
                rintro e w' ⟨h1, h2⟩
                rw [ho] at h2
                exact ⟨h1, h2⟩)
              have HUR : Hid (urR t l = .node ByteArray.empty [leafOf (gs t.ns l), r]) := urR_some HL0.out (by rw [HQ.out]; exact ho)
              have HTT : Hid (flat (ordR (contrR (.node ByteArray.empty [leafOf (gs t.ns l), r]))) = rrT t (l : Int)) := by
                unfold Hid rrT
                rw [Int.toNat_natCast, ← urR_tree HLO.out, HUR.out]
              have HSR : Hid (sizeR (.node ByteArray.empty [leafOf (gs t.ns l), r]) ≤ 1000) := by
                unfold Hid
                rw [← HUR.out]
                exact urR_size HLO.out
              clear HAW ho
              go_wp2_with fail
              generalize w2.alloc (.cells #[.string (gs t.ns l), .slice none 0 0] 123) = w3 at *
              have hup : Hid (Up w3 (w3.drewN 1)) := Up.drewN w3 1
              go_region_held3 (fun w' => Hid (Up w3 w') ∧ w'.cell? ⟨w.heap.size, 0, none⟩ = some (.slice (some ⟨ib, io, none⟩) t.ps.length pc) ∧ w'.cell? ⟨w.heap.size, 1, none⟩ = some (.slice (some ⟨nb, no, none⟩) t.ns.length pm) ∧ w'.cell? ⟨ib, io + l, none⟩ = some (.int .i64 (q : Nat))) (exact ⟨hup, hup.out.cell HB0.out, hup.out.cell HB1.out, hup.out.cell HIC.out⟩) (first
                | (go_at_call 101; have hz5 := (HU3.out.trans hup.out).size; refine (HCB.out _ (HU3.out.trans hup.out)).mono ?_; rintro e w5 ⟨hu5, b5, rfl, hr5⟩; have hup : Hid (Up w3 w5) := hup.out.trans hu5; have HR5 : Hid (RAt (fun b => w2.heap.size ≤ b) w5 r (.pointer (some ⟨b5, 0, none⟩))) := RAt.sub (fun b hb _ => Nat.le_trans hz5 hb) _ hr5; clear hu5 hr5 hz5))
              have HTN := Lib.hid (two_node (RAt.keep (hup.out.kept _) _ HLF.out) HR5.out (fun c hc => by have := (HU3.out.trans hup.out).size; have : w5.heap.size ≤ c := hc; omega))
              have HLM := Lib.hid (limited31_t _ _ _ _ HTN.out HSR.out)
              have hal6 := (Up.alloc w5 (.cells #[.pointer (some ⟨w2.heap.size, 0, none⟩), .pointer (some ⟨b5, 0, none⟩)] 120)).trans (Up.alloc _ (.cells #[.string ByteArray.empty, .slice (some ⟨w5.heap.size, 0, none⟩) 2 2] 123))
              have HUW5 := Lib.hid ((HU3.out.trans hup.out).trans hal6)
              have HRB5 := Lib.hid ((Below.block (hup.out.trans hal6) (w.heap.size + 1) (by rw [HS3.out]; have := HS2.out; omega)).trans HRB3.out)
              clear hal6
              generalize flat (ordR (contrR (.node ByteArray.empty [leafOf (gs t.ns l), r]))) = T2 at *
              go_wp2_with fail
              refine HLM.out.mono ?_
              rintro e w6 ⟨hu6, lp, lpc, lq, lqc, rfl, hT6⟩
              have HU6 := Lib.hid ((HU2.out.trans HUW5.out).trans hu6)
              have HRB6 := Lib.hid ((Below.block hu6 (w.heap.size + 1) (by have := HUW5.out.size; have := HS2.out; omega)).trans (HRB5.out))
              have HRT := Lib.hid (rr_fin (w := w) (B := w.heap.size + 1) (Nat.le_succ _) HU6.out HRB6.out HE0.out (HTT.out) (hT6.sub fun b hb _ => by have := ((HUW5.out)).size; have := HS2.out; omega))
              obtain ⟨q0, q1, q2, q3⟩ := boxed HRB6.out
              clear hu6 hT6 HLM
              generalize (lmT T2).ps.length = lx at *
              generalize (lmT T2).ns.length = ly at *
              generalize lmC T2 = lc at *
              go_wp2_with fail
              obtain ⟨s1, s2, s3⟩ := HRT.out
              exact ⟨rfl, .tuple #[.agg #[.slice lp lx lpc, .slice lq ly lqc], .int .i64 lc], by simp [results, Tryz.results34, go_sem, s1, s2], s3⟩
  · have he1 : (treeErr t != 0) = true := by simpa using he
    have HER := Lib.hid (rr_err (Nat.le_succ _) HU2.out HRB2.out (show rrErr t leaf = 1 by rw [HRE.out, if_pos he]) (by decide))
    clear he
    generalize treeErr t = te at he1 ⊢
    go_wp2_with fail
    obtain ⟨s1, s2, s3⟩ := HER.out
    exact ⟨rfl, .tuple #[.agg #[.slice none 0 0, .slice none 0 0], .int .i64 1], by simp [results, Tryz.results34, go_sem, s1, s2], s3⟩
end Go.Proofs.YtpjijbophjdgaaaGreat
