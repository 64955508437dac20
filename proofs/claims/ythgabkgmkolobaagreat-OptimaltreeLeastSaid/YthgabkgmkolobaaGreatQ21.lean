/- The contract of layer 31's reference's Check. The walk of sharederror.Tree. The contract .. -/
import Derived.Test.YthgabkgmkolobaaGreatQ1
import Derived.Test.YthgabkgmkolobaaGreatQ17
import Derived.Test.YthgabkgmkolobaaGreatQ19
import Derived.Deep.CutRange
import Derived.Test.YthgabkgmkolobaaGreatQ15
import Derived.Test.YthgabkgmkolobaaGreatQ6
import Derived.Test.YthgabkgmkolobaaGreatQ5
import Derived.Test.YthgabkgmkolobaaGreatQ16
import Derived.Test.YthgabkgmkolobaaGreatQ14
import Derived.Test.YthgabkgmkolobaaGreatQ20
set_option maxRecDepth 100000
namespace Go.Proofs.YthgabkgmkolobaaGreat
section
open Go.RowKit Go.Deep
set_option maxHeartbeats 1600000 in
theorem r5 (S : Nat → Prop) (w : World) (v : Value) (t : ay) (h : aA S w v t) (hp : t.ps.length ≤ 1000000) (hn : t.ns.length ≤ 1000000) (hz : ∀ k, (gs t.ns k).size ≤ 70000) :
    Calls Tryz.prog 33 #[v] w fun e w' => e = .returned (.int .i64 (az t)) ∧ Below w.heap.size w w' := by
  obtain ⟨P, N, rfl, hP, hN⟩ := h
  obtain ⟨ps, ns⟩ := t
  simp only at *
  have dr : az ⟨ps, ns⟩ = if ps.length = 0 then 5 else if 64 < ps.length then 4 else if ns.length ≠ ps.length then 9 else if fZ ps then firstNZ (iu ps ns) ps.length else 2 := rfl
  have HF := aa dr
  clear dr
  have gL : Below w.heap.size w (w.alloc (.cells #[P, N] 39)) := (Below.refl _ _).alloc (Nat.le_refl _) _
  have hT0 : aA S (w.alloc (.cells #[P, N] 39)) (.agg #[P, N]) ⟨ps, ns⟩ := aA.keep ⟨P, N, rfl, hP, hN⟩ (Kept.below gL)
  have NY := hP.keep (Kept.below gL)
  have NZ := hN.keep (Kept.below gL)
  clear hP hN
  obtain ⟨p, cap, rfl, hcap, HP⟩ := aB.open NY
  obtain ⟨q, dw, rfl, sX, HN⟩ := aB.open NZ
  have KP := aa HP
  have F2 := aa HN
  have uI := aa hT0
  have dR := aa gL
  clear NY NZ HP HN hT0 gL
  by_cases h0 : ps.length = 0
  · have HX : Hid (ps.length = 0) := h0
    have h0' : ((ps.length : Int) == 0) = true := by simp [h0]
    clear h0
    go_enter Tryz.func33, Tryz.ntmps33
    go_wp2_with fail
    go_ret
    exact ⟨aI (by rw [HF.out, if_pos HX.out]), dR.out⟩
  have h0' : ((ps.length : Int) == 0) = false := by simpa using h0
  by_cases h1 : 64 < ps.length
  · go_enter Tryz.func33, Tryz.ntmps33
    go_wp2_with fail
    go_ret
    exact ⟨aI (by rw [HF.out, if_neg h0, if_pos h1]), dR.out⟩
  by_cases h2 : ns.length = ps.length
  · have DL : ((ns.length : Int) != ps.length) = false := by simp [h2]
    have H2 := aa h2
    clear h2
    have jN : (w.alloc (.cells #[.slice p ps.length cap, .slice q ns.length dw] 39)).cell? ⟨w.heap.size, 0, none⟩ = some (.slice p ps.length cap) := by simp [World.cell?_alloc_new]
    have uk : (w.alloc (.cells #[.slice p ps.length cap, .slice q ns.length dw] 39)).cell? ⟨w.heap.size, 1, none⟩ = some (.slice q ns.length dw) := by simp [World.cell?_alloc_new]
    have hct : (w.alloc (.cells #[.slice p ps.length cap, .slice q ns.length dw] 39)).rowIs w.heap.size 39 2 (fun i => if i = 0 then .slice p ps.length cap else .slice q ns.length dw) :=
      World.rowIs_alloc w _ _ _ (fun i hi => by match i, hi with | 0, _ => rfl | 1, _ => rfl)
    have hsz : (w.alloc (.cells #[.slice p ps.length cap, .slice q ns.length dw] 39)).heap.size = w.heap.size + 1 := by simp
    have HS := aa hsz
    have KQ := aa jN
    have KR := aa uk
    have Aa := aa hct
    clear hsz uk hct
    go_enter Tryz.func33, Tryz.ntmps33
    go_wp2_with fail
    generalize hw0 : w.alloc (.cells #[.slice p ps.length cap, .slice q ns.length dw] 39) = w0 at *
    clear hw0
    go_loop [3] (fun i => ∃ k : Nat, k ≤ ps.length ∧ i = .int .i64 k ∧ Hid (∀ j, j < k → jb j (gi ps j) = true)) (fun i => ps.length - (intOf i).toNat)
    case atStart => exact ⟨0, Nat.zero_le _, rfl, fun j hj => absurd hj (Nat.not_lt_zero _)⟩
    case round =>
      obtain ⟨k, hk, rfl, hd⟩ := hrel
      by_cases hlt : k < ps.length
      · obtain ⟨b, off, rfl, hc⟩ := KP.out k hlt
        clear KP F2 uI
        generalize hpk : gi ps k = x at *
        have HX := aa hpk
        clear hpk
        by_cases hg : 0 < k ∧ 0 ≤ x ∧ x < k
        · obtain ⟨g1, g2, g3⟩ := hg
          go_wp2_with fail
          go_round
          case rel => exact ⟨k + 1, by omega, by go_num, fun j hj => if e : j = k then by subst e; rw [HX.out]; unfold jb; rw [if_neg (by omega)]; simp; omega else hd.out j (by omega)⟩
          case measure => simp [intOf]; omega
        · by_cases F3 : k = 0 ∧ x = -1
          · obtain ⟨rfl, rfl⟩ := F3
            have hc' : w0.cell? ⟨b, off, none⟩ = some (.int .i64 (-1)) := by simpa using hc
            go_wp2_with fail
            go_round
            case rel => exact ⟨1, by omega, by go_num, fun j hj => by obtain rfl : j = 0 := by omega
                                                                      rw [HX.out]; rfl⟩
            case measure => simp [intOf]; omega
          · have jY : jb k x = false := by
              unfold jb; split
              · rename_i e; simp; exact fun e2 => F3 ⟨e, e2⟩
              · simp; intro; omega
            rw [← HX.out] at jY
            have HB := aa (FR hlt jY)
            clear jY
            have hc' : k = 0 → w0.cell? ⟨b, off, none⟩ = some (.int .i64 x) := fun e => by subst e; simpa using hc
            rcases Nat.eq_zero_or_pos k with rfl | s5
            · have hc2 := hc' rfl
              clear hc' hc
              go_wp2_with fail
              all_goals go_ret
              all_goals exact ⟨aI (by rw [HF.out, if_neg h0, if_neg h1, if_neg (by rw [H2.out]; simp), HB.out]; simp), dR.out⟩
            · clear hc'
              go_wp2_with fail
              all_goals go_ret
              all_goals exact ⟨aI (by rw [HF.out, if_neg h0, if_neg h1, if_neg (by rw [H2.out]; simp), HB.out]; simp), dR.out⟩
      · obtain rfl : k = ps.length := by omega
        have Zd := Aq hd.out
        have hok := aa Zd
        clear hlt hk hd KP hcap Zd
        go_wp2_with fail
        go_loopw [4, 5] (fun i _ wr => ∃ k : Nat, k ≤ ps.length ∧ i = .int .i64 k ∧ Hid (∀ j, j < k → iu ps ns j = 0) ∧ Below w0.heap.size w0 wr) (fun i _ _ => ps.length - (intOf i).toNat)
        case atStart => exact ⟨0, Nat.zero_le _, rfl, fun j hj => absurd hj (Nat.not_lt_zero _), Below.refl _ _⟩
        case round =>
          obtain ⟨k, hk, rfl, hd, hbr⟩ := hrel
          clear jN
          have jN : wr.cell? ⟨w.heap.size, 0, none⟩ = some (.slice p ps.length cap) := (hbr.cell (p := ⟨w.heap.size, 0, none⟩) (by have := HS.out; simp; omega)).trans KQ.out
          have uk : wr.cell? ⟨w.heap.size, 1, none⟩ = some (.slice q ns.length dw) := (hbr.cell (p := ⟨w.heap.size, 1, none⟩) (by have := HS.out; simp; omega)).trans KR.out
          by_cases hlt : k < ps.length
          · have hlen : ns.length ≤ ps.length ∧ ps.length ≤ ns.length := by have := H2.out; omega
            obtain ⟨fA, hl2⟩ := hlen
            have hT := uI.out.keep (Kept.below hbr)
            have Ze := K7 S wr _ ⟨ps, ns⟩ k hT hp hlt
            have oh := aa Ze
            have hne : iu ps ns k = if isIn ps k then (if (gs ns k).size = 0 then 0 else 14) else if aY (gs ns k).data.toList then (if dm ns k then 7 else 0) else 14 := rfl
            have hki := kK hok.out k
            have hend : iu ps ns k ≠ 0 → az ⟨ps, ns⟩ = iu ps ns k := fun hn0 => by
              rw [HF.out, if_neg h0, if_neg h1, if_neg (by rw [H2.out]; simp), hok.out, if_pos rfl]; exact fG hlt hd.out hn0
            have HE := aa hne
            have iw := aa hend
            have HKI := aa hki
            clear hT Ze hne hend hki
            go_wp2_with fail
            refine oh.out.mono ?_
            rintro e w2 ⟨hb2, v2, rfl, hv2⟩
            obtain ⟨p2, c2, rfl, _, _⟩ := aB.open hv2
            clear hv2
            have Zf : w2.cell? ⟨w.heap.size, 0, none⟩ = some (.slice p ps.length cap) := (hb2.cell (p := ⟨w.heap.size, 0, none⟩) (World.block_lt_of_cell? _ _ jN)).trans jN
            have Sj : w2.cell? ⟨w.heap.size, 1, none⟩ = some (.slice q ns.length dw) := (hb2.cell (p := ⟨w.heap.size, 1, none⟩) (World.block_lt_of_cell? _ _ uk)).trans uk
            have G6 : Below w0.heap.size w0 w2 := hbr.trans (hb2.mono hbr.size)
            clear jN uk oh hb2
            have DM := hz k
            have hnil := toList_nil (gs ns k)
            have rD := aa hnil
            have C9 := aa G6
            obtain ⟨b, off, rfl, hc0⟩ := F2.out k (by omega)
            have hc2 : w2.cell? ⟨b, off + k, none⟩ = some (.string (gs ns k)) := (G6.cell (p := ⟨b, off + k, none⟩) (World.block_lt_of_cell? _ _ hc0)).trans hc0
            clear hc0 G6 hnil hz
            cases hin : isIn ps k
            · have s5 : (eo (aS ps k)).length = 0 := by
                rcases h : aS ps k with _ | ⟨a, l⟩
                · rfl
                · have h2 := HKI.out.1 (by rw [h]; simp); rw [hin] at h2; cases h2
              rw [s5]
              have uL := aa hin
              clear s5 hin
              have hnm := Sa (gs ns k) DM w2
              have fS := aa hnm
              clear hnm
              cases hnb : aY (gs ns k).data.toList
              · have mV := aa hnb
                rw [hnb] at fS
                clear hnb
                go_wp2_with fail
                refine fS.out.mono ?_
                rintro e w3 ⟨rfl, hb3⟩
                go_wp2_with fail
                go_ret
                exact ⟨aI (by rw [iw.out (by rw [HE.out, uL.out, mV.out]; simp), HE.out, uL.out, mV.out]; simp), dR.out.trans ((C9.out.mono (by have := HS.out; omega)).trans (hb3.mono (by have := HS.out; have := C9.out.size; omega)))⟩
              · have mV := aa hnb
                rw [hnb] at fS
                clear hnb
                go_wp2_with fail
                refine fS.out.mono ?_
                rintro e w3 ⟨rfl, hb3⟩
                have Zg : Below w0.heap.size w0 w3 := C9.out.trans (hb3.mono C9.out.size)
                have hcq3 : w3.cell? ⟨w.heap.size, 1, none⟩ = some (.slice (some ⟨b, off, none⟩) ns.length dw) := (hb3.cell (p := ⟨w.heap.size, 1, none⟩) (World.block_lt_of_cell? _ _ Sj)).trans Sj
                have hc3 : w3.cell? ⟨b, off + k, none⟩ = some (.string (gs ns k)) := (hb3.cell (p := ⟨b, off + k, none⟩) (World.block_lt_of_cell? _ _ hc2)).trans hc2
                have Sk := aa Zg
                clear Zf Sj hc2 hb3 Zg
                go_wp2_with fail
                go_loopw [5] (fun i wq => ∃ j a : Nat, j ≤ k ∧ i = .int .i64 j ∧ Hid (∀ m, m < j → decide (gs ns m = gs ns k) = false) ∧ wq = w3.drewN a) (fun i _ => k - (intOf i).toNat)
                case atStart => exact ⟨0, 0, Nat.zero_le _, rfl, fun j hj => absurd hj (Nat.not_lt_zero _), rfl⟩
                case round =>
                  obtain ⟨j, a, hj, rfl, hd2, rfl⟩ := hrel
                  by_cases hjk : j < k
                  · obtain ⟨b', off', eb, um⟩ := F2.out j (by omega)
                    cases eb
                    have hc4 : w3.cell? ⟨b, off + j, none⟩ = some (.string (gs ns j)) := (Sk.out.cell (p := ⟨b, off + j, none⟩) (World.block_lt_of_cell? _ _ um)).trans um
                    clear um
                    have i1 : (0 : Int) ≤ (j : Int) := by omega
                    have i2 : (j : Int) < (ns.length : Int) := by omega
                    have i3 : (0 : Int) ≤ (k : Int) := by omega
                    have i4 : (k : Int) < (ns.length : Int) := by omega
                    have HNEQ := aa (toList_data (gs ns j))
                    go_wp2_with fail
                    go_quiet (fail)
                    go_wp2_with fail
                    · have hs : dm ns k = true := List.any_eq_true.2 ⟨j, List.mem_range.2 hjk, by simpa using zb ‹_›⟩
                      go_ret
                      exact ⟨aI (by rw [iw.out (by rw [HE.out, uL.out, mV.out, hs]; simp), HE.out, uL.out, mV.out, hs]; simp), dR.out.trans (Below.mono (B := w0.heap.size) (below_drewN (below_drewN Sk.out _) _) (by have := HS.out; omega))⟩
                    · have hs := F0 ‹((gs ns j).toList == (gs ns k).toList) = false›
                      go_roundw
                      case rel => exact ⟨j + 1, _, by omega, by go_num, fun m hm => if e : m = j then by subst e; simpa using hs else hd2.out m (by omega), rfl⟩
                      case measure => simp [intOf]; omega
                  · have hs : dm ns k = false := by
                      rw [Bool.eq_false_iff]; intro e
                      obtain ⟨m, hm, h2⟩ := List.any_eq_true.1 e
                      have h3 := hd2.out m (by have := List.mem_range.1 hm; omega)
                      rw [h3] at h2; cases h2
                    have BI := aa hs
                    clear hs
                    go_wp2_with fail
                    go_roundw
                    case rel => exact ⟨k + 1, by omega, by go_num, fun m hm => if e : m = k then by subst e; rw [HE.out, uL.out, mV.out, BI.out]; simp else hd.out m (by omega), below_drewN Sk.out _⟩
                    case measure => simp [intOf]; omega
            · have s5 : 0 < (eo (aS ps k)).length := by
                have h2 := HKI.out.2 hin
                unfold eo; rw [List.length_map]; exact List.length_pos_iff.2 h2
              generalize (eo (aS ps k)).length = m at *
              have uL := aa hin
              clear hin
              by_cases hg0 : (gs ns k).size = 0
              · have hg1 : (gs ns k).toList = [] := rD.out.2 hg0
                have uo := aa hg0
                clear hg0
                go_wp2_with fail
                go_roundw
                case rel => exact ⟨k + 1, by omega, by go_num, fun j hj => if e : j = k then by subst e; rw [HE.out, uL.out, uo.out]; simp else hd.out j (by omega), C9.out⟩
                case measure => simp [intOf]; omega
              · have hg1 : ((gs ns k).toList == []) = false := by
                  rw [Bool.eq_false_iff]; intro e; exact hg0 (rD.out.1 (by simpa using e))
                have hg2 : ((gs ns k).toList != []) = true := by
                  rw [bne_iff_ne]; intro e; exact hg0 (rD.out.1 (by simpa using e))
                have uo := aa hg0
                clear hg0
                go_wp2_with fail
                go_ret
                exact ⟨aI (by rw [iw.out (by rw [HE.out, uL.out, if_pos rfl, if_neg uo.out]; simp), HE.out, uL.out, if_pos rfl, if_neg uo.out]), dR.out.trans (C9.out.mono (by have := HS.out; omega))⟩
          · have hk2 : k = ps.length := by omega
            clear hlt
            go_wp2_with fail
            go_ret
            exact ⟨aI (by rw [HF.out, if_neg h0, if_neg h1, if_neg (by rw [H2.out]; simp), hok.out, if_pos rfl, dJ fun j hj => hd.out j (by omega)]), dR.out.trans (hbr.mono (by have := HS.out; omega))⟩
  · have DL : ((ns.length : Int) != ps.length) = true := by simp; omega
    go_enter Tryz.func33, Tryz.ntmps33
    go_wp2_with fail
    go_ret
    exact ⟨aI (by rw [HF.out, if_neg h0, if_neg h1, if_pos h2]), dR.out⟩
end
section
open Go.RowKit Go.Deep
theorem AW (W : World) : aA Any W (.agg #[.slice none 0 0, .slice none 0 0]) ⟨[], []⟩ :=
 ⟨_, _, rfl, ⟨none, 0, rfl, Nat.le_refl _, .inl rfl⟩, ⟨none, 0, rfl, Nat.le_refl _, .inl rfl⟩⟩
theorem boxed {W : World} {B : Nat} {P N : Value} (hb : W.heap[B]? = some (Obj.cells #[P, N] 39 (0, 0))) : W.cell? ⟨B, 0, none⟩ = some P ∧ W.cell? ⟨B, 1, none⟩ = some N ∧ W.frozen? ⟨B, 0, none⟩ = false ∧ W.frozen? ⟨B, 1, none⟩ = false := by
 refine ⟨?_, ?_, ?_, ?_⟩ <;> simp [World.cell?, World.frozen?, hb]
theorem EA {S : Nat → Prop} {w : World} {b off n cap : Nat} {xs : List ByteArray} (h : ah S w (.slice (some ⟨b, off, none⟩) n cap) xs) {k : Nat} (hk : k ≤ xs.length) : aB S w (.slice (some ⟨b, off, none⟩) k cap) k (fun j => .string (gs xs j)) := by
 obtain ⟨q, c, e, hn, h⟩ := h
 injection e with e1 e2 e3
 subst e1; subst e2; subst e3
 refine ⟨_, cap, rfl, by omega, ?_⟩
 rcases h with h | ⟨b', o', e, hS, h⟩
 ·exact .inl (by omega)
 ·exact .inr ⟨b', o', e, hS, fun j hj => h j (by omega)⟩
end
section
open Go.RowKit Go.Deep
def tW (t : ay) : ay := flat (ordR (fO t))
def Zh (w : World) (t : ay) (e : Ending) (w' : World) : Prop :=
 Up w w' ∧ ((az t ≠ 0 ∧ e = .returned (.tuple #[.agg #[.slice none 0 0, .slice none 0 0], .int .i64 1])) ∨ (az t = 0 ∧ ∃ v, e = .returned (.tuple #[v, .int .i64 0]) ∧ aA (fun b => w.heap.size ≤ b) w' v (tW t)))
set_option maxHeartbeats 2000000 in
theorem Sl (S : Nat → Prop) (w : World) (v : Value) (t : ay) (hT : aA S w v t) (hp : t.ps.length ≤ 1000000) (hn : t.ns.length ≤ 1000000) (hz : ∀ k, (gs t.ns k).size ≤ 70000) : Calls Tryz.prog 147 #[v] w (Zh w t) := by
 obtain ⟨P, N, rfl, hP, hN⟩ := hT
 have hu := (Up.alloc w (.cells #[P, N] 39)).trans (Up.alloc _ (.cells #[.slice none 0 0, .slice none 0 0] 39))
 have jR : aA S ((w.alloc (.cells #[P, N] 39)).alloc (.cells #[.slice none 0 0, .slice none 0 0] 39)) (.agg #[P, N]) t := aA.keep ⟨P, N, rfl, hP, hN⟩ (hu.kept _)
 have eY := aa (r5 S _ _ t jR hp hn hz)
 have HT := aa jR
 have HU := aa hu
 have eH := aa ((Up.alloc _ (.cells #[.slice none 0 0, .slice none 0 0] 39)).cell (dW w P N 39))
 have kQ := aa ((Up.alloc _ (.cells #[.slice none 0 0, .slice none 0 0] 39)).cell (eu w P N 39))
 have hc0 := eH.out
 have hc1 := kQ.out
 have hrb := fh (w := w.alloc (.cells #[P, N] 39)) (P := .slice none 0 0) (N := .slice none 0 0) (T := 39)
 have hsz : ((w.alloc (.cells #[P, N] 39)).alloc (.cells #[.slice none 0 0, .slice none 0 0] 39)).heap.size = w.heap.size + 2 := by simp
 rw [World.size_alloc] at hrb
 have lT := aa hrb
 have ct := aa hsz
 clear hu jR hP hN hrb hsz
 go_enter Tryz.func147, Tryz.ntmps147
 go_wp2_with fail
 generalize (w.alloc (.cells #[P, N] 39)).alloc (.cells #[.slice none 0 0, .slice none 0 0] 39) = w1 at *
 refine eY.out.mono ?_
 rintro e w2 ⟨rfl, hb2⟩
 have aG : Up w1 w2 := hb2
 have hc0 := aG.cell eH.out
 have hc1 := aG.cell kQ.out
 have qD := aa (HT.out.keep (aG.kept S))
 have kR := (Below.block aG (w.heap.size + 1) (by rw [ct.out]; omega)).trans lT.out
 have bw := aa (HU.out.trans aG)
 have lW : Hid (w.heap.size + 2 ≤ w2.heap.size) := by unfold Hid; have := aG.size; rw [ct.out] at this; exact this
 clear hb2 aG eY HT HU eH kQ lT
 by_cases he : az t = 0
 ·have HE := aa he
  rw [he]
  have jh := aa kR
  have tB := aa (K8 S t he (cu t 0) 0 (Nat.le_refl _) (aD he).1 w2 _ qD.out)
  have hsize := Ek he
  have Zi := Ey (fO t)
  have U3 := aa (And.intro hsize Zi)
  clear kR he hsize Zi
  go_wp2_with fail
  refine tB.out.mono ?_
  rintro e w3 ⟨bX, v3, rfl, hr3⟩
  have dc := aa bX
  have HOD := aa (Pf _ 64 (fO t) U3.out.1 (by omega) w3 _ hr3)
  clear bX hr3 tB
  go_wp2_with fail
  refine HOD.out.mono ?_
  rintro e w4 ⟨cF, v4, rfl, hr4⟩
  have jQ := aa (dc.out.trans cF)
  have mV := aa (AU _ w4 _ (ordR (fO t)) hr4 (by have := U3.out; omega))
  have Lc : Hid (w.heap.size + 2 ≤ w4.heap.size) := by unfold Hid; have := jQ.out.size; have := lW.out; omega
  clear cF hr4 HOD dc
  go_wp2_with fail
  refine mV.out.mono ?_
  rintro e w5 ⟨gp, _, rfl, P4, N4, rfl, dY, eG⟩
  have dY : aq (fun b => w4.heap.size ≤ b) w5 P4 (tW t).ps := dY
  have eG : ah (fun b => w4.heap.size ≤ b) w5 N4 (tW t).ns := eG
  obtain ⟨pp, pc, rfl, _, _⟩ := aB.open dY
  obtain ⟨np, nc, rfl, _, _⟩ := aB.open eG
  have ji := (Below.block (jQ.out.trans gp) (w.heap.size + 1) (by have := lW.out; omega)).trans jh.out
  have ku : w5.cell? ⟨w.heap.size + 1, 0, none⟩ = some (.slice none 0 0) := by simp [World.cell?, ji]
  have hr1 : w5.cell? ⟨w.heap.size + 1, 1, none⟩ = some (.slice none 0 0) := by simp [World.cell?, ji]
  have K0 : w5.frozen? ⟨w.heap.size + 1, 0, none⟩ = false := by simp [World.frozen?, ji]
  have uC : w5.frozen? ⟨w.heap.size + 1, 1, none⟩ = false := by simp [World.frozen?, ji]
  have Ec := aa dY
  have OY := aa eG
  have HST := aa (dZ (w := w) (p := .slice pp (tW t).ps.length pc) (q := .slice np (tW t).ns.length nc) ji (by omega) (bw.out.trans (jQ.out.trans gp)))
  clear dY eG gp ji mV jh hc0 hc1
  go_wp2_with fail
  obtain ⟨s1, s2, s3, s4⟩ := HST.out
  have hs2 := lW.out
  have hs4 := Lc.out
  refine ⟨rfl, .tuple #[.agg #[.slice pp (tW t).ps.length pc, .slice np (tW t).ns.length nc], .int .i64 0], by simp [results, Tryz.results147, go_sem, s2, s3], ?_⟩
  exact ⟨s1, .inr ⟨HE.out, _, rfl, _, _, rfl, (aq.keep Ec.out fun b hb _ => s4 b (by omega)).sub fun b hb _ => by omega, (ah.keep OY.out fun b hb _ => s4 b (by omega)).sub fun b hb _ => by omega⟩⟩
 ·have BK : (az t != 0) = true := by simpa using he
  have ku : w2.cell? ⟨w.heap.size + 1, 0, none⟩ = some (.slice none 0 0) := by simp [World.cell?, kR]
  have hr1 : w2.cell? ⟨w.heap.size + 1, 1, none⟩ = some (.slice none 0 0) := by simp [World.cell?, kR]
  have K0 : w2.frozen? ⟨w.heap.size + 1, 0, none⟩ = false := by simp [World.frozen?, kR]
  have uC : w2.frozen? ⟨w.heap.size + 1, 1, none⟩ = false := by simp [World.frozen?, kR]
  have HST := aa (dZ (w := w) (p := .slice none 0 0) (q := .slice none 0 0) kR (by omega) bw.out)
  have HE := aa he
  clear he kR hc0 hc1
  generalize az t = te at BK ⊢
  go_wp2_with fail
  obtain ⟨s1, s2, s3, s4⟩ := HST.out
  refine ⟨rfl, .tuple #[.agg #[.slice none 0 0, .slice none 0 0], .int .i64 1], by simp [results, Tryz.results147, go_sem, s2, s3], ?_⟩
  exact ⟨s1, .inl ⟨HE.out, rfl⟩⟩
end
section
def G7 (s : RT) : Prop := (s.kids ≠ [] → s.nm.size = 0) ∧ (s.kids = [] → aY s.nm.data.toList = true) ∧ s.kids.length ≠ 1
def kV (l : List ByteArray) : List ByteArray := l.filter fun s => decide (s.size ≠ 0)
theorem G8 (a b : List ByteArray) : kV (a ++ b) = kV a ++ kV b := List.filter_append _ _
theorem jJ {nm : ByteArray} {ks : List RT} (h : nm.size = 0) : cg (.node nm ks) = ks.flatMap cg := by
 have key : ∀ ks : List RT, kV (dg ks) = ks.flatMap cg := by
  intro ks
  induction ks with
  | nil => rfl
  | cons r rs ih => rw [dg, G8, ih, List.flatMap_cons]; rfl
 show kV (cM _) = _
 rw [cM, ← key]
 unfold kV
 rw [List.filter_cons_of_neg (by simp [h])]
theorem MJ {nm : ByteArray} (h : nm.size ≠ 0) : cg (.node nm []) = [nm] := by
 show List.filter _ (cM _) = _
 rw [cM, dg, List.filter_cons_of_pos (by simpa using h)]; rfl
end
section
section
variable {F G : aT} {n : Nat} {rk : Nat → Nat}
theorem EB (h : Wf F n rk) {i : Nat} (hi : i < n) (h0 : rk i ≤ 0) : F.kids i = [] := by
 cases hk : F.kids i with
 | nil => rfl
 | cons k l => have := (h.kid i hi k (by rw [hk]; simp)).2; omega
theorem Sm (hF : Wf F n rk) (hG : Wf G n rk) : ∀ {d c : Nat}, c < n → rk c ≤ d → (∀ z, bS F rk c z = true → G.kids z = F.kids z) → ∀ z, bS G rk c z = bS F rk c z := by
 intro d
 induction d with
 | zero =>
  intro c hc hd hz z
  rw [gG hF hc, gG hG hc, EB hF hc hd, EB hG hc hd]; rfl
 | succ d ih =>
  intro c hc hd hz z
  rw [gG hF hc, gG hG hc, hz c (iD hF hc)]
  congr 1
  rw [Bool.eq_iff_iff, List.any_eq_true, List.any_eq_true]
  have key : ∀ k ∈ F.kids c, bS G rk k z = bS F rk k z := fun k hk => by
   have hkk := hF.kid c hc k hk
   exact ih hkk.1 (by omega) (fun y hy => hz y (mG hF hc hk hy)) z
  constructor
  ·rintro ⟨k, hk, e⟩; exact ⟨k, hk, by rw [← key k hk]; exact e⟩
  ·rintro ⟨k, hk, e⟩; exact ⟨k, hk, by rw [key k hk]; exact e⟩
end
end
end Go.Proofs.YthgabkgmkolobaaGreat
