/- The contract of layer 31's reference's Check. The rose tree of nested sets: leaves, .. -/
import Derived.Test.YteegefnjnikngaaGreatQ1
import Derived.Test.YteegefnjnikngaaGreatQ17
import Derived.Test.YteegefnjnikngaaGreatQ22
import Derived.Test.YteegefnjnikngaaGreatQ18
set_option maxRecDepth 100000
namespace Go.Proofs.YteegefnjnikngaaGreat
section
open Go.RowKit Go.Deep
set_option maxHeartbeats 1600000 in
theorem sN (S : Nat → Prop) (w : World) (v : Value) (t : av) (h : ay S w v t) (hp : t.ps.length ≤ 1000000) (hn : t.ns.length ≤ 1000000) (hz : ∀ k, (gs t.ns k).size ≤ 70000) :
    Calls Tryz.prog 40 #[v] w fun e w' => e = .returned (.int .i64 (aB t)) ∧ Below w.heap.size w w' := by
  obtain ⟨P, N, rfl, hP, hN⟩ := h
  obtain ⟨ps, ns⟩ := t
  simp only at *
  have cD : aB ⟨ps, ns⟩ = if ps.length = 0 then 5 else if 64 < ps.length then 4 else if ns.length ≠ ps.length then 9 else if gN ps then firstNZ (gq ps ns) ps.length else 2 := rfl
  have HF := aa cD
  clear cD
  have jS : Below w.heap.size w (w.alloc (.cells #[P, N] 39)) := (Below.refl _ _).alloc (Nat.le_refl _) _
  have Zq : ay S (w.alloc (.cells #[P, N] 39)) (.agg #[P, N]) ⟨ps, ns⟩ := ay.keep ⟨P, N, rfl, hP, hN⟩ (Kept.below jS)
  have JN := hP.keep (Kept.below jS)
  have JO := hN.keep (Kept.below jS)
  clear hP hN
  obtain ⟨p, cap, rfl, hcap, HP⟩ := aA.open JN
  obtain ⟨q, cW, rfl, yc, HN⟩ := aA.open JO
  have Gc := aa HP
  have CJ := aa HN
  have DN := aa Zq
  have dG := aa jS
  clear JN JO HP HN Zq jS
  by_cases h0 : ps.length = 0
  · have HX : Hid (ps.length = 0) := h0
    have h0' : ((ps.length : Int) == 0) = true := by simp [h0]
    clear h0
    go_enter Tryz.func40, Tryz.ntmps40
    go_wp2_with fail
    go_ret
    exact ⟨aH (by rw [HF.out, if_pos HX.out]), dG.out⟩
  have h0' : ((ps.length : Int) == 0) = false := by simpa using h0
  by_cases h1 : 64 < ps.length
  · go_enter Tryz.func40, Tryz.ntmps40
    go_wp2_with fail
    go_ret
    exact ⟨aH (by rw [HF.out, if_neg h0, if_pos h1]), dG.out⟩
  by_cases h2 : ns.length = ps.length
  · have Aq : ((ns.length : Int) != ps.length) = false := by simp [h2]
    have H2 := aa h2
    clear h2
    have kF : (w.alloc (.cells #[.slice p ps.length cap, .slice q ns.length cW] 39)).cell? ⟨w.heap.size, 0, none⟩ = some (.slice p ps.length cap) := by simp [World.cell?_alloc_new]
    have q9 : (w.alloc (.cells #[.slice p ps.length cap, .slice q ns.length cW] 39)).cell? ⟨w.heap.size, 1, none⟩ = some (.slice q ns.length cW) := by simp [World.cell?_alloc_new]
    have hct : (w.alloc (.cells #[.slice p ps.length cap, .slice q ns.length cW] 39)).rowIs w.heap.size 39 2 (fun i => if i = 0 then .slice p ps.length cap else .slice q ns.length cW) :=
      World.rowIs_alloc w _ _ _ (fun i hi => by match i, hi with | 0, _ => rfl | 1, _ => rfl)
    have hsz : (w.alloc (.cells #[.slice p ps.length cap, .slice q ns.length cW] 39)).heap.size = w.heap.size + 1 := by simp
    have HS := aa hsz
    have Gd := aa kF
    have Ge := aa q9
    have GA := aa hct
    clear hsz q9 hct
    go_enter Tryz.func40, Tryz.ntmps40
    go_wp2_with fail
    generalize hw0 : w.alloc (.cells #[.slice p ps.length cap, .slice q ns.length cW] 39) = w0 at *
    clear hw0
    go_loop [3] (fun i => ∃ k : Nat, k ≤ ps.length ∧ i = .int .i64 k ∧ Hid (∀ j, j < k → ig j (gi ps j) = true)) (fun i => ps.length - (intOf i).toNat)
    case atStart => exact ⟨0, Nat.zero_le _, rfl, fun j hj => absurd hj (Nat.not_lt_zero _)⟩
    case round =>
      obtain ⟨k, hk, rfl, hd⟩ := hrel
      by_cases hlt : k < ps.length
      · obtain ⟨b, off, rfl, hc⟩ := Gc.out k hlt
        clear Gc CJ DN
        generalize hpk : gi ps k = x at *
        have HX := aa hpk
        clear hpk
        by_cases hg : 0 < k ∧ 0 ≤ x ∧ x < k
        · obtain ⟨g1, g2, g3⟩ := hg
          go_wp2_with fail
          go_round
          case rel => exact ⟨k + 1, by omega, by go_num, fun j hj => if e : j = k then by subst e; rw [HX.out]; unfold ig; rw [if_neg (by omega)]; simp; omega else hd.out j (by omega)⟩
          case measure => simp [intOf]; omega
        · by_cases CK : k = 0 ∧ x = -1
          · obtain ⟨rfl, rfl⟩ := CK
            have hc' : w0.cell? ⟨b, off, none⟩ = some (.int .i64 (-1)) := by simpa using hc
            go_wp2_with fail
            go_round
            case rel => exact ⟨1, by omega, by go_num, fun j hj => by obtain rfl : j = 0 := by omega
                                                                      rw [HX.out]; rfl⟩
            case measure => simp [intOf]; omega
          · have kV : ig k x = false := by
              unfold ig; split
              · rename_i e; simp; exact fun e2 => CK ⟨e, e2⟩
              · simp; intro; omega
            rw [← HX.out] at kV
            have HB := aa (Cx hlt kV)
            clear kV
            have hc' : k = 0 → w0.cell? ⟨b, off, none⟩ = some (.int .i64 x) := fun e => by subst e; simpa using hc
            rcases Nat.eq_zero_or_pos k with rfl | qd
            · have hc2 := hc' rfl
              clear hc' hc
              go_wp2_with fail
              all_goals go_ret
              all_goals exact ⟨aH (by rw [HF.out, if_neg h0, if_neg h1, if_neg (by rw [H2.out]; simp), HB.out]; simp), dG.out⟩
            · clear hc'
              go_wp2_with fail
              all_goals go_ret
              all_goals exact ⟨aH (by rw [HF.out, if_neg h0, if_neg h1, if_neg (by rw [H2.out]; simp), HB.out]; simp), dG.out⟩
      · obtain rfl : k = ps.length := by omega
        have Ui := xe hd.out
        have hok := aa Ui
        clear hlt hk hd Gc hcap Ui
        go_wp2_with fail
        go_loopw [4, 5] (fun i _ wr => ∃ k : Nat, k ≤ ps.length ∧ i = .int .i64 k ∧ Hid (∀ j, j < k → gq ps ns j = 0) ∧ Below w0.heap.size w0 wr) (fun i _ _ => ps.length - (intOf i).toNat)
        case atStart => exact ⟨0, Nat.zero_le _, rfl, fun j hj => absurd hj (Nat.not_lt_zero _), Below.refl _ _⟩
        case round =>
          obtain ⟨k, hk, rfl, hd, hbr⟩ := hrel
          clear kF
          have kF : wr.cell? ⟨w.heap.size, 0, none⟩ = some (.slice p ps.length cap) := (hbr.cell (p := ⟨w.heap.size, 0, none⟩) (by have := HS.out; simp; omega)).trans Gd.out
          have q9 : wr.cell? ⟨w.heap.size, 1, none⟩ = some (.slice q ns.length cW) := (hbr.cell (p := ⟨w.heap.size, 1, none⟩) (by have := HS.out; simp; omega)).trans Ge.out
          by_cases hlt : k < ps.length
          · have hlen : ns.length ≤ ps.length ∧ ps.length ≤ ns.length := by have := H2.out; omega
            obtain ⟨gF, hl2⟩ := hlen
            have hT := DN.out.keep (Kept.below hbr)
            have Uj := Gq S wr _ ⟨ps, ns⟩ k hT hp hlt
            have lW := aa Uj
            have hne : gq ps ns k = if isIn ps k then (if (gs ns k).size = 0 then 0 else 14) else if aP (gs ns k).data.toList then (if cE ns k then 7 else 0) else 14 := rfl
            have hki := kE hok.out k
            have hend : gq ps ns k ≠ 0 → aB ⟨ps, ns⟩ = gq ps ns k := fun hn0 => by
              rw [HF.out, if_neg h0, if_neg h1, if_neg (by rw [H2.out]; simp), hok.out, if_pos rfl]; exact eo hlt hd.out hn0
            have HE := aa hne
            have fP := aa hend
            have Zr := aa hki
            clear hT Uj hne hend hki
            go_wp2_with fail
            refine lW.out.mono ?_
            rintro e w2 ⟨hb2, v2, rfl, hv2⟩
            obtain ⟨p2, c2, rfl, _, _⟩ := aA.open hv2
            clear hv2
            have Uk : w2.cell? ⟨w.heap.size, 0, none⟩ = some (.slice p ps.length cap) := (hb2.cell (p := ⟨w.heap.size, 0, none⟩) (World.block_lt_of_cell? _ _ kF)).trans kF
            have NF : w2.cell? ⟨w.heap.size, 1, none⟩ = some (.slice q ns.length cW) := (hb2.cell (p := ⟨w.heap.size, 1, none⟩) (World.block_lt_of_cell? _ _ q9)).trans q9
            have DU : Below w0.heap.size w0 w2 := hbr.trans (hb2.mono hbr.size)
            clear kF q9 lW hb2
            have CL := hz k
            have hnil := toList_nil (gs ns k)
            have oz := aa hnil
            have zR := aa DU
            obtain ⟨b, off, rfl, hc0⟩ := CJ.out k (by omega)
            have hc2 : w2.cell? ⟨b, off + k, none⟩ = some (.string (gs ns k)) := (DU.cell (p := ⟨b, off + k, none⟩) (World.block_lt_of_cell? _ _ hc0)).trans hc0
            clear hc0 DU hnil hz
            cases hin : isIn ps k
            · have qd : (dm (bX ps k)).length = 0 := by
                rcases h : bX ps k with _ | ⟨a, l⟩
                · rfl
                · have h2 := Zr.out.1 (by rw [h]; simp); rw [hin] at h2; cases h2
              rw [qd]
              have rJ := aa hin
              clear qd hin
              have hnm := Nx (gs ns k) CL w2
              have gP := aa hnm
              clear hnm
              cases hnb : aP (gs ns k).data.toList
              · have kO := aa hnb
                rw [hnb] at gP
                clear hnb
                go_wp2_with fail
                refine gP.out.mono ?_
                rintro e w3 ⟨rfl, hb3⟩
                go_wp2_with fail
                go_ret
                exact ⟨aH (by rw [fP.out (by rw [HE.out, rJ.out, kO.out]; simp), HE.out, rJ.out, kO.out]; simp), dG.out.trans ((zR.out.mono (by have := HS.out; omega)).trans (hb3.mono (by have := HS.out; have := zR.out.size; omega)))⟩
              · have kO := aa hnb
                rw [hnb] at gP
                clear hnb
                go_wp2_with fail
                refine gP.out.mono ?_
                rintro e w3 ⟨rfl, hb3⟩
                have Ul : Below w0.heap.size w0 w3 := zR.out.trans (hb3.mono zR.out.size)
                have hcq3 : w3.cell? ⟨w.heap.size, 1, none⟩ = some (.slice (some ⟨b, off, none⟩) ns.length cW) := (hb3.cell (p := ⟨w.heap.size, 1, none⟩) (World.block_lt_of_cell? _ _ NF)).trans NF
                have hc3 : w3.cell? ⟨b, off + k, none⟩ = some (.string (gs ns k)) := (hb3.cell (p := ⟨b, off + k, none⟩) (World.block_lt_of_cell? _ _ hc2)).trans hc2
                have NG := aa Ul
                clear Uk NF hc2 hb3 Ul
                go_wp2_with fail
                go_loopw [5] (fun i wq => ∃ j a : Nat, j ≤ k ∧ i = .int .i64 j ∧ Hid (∀ m, m < j → decide (gs ns m = gs ns k) = false) ∧ wq = w3.drewN a) (fun i _ => k - (intOf i).toNat)
                case atStart => exact ⟨0, 0, Nat.zero_le _, rfl, fun j hj => absurd hj (Nat.not_lt_zero _), rfl⟩
                case round =>
                  obtain ⟨j, a, hj, rfl, hd2, rfl⟩ := hrel
                  by_cases hjk : j < k
                  · obtain ⟨b', off', eb, tj⟩ := CJ.out j (by omega)
                    cases eb
                    have hc4 : w3.cell? ⟨b, off + j, none⟩ = some (.string (gs ns j)) := (NG.out.cell (p := ⟨b, off + j, none⟩) (World.block_lt_of_cell? _ _ tj)).trans tj
                    clear tj
                    have i1 : (0 : Int) ≤ (j : Int) := by omega
                    have i2 : (j : Int) < (ns.length : Int) := by omega
                    have i3 : (0 : Int) ≤ (k : Int) := by omega
                    have i4 : (k : Int) < (ns.length : Int) := by omega
                    have HNEQ := aa (toList_data (gs ns j))
                    go_wp2_with fail
                    go_quiet (fail)
                    go_wp2_with fail
                    · have hs : cE ns k = true := List.any_eq_true.2 ⟨j, List.mem_range.2 hjk, by simpa using zC ‹_›⟩
                      go_ret
                      exact ⟨aH (by rw [fP.out (by rw [HE.out, rJ.out, kO.out, hs]; simp), HE.out, rJ.out, kO.out, hs]; simp), dG.out.trans (Below.mono (B := w0.heap.size) (below_drewN (below_drewN NG.out _) _) (by have := HS.out; omega))⟩
                    · have hs := CI ‹((gs ns j).toList == (gs ns k).toList) = false›
                      go_roundw
                      case rel => exact ⟨j + 1, _, by omega, by go_num, fun m hm => if e : m = j then by subst e; simpa using hs else hd2.out m (by omega), rfl⟩
                      case measure => simp [intOf]; omega
                  · have hs : cE ns k = false := by
                      rw [Bool.eq_false_iff]; intro e
                      obtain ⟨m, hm, h2⟩ := List.any_eq_true.1 e
                      have h3 := hd2.out m (by have := List.mem_range.1 hm; omega)
                      rw [h3] at h2; cases h2
                    have ux := aa hs
                    clear hs
                    go_wp2_with fail
                    go_roundw
                    case rel => exact ⟨k + 1, by omega, by go_num, fun m hm => if e : m = k then by subst e; rw [HE.out, rJ.out, kO.out, ux.out]; simp else hd.out m (by omega), below_drewN NG.out _⟩
                    case measure => simp [intOf]; omega
            · have qd : 0 < (dm (bX ps k)).length := by
                have h2 := Zr.out.2 hin
                unfold dm; rw [List.length_map]; exact List.length_pos_iff.2 h2
              generalize (dm (bX ps k)).length = m at *
              have rJ := aa hin
              clear hin
              by_cases hg0 : (gs ns k).size = 0
              · have hg1 : (gs ns k).toList = [] := oz.out.2 hg0
                have ri := aa hg0
                clear hg0
                go_wp2_with fail
                go_roundw
                case rel => exact ⟨k + 1, by omega, by go_num, fun j hj => if e : j = k then by subst e; rw [HE.out, rJ.out, ri.out]; simp else hd.out j (by omega), zR.out⟩
                case measure => simp [intOf]; omega
              · have hg1 : ((gs ns k).toList == []) = false := by
                  rw [Bool.eq_false_iff]; intro e; exact hg0 (oz.out.1 (by simpa using e))
                have hg2 : ((gs ns k).toList != []) = true := by
                  rw [bne_iff_ne]; intro e; exact hg0 (oz.out.1 (by simpa using e))
                have ri := aa hg0
                clear hg0
                go_wp2_with fail
                go_ret
                exact ⟨aH (by rw [fP.out (by rw [HE.out, rJ.out, if_pos rfl, if_neg ri.out]; simp), HE.out, rJ.out, if_pos rfl, if_neg ri.out]), dG.out.trans (zR.out.mono (by have := HS.out; omega))⟩
          · have hk2 : k = ps.length := by omega
            clear hlt
            go_wp2_with fail
            go_ret
            exact ⟨aH (by rw [HF.out, if_neg h0, if_neg h1, if_neg (by rw [H2.out]; simp), hok.out, if_pos rfl, di fun j hj => hd.out j (by omega)]), dG.out.trans (hbr.mono (by have := HS.out; omega))⟩
  · have Aq : ((ns.length : Int) != ps.length) = true := by simp; omega
    go_enter Tryz.func40, Tryz.ntmps40
    go_wp2_with fail
    go_ret
    exact ⟨aH (by rw [HF.out, if_neg h0, if_neg h1, if_pos h2]), dG.out⟩
end
section
def DV (s : RT) : Prop := (s.kids ≠ [] → s.nm.size = 0) ∧ (s.kids = [] → aP s.nm.data.toList = true) ∧ s.kids.length ≠ 1
def mA (l : List ByteArray) : List ByteArray := l.filter fun s => decide (s.size ≠ 0)
theorem DW (a b : List ByteArray) : mA (a ++ b) = mA a ++ mA b := List.filter_append _ _
theorem sO {nm : ByteArray} {ks : List RT} (h : nm.size = 0) : ey (.node nm ks) = ks.flatMap ey := by
 have key : ∀ ks : List RT, mA (cu ks) = ks.flatMap ey := by
  intro ks
  induction ks with
  | nil => rfl
  | cons r rs ih => rw [cu, DW, ih, List.flatMap_cons]; rfl
 show mA (b7 _) = _
 rw [b7, ← key]
 unfold mA
 rw [List.filter_cons_of_neg (by simp [h])]
theorem IK {nm : ByteArray} (h : nm.size ≠ 0) : ey (.node nm []) = [nm] := by
 show List.filter _ (b7 _) = _
 rw [b7, cu, List.filter_cons_of_pos (by simpa using h)]; rfl
end
section
def climb (ps : List Int) (n : Nat) : Nat → Nat → Nat
 | 0, k => k
 | d + 1, k => if n < k then climb ps n d (gi ps k).toNat else k
def nw (ps : List Int) (n i : Nat) : Bool := decide (climb ps n i i = n)
theorem sP {ps : List Int} (h : gN ps = true) {k : Nat} (hk : k < ps.length) (h0 : 0 < k) : 0 ≤ gi ps k ∧ gi ps k < k := by
 have h1 := zy h hk
 unfold ig at h1
 rw [if_neg (by omega)] at h1
 simpa using h1
theorem IL {ps : List Int} (hp : gN ps = true) (n : Nat) : ∀ {d e k : Nat}, k < ps.length → k ≤ d → k ≤ e → climb ps n d k = climb ps n e k := by
 intro d
 induction d with
 | zero =>
  intro e k hl h1 h2
  obtain rfl : k = 0 := by omega
  cases e with
  | zero => rfl
  | succ e => simp [climb]
 | succ d ih =>
  intro e k hl h1 h2
  cases e with
  | zero =>
   obtain rfl : k = 0 := by omega
   simp [climb]
  | succ e =>
   rw [climb, climb]
   split
   ·rename_i hnk
    have := sP hp hl (by omega)
    exact ih (by omega) (by omega) (by omega)
   ·rfl
theorem IM {ps : List Int} (hp : gN ps = true) {n k : Nat} (hk : k < ps.length) (hn : n < k) : climb ps n k k = climb ps n (gi ps k).toNat (gi ps k).toNat := by
 have h1 := sP hp hk (by omega)
 obtain ⟨m, rfl⟩ : ∃ m, k = m + 1 := ⟨k - 1, by omega⟩
 rw [climb, if_pos hn]
 exact IL hp n (by omega) (by omega) (Nat.le_refl _)
theorem sQ {ps : List Int} {n k : Nat} (hn : ¬ n < k) : climb ps n k k = k := by
 cases k with
 | zero => rfl
 | succ k => rw [climb, if_neg hn]

theorem DX {ps : List Int} (i : Nat) : nw ps i i = true := by unfold nw; rw [sQ (by omega)]; simp
theorem DY {ps : List Int} (_ : gN ps = true) {i : Nat} : ∀ {j : Nat}, j < ps.length → nw ps i j = true → i ≤ j := by
 intro j
 induction j using Nat.strongRecOn with
 | ind j ih =>
  intro hj h
  by_cases e : i < j
  ·omega
  ·unfold nw at h
   rw [sQ e] at h
   have : j = i := by simpa using h
   omega
theorem sR {ps : List Int} (hp : gN ps = true) {i j : Nat} (hj : j < ps.length) (hi : i < j) : nw ps i j = nw ps i (gi ps j).toNat := by
 unfold nw; rw [IM hp hj hi]
theorem Q2 {ps : List Int} (hp : gN ps = true) {i : Nat} : ∀ {j : Nat}, j < ps.length → (nw ps i j = true ↔ j = i ∨ ∃ c, c < ps.length ∧ i < c ∧ gi ps c = (i : Int) ∧ nw ps c j = true) := by
 intro j
 induction j using Nat.strongRecOn with
 | ind j ih =>
  intro hj
  by_cases e : i < j
  ·have hpar := sP hp hj (by omega)
   have DZ : ((gi ps j).toNat : Int) = gi ps j := Int.toNat_of_nonneg hpar.1
   have hpl : (gi ps j).toNat < j := by omega
   rw [sR hp hj e, ih _ hpl (by omega)]
   constructor
   ·rintro (h | ⟨c, h1, h2, h3, h4⟩)
    ·exact .inr ⟨j, hj, e, by omega, DX j⟩
    ·have := DY hp (show (gi ps j).toNat < ps.length by omega) h4
     exact .inr ⟨c, h1, h2, h3, by rw [sR hp hj (by omega)]; exact h4⟩
   ·rintro (h | ⟨c, h1, h2, h3, h4⟩)
    ·omega
    ·have tj := DY hp hj h4
     by_cases ec : c = j
     ·subst ec; left; omega
     ·right
      exact ⟨c, h1, h2, h3, by rw [sR hp hj (by omega)] at h4; exact h4⟩
  ·unfold nw
   rw [sQ e]
   constructor
   ·intro h; left; simpa using h
   ·rintro (h | ⟨c, h1, h2, h3, h4⟩)
    ·simpa using h
    ·have := DY hp hj h4; omega
end
end Go.Proofs.YteegefnjnikngaaGreat
