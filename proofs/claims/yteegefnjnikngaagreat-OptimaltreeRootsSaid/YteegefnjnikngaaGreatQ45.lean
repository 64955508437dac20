/- Reference 34: Great, GreatTrees. Reference 34: rooted, the texts of all rooted binary .. -/
import Derived.Test.YteegefnjnikngaaGreatQ1
import Derived.Test.YteegefnjnikngaaGreatQ42
import Derived.Test.YteegefnjnikngaaGreatQ43
import Derived.Test.YteegefnjnikngaaGreatQ8
import Derived.Test.YteegefnjnikngaaGreatQ7
import Derived.Test.YteegefnjnikngaaGreatQ12
set_option maxRecDepth 100000
namespace Go.Proofs.YteegefnjnikngaaGreat
section
open Go.RowKit Go.Deep
def Q6 (names : List ByteArray) : Bool := (List.range names.length).any fun i => decide (20 < (gs names i).size)
def xU (n : Nat) : Bool := (decide (6 < n) && decide (n ≤ 4096)) || decide (4098 < n)
def Q7 (states : List (List Int)) : Bool := (List.range states.length).any fun i => xU (gl states i).length
def zI (n m : Nat) : Bool := (decide (5 < n) && decide (n ≤ 7)) || decide (10 < n) || decide (10 < m)
def iD (names : List ByteArray) (states : List (List Int)) : Bool := Q6 names || Q7 states || zI names.length states.length
structure NZ (names : List ByteArray) (states : List (List Int)) : Prop where
 nm : ∀ k, (gs names k).size ≤ 20
 row : ∀ k, (gl states k).length ≤ 6 ∨ (4096 < (gl states k).length ∧ (gl states k).length ≤ 4098)
 n5 : names.length ≤ 5 ∨ (7 < names.length ∧ names.length ≤ 10)
 m10 : states.length ≤ 10
theorem D3 {names : List ByteArray} {states : List (List Int)} (h : iD names states = false) : NZ names states := by
 unfold iD at h
 rw [Bool.or_eq_false_iff, Bool.or_eq_false_iff] at h
 obtain ⟨⟨h1, h2⟩, h3⟩ := h
 refine ⟨fun k => ?_, fun k => ?_, ?_, ?_⟩
 ·by_cases hk : k < names.length
  ·have := of_decide_eq_false (any_false h1 hk)
   omega
  ·have : gs names k = ByteArray.empty := by simp [gs, hk]
   rw [this]; exact Nat.zero_le _
 ·by_cases hk : k < states.length
  ·have := any_false h2 hk
   unfold xU at this
   simp at this
   omega
  ·have : gl states k = [] := by simp [gl, hk]
   rw [this]; exact .inl (Nat.zero_le _)
 ·unfold zI at h3
  simp at h3
  omega
 ·unfold zI at h3
  simp at h3
  omega
theorem NZ.le10 {names : List ByteArray} {states : List (List Int)} (h : NZ names states) : names.length ≤ 10 ∧ (∀ k, (gl states k).length ≤ 4098) ∧ (names.length ≤ 5 ∨ 7 < names.length) := by
 have h1 := h.n5
 refine ⟨by omega, fun k => ?_, by omega⟩
 have := h.row k
 omega
set_option maxHeartbeats 2000000 in
theorem FO (S T : Nat → Prop) (w : World) (v vs : Value) (names : List ByteArray) (states : List (List Int)) (h : av S w v names) (hS : bh T w vs states) (hn : names.length ≤ 9223372036854775807) (hz : ∀ k, (gs names k).size ≤ 9223372036854775807) (hm : states.length ≤ 9223372036854775807) (hr : ∀ k, (gl states k).length ≤ 9223372036854775807) :
  Calls Tryz.prog 27 #[v, vs] w fun e w' => e = .returned (.bool (iD names states)) ∧ w = w' := by
 obtain ⟨p, cap, rfl, hcap, -⟩ := aD.open h
 have h : av S w (.slice p names.length cap) names := h
 obtain ⟨sp, sc, rfl, -, -⟩ := fL hS
 have HG : Hid (iD names states = (Q6 names || Q7 states || zI names.length states.length)) := rfl
 have HGN : Hid (Q6 names = (List.range names.length).any fun i => decide (20 < (gs names i).size)) := rfl
 have IA : Hid (Q7 states = (List.range states.length).any fun i => xU (gl states i).length) := rfl
 have HN := aa h
 have HS := aa hS
 have HZ := aa hz
 have HR := aa hr
 clear h hS hz hr
 go_enter Tryz.func27, Tryz.ntmps27
 go_wp2_with fail
 go_loop [5] (fun i => ∃ k : Nat, k ≤ names.length ∧ i = .int .i64 k ∧ Hid (∀ j, j < k → decide (20 < (gs names j).size) = false)) (fun i => names.length - (intOf i).toNat)
 case atStart => exact ⟨0, Nat.zero_le _, rfl, fun j hj => absurd hj (Nat.not_lt_zero _)⟩
 case round =>
  obtain ⟨k, hk, rfl, hd⟩ := hrel
  by_cases hlt : k < names.length
  ·obtain ⟨b, off, rfl, hc⟩ := cu HN.out hlt
   have rj : Hid (20 < (gs names k).size → Q6 names = true) := fun h1 => by rw [HGN.out]; exact uL hlt (decide_eq_true h1)
   have HX : Hid (¬ 20 < (gs names k).size → ∀ j, j < k + 1 → decide (20 < (gs names j).size) = false) := fun h1 j hj => if e : j = k then by subst e; exact decide_eq_false h1 else hd.out j (by omega)
   have hsz := HZ.out k
   generalize gs names k = nm at *
   by_cases h20 : 20 < nm.size
   ·have HF : Hid (iD names states = true) := by unfold Hid; rw [HG.out, rj.out h20]; rfl
    go_wp2_with fail
    go_ret
    exact ⟨bw HF.out.symm, rfl⟩
   ·have vD := aa (HX.out h20)
    go_wp2_with fail
    go_round
    case rel => exact ⟨k + 1, by omega, by go_num, vD.out⟩
    case measure => simp [intOf]; omega
  ·obtain rfl : k = names.length := by omega
   have HNF : Hid (Q6 names = false) := by unfold Hid; rw [HGN.out]; exact any_none hd.out
   clear hd hlt hk
   go_wp2_with fail
   go_loop [6, 7] (fun i _ => ∃ k : Nat, k ≤ states.length ∧ i = .int .i64 k ∧ Hid (∀ j, j < k → xU (gl states j).length = false)) (fun i _ => states.length - (intOf i).toNat)
   case atStart => exact ⟨0, Nat.zero_le _, rfl, fun j hj => absurd hj (Nat.not_lt_zero _)⟩
   case round =>
    obtain ⟨k, hk, rfl, hd⟩ := hrel
    by_cases hlt : k < states.length
    ·obtain ⟨b, off, r0, r1, rfl, hc, -⟩ := jd HS.out hlt
     have rj : Hid (xU (gl states k).length = true → Q7 states = true) := fun h1 => by rw [IA.out]; exact uL hlt h1
     have HX : Hid (xU (gl states k).length = false → ∀ j, j < k + 1 → xU (gl states j).length = false) := fun h1 j hj => if e : j = k then by subst e; exact h1 else hd.out j (by omega)
     have hsz := HR.out k
     have Ar : Hid (xU (gl states k).length = ((decide (6 < (gl states k).length) && decide ((gl states k).length ≤ 4096)) || decide (4098 < (gl states k).length))) := rfl
     generalize (gl states k).length = m at *
     have key : (6 < m ∧ m ≤ 4096 ∧ xU m = true) ∨ (6 < m ∧ 4096 < m ∧ 4098 < m ∧ xU m = true) ∨ (6 < m ∧ 4096 < m ∧ m ≤ 4098 ∧ xU m = false) ∨ (m ≤ 6 ∧ xU m = false) := by
      rw [Ar.out]
      by_cases q1 : 6 < m <;> by_cases q2 : m ≤ 4096 <;> by_cases q3 : 4098 < m <;> simp [q1, q2, q3] <;> omega
     rcases key with ⟨q1, q2, q⟩ | ⟨q1, q2, q3, q⟩ | ⟨q1, q2, q3, q⟩ | ⟨q1, q⟩
     ·have HF : Hid (iD names states = true) := by unfold Hid; rw [HG.out, rj.out q]; simp
      have d1 : decide (6 < (m : Int)) = true := by simp; omega
      have d2 : decide ((m : Int) ≤ 4096) = true := by simp; omega
      clear rj HX Ar q
      go_wp2_with fail
      all_goals (go_ret; exact ⟨bw HF.out.symm, rfl⟩)
     ·have HF : Hid (iD names states = true) := by unfold Hid; rw [HG.out, rj.out q]; simp
      have d1 : decide (6 < (m : Int)) = true := by simp; omega
      have d2 : decide ((m : Int) ≤ 4096) = false := by simp; omega
      have d3 : decide (4098 < (m : Int)) = true := by simp; omega
      clear rj HX Ar q
      go_wp2_with fail
      all_goals (go_ret; exact ⟨bw HF.out.symm, rfl⟩)
     ·have vD := aa (HX.out q)
      have d1 : decide (6 < (m : Int)) = true := by simp; omega
      have d2 : decide ((m : Int) ≤ 4096) = false := by simp; omega
      have d3 : decide (4098 < (m : Int)) = false := by simp; omega
      clear rj HX Ar q
      go_wp2_with fail
      go_round
      case rel => exact ⟨k + 1, by omega, by go_num, vD.out⟩
      case measure => simp [intOf]; omega
     ·have vD := aa (HX.out q)
      have d1 : decide (6 < (m : Int)) = false := by simp; omega
      have d3 : decide (4098 < (m : Int)) = false := by simp; omega
      clear rj HX Ar q
      go_wp2_with fail
      go_round
      case rel => exact ⟨k + 1, by omega, by go_num, vD.out⟩
      case measure => simp [intOf]; omega
    ·obtain rfl : k = states.length := by omega
     have J9 : Hid (Q7 states = false) := by unfold Hid; rw [IA.out]; exact any_none hd.out
     have HF : Hid (iD names states = zI names.length states.length) := by unfold Hid; rw [HG.out, HNF.out, J9.out]; simp
     have HT : Hid (zI names.length states.length = ((decide (5 < names.length) && decide (names.length ≤ 7)) || decide (10 < names.length) || decide (10 < states.length))) := rfl
     clear hd hlt hk HG HGN IA HNF J9 HN HS HZ HR
     generalize names.length = n at *
     generalize states.length = m at *
     by_cases q1 : 5 < n
     ·by_cases q2 : n ≤ 7
      ·have HB : Hid (iD names states = true) := by unfold Hid; rw [HF.out, HT.out]; simp [q1, q2]
       go_wp2_with fail
       all_goals (go_ret; refine ⟨bw ?_, rfl⟩; first | (rw [HB.out]; done) | (rw [HB.out]; simp; done) | (rw [HB.out]; simp; omega))
      ·by_cases q3 : 10 < n
       ·have HB : Hid (iD names states = true) := by unfold Hid; rw [HF.out, HT.out]; simp [q3]
        go_wp2_with fail
        all_goals (go_ret; refine ⟨bw ?_, rfl⟩; first | (rw [HB.out]; done) | (rw [HB.out]; simp; done) | (rw [HB.out]; simp; omega))
       ·by_cases q4 : 10 < m
        ·have HB : Hid (iD names states = true) := by unfold Hid; rw [HF.out, HT.out]; simp [q4]
         go_wp2_with fail
         all_goals (go_ret; refine ⟨bw ?_, rfl⟩; first | (rw [HB.out]; done) | (rw [HB.out]; simp; done) | (rw [HB.out]; simp; omega))
        ·have HB : Hid (iD names states = false) := by unfold Hid; rw [HF.out, HT.out]; simp [q2, q3, q4]
         go_wp2_with fail
         all_goals (go_ret; refine ⟨bw ?_, rfl⟩; first | (rw [HB.out]; done) | (rw [HB.out]; simp; done) | (rw [HB.out]; simp; omega))
     ·have q3 : ¬ 10 < n := by omega
      by_cases q4 : 10 < m
      ·have HB : Hid (iD names states = true) := by unfold Hid; rw [HF.out, HT.out]; simp [q4]
       go_wp2_with fail
       all_goals (go_ret; refine ⟨bw ?_, rfl⟩; first | (rw [HB.out]; done) | (rw [HB.out]; simp; done) | (rw [HB.out]; simp; omega))
      ·have HB : Hid (iD names states = false) := by unfold Hid; rw [HF.out, HT.out]; simp [q1, q3, q4]
       go_wp2_with fail
       all_goals (go_ret; refine ⟨bw ?_, rfl⟩; first | (rw [HB.out]; done) | (rw [HB.out]; simp; done) | (rw [HB.out]; simp; omega))
end
section
open Go.RowKit Go.Deep
theorem aA.VL (w : World) (e : TypeId) (u : Value) : aA w.heap.size e (w.alloc (.cells #[u] e)) (.slice (some ⟨w.heap.size, 0, none⟩) 1 1) [u] := JJ w _ e u (Nat.le_refl _)
theorem Q8 (w : World) (x : ByteArray) : Dup w.heap.size ((w.alloc (.cells #[.string x] 9)).alloc (.cells #[] 9)) (.slice (some ⟨w.heap.size, 0, none⟩) 1 1) (.slice (some ⟨w.heap.size + 1, 0, none⟩) 0 0) [x] [] := by
 have h1 := aA.VL w 9 (.string x)
 have h2 := aA.made (w.alloc (.cells #[.string x] 9)) 9
 have hs : (w.alloc (.cells #[.string x] 9)).heap.size = w.heap.size + 1 := World.size_alloc _ _
 rw [hs] at h2
 refine ⟨h1.eV fun b hb => Below.block (Up.alloc _ _) b (aF h1 hb).2, ⟨by have := h2.1; omega, ?_⟩, fun b hb hb2 => ?_⟩
 ·rcases h2.2 with h | ⟨g, c, cur, e, hg, h⟩
  ·exact .inl h
  ·exact .inr ⟨g, c, cur, e, by omega, h⟩
 ·injection hb with hb
  injection hb2 with hb2
  have hb : w.heap.size = b := hb
  have hb2 : w.heap.size + 1 = b := hb2
  omega
def vT (w : World) (names : List ByteArray) (e : Ending) (w' : World) : Prop := Up w w' ∧ ∃ v, e = .returned v ∧ aA w.heap.size 9 w' v ((bJ names).map Value.string)
def RfI (w : World) (names : List ByteArray) (n : Nat) (out : Value) (wr : World) : Prop := Up w wr ∧ aA w.heap.size 9 wr out ((qN names n).map Value.string)
theorem W9 {n : Nat} (h : n ≤ 4) (h1 : 1 ≤ n) : 2 ^ (n - 1) ≤ 8 ∧ 1 ≤ 2 ^ (n - 1) := by
 have : 2 ^ (n - 1) ≤ 2 ^ 3 := Nat.pow_le_pow_right (by decide) (by omega)
 exact ⟨by omega, Nat.one_le_two_pow⟩
set_option maxHeartbeats 8000000 in
theorem KR : ∀ (d : Nat) (names : List ByteArray), names.length ≤ d → 1 ≤ names.length → names.length ≤ 4 → (∀ x ∈ names, x.size ≤ 20) → ∀ (S : Nat → Prop) (w : World) (v : Value), av S w v names → Calls Tryz.prog 152 #[v] w (vT w names) := by
 intro d
 induction d with
 | zero => intro names h1 h2; omega
 | succ d ih =>
 intro names hd h1 h4 hz S w v h
 obtain ⟨mp, mc, rfl, Y7, -⟩ := aD.open h
 have h : av S w (.slice mp names.length mc) names := h
 obtain ⟨nb, no, rfl, hc0⟩ := cu h (k := 0) (by omega)
 rw [Nat.add_zero] at hc0
 by_cases hone : names.length = 1
 ·have d1 : ((names.length : Int) == 1) = true := by rw [hone]; rfl
  have hrt : bJ names = [gs names 0] := by
   obtain ⟨x, rfl⟩ := List.length_eq_one_iff.1 hone
   exact WU x
  have HX : Hid (vT w names (.returned (.slice (some ⟨w.heap.size, 0, none⟩) 1 1)) (w.alloc (.cells #[.string (gs names 0)] 9))) := ⟨Up.alloc _ _, _, rfl, by rw [hrt]; exact aA.VL _ _ _⟩
  have i1 : (0 : Int) < (names.length : Int) := by omega
  clear h hrt ih hz hd h4
  go_enter Tryz.func152, Tryz.ntmps152
  go_wp2_with fail
  go_ret
  exact HX.out
 have d1 : ((names.length : Int) == 1) = false := beq_eq_false_iff_ne.2 (by omega)
 have h2 : 2 ≤ names.length := by omega
 have iG := aa ih
 have HH := aa h
 have HZ := aa hz
 have HD := aa hd
 have fB := aa hc0
 obtain ⟨M, hM⟩ : ∃ M : Nat, M = 2 ^ (names.length - 1) := ⟨_, rfl⟩
 have QN := W9 h4 h1
 rw [← hM] at QN
 have HM := aa hM
 have Q9 := aa QN
 have hWS : wrap64 ((names.length : Int) - 1) = ((names.length - 1 : Nat) : Int) := by
  unfold wrap64; omega
 have HIA : Hid (RfI w names 0 (.slice (some ⟨w.heap.size, 0, none⟩) 0 0) (w.alloc (.cells #[] 9))) := ⟨Up.alloc _ _, by unfold qN; exact aA.made _ _⟩
 have xV := aa h4
 have i0 : (0 : Int) < (names.length : Int) := by omega
 clear ih h hz hd h1 hone hc0 hM QN
 go_enter Tryz.func152, Tryz.ntmps152
 go_wp2_with fail
 go_loopw [3, 4, 5, 6, 7, 8, 9, 10, 11] (fun out i _ _ _ _ _ _ _ wr => ∃ n : Nat, n ≤ M - 1 ∧ i = .int .i64 n ∧ Hid (RfI w names n out wr)) (fun _ i _ _ _ _ _ _ _ _ => M - 1 - (intOf i).toNat)
 case atStart => exact ⟨0, Nat.zero_le _, rfl, HIA.out⟩
 case round =>
  obtain ⟨n, hn, rfl, hI⟩ := hrel
  obtain ⟨wo, rfl⟩ : ∃ wo : World, wo = wr := ⟨_, rfl⟩
  obtain ⟨gH, VM⟩ := hI.out
  have Vz : wrap64 ((2 : Int) ^ (names.length - 1)) = (M : Int) := by
   have : ((2 : Int) ^ (names.length - 1)) = (M : Int) := by rw [HM.out]; simp
   rw [this]; unfold wrap64; have := Q9.out; omega
  have hWN : wrap64 ((M : Int) - 1) = ((M - 1 : Nat) : Int) := by unfold wrap64; have := Q9.out; omega
  have j0 : (0 : Int) ≤ (n : Int) := by omega
  by_cases hlt : n < M - 1
  ·have i1 : (n : Int) < ((M - 1 : Nat) : Int) := by omega
   have i2 : (n : Int) < 8 := by have := Q9.out; omega
   have hc0 := gH.cell fB.out
   have hlt2 : n < 2 ^ (names.length - 1) - 1 := by rw [← HM.out]; exact hlt
   obtain ⟨l1, l2, l3, l4⟩ := e_len h2 hlt2
   obtain ⟨m1, m2⟩ := mem_e (L := names) (by omega) hlt2
   have ud : ∀ x ∈ eA names n, x.size ≤ 20 := fun x hx => HZ.out x (m1 x hx)
   have hzb : ∀ x ∈ eB names n, x.size ≤ 20 := fun x hx => HZ.out x (m2 x hx)
   have C6 : Hid (∀ S W v, av S W v (eA names n) → Calls Tryz.prog 152 #[v] W (vT W (eA names n))) := fun S W v hv => iG.out (eA names n) (by have := HD.out; omega) l2 (by have := xV.out; omega) ud S W v hv
   have jo : Hid (∀ S W v, av S W v (eB names n) → Calls Tryz.prog 152 #[v] W (vT W (eB names n))) := fun S W v hv => iG.out (eB names n) (by have := HD.out; omega) l4 (by have := xV.out; omega) hzb S W v hv
   have yJ : Hid ((bJ (eA names n)).length ≤ 15 ∧ ∀ k, (gs (bJ (eA names n)) k).size ≤ 100) := ⟨p6 (by have := xV.out; omega), iN fun x hx => Bz (by have := xV.out; omega) ud hx⟩
   have Cu : Hid ((bJ (eB names n)).length ≤ 15 ∧ ∀ k, (gs (bJ (eB names n)) k).size ≤ 100) := ⟨p6 (by have := xV.out; omega), iN fun x hx => Bz (by have := xV.out; omega) hzb hx⟩
   have HE4 : Hid ((eA names n).length ≤ 4 ∧ (eB names n).length ≤ 4) := ⟨by have := xV.out; omega, by have := xV.out; omega⟩
   have HPF : Hid ((qN names n).length ≤ 8 * 225) := by
    have h5 := WW h2 xV.out (n := n) (by omega)
    have := Q9.out.1
    exact Nat.le_trans h5 (Nat.mul_le_mul_right _ (by omega))
   have VA := aa (Q8 wo (gs names 0))
   have bT := aa ((Up.alloc wo (.cells #[.string (gs names 0)] 9)).trans (Up.alloc _ (.cells #[] 9)))
   have xT := aa gH
   have HOo := aa VM
   have aY := aa hlt
   clear hlt hlt2 l1 l2 l3 l4 m1 m2 ud hzb hI gH VM
   go_wp2_with fail
   generalize (wo.alloc (.cells #[.string (gs names 0)] 9)).alloc (.cells #[] 9) = w1 at *
   clear hWS Vz hWN
   go_loopw [5, 6, 7] (fun a b i wr => ∃ m : Nat, m ≤ names.length - 1 ∧ i = .int .i64 ((m : Int) + 1) ∧ Hid (Dup wo.heap.size wr a b (za names n m) (zb names n m)) ∧ Hid (Up wo wr)) (fun _ _ i _ => names.length - (intOf i).toNat)
   case atStart => exact ⟨0, Nat.zero_le _, rfl, VA.out, bT.out⟩
   case round =>
    obtain ⟨m, hm, rfl, hD, hU⟩ := hrel
    obtain ⟨wi, rfl⟩ : ∃ wi : World, wi = wr := ⟨_, rfl⟩
    have k0 : (0 : Int) ≤ (m : Int) := by omega
    have kw : wrap64 ((m : Int) + 1 - 1) = (m : Int) := by unfold wrap64; have := xV.out; omega
    by_cases hlm : m < names.length - 1
    ·have hcm := (xT.out.trans hU.out).cell (aD.XA HH.out (show m + 1 < names.length by omega))
     have k1 : (m : Int) + 1 < (names.length : Int) := by omega
     have k2 : (m : Int) < 4 := by have := xV.out; omega
     have vL : bits BinOp.and IntKind.i64 ((n : Int) / 2 ^ m) 1 = if n.testBit m then 1 else 0 := by
      have e : (n : Int) / 2 ^ m = ((n / 2 ^ m : Nat) : Int) := by simp
      have : n / 2 ^ m ≤ n := Nat.div_le_self _ _
      rw [e, JO _ (by have := Q9.out; have := aY.out; omega), Mg]
     obtain ⟨e1, e2⟩ := TQ names n m (by omega)
     have js := aa e1
     have ct := aa e2
     have Ct := aa hlm
     have eT : Hid (((za names n m).map Value.string).length ≤ 1000000 ∧ ((zb names n m).map Value.string).length ≤ 1000000) := by
      have a1 := nj (fun i => n.testBit i) names.tail m
      have a2 := nj (fun i => !n.testBit i) names.tail m
      have := xV.out
      unfold Hid za zb
      rw [List.length_map, List.length_map, List.length_cons]
      omega
     have bQ : Hid (wo.heap.size ≤ wi.heap.size) := hU.out.size
     obtain ⟨ap, ac, rfl, -⟩ := hD.out.ao.form rfl
     obtain ⟨bp, bc, rfl, -⟩ := hD.out.bo.form rfl
     have AB := aa hD.out
     have xF := aa hU.out
     clear hD hU hlm e1 e2
     cases hb : n.testBit m
     ·rw [hb] at vL js ct
      have vL : bits BinOp.and IntKind.i64 ((n : Int) / 2 ^ m) 1 = 0 := vL
      have TT : Hid (za names n (m + 1) = za names n m) := by unfold Hid; rw [js.out]; simp
      have TU : Hid (zb names n (m + 1) = zb names n m ++ [gs names (m + 1)]) := by unfold Hid; rw [ct.out]; simp
      clear hb js ct
      go_wp2_with (at_builtin; refine gX wi rfl _ _ 22 rfl wo.heap.size 9 (.string ⟨#[]⟩) 16 Tryz.underlying22 Tryz.jf rfl (by decide) AB.out.bo rfl (.string (gs names (m + 1))) rfl rfl _ rfl eT.out.2 bQ.out ?_; intro g8 iz w8 cA dw gC; have JQ := aa (AB.out.appB cA dw gC); have qz := aa (AB.out.bo.dJ dw bQ.out); clear cA dw gC)
      go_roundw
      case rel => exact ⟨m + 1, Ct.out, by go_num, by rw [TT.out, TU.out]; have q := JQ.out; simp only [List.length_map] at q ⊢; exact q, Below.trans (show Below wo.heap.size wo wi from xF.out) qz.out⟩
      case measure => have := Ct.out; simp [intOf]; omega
     ·rw [hb] at vL js ct
      have vL : bits BinOp.and IntKind.i64 ((n : Int) / 2 ^ m) 1 = 1 := vL
      have TT : Hid (za names n (m + 1) = za names n m ++ [gs names (m + 1)]) := by unfold Hid; rw [js.out]; simp
      have TU : Hid (zb names n (m + 1) = zb names n m) := by unfold Hid; rw [ct.out]; simp
      clear hb js ct
      go_wp2_with (at_builtin; refine gX wi rfl _ _ 22 rfl wo.heap.size 9 (.string ⟨#[]⟩) 16 Tryz.underlying22 Tryz.jf rfl (by decide) AB.out.ao rfl (.string (gs names (m + 1))) rfl rfl _ rfl eT.out.1 bQ.out ?_; intro g8 iz w8 cA dw gC; have JQ := aa (AB.out.appA cA dw gC); have qz := aa (AB.out.ao.dJ dw bQ.out); clear cA dw gC)
      go_roundw
      case rel => exact ⟨m + 1, Ct.out, by go_num, by rw [TT.out, TU.out]; have q := JQ.out; simp only [List.length_map] at q ⊢; exact q, Below.trans (show Below wo.heap.size wo wi from xF.out) qz.out⟩
      case measure => have := Ct.out; simp [intOf]; omega
    ·obtain rfl : m = names.length - 1 := by omega
     rw [(Mm names n).1, (Mm names n).2] at hD
     obtain ⟨ap, ac, rfl, -⟩ := hD.out.ao.form (n := (eA names n).length) (by rw [List.length_map])
     obtain ⟨bp, bc, rfl, -⟩ := hD.out.bo.form (n := (eB names n).length) (by rw [List.length_map])
     have HA1 := aa (C6.out _ wi _ hD.out.ao.strs)
     have jq := aa hD.out.bo.strs
     have xF := aa hU.out
     have i9 : ¬ ((names.length - 1 : Nat) : Int) + 1 < (names.length : Int) := by omega
     clear hD hU hlm hm kw
     go_wp2_with fail
     refine HA1.out.mono ?_
     rintro e W1 ⟨aX, sa, rfl, vt⟩
     have iq := aa (jo.out _ W1 _ (av.keep jq.out (aX.kept _)))
     have FC := aa aX
     clear aX HA1
     go_wp2_with fail
     refine iq.out.mono ?_
     rintro e W2 ⟨aK, sb, rfl, oI⟩
     have hz1 := FC.out.size
     have hz2 := aK.size
     have hz0 := xF.out.size
     obtain ⟨lp, lc, rfl, -⟩ := vt.form (n := (bJ (eA names n)).length) (by rw [List.length_map])
     obtain ⟨rp, rc, rfl, -⟩ := oI.form (n := (bJ (eB names n)).length) (by rw [List.length_map])
     have js : Hid (av (fun b => wo.heap.size ≤ b ∧ b < W2.heap.size) W2 (.slice lp (bJ (eA names n)).length lc) (bJ (eA names n))) := (av.keep vt.strs (aK.kept _)).sub fun b hb hl => ⟨by omega, hl⟩
     have ct : Hid (av (fun b => wo.heap.size ≤ b ∧ b < W2.heap.size) W2 (.slice rp (bJ (eB names n)).length rc) (bJ (eB names n))) := oI.strs.sub fun b hb hl => ⟨by omega, hl⟩
     have HW2 := aa ((xF.out.trans FC.out).trans aK)
     have HAT0 : Hid (qO wo.heap.size w W2 W2 u3 (qN names n ++ ry names n 0)) := by
      have e0 : qN names n ++ ry names n 0 = qN names n := by unfold ry; simp
      rw [e0]
      have hzw := xT.out.size
      refine ⟨xT.out.trans HW2.out, ⟨hzw, by omega, Nat.le_refl _⟩, HOo.out.eV fun b hb => Below.block HW2.out b (aF HOo.out hb).2, fun b hb => .inl (aF HOo.out hb).2, fun _ _ _ => rfl⟩
     clear vt oI aK hz0 hz1 hz2 iq jq FC C6 jo xF
     go_wp2_with fail
     go_loopw [3, 10, 11] (fun o i _ wr => ∃ k : Nat, k ≤ (bJ (eA names n)).length ∧ i = .int .i64 k ∧ Hid (qO wo.heap.size w W2 wr o (qN names n ++ ry names n k))) (fun _ i _ _ => (bJ (eA names n)).length - (intOf i).toNat)
     case atStart => exact ⟨0, Nat.zero_le _, rfl, HAT0.out⟩
     case round =>
      obtain ⟨k, hk, rfl, hA⟩ := hrel
      obtain ⟨wp, rfl⟩ : ∃ wp : World, wp = wr := ⟨_, rfl⟩
      have k0 : (0 : Int) ≤ (k : Int) := by omega
      by_cases hlk : k < (bJ (eA names n)).length
      ·have k1 : (k : Int) < ((bJ (eA names n)).length : Int) := by omega
       have k2 : (k : Int) < 16 := by have := yJ.out.1; omega
       have Kg := aa hlk
       have PM := aa (TP names n hlk)
       have HZS : Hid ((gs (bJ (eA names n)) k).size ≤ 100) := yJ.out.2 k
       have hEK : (ry names n k).length ≤ 225 := WY HE4.out.1 HE4.out.2
       have HEK := aa hEK
       have HAA := aa hA.out
       clear hA hlk hEK
       go_wp2_with fail
       go_loopw [3, 11] (fun o i wr => ∃ q : Nat, q ≤ (bJ (eB names n)).length ∧ i = .int .i64 q ∧ Hid (qO wo.heap.size w W2 wr o ((qN names n ++ ry names n k) ++ ((bJ (eB names n)).take q).map fun t => pairT (gs (bJ (eA names n)) k) t))) (fun _ i _ => (bJ (eB names n)).length - (intOf i).toNat)
       case atStart => exact ⟨0, Nat.zero_le _, rfl, by rw [List.take_zero, List.map_nil, List.append_nil]; exact HAA.out⟩
       case round =>
        obtain ⟨q, hq, rfl, hB⟩ := hrel
        obtain ⟨wq, rfl⟩ : ∃ wq : World, wq = wr := ⟨_, rfl⟩
        have q0 : (0 : Int) ≤ (q : Int) := by omega
        by_cases Mp : q < (bJ (eB names n)).length
        ·obtain ⟨ab, ao, rfl, hca⟩ := cu (hB.out.strs js.out) Kg.out
         obtain ⟨bb, bo, rfl, hcb⟩ := cu (hB.out.strs ct.out) Mp
         have q1 : (q : Int) < ((bJ (eB names n)).length : Int) := by omega
         have q2 : (q : Int) < 16 := by have := Cu.out.1; omega
         have Ra := aa Mp
         have jP : Hid (((bJ (eB names n)).take (q + 1)).map (fun t => pairT (gs (bJ (eA names n)) k) t) = ((bJ (eB names n)).take q).map (fun t => pairT (gs (bJ (eA names n)) k) t) ++ [pairT (gs (bJ (eA names n)) k) (gs (bJ (eB names n)) q)]) := by
          unfold Hid
          rw [List.take_succ_eq_append_getElem Mp, List.map_append]
          simp [gs, Mp]
         have z1 : (gs (bJ (eA names n)) k).size ≤ 100 := HZS.out
         have z2 : (gs (bJ (eB names n)) q).size ≤ 100 := Cu.out.2 q
         obtain ⟨T, hT⟩ : ∃ T, T = (qN names n ++ ry names n k) ++ ((bJ (eB names n)).take q).map fun t => pairT (gs (bJ (eA names n)) k) t := ⟨_, rfl⟩
         have qI : Hid ((qN names n ++ ry names n k) ++ ((bJ (eB names n)).take (q + 1)).map (fun t => pairT (gs (bJ (eA names n)) k) t) = T ++ [pairT (gs (bJ (eA names n)) k) (gs (bJ (eB names n)) q)]) := by
          unfold Hid; rw [jP.out, ← List.append_assoc, ← hT]
         have uj : Hid (T.length ≤ 1000000) := by
          have a1 := HPF.out
          have a2 := HEK.out
          have a3 := Cu.out.1
          unfold Hid
          rw [hT]
          simp only [List.length_append, List.length_map, List.length_take]
          omega
         rw [← hT] at hB
         have Rb := aa hB.out
         obtain ⟨oq, oc, JS, -⟩ := hB.out.own.form (n := T.length) (by rw [List.length_map])
         subst JS
         generalize gs (bJ (eA names n)) k = sn at *
         generalize gs (bJ (eB names n)) q = tm at *
         clear hB Mp hT jP
         have y1 : (9223372036854775807 < 1 + sn.size) = False := by simp; omega
         have y2 : (9223372036854775807 < 1 + sn.size + 1) = False := by simp; omega
         have y3 : (9223372036854775807 < 1 + sn.size + 1 + tm.size) = False := by simp; omega
         have y4 : (9223372036854775807 < 1 + sn.size + 1 + tm.size + 1) = False := by simp; omega
         go_wp2_with fail
         refine cU (by kernel_rfl) 15 (fun w' => w'.cell? ⟨ab, ao + k, none⟩ = some (.string sn) ∧ w'.cell? ⟨bb, bo + q, none⟩ = some (.string tm)) ⟨hca, hcb⟩ (fun hS => ?_)
         simp only [List.size_toArray, List.length_cons, List.length_nil, Nat.reduceAdd, Array.replicate_succ, Array.replicate_zero, List.push_toArray, List.nil_append, List.cons_append]
         refine af.take (i := 0) (v := ?qc) rfl (by kernel_rfl) (fun _ _ _ h => h) (by rfl) (fun w hSw => ?gp) hS ?qd
         case gp =>
          (try dsimp only at hSw)
          go_simp
          try with_reducible rfl
         try simp only [Act.put, aq, ah, au]
         refine af.take (i := 1) (v := ?qf) rfl (by kernel_rfl) (fun _ _ _ h => h) (by rfl) (fun w hSw => ?gq) hS ?qg
         case gq =>
          (try dsimp only at hSw)
          go_simp
          try with_reducible rfl
         try simp only [Act.put, aq, ah, au]
         refine af.take (i := 2) (v := ?rG) rfl (by kernel_rfl) (fun _ _ _ h => h) (by rfl) (fun w hSw => ?gN) hS ?rH
         case gN =>
          (try dsimp only at hSw)
          go_simp
          try with_reducible rfl
         try simp only [Act.put, aq, ah, au]
         refine af.take (i := 3) (v := ?rI) rfl (by kernel_rfl) (fun _ _ _ h => h) (by rfl) (fun w hSw => ?gO) hS ?rJ
         case gO =>
          (try dsimp only at hSw)
          go_simp
          try with_reducible rfl
         try simp only [Act.put, aq, ah, au]
         refine af.take (i := 4) (v := ?rK) rfl (by kernel_rfl) (fun _ _ _ h => h) (by rfl) (fun w hSw => ?gP) hS ?rL
         case gP =>
          (try dsimp only at hSw)
          go_simp
          try with_reducible rfl
         try simp only [Act.put, aq, ah, au]
         refine af.take (i := 5) (v := ?rM) rfl (by kernel_rfl) (fun _ _ _ h => h) (by rfl) (fun w hSw => ?gQ) hS ?rN
         case gQ =>
          (try dsimp only at hSw)
          go_simp
          try with_reducible rfl
         try simp only [Act.put, aq, ah, au]
         refine af.take (i := 6) (v := ?zo) rfl (by kernel_rfl) (fun _ _ _ h => h) (by rfl) (fun w hSw => ?lX) hS ?zq
         case lX =>
          (try dsimp only at hSw)
          go_simp
          try with_reducible rfl
         try simp only [Act.put, aq, ah, au]
         refine af.take (i := 7) (v := ?Co) rfl (by kernel_rfl) (fun _ _ _ h => h) (by rfl) (fun w hSw => ?oA) hS ?Cq
         case oA =>
          (try dsimp only at hSw)
          go_simp
          try with_reducible rfl
         try simp only [Act.put, aq, ah, au]
         refine af.take (i := 8) (v := ?F5) rfl (by kernel_rfl) (fun _ _ _ h => h) (by rfl) (fun w hSw => ?rO) hS ?F6
         case rO =>
          (try dsimp only at hSw)
          go_simp
          try with_reducible rfl
         try simp only [Act.put, aq, ah, au]
         refine af.take (i := 9) (v := ?Vs) rfl (by kernel_rfl) (fun _ _ _ h => h) (by rfl) (fun w hSw => ?CR) hS ?Vt
         case CR =>
          (try dsimp only at hSw)
          go_simp
          try with_reducible rfl
         try simp only [Act.put, aq, ah, au]
         refine af.take (i := 10) (v := ?QG) rfl (by kernel_rfl) (fun _ _ _ h => h) (by rfl) (fun w hSw => ?yZ) hS ?QH
         case yZ =>
          (try dsimp only at hSw)
          go_simp
          try with_reducible rfl
         try simp only [Act.put, aq, ah, au]
         refine af.take (i := 11) (v := ?gv11k1) rfl (by kernel_rfl) (fun _ _ _ h => h) (by rfl) (fun w hSw => ?JF) hS ?gr11k1
         case JF =>
          (try dsimp only at hSw)
          go_simp
          try with_reducible rfl
         try simp only [Act.put, aq, ah, au]
         refine af.take (i := 12) (v := ?gv12k1) rfl (by kernel_rfl) (fun _ _ _ h => h) (by rfl) (fun w hSw => ?gy12k1) hS ?gr12k1
         case gy12k1 =>
          (try dsimp only at hSw)
          go_simp
          try with_reducible rfl
         try simp only [Act.put, aq, ah, au]
         refine af.step (i := 13) rfl (by kernel_rfl) (fun K' hK => ?_)
         go_simp
         have bq := (Up.alloc wq (.cells #[.string (pairT sn tm)] 9)).trans (Up.drewN _ 1)
         have hAT := Rb.out.next bq
         have HS13 := aa (And.intro (bq.cell hca) (bq.cell hcb))
         have HC13 := aa (uW wq (.string (pairT sn tm)) 9)
         have rj := aa hAT
         clear bq hAT
         refine hK.out _ _ (fun _ => HS13.out) (fun hS => ?_)
         replace hS := hS ⟨14, by decide, rfl⟩
         try simp only [aq, ah, au]
         refine af.step (i := 14) rfl (by kernel_rfl) (fun K' hK => ?_)
         refine gy (by rfl) _ _ _ (by rfl) w.heap.size 9 _ 16 Tryz.underlying22 Tryz.jf (by rfl) (by decide) (by rfl) rj.out.own (.string (pairT sn tm)) wq.heap.size (by rfl) HC13.out (by rfl) (by rw [List.length_map]; exact uj.out) (by obtain ⟨z1, z2, z3⟩ := rj.out.sz; exact Nat.le_trans z1 (Nat.le_trans z2 z3)) ?_
         intro g8 c8 w8 ho8 hg8 hr8 _
         have Aw := rj.out.app ho8 hg8 (hr8.imp id fun e => Nat.le_of_eq e.symm)
         have HA8 := aa Aw
         clear ho8 hg8 hr8 Aw
         refine hK.out _ _ (aJ (by kernel_rfl)) (fun _ => ?_)
         try simp only [Act.put, aq, ah, au]
         refine af.step (i := 15) rfl (by kernel_rfl) (fun K' hK => ?_)
         go_simp
         refine hK.out _ _ (aJ (by kernel_rfl)) (fun _ => ?_)
         refine af.done (by kernel_rfl) ?_
         go_wp2_with fail
         go_roundw
         case rel => exact ⟨q + 1, Ra.out, by go_num, by rw [qI.out]; have h := HA8.out; rw [List.length_map] at h; exact h⟩
         case measure => have := Ra.out; simp [intOf]; omega
        ·obtain rfl : q = (bJ (eB names n)).length := by omega
         have Rb : Hid (qO wo.heap.size w W2 wq u3 (qN names n ++ ry names n (k + 1))) := by
          have h := hB.out
          rw [List.take_length] at h
          unfold Hid
          rw [PM.out, ← List.append_assoc]; exact h
         clear hB Mp
         go_wp2_with fail
         go_roundw
         case rel => exact ⟨k + 1, Kg.out, by go_num, Rb.out⟩
         case measure => have := Kg.out; simp [intOf]; omega
      ·obtain rfl : k = (bJ (eA names n)).length := by omega
       have Rb : Hid (RfI w names (n + 1) u3 wp) := by
        have h := hA.out
        rw [WX, ← TN] at h
        exact ⟨h.up, h.own⟩
       clear hA hlk
       go_wp2_with fail
       go_roundw
       case rel => exact ⟨n + 1, aY.out, by go_num, Rb.out⟩
       case measure => have := aY.out; simp [intOf]; omega
  ·obtain rfl : n = M - 1 := by omega
   have i1 : ¬ ((M - 1 : Nat) : Int) < ((M - 1 : Nat) : Int) := by omega
   have eD : Hid (vT w names (.returned u3) wo) := by
    refine ⟨gH, _, rfl, ?_⟩
    have e : bJ names = qN names (M - 1) := by rw [rfT_eq h2, HM.out]; rfl
    rw [e]; exact VM
   clear hI gH VM hlt
   go_wp2_with fail
   go_ret
   exact eD.out
end
end Go.Proofs.YteegefnjnikngaaGreat
