/- The contract of layer 31's reference's SameTree, at any trees; Same. slices.Compact at .. -/
import Derived.Test.YteegefnjnikngaaGreatQ1
import Derived.Test.YteegefnjnikngaaGreatQ27
import Derived.Test.YteegefnjnikngaaGreatQ25
import Derived.Test.YteegefnjnikngaaGreatQ26
import Derived.Test.YteegefnjnikngaaGreatQ34
import Derived.Shelf.Lays2
import Derived.Shelf.Slices.CompactI
import Derived.Ground.Names2Prog
import Derived.Test.YteegefnjnikngaaGreatQ36
set_option maxRecDepth 100000
namespace Go.Proofs.YteegefnjnikngaaGreat
open Go.RowKit Go.Deep
theorem RD {a b : List Int} (hl : a.length = b.length) (h : ∀ k, k < a.length → gi a k = gi b k) : a = b := by
 refine List.ext_getElem hl fun k h1 h2 => ?_
 have := h k h1
 simpa [gi, h1, h2] using this
theorem RF {a b : List ByteArray} (hl : a.length = b.length) (h : ∀ k, k < a.length → gs a k = gs b k) : a = b := by
 refine List.ext_getElem hl fun k h1 h2 => ?_
 have := h k h1
 simpa [gs, h1, h2] using this
theorem RG {t u : av} (h1 : t.ps = u.ps) (h2 : t.ns = u.ns) : t = u := by
 cases t; cases u
 simp only at h1 h2
 rw [h1, h2]
set_option maxHeartbeats 4000000 in
theorem FY (S T : Nat → Prop) (w : World) (v u : Value) (t q : av) (h : ay S w v t) (h2 : ay T w u q) (hp : t.ps.length ≤ 1000000) (hn : t.ns.length ≤ 1000000) (hne : t ≠ q) :
  Calls Tryz.prog 44 #[v, u] w fun e w' => e = .returned (.bool false) ∧ Up w w' := by
 obtain ⟨P, N, rfl, hP, hN⟩ := h
 obtain ⟨P2, N2, rfl, gh, gj⟩ := h2
 obtain ⟨pp, pc, rfl, _, _⟩ := aA.open hP
 obtain ⟨np, nc, rfl, _, _⟩ := aA.open hN
 obtain ⟨o7, o8, rfl, _, _⟩ := aA.open gh
 obtain ⟨o9, pg, rfl, _, _⟩ := aA.open gj
 have hP : ax S w (.slice pp t.ps.length pc) t.ps := hP
 have hN : au S w (.slice np t.ns.length nc) t.ns := hN
 have gh : ax T w (.slice o7 q.ps.length o8) q.ps := gh
 have gj : au T w (.slice o9 q.ns.length pg) q.ns := gj
 have aS := Up.alloc w (.cells #[.slice pp t.ps.length pc, .slice np t.ns.length nc] 39)
 have aF := Up.alloc (w.alloc (.cells #[.slice pp t.ps.length pc, .slice np t.ns.length nc] 39)) (.cells #[.slice o7 q.ps.length o8, .slice o9 q.ns.length pg] 39)
 have hu := aS.trans aF
 have a0 := aF.cell (dO w (.slice pp t.ps.length pc) (.slice np t.ns.length nc) 39)
 have a1 := aF.cell (dP w (.slice pp t.ps.length pc) (.slice np t.ns.length nc) 39)
 have b0 := dO (w.alloc (.cells #[.slice pp t.ps.length pc, .slice np t.ns.length nc] 39)) (.slice o7 q.ps.length o8) (.slice o9 q.ns.length pg) 39
 have b1 := dP (w.alloc (.cells #[.slice pp t.ps.length pc, .slice np t.ns.length nc] 39)) (.slice o7 q.ps.length o8) (.slice o9 q.ns.length pg) 39
 rw [World.size_alloc] at b0 b1
 have HP := aa (ax.keep hP (hu.kept S))
 have HN := aa (au.keep hN (hu.kept S))
 have Ut := aa (ax.keep gh (hu.kept T))
 have D9 := aa (au.keep gj (hu.kept T))
 have HU := aa hu
 have A0 := aa a0
 have A1 := aa a1
 have Uu := aa b0
 have Uv := aa b1
 have zk := aa hne
 have iJ := aa (And.intro hp hn)
 clear hP hN gh gj hu aS aF hne hp hn
 by_cases l0 : t.ps.length = q.ps.length
 rotate_left
 ·have d0 : ((t.ps.length : Int) != (q.ps.length : Int)) = true := bne_iff_ne.2 (by omega)
  go_enter Tryz.func44, Tryz.ntmps44
  go_wp2_with fail
  go_ret
  exact ⟨rfl, HU.out⟩
 by_cases l1 : t.ns.length = q.ns.length
 rotate_left
 ·have d0 : ((t.ps.length : Int) != (q.ps.length : Int)) = false := by rw [l0]; simp
  have d1 : ((t.ns.length : Int) != (q.ns.length : Int)) = true := bne_iff_ne.2 (by omega)
  have L0 := aa l0
  clear l0
  go_enter Tryz.func44, Tryz.ntmps44
  go_wp2_with fail
  go_ret
  exact ⟨rfl, HU.out⟩
 have d0 : ((t.ps.length : Int) != (q.ps.length : Int)) = false := by rw [l0]; simp
 have d1 : ((t.ns.length : Int) != (q.ns.length : Int)) = false := by rw [l1]; simp
 have L0 := aa l0
 have L1 := aa l1
 clear l0 l1
 go_enter Tryz.func44, Tryz.ntmps44
 go_wp2_with fail
 clear a0 a1 b0 b1
 clear d0 d1
 generalize (w.alloc (.cells #[.slice pp t.ps.length pc, .slice np t.ns.length nc] 39)).alloc (.cells #[.slice o7 q.ps.length o8, .slice o9 q.ns.length pg] 39) = w1 at *
 go_loopw [5] (fun i wr => ∃ k : Nat, k ≤ t.ps.length ∧ i = .int .i64 k ∧ Hid (QD w1 wr) ∧ Hid (∀ j, j < k → gi t.ps j = gi q.ps j)) (fun i _ => t.ps.length - (intOf i).toNat)
 case atStart => exact ⟨0, Nat.zero_le _, rfl, QD.refl _, fun j hj => by omega⟩
 case round =>
  obtain ⟨k, hk, rfl, hQ, hd⟩ := hrel
  have HD := aa hd.out
  clear hd
  have a0 := hQ.out.up.cell A0.out
  have b0 := hQ.out.up.cell Uu.out
  by_cases hlt : k < t.ps.length
  ·obtain ⟨b, off, rfl, hc⟩ := dQ (ax.keep HP.out (hQ.out.kept S)) hlt
   obtain ⟨b2, off2, rfl, hc2⟩ := dQ (ax.keep Ut.out (hQ.out.kept T)) (by rw [← L0.out]; exact hlt)
   have i1 : (0 : Int) ≤ (k : Int) := by omega
   have i2 : (k : Int) < (t.ps.length : Int) := by omega
   have i4 : (k : Int) < (q.ps.length : Int) := by have := L0.out; omega
   have i3 : (k : Int) < 1000000 := by have := iJ.out.1; omega
   have aQ := aa hlt
   by_cases e : gi t.ps k = gi q.ps k
   ·have j1 : (gi t.ps k != gi q.ps k) = false := by rw [e]; simp
    have VV : Hid (∀ j, j < k + 1 → gi t.ps j = gi q.ps j) := fun j hj => by
     by_cases x : j = k
     ·rw [x]; exact e
     ·exact HD.out j (by omega)
    clear e hlt hk
    generalize gi t.ps k = x at *
    generalize gi q.ps k = y at *
    go_wp2_with fail
    go_quiet (fail)
    go_wp2_with fail
    go_roundw
    case rel => exact ⟨k + 1, aQ.out, by go_num, hQ.out.drewN nq, VV.out⟩
    case measure => have := aQ.out; simp [intOf]; omega
   ·have j1 : (gi t.ps k != gi q.ps k) = true := bne_iff_ne.2 e
    clear hlt hk
    generalize gi t.ps k = x at *
    generalize gi q.ps k = y at *
    go_wp2_with fail
    go_quiet (fail)
    go_wp2_with fail
    go_ret
    exact ⟨rfl, HU.out.trans (hQ.out.drewN nq).up⟩
  ·obtain rfl : k = t.ps.length := by omega
   have Uw := aa hQ.out
   have L3 : Hid (t.ps = q.ps) := RD L0.out HD.out
   have m1 : ¬ (t.ps.length : Int) < (t.ps.length : Int) := by omega
   clear hlt hk
   go_wp2_with fail
   go_loopw [6] (fun i wr => ∃ k : Nat, k ≤ t.ns.length ∧ i = .int .i64 k ∧ Hid (QD w1 wr) ∧ Hid (∀ j, j < k → gs t.ns j = gs q.ns j)) (fun i _ => t.ns.length - (intOf i).toNat)
   case atStart => exact ⟨0, Nat.zero_le _, rfl, Uw.out, fun j hj => by omega⟩
   case round =>
    obtain ⟨k, hk, rfl, hQ, hd⟩ := hrel
    have HD := aa hd.out
    clear hd
    have a1 := hQ.out.up.cell A1.out
    have b1 := hQ.out.up.cell Uv.out
    by_cases hlt : k < t.ns.length
    ·obtain ⟨b, off, rfl, hc⟩ := bQ (au.keep HN.out (hQ.out.kept S)) hlt
     obtain ⟨b2, off2, rfl, hc2⟩ := bQ (au.keep D9.out (hQ.out.kept T)) (by rw [← L1.out]; exact hlt)
     have i1 : (0 : Int) ≤ (k : Int) := by omega
     have i2 : (k : Int) < (t.ns.length : Int) := by omega
     have i4 : (k : Int) < (q.ns.length : Int) := by have := L1.out; omega
     have i3 : (k : Int) < 1000000 := by have := iJ.out.2; omega
     have aQ := aa hlt
     by_cases e : gs t.ns k = gs q.ns k
     ·have j1 : ((gs t.ns k).toList == (gs q.ns k).toList) = true := by rw [e]; simp
      have VV : Hid (∀ j, j < k + 1 → gs t.ns j = gs q.ns j) := fun j hj => by
       by_cases x : j = k
       ·rw [x]; exact e
       ·exact HD.out j (by omega)
      clear e hlt hk
      generalize gs t.ns k = x at *
      generalize gs q.ns k = y at *
      go_wp2_with fail
      go_quiet (fail)
      go_wp2_with fail
      go_roundw
      case rel => exact ⟨k + 1, aQ.out, by go_num, hQ.out.drewN nq, VV.out⟩
      case measure => have := aQ.out; simp [intOf]; omega
     ·have j1 : ((gs t.ns k).toList == (gs q.ns k).toList) = false := by
       rw [beq_eq_false_iff_ne, toList_data, toList_data]
       exact fun h => e (dH h)
      clear hlt hk e
      generalize gs t.ns k = x at *
      generalize gs q.ns k = y at *
      go_wp2_with fail
      go_quiet (fail)
      go_wp2_with fail
      go_ret
      exact ⟨rfl, HU.out.trans (hQ.out.drewN nq).up⟩
    ·obtain rfl : k = t.ns.length := by omega
     exact absurd (RG L3.out (RF L1.out HD.out)) zk.out
theorem zu (S T : Nat → Prop) (w : World) (v u : Value) (t q : av) (h : ay S w v t) (h2 : ay T w u q) (hp : t.ps.length ≤ 1000000) (hn : t.ns.length ≤ 1000000) :
  Calls Tryz.prog 44 #[v, u] w fun e w' => e = .returned (.bool (decide (t = q))) ∧ Up w w' := by
 by_cases e : t = q
 ·subst e
  rw [decide_eq_true rfl]
  exact D8 S T w v u t h h2 hp hn
 ·rw [decide_eq_false e]
  exact FY S T w v u t q h h2 hp hn e
end Go.Proofs.YteegefnjnikngaaGreat
namespace Go.Proofs
open Go.Shelf
def Tryz.compactZ_ren : Go.Shelf.Ren := ⟨fun | 20 => 77 | n => n, fun | 22 => 26 | 3 => 3 | 4 => 4 | 0 => 0 | n => n, fun | n => n⟩
theorem Tryz.compactZ : Go.Proofs.Lays2.n20 Tryz.prog Tryz.compactZ_ren := {
 mixed := by kernel_rfl
 f20 := Tryz.func77.trans (congrArg some (by kernel_rfl))
 t0 := Tryz.underlying0
 a0 := Tryz.isAgg0
 z0 := Tryz.sizeOf0
 v0 := Tryz.zeroValue0
 t3 := Tryz.underlying3
 a3 := Tryz.isAgg3
 z3 := Tryz.sizeOf3
 v3 := Tryz.zeroValue3
 t4 := Tryz.underlying4
 a4 := Tryz.isAgg4
 z4 := Tryz.sizeOf4
 v4 := Tryz.zeroValue4
 t22 := Tryz.underlying26
 a22 := Tryz.isAgg26
 z22 := Tryz.sizeOf26
 v22 := Tryz.zeroValue26
 i3 := by kernel_rfl }
end Go.Proofs
namespace Go.Proofs.YteegefnjnikngaaGreat
section
open Go.RowKit Go.Shelf Go.Deep Go.Sort
theorem FZ {w : World} {g n : Nat} (d : Array Int) : w.grownBy (putRow (Value.int .i64) (Sort.ahead w n) g 0 d) (some g) := by
 refine ⟨rfl, rfl, rfl, by simp [putRow, mapBlock, Sort.ahead], fun k hk hne => ?_⟩
 have : g ≠ k := fun e => hne (by rw [e])
 simp [putRow, mapBlock, Sort.ahead, Array.getElem?_modify, this]
theorem Mb (w w1 : World) (v : Value) (xs : List Int) (hu : Up w w1) (ho : az w.heap.size 3 w1 v (xs.map (Value.int .i64))) (hlen : xs.length ≤ 1000000) :
  Calls Tryz.prog 77 #[v] w1 fun e w' => (∃ p cap, e = .returned (.slice p (Lib.compact xs).length cap)) ∧ Up w w' := by
 rcases ho.2 with ⟨rfl, h0⟩ | ⟨g, cap, cur, rfl, hg, hc, hn, hcm, hcs, ht⟩
 ·have hx : xs = [] := by cases xs with | nil => rfl | cons _ _ => simp at h0
  subst hx
  refine (Any.slices_Compact_int_empty Tryz.compactZ none 0 w1).mono ?_
  rintro e w' ⟨rfl, rfl⟩
  exact ⟨⟨_, _, rfl⟩, hu⟩
 ·simp only [List.length_map] at hn ht ho ⊢
  refine (Any.slices_Compact_int Tryz.compactZ g 0 cap xs w1 (holds_of_blockI hc (by simpa using ht)) (by omega) (by omega)).mono ?_
  rintro e w' ⟨rfl, q, rfl⟩
  exact ⟨⟨_, _, rfl⟩, Below.grown hu (FZ _) hu.size (fun j hj => by cases hj; exact hg)⟩
end
section
open Go
theorem jH (l : List Int) (j : Nat) : l.toArray[j]! = gi l j := by
 unfold gi
 by_cases h : j < l.length
 ·simp [h]
 ·simp [h]
theorem qX (l : List Int) (x : Int) : ∀ m, x ∈ Lib.compactUpTo l.toArray m ↔ ∃ j, j < m ∧ gi l j = x
 | 0 => by simp [Lib.compactUpTo]
 | m + 1 => by
  rw [Lib.compactUpTo_succ, List.mem_append, qX l x m, jH]
  constructor
  ·rintro (⟨j, hj, e⟩ | h)
   ·exact ⟨j, by omega, e⟩
   ·by_cases hk : Lib.keeps l.toArray m = true
    ·rw [if_pos hk] at h; exact ⟨m, by omega, (List.mem_singleton.1 h).symm⟩
    ·rw [if_neg hk] at h; cases h
  ·rintro ⟨j, hj, e⟩
   by_cases hjm : j = m
   ·subst hjm
    by_cases hk : Lib.keeps l.toArray j = true
    ·rw [if_pos hk]; exact .inr (by simp [e])
    ·unfold Lib.keeps at hk
     rw [jH, jH] at hk
     simp only [decide_eq_true_eq, not_or, ne_eq, Classical.not_not] at hk
     exact .inl ⟨j - 1, by omega, by rw [← hk.2]; exact e⟩
   ·exact .inl ⟨j, by omega, e⟩
theorem tP {l : List Int} (hs : ∀ i j, i < j → j < l.length → gi l i ≤ gi l j) : ∀ m, m ≤ l.length → (Lib.compactUpTo l.toArray m).Nodup
 | 0, _ => by simp [Lib.compactUpTo]
 | m + 1, h => by
  rw [Lib.compactUpTo_succ, List.nodup_append]
  refine ⟨tP hs m (by omega), by split <;> simp, fun a ha b hb e => ?_⟩
  subst e
  obtain ⟨j, hj, e⟩ := (qX l a m).1 ha
  by_cases hk : Lib.keeps l.toArray m = true
  ·rw [if_pos hk, jH] at hb
   have hb : a = gi l m := by simpa using hb
   unfold Lib.keeps at hk
   rw [jH, jH] at hk
   simp only [decide_eq_true_eq, ne_eq] at hk
   have hne : gi l m ≠ gi l (m - 1) := hk.resolve_left (by omega)
   have h1 : gi l j ≤ gi l (m - 1) := by
    by_cases e2 : j = m - 1
    ·rw [e2]; exact Int.le_refl _
    ·exact hs j (m - 1) (by omega) (by omega)
   have h2 := hs (m - 1) m (by omega) (by omega)
   omega
  ·rw [if_neg hk] at hb; cases hb
theorem OO (xs : List Int) : ∀ i j, i < j → j < (gM xs).length → gi (gM xs) i ≤ gi (gM xs) j := fun i j hij hj => by
 have hp : (gM xs).Pairwise fun a b => decide (a ≤ b) = true := List.pairwise_mergeSort (le := fun x y => decide (x ≤ y)) (fun a b c h1 h2 => by simp at *; omega) (fun a b => by simp; omega) xs
 have := List.pairwise_iff_getElem.1 hp i j (by omega) hj hij
 have hi : i < (gM xs).length := by omega
 simpa [gi, hi, hj] using this
theorem Mc {xs : List Int} {x : Int} : x ∈ gM xs ↔ x ∈ xs := (List.mergeSort_perm xs _).mem_iff
theorem Cb (xs : List Int) : (Lib.compact (gM xs)).length = (dd xs).length := by
 have hn := tP (OO xs) _ (Nat.le_refl _)
 have hm : ∀ x, x ∈ Lib.compact (gM xs) ↔ x ∈ dd xs := fun x => by
  unfold Lib.compact
  rw [qX, jt, ← Mc]
  constructor
  ·rintro ⟨j, hj, e⟩; rw [← e]; exact tX hj
  ·intro h; exact LC h
 exact Nat.le_antisymm (List.Nodup.length_le_of_subset hn fun x hx => (hm x).1 hx) (List.Nodup.length_le_of_subset (kC xs) fun x hx => (hm x).2 hx)
theorem wZ {st : List Int} {k : Nat} (hk : k < st.length) : aV (st.take (k + 1)) = aV (st.take k) ++ (if 0 ≤ gi st k then [gi st k] else []) := by
 rw [QL hk]
 unfold aV
 rw [List.filter_append]
 congr 1
 by_cases h : 0 ≤ gi st k
 ·rw [if_pos h]; simp [h]
 ·rw [if_neg h]; simp [h]
theorem Cc (st : List Int) (k : Nat) : (aV (st.take k)).length ≤ k := Nat.le_trans (List.length_filter_le _ _) (by simp; omega)
end
end Go.Proofs.YteegefnjnikngaaGreat
