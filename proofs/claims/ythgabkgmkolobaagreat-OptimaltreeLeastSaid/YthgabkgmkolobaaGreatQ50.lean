/- Contracts of the references: Check of layer 30; right, check, Support, Original, .. -/
import Derived.Laws.Bits64b
import Derived.Laws.BitsAllLaws
import Derived.RangeFuncNested
import Derived.RangeFuncBound
import Derived.RangeFuncCalls
import Derived.RangeFuncLeaves
import Derived.Shelf.Abstract
import Derived.Shelf.RegionOpen
import Derived.WalkKit
import Derived.OwnWalkIn
import Derived.TacticsInMore
import Derived.LoopNIn
import Derived.LoopIn
import Derived.Sort.QuietIn
import Derived.Stop.RegionWithIn
import Derived.Test.YthgabkgmkolobaaGreatProg
import Derived.WalkSpells
import Derived.WalkLawsBesides
import Derived.Deep.OwnRows
import Derived.Deep.QuietTactic
import Derived.BigQuiet
import Derived.Lib.Hide
import Derived.Shelf.Small.Strs
import Derived.Maps.AppendAt
import Derived.Deep.AppendLies
import Derived.Test.YthgabkgmkolobaaGreatQ19
import Derived.Test.YthgabkgmkolobaaGreatQ15
import Derived.Test.YthgabkgmkolobaaGreatQ6
import Derived.Test.YthgabkgmkolobaaGreatQ5
import Derived.Test.YthgabkgmkolobaaGreatQ3
import Derived.Test.YthgabkgmkolobaaGreatQ2
import Derived.Test.YthgabkgmkolobaaGreatQ1
import Derived.Test.YthgabkgmkolobaaGreatQ49
import Derived.Test.YthgabkgmkolobaaGreatQ4
import Derived.Test.YthgabkgmkolobaaGreatQ17
import Derived.Laws.IdiomStrings
import Derived.Sort.OwnSorted
import Derived.Shelf.Slices.In.SortNone
import Derived.Shelf.SlGeneric
import Derived.Shelf.Lays
import Derived.Shelf.Sort.Plain
import Derived.Ground.NamesProg
import Derived.Test.YthgabkgmkolobaaGreatQ21
import Derived.Lib.IndexAny
import Derived.RangeFuncWrites
import Derived.RangeFuncKeeps
import Derived.Laws.EntriesVeiled
import Derived.Lib.Bytealg
import Derived.Sort.Statements
import Derived.MapKept
import Derived.Laws.Pointers
import Derived.Shelf.SlSortCmp.NoneTotal
import Derived.Deep.RegionHeld3
import Derived.OrdersHeld
import Derived.Deep.RegionHeld
import Derived.StillTailTactics
import Derived.OrdersIn
import Derived.StillTail
import Derived.Lib.MinMax
import Derived.Shelf.Strings.BuilderK
import Derived.Ground.Names2Prog
import Derived.Lib.SliceRun
import Derived.Deep.CutRange
import Derived.Shelf.SortM.Plain
import Derived.Shelf.SortM.SortNone
import Derived.Sort.OwnSortedInts
import Derived.Shelf.SlLaysM
import Derived.Ground.SlgmProg
import Derived.Test.YthgabkgmkolobaaGreatQ27
import Derived.Test.YthgabkgmkolobaaGreatQ26
import Derived.Test.YthgabkgmkolobaaGreatQ24
import Derived.Test.YthgabkgmkolobaaGreatQ23
import Derived.Test.YthgabkgmkolobaaGreatQ22
import Derived.Test.YthgabkgmkolobaaGreatQ16
import Derived.Test.YthgabkgmkolobaaGreatQ14
import Derived.Test.YthgabkgmkolobaaGreatQ13
import Derived.Test.YthgabkgmkolobaaGreatQ12
import Derived.Test.YthgabkgmkolobaaGreatQ10
import Derived.Test.YthgabkgmkolobaaGreatQ8
import Derived.Test.YthgabkgmkolobaaGreatQ7
import Derived.Test.YthgabkgmkolobaaGreatQ9
import Derived.Test.YthgabkgmkolobaaGreatQ11
import Derived.Test.YthgabkgmkolobaaGreatQ25
import Derived.Test.YthgabkgmkolobaaGreatQ29
import Derived.Test.YthgabkgmkolobaaGreatQ30
set_option maxRecDepth 100000
namespace Go.Proofs.YthgabkgmkolobaaGreat
section
open Go.RowKit Go.Deep
set_option maxHeartbeats 4000000 in
theorem Nx (S : Nat → Prop) (w : World) (v : Value) (xs : List (List Int)) (h : aU S w v xs) (hn : xs.length ≤ 1000000) (hr : ∀ k, (gl xs k).length ≤ 1000000) :
  Calls Tryz.prog 60 #[v] w fun e w' => e = .returned (.int .i64 (cn xs)) ∧ QD w w' := by
 obtain ⟨p, cap, rfl, hcap, _⟩ := eR h
 have H := aa h
 have HR := aa hr
 have HF : Hid (cn xs = if xs.length = 0 then 5 else if 32 < xs.length ∨ 4096 < (gl xs 0).length then 4 else firstNZ (iY xs) xs.length) := rfl
 clear h hr
 by_cases h0 : xs.length = 0
 ·have HX : Hid (cn xs = 5) := by unfold Hid; rw [HF.out, if_pos h0]
  have d0 : ((xs.length : Int) == 0) = true := by simp [h0]
  clear h0
  go_enter Tryz.func60, Tryz.ntmps60
  go_wp2_with fail
  go_ret
  exact ⟨aI HX.out.symm, QD.refl _⟩
 have d0 : ((xs.length : Int) == 0) = false := by simpa using h0
 have Yt : 0 < xs.length := by omega
 by_cases h1 : 32 < xs.length
 ·have HX : Hid (cn xs = 4) := by unfold Hid; rw [HF.out, if_neg h0, if_pos (.inl h1)]
  have d1 : decide ((32 : Int) < (xs.length : Int)) = true := by simp; omega
  clear h0 h1
  go_enter Tryz.func60, Tryz.ntmps60
  go_wp2_with fail
  go_ret
  exact ⟨aI HX.out.symm, QD.refl _⟩
 have d1 : decide ((32 : Int) < (xs.length : Int)) = false := by simp; omega
 obtain ⟨b, off, q0, c0, rfl, hc0, _⟩ := iL H.out Yt
 have RU : w.cell? ⟨b, off, none⟩ = some (.slice q0 (gl xs 0).length c0) := by simpa using hc0
 have hlen0 := HR.out 0
 clear hc0
 by_cases h2 : 4096 < (gl xs 0).length
 ·have HX : Hid (cn xs = 4) := by unfold Hid; rw [HF.out, if_neg h0, if_pos (.inr h2)]
  have d2 : decide ((4096 : Int) < ((gl xs 0).length : Int)) = true := by simp; omega
  clear h0 h1 h2
  go_enter Tryz.func60, Tryz.ntmps60
  go_wp2_with fail
  go_ret
  exact ⟨aI HX.out.symm, QD.refl _⟩
 have d2 : decide ((4096 : Int) < ((gl xs 0).length : Int)) = false := by simp; omega
 have mQ : Hid (cn xs = firstNZ (iY xs) xs.length) := by unfold Hid; rw [HF.out, if_neg h0, if_neg (by omega)]
 have OX : Hid (∀ k, iY xs k = if (gl xs k).length ≠ (gl xs 0).length then 9 else if iy (gl xs k) (-1) 16 then 2 else 0) := fun _ => rfl
 have eH := aa RU
 clear HF h0 h1 h2
 generalize hl0 : (gl xs 0).length = l0 at *
 clear hl0
 go_enter Tryz.func60, Tryz.ntmps60
 go_wp2_with fail
 go_loopw [3, 4] (fun i _ wr => ∃ k : Nat, k ≤ xs.length ∧ i = .int .i64 k ∧ Hid (QD w wr) ∧ Hid (∀ j, j < k → iY xs j = 0)) (fun i _ _ => xs.length - (intOf i).toNat)
 case atStart => exact ⟨0, Nat.zero_le _, rfl, QD.refl _, fun j hj => absurd hj (Nat.not_lt_zero _)⟩
 case round =>
  obtain ⟨k, hk, rfl, hQ, hd⟩ := hrel
  obtain ⟨wo, rfl⟩ : ∃ wo : World, wo = wr := ⟨_, rfl⟩
  have RU := hQ.out.up.cell eH.out
  by_cases hlt : k < xs.length
  ·obtain ⟨b', off', qk, ck, e1, xH, hik⟩ := iL (H.out.keep (hQ.out.kept S)) hlt
   injection e1 with e1
   injection e1 with e1 e2
   subst e1; subst e2
   have i1 : (0 : Int) ≤ (k : Int) := by omega
   have i2 : (k : Int) < (xs.length : Int) := by omega
   have HK := aa (OX.out k)
   have xg := aa hik
   have eY := aa xH
   have zS := HR.out k
   clear hik
   by_cases iz : (gl xs k).length = l0
   ·have fA : (((gl xs k).length : Int) != (l0 : Int)) = false := by simp [iz]
    rw [if_neg (fun e => e iz)] at HK
    clear iz
    go_wp2_with fail
    go_quiet (fail)
    go_wp2_with fail
    go_loopw [4] (fun i wr => ∃ m : Nat, m ≤ (gl xs k).length ∧ i = .int .i64 m ∧ Hid (QD w wr ∧ QD wo wr) ∧ Hid (∀ j, j < m → (decide (gi (gl xs k) j < -1) || decide (16 ≤ gi (gl xs k) j)) = false)) (fun i _ => (gl xs k).length - (intOf i).toNat)
    case atStart => exact ⟨0, Nat.zero_le _, rfl, ⟨hQ.out.drewN nq, ⟨nq, rfl⟩⟩, fun j hj => absurd hj (Nat.not_lt_zero _)⟩
    case round =>
     obtain ⟨m, hm, rfl, Fo, hd2⟩ := hrel
     obtain ⟨wi, rfl⟩ : ∃ wi : World, wi = wr := ⟨_, rfl⟩
     have xH := Fo.out.2.up.cell eY.out
     by_cases VA : m < (gl xs k).length
     ·obtain ⟨mb, mo, rfl, hmc⟩ := cK (aq.keep xg.out (Fo.out.2.kept S)) VA
      have j1 : (0 : Int) ≤ (m : Int) := by omega
      have j2 : (m : Int) < ((gl xs k).length : Int) := by omega
      generalize hgy : gi (gl xs k) m = y at *
      have HGY := aa hgy
      clear hgy
      by_cases c1 : y < -1
      ·have e1 : decide (y < -1) = true := by simpa using c1
       have HX : Hid (cn xs = 2) := by
        unfold Hid
        have hst : iy (gl xs k) (-1) 16 = true := nv (p := fun j => decide (gi (gl xs k) j < -1) || decide (16 ≤ gi (gl xs k) j)) VA (by rw [HGY.out, e1]; rfl)
        have hrow : iY xs k = 2 := by rw [HK.out, if_pos hst]
        rw [mQ.out, fG hlt hd.out (by rw [hrow]; decide), hrow]
       clear c1
       go_wp2_with fail
       go_ret
       exact ⟨aI HX.out.symm, Fo.out.1⟩
      ·have e1 : decide (y < -1) = false := by simpa using c1
       by_cases c2 : 16 ≤ y
       ·have e2 : decide (16 ≤ y) = true := by simpa using c2
        have HX : Hid (cn xs = 2) := by
         unfold Hid
         have hst : iy (gl xs k) (-1) 16 = true := nv (p := fun j => decide (gi (gl xs k) j < -1) || decide (16 ≤ gi (gl xs k) j)) VA (by rw [HGY.out, e2, Bool.or_true])
         have hrow : iY xs k = 2 := by rw [HK.out, if_pos hst]
         rw [mQ.out, fG hlt hd.out (by rw [hrow]; decide), hrow]
        clear c1 c2
        go_wp2_with fail
        go_ret
        exact ⟨aI HX.out.symm, Fo.out.1⟩
       ·have e2 : decide (16 ≤ y) = false := by simpa using c2
        have HY : Hid ((decide (gi (gl xs k) m < -1) || decide (16 ≤ gi (gl xs k) m)) = false) := by unfold Hid; rw [HGY.out, e1, e2]; rfl
        clear c1 c2
        go_wp2_with fail
        go_roundw
        case rel => exact ⟨m + 1, by omega, by go_num, ⟨Fo.out.1, Fo.out.2⟩, fun j hj => if e : j = m then by subst e; exact HY.out else hd2.out j (by omega)⟩
        case measure => simp [intOf]; omega
     ·obtain rfl : m = (gl xs k).length := by omega
      have sZ : Hid (iY xs k = 0) := by
       unfold Hid
       have hst : iy (gl xs k) (-1) 16 = false := any_none hd2.out
       rw [HK.out, if_neg (by rw [hst]; decide)]
      have HQ2 := aa Fo.out.1
      clear VA hm hd2 Fo
      go_wp2_with fail
      go_roundw
      case rel => exact ⟨k + 1, by omega, by go_num, HQ2.out, fun j hj => if e : j = k then by subst e; exact sZ.out else hd.out j (by omega)⟩
      case measure => simp [intOf]; omega
   ·have fA : (((gl xs k).length : Int) != (l0 : Int)) = true := by simp; omega
    have HX : Hid (cn xs = 9) := by
     unfold Hid
     have hrow : iY xs k = 9 := by rw [HK.out, if_pos iz]
     rw [mQ.out, fG hlt hd.out (by rw [hrow]; decide), hrow]
    clear iz
    go_wp2_with fail
    go_quiet (fail)
    go_wp2_with fail
    go_ret
    exact ⟨aI HX.out.symm, hQ.out.drewN nq⟩
  ·obtain rfl : k = xs.length := by omega
   have HX : Hid (cn xs = 0) := by unfold Hid; rw [mQ.out, dJ hd.out]
   clear hlt hk
   go_wp2_with fail
   go_ret
   exact ⟨aI HX.out.symm, hQ.out⟩
end
section
open Go.RowKit Go.Deep
theorem TE {xs ys : List ByteArray} (hl : xs.length = ys.length) (h : ∀ j, j < xs.length → gs xs j = gs ys j) : xs = ys := by
 refine List.ext_getElem hl fun i h1 h2 => ?_
 have := h i h1
 simpa [gs, h1, h2] using this
set_option maxHeartbeats 400000 in
theorem KC (S T : Nat → Prop) (w : World) (v u : Value) (xs ys : List ByteArray) (h : ah S w v xs) (h2 : ah T w u ys) (hn : xs.length ≤ 1000000) (hn2 : ys.length ≤ 1000000) :
  Calls Tryz.prog 149 #[v, u] w (QO w (decide (xs = ys))) := by
 obtain ⟨p, cap, rfl, hcap, _⟩ := aB.open h
 obtain ⟨q, dw, rfl, sX, _⟩ := aB.open h2
 have HX : Hid (ah S w (.slice p xs.length cap) xs) := h
 have HY : Hid (ah T w (.slice q ys.length dw) ys) := h2
 clear h h2
 by_cases hl : xs.length = ys.length
 ·have fA : ((xs.length : Int) != ys.length) = false := by simp [hl]
  have HL := aa hl
  clear hl
  go_enter Tryz.func149, Tryz.ntmps149
  go_wp2_with fail
  go_loopw [5, 13] (fun _ i wr => ∃ k n : Nat, k ≤ xs.length ∧ i = .int .i64 k ∧ wr = w.drewN n ∧ Hid (∀ j, j < k → gs xs j = gs ys j)) (fun _ i _ => xs.length - (intOf i).toNat)
  case atStart => exact ⟨0, 0, Nat.zero_le _, rfl, rfl, fun j hj => absurd hj (Nat.not_lt_zero _)⟩
  case round =>
   obtain ⟨k, n, hk, rfl, rfl, hd⟩ := hrel
   by_cases hlt : k < xs.length
   ·have hlt2 : k < ys.length := by rw [← HL.out]; exact hlt
    obtain ⟨b, off, rfl, hc⟩ := bz HX.out hlt
    obtain ⟨b2, off2, rfl, hc2⟩ := bz HY.out hlt2
    have i1 : (0 : Int) ≤ (k : Int) := by omega
    have i2 : (k : Int) < (xs.length : Int) := by omega
    have i3 : (k : Int) < (ys.length : Int) := by omega
    generalize hx : gs xs k = x at *
    generalize hy : gs ys k = y at *
    have uv := aa hx
    have QS := aa hy
    clear hx hy
    by_cases hxy : x = y
    ·have hxy0 : (x.toList == y.toList) = true := by simp [hxy]
     have TB : (x.toList != y.toList) = false := by simp [hxy]
     have rG := aa hxy
     clear hxy
     go_wp2_with fail
     go_quiet (fail)
     go_wp2_with fail
     go_roundw
     case rel => exact ⟨k + 1, n + nq, by omega, by go_num, rfl, fun j hj => if e : j = k then by subst e; rw [uv.out, QS.out, rG.out] else hd.out j (by omega)⟩
     case measure => simp [intOf]; omega
    ·have hxy0 : (x.toList == y.toList) = false := by
      cases h : (x.toList == y.toList) with
      | false => rfl
      | true => exact absurd (zb h) hxy
     have TB : (x.toList != y.toList) = true := by unfold bne; rw [hxy0]; rfl
     have rG := aa hxy
     clear hxy
     go_wp2_with fail
     go_quiet (fail)
     go_wp2_with fail
     go_ret
     refine ⟨aL ?_, n + nq, by rw [World.drewN_drewN]⟩
     rw [eq_comm, decide_eq_false_iff_not]
     rintro rfl
     exact rG.out (by rw [← uv.out, ← QS.out])
   ·obtain rfl : k = xs.length := by omega
    clear hlt hk
    have hex : xs = ys := TE HL.out hd.out
    have Je : Hid (decide (xs = ys) = true) := decide_eq_true hex
    clear hex
    go_wp2_with fail
    go_ret
    exact ⟨aL (by rw [Je.out]), n, rfl⟩
 ·have fA : ((xs.length : Int) != ys.length) = true := by simp; omega
  have HL := aa hl
  clear hl
  go_enter Tryz.func149, Tryz.ntmps149
  go_wp2_with fail
  go_ret
  refine ⟨aL ?_, 0, rfl⟩
  rw [eq_comm, decide_eq_false_iff_not]
  rintro rfl
  exact HL.out rfl
end
section
section
variable {t : ay}
theorem Fp {nm : ByteArray} {ks ls : List RT} (h : (ks.map sortR).Perm (ls.map sortR)) (hg : fK (.node nm ks)) : sortR (.node nm ks) = sortR (.node nm ls) := by
 rw [sortR, sortR]
 congr 1
 rw [uf, uf]
 refine TD h ?_
 rw [List.map_map]
 exact Hj hg _ (gF _)
end
end
section
namespace BT
end BT
section
variable {α β : Type} [Inhabited α] [Inhabited β]
theorem LY (p : Nat → Bool) : ∀ n : Nat, ∃ b, b < 2 ^ n ∧ ∀ i, i < n → b.testBit i = p i
 | 0 => ⟨0, by simp, fun i h => by omega⟩
 | n + 1 => by
  obtain ⟨b, h1, h2⟩ := LY p n
  have hb : b.testBit n = false := Nat.testBit_lt_two_pow h1
  cases hp : p n
  ·refine ⟨b, by rw [Nat.pow_succ]; omega, fun i hi => ?_⟩
   by_cases e : i = n
   ·subst e; rw [hb, hp]
   ·exact h2 i (by omega)
  ·refine ⟨2 ^ n + b, by rw [Nat.pow_succ]; omega, fun i hi => ?_⟩
   by_cases e : i = n
   ·subst e; rw [Nat.testBit_two_pow_add_eq, hb, hp]; rfl
   ·rw [Nat.testBit_two_pow_add_gt (by omega)]; exact h2 i (by omega)
end
section
variable {α β : Type}
theorem TF {l : List α} (h : l ≠ []) : 0 < l.length := List.length_pos_iff.2 h
theorem vu (r : BT α) : r.bM ≠ [] := by
 induction r with
 | leaf x => intro e; cases e
 | node a b ih _ => rw [BT.bM]; intro e; exact ih (List.append_eq_nil_iff.1 e).1
theorem Ap {l l' : List α} (h1 : l.Nodup) (h2 : l'.Nodup) (h : ∀ x, x ∈ l ↔ x ∈ l') : l.Perm l' :=
 (List.perm_ext_iff_of_nodup h1 h2).2 h
end
section
variable {α : Type} [Inhabited α]
theorem JQ : ∀ (d : Nat) (L : List α) (r : BT α), L.length ≤ d → L.Nodup → r.bM.Perm L → ∃ s ∈ rt d L, r.mj s
 | 0, L, r, hd, _, hp => by
  have : L = [] := List.eq_nil_of_length_eq_zero (by omega)
  subst this
  exact absurd (List.perm_nil.1 hp) (vu r)
 | _ + 1, [], r, _, _, hp => absurd (List.perm_nil.1 hp) (vu r)
 | d + 1, [x], r, _, _, hp => by
  cases r with
  | leaf y =>
   have : y = x := by simpa [BT.bM] using hp
   subst this
   exact ⟨_, List.mem_singleton.2 rfl, .leaf _⟩
  | node a b =>
   exfalso
   have h1 := hp.length_eq
   rw [BT.bM, List.length_append] at h1
   have h2 := TF (vu a)
   have h3 := TF (vu b)
   simp at h1
   omega
 | d + 1, x :: y :: L, r, hd, hn, hp => by
  have key : ∀ a b : BT α, x ∈ a.bM → (BT.node a b).bM.Perm (x :: y :: L) → ∃ s ∈ rt (d + 1) (x :: y :: L), ∃ a' b', a.mj a' ∧ b.mj b' ∧ s = .node a' b' := by
   classical
   intro a b hx hp
   have eT := hp.symm.nodup hn
   rw [BT.bM] at hp eT
   have hab := List.nodup_append.1 eT
   obtain ⟨bits, b1, b2⟩ := LY (fun i => decide ((y :: L).getD i default ∈ b.bM)) (y :: L).length
   have JF : (y :: L).Nodup := (List.nodup_cons.1 hn).2
   have hmem : ∀ z, z ∈ a.bM ++ b.bM ↔ z ∈ x :: y :: L := fun z => hp.mem_iff
   have Dp : ∀ z, z ∈ y :: L ↔ ∃ i, i < (y :: L).length ∧ (y :: L).getD i default = z := fun z => by
    constructor
    ·intro hz
     obtain ⟨i, hi, he⟩ := List.getElem_of_mem hz
     refine ⟨i, hi, ?_⟩
     rw [List.getD_eq_getElem?_getD, List.getElem?_eq_getElem hi]; exact he
    ·rintro ⟨i, hi, he⟩
     rw [List.getD_eq_getElem?_getD, List.getElem?_eq_getElem hi] at he
     rw [← he]; exact List.getElem_mem hi
   have pn : ∀ p : Nat → Bool, (aW p (y :: L) (y :: L).length).Nodup := fun p => by
    have h := jW p (y :: L) (Nat.le_refl _)
    rw [List.take_length] at h
    exact (List.nodup_append.1 (h.symm.nodup JF)).1
   have hB : b.bM.Perm (aW (fun i => bits.testBit i) (y :: L) (y :: L).length) := Ap hab.2.1 (pn _) fun z => by
    rw [fR]
    constructor
    ·intro hz
     have h1 := (hmem z).1 (List.mem_append_right _ hz)
     rcases List.mem_cons.1 h1 with rfl | h1
     ·exact absurd rfl (hab.2.2 _ hx _ hz)
     ·obtain ⟨i, hi, he⟩ := (Dp z).1 h1
      exact ⟨i, hi, by rw [b2 i hi, he]; exact decide_eq_true hz, he⟩
    ·rintro ⟨i, hi, h1, h2⟩
     rw [b2 i hi, h2] at h1
     exact of_decide_eq_true h1
   have hA : a.bM.Perm (x :: aW (fun i => !bits.testBit i) (y :: L) (y :: L).length) := Ap hab.1 (List.nodup_cons.2 ⟨fun h => by
     obtain ⟨i, hi, _, he⟩ := fR.1 h
     exact (List.nodup_cons.1 hn).1 ((Dp x).2 ⟨i, hi, he⟩), pn _⟩) fun z => by
    rw [List.mem_cons, fR]
    constructor
    ·intro hz
     have h1 := (hmem z).1 (List.mem_append_left _ hz)
     rcases List.mem_cons.1 h1 with rfl | h1
     ·exact .inl rfl
     ·obtain ⟨i, hi, he⟩ := (Dp z).1 h1
      refine .inr ⟨i, hi, ?_, he⟩
      rw [b2 i hi, he, Bool.not_eq_true']
      exact decide_eq_false fun h => hab.2.2 _ hz _ h rfl
    ·rintro (rfl | ⟨i, hi, h1, h2⟩)
     ·exact hx
     ·have h3 := (hmem z).2 (List.mem_cons_of_mem _ ((Dp z).2 ⟨i, hi, h2⟩))
      rcases List.mem_append.1 h3 with h3 | h3
      ·exact h3
      ·rw [b2 i hi, h2, Bool.not_eq_true'] at h1
       exact absurd h3 (of_decide_eq_false h1)
   have fA := jv (fun i => !bits.testBit i) (y :: L) (y :: L).length
   have hl2 := jv (fun i => bits.testBit i) (y :: L) (y :: L).length
   have hlB := hB.length_eq
   have hlA := hA.length_eq
   have hlP := hp.length_eq
   have hpa := TF (vu b)
   rw [List.length_append] at hlP
   simp only [List.length_cons] at hd hlP hlA fA hl2 hlB
   obtain ⟨a', ha, sa⟩ := JQ d _ a (by simp only [List.length_cons]; omega) (hA.nodup hab.1) hA
   obtain ⟨b', hb, sb⟩ := JQ d _ b (by simp only [List.length_cons]; omega) (hB.nodup hab.2.1) hB
   refine ⟨.node a' b', ?_, a', b', sa, sb, rfl⟩
   rw [rt, List.mem_flatMap]
   refine ⟨bits, ?_, List.mem_flatMap.2 ⟨a', ha, List.mem_map.2 ⟨b', hb, rfl⟩⟩⟩
   rw [List.mem_range'_1]
   refine ⟨?_, by omega⟩
   rcases Nat.eq_zero_or_pos bits with e | e
   ·exfalso
    subst e
    have : aW (fun i => (0 : Nat).testBit i) (y :: L) (y :: L).length = [] := by
     unfold aW
     simp
    rw [this] at hB
    exact vu b (List.perm_nil.1 hB)
   ·exact e
  cases r with
  | leaf z => exact absurd hp.length_eq (by simp [BT.bM])
  | node a b =>
   have hx : x ∈ a.bM ++ b.bM := hp.symm.mem_iff.1 (by simp)
   rcases List.mem_append.1 hx with hx | hx
   ·obtain ⟨s, hs, a', b', h1, h2, rfl⟩ := key a b hx hp
    exact ⟨_, hs, .node h1 h2⟩
   ·obtain ⟨s, hs, a', b', h1, h2, rfl⟩ := key b a hx (List.perm_append_comm.trans hp)
    exact ⟨_, hs, .swap h2 h1⟩
end
end
section
theorem fK.KD {r : RT} (h : fK r) : cg (contrR r) = cg r := wM _ r (Nat.le_refl _) h.wY
end
section
theorem nW.left {a b : BT ByteArray} (h : nW (.node a b)) : nW a := ⟨(List.nodup_append.1 h.nd).1, fun x hx => h.nm x (List.mem_append_left _ hx)⟩
theorem nW.right {a b : BT ByteArray} (h : nW (.node a b)) : nW b := ⟨(List.nodup_append.1 h.nd).2.1, fun x hx => h.nm x (List.mem_append_right _ hx)⟩
theorem bt_sim {r s : BT ByteArray} (hs : r.mj s) : nW r → sortR (btR r) = sortR (btR s) := by
 induction hs with
 | leaf x => intro _; rfl
 | @node a a' b b' h1 h2 i1 i2 =>
  intro h
  rw [btR, btR]
  refine Fp ?_ h.Lu.good
  rw [List.map_cons, List.map_cons, List.map_cons, List.map_cons, i1 h.left, i2 h.right]
 | @swap a a' b b' h1 h2 i1 i2 =>
  intro h
  rw [btR, btR]
  refine Fp ?_ h.Lu.good
  rw [List.map_cons, List.map_cons, List.map_cons, List.map_cons, i1 h.left, i2 h.right]
  exact List.Perm.swap _ _ _
end
section
section
variable (m : Nat) (cost : Nat → Nat → Int) (aQ : ByteArray → Int)
mutual
def AttR : RT → Nat → Int → Prop
 | .node nm ks, s, c => s < m ∧ (ks = [] → 0 ≤ aQ nm → aQ nm = (s : Int)) ∧ AttL ks s c
def AttL : List RT → Nat → Int → Prop
 | [], _, c => c = 0
 | k :: ks, s, c => ∃ u a b, AttR k u a ∧ AttL ks s b ∧ c = cost s u + a + b
end
def DF (A B : RT) (c : Int) : Prop := ∃ s u a b, AttR m cost aQ A s a ∧ AttR m cost aQ B u b ∧ c = a + cost s u + b
end
structure mN (m : Nat) (cost : Nat → Nat → Int) : Prop where
 nn : ∀ a b, a < m → b < m → 0 ≤ cost a b
 z : ∀ a, a < m → cost a a = 0
 sym : ∀ a b, a < m → b < m → cost a b = cost b a
 tri : ∀ a b c, a < m → b < m → c < m → cost a c ≤ cost a b + cost b c
section
variable {m : Nat} {cost : Nat → Nat → Int} {aQ : ByteArray → Int}
theorem eW : ∀ {r : RT} {s : Nat} {c : Int}, AttR m cost aQ r s c → s < m
 | .node nm ks, s, c, h => by rw [AttR] at h; exact h.1
theorem bg {k : RT} {ks : List RT} {s : Nat} {c : Int} : AttL m cost aQ (k :: ks) s c ↔ ∃ u a b, AttR m cost aQ k u a ∧ AttL m cost aQ ks s b ∧ c = cost s u + a + b := by rw [AttL]
theorem gh {s : Nat} {c : Int} : AttL m cost aQ [] s c ↔ c = 0 := by rw [AttL]
theorem dP {nm : ByteArray} {ks : List RT} {s : Nat} {c : Int} : AttR m cost aQ (.node nm ks) s c ↔ s < m ∧ (ks = [] → 0 ≤ aQ nm → aQ nm = (s : Int)) ∧ AttL m cost aQ ks s c := by rw [AttR]
theorem pV {s : Nat} : ∀ {l l2 : List RT} {c : Int}, AttL m cost aQ (l ++ l2) s c ↔ ∃ a b, AttL m cost aQ l s a ∧ AttL m cost aQ l2 s b ∧ c = a + b
 | [], l2, c => by
  constructor
  ·intro h; exact ⟨0, c, gh.2 rfl, h, by omega⟩
  ·rintro ⟨a, b, h1, h2, rfl⟩
   rw [gh] at h1; subst h1
   rw [Int.zero_add]; exact h2
 | k :: l, l2, c => by
  rw [List.cons_append, bg]
  constructor
  ·rintro ⟨u, a, b, h1, h2, rfl⟩
   obtain ⟨a2, b2, h3, h4, rfl⟩ := pV.1 h2
   exact ⟨cost s u + a + a2, b2, bg.2 ⟨u, a, a2, h1, h3, rfl⟩, h4, by omega⟩
  ·rintro ⟨a, b, h1, h2, rfl⟩
   obtain ⟨u, a1, a2, h3, h4, rfl⟩ := bg.1 h1
   exact ⟨u, a1, a2 + b, h3, pV.2 ⟨a2, b, h4, h2, rfl⟩, by omega⟩
theorem nh {s : Nat} {l l2 : List RT} (h : l.Perm l2) : ∀ {c : Int}, AttL m cost aQ l s c → AttL m cost aQ l2 s c := by
 induction h with
 | nil => intro c h; exact h
 | cons x _ ih =>
  intro c h
  obtain ⟨u, a, b, h1, h2, rfl⟩ := bg.1 h
  exact bg.2 ⟨u, a, b, h1, ih h2, rfl⟩
 | swap x y l =>
  intro c h
  obtain ⟨u, a, b, h1, h2, rfl⟩ := bg.1 h
  obtain ⟨v, a2, b2, h3, h4, rfl⟩ := bg.1 h2
  exact bg.2 ⟨v, a2, cost s u + a + b2, h3, bg.2 ⟨u, a, b2, h1, h4, rfl⟩, by omega⟩
 | trans _ _ i1 i2 => intro c h; exact i2 (i1 h)
mutual
theorem wN : ∀ (r : RT) (s : Nat) (c : Int), AttR m cost aQ (sortR r) s c ↔ AttR m cost aQ r s c
 | .node nm ks, s, c => by
  rw [sortR, dP, dP, y6 ks s c]
  constructor
  ·rintro ⟨h1, h2, h3⟩; exact ⟨h1, fun e => h2 (jE.2 e), h3⟩
  ·rintro ⟨h1, h2, h3⟩; exact ⟨h1, fun e => h2 (jE.1 e), h3⟩
theorem y6 : ∀ (rs : List RT) (s : Nat) (c : Int), AttL m cost aQ (cz rs) s c ↔ AttL m cost aQ rs s c
 | [], s, c => by rw [cz]
 | r :: rs, s, c => by
  rw [cz]
  have hp := ya (sortR r) (cz rs)
  constructor
  ·intro h
   obtain ⟨u, a, b, h1, h2, e⟩ := bg.1 (nh hp h)
   exact bg.2 ⟨u, a, b, (wN r u a).1 h1, (y6 rs s b).1 h2, e⟩
  ·intro h
   obtain ⟨u, a, b, h1, h2, e⟩ := bg.1 h
   exact nh hp.symm (bg.2 ⟨u, a, b, (wN r u a).2 h1, (y6 rs s b).2 h2, e⟩)
end
theorem Bj (M : mN m cost) : ∀ (d : Nat) (r : RT), aH r ≤ d → ∀ s c, AttR m cost aQ r s c → ∃ u c', AttR m cost aQ (contrR r) u c' ∧ ∀ p, p < m → cost p u + c' ≤ cost p s + c
 | 0, .node nm ks, h => by rw [aH] at h; omega
 | d + 1, .node nm ks, h => by
  intro s c hc
  rw [dP] at hc
  obtain ⟨hs, hl, hk⟩ := hc
  by_cases h1 : ks.length = 1
  ·obtain ⟨k, rfl⟩ := List.length_eq_one_iff.1 h1
   rw [y5]
   obtain ⟨u, a, b, h2, h3, rfl⟩ := bg.1 hk
   rw [gh] at h3; subst h3
   obtain ⟨v, c', h4, h5⟩ := Bj M d k (by have := pE (nm := nm) (ks := [k]) (k := k) (by simp); omega) u a h2
   refine ⟨v, c', h4, fun p hp => ?_⟩
   have := h5 p hp
   have := M.tri p s u hp hs (eW h2)
   omega
  ·rw [wL h1]
   have hall : ∀ k ∈ ks, ∀ s c, AttR m cost aQ k s c → ∃ u c', AttR m cost aQ (contrR k) u c' ∧ ∀ p, p < m → cost p u + c' ≤ cost p s + c := fun k hk => Bj M d k (by have := pE (nm := nm) hk; omega)
   have key : ∀ (l : List RT), (∀ k ∈ l, ∀ s c, AttR m cost aQ k s c → ∃ u c', AttR m cost aQ (contrR k) u c' ∧ ∀ p, p < m → cost p u + c' ≤ cost p s + c) → ∀ c, AttL m cost aQ l s c → ∃ c', AttL m cost aQ (l.map contrR) s c' ∧ c' ≤ c := fun l => by
    induction l with
    | nil => intro _ c h; exact ⟨c, h, Int.le_refl _⟩
    | cons k l ih =>
     intro ha c h
     obtain ⟨u, a, b, h2, h3, rfl⟩ := bg.1 h
     obtain ⟨v, a', h4, h5⟩ := ha k (by simp) u a h2
     obtain ⟨b', h6, h7⟩ := ih (fun k hk => ha k (by simp [hk])) b h3
     refine ⟨cost s v + a' + b', bg.2 ⟨v, a', b', h4, h6, rfl⟩, ?_⟩
     have := h5 s hs
     omega
   obtain ⟨c', h6, h7⟩ := key ks hall c hk
   exact ⟨s, c', dP.2 ⟨hs, fun e => hl (by simpa using e), h6⟩, fun p _ => by omega⟩
theorem JR (M : mN m cost) {nm nm' : ByteArray} {ks K : List RT} {x B : RT} (hp : ks.Perm (x :: K)) (c : Int) : DF m cost aQ (.node nm ks) B c ↔ DF m cost aQ x (.node nm' (K ++ [B])) c := by
 have hne : ks ≠ [] := fun e => by rw [e] at hp; have := hp.length_eq; simp at this
 constructor
 ·rintro ⟨s, u, a, b, h1, h2, rfl⟩
  rw [dP] at h1
  obtain ⟨v, a1, a2, h3, h4, rfl⟩ := bg.1 (nh hp h1.2.2)
  refine ⟨v, s, a1, a2 + (cost s u + b), h3, dP.2 ⟨h1.1, fun e => (by simp at e), pV.2 ⟨a2, cost s u + b, h4, bg.2 ⟨u, b, 0, h2, gh.2 rfl, by omega⟩, rfl⟩⟩, ?_⟩
  have := M.sym s v h1.1 (eW h3)
  omega
 ·rintro ⟨v, s, a1, a, h1, h2, rfl⟩
  rw [dP] at h2
  obtain ⟨a2, b1, h3, h4, rfl⟩ := pV.1 h2.2.2
  obtain ⟨u, b, z, h5, h6, rfl⟩ := bg.1 h4
  rw [gh] at h6; subst h6
  refine ⟨s, u, cost s v + a1 + a2, b, dP.2 ⟨h2.1, fun e => absurd e hne, nh hp.symm (bg.2 ⟨v, a1, a2, h1, h3, rfl⟩)⟩, h5, ?_⟩
  have := M.sym s v h2.1 (eW h1)
  omega
theorem wO (M : mN m cost) {nm : ByteArray} {x W : RT} {c : Int} (h : DF m cost aQ x W c) : ∃ s, AttR m cost aQ (.node nm [x, W]) s c := by
 obtain ⟨s, u, a, b, h1, h2, rfl⟩ := h
 refine ⟨s, dP.2 ⟨eW h1, fun e => (by cases e), bg.2 ⟨s, a, cost s u + b, h1, bg.2 ⟨u, b, 0, h2, gh.2 rfl, by omega⟩, ?_⟩⟩⟩
 have := M.z s (eW h1)
 omega
theorem wP (M : mN m cost) {nm : ByteArray} {x W : RT} {s : Nat} {c : Int} (h : AttR m cost aQ (.node nm [x, W]) s c) : ∃ c', DF m cost aQ x W c' ∧ c' ≤ c := by
 rw [dP] at h
 obtain ⟨hs, _, h⟩ := h
 obtain ⟨u, a, b, h1, h2, rfl⟩ := bg.1 h
 obtain ⟨v, a2, b2, h3, h4, rfl⟩ := bg.1 h2
 rw [gh] at h4; subst h4
 refine ⟨a + cost u v + a2, ⟨u, v, a, a2, h1, h3, rfl⟩, ?_⟩
 have := M.tri u s v (eW h1) hs (eW h3)
 have := M.sym u s (eW h1) hs
 omega
end
end
section
open Go.RowKit Go.Deep
def wQ (t : ay) (n : Nat) : Bool := (decide (n < t.ps.length) && decide (t.ps.length ≤ 64)) || decide (66 < t.ps.length) || decide (t.ps.length + 2 < t.ns.length) || (List.range t.ns.length).any fun k => decide (20 < (gs t.ns k).size)
set_option maxHeartbeats 2000000 in
theorem QW (S : Nat → Prop) (w : World) (v : Value) (t : ay) (n : Nat) (hT : aA S w v t) (hp : t.ps.length ≤ 9223372036854775807) (hn : t.ns.length ≤ 9223372036854775807) (hz : ∀ k, (gs t.ns k).size ≤ 9223372036854775807) :
  Calls Tryz.prog 47 #[v, .int .i64 n] w fun e w' => e = .returned (.bool (wQ t n)) ∧ Below w.heap.size w w' := by
 obtain ⟨P, N, rfl, hP, hN⟩ := hT
 have hu := Up.alloc w (.cells #[P, N] 39)
 have HU := aa hu
 have HN := aa (ah.keep hN (hu.kept S))
 obtain ⟨pp, pc, rfl, _, _⟩ := aB.open hP
 obtain ⟨np, nc, rfl, _, _⟩ := aB.open hN
 have gj := aa (dW w (.slice pp t.ps.length pc) (.slice np t.ns.length nc) 39)
 have gm := aa (eu w (.slice pp t.ps.length pc) (.slice np t.ns.length nc) 39)
 have hc0 := gj.out
 have hc1 := gm.out
 have HZ := aa hz
 have HE : Hid (wQ t n = ((decide (n < t.ps.length) && decide (t.ps.length ≤ 64)) || decide (66 < t.ps.length) || decide (t.ps.length + 2 < t.ns.length) || (List.range t.ns.length).any fun k => decide (20 < (gs t.ns k).size))) := rfl
 clear hu hP hN hz
 generalize wQ t n = r at *
 obtain ⟨ps, ns⟩ := t
 simp only at *
 generalize ps.length = m at *
 go_enter Tryz.func47, Tryz.ntmps47
 go_wp2_with fail
 all_goals generalize w.alloc (.cells #[.slice pp m pc, .slice np ns.length nc] 39) = w1 at *
 all_goals try (go_ret; exact ⟨aL (by rw [HE.out]; clear HE; symm; simp; omega), HU.out⟩)
 all_goals have HT : Hid (∀ k, k < ns.length → decide (20 < (gs ns k).size) = true → r = true) := fun k hk hb => by rw [HE.out, nv (p := fun k => decide (20 < (gs ns k).size)) hk hb]; simp
 all_goals have HF : Hid ((∀ k, k < ns.length → decide (20 < (gs ns k).size) = false) → r = false) := fun hb => by rw [HE.out, any_none (p := fun k => decide (20 < (gs ns k).size)) hb]; clear HE; simp; omega
 all_goals clear HE
 all_goals go_loop [5] (fun i => ∃ k : Nat, k ≤ ns.length ∧ i = .int .i64 k ∧ Hid (∀ j, j < k → decide (20 < (gs ns j).size) = false)) (fun i => ns.length - (intOf i).toNat)
 case atStart => exact ⟨0, Nat.zero_le _, rfl, fun j hj => absurd hj (Nat.not_lt_zero _)⟩
 case atStart => exact ⟨0, Nat.zero_le _, rfl, fun j hj => absurd hj (Nat.not_lt_zero _)⟩
 all_goals
  obtain ⟨k, hk, rfl, hd⟩ := hrel
  by_cases hlt : k < ns.length
  ·obtain ⟨b, off, rfl, hc⟩ := bz HN.out hlt
   have i1 : (0 : Int) ≤ (k : Int) := by omega
   have i2 : (k : Int) < (ns.length : Int) := by omega
   have DM := HZ.out k
   have gV := aa (HT.out k hlt)
   have HDK : Hid (decide (20 < (gs ns k).size) = false → ∀ j, j < k + 1 → decide (20 < (gs ns j).size) = false) := fun hx j hj => if e : j = k then by subst e; exact hx else hd.out j (by omega)
   generalize gs ns k = y at *
   by_cases h1 : 20 < y.size
   ·have e0 : decide ((20 : Int) < (y.size : Int)) = true := by simp; omega
    have HQ := aa (gV.out (by simpa using h1))
    clear h1
    go_wp2_with fail
    go_ret
    exact ⟨aL HQ.out.symm, HU.out⟩
   ·have e0 : decide ((20 : Int) < (y.size : Int)) = false := by simp; omega
    have HQ := aa (HDK.out (by simpa using h1))
    clear h1
    go_wp2_with fail
    go_round
    case rel => exact ⟨k + 1, by omega, by go_num, HQ.out⟩
    case measure => simp [intOf]; omega
  ·obtain rfl : k = ns.length := by omega
   have HQ := aa (HF.out hd.out)
   clear hlt hk
   go_wp2_with fail
   go_ret
   exact ⟨aL HQ.out.symm, HU.out⟩
end
end Go.Proofs.YthgabkgmkolobaaGreat
