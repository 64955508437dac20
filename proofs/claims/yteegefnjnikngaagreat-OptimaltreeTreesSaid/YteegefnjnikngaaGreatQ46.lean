/- optimaltree.All. Lists of texts that grow and are written in place. The contract of layer .. -/
import Derived.Test.YteegefnjnikngaaGreatQ1
import Derived.Test.YteegefnjnikngaaGreatQ40
import Derived.Test.YteegefnjnikngaaGreatQ44
import Derived.Test.YteegefnjnikngaaGreatQ18
import Derived.Test.YteegefnjnikngaaGreatQ26
import Derived.Test.YteegefnjnikngaaGreatQ38
import Derived.Test.YteegefnjnikngaaGreatQ7
import Derived.Test.YteegefnjnikngaaGreatQ45
import Derived.Test.YteegefnjnikngaaGreatQ33
import Derived.Test.YteegefnjnikngaaGreatQ24
import Derived.Test.YteegefnjnikngaaGreatQ39
import Derived.Test.YteegefnjnikngaaGreatQ36
import Derived.Test.YteegefnjnikngaaGreatQ25
set_option maxRecDepth 100000
namespace Go.Proofs.YteegefnjnikngaaGreat
section
open Go.RowKit Go.Deep
def oo (w : World) (names : List ByteArray) (e : Ending) (w' : World) : Prop :=
 Up w w' ∧ ∃ v, e = .returned (.tuple #[v, .int .i64 (bD names)]) ∧ cz Any w' v (if bD names = 0 then allT names else [])
theorem Ca {w : World} {v : Value} {qs : List RT} (h : rQ w v qs) : ∃ g cap, v = .slice (some ⟨g, 0, none⟩) qs.length cap := by
 obtain ⟨g, cap, es, e1, _⟩ := h
 exact ⟨g, cap, e1⟩
theorem xZ {w : World} {g n cap : Nat} {qs : List RT} (h : rQ w (.slice (some ⟨g, 0, none⟩) n cap) qs) {k : Nat} (hk : k < qs.length) :
  ∃ pp pc np nc, w.cell? ⟨g, k * 3, none⟩ = some (.slice pp (gt (qs.map flat) k).ps.length pc) ∧ w.cell? ⟨g, k * 3 + 1, none⟩ = some (.slice np (gt (qs.map flat) k).ns.length nc) ∧ w.cell? ⟨g, k * 3 + 2, none⟩ = some (.string (aO (qs.getD k (.node ByteArray.empty [])))) ∧ ay Any w (.agg #[.slice pp (gt (qs.map flat) k).ps.length pc, .slice np (gt (qs.map flat) k).ns.length nc]) (gt (qs.map flat) k) := by
 obtain ⟨g', cap', es, e1, e2, h1, h2⟩ := h
 injection e1 with e1
 injection e1 with e1
 injection e1 with e1
 subst e1; subst e2
 rw [List.length_map] at hk
 obtain ⟨c0, c1, c2⟩ := h1 k hk
 have hg : gt ((es.map (·.2)).map flat) k = flat (ge es k).2 := by simp [gt, ge, hk]
 have hg2 : (es.map (·.2)).getD k (.node ByteArray.empty []) = (ge es k).2 := by simp [ge, hk]
 have h3 := h2 _ (Vu hk)
 rw [hg, hg2]
 obtain ⟨P1, N1, e, hP, hN⟩ := h3
 injection e with e
 have e1 : (ge es k).1.1 = P1 ∧ (ge es k).1.2 = N1 := by simpa using e
 obtain ⟨pp, pc, e2, _, _⟩ := aA.open hP
 obtain ⟨np, nc, e3, _, _⟩ := aA.open hN
 rw [← e1.1] at e2
 rw [← e1.2] at e3
 rw [e2] at c0
 rw [e3] at c1
 refine ⟨pp, pc, np, nc, c0, c1, c2, _, _, rfl, ?_, ?_⟩
 ·rw [← e2, e1.1]; exact hP
 ·rw [← e3, e1.2]; exact hN
theorem Af {ts : List av} {n : Nat} (h : n < ts.length) : ts.take (n + 1) = ts.take n ++ [gt ts n] := by
 rw [List.take_succ_eq_append_getElem h]; simp [gt, h]
def Qn (w : World) (names : List ByteArray) (n : Nat) (out : Value) (wr : World) : Prop := Up w wr ∧ ∃ es : List jP, fM w.heap.size wr out es ∧ es.map (·.2) = (allT names).take n
set_option maxHeartbeats 8000000 in
theorem Ry (S : Nat → Prop) (w : World) (v : Value) (names : List ByteArray) (h : au S w v names) (hn : names.length ≤ 1000000) (hz : ∀ k, (gs names k).size ≤ 70000) (h5 : names.length ≤ 5 ∨ 7 < names.length) :
  Calls Tryz.prog 31 #[v] w (oo w names) := by
 have gP := aa (rR S w v names h hn hz)
 obtain ⟨p, cap, rfl, hcap, -⟩ := aA.open h
 have h : au S w (.slice p names.length cap) names := h
 have rV : Hid (∀ W, Up w W → bD names = 0 → Calls Tryz.prog 73 #[.slice p names.length cap] W (EZ W names)) := fun W hW h0 => by
  have Fe : names.length ≤ 5 := by
   rcases h5 with h5 | h5
   ·exact h5
   ·unfold bD at h0; rw [if_pos (.inr h5)] at h0; cases h0
  exact B3 S W _ names ((mD Fe).1 h0) (au.keep h (hW.kept S))
 have HAC : Hid (bD names = 0 → (allT names).length ≤ 15) := fun h0 => by
  have Fe : names.length ≤ 5 := by
   rcases h5 with h5 | h5
   ·exact h5
   ·unfold bD at h0; rw [if_pos (.inr h5)] at h0; cases h0
  unfold allT
  rw [List.length_map, sZ ((mD Fe).1 h0)]
  split <;> (try split) <;> (try split) <;> omega
 clear h hz h5
 go_enter Tryz.func31, Tryz.ntmps31
 go_wp2_with fail
 refine gP.out.mono ?_
 rintro e w1 ⟨rfl, aS⟩
 have bF := aa aS
 have Ff := aa (rV.out w1 aS)
 clear aS gP rV
 by_cases c1 : bD names = 0
 ·have Fg := aa (Ff.out c1)
  have lX := aa (HAC.out c1)
  have dS : Hid (∀ W v, Up w W → cz Any W v (allT names) → oo w names (.returned (.tuple #[v, .int .i64 0])) W) := fun W v hu ht => ⟨hu, v, by rw [c1], by rw [if_pos c1]; exact ht⟩
  rw [c1]
  clear c1 Ff HAC
  go_wp2_with fail
  refine Fg.out.mono ?_
  rintro e w2 ⟨aF, ev, rfl, Fh⟩
  obtain ⟨eg, ec, rfl⟩ := Ca Fh
  have BU := aa Fh
  have bE := aa (bF.out.trans aF)
  have dW : Hid ((allT names).length = (aW names).length) := by unfold allT; rw [List.length_map]; exact rfl
  have vq : Hid (Qn w2 names 0 (.slice none 0 0) w2) := ⟨Up.refl _, [], fM.nil _ _, by simp⟩
  clear Fh aF Fg bF
  go_wp2_with fail
  go_loopw [7, 9, 25] (fun out _ i wr => ∃ n : Nat, n ≤ (aW names).length ∧ i = .int .i64 n ∧ Hid (Qn w2 names n out wr)) (fun _ _ i _ => (aW names).length - (intOf i).toNat)
  case atStart => exact ⟨0, Nat.zero_le _, rfl, vq.out⟩
  case round =>
   obtain ⟨n, hn, rfl, hI⟩ := hrel
   obtain ⟨wo, rfl⟩ : ∃ wo : World, wo = wr := ⟨_, rfl⟩
   obtain ⟨eM, es, hes, hem⟩ := hI.out
   by_cases hlt : n < (aW names).length
   ·have hEo := BU.out.keep eM
    obtain ⟨pp, pc, np, nc, c0, c1, c2, hT⟩ := xZ BU.out hlt
    replace c0 := eM.cell c0
    replace c1 := eM.cell c1
    replace c2 := eM.cell c2
    have hlt2 : n < (allT names).length := by rw [dW.out]; exact hlt
    have jK : es.length = n := by
     have := congrArg List.length hem
     rw [List.length_map, List.length_take] at this
     omega
    have fH : Hid ((allT names).take (n + 1) = es.map (·.2) ++ [gt (allT names) n]) := by unfold Hid; rw [Af hlt2, hem]
    replace hT : ay (fun b => b < w2.heap.size) wo (.agg #[.slice pp (gt (allT names) n).ps.length pc, .slice np (gt (allT names) n).ns.length nc]) (gt (allT names) n) := ay.keep (hT.sub fun b _ hb => hb) (eM.kept _)
    replace c0 : wo.cell? ⟨eg, n * 3, none⟩ = some (.slice pp (gt (allT names) n).ps.length pc) := c0
    replace c1 : wo.cell? ⟨eg, n * 3 + 1, none⟩ = some (.slice np (gt (allT names) n).ns.length nc) := c1
    generalize gt (allT names) n = q at *
    generalize aO ((aW names).getD n (.node ByteArray.empty [])) = key at *
    obtain ⟨op, oc, rfl⟩ := hes.form
    rw [jK]
    have aZ := Up.alloc wo (.cells #[.slice pp q.ps.length pc, .slice np q.ns.length nc, .string key] 99)
    have qD : Hid (fM w2.heap.size (wo.alloc (.cells #[.slice pp q.ps.length pc, .slice np q.ns.length nc, .string key] 99)) (.slice op n oc) es) := by have h := hes.up aZ; rw [jK] at h; exact h
    have E3 : Hid (ay (fun b => some b ≠ (Value.slice op n oc).ownBlock) (wo.alloc (.cells #[.slice pp q.ps.length pc, .slice np q.ns.length nc, .string key] 99)) (.agg #[.slice pp q.ps.length pc, .slice np q.ns.length nc]) q) := by
     have h2 := hes.1
     rw [jK] at h2
     exact (hT.keep (aZ.kept _)).sub fun b hb _ e => by have := (World.ownsRow.lt h2 b e.symm).1; omega
    have B5 := aa (eM.trans aZ)
    have aQ := aa hlt2
    have HLN2 := aa jK
    have i4 : (n : Int) < ((aW names).length : Int) := by omega
    have i5 : (n : Int) < 16 := by have := lX.out; omega
    clear hI eM hes hem hlt hlt2 hT aZ jK
    go_wp2_with (at_builtin; go_loud (refine pV _ rfl _ _ 33 rfl w2.heap.size _ 48 Tryz.underlying33 Tryz.infoTree rfl (by decide) qD.out rfl ((.slice pp q.ps.length pc, .slice np q.ns.length nc), q) (by rw [World.size_alloc]; rfl) E3.out n HLN2.out (by have := aQ.out; have := lX.out; omega) B5.out.size ?_); intro g8 iG w8 bZ cH pQ; have E4 := aa bZ; have mZ := aa pQ; clear bZ cH pQ)
    go_roundw
    case rel => exact ⟨n + 1, by have := aQ.out; rw [dW.out] at this; omega, by go_num, Below.trans (show Below w2.heap.size w2 _ from B5.out) mZ.out, _, E4.out, by rw [fH.out, List.map_append]; rfl⟩
    case measure => have := aQ.out; rw [dW.out] at this; simp [intOf]; omega
   ·obtain rfl : n = (aW names).length := by omega
    have pR : es.map (·.2) = allT names := by rw [hem, ← dW.out, List.take_length]
    have ng := aa (dS.out wo _ (bE.out.trans eM) (pR ▸ hes.trees))
    clear hI eM hes hem pR hlt
    go_wp2_with fail
    go_ret2
    exact ng.out
 ·have dS : Hid (oo w names (.returned (.tuple #[.slice none 0 0, .int .i64 (bD names)])) w1) := ⟨bF.out, _, rfl, by rw [if_neg c1]; exact cz.nil _ _⟩
  generalize bD names = a at *
  go_wp2_with fail
  go_ret2
  exact dS.out
end
section
open Go.RowKit Go.Deep
structure ni (lo : Nat) (w w2 wr : World) (tv : Value) (L : List ByteArray) : Prop where
 up : Up w wr
 sz : w.heap.size ≤ lo ∧ lo ≤ w2.heap.size ∧ w2.heap.size ≤ wr.heap.size
 own : az w.heap.size 9 wr tv (L.map Value.string)
 blk : ∀ b, tv.ownBlock = some b → b < lo ∨ w2.heap.size ≤ b
 keep : ∀ b, lo ≤ b → b < w2.heap.size → wr.heap[b]? = w2.heap[b]?
section
variable {lo : Nat} {w w2 wr W : World} {tv : Value} {L : List ByteArray} {s : ByteArray} {g cap k j : Nat}
theorem ni.next (h : ni lo w w2 wr tv L) (hu : Up wr W) : ni lo w w2 W tv L := by
 obtain ⟨z1, z2, z3⟩ := h.sz
 exact ⟨h.up.trans hu, ⟨z1, z2, Nat.le_trans z3 hu.size⟩, h.own.eV fun b hb => Below.block hu b (aD h.own hb).2, h.blk, fun b h1 h2 => (Below.block hu b (by omega)).trans (h.keep b h1 h2)⟩
theorem ni.app (h : ni lo w w2 wr tv L) (ho : az w.heap.size 9 W (.slice (some ⟨g, 0, none⟩) k cap) (L.map Value.string ++ [.string s])) (hg : wr.grownBy W tv.ownBlock) (dw : tv.ownBlock = some g ∨ wr.heap.size ≤ g) : ni lo w w2 W (.slice (some ⟨g, 0, none⟩) k cap) (L ++ [s]) := by
 have hlo := fun b hb => (aD h.own (b := b) hb)
 obtain ⟨z1, z2, z3⟩ := h.sz
 refine ⟨⟨hg.os.trans h.up.os, hg.tape.trans h.up.tape, hg.output.trans h.up.output, Nat.le_trans h.up.size hg.size, fun b hb => ?_⟩, ⟨z1, z2, Nat.le_trans z3 hg.size⟩, by rw [List.map_append]; exact ho, fun b hb => ?_, fun b h1 h2 => ?_⟩
 ·have := h.up.size
  exact (hg.block b (by omega) fun e => by have := (hlo b e.symm).1; omega).trans (h.up.block b hb)
 ·have hb : some g = some b := hb
  injection hb with hb
  subst hb
  rcases dw with e | e
  ·exact h.blk g e
  ·exact .inr (Nat.le_trans z3 e)
 ·refine (hg.block b (by omega) fun e => ?_).trans (h.keep b h1 h2)
  rcases h.blk b e.symm with e | e <;> omega
theorem ni.set (h : ni lo w w2 wr tv L) (hj : j < L.length) : ∃ g cap, tv = .slice (some ⟨g, 0, none⟩) L.length cap ∧ wr.cell? ⟨g, j, none⟩ = some (.string (gs L j)) ∧ wr.frozen? ⟨g, j, none⟩ = false ∧ ∀ x, ni lo w w2 (wr.setCell ⟨g, j, none⟩ (.string x)) tv (L.set j x) := by
 obtain ⟨g, cap, e, h1, h2, h3, h4, h5⟩ := h.own.set (j := j) (by rw [List.length_map]; exact hj)
 have hgd : (L.map Value.string).getD j undef = .string (gs L j) := by simp [gs, hj]
 rw [hgd] at h3
 rw [List.length_map] at e
 refine ⟨g, cap, e, h3, h4, fun x => ?_⟩
 have b8 : ∀ b, b ≠ g → (wr.setCell ⟨g, j, none⟩ (.string x)).heap[b]? = wr.heap[b]? := fun b hb => blk_setCell_other _ _ _ _ hb
 have hbk : g < lo ∨ w2.heap.size ≤ g := h.blk g (by rw [e]; rfl)
 obtain ⟨z1, z2, z3⟩ := h.sz
 refine ⟨Below.setCell (p := ⟨g, j, none⟩) h.up h1 _, ⟨z1, z2, by rw [World.size_setCell]; exact z3⟩, ?_, h.blk, fun b q1 q2 => (b8 b (by omega)).trans (h.keep b q1 q2)⟩
 have h6 := h5 (.string x)
 rw [← List.map_set] at h6
 exact h6
theorem ni.strs {v : Value} {T : List ByteArray} (h : ni lo w w2 wr tv L) (hT : au (fun b => lo ≤ b ∧ b < w2.heap.size) w2 v T) : au (fun b => lo ≤ b ∧ b < w2.heap.size) wr v T := au.keep hT fun b hb _ => h.keep b hb.1 hb.2
end
def p6 (xs : List ByteArray) (k : Nat) (j : ByteArray) : List ByteArray := xs.take k ++ j :: xs.drop k
theorem Fi {xs : List ByteArray} {k : Nat} {j : ByteArray} : (p6 xs k j).length = xs.length + 1 := by
 unfold p6
 rw [List.length_append, List.length_cons, List.length_take, List.length_drop]
 omega
theorem OH (xs : List ByteArray) (s : ByteArray) : xs ++ [s] = p6 xs xs.length s := by unfold p6; simp
theorem Rz {xs : List ByteArray} {k : Nat} {j : ByteArray} (h0 : 0 < k) (hk : k ≤ xs.length) : gs (p6 xs k j) (k - 1) = gs xs (k - 1) := by
 unfold p6 gs
 rw [List.getD_eq_getElem?_getD, List.getD_eq_getElem?_getD, List.getElem?_append_left (by rw [List.length_take]; omega), List.getElem?_take_of_lt (by omega)]
theorem L4 {xs : List ByteArray} {k : Nat} {j s : ByteArray} (hk : k ≤ xs.length) : (p6 xs k j).set k s = p6 xs k s := by
 unfold p6
 rw [List.set_append, if_neg (by rw [List.length_take]; omega)]
 have : k - (xs.take k).length = 0 := by rw [List.length_take]; omega
 rw [this]; rfl
theorem OI {xs : List ByteArray} {k : Nat} {j : ByteArray} (h0 : 0 < k) (hk : k ≤ xs.length) : (p6 xs k j).set k (gs xs (k - 1)) = p6 xs (k - 1) (gs xs (k - 1)) := by
 rw [L4 hk]
 unfold p6
 obtain ⟨m, rfl⟩ : ∃ m, k = m + 1 := ⟨k - 1, by omega⟩
 have hg : gs xs (m + 1 - 1) = xs[m] := by simp [gs, show m < xs.length by omega]
 have hd : xs.drop m = xs[m] :: xs.drop (m + 1) := List.drop_eq_getElem_cons (by omega)
 rw [hg, Nat.add_sub_cancel, List.take_succ_eq_append_getElem (by omega), List.append_assoc, ← hd]; rfl
end
section
open Go.RowKit Go.Deep
theorem Fj {s : List UInt8} (h : ∀ r, eN s ≠ some (r, [59])) : gH s = none := by
 cases e : gH s with
 | none => rfl
 | some r => exact absurd (Ad.2 e) (h r)
set_option maxHeartbeats 4000000 in
theorem Jq (w : World) (s : ByteArray) (hs : s.size ≤ 1000) : Calls Tryz.prog 153 #[.string s] w (uV w s) := by
 have hrb := fW (w := w) (P := .slice none 0 0) (N := .slice none 0 0) (T := 39)
 have hu := Up.alloc w (.cells #[.slice none 0 0, .slice none 0 0] 39)
 have hsz : (w.alloc (.cells #[.slice none 0 0, .slice none 0 0] 39)).heap.size = w.heap.size + 1 := World.size_alloc _ _
 have HU := aa hu
 have b5 := aa hsz
 have jJ := aa hrb
 have iJ := aa hs
 have d1 : decide ((65536 : Int) < (s.size : Int)) = false := decide_eq_false (by omega)
 have PO : ¬ 65536 < s.size := by omega
 have L5 := aa (fun W => B9 s.size s rfl hs W 0 (by omega))
 clear hrb hu hsz hs
 go_enter Tryz.func153, Tryz.ntmps153
 go_wp2_with fail
 clear d1 PO
 generalize w.alloc (.cells #[.slice none 0 0, .slice none 0 0] 39) = w1 at *
 refine (L5.out w1).mono ?_
 rintro e w2 ⟨aF, hm⟩
 have bE := aa (HU.out.trans aF)
 have gV := aa ((Below.block aF w.heap.size (by rw [b5.out]; omega)).trans jJ.out)
 have jM : Hid (w.heap.size + 1 ≤ w2.heap.size) := by have := aF.size; rw [b5.out] at this; exact this
 clear aF L5 HU b5 jJ
 cases hr : eN s.data.toList with
 | none =>
  rw [hr] at hm
  subst hm
  have HST := aa (gY bE.out gV.out (Fj fun r e => by rw [hr] at e; cases e))
  obtain ⟨q0, q1, q2, q3⟩ := boxed gV.out
  clear hr
  go_wp2_with fail
  obtain ⟨s1, s2, s3⟩ := HST.out
  exact ⟨rfl, .tuple #[.agg #[.slice none 0 0, .slice none 0 0], .int .i64 3], by simp [results, Tryz.results153, go_sem, s1, s2], s3⟩
 | some q =>
  obtain ⟨r, l⟩ := q
  rw [hr] at hm
  obtain ⟨v2, rfl, hr2⟩ := hm
  obtain ⟨b2, rfl⟩ := mq hr2
  by_cases hl : l = [59]
  ·subst hl
   have mQ : gH s.data.toList = some r := Ad.1 hr
   have fu : s.data.toList.length = s.size := by rw [Array.length_toList]; rfl
   obtain ⟨y5, y6, BN⟩ := uT mQ
   have L6 := E9 hr
   rw [fu] at y5 y6 L6
   have Ev : Hid ((flat r).ps.length ≤ 1000000) := by unfold Hid; have := iJ.out; omega
   have Ew : Hid ((flat r).ns.length ≤ 1000000) := by unfold Hid; have := iJ.out; omega
   have Ex : Hid (∀ k, (gs (flat r).ns k).size ≤ 70000) := fun j => by have := BN j; rw [fu] at this; have := iJ.out; omega
   have kO := aa (xL _ w2 _ r hr2 (by have := iJ.out; omega))
   have tG := aa mQ
   have t1 : (bL [59]).toList = [59] := by rw [toList_data]; rfl
   have t2 : ((bL [59]).toList == [59]) = true := by rw [t1]; rfl
   generalize bL [59] = ub at *
   obtain ⟨q0, q1, q2, q3⟩ := boxed gV.out
   clear y5 y6 BN L6 fu mQ hr hr2
   go_wp2_with fail
   refine kO.out.mono ?_
   rintro e w4 ⟨b6, _, rfl, P4, N4, rfl, dD, dF⟩
   obtain ⟨pp, pc, rfl, -, -⟩ := aA.open dD
   obtain ⟨np, nc, rfl, -, -⟩ := aA.open dF
   have dD : ax _ w4 (.slice pp (flat r).ps.length pc) (flat r).ps := dD
   have dF : au _ w4 (.slice np (flat r).ns.length nc) (flat r).ns := dF
   have aZ := Up.alloc w4 (.cells #[.slice pp (flat r).ps.length pc, .slice np (flat r).ns.length nc] 39)
   have b0 := dO w4 (.slice pp (flat r).ps.length pc) (.slice np (flat r).ns.length nc) 39
   have b1 := dP w4 (.slice pp (flat r).ps.length pc) (.slice np (flat r).ns.length nc) 39
   have gG := aa b0
   have eO := aa b1
   have uW := (Below.block (b6.trans aZ) w.heap.size (by have := jM.out; omega)).trans gV.out
   have Ey := aa uW
   have Ez := aa (bE.out.trans (b6.trans aZ))
   have pI : Hid (ay (fun b => w2.heap.size ≤ b) (w4.alloc (.cells #[.slice pp (flat r).ps.length pc, .slice np (flat r).ns.length nc] 39)) (.agg #[.slice pp (flat r).ps.length pc, .slice np (flat r).ns.length nc]) (flat r)) := ay.keep ⟨_, _, rfl, dD, dF⟩ (aZ.kept _)
   have fN := aa (sN _ _ _ (flat r) pI.out Ev.out Ew.out Ex.out)
   have Lu : Hid (w2.heap.size ≤ (w4.alloc (.cells #[.slice pp (flat r).ps.length pc, .slice np (flat r).ns.length nc] 39)).heap.size) := (b6.trans aZ).size
   clear b6 dD dF aZ kO uW gV bE q0 q1 q2 q3 t1 t2
   go_wp2_with fail
   generalize w4.alloc (.cells #[.slice pp (flat r).ps.length pc, .slice np (flat r).ns.length nc] 39) = w5 at *
   refine fN.out.mono ?_
   rintro e w6 ⟨rfl, dz⟩
   have dz : Up w5 w6 := dz
   have b0 := dz.cell gG.out
   have b1 := dz.cell eO.out
   have pJ := (Below.block dz w.heap.size (by have := jM.out; have := Lu.out; omega)).trans Ey.out
   have xN := aa pJ
   have xO := aa (Ez.out.trans dz)
   have BO := aa (pI.out.keep (dz.kept _))
   obtain ⟨q0, q1, q2, q3⟩ := boxed pJ
   have uX : Hid (qu s = aB (flat r)) := by unfold Hid qu; rw [tG.out]
   have o5 : Hid (nI s = if aB (flat r) ≠ 0 then ⟨[], []⟩ else flat r) := by unfold Hid nI; rw [tG.out]
   clear dz pJ fN
   by_cases he : aB (flat r) = 0
   ·have xP : Hid (nI s = flat r) := by unfold Hid; rw [o5.out, if_neg (by simp [he])]
    have Oa : Hid (qu s = 0) := by unfold Hid; rw [uX.out, he]
    rw [he]
    have HST := aa (dg (w := w) (p := .slice pp (flat r).ps.length pc) (q := .slice np (flat r).ns.length nc) xN.out (Nat.le_refl _) xO.out)
    clear he
    go_wp2_with fail
    obtain ⟨s1, s2, s3, s4⟩ := HST.out
    obtain ⟨P7, N7, e7, ym, Lv⟩ := BO.out
    have e8 : P7 = .slice pp (flat r).ps.length pc ∧ N7 = .slice np (flat r).ns.length nc := by
     injection e7 with e7
     have := congrArg Array.toList e7
     simp at this
     exact ⟨this.1.symm, this.2.symm⟩
    obtain ⟨rfl, rfl⟩ := e8
    have hsw := jM.out
    refine ⟨rfl, .tuple #[.agg #[.slice pp (flat r).ps.length pc, .slice np (flat r).ns.length nc], .int .i64 0], by simp [results, Tryz.results153, go_sem, s2, s3], ?_⟩
    refine ⟨s1, _, by rw [Oa.out], ?_⟩
    rw [xP.out]
    exact ⟨_, _, rfl, (ax.keep ym fun b hb _ => s4 b (by have : w2.heap.size ≤ b := hb; omega)).sub fun _ _ _ => trivial, (au.keep Lv fun b hb _ => s4 b (by have : w2.heap.size ≤ b := hb; omega)).sub fun _ _ _ => trivial⟩
   ·have yD : (aB (flat r) != 0) = true := by simpa using he
    have xP : Hid (nI s = ⟨[], []⟩) := by unfold Hid; rw [o5.out, if_pos he]
    have HST := aa (dg (w := w) (p := .slice none 0 0) (q := .slice none 0 0) xN.out (Nat.le_refl _) xO.out)
    clear he
    generalize hte : aB (flat r) = te at *
    go_wp2_with fail
    obtain ⟨s1, s2, s3, s4⟩ := HST.out
    refine ⟨rfl, .tuple #[.agg #[.slice none 0 0, .slice none 0 0], .int .i64 te], by simp [results, Tryz.results153, go_sem, s2, s3], ?_⟩
    refine ⟨s1, _, by rw [uX.out], ?_⟩
    rw [xP.out]; exact xK _
  ·have HST := aa (gY bE.out gV.out (Fj fun r' e => by rw [hr] at e; injection e with e; injection e with _ e; exact hl e))
   obtain ⟨q0, q1, q2, q3⟩ := boxed gV.out
   have t1 : ((bL l).toList == [59]) = false := by
    rw [beq_eq_false_iff_ne, toList_data]
    exact hl
   have t2 : ¬ (bL l).toList = [59] := by
    rw [toList_data]
    exact hl
   clear hr hr2 hl
   generalize bL l = ub at *
   go_wp2_with fail
   obtain ⟨s1, s2, s3⟩ := HST.out
   exact ⟨rfl, .tuple #[.agg #[.slice none 0 0, .slice none 0 0], .int .i64 3], by simp [results, Tryz.results153, go_sem, s1, s2], s3⟩
end
section
section
variable {t : av} {st : List Int}
end
theorem RA (l : List Int) (x : Int) : (dd (l ++ [x])).length = (dd l).length + if x ∈ l then 0 else 1 := by
 have h1 : (dd (l ++ [x])).length = (dd (x :: l)).length := Nat.le_antisymm (P9 fun y hy => by
  rw [List.mem_append, List.mem_singleton] at hy
  rw [List.mem_cons]; exact hy.symm) (P9 fun y hy => by
  rw [List.mem_cons] at hy
  rw [List.mem_append, List.mem_singleton]; exact hy.symm)
 rw [h1]
 show (if x ∈ dd l then dd l else x :: dd l).length = _
 by_cases h : x ∈ l
 ·rw [if_pos (jt.2 h), if_pos h]; rfl
 ·rw [if_neg (fun e => h (jt.1 e)), if_neg h]; rfl
def Qo (states : List (List Int)) (p : Nat) : Nat := (dd (aV (bh states p))).length
def eX (states : List (List Int)) (p : Nat) : Int := if Qo states p = 0 then 0 else (Qo states p : Int) - 1
def vz (states : List (List Int)) : Int := bw (eX states) (gl states 0).length
def Ag (states : List (List Int)) : Int := if bU states = 0 then 0 else 1
def Ah (states : List (List Int)) : Int := if bU states = 0 then vz states else 0
theorem mF (states : List (List Int)) (p : Nat) : (bh states p).length = states.length := by unfold bh; rw [List.length_map]
theorem VU (states : List (List Int)) (p : Nat) : Qo states p ≤ states.length := by
 unfold Qo
 have h1 : (dd (aV (bh states p))).length ≤ (aV (bh states p)).length := (kC _).length_le_of_subset fun x hx => jt.1 hx
 have h2 : (aV (bh states p)).length ≤ (bh states p).length := List.length_filter_le _ _
 rw [mF] at h2
 omega
theorem vW (states : List (List Int)) (p : Nat) : 0 ≤ eX states p ∧ eX states p ≤ states.length := by
 have := VU states p
 unfold eX
 split <;> omega
section
variable {t u : av} {names : List ByteArray} {states : List (List Int)}
end
end
section
open Go.RowKit Go.Deep
def gR (names : List ByteArray) (k : Nat) : RT := (aW names).getD k (.node ByteArray.empty [])
theorem Ai {names : List ByteArray} {k : Nat} (h : k < (aW names).length) : gt (allT names) k = flat (gR names k) := by
 unfold allT gR gt
 simp [h]
theorem Fk {names : List ByteArray} {k : Nat} (h : k < (aW names).length) : gR names k ∈ aW names := by simp [gR, h]
theorem OJ {names : List ByteArray} (hn : fQ names) {j k : Nat} (hj : j < (aW names).length) (hk : k < (aW names).length) (e : aO (gR names j) = aO (gR names k)) : gR names j = gR names k := by
 have e1 : bG (gR names j) = bG (gR names k) := by
  have := congrArg (fun b : ByteArray => b.data.toList) e
  simpa [aO] using this
 exact Li (eC hn (Fk hj)).1.good.ig (eC hn (Fk hk)).1.good.ig (List.append_cancel_right e1)
def nj (names : List ByteArray) (states : List (List Int)) (k : Nat) : Int := dY (gt (allT names) k) names states
def scK (names : List ByteArray) (states : List (List Int)) : Nat → List (ByteArray × Value)
 | 0 => []
 | n + 1 => o6 (scK names states n) (aO (gR names n)) (.int .i64 (nj names states n))
theorem Fl (names : List ByteArray) (states : List (List Int)) : ∀ n, sS (scK names states n)
 | 0 => by unfold sS scK; simp
 | n + 1 => K5 (Fl names states n) _ _
theorem Fm {names : List ByteArray} (hn : fQ names) (states : List (List Int)) {k : Nat} (hk : k < (aW names).length) : ∀ {n : Nat}, n ≤ (aW names).length → k < n → (scK names states n).lookup (aO (gR names k)) = some (.int .i64 (nj names states k))
 | 0, _, h => absurd h (Nat.not_lt_zero _)
 | n + 1, hle, h => by
  rw [scK, FO]
  split
  ·rename_i e
   have e2 := OJ hn hk (show n < _ by omega) e
   unfold nj
   rw [Ai hk, Ai (show n < _ by omega), e2]
  ·rename_i e
   have : k ≠ n := fun e3 => e (by rw [e3])
   exact Fm hn states hk (by omega) (by omega)
def nC (names : List ByteArray) (states : List (List Int)) (n : Nat) : List av := ((allT names).take n).filter fun t => decide (dY t names states = iQ names states)
theorem L8 {names : List ByteArray} (states : List (List Int)) {n : Nat} (h : n < (allT names).length) : nC names states (n + 1) = nC names states n ++ if nj names states n = iQ names states then [gt (allT names) n] else [] := by
 unfold nC nj
 rw [Af h, List.filter_append]
 congr 1
 by_cases e : dY (gt (allT names) n) names states = iQ names states
 ·rw [if_pos e]; simp [e]
 ·rw [if_neg e]; simp [e]
theorem OL (names : List ByteArray) (states : List (List Int)) : nC names states (allT names).length = s9 names states := by
 unfold nC s9; rw [List.take_length]
theorem L9 {names : List ByteArray} {states : List (List Int)} (hc : xT names states) {n : Nat} (h : n < (allT names).length) : 0 ≤ nj names states n ∧ nj names states n ≤ 409600000 := by
 have ho := (Aa hc.nm (zh h)).1
 have h1 := rX (f := fun p => cw (gt (allT names) n) (iH (gt (allT names) n) names states p) (bM 16)) (n := (gl states 0).length) fun p hp => ⟨tZ (vh hc ho hp), Ap (vh hc ho hp)⟩
 have h2 := (zo hc.ag).2
 unfold nj dY
 omega
def p7 (names : List ByteArray) (states : List (List Int)) (n : Nat) : Int := mnK (nj names states) n
theorem Ma {names : List ByteArray} {states : List (List Int)} (hc : xT names states) : ∀ {n : Nat}, n ≤ (allT names).length → -1 ≤ p7 names states n ∧ p7 names states n ≤ 409600000
 | 0, _ => by unfold p7 mnK; omega
 | n + 1, h => by
  have h1 := Ma hc (n := n) (by omega)
  have h2 := L9 hc (n := n) h
  unfold p7 at h1 ⊢
  rw [Oo]
  split <;> omega
theorem OM (names : List ByteArray) (states : List (List Int)) (n : Nat) : p7 names states (n + 1) = if p7 names states n < 0 ∨ nj names states n < p7 names states n then nj names states n else p7 names states n := rfl
theorem RB (names : List ByteArray) (states : List (List Int)) : p7 names states (allT names).length = iQ names states := rfl
end
end Go.Proofs.YteegefnjnikngaaGreat
