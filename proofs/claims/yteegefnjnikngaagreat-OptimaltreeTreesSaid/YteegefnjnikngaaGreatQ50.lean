/- optimaltree.Best. Reference 34: SameTrees. -/
import Derived.Test.YteegefnjnikngaaGreatQ1
import Derived.Test.YteegefnjnikngaaGreatQ46
import Derived.Test.YteegefnjnikngaaGreatQ26
import Derived.Test.YteegefnjnikngaaGreatQ44
import Derived.Test.YteegefnjnikngaaGreatQ47
import Derived.Test.YteegefnjnikngaaGreatQ8
set_option maxRecDepth 100000
namespace Go.Proofs.YteegefnjnikngaaGreat
section
open Go.RowKit Go.Deep
def zw (names : List ByteArray) (states : List (List Int)) : Int := if fJ names states = 0 then iQ names states else 0
def zx (names : List ByteArray) (states : List (List Int)) : List av := if fJ names states = 0 then s9 names states else []
def x5 (w : World) (names : List ByteArray) (states : List (List Int)) (e : Ending) (w' : World) : Prop :=
 Up w w' ∧ ∃ v, e = .returned (.tuple #[v, .int .i64 (zw names states), .int .i64 (fJ names states)]) ∧ cz Any w' v (zx names states)
def V2 (w : World) (names : List ByteArray) (states : List (List Int)) (n : Nat) (wr : World) : Prop := Up w wr ∧ SMap wr w.heap.size (scK names states n)
def BeJ (w : World) (names : List ByteArray) (states : List (List Int)) (n : Nat) (out : Value) (wr : World) : Prop := Up w wr ∧ ∃ es : List jP, fM w.heap.size wr out es ∧ es.map (·.2) = nC names states n
theorem RL {names : List ByteArray} (hn : fQ names) {k : Nat} (h : k < (aW names).length) : aB (gt (allT names) k) = 0 ∧ nB (gt (allT names) k) names = true ∧ ∀ i, (gs (gt (allT names) k).ns i).size ≤ 70000 := by
 have h2 : k < (allT names).length := by unfold allT; rw [List.length_map]; exact h
 have ho := (Aa hn (zh h2)).1
 refine ⟨ho.te, (EP hn ho.te).2 ho, ?_⟩
 rw [Ai h]
 exact qW (eC hn (Fk h)).1.good
set_option maxHeartbeats 4000000 in
theorem OT (S : Nat → Prop) (w : World) (v vs : Value) (names : List ByteArray) (states : List (List Int)) (h : au S w v names) (hn : names.length ≤ 1000000) (hz : ∀ k, (gs names k).size ≤ 70000) (hS : aX S w vs states) (kX : states.length ≤ 1000000) (hr : ∀ k, (gl states k).length ≤ 1000000) (h5 : names.length ≤ 5 ∨ 7 < names.length) :
  Calls Tryz.prog 19 #[v, vs] w (x5 w names states) := by
 have fN := aa (LM S w v vs names states h hn hz hS kX hr)
 obtain ⟨mp, mc, rfl, -, -⟩ := aA.open h
 have h : au S w (.slice mp names.length mc) names := h
 obtain ⟨sp, sc, rfl, -, -⟩ := eD hS
 have HN := aa h
 have HS := aa hS
 have Di : Hid (fJ names states = 0 → xT names states) := Jp h5
 clear h hS hz hr h5
 go_enter Tryz.func19, Tryz.ntmps19
 go_wp2_with fail
 refine fN.out.mono ?_
 rintro e w1 ⟨rfl, aS⟩
 by_cases c1 : fJ names states = 0
 ·have hc := Di.out c1
  have rV := aa (B3 S w1 _ names hc.nm (au.keep HN.out (aS.kept S)))
  have HC := aa hc
  have dS : Hid (∀ W v, Up w W → cz Any W v (s9 names states) → x5 w names states (.returned (.tuple #[v, .int .i64 (iQ names states), .int .i64 0])) W) := fun W v hu ht => ⟨hu, v, by unfold zw; rw [c1]; rfl, by unfold zx; rw [if_pos c1]; exact ht⟩
  have hl0 : (allT names).length = (aW names).length := by unfold allT; rw [List.length_map]
  have gF : (aW names).length ≤ 15 := by rw [sZ hc.nm]; split <;> (try split) <;> (try split) <;> omega
  have HL := aa (And.intro hl0 gF)
  have bF := aa aS
  rw [c1]
  clear c1 hc aS hl0 gF fN Di
  go_wp2_with fail
  refine rV.out.mono ?_
  rintro e w2 ⟨aF, ev, rfl, Fh⟩
  obtain ⟨eg, ec, rfl⟩ := Ca Fh
  have bE := aa (bF.out.trans aF)
  have BU := aa Fh
  have D9 := aa (au.keep HN.out (bE.out.kept S))
  have jM := aa (aX.keep HS.out (bE.out.kept S))
  have vq : Hid (V2 w2 names states 0 (w2.alloc (.map #[] 0))) := ⟨Up.alloc _ _, SMap.made _⟩
  have hmm := fun W => run_makeMap (P := Tryz.prog) 97 W
  clear aF Fh rV bF
  go_wp2_with fail
  clear hmm
  go_loopw [4, 5, 6, 11, 13, 14, 15, 36] (fun _ _ _ s _ _ _ i wr => ∃ n : Nat, n ≤ (aW names).length ∧ i = .int .i64 n ∧ s = .int .i64 (p7 names states n) ∧ Hid (V2 w2 names states n wr)) (fun _ _ _ _ _ _ _ i _ => (aW names).length - (intOf i).toNat)
  case atStart => exact ⟨0, Nat.zero_le _, rfl, rfl, vq.out⟩
  case round =>
   obtain ⟨n, hn, rfl, rfl, hI⟩ := hrel
   obtain ⟨wo, rfl⟩ : ∃ wo : World, wo = wr := ⟨_, rfl⟩
   obtain ⟨eM, hM⟩ := hI.out
   by_cases hlt : n < (aW names).length
   ·obtain ⟨pp, pc, np, nc, c0, c1, c2, hT⟩ := xZ BU.out hlt
    replace c0 := eM.cell c0
    replace c1 := eM.cell c1
    replace c2 : wo.cell? ⟨eg, n * 3 + 2, none⟩ = some (.string (aO (gR names n))) := eM.cell c2
    obtain ⟨te, fi, tz⟩ := RL HC.out.nm hlt
    have hbd := L9 HC.out (n := n) (by rw [HL.out.1]; exact hlt)
    have hmb := Ma HC.out (n := n) (by rw [HL.out.1]; exact hn)
    have Hh := aa (OM names states n)
    have hsc : qE (gt (allT names) n) names states = .tuple #[.int .i64 (nj names states n), .int .i64 0] := by unfold qE nj; rw [fi]; rfl
    replace hT : ay Any wo (.agg #[.slice pp (gt (allT names) n).ps.length pc, .slice np (gt (allT names) n).ns.length nc]) (gt (allT names) n) := ay.keep hT (eM.kept _)
    replace c0 : wo.cell? ⟨eg, n * 3, none⟩ = some (.slice pp (gt (allT names) n).ps.length pc) := c0
    replace c1 : wo.cell? ⟨eg, n * 3 + 1, none⟩ = some (.slice np (gt (allT names) n).ns.length nc) := c1
    have Qi : Hid (∀ W, Up wo W → Calls Tryz.prog 74 #[.agg #[.slice pp (gt (allT names) n).ps.length pc, .slice np (gt (allT names) n).ns.length nc], .slice mp names.length mc, .slice sp states.length sc] W fun e w' => e = .returned (.tuple #[.int .i64 (nj names states n), .int .i64 0]) ∧ Up W w') := fun W hW => by
     rw [← hsc]
     exact LU Any W _ _ _ _ names states (hT.keep (hW.kept _)) te tz ((au.keep D9.out ((eM.trans hW).kept S)).sub fun _ _ _ => trivial) ((aX.keep jM.out ((eM.trans hW).kept S)).sub fun _ _ _ => trivial) HC.out
    have HMS : Hid (scK names states (n + 1) = o6 (scK names states n) (aO (gR names n)) (.int .i64 (nj names states n))) := rfl
    have HUQ := aa (Fl names states n)
    have V3 := aa hM
    have p9 := aa eM
    have aQ := aa hlt
    have i4 : (n : Int) < ((aW names).length : Int) := by omega
    have i5 : (n : Int) < 16 := by have := HL.out.2; omega
    clear hI eM hM te fi tz hsc hlt
    generalize gt (allT names) n = q at *
    generalize aO (gR names n) = key at *
    have dG : Hid (Up wo (wo.alloc (.cells #[.slice pp q.ps.length pc, .slice np q.ns.length nc, .string key] 99)) ∧ (wo.alloc (.cells #[.slice pp q.ps.length pc, .slice np q.ns.length nc, .string key] 99)).cell? ⟨wo.heap.size, 2, none⟩ = some (.string key) ∧ (wo.alloc (.cells #[.slice pp q.ps.length pc, .slice np q.ns.length nc, .string key] 99)).heap[w2.heap.size]? = wo.heap[w2.heap.size]?) := by
     refine ⟨Up.alloc _ _, aK wo _ _ 2, Below.block (Up.alloc wo _) _ V3.out.lt⟩
    have V4 := aa (Qi.out _ dG.out.1)
    generalize nj names states n = f at *
    generalize p7 names states n = m at *
    go_wp2_with fail
    generalize wo.alloc (.cells #[.slice pp q.ps.length pc, .slice np q.ns.length nc, .string key] 99) = w7 at *
    refine V4.out.mono ?_
    rintro e w9 ⟨rfl, qy⟩
    obtain ⟨Hi, hk7, hm7⟩ := dG.out
    have hk9 := qy.cell hk7
    have hM9 : SMap w9 w2.heap.size (scK names states n) := V3.out.same ((Below.block qy _ (by have := Hi.size; have := V3.out.lt; omega)).trans hm7)
    have Hj := (p9.out.trans Hi).trans qy
    obtain ⟨w5, hrun, hm5, hs5, wR, ht5, V5, k6⟩ := NH (P := Tryz.prog) Tryz.underlying97 Tryz.underlying9 hM9 HUQ.out key (.int .i64 f)
    have V6 : Hid (V2 w2 names states (n + 1) w5) := ⟨⟨wR.trans Hj.os, ht5.trans Hj.tape, V5.trans Hj.output, by rw [hs5]; exact Hj.size, fun b hb => (k6 b (by omega)).trans (Hj.block b hb)⟩, by rw [HMS.out]; exact hm5⟩
    clear hm5 hs5 wR ht5 V5 k6 hM9 Hj qy Hi hk7 hm7 dG Qi V4 hT c0 c1 c2
    by_cases e1 : m < 0
    ·have HE : Hid (p7 names states (n + 1) = f) := by unfold Hid; rw [Hh.out, if_pos (.inl e1)]
     have d1 : decide (m < 0) = true := by simp [e1]
     clear Hh e1
     go_wp2_with fail
     go_roundw
     case rel => exact ⟨n + 1, aQ.out, by go_num, by rw [HE.out], V6.out⟩
     case measure => have := aQ.out; simp [intOf]; omega
    ·have d1 : decide (m < 0) = false := by simp; omega
     by_cases e2 : f < m
     ·have HE : Hid (p7 names states (n + 1) = f) := by unfold Hid; rw [Hh.out, if_pos (.inr e2)]
      have d2 : decide (f < m) = true := by simp [e2]
      clear Hh e1 e2
      go_wp2_with fail
      go_roundw
      case rel => exact ⟨n + 1, aQ.out, by go_num, by rw [HE.out], V6.out⟩
      case measure => have := aQ.out; simp [intOf]; omega
     ·have HE : Hid (p7 names states (n + 1) = m) := by unfold Hid; rw [Hh.out, if_neg (by omega)]
      have d2 : decide (f < m) = false := by simp; omega
      clear Hh e1 e2
      go_wp2_with fail
      go_roundw
      case rel => exact ⟨n + 1, aQ.out, by go_num, by rw [HE.out], V6.out⟩
      case measure => have := aQ.out; simp [intOf]; omega
   ·obtain rfl : n = (aW names).length := by omega
    have Vl := aa hM
    have K1 := aa eM
    have HEB := aa (BU.out.keep eM)
    have LF : Hid (BeJ wo names states 0 (.slice none 0 0) wo) := ⟨Up.refl _, [], fM.nil _ _, by simp [nC]⟩
    have V7 : p7 names states (aW names).length = iQ names states := by rw [← HL.out.1]; exact RB names states
    rw [V7]
    clear hI eM hM hlt V7
    have HFX2 := aa (fun W v (hu : Up wo W) ht => dS.out W v ((bE.out.trans K1.out).trans hu) ht)
    go_wp2_with fail
    go_loopw [16, 18, 66] (fun out _ i wr => ∃ k : Nat, k ≤ (aW names).length ∧ i = .int .i64 k ∧ Hid (BeJ wo names states k out wr)) (fun _ _ i _ => (aW names).length - (intOf i).toNat)
    case atStart => exact ⟨0, Nat.zero_le _, rfl, LF.out⟩
    case round =>
     obtain ⟨k, hk, rfl, hI⟩ := hrel
     obtain ⟨wi, rfl⟩ : ∃ wi : World, wi = wr := ⟨_, rfl⟩
     obtain ⟨qb, es, hes, hem⟩ := hI.out
     by_cases hlt : k < (aW names).length
     ·obtain ⟨pp, pc, np, nc, c0, c1, c2, hT⟩ := xZ HEB.out hlt
      replace c0 := qb.cell c0
      replace c1 := qb.cell c1
      replace c2 : wi.cell? ⟨eg, k * 3 + 2, none⟩ = some (.string (aO (gR names k))) := qb.cell c2
      have hlt2 : k < (allT names).length := by rw [HL.out.1]; exact hlt
      have kI := aa (L8 states hlt2)
      have Qs := Fm HC.out.nm states hlt (n := (aW names).length) (Nat.le_refl _) hlt
      replace hT : ay (fun b => b < wo.heap.size) wi (.agg #[.slice pp (gt (allT names) k).ps.length pc, .slice np (gt (allT names) k).ns.length nc]) (gt (allT names) k) := ay.keep (hT.sub fun b _ hb => hb) (qb.kept _)
      replace c0 : wi.cell? ⟨eg, k * 3, none⟩ = some (.slice pp (gt (allT names) k).ps.length pc) := c0
      replace c1 : wi.cell? ⟨eg, k * 3 + 1, none⟩ = some (.slice np (gt (allT names) k).ns.length nc) := c1
      generalize gt (allT names) k = q at *
      generalize aO (gR names k) = key at *
      have aZ := Up.alloc wi (.cells #[.slice pp q.ps.length pc, .slice np q.ns.length nc, .string key] 99)
      have hM7 : SMap (wi.alloc (.cells #[.slice pp q.ps.length pc, .slice np q.ns.length nc, .string key] 99)) w2.heap.size (scK names states (aW names).length) := Vl.out.same (Below.block (qb.trans aZ) _ Vl.out.lt)
      have hlk := K7 (P := Tryz.prog) Tryz.underlying97 Tryz.underlying9 (NM _) hM7 key
      rw [Qs] at hlk
      simp only [Option.getD_some] at hlk
      obtain ⟨op, oc, rfl⟩ := hes.form
      obtain ⟨m, hm⟩ : ∃ m, es.length = m := ⟨_, rfl⟩
      have hmk : m ≤ k := by
       rw [← hm]
       have := congrArg List.length hem
       rw [List.length_map] at this
       rw [this]
       unfold nC
       exact Nat.le_trans (List.length_filter_le _ _) (by rw [List.length_take]; omega)
      rw [hm]
      have qD : Hid (fM wo.heap.size (wi.alloc (.cells #[.slice pp q.ps.length pc, .slice np q.ns.length nc, .string key] 99)) (.slice op m oc) es) := by have h := hes.up aZ; rw [hm] at h; exact h
      have E3 : Hid (ay (fun b => some b ≠ (Value.slice op m oc).ownBlock) (wi.alloc (.cells #[.slice pp q.ps.length pc, .slice np q.ns.length nc, .string key] 99)) (.agg #[.slice pp q.ps.length pc, .slice np q.ns.length nc]) q) := by
       have h2 := hes.1
       rw [hm] at h2
       exact (hT.keep (aZ.kept _)).sub fun b hb _ e => by have := (World.ownsRow.lt h2 b e.symm).1; omega
      have V8 := aa (qb.trans aZ)
      have LQ := aa hem
      have Gz := aa hm
      have aQ := aa hlt
      have i4 : (k : Int) < ((aW names).length : Int) := by omega
      have i5 : (k : Int) < 16 := by have := HL.out.2; omega
      have Sv : Hid (m ≤ 1000000) := by have := HL.out.2; unfold Hid; omega
      clear hI qb hes hem hlt hlt2 hT aZ hm Qs hM7 hmk
      generalize nj names states k = f at *
      generalize iQ names states = le at *
      by_cases e1 : f = le
      ·have d1 : (f == le) = true := by simp [e1]
       have Ce : Hid (nC names states (k + 1) = nC names states k ++ [q]) := by unfold Hid; rw [kI.out, if_pos e1]
       subst e1
       go_wp2_with (at_builtin; refine pV _ rfl _ _ 33 rfl wo.heap.size _ 48 Tryz.underlying33 Tryz.infoTree rfl (by decide) qD.out rfl ((.slice pp q.ps.length pc, .slice np q.ns.length nc), q) (by rw [World.size_alloc]; rfl) E3.out m Gz.out Sv.out V8.out.size ?_; intro g8 iG w8 bZ cH pQ; have E4 := aa bZ; have mZ := aa pQ; clear bZ cH pQ)
       go_roundw
       case rel => exact ⟨k + 1, aQ.out, by go_num, Below.trans (show Below wo.heap.size wo _ from V8.out) mZ.out, _, E4.out, by rw [Ce.out, List.map_append, LQ.out]; rfl⟩
       case measure => have := aQ.out; simp [intOf]; omega
      ·have d1 : (f == le) = false := by simp [e1]
       have Ce : Hid (nC names states (k + 1) = nC names states k) := by unfold Hid; rw [kI.out, if_neg e1, List.append_nil]
       clear e1
       go_wp2_with fail
       go_roundw
       case rel => exact ⟨k + 1, aQ.out, by go_num, V8.out, _, qD.out, by rw [Ce.out, LQ.out]⟩
       case measure => have := aQ.out; simp [intOf]; omega
     ·obtain rfl : k = (aW names).length := by omega
      have pR : es.map (·.2) = s9 names states := by rw [hem, ← HL.out.1, OL]
      obtain ⟨op, oc, rfl⟩ := hes.form
      have ng := aa (HFX2.out wi _ qb (pR ▸ hes.trees))
      clear hI qb hes hem pR hlt
      go_wp2_with fail
      exact ⟨rfl, .tuple #[.slice op es.length oc, .int .i64 (iQ names states), .int .i64 0], by simp [results, Tryz.results19, go_sem], ng.out⟩
 ·have dS : Hid (x5 w names states (.returned (.tuple #[.slice none 0 0, .int .i64 0, .int .i64 (fJ names states)])) w1) := by
   refine ⟨aS, .slice none 0 0, ?_, ?_⟩
   ·unfold zw; rw [if_neg c1]
   ·unfold zx; rw [if_neg c1]; exact cz.nil _ _
  generalize fJ names states = a at *
  clear aS fN
  go_wp2_with fail
  exact ⟨rfl, .tuple #[.slice none 0 0, .int .i64 0, .int .i64 a], by simp [results, Tryz.results19, go_sem], dS.out⟩
end
section
open Go.RowKit Go.Deep
theorem Jr {a b : List av} (hl : a.length = b.length) : (a = b) ↔ ∀ k, k < a.length → gt a k = gt b k := by
 constructor
 ·rintro rfl k _; rfl
 ·intro h
  refine List.ext_getElem hl fun i h1 h2 => ?_
  have := h i h1
  simpa [gt, h1, h2] using this
set_option maxHeartbeats 1000000 in
theorem tR (S T : Nat → Prop) (w : World) (v u : Value) (a b : List av) (h : cz S w v a) (h2 : cz T w u b) (hn : a.length ≤ 1000000) (hz : ∀ k, (gt a k).ps.length ≤ 1000000 ∧ (gt a k).ns.length ≤ 1000000) :
  Calls Tryz.prog 34 #[v, u] w fun e w' => e = .returned (.bool (decide (a = b))) ∧ Up w w' := by
 obtain ⟨p, cap, rfl, hcap⟩ := lR h
 obtain ⟨q, cW, rfl, yc⟩ := lR h2
 have HX := aa h
 have HY := aa h2
 have HZ := aa hz
 clear h h2 hz
 by_cases hl : a.length = b.length
 ·have HS := aa (Jr hl)
  have gF : ((a.length : Int) != (b.length : Int)) = false := by simp [hl]
  have HL := aa hl
  clear hl
  go_enter Tryz.func34, Tryz.ntmps34
  go_wp2_with fail
  clear gF
  go_loopw [4, 5] (fun _ i wr => ∃ k : Nat, k ≤ a.length ∧ i = .int .i64 k ∧ Hid (Up w wr ∧ ∀ j, j < k → gt a j = gt b j)) (fun _ i _ => a.length - (intOf i).toNat)
  case atStart => exact ⟨0, Nat.zero_le _, rfl, Up.refl _, fun j hj => absurd hj (Nat.not_lt_zero _)⟩
  case round =>
   obtain ⟨k, hk, rfl, hI⟩ := hrel
   obtain ⟨wo, rfl⟩ : ∃ wo : World, wo = wr := ⟨_, rfl⟩
   by_cases hlt : k < a.length
   ·obtain ⟨ab, ao, pp, pc, np, nc, rfl, c0, c1, hT⟩ := B7 (HX.out.keep (hI.out.1.kept S)) hlt
    obtain ⟨bb, bo, o7, o8, o9, pg, rfl, d0, d1, V9⟩ := B7 (HY.out.keep (hI.out.1.kept T)) (k := k) (by rw [← HL.out]; exact hlt)
    have HST := aa (zu S T wo _ _ _ _ hT V9 (HZ.out k).1 (HZ.out k).2)
    have i1 : (0 : Int) ≤ (k : Int) := by omega
    have i2 : (k : Int) < (a.length : Int) := by omega
    have i3 : (k : Int) < (b.length : Int) := by have := HL.out; omega
    have zk : Hid (gt a k ≠ gt b k → decide (a = b) = false) := fun hne => decide_eq_false fun e => hne (HS.out.1 e k hlt)
    have BC : Hid (gt a k = gt b k → Up w wo ∧ ∀ j, j < k + 1 → gt a j = gt b j) := fun e => ⟨hI.out.1, fun j hj => if e2 : j = k then by subst e2; exact e else hI.out.2 j (by omega)⟩
    have p9 := aa hI.out.1
    replace HST : Hid (Calls Tryz.prog 44 #[.agg #[.slice pp (gt a k).ps.length pc, .slice np (gt a k).ns.length nc], .agg #[.slice o7 (gt b k).ps.length o8, .slice o9 (gt b k).ns.length pg]] wo.drew fun e w' => e = .returned (.bool (decide (gt a k = gt b k))) ∧ Up wo w') := (zu S T wo.drew _ _ _ _ (hT.keep ((Up.drewN wo 1).kept _)) (V9.keep ((Up.drewN wo 1).kept _)) (HZ.out k).1 (HZ.out k).2).mono fun e w' ⟨h1, h2⟩ => ⟨h1, (Up.drewN wo 1).trans h2⟩
    clear hT V9 hI
    generalize gt a k = x at *
    generalize gt b k = y at *
    by_cases e : x = y
    ·have d9 : decide (x = y) = true := decide_eq_true e
     rw [d9] at HST
     have Wa := aa (BC.out e)
     clear e d9 zk BC
     go_wp2_with fail
     refine cZ (by kernel_rfl) 9 (fun w' => w'.cell? ⟨ab, ao + k * 2, none⟩ = some (.slice pp x.ps.length pc) ∧ w'.cell? ⟨ab, ao + k * 2 + 1, none⟩ = some (.slice np x.ns.length nc) ∧ w'.cell? ⟨bb, bo + k * 2, none⟩ = some (.slice o7 y.ps.length o8) ∧ w'.cell? ⟨bb, bo + k * 2 + 1, none⟩ = some (.slice o9 y.ns.length pg)) ⟨c0, c1, d0, d1⟩ (fun hS => ?_)
     simp only [List.size_toArray, List.length_cons, List.length_nil, Nat.reduceAdd, Array.replicate_succ, Array.replicate_zero, List.push_toArray, List.nil_append, List.cons_append]
     refine af.take (i := 0) (v := ?sH) rfl (by kernel_rfl) (fun _ _ _ h => h) (by rfl) (fun w hSw => ?iD) hS ?sI
     case iD =>
      (try dsimp only at hSw)
      go_simp
      try with_reducible rfl
     try simp only [Act.put, ah, aj, aq]
     refine af.take (i := 1) (v := ?sJ) rfl (by kernel_rfl) (fun _ _ _ h => h) (by rfl) (fun w hSw => ?iE) hS ?sK
     case iE =>
      (try dsimp only at hSw)
      go_simp
      try with_reducible rfl
     try simp only [Act.put, ah, aj, aq]
     refine af.take (i := 2) (v := ?vE) rfl (by kernel_rfl) (fun _ _ _ h => h) (by rfl) (fun w hSw => ?jC) hS ?vF
     case jC =>
      (try dsimp only at hSw)
      go_simp
      try with_reducible rfl
     try simp only [Act.put, ah, aj, aq]
     refine af.take (i := 3) (v := ?vG) rfl (by kernel_rfl) (fun _ _ _ h => h) (by rfl) (fun w hSw => ?jD) hS ?vH
     case jD =>
      (try dsimp only at hSw)
      go_simp
      try with_reducible rfl
     try simp only [Act.put, ah, aj, aq]
     refine af.take (i := 4) (v := ?vI) rfl (by kernel_rfl) (fun _ _ _ h => h) (by rfl) (fun w hSw => ?jE) hS ?vJ
     case jE =>
      (try dsimp only at hSw)
      go_simp
      try with_reducible rfl
     try simp only [Act.put, ah, aj, aq]
     refine af.take (i := 5) (v := ?vK) rfl (by kernel_rfl) (fun _ _ _ h => h) (by rfl) (fun w hSw => ?jF) hS ?vL
     case jF =>
      (try dsimp only at hSw)
      go_simp
      try with_reducible rfl
     try simp only [Act.put, ah, aj, aq]
     refine af.take (i := 6) (v := ?yO) rfl (by kernel_rfl) (fun _ _ _ h => h) (by rfl) (fun w hSw => ?lK) hS ?yP
     case lK =>
      (try dsimp only at hSw)
      go_simp
      try with_reducible rfl
     try simp only [Act.put, ah, aj, aq]
     refine af.take (i := 7) (v := ?Cr) rfl (by kernel_rfl) (fun _ _ _ h => h) (by rfl) (fun w hSw => ?nT) hS ?Cs
     case nT =>
      (try dsimp only at hSw)
      go_simp
      try with_reducible rfl
     try simp only [Act.put, ah, aj, aq]
     refine af.step (i := 8) rfl (by kernel_rfl) (fun K' hK => ?_)
     go_simp
     refine HST.out.mono ?_
     rintro e w2 ⟨rfl, hu⟩
     refine hK.out _ _ (aJ (by kernel_rfl)) (fun hS => ?_)
     try simp only [ah, aj, aq]
     refine af.step (i := 9) rfl (by kernel_rfl) (fun K' hK => ?_)
     go_simp
     refine hK.out _ _ (aJ (by kernel_rfl)) (fun hS => ?_)
     refine af.done (by kernel_rfl) ?_
     have HI2 : Hid (Up w w2 ∧ ∀ j, j < k + 1 → gt a j = gt b j) := ⟨Wa.out.1.trans hu, Wa.out.2⟩
     clear hu
     go_wp2_with fail
     go_roundw
     case rel => exact ⟨k + 1, by omega, by go_num, HI2.out⟩
     case measure => simp [intOf]; omega
    ·have d9 : decide (x = y) = false := decide_eq_false e
     rw [d9] at HST
     have HF := aa (zk.out e)
     clear e d9 zk BC
     go_wp2_with fail
     refine cZ (by kernel_rfl) 9 (fun w' => w'.cell? ⟨ab, ao + k * 2, none⟩ = some (.slice pp x.ps.length pc) ∧ w'.cell? ⟨ab, ao + k * 2 + 1, none⟩ = some (.slice np x.ns.length nc) ∧ w'.cell? ⟨bb, bo + k * 2, none⟩ = some (.slice o7 y.ps.length o8) ∧ w'.cell? ⟨bb, bo + k * 2 + 1, none⟩ = some (.slice o9 y.ns.length pg)) ⟨c0, c1, d0, d1⟩ (fun hS => ?_)
     simp only [List.size_toArray, List.length_cons, List.length_nil, Nat.reduceAdd, Array.replicate_succ, Array.replicate_zero, List.push_toArray, List.nil_append, List.cons_append]
     refine af.take (i := 0) (v := ?Xf) rfl (by kernel_rfl) (fun _ _ _ h => h) (by rfl) (fun w hSw => ?I2) hS ?Xg
     case I2 =>
      (try dsimp only at hSw)
      go_simp
      try with_reducible rfl
     try simp only [Act.put, ah, aj, aq]
     refine af.take (i := 1) (v := ?Xh) rfl (by kernel_rfl) (fun _ _ _ h => h) (by rfl) (fun w hSw => ?I3) hS ?Xi
     case I3 =>
      (try dsimp only at hSw)
      go_simp
      try with_reducible rfl
     try simp only [Act.put, ah, aj, aq]
     refine af.take (i := 2) (v := ?Xj) rfl (by kernel_rfl) (fun _ _ _ h => h) (by rfl) (fun w hSw => ?I4) hS ?Xk
     case I4 =>
      (try dsimp only at hSw)
      go_simp
      try with_reducible rfl
     try simp only [Act.put, ah, aj, aq]
     refine af.take (i := 3) (v := ?Xl) rfl (by kernel_rfl) (fun _ _ _ h => h) (by rfl) (fun w hSw => ?I5) hS ?Xm
     case I5 =>
      (try dsimp only at hSw)
      go_simp
      try with_reducible rfl
     try simp only [Act.put, ah, aj, aq]
     refine af.take (i := 4) (v := ?Xn) rfl (by kernel_rfl) (fun _ _ _ h => h) (by rfl) (fun w hSw => ?I6) hS ?Xo
     case I6 =>
      (try dsimp only at hSw)
      go_simp
      try with_reducible rfl
     try simp only [Act.put, ah, aj, aq]
     refine af.take (i := 5) (v := ?Xp) rfl (by kernel_rfl) (fun _ _ _ h => h) (by rfl) (fun w hSw => ?I7) hS ?Xq
     case I7 =>
      (try dsimp only at hSw)
      go_simp
      try with_reducible rfl
     try simp only [Act.put, ah, aj, aq]
     refine af.take (i := 6) (v := ?Xr) rfl (by kernel_rfl) (fun _ _ _ h => h) (by rfl) (fun w hSw => ?I8) hS ?Xt
     case I8 =>
      (try dsimp only at hSw)
      go_simp
      try with_reducible rfl
     try simp only [Act.put, ah, aj, aq]
     refine af.take (i := 7) (v := ?gv7k2) rfl (by kernel_rfl) (fun _ _ _ h => h) (by rfl) (fun w hSw => ?XF) hS ?gr7k2
     case XF =>
      (try dsimp only at hSw)
      go_simp
      try with_reducible rfl
     try simp only [Act.put, ah, aj, aq]
     refine af.step (i := 8) rfl (by kernel_rfl) (fun K' hK => ?_)
     go_simp
     refine HST.out.mono ?_
     rintro e w2 ⟨rfl, hu⟩
     refine hK.out _ _ (aJ (by kernel_rfl)) (fun hS => ?_)
     try simp only [ah, aj, aq]
     refine af.step (i := 9) rfl (by kernel_rfl) (fun K' hK => ?_)
     go_simp
     refine hK.out _ _ (aJ (by kernel_rfl)) (fun hS => ?_)
     refine af.done (by kernel_rfl) ?_
     have bE := aa (p9.out.trans hu)
     clear hu
     go_wp2_with fail
     go_ret
     exact ⟨bB HF.out.symm, bE.out⟩
   ·obtain rfl : k = a.length := by omega
    have HF : Hid (decide (a = b) = true) := decide_eq_true (HS.out.2 hI.out.2)
    go_wp2_with fail
    go_ret
    exact ⟨bB HF.out.symm, hI.out.1⟩
 ·have HF : Hid (decide (a = b) = false) := decide_eq_false fun e => hl (by rw [e])
  have gF : ((a.length : Int) != (b.length : Int)) = true := by simp; omega
  clear hl
  go_enter Tryz.func34, Tryz.ntmps34
  go_wp2_with fail
  go_ret
  exact ⟨bB HF.out.symm, Up.refl _⟩
end
end Go.Proofs.YteegefnjnikngaaGreat
