/- The contract of layer 31's reference's Parse. optimaltree.Score. optimaltree.All. -/
import Derived.Test.YthgabkgmkolobaaGreatQ1
import Derived.Test.YthgabkgmkolobaaGreatQ37
import Derived.Test.YthgabkgmkolobaaGreatQ28
import Derived.Test.YthgabkgmkolobaaGreatQ21
import Derived.Test.YthgabkgmkolobaaGreatQ38
import Derived.Test.YthgabkgmkolobaaGreatQ34
set_option maxRecDepth 100000
namespace Go.Proofs.YthgabkgmkolobaaGreat
section
open Go.RowKit Go.Deep
theorem Jh {s : List UInt8} (h : ∀ r, fW s ≠ some (r, [59])) : iU s = none := by
 cases e : iU s with
 | none => rfl
 | some r => exact absurd (Ds.2 e) (h r)
set_option maxHeartbeats 4000000 in
theorem Ni (w : World) (s : ByteArray) (hs : s.size ≤ 1000) : Calls Tryz.prog 146 #[.string s] w (yF w s) := by
 have hrb := fh (w := w) (P := .slice none 0 0) (N := .slice none 0 0) (T := 39)
 have hu := Up.alloc w (.cells #[.slice none 0 0, .slice none 0 0] 39)
 have hsz : (w.alloc (.cells #[.slice none 0 0, .slice none 0 0] 39)).heap.size = w.heap.size + 1 := World.size_alloc _ _
 have HU := aa hu
 have ct := aa hsz
 have lT := aa hrb
 have jO := aa hs
 have d1 : decide ((65536 : Int) < (s.size : Int)) = false := decide_eq_false (by omega)
 have Ls : ¬ 65536 < s.size := by omega
 have Qg := aa (fun W => E5 s.size s rfl hs W 0 (by omega))
 clear hrb hu hsz hs
 go_enter Tryz.func146, Tryz.ntmps146
 go_wp2_with fail
 clear d1 Ls
 generalize w.alloc (.cells #[.slice none 0 0, .slice none 0 0] 39) = w1 at *
 refine (Qg.out w1).mono ?_
 rintro e w2 ⟨aG, hm⟩
 have bw := aa (HU.out.trans aG)
 have jh := aa ((Below.block aG w.heap.size (by rw [ct.out]; omega)).trans lT.out)
 have lW : Hid (w.heap.size + 1 ≤ w2.heap.size) := by have := aG.size; rw [ct.out] at this; exact this
 clear aG Qg HU ct lT
 cases hr : fW s.data.toList with
 | none =>
  rw [hr] at hm
  subst hm
  have HST := aa (jl bw.out jh.out (Jh fun r e => by rw [hr] at e; cases e))
  obtain ⟨q0, q1, q2, q3⟩ := boxed jh.out
  clear hr
  go_wp2_with fail
  obtain ⟨s1, s2, s3⟩ := HST.out
  exact ⟨rfl, .tuple #[.agg #[.slice none 0 0, .slice none 0 0], .int .i64 3], by simp [results, Tryz.results146, go_sem, s1, s2], s3⟩
 | some q =>
  obtain ⟨r, l⟩ := q
  rw [hr] at hm
  obtain ⟨v2, rfl, hr2⟩ := hm
  obtain ⟨b2, rfl⟩ := oO hr2
  by_cases hl : l = [59]
  ·subst hl
   have p6 : iU s.data.toList = some r := Ds.1 hr
   have gN : s.data.toList.length = s.size := by rw [Array.length_toList]; rfl
   obtain ⟨B9, Ca, EP⟩ := yD p6
   have Qh := I7 hr
   rw [gN] at B9 Ca Qh
   have Ik : Hid ((flat r).ps.length ≤ 1000000) := by unfold Hid; have := jO.out; omega
   have Il : Hid ((flat r).ns.length ≤ 1000000) := by unfold Hid; have := jO.out; omega
   have Im : Hid (∀ k, (gs (flat r).ns k).size ≤ 70000) := fun j => by have := EP j; rw [gN] at this; have := jO.out; omega
   have mV := aa (AU _ w2 _ r hr2 (by have := jO.out; omega))
   have qb := aa p6
   have t1 : (bL [59]).toList = [59] := by rw [toList_data]; rfl
   have t2 : ((bL [59]).toList == [59]) = true := by rw [t1]; rfl
   generalize bL [59] = ub at *
   obtain ⟨q0, q1, q2, q3⟩ := boxed jh.out
   clear B9 Ca EP Qh gN p6 hr hr2
   go_wp2_with fail
   refine mV.out.mono ?_
   rintro e w4 ⟨cF, _, rfl, P4, N4, rfl, dY, eG⟩
   obtain ⟨pp, pc, rfl, -, -⟩ := aB.open dY
   obtain ⟨np, nc, rfl, -, -⟩ := aB.open eG
   have dY : aq _ w4 (.slice pp (flat r).ps.length pc) (flat r).ps := dY
   have eG : ah _ w4 (.slice np (flat r).ns.length nc) (flat r).ns := eG
   have bf := Up.alloc w4 (.cells #[.slice pp (flat r).ps.length pc, .slice np (flat r).ns.length nc] 39)
   have b0 := dW w4 (.slice pp (flat r).ps.length pc) (.slice np (flat r).ns.length nc) 39
   have b1 := eu w4 (.slice pp (flat r).ps.length pc) (.slice np (flat r).ns.length nc) 39
   have gj := aa b0
   have gm := aa b1
   have yG := (Below.block (cF.trans bf) w.heap.size (by have := lW.out; omega)).trans jh.out
   have Ip := aa yG
   have Iq := aa (bw.out.trans (cF.trans bf))
   have oo : Hid (aA (fun b => w2.heap.size ≤ b) (w4.alloc (.cells #[.slice pp (flat r).ps.length pc, .slice np (flat r).ns.length nc] 39)) (.agg #[.slice pp (flat r).ps.length pc, .slice np (flat r).ns.length nc]) (flat r)) := aA.keep ⟨_, _, rfl, dY, eG⟩ (bf.kept _)
   have eY := aa (r5 _ _ _ (flat r) oo.out Ik.out Il.out Im.out)
   have PK : Hid (w2.heap.size ≤ (w4.alloc (.cells #[.slice pp (flat r).ps.length pc, .slice np (flat r).ns.length nc] 39)).heap.size) := (cF.trans bf).size
   clear cF dY eG bf mV yG jh bw q0 q1 q2 q3 t1 t2
   go_wp2_with fail
   generalize w4.alloc (.cells #[.slice pp (flat r).ps.length pc, .slice np (flat r).ns.length nc] 39) = w5 at *
   refine eY.out.mono ?_
   rintro e w6 ⟨rfl, cU⟩
   have cU : Up w5 w6 := cU
   have b0 := cU.cell gj.out
   have b1 := cU.cell gm.out
   have sr := (Below.block cU w.heap.size (by have := lW.out; have := PK.out; omega)).trans Ip.out
   have AY := aa sr
   have AZ := aa (Iq.out.trans cU)
   have su := aa (oo.out.keep (cU.kept _))
   obtain ⟨q0, q1, q2, q3⟩ := boxed sr
   have yH : Hid (tF s = az (flat r)) := by unfold Hid tF; rw [qb.out]
   have uJ : Hid (qF s = if az (flat r) ≠ 0 then ⟨[], []⟩ else flat r) := by unfold Hid qF; rw [qb.out]
   clear cU sr eY
   by_cases he : az (flat r) = 0
   ·have A2 : Hid (qF s = flat r) := by unfold Hid; rw [uJ.out, if_neg (by simp [he])]
    have SK : Hid (tF s = 0) := by unfold Hid; rw [yH.out, he]
    rw [he]
    have HST := aa (dZ (w := w) (p := .slice pp (flat r).ps.length pc) (q := .slice np (flat r).ns.length nc) AY.out (Nat.le_refl _) AZ.out)
    clear he
    go_wp2_with fail
    obtain ⟨s1, s2, s3, s4⟩ := HST.out
    obtain ⟨P7, N7, e7, Bz, PL⟩ := su.out
    have e8 : P7 = .slice pp (flat r).ps.length pc ∧ N7 = .slice np (flat r).ns.length nc := by
     injection e7 with e7
     have := congrArg Array.toList e7
     simp at this
     exact ⟨this.1.symm, this.2.symm⟩
    obtain ⟨rfl, rfl⟩ := e8
    have hsw := lW.out
    refine ⟨rfl, .tuple #[.agg #[.slice pp (flat r).ps.length pc, .slice np (flat r).ns.length nc], .int .i64 0], by simp [results, Tryz.results146, go_sem, s2, s3], ?_⟩
    refine ⟨s1, _, by rw [SK.out], ?_⟩
    rw [A2.out]
    exact ⟨_, _, rfl, (aq.keep Bz fun b hb _ => s4 b (by have : w2.heap.size ≤ b := hb; omega)).sub fun _ _ _ => trivial, (ah.keep PL fun b hb _ => s4 b (by have : w2.heap.size ≤ b := hb; omega)).sub fun _ _ _ => trivial⟩
   ·have BK : (az (flat r) != 0) = true := by simpa using he
    have A2 : Hid (qF s = ⟨[], []⟩) := by unfold Hid; rw [uJ.out, if_pos he]
    have HST := aa (dZ (w := w) (p := .slice none 0 0) (q := .slice none 0 0) AY.out (Nat.le_refl _) AZ.out)
    clear he
    generalize hte : az (flat r) = te at *
    go_wp2_with fail
    obtain ⟨s1, s2, s3, s4⟩ := HST.out
    refine ⟨rfl, .tuple #[.agg #[.slice none 0 0, .slice none 0 0], .int .i64 te], by simp [results, Tryz.results146, go_sem, s2, s3], ?_⟩
    refine ⟨s1, _, by rw [yH.out], ?_⟩
    rw [A2.out]; exact AW _
  ·have HST := aa (jl bw.out jh.out (Jh fun r' e => by rw [hr] at e; injection e with e; injection e with _ e; exact hl e))
   obtain ⟨q0, q1, q2, q3⟩ := boxed jh.out
   have t1 : ((bL l).toList == [59]) = false := by
    rw [beq_eq_false_iff_ne, toList_data]
    exact hl
   have t2 : ¬ (bL l).toList = [59] := by
    rw [toList_data]
    exact hl
   clear hr hr2 hl
   generalize bL l = ub at *
   go_wp2_with fail
   obtain ⟨s1, s2, s3⟩ := HST.out
   exact ⟨rfl, .tuple #[.agg #[.slice none 0 0, .slice none 0 0], .int .i64 3], by simp [results, Tryz.results146, go_sem, s1, s2], s3⟩
end
section
open Go.RowKit Go.Deep
theorem WA {names : List ByteArray} (h5 : names.length ≤ 5 ∨ 7 < names.length) (h0 : bW names = 0) : names.length ≤ 5 := by
 rcases h5 with h5 | h5
 ·exact h5
 ·unfold bW at h0; rw [if_pos (.inr h5)] at h0; cases h0
theorem wD {names : List ByteArray} {states : List (List Int)} (h5 : names.length ≤ 5 ∨ 7 < names.length) (h0 : cI names states = 0) : k6 names states := by
 have h1 : bW names = 0 := by
  unfold cI at h0
  split at h0
  ·rename_i h; exact absurd h0 h
  ·rename_i h; omega
 exact (wA (WA h5 h1)).1 h0
end
section
open Go.RowKit Go.Deep
def pg (w : World) (names : List ByteArray) (e : Ending) (w' : World) : Prop :=
 Up w w' ∧ ∃ v, e = .returned (.tuple #[v, .int .i64 (bW names)]) ∧ cD Any w' v (if bW names = 0 then allT names else [])
theorem E8 {w : World} {v : Value} {qs : List RT} (h : uV w v qs) : ∃ g cap, v = .slice (some ⟨g, 0, none⟩) qs.length cap := by
 obtain ⟨g, cap, es, e1, _⟩ := h
 exact ⟨g, cap, e1⟩
theorem Bb {w : World} {g n cap : Nat} {qs : List RT} (h : uV w (.slice (some ⟨g, 0, none⟩) n cap) qs) {k : Nat} (hk : k < qs.length) :
  ∃ pp pc np nc, w.cell? ⟨g, k * 3, none⟩ = some (.slice pp (gt (qs.map flat) k).ps.length pc) ∧ w.cell? ⟨g, k * 3 + 1, none⟩ = some (.slice np (gt (qs.map flat) k).ns.length nc) ∧ w.cell? ⟨g, k * 3 + 2, none⟩ = some (.string (aK (qs.getD k (.node ByteArray.empty [])))) ∧ aA Any w (.agg #[.slice pp (gt (qs.map flat) k).ps.length pc, .slice np (gt (qs.map flat) k).ns.length nc]) (gt (qs.map flat) k) := by
 obtain ⟨g', cap', es, e1, e2, h1, h2⟩ := h
 injection e1 with e1
 injection e1 with e1
 injection e1 with e1
 subst e1; subst e2
 rw [List.length_map] at hk
 obtain ⟨c0, c1, c2⟩ := h1 k hk
 have hg : gt ((es.map (·.2)).map flat) k = flat (ge es k).2 := by simp [gt, ge, hk]
 have hg2 : (es.map (·.2)).getD k (.node ByteArray.empty []) = (ge es k).2 := by simp [ge, hk]
 have h3 := h2 _ (ge_mem hk)
 rw [hg, hg2]
 obtain ⟨P1, N1, e, hP, hN⟩ := h3
 injection e with e
 have e1 : (ge es k).1.1 = P1 ∧ (ge es k).1.2 = N1 := by simpa using e
 obtain ⟨pp, pc, e2, _, _⟩ := aB.open hP
 obtain ⟨np, nc, e3, _, _⟩ := aB.open hN
 rw [← e1.1] at e2
 rw [← e1.2] at e3
 rw [e2] at c0
 rw [e3] at c1
 refine ⟨pp, pc, np, nc, c0, c1, c2, _, _, rfl, ?_, ?_⟩
 ·rw [← e2, e1.1]; exact hP
 ·rw [← e3, e1.2]; exact hN
theorem Du {ts : List ay} {n : Nat} (h : n < ts.length) : ts.take (n + 1) = ts.take n ++ [gt ts n] := by
 rw [List.take_succ_eq_append_getElem h]; simp [gt, h]
def Vp (w : World) (names : List ByteArray) (n : Nat) (out : Value) (wr : World) : Prop := Up w wr ∧ ∃ es : List l6, ic w.heap.size wr out es ∧ es.map (·.2) = (allT names).take n
end
end Go.Proofs.YthgabkgmkolobaaGreat
