/- The contracts of parsimony.unit and Unit. optimaltree.entries: all binary trees with .. -/
import Derived.Test.YteegefnjnikngaaGreatQ1
import Derived.Test.YteegefnjnikngaaGreatQ39
import Derived.Test.YteegefnjnikngaaGreatQ40
import Derived.Test.YteegefnjnikngaaGreatQ33
import Derived.Test.YteegefnjnikngaaGreatQ31
import Derived.Test.YteegefnjnikngaaGreatQ34
import Derived.Test.YteegefnjnikngaaGreatQ16
import Derived.Test.YteegefnjnikngaaGreatQ22
import Derived.Test.YteegefnjnikngaaGreatQ7
import Derived.Test.YteegefnjnikngaaGreatQ3
import Derived.Test.YteegefnjnikngaaGreatQ37
import Derived.Deep.RegionHeld3
set_option maxRecDepth 100000
namespace Go.Proofs.YteegefnjnikngaaGreat
section
open Go.RowKit Go.Deep
def EX (w wr : World) (g0 N k : Nat) : Prop := Up w wr ∧ ∃ f, wr.rowIs g0 26 N f ∧ ∀ i, i < k → ax (fun b => b ≠ g0) wr (f i) (jG N i)
theorem EY {N k j : Nat} (hj : j < N) : (if j = k then Value.int .i64 0 else if j < N then .int .i64 1 else .int .i64 0) = .int .i64 (gi (jG N k) j) := by
 rw [Jd hj]
 unfold EH
 by_cases h : j = k
 ·rw [if_pos h, if_pos h.symm]
 ·rw [if_neg h, if_pos hj, if_neg (fun e => h e.symm)]
theorem EX.step {w wr w8 : World} {g0 g N k : Nat} (h : EX w wr g0 N k) (hk : k < N) (hu : Up wr w8) (hg : wr.heap.size ≤ g) (hr : w8.heap[g]? = some (.cells (dy N N).toArray 3 (0, 0))) (hw0 : w.heap.size ≤ g0) :
  EX w ((w8.setCell ⟨g0, k, none⟩ (.slice (some ⟨g, 0, none⟩) N N)).setCell ⟨g, k, none⟩ (.int .i64 0)) g0 N (k + 1) := by
 obtain ⟨dK, f, hrow, hin⟩ := h
 have hg0 := hrow.lt
 have hne : g0 ≠ g := by omega
 have zl : w8.rowIs g0 26 N f := hrow.of_block (Below.block hu g0 hg0)
 have XB := (zl.set k (.slice (some ⟨g, 0, none⟩) N N)).setOther (a := ⟨g, k, none⟩) hne (.int .i64 0)
 have hwg : w.heap.size ≤ g := Nat.le_trans dK.size hg
 refine ⟨((dK.trans hu).setCell (p := ⟨g0, k, none⟩) hw0 _).setCell (p := ⟨g, k, none⟩) hwg _, _, XB, fun i hi => ?_⟩
 by_cases hik : i = k
 ·subst hik
  simp only [if_true]
  refine ⟨_, _, by rw [qV], by rw [qV]; exact Nat.le_refl _, .inr ⟨g, 0, rfl, fun e => hne e.symm, fun j hj => ?_⟩⟩
  rw [qV] at hj
  show _ = some (Value.int .i64 (gi (jG N i) j))
  rw [Nat.zero_add, ← EY hj]
  have hb : (w8.setCell ⟨g0, i, none⟩ (.slice (some ⟨g, 0, none⟩) N N)).cell? ⟨g, j, none⟩ = some (if j < N then .int .i64 1 else .int .i64 0) := by
   rw [ru (by simpa using hne)]; exact qA hr hj
  have hb2 : (w8.setCell ⟨g0, i, none⟩ (.slice (some ⟨g, 0, none⟩) N N)).cell? ⟨g, i, none⟩ = some (if i < N then .int .i64 1 else .int .i64 0) := by
   rw [ru (by simpa using hne)]; exact qA hr hk
  by_cases e : j = i
  ·subst e; rw [if_pos rfl]; exact Ci ⟨_, hb⟩
  ·rw [if_neg e]
   exact (World.cell?_setCell_other _ ⟨g, i, none⟩ ⟨g, j, none⟩ _ (fun h => e (by injection h with _ h2; exact h2.symm))).trans hb
 ·simp only [hik, if_false]
  refine ax.keep (hin i (by omega)) (w := wr) fun b hb hl => ?_
  have h1 : w8.heap[b]? = wr.heap[b]? := Below.block hu b hl
  rw [← h1]
  exact (blk_setCell_other _ _ _ _ (by simp; omega)).trans (blk_setCell_other _ _ _ _ (by simpa using hb))
set_option maxHeartbeats 1000000 in
theorem Vx (w : World) (N : Nat) (Gf : 1 ≤ N) (hN : N ≤ 16) : Calls Tryz.prog 184 #[.int .i64 N] w (yt w (bM N)) := by
 have hmk := fun W => run_make_row' (P := Tryz.prog) 23 26 (.slice none 0 0) 24 Tryz.underlying23 Tryz.J2 rfl .i64 .i64 N (by omega) (by omega) W
 have HO : Hid (EX w (w.alloc (.cells (madeCells #[.slice none 0 0] N) 26)) w.heap.size N 0) := ⟨Up.alloc _ _, _, World.rowIs_made w (.slice none 0 0) N 26, fun _ hi => absurd hi (Nat.not_lt_zero _)⟩
 go_enter Tryz.func184, Tryz.ntmps184
 go_wp2_with fail
 generalize w.alloc (.cells (madeCells #[.slice none 0 0] N) 26) = w1 at *
 go_loopw [9] (fun i wr => ∃ k : Nat, k ≤ N ∧ i = .int .i64 k ∧ Hid (EX w wr w.heap.size N k)) (fun i _ => N - (intOf i).toNat)
 case atStart => exact ⟨0, Nat.zero_le _, rfl, HO⟩
 case round =>
  obtain ⟨k, hk, rfl, hO⟩ := hrel
  obtain ⟨wo, rfl⟩ : ∃ wo : World, wo = wr := ⟨_, rfl⟩
  by_cases hlt : k < N
  ·obtain ⟨dK, f, hrow, _⟩ := hO.out
   have hg0 := hrow.lt
   have H7 := aa hrow
   have ZW := aa (ER (wo.alloc (.cells #[.int .i64 1] 3)) wo.heap.size 0 N Gf (by omega) (aK _ _ _ 0))
   clear dK hrow
   go_wp2_with fail
   refine ZW.out.mono ?_
   rintro e w8 ⟨g, rfl, hg, hu, hr⟩
   rw [World.size_alloc] at hg
   have mW : Up wo w8 := (Up.alloc _ _).trans hu
   have hst := hO.out.step hlt mW (by omega) hr (Nat.le_refl _)
   have zl := H7.out.of_block (Below.block mW _ hg0)
   have hcell : w8.cell? ⟨w.heap.size, k, none⟩ = some (f k) := zl.cell hlt
   have hfz : w8.frozen? ⟨w.heap.size, k, none⟩ = false := zl.frozen k
   have hcg : w8.cell? ⟨g, k, none⟩ = some (.int .i64 1) := by have h := qA hr hlt; rw [if_pos hlt] at h; exact h
   have hfg : w8.frozen? ⟨g, k, none⟩ = false := by simp [World.frozen?, hr]
   have hne : w.heap.size ≠ g := by omega
   have zB : g ≠ w.heap.size := by omega
   have HST := aa hst
   clear hst zl hr hu mW H7 ZW hO
   go_wp2_with fail
   go_roundw
   case rel => exact ⟨k + 1, by omega, by go_num, HST⟩
   case measure => simp [intOf]; omega
  ·obtain rfl : k = N := by omega
   go_wp2_with fail
   go_ret
   obtain ⟨dK, f, hrow, hin⟩ := hO.out
   refine ⟨dK, .slice (some ⟨w.heap.size, 0, none⟩) k k, rfl, f, ⟨_, _, by rw [kQ], by rw [kQ]; exact Nat.le_refl _, .inr ⟨_, 0, rfl, trivial, fun i hi => ?_⟩⟩, fun i hi => ?_⟩
   ·rw [kQ] at hi
    rw [Nat.zero_add]; exact hrow.cell hi
   ·rw [kQ] at hi
    rw [Oh hi]; exact (hin i hi).sub fun _ _ _ => trivial
end
section
open Go.RowKit Go.Deep
theorem rT {s : ByteArray} (h : aP s.data.toList = true) : s.size ≤ 20 := by
 have hl : s.data.toList.length = s.size := size_data s
 unfold aP cR at h
 split at h
 ·simp only [Bool.and_eq_true, decide_eq_true_eq] at h; omega
 ·simp only [Bool.and_eq_true, decide_eq_true_eq] at h; omega
theorem B1 {S : Nat → Prop} {w : World} {b o n cap : Nat} {xs : List ByteArray} (h : au S w (.slice (some ⟨b, o, none⟩) n cap) xs) (hn : 2 ≤ xs.length) : au S w (.slice (some ⟨b, o + 1, none⟩) (xs.length - 1) (cap - 1)) xs.tail := by
 obtain ⟨p, c, e, hc, h⟩ := h
 injection e with e1 e2 e3
 subst e1; subst e3
 refine ⟨_, _, by rw [List.length_tail], by rw [List.length_tail]; omega, ?_⟩
 rcases h with h | ⟨b', o', e4, hS, h⟩
 ·omega
 ·injection e4 with e4
  injection e4 with e5 e6
  subst e5; subst e6
  refine .inr ⟨b, o + 1, rfl, hS, fun k hk => ?_⟩
  rw [List.length_tail] at hk
  have := h (k + 1) (by omega)
  rw [show o + 1 + k = o + (k + 1) by omega, this]
  show some (Value.string (gs xs (k + 1))) = some (Value.string (gs xs.tail k))
  have : gs xs.tail k = gs xs (k + 1) := by
   unfold gs
   cases xs with
   | nil => simp at hn
   | cons a l => rfl
  rw [this]
def kR (names : List ByteArray) (s : ByteArray) : ByteArray := ⟨#[40]⟩ ++ gs names 0 ++ ⟨#[44]⟩ ++ s ++ ⟨#[41, 59]⟩
structure EnF (names : List ByteArray) (r : BT ByteArray) : Prop where
 Jj : gH (kR names (gK r)).data.toList = some (btR (uB names r))
 Vy : (kR names (gK r)).size ≤ 1000
 te : aB (flat (btR (uB names r))) = 0
 can : nu (flat (btR (uB names r))) = flat (uR names r)
 ZX : aB (flat (uR names r)) = 0
 tx : qq (flat (uR names r)) = bG (uR names r)
 len : aG (btR (uB names r)) ≤ 9 ∧ aG (uR names r) ≤ 9
 sz : ∀ k, (gs (flat (btR (uB names r))).ns k).size ≤ 70000
 ZY : ∀ k, (gs (flat (uR names r)).ns k).size ≤ 70000
theorem qW {r : RT} (h : ja r) (k : Nat) : (gs (flat r).ns k).size ≤ 70000 := by
 refine gZ (M := 70000) (fun x hx => ?_) k
 have hx : x ∈ b7 r := hx
 rw [kN] at hx
 obtain ⟨s, hs, rfl⟩ := List.mem_map.1 hx
 by_cases e : s.kids = []
 ·exact Nat.le_trans (rT (h.lf s hs e)) (by decide)
 ·rw [h.A5 s hs e]; exact Nat.zero_le _
theorem ZZ {names : List ByteArray} (h : fQ names) {r : BT ByteArray} (hr : r ∈ iO names.tail) : EnF names r := by
 have hp : r.fc.Perm names.tail := ve _ _ _ hr
 have ho := P6 h hp
 have hg := ho.P3.good
 have hhi := h.hi
 have hlo := h.lo
 have hl := (rO h hp).length_eq
 have hs := vS (uB names r)
 have hz : ∀ x ∈ names, x.size ≤ 20 := fun x hx => rT (h.nm x hx)
 have ht := uE hg (by omega)
 have wM : r ∈ rt names.length names.tail := by
  have : rt names.length names.tail = iO names.tail := mC _ _ _ (by simp) (Nat.le_refl _)
  rw [this]; exact hr
 obtain ⟨_, _, q3, _, q5, _⟩ := eC h (EG.2 ⟨r, wM, rfl⟩)
 refine ⟨?_, ?_, ht, by rw [uD ht, sw]; rfl, q5, by rw [UK q5, sw]; rfl, by omega, qW hg, qW (r := uR names r) hg.sort⟩
 ·have e : (kR names (gK r)).data.toList = txR (btR (uB names r)) ++ [59] := by
   unfold kR gK uB
   rw [P5, btR, sX]
   simp
  rw [e]; exact rL hg.ig
 ·have h1 := s5 r fun x hx => hz x (List.mem_of_mem_tail (hp.mem_iff.1 hx))
  have h2 := hp.length_eq
  have h3 := gZ hz 0
  rw [List.length_tail] at h2
  unfold kR
  simp only [ByteArray.size_append]
  show 1 + (gs names 0).size + 1 + (gK r).size + 2 ≤ 1000
  omega
def EZ (w : World) (names : List ByteArray) (e : Ending) (w' : World) : Prop := Up w w' ∧ ∃ v, e = .returned (.tuple #[v, .int .i64 0]) ∧ rQ w' v (aW names)
theorem B2 {base n size : Nat} {e : TypeId} {w w' : World} {v : Value} {vs : List Value} (h : w.ownsRow base e size v n vs) (k : ∀ b, v.ownBlock = some b → w'.heap[b]? = w.heap[b]?) : w'.ownsRow base e size v n vs := by
 refine ⟨h.1, ?_⟩
 rcases h.2 with h2 | ⟨g, cap, cur, hv, hg, hc, h3⟩
 ·exact .inl h2
 ·exact .inr ⟨g, cap, cur, hv, hg, (k g (by rw [hv]; rfl)).trans hc, h3⟩
theorem gp.up {base : Nat} {w w' : World} {v : Value} {es : List jZ} (h : gp base w v es) (hu : Up w w') : gp base w' v es :=
 ⟨B2 h.1 fun b hb => Below.block hu b (World.ownsRow.lt h.1 b hb).2, fun x hx => (h.2 x hx).keep (hu.kept _)⟩
def gB (R : List (BT ByteArray)) (n : Nat) : BT ByteArray := R.getD n (.leaf ByteArray.empty)
theorem Vz {L : List ByteArray} {n : Nat} (h : n < (iO L).length) : gs (bg L) n = gK (gB (iO L) n) ∧ gB (iO L) n ∈ iO L := by
 unfold gs gB bg
 constructor
 ·simp [h]
 ·simp [h]
end
section
open Go.RowKit Go.Deep
end
section
open Go.RowKit Go.Deep
def qB (t : av) (names : List ByteArray) (n : Nat) : List Int := (List.range n).map fun j => gJ names (gs t.ns (gi (aC t.ns) j).toNat)
theorem rU (t : av) (names : List ByteArray) (n : Nat) : (qB t names n).length = n := by simp [qB]
theorem Ox (t : av) (names : List ByteArray) (n : Nat) : qB t names (n + 1) = qB t names n ++ [gJ names (gs t.ns (gi (aC t.ns) n).toNat)] := by simp [qB, List.range_succ]
theorem LN {t : av} {names : List ByteArray} {n j : Nat} (h : j < n) : gi (qB t names n) j = gJ names (gs t.ns (gi (aC t.ns) j).toNat) := by simp [qB, gi, h]
def tL (t : av) (names : List ByteArray) : Bool := decide (aB t = 0) && nB t names
def E0 (w : World) (t : av) (names : List ByteArray) (e : Ending) (w' : World) : Prop :=
 Up w w' ∧ ∃ v, e = .returned (.tuple #[v, .bool (tL t names)]) ∧ (tL t names = true → ax (fun b => w.heap.size ≤ b) w' v (qB t names (aC t.ns).length))
theorem Jk {w W : World} {t : av} {names : List ByteArray} {v : Value} (h : tL t names = false) (hu : Up w W) : E0 w t names (.returned (.tuple #[v, .bool false])) W :=
 ⟨hu, v, by rw [h], fun e => by rw [h] at e; cases e⟩
set_option maxHeartbeats 4000000 in
theorem Oy (S : Nat → Prop) (w : World) (v vn : Value) (t : av) (names : List ByteArray) (hT : ay S w v t) (hp : t.ps.length ≤ 1000000) (hn : t.ns.length ≤ 1000000) (hz : ∀ k, (gs t.ns k).size ≤ 70000) (h : au S w vn names) (hnn : names.length ≤ 1000000) :
  Calls Tryz.prog 119 #[v, vn] w (E0 w t names) := by
 obtain ⟨P, N, rfl, hP, hN⟩ := hT
 obtain ⟨np, nc, rfl, hncap, -⟩ := aA.open hN
 have hN : au S w (.slice np t.ns.length nc) t.ns := hN
 obtain ⟨pp, pc, rfl, hpcap, -⟩ := aA.open hP
 have hP : ax S w (.slice pp t.ps.length pc) t.ps := hP
 obtain ⟨mp, mc, rfl, hmcap, -⟩ := aA.open h
 have h : au S w (.slice mp names.length mc) names := h
 have aS : Up w (w.alloc (.cells #[.slice pp t.ps.length pc, .slice np t.ns.length nc] 39)) := Up.alloc _ _
 have hrb := fW (w := w) (P := .slice pp t.ps.length pc) (N := .slice np t.ns.length nc) (T := 39)
 have hsz : w.heap.size < (w.alloc (.cells #[.slice pp t.ps.length pc, .slice np t.ns.length nc] 39)).heap.size := by simp
 obtain ⟨q0, q1, -, -⟩ := boxed hrb
 have E1 := aa (xq S (w.alloc (.cells #[.slice pp t.ps.length pc, .slice np t.ns.length nc] 39)) (.agg #[.slice pp t.ps.length pc, .slice np t.ns.length nc]) t ⟨_, _, rfl, ax.keep hP (aS.kept S), au.keep hN (aS.kept S)⟩ hp hn hz)
 have HN := aa (au.keep hN (aS.kept S))
 have HM := aa (au.keep h (aS.kept S))
 have bF := aa aS
 have b5 := aa hsz
 have HB : Hid (tL t names = (decide (aB t = 0) && (decide ((aC t.ns).length = names.length) && !zY t names))) := rfl
 have lI : Hid (∀ n, n < (aC t.ns).length → ∃ k : Nat, gi (aC t.ns) n = k ∧ k < t.ns.length) := fun n hn => by
  obtain ⟨k, h1, h2, _⟩ := r9 hn
  exact ⟨k, h1, h2⟩
 have dN : Hid ((aC t.ns).length ≤ 1000000) := Nat.le_trans (qK _) hn
 have HOF : Hid (∀ n, n < (aC t.ns).length → gJ names (gs t.ns (gi (aC t.ns) n).toNat) < 0 → zY t names = true) := fun n hn h0 => List.any_eq_true.2 ⟨n, List.mem_range.2 hn, decide_eq_true h0⟩
 have HON : Hid ((∀ n, n < (aC t.ns).length → ¬ gJ names (gs t.ns (gi (aC t.ns) n).toNat) < 0) → zY t names = false) := fun hh => any_none fun j hj => decide_eq_false (hh j hj)
 clear hP hN h aS hrb hsz hz
 go_enter Tryz.func119, Tryz.ntmps119
 go_wp2_with fail
 generalize w.alloc (.cells #[.slice pp t.ps.length pc, .slice np t.ns.length nc] 39) = w1 at *
 refine E1.out.mono ?_
 rintro e w2 ⟨hb, ⟨h1, rfl⟩ | ⟨h1, lv, rfl, hlv⟩⟩
 ·have dS : Hid (tL t names = false) := by unfold Hid; rw [HB.out, decide_eq_false h1]; rfl
  have bE := aa (bF.out.trans (show Up w1 w2 from hb))
  have zm := aa (Jk (v := .slice none 0 0) dS.out bE.out)
  clear hb h1 E1
  go_wp2_with fail
  go_ret2
  exact zm.out
 obtain ⟨lp, lc, rfl, -, -⟩ := aA.open hlv
 replace hlv : ax (fun b => w1.heap.size ≤ b) w2 (.slice lp (aC t.ns).length lc) (aC t.ns) := hlv
 have aF : Up w1 w2 := hb
 have bE := aa (bF.out.trans aF)
 have vp : Hid (tL t names = (decide ((aC t.ns).length = names.length) && !zY t names)) := by unfold Hid; rw [HB.out, decide_eq_true h1]; rfl
 by_cases hl : (aC t.ns).length = names.length
 ·have HLV2 := aa hlv
  have D9 := aa (au.keep HN.out (aF.kept _))
  have Gz := aa (au.keep HM.out (aF.kept _))
  have wW : Hid (tL t names = !zY t names) := by unfold Hid; rw [vp.out, decide_eq_true hl]; rfl
  have HQ := aa (And.intro (aF.cell q0) (aF.cell q1))
  have d1 : (((aC t.ns).length : Int) != (names.length : Int)) = false := by simp [hl]
  have HL := aa hl
  clear hb h1 hlv aF E1 q0 q1 bF HB vp hl
  go_wp2_with fail
  have rj : Hid (w.heap.size ≤ w2.heap.size) := bE.out.size
  clear d1
  go_loopw [8, 10, 11, 28] (fun a _ _ i wr => ∃ k : Nat, k ≤ (aC t.ns).length ∧ i = .int .i64 k ∧ Hid (az w2.heap.size 3 wr a ((qB t names k).map (Value.int .i64)) ∧ Up w2 wr ∧ ∀ n, n < k → ¬ gJ names (gs t.ns (gi (aC t.ns) n).toNat) < 0)) (fun _ _ _ i _ => (aC t.ns).length - (intOf i).toNat)
  case atStart => exact ⟨0, Nat.zero_le _, rfl, az.nil _ _ _, Up.refl _, fun n hn => absurd hn (Nat.not_lt_zero _)⟩
  case round =>
   obtain ⟨k, hk, rfl, hI⟩ := hrel
   obtain ⟨wo, rfl⟩ : ∃ wo : World, wo = wr := ⟨_, rfl⟩
   obtain ⟨hA, en, hd⟩ := hI.out
   by_cases hlt : k < (aC t.ns).length
   ·obtain ⟨xb, xo, rfl, lT⟩ := dQ (ax.keep HLV2.out (en.kept _)) hlt
    obtain ⟨x, hx1, hx2⟩ := lI.out k hlt
    obtain ⟨nb, no, rfl, dr⟩ := bQ (au.keep D9.out (en.kept _)) hx2
    have Aw : Hid (Calls Tryz.prog 102 #[.slice mp names.length mc, .string (gs t.ns x)] wo fun e w' => e = .returned (.int .i64 (gJ names (gs t.ns x))) ∧ wo = w') := wA _ wo _ names.length (fun j => gs names j) (gs t.ns x) (au.keep Gz.out (en.kept _)) hnn
    have fH : Hid ((qB t names (k + 1)).map (Value.int .i64) = (qB t names k).map (Value.int .i64) ++ [.int .i64 (gJ names (gs t.ns x))]) := by
     unfold Hid; rw [Ox, List.map_append, hx1, Int.toNat_natCast]; rfl
    have dW : Hid (((qB t names k).map (Value.int .i64)).length = k) := by unfold Hid; rw [List.length_map, rU]
    have Oz := aa (HOF.out k hlt)
    have q0 := en.cell HQ.out.1
    have q1 := en.cell HQ.out.2
    rw [hx1] at lT
    have jc := aa hx1
    have HA := aa hA
    have Qh := aa en
    have HD := aa hd
    have i1 : (0 : Int) ≤ (k : Int) := by omega
    have i2 : (k : Int) < ((aC t.ns).length : Int) := by omega
    have i3 : (k : Int) < 1000000 := by have := dN.out; omega
    have i4 : (0 : Int) ≤ (x : Int) := by omega
    have i5 : (x : Int) < (t.ns.length : Int) := by omega
    have hsz := en.size
    clear hI hA en hd hx1
    by_cases hf : gJ names (gs t.ns x) < 0
    ·have dS : Hid (tL t names = false) := by unfold Hid; rw [wW.out, Oz.out (by rw [jc.out, Int.toNat_natCast]; exact hf)]; rfl
     have zm := aa (Jk (v := .slice none 0 0) dS.out (bE.out.trans Qh.out))
     generalize gJ names (gs t.ns x) = fx at *
     generalize gs t.ns x = nm at *
     clear fH Oz jc
     go_wp2_with fail
     refine Aw.out.mono ?_
     rintro e w' ⟨rfl, rfl⟩
     go_wp2_with fail
     go_ret2
     exact zm.out
    ·have HF := aa hf
     have HFG : Hid (gJ names (gs t.ns (gi (aC t.ns) k).toNat) = gJ names (gs t.ns x)) := by unfold Hid; rw [jc.out, Int.toNat_natCast]
     generalize gJ names (gs t.ns x) = fx at *
     generalize gs t.ns x = nm at *
     have h9 : (0 : Int) ≤ fx := Int.not_lt.1 hf
     obtain ⟨y, rfl⟩ : ∃ y : Nat, fx = y := ⟨fx.toNat, by omega⟩
     clear Oz jc hf h9
     obtain ⟨ap, ac, rfl, -⟩ := HA.out.form dW.out
     have d9 : decide ((y : Int) < 0) = false := by simp
     go_wp2_with fail
     refine Aw.out.mono ?_
     rintro e w' ⟨rfl, rfl⟩
     go_wp2_with (at_builtin; refine qN wo rfl _ _ 26 rfl w2.heap.size 3 _ 8 Tryz.underlying26 Tryz.jx rfl (by decide) HA.out rfl _ rfl rfl k dW.out (by omega) hsz ?_; intro g cap w8 hown1 hg1 lu)
     have wX : Hid (az w2.heap.size 3 w8 (.slice (some ⟨g, 0, none⟩) (k + 1) cap) ((qB t names (k + 1)).map (Value.int .i64))) := by unfold Hid; rw [fH.out]; exact hown1
     have mZ : Hid (Up w2 w8) := Below.trans Qh.out lu
     clear hown1 hg1 lu
     go_roundw
     case rel => exact ⟨k + 1, by omega, by go_num, wX.out, mZ.out, fun n hn => if e : n = k then by subst e; rw [HFG.out]; exact Int.not_lt.2 HF.out else Int.not_lt.2 (HD.out n (by omega))⟩
     case measure => simp [intOf]; omega
   ·obtain rfl : k = (aC t.ns).length := by omega
    have dS : Hid (tL t names = true) := by unfold Hid; rw [wW.out, HON.out fun n hn => Int.not_lt.1 (hd n hn)]; rfl
    obtain ⟨ap, ac, rfl, -⟩ := hA.form (n := (aC t.ns).length) (by rw [List.length_map, rU])
    have hi := hA.ints
    have ng : Hid (E0 w t names (.returned (.tuple #[.slice ap (aC t.ns).length ac, .bool true])) wo) := ⟨bE.out.trans en, _, by rw [dS.out], fun _ => hi.sub fun b hb _ => Nat.le_trans rj.out hb⟩
    clear hI hA en hd hi
    go_wp2_with fail
    go_ret2
    exact ng.out
 ·have dS : Hid (tL t names = false) := by unfold Hid; rw [vp.out, decide_eq_false hl]; rfl
  have d1 : ¬ ((aC t.ns).length : Int) = (names.length : Int) := by omega
  have zm := aa (Jk (v := .slice none 0 0) dS.out bE.out)
  clear hb h1 E1
  go_wp2_with fail
  go_ret2
  exact zm.out
end
section
open Go.RowKit Go.Deep
def LO (w : World) (t : av) (st : List Int) (e : Ending) (w' : World) : Prop :=
 Up w w' ∧ e = .returned (.tuple #[.int .i64 (cw t st (bM 16)), .int .i64 (fo t st (bM 16))])
theorem XC : kU (bM 16) = 0 := by decide +kernel
theorem Cv : (bM 16).length = 16 := kQ 16
theorem XD {t : av} (h : aB t = 0) (st : List Int) : fo t st (bM 16) = ki st (aC t.ns).length (-1) 16 := by
 unfold fo; rw [if_neg (fun e => e h), if_neg (fun e => e XC), Cv]; rfl
theorem GY {t : av} {st : List Int} {cs : List (List Int)} (h : fo t st cs ≠ 0) : cw t st cs = 0 := by unfold cw; rw [if_neg h]
theorem OA (T : Nat → Prop) (w : World) (vr : Value) (row : List Int) (hR : ax T w vr row) (R9 : row.length ≤ 1000) :
  Calls Tryz.prog 182 #[vr] w fun e w' => e = .returned (.tuple #[.int .i64 (bq (fun _ => 0) (gi row) row.length).1, .int .i64 (bq (fun _ => 0) (gi row) row.length).2]) ∧ w = w' := QF T w vr row hR R9
set_option maxHeartbeats 2000000 in
theorem Rm (S : Nat → Prop) (w : World) (v vs : Value) (t : av) (st : List Int) (hT : ay S w v t) (hS : ax S w vs st) (hp : t.ps.length ≤ 1000000) (hn : t.ns.length ≤ 1000000) (hz : ∀ k, (gs t.ns k).size ≤ 70000) (hst : st.length ≤ 1000000) :
  Calls Tryz.prog 134 #[v, vs] w (LO w t st) := by
 obtain ⟨P, N, rfl, hP, hN⟩ := hT
 have hu := Up.alloc w (.cells #[P, N] 39)
 have iL : ay S (w.alloc (.cells #[P, N] 39)) (.agg #[P, N]) t := ay.keep ⟨P, N, rfl, hP, hN⟩ (hu.kept S)
 have HK := aa (xq S _ _ t iL hp hn hz)
 have HU := aa hu
 have gG := aa (dO w P N 39)
 have eO := aa (dP w P N 39)
 have HT := aa iL
 have HS := aa (ax.keep hS (hu.kept S))
 have SG := aa hz
 clear hu iL hS hP hN hz
 go_enter Tryz.func134, Tryz.ntmps134
 go_wp2_with fail
 generalize w.alloc (.cells #[P, N] 39) = w1 at *
 refine HK.out.mono ?_
 rintro e w2 ⟨hb, ⟨he, rfl⟩ | ⟨he, vl, rfl, hl⟩⟩
 ·have bE := aa (HU.out.trans (show Up w1 w2 from hb))
  have HE := aa he
  clear hb he HK
  go_wp2_with fail
  go_ret2
  have hpe : fo t st (bM 16) = 1 := by unfold fo; rw [if_pos HE.out]
  exact ⟨bE.out, by rw [GY (by rw [hpe]; decide), hpe]; rfl⟩
 ·have aF : Up w1 w2 := hb
  have hc0 := aF.cell gG.out
  have hc1 := aF.cell eO.out
  have bE := aa (HU.out.trans aF)
  have mP := aa (HT.out.keep (aF.kept S))
  have jM := aa (ax.keep HS.out (aF.kept S))
  obtain ⟨ql, capl, rfl, _, _⟩ := aA.open hl
  have HE := aa he
  have Z0 := aa (QE S w2 vs st (aC t.ns).length (-1) 16 jM.out hst)
  have uX := aa (XD he st)
  clear hb he HK aF hl HU gG eO HT HS
  go_wp2_with fail
  refine Z0.out.mono ?_
  rintro e w3 ⟨rfl, hb3⟩
  have b9 : Up w2 w3 := hb3
  have hc0 := b9.cell hc0
  have hc1 := b9.cell hc1
  have dL := aa (bE.out.trans b9)
  have GZ := aa (mP.out.keep (b9.kept S))
  have G0 := aa (ax.keep jM.out (b9.kept S))
  clear hb3 b9 Z0
  rw [← uX.out]
  by_cases hpe : fo t st (bM 16) = 0
  ·rw [hpe]
   have hv := CC hpe
   have HF : Hid (cw t st (bM 16) = (bq (fun _ => 0) (gi (aN t st (bM 16) 0)) (bM 16).length).1) := by unfold Hid cw; rw [if_pos hpe]
   have HP := aa hpe
   have yj : Hid (∀ W vc, Up w3 W → aX Any W vc (bM 16) → Calls Tryz.prog 183 #[.agg #[P, N], vs, vc] W (GR W t st (bM 16))) := fun W vc hW hR =>
    (QI Any W _ _ _ t st (bM 16) ((GZ.out.keep (hW.kept _)).sub fun _ _ _ => trivial) (ax.sub (ax.keep G0.out (hW.kept _)) fun _ _ _ => trivial) hR SG.out hv).mono fun _ _ h => tb1 hv h
   have hml : (aN t st (bM 16) 0).length ≤ 1000 := by rw [eR, Cv]; omega
   have hpos0 : (0 : Int) < (t.ps.length : Int) := by have := (aI HE.out).1; omega
   have rI := aa hml
   have Y2 := aa (Up.refl w3)
   have dK : Hid (Up w3 (w3.drewN 1)) := Up.drewN w3 1
   clear hpe hv hml
   go_wp2_with fail
   go_region_with (first
    | (go_at_call 184; refine (Vx _ 16 (by decide) (by decide)).mono ?_; rintro e w5 ⟨k6, vc, rfl, Bl⟩; have hR5 := aa Bl; have hc0 := (dK.out.trans (show Up _ w5 from k6)).cell hc0; have hc1 := (dK.out.trans (show Up _ w5 from k6)).cell hc1; have dK : Hid (Up w3 w5) := dK.out.trans (show Up _ w5 from k6); clear k6 Bl)
    | (go_at_call 183; refine (yj.out _ _ dK.out hR5.out).mono ?_; rintro e w6 ⟨tb, Vo, Vp, rq, rc, rfl, hcell, hrow, VA⟩; have hR6 := aa hrow; have dK : Hid (Up w3 w6) := dK.out.trans VA; clear VA hrow)
    | (go_at_call 182; refine (OA Any _ _ _ hR6.out rI.out).mono ?_; rintro e w7 ⟨rfl, rfl⟩))
   all_goals
    go_wp2_with fail
    go_ret2
    exact ⟨dL.out.trans dK.out, by rw [HF.out, HP.out, Cv, eR, Cv]; rfl⟩
  ·have yD : (fo t st (bM 16) != 0) = true := by simpa using hpe
   have HP := aa hpe
   clear hpe
   have Qi : Hid (cw t st (bM 16) = 0) := GY HP.out
   go_wp2_with fail
   go_ret2
   exact ⟨dL.out, by rw [Qi.out]; rfl⟩
end
end Go.Proofs.YteegefnjnikngaaGreat
