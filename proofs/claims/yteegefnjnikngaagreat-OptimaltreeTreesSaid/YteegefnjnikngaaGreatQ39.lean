/- Plain: scores of trees for named states, errors of names and states, optimal trees. The .. -/
import Derived.Test.YteegefnjnikngaaGreatQ1
import Derived.Test.YteegefnjnikngaaGreatQ37
import Derived.Test.YteegefnjnikngaaGreatQ12
import Derived.Test.YteegefnjnikngaaGreatQ24
import Derived.Test.YteegefnjnikngaaGreatQ36
import Derived.Test.YteegefnjnikngaaGreatQ22
import Derived.Test.YteegefnjnikngaaGreatQ7
import Derived.Test.YteegefnjnikngaaGreatQ6
import Derived.Laws.CopyOwn
import Derived.Deep.RegionLaw
import Derived.RegionTactic
set_option maxRecDepth 100000
namespace Go.Proofs.YteegefnjnikngaaGreat
section
def bh (states : List (List Int)) (p : Nat) : List Int := states.map fun r => gi r p
def iH (t : av) (names : List ByteArray) (states : List (List Int)) (p : Nat) : List Int := lQ t names (bh states p) (aC t.ns).length
def dY (t : av) (names : List ByteArray) (states : List (List Int)) : Int := bw (fun p => cw t (iH t names states p) (bM 16)) (gl states 0).length
def cN (names : List ByteArray) (i : Nat) : Int := if aP (gs names i).data.toList then (if cE names i then 7 else 0) else 14
def bD (names : List ByteArray) : Int := if names.length < 2 ∨ 7 < names.length then 4 else firstNZ (cN names) names.length
def fJ (names : List ByteArray) (states : List (List Int)) : Int := if bD names ≠ 0 then bD names else if bU states ≠ 0 then 1 else if states.length ≠ names.length then 9 else 0
def nB (t : av) (names : List ByteArray) : Bool := decide ((aC t.ns).length = names.length) && !zY t names
def mnK (f : Nat → Int) : Nat → Int
 | 0 => -1
 | k + 1 => if mnK f k < 0 ∨ f k < mnK f k then f k else mnK f k
def gt (l : List av) (k : Nat) : av := l.getD k ⟨[], []⟩
def iQ (names : List ByteArray) (states : List (List Int)) : Int := mnK (fun k => dY (gt (allT names) k) names states) (allT names).length
def s9 (names : List ByteArray) (states : List (List Int)) : List av := (allT names).filter fun t => decide (dY t names states = iQ names states)
theorem Oo (f : Nat → Int) (k : Nat) : mnK f (k + 1) = if mnK f k < 0 ∨ f k < mnK f k then f k else mnK f k := rfl
theorem mD {names : List ByteArray} (h5 : names.length ≤ 5) : bD names = 0 ↔ fQ names := by
 unfold bD
 constructor
 ·intro h
  split at h
  ·cases h
  ·rename_i h1
   have h2 := iU h
   have hn : ∀ i, i < names.length → aP (gs names i).data.toList = true ∧ cE names i = false := fun i hi => by
    have := h2 i hi
    unfold cN at this
    cases e1 : aP (gs names i).data.toList <;> rw [e1] at this
    ·cases this
    ·cases e2 : cE names i <;> rw [e2] at this
     ·exact ⟨rfl, rfl⟩
     ·cases this
   refine ⟨by omega, h5, fun x hx => ?_, ?_⟩
   ·obtain ⟨i, hi, rfl⟩ := List.getElem_of_mem hx
    have := (hn i hi).1
    simpa [gs, hi] using this
   ·refine List.pairwise_iff_getElem.2 fun i j hi hj hij e => ?_
    have := (hn j hj).2
    unfold cE at this
    have := any_false this hij
    rw [decide_eq_false_iff_not] at this
    exact this (by simp [gs, hi, hj, e])
 ·intro h
  rw [if_neg (by have := h.lo; omega)]
  refine di fun i hi => ?_
  unfold cN
  have h1 : gs names i = names[i] := by simp [gs, hi]
  rw [h1, h.nm _ (List.getElem_mem hi), if_pos rfl, if_neg]
  rw [Bool.not_eq_true]
  refine any_none fun j hj => ?_
  rw [decide_eq_false_iff_not, h1]
  intro e
  have h2 := List.pairwise_iff_getElem.1 h.nd j i (by omega) hi hj
  exact h2 (by simpa [gs, show j < names.length by omega] using e)
theorem Rj {ns : List ByteArray} {n j : Nat} (hn : ns.length = n) (hj : j < n) (h0 : (gs ns j).size ≠ 0) : (fq ns j).toNat < (aC ns).length ∧ gi (aC ns) (fq ns j).toNat = j := tY (FV (by omega) h0)
theorem fQ.Vr {names : List ByteArray} (h : fQ names) : ∀ j k, j < k → k < names.length → gs names k ≠ gs names j := fun j k hjk hk e => by
 have h2 := List.pairwise_iff_getElem.1 h.nd j k (by omega) hk hjk
 exact h2 (by simpa [gs, hk, show j < names.length by omega] using e.symm)
theorem EP {t : av} {names : List ByteArray} (h : fQ names) (ht : aB t = 0) : nB t names = true ↔ EC t names := by
 obtain ⟨_, _, hnl, _, _⟩ := aI ht
 unfold nB
 rw [Bool.and_eq_true, decide_eq_true_iff, Bool.not_eq_true']
 constructor
 ·rintro ⟨h1, h2⟩
  refine ⟨ht, by have := h.hi; omega, h.Vr, h1, fun j hj hj0 => ?_⟩
  obtain ⟨p1, p2⟩ := Rj hnl hj hj0
  have := any_false h2 p1
  rw [p2, decide_eq_false_iff_not] at this
  exact Ct.1 (by rw [Int.toNat_natCast] at this; omega)
 ·intro ho
  refine ⟨ho.len, any_none fun j hj => ?_⟩
  rw [decide_eq_false_iff_not]
  obtain ⟨v, hv, wE, hv0⟩ := r9 hj
  rw [hv, Int.toNat_natCast]
  have := Ct.2 (ho.has v (by omega) hv0)
  omega
theorem Cu {states : List (List Int)} (h : bU states = 0) : 0 < states.length ∧ (∀ k, k < states.length → (gl states k).length = (gl states 0).length ∧ ∀ p, p < (gl states 0).length → -1 ≤ gi (gl states k) p ∧ gi (gl states k) p < 16) := by
 unfold bU at h
 split at h
 ·cases h
 ·rename_i h0
  split at h
  ·cases h
  ·refine ⟨by omega, fun k hk => ?_⟩
   have := iU h k hk
   unfold gL at this
   split at this
   ·cases this
   ·rename_i h1
    split at this
    ·cases this
    ·rename_i h2
     have h1 : (gl states k).length = (gl states 0).length := by omega
     refine ⟨h1, fun p hp => XA (by simpa using h2) (by omega)⟩
structure xT (names : List ByteArray) (states : List (List Int)) : Prop where
 nm : fQ names
 ag : bU states = 0
 len : states.length = names.length
theorem Oq {names : List ByteArray} {states : List (List Int)} (h5 : names.length ≤ 5) : fJ names states = 0 ↔ xT names states := by
 unfold fJ
 constructor
 ·intro h
  split at h
  ·rename_i h1; exact absurd h h1
  ·rename_i h1
   split at h
   ·cases h
   ·rename_i h2
    split at h
    ·cases h
    ·rename_i h3
     exact ⟨(mD h5).1 (by omega), by omega, by omega⟩
 ·intro h
  rw [if_neg (by rw [(mD h5).2 h.nm]; simp), if_neg (by rw [h.ag]; simp), if_neg (by rw [h.len]; simp)]
theorem zg (states : List (List Int)) (p : Nat) {k : Nat} (hk : k < states.length) : gi (bh states p) k = gi (gl states k) p := by simp [gi, bh, gl, hk]
section
variable {t u : av} {names : List ByteArray} {states : List (List Int)}
theorem vh (hc : xT names states) (h : EC t names) {p : Nat} (hp : p < (gl states 0).length) : Valid t (iH t names states p) (bM 16) := by
 refine ⟨h.te, Vh, pM _ _ _ _, ?_⟩
 unfold fR iH
 rw [pM]
 refine any_none fun j hj => ?_
 obtain ⟨v, hv, wE, hv0⟩ := r9 hj
 obtain ⟨_, _, hnl, _, _⟩ := aI h.te
 obtain ⟨b, hb, _, e⟩ := LI h (show v < t.ps.length by omega) hv0
 rw [Rh hj, hv, Int.toNat_natCast, e, Int.toNat_natCast, zg _ _ (by rw [hc.len]; exact hb)]
 have := ((Cu hc.ag).2 b (by rw [hc.len]; exact hb)).2 p hp
 rw [kQ, Bool.or_eq_false_iff, decide_eq_false_iff_not, decide_eq_false_iff_not]
 omega
theorem of_flat (hn : fQ names) {q : RT} (ht : aB (flat q) = 0) (hq : (ey q).Perm names) : EC (flat q) names := by
 have h1 : (mA (flat q).ns).Perm names := by
  have := IY ht
  rw [sw] at this
  exact this.symm.trans hq
 refine ⟨ht, by have := hn.hi; omega, hn.Vr, by rw [La, h1.length_eq], fun j hj hj0 => ?_⟩
 obtain ⟨_, _, hnl, _, _⟩ := aI ht
 have hm : gs (flat q).ns j ∈ names := h1.mem_iff.1 (Ra.2 ⟨j, by omega, rfl, hj0⟩)
 obtain ⟨b, hb, e⟩ := List.getElem_of_mem hm
 exact ⟨b, hb, by simp [gs, hb] at e ⊢; exact e⟩
theorem Aa (hn : fQ names) (ht : t ∈ allT names) : EC t names ∧ ∃ q ∈ aW names, t = flat q := by
 obtain ⟨q, hq, rfl⟩ := List.mem_map.1 ht
 obtain ⟨_, h2, _, _, h5, _⟩ := eC hn hq
 exact ⟨of_flat hn h5 h2, q, hq, rfl⟩
theorem zh {l : List av} {k : Nat} (h : k < l.length) : gt l k ∈ l := by simp [gt, h]
end
end
section
open Go.RowKit Go.Deep
def iI (s : ByteArray) : av := ⟨[-1], [s]⟩
theorem Vs (w : World) (s : ByteArray) : ay Any ((w.alloc (.cells #[.int .i64 (-1)] 3)).alloc (.cells #[.string s] 9)) (.agg #[.slice (some ⟨w.heap.size, 0, none⟩) 1 1, .slice (some ⟨w.heap.size + 1, 0, none⟩) 1 1]) (iI s) := by
 refine ⟨_, _, rfl, ⟨_, 1, rfl, Nat.le_refl _, .inr ⟨_, 0, rfl, trivial, fun k hk => ?_⟩⟩, ⟨_, 1, rfl, Nat.le_refl _, .inr ⟨_, 0, rfl, trivial, fun k hk => ?_⟩⟩⟩
 ·obtain rfl : k = 0 := by have : (iI s).ps.length = 1 := rfl; omega
  refine (Up.alloc (w.alloc (.cells #[.int .i64 (-1)] 3)) _).cell ?_
  have h := World.alloc_heap_new w (Obj.cells #[.int .i64 (-1)] 3)
  simp only [World.cell?, h]; rfl
 ·obtain rfl : k = 0 := by have : (iI s).ns.length = 1 := rfl; omega
  have h := World.alloc_heap_new (w.alloc (.cells #[.int .i64 (-1)] 3)) (Obj.cells #[.string s] 9)
  rw [World.size_alloc] at h
  simp only [World.cell?, h]; rfl
theorem Rk (s : ByteArray) : (aB (iI s) == 0) = aP s.data.toList := by
 have h1 : isIn (iI s).ps 0 = false := by
  unfold isIn Al iI; simp
 have h2 : cE (iI s).ns 0 = false := by unfold cE; simp
 have h3 : gN (iI s).ps = true := by unfold gN iI; simp [ig, gi]
 have h4 : gs (iI s).ns 0 = s := rfl
 unfold aB
 rw [if_neg (by simp [iI]), if_neg (by simp [iI]), if_neg (by simp [iI]), if_pos h3]
 show (firstNZ (gq (iI s).ps (iI s).ns) 1 == 0) = _
 simp only [firstNZ, if_true]
 unfold gq
 rw [h1, h2, h4]
 cases aP s.data.toList <;> simp
end
section
open Go.RowKit Go.Deep
theorem Ot (names : List ByteArray) (k : Nat) : ((List.range k).any fun j => decide (gs names k = gs names j)) = cE names k := by
 unfold cE
 congr 1; funext j
 by_cases e : gs names j = gs names k
 ·rw [decide_eq_true e, decide_eq_true e.symm]
 ·rw [decide_eq_false e, decide_eq_false fun q => e q.symm]
end
section
open Go.RowKit Go.Deep
end
section
open Go.RowKit Go.Deep
theorem mul_one (N : Nat) (hN : N ≤ 1000) (w : World) : Calls Tryz.prog 283 #[.int .u64 1, .int .u64 N] w fun e w' => e = .returned (.tuple #[.int .u64 0, .int .u64 N]) ∧ w = w' := by
 have h := Tryz.bits_Mul 1 N (by decide) (by omega) w
 rw [Nat.one_mul, Nat.div_eq_of_lt (by omega), Nat.mod_eq_of_lt (by omega)] at h
 exact h.mono fun _ _ ⟨a, b⟩ => ⟨a, b.symm⟩
def Jh (n i : Nat) : Value := if i < n then .int .i64 1 else .int .i64 0
def dy (N n : Nat) : List Value := (List.range N).map (Jh n)
theorem mY (N n : Nat) : (dy N n).length = N := by simp [dy]
theorem qz {N n i : Nat} (h : i < N) : (dy N n)[i]? = some (if i < n then .int .i64 1 else .int .i64 0) := by simp [dy, h, Jh]
theorem Ou {N n m : Nat} (h : n + m ≤ N) : ((dy N n).toArray.toList.take n ++ List.replicate m (.int .i64 1) ++ (dy N n).toArray.toList.drop (n + (List.replicate m (Value.int .i64 1)).length)) = dy N (n + m) := by
 apply List.ext_getElem?
 intro i
 by_cases hi : i < N
 ·rw [qz hi, List.append_assoc, List.getElem?_append]
  simp only [List.length_take, mY, List.length_replicate]
  by_cases h1 : i < n
  ·rw [if_pos (by omega), List.getElem?_take, if_pos h1, qz hi, if_pos h1, if_pos (by omega)]
  ·rw [if_neg (by omega), List.getElem?_append]
   by_cases h2 : i < n + m
   ·rw [if_pos (by rw [List.length_replicate]; omega), if_pos h2, List.getElem?_replicate, if_pos (by omega)]
   ·rw [if_neg (by rw [List.length_replicate]; omega), if_neg h2, List.getElem?_drop]
    simp only [List.length_replicate]
    have e : n + m + (i - min n N - m) = i := by omega
    rw [e, qz hi, if_neg (by omega)]
 ·rw [List.getElem?_eq_none (by simp [mY]; omega), List.getElem?_eq_none (by simp [mY]; omega)]
theorem BV (W : World) (g N n m dCap : Nat) (ad : Addr) (sLen sCap dLen : Nat) (hg : W.heap[g]? = some (.cells (dy N n).toArray 3 (0, 0))) (hm : m = Nat.min sLen dLen) (J6 : n + m ≤ N)
  (hs : ∀ j, j < m → W.cell? (ad.add j) = some (.int .i64 1)) :
  Sem.run Tryz.prog (Builtin.copy_ #[26, 26] 3 #[.slice (some ⟨g, n, none⟩) dLen dCap, .slice (some ad) sLen sCap]) W = .ok (.int .i64 m) (W.setRow g (dy N (n + m)).toArray) := by
 have h := run_copy_row (P := Tryz.prog) W 26 26 3 3 g n dLen dCap ad sLen sCap (dy N n).toArray 3 (List.replicate m (.int .i64 1)) Tryz.underlying26 (by kernel_rfl) hg (by simpa using hm)
  (fun j v hj => by
   rw [List.getElem?_replicate] at hj
   split at hj
   ·injection hj with hj; subst hj; exact hs j (by assumption)
   ·cases hj) (by simpa [mY] using J6) (fun v hv => by rw [List.eq_of_mem_replicate hv]; rfl)
 rw [Ou J6, List.length_replicate] at h
 exact h
theorem LK (N : Nat) : madeCells #[.int .i64 0] N = (dy N 0).toArray := by
 apply Array.ext
 ·simp [mY, madeCells]
 ·intro i h1 h2
  simp [madeCells, dy, Nat.mod_one, Jh]
theorem qA {W : World} {g N k : Nat} {T : TypeId} (h : W.heap[g]? = some (.cells (dy N k).toArray T (0, 0))) {j : Nat} (hj : j < N) : W.cell? ⟨g, j, none⟩ = some (if j < k then .int .i64 1 else .int .i64 0) := by
 have h2 := qz (n := k) hj
 rw [← h2]
 simp [World.cell?, h]
def Vt (w : World) (N : Nat) (e : Ending) (w' : World) : Prop := ∃ g, e = .returned (.slice (some ⟨g, 0, none⟩) N N) ∧ w.heap.size ≤ g ∧ Up w w' ∧ w'.heap[g]? = some (.cells (dy N N).toArray 3 (0, 0))
set_option maxHeartbeats 1000000 in
theorem ER (w : World) (b off : Nat) (N : Nat) (Gf : 1 ≤ N) (hN : N ≤ 1000) (hc : w.cell? ⟨b, off, none⟩ = some (.int .i64 1)) :
  Calls Tryz.prog 248 #[.slice (some ⟨b, off, none⟩) 1 1, .int .i64 N] w (Vt w N) := by
 have hmk := fun W => run_make_row' (P := Tryz.prog) 26 3 (.int .i64 0) 8 Tryz.underlying26 Tryz.jx rfl .i64 .i64 N (by omega) (by omega) W
 have d1 : decide ((N : Int) < 0) = false := by simp
 have d2 : decide ((9223372036854775807 : Int) < (N : Int)) = false := by simp; omega
 have iX : (w.alloc (.cells (madeCells #[.int .i64 0] N) 3)).heap[w.heap.size]? = some (.cells (dy N 0).toArray 3 (0, 0)) := by
  rw [blk_alloc_new, LK]
 have BW := Up.alloc w (.cells (madeCells #[.int .i64 0] N) 3)
 have hc0 := BW.cell hc
 have ze := aa iX
 have Qe := aa BW
 clear iX BW
 have kF := BV (w.alloc (.cells (madeCells #[.int .i64 0] N) 3)) w.heap.size N 0 1 N ⟨b, off, none⟩ 1 1 N ze.out (by show 1 = min 1 N; omega) (by omega) (fun j hj => by
  obtain rfl : j = 0 := by omega
  exact hc0)
 have yl : Hid (((w.alloc (.cells (madeCells #[.int .i64 0] N) 3)).setRow w.heap.size (dy N (0 + 1)).toArray).heap[w.heap.size]? = some (.cells (dy N (0 + 1)).toArray 3 (0, 0))) := setRow_heap _ _ _ _ _ _ ze.out
 have bF : Hid (Up w ((w.alloc (.cells (madeCells #[.int .i64 0] N) 3)).setRow w.heap.size (dy N (0 + 1)).toArray)) := below_setRow Qe.out (Nat.le_refl _) _
 clear ze Qe
 go_enter Tryz.func248, Tryz.ntmps248
 go_wp2_with (go_at_call 283; refine (mul_one N hN _).mono ?_; rintro e w' ⟨rfl, rfl⟩)
 generalize (w.alloc (.cells (madeCells #[.int .i64 0] N) 3)).setRow w.heap.size (dy N (0 + 1)).toArray = w1 at *
 go_loopw [8] (fun n wr => ∃ k : Nat, 1 ≤ k ∧ k ≤ N ∧ n = .int .i64 k ∧ Hid (wr.heap[w.heap.size]? = some (.cells (dy N k).toArray 3 (0, 0))) ∧ Hid (Up w wr)) (fun n _ => N - (intOf n).toNat)
 case atStart => exact ⟨1, Nat.le_refl _, Gf, rfl, yl, bF⟩
 case round =>
  obtain ⟨k, hk1, hk2, rfl, HR, HU⟩ := hrel
  obtain ⟨wo, rfl⟩ : ∃ wo : World, wo = wr := ⟨_, rfl⟩
  by_cases hlt : k < N
  ·obtain ⟨m, hm⟩ : ∃ m : Nat, m = Nat.min k (N - k) := ⟨_, rfl⟩
   have hm2 : m = min k (N - k) := hm
   have Uk : Sem.run Tryz.prog (Builtin.copy_ #[26, 26] 3 #[.slice (some ⟨w.heap.size, k, none⟩) (N - k) (N - k), .slice (some ⟨w.heap.size, 0, none⟩) k N]) wo.drew = .ok (.int .i64 m) (wo.drew.setRow w.heap.size (dy N (k + m)).toArray) :=
    BV wo.drew w.heap.size N k m (N - k) ⟨w.heap.size, 0, none⟩ k N (N - k) HR.out hm (by omega) (fun j hj => by
     have h := qA HR.out (j := j) (by omega)
     rw [if_pos (by omega)] at h
     have e : (⟨w.heap.size, 0, none⟩ : Addr).add j = ⟨w.heap.size, j, none⟩ := by simp [Addr.add]; omega
     rw [e]; exact h)
   have hmk : 1 ≤ m := by omega
   have hmN : k + m ≤ N := by omega
   have BS : Hid ((wo.drew.setRow w.heap.size (dy N (k + m)).toArray).heap[w.heap.size]? = some (.cells (dy N (k + m)).toArray 3 (0, 0))) := setRow_heap _ _ _ _ _ _ (show wo.drew.heap[w.heap.size]? = _ from HR.out)
   have bE : Hid (Up w (wo.drew.setRow w.heap.size (dy N (k + m)).toArray)) := below_setRow (show Up w wo.drew from below_drewN HU.out 1) (Nat.le_refl _) _
   clear hm hm2 HR HU
   go_wp2_with fail
   go_region
   all_goals
    go_wp2_with fail
    go_roundw
    case rel => exact ⟨k + m, by omega, by omega, by go_num, BS, bE⟩
    case measure => simp [intOf]; omega
  ·obtain rfl : k = N := by omega
   go_wp2_with fail
   go_ret
   exact ⟨_, rfl, Nat.le_refl _, HU.out, HR.out⟩
end
end Go.Proofs.YteegefnjnikngaaGreat
