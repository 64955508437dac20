/- Package intset: the iterator members; slices.AppendSeq and Collect over any iterator of .. -/
import Derived.Test.YtpnmblnahjjmhaaGreatQ1
import Derived.RangeFuncWrites
import Derived.Laws.EntriesVeiled
import Derived.Test.YtpnmblnahjjmhaaGreatQ29
import Derived.Test.YtpnmblnahjjmhaaGreatQ3
set_option maxRecDepth 100000
namespace Go.Proofs.YtpnmblnahjjmhaaGreat
section
open Go.RowKit Go.Shelf Go.Deep
attribute [local go_sem] Oper.semAt_some
theorem Am (p : Int → Bool) (k : Nat) : ∀ {N : Nat}, k ≤ N → ey p k <+: ey p N
 | 0, h => by rw [show k = 0 by omega]; exact List.prefix_refl _
 | N + 1, h => by
  by_cases e : k = N + 1
  ·rw [e]; exact List.prefix_refl _
  ·refine (Am p k (N := N) (by omega)).trans ?_
   rw [pS]; exact List.prefix_append _ _
set_option maxHeartbeats 1000000 in
theorem JL (n l B1 B2 : Nat) (T : Nat → Prop) (N : Nat) (hN : N ≤ 64) (p : Int → Bool) (gf : Nat) (KJ : Array Value) (eg : ∀ args w, (callFunc gf args).run Tryz.prog w = .ok (.enter gf args) w) (J Jx : List Int → World → Prop)
  (hY : ∀ pre x W, J pre W → pre.length < (ey p N).length → YieldAt Fence.wide (n - 1) Tryz.prog l #[.int .i64 x] W fun e W' =>
   (e = .returned (.bool true) ∧ J (pre ++ [x]) W' ∧ KS T W W') ∨ (e = .returned (.bool false) ∧ Jx (pre ++ [x]) W'))
  (W : World) (Oc : AbidesFrom W.heap.size J) (hc1 : W.cell? ⟨B1, 0, none⟩ = some (.int .i64 (N : Int))) (hc2 : W.cell? ⟨B2, 0, none⟩ = some (.func (.func gf) #[] KJ)) (_ : T B1) (YH : T B2)
  (UI : ∀ k : Nat, k < N → ∀ W', KS T W W' → CallsIn Fence.wide (n - 1) Tryz.prog gf (#[.int .i64 k] ++ KJ) W' fun e w' => e = .returned (.bool (p k)) ∧ ∃ q, w' = W'.drewN q) (h0 : J [] W) :
  CallsIn Fence.wide n Tryz.prog 229 #[.func (.yield l) #[] #[], .pointer (some ⟨B1, 0, none⟩), .pointer (some ⟨B2, 0, none⟩)] W fun e W' => (∃ v, e = .returned v) ∧ (J (ey p N) W' ∨ ∃ pre, pre <+: ey p N ∧ Jx pre W') := by
 have HJA := aa Oc
 have HY := aa hY
 have HIS := aa UI
 have lC := aa hc2
 clear Oc hY UI
 refine callsIn_of_wp Tryz.func229 rfl trivial ?_ rfl
 simp only [Tryz.ntmps229, List.size_toArray, List.length_cons, List.length_nil, Nat.reduceAdd, Nat.reduceSub, Array.replicate_succ, Array.replicate_zero, List.push_toArray, List.append_toArray, List.nil_append, List.cons_append]
 gi_wp2
 clear hc1 hc2
 gi_loopw [4, 6] (fun _ i wr => ∃ (k : Nat), k ≤ N ∧ i = .int .i64 k ∧ Hid (J (ey p k) wr) ∧ Hid (KS T W wr)) (fun _ i _ => N - (intOf i).toNat)
 case atStart => exact ⟨0, Nat.zero_le _, rfl, h0, KS.refl _ _⟩
 case round =>
  obtain ⟨k, hk, rfl, hJ, hbr⟩ := hrel
  by_cases hlt : k < N
  ·have hc2 := (hbr.out.cell (p := ⟨B2, 0, none⟩) YH).trans lC.out
   have dO := aa (HIS.out k hlt wr hbr.out)
   have HS := aa (pS p k)
   have dD : Hid (p k = true → (ey p k).length < (ey p N).length) := fun e => by
    have h1 := (Am p (k + 1) (N := N) (by omega)).length_le
    rw [pS, if_pos e, List.length_append] at h1
    simp at h1; omega
   have hfn : Fence.wide.fn gf := trivial
   have k1 : (k : Int) < 64 := by omega
   gi_wp2
   refine ⟨fun h => (by cases h), ?_⟩
   refine dO.out.mono ?_
   rintro e W2 ⟨rfl, q, rfl⟩
   have hJ2 : Hid (J (ey p k) (wr.drewN q)) := HJA.out _ wr _ none hJ.out ⟨rfl, rfl, rfl, Nat.le_refl _, fun _ _ _ => rfl⟩ (fun r e => by cases e)
   have hb2 : Hid (KS T W (wr.drewN q)) := hbr.out.drewN q
   clear hc2 dO
   cases hp : p k
   ·have xC : Hid (ey p (k + 1) = ey p k) := by unfold Hid; rw [HS.out, hp]; simp
    clear hp
    gi_wp2
    rename_i hkk _ _ _ _
    refine ⟨fun f h => (by cases h), hkk _ _ ?_⟩
    gi_wp2
    go_roundw
    case rel => exact ⟨k + 1, hlt, by go_num, by rw [xC.out]; exact hJ2, hb2⟩
    case measure => simp [intOf]; omega
   ·have xC : Hid (ey p (k + 1) = ey p k ++ [(k : Int)]) := by unfold Hid; rw [HS.out, hp]; simp
    obtain ⟨fn, tmps, assign, body, hy, hR⟩ := HY.out (ey p k) k (wr.drewN q) hJ2.out (dD.out hp)
    clear hp
    gi_wp2
    refine ⟨fun h => (by cases h), ?_⟩
    refine hR.mono ?_
    rintro e W3 eL
    obtain ⟨bb, rfl, hq⟩ := Q6 eL
    cases bb
    ·have ir : Jx (ey p k ++ [(k : Int)]) W3 := by
      rcases hq.out with ⟨h1, _⟩ | h2
      ·cases h1
      ·exact h2.2
     gi_wp2
     refine bodyPost_ret (results_none rfl _ _ _) rfl ?_
     exact ⟨⟨_, rfl⟩, .inr ⟨_, by rw [← xC.out]; exact Am p (k + 1) (by omega), ir⟩⟩
    ·have ir : J (ey p k ++ [(k : Int)]) W3 ∧ KS T (wr.drewN q) W3 := by
      rcases hq.out with h2 | ⟨h1, _⟩
      ·exact h2.2
      ·cases h1
     gi_wp2
     go_roundw
     case rel => exact ⟨k + 1, hlt, by go_num, by rw [xC.out]; exact ir.1, hb2.out.trans ir.2⟩
     case measure => simp [intOf]; omega
  ·gi_wp2
   go_end0
   obtain rfl : k = N := by omega
   exact ⟨⟨_, rfl⟩, .inl hJ.out⟩
end
section
open Go.RowKit Go.Shelf Go.Deep
set_option maxHeartbeats 2000000 in
theorem Hl (w : World) (g : Nat) (lb : Array Value) (eg : ∀ args w, (callFunc g args).run Tryz.prog w = .ok (.enter g args) w) (xs : List Int)
    (hseq : ∀ w6, Up w w6 → SeqStopsK Fence.wide 8 Tryz.prog g lb (fun x : Int => #[Value.int .i64 x]) (KS (· < w.heap.size)) (fun l => l = xs) (fun pre => pre <+: xs) xs.length w6) (hlen : xs.length ≤ 1000000) :
    Calls Tryz.prog 228 #[.slice none 0 0, .func (.func g) #[] lb] w (uI w xs) := by
  refine (callsIn_wide (n := 9)).1 ?_
  refine callsIn_of_wp_marks Tryz.func228 rfl trivial ?_
  simp only [Tryz.ntmps228, List.size_toArray, List.length_cons, List.length_nil, Nat.reduceAdd, Nat.reduceSub, Array.replicate_succ, Array.replicate_zero, List.push_toArray, List.append_toArray, List.nil_append, List.cons_append]
  gi_wp2_with fail
  have gp : Up w (w.alloc (.cells #[.slice none 0 0] 26)) := Up.alloc _ _
  have Oo : (w.alloc (.cells #[.slice none 0 0] 26)).heap.size = w.heap.size + 1 := by simp
  have Ue := World.alloc_heap_new w (.cells #[.slice none 0 0] 26)
  generalize w.alloc (.cells #[.slice none 0 0] 26) = w6 at *
  apply wpIn_rangeFunc_ownG (F := Fence.wide) (n := 9) (P := Tryz.prog) (ps := #[7]) (w := w6) rfl (by omega) (gf := g) (lb := lb) rfl trivial eg
    (hseq w6 gp)
    (fun h k => KS.trans h k) (fun W l o o' hl ho hc _ => fun b (hb : b < w.heap.size) => World.putObj_heap_other (by omega)) (Below.refl _ _) (fun _ => (rfl : (1 : Nat) = 1))
    (Eo w) (fun _ _ _ => False)
  · exact Eo.own w (by omega)
  · exact fun _ _ _ _ _ h _ _ => h
  · exact ⟨gp, by omega, _, Ue, ah.nil _ _ _⟩
  · intro l x W K hK
    gi_wp2_with (rw [Oper.semAt_eq _ _ _ (fun c h => by cases h)]; go_simp; try go_bits)
    exact hK
  · rintro l pre x W ⟨fu, hsz, v, fc, hown⟩ hpl
    have hb0 : W.cell? ⟨w.heap.size, 0, none⟩ = some v := by simp [World.cell?, fc]
    have uv : ∀ w', KS (· < w.heap.size + 1) W w' → w'.cell? ⟨w.heap.size, 0, none⟩ = some v ∧ ∀ o, w'.frozen? ⟨w.heap.size, o, none⟩ = false := fun w' hS => by
      have h1 := (hS w.heap.size (Nat.lt_succ_self _)).trans fc
      exact ⟨by simp [World.cell?, h1], fun o => by simp [World.frozen?, h1]⟩
    have LU : pre.length ≤ 1000000 := by omega
    clear Ue
    have HF0 := aa uv
    have pQ : Hid (∀ We v', ah (w.heap.size + 1) 3 We v' (pre.map (Value.int .i64) ++ [.int .i64 x]) → (W.alloc (.cells #[.int .i64 x] 3)).grownBy We v.ownBlock → KeepsFrom (w.heap.size + 1) W (We.setCell ⟨w.heap.size, 0, none⟩ v') ∧ KS (· < w.heap.size) W (We.setCell ⟨w.heap.size, 0, none⟩ v') ∧ Eo w (pre ++ [x]) (We.setCell ⟨w.heap.size, 0, none⟩ v')) :=
      fun We v' => Eo.next fu hsz fc hown
    have Pt : Hid (∀ We, (W.alloc (.cells #[.int .i64 x] 3)).grownBy We v.ownBlock → KS (· < w.heap.size + 1) W We) := fun We hg b (hb : b < w.heap.size + 1) => (hg.block b (by rw [World.size_alloc]; show b < W.heap.size + 1; omega) (fun e => by have := (ax hown e.symm).1; omega)).trans (Below.heap_alloc W _ b (by show b < W.heap.size; omega))
    obtain ⟨i0, hi, hz0, hz1, hz2⟩ := info_parts Tryz.fU
    have rZ : W.ownsRow (w.heap.size + 1) 3 1 v pre.length (pre.map (Value.int .i64)) := by have h := hown; unfold ah at h; rwa [List.length_map] at h
    obtain ⟨q1, q2⟩ := uv W (KS.refl _ _)
    clear uv fu fc hown hb0
    gi_wp2_with (first
      | (gi_at_builtin; refine wpListIn_append_own _ rfl _ _ 26 rfl (w.heap.size + 1) 3 i0 (.int .i64 0) 1 8 Tryz.underlying26 hi hz0 hz1 hz2 rfl (by decide) _ _ _ rfl (rZ.alloc _) ⟨W.heap.size, 0, none⟩ 1 1 [.int .i64 x] rfl rfl (cell_one_new _ _ _) (by simp [Value.oneCell']) (by unfold maxLen; omega) (by omega) (by rw [World.size_alloc]; omega) ?_; intro v' w3 hown' hg3 hnil3
         have SE : ah (w.heap.size + 1) 3 w3 v' (pre.map (Value.int .i64) ++ [.int .i64 x]) := by unfold ah; rw [List.length_append, List.length_map]; exact hown'
         obtain ⟨vp, vc, rfl, _⟩ := SE.form (n := pre.length + 1) (by simp)
         have fe := aa (pQ.out w3 _ SE hg3)
         obtain ⟨q3, q4⟩ := HF0.out w3 (Pt.out w3 hg3)
         clear hown' hg3 hnil3 SE q1 q2 pQ Pt HF0 rZ)
      | (rw [Oper.semAt_eq _ _ _ (fun c h => by cases h)]; go_simp; try go_bits))
    have cH := fe.out
    rw [Oo]
    exact cH
  · rintro D ys W hD rfl ⟨fu, hsz, v, fc, hown⟩ hK
    have hb0 : W.cell? ⟨w.heap.size, 0, none⟩ = some v := by simp [World.cell?, fc]
    gi_wp2_with fail
    have hq : ∀ b, b ≠ D → (W.putObj D (.deferred none)).heap[b]? = W.heap[b]? := fun b hb => World.putObj_heap_other hb
    refine ⟨by simp, .inl ⟨_, _, rfl, run_takeDeferred hK, ?_⟩⟩
    refine ⟨v, by simp [results, Tryz.results228, go_sem], ⟨fu.os, fu.tape, fu.output, by have h := fu.size; simpa using h, fun b hb => (hq b (by omega)).trans (fu.block b hb)⟩, v, rfl, ?_⟩
    refine ah.MH (hown.vC fun b hb => hq b (fun e => ?_)) (Nat.le_succ _)
    obtain ⟨c, hc⟩ := hown.iP hb
    subst e; rw [hK] at hc; cases hc
  · rintro D c pre W _ _ h _
    exact h.elim
end
section
def dh (names : List ByteArray) (i : Nat) : Int := if bq (gs names i).data.toList then (if cZ names i then 7 else 0) else 14
def cS (names : List ByteArray) (l : List (List Int)) : Int :=
 if names.length = 0 then 5 else if 32 < names.length ∨ 64 < l.length then 4
 else if firstNZ (dh names) names.length ≠ 0 then firstNZ (dh names) names.length
 else if firstNZ (fun k => aF names.length (gl l k)) l.length ≠ 0 then firstNZ (fun k => aF names.length (gl l k)) l.length
 else if 0 ≤ eC l then 17 else 0
structure eD (names : List ByteArray) (l : List (List Int)) : Prop where
 pos : 0 < names.length
 le : names.length ≤ 32
 l64 : l.length ≤ 64
 nm : ∀ k, k < names.length → bq (gs names k).data.toList = true
 nd : ∀ j k, j < k → k < names.length → gs names k ≠ gs names j
 td : ∀ s ∈ l, vA names.length s
 cmp : ∀ i k, i < k → k < l.length → dU (gl l i) (gl l k) = true
theorem iC {l : List (List Int)} {k : Nat} (h : k < l.length) : gl l k ∈ l := by simp [gl, h]
theorem th {l : List (List Int)} {x : List Int} (h : x ∈ l) : ∃ k, k < l.length ∧ gl l k = x := by
 obtain ⟨k, hk, e⟩ := List.mem_iff_getElem.1 h
 exact ⟨k, hk, by simp [gl, hk, e]⟩
theorem Er {l : List (List Int)} : eC l < 0 ↔ ∀ i k, i < k → k < l.length → dU (gl l i) (gl l k) = true := by
 have h1 := fT (fun i => decide (0 ≤ dV l i)) l.length
 have h2 : ∀ i, decide (0 ≤ dV l i) = (List.range l.length).any fun k => decide (i < k) && !dU (gl l i) (gl l k) := fun i => fT _ _
 constructor
 ·intro h i k hik hk
  have h3 : (List.range l.length).any (fun i => decide (0 ≤ dV l i)) = false := by
   rw [← h1]; exact decide_eq_false (by unfold eC at h; omega)
  have h4 := any_false h3 (show i < l.length by omega)
  rw [h2] at h4
  have h5 := any_false h4 hk
  rw [decide_eq_true hik, Bool.true_and] at h5
  simpa using h5
 ·intro h
  have h3 : (List.range l.length).any (fun i => decide (0 ≤ dV l i)) = false := any_none fun i hi => by
   rw [h2]
   refine any_none fun k hk => ?_
   by_cases e : i < k
   ·rw [h i k e hk]; simp
   ·rw [decide_eq_false e]; rfl
  rw [← h1] at h3
  have := of_decide_eq_false h3
  unfold eC; omega
theorem xY {names : List ByteArray} {l : List (List Int)} : cS names l = 0 ↔ eD names l := by
 unfold cS
 constructor
 ·intro h
  split at h
  ·cases h
  ·split at h
   ·cases h
   ·split at h
    ·rename_i h3; exact absurd h h3
    ·rename_i h3
     have h3 := iH (Classical.not_not.1 h3)
     split at h
     ·rename_i h4; exact absurd h h4
     ·rename_i h4
      have h4 := iH (Classical.not_not.1 h4)
      split at h
      ·cases h
      ·rename_i h5
       refine ⟨by omega, by omega, by omega, fun k hk => ?_, fun j k hjk hk e => ?_, fun s hs => ?_, Er.1 (by omega)⟩
       ·have := h3 k hk
        unfold dh at this
        split at this
        ·assumption
        ·cases this
       ·have := h3 k hk
        unfold dh at this
        split at this
        ·rw [if_pos] at this
         ·cases this
         ·exact List.any_eq_true.2 ⟨j, List.mem_range.2 hjk, decide_eq_true e.symm⟩
        ·cases this
       ·obtain ⟨k, hk, rfl⟩ := th hs
        exact gU.1 (h4 k hk)
 ·intro h
  have h1 := h.pos
  have h2 := h.le
  have h3 := h.l64
  have h4 : firstNZ (dh names) names.length = 0 := cA fun k hk => by
   unfold dh
   rw [if_pos (h.nm k hk), if_neg]
   intro e
   obtain ⟨j, hj, e⟩ := List.any_eq_true.1 e
   exact h.nd j k (List.mem_range.1 hj) hk (of_decide_eq_true e).symm
  have h5 : firstNZ (fun k => aF names.length (gl l k)) l.length = 0 := cA fun k hk => gU.2 (h.td _ (iC hk))
  have h6 := Er.2 h.cmp
  rw [if_neg (by omega), if_neg (by omega), if_neg (fun e => e h4), if_neg (fun e => e h5), if_neg (by omega)]
def gw (a b : List Int) : Int := if b.length < a.length then -1 else if a.length < b.length then 1 else cmpL a b
theorem mX {a b : List Int} (h : gw a b = 0) : a = b := by
 unfold gw at h
 split at h
 ·omega
 ·split at h
  ·omega
  ·exact iO h
theorem Es (a : List Int) : gw a a = 0 := by unfold gw; rw [if_neg (by omega), if_neg (by omega)]; exact s7 a
theorem tj (a b : List Int) : gw b a = - gw a b := by
 unfold gw
 by_cases h1 : b.length < a.length
 ·simp only [if_pos h1, if_neg (show ¬ a.length < b.length by omega)]; rfl
 ·by_cases h2 : a.length < b.length
  ·simp only [if_pos h2, if_neg h1]
  ·simp only [if_neg h1, if_neg h2]; exact jB a b
theorem B7 {a b c : List Int} (h1 : gw a b < 0) (h2 : gw b c < 0) : gw a c < 0 := by
 unfold gw at *
 by_cases x1 : b.length < a.length
 ·by_cases y1 : c.length < b.length
  ·rw [if_pos (by omega)]; omega
  ·rw [if_neg y1] at h2
   by_cases y2 : b.length < c.length
   ·rw [if_pos y2] at h2; omega
   ·rw [if_pos (by omega)]; omega
 ·rw [if_neg x1] at h1
  by_cases x2 : a.length < b.length
  ·rw [if_pos x2] at h1; omega
  ·rw [if_neg x2] at h1
   by_cases y1 : c.length < b.length
   ·rw [if_pos (by omega)]; omega
   ·rw [if_neg y1] at h2
    by_cases y2 : b.length < c.length
    ·rw [if_pos y2] at h2; omega
    ·rw [if_neg y2] at h2
     rw [if_neg (by omega), if_neg (by omega)]
     exact nR h1 h2
def tq (a b : List Int) : Prop := gw a b ≤ 0
theorem Pu {a b c : List Int} (h1 : tq a b) (h2 : tq b c) : tq a c := by
 unfold tq at *
 by_cases e1 : gw a b = 0
 ·rw [mX e1]; exact h2
 ·by_cases e2 : gw b c = 0
  ·rw [← mX e2]; exact h1
  ·have h3 : gw a b < 0 := by omega
   have h4 : gw b c < 0 := by omega
   exact Int.le_of_lt (B7 h3 h4)
def insQ (a : List Int) : List (List Int) → List (List Int)
 | [] => [a]
 | b :: l => if gw a b ≤ 0 then a :: b :: l else b :: insQ a l
def vD : List (List Int) → List (List Int)
 | [] => []
 | a :: l => insQ a (vD l)
theorem xZ (a : List Int) : ∀ l : List (List Int), (insQ a l).Perm (a :: l)
 | [] => List.Perm.refl _
 | b :: l => by
  rw [insQ]
  split
  ·exact List.Perm.refl _
  ·exact (List.Perm.cons b (xZ a l)).trans (List.Perm.swap a b l)
theorem qJ : ∀ l : List (List Int), (vD l).Perm l
 | [] => List.Perm.refl _
 | a :: l => (xZ a _).trans (List.Perm.cons a (qJ l))
theorem zH (a : List Int) : ∀ {l : List (List Int)}, l.Pairwise tq → (insQ a l).Pairwise tq
 | [], _ => by simp [insQ]
 | b :: l, h => by
  rw [insQ]
  rw [List.pairwise_cons] at h
  split
  ·rename_i h1
   refine List.pairwise_cons.2 ⟨fun c hc => ?_, List.pairwise_cons.2 h⟩
   rcases List.mem_cons.1 hc with rfl | hc
   ·exact h1
   ·exact Pu h1 (h.1 c hc)
  ·rename_i h1
   refine List.pairwise_cons.2 ⟨fun c hc => ?_, zH a h.2⟩
   rcases List.mem_cons.1 ((xZ a l).mem_iff.1 hc) with rfl | hc
   ·unfold tq; have := tj c b; omega
   ·exact h.1 c hc
theorem r4 : ∀ l : List (List Int), (vD l).Pairwise tq
 | [] => List.Pairwise.nil
 | a :: l => zH a (r4 l)
theorem MJ {a b : List (List Int)} (hp : a.Perm b) (h : a.Pairwise tq) : a = vD b :=
 List.Perm.eq_of_pairwise (le := tq) (fun x y _ _ h1 h2 => mX (by unfold tq at h1 h2; have := tj x y; omega)) h (r4 b) (hp.trans (qJ b).symm)
def aD (l : List (List Int)) : List (List Int) := eF (vD l)
theorem kN {x : List Int} {l : List (List Int)} : x ∈ aD l ↔ x ∈ l := by unfold aD; rw [oJ]; exact (qJ l).mem_iff
theorem tP : ∀ {l : List (List Int)}, l.Pairwise tq → (eF l).Pairwise fun a b => gw a b < 0
 | [], _ => List.Pairwise.nil
 | a :: l, h => by
  rw [List.pairwise_cons] at h
  rw [eF]
  split
  ·exact tP h.2
  ·rename_i hne
   refine List.pairwise_cons.2 ⟨fun c hc => ?_, tP h.2⟩
   have hc := oJ.1 hc
   have h1 := h.1 c hc
   unfold tq at h1
   by_cases e : gw a c = 0
   ·exfalso
    have e := mX e
    subst e
    cases l with
    | nil => cases hc
    | cons b l =>
     rw [List.head?_cons] at hne
     have h2 := h.1 b (by simp)
     rcases List.mem_cons.1 hc with rfl | hc
     ·exact hne rfl
     ·have h3 := (List.pairwise_cons.1 h.2).1 _ hc
      unfold tq at h2 h3
      have := tj a b
      exact hne (by rw [mX (a := a) (b := b) (by omega)])
   ·omega
theorem JM (l : List (List Int)) : (aD l).Pairwise fun a b => gw a b < 0 := tP (r4 l)
theorem Ao : ∀ l : List (List Int), (eF l).length ≤ l.length
 | [] => Nat.le_refl _
 | a :: l => by
  rw [eF]
  have := Ao l
  split <;> simp <;> omega
theorem SF (l : List (List Int)) : (aD l).length ≤ l.length := by unfold aD; rw [← (qJ l).length_eq]; exact Ao _
def lastQ (own : List (List Int)) (x : Int) : Nat → Int
 | 0 => 2
 | k + 1 => if (gl own k).contains x then ((3 + k : Nat) : Int) else lastQ own x k
def bT (names : List ByteArray) (own : List (List Int)) : aA :=
  ⟨[-1, 0, 0] ++ ((List.range own.length).map (fun k => lastQ own (gi (gl own k) 0) k) ++ (List.range (names.length - 1)).map fun b => lastQ own ((b + 1 : Nat) : Int) own.length),
   [ByteArray.empty, gs names 0, ByteArray.empty] ++ (List.replicate own.length ByteArray.empty ++ (List.range (names.length - 1)).map fun b => gs names (b + 1))⟩
def qa (names : List ByteArray) (l : List (List Int)) : aA :=
 if names.length = 1 then ⟨[-1], [gs names 0]⟩ else if names.length = 2 then gM ⟨[-1, 0, 0], [ByteArray.empty, gs names 0, gs names 1]⟩ else gM (bT names (aD l))
def bF (names : List ByteArray) (l : List (List Int)) : aA := if cS names l = 0 then qa names l else ⟨[], []⟩
def bS (names : List ByteArray) (own : List (List Int)) (i : Nat) : List Int :=
 if i = 0 then allI names.length else if i = 1 then [0] else if i = 2 then aS names.length [0] else if i < 3 + own.length then gl own (i - 3) else [((i - 2 - own.length : Nat) : Int)]
theorem B8 (own : List (List Int)) (x : Int) : ∀ k, (lastQ own x k = 2 ∧ ∀ j, j < k → x ∉ gl own j) ∨ ∃ p, p < k ∧ lastQ own x k = ((3 + p : Nat) : Int) ∧ x ∈ gl own p ∧ ∀ j, p < j → j < k → x ∉ gl own j
 | 0 => .inl ⟨rfl, fun j hj => absurd hj (Nat.not_lt_zero _)⟩
 | k + 1 => by
  rw [lastQ]
  by_cases h : x ∈ gl own k
  ·rw [if_pos (List.contains_iff_mem.2 h)]
   exact .inr ⟨k, by omega, rfl, h, fun j h1 h2 => by omega⟩
  ·rw [if_neg (fun e => h (List.contains_iff_mem.1 e))]
   rcases B8 own x k with ⟨h1, h2⟩ | ⟨p, h1, h2, h3, h4⟩
   ·refine .inl ⟨h1, fun j hj => ?_⟩
    by_cases e : j = k
    ·subst e; exact h
    ·exact h2 j (by omega)
   ·refine .inr ⟨p, by omega, h2, h3, fun j hj1 hj2 => ?_⟩
    by_cases e : j = k
    ·subst e; exact h
    ·exact h4 j hj1 (by omega)
section
variable {names : List ByteArray} {l : List (List Int)}
theorem Ho : (bT names (aD l)).ps.length = 3 + (aD l).length + (names.length - 1) := by simp [bT]; omega
theorem VR : (bT names (aD l)).ns.length = 3 + (aD l).length + (names.length - 1) := by simp [bT]; omega
theorem UJ {own : List (List Int)} (i : Nat) : gi (bT names own).ps i = if i = 0 then -1 else if i < 3 then 0 else if i < 3 + own.length then lastQ own (gi (gl own (i - 3)) 0) (i - 3) else if i < 3 + own.length + (names.length - 1) then lastQ own ((i - 2 - own.length : Nat) : Int) own.length else 0 := by
 by_cases h0 : i = 0
 ·subst h0; rfl
 by_cases h1 : i = 1
 ·subst h1; rfl
 by_cases h2 : i = 2
 ·subst h2; rfl
 obtain ⟨j, rfl⟩ : ∃ j, i = 3 + j := ⟨i - 3, by omega⟩
 rw [if_neg h0, if_neg (by omega)]
 have e : gi (bT names own).ps (3 + j) = gi ((List.range own.length).map (fun k => lastQ own (gi (gl own k) 0) k) ++ (List.range (names.length - 1)).map fun b => lastQ own ((b + 1 : Nat) : Int) own.length) j := by
  have := rK [-1, 0, 0] ((List.range own.length).map (fun k => lastQ own (gi (gl own k) 0) k) ++ (List.range (names.length - 1)).map fun b => lastQ own ((b + 1 : Nat) : Int) own.length) j
  exact this
 rw [e]
 by_cases h3 : j < own.length
 ·rw [if_pos (by omega), uZ _ (by simpa using h3), show 3 + j - 3 = j by omega]
  simp [gi, h3]
 ·rw [if_neg (by omega)]
  obtain ⟨b, rfl⟩ : ∃ b, j = own.length + b := ⟨j - own.length, by omega⟩
  have e2 := rK ((List.range own.length).map (fun k => lastQ own (gi (gl own k) 0) k)) ((List.range (names.length - 1)).map fun b => lastQ own ((b + 1 : Nat) : Int) own.length) b
  rw [List.length_map, List.length_range] at e2
  rw [e2]
  by_cases h4 : b < names.length - 1
  ·rw [if_pos (by omega), show 3 + (own.length + b) - 2 - own.length = b + 1 by omega]
   simp [gi, h4]
  ·rw [if_neg (by omega)]
   simp [gi, h4]
end
end
section
open Go Go.RowKit Go.Deep
structure VS (L L' : Nat → Prop) (W W' : World) : Prop where
 os : W'.os = W.os
 tape : W'.tape = W.tape
 output : W'.output = W.output
 size : W.heap.size ≤ W'.heap.size
 block : ∀ b, b < W.heap.size → ¬ L b → W'.heap[b]? = W.heap[b]?
 more : ∀ b, L' b → (L b ∧ b < W.heap.size) ∨ (W.heap.size ≤ b ∧ b < W'.heap.size)
def KL {α : Type} (J : List α → (Nat → Prop) → World → Prop) : Prop := ∀ s L L' W W', J s L W → VS L L' W W' → J s L' W'
def YI {α : Type} (F : Fence) (n : Nat) (P : Program) (g : Nat) (lb : Array Value) (encs : α → Array Value) (Gv : α → (Nat → Prop) → World → Prop) (Gb : α → Nat → Prop) (S : List α → Prop) (N : Nat) (w w9 : World) (L0 : Nat → Prop) : Prop :=
 ∀ (l : Nat) (J : List α → (Nat → Prop) → World → Prop) (W : World), Below w.heap.size w W → (∀ b, L0 b → b < w9.heap.size ∧ W.heap[b]? = w9.heap[b]?) → w9.heap.size ≤ W.heap.size → KL J →
  (∀ pre x L W1, J pre L W1 → Gv x L W1 → Below w.heap.size w W1 → (∀ b, L b → w.heap.size ≤ b ∧ b < W1.heap.size) → pre.length < N → YieldAt F (n - 1) P l (encs x) W1 fun e W' =>
   e = .returned (.bool true) ∧ J (pre ++ [x]) L W' ∧ Below w.heap.size w W' ∧ W1.heap.size ≤ W'.heap.size ∧ ∀ b, (L b ∨ Gb x b) → W'.heap[b]? = W1.heap[b]?) →
  J [] L0 W →
  CallsIn F n P g (#[.func (.yield l) #[] #[]] ++ lb) W fun e W' => (∃ v, e = .returned v) ∧ ∃ xs L, S xs ∧ J xs L W'
def SG {α : Type} (B : Nat) (w0 : World) (I : List α → (Nat → Prop) → World → Prop) (xs : List α) (L Lk : Nat → Prop) (W : World) : Exit → Act → World → Prop
 | .normal, _, W' => KeepsFrom B W W' ∧ Below w0.heap.size w0 W' ∧ (∀ b, Lk b → W'.heap[b]? = W.heap[b]?) ∧ I xs L W'
 | _, _, _ => False
theorem JN {α : Type} {F : Fence} {n : Nat} {P : Program} {w : World} {g : Operand} {ps : Array Tmp} {assign body : Code} {Q : Exit → Act → World → Prop} {a : Act}
  (hro : F.round = none) (h1 : 1 ≤ n) {gf : Nat} {lb : Array Value} (hg : a.eval g = .func (.func gf) #[] lb) (hFg : F.fn gf) (eg : ∀ args w, (callFunc gf args).run P w = .ok (.enter gf args) w)
  {encs : α → Array Value} {Gv : α → (Nat → Prop) → World → Prop} {Gb : α → Nat → Prop} {S : List α → Prop} {N : Nat} {w0 : World} {L0 : Nat → Prop} (hseq : YI F (n - 1) P gf lb encs Gv Gb S N w0 w L0) (Dz : ∀ b, L0 b → b < w.heap.size) (hGb : ∀ x L W b, Gv x L W → Gb x b → ∃ o, W.heap[b]? = some o ∧ o.isCells = true) (hb0 : Below w0.heap.size w0 w) (hps : ∀ x, (encs x).size = ps.size)
  (hGv : ∀ x L, OwnFrom w.heap.size (fun (_ : Unit) W => Gv x L W))
  (I : List α → (Nat → Prop) → World → Prop) (hA : KL I) (hI : ∀ L, OwnFrom w.heap.size (fun s W => I s L W)) (h0 : I [] L0 w) (a₁ : α → Act)
  (hassign : ∀ (l : Nat) (x : α) (W : World) (K : Act → World → Prop), K (a₁ x) W →
   assign.wpIn (F.inRound l) (n - 1 - 1) P (Exit.then K (fun _ _ _ => False)) { tmps := (ps.zip (encs x)).foldl (fun t (p, v) => t.setIfInBounds p v) a.tmps, defers := [] } W)
  (hbody : ∀ (l : Nat) (pre : List α) (x : α) (L : Nat → Prop) (W : World), I pre L W → Gv x L W → Below w0.heap.size w0 W → (∀ b, L b → w0.heap.size ≤ b ∧ b < W.heap.size) → pre.length < N → body.wpIn (F.inRound l) (n - 1 - 1) P (SG w.heap.size w0 I (pre ++ [x]) L (fun b => L b ∨ Gb x b) W) (a₁ x) W)
  (hdone : ∀ (D : Nat) (xs : List α) (L : Nat → Prop) (W : World), w.heap.size ≤ D → S xs → I xs L W → W.heap[D]? = some (.deferred (some [])) → Q .normal { a with defers := { target := .collected D, args := #[] } :: a.defers } W) :
  (Code.rangeFunc g ps assign body).wpIn F n P Q a w := by
 refine wpIn_rangeFunc ?_
 intro fn hfn
 rw [hro]
 obtain ⟨rec, x4⟩ : ∃ rec : LoopState → Option Code → Loop, rec = fun st pe => { state := st, pending := pe, fn, tmps := a.tmps, params := ps, assign, body, defers := w.heap.size } := ⟨_, rfl⟩
 obtain ⟨D, hD⟩ : ∃ D, D = w.heap.size := ⟨_, rfl⟩
 obtain ⟨W1, hW1⟩ : ∃ W1, (w.alloc (.deferred (some []))).alloc (.loop (rec .ready none)) = W1 := ⟨_, rfl⟩
 have hsz : W1.heap.size = D + 2 := by rw [← hW1, hD]; simp
 have hL1 : W1.heap[D + 1]? = some (.loop (rec .ready none)) := by
  rw [← hW1, hD]; have := World.alloc_heap_new (w.alloc (.deferred (some []))) (.loop (rec .ready none)); rwa [World.size_alloc] at this
 have wm : W1.heap[D]? = some (.deferred (some [])) := by
  rw [← hW1, hD]; exact (Below.heap_alloc _ _ _ (by simp)).trans (World.alloc_heap_new w _)
 have hI1 : I [] L0 W1 := by rw [← hW1]; exact (hI _).alloc _ ((hI _).alloc _ h0)
 have hb1 : Below w0.heap.size w0 W1 := by
  rw [← hW1]; exact hb0.trans ((((Below.refl _ w).alloc (Nat.le_refl _) _).alloc (by simp) _).mono hb0.size)
 have hb0s := hb0.size
 have YJ : ∀ {W : World} (l : Nat) (o : Obj), D ≤ l → Below w0.heap.size w0 W → Below w0.heap.size w0 (W.putObj l o) := fun {W} l o hl hb =>
  ⟨hb.os, hb.tape, hb.output, by have := hb.size; simpa using this, fun b hbb => (World.putObj_heap_other (by omega)).trans (hb.block b hbb)⟩
 refine ⟨D + 1, [{ target := .collected D, args := #[] }], W1, { target := .fn (.func gf) lb, args := #[.func (.yield (D + 1)) #[] #[]] }, W1, gf,
  #[.func (.yield (D + 1)) #[] #[]] ++ lb, W1, ?_, ?_, ?_, ?_, fun _ => h1, ?_⟩
 ·rw [← hW1, x4, hD]; exact run_enterLoop_outer _ _ _ _ _
 ·simp only [resolve, hg]
  simp [go_sem]
 ·intro f' hf'; simp [Target.leads] at hf'; subst hf'; exact hFg
 ·simp [invoke, go_sem, eg]
 ·refine (hseq (D + 1) (fun pre L W => I pre L W ∧ W.heap[D + 1]? = some (.loop (rec .ready none)) ∧ W.heap[D]? = some (.deferred (some [])) ∧ ∀ b, L b → b ≠ D ∧ b ≠ D + 1) W1 hb1 (fun b hb => ⟨Dz b hb, by rw [← hW1]; exact (Below.heap_alloc _ _ _ (by have := Dz b hb; simp; omega)).trans (Below.heap_alloc _ _ _ (Dz b hb))⟩) (by rw [hsz, ← hD]; omega) ?_ ?_ ⟨hI1, hL1, wm, fun b h => by have := Dz b h; omega⟩).mono ?_
  ·rintro s L L' A B ⟨h1, h2, h3, h4⟩ hs
   have hlt := (Array.getElem?_eq_some_iff.1 h2).1
   refine ⟨hA s L L' A B h1 hs, (hs.block _ hlt fun e => ?_).trans h2, (hs.block _ (by omega) fun e => ?_).trans h3, fun b hb => ?_⟩
   ·have := h4 _ e; omega
   ·have := h4 _ e; omega
   ·rcases hs.more b hb with e | e
    ·exact h4 b e.1
    ·omega
  ·rintro pre x L W ⟨hi, hl, hk, KM⟩ Et fu hLw hlen
   have hlt : D + 1 < W.heap.size := (Array.getElem?_eq_some_iff.1 hl).1
   have hy := run_yield (P := P) (args := encs x) hl (by rw [x4]; exact hps x)
   rw [x4] at hy
   refine ⟨fn, _, assign, body, hy, roundIn_of_wpIn hfn (hassign _ x W _ ⟨_, run_beginRound hl (by rw [x4]), ?_⟩)⟩
   obtain ⟨W2, hW2⟩ : ∃ W2, W.putObj (D + 1) (.loop { rec .ready none with state := .busy }) = W2 := ⟨_, rfl⟩
   have hl2 : W2.heap[D + 1]? = some (.loop { rec .ready none with state := .busy }) := by rw [← hW2]; exact World.putObj_heap_same hlt
   have hk2 : W2.heap[D]? = some (.deferred (some [])) := by rw [← hW2]; exact (World.putObj_heap_other (by omega)).trans hk
   have hi2 : I pre L W2 := by rw [← hW2]; exact (hI L).putObj _ hi (by omega) hl rfl
   have hg2 : Gv x L W2 := by rw [← hW2]; exact (hGv x L).putObj (s := ()) _ Et (by omega) hl rfl
   have hs2 : W2.heap.size = W.heap.size := by rw [← hW2]; simp
   have zG : ∀ b, b ≠ D + 1 → W2.heap[b]? = W.heap[b]? := fun b hb => by rw [← hW2]; exact World.putObj_heap_other (by omega)
   have Gp : Below w0.heap.size w0 W2 := by rw [← hW2]; exact YJ _ _ (by omega) fu
   rw [hW2]
   refine wpIn_mono (hbody _ pre x L W2 hi2 hg2 Gp (fun b hb => by rw [hs2]; exact hLw b hb) hlen) ?_
   rintro e a3 W3 hp
   cases e with
   | normal =>
    obtain ⟨hk3, hb3, hL3, Gd⟩ := hp
    have Bo := hk3.same _ _ (by omega) hl2 rfl
    have hk4 := hk3.same _ _ (by omega) hk2 rfl
    have hend := run_endRound (P := P) none Bo
    rw [x4] at hend
    refine ⟨_, _, hend, rfl, ⟨?_, ?_, ?_, KM⟩, YJ _ _ (by omega) hb3, ?_, fun b hb => ?_⟩
    ·exact (hI L).putObj _ Gd (by omega) Bo rfl
    ·rw [x4]; exact World.putObj_heap_same (Array.getElem?_eq_some_iff.1 Bo).1
    ·exact (World.putObj_heap_other (by omega)).trans hk4
    ·have := hk3.size; simp; omega
    ·have hne : b ≠ D + 1 := by
      rcases hb with hb | hb
      ·have := KM b hb; omega
      ·rintro rfl
       obtain ⟨o, h1, h2⟩ := hGb _ _ _ _ Et hb
       rw [hl] at h1; injection h1 with h1; subst h1; cases h2
     exact (World.putObj_heap_other (by omega)).trans ((hL3 b hb).trans (zG b (by omega)))
   | ret => exact hp.elim
   | exit id => exact hp.elim
   | goto t => exact hp.elim
   | panic ch => exact hp.elim
   | outgrown => exact hp.elim
  ·rintro e W2 ⟨⟨v, rfl⟩, xs, L, hS, hi, hl, hk, KM⟩
   exact ⟨none, _, by have := run_endLoop (P := P) hl (by rw [x4]; simp); rw [x4] at this; exact this, hdone D xs L _ (by omega) hS ((hI L).putObj _ hi (by omega) hl rfl) ((World.putObj_heap_other (by omega)).trans hk)⟩
end
end Go.Proofs.YtpnmblnahjjmhaaGreat
