/- Package intset: the iterator members; slices.AppendSeq and Collect over any iterator of ints. The tree of splits: plain. A range over a function whose iterator owns blocks: between two yields it may write what it owns; what it yields it gives away. -/
import Derived.Test.YtpnmblnahjjmhaaGreatQ1
import Derived.RangeFuncWrites
import Derived.Laws.EntriesVeiled
import Derived.Test.YtpnmblnahjjmhaaGreatQ28
import Derived.Test.YtpnmblnahjjmhaaGreatQ3
namespace Go.Proofs.YtpnmblnahjjmhaaGreat
set_option maxRecDepth 100000
section
open Go.RowKit Go.Shelf Go.Deep
attribute [local go_sem] Oper.semAt_some
theorem AJ (p : Int → Bool) (k : Nat) : ∀ {N : Nat}, k ≤ N → ff p k <+: ff p N
 | 0, h => by rw [show k = 0 by omega]; exact List.prefix_refl _
 | N + 1, h => by
  by_cases e : k = N + 1
  ·rw [e]; exact List.prefix_refl _
  ·refine (AJ p k (N := N) (by omega)).trans ?_
   rw [qA]; exact List.prefix_append _ _
set_option maxHeartbeats 1000000 in
theorem JK (n l B1 B2 : Nat) (T : Nat → Prop) (N : Nat) (hN : N ≤ 64) (p : Int → Bool) (gf : Nat) (KL : Array Value) (eg : ∀ args w, (callFunc gf args).run Tryz.prog w = .ok (.enter gf args) w) (J Jx : List Int → World → Prop)
  (hY : ∀ pre x W, J pre W → pre.length < (ff p N).length → YieldAt Fence.wide (n - 1) Tryz.prog l #[.int .i64 x] W fun e W' =>
   (e = .returned (.bool true) ∧ J (pre ++ [x]) W' ∧ KS T W W') ∨ (e = .returned (.bool false) ∧ Jx (pre ++ [x]) W'))
  (W : World) (Og : AbidesFrom W.heap.size J) (hc1 : W.cell? ⟨B1, 0, none⟩ = some (.int .i64 (N : Int))) (fJ : W.cell? ⟨B2, 0, none⟩ = some (.func (.func gf) #[] KL)) (_ : T B1) (YE : T B2)
  (UG : ∀ k : Nat, k < N → ∀ W', KS T W W' → CallsIn Fence.wide (n - 1) Tryz.prog gf (#[.int .i64 k] ++ KL) W' fun e w' => e = .returned (.bool (p k)) ∧ ∃ q, w' = W'.drewN q) (h0 : J [] W) :
  CallsIn Fence.wide n Tryz.prog 229 #[.func (.yield l) #[] #[], .pointer (some ⟨B1, 0, none⟩), .pointer (some ⟨B2, 0, none⟩)] W fun e W' => (∃ v, e = .returned v) ∧ (J (ff p N) W' ∨ ∃ pre, pre <+: ff p N ∧ Jx pre W') := by
 have HJA := ag Og
 have HY := ag hY
 have HIS := ag UG
 have mC := ag fJ
 clear Og hY UG
 refine callsIn_of_wp Tryz.func229 rfl trivial ?_ rfl
 simp only [Tryz.ntmps229, List.size_toArray, List.length_cons, List.length_nil, Nat.reduceAdd, Nat.reduceSub, Array.replicate_succ, Array.replicate_zero, List.push_toArray, List.append_toArray, List.nil_append, List.cons_append]
 cD
 clear hc1 fJ
 Aq [4, 6] (fun _ i wr => ∃ (k : Nat), k ≤ N ∧ i = .int .i64 k ∧ Hid (J (ff p k) wr) ∧ Hid (KS T W wr)) (fun _ i _ => N - (intOf i).toNat)
 case atStart => exact ⟨0, Nat.zero_le _, rfl, h0, KS.refl _ _⟩
 case round =>
  obtain ⟨k, hk, rfl, hJ, jG⟩ := bE
  by_cases hlt : k < N
  ·have fJ := (jG.out.cell (p := ⟨B2, 0, none⟩) YE).trans mC.out
   have eM := ag (HIS.out k hlt wr jG.out)
   have HS := ag (qA p k)
   have ew : Hid (p k = true → (ff p k).length < (ff p N).length) := fun e => by
    have h1 := (AJ p (k + 1) (N := N) (by omega)).length_le
    rw [qA, if_pos e, List.length_append] at h1
    simp at h1; omega
   have hfn : Fence.wide.fn gf := trivial
   have k1 : (k : Int) < 64 := by omega
   cD
   refine ⟨fun h => (by cases h), ?_⟩
   refine eM.out.mono ?_
   rintro e W2 ⟨rfl, q, rfl⟩
   have Oh : Hid (J (ff p k) (wr.drewN q)) := HJA.out _ wr _ none hJ.out ⟨rfl, rfl, rfl, Nat.le_refl _, fun _ _ _ => rfl⟩ (fun r e => by cases e)
   have bK : Hid (KS T W (wr.drewN q)) := jG.out.drewN q
   clear fJ eM
   cases hp : p k
   ·have xS : Hid (ff p (k + 1) = ff p k) := by unfold Hid; rw [HS.out, hp]; simp
    clear hp
    cD
    rename_i hkk _ _ _ _
    refine ⟨fun f h => (by cases h), hkk _ _ ?_⟩
    cD
    aF
    case rel => exact ⟨k + 1, hlt, by aH, by rw [xS.out]; exact Oh, bK⟩
    case measure => simp [intOf]; omega
   ·have xS : Hid (ff p (k + 1) = ff p k ++ [(k : Int)]) := by unfold Hid; rw [HS.out, hp]; simp
    obtain ⟨fn, tmps, assign, body, hy, hR⟩ := HY.out (ff p k) k (wr.drewN q) Oh.out (ew.out hp)
    clear hp
    cD
    refine ⟨fun h => (by cases h), ?_⟩
    refine hR.mono ?_
    rintro e W3 fC
    obtain ⟨bb, rfl, hq⟩ := Ra fC
    cases bb
    ·have iP : Jx (ff p k ++ [(k : Int)]) W3 := by
      rcases hq.out with ⟨h1, _⟩ | h2
      ·cases h1
      ·exact h2.2
     cD
     refine bodyPost_ret (results_none rfl _ _ _) rfl ?_
     exact ⟨⟨_, rfl⟩, .inr ⟨_, by rw [← xS.out]; exact AJ p (k + 1) (by omega), iP⟩⟩
    ·have iP : J (ff p k ++ [(k : Int)]) W3 ∧ KS T (wr.drewN q) W3 := by
      rcases hq.out with h2 | ⟨h1, _⟩
      ·exact h2.2
      ·cases h1
     cD
     aF
     case rel => exact ⟨k + 1, hlt, by aH, by rw [xS.out]; exact iP.1, bK.out.trans iP.2⟩
     case measure => simp [intOf]; omega
  ·cD
   rH
   obtain rfl : k = N := by omega
   exact ⟨⟨_, rfl⟩, .inl hJ.out⟩
end
section
open Go.RowKit Go.Shelf Go.Deep
set_option maxHeartbeats 2000000 in
theorem Hp (w : World) (g : Nat) (lb : Array Value) (eg : ∀ args w, (callFunc g args).run Tryz.prog w = .ok (.enter g args) w) (xs : List Int)
    (hseq : ∀ w6, Up w w6 → SeqStopsK Fence.wide 8 Tryz.prog g lb (fun x : Int => #[Value.int .i64 x]) (KS (· < w.heap.size)) (fun l => l = xs) (fun pre => pre <+: xs) xs.length w6) (hlen : xs.length ≤ 1000000) :
    Calls Tryz.prog 228 #[.slice none 0 0, .func (.func g) #[] lb] w (ve w xs) := by
  refine (callsIn_wide (n := 9)).1 ?_
  refine callsIn_of_wp_marks Tryz.func228 rfl trivial ?_
  simp only [Tryz.ntmps228, List.size_toArray, List.length_cons, List.length_nil, Nat.reduceAdd, Nat.reduceSub, Array.replicate_succ, Array.replicate_zero, List.push_toArray, List.append_toArray, List.nil_append, List.cons_append]
  bf fail
  have gO : Up w (w.alloc (.cells #[.slice none 0 0] 26)) := Up.alloc _ _
  have Ov : (w.alloc (.cells #[.slice none 0 0] 26)).heap.size = w.heap.size + 1 := by simp
  have Ua := World.alloc_heap_new w (.cells #[.slice none 0 0] 26)
  generalize w.alloc (.cells #[.slice none 0 0] 26) = w6 at *
  apply wpIn_rangeFunc_ownG (F := Fence.wide) (n := 9) (P := Tryz.prog) (ps := #[7]) (w := w6) rfl (by omega) (gf := g) (lb := lb) rfl trivial eg
    (hseq w6 gO)
    (fun h k => KS.trans h k) (fun W l o o' hl ho hc _ => fun b (hb : b < w.heap.size) => World.putObj_heap_other (by omega)) (Below.refl _ _) (fun _ => (rfl : (1 : Nat) = 1))
    (Ev w) (fun _ _ _ => False)
  · exact Ev.own w (by omega)
  · exact fun _ _ _ _ _ h _ _ => h
  · exact ⟨gO, by omega, _, Ua, ay.nil _ _ _⟩
  · intro l x W K hK
    bf (rw [Oper.semAt_eq _ _ _ (fun c h => by cases h)]; aj; try gZ)
    exact hK
  · rintro l pre x W ⟨fW, hsz, v, fQ, hown⟩ hpl
    have hb0 : W.cell? ⟨w.heap.size, 0, none⟩ = some v := by simp [World.cell?, fQ]
    have uQ : ∀ w', KS (· < w.heap.size + 1) W w' → w'.cell? ⟨w.heap.size, 0, none⟩ = some v ∧ ∀ o, w'.frozen? ⟨w.heap.size, o, none⟩ = false := fun w' hS => by
      have h1 := (hS w.heap.size (Nat.lt_succ_self _)).trans fQ
      exact ⟨by simp [World.cell?, h1], fun o => by simp [World.frozen?, h1]⟩
    have LX : pre.length ≤ 1000000 := by omega
    clear Ua
    have HF0 := ag uQ
    have qy : Hid (∀ We v', ay (w.heap.size + 1) 3 We v' (pre.map (Value.int .i64) ++ [.int .i64 x]) → (W.alloc (.cells #[.int .i64 x] 3)).grownBy We v.ownBlock → KeepsFrom (w.heap.size + 1) W (We.setCell ⟨w.heap.size, 0, none⟩ v') ∧ KS (· < w.heap.size) W (We.setCell ⟨w.heap.size, 0, none⟩ v') ∧ Ev w (pre ++ [x]) (We.setCell ⟨w.heap.size, 0, none⟩ v')) :=
      fun We v' => Ev.next fW hsz fQ hown
    have Pw : Hid (∀ We, (W.alloc (.cells #[.int .i64 x] 3)).grownBy We v.ownBlock → KS (· < w.heap.size + 1) W We) := fun We hg b (hb : b < w.heap.size + 1) => (hg.block b (by rw [World.size_alloc]; show b < W.heap.size + 1; omega) (fun e => by have := (aD hown e.symm).1; omega)).trans (Below.heap_alloc W _ b (by show b < W.heap.size; omega))
    obtain ⟨i0, hi, tE, hz1, iR⟩ := info_parts Tryz.gH
    have sN : W.ownsRow (w.heap.size + 1) 3 1 v pre.length (pre.map (Value.int .i64)) := by have h := hown; unfold ay at h; rwa [List.length_map] at h
    obtain ⟨q1, q2⟩ := uQ W (KS.refl _ _)
    clear uQ fW fQ hown hb0
    bf (first
      | (qJ; refine wpListIn_append_own _ rfl _ _ 26 rfl (w.heap.size + 1) 3 i0 (.int .i64 0) 1 8 Tryz.underlying26 hi tE hz1 iR rfl (by decide) _ _ _ rfl (sN.alloc _) ⟨W.heap.size, 0, none⟩ 1 1 [.int .i64 x] rfl rfl (cell_one_new _ _ _) (by simp [Value.oneCell']) (by unfold maxLen; omega) (by omega) (by rw [World.size_alloc]; omega) ?_; intro v' w3 hown' hg3 Ch
         have SD : ay (w.heap.size + 1) 3 w3 v' (pre.map (Value.int .i64) ++ [.int .i64 x]) := by unfold ay; rw [List.length_append, List.length_map]; exact hown'
         obtain ⟨vp, vc, rfl, _⟩ := SD.form (n := pre.length + 1) (by simp)
         have fR := ag (qy.out w3 _ SD hg3)
         obtain ⟨q3, q4⟩ := HF0.out w3 (Pw.out w3 hg3)
         clear hown' hg3 Ch SD q1 q2 qy Pw HF0 sN)
      | (rw [Oper.semAt_eq _ _ _ (fun c h => by cases h)]; aj; try gZ))
    have dx := fR.out
    rw [Ov]
    exact dx
  · rintro D ys W hD rfl ⟨fW, hsz, v, fQ, hown⟩ hK
    have hb0 : W.cell? ⟨w.heap.size, 0, none⟩ = some v := by simp [World.cell?, fQ]
    bf fail
    have hq : ∀ b, b ≠ D → (W.putObj D (.deferred none)).heap[b]? = W.heap[b]? := fun b hb => World.putObj_heap_other hb
    refine ⟨by simp, .inl ⟨_, _, rfl, run_takeDeferred hK, ?_⟩⟩
    refine ⟨v, by simp [results, Tryz.results228, go_sem], ⟨fW.os, fW.tape, fW.output, by have h := fW.size; simpa using h, fun b hb => (hq b (by omega)).trans (fW.block b hb)⟩, v, rfl, ?_⟩
    refine ay.MJ (hown.vT fun b hb => hq b (fun e => ?_)) (Nat.le_succ _)
    obtain ⟨c, hc⟩ := hown.jr hb
    subst e; rw [hK] at hc; cases hc
  · rintro D c pre W _ _ h _
    exact h.elim
end
section
def dR (names : List ByteArray) (i : Nat) : Int := if bM (gs names i).data.toList then (if dO names i then 7 else 0) else 14
def dJ (names : List ByteArray) (l : List (List Int)) : Int :=
 if names.length = 0 then 5 else if 32 < names.length ∨ 64 < l.length then 4
 else if firstNZ (dR names) names.length ≠ 0 then firstNZ (dR names) names.length
 else if firstNZ (fun k => aN names.length (gl l k)) l.length ≠ 0 then firstNZ (fun k => aN names.length (gl l k)) l.length
 else if 0 ≤ fm l then 17 else 0
structure fo (names : List ByteArray) (l : List (List Int)) : Prop where
 pos : 0 < names.length
 le : names.length ≤ 32
 l64 : l.length ≤ 64
 nm : ∀ k, k < names.length → bM (gs names k).data.toList = true
 nd : ∀ j k, j < k → k < names.length → gs names k ≠ gs names j
 tN : ∀ s ∈ l, vR names.length s
 cmp : ∀ i k, i < k → k < l.length → eU (gl l i) (gl l k) = true
theorem iX {l : List (List Int)} {k : Nat} (h : k < l.length) : gl l k ∈ l := by simp [gl, h]
theorem tO {l : List (List Int)} {x : List Int} (h : x ∈ l) : ∃ k, k < l.length ∧ gl l k = x := by
 obtain ⟨k, hk, e⟩ := List.mem_iff_getElem.1 h
 exact ⟨k, hk, by simp [gl, hk, e]⟩
theorem Ex {l : List (List Int)} : fm l < 0 ↔ ∀ i k, i < k → k < l.length → eU (gl l i) (gl l k) = true := by
 have h1 := gG (fun i => decide (0 ≤ eV l i)) l.length
 have h2 : ∀ i, decide (0 ≤ eV l i) = (List.range l.length).any fun k => decide (i < k) && !eU (gl l i) (gl l k) := fun i => gG _ _
 constructor
 ·intro h i k hik hk
  have h3 : (List.range l.length).any (fun i => decide (0 ≤ eV l i)) = false := by
   rw [← h1]; exact decide_eq_false (by unfold fm at h; omega)
  have h4 := any_false h3 (show i < l.length by omega)
  rw [h2] at h4
  have h5 := any_false h4 hk
  rw [decide_eq_true hik, Bool.true_and] at h5
  simpa using h5
 ·intro h
  have h3 : (List.range l.length).any (fun i => decide (0 ≤ eV l i)) = false := any_none fun i hi => by
   rw [h2]
   refine any_none fun k hk => ?_
   by_cases e : i < k
   ·rw [h i k e hk]; simp
   ·rw [decide_eq_false e]; rfl
  rw [← h1] at h3
  have := of_decide_eq_false h3
  unfold fm; omega
theorem yt {names : List ByteArray} {l : List (List Int)} : dJ names l = 0 ↔ fo names l := by
 unfold dJ
 constructor
 ·intro h
  split at h
  ·cases h
  ·split at h
   ·cases h
   ·split at h
    ·rename_i h3; exact absurd h h3
    ·rename_i h3
     have h3 := jd (Classical.not_not.1 h3)
     split at h
     ·rename_i h4; exact absurd h h4
     ·rename_i h4
      have h4 := jd (Classical.not_not.1 h4)
      split at h
      ·cases h
      ·rename_i h5
       refine ⟨by omega, by omega, by omega, fun k hk => ?_, fun j k hjk hk e => ?_, fun s hs => ?_, Ex.1 (by omega)⟩
       ·have := h3 k hk
        unfold dR at this
        split at this
        ·assumption
        ·cases this
       ·have := h3 k hk
        unfold dR at this
        split at this
        ·rw [if_pos] at this
         ·cases this
         ·exact List.any_eq_true.2 ⟨j, List.mem_range.2 hjk, decide_eq_true e.symm⟩
        ·cases this
       ·obtain ⟨k, hk, rfl⟩ := tO hs
        exact iF.1 (h4 k hk)
 ·intro h
  have h1 := h.pos
  have h2 := h.le
  have h3 := h.l64
  have h4 : firstNZ (dR names) names.length = 0 := c9 fun k hk => by
   unfold dR
   rw [if_pos (h.nm k hk), if_neg]
   intro e
   obtain ⟨j, hj, e⟩ := List.any_eq_true.1 e
   exact h.nd j k (List.mem_range.1 hj) hk (of_decide_eq_true e).symm
  have h5 : firstNZ (fun k => aN names.length (gl l k)) l.length = 0 := c9 fun k hk => iF.2 (h.tN _ (iX hk))
  have h6 := Ex.2 h.cmp
  rw [if_neg (by omega), if_neg (by omega), if_neg (fun e => e h4), if_neg (fun e => e h5), if_neg (by omega)]
def gR (a b : List Int) : Int := if b.length < a.length then -1 else if a.length < b.length then 1 else cmpL a b
theorem nU {a b : List Int} (h : gR a b = 0) : a = b := by
 unfold gR at h
 split at h
 ·omega
 ·split at h
  ·omega
  ·exact jo h
theorem Ey (a : List Int) : gR a a = 0 := by unfold gR; rw [if_neg (by omega), if_neg (by omega)]; exact tK a
theorem tP (a b : List Int) : gR b a = - gR a b := by
 unfold gR
 by_cases h1 : b.length < a.length
 ·simp only [if_pos h1, if_neg (show ¬ a.length < b.length by omega)]; rfl
 ·by_cases h2 : a.length < b.length
  ·simp only [if_pos h2, if_neg h1]
  ·simp only [if_neg h1, if_neg h2]; exact j8 a b
theorem Ci {a b c : List Int} (h1 : gR a b < 0) (h2 : gR b c < 0) : gR a c < 0 := by
 unfold gR at *
 by_cases x1 : b.length < a.length
 ·by_cases y1 : c.length < b.length
  ·rw [if_pos (by omega)]; omega
  ·rw [if_neg y1] at h2
   by_cases y2 : b.length < c.length
   ·rw [if_pos y2] at h2; omega
   ·rw [if_pos (by omega)]; omega
 ·rw [if_neg x1] at h1
  by_cases x2 : a.length < b.length
  ·rw [if_pos x2] at h1; omega
  ·rw [if_neg x2] at h1
   by_cases y1 : c.length < b.length
   ·rw [if_pos (by omega)]; omega
   ·rw [if_neg y1] at h2
    by_cases y2 : b.length < c.length
    ·rw [if_pos y2] at h2; omega
    ·rw [if_neg y2] at h2
     rw [if_neg (by omega), if_neg (by omega)]
     exact oL h1 h2
def tQ (a b : List Int) : Prop := gR a b ≤ 0
theorem Px {a b c : List Int} (h1 : tQ a b) (h2 : tQ b c) : tQ a c := by
 unfold tQ at *
 by_cases e1 : gR a b = 0
 ·rw [nU e1]; exact h2
 ·by_cases e2 : gR b c = 0
  ·rw [← nU e2]; exact h1
  ·have h3 : gR a b < 0 := by omega
   have h4 : gR b c < 0 := by omega
   exact Int.le_of_lt (Ci h3 h4)
def insQ (a : List Int) : List (List Int) → List (List Int)
 | [] => [a]
 | b :: l => if gR a b ≤ 0 then a :: b :: l else b :: insQ a l
def vU : List (List Int) → List (List Int)
 | [] => []
 | a :: l => insQ a (vU l)
theorem yu (a : List Int) : ∀ l : List (List Int), (insQ a l).Perm (a :: l)
 | [] => List.Perm.refl _
 | b :: l => by
  rw [insQ]
  split
  ·exact List.Perm.refl _
  ·exact (List.Perm.cons b (yu a l)).trans (List.Perm.swap a b l)
theorem rF : ∀ l : List (List Int), (vU l).Perm l
 | [] => List.Perm.refl _
 | a :: l => (yu a _).trans (List.Perm.cons a (rF l))
theorem zY (a : List Int) : ∀ {l : List (List Int)}, l.Pairwise tQ → (insQ a l).Pairwise tQ
 | [], _ => by simp [insQ]
 | b :: l, h => by
  rw [insQ]
  rw [List.pairwise_cons] at h
  split
  ·rename_i h1
   refine List.pairwise_cons.2 ⟨fun c hc => ?_, List.pairwise_cons.2 h⟩
   rcases List.mem_cons.1 hc with rfl | hc
   ·exact h1
   ·exact Px h1 (h.1 c hc)
  ·rename_i h1
   refine List.pairwise_cons.2 ⟨fun c hc => ?_, zY a h.2⟩
   rcases List.mem_cons.1 ((yu a l).mem_iff.1 hc) with rfl | hc
   ·unfold tQ; have := tP c b; omega
   ·exact h.1 c hc
theorem sO : ∀ l : List (List Int), (vU l).Pairwise tQ
 | [] => List.Pairwise.nil
 | a :: l => zY a (sO l)
theorem ML {a b : List (List Int)} (hp : a.Perm b) (h : a.Pairwise tQ) : a = vU b :=
 List.Perm.eq_of_pairwise (le := tQ) (fun x y _ _ h1 h2 => nU (by unfold tQ at h1 h2; have := tP x y; omega)) h (sO b) (hp.trans (rF b).symm)
def aM (l : List (List Int)) : List (List Int) := fu (vU l)
theorem lN {x : List Int} {l : List (List Int)} : x ∈ aM l ↔ x ∈ l := by unfold aM; rw [pR]; exact (rF l).mem_iff
theorem ur : ∀ {l : List (List Int)}, l.Pairwise tQ → (fu l).Pairwise fun a b => gR a b < 0
 | [], _ => List.Pairwise.nil
 | a :: l, h => by
  rw [List.pairwise_cons] at h
  rw [fu]
  split
  ·exact ur h.2
  ·rename_i hne
   refine List.pairwise_cons.2 ⟨fun c hc => ?_, ur h.2⟩
   have hc := pR.1 hc
   have h1 := h.1 c hc
   unfold tQ at h1
   by_cases e : gR a c = 0
   ·exfalso
    have e := nU e
    subst e
    cases l with
    | nil => cases hc
    | cons b l =>
     rw [List.head?_cons] at hne
     have h2 := h.1 b (by simp)
     rcases List.mem_cons.1 hc with rfl | hc
     ·exact hne rfl
     ·have h3 := (List.pairwise_cons.1 h.2).1 _ hc
      unfold tQ at h2 h3
      have := tP a b
      exact hne (by rw [nU (a := a) (b := b) (by omega)])
   ·omega
theorem JL (l : List (List Int)) : (aM l).Pairwise fun a b => gR a b < 0 := ur (sO l)
theorem AK : ∀ l : List (List Int), (fu l).length ≤ l.length
 | [] => Nat.le_refl _
 | a :: l => by
  rw [fu]
  have := AK l
  split <;> simp <;> omega
theorem SE (l : List (List Int)) : (aM l).length ≤ l.length := by unfold aM; rw [← (rF l).length_eq]; exact AK _
def lastQ (own : List (List Int)) (x : Int) : Nat → Int
 | 0 => 2
 | k + 1 => if (gl own k).contains x then ((3 + k : Nat) : Int) else lastQ own x k
def bT (names : List ByteArray) (own : List (List Int)) : aJ :=
  ⟨[-1, 0, 0] ++ ((List.range own.length).map (fun k => lastQ own (gi (gl own k) 0) k) ++ (List.range (names.length - 1)).map fun b => lastQ own ((b + 1 : Nat) : Int) own.length),
   [ByteArray.empty, gs names 0, ByteArray.empty] ++ (List.replicate own.length ByteArray.empty ++ (List.range (names.length - 1)).map fun b => gs names (b + 1))⟩
def qK (names : List ByteArray) (l : List (List Int)) : aJ :=
 if names.length = 1 then ⟨[-1], [gs names 0]⟩ else if names.length = 2 then iy ⟨[-1, 0, 0], [ByteArray.empty, gs names 0, gs names 1]⟩ else iy (bT names (aM l))
def cr (names : List ByteArray) (l : List (List Int)) : aJ := if dJ names l = 0 then qK names l else ⟨[], []⟩
def bS (names : List ByteArray) (own : List (List Int)) (i : Nat) : List Int :=
 if i = 0 then allI names.length else if i = 1 then [0] else if i = 2 then bw names.length [0] else if i < 3 + own.length then gl own (i - 3) else [((i - 2 - own.length : Nat) : Int)]
theorem Cj (own : List (List Int)) (x : Int) : ∀ k, (lastQ own x k = 2 ∧ ∀ j, j < k → x ∉ gl own j) ∨ ∃ p, p < k ∧ lastQ own x k = ((3 + p : Nat) : Int) ∧ x ∈ gl own p ∧ ∀ j, p < j → j < k → x ∉ gl own j
 | 0 => .inl ⟨rfl, fun j hj => absurd hj (Nat.not_lt_zero _)⟩
 | k + 1 => by
  rw [lastQ]
  by_cases h : x ∈ gl own k
  ·rw [if_pos (List.contains_iff_mem.2 h)]
   exact .inr ⟨k, by omega, rfl, h, fun j h1 h2 => by omega⟩
  ·rw [if_neg (fun e => h (List.contains_iff_mem.1 e))]
   rcases Cj own x k with ⟨h1, h2⟩ | ⟨p, h1, h2, h3, h4⟩
   ·refine .inl ⟨h1, fun j hj => ?_⟩
    by_cases e : j = k
    ·subst e; exact h
    ·exact h2 j (by omega)
   ·refine .inr ⟨p, by omega, h2, h3, fun j hj1 hj2 => ?_⟩
    by_cases e : j = k
    ·subst e; exact h
    ·exact h4 j hj1 (by omega)
section
variable {names : List ByteArray} {l : List (List Int)}
theorem Hq : (bT names (aM l)).ps.length = 3 + (aM l).length + (names.length - 1) := by simp [bT]; omega
theorem VQ : (bT names (aM l)).ns.length = 3 + (aM l).length + (names.length - 1) := by simp [bT]; omega
theorem UH {own : List (List Int)} (i : Nat) : gi (bT names own).ps i = if i = 0 then -1 else if i < 3 then 0 else if i < 3 + own.length then lastQ own (gi (gl own (i - 3)) 0) (i - 3) else if i < 3 + own.length + (names.length - 1) then lastQ own ((i - 2 - own.length : Nat) : Int) own.length else 0 := by
 by_cases h0 : i = 0
 ·subst h0; rfl
 by_cases h1 : i = 1
 ·subst h1; rfl
 by_cases h2 : i = 2
 ·subst h2; rfl
 obtain ⟨j, rfl⟩ : ∃ j, i = 3 + j := ⟨i - 3, by omega⟩
 rw [if_neg h0, if_neg (by omega)]
 have e : gi (bT names own).ps (3 + j) = gi ((List.range own.length).map (fun k => lastQ own (gi (gl own k) 0) k) ++ (List.range (names.length - 1)).map fun b => lastQ own ((b + 1 : Nat) : Int) own.length) j := by
  have := su [-1, 0, 0] ((List.range own.length).map (fun k => lastQ own (gi (gl own k) 0) k) ++ (List.range (names.length - 1)).map fun b => lastQ own ((b + 1 : Nat) : Int) own.length) j
  exact this
 rw [e]
 by_cases h3 : j < own.length
 ·rw [if_pos (by omega), vB _ (by simpa using h3), show 3 + j - 3 = j by omega]
  simp [gi, h3]
 ·rw [if_neg (by omega)]
  obtain ⟨b, rfl⟩ : ∃ b, j = own.length + b := ⟨j - own.length, by omega⟩
  have e2 := su ((List.range own.length).map (fun k => lastQ own (gi (gl own k) 0) k)) ((List.range (names.length - 1)).map fun b => lastQ own ((b + 1 : Nat) : Int) own.length) b
  rw [List.length_map, List.length_range] at e2
  rw [e2]
  by_cases h4 : b < names.length - 1
  ·rw [if_pos (by omega), show 3 + (own.length + b) - 2 - own.length = b + 1 by omega]
   simp [gi, h4]
  ·rw [if_neg (by omega)]
   simp [gi, h4]
end
end
section
open Go Go.RowKit Go.Deep
structure VR (L L' : Nat → Prop) (W W' : World) : Prop where
 os : W'.os = W.os
 tape : W'.tape = W.tape
 output : W'.output = W.output
 size : W.heap.size ≤ W'.heap.size
 block : ∀ b, b < W.heap.size → ¬ L b → W'.heap[b]? = W.heap[b]?
 more : ∀ b, L' b → (L b ∧ b < W.heap.size) ∨ (W.heap.size ≤ b ∧ b < W'.heap.size)
def KM {α : Type} (J : List α → (Nat → Prop) → World → Prop) : Prop := ∀ s L L' W W', J s L W → VR L L' W W' → J s L' W'
def YF {α : Type} (F : Fence) (n : Nat) (P : Program) (g : Nat) (lb : Array Value) (encs : α → Array Value) (Gv : α → (Nat → Prop) → World → Prop) (Gb : α → Nat → Prop) (S : List α → Prop) (N : Nat) (w w9 : World) (L0 : Nat → Prop) : Prop :=
 ∀ (l : Nat) (J : List α → (Nat → Prop) → World → Prop) (W : World), Below w.heap.size w W → (∀ b, L0 b → b < w9.heap.size ∧ W.heap[b]? = w9.heap[b]?) → w9.heap.size ≤ W.heap.size → KM J →
  (∀ pre x L W1, J pre L W1 → Gv x L W1 → Below w.heap.size w W1 → (∀ b, L b → w.heap.size ≤ b ∧ b < W1.heap.size) → pre.length < N → YieldAt F (n - 1) P l (encs x) W1 fun e W' =>
   e = .returned (.bool true) ∧ J (pre ++ [x]) L W' ∧ Below w.heap.size w W' ∧ W1.heap.size ≤ W'.heap.size ∧ ∀ b, (L b ∨ Gb x b) → W'.heap[b]? = W1.heap[b]?) →
  J [] L0 W →
  CallsIn F n P g (#[.func (.yield l) #[] #[]] ++ lb) W fun e W' => (∃ v, e = .returned v) ∧ ∃ xs L, S xs ∧ J xs L W'
def SF {α : Type} (B : Nat) (w0 : World) (I : List α → (Nat → Prop) → World → Prop) (xs : List α) (L Lk : Nat → Prop) (W : World) : Exit → Act → World → Prop
 | .normal, _, W' => KeepsFrom B W W' ∧ Below w0.heap.size w0 W' ∧ (∀ b, Lk b → W'.heap[b]? = W.heap[b]?) ∧ I xs L W'
 | _, _, _ => False
theorem JM {α : Type} {F : Fence} {n : Nat} {P : Program} {w : World} {g : Operand} {ps : Array Tmp} {assign body : Code} {Q : Exit → Act → World → Prop} {a : Act}
  (hro : F.round = none) (h1 : 1 ≤ n) {gf : Nat} {lb : Array Value} (hg : a.eval g = .func (.func gf) #[] lb) (hFg : F.fn gf) (eg : ∀ args w, (callFunc gf args).run P w = .ok (.enter gf args) w)
  {encs : α → Array Value} {Gv : α → (Nat → Prop) → World → Prop} {Gb : α → Nat → Prop} {S : List α → Prop} {N : Nat} {w0 : World} {L0 : Nat → Prop} (hseq : YF F (n - 1) P gf lb encs Gv Gb S N w0 w L0) (DJ : ∀ b, L0 b → b < w.heap.size) (hGb : ∀ x L W b, Gv x L W → Gb x b → ∃ o, W.heap[b]? = some o ∧ o.isCells = true) (hb0 : Below w0.heap.size w0 w) (hps : ∀ x, (encs x).size = ps.size)
  (hGv : ∀ x L, OwnFrom w.heap.size (fun (_ : Unit) W => Gv x L W))
  (I : List α → (Nat → Prop) → World → Prop) (hA : KM I) (hI : ∀ L, OwnFrom w.heap.size (fun s W => I s L W)) (h0 : I [] L0 w) (a₁ : α → Act)
  (hassign : ∀ (l : Nat) (x : α) (W : World) (K : Act → World → Prop), K (a₁ x) W →
   assign.wpIn (F.inRound l) (n - 1 - 1) P (Exit.then K (fun _ _ _ => False)) { tmps := (ps.zip (encs x)).foldl (fun t (p, v) => t.setIfInBounds p v) a.tmps, defers := [] } W)
  (hbody : ∀ (l : Nat) (pre : List α) (x : α) (L : Nat → Prop) (W : World), I pre L W → Gv x L W → Below w0.heap.size w0 W → (∀ b, L b → w0.heap.size ≤ b ∧ b < W.heap.size) → pre.length < N → body.wpIn (F.inRound l) (n - 1 - 1) P (SF w.heap.size w0 I (pre ++ [x]) L (fun b => L b ∨ Gb x b) W) (a₁ x) W)
  (hdone : ∀ (D : Nat) (xs : List α) (L : Nat → Prop) (W : World), w.heap.size ≤ D → S xs → I xs L W → W.heap[D]? = some (.deferred (some [])) → Q .normal { a with defers := { target := .collected D, args := #[] } :: a.defers } W) :
  (Code.rangeFunc g ps assign body).wpIn F n P Q a w := by
 refine wpIn_rangeFunc ?_
 intro fn hfn
 rw [hro]
 obtain ⟨rec, yw⟩ : ∃ rec : LoopState → Option Code → Loop, rec = fun st pe => { state := st, pending := pe, fn, tmps := a.tmps, params := ps, assign, body, defers := w.heap.size } := ⟨_, rfl⟩
 obtain ⟨D, hD⟩ : ∃ D, D = w.heap.size := ⟨_, rfl⟩
 obtain ⟨W1, Hr⟩ : ∃ W1, (w.alloc (.deferred (some []))).alloc (.loop (rec .ready none)) = W1 := ⟨_, rfl⟩
 have hsz : W1.heap.size = D + 2 := by rw [← Hr, hD]; simp
 have hL1 : W1.heap[D + 1]? = some (.loop (rec .ready none)) := by
  rw [← Hr, hD]; have := World.alloc_heap_new (w.alloc (.deferred (some []))) (.loop (rec .ready none)); rwa [World.size_alloc] at this
 have wM : W1.heap[D]? = some (.deferred (some [])) := by
  rw [← Hr, hD]; exact (Below.heap_alloc _ _ _ (by simp)).trans (World.alloc_heap_new w _)
 have hI1 : I [] L0 W1 := by rw [← Hr]; exact (hI _).alloc _ ((hI _).alloc _ h0)
 have cB : Below w0.heap.size w0 W1 := by
  rw [← Hr]; exact hb0.trans ((((Below.refl _ w).alloc (Nat.le_refl _) _).alloc (by simp) _).mono hb0.size)
 have hb0s := hb0.size
 have YG : ∀ {W : World} (l : Nat) (o : Obj), D ≤ l → Below w0.heap.size w0 W → Below w0.heap.size w0 (W.putObj l o) := fun {W} l o hl hb =>
  ⟨hb.os, hb.tape, hb.output, by have := hb.size; simpa using this, fun b hbb => (World.putObj_heap_other (by omega)).trans (hb.block b hbb)⟩
 refine ⟨D + 1, [{ target := .collected D, args := #[] }], W1, { target := .fn (.func gf) lb, args := #[.func (.yield (D + 1)) #[] #[]] }, W1, gf,
  #[.func (.yield (D + 1)) #[] #[]] ++ lb, W1, ?_, ?_, ?_, ?_, fun _ => h1, ?_⟩
 ·rw [← Hr, yw, hD]; exact run_enterLoop_outer _ _ _ _ _
 ·simp only [resolve, hg]
  simp [go_sem]
 ·intro f' hf'; simp [Target.leads] at hf'; subst hf'; exact hFg
 ·simp [invoke, go_sem, eg]
 ·refine (hseq (D + 1) (fun pre L W => I pre L W ∧ W.heap[D + 1]? = some (.loop (rec .ready none)) ∧ W.heap[D]? = some (.deferred (some [])) ∧ ∀ b, L b → b ≠ D ∧ b ≠ D + 1) W1 cB (fun b hb => ⟨DJ b hb, by rw [← Hr]; exact (Below.heap_alloc _ _ _ (by have := DJ b hb; simp; omega)).trans (Below.heap_alloc _ _ _ (DJ b hb))⟩) (by rw [hsz, ← hD]; omega) ?_ ?_ ⟨hI1, hL1, wM, fun b h => by have := DJ b h; omega⟩).mono ?_
  ·rintro s L L' A B ⟨h1, h2, h3, h4⟩ hs
   have hlt := (Array.getElem?_eq_some_iff.1 h2).1
   refine ⟨hA s L L' A B h1 hs, (hs.block _ hlt fun e => ?_).trans h2, (hs.block _ (by omega) fun e => ?_).trans h3, fun b hb => ?_⟩
   ·have := h4 _ e; omega
   ·have := h4 _ e; omega
   ·rcases hs.more b hb with e | e
    ·exact h4 b e.1
    ·omega
  ·rintro pre x L W ⟨hi, hl, hk, KO⟩ Ez fW hLw hlen
   have hlt : D + 1 < W.heap.size := (Array.getElem?_eq_some_iff.1 hl).1
   have hy := run_yield (P := P) (args := encs x) hl (by rw [yw]; exact hps x)
   rw [yw] at hy
   refine ⟨fn, _, assign, body, hy, roundIn_of_wpIn hfn (hassign _ x W _ ⟨_, run_beginRound hl (by rw [yw]), ?_⟩)⟩
   obtain ⟨W2, zH⟩ : ∃ W2, W.putObj (D + 1) (.loop { rec .ready none with state := .busy }) = W2 := ⟨_, rfl⟩
   have mw : W2.heap[D + 1]? = some (.loop { rec .ready none with state := .busy }) := by rw [← zH]; exact World.putObj_heap_same hlt
   have hk2 : W2.heap[D]? = some (.deferred (some [])) := by rw [← zH]; exact (World.putObj_heap_other (by omega)).trans hk
   have hi2 : I pre L W2 := by rw [← zH]; exact (hI L).putObj _ hi (by omega) hl rfl
   have hg2 : Gv x L W2 := by rw [← zH]; exact (hGv x L).putObj (s := ()) _ Ez (by omega) hl rfl
   have hs2 : W2.heap.size = W.heap.size := by rw [← zH]; simp
   have zX : ∀ b, b ≠ D + 1 → W2.heap[b]? = W.heap[b]? := fun b hb => by rw [← zH]; exact World.putObj_heap_other (by omega)
   have Gt : Below w0.heap.size w0 W2 := by rw [← zH]; exact YG _ _ (by omega) fW
   rw [zH]
   refine wpIn_mono (hbody _ pre x L W2 hi2 hg2 Gt (fun b hb => by rw [hs2]; exact hLw b hb) hlen) ?_
   rintro e a3 W3 hp
   cases e with
   | normal =>
    obtain ⟨Py, jL, hL3, Gh⟩ := hp
    have BE := Py.same _ _ (by omega) mw rfl
    have hk4 := Py.same _ _ (by omega) hk2 rfl
    have hend := run_endRound (P := P) none BE
    rw [yw] at hend
    refine ⟨_, _, hend, rfl, ⟨?_, ?_, ?_, KO⟩, YG _ _ (by omega) jL, ?_, fun b hb => ?_⟩
    ·exact (hI L).putObj _ Gh (by omega) BE rfl
    ·rw [yw]; exact World.putObj_heap_same (Array.getElem?_eq_some_iff.1 BE).1
    ·exact (World.putObj_heap_other (by omega)).trans hk4
    ·have := Py.size; simp; omega
    ·have hne : b ≠ D + 1 := by
      rcases hb with hb | hb
      ·have := KO b hb; omega
      ·rintro rfl
       obtain ⟨o, h1, h2⟩ := hGb _ _ _ _ Ez hb
       rw [hl] at h1; injection h1 with h1; subst h1; cases h2
     exact (World.putObj_heap_other (by omega)).trans ((hL3 b hb).trans (zX b (by omega)))
   | ret => exact hp.elim
   | exit id => exact hp.elim
   | goto t => exact hp.elim
   | panic ch => exact hp.elim
   | outgrown => exact hp.elim
  ·rintro e W2 ⟨⟨v, rfl⟩, xs, L, hS, hi, hl, hk, KO⟩
   exact ⟨none, _, by have := run_endLoop (P := P) hl (by rw [yw]; simp); rw [yw] at this; exact this, hdone D xs L _ (by omega) hS ((hI L).putObj _ hi (by omega) hl rfl) ((World.putObj_heap_other (by omega)).trans hk)⟩
end
end Go.Proofs.YtpnmblnahjjmhaaGreat
