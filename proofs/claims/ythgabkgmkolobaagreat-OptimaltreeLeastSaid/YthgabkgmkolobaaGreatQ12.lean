/- The contract of phylotree.below: an iterator over the nodes below a node, depth first, .. -/
import Derived.Test.YthgabkgmkolobaaGreatQ1
import Derived.RangeFuncKeeps
import Derived.Laws.EntriesVeiled
import Derived.Test.YthgabkgmkolobaaGreatQ3
import Derived.Test.YthgabkgmkolobaaGreatQ10
import Derived.Deep.AppendLies
import Derived.Test.YthgabkgmkolobaaGreatQ7
import Derived.Test.YthgabkgmkolobaaGreatQ11
set_option maxRecDepth 100000
namespace Go.Proofs.YthgabkgmkolobaaGreat
section
open Go.RowKit Go.Shelf Go.Deep
attribute [local go_sem] Oper.semAt_some
def seqD (F : aT) : Nat → Nat → Option Nat → List (Nat × Option Nat)
 | 0, i, p => [(i, p)]
 | d + 1, i, p => (i, p) :: (F.kids i).flatMap fun k => seqD F d k (some i)
def dN (F : aT) (rk : Nat → Nat) (i : Nat) (p : Option Nat) : List (Nat × Option Nat) := seqD F (rk i) i p
theorem gH {α β : Type} {f g : α → List β} : ∀ {l : List α}, (∀ x ∈ l, f x = g x) → l.flatMap f = l.flatMap g
 | [], _ => rfl
 | x :: l, h => by rw [List.flatMap_cons, List.flatMap_cons, h x (by simp), gH fun y hy => h y (by simp [hy])]
theorem D6 {F : aT} {n : Nat} {rk : Nat → Nat} (h : Wf F n rk) : ∀ {d e i : Nat} {p : Option Nat}, i < n → rk i ≤ d → rk i ≤ e → seqD F d i p = seqD F e i p := by
 intro d
 induction d with
 | zero =>
  intro e i p hi hd he
  have hk : F.kids i = [] := by
   cases hk : F.kids i with
   | nil => rfl
   | cons k l => have := (h.kid i hi k (by rw [hk]; simp)).2; omega
  cases e with
  | zero => rfl
  | succ e => simp [seqD, hk]
 | succ d ih =>
  intro e i p hi hd he
  cases e with
  | zero =>
   have hk : F.kids i = [] := by
    cases hk : F.kids i with
    | nil => rfl
    | cons k l => have := (h.kid i hi k (by rw [hk]; simp)).2; omega
   simp [seqD, hk]
  | succ e =>
   simp only [seqD]
   congr 1
   exact gH fun k hk => by
    have := h.kid i hi k hk
    exact ih this.1 (by omega) (by omega)
theorem fU {F : aT} {n : Nat} {rk : Nat → Nat} (h : Wf F n rk) {i : Nat} (hi : i < n) (p : Option Nat) : dN F rk i p = (i, p) :: (F.kids i).flatMap fun k => dN F rk k (some i) := by
 have h1 : dN F rk i p = seqD F (rk i + 1) i p := D6 h hi (Nat.le_refl _) (Nat.le_succ _)
 rw [h1]
 simp only [seqD]
 congr 1
 exact gH fun k hk => by
  have := h.kid i hi k hk
  exact D6 h this.1 (by omega) (Nat.le_refl _)
abbrev lV (n : Nat) := { x : Nat × Option Nat // x.1 < n ∧ ∀ p, x.2 = some p → p < n }
def cE {n : Nat} (l : List (lV n)) : List (Nat × Option Nat) := l.map Subtype.val
theorem ux {n : Nat} (l m : List (lV n)) : cE (l ++ m) = cE l ++ cE m := by simp [cE]
def optr (A : Nat → Nat) : Option Nat → Value
 | none => .pointer none
 | some p => .pointer (some ⟨A p, 0, none⟩)
def CT (A : Nat → Nat) {n : Nat} (x : lV n) : Array Value := #[.pointer (some ⟨A x.1.1, 0, none⟩), optr A x.1.2]
def KN (T : Nat → Prop) (w w' : World) : Prop := KS T w w' ∧ ∀ (b : Nat) (c : Array Value) (z : Nat × Nat), w.heap[b]? = some (Obj.cells c 258 z) → w'.heap[b]? = w.heap[b]?
theorem KN.trans {T : Nat → Prop} {a b c : World} (h : KN T a b) (k : KN T b c) : KN T a c := ⟨h.1.trans k.1, fun i x z hi => (k.2 i x z ((h.2 i x z hi).trans hi)).trans (h.2 i x z hi)⟩
def nE (w : World) (b : Nat) (v : Value) : Prop := w.heap[b]? = some (Obj.cells #[v] 258 (0, 0))
theorem nE.keep {T : Nat → Prop} {w w' : World} {b : Nat} {v : Value} (h : nE w b v) (k : KN T w w') : nE w' b v := (k.2 b _ _ h).trans h
theorem nE.cell {w : World} {b : Nat} {v : Value} (h : nE w b v) : w.cell? ⟨b, 0, none⟩ = some v := by
 have h : w.heap[b]? = _ := h
 simp [World.cell?, h]
theorem bq.X9 {base n : Nat} {A : Nat → Nat} {kv : Nat → Value} {F : aT} {T : Nat → Prop} {w w' : World} (h : bq base n A kv F w) (k : KN T w w') (hA : ∀ i, i < n → T (A i)) (hk : ∀ i b, i < n → (kv i).ownBlock = some b → T b) : bq base n A kv F w' :=
 h.same (fun i hi => k.1 _ (hA i hi)) (fun i b hi hb => k.1 b (hk i b hi hb))
section
variable {n base : Nat} {A : Nat → Nat} {kv : Nat → Value} {F : aT} {rk : Nat → Nat} {T : Nat → Prop}
def RL (T : Nat → Prop) (J Jx : List (lV n) → World → Prop) (pre : List (lV n)) (full : List (Nat × Option Nat)) (W : World) (e : Ending) (W' : World) : Prop :=
 (e = .returned (.bool true) ∧ ∃ xs, cE xs = full ∧ J (pre ++ xs) W' ∧ KN T W W') ∨ (e = .returned (.bool false) ∧ ∃ q, cE q <+: full ∧ Jx (pre ++ q) W')
theorem FA {α β : Type} (f : α → List β) (l : List α) {k : Nat} {c : α} (h : l[k]? = some c) : ((l.take k).flatMap f).length + (f c).length ≤ (l.flatMap f).length := by
 have h1 : l = l.take (k + 1) ++ l.drop (k + 1) := (List.take_append_drop _ _).symm
 have h2 : (l.flatMap f).length = ((l.take (k + 1)).flatMap f).length + ((l.drop (k + 1)).flatMap f).length := by
  conv => lhs; rw [h1]
  rw [List.flatMap_append, List.length_append]
 rw [h2, List.take_add_one, h, List.flatMap_append, List.length_append]
 simp
theorem D7 {α β : Type} (f : α → List β) (l : List α) {k : Nat} {c : α} (h : l[k]? = some c) : (l.take (k + 1)).flatMap f = (l.take k).flatMap f ++ f c := by
 rw [List.take_add_one, h, List.flatMap_append]; simp
theorem AD {α β : Type} (f : α → List β) (l : List α) {k : Nat} {c : α} (h : l[k]? = some c) {q : List β} (hq : q <+: f c) : (l.take k).flatMap f ++ q <+: l.flatMap f := by
 have h1 : l = l.take (k + 1) ++ l.drop (k + 1) := (List.take_append_drop _ _).symm
 have h2 : l.flatMap f = (l.take (k + 1)).flatMap f ++ (l.drop (k + 1)).flatMap f := by
  conv => lhs; rw [h1]
  rw [List.flatMap_append]
 rw [h2, D7 f l h, List.append_assoc]
 exact (List.prefix_append_right_inj _).2 (hq.trans (List.prefix_append _ _))
theorem vH {e : Ending} {X Y : Prop} (h : (e = .returned (.bool true) ∧ X) ∨ (e = .returned (.bool false) ∧ Y)) : ∃ bb, e = .returned (.bool bb) ∧ Hid ((bb = true ∧ X) ∨ (bb = false ∧ Y)) := by
 rcases h with ⟨h1, h2⟩ | ⟨h1, h2⟩
 ·exact ⟨true, h1, .inl ⟨rfl, h2⟩⟩
 ·exact ⟨false, h1, .inr ⟨rfl, h2⟩⟩
def Gz (n base : Nat) (A : Nat → Nat) (kv : Nat → Value) (F : aT) (rk : Nat → Nat) (T : Nat → Prop) (l Bq Be N : Nat) (J Jx : List (lV n) → World → Prop) (i : Nat) : Prop :=
 ∀ (par : Option Nat) (m : Nat) (pre : List (lV n)) (W : World), (∀ p, par = some p → p < n) → bq base n A kv F W → nE W Bq (.func (.yield l) #[] #[]) → nE W Be (.func (.func 260) #[] #[.pointer (some ⟨Bq, 0, none⟩), .pointer (some ⟨Be, 0, none⟩)]) →
   J pre W → pre.length + (dN F rk i par).length ≤ N →
   CallsIn Fence.wide m Tryz.prog 260 #[.pointer (some ⟨A i, 0, none⟩), optr A par, .pointer (some ⟨Bq, 0, none⟩), .pointer (some ⟨Be, 0, none⟩)] W (RL T J Jx pre (dN F rk i par) W)
set_option maxHeartbeats 2000000 in
theorem D8 (hwf : Wf F n rk) (hlen : ∀ i, i < n → (F.kids i).length ≤ 1000) (hA : ∀ i, i < n → T (A i)) (hk : ∀ i b, i < n → (kv i).ownBlock = some b → T b) (l Bq Be N : Nat) (J Jx : List (lV n) → World → Prop)
  (hY : ∀ m pre x W, J pre W → pre.length < N → YieldAt Fence.wide m Tryz.prog l (CT A x) W fun e W' => (e = .returned (.bool true) ∧ J (pre ++ [x]) W' ∧ KN T W W') ∨ (e = .returned (.bool false) ∧ Jx (pre ++ [x]) W'))
  {i : Nat} (hi : i < n) (ih : ∀ c ∈ F.kids i, Gz n base A kv F rk T l Bq Be N J Jx c) : Gz n base A kv F rk T l Bq Be N J Jx i := by
 intro par m pre W hpar hF hq he hJ hN
 obtain ⟨fn, tmps, assign, body, hy, hR⟩ := hY (m - 1) pre ⟨(i, par), hi, hpar⟩ W hJ (by rw [fU hwf hi] at hN; simp at hN; omega)
 simp only [CT] at hy
 have hqc := hq.cell
 have HQ := aa hq
 have HE := aa he
 have HF := aa hF
 have HN := aa hN
 have js := aa ih
 have GA := aa hwf
 have iz := hlen i hi
 have UJ : Hid (∀ W', KN T W W' → bq base n A kv F W') := fun W' k => hF.X9 k hA hk
 clear hJ hq he hF hN ih hwf hlen hA hk
 refine callsIn_of_wp Tryz.func260 rfl trivial ?_ rfl
 simp only [Tryz.ntmps260, List.size_toArray, List.length_cons, List.length_nil, Nat.reduceAdd, Nat.reduceSub, Array.replicate_succ, Array.replicate_zero, List.push_toArray, List.append_toArray, List.nil_append, List.cons_append]
 gi_wp2
 refine ⟨fun h => (by cases h), ?_⟩
 refine hR.mono ?_
 rintro e W1 ep
 obtain ⟨bb, rfl, hq⟩ := vH ep
 clear ep hR
 cases bb
 ·gi_wp2
  go_ret
  have h2 : Jx (pre ++ [⟨(i, par), hi, hpar⟩]) W1 := by
   rcases hq.out with ⟨h1, _⟩ | ⟨_, h2⟩
   ·cases h1
   ·exact h2
  exact .inr ⟨rfl, [⟨(i, par), hi, hpar⟩], ⟨_, by rw [fU GA.out hi]; rfl⟩, h2⟩
 ·have Br : J (pre ++ [⟨(i, par), hi, hpar⟩]) W1 ∧ KN T W W1 := by
   rcases hq.out with ⟨_, h2⟩ | ⟨h1, _⟩
   ·exact h2
   ·cases h1
  obtain ⟨hJ1, hk1⟩ := Br
  have D9 := UJ.out W1 hk1
  have hown := D9.own i hi
  obtain ⟨q, cap, hv, Ya⟩ := hown.form (n := (F.kids i).length) (by simp)
  have hkc := D9.qo hi
  rw [hv] at hkc
  have HV := aa hv
  have HQQ := aa Ya
  have Gj : Hid ((F.kids i).length = 0 ∨ ∃ g, q = some ⟨g, 0, none⟩) := by
   rcases Ya with rfl | h
   ·obtain ⟨_, h | ⟨g, _, _, h, _⟩⟩ := hown
    ·left; have := h.2; rw [List.length_map] at this; exact this
    ·rw [hv] at h; cases h
   ·exact .inr h
  have HJ1 := aa hJ1
  have GC := aa hk1
  clear hqc hq D9 hown hv Ya hJ1 hk1
  gi_wp2
  gi_loopw [19] (fun i' wr => ∃ (k : Nat) (done : List (lV n)), k ≤ (F.kids i).length ∧ i' = .int .i64 k ∧ Hid (cE done = ((F.kids i).take k).flatMap fun c => dN F rk c (some i)) ∧ Hid (J (pre ++ [⟨(i, par), hi, hpar⟩] ++ done) wr) ∧ Hid (KN T W wr)) (fun i' _ => (F.kids i).length - (intOf i').toNat)
  case atStart => exact ⟨0, [], Nat.zero_le _, rfl, rfl, by unfold Hid; rw [List.append_nil]; exact HJ1.out, GC⟩
  case round =>
   obtain ⟨k, done, hk, rfl, hD, hJr, hKr⟩ := hrel
   by_cases hlt : k < (F.kids i).length
   ·obtain ⟨g, rfl⟩ : ∃ g, q = some ⟨g, 0, none⟩ := by
     rcases Gj.out with h | h
     ·omega
     ·exact h
    have hc : (F.kids i)[k]? = some (F.kids i)[k] := List.getElem?_eq_getElem hlt
    have Yb := UJ.out wr hKr.out
    have hrow := Yb.FH (j := k) (c := (F.kids i)[k]) hi HV.out hc
    have heb := (HE.out.keep hKr.out).cell
    have hdl : done.length = (((F.kids i).take k).flatMap fun c => dN F rk c (some i)).length := by rw [← hD.out]; simp [cE]
    have vI := js.out (F.kids i)[k] (List.getElem_mem hlt) (some i) (m - 1) (pre ++ [⟨(i, par), hi, hpar⟩] ++ done) wr (fun p hp => by cases hp; exact hi) Yb (HQ.out.keep hKr.out) (HE.out.keep hKr.out) hJr.out (by
     have h1 := FA (fun c => dN F rk c (some i)) (F.kids i) hc
     have h2 := HN.out
     rw [fU GA.out hi] at h2
     simp only [List.length_append, List.length_cons, List.length_nil] at h2 ⊢
     omega)
    simp only [optr] at vI
    have gw := aa vI
    have HC := aa hc
    have dL : Hid ((F.kids i)[k] < n) := (GA.out.kid i hi _ (List.getElem_mem hlt)).1
    clear hc Yb vI hdl
    generalize (F.kids i)[k] = c at *
    gi_wp2
    refine ⟨trivial, fun h => (by cases h), ?_⟩
    refine gw.out.mono ?_
    rintro e W3 ep
    obtain ⟨bb, rfl, hq⟩ := vH ep
    clear ep gw
    cases bb
    ·gi_wp2
     go_ret
     obtain ⟨qs, Yc, hx⟩ : ∃ qs, cE qs <+: dN F rk c (some i) ∧ Jx (pre ++ [⟨(i, par), hi, hpar⟩] ++ done ++ qs) W3 := by
      rcases hq.out with ⟨h1, _⟩ | ⟨_, h2⟩
      ·cases h1
      ·exact h2
     refine .inr ⟨rfl, ⟨(i, par), hi, hpar⟩ :: (done ++ qs), ?_, by simpa using hx⟩
     rw [fU GA.out hi, show cE (⟨(i, par), hi, hpar⟩ :: (done ++ qs)) = (i, par) :: cE (done ++ qs) from rfl, ux, hD.out]
     exact (List.prefix_cons_inj _).2 (AD _ _ HC.out Yc)
    ·obtain ⟨xs, hxs, hJ3, hK3⟩ : ∃ xs, cE xs = dN F rk c (some i) ∧ J (pre ++ [⟨(i, par), hi, hpar⟩] ++ done ++ xs) W3 ∧ KN T wr W3 := by
      rcases hq.out with ⟨_, h2⟩ | ⟨h1, _⟩
      ·exact h2
      ·cases h1
     have HJ3 : Hid (J (pre ++ [⟨(i, par), hi, hpar⟩] ++ (done ++ xs)) W3) := by unfold Hid; rw [← List.append_assoc]; exact hJ3
     have HD3 : Hid (cE (done ++ xs) = ((F.kids i).take (k + 1)).flatMap fun c => dN F rk c (some i)) := by unfold Hid; rw [ux, hD.out, hxs, D7 _ _ HC.out]
     have HK3 : Hid (KN T W W3) := hKr.out.trans hK3
     clear hq hxs hJ3 hK3
     gi_wp2
     go_roundw
     case rel => exact ⟨k + 1, done ++ xs, by omega, by go_num, HD3, HJ3, HK3⟩
     case measure => simp [intOf]; omega
   ·gi_wp2
    go_ret
    obtain rfl : k = (F.kids i).length := by omega
    refine .inl ⟨rfl, ⟨(i, par), hi, hpar⟩ :: done, ?_, by simpa using hJr.out, hKr.out⟩
    rw [fU GA.out hi, show cE (⟨(i, par), hi, hpar⟩ :: done) = (i, par) :: cE done from rfl, hD.out, List.take_length]
theorem VY (hwf : Wf F n rk) (hlen : ∀ i, i < n → (F.kids i).length ≤ 1000) (hA : ∀ i, i < n → T (A i)) (hk : ∀ i b, i < n → (kv i).ownBlock = some b → T b) (l Bq Be N : Nat) (J Jx : List (lV n) → World → Prop)
  (hY : ∀ m pre x W, J pre W → pre.length < N → YieldAt Fence.wide m Tryz.prog l (CT A x) W fun e W' => (e = .returned (.bool true) ∧ J (pre ++ [x]) W' ∧ KN T W W') ∨ (e = .returned (.bool false) ∧ Jx (pre ++ [x]) W')) :
  ∀ (d i : Nat), i < n → rk i ≤ d → Gz n base A kv F rk T l Bq Be N J Jx i := by
 intro d
 induction d with
 | zero => exact fun i hi zS => D8 hwf hlen hA hk l Bq Be N J Jx hY hi fun c hc => absurd (hwf.kid i hi c hc).2 (by omega)
 | succ d ih => exact fun i hi zS => D8 hwf hlen hA hk l Bq Be N J Jx hY hi fun c hc => ih c (hwf.kid i hi c hc).1 (by have := (hwf.kid i hi c hc).2; omega)
theorem GD {F : Fence} (hd : F.depth = none) (k : Nat) : F.room k := fun d h => by rw [hd] at h; cases h
theorem YieldAt.RM {F : Fence} (hd : F.depth = none) {m : Nat} (m' : Nat) {P : Program} {l : Nat} {args : Array Value} {W : World} {R : Ending → World → Prop} (h : YieldAt F m P l args W R) : YieldAt F m' P l args W R := by
 obtain ⟨fn, tmps, assign, body, hy, hR⟩ := h
 exact ⟨fn, tmps, assign, body, hy, hR.1, fun c cs _ => hR.2 c cs (GD hd _)⟩
set_option maxHeartbeats 1000000 in
theorem OE (hwf : Wf F n rk) (hlen : ∀ i, i < n → (F.kids i).length ≤ 1000) (hA : ∀ i, i < n → T (A i)) (hk : ∀ i b, i < n → (kv i).ownBlock = some b → T b) (m l Bx i : Nat) (hi : i < n) (J Jx : List (lV n) → World → Prop)
  (hY : ∀ pre x W, J pre W → pre.length < (dN F rk i none).length → YieldAt Fence.wide (m - 1) Tryz.prog l (CT A x) W fun e W' => (e = .returned (.bool true) ∧ J (pre ++ [x]) W' ∧ KN T W W') ∨ (e = .returned (.bool false) ∧ Jx (pre ++ [x]) W'))
  (W : World) (N8 : AbidesFrom W.heap.size J) (hF : bq base n A kv F W) (hx : W.cell? ⟨Bx, 0, none⟩ = some (.pointer (some ⟨A i, 0, none⟩))) (hJ : J [] W) :
  CallsIn Fence.wide m Tryz.prog 259 #[.func (.yield l) #[] #[], .pointer (some ⟨Bx, 0, none⟩)] W fun e W' => (∃ v, e = .returned v) ∧
   ((∃ xs, cE xs = dN F rk i none ∧ J xs W') ∨ (∃ q, cE q <+: dN F rk i none ∧ Jx q W')) := by
 have aG : Up W ((W.alloc (.cells #[.func (.yield l) #[] #[]] 258)).alloc (.cells #[.nilFunc] 258)) := (Up.alloc _ _).trans (Up.alloc _ _)
 have hnew := blk_alloc_new (W.alloc (.cells #[.func (.yield l) #[] #[]] 258)) (.cells #[.nilFunc] 258)
 rw [World.size_alloc] at hnew
 have Br : ((W.alloc (.cells #[.func (.yield l) #[] #[]] 258)).alloc (.cells #[.nilFunc] 258)).heap[W.heap.size]? = some (.cells #[.func (.yield l) #[] #[]] 258 (0, 0)) := by
  rw [blk_alloc_lt _ _ _ (by simp)]; exact blk_alloc_new _ _
 have hxc := aG.cell hx
 generalize hW2 : (W.alloc (.cells #[.func (.yield l) #[] #[]] 258)).alloc (.cells #[.nilFunc] 258) = W2 at *
 have dL : W2.cell? ⟨W.heap.size + 1, 0, none⟩ = some .nilFunc := by simp [World.cell?, hnew]
 have hfn : W2.frozen? ⟨W.heap.size + 1, 0, none⟩ = false := by simp [World.frozen?, hnew]
 have bX : Up W (W2.setCell ⟨W.heap.size + 1, 0, none⟩ (.func (.func 260) #[] #[.pointer (some ⟨W.heap.size, 0, none⟩), .pointer (some ⟨W.heap.size + 1, 0, none⟩)])) := Below.setCell aG (p := ⟨W.heap.size + 1, 0, none⟩) (Nat.le_succ _) _
 have hJ2 := N8 [] W _ none hJ (⟨bX.os, bX.tape, bX.output, bX.size, fun j hj _ => Below.block bX j hj⟩ : W.grownBy _ none) (fun r e => by cases e)
 have hq : nE (W2.setCell ⟨W.heap.size + 1, 0, none⟩ (.func (.func 260) #[] #[.pointer (some ⟨W.heap.size, 0, none⟩), .pointer (some ⟨W.heap.size + 1, 0, none⟩)])) W.heap.size (.func (.yield l) #[] #[]) := by
  unfold nE; rw [blk_setCell_other _ _ _ _ (by show W.heap.size ≠ W.heap.size + 1; omega)]; exact Br
 have he : nE (W2.setCell ⟨W.heap.size + 1, 0, none⟩ (.func (.func 260) #[] #[.pointer (some ⟨W.heap.size, 0, none⟩), .pointer (some ⟨W.heap.size + 1, 0, none⟩)])) (W.heap.size + 1) (.func (.func 260) #[] #[.pointer (some ⟨W.heap.size, 0, none⟩), .pointer (some ⟨W.heap.size + 1, 0, none⟩)]) := by
  unfold nE
  simp [World.setCell, Array.getElem?_modify, hnew]
 have vI := VY (base := base) (A := A) (kv := kv) (T := T) hwf hlen hA hk l W.heap.size (W.heap.size + 1) (dN F rk i none).length J Jx (fun m' pre x W' h1 h2 => YieldAt.RM rfl m' (hY pre x W' h1 h2)) (rk i) i hi (Nat.le_refl _) none (m - 1) [] _ (fun p hp => by cases hp) (hF.up bX) hq he hJ2 (by simp)
 simp only [optr] at vI
 have hec := he.cell
 have hxc3 : (W2.setCell ⟨W.heap.size + 1, 0, none⟩ (.func (.func 260) #[] #[.pointer (some ⟨W.heap.size, 0, none⟩), .pointer (some ⟨W.heap.size + 1, 0, none⟩)])).cell? ⟨Bx, 0, none⟩ = some (.pointer (some ⟨A i, 0, none⟩)) := bX.cell hx
 have gw := aa vI
 clear vI hJ2 hq he N8 hF hJ bX aG hY hnew Br
 refine callsIn_of_wp Tryz.func259 rfl trivial ?_ rfl
 simp only [Tryz.ntmps259, List.size_toArray, List.length_cons, List.length_nil, Nat.reduceAdd, Nat.reduceSub, Array.replicate_succ, Array.replicate_zero, List.push_toArray, List.append_toArray, List.nil_append, List.cons_append]
 gi_wp2
 refine ⟨trivial, fun h => (by cases h), ?_⟩
 refine gw.out.mono ?_
 rintro e W3 ep
 obtain ⟨bb, rfl, hq⟩ := vH ep
 gi_wp2
 go_end0
 refine ⟨⟨_, rfl⟩, ?_⟩
 rcases hq.out with ⟨_, xs, h1, h2, _⟩ | ⟨_, q, h1, h2⟩
 ·exact .inl ⟨xs, h1, by simpa using h2⟩
 ·exact .inr ⟨q, h1, by simpa using h2⟩
set_option maxHeartbeats 400000 in
theorem VZ (w : World) (p : Option Addr) : Calls Tryz.prog 216 #[.pointer p] w fun e w' => e = .returned (.func (.func 259) #[] #[.pointer (some ⟨w.heap.size, 0, none⟩)]) ∧ w' = w.alloc (.cells #[.pointer p] 119) := by
 go_enter Tryz.func216, Tryz.ntmps216
 go_wp2_with fail
 go_ret
 exact ⟨rfl, rfl⟩
theorem J8 (hwf : Wf F n rk) (hlen : ∀ i, i < n → (F.kids i).length ≤ 1000) (hA : ∀ i, i < n → T (A i)) (hk : ∀ i b, i < n → (kv i).ownBlock = some b → T b) (m Bx i : Nat) (hi : i < n) (w : World) (hT : ∀ b, T b → b < w.heap.size)
  (hBx : T Bx) (hF : bq base n A kv F w) (hx : w.cell? ⟨Bx, 0, none⟩ = some (.pointer (some ⟨A i, 0, none⟩))) :
  SeqStopsK Fence.wide m Tryz.prog 259 #[.pointer (some ⟨Bx, 0, none⟩)] (fun x : lV n => CT A x) (KN T)
   (fun xs => cE xs = dN F rk i none) (fun pre => cE pre <+: dN F rk i none) (dN F rk i none).length w := fun l J Jx W hW hJ _ hY h0 =>
 OE hwf hlen hA hk m l Bx i hi J Jx hY W hJ (hF.same (fun j hj => hW.block _ (hT _ (hA j hj))) (fun j b hj hb => hW.block b (hT b (hk j b hj hb)))) ((hW.cell (p := ⟨Bx, 0, none⟩) (hT _ hBx)).trans hx) h0
end
end
section
open Go.RowKit Go.Deep
def tU (l : List (Option Nat × Value)) (k : Option Nat) (v : Value) : List (Option Nat × Value) := if (l.lookup k).isNone then l ++ [(k, v)] else l.map fun x => if x.1 = k then (k, v) else x
section
variable {P : Program} {w : World}
theorem RN (k : Option Nat) : Instr.sameBits 10000 (pk k) (pk k) = true := by
 cases k <;> simp [pk, Instr.sameBits]
theorem OG (k : Option Nat) : (Instr.keyThatStays (pk k) (pk k)).run P w = .ok (pk k) w := by
 unfold Instr.keyThatStays
 rw [if_pos (RN k)]; rfl
theorem GF {t e : TypeId} (ht : P.underlying t = some (.pointer e)) (he : ∀ w, (sizeOf e).run P w = .ok 3 w) {k : Option Nat} (hk : fI w k) : ∀ (es : List MapEntry) (l : List (Option Nat × Value)) (i : Nat),
  es.map (fun x => (x.key, x.val)) = l.map (fun x => (pk x.1, x.2)) → (∀ x ∈ l, fI w x.1) → (l.lookup k).isSome →
   ∃ j v, l.lookup k = some v ∧ (l[j]?).map (·.1) = some k ∧ (∀ m, m < j → (l[m]?).map (·.1) ≠ some k) ∧ (Instr.findAsking t (pk k) es i).run P w = .ok (some (i + j, v)) w := by
 intro es
 induction es with
 | nil =>
  intro l i hl _ hs
  cases l with
  | nil => cases hs
  | cons => cases hl
 | cons x es ih =>
  intro l i hl hok hs
  cases l with
  | nil => cases hl
  | cons y l =>
   simp only [List.map_cons, List.cons.injEq, Prod.mk.injEq] at hl
   obtain ⟨⟨h1, h2⟩, h3⟩ := hl
   have heq := KU (w := w) ht he hk (hok y (by simp))
   rw [← h1] at heq
   by_cases h : k = y.1
   ·subst h
    refine ⟨0, y.2, ?_, rfl, fun m hm => absurd hm (Nat.not_lt_zero _), ?_⟩
    ·obtain ⟨y1, y2⟩ := y; simp
    ·simp [Instr.findAsking, heq, h2]
   ·have hb : (k == y.1) = false := by simpa using h
    have hs' : (l.lookup k).isSome := by
     obtain ⟨y1, y2⟩ := y
     rw [List.lookup_cons, hb] at hs; exact hs
    obtain ⟨j, v, h4, h5, h6, h7⟩ := ih l (i + 1) h3 (fun z hz => hok z (by simp [hz])) hs'
    refine ⟨j + 1, v, ?_, by simpa using h5, fun m hm => ?_, ?_⟩
    ·obtain ⟨y1, y2⟩ := y; rw [List.lookup_cons, hb]; exact h4
    ·cases m with
     | zero => simpa using fun e => h e.symm
     | succ m => simpa using h6 m (by omega)
    ·simp [Instr.findAsking, heq, h, h7]; omega
def vJ (l : List (Option Nat × Value)) : Prop := (l.map (·.1)).Nodup
theorem BJ {l : List (Option Nat × Value)} {k : Option Nat} : l.lookup k = none ↔ k ∉ l.map (·.1) := by
 induction l with
 | nil => simp
 | cons y l ih =>
  obtain ⟨y1, y2⟩ := y
  rw [List.lookup_cons]
  by_cases h : k = y1
  ·subst h; simp
  ·have hb : (k == y1) = false := by simpa using h
   rw [hb]; simp only [List.map_cons, List.mem_cons, not_or]
   exact ⟨fun h2 => ⟨h, ih.1 h2⟩, fun h2 => ih.2 h2.2⟩
theorem OH (l : List (Option Nat × Value)) (k : Option Nat) (v : Value) : (tU l k v).map (·.1) = if (l.lookup k).isNone then l.map (·.1) ++ [k] else l.map (·.1) := by
 unfold tU
 split
 ·simp
 ·rw [List.map_map]
  refine List.map_congr_left fun x _ => ?_
  show (if x.1 = k then (k, v) else x).1 = x.1
  split
  ·rename_i h; exact h.symm
  ·rfl
theorem OI {l : List (Option Nat × Value)} (h : vJ l) (k : Option Nat) (v : Value) : vJ (tU l k v) := by
 unfold vJ
 rw [OH]
 split
 ·rename_i h2
  have h3 : k ∉ l.map (·.1) := BJ.1 (by simpa using h2)
  rw [List.nodup_append]
  refine ⟨h, by simp, fun a ha b hb => ?_⟩
  have : b = k := by simpa using hb
  subst this
  exact fun e => h3 (by rw [← e]; exact ha)
 ·exact h
theorem J9 {l : List (Option Nat × Value)} (h : vJ l) {k : Option Nat} (v : Value) {j : Nat} (hj : (l[j]?).map (·.1) = some k) : (l.map fun x => if x.1 = k then (k, v) else x) = l.set j (k, v) := by
 apply List.ext_getElem?
 intro m
 have hjl : j < l.length := by
  cases hlj : l[j]? with
  | none => rw [hlj] at hj; cases hj
  | some y => exact (List.getElem?_eq_some_iff.1 hlj).1
 rw [List.getElem?_map, List.getElem?_set]
 by_cases e : j = m
 ·subst e
  rw [if_pos rfl, if_pos hjl]
  rw [List.getElem?_eq_getElem hjl] at hj ⊢
  have h3 : (l[j]).1 = k := by simpa using hj
  simp [h3]
 ·rw [if_neg e]
  cases hm : l[m]? with
  | none => rfl
  | some y =>
   have hml := (List.getElem?_eq_some_iff.1 hm).1
   have hne : y.1 ≠ k := fun h4 => by
    have h5 : (l.map (·.1))[m]? = (l.map (·.1))[j]? := by rw [List.getElem?_map, List.getElem?_map, hm, hj]; simp [h4]
    have h6 : m < (l.map (·.1)).length := by simpa using hml
    have h7 : j < (l.map (·.1)).length := by simpa using hjl
    rw [List.getElem?_eq_getElem h6, List.getElem?_eq_getElem h7] at h5
    injection h5 with h5
    exact e ((List.getElem_inj h).1 h5).symm
   simp [hne]
theorem GG {mt t e el : TypeId} (hm : P.underlying mt = some (.map t el)) (ht : P.underlying t = some (.pointer e)) (he : ∀ w, (sizeOf e).run P w = .ok 3 w) {b : Nat} {l : List (Option Nat × Value)} (h : je w b l) (hu : vJ l) {k : Option Nat} (v : Value)
  (hk : fI w k) (hok : ∀ x ∈ l, fI w x.1) :
  ∃ w', (Instr.mapUpdate mt (.map (some b)) (pk k) v).run P w = .ok () w' ∧ je w' b (tU l k v) ∧ w'.heap.size = w.heap.size ∧ w'.os = w.os ∧ w'.tape = w.tape ∧ w'.output = w.output ∧ ∀ j, j ≠ b → w'.heap[j]? = w.heap[j]? := by
 cases hl0 : l.lookup k with
 | none =>
  obtain ⟨w', h1, h2, h3⟩ := Gh hm ht he h v hk hok hl0
  refine ⟨w', h1, ?_, h3⟩
  unfold tU; rw [hl0]; exact h2
 | some v0 =>
  obtain ⟨es, clock, hb, hl⟩ := h
  have aR := run_underlying (w := w) hm
  have aG := run_underlying (w := w) ht
  have hg := MapKept.run_getObj_map (P := P) hb
  obtain ⟨j, v', h4, h5, h6, h7⟩ := GF ht he hk es.toList l 0 hl hok (by rw [hl0]; rfl)
  have hne : es.toList ≠ [] := fun h0 => by rw [h0] at hl; cases l with | nil => cases hl0 | cons => cases hl
  have UK : (Instr.findKey t (pk k) es.toList).run P w = .ok (some (j, v')) w := by
   cases hes : es.toList with
   | nil => exact absurd hes hne
   | cons x xs =>
    have hn : Instr.findNow (.pointer e) (pk k) (x :: xs) 0 = none := by simp [Instr.findNow, Instr.sameNow]
    rw [hes] at h7
    simp [Instr.findKey, aG, hn, h7]
  have hkey : ((es[j]?).map (·.key)) = some (pk k) := by
   have h8 := congrArg (fun q => (q[j]?).map (·.1)) hl
   simp only [List.getElem?_map, Option.map_map] at h8
   have h9 : (l[j]?).map (fun x => pk x.1) = some (pk k) := by
    cases hlj : l[j]? with
    | none => rw [hlj] at h5; cases h5
    | some y => rw [hlj] at h5; simp at h5; simp [h5]
   have h10 : (es.toList[j]?).map (·.key) = (l[j]?).map (fun x => pk x.1) := h8
   rw [← Array.getElem?_toList, h10, h9]
  have hst : (Instr.keyThatStays (((es[j]?).map (·.key)).getD (pk k)) (pk k)).run P w = .ok (pk k) w := by rw [hkey]; exact OG k
  have hs := MapKept.run_setObj_map (P := P) (.map (es.modify j fun e => { e with key := pk k, val := v }) clock) hb
  refine ⟨{ w with heap := w.heap.setIfInBounds b (.map (es.modify j fun e => { e with key := pk k, val := v }) clock) }, by simp [Instr.mapUpdate, aR, hg, run_checkKey ht, UK, hst, hs], ⟨es.modify j fun e => { e with key := pk k, val := v }, clock, ?_, ?_⟩, by simp, rfl, rfl, rfl, fun m hm => ?_⟩
  ·have := (Array.getElem?_eq_some_iff.1 hb).1
   simp [this]
  ·have hpl : tU l k v = l.set j (k, v) := by
    unfold tU; rw [hl0]
    exact J9 hu v h5
   rw [hpl]
   apply List.ext_getElem?
   intro m
   have h8 := congrArg (fun q => q[m]?) hl
   simp only [List.getElem?_map] at h8
   rw [List.getElem?_map, List.getElem?_map, Array.getElem?_toList, Array.getElem?_modify, List.getElem?_set]
   have hjl : j < l.length := by
    cases hlj : l[j]? with
    | none => rw [hlj] at h5; cases h5
    | some y => exact (List.getElem?_eq_some_iff.1 hlj).1
   have Yd : j < es.size := by have := congrArg List.length hl; simp at this; omega
   by_cases e : j = m
   ·subst e
    rw [if_pos rfl, if_pos rfl, if_pos hjl, Array.getElem?_eq_getElem Yd]
    rfl
   ·rw [if_neg e, if_neg e, ← Array.getElem?_toList]; exact h8
  ·simp [Ne.symm hm]
theorem OJ {mt t e el : TypeId} (hm : P.underlying mt = some (.map t el)) (ht : P.underlying t = some (.pointer e)) (he : ∀ w, (sizeOf e).run P w = .ok 3 w) {z : Value} (hz : ∀ w, (zeroValue el).run P w = .ok z w) {b : Nat} {l : List (Option Nat × Value)} (h : je w b l) {k : Option Nat}
  (hk : fI w k) (hok : ∀ x ∈ l, fI w x.1) : (Instr.lookup mt (.map (some b)) (pk k) false).run P w = .ok ((l.lookup k).getD z) w := by
 cases hl0 : l.lookup k with
 | some v => exact vG hm ht he h hk hok hl0
 | none =>
  obtain ⟨es, clock, hb, hl⟩ := h
  have hu := run_underlying (w := w) hm
  have hg := MapKept.run_getObj_map (P := P) hb
  rcases run_findKey ht he hk es.toList l hl hok with ⟨h1, h2⟩ | ⟨j, v', h1, h2⟩
  ·simp [Instr.lookup, hu, hg, run_checkKey ht, h2, hz]
  ·rw [h1] at hl0; cases hl0
end
section
variable {F : Fence} {nF : Nat} {P : Program} {ops : Array Oper} {o : Oper} {a : Act} {w : World} {K : Act → World → Prop} {Q : Exit → Act → World → Prop} {E : Prop}
theorem lF (hgd : o.guard = none) (s x : Operand) (t : TypeId) (ho : o.op = .call { callee := .builtin .append, args := #[s, x], argTypes := #[t, t] })
  (base : Nat) (e : TypeId) (z : Value) (bytes : Nat) (ht : P.underlying t = some (.slice e)) (hinfo : (P.info? e).map (fun i => (i.zero, i.size, i.bytes)) = some (some z, 1, bytes))
  (hz1 : z.cells.size = 1) (mg : bytes ≤ 64) {v : Value} {vs : List Value} (hs : a.eval s = v) (hown : aC base e w v vs) (u : Value) (B : Nat)
  (hx : a.eval x = .slice (some ⟨B, 0, none⟩) 1 1) (hB : w.cell? ⟨B, 0, none⟩ = some u) (h1 : u.oneCell' = true) (hn : vs.length ≤ 1000000) (hbase : base ≤ w.heap.size)
  (h : ∀ g cap w', aC base e w' (.slice (some ⟨g, 0, none⟩) (vs.length + 1) cap) (vs ++ [u]) → w.grownBy w' v.ownBlock → (v.ownBlock = some g ∨ g = w.heap.size) → Below base w w' → K (a.put o.dst (.slice (some ⟨g, 0, none⟩) (vs.length + 1) cap)) w') :
  if Region.wanted o (yielded ops a.tmps) = true then Oper.wpIn F nF P o a w K Q else E := by
 have hw : Region.wanted o (yielded ops a.tmps) = true := by simp [Region.wanted, hgd]
 rw [if_pos hw]
 obtain ⟨i, hi, hzz⟩ := Option.map_eq_some_iff.1 hinfo
 simp only [Prod.mk.injEq] at hzz
 obtain ⟨hz, hs1, hb⟩ := hzz
 obtain ⟨g, cap, w', hr, h2, h3, h4, _⟩ := run_append_lies (P := P) w t o.type base e i z 1 bytes ht hi hz hs1 hb hz1 (by omega) v vs.length vs hown ⟨B, 0, none⟩ 1 1 [u] rfl (fun j u' hj => by
  cases j with
  | zero => (simp at hj; subst hj; simpa [Addr.add] using hB)
  | succ j => simp at hj) (by simpa using h1) (by omega) (by unfold maxLen; omega) (by have : (vs.length + 1) * bytes ≤ (vs.length + 1) * 64 := Nat.mul_le_mul_left _ mg; omega) hbase _ rfl
 unfold Oper.wpIn
 refine ⟨by simp [Oper.about, ho, resolve, Target.leads, Sem.run_pure], ?_⟩
 rw [Oper.semAt_plain F _ _ (by rw [ho]; intro c hc'; cases hc')]
 simp [execOp, ho, resolve, invoke, builtin, hs, hx, hr, Result.andThen]
 exact h g cap w' (by unfold aC; rw [List.length_append]; exact h2) h3 h4 (hown.dy h3 hbase)
end
end
end Go.Proofs.YthgabkgmkolobaaGreat
