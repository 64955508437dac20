/- The contract of phylotree.below: an iterator over the nodes below a node, depth first, .. -/
import Derived.Test.YteegefnjnikngaaGreatQ1
import Derived.Test.YteegefnjnikngaaGreatQ5
import Derived.Test.YteegefnjnikngaaGreatQ14
import Derived.RangeFuncKeeps
import Derived.Laws.EntriesVeiled
import Derived.Test.YteegefnjnikngaaGreatQ9
import Derived.Test.YteegefnjnikngaaGreatQ2
set_option maxRecDepth 100000
namespace Go.Proofs.YteegefnjnikngaaGreat
section
open Go.RowKit Go.Shelf Go.Deep
attribute [local go_sem] Oper.semAt_some
def seqD (F : aP) : Nat → Nat → Option Nat → List (Nat × Option Nat)
 | 0, i, p => [(i, p)]
 | d + 1, i, p => (i, p) :: (F.kids i).flatMap fun k => seqD F d k (some i)
def dR (F : aP) (rk : Nat → Nat) (i : Nat) (p : Option Nat) : List (Nat × Option Nat) := seqD F (rk i) i p
theorem ic {α β : Type} {f g : α → List β} : ∀ {l : List α}, (∀ x ∈ l, f x = g x) → l.flatMap f = l.flatMap g
 | [], _ => rfl
 | x :: l, h => by rw [List.flatMap_cons, List.flatMap_cons, h x (by simp), ic fun y hy => h y (by simp [hy])]
theorem ED {F : aP} {n : Nat} {rk : Nat → Nat} (h : Wf F n rk) : ∀ {d e i : Nat} {p : Option Nat}, i < n → rk i ≤ d → rk i ≤ e → seqD F d i p = seqD F e i p := by
 intro d
 induction d with
 | zero =>
  intro e i p hi hd he
  have hk : F.kids i = [] := by
   cases hk : F.kids i with
   | nil => rfl
   | cons k l => have := (h.kid i hi k (by rw [hk]; simp)).2; omega
  cases e with
  | zero => rfl
  | succ e => simp [seqD, hk]
 | succ d ih =>
  intro e i p hi hd he
  cases e with
  | zero =>
   have hk : F.kids i = [] := by
    cases hk : F.kids i with
    | nil => rfl
    | cons k l => have := (h.kid i hi k (by rw [hk]; simp)).2; omega
   simp [seqD, hk]
  | succ e =>
   simp only [seqD]
   congr 1
   exact ic fun k hk => by
    have := h.kid i hi k hk
    exact ih this.1 (by omega) (by omega)
theorem gD {F : aP} {n : Nat} {rk : Nat → Nat} (h : Wf F n rk) {i : Nat} (hi : i < n) (p : Option Nat) : dR F rk i p = (i, p) :: (F.kids i).flatMap fun k => dR F rk k (some i) := by
 have h1 : dR F rk i p = seqD F (rk i + 1) i p := ED h hi (Nat.le_refl _) (Nat.le_succ _)
 rw [h1]
 simp only [seqD]
 congr 1
 exact ic fun k hk => by
  have := h.kid i hi k hk
  exact ED h this.1 (by omega) (Nat.le_refl _)
abbrev l6 (n : Nat) := { x : Nat × Option Nat // x.1 < n ∧ ∀ p, x.2 = some p → p < n }
def cM {n : Nat} (l : List (l6 n)) : List (Nat × Option Nat) := l.map Subtype.val
theorem uY {n : Nat} (l m : List (l6 n)) : cM (l ++ m) = cM l ++ cM m := by simp [cM]
def optr (A : Nat → Nat) : Option Nat → Value
 | none => .pointer none
 | some p => .pointer (some ⟨A p, 0, none⟩)
def Ds (A : Nat → Nat) {n : Nat} (x : l6 n) : Array Value := #[.pointer (some ⟨A x.1.1, 0, none⟩), optr A x.1.2]
def KN (T : Nat → Prop) (w w' : World) : Prop := KS T w w' ∧ ∀ (b : Nat) (c : Array Value) (z : Nat × Nat), w.heap[b]? = some (Obj.cells c 266 z) → w'.heap[b]? = w.heap[b]?
theorem KN.trans {T : Nat → Prop} {a b c : World} (h : KN T a b) (k : KN T b c) : KN T a c := ⟨h.1.trans k.1, fun i x z hi => (k.2 i x z ((h.2 i x z hi).trans hi)).trans (h.2 i x z hi)⟩
def nZ (w : World) (b : Nat) (v : Value) : Prop := w.heap[b]? = some (Obj.cells #[v] 266 (0, 0))
theorem nZ.keep {T : Nat → Prop} {w w' : World} {b : Nat} {v : Value} (h : nZ w b v) (k : KN T w w') : nZ w' b v := (k.2 b _ _ h).trans h
theorem nZ.cell {w : World} {b : Nat} {v : Value} (h : nZ w b v) : w.cell? ⟨b, 0, none⟩ = some v := by
 have h : w.heap[b]? = _ := h
 simp [World.cell?, h]
theorem aS.YP {base n : Nat} {A : Nat → Nat} {kv : Nat → Value} {F : aP} {T : Nat → Prop} {w w' : World} (h : aS base n A kv F w) (k : KN T w w') (hA : ∀ i, i < n → T (A i)) (hk : ∀ i b, i < n → (kv i).ownBlock = some b → T b) : aS base n A kv F w' :=
 h.same (fun i hi => k.1 _ (hA i hi)) (fun i b hi hb => k.1 b (hk i b hi hb))
section
variable {n base : Nat} {A : Nat → Nat} {kv : Nat → Value} {F : aP} {rk : Nat → Nat} {T : Nat → Prop}
def Si (T : Nat → Prop) (J Jx : List (l6 n) → World → Prop) (pre : List (l6 n)) (full : List (Nat × Option Nat)) (W : World) (e : Ending) (W' : World) : Prop :=
 (e = .returned (.bool true) ∧ ∃ xs, cM xs = full ∧ J (pre ++ xs) W' ∧ KN T W W') ∨ (e = .returned (.bool false) ∧ ∃ q, cM q <+: full ∧ Jx (pre ++ q) W')
theorem FU {α β : Type} (f : α → List β) (l : List α) {k : Nat} {c : α} (h : l[k]? = some c) : ((l.take k).flatMap f).length + (f c).length ≤ (l.flatMap f).length := by
 have h1 : l = l.take (k + 1) ++ l.drop (k + 1) := (List.take_append_drop _ _).symm
 have h2 : (l.flatMap f).length = ((l.take (k + 1)).flatMap f).length + ((l.drop (k + 1)).flatMap f).length := by
  conv => lhs; rw [h1]
  rw [List.flatMap_append, List.length_append]
 rw [h2, List.take_add_one, h, List.flatMap_append, List.length_append]
 simp
theorem EE {α β : Type} (f : α → List β) (l : List α) {k : Nat} {c : α} (h : l[k]? = some c) : (l.take (k + 1)).flatMap f = (l.take k).flatMap f ++ f c := by
 rw [List.take_add_one, h, List.flatMap_append]; simp
theorem AV {α β : Type} (f : α → List β) (l : List α) {k : Nat} {c : α} (h : l[k]? = some c) {q : List β} (hq : q <+: f c) : (l.take k).flatMap f ++ q <+: l.flatMap f := by
 have h1 : l = l.take (k + 1) ++ l.drop (k + 1) := (List.take_append_drop _ _).symm
 have h2 : l.flatMap f = (l.take (k + 1)).flatMap f ++ (l.drop (k + 1)).flatMap f := by
  conv => lhs; rw [h1]
  rw [List.flatMap_append]
 rw [h2, EE f l h, List.append_assoc]
 exact (List.prefix_append_right_inj _).2 (hq.trans (List.prefix_append _ _))
theorem wD {e : Ending} {X Y : Prop} (h : (e = .returned (.bool true) ∧ X) ∨ (e = .returned (.bool false) ∧ Y)) : ∃ bb, e = .returned (.bool bb) ∧ Hid ((bb = true ∧ X) ∨ (bb = false ∧ Y)) := by
 rcases h with ⟨h1, h2⟩ | ⟨h1, h2⟩
 ·exact ⟨true, h1, .inl ⟨rfl, h2⟩⟩
 ·exact ⟨false, h1, .inr ⟨rfl, h2⟩⟩
def Hq (n base : Nat) (A : Nat → Nat) (kv : Nat → Value) (F : aP) (rk : Nat → Nat) (T : Nat → Prop) (l Bq Be N : Nat) (J Jx : List (l6 n) → World → Prop) (i : Nat) : Prop :=
 ∀ (par : Option Nat) (m : Nat) (pre : List (l6 n)) (W : World), (∀ p, par = some p → p < n) → aS base n A kv F W → nZ W Bq (.func (.yield l) #[] #[]) → nZ W Be (.func (.func 270) #[] #[.pointer (some ⟨Bq, 0, none⟩), .pointer (some ⟨Be, 0, none⟩)]) →
   J pre W → pre.length + (dR F rk i par).length ≤ N →
   CallsIn Fence.wide m Tryz.prog 270 #[.pointer (some ⟨A i, 0, none⟩), optr A par, .pointer (some ⟨Bq, 0, none⟩), .pointer (some ⟨Be, 0, none⟩)] W (Si T J Jx pre (dR F rk i par) W)
set_option maxHeartbeats 2000000 in
theorem EF (hwf : Wf F n rk) (hlen : ∀ i, i < n → (F.kids i).length ≤ 1000) (hA : ∀ i, i < n → T (A i)) (hk : ∀ i b, i < n → (kv i).ownBlock = some b → T b) (l Bq Be N : Nat) (J Jx : List (l6 n) → World → Prop)
  (hY : ∀ m pre x W, J pre W → pre.length < N → YieldAt Fence.wide m Tryz.prog l (Ds A x) W fun e W' => (e = .returned (.bool true) ∧ J (pre ++ [x]) W' ∧ KN T W W') ∨ (e = .returned (.bool false) ∧ Jx (pre ++ [x]) W'))
  {i : Nat} (hi : i < n) (ih : ∀ c ∈ F.kids i, Hq n base A kv F rk T l Bq Be N J Jx c) : Hq n base A kv F rk T l Bq Be N J Jx i := by
 intro par m pre W hpar hF hq he hJ hN
 obtain ⟨fn, tmps, assign, body, hy, hR⟩ := hY (m - 1) pre ⟨(i, par), hi, hpar⟩ W hJ (by rw [gD hwf hi] at hN; simp at hN; omega)
 simp only [Ds] at hy
 have hqc := hq.cell
 have HQ := aa hq
 have HE := aa he
 have HF := aa hF
 have HN := aa hN
 have iG := aa ih
 have Hr := aa hwf
 have qx := hlen i hi
 have Uz : Hid (∀ W', KN T W W' → aS base n A kv F W') := fun W' k => hF.YP k hA hk
 clear hJ hq he hF hN ih hwf hlen hA hk
 refine callsIn_of_wp Tryz.func270 rfl trivial ?_ rfl
 simp only [Tryz.ntmps270, List.size_toArray, List.length_cons, List.length_nil, Nat.reduceAdd, Nat.reduceSub, Array.replicate_succ, Array.replicate_zero, List.push_toArray, List.append_toArray, List.nil_append, List.cons_append]
 gi_wp2
 refine ⟨fun h => (by cases h), ?_⟩
 refine hR.mono ?_
 rintro e W1 eR
 obtain ⟨bb, rfl, hq⟩ := wD eR
 clear eR hR
 cases bb
 ·gi_wp2
  go_ret
  have h2 : Jx (pre ++ [⟨(i, par), hi, hpar⟩]) W1 := by
   rcases hq.out with ⟨h1, _⟩ | ⟨_, h2⟩
   ·cases h1
   ·exact h2
  exact .inr ⟨rfl, [⟨(i, par), hi, hpar⟩], ⟨_, by rw [gD Hr.out hi]; rfl⟩, h2⟩
 ·have qX : J (pre ++ [⟨(i, par), hi, hpar⟩]) W1 ∧ KN T W W1 := by
   rcases hq.out with ⟨_, h2⟩ | ⟨h1, _⟩
   ·exact h2
   ·cases h1
  obtain ⟨hJ1, hk1⟩ := qX
  have EG := Uz.out W1 hk1
  have hown := EG.own i hi
  obtain ⟨q, cap, hv, YQ⟩ := hown.form (n := (F.kids i).length) (by simp)
  have hkc := EG.je hi
  rw [hv] at hkc
  have HV := aa hv
  have HQQ := aa YQ
  have AR : Hid ((F.kids i).length = 0 ∨ ∃ g, q = some ⟨g, 0, none⟩) := by
   rcases YQ with rfl | h
   ·obtain ⟨_, h | ⟨g, _, _, h, _⟩⟩ := hown
    ·left; have := h.2; rw [List.length_map] at this; exact this
    ·rw [hv] at h; cases h
   ·exact .inr h
  have UA := aa hJ1
  have B5 := aa hk1
  clear hqc hq EG hown hv YQ hJ1 hk1
  gi_wp2
  gi_loopw [19] (fun i' wr => ∃ (k : Nat) (done : List (l6 n)), k ≤ (F.kids i).length ∧ i' = .int .i64 k ∧ Hid (cM done = ((F.kids i).take k).flatMap fun c => dR F rk c (some i)) ∧ Hid (J (pre ++ [⟨(i, par), hi, hpar⟩] ++ done) wr) ∧ Hid (KN T W wr)) (fun i' _ => (F.kids i).length - (intOf i').toNat)
  case atStart => exact ⟨0, [], Nat.zero_le _, rfl, rfl, by unfold Hid; rw [List.append_nil]; exact UA.out, B5⟩
  case round =>
   obtain ⟨k, done, hk, rfl, hD, hJr, hKr⟩ := hrel
   by_cases hlt : k < (F.kids i).length
   ·obtain ⟨g, rfl⟩ : ∃ g, q = some ⟨g, 0, none⟩ := by
     rcases AR.out with h | h
     ·omega
     ·exact h
    have hc : (F.kids i)[k]? = some (F.kids i)[k] := List.getElem?_eq_getElem hlt
    have YS := Uz.out wr hKr.out
    have hrow := YS.wC (j := k) (c := (F.kids i)[k]) hi HV.out hc
    have heb := (HE.out.keep hKr.out).cell
    have hdl : done.length = (((F.kids i).take k).flatMap fun c => dR F rk c (some i)).length := by rw [← hD.out]; simp [cM]
    have wE := iG.out (F.kids i)[k] (List.getElem_mem hlt) (some i) (m - 1) (pre ++ [⟨(i, par), hi, hpar⟩] ++ done) wr (fun p hp => by cases hp; exact hi) YS (HQ.out.keep hKr.out) (HE.out.keep hKr.out) hJr.out (by
     have h1 := FU (fun c => dR F rk c (some i)) (F.kids i) hc
     have h2 := HN.out
     rw [gD Hr.out hi] at h2
     simp only [List.length_append, List.length_cons, List.length_nil] at h2 ⊢
     omega)
    simp only [optr] at wE
    have dO := aa wE
    have HC := aa hc
    have cD : Hid ((F.kids i)[k] < n) := (Hr.out.kid i hi _ (List.getElem_mem hlt)).1
    clear hc YS wE hdl
    generalize (F.kids i)[k] = c at *
    gi_wp2
    refine ⟨trivial, fun h => (by cases h), ?_⟩
    refine dO.out.mono ?_
    rintro e W3 eR
    obtain ⟨bb, rfl, hq⟩ := wD eR
    clear eR dO
    cases bb
    ·gi_wp2
     go_ret
     obtain ⟨qs, YT, hx⟩ : ∃ qs, cM qs <+: dR F rk c (some i) ∧ Jx (pre ++ [⟨(i, par), hi, hpar⟩] ++ done ++ qs) W3 := by
      rcases hq.out with ⟨h1, _⟩ | ⟨_, h2⟩
      ·cases h1
      ·exact h2
     refine .inr ⟨rfl, ⟨(i, par), hi, hpar⟩ :: (done ++ qs), ?_, by simpa using hx⟩
     rw [gD Hr.out hi, show cM (⟨(i, par), hi, hpar⟩ :: (done ++ qs)) = (i, par) :: cM (done ++ qs) from rfl, uY, hD.out]
     exact (List.prefix_cons_inj _).2 (AV _ _ HC.out YT)
    ·obtain ⟨xs, hxs, hJ3, hK3⟩ : ∃ xs, cM xs = dR F rk c (some i) ∧ J (pre ++ [⟨(i, par), hi, hpar⟩] ++ done ++ xs) W3 ∧ KN T wr W3 := by
      rcases hq.out with ⟨_, h2⟩ | ⟨h1, _⟩
      ·exact h2
      ·cases h1
     have HJ3 : Hid (J (pre ++ [⟨(i, par), hi, hpar⟩] ++ (done ++ xs)) W3) := by unfold Hid; rw [← List.append_assoc]; exact hJ3
     have HD3 : Hid (cM (done ++ xs) = ((F.kids i).take (k + 1)).flatMap fun c => dR F rk c (some i)) := by unfold Hid; rw [uY, hD.out, hxs, EE _ _ HC.out]
     have HK3 : Hid (KN T W W3) := hKr.out.trans hK3
     clear hq hxs hJ3 hK3
     gi_wp2
     go_roundw
     case rel => exact ⟨k + 1, done ++ xs, by omega, by go_num, HD3, HJ3, HK3⟩
     case measure => simp [intOf]; omega
   ·gi_wp2
    go_ret
    obtain rfl : k = (F.kids i).length := by omega
    refine .inl ⟨rfl, ⟨(i, par), hi, hpar⟩ :: done, ?_, by simpa using hJr.out, hKr.out⟩
    rw [gD Hr.out hi, show cM (⟨(i, par), hi, hpar⟩ :: done) = (i, par) :: cM done from rfl, hD.out, List.take_length]
theorem Wa (hwf : Wf F n rk) (hlen : ∀ i, i < n → (F.kids i).length ≤ 1000) (hA : ∀ i, i < n → T (A i)) (hk : ∀ i b, i < n → (kv i).ownBlock = some b → T b) (l Bq Be N : Nat) (J Jx : List (l6 n) → World → Prop)
  (hY : ∀ m pre x W, J pre W → pre.length < N → YieldAt Fence.wide m Tryz.prog l (Ds A x) W fun e W' => (e = .returned (.bool true) ∧ J (pre ++ [x]) W' ∧ KN T W W') ∨ (e = .returned (.bool false) ∧ Jx (pre ++ [x]) W')) :
  ∀ (d i : Nat), i < n → rk i ≤ d → Hq n base A kv F rk T l Bq Be N J Jx i := by
 intro d
 induction d with
 | zero => exact fun i hi zW => EF hwf hlen hA hk l Bq Be N J Jx hY hi fun c hc => absurd (hwf.kid i hi c hc).2 (by omega)
 | succ d ih => exact fun i hi zW => EF hwf hlen hA hk l Bq Be N J Jx hY hi fun c hc => ih c (hwf.kid i hi c hc).1 (by have := (hwf.kid i hi c hc).2; omega)
theorem Hs {F : Fence} (hd : F.depth = none) (k : Nat) : F.room k := fun d h => by rw [hd] at h; cases h
theorem YieldAt.Sj {F : Fence} (hd : F.depth = none) {m : Nat} (m' : Nat) {P : Program} {l : Nat} {args : Array Value} {W : World} {R : Ending → World → Prop} (h : YieldAt F m P l args W R) : YieldAt F m' P l args W R := by
 obtain ⟨fn, tmps, assign, body, hy, hR⟩ := h
 exact ⟨fn, tmps, assign, body, hy, hR.1, fun c cs _ => hR.2 c cs (Hs hd _)⟩
set_option maxHeartbeats 1000000 in
theorem Pm (hwf : Wf F n rk) (hlen : ∀ i, i < n → (F.kids i).length ≤ 1000) (hA : ∀ i, i < n → T (A i)) (hk : ∀ i b, i < n → (kv i).ownBlock = some b → T b) (m l Bx i : Nat) (hi : i < n) (J Jx : List (l6 n) → World → Prop)
  (hY : ∀ pre x W, J pre W → pre.length < (dR F rk i none).length → YieldAt Fence.wide (m - 1) Tryz.prog l (Ds A x) W fun e W' => (e = .returned (.bool true) ∧ J (pre ++ [x]) W' ∧ KN T W W') ∨ (e = .returned (.bool false) ∧ Jx (pre ++ [x]) W'))
  (W : World) (Oz : AbidesFrom W.heap.size J) (hF : aS base n A kv F W) (hx : W.cell? ⟨Bx, 0, none⟩ = some (.pointer (some ⟨A i, 0, none⟩))) (hJ : J [] W) :
  CallsIn Fence.wide m Tryz.prog 269 #[.func (.yield l) #[] #[], .pointer (some ⟨Bx, 0, none⟩)] W fun e W' => (∃ v, e = .returned v) ∧
   ((∃ xs, cM xs = dR F rk i none ∧ J xs W') ∨ (∃ q, cM q <+: dR F rk i none ∧ Jx q W')) := by
 have aK : Up W ((W.alloc (.cells #[.func (.yield l) #[] #[]] 266)).alloc (.cells #[.nilFunc] 266)) := (Up.alloc _ _).trans (Up.alloc _ _)
 have hnew := blk_alloc_new (W.alloc (.cells #[.func (.yield l) #[] #[]] 266)) (.cells #[.nilFunc] 266)
 rw [World.size_alloc] at hnew
 have qX : ((W.alloc (.cells #[.func (.yield l) #[] #[]] 266)).alloc (.cells #[.nilFunc] 266)).heap[W.heap.size]? = some (.cells #[.func (.yield l) #[] #[]] 266 (0, 0)) := by
  rw [blk_alloc_lt _ _ _ (by simp)]; exact blk_alloc_new _ _
 have hxc := aK.cell hx
 generalize hW2 : (W.alloc (.cells #[.func (.yield l) #[] #[]] 266)).alloc (.cells #[.nilFunc] 266) = W2 at *
 have cD : W2.cell? ⟨W.heap.size + 1, 0, none⟩ = some .nilFunc := by simp [World.cell?, hnew]
 have hfn : W2.frozen? ⟨W.heap.size + 1, 0, none⟩ = false := by simp [World.frozen?, hnew]
 have cF : Up W (W2.setCell ⟨W.heap.size + 1, 0, none⟩ (.func (.func 270) #[] #[.pointer (some ⟨W.heap.size, 0, none⟩), .pointer (some ⟨W.heap.size + 1, 0, none⟩)])) := Below.setCell aK (p := ⟨W.heap.size + 1, 0, none⟩) (Nat.le_succ _) _
 have hJ2 := Oz [] W _ none hJ (⟨cF.os, cF.tape, cF.output, cF.size, fun j hj _ => Below.block cF j hj⟩ : W.grownBy _ none) (fun r e => by cases e)
 have hq : nZ (W2.setCell ⟨W.heap.size + 1, 0, none⟩ (.func (.func 270) #[] #[.pointer (some ⟨W.heap.size, 0, none⟩), .pointer (some ⟨W.heap.size + 1, 0, none⟩)])) W.heap.size (.func (.yield l) #[] #[]) := by
  unfold nZ; rw [blk_setCell_other _ _ _ _ (by show W.heap.size ≠ W.heap.size + 1; omega)]; exact qX
 have he : nZ (W2.setCell ⟨W.heap.size + 1, 0, none⟩ (.func (.func 270) #[] #[.pointer (some ⟨W.heap.size, 0, none⟩), .pointer (some ⟨W.heap.size + 1, 0, none⟩)])) (W.heap.size + 1) (.func (.func 270) #[] #[.pointer (some ⟨W.heap.size, 0, none⟩), .pointer (some ⟨W.heap.size + 1, 0, none⟩)]) := by
  unfold nZ
  simp [World.setCell, Array.getElem?_modify, hnew]
 have wE := Wa (base := base) (A := A) (kv := kv) (T := T) hwf hlen hA hk l W.heap.size (W.heap.size + 1) (dR F rk i none).length J Jx (fun m' pre x W' h1 h2 => YieldAt.Sj rfl m' (hY pre x W' h1 h2)) (rk i) i hi (Nat.le_refl _) none (m - 1) [] _ (fun p hp => by cases hp) (hF.up cF) hq he hJ2 (by simp)
 simp only [optr] at wE
 have hec := he.cell
 have hxc3 : (W2.setCell ⟨W.heap.size + 1, 0, none⟩ (.func (.func 270) #[] #[.pointer (some ⟨W.heap.size, 0, none⟩), .pointer (some ⟨W.heap.size + 1, 0, none⟩)])).cell? ⟨Bx, 0, none⟩ = some (.pointer (some ⟨A i, 0, none⟩)) := cF.cell hx
 have dO := aa wE
 clear wE hJ2 hq he Oz hF hJ cF aK hY hnew qX
 refine callsIn_of_wp Tryz.func269 rfl trivial ?_ rfl
 simp only [Tryz.ntmps269, List.size_toArray, List.length_cons, List.length_nil, Nat.reduceAdd, Nat.reduceSub, Array.replicate_succ, Array.replicate_zero, List.push_toArray, List.append_toArray, List.nil_append, List.cons_append]
 gi_wp2
 refine ⟨trivial, fun h => (by cases h), ?_⟩
 refine dO.out.mono ?_
 rintro e W3 eR
 obtain ⟨bb, rfl, hq⟩ := wD eR
 gi_wp2
 go_end0
 refine ⟨⟨_, rfl⟩, ?_⟩
 rcases hq.out with ⟨_, xs, h1, h2, _⟩ | ⟨_, q, h1, h2⟩
 ·exact .inl ⟨xs, h1, by simpa using h2⟩
 ·exact .inr ⟨q, h1, by simpa using h2⟩
set_option maxHeartbeats 400000 in
theorem Wb (w : World) (p : Option Addr) : Calls Tryz.prog 224 #[.pointer p] w fun e w' => e = .returned (.func (.func 269) #[] #[.pointer (some ⟨w.heap.size, 0, none⟩)]) ∧ w' = w.alloc (.cells #[.pointer p] 124) := by
 go_enter Tryz.func224, Tryz.ntmps224
 go_wp2_with fail
 go_ret
 exact ⟨rfl, rfl⟩
theorem KB (hwf : Wf F n rk) (hlen : ∀ i, i < n → (F.kids i).length ≤ 1000) (hA : ∀ i, i < n → T (A i)) (hk : ∀ i b, i < n → (kv i).ownBlock = some b → T b) (m Bx i : Nat) (hi : i < n) (w : World) (hT : ∀ b, T b → b < w.heap.size)
  (hBx : T Bx) (hF : aS base n A kv F w) (hx : w.cell? ⟨Bx, 0, none⟩ = some (.pointer (some ⟨A i, 0, none⟩))) :
  SeqStopsK Fence.wide m Tryz.prog 269 #[.pointer (some ⟨Bx, 0, none⟩)] (fun x : l6 n => Ds A x) (KN T)
   (fun xs => cM xs = dR F rk i none) (fun pre => cM pre <+: dR F rk i none) (dR F rk i none).length w := fun l J Jx W hW hJ _ hY h0 =>
 Pm hwf hlen hA hk m l Bx i hi J Jx hY W hJ (hF.same (fun j hj => hW.block _ (hT _ (hA j hj))) (fun j b hj hb => hW.block b (hT b (hk j b hj hb)))) ((hW.cell (p := ⟨Bx, 0, none⟩) (hT _ hBx)).trans hx) h0
end
end
section
open Go.RowKit Go.Shelf Go.Deep
end
section
open Go.RowKit Go.Deep
end
end Go.Proofs.YteegefnjnikngaaGreat
