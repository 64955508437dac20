/- The contract of phylotree.below: an iterator over the nodes below a node, depth first, with their parents. A region that draws its order, inside a fence and within a round: S is to hold behind an operation only where another one is still to come. -/
import Derived.Test.YtcbmbhghmfehpaaGreatQ2
import Derived.Test.YtcbmbhghmfehpaaGreatQ7
import Derived.RangeFuncKeeps
import Derived.Laws.EntriesVeiled
import Derived.Test.YtcbmbhghmfehpaaGreatQ5
import Derived.OrdersIn
namespace Go.Proofs.YtcbmbhghmfehpaaGreat
open Go.RowKit Go.Shelf Go.Deep
attribute [local go_sem] Oper.semAt_some
def seqD (F : Frs) : Nat → Nat → Option Nat → List (Nat × Option Nat)
  | 0, i, p => [(i, p)]
  | d + 1, i, p => (i, p) :: (F.kids i).flatMap fun k => seqD F d k (some i)
def seqF (F : Frs) (rk : Nat → Nat) (i : Nat) (p : Option Nat) : List (Nat × Option Nat) := seqD F (rk i) i p
theorem flatMap_congr' {α β : Type} {f g : α → List β} : ∀ {l : List α}, (∀ x ∈ l, f x = g x) → l.flatMap f = l.flatMap g
  | [], _ => rfl
  | x :: l, h => by rw [List.flatMap_cons, List.flatMap_cons, h x (by simp), flatMap_congr' fun y hy => h y (by simp [hy])]
theorem seqD_fuel {F : Frs} {n : Nat} {rk : Nat → Nat} (h : Wf F n rk) : ∀ {d e i : Nat} {p : Option Nat}, i < n → rk i ≤ d → rk i ≤ e → seqD F d i p = seqD F e i p := by
  intro d
  induction d with
  | zero =>
    intro e i p hi hd he
    have hk : F.kids i = [] := by
      cases hk : F.kids i with
      | nil => rfl
      | cons k l => have := (h.kid i hi k (by rw [hk]; simp)).2; omega
    cases e with
    | zero => rfl
    | succ e => simp [seqD, hk]
  | succ d ih =>
    intro e i p hi hd he
    cases e with
    | zero =>
      have hk : F.kids i = [] := by
        cases hk : F.kids i with
        | nil => rfl
        | cons k l => have := (h.kid i hi k (by rw [hk]; simp)).2; omega
      simp [seqD, hk]
    | succ e =>
      simp only [seqD]
      congr 1
      exact flatMap_congr' fun k hk => by
        have := h.kid i hi k hk
        exact ih this.1 (by omega) (by omega)
theorem seqF_eq {F : Frs} {n : Nat} {rk : Nat → Nat} (h : Wf F n rk) {i : Nat} (hi : i < n) (p : Option Nat) : seqF F rk i p = (i, p) :: (F.kids i).flatMap fun k => seqF F rk k (some i) := by
  have h1 : seqF F rk i p = seqD F (rk i + 1) i p := seqD_fuel h hi (Nat.le_refl _) (Nat.le_succ _)
  rw [h1]
  simp only [seqD]
  congr 1
  exact flatMap_congr' fun k hk => by
    have := h.kid i hi k hk
    exact seqD_fuel h this.1 (by omega) (Nat.le_refl _)
abbrev NdP (n : Nat) := { x : Nat × Option Nat // x.1 < n ∧ ∀ p, x.2 = some p → p < n }
def ndv {n : Nat} (l : List (NdP n)) : List (Nat × Option Nat) := l.map Subtype.val
theorem ndv_app {n : Nat} (l m : List (NdP n)) : ndv (l ++ m) = ndv l ++ ndv m := by simp [ndv]
def optr (A : Nat → Nat) : Option Nat → Value
  | none => .pointer none
  | some p => .pointer (some ⟨A p, 0, none⟩)
def encN (A : Nat → Nat) {n : Nat} (x : NdP n) : Array Value := #[.pointer (some ⟨A x.1.1, 0, none⟩), optr A x.1.2]
def KN (T : Nat → Prop) (w w' : World) : Prop := KS T w w' ∧ ∀ (b : Nat) (c : Array Value) (z : Nat × Nat), w.heap[b]? = some (Obj.cells c 254 z) → w'.heap[b]? = w.heap[b]?
theorem KN.trans {T : Nat → Prop} {a b c : World} (h : KN T a b) (k : KN T b c) : KN T a c := ⟨h.1.trans k.1, fun i x z hi => (k.2 i x z ((h.2 i x z hi).trans hi)).trans (h.2 i x z hi)⟩
def FnBox (w : World) (b : Nat) (v : Value) : Prop := w.heap[b]? = some (Obj.cells #[v] 254 (0, 0))
theorem FnBox.keep {T : Nat → Prop} {w w' : World} {b : Nat} {v : Value} (h : FnBox w b v) (k : KN T w w') : FnBox w' b v := (k.2 b _ _ h).trans h
theorem FnBox.cell {w : World} {b : Nat} {v : Value} (h : FnBox w b v) : w.cell? ⟨b, 0, none⟩ = some v := by
  have h : w.heap[b]? = _ := h
  simp [World.cell?, h]
theorem FAt.keepKN {base n : Nat} {A : Nat → Nat} {kv : Nat → Value} {F : Frs} {T : Nat → Prop} {w w' : World} (h : FAt base n A kv F w) (k : KN T w w') (hA : ∀ i, i < n → T (A i)) (hk : ∀ i b, i < n → (kv i).ownBlock = some b → T b) : FAt base n A kv F w' :=
  h.same (fun i hi => k.1 _ (hA i hi)) (fun i b hi hb => k.1 b (hk i b hi hb))
section
variable {n base : Nat} {A : Nat → Nat} {kv : Nat → Value} {F : Frs} {rk : Nat → Nat} {T : Nat → Prop}
def EachPost (T : Nat → Prop) (J Jx : List (NdP n) → World → Prop) (pre : List (NdP n)) (full : List (Nat × Option Nat)) (W : World) (e : Ending) (W' : World) : Prop :=
  (e = .returned (.bool true) ∧ ∃ xs, ndv xs = full ∧ J (pre ++ xs) W' ∧ KN T W W') ∨ (e = .returned (.bool false) ∧ ∃ q, ndv q <+: full ∧ Jx (pre ++ q) W')
theorem take_flat_len {α β : Type} (f : α → List β) (l : List α) {k : Nat} {c : α} (h : l[k]? = some c) : ((l.take k).flatMap f).length + (f c).length ≤ (l.flatMap f).length := by
  have h1 : l = l.take (k + 1) ++ l.drop (k + 1) := (List.take_append_drop _ _).symm
  have h2 : (l.flatMap f).length = ((l.take (k + 1)).flatMap f).length + ((l.drop (k + 1)).flatMap f).length := by
    conv => lhs; rw [h1]
    rw [List.flatMap_append, List.length_append]
  rw [h2, List.take_add_one, h, List.flatMap_append, List.length_append]
  simp
theorem take_flat {α β : Type} (f : α → List β) (l : List α) {k : Nat} {c : α} (h : l[k]? = some c) : (l.take (k + 1)).flatMap f = (l.take k).flatMap f ++ f c := by
  rw [List.take_add_one, h, List.flatMap_append]; simp
theorem take_flat_prefix {α β : Type} (f : α → List β) (l : List α) {k : Nat} {c : α} (h : l[k]? = some c) {q : List β} (hq : q <+: f c) : (l.take k).flatMap f ++ q <+: l.flatMap f := by
  have h1 : l = l.take (k + 1) ++ l.drop (k + 1) := (List.take_append_drop _ _).symm
  have h2 : l.flatMap f = (l.take (k + 1)).flatMap f ++ (l.drop (k + 1)).flatMap f := by
    conv => lhs; rw [h1]
    rw [List.flatMap_append]
  rw [h2, take_flat f l h, List.append_assoc]
  exact (List.prefix_append_right_inj _).2 (hq.trans (List.prefix_append _ _))
theorem round_post {e : Ending} {X Y : Prop} (h : (e = .returned (.bool true) ∧ X) ∨ (e = .returned (.bool false) ∧ Y)) : ∃ bb, e = .returned (.bool bb) ∧ Hid ((bb = true ∧ X) ∨ (bb = false ∧ Y)) := by
  rcases h with ⟨h1, h2⟩ | ⟨h1, h2⟩
  · exact ⟨true, h1, .inl ⟨rfl, h2⟩⟩
  · exact ⟨false, h1, .inr ⟨rfl, h2⟩⟩
def EachAt (n base : Nat) (A : Nat → Nat) (kv : Nat → Value) (F : Frs) (rk : Nat → Nat) (T : Nat → Prop) (l Bq Be N : Nat) (J Jx : List (NdP n) → World → Prop) (i : Nat) : Prop :=
  ∀ (par : Option Nat) (m : Nat) (pre : List (NdP n)) (W : World), (∀ p, par = some p → p < n) → FAt base n A kv F W → FnBox W Bq (.func (.yield l) #[] #[]) → FnBox W Be (.func (.func 237) #[] #[.pointer (some ⟨Bq, 0, none⟩), .pointer (some ⟨Be, 0, none⟩)]) →
      J pre W → pre.length + (seqF F rk i par).length ≤ N →
      CallsIn Fence.wide m Tryz.prog 237 #[.pointer (some ⟨A i, 0, none⟩), optr A par, .pointer (some ⟨Bq, 0, none⟩), .pointer (some ⟨Be, 0, none⟩)] W (EachPost T J Jx pre (seqF F rk i par) W)
set_option maxRecDepth 100000 in
set_option maxHeartbeats 2000000 in
theorem each_step (hwf : Wf F n rk) (hlen : ∀ i, i < n → (F.kids i).length ≤ 1000) (hA : ∀ i, i < n → T (A i)) (hk : ∀ i b, i < n → (kv i).ownBlock = some b → T b) (l Bq Be N : Nat) (J Jx : List (NdP n) → World → Prop)
    (hY : ∀ m pre x W, J pre W → pre.length < N → YieldAt Fence.wide m Tryz.prog l (encN A x) W fun e W' => (e = .returned (.bool true) ∧ J (pre ++ [x]) W' ∧ KN T W W') ∨ (e = .returned (.bool false) ∧ Jx (pre ++ [x]) W'))
    {i : Nat} (hi : i < n) (ih : ∀ c ∈ F.kids i, EachAt n base A kv F rk T l Bq Be N J Jx c) : EachAt n base A kv F rk T l Bq Be N J Jx i := by
  intro par m pre W hpar hF hq he hJ hN
  obtain ⟨fn, tmps, assign, body, hy, hR⟩ := hY (m - 1) pre ⟨(i, par), hi, hpar⟩ W hJ (by rw [seqF_eq hwf hi] at hN; simp at hN; omega)
  simp only [encN] at hy
  have hqc := hq.cell
  have HQ := Lib.hid hq
  have HE := Lib.hid he
  have HF := Lib.hid hF
  have HN := Lib.hid hN
  have HIH := Lib.hid ih
  have HWF := Lib.hid hwf
  have hll := hlen i hi
  have HKEEP : Hid (∀ W', KN T W W' → FAt base n A kv F W') := fun W' k => hF.keepKN k hA hk
  clear hJ hq he hF hN ih hwf hlen hA hk
  refine callsIn_of_wp Tryz.func237 rfl trivial ?_ rfl
  simp only [Tryz.ntmps237, List.size_toArray, List.length_cons, List.length_nil, Nat.reduceAdd, Nat.reduceSub, Array.replicate_succ, Array.replicate_zero, List.push_toArray, List.append_toArray, List.nil_append, List.cons_append]
  gi_wp2
  refine ⟨fun h => (by cases h), ?_⟩
  refine hR.mono ?_
  rintro e W1 hor
  obtain ⟨bb, rfl, hq⟩ := round_post hor
  clear hor hR
  cases bb
  · gi_wp2
    go_ret
    have h2 : Jx (pre ++ [⟨(i, par), hi, hpar⟩]) W1 := by
      rcases hq.out with ⟨h1, _⟩ | ⟨_, h2⟩
      · cases h1
      · exact h2
    exact .inr ⟨rfl, [⟨(i, par), hi, hpar⟩], ⟨_, by rw [seqF_eq HWF.out hi]; rfl⟩, h2⟩
  · have hq2 : J (pre ++ [⟨(i, par), hi, hpar⟩]) W1 ∧ KN T W W1 := by
      rcases hq.out with ⟨_, h2⟩ | ⟨h1, _⟩
      · exact h2
      · cases h1
    obtain ⟨hJ1, hk1⟩ := hq2
    have hF1 := HKEEP.out W1 hk1
    have hown := hF1.own i hi
    obtain ⟨q, cap, hv, hqq⟩ := hown.form (n := (F.kids i).length) (by simp)
    have hkc := hF1.kidv hi
    rw [hv] at hkc
    have HV := Lib.hid hv
    have HQQ := Lib.hid hqq
    have HOWN : Hid ((F.kids i).length = 0 ∨ ∃ g, q = some ⟨g, 0, none⟩) := by
      rcases hqq with rfl | h
      · obtain ⟨_, h | ⟨g, _, _, h, _⟩⟩ := hown
        · left; have := h.2; rw [List.length_map] at this; exact this
        · rw [hv] at h; cases h
      · exact .inr h
    have HJ1 := Lib.hid hJ1
    have HK1 := Lib.hid hk1
    clear hqc hq hF1 hown hv hqq hJ1 hk1
    gi_wp2
    gi_loopw [19] (fun i' wr => ∃ (k : Nat) (done : List (NdP n)), k ≤ (F.kids i).length ∧ i' = .int .i64 k ∧ Hid (ndv done = ((F.kids i).take k).flatMap fun c => seqF F rk c (some i)) ∧ Hid (J (pre ++ [⟨(i, par), hi, hpar⟩] ++ done) wr) ∧ Hid (KN T W wr)) (fun i' _ => (F.kids i).length - (intOf i').toNat)
    case atStart => exact ⟨0, [], Nat.zero_le _, rfl, rfl, by unfold Hid; rw [List.append_nil]; exact HJ1.out, HK1⟩
    case round =>
      obtain ⟨k, done, hk, rfl, hD, hJr, hKr⟩ := hrel
      by_cases hlt : k < (F.kids i).length
      · obtain ⟨g, rfl⟩ : ∃ g, q = some ⟨g, 0, none⟩ := by
          rcases HOWN.out with h | h
          · omega
          · exact h
        have hc : (F.kids i)[k]? = some (F.kids i)[k] := List.getElem?_eq_getElem hlt
        have hFr := HKEEP.out wr hKr.out
        have hrow := hFr.kcell (j := k) (c := (F.kids i)[k]) hi HV.out hc
        have heb := (HE.out.keep hKr.out).cell
        have hdl : done.length = (((F.kids i).take k).flatMap fun c => seqF F rk c (some i)).length := by rw [← hD.out]; simp [ndv]
        have hCALL := HIH.out (F.kids i)[k] (List.getElem_mem hlt) (some i) (m - 1) (pre ++ [⟨(i, par), hi, hpar⟩] ++ done) wr (fun p hp => by cases hp; exact hi) hFr (HQ.out.keep hKr.out) (HE.out.keep hKr.out) hJr.out (by
          have h1 := take_flat_len (fun c => seqF F rk c (some i)) (F.kids i) hc
          have h2 := HN.out
          rw [seqF_eq HWF.out hi] at h2
          simp only [List.length_append, List.length_cons, List.length_nil] at h2 ⊢
          omega)
        simp only [optr] at hCALL
        have HCALL := Lib.hid hCALL
        have HC := Lib.hid hc
        have hcn : Hid ((F.kids i)[k] < n) := (HWF.out.kid i hi _ (List.getElem_mem hlt)).1
        clear hc hFr hCALL hdl
        generalize (F.kids i)[k] = c at *
        gi_wp2
        refine ⟨trivial, fun h => (by cases h), ?_⟩
        refine HCALL.out.mono ?_
        rintro e W3 hor
        obtain ⟨bb, rfl, hq⟩ := round_post hor
        clear hor HCALL
        cases bb
        · gi_wp2
          go_ret
          obtain ⟨qs, hqs, hx⟩ : ∃ qs, ndv qs <+: seqF F rk c (some i) ∧ Jx (pre ++ [⟨(i, par), hi, hpar⟩] ++ done ++ qs) W3 := by
            rcases hq.out with ⟨h1, _⟩ | ⟨_, h2⟩
            · cases h1
            · exact h2
          refine .inr ⟨rfl, ⟨(i, par), hi, hpar⟩ :: (done ++ qs), ?_, by simpa using hx⟩
          rw [seqF_eq HWF.out hi, show ndv (⟨(i, par), hi, hpar⟩ :: (done ++ qs)) = (i, par) :: ndv (done ++ qs) from rfl, ndv_app, hD.out]
          exact (List.prefix_cons_inj _).2 (take_flat_prefix _ _ HC.out hqs)
        · obtain ⟨xs, hxs, hJ3, hK3⟩ : ∃ xs, ndv xs = seqF F rk c (some i) ∧ J (pre ++ [⟨(i, par), hi, hpar⟩] ++ done ++ xs) W3 ∧ KN T wr W3 := by
            rcases hq.out with ⟨_, h2⟩ | ⟨h1, _⟩
            · exact h2
            · cases h1
          have HJ3 : Hid (J (pre ++ [⟨(i, par), hi, hpar⟩] ++ (done ++ xs)) W3) := by unfold Hid; rw [← List.append_assoc]; exact hJ3
          have HD3 : Hid (ndv (done ++ xs) = ((F.kids i).take (k + 1)).flatMap fun c => seqF F rk c (some i)) := by unfold Hid; rw [ndv_app, hD.out, hxs, take_flat _ _ HC.out]
          have HK3 : Hid (KN T W W3) := hKr.out.trans hK3
          clear hq hxs hJ3 hK3
          gi_wp2
          go_roundw
          case rel => exact ⟨k + 1, done ++ xs, by omega, by go_num, HD3, HJ3, HK3⟩
          case measure => simp [intOf]; omega
      · gi_wp2
        go_ret
        obtain rfl : k = (F.kids i).length := by omega
        refine .inl ⟨rfl, ⟨(i, par), hi, hpar⟩ :: done, ?_, by simpa using hJr.out, hKr.out⟩
        rw [seqF_eq HWF.out hi, show ndv (⟨(i, par), hi, hpar⟩ :: done) = (i, par) :: ndv done from rfl, hD.out, List.take_length]
theorem each_in (hwf : Wf F n rk) (hlen : ∀ i, i < n → (F.kids i).length ≤ 1000) (hA : ∀ i, i < n → T (A i)) (hk : ∀ i b, i < n → (kv i).ownBlock = some b → T b) (l Bq Be N : Nat) (J Jx : List (NdP n) → World → Prop)
    (hY : ∀ m pre x W, J pre W → pre.length < N → YieldAt Fence.wide m Tryz.prog l (encN A x) W fun e W' => (e = .returned (.bool true) ∧ J (pre ++ [x]) W' ∧ KN T W W') ∨ (e = .returned (.bool false) ∧ Jx (pre ++ [x]) W')) :
    ∀ (d i : Nat), i < n → rk i ≤ d → EachAt n base A kv F rk T l Bq Be N J Jx i := by
  intro d
  induction d with
  | zero => exact fun i hi hrk => each_step hwf hlen hA hk l Bq Be N J Jx hY hi fun c hc => absurd (hwf.kid i hi c hc).2 (by omega)
  | succ d ih => exact fun i hi hrk => each_step hwf hlen hA hk l Bq Be N J Jx hY hi fun c hc => ih c (hwf.kid i hi c hc).1 (by have := (hwf.kid i hi c hc).2; omega)
theorem room_of_none {F : Fence} (hd : F.depth = none) (k : Nat) : F.room k := fun d h => by rw [hd] at h; cases h
theorem YieldAt.anyDepth {F : Fence} (hd : F.depth = none) {m : Nat} (m' : Nat) {P : Program} {l : Nat} {args : Array Value} {W : World} {R : Ending → World → Prop} (h : YieldAt F m P l args W R) : YieldAt F m' P l args W R := by
  obtain ⟨fn, tmps, assign, body, hy, hR⟩ := h
  exact ⟨fn, tmps, assign, body, hy, hR.1, fun c cs _ => hR.2 c cs (room_of_none hd _)⟩
set_option maxHeartbeats 1000000 in
theorem below1_in (hwf : Wf F n rk) (hlen : ∀ i, i < n → (F.kids i).length ≤ 1000) (hA : ∀ i, i < n → T (A i)) (hk : ∀ i b, i < n → (kv i).ownBlock = some b → T b) (m l Bx i : Nat) (hi : i < n) (J Jx : List (NdP n) → World → Prop)
    (hY : ∀ pre x W, J pre W → pre.length < (seqF F rk i none).length → YieldAt Fence.wide (m - 1) Tryz.prog l (encN A x) W fun e W' => (e = .returned (.bool true) ∧ J (pre ++ [x]) W' ∧ KN T W W') ∨ (e = .returned (.bool false) ∧ Jx (pre ++ [x]) W'))
    (W : World) (hJa : AbidesFrom W.heap.size J) (hF : FAt base n A kv F W) (hx : W.cell? ⟨Bx, 0, none⟩ = some (.pointer (some ⟨A i, 0, none⟩))) (hJ : J [] W) :
    CallsIn Fence.wide m Tryz.prog 236 #[.func (.yield l) #[] #[], .pointer (some ⟨Bx, 0, none⟩)] W fun e W' => (∃ v, e = .returned v) ∧
      ((∃ xs, ndv xs = seqF F rk i none ∧ J xs W') ∨ (∃ q, ndv q <+: seqF F rk i none ∧ Jx q W')) := by
  have hu2 : Up W ((W.alloc (.cells #[.func (.yield l) #[] #[]] 254)).alloc (.cells #[.nilFunc] 254)) := (Up.alloc _ _).trans (Up.alloc _ _)
  have hnew := blk_alloc_new (W.alloc (.cells #[.func (.yield l) #[] #[]] 254)) (.cells #[.nilFunc] 254)
  rw [World.size_alloc] at hnew
  have hq2 : ((W.alloc (.cells #[.func (.yield l) #[] #[]] 254)).alloc (.cells #[.nilFunc] 254)).heap[W.heap.size]? = some (.cells #[.func (.yield l) #[] #[]] 254 (0, 0)) := by
    rw [blk_alloc_lt _ _ _ (by simp)]; exact blk_alloc_new _ _
  have hxc := hu2.cell hx
  generalize hW2 : (W.alloc (.cells #[.func (.yield l) #[] #[]] 254)).alloc (.cells #[.nilFunc] 254) = W2 at *
  have hcn : W2.cell? ⟨W.heap.size + 1, 0, none⟩ = some .nilFunc := by simp [World.cell?, hnew]
  have hfn : W2.frozen? ⟨W.heap.size + 1, 0, none⟩ = false := by simp [World.frozen?, hnew]
  have hu3 : Up W (W2.setCell ⟨W.heap.size + 1, 0, none⟩ (.func (.func 237) #[] #[.pointer (some ⟨W.heap.size, 0, none⟩), .pointer (some ⟨W.heap.size + 1, 0, none⟩)])) := Below.setCell hu2 (p := ⟨W.heap.size + 1, 0, none⟩) (Nat.le_succ _) _
  have hJ2 := hJa [] W _ none hJ (⟨hu3.os, hu3.tape, hu3.output, hu3.size, fun j hj _ => Below.block hu3 j hj⟩ : W.grownBy _ none) (fun r e => by cases e)
  have hq : FnBox (W2.setCell ⟨W.heap.size + 1, 0, none⟩ (.func (.func 237) #[] #[.pointer (some ⟨W.heap.size, 0, none⟩), .pointer (some ⟨W.heap.size + 1, 0, none⟩)])) W.heap.size (.func (.yield l) #[] #[]) := by
    unfold FnBox; rw [blk_setCell_other _ _ _ _ (by show W.heap.size ≠ W.heap.size + 1; omega)]; exact hq2
  have he : FnBox (W2.setCell ⟨W.heap.size + 1, 0, none⟩ (.func (.func 237) #[] #[.pointer (some ⟨W.heap.size, 0, none⟩), .pointer (some ⟨W.heap.size + 1, 0, none⟩)])) (W.heap.size + 1) (.func (.func 237) #[] #[.pointer (some ⟨W.heap.size, 0, none⟩), .pointer (some ⟨W.heap.size + 1, 0, none⟩)]) := by
    unfold FnBox
    simp [World.setCell, Array.getElem?_modify, hnew]
  have hCALL := each_in (base := base) (A := A) (kv := kv) (T := T) hwf hlen hA hk l W.heap.size (W.heap.size + 1) (seqF F rk i none).length J Jx (fun m' pre x W' h1 h2 => YieldAt.anyDepth rfl m' (hY pre x W' h1 h2)) (rk i) i hi (Nat.le_refl _) none (m - 1) [] _ (fun p hp => by cases hp) (hF.up hu3) hq he hJ2 (by simp)
  simp only [optr] at hCALL
  have hec := he.cell
  have hxc3 : (W2.setCell ⟨W.heap.size + 1, 0, none⟩ (.func (.func 237) #[] #[.pointer (some ⟨W.heap.size, 0, none⟩), .pointer (some ⟨W.heap.size + 1, 0, none⟩)])).cell? ⟨Bx, 0, none⟩ = some (.pointer (some ⟨A i, 0, none⟩)) := hu3.cell hx
  have HCALL := Lib.hid hCALL
  clear hCALL hJ2 hq he hJa hF hJ hu3 hu2 hY hnew hq2
  refine callsIn_of_wp Tryz.func236 rfl trivial ?_ rfl
  simp only [Tryz.ntmps236, List.size_toArray, List.length_cons, List.length_nil, Nat.reduceAdd, Nat.reduceSub, Array.replicate_succ, Array.replicate_zero, List.push_toArray, List.append_toArray, List.nil_append, List.cons_append]
  gi_wp2
  refine ⟨trivial, fun h => (by cases h), ?_⟩
  refine HCALL.out.mono ?_
  rintro e W3 hor
  obtain ⟨bb, rfl, hq⟩ := round_post hor
  gi_wp2
  go_end0
  refine ⟨⟨_, rfl⟩, ?_⟩
  rcases hq.out with ⟨_, xs, h1, h2, _⟩ | ⟨_, q, h1, h2⟩
  · exact .inl ⟨xs, h1, by simpa using h2⟩
  · exact .inr ⟨q, h1, by simpa using h2⟩
set_option maxHeartbeats 400000 in
theorem below_t (w : World) (p : Option Addr) : Calls Tryz.prog 205 #[.pointer p] w fun e w' => e = .returned (.func (.func 236) #[] #[.pointer (some ⟨w.heap.size, 0, none⟩)]) ∧ w' = w.alloc (.cells #[.pointer p] 145) := by
  go_enter Tryz.func205, Tryz.ntmps205
  go_wp2_with fail
  go_ret
  exact ⟨rfl, rfl⟩
theorem below_stops (hwf : Wf F n rk) (hlen : ∀ i, i < n → (F.kids i).length ≤ 1000) (hA : ∀ i, i < n → T (A i)) (hk : ∀ i b, i < n → (kv i).ownBlock = some b → T b) (m Bx i : Nat) (hi : i < n) (w : World) (hT : ∀ b, T b → b < w.heap.size)
    (hBx : T Bx) (hF : FAt base n A kv F w) (hx : w.cell? ⟨Bx, 0, none⟩ = some (.pointer (some ⟨A i, 0, none⟩))) :
    SeqStopsK Fence.wide m Tryz.prog 236 #[.pointer (some ⟨Bx, 0, none⟩)] (fun x : NdP n => encN A x) (KN T)
      (fun xs => ndv xs = seqF F rk i none) (fun pre => ndv pre <+: seqF F rk i none) (seqF F rk i none).length w := fun l J Jx W hW hJ _ hY h0 =>
  below1_in hwf hlen hA hk m l Bx i hi J Jx hY W hJ (hF.same (fun j hj => hW.block _ (hT _ (hA j hj))) (fun j b hj hb => hW.block b (hT b (hk j b hj hb)))) ((hW.cell (p := ⟨Bx, 0, none⟩) (hT _ hBx)).trans hx) h0
end
end Go.Proofs.YtcbmbhghmfehpaaGreat
namespace Go.Proofs.YtcbmbhghmfehpaaGreat
open Go.RowKit Go.Deep
section
variable {F : Fence} {n : Nat} {P : Program} {ops : Array Oper} {Q : Exit → Act → World → Prop} {md : Region.Mode} {S : World → Prop} {t : Nat}
structure YR (P : Program) (ops : Array Oper) (S : World → Prop) (o : Oper) (v : Value) (a : Act) : Prop where
  want : Region.wanted o (yielded ops a.tmps) = true
  run : ∀ w, S w → (execOp a.eval o).run P w = .ok (.value v) w
  calm : ∀ w, o.about P w a.eval = none
def noDefer (ops : Array Oper) : Bool := ops.toList.all fun o => match o.op with | .defer _ => false | _ => true
theorem plainAt {ops : Array Oper} (h : noDefer ops = true) {i : Nat} {o : Oper} (hi : ops[i]? = some o) (r : Option Nat) (ρ : Operand → Value) : Oper.semAt r ρ o = execOp ρ o := by
  refine Oper.semAt_eq r ρ o fun c e => ?_
  have h1 := List.all_eq_true.1 h o (List.mem_of_getElem? (by simpa using hi))
  rw [e] at h1; cases h1
theorem YR.step {i : Nat} {o : Oper} {v : Value} {a : Act} (hd : noDefer ops = true) (hi : ops[i]? = some o) (hy : YR P ops S o v a) {K : Act → World → Prop} {w : World} (hS : S w) (h : K (a.put o.dst v) w) : wpOpIn F n P ops Q i K a w := by
  unfold wpOpIn
  simp only [hi]
  rw [if_pos hy.want]
  refine ⟨fun f hf => (by rw [hy.calm w] at hf; cases hf), ?_⟩
  rw [plainAt hd hi, hy.run w hS]
  exact h
theorem YR.swap {j : Nat} {oi oj : Oper} {v : Value} (hd : noDefer ops = true) (hj : ops[j]? = some oj) (hap : oi.apart ops oj = true) (hsi : ∀ cs b, oi.op ≠ .select cs b) (hsj : ∀ cs b, oj.op ≠ .select cs b)
    (hQ : ∀ c a w, Q (.panic c) (a.put oi.dst v) w → Q (.panic c) a w) {K : Act → World → Prop} {a : Act} {w : World} (hy : YR P ops S oi v a) (h : wpOpIn F n P ops Q j K (a.put oi.dst v) w) :
    wpOpIn F n P ops Q j (fun a' w' => YR P ops S oi v a' ∧ K (a'.put oi.dst v) w') a w := by
  obtain ⟨h1, h2, h3⟩ := Oper.apart_spec hap
  have stays : ∀ (b : Act) u, YR P ops S oi v b → YR P ops S oi v (b.put oj.dst u) := fun b u hb =>
    ⟨by rw [wanted_put oi b oj.dst u h3]; exact hb.want, fun w hS => by rw [execOp_put oi hsi b oj.dst u h3]; exact hb.run w hS, fun w => by rw [about_put oi w b oj.dst u h3]; exact hb.calm w⟩
  have comm : ∀ u, (a.put oi.dst v).put oj.dst u = (a.put oj.dst u).put oi.dst v := fun u => Act.put_comm a v u h2
  unfold wpOpIn at h ⊢
  simp only [hj] at h ⊢
  rw [wanted_put oj a oi.dst v h1] at h
  by_cases hw : Region.wanted oj (yielded ops a.tmps) = true
  · rw [if_pos hw] at h ⊢
    obtain ⟨hb, hu⟩ := h
    rw [about_put oj w a oi.dst v h1] at hb
    rw [plainAt hd hj, execOp_put oj hsj a oi.dst v h1] at hu
    refine ⟨hb, ?_⟩
    rw [plainAt hd hj]
    generalize (execOp a.eval oj).run P w = r at hu ⊢
    rcases r with ⟨x, w'⟩ | ⟨x, w'⟩
    · cases x with
      | value u => exact ⟨stays a u hy, by rw [← comm]; exact hu⟩
      | skip => exact ⟨stays a undef hy, by rw [← comm]; exact hu⟩
      | defer d =>
        refine ⟨stays { a with defers := d :: a.defers } undef ⟨hy.want, hy.run, hy.calm⟩, ?_⟩
        have e : (({ a with defers := d :: a.defers } : Act).put oj.dst undef).put oi.dst v = ({ (a.put oi.dst v) with defers := d :: (a.put oi.dst v).defers } : Act).put oj.dst undef := by
          rw [← Act.put_comm _ v undef h2, ← Act.put_defers]
        rw [e]; exact hu
      | enter f args =>
        refine ⟨hu.1, CallsIn.mono hu.2 fun e w'' he => ?_⟩
        cases e with
        | returned u => exact ⟨stays a u hy, by rw [← comm]; exact he⟩
        | panicked c => exact hQ _ _ _ he
        | outgrown => exact he
      | row row args => exact ⟨hu.1, RowsIn.mono hu.2 fun u w'' he => ⟨stays a u hy, by rw [← comm]; exact he⟩⟩
      | round l f tmps assign body =>
        refine ⟨hu.1, RoundIn.mono hu.2 fun e w'' he => ?_⟩
        cases e with
        | returned u => exact ⟨stays a u hy, by rw [← comm]; exact he⟩
        | panicked c => exact hQ _ _ _ he
        | outgrown => exact he
      | _ => exact hu
    · cases x with
      | panic u => exact hQ _ _ _ hu
      | _ => exact hu
  · rw [if_neg hw] at h ⊢
    exact ⟨by rw [about_put oj w a oi.dst v h1] at h; exact h.1, stays a undef hy, by rw [← comm]; exact h.2⟩
def anyR (F : Fence) (n : Nat) (P : Program) (md : Region.Mode) (ops : Array Oper) (Q : Exit → Act → World → Prop) (S : World → Prop) (t : Nat) : Nat → Array Bool → Act → World → Prop
  | 0, l, a, w => Region.ready md ops l = [] ∧ Q .normal a w
  | m + 1, l, a, w => (Region.ready md ops l = [] → Q .normal a w) ∧
    ∀ i ∈ Region.ready md ops l, wpOpIn F n P ops Q i (fun a' w' => (More t (l.setIfInBounds i true) → S w') ∧ anyR F n P md ops Q S t m (l.setIfInBounds i true) a' w') a w
theorem anyR.any : ∀ (m : Nat) (l : Array Bool) (a : Act) (w : World), anyR F n P md ops Q S t m l a w → wpAnyIn F n P md ops Q m l a w
  | 0, _, _, _, h => h
  | m + 1, _, _, _, h => ⟨h.1, fun i hi => wpOpIn_mono (fun a' w' h' => anyR.any m _ a' w' h'.2) (h.2 i hi)⟩
theorem anyR.first {i : Nat} {oi : Oper} {v : Value} (hd : noDefer ops = true) (hi : ops[i]? = some oi) (hsel : ∀ (j : Nat) (o : Oper) cs b, ops[j]? = some o → o.op ≠ .select cs b)
    (hQ : ∀ c a w, Q (.panic c) (a.put oi.dst v) w → Q (.panic c) a w) : ∀ (m : Nat) (l : Array Bool) (a : Act) (w : World),
      (∀ j oj, ops[j]? = some oj → j ≠ i → l.getD j true = false → (∀ e ∈ oj.after, Region.binds md e = true → e.on ≠ i) → oi.apart ops oj = true) →
      i ∈ Region.ready md ops l → waitsB t md ops l i = true → YR P ops S oi v a → S w → anyR F n P md ops Q S t m (l.setIfInBounds i true) (a.put oi.dst v) w → anyR F n P md ops Q S t (m + 1) l a w := by
  intro m
  induction m with
  | zero =>
    intro l a w _ hr _ hy hS H
    refine ⟨fun h => absurd hr (by rw [h]; simp), fun j hj => ?_⟩
    by_cases hji : j = i
    · subst hji; exact hy.step hd hi hS ⟨fun _ => hS, H⟩
    · exact absurd (ready_mono hj hji) (by rw [H.1]; simp)
  | succ m ih =>
    intro l a w hfree hr hwt hy hS H
    refine ⟨fun h => absurd hr (by rw [h]; simp), fun j hj => ?_⟩
    by_cases hji : j = i
    · subst hji; exact hy.step hd hi hS ⟨fun _ => hS, H⟩
    · have hun := (mem_ready.1 hr).1
      obtain ⟨hjun, oj, hoj, hall⟩ := mem_ready.1 hj
      have hnot : ∀ e ∈ oj.after, Region.binds md e = true → e.on ≠ i := fun e he hb heq => by
        have h1 := hall e he hb
        rw [heq] at h1
        by_cases h' : i < l.size
        · simp [h'] at hun h1; rw [hun] at h1; cases h1
        · simp [h'] at h1
      have h2 := hy.swap hd hoj (hfree j oj hoj hji hjun hnot) (fun cs b => hsel i oi cs b hi) (fun cs b => hsel j oj cs b hoj) hQ (H.2 j (ready_mono hj hji))
      have hir : i ∈ Region.ready md ops (l.setIfInBounds j true) := ready_mono hr (Ne.symm hji)
      refine wpOpIn_mono (fun a' w' h3 => ?_) h2
      have hfree' : ∀ k ok, ops[k]? = some ok → k ≠ i → (l.setIfInBounds j true).getD k true = false → (∀ e ∈ ok.after, Region.binds md e = true → e.on ≠ i) → oi.apart ops ok = true := fun k ok hk hki hku hno => by
        refine hfree k ok hk hki ?_ hno
        by_cases hjk : j = k
        · rw [← hjk]; exact hjun
        · rw [getD_set_ne true hjk] at hku; exact hku
      have hcm : (l.setIfInBounds i true).setIfInBounds j true = (l.setIfInBounds j true).setIfInBounds i true := Array.setIfInBounds_comm _ _ (Ne.symm hji)
      obtain ⟨k, hkl, hk⟩ := List.any_eq_true.1 hwt
      have hkl := List.mem_range.1 hkl
      simp only [Bool.and_eq_true, Bool.not_eq_true'] at hk
      obtain ⟨hk1, hk2⟩ := hk
      obtain ⟨ok', hko⟩ : ∃ o, ops[k]? = some o := by
        cases h : ops[k]? with
        | none => rw [h] at hk2; cases hk2
        | some o => exact ⟨o, rfl⟩
      rw [hko] at hk2
      obtain ⟨x, hx, e, hxe⟩ := (by simpa using Array.any_eq_true.1 hk2 : ∃ x, ∃ (hx : x < ok'.after.size), Region.binds md ok'.after[x] = true ∧ ok'.after[x].on = i)
      have hkj : k ≠ j := fun e2 => by
        subst e2
        rw [hko] at hoj
        injection hoj with hoj
        refine hnot ok'.after[x] ?_ e hxe
        rw [← hoj]; exact Array.getElem_mem hx
      have hki : k ≠ i := fun e2 => by
        subst e2
        obtain ⟨_, o3, ho3, h4⟩ := mem_ready.1 hr
        rw [hko] at ho3
        injection ho3 with ho3
        have h5 := h4 ok'.after[x] (by rw [← ho3]; exact Array.getElem_mem hx) e
        rw [hxe] at h5
        by_cases h' : k < l.size
        · simp [h'] at hun h5; rw [hun] at h5; cases h5
        · simp [h'] at h5
      have hS' : S w' := h3.2.1 ⟨k, hkl, by rw [getD_set_ne true (Ne.symm hkj), getD_set_ne true (Ne.symm hki)]; exact hk1⟩
      have hwt' : waitsB t md ops (l.setIfInBounds j true) i = true := List.any_eq_true.2 ⟨k, List.mem_range.2 hkl, by
        rw [getD_set_ne true (Ne.symm hkj), hk1, hko]; simpa using hk2⟩
      exact ⟨fun _ => hS', ih _ a' w' hfree' hir hwt' h3.1 hS' (by rw [← hcm]; exact h3.2.2)⟩
theorem anyR.free1 {i : Nat} {oi : Oper} {v : Value} (hti : t ≤ i) (hd : noDefer ops = true) (hi : ops[i]? = some oi) (hsel : ∀ (j : Nat) (o : Oper) cs b, ops[j]? = some o → o.op ≠ .select cs b)
    (hQ : ∀ c a w, Q (.panic c) (a.put oi.dst v) w → Q (.panic c) a w) : ∀ (m : Nat) (l : Array Bool) (a : Act) (w : World),
      (∀ j oj, ops[j]? = some oj → j ≠ i → l.getD j true = false → (∀ e ∈ oj.after, Region.binds md e = true → e.on ≠ i) → oi.apart ops oj = true) →
      i ∈ Region.ready md ops l → YR P ops (fun _ => True) oi v a → (More t (l.setIfInBounds i true) → S w) → anyR F n P md ops Q S t m (l.setIfInBounds i true) (a.put oi.dst v) w → anyR F n P md ops Q S t (m + 1) l a w := by
  intro m
  induction m with
  | zero =>
    intro l a w _ hr hy hS H
    refine ⟨fun h => absurd hr (by rw [h]; simp), fun j hj => ?_⟩
    by_cases hji : j = i
    · subst hji; exact hy.step hd hi trivial ⟨hS, H⟩
    · exact absurd (ready_mono hj hji) (by rw [H.1]; simp)
  | succ m ih =>
    intro l a w hfree hr hy hS H
    refine ⟨fun h => absurd hr (by rw [h]; simp), fun j hj => ?_⟩
    by_cases hji : j = i
    · subst hji; exact hy.step hd hi trivial ⟨hS, H⟩
    · have hun := (mem_ready.1 hr).1
      obtain ⟨hjun, oj, hoj, hall⟩ := mem_ready.1 hj
      have hnot : ∀ e ∈ oj.after, Region.binds md e = true → e.on ≠ i := fun e he hb heq => by
        have h1 := hall e he hb
        rw [heq] at h1
        by_cases h' : i < l.size
        · simp [h'] at hun h1; rw [hun] at h1; cases h1
        · simp [h'] at h1
      have h2 := hy.swap hd hoj (hfree j oj hoj hji hjun hnot) (fun cs b => hsel i oi cs b hi) (fun cs b => hsel j oj cs b hoj) hQ (H.2 j (ready_mono hj hji))
      have hir : i ∈ Region.ready md ops (l.setIfInBounds j true) := ready_mono hr (Ne.symm hji)
      refine wpOpIn_mono (fun a' w' h3 => ?_) h2
      have hfree' : ∀ k ok, ops[k]? = some ok → k ≠ i → (l.setIfInBounds j true).getD k true = false → (∀ e ∈ ok.after, Region.binds md e = true → e.on ≠ i) → oi.apart ops ok = true := fun k ok hk hki hku hno => by
        refine hfree k ok hk hki ?_ hno
        by_cases hjk : j = k
        · rw [← hjk]; exact hjun
        · rw [getD_set_ne true hjk] at hku; exact hku
      have hcm : (l.setIfInBounds i true).setIfInBounds j true = (l.setIfInBounds j true).setIfInBounds i true := Array.setIfInBounds_comm _ _ (Ne.symm hji)
      have hmo : More t (l.setIfInBounds j true) → S w' := fun ⟨k, hk, hkl⟩ => h3.2.1 ⟨k, hk, by
        rw [hcm, getD_set_ne true (by omega)]; exact hkl⟩
      refine ⟨hmo, ih _ a' w' hfree' hir h3.1 (fun ⟨k, hk, hkl⟩ => hmo ⟨k, hk, ?_⟩) (by rw [← hcm]; exact h3.2.2)⟩
      rw [getD_set_ne true (by omega)] at hkl; exact hkl
theorem anyR.free {i : Nat} {oi : Oper} {v : Value} {m : Nat} {l : Array Bool} {a : Act} {w : World} (hi0 : ops.toList[i]? = some oi)
    (hc : (decide (t ≤ i) && noDefer ops && Region.noSelect ops && Region.free md ops l i && (Region.ready md ops l).contains i) = true)
    (hQ : ∀ c a w, Q (.panic c) (a.put oi.dst v) w → Q (.panic c) a w) (hg : Region.wanted oi (yielded ops a.tmps) = true) (hb : ∀ w, oi.about P w a.eval = none) (hy : ∀ w, (execOp a.eval oi).run P w = .ok (.value v) w) (hS : More t (l.setIfInBounds i true) → S w)
    (h : anyR F n P md ops Q S t m (l.setIfInBounds i true) (a.put oi.dst v) w) : anyR F n P md ops Q S t (m + 1) l a w := by
  have hi : ops[i]? = some oi := by rw [← Array.getElem?_toList]; exact hi0
  simp only [Bool.and_eq_true, decide_eq_true_eq] at hc
  obtain ⟨⟨⟨⟨h0, h4⟩, h1⟩, h2⟩, h3⟩ := hc
  exact anyR.free1 h0 h4 hi (Region.noSelect_spec h1) hQ m l a w (Region.free_spec hi h2) (by simpa using h3) ⟨hg, fun w _ => hy w, hb⟩ hS h
theorem anyR.take {i : Nat} {oi : Oper} {v : Value} {m : Nat} {l : Array Bool} {a : Act} {w : World} (hi0 : ops.toList[i]? = some oi)
    (hc : (noDefer ops && Region.noSelect ops && Region.free md ops l i && (Region.ready md ops l).contains i && waitsB t md ops l i) = true)
    (hQ : ∀ c a w, Q (.panic c) (a.put oi.dst v) w → Q (.panic c) a w) (hg : Region.wanted oi (yielded ops a.tmps) = true) (hb : ∀ w, oi.about P w a.eval = none) (hy : ∀ w, S w → (execOp a.eval oi).run P w = .ok (.value v) w) (hS : S w)
    (h : anyR F n P md ops Q S t m (l.setIfInBounds i true) (a.put oi.dst v) w) : anyR F n P md ops Q S t (m + 1) l a w := by
  have hi : ops[i]? = some oi := by rw [← Array.getElem?_toList]; exact hi0
  simp only [Bool.and_eq_true] at hc
  obtain ⟨⟨⟨⟨h0, h1⟩, h2⟩, h3⟩, h4⟩ := hc
  exact anyR.first h0 hi (Region.noSelect_spec h1) hQ m l a w (Region.free_spec hi h2) (by simpa using h3) h4 ⟨hg, hy, hb⟩ hS h
theorem anyR.step {i : Nat} {oi : Oper} {m : Nat} {l : Array Bool} {a : Act} {w : World} (hi0 : ops.toList[i]? = some oi) (hr : Region.ready md ops l = [i])
    (h : ∀ K' : Act → World → Prop, Shut (∀ a w, (More t (l.setIfInBounds i true) → S w) → ((More t (l.setIfInBounds i true) → S w) → anyR F n P md ops Q S t m (l.setIfInBounds i true) a w) → K' a w) → if Region.wanted oi (yielded ops a.tmps) = true then Oper.wpIn F n P oi a w K' Q else (∀ f, oi.about P w a.eval = some f → F.fn f) ∧ K' (a.put oi.dst undef) w) :
    anyR F n P md ops Q S t (m + 1) l a w :=
  ⟨fun h0 => absurd (h0.symm.trans hr) (by simp), fun j hj => by
    rw [hr] at hj
    obtain rfl : j = i := by simpa using hj
    exact wpOpIn_step (by rw [← Array.getElem?_toList]; exact hi0) fun K' hK => h K' fun a w hS hW => hK a w ⟨hS, hW hS⟩⟩
theorem anyR.step2 {i i2 : Nat} {oi oi2 : Oper} {m : Nat} {l : Array Bool} {a : Act} {w : World} (hi0 : ops.toList[i]? = some oi) (hi20 : ops.toList[i2]? = some oi2) (hr : Region.ready md ops l = [i, i2])
    (h : ∀ K' : Act → World → Prop, Shut (∀ a w, (More t (l.setIfInBounds i true) → S w) → ((More t (l.setIfInBounds i true) → S w) → anyR F n P md ops Q S t m (l.setIfInBounds i true) a w) → K' a w) → if Region.wanted oi (yielded ops a.tmps) = true then Oper.wpIn F n P oi a w K' Q else (∀ f, oi.about P w a.eval = some f → F.fn f) ∧ K' (a.put oi.dst undef) w)
    (h2 : ∀ K' : Act → World → Prop, Shut (∀ a w, (More t (l.setIfInBounds i2 true) → S w) → ((More t (l.setIfInBounds i2 true) → S w) → anyR F n P md ops Q S t m (l.setIfInBounds i2 true) a w) → K' a w) → if Region.wanted oi2 (yielded ops a.tmps) = true then Oper.wpIn F n P oi2 a w K' Q else (∀ f, oi2.about P w a.eval = some f → F.fn f) ∧ K' (a.put oi2.dst undef) w) :
    anyR F n P md ops Q S t (m + 1) l a w :=
  ⟨fun h0 => absurd (h0.symm.trans hr) (by simp), fun j hj => by
    rw [hr] at hj
    rcases List.mem_cons.1 hj with rfl | hj
    · exact wpOpIn_step (by rw [← Array.getElem?_toList]; exact hi0) fun K' hK => h K' fun a w hS hW => hK a w ⟨hS, hW hS⟩
    · obtain rfl : j = i2 := by simpa using hj
      exact wpOpIn_step (by rw [← Array.getElem?_toList]; exact hi20) fun K' hK => h2 K' fun a w hS hW => hK a w ⟨hS, hW hS⟩⟩
theorem anyR.done {l : Array Bool} {a : Act} {w : World} {m : Nat} (hr : Region.ready md ops l = []) (h : Q .normal a w) : anyR F n P md ops Q S t m l a w := by
  cases m with
  | zero => exact ⟨hr, h⟩
  | succ m => exact ⟨fun _ => h, fun j hj => (by rw [hr] at hj; cases hj)⟩
theorem region_R {id : Nat} {a : Act} {w : World} (hm : P.follows .mixedOrders = true) (t : Nat) (S : World → Prop) (hS : S w.drew)
    (h : S w.drew → anyR F n P .any ops Q S t ops.size (Array.replicate ops.size false) a w.drew) : (Code.region id ops true).wpIn F n P Q a w := wpIn_region_any hm (anyR.any _ _ _ _ (h hS))
end
end Go.Proofs.YtcbmbhghmfehpaaGreat
