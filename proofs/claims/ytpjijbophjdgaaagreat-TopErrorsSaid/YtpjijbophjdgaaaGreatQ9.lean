/- Great of layer 30; slices.Contains of numbers. strings.Builder: copyCheck, WriteByte, WriteString, String, with the frame that keeps the other blocks. slices.IndexFunc and ContainsFunc at ints with a function that draws. A range over a function whose iterator owns blocks: between two yields it may write what it owns; what it yields it gives away. -/
import Derived.Test.YtpjijbophjdgaaaGreatQ6
import Derived.Test.YtpjijbophjdgaaaGreatQ7
import Derived.Test.YtpjijbophjdgaaaGreatQ2
import Derived.Test.YtpjijbophjdgaaaGreatQ4
import Derived.RangeFuncWrites
namespace Go.Proofs.YtpjijbophjdgaaaGreat
open Go.RowKit Go.Deep
theorem contains_int_t (S : Nat → Prop) (w : World) (v : Value) (xs : List Int) (x : Int) (h : IntsAt S w v xs) (hn : xs.length ≤ 1000000) :
    Calls Tryz.prog 84 #[v, .int .i64 x] w fun e w' => e = .returned (.bool ((List.range xs.length).any fun j => decide (x = gi xs j))) ∧ w = w' := by
  have hx := firstIx_any (fun j => decide (x = gi xs j)) xs.length
  have HX := Lib.hid hx
  have HI := Lib.hid (index_int_t S w v xs x h hn)
  clear hx h
  go_enter Tryz.func84, Tryz.ntmps84
  go_wp2_with fail
  refine HI.out.mono ?_
  rintro e w' ⟨rfl, rfl⟩
  go_wp2_with fail
  go_ret
  exact ⟨ret_bool (by rw [← HX.out]), rfl⟩
def g30At (xs : List (List Int)) (k : Nat) : Bool := (decide (10 < (gl xs k).length) && decide ((gl xs k).length ≤ 4096)) || decide (4098 < (gl xs k).length) || (decide (10 < (gl xs k).length) && decide (1 < k))
def great30B (xs : List (List Int)) : Bool := (List.range xs.length).any (g30At xs) || ((decide (8 < xs.length) && decide (xs.length ≤ 32)) || decide (34 < xs.length))
theorem great30_small {xs : List (List Int)} (h : great30B xs = false) : xs.length ≤ 34 ∧ ∀ k, (gl xs k).length ≤ 4098 := by
  unfold great30B at h
  simp only [Bool.or_eq_false_iff, Bool.and_eq_false_iff, decide_eq_false_iff_not] at h
  refine ⟨by omega, fun k => ?_⟩
  by_cases hk : k < xs.length
  · have := any_false h.1 hk
    unfold g30At at this
    simp only [Bool.or_eq_false_iff, Bool.and_eq_false_iff, decide_eq_false_iff_not] at this
    omega
  · have : gl xs k = [] := by simp [gl, List.getElem?_eq_none (by omega : xs.length ≤ k)]
    rw [this]; simp
set_option maxRecDepth 100000 in
set_option maxHeartbeats 2000000 in
theorem great30_t (S : Nat → Prop) (w : World) (v : Value) (xs : List (List Int)) (h : RowsAt S w v xs) (hn : xs.length ≤ 9223372036854775807) (hr : ∀ k, (gl xs k).length ≤ 9223372036854775807) :
    Calls Tryz.prog 8 #[v] w fun e w' => e = .returned (.bool (great30B xs)) ∧ w = w' := by
  obtain ⟨p, cap, rfl, hcap, _⟩ := rows_open h
  have H := Lib.hid h
  have HR := Lib.hid hr
  have HG : Hid (great30B xs = ((List.range xs.length).any (g30At xs) || ((decide (8 < xs.length) && decide (xs.length ≤ 32)) || decide (34 < xs.length)))) := rfl
  have HT : Hid (∀ k, k < xs.length → g30At xs k = true → great30B xs = true) := fun k hk hg => by rw [HG.out, any_at hk hg]; rfl
  have HA : Hid (∀ k, g30At xs k = ((decide (10 < (gl xs k).length) && decide ((gl xs k).length ≤ 4096)) || decide (4098 < (gl xs k).length) || (decide (10 < (gl xs k).length) && decide (1 < k)))) := fun _ => rfl
  clear h hr
  go_enter Tryz.func8, Tryz.ntmps8
  go_wp2_with fail
  go_loop [3, 4] (fun i _ => ∃ k : Nat, k ≤ xs.length ∧ i = .int .i64 k ∧ Hid (∀ j, j < k → g30At xs j = false)) (fun i _ => xs.length - (intOf i).toNat)
  case atStart => exact ⟨0, Nat.zero_le _, rfl, fun j hj => absurd hj (Nat.not_lt_zero _)⟩
  case round =>
    obtain ⟨k, hk, rfl, hd⟩ := hrel
    by_cases hlt : k < xs.length
    · obtain ⟨b, off, q, c, rfl, hc, _⟩ := rows_get H.out hlt
      have hrk := HR.out k
      have HTK := Lib.hid (HT.out k hlt)
      have HAK := Lib.hid (HA.out k)
      have i1 : (0 : Int) ≤ (k : Int) := by omega
      have i2 : (k : Int) < (xs.length : Int) := by omega
      generalize (gl xs k).length = n at *
      by_cases h1 : 10 < n
      · have d1 : decide ((10 : Int) < (n : Int)) = true := by simp; omega
        by_cases h2 : n ≤ 4096
        · have d2 : decide ((n : Int) ≤ 4096) = true := by simp; omega
          have HQ : Hid (great30B xs = true) := HTK.out (by rw [HAK.out]; simp [h1, h2])
          go_wp2_with fail
          go_ret
          exact ⟨ret_bool HQ.out.symm, rfl⟩
        · have d2 : decide ((n : Int) ≤ 4096) = false := by simp; omega
          by_cases h3 : 4098 < n
          · have d3 : decide ((4098 : Int) < (n : Int)) = true := by simp; omega
            have HQ : Hid (great30B xs = true) := HTK.out (by rw [HAK.out]; simp [h3])
            go_wp2_with fail
            go_ret
            exact ⟨ret_bool HQ.out.symm, rfl⟩
          · have d3 : decide ((4098 : Int) < (n : Int)) = false := by simp; omega
            by_cases h4 : 1 < k
            · have d4 : decide ((1 : Int) < (k : Int)) = true := by simp; omega
              have HQ : Hid (great30B xs = true) := HTK.out (by rw [HAK.out]; simp [h1, h4])
              go_wp2_with fail
              go_ret
              exact ⟨ret_bool HQ.out.symm, rfl⟩
            · have d4 : decide ((1 : Int) < (k : Int)) = false := by simp; omega
              have HQ : Hid (g30At xs k = false) := by unfold Hid; rw [HAK.out]; simp [h2, h3, h4]
              go_wp2_with fail
              go_round
              case rel => exact ⟨k + 1, by omega, by go_num, fun j hj => if e : j = k then by subst e; exact HQ.out else hd.out j (by omega)⟩
              case measure => simp [intOf]; omega
      · have d1 : decide ((10 : Int) < (n : Int)) = false := by simp; omega
        have d3 : decide ((4098 : Int) < (n : Int)) = false := by simp; omega
        have HQ : Hid (g30At xs k = false) := by unfold Hid; rw [HAK.out]; simp [h1]; omega
        go_wp2_with fail
        go_round
        case rel => exact ⟨k + 1, by omega, by go_num, fun j hj => if e : j = k then by subst e; exact HQ.out else hd.out j (by omega)⟩
        case measure => simp [intOf]; omega
    · obtain rfl : k = xs.length := by omega
      have HQ : Hid (great30B xs = ((decide (8 < xs.length) && decide (xs.length ≤ 32)) || decide (34 < xs.length))) := by unfold Hid; rw [HG.out, any_none hd.out]; rfl
      clear hlt hk hd H HR HG HT HA
      generalize xs.length = n at *
      by_cases h1 : 8 < n
      · have d1 : decide ((8 : Int) < (n : Int)) = true := by simp; omega
        by_cases h2 : n ≤ 32
        · have d2 : decide ((n : Int) ≤ 32) = true := by simp; omega
          have HE : Hid (great30B xs = true) := by unfold Hid; rw [HQ.out]; simp [h1, h2]
          go_wp2_with fail
          go_ret
          exact ⟨ret_bool HE.out.symm, rfl⟩
        · have d2 : decide ((n : Int) ≤ 32) = false := by simp; omega
          have HE : Hid (great30B xs = decide ((34 : Int) < (n : Int))) := by unfold Hid; rw [HQ.out, Bool.eq_iff_iff]; simp [h1, h2]; omega
          go_wp2_with fail
          go_ret
          exact ⟨ret_bool HE.out.symm, rfl⟩
      · have d1 : decide ((8 : Int) < (n : Int)) = false := by simp; omega
        have d3 : decide ((34 : Int) < (n : Int)) = false := by simp; omega
        have HE : Hid (great30B xs = false) := by unfold Hid; rw [HQ.out]; simp [h1]; omega
        go_wp2_with fail
        go_ret
        exact ⟨ret_bool HE.out.symm, rfl⟩
end Go.Proofs.YtpjijbophjdgaaaGreat
namespace Go.Proofs.YtpjijbophjdgaaaGreat
open Go.RowKit Go.Deep
end Go.Proofs.YtpjijbophjdgaaaGreat
namespace Go.Proofs.YtpjijbophjdgaaaGreat
open Go.RowKit Go.Deep
def FnD (g : Nat) (lb args : Array Value) (res : Value) (w : World) : Prop := ∀ m, Calls Tryz.prog g (args ++ lb) (w.drewN m) fun e w' => e = .returned res ∧ ∃ q, w' = w.drewN q
set_option maxHeartbeats 400000 in
theorem ints_ix_d (g : Nat) (lb : Array Value) (eg : ∀ args w, (callFunc g args).run Tryz.prog w = .ok (.enter g args) w) (S : Nat → Prop) (w : World) (v : Value) (n : Nat) (f : Nat → Value) (p : Nat → Bool)
    (h : SlAt S w v n f) (hn : n ≤ 1000000) (hp : ∀ k, k < n → FnD g lb #[f k] (.bool (p k)) w) :
    Calls Tryz.prog 140 #[v, .func (.func g) #[] lb] w fun e w' => e = .returned (.int .i64 (firstIx p n)) ∧ ∃ q, w' = w.drewN q := by
  obtain ⟨q, cap, rfl, hcap, H⟩ := h.open
  have HP := Lib.hid hp
  clear h hp
  go_enter Tryz.func140, Tryz.ntmps140
  go_wp2_with fail
  go_loopw [5, 8] (fun _ i wr => ∃ k : Nat, k ≤ n ∧ i = .int .i64 k ∧ Hid (∀ j, j < k → p j = false) ∧ Hid (∃ m, wr = w.drewN m)) (fun _ i _ => n - (intOf i).toNat)
  case atStart => exact ⟨0, Nat.zero_le _, rfl, fun j hj => absurd hj (Nat.not_lt_zero _), 0, rfl⟩
  case round =>
    obtain ⟨k, hk, rfl, hd, hm⟩ := hrel
    obtain ⟨m, rfl⟩ := hm.out
    clear hm
    by_cases hlt : k < n
    · obtain ⟨b, off, rfl, hc⟩ := H k hlt
      have hc := (Up.drewN w m).cell hc
      clear H
      have hpk := HP.out k hlt
      unfold FnD at hpk
      have HPK := Lib.hid (hpk m)
      clear hpk HP
      generalize hv : p k = pk at *
      have HV := Lib.hid hv
      clear hv
      cases pk
      · go_wp2_with fail
        refine HPK.out.mono ?_
        rintro e w' ⟨rfl, m2, rfl⟩
        go_wp2_with fail
        go_roundw
        case rel => exact ⟨k + 1, by omega, by go_num, fun j hj => if e : j = k then by subst e; exact HV.out else hd.out j (by omega), m2, rfl⟩
        case measure => simp [intOf]; omega
      · go_wp2_with fail
        refine HPK.out.mono ?_
        rintro e w' ⟨rfl, m2, rfl⟩
        go_wp2_with fail
        go_ret
        exact ⟨ret_int (firstIx_at hlt hd.out HV.out).symm, m2, rfl⟩
    · clear H
      go_wp2_with fail
      go_ret
      exact ⟨ret_int (firstIx_none fun j hj => hd.out j (by omega)).symm, m, rfl⟩
set_option maxHeartbeats 400000 in
theorem ints_has_d (g : Nat) (lb : Array Value) (eg : ∀ args w, (callFunc g args).run Tryz.prog w = .ok (.enter g args) w) (S : Nat → Prop) (w : World) (v : Value) (n : Nat) (f : Nat → Value) (p : Nat → Bool)
    (h : SlAt S w v n f) (hn : n ≤ 1000000) (hp : ∀ k, k < n → FnD g lb #[f k] (.bool (p k)) w) :
    Calls Tryz.prog 63 #[v, .func (.func g) #[] lb] w fun e w' => e = .returned (.bool ((List.range n).any p)) ∧ ∃ q, w' = w.drewN q := by
  have hx := firstIx_any p n
  have HX := Lib.hid hx
  have HI := Lib.hid (ints_ix_d g lb eg S w v n f p h hn hp)
  obtain ⟨q, cap, rfl, -, -⟩ := SlAt.open h
  clear hx hp h eg
  go_enter Tryz.func63, Tryz.ntmps63
  go_wp2_with fail
  refine HI.out.mono ?_
  rintro e w' ⟨rfl, m, rfl⟩
  go_wp2_with fail
  go_ret
  exact ⟨ret_bool (by rw [← HX.out]), m, rfl⟩
end Go.Proofs.YtpjijbophjdgaaaGreat
namespace Go.Proofs.YtpjijbophjdgaaaGreat
open Go Go.RowKit Go.Deep
structure OwnStep (L L' : Nat → Prop) (W W' : World) : Prop where
  os : W'.os = W.os
  tape : W'.tape = W.tape
  output : W'.output = W.output
  size : W.heap.size ≤ W'.heap.size
  block : ∀ b, b < W.heap.size → ¬ L b → W'.heap[b]? = W.heap[b]?
  more : ∀ b, L' b → (L b ∧ b < W.heap.size) ∨ (W.heap.size ≤ b ∧ b < W'.heap.size)
def AbL {α : Type} (J : List α → (Nat → Prop) → World → Prop) : Prop := ∀ s L L' W W', J s L W → OwnStep L L' W W' → J s L' W'
def SeqL {α : Type} (F : Fence) (n : Nat) (P : Program) (g : Nat) (lb : Array Value) (encs : α → Array Value) (Gv : α → (Nat → Prop) → World → Prop) (Gb : α → Nat → Prop) (S : List α → Prop) (N : Nat) (w w9 : World) (L0 : Nat → Prop) : Prop :=
  ∀ (l : Nat) (J : List α → (Nat → Prop) → World → Prop) (W : World), Below w.heap.size w W → (∀ b, L0 b → b < w9.heap.size ∧ W.heap[b]? = w9.heap[b]?) → w9.heap.size ≤ W.heap.size → AbL J →
    (∀ pre x L W1, J pre L W1 → Gv x L W1 → Below w.heap.size w W1 → (∀ b, L b → w.heap.size ≤ b ∧ b < W1.heap.size) → pre.length < N → YieldAt F (n - 1) P l (encs x) W1 fun e W' =>
      e = .returned (.bool true) ∧ J (pre ++ [x]) L W' ∧ Below w.heap.size w W' ∧ W1.heap.size ≤ W'.heap.size ∧ ∀ b, (L b ∨ Gb x b) → W'.heap[b]? = W1.heap[b]?) →
    J [] L0 W →
    CallsIn F n P g (#[.func (.yield l) #[] #[]] ++ lb) W fun e W' => (∃ v, e = .returned v) ∧ ∃ xs L, S xs ∧ J xs L W'
def ownPostL {α : Type} (B : Nat) (w0 : World) (I : List α → (Nat → Prop) → World → Prop) (xs : List α) (L Lk : Nat → Prop) (W : World) : Exit → Act → World → Prop
  | .normal, _, W' => KeepsFrom B W W' ∧ Below w0.heap.size w0 W' ∧ (∀ b, Lk b → W'.heap[b]? = W.heap[b]?) ∧ I xs L W'
  | _, _, _ => False
theorem wpIn_rangeL {α : Type} {F : Fence} {n : Nat} {P : Program} {w : World} {g : Operand} {ps : Array Tmp} {assign body : Code} {Q : Exit → Act → World → Prop} {a : Act}
    (hro : F.round = none) (h1 : 1 ≤ n) {gf : Nat} {lb : Array Value} (hg : a.eval g = .func (.func gf) #[] lb) (hFg : F.fn gf) (eg : ∀ args w, (callFunc gf args).run P w = .ok (.enter gf args) w)
    {encs : α → Array Value} {Gv : α → (Nat → Prop) → World → Prop} {Gb : α → Nat → Prop} {S : List α → Prop} {N : Nat} {w0 : World} {L0 : Nat → Prop} (hseq : SeqL F (n - 1) P gf lb encs Gv Gb S N w0 w L0) (hL0 : ∀ b, L0 b → b < w.heap.size) (hGb : ∀ x L W b, Gv x L W → Gb x b → ∃ o, W.heap[b]? = some o ∧ o.isCells = true) (hb0 : Below w0.heap.size w0 w) (hps : ∀ x, (encs x).size = ps.size)
    (hGv : ∀ x L, OwnFrom w.heap.size (fun (_ : Unit) W => Gv x L W))
    (I : List α → (Nat → Prop) → World → Prop) (hA : AbL I) (hI : ∀ L, OwnFrom w.heap.size (fun s W => I s L W)) (h0 : I [] L0 w) (a₁ : α → Act)
    (hassign : ∀ (l : Nat) (x : α) (W : World) (K : Act → World → Prop), K (a₁ x) W →
      assign.wpIn (F.inRound l) (n - 1 - 1) P (Exit.then K (fun _ _ _ => False)) { tmps := (ps.zip (encs x)).foldl (fun t (p, v) => t.setIfInBounds p v) a.tmps, defers := [] } W)
    (hbody : ∀ (l : Nat) (pre : List α) (x : α) (L : Nat → Prop) (W : World), I pre L W → Gv x L W → Below w0.heap.size w0 W → (∀ b, L b → w0.heap.size ≤ b ∧ b < W.heap.size) → pre.length < N → body.wpIn (F.inRound l) (n - 1 - 1) P (ownPostL w.heap.size w0 I (pre ++ [x]) L (fun b => L b ∨ Gb x b) W) (a₁ x) W)
    (hdone : ∀ (D : Nat) (xs : List α) (L : Nat → Prop) (W : World), w.heap.size ≤ D → S xs → I xs L W → W.heap[D]? = some (.deferred (some [])) → Q .normal { a with defers := { target := .collected D, args := #[] } :: a.defers } W) :
    (Code.rangeFunc g ps assign body).wpIn F n P Q a w := by
  refine wpIn_rangeFunc ?_
  intro fn hfn
  rw [hro]
  obtain ⟨rec, hrec⟩ : ∃ rec : LoopState → Option Code → Loop, rec = fun st pe => { state := st, pending := pe, fn, tmps := a.tmps, params := ps, assign, body, defers := w.heap.size } := ⟨_, rfl⟩
  obtain ⟨D, hD⟩ : ∃ D, D = w.heap.size := ⟨_, rfl⟩
  obtain ⟨W1, hW1⟩ : ∃ W1, (w.alloc (.deferred (some []))).alloc (.loop (rec .ready none)) = W1 := ⟨_, rfl⟩
  have hsz : W1.heap.size = D + 2 := by rw [← hW1, hD]; simp
  have hL1 : W1.heap[D + 1]? = some (.loop (rec .ready none)) := by
    rw [← hW1, hD]; have := World.alloc_heap_new (w.alloc (.deferred (some []))) (.loop (rec .ready none)); rwa [World.size_alloc] at this
  have hK1 : W1.heap[D]? = some (.deferred (some [])) := by
    rw [← hW1, hD]; exact (Below.heap_alloc _ _ _ (by simp)).trans (World.alloc_heap_new w _)
  have hI1 : I [] L0 W1 := by rw [← hW1]; exact (hI _).alloc _ ((hI _).alloc _ h0)
  have hb1 : Below w0.heap.size w0 W1 := by
    rw [← hW1]; exact hb0.trans ((((Below.refl _ w).alloc (Nat.le_refl _) _).alloc (by simp) _).mono hb0.size)
  have hb0s := hb0.size
  have putB : ∀ {W : World} (l : Nat) (o : Obj), D ≤ l → Below w0.heap.size w0 W → Below w0.heap.size w0 (W.putObj l o) := fun {W} l o hl hb =>
    ⟨hb.os, hb.tape, hb.output, by have := hb.size; simpa using this, fun b hbb => (World.putObj_heap_other (by omega)).trans (hb.block b hbb)⟩
  refine ⟨D + 1, [{ target := .collected D, args := #[] }], W1, { target := .fn (.func gf) lb, args := #[.func (.yield (D + 1)) #[] #[]] }, W1, gf,
    #[.func (.yield (D + 1)) #[] #[]] ++ lb, W1, ?_, ?_, ?_, ?_, fun _ => h1, ?_⟩
  · rw [← hW1, hrec, hD]; exact run_enterLoop_outer _ _ _ _ _
  · simp only [resolve, hg]
    simp [go_sem]
  · intro f' hf'; simp [Target.leads] at hf'; subst hf'; exact hFg
  · simp [invoke, go_sem, eg]
  · refine (hseq (D + 1) (fun pre L W => I pre L W ∧ W.heap[D + 1]? = some (.loop (rec .ready none)) ∧ W.heap[D]? = some (.deferred (some [])) ∧ ∀ b, L b → b ≠ D ∧ b ≠ D + 1) W1 hb1 (fun b hb => ⟨hL0 b hb, by rw [← hW1]; exact (Below.heap_alloc _ _ _ (by have := hL0 b hb; simp; omega)).trans (Below.heap_alloc _ _ _ (hL0 b hb))⟩) (by rw [hsz, ← hD]; omega) ?_ ?_ ⟨hI1, hL1, hK1, fun b h => by have := hL0 b h; omega⟩).mono ?_
    · rintro s L L' A B ⟨h1, h2, h3, h4⟩ hs
      have hlt := (Array.getElem?_eq_some_iff.1 h2).1
      refine ⟨hA s L L' A B h1 hs, (hs.block _ hlt fun e => ?_).trans h2, (hs.block _ (by omega) fun e => ?_).trans h3, fun b hb => ?_⟩
      · have := h4 _ e; omega
      · have := h4 _ e; omega
      · rcases hs.more b hb with e | e
        · exact h4 b e.1
        · omega
    · rintro pre x L W ⟨hi, hl, hk, hLb⟩ hgv hbw hLw hlen
      have hlt : D + 1 < W.heap.size := (Array.getElem?_eq_some_iff.1 hl).1
      have hy := run_yield (P := P) (args := encs x) hl (by rw [hrec]; exact hps x)
      rw [hrec] at hy
      refine ⟨fn, _, assign, body, hy, roundIn_of_wpIn hfn (hassign _ x W _ ⟨_, run_beginRound hl (by rw [hrec]), ?_⟩)⟩
      obtain ⟨W2, hW2⟩ : ∃ W2, W.putObj (D + 1) (.loop { rec .ready none with state := .busy }) = W2 := ⟨_, rfl⟩
      have hl2 : W2.heap[D + 1]? = some (.loop { rec .ready none with state := .busy }) := by rw [← hW2]; exact World.putObj_heap_same hlt
      have hk2 : W2.heap[D]? = some (.deferred (some [])) := by rw [← hW2]; exact (World.putObj_heap_other (by omega)).trans hk
      have hi2 : I pre L W2 := by rw [← hW2]; exact (hI L).putObj _ hi (by omega) hl rfl
      have hg2 : Gv x L W2 := by rw [← hW2]; exact (hGv x L).putObj (s := ()) _ hgv (by omega) hl rfl
      have hs2 : W2.heap.size = W.heap.size := by rw [← hW2]; simp
      have ho2 : ∀ b, b ≠ D + 1 → W2.heap[b]? = W.heap[b]? := fun b hb => by rw [← hW2]; exact World.putObj_heap_other (by omega)
      have hbw2 : Below w0.heap.size w0 W2 := by rw [← hW2]; exact putB _ _ (by omega) hbw
      rw [hW2]
      refine wpIn_mono (hbody _ pre x L W2 hi2 hg2 hbw2 (fun b hb => by rw [hs2]; exact hLw b hb) hlen) ?_
      rintro e a3 W3 hp
      cases e with
      | normal =>
        obtain ⟨hk3, hb3, hL3, hi3⟩ := hp
        have hl3 := hk3.same _ _ (by omega) hl2 rfl
        have hk4 := hk3.same _ _ (by omega) hk2 rfl
        have hend := run_endRound (P := P) none hl3
        rw [hrec] at hend
        refine ⟨_, _, hend, rfl, ⟨?_, ?_, ?_, hLb⟩, putB _ _ (by omega) hb3, ?_, fun b hb => ?_⟩
        · exact (hI L).putObj _ hi3 (by omega) hl3 rfl
        · rw [hrec]; exact World.putObj_heap_same (Array.getElem?_eq_some_iff.1 hl3).1
        · exact (World.putObj_heap_other (by omega)).trans hk4
        · have := hk3.size; simp; omega
        · have hne : b ≠ D + 1 := by
            rcases hb with hb | hb
            · have := hLb b hb; omega
            · rintro rfl
              obtain ⟨o, h1, h2⟩ := hGb _ _ _ _ hgv hb
              rw [hl] at h1; injection h1 with h1; subst h1; cases h2
          exact (World.putObj_heap_other (by omega)).trans ((hL3 b hb).trans (ho2 b (by omega)))
      | ret => exact hp.elim
      | exit id => exact hp.elim
      | goto t => exact hp.elim
      | panic ch => exact hp.elim
      | outgrown => exact hp.elim
    · rintro e W2 ⟨⟨v, rfl⟩, xs, L, hS, hi, hl, hk, hLb⟩
      exact ⟨none, _, by have := run_endLoop (P := P) hl (by rw [hrec]; simp); rw [hrec] at this; exact this, hdone D xs L _ (by omega) hS ((hI L).putObj _ hi (by omega) hl rfl) ((World.putObj_heap_other (by omega)).trans hk)⟩
end Go.Proofs.YtpjijbophjdgaaaGreat
