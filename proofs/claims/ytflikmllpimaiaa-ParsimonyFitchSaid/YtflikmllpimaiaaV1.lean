/- The contracts of slices.Values with its iterator, slices.AppendSeq and Collect, at ints. The contracts of slices.AppendSeq and Collect, at slices.Values of ints. The contracts of slices.Sort, Sorted and Compact, at ints. Compacting a sorted list leaves each number once. The walk of ParsimonyFitch. -/
import Derived.RangeFuncWrites
import Derived.Test.YtflikmllpimaiaaB15
import Derived.Test.YtflikmllpimaiaaB22
import Derived.Test.YtflikmllpimaiaaB31
import Derived.Laws.EntriesVeiled
import Derived.Shelf.SortM.Plain
import Derived.Shelf.SortM.SortNone
import Derived.Shelf.Slices.CompactI
import Derived.Sort.OwnSortedInts
import Derived.Test.YtflikmllpimaiaaLI
import Derived.Test.YtflikmllpimaiaaS2
import Derived.Test.YtflikmllpimaiaaB30
import Derived.Test.YtflikmllpimaiaaB32
import Derived.Test.YtflikmllpimaiaaB53
namespace Go.Proofs.Ytflikmllpimaiaa
open Go.RowKit Go.Shelf Go.Deep
attribute [local go_sem] Oper.semAt_some
theorem Owns.sameZ {base : Nat} {e : TypeId} {w w' : World} {v : Value} {vs : List Value} (h : Owns base e w v vs) (k : ∀ b, v.ownBlock = some b → w'.heap[b]? = w.heap[b]?) : Owns base e w' v vs := by
  obtain ⟨hl, h | ⟨g, cap, cur, rfl, hg, hc, hr⟩⟩ := h
  · exact ⟨hl, .inl h⟩
  · exact ⟨hl, .inr ⟨g, cap, cur, rfl, hg, by rw [k g rfl]; exact hc, hr⟩⟩
theorem Owns.mono_baseZ {base base' : Nat} {e : TypeId} {w : World} {v : Value} {vs : List Value} (h : Owns base e w v vs) (hb : base' ≤ base) : Owns base' e w v vs := by
  obtain ⟨hl, h | ⟨g, cap, cur, rfl, hg, hc, hr⟩⟩ := h
  · exact ⟨hl, .inl h⟩
  · exact ⟨hl, .inr ⟨g, cap, cur, rfl, Nat.le_trans hb hg, hc, hr⟩⟩
theorem Owns.typedV {base : Nat} {e : TypeId} {w : World} {v : Value} {vs : List Value} (h : Owns base e w v vs) {b : Nat} (hb : v.ownBlock = some b) : ∃ c, w.heap[b]? = some (Obj.cells c e (0, 0)) := by
  obtain ⟨_, ⟨rfl, _⟩ | ⟨g, cap, cur, rfl, _, hc, _⟩⟩ := h
  · cases hb
  · injection hb with hb; subst hb; exact ⟨cur, hc⟩

set_option maxRecDepth 100000 in
set_option maxHeartbeats 1000000 in
theorem vals1_in (n l Bm : Nat) (T : Nat → Prop) (hn : 1 ≤ n) (xs : List Int) (J Jx : List Int → World → Prop)
    (hY : ∀ pre x W, J pre W → pre.length < xs.length → YieldAt Fence.wide (n - 1) Try.prog l #[.int .i64 x] W fun e W' =>
      (e = .returned (.bool true) ∧ J (pre ++ [x]) W' ∧ KS T W W') ∨ (e = .returned (.bool false) ∧ Jx (pre ++ [x]) W'))
    (W : World) (hJa : AbidesFrom W.heap.size J) {V : Value} (hcm : W.cell? ⟨Bm, 0, none⟩ = some V) (hV : IntsAt T W V xs) (_ : T Bm) (hlen : xs.length ≤ 1000000) (h0 : J [] W) :
    CallsIn Fence.wide n Try.prog 69 #[.func (.yield l) #[] #[], .pointer (some ⟨Bm, 0, none⟩)] W fun e W' => (∃ v, e = .returned v) ∧ (J xs W' ∨ ∃ pre, pre <+: xs ∧ Jx pre W') := by
  obtain ⟨q, cap, rfl, hcap, hsl⟩ := hV
  have HSL := Lib.hid hsl
  have HJA := Lib.hid hJa
  have HY := Lib.hid hY
  clear hsl hJa hY
  refine callsIn_of_wp Try.func69 rfl trivial ?_ rfl
  simp only [Try.ntmps69, List.size_toArray, List.length_cons, List.length_nil, Nat.reduceAdd, Nat.reduceSub, Array.replicate_succ, Array.replicate_zero, List.push_toArray, List.append_toArray, List.nil_append, List.cons_append]
  gi_wp2
  clear hcm
  gi_loopw [4, 7] (fun _ i wr => ∃ (k : Nat), k ≤ xs.length ∧ i = .int .i64 k ∧ J (xs.take k) wr ∧ KS T W wr) (fun _ i _ => xs.length - (intOf i).toNat)
  case atStart => exact ⟨0, Nat.zero_le _, rfl, by simpa using h0, KS.refl _ _⟩
  case round =>
    obtain ⟨k, hk, rfl, hJ, hbr⟩ := hrel
    by_cases hlt : k < xs.length
    · have hsl2 := HSL.out
      rcases hsl2 with h | ⟨b, off, rfl, hb, hcell⟩
      · omega
      · have hc : wr.cell? ⟨b, off + k, none⟩ = some (.int .i64 (gi xs k)) := (hbr.cell (p := ⟨b, off + k, none⟩) hb).trans (hcell k hlt)
        have HTK : Hid (xs.take (k + 1) = xs.take k ++ [gi xs k]) := by
          unfold Hid; rw [List.take_add_one]; simp [gi, hlt]
        have HPL : Hid ((xs.take k).length < xs.length) := by unfold Hid; simp; omega
        clear hcell
        generalize hx : gi xs k = x at *
        clear hx
        obtain ⟨fn, tmps, assign, body, hy, hR⟩ := HY.out (xs.take k) x wr hJ HPL.out
        gi_wp2
        refine hR.mono ?_
        rintro e W3 hor
        obtain ⟨bb, rfl, hq⟩ := round_or hor
        cases bb
        · have hq2 : Jx (xs.take k ++ [x]) W3 := by
            rcases hq.out with ⟨h1, _⟩ | h2
            · cases h1
            · exact h2.2
          gi_wp2
          refine bodyPost_ret (results_none rfl _ _ _) rfl ?_
          exact ⟨⟨_, rfl⟩, .inr ⟨_, by rw [← HTK.out]; exact List.take_prefix _ _, hq2⟩⟩
        · have hq2 : J (xs.take k ++ [x]) W3 ∧ KS T wr W3 := by
            rcases hq.out with h2 | ⟨h1, _⟩
            · exact h2.2
            · cases h1
          gi_wp2
          go_roundw
          case rel => exact ⟨k + 1, hlt, by go_num, by rw [HTK.out]; exact hq2.1, hbr.trans hq2.2⟩
          case measure => simp [intOf]; omega
    · gi_wp2
      go_end0
      obtain rfl : k = xs.length := by omega
      rw [List.take_length] at hJ
      exact ⟨⟨_, rfl⟩, .inl hJ⟩
set_option maxHeartbeats 400000 in
theorem values_t (w : World) (V : Value) {p : Option Addr} {m cap : Nat} (hV : V = .slice p m cap) :
    Calls Try.prog 41 #[V] w fun e w' => e = .returned (.func (.func 69) #[] #[.pointer (some ⟨w.heap.size, 0, none⟩)]) ∧ w' = w.alloc (.cells #[V] 22) := by
  subst hV
  go_enter Try.func41, Try.ntmps41
  go_wp2_with fail
  go_ret
  exact ⟨rfl, rfl⟩
theorem vals_stops (n : Nat) (hn : 1 ≤ n) (Bm : Nat) (T : Nat → Prop) (xs : List Int) (w : World) {V : Value} (hT : ∀ b, T b → b < w.heap.size) (hcm : w.cell? ⟨Bm, 0, none⟩ = some V) (hV : IntsAt T w V xs) (hBm : T Bm) (hlen : xs.length ≤ 1000000) :
    SeqStopsK Fence.wide n Try.prog 69 #[.pointer (some ⟨Bm, 0, none⟩)] (fun x : Int => #[Value.int .i64 x]) (KS T) (fun l => l = xs) (fun pre => pre <+: xs) xs.length w := fun l J Jx W hW hJ _ hY h0 =>
  (vals1_in n l Bm T hn xs J Jx hY W hJ ((hW.cell (p := ⟨Bm, 0, none⟩) (hT _ hBm)).trans hcm) (hV.keep fun b hb _ => hW.block b (hT b hb)) hBm hlen h0).mono fun _ _ ⟨h1, h2⟩ => ⟨h1, h2.imp (fun h => ⟨xs, rfl, h⟩) id⟩
/-- Between two rounds of AppendSeq: the box's list; what lay before the call lies as it lay. -/
def AqI (w0 : World) (pre : List Int) (W : World) : Prop := Below w0.heap.size w0 W ∧ w0.heap.size + 1 ≤ W.heap.size ∧ ∃ v, W.heap[w0.heap.size]? = some (Obj.cells #[v] 22 (0, 0)) ∧ Owns (w0.heap.size + 1) 3 W v (pre.map (Value.int .i64))
theorem AqI.own (w0 : World) {B : Nat} (hB : w0.heap.size + 1 ≤ B) : OwnFrom B (AqI w0) := by
  rintro s X Y row ⟨hb, hsz, v, hbox, hown⟩ hg hr
  have hcell : ∀ (b : Nat) (c : Array Value) (e : TypeId) (z : Nat × Nat), X.heap[b]? = some (Obj.cells c e z) → Y.heap[b]? = X.heap[b]? := fun b c e z hc => hg.block b (Array.getElem?_eq_some_iff.1 hc).1 (fun e2 => by
    obtain ⟨_, o, h1, h2⟩ := hr b e2.symm
    rw [hc] at h1; injection h1 with h1; subst h1; cases h2)
  refine ⟨⟨hg.os.trans hb.os, hg.tape.trans hb.tape, hg.output.trans hb.output, Nat.le_trans hb.size hg.size, fun b hb2 => (hg.block b (by have := hb.size; omega) (fun e => by obtain ⟨h1, _⟩ := hr b e.symm; omega)).trans (hb.block b hb2)⟩, Nat.le_trans hsz hg.size, v, (hcell _ _ _ _ hbox).trans hbox, hown.sameZ fun b hb2 => ?_⟩
  obtain ⟨c, hc⟩ := hown.typedV hb2
  exact hcell _ _ _ _ hc
end Go.Proofs.Ytflikmllpimaiaa
namespace Go.Proofs.Ytflikmllpimaiaa
open Go.RowKit Go.Shelf Go.Deep
def AqPost (w : World) (xs : List Int) (e : Ending) (w' : World) : Prop := Up w w' ∧ ∃ v, e = .returned v ∧ Owns w.heap.size 3 w' v (xs.map (Value.int .i64))
theorem AqI.next {w W We : World} {pre : List Int} {x : Int} {v v' : Value} (hbw : Below w.heap.size w W) (hsz : w.heap.size + 1 ≤ W.heap.size) (hbox : W.heap[w.heap.size]? = some (Obj.cells #[v] 22 (0, 0))) (hown : Owns (w.heap.size + 1) 3 W v (pre.map (Value.int .i64)))
    (ho : Owns (w.heap.size + 1) 3 We v' (pre.map (Value.int .i64) ++ [.int .i64 x])) (hg : (W.alloc (.cells #[.int .i64 x] 3)).grownBy We v.ownBlock) :
    KeepsFrom (w.heap.size + 1) W (We.setCell ⟨w.heap.size, 0, none⟩ v') ∧ KS (· < w.heap.size) W (We.setCell ⟨w.heap.size, 0, none⟩ v') ∧ AqI w (pre ++ [x]) (We.setCell ⟨w.heap.size, 0, none⟩ v') := by
  have hset : ∀ b, b ≠ w.heap.size → (We.setCell ⟨w.heap.size, 0, none⟩ v').heap[b]? = We.heap[b]? := fun b hb => blk_setCell_other _ _ _ _ hb
  have hszs : (We.setCell ⟨w.heap.size, 0, none⟩ v').heap.size = We.heap.size := by simp [World.size_setCell]
  have hga : ∀ b, b < W.heap.size → some b ≠ v.ownBlock → We.heap[b]? = W.heap[b]? := fun b hb hne => (hg.block b (by rw [World.size_alloc]; exact Nat.lt_succ_of_lt hb) hne).trans (Below.heap_alloc W _ b hb)
  have hsize : W.heap.size + 1 ≤ We.heap.size := by have h := hg.size; rw [World.size_alloc] at h; exact h
  have hlow : ∀ b, b < w.heap.size + 1 → We.heap[b]? = W.heap[b]? := fun b hb => hga b (by omega) (fun e => by have := (ownBlock_lt hown e.symm).1; omega)
  have hbe := (hlow w.heap.size (Nat.lt_succ_self _)).trans hbox
  refine ⟨⟨by omega, fun k o hk ho2 hc => ?_⟩, fun b (hb : b < w.heap.size) => (hset b (by omega)).trans (hlow b (by omega)), ⟨hg.os.trans hbw.os, hg.tape.trans hbw.tape, hg.output.trans hbw.output, by omega, fun b hb => ((hset b (by omega)).trans (hlow b (by omega))).trans (hbw.block b hb)⟩, by omega, v', ?_, ?_⟩
  · have hkl : k < W.heap.size := (Array.getElem?_eq_some_iff.1 ho2).1
    rw [hset k (by omega), hga k hkl (fun e => by
      obtain ⟨c, h⟩ := hown.typedV e.symm
      rw [ho2] at h; injection h with h; subst h; cases hc)]
    exact ho2
  · simp [World.setCell, Array.getElem?_modify, hbe]
  · rw [List.map_append]
    exact ho.sameZ fun b hb => hset b (by have := (ownBlock_lt ho hb).1; omega)
set_option maxRecDepth 100000 in
set_option maxHeartbeats 2000000 in
theorem appendSeq_t (w : World) (Bm : Nat) (xs : List Int) {V : Value} (hcm : w.cell? ⟨Bm, 0, none⟩ = some V) (hV : IntsAt Any w V xs) (hlen : xs.length ≤ 1000000) :
    Calls Try.prog 86 #[.slice none 0 0, .func (.func 69) #[] #[.pointer (some ⟨Bm, 0, none⟩)]] w (AqPost w xs) := by
  have hBm : Bm < w.heap.size := World.block_lt_of_cell? w _ hcm
  have hV2 : IntsAt (· < w.heap.size) w V xs := hV.sub fun b _ hb => hb
  refine (callsIn_wide (n := 9)).1 ?_
  refine callsIn_of_wp_marks Try.func86 rfl trivial ?_
  simp only [Try.ntmps86, List.size_toArray, List.length_cons, List.length_nil, Nat.reduceAdd, Nat.reduceSub, Array.replicate_succ, Array.replicate_zero, List.push_toArray, List.append_toArray, List.nil_append, List.cons_append]
  gi_wp2_with fail
  have hu6 : Up w (w.alloc (.cells #[.slice none 0 0] 22)) := Up.alloc _ _
  have hz6 : (w.alloc (.cells #[.slice none 0 0] 22)).heap.size = w.heap.size + 1 := by simp
  have hx6 := World.alloc_heap_new w (.cells #[.slice none 0 0] 22)
  generalize w.alloc (.cells #[.slice none 0 0] 22) = w6 at *
  have hcm6 := hu6.cell hcm
  have hV6 := hV2.keep (hu6.kept _)
  apply wpIn_rangeFunc_ownG (F := Fence.wide) (n := 9) (P := Try.prog) (ps := #[7]) (w := w6) rfl (by omega) (gf := 69) (lb := #[.pointer (some ⟨Bm, 0, none⟩)]) rfl trivial (enters_of Try.func69 (by kernel_rfl) rfl)
    (vals_stops 8 (by omega) Bm (· < w.heap.size) xs w6 (fun b hb => by have : b < w.heap.size := hb; omega) hcm6 hV6 hBm hlen)
    (fun h k => KS.trans h k) (fun W l o o' hl ho hc _ => fun b (hb : b < w.heap.size) => World.putObj_heap_other (by omega)) (Below.refl _ _) (fun _ => (rfl : (1 : Nat) = 1))
    (AqI w) (fun _ _ _ => False)
  · exact AqI.own w (by omega)
  · exact fun _ _ _ _ _ h _ _ => h
  · exact ⟨hu6, by omega, _, hx6, Owns.nil _ _ _⟩
  · intro l x W K hK
    gi_wp2_with (rw [Oper.semAt_eq _ _ _ (fun c h => by cases h)]; go_simp; try go_bits)
    exact hK
  · rintro l pre x W ⟨hbw, hsz, v, hbox, hown⟩ hpl
    have hb0 : W.cell? ⟨w.heap.size, 0, none⟩ = some v := by simp [World.cell?, hbox]
    have hf0 : ∀ w', KS (· < w.heap.size + 1) W w' → w'.cell? ⟨w.heap.size, 0, none⟩ = some v ∧ ∀ o, w'.frozen? ⟨w.heap.size, o, none⟩ = false := fun w' hS => by
      have h1 := (hS w.heap.size (Nat.lt_succ_self _)).trans hbox
      exact ⟨by simp [World.cell?, h1], fun o => by simp [World.frozen?, h1]⟩
    have hpl2 : pre.length ≤ 1000000 := by omega
    clear hx6
    have HF0 := Lib.hid hf0
    have HNX : Hid (∀ We v', Owns (w.heap.size + 1) 3 We v' (pre.map (Value.int .i64) ++ [.int .i64 x]) → (W.alloc (.cells #[.int .i64 x] 3)).grownBy We v.ownBlock → KeepsFrom (w.heap.size + 1) W (We.setCell ⟨w.heap.size, 0, none⟩ v') ∧ KS (· < w.heap.size) W (We.setCell ⟨w.heap.size, 0, none⟩ v') ∧ AqI w (pre ++ [x]) (We.setCell ⟨w.heap.size, 0, none⟩ v')) :=
      fun We v' => AqI.next hbw hsz hbox hown
    have HLO : Hid (∀ We, (W.alloc (.cells #[.int .i64 x] 3)).grownBy We v.ownBlock → KS (· < w.heap.size + 1) W We) := fun We hg b (hb : b < w.heap.size + 1) => (hg.block b (by rw [World.size_alloc]; show b < W.heap.size + 1; omega) (fun e => by have := (ownBlock_lt hown e.symm).1; omega)).trans (Below.heap_alloc W _ b (by show b < W.heap.size; omega))
    obtain ⟨i0, hi, hz0, hz1, hz2⟩ := info_parts Try.infoI
    have how1 : W.ownsRow (w.heap.size + 1) 3 1 v pre.length (pre.map (Value.int .i64)) := by have h := hown; unfold Owns at h; rwa [List.length_map] at h
    obtain ⟨q1, q2⟩ := hf0 W (KS.refl _ _)
    clear hf0 hbw hbox hown hb0
    gi_wp2_with (first
      | (gi_at_builtin; refine wpListIn_append_own _ rfl _ _ 22 rfl (w.heap.size + 1) 3 i0 (.int .i64 0) 1 8 Try.underlying22 hi hz0 hz1 hz2 rfl (by decide) _ _ _ rfl (how1.alloc _) ⟨W.heap.size, 0, none⟩ 1 1 [.int .i64 x] rfl rfl (cell_one_new _ _ _) (by simp [Value.oneCell']) (by unfold maxLen; omega) (by omega) (by rw [World.size_alloc]; omega) ?_; intro v' w3 hown' hg3 hnil3
         have how3 : Owns (w.heap.size + 1) 3 w3 v' (pre.map (Value.int .i64) ++ [.int .i64 x]) := by unfold Owns; rw [List.length_append, List.length_map]; exact hown'
         obtain ⟨vp, vc, rfl, _⟩ := how3.form (n := pre.length + 1) (by simp)
         have HFIN := Lib.hid (HNX.out w3 _ how3 hg3)
         obtain ⟨q3, q4⟩ := HF0.out w3 (HLO.out w3 hg3)
         clear hown' hg3 hnil3 how3 q1 q2 HNX HLO HF0 how1)
      | (rw [Oper.semAt_eq _ _ _ (fun c h => by cases h)]; go_simp; try go_bits))
    have hfin := HFIN.out
    rw [hz6]
    exact hfin
  · rintro D ys W hD rfl ⟨hbw, hsz, v, hbox, hown⟩ hK
    have hb0 : W.cell? ⟨w.heap.size, 0, none⟩ = some v := by simp [World.cell?, hbox]
    gi_wp2_with fail
    have hq : ∀ b, b ≠ D → (W.putObj D (.deferred none)).heap[b]? = W.heap[b]? := fun b hb => World.putObj_heap_other hb
    refine ⟨by simp, .inl ⟨_, _, rfl, run_takeDeferred hK, ?_⟩⟩
    refine ⟨v, by simp [results, Try.results86, go_sem], ⟨hbw.os, hbw.tape, hbw.output, by have h := hbw.size; simpa using h, fun b hb => (hq b (by omega)).trans (hbw.block b hb)⟩, v, rfl, ?_⟩
    refine Owns.mono_baseZ (hown.sameZ fun b hb => hq b (fun e => ?_)) (Nat.le_succ _)
    obtain ⟨c, hc⟩ := hown.typedV hb
    subst e; rw [hK] at hc; cases hc
  · rintro D c pre W _ _ h _
    exact h.elim
set_option maxRecDepth 100000 in
theorem collect_t (w : World) (Bm : Nat) (xs : List Int) {V : Value} (hcm : w.cell? ⟨Bm, 0, none⟩ = some V) (hV : IntsAt Any w V xs) (hlen : xs.length ≤ 1000000) :
    Calls Try.prog 67 #[.func (.func 69) #[] #[.pointer (some ⟨Bm, 0, none⟩)]] w (AqPost w xs) := by
  have HA := Lib.hid (appendSeq_t w Bm xs hcm hV hlen)
  go_enter Try.func67, Try.ntmps67
  go_wp2_with fail
  refine HA.out.mono ?_
  rintro e w1 ⟨hu, v, rfl, ho⟩
  go_wp2_with fail
  go_ret
  exact ⟨hu, v, rfl, ho⟩
end Go.Proofs.Ytflikmllpimaiaa
namespace Go.Proofs.Ytflikmllpimaiaa
open Go.RowKit Go.Shelf Go.Deep Go.Sort
def sortL (xs : List Int) : List Int := xs.mergeSort fun x y => decide (x ≤ y)
theorem sortL_len (xs : List Int) : (sortL xs).length = xs.length := List.length_mergeSort _
set_option maxRecDepth 100000 in
theorem sort_t (w w1 : World) (v : Value) (xs : List Int) (hu : Up w w1) (ho : Owns w.heap.size 3 w1 v (xs.map (Value.int .i64))) (hlen : xs.length ≤ 1000000) :
    Calls Try.prog 68 #[v] w1 fun e w' => e = .returned (.tuple #[]) ∧ Up w w' ∧ Owns w.heap.size 3 w' v ((sortL xs).map (Value.int .i64)) := by
  rcases ho.2 with ⟨rfl, h0⟩ | ⟨g, cap, cur, rfl, hg, hc, hn, hcm, hcs, ht⟩
  · have hx : xs = [] := by cases xs with | nil => rfl | cons _ _ => simp at h0
    subst hx
    refine (AnyM.slices_Sort_int_none Try.sortZ none 0 w1).mono ?_
    rintro e w' ⟨rfl, rfl⟩
    exact ⟨rfl, hu, by unfold sortL; simpa using ho⟩
  · simp only [List.length_map] at hn ht ho ⊢
    refine (AnyM.slices_Sort_int Try.sortZ g 0 cap xs w1 (holds_of_blockI hc (by simpa using ht)) (Array.getElem?_eq_some_iff.1 hc).1 (by omega)).mono ?_
    rintro e w' ⟨rfl, n, os, rfl⟩
    refine ⟨rfl, Below.grown hu (grownBy_sortedI _) hu.size (fun j hj => by cases hj; exact hg), ?_⟩
    have h := ownsRow_sortedI (n := n) (os := os) (ss := xs) (ts := sortL xs) (sortL_len xs) hg hc hn hcm (by simpa using hcs)
    unfold Owns
    rw [List.length_map, sortL_len]
    exact h
theorem grownBy_put {w : World} {g n : Nat} (d : Array Int) : w.grownBy (putRow (Value.int .i64) (Sort.ahead w n) g 0 d) (some g) := by
  refine ⟨rfl, rfl, rfl, by simp [putRow, mapBlock, Sort.ahead], fun k hk hne => ?_⟩
  have : g ≠ k := fun e => hne (by rw [e])
  simp [putRow, mapBlock, Sort.ahead, Array.getElem?_modify, this]
set_option maxRecDepth 100000 in
theorem compact_t (w w1 : World) (v : Value) (xs : List Int) (hu : Up w w1) (ho : Owns w.heap.size 3 w1 v (xs.map (Value.int .i64))) (hlen : xs.length ≤ 1000000) :
    Calls Try.prog 39 #[v] w1 fun e w' => (∃ p cap, e = .returned (.slice p (Lib.compact xs).length cap)) ∧ Up w w' := by
  rcases ho.2 with ⟨rfl, h0⟩ | ⟨g, cap, cur, rfl, hg, hc, hn, hcm, hcs, ht⟩
  · have hx : xs = [] := by cases xs with | nil => rfl | cons _ _ => simp at h0
    subst hx
    refine (Any.slices_Compact_int_empty Try.compactZ none 0 w1).mono ?_
    rintro e w' ⟨rfl, rfl⟩
    exact ⟨⟨_, _, rfl⟩, hu⟩
  · simp only [List.length_map] at hn ht ho ⊢
    refine (Any.slices_Compact_int Try.compactZ g 0 cap xs w1 (holds_of_blockI hc (by simpa using ht)) (by omega) (by omega)).mono ?_
    rintro e w' ⟨rfl, q, rfl⟩
    exact ⟨⟨_, _, rfl⟩, Below.grown hu (grownBy_put _) hu.size (fun j hj => by cases hj; exact hg)⟩
def SoPost (w : World) (xs : List Int) (e : Ending) (w' : World) : Prop := Up w w' ∧ ∃ v, e = .returned v ∧ Owns w.heap.size 3 w' v ((sortL xs).map (Value.int .i64))
set_option maxRecDepth 100000 in
theorem sorted_ints_t (w : World) (Bm : Nat) (xs : List Int) {V : Value} (hcm : w.cell? ⟨Bm, 0, none⟩ = some V) (hV : IntsAt Any w V xs) (hlen : xs.length ≤ 1000000) :
    Calls Try.prog 40 #[.func (.func 69) #[] #[.pointer (some ⟨Bm, 0, none⟩)]] w (SoPost w xs) := by
  have HA := Lib.hid (collect_t w Bm xs hcm hV hlen)
  go_enter Try.func40, Try.ntmps40
  go_wp2_with fail
  refine HA.out.mono ?_
  rintro e w1 ⟨hu, v, rfl, ho⟩
  have HS := Lib.hid (sort_t w w1 v xs hu ho hlen)
  clear hu ho HA
  go_wp2_with fail
  refine HS.out.mono ?_
  rintro e w2 ⟨rfl, hu, ho⟩
  go_wp2_with fail
  go_ret
  exact ⟨hu, v, rfl, ho⟩
end Go.Proofs.Ytflikmllpimaiaa
namespace Go.Proofs.Ytflikmllpimaiaa
open Go
theorem toArray_gi (l : List Int) (j : Nat) : l.toArray[j]! = gi l j := by
  unfold gi
  by_cases h : j < l.length
  · simp [h]
  · simp [h]
theorem compact_mem (l : List Int) (x : Int) : ∀ m, x ∈ Lib.compactUpTo l.toArray m ↔ ∃ j, j < m ∧ gi l j = x
  | 0 => by simp [Lib.compactUpTo]
  | m + 1 => by
    rw [Lib.compactUpTo_succ, List.mem_append, compact_mem l x m, toArray_gi]
    constructor
    · rintro (⟨j, hj, e⟩ | h)
      · exact ⟨j, by omega, e⟩
      · by_cases hk : Lib.keeps l.toArray m = true
        · rw [if_pos hk] at h; exact ⟨m, by omega, (List.mem_singleton.1 h).symm⟩
        · rw [if_neg hk] at h; cases h
    · rintro ⟨j, hj, e⟩
      by_cases hjm : j = m
      · subst hjm
        by_cases hk : Lib.keeps l.toArray j = true
        · rw [if_pos hk]; exact .inr (by simp [e])
        · unfold Lib.keeps at hk
          rw [toArray_gi, toArray_gi] at hk
          simp only [decide_eq_true_eq, not_or, ne_eq, Classical.not_not] at hk
          exact .inl ⟨j - 1, by omega, by rw [← hk.2]; exact e⟩
      · exact .inl ⟨j, by omega, e⟩
theorem compact_nodup {l : List Int} (hs : ∀ i j, i < j → j < l.length → gi l i ≤ gi l j) : ∀ m, m ≤ l.length → (Lib.compactUpTo l.toArray m).Nodup
  | 0, _ => by simp [Lib.compactUpTo]
  | m + 1, h => by
    rw [Lib.compactUpTo_succ, List.nodup_append]
    refine ⟨compact_nodup hs m (by omega), by split <;> simp, fun a ha b hb e => ?_⟩
    subst e
    obtain ⟨j, hj, e⟩ := (compact_mem l a m).1 ha
    by_cases hk : Lib.keeps l.toArray m = true
    · rw [if_pos hk, toArray_gi] at hb
      have hb : a = gi l m := by simpa using hb
      unfold Lib.keeps at hk
      rw [toArray_gi, toArray_gi] at hk
      simp only [decide_eq_true_eq, ne_eq] at hk
      have hne : gi l m ≠ gi l (m - 1) := hk.resolve_left (by omega)
      have h1 : gi l j ≤ gi l (m - 1) := by
        by_cases e2 : j = m - 1
        · rw [e2]; exact Int.le_refl _
        · exact hs j (m - 1) (by omega) (by omega)
      have h2 := hs (m - 1) m (by omega) (by omega)
      omega
    · rw [if_neg hk] at hb; cases hb
theorem sortL_le (xs : List Int) : ∀ i j, i < j → j < (sortL xs).length → gi (sortL xs) i ≤ gi (sortL xs) j := fun i j hij hj => by
  have hp : (sortL xs).Pairwise fun a b => decide (a ≤ b) = true := List.pairwise_mergeSort (le := fun x y => decide (x ≤ y)) (fun a b c h1 h2 => by simp at *; omega) (fun a b => by simp; omega) xs
  have := List.pairwise_iff_getElem.1 hp i j (by omega) hj hij
  have hi : i < (sortL xs).length := by omega
  simpa [gi, hi, hj] using this
theorem mem_sortL {xs : List Int} {x : Int} : x ∈ sortL xs ↔ x ∈ xs := (List.mergeSort_perm xs _).mem_iff
/-- As many as there are different ones. -/
theorem different (xs : List Int) : (Lib.compact (sortL xs)).length = (dd xs).length := by
  have hn := compact_nodup (sortL_le xs) _ (Nat.le_refl _)
  have hm : ∀ x, x ∈ Lib.compact (sortL xs) ↔ x ∈ dd xs := fun x => by
    unfold Lib.compact
    rw [compact_mem, mem_dd, ← mem_sortL]
    constructor
    · rintro ⟨j, hj, e⟩; rw [← e]; exact gi_mem hj
    · intro h; exact mem_gi h
  exact Nat.le_antisymm (List.Nodup.length_le_of_subset hn fun x hx => (hm x).1 hx) (List.Nodup.length_le_of_subset (dd_nodup xs) fun x hx => (hm x).2 hx)
theorem knownL_succ {st : List Int} {k : Nat} (hk : k < st.length) : knownL (st.take (k + 1)) = knownL (st.take k) ++ (if 0 ≤ gi st k then [gi st k] else []) := by
  rw [take_gi hk]
  unfold knownL
  rw [List.filter_append]
  congr 1
  by_cases h : 0 ≤ gi st k
  · rw [if_pos h]; simp [h]
  · rw [if_neg h]; simp [h]
theorem knownL_le (st : List Int) (k : Nat) : (knownL (st.take k)).length ≤ k := Nat.le_trans (List.length_filter_le _ _) (by simp; omega)
end Go.Proofs.Ytflikmllpimaiaa
namespace Go.Proofs.Ytflikmllpimaiaa
open Go.RowKit Go.Deep
theorem unitN4 : unitN 4 = unitL 4 := rfl
theorem unitErr4 : unitErr 4 = 0 := rfl
theorem big4 {t : Tre} {st : List Int} (h1 : t.ps.length ≤ 9223372036854775807) (h2 : t.ns.length ≤ 9223372036854775807) (h3 : ∀ k, (gs t.ns k).size ≤ 9223372036854775807) (h4 : st.length ≤ 9223372036854775807) : Big t st (unitL 4) :=
  ⟨h1, h2, h3, h4, by rw [unitL_len]; decide, fun k => Nat.le_trans (unitL_rowlen 4 k) (by decide)⟩
set_option maxRecDepth 100000 in
set_option maxHeartbeats 2000000 in
theorem fitch_law (w : World) (v vs : Value) (t : Tre) (st : List Int) (hT : TreeAt Any w v t) (hS : IntsAt Any w vs st) (h1 : t.ps.length ≤ 9223372036854775807) (h2 : t.ns.length ≤ 9223372036854775807) (h3 : ∀ k, (gs t.ns k).size ≤ 9223372036854775807) (h4 : st.length ≤ 9223372036854775807) :
    Calls Try.prog 9 #[v, vs] w (BoPost w true) := by
  obtain ⟨P, N, rfl, hP, hN⟩ := hT
  obtain ⟨qS, capS, rfl, hcapS, _⟩ := SlAt.open hS
  have hS : IntsAt Any w (.slice qS st.length capS) st := hS
  have hu := Up.alloc w (.cells #[P, N] 25)
  have hT1 : TreeAt Any (w.alloc (.cells #[P, N] 25)) (.agg #[P, N]) t := TreeAt.keep ⟨P, N, rfl, hP, hN⟩ (hu.kept _)
  have HT := Lib.hid hT1
  have HS := Lib.hid (IntsAt.keep hS (hu.kept _))
  have HU := Lib.hid hu
  have HB0 := Lib.hid (box2_0 w P N 25)
  have HB1 := Lib.hid (box2_1 w P N 25)
  have HBG := Lib.hid (big4 (st := st) h1 h2 h3 h4)
  clear hu hT1 hP hN hS h1 h2 h3 h4
  go_enter Try.func9, Try.ntmps9
  go_wp2_with fail
  generalize w.alloc (.cells #[P, N] 25) = w1 at *
  refine (punit_t w1 4 (by decide) (by decide)).mono ?_
  rintro e w2 ⟨hu2, vc, rfl, hC⟩
  rw [unitN4] at hC
  rw [unitErr4]
  obtain ⟨qC, capC, rfl, hcapC, _⟩ := rows_open hC
  have HC2 := Lib.hid hC
  have hc0 := hu2.cell HB0.out
  have hc1 := hu2.cell HB1.out
  have HU2 := Lib.hid (HU.out.trans hu2)
  have HT2 := Lib.hid (HT.out.keep (hu2.kept _))
  have HS2 := Lib.hid (IntsAt.keep HS.out (hu2.kept _))
  have HFI := Lib.hid (fine_t Any w2 _ _ _ t st (unitL 4) HT2.out HS2.out HC2.out HBG.out)
  have hlen4 : (unitL 4).length = 4 := unitL_len 4
  rw [hlen4] at HFI HC2 ⊢
  clear hu2 hC HU HB0 HB1 HT HS hcapC hlen4
  go_wp2_with fail
  refine HFI.out.mono ?_
  rintro e w3 ⟨rfl, hu3⟩
  have hc0 := hu3.cell hc0
  have hc1 := hu3.cell hc1
  have HU3 := Lib.hid (HU2.out.trans hu3)
  have HT3 := Lib.hid (HT2.out.keep (hu3.kept _))
  have HS3 := Lib.hid (IntsAt.keep HS2.out (hu3.kept _))
  have HC3 := Lib.hid (HC2.out.keep (hu3.kept _))
  clear hu3 HU2 HT2 HS2 HC2 HFI
  by_cases hf : fineB t st (unitL 4) = true
  · obtain ⟨hg, hv⟩ := fine_sized hf
    obtain ⟨hsz, hp12, hn14, hs12, _, hnm, _⟩ := great_sized hg
    have HV := Lib.hid hv
    have HSZ := Lib.hid hsz
    have HFT := Lib.hid (fitch_t Any w3 _ _ t st HT3.out HS3.out (by omega) (by omega) (fun k => by have := hnm k; omega) (by omega))
    rw [hf]
    clear hf hg hv hsz hnm
    go_wp2_with fail
    refine HFT.out.mono ?_
    rintro e w4 ⟨hu4, rfl⟩
    have hc0 := hu4.cell hc0
    have hc1 := hu4.cell hc1
    have HU4 := Lib.hid (HU3.out.trans hu4)
    have HT4 := Lib.hid (HT3.out.keep (hu4.kept _))
    have HS4 := Lib.hid (IntsAt.keep HS3.out (hu4.kept _))
    have HC4 := Lib.hid (HC3.out.keep (hu4.kept _))
    have HSC := Lib.hid (score_t Any w4 _ _ _ t st (unitL 4) HT4.out HS4.out HC4.out HSZ.out)
    clear hu4 HU3 HT3 HS3 HC3 HFT
    go_wp2_with fail
    refine HSC.out.mono ?_
    rintro e w5 ⟨hu5, rfl⟩
    have HU5 := Lib.hid (HU4.out.trans hu5)
    have HS5 := Lib.hid (IntsAt.keep HS4.out (hu5.kept _))
    have hs416 := score_4_16 HV.out
    have hlo := fitch_lo HV.out
    have hhi := fitch_hi HV.out
    have hpr := HV.out.par
    have hpr16 := (valid16 HV.out).par
    rw [hs416, hpr, hpr16]
    rw [← different] at hlo
    have HLO := Lib.hid hlo
    have HHI := Lib.hid hhi
    generalize scoreN t st (unitL 4) = sc at *
    clear hu5 HU4 HT4 HS4 HC4 HSC hs416 hpr hpr16 hlo hhi hc0 hc1
    go_wp2_with fail
    go_loopw [11, 13, 58] (fun d _ i wr => ∃ k : Nat, k ≤ st.length ∧ i = .int .i64 k ∧ Hid (Owns w5.heap.size 3 wr d ((knownL (st.take k)).map (Value.int .i64))) ∧ Hid (Up w5 wr)) (fun _ _ i _ => st.length - (intOf i).toNat)
    case atStart => exact ⟨0, Nat.zero_le _, rfl, Owns.nil _ _ _, Up.refl _⟩
    case round =>
      obtain ⟨k, hk, rfl, hA, hUr⟩ := hrel
      obtain ⟨wo, rfl⟩ : ∃ wo : World, wo = wr := ⟨_, rfl⟩
      by_cases hlt : k < st.length
      · obtain ⟨sb, so, rfl, hcs⟩ := ints_get (IntsAt.keep HS5.out (hUr.out.kept _)) hlt
        have hsz := hUr.out.size
        have HTK := Lib.hid (knownL_succ hlt)
        have hkl := knownL_le st k
        generalize gi st k = s at *
        by_cases h0 : 0 ≤ s
        · have HLN : Hid (((knownL (st.take k)).map (Value.int .i64)).length = (knownL (st.take k)).length) := by unfold Hid; rw [List.length_map]
          generalize hm : (knownL (st.take k)).length = m at *
          go_wp2_with (at_builtin; refine wpList_appN wo rfl _ _ 22 rfl w5.heap.size 3 _ 8 Try.underlying22 Try.infoI rfl (by decide) hA.out rfl _ rfl rfl m HLN.out (by omega) hsz ?_; intro g cap w8 hown1 hg1 hbe1)
          have HO1 : Hid (Owns w5.heap.size 3 w8 (.slice (some ⟨g, 0, none⟩) (m + 1) cap) ((knownL (st.take (k + 1))).map (Value.int .i64))) := by unfold Hid; rw [HTK.out, if_pos h0, List.map_append]; exact hown1
          have HU8 : Hid (Up w5 w8) := Below.trans hUr.out hbe1
          clear hown1 hg1 hbe1
          go_roundw
          case rel => exact ⟨k + 1, by omega, by go_num, HO1, HU8⟩
          case measure => simp [intOf]; omega
        · have HO1 : Hid (Owns w5.heap.size 3 wo u11 ((knownL (st.take (k + 1))).map (Value.int .i64))) := by unfold Hid; rw [HTK.out, if_neg h0, List.append_nil]; exact hA.out
          go_wp2_with fail
          go_roundw
          case rel => exact ⟨k + 1, by omega, by go_num, HO1, hUr⟩
          case measure => simp [intOf]; omega
      · obtain rfl : k = st.length := by omega
        rw [List.take_length] at hA
        obtain ⟨kp, kc, rfl, _⟩ := hA.out.form (n := (knownL st).length) (by rw [List.length_map])
        have hkl : (knownL st).length ≤ st.length := List.length_filter_le _ _
        have HKI : Hid (IntsAt Any wo (.slice kp (knownL st).length kc) (knownL st)) := hA.out.ints.sub fun _ _ _ => trivial
        have HUo := Lib.hid (HU5.out.trans hUr.out)
        clear hlt hk hA hUr HS5 HU5
        go_wp2_with fail
        refine (values_t wo _ rfl).mono ?_
        rintro e w6 ⟨rfl, rfl⟩
        have hu6 := Up.alloc wo (.cells #[.slice kp (knownL st).length kc] 22)
        have HSO := Lib.hid (sorted_ints_t _ _ (knownL st) (box1_0 wo (.slice kp (knownL st).length kc) 22) (HKI.out.keep (hu6.kept _)) (by omega))
        have HU6 := Lib.hid (HUo.out.trans hu6)
        generalize wo.alloc (.cells #[.slice kp (knownL st).length kc] 22) = w6 at *
        clear hu6 HUo HKI
        go_wp2_with fail
        refine HSO.out.mono ?_
        rintro e w7 ⟨hu7, v7, rfl, ho7⟩
        have HCO := Lib.hid (compact_t w6 w7 v7 (sortL (knownL st)) hu7 ho7 (by rw [sortL_len]; omega))
        clear hu7 ho7 HSO
        go_wp2_with fail
        refine HCO.out.mono ?_
        rintro e w8 ⟨⟨p8, c8, rfl⟩, hu8⟩
        have HU8 := Lib.hid (HU6.out.trans hu8)
        clear hu8 HCO HU6
        have hlo := HLO.out
        have hhi := HHI.out
        generalize (Lib.compact (sortL (knownL st))).length = D at *
        generalize (knownL st).length = K at *
        go_wp2_with fail
        refine (awake_t w8).mono ?_
        rintro e w9 ⟨rfl, hu9⟩
        have HU9 := Lib.hid (HU8.out.trans hu9)
        clear hu9
        go_wp2_with fail
        go_ret
        exact ⟨rfl, HU9.out⟩
  · have hf : fineB t st (unitL 4) = false := by simpa using hf
    rw [hf]
    clear hf
    go_wp2_with fail
    refine (awake_t w3).mono ?_
    rintro e w4 ⟨rfl, hu4⟩
    have HU4 := Lib.hid (HU3.out.trans hu4)
    clear hu4
    go_wp2_with fail
    go_ret
    exact ⟨rfl, HU4.out⟩
end Go.Proofs.Ytflikmllpimaiaa
