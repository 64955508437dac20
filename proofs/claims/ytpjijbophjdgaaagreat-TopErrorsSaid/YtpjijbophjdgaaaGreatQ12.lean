/- A list of groups of the call's own; a group appended. slices.Sort at strings that the call has built. slices.Sort at ints that the call has built. Between two rounds of slices.AppendSeq at ints: cut out of V1. Package intset: Check, the membership function; split.Check. -/
import Derived.Test.YtpjijbophjdgaaaGreatQ10
import Derived.Test.YtpjijbophjdgaaaGreatQ1
import Derived.Sort.OwnSorted
import Derived.Shelf.Slices.In.SortNone
import Derived.Test.YtpjijbophjdgaaaGreatQ2
import Derived.Shelf.SortM.Plain
import Derived.Shelf.SortM.SortNone
import Derived.Sort.OwnSortedInts
import Derived.RangeFuncWrites
import Derived.Test.YtpjijbophjdgaaaGreatQ5
import Derived.Laws.EntriesVeiled
import Derived.Shelf.Slices.Empties
import Derived.Test.YtpjijbophjdgaaaGreatQ4
import Derived.Test.YtpjijbophjdgaaaGreatQ7
import Derived.Test.YtpjijbophjdgaaaGreatQ3
namespace Go.Proofs.YtpjijbophjdgaaaGreat
open Go.RowKit Go.Deep
def cellsG : List Grp → List Value → List Value
  | g :: gs, s :: ss => .int .i64 g.un :: .int .i64 g.st :: s :: cellsG gs ss
  | _, _ => []
theorem cellsG_snoc (g : Grp) (s : Value) : ∀ (gs : List Grp) (ss : List Value), ss.length = gs.length → cellsG (gs ++ [g]) (ss ++ [s]) = cellsG gs ss ++ [.int .i64 g.un, .int .i64 g.st, s]
  | [], [], _ => rfl
  | [], _ :: _, h => by simp at h
  | _ :: _, [], h => by simp at h
  | x :: gs, y :: ss, h => by
    simp only [List.cons_append, cellsG]
    rw [cellsG_snoc g s gs ss (by simpa using h)]
theorem cellsG_at : ∀ (gs : List Grp) (ss : List Value), ss.length = gs.length → ∀ k, k < gs.length → (cellsG gs ss)[k * 3]? = some (.int .i64 (gg gs k).un) ∧ (cellsG gs ss)[k * 3 + 1]? = some (.int .i64 (gg gs k).st) ∧ (cellsG gs ss)[k * 3 + 2]? = some (ss.getD k undef)
  | [], _, _, k, hk => absurd hk (Nat.not_lt_zero _)
  | _ :: _, [], h, _, _ => by simp at h
  | x :: gs, y :: ss, h, 0, _ => by simp [cellsG, gg]
  | x :: gs, y :: ss, h, k + 1, hk => by
    have ih := cellsG_at gs ss (by simpa using h) k (by simpa using hk)
    have e : (k + 1) * 3 = k * 3 + 1 + 1 + 1 := by omega
    simp only [cellsG, e, List.getElem?_cons_succ]
    have e2 : gg (x :: gs) (k + 1) = gg gs k := by simp [gg]
    have e3 : (y :: ss).getD (k + 1) undef = ss.getD k undef := by simp
    rw [e2, e3]
    refine ⟨ih.1, ?_, ?_⟩
    · have h1 := ih.2.1; rwa [show k * 3 + 1 = k * 3 + 1 from rfl] at h1
    · exact ih.2.2
def GrpsOwn (base : Nat) (T : TypeId) (w : World) (v : Value) (gs : List Grp) : Prop :=
  ∃ svs : List Value, svs.length = gs.length ∧ w.ownsRow base T 3 v gs.length (cellsG gs svs) ∧ ∀ i, i < gs.length → IntsAt (fun b => some b ≠ v.ownBlock) w (svs.getD i undef) (gg gs i).src
theorem GrpsOwn.nil (base : Nat) (T : TypeId) (w : World) : GrpsOwn base T w (.slice none 0 0) [] := ⟨[], rfl, World.ownsRow_nil _ _ _ _, fun _ hi => absurd hi (Nat.not_lt_zero _)⟩
theorem GrpsOwn.grps {base : Nat} {T : TypeId} {w : World} {v : Value} {gs : List Grp} (h : GrpsOwn base T w v gs) : GrpsAt Any w v gs := by
  obtain ⟨svs, hl, ho, hr⟩ := h
  rcases ho.2 with ⟨rfl, h0⟩ | ⟨g, cap, cur, rfl, hg, hc, hn, hcm, hcs, ht⟩
  · have : gs = [] := by cases gs with | nil => rfl | cons _ _ => simp at h0
    subst this
    exact ⟨none, 0, rfl, Nat.le_refl _, .inl rfl⟩
  · refine ⟨_, cap, rfl, hn, .inr ⟨g, 0, rfl, trivial, fun k hk => ?_⟩⟩
    obtain ⟨c1, c2, c3⟩ := cellsG_at gs svs hl k hk
    refine ⟨svs.getD k undef, ?_, ?_, ?_, (hr k hk).sub fun _ _ _ => trivial⟩
    · rw [Nat.zero_add, ho.cellAt (k * 3) (by omega)]; exact c1
    · rw [Nat.zero_add, ho.cellAt (k * 3 + 1) (by omega)]; exact c2
    · rw [Nat.zero_add, ho.cellAt (k * 3 + 2) (by omega)]; exact c3
section
variable {P : Program} {ops : Array Oper} {rest : List Oper} {o : Oper} {a : Act} {Q : Exit → Act → World → Prop}
theorem wpList_appGrp (W : World) (hgd : o.guard = none) (s x : Operand) (t : TypeId) (ho : o.op = .call { callee := .builtin .append, args := #[s, x], argTypes := #[t, t] })
    (base : Nat) (e : TypeId) (z : Value) (bytes : Nat) (ht : P.underlying t = some (.slice e)) (hinfo : (P.info? e).map (fun i => (i.zero, i.size, i.bytes)) = some (some z, 3, bytes))
    (hz1 : z.cells.size = 3) (hb8 : bytes ≤ 64) {v : Value} {gs : List Grp} (hown : GrpsOwn base e W v gs) (hs : a.eval s = v) (G : Grp) (u : Value)
    (hx : a.eval x = .slice (some ⟨W.heap.size, 0, none⟩) 1 1) (hu : IntsAt (fun b => some b ≠ v.ownBlock) W u G.src) (h1 : u.oneCell' = true) (n : Nat) (hxn : gs.length = n) (hn : n ≤ 1000000) (hbase : base ≤ W.heap.size)
    (h : ∀ g cap w', GrpsOwn base e w' (.slice (some ⟨g, 0, none⟩) (n + 1) cap) (gs ++ [G]) → W.grownBy w' v.ownBlock → Below base W w' → wpList P ops Q rest (a.put o.dst (.slice (some ⟨g, 0, none⟩) (n + 1) cap)) w') :
    wpList P ops Q (o :: rest) a (W.alloc (.cells #[.int .i64 G.un, .int .i64 G.st, u] e)) := by
  subst hxn
  obtain ⟨i, hi, hzz⟩ := Option.map_eq_some_iff.1 hinfo
  simp only [Prod.mk.injEq] at hzz
  obtain ⟨hz, hs1, hb⟩ := hzz
  obtain ⟨svs, hl, hown, hrows⟩ := hown
  refine wpList_append_lies _ hgd s x t ho base e i z 3 bytes ht hi hz hs1 hb hz1 (by omega) v gs.length (cellsG gs svs) hs (hown.alloc _) ⟨W.heap.size, 0, none⟩ 1 1 [.int .i64 G.un, .int .i64 G.st, u] hx rfl ?_ (fun q hq => by
    rcases List.mem_cons.1 hq with e | hq
    · subst e; rfl
    · rcases List.mem_cons.1 hq with e | hq
      · subst e; rfl
      · rw [List.mem_singleton.1 hq]; exact h1) (by omega)
    (by unfold maxLen; omega) ?_ (by simp; omega) _ rfl fun g cap w' h2 h3 h4 _ => ?_
  · intro j u' hj
    match j with
    | 0 => obtain rfl : Value.int .i64 G.un = u' := by simpa using hj
           exact cell_at_new W _ e 0
    | 1 => obtain rfl : Value.int .i64 G.st = u' := by simpa using hj
           exact cell_at_new W _ e 1
    | 2 => obtain rfl : u = u' := by simpa using hj
           exact cell_at_new W _ e 2
    | j + 3 => simp at hj
  · have : (gs.length + 1) * bytes ≤ (gs.length + 1) * 64 := Nat.mul_le_mul_left _ hb8
    omega
  · have hg := grown_alloc h3
    have hgne : ∀ b : Nat, some b ≠ v.ownBlock → b < W.heap.size → some b ≠ (Value.slice (some ⟨g, 0, none⟩) (gs.length + 1) cap).ownBlock := fun b hb hlt e => by
      simp only [Value.ownBlock, Option.some.injEq] at e
      rcases h4 with h4 | h4
      · exact hb (by rw [h4, e])
      · rw [World.size_alloc] at h4; omega
    have hkeep : ∀ {u' : Value} {y' : List Int}, IntsAt (fun b => some b ≠ v.ownBlock) W u' y' → IntsAt (fun b => some b ≠ (Value.slice (some ⟨g, 0, none⟩) (gs.length + 1) cap).ownBlock) w' u' y' := fun hi' =>
      ((hi'.sub (T := fun b => some b ≠ v.ownBlock ∧ b < W.heap.size) fun b hb hlt => ⟨hb, hlt⟩).keep fun b hb hlt => hg.block b hlt hb.1).sub fun b hb _ => hgne b hb.1 hb.2
    refine h g cap w' ⟨svs ++ [u], by simp [hl], ?_, fun i hi => ?_⟩ hg (Below.grown (Below.refl _ _) hg hbase fun k hk => (World.ownsRow.lt hown k hk).1)
    · rw [List.length_append, cellsG_snoc G u gs svs hl]; exact h2
    · rw [List.length_append] at hi
      by_cases hi2 : i < gs.length
      · have e1 : (svs ++ [u]).getD i undef = svs.getD i undef := by simp [List.getElem?_append, hl, hi2]
        have e2 : gg (gs ++ [G]) i = gg gs i := by simp [gg, List.getElem?_append, hi2]
        rw [e1, e2]; exact hkeep (hrows i hi2)
      · obtain rfl : i = gs.length := by simp at hi; omega
        have e1 : (svs ++ [u]).getD gs.length undef = u := by simp [← hl]
        have e2 : gg (gs ++ [G]) gs.length = G := by simp [gg]
        rw [e1, e2]; exact hkeep hu
end
end Go.Proofs.YtpjijbophjdgaaaGreat
namespace Go.Proofs.YtpjijbophjdgaaaGreat
open Go.RowKit Go.Sort Go.Shelf Go.Deep
end Go.Proofs.YtpjijbophjdgaaaGreat
namespace Go.Proofs.YtpjijbophjdgaaaGreat
open Go.RowKit Go.Shelf Go.Deep Go.Sort
def sortL (xs : List Int) : List Int := xs.mergeSort fun x y => decide (x ≤ y)
theorem sortL_len (xs : List Int) : (sortL xs).length = xs.length := List.length_mergeSort _
end Go.Proofs.YtpjijbophjdgaaaGreat
namespace Go.Proofs.YtpjijbophjdgaaaGreat
open Go.RowKit Go.Shelf Go.Deep
attribute [local go_sem] Oper.semAt_some
theorem Owns.sameZ {base : Nat} {e : TypeId} {w w' : World} {v : Value} {vs : List Value} (h : Owns base e w v vs) (k : ∀ b, v.ownBlock = some b → w'.heap[b]? = w.heap[b]?) : Owns base e w' v vs := by
  obtain ⟨hl, h | ⟨g, cap, cur, rfl, hg, hc, hr⟩⟩ := h
  · exact ⟨hl, .inl h⟩
  · exact ⟨hl, .inr ⟨g, cap, cur, rfl, hg, by rw [k g rfl]; exact hc, hr⟩⟩
theorem Owns.mono_baseZ {base base' : Nat} {e : TypeId} {w : World} {v : Value} {vs : List Value} (h : Owns base e w v vs) (hb : base' ≤ base) : Owns base' e w v vs := by
  obtain ⟨hl, h | ⟨g, cap, cur, rfl, hg, hc, hr⟩⟩ := h
  · exact ⟨hl, .inl h⟩
  · exact ⟨hl, .inr ⟨g, cap, cur, rfl, Nat.le_trans hb hg, hc, hr⟩⟩
theorem Owns.typedV {base : Nat} {e : TypeId} {w : World} {v : Value} {vs : List Value} (h : Owns base e w v vs) {b : Nat} (hb : v.ownBlock = some b) : ∃ c, w.heap[b]? = some (Obj.cells c e (0, 0)) := by
  obtain ⟨_, ⟨rfl, _⟩ | ⟨g, cap, cur, rfl, _, hc, _⟩⟩ := h
  · cases hb
  · injection hb with hb; subst hb; exact ⟨cur, hc⟩

def AqI (w0 : World) (pre : List Int) (W : World) : Prop := Below w0.heap.size w0 W ∧ w0.heap.size + 1 ≤ W.heap.size ∧ ∃ v, W.heap[w0.heap.size]? = some (Obj.cells #[v] 26 (0, 0)) ∧ Owns (w0.heap.size + 1) 3 W v (pre.map (Value.int .i64))
theorem AqI.own (w0 : World) {B : Nat} (hB : w0.heap.size + 1 ≤ B) : OwnFrom B (AqI w0) := by
  rintro s X Y row ⟨hb, hsz, v, hbox, hown⟩ hg hr
  have hcell : ∀ (b : Nat) (c : Array Value) (e : TypeId) (z : Nat × Nat), X.heap[b]? = some (Obj.cells c e z) → Y.heap[b]? = X.heap[b]? := fun b c e z hc => hg.block b (Array.getElem?_eq_some_iff.1 hc).1 (fun e2 => by
    obtain ⟨_, o, h1, h2⟩ := hr b e2.symm
    rw [hc] at h1; injection h1 with h1; subst h1; cases h2)
  refine ⟨⟨hg.os.trans hb.os, hg.tape.trans hb.tape, hg.output.trans hb.output, Nat.le_trans hb.size hg.size, fun b hb2 => (hg.block b (by have := hb.size; omega) (fun e => by obtain ⟨h1, _⟩ := hr b e.symm; omega)).trans (hb.block b hb2)⟩, Nat.le_trans hsz hg.size, v, (hcell _ _ _ _ hbox).trans hbox, hown.sameZ fun b hb2 => ?_⟩
  obtain ⟨c, hc⟩ := hown.typedV hb2
  exact hcell _ _ _ _ hc
end Go.Proofs.YtpjijbophjdgaaaGreat
namespace Go.Proofs.YtpjijbophjdgaaaGreat
open Go.RowKit Go.Shelf Go.Deep
def AqPost (w : World) (xs : List Int) (e : Ending) (w' : World) : Prop := Up w w' ∧ ∃ v, e = .returned v ∧ Owns w.heap.size 3 w' v (xs.map (Value.int .i64))
theorem AqI.next {w W We : World} {pre : List Int} {x : Int} {v v' : Value} (hbw : Below w.heap.size w W) (hsz : w.heap.size + 1 ≤ W.heap.size) (hbox : W.heap[w.heap.size]? = some (Obj.cells #[v] 26 (0, 0))) (hown : Owns (w.heap.size + 1) 3 W v (pre.map (Value.int .i64)))
    (ho : Owns (w.heap.size + 1) 3 We v' (pre.map (Value.int .i64) ++ [.int .i64 x])) (hg : (W.alloc (.cells #[.int .i64 x] 3)).grownBy We v.ownBlock) :
    KeepsFrom (w.heap.size + 1) W (We.setCell ⟨w.heap.size, 0, none⟩ v') ∧ KS (· < w.heap.size) W (We.setCell ⟨w.heap.size, 0, none⟩ v') ∧ AqI w (pre ++ [x]) (We.setCell ⟨w.heap.size, 0, none⟩ v') := by
  have hset : ∀ b, b ≠ w.heap.size → (We.setCell ⟨w.heap.size, 0, none⟩ v').heap[b]? = We.heap[b]? := fun b hb => blk_setCell_other _ _ _ _ hb
  have hszs : (We.setCell ⟨w.heap.size, 0, none⟩ v').heap.size = We.heap.size := by simp [World.size_setCell]
  have hga : ∀ b, b < W.heap.size → some b ≠ v.ownBlock → We.heap[b]? = W.heap[b]? := fun b hb hne => (hg.block b (by rw [World.size_alloc]; exact Nat.lt_succ_of_lt hb) hne).trans (Below.heap_alloc W _ b hb)
  have hsize : W.heap.size + 1 ≤ We.heap.size := by have h := hg.size; rw [World.size_alloc] at h; exact h
  have hlow : ∀ b, b < w.heap.size + 1 → We.heap[b]? = W.heap[b]? := fun b hb => hga b (by omega) (fun e => by have := (ownBlock_lt hown e.symm).1; omega)
  have hbe := (hlow w.heap.size (Nat.lt_succ_self _)).trans hbox
  refine ⟨⟨by omega, fun k o hk ho2 hc => ?_⟩, fun b (hb : b < w.heap.size) => (hset b (by omega)).trans (hlow b (by omega)), ⟨hg.os.trans hbw.os, hg.tape.trans hbw.tape, hg.output.trans hbw.output, by omega, fun b hb => ((hset b (by omega)).trans (hlow b (by omega))).trans (hbw.block b hb)⟩, by omega, v', ?_, ?_⟩
  · have hkl : k < W.heap.size := (Array.getElem?_eq_some_iff.1 ho2).1
    rw [hset k (by omega), hga k hkl (fun e => by
      obtain ⟨c, h⟩ := hown.typedV e.symm
      rw [ho2] at h; injection h with h; subst h; cases hc)]
    exact ho2
  · simp [World.setCell, Array.getElem?_modify, hbe]
  · rw [List.map_append]
    exact ho.sameZ fun b hb => hset b (by have := (ownBlock_lt ho hb).1; omega)
end Go.Proofs.YtpjijbophjdgaaaGreat
namespace Go.Proofs.YtpjijbophjdgaaaGreat
open Go.RowKit Go.Deep
set_option maxRecDepth 100000 in
set_option maxHeartbeats 1000000 in
theorem setCheck_t (S : Nat → Prop) (w : World) (v : Value) (l : List Int) (h : IntsAt S w v l) (hn : l.length ≤ 1000000) :
    Calls Tryz.prog 142 #[v] w fun e w' => e = .returned (.int .i64 (setErr l)) ∧ w = w' := by
  have HF : Hid (setErr l = firstNZ (setBad l) l.length) := rfl
  have HB : Hid (∀ i, setBad l i = if gi l i < 0 ∨ 63 < gi l i then 2 else if 0 < i ∧ gi l i ≤ gi l (i - 1) then 10 else 0) := fun _ => rfl
  obtain ⟨p, cap, rfl, -, -⟩ := SlAt.open h
  have H : Hid (IntsAt S w (.slice p l.length cap) l) := h
  clear h
  go_enter Tryz.func142, Tryz.ntmps142
  go_wp2_with fail
  go_loop [3, 4, 7] (fun _ _ i => ∃ k : Nat, k ≤ l.length ∧ i = .int .i64 k ∧ Hid (∀ j, j < k → setBad l j = 0)) (fun _ _ i => l.length - (intOf i).toNat)
  case atStart => exact ⟨0, Nat.zero_le _, rfl, fun j hj => absurd hj (Nat.not_lt_zero _)⟩
  case round =>
    obtain ⟨k, hk, rfl, hd⟩ := hrel
    by_cases hlt : k < l.length
    · obtain ⟨b, off, rfl, hc⟩ := ints_get H.out hlt
      have HK := Lib.hid (HB.out k)
      have HP : Hid (0 < k → w.cell? ⟨b, off + (k - 1), none⟩ = some (.int .i64 (gi l (k - 1)))) := fun h0 => by
        obtain ⟨b2, off2, e, hc2⟩ := ints_get H.out (k := k - 1) (by omega)
        cases e; exact hc2
      generalize gi l k = x at *
      generalize gi l (k - 1) = y at *
      by_cases h1 : x < 0
      · go_wp2_with fail
        go_ret
        have hr : setBad l k = 2 := by rw [HK.out, if_pos (.inl h1)]
        exact ⟨ret_int (by rw [HF.out, firstNZ_at hlt hd.out (by rw [hr]; decide), hr]), rfl⟩
      by_cases h2 : 63 < x
      · go_wp2_with fail
        go_ret
        have hr : setBad l k = 2 := by rw [HK.out, if_pos (.inr h2)]
        exact ⟨ret_int (by rw [HF.out, firstNZ_at hlt hd.out (by rw [hr]; decide), hr]), rfl⟩
      have HX : Hid (¬ (x < 0 ∨ 63 < x)) := by unfold Hid; omega
      by_cases h0 : k = 0
      · subst h0
        rw [Nat.add_zero] at hc
        go_wp2_with fail
        go_round
        case rel => exact ⟨1, by omega, by go_num, fun j hj => by
          have : j = 0 := by omega
          subst this; rw [HK.out, if_neg HX.out, if_neg (by omega)]⟩
        case measure => simp [intOf]; omega
      · have hcp := HP.out (by omega)
        have i1 : (0 : Int) ≤ (k : Int) - 1 := by omega
        have i2 : (k : Int) - 1 < (l.length : Int) := by omega
        have i3 : ((k : Int) - 1).toNat = k - 1 := by omega
        have i4 : wrap64 ((k : Int) - 1) = (k : Int) - 1 := by unfold wrap64; omega
        have i5 : (0 : Int) < (k : Int) := by omega
        have i6 : 0 < k := by omega
        by_cases h3 : x ≤ y
        · go_wp2_with fail
          go_ret
          have hr : setBad l k = 10 := by rw [HK.out, if_neg HX.out, if_pos ⟨by omega, h3⟩]
          exact ⟨ret_int (by rw [HF.out, firstNZ_at hlt hd.out (by rw [hr]; decide), hr]), rfl⟩
        · have HY := Lib.hid h3
          go_wp2_with fail
          go_round
          case rel => exact ⟨k + 1, by omega, by clear i4; go_num, fun j hj => by
            by_cases e : j = k
            · subst e; rw [HK.out, if_neg HX.out, if_neg (fun q => HY.out q.2)]
            · exact hd.out j (by omega)⟩
          case measure => clear i4; simp [intOf]; omega
    · obtain rfl : k = l.length := by omega
      clear hlt
      go_wp2_with fail
      go_ret
      exact ⟨ret_int (by rw [HF.out, firstNZ_zero hd.out]), rfl⟩
theorem has1_t (S : Nat → Prop) (w : World) (b : Nat) (v : Value) (l : List Int) (k : Int) (hb : w.cell? ⟨b, 0, none⟩ = some v) (h : IntsAt S w v l) (hn : l.length ≤ 1000000) (ha : l.Pairwise (· < ·)) :
    Calls Tryz.prog 193 #[.int .i64 k, .pointer (some ⟨b, 0, none⟩)] w fun e w' => e = .returned (.bool (l.contains k)) ∧ ∃ q, w' = w.drewN q := by
  have HB : Hid (Calls Tryz.prog 194 #[v, .int .i64 k] w fun e w' => (∃ c : Int, e = .returned (.tuple #[.int .i64 c, .bool (l.contains k)])) ∧ ∃ q, w' = w.drewN q) := by
    obtain ⟨p, cap, rfl, hcap, hc⟩ := SlAt.open h
    by_cases h0 : l = []
    · subst h0
      refine (Any.slices_BinarySearch_int_empty Tryz.bsI p cap k w).mono ?_
      rintro e w' ⟨rfl, rfl⟩
      exact ⟨⟨_, rfl⟩, 0, rfl⟩
    · have hl : 0 < l.length := List.length_pos_iff.2 h0
      obtain ⟨g, off, rfl, _⟩ := hc 0 hl
      refine (Any.slices_BinarySearch_int Tryz.bsI g off l.length cap l k w (Nat.le_refl _) (by omega) (fun j hj => ?_) (by rw [List.take_length]; exact ha.imp fun h => Int.le_of_lt h)).mono ?_
      · obtain ⟨g', off', e, hc'⟩ := hc j hj
        cases e
        exact hc'
      · rintro e w' ⟨rfl, q, rfl⟩
        rw [List.take_length]
        exact ⟨⟨_, rfl⟩, q, rfl⟩
  obtain ⟨p, cap, rfl, -, -⟩ := SlAt.open h
  clear h ha
  go_enter Tryz.func193, Tryz.ntmps193
  go_wp2_with fail
  refine HB.out.mono ?_
  rintro e w' ⟨⟨c, rfl⟩, q, rfl⟩
  go_wp2_with fail
  go_ret
  exact ⟨ret_bool (by simp), q, rfl⟩
theorem has_t (w : World) (p : Option Addr) (n c : Nat) : Calls Tryz.prog 155 #[.slice p n c] w fun e w' => e = .returned (.func (.func 193) #[] #[.pointer (some ⟨w.heap.size, 0, none⟩)]) ∧ w' = w.alloc (.cells #[.slice p n c] 26) := by
  go_enter Tryz.func155, Tryz.ntmps155
  go_wp2_with fail
  go_ret
  exact ⟨rfl, rfl⟩
set_option maxRecDepth 100000 in
set_option maxHeartbeats 1000000 in
theorem splCheck_t (S : Nat → Prop) (w : World) (v : Value) (n : Int) (l : List Int) (h : IntsAt S w v l) (hn : l.length ≤ 1000000) :
    Calls Tryz.prog 71 #[.int .i64 n, v] w fun e w' => e = .returned (.int .i64 (splErr n l)) ∧ w = w' := by
  have HF : Hid (splErr n l = if n < 1 ∨ 32 < n then 2 else if setErr l ≠ 0 then setErr l else if 0 < l.length ∧ (gi l 0 = 0 ∨ n ≤ gi l (l.length - 1)) then 2 else if (l.length : Int) < 2 ∨ n - 2 < l.length then 8 else 0) := rfl
  have HC := Lib.hid (setCheck_t S w v l h hn)
  obtain ⟨p, cap, rfl, -, -⟩ := SlAt.open h
  have H : Hid (IntsAt S w (.slice p l.length cap) l) := h
  clear h
  by_cases h1 : n < 1
  · go_enter Tryz.func71, Tryz.ntmps71
    go_wp2_with fail
    go_ret
    exact ⟨ret_int (by rw [HF.out, if_pos (.inl h1)]), rfl⟩
  by_cases h2 : 32 < n
  · go_enter Tryz.func71, Tryz.ntmps71
    go_wp2_with fail
    go_ret
    exact ⟨ret_int (by rw [HF.out, if_pos (.inr h2)]), rfl⟩
  have HN : Hid (¬ (n < 1 ∨ 32 < n)) := by unfold Hid; omega
  generalize hse : setErr l = se at *
  by_cases h3 : se = 0
  · have HSE : Hid (¬ se ≠ 0) := fun e => e h3
    subst h3
    have hm2 : wrap64 (n - 2) = n - 2 := by unfold wrap64; omega
    by_cases h0 : l.length = 0
    · have h00 : ((l.length : Int) < 2) := by omega
      have h01 : ¬ (0 : Int) < (l.length : Int) := by omega
      have h02 : ¬ 0 < l.length := by omega
      clear h0
      go_enter Tryz.func71, Tryz.ntmps71
      go_wp2_with fail
      refine HC.out.mono ?_
      rintro e w' ⟨rfl, rfl⟩
      go_wp2_with fail
      go_ret
      exact ⟨ret_int (by rw [HF.out, if_neg HN.out, if_neg HSE.out, if_neg (by omega), if_pos (.inl h00)]), rfl⟩
    · obtain ⟨b, off, rfl, hc⟩ := ints_get H.out (show 0 < l.length by omega)
      obtain ⟨b2, off2, e2, hd⟩ := ints_get H.out (show l.length - 1 < l.length by omega)
      cases e2
      rw [Nat.add_zero] at hc
      have i0 : 0 < l.length := by omega
      have i00 : (0 : Int) < (l.length : Int) := by omega
      have i1 : (0 : Int) ≤ (l.length : Int) - 1 := by omega
      have i2 : (l.length : Int) - 1 < (l.length : Int) := by omega
      have i3 : ((l.length : Int) - 1).toNat = l.length - 1 := by omega
      have i4 : wrap64 ((l.length : Int) - 1) = (l.length : Int) - 1 := by unfold wrap64; omega
      generalize gi l 0 = x at *
      generalize gi l (l.length - 1) = y at *
      by_cases h4 : x = 0
      · subst h4
        go_enter Tryz.func71, Tryz.ntmps71
        go_wp2_with fail
        refine HC.out.mono ?_
        rintro e w' ⟨rfl, rfl⟩
        go_wp2_with fail
        go_ret
        exact ⟨ret_int (by rw [HF.out, if_neg HN.out, if_neg HSE.out, if_pos ⟨i0, .inl (by simp)⟩]), rfl⟩
      have h4b : (x == 0) = false := by simpa using h4
      by_cases h5 : n ≤ y
      · go_enter Tryz.func71, Tryz.ntmps71
        go_wp2_with fail
        refine HC.out.mono ?_
        rintro e w' ⟨rfl, rfl⟩
        go_wp2_with fail
        go_ret
        exact ⟨ret_int (by rw [HF.out, if_neg HN.out, if_neg HSE.out, if_pos ⟨i0, .inr h5⟩]), rfl⟩
      have HQ : Hid (¬ (0 < l.length ∧ (x = 0 ∨ n ≤ y))) := fun e => by
        rcases e.2 with e | e
        · exact h4 e
        · exact h5 e
      by_cases h6 : (l.length : Int) < 2
      · go_enter Tryz.func71, Tryz.ntmps71
        go_wp2_with fail
        refine HC.out.mono ?_
        rintro e w' ⟨rfl, rfl⟩
        go_wp2_with fail
        go_ret
        exact ⟨ret_int (by rw [HF.out, if_neg HN.out, if_neg HSE.out, if_neg HQ.out, if_pos (.inl h6)]), rfl⟩
      by_cases h7 : n - 2 < (l.length : Int)
      · go_enter Tryz.func71, Tryz.ntmps71
        go_wp2_with fail
        refine HC.out.mono ?_
        rintro e w' ⟨rfl, rfl⟩
        go_wp2_with fail
        go_ret
        exact ⟨ret_int (by rw [HF.out, if_neg HN.out, if_neg HSE.out, if_neg HQ.out, if_pos (.inr h7)]), rfl⟩
      · go_enter Tryz.func71, Tryz.ntmps71
        go_wp2_with fail
        refine HC.out.mono ?_
        rintro e w' ⟨rfl, rfl⟩
        go_wp2_with fail
        go_ret
        exact ⟨ret_int (by rw [HF.out, if_neg HN.out, if_neg HSE.out, if_neg HQ.out, if_neg (by omega)]), rfl⟩
  · have hsb : (se == 0) = false := by simpa using h3
    have hsc : (se != 0) = true := by simpa using h3
    go_enter Tryz.func71, Tryz.ntmps71
    go_wp2_with fail
    refine HC.out.mono ?_
    rintro e w' ⟨rfl, rfl⟩
    go_wp2_with fail
    go_ret
    exact ⟨ret_int (by rw [HF.out, if_neg HN.out, if_pos h3]), rfl⟩
end Go.Proofs.YtpjijbophjdgaaaGreat
