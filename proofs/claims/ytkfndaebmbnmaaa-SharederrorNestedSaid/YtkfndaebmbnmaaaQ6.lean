/- A list of groups of the call's own; a group appended. The contract of layer 31's reference's children. The contract of sharederror.Groups. The walk of sharederror.Groups. Sets of sources as numbers: of, within, conflict, sources. -/
import Derived.Test.YtkfndaebmbnmaaaQ5
import Derived.Test.YtkfndaebmbnmaaaQ3
import Derived.Test.YtkfndaebmbnmaaaQ1
import Derived.Laws.Bits64b
import Derived.Laws.BitsAllLaws
namespace Go.Proofs.Ytkfndaebmbnmaaa
open Go.RowKit Go.Deep
def cellsG : List Grp → List Value → List Value
  | g :: gs, s :: ss => .int .i64 g.un :: .int .i64 g.st :: s :: cellsG gs ss
  | _, _ => []
theorem cellsG_snoc (g : Grp) (s : Value) : ∀ (gs : List Grp) (ss : List Value), ss.length = gs.length → cellsG (gs ++ [g]) (ss ++ [s]) = cellsG gs ss ++ [.int .i64 g.un, .int .i64 g.st, s]
  | [], [], _ => rfl
  | [], _ :: _, h => by simp at h
  | _ :: _, [], h => by simp at h
  | x :: gs, y :: ss, h => by
    simp only [List.cons_append, cellsG]
    rw [cellsG_snoc g s gs ss (by simpa using h)]
theorem cellsG_at : ∀ (gs : List Grp) (ss : List Value), ss.length = gs.length → ∀ k, k < gs.length → (cellsG gs ss)[k * 3]? = some (.int .i64 (gg gs k).un) ∧ (cellsG gs ss)[k * 3 + 1]? = some (.int .i64 (gg gs k).st) ∧ (cellsG gs ss)[k * 3 + 2]? = some (ss.getD k undef)
  | [], _, _, k, hk => absurd hk (Nat.not_lt_zero _)
  | _ :: _, [], h, _, _ => by simp at h
  | x :: gs, y :: ss, h, 0, _ => by simp [cellsG, gg]
  | x :: gs, y :: ss, h, k + 1, hk => by
    have ih := cellsG_at gs ss (by simpa using h) k (by simpa using hk)
    have e : (k + 1) * 3 = k * 3 + 1 + 1 + 1 := by omega
    simp only [cellsG, e, List.getElem?_cons_succ]
    have e2 : gg (x :: gs) (k + 1) = gg gs k := by simp [gg]
    have e3 : (y :: ss).getD (k + 1) undef = ss.getD k undef := by simp
    rw [e2, e3]
    refine ⟨ih.1, ?_, ?_⟩
    · have h1 := ih.2.1; rwa [show k * 3 + 1 = k * 3 + 1 from rfl] at h1
    · exact ih.2.2
theorem cellsG_len : ∀ (gs : List Grp) (ss : List Value), ss.length = gs.length → (cellsG gs ss).length = gs.length * 3
  | [], [], _ => rfl
  | [], _ :: _, h => by simp at h
  | _ :: _, [], h => by simp at h
  | x :: gs, y :: ss, h => by simp only [cellsG, List.length_cons]; rw [cellsG_len gs ss (by simpa using h)]; omega
def GrpsOwn (base : Nat) (T : TypeId) (w : World) (v : Value) (gs : List Grp) : Prop :=
  ∃ svs : List Value, svs.length = gs.length ∧ w.ownsRow base T 3 v gs.length (cellsG gs svs) ∧ ∀ i, i < gs.length → IntsAt (fun b => some b ≠ v.ownBlock) w (svs.getD i undef) (gg gs i).src
theorem GrpsOwn.nil (base : Nat) (T : TypeId) (w : World) : GrpsOwn base T w (.slice none 0 0) [] := ⟨[], rfl, World.ownsRow_nil _ _ _ _, fun _ hi => absurd hi (Nat.not_lt_zero _)⟩
theorem GrpsOwn.grps {base : Nat} {T : TypeId} {w : World} {v : Value} {gs : List Grp} (h : GrpsOwn base T w v gs) : GrpsAt Any w v gs := by
  obtain ⟨svs, hl, ho, hr⟩ := h
  rcases ho.2 with ⟨rfl, h0⟩ | ⟨g, cap, cur, rfl, hg, hc, hn, hcm, hcs, ht⟩
  · have : gs = [] := by cases gs with | nil => rfl | cons _ _ => simp at h0
    subst this
    exact ⟨none, 0, rfl, Nat.le_refl _, .inl rfl⟩
  · refine ⟨_, cap, rfl, hn, .inr ⟨g, 0, rfl, trivial, fun k hk => ?_⟩⟩
    obtain ⟨c1, c2, c3⟩ := cellsG_at gs svs hl k hk
    refine ⟨svs.getD k undef, ?_, ?_, ?_, (hr k hk).sub fun _ _ _ => trivial⟩
    · rw [Nat.zero_add, ho.cellAt (k * 3) (by omega)]; exact c1
    · rw [Nat.zero_add, ho.cellAt (k * 3 + 1) (by omega)]; exact c2
    · rw [Nat.zero_add, ho.cellAt (k * 3 + 2) (by omega)]; exact c3
section
variable {P : Program} {ops : Array Oper} {rest : List Oper} {o : Oper} {a : Act} {Q : Exit → Act → World → Prop}
/-- 'out = append(out, g)', g a group. -/
theorem wpList_appGrp (W : World) (hgd : o.guard = none) (s x : Operand) (t : TypeId) (ho : o.op = .call { callee := .builtin .append, args := #[s, x], argTypes := #[t, t] })
    (base : Nat) (e : TypeId) (z : Value) (bytes : Nat) (ht : P.underlying t = some (.slice e)) (hinfo : (P.info? e).map (fun i => (i.zero, i.size, i.bytes)) = some (some z, 3, bytes))
    (hz1 : z.cells.size = 3) (hb8 : bytes ≤ 64) {v : Value} {gs : List Grp} (hown : GrpsOwn base e W v gs) (hs : a.eval s = v) (G : Grp) (u : Value)
    (hx : a.eval x = .slice (some ⟨W.heap.size, 0, none⟩) 1 1) (hu : IntsAt (fun b => some b ≠ v.ownBlock) W u G.src) (h1 : u.oneCell' = true) (n : Nat) (hxn : gs.length = n) (hn : n ≤ 1000000) (hbase : base ≤ W.heap.size)
    (h : ∀ g cap w', GrpsOwn base e w' (.slice (some ⟨g, 0, none⟩) (n + 1) cap) (gs ++ [G]) → W.grownBy w' v.ownBlock → Below base W w' → wpList P ops Q rest (a.put o.dst (.slice (some ⟨g, 0, none⟩) (n + 1) cap)) w') :
    wpList P ops Q (o :: rest) a (W.alloc (.cells #[.int .i64 G.un, .int .i64 G.st, u] e)) := by
  subst hxn
  obtain ⟨i, hi, hzz⟩ := Option.map_eq_some_iff.1 hinfo
  simp only [Prod.mk.injEq] at hzz
  obtain ⟨hz, hs1, hb⟩ := hzz
  obtain ⟨svs, hl, hown, hrows⟩ := hown
  refine wpList_append_lies _ hgd s x t ho base e i z 3 bytes ht hi hz hs1 hb hz1 (by omega) v gs.length (cellsG gs svs) hs (hown.alloc _) ⟨W.heap.size, 0, none⟩ 1 1 [.int .i64 G.un, .int .i64 G.st, u] hx rfl ?_ (fun q hq => by
    rcases List.mem_cons.1 hq with e | hq
    · subst e; rfl
    · rcases List.mem_cons.1 hq with e | hq
      · subst e; rfl
      · rw [List.mem_singleton.1 hq]; exact h1) (by omega)
    (by unfold maxLen; omega) ?_ (by simp; omega) _ rfl fun g cap w' h2 h3 h4 _ => ?_
  · intro j u' hj
    match j with
    | 0 => obtain rfl : Value.int .i64 G.un = u' := by simpa using hj
           exact cell_at_new W _ e 0
    | 1 => obtain rfl : Value.int .i64 G.st = u' := by simpa using hj
           exact cell_at_new W _ e 1
    | 2 => obtain rfl : u = u' := by simpa using hj
           exact cell_at_new W _ e 2
    | j + 3 => simp at hj
  · have : (gs.length + 1) * bytes ≤ (gs.length + 1) * 64 := Nat.mul_le_mul_left _ hb8
    omega
  · have hg := grown_alloc h3
    have hgne : ∀ b : Nat, some b ≠ v.ownBlock → b < W.heap.size → some b ≠ (Value.slice (some ⟨g, 0, none⟩) (gs.length + 1) cap).ownBlock := fun b hb hlt e => by
      simp only [Value.ownBlock, Option.some.injEq] at e
      rcases h4 with h4 | h4
      · exact hb (by rw [h4, e])
      · rw [World.size_alloc] at h4; omega
    have hkeep : ∀ {u' : Value} {y' : List Int}, IntsAt (fun b => some b ≠ v.ownBlock) W u' y' → IntsAt (fun b => some b ≠ (Value.slice (some ⟨g, 0, none⟩) (gs.length + 1) cap).ownBlock) w' u' y' := fun hi' =>
      ((hi'.sub (T := fun b => some b ≠ v.ownBlock ∧ b < W.heap.size) fun b hb hlt => ⟨hb, hlt⟩).keep fun b hb hlt => hg.block b hlt hb.1).sub fun b hb _ => hgne b hb.1 hb.2
    refine h g cap w' ⟨svs ++ [u], by simp [hl], ?_, fun i hi => ?_⟩ hg (Below.grown (Below.refl _ _) hg hbase fun k hk => (World.ownsRow.lt hown k hk).1)
    · rw [List.length_append, cellsG_snoc G u gs svs hl]; exact h2
    · rw [List.length_append] at hi
      by_cases hi2 : i < gs.length
      · have e1 : (svs ++ [u]).getD i undef = svs.getD i undef := by simp [List.getElem?_append, hl, hi2]
        have e2 : gg (gs ++ [G]) i = gg gs i := by simp [gg, List.getElem?_append, hi2]
        rw [e1, e2]; exact hkeep (hrows i hi2)
      · obtain rfl : i = gs.length := by simp at hi; omega
        have e1 : (svs ++ [u]).getD gs.length undef = u := by simp [← hl]
        have e2 : gg (gs ++ [G]) gs.length = G := by simp [gg]
        rw [e1, e2]; exact hkeep hu
end
end Go.Proofs.Ytkfndaebmbnmaaa
namespace Go.Proofs.Ytkfndaebmbnmaaa
open Go.RowKit Go.Deep
def KdPost (w : World) (l : List Nat) (e : Ending) (w' : World) : Prop := Below w.heap.size w w' ∧ ∃ v, e = .returned v ∧ IntsAt (fun b => w.heap.size ≤ b) w' v (ofNats l)
end Go.Proofs.Ytkfndaebmbnmaaa
namespace Go.Proofs.Ytkfndaebmbnmaaa
open Go.RowKit Go.Deep
theorem Try.infoEG : (Try.prog.info? 32).map (fun i => (i.zero, i.size, i.bytes)) = some (some (.agg #[.int .i64 0, .int .i64 0, .slice none 0 0]), 3, 40) := by kernel_rfl
theorem GrpsOwn.kept {base : Nat} {T : TypeId} {w w' : World} {v : Value} {gs : List Grp} (h : GrpsOwn base T w v gs) (k : Up w w') : GrpsOwn base T w' v gs := by
  obtain ⟨svs, hl, ho, hr⟩ := h
  refine ⟨svs, hl, ⟨ho.1, ?_⟩, fun i hi => (hr i hi).keep (k.kept _)⟩
  rcases ho.2 with h1 | ⟨g, cap, cur, e, hg, hc, h2⟩
  · exact .inl h1
  · exact .inr ⟨g, cap, cur, e, hg, (Below.block k g (Array.getElem?_eq_some_iff.1 hc).1).trans hc, h2⟩
theorem GrpsOwn.lt {base : Nat} {T : TypeId} {w : World} {v : Value} {gs : List Grp} (h : GrpsOwn base T w v gs) {b : Nat} (hb : v.ownBlock = some b) : base ≤ b ∧ b < w.heap.size := by
  obtain ⟨svs, _, ho, _⟩ := h
  exact World.ownsRow.lt ho b hb
set_option maxHeartbeats 400000 in
theorem groups1_t (w : World) (x : Int) : FnIs 46 #[] #[.int .i64 x] (.bool (decide (x < -1) || decide (16 ≤ x))) w := by
  unfold FnIs
  go_enter Try.func46, Try.ntmps46
  by_cases hx : x < -1
  · go_wp2_with fail
    go_ret
    exact ⟨ret_bool (by simp [hx]), rfl⟩
  · go_wp2_with fail
    go_ret
    exact ⟨ret_bool (by simp; omega), rfl⟩
end Go.Proofs.Ytkfndaebmbnmaaa
namespace Go.Proofs.Ytkfndaebmbnmaaa
open Go.RowKit Go.Deep
theorem agRow_len {xs : List (List Int)} (h : agErr xs = 0) {k : Nat} (hk : k < xs.length) : (gl xs k).length = (gl xs 0).length := by
  unfold agErr at h
  split at h
  · cases h
  · split at h
    · cases h
    · have h1 := firstNZ_eq_zero h k hk
      unfold agRow at h1
      split at h1
      · cases h1
      · rename_i h2
        exact Classical.not_not.1 h2
theorem stK_len (xs : List (List Int)) (og : List Int) (u s : Nat) : (stK xs og u s).length ≤ s := by
  induction s with
  | zero => exact Nat.le_refl _
  | succ s ih =>
    rw [stK_succ, List.length_append]
    have : (grp1 xs og u s).length ≤ 1 := by unfold grp1; split <;> simp
    omega
theorem unK_len (xs : List (List Int)) (og : List Int) (k : Nat) : (unK xs og k).length ≤ k * 16 := by
  induction k with
  | zero => exact Nat.le_refl _
  | succ k ih =>
    rw [unK_succ, List.length_append]
    have : (unG xs og k).length ≤ 16 := by
      unfold unG
      split
      · exact Nat.zero_le _
      · exact stK_len xs og k 16
    omega
/-- The group under way, in its block. -/
def GrW (wS wr : World) (u s : Int) (l : List Int) : Prop :=
  Up wS wr ∧ ∃ sv, wr.heap[wS.heap.size]? = some (Obj.cells #[.int .i64 u, .int .i64 s, sv] 32 (0, 0)) ∧ Owns (wS.heap.size + 1) 3 wr sv (l.map (Value.int .i64)) ∧ wS.heap.size + 1 ≤ wr.heap.size
theorem GrW.cells {wS wr : World} {u s : Int} {l : List Int} (h : GrW wS wr u s l) : ∃ sv, wr.cell? ⟨wS.heap.size, 0, none⟩ = some (.int .i64 u) ∧ wr.cell? ⟨wS.heap.size, 1, none⟩ = some (.int .i64 s) ∧ wr.cell? ⟨wS.heap.size, 2, none⟩ = some sv ∧ Owns (wS.heap.size + 1) 3 wr sv (l.map (Value.int .i64)) ∧ wS.heap.size + 1 ≤ wr.heap.size := by
  obtain ⟨_, sv, hc, ho, hs⟩ := h
  refine ⟨sv, ?_, ?_, ?_, ho, hs⟩ <;> simp [World.cell?, hc]
theorem GrW.app {wS wr w8 : World} {u s x : Int} {l : List Int} (h : GrW wS wr u s l) {v : Value} (ho : Owns (wS.heap.size + 1) 3 w8 v (l.map (Value.int .i64) ++ [.int .i64 x])) (hb : Below (wS.heap.size + 1) wr w8) :
    (∃ c, w8.cell? ⟨wS.heap.size, 2, none⟩ = some c) ∧ w8.frozen? ⟨wS.heap.size, 2, none⟩ = false ∧ GrW wS (w8.setCell ⟨wS.heap.size, 2, none⟩ v) u s (l ++ [x]) := by
  obtain ⟨hu, sv, hc, _, hs⟩ := h
  have hc8 : w8.heap[wS.heap.size]? = some (Obj.cells #[.int .i64 u, .int .i64 s, sv] 32 (0, 0)) := (hb.block _ (Nat.lt_succ_self _)).trans hc
  refine ⟨⟨sv, by simp [World.cell?, hc8]⟩, by simp [World.frozen?, hc8], ?_, v, ?_, ?_, ?_⟩
  · exact Below.setCell (p := ⟨wS.heap.size, 2, none⟩) (Below.trans hu (Below.mono hb (Nat.le_succ _))) (Nat.le_refl _) _
  · simp [World.setCell, Array.getElem?_modify, hc8]
  · rw [List.map_append]
    exact ho.kept fun b hb2 _ => Below.heap_setCell w8 _ _ b (by simp only; omega)
  · rw [World.size_setCell]; exact Nat.le_trans hs hb.size
def GrPost (w : World) (xs : List (List Int)) (og : List Int) (e : Ending) (w' : World) : Prop :=
  Up w w' ∧ ∃ v, e = .returned (.tuple #[v, .int .i64 (grErr xs og)]) ∧ GrpsAt Any w' v (groupsN xs og)
set_option maxRecDepth 100000 in
set_option maxHeartbeats 2000000 in
theorem groups_t (S : Nat → Prop) (w : World) (v vo : Value) (xs : List (List Int)) (og : List Int) (h : RowsAt S w v xs) (ho : IntsAt S w vo og) (hn : xs.length ≤ 1000000) (hr : ∀ k, (gl xs k).length ≤ 1000000) (hon : og.length ≤ 1000000) :
    Calls Try.prog 13 #[v, vo] w (GrPost w xs og) := by
  have HAC := Lib.hid (agcheck_t S w v xs h hn hr)
  obtain ⟨p, cap, rfl, hcap, _⟩ := rows_open h
  obtain ⟨po, co, rfl, hco, _⟩ := SlAt.open ho
  have ho : IntsAt S w (.slice po og.length co) og := ho
  have H := Lib.hid h
  have HO := Lib.hid ho
  have HCO := Lib.hid (ints_has_t 46 #[] (enters_of Try.func46 (by kernel_rfl) rfl) S w _ og.length _ (fun j => decide (gi og j < -1) || decide (16 ≤ gi og j)) ho hon (fun j _ => groups1_t w (gi og j)))
  have HGE : Hid (grErr xs og = if agErr xs ≠ 0 then agErr xs else if og.length ≠ plN xs then 9 else if stBad og (-1) 16 then 2 else 0) := rfl
  have HGN : Hid (groupsN xs og = if grErr xs og = 0 then unK xs og og.length else []) := rfl
  have HNIL : Hid (∀ W, GrpsAt Any W (.slice none 0 0) []) := fun _ => ⟨none, 0, rfl, Nat.le_refl _, .inl rfl⟩
  clear h ho
  by_cases ha : agErr xs = 0
  · have hx0 : 0 < xs.length := by
      by_cases h0 : xs.length = 0
      · unfold agErr at ha; rw [if_pos h0] at ha; cases ha
      · omega
    obtain ⟨b, off, q0, c0, rfl, hc0, _⟩ := rows_get H.out hx0
    have hc00 : w.cell? ⟨b, off, none⟩ = some (.slice q0 (gl xs 0).length c0) := by simpa using hc0
    have hl0 := hr 0
    have hpl : (gl xs 0).length ≤ 4096 := by
      unfold agErr at ha
      split at ha
      · cases ha
      · split at ha
        · cases ha
        · omega
    have hxp : decide ((0 : Int) < (xs.length : Int)) = true := by simpa using hx0
    rw [ha] at HAC
    clear hc0
    by_cases hl : og.length = (gl xs 0).length
    · have hl1 : ((og.length : Int) != ((gl xs 0).length : Int)) = false := by simp [hl]
      by_cases hb : stBad og (-1) 16 = true
      · have HSB : Hid (stBad og (-1) 16 = (List.range og.length).any fun j => decide (gi og j < -1) || decide (16 ≤ gi og j)) := rfl
        have HB := Lib.hid hb
        have hge : grErr xs og = 2 := by rw [HGE.out, if_neg (fun e => e ha), if_neg (fun e => e hl), if_pos hb]
        have HG := Lib.hid hge
        clear hge hb hl
        go_enter Try.func13, Try.ntmps13
        go_wp2_with fail
        refine HAC.out.mono ?_
        rintro e w' ⟨rfl, rfl⟩
        go_wp2_with fail
        refine HCO.out.mono ?_
        rintro e w' ⟨rfl, rfl⟩
        rw [← HSB.out, HB.out]
        go_wp2_with fail
        go_ret2
        exact ⟨Up.refl _, _, by rw [HG.out]; rfl, by rw [HGN.out, HG.out]; exact HNIL.out _⟩
      · have hb2 : stBad og (-1) 16 = false := by simpa using hb
        have HSB : Hid (stBad og (-1) 16 = (List.range og.length).any fun j => decide (gi og j < -1) || decide (16 ≤ gi og j)) := rfl
        have HB := Lib.hid hb2
        have HG : Hid (grErr xs og = 0) := by unfold Hid; rw [HGE.out, if_neg (fun e => e ha), if_neg (fun e => e (by unfold plN; exact hl)), if_neg hb]
        have HLL := Lib.hid hl
        have hog4 : og.length ≤ 4096 := by omega
        have HRW : Hid (∀ k, k < xs.length → (gl xs k).length = og.length) := fun k hk => (agRow_len ha hk).trans hl.symm
        clear hb hb2 hl ha
        go_enter Try.func13, Try.ntmps13
        go_wp2_with fail
        refine HAC.out.mono ?_
        rintro e w' ⟨rfl, rfl⟩
        go_wp2_with fail
        refine HCO.out.mono ?_
        rintro e w' ⟨rfl, rfl⟩
        rw [← HSB.out, HB.out]
        go_wp2_with fail
        go_loopw [8, 35] (fun d i wr => ∃ k : Nat, k ≤ og.length ∧ i = .int .i64 k ∧ Hid (GrpsOwn w.heap.size 32 wr d (unK xs og k)) ∧ Hid (Up w wr)) (fun _ i _ => og.length - (intOf i).toNat)
        case atStart => exact ⟨0, Nat.zero_le _, rfl, GrpsOwn.nil _ _ _, Up.refl _⟩
        case round =>
          obtain ⟨k, hk, rfl, hD, hUr⟩ := hrel
          obtain ⟨wo, rfl⟩ : ∃ wo : World, wo = wr := ⟨_, rfl⟩
          obtain ⟨d, rfl⟩ : ∃ d : Value, d = u8 := ⟨_, rfl⟩
          by_cases hlt : k < og.length
          · obtain ⟨ob, oo, rfl, hco0⟩ := ints_get (IntsAt.keep HO.out (hUr.out.kept _)) hlt
            have HUN := Lib.hid (unK_succ xs og k)
            have HUG : Hid (unG xs og k = if gi og k < 0 then [] else stK xs og k 16) := rfl
            by_cases h0 : gi og k < 0
            · have HD1 : Hid (GrpsOwn w.heap.size 32 wo d (unK xs og (k + 1))) := by unfold Hid; rw [HUN.out, HUG.out, if_pos h0, List.append_nil]; exact hD.out
              generalize gi og k = f at *
              go_wp2_with fail
              go_roundw
              case rel => exact ⟨k + 1, by omega, by go_num, HD1, hUr⟩
              case measure => simp [intOf]; omega
            · have HD0 : Hid (GrpsOwn w.heap.size 32 wo d (unK xs og k ++ stK xs og k 0)) := by unfold Hid; rw [show stK xs og k 0 = [] from rfl, List.append_nil]; exact hD.out
              have HUS := Lib.hid (stK_succ xs og k)
              have HG1 : Hid (∀ s, grp1 xs og k s = if (s : Int) ≠ gi og k ∧ srcK xs k s xs.length ≠ [] then [⟨k, s, srcK xs k s xs.length⟩] else []) := fun _ => rfl
              have HUE : Hid (unK xs og (k + 1) = unK xs og k ++ stK xs og k 16) := by unfold Hid; rw [HUN.out, HUG.out, if_neg h0]
              clear HUN HUG hD
              generalize gi og k = f at *
              go_wp2_with fail
              go_loopw [8, 42] (fun d i wr => ∃ s : Nat, s ≤ 16 ∧ i = .int .i64 s ∧ Hid (GrpsOwn w.heap.size 32 wr d (unK xs og k ++ stK xs og k s)) ∧ Hid (Up w wr)) (fun _ i _ => 16 - (intOf i).toNat)
              case atStart => exact ⟨0, by omega, rfl, HD0, hUr⟩
              case round =>
                obtain ⟨s, hs, rfl, hD, hUr2⟩ := hrel
                obtain ⟨wi, rfl⟩ : ∃ wo : World, wo = wr := ⟨_, rfl⟩
                obtain ⟨d2, rfl⟩ : ∃ d : Value, d = u8 := ⟨_, rfl⟩
                by_cases hs16 : s < 16
                · go_wp2_with fail
                  go_loopw [50] (fun i wr => ∃ m : Nat, m ≤ xs.length ∧ i = .int .i64 m ∧ Hid (GrW wi wr k s (srcK xs k s m))) (fun i _ => xs.length - (intOf i).toNat)
                  case atStart => exact ⟨0, Nat.zero_le _, rfl, Up.alloc _ _, _, World.alloc_heap_new _ _, Owns.nil _ _ _, by simp⟩
                  case round =>
                    obtain ⟨m, hm, rfl, hW⟩ := hrel
                    obtain ⟨wq, rfl⟩ : ∃ wo : World, wo = wr := ⟨_, rfl⟩
                    have hu3 := hW.out.1
                    by_cases hmt : m < xs.length
                    · obtain ⟨b', off', rq, rc, e1, hcr, hir⟩ := rows_get (H.out.keep ((hUr2.out.trans hu3).kept S)) hmt
                      injection e1 with e1
                      injection e1 with e1 e2
                      subst e1; subst e2
                      rw [HRW.out m hmt] at hcr hir
                      obtain ⟨rb, ro, rfl, hcx⟩ := ints_get hir (k := k) (by rw [HRW.out m hmt]; exact hlt)
                      have i1 : (0 : Int) ≤ (k : Int) := by omega
                      have i2 : (k : Int) < (og.length : Int) := by omega
                      have HSR := Lib.hid (srcK_succ xs k s m)
                      clear hir
                      generalize gi (gl xs m) k = x at *
                      by_cases hxs : x = s
                      · have hx1 : (x == (s : Int)) = true := by simpa using hxs
                        obtain ⟨sv, hg0, hg1, hg2, hso, hsz3⟩ := hW.out.cells
                        have HSO := Lib.hid hso
                        have HLN : Hid (((srcK xs k s m).map (Value.int .i64)).length = (srcK xs k s m).length) := List.length_map _
                        have HLE : (srcK xs k s m).length ≤ 1000000 := by have := srcK_len xs k s m; omega
                        have HSE : Hid (srcK xs k s (m + 1) = srcK xs k s m ++ [(m : Int)]) := by unfold Hid; rw [HSR.out, if_pos hxs]
                        have HAPP := Lib.hid (fun (w8 : World) (v : Value) => hW.out.app (w8 := w8) (x := (m : Int)) (v := v))
                        clear hg0 hg1 hso hxs
                        go_wp2_with (at_builtin; refine wpList_appN wq rfl _ _ 23 rfl (wi.heap.size + 1) 3 _ 8 Try.underlying23 Try.infoI rfl (by decide) HSO.out rfl _ rfl rfl _ HLN.out HLE hsz3 ?_; intro g8 cap8 w8 hown1 hgr1 hbe1; obtain ⟨⟨c8, hc8⟩, hf8, hW8⟩ := HAPP.out w8 _ hown1 hbe1; have HW8 := Lib.hid hW8; clear hW8 hown1 hgr1 hbe1)
                        go_roundw
                        case rel => exact ⟨_, _, _, ⟨m + 1, by omega, rfl, by unfold Hid; rw [HSE.out]; exact HW8.out⟩, rfl, rfl, by go_num⟩
                        case measure => simp [intOf]; omega
                      · have hx1 : (x == (s : Int)) = false := by simpa using hxs
                        have HW1 : Hid (GrW wi wq k s (srcK xs k s (m + 1))) := by unfold Hid; rw [HSR.out, if_neg hxs, List.append_nil]; exact hW.out
                        go_wp2_with fail
                        go_roundw
                        case rel => exact ⟨m + 1, by omega, by go_num, HW1⟩
                        case measure => simp [intOf]; omega
                    · obtain rfl : m = xs.length := by omega
                      obtain ⟨sv, hg0, hg1, hg2, hso, hsz3⟩ := hW.out.cells
                      obtain ⟨sp, sc, rfl, hsc⟩ := hso.form (n := (srcK xs k s xs.length).length) (by simp)
                      have hsl : (srcK xs k s xs.length).length ≤ 1000000 := by have := srcK_len xs k s xs.length; omega
                      have HU3 := Lib.hid (hUr2.out.trans hu3)
                      have HD3 := Lib.hid (hD.out.kept hu3)
                      have HIN : Hid (IntsAt (fun b => some b ≠ d2.ownBlock) wq (.slice sp (srcK xs k s xs.length).length sc) (srcK xs k s xs.length)) := hso.ints.sub fun b hb _ e => by
                        have := (hD.out.lt e.symm).2; omega
                      have HLE : (unK xs og k ++ stK xs og k s).length ≤ 1000000 := by
                        rw [List.length_append]
                        have h1 := unK_len xs og k; have h2 := stK_len xs og k s; omega
                      have HWZ : w.heap.size ≤ wq.heap.size := HU3.out.size
                      have HGS := Lib.hid (HG1.out s)
                      have HUSS : Hid (unK xs og k ++ stK xs og k (s + 1) = (unK xs og k ++ stK xs og k s) ++ grp1 xs og k s) := by unfold Hid; rw [HUS.out s, List.append_assoc]
                      have HE0 : Hid ((srcK xs k s xs.length).length = 0 ↔ srcK xs k s xs.length = []) := List.length_eq_zero_iff
                      clear hlt hm hsc hso
                      generalize (srcK xs k s xs.length).length = sl at *
                      generalize unK xs og k ++ stK xs og k s = L0 at *
                      by_cases hsf : (s : Int) = f
                      · have hs1 : ((s : Int) != f) = false := by simp [hsf]
                        have HDN : Hid (GrpsOwn w.heap.size 32 wq d2 (unK xs og k ++ stK xs og k (s + 1))) := by unfold Hid; rw [HUSS.out, HGS.out, if_neg (fun e => e.1 hsf), List.append_nil]; exact HD3.out
                        clear hsf
                        go_wp2_with fail
                        go_roundw
                        case rel => exact ⟨s + 1, by omega, by go_num, HDN, HU3⟩
                        case measure => simp [intOf]; omega
                      · have hs1 : ((s : Int) != f) = true := by simpa using hsf
                        by_cases hs0 : sl = 0
                        · have hs2 : decide ((0 : Int) < (sl : Int)) = false := by simp [hs0]
                          have hs3 : decide (0 < sl) = false := by simp [hs0]
                          have HDN : Hid (GrpsOwn w.heap.size 32 wq d2 (unK xs og k ++ stK xs og k (s + 1))) := by unfold Hid; rw [HUSS.out, HGS.out, if_neg (fun e => e.2 (HE0.out.1 hs0)), List.append_nil]; exact HD3.out
                          clear hs0 hsf
                          go_wp2_with fail
                          go_roundw
                          case rel => exact ⟨s + 1, by omega, by go_num, HDN, HU3⟩
                          case measure => simp [intOf]; omega
                        · have hs2 : decide ((0 : Int) < (sl : Int)) = true := by simp; omega
                          have hs3 : decide (0 < sl) = true := by simp; omega
                          have HSE : Hid (unK xs og k ++ stK xs og k (s + 1) = L0 ++ [⟨k, s, srcK xs k s xs.length⟩]) := by unfold Hid; rw [HUSS.out, HGS.out, if_pos ⟨hsf, fun e => hs0 (HE0.out.2 e)⟩]
                          clear hs0 hsf
                          go_wp2_with (at_builtin; refine wpList_appGrp wq rfl _ _ 28 rfl w.heap.size 32 _ 40 Try.underlying28 Try.infoEG rfl (by decide) HD3.out rfl ⟨k, s, srcK xs k s xs.length⟩ (.slice sp sl sc) rfl HIN.out rfl _ rfl HLE HWZ ?_; intro g8 cap8 w8 hown1 hgr1 hbe1)
                          go_roundw
                          case rel => exact ⟨s + 1, by omega, by go_num, by unfold Hid; rw [HSE.out]; exact hown1, Below.trans HU3.out hbe1⟩
                          case measure => simp [intOf]; omega
                · obtain rfl : s = 16 := by omega
                  have HDE : Hid (GrpsOwn w.heap.size 32 wi d2 (unK xs og (k + 1))) := by unfold Hid; rw [HUE.out]; exact hD.out
                  go_wp2_with fail
                  go_roundw
                  case rel => exact ⟨k + 1, by omega, by go_num, HDE, hUr2⟩
                  case measure => simp [intOf]; omega
          · obtain rfl : k = og.length := by omega
            clear hlt hk
            go_wp2_with fail
            go_ret2
            exact ⟨hUr.out, d, by rw [HG.out]; rfl, by rw [HGN.out, if_pos HG.out]; exact hD.out.grps⟩
    · have hl1 : ((og.length : Int) != ((gl xs 0).length : Int)) = true := by simp; omega
      have HG : Hid (grErr xs og = 9) := by unfold Hid; rw [HGE.out, if_neg (fun e => e ha), if_pos (by unfold plN; exact hl)]
      clear hl
      go_enter Try.func13, Try.ntmps13
      go_wp2_with fail
      refine HAC.out.mono ?_
      rintro e w' ⟨rfl, rfl⟩
      go_wp2_with fail
      go_ret2
      exact ⟨Up.refl _, _, by rw [HG.out]; rfl, by rw [HGN.out, HG.out]; exact HNIL.out _⟩
  · have HG : Hid (grErr xs og = agErr xs) := by unfold Hid; rw [HGE.out, if_pos ha]
    have HA := Lib.hid ha
    have ha1 : (agErr xs != 0) = true := by simpa using ha
    clear ha
    go_enter Try.func13, Try.ntmps13
    go_wp2_with fail
    refine HAC.out.mono ?_
    rintro e w' ⟨rfl, rfl⟩
    go_wp2_with fail
    go_ret2
    exact ⟨Up.refl _, _, by rw [HG.out]; rfl, by rw [HGN.out, HG.out, if_neg HA.out]; exact HNIL.out _⟩
end Go.Proofs.Ytkfndaebmbnmaaa
namespace Go.Proofs.Ytkfndaebmbnmaaa
open Go.RowKit Go.Deep
/-- The set of the first k elements. -/
def ofK (l : List Int) : Nat → Nat
  | 0 => 0
  | k + 1 => ofK l k ||| 2 ^ (gi l k).toNat
def ofS (l : List Int) : Nat := ofK l l.length
def Small (l : List Int) : Prop := ∀ k, k < l.length → 0 ≤ gi l k ∧ gi l k < 32
theorem ofK_lt {l : List Int} (h : Small l) : ∀ {k : Nat}, k ≤ l.length → ofK l k < 4294967296
  | 0, _ => by simp [ofK]
  | k + 1, hk => by
    have h1 := ofK_lt h (k := k) (by omega)
    have h2 := h k (by omega)
    have h3 : 2 ^ (gi l k).toNat < 2 ^ 32 := Nat.pow_lt_pow_right (by decide) (by omega)
    exact Nat.or_lt_two_pow (n := 32) (by omega) h3
theorem ofS_lt {l : List Int} (h : Small l) : ofS l < 4294967296 := ofK_lt h (Nat.le_refl _)
theorem pow_lt64 {x : Int} (_ : 0 ≤ x) (h1 : x < 32) : 2 ^ x.toNat < 18446744073709551616 := by
  have : 2 ^ x.toNat < 2 ^ 64 := Nat.pow_lt_pow_right (by decide) (by omega)
  simpa using this
theorem wrap_pow {x : Int} (h0 : 0 ≤ x) (h1 : x < 32) : IntKind.u64.wrap ((2 : Int) ^ x.toNat) = ((2 ^ x.toNat : Nat) : Int) := by
  have h := pow_lt64 h0 h1
  rw [IntKind.wrap_u64, show ((2 : Int) ^ x.toNat) = ((2 ^ x.toNat : Nat) : Int) by simp]
  generalize 2 ^ x.toNat = z at h ⊢
  omega
def withinB (a b : Nat) : Bool := decide (a &&& (18446744073709551615 - b) = 0)
def confB (a b : Nat) : Bool := decide (a &&& b ≠ 0) && !withinB a b && !withinB b a
set_option maxHeartbeats 400000 in
theorem within_t (a b : Nat) (ha : a < 18446744073709551616) (hb : b < 18446744073709551616) (w : World) : Calls Try.prog 64 #[.int .u64 a, .int .u64 b] w fun e w' => e = .returned (.bool (withinB a b)) ∧ w = w' := by
  go_enter Try.func64, Try.ntmps64
  go_wp2_with fail
  go_ret
  exact ⟨ret_bool (by rw [u64_andNot_nat a b ha hb]; unfold withinB; rw [Bool.eq_iff_iff]; simp [Int.natCast_eq_zero]), rfl⟩
set_option maxHeartbeats 400000 in
theorem of_t (S : Nat → Prop) (w : World) (v : Value) (l : List Int) (h : IntsAt S w v l) (hs : Small l) (hn : l.length ≤ 1000000) :
    Calls Try.prog 49 #[v] w fun e w' => e = .returned (.int .u64 (ofS l)) ∧ w = w' := by
  obtain ⟨p, cap, rfl, hcap, H⟩ := SlAt.open h
  clear h
  go_enter Try.func49, Try.ntmps49
  go_wp2_with fail
  go_loop [3, 5, 8] (fun a _ i => ∃ k : Nat, k ≤ l.length ∧ i = .int .i64 k ∧ a = .int .u64 (ofK l k)) (fun _ _ i => l.length - (intOf i).toNat)
  case atStart => exact ⟨0, Nat.zero_le _, rfl, rfl⟩
  case round =>
    obtain ⟨k, hk, rfl, rfl⟩ := hrel
    by_cases hlt : k < l.length
    · obtain ⟨b, off, rfl, hc⟩ := H k hlt
      have hb := hs k hlt
      clear H
      go_wp2_with fail
      go_round
      case rel => exact ⟨k + 1, by omega, by go_num, by rw [wrap_pow hb.1 hb.2, u64_or_nat _ _ (Nat.lt_of_lt_of_le (ofK_lt hs hk) (by decide)) (pow_lt64 hb.1 hb.2)]; rfl⟩
      case measure => simp [intOf]; omega
    · clear H
      go_wp2_with fail
      go_ret
      exact ⟨ret_int (by obtain rfl : k = l.length := by omega
                         rfl), rfl⟩
set_option maxRecDepth 100000 in
set_option maxHeartbeats 400000 in
theorem conflict_t (a b : Nat) (ha : a < 18446744073709551616) (hb : b < 18446744073709551616) (w : World) : Calls Try.prog 50 #[.int .u64 a, .int .u64 b] w fun e w' => e = .returned (.bool (confB a b)) ∧ w = w' := by
  have e0 : (bits BinOp.and IntKind.u64 (a : Int) (b : Int) != 0) = decide (a &&& b ≠ 0) := by
    rw [u64_and_nat a b ha hb, Bool.eq_iff_iff]; simp [Int.natCast_eq_zero]
  have HC : Hid (confB a b = (decide (a &&& b ≠ 0) && !withinB a b && !withinB b a)) := rfl
  have H1 := Lib.hid (within_t a b ha hb)
  have H2 := Lib.hid (within_t b a hb ha)
  generalize decide (a &&& b ≠ 0) = c0 at *
  generalize withinB a b = c1 at *
  generalize withinB b a = c2 at *
  clear ha hb
  cases c0
  · go_enter Try.func50, Try.ntmps50
    go_wp2_with fail
    go_ret
    exact ⟨ret_bool (by rw [HC.out]; rfl), rfl⟩
  · cases c1
    · go_enter Try.func50, Try.ntmps50
      go_wp2_with (first | (refine (H1.out _).mono ?_; rintro e w' ⟨rfl, rfl⟩) | (refine (H2.out _).mono ?_; rintro e w' ⟨rfl, rfl⟩))
      go_ret
      exact ⟨ret_bool (by rw [HC.out]; rfl), rfl⟩
    · go_enter Try.func50, Try.ntmps50
      go_wp2_with (first | (refine (H1.out _).mono ?_; rintro e w' ⟨rfl, rfl⟩) | (refine (H2.out _).mono ?_; rintro e w' ⟨rfl, rfl⟩))
      go_ret
      exact ⟨ret_bool (by rw [HC.out]; rfl), rfl⟩
/-- A list that could be the sources of a group. -/
def srcBad (l : List Int) (k : Nat) : Bool := decide (gi l k < 0) || decide (32 ≤ gi l k) || (decide (0 < k) && decide (gi l k ≤ gi l (k - 1)))
def srcOk (l : List Int) : Bool := !((List.range l.length).any (srcBad l)) && decide (0 < l.length)
set_option maxHeartbeats 1000000 in
theorem sources_t (S : Nat → Prop) (w : World) (v : Value) (l : List Int) (h : IntsAt S w v l) (hn : l.length ≤ 1000000) :
    Calls Try.prog 53 #[v] w fun e w' => e = .returned (.bool (srcOk l)) ∧ w = w' := by
  have HI0 := h
  obtain ⟨p, cap, rfl, hcap, H⟩ := SlAt.open h
  have HI := Lib.hid HI0
  clear h HI0
  have HS : Hid (srcOk l = (!((List.range l.length).any (srcBad l)) && decide (0 < l.length))) := rfl
  have HB : Hid (∀ k, srcBad l k = (decide (gi l k < 0) || decide (32 ≤ gi l k) || (decide (0 < k) && decide (gi l k ≤ gi l (k - 1))))) := fun _ => rfl
  go_enter Try.func53, Try.ntmps53
  go_wp2_with fail
  go_loop [3, 4, 7] (fun _ _ i => ∃ k : Nat, k ≤ l.length ∧ i = .int .i64 k ∧ Hid (∀ j, j < k → srcBad l j = false)) (fun _ _ i => l.length - (intOf i).toNat)
  case atStart => exact ⟨0, Nat.zero_le _, rfl, fun j hj => absurd hj (Nat.not_lt_zero _)⟩
  case round =>
    obtain ⟨k, hk, rfl, hd⟩ := hrel
    by_cases hlt : k < l.length
    · obtain ⟨b, off, rfl, hc⟩ := H k hlt
      have HBK := Lib.hid (HB.out k)
      clear H
      have HXK : Hid (srcBad l k = true → srcOk l = false) := fun hx => by
        rw [HS.out, any_at hlt hx]; rfl
      generalize hy : gi l k = y at *
      by_cases h0 : y < 0
      · have HR : Hid (srcOk l = false) := HXK.out (by rw [HBK.out]; simp [h0])
        have e0 : decide (y < 0) = true := by simpa using h0
        go_wp2_with fail
        go_ret
        exact ⟨ret_bool HR.out.symm, rfl⟩
      · have e0 : decide (y < 0) = false := by simpa using h0
        by_cases h1 : 32 ≤ y
        · have HR : Hid (srcOk l = false) := HXK.out (by rw [HBK.out]; simp [h1])
          have e1 : decide (32 ≤ y) = true := by simpa using h1
          go_wp2_with fail
          go_ret
          exact ⟨ret_bool HR.out.symm, rfl⟩
        · have e1 : decide (32 ≤ y) = false := by simpa using h1
          cases k with
          | zero =>
            have HR : Hid (srcBad l 0 = false) := by unfold Hid; rw [HBK.out]; simp [e0, e1]
            rw [Nat.add_zero] at hc
            go_wp2_with fail
            go_round
            case rel => exact ⟨1, by omega, by go_num, fun j hj => by obtain rfl : j = 0 := by omega
                                                                      exact HR.out⟩
            case measure => simp [intOf]; omega
          | succ j =>
            have hcj := ints_get' HI.out (k := j) (by omega)
            have HR : Hid (srcBad l (j + 1) = decide (y ≤ gi l j)) := by unfold Hid; rw [HBK.out, e0, e1]; simp
            have k1 : (0 : Int) < ((j + 1 : Nat) : Int) := by omega
            have k2 : decide ((0 : Int) < ((j + 1 : Nat) : Int)) = true := by simp
            have k3 : ((j + 1 : Nat) : Int) - 1 = (j : Int) := by omega
            generalize gi l j = z at *
            by_cases h2 : y ≤ z
            · have e2 : decide (y ≤ z) = true := by simpa using h2
              have HR2 : Hid (srcOk l = false) := HXK.out (by rw [HR.out, e2])
              go_wp2_with fail
              go_ret
              exact ⟨ret_bool HR2.out.symm, rfl⟩
            · have e2 : decide (y ≤ z) = false := by simpa using h2
              have HR2 : Hid (srcBad l (j + 1) = false) := by unfold Hid; rw [HR.out, e2]
              go_wp2_with fail
              go_round
              case rel => exact ⟨j + 2, by omega, by go_num, fun i hi => if e : i = j + 1 then by subst e; exact HR2.out else hd.out i (by omega)⟩
              case measure => simp [intOf]; omega
    · obtain rfl : k = l.length := by omega
      have HR : Hid (srcOk l = decide (0 < l.length)) := by unfold Hid; rw [HS.out, any_none hd.out]; rfl
      clear H
      go_wp2_with fail
      go_ret
      exact ⟨ret_bool (by rw [HR.out]), rfl⟩
end Go.Proofs.Ytkfndaebmbnmaaa
