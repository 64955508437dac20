/- A list of groups of the call's own; a group appended. The contract of sharederror.Groups. The walk of sharederror.Groups. Great of layer 30; slices.Contains of numbers. Contracts: Great of layer 35, fine, Support, Original, Significant. -/
import Derived.Test.YtgjcfkadioblfaaGreatQ5
import Derived.Test.YtgjcfkadioblfaaGreatQ14
import Derived.Test.YtgjcfkadioblfaaGreatQ16
import Derived.Test.YtgjcfkadioblfaaGreatQ3
import Derived.Test.YtgjcfkadioblfaaGreatQ20
namespace Go.Proofs.YtgjcfkadioblfaaGreat
open Go.RowKit Go.Deep
def cellsG : List Grp → List Value → List Value
  | g :: gs, s :: ss => .int .i64 g.un :: .int .i64 g.st :: s :: cellsG gs ss
  | _, _ => []
theorem cellsG_snoc (g : Grp) (s : Value) : ∀ (gs : List Grp) (ss : List Value), ss.length = gs.length → cellsG (gs ++ [g]) (ss ++ [s]) = cellsG gs ss ++ [.int .i64 g.un, .int .i64 g.st, s]
  | [], [], _ => rfl
  | [], _ :: _, h => by simp at h
  | _ :: _, [], h => by simp at h
  | x :: gs, y :: ss, h => by
    simp only [List.cons_append, cellsG]
    rw [cellsG_snoc g s gs ss (by simpa using h)]
theorem cellsG_at : ∀ (gs : List Grp) (ss : List Value), ss.length = gs.length → ∀ k, k < gs.length → (cellsG gs ss)[k * 3]? = some (.int .i64 (gg gs k).un) ∧ (cellsG gs ss)[k * 3 + 1]? = some (.int .i64 (gg gs k).st) ∧ (cellsG gs ss)[k * 3 + 2]? = some (ss.getD k undef)
  | [], _, _, k, hk => absurd hk (Nat.not_lt_zero _)
  | _ :: _, [], h, _, _ => by simp at h
  | x :: gs, y :: ss, h, 0, _ => by simp [cellsG, gg]
  | x :: gs, y :: ss, h, k + 1, hk => by
    have ih := cellsG_at gs ss (by simpa using h) k (by simpa using hk)
    have e : (k + 1) * 3 = k * 3 + 1 + 1 + 1 := by omega
    simp only [cellsG, e, List.getElem?_cons_succ]
    have e2 : gg (x :: gs) (k + 1) = gg gs k := by simp [gg]
    have e3 : (y :: ss).getD (k + 1) undef = ss.getD k undef := by simp
    rw [e2, e3]
    refine ⟨ih.1, ?_, ?_⟩
    · have h1 := ih.2.1; rwa [show k * 3 + 1 = k * 3 + 1 from rfl] at h1
    · exact ih.2.2
theorem cellsG_len : ∀ (gs : List Grp) (ss : List Value), ss.length = gs.length → (cellsG gs ss).length = gs.length * 3
  | [], [], _ => rfl
  | [], _ :: _, h => by simp at h
  | _ :: _, [], h => by simp at h
  | x :: gs, y :: ss, h => by simp only [cellsG, List.length_cons]; rw [cellsG_len gs ss (by simpa using h)]; omega
def GrpsOwn (base : Nat) (T : TypeId) (w : World) (v : Value) (gs : List Grp) : Prop :=
  ∃ svs : List Value, svs.length = gs.length ∧ w.ownsRow base T 3 v gs.length (cellsG gs svs) ∧ ∀ i, i < gs.length → IntsAt (fun b => some b ≠ v.ownBlock) w (svs.getD i undef) (gg gs i).src
theorem GrpsOwn.nil (base : Nat) (T : TypeId) (w : World) : GrpsOwn base T w (.slice none 0 0) [] := ⟨[], rfl, World.ownsRow_nil _ _ _ _, fun _ hi => absurd hi (Nat.not_lt_zero _)⟩
theorem GrpsOwn.grps {base : Nat} {T : TypeId} {w : World} {v : Value} {gs : List Grp} (h : GrpsOwn base T w v gs) : GrpsAt Any w v gs := by
  obtain ⟨svs, hl, ho, hr⟩ := h
  rcases ho.2 with ⟨rfl, h0⟩ | ⟨g, cap, cur, rfl, hg, hc, hn, hcm, hcs, ht⟩
  · have : gs = [] := by cases gs with | nil => rfl | cons _ _ => simp at h0
    subst this
    exact ⟨none, 0, rfl, Nat.le_refl _, .inl rfl⟩
  · refine ⟨_, cap, rfl, hn, .inr ⟨g, 0, rfl, trivial, fun k hk => ?_⟩⟩
    obtain ⟨c1, c2, c3⟩ := cellsG_at gs svs hl k hk
    refine ⟨svs.getD k undef, ?_, ?_, ?_, (hr k hk).sub fun _ _ _ => trivial⟩
    · rw [Nat.zero_add, ho.cellAt (k * 3) (by omega)]; exact c1
    · rw [Nat.zero_add, ho.cellAt (k * 3 + 1) (by omega)]; exact c2
    · rw [Nat.zero_add, ho.cellAt (k * 3 + 2) (by omega)]; exact c3
section
variable {P : Program} {ops : Array Oper} {rest : List Oper} {o : Oper} {a : Act} {Q : Exit → Act → World → Prop}
/-- 'out = append(out, g)', g a group. -/
theorem wpList_appGrp (W : World) (hgd : o.guard = none) (s x : Operand) (t : TypeId) (ho : o.op = .call { callee := .builtin .append, args := #[s, x], argTypes := #[t, t] })
    (base : Nat) (e : TypeId) (z : Value) (bytes : Nat) (ht : P.underlying t = some (.slice e)) (hinfo : (P.info? e).map (fun i => (i.zero, i.size, i.bytes)) = some (some z, 3, bytes))
    (hz1 : z.cells.size = 3) (hb8 : bytes ≤ 64) {v : Value} {gs : List Grp} (hown : GrpsOwn base e W v gs) (hs : a.eval s = v) (G : Grp) (u : Value)
    (hx : a.eval x = .slice (some ⟨W.heap.size, 0, none⟩) 1 1) (hu : IntsAt (fun b => some b ≠ v.ownBlock) W u G.src) (h1 : u.oneCell' = true) (n : Nat) (hxn : gs.length = n) (hn : n ≤ 1000000) (hbase : base ≤ W.heap.size)
    (h : ∀ g cap w', GrpsOwn base e w' (.slice (some ⟨g, 0, none⟩) (n + 1) cap) (gs ++ [G]) → W.grownBy w' v.ownBlock → Below base W w' → wpList P ops Q rest (a.put o.dst (.slice (some ⟨g, 0, none⟩) (n + 1) cap)) w') :
    wpList P ops Q (o :: rest) a (W.alloc (.cells #[.int .i64 G.un, .int .i64 G.st, u] e)) := by
  subst hxn
  obtain ⟨i, hi, hzz⟩ := Option.map_eq_some_iff.1 hinfo
  simp only [Prod.mk.injEq] at hzz
  obtain ⟨hz, hs1, hb⟩ := hzz
  obtain ⟨svs, hl, hown, hrows⟩ := hown
  refine wpList_append_lies _ hgd s x t ho base e i z 3 bytes ht hi hz hs1 hb hz1 (by omega) v gs.length (cellsG gs svs) hs (hown.alloc _) ⟨W.heap.size, 0, none⟩ 1 1 [.int .i64 G.un, .int .i64 G.st, u] hx rfl ?_ (fun q hq => by
    rcases List.mem_cons.1 hq with e | hq
    · subst e; rfl
    · rcases List.mem_cons.1 hq with e | hq
      · subst e; rfl
      · rw [List.mem_singleton.1 hq]; exact h1) (by omega)
    (by unfold maxLen; omega) ?_ (by simp; omega) _ rfl fun g cap w' h2 h3 h4 _ => ?_
  · intro j u' hj
    match j with
    | 0 => obtain rfl : Value.int .i64 G.un = u' := by simpa using hj
           exact cell_at_new W _ e 0
    | 1 => obtain rfl : Value.int .i64 G.st = u' := by simpa using hj
           exact cell_at_new W _ e 1
    | 2 => obtain rfl : u = u' := by simpa using hj
           exact cell_at_new W _ e 2
    | j + 3 => simp at hj
  · have : (gs.length + 1) * bytes ≤ (gs.length + 1) * 64 := Nat.mul_le_mul_left _ hb8
    omega
  · have hg := grown_alloc h3
    have hgne : ∀ b : Nat, some b ≠ v.ownBlock → b < W.heap.size → some b ≠ (Value.slice (some ⟨g, 0, none⟩) (gs.length + 1) cap).ownBlock := fun b hb hlt e => by
      simp only [Value.ownBlock, Option.some.injEq] at e
      rcases h4 with h4 | h4
      · exact hb (by rw [h4, e])
      · rw [World.size_alloc] at h4; omega
    have hkeep : ∀ {u' : Value} {y' : List Int}, IntsAt (fun b => some b ≠ v.ownBlock) W u' y' → IntsAt (fun b => some b ≠ (Value.slice (some ⟨g, 0, none⟩) (gs.length + 1) cap).ownBlock) w' u' y' := fun hi' =>
      ((hi'.sub (T := fun b => some b ≠ v.ownBlock ∧ b < W.heap.size) fun b hb hlt => ⟨hb, hlt⟩).keep fun b hb hlt => hg.block b hlt hb.1).sub fun b hb _ => hgne b hb.1 hb.2
    refine h g cap w' ⟨svs ++ [u], by simp [hl], ?_, fun i hi => ?_⟩ hg (Below.grown (Below.refl _ _) hg hbase fun k hk => (World.ownsRow.lt hown k hk).1)
    · rw [List.length_append, cellsG_snoc G u gs svs hl]; exact h2
    · rw [List.length_append] at hi
      by_cases hi2 : i < gs.length
      · have e1 : (svs ++ [u]).getD i undef = svs.getD i undef := by simp [List.getElem?_append, hl, hi2]
        have e2 : gg (gs ++ [G]) i = gg gs i := by simp [gg, List.getElem?_append, hi2]
        rw [e1, e2]; exact hkeep (hrows i hi2)
      · obtain rfl : i = gs.length := by simp at hi; omega
        have e1 : (svs ++ [u]).getD gs.length undef = u := by simp [← hl]
        have e2 : gg (gs ++ [G]) gs.length = G := by simp [gg]
        rw [e1, e2]; exact hkeep hu
end
end Go.Proofs.YtgjcfkadioblfaaGreat
namespace Go.Proofs.YtgjcfkadioblfaaGreat
open Go.RowKit Go.Deep
theorem Tryz.infoEG : (Tryz.prog.info? 61).map (fun i => (i.zero, i.size, i.bytes)) = some (some (.agg #[.int .i64 0, .int .i64 0, .slice none 0 0]), 3, 40) := by kernel_rfl
theorem GrpsOwn.kept {base : Nat} {T : TypeId} {w w' : World} {v : Value} {gs : List Grp} (h : GrpsOwn base T w v gs) (k : Up w w') : GrpsOwn base T w' v gs := by
  obtain ⟨svs, hl, ho, hr⟩ := h
  refine ⟨svs, hl, ⟨ho.1, ?_⟩, fun i hi => (hr i hi).keep (k.kept _)⟩
  rcases ho.2 with h1 | ⟨g, cap, cur, e, hg, hc, h2⟩
  · exact .inl h1
  · exact .inr ⟨g, cap, cur, e, hg, (Below.block k g (Array.getElem?_eq_some_iff.1 hc).1).trans hc, h2⟩
theorem GrpsOwn.lt {base : Nat} {T : TypeId} {w : World} {v : Value} {gs : List Grp} (h : GrpsOwn base T w v gs) {b : Nat} (hb : v.ownBlock = some b) : base ≤ b ∧ b < w.heap.size := by
  obtain ⟨svs, _, ho, _⟩ := h
  exact World.ownsRow.lt ho b hb
set_option maxHeartbeats 400000 in
theorem groups1_t (w : World) (x : Int) : FnIs 104 #[] #[.int .i64 x] (.bool (decide (x < -1) || decide (16 ≤ x))) w := by
  unfold FnIs
  go_enter Tryz.func104, Tryz.ntmps104
  by_cases hx : x < -1
  · go_wp2_with fail
    go_ret
    exact ⟨ret_bool (by simp [hx]), rfl⟩
  · go_wp2_with fail
    go_ret
    exact ⟨ret_bool (by simp; omega), rfl⟩
end Go.Proofs.YtgjcfkadioblfaaGreat
namespace Go.Proofs.YtgjcfkadioblfaaGreat
open Go.RowKit Go.Deep
theorem agRow_len {xs : List (List Int)} (h : agErr xs = 0) {k : Nat} (hk : k < xs.length) : (gl xs k).length = (gl xs 0).length := by
  unfold agErr at h
  split at h
  · cases h
  · split at h
    · cases h
    · have h1 := firstNZ_eq_zero h k hk
      unfold agRow at h1
      split at h1
      · cases h1
      · rename_i h2
        exact Classical.not_not.1 h2
theorem stK_len (xs : List (List Int)) (og : List Int) (u s : Nat) : (stK xs og u s).length ≤ s := by
  induction s with
  | zero => exact Nat.le_refl _
  | succ s ih =>
    rw [stK_succ, List.length_append]
    have : (grp1 xs og u s).length ≤ 1 := by unfold grp1; split <;> simp
    omega
theorem unK_len (xs : List (List Int)) (og : List Int) (k : Nat) : (unK xs og k).length ≤ k * 16 := by
  induction k with
  | zero => exact Nat.le_refl _
  | succ k ih =>
    rw [unK_succ, List.length_append]
    have : (unG xs og k).length ≤ 16 := by
      unfold unG
      split
      · exact Nat.zero_le _
      · exact stK_len xs og k 16
    omega
/-- The group under way, in its block. -/
def GrW (wS wr : World) (u s : Int) (l : List Int) : Prop :=
  Up wS wr ∧ ∃ sv, wr.heap[wS.heap.size]? = some (Obj.cells #[.int .i64 u, .int .i64 s, sv] 61 (0, 0)) ∧ Owns (wS.heap.size + 1) 3 wr sv (l.map (Value.int .i64)) ∧ wS.heap.size + 1 ≤ wr.heap.size
theorem GrW.cells {wS wr : World} {u s : Int} {l : List Int} (h : GrW wS wr u s l) : ∃ sv, wr.cell? ⟨wS.heap.size, 0, none⟩ = some (.int .i64 u) ∧ wr.cell? ⟨wS.heap.size, 1, none⟩ = some (.int .i64 s) ∧ wr.cell? ⟨wS.heap.size, 2, none⟩ = some sv ∧ Owns (wS.heap.size + 1) 3 wr sv (l.map (Value.int .i64)) ∧ wS.heap.size + 1 ≤ wr.heap.size := by
  obtain ⟨_, sv, hc, ho, hs⟩ := h
  refine ⟨sv, ?_, ?_, ?_, ho, hs⟩ <;> simp [World.cell?, hc]
theorem GrW.app {wS wr w8 : World} {u s x : Int} {l : List Int} (h : GrW wS wr u s l) {v : Value} (ho : Owns (wS.heap.size + 1) 3 w8 v (l.map (Value.int .i64) ++ [.int .i64 x])) (hb : Below (wS.heap.size + 1) wr w8) :
    (∃ c, w8.cell? ⟨wS.heap.size, 2, none⟩ = some c) ∧ w8.frozen? ⟨wS.heap.size, 2, none⟩ = false ∧ GrW wS (w8.setCell ⟨wS.heap.size, 2, none⟩ v) u s (l ++ [x]) := by
  obtain ⟨hu, sv, hc, _, hs⟩ := h
  have hc8 : w8.heap[wS.heap.size]? = some (Obj.cells #[.int .i64 u, .int .i64 s, sv] 61 (0, 0)) := (hb.block _ (Nat.lt_succ_self _)).trans hc
  refine ⟨⟨sv, by simp [World.cell?, hc8]⟩, by simp [World.frozen?, hc8], ?_, v, ?_, ?_, ?_⟩
  · exact Below.setCell (p := ⟨wS.heap.size, 2, none⟩) (Below.trans hu (Below.mono hb (Nat.le_succ _))) (Nat.le_refl _) _
  · simp [World.setCell, Array.getElem?_modify, hc8]
  · rw [List.map_append]
    exact ho.kept fun b hb2 _ => Below.heap_setCell w8 _ _ b (by simp only; omega)
  · rw [World.size_setCell]; exact Nat.le_trans hs hb.size
def GrPost (w : World) (xs : List (List Int)) (og : List Int) (e : Ending) (w' : World) : Prop :=
  Up w w' ∧ ∃ v, e = .returned (.tuple #[v, .int .i64 (grErr xs og)]) ∧ GrpsAt Any w' v (groupsN xs og)
set_option maxRecDepth 100000 in
set_option maxHeartbeats 2000000 in
theorem groups_t (S : Nat → Prop) (w : World) (v vo : Value) (xs : List (List Int)) (og : List Int) (h : RowsAt S w v xs) (ho : IntsAt S w vo og) (hn : xs.length ≤ 1000000) (hr : ∀ k, (gl xs k).length ≤ 1000000) (hon : og.length ≤ 1000000) :
    Calls Tryz.prog 49 #[v, vo] w (GrPost w xs og) := by
  have HAC := Lib.hid (agcheck_t S w v xs h hn hr)
  obtain ⟨p, cap, rfl, hcap, _⟩ := rows_open h
  obtain ⟨po, co, rfl, hco, _⟩ := SlAt.open ho
  have ho : IntsAt S w (.slice po og.length co) og := ho
  have H := Lib.hid h
  have HO := Lib.hid ho
  have HCO := Lib.hid (ints_has_t 104 #[] (enters_of Tryz.func104 (by kernel_rfl) rfl) S w _ og.length _ (fun j => decide (gi og j < -1) || decide (16 ≤ gi og j)) ho hon (fun j _ => groups1_t w (gi og j)))
  have HGE : Hid (grErr xs og = if agErr xs ≠ 0 then agErr xs else if og.length ≠ plN xs then 9 else if stBad og (-1) 16 then 2 else 0) := rfl
  have HGN : Hid (groupsN xs og = if grErr xs og = 0 then unK xs og og.length else []) := rfl
  have HNIL : Hid (∀ W, GrpsAt Any W (.slice none 0 0) []) := fun _ => ⟨none, 0, rfl, Nat.le_refl _, .inl rfl⟩
  clear h ho
  by_cases ha : agErr xs = 0
  · have hx0 : 0 < xs.length := by
      by_cases h0 : xs.length = 0
      · unfold agErr at ha; rw [if_pos h0] at ha; cases ha
      · omega
    obtain ⟨b, off, q0, c0, rfl, hc0, _⟩ := rows_get H.out hx0
    have hc00 : w.cell? ⟨b, off, none⟩ = some (.slice q0 (gl xs 0).length c0) := by simpa using hc0
    have hl0 := hr 0
    have hpl : (gl xs 0).length ≤ 4096 := by
      unfold agErr at ha
      split at ha
      · cases ha
      · split at ha
        · cases ha
        · omega
    have hxp : decide ((0 : Int) < (xs.length : Int)) = true := by simpa using hx0
    rw [ha] at HAC
    clear hc0
    by_cases hl : og.length = (gl xs 0).length
    · have hl1 : ((og.length : Int) != ((gl xs 0).length : Int)) = false := by simp [hl]
      by_cases hb : stBad og (-1) 16 = true
      · have HSB : Hid (stBad og (-1) 16 = (List.range og.length).any fun j => decide (gi og j < -1) || decide (16 ≤ gi og j)) := rfl
        have HB := Lib.hid hb
        have hge : grErr xs og = 2 := by rw [HGE.out, if_neg (fun e => e ha), if_neg (fun e => e hl), if_pos hb]
        have HG := Lib.hid hge
        clear hge hb hl
        go_enter Tryz.func49, Tryz.ntmps49
        go_wp2_with fail
        refine HAC.out.mono ?_
        rintro e w' ⟨rfl, rfl⟩
        go_wp2_with fail
        refine HCO.out.mono ?_
        rintro e w' ⟨rfl, rfl⟩
        rw [← HSB.out, HB.out]
        go_wp2_with fail
        go_ret2
        exact ⟨Up.refl _, _, by rw [HG.out]; rfl, by rw [HGN.out, HG.out]; exact HNIL.out _⟩
      · have hb2 : stBad og (-1) 16 = false := by simpa using hb
        have HSB : Hid (stBad og (-1) 16 = (List.range og.length).any fun j => decide (gi og j < -1) || decide (16 ≤ gi og j)) := rfl
        have HB := Lib.hid hb2
        have HG : Hid (grErr xs og = 0) := by unfold Hid; rw [HGE.out, if_neg (fun e => e ha), if_neg (fun e => e (by unfold plN; exact hl)), if_neg hb]
        have HLL := Lib.hid hl
        have hog4 : og.length ≤ 4096 := by omega
        have HRW : Hid (∀ k, k < xs.length → (gl xs k).length = og.length) := fun k hk => (agRow_len ha hk).trans hl.symm
        clear hb hb2 hl ha
        go_enter Tryz.func49, Tryz.ntmps49
        go_wp2_with fail
        refine HAC.out.mono ?_
        rintro e w' ⟨rfl, rfl⟩
        go_wp2_with fail
        refine HCO.out.mono ?_
        rintro e w' ⟨rfl, rfl⟩
        rw [← HSB.out, HB.out]
        go_wp2_with fail
        go_loopw [8, 35] (fun d i wr => ∃ k : Nat, k ≤ og.length ∧ i = .int .i64 k ∧ Hid (GrpsOwn w.heap.size 61 wr d (unK xs og k)) ∧ Hid (Up w wr)) (fun _ i _ => og.length - (intOf i).toNat)
        case atStart => exact ⟨0, Nat.zero_le _, rfl, GrpsOwn.nil _ _ _, Up.refl _⟩
        case round =>
          obtain ⟨k, hk, rfl, hD, hUr⟩ := hrel
          obtain ⟨wo, rfl⟩ : ∃ wo : World, wo = wr := ⟨_, rfl⟩
          obtain ⟨d, rfl⟩ : ∃ d : Value, d = u8 := ⟨_, rfl⟩
          by_cases hlt : k < og.length
          · obtain ⟨ob, oo, rfl, hco0⟩ := ints_get (IntsAt.keep HO.out (hUr.out.kept _)) hlt
            have HUN := Lib.hid (unK_succ xs og k)
            have HUG : Hid (unG xs og k = if gi og k < 0 then [] else stK xs og k 16) := rfl
            by_cases h0 : gi og k < 0
            · have HD1 : Hid (GrpsOwn w.heap.size 61 wo d (unK xs og (k + 1))) := by unfold Hid; rw [HUN.out, HUG.out, if_pos h0, List.append_nil]; exact hD.out
              generalize gi og k = f at *
              go_wp2_with fail
              go_roundw
              case rel => exact ⟨k + 1, by omega, by go_num, HD1, hUr⟩
              case measure => simp [intOf]; omega
            · have HD0 : Hid (GrpsOwn w.heap.size 61 wo d (unK xs og k ++ stK xs og k 0)) := by unfold Hid; rw [show stK xs og k 0 = [] from rfl, List.append_nil]; exact hD.out
              have HUS := Lib.hid (stK_succ xs og k)
              have HG1 : Hid (∀ s, grp1 xs og k s = if (s : Int) ≠ gi og k ∧ srcK xs k s xs.length ≠ [] then [⟨k, s, srcK xs k s xs.length⟩] else []) := fun _ => rfl
              have HUE : Hid (unK xs og (k + 1) = unK xs og k ++ stK xs og k 16) := by unfold Hid; rw [HUN.out, HUG.out, if_neg h0]
              clear HUN HUG hD
              generalize gi og k = f at *
              go_wp2_with fail
              go_loopw [8, 42] (fun d i wr => ∃ s : Nat, s ≤ 16 ∧ i = .int .i64 s ∧ Hid (GrpsOwn w.heap.size 61 wr d (unK xs og k ++ stK xs og k s)) ∧ Hid (Up w wr)) (fun _ i _ => 16 - (intOf i).toNat)
              case atStart => exact ⟨0, by omega, rfl, HD0, hUr⟩
              case round =>
                obtain ⟨s, hs, rfl, hD, hUr2⟩ := hrel
                obtain ⟨wi, rfl⟩ : ∃ wo : World, wo = wr := ⟨_, rfl⟩
                obtain ⟨d2, rfl⟩ : ∃ d : Value, d = u8 := ⟨_, rfl⟩
                by_cases hs16 : s < 16
                · go_wp2_with fail
                  go_loopw [50] (fun i wr => ∃ m : Nat, m ≤ xs.length ∧ i = .int .i64 m ∧ Hid (GrW wi wr k s (srcK xs k s m))) (fun i _ => xs.length - (intOf i).toNat)
                  case atStart => exact ⟨0, Nat.zero_le _, rfl, Up.alloc _ _, _, World.alloc_heap_new _ _, Owns.nil _ _ _, by simp⟩
                  case round =>
                    obtain ⟨m, hm, rfl, hW⟩ := hrel
                    obtain ⟨wq, rfl⟩ : ∃ wo : World, wo = wr := ⟨_, rfl⟩
                    have hu3 := hW.out.1
                    by_cases hmt : m < xs.length
                    · obtain ⟨b', off', rq, rc, e1, hcr, hir⟩ := rows_get (H.out.keep ((hUr2.out.trans hu3).kept S)) hmt
                      injection e1 with e1
                      injection e1 with e1 e2
                      subst e1; subst e2
                      rw [HRW.out m hmt] at hcr hir
                      obtain ⟨rb, ro, rfl, hcx⟩ := ints_get hir (k := k) (by rw [HRW.out m hmt]; exact hlt)
                      have i1 : (0 : Int) ≤ (k : Int) := by omega
                      have i2 : (k : Int) < (og.length : Int) := by omega
                      have HSR := Lib.hid (srcK_succ xs k s m)
                      clear hir
                      generalize gi (gl xs m) k = x at *
                      by_cases hxs : x = s
                      · have hx1 : (x == (s : Int)) = true := by simpa using hxs
                        obtain ⟨sv, hg0, hg1, hg2, hso, hsz3⟩ := hW.out.cells
                        have HSO := Lib.hid hso
                        have HLN : Hid (((srcK xs k s m).map (Value.int .i64)).length = (srcK xs k s m).length) := List.length_map _
                        have HLE : (srcK xs k s m).length ≤ 1000000 := by have := srcK_len xs k s m; omega
                        have HSE : Hid (srcK xs k s (m + 1) = srcK xs k s m ++ [(m : Int)]) := by unfold Hid; rw [HSR.out, if_pos hxs]
                        have HAPP := Lib.hid (fun (w8 : World) (v : Value) => hW.out.app (w8 := w8) (x := (m : Int)) (v := v))
                        clear hg0 hg1 hso hxs
                        go_wp2_with (at_builtin; refine wpList_appN wq rfl _ _ 22 rfl (wi.heap.size + 1) 3 _ 8 Tryz.underlying22 Tryz.infoI rfl (by decide) HSO.out rfl _ rfl rfl _ HLN.out HLE hsz3 ?_; intro g8 cap8 w8 hown1 hgr1 hbe1; obtain ⟨⟨c8, hc8⟩, hf8, hW8⟩ := HAPP.out w8 _ hown1 hbe1; have HW8 := Lib.hid hW8; clear hW8 hown1 hgr1 hbe1)
                        go_roundw
                        case rel => exact ⟨_, _, _, ⟨m + 1, by omega, rfl, by unfold Hid; rw [HSE.out]; exact HW8.out⟩, rfl, rfl, by go_num⟩
                        case measure => simp [intOf]; omega
                      · have hx1 : (x == (s : Int)) = false := by simpa using hxs
                        have HW1 : Hid (GrW wi wq k s (srcK xs k s (m + 1))) := by unfold Hid; rw [HSR.out, if_neg hxs, List.append_nil]; exact hW.out
                        go_wp2_with fail
                        go_roundw
                        case rel => exact ⟨m + 1, by omega, by go_num, HW1⟩
                        case measure => simp [intOf]; omega
                    · obtain rfl : m = xs.length := by omega
                      obtain ⟨sv, hg0, hg1, hg2, hso, hsz3⟩ := hW.out.cells
                      obtain ⟨sp, sc, rfl, hsc⟩ := hso.form (n := (srcK xs k s xs.length).length) (by simp)
                      have hsl : (srcK xs k s xs.length).length ≤ 1000000 := by have := srcK_len xs k s xs.length; omega
                      have HU3 := Lib.hid (hUr2.out.trans hu3)
                      have HD3 := Lib.hid (hD.out.kept hu3)
                      have HIN : Hid (IntsAt (fun b => some b ≠ d2.ownBlock) wq (.slice sp (srcK xs k s xs.length).length sc) (srcK xs k s xs.length)) := hso.ints.sub fun b hb _ e => by
                        have := (hD.out.lt e.symm).2; omega
                      have HLE : (unK xs og k ++ stK xs og k s).length ≤ 1000000 := by
                        rw [List.length_append]
                        have h1 := unK_len xs og k; have h2 := stK_len xs og k s; omega
                      have HWZ : w.heap.size ≤ wq.heap.size := HU3.out.size
                      have HGS := Lib.hid (HG1.out s)
                      have HUSS : Hid (unK xs og k ++ stK xs og k (s + 1) = (unK xs og k ++ stK xs og k s) ++ grp1 xs og k s) := by unfold Hid; rw [HUS.out s, List.append_assoc]
                      have HE0 : Hid ((srcK xs k s xs.length).length = 0 ↔ srcK xs k s xs.length = []) := List.length_eq_zero_iff
                      clear hlt hm hsc hso
                      generalize (srcK xs k s xs.length).length = sl at *
                      generalize unK xs og k ++ stK xs og k s = L0 at *
                      by_cases hsf : (s : Int) = f
                      · have hs1 : ((s : Int) != f) = false := by simp [hsf]
                        have HDN : Hid (GrpsOwn w.heap.size 61 wq d2 (unK xs og k ++ stK xs og k (s + 1))) := by unfold Hid; rw [HUSS.out, HGS.out, if_neg (fun e => e.1 hsf), List.append_nil]; exact HD3.out
                        clear hsf
                        go_wp2_with fail
                        go_roundw
                        case rel => exact ⟨s + 1, by omega, by go_num, HDN, HU3⟩
                        case measure => simp [intOf]; omega
                      · have hs1 : ((s : Int) != f) = true := by simpa using hsf
                        by_cases hs0 : sl = 0
                        · have hs2 : decide ((0 : Int) < (sl : Int)) = false := by simp [hs0]
                          have hs3 : decide (0 < sl) = false := by simp [hs0]
                          have HDN : Hid (GrpsOwn w.heap.size 61 wq d2 (unK xs og k ++ stK xs og k (s + 1))) := by unfold Hid; rw [HUSS.out, HGS.out, if_neg (fun e => e.2 (HE0.out.1 hs0)), List.append_nil]; exact HD3.out
                          clear hs0 hsf
                          go_wp2_with fail
                          go_roundw
                          case rel => exact ⟨s + 1, by omega, by go_num, HDN, HU3⟩
                          case measure => simp [intOf]; omega
                        · have hs2 : decide ((0 : Int) < (sl : Int)) = true := by simp; omega
                          have hs3 : decide (0 < sl) = true := by simp; omega
                          have HSE : Hid (unK xs og k ++ stK xs og k (s + 1) = L0 ++ [⟨k, s, srcK xs k s xs.length⟩]) := by unfold Hid; rw [HUSS.out, HGS.out, if_pos ⟨hsf, fun e => hs0 (HE0.out.2 e)⟩]
                          clear hs0 hsf
                          go_wp2_with (at_builtin; refine wpList_appGrp wq rfl _ _ 26 rfl w.heap.size 61 _ 40 Tryz.underlying26 Tryz.infoEG rfl (by decide) HD3.out rfl ⟨k, s, srcK xs k s xs.length⟩ (.slice sp sl sc) rfl HIN.out rfl _ rfl HLE HWZ ?_; intro g8 cap8 w8 hown1 hgr1 hbe1)
                          go_roundw
                          case rel => exact ⟨s + 1, by omega, by go_num, by unfold Hid; rw [HSE.out]; exact hown1, Below.trans HU3.out hbe1⟩
                          case measure => simp [intOf]; omega
                · obtain rfl : s = 16 := by omega
                  have HDE : Hid (GrpsOwn w.heap.size 61 wi d2 (unK xs og (k + 1))) := by unfold Hid; rw [HUE.out]; exact hD.out
                  go_wp2_with fail
                  go_roundw
                  case rel => exact ⟨k + 1, by omega, by go_num, HDE, hUr2⟩
                  case measure => simp [intOf]; omega
          · obtain rfl : k = og.length := by omega
            clear hlt hk
            go_wp2_with fail
            go_ret2
            exact ⟨hUr.out, d, by rw [HG.out]; rfl, by rw [HGN.out, if_pos HG.out]; exact hD.out.grps⟩
    · have hl1 : ((og.length : Int) != ((gl xs 0).length : Int)) = true := by simp; omega
      have HG : Hid (grErr xs og = 9) := by unfold Hid; rw [HGE.out, if_neg (fun e => e ha), if_pos (by unfold plN; exact hl)]
      clear hl
      go_enter Tryz.func49, Tryz.ntmps49
      go_wp2_with fail
      refine HAC.out.mono ?_
      rintro e w' ⟨rfl, rfl⟩
      go_wp2_with fail
      go_ret2
      exact ⟨Up.refl _, _, by rw [HG.out]; rfl, by rw [HGN.out, HG.out]; exact HNIL.out _⟩
  · have HG : Hid (grErr xs og = agErr xs) := by unfold Hid; rw [HGE.out, if_pos ha]
    have HA := Lib.hid ha
    have ha1 : (agErr xs != 0) = true := by simpa using ha
    clear ha
    go_enter Tryz.func49, Tryz.ntmps49
    go_wp2_with fail
    refine HAC.out.mono ?_
    rintro e w' ⟨rfl, rfl⟩
    go_wp2_with fail
    go_ret2
    exact ⟨Up.refl _, _, by rw [HG.out]; rfl, by rw [HGN.out, HG.out, if_neg HA.out]; exact HNIL.out _⟩
end Go.Proofs.YtgjcfkadioblfaaGreat
namespace Go.Proofs.YtgjcfkadioblfaaGreat
open Go.RowKit Go.Deep
theorem contains_int_t (S : Nat → Prop) (w : World) (v : Value) (xs : List Int) (x : Int) (h : IntsAt S w v xs) (hn : xs.length ≤ 1000000) :
    Calls Tryz.prog 81 #[v, .int .i64 x] w fun e w' => e = .returned (.bool ((List.range xs.length).any fun j => decide (x = gi xs j))) ∧ w = w' := by
  have hx := firstIx_any (fun j => decide (x = gi xs j)) xs.length
  have HX := Lib.hid hx
  have HI := Lib.hid (index_int_t S w v xs x h hn)
  clear hx h
  go_enter Tryz.func81, Tryz.ntmps81
  go_wp2_with fail
  refine HI.out.mono ?_
  rintro e w' ⟨rfl, rfl⟩
  go_wp2_with fail
  go_ret
  exact ⟨ret_bool (by rw [← HX.out]), rfl⟩
theorem any_memI (x : Int) (xs : List Int) : ((List.range xs.length).any fun j => decide (x = gi xs j)) = decide (x ∈ xs) := by
  rw [Bool.eq_iff_iff, List.any_eq_true, decide_eq_true_eq]
  constructor
  · rintro ⟨j, hj, h⟩
    rw [of_decide_eq_true h]; exact gi_mem (List.mem_range.1 hj)
  · intro h
    obtain ⟨j, hj, e⟩ := List.getElem_of_mem h
    exact ⟨j, List.mem_range.2 hj, by simp [gi, hj, e]⟩
def g30At (xs : List (List Int)) (k : Nat) : Bool := (decide (10 < (gl xs k).length) && decide ((gl xs k).length ≤ 4096)) || decide (4098 < (gl xs k).length) || (decide (10 < (gl xs k).length) && decide (1 < k))
def great30B (xs : List (List Int)) : Bool := (List.range xs.length).any (g30At xs) || ((decide (8 < xs.length) && decide (xs.length ≤ 32)) || decide (34 < xs.length))
theorem great30_small {xs : List (List Int)} (h : great30B xs = false) : xs.length ≤ 34 ∧ ∀ k, (gl xs k).length ≤ 4098 := by
  unfold great30B at h
  simp only [Bool.or_eq_false_iff, Bool.and_eq_false_iff, decide_eq_false_iff_not] at h
  refine ⟨by omega, fun k => ?_⟩
  by_cases hk : k < xs.length
  · have := any_false h.1 hk
    unfold g30At at this
    simp only [Bool.or_eq_false_iff, Bool.and_eq_false_iff, decide_eq_false_iff_not] at this
    omega
  · have : gl xs k = [] := by simp [gl, List.getElem?_eq_none (by omega : xs.length ≤ k)]
    rw [this]; simp
end Go.Proofs.YtgjcfkadioblfaaGreat
namespace Go.Proofs.YtgjcfkadioblfaaGreat
open Go.RowKit Go.Deep
def gr35B (l : List Grp) : Bool := (decide (12 < l.length) && decide (l.length ≤ 256)) || decide (258 < l.length) || (List.range l.length).any fun k => decide (36 < (gg l k).src.length)
theorem gr35_small {l : List Grp} (h : gr35B l = false) : l.length ≤ 258 ∧ ∀ k, (gg l k).src.length ≤ 36 := by
  unfold gr35B at h
  simp only [Bool.or_eq_false_iff, Bool.and_eq_false_iff, decide_eq_false_iff_not] at h
  refine ⟨by omega, fun k => ?_⟩
  by_cases hk : k < l.length
  · have := any_false h.2 hk
    simp at this; omega
  · have : gg l k = ⟨0, 0, []⟩ := by simp [gg, hk]
    rw [this]; simp
set_option maxRecDepth 100000 in
set_option maxHeartbeats 1000000 in
theorem great35_t (S : Nat → Prop) (w : World) (v : Value) (l : List Grp) (h : GrpsAt S w v l) (hn : l.length ≤ 9223372036854775807) (hr : ∀ k, (gg l k).src.length ≤ 9223372036854775807) :
    Calls Tryz.prog 8 #[v] w fun e w' => e = .returned (.bool (gr35B l)) ∧ w = w' := by
  obtain ⟨p, cap, rfl, hcap⟩ := grps_open h
  have H := Lib.hid h
  have HR := Lib.hid hr
  have HG : Hid (gr35B l = ((decide (12 < l.length) && decide (l.length ≤ 256)) || decide (258 < l.length) || (List.range l.length).any fun k => decide (36 < (gg l k).src.length))) := rfl
  clear h hr
  by_cases c1 : (12 < l.length ∧ l.length ≤ 256) ∨ 258 < l.length
  · have HE : Hid (gr35B l = true) := by unfold Hid; rw [HG.out]; rcases c1 with ⟨a, b⟩ | a <;> simp [*]
    clear HG H HR
    by_cases h1 : 12 < l.length
    · have d1 : decide ((12 : Int) < (l.length : Int)) = true := by simp; omega
      by_cases h2 : l.length ≤ 256
      · have d2 : decide ((l.length : Int) ≤ 256) = true := by simp; omega
        go_enter Tryz.func8, Tryz.ntmps8
        go_wp2_with fail
        go_ret
        exact ⟨ret_bool HE.out.symm, rfl⟩
      · have d2 : decide ((l.length : Int) ≤ 256) = false := by simp; omega
        have d3 : decide ((258 : Int) < (l.length : Int)) = true := by simp; omega
        go_enter Tryz.func8, Tryz.ntmps8
        go_wp2_with fail
        go_ret
        exact ⟨ret_bool HE.out.symm, rfl⟩
    · omega
  · have hs : l.length ≤ 12 ∨ (256 < l.length ∧ l.length ≤ 258) := by omega
    have HA : Hid (gr35B l = (List.range l.length).any fun k => decide (36 < (gg l k).src.length)) := by
      unfold Hid; rw [HG.out]
      have e1 : (decide (12 < l.length) && decide (l.length ≤ 256)) = false := by simp; omega
      have e2 : decide (258 < l.length) = false := by simp; omega
      rw [e1, e2]; rfl
    have d3 : decide ((258 : Int) < (l.length : Int)) = false := by simp; omega
    have hd12 : ∃ b1 b2 : Bool, decide ((12 : Int) < (l.length : Int)) = b1 ∧ decide ((l.length : Int) ≤ 256) = b2 ∧ (b1 && b2) = false := ⟨_, _, rfl, rfl, by simp; omega⟩
    obtain ⟨b1, b2, d1, d2, d12⟩ := hd12
    have HD12 := Lib.hid d12
    clear HG c1 hs d12
    cases b1
    · go_enter Tryz.func8, Tryz.ntmps8
      go_wp2_with fail
      go_loop [3] (fun i => ∃ k : Nat, k ≤ l.length ∧ i = .int .i64 k ∧ Hid (∀ j, j < k → decide (36 < (gg l j).src.length) = false)) (fun i => l.length - (intOf i).toNat)
      case atStart => exact ⟨0, Nat.zero_le _, rfl, fun j hj => absurd hj (Nat.not_lt_zero _)⟩
      case round =>
        obtain ⟨k, hk, rfl, hd⟩ := hrel
        by_cases hlt : k < l.length
        · obtain ⟨b, off, rq, rc, rfl, _, _, hc2, _⟩ := grps_get H.out hlt
          have hrk := HR.out k
          have i1 : (0 : Int) ≤ (k : Int) := by omega
          have i2 : (k : Int) < (l.length : Int) := by omega
          by_cases hb : 36 < (gg l k).src.length
          · have e1 : decide ((36 : Int) < ((gg l k).src.length : Int)) = true := by simp; omega
            have HE : Hid (gr35B l = true) := by unfold Hid; rw [HA.out]; exact any_at (p := fun k => decide (36 < (gg l k).src.length)) hlt (by simpa using hb)
            go_wp2_with fail
            go_ret
            exact ⟨ret_bool HE.out.symm, rfl⟩
          · have e1 : decide ((36 : Int) < ((gg l k).src.length : Int)) = false := by simp; omega
            have HB : Hid (decide (36 < (gg l k).src.length) = false) := decide_eq_false hb
            go_wp2_with fail
            go_round
            case rel => exact ⟨k + 1, by omega, by go_num, fun j hj => if e : j = k then by subst e; exact HB.out else hd.out j (by omega)⟩
            case measure => simp [intOf]; omega
        · obtain rfl : k = l.length := by omega
          have HE : Hid (gr35B l = false) := by unfold Hid; rw [HA.out]; exact any_none hd.out
          clear hlt hk
          go_wp2_with fail
          go_ret
          exact ⟨ret_bool HE.out.symm, rfl⟩
    · cases b2
      · go_enter Tryz.func8, Tryz.ntmps8
        go_wp2_with fail
        go_loop [3] (fun i => ∃ k : Nat, k ≤ l.length ∧ i = .int .i64 k ∧ Hid (∀ j, j < k → decide (36 < (gg l j).src.length) = false)) (fun i => l.length - (intOf i).toNat)
        case atStart => exact ⟨0, Nat.zero_le _, rfl, fun j hj => absurd hj (Nat.not_lt_zero _)⟩
        case round =>
          obtain ⟨k, hk, rfl, hd⟩ := hrel
          by_cases hlt : k < l.length
          · obtain ⟨b, off, rq, rc, rfl, _, _, hc2, _⟩ := grps_get H.out hlt
            have hrk := HR.out k
            have i1 : (0 : Int) ≤ (k : Int) := by omega
            have i2 : (k : Int) < (l.length : Int) := by omega
            by_cases hb : 36 < (gg l k).src.length
            · have e1 : decide ((36 : Int) < ((gg l k).src.length : Int)) = true := by simp; omega
              have HE : Hid (gr35B l = true) := by unfold Hid; rw [HA.out]; exact any_at (p := fun k => decide (36 < (gg l k).src.length)) hlt (by simpa using hb)
              go_wp2_with fail
              go_ret
              exact ⟨ret_bool HE.out.symm, rfl⟩
            · have e1 : decide ((36 : Int) < ((gg l k).src.length : Int)) = false := by simp; omega
              have HB : Hid (decide (36 < (gg l k).src.length) = false) := decide_eq_false hb
              go_wp2_with fail
              go_round
              case rel => exact ⟨k + 1, by omega, by go_num, fun j hj => if e : j = k then by subst e; exact HB.out else hd.out j (by omega)⟩
              case measure => simp [intOf]; omega
          · obtain rfl : k = l.length := by omega
            have HE : Hid (gr35B l = false) := by unfold Hid; rw [HA.out]; exact any_none hd.out
            clear hlt hk
            go_wp2_with fail
            go_ret
            exact ⟨ret_bool HE.out.symm, rfl⟩
      · exact absurd HD12.out (by decide)
def fine35B (l : List Grp) : Bool := if 12 < l.length then false else if gr35B l then false else decide (gcErr l = 0)
theorem fine35_ok {l : List Grp} (h : fine35B l = true) : l.length ≤ 12 ∧ (∀ k, (gg l k).src.length ≤ 36) ∧ gcErr l = 0 := by
  unfold fine35B at h
  split at h
  · cases h
  · split at h
    · cases h
    · rename_i h1 h2
      have := gr35_small (by simpa using h2 : gr35B l = false)
      exact ⟨by omega, this.2, by simpa using h⟩
end Go.Proofs.YtgjcfkadioblfaaGreat
