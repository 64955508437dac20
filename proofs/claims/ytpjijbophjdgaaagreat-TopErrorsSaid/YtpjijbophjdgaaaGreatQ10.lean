/- cmp.Compare at ints, slices.Compare at lists of ints. The contract of slices.Repeat of a list of one number 1. Lists of lists that a call grows; a store into a list of the call's own. The contract of parsimony.cost. Groups of sources in memory; what Groups computes, plain. The example of the chapter: three, awake. slices.IndexFunc and ContainsFunc at lists with a function that draws. -/
import Derived.Test.YtpjijbophjdgaaaGreatQ4
import Derived.Test.YtpjijbophjdgaaaGreatQ7
import Derived.Test.YtpjijbophjdgaaaGreatQ3
import Derived.Test.YtpjijbophjdgaaaGreatQ2
import Derived.Laws.CopyOwn
import Derived.Deep.RegionLaw
import Derived.RegionTactic
import Derived.Test.YtpjijbophjdgaaaGreatQ8
import Derived.Test.YtpjijbophjdgaaaGreatQ6
import Derived.Test.YtpjijbophjdgaaaGreatQ1
import Derived.Test.YtpjijbophjdgaaaGreatQ9
namespace Go.Proofs.YtpjijbophjdgaaaGreat
open Go.RowKit Go.Deep
def cmpI (x y : Int) : Int := if x < y then -1 else if y < x then 1 else 0
set_option maxHeartbeats 400000 in
theorem nan_t (x : Int) (w : World) : Calls Tryz.prog 159 #[.int .i64 x] w fun e w' => e = .returned (.bool false) ∧ w = w' := by
  go_enter Tryz.func159, Tryz.ntmps159
  go_wp2_with fail
  go_ret
  exact ⟨ret_bool (by simp), rfl⟩
set_option maxHeartbeats 400000 in
theorem cmpI_t (x y : Int) (w : World) : Calls Tryz.prog 87 #[.int .i64 x, .int .i64 y] w fun e w' => e = .returned (.int .i64 (cmpI x y)) ∧ w = w' := by
  have HX := Lib.hid (nan_t x w)
  have HY := Lib.hid (nan_t y w)
  have HC : Hid (cmpI x y = if x < y then -1 else if y < x then 1 else 0) := rfl
  by_cases h1 : x < y
  · have h2 : ¬ y < x := by omega
    go_enter Tryz.func87, Tryz.ntmps87
    go_wp2_with fail
    refine HX.out.mono ?_
    rintro e w' ⟨rfl, rfl⟩
    go_wp2_with fail
    refine HY.out.mono ?_
    rintro e w' ⟨rfl, rfl⟩
    go_wp2_with fail
    go_ret
    exact ⟨ret_int (by rw [HC.out, if_pos h1]), rfl⟩
  by_cases h2 : y < x
  · go_enter Tryz.func87, Tryz.ntmps87
    go_wp2_with fail
    refine HX.out.mono ?_
    rintro e w' ⟨rfl, rfl⟩
    go_wp2_with fail
    refine HY.out.mono ?_
    rintro e w' ⟨rfl, rfl⟩
    go_wp2_with fail
    go_ret
    exact ⟨ret_int (by rw [HC.out, if_neg (by omega), if_pos h2]), rfl⟩
  · go_enter Tryz.func87, Tryz.ntmps87
    go_wp2_with fail
    refine HX.out.mono ?_
    rintro e w' ⟨rfl, rfl⟩
    go_wp2_with fail
    refine HY.out.mono ?_
    rintro e w' ⟨rfl, rfl⟩
    go_wp2_with fail
    go_ret
    exact ⟨ret_int (by rw [HC.out, if_neg (by omega), if_neg (by omega)]), rfl⟩
theorem cmpL_nil (b : List Int) : cmpL [] b = if b.length = 0 then 0 else -1 := by cases b <;> simp [cmpL]
theorem cmpL_drop {a b : List Int} : ∀ {k : Nat}, k ≤ a.length → k ≤ b.length → (∀ j, j < k → gi a j = gi b j) → cmpL a b = cmpL (a.drop k) (b.drop k)
  | 0, _, _, _ => by simp
  | k + 1, ha, hb, h => by
    rw [cmpL_drop (k := k) (by omega) (by omega) fun j hj => h j (by omega)]
    rw [List.drop_eq_getElem_cons (show k < a.length by omega), List.drop_eq_getElem_cons (show k < b.length by omega)]
    have e := h k (by omega)
    simp only [gi, List.getD_eq_getElem?_getD, List.getElem?_eq_getElem (show k < a.length by omega), List.getElem?_eq_getElem (show k < b.length by omega), Option.getD_some] at e
    rw [cmpL, if_neg (by omega), if_neg (by omega)]
theorem cmpL_at {a b : List Int} {k : Nat} (ha : k < a.length) (hb : k < b.length) (h : ∀ j, j < k → gi a j = gi b j) (hne : cmpI (gi a k) (gi b k) ≠ 0) : cmpL a b = cmpI (gi a k) (gi b k) := by
  rw [cmpL_drop (by omega) (by omega) h, List.drop_eq_getElem_cons ha, List.drop_eq_getElem_cons hb]
  have e1 : gi a k = a[k] := by simp [gi, ha]
  have e2 : gi b k = b[k] := by simp [gi, hb]
  rw [e1, e2] at hne ⊢
  unfold cmpI at hne ⊢
  rw [cmpL]
  split
  · rfl
  · rename_i h1
    rw [if_neg h1] at hne
    split
    · rfl
    · rename_i h2; rw [if_neg h2] at hne; exact absurd rfl hne
set_option maxRecDepth 100000 in
set_option maxHeartbeats 1000000 in
theorem cmpL_t (S T : Nat → Prop) (w : World) (v u : Value) (a b : List Int) (h : IntsAt S w v a) (h2 : IntsAt T w u b) (hn : a.length ≤ 1000000) (_ : b.length ≤ 1000000) :
    Calls Tryz.prog 24 #[v, u] w fun e w' => e = .returned (.int .i64 (cmpL a b)) ∧ w = w' := by
  obtain ⟨p, cap, rfl, -, -⟩ := SlAt.open h
  obtain ⟨q, caq, rfl, -, -⟩ := SlAt.open h2
  have H : Hid (IntsAt S w (.slice p a.length cap) a) := h
  have H2 : Hid (IntsAt T w (.slice q b.length caq) b) := h2
  clear h h2
  go_enter Tryz.func24, Tryz.ntmps24
  go_wp2_with fail
  go_loop [5, 6, 7, 8, 11] (fun _ _ _ _ i => ∃ k : Nat, k ≤ a.length ∧ k ≤ b.length ∧ i = .int .i64 k ∧ Hid (∀ j, j < k → gi a j = gi b j)) (fun _ _ _ _ i => a.length - (intOf i).toNat)
  case atStart => exact ⟨0, Nat.zero_le _, Nat.zero_le _, rfl, fun j hj => absurd hj (Nat.not_lt_zero _)⟩
  case round =>
    obtain ⟨k, hk, hk2, rfl, hd⟩ := hrel
    by_cases hlt : k < a.length
    · obtain ⟨b1, o1, rfl, hc⟩ := ints_get H.out hlt
      have k1 : (0 : Int) ≤ (k : Int) := Int.natCast_nonneg _
      have k2 : (k : Int) < (a.length : Int) := Int.ofNat_lt.2 hlt
      by_cases hlt2 : k < b.length
      · obtain ⟨b2, o2, rfl, hc2⟩ := ints_get H2.out hlt2
        have k3 : (k : Int) < (b.length : Int) := Int.ofNat_lt.2 hlt2
        have k4 : ¬ (b.length : Int) ≤ (k : Int) := by omega
        have HAT : Hid (cmpI (gi a k) (gi b k) ≠ 0 → cmpL a b = cmpI (gi a k) (gi b k)) := cmpL_at hlt hlt2 hd.out
        have HEQ : Hid (cmpI (gi a k) (gi b k) = 0 → gi a k = gi b k) := fun e => by
          unfold cmpI at e
          split at e
          · cases e
          · split at e
            · cases e
            · omega
        have HC := Lib.hid (cmpI_t (gi a k) (gi b k) w)
        generalize hgx : gi a k = x at *
        generalize hgy : gi b k = y at *
        have HGX := Lib.hid hgx
        have HGY := Lib.hid hgy
        clear hgx hgy
        generalize cmpI x y = c at *
        by_cases h0 : c = 0
        · have HE := Lib.hid (HEQ.out h0)
          subst h0
          go_wp2_with fail
          refine HC.out.mono ?_
          rintro e w' ⟨rfl, rfl⟩
          go_wp2_with fail
          go_round
          case rel => exact ⟨k + 1, by omega, by omega, by go_num, fun j hj => by
            by_cases e : j = k
            · subst e; rw [HGX.out, HGY.out]; exact HE.out
            · exact hd.out j (by omega)⟩
          case measure => simp [intOf]; omega
        · have HZ := Lib.hid h0
          have d1 : (c == 0) = false := by simpa using h0
          have d2 : (c != 0) = true := by simpa using h0
          clear h0
          go_wp2_with fail
          refine HC.out.mono ?_
          rintro e w' ⟨rfl, rfl⟩
          go_wp2_with fail
          go_ret
          exact ⟨ret_int (HAT.out HZ.out).symm, rfl⟩
      · obtain rfl : k = b.length := by omega
        have k4 : (b.length : Int) ≤ (b.length : Int) := Int.le_refl _
        have HL := Lib.hid hlt
        go_wp2_with fail
        go_ret
        exact ⟨ret_int (by rw [cmpL_drop hk (Nat.le_refl _) hd.out, List.drop_length, List.drop_eq_getElem_cons HL.out]; rfl), rfl⟩
    · obtain rfl : k = a.length := by omega
      have HR : Hid (cmpL a b = if b.length - a.length = 0 then 0 else -1) := by unfold Hid; rw [cmpL_drop (Nat.le_refl _) hk2 hd.out, List.drop_length, cmpL_nil, List.length_drop]
      by_cases hl : a.length < b.length
      · have hl2 : (a.length : Int) < (b.length : Int) := Int.ofNat_lt.2 hl
        go_wp2_with fail
        go_ret
        exact ⟨ret_int (by rw [HR.out, if_neg (by omega)]), rfl⟩
      · have hl2 : ¬ (a.length : Int) < (b.length : Int) := by omega
        have HL := Lib.hid hl
        go_wp2_with fail
        go_ret
        exact ⟨ret_int (by rw [HR.out, if_pos (by have := HL.out; omega)]), rfl⟩
end Go.Proofs.YtpjijbophjdgaaaGreat
namespace Go.Proofs.YtpjijbophjdgaaaGreat
open Go.RowKit Go.Deep
end Go.Proofs.YtpjijbophjdgaaaGreat
namespace Go.Proofs.YtpjijbophjdgaaaGreat
open Go.RowKit Go.Deep
theorem Owns.set {base : Nat} {e : TypeId} {w : World} {v : Value} {vs : List Value} (h : Owns base e w v vs) {j : Nat} (hj : j < vs.length) :
    ∃ g cap, v = .slice (some ⟨g, 0, none⟩) vs.length cap ∧ base ≤ g ∧ g < w.heap.size ∧ w.cell? ⟨g, j, none⟩ = some (vs.getD j undef) ∧ w.frozen? ⟨g, j, none⟩ = false ∧ ∀ x, Owns base e (w.setCell ⟨g, j, none⟩ x) v (vs.set j x) := by
  obtain ⟨hl, h | ⟨g, cap, cur, rfl, hg, hc, hn, hcm, hcs, ht⟩⟩ := h
  · omega
  · have hgl : g < w.heap.size := (Array.getElem?_eq_some_iff.1 hc).1
    have ht1 : cur.toList.take vs.length = vs := by rw [Nat.mul_one] at ht; exact ht
    have hj2 : j < cur.size := by omega
    have hcell : cur[j]? = some (vs.getD j undef) := by
      have h1 : vs[j]? = some (vs.getD j undef) := by simp [hj]
      rw [← h1]
      have h2 := congrArg (·[j]?) ht1
      simp only [List.getElem?_take, hj, if_true] at h2
      rw [← h2]; simp
    refine ⟨g, cap, rfl, hg, hgl, by simp [World.cell?, hc, hcell], by simp [World.frozen?, hc], fun x => ⟨by simp, .inr ⟨g, cap, cur.setIfInBounds j x, by simp, hg, ?_, by simpa using hn, hcm, by simpa using hcs, ?_⟩⟩⟩
    · simp [World.setCell, Array.getElem?_modify, hc]
    · rw [List.length_set, Nat.mul_one, Array.toList_setIfInBounds, List.take_set, ht1]
def RowsOwn (base : Nat) (T : TypeId) (w : World) (d : Value) (xs : List (List Int)) : Prop :=
  ∃ vals : List Value, vals.length = xs.length ∧ Owns base T w d vals ∧ ∀ i, i < xs.length → IntsAt (fun b => some b ≠ d.ownBlock) w (vals.getD i undef) (gl xs i)
theorem ownBlock_lt {base : Nat} {e : TypeId} {w : World} {v : Value} {vs : List Value} (h : Owns base e w v vs) {b : Nat} (hb : v.ownBlock = some b) : base ≤ b ∧ b < w.heap.size := World.ownsRow.lt h b hb
theorem take_gl {l : List (List Int)} {m : Nat} (h : m < l.length) : l.take (m + 1) = l.take m ++ [gl l m] := by
  rw [List.take_succ_eq_append_getElem h]; simp [gl, h]
theorem RowsOwn.nil (base : Nat) (T : TypeId) (w : World) : RowsOwn base T w (.slice none 0 0) [] := ⟨[], rfl, Owns.nil _ _ _, fun _ hi => absurd hi (Nat.not_lt_zero _)⟩
theorem RowsOwn.rows {base : Nat} {T : TypeId} {w : World} {d : Value} {xs : List (List Int)} (h : RowsOwn base T w d xs) : RowsAt Any w d xs := by
  obtain ⟨vals, hl, ho, hr⟩ := h
  have h1 := ho.slAt
  rw [hl] at h1
  exact ⟨_, h1.sub fun _ _ _ => trivial, fun k hk => (hr k hk).sub fun _ _ _ => trivial⟩
theorem RowsOwn.kept {base : Nat} {T : TypeId} {w w' : World} {d : Value} {xs : List (List Int)} (h : RowsOwn base T w d xs) (k : Up w w') : RowsOwn base T w' d xs := by
  obtain ⟨vals, hl, ho, hr⟩ := h
  exact ⟨vals, hl, ho.kept fun b _ hb => Below.block k b hb, fun i hi => (hr i hi).keep (k.kept _)⟩
section
variable {P : Program} {ops : Array Oper} {rest : List Oper} {o : Oper} {a : Act} {Q : Exit → Act → World → Prop}
theorem wpList_appN (W : World) (hgd : o.guard = none) (s x : Operand) (t : TypeId) (ho : o.op = .call { callee := .builtin .append, args := #[s, x], argTypes := #[t, t] })
    (base : Nat) (e : TypeId) (z : Value) (bytes : Nat) (ht : P.underlying t = some (.slice e)) (hinfo : (P.info? e).map (fun i => (i.zero, i.size, i.bytes)) = some (some z, 1, bytes))
    (hz1 : z.cells.size = 1) (hb8 : bytes ≤ 64) {v : Value} {vs : List Value} (hown : Owns base e W v vs) (hs : a.eval s = v) (u : Value)
    (hx : a.eval x = .slice (some ⟨W.heap.size, 0, none⟩) 1 1) (h1 : u.oneCell' = true) (n : Nat) (hvn : vs.length = n) (hn : n ≤ 1000000) (hbase : base ≤ W.heap.size)
    (h : ∀ g cap w', Owns base e w' (.slice (some ⟨g, 0, none⟩) (n + 1) cap) (vs ++ [u]) → W.grownBy w' v.ownBlock → Below base W w' → wpList P ops Q rest (a.put o.dst (.slice (some ⟨g, 0, none⟩) (n + 1) cap)) w') :
    wpList P ops Q (o :: rest) a (W.alloc (.cells #[u] e)) := by
  subst hvn
  exact wpList_app1 W hgd s x t ho base e z bytes ht hinfo hz1 hb8 hown hs u hx h1 hn hbase h
theorem wpList_appRow (W : World) (hgd : o.guard = none) (s x : Operand) (t : TypeId) (ho : o.op = .call { callee := .builtin .append, args := #[s, x], argTypes := #[t, t] })
    (base : Nat) (e : TypeId) (z : Value) (bytes : Nat) (ht : P.underlying t = some (.slice e)) (hinfo : (P.info? e).map (fun i => (i.zero, i.size, i.bytes)) = some (some z, 1, bytes))
    (hz1 : z.cells.size = 1) (hb8 : bytes ≤ 64) {v : Value} {xs : List (List Int)} (hown : RowsOwn base e W v xs) (hs : a.eval s = v) (u : Value) (y : List Int)
    (hx : a.eval x = .slice (some ⟨W.heap.size, 0, none⟩) 1 1) (hu : IntsAt (fun b => some b ≠ v.ownBlock) W u y) (h1 : u.oneCell' = true) (n : Nat) (hxn : xs.length = n) (hn : n ≤ 1000000) (hbase : base ≤ W.heap.size)
    (h : ∀ g cap w', RowsOwn base e w' (.slice (some ⟨g, 0, none⟩) (n + 1) cap) (xs ++ [y]) → W.grownBy w' v.ownBlock → Below base W w' → wpList P ops Q rest (a.put o.dst (.slice (some ⟨g, 0, none⟩) (n + 1) cap)) w') :
    wpList P ops Q (o :: rest) a (W.alloc (.cells #[u] e)) := by
  subst hxn
  obtain ⟨i, hi, hzz⟩ := Option.map_eq_some_iff.1 hinfo
  simp only [Prod.mk.injEq] at hzz
  obtain ⟨hz, hs1, hb⟩ := hzz
  obtain ⟨vals, hl, hown, hrows⟩ := hown
  refine wpList_append_lies _ hgd s x t ho base e i z 1 bytes ht hi hz hs1 hb hz1 (by omega) v vals.length vals hs (hown.alloc _) ⟨W.heap.size, 0, none⟩ 1 1 [u] hx rfl (cell_one_new _ _ _) (by simpa using h1) (by omega)
    (by unfold maxLen; omega) ?_ (by simp; omega) _ rfl fun g cap w' h2 h3 h4 _ => ?_
  · have : (vals.length + 1) * bytes ≤ (vals.length + 1) * 64 := Nat.mul_le_mul_left _ hb8
    omega
  · have hg := grown_alloc h3
    rw [hl] at h2 ⊢
    have hgne : ∀ b : Nat, some b ≠ v.ownBlock → b < W.heap.size → some b ≠ (Value.slice (some ⟨g, 0, none⟩) (xs.length + 1) cap).ownBlock := fun b hb hlt e => by
      simp only [Value.ownBlock, Option.some.injEq] at e
      rcases h4 with h4 | h4
      · exact hb (by rw [h4, e])
      · rw [World.size_alloc] at h4; omega
    have hkeep : ∀ {u' : Value} {y' : List Int}, IntsAt (fun b => some b ≠ v.ownBlock) W u' y' → IntsAt (fun b => some b ≠ (Value.slice (some ⟨g, 0, none⟩) (xs.length + 1) cap).ownBlock) w' u' y' := fun hi' =>
      ((hi'.sub (T := fun b => some b ≠ v.ownBlock ∧ b < W.heap.size) fun b hb hlt => ⟨hb, hlt⟩).keep fun b hb hlt => hg.block b hlt hb.1).sub fun b hb _ => hgne b hb.1 hb.2
    refine h g cap w' ⟨vals ++ [u], by simp [hl], ?_, fun i hi => ?_⟩ hg (hown.grown_below hg hbase)
    · unfold Owns; rw [List.length_append, hl]; exact h2
    · rw [List.length_append] at hi
      by_cases hi2 : i < xs.length
      · have e1 : (vals ++ [u]).getD i undef = vals.getD i undef := by simp [List.getElem?_append, hl, hi2]
        have e2 : gl (xs ++ [y]) i = gl xs i := by simp [gl, List.getElem?_append, hi2]
        rw [e1, e2]; exact hkeep (hrows i hi2)
      · obtain rfl : i = xs.length := by simp at hi; omega
        have e1 : (vals ++ [u]).getD xs.length undef = u := by simp [← hl]
        have e2 : gl (xs ++ [y]) xs.length = y := by simp [gl]
        rw [e1, e2]; exact hkeep hu
end
end Go.Proofs.YtpjijbophjdgaaaGreat
namespace Go.Proofs.YtpjijbophjdgaaaGreat
open Go.RowKit Go.Shelf Go.Deep
attribute [local go_sem] Oper.semAt_some
end Go.Proofs.YtpjijbophjdgaaaGreat
namespace Go.Proofs.YtpjijbophjdgaaaGreat
open Go.RowKit Go.Deep
structure Grp where
  un : Int
  st : Int
  src : List Int
def gg (l : List Grp) (k : Nat) : Grp := l.getD k ⟨0, 0, []⟩
def GrpsAt (S : Nat → Prop) (w : World) (v : Value) (gs : List Grp) : Prop :=
  ∃ p cap, v = .slice p gs.length cap ∧ gs.length ≤ cap ∧ (gs.length = 0 ∨ ∃ b off, p = some ⟨b, off, none⟩ ∧ S b ∧ ∀ k, k < gs.length → ∃ sv, w.cell? ⟨b, off + k * 3, none⟩ = some (.int .i64 (gg gs k).un) ∧ w.cell? ⟨b, off + k * 3 + 1, none⟩ = some (.int .i64 (gg gs k).st) ∧ w.cell? ⟨b, off + k * 3 + 2, none⟩ = some sv ∧ IntsAt S w sv (gg gs k).src)
theorem GrpsAt.keep {S : Nat → Prop} {w w' : World} {v : Value} {gs : List Grp} (h : GrpsAt S w v gs) (k : Kept S w w') : GrpsAt S w' v gs := by
  obtain ⟨p, cap, rfl, hn, h⟩ := h
  refine ⟨p, cap, rfl, hn, ?_⟩
  rcases h with h | ⟨b, off, rfl, hS, h⟩
  · exact .inl h
  · refine .inr ⟨b, off, rfl, hS, fun i hi => ?_⟩
    obtain ⟨sv, h1, h2, h3, h4⟩ := h i hi
    have hlt : b < w.heap.size := World.block_lt_of_cell? w _ h1
    have hc : ∀ o, w'.cell? ⟨b, o, none⟩ = w.cell? ⟨b, o, none⟩ := fun o => World.cell?_of_block (a := ⟨b, o, none⟩) (k b hS hlt)
    exact ⟨sv, (hc _).trans h1, (hc _).trans h2, (hc _).trans h3, h4.keep k⟩
theorem GrpsAt.sub {S T : Nat → Prop} {w : World} {v : Value} {gs : List Grp} (h : GrpsAt S w v gs) (hST : ∀ b, S b → b < w.heap.size → T b) : GrpsAt T w v gs := by
  obtain ⟨p, cap, rfl, hn, h⟩ := h
  refine ⟨p, cap, rfl, hn, ?_⟩
  rcases h with h | ⟨b, off, rfl, hS, h⟩
  · exact .inl h
  · by_cases h0 : gs.length = 0
    · exact .inl h0
    · obtain ⟨_, h1, _⟩ := h 0 (by omega)
      refine .inr ⟨b, off, rfl, hST b hS (World.block_lt_of_cell? w _ h1), fun i hi => ?_⟩
      obtain ⟨sv, h1, h2, h3, h4⟩ := h i hi
      exact ⟨sv, h1, h2, h3, h4.sub hST⟩
def srcK (xs : List (List Int)) (u : Nat) (s : Int) (k : Nat) : List Int := ((List.range k).filter fun i => gi (gl xs i) u == s).map fun (i : Nat) => (i : Int)
theorem srcK_succ (xs : List (List Int)) (u : Nat) (s : Int) (k : Nat) : srcK xs u s (k + 1) = srcK xs u s k ++ (if gi (gl xs k) u = s then [(k : Int)] else []) := by
  unfold srcK
  rw [List.range_succ, List.filter_append, List.map_append]
  congr 1
  by_cases h : gi (gl xs k) u = s
  · simp [h]
  · simp [h]
theorem srcK_len (xs : List (List Int)) (u : Nat) (s : Int) (k : Nat) : (srcK xs u s k).length ≤ k := by
  unfold srcK
  rw [List.length_map]
  exact Nat.le_trans (List.length_filter_le _ _) (by simp)
def grp1 (xs : List (List Int)) (og : List Int) (u s : Nat) : List Grp := if (s : Int) ≠ gi og u ∧ srcK xs u s xs.length ≠ [] then [⟨u, s, srcK xs u s xs.length⟩] else []
def stK (xs : List (List Int)) (og : List Int) (u s : Nat) : List Grp := (List.range s).flatMap (grp1 xs og u)
def unG (xs : List (List Int)) (og : List Int) (u : Nat) : List Grp := if gi og u < 0 then [] else stK xs og u 16
def unK (xs : List (List Int)) (og : List Int) (k : Nat) : List Grp := (List.range k).flatMap (unG xs og)
theorem stK_succ (xs : List (List Int)) (og : List Int) (u s : Nat) : stK xs og u (s + 1) = stK xs og u s ++ grp1 xs og u s := by
  unfold stK; rw [List.range_succ, List.flatMap_append]; simp
theorem unK_succ (xs : List (List Int)) (og : List Int) (k : Nat) : unK xs og (k + 1) = unK xs og k ++ unG xs og k := by
  unfold unK; rw [List.range_succ, List.flatMap_append]; simp
def plN (xs : List (List Int)) : Nat := (gl xs 0).length
def grErr (xs : List (List Int)) (og : List Int) : Int := if agErr xs ≠ 0 then agErr xs else if og.length ≠ plN xs then 9 else if stBad og (-1) 16 then 2 else 0
def groupsN (xs : List (List Int)) (og : List Int) : List Grp := if grErr xs og = 0 then unK xs og og.length else []
end Go.Proofs.YtpjijbophjdgaaaGreat
namespace Go.Proofs.YtpjijbophjdgaaaGreat
open Go.RowKit Go.Deep
def t3 : Tre := ⟨[-1, 0, 1, 1, 0], [⟨#[]⟩, ⟨#[]⟩, ⟨#[65]⟩, ⟨#[66]⟩, ⟨#[67]⟩]⟩
def s3 : List Int := [0, 1, 1]
theorem lit_ints (w : World) (cs : Array Value) (T : TypeId) (xs : List Int) (hcs : cs.toList = xs.map (Value.int .i64)) (n : Nat) (hn : n = xs.length) : IntsAt Any (w.alloc (.cells cs T)) (.slice (some ⟨w.heap.size, 0, none⟩) n n) xs := by
  subst hn
  refine ⟨_, _, rfl, Nat.le_refl _, .inr ⟨_, 0, rfl, trivial, fun k hk => ?_⟩⟩
  rw [Nat.zero_add, cell_at_new, ← Array.getElem?_toList, hcs]
  simp [gi, hk]
theorem lit_strs (w : World) (cs : Array Value) (T : TypeId) (xs : List ByteArray) (hcs : cs.toList = xs.map Value.string) (n : Nat) (hn : n = xs.length) : StrsAt Any (w.alloc (.cells cs T)) (.slice (some ⟨w.heap.size, 0, none⟩) n n) xs := by
  subst hn
  refine ⟨_, _, rfl, Nat.le_refl _, .inr ⟨_, 0, rfl, trivial, fun k hk => ?_⟩⟩
  rw [Nat.zero_add, cell_at_new, ← Array.getElem?_toList, hcs]
  simp [gs, hk]
theorem equal_yes (S T : Nat → Prop) (w : World) (v u : Value) (xs ys : List Int) (h : IntsAt S w v xs) (h2 : IntsAt T w u ys) (hn : xs.length ≤ 1000000) (hn2 : ys.length ≤ 1000000) (e : xs = ys) :
    Calls Tryz.prog 18 #[v, u] w (EqPost w true) := by
  have h3 := equal_int_t S T w v u xs ys h h2 hn hn2
  rw [decide_eq_true e] at h3; exact h3
end Go.Proofs.YtpjijbophjdgaaaGreat
namespace Go.Proofs.YtpjijbophjdgaaaGreat
open Go.RowKit Go.Deep
set_option maxHeartbeats 400000 in
theorem rows_ix_d (g : Nat) (lb : Array Value) (eg : ∀ args w, (callFunc g args).run Tryz.prog w = .ok (.enter g args) w) (S : Nat → Prop) (w : World) (v : Value) (n : Nat) (f : Nat → Value) (p : Nat → Bool)
    (h : SlAt S w v n f) (hn : n ≤ 1000000) (hp : ∀ k, k < n → FnD g lb #[f k] (.bool (p k)) w) :
    Calls Tryz.prog 70 #[v, .func (.func g) #[] lb] w fun e w' => e = .returned (.int .i64 (firstIx p n)) ∧ ∃ q, w' = w.drewN q := by
  obtain ⟨q, cap, rfl, hcap, H⟩ := h.open
  have HP := Lib.hid hp
  clear h hp
  go_enter Tryz.func70, Tryz.ntmps70
  go_wp2_with fail
  go_loopw [5, 8] (fun _ i wr => ∃ k : Nat, k ≤ n ∧ i = .int .i64 k ∧ Hid (∀ j, j < k → p j = false) ∧ Hid (∃ m, wr = w.drewN m)) (fun _ i _ => n - (intOf i).toNat)
  case atStart => exact ⟨0, Nat.zero_le _, rfl, fun j hj => absurd hj (Nat.not_lt_zero _), 0, rfl⟩
  case round =>
    obtain ⟨k, hk, rfl, hd, hm⟩ := hrel
    obtain ⟨m, rfl⟩ := hm.out
    clear hm
    by_cases hlt : k < n
    · obtain ⟨b, off, rfl, hc⟩ := H k hlt
      have hc := (Up.drewN w m).cell hc
      clear H
      have hpk := HP.out k hlt
      unfold FnD at hpk
      have HPK := Lib.hid (hpk m)
      clear hpk HP
      generalize hv : p k = pk at *
      have HV := Lib.hid hv
      clear hv
      cases pk
      · go_wp2_with fail
        refine HPK.out.mono ?_
        rintro e w' ⟨rfl, m2, rfl⟩
        go_wp2_with fail
        go_roundw
        case rel => exact ⟨k + 1, by omega, by go_num, fun j hj => if e : j = k then by subst e; exact HV.out else hd.out j (by omega), m2, rfl⟩
        case measure => simp [intOf]; omega
      · go_wp2_with fail
        refine HPK.out.mono ?_
        rintro e w' ⟨rfl, m2, rfl⟩
        go_wp2_with fail
        go_ret
        exact ⟨ret_int (firstIx_at hlt hd.out HV.out).symm, m2, rfl⟩
    · clear H
      go_wp2_with fail
      go_ret
      exact ⟨ret_int (firstIx_none fun j hj => hd.out j (by omega)).symm, m, rfl⟩
set_option maxHeartbeats 400000 in
theorem rows_has_d (g : Nat) (lb : Array Value) (eg : ∀ args w, (callFunc g args).run Tryz.prog w = .ok (.enter g args) w) (S : Nat → Prop) (w : World) (v : Value) (n : Nat) (f : Nat → Value) (p : Nat → Bool)
    (h : SlAt S w v n f) (hn : n ≤ 1000000) (hp : ∀ k, k < n → FnD g lb #[f k] (.bool (p k)) w) :
    Calls Tryz.prog 15 #[v, .func (.func g) #[] lb] w fun e w' => e = .returned (.bool ((List.range n).any p)) ∧ ∃ q, w' = w.drewN q := by
  have hx := firstIx_any p n
  have HX := Lib.hid hx
  have HI := Lib.hid (rows_ix_d g lb eg S w v n f p h hn hp)
  obtain ⟨q, cap, rfl, -, -⟩ := SlAt.open h
  clear hx hp h eg
  go_enter Tryz.func15, Tryz.ntmps15
  go_wp2_with fail
  refine HI.out.mono ?_
  rintro e w' ⟨rfl, m, rfl⟩
  go_wp2_with fail
  go_ret
  exact ⟨ret_bool (by rw [← HX.out]), m, rfl⟩
end Go.Proofs.YtpjijbophjdgaaaGreat
