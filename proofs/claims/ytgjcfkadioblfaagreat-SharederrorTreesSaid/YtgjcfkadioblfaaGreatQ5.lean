/- The contracts of slices.Clone and slices.Equal of numbers. Lists of lists that a call grows; a store into a list of the call's own. Contracts: equal lists of lists. The contract of agreement.Check. Groups of sources in memory; what Groups computes, plain. The contract of the reference's SameGroups, at groups that are the same. -/
import Derived.Test.YtgjcfkadioblfaaGreatQ3
import Derived.Test.YtgjcfkadioblfaaGreatQ4
import Derived.Test.YtgjcfkadioblfaaGreatQ2
namespace Go.Proofs.YtgjcfkadioblfaaGreat
open Go.RowKit Go.Deep
theorem Owns.below_grown {base : Nat} {e : TypeId} {w w' : World} {v : Value} {vs : List Value} (h : Owns base e w v vs) (hg : w.grownBy w' v.ownBlock) (hb : base ≤ w.heap.size) : Below base w w' := h.grown_below hg hb
def ClPost (w : World) (e : TypeId) (vs : List Value) (en : Ending) (w' : World) : Prop := Up w w' ∧ ∃ v, en = .returned v ∧ Owns w.heap.size e w' v vs
section
variable {P : Program} {ops : Array Oper} {rest : List Oper} {o : Oper} {a : Act} {Q : Exit → Act → World → Prop}
/-- 'out = append(out, src...)'. -/
theorem wpList_appS (W : World) (hgd : o.guard = none) (s x : Operand) (t : TypeId) (ho : o.op = .call { callee := .builtin .append, args := #[s, x], argTypes := #[t, t] })
    (base : Nat) (e : TypeId) (z : Value) (bytes : Nat) (ht : P.underlying t = some (.slice e)) (hinfo : (P.info? e).map (fun i => (i.zero, i.size, i.bytes)) = some (some z, 1, bytes))
    (hz1 : z.cells.size = 1) (hb8 : bytes ≤ 64) {v : Value} {vs : List Value} (hown : Owns base e W v vs) (hs : a.eval s = v) (ad : Addr) (c : Nat) (news : List Value)
    (hx : a.eval x = .slice (some ad) news.length c) (hnews : ∀ j u, news[j]? = some u → W.cell? (ad.add j) = some u) (h1 : ∀ u ∈ news, u.oneCell' = true) (hn : vs.length + news.length ≤ 1000000) (hbase : base ≤ W.heap.size)
    (h : ∀ v' w', Owns base e w' v' (vs ++ news) → W.grownBy w' v.ownBlock → Below base W w' → wpList P ops Q rest (a.put o.dst v') w') :
    wpList P ops Q (o :: rest) a W := by
  obtain ⟨i, hi, hzz⟩ := Option.map_eq_some_iff.1 hinfo
  simp only [Prod.mk.injEq] at hzz
  obtain ⟨hz, hs1, hb⟩ := hzz
  refine wpList_append_own _ hgd s x t ho base e i z 1 bytes ht hi hz hs1 hb hz1 (by omega) v vs.length vs hs hown ad news.length c news hx (by omega) hnews h1
    (by unfold maxLen; omega) ?_ hbase fun v' w' h2 h3 _ => h v' w' ?_ h3 (hown.grown_below h3 hbase)
  · have : (vs.length + news.length) * bytes ≤ (vs.length + news.length) * 64 := Nat.mul_le_mul_left _ hb8
    omega
  · unfold Owns; rw [List.length_append]; exact h2
end
theorem news_ints {S : Nat → Prop} {w : World} {b off n cap : Nat} {xs : List Int} (h : IntsAt S w (.slice (some ⟨b, off, none⟩) n cap) xs) : ∀ j u, (xs.map (Value.int .i64))[j]? = some u → w.cell? ((⟨b, off, none⟩ : Addr).add j) = some u := by
  intro j u hj
  have hadd : (⟨b, off, none⟩ : Addr).add j = ⟨b, off + j, none⟩ := by unfold Addr.add; split <;> simp_all
  rw [List.getElem?_map] at hj
  obtain ⟨x, hx, rfl⟩ := Option.map_eq_some_iff.1 hj
  have hk : j < xs.length := (List.getElem?_eq_some_iff.1 hx).1
  rw [hadd, ints_get' h hk]
  simp [gi, hx]
theorem nil_ints {S : Nat → Prop} {w : World} {n cap : Nat} {xs : List Int} (h : IntsAt S w (.slice none n cap) xs) : xs = [] ∧ n = 0 := by
  obtain ⟨q, c, e, _, h⟩ := h
  injection e with e1 e2 e3
  rcases h with h | ⟨b, off, h, _⟩
  · exact ⟨List.eq_nil_of_length_eq_zero h, by omega⟩
  · rw [← e1] at h; cases h
/-- Equal numbers, one by one. -/
theorem ints_ext {xs ys : List Int} (hl : xs.length = ys.length) (h : ∀ j, j < xs.length → gi xs j = gi ys j) : xs = ys := by
  refine List.ext_getElem hl fun i h1 h2 => ?_
  have := h i h1
  simpa [gi, h1, h2] using this
def EqPost (w : World) (b : Bool) (e : Ending) (w' : World) : Prop := e = .returned (.bool b) ∧ ∃ n, w' = w.drewN n
set_option maxRecDepth 100000 in
set_option maxHeartbeats 400000 in
theorem equal_int_t (S T : Nat → Prop) (w : World) (v u : Value) (xs ys : List Int) (h : IntsAt S w v xs) (h2 : IntsAt T w u ys) (hn : xs.length ≤ 1000000) (hn2 : ys.length ≤ 1000000) :
    Calls Tryz.prog 20 #[v, u] w (EqPost w (decide (xs = ys))) := by
  obtain ⟨p, cap, rfl, hcap, _⟩ := SlAt.open h
  obtain ⟨q, cap2, rfl, hcap2, _⟩ := SlAt.open h2
  have HX : Hid (IntsAt S w (.slice p xs.length cap) xs) := h
  have HY : Hid (IntsAt T w (.slice q ys.length cap2) ys) := h2
  clear h h2
  by_cases hl : xs.length = ys.length
  · have hl1 : ((xs.length : Int) != ys.length) = false := by simp [hl]
    have HL := Lib.hid hl
    clear hl
    go_enter Tryz.func20, Tryz.ntmps20
    go_wp2_with fail
    go_loopw [5, 13] (fun _ i wr => ∃ k n : Nat, k ≤ xs.length ∧ i = .int .i64 k ∧ wr = w.drewN n ∧ Hid (∀ j, j < k → gi xs j = gi ys j)) (fun _ i _ => xs.length - (intOf i).toNat)
    case atStart => exact ⟨0, 0, Nat.zero_le _, rfl, rfl, fun j hj => absurd hj (Nat.not_lt_zero _)⟩
    case round =>
      obtain ⟨k, n, hk, rfl, rfl, hd⟩ := hrel
      by_cases hlt : k < xs.length
      · have hlt2 : k < ys.length := by rw [← HL.out]; exact hlt
        obtain ⟨b, off, rfl, hc⟩ := ints_get HX.out hlt
        obtain ⟨b2, off2, rfl, hc2⟩ := ints_get HY.out hlt2
        have i1 : (0 : Int) ≤ (k : Int) := by omega
        have i2 : (k : Int) < (xs.length : Int) := by omega
        have i3 : (k : Int) < (ys.length : Int) := by omega
        generalize hx : gi xs k = x at *
        generalize hy : gi ys k = y at *
        have HXX := Lib.hid hx
        have HYY := Lib.hid hy
        clear hx hy
        by_cases hxy : x = y
        · have hxy1 : (x != y) = false := by simp [hxy]
          have HXY := Lib.hid hxy
          clear hxy
          go_wp2_with fail
          go_quiet (fail)
          go_wp2_with fail
          go_roundw
          case rel => exact ⟨k + 1, n + nq, by omega, by go_num, rfl, fun j hj => if e : j = k then by subst e; rw [HXX.out, HYY.out, HXY.out] else hd.out j (by omega)⟩
          case measure => simp [intOf]; omega
        · have hxy1 : (x != y) = true := by simpa using hxy
          have HXY := Lib.hid hxy
          clear hxy
          go_wp2_with fail
          go_quiet (fail)
          go_wp2_with fail
          go_ret
          refine ⟨ret_bool ?_, n + nq, by rw [World.drewN_drewN]⟩
          rw [eq_comm, decide_eq_false_iff_not]
          rintro rfl
          exact HXY.out (by rw [← HXX.out, ← HYY.out])
      · obtain rfl : k = xs.length := by omega
        clear hlt hk
        have hex : xs = ys := ints_ext HL.out hd.out
        have HEX : Hid (decide (xs = ys) = true) := decide_eq_true hex
        clear hex
        go_wp2_with fail
        go_ret
        exact ⟨ret_bool (by rw [HEX.out]), n, rfl⟩
  · have hl1 : ((xs.length : Int) != ys.length) = true := by simp; omega
    have HL := Lib.hid hl
    clear hl
    go_enter Tryz.func20, Tryz.ntmps20
    go_wp2_with fail
    go_ret
    refine ⟨ret_bool ?_, 0, rfl⟩
    rw [eq_comm, decide_eq_false_iff_not]
    rintro rfl
    exact HL.out rfl
end Go.Proofs.YtgjcfkadioblfaaGreat
namespace Go.Proofs.YtgjcfkadioblfaaGreat
open Go.RowKit Go.Deep
theorem Owns.set {base : Nat} {e : TypeId} {w : World} {v : Value} {vs : List Value} (h : Owns base e w v vs) {j : Nat} (hj : j < vs.length) :
    ∃ g cap, v = .slice (some ⟨g, 0, none⟩) vs.length cap ∧ base ≤ g ∧ g < w.heap.size ∧ w.cell? ⟨g, j, none⟩ = some (vs.getD j undef) ∧ w.frozen? ⟨g, j, none⟩ = false ∧ ∀ x, Owns base e (w.setCell ⟨g, j, none⟩ x) v (vs.set j x) := by
  obtain ⟨hl, h | ⟨g, cap, cur, rfl, hg, hc, hn, hcm, hcs, ht⟩⟩ := h
  · omega
  · have hgl : g < w.heap.size := (Array.getElem?_eq_some_iff.1 hc).1
    have ht1 : cur.toList.take vs.length = vs := by rw [Nat.mul_one] at ht; exact ht
    have hj2 : j < cur.size := by omega
    have hcell : cur[j]? = some (vs.getD j undef) := by
      have h1 : vs[j]? = some (vs.getD j undef) := by simp [hj]
      rw [← h1]
      have h2 := congrArg (·[j]?) ht1
      simp only [List.getElem?_take, hj, if_true] at h2
      rw [← h2]; simp
    refine ⟨g, cap, rfl, hg, hgl, by simp [World.cell?, hc, hcell], by simp [World.frozen?, hc], fun x => ⟨by simp, .inr ⟨g, cap, cur.setIfInBounds j x, by simp, hg, ?_, by simpa using hn, hcm, by simpa using hcs, ?_⟩⟩⟩
    · simp [World.setCell, Array.getElem?_modify, hc]
    · rw [List.length_set, Nat.mul_one, Array.toList_setIfInBounds, List.take_set, ht1]
theorem gi_set' (l : List Int) (j : Nat) (x : Int) : (l.map (Value.int .i64)).set j (.int .i64 x) = (l.set j x).map (Value.int .i64) := by
  rw [List.map_set]
/-- d is a list of lists that the call owns; the lists in it lie elsewhere. -/
def RowsOwn (base : Nat) (T : TypeId) (w : World) (d : Value) (xs : List (List Int)) : Prop :=
  ∃ vals : List Value, vals.length = xs.length ∧ Owns base T w d vals ∧ ∀ i, i < xs.length → IntsAt (fun b => some b ≠ d.ownBlock) w (vals.getD i undef) (gl xs i)
theorem ownBlock_lt {base : Nat} {e : TypeId} {w : World} {v : Value} {vs : List Value} (h : Owns base e w v vs) {b : Nat} (hb : v.ownBlock = some b) : base ≤ b ∧ b < w.heap.size := World.ownsRow.lt h b hb
theorem take_gi {l : List Int} {m : Nat} (h : m < l.length) : l.take (m + 1) = l.take m ++ [gi l m] := by
  rw [List.take_succ_eq_append_getElem h]; simp [gi, h]
theorem take_gl {l : List (List Int)} {m : Nat} (h : m < l.length) : l.take (m + 1) = l.take m ++ [gl l m] := by
  rw [List.take_succ_eq_append_getElem h]; simp [gl, h]
theorem Owns.ne {base base' : Nat} {e e' : TypeId} {w w' : World} {v u : Value} {vs us : List Value} (h : Owns base e w v vs) (_ : Owns base' e' w' u us) (hb : w.heap.size ≤ base') {b : Nat} (hb' : base' ≤ b) : some b ≠ v.ownBlock := fun e2 => by
  have := (ownBlock_lt h e2.symm).2; omega
theorem RowsOwn.nil (base : Nat) (T : TypeId) (w : World) : RowsOwn base T w (.slice none 0 0) [] := ⟨[], rfl, Owns.nil _ _ _, fun _ hi => absurd hi (Nat.not_lt_zero _)⟩
theorem RowsOwn.rows {base : Nat} {T : TypeId} {w : World} {d : Value} {xs : List (List Int)} (h : RowsOwn base T w d xs) : RowsAt Any w d xs := by
  obtain ⟨vals, hl, ho, hr⟩ := h
  have h1 := ho.slAt
  rw [hl] at h1
  exact ⟨_, h1.sub fun _ _ _ => trivial, fun k hk => (hr k hk).sub fun _ _ _ => trivial⟩
theorem RowsOwn.kept {base : Nat} {T : TypeId} {w w' : World} {d : Value} {xs : List (List Int)} (h : RowsOwn base T w d xs) (k : Up w w') : RowsOwn base T w' d xs := by
  obtain ⟨vals, hl, ho, hr⟩ := h
  exact ⟨vals, hl, ho.kept fun b _ hb => Below.block k b hb, fun i hi => (hr i hi).keep (k.kept _)⟩
section
variable {P : Program} {ops : Array Oper} {rest : List Oper} {o : Oper} {a : Act} {Q : Exit → Act → World → Prop}
/-- 'out = append(out, u)', the length said. -/
theorem wpList_appN (W : World) (hgd : o.guard = none) (s x : Operand) (t : TypeId) (ho : o.op = .call { callee := .builtin .append, args := #[s, x], argTypes := #[t, t] })
    (base : Nat) (e : TypeId) (z : Value) (bytes : Nat) (ht : P.underlying t = some (.slice e)) (hinfo : (P.info? e).map (fun i => (i.zero, i.size, i.bytes)) = some (some z, 1, bytes))
    (hz1 : z.cells.size = 1) (hb8 : bytes ≤ 64) {v : Value} {vs : List Value} (hown : Owns base e W v vs) (hs : a.eval s = v) (u : Value)
    (hx : a.eval x = .slice (some ⟨W.heap.size, 0, none⟩) 1 1) (h1 : u.oneCell' = true) (n : Nat) (hvn : vs.length = n) (hn : n ≤ 1000000) (hbase : base ≤ W.heap.size)
    (h : ∀ g cap w', Owns base e w' (.slice (some ⟨g, 0, none⟩) (n + 1) cap) (vs ++ [u]) → W.grownBy w' v.ownBlock → Below base W w' → wpList P ops Q rest (a.put o.dst (.slice (some ⟨g, 0, none⟩) (n + 1) cap)) w') :
    wpList P ops Q (o :: rest) a (W.alloc (.cells #[u] e)) := by
  subst hvn
  exact wpList_app1 W hgd s x t ho base e z bytes ht hinfo hz1 hb8 hown hs u hx h1 hn hbase h
/-- 'out = append(out, u)', u a list. -/
theorem wpList_appRow (W : World) (hgd : o.guard = none) (s x : Operand) (t : TypeId) (ho : o.op = .call { callee := .builtin .append, args := #[s, x], argTypes := #[t, t] })
    (base : Nat) (e : TypeId) (z : Value) (bytes : Nat) (ht : P.underlying t = some (.slice e)) (hinfo : (P.info? e).map (fun i => (i.zero, i.size, i.bytes)) = some (some z, 1, bytes))
    (hz1 : z.cells.size = 1) (hb8 : bytes ≤ 64) {v : Value} {xs : List (List Int)} (hown : RowsOwn base e W v xs) (hs : a.eval s = v) (u : Value) (y : List Int)
    (hx : a.eval x = .slice (some ⟨W.heap.size, 0, none⟩) 1 1) (hu : IntsAt (fun b => some b ≠ v.ownBlock) W u y) (h1 : u.oneCell' = true) (n : Nat) (hxn : xs.length = n) (hn : n ≤ 1000000) (hbase : base ≤ W.heap.size)
    (h : ∀ g cap w', RowsOwn base e w' (.slice (some ⟨g, 0, none⟩) (n + 1) cap) (xs ++ [y]) → W.grownBy w' v.ownBlock → Below base W w' → wpList P ops Q rest (a.put o.dst (.slice (some ⟨g, 0, none⟩) (n + 1) cap)) w') :
    wpList P ops Q (o :: rest) a (W.alloc (.cells #[u] e)) := by
  subst hxn
  obtain ⟨i, hi, hzz⟩ := Option.map_eq_some_iff.1 hinfo
  simp only [Prod.mk.injEq] at hzz
  obtain ⟨hz, hs1, hb⟩ := hzz
  obtain ⟨vals, hl, hown, hrows⟩ := hown
  refine wpList_append_lies _ hgd s x t ho base e i z 1 bytes ht hi hz hs1 hb hz1 (by omega) v vals.length vals hs (hown.alloc _) ⟨W.heap.size, 0, none⟩ 1 1 [u] hx rfl (cell_one_new _ _ _) (by simpa using h1) (by omega)
    (by unfold maxLen; omega) ?_ (by simp; omega) _ rfl fun g cap w' h2 h3 h4 _ => ?_
  · have : (vals.length + 1) * bytes ≤ (vals.length + 1) * 64 := Nat.mul_le_mul_left _ hb8
    omega
  · have hg := grown_alloc h3
    rw [hl] at h2 ⊢
    have hgne : ∀ b : Nat, some b ≠ v.ownBlock → b < W.heap.size → some b ≠ (Value.slice (some ⟨g, 0, none⟩) (xs.length + 1) cap).ownBlock := fun b hb hlt e => by
      simp only [Value.ownBlock, Option.some.injEq] at e
      rcases h4 with h4 | h4
      · exact hb (by rw [h4, e])
      · rw [World.size_alloc] at h4; omega
    have hkeep : ∀ {u' : Value} {y' : List Int}, IntsAt (fun b => some b ≠ v.ownBlock) W u' y' → IntsAt (fun b => some b ≠ (Value.slice (some ⟨g, 0, none⟩) (xs.length + 1) cap).ownBlock) w' u' y' := fun hi' =>
      ((hi'.sub (T := fun b => some b ≠ v.ownBlock ∧ b < W.heap.size) fun b hb hlt => ⟨hb, hlt⟩).keep fun b hb hlt => hg.block b hlt hb.1).sub fun b hb _ => hgne b hb.1 hb.2
    refine h g cap w' ⟨vals ++ [u], by simp [hl], ?_, fun i hi => ?_⟩ hg (hown.grown_below hg hbase)
    · unfold Owns; rw [List.length_append, hl]; exact h2
    · rw [List.length_append] at hi
      by_cases hi2 : i < xs.length
      · have e1 : (vals ++ [u]).getD i undef = vals.getD i undef := by simp [List.getElem?_append, hl, hi2]
        have e2 : gl (xs ++ [y]) i = gl xs i := by simp [gl, List.getElem?_append, hi2]
        rw [e1, e2]; exact hkeep (hrows i hi2)
      · obtain rfl : i = xs.length := by simp at hi; omega
        have e1 : (vals ++ [u]).getD xs.length undef = u := by simp [← hl]
        have e2 : gl (xs ++ [y]) xs.length = y := by simp [gl]
        rw [e1, e2]; exact hkeep hu
end
end Go.Proofs.YtgjcfkadioblfaaGreat
namespace Go.Proofs.YtgjcfkadioblfaaGreat
open Go.RowKit Go.Deep
set_option maxRecDepth 100000 in
set_option maxHeartbeats 400000 in
theorem sameInts_t (S T : Nat → Prop) (w : World) (v u : Value) (xs ys : List Int) (h : IntsAt S w v xs) (h2 : IntsAt T w u ys) (hn : xs.length ≤ 1000000) (hn2 : ys.length ≤ 1000000) :
    Calls Tryz.prog 67 #[v, u] w (EqPost w (decide (xs = ys))) := by
  obtain ⟨p, cap, rfl, hcap, _⟩ := SlAt.open h
  obtain ⟨q, cap2, rfl, hcap2, _⟩ := SlAt.open h2
  have HX : Hid (IntsAt S w (.slice p xs.length cap) xs) := h
  have HY : Hid (IntsAt T w (.slice q ys.length cap2) ys) := h2
  clear h h2
  by_cases hl : xs.length = ys.length
  · have hl1 : ((xs.length : Int) != ys.length) = false := by simp [hl]
    have HL := Lib.hid hl
    clear hl
    go_enter Tryz.func67, Tryz.ntmps67
    go_wp2_with fail
    go_loopw [5] (fun i wr => ∃ k n : Nat, k ≤ xs.length ∧ i = .int .i64 k ∧ wr = w.drewN n ∧ Hid (∀ j, j < k → gi xs j = gi ys j)) (fun i _ => xs.length - (intOf i).toNat)
    case atStart => exact ⟨0, 0, Nat.zero_le _, rfl, rfl, fun j hj => absurd hj (Nat.not_lt_zero _)⟩
    case round =>
      obtain ⟨k, n, hk, rfl, rfl, hd⟩ := hrel
      by_cases hlt : k < xs.length
      · have hlt2 : k < ys.length := by rw [← HL.out]; exact hlt
        obtain ⟨b, off, rfl, hc⟩ := ints_get HX.out hlt
        obtain ⟨b2, off2, rfl, hc2⟩ := ints_get HY.out hlt2
        have i1 : (0 : Int) ≤ (k : Int) := by omega
        have i2 : (k : Int) < (xs.length : Int) := by omega
        have i3 : (k : Int) < (ys.length : Int) := by omega
        generalize hx : gi xs k = x at *
        generalize hy : gi ys k = y at *
        have HXX := Lib.hid hx
        have HYY := Lib.hid hy
        clear hx hy
        by_cases hxy : x = y
        · have hxy1 : (x != y) = false := by simp [hxy]
          have HXY := Lib.hid hxy
          clear hxy
          go_wp2_with fail
          go_quiet (fail)
          go_wp2_with fail
          go_roundw
          case rel => exact ⟨k + 1, n + nq, by omega, by go_num, rfl, fun j hj => if e : j = k then by subst e; rw [HXX.out, HYY.out, HXY.out] else hd.out j (by omega)⟩
          case measure => simp [intOf]; omega
        · have hxy1 : (x != y) = true := by simpa using hxy
          have HXY := Lib.hid hxy
          clear hxy
          go_wp2_with fail
          go_quiet (fail)
          go_wp2_with fail
          go_ret
          refine ⟨ret_bool ?_, n + nq, by rw [World.drewN_drewN]⟩
          rw [eq_comm, decide_eq_false_iff_not]
          rintro rfl
          exact HXY.out (by rw [← HXX.out, ← HYY.out])
      · obtain rfl : k = xs.length := by omega
        clear hlt hk
        have hex : xs = ys := ints_ext HL.out hd.out
        have HEX : Hid (decide (xs = ys) = true) := decide_eq_true hex
        clear hex
        go_wp2_with fail
        go_ret
        exact ⟨ret_bool (by rw [HEX.out]), n, rfl⟩
  · have hl1 : ((xs.length : Int) != ys.length) = true := by simp; omega
    have HL := Lib.hid hl
    clear hl
    go_enter Tryz.func67, Tryz.ntmps67
    go_wp2_with fail
    go_ret
    refine ⟨ret_bool ?_, 0, rfl⟩
    rw [eq_comm, decide_eq_false_iff_not]
    rintro rfl
    exact HL.out rfl

theorem rows_ext {xs ys : List (List Int)} (hl : xs.length = ys.length) (h : ∀ j, j < xs.length → gl xs j = gl ys j) : xs = ys := by
  refine List.ext_getElem hl fun i h1 h2 => ?_
  have := h i h1
  simpa [gl, h1, h2] using this
/-- After some draws. -/
def QD (w w' : World) : Prop := ∃ n, w' = w.drewN n
theorem QD.refl (w : World) : QD w w := ⟨0, rfl⟩
theorem QD.drewN {w w' : World} (h : QD w w') (n : Nat) : QD w (w'.drewN n) := by
  obtain ⟨m, rfl⟩ := h; exact ⟨m + n, by rw [World.drewN_drewN]⟩
theorem QD.kept {w w' : World} (h : QD w w') (S : Nat → Prop) : Kept S w w' := by
  obtain ⟨m, rfl⟩ := h; exact fun _ _ _ => rfl
theorem QD.up {w w' : World} (h : QD w w') : Up w w' := by
  obtain ⟨m, rfl⟩ := h; exact Up.drewN w m
theorem eq_quiet {P : Program} {f : FuncId} {args : Array Value} {w : World} {n : Nat} {b : Bool} (h : Calls P f args (w.drewN n) (EqPost (w.drewN n) b)) : Calls P f args (w.drewN n) fun e w'' => e = .returned (.bool b) ∧ ∃ m, w'' = w.drewN m :=
  h.mono fun _ _ ⟨he, m, hm⟩ => ⟨he, n + m, by rw [hm, World.drewN_drewN]⟩
set_option maxRecDepth 100000 in
set_option maxHeartbeats 800000 in
theorem sameTable_t (S T : Nat → Prop) (w : World) (v u : Value) (xs ys : List (List Int)) (h : RowsAt S w v xs) (h2 : RowsAt T w u ys) (hn : xs.length ≤ 1000000) (hn2 : ys.length ≤ 1000000) (hr : ∀ k, (gl xs k).length ≤ 1000000) (hr2 : ∀ k, (gl ys k).length ≤ 1000000) :
    Calls Tryz.prog 18 #[v, u] w (EqPost w (decide (xs = ys))) := by
  obtain ⟨p, cap, rfl, hcap, _⟩ := rows_open h
  obtain ⟨q, cap2, rfl, hcap2, _⟩ := rows_open h2
  have HX := Lib.hid h
  have HY := Lib.hid h2
  have HR := Lib.hid hr
  have HR2 := Lib.hid hr2
  clear h h2 hr hr2
  by_cases hl : xs.length = ys.length
  · have hl1 : ((xs.length : Int) != ys.length) = false := by simp [hl]
    have HL := Lib.hid hl
    clear hl
    go_enter Tryz.func18, Tryz.ntmps18
    go_wp2_with fail
    go_loopw [5] (fun i wr => ∃ k : Nat, k ≤ xs.length ∧ i = .int .i64 k ∧ Hid (QD w wr) ∧ Hid (∀ j, j < k → gl xs j = gl ys j)) (fun i _ => xs.length - (intOf i).toNat)
    case atStart => exact ⟨0, Nat.zero_le _, rfl, QD.refl _, fun j hj => absurd hj (Nat.not_lt_zero _)⟩
    case round =>
      obtain ⟨k, hk, rfl, hQ, hd⟩ := hrel
      by_cases hlt : k < xs.length
      · have hlt2 : k < ys.length := by rw [← HL.out]; exact hlt
        obtain ⟨b, off, rq, rc, rfl, hc, hri⟩ := rows_get (HX.out.keep (hQ.out.kept S)) hlt
        obtain ⟨b2, off2, rq2, rc2, rfl, hc2, hri2⟩ := rows_get (HY.out.keep (hQ.out.kept T)) hlt2
        have i1 : (0 : Int) ≤ (k : Int) := by omega
        have i2 : (k : Int) < (xs.length : Int) := by omega
        have i3 : (k : Int) < (ys.length : Int) := by omega
        have hsame := fun m => sameInts_t S T (wr.drewN m) _ _ _ _ (IntsAt.keep hri (kept_drewN S wr m)) (IntsAt.keep hri2 (kept_drewN T wr m)) (HR.out k) (HR2.out k)
        clear hri hri2
        by_cases hxy : gl xs k = gl ys k
        · have hb : decide (gl xs k = gl ys k) = true := decide_eq_true hxy
          simp only [hb] at hsame
          have HS := Lib.hid hsame
          have HXY := Lib.hid hxy
          clear hxy hb hsame
          go_wp2_with fail
          go_quiet (exact eq_quiet (HS.out _))
          go_wp2_with fail
          go_roundw
          case rel => exact ⟨k + 1, by omega, by go_num, hQ.out.drewN nq, fun j hj => if e : j = k then by subst e; exact HXY.out else hd.out j (by omega)⟩
          case measure => simp [intOf]; omega
        · have hb : decide (gl xs k = gl ys k) = false := decide_eq_false hxy
          simp only [hb] at hsame
          have HS := Lib.hid hsame
          have HXY := Lib.hid hxy
          clear hxy hb hsame
          go_wp2_with fail
          go_quiet (exact eq_quiet (HS.out _))
          go_wp2_with fail
          go_ret
          refine ⟨ret_bool ?_, hQ.out.drewN nq⟩
          rw [eq_comm, decide_eq_false_iff_not]
          rintro rfl
          exact HXY.out rfl
      · obtain rfl : k = xs.length := by omega
        clear hlt hk
        have hex : xs = ys := rows_ext HL.out hd.out
        have HEX : Hid (decide (xs = ys) = true) := decide_eq_true hex
        clear hex
        go_wp2_with fail
        go_ret
        exact ⟨ret_bool (by rw [HEX.out]), hQ.out⟩
  · have hl1 : ((xs.length : Int) != ys.length) = true := by simp; omega
    have HL := Lib.hid hl
    clear hl
    go_enter Tryz.func18, Tryz.ntmps18
    go_wp2_with fail
    go_ret
    refine ⟨ret_bool ?_, 0, rfl⟩
    rw [eq_comm, decide_eq_false_iff_not]
    rintro rfl
    exact HL.out rfl
end Go.Proofs.YtgjcfkadioblfaaGreat
namespace Go.Proofs.YtgjcfkadioblfaaGreat
open Go.RowKit Go.Deep
def agRow (xs : List (List Int)) (k : Nat) : Int := if (gl xs k).length ≠ (gl xs 0).length then 9 else if stBad (gl xs k) (-1) 16 then 2 else 0
def agErr (xs : List (List Int)) : Int := if xs.length = 0 then 5 else if 32 < xs.length ∨ 4096 < (gl xs 0).length then 4 else firstNZ (agRow xs) xs.length
set_option maxHeartbeats 400000 in
theorem agcheck1_t (w : World) (x : Int) : FnIs 149 #[] #[.int .i64 x] (.bool (decide (x < -1) || decide (16 ≤ x))) w := by
  unfold FnIs
  go_enter Tryz.func149, Tryz.ntmps149
  by_cases hx : x < -1
  · go_wp2_with fail
    go_ret
    exact ⟨ret_bool (by simp [hx]), rfl⟩
  · go_wp2_with fail
    go_ret
    exact ⟨ret_bool (by simp; omega), rfl⟩
set_option maxRecDepth 100000 in
set_option maxHeartbeats 1000000 in
theorem agcheck_t (S : Nat → Prop) (w : World) (v : Value) (xs : List (List Int)) (h : RowsAt S w v xs) (hn : xs.length ≤ 1000000) (hr : ∀ k, (gl xs k).length ≤ 1000000) :
    Calls Tryz.prog 102 #[v] w fun e w' => e = .returned (.int .i64 (agErr xs)) ∧ w = w' := by
  have hfin : agErr xs = if xs.length = 0 then 5 else if 32 < xs.length ∨ 4096 < (gl xs 0).length then 4 else firstNZ (agRow xs) xs.length := rfl
  have HF := Lib.hid hfin
  obtain ⟨p, cap, rfl, hcap, _⟩ := rows_open h
  have H := Lib.hid h
  clear hfin h
  by_cases h0 : xs.length = 0
  · have HX : Hid (xs.length = 0) := h0
    have h0' : ((xs.length : Int) == 0) = true := by simp [h0]
    clear h0
    go_enter Tryz.func102, Tryz.ntmps102
    go_wp2_with fail
    go_ret
    exact ⟨ret_int (by rw [HF.out, if_pos HX.out]), rfl⟩
  have h0' : ((xs.length : Int) == 0) = false := by simpa using h0
  have h0p : 0 < xs.length := by omega
  by_cases h1 : 32 < xs.length
  · go_enter Tryz.func102, Tryz.ntmps102
    go_wp2_with fail
    go_ret
    exact ⟨ret_int (by rw [HF.out, if_neg h0, if_pos (.inl h1)]), rfl⟩
  obtain ⟨b, off, q0, c0, rfl, hc0, hi0⟩ := rows_get H.out h0p
  have hc00 : w.cell? ⟨b, off, none⟩ = some (.slice q0 (gl xs 0).length c0) := by simpa using hc0
  have hlen0 := hr 0
  clear hc0 hi0
  by_cases h2 : 4096 < (gl xs 0).length
  · go_enter Tryz.func102, Tryz.ntmps102
    go_wp2_with fail
    go_ret
    exact ⟨ret_int (by rw [HF.out, if_neg h0, if_pos (.inr h2)]), rfl⟩
  have HFF : Hid (agErr xs = firstNZ (agRow xs) xs.length) := by unfold Hid; rw [HF.out, if_neg h0, if_neg (by omega)]
  have HR := Lib.hid hr
  have HAR : Hid (∀ k, agRow xs k = if (gl xs k).length ≠ (gl xs 0).length then 9 else if stBad (gl xs k) (-1) 16 then 2 else 0) := fun _ => rfl
  clear HF hr
  generalize (gl xs 0).length = l0 at *
  go_enter Tryz.func102, Tryz.ntmps102
  go_wp2_with fail
  go_loop [4, 22] (fun _ i => ∃ k : Nat, k ≤ xs.length ∧ i = .int .i64 k ∧ Hid (∀ j, j < k → agRow xs j = 0)) (fun _ i => xs.length - (intOf i).toNat)
  case atStart => exact ⟨0, Nat.zero_le _, rfl, fun j hj => absurd hj (Nat.not_lt_zero _)⟩
  case round =>
    obtain ⟨k, hk, rfl, hd⟩ := hrel
    by_cases hlt : k < xs.length
    · obtain ⟨b', off', qk, ck, e1, hck, hik⟩ := rows_get H.out hlt
      injection e1 with e1
      injection e1 with e1 e2
      subst e1; subst e2
      have HCO := Lib.hid (ints_has_t 149 #[] (enters_of Tryz.func149 (by kernel_rfl) rfl) S w _ (gl xs k).length _ (fun j => decide (gi (gl xs k) j < -1) || decide (16 ≤ gi (gl xs k) j)) hik (HR.out k) (fun j _ => agcheck1_t w (gi (gl xs k) j)))
      have HSB : Hid (stBad (gl xs k) (-1) 16 = (List.range (gl xs k).length).any fun j => decide (gi (gl xs k) j < -1) || decide (16 ≤ gi (gl xs k) j)) := rfl
      have HK := Lib.hid (HAR.out k)
      clear hik
      by_cases hll : (gl xs k).length = l0
      · have hl1 : (((gl xs k).length : Int) != (l0 : Int)) = false := by simp [hll]
        have HLL := Lib.hid hll
        clear hll
        go_wp2_with fail
        refine HCO.out.mono ?_
        rintro e w' ⟨rfl, rfl⟩
        rw [← HSB.out]
        by_cases hsb : stBad (gl xs k) (-1) 16 = true
        · have HSS := Lib.hid hsb
          rw [hsb]
          clear hsb
          go_wp2_with fail
          go_ret
          have hrk : agRow xs k = 2 := by rw [HK.out, if_neg (fun e => e HLL.out), if_pos HSS.out]
          exact ⟨ret_int (by rw [HFF.out, firstNZ_at hlt hd.out (by rw [hrk]; decide), hrk]), rfl⟩
        · have hsf : stBad (gl xs k) (-1) 16 = false := by simpa using hsb
          have HSS := Lib.hid hsb
          rw [hsf]
          clear hsb hsf
          go_wp2_with fail
          go_round
          case rel => exact ⟨k + 1, by omega, by go_num, fun j hj => if e : j = k then by subst e; rw [HK.out, if_neg (fun e => e HLL.out), if_neg HSS.out] else hd.out j (by omega)⟩
          case measure => simp [intOf]; omega
      · have hl1 : (((gl xs k).length : Int) != (l0 : Int)) = true := by simp; omega
        have HLL := Lib.hid hll
        clear hll
        go_wp2_with fail
        go_ret
        have hrk : agRow xs k = 9 := by rw [HK.out, if_pos HLL.out]
        exact ⟨ret_int (by rw [HFF.out, firstNZ_at hlt hd.out (by rw [hrk]; decide), hrk]), rfl⟩
    · obtain rfl : k = xs.length := by omega
      clear hlt
      go_wp2_with fail
      go_ret
      exact ⟨ret_int (by rw [HFF.out, firstNZ_zero hd.out]), rfl⟩
end Go.Proofs.YtgjcfkadioblfaaGreat
namespace Go.Proofs.YtgjcfkadioblfaaGreat
open Go.RowKit Go.Deep
structure Grp where
  un : Int
  st : Int
  src : List Int
def gg (l : List Grp) (k : Nat) : Grp := l.getD k ⟨0, 0, []⟩
/-- v is a slice of groups: three cells each, the third a list of sources. -/
def GrpsAt (S : Nat → Prop) (w : World) (v : Value) (gs : List Grp) : Prop :=
  ∃ p cap, v = .slice p gs.length cap ∧ gs.length ≤ cap ∧ (gs.length = 0 ∨ ∃ b off, p = some ⟨b, off, none⟩ ∧ S b ∧ ∀ k, k < gs.length → ∃ sv, w.cell? ⟨b, off + k * 3, none⟩ = some (.int .i64 (gg gs k).un) ∧ w.cell? ⟨b, off + k * 3 + 1, none⟩ = some (.int .i64 (gg gs k).st) ∧ w.cell? ⟨b, off + k * 3 + 2, none⟩ = some sv ∧ IntsAt S w sv (gg gs k).src)
theorem GrpsAt.keep {S : Nat → Prop} {w w' : World} {v : Value} {gs : List Grp} (h : GrpsAt S w v gs) (k : Kept S w w') : GrpsAt S w' v gs := by
  obtain ⟨p, cap, rfl, hn, h⟩ := h
  refine ⟨p, cap, rfl, hn, ?_⟩
  rcases h with h | ⟨b, off, rfl, hS, h⟩
  · exact .inl h
  · refine .inr ⟨b, off, rfl, hS, fun i hi => ?_⟩
    obtain ⟨sv, h1, h2, h3, h4⟩ := h i hi
    have hlt : b < w.heap.size := World.block_lt_of_cell? w _ h1
    have hc : ∀ o, w'.cell? ⟨b, o, none⟩ = w.cell? ⟨b, o, none⟩ := fun o => World.cell?_of_block (a := ⟨b, o, none⟩) (k b hS hlt)
    exact ⟨sv, (hc _).trans h1, (hc _).trans h2, (hc _).trans h3, h4.keep k⟩
theorem GrpsAt.sub {S T : Nat → Prop} {w : World} {v : Value} {gs : List Grp} (h : GrpsAt S w v gs) (hST : ∀ b, S b → b < w.heap.size → T b) : GrpsAt T w v gs := by
  obtain ⟨p, cap, rfl, hn, h⟩ := h
  refine ⟨p, cap, rfl, hn, ?_⟩
  rcases h with h | ⟨b, off, rfl, hS, h⟩
  · exact .inl h
  · by_cases h0 : gs.length = 0
    · exact .inl h0
    · obtain ⟨_, h1, _⟩ := h 0 (by omega)
      refine .inr ⟨b, off, rfl, hST b hS (World.block_lt_of_cell? w _ h1), fun i hi => ?_⟩
      obtain ⟨sv, h1, h2, h3, h4⟩ := h i hi
      exact ⟨sv, h1, h2, h3, h4.sub hST⟩
/-- The sources, of the first k, that have state s at place u. -/
def srcK (xs : List (List Int)) (u : Nat) (s : Int) (k : Nat) : List Int := ((List.range k).filter fun i => gi (gl xs i) u == s).map fun (i : Nat) => (i : Int)
theorem srcK_succ (xs : List (List Int)) (u : Nat) (s : Int) (k : Nat) : srcK xs u s (k + 1) = srcK xs u s k ++ (if gi (gl xs k) u = s then [(k : Int)] else []) := by
  unfold srcK
  rw [List.range_succ, List.filter_append, List.map_append]
  congr 1
  by_cases h : gi (gl xs k) u = s
  · simp [h]
  · simp [h]
theorem srcK_len (xs : List (List Int)) (u : Nat) (s : Int) (k : Nat) : (srcK xs u s k).length ≤ k := by
  unfold srcK
  rw [List.length_map]
  exact Nat.le_trans (List.length_filter_le _ _) (by simp)
/-- The group of a state at a place, where there is one. -/
def grp1 (xs : List (List Int)) (og : List Int) (u s : Nat) : List Grp := if (s : Int) ≠ gi og u ∧ srcK xs u s xs.length ≠ [] then [⟨u, s, srcK xs u s xs.length⟩] else []
def stK (xs : List (List Int)) (og : List Int) (u s : Nat) : List Grp := (List.range s).flatMap (grp1 xs og u)
def unG (xs : List (List Int)) (og : List Int) (u : Nat) : List Grp := if gi og u < 0 then [] else stK xs og u 16
def unK (xs : List (List Int)) (og : List Int) (k : Nat) : List Grp := (List.range k).flatMap (unG xs og)
theorem stK_succ (xs : List (List Int)) (og : List Int) (u s : Nat) : stK xs og u (s + 1) = stK xs og u s ++ grp1 xs og u s := by
  unfold stK; rw [List.range_succ, List.flatMap_append]; simp
theorem unK_succ (xs : List (List Int)) (og : List Int) (k : Nat) : unK xs og (k + 1) = unK xs og k ++ unG xs og k := by
  unfold unK; rw [List.range_succ, List.flatMap_append]; simp
def plN (xs : List (List Int)) : Nat := (gl xs 0).length
def grErr (xs : List (List Int)) (og : List Int) : Int := if agErr xs ≠ 0 then agErr xs else if og.length ≠ plN xs then 9 else if stBad og (-1) 16 then 2 else 0
def groupsN (xs : List (List Int)) (og : List Int) : List Grp := if grErr xs og = 0 then unK xs og og.length else []
end Go.Proofs.YtgjcfkadioblfaaGreat
namespace Go.Proofs.YtgjcfkadioblfaaGreat
open Go.RowKit Go.Deep
theorem grps_open {S : Nat → Prop} {w : World} {v : Value} {gs : List Grp} (h : GrpsAt S w v gs) : ∃ p cap, v = .slice p gs.length cap ∧ gs.length ≤ cap := by
  obtain ⟨p, cap, e, hn, _⟩ := h
  exact ⟨p, cap, e, hn⟩
theorem grps_get {S : Nat → Prop} {w : World} {p : Option Addr} {n cap : Nat} {gs : List Grp} (h : GrpsAt S w (.slice p n cap) gs) {k : Nat} (hk : k < gs.length) :
    ∃ b off rq rc, p = some ⟨b, off, none⟩ ∧ w.cell? ⟨b, off + k * 3, none⟩ = some (.int .i64 (gg gs k).un) ∧ w.cell? ⟨b, off + k * 3 + 1, none⟩ = some (.int .i64 (gg gs k).st) ∧ w.cell? ⟨b, off + k * 3 + 2, none⟩ = some (.slice rq (gg gs k).src.length rc) ∧ IntsAt S w (.slice rq (gg gs k).src.length rc) (gg gs k).src := by
  obtain ⟨q, c, e, _, h⟩ := h
  injection e with e1
  subst e1
  rcases h with h | ⟨b, off, rfl, _, h⟩
  · omega
  · obtain ⟨sv, h1, h2, h3, h4⟩ := h k hk
    obtain ⟨rq, rc, rfl, _, _⟩ := SlAt.open h4
    exact ⟨b, off, rq, rc, rfl, h1, h2, h3, h4⟩
set_option maxRecDepth 100000 in
set_option maxHeartbeats 1000000 in
theorem sameGroups_yes (S T : Nat → Prop) (w : World) (v u : Value) (gs : List Grp) (h : GrpsAt S w v gs) (h2 : GrpsAt T w u gs) (hn : gs.length ≤ 1000000) (hr : ∀ k, (gg gs k).src.length ≤ 1000000) :
    Calls Tryz.prog 50 #[v, u] w (EqPost w true) := by
  obtain ⟨p, cap, rfl, hcap⟩ := grps_open h
  obtain ⟨q, cap2, rfl, hcap2⟩ := grps_open h2
  have HX := Lib.hid h
  have HY := Lib.hid h2
  have HR := Lib.hid hr
  clear h h2 hr
  have hl1 : ((gs.length : Int) != gs.length) = false := by simp
  go_enter Tryz.func50, Tryz.ntmps50
  go_wp2_with fail
  go_loopw [5] (fun i wr => ∃ k : Nat, k ≤ gs.length ∧ i = .int .i64 k ∧ Hid (QD w wr)) (fun i _ => gs.length - (intOf i).toNat)
  case atStart => exact ⟨0, Nat.zero_le _, rfl, QD.refl _⟩
  case round =>
    obtain ⟨k, hk, rfl, hQ⟩ := hrel
    by_cases hlt : k < gs.length
    · obtain ⟨b, off, rq, rc, rfl, hc0, hc1, hc2, hri⟩ := grps_get (HX.out.keep (hQ.out.kept S)) hlt
      obtain ⟨b2, off2, rq2, rc2, rfl, hd0, hd1, hd2, hri2⟩ := grps_get (HY.out.keep (hQ.out.kept T)) hlt
      have i1 : (0 : Int) ≤ (k : Int) := by omega
      have i2 : (k : Int) < (gs.length : Int) := by omega
      have hsame := fun m => sameInts_t S T (wr.drewN m) _ _ _ _ (IntsAt.keep hri (kept_drewN S wr m)) (IntsAt.keep hri2 (kept_drewN T wr m)) (HR.out k) (HR.out k)
      simp only [decide_true] at hsame
      have HS := Lib.hid hsame
      clear hri hri2 hsame
      generalize (gg gs k).un = un at *
      generalize (gg gs k).st = sx at *
      generalize (gg gs k).src = src at *
      have j1 : (un != un) = false := by simp
      have j2 : (sx != sx) = false := by simp
      go_wp2_with fail
      go_quiet (exact eq_quiet (HS.out _))
      go_wp2_with fail
      go_roundw
      case rel => exact ⟨k + 1, by omega, by go_num, hQ.out.drewN nq⟩
      case measure => simp [intOf]; omega
    · obtain rfl : k = gs.length := by omega
      clear hlt hk
      go_wp2_with fail
      go_ret
      exact ⟨rfl, hQ.out⟩
end Go.Proofs.YtgjcfkadioblfaaGreat
