/- The contracts of slices.Clone and slices.Equal of numbers. Lists of lists that a call grows; a store into a list of the call's own. Nodes that point at each other: how a forest lies in memory, and what keeps it. Maps whose keys are pointers at nodes. Maps whose keys are numbers. The split of a character of two states: plain. Lists of splits: ordered, each once. Plain. -/
import Derived.Test.YtcbmbhghmfehpaaGreatQ3
import Derived.MapKept
import Derived.Laws.Pointers
namespace Go.Proofs.YtcbmbhghmfehpaaGreat
open Go.RowKit Go.Deep
section
variable {P : Program} {ops : Array Oper} {rest : List Oper} {o : Oper} {a : Act} {Q : Exit → Act → World → Prop}
/-- 'out = append(out, src...)'. -/
theorem wpList_appS (W : World) (hgd : o.guard = none) (s x : Operand) (t : TypeId) (ho : o.op = .call { callee := .builtin .append, args := #[s, x], argTypes := #[t, t] })
    (base : Nat) (e : TypeId) (z : Value) (bytes : Nat) (ht : P.underlying t = some (.slice e)) (hinfo : (P.info? e).map (fun i => (i.zero, i.size, i.bytes)) = some (some z, 1, bytes))
    (hz1 : z.cells.size = 1) (hb8 : bytes ≤ 64) {v : Value} {vs : List Value} (hown : Owns base e W v vs) (hs : a.eval s = v) (ad : Addr) (c : Nat) (news : List Value)
    (hx : a.eval x = .slice (some ad) news.length c) (hnews : ∀ j u, news[j]? = some u → W.cell? (ad.add j) = some u) (h1 : ∀ u ∈ news, u.oneCell' = true) (hn : vs.length + news.length ≤ 1000000) (hbase : base ≤ W.heap.size)
    (h : ∀ v' w', Owns base e w' v' (vs ++ news) → W.grownBy w' v.ownBlock → Below base W w' → wpList P ops Q rest (a.put o.dst v') w') :
    wpList P ops Q (o :: rest) a W := by
  obtain ⟨i, hi, hzz⟩ := Option.map_eq_some_iff.1 hinfo
  simp only [Prod.mk.injEq] at hzz
  obtain ⟨hz, hs1, hb⟩ := hzz
  refine wpList_append_own _ hgd s x t ho base e i z 1 bytes ht hi hz hs1 hb hz1 (by omega) v vs.length vs hs hown ad news.length c news hx (by omega) hnews h1
    (by unfold maxLen; omega) ?_ hbase fun v' w' h2 h3 _ => h v' w' ?_ h3 (hown.grown_below h3 hbase)
  · have : (vs.length + news.length) * bytes ≤ (vs.length + news.length) * 64 := Nat.mul_le_mul_left _ hb8
    omega
  · unfold Owns; rw [List.length_append]; exact h2
end
theorem news_ints {S : Nat → Prop} {w : World} {b off n cap : Nat} {xs : List Int} (h : IntsAt S w (.slice (some ⟨b, off, none⟩) n cap) xs) : ∀ j u, (xs.map (Value.int .i64))[j]? = some u → w.cell? ((⟨b, off, none⟩ : Addr).add j) = some u := by
  intro j u hj
  have hadd : (⟨b, off, none⟩ : Addr).add j = ⟨b, off + j, none⟩ := by unfold Addr.add; split <;> simp_all
  rw [List.getElem?_map] at hj
  obtain ⟨x, hx, rfl⟩ := Option.map_eq_some_iff.1 hj
  have hk : j < xs.length := (List.getElem?_eq_some_iff.1 hx).1
  rw [hadd, ints_get' h hk]
  simp [gi, hx]
/-- Equal numbers, one by one. -/
theorem ints_ext {xs ys : List Int} (hl : xs.length = ys.length) (h : ∀ j, j < xs.length → gi xs j = gi ys j) : xs = ys := by
  refine List.ext_getElem hl fun i h1 h2 => ?_
  have := h i h1
  simpa [gi, h1, h2] using this
def EqPost (w : World) (b : Bool) (e : Ending) (w' : World) : Prop := e = .returned (.bool b) ∧ ∃ n, w' = w.drewN n
set_option maxRecDepth 100000 in
set_option maxHeartbeats 400000 in
theorem equal_int_t (S T : Nat → Prop) (w : World) (v u : Value) (xs ys : List Int) (h : IntsAt S w v xs) (h2 : IntsAt T w u ys) (hn : xs.length ≤ 1000000) (hn2 : ys.length ≤ 1000000) :
    Calls Tryz.prog 23 #[v, u] w (EqPost w (decide (xs = ys))) := by
  obtain ⟨p, cap, rfl, hcap, _⟩ := SlAt.open h
  obtain ⟨q, cap2, rfl, hcap2, _⟩ := SlAt.open h2
  have HX : Hid (IntsAt S w (.slice p xs.length cap) xs) := h
  have HY : Hid (IntsAt T w (.slice q ys.length cap2) ys) := h2
  clear h h2
  by_cases hl : xs.length = ys.length
  · have hl1 : ((xs.length : Int) != ys.length) = false := by simp [hl]
    have HL := Lib.hid hl
    clear hl
    go_enter Tryz.func23, Tryz.ntmps23
    go_wp2_with fail
    go_loopw [5, 13] (fun _ i wr => ∃ k n : Nat, k ≤ xs.length ∧ i = .int .i64 k ∧ wr = w.drewN n ∧ Hid (∀ j, j < k → gi xs j = gi ys j)) (fun _ i _ => xs.length - (intOf i).toNat)
    case atStart => exact ⟨0, 0, Nat.zero_le _, rfl, rfl, fun j hj => absurd hj (Nat.not_lt_zero _)⟩
    case round =>
      obtain ⟨k, n, hk, rfl, rfl, hd⟩ := hrel
      by_cases hlt : k < xs.length
      · have hlt2 : k < ys.length := by rw [← HL.out]; exact hlt
        obtain ⟨b, off, rfl, hc⟩ := ints_get HX.out hlt
        obtain ⟨b2, off2, rfl, hc2⟩ := ints_get HY.out hlt2
        have i1 : (0 : Int) ≤ (k : Int) := by omega
        have i2 : (k : Int) < (xs.length : Int) := by omega
        have i3 : (k : Int) < (ys.length : Int) := by omega
        generalize hx : gi xs k = x at *
        generalize hy : gi ys k = y at *
        have HXX := Lib.hid hx
        have HYY := Lib.hid hy
        clear hx hy
        by_cases hxy : x = y
        · have hxy1 : (x != y) = false := by simp [hxy]
          have HXY := Lib.hid hxy
          clear hxy
          go_wp2_with fail
          go_quiet (fail)
          go_wp2_with fail
          go_roundw
          case rel => exact ⟨k + 1, n + nq, by omega, by go_num, rfl, fun j hj => if e : j = k then by subst e; rw [HXX.out, HYY.out, HXY.out] else hd.out j (by omega)⟩
          case measure => simp [intOf]; omega
        · have hxy1 : (x != y) = true := by simpa using hxy
          have HXY := Lib.hid hxy
          clear hxy
          go_wp2_with fail
          go_quiet (fail)
          go_wp2_with fail
          go_ret
          refine ⟨ret_bool ?_, n + nq, by rw [World.drewN_drewN]⟩
          rw [eq_comm, decide_eq_false_iff_not]
          rintro rfl
          exact HXY.out (by rw [← HXX.out, ← HYY.out])
      · obtain rfl : k = xs.length := by omega
        clear hlt hk
        have hex : xs = ys := ints_ext HL.out hd.out
        have HEX : Hid (decide (xs = ys) = true) := decide_eq_true hex
        clear hex
        go_wp2_with fail
        go_ret
        exact ⟨ret_bool (by rw [HEX.out]), n, rfl⟩
  · have hl1 : ((xs.length : Int) != ys.length) = true := by simp; omega
    have HL := Lib.hid hl
    clear hl
    go_enter Tryz.func23, Tryz.ntmps23
    go_wp2_with fail
    go_ret
    refine ⟨ret_bool ?_, 0, rfl⟩
    rw [eq_comm, decide_eq_false_iff_not]
    rintro rfl
    exact HL.out rfl
end Go.Proofs.YtcbmbhghmfehpaaGreat
namespace Go.Proofs.YtcbmbhghmfehpaaGreat
open Go.RowKit Go.Deep
theorem Owns.set {base : Nat} {e : TypeId} {w : World} {v : Value} {vs : List Value} (h : Owns base e w v vs) {j : Nat} (hj : j < vs.length) :
    ∃ g cap, v = .slice (some ⟨g, 0, none⟩) vs.length cap ∧ base ≤ g ∧ g < w.heap.size ∧ w.cell? ⟨g, j, none⟩ = some (vs.getD j undef) ∧ w.frozen? ⟨g, j, none⟩ = false ∧ ∀ x, Owns base e (w.setCell ⟨g, j, none⟩ x) v (vs.set j x) := by
  obtain ⟨hl, h | ⟨g, cap, cur, rfl, hg, hc, hn, hcm, hcs, ht⟩⟩ := h
  · omega
  · have hgl : g < w.heap.size := (Array.getElem?_eq_some_iff.1 hc).1
    have ht1 : cur.toList.take vs.length = vs := by rw [Nat.mul_one] at ht; exact ht
    have hj2 : j < cur.size := by omega
    have hcell : cur[j]? = some (vs.getD j undef) := by
      have h1 : vs[j]? = some (vs.getD j undef) := by simp [hj]
      rw [← h1]
      have h2 := congrArg (·[j]?) ht1
      simp only [List.getElem?_take, hj, if_true] at h2
      rw [← h2]; simp
    refine ⟨g, cap, rfl, hg, hgl, by simp [World.cell?, hc, hcell], by simp [World.frozen?, hc], fun x => ⟨by simp, .inr ⟨g, cap, cur.setIfInBounds j x, by simp, hg, ?_, by simpa using hn, hcm, by simpa using hcs, ?_⟩⟩⟩
    · simp [World.setCell, Array.getElem?_modify, hc]
    · rw [List.length_set, Nat.mul_one, Array.toList_setIfInBounds, List.take_set, ht1]
/-- d is a list of lists that the call owns; the lists in it lie elsewhere. -/
def RowsOwn (base : Nat) (T : TypeId) (w : World) (d : Value) (xs : List (List Int)) : Prop :=
  ∃ vals : List Value, vals.length = xs.length ∧ Owns base T w d vals ∧ ∀ i, i < xs.length → IntsAt (fun b => some b ≠ d.ownBlock) w (vals.getD i undef) (gl xs i)
theorem ownBlock_lt {base : Nat} {e : TypeId} {w : World} {v : Value} {vs : List Value} (h : Owns base e w v vs) {b : Nat} (hb : v.ownBlock = some b) : base ≤ b ∧ b < w.heap.size := World.ownsRow.lt h b hb
theorem take_gl {l : List (List Int)} {m : Nat} (h : m < l.length) : l.take (m + 1) = l.take m ++ [gl l m] := by
  rw [List.take_succ_eq_append_getElem h]; simp [gl, h]
theorem Owns.ne {base base' : Nat} {e e' : TypeId} {w w' : World} {v u : Value} {vs us : List Value} (h : Owns base e w v vs) (_ : Owns base' e' w' u us) (hb : w.heap.size ≤ base') {b : Nat} (hb' : base' ≤ b) : some b ≠ v.ownBlock := fun e2 => by
  have := (ownBlock_lt h e2.symm).2; omega
theorem RowsOwn.nil (base : Nat) (T : TypeId) (w : World) : RowsOwn base T w (.slice none 0 0) [] := ⟨[], rfl, Owns.nil _ _ _, fun _ hi => absurd hi (Nat.not_lt_zero _)⟩
theorem RowsOwn.rows {base : Nat} {T : TypeId} {w : World} {d : Value} {xs : List (List Int)} (h : RowsOwn base T w d xs) : RowsAt Any w d xs := by
  obtain ⟨vals, hl, ho, hr⟩ := h
  have h1 := ho.slAt
  rw [hl] at h1
  exact ⟨_, h1.sub fun _ _ _ => trivial, fun k hk => (hr k hk).sub fun _ _ _ => trivial⟩
theorem RowsOwn.kept {base : Nat} {T : TypeId} {w w' : World} {d : Value} {xs : List (List Int)} (h : RowsOwn base T w d xs) (k : Up w w') : RowsOwn base T w' d xs := by
  obtain ⟨vals, hl, ho, hr⟩ := h
  exact ⟨vals, hl, ho.kept fun b _ hb => Below.block k b hb, fun i hi => (hr i hi).keep (k.kept _)⟩
section
variable {P : Program} {ops : Array Oper} {rest : List Oper} {o : Oper} {a : Act} {Q : Exit → Act → World → Prop}
end
end Go.Proofs.YtcbmbhghmfehpaaGreat
namespace Go.Proofs.YtcbmbhghmfehpaaGreat
open Go.RowKit Go.Deep
/-- Nodes 0, 1, ..: their names, old numbers and children. -/
structure Frs where
  nm : Nat → ByteArray
  old : Nat → Int
  kids : Nat → List Nat
def nptr (A : Nat → Nat) (k : Nat) : Value := .pointer (some ⟨A k, 0, none⟩)
def upd {α : Type} (f : Nat → α) (k : Nat) (x : α) (i : Nat) : α := if i = k then x else f i
theorem upd_same {α : Type} (f : Nat → α) (k : Nat) (x : α) : upd f k x k = x := by simp [upd]
theorem upd_ne {α : Type} (f : Nat → α) {k i : Nat} (x : α) (h : i ≠ k) : upd f k x i = f i := by simp [upd, h]
/-- Nodes 0 .. n - 1 lie at blocks A 0 ..; their lists of children are kv 0 ..; all of it lies at base or beyond, each block apart from every other. -/
structure FAt (base n : Nat) (A : Nat → Nat) (kv : Nat → Value) (F : Frs) (w : World) : Prop where
  node : ∀ i, i < n → w.heap[A i]? = some (.cells #[.string (F.nm i), kv i, .int .i64 (F.old i)] 147 (0, 0))
  lo : ∀ i, i < n → base ≤ A i
  inj : ∀ i j, i < n → j < n → A i = A j → i = j
  own : ∀ i, i < n → Owns base 145 w (kv i) ((F.kids i).map (nptr A))
  apart : ∀ i j, i < n → j < n → (kv i).ownBlock ≠ some (A j)
  alone : ∀ i j b, i < n → j < n → (kv i).ownBlock = some b → (kv j).ownBlock = some b → i = j
  kid : ∀ i, i < n → ∀ k ∈ F.kids i, k < n
theorem Owns.same {base : Nat} {e : TypeId} {w w' : World} {v : Value} {vs : List Value} (h : Owns base e w v vs) (k : ∀ b, v.ownBlock = some b → w'.heap[b]? = w.heap[b]?) : Owns base e w' v vs := by
  obtain ⟨hl, h | ⟨g, cap, cur, rfl, hg, hc, hr⟩⟩ := h
  · exact ⟨hl, .inl h⟩
  · exact ⟨hl, .inr ⟨g, cap, cur, rfl, hg, by rw [k g rfl]; exact hc, hr⟩⟩
theorem Owns.mono_base {base base' : Nat} {e : TypeId} {w : World} {v : Value} {vs : List Value} (h : Owns base e w v vs) (hb : base' ≤ base) : Owns base' e w v vs := by
  obtain ⟨hl, h | ⟨g, cap, cur, rfl, hg, hc, hr⟩⟩ := h
  · exact ⟨hl, .inl h⟩
  · exact ⟨hl, .inr ⟨g, cap, cur, rfl, Nat.le_trans hb hg, hc, hr⟩⟩
section
variable {base n : Nat} {A : Nat → Nat} {kv : Nat → Value} {F : Frs} {w w' : World}
theorem FAt.lt (h : FAt base n A kv F w) {i : Nat} (hi : i < n) : A i < w.heap.size := (Array.getElem?_eq_some_iff.1 (h.node i hi)).1
theorem FAt.ownlt (h : FAt base n A kv F w) {i b : Nat} (hi : i < n) (hb : (kv i).ownBlock = some b) : base ≤ b ∧ b < w.heap.size := ownBlock_lt (h.own i hi) hb
theorem FAt.name (h : FAt base n A kv F w) {i : Nat} (hi : i < n) : w.cell? ⟨A i, 0, none⟩ = some (.string (F.nm i)) := by simp [World.cell?, h.node i hi]
theorem FAt.kidv (h : FAt base n A kv F w) {i : Nat} (hi : i < n) : w.cell? ⟨A i, 1, none⟩ = some (kv i) := by simp [World.cell?, h.node i hi]
theorem FAt.thaw (h : FAt base n A kv F w) {i : Nat} (hi : i < n) (o : Nat) : w.frozen? ⟨A i, o, none⟩ = false := by simp [World.frozen?, h.node i hi]
/-- What lies at the blocks of the forest lies in w' as in w. -/
theorem FAt.same (h : FAt base n A kv F w) (ha : ∀ i, i < n → w'.heap[A i]? = w.heap[A i]?) (hk : ∀ i b, i < n → (kv i).ownBlock = some b → w'.heap[b]? = w.heap[b]?) : FAt base n A kv F w' :=
  ⟨fun i hi => by rw [ha i hi]; exact h.node i hi, h.lo, h.inj, fun i hi => (h.own i hi).same fun b hb => hk i b hi hb, h.apart, h.alone, h.kid⟩
theorem FAt.kept (h : FAt base n A kv F w) (k : ∀ b, base ≤ b → b < w.heap.size → w'.heap[b]? = w.heap[b]?) : FAt base n A kv F w' :=
  h.same (fun i hi => k _ (h.lo i hi) (h.lt hi)) (fun _ _ hi hb => k _ (h.ownlt hi hb).1 (h.ownlt hi hb).2)
theorem FAt.up (h : FAt base n A kv F w) (k : Up w w') : FAt base n A kv F w' := h.kept fun b _ hb => Below.block k b hb
/-- One list of children is replaced. -/
theorem FAt.put (h : FAt base n A kv F w) {k : Nat} (hk : k < n) {v : Value} {ks : List Nat}
    (ha : ∀ i, i < n → i ≠ k → w'.heap[A i]? = w.heap[A i]?) (hn : w'.heap[A k]? = some (.cells #[.string (F.nm k), v, .int .i64 (F.old k)] 147 (0, 0)))
    (hv : Owns base 145 w' v (ks.map (nptr A))) (ho : ∀ i b, i < n → i ≠ k → (kv i).ownBlock = some b → w'.heap[b]? = w.heap[b]?)
    (hb : ∀ b, v.ownBlock = some b → (kv k).ownBlock = some b ∨ w.heap.size ≤ b) (hks : ∀ j ∈ ks, j < n) : FAt base n A (upd kv k v) { F with kids := upd F.kids k ks } w' := by
  refine ⟨fun i hi => ?_, h.lo, h.inj, fun i hi => ?_, fun i j hi hj => ?_, fun i j b hi hj h1 h2 => ?_, fun i hi => ?_⟩
  · by_cases e : i = k
    · subst e; rw [upd_same]; exact hn
    · rw [upd_ne _ _ e, ha i hi e]; exact h.node i hi
  · by_cases e : i = k
    · subst e; simp only [upd_same]; exact hv
    · simp only [upd_ne _ _ e]; exact (h.own i hi).same fun b hb => ho i b hi e hb
  · by_cases e : i = k
    · subst e; rw [upd_same]; intro h3
      rcases hb _ h3 with h4 | h4
      · exact h.apart i j hi hj h4
      · exact absurd (h.lt hj) (by omega)
    · rw [upd_ne _ _ e]; exact h.apart i j hi hj
  · by_cases e1 : i = k
    · by_cases e2 : j = k
      · rw [e1, e2]
      · subst e1
        rw [upd_same] at h1
        rw [upd_ne _ _ e2] at h2
        rcases hb _ h1 with h4 | h4
        · exact h.alone i j b hi hj h4 h2
        · exact absurd (h.ownlt hj h2).2 (by omega)
    · by_cases e2 : j = k
      · subst e2
        rw [upd_same] at h2
        rw [upd_ne _ _ e1] at h1
        rcases hb _ h2 with h4 | h4
        · exact h.alone i j b hi hj h1 h4
        · exact absurd (h.ownlt hi h1).2 (by omega)
      · rw [upd_ne _ _ e1] at h1
        rw [upd_ne _ _ e2] at h2
        exact h.alone i j b hi hj h1 h2
  · by_cases e : i = k
    · subst e; simp only [upd_same]; exact hks
    · simp only [upd_ne _ _ e]; exact h.kid i hi
/-- A node without children is laid. -/
theorem FAt.node_new (h : FAt base n A kv F w) (hb : base ≤ w.heap.size) (nm : ByteArray) (old : Int) :
    FAt base (n + 1) (upd A n w.heap.size) (upd kv n (.slice none 0 0)) ⟨upd F.nm n nm, upd F.old n old, upd F.kids n []⟩ (w.alloc (.cells #[.string nm, .slice none 0 0, .int .i64 old] 147)) := by
  have hne : ∀ i, i < n → i ≠ n := fun i hi => by omega
  have hmap : ∀ i, i < n → (F.kids i).map (nptr (upd A n w.heap.size)) = (F.kids i).map (nptr A) := fun i hi => by
    refine List.map_congr_left fun k hk => ?_
    unfold nptr; rw [upd_ne _ _ (hne k (h.kid i hi k hk))]
  have hcase : ∀ i, i < n + 1 → i < n ∨ i = n := fun i hi => by omega
  refine ⟨fun i hi => ?_, fun i hi => ?_, fun i j hi hj e => ?_, fun i hi => ?_, fun i j hi hj => ?_, fun i j b hi hj h1 h2 => ?_, fun i hi => ?_⟩
  · rcases hcase i hi with hi | rfl
    · simp only [upd_ne _ _ (hne i hi)]; rw [blk_alloc_lt _ _ _ (h.lt hi)]; exact h.node i hi
    · simp only [upd_same]; exact blk_alloc_new _ _
  · rcases hcase i hi with hi | rfl
    · rw [upd_ne _ _ (hne i hi)]; exact h.lo i hi
    · rw [upd_same]; exact hb
  · rcases hcase i hi with hi | rfl <;> rcases hcase j hj with hj | rfl
    · rw [upd_ne _ _ (hne i hi), upd_ne _ _ (hne j hj)] at e; exact h.inj i j hi hj e
    · rw [upd_ne _ _ (hne i hi), upd_same] at e; have := h.lt hi; omega
    · rw [upd_same, upd_ne _ _ (hne j hj)] at e; have := h.lt hj; omega
    · rfl
  · rcases hcase i hi with hi | rfl
    · simp only [upd_ne _ _ (hne i hi)]; rw [hmap i hi]; exact (h.own i hi).alloc _
    · simp only [upd_same]; exact Owns.nil _ _ _
  · rcases hcase i hi with hi | rfl
    · rw [upd_ne _ _ (hne i hi)]
      rcases hcase j hj with hj | rfl
      · rw [upd_ne _ _ (hne j hj)]; exact h.apart i j hi hj
      · rw [upd_same]; intro e; have := (h.ownlt hi e).2; omega
    · rw [upd_same]; intro e; cases e
  · rcases hcase i hi with hi | rfl <;> rcases hcase j hj with hj | rfl
    · rw [upd_ne _ _ (hne i hi)] at h1; rw [upd_ne _ _ (hne j hj)] at h2; exact h.alone i j b hi hj h1 h2
    · rw [upd_same] at h2; cases h2
    · rw [upd_same] at h1; cases h1
    · rfl
  · rcases hcase i hi with hi | rfl
    · simp only [upd_ne _ _ (hne i hi)]; intro k hk; have := h.kid i hi k hk; omega
    · simp only [upd_same]; intro k hk; cases hk
theorem FAt.empty (base : Nat) (A : Nat → Nat) (kv : Nat → Value) (F : Frs) (w : World) : FAt base 0 A kv F w :=
  ⟨fun _ h => absurd h (Nat.not_lt_zero _), fun _ h => absurd h (Nat.not_lt_zero _), fun _ _ h => absurd h (Nat.not_lt_zero _), fun _ h => absurd h (Nat.not_lt_zero _), fun _ _ h => absurd h (Nat.not_lt_zero _), fun _ _ _ h => absurd h (Nat.not_lt_zero _), fun _ h => absurd h (Nat.not_lt_zero _)⟩
/-- A child is appended: w' is the world behind append, v the new list. -/
theorem FAt.push (h : FAt base n A kv F w) {k c : Nat} (hk : k < n) (hc : c < n) {v : Value} (hv : Owns base 145 w' v ((F.kids k ++ [c]).map (nptr A))) (hg : w.grownBy w' (kv k).ownBlock)
    (hb : ∀ b, v.ownBlock = some b → (kv k).ownBlock = some b ∨ w.heap.size ≤ b) : FAt base n A (upd kv k v) { F with kids := upd F.kids k (F.kids k ++ [c]) } (w'.setCell ⟨A k, 1, none⟩ v) := by
  have hold : ∀ i, i < n → w'.heap[A i]? = w.heap[A i]? := fun i hi => hg.block (A i) (h.lt hi) (fun e => h.apart k i hk hi e.symm)
  have hnA : ∀ b, v.ownBlock = some b → b ≠ A k := fun b hv2 e => by
    rcases hb b hv2 with h4 | h4
    · exact h.apart k k hk hk (by rw [h4, e])
    · have := h.lt hk; omega
  refine h.put hk (fun i hi e => ?_) ?_ (hv.same fun b hv2 => blk_setCell_other _ _ _ _ (hnA b hv2)) (fun i b hi e hb2 => ?_) hb ?_
  · rw [blk_setCell_other _ _ _ _ (fun e2 => e (h.inj i k hi hk e2))]; exact hold i hi
  · have hn := hold k hk
    rw [h.node k hk] at hn
    simp [World.setCell, Array.getElem?_modify, hn]
  · have hne : b ≠ A k := fun e2 => h.apart i k hi hk (by rw [hb2, e2])
    rw [blk_setCell_other _ _ _ _ hne]
    exact hg.block b (h.ownlt hi hb2).2 (fun e2 => e (h.alone i k b hi hk hb2 e2.symm))
  · intro j hj
    rcases List.mem_append.1 hj with h1 | h1
    · exact h.kid k hk j h1
    · have : j = c := by simpa using h1
      omega
end
end Go.Proofs.YtcbmbhghmfehpaaGreat
namespace Go.Proofs.YtcbmbhghmfehpaaGreat
open Go.RowKit Go.Deep
/-- A block of plain cells. -/
def Plain (w : World) (b : Nat) : Prop := ∃ c t, w.heap[b]? = some (.cells c t (0, 0)) ∧ 0 < c.size
section
variable {P : Program} {w : World}
theorem run_sameAddr {a b : Nat} (ha : Plain w a) (hb : Plain w b) : (sameAddr ⟨a, 0, none⟩ ⟨b, 0, none⟩).run P w = .ok (decide (a = b)) w := by
  obtain ⟨ca, ta, ha, hca⟩ := ha
  obtain ⟨cb, tb, hb, hcb⟩ := hb
  by_cases h : a = b
  · subst h; simp [sameAddr]
  · have h1 : (a == b) = false := by simp [h]
    simp [sameAddr, h1, h, World.frozen?, ha, hb, noView, viewAt, mayBeOne, stringish, World.shape?, getObj, Sem.run, shape, frozen]
/-- A key: nil, or a block. -/
def pk : Option Nat → Value
  | none => .pointer none
  | some b => .pointer (some ⟨b, 0, none⟩)
def okKey (w : World) : Option Nat → Prop
  | none => True
  | some b => Plain w b
theorem run_eqIn {t e : TypeId} (ht : P.underlying t = some (.pointer e)) (he : ∀ w, (sizeOf e).run P w = .ok 3 w) {x y : Option Nat} (hx : okKey w x) (hy : okKey w y) (d : Nat) : (Op.equalIn (d + 1) t (pk x) (pk y)).run P w = .ok (decide (x = y)) w := by
  have hu := run_underlying (w := w) ht
  unfold Op.equalIn
  cases x with
  | none => cases y <;> simp [hu, pk]
  | some a =>
    cases y with
    | none => simp [hu, pk]
    | some b =>
      have h := run_sameAddr (P := P) hx hy
      simp [hu, pk, he, h]
theorem run_eqp {t e : TypeId} (ht : P.underlying t = some (.pointer e)) (he : ∀ w, (sizeOf e).run P w = .ok 3 w) {x y : Option Nat} (hx : okKey w x) (hy : okKey w y) : (Op.equal t (pk x) (pk y)).run P w = .ok (decide (x = y)) w :=
  run_eqIn ht he hx hy 9999
theorem run_asking {t e : TypeId} (ht : P.underlying t = some (.pointer e)) (he : ∀ w, (sizeOf e).run P w = .ok 3 w) {k : Option Nat} (hk : okKey w k) : ∀ (es : List MapEntry) (l : List (Option Nat × Value)) (i : Nat),
    es.map (fun x => (x.key, x.val)) = l.map (fun x => (pk x.1, x.2)) → (∀ x ∈ l, okKey w x.1) →
      (l.lookup k = none ∧ (Instr.findAsking t (pk k) es i).run P w = .ok none w) ∨ ∃ j v, l.lookup k = some v ∧ (Instr.findAsking t (pk k) es i).run P w = .ok (some (j, v)) w := by
  intro es
  induction es with
  | nil =>
    intro l i hl _
    cases l with
    | nil => exact .inl ⟨rfl, by simp [Instr.findAsking]⟩
    | cons => cases hl
  | cons x es ih =>
    intro l i hl hok
    cases l with
    | nil => cases hl
    | cons y l =>
      simp only [List.map_cons, List.cons.injEq, Prod.mk.injEq] at hl
      obtain ⟨⟨h1, h2⟩, h3⟩ := hl
      have heq := run_eqp (w := w) ht he hk (hok y (by simp))
      rw [← h1] at heq
      by_cases h : k = y.1
      · subst h
        refine .inr ⟨i, y.2, ?_, ?_⟩
        · obtain ⟨y1, y2⟩ := y; simp
        · simp [Instr.findAsking, heq, h2]
      · have hb : (k == y.1) = false := by simpa using h
        rcases ih l (i + 1) h3 (fun z hz => hok z (by simp [hz])) with ⟨h4, h5⟩ | ⟨j, v, h4, h5⟩
        · refine .inl ⟨?_, by simp [Instr.findAsking, heq, h, h5]⟩
          obtain ⟨y1, y2⟩ := y
          rw [List.lookup_cons, hb]; exact h4
        · refine .inr ⟨j, v, ?_, by simp [Instr.findAsking, heq, h, h5]⟩
          obtain ⟨y1, y2⟩ := y
          rw [List.lookup_cons, hb]; exact h4
/-- The map at block b holds the entries l. -/
def PMap (w : World) (b : Nat) (l : List (Option Nat × Value)) : Prop := ∃ es clock, w.heap[b]? = some (.map es clock) ∧ es.toList.map (fun x => (x.key, x.val)) = l.map (fun x => (pk x.1, x.2))
theorem run_findKey {t e : TypeId} (ht : P.underlying t = some (.pointer e)) (he : ∀ w, (sizeOf e).run P w = .ok 3 w) {k : Option Nat} (hk : okKey w k) (es : List MapEntry) (l : List (Option Nat × Value))
    (hl : es.map (fun x => (x.key, x.val)) = l.map (fun x => (pk x.1, x.2))) (hok : ∀ x ∈ l, okKey w x.1) :
      (l.lookup k = none ∧ (Instr.findKey t (pk k) es).run P w = .ok none w) ∨ ∃ j v, l.lookup k = some v ∧ (Instr.findKey t (pk k) es).run P w = .ok (some (j, v)) w := by
  have hu := run_underlying (w := w) ht
  have h := run_asking ht he hk es l 0 hl hok
  cases es with
  | nil =>
    cases l with
    | nil => exact .inl ⟨rfl, by simp [Instr.findKey, hu, Instr.findNow]⟩
    | cons => cases hl
  | cons x es =>
    have hn : Instr.findNow (.pointer e) (pk k) (x :: es) 0 = none := by simp [Instr.findNow, Instr.sameNow]
    rcases h with ⟨h1, h2⟩ | ⟨j, v, h1, h2⟩
    · exact .inl ⟨h1, by simp [Instr.findKey, hu, hn, h2]⟩
    · exact .inr ⟨j, v, h1, by simp [Instr.findKey, hu, hn, h2]⟩
theorem run_checkKey {t e : TypeId} (ht : P.underlying t = some (.pointer e)) (em : Bool) (k : Option Nat) : (Instr.checkKey em 10000 t (pk k)).run P w = .ok () w := by
  have hu := run_underlying (w := w) ht
  show (Instr.checkKey em (9999 + 1) t (pk k)).run P w = _
  unfold Instr.checkKey
  cases k <;> simp [hu, pk]
/-- 'm[p]' of an entry that is there. -/
theorem run_pget {mt t e el : TypeId} (hm : P.underlying mt = some (.map t el)) (ht : P.underlying t = some (.pointer e)) (he : ∀ w, (sizeOf e).run P w = .ok 3 w) {b : Nat} {l : List (Option Nat × Value)} (h : PMap w b l) {k : Option Nat} {v : Value}
    (hk : okKey w k) (hok : ∀ x ∈ l, okKey w x.1) (hv : l.lookup k = some v) : (Instr.lookup mt (.map (some b)) (pk k) false).run P w = .ok v w := by
  obtain ⟨es, clock, hb, hl⟩ := h
  have hu := run_underlying (w := w) hm
  have hg := MapKept.run_getObj_map (P := P) hb
  rcases run_findKey ht he hk es.toList l hl hok with ⟨h1, h2⟩ | ⟨j, v', h1, h2⟩
  · rw [h1] at hv; cases hv
  · rw [h1] at hv; injection hv with hv; subst hv
    simp [Instr.lookup, hu, hg, run_checkKey ht, h2]
/-- 'm[p] = v' of a new entry. -/
theorem run_pput {mt t e el : TypeId} (hm : P.underlying mt = some (.map t el)) (ht : P.underlying t = some (.pointer e)) (he : ∀ w, (sizeOf e).run P w = .ok 3 w) {b : Nat} {l : List (Option Nat × Value)} (h : PMap w b l) {k : Option Nat} (v : Value)
    (hk : okKey w k) (hok : ∀ x ∈ l, okKey w x.1) (hv : l.lookup k = none) :
    ∃ w', (Instr.mapUpdate mt (.map (some b)) (pk k) v).run P w = .ok () w' ∧ PMap w' b (l ++ [(k, v)]) ∧ w'.heap.size = w.heap.size ∧ w'.os = w.os ∧ w'.tape = w.tape ∧ w'.output = w.output ∧ ∀ j, j ≠ b → w'.heap[j]? = w.heap[j]? := by
  obtain ⟨es, clock, hb, hl⟩ := h
  have hu := run_underlying (w := w) hm
  have hg := MapKept.run_getObj_map (P := P) hb
  rcases run_findKey ht he hk es.toList l hl hok with ⟨h1, h2⟩ | ⟨j, v', h1, h2⟩
  · have hs := MapKept.run_setObj_map (P := P) (.map (es.push { key := pk k, val := v, born := clock }) (clock + 1)) hb
    refine ⟨{ w with heap := w.heap.setIfInBounds b (.map (es.push { key := pk k, val := v, born := clock }) (clock + 1)) }, by simp [Instr.mapUpdate, hu, hg, run_checkKey ht, h2, hs], ⟨es.push { key := pk k, val := v, born := clock }, clock + 1, ?_, by simp [hl]⟩, by simp, rfl, rfl, rfl, fun j hj => ?_⟩
    · have := (Array.getElem?_eq_some_iff.1 hb).1
      simp [this]
    · simp [Ne.symm hj]
  · rw [h1] at hv; cases hv
end
end Go.Proofs.YtcbmbhghmfehpaaGreat
namespace Go.Proofs.YtcbmbhghmfehpaaGreat
open Go.RowKit Go.Deep
/-- The map at block b holds the entries l. -/
def IMap (w : World) (b : Nat) (l : List (Int × Value)) : Prop := ∃ es clock, w.heap[b]? = some (.map es clock) ∧ es.toList.map (fun x => (x.key, x.val)) = l.map (fun x => (Value.int .i64 x.1, x.2))
section
variable {P : Program} {w : World}
theorem IMap.made (w : World) : IMap (w.alloc (.map #[] 0)) w.heap.size [] := ⟨#[], 0, (MapKept.heap_alloc w _).1, rfl⟩
theorem IMap.same {w' : World} {b : Nat} {l : List (Int × Value)} (h : IMap w b l) (hb : w'.heap[b]? = w.heap[b]?) : IMap w' b l := by
  obtain ⟨es, clock, h1, h2⟩ := h
  exact ⟨es, clock, hb.trans h1, h2⟩
theorem IMap.lt {b : Nat} {l : List (Int × Value)} (h : IMap w b l) : b < w.heap.size := by
  obtain ⟨es, clock, h1, _⟩ := h
  exact (Array.getElem?_eq_some_iff.1 h1).1
end
end Go.Proofs.YtcbmbhghmfehpaaGreat
namespace Go.Proofs.YtcbmbhghmfehpaaGreat
open Go.RowKit Go.Deep
/-- The numbers below k of states other than the first one. -/
def osO (st : List Int) (k : Nat) : List Int := memK (fun i => gi st i.toNat != gi st 0) k
structure OsOk (st : List Int) : Prop where
  known : ∀ i, i < st.length → 0 ≤ gi st i
  two : ∀ i j, i < st.length → j < st.length → gi st i ≠ gi st 0 → gi st j ≠ gi st 0 → gi st i = gi st j
  many : 2 ≤ (osO st st.length).length
  left : (osO st st.length).length + 2 ≤ st.length
end Go.Proofs.YtcbmbhghmfehpaaGreat
namespace Go.Proofs.YtcbmbhghmfehpaaGreat
/-- How two lists of numbers compare. -/
def cmpL : List Int → List Int → Int
  | [], [] => 0
  | [], _ :: _ => -1
  | _ :: _, [] => 1
  | a :: a1, b :: bs => if a < b then -1 else if b < a then 1 else cmpL a1 bs
theorem cmpL_self : ∀ a : List Int, cmpL a a = 0
  | [] => rfl
  | a :: a1 => by rw [cmpL, if_neg (by omega), if_neg (by omega)]; exact cmpL_self a1
theorem cmpL_zero : ∀ {a b : List Int}, cmpL a b = 0 → a = b
  | [], [], _ => rfl
  | [], _ :: _, h => by rw [cmpL] at h; omega
  | _ :: _, [], h => by rw [cmpL] at h; omega
  | a :: a1, b :: bs, h => by
    rw [cmpL] at h
    split at h
    · omega
    · split at h
      · omega
      · rw [cmpL_zero h]; congr 1; omega
theorem cmpL_anti : ∀ a b : List Int, cmpL b a = - cmpL a b
  | [], [] => rfl
  | [], _ :: _ => rfl
  | _ :: _, [] => rfl
  | a :: a1, b :: bs => by
    rw [cmpL, cmpL]
    by_cases h1 : a < b
    · simp only [if_pos h1, if_neg (show ¬ b < a by omega)]; rfl
    · by_cases h2 : b < a
      · simp only [if_pos h2, if_neg h1]
      · rw [if_neg h1, if_neg h2, if_neg h2, if_neg h1]; exact cmpL_anti a1 bs
theorem cmpL_trans : ∀ {a b c : List Int}, cmpL a b < 0 → cmpL b c < 0 → cmpL a c < 0
  | [], [], c, h, _ => by rw [cmpL] at h; omega
  | [], _ :: _, [], _, h => by rw [cmpL] at h; omega
  | [], _ :: _, _ :: _, _, _ => by rw [cmpL]; omega
  | _ :: _, [], _, h, _ => by rw [cmpL] at h; omega
  | _ :: _, _ :: _, [], _, h => by rw [cmpL] at h; omega
  | a :: a1, b :: bs, c :: cs, h1, h2 => by
    rw [cmpL] at h1 h2 ⊢
    by_cases x1 : a < b
    · by_cases y1 : b < c
      · rw [if_pos (by omega)]; omega
      · rw [if_neg y1] at h2
        by_cases y2 : c < b
        · rw [if_pos y2] at h2; omega
        · rw [if_pos (by omega)]; omega
    · rw [if_neg x1] at h1
      by_cases x2 : b < a
      · rw [if_pos x2] at h1; omega
      · rw [if_neg x2] at h1
        by_cases y1 : b < c
        · rw [if_pos (by omega)]; omega
        · rw [if_neg y1] at h2
          by_cases y2 : c < b
          · rw [if_pos y2] at h2; omega
          · rw [if_neg y2] at h2
            rw [if_neg (by omega), if_neg (by omega)]
            exact cmpL_trans h1 h2
def ltX (a b : List Int) : Prop := cmpL a b < 0
def leX (a b : List Int) : Prop := cmpL a b ≤ 0
theorem leX_trans {a b c : List Int} (h1 : leX a b) (h2 : leX b c) : leX a c := by
  unfold leX at *
  by_cases e1 : cmpL a b = 0
  · rw [cmpL_zero e1]; exact h2
  · by_cases e2 : cmpL b c = 0
    · rw [← cmpL_zero e2]; exact h1
    · have h3 : cmpL a b < 0 := by omega
      have h4 : cmpL b c < 0 := by omega
      exact Int.le_of_lt (cmpL_trans h3 h4)
def insX (a : List Int) : List (List Int) → List (List Int)
  | [] => [a]
  | b :: l => if cmpL a b ≤ 0 then a :: b :: l else b :: insX a l
def sortX : List (List Int) → List (List Int)
  | [] => []
  | a :: l => insX a (sortX l)
theorem insX_perm (a : List Int) : ∀ l : List (List Int), (insX a l).Perm (a :: l)
  | [] => List.Perm.refl _
  | b :: l => by
    rw [insX]
    split
    · exact List.Perm.refl _
    · exact (List.Perm.cons b (insX_perm a l)).trans (List.Perm.swap a b l)
theorem sortX_perm : ∀ l : List (List Int), (sortX l).Perm l
  | [] => List.Perm.refl _
  | a :: l => (insX_perm a _).trans (List.Perm.cons a (sortX_perm l))
theorem insX_sorted (a : List Int) : ∀ {l : List (List Int)}, l.Pairwise leX → (insX a l).Pairwise leX
  | [], _ => by simp [insX]
  | b :: l, h => by
    rw [insX]
    rw [List.pairwise_cons] at h
    split
    · rename_i h1
      refine List.pairwise_cons.2 ⟨fun c hc => ?_, List.pairwise_cons.2 h⟩
      rcases List.mem_cons.1 hc with rfl | hc
      · exact h1
      · exact leX_trans h1 (h.1 c hc)
    · rename_i h1
      refine List.pairwise_cons.2 ⟨fun c hc => ?_, insX_sorted a h.2⟩
      rcases List.mem_cons.1 ((insX_perm a l).mem_iff.1 hc) with rfl | hc
      · unfold leX; have := cmpL_anti c b; omega
      · exact h.1 c hc
theorem sortX_sorted : ∀ l : List (List Int), (sortX l).Pairwise leX
  | [] => List.Pairwise.nil
  | a :: l => insX_sorted a (sortX_sorted l)
theorem sortX_uniq {a b : List (List Int)} (hp : a.Perm b) (h : a.Pairwise leX) : a = sortX b :=
  List.Perm.eq_of_pairwise (le := leX) (fun x y _ _ h1 h2 => cmpL_zero (by unfold leX at h1 h2; have := cmpL_anti x y; omega)) h (sortX_sorted b) (hp.trans (sortX_perm b).symm)
/-- Neighbours that are the same, once. -/
def cptX : List (List Int) → List (List Int)
  | [] => []
  | a :: l => if l.head? = some a then cptX l else a :: cptX l
theorem mem_cptX {x : List Int} : ∀ {l : List (List Int)}, x ∈ cptX l ↔ x ∈ l
  | [] => by rw [cptX]
  | a :: l => by
    rw [cptX]
    split
    · rename_i h
      rw [mem_cptX, List.mem_cons]
      constructor
      · exact .inr
      · rintro (rfl | h1)
        · exact List.mem_of_head? h
        · exact h1
    · rw [List.mem_cons, List.mem_cons, mem_cptX]
theorem cptX_strict : ∀ {l : List (List Int)}, l.Pairwise leX → (cptX l).Pairwise ltX
  | [], _ => List.Pairwise.nil
  | a :: l, h => by
    rw [List.pairwise_cons] at h
    rw [cptX]
    split
    · exact cptX_strict h.2
    · rename_i hne
      refine List.pairwise_cons.2 ⟨fun c hc => ?_, cptX_strict h.2⟩
      have hc := mem_cptX.1 hc
      have h1 := h.1 c hc
      unfold ltX
      unfold leX at h1
      by_cases e : cmpL a c = 0
      · exfalso
        have e := cmpL_zero e
        subst e
        cases l with
        | nil => cases hc
        | cons b l =>
          rw [List.head?_cons] at hne
          have h2 := h.1 b (by simp)
          rcases List.mem_cons.1 hc with rfl | hc
          · exact hne rfl
          · have h3 := (List.pairwise_cons.1 h.2).1 _ hc
            unfold leX at h2 h3
            have := cmpL_anti a b
            exact hne (by rw [cmpL_zero (a := a) (b := b) (by omega)])
      · omega
theorem ltX_ext {a b : List (List Int)} (ha : a.Pairwise ltX) (hb : b.Pairwise ltX) (h : ∀ x, x ∈ a ↔ x ∈ b) : a = b := by
  have nd : ∀ {q : List (List Int)}, q.Pairwise ltX → q.Nodup := fun hq => hq.imp fun {x y} h1 e => by subst e; unfold ltX at h1; rw [cmpL_self] at h1; omega
  have hp : a.Perm b := (List.perm_ext_iff_of_nodup (nd ha) (nd hb)).2 h
  exact List.Perm.eq_of_pairwise (le := ltX) (fun x y _ _ h1 h2 => by unfold ltX at h1 h2; have := cmpL_anti x y; omega) ha hb hp
/-- The list, ordered, each once. -/
def ordX (l : List (List Int)) : List (List Int) := cptX (sortX l)
theorem mem_ordX {x : List Int} {l : List (List Int)} : x ∈ ordX l ↔ x ∈ l := by unfold ordX; rw [mem_cptX]; exact (sortX_perm l).mem_iff
theorem ordX_strict (l : List (List Int)) : (ordX l).Pairwise ltX := cptX_strict (sortX_sorted l)
theorem ordX_congr {a b : List (List Int)} (h : ∀ x, x ∈ a ↔ x ∈ b) : ordX a = ordX b := ltX_ext (ordX_strict a) (ordX_strict b) fun x => by rw [mem_ordX, mem_ordX]; exact h x
end Go.Proofs.YtcbmbhghmfehpaaGreat
