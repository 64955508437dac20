/- Names, as layer 1's and layer 31's references have them: IsName, named. The contracts of slices.Clone and slices.Equal of numbers. Lists of lists that a call grows; a store into a list of the call's own. Nodes that point at each other: how a forest lies in memory, and what keeps it. -/
import Derived.Test.YtpjijbophjdgaaaGreatQ3
namespace Go.Proofs.YtpjijbophjdgaaaGreat
open Go.RowKit Go.Deep
def RtPost (w : World) (n : Nat) (e : Ending) (w' : World) : Prop := Below w.heap.size w w' ∧ ∃ v, ∃ bs : List Bool, e = .returned v ∧ bs.length = n ∧ SlAt Any w' v n (fun k => .bool (gb bs k))
theorem Owns.bools {base : Nat} {e : TypeId} {w : World} {v : Value} {xs : List Bool} (h : Owns base e w v (xs.map Value.bool)) : SlAt (fun b => base ≤ b) w v xs.length (fun k => .bool (gb xs k)) := by
  have := h.slAt
  rw [List.length_map] at this
  exact this.congr fun k hk => by simp [gb, hk]
theorem Owns.form {base : Nat} {e : TypeId} {w : World} {v : Value} {vs : List Value} {n : Nat} (h : Owns base e w v vs) (hn : vs.length = n) : ∃ p cap, v = .slice p n cap ∧ (p = none ∨ ∃ g, p = some ⟨g, 0, none⟩) := by
  subst hn
  rcases h.2 with ⟨rfl, h0⟩ | ⟨g, cap, cur, rfl, _⟩
  · exact ⟨none, 0, by rw [h0], .inl rfl⟩
  · exact ⟨_, cap, rfl, .inr ⟨g, rfl⟩⟩
theorem Owns.made (w : World) (e : TypeId) : Owns w.heap.size e (w.alloc (.cells #[] e)) (.slice (some ⟨w.heap.size, 0, none⟩) 0 0) [] := World.ownsRow_made w #[] 0 (Nat.le_refl _) (by unfold maxLen; omega) (by simp)
set_option maxRecDepth 100000 in
set_option maxHeartbeats 400000 in
theorem right_t (s : ByteArray) (hs : s.size ≤ 1000) (w : World) : Calls Tryz.prog 249 #[.string s] w (RtPost w s.size) := by
  go_enter Tryz.func249, Tryz.ntmps249
  go_wp2
  go_loopw [3, 4] (fun v i wr => ∃ k : Nat, ∃ bs : List Bool, k ≤ s.size ∧ i = .int .i64 k ∧ bs.length = k ∧ Owns w.heap.size 4 wr v (bs.map .bool) ∧ Below w.heap.size w wr) (fun _ i _ => s.size - (intOf i).toNat)
  case atStart => exact ⟨0, [], Nat.zero_le _, rfl, rfl, Owns.made _ _, (Below.refl _ _).alloc (Nat.le_refl _) _⟩
  case round =>
    obtain ⟨k, bs, hk, rfl, hbl, hown, hbr⟩ := hrel
    have hsz := hbr.size
    have HBL := Lib.hid hbl
    by_cases hlt : k < s.size
    · have HLL : Hid ((bs.map Value.bool).length ≤ 1000000) := by unfold Hid; rw [List.length_map]; omega
      clear hbl
      rcases Nat.eq_zero_or_pos k with rfl | hk0
      · go_wp2_with (first | (go_at_call 235; refine (kindR_t _ (UInt8.toNat_lt _) _).mono ?_; rintro e w' ⟨rfl, rfl⟩; generalize kindL _ = q at *) | (at_builtin; refine wpList_app1 wr rfl _ _ 146 rfl w.heap.size 4 _ 1 Tryz.underlying146 Tryz.infoBo rfl (by decide) hown rfl _ rfl rfl HLL.out hsz ?_; intro g cap w2 hown1 hg1 hb1))
        all_goals
          go_roundw
          case rel => exact ⟨1, bs ++ [_], by omega, by go_num, by rw [List.length_append, HBL.out]; rfl, by rw [List.map_append]; rw [List.length_map] at hown1; exact hown1, hbr.trans hb1⟩
          case measure => simp [intOf]; omega
      · have hsl := hown.bools
        obtain ⟨p, cap, rfl, hp⟩ := hown.form (n := k) (by rw [List.length_map]; exact HBL.out)
        rw [HBL.out] at hsl
        obtain ⟨p', cap', e', hcap', H⟩ := hsl.open
        cases e'
        obtain ⟨b, off, rfl, hc⟩ := H (k - 1) (by have := HBL.out; omega)
        clear H hsl hp
        go_wp2_with (first | (go_at_call 235; refine (kindR_t _ (UInt8.toNat_lt _) _).mono ?_; rintro e w' ⟨rfl, rfl⟩; generalize kindL _ = q at *) | (at_builtin; refine wpList_app1 wr rfl _ _ 146 rfl w.heap.size 4 _ 1 Tryz.underlying146 Tryz.infoBo rfl (by decide) hown rfl _ rfl rfl HLL.out hsz ?_; intro g cap w2 hown1 hg1 hb1))
        all_goals
          go_roundw
          case rel => exact ⟨k + 1, bs ++ [_], by omega, by go_num, by rw [List.length_append, HBL.out]; rfl, by rw [List.map_append]; rw [List.length_map] at hown1; exact hown1, hbr.trans hb1⟩
          case measure => simp [intOf]; omega
    · obtain rfl : k = s.size := by omega
      clear hlt hk hbl
      go_wp2
      go_ret
      exact ⟨hbr, _, bs, rfl, HBL.out, (by rw [← HBL.out]; exact hown.bools.sub fun _ _ _ => trivial)⟩
end Go.Proofs.YtpjijbophjdgaaaGreat
namespace Go.Proofs.YtpjijbophjdgaaaGreat
open Go.RowKit Go.Deep
section
variable {P : Program} {ops : Array Oper} {rest : List Oper} {o : Oper} {a : Act} {Q : Exit → Act → World → Prop}
theorem wpList_appS (W : World) (hgd : o.guard = none) (s x : Operand) (t : TypeId) (ho : o.op = .call { callee := .builtin .append, args := #[s, x], argTypes := #[t, t] })
    (base : Nat) (e : TypeId) (z : Value) (bytes : Nat) (ht : P.underlying t = some (.slice e)) (hinfo : (P.info? e).map (fun i => (i.zero, i.size, i.bytes)) = some (some z, 1, bytes))
    (hz1 : z.cells.size = 1) (hb8 : bytes ≤ 64) {v : Value} {vs : List Value} (hown : Owns base e W v vs) (hs : a.eval s = v) (ad : Addr) (c : Nat) (news : List Value)
    (hx : a.eval x = .slice (some ad) news.length c) (hnews : ∀ j u, news[j]? = some u → W.cell? (ad.add j) = some u) (h1 : ∀ u ∈ news, u.oneCell' = true) (hn : vs.length + news.length ≤ 1000000) (hbase : base ≤ W.heap.size)
    (h : ∀ v' w', Owns base e w' v' (vs ++ news) → W.grownBy w' v.ownBlock → Below base W w' → wpList P ops Q rest (a.put o.dst v') w') :
    wpList P ops Q (o :: rest) a W := by
  obtain ⟨i, hi, hzz⟩ := Option.map_eq_some_iff.1 hinfo
  simp only [Prod.mk.injEq] at hzz
  obtain ⟨hz, hs1, hb⟩ := hzz
  refine wpList_append_own _ hgd s x t ho base e i z 1 bytes ht hi hz hs1 hb hz1 (by omega) v vs.length vs hs hown ad news.length c news hx (by omega) hnews h1
    (by unfold maxLen; omega) ?_ hbase fun v' w' h2 h3 _ => h v' w' ?_ h3 (hown.grown_below h3 hbase)
  · have : (vs.length + news.length) * bytes ≤ (vs.length + news.length) * 64 := Nat.mul_le_mul_left _ hb8
    omega
  · unfold Owns; rw [List.length_append]; exact h2
end
theorem news_ints {S : Nat → Prop} {w : World} {b off n cap : Nat} {xs : List Int} (h : IntsAt S w (.slice (some ⟨b, off, none⟩) n cap) xs) : ∀ j u, (xs.map (Value.int .i64))[j]? = some u → w.cell? ((⟨b, off, none⟩ : Addr).add j) = some u := by
  intro j u hj
  have hadd : (⟨b, off, none⟩ : Addr).add j = ⟨b, off + j, none⟩ := by unfold Addr.add; split <;> simp_all
  rw [List.getElem?_map] at hj
  obtain ⟨x, hx, rfl⟩ := Option.map_eq_some_iff.1 hj
  have hk : j < xs.length := (List.getElem?_eq_some_iff.1 hx).1
  rw [hadd, ints_get' h hk]
  simp [gi, hx]
theorem ints_ext {xs ys : List Int} (hl : xs.length = ys.length) (h : ∀ j, j < xs.length → gi xs j = gi ys j) : xs = ys := by
  refine List.ext_getElem hl fun i h1 h2 => ?_
  have := h i h1
  simpa [gi, h1, h2] using this
def EqPost (w : World) (b : Bool) (e : Ending) (w' : World) : Prop := e = .returned (.bool b) ∧ ∃ n, w' = w.drewN n
set_option maxRecDepth 100000 in
set_option maxHeartbeats 400000 in
theorem equal_int_t (S T : Nat → Prop) (w : World) (v u : Value) (xs ys : List Int) (h : IntsAt S w v xs) (h2 : IntsAt T w u ys) (hn : xs.length ≤ 1000000) (hn2 : ys.length ≤ 1000000) :
    Calls Tryz.prog 18 #[v, u] w (EqPost w (decide (xs = ys))) := by
  obtain ⟨p, cap, rfl, hcap, _⟩ := SlAt.open h
  obtain ⟨q, cap2, rfl, hcap2, _⟩ := SlAt.open h2
  have HX : Hid (IntsAt S w (.slice p xs.length cap) xs) := h
  have HY : Hid (IntsAt T w (.slice q ys.length cap2) ys) := h2
  clear h h2
  by_cases hl : xs.length = ys.length
  · have hl1 : ((xs.length : Int) != ys.length) = false := by simp [hl]
    have HL := Lib.hid hl
    clear hl
    go_enter Tryz.func18, Tryz.ntmps18
    go_wp2_with fail
    go_loopw [5, 13] (fun _ i wr => ∃ k n : Nat, k ≤ xs.length ∧ i = .int .i64 k ∧ wr = w.drewN n ∧ Hid (∀ j, j < k → gi xs j = gi ys j)) (fun _ i _ => xs.length - (intOf i).toNat)
    case atStart => exact ⟨0, 0, Nat.zero_le _, rfl, rfl, fun j hj => absurd hj (Nat.not_lt_zero _)⟩
    case round =>
      obtain ⟨k, n, hk, rfl, rfl, hd⟩ := hrel
      by_cases hlt : k < xs.length
      · have hlt2 : k < ys.length := by rw [← HL.out]; exact hlt
        obtain ⟨b, off, rfl, hc⟩ := ints_get HX.out hlt
        obtain ⟨b2, off2, rfl, hc2⟩ := ints_get HY.out hlt2
        have i1 : (0 : Int) ≤ (k : Int) := by omega
        have i2 : (k : Int) < (xs.length : Int) := by omega
        have i3 : (k : Int) < (ys.length : Int) := by omega
        generalize hx : gi xs k = x at *
        generalize hy : gi ys k = y at *
        have HXX := Lib.hid hx
        have HYY := Lib.hid hy
        clear hx hy
        by_cases hxy : x = y
        · have hxy1 : (x != y) = false := by simp [hxy]
          have HXY := Lib.hid hxy
          clear hxy
          go_wp2_with fail
          go_quiet (fail)
          go_wp2_with fail
          go_roundw
          case rel => exact ⟨k + 1, n + nq, by omega, by go_num, rfl, fun j hj => if e : j = k then by subst e; rw [HXX.out, HYY.out, HXY.out] else hd.out j (by omega)⟩
          case measure => simp [intOf]; omega
        · have hxy1 : (x != y) = true := by simpa using hxy
          have HXY := Lib.hid hxy
          clear hxy
          go_wp2_with fail
          go_quiet (fail)
          go_wp2_with fail
          go_ret
          refine ⟨ret_bool ?_, n + nq, by rw [World.drewN_drewN]⟩
          rw [eq_comm, decide_eq_false_iff_not]
          rintro rfl
          exact HXY.out (by rw [← HXX.out, ← HYY.out])
      · obtain rfl : k = xs.length := by omega
        clear hlt hk
        have hex : xs = ys := ints_ext HL.out hd.out
        have HEX : Hid (decide (xs = ys) = true) := decide_eq_true hex
        clear hex
        go_wp2_with fail
        go_ret
        exact ⟨ret_bool (by rw [HEX.out]), n, rfl⟩
  · have hl1 : ((xs.length : Int) != ys.length) = true := by simp; omega
    have HL := Lib.hid hl
    clear hl
    go_enter Tryz.func18, Tryz.ntmps18
    go_wp2_with fail
    go_ret
    refine ⟨ret_bool ?_, 0, rfl⟩
    rw [eq_comm, decide_eq_false_iff_not]
    rintro rfl
    exact HL.out rfl
end Go.Proofs.YtpjijbophjdgaaaGreat
namespace Go.Proofs.YtpjijbophjdgaaaGreat
open Go.RowKit Go.Deep
theorem Owns.set {base : Nat} {e : TypeId} {w : World} {v : Value} {vs : List Value} (h : Owns base e w v vs) {j : Nat} (hj : j < vs.length) :
    ∃ g cap, v = .slice (some ⟨g, 0, none⟩) vs.length cap ∧ base ≤ g ∧ g < w.heap.size ∧ w.cell? ⟨g, j, none⟩ = some (vs.getD j undef) ∧ w.frozen? ⟨g, j, none⟩ = false ∧ ∀ x, Owns base e (w.setCell ⟨g, j, none⟩ x) v (vs.set j x) := by
  obtain ⟨hl, h | ⟨g, cap, cur, rfl, hg, hc, hn, hcm, hcs, ht⟩⟩ := h
  · omega
  · have hgl : g < w.heap.size := (Array.getElem?_eq_some_iff.1 hc).1
    have ht1 : cur.toList.take vs.length = vs := by rw [Nat.mul_one] at ht; exact ht
    have hj2 : j < cur.size := by omega
    have hcell : cur[j]? = some (vs.getD j undef) := by
      have h1 : vs[j]? = some (vs.getD j undef) := by simp [hj]
      rw [← h1]
      have h2 := congrArg (·[j]?) ht1
      simp only [List.getElem?_take, hj, if_true] at h2
      rw [← h2]; simp
    refine ⟨g, cap, rfl, hg, hgl, by simp [World.cell?, hc, hcell], by simp [World.frozen?, hc], fun x => ⟨by simp, .inr ⟨g, cap, cur.setIfInBounds j x, by simp, hg, ?_, by simpa using hn, hcm, by simpa using hcs, ?_⟩⟩⟩
    · simp [World.setCell, Array.getElem?_modify, hc]
    · rw [List.length_set, Nat.mul_one, Array.toList_setIfInBounds, List.take_set, ht1]
theorem ownBlock_lt {base : Nat} {e : TypeId} {w : World} {v : Value} {vs : List Value} (h : Owns base e w v vs) {b : Nat} (hb : v.ownBlock = some b) : base ≤ b ∧ b < w.heap.size := World.ownsRow.lt h b hb
theorem take_gl {l : List (List Int)} {m : Nat} (h : m < l.length) : l.take (m + 1) = l.take m ++ [gl l m] := by
  rw [List.take_succ_eq_append_getElem h]; simp [gl, h]
section
variable {P : Program} {ops : Array Oper} {rest : List Oper} {o : Oper} {a : Act} {Q : Exit → Act → World → Prop}
end
end Go.Proofs.YtpjijbophjdgaaaGreat
namespace Go.Proofs.YtpjijbophjdgaaaGreat
open Go.RowKit Go.Deep
structure Frs where
  nm : Nat → ByteArray
  old : Nat → Int
  kids : Nat → List Nat
def nptr (A : Nat → Nat) (k : Nat) : Value := .pointer (some ⟨A k, 0, none⟩)
def upd {α : Type} (f : Nat → α) (k : Nat) (x : α) (i : Nat) : α := if i = k then x else f i
theorem upd_same {α : Type} (f : Nat → α) (k : Nat) (x : α) : upd f k x k = x := by simp [upd]
theorem upd_ne {α : Type} (f : Nat → α) {k i : Nat} (x : α) (h : i ≠ k) : upd f k x i = f i := by simp [upd, h]
structure FAt (base n : Nat) (A : Nat → Nat) (kv : Nat → Value) (F : Frs) (w : World) : Prop where
  node : ∀ i, i < n → w.heap[A i]? = some (.cells #[.string (F.nm i), kv i, .int .i64 (F.old i)] 115 (0, 0))
  lo : ∀ i, i < n → base ≤ A i
  inj : ∀ i j, i < n → j < n → A i = A j → i = j
  own : ∀ i, i < n → Owns base 113 w (kv i) ((F.kids i).map (nptr A))
  apart : ∀ i j, i < n → j < n → (kv i).ownBlock ≠ some (A j)
  alone : ∀ i j b, i < n → j < n → (kv i).ownBlock = some b → (kv j).ownBlock = some b → i = j
  kid : ∀ i, i < n → ∀ k ∈ F.kids i, k < n
theorem Owns.same {base : Nat} {e : TypeId} {w w' : World} {v : Value} {vs : List Value} (h : Owns base e w v vs) (k : ∀ b, v.ownBlock = some b → w'.heap[b]? = w.heap[b]?) : Owns base e w' v vs := by
  obtain ⟨hl, h | ⟨g, cap, cur, rfl, hg, hc, hr⟩⟩ := h
  · exact ⟨hl, .inl h⟩
  · exact ⟨hl, .inr ⟨g, cap, cur, rfl, hg, by rw [k g rfl]; exact hc, hr⟩⟩
theorem Owns.mono_base {base base' : Nat} {e : TypeId} {w : World} {v : Value} {vs : List Value} (h : Owns base e w v vs) (hb : base' ≤ base) : Owns base' e w v vs := by
  obtain ⟨hl, h | ⟨g, cap, cur, rfl, hg, hc, hr⟩⟩ := h
  · exact ⟨hl, .inl h⟩
  · exact ⟨hl, .inr ⟨g, cap, cur, rfl, Nat.le_trans hb hg, hc, hr⟩⟩
section
variable {base n : Nat} {A : Nat → Nat} {kv : Nat → Value} {F : Frs} {w w' : World}
theorem FAt.lt (h : FAt base n A kv F w) {i : Nat} (hi : i < n) : A i < w.heap.size := (Array.getElem?_eq_some_iff.1 (h.node i hi)).1
theorem FAt.ownlt (h : FAt base n A kv F w) {i b : Nat} (hi : i < n) (hb : (kv i).ownBlock = some b) : base ≤ b ∧ b < w.heap.size := ownBlock_lt (h.own i hi) hb
theorem FAt.name (h : FAt base n A kv F w) {i : Nat} (hi : i < n) : w.cell? ⟨A i, 0, none⟩ = some (.string (F.nm i)) := by simp [World.cell?, h.node i hi]
theorem FAt.kidv (h : FAt base n A kv F w) {i : Nat} (hi : i < n) : w.cell? ⟨A i, 1, none⟩ = some (kv i) := by simp [World.cell?, h.node i hi]
theorem FAt.oldc (h : FAt base n A kv F w) {i : Nat} (hi : i < n) : w.cell? ⟨A i, 2, none⟩ = some (.int .i64 (F.old i)) := by simp [World.cell?, h.node i hi]
theorem FAt.thaw (h : FAt base n A kv F w) {i : Nat} (hi : i < n) (o : Nat) : w.frozen? ⟨A i, o, none⟩ = false := by simp [World.frozen?, h.node i hi]
theorem FAt.same (h : FAt base n A kv F w) (ha : ∀ i, i < n → w'.heap[A i]? = w.heap[A i]?) (hk : ∀ i b, i < n → (kv i).ownBlock = some b → w'.heap[b]? = w.heap[b]?) : FAt base n A kv F w' :=
  ⟨fun i hi => by rw [ha i hi]; exact h.node i hi, h.lo, h.inj, fun i hi => (h.own i hi).same fun b hb => hk i b hi hb, h.apart, h.alone, h.kid⟩
theorem FAt.kept (h : FAt base n A kv F w) (k : ∀ b, base ≤ b → b < w.heap.size → w'.heap[b]? = w.heap[b]?) : FAt base n A kv F w' :=
  h.same (fun i hi => k _ (h.lo i hi) (h.lt hi)) (fun _ _ hi hb => k _ (h.ownlt hi hb).1 (h.ownlt hi hb).2)
theorem FAt.up (h : FAt base n A kv F w) (k : Up w w') : FAt base n A kv F w' := h.kept fun b _ hb => Below.block k b hb
theorem FAt.put (h : FAt base n A kv F w) {k : Nat} (hk : k < n) {v : Value} {ks : List Nat}
    (ha : ∀ i, i < n → i ≠ k → w'.heap[A i]? = w.heap[A i]?) (hn : w'.heap[A k]? = some (.cells #[.string (F.nm k), v, .int .i64 (F.old k)] 115 (0, 0)))
    (hv : Owns base 113 w' v (ks.map (nptr A))) (ho : ∀ i b, i < n → i ≠ k → (kv i).ownBlock = some b → w'.heap[b]? = w.heap[b]?)
    (hb : ∀ b, v.ownBlock = some b → (kv k).ownBlock = some b ∨ w.heap.size ≤ b) (hks : ∀ j ∈ ks, j < n) : FAt base n A (upd kv k v) { F with kids := upd F.kids k ks } w' := by
  refine ⟨fun i hi => ?_, h.lo, h.inj, fun i hi => ?_, fun i j hi hj => ?_, fun i j b hi hj h1 h2 => ?_, fun i hi => ?_⟩
  · by_cases e : i = k
    · subst e; rw [upd_same]; exact hn
    · rw [upd_ne _ _ e, ha i hi e]; exact h.node i hi
  · by_cases e : i = k
    · subst e; simp only [upd_same]; exact hv
    · simp only [upd_ne _ _ e]; exact (h.own i hi).same fun b hb => ho i b hi e hb
  · by_cases e : i = k
    · subst e; rw [upd_same]; intro h3
      rcases hb _ h3 with h4 | h4
      · exact h.apart i j hi hj h4
      · exact absurd (h.lt hj) (by omega)
    · rw [upd_ne _ _ e]; exact h.apart i j hi hj
  · by_cases e1 : i = k
    · by_cases e2 : j = k
      · rw [e1, e2]
      · subst e1
        rw [upd_same] at h1
        rw [upd_ne _ _ e2] at h2
        rcases hb _ h1 with h4 | h4
        · exact h.alone i j b hi hj h4 h2
        · exact absurd (h.ownlt hj h2).2 (by omega)
    · by_cases e2 : j = k
      · subst e2
        rw [upd_same] at h2
        rw [upd_ne _ _ e1] at h1
        rcases hb _ h2 with h4 | h4
        · exact h.alone i j b hi hj h1 h4
        · exact absurd (h.ownlt hi h1).2 (by omega)
      · rw [upd_ne _ _ e1] at h1
        rw [upd_ne _ _ e2] at h2
        exact h.alone i j b hi hj h1 h2
  · by_cases e : i = k
    · subst e; simp only [upd_same]; exact hks
    · simp only [upd_ne _ _ e]; exact h.kid i hi
theorem FAt.node_new (h : FAt base n A kv F w) (hb : base ≤ w.heap.size) (nm : ByteArray) (old : Int) :
    FAt base (n + 1) (upd A n w.heap.size) (upd kv n (.slice none 0 0)) ⟨upd F.nm n nm, upd F.old n old, upd F.kids n []⟩ (w.alloc (.cells #[.string nm, .slice none 0 0, .int .i64 old] 115)) := by
  have hne : ∀ i, i < n → i ≠ n := fun i hi => by omega
  have hmap : ∀ i, i < n → (F.kids i).map (nptr (upd A n w.heap.size)) = (F.kids i).map (nptr A) := fun i hi => by
    refine List.map_congr_left fun k hk => ?_
    unfold nptr; rw [upd_ne _ _ (hne k (h.kid i hi k hk))]
  have hcase : ∀ i, i < n + 1 → i < n ∨ i = n := fun i hi => by omega
  refine ⟨fun i hi => ?_, fun i hi => ?_, fun i j hi hj e => ?_, fun i hi => ?_, fun i j hi hj => ?_, fun i j b hi hj h1 h2 => ?_, fun i hi => ?_⟩
  · rcases hcase i hi with hi | rfl
    · simp only [upd_ne _ _ (hne i hi)]; rw [blk_alloc_lt _ _ _ (h.lt hi)]; exact h.node i hi
    · simp only [upd_same]; exact blk_alloc_new _ _
  · rcases hcase i hi with hi | rfl
    · rw [upd_ne _ _ (hne i hi)]; exact h.lo i hi
    · rw [upd_same]; exact hb
  · rcases hcase i hi with hi | rfl <;> rcases hcase j hj with hj | rfl
    · rw [upd_ne _ _ (hne i hi), upd_ne _ _ (hne j hj)] at e; exact h.inj i j hi hj e
    · rw [upd_ne _ _ (hne i hi), upd_same] at e; have := h.lt hi; omega
    · rw [upd_same, upd_ne _ _ (hne j hj)] at e; have := h.lt hj; omega
    · rfl
  · rcases hcase i hi with hi | rfl
    · simp only [upd_ne _ _ (hne i hi)]; rw [hmap i hi]; exact (h.own i hi).alloc _
    · simp only [upd_same]; exact Owns.nil _ _ _
  · rcases hcase i hi with hi | rfl
    · rw [upd_ne _ _ (hne i hi)]
      rcases hcase j hj with hj | rfl
      · rw [upd_ne _ _ (hne j hj)]; exact h.apart i j hi hj
      · rw [upd_same]; intro e; have := (h.ownlt hi e).2; omega
    · rw [upd_same]; intro e; cases e
  · rcases hcase i hi with hi | rfl <;> rcases hcase j hj with hj | rfl
    · rw [upd_ne _ _ (hne i hi)] at h1; rw [upd_ne _ _ (hne j hj)] at h2; exact h.alone i j b hi hj h1 h2
    · rw [upd_same] at h2; cases h2
    · rw [upd_same] at h1; cases h1
    · rfl
  · rcases hcase i hi with hi | rfl
    · simp only [upd_ne _ _ (hne i hi)]; intro k hk; have := h.kid i hi k hk; omega
    · simp only [upd_same]; intro k hk; cases hk
theorem FAt.empty (base : Nat) (A : Nat → Nat) (kv : Nat → Value) (F : Frs) (w : World) : FAt base 0 A kv F w :=
  ⟨fun _ h => absurd h (Nat.not_lt_zero _), fun _ h => absurd h (Nat.not_lt_zero _), fun _ _ h => absurd h (Nat.not_lt_zero _), fun _ h => absurd h (Nat.not_lt_zero _), fun _ _ h => absurd h (Nat.not_lt_zero _), fun _ _ _ h => absurd h (Nat.not_lt_zero _), fun _ h => absurd h (Nat.not_lt_zero _)⟩
theorem FAt.push (h : FAt base n A kv F w) {k c : Nat} (hk : k < n) (hc : c < n) {v : Value} (hv : Owns base 113 w' v ((F.kids k ++ [c]).map (nptr A))) (hg : w.grownBy w' (kv k).ownBlock)
    (hb : ∀ b, v.ownBlock = some b → (kv k).ownBlock = some b ∨ w.heap.size ≤ b) : FAt base n A (upd kv k v) { F with kids := upd F.kids k (F.kids k ++ [c]) } (w'.setCell ⟨A k, 1, none⟩ v) := by
  have hold : ∀ i, i < n → w'.heap[A i]? = w.heap[A i]? := fun i hi => hg.block (A i) (h.lt hi) (fun e => h.apart k i hk hi e.symm)
  have hnA : ∀ b, v.ownBlock = some b → b ≠ A k := fun b hv2 e => by
    rcases hb b hv2 with h4 | h4
    · exact h.apart k k hk hk (by rw [h4, e])
    · have := h.lt hk; omega
  refine h.put hk (fun i hi e => ?_) ?_ (hv.same fun b hv2 => blk_setCell_other _ _ _ _ (hnA b hv2)) (fun i b hi e hb2 => ?_) hb ?_
  · rw [blk_setCell_other _ _ _ _ (fun e2 => e (h.inj i k hi hk e2))]; exact hold i hi
  · have hn := hold k hk
    rw [h.node k hk] at hn
    simp [World.setCell, Array.getElem?_modify, hn]
  · have hne : b ≠ A k := fun e2 => h.apart i k hi hk (by rw [hb2, e2])
    rw [blk_setCell_other _ _ _ _ hne]
    exact hg.block b (h.ownlt hi hb2).2 (fun e2 => e (h.alone i k b hi hk hb2 e2.symm))
  · intro j hj
    rcases List.mem_append.1 hj with h1 | h1
    · exact h.kid k hk j h1
    · have : j = c := by simpa using h1
      omega
end
end Go.Proofs.YtpjijbophjdgaaaGreat
