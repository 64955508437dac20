/- Names, as layer 1's and layer 31's references have them: IsName, named. The contracts of .. -/
import Derived.Test.YteegefnjnikngaaGreatQ1
import Derived.Test.YteegefnjnikngaaGreatQ6
import Derived.Lib.Bytealg
import Derived.Sort.Statements
set_option maxRecDepth 100000
namespace Go.Proofs.YteegefnjnikngaaGreat
section
open Go.RowKit Go.Deep
def SD (w : World) (n : Nat) (e : Ending) (w' : World) : Prop := Below w.heap.size w w' ∧ ∃ v, ∃ bs : List Bool, e = .returned v ∧ bs.length = n ∧ aA Any w' v n (fun k => .bool (gb bs k))
theorem az.bools {base : Nat} {e : TypeId} {w : World} {v : Value} {xs : List Bool} (h : az base e w v (xs.map Value.bool)) : aA (fun b => base ≤ b) w v xs.length (fun k => .bool (gb xs k)) := by
 have := h.xk
 rw [List.length_map] at this
 exact this.congr fun k hk => by simp [gb, hk]
theorem aA.SE {S : Nat → Prop} {w : World} {b n cap : Nat} {f : Nat → Value} {o : Nat} (h : aA S w (.slice (some ⟨b, o, none⟩) n cap) n f) {k : Nat} (hk : k < n) : w.cell? ⟨b, o + k, none⟩ = some (f k) := by
 obtain ⟨p, c, e, _, H⟩ := h.open
 cases e
 obtain ⟨b', o', e', hc⟩ := H k hk
 cases e'
 exact hc
theorem az.form {base : Nat} {e : TypeId} {w : World} {v : Value} {vs : List Value} {n : Nat} (h : az base e w v vs) (hn : vs.length = n) : ∃ p cap, v = .slice p n cap ∧ (p = none ∨ ∃ g, p = some ⟨g, 0, none⟩) := by
 subst hn
 rcases h.2 with ⟨rfl, h0⟩ | ⟨g, cap, cur, rfl, _⟩
 ·exact ⟨none, 0, by rw [h0], .inl rfl⟩
 ·exact ⟨_, cap, rfl, .inr ⟨g, rfl⟩⟩
theorem az.made (w : World) (e : TypeId) : az w.heap.size e (w.alloc (.cells #[] e)) (.slice (some ⟨w.heap.size, 0, none⟩) 0 0) [] := World.ownsRow_made w #[] 0 (Nat.le_refl _) (by unfold maxLen; omega) (by simp)
set_option maxHeartbeats 400000 in
theorem QK (s : ByteArray) (hs : s.size ≤ 1000) (w : World) : Calls Tryz.prog 287 #[.string s] w (SD w s.size) := by
 go_enter Tryz.func287, Tryz.ntmps287
 go_wp2
 go_loopw [3, 4] (fun v i wr => ∃ k : Nat, ∃ bs : List Bool, k ≤ s.size ∧ i = .int .i64 k ∧ bs.length = k ∧ az w.heap.size 4 wr v (bs.map .bool) ∧ Below w.heap.size w wr) (fun _ i _ => s.size - (intOf i).toNat)
 case atStart => exact ⟨0, [], Nat.zero_le _, rfl, rfl, az.made _ _, (Below.refl _ _).alloc (Nat.le_refl _) _⟩
 case round =>
  obtain ⟨k, bs, hk, rfl, hbl, hown, hbr⟩ := hrel
  have hsz := hbr.size
  have uj := aa hbl
  by_cases hlt : k < s.size
  ·have dN : Hid ((bs.map Value.bool).length ≤ 1000000) := by unfold Hid; rw [List.length_map]; omega
   clear hbl
   rcases Nat.eq_zero_or_pos k with rfl | qd
   ·go_wp2_with (first | (go_at_call 263; refine (nY _ (UInt8.toNat_lt _) _).mono ?_; rintro e w' ⟨rfl, rfl⟩; generalize cm _ = q at *) | (at_builtin; refine jT wr rfl _ _ 119 rfl w.heap.size 4 _ 1 Tryz.underlying119 Tryz.J4 rfl (by decide) hown rfl _ rfl rfl dN.out hsz ?_; intro g cap w2 hown1 hg1 hb1))
    all_goals
     go_roundw
     case rel => exact ⟨1, bs ++ [_], by omega, by go_num, by rw [List.length_append, uj.out]; rfl, by rw [List.map_append]; rw [List.length_map] at hown1; exact hown1, hbr.trans hb1⟩
     case measure => simp [intOf]; omega
   ·have fu := hown.bools
    obtain ⟨p, cap, rfl, hp⟩ := hown.form (n := k) (by rw [List.length_map]; exact uj.out)
    rw [uj.out] at fu
    obtain ⟨p', cap', e', hcap', H⟩ := fu.open
    cases e'
    obtain ⟨b, off, rfl, hc⟩ := H (k - 1) (by have := uj.out; omega)
    clear H fu hp
    go_wp2_with (first | (go_at_call 263; refine (nY _ (UInt8.toNat_lt _) _).mono ?_; rintro e w' ⟨rfl, rfl⟩; generalize cm _ = q at *) | (at_builtin; refine jT wr rfl _ _ 119 rfl w.heap.size 4 _ 1 Tryz.underlying119 Tryz.J4 rfl (by decide) hown rfl _ rfl rfl dN.out hsz ?_; intro g cap w2 hown1 hg1 hb1))
    all_goals
     go_roundw
     case rel => exact ⟨k + 1, bs ++ [_], by omega, by go_num, by rw [List.length_append, uj.out]; rfl, by rw [List.map_append]; rw [List.length_map] at hown1; exact hown1, hbr.trans hb1⟩
     case measure => simp [intOf]; omega
  ·obtain rfl : k = s.size := by omega
   clear hlt hk hbl
   go_wp2
   go_ret
   exact ⟨hbr, _, bs, rfl, uj.out, (by rw [← uj.out]; exact hown.bools.sub fun _ _ _ => trivial)⟩
end
section
open Go.RowKit Go.Deep
section
variable {P : Program} {ops : Array Oper} {rest : List Oper} {o : Oper} {a : Act} {Q : Exit → Act → World → Prop}
end
end
section
open Go.RowKit Go.Deep
theorem az.set {base : Nat} {e : TypeId} {w : World} {v : Value} {vs : List Value} (h : az base e w v vs) {j : Nat} (hj : j < vs.length) :
  ∃ g cap, v = .slice (some ⟨g, 0, none⟩) vs.length cap ∧ base ≤ g ∧ g < w.heap.size ∧ w.cell? ⟨g, j, none⟩ = some (vs.getD j undef) ∧ w.frozen? ⟨g, j, none⟩ = false ∧ ∀ x, az base e (w.setCell ⟨g, j, none⟩ x) v (vs.set j x) := by
 obtain ⟨hl, h | ⟨g, cap, cur, rfl, hg, hc, hn, hcm, hcs, ht⟩⟩ := h
 ·omega
 ·have wD : g < w.heap.size := (Array.getElem?_eq_some_iff.1 hc).1
  have ht1 : cur.toList.take vs.length = vs := by rw [Nat.mul_one] at ht; exact ht
  have hj2 : j < cur.size := by omega
  have hcell : cur[j]? = some (vs.getD j undef) := by
   have h1 : vs[j]? = some (vs.getD j undef) := by simp [hj]
   rw [← h1]
   have h2 := congrArg (·[j]?) ht1
   simp only [List.getElem?_take, hj, if_true] at h2
   rw [← h2]; simp
  refine ⟨g, cap, rfl, hg, wD, by simp [World.cell?, hc, hcell], by simp [World.frozen?, hc], fun x => ⟨by simp, .inr ⟨g, cap, cur.setIfInBounds j x, by simp, hg, ?_, by simpa using hn, hcm, by simpa using hcs, ?_⟩⟩⟩
  ·simp [World.setCell, Array.getElem?_modify, hc]
  ·rw [List.length_set, Nat.mul_one, Array.toList_setIfInBounds, List.take_set, ht1]
theorem aD {base : Nat} {e : TypeId} {w : World} {v : Value} {vs : List Value} (h : az base e w v vs) {b : Nat} (hb : v.ownBlock = some b) : base ≤ b ∧ b < w.heap.size := World.ownsRow.lt h b hb
theorem QL {l : List Int} {m : Nat} (h : m < l.length) : l.take (m + 1) = l.take m ++ [gi l m] := by
 rw [List.take_succ_eq_append_getElem h]; simp [gi, h]
section
variable {P : Program} {ops : Array Oper} {rest : List Oper} {o : Oper} {a : Act} {Q : Exit → Act → World → Prop}
theorem qN (W : World) (hgd : o.guard = none) (s x : Operand) (t : TypeId) (ho : o.op = .call { callee := .builtin .append, args := #[s, x], argTypes := #[t, t] })
  (base : Nat) (e : TypeId) (z : Value) (bytes : Nat) (ht : P.underlying t = some (.slice e)) (hinfo : (P.info? e).map (fun i => (i.zero, i.size, i.bytes)) = some (some z, 1, bytes))
  (hz1 : z.cells.size = 1) (kY : bytes ≤ 64) {v : Value} {vs : List Value} (hown : az base e W v vs) (hs : a.eval s = v) (u : Value)
  (hx : a.eval x = .slice (some ⟨W.heap.size, 0, none⟩) 1 1) (h1 : u.oneCell' = true) (n : Nat) (wE : vs.length = n) (hn : n ≤ 1000000) (hbase : base ≤ W.heap.size)
  (h : ∀ g cap w', az base e w' (.slice (some ⟨g, 0, none⟩) (n + 1) cap) (vs ++ [u]) → W.grownBy w' v.ownBlock → Below base W w' → wpList P ops Q rest (a.put o.dst (.slice (some ⟨g, 0, none⟩) (n + 1) cap)) w') :
  wpList P ops Q (o :: rest) a (W.alloc (.cells #[u] e)) := by
 subst wE
 exact jT W hgd s x t ho base e z bytes ht hinfo hz1 kY hown hs u hx h1 hn hbase h
end
end
section
open Go.RowKit Go.Deep
structure aL where
 nm : Nat → ByteArray
 old : Nat → Int
 kids : Nat → List Nat
def aT (A : Nat → Nat) (k : Nat) : Value := .pointer (some ⟨A k, 0, none⟩)
def upd {α : Type} (f : Nat → α) (k : Nat) (x : α) (i : Nat) : α := if i = k then x else f i
theorem upd_same {α : Type} (f : Nat → α) (k : Nat) (x : α) : upd f k x k = x := by simp [upd]
theorem upd_ne {α : Type} (f : Nat → α) {k i : Nat} (x : α) (h : i ≠ k) : upd f k x i = f i := by simp [upd, h]
structure aR (base n : Nat) (A : Nat → Nat) (kv : Nat → Value) (F : aL) (w : World) : Prop where
 node : ∀ i, i < n → w.heap[A i]? = some (.cells #[.string (F.nm i), kv i, .int .i64 (F.old i)] 127 (0, 0))
 lo : ∀ i, i < n → base ≤ A i
 inj : ∀ i j, i < n → j < n → A i = A j → i = j
 own : ∀ i, i < n → az base 124 w (kv i) ((F.kids i).map (aT A))
 apart : ∀ i j, i < n → j < n → (kv i).ownBlock ≠ some (A j)
 alone : ∀ i j b, i < n → j < n → (kv i).ownBlock = some b → (kv j).ownBlock = some b → i = j
 kid : ∀ i, i < n → ∀ k ∈ F.kids i, k < n
theorem az.same {base : Nat} {e : TypeId} {w w' : World} {v : Value} {vs : List Value} (h : az base e w v vs) (k : ∀ b, v.ownBlock = some b → w'.heap[b]? = w.heap[b]?) : az base e w' v vs := by
 obtain ⟨hl, h | ⟨g, cap, cur, rfl, hg, hc, hr⟩⟩ := h
 ·exact ⟨hl, .inl h⟩
 ·exact ⟨hl, .inr ⟨g, cap, cur, rfl, hg, by rw [k g rfl]; exact hc, hr⟩⟩
theorem az.uk {base base' : Nat} {e : TypeId} {w : World} {v : Value} {vs : List Value} (h : az base e w v vs) (hb : base' ≤ base) : az base' e w v vs := by
 obtain ⟨hl, h | ⟨g, cap, cur, rfl, hg, hc, hr⟩⟩ := h
 ·exact ⟨hl, .inl h⟩
 ·exact ⟨hl, .inr ⟨g, cap, cur, rfl, Nat.le_trans hb hg, hc, hr⟩⟩
section
variable {base n : Nat} {A : Nat → Nat} {kv : Nat → Value} {F : aL} {w w' : World}
theorem aR.lt (h : aR base n A kv F w) {i : Nat} (hi : i < n) : A i < w.heap.size := (Array.getElem?_eq_some_iff.1 (h.node i hi)).1
theorem aR.eT (h : aR base n A kv F w) {i b : Nat} (hi : i < n) (hb : (kv i).ownBlock = some b) : base ≤ b ∧ b < w.heap.size := aD (h.own i hi) hb
theorem aR.name (h : aR base n A kv F w) {i : Nat} (hi : i < n) : w.cell? ⟨A i, 0, none⟩ = some (.string (F.nm i)) := by simp [World.cell?, h.node i hi]
theorem aR.nt (h : aR base n A kv F w) {i : Nat} (hi : i < n) : w.cell? ⟨A i, 1, none⟩ = some (kv i) := by simp [World.cell?, h.node i hi]
theorem aR.thaw (h : aR base n A kv F w) {i : Nat} (hi : i < n) (o : Nat) : w.frozen? ⟨A i, o, none⟩ = false := by simp [World.frozen?, h.node i hi]
theorem aR.same (h : aR base n A kv F w) (ha : ∀ i, i < n → w'.heap[A i]? = w.heap[A i]?) (hk : ∀ i b, i < n → (kv i).ownBlock = some b → w'.heap[b]? = w.heap[b]?) : aR base n A kv F w' :=
 ⟨fun i hi => by rw [ha i hi]; exact h.node i hi, h.lo, h.inj, fun i hi => (h.own i hi).same fun b hb => hk i b hi hb, h.apart, h.alone, h.kid⟩
theorem aR.kept (h : aR base n A kv F w) (k : ∀ b, base ≤ b → b < w.heap.size → w'.heap[b]? = w.heap[b]?) : aR base n A kv F w' :=
 h.same (fun i hi => k _ (h.lo i hi) (h.lt hi)) (fun _ _ hi hb => k _ (h.eT hi hb).1 (h.eT hi hb).2)
theorem aR.up (h : aR base n A kv F w) (k : Up w w') : aR base n A kv F w' := h.kept fun b _ hb => Below.block k b hb
theorem aR.put (h : aR base n A kv F w) {k : Nat} (hk : k < n) {v : Value} {ks : List Nat}
  (ha : ∀ i, i < n → i ≠ k → w'.heap[A i]? = w.heap[A i]?) (hn : w'.heap[A k]? = some (.cells #[.string (F.nm k), v, .int .i64 (F.old k)] 127 (0, 0)))
  (hv : az base 124 w' v (ks.map (aT A))) (ho : ∀ i b, i < n → i ≠ k → (kv i).ownBlock = some b → w'.heap[b]? = w.heap[b]?)
  (hb : ∀ b, v.ownBlock = some b → (kv k).ownBlock = some b ∨ w.heap.size ≤ b) (hks : ∀ j ∈ ks, j < n) : aR base n A (upd kv k v) { F with kids := upd F.kids k ks } w' := by
 refine ⟨fun i hi => ?_, h.lo, h.inj, fun i hi => ?_, fun i j hi hj => ?_, fun i j b hi hj h1 h2 => ?_, fun i hi => ?_⟩
 ·by_cases e : i = k
  ·subst e; rw [upd_same]; exact hn
  ·rw [upd_ne _ _ e, ha i hi e]; exact h.node i hi
 ·by_cases e : i = k
  ·subst e; simp only [upd_same]; exact hv
  ·simp only [upd_ne _ _ e]; exact (h.own i hi).same fun b hb => ho i b hi e hb
 ·by_cases e : i = k
  ·subst e; rw [upd_same]; intro h3
   rcases hb _ h3 with h4 | h4
   ·exact h.apart i j hi hj h4
   ·exact absurd (h.lt hj) (by omega)
  ·rw [upd_ne _ _ e]; exact h.apart i j hi hj
 ·by_cases e1 : i = k
  ·by_cases e2 : j = k
   ·rw [e1, e2]
   ·subst e1
    rw [upd_same] at h1
    rw [upd_ne _ _ e2] at h2
    rcases hb _ h1 with h4 | h4
    ·exact h.alone i j b hi hj h4 h2
    ·exact absurd (h.eT hj h2).2 (by omega)
  ·by_cases e2 : j = k
   ·subst e2
    rw [upd_same] at h2
    rw [upd_ne _ _ e1] at h1
    rcases hb _ h2 with h4 | h4
    ·exact h.alone i j b hi hj h1 h4
    ·exact absurd (h.eT hi h1).2 (by omega)
   ·rw [upd_ne _ _ e1] at h1
    rw [upd_ne _ _ e2] at h2
    exact h.alone i j b hi hj h1 h2
 ·by_cases e : i = k
  ·subst e; simp only [upd_same]; exact hks
  ·simp only [upd_ne _ _ e]; exact h.kid i hi
theorem aR.xw (h : aR base n A kv F w) (hb : base ≤ w.heap.size) (nm : ByteArray) (old : Int) :
  aR base (n + 1) (upd A n w.heap.size) (upd kv n (.slice none 0 0)) ⟨upd F.nm n nm, upd F.old n old, upd F.kids n []⟩ (w.alloc (.cells #[.string nm, .slice none 0 0, .int .i64 old] 127)) := by
 have hne : ∀ i, i < n → i ≠ n := fun i hi => by omega
 have hmap : ∀ i, i < n → (F.kids i).map (aT (upd A n w.heap.size)) = (F.kids i).map (aT A) := fun i hi => by
  refine List.map_congr_left fun k hk => ?_
  unfold aT; rw [upd_ne _ _ (hne k (h.kid i hi k hk))]
 have j8 : ∀ i, i < n + 1 → i < n ∨ i = n := fun i hi => by omega
 refine ⟨fun i hi => ?_, fun i hi => ?_, fun i j hi hj e => ?_, fun i hi => ?_, fun i j hi hj => ?_, fun i j b hi hj h1 h2 => ?_, fun i hi => ?_⟩
 ·rcases j8 i hi with hi | rfl
  ·simp only [upd_ne _ _ (hne i hi)]; rw [blk_alloc_lt _ _ _ (h.lt hi)]; exact h.node i hi
  ·simp only [upd_same]; exact blk_alloc_new _ _
 ·rcases j8 i hi with hi | rfl
  ·rw [upd_ne _ _ (hne i hi)]; exact h.lo i hi
  ·rw [upd_same]; exact hb
 ·rcases j8 i hi with hi | rfl <;> rcases j8 j hj with hj | rfl
  ·rw [upd_ne _ _ (hne i hi), upd_ne _ _ (hne j hj)] at e; exact h.inj i j hi hj e
  ·rw [upd_ne _ _ (hne i hi), upd_same] at e; have := h.lt hi; omega
  ·rw [upd_same, upd_ne _ _ (hne j hj)] at e; have := h.lt hj; omega
  ·rfl
 ·rcases j8 i hi with hi | rfl
  ·simp only [upd_ne _ _ (hne i hi)]; rw [hmap i hi]; exact (h.own i hi).alloc _
  ·simp only [upd_same]; exact az.nil _ _ _
 ·rcases j8 i hi with hi | rfl
  ·rw [upd_ne _ _ (hne i hi)]
   rcases j8 j hj with hj | rfl
   ·rw [upd_ne _ _ (hne j hj)]; exact h.apart i j hi hj
   ·rw [upd_same]; intro e; have := (h.eT hi e).2; omega
  ·rw [upd_same]; intro e; cases e
 ·rcases j8 i hi with hi | rfl <;> rcases j8 j hj with hj | rfl
  ·rw [upd_ne _ _ (hne i hi)] at h1; rw [upd_ne _ _ (hne j hj)] at h2; exact h.alone i j b hi hj h1 h2
  ·rw [upd_same] at h2; cases h2
  ·rw [upd_same] at h1; cases h1
  ·rfl
 ·rcases j8 i hi with hi | rfl
  ·simp only [upd_ne _ _ (hne i hi)]; intro k hk; have := h.kid i hi k hk; omega
  ·simp only [upd_same]; intro k hk; cases hk
theorem aR.empty (base : Nat) (A : Nat → Nat) (kv : Nat → Value) (F : aL) (w : World) : aR base 0 A kv F w :=
 ⟨fun _ h => absurd h (Nat.not_lt_zero _), fun _ h => absurd h (Nat.not_lt_zero _), fun _ _ h => absurd h (Nat.not_lt_zero _), fun _ h => absurd h (Nat.not_lt_zero _), fun _ _ h => absurd h (Nat.not_lt_zero _), fun _ _ _ h => absurd h (Nat.not_lt_zero _), fun _ h => absurd h (Nat.not_lt_zero _)⟩
theorem aR.push (h : aR base n A kv F w) {k c : Nat} (hk : k < n) (hc : c < n) {v : Value} (hv : az base 124 w' v ((F.kids k ++ [c]).map (aT A))) (hg : w.grownBy w' (kv k).ownBlock)
  (hb : ∀ b, v.ownBlock = some b → (kv k).ownBlock = some b ∨ w.heap.size ≤ b) : aR base n A (upd kv k v) { F with kids := upd F.kids k (F.kids k ++ [c]) } (w'.setCell ⟨A k, 1, none⟩ v) := by
 have hold : ∀ i, i < n → w'.heap[A i]? = w.heap[A i]? := fun i hi => hg.block (A i) (h.lt hi) (fun e => h.apart k i hk hi e.symm)
 have hnA : ∀ b, v.ownBlock = some b → b ≠ A k := fun b hv2 e => by
  rcases hb b hv2 with h4 | h4
  ·exact h.apart k k hk hk (by rw [h4, e])
  ·have := h.lt hk; omega
 refine h.put hk (fun i hi e => ?_) ?_ (hv.same fun b hv2 => blk_setCell_other _ _ _ _ (hnA b hv2)) (fun i b hi e hb2 => ?_) hb ?_
 ·rw [blk_setCell_other _ _ _ _ (fun e2 => e (h.inj i k hi hk e2))]; exact hold i hi
 ·have hn := hold k hk
  rw [h.node k hk] at hn
  simp [World.setCell, Array.getElem?_modify, hn]
 ·have hne : b ≠ A k := fun e2 => h.apart i k hi hk (by rw [hb2, e2])
  rw [blk_setCell_other _ _ _ _ hne]
  exact hg.block b (h.eT hi hb2).2 (fun e2 => e (h.alone i k b hi hk hb2 e2.symm))
 ·intro j hj
  rcases List.mem_append.1 hj with h1 | h1
  ·exact h.kid k hk j h1
  ·have : j = c := by simpa using h1
   omega
end
end
section
open Go.Sort
theorem kj : ∀ a b : List UInt8, Lib.compareBytes b a = - Lib.compareBytes a b
 | [], [] => rfl
 | [], _ :: _ => rfl
 | _ :: _, [] => rfl
 | a :: u, b :: v => by
  unfold Lib.compareBytes
  by_cases h1 : a < b
  ·have h2 : ¬ b < a := by rw [UInt8.lt_iff_toNat_lt] at *; omega
   simp [h1, h2]
  ·by_cases h2 : b < a
   ·simp [h1, h2]
   ·simp only [h1, h2, if_false]; exact kj u v
theorem l5 : ∀ {a b : List UInt8}, Lib.compareBytes a b = 0 → a = b
 | [], [], _ => rfl
 | [], _ :: _, h => by cases h
 | _ :: _, [], h => by cases h
 | a :: u, b :: v, h => by
  unfold Lib.compareBytes at h
  split at h
  ·cases h
  ·split at h
   ·cases h
   ·rename_i h1 h2
    have e : a = b := by
     apply UInt8.toNat.inj
     rw [UInt8.lt_iff_toNat_lt] at h1 h2; omega
    rw [e, l5 h]
theorem si (a : List UInt8) : Lib.compareBytes a a = 0 := by have := kj a a; omega
theorem qf : ∀ {a b c : List UInt8}, Lib.compareBytes a b < 0 → Lib.compareBytes b c < 0 → Lib.compareBytes a c < 0
 | [], [], _, h, _ => by cases h
 | [], _ :: _, [], _, h => by cases h
 | [], _ :: _, _ :: _, _, _ => Int.negSucc_lt_zero 0
 | _ :: _, [], _, h, _ => by cases h
 | _ :: _, _ :: _, [], _, h => by cases h
 | a :: u, b :: v, c :: x, h, h' => by
  unfold Lib.compareBytes at *
  by_cases h1 : a < b
  ·by_cases h2 : b < c
   ·have h3 : a < c := by rw [UInt8.lt_iff_toNat_lt] at *; omega
    rw [if_pos h3]; decide
   ·rw [if_neg h2] at h'
    by_cases h3 : c < b
    ·rw [if_pos h3] at h'; cases h'
    ·have h4 : a < c := by rw [UInt8.lt_iff_toNat_lt] at *; omega
     rw [if_pos h4]; decide
  ·rw [if_neg h1] at h
   by_cases h2 : b < a
   ·rw [if_pos h2] at h; cases h
   ·rw [if_neg h2] at h
    have e : a = b := by
     apply UInt8.toNat.inj
     rw [UInt8.lt_iff_toNat_lt] at h1 h2; omega
    subst e
    by_cases h3 : a < c
    ·rw [if_pos h3]; decide
    ·rw [if_neg h3] at h' ⊢
     by_cases h4 : c < a
     ·rw [if_pos h4] at h'; cases h'
     ·rw [if_neg h4] at h' ⊢; exact qf h h'
def bK (a b : ByteArray) : Int := Lib.compareBytes a.data.toList b.data.toList
theorem eZ (a b : ByteArray) : bK b a = - bK a b := kj _ _
theorem e9 {a b : ByteArray} (h : bK a b = 0) : a = b := dH (l5 h)
theorem nN {a b c : ByteArray} (h : bK a b < 0) (h' : bK b c < 0) : bK a c < 0 := qf h h'
theorem AD (a : ByteArray) : bK a a = 0 := si _
def kH (f : Nat → ByteArray) (x y : Nat) : Bool := decide (bK (f x) (f y) ≤ 0)
def bT (f : Nat → ByteArray) (l : List Nat) : List Nat := l.mergeSort (kH f)
theorem AE (f : Nat → ByteArray) (a b c : Nat) (h : kH f a b = true) (h' : kH f b c = true) : kH f a c = true := by
 unfold kH at *
 simp only [decide_eq_true_eq] at *
 by_cases h1 : bK (f a) (f b) = 0
 ·rw [e9 h1]; exact h'
 ·by_cases h2 : bK (f b) (f c) = 0
  ·rw [← e9 h2]; exact h
  ·have := nN (a := f a) (b := f b) (c := f c) (by omega) (by omega); omega
theorem AG (f : Nat → ByteArray) (a b : Nat) : (kH f a b || kH f b a) = true := by
 unfold kH
 have := eZ (f a) (f b)
 simp only [Bool.or_eq_true, decide_eq_true_eq]; omega
theorem cU (f : Nat → ByteArray) (l : List Nat) : (bT f l).Perm l := List.mergeSort_perm _ _
theorem oG (f : Nat → ByteArray) (l : List Nat) : (bT f l).Pairwise (fun a b => kH f a b = true) := List.pairwise_mergeSort (AE f) (AG f) l
theorem wF {f g : Nat → ByteArray} {l : List Nat} (h : ∀ x ∈ l, f x = g x) : bT f l = bT g l := by
 have := List.map_mergeSort (f := id) (r := kH f) (s := kH g) (l := l) (fun a ha b hb => by simp only [kH, id]; rw [h a ha, h b hb])
 simpa [bT] using this
def Sep (f : Nat → ByteArray) (l : List Nat) : Prop := ∀ x ∈ l, ∀ y ∈ l, f x = f y → x = y
theorem tr {f : Nat → ByteArray} {l l' : List Nat} (hp : l.Perm l') (hs : Sep f l) : bT f l = bT f l' := by
 refine List.Perm.eq_of_pairwise (le := fun a b => kH f a b = true) ?_ (oG f l) (oG f l') (((cU f l).trans hp).trans (cU f l').symm)
 intro a b ha hb h1 h2
 refine hs a ((cU f l).mem_iff.1 ha) b (hp.mem_iff.2 ((cU f l').mem_iff.1 hb)) (e9 ?_)
 unfold kH at h1 h2
 simp only [decide_eq_true_eq] at h1 h2
 have := eZ (f a) (f b); omega
structure Wf (F : aL) (n : Nat) (rk : Nat → Nat) : Prop where
 kid : ∀ i, i < n → ∀ k ∈ F.kids i, k < n ∧ rk k < rk i
def lsD (F : aL) : Nat → Nat → ByteArray
 | 0, i => F.nm i
 | d + 1, i => match bT (lsD F d) (F.kids i) with | [] => F.nm i | k :: _ => lsD F d k
theorem xx {F : aL} {n : Nat} {rk : Nat → Nat} (h : Wf F n rk) : ∀ {d e i : Nat}, i < n → rk i ≤ d → rk i ≤ e → lsD F d i = lsD F e i := by
 intro d
 induction d with
 | zero =>
  intro e i hi hd he
  have hk : F.kids i = [] := by
   cases hk : F.kids i with
   | nil => rfl
   | cons k l => have := (h.kid i hi k (by rw [hk]; simp)).2; omega
  cases e with
  | zero => rfl
  | succ e => simp [lsD, hk, bT]
 | succ d ih =>
  intro e i hi hd he
  have hsame : ∀ e', rk i ≤ e' + 1 → bT (lsD F d) (F.kids i) = bT (lsD F e') (F.kids i) := fun e' he' => wF fun k hk => by
   have := h.kid i hi k hk
   exact ih this.1 (by omega) (by omega)
  cases e with
  | zero =>
   have hk : F.kids i = [] := by
    cases hk : F.kids i with
    | nil => rfl
    | cons k l => have := (h.kid i hi k (by rw [hk]; simp)).2; omega
   simp [lsD, hk, bT]
  | succ e =>
   simp only [lsD]
   rw [hsame e (by omega)]
   cases hc : bT (lsD F e) (F.kids i) with
   | nil => rfl
   | cons k l =>
    have hk : k ∈ F.kids i := (cU _ _).mem_iff.1 (by rw [hc]; simp)
    have := h.kid i hi k hk
    exact ih this.1 (by omega) (by omega)
def ek (F : aL) (rk : Nat → Nat) (i : Nat) : ByteArray := lsD F (rk i) i
theorem oH {F : aL} {n : Nat} {rk : Nat → Nat} (h : Wf F n rk) {i : Nat} (hi : i < n) : ek F rk i = match bT (ek F rk) (F.kids i) with | [] => F.nm i | k :: _ => ek F rk k := by
 have h1 : ek F rk i = lsD F (rk i + 1) i := xx h hi (Nat.le_refl _) (Nat.le_succ _)
 rw [h1]
 simp only [lsD]
 have hs : bT (lsD F (rk i)) (F.kids i) = bT (ek F rk) (F.kids i) := wF fun k hk => by
  have := h.kid i hi k hk
  exact xx h this.1 (by omega) (Nat.le_refl _)
 rw [hs]
 cases hc : bT (ek F rk) (F.kids i) with
 | nil => rfl
 | cons k l =>
  have hk : k ∈ F.kids i := (cU _ _).mem_iff.1 (by rw [hc]; simp)
  have := h.kid i hi k hk
  exact xx h this.1 (by omega) (Nat.le_refl _)
def subD (F : aL) : Nat → Nat → Nat → Bool
 | 0, i, j => j == i
 | d + 1, i, j => (j == i) || (F.kids i).any fun k => subD F d k j
def bA (F : aL) (rk : Nat → Nat) (i j : Nat) : Bool := subD F (rk i) i j
theorem um {F : aL} {n : Nat} {rk : Nat → Nat} (h : Wf F n rk) : ∀ {d e i j : Nat}, i < n → rk i ≤ d → rk i ≤ e → subD F d i j = subD F e i j := by
 intro d
 induction d with
 | zero =>
  intro e i j hi hd he
  have hk : F.kids i = [] := by
   cases hk : F.kids i with
   | nil => rfl
   | cons k l => have := (h.kid i hi k (by rw [hk]; simp)).2; omega
  cases e with
  | zero => rfl
  | succ e => simp [subD, hk]
 | succ d ih =>
  intro e i j hi hd he
  cases e with
  | zero =>
   have hk : F.kids i = [] := by
    cases hk : F.kids i with
    | nil => rfl
    | cons k l => have := (h.kid i hi k (by rw [hk]; simp)).2; omega
   simp [subD, hk]
  | succ e =>
   simp only [subD]
   congr 1
   rw [Bool.eq_iff_iff, List.any_eq_true, List.any_eq_true]
   constructor
   ·rintro ⟨k, hk, h1⟩
    have := h.kid i hi k hk
    exact ⟨k, hk, by rw [← ih (e := e) this.1 (by omega) (by omega)]; exact h1⟩
   ·rintro ⟨k, hk, h1⟩
    have := h.kid i hi k hk
    exact ⟨k, hk, by rw [ih (e := e) this.1 (by omega) (by omega)]; exact h1⟩
theorem fh {F : aL} {n : Nat} {rk : Nat → Nat} (h : Wf F n rk) {i : Nat} (hi : i < n) (j : Nat) : bA F rk i j = ((j == i) || (F.kids i).any fun k => bA F rk k j) := by
 have h1 : bA F rk i j = subD F (rk i + 1) i j := um h hi (Nat.le_refl _) (Nat.le_succ _)
 rw [h1]
 simp only [subD]
 congr 1
 rw [Bool.eq_iff_iff, List.any_eq_true, List.any_eq_true]
 constructor
 ·rintro ⟨k, hk, h1⟩
  have := h.kid i hi k hk
  exact ⟨k, hk, by unfold bA; rw [← um h this.1 (d := rk i) (by omega) (Nat.le_refl _)]; exact h1⟩
 ·rintro ⟨k, hk, h1⟩
  have := h.kid i hi k hk
  exact ⟨k, hk, by rw [um h this.1 (e := rk k) (by omega) (Nat.le_refl _)]; exact h1⟩
def aL.fO (F : aL) (rk : Nat → Nat) (p : Nat → Bool) : aL := { F with kids := fun i => if p i then bT (ek F rk) (F.kids i) else F.kids i }
theorem aL.fB (F : aL) (rk : Nat → Nat) (p : Nat → Bool) (i : Nat) : ((F.fO rk p).kids i).Perm (F.kids i) := by
 show (if p i then _ else _ : List Nat).Perm _
 split
 ·exact cU _ _
 ·exact List.Perm.refl _
end
end Go.Proofs.YteegefnjnikngaaGreat
