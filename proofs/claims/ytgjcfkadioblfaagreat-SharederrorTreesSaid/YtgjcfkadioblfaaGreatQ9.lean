/- Contracts of the references: Check of layer 30; right, check, Support, Original, Significant of layer 35. Nodes that point at each other: how a forest lies in memory, and what keeps it. A region that draws its order: S is to hold behind an operation only where another one is still to come. The contracts of parsimony.Table, Assign. -/
import Derived.Test.YtgjcfkadioblfaaGreatQ8
import Derived.Test.YtgjcfkadioblfaaGreatQ5
import Derived.Test.YtgjcfkadioblfaaGreatQ3
import Derived.OrdersHeld
import Derived.Deep.RegionHeld
import Derived.Test.YtgjcfkadioblfaaGreatQ1
import Derived.StillTailTactics
namespace Go.Proofs.YtgjcfkadioblfaaGreat
open Go.RowKit Go.Deep
set_option maxRecDepth 100000 in
set_option maxHeartbeats 2000000 in
theorem rightR_t (S : Nat → Prop) (w : World) (v : Value) (l : List Int) (h : IntsAt S w v l) (hn : l.length ≤ 1000000) :
    Calls Tryz.prog 106 #[v] w fun e w' => e = .returned (.bool (srcOk l)) ∧ QD w w' := by
  have HI0 := h
  obtain ⟨p, cap, rfl, hcap, H⟩ := SlAt.open h
  have HI := Lib.hid HI0
  clear h HI0 H
  have HS : Hid (srcOk l = (!((List.range l.length).any (srcBad l)) && decide (0 < l.length))) := rfl
  have HB : Hid (∀ k, srcBad l k = (decide (gi l k < 0) || decide (32 ≤ gi l k) || (decide (0 < k) && decide (gi l k ≤ gi l (k - 1))))) := fun _ => rfl
  go_enter Tryz.func106, Tryz.ntmps106
  go_wp2_with fail
  go_loopw [3] (fun i wr => ∃ k : Nat, k ≤ l.length ∧ i = .int .i64 k ∧ Hid (QD w wr) ∧ Hid (∀ j, j < k → srcBad l j = false)) (fun i _ => l.length - (intOf i).toNat)
  case atStart => exact ⟨0, Nat.zero_le _, rfl, QD.refl _, fun j hj => absurd hj (Nat.not_lt_zero _)⟩
  case round =>
    obtain ⟨k, hk, rfl, hQ, hd⟩ := hrel
    obtain ⟨wo, rfl⟩ : ∃ wo : World, wo = wr := ⟨_, rfl⟩
    by_cases hlt : k < l.length
    · obtain ⟨b, off, rfl, hc⟩ := ints_get (IntsAt.keep HI.out (hQ.out.kept S)) hlt
      have HBK := Lib.hid (HB.out k)
      have i1 : (0 : Int) ≤ (k : Int) := by omega
      have i2 : (k : Int) < (l.length : Int) := by omega
      have HXK : Hid (srcBad l k = true → srcOk l = false) := fun hx => by
        rw [HS.out, any_at hlt hx]; rfl
      generalize hy : gi l k = y at *
      clear hy
      by_cases h0 : y < 0
      · have HR : Hid (srcOk l = false) := HXK.out (by rw [HBK.out]; simp [h0])
        have e0 : decide (y < 0) = true := by simpa using h0
        clear h0
        go_wp2_with fail
        go_big_quiet (fail)
        go_wp2_with fail
        go_ret
        exact ⟨ret_bool HR.out.symm, hQ.out.drewN nq⟩
      · have e0 : decide (y < 0) = false := by simpa using h0
        by_cases h1 : 32 ≤ y
        · have HR : Hid (srcOk l = false) := HXK.out (by rw [HBK.out]; simp [h1])
          have e1 : decide (32 ≤ y) = true := by simpa using h1
          clear h0 h1
          go_wp2_with fail
          go_big_quiet (fail)
          go_wp2_with fail
          go_ret
          exact ⟨ret_bool HR.out.symm, hQ.out.drewN nq⟩
        · have e1 : decide (32 ≤ y) = false := by simpa using h1
          clear h0 h1
          cases k with
          | zero =>
            have HR : Hid (srcBad l 0 = false) := by unfold Hid; rw [HBK.out]; simp [e0, e1]
            rw [Nat.add_zero] at hc
            go_wp2_with fail
            go_big_quiet (fail)
            go_wp2_with fail
            go_roundw
            case rel => exact ⟨1, by omega, by go_num, hQ.out.drewN nq, fun j hj => (by rw [show j = 0 from by omega]; exact HR.out)⟩
            case measure => simp [intOf]; omega
          | succ j =>
            have hcj := ints_get' (IntsAt.keep HI.out (hQ.out.kept S)) (k := j) (by omega)
            have HR : Hid (srcBad l (j + 1) = decide (y ≤ gi l j)) := by unfold Hid; rw [HBK.out, e0, e1]; simp
            have k2 : decide ((0 : Int) < ((j + 1 : Nat) : Int)) = true := by simp
            have k2n : decide (0 < j + 1) = true := by simp
            have k3 : ((j + 1 : Nat) : Int) - 1 = (j : Int) := by omega
            have k4 : (0 : Int) ≤ (j : Int) := by omega
            have k5 : (j : Int) < (l.length : Int) := by omega
            generalize gi l j = z at *
            by_cases h2 : y ≤ z
            · have e2 : decide (y ≤ z) = true := by simpa using h2
              have HR2 : Hid (srcOk l = false) := HXK.out (by rw [HR.out, e2])
              clear h2
              go_wp2_with fail
              go_big_quiet (fail)
              go_wp2_with fail
              go_ret
              exact ⟨ret_bool HR2.out.symm, hQ.out.drewN nq⟩
            · have e2 : decide (y ≤ z) = false := by simpa using h2
              have HR2 : Hid (srcBad l (j + 1) = false) := by unfold Hid; rw [HR.out, e2]
              clear h2
              go_wp2_with fail
              go_big_quiet (fail)
              go_wp2_with fail
              go_roundw
              case rel => exact ⟨j + 2, by omega, by go_num, hQ.out.drewN nq, fun i hi => if e : i = j + 1 then by subst e; exact HR2.out else hd.out i (by omega)⟩
              case measure => simp [intOf]; omega
    · obtain rfl : k = l.length := by omega
      have HR : Hid (srcOk l = decide (0 < l.length)) := by unfold Hid; rw [HS.out, any_none hd.out]; rfl
      go_wp2_with fail
      go_ret
      exact ⟨ret_bool (by rw [HR.out]), hQ.out⟩
set_option maxRecDepth 100000 in
set_option maxHeartbeats 2000000 in
theorem gcheckR_t (S : Nat → Prop) (w : World) (v : Value) (l : List Grp) (h : GrpsAt S w v l) (hn : l.length ≤ 1000000) (hr : ∀ k, (gg l k).src.length ≤ 1000000) :
    Calls Tryz.prog 54 #[v] w fun e w' => e = .returned (.int .i64 (gcErr l)) ∧ QD w w' := by
  obtain ⟨p, cap, rfl, hcap⟩ := grps_open h
  have HX := Lib.hid h
  have HR := Lib.hid hr
  have HG : Hid (gcErr l = if 256 < l.length then 4 else if (List.range l.length).any fun k => gBad (gg l k) then 1 else 0) := rfl
  clear h hr
  by_cases h1 : 256 < l.length
  · have HQ : Hid (gcErr l = 4) := by unfold Hid; rw [HG.out, if_pos h1]
    have d1 : decide ((256 : Int) < (l.length : Int)) = true := by simp; omega
    clear h1
    go_enter Tryz.func54, Tryz.ntmps54
    go_wp2_with fail
    go_ret
    exact ⟨ret_int HQ.out.symm, QD.refl _⟩
  have d1 : decide ((256 : Int) < (l.length : Int)) = false := by simp; omega
  have HQ1 : Hid (∀ k, k < l.length → gBad (gg l k) = true → gcErr l = 1) := fun k hk hb => by rw [HG.out, if_neg h1, if_pos (any_at (p := fun k => gBad (gg l k)) hk hb)]
  have HQ0 : Hid ((∀ k, k < l.length → gBad (gg l k) = false) → gcErr l = 0) := fun hb => by rw [HG.out, if_neg h1, if_neg (by rw [any_none hb]; decide)]
  clear h1 HG
  go_enter Tryz.func54, Tryz.ntmps54
  go_wp2_with fail
  go_loopw [3] (fun i wr => ∃ k : Nat, k ≤ l.length ∧ i = .int .i64 k ∧ Hid (QD w wr) ∧ Hid (∀ j, j < k → gBad (gg l j) = false)) (fun i _ => l.length - (intOf i).toNat)
  case atStart => exact ⟨0, Nat.zero_le _, rfl, QD.refl _, fun j hj => absurd hj (Nat.not_lt_zero _)⟩
  case round =>
    obtain ⟨k, hk, rfl, hU, hd⟩ := hrel
    obtain ⟨wo, rfl⟩ : ∃ wo : World, wo = wr := ⟨_, rfl⟩
    by_cases hlt : k < l.length
    · obtain ⟨b, off, rq, rc, rfl, hc0, hc1, hc2, hri⟩ := grps_get (HX.out.keep (hU.out.kept S)) hlt
      have i1 : (0 : Int) ≤ (k : Int) := by omega
      have i2 : (k : Int) < (l.length : Int) := by omega
      have HK1 := Lib.hid (HQ1.out k hlt)
      have HGB : Hid (gBad (gg l k) = (decide ((gg l k).un < 0) || decide ((gg l k).st < 0) || decide (16 ≤ (gg l k).st) || !srcOk (gg l k).src)) := rfl
      have HSC := Lib.hid (rightR_t S _ _ _ hri (HR.out k))
      clear hri
      generalize (gg l k).un = un at *
      generalize (gg l k).st = sx at *
      generalize (gg l k).src = src at *
      by_cases c0 : un < 0
      · have e0 : decide (un < 0) = true := by simpa using c0
        have HQ : Hid (gcErr l = 1) := HK1.out (by rw [HGB.out, e0]; rfl)
        go_wp2_with fail
        go_ret
        exact ⟨ret_int HQ.out.symm, hU.out⟩
      · have e0 : decide (un < 0) = false := by simpa using c0
        by_cases c1 : sx < 0
        · have e1 : decide (sx < 0) = true := by simpa using c1
          have HQ : Hid (gcErr l = 1) := HK1.out (by rw [HGB.out, e0, e1]; rfl)
          go_wp2_with fail
          go_ret
          exact ⟨ret_int HQ.out.symm, hU.out⟩
        · have e1 : decide (sx < 0) = false := by simpa using c1
          by_cases c2 : 16 ≤ sx
          · have e2 : decide (16 ≤ sx) = true := by simpa using c2
            have HQ : Hid (gcErr l = 1) := HK1.out (by rw [HGB.out, e0, e1, e2]; rfl)
            go_wp2_with fail
            go_ret
            exact ⟨ret_int HQ.out.symm, hU.out⟩
          · have e2 : decide (16 ≤ sx) = false := by simpa using c2
            rw [e0, e1, e2] at HGB
            generalize srcOk src = so at *
            cases so
            · have HQ : Hid (gcErr l = 1) := HK1.out (by rw [HGB.out]; rfl)
              go_wp2_with (refine HSC.out.mono ?_; rintro e w' ⟨rfl, n, rfl⟩)
              go_ret
              exact ⟨ret_int HQ.out.symm, hU.out.drewN n⟩
            · have HQ : Hid (gBad (gg l k) = false) := by unfold Hid; rw [HGB.out]; rfl
              go_wp2_with (refine HSC.out.mono ?_; rintro e w' ⟨rfl, n, rfl⟩)
              go_roundw
              case rel => exact ⟨k + 1, by omega, by go_num, hU.out.drewN n, fun j hj => if e : j = k then by subst e; exact HQ.out else hd.out j (by omega)⟩
              case measure => simp [intOf]; omega
    · obtain rfl : k = l.length := by omega
      have HQ : Hid (gcErr l = 0) := HQ0.out hd.out
      clear hlt hk
      go_wp2_with fail
      go_ret
      exact ⟨ret_int HQ.out.symm, hU.out⟩
end Go.Proofs.YtgjcfkadioblfaaGreat
namespace Go.Proofs.YtgjcfkadioblfaaGreat
open Go.RowKit Go.Deep
/-- Nodes 0, 1, ..: their names, old numbers and children. -/
structure Frs where
  nm : Nat → ByteArray
  old : Nat → Int
  kids : Nat → List Nat
def nptr (A : Nat → Nat) (k : Nat) : Value := .pointer (some ⟨A k, 0, none⟩)
def upd {α : Type} (f : Nat → α) (k : Nat) (x : α) (i : Nat) : α := if i = k then x else f i
theorem upd_same {α : Type} (f : Nat → α) (k : Nat) (x : α) : upd f k x k = x := by simp [upd]
theorem upd_ne {α : Type} (f : Nat → α) {k i : Nat} (x : α) (h : i ≠ k) : upd f k x i = f i := by simp [upd, h]
/-- Nodes 0 .. n - 1 lie at blocks A 0 ..; their lists of children are kv 0 ..; all of it lies at base or beyond, each block apart from every other. -/
structure FAt (base n : Nat) (A : Nat → Nat) (kv : Nat → Value) (F : Frs) (w : World) : Prop where
  node : ∀ i, i < n → w.heap[A i]? = some (.cells #[.string (F.nm i), kv i, .int .i64 (F.old i)] 97 (0, 0))
  lo : ∀ i, i < n → base ≤ A i
  inj : ∀ i j, i < n → j < n → A i = A j → i = j
  own : ∀ i, i < n → Owns base 95 w (kv i) ((F.kids i).map (nptr A))
  apart : ∀ i j, i < n → j < n → (kv i).ownBlock ≠ some (A j)
  alone : ∀ i j b, i < n → j < n → (kv i).ownBlock = some b → (kv j).ownBlock = some b → i = j
  kid : ∀ i, i < n → ∀ k ∈ F.kids i, k < n
theorem Owns.same {base : Nat} {e : TypeId} {w w' : World} {v : Value} {vs : List Value} (h : Owns base e w v vs) (k : ∀ b, v.ownBlock = some b → w'.heap[b]? = w.heap[b]?) : Owns base e w' v vs := by
  obtain ⟨hl, h | ⟨g, cap, cur, rfl, hg, hc, hr⟩⟩ := h
  · exact ⟨hl, .inl h⟩
  · exact ⟨hl, .inr ⟨g, cap, cur, rfl, hg, by rw [k g rfl]; exact hc, hr⟩⟩
theorem Owns.mono_base {base base' : Nat} {e : TypeId} {w : World} {v : Value} {vs : List Value} (h : Owns base e w v vs) (hb : base' ≤ base) : Owns base' e w v vs := by
  obtain ⟨hl, h | ⟨g, cap, cur, rfl, hg, hc, hr⟩⟩ := h
  · exact ⟨hl, .inl h⟩
  · exact ⟨hl, .inr ⟨g, cap, cur, rfl, Nat.le_trans hb hg, hc, hr⟩⟩
section
variable {base n : Nat} {A : Nat → Nat} {kv : Nat → Value} {F : Frs} {w w' : World}
theorem FAt.lt (h : FAt base n A kv F w) {i : Nat} (hi : i < n) : A i < w.heap.size := (Array.getElem?_eq_some_iff.1 (h.node i hi)).1
theorem FAt.ownlt (h : FAt base n A kv F w) {i b : Nat} (hi : i < n) (hb : (kv i).ownBlock = some b) : base ≤ b ∧ b < w.heap.size := ownBlock_lt (h.own i hi) hb
theorem FAt.name (h : FAt base n A kv F w) {i : Nat} (hi : i < n) : w.cell? ⟨A i, 0, none⟩ = some (.string (F.nm i)) := by simp [World.cell?, h.node i hi]
theorem FAt.kidv (h : FAt base n A kv F w) {i : Nat} (hi : i < n) : w.cell? ⟨A i, 1, none⟩ = some (kv i) := by simp [World.cell?, h.node i hi]
theorem FAt.oldc (h : FAt base n A kv F w) {i : Nat} (hi : i < n) : w.cell? ⟨A i, 2, none⟩ = some (.int .i64 (F.old i)) := by simp [World.cell?, h.node i hi]
theorem FAt.thaw (h : FAt base n A kv F w) {i : Nat} (hi : i < n) (o : Nat) : w.frozen? ⟨A i, o, none⟩ = false := by simp [World.frozen?, h.node i hi]
/-- What lies at the blocks of the forest lies in w' as in w. -/
theorem FAt.same (h : FAt base n A kv F w) (ha : ∀ i, i < n → w'.heap[A i]? = w.heap[A i]?) (hk : ∀ i b, i < n → (kv i).ownBlock = some b → w'.heap[b]? = w.heap[b]?) : FAt base n A kv F w' :=
  ⟨fun i hi => by rw [ha i hi]; exact h.node i hi, h.lo, h.inj, fun i hi => (h.own i hi).same fun b hb => hk i b hi hb, h.apart, h.alone, h.kid⟩
theorem FAt.kept (h : FAt base n A kv F w) (k : ∀ b, base ≤ b → b < w.heap.size → w'.heap[b]? = w.heap[b]?) : FAt base n A kv F w' :=
  h.same (fun i hi => k _ (h.lo i hi) (h.lt hi)) (fun _ _ hi hb => k _ (h.ownlt hi hb).1 (h.ownlt hi hb).2)
theorem FAt.up (h : FAt base n A kv F w) (k : Up w w') : FAt base n A kv F w' := h.kept fun b _ hb => Below.block k b hb
/-- One list of children is replaced. -/
theorem FAt.put (h : FAt base n A kv F w) {k : Nat} (hk : k < n) {v : Value} {ks : List Nat}
    (ha : ∀ i, i < n → i ≠ k → w'.heap[A i]? = w.heap[A i]?) (hn : w'.heap[A k]? = some (.cells #[.string (F.nm k), v, .int .i64 (F.old k)] 97 (0, 0)))
    (hv : Owns base 95 w' v (ks.map (nptr A))) (ho : ∀ i b, i < n → i ≠ k → (kv i).ownBlock = some b → w'.heap[b]? = w.heap[b]?)
    (hb : ∀ b, v.ownBlock = some b → (kv k).ownBlock = some b ∨ w.heap.size ≤ b) (hks : ∀ j ∈ ks, j < n) : FAt base n A (upd kv k v) { F with kids := upd F.kids k ks } w' := by
  refine ⟨fun i hi => ?_, h.lo, h.inj, fun i hi => ?_, fun i j hi hj => ?_, fun i j b hi hj h1 h2 => ?_, fun i hi => ?_⟩
  · by_cases e : i = k
    · subst e; rw [upd_same]; exact hn
    · rw [upd_ne _ _ e, ha i hi e]; exact h.node i hi
  · by_cases e : i = k
    · subst e; simp only [upd_same]; exact hv
    · simp only [upd_ne _ _ e]; exact (h.own i hi).same fun b hb => ho i b hi e hb
  · by_cases e : i = k
    · subst e; rw [upd_same]; intro h3
      rcases hb _ h3 with h4 | h4
      · exact h.apart i j hi hj h4
      · exact absurd (h.lt hj) (by omega)
    · rw [upd_ne _ _ e]; exact h.apart i j hi hj
  · by_cases e1 : i = k
    · by_cases e2 : j = k
      · rw [e1, e2]
      · subst e1
        rw [upd_same] at h1
        rw [upd_ne _ _ e2] at h2
        rcases hb _ h1 with h4 | h4
        · exact h.alone i j b hi hj h4 h2
        · exact absurd (h.ownlt hj h2).2 (by omega)
    · by_cases e2 : j = k
      · subst e2
        rw [upd_same] at h2
        rw [upd_ne _ _ e1] at h1
        rcases hb _ h2 with h4 | h4
        · exact h.alone i j b hi hj h1 h4
        · exact absurd (h.ownlt hi h1).2 (by omega)
      · rw [upd_ne _ _ e1] at h1
        rw [upd_ne _ _ e2] at h2
        exact h.alone i j b hi hj h1 h2
  · by_cases e : i = k
    · subst e; simp only [upd_same]; exact hks
    · simp only [upd_ne _ _ e]; exact h.kid i hi
/-- A node without children is laid. -/
theorem FAt.node_new (h : FAt base n A kv F w) (hb : base ≤ w.heap.size) (nm : ByteArray) (old : Int) :
    FAt base (n + 1) (upd A n w.heap.size) (upd kv n (.slice none 0 0)) ⟨upd F.nm n nm, upd F.old n old, upd F.kids n []⟩ (w.alloc (.cells #[.string nm, .slice none 0 0, .int .i64 old] 97)) := by
  have hne : ∀ i, i < n → i ≠ n := fun i hi => by omega
  have hmap : ∀ i, i < n → (F.kids i).map (nptr (upd A n w.heap.size)) = (F.kids i).map (nptr A) := fun i hi => by
    refine List.map_congr_left fun k hk => ?_
    unfold nptr; rw [upd_ne _ _ (hne k (h.kid i hi k hk))]
  have hcase : ∀ i, i < n + 1 → i < n ∨ i = n := fun i hi => by omega
  refine ⟨fun i hi => ?_, fun i hi => ?_, fun i j hi hj e => ?_, fun i hi => ?_, fun i j hi hj => ?_, fun i j b hi hj h1 h2 => ?_, fun i hi => ?_⟩
  · rcases hcase i hi with hi | rfl
    · simp only [upd_ne _ _ (hne i hi)]; rw [blk_alloc_lt _ _ _ (h.lt hi)]; exact h.node i hi
    · simp only [upd_same]; exact blk_alloc_new _ _
  · rcases hcase i hi with hi | rfl
    · rw [upd_ne _ _ (hne i hi)]; exact h.lo i hi
    · rw [upd_same]; exact hb
  · rcases hcase i hi with hi | rfl <;> rcases hcase j hj with hj | rfl
    · rw [upd_ne _ _ (hne i hi), upd_ne _ _ (hne j hj)] at e; exact h.inj i j hi hj e
    · rw [upd_ne _ _ (hne i hi), upd_same] at e; have := h.lt hi; omega
    · rw [upd_same, upd_ne _ _ (hne j hj)] at e; have := h.lt hj; omega
    · rfl
  · rcases hcase i hi with hi | rfl
    · simp only [upd_ne _ _ (hne i hi)]; rw [hmap i hi]; exact (h.own i hi).alloc _
    · simp only [upd_same]; exact Owns.nil _ _ _
  · rcases hcase i hi with hi | rfl
    · rw [upd_ne _ _ (hne i hi)]
      rcases hcase j hj with hj | rfl
      · rw [upd_ne _ _ (hne j hj)]; exact h.apart i j hi hj
      · rw [upd_same]; intro e; have := (h.ownlt hi e).2; omega
    · rw [upd_same]; intro e; cases e
  · rcases hcase i hi with hi | rfl <;> rcases hcase j hj with hj | rfl
    · rw [upd_ne _ _ (hne i hi)] at h1; rw [upd_ne _ _ (hne j hj)] at h2; exact h.alone i j b hi hj h1 h2
    · rw [upd_same] at h2; cases h2
    · rw [upd_same] at h1; cases h1
    · rfl
  · rcases hcase i hi with hi | rfl
    · simp only [upd_ne _ _ (hne i hi)]; intro k hk; have := h.kid i hi k hk; omega
    · simp only [upd_same]; intro k hk; cases hk
theorem FAt.empty (base : Nat) (A : Nat → Nat) (kv : Nat → Value) (F : Frs) (w : World) : FAt base 0 A kv F w :=
  ⟨fun _ h => absurd h (Nat.not_lt_zero _), fun _ h => absurd h (Nat.not_lt_zero _), fun _ _ h => absurd h (Nat.not_lt_zero _), fun _ h => absurd h (Nat.not_lt_zero _), fun _ _ h => absurd h (Nat.not_lt_zero _), fun _ _ _ h => absurd h (Nat.not_lt_zero _), fun _ h => absurd h (Nat.not_lt_zero _)⟩
/-- A child is appended: w' is the world behind append, v the new list. -/
theorem FAt.push (h : FAt base n A kv F w) {k c : Nat} (hk : k < n) (hc : c < n) {v : Value} (hv : Owns base 95 w' v ((F.kids k ++ [c]).map (nptr A))) (hg : w.grownBy w' (kv k).ownBlock)
    (hb : ∀ b, v.ownBlock = some b → (kv k).ownBlock = some b ∨ w.heap.size ≤ b) : FAt base n A (upd kv k v) { F with kids := upd F.kids k (F.kids k ++ [c]) } (w'.setCell ⟨A k, 1, none⟩ v) := by
  have hold : ∀ i, i < n → w'.heap[A i]? = w.heap[A i]? := fun i hi => hg.block (A i) (h.lt hi) (fun e => h.apart k i hk hi e.symm)
  have hnA : ∀ b, v.ownBlock = some b → b ≠ A k := fun b hv2 e => by
    rcases hb b hv2 with h4 | h4
    · exact h.apart k k hk hk (by rw [h4, e])
    · have := h.lt hk; omega
  refine h.put hk (fun i hi e => ?_) ?_ (hv.same fun b hv2 => blk_setCell_other _ _ _ _ (hnA b hv2)) (fun i b hi e hb2 => ?_) hb ?_
  · rw [blk_setCell_other _ _ _ _ (fun e2 => e (h.inj i k hi hk e2))]; exact hold i hi
  · have hn := hold k hk
    rw [h.node k hk] at hn
    simp [World.setCell, Array.getElem?_modify, hn]
  · have hne : b ≠ A k := fun e2 => h.apart i k hi hk (by rw [hb2, e2])
    rw [blk_setCell_other _ _ _ _ hne]
    exact hg.block b (h.ownlt hi hb2).2 (fun e2 => e (h.alone i k b hi hk hb2 e2.symm))
  · intro j hj
    rcases List.mem_append.1 hj with h1 | h1
    · exact h.kid k hk j h1
    · have : j = c := by simpa using h1
      omega
end
end Go.Proofs.YtgjcfkadioblfaaGreat
namespace Go.Proofs.YtgjcfkadioblfaaGreat
open Go.RowKit Go.Deep
section
variable {P : Program} {ops : Array Oper} {Q : Exit → Act → World → Prop} {md : Region.Mode} {S : World → Prop} {t : Nat}
/-- Some operation ahead of number t is still to come. -/
def More (t : Nat) (l : Array Bool) : Prop := ∃ m, m < t ∧ l.getD m true = false
/-- Some operation ahead of number t that is still to come waits for number i. -/
def waitsB (t : Nat) (md : Region.Mode) (ops : Array Oper) (l : Array Bool) (i : Nat) : Bool := (List.range t).any fun m => !l.getD m true && (match ops[m]? with | some o => o.after.any fun e => Region.binds md e && e.on == i | none => false)
def anyT (P : Program) (md : Region.Mode) (ops : Array Oper) (Q : Exit → Act → World → Prop) (S : World → Prop) (t : Nat) : Nat → Array Bool → Act → World → Prop
  | 0, l, a, w => Region.ready md ops l = [] ∧ Q .normal a w
  | n + 1, l, a, w => (Region.ready md ops l = [] → Q .normal a w) ∧
    ∀ i ∈ Region.ready md ops l, wpOp P ops Q i (fun a' w' => (More t (l.setIfInBounds i true) → S w') ∧ anyT P md ops Q S t n (l.setIfInBounds i true) a' w') a w
theorem anyT.any : ∀ (n : Nat) (l : Array Bool) (a : Act) (w : World), anyT P md ops Q S t n l a w → wpAny P md ops Q n l a w
  | 0, _, _, _, h => h
  | n + 1, _, _, _, h => ⟨h.1, fun i hi => wpOp_mono (fun a' w' h' => anyT.any n _ a' w' h'.2) (h.2 i hi)⟩
theorem anyT.first {i : Nat} {oi : Oper} {v : Value} (hi : ops[i]? = some oi) (hsel : ∀ (j : Nat) (o : Oper) cs b, ops[j]? = some o → o.op ≠ .select cs b)
    (hQ : ∀ c a w, Q (.panic c) (a.put oi.dst v) w → Q (.panic c) a w) : ∀ (n : Nat) (l : Array Bool) (a : Act) (w : World),
      (∀ j oj, ops[j]? = some oj → j ≠ i → l.getD j true = false → (∀ e ∈ oj.after, Region.binds md e = true → e.on ≠ i) → oi.apart ops oj = true) →
      i ∈ Region.ready md ops l → waitsB t md ops l i = true → YieldsIf P ops S oi v a → S w → anyT P md ops Q S t n (l.setIfInBounds i true) (a.put oi.dst v) w → anyT P md ops Q S t (n + 1) l a w := by
  intro n
  induction n with
  | zero =>
    intro l a w _ hr _ hy hS H
    refine ⟨fun h => absurd hr (by rw [h]; simp), fun j hj => ?_⟩
    by_cases hji : j = i
    · subst hji; exact hy.wpOp hi hS ⟨fun _ => hS, H⟩
    · exact absurd (ready_mono hj hji) (by rw [H.1]; simp)
  | succ n ih =>
    intro l a w hfree hr hwt hy hS H
    refine ⟨fun h => absurd hr (by rw [h]; simp), fun j hj => ?_⟩
    by_cases hji : j = i
    · subst hji; exact hy.wpOp hi hS ⟨fun _ => hS, H⟩
    · have hun := (mem_ready.1 hr).1
      obtain ⟨hjun, oj, hoj, hall⟩ := mem_ready.1 hj
      have hnot : ∀ e ∈ oj.after, Region.binds md e = true → e.on ≠ i := fun e he hb heq => by
        have h1 := hall e he hb
        rw [heq] at h1
        by_cases h' : i < l.size
        · simp [h'] at hun h1; rw [hun] at h1; cases h1
        · simp [h'] at h1
      have h2 := wpOp_putIf hoj (hfree j oj hoj hji hjun hnot) (fun cs b => hsel i oi cs b hi) (fun cs b => hsel j oj cs b hoj) hQ hy (H.2 j (ready_mono hj hji))
      have hir : i ∈ Region.ready md ops (l.setIfInBounds j true) := ready_mono hr (Ne.symm hji)
      refine wpOp_mono (fun a' w' h3 => ?_) h2
      have hfree' : ∀ k ok, ops[k]? = some ok → k ≠ i → (l.setIfInBounds j true).getD k true = false → (∀ e ∈ ok.after, Region.binds md e = true → e.on ≠ i) → oi.apart ops ok = true := fun k ok hk hki hku hno => by
        refine hfree k ok hk hki ?_ hno
        by_cases hjk : j = k
        · rw [← hjk]; exact hjun
        · rw [getD_set_ne true hjk] at hku; exact hku
      have hcm : (l.setIfInBounds i true).setIfInBounds j true = (l.setIfInBounds j true).setIfInBounds i true := Array.setIfInBounds_comm _ _ (Ne.symm hji)
      obtain ⟨m, hml, hm⟩ := List.any_eq_true.1 hwt
      have hml := List.mem_range.1 hml
      simp only [Bool.and_eq_true, Bool.not_eq_true'] at hm
      obtain ⟨hm1, hm2⟩ := hm
      obtain ⟨om, hmo⟩ : ∃ om, ops[m]? = some om := by
        cases h : ops[m]? with
        | none => rw [h] at hm2; cases hm2
        | some o => exact ⟨o, rfl⟩
      rw [hmo] at hm2
      obtain ⟨x, hx, e, hxe⟩ := (by simpa using Array.any_eq_true.1 hm2 : ∃ x, ∃ (hx : x < om.after.size), Region.binds md om.after[x] = true ∧ om.after[x].on = i)
      have hmj : m ≠ j := fun e2 => by
        subst e2
        rw [hmo] at hoj
        injection hoj with hoj
        refine hnot om.after[x] ?_ e hxe
        rw [← hoj]; exact Array.getElem_mem hx
      have hmi : m ≠ i := fun e2 => by
        subst e2
        obtain ⟨_, o3, ho3, h4⟩ := mem_ready.1 hr
        rw [hmo] at ho3
        injection ho3 with ho3
        have h5 := h4 om.after[x] (by rw [← ho3]; exact Array.getElem_mem hx) e
        rw [hxe] at h5
        by_cases h' : m < l.size
        · simp [h'] at hun h5; rw [hun] at h5; cases h5
        · simp [h'] at h5
      have hS' : S w' := h3.2.1 ⟨m, hml, by rw [getD_set_ne true (Ne.symm hmj), getD_set_ne true (Ne.symm hmi)]; exact hm1⟩
      have hwt' : waitsB t md ops (l.setIfInBounds j true) i = true := List.any_eq_true.2 ⟨m, List.mem_range.2 hml, by
        rw [getD_set_ne true (Ne.symm hmj), hm1, hmo]; simpa using hm2⟩
      exact ⟨fun _ => hS', ih _ a' w' hfree' hir hwt' h3.1 hS' (by rw [← hcm]; exact h3.2.2)⟩
/-- Number i, at or behind t, yields in every world: it is taken first. -/
theorem anyT.free1 {i : Nat} {oi : Oper} {v : Value} (hti : t ≤ i) (hi : ops[i]? = some oi) (hsel : ∀ (j : Nat) (o : Oper) cs b, ops[j]? = some o → o.op ≠ .select cs b)
    (hQ : ∀ c a w, Q (.panic c) (a.put oi.dst v) w → Q (.panic c) a w) : ∀ (n : Nat) (l : Array Bool) (a : Act) (w : World),
      (∀ j oj, ops[j]? = some oj → j ≠ i → l.getD j true = false → (∀ e ∈ oj.after, Region.binds md e = true → e.on ≠ i) → oi.apart ops oj = true) →
      i ∈ Region.ready md ops l → YieldsIf P ops (fun _ => True) oi v a → (More t (l.setIfInBounds i true) → S w) → anyT P md ops Q S t n (l.setIfInBounds i true) (a.put oi.dst v) w → anyT P md ops Q S t (n + 1) l a w := by
  intro n
  induction n with
  | zero =>
    intro l a w _ hr hy hS H
    refine ⟨fun h => absurd hr (by rw [h]; simp), fun j hj => ?_⟩
    by_cases hji : j = i
    · subst hji; exact hy.wpOp hi trivial ⟨hS, H⟩
    · exact absurd (ready_mono hj hji) (by rw [H.1]; simp)
  | succ n ih =>
    intro l a w hfree hr hy hS H
    refine ⟨fun h => absurd hr (by rw [h]; simp), fun j hj => ?_⟩
    by_cases hji : j = i
    · subst hji; exact hy.wpOp hi trivial ⟨hS, H⟩
    · have hun := (mem_ready.1 hr).1
      obtain ⟨hjun, oj, hoj, hall⟩ := mem_ready.1 hj
      have hnot : ∀ e ∈ oj.after, Region.binds md e = true → e.on ≠ i := fun e he hb heq => by
        have h1 := hall e he hb
        rw [heq] at h1
        by_cases h' : i < l.size
        · simp [h'] at hun h1; rw [hun] at h1; cases h1
        · simp [h'] at h1
      have h2 := wpOp_putIf hoj (hfree j oj hoj hji hjun hnot) (fun cs b => hsel i oi cs b hi) (fun cs b => hsel j oj cs b hoj) hQ hy (H.2 j (ready_mono hj hji))
      have hir : i ∈ Region.ready md ops (l.setIfInBounds j true) := ready_mono hr (Ne.symm hji)
      refine wpOp_mono (fun a' w' h3 => ?_) h2
      have hfree' : ∀ k ok, ops[k]? = some ok → k ≠ i → (l.setIfInBounds j true).getD k true = false → (∀ e ∈ ok.after, Region.binds md e = true → e.on ≠ i) → oi.apart ops ok = true := fun k ok hk hki hku hno => by
        refine hfree k ok hk hki ?_ hno
        by_cases hjk : j = k
        · rw [← hjk]; exact hjun
        · rw [getD_set_ne true hjk] at hku; exact hku
      have hcm : (l.setIfInBounds i true).setIfInBounds j true = (l.setIfInBounds j true).setIfInBounds i true := Array.setIfInBounds_comm _ _ (Ne.symm hji)
      have hmo : More t (l.setIfInBounds j true) → S w' := fun ⟨m, hm, hml⟩ => h3.2.1 ⟨m, hm, by
        rw [hcm, getD_set_ne true (by omega)]; exact hml⟩
      refine ⟨hmo, ih _ a' w' hfree' hir h3.1 (fun ⟨m, hm, hml⟩ => hmo ⟨m, hm, ?_⟩) (by rw [← hcm]; exact h3.2.2)⟩
      rw [getD_set_ne true (by omega)] at hml; exact hml
theorem anyT.free {i : Nat} {oi : Oper} {v : Value} {n : Nat} {l : Array Bool} {a : Act} {w : World} (hi0 : ops.toList[i]? = some oi)
    (hc : (decide (t ≤ i) && Region.noSelect ops && Region.free md ops l i && (Region.ready md ops l).contains i) = true)
    (hQ : ∀ c a w, Q (.panic c) (a.put oi.dst v) w → Q (.panic c) a w) (hg : Region.wanted oi (yielded ops a.tmps) = true) (hy : ∀ w, (execOp a.eval oi).run P w = .ok (.value v) w) (hS : More t (l.setIfInBounds i true) → S w)
    (h : anyT P md ops Q S t n (l.setIfInBounds i true) (a.put oi.dst v) w) : anyT P md ops Q S t (n + 1) l a w := by
  have hi : ops[i]? = some oi := by rw [← Array.getElem?_toList]; exact hi0
  simp only [Bool.and_eq_true, decide_eq_true_eq] at hc
  obtain ⟨⟨⟨h0, h1⟩, h2⟩, h3⟩ := hc
  exact anyT.free1 h0 hi (Region.noSelect_spec h1) hQ n l a w (Region.free_spec hi h2) (by simpa using h3) (.inl ⟨hg, fun w _ => hy w⟩) hS h
/-- Number i is taken first. -/
theorem anyT.take {i : Nat} {oi : Oper} {v : Value} {n : Nat} {l : Array Bool} {a : Act} {w : World} (hi0 : ops.toList[i]? = some oi)
    (hc : (Region.noSelect ops && Region.free md ops l i && (Region.ready md ops l).contains i && waitsB t md ops l i) = true)
    (hQ : ∀ c a w, Q (.panic c) (a.put oi.dst v) w → Q (.panic c) a w) (hg : Region.wanted oi (yielded ops a.tmps) = true) (hy : ∀ w, S w → (execOp a.eval oi).run P w = .ok (.value v) w) (hS : S w)
    (h : anyT P md ops Q S t n (l.setIfInBounds i true) (a.put oi.dst v) w) : anyT P md ops Q S t (n + 1) l a w := by
  have hi : ops[i]? = some oi := by rw [← Array.getElem?_toList]; exact hi0
  simp only [Bool.and_eq_true] at hc
  obtain ⟨⟨⟨h1, h2⟩, h3⟩, h4⟩ := hc
  exact anyT.first hi (Region.noSelect_spec h1) hQ n l a w (Region.free_spec hi h2) (by simpa using h3) h4 (.inl ⟨hg, hy⟩) hS h
/-- One operation alone may come up. -/
theorem anyT.step {i : Nat} {oi : Oper} {n : Nat} {l : Array Bool} {a : Act} {w : World} (hi0 : ops.toList[i]? = some oi) (hr : Region.ready md ops l = [i])
    (h : ∀ K' : Act → World → Prop, Shut (∀ a w, (More t (l.setIfInBounds i true) → S w) → ((More t (l.setIfInBounds i true) → S w) → anyT P md ops Q S t n (l.setIfInBounds i true) a w) → K' a w) → if Region.wanted oi (yielded ops a.tmps) = true then Oper.wp P oi a w K' Q else K' (a.put oi.dst undef) w) :
    anyT P md ops Q S t (n + 1) l a w :=
  ⟨fun h0 => absurd (h0.symm.trans hr) (by simp), fun j hj => by
    rw [hr] at hj
    obtain rfl : j = i := by simpa using hj
    exact wpOp_step (by rw [← Array.getElem?_toList]; exact hi0) fun K' hK => h K' fun a w hS hW => hK a w ⟨hS, hW hS⟩⟩
/-- Two may come up. -/
theorem anyT.step2 {i i2 : Nat} {oi oi2 : Oper} {n : Nat} {l : Array Bool} {a : Act} {w : World} (hi0 : ops.toList[i]? = some oi) (hi20 : ops.toList[i2]? = some oi2) (hr : Region.ready md ops l = [i, i2])
    (h : ∀ K' : Act → World → Prop, Shut (∀ a w, (More t (l.setIfInBounds i true) → S w) → ((More t (l.setIfInBounds i true) → S w) → anyT P md ops Q S t n (l.setIfInBounds i true) a w) → K' a w) → if Region.wanted oi (yielded ops a.tmps) = true then Oper.wp P oi a w K' Q else K' (a.put oi.dst undef) w)
    (h2 : ∀ K' : Act → World → Prop, Shut (∀ a w, (More t (l.setIfInBounds i2 true) → S w) → ((More t (l.setIfInBounds i2 true) → S w) → anyT P md ops Q S t n (l.setIfInBounds i2 true) a w) → K' a w) → if Region.wanted oi2 (yielded ops a.tmps) = true then Oper.wp P oi2 a w K' Q else K' (a.put oi2.dst undef) w) :
    anyT P md ops Q S t (n + 1) l a w :=
  ⟨fun h0 => absurd (h0.symm.trans hr) (by simp), fun j hj => by
    rw [hr] at hj
    rcases List.mem_cons.1 hj with rfl | hj
    · exact wpOp_step (by rw [← Array.getElem?_toList]; exact hi0) fun K' hK => h K' fun a w hS hW => hK a w ⟨hS, hW hS⟩
    · obtain rfl : j = i2 := by simpa using hj
      exact wpOp_step (by rw [← Array.getElem?_toList]; exact hi20) fun K' hK => h2 K' fun a w hS hW => hK a w ⟨hS, hW hS⟩⟩
theorem anyT.done {l : Array Bool} {a : Act} {w : World} {n : Nat} (hr : Region.ready md ops l = []) (h : Q .normal a w) : anyT P md ops Q S t n l a w := by
  cases n with
  | zero => exact ⟨hr, h⟩
  | succ n => exact ⟨fun _ => h, fun j hj => (by rw [hr] at hj; cases hj)⟩
theorem not_more {t : Nat} {l : Array Bool} (h : ((List.range t).all fun m => l.getD m true) = true) {p : Prop} : More t l → p := fun ⟨m, hm, hl⟩ => by
  have := List.all_eq_true.1 h m (List.mem_range.2 hm)
  rw [hl] at this; cases this
theorem region_T {id : Nat} {a : Act} {w : World} (hm : P.follows .mixedOrders = true) (t : Nat) (S : World → Prop) (hS : S w.drew)
    (h : S w.drew → anyT P .any ops Q S t ops.size (Array.replicate ops.size false) a w.drew) : (Code.region id ops true).wp P Q a w := wp_region_any hm (anyT.any _ _ _ _ (h hS))
end
end Go.Proofs.YtgjcfkadioblfaaGreat
namespace Go.Proofs.YtgjcfkadioblfaaGreat
open Go.RowKit Go.Deep
/-- The table, or nothing. -/
def tableN (t : Tre) (st : List Int) (cs : List (List Int)) : List (List Int) := if parErr t st cs = 0 then tabL t st cs else []
def assignN (t : Tre) (st : List Int) (cs : List (List Int)) : List Int := if parErr t st cs = 0 then asgL t st cs else []
theorem rows_nil (S : Nat → Prop) (w : World) : RowsAt S w (.slice none 0 0) [] := ⟨fun _ => undef, ⟨none, 0, rfl, Nat.le_refl _, .inl rfl⟩, fun _ hk => absurd hk (Nat.not_lt_zero _)⟩
theorem ints_nil (S : Nat → Prop) (w : World) : IntsAt S w (.slice none 0 0) [] := ⟨none, 0, rfl, Nat.le_refl _, .inl rfl⟩
def TlPost (w : World) (t : Tre) (st : List Int) (cs : List (List Int)) (e : Ending) (w' : World) : Prop :=
  Up w w' ∧ ∃ v, e = .returned (.tuple #[v, .int .i64 (parErr t st cs)]) ∧ RowsAt Any w' v (tableN t st cs)
def AsPost (w : World) (t : Tre) (st : List Int) (cs : List (List Int)) (e : Ending) (w' : World) : Prop :=
  Up w w' ∧ ∃ v, e = .returned (.tuple #[v, .int .i64 (parErr t st cs)]) ∧ IntsAt (fun b => w.heap.size ≤ b) w' v (assignN t st cs)
theorem asg_open {S : Nat → Prop} {w : World} {v : Value} {xs : List Int} (h : IntsAt S w v xs) : ∃ p cap, v = .slice p xs.length cap ∧ xs.length ≤ cap ∧ ∀ k, k < xs.length → ∃ b off, p = some ⟨b, off, none⟩ ∧ w.cell? ⟨b, off + k, none⟩ = some (.int .i64 (gi xs k)) := SlAt.open h
theorem still_of {P : Program} {f : FuncId} {args : Array Value} {w : World} {v : Value} (h : Calls P f args w fun e w' => e = .returned v ∧ w = w') : Calls P f args w fun e w' => e = .returned v ∧ w' = w :=
  h.mono fun _ _ ⟨a, b⟩ => ⟨a, b.symm⟩
/-- The first k states are given. -/
structure AsgW (w wr : World) (ob : Nat) (t : Tre) (st : List Int) (cs : List (List Int)) (k : Nat) : Prop where
  grown : w.grownBy wr (some ob)
  row : wr.rowIs ob 3 t.ps.length (fun j => .int .i64 (if j < k then gi (asgK t st cs k) j else 0))
theorem AsgW.step {w wr : World} {ob k nq : Nat} {t : Tre} {st : List Int} {cs : List (List Int)} (h : AsgW w wr ob t st cs k) : AsgW w ((wr.drewN nq).setCell ⟨ob, k, none⟩ (.int .i64 (asgAt t st cs (asgK t st cs k) k))) ob t st cs (k + 1) := by
  refine ⟨grown_tr h.grown ⟨rfl, rfl, rfl, by rw [World.size_setCell]; exact Nat.le_refl _, fun j _ hne => Below.heap_setCell (wr.drewN nq) _ _ j (fun e => hne (by rw [e]))⟩, ((show (wr.drewN nq).rowIs ob _ _ _ from h.row).set k _).congr fun j _ => ?_⟩
  by_cases e : j = k
  · subst e; simp [gi_asgK_new]
  · by_cases h2 : j < k
    · simp [e, h2, Nat.lt_succ_of_lt h2, gi_asgK_old]
    · have h3 : ¬ j < k + 1 := by omega
      simp [e, h2, h3]
theorem AsgW.kept {w wr : World} {ob k : Nat} {t : Tre} {st : List Int} {cs : List (List Int)} (h : AsgW w wr ob t st cs k) : Kept (· < ob) w wr := fun b hb hl => h.grown.block b hl (by simp; omega)
theorem kept_cell {S : Nat → Prop} {w w' : World} (h : Kept S w w') {b o : Nat} {v : Value} (hS : S b) (hc : w.cell? ⟨b, o, none⟩ = some v) : w'.cell? ⟨b, o, none⟩ = some v := by
  rw [World.cell?_of_block (a := ⟨b, o, none⟩) (h b hS (World.block_lt_of_cell? w _ hc))]; exact hc
end Go.Proofs.YtgjcfkadioblfaaGreat
