/- Reroot: what its loop does to the forest. The turned forest: plain. -/
import Derived.Test.YtpjijbophjdgaaaGreatQ43
import Derived.Test.YtpjijbophjdgaaaGreatQ28
namespace Go.Proofs.YtpjijbophjdgaaaGreat
open Go.RowKit Go.Deep
section
variable {base n : Nat} {A : Nat → Nat} {kv : Nat → Value} {F : Frs} {w w' : World}
theorem FAt.node_kids (h : FAt base n A kv F w) (hb : base ≤ w.heap.size) {v : Value} {ks : List Nat} (nm : ByteArray) (old : Int) (hv : Owns base 113 w v (ks.map (nptr A)))
    (hA : ∀ b, v.ownBlock = some b → ∀ i, i < n → b ≠ A i) (hkv : ∀ b, v.ownBlock = some b → ∀ i, i < n → (kv i).ownBlock ≠ some b) (hks : ∀ j ∈ ks, j < n) :
    FAt base (n + 1) (upd A n w.heap.size) (upd kv n v) ⟨upd F.nm n nm, upd F.old n old, upd F.kids n ks⟩ (w.alloc (.cells #[.string nm, v, .int .i64 old] 115)) := by
  have hne : ∀ i, i < n → i ≠ n := fun i hi => by omega
  have hmap : ∀ l : List Nat, (∀ k ∈ l, k < n) → l.map (nptr (upd A n w.heap.size)) = l.map (nptr A) := fun l hl => by
    refine List.map_congr_left fun k hk => ?_
    unfold nptr; rw [upd_ne _ _ (hne k (hl k hk))]
  have hcase : ∀ i, i < n + 1 → i < n ∨ i = n := fun i hi => by omega
  refine ⟨fun i hi => ?_, fun i hi => ?_, fun i j hi hj e => ?_, fun i hi => ?_, fun i j hi hj => ?_, fun i j b hi hj h1 h2 => ?_, fun i hi => ?_⟩
  · rcases hcase i hi with hi | rfl
    · simp only [upd_ne _ _ (hne i hi)]; rw [blk_alloc_lt _ _ _ (h.lt hi)]; exact h.node i hi
    · simp only [upd_same]; exact blk_alloc_new _ _
  · rcases hcase i hi with hi | rfl
    · rw [upd_ne _ _ (hne i hi)]; exact h.lo i hi
    · rw [upd_same]; exact hb
  · rcases hcase i hi with hi | rfl <;> rcases hcase j hj with hj | rfl
    · rw [upd_ne _ _ (hne i hi), upd_ne _ _ (hne j hj)] at e; exact h.inj i j hi hj e
    · rw [upd_ne _ _ (hne i hi), upd_same] at e; have := h.lt hi; omega
    · rw [upd_same, upd_ne _ _ (hne j hj)] at e; have := h.lt hj; omega
    · rfl
  · rcases hcase i hi with hi | rfl
    · simp only [upd_ne _ _ (hne i hi)]; rw [hmap _ (h.kid i hi)]; exact (h.own i hi).alloc _
    · simp only [upd_same]; rw [hmap _ hks]; exact hv.alloc _
  · rcases hcase i hi with hi | rfl
    · rw [upd_ne _ _ (hne i hi)]
      rcases hcase j hj with hj | rfl
      · rw [upd_ne _ _ (hne j hj)]; exact h.apart i j hi hj
      · rw [upd_same]; intro e; have := (h.ownlt hi e).2; omega
    · rw [upd_same]
      intro e
      rcases hcase j hj with hj | rfl
      · rw [upd_ne _ _ (hne j hj)] at e; exact hA _ e j hj rfl
      · rw [upd_same] at e; have := (ownBlock_lt hv e).2; omega
  · rcases hcase i hi with hi | rfl <;> rcases hcase j hj with hj | rfl
    · rw [upd_ne _ _ (hne i hi)] at h1; rw [upd_ne _ _ (hne j hj)] at h2; exact h.alone i j b hi hj h1 h2
    · rw [upd_ne _ _ (hne i hi)] at h1; rw [upd_same] at h2; exact absurd h1 (hkv b h2 i hi)
    · rw [upd_same] at h1; rw [upd_ne _ _ (hne j hj)] at h2; exact absurd h2 (hkv b h1 j hj)
    · rfl
  · rcases hcase i hi with hi | rfl
    · simp only [upd_ne _ _ (hne i hi)]; intro k hk; have := h.kid i hi k hk; omega
    · simp only [upd_same]; intro k hk; have := hks k hk; omega
theorem FAt.del (h : FAt base n A kv F w) {x g m cap : Nat} {ks : List Nat} (hx : x < n) (hg : (kv x).ownBlock = some g) (hw : w.grownBy w' (some g)) (hv : Owns base 113 w' (.slice (some ⟨g, 0, none⟩) m cap) (ks.map (nptr A))) (hks : ∀ j ∈ ks, j < n) :
    FAt base n A (upd kv x (.slice (some ⟨g, 0, none⟩) m cap)) { F with kids := upd F.kids x ks } (w'.setCell ⟨A x, 1, none⟩ (.slice (some ⟨g, 0, none⟩) m cap)) := by
  have hold : ∀ i, i < n → w'.heap[A i]? = w.heap[A i]? := fun i hi => hw.block (A i) (h.lt hi) (fun e => h.apart x i hx hi (by rw [hg, e]))
  have hgA : g ≠ A x := fun e => h.apart x x hx hx (by rw [hg, e])
  refine h.put hx (fun i hi e => ?_) ?_ (hv.same fun b hb => blk_setCell_other _ _ _ _ (by have hb : some g = some b := hb; injection hb with hb; subst hb; exact hgA)) (fun i b hi e hb2 => ?_) (fun b hb => .inl (by rw [hg]; exact hb)) hks
  · rw [blk_setCell_other _ _ _ _ (fun e2 => e (h.inj i x hi hx e2))]; exact hold i hi
  · have hn := hold x hx
    rw [h.node x hx] at hn
    simp [World.setCell, Array.getElem?_modify, hn]
  · have hne : b ≠ A x := fun e2 => h.apart i x hi hx (by rw [hb2, e2])
    rw [blk_setCell_other _ _ _ _ hne]
    exact hw.block b (h.ownlt hi hb2).2 (fun e2 => e (h.alone i x b hi hx hb2 (by rw [hg, e2])))
end
def rrS (F : Frs) (h frm x : Nat) : Frs := ⟨F.nm, F.old, upd (upd F.kids x ((F.kids x).filter fun k => !decide (F.old k = (frm : Int)))) h (upd F.kids x ((F.kids x).filter fun k => !decide (F.old k = (frm : Int))) h ++ [x])⟩
structure RrS where
  fr : Frs
  hang : Nat
  frm : Nat
  cur : Int
def rrK (t : Tre) (leaf : Nat) : Nat → RrS
  | 0 => ⟨⟨upd (frT t).nm t.ps.length ByteArray.empty, upd (frT t).old t.ps.length 0, upd (frT t).kids t.ps.length [leaf]⟩, t.ps.length, leaf, gi t.ps leaf⟩
  | i + 1 => if (rrK t leaf i).cur < 0 then rrK t leaf i else ⟨rrS (rrK t leaf i).fr (rrK t leaf i).hang (rrK t leaf i).frm (rrK t leaf i).cur.toNat, (rrK t leaf i).cur.toNat, (rrK t leaf i).cur.toNat, gi t.ps (rrK t leaf i).cur.toNat⟩
theorem rrK_go {t : Tre} {leaf i : Nat} (h : ¬ (rrK t leaf i).cur < 0) : rrK t leaf (i + 1) = ⟨rrS (rrK t leaf i).fr (rrK t leaf i).hang (rrK t leaf i).frm (rrK t leaf i).cur.toNat, (rrK t leaf i).cur.toNat, (rrK t leaf i).cur.toNat, gi t.ps (rrK t leaf i).cur.toNat⟩ := by rw [rrK, if_neg h]
theorem rrK_inv {t : Tre} (ht : treeErr t = 0) {leaf : Nat} (hl : leaf < t.ps.length) : ∀ i, (rrK t leaf i).frm < t.ps.length ∧ (rrK t leaf i).hang < t.ps.length + 1 ∧ (rrK t leaf i).cur = gi t.ps (rrK t leaf i).frm ∧ (rrK t leaf i).cur < (rrK t leaf i).frm ∧ ((rrK t leaf i).hang = t.ps.length ∨ (rrK t leaf i).hang = (rrK t leaf i).frm) ∧ -1 ≤ (rrK t leaf i).cur := by
  obtain ⟨hp, _, _, hok, _⟩ := treeErr_zero ht
  have hpar : ∀ k, k < t.ps.length → -1 ≤ gi t.ps k ∧ gi t.ps k < (k : Int) := fun k hk => by
    by_cases h0 : k = 0
    · subst h0
      have := pOkB_at hok hp
      unfold okp at this
      rw [if_pos rfl, beq_iff_eq] at this
      rw [this]; omega
    · have := pOkB_par hok hk (by omega); omega
  intro i
  induction i with
  | zero => exact ⟨hl, by show t.ps.length < _; omega, rfl, (hpar leaf hl).2, .inl rfl, (hpar leaf hl).1⟩
  | succ i ih =>
    by_cases hc : (rrK t leaf i).cur < 0
    · rw [rrK, if_pos hc]; exact ih
    · rw [rrK_go hc]
      have hx : (rrK t leaf i).cur.toNat < t.ps.length := by omega
      exact ⟨hx, by show (rrK t leaf i).cur.toNat < _; omega, rfl, (hpar _ hx).2, .inr rfl, (hpar _ hx).1⟩
end Go.Proofs.YtpjijbophjdgaaaGreat
namespace Go.Proofs.YtpjijbophjdgaaaGreat
def onP (t : Tre) (leaf z : Nat) : Bool := hitB t.ps z leaf
def rrQ (t : Tre) (leaf z : Nat) : List Nat :=
  if z = t.ps.length then leaf :: (if leaf = 0 then [] else [(gi t.ps leaf).toNat])
  else if onP t leaf z = true ∧ z ≠ leaf then (kidsL t.ps z).filter (fun k => !onP t leaf k) ++ (if z = 0 then [] else [(gi t.ps z).toNat])
  else kidsL t.ps z
def rrF (t : Tre) (leaf : Nat) : Frs := ⟨upd (gs t.ns) t.ps.length ByteArray.empty, upd (fun i => (i : Int)) t.ps.length 0, rrQ t leaf⟩
def rkR (t : Tre) (leaf z : Nat) : Nat := if z = t.ps.length then 3 * t.ps.length + 3 else if onP t leaf z = true ∧ z ≠ leaf then t.ps.length + 1 + z else rkT t z
structure LeafOk (t : Tre) (leaf : Nat) : Prop where
  te : treeErr t = 0
  lt : leaf < t.ps.length
  nm : (gs t.ns leaf).size ≠ 0
section
variable {t : Tre} {leaf : Nat}
theorem LeafOk.ok (h : LeafOk t leaf) : pOkB t.ps = true := (treeErr_zero h.te).2.2.2.1
theorem LeafOk.pos (h : LeafOk t leaf) : 0 < t.ps.length := (treeErr_zero h.te).1
theorem LeafOk.nokid (h : LeafOk t leaf) : kidsL t.ps leaf = [] := by
  cases hk : kidsL t.ps leaf with
  | nil => rfl
  | cons k l =>
    obtain ⟨h1, h2, h3⟩ := mem_kidsL.1 (show k ∈ kidsL t.ps leaf by rw [hk]; simp)
    exact absurd (inner_empty h.te h1 h2 h3) h.nm
theorem LeafOk.par (h : LeafOk t leaf) {z : Nat} (hz : z < t.ps.length) (h0 : z ≠ 0) : ∃ q : Nat, gi t.ps z = q ∧ q < z := by
  have := pOkB_par h.ok hz (by omega)
  exact ⟨(gi t.ps z).toNat, by omega, by omega⟩
theorem LeafOk.on_self (_h : LeafOk t leaf) : onP t leaf leaf = true := hit_self leaf
theorem LeafOk.on_le (h : LeafOk t leaf) {z : Nat} (hz : onP t leaf z = true) : z ≤ leaf := hit_le h.ok h.lt hz
theorem LeafOk.on_par (h : LeafOk t leaf) {z q : Nat} (hz : onP t leaf z = true) (h0 : z ≠ 0) (hq : gi t.ps z = q) : onP t leaf q = true := by
  have hzl := h.on_le hz
  have hzn : z < t.ps.length := Nat.lt_of_le_of_lt hzl h.lt
  obtain ⟨q', h1, h2⟩ := h.par hzn h0
  obtain rfl : q = q' := by omega
  exact (hit_kid h.ok h.lt).2 (.inr ⟨z, hzn, h2, hq, hz⟩)
theorem LeafOk.on_kid (h : LeafOk t leaf) {z : Nat} (hz : onP t leaf z = true) (hne : z ≠ leaf) : ∃ c, c < t.ps.length ∧ z < c ∧ gi t.ps c = z ∧ onP t leaf c = true := by
  rcases (hit_kid h.ok h.lt).1 hz with e | ⟨c, h1, h2, h3, h4⟩
  · exact absurd e.symm hne
  · exact ⟨c, h1, h2, h3, h4⟩
theorem LeafOk.on_chain (h : LeafOk t leaf) {x y q : Nat} (hx : onP t leaf x = true) (hy : onP t leaf y = true) (hxy : x < y) (hq : gi t.ps y = q) : x ≤ q := by
  have hyn : y < t.ps.length := Nat.lt_of_le_of_lt (h.on_le hy) h.lt
  obtain ⟨q', h1, h2⟩ := h.par hyn (by omega)
  obtain rfl : q = q' := by omega
  have h3 := hit_chain h.ok (Nat.le_of_lt hxy) leaf leaf (Nat.le_refl _) h.lt hx hy
  rw [hit_step h.ok hyn hxy, hq] at h3
  exact hit_le h.ok (show q < _ by omega) h3
theorem LeafOk.on_one (h : LeafOk t leaf) {x y q : Nat} (hx : onP t leaf x = true) (hy : onP t leaf y = true) (hx0 : q < x) (hy0 : q < y) (e1 : gi t.ps x = q) (e2 : gi t.ps y = q) : x = y := by
  rcases Nat.lt_trichotomy x y with c | c | c
  · have := h.on_chain hx hy c e2; omega
  · exact c
  · have := h.on_chain hy hx c e1; omega
theorem LeafOk.on_zero (h : LeafOk t leaf) : onP t leaf 0 = true := by
  have key : ∀ d z, z ≤ d → z < t.ps.length → hitB t.ps 0 z = true := by
    intro d
    induction d with
    | zero => intro z hz _; obtain rfl : z = 0 := by omega
              exact hit_self 0
    | succ d ih =>
      intro z hz hn
      by_cases h0 : z = 0
      · subst h0; exact hit_self 0
      · obtain ⟨q, h1, h2⟩ := h.par hn h0
        rw [hit_step h.ok hn (by omega), h1]
        exact ih q (by omega) (by omega)
  exact key leaf leaf (Nat.le_refl _) h.lt
theorem rr_mem (h : LeafOk t leaf) {p k : Nat} (hp : p < t.ps.length + 1) (hk : k ∈ (rrF t leaf).kids p) :
    (p = t.ps.length ∧ k = leaf) ∨ (p = t.ps.length ∧ leaf ≠ 0 ∧ gi t.ps leaf = k ∧ k < leaf) ∨ (p < t.ps.length ∧ k < t.ps.length ∧ p < k ∧ gi t.ps k = p ∧ onP t leaf k = false) ∨ (p < t.ps.length ∧ onP t leaf p = true ∧ p ≠ leaf ∧ p ≠ 0 ∧ gi t.ps p = k ∧ k < p) := by
  have hk : k ∈ rrQ t leaf p := hk
  unfold rrQ at hk
  split at hk
  · rename_i e
    rcases List.mem_cons.1 hk with e2 | e2
    · exact .inl ⟨e, e2⟩
    · split at e2
      · cases e2
      · rename_i h0
        have e2 : k = (gi t.ps leaf).toNat := by simpa using e2
        obtain ⟨q, h1, h2⟩ := h.par h.lt h0
        exact .inr (.inl ⟨e, h0, by omega, by omega⟩)
  · rename_i e
    split at hk
    · rename_i hz
      rcases List.mem_append.1 hk with h1 | h1
      · obtain ⟨h1, h2⟩ := List.mem_filter.1 h1
        obtain ⟨h3, h4, h5⟩ := mem_kidsL.1 h1
        exact .inr (.inr (.inl ⟨by omega, h3, h4, h5, by simpa using h2⟩))
      · split at h1
        · cases h1
        · rename_i h0
          have h1 : k = (gi t.ps p).toNat := by simpa using h1
          obtain ⟨q, h2, h3⟩ := h.par (z := p) (by omega) h0
          exact .inr (.inr (.inr ⟨by omega, hz.1, hz.2, h0, by omega, by omega⟩))
    · rename_i hz
      obtain ⟨h3, h4, h5⟩ := mem_kidsL.1 hk
      refine .inr (.inr (.inl ⟨by omega, h3, h4, h5, ?_⟩))
      cases hc : onP t leaf k with
      | false => rfl
      | true =>
        have := h.on_par hc (by omega) h5
        have : p = leaf := by
          by_cases c : p = leaf
          · exact c
          · exact absurd ⟨this, c⟩ hz
        rw [this, h.nokid] at hk; cases hk
theorem rk_on (_h : LeafOk t leaf) {z : Nat} (hz : z < t.ps.length) (ho : onP t leaf z = true) (hne : z ≠ leaf) : rkR t leaf z = t.ps.length + 1 + z := by
  unfold rkR; rw [if_neg (by omega), if_pos ⟨ho, hne⟩]
theorem rk_off {z : Nat} (hz : z < t.ps.length) (ho : onP t leaf z = false ∨ z = leaf) : rkR t leaf z = t.ps.length - z := by
  unfold rkR; rw [if_neg (by omega), if_neg]
  · rfl
  · rintro ⟨h1, h2⟩
    rcases ho with e | e
    · rw [e] at h1; cases h1
    · exact h2 e
theorem rk_le (z : Nat) : z < t.ps.length + 1 → rkR t leaf z ≤ 3 * t.ps.length + 3 := fun hz => by
  unfold rkR rkT
  split
  · omega
  · split <;> omega
theorem rr_kids_leaf (h : LeafOk t leaf) : (rrF t leaf).kids leaf = [] := by
  show rrQ t leaf leaf = []
  unfold rrQ
  rw [if_neg (by have := h.lt; omega), if_neg (fun c => c.2 rfl)]
  exact h.nokid
theorem rr_leaf (h : LeafOk t leaf) {z : Nat} (hz : z < t.ps.length + 1) (hk : (rrF t leaf).kids z = []) : z < t.ps.length ∧ (kidsL t.ps z = [] ∨ (z = 0 ∧ (gs t.ns 0).size = 0)) := by
  have hk : rrQ t leaf z = [] := hk
  unfold rrQ at hk
  split at hk
  · cases hk
  · rename_i e
    refine ⟨by omega, ?_⟩
    split at hk
    · rename_i hc
      obtain ⟨c, h1, h2, h3, _⟩ := h.on_kid hc.1 hc.2
      by_cases h0 : z = 0
      · subst h0; exact .inr ⟨rfl, inner_empty h.te h1 h2 h3⟩
      · rw [if_neg h0] at hk
        simp at hk
    · exact .inl hk
theorem tleaf_named (h : treeErr t = 0) {z : Nat} (hz : z < t.ps.length) (hk : kidsL t.ps z = []) : namedB (gs t.ns z).data.toList = true := by
  obtain ⟨_, _, _, hok, _⟩ := treeErr_zero h
  refine (leaf_named h hz ?_).1
  cases hin : isIn t.ps z with
  | false => rfl
  | true => exact absurd hk ((kids_isIn hok z).2 hin)
theorem rr_arb (h : LeafOk t leaf) : Arb (rrF t leaf) (t.ps.length + 1) (rkR t leaf) := by
  have hlt := h.lt
  refine ⟨⟨fun p hp k hk => ?_⟩, fun p q k hp hq h1 h2 => ?_, fun i hi => ?_, fun a b ha hb h1 h2 e => ?_⟩
  · rcases rr_mem h hp hk with ⟨rfl, rfl⟩ | ⟨rfl, h0, e, hlt2⟩ | ⟨h1, h2, h3, e, ho⟩ | ⟨h1, ho, hne, h0, e, hlt2⟩
    · refine ⟨by omega, ?_⟩
      rw [rk_off h.lt (.inr rfl)]
      unfold rkR; rw [if_pos rfl]; omega
    · refine ⟨by omega, ?_⟩
      rw [rk_on h (by omega) (h.on_par h.on_self h0 e) (by omega)]
      unfold rkR; rw [if_pos rfl]; omega
    · refine ⟨by omega, ?_⟩
      rw [rk_off h2 (.inl ho)]
      by_cases c : onP t leaf p = true ∧ p ≠ leaf
      · rw [rk_on h h1 c.1 c.2]; omega
      · have : onP t leaf p = false ∨ p = leaf := by
          cases hc : onP t leaf p with
          | false => exact .inl rfl
          | true => exact .inr (Classical.byContradiction fun x => c ⟨hc, x⟩)
        rw [rk_off h1 this]; omega
    · refine ⟨by omega, ?_⟩
      rw [rk_on h h1 ho hne, rk_on h (by omega) (h.on_par ho h0 e) (by have := h.on_le ho; omega)]; omega
  · have hon : ∀ p, p < t.ps.length + 1 → k ∈ (rrF t leaf).kids p → (onP t leaf k = false ∧ p < t.ps.length ∧ gi t.ps k = p) ∨ (onP t leaf k = true ∧ (p = t.ps.length ∧ (k = leaf ∨ gi t.ps leaf = k ∧ k < leaf) ∨ p < t.ps.length ∧ onP t leaf p = true ∧ p ≠ leaf ∧ gi t.ps p = k ∧ k < p)) := fun p hp hk => by
      rcases rr_mem h hp hk with ⟨rfl, rfl⟩ | ⟨rfl, h0, e, hlt2⟩ | ⟨h1, h2, h3, e, ho⟩ | ⟨h1, ho, hne, h0, e, hlt2⟩
      · exact .inr ⟨h.on_self, .inl ⟨rfl, .inl rfl⟩⟩
      · exact .inr ⟨h.on_par h.on_self h0 e, .inl ⟨rfl, .inr ⟨e, hlt2⟩⟩⟩
      · exact .inl ⟨ho, h1, e⟩
      · exact .inr ⟨h.on_par ho h0 e, .inr ⟨h1, ho, hne, e, hlt2⟩⟩
    rcases hon p hp h1 with ⟨a1, a2, a3⟩ | ⟨a1, a2⟩
    · rcases hon q hq h2 with ⟨_, b2, b3⟩ | ⟨b1, _⟩
      · omega
      · rw [a1] at b1; cases b1
    · rcases hon q hq h2 with ⟨b1, _⟩ | ⟨_, b2⟩
      · rw [a1] at b1; cases b1
      · rcases a2 with ⟨a2, a3⟩ | ⟨a2, a3, a4, a5, a6⟩
        · rcases b2 with ⟨b2, b3⟩ | ⟨b2, b3, b4, b5, b6⟩
          · omega
          · exfalso
            have := h.on_le b3
            rcases a3 with e | ⟨e, e2⟩
            · omega
            · exact b4 (h.on_one b3 h.on_self b6 e2 b5 e)
        · rcases b2 with ⟨b2, b3⟩ | ⟨b2, b3, b4, b5, b6⟩
          · exfalso
            have := h.on_le a3
            rcases b3 with e | ⟨e, e2⟩
            · omega
            · exact a4 (h.on_one a3 h.on_self a6 e2 a5 e)
          · exact h.on_one a3 b3 a6 b6 a5 b5
  · show (rrQ t leaf i).Nodup
    unfold rrQ
    have hkn : (kidsL t.ps i).Nodup := List.Pairwise.filter _ List.nodup_range
    split
    · split
      · simp
      · rename_i h0
        obtain ⟨q, h1, h2⟩ := h.par hlt h0
        simp; omega
    · split
      · split
        · rw [List.append_nil]; exact hkn.filter _
        · rename_i hi2 _ h0
          obtain ⟨q, h1, h2⟩ := h.par (z := i) (by omega) h0
          rw [List.nodup_append]
          refine ⟨hkn.filter _, by simp, fun a ha b hb e => ?_⟩
          have hb : b = (gi t.ps i).toNat := by simpa using hb
          have := (mem_kidsL.1 (List.mem_filter.1 ha).1).2.1
          omega
      · exact hkn
  · obtain ⟨a1, a2⟩ := rr_leaf h ha h1
    obtain ⟨b1, b2⟩ := rr_leaf h hb h2
    have e : gs t.ns a = gs t.ns b := by
      have e : upd (gs t.ns) t.ps.length ByteArray.empty a = upd (gs t.ns) t.ps.length ByteArray.empty b := e
      rw [upd_ne _ _ (by omega), upd_ne _ _ (by omega)] at e; exact e
    rcases a2 with a2 | ⟨a2, a3⟩
    · rcases b2 with b2 | ⟨b2, b3⟩
      · exact (frT_arb h.te).names a b a1 b1 a2 b2 e
      · subst b2
        exact absurd b3 (by rw [← e]; exact named_size (tleaf_named h.te a1 a2))
    · rcases b2 with b2 | ⟨b2, b3⟩
      · subst a2
        exact absurd a3 (by rw [e]; exact named_size (tleaf_named h.te b1 b2))
      · omega
theorem rr_len (h : LeafOk t leaf) (z : Nat) (hz : z < t.ps.length + 1) : ((rrF t leaf).kids z).length ≤ 1000 := by
  have h64 := (treeErr_zero h.te).2.1
  have := nodup_le ((rr_arb h).nodup z hz) (fun k hk => ((rr_arb h).wf.kid z hz k hk).1)
  omega
theorem rr_all (h : LeafOk t leaf) : ∀ z, z < t.ps.length + 1 → subF (rrF t leaf) (rkR t leaf) t.ps.length z = true := by
  have hw := (rr_arb h).wf
  have hn : t.ps.length < t.ps.length + 1 := Nat.lt_succ_self _
  have step : ∀ {p z : Nat}, p < t.ps.length + 1 → z ∈ (rrF t leaf).kids p → subF (rrF t leaf) (rkR t leaf) t.ps.length p = true → subF (rrF t leaf) (rkR t leaf) t.ps.length z = true := fun {p z} hp hz hs =>
    sub_trans hw hn (Nat.le_refl _) hs (subF_kid hw hp hz (subF_self hw (hw.kid p hp z hz).1))
  have hon : ∀ d z, leaf - z ≤ d → onP t leaf z = true → subF (rrF t leaf) (rkR t leaf) t.ps.length z = true := by
    intro d
    induction d with
    | zero =>
      intro z hd ho
      have := h.on_le ho
      obtain rfl : z = leaf := by omega
      refine step hn ?_ (subF_self hw hn)
      show z ∈ rrQ t z t.ps.length
      unfold rrQ; rw [if_pos rfl]; simp
    | succ d ih =>
      intro z hd ho
      by_cases hne : z = leaf
      · exact ih z (by omega) ho
      · obtain ⟨c, h1, h2, h3, h4⟩ := h.on_kid ho hne
        by_cases hc : c = leaf
        · subst hc
          refine step hn ?_ (subF_self hw hn)
          show z ∈ rrQ t c t.ps.length
          unfold rrQ; rw [if_pos rfl, if_neg (by omega), h3]; simp
        · refine step (p := c) (by omega) ?_ (ih c (by omega) h4)
          show z ∈ rrQ t leaf c
          unfold rrQ; rw [if_neg (by omega), if_pos ⟨h4, hc⟩, if_neg (by omega), h3]; simp
  have hall : ∀ d z, z ≤ d → z < t.ps.length → subF (rrF t leaf) (rkR t leaf) t.ps.length z = true := by
    intro d
    induction d with
    | zero =>
      intro z hd hz
      obtain rfl : z = 0 := by omega
      exact hon leaf 0 (by omega) h.on_zero
    | succ d ih =>
      intro z hd hz
      cases ho : onP t leaf z with
      | true => exact hon leaf z (by omega) ho
      | false =>
        have h0 : z ≠ 0 := fun e => by subst e; rw [h.on_zero] at ho; cases ho
        obtain ⟨q, h1, h2⟩ := h.par hz h0
        refine step (p := q) (by omega) ?_ (ih q (by omega) (by omega))
        have hm : z ∈ kidsL t.ps q := mem_kidsL.2 ⟨hz, h2, h1⟩
        show z ∈ rrQ t leaf q
        unfold rrQ
        rw [if_neg (by omega)]
        split
        · exact List.mem_append_left _ (List.mem_filter.2 ⟨hm, by simp [ho]⟩)
        · exact hm
  intro z hz
  by_cases e : z = t.ps.length
  · subst e; exact subF_self hw hz
  · exact hall z z (Nat.le_refl _) (by omega)
end
end Go.Proofs.YtpjijbophjdgaaaGreat
