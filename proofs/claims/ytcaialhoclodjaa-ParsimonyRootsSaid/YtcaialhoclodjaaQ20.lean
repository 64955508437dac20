/- Which nodes lie below a node of a tree that is numbered depth first. The forest that pruned leaves: plain. Reroot: what its loop does to the forest. Contracts: Support, Original, Significant of sharederror. Contracts of the references: Check of layer 30; right, check, Support, Original, Significant of layer 35. The contracts of layer 35's reference's has, common, conflict. Maps whose keys are strings. What Consistent computes: plain. Which parts the rose tree of nested sets has: the sets, and the single sources. The contract of slices.Sort at strings: the laying. slices.Sort at strings that the call has built. The law's names: A, B, .. slices.Equal at strings. The plain law of SharederrorLeaves. A region that draws its order, only reads, and ends in one operation that may write: outside a round. The walk of sharederror.Consistent. The contract of slices.Sort at ints: the laying. slices.Sort at ints that the call has built. The law's leaves. What the sets of Consistent hold; at Tree's tree. -/
import Derived.Test.YtcaialhoclodjaaQ15
import Derived.Test.YtcaialhoclodjaaQ16
import Derived.Test.YtcaialhoclodjaaQ19
import Derived.Test.YtcaialhoclodjaaQ17
import Derived.Test.YtcaialhoclodjaaQ7
import Derived.Test.YtcaialhoclodjaaQ8
import Derived.Test.YtcaialhoclodjaaQ18
import Derived.Shelf.SlGeneric
import Derived.Shelf.Lays
import Derived.Shelf.Sort.Plain
import Derived.Ground.NamesProg
import Derived.Test.YtcaialhoclodjaaProg
import Derived.Test.YtcaialhoclodjaaQ1
import Derived.Sort.OwnSorted
import Derived.Shelf.Slices.In.SortNone
import Derived.Laws.IdiomStrings
import Derived.Test.YtcaialhoclodjaaQ2
import Derived.Test.YtcaialhoclodjaaQ6
import Derived.Shelf.SlLaysM
import Derived.Ground.SlgmProg
import Derived.Shelf.SortM.Plain
import Derived.Shelf.SortM.SortNone
import Derived.Sort.OwnSortedInts
namespace Go.Proofs.Ytcaialhoclodjaa
/-- Up from k, while above n. -/
def climb (ps : List Int) (n : Nat) : Nat → Nat → Nat
  | 0, k => k
  | d + 1, k => if n < k then climb ps n d (gi ps k).toNat else k
def hitB (ps : List Int) (n i : Nat) : Bool := decide (climb ps n i i = n)
theorem pOkB_par {ps : List Int} (h : pOkB ps = true) {k : Nat} (hk : k < ps.length) (h0 : 0 < k) : 0 ≤ gi ps k ∧ gi ps k < k := by
  have h1 := pOkB_at h hk
  unfold okp at h1
  rw [if_neg (by omega)] at h1
  simpa using h1
theorem climb_fuel {ps : List Int} (hp : pOkB ps = true) (n : Nat) : ∀ {d e k : Nat}, k < ps.length → k ≤ d → k ≤ e → climb ps n d k = climb ps n e k := by
  intro d
  induction d with
  | zero =>
    intro e k hl h1 h2
    obtain rfl : k = 0 := by omega
    cases e with
    | zero => rfl
    | succ e => simp [climb]
  | succ d ih =>
    intro e k hl h1 h2
    cases e with
    | zero =>
      obtain rfl : k = 0 := by omega
      simp [climb]
    | succ e =>
      rw [climb, climb]
      split
      · rename_i hnk
        have := pOkB_par hp hl (by omega)
        exact ih (by omega) (by omega) (by omega)
      · rfl
theorem climb_step {ps : List Int} (hp : pOkB ps = true) {n k : Nat} (hk : k < ps.length) (hn : n < k) : climb ps n k k = climb ps n (gi ps k).toNat (gi ps k).toNat := by
  have h1 := pOkB_par hp hk (by omega)
  obtain ⟨m, rfl⟩ : ∃ m, k = m + 1 := ⟨k - 1, by omega⟩
  rw [climb, if_pos hn]
  exact climb_fuel hp n (by omega) (by omega) (Nat.le_refl _)
theorem climb_stop {ps : List Int} {n k : Nat} (hn : ¬ n < k) : climb ps n k k = k := by
  cases k with
  | zero => rfl
  | succ k => rw [climb, if_neg hn]

/-- Node j lies below i: it is i, or lies below a child of i. -/
theorem hit_self {ps : List Int} (i : Nat) : hitB ps i i = true := by unfold hitB; rw [climb_stop (by omega)]; simp
theorem hit_le {ps : List Int} (_ : pOkB ps = true) {i : Nat} : ∀ {j : Nat}, j < ps.length → hitB ps i j = true → i ≤ j := by
  intro j
  induction j using Nat.strongRecOn with
  | ind j ih =>
    intro hj h
    by_cases e : i < j
    · omega
    · unfold hitB at h
      rw [climb_stop e] at h
      have : j = i := by simpa using h
      omega
theorem hit_step {ps : List Int} (hp : pOkB ps = true) {i j : Nat} (hj : j < ps.length) (hi : i < j) : hitB ps i j = hitB ps i (gi ps j).toNat := by
  unfold hitB; rw [climb_step hp hj hi]
theorem hit_kid {ps : List Int} (hp : pOkB ps = true) {i : Nat} : ∀ {j : Nat}, j < ps.length → (hitB ps i j = true ↔ j = i ∨ ∃ c, c < ps.length ∧ i < c ∧ gi ps c = (i : Int) ∧ hitB ps c j = true) := by
  intro j
  induction j using Nat.strongRecOn with
  | ind j ih =>
    intro hj
    by_cases e : i < j
    · have hpar := pOkB_par hp hj (by omega)
      have hpn : ((gi ps j).toNat : Int) = gi ps j := Int.toNat_of_nonneg hpar.1
      have hpl : (gi ps j).toNat < j := by omega
      rw [hit_step hp hj e, ih _ hpl (by omega)]
      constructor
      · rintro (h | ⟨c, h1, h2, h3, h4⟩)
        · exact .inr ⟨j, hj, e, by omega, hit_self j⟩
        · have := hit_le hp (show (gi ps j).toNat < ps.length by omega) h4
          exact .inr ⟨c, h1, h2, h3, by rw [hit_step hp hj (by omega)]; exact h4⟩
      · rintro (h | ⟨c, h1, h2, h3, h4⟩)
        · omega
        · have hcj := hit_le hp hj h4
          by_cases ec : c = j
          · subst ec; left; omega
          · right
            exact ⟨c, h1, h2, h3, by rw [hit_step hp hj (by omega)] at h4; exact h4⟩
    · unfold hitB
      rw [climb_stop e]
      constructor
      · intro h; left; simpa using h
      · rintro (h | ⟨c, h1, h2, h3, h4⟩)
        · simpa using h
        · have := hit_le hp hj h4; omega
end Go.Proofs.Ytcaialhoclodjaa
namespace Go.Proofs.Ytcaialhoclodjaa
mutual
theorem size_contr : ∀ r : RT, sizeR (contrR r) ≤ sizeR r
  | .node nm [] => by rw [contrR]; exact Nat.le_refl _
  | .node nm [k] => by
    have := size_contr k
    rw [contrR, sizeR, sizeRs, sizeRs]; omega
  | .node nm (a :: b :: ks) => by
    have h1 := size_contr a
    have h2 := size_contr b
    have h3 := sizes_contr ks
    rw [contrR]
    simp only [sizeR, sizeRs]
    omega
theorem sizes_contr : ∀ rs : List RT, sizeRs (contrRs rs) ≤ sizeRs rs
  | [] => by rw [contrRs]; exact Nat.le_refl _
  | r :: rs => by
    have h1 := size_contr r
    have h2 := sizes_contr rs
    rw [contrRs, sizeRs, sizeRs]; omega
end
section
variable {F : Frs} {n : Nat} {rk : Nat → Nat} {P : Nat → Bool}
theorem pr_kids {i z : Nat} (hs : subF F rk i z = true) : (F.sub rk (prQ F P rk) i).kids z = (F.kids z).filter (al F P rk) := by
  show (if _ then _ else _) = _
  rw [if_pos hs]; rfl
theorem pr_mem {i z j : Nat} (hj : j ∈ (F.sub rk (prQ F P rk) i).kids z) : j ∈ F.kids z := by
  have hj : j ∈ if _ then _ else _ := hj
  split at hj
  · exact (List.mem_filter.1 hj).1
  · exact hj
theorem pr_wf (h : Wf F n rk) (i : Nat) : Wf (F.sub rk (prQ F P rk) i) n rk := ⟨fun z hz j hj => h.kid z hz j (pr_mem hj)⟩
theorem pr_len (hl : ∀ z, z < n → (F.kids z).length ≤ 1000) (i z : Nat) (hz : z < n) : ((F.sub rk (prQ F P rk) i).kids z).length ≤ 1000 := by
  show (if _ then _ else _ : List Nat).length ≤ _
  split
  · exact Nat.le_trans (List.length_filter_le _ _) (hl z hz)
  · exact hl z hz
/-- What lies below x in the pruned forest lay below it before. -/
theorem pr_below (h : Wf F n rk) (i : Nat) : ∀ (d x z : Nat), rk x ≤ d → x < n → subF (F.sub rk (prQ F P rk) i) rk x z = true → subF F rk x z = true
  | d, x, z, hd, hx, hs => by
    rcases subF_cases (pr_wf h i) hx hs with e | ⟨k, hk, h2⟩
    · subst e; exact subF_self h hx
    · have hk := pr_mem hk
      have hkk := h.kid x hx k hk
      cases d with
      | zero => omega
      | succ d => exact subF_kid h hx hk (pr_below h i d k z (by omega) hkk.1 h2)
/-- What lies below the root of the pruned forest stays. -/
theorem pr_alive (h : Wf F n rk) {i : Nat} (hi : i < n) : ∀ (d x z : Nat), rk x ≤ d → x < n → subF F rk i x = true → al F P rk x = true → subF (F.sub rk (prQ F P rk) i) rk x z = true → al F P rk z = true
  | d, x, z, hd, hx, hix, ha, hs => by
    rcases subF_cases (pr_wf h i) hx hs with e | ⟨k, hk, h2⟩
    · subst e; exact ha
    · rw [pr_kids hix] at hk
      obtain ⟨hk, hka⟩ := List.mem_filter.1 hk
      have hkk := h.kid x hx k hk
      cases d with
      | zero => omega
      | succ d => exact pr_alive h hi d k z (by omega) hkk.1 (sub_trans h hi (Nat.le_refl _) hix (subF_kid h hx hk (subF_self h hkk.1))) hka h2
/-- What stays below x is reached from it. -/
theorem pr_reach (h : Wf F n rk) {i : Nat} (hi : i < n) : ∀ (d x z : Nat), rk x ≤ d → x < n → subF F rk i x = true → subF F rk x z = true → al F P rk z = true → al F P rk x = true ∧ subF (F.sub rk (prQ F P rk) i) rk x z = true
  | d, x, z, hd, hx, hix, hs, ha => by
    rcases subF_cases h hx hs with e | ⟨k, hk, h2⟩
    · subst e; exact ⟨ha, subF_self (pr_wf h i) hx⟩
    · have hkk := h.kid x hx k hk
      cases d with
      | zero => omega
      | succ d =>
        obtain ⟨h3, h4⟩ := pr_reach h hi d k z (by omega) hkk.1 (sub_trans h hi (Nat.le_refl _) hix (subF_kid h hx hk (subF_self h hkk.1))) h2 ha
        refine ⟨?_, subF_kid (pr_wf h i) hx (by rw [pr_kids hix]; exact List.mem_filter.2 ⟨hk, h3⟩) h4⟩
        rw [al_eq h hx, if_neg fun e => by rw [e] at hk; cases hk]
        exact List.any_eq_true.2 ⟨k, hk, h3⟩
theorem pr_dis (h : Wf F n rk) {i : Nat} (hi : i < n) (hD : Dis F n rk i) : Dis (F.sub rk (prQ F P rk) i) n rk i := fun z hz hs => by
  have hs2 := pr_below h i _ i z (Nat.le_refl _) hi hs
  obtain ⟨h1, h2⟩ := hD z hz hs2
  refine ⟨by rw [pr_kids hs2]; exact h1.filter _, fun x hx y hy j a b => ?_⟩
  have hx := pr_mem hx
  have hy := pr_mem hy
  exact h2 x hx y hy j (pr_below h i _ x j (Nat.le_refl _) (h.kid z hz x hx).1 a) (pr_below h i _ y j (Nat.le_refl _) (h.kid z hz y hy).1 b)
theorem pr_out (h : Wf F n rk) {i : Nat} (hi : i < n) (hall : ∀ z, z < n → subF F rk i z = true) : ∀ z, z < n → subF (F.sub rk (prQ F P rk) i) rk i z = false → ((F.sub rk (prQ F P rk) i).kids z).length ≤ 1 := fun z hz hs => by
  have h1 := hall z hz
  rw [pr_kids h1]
  have : (F.kids z).filter (al F P rk) = [] := by
    rw [List.filter_eq_nil_iff]
    intro k hk ha
    have hkk := h.kid z hz k hk
    have hza : al F P rk z = true := by
      rw [al_eq h hz, if_neg fun e => by rw [e] at hk; cases hk]
      exact List.any_eq_true.2 ⟨k, hk, ha⟩
    rw [(pr_reach h hi _ i z (Nat.le_refl _) hi (subF_self h hi) h1 hza).2] at hs
    cases hs
  rw [this]; exact Nat.zero_le _
theorem sublist_flatMap {f g : Nat → List ByteArray} {p : Nat → Bool} : ∀ l : List Nat, (∀ k ∈ l, p k = true → (f k).Sublist (g k)) → ((l.filter p).flatMap f).Sublist (l.flatMap g)
  | [], _ => List.Sublist.refl _
  | a :: l, h => by
    have ih := sublist_flatMap l fun k hk => h k (by simp [hk])
    rw [List.flatMap_cons]
    by_cases ha : p a = true
    · rw [List.filter_cons_of_pos ha, List.flatMap_cons]
      exact (h a (by simp) ha).append ih
    · rw [List.filter_cons_of_neg ha]
      exact ih.trans (List.sublist_append_right _ _)
theorem good_size (h : Wf F n rk) {i : Nat} (hi : i < n) (hg : GoodR (toRF F rk i)) : sizeR (toRF F rk i) ≤ n := by
  rw [← subR_len, subR_toRF h hi (Nat.le_refl _), List.length_map]
  exact nodup_le (good_nodes h _ i (Nat.le_refl _) hi hg) fun x hx => subF_lt h hi (Nat.le_refl _) ((mem_nodesF h hi (Nat.le_refl _)).1 hx)
end
end Go.Proofs.Ytcaialhoclodjaa
namespace Go.Proofs.Ytcaialhoclodjaa
open Go.RowKit Go.Deep
section
variable {base n : Nat} {A : Nat → Nat} {kv : Nat → Value} {F : Frs} {w w' : World}
/-- A node with children is laid. -/
theorem FAt.node_kids (h : FAt base n A kv F w) (hb : base ≤ w.heap.size) {v : Value} {ks : List Nat} (nm : ByteArray) (old : Int) (hv : Owns base 66 w v (ks.map (nptr A)))
    (hA : ∀ b, v.ownBlock = some b → ∀ i, i < n → b ≠ A i) (hkv : ∀ b, v.ownBlock = some b → ∀ i, i < n → (kv i).ownBlock ≠ some b) (hks : ∀ j ∈ ks, j < n) :
    FAt base (n + 1) (upd A n w.heap.size) (upd kv n v) ⟨upd F.nm n nm, upd F.old n old, upd F.kids n ks⟩ (w.alloc (.cells #[.string nm, v, .int .i64 old] 68)) := by
  have hne : ∀ i, i < n → i ≠ n := fun i hi => by omega
  have hmap : ∀ l : List Nat, (∀ k ∈ l, k < n) → l.map (nptr (upd A n w.heap.size)) = l.map (nptr A) := fun l hl => by
    refine List.map_congr_left fun k hk => ?_
    unfold nptr; rw [upd_ne _ _ (hne k (hl k hk))]
  have hcase : ∀ i, i < n + 1 → i < n ∨ i = n := fun i hi => by omega
  refine ⟨fun i hi => ?_, fun i hi => ?_, fun i j hi hj e => ?_, fun i hi => ?_, fun i j hi hj => ?_, fun i j b hi hj h1 h2 => ?_, fun i hi => ?_⟩
  · rcases hcase i hi with hi | rfl
    · simp only [upd_ne _ _ (hne i hi)]; rw [blk_alloc_lt _ _ _ (h.lt hi)]; exact h.node i hi
    · simp only [upd_same]; exact blk_alloc_new _ _
  · rcases hcase i hi with hi | rfl
    · rw [upd_ne _ _ (hne i hi)]; exact h.lo i hi
    · rw [upd_same]; exact hb
  · rcases hcase i hi with hi | rfl <;> rcases hcase j hj with hj | rfl
    · rw [upd_ne _ _ (hne i hi), upd_ne _ _ (hne j hj)] at e; exact h.inj i j hi hj e
    · rw [upd_ne _ _ (hne i hi), upd_same] at e; have := h.lt hi; omega
    · rw [upd_same, upd_ne _ _ (hne j hj)] at e; have := h.lt hj; omega
    · rfl
  · rcases hcase i hi with hi | rfl
    · simp only [upd_ne _ _ (hne i hi)]; rw [hmap _ (h.kid i hi)]; exact (h.own i hi).alloc _
    · simp only [upd_same]; rw [hmap _ hks]; exact hv.alloc _
  · rcases hcase i hi with hi | rfl
    · rw [upd_ne _ _ (hne i hi)]
      rcases hcase j hj with hj | rfl
      · rw [upd_ne _ _ (hne j hj)]; exact h.apart i j hi hj
      · rw [upd_same]; intro e; have := (h.ownlt hi e).2; omega
    · rw [upd_same]
      intro e
      rcases hcase j hj with hj | rfl
      · rw [upd_ne _ _ (hne j hj)] at e; exact hA _ e j hj rfl
      · rw [upd_same] at e; have := (ownBlock_lt hv e).2; omega
  · rcases hcase i hi with hi | rfl <;> rcases hcase j hj with hj | rfl
    · rw [upd_ne _ _ (hne i hi)] at h1; rw [upd_ne _ _ (hne j hj)] at h2; exact h.alone i j b hi hj h1 h2
    · rw [upd_ne _ _ (hne i hi)] at h1; rw [upd_same] at h2; exact absurd h1 (hkv b h2 i hi)
    · rw [upd_same] at h1; rw [upd_ne _ _ (hne j hj)] at h2; exact absurd h2 (hkv b h1 j hj)
    · rfl
  · rcases hcase i hi with hi | rfl
    · simp only [upd_ne _ _ (hne i hi)]; intro k hk; have := h.kid i hi k hk; omega
    · simp only [upd_same]; intro k hk; have := hks k hk; omega
/-- Children are struck out of a list, in place. -/
theorem FAt.del (h : FAt base n A kv F w) {x g m cap : Nat} {ks : List Nat} (hx : x < n) (hg : (kv x).ownBlock = some g) (hw : w.grownBy w' (some g)) (hv : Owns base 66 w' (.slice (some ⟨g, 0, none⟩) m cap) (ks.map (nptr A))) (hks : ∀ j ∈ ks, j < n) :
    FAt base n A (upd kv x (.slice (some ⟨g, 0, none⟩) m cap)) { F with kids := upd F.kids x ks } (w'.setCell ⟨A x, 1, none⟩ (.slice (some ⟨g, 0, none⟩) m cap)) := by
  have hold : ∀ i, i < n → w'.heap[A i]? = w.heap[A i]? := fun i hi => hw.block (A i) (h.lt hi) (fun e => h.apart x i hx hi (by rw [hg, e]))
  have hgA : g ≠ A x := fun e => h.apart x x hx hx (by rw [hg, e])
  refine h.put hx (fun i hi e => ?_) ?_ (hv.same fun b hb => blk_setCell_other _ _ _ _ (by have hb : some g = some b := hb; injection hb with hb; subst hb; exact hgA)) (fun i b hi e hb2 => ?_) (fun b hb => .inl (by rw [hg]; exact hb)) hks
  · rw [blk_setCell_other _ _ _ _ (fun e2 => e (h.inj i x hi hx e2))]; exact hold i hi
  · have hn := hold x hx
    rw [h.node x hx] at hn
    simp [World.setCell, Array.getElem?_modify, hn]
  · have hne : b ≠ A x := fun e2 => h.apart i x hi hx (by rw [hb2, e2])
    rw [blk_setCell_other _ _ _ _ hne]
    exact hw.block b (h.ownlt hi hb2).2 (fun e2 => e (h.alone i x b hi hx hb2 (by rw [hg, e2])))
end
/-- One turn: x loses the child from, and hangs below h. -/
def rrS (F : Frs) (h frm x : Nat) : Frs := ⟨F.nm, F.old, upd (upd F.kids x ((F.kids x).filter fun k => !decide (F.old k = (frm : Int)))) h (upd F.kids x ((F.kids x).filter fun k => !decide (F.old k = (frm : Int))) h ++ [x])⟩
structure RrS where
  fr : Frs
  hang : Nat
  frm : Nat
  cur : Int
/-- Behind i turns. -/
def rrK (t : Tre) (leaf : Nat) : Nat → RrS
  | 0 => ⟨⟨upd (frT t).nm t.ps.length ByteArray.empty, upd (frT t).old t.ps.length 0, upd (frT t).kids t.ps.length [leaf]⟩, t.ps.length, leaf, gi t.ps leaf⟩
  | i + 1 => if (rrK t leaf i).cur < 0 then rrK t leaf i else ⟨rrS (rrK t leaf i).fr (rrK t leaf i).hang (rrK t leaf i).frm (rrK t leaf i).cur.toNat, (rrK t leaf i).cur.toNat, (rrK t leaf i).cur.toNat, gi t.ps (rrK t leaf i).cur.toNat⟩
theorem rrK_go {t : Tre} {leaf i : Nat} (h : ¬ (rrK t leaf i).cur < 0) : rrK t leaf (i + 1) = ⟨rrS (rrK t leaf i).fr (rrK t leaf i).hang (rrK t leaf i).frm (rrK t leaf i).cur.toNat, (rrK t leaf i).cur.toNat, (rrK t leaf i).cur.toNat, gi t.ps (rrK t leaf i).cur.toNat⟩ := by rw [rrK, if_neg h]
/-- What is known of the turns: the parents fall, the numbers are nodes. -/
theorem rrK_inv {t : Tre} (ht : treeErr t = 0) {leaf : Nat} (hl : leaf < t.ps.length) : ∀ i, (rrK t leaf i).frm < t.ps.length ∧ (rrK t leaf i).hang < t.ps.length + 1 ∧ (rrK t leaf i).cur = gi t.ps (rrK t leaf i).frm ∧ (rrK t leaf i).cur < (rrK t leaf i).frm ∧ ((rrK t leaf i).hang = t.ps.length ∨ (rrK t leaf i).hang = (rrK t leaf i).frm) ∧ -1 ≤ (rrK t leaf i).cur := by
  obtain ⟨hp, _, _, hok, _⟩ := treeErr_zero ht
  have hpar : ∀ k, k < t.ps.length → -1 ≤ gi t.ps k ∧ gi t.ps k < (k : Int) := fun k hk => by
    by_cases h0 : k = 0
    · subst h0
      have := pOkB_at hok hp
      unfold okp at this
      rw [if_pos rfl, beq_iff_eq] at this
      rw [this]; omega
    · have := pOkB_par hok hk (by omega); omega
  intro i
  induction i with
  | zero => exact ⟨hl, by show t.ps.length < _; omega, rfl, (hpar leaf hl).2, .inl rfl, (hpar leaf hl).1⟩
  | succ i ih =>
    by_cases hc : (rrK t leaf i).cur < 0
    · rw [rrK, if_pos hc]; exact ih
    · rw [rrK_go hc]
      have hx : (rrK t leaf i).cur.toNat < t.ps.length := by omega
      exact ⟨hx, by show (rrK t leaf i).cur.toNat < _; omega, rfl, (hpar _ hx).2, .inr rfl, (hpar _ hx).1⟩
end Go.Proofs.Ytcaialhoclodjaa
namespace Go.Proofs.Ytcaialhoclodjaa
open Go.RowKit Go.Deep
section
variable {P : Program} {ops : Array Oper} {rest : List Oper} {o : Oper} {a : Act} {Q : Exit → Act → World → Prop}
end
end Go.Proofs.Ytcaialhoclodjaa
namespace Go.Proofs.Ytcaialhoclodjaa
open Go.RowKit Go.Deep
end Go.Proofs.Ytcaialhoclodjaa
namespace Go.Proofs.Ytcaialhoclodjaa
open Go.RowKit Go.Deep
/-- How many of the first numbers are in another list. -/
def comK (a b : List Int) : Nat → Nat
  | 0 => 0
  | k + 1 => comK a b k + if gi a k ∈ b then 1 else 0
theorem comK_le (a b : List Int) : ∀ k, comK a b k ≤ k
  | 0 => Nat.le_refl _
  | k + 1 => by have := comK_le a b k; rw [comK]; split <;> omega
end Go.Proofs.Ytcaialhoclodjaa
namespace Go.Proofs.Ytcaialhoclodjaa
open Go.RowKit Go.Deep
/-- The map at block b holds the entries l. -/
def SMap (w : World) (b : Nat) (l : List (ByteArray × Value)) : Prop := ∃ es clock, w.heap[b]? = some (.map es clock) ∧ es.toList.map (fun x => (x.key, x.val)) = l.map (fun x => (Value.string x.1, x.2))
section
variable {P : Program} {w : World}
theorem SMap.made (w : World) : SMap (w.alloc (.map #[] 0)) w.heap.size [] := ⟨#[], 0, (MapKept.heap_alloc w _).1, rfl⟩
theorem SMap.same {w' : World} {b : Nat} {l : List (ByteArray × Value)} (h : SMap w b l) (hb : w'.heap[b]? = w.heap[b]?) : SMap w' b l := by
  obtain ⟨es, clock, h1, h2⟩ := h
  exact ⟨es, clock, hb.trans h1, h2⟩
theorem SMap.lt {b : Nat} {l : List (ByteArray × Value)} (h : SMap w b l) : b < w.heap.size := by
  obtain ⟨es, clock, h1, _⟩ := h
  exact (Array.getElem?_eq_some_iff.1 h1).1
end
end Go.Proofs.Ytcaialhoclodjaa
namespace Go.Proofs.Ytcaialhoclodjaa
end Go.Proofs.Ytcaialhoclodjaa
namespace Go.Proofs.Ytcaialhoclodjaa
/-- A sorted list of sources is the list of the bits of its set. -/
theorem src_bits {l : List Int} {n : Nat} (h : srcOk l = true) (hn : ∀ x ∈ l, x < n) : l = (bitsN n (ofS l)).map Int.ofNat := by
  obtain ⟨hs, _, hm⟩ := srcOk_small h
  have asc : ∀ k, k < l.length → ∀ j, j < k → gi l j < gi l k := by
    intro k
    induction k with
    | zero => intro _ j hj; omega
    | succ k ih =>
      intro hk j hj
      have h1 := hm (k + 1) (by omega) hk
      rw [Nat.add_sub_cancel] at h1
      by_cases e : j = k
      · subst e; exact h1
      · have := ih (by omega) j (by omega); omega
  have p1 : l.Pairwise (· < ·) := by
    rw [List.pairwise_iff_getElem]
    intro i j hi hj hij
    have := asc j hj i hij
    simpa [gi, hi, hj] using this
  have p2 : ((bitsN n (ofS l)).map Int.ofNat).Pairwise (· < ·) := by
    rw [List.pairwise_map]
    refine (List.Pairwise.filter _ List.pairwise_lt_range).imp fun h => ?_
    exact Int.ofNat_lt.2 h
  have hmem : ∀ x, x ∈ l ↔ x ∈ (bitsN n (ofS l)).map Int.ofNat := by
    intro x
    constructor
    · intro hx
      obtain ⟨i, rfl, _⟩ := small_mem hs hx
      exact List.mem_map.2 ⟨i, mem_bitsN.2 ⟨by have := hn _ hx; omega, (testBit_ofS hs i).2 hx⟩, rfl⟩
    · intro hx
      obtain ⟨i, hi, rfl⟩ := List.mem_map.1 hx
      exact (testBit_ofS hs i).1 (mem_bitsN.1 hi).2
  have nd : ∀ {q : List Int}, q.Pairwise (· < ·) → q.Nodup := fun h => h.imp fun h => by omega
  have hp : l.Perm ((bitsN n (ofS l)).map Int.ofNat) := (List.perm_ext_iff_of_nodup (nd p1) (nd p2)).2 hmem
  exact List.Perm.eq_of_pairwise (le := fun a b : Int => a < b) (fun a b _ _ h1 h2 => by omega) p1 p2 hp
theorem bits_asc (n x : Nat) : (bitsN n x).Pairwise (· < ·) := List.Pairwise.filter _ List.pairwise_lt_range
end Go.Proofs.Ytcaialhoclodjaa
namespace Go.Proofs
open Go.Shelf
end Go.Proofs
namespace Go.Proofs.Ytcaialhoclodjaa
open Go.RowKit Go.Sort Go.Shelf Go.Deep
end Go.Proofs.Ytcaialhoclodjaa
namespace Go.Proofs.Ytcaialhoclodjaa
open Go.RowKit Go.Deep
end Go.Proofs.Ytcaialhoclodjaa
namespace Go.Proofs.Ytcaialhoclodjaa
open Go.RowKit Go.Deep
end Go.Proofs.Ytcaialhoclodjaa
namespace Go.Proofs.Ytcaialhoclodjaa
section
variable {names : List ByteArray} {l : List Grp}
theorem PartOk.sort {r : RT} (h : ∀ s ∈ subR r, PartOk s) : ∀ s ∈ subR (sortR r), PartOk s := by
  intro s hs
  obtain ⟨q, hq, rfl⟩ := List.mem_map.1 ((subR_sort r).mem_iff.1 hs)
  obtain ⟨h1, h2, h3⟩ := h q hq
  refine ⟨fun e => ?_, fun e => ?_, ?_⟩
  · rw [sortR_nm]; rw [sortR_kids] at e; exact h1 (fun e2 => e (sortRs_nil.2 e2))
  · rw [sortR_nm]; rw [sortR_kids] at e; exact h2 (sortRs_nil.1 e)
  · rw [sortR_kids, (sortRs_perm q.kids).length_eq, List.length_map]; exact h3
end
end Go.Proofs.Ytcaialhoclodjaa
namespace Go.Proofs.Ytcaialhoclodjaa
open Go.RowKit Go.Shelf Go.Deep
section
variable {P : Program} {C : World → Prop}
end
end Go.Proofs.Ytcaialhoclodjaa
namespace Go.Proofs.Ytcaialhoclodjaa
open Go.RowKit Go.Shelf Go.Deep
end Go.Proofs.Ytcaialhoclodjaa
namespace Go.Proofs
open Go.Shelf
end Go.Proofs
namespace Go.Proofs.Ytcaialhoclodjaa
open Go.RowKit Go.Shelf Go.Deep Go.Sort
end Go.Proofs.Ytcaialhoclodjaa
namespace Go.Proofs.Ytcaialhoclodjaa
open Go.RowKit Go.Deep
end Go.Proofs.Ytcaialhoclodjaa
namespace Go.Proofs.Ytcaialhoclodjaa
/-- A leaf below node i has the number b. -/
def Under (t : Tre) (num : ByteArray → Nat) (i b : Nat) : Prop := ∃ j, j < t.ps.length ∧ (gs t.ns j).size ≠ 0 ∧ hitB t.ps i j = true ∧ num (gs t.ns j) = b
structure OwnInv (t : Tre) (num : ByteArray → Nat) (k : Nat) (o : List Nat) : Prop where
  len : o.length = t.ps.length
  up : ∀ i, k ≤ i → i < t.ps.length → ∀ b, (gn o i).testBit b = true ↔ Under t num i b
  down : ∀ i, i < k → i < t.ps.length → ∀ b, (gn o i).testBit b = true ↔ ∃ c, k ≤ c ∧ c < t.ps.length ∧ gi t.ps c = (i : Int) ∧ Under t num c b
section
variable {names : List ByteArray} {l : List Grp}
theorem lvs_count (ns : List ByteArray) : (leavesL ns).length = (fltN ns).length := by
  unfold leavesL
  rw [List.length_map]
  have h : ∀ k, k ≤ ns.length → ((List.range k).filter fun i => (gs ns i).size ≠ 0).length = (fltN (ns.take k)).length := by
    intro k
    induction k with
    | zero => intro _; rfl
    | succ k ih =>
      intro hk
      have hg : gs ns k = ns[k] := by simp [gs, show k < ns.length by omega]
      rw [List.range_succ, List.filter_append, List.length_append, ih (by omega), List.take_succ_eq_append_getElem (show k < ns.length by omega), fltN_app, List.length_append, ← hg]
      congr 1
      unfold fltN
      by_cases e : (gs ns k).size ≠ 0
      · rw [List.filter_cons_of_pos (by simpa using e), List.filter_cons_of_pos (by simpa using e)]; rfl
      · rw [List.filter_cons_of_neg (by simpa using e), List.filter_cons_of_neg (by simpa using e)]; rfl
  have := h ns.length (Nat.le_refl _)
  rw [List.take_length] at this
  exact this
end
end Go.Proofs.Ytcaialhoclodjaa
