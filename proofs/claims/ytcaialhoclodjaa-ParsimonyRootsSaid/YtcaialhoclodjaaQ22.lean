/- The turned forest: plain. The turned forest: what the loop gives; what pruned leaves of it. Plain. -/
import Derived.Test.YtcaialhoclodjaaQ20
import Derived.Test.YtcaialhoclodjaaQ21
namespace Go.Proofs.Ytcaialhoclodjaa
/-- Is z the leaf or above it? -/
def onP (t : Tre) (leaf z : Nat) : Bool := hitB t.ps z leaf
def rrQ (t : Tre) (leaf z : Nat) : List Nat :=
  if z = t.ps.length then leaf :: (if leaf = 0 then [] else [(gi t.ps leaf).toNat])
  else if onP t leaf z = true ∧ z ≠ leaf then (kidsL t.ps z).filter (fun k => !onP t leaf k) ++ (if z = 0 then [] else [(gi t.ps z).toNat])
  else kidsL t.ps z
def rrF (t : Tre) (leaf : Nat) : Frs := ⟨upd (gs t.ns) t.ps.length ByteArray.empty, upd (fun i => (i : Int)) t.ps.length 0, rrQ t leaf⟩
def rkR (t : Tre) (leaf z : Nat) : Nat := if z = t.ps.length then 3 * t.ps.length + 3 else if onP t leaf z = true ∧ z ≠ leaf then t.ps.length + 1 + z else rkT t z
structure LeafOk (t : Tre) (leaf : Nat) : Prop where
  te : treeErr t = 0
  lt : leaf < t.ps.length
  nm : (gs t.ns leaf).size ≠ 0
section
variable {t : Tre} {leaf : Nat}
theorem LeafOk.ok (h : LeafOk t leaf) : pOkB t.ps = true := (treeErr_zero h.te).2.2.2.1
theorem LeafOk.pos (h : LeafOk t leaf) : 0 < t.ps.length := (treeErr_zero h.te).1
theorem LeafOk.nokid (h : LeafOk t leaf) : kidsL t.ps leaf = [] := by
  cases hk : kidsL t.ps leaf with
  | nil => rfl
  | cons k l =>
    obtain ⟨h1, h2, h3⟩ := mem_kidsL.1 (show k ∈ kidsL t.ps leaf by rw [hk]; simp)
    exact absurd (inner_empty h.te h1 h2 h3) h.nm
theorem LeafOk.par (h : LeafOk t leaf) {z : Nat} (hz : z < t.ps.length) (h0 : z ≠ 0) : ∃ q : Nat, gi t.ps z = q ∧ q < z := by
  have := pOkB_par h.ok hz (by omega)
  exact ⟨(gi t.ps z).toNat, by omega, by omega⟩
theorem LeafOk.on_self (_h : LeafOk t leaf) : onP t leaf leaf = true := hit_self leaf
theorem LeafOk.on_le (h : LeafOk t leaf) {z : Nat} (hz : onP t leaf z = true) : z ≤ leaf := hit_le h.ok h.lt hz
theorem LeafOk.on_par (h : LeafOk t leaf) {z q : Nat} (hz : onP t leaf z = true) (h0 : z ≠ 0) (hq : gi t.ps z = q) : onP t leaf q = true := by
  have hzl := h.on_le hz
  have hzn : z < t.ps.length := Nat.lt_of_le_of_lt hzl h.lt
  obtain ⟨q', h1, h2⟩ := h.par hzn h0
  obtain rfl : q = q' := by omega
  exact (hit_kid h.ok h.lt).2 (.inr ⟨z, hzn, h2, hq, hz⟩)
theorem LeafOk.on_kid (h : LeafOk t leaf) {z : Nat} (hz : onP t leaf z = true) (hne : z ≠ leaf) : ∃ c, c < t.ps.length ∧ z < c ∧ gi t.ps c = z ∧ onP t leaf c = true := by
  rcases (hit_kid h.ok h.lt).1 hz with e | ⟨c, h1, h2, h3, h4⟩
  · exact absurd e.symm hne
  · exact ⟨c, h1, h2, h3, h4⟩
/-- Of two nodes on the way the lower number lies above. -/
theorem LeafOk.on_chain (h : LeafOk t leaf) {x y q : Nat} (hx : onP t leaf x = true) (hy : onP t leaf y = true) (hxy : x < y) (hq : gi t.ps y = q) : x ≤ q := by
  have hyn : y < t.ps.length := Nat.lt_of_le_of_lt (h.on_le hy) h.lt
  obtain ⟨q', h1, h2⟩ := h.par hyn (by omega)
  obtain rfl : q = q' := by omega
  have h3 := hit_chain h.ok (Nat.le_of_lt hxy) leaf leaf (Nat.le_refl _) h.lt hx hy
  rw [hit_step h.ok hyn hxy, hq] at h3
  exact hit_le h.ok (show q < _ by omega) h3
theorem LeafOk.on_one (h : LeafOk t leaf) {x y q : Nat} (hx : onP t leaf x = true) (hy : onP t leaf y = true) (hx0 : q < x) (hy0 : q < y) (e1 : gi t.ps x = q) (e2 : gi t.ps y = q) : x = y := by
  rcases Nat.lt_trichotomy x y with c | c | c
  · have := h.on_chain hx hy c e2; omega
  · exact c
  · have := h.on_chain hy hx c e1; omega
theorem LeafOk.on_zero (h : LeafOk t leaf) : onP t leaf 0 = true := by
  have key : ∀ d z, z ≤ d → z < t.ps.length → hitB t.ps 0 z = true := by
    intro d
    induction d with
    | zero => intro z hz _; obtain rfl : z = 0 := by omega
              exact hit_self 0
    | succ d ih =>
      intro z hz hn
      by_cases h0 : z = 0
      · subst h0; exact hit_self 0
      · obtain ⟨q, h1, h2⟩ := h.par hn h0
        rw [hit_step h.ok hn (by omega), h1]
        exact ih q (by omega) (by omega)
  exact key leaf leaf (Nat.le_refl _) h.lt
/-- Which children the nodes of the turned forest have. -/
theorem rr_mem (h : LeafOk t leaf) {p k : Nat} (hp : p < t.ps.length + 1) (hk : k ∈ (rrF t leaf).kids p) :
    (p = t.ps.length ∧ k = leaf) ∨ (p = t.ps.length ∧ leaf ≠ 0 ∧ gi t.ps leaf = k ∧ k < leaf) ∨ (p < t.ps.length ∧ k < t.ps.length ∧ p < k ∧ gi t.ps k = p ∧ onP t leaf k = false) ∨ (p < t.ps.length ∧ onP t leaf p = true ∧ p ≠ leaf ∧ p ≠ 0 ∧ gi t.ps p = k ∧ k < p) := by
  have hk : k ∈ rrQ t leaf p := hk
  unfold rrQ at hk
  split at hk
  · rename_i e
    rcases List.mem_cons.1 hk with e2 | e2
    · exact .inl ⟨e, e2⟩
    · split at e2
      · cases e2
      · rename_i h0
        have e2 : k = (gi t.ps leaf).toNat := by simpa using e2
        obtain ⟨q, h1, h2⟩ := h.par h.lt h0
        exact .inr (.inl ⟨e, h0, by omega, by omega⟩)
  · rename_i e
    split at hk
    · rename_i hz
      rcases List.mem_append.1 hk with h1 | h1
      · obtain ⟨h1, h2⟩ := List.mem_filter.1 h1
        obtain ⟨h3, h4, h5⟩ := mem_kidsL.1 h1
        exact .inr (.inr (.inl ⟨by omega, h3, h4, h5, by simpa using h2⟩))
      · split at h1
        · cases h1
        · rename_i h0
          have h1 : k = (gi t.ps p).toNat := by simpa using h1
          obtain ⟨q, h2, h3⟩ := h.par (z := p) (by omega) h0
          exact .inr (.inr (.inr ⟨by omega, hz.1, hz.2, h0, by omega, by omega⟩))
    · rename_i hz
      obtain ⟨h3, h4, h5⟩ := mem_kidsL.1 hk
      refine .inr (.inr (.inl ⟨by omega, h3, h4, h5, ?_⟩))
      cases hc : onP t leaf k with
      | false => rfl
      | true =>
        have := h.on_par hc (by omega) h5
        have : p = leaf := by
          by_cases c : p = leaf
          · exact c
          · exact absurd ⟨this, c⟩ hz
        rw [this, h.nokid] at hk; cases hk
theorem rk_on (_h : LeafOk t leaf) {z : Nat} (hz : z < t.ps.length) (ho : onP t leaf z = true) (hne : z ≠ leaf) : rkR t leaf z = t.ps.length + 1 + z := by
  unfold rkR; rw [if_neg (by omega), if_pos ⟨ho, hne⟩]
theorem rk_off {z : Nat} (hz : z < t.ps.length) (ho : onP t leaf z = false ∨ z = leaf) : rkR t leaf z = t.ps.length - z := by
  unfold rkR; rw [if_neg (by omega), if_neg]
  · rfl
  · rintro ⟨h1, h2⟩
    rcases ho with e | e
    · rw [e] at h1; cases h1
    · exact h2 e
theorem rk_le (z : Nat) : z < t.ps.length + 1 → rkR t leaf z ≤ 3 * t.ps.length + 3 := fun hz => by
  unfold rkR rkT
  split
  · omega
  · split <;> omega
theorem rr_kids_leaf (h : LeafOk t leaf) : (rrF t leaf).kids leaf = [] := by
  show rrQ t leaf leaf = []
  unfold rrQ
  rw [if_neg (by have := h.lt; omega), if_neg (fun c => c.2 rfl)]
  exact h.nokid
/-- Which nodes have no children. -/
theorem rr_leaf (h : LeafOk t leaf) {z : Nat} (hz : z < t.ps.length + 1) (hk : (rrF t leaf).kids z = []) : z < t.ps.length ∧ (kidsL t.ps z = [] ∨ (z = 0 ∧ (gs t.ns 0).size = 0)) := by
  have hk : rrQ t leaf z = [] := hk
  unfold rrQ at hk
  split at hk
  · cases hk
  · rename_i e
    refine ⟨by omega, ?_⟩
    split at hk
    · rename_i hc
      obtain ⟨c, h1, h2, h3, _⟩ := h.on_kid hc.1 hc.2
      by_cases h0 : z = 0
      · subst h0; exact .inr ⟨rfl, inner_empty h.te h1 h2 h3⟩
      · rw [if_neg h0] at hk
        simp at hk
    · exact .inl hk
theorem tleaf_named (h : treeErr t = 0) {z : Nat} (hz : z < t.ps.length) (hk : kidsL t.ps z = []) : namedB (gs t.ns z).data.toList = true := by
  obtain ⟨_, _, _, hok, _⟩ := treeErr_zero h
  refine (leaf_named h hz ?_).1
  cases hin : isIn t.ps z with
  | false => rfl
  | true => exact absurd hk ((kids_isIn hok z).2 hin)
theorem rr_arb (h : LeafOk t leaf) : Arb (rrF t leaf) (t.ps.length + 1) (rkR t leaf) := by
  have hlt := h.lt
  refine ⟨⟨fun p hp k hk => ?_⟩, fun p q k hp hq h1 h2 => ?_, fun i hi => ?_, fun a b ha hb h1 h2 e => ?_⟩
  · rcases rr_mem h hp hk with ⟨rfl, rfl⟩ | ⟨rfl, h0, e, hlt2⟩ | ⟨h1, h2, h3, e, ho⟩ | ⟨h1, ho, hne, h0, e, hlt2⟩
    · refine ⟨by omega, ?_⟩
      rw [rk_off h.lt (.inr rfl)]
      unfold rkR; rw [if_pos rfl]; omega
    · refine ⟨by omega, ?_⟩
      rw [rk_on h (by omega) (h.on_par h.on_self h0 e) (by omega)]
      unfold rkR; rw [if_pos rfl]; omega
    · refine ⟨by omega, ?_⟩
      rw [rk_off h2 (.inl ho)]
      by_cases c : onP t leaf p = true ∧ p ≠ leaf
      · rw [rk_on h h1 c.1 c.2]; omega
      · have : onP t leaf p = false ∨ p = leaf := by
          cases hc : onP t leaf p with
          | false => exact .inl rfl
          | true => exact .inr (Classical.byContradiction fun x => c ⟨hc, x⟩)
        rw [rk_off h1 this]; omega
    · refine ⟨by omega, ?_⟩
      rw [rk_on h h1 ho hne, rk_on h (by omega) (h.on_par ho h0 e) (by have := h.on_le ho; omega)]; omega
  · have hon : ∀ p, p < t.ps.length + 1 → k ∈ (rrF t leaf).kids p → (onP t leaf k = false ∧ p < t.ps.length ∧ gi t.ps k = p) ∨ (onP t leaf k = true ∧ (p = t.ps.length ∧ (k = leaf ∨ gi t.ps leaf = k ∧ k < leaf) ∨ p < t.ps.length ∧ onP t leaf p = true ∧ p ≠ leaf ∧ gi t.ps p = k ∧ k < p)) := fun p hp hk => by
      rcases rr_mem h hp hk with ⟨rfl, rfl⟩ | ⟨rfl, h0, e, hlt2⟩ | ⟨h1, h2, h3, e, ho⟩ | ⟨h1, ho, hne, h0, e, hlt2⟩
      · exact .inr ⟨h.on_self, .inl ⟨rfl, .inl rfl⟩⟩
      · exact .inr ⟨h.on_par h.on_self h0 e, .inl ⟨rfl, .inr ⟨e, hlt2⟩⟩⟩
      · exact .inl ⟨ho, h1, e⟩
      · exact .inr ⟨h.on_par ho h0 e, .inr ⟨h1, ho, hne, e, hlt2⟩⟩
    rcases hon p hp h1 with ⟨a1, a2, a3⟩ | ⟨a1, a2⟩
    · rcases hon q hq h2 with ⟨_, b2, b3⟩ | ⟨b1, _⟩
      · omega
      · rw [a1] at b1; cases b1
    · rcases hon q hq h2 with ⟨b1, _⟩ | ⟨_, b2⟩
      · rw [a1] at b1; cases b1
      · rcases a2 with ⟨a2, a3⟩ | ⟨a2, a3, a4, a5, a6⟩
        · rcases b2 with ⟨b2, b3⟩ | ⟨b2, b3, b4, b5, b6⟩
          · omega
          · exfalso
            have := h.on_le b3
            rcases a3 with e | ⟨e, e2⟩
            · omega
            · exact b4 (h.on_one b3 h.on_self b6 e2 b5 e)
        · rcases b2 with ⟨b2, b3⟩ | ⟨b2, b3, b4, b5, b6⟩
          · exfalso
            have := h.on_le a3
            rcases b3 with e | ⟨e, e2⟩
            · omega
            · exact a4 (h.on_one a3 h.on_self a6 e2 a5 e)
          · exact h.on_one a3 b3 a6 b6 a5 b5
  · show (rrQ t leaf i).Nodup
    unfold rrQ
    have hkn : (kidsL t.ps i).Nodup := List.Pairwise.filter _ List.nodup_range
    split
    · split
      · simp
      · rename_i h0
        obtain ⟨q, h1, h2⟩ := h.par hlt h0
        simp; omega
    · split
      · split
        · rw [List.append_nil]; exact hkn.filter _
        · rename_i hi2 _ h0
          obtain ⟨q, h1, h2⟩ := h.par (z := i) (by omega) h0
          rw [List.nodup_append]
          refine ⟨hkn.filter _, by simp, fun a ha b hb e => ?_⟩
          have hb : b = (gi t.ps i).toNat := by simpa using hb
          have := (mem_kidsL.1 (List.mem_filter.1 ha).1).2.1
          omega
      · exact hkn
  · obtain ⟨a1, a2⟩ := rr_leaf h ha h1
    obtain ⟨b1, b2⟩ := rr_leaf h hb h2
    have e : gs t.ns a = gs t.ns b := by
      have e : upd (gs t.ns) t.ps.length ByteArray.empty a = upd (gs t.ns) t.ps.length ByteArray.empty b := e
      rw [upd_ne _ _ (by omega), upd_ne _ _ (by omega)] at e; exact e
    rcases a2 with a2 | ⟨a2, a3⟩
    · rcases b2 with b2 | ⟨b2, b3⟩
      · exact (frT_arb h.te).names a b a1 b1 a2 b2 e
      · subst b2
        exact absurd b3 (by rw [← e]; exact named_size (tleaf_named h.te a1 a2))
    · rcases b2 with b2 | ⟨b2, b3⟩
      · subst a2
        exact absurd a3 (by rw [e]; exact named_size (tleaf_named h.te b1 b2))
      · omega
theorem rr_len (h : LeafOk t leaf) (z : Nat) (hz : z < t.ps.length + 1) : ((rrF t leaf).kids z).length ≤ 1000 := by
  have h64 := (treeErr_zero h.te).2.1
  have := nodup_le ((rr_arb h).nodup z hz) (fun k hk => ((rr_arb h).wf.kid z hz k hk).1)
  omega
/-- All nodes are below the new one. -/
theorem rr_all (h : LeafOk t leaf) : ∀ z, z < t.ps.length + 1 → subF (rrF t leaf) (rkR t leaf) t.ps.length z = true := by
  have hw := (rr_arb h).wf
  have hn : t.ps.length < t.ps.length + 1 := Nat.lt_succ_self _
  have step : ∀ {p z : Nat}, p < t.ps.length + 1 → z ∈ (rrF t leaf).kids p → subF (rrF t leaf) (rkR t leaf) t.ps.length p = true → subF (rrF t leaf) (rkR t leaf) t.ps.length z = true := fun {p z} hp hz hs =>
    sub_trans hw hn (Nat.le_refl _) hs (subF_kid hw hp hz (subF_self hw (hw.kid p hp z hz).1))
  have hon : ∀ d z, leaf - z ≤ d → onP t leaf z = true → subF (rrF t leaf) (rkR t leaf) t.ps.length z = true := by
    intro d
    induction d with
    | zero =>
      intro z hd ho
      have := h.on_le ho
      obtain rfl : z = leaf := by omega
      refine step hn ?_ (subF_self hw hn)
      show z ∈ rrQ t z t.ps.length
      unfold rrQ; rw [if_pos rfl]; simp
    | succ d ih =>
      intro z hd ho
      by_cases hne : z = leaf
      · exact ih z (by omega) ho
      · obtain ⟨c, h1, h2, h3, h4⟩ := h.on_kid ho hne
        by_cases hc : c = leaf
        · subst hc
          refine step hn ?_ (subF_self hw hn)
          show z ∈ rrQ t c t.ps.length
          unfold rrQ; rw [if_pos rfl, if_neg (by omega), h3]; simp
        · refine step (p := c) (by omega) ?_ (ih c (by omega) h4)
          show z ∈ rrQ t leaf c
          unfold rrQ; rw [if_neg (by omega), if_pos ⟨h4, hc⟩, if_neg (by omega), h3]; simp
  have hall : ∀ d z, z ≤ d → z < t.ps.length → subF (rrF t leaf) (rkR t leaf) t.ps.length z = true := by
    intro d
    induction d with
    | zero =>
      intro z hd hz
      obtain rfl : z = 0 := by omega
      exact hon leaf 0 (by omega) h.on_zero
    | succ d ih =>
      intro z hd hz
      cases ho : onP t leaf z with
      | true => exact hon leaf z (by omega) ho
      | false =>
        have h0 : z ≠ 0 := fun e => by subst e; rw [h.on_zero] at ho; cases ho
        obtain ⟨q, h1, h2⟩ := h.par hz h0
        refine step (p := q) (by omega) ?_ (ih q (by omega) (by omega))
        have hm : z ∈ kidsL t.ps q := mem_kidsL.2 ⟨hz, h2, h1⟩
        show z ∈ rrQ t leaf q
        unfold rrQ
        rw [if_neg (by omega)]
        split
        · exact List.mem_append_left _ (List.mem_filter.2 ⟨hm, by simp [ho]⟩)
        · exact hm
  intro z hz
  by_cases e : z = t.ps.length
  · subst e; exact subF_self hw hz
  · exact hall z z (Nat.le_refl _) (by omega)
end
end Go.Proofs.Ytcaialhoclodjaa
namespace Go.Proofs.Ytcaialhoclodjaa
/-- The children behind some turns: the way up to f is turned. -/
def rrI (t : Tre) (leaf f z : Nat) : List Nat :=
  if z = t.ps.length then leaf :: (if f = leaf then [] else [(gi t.ps leaf).toNat])
  else if onP t leaf z = true ∧ z ≠ leaf ∧ f ≤ z then (kidsL t.ps z).filter (fun k => !onP t leaf k) ++ (if z = f then [] else [(gi t.ps z).toNat])
  else kidsL t.ps z
theorem rrI_top {t : Tre} {leaf f z : Nat} (e : z = t.ps.length) : rrI t leaf f z = leaf :: (if f = leaf then [] else [(gi t.ps leaf).toNat]) := if_pos e
theorem rrI_way {t : Tre} {leaf f z : Nat} (e : z ≠ t.ps.length) (h : onP t leaf z = true ∧ z ≠ leaf ∧ f ≤ z) : rrI t leaf f z = (kidsL t.ps z).filter (fun k => !onP t leaf k) ++ (if z = f then [] else [(gi t.ps z).toNat]) := (if_neg e).trans (if_pos h)
theorem rrI_off {t : Tre} {leaf f z : Nat} (e : z ≠ t.ps.length) (h : ¬ (onP t leaf z = true ∧ z ≠ leaf ∧ f ≤ z)) : rrI t leaf f z = kidsL t.ps z := (if_neg e).trans (if_neg h)
structure RrJ (t : Tre) (leaf : Nat) (K : RrS) : Prop where
  on : onP t leaf K.frm = true
  cur : K.cur = gi t.ps K.frm
  hang : K.hang = if K.frm = leaf then t.ps.length else K.frm
  nm : K.fr.nm = (rrF t leaf).nm
  old : K.fr.old = (rrF t leaf).old
  kids : ∀ z, z < t.ps.length + 1 → K.fr.kids z = rrI t leaf K.frm z
section
variable {t : Tre} {leaf : Nat}
theorem rr_start (h : LeafOk t leaf) : RrJ t leaf (rrK t leaf 0) := by
  refine ⟨h.on_self, rfl, (if_pos rfl).symm, rfl, rfl, fun z hz => ?_⟩
  show upd (frT t).kids t.ps.length [leaf] z = rrI t leaf leaf z
  by_cases e : z = t.ps.length
  · rw [rrI_top e, if_pos rfl, e, upd_same]
  · rw [upd_ne _ _ e, rrI_off e]
    · rfl
    · rintro ⟨h1, h2, h3⟩
      have := h.on_le h1; omega
theorem rr_step (h : LeafOk t leaf) {K : RrS} (hK : RrJ t leaf K) (hc : ¬ K.cur < 0) : RrJ t leaf ⟨rrS K.fr K.hang K.frm K.cur.toNat, K.cur.toNat, K.cur.toNat, gi t.ps K.cur.toNat⟩ := by
  obtain ⟨F, hang, f, cur⟩ := K
  obtain ⟨hon, hcur, hhang, hnm, hold, hkids⟩ := hK
  simp only at hon hcur hhang hnm hold hkids hc ⊢
  have hfl := h.on_le hon
  have hln := h.lt
  have hf0 : f ≠ 0 := fun e => by
    have := pOkB_at h.ok h.pos
    unfold okp at this
    rw [if_pos rfl, beq_iff_eq] at this
    rw [hcur, e, this] at hc; omega
  obtain ⟨x, hx, hxf⟩ := h.par (z := f) (Nat.lt_of_le_of_lt hfl hln) hf0
  have hxc : cur.toNat = x := by rw [hcur, hx]; rfl
  rw [hxc]
  have hxon := h.on_par hon hf0 hx
  have hfilt : (kidsL t.ps x).filter (fun k => !decide ((rrF t leaf).old k = (f : Int))) = (kidsL t.ps x).filter (fun k => !onP t leaf k) := by
    refine List.filter_congr fun k hk => ?_
    obtain ⟨h1, h2, h3⟩ := mem_kidsL.1 hk
    have : (rrF t leaf).old k = (k : Int) := upd_ne _ _ (by omega)
    rw [this]
    congr 1
    rw [Bool.eq_iff_iff, decide_eq_true_eq]
    constructor
    · intro e
      have : k = f := by omega
      subst this; exact hon
    · intro e
      have := h.on_one e hon h2 hxf h3 hx
      omega
  refine ⟨hxon, rfl, ?_, hnm, hold, fun z hz => ?_⟩
  · exact (if_neg (show ¬ x = leaf by omega)).symm
  · show upd (upd F.kids x ((F.kids x).filter fun k => !decide (F.old k = (f : Int)))) hang (upd F.kids x ((F.kids x).filter fun k => !decide (F.old k = (f : Int))) hang ++ [x]) z = rrI t leaf x z
    have hFx : F.kids x = kidsL t.ps x := by
      rw [hkids x (by omega)]
      exact rrI_off (by omega) (by omega)
    rw [hFx, hold, hfilt]
    by_cases hzh : z = hang
    · by_cases hfe : f = leaf
      · rw [if_pos hfe] at hhang
        have hzn : z = t.ps.length := hzh.trans hhang
        rw [hzh, upd_same, ← hzh, upd_ne _ _ (by omega), hkids z hz, rrI_top hzn, rrI_top hzn, if_pos hfe, if_neg (by omega), ← hfe, hx]; rfl
      · rw [if_neg hfe] at hhang
        have hzf : z = f := hzh.trans hhang
        rw [hzh, upd_same, ← hzh, upd_ne _ _ (by omega), hkids z hz, hzf, rrI_way (by omega) ⟨hon, hfe, Nat.le_refl _⟩, rrI_way (by omega) ⟨hon, hfe, Nat.le_of_lt hxf⟩, if_pos rfl, if_neg (by omega), hx, List.append_nil]; rfl
    · rw [upd_ne _ _ hzh]
      by_cases hzx : z = x
      · rw [hzx, upd_same, rrI_way (by omega) ⟨hxon, by omega, Nat.le_refl _⟩, if_pos rfl, List.append_nil]
      · rw [upd_ne _ _ hzx, hkids z hz]
        by_cases hzn : z = t.ps.length
        · have : f ≠ leaf := fun e => by rw [if_pos e] at hhang; omega
          rw [rrI_top hzn, rrI_top hzn, if_neg this, if_neg (by omega)]
        · have hzf : z ≠ f ∨ z = leaf := by
            by_cases e : f = leaf
            · by_cases e2 : z = leaf
              · exact .inr e2
              · exact .inl (by omega)
            · rw [if_neg e] at hhang; exact .inl (by omega)
          by_cases hcnd : onP t leaf z = true ∧ z ≠ leaf
          · have hzf : z ≠ f := by
              rcases hzf with e | e
              · exact e
              · exact absurd e hcnd.2
            by_cases hle : f ≤ z
            · rw [rrI_way hzn ⟨hcnd.1, hcnd.2, hle⟩, rrI_way hzn ⟨hcnd.1, hcnd.2, by omega⟩, if_neg hzf, if_neg hzx]
            · have := h.on_chain hcnd.1 hon (by omega) hx
              rw [rrI_off hzn (by omega), rrI_off hzn (by omega)]
          · rw [rrI_off hzn (fun c => hcnd ⟨c.1, c.2.1⟩), rrI_off hzn (fun c => hcnd ⟨c.1, c.2.1⟩)]
theorem rr_all_steps (h : LeafOk t leaf) : ∀ i, RrJ t leaf (rrK t leaf i)
  | 0 => rr_start h
  | i + 1 => by
    have ih := rr_all_steps h i
    by_cases hc : (rrK t leaf i).cur < 0
    · rw [rrK, if_pos hc]; exact ih
    · rw [rrK_go hc]; exact rr_step h ih hc
/-- Behind the last turn the forest is the turned one. -/
theorem rr_end (h : LeafOk t leaf) {i : Nat} (hc : (rrK t leaf i).cur < 0) : ∀ z, z < t.ps.length + 1 → (rrF t leaf).nm z = (rrK t leaf i).fr.nm z ∧ (rrF t leaf).old z = (rrK t leaf i).fr.old z ∧ (rrF t leaf).kids z = (rrK t leaf i).fr.kids z := fun z hz => by
  have hK := rr_all_steps h i
  have hf : (rrK t leaf i).frm = 0 := by
    by_cases e : (rrK t leaf i).frm = 0
    · exact e
    · obtain ⟨q, h1, _⟩ := h.par (z := (rrK t leaf i).frm) (Nat.lt_of_le_of_lt (h.on_le hK.on) h.lt) e
      rw [hK.cur, h1] at hc; omega
  refine ⟨by rw [hK.nm], by rw [hK.old], ?_⟩
  rw [hK.kids z hz, hf]
  show rrQ t leaf z = _
  unfold rrQ
  by_cases hzn : z = t.ps.length
  · rw [rrI_top hzn, if_pos hzn]
    congr 1
    by_cases e : leaf = 0
    · rw [if_pos e, if_pos e.symm]
    · rw [if_neg e, if_neg (fun c => e c.symm)]
  · rw [if_neg hzn]
    by_cases hcnd : onP t leaf z = true ∧ z ≠ leaf
    · rw [rrI_way hzn ⟨hcnd.1, hcnd.2, Nat.zero_le _⟩, if_pos hcnd]
    · rw [rrI_off hzn (fun c => hcnd ⟨c.1, c.2.1⟩), if_neg hcnd]
end
section
variable {F : Frs} {n : Nat} {rk : Nat → Nat} {P : Nat → Bool}
/-- What pruned leaves is good: inner nodes have no names, kept leaves have good ones. -/
structure PrOk (F : Frs) (n : Nat) (rk : Nat → Nat) (P : Nat → Bool) : Prop where
  inn : ∀ z, z < n → F.kids z ≠ [] → (F.nm z).size = 0
  lf : ∀ z, z < n → F.kids z = [] → P z = true → namedB (F.nm z).data.toList = true
theorem pr_part2 (h : Wf F n rk) {i : Nat} (hi : i < n) (hg : PrOk F n rk P) (ha : al F P rk i = true) {s : RT} (hs : s ∈ subR (toRF (F.sub rk (prQ F P rk) i) rk i)) :
    (s.kids ≠ [] → s.nm.size = 0) ∧ (s.kids = [] → namedB s.nm.data.toList = true) := by
  have hw := pr_wf (P := P) h i
  rw [subR_toRF hw hi (Nat.le_refl _)] at hs
  obtain ⟨z, hz, rfl⟩ := List.mem_map.1 hs
  have hsz := (mem_nodesF hw hi (Nat.le_refl _)).1 hz
  have hzn := subF_lt hw hi (Nat.le_refl _) hsz
  have hs2 := pr_below h i _ i z (Nat.le_refl _) hi hsz
  have hza := pr_alive h hi _ i z (Nat.le_refl _) hi (subF_self h hi) ha hsz
  refine ⟨fun hk => ?_, fun hk => ?_⟩
  · rw [toRF_nm hw hzn]
    refine hg.inn z hzn fun e => hk ?_
    rw [toRF_kids hw hzn, pr_kids hs2, e]; rfl
  · rw [toRF_kids hw hzn, pr_kids hs2, List.map_eq_nil_iff, List.filter_eq_nil_iff] at hk
    have h0 : F.kids z = [] := by
      by_cases c : F.kids z = []
      · exact c
      · rw [al_eq h hzn, if_neg c] at hza
        obtain ⟨k, hk2, hka⟩ := List.any_eq_true.1 hza
        exact absurd hka (hk k hk2)
    rw [toRF_nm hw hzn]
    rw [al_eq h hzn, if_pos h0] at hza
    exact hg.lf z hzn h0 hza
theorem pr_leaf2 (h : Wf F n rk) {i : Nat} (hi : i < n) (hg : PrOk F n rk P) : ∀ (d z : Nat), rk z ≤ d → z < n → subF F rk i z = true → (leafR (toRF (F.sub rk (prQ F P rk) i) rk z)).Sublist (leafR (toRF F rk z))
  | d, z, hd, hz, hs => by
    have hw := pr_wf (P := P) h i
    rw [toRF_eq h hz, toRF_eq hw hz, pr_kids hs]
    by_cases h0 : F.kids z = []
    · rw [h0]; exact List.Sublist.refl _
    · have hz0 : (F.nm z).size = 0 := hg.inn z hz h0
      rw [leafR_node hz0, leafR_node (show ((F.sub rk (prQ F P rk) i).nm z).size = 0 from hz0), List.flatMap_map, List.flatMap_map]
      refine sublist_flatMap _ fun k hk _ => ?_
      have hkk := h.kid z hz k hk
      cases d with
      | zero => omega
      | succ d => exact pr_leaf2 h hi hg d k (by omega) hkk.1 (sub_trans h hi (Nat.le_refl _) hs (subF_kid h hz hk (subF_self h hkk.1)))
theorem pr_good2 (h : Wf F n rk) {i : Nat} (hi : i < n) (hg : PrOk F n rk P) (hnd : (leafR (toRF F rk i)).Nodup) (ha : al F P rk i = true) : GoodR (toRF (F.sub rk (prQ F P rk) i) rk i) :=
  ⟨fun _ hs hk => (pr_part2 h hi hg ha hs).1 hk, fun _ hs hk => (pr_part2 h hi hg ha hs).2 hk, (pr_leaf2 h hi hg _ i (Nat.le_refl _) hi (subF_self h hi)).nodup hnd⟩
/-- The names of the leaves of a forest's rose tree. -/
theorem leafs_nd (h : Arb F n rk) {R : Nat} (hR : ∀ i, i < n → rk i ≤ R) {i : Nat} (hi : i < n) (hinj : ∀ a b, a < n → b < n → (F.nm a).size ≠ 0 → F.nm a = F.nm b → a = b) : (leafR (toRF F rk i)).Nodup := by
  have hsub : subR (toRF F rk i) = (nodesF F rk i).map (toRF F rk) := subR_toRF h.wf hi (Nat.le_refl _)
  have e : nsR (toRF F rk i) = (nodesF F rk i).map F.nm := by
    rw [nsR_sub, hsub, List.map_map]
    refine List.map_congr_left fun z hz => ?_
    exact toRF_nm h.wf (subF_lt h.wf hi (Nat.le_refl _) ((mem_nodesF h.wf hi (Nat.le_refl _)).1 hz))
  unfold leafR
  rw [e]
  have hnd := nodesF_nodup h hR hi (Nat.le_refl _)
  have hlt : ∀ z ∈ nodesF F rk i, z < n := fun z hz => subF_lt h.wf hi (Nat.le_refl _) ((mem_nodesF h.wf hi (Nat.le_refl _)).1 hz)
  generalize nodesF F rk i = l at *
  clear e hsub
  induction l with
  | nil => simp
  | cons a l ih =>
    obtain ⟨h1, h2⟩ := List.nodup_cons.1 hnd
    rw [List.map_cons]
    have ih := ih h2 (fun z hz => hlt z (by simp [hz]))
    by_cases ha : (F.nm a).size ≠ 0
    · rw [List.filter_cons_of_pos (by simpa using ha), List.nodup_cons]
      refine ⟨fun hm => ?_, ih⟩
      obtain ⟨hm, _⟩ := List.mem_filter.1 hm
      obtain ⟨b, hb, e⟩ := List.mem_map.1 hm
      have := hinj a b (hlt a (by simp)) (hlt b (by simp [hb])) ha e.symm
      subst this; exact h1 hb
    · rw [List.filter_cons_of_neg (by simpa using ha)]; exact ih
end
section
variable {t : Tre} {leaf : Nat}
def rrP (t : Tre) (leaf j : Nat) : Bool := decide (((rrF t leaf).nm j).size ≠ 0)
theorem rr_inner (h : LeafOk t leaf) {z : Nat} (hz : z < t.ps.length + 1) (hk : (rrF t leaf).kids z ≠ []) : ((rrF t leaf).nm z).size = 0 := by
  by_cases e : z = t.ps.length
  · subst e
    show (upd (gs t.ns) _ _ _).size = 0
    rw [upd_same]; rfl
  · show (upd (gs t.ns) _ _ z).size = 0
    rw [upd_ne _ _ e]
    by_cases c : kidsL t.ps z = []
    · exfalso
      refine hk ?_
      show rrQ t leaf z = []
      unfold rrQ
      rw [if_neg e, c, if_neg]
      rintro ⟨h1, h2⟩
      obtain ⟨k, h3, h4, h5, _⟩ := h.on_kid h1 h2
      have : k ∈ kidsL t.ps z := mem_kidsL.2 ⟨h3, h4, h5⟩
      rw [c] at this; cases this
    · obtain ⟨k, hk⟩ := List.exists_mem_of_ne_nil _ c
      obtain ⟨h3, h4, h5⟩ := mem_kidsL.1 hk
      exact inner_empty h.te h3 h4 h5
theorem rr_ok (h : LeafOk t leaf) : PrOk (rrF t leaf) (t.ps.length + 1) (rkR t leaf) (rrP t leaf) := by
  refine ⟨fun z hz hk => rr_inner h hz hk, fun z hz hk hP => ?_⟩
  obtain ⟨h1, h2⟩ := rr_leaf h hz hk
  have hP : ((rrF t leaf).nm z).size ≠ 0 := of_decide_eq_true hP
  have e : (rrF t leaf).nm z = gs t.ns z := upd_ne _ _ (by omega)
  rw [e] at hP ⊢
  rcases h2 with h2 | ⟨h2, h3⟩
  · exact tleaf_named h.te h1 h2
  · subst h2; exact absurd h3 hP
theorem rr_names (h : LeafOk t leaf) : ∀ a b, a < t.ps.length + 1 → b < t.ps.length + 1 → ((rrF t leaf).nm a).size ≠ 0 → (rrF t leaf).nm a = (rrF t leaf).nm b → a = b := fun a b ha hb h0 e => by
  have key : ∀ c, c < t.ps.length + 1 → ((rrF t leaf).nm c).size ≠ 0 → (rrF t leaf).kids c = [] := fun c hc hn => by
    by_cases x : (rrF t leaf).kids c = []
    · exact x
    · exact absurd (rr_inner h hc x) hn
  exact (rr_arb h).names a b ha hb (key a ha h0) (key b hb (by rw [← e]; exact h0)) e
/-- The rose tree that Reroot contracts. -/
def rrR (t : Tre) (leaf : Nat) : RT := toRF ((rrF t leaf).sub (rkR t leaf) (prQ (rrF t leaf) (rrP t leaf) (rkR t leaf)) t.ps.length) (rkR t leaf) t.ps.length
theorem rr_facts (h : LeafOk t leaf) : al (rrF t leaf) (rrP t leaf) (rkR t leaf) t.ps.length = true ∧ GoodR (rrR t leaf) ∧ sizeR (rrR t leaf) ≤ 65 := by
  have hA := rr_arb h
  have hn : t.ps.length < t.ps.length + 1 := Nat.lt_succ_self _
  have hl : leaf < t.ps.length + 1 := Nat.lt_succ_of_lt h.lt
  have hla : al (rrF t leaf) (rrP t leaf) (rkR t leaf) leaf = true := by
    rw [al_eq hA.wf hl, if_pos (rr_kids_leaf h)]
    refine decide_eq_true ?_
    show (upd (gs t.ns) _ _ leaf).size ≠ 0
    rw [upd_ne _ _ (by have := h.lt; omega)]; exact h.nm
  have h0 := (pr_reach hA.wf hn _ t.ps.length leaf (Nat.le_refl _) hn (subF_self hA.wf hn) (rr_all h leaf hl) hla).1
  have hg : GoodR (rrR t leaf) := pr_good2 hA.wf hn (rr_ok h) (leafs_nd hA (fun z hz => rk_le z hz) hn (rr_names h)) h0
  have h64 := (treeErr_zero h.te).2.1
  exact ⟨h0, hg, Nat.le_trans (good_size (pr_wf hA.wf _) hn hg) (by omega)⟩
end
end Go.Proofs.Ytcaialhoclodjaa
