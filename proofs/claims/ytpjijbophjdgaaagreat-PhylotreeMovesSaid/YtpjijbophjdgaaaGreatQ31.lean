/- The turned forest: plain. -/
import Derived.Test.YtpjijbophjdgaaaGreatQ30
import Derived.Test.YtpjijbophjdgaaaGreatQ29
namespace Go.Proofs.YtpjijbophjdgaaaGreat
def onP (t : Tre) (leaf z : Nat) : Bool := hitB t.ps z leaf
def rrQ (t : Tre) (leaf z : Nat) : List Nat :=
  if z = t.ps.length then leaf :: (if leaf = 0 then [] else [(gi t.ps leaf).toNat])
  else if onP t leaf z = true ∧ z ≠ leaf then (kidsL t.ps z).filter (fun k => !onP t leaf k) ++ (if z = 0 then [] else [(gi t.ps z).toNat])
  else kidsL t.ps z
def rrF (t : Tre) (leaf : Nat) : Frs := ⟨upd (gs t.ns) t.ps.length ByteArray.empty, upd (fun i => (i : Int)) t.ps.length 0, rrQ t leaf⟩
def rkR (t : Tre) (leaf z : Nat) : Nat := if z = t.ps.length then 3 * t.ps.length + 3 else if onP t leaf z = true ∧ z ≠ leaf then t.ps.length + 1 + z else rkT t z
structure LeafOk (t : Tre) (leaf : Nat) : Prop where
  te : treeErr t = 0
  lt : leaf < t.ps.length
  nm : (gs t.ns leaf).size ≠ 0
section
variable {t : Tre} {leaf : Nat}
theorem LeafOk.ok (h : LeafOk t leaf) : pOkB t.ps = true := (treeErr_zero h.te).2.2.2.1
theorem LeafOk.pos (h : LeafOk t leaf) : 0 < t.ps.length := (treeErr_zero h.te).1
theorem LeafOk.nokid (h : LeafOk t leaf) : kidsL t.ps leaf = [] := by
  cases hk : kidsL t.ps leaf with
  | nil => rfl
  | cons k l =>
    obtain ⟨h1, h2, h3⟩ := mem_kidsL.1 (show k ∈ kidsL t.ps leaf by rw [hk]; simp)
    exact absurd (inner_empty h.te h1 h2 h3) h.nm
theorem LeafOk.par (h : LeafOk t leaf) {z : Nat} (hz : z < t.ps.length) (h0 : z ≠ 0) : ∃ q : Nat, gi t.ps z = q ∧ q < z := by
  have := pOkB_par h.ok hz (by omega)
  exact ⟨(gi t.ps z).toNat, by omega, by omega⟩
theorem LeafOk.on_self (_h : LeafOk t leaf) : onP t leaf leaf = true := hit_self leaf
theorem LeafOk.on_le (h : LeafOk t leaf) {z : Nat} (hz : onP t leaf z = true) : z ≤ leaf := hit_le h.ok h.lt hz
theorem LeafOk.on_par (h : LeafOk t leaf) {z q : Nat} (hz : onP t leaf z = true) (h0 : z ≠ 0) (hq : gi t.ps z = q) : onP t leaf q = true := by
  have hzl := h.on_le hz
  have hzn : z < t.ps.length := Nat.lt_of_le_of_lt hzl h.lt
  obtain ⟨q', h1, h2⟩ := h.par hzn h0
  obtain rfl : q = q' := by omega
  exact (hit_kid h.ok h.lt).2 (.inr ⟨z, hzn, h2, hq, hz⟩)
theorem LeafOk.on_kid (h : LeafOk t leaf) {z : Nat} (hz : onP t leaf z = true) (hne : z ≠ leaf) : ∃ c, c < t.ps.length ∧ z < c ∧ gi t.ps c = z ∧ onP t leaf c = true := by
  rcases (hit_kid h.ok h.lt).1 hz with e | ⟨c, h1, h2, h3, h4⟩
  · exact absurd e.symm hne
  · exact ⟨c, h1, h2, h3, h4⟩
theorem LeafOk.on_chain (h : LeafOk t leaf) {x y q : Nat} (hx : onP t leaf x = true) (hy : onP t leaf y = true) (hxy : x < y) (hq : gi t.ps y = q) : x ≤ q := by
  have hyn : y < t.ps.length := Nat.lt_of_le_of_lt (h.on_le hy) h.lt
  obtain ⟨q', h1, h2⟩ := h.par hyn (by omega)
  obtain rfl : q = q' := by omega
  have h3 := hit_chain h.ok (Nat.le_of_lt hxy) leaf leaf (Nat.le_refl _) h.lt hx hy
  rw [hit_step h.ok hyn hxy, hq] at h3
  exact hit_le h.ok (show q < _ by omega) h3
theorem LeafOk.on_one (h : LeafOk t leaf) {x y q : Nat} (hx : onP t leaf x = true) (hy : onP t leaf y = true) (hx0 : q < x) (hy0 : q < y) (e1 : gi t.ps x = q) (e2 : gi t.ps y = q) : x = y := by
  rcases Nat.lt_trichotomy x y with c | c | c
  · have := h.on_chain hx hy c e2; omega
  · exact c
  · have := h.on_chain hy hx c e1; omega
theorem LeafOk.on_zero (h : LeafOk t leaf) : onP t leaf 0 = true := by
  have key : ∀ d z, z ≤ d → z < t.ps.length → hitB t.ps 0 z = true := by
    intro d
    induction d with
    | zero => intro z hz _; obtain rfl : z = 0 := by omega
              exact hit_self 0
    | succ d ih =>
      intro z hz hn
      by_cases h0 : z = 0
      · subst h0; exact hit_self 0
      · obtain ⟨q, h1, h2⟩ := h.par hn h0
        rw [hit_step h.ok hn (by omega), h1]
        exact ih q (by omega) (by omega)
  exact key leaf leaf (Nat.le_refl _) h.lt
theorem rr_mem (h : LeafOk t leaf) {p k : Nat} (hp : p < t.ps.length + 1) (hk : k ∈ (rrF t leaf).kids p) :
    (p = t.ps.length ∧ k = leaf) ∨ (p = t.ps.length ∧ leaf ≠ 0 ∧ gi t.ps leaf = k ∧ k < leaf) ∨ (p < t.ps.length ∧ k < t.ps.length ∧ p < k ∧ gi t.ps k = p ∧ onP t leaf k = false) ∨ (p < t.ps.length ∧ onP t leaf p = true ∧ p ≠ leaf ∧ p ≠ 0 ∧ gi t.ps p = k ∧ k < p) := by
  have hk : k ∈ rrQ t leaf p := hk
  unfold rrQ at hk
  split at hk
  · rename_i e
    rcases List.mem_cons.1 hk with e2 | e2
    · exact .inl ⟨e, e2⟩
    · split at e2
      · cases e2
      · rename_i h0
        have e2 : k = (gi t.ps leaf).toNat := by simpa using e2
        obtain ⟨q, h1, h2⟩ := h.par h.lt h0
        exact .inr (.inl ⟨e, h0, by omega, by omega⟩)
  · rename_i e
    split at hk
    · rename_i hz
      rcases List.mem_append.1 hk with h1 | h1
      · obtain ⟨h1, h2⟩ := List.mem_filter.1 h1
        obtain ⟨h3, h4, h5⟩ := mem_kidsL.1 h1
        exact .inr (.inr (.inl ⟨by omega, h3, h4, h5, by simpa using h2⟩))
      · split at h1
        · cases h1
        · rename_i h0
          have h1 : k = (gi t.ps p).toNat := by simpa using h1
          obtain ⟨q, h2, h3⟩ := h.par (z := p) (by omega) h0
          exact .inr (.inr (.inr ⟨by omega, hz.1, hz.2, h0, by omega, by omega⟩))
    · rename_i hz
      obtain ⟨h3, h4, h5⟩ := mem_kidsL.1 hk
      refine .inr (.inr (.inl ⟨by omega, h3, h4, h5, ?_⟩))
      cases hc : onP t leaf k with
      | false => rfl
      | true =>
        have := h.on_par hc (by omega) h5
        have : p = leaf := by
          by_cases c : p = leaf
          · exact c
          · exact absurd ⟨this, c⟩ hz
        rw [this, h.nokid] at hk; cases hk
theorem rk_on (_h : LeafOk t leaf) {z : Nat} (hz : z < t.ps.length) (ho : onP t leaf z = true) (hne : z ≠ leaf) : rkR t leaf z = t.ps.length + 1 + z := by
  unfold rkR; rw [if_neg (by omega), if_pos ⟨ho, hne⟩]
theorem rk_off {z : Nat} (hz : z < t.ps.length) (ho : onP t leaf z = false ∨ z = leaf) : rkR t leaf z = t.ps.length - z := by
  unfold rkR; rw [if_neg (by omega), if_neg]
  · rfl
  · rintro ⟨h1, h2⟩
    rcases ho with e | e
    · rw [e] at h1; cases h1
    · exact h2 e
theorem rk_le (z : Nat) : z < t.ps.length + 1 → rkR t leaf z ≤ 3 * t.ps.length + 3 := fun hz => by
  unfold rkR rkT
  split
  · omega
  · split <;> omega
theorem rr_kids_leaf (h : LeafOk t leaf) : (rrF t leaf).kids leaf = [] := by
  show rrQ t leaf leaf = []
  unfold rrQ
  rw [if_neg (by have := h.lt; omega), if_neg (fun c => c.2 rfl)]
  exact h.nokid
theorem rr_leaf (h : LeafOk t leaf) {z : Nat} (hz : z < t.ps.length + 1) (hk : (rrF t leaf).kids z = []) : z < t.ps.length ∧ (kidsL t.ps z = [] ∨ (z = 0 ∧ (gs t.ns 0).size = 0)) := by
  have hk : rrQ t leaf z = [] := hk
  unfold rrQ at hk
  split at hk
  · cases hk
  · rename_i e
    refine ⟨by omega, ?_⟩
    split at hk
    · rename_i hc
      obtain ⟨c, h1, h2, h3, _⟩ := h.on_kid hc.1 hc.2
      by_cases h0 : z = 0
      · subst h0; exact .inr ⟨rfl, inner_empty h.te h1 h2 h3⟩
      · rw [if_neg h0] at hk
        simp at hk
    · exact .inl hk
theorem tleaf_named (h : treeErr t = 0) {z : Nat} (hz : z < t.ps.length) (hk : kidsL t.ps z = []) : namedB (gs t.ns z).data.toList = true := by
  obtain ⟨_, _, _, hok, _⟩ := treeErr_zero h
  refine (leaf_named h hz ?_).1
  cases hin : isIn t.ps z with
  | false => rfl
  | true => exact absurd hk ((kids_isIn hok z).2 hin)
theorem rr_arb (h : LeafOk t leaf) : Arb (rrF t leaf) (t.ps.length + 1) (rkR t leaf) := by
  have hlt := h.lt
  refine ⟨⟨fun p hp k hk => ?_⟩, fun p q k hp hq h1 h2 => ?_, fun i hi => ?_, fun a b ha hb h1 h2 e => ?_⟩
  · rcases rr_mem h hp hk with ⟨rfl, rfl⟩ | ⟨rfl, h0, e, hlt2⟩ | ⟨h1, h2, h3, e, ho⟩ | ⟨h1, ho, hne, h0, e, hlt2⟩
    · refine ⟨by omega, ?_⟩
      rw [rk_off h.lt (.inr rfl)]
      unfold rkR; rw [if_pos rfl]; omega
    · refine ⟨by omega, ?_⟩
      rw [rk_on h (by omega) (h.on_par h.on_self h0 e) (by omega)]
      unfold rkR; rw [if_pos rfl]; omega
    · refine ⟨by omega, ?_⟩
      rw [rk_off h2 (.inl ho)]
      by_cases c : onP t leaf p = true ∧ p ≠ leaf
      · rw [rk_on h h1 c.1 c.2]; omega
      · have : onP t leaf p = false ∨ p = leaf := by
          cases hc : onP t leaf p with
          | false => exact .inl rfl
          | true => exact .inr (Classical.byContradiction fun x => c ⟨hc, x⟩)
        rw [rk_off h1 this]; omega
    · refine ⟨by omega, ?_⟩
      rw [rk_on h h1 ho hne, rk_on h (by omega) (h.on_par ho h0 e) (by have := h.on_le ho; omega)]; omega
  · have hon : ∀ p, p < t.ps.length + 1 → k ∈ (rrF t leaf).kids p → (onP t leaf k = false ∧ p < t.ps.length ∧ gi t.ps k = p) ∨ (onP t leaf k = true ∧ (p = t.ps.length ∧ (k = leaf ∨ gi t.ps leaf = k ∧ k < leaf) ∨ p < t.ps.length ∧ onP t leaf p = true ∧ p ≠ leaf ∧ gi t.ps p = k ∧ k < p)) := fun p hp hk => by
      rcases rr_mem h hp hk with ⟨rfl, rfl⟩ | ⟨rfl, h0, e, hlt2⟩ | ⟨h1, h2, h3, e, ho⟩ | ⟨h1, ho, hne, h0, e, hlt2⟩
      · exact .inr ⟨h.on_self, .inl ⟨rfl, .inl rfl⟩⟩
      · exact .inr ⟨h.on_par h.on_self h0 e, .inl ⟨rfl, .inr ⟨e, hlt2⟩⟩⟩
      · exact .inl ⟨ho, h1, e⟩
      · exact .inr ⟨h.on_par ho h0 e, .inr ⟨h1, ho, hne, e, hlt2⟩⟩
    rcases hon p hp h1 with ⟨a1, a2, a3⟩ | ⟨a1, a2⟩
    · rcases hon q hq h2 with ⟨_, b2, b3⟩ | ⟨b1, _⟩
      · omega
      · rw [a1] at b1; cases b1
    · rcases hon q hq h2 with ⟨b1, _⟩ | ⟨_, b2⟩
      · rw [a1] at b1; cases b1
      · rcases a2 with ⟨a2, a3⟩ | ⟨a2, a3, a4, a5, a6⟩
        · rcases b2 with ⟨b2, b3⟩ | ⟨b2, b3, b4, b5, b6⟩
          · omega
          · exfalso
            have := h.on_le b3
            rcases a3 with e | ⟨e, e2⟩
            · omega
            · exact b4 (h.on_one b3 h.on_self b6 e2 b5 e)
        · rcases b2 with ⟨b2, b3⟩ | ⟨b2, b3, b4, b5, b6⟩
          · exfalso
            have := h.on_le a3
            rcases b3 with e | ⟨e, e2⟩
            · omega
            · exact a4 (h.on_one a3 h.on_self a6 e2 a5 e)
          · exact h.on_one a3 b3 a6 b6 a5 b5
  · show (rrQ t leaf i).Nodup
    unfold rrQ
    have hkn : (kidsL t.ps i).Nodup := List.Pairwise.filter _ List.nodup_range
    split
    · split
      · simp
      · rename_i h0
        obtain ⟨q, h1, h2⟩ := h.par hlt h0
        simp; omega
    · split
      · split
        · rw [List.append_nil]; exact hkn.filter _
        · rename_i hi2 _ h0
          obtain ⟨q, h1, h2⟩ := h.par (z := i) (by omega) h0
          rw [List.nodup_append]
          refine ⟨hkn.filter _, by simp, fun a ha b hb e => ?_⟩
          have hb : b = (gi t.ps i).toNat := by simpa using hb
          have := (mem_kidsL.1 (List.mem_filter.1 ha).1).2.1
          omega
      · exact hkn
  · obtain ⟨a1, a2⟩ := rr_leaf h ha h1
    obtain ⟨b1, b2⟩ := rr_leaf h hb h2
    have e : gs t.ns a = gs t.ns b := by
      have e : upd (gs t.ns) t.ps.length ByteArray.empty a = upd (gs t.ns) t.ps.length ByteArray.empty b := e
      rw [upd_ne _ _ (by omega), upd_ne _ _ (by omega)] at e; exact e
    rcases a2 with a2 | ⟨a2, a3⟩
    · rcases b2 with b2 | ⟨b2, b3⟩
      · exact (frT_arb h.te).names a b a1 b1 a2 b2 e
      · subst b2
        exact absurd b3 (by rw [← e]; exact named_size (tleaf_named h.te a1 a2))
    · rcases b2 with b2 | ⟨b2, b3⟩
      · subst a2
        exact absurd a3 (by rw [e]; exact named_size (tleaf_named h.te b1 b2))
      · omega
theorem rr_len (h : LeafOk t leaf) (z : Nat) (hz : z < t.ps.length + 1) : ((rrF t leaf).kids z).length ≤ 1000 := by
  have h64 := (treeErr_zero h.te).2.1
  have := nodup_le ((rr_arb h).nodup z hz) (fun k hk => ((rr_arb h).wf.kid z hz k hk).1)
  omega
theorem rr_all (h : LeafOk t leaf) : ∀ z, z < t.ps.length + 1 → subF (rrF t leaf) (rkR t leaf) t.ps.length z = true := by
  have hw := (rr_arb h).wf
  have hn : t.ps.length < t.ps.length + 1 := Nat.lt_succ_self _
  have step : ∀ {p z : Nat}, p < t.ps.length + 1 → z ∈ (rrF t leaf).kids p → subF (rrF t leaf) (rkR t leaf) t.ps.length p = true → subF (rrF t leaf) (rkR t leaf) t.ps.length z = true := fun {p z} hp hz hs =>
    sub_trans hw hn (Nat.le_refl _) hs (subF_kid hw hp hz (subF_self hw (hw.kid p hp z hz).1))
  have hon : ∀ d z, leaf - z ≤ d → onP t leaf z = true → subF (rrF t leaf) (rkR t leaf) t.ps.length z = true := by
    intro d
    induction d with
    | zero =>
      intro z hd ho
      have := h.on_le ho
      obtain rfl : z = leaf := by omega
      refine step hn ?_ (subF_self hw hn)
      show z ∈ rrQ t z t.ps.length
      unfold rrQ; rw [if_pos rfl]; simp
    | succ d ih =>
      intro z hd ho
      by_cases hne : z = leaf
      · exact ih z (by omega) ho
      · obtain ⟨c, h1, h2, h3, h4⟩ := h.on_kid ho hne
        by_cases hc : c = leaf
        · subst hc
          refine step hn ?_ (subF_self hw hn)
          show z ∈ rrQ t c t.ps.length
          unfold rrQ; rw [if_pos rfl, if_neg (by omega), h3]; simp
        · refine step (p := c) (by omega) ?_ (ih c (by omega) h4)
          show z ∈ rrQ t leaf c
          unfold rrQ; rw [if_neg (by omega), if_pos ⟨h4, hc⟩, if_neg (by omega), h3]; simp
  have hall : ∀ d z, z ≤ d → z < t.ps.length → subF (rrF t leaf) (rkR t leaf) t.ps.length z = true := by
    intro d
    induction d with
    | zero =>
      intro z hd hz
      obtain rfl : z = 0 := by omega
      exact hon leaf 0 (by omega) h.on_zero
    | succ d ih =>
      intro z hd hz
      cases ho : onP t leaf z with
      | true => exact hon leaf z (by omega) ho
      | false =>
        have h0 : z ≠ 0 := fun e => by subst e; rw [h.on_zero] at ho; cases ho
        obtain ⟨q, h1, h2⟩ := h.par hz h0
        refine step (p := q) (by omega) ?_ (ih q (by omega) (by omega))
        have hm : z ∈ kidsL t.ps q := mem_kidsL.2 ⟨hz, h2, h1⟩
        show z ∈ rrQ t leaf q
        unfold rrQ
        rw [if_neg (by omega)]
        split
        · exact List.mem_append_left _ (List.mem_filter.2 ⟨hm, by simp [ho]⟩)
        · exact hm
  intro z hz
  by_cases e : z = t.ps.length
  · subst e; exact subF_self hw hz
  · exact hall z z (Nat.le_refl _) (by omega)
end
end Go.Proofs.YtpjijbophjdgaaaGreat
