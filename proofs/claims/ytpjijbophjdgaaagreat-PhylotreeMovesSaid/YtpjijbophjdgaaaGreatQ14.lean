/- The plain law of forests in which no node has two parents and no two leaves one name: their children can be sorted; the nodes below a node stand once each. The contracts of phylotree.canonical, Canonical. Canonical trees reckoned by the kernel: the sort of children as an insertion sort. -/
import Derived.Test.YtpjijbophjdgaaaGreatQ10
import Derived.Test.YtpjijbophjdgaaaGreatQ13
namespace Go.Proofs.YtpjijbophjdgaaaGreat
theorem subF_self {F : Frs} {n : Nat} {rk : Nat → Nat} (h : Wf F n rk) {i : Nat} (hi : i < n) : subF F rk i i = true := by rw [subF_eq h hi]; simp
theorem subF_kid {F : Frs} {n : Nat} {rk : Nat → Nat} (h : Wf F n rk) {i k j : Nat} (hi : i < n) (hk : k ∈ F.kids i) (hj : subF F rk k j = true) : subF F rk i j = true := by
  rw [subF_eq h hi, Bool.or_eq_true]; exact .inr (List.any_eq_true.2 ⟨k, hk, hj⟩)
theorem subF_cases {F : Frs} {n : Nat} {rk : Nat → Nat} (h : Wf F n rk) {i j : Nat} (hi : i < n) (hj : subF F rk i j = true) : j = i ∨ ∃ k ∈ F.kids i, subF F rk k j = true := by
  rw [subF_eq h hi, Bool.or_eq_true] at hj
  rcases hj with h1 | h1
  · exact .inl (by simpa using h1)
  · obtain ⟨k, hk, h2⟩ := List.any_eq_true.1 h1
    exact .inr ⟨k, hk, h2⟩
theorem subF_lt {F : Frs} {n : Nat} {rk : Nat → Nat} (h : Wf F n rk) : ∀ {d i j : Nat}, i < n → rk i ≤ d → subF F rk i j = true → j < n := by
  intro d
  induction d with
  | zero =>
    intro i j hi hd hj
    rcases subF_cases h hi hj with rfl | ⟨k, hk, h1⟩
    · exact hi
    · have := (h.kid i hi k hk).2; omega
  | succ d ih =>
    intro i j hi hd hj
    rcases subF_cases h hi hj with rfl | ⟨k, hk, h1⟩
    · exact hi
    · have := h.kid i hi k hk
      exact ih this.1 (by omega) h1
structure Arb (F : Frs) (n : Nat) (rk : Nat → Nat) : Prop where
  wf : Wf F n rk
  one : ∀ p q k, p < n → q < n → k ∈ F.kids p → k ∈ F.kids q → p = q
  nodup : ∀ i, i < n → (F.kids i).Nodup
  names : ∀ a b, a < n → b < n → F.kids a = [] → F.kids b = [] → F.nm a = F.nm b → a = b
section
variable {F : Frs} {n : Nat} {rk : Nat → Nat}
theorem sub_parent (h : Wf F n rk) : ∀ {d x j : Nat}, x < n → rk x ≤ d → subF F rk x j = true → j ≠ x → ∃ p, p < n ∧ j ∈ F.kids p ∧ subF F rk x p = true := by
  intro d
  induction d with
  | zero =>
    intro x j hx hd hj hne
    rcases subF_cases h hx hj with e | ⟨k, hk, h1⟩
    · exact absurd e hne
    · have := (h.kid x hx k hk).2; omega
  | succ d ih =>
    intro x j hx hd hj hne
    rcases subF_cases h hx hj with e | ⟨k, hk, h1⟩
    · exact absurd e hne
    · have hkk := h.kid x hx k hk
      by_cases e : j = k
      · exact ⟨x, hx, by rw [e]; exact hk, subF_self h hx⟩
      · obtain ⟨p, hp, h2, h3⟩ := ih hkk.1 (by omega) h1 e
        exact ⟨p, hp, h2, subF_kid h hx hk h3⟩
theorem sub_chain (h : Arb F n rk) {R : Nat} (hR : ∀ i, i < n → rk i ≤ R) : ∀ {m j x y : Nat}, R - rk j ≤ m → j < n → x < n → y < n → subF F rk x j = true → subF F rk y j = true → subF F rk x y = true ∨ subF F rk y x = true := by
  intro m
  induction m with
  | zero =>
    intro j x y hm hj hx hy h1 h2
    by_cases e1 : j = x
    · subst e1; exact .inr h2
    · obtain ⟨p, hp, hk, _⟩ := sub_parent h.wf hx (Nat.le_refl _) h1 e1
      have := (h.wf.kid p hp j hk).2
      have := hR p hp
      omega
  | succ m ih =>
    intro j x y hm hj hx hy h1 h2
    by_cases e1 : j = x
    · subst e1; exact .inr h2
    · by_cases e2 : j = y
      · subst e2; exact .inl h1
      · obtain ⟨p, hp, hk, h3⟩ := sub_parent h.wf hx (Nat.le_refl _) h1 e1
        obtain ⟨q, hq, hk2, h4⟩ := sub_parent h.wf hy (Nat.le_refl _) h2 e2
        obtain rfl := h.one p q j hp hq hk hk2
        have h5 := (h.wf.kid p hp j hk).2
        have h6 := hR p hp
        exact ih (by omega) hp hx hy h3 h4
theorem sub_kids (h : Arb F n rk) {R : Nat} (hR : ∀ i, i < n → rk i ≤ R) {i x y j : Nat} (hi : i < n) (hx : x ∈ F.kids i) (hy : y ∈ F.kids i) (h1 : subF F rk x j = true) (h2 : subF F rk y j = true) : x = y := by
  have hxn := h.wf.kid i hi x hx
  have hyn := h.wf.kid i hi y hy
  have hj := subF_lt h.wf hxn.1 (Nat.le_refl _) h1
  have key : ∀ {a b : Nat}, a ∈ F.kids i → b ∈ F.kids i → a < n → rk a < rk i → subF F rk a b = true → a = b := fun {a b} ha hb han har hab => by
    by_cases e : b = a
    · exact e.symm
    · obtain ⟨p, hp, hk, h3⟩ := sub_parent h.wf han (Nat.le_refl _) hab e
      obtain rfl := h.one p i b hp hi hk hb
      have := subD_rank h.wf han h3; omega
  rcases sub_chain h hR (Nat.le_refl _) hj hxn.1 hyn.1 h1 h2 with h3 | h3
  · exact key hx hy hxn.1 hxn.2 h3
  · exact (key hy hx hyn.1 hyn.2 h3).symm
theorem ls_leaf (h : Wf F n rk) : ∀ {d i : Nat}, i < n → rk i ≤ d → ∃ j, j < n ∧ subF F rk i j = true ∧ F.kids j = [] ∧ lsF F rk i = F.nm j := by
  intro d
  induction d with
  | zero =>
    intro i hi hd
    have hk : F.kids i = [] := by
      cases hk : F.kids i with
      | nil => rfl
      | cons k l => have := (h.kid i hi k (by rw [hk]; simp)).2; omega
    exact ⟨i, hi, subF_self h hi, hk, by rw [lsF_eq h hi, hk]; simp [srtBy]⟩
  | succ d ih =>
    intro i hi hd
    by_cases hk : F.kids i = []
    · exact ⟨i, hi, subF_self h hi, hk, by rw [lsF_eq h hi, hk]; simp [srtBy]⟩
    · obtain ⟨k, l, hs⟩ : ∃ k l, srtBy (lsF F rk) (F.kids i) = k :: l := by
        cases hs : srtBy (lsF F rk) (F.kids i) with
        | nil => have h1 := (srtBy_perm (lsF F rk) (F.kids i)).length_eq; rw [hs] at h1; exact absurd (List.length_eq_zero_iff.1 h1.symm) hk
        | cons k l => exact ⟨k, l, rfl⟩
      have hki : k ∈ F.kids i := (srtBy_perm (lsF F rk) _).mem_iff.1 (by rw [hs]; simp)
      have hkk := h.kid i hi k hki
      obtain ⟨j, hj, h1, h2, h3⟩ := ih hkk.1 (by omega)
      exact ⟨j, hj, subF_kid h hi hki h1, h2, by rw [lsF_eq h hi, hs]; exact h3⟩
theorem Arb.sortable (h : Arb F n rk) (hl : ∀ i, i < n → (F.kids i).length ≤ 1000) {R : Nat} (hR : ∀ i, i < n → rk i ≤ R) : Sortable F n rk := by
  refine ⟨h.wf, fun i hi x hx y hy e => ?_, h.nodup, hl⟩
  have hxn := h.wf.kid i hi x hx
  have hyn := h.wf.kid i hi y hy
  obtain ⟨a, ha, h1, h2, h3⟩ := ls_leaf h.wf hxn.1 (Nat.le_refl _)
  obtain ⟨b, hb, h4, h5, h6⟩ := ls_leaf h.wf hyn.1 (Nat.le_refl _)
  rw [h3, h6] at e
  obtain rfl := h.names a b ha hb h2 h5 e
  exact sub_kids h hR hi hx hy h1 h4
def nodesF (F : Frs) (rk : Nat → Nat) (i : Nat) : List Nat := (seqF F rk i none).map (·.1)
theorem seq_fst (h : Wf F n rk) : ∀ {d i : Nat} (p q : Option Nat), i < n → rk i ≤ d → (seqF F rk i p).map (·.1) = (seqF F rk i q).map (·.1) := by
  intro d
  cases d with
  | zero => intro i p q hi hd; rw [seqF_eq h hi, seqF_eq h hi]; rfl
  | succ d => intro i p q hi hd; rw [seqF_eq h hi, seqF_eq h hi]; rfl
theorem nodesF_eq (h : Wf F n rk) {i : Nat} (hi : i < n) : nodesF F rk i = i :: (F.kids i).flatMap fun k => nodesF F rk k := by
  unfold nodesF
  rw [seqF_eq h hi, List.map_cons, List.map_flatMap]
  congr 1
  exact flatMap_congr' fun k hk => seq_fst h _ _ (h.kid i hi k hk).1 (Nat.le_refl _)
theorem mem_nodesF (h : Wf F n rk) : ∀ {d i j : Nat}, i < n → rk i ≤ d → (j ∈ nodesF F rk i ↔ subF F rk i j = true) := by
  intro d
  induction d with
  | zero =>
    intro i j hi hd
    rw [nodesF_eq h hi, subF_eq h hi]
    have hk : F.kids i = [] := by
      cases hk : F.kids i with
      | nil => rfl
      | cons k l => have := (h.kid i hi k (by rw [hk]; simp)).2; omega
    simp [hk]
  | succ d ih =>
    intro i j hi hd
    rw [nodesF_eq h hi, subF_eq h hi]
    simp only [List.mem_cons, List.mem_flatMap, Bool.or_eq_true, beq_iff_eq, List.any_eq_true]
    constructor
    · rintro (e | ⟨k, hk, h1⟩)
      · exact .inl e
      · have := h.kid i hi k hk
        exact .inr ⟨k, hk, (ih this.1 (by omega)).1 h1⟩
    · rintro (e | ⟨k, hk, h1⟩)
      · exact .inl e
      · have := h.kid i hi k hk
        exact .inr ⟨k, hk, (ih this.1 (by omega)).2 h1⟩
theorem nodesF_nodup (h : Arb F n rk) {R : Nat} (hR : ∀ i, i < n → rk i ≤ R) : ∀ {d i : Nat}, i < n → rk i ≤ d → (nodesF F rk i).Nodup := by
  intro d
  induction d with
  | zero =>
    intro i hi hd
    rw [nodesF_eq h.wf hi]
    have hk : F.kids i = [] := by
      cases hk : F.kids i with
      | nil => rfl
      | cons k l => have := (h.wf.kid i hi k (by rw [hk]; simp)).2; omega
    simp [hk]
  | succ d ih =>
    intro i hi hd
    rw [nodesF_eq h.wf hi, List.nodup_cons]
    refine ⟨fun hm => ?_, ?_⟩
    · obtain ⟨k, hk, h1⟩ := List.mem_flatMap.1 hm
      have hkk := h.wf.kid i hi k hk
      have := subD_rank h.wf hkk.1 ((mem_nodesF h.wf hkk.1 (Nat.le_refl _)).1 h1); omega
    · have hsub : ∀ l : List Nat, l.Nodup → (∀ k ∈ l, k ∈ F.kids i) → (l.flatMap fun k => nodesF F rk k).Nodup := by
        intro l
        induction l with
        | nil => intro _ _; simp
        | cons x l ihl =>
          intro hn hin
          obtain ⟨hx, hl⟩ := List.nodup_cons.1 hn
          have hxx := h.wf.kid i hi x (hin x (by simp))
          rw [List.flatMap_cons, List.nodup_append]
          refine ⟨ih hxx.1 (by omega), ihl hl (fun k hk => hin k (by simp [hk])), fun a ha b hb e => ?_⟩
          subst e
          obtain ⟨y, hy, h2⟩ := List.mem_flatMap.1 hb
          have hyy := h.wf.kid i hi y (hin y (by simp [hy]))
          have := sub_kids h hR hi (hin x (by simp)) (hin y (by simp [hy])) ((mem_nodesF h.wf hxx.1 (Nat.le_refl _)).1 ha) ((mem_nodesF h.wf hyy.1 (Nat.le_refl _)).1 h2)
          subst this; exact hx hy
      exact hsub _ (h.nodup i hi) (fun k hk => hk)
theorem nodup_le {l : List Nat} {n : Nat} (h : l.Nodup) (hl : ∀ x ∈ l, x < n) : l.length ≤ n := by
  have h1 : l ⊆ List.range n := fun x hx => List.mem_range.2 (hl x hx)
  have := h.length_le_of_subset h1
  simpa using this
theorem seq_len (h : Arb F n rk) {R : Nat} (hR : ∀ i, i < n → rk i ≤ R) {i : Nat} (hi : i < n) (p : Option Nat) : (seqF F rk i p).length ≤ n := by
  have h1 : (seqF F rk i p).length = (nodesF F rk i).length := by
    have := congrArg List.length (seq_fst h.wf p none hi (Nat.le_refl _))
    simpa [nodesF] using this
  rw [h1]
  exact nodup_le (nodesF_nodup h hR hi (Nat.le_refl _)) (fun x hx => subF_lt h.wf hi (Nat.le_refl _) ((mem_nodesF h.wf hi (Nat.le_refl _)).1 hx))
theorem Arb.srt (h : Arb F n rk) (p : Nat → Bool) : Arb (F.srt rk p) n rk :=
  ⟨⟨fun i hi k hk => h.wf.kid i hi k ((F.srt_perm rk p i).mem_iff.1 hk)⟩, fun a b k ha hb h1 h2 => h.one a b k ha hb ((F.srt_perm rk p a).mem_iff.1 h1) ((F.srt_perm rk p b).mem_iff.1 h2), fun i hi => (F.srt_perm rk p i).symm.nodup_iff.1 (h.nodup i hi),
    fun a b ha hb h1 h2 e => h.names a b ha hb (List.perm_nil.1 (by rw [← h1]; exact (F.srt_perm rk p a).symm)) (List.perm_nil.1 (by rw [← h2]; exact (F.srt_perm rk p b).symm)) e⟩
end
def rkT (t : Tre) (i : Nat) : Nat := t.ps.length - i
theorem frT_kids (t : Tre) (i : Nat) : (frT t).kids i = kidsL t.ps i := rfl
theorem frT_arb {t : Tre} (h : treeErr t = 0) : Arb (frT t) t.ps.length (rkT t) := by
  obtain ⟨hp, _, hn, hok, he⟩ := treeErr_zero h
  refine ⟨⟨fun i hi k hk => ?_⟩, fun p q k _ _ h1 h2 => ?_, fun i _ => ?_, fun a b ha hb h1 h2 e => ?_⟩
  · obtain ⟨h1, h2, _⟩ := mem_kidsL.1 hk
    exact ⟨h1, by unfold rkT; omega⟩
  · obtain ⟨_, _, h3⟩ := mem_kidsL.1 h1
    obtain ⟨_, _, h4⟩ := mem_kidsL.1 h2
    omega
  · exact List.Pairwise.filter _ List.nodup_range
  · have leaf : ∀ i, i < t.ps.length → kidsL t.ps i = [] → isIn t.ps i = false := fun i hi hk => by
      cases hin : isIn t.ps i with
      | false => rfl
      | true => exact absurd hk ((kids_isIn hok i).2 hin)
    have e : gs t.ns a = gs t.ns b := e
    rcases Nat.lt_trichotomy a b with hab | hab | hab
    · have h3 := (leaf_named h hb (leaf b hb h2)).2
      have := any_false h3 hab
      simp [e] at this
    · exact hab
    · have h3 := (leaf_named h ha (leaf a ha h1)).2
      have := any_false h3 hab
      simp [e] at this
theorem rkT_le (t : Tre) (i : Nat) : rkT t i ≤ t.ps.length := Nat.sub_le _ _
end Go.Proofs.YtpjijbophjdgaaaGreat
namespace Go.Proofs.YtpjijbophjdgaaaGreat
open Go.RowKit Go.Deep
def canF (t : Tre) : Frs := (frT t).srt (rkT t) fun j => false || subF (frT t) (rkT t) 0 j
def canT (t : Tre) : Tre := treeF (canF t) (rkT t) 0
theorem frT_kids_len (t : Tre) (i : Nat) : ((frT t).kids i).length ≤ t.ps.length := by rw [frT_kids]; exact kidsK_len _ _ _
theorem canF_arb {t : Tre} (h : treeErr t = 0) : Arb (canF t) t.ps.length (rkT t) := (frT_arb h).srt _
theorem canF_kids_len (t : Tre) (i : Nat) : ((canF t).kids i).length ≤ t.ps.length := by
  have h := ((frT t).srt_perm (rkT t) (fun j => false || subF (frT t) (rkT t) 0 j) i).length_eq
  have h2 := frT_kids_len t i
  unfold canF; omega
theorem box_at {w : World} {P N : Value} {T : TypeId} : (w.alloc (.cells #[P, N] T)).heap[w.heap.size]? = some (.cells #[P, N] T (0, 0)) := World.alloc_heap_new _ _
set_option maxRecDepth 100000 in
set_option maxHeartbeats 2000000 in
theorem canonical_t (S : Nat → Prop) (w : World) (v : Value) (t : Tre) (hT : TreeAt S w v t) (he : treeErr t = 0) (hz : ∀ k, (gs t.ns k).size ≤ 70000) : Calls Tryz.prog 92 #[v] w (TrPost w (canT t)) := by
  obtain ⟨hp0, hp64, hnl, hok, _⟩ := treeErr_zero he
  obtain ⟨P, N, rfl, hP, hN⟩ := hT
  have hu := (Up.alloc w (.cells #[P, N] 45)).trans (Up.alloc _ (.cells #[.slice none 0 0, .slice none 0 0] 45))
  have hT1 : TreeAt S ((w.alloc (.cells #[P, N] 45)).alloc (.cells #[.slice none 0 0, .slice none 0 0] 45)) (.agg #[P, N]) t := TreeAt.keep ⟨P, N, rfl, hP, hN⟩ (hu.kept _)
  have HN := Lib.hid (nodes_t S _ _ t hT1 (by omega) hnl hok hz)
  have HU := Lib.hid hu
  have hc0 := (Up.alloc _ (.cells #[.slice none 0 0, .slice none 0 0] 45)).cell (box2_0 w P N 45)
  have hc1 := (Up.alloc _ (.cells #[.slice none 0 0, .slice none 0 0] 45)).cell (box2_1 w P N 45)
  have hrb := box_at (w := w.alloc (.cells #[P, N] 45)) (P := .slice none 0 0) (N := .slice none 0 0) (T := 45)
  have hsz : ((w.alloc (.cells #[P, N] 45)).alloc (.cells #[.slice none 0 0, .slice none 0 0] 45)).heap.size = w.heap.size + 2 := by simp
  rw [World.size_alloc] at hrb
  have HRB := Lib.hid hrb
  have HSZ := Lib.hid hsz
  have HAR := Lib.hid (frT_arb he)
  have HCA := Lib.hid (canF_arb he)
  clear hu hT1 hP hN hrb hsz hnl hok
  go_enter Tryz.func92, Tryz.ntmps92
  go_wp2_with fail
  generalize (w.alloc (.cells #[P, N] 45)).alloc (.cells #[.slice none 0 0, .slice none 0 0] 45) = w1 at *
  refine HN.out.mono ?_
  rintro e w2 ⟨hu2, g, A, kv, rfl, hF, hrow⟩
  have hi0 := hrow.cell (i := 0) hp0
  have HF2 := Lib.hid hF
  have HU2 := Lib.hid hu2
  have HRB2 := Lib.hid ((Below.block hu2 (w.heap.size + 1) (by rw [HSZ.out]; omega)).trans HRB.out)
  have hs2 := hu2.size
  simp only [nptr] at hi0
  have hpos : (0 : Int) < (t.ps.length : Int) := by omega
  clear hu2 hF hrow hc0 hc1 HN
  go_wp2_with fail
  have hF0 : FAt w1.heap.size t.ps.length A kv ((frT t).srt (rkT t) fun _ => false) w2 := HF2.out.congr fun j _ => ⟨rfl, rfl, rfl⟩
  have HSO := Lib.hid (sorted_t (HAR.out.sortable (fun i _ => by have := frT_kids_len t i; omega) (fun i _ => rkT_le t i)) (rkT t 0) 0 (fun _ => false) w2 hp0 (Nat.le_refl _) hF0)
  clear hi0
  refine HSO.out.mono ?_
  rintro e w3 ⟨rfl, hF3, hfu⟩
  have hb3 : Below w1.heap.size w2 w3 := hfu.below hF0 hs2
  have HRB3 := Lib.hid ((hb3.block (w.heap.size + 1) (by rw [HSZ.out]; omega)).trans HRB2.out)
  have HU3 : Hid (Up w1 w3) := Below.trans HU2.out hb3
  have HTR := Lib.hid (tree_t (F := canF t) (rk := rkT t) HCA.out.wf (fun i _ => by have := canF_kids_len t i; omega) w3 0 hp0 hF3 (by have := seq_len HCA.out (fun i _ => rkT_le t i) hp0 none; omega))
  clear hF3 hfu hb3 HSO HF2 hF0 HRB2 HU2
  go_wp2_with fail
  refine HTR.out.mono ?_
  rintro e w4 ⟨hu4, _, rfl, P4, N4, rfl, hP4, hN4⟩
  obtain ⟨pp, pc, rfl, _, _⟩ := SlAt.open hP4
  obtain ⟨np, nc, rfl, _, _⟩ := SlAt.open hN4
  have hrb4 := (Below.block hu4 (w.heap.size + 1) (by have := HU3.out.size; rw [HSZ.out] at this; omega)).trans HRB3.out
  have hr0 : w4.cell? ⟨w.heap.size + 1, 0, none⟩ = some (.slice none 0 0) := by simp [World.cell?, hrb4]
  have hr1 : w4.cell? ⟨w.heap.size + 1, 1, none⟩ = some (.slice none 0 0) := by simp [World.cell?, hrb4]
  have hf0 : w4.frozen? ⟨w.heap.size + 1, 0, none⟩ = false := by simp [World.frozen?, hrb4]
  have hf1 : w4.frozen? ⟨w.heap.size + 1, 1, none⟩ = false := by simp [World.frozen?, hrb4]
  have HP4 := Lib.hid hP4
  have HN4 := Lib.hid hN4
  have HU4 := Lib.hid hu4
  have HRB4 := Lib.hid hrb4
  clear hP4 hN4 hu4 hrb4 HTR HRB3
  go_wp2_with fail
  have hset : ∀ b, b ≠ w.heap.size + 1 → ((w4.setCell ⟨w.heap.size + 1, 0, none⟩ (.slice pp (treeF (canF t) (rkT t) 0).ps.length pc)).setCell ⟨w.heap.size + 1, 1, none⟩ (.slice np (treeF (canF t) (rkT t) 0).ns.length nc)).heap[b]? = w4.heap[b]? := fun b hb => by rw [blk_setCell_other _ _ _ _ hb, blk_setCell_other _ _ _ _ hb]
  have hheap : ((w4.setCell ⟨w.heap.size + 1, 0, none⟩ (.slice pp (treeF (canF t) (rkT t) 0).ps.length pc)).setCell ⟨w.heap.size + 1, 1, none⟩ (.slice np (treeF (canF t) (rkT t) 0).ns.length nc)).heap[w.heap.size + 1]? = some (Obj.cells #[.slice pp (treeF (canF t) (rkT t) 0).ps.length pc, .slice np (treeF (canF t) (rkT t) 0).ns.length nc] 45 (0, 0)) := by
    simp [World.setCell, Array.getElem?_modify, HRB4.out]
  have hu4 := HU.out.trans (HU3.out.trans HU4.out)
  have hu5 : Up w ((w4.setCell ⟨w.heap.size + 1, 0, none⟩ (.slice pp (treeF (canF t) (rkT t) 0).ps.length pc)).setCell ⟨w.heap.size + 1, 1, none⟩ (.slice np (treeF (canF t) (rkT t) 0).ns.length nc)) :=
    ⟨hu4.os, hu4.tape, hu4.output, by simp [World.size_setCell]; exact hu4.size, fun b hb => (hset b (by omega)).trans (hu4.block b hb)⟩
  have hs3 : w.heap.size + 2 ≤ w3.heap.size := by have := HU3.out.size; rw [HSZ.out] at this; exact this
  generalize (w4.setCell ⟨w.heap.size + 1, 0, none⟩ (.slice pp (treeF (canF t) (rkT t) 0).ps.length pc)).setCell ⟨w.heap.size + 1, 1, none⟩ (.slice np (treeF (canF t) (rkT t) 0).ns.length nc) = w5 at *
  have hr0 : w5.cell? ⟨w.heap.size + 1, 0, none⟩ = some (.slice pp (treeF (canF t) (rkT t) 0).ps.length pc) := by simp [World.cell?, hheap]
  have hr1 : w5.cell? ⟨w.heap.size + 1, 1, none⟩ = some (.slice np (treeF (canF t) (rkT t) 0).ns.length nc) := by simp [World.cell?, hheap]
  refine ⟨rfl, .agg #[.slice pp (treeF (canF t) (rkT t) 0).ps.length pc, .slice np (treeF (canF t) (rkT t) 0).ns.length nc], by simp [results, Tryz.results92, go_sem, hr0, hr1], ?_⟩
  exact ⟨hu5, _, rfl, _, _, rfl, (IntsAt.keep HP4.out fun b hb _ => hset b (by omega)).sub fun b hb _ => by omega, (StrsAt.keep HN4.out fun b hb _ => hset b (by omega)).sub fun b hb _ => by omega⟩
theorem store_two {w w4 : World} {B : Nat} {x y p q : Value} {T : TypeId} (hb : w4.heap[B]? = some (Obj.cells #[x, y] T (0, 0))) (hB : w.heap.size ≤ B) (hu : Up w w4) :
    Up w ((w4.setCell ⟨B, 0, none⟩ p).setCell ⟨B, 1, none⟩ q) ∧ ((w4.setCell ⟨B, 0, none⟩ p).setCell ⟨B, 1, none⟩ q).cell? ⟨B, 0, none⟩ = some p ∧ ((w4.setCell ⟨B, 0, none⟩ p).setCell ⟨B, 1, none⟩ q).cell? ⟨B, 1, none⟩ = some q ∧
      ∀ b, b ≠ B → ((w4.setCell ⟨B, 0, none⟩ p).setCell ⟨B, 1, none⟩ q).heap[b]? = w4.heap[b]? := by
  have hset : ∀ b, b ≠ B → ((w4.setCell ⟨B, 0, none⟩ p).setCell ⟨B, 1, none⟩ q).heap[b]? = w4.heap[b]? := fun b hb => by rw [blk_setCell_other _ _ _ _ hb, blk_setCell_other _ _ _ _ hb]
  have hheap : ((w4.setCell ⟨B, 0, none⟩ p).setCell ⟨B, 1, none⟩ q).heap[B]? = some (Obj.cells #[p, q] T (0, 0)) := by
    simp [World.setCell, Array.getElem?_modify, hb]
  exact ⟨⟨hu.os, hu.tape, hu.output, by simp [World.size_setCell]; exact hu.size, fun b hb => (hset b (by omega)).trans (hu.block b hb)⟩, by simp [World.cell?, hheap], by simp [World.cell?, hheap], hset⟩
end Go.Proofs.YtpjijbophjdgaaaGreat
namespace Go.Proofs.YtpjijbophjdgaaaGreat
deriving instance DecidableEq for Tre
def insB (f : Nat → ByteArray) (a : Nat) : List Nat → List Nat
  | [] => [a]
  | b :: l => if leB f a b then a :: b :: l else b :: insB f a l
def isrt (f : Nat → ByteArray) : List Nat → List Nat
  | [] => []
  | a :: l => insB f a (isrt f l)
theorem insB_split (f : Nat → ByteArray) (a : Nat) (l₂ : List Nat) (h2 : ∀ b ∈ l₂, leB f a b = true) : ∀ l₁ : List Nat, (∀ b ∈ l₁, leB f a b = false) → insB f a (l₁ ++ l₂) = l₁ ++ a :: l₂
  | [], _ => by
    cases l₂ with
    | nil => rfl
    | cons b l => simp only [List.nil_append, insB]; rw [if_pos (h2 b (by simp))]
  | b :: l₁, h1 => by
    simp only [List.cons_append, insB]
    rw [if_neg (by rw [h1 b (by simp)]; decide), insB_split f a l₂ h2 l₁ fun c hc => h1 c (by simp [hc])]
theorem srtBy_eq (f : Nat → ByteArray) : ∀ l, srtBy f l = isrt f l
  | [] => by unfold srtBy; simp [isrt]
  | a :: l => by
    have ih := srtBy_eq f l
    obtain ⟨l₁, l₂, h1, h2, h3⟩ := List.mergeSort_cons (leB_trans f) (leB_total f) a l
    have hs := srtBy_sorted f (a :: l)
    unfold srtBy at hs ih ⊢
    rw [h1] at hs ⊢
    show _ = insB f a (isrt f l)
    rw [← ih, h2]
    refine (insB_split f a l₂ (fun b hb => ?_) l₁ fun b hb => by simpa using h3 b hb).symm
    have h4 := (List.pairwise_append.1 hs).2.1
    exact (List.pairwise_cons.1 h4).1 b hb
end Go.Proofs.YtpjijbophjdgaaaGreat
