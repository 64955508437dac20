/- Forests whose nodes change below one node: plain. phylotree.pruned: what it does to the forest. -/
import Derived.Test.YtpjijbophjdgaaaGreatQ16
namespace Go.Proofs.YtpjijbophjdgaaaGreat
section
variable {F G : Frs} {n : Nat} {rk : Nat → Nat}
theorem kids_nil0 (h : Wf F n rk) {i : Nat} (hi : i < n) (h0 : rk i ≤ 0) : F.kids i = [] := by
  cases hk : F.kids i with
  | nil => rfl
  | cons k l => have := (h.kid i hi k (by rw [hk]; simp)).2; omega
theorem sub_trans (h : Wf F n rk) : ∀ {d i j z : Nat}, i < n → rk i ≤ d → subF F rk i j = true → subF F rk j z = true → subF F rk i z = true := by
  intro d
  induction d with
  | zero =>
    intro i j z hi hd h1 h2
    rw [subF_eq h hi, kids_nil0 h hi hd] at h1
    have : j = i := by simpa using h1
    subst this; exact h2
  | succ d ih =>
    intro i j z hi hd h1 h2
    rcases subF_cases h hi h1 with e | ⟨k, hk, h3⟩
    · subst e; exact h2
    · have hkk := h.kid i hi k hk
      exact subF_kid h hi hk (ih hkk.1 (by omega) h3 h2)
theorem sub_cong (hF : Wf F n rk) (hG : Wf G n rk) : ∀ {d c : Nat}, c < n → rk c ≤ d → (∀ z, subF F rk c z = true → G.kids z = F.kids z) → ∀ z, subF G rk c z = subF F rk c z := by
  intro d
  induction d with
  | zero =>
    intro c hc hd hz z
    rw [subF_eq hF hc, subF_eq hG hc, kids_nil0 hF hc hd, kids_nil0 hG hc hd]; rfl
  | succ d ih =>
    intro c hc hd hz z
    rw [subF_eq hF hc, subF_eq hG hc, hz c (subF_self hF hc)]
    congr 1
    rw [Bool.eq_iff_iff, List.any_eq_true, List.any_eq_true]
    have key : ∀ k ∈ F.kids c, subF G rk k z = subF F rk k z := fun k hk => by
      have hkk := hF.kid c hc k hk
      exact ih hkk.1 (by omega) (fun y hy => hz y (subF_kid hF hc hk hy)) z
    constructor
    · rintro ⟨k, hk, e⟩; exact ⟨k, hk, by rw [← key k hk]; exact e⟩
    · rintro ⟨k, hk, e⟩; exact ⟨k, hk, by rw [key k hk]; exact e⟩
def crD (F : Frs) : Nat → Nat → Nat
  | 0, i => i
  | d + 1, i => match F.kids i with | [k] => crD F d k | _ => i
def cr (F : Frs) (rk : Nat → Nat) (i : Nat) : Nat := crD F (rk i) i
theorem crD_fuel (h : Wf F n rk) : ∀ {d e i : Nat}, i < n → rk i ≤ d → rk i ≤ e → crD F d i = crD F e i := by
  intro d
  induction d with
  | zero =>
    intro e i hi hd he
    cases e with
    | zero => rfl
    | succ e => simp [crD, kids_nil0 h hi hd]
  | succ d ih =>
    intro e i hi hd he
    cases e with
    | zero => simp [crD, kids_nil0 h hi he]
    | succ e =>
      simp only [crD]
      split
      · rename_i k hk
        have := h.kid i hi k (by rw [hk]; simp)
        exact ih this.1 (by omega) (by omega)
      · rfl
theorem cr_eq (h : Wf F n rk) {i : Nat} (hi : i < n) : cr F rk i = match F.kids i with | [k] => cr F rk k | _ => i := by
  have h1 : cr F rk i = crD F (rk i + 1) i := crD_fuel h hi (Nat.le_refl _) (Nat.le_succ _)
  rw [h1]
  simp only [crD]
  split
  · rename_i k hk
    have := h.kid i hi k (by rw [hk]; simp)
    exact crD_fuel h this.1 (by omega) (Nat.le_refl _)
  · rfl
theorem cr_one (h : Wf F n rk) {i k : Nat} (hi : i < n) (hk : F.kids i = [k]) : cr F rk i = cr F rk k := by rw [cr_eq h hi, hk]
theorem cr_self (h : Wf F n rk) {i : Nat} (hi : i < n) (hk : (F.kids i).length ≠ 1) : cr F rk i = i := by
  rw [cr_eq h hi]
  split
  · rename_i k e; rw [e] at hk; simp at hk
  · rfl
theorem cr_ok (h : Wf F n rk) : ∀ {d i : Nat}, i < n → rk i ≤ d → cr F rk i < n ∧ rk (cr F rk i) ≤ rk i ∧ subF F rk i (cr F rk i) = true ∧ (F.kids (cr F rk i)).length ≠ 1 := by
  intro d
  induction d with
  | zero =>
    intro i hi hd
    rw [cr_self h hi (by rw [kids_nil0 h hi hd]; simp)]
    exact ⟨hi, Nat.le_refl _, subF_self h hi, by rw [kids_nil0 h hi hd]; simp⟩
  | succ d ih =>
    intro i hi hd
    by_cases h1 : (F.kids i).length = 1
    · obtain ⟨k, hk⟩ := List.length_eq_one_iff.1 h1
      have hkk := h.kid i hi k (by rw [hk]; simp)
      obtain ⟨a, b, c, e⟩ := ih hkk.1 (by omega)
      rw [cr_one h hi hk]
      exact ⟨a, by omega, subF_kid h hi (by rw [hk]; simp) c, e⟩
    · rw [cr_self h hi h1]
      exact ⟨hi, Nat.le_refl _, subF_self h hi, h1⟩
theorem cr_cong (hF : Wf F n rk) (hG : Wf G n rk) : ∀ {d c : Nat}, c < n → rk c ≤ d → (∀ z, subF F rk c z = true → G.kids z = F.kids z) → cr G rk c = cr F rk c := by
  intro d
  induction d with
  | zero =>
    intro c hc hd hz
    rw [cr_self hF hc (by rw [kids_nil0 hF hc hd]; simp), cr_self hG hc (by rw [kids_nil0 hG hc hd]; simp)]
  | succ d ih =>
    intro c hc hd hz
    have h0 := hz c (subF_self hF hc)
    by_cases h1 : (F.kids c).length = 1
    · obtain ⟨k, hk⟩ := List.length_eq_one_iff.1 h1
      have hkk := hF.kid c hc k (by rw [hk]; simp)
      rw [cr_one hF hc hk, cr_one hG hc (by rw [h0, hk])]
      exact ih hkk.1 (by omega) fun y hy => hz y (subF_kid hF hc (by rw [hk]; simp) hy)
    · rw [cr_self hF hc h1, cr_self hG hc (by rw [h0]; exact h1)]
def alD (F : Frs) (P : Nat → Bool) : Nat → Nat → Bool
  | 0, i => P i
  | d + 1, i => if F.kids i = [] then P i else (F.kids i).any (alD F P d)
def al (F : Frs) (P : Nat → Bool) (rk : Nat → Nat) (i : Nat) : Bool := alD F P (rk i) i
theorem any_congr {α : Type} {f g : α → Bool} : ∀ {l : List α}, (∀ k ∈ l, f k = g k) → l.any f = l.any g
  | [], _ => rfl
  | a :: l, h => by rw [List.any_cons, List.any_cons, h a (by simp), any_congr fun k hk => h k (by simp [hk])]
theorem alD_fuel {P : Nat → Bool} (h : Wf F n rk) : ∀ {d e i : Nat}, i < n → rk i ≤ d → rk i ≤ e → alD F P d i = alD F P e i := by
  intro d
  induction d with
  | zero =>
    intro e i hi hd he
    cases e with
    | zero => rfl
    | succ e => simp [alD, kids_nil0 h hi hd]
  | succ d ih =>
    intro e i hi hd he
    cases e with
    | zero => simp [alD, kids_nil0 h hi he]
    | succ e =>
      simp only [alD]
      split
      · rfl
      · exact any_congr fun k hk => by
          have := h.kid i hi k hk
          exact ih this.1 (by omega) (by omega)
theorem al_eq {P : Nat → Bool} (h : Wf F n rk) {i : Nat} (hi : i < n) : al F P rk i = if F.kids i = [] then P i else (F.kids i).any (al F P rk) := by
  have h1 : al F P rk i = alD F P (rk i + 1) i := alD_fuel h hi (Nat.le_refl _) (Nat.le_succ _)
  rw [h1]
  simp only [alD]
  split
  · rfl
  · exact any_congr fun k hk => by
      have := h.kid i hi k hk
      exact alD_fuel h this.1 (by omega) (Nat.le_refl _)
theorem al_cong {P : Nat → Bool} (hF : Wf F n rk) (hG : Wf G n rk) : ∀ {d c : Nat}, c < n → rk c ≤ d → (∀ z, subF F rk c z = true → G.kids z = F.kids z) → al G P rk c = al F P rk c := by
  intro d
  induction d with
  | zero =>
    intro c hc hd hz
    rw [al_eq hF hc, al_eq hG hc, kids_nil0 hF hc hd, kids_nil0 hG hc hd]; rfl
  | succ d ih =>
    intro c hc hd hz
    rw [al_eq hF hc, al_eq hG hc, hz c (subF_self hF hc)]
    split
    · rfl
    · exact any_congr fun k hk => by
        have hkk := hF.kid c hc k hk
        exact ih hkk.1 (by omega) fun y hy => hz y (subF_kid hF hc hk hy)
def Dis (F : Frs) (n : Nat) (rk : Nat → Nat) (i : Nat) : Prop :=
  ∀ z, z < n → subF F rk i z = true → (F.kids z).Nodup ∧ ∀ x ∈ F.kids z, ∀ y ∈ F.kids z, ∀ j, subF F rk x j = true → subF F rk y j = true → x = y
theorem Dis.kid (h : Wf F n rk) {i k : Nat} (hi : i < n) (hk : k ∈ F.kids i) (hD : Dis F n rk i) : Dis F n rk k := fun z hz hs => hD z hz (subF_kid h hi hk hs)
theorem Dis.cong (hF : Wf F n rk) (hG : Wf G n rk) {c : Nat} (hc : c < n) (hz : ∀ z, subF F rk c z = true → G.kids z = F.kids z) (hD : Dis F n rk c) : Dis G n rk c := fun z hzn hs => by
  have hs : subF F rk c z = true := by rw [← sub_cong hF hG hc (Nat.le_refl _) hz]; exact hs
  obtain ⟨h1, h2⟩ := hD z hzn hs
  rw [hz z hs]
  refine ⟨h1, fun x hx y hy j a b => h2 x hx y hy j ?_ ?_⟩
  · rw [← sub_cong hF hG (hF.kid z hzn x hx).1 (Nat.le_refl _) fun u hu => hz u (sub_trans hF hc (Nat.le_refl _) hs (subF_kid hF hzn hx hu))]; exact a
  · rw [← sub_cong hF hG (hF.kid z hzn y hy).1 (Nat.le_refl _) fun u hu => hz u (sub_trans hF hc (Nat.le_refl _) hs (subF_kid hF hzn hy hu))]; exact b
theorem Arb.dis (h : Arb F n rk) {R : Nat} (hR : ∀ i, i < n → rk i ≤ R) (i : Nat) : Dis F n rk i := fun z hz _ =>
  ⟨h.nodup z hz, fun _ hx _ hy _ a b => sub_kids h hR hz hx hy a b⟩
def Frs.sub (F : Frs) (rk : Nat → Nat) (q : Nat → List Nat) (i : Nat) : Frs := ⟨F.nm, F.old, fun z => if subF F rk i z then q z else F.kids z⟩
def Frs.upto (F : Frs) (rk : Nat → Nat) (q : Nat → List Nat) (L : List Nat) (k : Nat) : Frs := ⟨F.nm, F.old, fun z => if (L.take k).any (fun c => subF F rk c z) then q z else F.kids z⟩
theorem upto_zero (q : Nat → List Nat) (L : List Nat) (z : Nat) : (F.upto rk q L 0).kids z = F.kids z := by simp [Frs.upto]
theorem upto_fresh (h : Wf F n rk) {q : Nat → List Nat} {y k c : Nat} (hy : y < n) (hD : Dis F n rk y) (hc : (F.kids y)[k]? = some c) : ∀ z, subF F rk c z = true → (F.upto rk q (F.kids y) k).kids z = F.kids z := fun z hs => by
  show (if _ then _ else _) = _
  rw [if_neg]
  intro e
  obtain ⟨b, hb, e⟩ := List.any_eq_true.1 e
  obtain ⟨h1, h2⟩ := hD y hy (subF_self h hy)
  obtain ⟨j, hj, ej⟩ := List.getElem_of_mem hb
  rw [List.getElem_take] at ej
  have hjk : j < k := by rw [List.length_take] at hj; omega
  obtain ⟨hkl, ek⟩ := List.getElem?_eq_some_iff.1 hc
  have := h2 b (List.mem_of_mem_take hb) c (by rw [← ek]; exact List.getElem_mem hkl) z e hs
  rw [← ej, ← ek] at this
  have := (List.getElem_inj h1).1 this
  omega
theorem upto_succ {q : Nat → List Nat} {L : List Nat} {k c : Nat} (hc : L[k]? = some c) (z : Nat) : (F.upto rk q L (k + 1)).kids z = if subF F rk c z then q z else (F.upto rk q L k).kids z := by
  show (if _ then _ else _) = if _ then _ else (if _ then _ else _)
  rw [List.take_add_one, hc, List.any_append]
  simp only [Option.toList, List.any_cons, List.any_nil, Bool.or_false]
  cases (L.take k).any (fun c => subF F rk c z) <;> cases subF F rk c z <;> rfl
theorem upto_own (h : Wf F n rk) {q : Nat → List Nat} {y : Nat} (hy : y < n) (k : Nat) : (F.upto rk q (F.kids y) k).kids y = F.kids y := by
  show (if _ then _ else _) = _
  rw [if_neg]
  intro e
  obtain ⟨b, hb, e⟩ := List.any_eq_true.1 e
  rw [subF_not h hy (List.mem_of_mem_take hb)] at e; cases e
theorem upto_all (h : Wf F n rk) {q : Nat → List Nat} {y z : Nat} (hy : y < n) (hz : z ≠ y) : (F.upto rk q (F.kids y) (F.kids y).length).kids z = (F.sub rk q y).kids z := by
  show (if _ then _ else _) = if _ then _ else _
  rw [List.take_length, subF_eq h hy, show (z == y) = false from beq_eq_false_iff_ne.2 hz, Bool.false_or]
end
end Go.Proofs.YtpjijbophjdgaaaGreat
namespace Go.Proofs.YtpjijbophjdgaaaGreat
open Go.RowKit Go.Deep
section
variable {P : Program} {ops : Array Oper} {rest : List Oper} {o : Oper} {a : Act} {Q : Exit → Act → World → Prop}
theorem wpList_appG (W : World) (hgd : o.guard = none) (s x : Operand) (t : TypeId) (ho : o.op = .call { callee := .builtin .append, args := #[s, x], argTypes := #[t, t] })
    (base : Nat) (e : TypeId) (z : Value) (bytes : Nat) (ht : P.underlying t = some (.slice e)) (hinfo : (P.info? e).map (fun i => (i.zero, i.size, i.bytes)) = some (some z, 1, bytes))
    (hz1 : z.cells.size = 1) (hb8 : bytes ≤ 64) {v : Value} {vs : List Value} (hown : Owns base e W v vs) (hs : a.eval s = v) (u : Value)
    (hx : a.eval x = .slice (some ⟨W.heap.size, 0, none⟩) 1 1) (h1 : u.oneCell' = true) (k : Nat) (hvn : vs.length = k) (hn : k ≤ 1000000) (hbase : base ≤ W.heap.size)
    (h : ∀ g cap w', Owns base e w' (.slice (some ⟨g, 0, none⟩) (k + 1) cap) (vs ++ [u]) → W.grownBy w' v.ownBlock → (v.ownBlock = some g ∨ W.heap.size ≤ g) → wpList P ops Q rest (a.put o.dst (.slice (some ⟨g, 0, none⟩) (k + 1) cap)) w') :
    wpList P ops Q (o :: rest) a (W.alloc (.cells #[u] e)) := by
  subst hvn
  obtain ⟨i, hi, hzz⟩ := Option.map_eq_some_iff.1 hinfo
  simp only [Prod.mk.injEq] at hzz
  obtain ⟨hz, hs1, hb⟩ := hzz
  refine wpList_append_lies _ hgd s x t ho base e i z 1 bytes ht hi hz hs1 hb hz1 (by omega) v vs.length vs hs (hown.alloc _) ⟨W.heap.size, 0, none⟩ 1 1 [u] hx rfl (cell_one_new _ _ _) (by simpa using h1) (by omega)
    (by unfold maxLen; omega) ?_ (by simp; omega) _ rfl fun g cap w' h2 h3 h4 _ => h g cap w' ?_ (grown_alloc h3) (h4.imp id fun e => by rw [e, World.size_alloc]; omega)
  · have : (vs.length + 1) * bytes ≤ (vs.length + 1) * 64 := Nat.mul_le_mul_left _ hb8
    omega
  · unfold Owns; rw [List.length_append]; exact h2
end
structure PUp (n : Nat) (A : Nat → Nat) (w w' : World) : Prop where
  os : w'.os = w.os
  tape : w'.tape = w.tape
  output : w'.output = w.output
  size : w.heap.size ≤ w'.heap.size
  block : ∀ b, b < w.heap.size → (∀ i, i < n → b ≠ A i) → w'.heap[b]? = w.heap[b]?
section
variable {n base : Nat} {A : Nat → Nat} {kv : Nat → Value} {F : Frs} {w w' w2 : World} {P : Nat → Bool} {rk : Nat → Nat}
theorem PUp.refl (n : Nat) (A : Nat → Nat) (w : World) : PUp n A w w := ⟨rfl, rfl, rfl, Nat.le_refl _, fun _ _ _ => rfl⟩
theorem PUp.trans (h : PUp n A w w') (k : PUp n A w' w2) : PUp n A w w2 :=
  ⟨k.os.trans h.os, k.tape.trans h.tape, k.output.trans h.output, Nat.le_trans h.size k.size, fun b hb hA => (k.block b (Nat.lt_of_lt_of_le hb h.size) hA).trans (h.block b hb hA)⟩
theorem PUp.of_up (k : Up w w') : PUp n A w w' := ⟨k.os, k.tape, k.output, k.size, fun b hb _ => Below.block k b hb⟩
theorem PUp.below (h : PUp n A w w') (hlo : ∀ i, i < n → base ≤ A i) (hs : base ≤ w.heap.size) : Below base w w' :=
  ⟨h.os, h.tape, h.output, h.size, fun b hb => h.block b (by omega) fun i hi e => by have := hlo i hi; omega⟩
theorem FAt.putF (h : FAt base n A kv F w) {k : Nat} (hk : k < n) {v : Value} {ks : List Nat} (hv : Owns base 113 w v (ks.map (nptr A)))
    (hA : ∀ b, v.ownBlock = some b → ∀ i, i < n → b ≠ A i) (hkv : ∀ b, v.ownBlock = some b → ∀ i, i < n → (kv i).ownBlock ≠ some b) (hks : ∀ j ∈ ks, j < n) :
    FAt base n A (upd kv k v) { F with kids := upd F.kids k ks } (w.setCell ⟨A k, 1, none⟩ v) := by
  refine ⟨fun i hi => ?_, h.lo, h.inj, fun i hi => ?_, fun i j hi hj => ?_, fun i j b hi hj h1 h2 => ?_, fun i hi => ?_⟩
  · by_cases e : i = k
    · subst e; rw [upd_same]
      have hn := h.node i hi
      simp [World.setCell, Array.getElem?_modify, hn]
    · rw [upd_ne _ _ e, blk_setCell_other _ _ _ _ (fun e2 => e (h.inj i k hi hk e2))]; exact h.node i hi
  · by_cases e : i = k
    · subst e; simp only [upd_same]; exact hv.same fun b hb => blk_setCell_other _ _ _ _ (hA b hb i hi)
    · simp only [upd_ne _ _ e]; exact (h.own i hi).same fun b hb => blk_setCell_other _ _ _ _ (fun e2 => h.apart i k hi hk (by rw [hb, e2]))
  · by_cases e : i = k
    · subst e; rw [upd_same]; intro h3; exact hA _ h3 j hj rfl
    · rw [upd_ne _ _ e]; exact h.apart i j hi hj
  · by_cases e1 : i = k
    · by_cases e2 : j = k
      · rw [e1, e2]
      · subst e1
        rw [upd_same] at h1
        rw [upd_ne _ _ e2] at h2
        exact absurd h2 (hkv b h1 j hj)
    · by_cases e2 : j = k
      · subst e2
        rw [upd_same] at h2
        rw [upd_ne _ _ e1] at h1
        exact absurd h1 (hkv b h2 i hi)
      · rw [upd_ne _ _ e1] at h1
        rw [upd_ne _ _ e2] at h2
        exact h.alone i j b hi hj h1 h2
  · by_cases e : i = k
    · subst e; simp only [upd_same]; exact hks
    · simp only [upd_ne _ _ e]; exact h.kid i hi
def prQ (F : Frs) (P : Nat → Bool) (rk : Nat → Nat) (z : Nat) : List Nat := (F.kids z).filter (al F P rk)
structure PrD (base n : Nat) (A : Nat → Nat) (F : Frs) (P : Nat → Bool) (rk : Nat → Nat) (kv : Nat → Value) (i : Nat) (w : World) (kv' : Nat → Value) (w' : World) : Prop where
  fr : FAt base n A kv' (F.sub rk (prQ F P rk) i) w'
  up : PUp n A w w'
  new : ∀ j b, j < n → (kv' j).ownBlock = some b → (kv j).ownBlock = some b ∨ w.heap.size ≤ b
  old : ∀ z, subF F rk i z = false → kv' z = kv z
def PrPost (base n : Nat) (A : Nat → Nat) (F : Frs) (P : Nat → Bool) (rk : Nat → Nat) (kv : Nat → Value) (i : Nat) (w : World) (e : Ending) (w' : World) : Prop :=
  e = .returned (if al F P rk i then nptr A i else .pointer none) ∧ ∃ kv', PrD base n A F P rk kv i w kv' w'
structure PrW (base n : Nat) (A : Nat → Nat) (F : Frs) (P : Nat → Bool) (rk : Nat → Nat) (kv : Nat → Value) (i : Nat) (w : World) (kvk : Nat → Value) (wr : World) (d : Value) (k m : Nat) : Prop where
  fr : FAt base n A kvk (F.upto rk (prQ F P rk) (F.kids i) k) wr
  up : PUp n A w wr
  new : ∀ j b, j < n → (kvk j).ownBlock = some b → (kv j).ownBlock = some b ∨ w.heap.size ≤ b
  old : ∀ z, subF F rk i z = false ∨ z = i → kvk z = kv z
  own : Owns w.heap.size 113 wr d ((((F.kids i).take m).filter (al F P rk)).map (nptr A))
  far : ∀ b, d.ownBlock = some b → ∀ j, j < n → (kvk j).ownBlock ≠ some b
theorem upto_wf (h : Wf F n rk) (P : Nat → Bool) (L : List Nat) (k : Nat) : Wf (F.upto rk (prQ F P rk) L k) n rk := ⟨fun i hi j hj => by
  have hj : j ∈ if _ then _ else _ := hj
  split at hj
  · exact h.kid i hi j (List.mem_filter.1 hj).1
  · exact h.kid i hi j hj⟩
theorem FAt.congr2 {G : Frs} (h : FAt base n A kv F w) (e : ∀ j, j < n → G.nm j = F.nm j ∧ G.old j = F.old j ∧ G.kids j = F.kids j) : FAt base n A kv G w :=
  ⟨fun i hi => by rw [(e i hi).1, (e i hi).2.1]; exact h.node i hi, h.lo, h.inj, fun i hi => by rw [(e i hi).2.2]; exact h.own i hi, h.apart, h.alone, fun i hi => by rw [(e i hi).2.2]; exact h.kid i hi⟩
theorem PrW.step {kvk kv2 : Nat → Value} {wr w2 : World} {d : Value} {i k c m : Nat} (hF : FAt base n A kv F w) (h : PrW base n A F P rk kv i w kvk wr d k m) (hw : Wf F n rk) (hD : Dis F n rk i) (hi : i < n) (hc : (F.kids i)[k]? = some c)
    (h2 : PrD base n A (F.upto rk (prQ F P rk) (F.kids i) k) P rk kvk c wr kv2 w2) : PrW base n A F P rk kv i w kv2 w2 d (k + 1) m := by
  have hck : c ∈ F.kids i := List.mem_of_getElem? hc
  have hcn := (hw.kid i hi c hck).1
  have hz := upto_fresh hw (q := prQ F P rk) hi hD hc
  have hG := upto_wf hw P (F.kids i) k
  have hsub := sub_cong hw hG hcn (Nat.le_refl _) hz
  have hdl : ∀ b, d.ownBlock = some b → w.heap.size ≤ b ∧ b < wr.heap.size := fun b hb => ownBlock_lt h.own hb
  have hnA : ∀ b, d.ownBlock = some b → ∀ j, j < n → b ≠ A j := fun b hb j hj e => by have := (hdl b hb).1; have := hF.lt hj; omega
  refine ⟨h2.fr.congr2 fun z hzn => ⟨rfl, rfl, ?_⟩, h.up.trans h2.up, fun j b hj hb => ?_, fun z hz2 => ?_, h.own.same2 fun b hb => h2.up.block b (hdl b hb).2 (hnA b hb), fun b hb j hj e => ?_⟩
  · rw [upto_succ hc]
    show _ = if _ then _ else _
    rw [hsub]
    split
    · rename_i hs
      show List.filter (al F P rk) (F.kids z) = List.filter (al (F.upto rk (prQ F P rk) (F.kids i) k) P rk) ((F.upto rk (prQ F P rk) (F.kids i) k).kids z)
      rw [hz z hs]
      refine List.filter_congr fun k hk => ?_
      exact (al_cong hw hG (hw.kid z hzn k hk).1 (Nat.le_refl _) fun u hu => hz u (sub_trans hw hcn (Nat.le_refl _) hs (subF_kid hw hzn hk hu))).symm
    · rfl
  · rcases h2.new j b hj hb with e | e
    · exact h.new j b hj e
    · exact .inr (Nat.le_trans h.up.size e)
  · rw [h2.old z ?_]
    · exact h.old z hz2
    · rw [hsub]
      rcases hz2 with e | e
      · cases hs : subF F rk c z with
        | false => rfl
        | true => rw [subF_kid hw hi hck hs] at e; cases e
      · subst e; exact subF_not hw hi hck
  · rcases h2.new j b hj e with e2 | e2
    · exact h.far b hb j hj e2
    · have := (hdl b hb).2; omega
theorem take_filter {f : Nat → Bool} {L : List Nat} {k c : Nat} (hc : L[k]? = some c) : (L.take (k + 1)).filter f = (L.take k).filter f ++ if f c then [c] else [] := by
  rw [List.take_add_one, hc, List.filter_append]
  cases h : f c <;> simp [h]
theorem PrW.skip {kvk : Nat → Value} {wr : World} {d : Value} {i k c : Nat} (h : PrW base n A F P rk kv i w kvk wr d (k + 1) k) (hc : (F.kids i)[k]? = some c) (ha : al F P rk c = false) : PrW base n A F P rk kv i w kvk wr d (k + 1) (k + 1) :=
  ⟨h.fr, h.up, h.new, h.old, by rw [take_filter hc, ha]; simpa using h.own, h.far⟩
theorem PrW.push {kvk : Nat → Value} {wr w3 : World} {d : Value} {i k c g m cap : Nat} (hF : FAt base n A kv F w) (h : PrW base n A F P rk kv i w kvk wr d (k + 1) k) (hc : (F.kids i)[k]? = some c) (ha : al F P rk c = true)
    (ho : Owns w.heap.size 113 w3 (.slice (some ⟨g, 0, none⟩) m cap) ((((F.kids i).take k).filter (al F P rk)).map (nptr A) ++ [nptr A c])) (hg : wr.grownBy w3 d.ownBlock) (hr : d.ownBlock = some g ∨ wr.heap.size ≤ g) :
    PrW base n A F P rk kv i w kvk w3 (.slice (some ⟨g, 0, none⟩) m cap) (k + 1) (k + 1) := by
  have hdl : ∀ b, d.ownBlock = some b → w.heap.size ≤ b ∧ b < wr.heap.size := fun b hb => ownBlock_lt h.own hb
  have hnA : ∀ j, j < n → some (A j) ≠ d.ownBlock := fun j hj e => by have := (hdl _ e.symm).1; have := hF.lt hj; omega
  refine ⟨h.fr.same (fun j hj => hg.block _ (h.fr.lt hj) (hnA j hj)) (fun j b hj hb => hg.block _ (h.fr.ownlt hj hb).2 fun e => h.far b e.symm j hj hb), ?_, h.new, h.old, by rw [take_filter hc, ha, if_pos rfl, List.map_append]; exact ho, fun b hb j hj e => ?_⟩
  · refine ⟨hg.os.trans h.up.os, hg.tape.trans h.up.tape, hg.output.trans h.up.output, Nat.le_trans h.up.size hg.size, fun b hb hA => ?_⟩
    exact (hg.block b (Nat.lt_of_lt_of_le hb h.up.size) fun e => by have := (hdl b e.symm).1; omega).trans (h.up.block b hb hA)
  · have hb : some g = some b := hb
    injection hb with hb
    subst hb
    rcases hr with e2 | e2
    · exact h.far g e2 j hj e
    · have := (h.fr.ownlt hj e).2; omega
theorem PrW.done {kvk : Nat → Value} {wr : World} {d : Value} {i : Nat} (hF : FAt base n A kv F w) (h : PrW base n A F P rk kv i w kvk wr d (F.kids i).length (F.kids i).length) (hw : Wf F n rk) (hi : i < n) (hb : base ≤ w.heap.size) :
    PrD base n A F P rk kv i w (upd kvk i d) (wr.setCell ⟨A i, 1, none⟩ d) := by
  have hdl : ∀ b, d.ownBlock = some b → w.heap.size ≤ b ∧ b < wr.heap.size := fun b hb => ownBlock_lt h.own hb
  have hown : Owns base 113 wr d ((prQ F P rk i).map (nptr A)) := by have := h.own.mono_base hb; rw [List.take_length] at this; exact this
  have h1 := h.fr.putF hi hown (fun b hb j hj e => by have := (hdl b hb).1; have := hF.lt hj; omega) h.far (fun j hj => (hw.kid i hi j (List.mem_filter.1 hj).1).1)
  refine ⟨h1.congr2 fun z hz => ⟨rfl, rfl, ?_⟩, ?_, fun j b hj hb => ?_, fun z hz => ?_⟩
  · show _ = upd _ i _ z
    by_cases e : z = i
    · subst e; rw [upd_same]
      show (if _ then _ else _) = _
      rw [if_pos (subF_self hw hi)]
    · rw [upd_ne _ _ e]; exact (upto_all hw hi e).symm
  · refine ⟨h.up.os, h.up.tape, h.up.output, by rw [World.size_setCell]; exact h.up.size, fun b hb hA => ?_⟩
    rw [blk_setCell_other _ _ _ _ (hA i hi)]; exact h.up.block b hb hA
  · by_cases e : j = i
    · subst e; rw [upd_same] at hb; exact .inr (hdl b hb).1
    · rw [upd_ne _ _ e] at hb; exact h.new j b hj hb
  · have : z ≠ i := fun e => by subst e; rw [subF_self hw hi] at hz; cases hz
    rw [upd_ne _ _ this]; exact h.old z (.inl hz)
end
end Go.Proofs.YtpjijbophjdgaaaGreat
