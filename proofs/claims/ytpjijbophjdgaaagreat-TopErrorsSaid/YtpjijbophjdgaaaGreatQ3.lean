/- Sets and splits: what intset and split compute. Plain. Plain: the table as the reference makes it, in place. Plain: unit costs. Names: package charset, layer 1's reference, the names of leaves. A slice that a call grows by one element at a time. Lists of splits: ordered, each once. Plain. -/
import Derived.Test.YtpjijbophjdgaaaGreatQ1
import Derived.Test.YtpjijbophjdgaaaGreatProg
import Derived.Test.YtpjijbophjdgaaaGreatQ2
import Derived.Maps.AppendAt
import Derived.Deep.AppendLies
namespace Go.Proofs.YtpjijbophjdgaaaGreat
def setBad (l : List Int) (i : Nat) : Int := if gi l i < 0 ∨ 63 < gi l i then 2 else if 0 < i ∧ gi l i ≤ gi l (i - 1) then 10 else 0
def setErr (l : List Int) : Int := firstNZ (setBad l) l.length
structure SetOk (l : List Int) : Prop where
  asc : l.Pairwise (· < ·)
  bd : ∀ x ∈ l, 0 ≤ x ∧ x ≤ 63
theorem pair_of_next {l : List Int} (h : ∀ i, i + 1 < l.length → gi l i < gi l (i + 1)) : l.Pairwise (· < ·) := by
  have key : ∀ d i, i + d + 1 < l.length → gi l i < gi l (i + d + 1) := by
    intro d
    induction d with
    | zero => intro i hi; exact h i hi
    | succ d ih =>
      intro i hi
      have h1 := ih i (by omega)
      have h2 := h (i + d + 1) (by omega)
      rw [show i + (d + 1) + 1 = i + d + 1 + 1 by omega]
      omega
  refine List.pairwise_iff_getElem.2 fun i j hi hj hij => ?_
  have h1 := key (j - i - 1) i (by omega)
  rw [show i + (j - i - 1) + 1 = j by omega] at h1
  simpa [gi, hi, hj] using h1
theorem pair_lt {l : List Int} (h : l.Pairwise (· < ·)) {i j : Nat} (hij : i < j) (hj : j < l.length) : gi l i < gi l j := by
  have := List.pairwise_iff_getElem.1 h i j (by omega) hj hij
  simpa [gi, hj, show i < l.length by omega] using this
theorem gi_in {l : List Int} {k : Nat} (h : k < l.length) : gi l k ∈ l := by simp [gi, h]
theorem in_gi {l : List Int} {x : Int} (h : x ∈ l) : ∃ k, k < l.length ∧ gi l k = x := by
  obtain ⟨k, hk, e⟩ := List.mem_iff_getElem.1 h
  exact ⟨k, hk, by simp [gi, hk, e]⟩
theorem setErr_zero {l : List Int} : setErr l = 0 ↔ SetOk l := by
  constructor
  · intro h
    have hb := firstNZ_eq_zero h
    refine ⟨pair_of_next fun i hi => ?_, fun x hx => ?_⟩
    · have := hb (i + 1) hi
      unfold setBad at this
      split at this
      · cases this
      · split at this
        · cases this
        · rename_i h2
          rw [Nat.add_sub_cancel] at h2
          omega
    · obtain ⟨k, hk, e⟩ := in_gi hx
      have := hb k hk
      unfold setBad at this
      split at this
      · cases this
      · omega
  · intro h
    refine firstNZ_zero fun j hj => ?_
    have hb := h.bd _ (gi_in hj)
    unfold setBad
    rw [if_neg (by omega), if_neg]
    rintro ⟨h1, h2⟩
    have := pair_lt h.asc (i := j - 1) (j := j) (by omega) hj
    omega
def splErr (n : Int) (s : List Int) : Int :=
  if n < 1 ∨ 32 < n then 2 else if setErr s ≠ 0 then setErr s else if 0 < s.length ∧ (gi s 0 = 0 ∨ n ≤ gi s (s.length - 1)) then 2 else if (s.length : Int) < 2 ∨ n - 2 < s.length then 8 else 0
structure SplOk (n : Int) (s : List Int) : Prop where
  n1 : 1 ≤ n ∧ n ≤ 32
  set : SetOk s
  bd : ∀ x ∈ s, 1 ≤ x ∧ x < n
  len : 2 ≤ s.length ∧ (s.length : Int) ≤ n - 2
theorem set_last {s : List Int} (h : SetOk s) {x : Int} (hx : x ∈ s) : gi s 0 ≤ x ∧ x ≤ gi s (s.length - 1) := by
  obtain ⟨k, hk, rfl⟩ := in_gi hx
  constructor
  · by_cases e : k = 0
    · subst e; exact Int.le_refl _
    · exact Int.le_of_lt (pair_lt h.asc (by omega) hk)
  · by_cases e : k = s.length - 1
    · subst e; exact Int.le_refl _
    · exact Int.le_of_lt (pair_lt h.asc (by omega) (by omega))
theorem splErr_zero {n : Int} {s : List Int} : splErr n s = 0 ↔ SplOk n s := by
  constructor
  · intro h
    unfold splErr at h
    split at h
    · cases h
    · split at h
      · rename_i h2; exact absurd h h2
      · rename_i h2
        have hs := setErr_zero.1 (Classical.not_not.1 h2)
        split at h
        · cases h
        · rename_i h3
          split at h
          · cases h
          · refine ⟨by omega, hs, fun x hx => ?_, by omega⟩
            have h4 := set_last hs hx
            have h5 := hs.bd x hx
            have h6 : 0 < s.length := List.length_pos_of_mem hx
            have h7 := hs.bd _ (gi_in h6)
            omega
  · intro h
    have h1 := h.n1
    have h2 := h.len
    unfold splErr
    rw [if_neg (by omega), if_neg (fun e => e (setErr_zero.2 h.set)), if_neg, if_neg (by omega)]
    rintro ⟨h3, h4⟩
    have h5 := h.bd _ (gi_in h3)
    have h6 := h.bd _ (gi_in (l := s) (k := s.length - 1) (by omega))
    omega
def memK (p : Int → Bool) (n : Nat) : List Int := ((List.range n).map fun (i : Nat) => (i : Int)).filter p
theorem memK_succ (p : Int → Bool) (n : Nat) : memK p (n + 1) = memK p n ++ if p n = true then [(n : Int)] else [] := by
  unfold memK
  rw [List.range_succ, List.map_append, List.filter_append]
  congr 1
  simp only [List.map_cons, List.map_nil, List.filter_cons, List.filter_nil]
theorem memK_len (p : Int → Bool) (n : Nat) : (memK p n).length ≤ n := by
  unfold memK; exact Nat.le_trans (List.length_filter_le _ _) (by simp)
theorem mem_memK {p : Int → Bool} {n : Nat} {x : Int} : x ∈ memK p n ↔ 0 ≤ x ∧ x < n ∧ p x = true := by
  unfold memK
  rw [List.mem_filter, List.mem_map]
  constructor
  · rintro ⟨⟨i, hi, rfl⟩, h2⟩
    have := List.mem_range.1 hi
    exact ⟨by omega, by omega, h2⟩
  · rintro ⟨h0, h1, h2⟩
    obtain ⟨i, rfl⟩ := Int.eq_ofNat_of_zero_le h0
    exact ⟨⟨i, List.mem_range.2 (by omega), rfl⟩, h2⟩
theorem memK_asc (p : Int → Bool) (n : Nat) : (memK p n).Pairwise (· < ·) := by
  refine List.Pairwise.filter _ ?_
  rw [List.pairwise_map]
  exact List.pairwise_lt_range.imp fun h => by omega
theorem asc_ext {a b : List Int} (ha : a.Pairwise (· < ·)) (hb : b.Pairwise (· < ·)) (h : ∀ x, x ∈ a ↔ x ∈ b) : a = b := by
  induction a generalizing b with
  | nil =>
    cases b with
    | nil => rfl
    | cons y b => exact absurd ((h y).2 (by simp)) (by simp)
  | cons x a ih =>
    cases b with
    | nil => exact absurd ((h x).1 (by simp)) (by simp)
    | cons y b =>
      rw [List.pairwise_cons] at ha hb
      have e : x = y := by
        have h1 := (h x).1 (by simp)
        have h2 := (h y).2 (by simp)
        rw [List.mem_cons] at h1 h2
        rcases h1 with h1 | h1
        · exact h1
        · rcases h2 with h2 | h2
          · exact h2.symm
          · have := ha.1 y h2; have := hb.1 x h1; omega
      subst e
      congr 1
      refine ih ha.2 hb.2 fun z => ?_
      constructor
      · intro hz
        have h1 := (h z).1 (by simp [hz])
        rw [List.mem_cons] at h1
        rcases h1 with rfl | h1
        · have := ha.1 _ hz; omega
        · exact h1
      · intro hz
        have h1 := (h z).2 (by simp [hz])
        rw [List.mem_cons] at h1
        rcases h1 with rfl | h1
        · have := hb.1 _ hz; omega
        · exact h1
def interL (a b : List Int) : List Int := memK (fun x => a.contains x && b.contains x) 64
def complL (n : Int) (a : List Int) : List Int := memK (fun x => !a.contains x) n.toNat
theorem mem_interL {a b : List Int} (ha : SetOk a) {x : Int} : x ∈ interL a b ↔ x ∈ a ∧ x ∈ b := by
  unfold interL
  rw [mem_memK]
  simp only [Bool.and_eq_true, List.contains_iff_mem]
  exact ⟨fun h => h.2.2, fun h => by have := ha.bd x h.1; exact ⟨by omega, by omega, h⟩⟩
theorem mem_complL {n : Int} {a : List Int} {x : Int} : x ∈ complL n a ↔ 0 ≤ x ∧ x < n ∧ x ∉ a := by
  unfold complL
  rw [mem_memK]
  constructor
  · rintro ⟨h1, h2, h3⟩
    exact ⟨h1, by omega, fun h => by rw [List.contains_iff_mem.2 h] at h3; cases h3⟩
  · rintro ⟨h1, h2, h3⟩
    refine ⟨h1, by omega, ?_⟩
    cases e : a.contains x with
    | false => rfl
    | true => exact absurd (List.contains_iff_mem.1 e) h3
theorem asc_filter {a b : List Int} (ha : a.Pairwise (· < ·)) (hb : b.Pairwise (· < ·)) (h : ∀ x ∈ a, x ∈ b) : b.filter (fun x => a.contains x) = a :=
  asc_ext (hb.filter _) ha fun x => by
    rw [List.mem_filter, List.contains_iff_mem]
    exact ⟨fun e => e.2, fun e => ⟨h x e, e⟩⟩
theorem asc_sub_len {a b : List Int} (ha : a.Pairwise (· < ·)) (hb : b.Pairwise (· < ·)) (h : ∀ x ∈ a, x ∈ b) : a.length ≤ b.length := by
  rw [← asc_filter ha hb h]; exact List.length_filter_le _ _
theorem asc_sub_eq {a b : List Int} (ha : a.Pairwise (· < ·)) (hb : b.Pairwise (· < ·)) (h : ∀ x ∈ a, x ∈ b) (hl : a.length = b.length) : ∀ x ∈ b, x ∈ a := by
  have h1 := asc_filter ha hb h
  have h2 : (b.filter (fun x => a.contains x)).length = b.length := by rw [h1, hl]
  exact fun x hx => List.contains_iff_mem.1 (List.length_filter_eq_length_iff.1 h2 x hx)
def compB (a b : List Int) : Bool := decide ((interL a b).length = 0) || decide ((interL a b).length = a.length) || decide ((interL a b).length = b.length)
theorem interL_asc (a b : List Int) : (interL a b).Pairwise (· < ·) := memK_asc _ _
theorem compB_iff {a b : List Int} (ha : SetOk a) (hb : SetOk b) : compB a b = true ↔ (∀ x ∈ a, x ∉ b) ∨ (∀ x ∈ a, x ∈ b) ∨ (∀ x ∈ b, x ∈ a) := by
  unfold compB
  simp only [Bool.or_eq_true, decide_eq_true_eq]
  have e0 : (interL a b).length = 0 ↔ ∀ x ∈ a, x ∉ b := by
    rw [List.length_eq_zero_iff]
    constructor
    · intro h x h1 h2
      have := (mem_interL ha).2 ⟨h1, h2⟩
      rw [h] at this; cases this
    · intro h
      refine List.eq_nil_iff_forall_not_mem.2 fun x hx => ?_
      obtain ⟨h1, h2⟩ := (mem_interL ha).1 hx
      exact h x h1 h2
  have e1 : (interL a b).length = a.length ↔ ∀ x ∈ a, x ∈ b := by
    constructor
    · intro h x hx
      exact ((mem_interL ha).1 (asc_sub_eq (interL_asc a b) ha.asc (fun y hy => ((mem_interL ha).1 hy).1) h x hx)).2
    · intro h
      have h1 := asc_sub_len (interL_asc a b) ha.asc (b := a) fun y hy => ((mem_interL ha).1 hy).1
      have h2 := asc_sub_len ha.asc (interL_asc a b) fun y hy => (mem_interL ha).2 ⟨hy, h y hy⟩
      omega
  have e2 : (interL a b).length = b.length ↔ ∀ x ∈ b, x ∈ a := by
    constructor
    · intro h x hx
      exact ((mem_interL ha).1 (asc_sub_eq (interL_asc a b) hb.asc (fun y hy => ((mem_interL ha).1 hy).2) h x hx)).1
    · intro h
      have h1 := asc_sub_len (interL_asc a b) hb.asc fun y hy => ((mem_interL ha).1 hy).2
      have h2 := asc_sub_len hb.asc (interL_asc a b) fun y hy => (mem_interL ha).2 ⟨h y hy, hy⟩
      omega
  rw [e0, e1, e2, or_assoc]
end Go.Proofs.YtpjijbophjdgaaaGreat
namespace Go.Proofs.YtpjijbophjdgaaaGreat
def part (t : Tre) (st : List Int) (cs : List (List Int)) (k r s : Nat) : Int := baseT t st r s + sumN (fun c => if k ≤ c ∧ r < c ∧ gi t.ps c = r then addK t st cs s c else 0) t.ps.length
section
variable {t : Tre} {st : List Int} {cs : List (List Int)}
end
end Go.Proofs.YtpjijbophjdgaaaGreat
namespace Go.Proofs.YtpjijbophjdgaaaGreat
end Go.Proofs.YtpjijbophjdgaaaGreat
namespace Go.Proofs.YtpjijbophjdgaaaGreat
open Go.RowKit Go.Deep
def punS : ByteArray := ⟨#[46, 44, 59, 58, 33, 63, 40, 41, 45]⟩
theorem pun_ix : ∀ c, c < 256 → (decide (0 ≤ Lib.indexByte punS.data.toList c.toUInt8)) = isPun c := by
  decide +kernel
theorem ofk {a b : Int} (h : a = b) {w w' : World} (hw : w = w') : Ending.returned (.int .i64 a) = .returned (.int .i64 b) ∧ w = w' := ⟨by rw [h], hw⟩
theorem pun_iff {c : Nat} {x : Int} (hc : c < 256) (hx : Lib.indexByte [46, 44, 59, 58, 33, 63, 40, 41, 45] ((c : Int).toNat).toUInt8 = x) : 0 ≤ x ↔ isPun c = true := by
  have h := pun_ix c hc
  rw [← h, ← hx]; simp [punS]
set_option maxRecDepth 100000 in
set_option maxHeartbeats 400000 in
theorem kind_t (c : Nat) (hc : c < 256) (w : World) : Calls Tryz.prog 219 #[.int .u8 c] w fun e w' => e = .returned (.int .i64 (kindL c)) ∧ w = w' := by
  go_enter Tryz.func219, Tryz.ntmps219
  go_wp2_with (go_at_call 208; refine (Tryz.strings_IndexByte _ _ _).mono ?_; rintro e w' ⟨rfl, rfl⟩; generalize hx : Lib.indexByte _ _ = x)
  all_goals (try go_ret)
  all_goals (refine ofk ?_ rfl)
  all_goals (first | (have h5 := pun_iff hc ‹Lib.indexByte _ _ = _›; unfold kindL isLet; by_cases hp : isPun c = true <;> simp only [hp] at * <;> simp at * <;> omega) | (simp [kindL, isLet, isPun] at *; done) | (simp [kindL, isLet, isPun] at *; omega))
end Go.Proofs.YtpjijbophjdgaaaGreat
namespace Go.Proofs.YtpjijbophjdgaaaGreat
open Go.RowKit Go.Deep
def Owns (base : Nat) (e : TypeId) (w : World) (v : Value) (vs : List Value) : Prop := w.ownsRow base e 1 v vs.length vs
theorem Owns.nil (base : Nat) (e : TypeId) (w : World) : Owns base e w (.slice none 0 0) [] := World.ownsRow_nil _ _ _ _
theorem SlAt.congr {S : Nat → Prop} {w : World} {v : Value} {n : Nat} {f g : Nat → Value} (h : SlAt S w v n f) (e : ∀ k, k < n → f k = g k) : SlAt S w v n g := by
  obtain ⟨p, cap, rfl, hn, h⟩ := h
  refine ⟨p, cap, rfl, hn, ?_⟩
  rcases h with h | ⟨b, off, rfl, hS, h⟩
  · exact .inl h
  · exact .inr ⟨b, off, rfl, hS, fun k hk => by rw [← e k hk]; exact h k hk⟩
theorem Owns.slAt {base : Nat} {e : TypeId} {w : World} {v : Value} {vs : List Value} (h : Owns base e w v vs) : SlAt (fun b => base ≤ b) w v vs.length (fun k => vs.getD k undef) := by
  rcases h.2 with ⟨rfl, h0⟩ | ⟨g, cap, cur, rfl, hg, hc, hn, _, _, ht⟩
  · exact ⟨none, 0, by rw [h0], by omega, .inl h0⟩
  · refine ⟨_, cap, rfl, hn, .inr ⟨g, 0, rfl, hg, fun k hk => ?_⟩⟩
    have := World.ownsRow.cells h (g := g) rfl k vs[k] (by simp [hk])
    have hadd : (⟨g, 0, none⟩ : Addr).add k = ⟨g, 0 + k, none⟩ := by unfold Addr.add; split <;> simp_all
    rw [hadd] at this
    rw [this]; simp [hk]
theorem Owns.ints {base : Nat} {e : TypeId} {w : World} {v : Value} {xs : List Int} (h : Owns base e w v (xs.map (Value.int .i64))) : IntsAt (fun b => base ≤ b) w v xs := by
  have := h.slAt
  rw [List.length_map] at this
  exact this.congr fun k hk => by simp [gi, hk]
theorem Owns.strs {base : Nat} {e : TypeId} {w : World} {v : Value} {xs : List ByteArray} (h : Owns base e w v (xs.map Value.string)) : StrsAt (fun b => base ≤ b) w v xs := by
  have := h.slAt
  rw [List.length_map] at this
  exact this.congr fun k hk => by simp [gs, hk]
theorem Owns.kept {base : Nat} {e : TypeId} {w w' : World} {v : Value} {vs : List Value} (h : Owns base e w v vs) (k : ∀ b, base ≤ b → b < w.heap.size → w'.heap[b]? = w.heap[b]?) : Owns base e w' v vs := by
  refine ⟨h.1, ?_⟩
  rcases h.2 with h0 | ⟨g, cap, cur, rfl, hg, hc, hr⟩
  · exact .inl h0
  · have hlt : g < w.heap.size := by
      rcases Nat.lt_or_ge g w.heap.size with h1 | h1
      · exact h1
      · rw [Array.getElem?_eq_none h1] at hc; cases hc
    exact .inr ⟨g, cap, cur, rfl, hg, (k g hg hlt).trans hc, hr⟩
theorem Owns.alloc {base : Nat} {e : TypeId} {w : World} {v : Value} {vs : List Value} (h : Owns base e w v vs) (o : Obj) : Owns base e (w.alloc o) v vs := World.ownsRow.alloc h o
theorem grown_alloc {w w' : World} {o : Obj} {row : Option Nat} (h : (w.alloc o).grownBy w' row) : w.grownBy w' row :=
  ⟨h.os, h.tape, h.output, Nat.le_trans (by simp) h.size, fun k hk hne => (h.block k (by simp; omega) hne).trans (Below.heap_alloc w o k hk)⟩
theorem Owns.grown_below {base : Nat} {e : TypeId} {w w' : World} {v : Value} {vs : List Value} (h : Owns base e w v vs) (hg : w.grownBy w' v.ownBlock) (hb : base ≤ w.heap.size) : Below base w w' :=
  (Below.refl base w).grown hg hb fun k hk => (World.ownsRow.lt h k hk).1
section
variable {P : Program} {ops : Array Oper} {rest : List Oper} {o : Oper} {a : Act} {Q : Exit → Act → World → Prop}
theorem wpList_app1 (W : World) (hgd : o.guard = none) (s x : Operand) (t : TypeId) (ho : o.op = .call { callee := .builtin .append, args := #[s, x], argTypes := #[t, t] })
    (base : Nat) (e : TypeId) (z : Value) (bytes : Nat) (ht : P.underlying t = some (.slice e)) (hinfo : (P.info? e).map (fun i => (i.zero, i.size, i.bytes)) = some (some z, 1, bytes))
    (hz1 : z.cells.size = 1) (hb8 : bytes ≤ 64) {v : Value} {vs : List Value} (hown : Owns base e W v vs) (hs : a.eval s = v) (u : Value)
    (hx : a.eval x = .slice (some ⟨W.heap.size, 0, none⟩) 1 1) (h1 : u.oneCell' = true) (hn : vs.length ≤ 1000000) (hbase : base ≤ W.heap.size)
    (h : ∀ g cap w', Owns base e w' (.slice (some ⟨g, 0, none⟩) (vs.length + 1) cap) (vs ++ [u]) → W.grownBy w' v.ownBlock → Below base W w' → wpList P ops Q rest (a.put o.dst (.slice (some ⟨g, 0, none⟩) (vs.length + 1) cap)) w') :
    wpList P ops Q (o :: rest) a (W.alloc (.cells #[u] e)) := by
  obtain ⟨i, hi, hzz⟩ := Option.map_eq_some_iff.1 hinfo
  simp only [Prod.mk.injEq] at hzz
  obtain ⟨hz, hs1, hb⟩ := hzz
  refine wpList_append_lies _ hgd s x t ho base e i z 1 bytes ht hi hz hs1 hb hz1 (by omega) v vs.length vs hs (hown.alloc _) ⟨W.heap.size, 0, none⟩ 1 1 [u] hx rfl (cell_one_new _ _ _) (by simpa using h1) (by omega)
    (by unfold maxLen; omega) ?_ (by simp; omega) _ rfl fun g cap w' h2 h3 _ _ => h g cap w' ?_ (grown_alloc h3) (hown.grown_below (grown_alloc h3) hbase)
  · have : (vs.length + 1) * bytes ≤ (vs.length + 1) * 64 := Nat.mul_le_mul_left _ hb8
    omega
  · unfold Owns; rw [List.length_append]; exact h2
end
end Go.Proofs.YtpjijbophjdgaaaGreat
namespace Go.Proofs.YtpjijbophjdgaaaGreat
def cmpL : List Int → List Int → Int
  | [], [] => 0
  | [], _ :: _ => -1
  | _ :: _, [] => 1
  | a :: a1, b :: bs => if a < b then -1 else if b < a then 1 else cmpL a1 bs
theorem cmpL_self : ∀ a : List Int, cmpL a a = 0
  | [] => rfl
  | a :: a1 => by rw [cmpL, if_neg (by omega), if_neg (by omega)]; exact cmpL_self a1
theorem cmpL_zero : ∀ {a b : List Int}, cmpL a b = 0 → a = b
  | [], [], _ => rfl
  | [], _ :: _, h => by rw [cmpL] at h; omega
  | _ :: _, [], h => by rw [cmpL] at h; omega
  | a :: a1, b :: bs, h => by
    rw [cmpL] at h
    split at h
    · omega
    · split at h
      · omega
      · rw [cmpL_zero h]; congr 1; omega
theorem cmpL_anti : ∀ a b : List Int, cmpL b a = - cmpL a b
  | [], [] => rfl
  | [], _ :: _ => rfl
  | _ :: _, [] => rfl
  | a :: a1, b :: bs => by
    rw [cmpL, cmpL]
    by_cases h1 : a < b
    · simp only [if_pos h1, if_neg (show ¬ b < a by omega)]; rfl
    · by_cases h2 : b < a
      · simp only [if_pos h2, if_neg h1]
      · rw [if_neg h1, if_neg h2, if_neg h2, if_neg h1]; exact cmpL_anti a1 bs
theorem cmpL_trans : ∀ {a b c : List Int}, cmpL a b < 0 → cmpL b c < 0 → cmpL a c < 0
  | [], [], c, h, _ => by rw [cmpL] at h; omega
  | [], _ :: _, [], _, h => by rw [cmpL] at h; omega
  | [], _ :: _, _ :: _, _, _ => by rw [cmpL]; omega
  | _ :: _, [], _, h, _ => by rw [cmpL] at h; omega
  | _ :: _, _ :: _, [], _, h => by rw [cmpL] at h; omega
  | a :: a1, b :: bs, c :: cs, h1, h2 => by
    rw [cmpL] at h1 h2 ⊢
    by_cases x1 : a < b
    · by_cases y1 : b < c
      · rw [if_pos (by omega)]; omega
      · rw [if_neg y1] at h2
        by_cases y2 : c < b
        · rw [if_pos y2] at h2; omega
        · rw [if_pos (by omega)]; omega
    · rw [if_neg x1] at h1
      by_cases x2 : b < a
      · rw [if_pos x2] at h1; omega
      · rw [if_neg x2] at h1
        by_cases y1 : b < c
        · rw [if_pos (by omega)]; omega
        · rw [if_neg y1] at h2
          by_cases y2 : c < b
          · rw [if_pos y2] at h2; omega
          · rw [if_neg y2] at h2
            rw [if_neg (by omega), if_neg (by omega)]
            exact cmpL_trans h1 h2
def ltX (a b : List Int) : Prop := cmpL a b < 0
def leX (a b : List Int) : Prop := cmpL a b ≤ 0
theorem leX_trans {a b c : List Int} (h1 : leX a b) (h2 : leX b c) : leX a c := by
  unfold leX at *
  by_cases e1 : cmpL a b = 0
  · rw [cmpL_zero e1]; exact h2
  · by_cases e2 : cmpL b c = 0
    · rw [← cmpL_zero e2]; exact h1
    · have h3 : cmpL a b < 0 := by omega
      have h4 : cmpL b c < 0 := by omega
      exact Int.le_of_lt (cmpL_trans h3 h4)
def insX (a : List Int) : List (List Int) → List (List Int)
  | [] => [a]
  | b :: l => if cmpL a b ≤ 0 then a :: b :: l else b :: insX a l
def sortX : List (List Int) → List (List Int)
  | [] => []
  | a :: l => insX a (sortX l)
theorem insX_perm (a : List Int) : ∀ l : List (List Int), (insX a l).Perm (a :: l)
  | [] => List.Perm.refl _
  | b :: l => by
    rw [insX]
    split
    · exact List.Perm.refl _
    · exact (List.Perm.cons b (insX_perm a l)).trans (List.Perm.swap a b l)
theorem sortX_perm : ∀ l : List (List Int), (sortX l).Perm l
  | [] => List.Perm.refl _
  | a :: l => (insX_perm a _).trans (List.Perm.cons a (sortX_perm l))
theorem insX_sorted (a : List Int) : ∀ {l : List (List Int)}, l.Pairwise leX → (insX a l).Pairwise leX
  | [], _ => by simp [insX]
  | b :: l, h => by
    rw [insX]
    rw [List.pairwise_cons] at h
    split
    · rename_i h1
      refine List.pairwise_cons.2 ⟨fun c hc => ?_, List.pairwise_cons.2 h⟩
      rcases List.mem_cons.1 hc with rfl | hc
      · exact h1
      · exact leX_trans h1 (h.1 c hc)
    · rename_i h1
      refine List.pairwise_cons.2 ⟨fun c hc => ?_, insX_sorted a h.2⟩
      rcases List.mem_cons.1 ((insX_perm a l).mem_iff.1 hc) with rfl | hc
      · unfold leX; have := cmpL_anti c b; omega
      · exact h.1 c hc
theorem sortX_sorted : ∀ l : List (List Int), (sortX l).Pairwise leX
  | [] => List.Pairwise.nil
  | a :: l => insX_sorted a (sortX_sorted l)
theorem sortX_uniq {a b : List (List Int)} (hp : a.Perm b) (h : a.Pairwise leX) : a = sortX b :=
  List.Perm.eq_of_pairwise (le := leX) (fun x y _ _ h1 h2 => cmpL_zero (by unfold leX at h1 h2; have := cmpL_anti x y; omega)) h (sortX_sorted b) (hp.trans (sortX_perm b).symm)
def cptX : List (List Int) → List (List Int)
  | [] => []
  | a :: l => if l.head? = some a then cptX l else a :: cptX l
theorem mem_cptX {x : List Int} : ∀ {l : List (List Int)}, x ∈ cptX l ↔ x ∈ l
  | [] => by rw [cptX]
  | a :: l => by
    rw [cptX]
    split
    · rename_i h
      rw [mem_cptX, List.mem_cons]
      constructor
      · exact .inr
      · rintro (rfl | h1)
        · exact List.mem_of_head? h
        · exact h1
    · rw [List.mem_cons, List.mem_cons, mem_cptX]
theorem cptX_strict : ∀ {l : List (List Int)}, l.Pairwise leX → (cptX l).Pairwise ltX
  | [], _ => List.Pairwise.nil
  | a :: l, h => by
    rw [List.pairwise_cons] at h
    rw [cptX]
    split
    · exact cptX_strict h.2
    · rename_i hne
      refine List.pairwise_cons.2 ⟨fun c hc => ?_, cptX_strict h.2⟩
      have hc := mem_cptX.1 hc
      have h1 := h.1 c hc
      unfold ltX
      unfold leX at h1
      by_cases e : cmpL a c = 0
      · exfalso
        have e := cmpL_zero e
        subst e
        cases l with
        | nil => cases hc
        | cons b l =>
          rw [List.head?_cons] at hne
          have h2 := h.1 b (by simp)
          rcases List.mem_cons.1 hc with rfl | hc
          · exact hne rfl
          · have h3 := (List.pairwise_cons.1 h.2).1 _ hc
            unfold leX at h2 h3
            have := cmpL_anti a b
            exact hne (by rw [cmpL_zero (a := a) (b := b) (by omega)])
      · omega
theorem ltX_ext {a b : List (List Int)} (ha : a.Pairwise ltX) (hb : b.Pairwise ltX) (h : ∀ x, x ∈ a ↔ x ∈ b) : a = b := by
  have nd : ∀ {q : List (List Int)}, q.Pairwise ltX → q.Nodup := fun hq => hq.imp fun {x y} h1 e => by subst e; unfold ltX at h1; rw [cmpL_self] at h1; omega
  have hp : a.Perm b := (List.perm_ext_iff_of_nodup (nd ha) (nd hb)).2 h
  exact List.Perm.eq_of_pairwise (le := ltX) (fun x y _ _ h1 h2 => by unfold ltX at h1 h2; have := cmpL_anti x y; omega) ha hb hp
def ordX (l : List (List Int)) : List (List Int) := cptX (sortX l)
theorem mem_ordX {x : List Int} {l : List (List Int)} : x ∈ ordX l ↔ x ∈ l := by unfold ordX; rw [mem_cptX]; exact (sortX_perm l).mem_iff
theorem ordX_strict (l : List (List Int)) : (ordX l).Pairwise ltX := cptX_strict (sortX_sorted l)
theorem ordX_congr {a b : List (List Int)} (h : ∀ x, x ∈ a ↔ x ∈ b) : ordX a = ordX b := ltX_ext (ordX_strict a) (ordX_strict b) fun x => by rw [mem_ordX, mem_ordX]; exact h x
end Go.Proofs.YtpjijbophjdgaaaGreat
