/- Sets and splits: what intset and split compute. Plain. A region that draws its order, only reads, and ends in one operation that may write: by the walk in the order of the text. Names, as layer 1's and layer 31's references have them. Names, as layer 1's and layer 31's references have them: IsName, named. The contracts of slices.Clone and slices.Equal of numbers. Lists of lists that a call grows; a store into a list of the call's own. Nodes that point at each other: how a forest lies in memory, and what keeps it. Maps whose keys are pointers at nodes. -/
import Derived.Test.YtcbmbhghmfehpaaGreatQ1
import Derived.StillTail
import Derived.Test.YtcbmbhghmfehpaaGreatQ2
import Derived.MapKept
import Derived.Laws.Pointers
namespace Go.Proofs.YtcbmbhghmfehpaaGreat
def setBad (l : List Int) (i : Nat) : Int := if gi l i < 0 ∨ 63 < gi l i then 2 else if 0 < i ∧ gi l i ≤ gi l (i - 1) then 10 else 0
def setErr (l : List Int) : Int := firstNZ (setBad l) l.length
structure SetOk (l : List Int) : Prop where
  asc : l.Pairwise (· < ·)
  bd : ∀ x ∈ l, 0 ≤ x ∧ x ≤ 63
theorem pair_of_next {l : List Int} (h : ∀ i, i + 1 < l.length → gi l i < gi l (i + 1)) : l.Pairwise (· < ·) := by
  have key : ∀ d i, i + d + 1 < l.length → gi l i < gi l (i + d + 1) := by
    intro d
    induction d with
    | zero => intro i hi; exact h i hi
    | succ d ih =>
      intro i hi
      have h1 := ih i (by omega)
      have h2 := h (i + d + 1) (by omega)
      rw [show i + (d + 1) + 1 = i + d + 1 + 1 by omega]
      omega
  refine List.pairwise_iff_getElem.2 fun i j hi hj hij => ?_
  have h1 := key (j - i - 1) i (by omega)
  rw [show i + (j - i - 1) + 1 = j by omega] at h1
  simpa [gi, hi, hj] using h1
theorem pair_lt {l : List Int} (h : l.Pairwise (· < ·)) {i j : Nat} (hij : i < j) (hj : j < l.length) : gi l i < gi l j := by
  have := List.pairwise_iff_getElem.1 h i j (by omega) hj hij
  simpa [gi, hj, show i < l.length by omega] using this
theorem gi_in {l : List Int} {k : Nat} (h : k < l.length) : gi l k ∈ l := by simp [gi, h]
theorem in_gi {l : List Int} {x : Int} (h : x ∈ l) : ∃ k, k < l.length ∧ gi l k = x := by
  obtain ⟨k, hk, e⟩ := List.mem_iff_getElem.1 h
  exact ⟨k, hk, by simp [gi, hk, e]⟩
theorem setErr_zero {l : List Int} : setErr l = 0 ↔ SetOk l := by
  constructor
  · intro h
    have hb := firstNZ_eq_zero h
    refine ⟨pair_of_next fun i hi => ?_, fun x hx => ?_⟩
    · have := hb (i + 1) hi
      unfold setBad at this
      split at this
      · cases this
      · split at this
        · cases this
        · rename_i h2
          rw [Nat.add_sub_cancel] at h2
          omega
    · obtain ⟨k, hk, e⟩ := in_gi hx
      have := hb k hk
      unfold setBad at this
      split at this
      · cases this
      · omega
  · intro h
    refine firstNZ_zero fun j hj => ?_
    have hb := h.bd _ (gi_in hj)
    unfold setBad
    rw [if_neg (by omega), if_neg]
    rintro ⟨h1, h2⟩
    have := pair_lt h.asc (i := j - 1) (j := j) (by omega) hj
    omega
def splErr (n : Int) (s : List Int) : Int :=
  if n < 1 ∨ 32 < n then 2 else if setErr s ≠ 0 then setErr s else if 0 < s.length ∧ (gi s 0 = 0 ∨ n ≤ gi s (s.length - 1)) then 2 else if (s.length : Int) < 2 ∨ n - 2 < s.length then 8 else 0
structure SplOk (n : Int) (s : List Int) : Prop where
  n1 : 1 ≤ n ∧ n ≤ 32
  set : SetOk s
  bd : ∀ x ∈ s, 1 ≤ x ∧ x < n
  len : 2 ≤ s.length ∧ (s.length : Int) ≤ n - 2
theorem set_last {s : List Int} (h : SetOk s) {x : Int} (hx : x ∈ s) : gi s 0 ≤ x ∧ x ≤ gi s (s.length - 1) := by
  obtain ⟨k, hk, rfl⟩ := in_gi hx
  constructor
  · by_cases e : k = 0
    · subst e; exact Int.le_refl _
    · exact Int.le_of_lt (pair_lt h.asc (by omega) hk)
  · by_cases e : k = s.length - 1
    · subst e; exact Int.le_refl _
    · exact Int.le_of_lt (pair_lt h.asc (by omega) (by omega))
theorem splErr_zero {n : Int} {s : List Int} : splErr n s = 0 ↔ SplOk n s := by
  constructor
  · intro h
    unfold splErr at h
    split at h
    · cases h
    · split at h
      · rename_i h2; exact absurd h h2
      · rename_i h2
        have hs := setErr_zero.1 (Classical.not_not.1 h2)
        split at h
        · cases h
        · rename_i h3
          split at h
          · cases h
          · refine ⟨by omega, hs, fun x hx => ?_, by omega⟩
            have h4 := set_last hs hx
            have h5 := hs.bd x hx
            have h6 : 0 < s.length := List.length_pos_of_mem hx
            have h7 := hs.bd _ (gi_in h6)
            omega
  · intro h
    have h1 := h.n1
    have h2 := h.len
    unfold splErr
    rw [if_neg (by omega), if_neg (fun e => e (setErr_zero.2 h.set)), if_neg, if_neg (by omega)]
    rintro ⟨h3, h4⟩
    have h5 := h.bd _ (gi_in h3)
    have h6 := h.bd _ (gi_in (l := s) (k := s.length - 1) (by omega))
    omega
def memK (p : Int → Bool) (n : Nat) : List Int := ((List.range n).map fun (i : Nat) => (i : Int)).filter p
theorem memK_succ (p : Int → Bool) (n : Nat) : memK p (n + 1) = memK p n ++ if p n = true then [(n : Int)] else [] := by
  unfold memK
  rw [List.range_succ, List.map_append, List.filter_append]
  congr 1
  simp only [List.map_cons, List.map_nil, List.filter_cons, List.filter_nil]
theorem memK_len (p : Int → Bool) (n : Nat) : (memK p n).length ≤ n := by
  unfold memK; exact Nat.le_trans (List.length_filter_le _ _) (by simp)
theorem mem_memK {p : Int → Bool} {n : Nat} {x : Int} : x ∈ memK p n ↔ 0 ≤ x ∧ x < n ∧ p x = true := by
  unfold memK
  rw [List.mem_filter, List.mem_map]
  constructor
  · rintro ⟨⟨i, hi, rfl⟩, h2⟩
    have := List.mem_range.1 hi
    exact ⟨by omega, by omega, h2⟩
  · rintro ⟨h0, h1, h2⟩
    obtain ⟨i, rfl⟩ := Int.eq_ofNat_of_zero_le h0
    exact ⟨⟨i, List.mem_range.2 (by omega), rfl⟩, h2⟩
theorem memK_asc (p : Int → Bool) (n : Nat) : (memK p n).Pairwise (· < ·) := by
  refine List.Pairwise.filter _ ?_
  rw [List.pairwise_map]
  exact List.pairwise_lt_range.imp fun h => by omega
theorem asc_ext {a b : List Int} (ha : a.Pairwise (· < ·)) (hb : b.Pairwise (· < ·)) (h : ∀ x, x ∈ a ↔ x ∈ b) : a = b := by
  induction a generalizing b with
  | nil =>
    cases b with
    | nil => rfl
    | cons y b => exact absurd ((h y).2 (by simp)) (by simp)
  | cons x a ih =>
    cases b with
    | nil => exact absurd ((h x).1 (by simp)) (by simp)
    | cons y b =>
      rw [List.pairwise_cons] at ha hb
      have e : x = y := by
        have h1 := (h x).1 (by simp)
        have h2 := (h y).2 (by simp)
        rw [List.mem_cons] at h1 h2
        rcases h1 with h1 | h1
        · exact h1
        · rcases h2 with h2 | h2
          · exact h2.symm
          · have := ha.1 y h2; have := hb.1 x h1; omega
      subst e
      congr 1
      refine ih ha.2 hb.2 fun z => ?_
      constructor
      · intro hz
        have h1 := (h z).1 (by simp [hz])
        rw [List.mem_cons] at h1
        rcases h1 with rfl | h1
        · have := ha.1 _ hz; omega
        · exact h1
      · intro hz
        have h1 := (h z).2 (by simp [hz])
        rw [List.mem_cons] at h1
        rcases h1 with rfl | h1
        · have := hb.1 _ hz; omega
        · exact h1
def interL (a b : List Int) : List Int := memK (fun x => a.contains x && b.contains x) 64
def complL (n : Int) (a : List Int) : List Int := memK (fun x => !a.contains x) n.toNat
theorem mem_interL {a b : List Int} (ha : SetOk a) {x : Int} : x ∈ interL a b ↔ x ∈ a ∧ x ∈ b := by
  unfold interL
  rw [mem_memK]
  simp only [Bool.and_eq_true, List.contains_iff_mem]
  exact ⟨fun h => h.2.2, fun h => by have := ha.bd x h.1; exact ⟨by omega, by omega, h⟩⟩
theorem mem_complL {n : Int} {a : List Int} {x : Int} : x ∈ complL n a ↔ 0 ≤ x ∧ x < n ∧ x ∉ a := by
  unfold complL
  rw [mem_memK]
  constructor
  · rintro ⟨h1, h2, h3⟩
    exact ⟨h1, by omega, fun h => by rw [List.contains_iff_mem.2 h] at h3; cases h3⟩
  · rintro ⟨h1, h2, h3⟩
    refine ⟨h1, by omega, ?_⟩
    cases e : a.contains x with
    | false => rfl
    | true => exact absurd (List.contains_iff_mem.1 e) h3
theorem set_nodup {a : List Int} (h : a.Pairwise (· < ·)) : a.Nodup := h.imp fun h e => by omega
theorem asc_filter {a b : List Int} (ha : a.Pairwise (· < ·)) (hb : b.Pairwise (· < ·)) (h : ∀ x ∈ a, x ∈ b) : b.filter (fun x => a.contains x) = a :=
  asc_ext (hb.filter _) ha fun x => by
    rw [List.mem_filter, List.contains_iff_mem]
    exact ⟨fun e => e.2, fun e => ⟨h x e, e⟩⟩
theorem asc_sub_len {a b : List Int} (ha : a.Pairwise (· < ·)) (hb : b.Pairwise (· < ·)) (h : ∀ x ∈ a, x ∈ b) : a.length ≤ b.length := by
  rw [← asc_filter ha hb h]; exact List.length_filter_le _ _
theorem asc_sub_eq {a b : List Int} (ha : a.Pairwise (· < ·)) (hb : b.Pairwise (· < ·)) (h : ∀ x ∈ a, x ∈ b) (hl : a.length = b.length) : ∀ x ∈ b, x ∈ a := by
  have h1 := asc_filter ha hb h
  have h2 : (b.filter (fun x => a.contains x)).length = b.length := by rw [h1, hl]
  exact fun x hx => List.contains_iff_mem.1 (List.length_filter_eq_length_iff.1 h2 x hx)
def compB (a b : List Int) : Bool := decide ((interL a b).length = 0) || decide ((interL a b).length = a.length) || decide ((interL a b).length = b.length)
theorem interL_asc (a b : List Int) : (interL a b).Pairwise (· < ·) := memK_asc _ _
theorem compB_iff {a b : List Int} (ha : SetOk a) (hb : SetOk b) : compB a b = true ↔ (∀ x ∈ a, x ∉ b) ∨ (∀ x ∈ a, x ∈ b) ∨ (∀ x ∈ b, x ∈ a) := by
  unfold compB
  simp only [Bool.or_eq_true, decide_eq_true_eq]
  have e0 : (interL a b).length = 0 ↔ ∀ x ∈ a, x ∉ b := by
    rw [List.length_eq_zero_iff]
    constructor
    · intro h x h1 h2
      have := (mem_interL ha).2 ⟨h1, h2⟩
      rw [h] at this; cases this
    · intro h
      refine List.eq_nil_iff_forall_not_mem.2 fun x hx => ?_
      obtain ⟨h1, h2⟩ := (mem_interL ha).1 hx
      exact h x h1 h2
  have e1 : (interL a b).length = a.length ↔ ∀ x ∈ a, x ∈ b := by
    constructor
    · intro h x hx
      exact ((mem_interL ha).1 (asc_sub_eq (interL_asc a b) ha.asc (fun y hy => ((mem_interL ha).1 hy).1) h x hx)).2
    · intro h
      have h1 := asc_sub_len (interL_asc a b) ha.asc (b := a) fun y hy => ((mem_interL ha).1 hy).1
      have h2 := asc_sub_len ha.asc (interL_asc a b) fun y hy => (mem_interL ha).2 ⟨hy, h y hy⟩
      omega
  have e2 : (interL a b).length = b.length ↔ ∀ x ∈ b, x ∈ a := by
    constructor
    · intro h x hx
      exact ((mem_interL ha).1 (asc_sub_eq (interL_asc a b) hb.asc (fun y hy => ((mem_interL ha).1 hy).2) h x hx)).1
    · intro h
      have h1 := asc_sub_len (interL_asc a b) hb.asc fun y hy => ((mem_interL ha).1 hy).2
      have h2 := asc_sub_len hb.asc (interL_asc a b) fun y hy => (mem_interL ha).2 ⟨h y hy, hy⟩
      omega
  rw [e0, e1, e2, or_assoc]
def rowPair (l : List (List Int)) (i : Nat) : Int := firstIx (fun k => decide (i < k) && !compB (gl l i) (gl l k)) l.length
def pairI (l : List (List Int)) : Int := firstIx (fun i => decide (0 ≤ rowPair l i)) l.length
def pairK (l : List (List Int)) : Int := rowPair l (pairI l).toNat
end Go.Proofs.YtcbmbhghmfehpaaGreat
namespace Go.Proofs.YtcbmbhghmfehpaaGreat
open Go.RowKit Go.Shelf Go.Deep
section
variable {F : Fence} {n : Nat} {P : Program} {C : World → Prop}
end
end Go.Proofs.YtcbmbhghmfehpaaGreat
namespace Go.Proofs.YtcbmbhghmfehpaaGreat
open Go.RowKit Go.Deep
end Go.Proofs.YtcbmbhghmfehpaaGreat
namespace Go.Proofs.YtcbmbhghmfehpaaGreat
open Go.RowKit Go.Deep
theorem Owns.form {base : Nat} {e : TypeId} {w : World} {v : Value} {vs : List Value} {n : Nat} (h : Owns base e w v vs) (hn : vs.length = n) : ∃ p cap, v = .slice p n cap ∧ (p = none ∨ ∃ g, p = some ⟨g, 0, none⟩) := by
  subst hn
  rcases h.2 with ⟨rfl, h0⟩ | ⟨g, cap, cur, rfl, _⟩
  · exact ⟨none, 0, by rw [h0], .inl rfl⟩
  · exact ⟨_, cap, rfl, .inr ⟨g, rfl⟩⟩
theorem Owns.made (w : World) (e : TypeId) : Owns w.heap.size e (w.alloc (.cells #[] e)) (.slice (some ⟨w.heap.size, 0, none⟩) 0 0) [] := World.ownsRow_made w #[] 0 (Nat.le_refl _) (by unfold maxLen; omega) (by simp)
end Go.Proofs.YtcbmbhghmfehpaaGreat
namespace Go.Proofs.YtcbmbhghmfehpaaGreat
open Go.RowKit Go.Deep
section
variable {P : Program} {ops : Array Oper} {rest : List Oper} {o : Oper} {a : Act} {Q : Exit → Act → World → Prop}
theorem wpList_appS (W : World) (hgd : o.guard = none) (s x : Operand) (t : TypeId) (ho : o.op = .call { callee := .builtin .append, args := #[s, x], argTypes := #[t, t] })
    (base : Nat) (e : TypeId) (z : Value) (bytes : Nat) (ht : P.underlying t = some (.slice e)) (hinfo : (P.info? e).map (fun i => (i.zero, i.size, i.bytes)) = some (some z, 1, bytes))
    (hz1 : z.cells.size = 1) (hb8 : bytes ≤ 64) {v : Value} {vs : List Value} (hown : Owns base e W v vs) (hs : a.eval s = v) (ad : Addr) (c : Nat) (news : List Value)
    (hx : a.eval x = .slice (some ad) news.length c) (hnews : ∀ j u, news[j]? = some u → W.cell? (ad.add j) = some u) (h1 : ∀ u ∈ news, u.oneCell' = true) (hn : vs.length + news.length ≤ 1000000) (hbase : base ≤ W.heap.size)
    (h : ∀ v' w', Owns base e w' v' (vs ++ news) → W.grownBy w' v.ownBlock → Below base W w' → wpList P ops Q rest (a.put o.dst v') w') :
    wpList P ops Q (o :: rest) a W := by
  obtain ⟨i, hi, hzz⟩ := Option.map_eq_some_iff.1 hinfo
  simp only [Prod.mk.injEq] at hzz
  obtain ⟨hz, hs1, hb⟩ := hzz
  refine wpList_append_own _ hgd s x t ho base e i z 1 bytes ht hi hz hs1 hb hz1 (by omega) v vs.length vs hs hown ad news.length c news hx (by omega) hnews h1
    (by unfold maxLen; omega) ?_ hbase fun v' w' h2 h3 _ => h v' w' ?_ h3 (hown.grown_below h3 hbase)
  · have : (vs.length + news.length) * bytes ≤ (vs.length + news.length) * 64 := Nat.mul_le_mul_left _ hb8
    omega
  · unfold Owns; rw [List.length_append]; exact h2
end
theorem news_ints {S : Nat → Prop} {w : World} {b off n cap : Nat} {xs : List Int} (h : IntsAt S w (.slice (some ⟨b, off, none⟩) n cap) xs) : ∀ j u, (xs.map (Value.int .i64))[j]? = some u → w.cell? ((⟨b, off, none⟩ : Addr).add j) = some u := by
  intro j u hj
  have hadd : (⟨b, off, none⟩ : Addr).add j = ⟨b, off + j, none⟩ := by unfold Addr.add; split <;> simp_all
  rw [List.getElem?_map] at hj
  obtain ⟨x, hx, rfl⟩ := Option.map_eq_some_iff.1 hj
  have hk : j < xs.length := (List.getElem?_eq_some_iff.1 hx).1
  rw [hadd, ints_get' h hk]
  simp [gi, hx]
theorem ints_ext {xs ys : List Int} (hl : xs.length = ys.length) (h : ∀ j, j < xs.length → gi xs j = gi ys j) : xs = ys := by
  refine List.ext_getElem hl fun i h1 h2 => ?_
  have := h i h1
  simpa [gi, h1, h2] using this
def EqPost (w : World) (b : Bool) (e : Ending) (w' : World) : Prop := e = .returned (.bool b) ∧ ∃ n, w' = w.drewN n
set_option maxRecDepth 100000 in
set_option maxHeartbeats 400000 in
theorem equal_int_t (S T : Nat → Prop) (w : World) (v u : Value) (xs ys : List Int) (h : IntsAt S w v xs) (h2 : IntsAt T w u ys) (hn : xs.length ≤ 1000000) (hn2 : ys.length ≤ 1000000) :
    Calls Tryz.prog 23 #[v, u] w (EqPost w (decide (xs = ys))) := by
  obtain ⟨p, cap, rfl, hcap, _⟩ := SlAt.open h
  obtain ⟨q, cap2, rfl, hcap2, _⟩ := SlAt.open h2
  have HX : Hid (IntsAt S w (.slice p xs.length cap) xs) := h
  have HY : Hid (IntsAt T w (.slice q ys.length cap2) ys) := h2
  clear h h2
  by_cases hl : xs.length = ys.length
  · have hl1 : ((xs.length : Int) != ys.length) = false := by simp [hl]
    have HL := Lib.hid hl
    clear hl
    go_enter Tryz.func23, Tryz.ntmps23
    go_wp2_with fail
    go_loopw [5, 13] (fun _ i wr => ∃ k n : Nat, k ≤ xs.length ∧ i = .int .i64 k ∧ wr = w.drewN n ∧ Hid (∀ j, j < k → gi xs j = gi ys j)) (fun _ i _ => xs.length - (intOf i).toNat)
    case atStart => exact ⟨0, 0, Nat.zero_le _, rfl, rfl, fun j hj => absurd hj (Nat.not_lt_zero _)⟩
    case round =>
      obtain ⟨k, n, hk, rfl, rfl, hd⟩ := hrel
      by_cases hlt : k < xs.length
      · have hlt2 : k < ys.length := by rw [← HL.out]; exact hlt
        obtain ⟨b, off, rfl, hc⟩ := ints_get HX.out hlt
        obtain ⟨b2, off2, rfl, hc2⟩ := ints_get HY.out hlt2
        have i1 : (0 : Int) ≤ (k : Int) := by omega
        have i2 : (k : Int) < (xs.length : Int) := by omega
        have i3 : (k : Int) < (ys.length : Int) := by omega
        generalize hx : gi xs k = x at *
        generalize hy : gi ys k = y at *
        have HXX := Lib.hid hx
        have HYY := Lib.hid hy
        clear hx hy
        by_cases hxy : x = y
        · have hxy1 : (x != y) = false := by simp [hxy]
          have HXY := Lib.hid hxy
          clear hxy
          go_wp2_with fail
          go_quiet (fail)
          go_wp2_with fail
          go_roundw
          case rel => exact ⟨k + 1, n + nq, by omega, by go_num, rfl, fun j hj => if e : j = k then by subst e; rw [HXX.out, HYY.out, HXY.out] else hd.out j (by omega)⟩
          case measure => simp [intOf]; omega
        · have hxy1 : (x != y) = true := by simpa using hxy
          have HXY := Lib.hid hxy
          clear hxy
          go_wp2_with fail
          go_quiet (fail)
          go_wp2_with fail
          go_ret
          refine ⟨ret_bool ?_, n + nq, by rw [World.drewN_drewN]⟩
          rw [eq_comm, decide_eq_false_iff_not]
          rintro rfl
          exact HXY.out (by rw [← HXX.out, ← HYY.out])
      · obtain rfl : k = xs.length := by omega
        clear hlt hk
        have hex : xs = ys := ints_ext HL.out hd.out
        have HEX : Hid (decide (xs = ys) = true) := decide_eq_true hex
        clear hex
        go_wp2_with fail
        go_ret
        exact ⟨ret_bool (by rw [HEX.out]), n, rfl⟩
  · have hl1 : ((xs.length : Int) != ys.length) = true := by simp; omega
    have HL := Lib.hid hl
    clear hl
    go_enter Tryz.func23, Tryz.ntmps23
    go_wp2_with fail
    go_ret
    refine ⟨ret_bool ?_, 0, rfl⟩
    rw [eq_comm, decide_eq_false_iff_not]
    rintro rfl
    exact HL.out rfl
end Go.Proofs.YtcbmbhghmfehpaaGreat
namespace Go.Proofs.YtcbmbhghmfehpaaGreat
open Go.RowKit Go.Deep
theorem Owns.set {base : Nat} {e : TypeId} {w : World} {v : Value} {vs : List Value} (h : Owns base e w v vs) {j : Nat} (hj : j < vs.length) :
    ∃ g cap, v = .slice (some ⟨g, 0, none⟩) vs.length cap ∧ base ≤ g ∧ g < w.heap.size ∧ w.cell? ⟨g, j, none⟩ = some (vs.getD j undef) ∧ w.frozen? ⟨g, j, none⟩ = false ∧ ∀ x, Owns base e (w.setCell ⟨g, j, none⟩ x) v (vs.set j x) := by
  obtain ⟨hl, h | ⟨g, cap, cur, rfl, hg, hc, hn, hcm, hcs, ht⟩⟩ := h
  · omega
  · have hgl : g < w.heap.size := (Array.getElem?_eq_some_iff.1 hc).1
    have ht1 : cur.toList.take vs.length = vs := by rw [Nat.mul_one] at ht; exact ht
    have hj2 : j < cur.size := by omega
    have hcell : cur[j]? = some (vs.getD j undef) := by
      have h1 : vs[j]? = some (vs.getD j undef) := by simp [hj]
      rw [← h1]
      have h2 := congrArg (·[j]?) ht1
      simp only [List.getElem?_take, hj, if_true] at h2
      rw [← h2]; simp
    refine ⟨g, cap, rfl, hg, hgl, by simp [World.cell?, hc, hcell], by simp [World.frozen?, hc], fun x => ⟨by simp, .inr ⟨g, cap, cur.setIfInBounds j x, by simp, hg, ?_, by simpa using hn, hcm, by simpa using hcs, ?_⟩⟩⟩
    · simp [World.setCell, Array.getElem?_modify, hc]
    · rw [List.length_set, Nat.mul_one, Array.toList_setIfInBounds, List.take_set, ht1]
theorem ownBlock_lt {base : Nat} {e : TypeId} {w : World} {v : Value} {vs : List Value} (h : Owns base e w v vs) {b : Nat} (hb : v.ownBlock = some b) : base ≤ b ∧ b < w.heap.size := World.ownsRow.lt h b hb
theorem take_gl {l : List (List Int)} {m : Nat} (h : m < l.length) : l.take (m + 1) = l.take m ++ [gl l m] := by
  rw [List.take_succ_eq_append_getElem h]; simp [gl, h]
section
variable {P : Program} {ops : Array Oper} {rest : List Oper} {o : Oper} {a : Act} {Q : Exit → Act → World → Prop}
end
end Go.Proofs.YtcbmbhghmfehpaaGreat
namespace Go.Proofs.YtcbmbhghmfehpaaGreat
open Go.RowKit Go.Deep
structure Frs where
  nm : Nat → ByteArray
  old : Nat → Int
  kids : Nat → List Nat
def nptr (A : Nat → Nat) (k : Nat) : Value := .pointer (some ⟨A k, 0, none⟩)
def upd {α : Type} (f : Nat → α) (k : Nat) (x : α) (i : Nat) : α := if i = k then x else f i
theorem upd_same {α : Type} (f : Nat → α) (k : Nat) (x : α) : upd f k x k = x := by simp [upd]
theorem upd_ne {α : Type} (f : Nat → α) {k i : Nat} (x : α) (h : i ≠ k) : upd f k x i = f i := by simp [upd, h]
structure FAt (base n : Nat) (A : Nat → Nat) (kv : Nat → Value) (F : Frs) (w : World) : Prop where
  node : ∀ i, i < n → w.heap[A i]? = some (.cells #[.string (F.nm i), kv i, .int .i64 (F.old i)] 147 (0, 0))
  lo : ∀ i, i < n → base ≤ A i
  inj : ∀ i j, i < n → j < n → A i = A j → i = j
  own : ∀ i, i < n → Owns base 145 w (kv i) ((F.kids i).map (nptr A))
  apart : ∀ i j, i < n → j < n → (kv i).ownBlock ≠ some (A j)
  alone : ∀ i j b, i < n → j < n → (kv i).ownBlock = some b → (kv j).ownBlock = some b → i = j
  kid : ∀ i, i < n → ∀ k ∈ F.kids i, k < n
theorem Owns.same {base : Nat} {e : TypeId} {w w' : World} {v : Value} {vs : List Value} (h : Owns base e w v vs) (k : ∀ b, v.ownBlock = some b → w'.heap[b]? = w.heap[b]?) : Owns base e w' v vs := by
  obtain ⟨hl, h | ⟨g, cap, cur, rfl, hg, hc, hr⟩⟩ := h
  · exact ⟨hl, .inl h⟩
  · exact ⟨hl, .inr ⟨g, cap, cur, rfl, hg, by rw [k g rfl]; exact hc, hr⟩⟩
theorem Owns.mono_base {base base' : Nat} {e : TypeId} {w : World} {v : Value} {vs : List Value} (h : Owns base e w v vs) (hb : base' ≤ base) : Owns base' e w v vs := by
  obtain ⟨hl, h | ⟨g, cap, cur, rfl, hg, hc, hr⟩⟩ := h
  · exact ⟨hl, .inl h⟩
  · exact ⟨hl, .inr ⟨g, cap, cur, rfl, Nat.le_trans hb hg, hc, hr⟩⟩
section
variable {base n : Nat} {A : Nat → Nat} {kv : Nat → Value} {F : Frs} {w w' : World}
theorem FAt.lt (h : FAt base n A kv F w) {i : Nat} (hi : i < n) : A i < w.heap.size := (Array.getElem?_eq_some_iff.1 (h.node i hi)).1
theorem FAt.ownlt (h : FAt base n A kv F w) {i b : Nat} (hi : i < n) (hb : (kv i).ownBlock = some b) : base ≤ b ∧ b < w.heap.size := ownBlock_lt (h.own i hi) hb
theorem FAt.name (h : FAt base n A kv F w) {i : Nat} (hi : i < n) : w.cell? ⟨A i, 0, none⟩ = some (.string (F.nm i)) := by simp [World.cell?, h.node i hi]
theorem FAt.kidv (h : FAt base n A kv F w) {i : Nat} (hi : i < n) : w.cell? ⟨A i, 1, none⟩ = some (kv i) := by simp [World.cell?, h.node i hi]
theorem FAt.thaw (h : FAt base n A kv F w) {i : Nat} (hi : i < n) (o : Nat) : w.frozen? ⟨A i, o, none⟩ = false := by simp [World.frozen?, h.node i hi]
theorem FAt.same (h : FAt base n A kv F w) (ha : ∀ i, i < n → w'.heap[A i]? = w.heap[A i]?) (hk : ∀ i b, i < n → (kv i).ownBlock = some b → w'.heap[b]? = w.heap[b]?) : FAt base n A kv F w' :=
  ⟨fun i hi => by rw [ha i hi]; exact h.node i hi, h.lo, h.inj, fun i hi => (h.own i hi).same fun b hb => hk i b hi hb, h.apart, h.alone, h.kid⟩
theorem FAt.kept (h : FAt base n A kv F w) (k : ∀ b, base ≤ b → b < w.heap.size → w'.heap[b]? = w.heap[b]?) : FAt base n A kv F w' :=
  h.same (fun i hi => k _ (h.lo i hi) (h.lt hi)) (fun _ _ hi hb => k _ (h.ownlt hi hb).1 (h.ownlt hi hb).2)
theorem FAt.up (h : FAt base n A kv F w) (k : Up w w') : FAt base n A kv F w' := h.kept fun b _ hb => Below.block k b hb
theorem FAt.put (h : FAt base n A kv F w) {k : Nat} (hk : k < n) {v : Value} {ks : List Nat}
    (ha : ∀ i, i < n → i ≠ k → w'.heap[A i]? = w.heap[A i]?) (hn : w'.heap[A k]? = some (.cells #[.string (F.nm k), v, .int .i64 (F.old k)] 147 (0, 0)))
    (hv : Owns base 145 w' v (ks.map (nptr A))) (ho : ∀ i b, i < n → i ≠ k → (kv i).ownBlock = some b → w'.heap[b]? = w.heap[b]?)
    (hb : ∀ b, v.ownBlock = some b → (kv k).ownBlock = some b ∨ w.heap.size ≤ b) (hks : ∀ j ∈ ks, j < n) : FAt base n A (upd kv k v) { F with kids := upd F.kids k ks } w' := by
  refine ⟨fun i hi => ?_, h.lo, h.inj, fun i hi => ?_, fun i j hi hj => ?_, fun i j b hi hj h1 h2 => ?_, fun i hi => ?_⟩
  · by_cases e : i = k
    · subst e; rw [upd_same]; exact hn
    · rw [upd_ne _ _ e, ha i hi e]; exact h.node i hi
  · by_cases e : i = k
    · subst e; simp only [upd_same]; exact hv
    · simp only [upd_ne _ _ e]; exact (h.own i hi).same fun b hb => ho i b hi e hb
  · by_cases e : i = k
    · subst e; rw [upd_same]; intro h3
      rcases hb _ h3 with h4 | h4
      · exact h.apart i j hi hj h4
      · exact absurd (h.lt hj) (by omega)
    · rw [upd_ne _ _ e]; exact h.apart i j hi hj
  · by_cases e1 : i = k
    · by_cases e2 : j = k
      · rw [e1, e2]
      · subst e1
        rw [upd_same] at h1
        rw [upd_ne _ _ e2] at h2
        rcases hb _ h1 with h4 | h4
        · exact h.alone i j b hi hj h4 h2
        · exact absurd (h.ownlt hj h2).2 (by omega)
    · by_cases e2 : j = k
      · subst e2
        rw [upd_same] at h2
        rw [upd_ne _ _ e1] at h1
        rcases hb _ h2 with h4 | h4
        · exact h.alone i j b hi hj h1 h4
        · exact absurd (h.ownlt hi h1).2 (by omega)
      · rw [upd_ne _ _ e1] at h1
        rw [upd_ne _ _ e2] at h2
        exact h.alone i j b hi hj h1 h2
  · by_cases e : i = k
    · subst e; simp only [upd_same]; exact hks
    · simp only [upd_ne _ _ e]; exact h.kid i hi
theorem FAt.node_new (h : FAt base n A kv F w) (hb : base ≤ w.heap.size) (nm : ByteArray) (old : Int) :
    FAt base (n + 1) (upd A n w.heap.size) (upd kv n (.slice none 0 0)) ⟨upd F.nm n nm, upd F.old n old, upd F.kids n []⟩ (w.alloc (.cells #[.string nm, .slice none 0 0, .int .i64 old] 147)) := by
  have hne : ∀ i, i < n → i ≠ n := fun i hi => by omega
  have hmap : ∀ i, i < n → (F.kids i).map (nptr (upd A n w.heap.size)) = (F.kids i).map (nptr A) := fun i hi => by
    refine List.map_congr_left fun k hk => ?_
    unfold nptr; rw [upd_ne _ _ (hne k (h.kid i hi k hk))]
  have hcase : ∀ i, i < n + 1 → i < n ∨ i = n := fun i hi => by omega
  refine ⟨fun i hi => ?_, fun i hi => ?_, fun i j hi hj e => ?_, fun i hi => ?_, fun i j hi hj => ?_, fun i j b hi hj h1 h2 => ?_, fun i hi => ?_⟩
  · rcases hcase i hi with hi | rfl
    · simp only [upd_ne _ _ (hne i hi)]; rw [blk_alloc_lt _ _ _ (h.lt hi)]; exact h.node i hi
    · simp only [upd_same]; exact blk_alloc_new _ _
  · rcases hcase i hi with hi | rfl
    · rw [upd_ne _ _ (hne i hi)]; exact h.lo i hi
    · rw [upd_same]; exact hb
  · rcases hcase i hi with hi | rfl <;> rcases hcase j hj with hj | rfl
    · rw [upd_ne _ _ (hne i hi), upd_ne _ _ (hne j hj)] at e; exact h.inj i j hi hj e
    · rw [upd_ne _ _ (hne i hi), upd_same] at e; have := h.lt hi; omega
    · rw [upd_same, upd_ne _ _ (hne j hj)] at e; have := h.lt hj; omega
    · rfl
  · rcases hcase i hi with hi | rfl
    · simp only [upd_ne _ _ (hne i hi)]; rw [hmap i hi]; exact (h.own i hi).alloc _
    · simp only [upd_same]; exact Owns.nil _ _ _
  · rcases hcase i hi with hi | rfl
    · rw [upd_ne _ _ (hne i hi)]
      rcases hcase j hj with hj | rfl
      · rw [upd_ne _ _ (hne j hj)]; exact h.apart i j hi hj
      · rw [upd_same]; intro e; have := (h.ownlt hi e).2; omega
    · rw [upd_same]; intro e; cases e
  · rcases hcase i hi with hi | rfl <;> rcases hcase j hj with hj | rfl
    · rw [upd_ne _ _ (hne i hi)] at h1; rw [upd_ne _ _ (hne j hj)] at h2; exact h.alone i j b hi hj h1 h2
    · rw [upd_same] at h2; cases h2
    · rw [upd_same] at h1; cases h1
    · rfl
  · rcases hcase i hi with hi | rfl
    · simp only [upd_ne _ _ (hne i hi)]; intro k hk; have := h.kid i hi k hk; omega
    · simp only [upd_same]; intro k hk; cases hk
theorem FAt.empty (base : Nat) (A : Nat → Nat) (kv : Nat → Value) (F : Frs) (w : World) : FAt base 0 A kv F w :=
  ⟨fun _ h => absurd h (Nat.not_lt_zero _), fun _ h => absurd h (Nat.not_lt_zero _), fun _ _ h => absurd h (Nat.not_lt_zero _), fun _ h => absurd h (Nat.not_lt_zero _), fun _ _ h => absurd h (Nat.not_lt_zero _), fun _ _ _ h => absurd h (Nat.not_lt_zero _), fun _ h => absurd h (Nat.not_lt_zero _)⟩
theorem FAt.push (h : FAt base n A kv F w) {k c : Nat} (hk : k < n) (hc : c < n) {v : Value} (hv : Owns base 145 w' v ((F.kids k ++ [c]).map (nptr A))) (hg : w.grownBy w' (kv k).ownBlock)
    (hb : ∀ b, v.ownBlock = some b → (kv k).ownBlock = some b ∨ w.heap.size ≤ b) : FAt base n A (upd kv k v) { F with kids := upd F.kids k (F.kids k ++ [c]) } (w'.setCell ⟨A k, 1, none⟩ v) := by
  have hold : ∀ i, i < n → w'.heap[A i]? = w.heap[A i]? := fun i hi => hg.block (A i) (h.lt hi) (fun e => h.apart k i hk hi e.symm)
  have hnA : ∀ b, v.ownBlock = some b → b ≠ A k := fun b hv2 e => by
    rcases hb b hv2 with h4 | h4
    · exact h.apart k k hk hk (by rw [h4, e])
    · have := h.lt hk; omega
  refine h.put hk (fun i hi e => ?_) ?_ (hv.same fun b hv2 => blk_setCell_other _ _ _ _ (hnA b hv2)) (fun i b hi e hb2 => ?_) hb ?_
  · rw [blk_setCell_other _ _ _ _ (fun e2 => e (h.inj i k hi hk e2))]; exact hold i hi
  · have hn := hold k hk
    rw [h.node k hk] at hn
    simp [World.setCell, Array.getElem?_modify, hn]
  · have hne : b ≠ A k := fun e2 => h.apart i k hi hk (by rw [hb2, e2])
    rw [blk_setCell_other _ _ _ _ hne]
    exact hg.block b (h.ownlt hi hb2).2 (fun e2 => e (h.alone i k b hi hk hb2 e2.symm))
  · intro j hj
    rcases List.mem_append.1 hj with h1 | h1
    · exact h.kid k hk j h1
    · have : j = c := by simpa using h1
      omega
end
end Go.Proofs.YtcbmbhghmfehpaaGreat
namespace Go.Proofs.YtcbmbhghmfehpaaGreat
open Go.RowKit Go.Deep
def Plain (w : World) (b : Nat) : Prop := ∃ c t, w.heap[b]? = some (.cells c t (0, 0)) ∧ 0 < c.size
section
variable {P : Program} {w : World}
theorem run_sameAddr {a b : Nat} (ha : Plain w a) (hb : Plain w b) : (sameAddr ⟨a, 0, none⟩ ⟨b, 0, none⟩).run P w = .ok (decide (a = b)) w := by
  obtain ⟨ca, ta, ha, hca⟩ := ha
  obtain ⟨cb, tb, hb, hcb⟩ := hb
  by_cases h : a = b
  · subst h; simp [sameAddr]
  · have h1 : (a == b) = false := by simp [h]
    simp [sameAddr, h1, h, World.frozen?, ha, hb, noView, viewAt, mayBeOne, stringish, World.shape?, getObj, Sem.run, shape, frozen]
def pk : Option Nat → Value
  | none => .pointer none
  | some b => .pointer (some ⟨b, 0, none⟩)
def okKey (w : World) : Option Nat → Prop
  | none => True
  | some b => Plain w b
theorem run_eqIn {t e : TypeId} (ht : P.underlying t = some (.pointer e)) (he : ∀ w, (sizeOf e).run P w = .ok 3 w) {x y : Option Nat} (hx : okKey w x) (hy : okKey w y) (d : Nat) : (Op.equalIn (d + 1) t (pk x) (pk y)).run P w = .ok (decide (x = y)) w := by
  have hu := run_underlying (w := w) ht
  unfold Op.equalIn
  cases x with
  | none => cases y <;> simp [hu, pk]
  | some a =>
    cases y with
    | none => simp [hu, pk]
    | some b =>
      have h := run_sameAddr (P := P) hx hy
      simp [hu, pk, he, h]
theorem run_eqp {t e : TypeId} (ht : P.underlying t = some (.pointer e)) (he : ∀ w, (sizeOf e).run P w = .ok 3 w) {x y : Option Nat} (hx : okKey w x) (hy : okKey w y) : (Op.equal t (pk x) (pk y)).run P w = .ok (decide (x = y)) w :=
  run_eqIn ht he hx hy 9999
theorem run_asking {t e : TypeId} (ht : P.underlying t = some (.pointer e)) (he : ∀ w, (sizeOf e).run P w = .ok 3 w) {k : Option Nat} (hk : okKey w k) : ∀ (es : List MapEntry) (l : List (Option Nat × Value)) (i : Nat),
    es.map (fun x => (x.key, x.val)) = l.map (fun x => (pk x.1, x.2)) → (∀ x ∈ l, okKey w x.1) →
      (l.lookup k = none ∧ (Instr.findAsking t (pk k) es i).run P w = .ok none w) ∨ ∃ j v, l.lookup k = some v ∧ (Instr.findAsking t (pk k) es i).run P w = .ok (some (j, v)) w := by
  intro es
  induction es with
  | nil =>
    intro l i hl _
    cases l with
    | nil => exact .inl ⟨rfl, by simp [Instr.findAsking]⟩
    | cons => cases hl
  | cons x es ih =>
    intro l i hl hok
    cases l with
    | nil => cases hl
    | cons y l =>
      simp only [List.map_cons, List.cons.injEq, Prod.mk.injEq] at hl
      obtain ⟨⟨h1, h2⟩, h3⟩ := hl
      have heq := run_eqp (w := w) ht he hk (hok y (by simp))
      rw [← h1] at heq
      by_cases h : k = y.1
      · subst h
        refine .inr ⟨i, y.2, ?_, ?_⟩
        · obtain ⟨y1, y2⟩ := y; simp
        · simp [Instr.findAsking, heq, h2]
      · have hb : (k == y.1) = false := by simpa using h
        rcases ih l (i + 1) h3 (fun z hz => hok z (by simp [hz])) with ⟨h4, h5⟩ | ⟨j, v, h4, h5⟩
        · refine .inl ⟨?_, by simp [Instr.findAsking, heq, h, h5]⟩
          obtain ⟨y1, y2⟩ := y
          rw [List.lookup_cons, hb]; exact h4
        · refine .inr ⟨j, v, ?_, by simp [Instr.findAsking, heq, h, h5]⟩
          obtain ⟨y1, y2⟩ := y
          rw [List.lookup_cons, hb]; exact h4
def PMap (w : World) (b : Nat) (l : List (Option Nat × Value)) : Prop := ∃ es clock, w.heap[b]? = some (.map es clock) ∧ es.toList.map (fun x => (x.key, x.val)) = l.map (fun x => (pk x.1, x.2))
theorem run_findKey {t e : TypeId} (ht : P.underlying t = some (.pointer e)) (he : ∀ w, (sizeOf e).run P w = .ok 3 w) {k : Option Nat} (hk : okKey w k) (es : List MapEntry) (l : List (Option Nat × Value))
    (hl : es.map (fun x => (x.key, x.val)) = l.map (fun x => (pk x.1, x.2))) (hok : ∀ x ∈ l, okKey w x.1) :
      (l.lookup k = none ∧ (Instr.findKey t (pk k) es).run P w = .ok none w) ∨ ∃ j v, l.lookup k = some v ∧ (Instr.findKey t (pk k) es).run P w = .ok (some (j, v)) w := by
  have hu := run_underlying (w := w) ht
  have h := run_asking ht he hk es l 0 hl hok
  cases es with
  | nil =>
    cases l with
    | nil => exact .inl ⟨rfl, by simp [Instr.findKey, hu, Instr.findNow]⟩
    | cons => cases hl
  | cons x es =>
    have hn : Instr.findNow (.pointer e) (pk k) (x :: es) 0 = none := by simp [Instr.findNow, Instr.sameNow]
    rcases h with ⟨h1, h2⟩ | ⟨j, v, h1, h2⟩
    · exact .inl ⟨h1, by simp [Instr.findKey, hu, hn, h2]⟩
    · exact .inr ⟨j, v, h1, by simp [Instr.findKey, hu, hn, h2]⟩
theorem run_checkKey {t e : TypeId} (ht : P.underlying t = some (.pointer e)) (em : Bool) (k : Option Nat) : (Instr.checkKey em 10000 t (pk k)).run P w = .ok () w := by
  have hu := run_underlying (w := w) ht
  show (Instr.checkKey em (9999 + 1) t (pk k)).run P w = _
  unfold Instr.checkKey
  cases k <;> simp [hu, pk]
theorem run_pget {mt t e el : TypeId} (hm : P.underlying mt = some (.map t el)) (ht : P.underlying t = some (.pointer e)) (he : ∀ w, (sizeOf e).run P w = .ok 3 w) {b : Nat} {l : List (Option Nat × Value)} (h : PMap w b l) {k : Option Nat} {v : Value}
    (hk : okKey w k) (hok : ∀ x ∈ l, okKey w x.1) (hv : l.lookup k = some v) : (Instr.lookup mt (.map (some b)) (pk k) false).run P w = .ok v w := by
  obtain ⟨es, clock, hb, hl⟩ := h
  have hu := run_underlying (w := w) hm
  have hg := MapKept.run_getObj_map (P := P) hb
  rcases run_findKey ht he hk es.toList l hl hok with ⟨h1, h2⟩ | ⟨j, v', h1, h2⟩
  · rw [h1] at hv; cases hv
  · rw [h1] at hv; injection hv with hv; subst hv
    simp [Instr.lookup, hu, hg, run_checkKey ht, h2]
theorem run_pput {mt t e el : TypeId} (hm : P.underlying mt = some (.map t el)) (ht : P.underlying t = some (.pointer e)) (he : ∀ w, (sizeOf e).run P w = .ok 3 w) {b : Nat} {l : List (Option Nat × Value)} (h : PMap w b l) {k : Option Nat} (v : Value)
    (hk : okKey w k) (hok : ∀ x ∈ l, okKey w x.1) (hv : l.lookup k = none) :
    ∃ w', (Instr.mapUpdate mt (.map (some b)) (pk k) v).run P w = .ok () w' ∧ PMap w' b (l ++ [(k, v)]) ∧ w'.heap.size = w.heap.size ∧ w'.os = w.os ∧ w'.tape = w.tape ∧ w'.output = w.output ∧ ∀ j, j ≠ b → w'.heap[j]? = w.heap[j]? := by
  obtain ⟨es, clock, hb, hl⟩ := h
  have hu := run_underlying (w := w) hm
  have hg := MapKept.run_getObj_map (P := P) hb
  rcases run_findKey ht he hk es.toList l hl hok with ⟨h1, h2⟩ | ⟨j, v', h1, h2⟩
  · have hs := MapKept.run_setObj_map (P := P) (.map (es.push { key := pk k, val := v, born := clock }) (clock + 1)) hb
    refine ⟨{ w with heap := w.heap.setIfInBounds b (.map (es.push { key := pk k, val := v, born := clock }) (clock + 1)) }, by simp [Instr.mapUpdate, hu, hg, run_checkKey ht, h2, hs], ⟨es.push { key := pk k, val := v, born := clock }, clock + 1, ?_, by simp [hl]⟩, by simp, rfl, rfl, rfl, fun j hj => ?_⟩
    · have := (Array.getElem?_eq_some_iff.1 hb).1
      simp [this]
    · simp [Ne.symm hj]
  · rw [h1] at hv; cases hv
end
end Go.Proofs.YtcbmbhghmfehpaaGreat
