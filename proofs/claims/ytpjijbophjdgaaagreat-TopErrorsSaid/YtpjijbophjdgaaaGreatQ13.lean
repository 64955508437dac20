/- A copy of a list of lists; the law's closure. The contract of parsimony.Cost. The plain law of the order of children: names compared, the least name below a node, children sorted. Maps whose keys are pointers at nodes. -/
import Derived.Test.YtpjijbophjdgaaaGreatQ10
import Derived.Test.YtpjijbophjdgaaaGreatQ4
import Derived.Test.YtpjijbophjdgaaaGreatQ5
import Derived.Test.YtpjijbophjdgaaaGreatQ11
import Derived.Lib.Bytealg
import Derived.Sort.Statements
import Derived.MapKept
import Derived.Laws.Pointers
namespace Go.Proofs.YtpjijbophjdgaaaGreat
open Go.RowKit Go.Deep
theorem Tryz.infoSIc : (Tryz.prog.info? 26).map (fun i => (i.zero, i.size, i.bytes)) = some (some (.slice none 0 0), 1, 24) := by kernel_rfl
def ClrPost (S : Nat → Prop) (w : World) (T : TypeId) (xs : List (List Int)) (en : Ending) (w' : World) : Prop :=
  Up w w' ∧ ∃ u vals, en = .returned u ∧ vals.length = xs.length ∧ Owns w.heap.size T w' u vals ∧ ∀ i, i < xs.length → IntsAt S w' (vals.getD i undef) (gl xs i)
theorem nil_rows {S : Nat → Prop} {w : World} {n cap : Nat} {xs : List (List Int)} (h : RowsAt S w (.slice none n cap) xs) : xs = [] := by
  obtain ⟨f, ⟨q, c, e, _, h⟩, _⟩ := h
  injection e with e1 e2 e3
  rcases h with h | ⟨b, off, h, _⟩
  · exact List.eq_nil_of_length_eq_zero h
  · rw [← e1] at h; cases h
theorem slice_one {u : Value} (h : ∃ p n c, u = .slice p n c) : u.oneCell' = true := by obtain ⟨_, _, _, rfl⟩ := h; rfl
set_option maxRecDepth 100000 in
set_option maxHeartbeats 400000 in
theorem clone_rows_t (S : Nat → Prop) (w : World) (v : Value) (xs : List (List Int)) (h : RowsAt S w v xs) (hn : xs.length ≤ 1000000) :
    Calls Tryz.prog 25 #[v] w (ClrPost S w 26 xs) := by
  obtain ⟨p, cap, rfl, hcap, _⟩ := rows_open h
  cases p with
  | none =>
    obtain rfl := nil_rows h
    have heq := fun (w : World) => Lib.run_eql_slice_nil (P := Tryz.prog) w 22 26 none 0 cap 0 0 Tryz.underlying22
    clear h
    go_enter Tryz.func25, Tryz.ntmps25
    go_wp2_with fail
    go_ret
    exact ⟨Up.refl _, _, [], rfl, rfl, Owns.nil _ _ _, fun i hi => absurd hi (Nat.not_lt_zero _)⟩
  | some p =>
    have heq := fun (w : World) => Lib.run_eql_slice_nil (P := Tryz.prog) w 22 26 (some p) xs.length cap 0 0 Tryz.underlying22
    have hu := Up.alloc w (.cells #[] 26)
    obtain ⟨f, hsl, hr⟩ := h
    obtain ⟨q, c, e, _, H⟩ := SlAt.open (SlAt.keep hsl (hu.kept S))
    injection e with e1 e2 e3
    subst e1
    have hnl : ((List.range xs.length).map f).length = xs.length := by simp
    have hnews : ∀ j u, ((List.range xs.length).map f)[j]? = some u → (w.alloc (.cells #[] 26)).cell? (p.add j) = some u := fun j u hj => by
      have hj2 : j < xs.length := by
        have := (List.getElem?_eq_some_iff.1 hj).1
        simpa using this
      obtain ⟨b, off, e, hc⟩ := H j hj2
      injection e with e
      subst e
      have hadd : (⟨b, off, none⟩ : Addr).add j = ⟨b, off + j, none⟩ := by unfold Addr.add; split <;> simp_all
      rw [hadd, hc]
      simp [hj2] at hj; rw [hj]
    have hone : ∀ u ∈ (List.range xs.length).map f, u.oneCell' = true := fun u hu2 => by
      obtain ⟨k, hk, rfl⟩ := List.mem_map.1 hu2
      obtain ⟨p', c', e', _⟩ := hr k (List.mem_range.1 hk)
      exact slice_one ⟨_, _, _, e'⟩
    have HU := Lib.hid hu
    have HN := Lib.hid hnews
    have HO := Lib.hid hone
    have HNL := Lib.hid hnl
    have HR := Lib.hid hr
    have HM := Lib.hid (Owns.made w 26)
    clear hsl hr H hnews hu hone hnl e2 e3
    go_enter Tryz.func25, Tryz.ntmps25
    go_wp2_with (at_builtin; refine wpList_appS _ rfl _ _ 22 rfl w.heap.size 26 (.slice none 0 0) 24 Tryz.underlying22 Tryz.infoSIc rfl (by decide) HM.out rfl p cap ((List.range xs.length).map f) (by rw [HNL.out]; rfl) HN.out HO.out (by rw [HNL.out]; simp; omega) (by simp) ?_; intro v' w' hown' hgrow hbel)
    go_ret
    have hup : Up w w' := Below.trans HU.out hbel
    refine ⟨hup, _, (List.range xs.length).map f, rfl, HNL.out, by simpa using hown', fun i hi => ?_⟩
    have e : ((List.range xs.length).map f).getD i undef = f i := by simp [hi]
    rw [e]; exact (HR.out i hi).keep (hup.kept S)
end Go.Proofs.YtpjijbophjdgaaaGreat
namespace Go.Proofs.YtpjijbophjdgaaaGreat
open Go.RowKit Go.Deep
end Go.Proofs.YtpjijbophjdgaaaGreat
namespace Go.Proofs.YtpjijbophjdgaaaGreat
open Go.Sort
theorem cmp_anti : ∀ a b : List UInt8, Lib.compareBytes b a = - Lib.compareBytes a b
  | [], [] => rfl
  | [], _ :: _ => rfl
  | _ :: _, [] => rfl
  | a :: u, b :: v => by
    unfold Lib.compareBytes
    by_cases h1 : a < b
    · have h2 : ¬ b < a := by rw [UInt8.lt_iff_toNat_lt] at *; omega
      simp [h1, h2]
    · by_cases h2 : b < a
      · simp [h1, h2]
      · simp only [h1, h2, if_false]; exact cmp_anti u v
theorem cmp_zero : ∀ {a b : List UInt8}, Lib.compareBytes a b = 0 → a = b
  | [], [], _ => rfl
  | [], _ :: _, h => by cases h
  | _ :: _, [], h => by cases h
  | a :: u, b :: v, h => by
    unfold Lib.compareBytes at h
    split at h
    · cases h
    · split at h
      · cases h
      · rename_i h1 h2
        have e : a = b := by
          apply UInt8.toNat.inj
          rw [UInt8.lt_iff_toNat_lt] at h1 h2; omega
        rw [e, cmp_zero h]
theorem cmp_self (a : List UInt8) : Lib.compareBytes a a = 0 := by have := cmp_anti a a; omega
theorem cmp_trans : ∀ {a b c : List UInt8}, Lib.compareBytes a b < 0 → Lib.compareBytes b c < 0 → Lib.compareBytes a c < 0
  | [], [], _, h, _ => by cases h
  | [], _ :: _, [], _, h => by cases h
  | [], _ :: _, _ :: _, _, _ => Int.negSucc_lt_zero 0
  | _ :: _, [], _, h, _ => by cases h
  | _ :: _, _ :: _, [], _, h => by cases h
  | a :: u, b :: v, c :: x, h, h' => by
    unfold Lib.compareBytes at *
    by_cases h1 : a < b
    · by_cases h2 : b < c
      · have h3 : a < c := by rw [UInt8.lt_iff_toNat_lt] at *; omega
        rw [if_pos h3]; decide
      · rw [if_neg h2] at h'
        by_cases h3 : c < b
        · rw [if_pos h3] at h'; cases h'
        · have h4 : a < c := by rw [UInt8.lt_iff_toNat_lt] at *; omega
          rw [if_pos h4]; decide
    · rw [if_neg h1] at h
      by_cases h2 : b < a
      · rw [if_pos h2] at h; cases h
      · rw [if_neg h2] at h
        have e : a = b := by
          apply UInt8.toNat.inj
          rw [UInt8.lt_iff_toNat_lt] at h1 h2; omega
        subst e
        by_cases h3 : a < c
        · rw [if_pos h3]; decide
        · rw [if_neg h3] at h' ⊢
          by_cases h4 : c < a
          · rw [if_pos h4] at h'; cases h'
          · rw [if_neg h4] at h' ⊢; exact cmp_trans h h'
def cmpS (a b : ByteArray) : Int := Lib.compareBytes a.data.toList b.data.toList
theorem cmpS_anti (a b : ByteArray) : cmpS b a = - cmpS a b := cmp_anti _ _
theorem cmpS_zero {a b : ByteArray} (h : cmpS a b = 0) : a = b := ba_ext (cmp_zero h)
theorem cmpS_trans {a b c : ByteArray} (h : cmpS a b < 0) (h' : cmpS b c < 0) : cmpS a c < 0 := cmp_trans h h'
theorem cmpS_self (a : ByteArray) : cmpS a a = 0 := cmp_self _
def leB (f : Nat → ByteArray) (x y : Nat) : Bool := decide (cmpS (f x) (f y) ≤ 0)
def srtBy (f : Nat → ByteArray) (l : List Nat) : List Nat := l.mergeSort (leB f)
theorem leB_trans (f : Nat → ByteArray) (a b c : Nat) (h : leB f a b = true) (h' : leB f b c = true) : leB f a c = true := by
  unfold leB at *
  simp only [decide_eq_true_eq] at *
  by_cases h1 : cmpS (f a) (f b) = 0
  · rw [cmpS_zero h1]; exact h'
  · by_cases h2 : cmpS (f b) (f c) = 0
    · rw [← cmpS_zero h2]; exact h
    · have := cmpS_trans (a := f a) (b := f b) (c := f c) (by omega) (by omega); omega
theorem leB_total (f : Nat → ByteArray) (a b : Nat) : (leB f a b || leB f b a) = true := by
  unfold leB
  have := cmpS_anti (f a) (f b)
  simp only [Bool.or_eq_true, decide_eq_true_eq]; omega
theorem srtBy_perm (f : Nat → ByteArray) (l : List Nat) : (srtBy f l).Perm l := List.mergeSort_perm _ _
theorem srtBy_sorted (f : Nat → ByteArray) (l : List Nat) : (srtBy f l).Pairwise (fun a b => leB f a b = true) := List.pairwise_mergeSort (leB_trans f) (leB_total f) l
theorem srtBy_congr {f g : Nat → ByteArray} {l : List Nat} (h : ∀ x ∈ l, f x = g x) : srtBy f l = srtBy g l := by
  have := List.map_mergeSort (f := id) (r := leB f) (s := leB g) (l := l) (fun a ha b hb => by simp only [leB, id]; rw [h a ha, h b hb])
  simpa [srtBy] using this
def Sep (f : Nat → ByteArray) (l : List Nat) : Prop := ∀ x ∈ l, ∀ y ∈ l, f x = f y → x = y
theorem srtBy_of_perm {f : Nat → ByteArray} {l l' : List Nat} (hp : l.Perm l') (hs : Sep f l) : srtBy f l = srtBy f l' := by
  refine List.Perm.eq_of_pairwise (le := fun a b => leB f a b = true) ?_ (srtBy_sorted f l) (srtBy_sorted f l') (((srtBy_perm f l).trans hp).trans (srtBy_perm f l').symm)
  intro a b ha hb h1 h2
  refine hs a ((srtBy_perm f l).mem_iff.1 ha) b (hp.mem_iff.2 ((srtBy_perm f l').mem_iff.1 hb)) (cmpS_zero ?_)
  unfold leB at h1 h2
  simp only [decide_eq_true_eq] at h1 h2
  have := cmpS_anti (f a) (f b); omega
structure Wf (F : Frs) (n : Nat) (rk : Nat → Nat) : Prop where
  kid : ∀ i, i < n → ∀ k ∈ F.kids i, k < n ∧ rk k < rk i
def lsD (F : Frs) : Nat → Nat → ByteArray
  | 0, i => F.nm i
  | d + 1, i => match srtBy (lsD F d) (F.kids i) with | [] => F.nm i | k :: _ => lsD F d k
theorem lsD_fuel {F : Frs} {n : Nat} {rk : Nat → Nat} (h : Wf F n rk) : ∀ {d e i : Nat}, i < n → rk i ≤ d → rk i ≤ e → lsD F d i = lsD F e i := by
  intro d
  induction d with
  | zero =>
    intro e i hi hd he
    have hk : F.kids i = [] := by
      cases hk : F.kids i with
      | nil => rfl
      | cons k l => have := (h.kid i hi k (by rw [hk]; simp)).2; omega
    cases e with
    | zero => rfl
    | succ e => simp [lsD, hk, srtBy]
  | succ d ih =>
    intro e i hi hd he
    have hsame : ∀ e', rk i ≤ e' + 1 → srtBy (lsD F d) (F.kids i) = srtBy (lsD F e') (F.kids i) := fun e' he' => srtBy_congr fun k hk => by
      have := h.kid i hi k hk
      exact ih this.1 (by omega) (by omega)
    cases e with
    | zero =>
      have hk : F.kids i = [] := by
        cases hk : F.kids i with
        | nil => rfl
        | cons k l => have := (h.kid i hi k (by rw [hk]; simp)).2; omega
      simp [lsD, hk, srtBy]
    | succ e =>
      simp only [lsD]
      rw [hsame e (by omega)]
      cases hc : srtBy (lsD F e) (F.kids i) with
      | nil => rfl
      | cons k l =>
        have hk : k ∈ F.kids i := (srtBy_perm _ _).mem_iff.1 (by rw [hc]; simp)
        have := h.kid i hi k hk
        exact ih this.1 (by omega) (by omega)
def lsF (F : Frs) (rk : Nat → Nat) (i : Nat) : ByteArray := lsD F (rk i) i
theorem lsF_eq {F : Frs} {n : Nat} {rk : Nat → Nat} (h : Wf F n rk) {i : Nat} (hi : i < n) : lsF F rk i = match srtBy (lsF F rk) (F.kids i) with | [] => F.nm i | k :: _ => lsF F rk k := by
  have h1 : lsF F rk i = lsD F (rk i + 1) i := lsD_fuel h hi (Nat.le_refl _) (Nat.le_succ _)
  rw [h1]
  simp only [lsD]
  have hs : srtBy (lsD F (rk i)) (F.kids i) = srtBy (lsF F rk) (F.kids i) := srtBy_congr fun k hk => by
    have := h.kid i hi k hk
    exact lsD_fuel h this.1 (by omega) (Nat.le_refl _)
  rw [hs]
  cases hc : srtBy (lsF F rk) (F.kids i) with
  | nil => rfl
  | cons k l =>
    have hk : k ∈ F.kids i := (srtBy_perm _ _).mem_iff.1 (by rw [hc]; simp)
    have := h.kid i hi k hk
    exact lsD_fuel h this.1 (by omega) (Nat.le_refl _)
def subD (F : Frs) : Nat → Nat → Nat → Bool
  | 0, i, j => j == i
  | d + 1, i, j => (j == i) || (F.kids i).any fun k => subD F d k j
def subF (F : Frs) (rk : Nat → Nat) (i j : Nat) : Bool := subD F (rk i) i j
theorem subD_fuel {F : Frs} {n : Nat} {rk : Nat → Nat} (h : Wf F n rk) : ∀ {d e i j : Nat}, i < n → rk i ≤ d → rk i ≤ e → subD F d i j = subD F e i j := by
  intro d
  induction d with
  | zero =>
    intro e i j hi hd he
    have hk : F.kids i = [] := by
      cases hk : F.kids i with
      | nil => rfl
      | cons k l => have := (h.kid i hi k (by rw [hk]; simp)).2; omega
    cases e with
    | zero => rfl
    | succ e => simp [subD, hk]
  | succ d ih =>
    intro e i j hi hd he
    cases e with
    | zero =>
      have hk : F.kids i = [] := by
        cases hk : F.kids i with
        | nil => rfl
        | cons k l => have := (h.kid i hi k (by rw [hk]; simp)).2; omega
      simp [subD, hk]
    | succ e =>
      simp only [subD]
      congr 1
      rw [Bool.eq_iff_iff, List.any_eq_true, List.any_eq_true]
      constructor
      · rintro ⟨k, hk, h1⟩
        have := h.kid i hi k hk
        exact ⟨k, hk, by rw [← ih (e := e) this.1 (by omega) (by omega)]; exact h1⟩
      · rintro ⟨k, hk, h1⟩
        have := h.kid i hi k hk
        exact ⟨k, hk, by rw [ih (e := e) this.1 (by omega) (by omega)]; exact h1⟩
theorem subF_eq {F : Frs} {n : Nat} {rk : Nat → Nat} (h : Wf F n rk) {i : Nat} (hi : i < n) (j : Nat) : subF F rk i j = ((j == i) || (F.kids i).any fun k => subF F rk k j) := by
  have h1 : subF F rk i j = subD F (rk i + 1) i j := subD_fuel h hi (Nat.le_refl _) (Nat.le_succ _)
  rw [h1]
  simp only [subD]
  congr 1
  rw [Bool.eq_iff_iff, List.any_eq_true, List.any_eq_true]
  constructor
  · rintro ⟨k, hk, h1⟩
    have := h.kid i hi k hk
    exact ⟨k, hk, by unfold subF; rw [← subD_fuel h this.1 (d := rk i) (by omega) (Nat.le_refl _)]; exact h1⟩
  · rintro ⟨k, hk, h1⟩
    have := h.kid i hi k hk
    exact ⟨k, hk, by rw [subD_fuel h this.1 (e := rk k) (by omega) (Nat.le_refl _)]; exact h1⟩
def Frs.srt (F : Frs) (rk : Nat → Nat) (p : Nat → Bool) : Frs := { F with kids := fun i => if p i then srtBy (lsF F rk) (F.kids i) else F.kids i }
theorem Frs.srt_perm (F : Frs) (rk : Nat → Nat) (p : Nat → Bool) (i : Nat) : ((F.srt rk p).kids i).Perm (F.kids i) := by
  show (if p i then _ else _ : List Nat).Perm _
  split
  · exact srtBy_perm _ _
  · exact List.Perm.refl _
end Go.Proofs.YtpjijbophjdgaaaGreat
namespace Go.Proofs.YtpjijbophjdgaaaGreat
open Go.RowKit Go.Deep
def Plain (w : World) (b : Nat) : Prop := ∃ c t, w.heap[b]? = some (.cells c t (0, 0)) ∧ 0 < c.size
section
variable {P : Program} {w : World}
theorem run_sameAddr {a b : Nat} (ha : Plain w a) (hb : Plain w b) : (sameAddr ⟨a, 0, none⟩ ⟨b, 0, none⟩).run P w = .ok (decide (a = b)) w := by
  obtain ⟨ca, ta, ha, hca⟩ := ha
  obtain ⟨cb, tb, hb, hcb⟩ := hb
  by_cases h : a = b
  · subst h; simp [sameAddr]
  · have h1 : (a == b) = false := by simp [h]
    simp [sameAddr, h1, h, World.frozen?, ha, hb, noView, viewAt, mayBeOne, stringish, World.shape?, getObj, Sem.run, shape, frozen]
def pk : Option Nat → Value
  | none => .pointer none
  | some b => .pointer (some ⟨b, 0, none⟩)
def okKey (w : World) : Option Nat → Prop
  | none => True
  | some b => Plain w b
theorem run_eqIn {t e : TypeId} (ht : P.underlying t = some (.pointer e)) (he : ∀ w, (sizeOf e).run P w = .ok 3 w) {x y : Option Nat} (hx : okKey w x) (hy : okKey w y) (d : Nat) : (Op.equalIn (d + 1) t (pk x) (pk y)).run P w = .ok (decide (x = y)) w := by
  have hu := run_underlying (w := w) ht
  unfold Op.equalIn
  cases x with
  | none => cases y <;> simp [hu, pk]
  | some a =>
    cases y with
    | none => simp [hu, pk]
    | some b =>
      have h := run_sameAddr (P := P) hx hy
      simp [hu, pk, he, h]
theorem run_eqp {t e : TypeId} (ht : P.underlying t = some (.pointer e)) (he : ∀ w, (sizeOf e).run P w = .ok 3 w) {x y : Option Nat} (hx : okKey w x) (hy : okKey w y) : (Op.equal t (pk x) (pk y)).run P w = .ok (decide (x = y)) w :=
  run_eqIn ht he hx hy 9999
theorem run_asking {t e : TypeId} (ht : P.underlying t = some (.pointer e)) (he : ∀ w, (sizeOf e).run P w = .ok 3 w) {k : Option Nat} (hk : okKey w k) : ∀ (es : List MapEntry) (l : List (Option Nat × Value)) (i : Nat),
    es.map (fun x => (x.key, x.val)) = l.map (fun x => (pk x.1, x.2)) → (∀ x ∈ l, okKey w x.1) →
      (l.lookup k = none ∧ (Instr.findAsking t (pk k) es i).run P w = .ok none w) ∨ ∃ j v, l.lookup k = some v ∧ (Instr.findAsking t (pk k) es i).run P w = .ok (some (j, v)) w := by
  intro es
  induction es with
  | nil =>
    intro l i hl _
    cases l with
    | nil => exact .inl ⟨rfl, by simp [Instr.findAsking]⟩
    | cons => cases hl
  | cons x es ih =>
    intro l i hl hok
    cases l with
    | nil => cases hl
    | cons y l =>
      simp only [List.map_cons, List.cons.injEq, Prod.mk.injEq] at hl
      obtain ⟨⟨h1, h2⟩, h3⟩ := hl
      have heq := run_eqp (w := w) ht he hk (hok y (by simp))
      rw [← h1] at heq
      by_cases h : k = y.1
      · subst h
        refine .inr ⟨i, y.2, ?_, ?_⟩
        · obtain ⟨y1, y2⟩ := y; simp
        · simp [Instr.findAsking, heq, h2]
      · have hb : (k == y.1) = false := by simpa using h
        rcases ih l (i + 1) h3 (fun z hz => hok z (by simp [hz])) with ⟨h4, h5⟩ | ⟨j, v, h4, h5⟩
        · refine .inl ⟨?_, by simp [Instr.findAsking, heq, h, h5]⟩
          obtain ⟨y1, y2⟩ := y
          rw [List.lookup_cons, hb]; exact h4
        · refine .inr ⟨j, v, ?_, by simp [Instr.findAsking, heq, h, h5]⟩
          obtain ⟨y1, y2⟩ := y
          rw [List.lookup_cons, hb]; exact h4
def PMap (w : World) (b : Nat) (l : List (Option Nat × Value)) : Prop := ∃ es clock, w.heap[b]? = some (.map es clock) ∧ es.toList.map (fun x => (x.key, x.val)) = l.map (fun x => (pk x.1, x.2))
theorem run_findKey {t e : TypeId} (ht : P.underlying t = some (.pointer e)) (he : ∀ w, (sizeOf e).run P w = .ok 3 w) {k : Option Nat} (hk : okKey w k) (es : List MapEntry) (l : List (Option Nat × Value))
    (hl : es.map (fun x => (x.key, x.val)) = l.map (fun x => (pk x.1, x.2))) (hok : ∀ x ∈ l, okKey w x.1) :
      (l.lookup k = none ∧ (Instr.findKey t (pk k) es).run P w = .ok none w) ∨ ∃ j v, l.lookup k = some v ∧ (Instr.findKey t (pk k) es).run P w = .ok (some (j, v)) w := by
  have hu := run_underlying (w := w) ht
  have h := run_asking ht he hk es l 0 hl hok
  cases es with
  | nil =>
    cases l with
    | nil => exact .inl ⟨rfl, by simp [Instr.findKey, hu, Instr.findNow]⟩
    | cons => cases hl
  | cons x es =>
    have hn : Instr.findNow (.pointer e) (pk k) (x :: es) 0 = none := by simp [Instr.findNow, Instr.sameNow]
    rcases h with ⟨h1, h2⟩ | ⟨j, v, h1, h2⟩
    · exact .inl ⟨h1, by simp [Instr.findKey, hu, hn, h2]⟩
    · exact .inr ⟨j, v, h1, by simp [Instr.findKey, hu, hn, h2]⟩
theorem run_checkKey {t e : TypeId} (ht : P.underlying t = some (.pointer e)) (em : Bool) (k : Option Nat) : (Instr.checkKey em 10000 t (pk k)).run P w = .ok () w := by
  have hu := run_underlying (w := w) ht
  show (Instr.checkKey em (9999 + 1) t (pk k)).run P w = _
  unfold Instr.checkKey
  cases k <;> simp [hu, pk]
theorem run_pget {mt t e el : TypeId} (hm : P.underlying mt = some (.map t el)) (ht : P.underlying t = some (.pointer e)) (he : ∀ w, (sizeOf e).run P w = .ok 3 w) {b : Nat} {l : List (Option Nat × Value)} (h : PMap w b l) {k : Option Nat} {v : Value}
    (hk : okKey w k) (hok : ∀ x ∈ l, okKey w x.1) (hv : l.lookup k = some v) : (Instr.lookup mt (.map (some b)) (pk k) false).run P w = .ok v w := by
  obtain ⟨es, clock, hb, hl⟩ := h
  have hu := run_underlying (w := w) hm
  have hg := MapKept.run_getObj_map (P := P) hb
  rcases run_findKey ht he hk es.toList l hl hok with ⟨h1, h2⟩ | ⟨j, v', h1, h2⟩
  · rw [h1] at hv; cases hv
  · rw [h1] at hv; injection hv with hv; subst hv
    simp [Instr.lookup, hu, hg, run_checkKey ht, h2]
theorem run_pput {mt t e el : TypeId} (hm : P.underlying mt = some (.map t el)) (ht : P.underlying t = some (.pointer e)) (he : ∀ w, (sizeOf e).run P w = .ok 3 w) {b : Nat} {l : List (Option Nat × Value)} (h : PMap w b l) {k : Option Nat} (v : Value)
    (hk : okKey w k) (hok : ∀ x ∈ l, okKey w x.1) (hv : l.lookup k = none) :
    ∃ w', (Instr.mapUpdate mt (.map (some b)) (pk k) v).run P w = .ok () w' ∧ PMap w' b (l ++ [(k, v)]) ∧ w'.heap.size = w.heap.size ∧ w'.os = w.os ∧ w'.tape = w.tape ∧ w'.output = w.output ∧ ∀ j, j ≠ b → w'.heap[j]? = w.heap[j]? := by
  obtain ⟨es, clock, hb, hl⟩ := h
  have hu := run_underlying (w := w) hm
  have hg := MapKept.run_getObj_map (P := P) hb
  rcases run_findKey ht he hk es.toList l hl hok with ⟨h1, h2⟩ | ⟨j, v', h1, h2⟩
  · have hs := MapKept.run_setObj_map (P := P) (.map (es.push { key := pk k, val := v, born := clock }) (clock + 1)) hb
    refine ⟨{ w with heap := w.heap.setIfInBounds b (.map (es.push { key := pk k, val := v, born := clock }) (clock + 1)) }, by simp [Instr.mapUpdate, hu, hg, run_checkKey ht, h2, hs], ⟨es.push { key := pk k, val := v, born := clock }, clock + 1, ?_, by simp [hl]⟩, by simp, rfl, rfl, rfl, fun j hj => ?_⟩
    · have := (Array.getElem?_eq_some_iff.1 hb).1
      simp [this]
    · simp [Ne.symm hj]
  · rw [h1] at hv; cases hv
end
end Go.Proofs.YtpjijbophjdgaaaGreat
