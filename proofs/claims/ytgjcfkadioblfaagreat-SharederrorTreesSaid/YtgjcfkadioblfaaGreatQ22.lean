/- Sorting rose trees keeps the parts; sorted twice is sorted once; the rose tree of a valid tree is good. Which nodes lie below a node of a tree that is numbered depth first. The contract of slices.Sort at ints: the laying. slices.Sort at ints that the call has built. The law's leaves. -/
import Derived.Test.YtgjcfkadioblfaaGreatQ21
import Derived.Shelf.SlGeneric
import Derived.Shelf.SlLaysM
import Derived.Ground.SlgmProg
import Derived.Test.YtgjcfkadioblfaaGreatProg
import Derived.Test.YtgjcfkadioblfaaGreatQ5
import Derived.Test.YtgjcfkadioblfaaGreatQ1
import Derived.Shelf.SortM.Plain
import Derived.Shelf.SortM.SortNone
import Derived.Sort.OwnSortedInts
import Derived.Test.YtgjcfkadioblfaaGreatQ20
namespace Go.Proofs.YtgjcfkadioblfaaGreat
theorem insR_perm (a : RT) : ∀ l, (insR a l).Perm (a :: l)
  | [] => List.Perm.refl _
  | b :: l => by
    rw [insR]
    split
    · exact List.Perm.refl _
    · exact ((insR_perm a l).cons b).trans (List.Perm.swap a b l)
theorem sortRs_perm : ∀ l : List RT, (sortRs l).Perm (l.map sortR)
  | [] => List.Perm.refl _
  | r :: rs => by
    rw [sortRs, List.map_cons]
    exact (insR_perm _ _).trans ((sortRs_perm rs).cons _)
theorem sortR_kids (r : RT) : (sortR r).kids = sortRs r.kids := by cases r; rfl
theorem sortR_nm (r : RT) : (sortR r).nm = r.nm := by cases r; rfl
theorem sortRs_nil {l : List RT} : sortRs l = [] ↔ l = [] := by
  constructor
  · intro h
    have := (sortRs_perm l).length_eq
    rw [h, List.length_map] at this
    exact List.eq_nil_of_length_eq_zero this.symm
  · rintro rfl; rfl
theorem subRs_perm {l l' : List RT} (h : l.Perm l') : (subRs l).Perm (subRs l') := by
  rw [subRs_flat, subRs_flat]
  exact h.flatMap_right _
mutual
theorem subR_sort : ∀ r : RT, (subR (sortR r)).Perm ((subR r).map sortR)
  | .node nm ks => by
    rw [sortR, subR, subR, List.map_cons]
    refine List.Perm.cons _ ?_
    exact (subRs_perm (sortRs_perm ks)).trans (subRs_sort ks)
theorem subRs_sort : ∀ rs : List RT, (subRs (rs.map sortR)).Perm ((subRs rs).map sortR)
  | [] => List.Perm.refl _
  | r :: rs => by
    rw [List.map_cons, subRs, subRs, List.map_append]
    exact (subR_sort r).append (subRs_sort rs)
end
theorem sizeR_sort (r : RT) : sizeR (sortR r) = sizeR r := by
  have := (subR_sort r).length_eq
  rw [List.length_map, subR_len, subR_len] at this; exact this
theorem nsR_sort (r : RT) : (nsR (sortR r)).Perm (nsR r) := by
  rw [nsR_sub, nsR_sub]
  refine ((subR_sort r).map RT.nm).trans ?_
  rw [List.map_map]
  have : (RT.nm ∘ sortR) = RT.nm := funext sortR_nm
  rw [this]
theorem leafR_sort (r : RT) : (leafR (sortR r)).Perm (leafR r) := (nsR_sort r).filter _
theorem GoodR.sort {r : RT} (h : GoodR r) : GoodR (sortR r) := by
  refine ⟨fun s hs hk => ?_, fun s hs hk => ?_, (leafR_sort r).nodup_iff.2 h.nd⟩
  · obtain ⟨q, hq, rfl⟩ := List.mem_map.1 ((subR_sort r).mem_iff.1 hs)
    rw [sortR_kids] at hk
    rw [sortR_nm]
    exact h.inn q hq (fun e => hk (sortRs_nil.2 e))
  · obtain ⟨q, hq, rfl⟩ := List.mem_map.1 ((subR_sort r).mem_iff.1 hs)
    rw [sortR_kids] at hk
    rw [sortR_nm]
    exact h.lf q hq (sortRs_nil.1 hk)
/-- The children stand in the order of their first leaves. -/
def OrdR : List RT → Prop
  | [] => True
  | [_] => True
  | a :: b :: l => cmpS (firstR a) (firstR b) ≤ 0 ∧ OrdR (b :: l)
theorem OrdR.tail {a : RT} {l : List RT} (h : OrdR (a :: l)) : OrdR l := by
  cases l with
  | nil => trivial
  | cons b l => exact h.2
theorem insR_head (a : RT) (l : List RT) : ∃ c l', insR a l = c :: l' ∧ (c = a ∨ ∃ t, l = c :: t) := by
  cases l with
  | nil => exact ⟨a, [], rfl, .inl rfl⟩
  | cons b l =>
    rw [insR]
    split
    · exact ⟨a, b :: l, rfl, .inl rfl⟩
    · exact ⟨b, insR a l, rfl, .inr ⟨l, rfl⟩⟩
theorem insR_ord (a : RT) : ∀ l, OrdR l → OrdR (insR a l)
  | [], _ => trivial
  | b :: l, h => by
    rw [insR]
    split
    · rename_i h1; exact ⟨h1, h⟩
    · rename_i h1
      have h2 := insR_ord a l h.tail
      obtain ⟨c, l', e, hc⟩ := insR_head a l
      rw [e] at h2 ⊢
      refine ⟨?_, h2⟩
      rcases hc with rfl | ⟨t, rfl⟩
      · have := cmpS_anti (firstR c) (firstR b); omega
      · exact h.1
theorem sortRs_ord : ∀ l, OrdR (sortRs l)
  | [] => trivial
  | r :: rs => by rw [sortRs]; exact insR_ord _ _ (sortRs_ord rs)
theorem insR_le {a : RT} {l : List RT} (h : OrdR (a :: l)) : insR a l = a :: l := by
  cases l with
  | nil => rfl
  | cons b l => rw [insR, if_pos h.1]
theorem sortRs_fix : ∀ l : List RT, OrdR l → (∀ r ∈ l, sortR r = r) → sortRs l = l
  | [], _, _ => rfl
  | r :: rs, h, hf => by rw [sortRs, sortRs_fix rs h.tail (fun q hq => hf q (by simp [hq])), hf r (by simp)]; exact insR_le h
mutual
theorem sortR_idem : ∀ r : RT, sortR (sortR r) = sortR r
  | .node nm ks => by
    rw [sortR, sortR]
    congr 1
    refine sortRs_fix _ (sortRs_ord ks) (fun q hq => ?_)
    obtain ⟨s, hs, rfl⟩ := List.mem_map.1 ((sortRs_perm ks).mem_iff.1 hq)
    exact sortRs_idem ks s hs
theorem sortRs_idem : ∀ (rs : List RT) (s : RT), s ∈ rs → sortR (sortR s) = sortR s
  | [], _, h => by cases h
  | r :: rs, s, h => by
    by_cases e : s = r
    · rw [e]; exact sortR_idem r
    · exact sortRs_idem rs s (by
        rcases List.mem_cons.1 h with h | h
        · exact absurd h e
        · exact h)
end
section
variable {F : Frs} {n : Nat} {rk : Nat → Nat}
/-- The parts of a forest's rose tree are the rose trees of the nodes. -/
theorem subR_toRF (h : Wf F n rk) : ∀ {d i : Nat}, i < n → rk i ≤ d → subR (toRF F rk i) = (nodesF F rk i).map (toRF F rk) := by
  intro d
  induction d with
  | zero =>
    intro i hi hd
    have hk : F.kids i = [] := by
      cases hk : F.kids i with
      | nil => rfl
      | cons k l => have := (h.kid i hi k (by rw [hk]; simp)).2; omega
    rw [nodesF_eq h hi, hk]
    have e : toRF F rk i = .node (F.nm i) [] := by rw [toRF_eq h hi, hk]; rfl
    rw [e, subR, List.flatMap_nil, List.map_cons, e]; rfl
  | succ d ih =>
    intro i hi hd
    rw [nodesF_eq h hi, List.map_cons, List.map_flatMap]
    have e := toRF_eq h hi
    conv => lhs; rw [e, subR, subRs_flat, List.flatMap_map]
    rw [← e]
    congr 1
    refine flatMap_congr' fun k hk => ?_
    have := h.kid i hi k hk
    exact ih this.1 (by omega)
theorem toRF_nm (h : Wf F n rk) {i : Nat} (hi : i < n) : (toRF F rk i).nm = F.nm i := by rw [toRF_eq h hi]; rfl
theorem toRF_kids (h : Wf F n rk) {i : Nat} (hi : i < n) : (toRF F rk i).kids = (F.kids i).map (toRF F rk) := by rw [toRF_eq h hi]; rfl
end
theorem mem_nodes_lt {t : Tre} (h : treeErr t = 0) {j : Nat} (hj : j ∈ nodesF (frT t) (rkT t) 0) : j < t.ps.length :=
  subF_lt (frT_arb h).wf (treeErr_zero h).1 (Nat.le_refl _) ((mem_nodesF (frT_arb h).wf (treeErr_zero h).1 (Nat.le_refl _)).1 hj)
theorem subR_toR {t : Tre} (h : treeErr t = 0) : subR (toR t) = (nodesF (frT t) (rkT t) 0).map (toRF (frT t) (rkT t)) := subR_toRF (frT_arb h).wf (treeErr_zero h).1 (Nat.le_refl _)
theorem sizeR_toR {t : Tre} (h : treeErr t = 0) : sizeR (toR t) ≤ 64 := by
  rw [← subR_len, subR_toR h, List.length_map]
  have h1 := nodup_le (nodesF_nodup (frT_arb h) (R := t.ps.length) (fun i _ => rkT_le t i) (treeErr_zero h).1 (Nat.le_refl _)) (fun x hx => mem_nodes_lt h hx)
  have := (treeErr_zero h).2.1; omega
theorem nsR_toR {t : Tre} (h : treeErr t = 0) : nsR (toR t) = (nodesF (frT t) (rkT t) 0).map (gs t.ns) := by
  rw [nsR_sub, subR_toR h, List.map_map]
  refine List.map_congr_left fun j hj => ?_
  exact toRF_nm (frT_arb h).wf (mem_nodes_lt h hj)
theorem nErr_inn {ps : List Int} {ns : List ByteArray} {i : Nat} (h : nErr ps ns i = 0) (hi : isIn ps i = true) : (gs ns i).size = 0 := by
  unfold nErr at h
  rw [if_pos hi] at h
  split at h
  · assumption
  · cases h
theorem nErr_leaf {ps : List Int} {ns : List ByteArray} {i : Nat} (h : nErr ps ns i = 0) (hi : isIn ps i = false) : namedB (gs ns i).data.toList = true ∧ seenK ns i = false := by
  unfold nErr at h
  rw [hi, if_neg (by simp)] at h
  split at h
  · rename_i h1
    refine ⟨h1, ?_⟩
    cases hs : seenK ns i with
    | false => rfl
    | true => rw [hs] at h; cases h
  · cases h
/-- The rose tree of a valid tree is good. -/
theorem good_toR {t : Tre} (h : treeErr t = 0) : GoodR (toR t) := by
  obtain ⟨hp, hl, hn, hok, he⟩ := treeErr_zero h
  have hwf := (frT_arb h).wf
  refine ⟨fun s hs hk => ?_, fun s hs hk => ?_, ?_⟩
  · rw [subR_toR h] at hs
    obtain ⟨j, hj, rfl⟩ := List.mem_map.1 hs
    have hjn := mem_nodes_lt h hj
    rw [toRF_kids hwf hjn] at hk
    rw [toRF_nm hwf hjn]
    have : isIn t.ps j = true := (kids_isIn hok j).1 (fun e => hk (by rw [frT_kids, e]; rfl))
    exact nErr_inn (he j hjn) this
  · rw [subR_toR h] at hs
    obtain ⟨j, hj, rfl⟩ := List.mem_map.1 hs
    have hjn := mem_nodes_lt h hj
    rw [toRF_kids hwf hjn] at hk
    rw [toRF_nm hwf hjn]
    have : isIn t.ps j = false := by
      cases hb : isIn t.ps j with
      | false => rfl
      | true => exact absurd (List.map_eq_nil_iff.1 hk) ((kids_isIn hok j).2 hb)
    exact (nErr_leaf (he j hjn) this).1
  · unfold leafR
    rw [nsR_toR h, List.filter_map]
    have hnd := nodesF_nodup (frT_arb h) (R := t.ps.length) (fun i _ => rkT_le t i) hp (Nat.le_refl _)
    refine List.pairwise_map.2 (List.Pairwise.imp_of_mem ?_ (List.Pairwise.filter _ hnd))
    intro a b ha hb hne e
    have ha' := List.mem_filter.1 ha
    have hb' := List.mem_filter.1 hb
    have han := mem_nodes_lt h ha'.1
    have hbn := mem_nodes_lt h hb'.1
    have leaf : ∀ i, i < t.ps.length → (gs t.ns i).size ≠ 0 → (frT t).kids i = [] := fun i hi hs => by
      rw [frT_kids]
      cases hk : kidsL t.ps i with
      | nil => rfl
      | cons x l => exact absurd (nErr_inn (he i hi) ((kids_isIn hok i).1 (by rw [hk]; simp))) hs
    exact hne ((frT_arb h).names a b han hbn (leaf a han (by simpa using ha'.2)) (leaf b hbn (by simpa using hb'.2)) e)
/-- The canonical tree of a valid tree is valid; its rose tree is the sorted one; it is its own canonical tree. -/
theorem canT_ok {t : Tre} (h : treeErr t = 0) : treeErr (canT t) = 0 := by
  rw [canT_flat h]
  exact treeErr_flat (good_toR h).sort (by rw [sizeR_sort]; exact sizeR_toR h)
theorem toR_canT {t : Tre} (h : treeErr t = 0) : toR (canT t) = sortR (toR t) := by rw [canT_flat h, toR_flat]
theorem canT_idem {t : Tre} (h : treeErr t = 0) : canT (canT t) = canT t := by
  rw [canT_flat (canT_ok h), toR_canT h, sortR_idem, ← canT_flat h]
end Go.Proofs.YtgjcfkadioblfaaGreat
namespace Go.Proofs.YtgjcfkadioblfaaGreat
/-- Up from k, while above n. -/
def climb (ps : List Int) (n : Nat) : Nat → Nat → Nat
  | 0, k => k
  | d + 1, k => if n < k then climb ps n d (gi ps k).toNat else k
def hitB (ps : List Int) (n i : Nat) : Bool := decide (climb ps n i i = n)
/-- The number of a name of one letter. -/
def lvNum (s : ByteArray) : Int := IntKind.u8.wrap (((s.data.toList.getD 0 0).toNat : Int) - 65)
def lvOne (t : Tre) (n i : Nat) : List Int := if hitB t.ps n i && decide ((gs t.ns i).size = 1) then [lvNum (gs t.ns i)] else []
def lvK (t : Tre) (n : Nat) : Nat → List Int
  | 0 => []
  | m + 1 => lvK t n m ++ lvOne t n (n + m)
theorem lvK_len (t : Tre) (n : Nat) : ∀ m, (lvK t n m).length ≤ m
  | 0 => Nat.le_refl _
  | m + 1 => by
    have := lvK_len t n m
    rw [lvK, List.length_append]
    unfold lvOne
    split
    · simp; omega
    · simp; omega
theorem pOkB_par {ps : List Int} (h : pOkB ps = true) {k : Nat} (hk : k < ps.length) (h0 : 0 < k) : 0 ≤ gi ps k ∧ gi ps k < k := by
  have h1 := pOkB_at h hk
  unfold okp at h1
  rw [if_neg (by omega)] at h1
  simpa using h1
theorem climb_fuel {ps : List Int} (hp : pOkB ps = true) (n : Nat) : ∀ {d e k : Nat}, k < ps.length → k ≤ d → k ≤ e → climb ps n d k = climb ps n e k := by
  intro d
  induction d with
  | zero =>
    intro e k hl h1 h2
    obtain rfl : k = 0 := by omega
    cases e with
    | zero => rfl
    | succ e => simp [climb]
  | succ d ih =>
    intro e k hl h1 h2
    cases e with
    | zero =>
      obtain rfl : k = 0 := by omega
      simp [climb]
    | succ e =>
      rw [climb, climb]
      split
      · rename_i hnk
        have := pOkB_par hp hl (by omega)
        exact ih (by omega) (by omega) (by omega)
      · rfl
theorem climb_step {ps : List Int} (hp : pOkB ps = true) {n k : Nat} (hk : k < ps.length) (hn : n < k) : climb ps n k k = climb ps n (gi ps k).toNat (gi ps k).toNat := by
  have h1 := pOkB_par hp hk (by omega)
  obtain ⟨m, rfl⟩ : ∃ m, k = m + 1 := ⟨k - 1, by omega⟩
  rw [climb, if_pos hn]
  exact climb_fuel hp n (by omega) (by omega) (Nat.le_refl _)
theorem climb_stop {ps : List Int} {n k : Nat} (hn : ¬ n < k) : climb ps n k k = k := by
  cases k with
  | zero => rfl
  | succ k => rw [climb, if_neg hn]

/-- Node j lies below i: it is i, or lies below a child of i. -/
theorem hit_self {ps : List Int} (i : Nat) : hitB ps i i = true := by unfold hitB; rw [climb_stop (by omega)]; simp
theorem hit_le {ps : List Int} (_ : pOkB ps = true) {i : Nat} : ∀ {j : Nat}, j < ps.length → hitB ps i j = true → i ≤ j := by
  intro j
  induction j using Nat.strongRecOn with
  | ind j ih =>
    intro hj h
    by_cases e : i < j
    · omega
    · unfold hitB at h
      rw [climb_stop e] at h
      have : j = i := by simpa using h
      omega
theorem hit_step {ps : List Int} (hp : pOkB ps = true) {i j : Nat} (hj : j < ps.length) (hi : i < j) : hitB ps i j = hitB ps i (gi ps j).toNat := by
  unfold hitB; rw [climb_step hp hj hi]
theorem hit_kid {ps : List Int} (hp : pOkB ps = true) {i : Nat} : ∀ {j : Nat}, j < ps.length → (hitB ps i j = true ↔ j = i ∨ ∃ c, c < ps.length ∧ i < c ∧ gi ps c = (i : Int) ∧ hitB ps c j = true) := by
  intro j
  induction j using Nat.strongRecOn with
  | ind j ih =>
    intro hj
    by_cases e : i < j
    · have hpar := pOkB_par hp hj (by omega)
      have hpn : ((gi ps j).toNat : Int) = gi ps j := Int.toNat_of_nonneg hpar.1
      have hpl : (gi ps j).toNat < j := by omega
      rw [hit_step hp hj e, ih _ hpl (by omega)]
      constructor
      · rintro (h | ⟨c, h1, h2, h3, h4⟩)
        · exact .inr ⟨j, hj, e, by omega, hit_self j⟩
        · have := hit_le hp (show (gi ps j).toNat < ps.length by omega) h4
          exact .inr ⟨c, h1, h2, h3, by rw [hit_step hp hj (by omega)]; exact h4⟩
      · rintro (h | ⟨c, h1, h2, h3, h4⟩)
        · omega
        · have hcj := hit_le hp hj h4
          by_cases ec : c = j
          · subst ec; left; omega
          · right
            exact ⟨c, h1, h2, h3, by rw [hit_step hp hj (by omega)] at h4; exact h4⟩
    · unfold hitB
      rw [climb_stop e]
      constructor
      · intro h; left; simpa using h
      · rintro (h | ⟨c, h1, h2, h3, h4⟩)
        · simpa using h
        · have := hit_le hp hj h4; omega
mutual
/-- Below the i-th node lie the nodes of its part, and no others. -/
theorem psR_int : ∀ (r : RT) (n : Nat) (p : Int) (i : Nat) (s : RT), (subR r)[i]? = some s → i + sizeR s ≤ sizeR r ∧ (∀ j, i < j → j < i + sizeR s → ((n + i : Nat) : Int) ≤ gi (psR r n p) j) ∧ (∀ j, i + sizeR s ≤ j → j < sizeR r → gi (psR r n p) j < ((n + i : Nat) : Int) ∨ ((n + i + sizeR s : Nat) : Int) ≤ gi (psR r n p) j) ∧ (nsR r).drop i = nsR s ++ (nsR r).drop (i + sizeR s)
  | .node nm ks, n, p, 0, s, h => by
    rw [subR] at h
    obtain rfl : RT.node nm ks = s := by simpa using h
    refine ⟨by omega, fun j h1 h2 => ?_, fun j h1 h2 => by omega, ?_⟩
    · have := (psR_gi (.node nm ks) n p j h1 (by omega)).1; omega
    · rw [Nat.zero_add, ← nsR_len, List.drop_length, List.append_nil]; rfl
  | .node nm ks, n, p, i + 1, s, h => by
    rw [subR, List.getElem?_cons_succ] at h
    obtain ⟨h1, h2, h3, h4⟩ := psRs_int ks n (n + 1) i s (by omega) h
    have hg : ∀ j, gi (psR (.node nm ks) n p) (j + 1) = gi (psRs ks n (n + 1)) j := fun j => by rw [psR]; simp [gi]
    refine ⟨by rw [sizeR]; omega, fun j a b => ?_, fun j a b => ?_, ?_⟩
    · obtain ⟨m, rfl⟩ : ∃ m, j = m + 1 := ⟨j - 1, by omega⟩
      rw [hg]
      have := h2 m (by omega) (by omega); omega
    · obtain ⟨m, rfl⟩ : ∃ m, j = m + 1 := ⟨j - 1, by omega⟩
      rw [hg]
      rw [sizeR] at b
      have := h3 m (by omega) (by omega); omega
    · rw [nsR, List.drop_succ_cons, show i + 1 + sizeR s = (i + sizeR s) + 1 by omega, List.drop_succ_cons]; exact h4
theorem psRs_int : ∀ (rs : List RT) (own n : Nat) (i : Nat) (s : RT), own < n → (subRs rs)[i]? = some s → i + sizeR s ≤ sizeRs rs ∧ (∀ j, i < j → j < i + sizeR s → ((n + i : Nat) : Int) ≤ gi (psRs rs own n) j) ∧ (∀ j, i + sizeR s ≤ j → j < sizeRs rs → gi (psRs rs own n) j < ((n + i : Nat) : Int) ∨ ((n + i + sizeR s : Nat) : Int) ≤ gi (psRs rs own n) j) ∧ (nsRs rs).drop i = nsR s ++ (nsRs rs).drop (i + sizeR s)
  | [], _, _, _, _, _, h => by simp [subRs] at h
  | r :: rs, own, n, i, s, ho, h => by
    rw [subRs] at h
    have hlr := psR_len r n own
    have hsl := subR_len r
    have hnl := nsR_len r
    by_cases e : i < sizeR r
    · rw [List.getElem?_append_left (by omega)] at h
      obtain ⟨h1, h2, h3, h4⟩ := psR_int r n own i s h
      refine ⟨by rw [sizeRs]; omega, fun j a b => ?_, fun j a b => ?_, ?_⟩
      · rw [psRs, gi_app_l _ (by omega)]; exact h2 j a b
      · by_cases ej : j < sizeR r
        · rw [psRs, gi_app_l _ (by omega)]; exact h3 j a ej
        · obtain ⟨m, rfl⟩ : ∃ m, j = sizeR r + m := ⟨j - sizeR r, by omega⟩
          rw [sizeRs] at b
          have hg : gi (psRs (r :: rs) own n) (sizeR r + m) = gi (psRs rs own (n + sizeR r)) m := by rw [psRs, ← hlr]; exact gi_app_r _ _ _
          rw [hg]
          have hm : gi (psRs rs own (n + sizeR r)) m ∈ psRs rs own (n + sizeR r) := by
            have : m < (psRs rs own (n + sizeR r)).length := by rw [psRs_len]; omega
            simp [gi, this]
          rcases psRs_bd rs own (n + sizeR r) _ hm with q | ⟨q, _⟩
          · left; omega
          · right; omega
      · rw [nsRs, List.drop_append_of_le_length (by omega), h4, List.append_assoc, List.drop_append_of_le_length (by omega)]
    · rw [List.getElem?_append_right (by omega), hsl] at h
      obtain ⟨h1, h2, h3, h4⟩ := psRs_int rs own (n + sizeR r) (i - sizeR r) s (by omega) h
      have hg : ∀ m, gi (psRs (r :: rs) own n) (sizeR r + m) = gi (psRs rs own (n + sizeR r)) m := fun m => by rw [psRs, ← hlr]; exact gi_app_r _ _ _
      refine ⟨by rw [sizeRs]; omega, fun j a b => ?_, fun j a b => ?_, ?_⟩
      · obtain ⟨m, rfl⟩ : ∃ m, j = sizeR r + m := ⟨j - sizeR r, by omega⟩
        rw [hg]
        have := h2 m (by omega) (by omega); omega
      · obtain ⟨m, rfl⟩ : ∃ m, j = sizeR r + m := ⟨j - sizeR r, by omega⟩
        rw [hg]
        rw [sizeRs] at b
        have := h3 m (by omega) (by omega); omega
      · obtain ⟨q, rfl⟩ : ∃ q, i = sizeR r + q := ⟨i - sizeR r, by omega⟩
        rw [show sizeR r + q - sizeR r = q by omega] at h4
        have hd : ∀ q, (nsRs (r :: rs)).drop (sizeR r + q) = (nsRs rs).drop q := fun q => by
          rw [nsRs, ← hnl, ← List.drop_drop, List.drop_left']; rfl
        rw [hd, h4, show sizeR r + q + sizeR s = sizeR r + (q + sizeR s) by omega, hd]
end
theorem hit_flat {r : RT} {i : Nat} {s : RT} (h : (subR r)[i]? = some s) : ∀ {j : Nat}, j < sizeR r → hitB (flat r).ps i j = decide (i ≤ j ∧ j < i + sizeR s) := by
  obtain ⟨h1, h2, h3, _⟩ := psR_int r 0 (-1) i s h
  have hp := pOk_flat r
  have hs := sizeR_pos s
  have hl := flat_ps r
  intro j
  induction j using Nat.strongRecOn with
  | ind j ih =>
    intro hj
    by_cases e : i < j
    · have hpar := pOkB_par hp (show j < (flat r).ps.length by omega) (by omega)
      rw [hit_step hp (by omega) e, ih _ (by omega) (by omega)]
      have hps : (flat r).ps = psR r 0 (-1) := rfl
      rw [hps] at hpar ⊢
      by_cases e2 : j < i + sizeR s
      · have := h2 j e e2
        rw [decide_eq_true (by omega), decide_eq_true (by omega)]
      · have := h3 j (by omega) hj
        rw [decide_eq_false (by omega), decide_eq_false (by omega)]
    · unfold hitB
      rw [climb_stop e]
      by_cases e2 : j = i
      · subst e2; rw [decide_eq_true rfl, decide_eq_true (by omega)]
      · rw [decide_eq_false e2, decide_eq_false (by omega)]
/-- The names of one letter among names, as numbers. -/
def oneN (l : List ByteArray) : List Int := (l.filter fun s => decide (s.size = 1)).map lvNum
theorem oneN_app (a b : List ByteArray) : oneN (a ++ b) = oneN a ++ oneN b := by unfold oneN; rw [List.filter_append, List.map_append]
theorem lvK_in {r : RT} {i : Nat} {s : RT} (h : (subR r)[i]? = some s) : ∀ m, m ≤ sizeR s → lvK (flat r) i m = oneN ((nsR s).take m)
  | 0, _ => by simp [lvK, oneN]
  | m + 1, hm => by
    obtain ⟨h1, _, _, h4⟩ := psR_int r 0 (-1) i s h
    have hsl := nsR_len s
    rw [lvK, lvK_in h m (by omega), List.take_succ_eq_append_getElem (show m < (nsR s).length by omega), oneN_app]
    congr 1
    have hh := hit_flat h (show i + m < sizeR r by omega)
    rw [decide_eq_true (by omega)] at hh
    have hg : gs (flat r).ns (i + m) = (nsR s)[m]'(by omega) := by
      have h5 : (nsR r)[i + m]? = (nsR s)[m]? := by
        rw [← List.getElem?_drop, h4, List.getElem?_append_left (by omega)]
      show (nsR r).getD (i + m) _ = _
      rw [List.getD_eq_getElem?_getD, h5, List.getElem?_eq_getElem (by omega)]; rfl
    unfold lvOne
    rw [hh, hg, Bool.true_and]
    unfold oneN
    by_cases e : ((nsR s)[m]'(by omega)).size = 1
    · rw [if_pos (by simpa using e), List.filter_cons_of_pos (by simpa using e)]; rfl
    · rw [if_neg (by simpa using e), List.filter_cons_of_neg (by simpa using e)]; rfl
theorem lvK_out {r : RT} {i : Nat} {s : RT} (h : (subR r)[i]? = some s) : ∀ m, sizeR s ≤ m → i + m ≤ sizeR r → lvK (flat r) i m = oneN (nsR s)
  | 0, h1, _ => by have := sizeR_pos s; omega
  | m + 1, h1, h2 => by
    by_cases e : sizeR s = m + 1
    · rw [lvK_in h (m + 1) (by omega), List.take_of_length_le (by rw [nsR_len]; omega)]
    · rw [lvK, lvK_out h m (by omega) (by omega)]
      have hh := hit_flat h (show i + m < sizeR r by omega)
      rw [decide_eq_false (by omega)] at hh
      unfold lvOne
      rw [hh]; simp
theorem lvK_flat {r : RT} {i : Nat} {s : RT} (h : (subR r)[i]? = some s) : lvK (flat r) i ((flat r).ps.length - i) = oneN (nsR s) := by
  have h1 := (psR_int r 0 (-1) i s h).1
  have := sizeR_pos s
  rw [flat_ps]
  exact lvK_out h _ (by omega) (by omega)
end Go.Proofs.YtgjcfkadioblfaaGreat
namespace Go.Proofs
open Go.Shelf
def Tryz.sortZ_ren : Go.Shelf.Ren := ⟨fun | 5 => 48 | 8 => 99 | 7 => 101 | 19 => 138 | 20 => 139 | 10 => 140 | 11 => 141 | 12 => 142 | 13 => 143 | 14 => 144 | 15 => 145 | 16 => 146 | 17 => 147 | 18 => 148 | 30 => 172 | 31 => 167 | 32 => 168 | 33 => 173 | 34 => 174 | 35 => 175 | 40 => 184 | n => n, fun | 23 => 22 | 25 => 3 | 3 => 3 | 32 => 133 | 22 => 22 | 0 => 0 | 44 => 172 | 46 => 74 | 4 => 4 | 36 => 165 | 35 => 164 | 41 => 89 | 5 => 5 | 9 => 9 | 53 => 193 | 57 => 197 | 63 => 204 | 64 => 205 | n => n, fun | n => n⟩
theorem Tryz.sortZ : Go.Proofs.SlLaysM.n5 Tryz.prog Tryz.sortZ_ren := {
  mixed := by kernel_rfl
  f5 := ⟨Tryz.f48.name, by decide, Tryz.func48.trans (congrArg some (by kernel_rfl))⟩
  f7 := ⟨Tryz.f101.name, by decide, Tryz.func101.trans (congrArg some (by kernel_rfl))⟩
  f8 := Tryz.func99.trans (congrArg some (by kernel_rfl))
  f10 := ⟨Tryz.f140.name, by decide, Tryz.func140.trans (congrArg some (by kernel_rfl))⟩
  f11 := ⟨Tryz.f141.name, by decide, Tryz.func141.trans (congrArg some (by kernel_rfl))⟩
  f12 := ⟨Tryz.f142.name, by decide, Tryz.func142.trans (congrArg some (by kernel_rfl))⟩
  f13 := ⟨Tryz.f143.name, by decide, Tryz.func143.trans (congrArg some (by kernel_rfl))⟩
  f14 := ⟨Tryz.f144.name, by decide, Tryz.func144.trans (congrArg some (by kernel_rfl))⟩
  f15 := ⟨Tryz.f145.name, by decide, Tryz.func145.trans (congrArg some (by kernel_rfl))⟩
  f16 := ⟨Tryz.f146.name, by decide, Tryz.func146.trans (congrArg some (by kernel_rfl))⟩
  f17 := ⟨Tryz.f147.name, by decide, Tryz.func147.trans (congrArg some (by kernel_rfl))⟩
  f18 := ⟨Tryz.f148.name, by decide, Tryz.func148.trans (congrArg some (by kernel_rfl))⟩
  f19 := Tryz.func138.trans (congrArg some (by kernel_rfl))
  f20 := Tryz.func139.trans (congrArg some (by kernel_rfl))
  f30 := ⟨Tryz.f172.name, by decide, Tryz.func172.trans (congrArg some (by kernel_rfl))⟩
  f31 := Tryz.func167.trans (congrArg some (by kernel_rfl))
  f32 := Tryz.func168.trans (congrArg some (by kernel_rfl))
  f33 := ⟨Tryz.f173.name, by decide, Tryz.func173.trans (congrArg some (by kernel_rfl))⟩
  f34 := ⟨Tryz.f174.name, by decide, Tryz.func174.trans (congrArg some (by kernel_rfl))⟩
  f35 := ⟨Tryz.f175.name, by decide, Tryz.func175.trans (congrArg some (by kernel_rfl))⟩
  f40 := ⟨Tryz.f184.name, by decide, Tryz.func184.trans (congrArg some (by kernel_rfl))⟩
  t0 := Tryz.underlying0
  a0 := Tryz.isAgg0
  z0 := Tryz.sizeOf0
  v0 := Tryz.zeroValue0
  t3 := Tryz.underlying3
  a3 := Tryz.isAgg3
  z3 := Tryz.sizeOf3
  v3 := Tryz.zeroValue3
  t4 := Tryz.underlying4
  a4 := Tryz.isAgg4
  z4 := Tryz.sizeOf4
  v4 := Tryz.zeroValue4
  t5 := Tryz.underlying5
  a5 := Tryz.isAgg5
  z5 := Tryz.sizeOf5
  v5 := Tryz.zeroValue5
  t9 := Tryz.underlying9
  a9 := Tryz.isAgg9
  z9 := Tryz.sizeOf9
  v9 := Tryz.zeroValue9
  t22 := Tryz.underlying22
  a22 := Tryz.isAgg22
  z22 := Tryz.sizeOf22
  v22 := Tryz.zeroValue22
  t23 := Tryz.underlying22
  a23 := Tryz.isAgg22
  z23 := Tryz.sizeOf22
  v23 := Tryz.zeroValue22
  t25 := Tryz.underlying3
  a25 := Tryz.isAgg3
  z25 := Tryz.sizeOf3
  v25 := Tryz.zeroValue3
  t32 := Tryz.underlying133
  a32 := Tryz.isAgg133
  z32 := Tryz.sizeOf133
  v32 := Tryz.zeroValue133
  t35 := Tryz.underlying164
  a35 := Tryz.isAgg164
  z35 := Tryz.sizeOf164
  v35 := Tryz.zeroValue164
  t36 := Tryz.underlying165
  a36 := Tryz.isAgg165
  z36 := Tryz.sizeOf165
  v36 := Tryz.zeroValue165
  t41 := Tryz.underlying89
  a41 := Tryz.isAgg89
  z41 := Tryz.sizeOf89
  v41 := Tryz.zeroValue89
  t44 := Tryz.underlying172
  a44 := Tryz.isAgg172
  z44 := Tryz.sizeOf172
  v44 := Tryz.zeroValue172
  t46 := Tryz.underlying74
  a46 := Tryz.isAgg74
  z46 := Tryz.sizeOf74
  v46 := Tryz.zeroValue74
  t53 := Tryz.underlying193
  a53 := Tryz.isAgg193
  z53 := Tryz.sizeOf193
  v53 := Tryz.zeroValue193
  t57 := Tryz.underlying197
  a57 := Tryz.isAgg197
  z57 := Tryz.sizeOf197
  v57 := Tryz.zeroValue197
  t63 := Tryz.underlying204
  a63 := Tryz.isAgg204
  z63 := Tryz.sizeOf204
  v63 := Tryz.zeroValue204
  t64 := Tryz.underlying205
  a64 := Tryz.isAgg205
  z64 := Tryz.sizeOf205
  v64 := Tryz.zeroValue205 }
end Go.Proofs
namespace Go.Proofs.YtgjcfkadioblfaaGreat
open Go.RowKit Go.Shelf Go.Deep Go.Sort
def sortL (xs : List Int) : List Int := xs.mergeSort fun x y => decide (x ≤ y)
theorem sortL_len (xs : List Int) : (sortL xs).length = xs.length := List.length_mergeSort _
set_option maxRecDepth 100000 in
theorem sort_t (w w1 : World) (v : Value) (xs : List Int) (hu : Up w w1) (ho : Owns w.heap.size 3 w1 v (xs.map (Value.int .i64))) (hlen : xs.length ≤ 1000000) :
    Calls Tryz.prog 48 #[v] w1 fun e w' => e = .returned (.tuple #[]) ∧ Up w w' ∧ Owns w.heap.size 3 w' v ((sortL xs).map (Value.int .i64)) := by
  rcases ho.2 with ⟨rfl, h0⟩ | ⟨g, cap, cur, rfl, hg, hc, hn, hcm, hcs, ht⟩
  · have hx : xs = [] := by cases xs with | nil => rfl | cons _ _ => simp at h0
    subst hx
    refine (AnyM.slices_Sort_int_none Tryz.sortZ none 0 w1).mono ?_
    rintro e w' ⟨rfl, rfl⟩
    exact ⟨rfl, hu, by unfold sortL; simpa using ho⟩
  · simp only [List.length_map] at hn ht ho ⊢
    refine (AnyM.slices_Sort_int Tryz.sortZ g 0 cap xs w1 (holds_of_blockI hc (by simpa using ht)) (Array.getElem?_eq_some_iff.1 hc).1 (by omega)).mono ?_
    rintro e w' ⟨rfl, n, os, rfl⟩
    refine ⟨rfl, Below.grown hu (grownBy_sortedI _) hu.size (fun j hj => by cases hj; exact hg), ?_⟩
    have h := ownsRow_sortedI (n := n) (os := os) (ss := xs) (ts := sortL xs) (sortL_len xs) hg hc hn hcm (by simpa using hcs)
    unfold Owns
    rw [List.length_map, sortL_len]
    exact h
end Go.Proofs.YtgjcfkadioblfaaGreat
namespace Go.Proofs.YtgjcfkadioblfaaGreat
open Go.RowKit Go.Deep
def lvL (t : Tre) (n : Nat) : List Int := sortL (lvK t n (t.ps.length - n))
theorem lvNum_at (s : ByteArray) (h : 0 < s.size) : lvNum s = (((s[0]'h).toNat : Int) - 65) % 256 := by
  unfold lvNum
  have h1 : s.data.toList.getD 0 0 = s[0]'h := by
    have h2 : 0 < s.data.toList.length := by simpa using h
    rw [List.getD_eq_getElem?_getD, List.getElem?_eq_getElem h2]; rfl
  rw [h1]
  simp [IntKind.wrap_u8]
def LwPost (w : World) (t : Tre) (n : Nat) (e : Ending) (w' : World) : Prop := Up w w' ∧ ∃ v, e = .returned v ∧ Owns w.heap.size 3 w' v ((lvL t n).map (Value.int .i64))
set_option maxRecDepth 100000 in
set_option maxHeartbeats 2000000 in
theorem lvs_t (S : Nat → Prop) (w : World) (v : Value) (t : Tre) (n : Nat) (h : TreeAt S w v t) (hp : pOkB t.ps = true) (hl : t.ns.length = t.ps.length) (hn : n ≤ t.ps.length) (hz : t.ps.length ≤ 1000000) (hs : ∀ k, (gs t.ns k).size ≤ 70000) :
    Calls Tryz.prog 41 #[v, .int .i64 n] w (LwPost w t n) := by
  obtain ⟨P, N, rfl, hP, hN⟩ := h
  obtain ⟨pp, pc, rfl, _, _⟩ := SlAt.open hP
  obtain ⟨np, nc, rfl, _, _⟩ := SlAt.open hN
  have hP : IntsAt S w (.slice pp t.ps.length pc) t.ps := hP
  have hN : StrsAt S w (.slice np t.ns.length nc) t.ns := hN
  have hu := Up.alloc w (.cells #[.slice pp t.ps.length pc, .slice np t.ns.length nc] 25)
  have a0 := box2_0 w (.slice pp t.ps.length pc) (.slice np t.ns.length nc) 25
  have a1 := box2_1 w (.slice pp t.ps.length pc) (.slice np t.ns.length nc) 25
  have HP := Lib.hid (IntsAt.keep hP (hu.kept S))
  have HN := Lib.hid (StrsAt.keep hN (hu.kept S))
  have HU := Lib.hid hu
  have A0 := Lib.hid a0
  have A1 := Lib.hid a1
  have HNL := Lib.hid hl
  have HPO := Lib.hid hp
  have HSZ := Lib.hid hs
  have i0 : (0 : Int) ≤ (n : Int) := by omega
  clear hP hN hu hl hp hs
  go_enter Tryz.func41, Tryz.ntmps41
  go_wp2_with fail
  clear a0 a1
  generalize w.alloc (.cells #[.slice pp t.ps.length pc, .slice np t.ns.length nc] 25) = w1 at *
  go_loopw [5, 6, 7] (fun d i _ wr => ∃ m : Nat, n + m ≤ t.ps.length ∧ i = .int .i64 (n + m : Nat) ∧ Hid (Owns w1.heap.size 3 wr d ((lvK t n m).map (Value.int .i64))) ∧ Hid (Up w1 wr)) (fun _ i _ _ => t.ps.length - (intOf i).toNat)
  case atStart => exact ⟨0, by omega, rfl, Owns.nil _ _ _, Up.refl _⟩
  case round =>
    obtain ⟨m, hm, rfl, hD, hUr⟩ := hrel
    obtain ⟨wo, rfl⟩ : ∃ wo : World, wo = wr := ⟨_, rfl⟩
    obtain ⟨d, rfl⟩ : ∃ d : Value, d = u5 := ⟨_, rfl⟩
    have a0 := hUr.out.cell A0.out
    have a1 := hUr.out.cell A1.out
    by_cases hlt : n + m < t.ps.length
    · obtain ⟨i, hi⟩ : ∃ i, i = n + m := ⟨_, rfl⟩
      have hK : lvK t n (m + 1) = lvK t n m ++ lvOne t n i := by rw [lvK, hi]
      rw [← hi] at hlt ⊢
      have j1 : (0 : Int) ≤ (i : Int) := by omega
      have j2 : (i : Int) < (t.ps.length : Int) := by omega
      have HK := Lib.hid hK
      have HI := Lib.hid hi
      have HLT := Lib.hid hlt
      have HUW := Lib.hid hUr.out
      have HDW := Lib.hid hD.out
      have HLEN := Lib.hid (lvK_len t n m)
      clear hK hi hm hlt hUr hD a1
      go_wp2_with fail
      go_loop [7] (fun q => ∃ k : Nat, k ≤ i ∧ q = .int .i64 k ∧ Hid (climb t.ps n k k = climb t.ps n i i)) (fun q => (intOf q).toNat)
      case atStart => exact ⟨i, Nat.le_refl _, rfl, rfl⟩
      case round =>
        obtain ⟨k, hk, rfl, hc⟩ := hrel
        by_cases hnk : n < k
        · have hkl : k < t.ps.length := by have := HLT.out; omega
          have hpar := pOkB_par HPO.out hkl (by omega)
          have hst := climb_step HPO.out hkl hnk
          obtain ⟨b, off, rfl, hcell⟩ := ints_get (IntsAt.keep HP.out (HUW.out.kept S)) hkl
          have d1 : decide ((n : Int) < (k : Int)) = true := by simp; omega
          have d2 : decide ((k : Int) < (t.ps.length : Int)) = true := by simp; omega
          have j3 : (0 : Int) ≤ (k : Int) := by omega
          have j4 : (k : Int) < (t.ps.length : Int) := by omega
          obtain ⟨p, hp⟩ : ∃ p : Nat, gi t.ps k = p := ⟨(gi t.ps k).toNat, (Int.toNat_of_nonneg hpar.1).symm⟩
          rw [hp] at hcell hpar hst
          have HST : Hid (climb t.ps n p p = climb t.ps n i i) := by unfold Hid; rw [← hc.out, hst]; rfl
          have hpk : p < k := by omega
          clear hpar hst hp hc
          go_wp2_with fail
          go_round
          case rel => exact ⟨p, by omega, rfl, HST⟩
          case measure => simp [intOf]; omega
        · have d1 : decide ((n : Int) < (k : Int)) = false := by simp; omega
          have hck := hc.out
          rw [climb_stop hnk] at hck
          have HCK := Lib.hid hck
          have hsl : i < t.ns.length := by rw [HNL.out]; exact HLT.out
          obtain ⟨b, off, rfl, hcell⟩ := strs_get (StrsAt.keep HN.out (HUW.out.kept S)) hsl
          have a1 := HUW.out.cell A1.out
          have j3 : (i : Int) < (t.ns.length : Int) := by omega
          have hLO : lvOne t n i = if (decide (k = n) && decide ((gs t.ns i).size = 1)) = true then [lvNum (gs t.ns i)] else [] := by unfold lvOne hitB; rw [← hck]
          have HLO := Lib.hid hLO
          clear hc hck hLO
          have hll : ((lvK t n m).map (Value.int .i64)).length = (lvK t n m).length := List.length_map _
          have hl6 : (lvK t n m).length ≤ 1000000 := by have := HLEN.out; have := HLT.out; have := HI.out; omega
          have hwz := HUW.out.size
          have HLL := Lib.hid hll
          have HL6 := Lib.hid hl6
          clear hll hl6
          by_cases e1 : k = n
          · have d3 : ((k : Int) == (n : Int)) = true := by simp [e1]
            have HE := Lib.hid e1
            clear e1
            generalize gs t.ns i = s at *
            by_cases e2 : s.size = 1
            · have d4 : ((s.size : Int) == 1) = true := by simp [e2]
              have HN1 : Hid (lvK t n (m + 1) = lvK t n m ++ [lvNum s]) := by unfold Hid; rw [HK.out, HLO.out, HE.out, e2]; simp
              have hs0 : 0 < s.size := by omega
              have HLN := Lib.hid (lvNum_at s hs0)
              go_wp2_with (at_builtin; refine wpList_appM wo rfl _ _ 22 rfl w1.heap.size 3 (.int .i64 0) 8 Tryz.underlying22 Tryz.infoI rfl (by decide) HDW.out rfl (.int .i64 (((s[0]'hs0).toNat - 65) % 256)) _ rfl rfl rfl _ HLL.out HL6.out hwz ?_; intro g8 cap8 w8 hown1 hgr1 hbe1)
              go_roundw
              case rel => exact ⟨m + 1, by have := HLT.out; have := HI.out; omega, by have := HI.out; go_num, by unfold Hid; rw [HN1.out, List.map_append, List.map_cons, List.map_nil, HLN.out]; exact hown1, Below.trans HUW.out hbe1⟩
              case measure => have := HLT.out; simp [intOf]; omega
            · have d4 : ((s.size : Int) == 1) = false := by simp; omega
              have HN1 : Hid (lvK t n (m + 1) = lvK t n m) := by unfold Hid; rw [HK.out, HLO.out]; simp [e2]
              go_wp2_with fail
              go_roundw
              case rel => exact ⟨m + 1, by have := HLT.out; have := HI.out; omega, by have := HI.out; go_num, by unfold Hid; rw [HN1.out]; exact HDW.out, HUW.out⟩
              case measure => have := HLT.out; simp [intOf]; omega
          · have d3 : ((k : Int) == (n : Int)) = false := by simp; omega
            have HN1 : Hid (lvK t n (m + 1) = lvK t n m) := by unfold Hid; rw [HK.out, HLO.out]; simp [e1]
            clear e1
            go_wp2_with fail
            go_roundw
            case rel => exact ⟨m + 1, by have := HLT.out; have := HI.out; omega, by have := HI.out; go_num, by unfold Hid; rw [HN1.out]; exact HDW.out, HUW.out⟩
            case measure => have := HLT.out; simp [intOf]; omega
    · have hmn : n + m = t.ps.length := by omega
      have hLL : lvL t n = sortL (lvK t n m) := by unfold lvL; rw [show t.ps.length - n = m by omega]
      have HSO := Lib.hid (sort_t w1 wo d _ hUr.out hD.out (by have := lvK_len t n m; omega))
      rw [← hLL] at HSO
      clear hD hUr a1 hLL
      go_wp2_with fail
      refine HSO.out.mono ?_
      rintro e w9 ⟨rfl, hu9, ho9⟩
      have HU9 := Lib.hid hu9
      have HO9 := Lib.hid ho9
      clear hu9 ho9 HSO
      go_wp2_with fail
      go_ret
      exact ⟨HU.out.trans HU9.out, _, rfl, HO9.out.mono_base HU.out.size⟩
end Go.Proofs.YtgjcfkadioblfaaGreat
