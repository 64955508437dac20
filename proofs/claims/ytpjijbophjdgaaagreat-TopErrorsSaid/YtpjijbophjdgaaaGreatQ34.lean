/- The names of TopErrors: top35Names. Sorting rose trees keeps the parts; sorted twice is sorted once; the rose tree of a valid tree is good. Rose trees appended to a tree that is numbered depth first. Which nodes lie below a node of a tree that is numbered depth first. Rose trees of the reference's nodes, as they lie in memory; a node whose list of children grows. Forests whose nodes change below one node: plain. The tree that grow makes is a rose tree, numbered depth first. The contract of layer 31's reference's least. The contract of layer 31's reference's grow: the rose tree of a node. What Consistent computes: plain. The law's leaves. phylotree.pruned: what it does to the forest. -/
import Derived.Test.YtpjijbophjdgaaaGreatQ33
import Derived.Test.YtpjijbophjdgaaaGreatQ17
import Derived.Test.YtpjijbophjdgaaaGreatQ32
import Derived.Test.YtpjijbophjdgaaaGreatQ30
import Derived.Test.YtpjijbophjdgaaaGreatQ5
import Derived.Test.YtpjijbophjdgaaaGreatQ19
import Derived.Test.YtpjijbophjdgaaaGreatQ12
namespace Go.Proofs.YtpjijbophjdgaaaGreat
open Go.RowKit Go.Deep
set_option maxRecDepth 100000 in
set_option maxHeartbeats 1000000 in
theorem names35T_t (w : World) (n : Nat) (hn : n ≤ 64) : Calls Tryz.prog 21 #[.int .i64 n] w (NmPost w n) := by
  have i0 : (0 : Int) ≤ (n : Int) := by omega
  go_enter Tryz.func21, Tryz.ntmps21
  go_wp2_with fail
  go_loopw [3, 4, 6] (fun d _ i wr => ∃ k : Nat, k ≤ n ∧ i = .int .i64 k ∧ Hid (Owns w.heap.size 9 wr d ((namesA k).map Value.string)) ∧ Hid (Up w wr)) (fun _ _ i _ => n - (intOf i).toNat)
  case atStart => exact ⟨0, Nat.zero_le _, rfl, Owns.nil _ _ _, Up.refl _⟩
  case round =>
    obtain ⟨k, hk, rfl, hD, hU⟩ := hrel
    obtain ⟨wo, rfl⟩ : ∃ wo : World, wo = wr := ⟨_, rfl⟩
    obtain ⟨d, rfl⟩ : ∃ d : Value, d = u3 := ⟨_, rfl⟩
    by_cases hlt : k < n
    · have i1 : (0 : Int) ≤ (k : Int) := by omega
      have i2 : (k : Int) < (n : Int) := by omega
      have d1 : decide ((k : Int) < (n : Int)) = true := by simp; omega
      have hcv : (convert 95 9 (.slice (some ⟨wo.heap.size, 0, none⟩) 1 1)).run Tryz.prog (wo.alloc (.cells #[.int .u8 (65 + (k : Int))] 5)) = .ok (.string (nmLt k)) (wo.alloc (.cells #[.int .u8 (65 + (k : Int))] 5)) :=
        run_convert_bytes_back _ 95 9 5 ⟨wo.heap.size, 0, none⟩ 1 [UInt8.ofNat (65 + k)] Tryz.underlying95 Tryz.underlying5 Tryz.underlying9 (fun j hj => by
          obtain rfl : j = 0 := by simp at hj; omega
          show (wo.alloc _).cell? ⟨wo.heap.size, 0, none⟩ = _
          rw [box1_0]
          have e : (UInt8.ofNat (65 + k)).toNat = 65 + k := by simp; omega
          show some (Value.int .u8 (65 + (k : Int))) = some (Value.int .u8 (((UInt8.ofNat (65 + k)).toNat : Nat) : Int))
          rw [e]; rfl)
      have HSN := Lib.hid (namesA_succ k)
      have hal := Up.alloc wo (.cells #[.int .u8 (65 + (k : Int))] 5)
      have HUA := Lib.hid (hU.out.trans hal)
      have HDA := Lib.hid (hD.out.kept fun b _ hb => Below.block hal b hb)
      have HLN : Hid (((namesA k).map Value.string).length = k) := by unfold Hid; rw [List.length_map, namesA_len]
      have hsz : (wo.alloc (.cells #[.int .u8 (65 + (k : Int))] 5)).heap.size = wo.heap.size + 1 := World.size_alloc _ _
      have hwz : w.heap.size ≤ (wo.alloc (.cells #[.int .u8 (65 + (k : Int))] 5)).heap.size := HUA.out.size
      clear hal
      go_wp2_with (at_builtin; refine wpList_appM (wo.alloc (.cells #[.int .u8 (65 + (k : Int))] 5)) rfl _ _ 43 rfl w.heap.size 9 (.string ⟨#[]⟩) 16 Tryz.underlying43 Tryz.infoStr2 rfl (by decide) HDA.out rfl (.string (nmLt k)) _ hsz rfl rfl k HLN.out (by omega) hwz ?_; intro g8 cap8 w8 hown1 hgr1 hbe1)
      go_roundw
      case rel => exact ⟨k + 1, by omega, by go_num, by unfold Hid; rw [HSN.out, List.map_append]; exact hown1, Below.trans HUA.out hbe1⟩
      case measure => simp [intOf]; omega
    · obtain rfl : k = n := by omega
      have d1 : decide ((k : Int) < (k : Int)) = false := by simp
      go_wp2_with fail
      go_ret
      exact ⟨hU.out, _, rfl, hD.out⟩
end Go.Proofs.YtpjijbophjdgaaaGreat
namespace Go.Proofs.YtpjijbophjdgaaaGreat
theorem insR_perm (a : RT) : ∀ l, (insR a l).Perm (a :: l)
  | [] => List.Perm.refl _
  | b :: l => by
    rw [insR]
    split
    · exact List.Perm.refl _
    · exact ((insR_perm a l).cons b).trans (List.Perm.swap a b l)
theorem sortRs_perm : ∀ l : List RT, (sortRs l).Perm (l.map sortR)
  | [] => List.Perm.refl _
  | r :: rs => by
    rw [sortRs, List.map_cons]
    exact (insR_perm _ _).trans ((sortRs_perm rs).cons _)
theorem sortR_kids (r : RT) : (sortR r).kids = sortRs r.kids := by cases r; rfl
theorem sortR_nm (r : RT) : (sortR r).nm = r.nm := by cases r; rfl
theorem sortRs_nil {l : List RT} : sortRs l = [] ↔ l = [] := by
  constructor
  · intro h
    have := (sortRs_perm l).length_eq
    rw [h, List.length_map] at this
    exact List.eq_nil_of_length_eq_zero this.symm
  · rintro rfl; rfl
theorem subRs_perm {l l' : List RT} (h : l.Perm l') : (subRs l).Perm (subRs l') := by
  rw [subRs_flat, subRs_flat]
  exact h.flatMap_right _
mutual
theorem subR_sort : ∀ r : RT, (subR (sortR r)).Perm ((subR r).map sortR)
  | .node nm ks => by
    rw [sortR, subR, subR, List.map_cons]
    refine List.Perm.cons _ ?_
    exact (subRs_perm (sortRs_perm ks)).trans (subRs_sort ks)
theorem subRs_sort : ∀ rs : List RT, (subRs (rs.map sortR)).Perm ((subRs rs).map sortR)
  | [] => List.Perm.refl _
  | r :: rs => by
    rw [List.map_cons, subRs, subRs, List.map_append]
    exact (subR_sort r).append (subRs_sort rs)
end
theorem sizeR_sort (r : RT) : sizeR (sortR r) = sizeR r := by
  have := (subR_sort r).length_eq
  rw [List.length_map, subR_len, subR_len] at this; exact this
theorem nsR_sort (r : RT) : (nsR (sortR r)).Perm (nsR r) := by
  rw [nsR_sub, nsR_sub]
  refine ((subR_sort r).map RT.nm).trans ?_
  rw [List.map_map]
  have : (RT.nm ∘ sortR) = RT.nm := funext sortR_nm
  rw [this]
theorem leafR_sort (r : RT) : (leafR (sortR r)).Perm (leafR r) := (nsR_sort r).filter _
theorem GoodR.sort {r : RT} (h : GoodR r) : GoodR (sortR r) := by
  refine ⟨fun s hs hk => ?_, fun s hs hk => ?_, (leafR_sort r).nodup_iff.2 h.nd⟩
  · obtain ⟨q, hq, rfl⟩ := List.mem_map.1 ((subR_sort r).mem_iff.1 hs)
    rw [sortR_kids] at hk
    rw [sortR_nm]
    exact h.inn q hq (fun e => hk (sortRs_nil.2 e))
  · obtain ⟨q, hq, rfl⟩ := List.mem_map.1 ((subR_sort r).mem_iff.1 hs)
    rw [sortR_kids] at hk
    rw [sortR_nm]
    exact h.lf q hq (sortRs_nil.1 hk)
section
variable {F : Frs} {n : Nat} {rk : Nat → Nat}
theorem subR_toRF (h : Wf F n rk) : ∀ {d i : Nat}, i < n → rk i ≤ d → subR (toRF F rk i) = (nodesF F rk i).map (toRF F rk) := by
  intro d
  induction d with
  | zero =>
    intro i hi hd
    have hk : F.kids i = [] := by
      cases hk : F.kids i with
      | nil => rfl
      | cons k l => have := (h.kid i hi k (by rw [hk]; simp)).2; omega
    rw [nodesF_eq h hi, hk]
    have e : toRF F rk i = .node (F.nm i) [] := by rw [toRF_eq h hi, hk]; rfl
    rw [e, subR, List.flatMap_nil, List.map_cons, e]; rfl
  | succ d ih =>
    intro i hi hd
    rw [nodesF_eq h hi, List.map_cons, List.map_flatMap]
    have e := toRF_eq h hi
    conv => lhs; rw [e, subR, subRs_flat, List.flatMap_map]
    rw [← e]
    congr 1
    refine flatMap_congr' fun k hk => ?_
    have := h.kid i hi k hk
    exact ih this.1 (by omega)
theorem toRF_nm (h : Wf F n rk) {i : Nat} (hi : i < n) : (toRF F rk i).nm = F.nm i := by rw [toRF_eq h hi]; rfl
theorem toRF_kids (h : Wf F n rk) {i : Nat} (hi : i < n) : (toRF F rk i).kids = (F.kids i).map (toRF F rk) := by rw [toRF_eq h hi]; rfl
end
theorem mem_nodes_lt {t : Tre} (h : treeErr t = 0) {j : Nat} (hj : j ∈ nodesF (frT t) (rkT t) 0) : j < t.ps.length :=
  subF_lt (frT_arb h).wf (treeErr_zero h).1 (Nat.le_refl _) ((mem_nodesF (frT_arb h).wf (treeErr_zero h).1 (Nat.le_refl _)).1 hj)
theorem subR_toR {t : Tre} (h : treeErr t = 0) : subR (toR t) = (nodesF (frT t) (rkT t) 0).map (toRF (frT t) (rkT t)) := subR_toRF (frT_arb h).wf (treeErr_zero h).1 (Nat.le_refl _)
theorem nsR_toR {t : Tre} (h : treeErr t = 0) : nsR (toR t) = (nodesF (frT t) (rkT t) 0).map (gs t.ns) := by
  rw [nsR_sub, subR_toR h, List.map_map]
  refine List.map_congr_left fun j hj => ?_
  exact toRF_nm (frT_arb h).wf (mem_nodes_lt h hj)
theorem nErr_inn {ps : List Int} {ns : List ByteArray} {i : Nat} (h : nErr ps ns i = 0) (hi : isIn ps i = true) : (gs ns i).size = 0 := by
  unfold nErr at h
  rw [if_pos hi] at h
  split at h
  · assumption
  · cases h
theorem nErr_leaf {ps : List Int} {ns : List ByteArray} {i : Nat} (h : nErr ps ns i = 0) (hi : isIn ps i = false) : namedB (gs ns i).data.toList = true ∧ seenK ns i = false := by
  unfold nErr at h
  rw [hi, if_neg (by simp)] at h
  split at h
  · rename_i h1
    refine ⟨h1, ?_⟩
    cases hs : seenK ns i with
    | false => rfl
    | true => rw [hs] at h; cases h
  · cases h
theorem good_toR {t : Tre} (h : treeErr t = 0) : GoodR (toR t) := by
  obtain ⟨hp, hl, hn, hok, he⟩ := treeErr_zero h
  have hwf := (frT_arb h).wf
  refine ⟨fun s hs hk => ?_, fun s hs hk => ?_, ?_⟩
  · rw [subR_toR h] at hs
    obtain ⟨j, hj, rfl⟩ := List.mem_map.1 hs
    have hjn := mem_nodes_lt h hj
    rw [toRF_kids hwf hjn] at hk
    rw [toRF_nm hwf hjn]
    have : isIn t.ps j = true := (kids_isIn hok j).1 (fun e => hk (by rw [frT_kids, e]; rfl))
    exact nErr_inn (he j hjn) this
  · rw [subR_toR h] at hs
    obtain ⟨j, hj, rfl⟩ := List.mem_map.1 hs
    have hjn := mem_nodes_lt h hj
    rw [toRF_kids hwf hjn] at hk
    rw [toRF_nm hwf hjn]
    have : isIn t.ps j = false := by
      cases hb : isIn t.ps j with
      | false => rfl
      | true => exact absurd (List.map_eq_nil_iff.1 hk) ((kids_isIn hok j).2 hb)
    exact (nErr_leaf (he j hjn) this).1
  · unfold leafR
    rw [nsR_toR h, List.filter_map]
    have hnd := nodesF_nodup (frT_arb h) (R := t.ps.length) (fun i _ => rkT_le t i) hp (Nat.le_refl _)
    refine List.pairwise_map.2 (List.Pairwise.imp_of_mem ?_ (List.Pairwise.filter _ hnd))
    intro a b ha hb hne e
    have ha' := List.mem_filter.1 ha
    have hb' := List.mem_filter.1 hb
    have han := mem_nodes_lt h ha'.1
    have hbn := mem_nodes_lt h hb'.1
    have leaf : ∀ i, i < t.ps.length → (gs t.ns i).size ≠ 0 → (frT t).kids i = [] := fun i hi hs => by
      rw [frT_kids]
      cases hk : kidsL t.ps i with
      | nil => rfl
      | cons x l => exact absurd (nErr_inn (he i hi) ((kids_isIn hok i).1 (by rw [hk]; simp))) hs
    exact hne ((frT_arb h).names a b han hbn (leaf a han (by simpa using ha'.2)) (leaf b hbn (by simpa using hb'.2)) e)
end Go.Proofs.YtpjijbophjdgaaaGreat
namespace Go.Proofs.YtpjijbophjdgaaaGreat
def Tre.app (t : Tre) (r : RT) (p : Int) : Tre := ⟨t.ps ++ psR r t.ps.length p, t.ns ++ nsR r⟩
def Tre.apps (t : Tre) (rs : List RT) (own : Nat) : Tre := ⟨t.ps ++ psRs rs own t.ps.length, t.ns ++ nsRs rs⟩
theorem psRs_app : ∀ (a b : List RT) (own n : Nat), psRs (a ++ b) own n = psRs a own n ++ psRs b own (n + sizeRs a)
  | [], _, _, _ => rfl
  | r :: a, b, own, n => by rw [List.cons_append, psRs, psRs, psRs_app a b own (n + sizeR r), sizeRs, List.append_assoc, Nat.add_assoc]
theorem nsRs_app : ∀ (a b : List RT), nsRs (a ++ b) = nsRs a ++ nsRs b
  | [], _ => rfl
  | r :: a, b => by rw [List.cons_append, nsRs, nsRs, nsRs_app a b, List.append_assoc]
theorem apps_nil (t : Tre) (own : Nat) : t.apps [] own = t := by simp [Tre.apps, psRs, nsRs]
theorem apps_apps (t : Tre) (a b : List RT) (own : Nat) : (t.apps a own).apps b own = t.apps (a ++ b) own := by
  unfold Tre.apps
  rw [psRs_app, nsRs_app, List.append_assoc, List.append_assoc, List.length_append, psRs_len]
theorem apps_app (t : Tre) (a : List RT) (r : RT) (own : Nat) : (t.apps a own).app r (own : Int) = t.apps (a ++ [r]) own := by
  rw [← apps_apps]
  simp [Tre.apps, Tre.app, psRs, nsRs]
end Go.Proofs.YtpjijbophjdgaaaGreat
namespace Go.Proofs.YtpjijbophjdgaaaGreat
def climb (ps : List Int) (n : Nat) : Nat → Nat → Nat
  | 0, k => k
  | d + 1, k => if n < k then climb ps n d (gi ps k).toNat else k
def hitB (ps : List Int) (n i : Nat) : Bool := decide (climb ps n i i = n)
theorem pOkB_par {ps : List Int} (h : pOkB ps = true) {k : Nat} (hk : k < ps.length) (h0 : 0 < k) : 0 ≤ gi ps k ∧ gi ps k < k := by
  have h1 := pOkB_at h hk
  unfold okp at h1
  rw [if_neg (by omega)] at h1
  simpa using h1
theorem climb_fuel {ps : List Int} (hp : pOkB ps = true) (n : Nat) : ∀ {d e k : Nat}, k < ps.length → k ≤ d → k ≤ e → climb ps n d k = climb ps n e k := by
  intro d
  induction d with
  | zero =>
    intro e k hl h1 h2
    obtain rfl : k = 0 := by omega
    cases e with
    | zero => rfl
    | succ e => simp [climb]
  | succ d ih =>
    intro e k hl h1 h2
    cases e with
    | zero =>
      obtain rfl : k = 0 := by omega
      simp [climb]
    | succ e =>
      rw [climb, climb]
      split
      · rename_i hnk
        have := pOkB_par hp hl (by omega)
        exact ih (by omega) (by omega) (by omega)
      · rfl
theorem climb_step {ps : List Int} (hp : pOkB ps = true) {n k : Nat} (hk : k < ps.length) (hn : n < k) : climb ps n k k = climb ps n (gi ps k).toNat (gi ps k).toNat := by
  have h1 := pOkB_par hp hk (by omega)
  obtain ⟨m, rfl⟩ : ∃ m, k = m + 1 := ⟨k - 1, by omega⟩
  rw [climb, if_pos hn]
  exact climb_fuel hp n (by omega) (by omega) (Nat.le_refl _)
theorem climb_stop {ps : List Int} {n k : Nat} (hn : ¬ n < k) : climb ps n k k = k := by
  cases k with
  | zero => rfl
  | succ k => rw [climb, if_neg hn]

theorem hit_self {ps : List Int} (i : Nat) : hitB ps i i = true := by unfold hitB; rw [climb_stop (by omega)]; simp
theorem hit_le {ps : List Int} (_ : pOkB ps = true) {i : Nat} : ∀ {j : Nat}, j < ps.length → hitB ps i j = true → i ≤ j := by
  intro j
  induction j using Nat.strongRecOn with
  | ind j ih =>
    intro hj h
    by_cases e : i < j
    · omega
    · unfold hitB at h
      rw [climb_stop e] at h
      have : j = i := by simpa using h
      omega
theorem hit_step {ps : List Int} (hp : pOkB ps = true) {i j : Nat} (hj : j < ps.length) (hi : i < j) : hitB ps i j = hitB ps i (gi ps j).toNat := by
  unfold hitB; rw [climb_step hp hj hi]
theorem hit_kid {ps : List Int} (hp : pOkB ps = true) {i : Nat} : ∀ {j : Nat}, j < ps.length → (hitB ps i j = true ↔ j = i ∨ ∃ c, c < ps.length ∧ i < c ∧ gi ps c = (i : Int) ∧ hitB ps c j = true) := by
  intro j
  induction j using Nat.strongRecOn with
  | ind j ih =>
    intro hj
    by_cases e : i < j
    · have hpar := pOkB_par hp hj (by omega)
      have hpn : ((gi ps j).toNat : Int) = gi ps j := Int.toNat_of_nonneg hpar.1
      have hpl : (gi ps j).toNat < j := by omega
      rw [hit_step hp hj e, ih _ hpl (by omega)]
      constructor
      · rintro (h | ⟨c, h1, h2, h3, h4⟩)
        · exact .inr ⟨j, hj, e, by omega, hit_self j⟩
        · have := hit_le hp (show (gi ps j).toNat < ps.length by omega) h4
          exact .inr ⟨c, h1, h2, h3, by rw [hit_step hp hj (by omega)]; exact h4⟩
      · rintro (h | ⟨c, h1, h2, h3, h4⟩)
        · omega
        · have hcj := hit_le hp hj h4
          by_cases ec : c = j
          · subst ec; left; omega
          · right
            exact ⟨c, h1, h2, h3, by rw [hit_step hp hj (by omega)] at h4; exact h4⟩
    · unfold hitB
      rw [climb_stop e]
      constructor
      · intro h; left; simpa using h
      · rintro (h | ⟨c, h1, h2, h3, h4⟩)
        · simpa using h
        · have := hit_le hp hj h4; omega
end Go.Proofs.YtpjijbophjdgaaaGreat
namespace Go.Proofs.YtpjijbophjdgaaaGreat
open Go.RowKit Go.Deep
def gr (rs : List RT) (k : Nat) : RT := rs.getD k (.node ByteArray.empty [])
end Go.Proofs.YtpjijbophjdgaaaGreat
namespace Go.Proofs.YtpjijbophjdgaaaGreat
section
variable {F G : Frs} {n : Nat} {rk : Nat → Nat}
end
end Go.Proofs.YtpjijbophjdgaaaGreat
namespace Go.Proofs.YtpjijbophjdgaaaGreat
def leafN (names : List ByteArray) (s : Nat) : RT := .node (gs names s) []
def leavesN (names : List ByteArray) (left k : Nat) : List RT := ((List.range k).filter fun s => left.testBit s).map (leafN names)
theorem leafK_eq (names : List ByteArray) (left own : Nat) (t : Tre) : ∀ s, leafK names left (own : Int) s t = t.apps (leavesN names left s) own
  | 0 => (apps_nil t own).symm
  | s + 1 => by
    rw [leafK, leafK_eq names left own t s]
    unfold leavesN
    rw [List.range_succ, List.filter_append, List.map_append]
    by_cases h : left.testBit s = true
    · rw [if_pos h, List.filter_cons_of_pos h, List.filter_nil, List.map_cons, List.map_nil, ← apps_app]
      simp [Tre.push, Tre.app, leafN, psR, psRs, nsR, nsRs]
    · rw [if_neg h, List.filter_cons_of_neg h, List.filter_nil, List.map_nil, List.append_nil]
def kidsI (inner : List Nat) (x k : Nat) : List Nat := (inner.take k).filter (isKid inner x)
theorem kidF_eq {g : Nat → Int → Tre → Tre} {gr : Nat → RT} (inner : List Nat) (x : Nat) (hg : ∀ y ∈ inner, isKid inner x y = true → ∀ (p : Int) (t : Tre), g y p t = t.app (gr y) p) (own : Nat) (t : Tre) :
    ∀ k, k ≤ inner.length → kidF g inner x (own : Int) k (x, t) = ((kidsI inner x k).foldl minus x, t.apps ((kidsI inner x k).map gr) own)
  | 0, _ => by rw [kidF]; simp [kidsI, apps_nil]
  | k + 1, hk => by
    have ih := kidF_eq inner x hg own t k (by omega)
    have hgn : gn inner k = inner[k]'(by omega) := by simp [gn, show k < inner.length by omega]
    have hki : kidsI inner x (k + 1) = kidsI inner x k ++ (if isKid inner x (gn inner k) then [gn inner k] else []) := by
      unfold kidsI
      rw [List.take_succ_eq_append_getElem (show k < inner.length by omega), List.filter_append, ← hgn]
      congr 1
      by_cases h : isKid inner x (gn inner k) = true
      · rw [if_pos h, List.filter_cons_of_pos h, List.filter_nil]
      · rw [if_neg h, List.filter_cons_of_neg h, List.filter_nil]
    rw [kidF, ih, hki]
    by_cases h : isKid inner x (gn inner k) = true
    · rw [if_pos h, if_pos h, hg _ (by rw [hgn]; exact List.getElem_mem _) h, apps_app, List.foldl_append, List.map_append]; rfl
    · rw [if_neg h, if_neg h, List.append_nil]
def kidsX (inner : List Nat) (x : Nat) : List Nat := inner.filter (isKid inner x)
def leftX (inner : List Nat) (x : Nat) : Nat := (kidsX inner x).foldl minus x
def growR (names : List ByteArray) (inner : List Nat) : Nat → Nat → RT
  | 0, _ => .node ByteArray.empty []
  | d + 1, x => .node ByteArray.empty ((kidsX inner x).map (growR names inner d) ++ leavesN names (leftX inner x) names.length)
theorem isKid_lt {inner : List Nat} {x y : Nat} (hx : U64 x) (hy : U64 y) (h : isKid inner x y = true) : y < x := by
  unfold isKid at h
  simp only [Bool.and_eq_true, decide_eq_true_eq] at h
  have := within_le hy hx h.1.2
  have := h.1.1
  omega
theorem growF_eq (names : List ByteArray) (inner : List Nat) (hi : ∀ y ∈ inner, U64 y) : ∀ (d x : Nat) (p : Int) (t : Tre), x < d → U64 x → growF names inner d x p t = t.app (growR names inner d x) p
  | 0, _, _, _, h, _ => by omega
  | d + 1, x, p, t, h, hx => by
    have hg : ∀ y ∈ inner, isKid inner x y = true → ∀ (p : Int) (t : Tre), growF names inner d y p t = t.app (growR names inner d y) p := fun y hy hk p t => by
      have := isKid_lt hx (hi y hy) hk
      exact growF_eq names inner hi d y p t (by omega) (hi y hy)
    rw [growF, kidF_eq inner x hg t.ps.length (t.push p ByteArray.empty) inner.length (Nat.le_refl _)]
    show leafK names _ _ _ _ = _
    rw [leafK_eq, apps_apps, growR]
    unfold kidsI
    rw [List.take_length]
    simp [Tre.apps, Tre.app, Tre.push, psR, nsR, kidsX, leftX]
theorem rawT_flat (names : List ByteArray) (l : List Grp) (hn : names.length ≤ 32) (hc : gcErr l = 0) : rawT names l = flat (growR names (innL l (allN names.length)) (allN names.length + 1) (allN names.length)) := by
  have hall : U64 (allN names.length) := by
    unfold U64 allN
    have : 2 ^ names.length ≤ 2 ^ 32 := Nat.pow_le_pow_right (by decide) hn
    omega
  unfold rawT
  rw [growF_eq names _ (fun y hy => by
    obtain ⟨j, hj, e⟩ := List.getElem_of_mem hy
    have := inn_u64 hc (allN names.length) l.length j (Nat.le_refl _)
    unfold innL at hj e
    simp only [gn, List.getD_eq_getElem?_getD, List.getElem?_eq_getElem hj, Option.getD_some] at this
    rw [e] at this; exact this) _ _ _ _ (by omega) hall]
  rfl
end Go.Proofs.YtpjijbophjdgaaaGreat
namespace Go.Proofs.YtpjijbophjdgaaaGreat
open Go.RowKit Go.Deep
end Go.Proofs.YtpjijbophjdgaaaGreat
namespace Go.Proofs.YtpjijbophjdgaaaGreat
open Go.RowKit Go.Deep
theorem ints_at {S : Nat → Prop} {w : World} {b off n cap : Nat} {xs : List Int} (h : IntsAt S w (.slice (some ⟨b, off, none⟩) n cap) xs) {k : Nat} (hk : k < xs.length) : w.cell? ⟨b, off + k, none⟩ = some (.int .i64 (gi xs k)) := by
  obtain ⟨b', o', e, hc⟩ := ints_get h hk
  injection e with e
  injection e with e1 e2
  subst e1; subst e2; exact hc
end Go.Proofs.YtpjijbophjdgaaaGreat
namespace Go.Proofs.YtpjijbophjdgaaaGreat
theorem lookup_putS {l : List (ByteArray × Value)} {k j : ByteArray} {v : Value} : (putS l k v).lookup j = if j = k then some v else l.lookup j := by
  unfold putS
  split
  · rename_i h
    have h0 : l.lookup k = none := by simpa using h
    rw [List.lookup_append]
    by_cases e : j = k
    · subst e; rw [if_pos rfl, h0]; simp [List.lookup, ba_self]
    · rw [if_neg e]
      have : List.lookup j [(k, v)] = none := by simp [List.lookup, ba_ne e]
      rw [this]; simp
  · rename_i h
    have h0 : (l.lookup k).isSome := by
      cases hl : l.lookup k with
      | none => rw [hl] at h; exact absurd rfl h
      | some x => rfl
    clear h
    induction l with
    | nil => cases h0
    | cons y l ih =>
      obtain ⟨y1, y2⟩ := y
      rw [List.map_cons]
      by_cases e1 : y1 = k
      · subst e1
        rw [if_pos rfl, List.lookup_cons]
        by_cases e : j = y1
        · subst e; rw [ba_self, if_pos rfl]
        · rw [ba_ne e, if_neg e, List.lookup_cons, ba_ne e]
          have hm : ∀ l : List (ByteArray × Value), List.lookup j (l.map fun x => if x.1 = y1 then (y1, v) else x) = List.lookup j l := by
            intro l
            induction l with
            | nil => rfl
            | cons z l ihl =>
              obtain ⟨z1, z2⟩ := z
              rw [List.map_cons]
              by_cases ez : z1 = y1
              · subst ez; rw [if_pos rfl, List.lookup_cons, ba_ne e, List.lookup_cons, ba_ne e]; exact ihl
              · rw [if_neg ez, List.lookup_cons, List.lookup_cons, ihl]
          exact hm l
      · rw [if_neg e1, List.lookup_cons, List.lookup_cons]
        rw [List.lookup_cons, ba_ne (fun h => e1 h.symm)] at h0
        by_cases e : j = y1
        · subst e; rw [ba_self, if_neg e1]
        · rw [ba_ne e]; exact ih h0
end Go.Proofs.YtpjijbophjdgaaaGreat
namespace Go.Proofs.YtpjijbophjdgaaaGreat
open Go.RowKit Go.Deep
end Go.Proofs.YtpjijbophjdgaaaGreat
namespace Go.Proofs.YtpjijbophjdgaaaGreat
open Go.RowKit Go.Deep
section
variable {P : Program} {ops : Array Oper} {rest : List Oper} {o : Oper} {a : Act} {Q : Exit → Act → World → Prop}
end
section
variable {n base : Nat} {A : Nat → Nat} {kv : Nat → Value} {F : Frs} {w w' w2 : World} {P : Nat → Bool} {rk : Nat → Nat}
end
end Go.Proofs.YtpjijbophjdgaaaGreat
