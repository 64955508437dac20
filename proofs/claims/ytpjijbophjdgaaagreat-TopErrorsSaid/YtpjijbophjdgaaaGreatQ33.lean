/- The contracts of layer 35's reference's has, common, conflict. Sorted rose trees; the rose tree of a tree numbered depth first is the tree again. The law's names: A, B, .. The example of chapter 35: awake. Rose trees: all parts of one; when its numbering is a valid tree. slices.Equal at strings. The walk of SharederrorSupport. -/
import Derived.Test.YtpjijbophjdgaaaGreatQ30
import Derived.Test.YtpjijbophjdgaaaGreatQ9
import Derived.Test.YtpjijbophjdgaaaGreatQ31
import Derived.Test.YtpjijbophjdgaaaGreatQ32
import Derived.Test.YtpjijbophjdgaaaGreatQ12
import Derived.Laws.IdiomStrings
import Derived.Test.YtpjijbophjdgaaaGreatQ18
import Derived.Test.YtpjijbophjdgaaaGreatQ15
import Derived.Test.YtpjijbophjdgaaaGreatQ10
import Derived.Test.YtpjijbophjdgaaaGreatQ8
import Derived.Test.YtpjijbophjdgaaaGreatQ4
namespace Go.Proofs.YtpjijbophjdgaaaGreat
open Go.RowKit Go.Deep
end Go.Proofs.YtpjijbophjdgaaaGreat
namespace Go.Proofs.YtpjijbophjdgaaaGreat
def firstR : RT → ByteArray
  | .node nm [] => nm
  | .node _ (k :: _) => firstR k
def insR (a : RT) : List RT → List RT
  | [] => [a]
  | b :: l => if cmpS (firstR a) (firstR b) ≤ 0 then a :: b :: l else b :: insR a l
mutual
def sortR : RT → RT
  | .node nm ks => .node nm (sortRs ks)
def sortRs : List RT → List RT
  | [] => []
  | r :: rs => insR (sortR r) (sortRs rs)
end
theorem insR_map {f : Nat → ByteArray} {g : Nat → RT} {a : Nat} (ha : firstR (g a) = f a) : ∀ l : List Nat, (∀ k ∈ l, firstR (g k) = f k) → insR (g a) (l.map g) = (insB f a l).map g
  | [], _ => rfl
  | b :: l, h => by
    have hb := h b (by simp)
    rw [List.map_cons, insR, insB, ha, hb]
    unfold leB
    by_cases e : cmpS (f a) (f b) ≤ 0
    · rw [if_pos e, if_pos (by simpa using e)]; rfl
    · rw [if_neg e, if_neg (by simpa using e), insR_map ha l (fun k hk => h k (by simp [hk]))]; rfl
theorem mem_isrt {f : Nat → ByteArray} {l : List Nat} {k : Nat} : k ∈ isrt f l ↔ k ∈ l := by rw [← srtBy_eq]; exact (srtBy_perm f l).mem_iff
theorem sortRs_map {f : Nat → ByteArray} {h : Nat → RT} : ∀ l : List Nat, (∀ k ∈ l, firstR (sortR (h k)) = f k) → sortRs (l.map h) = (isrt f l).map fun k => sortR (h k)
  | [], _ => rfl
  | a :: l, hf => by
    rw [List.map_cons, sortRs, isrt, sortRs_map l (fun k hk => hf k (by simp [hk]))]
    exact insR_map (g := fun k => sortR (h k)) (hf a (by simp)) (isrt f l) (fun k hk => hf k (by simp [mem_isrt.1 hk]))
section
variable {F : Frs} {n : Nat} {rk : Nat → Nat}
theorem Wf.srt (h : Wf F n rk) (p : Nat → Bool) : Wf (F.srt rk p) n rk := ⟨fun i hi k hk => h.kid i hi k ((F.srt_perm rk p i).mem_iff.1 hk)⟩
theorem toRF_srt (h : Wf F n rk) (p : Nat → Bool) : ∀ {d i : Nat}, i < n → rk i ≤ d → (∀ j, subF F rk i j = true → p j = true) → toRF (F.srt rk p) rk i = sortR (toRF F rk i) ∧ firstR (sortR (toRF F rk i)) = lsF F rk i := by
  intro d
  have hkids : ∀ i, p i = true → (F.srt rk p).kids i = srtBy (lsF F rk) (F.kids i) := fun i hp => by
    show (if p i then _ else _ : List Nat) = _
    rw [if_pos hp]
  induction d with
  | zero =>
    intro i hi hd hp
    have hk : F.kids i = [] := by
      cases hk : F.kids i with
      | nil => rfl
      | cons k l => have := (h.kid i hi k (by rw [hk]; simp)).2; omega
    have hk2 : (F.srt rk p).kids i = [] := by rw [hkids i (hp i (subF_self h hi)), hk]; simp [srtBy]
    rw [toRF_eq (h.srt p) hi, toRF_eq h hi, lsF_eq h hi, hk, hk2]
    refine ⟨rfl, ?_⟩
    simp [srtBy, sortR, sortRs, firstR]
  | succ d ih =>
    intro i hi hd hp
    have hk2 := hkids i (hp i (subF_self h hi))
    have key : ∀ k ∈ F.kids i, toRF (F.srt rk p) rk k = sortR (toRF F rk k) ∧ firstR (sortR (toRF F rk k)) = lsF F rk k := fun k hk => by
      have hkk := h.kid i hi k hk
      exact ih hkk.1 (by omega) (fun j hj => hp j (subF_kid h hi hk hj))
    have hs : sortRs ((F.kids i).map (toRF F rk)) = (isrt (lsF F rk) (F.kids i)).map fun k => sortR (toRF F rk k) := sortRs_map _ (fun k hk => (key k hk).2)
    rw [toRF_eq (h.srt p) hi, toRF_eq h hi, lsF_eq h hi, hk2, srtBy_eq, sortR, hs]
    refine ⟨?_, ?_⟩
    · show RT.node (F.nm i) _ = _
      congr 1
      exact List.map_congr_left fun k hk => (key k (mem_isrt.1 hk)).1
    · cases hc : isrt (lsF F rk) (F.kids i) with
      | nil => rfl
      | cons k l =>
        rw [List.map_cons, firstR]
        exact (key k (mem_isrt.1 (by rw [hc]; simp))).2
end
def toR (t : Tre) : RT := toRF (frT t) (rkT t) 0
theorem canT_flat {t : Tre} (h : treeErr t = 0) : canT t = flat (sortR (toR t)) := by
  obtain ⟨hp, _⟩ := treeErr_zero h
  unfold canT
  rw [treeF_flat (canF_arb h) (R := t.ps.length) (fun i _ => rkT_le t i) hp]
  congr 1
  exact (toRF_srt (frT_arb h).wf _ hp (Nat.le_refl _) (fun j hj => by simpa using hj)).1
def kf (own : Nat) : List Int → Nat → List Nat
  | [], _ => []
  | p :: ps, b => if p = (own : Int) then b :: kf own ps (b + 1) else kf own ps (b + 1)
theorem kf_app (own : Nat) : ∀ (a c : List Int) (b : Nat), kf own (a ++ c) b = kf own a b ++ kf own c (b + a.length)
  | [], c, b => rfl
  | x :: a, c, b => by
    rw [List.cons_append, kf, kf, kf_app own a c (b + 1), List.length_cons, show b + 1 + a.length = b + (a.length + 1) by omega]
    split <;> rfl
theorem kf_none (own : Nat) : ∀ (a : List Int) (b : Nat), (∀ x ∈ a, x ≠ (own : Int)) → kf own a b = []
  | [], _, _ => rfl
  | x :: a, b, h => by rw [kf, if_neg (h x (by simp)), kf_none own a (b + 1) (fun y hy => h y (by simp [hy]))]
theorem kidsL_kf {ps : List Int} {n : Nat} (h : ∀ i, i < ps.length → gi ps i = n → n < i) : kidsL ps n = kf n ps 0 := by
  have key : ∀ k, k ≤ ps.length → kidsK ps n k = kf n (ps.take k) 0 := by
    intro k
    induction k with
    | zero => intro _; rfl
    | succ k ih =>
      intro hk
      rw [kidsK_succ, ih (by omega), List.take_succ_eq_append_getElem (show k < ps.length by omega), kf_app, List.length_take, Nat.min_eq_left (by omega)]
      have hg : gi ps k = ps[k] := by simp [gi, show k < ps.length by omega]
      congr 1
      by_cases e : gi ps k = n
      · rw [if_pos ⟨h k (by omega) e, e⟩, kf, if_pos (by rw [← hg]; exact e)]
        simp [kf]
      · rw [if_neg (fun q => e q.2), kf, if_neg (by rw [← hg]; exact e)]; rfl
  unfold kidsL
  rw [key _ (Nat.le_refl _), List.take_length]
mutual
theorem psR_bd : ∀ (r : RT) (n : Nat) (p x : Int), x ∈ psR r n p → x = p ∨ ((n : Int) ≤ x ∧ x < ((n + sizeR r : Nat) : Int))
  | .node _ ks, n, p, x, h => by
    rw [psR, List.mem_cons] at h
    rcases h with h | h
    · exact .inl h
    · right
      rw [sizeR]
      rcases psRs_bd ks n (n + 1) x h with h1 | ⟨h1, h2⟩
      · subst h1; exact ⟨by omega, by omega⟩
      · exact ⟨by omega, by omega⟩
theorem psRs_bd : ∀ (rs : List RT) (own n : Nat) (x : Int), x ∈ psRs rs own n → x = (own : Int) ∨ ((n : Int) ≤ x ∧ x < ((n + sizeRs rs : Nat) : Int))
  | [], _, _, _, h => by simp [psRs] at h
  | r :: rs, own, n, x, h => by
    rw [psRs, List.mem_append] at h
    rw [sizeRs]
    rcases h with h | h
    · rcases psR_bd r n own x h with h1 | ⟨h1, h2⟩
      · exact .inl h1
      · exact .inr ⟨h1, by omega⟩
    · rcases psRs_bd rs own (n + sizeR r) x h with h1 | ⟨h1, h2⟩
      · exact .inl h1
      · exact .inr ⟨by omega, by omega⟩
end
def hdR : List RT → Nat → List Nat
  | [], _ => []
  | r :: rs, n => n :: hdR rs (n + sizeR r)
theorem kf_psRs (own : Nat) : ∀ (rs : List RT) (n : Nat), own < n → kf own (psRs rs own n) n = hdR rs n
  | [], _, _ => rfl
  | .node nm ks :: rs, n, h => by
    rw [psRs, hdR, kf_app, psR_len, kf_psRs own rs _ (by omega), psR, kf, if_pos rfl]
    rw [kf_none own _ _ (fun x hx e => by
      rcases psRs_bd ks n (n + 1) x hx with h1 | ⟨h1, _⟩ <;> omega)]
    rfl
theorem sizeR_pos (r : RT) : 0 < sizeR r := by cases r; rw [sizeR]; omega
theorem gi_app_r (a b : List Int) (k : Nat) : gi (a ++ b) (a.length + k) = gi b k := by simp [gi, List.getElem?_append_right]
theorem gs_app_r (a b : List ByteArray) (k : Nat) : gs (a ++ b) (a.length + k) = gs b k := by simp [gs, List.getElem?_append_right]
theorem gi_app_l {a : List Int} (b : List Int) {k : Nat} (h : k < a.length) : gi (a ++ b) k = gi a k := by simp [gi, List.getElem?_append_left h]
theorem toRD_at : ∀ (d : Nat) (r : RT) (n : Nat) (p : Int) (t : Tre) (pre post : List Int) (nre nost : List ByteArray), sizeR r ≤ d → t.ps = pre ++ (psR r n p ++ post) → t.ns = nre ++ (nsR r ++ nost) → pre.length = n → nre.length = n → p < n → (∀ x ∈ pre, x < (n : Int)) → (∀ x ∈ post, x < (n : Int) ∨ ((n + sizeR r : Nat) : Int) ≤ x) → toRD (frT t) d n = r := by
  intro d
  induction d with
  | zero => intro r n p t pre post nre nost hd; have := sizeR_pos r; omega
  | succ d ih =>
    intro r n p t pre post nre nost hd hps hns hpl hnl hp hpre hpost
    obtain ⟨nm, ks⟩ := r
    rw [sizeR] at hd hpost
    rw [psR, List.cons_append] at hps
    rw [nsR, List.cons_append] at hns
    have hk : (frT t).kids n = hdR ks (n + 1) := by
      rw [frT_kids, kidsL_kf]
      · rw [hps, kf_app, kf_none n pre 0 (fun x hx e => by have := hpre x hx; omega), List.nil_append, kf, if_neg (by omega), kf_app, hpl, Nat.zero_add, kf_psRs n ks (n + 1) (by omega), psRs_len]
        rw [kf_none n post _ (fun x hx e => by rcases hpost x hx with h1 | h1 <;> omega), List.append_nil]
      · intro i hi e
        rw [hps] at e
        rcases Nat.lt_trichotomy i n with h1 | h1 | h1
        · rw [gi_app_l _ (by omega)] at e
          have := hpre _ (gi_mem (l := pre) (k := i) (by omega)); omega
        · subst h1
          have h2 := gi_app_r pre (p :: (psRs ks i (i + 1) ++ post)) 0
          rw [hpl] at h2
          have h2 : gi (pre ++ p :: (psRs ks i (i + 1) ++ post)) i = p := h2
          rw [h2] at e
          have e : p = i := e
          omega
        · exact h1
    have hnm : (frT t).nm n = nm := by
      show gs t.ns n = nm
      rw [hns, ← hnl]
      exact gs_app_r nre (nm :: (nsRs ks ++ nost)) 0
    rw [toRD, hk, hnm]
    congr 1
    have key : ∀ (rs : List RT) (m : Nat) (pr : List Int) (nr : List ByteArray), sizeRs rs ≤ d → t.ps = pr ++ (psRs rs n m ++ post) → t.ns = nr ++ (nsRs rs ++ nost) → pr.length = m → nr.length = m → n < m → (∀ x ∈ pr, x < (m : Int)) → (∀ x ∈ post, x < (n : Int) ∨ ((m + sizeRs rs : Nat) : Int) ≤ x) → (hdR rs m).map (toRD (frT t) d) = rs := by
      intro rs
      induction rs with
      | nil => intros; rfl
      | cons r rs ihr =>
        intro m pr nr hd2 hps2 hns2 hpl2 hnl2 hm hpr hpo
        rw [sizeRs] at hd2 hpo
        rw [psRs, List.append_assoc] at hps2
        rw [nsRs, List.append_assoc] at hns2
        rw [hdR, List.map_cons]
        have h1 := ih r m n t pr (psRs rs n (m + sizeR r) ++ post) nr (nsRs rs ++ nost) (by omega) hps2 hns2 hpl2 hnl2 (by omega) hpr (fun x hx => by
          rcases List.mem_append.1 hx with hx | hx
          · rcases psRs_bd rs n (m + sizeR r) x hx with h2 | ⟨h2, _⟩
            · exact .inl (by omega)
            · exact .inr h2
          · rcases hpo x hx with h2 | h2
            · exact .inl (by omega)
            · exact .inr (by omega))
        have h2 := ihr (m + sizeR r) (pr ++ psR r m n) (nr ++ nsR r) (by omega) (by rw [hps2, List.append_assoc]) (by rw [hns2, List.append_assoc])
          (by rw [List.length_append, psR_len, hpl2]) (by rw [List.length_append, nsR_len, hnl2]) (by omega) (fun x hx => by
            rcases List.mem_append.1 hx with hx | hx
            · have := hpr x hx; omega
            · rcases psR_bd r m n x hx with h3 | ⟨_, h3⟩ <;> omega) (fun x hx => by
            rcases hpo x hx with h3 | h3
            · exact .inl h3
            · exact .inr (by omega))
        rw [h1, h2]
    exact key ks (n + 1) (pre ++ [p]) (nre ++ [nm]) (by omega) (by rw [hps, List.append_assoc]; rfl) (by rw [hns, List.append_assoc]; rfl) (by simp [hpl]) (by simp [hnl]) (by omega) (fun x hx => by
      rcases List.mem_append.1 hx with hx | hx
      · have := hpre x hx; omega
      · have : x = p := by simpa using hx
        omega) (fun x hx => by
      rcases hpost x hx with h3 | h3
      · exact .inl h3
      · exact .inr (by omega))
theorem flat_ps (r : RT) : (flat r).ps.length = sizeR r := psR_len r 0 (-1)
theorem flat_ns (r : RT) : (flat r).ns.length = sizeR r := nsR_len r
theorem toR_flat (r : RT) : toR (flat r) = r := by
  unfold toR toRF
  have h : rkT (flat r) 0 = sizeR r := by unfold rkT; rw [flat_ps, Nat.sub_zero]
  rw [h]
  exact toRD_at (sizeR r) r 0 (-1) (flat r) [] [] [] [] (Nat.le_refl _) (by simp [flat]) (by simp [flat]) rfl rfl (by omega) (fun x hx => by simp at hx) (fun x hx => by simp at hx)
end Go.Proofs.YtpjijbophjdgaaaGreat
namespace Go.Proofs.YtpjijbophjdgaaaGreat
open Go.RowKit Go.Deep
def nmLt (i : Nat) : ByteArray := ⟨#[UInt8.ofNat (65 + i)]⟩
def namesA (n : Nat) : List ByteArray := (List.range n).map nmLt
theorem namesA_succ (n : Nat) : namesA (n + 1) = namesA n ++ [nmLt n] := by unfold namesA; rw [List.range_succ, List.map_append]; rfl
theorem namesA_len (n : Nat) : (namesA n).length = n := by simp [namesA]
def NmPost (w : World) (n : Nat) (e : Ending) (w' : World) : Prop := Up w w' ∧ ∃ v, e = .returned v ∧ Owns w.heap.size 9 w' v ((namesA n).map Value.string)
end Go.Proofs.YtpjijbophjdgaaaGreat
namespace Go.Proofs.YtpjijbophjdgaaaGreat
open Go.RowKit Go.Deep
deriving instance DecidableEq for Grp
end Go.Proofs.YtpjijbophjdgaaaGreat
namespace Go.Proofs.YtpjijbophjdgaaaGreat
mutual
def subR : RT → List RT
  | .node nm ks => .node nm ks :: subRs ks
def subRs : List RT → List RT
  | [] => []
  | r :: rs => subR r ++ subRs rs
end
mutual
theorem subR_len : ∀ r : RT, (subR r).length = sizeR r
  | .node _ ks => by rw [subR, sizeR, List.length_cons, subRs_len ks]; omega
theorem subRs_len : ∀ rs : List RT, (subRs rs).length = sizeRs rs
  | [] => rfl
  | r :: rs => by rw [subRs, sizeRs, List.length_append, subR_len r, subRs_len rs]
end
mutual
theorem nsR_sub : ∀ r : RT, nsR r = (subR r).map RT.nm
  | .node nm ks => by rw [subR, nsR, List.map_cons, nsRs_sub ks]; rfl
theorem nsRs_sub : ∀ rs : List RT, nsRs rs = (subRs rs).map RT.nm
  | [] => rfl
  | r :: rs => by rw [subRs, nsRs, List.map_append, nsR_sub r, nsRs_sub rs]
end
theorem subRs_flat (rs : List RT) : subRs rs = rs.flatMap subR := by
  induction rs with
  | nil => rfl
  | cons r rs ih => rw [subRs, List.flatMap_cons, ih]
def AtR (t : Tre) (r : RT) (n : Nat) (p : Int) : Prop := ∃ pre post, t.ps = pre ++ (psR r n p ++ post) ∧ pre.length = n ∧ p < n ∧ (∀ x ∈ pre, x < (n : Int)) ∧ (∀ x ∈ post, x < (n : Int) ∨ ((n + sizeR r : Nat) : Int) ≤ x)
def AtRs (t : Tre) (rs : List RT) (own m : Nat) : Prop := ∃ pre post, t.ps = pre ++ (psRs rs own m ++ post) ∧ pre.length = m ∧ own < m ∧ (∀ x ∈ pre, x < (m : Int)) ∧ (∀ x ∈ post, x < (own : Int) ∨ ((m + sizeRs rs : Nat) : Int) ≤ x)
theorem AtR.kids {t : Tre} {nm : ByteArray} {ks : List RT} {n : Nat} {p : Int} (h : AtR t (.node nm ks) n p) : kidsL t.ps n = hdR ks (n + 1) ∧ AtRs t ks n (n + 1) := by
  obtain ⟨pre, post, hps, hpl, hp, hpre, hpost⟩ := h
  rw [sizeR] at hpost
  rw [psR, List.cons_append] at hps
  constructor
  · rw [kidsL_kf]
    · rw [hps, kf_app, kf_none n pre 0 (fun x hx e => by have := hpre x hx; omega), List.nil_append, kf, if_neg (by omega), kf_app, hpl, Nat.zero_add, kf_psRs n ks (n + 1) (by omega), psRs_len]
      rw [kf_none n post _ (fun x hx e => by rcases hpost x hx with h1 | h1 <;> omega), List.append_nil]
    · intro i hi e
      rw [hps] at e
      rcases Nat.lt_trichotomy i n with h1 | h1 | h1
      · rw [gi_app_l _ (by omega)] at e
        have := hpre _ (gi_mem (l := pre) (k := i) (by omega)); omega
      · subst h1
        have h2 := gi_app_r pre (p :: (psRs ks i (i + 1) ++ post)) 0
        rw [hpl] at h2
        have h2 : gi (pre ++ p :: (psRs ks i (i + 1) ++ post)) i = p := h2
        rw [h2] at e
        omega
      · exact h1
  · refine ⟨pre ++ [p], post, by rw [hps, List.append_assoc]; rfl, by simp [hpl], by omega, fun x hx => ?_, fun x hx => ?_⟩
    · rcases List.mem_append.1 hx with hx | hx
      · have := hpre x hx; omega
      · have : x = p := by simpa using hx
        omega
    · rcases hpost x hx with h3 | h3
      · exact .inl h3
      · exact .inr (by omega)
theorem AtRs.cons {t : Tre} {r : RT} {rs : List RT} {own m : Nat} (h : AtRs t (r :: rs) own m) : AtR t r m own ∧ AtRs t rs own (m + sizeR r) := by
  obtain ⟨pre, post, hps, hpl, hm, hpre, hpost⟩ := h
  rw [sizeRs] at hpost
  rw [psRs, List.append_assoc] at hps
  constructor
  · refine ⟨pre, _, hps, hpl, by omega, hpre, fun x hx => ?_⟩
    rcases List.mem_append.1 hx with hx | hx
    · rcases psRs_bd rs own (m + sizeR r) x hx with h2 | ⟨h2, _⟩
      · exact .inl (by omega)
      · exact .inr h2
    · rcases hpost x hx with h2 | h2
      · exact .inl (by omega)
      · exact .inr (by omega)
  · refine ⟨pre ++ psR r m own, post, by rw [hps, List.append_assoc], by rw [List.length_append, psR_len, hpl], by omega, fun x hx => ?_, fun x hx => ?_⟩
    · rcases List.mem_append.1 hx with hx | hx
      · have := hpre x hx; omega
      · rcases psR_bd r m own x hx with h3 | ⟨_, h3⟩ <;> omega
    · rcases hpost x hx with h3 | h3
      · exact .inl h3
      · exact .inr (by omega)
mutual
theorem kids_at {t : Tre} : ∀ (r : RT) (n : Nat) (p : Int), AtR t r n p → ∀ (i : Nat) (s : RT), (subR r)[i]? = some s → kidsL t.ps (n + i) = hdR s.kids (n + i + 1)
  | .node nm ks, n, p, h, i, s, hs => by
    rw [subR] at hs
    cases i with
    | zero =>
      have e : RT.node nm ks = s := by simpa using hs
      subst e
      exact h.kids.1
    | succ i =>
      rw [List.getElem?_cons_succ] at hs
      have := kidss_at ks n (n + 1) h.kids.2 i s hs
      rw [show n + (i + 1) = n + 1 + i by omega]; exact this
theorem kidss_at {t : Tre} : ∀ (rs : List RT) (own m : Nat), AtRs t rs own m → ∀ (i : Nat) (s : RT), (subRs rs)[i]? = some s → kidsL t.ps (m + i) = hdR s.kids (m + i + 1)
  | [], _, _, _, i, s, hs => by simp [subRs] at hs
  | r :: rs, own, m, h, i, s, hs => by
    rw [subRs] at hs
    by_cases hi : i < sizeR r
    · rw [List.getElem?_append_left (by rw [subR_len]; exact hi)] at hs
      exact kids_at r m own h.cons.1 i s hs
    · rw [List.getElem?_append_right (by rw [subR_len]; omega), subR_len] at hs
      have := kidss_at rs own (m + sizeR r) h.cons.2 (i - sizeR r) s hs
      rw [show m + sizeR r + (i - sizeR r) = m + i by omega] at this; exact this
end
theorem AtR.flat (r : RT) : AtR (flat r) r 0 (-1) := ⟨[], [], by simp [YtpjijbophjdgaaaGreat.flat], rfl, by omega, fun x hx => by simp at hx, fun x hx => by simp at hx⟩
theorem kids_flat {r : RT} {i : Nat} {s : RT} (h : (subR r)[i]? = some s) : kidsL (flat r).ps i = hdR s.kids (i + 1) := by
  have := kids_at r 0 (-1) (AtR.flat r) i s h
  simpa using this
mutual
theorem psR_gi : ∀ (r : RT) (n : Nat) (p : Int) (j : Nat), 0 < j → j < sizeR r → (n : Int) ≤ gi (psR r n p) j ∧ gi (psR r n p) j < ((n + j : Nat) : Int)
  | .node nm ks, n, p, j, h0, hj => by
    rw [sizeR] at hj
    obtain ⟨k, rfl⟩ : ∃ k, j = k + 1 := ⟨j - 1, by omega⟩
    have h := psRs_gi ks n (n + 1) k (by omega) (by omega)
    have e : gi (psR (.node nm ks) n p) (k + 1) = gi (psRs ks n (n + 1)) k := by rw [psR]; simp [gi]
    rw [e]
    exact ⟨h.1, by have := h.2; omega⟩
theorem psRs_gi : ∀ (rs : List RT) (own n j : Nat), own < n → j < sizeRs rs → (own : Int) ≤ gi (psRs rs own n) j ∧ gi (psRs rs own n) j < ((n + j : Nat) : Int)
  | [], _, _, _, _, h => by simp [sizeRs] at h
  | r :: rs, own, n, j, ho, hj => by
    rw [sizeRs] at hj
    rw [psRs]
    by_cases hr : j < sizeR r
    · rw [gi_app_l _ (by rw [psR_len]; exact hr)]
      by_cases h0 : j = 0
      · subst h0
        obtain ⟨nm, ks⟩ := r
        have e : gi (psR (.node nm ks) n own) 0 = own := by rw [psR]; simp [gi]
        rw [e]; exact ⟨by omega, by omega⟩
      · have h := psR_gi r n own j (by omega) hr
        exact ⟨by omega, h.2⟩
    · have h := psRs_gi rs own (n + sizeR r) (j - sizeR r) (by omega) (by omega)
      have e := gi_app_r (psR r n own) (psRs rs own (n + sizeR r)) (j - sizeR r)
      rw [psR_len, show sizeR r + (j - sizeR r) = j by omega] at e
      rw [e]
      exact ⟨h.1, by have := h.2; omega⟩
end
theorem pOk_flat (r : RT) : pOkB (flat r).ps = true := by
  refine pOkB_all fun j hj => ?_
  rw [flat_ps] at hj
  show okp j (gi (psR r 0 (-1)) j) = true
  unfold okp
  by_cases h0 : j = 0
  · subst h0
    obtain ⟨nm, ks⟩ := r
    rw [if_pos rfl, psR]; rfl
  · rw [if_neg h0]
    have h := psR_gi r 0 (-1) j (by omega) hj
    have h1 : 0 ≤ gi (psR r 0 (-1)) j := by have := h.1; omega
    have h2 : gi (psR r 0 (-1)) j < (j : Int) := by have := h.2; omega
    simp [h1, h2]
def leafR (r : RT) : List ByteArray := (nsR r).filter fun s => decide (s.size ≠ 0)
structure GoodR (r : RT) : Prop where
  inn : ∀ s ∈ subR r, s.kids ≠ [] → s.nm.size = 0
  lf : ∀ s ∈ subR r, s.kids = [] → namedB s.nm.data.toList = true
  nd : (leafR r).Nodup
theorem named_size {s : ByteArray} (h : namedB s.data.toList = true) : s.size ≠ 0 := by
  intro e
  have : s.data.toList = [] := by
    apply List.eq_nil_of_length_eq_zero
    simpa using e
  rw [this] at h
  revert h; decide
theorem treeErr_flat {r : RT} (h : GoodR r) (hs : sizeR r ≤ 64) : treeErr (flat r) = 0 := by
  unfold treeErr
  rw [flat_ps, flat_ns, if_neg (by have := sizeR_pos r; omega), if_neg (by omega), if_neg (by simp), if_pos (pOk_flat r)]
  refine firstNZ_zero fun i hi => ?_
  have hi2 : i < (subR r).length := by rw [subR_len]; exact hi
  obtain ⟨s, hsi⟩ : ∃ s, (subR r)[i]? = some s := ⟨_, List.getElem?_eq_getElem hi2⟩
  have hmem : s ∈ subR r := List.mem_of_getElem? hsi
  have hk := kids_flat hsi
  have hnm : gs (flat r).ns i = s.nm := by
    show gs (nsR r) i = _
    rw [nsR_sub]; simp [gs, hsi]
  have hin := kids_isIn (pOk_flat r) i
  unfold nErr
  rw [hnm]
  by_cases hks : s.kids = []
  · have h1 : isIn (flat r).ps i = false := by
      cases hb : isIn (flat r).ps i with
      | false => rfl
      | true => exact absurd (by rw [hk, hks]; rfl) (hin.2 hb)
    rw [h1, if_neg (by simp), if_pos (h.lf s hmem hks)]
    have h2 : seenK (flat r).ns i = false := by
      rw [Bool.eq_false_iff]; intro e
      obtain ⟨j, hj, e⟩ := List.any_eq_true.1 e
      have hj : j < i := List.mem_range.1 hj
      have e : gs (nsR r) j = gs (nsR r) i := of_decide_eq_true e
      have hpw := List.pairwise_filter.1 h.nd
      have hln := nsR_len r
      have h3 := List.pairwise_iff_getElem.1 hpw j i (by omega) (by omega) hj
      have hgj : gs (nsR r) j = (nsR r)[j]'(by omega) := by simp [gs, show j < (nsR r).length by omega]
      have hgi : gs (nsR r) i = (nsR r)[i]'(by omega) := by simp [gs, show i < (nsR r).length by omega]
      rw [← hgj, ← hgi, e] at h3
      have h4 : gs (nsR r) i = s.nm := hnm
      have h5 := named_size (h.lf s hmem hks)
      rw [h4] at h3
      exact h3 (by simpa using h5) (by simpa using h5) rfl
    rw [h2]; rfl
  · have h1 : isIn (flat r).ps i = true := hin.1 (by
      rw [hk]
      cases hq : s.kids with
      | nil => exact absurd hq hks
      | cons a l => simp [hdR])
    rw [h1, if_pos rfl, if_pos (h.inn s hmem hks)]
end Go.Proofs.YtpjijbophjdgaaaGreat
namespace Go.Proofs.YtpjijbophjdgaaaGreat
open Go.RowKit Go.Deep
end Go.Proofs.YtpjijbophjdgaaaGreat
namespace Go.Proofs.YtpjijbophjdgaaaGreat
open Go.RowKit Go.Deep
end Go.Proofs.YtpjijbophjdgaaaGreat
