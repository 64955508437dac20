/- Rose trees: the tree of a forest below a node is the rose tree, numbered depth first. Sorted rose trees; the rose tree of a tree numbered depth first is the tree again. -/
import Derived.Test.YtpjijbophjdgaaaGreatQ14
namespace Go.Proofs.YtpjijbophjdgaaaGreat
inductive RT where
  | node (nm : ByteArray) (kids : List RT)
namespace RT
def nm : RT → ByteArray | .node n _ => n
def kids : RT → List RT | .node _ k => k
end RT
mutual
def sizeR : RT → Nat
  | .node _ ks => 1 + sizeRs ks
def sizeRs : List RT → Nat
  | [] => 0
  | r :: rs => sizeR r + sizeRs rs
end
mutual
def psR : RT → Nat → Int → List Int
  | .node _ ks, n, p => p :: psRs ks n (n + 1)
def psRs : List RT → Nat → Nat → List Int
  | [], _, _ => []
  | r :: rs, own, n => psR r n (own : Int) ++ psRs rs own (n + sizeR r)
end
mutual
def nsR : RT → List ByteArray
  | .node nm ks => nm :: nsRs ks
def nsRs : List RT → List ByteArray
  | [] => []
  | r :: rs => nsR r ++ nsRs rs
end
def flat (r : RT) : Tre := ⟨psR r 0 (-1), nsR r⟩
mutual
theorem psR_len : ∀ (r : RT) (n : Nat) (p : Int), (psR r n p).length = sizeR r
  | .node _ ks, n, p => by simp only [psR, sizeR, List.length_cons]; rw [psRs_len ks n (n + 1)]; omega
theorem psRs_len : ∀ (rs : List RT) (own n : Nat), (psRs rs own n).length = sizeRs rs
  | [], _, _ => rfl
  | r :: rs, own, n => by simp only [psRs, sizeRs, List.length_append]; rw [psR_len r n own, psRs_len rs own (n + sizeR r)]
end
mutual
theorem nsR_len : ∀ (r : RT), (nsR r).length = sizeR r
  | .node _ ks => by simp only [nsR, sizeR, List.length_cons]; rw [nsRs_len ks]; omega
theorem nsRs_len : ∀ (rs : List RT), (nsRs rs).length = sizeRs rs
  | [] => rfl
  | r :: rs => by simp only [nsRs, sizeRs, List.length_append]; rw [nsR_len r, nsRs_len rs]
end
def toRD (F : Frs) : Nat → Nat → RT
  | 0, i => .node (F.nm i) []
  | d + 1, i => .node (F.nm i) ((F.kids i).map (toRD F d))
def toRF (F : Frs) (rk : Nat → Nat) (i : Nat) : RT := toRD F (rk i) i
section
variable {F : Frs} {n : Nat} {rk : Nat → Nat}
theorem toRD_fuel (h : Wf F n rk) : ∀ {d e i : Nat}, i < n → rk i ≤ d → rk i ≤ e → toRD F d i = toRD F e i := by
  intro d
  induction d with
  | zero =>
    intro e i hi hd he
    have hk : F.kids i = [] := by
      cases hk : F.kids i with
      | nil => rfl
      | cons k l => have := (h.kid i hi k (by rw [hk]; simp)).2; omega
    cases e with
    | zero => rfl
    | succ e => simp [toRD, hk]
  | succ d ih =>
    intro e i hi hd he
    cases e with
    | zero =>
      have hk : F.kids i = [] := by
        cases hk : F.kids i with
        | nil => rfl
        | cons k l => have := (h.kid i hi k (by rw [hk]; simp)).2; omega
      simp [toRD, hk]
    | succ e =>
      simp only [toRD]
      congr 1
      refine List.map_congr_left fun k hk => ?_
      have := h.kid i hi k hk
      exact ih this.1 (by omega) (by omega)
theorem toRF_eq (h : Wf F n rk) {i : Nat} (hi : i < n) : toRF F rk i = .node (F.nm i) ((F.kids i).map (toRF F rk)) := by
  have h1 : toRF F rk i = toRD F (rk i + 1) i := toRD_fuel h hi (Nat.le_refl _) (Nat.le_succ _)
  rw [h1]
  simp only [toRD]
  congr 1
  refine List.map_congr_left fun k hk => ?_
  have := h.kid i hi k hk
  exact toRD_fuel h this.1 (by omega) (Nat.le_refl _)
theorem lookup_putI_ne {l : List (Option Nat × Int)} {k j : Option Nat} (v : Int) (h : j ≠ k) : (putI l k v).lookup j = l.lookup j := by
  have hne : (j == k) = false := by simpa using h
  unfold putI
  split
  · induction l with
    | nil => simp [List.lookup, hne]
    | cons x l ih =>
      rename_i hl
      obtain ⟨x1, x2⟩ := x
      rw [List.cons_append, List.lookup_cons, List.lookup_cons]
      cases hx : (j == x1)
      · refine ih ?_
        rw [List.lookup_cons] at hl
        cases hx2 : (k == x1)
        · rw [hx2] at hl; exact hl
        · rw [hx2] at hl; cases hl
      · rfl
  · have key : ∀ q : List (Option Nat × Int), List.lookup j (q.map (fun x => if x.1 = k then (k, v) else x)) = List.lookup j q := by
      intro q
      induction q with
      | nil => rfl
      | cons x l ih =>
        obtain ⟨x1, x2⟩ := x
        rw [List.map_cons, List.lookup_cons]
        by_cases e : x1 = k
        · subst e
          simp only [if_true]
          rw [List.lookup_cons, hne]; exact ih
        · rw [if_neg e, List.lookup_cons]
          cases (j == x1)
          · exact ih
          · rfl
    exact key l
theorem lookup_putI_new {l : List (Option Nat × Int)} {k : Option Nat} (v : Int) (h : l.lookup k = none) : (putI l k v).lookup k = some v := by
  unfold putI
  rw [h]
  simp only [Option.isNone_none, if_true]
  induction l with
  | nil => simp
  | cons x l ih =>
    obtain ⟨x1, x2⟩ := x
    rw [List.lookup_cons] at h
    rw [List.cons_append, List.lookup_cons]
    cases hx : (k == x1)
    · rw [hx] at h; exact ih h
    · rw [hx] at h; cases h
structure NumTo (s s' : Num) (ps : List Int) (ns : List ByteArray) (nd : List Nat) : Prop where
  ps : s'.ps = s.ps ++ ps
  ns : s'.ns = s.ns ++ ns
  old : ∀ k : Option Nat, (∀ j ∈ nd, k ≠ some j) → s'.mp.lookup k = s.mp.lookup k
theorem num_sub (h : Arb F n rk) {R : Nat} (hR : ∀ i, i < n → rk i ≤ R) : ∀ {d i : Nat} (p : Option Nat) (np : Int) (s : Num), i < n → rk i ≤ d → p ≠ some i → s.mp.lookup p = some np → (∀ j ∈ nodesF F rk i, s.mp.lookup (some j) = none) →
    NumTo s ((seqF F rk i p).foldl (numS F) s) (psR (toRF F rk i) s.ps.length np) (nsR (toRF F rk i)) (nodesF F rk i) := by
  intro d
  induction d with
  | zero =>
    intro i p np s hi hd hp hl hn
    have hk : F.kids i = [] := by
      cases hk : F.kids i with
      | nil => rfl
      | cons k l => have := (h.wf.kid i hi k (by rw [hk]; simp)).2; omega
    rw [seqF_eq h.wf hi, toRF_eq h.wf hi, nodesF_eq h.wf hi, hk]
    have hni := hn i (by rw [nodesF_eq h.wf hi]; simp)
    refine ⟨?_, ?_, fun k hk2 => lookup_putI_ne _ (hk2 i (by simp))⟩
    · show s.ps ++ [((putI s.mp (some i) _).lookup p).getD 0] = _
      rw [lookup_putI_ne _ hp, hl]; rfl
    · rfl
  | succ d ih =>
    intro i p np s hi hd hp hl hn
    rw [seqF_eq h.wf hi, toRF_eq h.wf hi, nodesF_eq h.wf hi]
    have hni := hn i (by rw [nodesF_eq h.wf hi]; simp)
    have hnd := nodesF_nodup h hR hi (Nat.le_refl (rk i))
    rw [nodesF_eq h.wf hi, List.nodup_cons] at hnd
    have key : ∀ (l : List Nat), (∀ k ∈ l, k ∈ F.kids i) → (l.flatMap fun k => nodesF F rk k).Nodup → (∀ k ∈ l, i ∉ nodesF F rk k) → ∀ (s2 : Num) (own : Nat), s2.mp.lookup (some i) = some (own : Int) → (∀ k ∈ l, ∀ j ∈ nodesF F rk k, s2.mp.lookup (some j) = none) →
        NumTo s2 ((l.flatMap fun k => seqF F rk k (some i)).foldl (numS F) s2) (psRs (l.map (toRF F rk)) own s2.ps.length) (nsRs (l.map (toRF F rk))) (l.flatMap fun k => nodesF F rk k) := by
      intro l
      induction l with
      | nil => intro _ _ _ s2 own _ _; exact ⟨by simp [psRs], by simp [nsRs], fun _ _ => rfl⟩
      | cons c l ihl =>
        intro hin hdl hil s2 own ho hno
        have hcc := h.wf.kid i hi c (hin c (by simp))
        rw [List.flatMap_cons, List.foldl_append, List.flatMap_cons]
        rw [List.flatMap_cons, List.nodup_append] at hdl
        have h1 := ih (some i) (own : Int) s2 hcc.1 (by omega) (fun e => by
          injection e with e
          have := hcc.2; rw [e] at this; omega) ho (hno c (by simp))
        have h2 := ihl (fun k hk => hin k (by simp [hk])) hdl.2.1 (fun k hk => hil k (by simp [hk])) ((seqF F rk c (some i)).foldl (numS F) s2) own
          ((h1.old (some i) (fun j hj e => by injection e with e; subst e; exact hil c (by simp) hj)).trans ho)
          (fun k hk j hj => (h1.old (some j) (fun j2 hj2 e => by
            injection e with e; subst e
            exact hdl.2.2 j hj2 j (List.mem_flatMap.2 ⟨k, hk, hj⟩) rfl)).trans (hno k (by simp [hk]) j hj))
        refine ⟨?_, ?_, fun k hk => ?_⟩
        · rw [h2.ps, h1.ps, List.map_cons, psRs, List.append_assoc, List.length_append, psR_len]
        · rw [h2.ns, h1.ns, List.map_cons, nsRs, List.append_assoc]
        · rw [h2.old k (fun j hj => hk j (by simp [hj])), h1.old k (fun j hj => hk j (by simp [hj]))]
    have hin : ∀ k ∈ F.kids i, i ∉ nodesF F rk k := fun k hk hm => hnd.1 (List.mem_flatMap.2 ⟨k, hk, hm⟩)
    have h3 := key (F.kids i) (fun k hk => hk) hnd.2 hin (numS F s (i, p)) s.ps.length (lookup_putI_new _ hni) (fun k hk j hj => by
      show (putI s.mp (some i) _).lookup (some j) = none
      rw [lookup_putI_ne _ (fun e => by injection e with e; subst e; exact hin k hk hj)]
      exact hn j (by rw [nodesF_eq h.wf hi]; exact List.mem_cons_of_mem _ (List.mem_flatMap.2 ⟨k, hk, hj⟩)))
    have hps : (numS F s (i, p)).ps = s.ps ++ [np] := by
      show s.ps ++ [((putI s.mp (some i) _).lookup p).getD 0] = _
      rw [lookup_putI_ne _ hp, hl]; rfl
    rw [List.foldl_cons]
    refine ⟨?_, ?_, fun k hk => ?_⟩
    · rw [h3.ps, hps, psR, List.append_assoc, List.length_append]; rfl
    · rw [h3.ns]
      show (s.ns ++ [F.nm i]) ++ _ = _
      rw [nsR, List.append_assoc]; rfl
    · rw [h3.old k (fun j hj => hk j (by simp [hj]))]
      exact lookup_putI_ne _ (hk i (by simp))
theorem treeF_flat (h : Arb F n rk) {R : Nat} (hR : ∀ i, i < n → rk i ≤ R) {i : Nat} (hi : i < n) : treeF F rk i = flat (toRF F rk i) := by
  have h1 := num_sub h hR (d := rk i) none (-1) num0 hi (Nat.le_refl _) (fun e => by cases e) rfl (fun j _ => rfl)
  unfold treeF flat numL
  rw [h1.ps, h1.ns]
  rfl
end
end Go.Proofs.YtpjijbophjdgaaaGreat
namespace Go.Proofs.YtpjijbophjdgaaaGreat
def firstR : RT → ByteArray
  | .node nm [] => nm
  | .node _ (k :: _) => firstR k
def insR (a : RT) : List RT → List RT
  | [] => [a]
  | b :: l => if cmpS (firstR a) (firstR b) ≤ 0 then a :: b :: l else b :: insR a l
mutual
def sortR : RT → RT
  | .node nm ks => .node nm (sortRs ks)
def sortRs : List RT → List RT
  | [] => []
  | r :: rs => insR (sortR r) (sortRs rs)
end
theorem insR_map {f : Nat → ByteArray} {g : Nat → RT} {a : Nat} (ha : firstR (g a) = f a) : ∀ l : List Nat, (∀ k ∈ l, firstR (g k) = f k) → insR (g a) (l.map g) = (insB f a l).map g
  | [], _ => rfl
  | b :: l, h => by
    have hb := h b (by simp)
    rw [List.map_cons, insR, insB, ha, hb]
    unfold leB
    by_cases e : cmpS (f a) (f b) ≤ 0
    · rw [if_pos e, if_pos (by simpa using e)]; rfl
    · rw [if_neg e, if_neg (by simpa using e), insR_map ha l (fun k hk => h k (by simp [hk]))]; rfl
theorem mem_isrt {f : Nat → ByteArray} {l : List Nat} {k : Nat} : k ∈ isrt f l ↔ k ∈ l := by rw [← srtBy_eq]; exact (srtBy_perm f l).mem_iff
theorem sortRs_map {f : Nat → ByteArray} {h : Nat → RT} : ∀ l : List Nat, (∀ k ∈ l, firstR (sortR (h k)) = f k) → sortRs (l.map h) = (isrt f l).map fun k => sortR (h k)
  | [], _ => rfl
  | a :: l, hf => by
    rw [List.map_cons, sortRs, isrt, sortRs_map l (fun k hk => hf k (by simp [hk]))]
    exact insR_map (g := fun k => sortR (h k)) (hf a (by simp)) (isrt f l) (fun k hk => hf k (by simp [mem_isrt.1 hk]))
section
variable {F : Frs} {n : Nat} {rk : Nat → Nat}
theorem Wf.srt (h : Wf F n rk) (p : Nat → Bool) : Wf (F.srt rk p) n rk := ⟨fun i hi k hk => h.kid i hi k ((F.srt_perm rk p i).mem_iff.1 hk)⟩
theorem toRF_srt (h : Wf F n rk) (p : Nat → Bool) : ∀ {d i : Nat}, i < n → rk i ≤ d → (∀ j, subF F rk i j = true → p j = true) → toRF (F.srt rk p) rk i = sortR (toRF F rk i) ∧ firstR (sortR (toRF F rk i)) = lsF F rk i := by
  intro d
  have hkids : ∀ i, p i = true → (F.srt rk p).kids i = srtBy (lsF F rk) (F.kids i) := fun i hp => by
    show (if p i then _ else _ : List Nat) = _
    rw [if_pos hp]
  induction d with
  | zero =>
    intro i hi hd hp
    have hk : F.kids i = [] := by
      cases hk : F.kids i with
      | nil => rfl
      | cons k l => have := (h.kid i hi k (by rw [hk]; simp)).2; omega
    have hk2 : (F.srt rk p).kids i = [] := by rw [hkids i (hp i (subF_self h hi)), hk]; simp [srtBy]
    rw [toRF_eq (h.srt p) hi, toRF_eq h hi, lsF_eq h hi, hk, hk2]
    refine ⟨rfl, ?_⟩
    simp [srtBy, sortR, sortRs, firstR]
  | succ d ih =>
    intro i hi hd hp
    have hk2 := hkids i (hp i (subF_self h hi))
    have key : ∀ k ∈ F.kids i, toRF (F.srt rk p) rk k = sortR (toRF F rk k) ∧ firstR (sortR (toRF F rk k)) = lsF F rk k := fun k hk => by
      have hkk := h.kid i hi k hk
      exact ih hkk.1 (by omega) (fun j hj => hp j (subF_kid h hi hk hj))
    have hs : sortRs ((F.kids i).map (toRF F rk)) = (isrt (lsF F rk) (F.kids i)).map fun k => sortR (toRF F rk k) := sortRs_map _ (fun k hk => (key k hk).2)
    rw [toRF_eq (h.srt p) hi, toRF_eq h hi, lsF_eq h hi, hk2, srtBy_eq, sortR, hs]
    refine ⟨?_, ?_⟩
    · show RT.node (F.nm i) _ = _
      congr 1
      exact List.map_congr_left fun k hk => (key k (mem_isrt.1 hk)).1
    · cases hc : isrt (lsF F rk) (F.kids i) with
      | nil => rfl
      | cons k l =>
        rw [List.map_cons, firstR]
        exact (key k (mem_isrt.1 (by rw [hc]; simp))).2
end
def toR (t : Tre) : RT := toRF (frT t) (rkT t) 0
theorem canT_flat {t : Tre} (h : treeErr t = 0) : canT t = flat (sortR (toR t)) := by
  obtain ⟨hp, _⟩ := treeErr_zero h
  unfold canT
  rw [treeF_flat (canF_arb h) (R := t.ps.length) (fun i _ => rkT_le t i) hp]
  congr 1
  exact (toRF_srt (frT_arb h).wf _ hp (Nat.le_refl _) (fun j hj => by simpa using hj)).1
def kf (own : Nat) : List Int → Nat → List Nat
  | [], _ => []
  | p :: ps, b => if p = (own : Int) then b :: kf own ps (b + 1) else kf own ps (b + 1)
theorem kf_app (own : Nat) : ∀ (a c : List Int) (b : Nat), kf own (a ++ c) b = kf own a b ++ kf own c (b + a.length)
  | [], c, b => rfl
  | x :: a, c, b => by
    rw [List.cons_append, kf, kf, kf_app own a c (b + 1), List.length_cons, show b + 1 + a.length = b + (a.length + 1) by omega]
    split <;> rfl
theorem kf_none (own : Nat) : ∀ (a : List Int) (b : Nat), (∀ x ∈ a, x ≠ (own : Int)) → kf own a b = []
  | [], _, _ => rfl
  | x :: a, b, h => by rw [kf, if_neg (h x (by simp)), kf_none own a (b + 1) (fun y hy => h y (by simp [hy]))]
theorem kidsL_kf {ps : List Int} {n : Nat} (h : ∀ i, i < ps.length → gi ps i = n → n < i) : kidsL ps n = kf n ps 0 := by
  have key : ∀ k, k ≤ ps.length → kidsK ps n k = kf n (ps.take k) 0 := by
    intro k
    induction k with
    | zero => intro _; rfl
    | succ k ih =>
      intro hk
      rw [kidsK_succ, ih (by omega), List.take_succ_eq_append_getElem (show k < ps.length by omega), kf_app, List.length_take, Nat.min_eq_left (by omega)]
      have hg : gi ps k = ps[k] := by simp [gi, show k < ps.length by omega]
      congr 1
      by_cases e : gi ps k = n
      · rw [if_pos ⟨h k (by omega) e, e⟩, kf, if_pos (by rw [← hg]; exact e)]
        simp [kf]
      · rw [if_neg (fun q => e q.2), kf, if_neg (by rw [← hg]; exact e)]; rfl
  unfold kidsL
  rw [key _ (Nat.le_refl _), List.take_length]
mutual
theorem psR_bd : ∀ (r : RT) (n : Nat) (p x : Int), x ∈ psR r n p → x = p ∨ ((n : Int) ≤ x ∧ x < ((n + sizeR r : Nat) : Int))
  | .node _ ks, n, p, x, h => by
    rw [psR, List.mem_cons] at h
    rcases h with h | h
    · exact .inl h
    · right
      rw [sizeR]
      rcases psRs_bd ks n (n + 1) x h with h1 | ⟨h1, h2⟩
      · subst h1; exact ⟨by omega, by omega⟩
      · exact ⟨by omega, by omega⟩
theorem psRs_bd : ∀ (rs : List RT) (own n : Nat) (x : Int), x ∈ psRs rs own n → x = (own : Int) ∨ ((n : Int) ≤ x ∧ x < ((n + sizeRs rs : Nat) : Int))
  | [], _, _, _, h => by simp [psRs] at h
  | r :: rs, own, n, x, h => by
    rw [psRs, List.mem_append] at h
    rw [sizeRs]
    rcases h with h | h
    · rcases psR_bd r n own x h with h1 | ⟨h1, h2⟩
      · exact .inl h1
      · exact .inr ⟨h1, by omega⟩
    · rcases psRs_bd rs own (n + sizeR r) x h with h1 | ⟨h1, h2⟩
      · exact .inl h1
      · exact .inr ⟨by omega, by omega⟩
end
def hdR : List RT → Nat → List Nat
  | [], _ => []
  | r :: rs, n => n :: hdR rs (n + sizeR r)
theorem kf_psRs (own : Nat) : ∀ (rs : List RT) (n : Nat), own < n → kf own (psRs rs own n) n = hdR rs n
  | [], _, _ => rfl
  | .node nm ks :: rs, n, h => by
    rw [psRs, hdR, kf_app, psR_len, kf_psRs own rs _ (by omega), psR, kf, if_pos rfl]
    rw [kf_none own _ _ (fun x hx e => by
      rcases psRs_bd ks n (n + 1) x hx with h1 | ⟨h1, _⟩ <;> omega)]
    rfl
theorem sizeR_pos (r : RT) : 0 < sizeR r := by cases r; rw [sizeR]; omega
theorem gi_app_r (a b : List Int) (k : Nat) : gi (a ++ b) (a.length + k) = gi b k := by simp [gi, List.getElem?_append_right]
theorem gi_app_l {a : List Int} (b : List Int) {k : Nat} (h : k < a.length) : gi (a ++ b) k = gi a k := by simp [gi, List.getElem?_append_left h]
theorem flat_ps (r : RT) : (flat r).ps.length = sizeR r := psR_len r 0 (-1)
theorem flat_ns (r : RT) : (flat r).ns.length = sizeR r := nsR_len r
end Go.Proofs.YtpjijbophjdgaaaGreat
