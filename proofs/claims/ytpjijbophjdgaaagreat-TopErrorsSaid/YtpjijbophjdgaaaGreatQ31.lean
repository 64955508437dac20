/- Rose trees: the tree of a forest below a node is the rose tree, numbered depth first. -/
import Derived.Test.YtpjijbophjdgaaaGreatQ28
import Derived.Test.YtpjijbophjdgaaaGreatQ30
namespace Go.Proofs.YtpjijbophjdgaaaGreat
inductive RT where
  | node (nm : ByteArray) (kids : List RT)
namespace RT
def nm : RT → ByteArray | .node n _ => n
def kids : RT → List RT | .node _ k => k
end RT
mutual
def sizeR : RT → Nat
  | .node _ ks => 1 + sizeRs ks
def sizeRs : List RT → Nat
  | [] => 0
  | r :: rs => sizeR r + sizeRs rs
end
mutual
def psR : RT → Nat → Int → List Int
  | .node _ ks, n, p => p :: psRs ks n (n + 1)
def psRs : List RT → Nat → Nat → List Int
  | [], _, _ => []
  | r :: rs, own, n => psR r n (own : Int) ++ psRs rs own (n + sizeR r)
end
mutual
def nsR : RT → List ByteArray
  | .node nm ks => nm :: nsRs ks
def nsRs : List RT → List ByteArray
  | [] => []
  | r :: rs => nsR r ++ nsRs rs
end
def flat (r : RT) : Tre := ⟨psR r 0 (-1), nsR r⟩
mutual
theorem psR_len : ∀ (r : RT) (n : Nat) (p : Int), (psR r n p).length = sizeR r
  | .node _ ks, n, p => by simp only [psR, sizeR, List.length_cons]; rw [psRs_len ks n (n + 1)]; omega
theorem psRs_len : ∀ (rs : List RT) (own n : Nat), (psRs rs own n).length = sizeRs rs
  | [], _, _ => rfl
  | r :: rs, own, n => by simp only [psRs, sizeRs, List.length_append]; rw [psR_len r n own, psRs_len rs own (n + sizeR r)]
end
mutual
theorem nsR_len : ∀ (r : RT), (nsR r).length = sizeR r
  | .node _ ks => by simp only [nsR, sizeR, List.length_cons]; rw [nsRs_len ks]; omega
theorem nsRs_len : ∀ (rs : List RT), (nsRs rs).length = sizeRs rs
  | [] => rfl
  | r :: rs => by simp only [nsRs, sizeRs, List.length_append]; rw [nsR_len r, nsRs_len rs]
end
def toRD (F : Frs) : Nat → Nat → RT
  | 0, i => .node (F.nm i) []
  | d + 1, i => .node (F.nm i) ((F.kids i).map (toRD F d))
def toRF (F : Frs) (rk : Nat → Nat) (i : Nat) : RT := toRD F (rk i) i
section
variable {F : Frs} {n : Nat} {rk : Nat → Nat}
theorem toRD_fuel (h : Wf F n rk) : ∀ {d e i : Nat}, i < n → rk i ≤ d → rk i ≤ e → toRD F d i = toRD F e i := by
  intro d
  induction d with
  | zero =>
    intro e i hi hd he
    have hk : F.kids i = [] := by
      cases hk : F.kids i with
      | nil => rfl
      | cons k l => have := (h.kid i hi k (by rw [hk]; simp)).2; omega
    cases e with
    | zero => rfl
    | succ e => simp [toRD, hk]
  | succ d ih =>
    intro e i hi hd he
    cases e with
    | zero =>
      have hk : F.kids i = [] := by
        cases hk : F.kids i with
        | nil => rfl
        | cons k l => have := (h.kid i hi k (by rw [hk]; simp)).2; omega
      simp [toRD, hk]
    | succ e =>
      simp only [toRD]
      congr 1
      refine List.map_congr_left fun k hk => ?_
      have := h.kid i hi k hk
      exact ih this.1 (by omega) (by omega)
theorem toRF_eq (h : Wf F n rk) {i : Nat} (hi : i < n) : toRF F rk i = .node (F.nm i) ((F.kids i).map (toRF F rk)) := by
  have h1 : toRF F rk i = toRD F (rk i + 1) i := toRD_fuel h hi (Nat.le_refl _) (Nat.le_succ _)
  rw [h1]
  simp only [toRD]
  congr 1
  refine List.map_congr_left fun k hk => ?_
  have := h.kid i hi k hk
  exact toRD_fuel h this.1 (by omega) (Nat.le_refl _)
theorem lookup_putI_ne {l : List (Option Nat × Int)} {k j : Option Nat} (v : Int) (h : j ≠ k) : (putI l k v).lookup j = l.lookup j := by
  have hne : (j == k) = false := by simpa using h
  unfold putI
  split
  · induction l with
    | nil => simp [List.lookup, hne]
    | cons x l ih =>
      rename_i hl
      obtain ⟨x1, x2⟩ := x
      rw [List.cons_append, List.lookup_cons, List.lookup_cons]
      cases hx : (j == x1)
      · refine ih ?_
        rw [List.lookup_cons] at hl
        cases hx2 : (k == x1)
        · rw [hx2] at hl; exact hl
        · rw [hx2] at hl; cases hl
      · rfl
  · have key : ∀ q : List (Option Nat × Int), List.lookup j (q.map (fun x => if x.1 = k then (k, v) else x)) = List.lookup j q := by
      intro q
      induction q with
      | nil => rfl
      | cons x l ih =>
        obtain ⟨x1, x2⟩ := x
        rw [List.map_cons, List.lookup_cons]
        by_cases e : x1 = k
        · subst e
          simp only [if_true]
          rw [List.lookup_cons, hne]; exact ih
        · rw [if_neg e, List.lookup_cons]
          cases (j == x1)
          · exact ih
          · rfl
    exact key l
theorem lookup_putI_new {l : List (Option Nat × Int)} {k : Option Nat} (v : Int) (h : l.lookup k = none) : (putI l k v).lookup k = some v := by
  unfold putI
  rw [h]
  simp only [Option.isNone_none, if_true]
  induction l with
  | nil => simp
  | cons x l ih =>
    obtain ⟨x1, x2⟩ := x
    rw [List.lookup_cons] at h
    rw [List.cons_append, List.lookup_cons]
    cases hx : (k == x1)
    · rw [hx] at h; exact ih h
    · rw [hx] at h; cases h
structure NumTo (s s' : Num) (ps : List Int) (ns : List ByteArray) (nd : List Nat) : Prop where
  ps : s'.ps = s.ps ++ ps
  ns : s'.ns = s.ns ++ ns
  old : ∀ k : Option Nat, (∀ j ∈ nd, k ≠ some j) → s'.mp.lookup k = s.mp.lookup k
theorem num_sub (h : Arb F n rk) {R : Nat} (hR : ∀ i, i < n → rk i ≤ R) : ∀ {d i : Nat} (p : Option Nat) (np : Int) (s : Num), i < n → rk i ≤ d → p ≠ some i → s.mp.lookup p = some np → (∀ j ∈ nodesF F rk i, s.mp.lookup (some j) = none) →
    NumTo s ((seqF F rk i p).foldl (numS F) s) (psR (toRF F rk i) s.ps.length np) (nsR (toRF F rk i)) (nodesF F rk i) := by
  intro d
  induction d with
  | zero =>
    intro i p np s hi hd hp hl hn
    have hk : F.kids i = [] := by
      cases hk : F.kids i with
      | nil => rfl
      | cons k l => have := (h.wf.kid i hi k (by rw [hk]; simp)).2; omega
    rw [seqF_eq h.wf hi, toRF_eq h.wf hi, nodesF_eq h.wf hi, hk]
    have hni := hn i (by rw [nodesF_eq h.wf hi]; simp)
    refine ⟨?_, ?_, fun k hk2 => lookup_putI_ne _ (hk2 i (by simp))⟩
    · show s.ps ++ [((putI s.mp (some i) _).lookup p).getD 0] = _
      rw [lookup_putI_ne _ hp, hl]; rfl
    · rfl
  | succ d ih =>
    intro i p np s hi hd hp hl hn
    rw [seqF_eq h.wf hi, toRF_eq h.wf hi, nodesF_eq h.wf hi]
    have hni := hn i (by rw [nodesF_eq h.wf hi]; simp)
    have hnd := nodesF_nodup h hR hi (Nat.le_refl (rk i))
    rw [nodesF_eq h.wf hi, List.nodup_cons] at hnd
    have key : ∀ (l : List Nat), (∀ k ∈ l, k ∈ F.kids i) → (l.flatMap fun k => nodesF F rk k).Nodup → (∀ k ∈ l, i ∉ nodesF F rk k) → ∀ (s2 : Num) (own : Nat), s2.mp.lookup (some i) = some (own : Int) → (∀ k ∈ l, ∀ j ∈ nodesF F rk k, s2.mp.lookup (some j) = none) →
        NumTo s2 ((l.flatMap fun k => seqF F rk k (some i)).foldl (numS F) s2) (psRs (l.map (toRF F rk)) own s2.ps.length) (nsRs (l.map (toRF F rk))) (l.flatMap fun k => nodesF F rk k) := by
      intro l
      induction l with
      | nil => intro _ _ _ s2 own _ _; exact ⟨by simp [psRs], by simp [nsRs], fun _ _ => rfl⟩
      | cons c l ihl =>
        intro hin hdl hil s2 own ho hno
        have hcc := h.wf.kid i hi c (hin c (by simp))
        rw [List.flatMap_cons, List.foldl_append, List.flatMap_cons]
        rw [List.flatMap_cons, List.nodup_append] at hdl
        have h1 := ih (some i) (own : Int) s2 hcc.1 (by omega) (fun e => by
          injection e with e
          have := hcc.2; rw [e] at this; omega) ho (hno c (by simp))
        have h2 := ihl (fun k hk => hin k (by simp [hk])) hdl.2.1 (fun k hk => hil k (by simp [hk])) ((seqF F rk c (some i)).foldl (numS F) s2) own
          ((h1.old (some i) (fun j hj e => by injection e with e; subst e; exact hil c (by simp) hj)).trans ho)
          (fun k hk j hj => (h1.old (some j) (fun j2 hj2 e => by
            injection e with e; subst e
            exact hdl.2.2 j hj2 j (List.mem_flatMap.2 ⟨k, hk, hj⟩) rfl)).trans (hno k (by simp [hk]) j hj))
        refine ⟨?_, ?_, fun k hk => ?_⟩
        · rw [h2.ps, h1.ps, List.map_cons, psRs, List.append_assoc, List.length_append, psR_len]
        · rw [h2.ns, h1.ns, List.map_cons, nsRs, List.append_assoc]
        · rw [h2.old k (fun j hj => hk j (by simp [hj])), h1.old k (fun j hj => hk j (by simp [hj]))]
    have hin : ∀ k ∈ F.kids i, i ∉ nodesF F rk k := fun k hk hm => hnd.1 (List.mem_flatMap.2 ⟨k, hk, hm⟩)
    have h3 := key (F.kids i) (fun k hk => hk) hnd.2 hin (numS F s (i, p)) s.ps.length (lookup_putI_new _ hni) (fun k hk j hj => by
      show (putI s.mp (some i) _).lookup (some j) = none
      rw [lookup_putI_ne _ (fun e => by injection e with e; subst e; exact hin k hk hj)]
      exact hn j (by rw [nodesF_eq h.wf hi]; exact List.mem_cons_of_mem _ (List.mem_flatMap.2 ⟨k, hk, hj⟩)))
    have hps : (numS F s (i, p)).ps = s.ps ++ [np] := by
      show s.ps ++ [((putI s.mp (some i) _).lookup p).getD 0] = _
      rw [lookup_putI_ne _ hp, hl]; rfl
    rw [List.foldl_cons]
    refine ⟨?_, ?_, fun k hk => ?_⟩
    · rw [h3.ps, hps, psR, List.append_assoc, List.length_append]; rfl
    · rw [h3.ns]
      show (s.ns ++ [F.nm i]) ++ _ = _
      rw [nsR, List.append_assoc]; rfl
    · rw [h3.old k (fun j hj => hk j (by simp [hj]))]
      exact lookup_putI_ne _ (hk i (by simp))
theorem treeF_flat (h : Arb F n rk) {R : Nat} (hR : ∀ i, i < n → rk i ≤ R) {i : Nat} (hi : i < n) : treeF F rk i = flat (toRF F rk i) := by
  have h1 := num_sub h hR (d := rk i) none (-1) num0 hi (Nat.le_refl _) (fun e => by cases e) rfl (fun j _ => rfl)
  unfold treeF flat numL
  rw [h1.ps, h1.ns]
  rfl
end
end Go.Proofs.YtpjijbophjdgaaaGreat
