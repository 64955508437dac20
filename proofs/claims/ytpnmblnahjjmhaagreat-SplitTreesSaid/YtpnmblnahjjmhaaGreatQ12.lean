/- Rose trees: the tree of a forest below a node is the rose tree, numbered depth first. The contract of sharederror.Conflicts. Sorted rose trees; the rose tree of a tree numbered depth first is the tree again. Contracts: Index, Contains, IndexFunc, ContainsFunc over sets; sharederror.named; Max; far. Rose trees: all parts of one; when its numbering is a valid tree. -/
import Derived.Test.YtpnmblnahjjmhaaGreatQ1
import Derived.Test.YtpnmblnahjjmhaaGreatQ11
import Derived.Test.YtpnmblnahjjmhaaGreatQ3
import Derived.Test.YtpnmblnahjjmhaaGreatQ2
namespace Go.Proofs.YtpnmblnahjjmhaaGreat
set_option maxRecDepth 100000
section
inductive RT where
 | node (nm : ByteArray) (kids : List RT)
namespace RT
end RT
mutual
def aS : RT → Nat
 | .node _ ks => 1 + sizeRs ks
def sizeRs : List RT → Nat
 | [] => 0
 | r :: rs => aS r + sizeRs rs
end
mutual
def psR : RT → Nat → Int → List Int
 | .node _ ks, n, p => p :: psRs ks n (n + 1)
def psRs : List RT → Nat → Nat → List Int
 | [], _, _ => []
 | r :: rs, own, n => psR r n (own : Int) ++ psRs rs own (n + aS r)
end
mutual
def cT : RT → List ByteArray
 | .node nm ks => nm :: cR ks
def cR : List RT → List ByteArray
 | [] => []
 | r :: rs => cT r ++ cR rs
end
def flat (r : RT) : aJ := ⟨psR r 0 (-1), cT r⟩
mutual
theorem l5 : ∀ (r : RT) (n : Nat) (p : Int), (psR r n p).length = aS r
 | .node _ ks, n, p => by simp only [psR, aS, List.length_cons]; rw [lB ks n (n + 1)]; omega
theorem lB : ∀ (rs : List RT) (own n : Nat), (psRs rs own n).length = sizeRs rs
 | [], _, _ => rfl
 | r :: rs, own, n => by simp only [psRs, sizeRs, List.length_append]; rw [l5 r n own, lB rs own (n + aS r)]
end
mutual
theorem yZ : ∀ (r : RT), (cT r).length = aS r
 | .node _ ks => by simp only [cT, aS, List.length_cons]; rw [sk ks]; omega
theorem sk : ∀ (rs : List RT), (cR rs).length = sizeRs rs
 | [] => rfl
 | r :: rs => by simp only [cR, sizeRs, List.length_append]; rw [yZ r, sk rs]
end
def toRD (F : bA) : Nat → Nat → RT
 | 0, i => .node (F.nm i) []
 | d + 1, i => .node (F.nm i) ((F.kids i).map (toRD F d))
def bu (F : bA) (rk : Nat → Nat) (i : Nat) : RT := toRD F (rk i) i
section
variable {F : bA} {n : Nat} {rk : Nat → Nat}
theorem DW (h : Wf F n rk) : ∀ {d e i : Nat}, i < n → rk i ≤ d → rk i ≤ e → toRD F d i = toRD F e i := by
 intro d
 induction d with
 | zero =>
  intro e i hi hd he
  have hk : F.kids i = [] := by
   cases hk : F.kids i with
   | nil => rfl
   | cons k l => have := (h.bF i hi k (by rw [hk]; simp)).2; omega
  cases e with
  | zero => rfl
  | succ e => simp [toRD, hk]
 | succ d ih =>
  intro e i hi hd he
  cases e with
  | zero =>
   have hk : F.kids i = [] := by
    cases hk : F.kids i with
    | nil => rfl
    | cons k l => have := (h.bF i hi k (by rw [hk]; simp)).2; omega
   simp [toRD, hk]
  | succ e =>
   simp only [toRD]
   congr 1
   refine List.map_congr_left fun k hk => ?_
   have := h.bF i hi k hk
   exact ih this.1 (by omega) (by omega)
theorem dH (h : Wf F n rk) {i : Nat} (hi : i < n) : bu F rk i = .node (F.nm i) ((F.kids i).map (bu F rk)) := by
 have h1 : bu F rk i = toRD F (rk i + 1) i := DW h hi (Nat.le_refl _) (Nat.le_succ _)
 rw [h1]
 simp only [toRD]
 congr 1
 refine List.map_congr_left fun k hk => ?_
 have := h.bF i hi k hk
 exact DW h this.1 (by omega) (Nat.le_refl _)
theorem eA {l : List (Option Nat × Int)} {k j : Option Nat} (v : Int) (h : j ≠ k) : (k9 l k v).lookup j = l.lookup j := by
 have hne : (j == k) = false := by simpa using h
 unfold k9
 split
 ·induction l with
  | nil => simp [List.lookup, hne]
  | cons x l ih =>
   rename_i hl
   obtain ⟨x1, x2⟩ := x
   rw [List.cons_append, List.lookup_cons, List.lookup_cons]
   cases hx : (j == x1)
   ·refine ih ?_
    rw [List.lookup_cons] at hl
    cases hx2 : (k == x1)
    ·rw [hx2] at hl; exact hl
    ·rw [hx2] at hl; cases hl
   ·rfl
 ·have key : ∀ q : List (Option Nat × Int), List.lookup j (q.map (fun x => if x.1 = k then (k, v) else x)) = List.lookup j q := by
   intro q
   induction q with
   | nil => rfl
   | cons x l ih =>
    obtain ⟨x1, x2⟩ := x
    rw [List.map_cons, List.lookup_cons]
    by_cases e : x1 = k
    ·subst e
     simp only [if_true]
     rw [List.lookup_cons, hne]; exact ih
    ·rw [if_neg e, List.lookup_cons]
     cases (j == x1)
     ·exact ih
     ·rfl
  exact key l
theorem tq {l : List (Option Nat × Int)} {k : Option Nat} (v : Int) (h : l.lookup k = none) : (k9 l k v).lookup k = some v := by
 unfold k9
 rw [h]
 simp only [Option.isNone_none, if_true]
 induction l with
 | nil => simp
 | cons x l ih =>
  obtain ⟨x1, x2⟩ := x
  rw [List.lookup_cons] at h
  rw [List.cons_append, List.lookup_cons]
  cases hx : (k == x1)
  ·rw [hx] at h; exact ih h
  ·rw [hx] at h; cases h
structure Fg (s s' : wJ) (ps : List Int) (ns : List ByteArray) (nd : List Nat) : Prop where
 ps : s'.ps = s.ps ++ ps
 ns : s'.ns = s.ns ++ ns
 old : ∀ k : Option Nat, (∀ j ∈ nd, k ≠ some j) → s'.mp.lookup k = s.mp.lookup k
theorem VC (h : si F n rk) {R : Nat} (hR : ∀ i, i < n → rk i ≤ R) : ∀ {d i : Nat} (p : Option Nat) (np : Int) (s : wJ), i < n → rk i ≤ d → p ≠ some i → s.mp.lookup p = some np → (∀ j ∈ cm F rk i, s.mp.lookup (some j) = none) →
  Fg s ((eO F rk i p).foldl (oo F) s) (psR (bu F rk i) s.ps.length np) (cT (bu F rk i)) (cm F rk i) := by
 intro d
 induction d with
 | zero =>
  intro i p np s hi hd hp hl hn
  have hk : F.kids i = [] := by
   cases hk : F.kids i with
   | nil => rfl
   | cons k l => have := (h.wf.bF i hi k (by rw [hk]; simp)).2; omega
  rw [gV h.wf hi, dH h.wf hi, cO h.wf hi, hk]
  have hni := hn i (by rw [cO h.wf hi]; simp)
  refine ⟨?_, ?_, fun k hk2 => eA _ (hk2 i (by simp))⟩
  ·show s.ps ++ [((k9 s.mp (some i) _).lookup p).getD 0] = _
   rw [eA _ hp, hl]; rfl
  ·rfl
 | succ d ih =>
  intro i p np s hi hd hp hl hn
  rw [gV h.wf hi, dH h.wf hi, cO h.wf hi]
  have hni := hn i (by rw [cO h.wf hi]; simp)
  have eZ := jM h hR hi (Nat.le_refl (rk i))
  rw [cO h.wf hi, List.nodup_cons] at eZ
  have key : ∀ (l : List Nat), (∀ k ∈ l, k ∈ F.kids i) → (l.flatMap fun k => cm F rk k).Nodup → (∀ k ∈ l, i ∉ cm F rk k) → ∀ (s2 : wJ) (own : Nat), s2.mp.lookup (some i) = some (own : Int) → (∀ k ∈ l, ∀ j ∈ cm F rk k, s2.mp.lookup (some j) = none) →
    Fg s2 ((l.flatMap fun k => eO F rk k (some i)).foldl (oo F) s2) (psRs (l.map (bu F rk)) own s2.ps.length) (cR (l.map (bu F rk))) (l.flatMap fun k => cm F rk k) := by
   intro l
   induction l with
   | nil => intro _ _ _ s2 own _ _; exact ⟨by simp [psRs], by simp [cR], fun _ _ => rfl⟩
   | cons c l ihl =>
    intro hin hdl hil s2 own ho hno
    have gv := h.wf.bF i hi c (hin c (by simp))
    rw [List.flatMap_cons, List.foldl_append, List.flatMap_cons]
    rw [List.flatMap_cons, List.nodup_append] at hdl
    have h1 := ih (some i) (own : Int) s2 gv.1 (by omega) (fun e => by
     injection e with e
     have := gv.2; rw [e] at this; omega) ho (hno c (by simp))
    have h2 := ihl (fun k hk => hin k (by simp [hk])) hdl.2.1 (fun k hk => hil k (by simp [hk])) ((eO F rk c (some i)).foldl (oo F) s2) own
     ((h1.old (some i) (fun j hj e => by injection e with e; subst e; exact hil c (by simp) hj)).trans ho)
     (fun k hk j hj => (h1.old (some j) (fun j2 hj2 e => by
      injection e with e; subst e
      exact hdl.2.2 j hj2 j (List.mem_flatMap.2 ⟨k, hk, hj⟩) rfl)).trans (hno k (by simp [hk]) j hj))
    refine ⟨?_, ?_, fun k hk => ?_⟩
    ·rw [h2.ps, h1.ps, List.map_cons, psRs, List.append_assoc, List.length_append, l5]
    ·rw [h2.ns, h1.ns, List.map_cons, cR, List.append_assoc]
    ·rw [h2.old k (fun j hj => hk j (by simp [hj])), h1.old k (fun j hj => hk j (by simp [hj]))]
  have hin : ∀ k ∈ F.kids i, i ∉ cm F rk k := fun k hk hm => eZ.1 (List.mem_flatMap.2 ⟨k, hk, hm⟩)
  have h3 := key (F.kids i) (fun k hk => hk) eZ.2 hin (oo F s (i, p)) s.ps.length (tq _ hni) (fun k hk j hj => by
   show (k9 s.mp (some i) _).lookup (some j) = none
   rw [eA _ (fun e => by injection e with e; subst e; exact hin k hk hj)]
   exact hn j (by rw [cO h.wf hi]; exact List.mem_cons_of_mem _ (List.mem_flatMap.2 ⟨k, hk, hj⟩)))
  have hps : (oo F s (i, p)).ps = s.ps ++ [np] := by
   show s.ps ++ [((k9 s.mp (some i) _).lookup p).getD 0] = _
   rw [eA _ hp, hl]; rfl
  rw [List.foldl_cons]
  refine ⟨?_, ?_, fun k hk => ?_⟩
  ·rw [h3.ps, hps, psR, List.append_assoc, List.length_append]; rfl
  ·rw [h3.ns]
   show (s.ns ++ [F.nm i]) ++ _ = _
   rw [cT, List.append_assoc]; rfl
  ·rw [h3.old k (fun j hj => hk j (by simp [hj]))]
   exact eA _ (hk i (by simp))
theorem Mb (h : si F n rk) {R : Nat} (hR : ∀ i, i < n → rk i ≤ R) {i : Nat} (hi : i < n) : gp F rk i = flat (bu F rk i) := by
 have h1 := VC h hR (d := rk i) none (-1) CP hi (Nat.le_refl _) (fun e => by cases e) rfl (fun j _ => rfl)
 unfold gp flat dB
 rw [h1.ps, h1.ns]
 rfl
end
end
section
open Go.RowKit Go.Deep
theorem Tryz.gW : (Tryz.prog.info? 26).map (fun i => (i.zero, i.size, i.bytes)) = some (some (.slice none 0 0), 1, 24) := by af
section
variable {P : Program} {ops : Array Oper} {rest : List Oper} {o : Oper} {a : Act} {Q : Exit → Act → World → Prop}
end
end
section
def firstR : RT → ByteArray
 | .node nm [] => nm
 | .node _ (k :: _) => firstR k
def insR (a : RT) : List RT → List RT
 | [] => [a]
 | b :: l => if cW (firstR a) (firstR b) ≤ 0 then a :: b :: l else b :: insR a l
mutual
def sortR : RT → RT
 | .node nm ks => .node nm (dX ks)
def dX : List RT → List RT
 | [] => []
 | r :: rs => insR (sortR r) (dX rs)
end
theorem F1 {f : Nat → ByteArray} {g : Nat → RT} {a : Nat} (ha : firstR (g a) = f a) : ∀ l : List Nat, (∀ k ∈ l, firstR (g k) = f k) → insR (g a) (l.map g) = (insB f a l).map g
 | [], _ => rfl
 | b :: l, h => by
  have hb := h b (by simp)
  rw [List.map_cons, insR, insB, ha, hb]
  unfold nI
  by_cases e : cW (f a) (f b) ≤ 0
  ·rw [if_pos e, if_pos (by simpa using e)]; rfl
  ·rw [if_neg e, if_neg (by simpa using e), F1 ha l (fun k hk => h k (by simp [hk]))]; rfl
theorem Au {f : Nat → ByteArray} {l : List Nat} {k : Nat} : k ∈ qH f l ↔ k ∈ l := by rw [← sj]; exact (eR f l).mem_iff
theorem Bu {f : Nat → ByteArray} {h : Nat → RT} : ∀ l : List Nat, (∀ k ∈ l, firstR (sortR (h k)) = f k) → dX (l.map h) = (qH f l).map fun k => sortR (h k)
 | [], _ => rfl
 | a :: l, hf => by
  rw [List.map_cons, dX, qH, Bu l (fun k hk => hf k (by simp [hk]))]
  exact F1 (g := fun k => sortR (h k)) (hf a (by simp)) (qH f l) (fun k hk => hf k (by simp [Au.1 hk]))
section
variable {F : bA} {n : Nat} {rk : Nat → Nat}
theorem Wf.iK (h : Wf F n rk) (p : Nat → Bool) : Wf (F.iK rk p) n rk := ⟨fun i hi k hk => h.bF i hi k ((F.iL rk p i).mem_iff.1 hk)⟩
theorem RF (h : Wf F n rk) (p : Nat → Bool) : ∀ {d i : Nat}, i < n → rk i ≤ d → (∀ j, cG F rk i j = true → p j = true) → bu (F.iK rk p) rk i = sortR (bu F rk i) ∧ firstR (sortR (bu F rk i)) = ga F rk i := by
 intro d
 have Uf : ∀ i, p i = true → (F.iK rk p).kids i = di (ga F rk) (F.kids i) := fun i hp => by
  show (if p i then _ else _ : List Nat) = _
  rw [if_pos hp]
 induction d with
 | zero =>
  intro i hi hd hp
  have hk : F.kids i = [] := by
   cases hk : F.kids i with
   | nil => rfl
   | cons k l => have := (h.bF i hi k (by rw [hk]; simp)).2; omega
  have hk2 : (F.iK rk p).kids i = [] := by rw [Uf i (hp i (ji h hi)), hk]; simp [di]
  rw [dH (h.iK p) hi, dH h hi, rZ h hi, hk, hk2]
  refine ⟨rfl, ?_⟩
  simp [di, sortR, dX, firstR]
 | succ d ih =>
  intro i hi hd hp
  have hk2 := Uf i (hp i (ji h hi))
  have key : ∀ k ∈ F.kids i, bu (F.iK rk p) rk k = sortR (bu F rk k) ∧ firstR (sortR (bu F rk k)) = ga F rk k := fun k hk => by
   have hkk := h.bF i hi k hk
   exact ih hkk.1 (by omega) (fun j hj => hp j (nu h hi hk hj))
  have hs : dX ((F.kids i).map (bu F rk)) = (qH (ga F rk) (F.kids i)).map fun k => sortR (bu F rk k) := Bu _ (fun k hk => (key k hk).2)
  rw [dH (h.iK p) hi, dH h hi, rZ h hi, hk2, sj, sortR, hs]
  refine ⟨?_, ?_⟩
  ·show RT.node (F.nm i) _ = _
   congr 1
   exact List.map_congr_left fun k hk => (key k (Au.1 hk)).1
  ·cases hc : qH (ga F rk) (F.kids i) with
   | nil => rfl
   | cons k l =>
    rw [List.map_cons, firstR]
    exact (key k (Au.1 (by rw [hc]; simp))).2
end
def gh (t : aJ) : RT := bu (dr t) (cI t) 0
theorem nP {t : aJ} (h : aK t = 0) : iy t = flat (sortR (gh t)) := by
 obtain ⟨hp, _⟩ := aP h
 unfold iy
 rw [Mb (FZ h) (R := t.ps.length) (fun i _ => uR t i) hp]
 congr 1
 exact (RF (cS h).wf _ hp (Nat.le_refl _) (fun j hj => by simpa using hj)).1
def kf (own : Nat) : List Int → Nat → List Nat
 | [], _ => []
 | p :: ps, b => if p = (own : Int) then b :: kf own ps (b + 1) else kf own ps (b + 1)
theorem sr (own : Nat) : ∀ (a c : List Int) (b : Nat), kf own (a ++ c) b = kf own a b ++ kf own c (b + a.length)
 | [], c, b => rfl
 | x :: a, c, b => by
  rw [List.cons_append, kf, kf, sr own a c (b + 1), List.length_cons, show b + 1 + a.length = b + (a.length + 1) by omega]
  split <;> rfl
theorem rI (own : Nat) : ∀ (a : List Int) (b : Nat), (∀ x ∈ a, x ≠ (own : Int)) → kf own a b = []
 | [], _, _ => rfl
 | x :: a, b, h => by rw [kf, if_neg (h x (by simp)), rI own a (b + 1) (fun y hy => h y (by simp [hy]))]
theorem F2 {ps : List Int} {n : Nat} (h : ∀ i, i < ps.length → gi ps i = n → n < i) : bO ps n = kf n ps 0 := by
 have key : ∀ k, k ≤ ps.length → cA ps n k = kf n (ps.take k) 0 := by
  intro k
  induction k with
  | zero => intro _; rfl
  | succ k ih =>
   intro hk
   rw [lW, ih (by omega), List.take_succ_eq_append_getElem (show k < ps.length by omega), sr, List.length_take, Nat.min_eq_left (by omega)]
   have hg : gi ps k = ps[k] := by simp [gi, show k < ps.length by omega]
   congr 1
   by_cases e : gi ps k = n
   ·rw [if_pos ⟨h k (by omega) e, e⟩, kf, if_pos (by rw [← hg]; exact e)]
    simp [kf]
   ·rw [if_neg (fun q => e q.2), kf, if_neg (by rw [← hg]; exact e)]; rfl
 unfold bO
 rw [key _ (Nat.le_refl _), List.take_length]
mutual
theorem F3 : ∀ (r : RT) (n : Nat) (p x : Int), x ∈ psR r n p → x = p ∨ ((n : Int) ≤ x ∧ x < ((n + aS r : Nat) : Int))
 | .node _ ks, n, p, x, h => by
  rw [psR, List.mem_cons] at h
  rcases h with h | h
  ·exact .inl h
  ·right
   rw [aS]
   rcases uS ks n (n + 1) x h with h1 | ⟨h1, h2⟩
   ·subst h1; exact ⟨by omega, by omega⟩
   ·exact ⟨by omega, by omega⟩
theorem uS : ∀ (rs : List RT) (own n : Nat) (x : Int), x ∈ psRs rs own n → x = (own : Int) ∨ ((n : Int) ≤ x ∧ x < ((n + sizeRs rs : Nat) : Int))
 | [], _, _, _, h => by simp [psRs] at h
 | r :: rs, own, n, x, h => by
  rw [psRs, List.mem_append] at h
  rw [sizeRs]
  rcases h with h | h
  ·rcases F3 r n own x h with h1 | ⟨h1, h2⟩
   ·exact .inl h1
   ·exact .inr ⟨h1, by omega⟩
  ·rcases uS rs own (n + aS r) x h with h1 | ⟨h1, h2⟩
   ·exact .inl h1
   ·exact .inr ⟨by omega, by omega⟩
end
def hdR : List RT → Nat → List Nat
 | [], _ => []
 | r :: rs, n => n :: hdR rs (n + aS r)
theorem CR (own : Nat) : ∀ (rs : List RT) (n : Nat), own < n → kf own (psRs rs own n) n = hdR rs n
 | [], _, _ => rfl
 | .node nm ks :: rs, n, h => by
  rw [psRs, hdR, sr, l5, CR own rs _ (by omega), psR, kf, if_pos rfl]
  rw [rI own _ _ (fun x hx e => by
   rcases uS ks n (n + 1) x hx with h1 | ⟨h1, _⟩ <;> omega)]
  rfl
theorem jX (r : RT) : 0 < aS r := by cases r; rw [aS]; omega
theorem su (a b : List Int) (k : Nat) : gi (a ++ b) (a.length + k) = gi b k := by simp [gi, List.getElem?_append_right]
theorem RG (a b : List ByteArray) (k : Nat) : gs (a ++ b) (a.length + k) = gs b k := by simp [gs, List.getElem?_append_right]
theorem vB {a : List Int} (b : List Int) {k : Nat} (h : k < a.length) : gi (a ++ b) k = gi a k := by simp [gi, List.getElem?_append_left h]
theorem VD : ∀ (d : Nat) (r : RT) (n : Nat) (p : Int) (t : aJ) (pre post : List Int) (Kg CS : List ByteArray), aS r ≤ d → t.ps = pre ++ (psR r n p ++ post) → t.ns = Kg ++ (cT r ++ CS) → pre.length = n → Kg.length = n → p < n → (∀ x ∈ pre, x < (n : Int)) → (∀ x ∈ post, x < (n : Int) ∨ ((n + aS r : Nat) : Int) ≤ x) → toRD (dr t) d n = r := by
 intro d
 induction d with
 | zero => intro r n p t pre post Kg CS hd; have := jX r; omega
 | succ d ih =>
  intro r n p t pre post Kg CS hd hps Bv hpl hnl hp hpre hpost
  obtain ⟨nm, ks⟩ := r
  rw [aS] at hd hpost
  rw [psR, List.cons_append] at hps
  rw [cT, List.cons_append] at Bv
  have hk : (dr t).kids n = hdR ks (n + 1) := by
   rw [gz, F2]
   ·rw [hps, sr, rI n pre 0 (fun x hx e => by have := hpre x hx; omega), List.nil_append, kf, if_neg (by omega), sr, hpl, Nat.zero_add, CR n ks (n + 1) (by omega), lB]
    rw [rI n post _ (fun x hx e => by rcases hpost x hx with h1 | h1 <;> omega), List.append_nil]
   ·intro i hi e
    rw [hps] at e
    rcases Nat.lt_trichotomy i n with h1 | h1 | h1
    ·rw [vB _ (by omega)] at e
     have := hpre _ (qj (l := pre) (k := i) (by omega)); omega
    ·subst h1
     have h2 := su pre (p :: (psRs ks i (i + 1) ++ post)) 0
     rw [hpl] at h2
     have h2 : gi (pre ++ p :: (psRs ks i (i + 1) ++ post)) i = p := h2
     rw [h2] at e
     have e : p = i := e
     omega
    ·exact h1
  have hnm : (dr t).nm n = nm := by
   show gs t.ns n = nm
   rw [Bv, ← hnl]
   exact RG Kg (nm :: (cR ks ++ CS)) 0
  rw [toRD, hk, hnm]
  congr 1
  have key : ∀ (rs : List RT) (m : Nat) (pr : List Int) (nr : List ByteArray), sizeRs rs ≤ d → t.ps = pr ++ (psRs rs n m ++ post) → t.ns = nr ++ (cR rs ++ CS) → pr.length = m → nr.length = m → n < m → (∀ x ∈ pr, x < (m : Int)) → (∀ x ∈ post, x < (n : Int) ∨ ((m + sizeRs rs : Nat) : Int) ≤ x) → (hdR rs m).map (toRD (dr t) d) = rs := by
   intro rs
   induction rs with
   | nil => intros; rfl
   | cons r rs ihr =>
    intro m pr nr hd2 RH RI LX uh hm Bw Bz
    rw [sizeRs] at hd2 Bz
    rw [psRs, List.append_assoc] at RH
    rw [cR, List.append_assoc] at RI
    rw [hdR, List.map_cons]
    have h1 := ih r m n t pr (psRs rs n (m + aS r) ++ post) nr (cR rs ++ CS) (by omega) RH RI LX uh (by omega) Bw (fun x hx => by
     rcases List.mem_append.1 hx with hx | hx
     ·rcases uS rs n (m + aS r) x hx with h2 | ⟨h2, _⟩
      ·exact .inl (by omega)
      ·exact .inr h2
     ·rcases Bz x hx with h2 | h2
      ·exact .inl (by omega)
      ·exact .inr (by omega))
    have h2 := ihr (m + aS r) (pr ++ psR r m n) (nr ++ cT r) (by omega) (by rw [RH, List.append_assoc]) (by rw [RI, List.append_assoc])
     (by rw [List.length_append, l5, LX]) (by rw [List.length_append, yZ, uh]) (by omega) (fun x hx => by
      rcases List.mem_append.1 hx with hx | hx
      ·have := Bw x hx; omega
      ·rcases F3 r m n x hx with h3 | ⟨_, h3⟩ <;> omega) (fun x hx => by
      rcases Bz x hx with h3 | h3
      ·exact .inl h3
      ·exact .inr (by omega))
    rw [h1, h2]
  exact key ks (n + 1) (pre ++ [p]) (Kg ++ [nm]) (by omega) (by rw [hps, List.append_assoc]; rfl) (by rw [Bv, List.append_assoc]; rfl) (by simp [hpl]) (by simp [hnl]) (by omega) (fun x hx => by
   rcases List.mem_append.1 hx with hx | hx
   ·have := hpre x hx; omega
   ·have : x = p := by simpa using hx
    omega) (fun x hx => by
   rcases hpost x hx with h3 | h3
   ·exact .inl h3
   ·exact .inr (by omega))
theorem uT (r : RT) : (flat r).ps.length = aS r := l5 r 0 (-1)
theorem CT (r : RT) : (flat r).ns.length = aS r := yZ r
theorem F4 (r : RT) : gh (flat r) = r := by
 unfold gh bu
 have h : cI (flat r) 0 = aS r := by unfold cI; rw [uT, Nat.sub_zero]
 rw [h]
 exact VD (aS r) r 0 (-1) (flat r) [] [] [] [] (Nat.le_refl _) (by simp [flat]) (by simp [flat]) rfl rfl (by omega) (fun x hx => by simp at hx) (fun x hx => by simp at hx)
end
section
open Go.RowKit Go.Shelf Go.Deep
section
attribute [local go_sem] Oper.semAt_some
end
end
section
mutual
def subR : RT → List RT
 | .node nm ks => .node nm ks :: subRs ks
def subRs : List RT → List RT
 | [] => []
 | r :: rs => subR r ++ subRs rs
end
mutual
theorem kn : ∀ r : RT, (subR r).length = aS r
 | .node _ ks => by rw [subR, aS, List.length_cons, DX ks]; omega
theorem DX : ∀ rs : List RT, (subRs rs).length = sizeRs rs
 | [] => rfl
 | r :: rs => by rw [subRs, sizeRs, List.length_append, kn r, DX rs]
end
mutual
theorem rJ : ∀ r : RT, cT r = (subR r).map RT.nm
 | .node nm ks => by rw [subR, cT, List.map_cons, F5 ks]; rfl
theorem F5 : ∀ rs : List RT, cR rs = (subRs rs).map RT.nm
 | [] => rfl
 | r :: rs => by rw [subRs, cR, List.map_append, rJ r, F5 rs]
end
theorem kr (rs : List RT) : subRs rs = rs.flatMap subR := by
 induction rs with
 | nil => rfl
 | cons r rs ih => rw [subRs, List.flatMap_cons, ih]
def AtR (t : aJ) (r : RT) (n : Nat) (p : Int) : Prop := ∃ pre post, t.ps = pre ++ (psR r n p ++ post) ∧ pre.length = n ∧ p < n ∧ (∀ x ∈ pre, x < (n : Int)) ∧ (∀ x ∈ post, x < (n : Int) ∨ ((n + aS r : Nat) : Int) ≤ x)
def F6 (t : aJ) (rs : List RT) (own m : Nat) : Prop := ∃ pre post, t.ps = pre ++ (psRs rs own m ++ post) ∧ pre.length = m ∧ own < m ∧ (∀ x ∈ pre, x < (m : Int)) ∧ (∀ x ∈ post, x < (own : Int) ∨ ((m + sizeRs rs : Nat) : Int) ≤ x)
theorem AtR.kids {t : aJ} {nm : ByteArray} {ks : List RT} {n : Nat} {p : Int} (h : AtR t (.node nm ks) n p) : bO t.ps n = hdR ks (n + 1) ∧ F6 t ks n (n + 1) := by
 obtain ⟨pre, post, hps, hpl, hp, hpre, hpost⟩ := h
 rw [aS] at hpost
 rw [psR, List.cons_append] at hps
 constructor
 ·rw [F2]
  ·rw [hps, sr, rI n pre 0 (fun x hx e => by have := hpre x hx; omega), List.nil_append, kf, if_neg (by omega), sr, hpl, Nat.zero_add, CR n ks (n + 1) (by omega), lB]
   rw [rI n post _ (fun x hx e => by rcases hpost x hx with h1 | h1 <;> omega), List.append_nil]
  ·intro i hi e
   rw [hps] at e
   rcases Nat.lt_trichotomy i n with h1 | h1 | h1
   ·rw [vB _ (by omega)] at e
    have := hpre _ (qj (l := pre) (k := i) (by omega)); omega
   ·subst h1
    have h2 := su pre (p :: (psRs ks i (i + 1) ++ post)) 0
    rw [hpl] at h2
    have h2 : gi (pre ++ p :: (psRs ks i (i + 1) ++ post)) i = p := h2
    rw [h2] at e
    omega
   ·exact h1
 ·refine ⟨pre ++ [p], post, by rw [hps, List.append_assoc]; rfl, by simp [hpl], by omega, fun x hx => ?_, fun x hx => ?_⟩
  ·rcases List.mem_append.1 hx with hx | hx
   ·have := hpre x hx; omega
   ·have : x = p := by simpa using hx
    omega
  ·rcases hpost x hx with h3 | h3
   ·exact .inl h3
   ·exact .inr (by omega)
theorem F6.cons {t : aJ} {r : RT} {rs : List RT} {own m : Nat} (h : F6 t (r :: rs) own m) : AtR t r m own ∧ F6 t rs own (m + aS r) := by
 obtain ⟨pre, post, hps, hpl, hm, hpre, hpost⟩ := h
 rw [sizeRs] at hpost
 rw [psRs, List.append_assoc] at hps
 constructor
 ·refine ⟨pre, _, hps, hpl, by omega, hpre, fun x hx => ?_⟩
  rcases List.mem_append.1 hx with hx | hx
  ·rcases uS rs own (m + aS r) x hx with h2 | ⟨h2, _⟩
   ·exact .inl (by omega)
   ·exact .inr h2
  ·rcases hpost x hx with h2 | h2
   ·exact .inl (by omega)
   ·exact .inr (by omega)
 ·refine ⟨pre ++ psR r m own, post, by rw [hps, List.append_assoc], by rw [List.length_append, l5, hpl], by omega, fun x hx => ?_, fun x hx => ?_⟩
  ·rcases List.mem_append.1 hx with hx | hx
   ·have := hpre x hx; omega
   ·rcases F3 r m own x hx with h3 | ⟨_, h3⟩ <;> omega
  ·rcases hpost x hx with h3 | h3
   ·exact .inl h3
   ·exact .inr (by omega)
mutual
theorem Kh {t : aJ} : ∀ (r : RT) (n : Nat) (p : Int), AtR t r n p → ∀ (i : Nat) (s : RT), (subR r)[i]? = some s → bO t.ps (n + i) = hdR s.kids (n + i + 1)
 | .node nm ks, n, p, h, i, s, hs => by
  rw [subR] at hs
  cases i with
  | zero =>
   have e : RT.node nm ks = s := by simpa using hs
   subst e
   exact h.kids.1
  | succ i =>
   rw [List.getElem?_cons_succ] at hs
   have := F7 ks n (n + 1) h.kids.2 i s hs
   rw [show n + (i + 1) = n + 1 + i by omega]; exact this
theorem F7 {t : aJ} : ∀ (rs : List RT) (own m : Nat), F6 t rs own m → ∀ (i : Nat) (s : RT), (subRs rs)[i]? = some s → bO t.ps (m + i) = hdR s.kids (m + i + 1)
 | [], _, _, _, i, s, hs => by simp [subRs] at hs
 | r :: rs, own, m, h, i, s, hs => by
  rw [subRs] at hs
  by_cases hi : i < aS r
  ·rw [List.getElem?_append_left (by rw [kn]; exact hi)] at hs
   exact Kh r m own h.cons.1 i s hs
  ·rw [List.getElem?_append_right (by rw [kn]; omega), kn] at hs
   have := F7 rs own (m + aS r) h.cons.2 (i - aS r) s hs
   rw [show m + aS r + (i - aS r) = m + i by omega] at this; exact this
end
theorem AtR.flat (r : RT) : AtR (flat r) r 0 (-1) := ⟨[], [], by simp [YtpnmblnahjjmhaaGreat.flat], rfl, by omega, fun x hx => by simp at hx, fun x hx => by simp at hx⟩
theorem OC {r : RT} {i : Nat} {s : RT} (h : (subR r)[i]? = some s) : bO (flat r).ps i = hdR s.kids (i + 1) := by
 have := Kh r 0 (-1) (AtR.flat r) i s h
 simpa using this
mutual
theorem OD : ∀ (r : RT) (n : Nat) (p : Int) (j : Nat), 0 < j → j < aS r → (n : Int) ≤ gi (psR r n p) j ∧ gi (psR r n p) j < ((n + j : Nat) : Int)
 | .node nm ks, n, p, j, h0, hj => by
  rw [aS] at hj
  obtain ⟨k, rfl⟩ : ∃ k, j = k + 1 := ⟨j - 1, by omega⟩
  have h := Ki ks n (n + 1) k (by omega) (by omega)
  have e : gi (psR (.node nm ks) n p) (k + 1) = gi (psRs ks n (n + 1)) k := by rw [psR]; simp [gi]
  rw [e]
  exact ⟨h.1, by have := h.2; omega⟩
theorem Ki : ∀ (rs : List RT) (own n j : Nat), own < n → j < sizeRs rs → (own : Int) ≤ gi (psRs rs own n) j ∧ gi (psRs rs own n) j < ((n + j : Nat) : Int)
 | [], _, _, _, _, h => by simp [sizeRs] at h
 | r :: rs, own, n, j, ho, hj => by
  rw [sizeRs] at hj
  rw [psRs]
  by_cases hr : j < aS r
  ·rw [vB _ (by rw [l5]; exact hr)]
   by_cases h0 : j = 0
   ·subst h0
    obtain ⟨nm, ks⟩ := r
    have e : gi (psR (.node nm ks) n own) 0 = own := by rw [psR]; simp [gi]
    rw [e]; exact ⟨by omega, by omega⟩
   ·have h := OD r n own j (by omega) hr
    exact ⟨by omega, h.2⟩
  ·have h := Ki rs own (n + aS r) (j - aS r) (by omega) (by omega)
   have e := su (psR r n own) (psRs rs own (n + aS r)) (j - aS r)
   rw [l5, show aS r + (j - aS r) = j by omega] at e
   rw [e]
   exact ⟨h.1, by have := h.2; omega⟩
end
theorem F8 (r : RT) : gx (flat r).ps = true := by
 refine Ah fun j hj => ?_
 rw [uT] at hj
 show nE j (gi (psR r 0 (-1)) j) = true
 unfold nE
 by_cases h0 : j = 0
 ·subst h0
  obtain ⟨nm, ks⟩ := r
  rw [if_pos rfl, psR]; rfl
 ·rw [if_neg h0]
  have h := OD r 0 (-1) j (by omega) hj
  have h1 : 0 ≤ gi (psR r 0 (-1)) j := by have := h.1; omega
  have h2 : gi (psR r 0 (-1)) j < (j : Int) := by have := h.2; omega
  simp [h1, h2]
def bH (r : RT) : List ByteArray := (cT r).filter fun s => decide (s.size ≠ 0)
structure gX (r : RT) : Prop where
 uU : ∀ s ∈ subR r, s.kids ≠ [] → s.nm.size = 0
 lf : ∀ s ∈ subR r, s.kids = [] → bM s.nm.data.toList = true
 nd : (bH r).Nodup
theorem eS {s : ByteArray} (h : bM s.data.toList = true) : s.size ≠ 0 := by
 intro e
 have : s.data.toList = [] := by
  apply List.eq_nil_of_length_eq_zero
  simpa using e
 rw [this] at h
 revert h; decide
theorem xT {r : RT} (h : gX r) (hs : aS r ≤ 64) : aK (flat r) = 0 := by
 unfold aK
 rw [uT, CT, if_neg (by have := jX r; omega), if_neg (by omega), if_neg (by simp), if_pos (F8 r)]
 refine c9 fun i hi => ?_
 have hi2 : i < (subR r).length := by rw [kn]; exact hi
 obtain ⟨s, hsi⟩ : ∃ s, (subR r)[i]? = some s := ⟨_, List.getElem?_eq_getElem hi2⟩
 have hmem : s ∈ subR r := List.mem_of_getElem? hsi
 have hk := OC hsi
 have hnm : gs (flat r).ns i = s.nm := by
  show gs (cT r) i = _
  rw [rJ]; simp [gs, hsi]
 have hin := kW (F8 r) i
 unfold jv
 rw [hnm]
 by_cases hks : s.kids = []
 ·have h1 : isIn (flat r).ps i = false := by
   cases hb : isIn (flat r).ps i with
   | false => rfl
   | true => exact absurd (by rw [hk, hks]; rfl) (hin.2 hb)
  rw [h1, if_neg (by simp), if_pos (h.lf s hmem hks)]
  have h2 : dO (flat r).ns i = false := by
   rw [Bool.eq_false_iff]; intro e
   obtain ⟨j, hj, e⟩ := List.any_eq_true.1 e
   have hj : j < i := List.mem_range.1 hj
   have e : gs (cT r) j = gs (cT r) i := of_decide_eq_true e
   have Ug := List.pairwise_filter.1 h.nd
   have o6 := yZ r
   have h3 := List.pairwise_iff_getElem.1 Ug j i (by omega) (by omega) hj
   have hgj : gs (cT r) j = (cT r)[j]'(by omega) := by simp [gs, show j < (cT r).length by omega]
   have hgi : gs (cT r) i = (cT r)[i]'(by omega) := by simp [gs, show i < (cT r).length by omega]
   rw [← hgj, ← hgi, e] at h3
   have h4 : gs (cT r) i = s.nm := hnm
   have h5 := eS (h.lf s hmem hks)
   rw [h4] at h3
   exact h3 (by simpa using h5) (by simpa using h5) rfl
  rw [h2]; rfl
 ·have h1 : isIn (flat r).ps i = true := hin.1 (by
   rw [hk]
   cases hq : s.kids with
   | nil => exact absurd hq hks
   | cons a l => simp [hdR])
  rw [h1, if_pos rfl, if_pos (h.uU s hmem hks)]
end
end Go.Proofs.YtpnmblnahjjmhaaGreat
