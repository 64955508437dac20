/- Rose trees: the tree of a forest below a node is the rose tree, numbered depth first. The .. -/
import Derived.Test.YtpnmblnahjjmhaaGreatQ1
import Derived.Test.YtpnmblnahjjmhaaGreatQ11
import Derived.Test.YtpnmblnahjjmhaaGreatQ3
import Derived.Test.YtpnmblnahjjmhaaGreatQ2
set_option maxRecDepth 100000
namespace Go.Proofs.YtpnmblnahjjmhaaGreat
section
inductive RT where
 | node (nm : ByteArray) (kids : List RT)
namespace RT
def nm : RT → ByteArray | .node n _ => n
def kids : RT → List RT | .node _ k => k
end RT
mutual
def aK : RT → Nat
 | .node _ ks => 1 + sizeRs ks
def sizeRs : List RT → Nat
 | [] => 0
 | r :: rs => aK r + sizeRs rs
end
mutual
def psR : RT → Nat → Int → List Int
 | .node _ ks, n, p => p :: psRs ks n (n + 1)
def psRs : List RT → Nat → Nat → List Int
 | [], _, _ => []
 | r :: rs, own, n => psR r n (own : Int) ++ psRs rs own (n + aK r)
end
mutual
def cm : RT → List ByteArray
 | .node nm ks => nm :: b7 ks
def b7 : List RT → List ByteArray
 | [] => []
 | r :: rs => cm r ++ b7 rs
end
def flat (r : RT) : aA := ⟨psR r 0 (-1), cm r⟩
mutual
theorem kX : ∀ (r : RT) (n : Nat) (p : Int), (psR r n p).length = aK r
 | .node _ ks, n, p => by simp only [psR, aK, List.length_cons]; rw [kC ks n (n + 1)]; omega
theorem kC : ∀ (rs : List RT) (own n : Nat), (psRs rs own n).length = sizeRs rs
 | [], _, _ => rfl
 | r :: rs, own, n => by simp only [psRs, sizeRs, List.length_append]; rw [kX r n own, kC rs own (n + aK r)]
end
mutual
theorem yJ : ∀ (r : RT), (cm r).length = aK r
 | .node _ ks => by simp only [cm, aK, List.length_cons]; rw [rI ks]; omega
theorem rI : ∀ (rs : List RT), (b7 rs).length = sizeRs rs
 | [] => rfl
 | r :: rs => by simp only [b7, sizeRs, List.length_append]; rw [yJ r, rI rs]
end
def toRD (F : aT) : Nat → Nat → RT
 | 0, i => .node (F.nm i) []
 | d + 1, i => .node (F.nm i) ((F.kids i).map (toRD F d))
def aR (F : aT) (rk : Nat → Nat) (i : Nat) : RT := toRD F (rk i) i
section
variable {F : aT} {n : Nat} {rk : Nat → Nat}
theorem DN (h : Wf F n rk) : ∀ {d e i : Nat}, i < n → rk i ≤ d → rk i ≤ e → toRD F d i = toRD F e i := by
 intro d
 induction d with
 | zero =>
  intro e i hi hd he
  have hk : F.kids i = [] := by
   cases hk : F.kids i with
   | nil => rfl
   | cons k l => have := (h.kid i hi k (by rw [hk]; simp)).2; omega
  cases e with
  | zero => rfl
  | succ e => simp [toRD, hk]
 | succ d ih =>
  intro e i hi hd he
  cases e with
  | zero =>
   have hk : F.kids i = [] := by
    cases hk : F.kids i with
    | nil => rfl
    | cons k l => have := (h.kid i hi k (by rw [hk]; simp)).2; omega
   simp [toRD, hk]
  | succ e =>
   simp only [toRD]
   congr 1
   refine List.map_congr_left fun k hk => ?_
   have := h.kid i hi k hk
   exact ih this.1 (by omega) (by omega)
theorem cQ (h : Wf F n rk) {i : Nat} (hi : i < n) : aR F rk i = .node (F.nm i) ((F.kids i).map (aR F rk)) := by
 have h1 : aR F rk i = toRD F (rk i + 1) i := DN h hi (Nat.le_refl _) (Nat.le_succ _)
 rw [h1]
 simp only [toRD]
 congr 1
 refine List.map_congr_left fun k hk => ?_
 have := h.kid i hi k hk
 exact DN h this.1 (by omega) (Nat.le_refl _)
theorem dG {l : List (Option Nat × Int)} {k j : Option Nat} (v : Int) (h : j ≠ k) : (ku l k v).lookup j = l.lookup j := by
 have hne : (j == k) = false := by simpa using h
 unfold ku
 split
 ·induction l with
  | nil => simp [List.lookup, hne]
  | cons x l ih =>
   rename_i hl
   obtain ⟨x1, x2⟩ := x
   rw [List.cons_append, List.lookup_cons, List.lookup_cons]
   cases hx : (j == x1)
   ·refine ih ?_
    rw [List.lookup_cons] at hl
    cases hx2 : (k == x1)
    ·rw [hx2] at hl; exact hl
    ·rw [hx2] at hl; cases hl
   ·rfl
 ·have key : ∀ q : List (Option Nat × Int), List.lookup j (q.map (fun x => if x.1 = k then (k, v) else x)) = List.lookup j q := by
   intro q
   induction q with
   | nil => rfl
   | cons x l ih =>
    obtain ⟨x1, x2⟩ := x
    rw [List.map_cons, List.lookup_cons]
    by_cases e : x1 = k
    ·subst e
     simp only [if_true]
     rw [List.lookup_cons, hne]; exact ih
    ·rw [if_neg e, List.lookup_cons]
     cases (j == x1)
     ·exact ih
     ·rfl
  exact key l
theorem sN {l : List (Option Nat × Int)} {k : Option Nat} (v : Int) (h : l.lookup k = none) : (ku l k v).lookup k = some v := by
 unfold ku
 rw [h]
 simp only [Option.isNone_none, if_true]
 induction l with
 | nil => simp
 | cons x l ih =>
  obtain ⟨x1, x2⟩ := x
  rw [List.lookup_cons] at h
  rw [List.cons_append, List.lookup_cons]
  cases hx : (k == x1)
  ·rw [hx] at h; exact ih h
  ·rw [hx] at h; cases h
structure Fa (s s' : vY) (ps : List Int) (ns : List ByteArray) (nd : List Nat) : Prop where
 ps : s'.ps = s.ps ++ ps
 ns : s'.ns = s.ns ++ ns
 old : ∀ k : Option Nat, (∀ j ∈ nd, k ≠ some j) → s'.mp.lookup k = s.mp.lookup k
theorem VD (h : rG F n rk) {R : Nat} (hR : ∀ i, i < n → rk i ≤ R) : ∀ {d i : Nat} (p : Option Nat) (np : Int) (s : vY), i < n → rk i ≤ d → p ≠ some i → s.mp.lookup p = some np → (∀ j ∈ bE F rk i, s.mp.lookup (some j) = none) →
  Fa s ((dQ F rk i p).foldl (ny F) s) (psR (aR F rk i) s.ps.length np) (cm (aR F rk i)) (bE F rk i) := by
 intro d
 induction d with
 | zero =>
  intro i p np s hi hd hp hl hn
  have hk : F.kids i = [] := by
   cases hk : F.kids i with
   | nil => rfl
   | cons k l => have := (h.wf.kid i hi k (by rw [hk]; simp)).2; omega
  rw [gA h.wf hi, cQ h.wf hi, bW h.wf hi, hk]
  have hni := hn i (by rw [bW h.wf hi]; simp)
  refine ⟨?_, ?_, fun k hk2 => dG _ (hk2 i (by simp))⟩
  ·show s.ps ++ [((ku s.mp (some i) _).lookup p).getD 0] = _
   rw [dG _ hp, hl]; rfl
  ·rfl
 | succ d ih =>
  intro i p np s hi hd hp hl hn
  rw [gA h.wf hi, cQ h.wf hi, bW h.wf hi]
  have hni := hn i (by rw [bW h.wf hi]; simp)
  have dZ := jh h hR hi (Nat.le_refl (rk i))
  rw [bW h.wf hi, List.nodup_cons] at dZ
  have key : ∀ (l : List Nat), (∀ k ∈ l, k ∈ F.kids i) → (l.flatMap fun k => bE F rk k).Nodup → (∀ k ∈ l, i ∉ bE F rk k) → ∀ (s2 : vY) (own : Nat), s2.mp.lookup (some i) = some (own : Int) → (∀ k ∈ l, ∀ j ∈ bE F rk k, s2.mp.lookup (some j) = none) →
    Fa s2 ((l.flatMap fun k => dQ F rk k (some i)).foldl (ny F) s2) (psRs (l.map (aR F rk)) own s2.ps.length) (b7 (l.map (aR F rk))) (l.flatMap fun k => bE F rk k) := by
   intro l
   induction l with
   | nil => intro _ _ _ s2 own _ _; exact ⟨by simp [psRs], by simp [b7], fun _ _ => rfl⟩
   | cons c l ihl =>
    intro hin hdl hil s2 own ho hno
    have hcc := h.wf.kid i hi c (hin c (by simp))
    rw [List.flatMap_cons, List.foldl_append, List.flatMap_cons]
    rw [List.flatMap_cons, List.nodup_append] at hdl
    have h1 := ih (some i) (own : Int) s2 hcc.1 (by omega) (fun e => by
     injection e with e
     have := hcc.2; rw [e] at this; omega) ho (hno c (by simp))
    have h2 := ihl (fun k hk => hin k (by simp [hk])) hdl.2.1 (fun k hk => hil k (by simp [hk])) ((dQ F rk c (some i)).foldl (ny F) s2) own
     ((h1.old (some i) (fun j hj e => by injection e with e; subst e; exact hil c (by simp) hj)).trans ho)
     (fun k hk j hj => (h1.old (some j) (fun j2 hj2 e => by
      injection e with e; subst e
      exact hdl.2.2 j hj2 j (List.mem_flatMap.2 ⟨k, hk, hj⟩) rfl)).trans (hno k (by simp [hk]) j hj))
    refine ⟨?_, ?_, fun k hk => ?_⟩
    ·rw [h2.ps, h1.ps, List.map_cons, psRs, List.append_assoc, List.length_append, kX]
    ·rw [h2.ns, h1.ns, List.map_cons, b7, List.append_assoc]
    ·rw [h2.old k (fun j hj => hk j (by simp [hj])), h1.old k (fun j hj => hk j (by simp [hj]))]
  have hin : ∀ k ∈ F.kids i, i ∉ bE F rk k := fun k hk hm => dZ.1 (List.mem_flatMap.2 ⟨k, hk, hm⟩)
  have h3 := key (F.kids i) (fun k hk => hk) dZ.2 hin (ny F s (i, p)) s.ps.length (sN _ hni) (fun k hk j hj => by
   show (ku s.mp (some i) _).lookup (some j) = none
   rw [dG _ (fun e => by injection e with e; subst e; exact hin k hk hj)]
   exact hn j (by rw [bW h.wf hi]; exact List.mem_cons_of_mem _ (List.mem_flatMap.2 ⟨k, hk, hj⟩)))
  have hps : (ny F s (i, p)).ps = s.ps ++ [np] := by
   show s.ps ++ [((ku s.mp (some i) _).lookup p).getD 0] = _
   rw [dG _ hp, hl]; rfl
  rw [List.foldl_cons]
  refine ⟨?_, ?_, fun k hk => ?_⟩
  ·rw [h3.ps, hps, psR, List.append_assoc, List.length_append]; rfl
  ·rw [h3.ns]
   show (s.ns ++ [F.nm i]) ++ _ = _
   rw [cm, List.append_assoc]; rfl
  ·rw [h3.old k (fun j hj => hk j (by simp [hj]))]
   exact dG _ (hk i (by simp))
theorem L9 (h : rG F n rk) {R : Nat} (hR : ∀ i, i < n → rk i ≤ R) {i : Nat} (hi : i < n) : fG F rk i = flat (aR F rk i) := by
 have h1 := VD h hR (d := rk i) none (-1) CF hi (Nat.le_refl _) (fun e => by cases e) rfl (fun j _ => rfl)
 unfold fG flat cM
 rw [h1.ps, h1.ns]
 rfl
end
end
section
open Go.RowKit Go.Deep
theorem Tryz.gB : (Tryz.prog.info? 26).map (fun i => (i.zero, i.size, i.bytes)) = some (some (.slice none 0 0), 1, 24) := by kernel_rfl
section
variable {P : Program} {ops : Array Oper} {rest : List Oper} {o : Oper} {a : Act} {Q : Exit → Act → World → Prop}
end
end
section
def firstR : RT → ByteArray
 | .node nm [] => nm
 | .node _ (k :: _) => firstR k
def insR (a : RT) : List RT → List RT
 | [] => [a]
 | b :: l => if cu (firstR a) (firstR b) ≤ 0 then a :: b :: l else b :: insR a l
mutual
def sortR : RT → RT
 | .node nm ks => .node nm (dw ks)
def dw : List RT → List RT
 | [] => []
 | r :: rs => insR (sortR r) (dw rs)
end
theorem FX {f : Nat → ByteArray} {g : Nat → RT} {a : Nat} (ha : firstR (g a) = f a) : ∀ l : List Nat, (∀ k ∈ l, firstR (g k) = f k) → insR (g a) (l.map g) = (insB f a l).map g
 | [], _ => rfl
 | b :: l, h => by
  have hb := h b (by simp)
  rw [List.map_cons, insR, insB, ha, hb]
  unfold mL
  by_cases e : cu (f a) (f b) ≤ 0
  ·rw [if_pos e, if_pos (by simpa using e)]; rfl
  ·rw [if_neg e, if_neg (by simpa using e), FX ha l (fun k hk => h k (by simp [hk]))]; rfl
theorem Aa {f : Nat → ByteArray} {l : List Nat} {k : Nat} : k ∈ p7 f l ↔ k ∈ l := by rw [← rH]; exact (dR f l).mem_iff
theorem Bd {f : Nat → ByteArray} {h : Nat → RT} : ∀ l : List Nat, (∀ k ∈ l, firstR (sortR (h k)) = f k) → dw (l.map h) = (p7 f l).map fun k => sortR (h k)
 | [], _ => rfl
 | a :: l, hf => by
  rw [List.map_cons, dw, p7, Bd l (fun k hk => hf k (by simp [hk]))]
  exact FX (g := fun k => sortR (h k)) (hf a (by simp)) (p7 f l) (fun k hk => hf k (by simp [Aa.1 hk]))
section
variable {F : aT} {n : Nat} {rk : Nat → Nat}
theorem Wf.gZ (h : Wf F n rk) (p : Nat → Bool) : Wf (F.gZ rk p) n rk := ⟨fun i hi k hk => h.kid i hi k ((F.ic rk p i).mem_iff.1 hk)⟩
theorem RD (h : Wf F n rk) (p : Nat → Bool) : ∀ {d i : Nat}, i < n → rk i ≤ d → (∀ j, bK F rk i j = true → p j = true) → aR (F.gZ rk p) rk i = sortR (aR F rk i) ∧ firstR (sortR (aR F rk i)) = fA F rk i := by
 intro d
 have Ui : ∀ i, p i = true → (F.gZ rk p).kids i = cD (fA F rk) (F.kids i) := fun i hp => by
  show (if p i then _ else _ : List Nat) = _
  rw [if_pos hp]
 induction d with
 | zero =>
  intro i hi hd hp
  have hk : F.kids i = [] := by
   cases hk : F.kids i with
   | nil => rfl
   | cons k l => have := (h.kid i hi k (by rw [hk]; simp)).2; omega
  have hk2 : (F.gZ rk p).kids i = [] := by rw [Ui i (hp i (iK h hi)), hk]; simp [cD]
  rw [cQ (h.gZ p) hi, cQ h hi, ry h hi, hk, hk2]
  refine ⟨rfl, ?_⟩
  simp [cD, sortR, dw, firstR]
 | succ d ih =>
  intro i hi hd hp
  have hk2 := Ui i (hp i (iK h hi))
  have key : ∀ k ∈ F.kids i, aR (F.gZ rk p) rk k = sortR (aR F rk k) ∧ firstR (sortR (aR F rk k)) = fA F rk k := fun k hk => by
   have hkk := h.kid i hi k hk
   exact ih hkk.1 (by omega) (fun j hj => hp j (mA h hi hk hj))
  have hs : dw ((F.kids i).map (aR F rk)) = (p7 (fA F rk) (F.kids i)).map fun k => sortR (aR F rk k) := Bd _ (fun k hk => (key k hk).2)
  rw [cQ (h.gZ p) hi, cQ h hi, ry h hi, hk2, rH, sortR, hs]
  refine ⟨?_, ?_⟩
  ·show RT.node (F.nm i) _ = _
   congr 1
   exact List.map_congr_left fun k hk => (key k (Aa.1 hk)).1
  ·cases hc : p7 (fA F rk) (F.kids i) with
   | nil => rfl
   | cons k l =>
    rw [List.map_cons, firstR]
    exact (key k (Aa.1 (by rw [hc]; simp))).2
end
def fC (t : aA) : RT := aR (cF t) (bM t) 0
theorem mR {t : aA} (h : aB t = 0) : gM t = flat (sortR (fC t)) := by
 obtain ⟨hp, _⟩ := aH h
 unfold gM
 rw [L9 (FV h) (R := t.ps.length) (fun i _ => uw t i) hp]
 congr 1
 exact (RD (cg h).wf _ hp (Nat.le_refl _) (fun j hj => by simpa using hj)).1
def kf (own : Nat) : List Int → Nat → List Nat
 | [], _ => []
 | p :: ps, b => if p = (own : Int) then b :: kf own ps (b + 1) else kf own ps (b + 1)
theorem rJ (own : Nat) : ∀ (a c : List Int) (b : Nat), kf own (a ++ c) b = kf own a b ++ kf own c (b + a.length)
 | [], c, b => rfl
 | x :: a, c, b => by
  rw [List.cons_append, kf, kf, rJ own a c (b + 1), List.length_cons, show b + 1 + a.length = b + (a.length + 1) by omega]
  split <;> rfl
theorem qL (own : Nat) : ∀ (a : List Int) (b : Nat), (∀ x ∈ a, x ≠ (own : Int)) → kf own a b = []
 | [], _, _ => rfl
 | x :: a, b, h => by rw [kf, if_neg (h x (by simp)), qL own a (b + 1) (fun y hy => h y (by simp [hy]))]
theorem FY {ps : List Int} {n : Nat} (h : ∀ i, i < ps.length → gi ps i = n → n < i) : bu ps n = kf n ps 0 := by
 have key : ∀ k, k ≤ ps.length → bG ps n k = kf n (ps.take k) 0 := by
  intro k
  induction k with
  | zero => intro _; rfl
  | succ k ih =>
   intro hk
   rw [kV, ih (by omega), List.take_succ_eq_append_getElem (show k < ps.length by omega), rJ, List.length_take, Nat.min_eq_left (by omega)]
   have hg : gi ps k = ps[k] := by simp [gi, show k < ps.length by omega]
   congr 1
   by_cases e : gi ps k = n
   ·rw [if_pos ⟨h k (by omega) e, e⟩, kf, if_pos (by rw [← hg]; exact e)]
    simp [kf]
   ·rw [if_neg (fun q => e q.2), kf, if_neg (by rw [← hg]; exact e)]; rfl
 unfold bu
 rw [key _ (Nat.le_refl _), List.take_length]
mutual
theorem FZ : ∀ (r : RT) (n : Nat) (p x : Int), x ∈ psR r n p → x = p ∨ ((n : Int) ≤ x ∧ x < ((n + aK r : Nat) : Int))
 | .node _ ks, n, p, x, h => by
  rw [psR, List.mem_cons] at h
  rcases h with h | h
  ·exact .inl h
  ·right
   rw [aK]
   rcases ux ks n (n + 1) x h with h1 | ⟨h1, h2⟩
   ·subst h1; exact ⟨by omega, by omega⟩
   ·exact ⟨by omega, by omega⟩
theorem ux : ∀ (rs : List RT) (own n : Nat) (x : Int), x ∈ psRs rs own n → x = (own : Int) ∨ ((n : Int) ≤ x ∧ x < ((n + sizeRs rs : Nat) : Int))
 | [], _, _, _, h => by simp [psRs] at h
 | r :: rs, own, n, x, h => by
  rw [psRs, List.mem_append] at h
  rw [sizeRs]
  rcases h with h | h
  ·rcases FZ r n own x h with h1 | ⟨h1, h2⟩
   ·exact .inl h1
   ·exact .inr ⟨h1, by omega⟩
  ·rcases ux rs own (n + aK r) x h with h1 | ⟨h1, h2⟩
   ·exact .inl h1
   ·exact .inr ⟨by omega, by omega⟩
end
def hdR : List RT → Nat → List Nat
 | [], _ => []
 | r :: rs, n => n :: hdR rs (n + aK r)
theorem CH (own : Nat) : ∀ (rs : List RT) (n : Nat), own < n → kf own (psRs rs own n) n = hdR rs n
 | [], _, _ => rfl
 | .node nm ks :: rs, n, h => by
  rw [psRs, hdR, rJ, kX, CH own rs _ (by omega), psR, kf, if_pos rfl]
  rw [qL own _ _ (fun x hx e => by
   rcases ux ks n (n + 1) x hx with h1 | ⟨h1, _⟩ <;> omega)]
  rfl
theorem jw (r : RT) : 0 < aK r := by cases r; rw [aK]; omega
theorem rK (a b : List Int) (k : Nat) : gi (a ++ b) (a.length + k) = gi b k := by simp [gi, List.getElem?_append_right]
theorem RF (a b : List ByteArray) (k : Nat) : gs (a ++ b) (a.length + k) = gs b k := by simp [gs, List.getElem?_append_right]
theorem uZ {a : List Int} (b : List Int) {k : Nat} (h : k < a.length) : gi (a ++ b) k = gi a k := by simp [gi, List.getElem?_append_left h]
theorem VE : ∀ (d : Nat) (r : RT) (n : Nat) (p : Int) (t : aA) (pre post : List Int) (Kf CI : List ByteArray), aK r ≤ d → t.ps = pre ++ (psR r n p ++ post) → t.ns = Kf ++ (cm r ++ CI) → pre.length = n → Kf.length = n → p < n → (∀ x ∈ pre, x < (n : Int)) → (∀ x ∈ post, x < (n : Int) ∨ ((n + aK r : Nat) : Int) ≤ x) → toRD (cF t) d n = r := by
 intro d
 induction d with
 | zero => intro r n p t pre post Kf CI hd; have := jw r; omega
 | succ d ih =>
  intro r n p t pre post Kf CI hd hps Bf hpl hnl hp hpre hpost
  obtain ⟨nm, ks⟩ := r
  rw [aK] at hd hpost
  rw [psR, List.cons_append] at hps
  rw [cm, List.cons_append] at Bf
  have hk : (cF t).kids n = hdR ks (n + 1) := by
   rw [fM, FY]
   ·rw [hps, rJ, qL n pre 0 (fun x hx e => by have := hpre x hx; omega), List.nil_append, kf, if_neg (by omega), rJ, hpl, Nat.zero_add, CH n ks (n + 1) (by omega), kC]
    rw [qL n post _ (fun x hx e => by rcases hpost x hx with h1 | h1 <;> omega), List.append_nil]
   ·intro i hi e
    rw [hps] at e
    rcases Nat.lt_trichotomy i n with h1 | h1 | h1
    ·rw [uZ _ (by omega)] at e
     have := hpre _ (pg (l := pre) (k := i) (by omega)); omega
    ·subst h1
     have h2 := rK pre (p :: (psRs ks i (i + 1) ++ post)) 0
     rw [hpl] at h2
     have h2 : gi (pre ++ p :: (psRs ks i (i + 1) ++ post)) i = p := h2
     rw [h2] at e
     have e : p = i := e
     omega
    ·exact h1
  have hnm : (cF t).nm n = nm := by
   show gs t.ns n = nm
   rw [Bf, ← hnl]
   exact RF Kf (nm :: (b7 ks ++ CI)) 0
  rw [toRD, hk, hnm]
  congr 1
  have key : ∀ (rs : List RT) (m : Nat) (pr : List Int) (nr : List ByteArray), sizeRs rs ≤ d → t.ps = pr ++ (psRs rs n m ++ post) → t.ns = nr ++ (b7 rs ++ CI) → pr.length = m → nr.length = m → n < m → (∀ x ∈ pr, x < (m : Int)) → (∀ x ∈ post, x < (n : Int) ∨ ((m + sizeRs rs : Nat) : Int) ≤ x) → (hdR rs m).map (toRD (cF t) d) = rs := by
   intro rs
   induction rs with
   | nil => intros; rfl
   | cons r rs ihr =>
    intro m pr nr hd2 RG RH LU tK hm Bg Bh
    rw [sizeRs] at hd2 Bh
    rw [psRs, List.append_assoc] at RG
    rw [b7, List.append_assoc] at RH
    rw [hdR, List.map_cons]
    have h1 := ih r m n t pr (psRs rs n (m + aK r) ++ post) nr (b7 rs ++ CI) (by omega) RG RH LU tK (by omega) Bg (fun x hx => by
     rcases List.mem_append.1 hx with hx | hx
     ·rcases ux rs n (m + aK r) x hx with h2 | ⟨h2, _⟩
      ·exact .inl (by omega)
      ·exact .inr h2
     ·rcases Bh x hx with h2 | h2
      ·exact .inl (by omega)
      ·exact .inr (by omega))
    have h2 := ihr (m + aK r) (pr ++ psR r m n) (nr ++ cm r) (by omega) (by rw [RG, List.append_assoc]) (by rw [RH, List.append_assoc])
     (by rw [List.length_append, kX, LU]) (by rw [List.length_append, yJ, tK]) (by omega) (fun x hx => by
      rcases List.mem_append.1 hx with hx | hx
      ·have := Bg x hx; omega
      ·rcases FZ r m n x hx with h3 | ⟨_, h3⟩ <;> omega) (fun x hx => by
      rcases Bh x hx with h3 | h3
      ·exact .inl h3
      ·exact .inr (by omega))
    rw [h1, h2]
  exact key ks (n + 1) (pre ++ [p]) (Kf ++ [nm]) (by omega) (by rw [hps, List.append_assoc]; rfl) (by rw [Bf, List.append_assoc]; rfl) (by simp [hpl]) (by simp [hnl]) (by omega) (fun x hx => by
   rcases List.mem_append.1 hx with hx | hx
   ·have := hpre x hx; omega
   ·have : x = p := by simpa using hx
    omega) (fun x hx => by
   rcases hpost x hx with h3 | h3
   ·exact .inl h3
   ·exact .inr (by omega))
theorem uy (r : RT) : (flat r).ps.length = aK r := kX r 0 (-1)
theorem CJ (r : RT) : (flat r).ns.length = aK r := yJ r
theorem F0 (r : RT) : fC (flat r) = r := by
 unfold fC aR
 have h : bM (flat r) 0 = aK r := by unfold bM; rw [uy, Nat.sub_zero]
 rw [h]
 exact VE (aK r) r 0 (-1) (flat r) [] [] [] [] (Nat.le_refl _) (by simp [flat]) (by simp [flat]) rfl rfl (by omega) (fun x hx => by simp at hx) (fun x hx => by simp at hx)
end
section
open Go.RowKit Go.Shelf Go.Deep
section
attribute [local go_sem] Oper.semAt_some
end
end
section
mutual
def subR : RT → List RT
 | .node nm ks => .node nm ks :: subRs ks
def subRs : List RT → List RT
 | [] => []
 | r :: rs => subR r ++ subRs rs
end
mutual
theorem jE : ∀ r : RT, (subR r).length = aK r
 | .node _ ks => by rw [subR, aK, List.length_cons, DO ks]; omega
theorem DO : ∀ rs : List RT, (subRs rs).length = sizeRs rs
 | [] => rfl
 | r :: rs => by rw [subRs, sizeRs, List.length_append, jE r, DO rs]
end
mutual
theorem qM : ∀ r : RT, cm r = (subR r).map RT.nm
 | .node nm ks => by rw [subR, cm, List.map_cons, F2 ks]; rfl
theorem F2 : ∀ rs : List RT, b7 rs = (subRs rs).map RT.nm
 | [] => rfl
 | r :: rs => by rw [subRs, b7, List.map_append, qM r, F2 rs]
end
theorem jF (rs : List RT) : subRs rs = rs.flatMap subR := by
 induction rs with
 | nil => rfl
 | cons r rs ih => rw [subRs, List.flatMap_cons, ih]
def AtR (t : aA) (r : RT) (n : Nat) (p : Int) : Prop := ∃ pre post, t.ps = pre ++ (psR r n p ++ post) ∧ pre.length = n ∧ p < n ∧ (∀ x ∈ pre, x < (n : Int)) ∧ (∀ x ∈ post, x < (n : Int) ∨ ((n + aK r : Nat) : Int) ≤ x)
def F3 (t : aA) (rs : List RT) (own m : Nat) : Prop := ∃ pre post, t.ps = pre ++ (psRs rs own m ++ post) ∧ pre.length = m ∧ own < m ∧ (∀ x ∈ pre, x < (m : Int)) ∧ (∀ x ∈ post, x < (own : Int) ∨ ((m + sizeRs rs : Nat) : Int) ≤ x)
theorem AtR.kids {t : aA} {nm : ByteArray} {ks : List RT} {n : Nat} {p : Int} (h : AtR t (.node nm ks) n p) : bu t.ps n = hdR ks (n + 1) ∧ F3 t ks n (n + 1) := by
 obtain ⟨pre, post, hps, hpl, hp, hpre, hpost⟩ := h
 rw [aK] at hpost
 rw [psR, List.cons_append] at hps
 constructor
 ·rw [FY]
  ·rw [hps, rJ, qL n pre 0 (fun x hx e => by have := hpre x hx; omega), List.nil_append, kf, if_neg (by omega), rJ, hpl, Nat.zero_add, CH n ks (n + 1) (by omega), kC]
   rw [qL n post _ (fun x hx e => by rcases hpost x hx with h1 | h1 <;> omega), List.append_nil]
  ·intro i hi e
   rw [hps] at e
   rcases Nat.lt_trichotomy i n with h1 | h1 | h1
   ·rw [uZ _ (by omega)] at e
    have := hpre _ (pg (l := pre) (k := i) (by omega)); omega
   ·subst h1
    have h2 := rK pre (p :: (psRs ks i (i + 1) ++ post)) 0
    rw [hpl] at h2
    have h2 : gi (pre ++ p :: (psRs ks i (i + 1) ++ post)) i = p := h2
    rw [h2] at e
    omega
   ·exact h1
 ·refine ⟨pre ++ [p], post, by rw [hps, List.append_assoc]; rfl, by simp [hpl], by omega, fun x hx => ?_, fun x hx => ?_⟩
  ·rcases List.mem_append.1 hx with hx | hx
   ·have := hpre x hx; omega
   ·have : x = p := by simpa using hx
    omega
  ·rcases hpost x hx with h3 | h3
   ·exact .inl h3
   ·exact .inr (by omega)
theorem F3.cons {t : aA} {r : RT} {rs : List RT} {own m : Nat} (h : F3 t (r :: rs) own m) : AtR t r m own ∧ F3 t rs own (m + aK r) := by
 obtain ⟨pre, post, hps, hpl, hm, hpre, hpost⟩ := h
 rw [sizeRs] at hpost
 rw [psRs, List.append_assoc] at hps
 constructor
 ·refine ⟨pre, _, hps, hpl, by omega, hpre, fun x hx => ?_⟩
  rcases List.mem_append.1 hx with hx | hx
  ·rcases ux rs own (m + aK r) x hx with h2 | ⟨h2, _⟩
   ·exact .inl (by omega)
   ·exact .inr h2
  ·rcases hpost x hx with h2 | h2
   ·exact .inl (by omega)
   ·exact .inr (by omega)
 ·refine ⟨pre ++ psR r m own, post, by rw [hps, List.append_assoc], by rw [List.length_append, kX, hpl], by omega, fun x hx => ?_, fun x hx => ?_⟩
  ·rcases List.mem_append.1 hx with hx | hx
   ·have := hpre x hx; omega
   ·rcases FZ r m own x hx with h3 | ⟨_, h3⟩ <;> omega
  ·rcases hpost x hx with h3 | h3
   ·exact .inl h3
   ·exact .inr (by omega)
mutual
theorem Kg {t : aA} : ∀ (r : RT) (n : Nat) (p : Int), AtR t r n p → ∀ (i : Nat) (s : RT), (subR r)[i]? = some s → bu t.ps (n + i) = hdR s.kids (n + i + 1)
 | .node nm ks, n, p, h, i, s, hs => by
  rw [subR] at hs
  cases i with
  | zero =>
   have e : RT.node nm ks = s := by simpa using hs
   subst e
   exact h.kids.1
  | succ i =>
   rw [List.getElem?_cons_succ] at hs
   have := F4 ks n (n + 1) h.kids.2 i s hs
   rw [show n + (i + 1) = n + 1 + i by omega]; exact this
theorem F4 {t : aA} : ∀ (rs : List RT) (own m : Nat), F3 t rs own m → ∀ (i : Nat) (s : RT), (subRs rs)[i]? = some s → bu t.ps (m + i) = hdR s.kids (m + i + 1)
 | [], _, _, _, i, s, hs => by simp [subRs] at hs
 | r :: rs, own, m, h, i, s, hs => by
  rw [subRs] at hs
  by_cases hi : i < aK r
  ·rw [List.getElem?_append_left (by rw [jE]; exact hi)] at hs
   exact Kg r m own h.cons.1 i s hs
  ·rw [List.getElem?_append_right (by rw [jE]; omega), jE] at hs
   have := F4 rs own (m + aK r) h.cons.2 (i - aK r) s hs
   rw [show m + aK r + (i - aK r) = m + i by omega] at this; exact this
end
theorem AtR.flat (r : RT) : AtR (flat r) r 0 (-1) := ⟨[], [], by simp [YtpnmblnahjjmhaaGreat.flat], rfl, by omega, fun x hx => by simp at hx, fun x hx => by simp at hx⟩
theorem Oy {r : RT} {i : Nat} {s : RT} (h : (subR r)[i]? = some s) : bu (flat r).ps i = hdR s.kids (i + 1) := by
 have := Kg r 0 (-1) (AtR.flat r) i s h
 simpa using this
mutual
theorem Oz : ∀ (r : RT) (n : Nat) (p : Int) (j : Nat), 0 < j → j < aK r → (n : Int) ≤ gi (psR r n p) j ∧ gi (psR r n p) j < ((n + j : Nat) : Int)
 | .node nm ks, n, p, j, h0, hj => by
  rw [aK] at hj
  obtain ⟨k, rfl⟩ : ∃ k, j = k + 1 := ⟨j - 1, by omega⟩
  have h := Kh ks n (n + 1) k (by omega) (by omega)
  have e : gi (psR (.node nm ks) n p) (k + 1) = gi (psRs ks n (n + 1)) k := by rw [psR]; simp [gi]
  rw [e]
  exact ⟨h.1, by have := h.2; omega⟩
theorem Kh : ∀ (rs : List RT) (own n j : Nat), own < n → j < sizeRs rs → (own : Int) ≤ gi (psRs rs own n) j ∧ gi (psRs rs own n) j < ((n + j : Nat) : Int)
 | [], _, _, _, _, h => by simp [sizeRs] at h
 | r :: rs, own, n, j, ho, hj => by
  rw [sizeRs] at hj
  rw [psRs]
  by_cases hr : j < aK r
  ·rw [uZ _ (by rw [kX]; exact hr)]
   by_cases h0 : j = 0
   ·subst h0
    obtain ⟨nm, ks⟩ := r
    have e : gi (psR (.node nm ks) n own) 0 = own := by rw [psR]; simp [gi]
    rw [e]; exact ⟨by omega, by omega⟩
   ·have h := Oz r n own j (by omega) hr
    exact ⟨by omega, h.2⟩
  ·have h := Kh rs own (n + aK r) (j - aK r) (by omega) (by omega)
   have e := rK (psR r n own) (psRs rs own (n + aK r)) (j - aK r)
   rw [kX, show aK r + (j - aK r) = j by omega] at e
   rw [e]
   exact ⟨h.1, by have := h.2; omega⟩
end
theorem F5 (r : RT) : fK (flat r).ps = true := by
 refine zT fun j hj => ?_
 rw [uy] at hj
 show mH j (gi (psR r 0 (-1)) j) = true
 unfold mH
 by_cases h0 : j = 0
 ·subst h0
  obtain ⟨nm, ks⟩ := r
  rw [if_pos rfl, psR]; rfl
 ·rw [if_neg h0]
  have h := Oz r 0 (-1) j (by omega) hj
  have h1 : 0 ≤ gi (psR r 0 (-1)) j := by have := h.1; omega
  have h2 : gi (psR r 0 (-1)) j < (j : Int) := by have := h.2; omega
  simp [h1, h2]
def aZ (r : RT) : List ByteArray := (cm r).filter fun s => decide (s.size ≠ 0)
structure gC (r : RT) : Prop where
 uz : ∀ s ∈ subR r, s.kids ≠ [] → s.nm.size = 0
 lf : ∀ s ∈ subR r, s.kids = [] → bq s.nm.data.toList = true
 nd : (aZ r).Nodup
theorem dS {s : ByteArray} (h : bq s.data.toList = true) : s.size ≠ 0 := by
 intro e
 have : s.data.toList = [] := by
  apply List.eq_nil_of_length_eq_zero
  simpa using e
 rw [this] at h
 revert h; decide
theorem xD {r : RT} (h : gC r) (hs : aK r ≤ 64) : aB (flat r) = 0 := by
 unfold aB
 rw [uy, CJ, if_neg (by have := jw r; omega), if_neg (by omega), if_neg (by simp), if_pos (F5 r)]
 refine cA fun i hi => ?_
 have hi2 : i < (subR r).length := by rw [jE]; exact hi
 obtain ⟨s, hsi⟩ : ∃ s, (subR r)[i]? = some s := ⟨_, List.getElem?_eq_getElem hi2⟩
 have hmem : s ∈ subR r := List.mem_of_getElem? hsi
 have hk := Oy hsi
 have hnm : gs (flat r).ns i = s.nm := by
  show gs (cm r) i = _
  rw [qM]; simp [gs, hsi]
 have hin := j9 (F5 r) i
 unfold iR
 rw [hnm]
 by_cases hks : s.kids = []
 ·have h1 : isIn (flat r).ps i = false := by
   cases hb : isIn (flat r).ps i with
   | false => rfl
   | true => exact absurd (by rw [hk, hks]; rfl) (hin.2 hb)
  rw [h1, if_neg (by simp), if_pos (h.lf s hmem hks)]
  have h2 : cZ (flat r).ns i = false := by
   rw [Bool.eq_false_iff]; intro e
   obtain ⟨j, hj, e⟩ := List.any_eq_true.1 e
   have hj : j < i := List.mem_range.1 hj
   have e : gs (cm r) j = gs (cm r) i := of_decide_eq_true e
   have Uj := List.pairwise_filter.1 h.nd
   have oo := yJ r
   have h3 := List.pairwise_iff_getElem.1 Uj j i (by omega) (by omega) hj
   have hgj : gs (cm r) j = (cm r)[j]'(by omega) := by simp [gs, show j < (cm r).length by omega]
   have hgi : gs (cm r) i = (cm r)[i]'(by omega) := by simp [gs, show i < (cm r).length by omega]
   rw [← hgj, ← hgi, e] at h3
   have h4 : gs (cm r) i = s.nm := hnm
   have h5 := dS (h.lf s hmem hks)
   rw [h4] at h3
   exact h3 (by simpa using h5) (by simpa using h5) rfl
  rw [h2]; rfl
 ·have h1 : isIn (flat r).ps i = true := hin.1 (by
   rw [hk]
   cases hq : s.kids with
   | nil => exact absurd hq hks
   | cons a l => simp [hdR])
  rw [h1, if_pos rfl, if_pos (h.uz s hmem hks)]
end
end Go.Proofs.YtpnmblnahjjmhaaGreat
