/- The contract of layer 31's reference's children. The contract of sharederror.check. Rose .. -/
import Derived.Test.YteegefnjnikngaaGreatQ3
import Derived.Test.YteegefnjnikngaaGreatQ1
import Derived.Test.YteegefnjnikngaaGreatQ16
import Derived.Test.YteegefnjnikngaaGreatQ7
import Derived.Test.YteegefnjnikngaaGreatQ5
set_option maxRecDepth 100000
namespace Go.Proofs.YteegefnjnikngaaGreat
section
open Go.RowKit Go.Deep
def Tu (w : World) (l : List Nat) (e : Ending) (w' : World) : Prop := Below w.heap.size w w' ∧ ∃ v, e = .returned v ∧ ax (fun b => w.heap.size ≤ b) w' v (dm l)
set_option maxHeartbeats 800000 in
theorem Gq (S : Nat → Prop) (w : World) (v : Value) (t : av) (n : Nat) (h : ay S w v t) (hp : t.ps.length ≤ 1000000) (hn : n < t.ps.length) :
  Calls Tryz.prog 103 #[v, .int .i64 n] w (Tu w (bX t.ps n)) := by
 obtain ⟨P, N, rfl, hP, hN⟩ := h
 have hb0 : Below w.heap.size w (w.alloc (.cells #[P, N] 39)) := (Below.refl _ _).alloc (Nat.le_refl _) _
 have Ze := hP.keep (Kept.below hb0)
 have kF : (w.alloc (.cells #[P, N] 39)).cell? ⟨w.heap.size, 0, none⟩ = some P := by simp [World.cell?_alloc_new]
 obtain ⟨ps, ns⟩ := t
 simp only at *
 obtain ⟨p, cap, rfl, hcap, HP⟩ := aA.open Ze
 have hsz : (w.alloc (.cells #[.slice p ps.length cap, N] 39)).heap.size = w.heap.size + 1 := by simp
 have HS := aa hsz
 have gG := aa hb0
 have Gd := aa kF
 have tq := aa HP
 clear HP Ze hP hN hb0 kF hsz
 go_enter Tryz.func103, Tryz.ntmps103
 go_wp2_with fail
 generalize hw0 : w.alloc (.cells #[.slice p ps.length cap, N] 39) = w0 at *
 clear hw0
 go_loopw [5, 6] (fun v i wr => ∃ k : Nat, n + 1 ≤ k ∧ k ≤ ps.length ∧ i = .int .i64 k ∧ az (w.heap.size + 1) 3 wr v ((dm (bS ps n k)).map (Value.int .i64)) ∧ Below (w.heap.size + 1) w0 wr) (fun _ i _ => ps.length - (intOf i).toNat)
 case atStart => exact ⟨n + 1, Nat.le_refl _, by omega, by go_num, by rw [wk]; exact az.nil _ _ _, Below.refl _ _⟩
 case round =>
  obtain ⟨k, hk1, hk, rfl, hown, hbr⟩ := hrel
  have kF : wr.cell? ⟨w.heap.size, 0, none⟩ = some (.slice p ps.length cap) := (hbr.cell (p := ⟨w.heap.size, 0, none⟩) (by simp)).trans Gd.out
  by_cases hlt : k < ps.length
  ·obtain ⟨b, off, rfl, hc0⟩ := tq.out k hlt
   have hc : wr.cell? ⟨b, off + k, none⟩ = some (.int .i64 (gi ps k)) := by
    rw [hbr.cell (p := ⟨b, off + k, none⟩) (by have := World.block_lt_of_cell? _ _ hc0; have := HS.out; simp at *; omega)]; exact hc0
   have hsz : w.heap.size + 1 ≤ wr.heap.size := by have := hbr.size; have := HS.out; omega
   have iW := iz ps n k
   have oA := aa iW
   have dN : Hid (((dm (bS ps n k)).map (Value.int .i64)).length ≤ 1000000) := by
    have := mM ps n k
    unfold Hid dm; rw [List.length_map, List.length_map]; omega
   clear hc0 iW tq
   generalize Ar : gi ps k = x at *
   clear Ar
   by_cases hx : x = n
   ·have hx1 : (x == (n : Int)) = true := by simp [hx]
    have HX : Hid (n < k ∧ x = n) := ⟨by omega, hx⟩
    clear hx
    go_wp2_with (at_builtin; refine jT wr rfl _ _ 26 rfl (w.heap.size + 1) 3 _ 8 Tryz.underlying26 Tryz.jx rfl (by decide) hown rfl _ rfl rfl dN.out hsz ?_; intro g cap w2 hown1 hg1 hb1)
    go_roundw
    case rel => exact ⟨k + 1, by omega, by omega, by go_num, by rw [oA.out, if_pos HX.out, Cg, List.map_append]; rw [List.length_map] at hown1; exact hown1, hbr.trans hb1⟩
    case measure => simp [intOf]; omega
   ·have hx1 : (x == (n : Int)) = false := by simpa using hx
    have HX : Hid ¬ (n < k ∧ x = n) := fun h => hx h.2
    clear hx
    go_wp2_with fail
    go_roundw
    case rel => exact ⟨k + 1, by omega, by omega, by go_num, by rw [oA.out, if_neg HX.out, List.append_nil]; exact hown, hbr⟩
    case measure => simp [intOf]; omega
  ·obtain rfl : k = ps.length := by omega
   clear hlt hk
   go_wp2_with fail
   go_ret
   exact ⟨gG.out.trans (hbr.mono (by omega)), _, rfl, hown.ints.sub fun b hb _ => by omega⟩
end
section
open Go.RowKit Go.Deep
end
section
inductive RT where
 | node (nm : ByteArray) (kids : List RT)
namespace RT
def nm : RT → ByteArray | .node n _ => n
def kids : RT → List RT | .node _ k => k
end RT
mutual
def aG : RT → Nat
 | .node _ ks => 1 + sizeRs ks
def sizeRs : List RT → Nat
 | [] => 0
 | r :: rs => aG r + sizeRs rs
end
mutual
def psR : RT → Nat → Int → List Int
 | .node _ ks, n, p => p :: psRs ks n (n + 1)
def psRs : List RT → Nat → Nat → List Int
 | [], _, _ => []
 | r :: rs, own, n => psR r n (own : Int) ++ psRs rs own (n + aG r)
end
mutual
def b7 : RT → List ByteArray
 | .node nm ks => nm :: cu ks
def cu : List RT → List ByteArray
 | [] => []
 | r :: rs => b7 r ++ cu rs
end
def flat (r : RT) : av := ⟨psR r 0 (-1), b7 r⟩
mutual
theorem jA : ∀ (r : RT) (n : Nat) (p : Int), (psR r n p).length = aG r
 | .node _ ks, n, p => by simp only [psR, aG, List.length_cons]; rw [mh ks n (n + 1)]; omega
theorem mh : ∀ (rs : List RT) (own n : Nat), (psRs rs own n).length = sizeRs rs
 | [], _, _ => rfl
 | r :: rs, own, n => by simp only [psRs, sizeRs, List.length_append]; rw [jA r n own, mh rs own (n + aG r)]
end
mutual
theorem vC : ∀ (r : RT), (b7 r).length = aG r
 | .node _ ks => by simp only [b7, aG, List.length_cons]; rw [xG ks]; omega
theorem xG : ∀ (rs : List RT), (cu rs).length = sizeRs rs
 | [] => rfl
 | r :: rs => by simp only [cu, sizeRs, List.length_append]; rw [vC r, xG rs]
end
def toRD (F : aL) : Nat → Nat → RT
 | 0, i => .node (F.nm i) []
 | d + 1, i => .node (F.nm i) ((F.kids i).map (toRD F d))
def aM (F : aL) (rk : Nat → Nat) (i : Nat) : RT := toRD F (rk i) i
section
variable {F : aL} {n : Nat} {rk : Nat → Nat}
theorem A3 (h : Wf F n rk) : ∀ {d e i : Nat}, i < n → rk i ≤ d → rk i ≤ e → toRD F d i = toRD F e i := by
 intro d
 induction d with
 | zero =>
  intro e i hi hd he
  have hk : F.kids i = [] := by
   cases hk : F.kids i with
   | nil => rfl
   | cons k l => have := (h.kid i hi k (by rw [hk]; simp)).2; omega
  cases e with
  | zero => rfl
  | succ e => simp [toRD, hk]
 | succ d ih =>
  intro e i hi hd he
  cases e with
  | zero =>
   have hk : F.kids i = [] := by
    cases hk : F.kids i with
    | nil => rfl
    | cons k l => have := (h.kid i hi k (by rw [hk]; simp)).2; omega
   simp [toRD, hk]
  | succ e =>
   simp only [toRD]
   congr 1
   refine List.map_congr_left fun k hk => ?_
   have := h.kid i hi k hk
   exact ih this.1 (by omega) (by omega)
theorem cI (h : Wf F n rk) {i : Nat} (hi : i < n) : aM F rk i = .node (F.nm i) ((F.kids i).map (aM F rk)) := by
 have h1 : aM F rk i = toRD F (rk i + 1) i := A3 h hi (Nat.le_refl _) (Nat.le_succ _)
 rw [h1]
 simp only [toRD]
 congr 1
 refine List.map_congr_left fun k hk => ?_
 have := h.kid i hi k hk
 exact A3 h this.1 (by omega) (Nat.le_refl _)
theorem cF {l : List (Option Nat × Int)} {k j : Option Nat} (v : Int) (h : j ≠ k) : (ji l k v).lookup j = l.lookup j := by
 have hne : (j == k) = false := by simpa using h
 unfold ji
 split
 ·induction l with
  | nil => simp [List.lookup, hne]
  | cons x l ih =>
   rename_i hl
   obtain ⟨x1, x2⟩ := x
   rw [List.cons_append, List.lookup_cons, List.lookup_cons]
   cases hx : (j == x1)
   ·refine ih ?_
    rw [List.lookup_cons] at hl
    cases hx2 : (k == x1)
    ·rw [hx2] at hl; exact hl
    ·rw [hx2] at hl; cases hl
   ·rfl
 ·have key : ∀ q : List (Option Nat × Int), List.lookup j (q.map (fun x => if x.1 = k then (k, v) else x)) = List.lookup j q := by
   intro q
   induction q with
   | nil => rfl
   | cons x l ih =>
    obtain ⟨x1, x2⟩ := x
    rw [List.map_cons, List.lookup_cons]
    by_cases e : x1 = k
    ·subst e
     simp only [if_true]
     rw [List.lookup_cons, hne]; exact ih
    ·rw [if_neg e, List.lookup_cons]
     cases (j == x1)
     ·exact ih
     ·rfl
  exact key l
theorem qi {l : List (Option Nat × Int)} {k : Option Nat} (v : Int) (h : l.lookup k = none) : (ji l k v).lookup k = some v := by
 unfold ji
 rw [h]
 simp only [Option.isNone_none, if_true]
 induction l with
 | nil => simp
 | cons x l ih =>
  obtain ⟨x1, x2⟩ := x
  rw [List.lookup_cons] at h
  rw [List.cons_append, List.lookup_cons]
  cases hx : (k == x1)
  ·rw [hx] at h; exact ih h
  ·rw [hx] at h; cases h
structure Cq (s s' : tC) (ps : List Int) (ns : List ByteArray) (nd : List Nat) : Prop where
 ps : s'.ps = s.ps ++ ps
 ns : s'.ns = s.ns ++ ns
 old : ∀ k : Option Nat, (∀ j ∈ nd, k ≠ some j) → s'.mp.lookup k = s.mp.lookup k
theorem QX (h : qh F n rk) {R : Nat} (hR : ∀ i, i < n → rk i ≤ R) : ∀ {d i : Nat} (p : Option Nat) (np : Int) (s : tC), i < n → rk i ≤ d → p ≠ some i → s.mp.lookup p = some np → (∀ j ∈ bz F rk i, s.mp.lookup (some j) = none) →
  Cq s ((cK F rk i p).foldl (lg F) s) (psR (aM F rk i) s.ps.length np) (b7 (aM F rk i)) (bz F rk i) := by
 intro d
 induction d with
 | zero =>
  intro i p np s hi hd hp hl hn
  have hk : F.kids i = [] := by
   cases hk : F.kids i with
   | nil => rfl
   | cons k l => have := (h.wf.kid i hi k (by rw [hk]; simp)).2; omega
  rw [eH h.wf hi, cI h.wf hi, bI h.wf hi, hk]
  have hni := hn i (by rw [bI h.wf hi]; simp)
  refine ⟨?_, ?_, fun k hk2 => cF _ (hk2 i (by simp))⟩
  ·show s.ps ++ [((ji s.mp (some i) _).lookup p).getD 0] = _
   rw [cF _ hp, hl]; rfl
  ·rfl
 | succ d ih =>
  intro i p np s hi hd hp hl hn
  rw [eH h.wf hi, cI h.wf hi, bI h.wf hi]
  have hni := hn i (by rw [bI h.wf hi]; simp)
  have fF := gU h hR hi (Nat.le_refl (rk i))
  rw [bI h.wf hi, List.nodup_cons] at fF
  have key : ∀ (l : List Nat), (∀ k ∈ l, k ∈ F.kids i) → (l.flatMap fun k => bz F rk k).Nodup → (∀ k ∈ l, i ∉ bz F rk k) → ∀ (s2 : tC) (own : Nat), s2.mp.lookup (some i) = some (own : Int) → (∀ k ∈ l, ∀ j ∈ bz F rk k, s2.mp.lookup (some j) = none) →
    Cq s2 ((l.flatMap fun k => cK F rk k (some i)).foldl (lg F) s2) (psRs (l.map (aM F rk)) own s2.ps.length) (cu (l.map (aM F rk))) (l.flatMap fun k => bz F rk k) := by
   intro l
   induction l with
   | nil => intro _ _ _ s2 own _ _; exact ⟨by simp [psRs], by simp [cu], fun _ _ => rfl⟩
   | cons c l ihl =>
    intro hin hdl hil s2 own ho hno
    have hcc := h.wf.kid i hi c (hin c (by simp))
    rw [List.flatMap_cons, List.foldl_append, List.flatMap_cons]
    rw [List.flatMap_cons, List.nodup_append] at hdl
    have h1 := ih (some i) (own : Int) s2 hcc.1 (by omega) (fun e => by
     injection e with e
     have := hcc.2; rw [e] at this; omega) ho (hno c (by simp))
    have h2 := ihl (fun k hk => hin k (by simp [hk])) hdl.2.1 (fun k hk => hil k (by simp [hk])) ((cK F rk c (some i)).foldl (lg F) s2) own
     ((h1.old (some i) (fun j hj e => by injection e with e; subst e; exact hil c (by simp) hj)).trans ho)
     (fun k hk j hj => (h1.old (some j) (fun j2 hj2 e => by
      injection e with e; subst e
      exact hdl.2.2 j hj2 j (List.mem_flatMap.2 ⟨k, hk, hj⟩) rfl)).trans (hno k (by simp [hk]) j hj))
    refine ⟨?_, ?_, fun k hk => ?_⟩
    ·rw [h2.ps, h1.ps, List.map_cons, psRs, List.append_assoc, List.length_append, jA]
    ·rw [h2.ns, h1.ns, List.map_cons, cu, List.append_assoc]
    ·rw [h2.old k (fun j hj => hk j (by simp [hj])), h1.old k (fun j hj => hk j (by simp [hj]))]
  have hin : ∀ k ∈ F.kids i, i ∉ bz F rk k := fun k hk hm => fF.1 (List.mem_flatMap.2 ⟨k, hk, hm⟩)
  have h3 := key (F.kids i) (fun k hk => hk) fF.2 hin (lg F s (i, p)) s.ps.length (qi _ hni) (fun k hk j hj => by
   show (ji s.mp (some i) _).lookup (some j) = none
   rw [cF _ (fun e => by injection e with e; subst e; exact hin k hk hj)]
   exact hn j (by rw [bI h.wf hi]; exact List.mem_cons_of_mem _ (List.mem_flatMap.2 ⟨k, hk, hj⟩)))
  have hps : (lg F s (i, p)).ps = s.ps ++ [np] := by
   show s.ps ++ [((ji s.mp (some i) _).lookup p).getD 0] = _
   rw [cF _ hp, hl]; rfl
  rw [List.foldl_cons]
  refine ⟨?_, ?_, fun k hk => ?_⟩
  ·rw [h3.ps, hps, psR, List.append_assoc, List.length_append]; rfl
  ·rw [h3.ns]
   show (s.ns ++ [F.nm i]) ++ _ = _
   rw [b7, List.append_assoc]; rfl
  ·rw [h3.old k (fun j hj => hk j (by simp [hj]))]
   exact cF _ (hk i (by simp))
theorem Iu (h : qh F n rk) {R : Nat} (hR : ∀ i, i < n → rk i ≤ R) {i : Nat} (hi : i < n) : ew F rk i = flat (aM F rk i) := by
 have h1 := QX h hR (d := rk i) none (-1) zJ hi (Nat.le_refl _) (fun e => by cases e) rfl (fun j _ => rfl)
 unfold ew flat bW
 rw [h1.ps, h1.ns]
 rfl
end
end
section
open Go.RowKit Go.Deep
section
variable {P : Program} {ops : Array Oper} {rest : List Oper} {o : Oper} {a : Act} {Q : Exit → Act → World → Prop}
end
end
section
def firstR : RT → ByteArray
 | .node nm [] => nm
 | .node _ (k :: _) => firstR k
def insR (a : RT) : List RT → List RT
 | [] => [a]
 | b :: l => if bK (firstR a) (firstR b) ≤ 0 then a :: b :: l else b :: insR a l
mutual
def sortR : RT → RT
 | .node nm ks => .node nm (cM ks)
def cM : List RT → List RT
 | [] => []
 | r :: rs => insR (sortR r) (cM rs)
end
theorem Du {f : Nat → ByteArray} {g : Nat → RT} {a : Nat} (ha : firstR (g a) = f a) : ∀ l : List Nat, (∀ k ∈ l, firstR (g k) = f k) → insR (g a) (l.map g) = (insB f a l).map g
 | [], _ => rfl
 | b :: l, h => by
  have hb := h b (by simp)
  rw [List.map_cons, insR, insB, ha, hb]
  unfold kH
  by_cases e : bK (f a) (f b) ≤ 0
  ·rw [if_pos e, if_pos (by simpa using e)]; rfl
  ·rw [if_neg e, if_neg (by simpa using e), Du ha l (fun k hk => h k (by simp [hk]))]; rfl
theorem xH {f : Nat → ByteArray} {l : List Nat} {k : Nat} : k ∈ qP f l ↔ k ∈ l := by rw [← xF]; exact (cU f l).mem_iff
theorem yF {f : Nat → ByteArray} {h : Nat → RT} : ∀ l : List Nat, (∀ k ∈ l, firstR (sortR (h k)) = f k) → cM (l.map h) = (qP f l).map fun k => sortR (h k)
 | [], _ => rfl
 | a :: l, hf => by
  rw [List.map_cons, cM, qP, yF l (fun k hk => hf k (by simp [hk]))]
  exact Du (g := fun k => sortR (h k)) (hf a (by simp)) (qP f l) (fun k hk => hf k (by simp [xH.1 hk]))
section
variable {F : aL} {n : Nat} {rk : Nat → Nat}
theorem Wf.fO (h : Wf F n rk) (p : Nat → Bool) : Wf (F.fO rk p) n rk := ⟨fun i hi k hk => h.kid i hi k ((F.fB rk p i).mem_iff.1 hk)⟩
theorem Nh (h : Wf F n rk) (p : Nat → Bool) : ∀ {d i : Nat}, i < n → rk i ≤ d → (∀ j, bA F rk i j = true → p j = true) → aM (F.fO rk p) rk i = sortR (aM F rk i) ∧ firstR (sortR (aM F rk i)) = ek F rk i := by
 intro d
 have Px : ∀ i, p i = true → (F.fO rk p).kids i = bT (ek F rk) (F.kids i) := fun i hp => by
  show (if p i then _ else _ : List Nat) = _
  rw [if_pos hp]
 induction d with
 | zero =>
  intro i hi hd hp
  have hk : F.kids i = [] := by
   cases hk : F.kids i with
   | nil => rfl
   | cons k l => have := (h.kid i hi k (by rw [hk]; simp)).2; omega
  have hk2 : (F.fO rk p).kids i = [] := by rw [Px i (hp i (fV h hi)), hk]; simp [bT]
  rw [cI (h.fO p) hi, cI h hi, oH h hi, hk, hk2]
  refine ⟨rfl, ?_⟩
  simp [bT, sortR, cM, firstR]
 | succ d ih =>
  intro i hi hd hp
  have hk2 := Px i (hp i (fV h hi))
  have key : ∀ k ∈ F.kids i, aM (F.fO rk p) rk k = sortR (aM F rk k) ∧ firstR (sortR (aM F rk k)) = ek F rk k := fun k hk => by
   have hkk := h.kid i hi k hk
   exact ih hkk.1 (by omega) (fun j hj => hp j (ku h hi hk hj))
  have hs : cM ((F.kids i).map (aM F rk)) = (qP (ek F rk) (F.kids i)).map fun k => sortR (aM F rk k) := yF _ (fun k hk => (key k hk).2)
  rw [cI (h.fO p) hi, cI h hi, oH h hi, hk2, xF, sortR, hs]
  refine ⟨?_, ?_⟩
  ·show RT.node (F.nm i) _ = _
   congr 1
   exact List.map_congr_left fun k hk => (key k (xH.1 hk)).1
  ·cases hc : qP (ek F rk) (F.kids i) with
   | nil => rfl
   | cons k l =>
    rw [List.map_cons, firstR]
    exact (key k (xH.1 (by rw [hc]; simp))).2
end
def fZ (t : av) : RT := aM (eG t) (cB t) 0
theorem uD {t : av} (h : aB t = 0) : nu t = flat (sortR (fZ t)) := by
 obtain ⟨hp, _⟩ := aI h
 unfold nu
 rw [Iu (Dr h) (R := t.ps.length) (fun i _ => rE t i) hp]
 congr 1
 exact (Nh (dh h).wf _ hp (Nat.le_refl _) (fun j hj => by simpa using hj)).1
def kf (own : Nat) : List Int → Nat → List Nat
 | [], _ => []
 | p :: ps, b => if p = (own : Int) then b :: kf own ps (b + 1) else kf own ps (b + 1)
theorem oU (own : Nat) : ∀ (a c : List Int) (b : Nat), kf own (a ++ c) b = kf own a b ++ kf own c (b + a.length)
 | [], c, b => rfl
 | x :: a, c, b => by
  rw [List.cons_append, kf, kf, oU own a c (b + 1), List.length_cons, show b + 1 + a.length = b + (a.length + 1) by omega]
  split <;> rfl
theorem nZ (own : Nat) : ∀ (a : List Int) (b : Nat), (∀ x ∈ a, x ≠ (own : Int)) → kf own a b = []
 | [], _, _ => rfl
 | x :: a, b, h => by rw [kf, if_neg (h x (by simp)), nZ own a (b + 1) (fun y hy => h y (by simp [hy]))]
theorem Dw {ps : List Int} {n : Nat} (h : ∀ i, i < ps.length → gi ps i = n → n < i) : bX ps n = kf n ps 0 := by
 have key : ∀ k, k ≤ ps.length → bS ps n k = kf n (ps.take k) 0 := by
  intro k
  induction k with
  | zero => intro _; rfl
  | succ k ih =>
   intro hk
   rw [iz, ih (by omega), List.take_succ_eq_append_getElem (show k < ps.length by omega), oU, List.length_take, Nat.min_eq_left (by omega)]
   have hg : gi ps k = ps[k] := by simp [gi, show k < ps.length by omega]
   congr 1
   by_cases e : gi ps k = n
   ·rw [if_pos ⟨h k (by omega) e, e⟩, kf, if_pos (by rw [← hg]; exact e)]
    simp [kf]
   ·rw [if_neg (fun q => e q.2), kf, if_neg (by rw [← hg]; exact e)]; rfl
 unfold bX
 rw [key _ (Nat.le_refl _), List.take_length]
mutual
theorem Dx : ∀ (r : RT) (n : Nat) (p x : Int), x ∈ psR r n p → x = p ∨ ((n : Int) ≤ x ∧ x < ((n + aG r : Nat) : Int))
 | .node _ ks, n, p, x, h => by
  rw [psR, List.mem_cons] at h
  rcases h with h | h
  ·exact .inl h
  ·right
   rw [aG]
   rcases rF ks n (n + 1) x h with h1 | ⟨h1, h2⟩
   ·subst h1; exact ⟨by omega, by omega⟩
   ·exact ⟨by omega, by omega⟩
theorem rF : ∀ (rs : List RT) (own n : Nat) (x : Int), x ∈ psRs rs own n → x = (own : Int) ∨ ((n : Int) ≤ x ∧ x < ((n + sizeRs rs : Nat) : Int))
 | [], _, _, _, h => by simp [psRs] at h
 | r :: rs, own, n, x, h => by
  rw [psRs, List.mem_append] at h
  rw [sizeRs]
  rcases h with h | h
  ·rcases Dx r n own x h with h1 | ⟨h1, h2⟩
   ·exact .inl h1
   ·exact .inr ⟨h1, by omega⟩
  ·rcases rF rs own (n + aG r) x h with h1 | ⟨h1, h2⟩
   ·exact .inl h1
   ·exact .inr ⟨by omega, by omega⟩
end
def hdR : List RT → Nat → List Nat
 | [], _ => []
 | r :: rs, n => n :: hdR rs (n + aG r)
theorem zM (own : Nat) : ∀ (rs : List RT) (n : Nat), own < n → kf own (psRs rs own n) n = hdR rs n
 | [], _, _ => rfl
 | .node nm ks :: rs, n, h => by
  rw [psRs, hdR, oU, jA, zM own rs _ (by omega), psR, kf, if_pos rfl]
  rw [nZ own _ _ (fun x hx e => by
   rcases rF ks n (n + 1) x hx with h1 | ⟨h1, _⟩ <;> omega)]
  rfl
theorem jl (r : RT) : 0 < aG r := by cases r; rw [aG]; omega
theorem xI (a b : List Int) (k : Nat) : gi (a ++ b) (a.length + k) = gi b k := by simp [gi, List.getElem?_append_right]
theorem Ni (a b : List ByteArray) (k : Nat) : gs (a ++ b) (a.length + k) = gs b k := by simp [gs, List.getElem?_append_right]
theorem xJ {a : List Int} (b : List Int) {k : Nat} (h : k < a.length) : gi (a ++ b) k = gi a k := by simp [gi, List.getElem?_append_left h]
theorem QY : ∀ (d : Nat) (r : RT) (n : Nat) (p : Int) (t : av) (pre post : List Int) (Gr zN : List ByteArray), aG r ≤ d → t.ps = pre ++ (psR r n p ++ post) → t.ns = Gr ++ (b7 r ++ zN) → pre.length = n → Gr.length = n → p < n → (∀ x ∈ pre, x < (n : Int)) → (∀ x ∈ post, x < (n : Int) ∨ ((n + aG r : Nat) : Int) ≤ x) → toRD (eG t) d n = r := by
 intro d
 induction d with
 | zero => intro r n p t pre post Gr zN hd; have := jl r; omega
 | succ d ih =>
  intro r n p t pre post Gr zN hd hps JT hpl hnl hp hpre hpost
  obtain ⟨nm, ks⟩ := r
  rw [aG] at hd hpost
  rw [psR, List.cons_append] at hps
  rw [b7, List.cons_append] at JT
  have hk : (eG t).kids n = hdR ks (n + 1) := by
   rw [kz, Dw]
   ·rw [hps, oU, nZ n pre 0 (fun x hx e => by have := hpre x hx; omega), List.nil_append, kf, if_neg (by omega), oU, hpl, Nat.zero_add, zM n ks (n + 1) (by omega), mh]
    rw [nZ n post _ (fun x hx e => by rcases hpost x hx with h1 | h1 <;> omega), List.append_nil]
   ·intro i hi e
    rw [hps] at e
    rcases Nat.lt_trichotomy i n with h1 | h1 | h1
    ·rw [xJ _ (by omega)] at e
     have := hpre _ (tX (l := pre) (k := i) (by omega)); omega
    ·subst h1
     have h2 := xI pre (p :: (psRs ks i (i + 1) ++ post)) 0
     rw [hpl] at h2
     have h2 : gi (pre ++ p :: (psRs ks i (i + 1) ++ post)) i = p := h2
     rw [h2] at e
     have e : p = i := e
     omega
    ·exact h1
  have hnm : (eG t).nm n = nm := by
   show gs t.ns n = nm
   rw [JT, ← hnl]
   exact Ni Gr (nm :: (cu ks ++ zN)) 0
  rw [toRD, hk, hnm]
  congr 1
  have key : ∀ (rs : List RT) (m : Nat) (pr : List Int) (nr : List ByteArray), sizeRs rs ≤ d → t.ps = pr ++ (psRs rs n m ++ post) → t.ns = nr ++ (cu rs ++ zN) → pr.length = m → nr.length = m → n < m → (∀ x ∈ pr, x < (m : Int)) → (∀ x ∈ post, x < (n : Int) ∨ ((m + sizeRs rs : Nat) : Int) ≤ x) → (hdR rs m).map (toRD (eG t) d) = rs := by
   intro rs
   induction rs with
   | nil => intros; rfl
   | cons r rs ihr =>
    intro m pr nr hd2 Nj Nk Nd zO hm mQ Tv
    rw [sizeRs] at hd2 Tv
    rw [psRs, List.append_assoc] at Nj
    rw [cu, List.append_assoc] at Nk
    rw [hdR, List.map_cons]
    have h1 := ih r m n t pr (psRs rs n (m + aG r) ++ post) nr (cu rs ++ zN) (by omega) Nj Nk Nd zO (by omega) mQ (fun x hx => by
     rcases List.mem_append.1 hx with hx | hx
     ·rcases rF rs n (m + aG r) x hx with h2 | ⟨h2, _⟩
      ·exact .inl (by omega)
      ·exact .inr h2
     ·rcases Tv x hx with h2 | h2
      ·exact .inl (by omega)
      ·exact .inr (by omega))
    have h2 := ihr (m + aG r) (pr ++ psR r m n) (nr ++ b7 r) (by omega) (by rw [Nj, List.append_assoc]) (by rw [Nk, List.append_assoc])
     (by rw [List.length_append, jA, Nd]) (by rw [List.length_append, vC, zO]) (by omega) (fun x hx => by
      rcases List.mem_append.1 hx with hx | hx
      ·have := mQ x hx; omega
      ·rcases Dx r m n x hx with h3 | ⟨_, h3⟩ <;> omega) (fun x hx => by
      rcases Tv x hx with h3 | h3
      ·exact .inl h3
      ·exact .inr (by omega))
    rw [h1, h2]
  exact key ks (n + 1) (pre ++ [p]) (Gr ++ [nm]) (by omega) (by rw [hps, List.append_assoc]; rfl) (by rw [JT, List.append_assoc]; rfl) (by simp [hpl]) (by simp [hnl]) (by omega) (fun x hx => by
   rcases List.mem_append.1 hx with hx | hx
   ·have := hpre x hx; omega
   ·have : x = p := by simpa using hx
    omega) (fun x hx => by
   rcases hpost x hx with h3 | h3
   ·exact .inl h3
   ·exact .inr (by omega))
theorem kM (r : RT) : (flat r).ps.length = aG r := jA r 0 (-1)
theorem oa (r : RT) : (flat r).ns.length = aG r := vC r
theorem sw (r : RT) : fZ (flat r) = r := by
 unfold fZ aM
 have h : cB (flat r) 0 = aG r := by unfold cB; rw [kM, Nat.sub_zero]
 rw [h]
 exact QY (aG r) r 0 (-1) (flat r) [] [] [] [] (Nat.le_refl _) (by simp [flat]) (by simp [flat]) rfl rfl (by omega) (fun x hx => by simp at hx) (fun x hx => by simp at hx)
end
section
open Go.RowKit Go.Shelf Go.Deep
section
attribute [local go_sem] Oper.semAt_some
end
end
end Go.Proofs.YteegefnjnikngaaGreat
