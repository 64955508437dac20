/- Rose trees: the tree of a forest below a node is the rose tree, numbered depth first. The .. -/
import Derived.Test.YthgabkgmkolobaaGreatQ1
import Derived.Test.YthgabkgmkolobaaGreatQ14
import Derived.Test.YthgabkgmkolobaaGreatQ3
import Derived.Test.YthgabkgmkolobaaGreatQ6
set_option maxRecDepth 100000
namespace Go.Proofs.YthgabkgmkolobaaGreat
section
inductive RT where
 | node (nm : ByteArray) (kids : List RT)
namespace RT
def nm : RT → ByteArray | .node n _ => n
def kids : RT → List RT | .node _ k => k
end RT
mutual
def aH : RT → Nat
 | .node _ ks => 1 + sizeRs ks
def sizeRs : List RT → Nat
 | [] => 0
 | r :: rs => aH r + sizeRs rs
end
mutual
def psR : RT → Nat → Int → List Int
 | .node _ ks, n, p => p :: psRs ks n (n + 1)
def psRs : List RT → Nat → Nat → List Int
 | [], _, _ => []
 | r :: rs, own, n => psR r n (own : Int) ++ psRs rs own (n + aH r)
end
mutual
def cM : RT → List ByteArray
 | .node nm ks => nm :: dg ks
def dg : List RT → List ByteArray
 | [] => []
 | r :: rs => cM r ++ dg rs
end
def flat (r : RT) : ay := ⟨psR r 0 (-1), cM r⟩
mutual
theorem lG : ∀ (r : RT) (n : Nat) (p : Int), (psR r n p).length = aH r
 | .node _ ks, n, p => by simp only [psR, aH, List.length_cons]; rw [oJ ks n (n + 1)]; omega
theorem oJ : ∀ (rs : List RT) (own n : Nat), (psRs rs own n).length = sizeRs rs
 | [], _, _ => rfl
 | r :: rs, own, n => by simp only [psRs, sizeRs, List.length_append]; rw [lG r n own, oJ rs own (n + aH r)]
end
mutual
theorem zh : ∀ (r : RT), (cM r).length = aH r
 | .node _ ks => by simp only [cM, aH, List.length_cons]; rw [AL ks]; omega
theorem AL : ∀ (rs : List RT), (dg rs).length = sizeRs rs
 | [] => rfl
 | r :: rs => by simp only [dg, sizeRs, List.length_append]; rw [zh r, AL rs]
end
def toRD (F : aT) : Nat → Nat → RT
 | 0, i => .node (F.nm i) []
 | d + 1, i => .node (F.nm i) ((F.kids i).map (toRD F d))
def aN (F : aT) (rk : Nat → Nat) (i : Nat) : RT := toRD F (rk i) i
section
variable {F : aT} {n : Nat} {rk : Nat → Nat}
theorem Eh (h : Wf F n rk) : ∀ {d e i : Nat}, i < n → rk i ≤ d → rk i ≤ e → toRD F d i = toRD F e i := by
 intro d
 induction d with
 | zero =>
  intro e i hi hd he
  have hk : F.kids i = [] := by
   cases hk : F.kids i with
   | nil => rfl
   | cons k l => have := (h.kid i hi k (by rw [hk]; simp)).2; omega
  cases e with
  | zero => rfl
  | succ e => simp [toRD, hk]
 | succ d ih =>
  intro e i hi hd he
  cases e with
  | zero =>
   have hk : F.kids i = [] := by
    cases hk : F.kids i with
    | nil => rfl
    | cons k l => have := (h.kid i hi k (by rw [hk]; simp)).2; omega
   simp [toRD, hk]
  | succ e =>
   simp only [toRD]
   congr 1
   refine List.map_congr_left fun k hk => ?_
   have := h.kid i hi k hk
   exact ih this.1 (by omega) (by omega)
theorem di (h : Wf F n rk) {i : Nat} (hi : i < n) : aN F rk i = .node (F.nm i) ((F.kids i).map (aN F rk)) := by
 have h1 : aN F rk i = toRD F (rk i + 1) i := Eh h hi (Nat.le_refl _) (Nat.le_succ _)
 rw [h1]
 simp only [toRD]
 congr 1
 refine List.map_congr_left fun k hk => ?_
 have := h.kid i hi k hk
 exact Eh h this.1 (by omega) (Nat.le_refl _)
theorem dD {l : List (Option Nat × Int)} {k j : Option Nat} (v : Int) (h : j ≠ k) : (kP l k v).lookup j = l.lookup j := by
 have hne : (j == k) = false := by simpa using h
 unfold kP
 split
 ·induction l with
  | nil => simp [List.lookup, hne]
  | cons x l ih =>
   rename_i hl
   obtain ⟨x1, x2⟩ := x
   rw [List.cons_append, List.lookup_cons, List.lookup_cons]
   cases hx : (j == x1)
   ·refine ih ?_
    rw [List.lookup_cons] at hl
    cases hx2 : (k == x1)
    ·rw [hx2] at hl; exact hl
    ·rw [hx2] at hl; cases hl
   ·rfl
 ·have key : ∀ q : List (Option Nat × Int), List.lookup j (q.map (fun x => if x.1 = k then (k, v) else x)) = List.lookup j q := by
   intro q
   induction q with
   | nil => rfl
   | cons x l ih =>
    obtain ⟨x1, x2⟩ := x
    rw [List.map_cons, List.lookup_cons]
    by_cases e : x1 = k
    ·subst e
     simp only [if_true]
     rw [List.lookup_cons, hne]; exact ih
    ·rw [if_neg e, List.lookup_cons]
     cases (j == x1)
     ·exact ih
     ·rfl
  exact key l
theorem td {l : List (Option Nat × Int)} {k : Option Nat} (v : Int) (h : l.lookup k = none) : (kP l k v).lookup k = some v := by
 unfold kP
 rw [h]
 simp only [Option.isNone_none, if_true]
 induction l with
 | nil => simp
 | cons x l ih =>
  obtain ⟨x1, x2⟩ := x
  rw [List.lookup_cons] at h
  rw [List.cons_append, List.lookup_cons]
  cases hx : (k == x1)
  ·rw [hx] at h; exact ih h
  ·rw [hx] at h; cases h
structure FI (s s' : wX) (ps : List Int) (ns : List ByteArray) (nd : List Nat) : Prop where
 ps : s'.ps = s.ps ++ ps
 ns : s'.ns = s.ns ++ ns
 old : ∀ k : Option Nat, (∀ j ∈ nd, k ≠ some j) → s'.mp.lookup k = s.mp.lookup k
theorem V1 (h : rV F n rk) {R : Nat} (hR : ∀ i, i < n → rk i ≤ R) : ∀ {d i : Nat} (p : Option Nat) (np : Int) (s : wX), i < n → rk i ≤ d → p ≠ some i → s.mp.lookup p = some np → (∀ j ∈ bK F rk i, s.mp.lookup (some j) = none) →
  FI s ((dN F rk i p).foldl (nG F) s) (psR (aN F rk i) s.ps.length np) (cM (aN F rk i)) (bK F rk i) := by
 intro d
 induction d with
 | zero =>
  intro i p np s hi hd hp hl hn
  have hk : F.kids i = [] := by
   cases hk : F.kids i with
   | nil => rfl
   | cons k l => have := (h.wf.kid i hi k (by rw [hk]; simp)).2; omega
  rw [fU h.wf hi, di h.wf hi, b7 h.wf hi, hk]
  have hni := hn i (by rw [b7 h.wf hi]; simp)
  refine ⟨?_, ?_, fun k hk2 => dD _ (hk2 i (by simp))⟩
  ·show s.ps ++ [((kP s.mp (some i) _).lookup p).getD 0] = _
   rw [dD _ hp, hl]; rfl
  ·rfl
 | succ d ih =>
  intro i p np s hi hd hp hl hn
  rw [fU h.wf hi, di h.wf hi, b7 h.wf hi]
  have hni := hn i (by rw [b7 h.wf hi]; simp)
  have eT := jg h hR hi (Nat.le_refl (rk i))
  rw [b7 h.wf hi, List.nodup_cons] at eT
  have key : ∀ (l : List Nat), (∀ k ∈ l, k ∈ F.kids i) → (l.flatMap fun k => bK F rk k).Nodup → (∀ k ∈ l, i ∉ bK F rk k) → ∀ (s2 : wX) (own : Nat), s2.mp.lookup (some i) = some (own : Int) → (∀ k ∈ l, ∀ j ∈ bK F rk k, s2.mp.lookup (some j) = none) →
    FI s2 ((l.flatMap fun k => dN F rk k (some i)).foldl (nG F) s2) (psRs (l.map (aN F rk)) own s2.ps.length) (dg (l.map (aN F rk))) (l.flatMap fun k => bK F rk k) := by
   intro l
   induction l with
   | nil => intro _ _ _ s2 own _ _; exact ⟨by simp [psRs], by simp [dg], fun _ _ => rfl⟩
   | cons c l ihl =>
    intro hin hdl hil s2 own ho hno
    have hcc := h.wf.kid i hi c (hin c (by simp))
    rw [List.flatMap_cons, List.foldl_append, List.flatMap_cons]
    rw [List.flatMap_cons, List.nodup_append] at hdl
    have h1 := ih (some i) (own : Int) s2 hcc.1 (by omega) (fun e => by
     injection e with e
     have := hcc.2; rw [e] at this; omega) ho (hno c (by simp))
    have h2 := ihl (fun k hk => hin k (by simp [hk])) hdl.2.1 (fun k hk => hil k (by simp [hk])) ((dN F rk c (some i)).foldl (nG F) s2) own
     ((h1.old (some i) (fun j hj e => by injection e with e; subst e; exact hil c (by simp) hj)).trans ho)
     (fun k hk j hj => (h1.old (some j) (fun j2 hj2 e => by
      injection e with e; subst e
      exact hdl.2.2 j hj2 j (List.mem_flatMap.2 ⟨k, hk, hj⟩) rfl)).trans (hno k (by simp [hk]) j hj))
    refine ⟨?_, ?_, fun k hk => ?_⟩
    ·rw [h2.ps, h1.ps, List.map_cons, psRs, List.append_assoc, List.length_append, lG]
    ·rw [h2.ns, h1.ns, List.map_cons, dg, List.append_assoc]
    ·rw [h2.old k (fun j hj => hk j (by simp [hj])), h1.old k (fun j hj => hk j (by simp [hj]))]
  have hin : ∀ k ∈ F.kids i, i ∉ bK F rk k := fun k hk hm => eT.1 (List.mem_flatMap.2 ⟨k, hk, hm⟩)
  have h3 := key (F.kids i) (fun k hk => hk) eT.2 hin (nG F s (i, p)) s.ps.length (td _ hni) (fun k hk j hj => by
   show (kP s.mp (some i) _).lookup (some j) = none
   rw [dD _ (fun e => by injection e with e; subst e; exact hin k hk hj)]
   exact hn j (by rw [b7 h.wf hi]; exact List.mem_cons_of_mem _ (List.mem_flatMap.2 ⟨k, hk, hj⟩)))
  have hps : (nG F s (i, p)).ps = s.ps ++ [np] := by
   show s.ps ++ [((kP s.mp (some i) _).lookup p).getD 0] = _
   rw [dD _ hp, hl]; rfl
  rw [List.foldl_cons]
  refine ⟨?_, ?_, fun k hk => ?_⟩
  ·rw [h3.ps, hps, psR, List.append_assoc, List.length_append]; rfl
  ·rw [h3.ns]
   show (s.ns ++ [F.nm i]) ++ _ = _
   rw [cM, List.append_assoc]; rfl
  ·rw [h3.old k (fun j hj => hk j (by simp [hj]))]
   exact dD _ (hk i (by simp))
theorem Mw (h : rV F n rk) {R : Nat} (hR : ∀ i, i < n → rk i ≤ R) {i : Nat} (hi : i < n) : fJ F rk i = flat (aN F rk i) := by
 have h1 := V1 h hR (d := rk i) none (-1) CV hi (Nat.le_refl _) (fun e => by cases e) rfl (fun j _ => rfl)
 unfold fJ flat cB
 rw [h1.ps, h1.ns]
 rfl
end
end
section
open Go.RowKit Go.Deep
def iY (xs : List (List Int)) (k : Nat) : Int := if (gl xs k).length ≠ (gl xs 0).length then 9 else if iy (gl xs k) (-1) 16 then 2 else 0
def cn (xs : List (List Int)) : Int := if xs.length = 0 then 5 else if 32 < xs.length ∨ 4096 < (gl xs 0).length then 4 else firstNZ (iY xs) xs.length
set_option maxHeartbeats 400000 in
theorem Mx (w : World) (x : Int) : Av 125 #[] #[.int .i64 x] (.bool (decide (x < -1) || decide (16 ≤ x))) w := by
 unfold Av
 go_enter Tryz.func125, Tryz.ntmps125
 by_cases hx : x < -1
 ·go_wp2_with fail
  go_ret
  exact ⟨aL (by simp [hx]), rfl⟩
 ·go_wp2_with fail
  go_ret
  exact ⟨aL (by simp; omega), rfl⟩
set_option maxHeartbeats 1000000 in
theorem Ei (S : Nat → Prop) (w : World) (v : Value) (xs : List (List Int)) (h : aU S w v xs) (hn : xs.length ≤ 1000000) (hr : ∀ k, (gl xs k).length ≤ 1000000) :
  Calls Tryz.prog 70 #[v] w fun e w' => e = .returned (.int .i64 (cn xs)) ∧ w = w' := by
 have dr : cn xs = if xs.length = 0 then 5 else if 32 < xs.length ∨ 4096 < (gl xs 0).length then 4 else firstNZ (iY xs) xs.length := rfl
 have HF := aa dr
 obtain ⟨p, cap, rfl, hcap, _⟩ := eR h
 have H := aa h
 clear dr h
 by_cases h0 : xs.length = 0
 ·have HX : Hid (xs.length = 0) := h0
  have h0' : ((xs.length : Int) == 0) = true := by simp [h0]
  clear h0
  go_enter Tryz.func70, Tryz.ntmps70
  go_wp2_with fail
  go_ret
  exact ⟨aI (by rw [HF.out, if_pos HX.out]), rfl⟩
 have h0' : ((xs.length : Int) == 0) = false := by simpa using h0
 have Yt : 0 < xs.length := by omega
 by_cases h1 : 32 < xs.length
 ·go_enter Tryz.func70, Tryz.ntmps70
  go_wp2_with fail
  go_ret
  exact ⟨aI (by rw [HF.out, if_neg h0, if_pos (.inl h1)]), rfl⟩
 obtain ⟨b, off, q0, c0, rfl, hc0, kB⟩ := iL H.out Yt
 have RU : w.cell? ⟨b, off, none⟩ = some (.slice q0 (gl xs 0).length c0) := by simpa using hc0
 have hlen0 := hr 0
 clear hc0 kB
 by_cases h2 : 4096 < (gl xs 0).length
 ·go_enter Tryz.func70, Tryz.ntmps70
  go_wp2_with fail
  go_ret
  exact ⟨aI (by rw [HF.out, if_neg h0, if_pos (.inr h2)]), rfl⟩
 have mQ : Hid (cn xs = firstNZ (iY xs) xs.length) := by unfold Hid; rw [HF.out, if_neg h0, if_neg (by omega)]
 have HR := aa hr
 have OX : Hid (∀ k, iY xs k = if (gl xs k).length ≠ (gl xs 0).length then 9 else if iy (gl xs k) (-1) 16 then 2 else 0) := fun _ => rfl
 clear HF hr
 generalize (gl xs 0).length = l0 at *
 go_enter Tryz.func70, Tryz.ntmps70
 go_wp2_with fail
 go_loop [4, 22] (fun _ i => ∃ k : Nat, k ≤ xs.length ∧ i = .int .i64 k ∧ Hid (∀ j, j < k → iY xs j = 0)) (fun _ i => xs.length - (intOf i).toNat)
 case atStart => exact ⟨0, Nat.zero_le _, rfl, fun j hj => absurd hj (Nat.not_lt_zero _)⟩
 case round =>
  obtain ⟨k, hk, rfl, hd⟩ := hrel
  by_cases hlt : k < xs.length
  ·obtain ⟨b', off', qk, ck, e1, xH, hik⟩ := iL H.out hlt
   injection e1 with e1
   injection e1 with e1 e2
   subst e1; subst e2
   have zX := aa (Bp 125 #[] (enters_of Tryz.func125 (by kernel_rfl) rfl) S w _ (gl xs k).length _ (fun j => decide (gi (gl xs k) j < -1) || decide (16 ≤ gi (gl xs k) j)) hik (HR.out k) (fun j _ => Mx w (gi (gl xs k) j)))
   have bY : Hid (iy (gl xs k) (-1) 16 = (List.range (gl xs k).length).any fun j => decide (gi (gl xs k) j < -1) || decide (16 ≤ gi (gl xs k) j)) := rfl
   have HK := aa (OX.out k)
   clear hik
   by_cases iz : (gl xs k).length = l0
   ·have fA : (((gl xs k).length : Int) != (l0 : Int)) = false := by simp [iz]
    have dQ := aa iz
    clear iz
    go_wp2_with fail
    refine zX.out.mono ?_
    rintro e w' ⟨rfl, rfl⟩
    rw [← bY.out]
    by_cases oa : iy (gl xs k) (-1) 16 = true
    ·have ur := aa oa
     rw [oa]
     clear oa
     go_wp2_with fail
     go_ret
     have zS : iY xs k = 2 := by rw [HK.out, if_neg (fun e => e dQ.out), if_pos ur.out]
     exact ⟨aI (by rw [mQ.out, fG hlt hd.out (by rw [zS]; decide), zS]), rfl⟩
    ·have Yu : iy (gl xs k) (-1) 16 = false := by simpa using oa
     have ur := aa oa
     rw [Yu]
     clear oa Yu
     go_wp2_with fail
     go_round
     case rel => exact ⟨k + 1, by omega, by go_num, fun j hj => if e : j = k then by subst e; rw [HK.out, if_neg (fun e => e dQ.out), if_neg ur.out] else hd.out j (by omega)⟩
     case measure => simp [intOf]; omega
   ·have fA : (((gl xs k).length : Int) != (l0 : Int)) = true := by simp; omega
    have dQ := aa iz
    clear iz
    go_wp2_with fail
    go_ret
    have zS : iY xs k = 9 := by rw [HK.out, if_pos dQ.out]
    exact ⟨aI (by rw [mQ.out, fG hlt hd.out (by rw [zS]; decide), zS]), rfl⟩
  ·obtain rfl : k = xs.length := by omega
   clear hlt
   go_wp2_with fail
   go_ret
   exact ⟨aI (by rw [mQ.out, dJ hd.out]), rfl⟩
end
section
def firstR : RT → ByteArray
 | .node nm [] => nm
 | .node _ (k :: _) => firstR k
def insR (a : RT) : List RT → List RT
 | [] => [a]
 | b :: l => if b9 (firstR a) (firstR b) ≤ 0 then a :: b :: l else b :: insR a l
mutual
def sortR : RT → RT
 | .node nm ks => .node nm (cz ks)
def cz : List RT → List RT
 | [] => []
 | r :: rs => insR (sortR r) (cz rs)
end
theorem GN {f : Nat → ByteArray} {g : Nat → RT} {a : Nat} (ha : firstR (g a) = f a) : ∀ l : List Nat, (∀ k ∈ l, firstR (g k) = f k) → insR (g a) (l.map g) = (insB f a l).map g
 | [], _ => rfl
 | b :: l, h => by
  have hb := h b (by simp)
  rw [List.map_cons, insR, insB, ha, hb]
  unfold mO
  by_cases e : b9 (f a) (f b) ≤ 0
  ·rw [if_pos e, if_pos (by simpa using e)]; rfl
  ·rw [if_neg e, if_neg (by simpa using e), GN ha l (fun k hk => h k (by simp [hk]))]; rfl
theorem AO {f : Nat → ByteArray} {l : List Nat} {k : Nat} : k ∈ tV f l ↔ k ∈ l := by rw [← AK]; exact (dU f l).mem_iff
theorem BM {f : Nat → ByteArray} {h : Nat → RT} : ∀ l : List Nat, (∀ k ∈ l, firstR (sortR (h k)) = f k) → cz (l.map h) = (tV f l).map fun k => sortR (h k)
 | [], _ => rfl
 | a :: l, hf => by
  rw [List.map_cons, cz, tV, BM l (fun k hk => hf k (by simp [hk]))]
  exact GN (g := fun k => sortR (h k)) (hf a (by simp)) (tV f l) (fun k hk => hf k (by simp [AO.1 hk]))
section
variable {F : aT} {n : Nat} {rk : Nat → Nat}
theorem Wf.iq (h : Wf F n rk) (p : Nat → Bool) : Wf (F.iq rk p) n rk := ⟨fun i hi k hk => h.kid i hi k ((F.gP rk p i).mem_iff.1 hk)⟩
theorem RV (h : Wf F n rk) (p : Nat → Bool) : ∀ {d i : Nat}, i < n → rk i ≤ d → (∀ j, bS F rk i j = true → p j = true) → aN (F.iq rk p) rk i = sortR (aN F rk i) ∧ firstR (sortR (aN F rk i)) = fB F rk i := by
 intro d
 have UQ : ∀ i, p i = true → (F.iq rk p).kids i = cA (fB F rk) (F.kids i) := fun i hp => by
  show (if p i then _ else _ : List Nat) = _
  rw [if_pos hp]
 induction d with
 | zero =>
  intro i hi hd hp
  have hk : F.kids i = [] := by
   cases hk : F.kids i with
   | nil => rfl
   | cons k l => have := (h.kid i hi k (by rw [hk]; simp)).2; omega
  have hk2 : (F.iq rk p).kids i = [] := by rw [UQ i (hp i (iD h hi)), hk]; simp [cA]
  rw [di (h.iq p) hi, di h hi, rM h hi, hk, hk2]
  refine ⟨rfl, ?_⟩
  simp [cA, sortR, cz, firstR]
 | succ d ih =>
  intro i hi hd hp
  have hk2 := UQ i (hp i (iD h hi))
  have key : ∀ k ∈ F.kids i, aN (F.iq rk p) rk k = sortR (aN F rk k) ∧ firstR (sortR (aN F rk k)) = fB F rk k := fun k hk => by
   have hkk := h.kid i hi k hk
   exact ih hkk.1 (by omega) (fun j hj => hp j (mG h hi hk hj))
  have hs : cz ((F.kids i).map (aN F rk)) = (tV (fB F rk) (F.kids i)).map fun k => sortR (aN F rk k) := BM _ (fun k hk => (key k hk).2)
  rw [di (h.iq p) hi, di h hi, rM h hi, hk2, AK, sortR, hs]
  refine ⟨?_, ?_⟩
  ·show RT.node (F.nm i) _ = _
   congr 1
   exact List.map_congr_left fun k hk => (key k (AO.1 hk)).1
  ·cases hc : tV (fB F rk) (F.kids i) with
   | nil => rfl
   | cons k l =>
    rw [List.map_cons, firstR]
    exact (key k (AO.1 (by rw [hc]; simp))).2
end
def fO (t : ay) : RT := aN (ew t) (cu t) 0
theorem x8 {t : ay} (h : az t = 0) : qp t = flat (sortR (fO t)) := by
 obtain ⟨hp, _⟩ := aD h
 unfold qp
 rw [Mw (GJ h) (R := t.ps.length) (fun i _ => uD t i) hp]
 congr 1
 exact (RV (dz h).wf _ hp (Nat.le_refl _) (fun j hj => by simpa using hj)).1
def kf (own : Nat) : List Int → Nat → List Nat
 | [], _ => []
 | p :: ps, b => if p = (own : Int) then b :: kf own ps (b + 1) else kf own ps (b + 1)
theorem rW (own : Nat) : ∀ (a c : List Int) (b : Nat), kf own (a ++ c) b = kf own a b ++ kf own c (b + a.length)
 | [], c, b => rfl
 | x :: a, c, b => by
  rw [List.cons_append, kf, kf, rW own a c (b + 1), List.length_cons, show b + 1 + a.length = b + (a.length + 1) by omega]
  split <;> rfl
theorem q9 (own : Nat) : ∀ (a : List Int) (b : Nat), (∀ x ∈ a, x ≠ (own : Int)) → kf own a b = []
 | [], _, _ => rfl
 | x :: a, b, h => by rw [kf, if_neg (h x (by simp)), q9 own a (b + 1) (fun y hy => h y (by simp [hy]))]
theorem GP {ps : List Int} {n : Nat} (h : ∀ i, i < ps.length → gi ps i = n → n < i) : aS ps n = kf n ps 0 := by
 have key : ∀ k, k ≤ ps.length → bI ps n k = kf n (ps.take k) 0 := by
  intro k
  induction k with
  | zero => intro _; rfl
  | succ k ih =>
   intro hk
   rw [gq, ih (by omega), List.take_succ_eq_append_getElem (show k < ps.length by omega), rW, List.length_take, Nat.min_eq_left (by omega)]
   have hg : gi ps k = ps[k] := by simp [gi, show k < ps.length by omega]
   congr 1
   by_cases e : gi ps k = n
   ·rw [if_pos ⟨h k (by omega) e, e⟩, kf, if_pos (by rw [← hg]; exact e)]
    simp [kf]
   ·rw [if_neg (fun q => e q.2), kf, if_neg (by rw [← hg]; exact e)]; rfl
 unfold aS
 rw [key _ (Nat.le_refl _), List.take_length]
mutual
theorem GQ : ∀ (r : RT) (n : Nat) (p x : Int), x ∈ psR r n p → x = p ∨ ((n : Int) ≤ x ∧ x < ((n + aH r : Nat) : Int))
 | .node _ ks, n, p, x, h => by
  rw [psR, List.mem_cons] at h
  rcases h with h | h
  ·exact .inl h
  ·right
   rw [aH]
   rcases uE ks n (n + 1) x h with h1 | ⟨h1, h2⟩
   ·subst h1; exact ⟨by omega, by omega⟩
   ·exact ⟨by omega, by omega⟩
theorem uE : ∀ (rs : List RT) (own n : Nat) (x : Int), x ∈ psRs rs own n → x = (own : Int) ∨ ((n : Int) ≤ x ∧ x < ((n + sizeRs rs : Nat) : Int))
 | [], _, _, _, h => by simp [psRs] at h
 | r :: rs, own, n, x, h => by
  rw [psRs, List.mem_append] at h
  rw [sizeRs]
  rcases h with h | h
  ·rcases GQ r n own x h with h1 | ⟨h1, h2⟩
   ·exact .inl h1
   ·exact .inr ⟨h1, by omega⟩
  ·rcases uE rs own (n + aH r) x h with h1 | ⟨h1, h2⟩
   ·exact .inl h1
   ·exact .inr ⟨by omega, by omega⟩
end
def hdR : List RT → Nat → List Nat
 | [], _ => []
 | r :: rs, n => n :: hdR rs (n + aH r)
theorem CY (own : Nat) : ∀ (rs : List RT) (n : Nat), own < n → kf own (psRs rs own n) n = hdR rs n
 | [], _, _ => rfl
 | .node nm ks :: rs, n, h => by
  rw [psRs, hdR, rW, lG, CY own rs _ (by omega), psR, kf, if_pos rfl]
  rw [q9 own _ _ (fun x hx e => by
   rcases uE ks n (n + 1) x hx with h1 | ⟨h1, _⟩ <;> omega)]
  rfl
theorem gD (r : RT) : 0 < aH r := by cases r; rw [aH]; omega
theorem AP (a b : List Int) (k : Nat) : gi (a ++ b) (a.length + k) = gi b k := by simp [gi, List.getElem?_append_right]
theorem RX (a b : List ByteArray) (k : Nat) : gs (a ++ b) (a.length + k) = gs b k := by simp [gs, List.getElem?_append_right]
theorem AQ {a : List Int} (b : List Int) {k : Nat} (h : k < a.length) : gi (a ++ b) k = gi a k := by simp [gi, List.getElem?_append_left h]
theorem V2 : ∀ (d : Nat) (r : RT) (n : Nat) (p : Int) (t : ay) (pre post : List Int) (K3 CZ : List ByteArray), aH r ≤ d → t.ps = pre ++ (psR r n p ++ post) → t.ns = K3 ++ (cM r ++ CZ) → pre.length = n → K3.length = n → p < n → (∀ x ∈ pre, x < (n : Int)) → (∀ x ∈ post, x < (n : Int) ∨ ((n + aH r : Nat) : Int) ≤ x) → toRD (ew t) d n = r := by
 intro d
 induction d with
 | zero => intro r n p t pre post K3 CZ hd; have := gD r; omega
 | succ d ih =>
  intro r n p t pre post K3 CZ hd hps uq hpl hnl hp hpre hpost
  obtain ⟨nm, ks⟩ := r
  rw [aH] at hd hpost
  rw [psR, List.cons_append] at hps
  rw [cM, List.cons_append] at uq
  have hk : (ew t).kids n = hdR ks (n + 1) := by
   rw [iN, GP]
   ·rw [hps, rW, q9 n pre 0 (fun x hx e => by have := hpre x hx; omega), List.nil_append, kf, if_neg (by omega), rW, hpl, Nat.zero_add, CY n ks (n + 1) (by omega), oJ]
    rw [q9 n post _ (fun x hx e => by rcases hpost x hx with h1 | h1 <;> omega), List.append_nil]
   ·intro i hi e
    rw [hps] at e
    rcases Nat.lt_trichotomy i n with h1 | h1 | h1
    ·rw [AQ _ (by omega)] at e
     have := hpre _ (uh (l := pre) (k := i) (by omega)); omega
    ·subst h1
     have h2 := AP pre (p :: (psRs ks i (i + 1) ++ post)) 0
     rw [hpl] at h2
     have h2 : gi (pre ++ p :: (psRs ks i (i + 1) ++ post)) i = p := h2
     rw [h2] at e
     have e : p = i := e
     omega
    ·exact h1
  have hnm : (ew t).nm n = nm := by
   show gs t.ns n = nm
   rw [uq, ← hnl]
   exact RX K3 (nm :: (dg ks ++ CZ)) 0
  rw [toRD, hk, hnm]
  congr 1
  have key : ∀ (rs : List RT) (m : Nat) (pr : List Int) (nr : List ByteArray), sizeRs rs ≤ d → t.ps = pr ++ (psRs rs n m ++ post) → t.ns = nr ++ (dg rs ++ CZ) → pr.length = m → nr.length = m → n < m → (∀ x ∈ pr, x < (m : Int)) → (∀ x ∈ post, x < (n : Int) ∨ ((m + sizeRs rs : Nat) : Int) ≤ x) → (hdR rs m).map (toRD (ew t) d) = rs := by
   intro rs
   induction rs with
   | nil => intros; rfl
   | cons r rs ihr =>
    intro m pr nr hd2 RY RZ RQ C6 hm p6 Yv
    rw [sizeRs] at hd2 Yv
    rw [psRs, List.append_assoc] at RY
    rw [dg, List.append_assoc] at RZ
    rw [hdR, List.map_cons]
    have h1 := ih r m n t pr (psRs rs n (m + aH r) ++ post) nr (dg rs ++ CZ) (by omega) RY RZ RQ C6 (by omega) p6 (fun x hx => by
     rcases List.mem_append.1 hx with hx | hx
     ·rcases uE rs n (m + aH r) x hx with h2 | ⟨h2, _⟩
      ·exact .inl (by omega)
      ·exact .inr h2
     ·rcases Yv x hx with h2 | h2
      ·exact .inl (by omega)
      ·exact .inr (by omega))
    have h2 := ihr (m + aH r) (pr ++ psR r m n) (nr ++ cM r) (by omega) (by rw [RY, List.append_assoc]) (by rw [RZ, List.append_assoc])
     (by rw [List.length_append, lG, RQ]) (by rw [List.length_append, zh, C6]) (by omega) (fun x hx => by
      rcases List.mem_append.1 hx with hx | hx
      ·have := p6 x hx; omega
      ·rcases GQ r m n x hx with h3 | ⟨_, h3⟩ <;> omega) (fun x hx => by
      rcases Yv x hx with h3 | h3
      ·exact .inl h3
      ·exact .inr (by omega))
    rw [h1, h2]
  exact key ks (n + 1) (pre ++ [p]) (K3 ++ [nm]) (by omega) (by rw [hps, List.append_assoc]; rfl) (by rw [uq, List.append_assoc]; rfl) (by simp [hpl]) (by simp [hnl]) (by omega) (fun x hx => by
   rcases List.mem_append.1 hx with hx | hx
   ·have := hpre x hx; omega
   ·have : x = p := by simpa using hx
    omega) (fun x hx => by
   rcases hpost x hx with h3 | h3
   ·exact .inl h3
   ·exact .inr (by omega))
theorem lH (r : RT) : (flat r).ps.length = aH r := lG r 0 (-1)
theorem ri (r : RT) : (flat r).ns.length = aH r := zh r
theorem kS (r : RT) : fO (flat r) = r := by
 unfold fO aN
 have h : cu (flat r) 0 = aH r := by unfold cu; rw [lH, Nat.sub_zero]
 rw [h]
 exact V2 (aH r) r 0 (-1) (flat r) [] [] [] [] (Nat.le_refl _) (by simp [flat]) (by simp [flat]) rfl rfl (by omega) (fun x hx => by simp at hx) (fun x hx => by simp at hx)
end
section
open Go.RowKit Go.Deep
structure UR where
 un : Int
 st : Int
 src : List Int
end
end Go.Proofs.YthgabkgmkolobaaGreat
