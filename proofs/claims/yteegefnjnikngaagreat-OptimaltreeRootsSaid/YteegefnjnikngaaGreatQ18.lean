/- Contracts of the references: Check of layer 30; right, check, Support, Original, .. -/
import Derived.Test.YteegefnjnikngaaGreatQ1
import Derived.Test.YteegefnjnikngaaGreatQ17
import Derived.Test.YteegefnjnikngaaGreatQ9
import Derived.Test.YteegefnjnikngaaGreatQ12
import Derived.Test.YteegefnjnikngaaGreatQ3
import Derived.Test.YteegefnjnikngaaGreatQ4
import Derived.Test.YteegefnjnikngaaGreatQ8
import Derived.Test.YteegefnjnikngaaGreatQ10
import Derived.Laws.IdiomStrings
import Derived.Test.YteegefnjnikngaaGreatQ11
import Derived.Test.YteegefnjnikngaaGreatQ13
set_option maxRecDepth 100000
namespace Go.Proofs.YteegefnjnikngaaGreat
section
open Go.RowKit Go.Deep
set_option maxHeartbeats 4000000 in
theorem M4 (S : Nat → Prop) (w : World) (v : Value) (xs : List (List Int)) (h : bh S w v xs) (hn : xs.length ≤ 1000000) (hr : ∀ k, (gl xs k).length ≤ 1000000) :
  Calls Tryz.prog 66 #[v] w fun e w' => e = .returned (.int .i64 (cB xs)) ∧ QD w w' := by
 obtain ⟨p, cap, rfl, hcap, _⟩ := fL h
 have H := aa h
 have HR := aa hr
 have HF : Hid (cB xs = if xs.length = 0 then 5 else if 32 < xs.length ∨ 4096 < (gl xs 0).length then 4 else firstNZ (jv xs) xs.length) := rfl
 clear h hr
 by_cases h0 : xs.length = 0
 ·have HX : Hid (cB xs = 5) := by unfold Hid; rw [HF.out, if_pos h0]
  have d0 : ((xs.length : Int) == 0) = true := by simp [h0]
  clear h0
  go_enter Tryz.func66, Tryz.ntmps66
  go_wp2_with fail
  go_ret
  exact ⟨aO HX.out.symm, QD.refl _⟩
 have d0 : ((xs.length : Int) == 0) = false := by simpa using h0
 have Ya : 0 < xs.length := by omega
 by_cases h1 : 32 < xs.length
 ·have HX : Hid (cB xs = 4) := by unfold Hid; rw [HF.out, if_neg h0, if_pos (.inl h1)]
  have d1 : decide ((32 : Int) < (xs.length : Int)) = true := by simp; omega
  clear h0 h1
  go_enter Tryz.func66, Tryz.ntmps66
  go_wp2_with fail
  go_ret
  exact ⟨aO HX.out.symm, QD.refl _⟩
 have d1 : decide ((32 : Int) < (xs.length : Int)) = false := by simp; omega
 obtain ⟨b, off, q0, c0, rfl, hc0, _⟩ := jd H.out Ya
 have RR : w.cell? ⟨b, off, none⟩ = some (.slice q0 (gl xs 0).length c0) := by simpa using hc0
 have hlen0 := HR.out 0
 clear hc0
 by_cases h2 : 4096 < (gl xs 0).length
 ·have HX : Hid (cB xs = 4) := by unfold Hid; rw [HF.out, if_neg h0, if_pos (.inr h2)]
  have d2 : decide ((4096 : Int) < ((gl xs 0).length : Int)) = true := by simp; omega
  clear h0 h1 h2
  go_enter Tryz.func66, Tryz.ntmps66
  go_wp2_with fail
  go_ret
  exact ⟨aO HX.out.symm, QD.refl _⟩
 have d2 : decide ((4096 : Int) < ((gl xs 0).length : Int)) = false := by simp; omega
 have qZ : Hid (cB xs = firstNZ (jv xs) xs.length) := by unfold Hid; rw [HF.out, if_neg h0, if_neg (by omega)]
 have OM : Hid (∀ k, jv xs k = if (gl xs k).length ≠ (gl xs 0).length then 9 else if iP (gl xs k) (-1) 16 then 2 else 0) := fun _ => rfl
 have fB := aa RR
 clear HF h0 h1 h2
 generalize hl0 : (gl xs 0).length = l0 at *
 clear hl0
 go_enter Tryz.func66, Tryz.ntmps66
 go_wp2_with fail
 go_loopw [3, 4] (fun i _ wr => ∃ k : Nat, k ≤ xs.length ∧ i = .int .i64 k ∧ Hid (QD w wr) ∧ Hid (∀ j, j < k → jv xs j = 0)) (fun i _ _ => xs.length - (intOf i).toNat)
 case atStart => exact ⟨0, Nat.zero_le _, rfl, QD.refl _, fun j hj => absurd hj (Nat.not_lt_zero _)⟩
 case round =>
  obtain ⟨k, hk, rfl, hQ, hd⟩ := hrel
  obtain ⟨wo, rfl⟩ : ∃ wo : World, wo = wr := ⟨_, rfl⟩
  have RR := hQ.out.up.cell fB.out
  by_cases hlt : k < xs.length
  ·obtain ⟨b', off', qk, ck, e1, nh, hik⟩ := jd (H.out.keep (hQ.out.kept S)) hlt
   injection e1 with e1
   injection e1 with e1 e2
   subst e1; subst e2
   have i1 : (0 : Int) ≤ (k : Int) := by omega
   have i2 : (k : Int) < (xs.length : Int) := by omega
   have HK := aa (OM.out k)
   have EP := aa hik
   have fA := aa nh
   have zW := HR.out k
   clear hik
   by_cases qx : (gl xs k).length = l0
   ·have gK : (((gl xs k).length : Int) != (l0 : Int)) = false := by simp [qx]
    rw [if_neg (fun e => e qx)] at HK
    clear qx
    go_wp2_with fail
    go_quiet (fail)
    go_wp2_with fail
    go_loopw [4] (fun i wr => ∃ m : Nat, m ≤ (gl xs k).length ∧ i = .int .i64 m ∧ Hid (QD w wr ∧ QD wo wr) ∧ Hid (∀ j, j < m → (decide (gi (gl xs k) j < -1) || decide (16 ≤ gi (gl xs k) j)) = false)) (fun i _ => (gl xs k).length - (intOf i).toNat)
    case atStart => exact ⟨0, Nat.zero_le _, rfl, ⟨hQ.out.drewN nq, ⟨nq, rfl⟩⟩, fun j hj => absurd hj (Nat.not_lt_zero _)⟩
    case round =>
     obtain ⟨m, hm, rfl, ER, hd2⟩ := hrel
     obtain ⟨wi, rfl⟩ : ∃ wi : World, wi = wr := ⟨_, rfl⟩
     have nh := ER.out.2.up.cell fA.out
     by_cases UG : m < (gl xs k).length
     ·obtain ⟨mb, mo, rfl, Y7⟩ := eE (aB.keep EP.out (ER.out.2.kept S)) UG
      have j1 : (0 : Int) ≤ (m : Int) := by omega
      have j2 : (m : Int) < ((gl xs k).length : Int) := by omega
      generalize Li : gi (gl xs k) m = y at *
      have Y8 := aa Li
      clear Li
      by_cases c1 : y < -1
      ·have e1 : decide (y < -1) = true := by simpa using c1
       have HX : Hid (cB xs = 2) := by
        unfold Hid
        have hst : iP (gl xs k) (-1) 16 = true := uL (p := fun j => decide (gi (gl xs k) j < -1) || decide (16 ≤ gi (gl xs k) j)) UG (by rw [Y8.out, e1]; rfl)
        have hrow : jv xs k = 2 := by rw [HK.out, if_pos hst]
        rw [qZ.out, fZ hlt hd.out (by rw [hrow]; decide), hrow]
       clear c1
       go_wp2_with fail
       go_ret
       exact ⟨aO HX.out.symm, ER.out.1⟩
      ·have e1 : decide (y < -1) = false := by simpa using c1
       by_cases c2 : 16 ≤ y
       ·have e2 : decide (16 ≤ y) = true := by simpa using c2
        have HX : Hid (cB xs = 2) := by
         unfold Hid
         have hst : iP (gl xs k) (-1) 16 = true := uL (p := fun j => decide (gi (gl xs k) j < -1) || decide (16 ≤ gi (gl xs k) j)) UG (by rw [Y8.out, e2, Bool.or_true])
         have hrow : jv xs k = 2 := by rw [HK.out, if_pos hst]
         rw [qZ.out, fZ hlt hd.out (by rw [hrow]; decide), hrow]
        clear c1 c2
        go_wp2_with fail
        go_ret
        exact ⟨aO HX.out.symm, ER.out.1⟩
       ·have e2 : decide (16 ≤ y) = false := by simpa using c2
        have HY : Hid ((decide (gi (gl xs k) m < -1) || decide (16 ≤ gi (gl xs k) m)) = false) := by unfold Hid; rw [Y8.out, e1, e2]; rfl
        clear c1 c2
        go_wp2_with fail
        go_roundw
        case rel => exact ⟨m + 1, by omega, by go_num, ⟨ER.out.1, ER.out.2⟩, fun j hj => if e : j = m then by subst e; exact HY.out else hd2.out j (by omega)⟩
        case measure => simp [intOf]; omega
     ·obtain rfl : m = (gl xs k).length := by omega
      have OA : Hid (jv xs k = 0) := by
       unfold Hid
       have hst : iP (gl xs k) (-1) 16 = false := any_none hd2.out
       rw [HK.out, if_neg (by rw [hst]; decide)]
      have HQ2 := aa ER.out.1
      clear UG hm hd2 ER
      go_wp2_with fail
      go_roundw
      case rel => exact ⟨k + 1, by omega, by go_num, HQ2.out, fun j hj => if e : j = k then by subst e; exact OA.out else hd.out j (by omega)⟩
      case measure => simp [intOf]; omega
   ·have gK : (((gl xs k).length : Int) != (l0 : Int)) = true := by simp; omega
    have HX : Hid (cB xs = 9) := by
     unfold Hid
     have hrow : jv xs k = 9 := by rw [HK.out, if_pos qx]
     rw [qZ.out, fZ hlt hd.out (by rw [hrow]; decide), hrow]
    clear qx
    go_wp2_with fail
    go_quiet (fail)
    go_wp2_with fail
    go_ret
    exact ⟨aO HX.out.symm, hQ.out.drewN nq⟩
  ·obtain rfl : k = xs.length := by omega
   have HX : Hid (cB xs = 0) := by unfold Hid; rw [qZ.out, eN hd.out]
   clear hlt hk
   go_wp2_with fail
   go_ret
   exact ⟨aO HX.out.symm, hQ.out⟩
end
section
open Go.RowKit Go.Deep
end
section
open Go.RowKit Go.Deep
end
section
inductive RT where
 | node (nm : ByteArray) (kids : List RT)
namespace RT
def nm : RT → ByteArray | .node n _ => n
def kids : RT → List RT | .node _ k => k
end RT
mutual
def aI : RT → Nat
 | .node _ ks => 1 + sizeRs ks
def sizeRs : List RT → Nat
 | [] => 0
 | r :: rs => aI r + sizeRs rs
end
mutual
def psR : RT → Nat → Int → List Int
 | .node _ ks, n, p => p :: psRs ks n (n + 1)
def psRs : List RT → Nat → Nat → List Int
 | [], _, _ => []
 | r :: rs, own, n => psR r n (own : Int) ++ psRs rs own (n + aI r)
end
mutual
def cQ : RT → List ByteArray
 | .node nm ks => nm :: dr ks
def dr : List RT → List ByteArray
 | [] => []
 | r :: rs => cQ r ++ dr rs
end
def flat (r : RT) : ax := ⟨psR r 0 (-1), cQ r⟩
mutual
theorem lQ : ∀ (r : RT) (n : Nat) (p : Int), (psR r n p).length = aI r
 | .node _ ks, n, p => by simp only [psR, aI, List.length_cons]; rw [pE ks n (n + 1)]; omega
theorem pE : ∀ (rs : List RT) (own n : Nat), (psRs rs own n).length = sizeRs rs
 | [], _, _ => rfl
 | r :: rs, own, n => by simp only [psRs, sizeRs, List.length_append]; rw [lQ r n own, pE rs own (n + aI r)]
end
mutual
theorem zk : ∀ (r : RT), (cQ r).length = aI r
 | .node _ ks => by simp only [cQ, aI, List.length_cons]; rw [A3 ks]; omega
theorem A3 : ∀ (rs : List RT), (dr rs).length = sizeRs rs
 | [] => rfl
 | r :: rs => by simp only [dr, sizeRs, List.length_append]; rw [zk r, A3 rs]
end
def toRD (F : aP) : Nat → Nat → RT
 | 0, i => .node (F.nm i) []
 | d + 1, i => .node (F.nm i) ((F.kids i).map (toRD F d))
def aG (F : aP) (rk : Nat → Nat) (i : Nat) : RT := toRD F (rk i) i
section
variable {F : aP} {n : Nat} {rk : Nat → Nat}
theorem ES (h : Wf F n rk) : ∀ {d e i : Nat}, i < n → rk i ≤ d → rk i ≤ e → toRD F d i = toRD F e i := by
 intro d
 induction d with
 | zero =>
  intro e i hi hd he
  have hk : F.kids i = [] := by
   cases hk : F.kids i with
   | nil => rfl
   | cons k l => have := (h.kid i hi k (by rw [hk]; simp)).2; omega
  cases e with
  | zero => rfl
  | succ e => simp [toRD, hk]
 | succ d ih =>
  intro e i hi hd he
  cases e with
  | zero =>
   have hk : F.kids i = [] := by
    cases hk : F.kids i with
    | nil => rfl
    | cons k l => have := (h.kid i hi k (by rw [hk]; simp)).2; omega
   simp [toRD, hk]
  | succ e =>
   simp only [toRD]
   congr 1
   refine List.map_congr_left fun k hk => ?_
   have := h.kid i hi k hk
   exact ih this.1 (by omega) (by omega)
theorem bA (h : Wf F n rk) {i : Nat} (hi : i < n) : aG F rk i = .node (F.nm i) ((F.kids i).map (aG F rk)) := by
 have h1 : aG F rk i = toRD F (rk i + 1) i := ES h hi (Nat.le_refl _) (Nat.le_succ _)
 rw [h1]
 simp only [toRD]
 congr 1
 refine List.map_congr_left fun k hk => ?_
 have := h.kid i hi k hk
 exact ES h this.1 (by omega) (Nat.le_refl _)
theorem dK {l : List (Option Nat × Int)} {k j : Option Nat} (v : Int) (h : j ≠ k) : (k9 l k v).lookup j = l.lookup j := by
 have hne : (j == k) = false := by simpa using h
 unfold k9
 split
 ·induction l with
  | nil => simp [List.lookup, hne]
  | cons x l ih =>
   rename_i hl
   obtain ⟨x1, x2⟩ := x
   rw [List.cons_append, List.lookup_cons, List.lookup_cons]
   cases hx : (j == x1)
   ·refine ih ?_
    rw [List.lookup_cons] at hl
    cases hx2 : (k == x1)
    ·rw [hx2] at hl; exact hl
    ·rw [hx2] at hl; cases hl
   ·rfl
 ·have key : ∀ q : List (Option Nat × Int), List.lookup j (q.map (fun x => if x.1 = k then (k, v) else x)) = List.lookup j q := by
   intro q
   induction q with
   | nil => rfl
   | cons x l ih =>
    obtain ⟨x1, x2⟩ := x
    rw [List.map_cons, List.lookup_cons]
    by_cases e : x1 = k
    ·subst e
     simp only [if_true]
     rw [List.lookup_cons, hne]; exact ih
    ·rw [if_neg e, List.lookup_cons]
     cases (j == x1)
     ·exact ih
     ·rfl
  exact key l
theorem tT {l : List (Option Nat × Int)} {k : Option Nat} (v : Int) (h : l.lookup k = none) : (k9 l k v).lookup k = some v := by
 unfold k9
 rw [h]
 simp only [Option.isNone_none, if_true]
 induction l with
 | nil => simp
 | cons x l ih =>
  obtain ⟨x1, x2⟩ := x
  rw [List.lookup_cons] at h
  rw [List.cons_append, List.lookup_cons]
  cases hx : (k == x1)
  ·rw [hx] at h; exact ih h
  ·rw [hx] at h; cases h
structure F4 (s s' : xG) (ps : List Int) (ns : List ByteArray) (nd : List Nat) : Prop where
 ps : s'.ps = s.ps ++ ps
 ns : s'.ns = s.ns ++ ns
 old : ∀ k : Option Nat, (∀ j ∈ nd, k ≠ some j) → s'.mp.lookup k = s.mp.lookup k
theorem Wi (h : oK F n rk) {R : Nat} (hR : ∀ i, i < n → rk i ≤ R) : ∀ {d i : Nat} (p : Option Nat) (np : Int) (s : xG), i < n → rk i ≤ d → p ≠ some i → s.mp.lookup p = some np → (∀ j ∈ bF F rk i, s.mp.lookup (some j) = none) →
  F4 s ((dR F rk i p).foldl (oa F) s) (psR (aG F rk i) s.ps.length np) (cQ (aG F rk i)) (bF F rk i) := by
 intro d
 induction d with
 | zero =>
  intro i p np s hi hd hp hl hn
  have hk : F.kids i = [] := by
   cases hk : F.kids i with
   | nil => rfl
   | cons k l => have := (h.wf.kid i hi k (by rw [hk]; simp)).2; omega
  rw [gD h.wf hi, bA h.wf hi, cw h.wf hi, hk]
  have hni := hn i (by rw [cw h.wf hi]; simp)
  refine ⟨?_, ?_, fun k hk2 => dK _ (hk2 i (by simp))⟩
  ·show s.ps ++ [((k9 s.mp (some i) _).lookup p).getD 0] = _
   rw [dK _ hp, hl]; rfl
  ·rfl
 | succ d ih =>
  intro i p np s hi hd hp hl hn
  rw [gD h.wf hi, bA h.wf hi, cw h.wf hi]
  have hni := hn i (by rw [cw h.wf hi]; simp)
  have fk := iy h hR hi (Nat.le_refl (rk i))
  rw [cw h.wf hi, List.nodup_cons] at fk
  have key : ∀ (l : List Nat), (∀ k ∈ l, k ∈ F.kids i) → (l.flatMap fun k => bF F rk k).Nodup → (∀ k ∈ l, i ∉ bF F rk k) → ∀ (s2 : xG) (own : Nat), s2.mp.lookup (some i) = some (own : Int) → (∀ k ∈ l, ∀ j ∈ bF F rk k, s2.mp.lookup (some j) = none) →
    F4 s2 ((l.flatMap fun k => dR F rk k (some i)).foldl (oa F) s2) (psRs (l.map (aG F rk)) own s2.ps.length) (dr (l.map (aG F rk))) (l.flatMap fun k => bF F rk k) := by
   intro l
   induction l with
   | nil => intro _ _ _ s2 own _ _; exact ⟨by simp [psRs], by simp [dr], fun _ _ => rfl⟩
   | cons c l ihl =>
    intro hin hdl hil s2 own ho hno
    have hcc := h.wf.kid i hi c (hin c (by simp))
    rw [List.flatMap_cons, List.foldl_append, List.flatMap_cons]
    rw [List.flatMap_cons, List.nodup_append] at hdl
    have h1 := ih (some i) (own : Int) s2 hcc.1 (by omega) (fun e => by
     injection e with e
     have := hcc.2; rw [e] at this; omega) ho (hno c (by simp))
    have h2 := ihl (fun k hk => hin k (by simp [hk])) hdl.2.1 (fun k hk => hil k (by simp [hk])) ((dR F rk c (some i)).foldl (oa F) s2) own
     ((h1.old (some i) (fun j hj e => by injection e with e; subst e; exact hil c (by simp) hj)).trans ho)
     (fun k hk j hj => (h1.old (some j) (fun j2 hj2 e => by
      injection e with e; subst e
      exact hdl.2.2 j hj2 j (List.mem_flatMap.2 ⟨k, hk, hj⟩) rfl)).trans (hno k (by simp [hk]) j hj))
    refine ⟨?_, ?_, fun k hk => ?_⟩
    ·rw [h2.ps, h1.ps, List.map_cons, psRs, List.append_assoc, List.length_append, lQ]
    ·rw [h2.ns, h1.ns, List.map_cons, dr, List.append_assoc]
    ·rw [h2.old k (fun j hj => hk j (by simp [hj])), h1.old k (fun j hj => hk j (by simp [hj]))]
  have hin : ∀ k ∈ F.kids i, i ∉ bF F rk k := fun k hk hm => fk.1 (List.mem_flatMap.2 ⟨k, hk, hm⟩)
  have h3 := key (F.kids i) (fun k hk => hk) fk.2 hin (oa F s (i, p)) s.ps.length (tT _ hni) (fun k hk j hj => by
   show (k9 s.mp (some i) _).lookup (some j) = none
   rw [dK _ (fun e => by injection e with e; subst e; exact hin k hk hj)]
   exact hn j (by rw [cw h.wf hi]; exact List.mem_cons_of_mem _ (List.mem_flatMap.2 ⟨k, hk, hj⟩)))
  have hps : (oa F s (i, p)).ps = s.ps ++ [np] := by
   show s.ps ++ [((k9 s.mp (some i) _).lookup p).getD 0] = _
   rw [dK _ hp, hl]; rfl
  rw [List.foldl_cons]
  refine ⟨?_, ?_, fun k hk => ?_⟩
  ·rw [h3.ps, hps, psR, List.append_assoc, List.length_append]; rfl
  ·rw [h3.ns]
   show (s.ns ++ [F.nm i]) ++ _ = _
   rw [cQ, List.append_assoc]; rfl
  ·rw [h3.old k (fun j hj => hk j (by simp [hj]))]
   exact dK _ (hk i (by simp))
theorem M5 (h : oK F n rk) {R : Nat} (hR : ∀ i, i < n → rk i ≤ R) {i : Nat} (hi : i < n) : fO F rk i = flat (aG F rk i) := by
 have h1 := Wi h hR (d := rk i) none (-1) Du hi (Nat.le_refl _) (fun e => by cases e) rfl (fun j _ => rfl)
 unfold fO flat cI
 rw [h1.ps, h1.ns]
 rfl
end
end
section
open Go.RowKit Go.Deep
theorem wG (W : World) : aC Any W (.agg #[.slice none 0 0, .slice none 0 0]) ⟨[], []⟩ :=
 ⟨_, _, rfl, ⟨none, 0, rfl, Nat.le_refl _, .inl rfl⟩, ⟨none, 0, rfl, Nat.le_refl _, .inl rfl⟩⟩
theorem boxed {W : World} {B : Nat} {P N : Value} (hb : W.heap[B]? = some (Obj.cells #[P, N] 39 (0, 0))) : W.cell? ⟨B, 0, none⟩ = some P ∧ W.cell? ⟨B, 1, none⟩ = some N ∧ W.frozen? ⟨B, 0, none⟩ = false ∧ W.frozen? ⟨B, 1, none⟩ = false := by
 refine ⟨?_, ?_, ?_, ?_⟩ <;> simp [World.cell?, World.frozen?, hb]
theorem ET {S : Nat → Prop} {w : World} {b off n cap : Nat} {xs : List ByteArray} (h : av S w (.slice (some ⟨b, off, none⟩) n cap) xs) {k : Nat} (hk : k ≤ xs.length) : aD S w (.slice (some ⟨b, off, none⟩) k cap) k (fun j => .string (gs xs j)) := by
 obtain ⟨q, c, e, hn, h⟩ := h
 injection e with e1 e2 e3
 subst e1; subst e2; subst e3
 refine ⟨_, cap, rfl, by omega, ?_⟩
 rcases h with h | ⟨b', o', e, hS, h⟩
 ·exact .inl (by omega)
 ·exact .inr ⟨b', o', e, hS, fun j hj => h j (by omega)⟩
section
variable {P : Program} {ops : Array Oper} {rest : List Oper} {o : Oper} {a : Act} {Q : Exit → Act → World → Prop}
end
end
section
open Go.RowKit Go.Deep
end
section
def firstR : RT → ByteArray
 | .node nm [] => nm
 | .node _ (k :: _) => firstR k
def insR (a : RT) : List RT → List RT
 | [] => [a]
 | b :: l => if cz (firstR a) (firstR b) ≤ 0 then a :: b :: l else b :: insR a l
mutual
def sortR : RT → RT
 | .node nm ks => .node nm (cW ks)
def cW : List RT → List RT
 | [] => []
 | r :: rs => insR (sortR r) (cW rs)
end
theorem Ia {f : Nat → ByteArray} {g : Nat → RT} {a : Nat} (ha : firstR (g a) = f a) : ∀ l : List Nat, (∀ k ∈ l, firstR (g k) = f k) → insR (g a) (l.map g) = (insB f a l).map g
 | [], _ => rfl
 | b :: l, h => by
  have hb := h b (by simp)
  rw [List.map_cons, insR, insB, ha, hb]
  unfold ny
  by_cases e : cz (f a) (f b) ≤ 0
  ·rw [if_pos e, if_pos (by simpa using e)]; rfl
  ·rw [if_neg e, if_neg (by simpa using e), Ia ha l (fun k hk => h k (by simp [hk]))]; rfl
theorem A4 {f : Nat → ByteArray} {l : List Nat} {k : Nat} : k ∈ uG f l ↔ k ∈ l := by rw [← A2]; exact (eu f l).mem_iff
theorem Ca {f : Nat → ByteArray} {h : Nat → RT} : ∀ l : List Nat, (∀ k ∈ l, firstR (sortR (h k)) = f k) → cW (l.map h) = (uG f l).map fun k => sortR (h k)
 | [], _ => rfl
 | a :: l, hf => by
  rw [List.map_cons, cW, uG, Ca l (fun k hk => hf k (by simp [hk]))]
  exact Ia (g := fun k => sortR (h k)) (hf a (by simp)) (uG f l) (fun k hk => hf k (by simp [A4.1 hk]))
section
variable {F : aP} {n : Nat} {rk : Nat → Nat}
theorem Wf.fU (h : Wf F n rk) (p : Nat → Bool) : Wf (F.fU rk p) n rk := ⟨fun i hi k hk => h.kid i hi k ((F.gI rk p i).mem_iff.1 hk)⟩
theorem A5 (h : Wf F n rk) (p : Nat → Bool) : ∀ {d i : Nat}, i < n → rk i ≤ d → (∀ j, aM F rk i j = true → p j = true) → aG (F.fU rk p) rk i = sortR (aG F rk i) ∧ firstR (sortR (aG F rk i)) = fD F rk i := by
 intro d
 have tU : ∀ i, p i = true → (F.fU rk p).kids i = cH (fD F rk) (F.kids i) := fun i hp => by
  show (if p i then _ else _ : List Nat) = _
  rw [if_pos hp]
 induction d with
 | zero =>
  intro i hi hd hp
  have hk : F.kids i = [] := by
   cases hk : F.kids i with
   | nil => rfl
   | cons k l => have := (h.kid i hi k (by rw [hk]; simp)).2; omega
  have hk2 : (F.fU rk p).kids i = [] := by rw [tU i (hp i (aN h hi)), hk]; simp [cH]
  rw [bA (h.fU p) hi, bA h hi, sJ h hi, hk, hk2]
  refine ⟨rfl, ?_⟩
  simp [cH, sortR, cW, firstR]
 | succ d ih =>
  intro i hi hd hp
  have hk2 := tU i (hp i (aN h hi))
  have key : ∀ k ∈ F.kids i, aG (F.fU rk p) rk k = sortR (aG F rk k) ∧ firstR (sortR (aG F rk k)) = fD F rk k := fun k hk => by
   have hkk := h.kid i hi k hk
   exact ih hkk.1 (by omega) (fun j hj => hp j (bz h hi hk hj))
  have hs : cW ((F.kids i).map (aG F rk)) = (uG (fD F rk) (F.kids i)).map fun k => sortR (aG F rk k) := Ca _ (fun k hk => (key k hk).2)
  rw [bA (h.fU p) hi, bA h hi, sJ h hi, hk2, A2, sortR, hs]
  refine ⟨?_, ?_⟩
  ·show RT.node (F.nm i) _ = _
   congr 1
   exact List.map_congr_left fun k hk => (key k (A4.1 hk)).1
  ·cases hc : uG (fD F rk) (F.kids i) with
   | nil => rfl
   | cons k l =>
    rw [List.map_cons, firstR]
    exact (key k (A4.1 (by rw [hc]; simp))).2
end
def dU (t : ax) : RT := aG (dy t) (bY t) 0
theorem yD {t : ax} (h : az t = 0) : qT t = flat (sortR (dU t)) := by
 obtain ⟨hp, _⟩ := aH h
 unfold qT
 rw [M5 (Hy h) (R := t.ps.length) (fun i _ => vh t i) hp]
 congr 1
 exact (A5 (cK h).wf _ hp (Nat.le_refl _) (fun j hj => by simpa using hj)).1
def kf (own : Nat) : List Int → Nat → List Nat
 | [], _ => []
 | p :: ps, b => if p = (own : Int) then b :: kf own ps (b + 1) else kf own ps (b + 1)
theorem sQ (own : Nat) : ∀ (a c : List Int) (b : Nat), kf own (a ++ c) b = kf own a b ++ kf own c (b + a.length)
 | [], c, b => rfl
 | x :: a, c, b => by
  rw [List.cons_append, kf, kf, sQ own a c (b + 1), List.length_cons, show b + 1 + a.length = b + (a.length + 1) by omega]
  split <;> rfl
theorem rV (own : Nat) : ∀ (a : List Int) (b : Nat), (∀ x ∈ a, x ≠ (own : Int)) → kf own a b = []
 | [], _, _ => rfl
 | x :: a, b, h => by rw [kf, if_neg (h x (by simp)), rV own a (b + 1) (fun y hy => h y (by simp [hy]))]
theorem Ib {ps : List Int} {n : Nat} (h : ∀ i, i < ps.length → gi ps i = n → n < i) : aQ ps n = kf n ps 0 := by
 have key : ∀ k, k ≤ ps.length → cG ps n k = kf n (ps.take k) 0 := by
  intro k
  induction k with
  | zero => intro _; rfl
  | succ k ih =>
   intro hk
   rw [jU, ih (by omega), List.take_succ_eq_append_getElem (show k < ps.length by omega), sQ, List.length_take, Nat.min_eq_left (by omega)]
   have hg : gi ps k = ps[k] := by simp [gi, show k < ps.length by omega]
   congr 1
   by_cases e : gi ps k = n
   ·rw [if_pos ⟨h k (by omega) e, e⟩, kf, if_pos (by rw [← hg]; exact e)]
    simp [kf]
   ·rw [if_neg (fun q => e q.2), kf, if_neg (by rw [← hg]; exact e)]; rfl
 unfold aQ
 rw [key _ (Nat.le_refl _), List.take_length]
mutual
theorem Ic : ∀ (r : RT) (n : Nat) (p x : Int), x ∈ psR r n p → x = p ∨ ((n : Int) ≤ x ∧ x < ((n + aI r : Nat) : Int))
 | .node _ ks, n, p, x, h => by
  rw [psR, List.mem_cons] at h
  rcases h with h | h
  ·exact .inl h
  ·right
   rw [aI]
   rcases vp ks n (n + 1) x h with h1 | ⟨h1, h2⟩
   ·subst h1; exact ⟨by omega, by omega⟩
   ·exact ⟨by omega, by omega⟩
theorem vp : ∀ (rs : List RT) (own n : Nat) (x : Int), x ∈ psRs rs own n → x = (own : Int) ∨ ((n : Int) ≤ x ∧ x < ((n + sizeRs rs : Nat) : Int))
 | [], _, _, _, h => by simp [psRs] at h
 | r :: rs, own, n, x, h => by
  rw [psRs, List.mem_append] at h
  rw [sizeRs]
  rcases h with h | h
  ·rcases Ic r n own x h with h1 | ⟨h1, h2⟩
   ·exact .inl h1
   ·exact .inr ⟨h1, by omega⟩
  ·rcases vp rs own (n + aI r) x h with h1 | ⟨h1, h2⟩
   ·exact .inl h1
   ·exact .inr ⟨by omega, by omega⟩
end
def hdR : List RT → Nat → List Nat
 | [], _ => []
 | r :: rs, n => n :: hdR rs (n + aI r)
theorem Dy (own : Nat) : ∀ (rs : List RT) (n : Nat), own < n → kf own (psRs rs own n) n = hdR rs n
 | [], _, _ => rfl
 | .node nm ks :: rs, n, h => by
  rw [psRs, hdR, sQ, lQ, Dy own rs _ (by omega), psR, kf, if_pos rfl]
  rw [rV own _ _ (fun x hx e => by
   rcases vp ks n (n + 1) x hx with h1 | ⟨h1, _⟩ <;> omega)]
  rfl
theorem gW (r : RT) : 0 < aI r := by cases r; rw [aI]; omega
theorem A6 (a b : List Int) (k : Nat) : gi (a ++ b) (a.length + k) = gi b k := by simp [gi, List.getElem?_append_right]
theorem Ss (a b : List ByteArray) (k : Nat) : gs (a ++ b) (a.length + k) = gs b k := by simp [gs, List.getElem?_append_right]
theorem A7 {a : List Int} (b : List Int) {k : Nat} (h : k < a.length) : gi (a ++ b) k = gi a k := by simp [gi, List.getElem?_append_left h]
theorem Wj : ∀ (d : Nat) (r : RT) (n : Nat) (p : Int) (t : ax) (pre post : List Int) (Lj Dz : List ByteArray), aI r ≤ d → t.ps = pre ++ (psR r n p ++ post) → t.ns = Lj ++ (cQ r ++ Dz) → pre.length = n → Lj.length = n → p < n → (∀ x ∈ pre, x < (n : Int)) → (∀ x ∈ post, x < (n : Int) ∨ ((n + aI r : Nat) : Int) ≤ x) → toRD (dy t) d n = r := by
 intro d
 induction d with
 | zero => intro r n p t pre post Lj Dz hd; have := gW r; omega
 | succ d ih =>
  intro r n p t pre post Lj Dz hd hps Eh hpl hnl hp hpre hpost
  obtain ⟨nm, ks⟩ := r
  rw [aI] at hd hpost
  rw [psR, List.cons_append] at hps
  rw [cQ, List.cons_append] at Eh
  have hk : (dy t).kids n = hdR ks (n + 1) := by
   rw [gJ, Ib]
   ·rw [hps, sQ, rV n pre 0 (fun x hx e => by have := hpre x hx; omega), List.nil_append, kf, if_neg (by omega), sQ, hpl, Nat.zero_add, Dy n ks (n + 1) (by omega), pE]
    rw [rV n post _ (fun x hx e => by rcases hpost x hx with h1 | h1 <;> omega), List.append_nil]
   ·intro i hi e
    rw [hps] at e
    rcases Nat.lt_trichotomy i n with h1 | h1 | h1
    ·rw [A7 _ (by omega)] at e
     have := hpre _ (xY (l := pre) (k := i) (by omega)); omega
    ·subst h1
     have h2 := A6 pre (p :: (psRs ks i (i + 1) ++ post)) 0
     rw [hpl] at h2
     have h2 : gi (pre ++ p :: (psRs ks i (i + 1) ++ post)) i = p := h2
     rw [h2] at e
     have e : p = i := e
     omega
    ·exact h1
  have hnm : (dy t).nm n = nm := by
   show gs t.ns n = nm
   rw [Eh, ← hnl]
   exact Ss Lj (nm :: (dr ks ++ Dz)) 0
  rw [toRD, hk, hnm]
  congr 1
  have key : ∀ (rs : List RT) (m : Nat) (pr : List Int) (nr : List ByteArray), sizeRs rs ≤ d → t.ps = pr ++ (psRs rs n m ++ post) → t.ns = nr ++ (dr rs ++ Dz) → pr.length = m → nr.length = m → n < m → (∀ x ∈ pr, x < (m : Int)) → (∀ x ∈ post, x < (n : Int) ∨ ((m + sizeRs rs : Nat) : Int) ≤ x) → (hdR rs m).map (toRD (dy t) d) = rs := by
   intro rs
   induction rs with
   | nil => intros; rfl
   | cons r rs ihr =>
    intro m pr nr hd2 Su Sv Sm DA hm qA Y9
    rw [sizeRs] at hd2 Y9
    rw [psRs, List.append_assoc] at Su
    rw [dr, List.append_assoc] at Sv
    rw [hdR, List.map_cons]
    have h1 := ih r m n t pr (psRs rs n (m + aI r) ++ post) nr (dr rs ++ Dz) (by omega) Su Sv Sm DA (by omega) qA (fun x hx => by
     rcases List.mem_append.1 hx with hx | hx
     ·rcases vp rs n (m + aI r) x hx with h2 | ⟨h2, _⟩
      ·exact .inl (by omega)
      ·exact .inr h2
     ·rcases Y9 x hx with h2 | h2
      ·exact .inl (by omega)
      ·exact .inr (by omega))
    have h2 := ihr (m + aI r) (pr ++ psR r m n) (nr ++ cQ r) (by omega) (by rw [Su, List.append_assoc]) (by rw [Sv, List.append_assoc])
     (by rw [List.length_append, lQ, Sm]) (by rw [List.length_append, zk, DA]) (by omega) (fun x hx => by
      rcases List.mem_append.1 hx with hx | hx
      ·have := qA x hx; omega
      ·rcases Ic r m n x hx with h3 | ⟨_, h3⟩ <;> omega) (fun x hx => by
      rcases Y9 x hx with h3 | h3
      ·exact .inl h3
      ·exact .inr (by omega))
    rw [h1, h2]
  exact key ks (n + 1) (pre ++ [p]) (Lj ++ [nm]) (by omega) (by rw [hps, List.append_assoc]; rfl) (by rw [Eh, List.append_assoc]; rfl) (by simp [hpl]) (by simp [hnl]) (by omega) (fun x hx => by
   rcases List.mem_append.1 hx with hx | hx
   ·have := hpre x hx; omega
   ·have : x = p := by simpa using hx
    omega) (fun x hx => by
   rcases hpost x hx with h3 | h3
   ·exact .inl h3
   ·exact .inr (by omega))
theorem jG (r : RT) : (flat r).ps.length = aI r := lQ r 0 (-1)
theorem pF (r : RT) : (flat r).ns.length = aI r := zk r
theorem pG (r : RT) : dU (flat r) = r := by
 unfold dU aG
 have h : bY (flat r) 0 = aI r := by unfold bY; rw [jG, Nat.sub_zero]
 rw [h]
 exact Wj (aI r) r 0 (-1) (flat r) [] [] [] [] (Nat.le_refl _) (by simp [flat]) (by simp [flat]) rfl rfl (by omega) (fun x hx => by simp at hx) (fun x hx => by simp at hx)
end
section
open Go.RowKit Go.Deep
end
section
open Go.RowKit Go.Deep
deriving instance DecidableEq for Eu
end
section
open Go.RowKit Go.Deep
end
end Go.Proofs.YteegefnjnikngaaGreat
