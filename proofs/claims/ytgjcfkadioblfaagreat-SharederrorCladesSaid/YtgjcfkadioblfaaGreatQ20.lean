/- Contracts: IndexFunc, ContainsFunc over groups; far. What grow computes, plain; its closures. -/
import Derived.Test.YtgjcfkadioblfaaGreatQ19
import Derived.Test.YtgjcfkadioblfaaGreatQ14
namespace Go.Proofs.YtgjcfkadioblfaaGreat
open Go.RowKit Go.Shelf Go.Deep
def gAgg (g : Grp) (sv : Value) : Value := .agg #[.int .i64 g.un, .int .i64 g.st, sv]
set_option maxRecDepth 100000 in
set_option maxHeartbeats 400000 in
theorem eg_ix_t (g : Nat) (lb : Array Value) (eg : ∀ args w, (callFunc g args).run Tryz.prog w = .ok (.enter g args) w) (S : Nat → Prop) (w : World) (v : Value) (l : List Grp) (p : Nat → Bool)
    (h : GrpsAt S w v l) (hn : l.length ≤ 1000000) (hp : ∀ k w' sv, k < l.length → Up w w' → IntsAt S w' sv (gg l k).src → Calls Tryz.prog g (#[gAgg (gg l k) sv] ++ lb) w' fun e w'' => e = .returned (.bool (p k)) ∧ Up w' w'') :
    Calls Tryz.prog 153 #[v, .func (.func g) #[] lb] w fun e w' => e = .returned (.int .i64 (firstIx p l.length)) ∧ Up w w' := by
  obtain ⟨q, cap, rfl, hcap⟩ := grps_open h
  have HP := Lib.hid hp
  have HX := Lib.hid h
  clear h hp
  go_enter Tryz.func153, Tryz.ntmps153
  go_wp2_with fail
  go_loopw [5, 8] (fun _ i wr => ∃ k : Nat, k ≤ l.length ∧ i = .int .i64 k ∧ Hid (Up w wr) ∧ Hid (∀ j, j < k → p j = false)) (fun _ i _ => l.length - (intOf i).toNat)
  case atStart => exact ⟨0, Nat.zero_le _, rfl, Up.refl _, fun j hj => absurd hj (Nat.not_lt_zero _)⟩
  case round =>
    obtain ⟨k, hk, rfl, hU, hd⟩ := hrel
    obtain ⟨wo, rfl⟩ : ∃ wo : World, wo = wr := ⟨_, rfl⟩
    by_cases hlt : k < l.length
    · obtain ⟨b, off, rq, rc, rfl, hc0, hc1, hc2, hri⟩ := grps_get (HX.out.keep (hU.out.kept S)) hlt
      have i1 : (0 : Int) ≤ (k : Int) := by omega
      have i2 : (k : Int) < (l.length : Int) := by omega
      have HPK := Lib.hid (HP.out k wo _ hlt hU.out hri)
      unfold gAgg at HPK
      clear hri
      generalize (gg l k).un = un at *
      generalize (gg l k).st = sx at *
      generalize (gg l k).src = src at *
      cases hv : p k
      · rw [hv] at HPK
        have HV := Lib.hid hv
        clear hv
        go_wp2_with fail
        refine HPK.out.mono ?_
        rintro e w' ⟨rfl, hU2⟩
        have HU2 := Lib.hid (hU.out.trans hU2)
        clear hU2
        go_wp2_with fail
        go_roundw
        case rel => exact ⟨k + 1, by omega, by go_num, HU2, fun j hj => if e : j = k then by subst e; exact HV.out else hd.out j (by omega)⟩
        case measure => simp [intOf]; omega
      · rw [hv] at HPK
        have HV := Lib.hid hv
        clear hv
        go_wp2_with fail
        refine HPK.out.mono ?_
        rintro e w' ⟨rfl, hU2⟩
        have HU2 := Lib.hid (hU.out.trans hU2)
        clear hU2
        go_wp2_with fail
        go_ret
        exact ⟨ret_int (firstIx_at hlt hd.out HV.out).symm, HU2.out⟩
    · go_wp2_with fail
      go_ret
      exact ⟨ret_int (firstIx_none fun j hj => hd.out j (by omega)).symm, hU.out⟩
set_option maxRecDepth 100000 in
set_option maxHeartbeats 400000 in
theorem eg_has_t (g : Nat) (lb : Array Value) (eg : ∀ args w, (callFunc g args).run Tryz.prog w = .ok (.enter g args) w) (S : Nat → Prop) (w : World) (v : Value) (l : List Grp) (p : Nat → Bool)
    (h : GrpsAt S w v l) (hn : l.length ≤ 1000000) (hp : ∀ k w' sv, k < l.length → Up w w' → IntsAt S w' sv (gg l k).src → Calls Tryz.prog g (#[gAgg (gg l k) sv] ++ lb) w' fun e w'' => e = .returned (.bool (p k)) ∧ Up w' w'') :
    Calls Tryz.prog 109 #[v, .func (.func g) #[] lb] w fun e w' => e = .returned (.bool ((List.range l.length).any p)) ∧ Up w w' := by
  have hx := firstIx_any p l.length
  have HX := Lib.hid hx
  have HI := Lib.hid (eg_ix_t g lb eg S w v l p h hn hp)
  clear hx hp h eg
  go_enter Tryz.func109, Tryz.ntmps109
  go_wp2_with fail
  refine HI.out.mono ?_
  rintro e w' ⟨rfl, hU⟩
  go_wp2_with fail
  go_ret
  exact ⟨ret_bool (by rw [← HX.out]), hU⟩
/-- A source of some group has no name. -/
def farB (l : List Grp) (n : Nat) : Bool := (List.range l.length).any fun k => decide ((n : Int) ≤ mxL (gg l k).src)
set_option maxRecDepth 100000 in
set_option maxHeartbeats 400000 in
theorem far1_t (S : Nat → Prop) (w : World) (g : Grp) (sv : Value) (pb n : Nat) (hc : w.cell? ⟨pb, 0, none⟩ = some (.int .i64 n)) (hi : IntsAt S w sv g.src) (h0 : 0 < g.src.length) (hn : g.src.length ≤ 1000000) :
    Calls Tryz.prog 110 (#[gAgg g sv] ++ #[.pointer (some ⟨pb, 0, none⟩)]) w fun e w' => e = .returned (.bool (decide ((n : Int) ≤ mxL g.src))) ∧ Up w w' := by
  show Calls Tryz.prog 110 #[.agg #[.int .i64 g.un, .int .i64 g.st, sv], .pointer (some ⟨pb, 0, none⟩)] w _
  obtain ⟨q, cap, rfl, hcap, _⟩ := SlAt.open hi
  have hal := Up.alloc w (.cells #[.int .i64 g.un, .int .i64 g.st, .slice q g.src.length cap] 61)
  obtain ⟨_, _, hb2⟩ := box3 w (.int .i64 g.un) (.int .i64 g.st) (.slice q g.src.length cap) 61
  have hb3 := hal.cell hc
  have HM := Lib.hid (fun m => same_quiet <| max_int_t S ((w.alloc (.cells #[.int .i64 g.un, .int .i64 g.st, .slice q g.src.length cap] 61)).drewN m) _ _ (IntsAt.keep hi ((hal.trans (Up.drewN _ _)).kept S)) h0 hn)
  have HU := Lib.hid hal
  clear hal hi hc
  go_enter Tryz.func110, Tryz.ntmps110
  go_wp2_with fail
  go_quiet (with_reducible exact HM.out _)
  go_wp2_with fail
  go_ret
  exact ⟨ret_bool rfl, HU.out.trans (Up.drewN _ _)⟩
set_option maxRecDepth 100000 in
set_option maxHeartbeats 400000 in
theorem far_t (S : Nat → Prop) (w : World) (v : Value) (l : List Grp) (n : Nat) (h : GrpsAt S w v l) (hn : l.length ≤ 1000000) (h0 : ∀ k, k < l.length → 0 < (gg l k).src.length) (hr : ∀ k, (gg l k).src.length ≤ 1000000) :
    Calls Tryz.prog 58 #[v, .int .i64 n] w fun e w' => e = .returned (.bool (farB l n)) ∧ Up w w' := by
  have hal := Up.alloc w (.cells #[.int .i64 n] 3)
  have hb := box1_0 w (.int .i64 n) 3
  have HI := Lib.hid (eg_has_t 110 #[.pointer (some ⟨w.heap.size, 0, none⟩)] (enters_of Tryz.func110 (by kernel_rfl) rfl) S (w.alloc (.cells #[.int .i64 n] 3)) v l (fun k => decide ((n : Int) ≤ mxL (gg l k).src)) (h.keep (hal.kept S)) hn
    (fun k w' sv hk hU hi => far1_t S w' (gg l k) sv w.heap.size n (hU.cell hb) hi (h0 k hk) (hr k)))
  have HU := Lib.hid hal
  have HF : Hid (farB l n = (List.range l.length).any fun k => decide ((n : Int) ≤ mxL (gg l k).src)) := rfl
  clear hal hb h h0 hr
  go_enter Tryz.func58, Tryz.ntmps58
  go_wp2_with fail
  refine HI.out.mono ?_
  rintro e w' ⟨rfl, hU⟩
  go_wp2_with fail
  go_ret
  exact ⟨ret_bool HF.out.symm, HU.out.trans hU⟩
end Go.Proofs.YtgjcfkadioblfaaGreat
namespace Go.Proofs.YtgjcfkadioblfaaGreat
open Go.RowKit Go.Shelf Go.Deep
def U64 (x : Nat) : Prop := x < 18446744073709551616
def midB (x y z : Nat) : Bool := decide (z ≠ x) && decide (z ≠ y) && withinB z x && withinB y z
/-- y is a child of x. -/
def isKid (inner : List Nat) (x y : Nat) : Bool := decide (y ≠ x) && withinB y x && !((List.range inner.length).any fun j => midB x y (gn inner j))
def minus (a b : Nat) : Nat := a &&& (18446744073709551615 - b)
def leafK (names : List ByteArray) (left : Nat) (own : Int) : Nat → Tre → Tre
  | 0, t => t
  | s + 1, t => if left.testBit s then (leafK names left own s t).push own (gs names s) else leafK names left own s t
def kidF (g : Nat → Int → Tre → Tre) (inner : List Nat) (x : Nat) (own : Int) : Nat → Nat × Tre → Nat × Tre
  | 0, r => r
  | k + 1, r => if isKid inner x (gn inner k) then (minus (kidF g inner x own k r).1 (gn inner k), g (gn inner k) own (kidF g inner x own k r).2) else kidF g inner x own k r
def growF (names : List ByteArray) (inner : List Nat) : Nat → Nat → Int → Tre → Tre
  | 0, _, _, t => t
  | d + 1, x, par, t => leafK names (kidF (growF names inner d) inner x (t.ps.length : Int) inner.length (x, t.push par ByteArray.empty)).1 (t.ps.length : Int) names.length
      (kidF (growF names inner d) inner x (t.ps.length : Int) inner.length (x, t.push par ByteArray.empty)).2
theorem push_len (t : Tre) (p : Int) (s : ByteArray) : (t.push p s).ps.length = t.ps.length + 1 ∧ (t.push p s).ns.length = t.ns.length + 1 := by simp [Tre.push]
theorem leafK_len (names : List ByteArray) (left : Nat) (own : Int) : ∀ (s : Nat) (t : Tre), t.ps.length ≤ (leafK names left own s t).ps.length ∧ ((leafK names left own s t).ps.length - t.ps.length = (leafK names left own s t).ns.length - t.ns.length ∧ t.ns.length ≤ (leafK names left own s t).ns.length)
  | 0, t => ⟨Nat.le_refl _, by simp [leafK], Nat.le_refl _⟩
  | s + 1, t => by
    have ih := leafK_len names left own s t
    unfold leafK
    split
    · have := push_len (leafK names left own s t) own (gs names s); omega
    · exact ih
theorem leafK_mono (names : List ByteArray) (left : Nat) (own : Int) (t : Tre) {s : Nat} : ∀ {n : Nat}, s ≤ n → (leafK names left own s t).ps.length ≤ (leafK names left own n t).ps.length
  | 0, h => by obtain rfl : s = 0 := by omega
               exact Nat.le_refl _
  | n + 1, h => by
    by_cases e : s = n + 1
    · subst e; exact Nat.le_refl _
    · have ih := leafK_mono names left own t (s := s) (n := n) (by omega)
      have h2 : (leafK names left own (n + 1) t).ps.length = (leafK names left own n t).ps.length ∨ (leafK names left own (n + 1) t).ps.length = (leafK names left own n t).ps.length + 1 := by
        rw [show leafK names left own (n + 1) t = if left.testBit n then (leafK names left own n t).push own (gs names n) else leafK names left own n t from rfl]
        split
        · exact .inr (push_len _ _ _).1
        · exact .inl rfl
      omega
def Grows (g : Nat → Int → Tre → Tre) : Prop := ∀ x p t, t.ps.length ≤ (g x p t).ps.length
theorem kidF_step_len {g : Nat → Int → Tre → Tre} (hg : Grows g) (inner : List Nat) (x : Nat) (own : Int) (k : Nat) (r : Nat × Tre) : (kidF g inner x own k r).2.ps.length ≤ (kidF g inner x own (k + 1) r).2.ps.length := by
  show _ ≤ (if isKid inner x (gn inner k) then _ else _ : Nat × Tre).2.ps.length
  split
  · exact hg _ _ _
  · exact Nat.le_refl _
theorem kidF_mono {g : Nat → Int → Tre → Tre} (hg : Grows g) (inner : List Nat) (x : Nat) (own : Int) (r : Nat × Tre) {s : Nat} : ∀ {n : Nat}, s ≤ n → (kidF g inner x own s r).2.ps.length ≤ (kidF g inner x own n r).2.ps.length
  | 0, h => by obtain rfl : s = 0 := by omega
               exact Nat.le_refl _
  | n + 1, h => by
    by_cases e : s = n + 1
    · subst e; exact Nat.le_refl _
    · exact Nat.le_trans (kidF_mono hg inner x own r (s := s) (n := n) (by omega)) (kidF_step_len hg inner x own n r)
theorem growF_len (names : List ByteArray) (inner : List Nat) : ∀ d, Grows (growF names inner d)
  | 0, _, _, _ => Nat.le_refl _
  | d + 1, x, p, t => by
    have ih := growF_len names inner d
    have h1 := kidF_mono ih inner x (t.ps.length : Int) (x, t.push p ByteArray.empty) (Nat.zero_le inner.length)
    have h2 := (leafK_len names (kidF (growF names inner d) inner x (t.ps.length : Int) inner.length (x, t.push p ByteArray.empty)).1 (t.ps.length : Int) names.length (kidF (growF names inner d) inner x (t.ps.length : Int) inner.length (x, t.push p ByteArray.empty)).2).1
    have h3 := (push_len t p ByteArray.empty).1
    have h4 : (kidF (growF names inner d) inner x (t.ps.length : Int) 0 (x, t.push p ByteArray.empty)).2 = t.push p ByteArray.empty := rfl
    rw [h4] at h1
    show _ ≤ (leafK _ _ _ _ _).ps.length
    omega
theorem minus_lt {a : Nat} (h : U64 a) (b : Nat) : U64 (minus a b) := Nat.lt_of_le_of_lt Nat.and_le_left h
theorem kidF_u64 (g : Nat → Int → Tre → Tre) (inner : List Nat) (x : Nat) (own : Int) {r : Nat × Tre} (h : U64 r.1) : ∀ k, U64 (kidF g inner x own k r).1
  | 0 => h
  | k + 1 => by
    show U64 (if isKid inner x (gn inner k) then _ else _ : Nat × Tre).1
    split
    · exact minus_lt (kidF_u64 g inner x own h k) _
    · exact kidF_u64 g inner x own h k
set_option maxRecDepth 100000 in
set_option maxHeartbeats 1000000 in
theorem mid_t (w : World) (x y z xb yb : Nat) (hx : U64 x) (hy : U64 y) (hz : U64 z) (h1 : w.cell? ⟨xb, 0, none⟩ = some (.int .u64 x)) (h2 : w.cell? ⟨yb, 0, none⟩ = some (.int .u64 y)) :
    FnIs 63 #[.pointer (some ⟨xb, 0, none⟩), .pointer (some ⟨yb, 0, none⟩)] #[.int .u64 z] (.bool (midB x y z)) w := by
  unfold FnIs
  show Calls Tryz.prog 63 #[.int .u64 z, .pointer (some ⟨xb, 0, none⟩), .pointer (some ⟨yb, 0, none⟩)] w _
  have HM : Hid (midB x y z = (decide (z ≠ x) && decide (z ≠ y) && withinB z x && withinB y z)) := rfl
  have HW1 := Lib.hid (within_t z x hz hx w)
  have HW2 := Lib.hid (within_t y z hy hz w)
  clear hx hy hz
  generalize withinB z x = b1 at *
  generalize withinB y z = b2 at *
  by_cases e1 : z = x
  · have d1 : ((z : Int) != (x : Int)) = false := by simp [e1]
    have HR : Hid (midB x y z = false) := by unfold Hid; rw [HM.out, decide_eq_false (not_not_intro e1)]; rfl
    clear e1
    go_enter Tryz.func63, Tryz.ntmps63
    go_wp2_with fail
    go_ret
    exact ⟨ret_bool HR.out.symm, rfl⟩
  · have d1 : ((z : Int) != (x : Int)) = true := by simp; omega
    by_cases e2 : z = y
    · have d2 : ((z : Int) != (y : Int)) = false := by simp [e2]
      have HR : Hid (midB x y z = false) := by unfold Hid; rw [HM.out, decide_eq_false (not_not_intro e2)]; simp
      clear e2 e1
      go_enter Tryz.func63, Tryz.ntmps63
      go_wp2_with fail
      go_ret
      exact ⟨ret_bool HR.out.symm, rfl⟩
    · have d2 : ((z : Int) != (y : Int)) = true := by simp; omega
      have HR : Hid (midB x y z = (b1 && b2)) := by unfold Hid; rw [HM.out, decide_eq_true e1, decide_eq_true e2]; rfl
      clear e1 e2
      cases b1
      · go_enter Tryz.func63, Tryz.ntmps63
        go_wp2_with (first | (refine HW1.out.mono ?_; rintro e w' ⟨rfl, rfl⟩) | (refine HW2.out.mono ?_; rintro e w' ⟨rfl, rfl⟩))
        go_ret
        exact ⟨ret_bool (by rw [HR.out]; rfl), rfl⟩
      · go_enter Tryz.func63, Tryz.ntmps63
        go_wp2_with (first | (refine HW1.out.mono ?_; rintro e w' ⟨rfl, rfl⟩) | (refine HW2.out.mono ?_; rintro e w' ⟨rfl, rfl⟩))
        go_ret
        exact ⟨ret_bool (by rw [HR.out]; rfl), rfl⟩
end Go.Proofs.YtgjcfkadioblfaaGreat
