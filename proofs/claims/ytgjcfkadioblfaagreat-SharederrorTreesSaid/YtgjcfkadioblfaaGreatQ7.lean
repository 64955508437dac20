/- Contracts: Index, Contains, IndexFunc, ContainsFunc over sets; sharederror.named; Max; far. Contracts: IndexFunc, ContainsFunc over groups; far. A list of groups of the call's own; a group appended. The contract of sharederror.Groups. -/
import Derived.Test.YtgjcfkadioblfaaGreatQ6
import Derived.Test.YtgjcfkadioblfaaGreatQ3
import Derived.Test.YtgjcfkadioblfaaGreatQ5
namespace Go.Proofs.YtgjcfkadioblfaaGreat
open Go.RowKit Go.Shelf Go.Deep
def gn (l : List Nat) (k : Nat) : Nat := l.getD k 0
def SetsAt (S : Nat → Prop) (w : World) (v : Value) (xs : List Nat) : Prop := SlAt S w v xs.length (fun k => .int .u64 (gn xs k))
theorem SetsAt.keep {S : Nat → Prop} {w w' : World} {v : Value} {xs : List Nat} (h : SetsAt S w v xs) (k : Kept S w w') : SetsAt S w' v xs := SlAt.keep h k
theorem SetsAt.sub {S T : Nat → Prop} {w : World} {v : Value} {xs : List Nat} (h : SetsAt S w v xs) (k : ∀ b, S b → b < w.heap.size → T b) : SetsAt T w v xs := SlAt.sub h k
theorem sets_get {S : Nat → Prop} {w : World} {p : Option Addr} {n cap : Nat} {xs : List Nat} (h : SetsAt S w (.slice p n cap) xs) {k : Nat} (hk : k < xs.length) : ∃ b off, p = some ⟨b, off, none⟩ ∧ w.cell? ⟨b, off + k, none⟩ = some (.int .u64 (gn xs k)) := by
  obtain ⟨q, c, e, _, H⟩ := SlAt.open h
  injection e with e1
  subst e1
  exact H k hk
section
attribute [local go_sem] Oper.semAt_some
set_option maxHeartbeats 400000 in
theorem index_set_t (S : Nat → Prop) (w : World) (v : Value) (xs : List Nat) (x : Nat) (h : SetsAt S w v xs) (hn : xs.length ≤ 1000000) :
    Calls Tryz.prog 112 #[v, .int .u64 x] w fun e w' => e = .returned (.int .i64 (firstIx (fun j => decide (x = gn xs j)) xs.length)) ∧ w = w' := by
  obtain ⟨p, cap, rfl, hcap, H⟩ := SlAt.open h
  clear h
  go_enter Tryz.func112, Tryz.ntmps112
  go_wp2_with fail
  go_loop [5, 8] (fun _ i => ∃ k : Nat, k ≤ xs.length ∧ i = .int .i64 k ∧ Hid (∀ j, j < k → decide (x = gn xs j) = false)) (fun _ i => xs.length - (intOf i).toNat)
  case atStart => exact ⟨0, Nat.zero_le _, rfl, fun j hj => absurd hj (Nat.not_lt_zero _)⟩
  case round =>
    obtain ⟨k, hk, rfl, hd⟩ := hrel
    by_cases hlt : k < xs.length
    · obtain ⟨b, off, rfl, hc⟩ := H k hlt
      clear H
      generalize hy : gn xs k = y at *
      have HY := Lib.hid hy
      clear hy
      by_cases hxy : x = y
      · have hx1 : (x == y) = true := by simp [hxy]
        have HXY := Lib.hid hxy
        clear hxy
        go_wp2_with fail
        go_ret
        exact ⟨ret_int (firstIx_at (p := fun j => decide (x = gn xs j)) hlt hd.out (by rw [HY.out]; simpa using HXY.out)).symm, rfl⟩
      · have hx1 : (x == y) = false := by simpa using hxy
        have HXY := Lib.hid hxy
        clear hxy
        go_wp2_with fail
        go_round
        case rel => exact ⟨k + 1, by omega, by go_num, fun j hj => if e : j = k then by subst e; rw [HY.out]; simpa using HXY.out else hd.out j (by omega)⟩
        case measure => simp [intOf]; omega
    · clear H
      go_wp2_with fail
      go_ret
      exact ⟨ret_int (firstIx_none fun j hj => hd.out j (by omega)).symm, rfl⟩
end
set_option maxHeartbeats 400000 in
theorem contains_set_t (S : Nat → Prop) (w : World) (v : Value) (xs : List Nat) (x : Nat) (h : SetsAt S w v xs) (hn : xs.length ≤ 1000000) :
    Calls Tryz.prog 59 #[v, .int .u64 x] w fun e w' => e = .returned (.bool ((List.range xs.length).any fun j => decide (x = gn xs j))) ∧ w = w' := by
  have hx := firstIx_any (fun j => decide (x = gn xs j)) xs.length
  have HX := Lib.hid hx
  have HI := Lib.hid (index_set_t S w v xs x h hn)
  clear hx h
  go_enter Tryz.func59, Tryz.ntmps59
  go_wp2_with fail
  refine HI.out.mono ?_
  rintro e w' ⟨rfl, rfl⟩
  go_wp2_with fail
  go_ret
  exact ⟨ret_bool (by rw [← HX.out]), rfl⟩
set_option maxHeartbeats 400000 in
theorem sets_ix_t (g : Nat) (lb : Array Value) (eg : ∀ args w, (callFunc g args).run Tryz.prog w = .ok (.enter g args) w) (S : Nat → Prop) (w : World) (v : Value) (n : Nat) (f : Nat → Value) (p : Nat → Bool)
    (h : SlAt S w v n f) (hn : n ≤ 1000000) (hp : ∀ k, k < n → FnIs g lb #[f k] (.bool (p k)) w) :
    Calls Tryz.prog 113 #[v, .func (.func g) #[] lb] w fun e w' => e = .returned (.int .i64 (firstIx p n)) ∧ w = w' := by
  obtain ⟨q, cap, rfl, hcap, H⟩ := h.open
  have HP := Lib.hid hp
  clear h hp
  go_enter Tryz.func113, Tryz.ntmps113
  go_wp2_with fail
  go_loop [5, 8] (fun _ i => ∃ k : Nat, k ≤ n ∧ i = .int .i64 k ∧ Hid (∀ j, j < k → p j = false)) (fun _ i => n - (intOf i).toNat)
  case atStart => exact ⟨0, Nat.zero_le _, rfl, fun j hj => absurd hj (Nat.not_lt_zero _)⟩
  case round =>
    obtain ⟨k, hk, rfl, hd⟩ := hrel
    by_cases hlt : k < n
    · obtain ⟨b, off, rfl, hc⟩ := H k hlt
      clear H
      have hpk := HP.out k hlt
      unfold FnIs at hpk
      have HPK := Lib.hid hpk
      clear hpk HP
      generalize hv : p k = pk at *
      have HV := Lib.hid hv
      clear hv
      cases pk
      · go_wp2_with fail
        refine HPK.out.mono ?_
        rintro e w' ⟨rfl, rfl⟩
        go_wp2_with fail
        go_round
        case rel => exact ⟨k + 1, by omega, by go_num, fun j hj => if e : j = k then by subst e; exact HV.out else hd.out j (by omega)⟩
        case measure => simp [intOf]; omega
      · go_wp2_with fail
        refine HPK.out.mono ?_
        rintro e w' ⟨rfl, rfl⟩
        go_wp2_with fail
        go_ret
        exact ⟨ret_int (firstIx_at hlt hd.out HV.out).symm, rfl⟩
    · clear H
      go_wp2_with fail
      go_ret
      exact ⟨ret_int (firstIx_none fun j hj => hd.out j (by omega)).symm, rfl⟩
set_option maxHeartbeats 400000 in
theorem sets_has_t (g : Nat) (lb : Array Value) (eg : ∀ args w, (callFunc g args).run Tryz.prog w = .ok (.enter g args) w) (S : Nat → Prop) (w : World) (v : Value) (n : Nat) (f : Nat → Value) (p : Nat → Bool)
    (h : SlAt S w v n f) (hn : n ≤ 1000000) (hp : ∀ k, k < n → FnIs g lb #[f k] (.bool (p k)) w) :
    Calls Tryz.prog 62 #[v, .func (.func g) #[] lb] w fun e w' => e = .returned (.bool ((List.range n).any p)) ∧ w = w' := by
  have hx := firstIx_any p n
  have HX := Lib.hid hx
  have HI := Lib.hid (sets_ix_t g lb eg S w v n f p h hn hp)
  clear hx hp h eg
  go_enter Tryz.func62, Tryz.ntmps62
  go_wp2_with fail
  refine HI.out.mono ?_
  rintro e w' ⟨rfl, rfl⟩
  go_wp2_with fail
  go_ret
  exact ⟨ret_bool (by rw [← HX.out]), rfl⟩
set_option maxHeartbeats 400000 in
theorem snamed_t (s : ByteArray) (hs : s.size ≤ 70000) (w : World) : Calls Tryz.prog 56 #[.string s] w fun e w' => e = .returned (.bool (namedB s.data.toList)) ∧ w = w' := by
  have hl := size_data s
  have HL := Lib.hid hl
  clear hl
  go_enter Tryz.func56, Tryz.ntmps56
  go_wp2_with fail
  refine (suffix_t s hs _).mono ?_
  rintro e w' ⟨⟨h1, r, hr, hd, rfl⟩ | ⟨h1, rfl⟩, rfl⟩
  · have hf : namedB s.data.toList = (decide (s.size ≤ 16) && isNameB r.data.toList) := by
      unfold namedB; rw [if_pos h1, hd, HL.out, Bool.and_comm]
    have HF := Lib.hid hf
    clear hf hd h1
    go_wp2_with (go_at_call 108; refine (isName_t r (by omega) _).mono ?_; rintro e w' ⟨rfl, rfl⟩)
    all_goals
      go_ret
      refine ⟨ret_bool ?_, rfl⟩
      rw [HF.out, Bool.eq_iff_iff]
      simp at *
      try omega
  · have hf : namedB s.data.toList = isNameB s.data.toList := by unfold namedB; rw [if_neg h1]
    have HF := Lib.hid hf
    clear hf h1
    go_wp2_with (go_at_call 108; refine (isName_t s hs _).mono ?_; rintro e w' ⟨rfl, rfl⟩)
    go_ret
    exact ⟨ret_bool (by rw [HF.out]), rfl⟩
/-- The greatest of the first k numbers. -/
def mxK (l : List Int) : Nat → Int
  | 0 => gi l 0
  | k + 1 => max (mxK l k) (gi l k)
def mxL (l : List Int) : Int := mxK l l.length
set_option maxHeartbeats 400000 in
theorem max_int_t (S : Nat → Prop) (w : World) (v : Value) (xs : List Int) (h : IntsAt S w v xs) (h0 : 0 < xs.length) (hn : xs.length ≤ 1000000) :
    Calls Tryz.prog 111 #[v] w fun e w' => e = .returned (.int .i64 (mxL xs)) ∧ w = w' := by
  obtain ⟨p, cap, rfl, hcap, H⟩ := SlAt.open h
  clear h
  obtain ⟨b0, o0, rfl, hc0⟩ := H 0 h0
  rw [Nat.add_zero] at hc0
  have hx1 : mxK xs 1 = gi xs 0 := by show max (gi xs 0) (gi xs 0) = _; exact Int.max_self _
  have HX1 := Lib.hid hx1
  have d0 : decide ((xs.length : Int) < 1) = false := by simp; omega
  clear hx1
  have HML : Hid (mxL xs = mxK xs xs.length) := rfl
  go_enter Tryz.func111, Tryz.ntmps111
  go_wp2_with fail
  go_loop [3, 4] (fun m i => ∃ k : Nat, 1 ≤ k ∧ k ≤ xs.length ∧ i = .int .i64 k ∧ m = .int .i64 (mxK xs k)) (fun _ i => xs.length - (intOf i).toNat)
  case atStart => exact ⟨1, Nat.le_refl _, h0, by go_num, by rw [HX1.out]⟩
  case round =>
    obtain ⟨k, hk1, hk, rfl, rfl⟩ := hrel
    by_cases hlt : k < xs.length
    · obtain ⟨b, off, e1, hc⟩ := H k hlt
      injection e1 with e1
      injection e1 with e1 e2
      subst e1; subst e2
      have HS : Hid (mxK xs (k + 1) = max (mxK xs k) (gi xs k)) := rfl
      clear H
      go_wp2_with fail
      go_round
      case rel => exact ⟨k + 1, by omega, by omega, by go_num, by rw [HS.out]⟩
      case measure => simp [intOf]; omega
    · obtain rfl : k = xs.length := by omega
      clear H
      go_wp2_with fail
      go_ret
      exact ⟨ret_int HML.out.symm, rfl⟩
end Go.Proofs.YtgjcfkadioblfaaGreat
namespace Go.Proofs.YtgjcfkadioblfaaGreat
open Go.RowKit Go.Shelf Go.Deep
def gAgg (g : Grp) (sv : Value) : Value := .agg #[.int .i64 g.un, .int .i64 g.st, sv]
set_option maxRecDepth 100000 in
set_option maxHeartbeats 400000 in
theorem eg_ix_t (g : Nat) (lb : Array Value) (eg : ∀ args w, (callFunc g args).run Tryz.prog w = .ok (.enter g args) w) (S : Nat → Prop) (w : World) (v : Value) (l : List Grp) (p : Nat → Bool)
    (h : GrpsAt S w v l) (hn : l.length ≤ 1000000) (hp : ∀ k w' sv, k < l.length → Up w w' → IntsAt S w' sv (gg l k).src → Calls Tryz.prog g (#[gAgg (gg l k) sv] ++ lb) w' fun e w'' => e = .returned (.bool (p k)) ∧ Up w' w'') :
    Calls Tryz.prog 153 #[v, .func (.func g) #[] lb] w fun e w' => e = .returned (.int .i64 (firstIx p l.length)) ∧ Up w w' := by
  obtain ⟨q, cap, rfl, hcap⟩ := grps_open h
  have HP := Lib.hid hp
  have HX := Lib.hid h
  clear h hp
  go_enter Tryz.func153, Tryz.ntmps153
  go_wp2_with fail
  go_loopw [5, 8] (fun _ i wr => ∃ k : Nat, k ≤ l.length ∧ i = .int .i64 k ∧ Hid (Up w wr) ∧ Hid (∀ j, j < k → p j = false)) (fun _ i _ => l.length - (intOf i).toNat)
  case atStart => exact ⟨0, Nat.zero_le _, rfl, Up.refl _, fun j hj => absurd hj (Nat.not_lt_zero _)⟩
  case round =>
    obtain ⟨k, hk, rfl, hU, hd⟩ := hrel
    obtain ⟨wo, rfl⟩ : ∃ wo : World, wo = wr := ⟨_, rfl⟩
    by_cases hlt : k < l.length
    · obtain ⟨b, off, rq, rc, rfl, hc0, hc1, hc2, hri⟩ := grps_get (HX.out.keep (hU.out.kept S)) hlt
      have i1 : (0 : Int) ≤ (k : Int) := by omega
      have i2 : (k : Int) < (l.length : Int) := by omega
      have HPK := Lib.hid (HP.out k wo _ hlt hU.out hri)
      unfold gAgg at HPK
      clear hri
      generalize (gg l k).un = un at *
      generalize (gg l k).st = sx at *
      generalize (gg l k).src = src at *
      cases hv : p k
      · rw [hv] at HPK
        have HV := Lib.hid hv
        clear hv
        go_wp2_with fail
        refine HPK.out.mono ?_
        rintro e w' ⟨rfl, hU2⟩
        have HU2 := Lib.hid (hU.out.trans hU2)
        clear hU2
        go_wp2_with fail
        go_roundw
        case rel => exact ⟨k + 1, by omega, by go_num, HU2, fun j hj => if e : j = k then by subst e; exact HV.out else hd.out j (by omega)⟩
        case measure => simp [intOf]; omega
      · rw [hv] at HPK
        have HV := Lib.hid hv
        clear hv
        go_wp2_with fail
        refine HPK.out.mono ?_
        rintro e w' ⟨rfl, hU2⟩
        have HU2 := Lib.hid (hU.out.trans hU2)
        clear hU2
        go_wp2_with fail
        go_ret
        exact ⟨ret_int (firstIx_at hlt hd.out HV.out).symm, HU2.out⟩
    · go_wp2_with fail
      go_ret
      exact ⟨ret_int (firstIx_none fun j hj => hd.out j (by omega)).symm, hU.out⟩
set_option maxRecDepth 100000 in
set_option maxHeartbeats 400000 in
theorem eg_has_t (g : Nat) (lb : Array Value) (eg : ∀ args w, (callFunc g args).run Tryz.prog w = .ok (.enter g args) w) (S : Nat → Prop) (w : World) (v : Value) (l : List Grp) (p : Nat → Bool)
    (h : GrpsAt S w v l) (hn : l.length ≤ 1000000) (hp : ∀ k w' sv, k < l.length → Up w w' → IntsAt S w' sv (gg l k).src → Calls Tryz.prog g (#[gAgg (gg l k) sv] ++ lb) w' fun e w'' => e = .returned (.bool (p k)) ∧ Up w' w'') :
    Calls Tryz.prog 109 #[v, .func (.func g) #[] lb] w fun e w' => e = .returned (.bool ((List.range l.length).any p)) ∧ Up w w' := by
  have hx := firstIx_any p l.length
  have HX := Lib.hid hx
  have HI := Lib.hid (eg_ix_t g lb eg S w v l p h hn hp)
  clear hx hp h eg
  go_enter Tryz.func109, Tryz.ntmps109
  go_wp2_with fail
  refine HI.out.mono ?_
  rintro e w' ⟨rfl, hU⟩
  go_wp2_with fail
  go_ret
  exact ⟨ret_bool (by rw [← HX.out]), hU⟩
/-- A source of some group has no name. -/
def farB (l : List Grp) (n : Nat) : Bool := (List.range l.length).any fun k => decide ((n : Int) ≤ mxL (gg l k).src)
set_option maxRecDepth 100000 in
set_option maxHeartbeats 400000 in
theorem far1_t (S : Nat → Prop) (w : World) (g : Grp) (sv : Value) (pb n : Nat) (hc : w.cell? ⟨pb, 0, none⟩ = some (.int .i64 n)) (hi : IntsAt S w sv g.src) (h0 : 0 < g.src.length) (hn : g.src.length ≤ 1000000) :
    Calls Tryz.prog 110 (#[gAgg g sv] ++ #[.pointer (some ⟨pb, 0, none⟩)]) w fun e w' => e = .returned (.bool (decide ((n : Int) ≤ mxL g.src))) ∧ Up w w' := by
  show Calls Tryz.prog 110 #[.agg #[.int .i64 g.un, .int .i64 g.st, sv], .pointer (some ⟨pb, 0, none⟩)] w _
  obtain ⟨q, cap, rfl, hcap, _⟩ := SlAt.open hi
  have hal := Up.alloc w (.cells #[.int .i64 g.un, .int .i64 g.st, .slice q g.src.length cap] 61)
  obtain ⟨_, _, hb2⟩ := box3 w (.int .i64 g.un) (.int .i64 g.st) (.slice q g.src.length cap) 61
  have hb3 := hal.cell hc
  have HM := Lib.hid (fun m => same_quiet <| max_int_t S ((w.alloc (.cells #[.int .i64 g.un, .int .i64 g.st, .slice q g.src.length cap] 61)).drewN m) _ _ (IntsAt.keep hi ((hal.trans (Up.drewN _ _)).kept S)) h0 hn)
  have HU := Lib.hid hal
  clear hal hi hc
  go_enter Tryz.func110, Tryz.ntmps110
  go_wp2_with fail
  go_quiet (with_reducible exact HM.out _)
  go_wp2_with fail
  go_ret
  exact ⟨ret_bool rfl, HU.out.trans (Up.drewN _ _)⟩
set_option maxRecDepth 100000 in
set_option maxHeartbeats 400000 in
theorem far_t (S : Nat → Prop) (w : World) (v : Value) (l : List Grp) (n : Nat) (h : GrpsAt S w v l) (hn : l.length ≤ 1000000) (h0 : ∀ k, k < l.length → 0 < (gg l k).src.length) (hr : ∀ k, (gg l k).src.length ≤ 1000000) :
    Calls Tryz.prog 58 #[v, .int .i64 n] w fun e w' => e = .returned (.bool (farB l n)) ∧ Up w w' := by
  have hal := Up.alloc w (.cells #[.int .i64 n] 3)
  have hb := box1_0 w (.int .i64 n) 3
  have HI := Lib.hid (eg_has_t 110 #[.pointer (some ⟨w.heap.size, 0, none⟩)] (enters_of Tryz.func110 (by kernel_rfl) rfl) S (w.alloc (.cells #[.int .i64 n] 3)) v l (fun k => decide ((n : Int) ≤ mxL (gg l k).src)) (h.keep (hal.kept S)) hn
    (fun k w' sv hk hU hi => far1_t S w' (gg l k) sv w.heap.size n (hU.cell hb) hi (h0 k hk) (hr k)))
  have HU := Lib.hid hal
  have HF : Hid (farB l n = (List.range l.length).any fun k => decide ((n : Int) ≤ mxL (gg l k).src)) := rfl
  clear hal hb h h0 hr
  go_enter Tryz.func58, Tryz.ntmps58
  go_wp2_with fail
  refine HI.out.mono ?_
  rintro e w' ⟨rfl, hU⟩
  go_wp2_with fail
  go_ret
  exact ⟨ret_bool HF.out.symm, HU.out.trans hU⟩
end Go.Proofs.YtgjcfkadioblfaaGreat
namespace Go.Proofs.YtgjcfkadioblfaaGreat
open Go.RowKit Go.Deep
def cellsG : List Grp → List Value → List Value
  | g :: gs, s :: ss => .int .i64 g.un :: .int .i64 g.st :: s :: cellsG gs ss
  | _, _ => []
theorem cellsG_snoc (g : Grp) (s : Value) : ∀ (gs : List Grp) (ss : List Value), ss.length = gs.length → cellsG (gs ++ [g]) (ss ++ [s]) = cellsG gs ss ++ [.int .i64 g.un, .int .i64 g.st, s]
  | [], [], _ => rfl
  | [], _ :: _, h => by simp at h
  | _ :: _, [], h => by simp at h
  | x :: gs, y :: ss, h => by
    simp only [List.cons_append, cellsG]
    rw [cellsG_snoc g s gs ss (by simpa using h)]
theorem cellsG_at : ∀ (gs : List Grp) (ss : List Value), ss.length = gs.length → ∀ k, k < gs.length → (cellsG gs ss)[k * 3]? = some (.int .i64 (gg gs k).un) ∧ (cellsG gs ss)[k * 3 + 1]? = some (.int .i64 (gg gs k).st) ∧ (cellsG gs ss)[k * 3 + 2]? = some (ss.getD k undef)
  | [], _, _, k, hk => absurd hk (Nat.not_lt_zero _)
  | _ :: _, [], h, _, _ => by simp at h
  | x :: gs, y :: ss, h, 0, _ => by simp [cellsG, gg]
  | x :: gs, y :: ss, h, k + 1, hk => by
    have ih := cellsG_at gs ss (by simpa using h) k (by simpa using hk)
    have e : (k + 1) * 3 = k * 3 + 1 + 1 + 1 := by omega
    simp only [cellsG, e, List.getElem?_cons_succ]
    have e2 : gg (x :: gs) (k + 1) = gg gs k := by simp [gg]
    have e3 : (y :: ss).getD (k + 1) undef = ss.getD k undef := by simp
    rw [e2, e3]
    refine ⟨ih.1, ?_, ?_⟩
    · have h1 := ih.2.1; rwa [show k * 3 + 1 = k * 3 + 1 from rfl] at h1
    · exact ih.2.2
theorem cellsG_len : ∀ (gs : List Grp) (ss : List Value), ss.length = gs.length → (cellsG gs ss).length = gs.length * 3
  | [], [], _ => rfl
  | [], _ :: _, h => by simp at h
  | _ :: _, [], h => by simp at h
  | x :: gs, y :: ss, h => by simp only [cellsG, List.length_cons]; rw [cellsG_len gs ss (by simpa using h)]; omega
def GrpsOwn (base : Nat) (T : TypeId) (w : World) (v : Value) (gs : List Grp) : Prop :=
  ∃ svs : List Value, svs.length = gs.length ∧ w.ownsRow base T 3 v gs.length (cellsG gs svs) ∧ ∀ i, i < gs.length → IntsAt (fun b => some b ≠ v.ownBlock) w (svs.getD i undef) (gg gs i).src
theorem GrpsOwn.nil (base : Nat) (T : TypeId) (w : World) : GrpsOwn base T w (.slice none 0 0) [] := ⟨[], rfl, World.ownsRow_nil _ _ _ _, fun _ hi => absurd hi (Nat.not_lt_zero _)⟩
theorem GrpsOwn.grps {base : Nat} {T : TypeId} {w : World} {v : Value} {gs : List Grp} (h : GrpsOwn base T w v gs) : GrpsAt Any w v gs := by
  obtain ⟨svs, hl, ho, hr⟩ := h
  rcases ho.2 with ⟨rfl, h0⟩ | ⟨g, cap, cur, rfl, hg, hc, hn, hcm, hcs, ht⟩
  · have : gs = [] := by cases gs with | nil => rfl | cons _ _ => simp at h0
    subst this
    exact ⟨none, 0, rfl, Nat.le_refl _, .inl rfl⟩
  · refine ⟨_, cap, rfl, hn, .inr ⟨g, 0, rfl, trivial, fun k hk => ?_⟩⟩
    obtain ⟨c1, c2, c3⟩ := cellsG_at gs svs hl k hk
    refine ⟨svs.getD k undef, ?_, ?_, ?_, (hr k hk).sub fun _ _ _ => trivial⟩
    · rw [Nat.zero_add, ho.cellAt (k * 3) (by omega)]; exact c1
    · rw [Nat.zero_add, ho.cellAt (k * 3 + 1) (by omega)]; exact c2
    · rw [Nat.zero_add, ho.cellAt (k * 3 + 2) (by omega)]; exact c3
section
variable {P : Program} {ops : Array Oper} {rest : List Oper} {o : Oper} {a : Act} {Q : Exit → Act → World → Prop}
/-- 'out = append(out, g)', g a group. -/
theorem wpList_appGrp (W : World) (hgd : o.guard = none) (s x : Operand) (t : TypeId) (ho : o.op = .call { callee := .builtin .append, args := #[s, x], argTypes := #[t, t] })
    (base : Nat) (e : TypeId) (z : Value) (bytes : Nat) (ht : P.underlying t = some (.slice e)) (hinfo : (P.info? e).map (fun i => (i.zero, i.size, i.bytes)) = some (some z, 3, bytes))
    (hz1 : z.cells.size = 3) (hb8 : bytes ≤ 64) {v : Value} {gs : List Grp} (hown : GrpsOwn base e W v gs) (hs : a.eval s = v) (G : Grp) (u : Value)
    (hx : a.eval x = .slice (some ⟨W.heap.size, 0, none⟩) 1 1) (hu : IntsAt (fun b => some b ≠ v.ownBlock) W u G.src) (h1 : u.oneCell' = true) (n : Nat) (hxn : gs.length = n) (hn : n ≤ 1000000) (hbase : base ≤ W.heap.size)
    (h : ∀ g cap w', GrpsOwn base e w' (.slice (some ⟨g, 0, none⟩) (n + 1) cap) (gs ++ [G]) → W.grownBy w' v.ownBlock → Below base W w' → wpList P ops Q rest (a.put o.dst (.slice (some ⟨g, 0, none⟩) (n + 1) cap)) w') :
    wpList P ops Q (o :: rest) a (W.alloc (.cells #[.int .i64 G.un, .int .i64 G.st, u] e)) := by
  subst hxn
  obtain ⟨i, hi, hzz⟩ := Option.map_eq_some_iff.1 hinfo
  simp only [Prod.mk.injEq] at hzz
  obtain ⟨hz, hs1, hb⟩ := hzz
  obtain ⟨svs, hl, hown, hrows⟩ := hown
  refine wpList_append_lies _ hgd s x t ho base e i z 3 bytes ht hi hz hs1 hb hz1 (by omega) v gs.length (cellsG gs svs) hs (hown.alloc _) ⟨W.heap.size, 0, none⟩ 1 1 [.int .i64 G.un, .int .i64 G.st, u] hx rfl ?_ (fun q hq => by
    rcases List.mem_cons.1 hq with e | hq
    · subst e; rfl
    · rcases List.mem_cons.1 hq with e | hq
      · subst e; rfl
      · rw [List.mem_singleton.1 hq]; exact h1) (by omega)
    (by unfold maxLen; omega) ?_ (by simp; omega) _ rfl fun g cap w' h2 h3 h4 _ => ?_
  · intro j u' hj
    match j with
    | 0 => obtain rfl : Value.int .i64 G.un = u' := by simpa using hj
           exact cell_at_new W _ e 0
    | 1 => obtain rfl : Value.int .i64 G.st = u' := by simpa using hj
           exact cell_at_new W _ e 1
    | 2 => obtain rfl : u = u' := by simpa using hj
           exact cell_at_new W _ e 2
    | j + 3 => simp at hj
  · have : (gs.length + 1) * bytes ≤ (gs.length + 1) * 64 := Nat.mul_le_mul_left _ hb8
    omega
  · have hg := grown_alloc h3
    have hgne : ∀ b : Nat, some b ≠ v.ownBlock → b < W.heap.size → some b ≠ (Value.slice (some ⟨g, 0, none⟩) (gs.length + 1) cap).ownBlock := fun b hb hlt e => by
      simp only [Value.ownBlock, Option.some.injEq] at e
      rcases h4 with h4 | h4
      · exact hb (by rw [h4, e])
      · rw [World.size_alloc] at h4; omega
    have hkeep : ∀ {u' : Value} {y' : List Int}, IntsAt (fun b => some b ≠ v.ownBlock) W u' y' → IntsAt (fun b => some b ≠ (Value.slice (some ⟨g, 0, none⟩) (gs.length + 1) cap).ownBlock) w' u' y' := fun hi' =>
      ((hi'.sub (T := fun b => some b ≠ v.ownBlock ∧ b < W.heap.size) fun b hb hlt => ⟨hb, hlt⟩).keep fun b hb hlt => hg.block b hlt hb.1).sub fun b hb _ => hgne b hb.1 hb.2
    refine h g cap w' ⟨svs ++ [u], by simp [hl], ?_, fun i hi => ?_⟩ hg (Below.grown (Below.refl _ _) hg hbase fun k hk => (World.ownsRow.lt hown k hk).1)
    · rw [List.length_append, cellsG_snoc G u gs svs hl]; exact h2
    · rw [List.length_append] at hi
      by_cases hi2 : i < gs.length
      · have e1 : (svs ++ [u]).getD i undef = svs.getD i undef := by simp [List.getElem?_append, hl, hi2]
        have e2 : gg (gs ++ [G]) i = gg gs i := by simp [gg, List.getElem?_append, hi2]
        rw [e1, e2]; exact hkeep (hrows i hi2)
      · obtain rfl : i = gs.length := by simp at hi; omega
        have e1 : (svs ++ [u]).getD gs.length undef = u := by simp [← hl]
        have e2 : gg (gs ++ [G]) gs.length = G := by simp [gg]
        rw [e1, e2]; exact hkeep hu
end
end Go.Proofs.YtgjcfkadioblfaaGreat
namespace Go.Proofs.YtgjcfkadioblfaaGreat
open Go.RowKit Go.Deep
theorem Tryz.infoEG : (Tryz.prog.info? 61).map (fun i => (i.zero, i.size, i.bytes)) = some (some (.agg #[.int .i64 0, .int .i64 0, .slice none 0 0]), 3, 40) := by kernel_rfl
theorem GrpsOwn.kept {base : Nat} {T : TypeId} {w w' : World} {v : Value} {gs : List Grp} (h : GrpsOwn base T w v gs) (k : Up w w') : GrpsOwn base T w' v gs := by
  obtain ⟨svs, hl, ho, hr⟩ := h
  refine ⟨svs, hl, ⟨ho.1, ?_⟩, fun i hi => (hr i hi).keep (k.kept _)⟩
  rcases ho.2 with h1 | ⟨g, cap, cur, e, hg, hc, h2⟩
  · exact .inl h1
  · exact .inr ⟨g, cap, cur, e, hg, (Below.block k g (Array.getElem?_eq_some_iff.1 hc).1).trans hc, h2⟩
theorem GrpsOwn.lt {base : Nat} {T : TypeId} {w : World} {v : Value} {gs : List Grp} (h : GrpsOwn base T w v gs) {b : Nat} (hb : v.ownBlock = some b) : base ≤ b ∧ b < w.heap.size := by
  obtain ⟨svs, _, ho, _⟩ := h
  exact World.ownsRow.lt ho b hb
set_option maxHeartbeats 400000 in
theorem groups1_t (w : World) (x : Int) : FnIs 104 #[] #[.int .i64 x] (.bool (decide (x < -1) || decide (16 ≤ x))) w := by
  unfold FnIs
  go_enter Tryz.func104, Tryz.ntmps104
  by_cases hx : x < -1
  · go_wp2_with fail
    go_ret
    exact ⟨ret_bool (by simp [hx]), rfl⟩
  · go_wp2_with fail
    go_ret
    exact ⟨ret_bool (by simp; omega), rfl⟩
end Go.Proofs.YtgjcfkadioblfaaGreat
