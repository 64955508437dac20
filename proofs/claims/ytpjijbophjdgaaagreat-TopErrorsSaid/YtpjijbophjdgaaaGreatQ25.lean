/- Contracts: IndexFunc, ContainsFunc over groups; far. The contract of the reference's Unit. -/
import Derived.Test.YtpjijbophjdgaaaGreatQ23
import Derived.Test.YtpjijbophjdgaaaGreatQ10
import Derived.Test.YtpjijbophjdgaaaGreatQ3
namespace Go.Proofs.YtpjijbophjdgaaaGreat
open Go.RowKit Go.Shelf Go.Deep
def gAgg (g : Grp) (sv : Value) : Value := .agg #[.int .i64 g.un, .int .i64 g.st, sv]
set_option maxRecDepth 100000 in
set_option maxHeartbeats 400000 in
theorem eg_ix_t (g : Nat) (lb : Array Value) (eg : ∀ args w, (callFunc g args).run Tryz.prog w = .ok (.enter g args) w) (S : Nat → Prop) (w : World) (v : Value) (l : List Grp) (p : Nat → Bool)
    (h : GrpsAt S w v l) (hn : l.length ≤ 1000000) (hp : ∀ k w' sv, k < l.length → Up w w' → IntsAt S w' sv (gg l k).src → Calls Tryz.prog g (#[gAgg (gg l k) sv] ++ lb) w' fun e w'' => e = .returned (.bool (p k)) ∧ Up w' w'') :
    Calls Tryz.prog 191 #[v, .func (.func g) #[] lb] w fun e w' => e = .returned (.int .i64 (firstIx p l.length)) ∧ Up w w' := by
  obtain ⟨q, cap, rfl, hcap⟩ := grps_open h
  have HP := Lib.hid hp
  have HX := Lib.hid h
  clear h hp
  go_enter Tryz.func191, Tryz.ntmps191
  go_wp2_with fail
  go_loopw [5, 8] (fun _ i wr => ∃ k : Nat, k ≤ l.length ∧ i = .int .i64 k ∧ Hid (Up w wr) ∧ Hid (∀ j, j < k → p j = false)) (fun _ i _ => l.length - (intOf i).toNat)
  case atStart => exact ⟨0, Nat.zero_le _, rfl, Up.refl _, fun j hj => absurd hj (Nat.not_lt_zero _)⟩
  case round =>
    obtain ⟨k, hk, rfl, hU, hd⟩ := hrel
    obtain ⟨wo, rfl⟩ : ∃ wo : World, wo = wr := ⟨_, rfl⟩
    by_cases hlt : k < l.length
    · obtain ⟨b, off, rq, rc, rfl, hc0, hc1, hc2, hri⟩ := grps_get (HX.out.keep (hU.out.kept S)) hlt
      have i1 : (0 : Int) ≤ (k : Int) := by omega
      have i2 : (k : Int) < (l.length : Int) := by omega
      have HPK := Lib.hid (HP.out k wo _ hlt hU.out hri)
      unfold gAgg at HPK
      clear hri
      generalize (gg l k).un = un at *
      generalize (gg l k).st = sx at *
      generalize (gg l k).src = src at *
      cases hv : p k
      · rw [hv] at HPK
        have HV := Lib.hid hv
        clear hv
        go_wp2_with fail
        refine HPK.out.mono ?_
        rintro e w' ⟨rfl, hU2⟩
        have HU2 := Lib.hid (hU.out.trans hU2)
        clear hU2
        go_wp2_with fail
        go_roundw
        case rel => exact ⟨k + 1, by omega, by go_num, HU2, fun j hj => if e : j = k then by subst e; exact HV.out else hd.out j (by omega)⟩
        case measure => simp [intOf]; omega
      · rw [hv] at HPK
        have HV := Lib.hid hv
        clear hv
        go_wp2_with fail
        refine HPK.out.mono ?_
        rintro e w' ⟨rfl, hU2⟩
        have HU2 := Lib.hid (hU.out.trans hU2)
        clear hU2
        go_wp2_with fail
        go_ret
        exact ⟨ret_int (firstIx_at hlt hd.out HV.out).symm, HU2.out⟩
    · go_wp2_with fail
      go_ret
      exact ⟨ret_int (firstIx_none fun j hj => hd.out j (by omega)).symm, hU.out⟩
set_option maxRecDepth 100000 in
set_option maxHeartbeats 400000 in
theorem eg_has_t (g : Nat) (lb : Array Value) (eg : ∀ args w, (callFunc g args).run Tryz.prog w = .ok (.enter g args) w) (S : Nat → Prop) (w : World) (v : Value) (l : List Grp) (p : Nat → Bool)
    (h : GrpsAt S w v l) (hn : l.length ≤ 1000000) (hp : ∀ k w' sv, k < l.length → Up w w' → IntsAt S w' sv (gg l k).src → Calls Tryz.prog g (#[gAgg (gg l k) sv] ++ lb) w' fun e w'' => e = .returned (.bool (p k)) ∧ Up w' w'') :
    Calls Tryz.prog 146 #[v, .func (.func g) #[] lb] w fun e w' => e = .returned (.bool ((List.range l.length).any p)) ∧ Up w w' := by
  have hx := firstIx_any p l.length
  have HX := Lib.hid hx
  have HI := Lib.hid (eg_ix_t g lb eg S w v l p h hn hp)
  clear hx hp h eg
  go_enter Tryz.func146, Tryz.ntmps146
  go_wp2_with fail
  refine HI.out.mono ?_
  rintro e w' ⟨rfl, hU⟩
  go_wp2_with fail
  go_ret
  exact ⟨ret_bool (by rw [← HX.out]), hU⟩
def farB (l : List Grp) (n : Nat) : Bool := (List.range l.length).any fun k => decide ((n : Int) ≤ mxL (gg l k).src)
set_option maxRecDepth 100000 in
set_option maxHeartbeats 400000 in
theorem far1_t (S : Nat → Prop) (w : World) (g : Grp) (sv : Value) (pb n : Nat) (hc : w.cell? ⟨pb, 0, none⟩ = some (.int .i64 n)) (hi : IntsAt S w sv g.src) (h0 : 0 < g.src.length) (hn : g.src.length ≤ 1000000) :
    Calls Tryz.prog 147 (#[gAgg g sv] ++ #[.pointer (some ⟨pb, 0, none⟩)]) w fun e w' => e = .returned (.bool (decide ((n : Int) ≤ mxL g.src))) ∧ Up w w' := by
  show Calls Tryz.prog 147 #[.agg #[.int .i64 g.un, .int .i64 g.st, sv], .pointer (some ⟨pb, 0, none⟩)] w _
  obtain ⟨q, cap, rfl, hcap, _⟩ := SlAt.open hi
  have hal := Up.alloc w (.cells #[.int .i64 g.un, .int .i64 g.st, .slice q g.src.length cap] 37)
  obtain ⟨_, _, hb2⟩ := box3 w (.int .i64 g.un) (.int .i64 g.st) (.slice q g.src.length cap) 37
  have hb3 := hal.cell hc
  have HM := Lib.hid (fun m => same_quiet <| max_int_t S ((w.alloc (.cells #[.int .i64 g.un, .int .i64 g.st, .slice q g.src.length cap] 37)).drewN m) _ _ (IntsAt.keep hi ((hal.trans (Up.drewN _ _)).kept S)) h0 hn)
  have HU := Lib.hid hal
  clear hal hi hc
  go_enter Tryz.func147, Tryz.ntmps147
  go_wp2_with fail
  go_quiet (with_reducible exact HM.out _)
  go_wp2_with fail
  go_ret
  exact ⟨ret_bool rfl, HU.out.trans (Up.drewN _ _)⟩
set_option maxRecDepth 100000 in
set_option maxHeartbeats 400000 in
theorem far_t (S : Nat → Prop) (w : World) (v : Value) (l : List Grp) (n : Nat) (h : GrpsAt S w v l) (hn : l.length ≤ 1000000) (h0 : ∀ k, k < l.length → 0 < (gg l k).src.length) (hr : ∀ k, (gg l k).src.length ≤ 1000000) :
    Calls Tryz.prog 75 #[v, .int .i64 n] w fun e w' => e = .returned (.bool (farB l n)) ∧ Up w w' := by
  have hal := Up.alloc w (.cells #[.int .i64 n] 3)
  have hb := box1_0 w (.int .i64 n) 3
  have HI := Lib.hid (eg_has_t 147 #[.pointer (some ⟨w.heap.size, 0, none⟩)] (enters_of Tryz.func147 (by kernel_rfl) rfl) S (w.alloc (.cells #[.int .i64 n] 3)) v l (fun k => decide ((n : Int) ≤ mxL (gg l k).src)) (h.keep (hal.kept S)) hn
    (fun k w' sv hk hU hi => far1_t S w' (gg l k) sv w.heap.size n (hU.cell hb) hi (h0 k hk) (hr k)))
  have HU := Lib.hid hal
  have HF : Hid (farB l n = (List.range l.length).any fun k => decide ((n : Int) ≤ mxL (gg l k).src)) := rfl
  clear hal hb h h0 hr
  go_enter Tryz.func75, Tryz.ntmps75
  go_wp2_with fail
  refine HI.out.mono ?_
  rintro e w' ⟨rfl, hU⟩
  go_wp2_with fail
  go_ret
  exact ⟨ret_bool HF.out.symm, HU.out.trans hU⟩
end Go.Proofs.YtpjijbophjdgaaaGreat
namespace Go.Proofs.YtpjijbophjdgaaaGreat
open Go.RowKit Go.Deep
end Go.Proofs.YtpjijbophjdgaaaGreat
