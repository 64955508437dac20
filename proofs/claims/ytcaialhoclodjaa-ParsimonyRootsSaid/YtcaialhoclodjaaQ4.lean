/- A region that draws its order and only reads, within a round of a loop over a function. The contracts of parsimony.best, least. -/
import Derived.Test.YtcaialhoclodjaaQ3
import Derived.Test.YtcaialhoclodjaaQ1
namespace Go.Proofs.Ytcaialhoclodjaa
open Go.RowKit Go.Shelf Go.Deep
section
variable {F : Fence} {n : Nat} {P : Program} {ops : Array Oper} {C : World → Prop}
theorem op_quiet_r {o : Oper} {a : Act} {K : Act → Prop} {K' : Act → World → Prop} {Q' : Exit → Act → World → Prop} {w : World} (hs : ∀ ρ, Oper.semAt F.round ρ o = execOp ρ o) (hw : C w)
    (h : ∀ a w', C w' → K a → K' a w') (ha : o.askedIn F P a C) (hh : o.quietIn F n P a C K) : o.wpIn F n P a w K' Q' := by
  obtain ⟨v, hv, hk⟩ := hh
  have hv := hv w hw
  refine ⟨ha w hw, ?_⟩
  rw [hs]
  unfold Oper.quietAtIn at hv
  cases hr : (execOp a.eval o).run P w with
  | halt x w' => rw [hr] at hv; exact hv.elim
  | ok x w' =>
    rw [hr] at hv
    cases x with
    | value u => obtain ⟨rfl, rfl⟩ := hv; exact h _ _ hw hk
    | skip => obtain ⟨rfl, rfl⟩ := hv; exact h _ _ hw hk
    | enter f args => obtain ⟨rfl, hd, hc⟩ := hv; exact ⟨hd, hc.mono fun e w'' ⟨he, hw2⟩ => by subst he; exact h _ _ hw2 hk⟩
    | _ => exact hv.elim
theorem at_quiet_r {i : Nat} {a : Act} {K : Act → Prop} {K' : Act → World → Prop} {Q' : Exit → Act → World → Prop} {w : World} (hs : ∀ o : Oper, ops[i]? = some o → ∀ ρ, Oper.semAt F.round ρ o = execOp ρ o) (hC : C w)
    (h : ∀ a w', C w' → K a → K' a w') (hh : qOpIn F n P ops C i K a) : wpOpIn F n P ops Q' i K' a w := by
  cases ho : ops[i]? with
  | none => simp only [qOpIn, wpOpIn, ho] at hh ⊢; exact h _ _ hC hh
  | some o =>
    simp only [qOpIn, wpOpIn, ho] at hh ⊢
    by_cases hg : Region.wanted o (yielded ops a.tmps) = true
    · rw [if_pos hg] at hh ⊢; exact op_quiet_r (hs o ho) hC h hh.1 hh.2
    · rw [if_neg hg] at hh ⊢; exact ⟨hh.1 w hC, h _ _ hC hh.2⟩
theorem any_quiet_r {Q : Act → Prop} {Q' : Exit → Act → World → Prop} {md : Region.Mode} (hs : ∀ (i : Nat) (o : Oper), ops[i]? = some o → ∀ ρ, Oper.semAt F.round ρ o = execOp ρ o) (hQ : ∀ a w, C w → Q a → Q' .normal a w) (fuel : Nat) :
    ∀ (listed : Array Bool) (a : Act) (w : World), C w → wpAnyQIn F n P md ops C Q fuel listed a → wpAnyIn F n P md ops Q' fuel listed a w := by
  induction fuel with
  | zero => intro _ a w hw h; exact ⟨h.1, hQ a w hw h.2⟩
  | succ k ih => intro _ a w hw h; exact ⟨fun h0 => hQ a w hw (h.1 h0), fun i hi => at_quiet_r (hs i) hw (fun a' w' hw' => ih _ a' w' hw') (h.2 i hi)⟩
theorem region_quiet_r {id l₀ : Nat} {Q : Exit → Act → World → Prop} {a : Act} {w : World} {l : List Oper} (hro : F.round = some l₀) (hm : P.follows .mixedOrders = true) (hB : Region.lexB .any l.toArray = true)
    (hd : l.all (fun o => match o.op with | .defer _ => false | _ => true) = true)
    (h : wpQuietIn F n P l.toArray (fun w' => ∃ n, w' = w.drewN n) (fun a' => ∀ w', (∃ n, w' = w.drewN n) → Q .normal a' w') l a) : (Code.region id l.toArray true).wpIn F n P Q a w := by
  have hs : ∀ (i : Nat) o, l.toArray[i]? = some o → ∀ ρ, Oper.semAt F.round ρ o = execOp ρ o := fun i o ho ρ => by
    rw [hro]
    refine Oper.semAt_some l₀ ρ o fun c e => ?_
    have h1 := List.all_eq_true.1 hd o (List.mem_of_getElem? (by simpa using ho))
    rw [e] at h1; cases h1
  simp only [Region.lexB, Bool.and_eq_true] at hB
  refine wpIn_region_any hm (any_quiet_r (C := fun w' => ∃ n, w' = w.drewN n) (Q := fun a' => ∀ w', (∃ n, w' = w.drewN n) → Q .normal a' w') hs (fun _ w' hw' h => h w' hw') _ _ _ _ ⟨1, rfl⟩ ?_)
  have h2 := wpAnyQIn_lex (F := F) (n := n) (C := fun w' => ∃ n, w' = w.drewN n) (md := .any) hB.1 l.toArray.toList 0 (Array.replicate l.toArray.size false) a (by simp) (by simpa using hB.2) (by simpa using h)
  simpa using h2
end
end Go.Proofs.Ytcaialhoclodjaa
namespace Go.Proofs.Ytcaialhoclodjaa
open Go.RowKit Go.Deep
def pairOf (x : Int × Int) : Value := .tuple #[.int .i64 x.1, .int .i64 x.2]
set_option maxRecDepth 100000 in
set_option maxHeartbeats 800000 in
theorem best_t (S T : Nat → Prop) (w : World) (vc vr : Value) (cs : List (List Int)) (row : List Int) (st : Nat) (hC : RowsAt S w vc cs) (hR : IntsAt T w vr row) (hst : st < cs.length)
    (hrl : row.length ≤ (gl cs st).length) (hrn : row.length ≤ 1000) (hcb : ∀ k, 0 ≤ gi (gl cs st) k ∧ gi (gl cs st) k ≤ 1000) (hrb : ∀ k, gi row k ≤ 1000000000) :
    Calls Try.prog 65 #[vc, .int .i64 st, vr] w fun e w' => e = .returned (pairOf (bestK (gi (gl cs st)) (gi row) row.length)) ∧ w = w' := by
  obtain ⟨f, hsl, hrow⟩ := hC
  obtain ⟨p, cap, rfl, hcap, H⟩ := SlAt.open hsl
  obtain ⟨q, cap2, rfl, hcap2, HR⟩ := SlAt.open hR
  obtain ⟨b, off, rfl, hc0⟩ := H st hst
  obtain ⟨q2, cap3, e3, hcap3, HC⟩ := SlAt.open (hrow st hst)
  rw [e3] at hc0
  have hbd := bestK_bd (c := gi (gl cs st)) (row := gi row) (A := 1000000000) (by omega) hcb hrb
  have HHR := Lib.hid HR
  have HHC := Lib.hid HC
  have HBD := Lib.hid hbd
  have HCB := Lib.hid hcb
  have HRB := Lib.hid hrb
  have hsucc := bestK_succ (gi (gl cs st)) (gi row)
  have HSU := Lib.hid hsucc
  clear HR HC hsl hrow H hR e3 hbd hcb hrb hsucc
  generalize gl cs st = crow at *
  unfold pairOf
  go_enter Try.func65, Try.ntmps65
  go_wp2_with fail
  go_loop [8, 9, 10, 11, 12, 15] (fun l o _ _ _ i => ∃ k : Nat, ∃ x y : Int, k ≤ row.length ∧ i = .int .i64 k ∧ l = .int .i64 x ∧ o = .int .i64 y ∧ -1 ≤ x ∧ x ≤ 1000001000 ∧ Hid (bestK (gi crow) (gi row) k = (x, y))) (fun _ _ _ _ _ i => row.length - (intOf i).toNat)
  case atStart => exact ⟨0, -1, 0, by omega, rfl, rfl, rfl, by omega, by omega, rfl⟩
  case round =>
    obtain ⟨k, x, y, hk, rfl, rfl, rfl, hl1, hl2, hx⟩ := hrel
    by_cases hlt : k < row.length
    · obtain ⟨rb, ro, rfl, h1⟩ := HHR.out k hlt
      obtain ⟨cb, co, rfl, h2⟩ := HHC.out k (by omega)
      have hb1 := HCB.out k
      have hb2 := HRB.out k
      have hs := HSU.out k
      have HS := Lib.hid hs
      clear HHR HHC HBD HCB HRB HSU hs
      generalize gi crow k = c at *
      generalize gi row k = r at *
      obtain ⟨hb1, hb3⟩ := hb1
      by_cases hr0 : r < 0
      · go_wp2_with fail
        go_round
        case rel => exact ⟨k + 1, x, y, by omega, by go_num, rfl, rfl, hl1, hl2, by unfold Hid; rw [HS.out, if_pos hr0, hx.out]⟩
        case measure => simp [intOf]; omega
      · by_cases hx0 : x < 0
        · go_wp2_with fail
          go_round
          case rel => exact ⟨k + 1, c + r, k, by omega, by go_num, rfl, rfl, by omega, by omega, by unfold Hid; rw [HS.out, if_neg hr0, hx.out, if_pos (.inl hx0)]⟩
          case measure => simp [intOf]; omega
        · by_cases hlt2 : c + r < x
          · go_wp2_with fail
            go_round
            case rel => exact ⟨k + 1, c + r, k, by omega, by go_num, rfl, rfl, by omega, by omega, by unfold Hid; rw [HS.out, if_neg hr0, hx.out, if_pos (.inr hlt2)]⟩
            case measure => simp [intOf]; omega
          · go_wp2_with fail
            go_round
            case rel => exact ⟨k + 1, x, y, by omega, by go_num, rfl, rfl, hl1, hl2, by unfold Hid; rw [HS.out, if_neg hr0, hx.out, if_neg (by simp; omega)]⟩
            case measure => simp [intOf]; omega
    · obtain rfl : k = row.length := by omega
      clear hlt
      go_wp2_with fail
      go_ret2
      exact ⟨by rw [hx.out]; rfl, rfl⟩
set_option maxRecDepth 100000 in
set_option maxHeartbeats 800000 in
theorem least_t (T : Nat → Prop) (w : World) (vr : Value) (row : List Int) (hR : IntsAt T w vr row) (hrn : row.length ≤ 1000) :
    Calls Try.prog 46 #[vr] w fun e w' => e = .returned (pairOf (bestK (fun _ => 0) (gi row) row.length)) ∧ w = w' := by
  obtain ⟨q, cap2, rfl, hcap2, HR⟩ := SlAt.open hR
  have HHR := Lib.hid HR
  have hsucc := bestK_succ (fun _ => 0) (gi row)
  have HSU := Lib.hid hsucc
  clear HR hR hsucc
  unfold pairOf
  go_enter Try.func46, Try.ntmps46
  go_wp2_with fail
  go_loop [4, 5, 6, 7, 10] (fun l o _ _ i => ∃ k : Nat, ∃ x y : Int, k ≤ row.length ∧ i = .int .i64 k ∧ l = .int .i64 x ∧ o = .int .i64 y ∧ Hid (bestK (fun _ => 0) (gi row) k = (x, y))) (fun _ _ _ _ i => row.length - (intOf i).toNat)
  case atStart => exact ⟨0, -1, 0, by omega, rfl, rfl, rfl, rfl⟩
  case round =>
    obtain ⟨k, x, y, hk, rfl, rfl, rfl, hx⟩ := hrel
    by_cases hlt : k < row.length
    · obtain ⟨rb, ro, rfl, h1⟩ := HHR.out k hlt
      have hs := HSU.out k
      have HS := Lib.hid hs
      clear HHR HSU hs
      generalize gi row k = r at *
      by_cases hr0 : r < 0
      · go_wp2_with fail
        go_round
        case rel => exact ⟨k + 1, x, y, by omega, by go_num, rfl, rfl, by unfold Hid; rw [HS.out, if_pos hr0, hx.out]⟩
        case measure => simp [intOf]; omega
      · by_cases hx0 : x < 0
        · go_wp2_with fail
          go_round
          case rel => exact ⟨k + 1, r, k, by omega, by go_num, rfl, rfl, by unfold Hid; rw [HS.out, if_neg hr0, hx.out, if_pos (.inl hx0), Int.zero_add]⟩
          case measure => simp [intOf]; omega
        · by_cases hlt2 : r < x
          · go_wp2_with fail
            go_round
            case rel => exact ⟨k + 1, r, k, by omega, by go_num, rfl, rfl, by unfold Hid; rw [HS.out, if_neg hr0, hx.out, if_pos (.inr (by omega)), Int.zero_add]⟩
            case measure => simp [intOf]; omega
          · go_wp2_with fail
            go_round
            case rel => exact ⟨k + 1, x, y, by omega, by go_num, rfl, rfl, by unfold Hid; rw [HS.out, if_neg hr0, hx.out, if_neg (by simp; omega)]⟩
            case measure => simp [intOf]; omega
    · obtain rfl : k = row.length := by omega
      clear hlt
      go_wp2_with fail
      go_ret2
      exact ⟨by rw [hx.out]; rfl, rfl⟩
end Go.Proofs.Ytcaialhoclodjaa
