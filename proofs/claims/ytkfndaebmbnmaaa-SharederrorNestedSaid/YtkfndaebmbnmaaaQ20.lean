/- Contracts: Support, Original, Significant of sharederror. The plain law of SharederrorSupport: the supports of the different sets. The walk of SharederrorSupport. -/
import Derived.Test.YtkfndaebmbnmaaaQ19
import Derived.Test.YtkfndaebmbnmaaaQ4
namespace Go.Proofs.Ytkfndaebmbnmaaa
open Go.RowKit Go.Deep
/-- How many of the first k groups have just these sources. -/
def supK (l : List Grp) (own : List Int) : Nat → Nat
  | 0 => 0
  | k + 1 => supK l own k + if (gg l k).src = own then 1 else 0
theorem supK_le (l : List Grp) (own : List Int) : ∀ k, supK l own k ≤ k
  | 0 => Nat.le_refl _
  | k + 1 => by have := supK_le l own k; unfold supK; split <;> omega
def supErr (l : List Grp) (own : List Int) : Int := if gcErr l ≠ 0 then gcErr l else if srcOk own = false then 1 else 0
def supN (l : List Grp) (own : List Int) : Int := if supErr l own = 0 then (supK l own l.length : Int) else 0
set_option maxRecDepth 100000 in
set_option maxHeartbeats 1000000 in
theorem support_t (S T : Nat → Prop) (w : World) (v vo : Value) (l : List Grp) (own : List Int) (h : GrpsAt S w v l) (ho : IntsAt T w vo own) (hn : l.length ≤ 1000000) (hr : ∀ k, (gg l k).src.length ≤ 1000000) (hon : own.length ≤ 1000000) :
    Calls Try.prog 22 #[v, vo] w fun e w' => Up w w' ∧ e = .returned (.tuple #[.int .i64 (supN l own), .int .i64 (supErr l own)]) := by
  have HGC := Lib.hid (gcheck_t S w v l h hn hr)
  obtain ⟨p, cap, rfl, hcap⟩ := grps_open h
  obtain ⟨po, co, rfl, hco, _⟩ := SlAt.open ho
  have ho : IntsAt T w (.slice po own.length co) own := ho
  have HX := Lib.hid h
  have HO := Lib.hid ho
  have HR := Lib.hid hr
  have HE : Hid (supErr l own = if gcErr l ≠ 0 then gcErr l else if srcOk own = false then 1 else 0) := rfl
  have HN : Hid (supN l own = if supErr l own = 0 then (supK l own l.length : Int) else 0) := rfl
  clear h ho hr
  by_cases g0 : gcErr l = 0
  · rw [g0] at HGC
    cases hs : srcOk own
    · have HE1 : Hid (supErr l own = 1) := by unfold Hid; rw [HE.out, if_neg (fun e => e g0), if_pos hs]
      have HN1 : Hid (supN l own = 0) := by unfold Hid; rw [HN.out, HE1.out]; rfl
      have HSS : Hid (∀ W, Up w W → Calls Try.prog 53 #[.slice po own.length co] W fun e w' => e = .returned (.bool false) ∧ W = w') := fun W hu => by
        have := sources_t T W _ own (IntsAt.keep HO.out (hu.kept T)) hon
        rw [hs] at this; exact this
      clear g0 hs
      go_enter Try.func22, Try.ntmps22
      go_wp2_with fail
      refine HGC.out.mono ?_
      rintro e w1 ⟨rfl, hu1⟩
      have HS1 := Lib.hid (HSS.out w1 hu1)
      have HU1 := Lib.hid hu1
      clear hu1
      go_wp2_with fail
      refine HS1.out.mono ?_
      rintro e w' ⟨rfl, rfl⟩
      go_wp2_with fail
      go_ret2
      exact ⟨HU1.out, by rw [HE1.out, HN1.out]; rfl⟩
    · have HE1 : Hid (supErr l own = 0) := by unfold Hid; rw [HE.out, if_neg (fun e => e g0), if_neg (by rw [hs]; decide)]
      have HN1 : Hid (supN l own = (supK l own l.length : Int)) := by unfold Hid; rw [HN.out, if_pos HE1.out]
      have HSS : Hid (∀ W, Up w W → Calls Try.prog 53 #[.slice po own.length co] W fun e w' => e = .returned (.bool true) ∧ W = w') := fun W hu => by
        have := sources_t T W _ own (IntsAt.keep HO.out (hu.kept T)) hon
        rw [hs] at this; exact this
      clear g0 hs
      go_enter Try.func22, Try.ntmps22
      go_wp2_with fail
      refine HGC.out.mono ?_
      rintro e w1 ⟨rfl, hu1⟩
      have HS1 := Lib.hid (HSS.out w1 hu1)
      have HU1 := Lib.hid hu1
      clear hu1
      go_wp2_with fail
      refine HS1.out.mono ?_
      rintro e w' ⟨rfl, rfl⟩
      go_wp2_with fail
      go_loopw [7, 9, 20] (fun n _ i wr => ∃ k : Nat, k ≤ l.length ∧ i = .int .i64 k ∧ n = .int .i64 (supK l own k) ∧ Hid (Up w1 wr)) (fun _ _ i _ => l.length - (intOf i).toNat)
      case atStart => exact ⟨0, Nat.zero_le _, rfl, rfl, Up.refl _⟩
      case round =>
        obtain ⟨k, hk, rfl, rfl, hU⟩ := hrel
        obtain ⟨wo, rfl⟩ : ∃ wo : World, wo = wr := ⟨_, rfl⟩
        by_cases hlt : k < l.length
        · obtain ⟨b, off, rq, rc, rfl, hc0, hc1, hc2, hri⟩ := grps_get (HX.out.keep ((HU1.out.trans hU.out).kept S)) hlt
          have i1 : (0 : Int) ≤ (k : Int) := by omega
          have i2 : (k : Int) < (l.length : Int) := by omega
          have hal := Up.alloc wo (.cells #[.int .i64 (gg l k).un, .int .i64 (gg l k).st, .slice rq (gg l k).src.length rc] 32)
          obtain ⟨hb0, hb1, hb2⟩ := box3 wo (.int .i64 (gg l k).un) (.int .i64 (gg l k).st) (.slice rq (gg l k).src.length rc) 32
          have HEQ := Lib.hid (equal_int_t S T _ _ _ (gg l k).src own (IntsAt.keep hri (hal.kept S)) (IntsAt.keep HO.out (((HU1.out.trans hU.out).trans hal).kept T)) (HR.out k) hon)
          have HST : Hid (supK l own (k + 1) = supK l own k + if (gg l k).src = own then 1 else 0) := rfl
          have HUA := Lib.hid (hU.out.trans hal)
          have hle := supK_le l own k
          clear hri hal
          generalize (gg l k).un = un at *
          generalize (gg l k).st = sx at *
          generalize (gg l k).src = src at *
          by_cases e : src = own
          · rw [decide_eq_true e] at HEQ
            rw [if_pos e] at HST
            clear e
            go_wp2_with fail
            refine HEQ.out.mono ?_
            rintro e w8 ⟨rfl, n8, rfl⟩
            go_wp2_with fail
            go_roundw
            case rel => exact ⟨k + 1, by omega, by go_num, by rw [HST.out]; go_num, HUA.out.trans (Up.drewN _ _)⟩
            case measure => simp [intOf]; omega
          · rw [decide_eq_false e] at HEQ
            rw [if_neg e] at HST
            clear e
            go_wp2_with fail
            refine HEQ.out.mono ?_
            rintro e w8 ⟨rfl, n8, rfl⟩
            go_wp2_with fail
            go_roundw
            case rel => exact ⟨k + 1, by omega, by go_num, by rw [HST.out, Nat.add_zero], HUA.out.trans (Up.drewN _ _)⟩
            case measure => simp [intOf]; omega
        · obtain rfl : k = l.length := by omega
          clear hlt hk
          go_wp2_with fail
          go_ret2
          exact ⟨HU1.out.trans hU.out, by rw [HE1.out, HN1.out]; rfl⟩
  · have HE1 : Hid (supErr l own = gcErr l) := by unfold Hid; rw [HE.out, if_pos g0]
    have HN1 : Hid (supN l own = 0) := by unfold Hid; rw [HN.out, if_neg (by rw [HE1.out]; exact g0)]
    have g1 : (gcErr l != 0) = true := by simpa using g0
    clear g0
    go_enter Try.func22, Try.ntmps22
    go_wp2_with fail
    refine HGC.out.mono ?_
    rintro e w1 ⟨rfl, hu1⟩
    go_wp2_with fail
    go_ret2
    exact ⟨hu1, by rw [HE1.out, HN1.out]; rfl⟩
def orErr (xs : List (List Int)) (s : Int) : Int := if agErr xs ≠ 0 then agErr xs else if s < 0 ∨ (xs.length : Int) ≤ s then 2 else 0
def orN (xs : List (List Int)) (s : Int) : List Int := if orErr xs s = 0 then gl xs s.toNat else []
def OrPost (w : World) (xs : List (List Int)) (s : Int) (e : Ending) (w' : World) : Prop :=
  Up w w' ∧ ∃ v, e = .returned (.tuple #[v, .int .i64 (orErr xs s)]) ∧ IntsAt Any w' v (orN xs s)
theorem nil_ints_at (S : Nat → Prop) (W : World) : IntsAt S W (.slice none 0 0) [] := ⟨none, 0, rfl, Nat.le_refl _, .inl rfl⟩
set_option maxRecDepth 100000 in
set_option maxHeartbeats 1000000 in
theorem original_t (S : Nat → Prop) (w : World) (v : Value) (xs : List (List Int)) (s : Int) (h : RowsAt S w v xs) (hn : xs.length ≤ 1000000) (hr : ∀ k, (gl xs k).length ≤ 1000000) :
    Calls Try.prog 26 #[v, .int .i64 s] w (OrPost w xs s) := by
  have HAC := Lib.hid (agcheck_t S w v xs h hn hr)
  obtain ⟨p, cap, rfl, hcap, _⟩ := rows_open h
  have HE : Hid (orErr xs s = if agErr xs ≠ 0 then agErr xs else if s < 0 ∨ (xs.length : Int) ≤ s then 2 else 0) := rfl
  have HN : Hid (orN xs s = if orErr xs s = 0 then gl xs s.toNat else []) := rfl
  by_cases a0 : agErr xs = 0
  · rw [a0] at HAC
    by_cases h1 : s < 0
    · have d1 : decide (s < 0) = true := by simpa using h1
      have HE1 : Hid (orErr xs s = 2) := by unfold Hid; rw [HE.out, if_neg (fun e => e a0), if_pos (.inl h1)]
      have HN1 : Hid (orN xs s = []) := by unfold Hid; rw [HN.out, if_neg (by rw [HE1.out]; decide)]
      clear h1 a0 h
      go_enter Try.func26, Try.ntmps26
      go_wp2_with fail
      refine HAC.out.mono ?_
      rintro e w1 ⟨rfl, rfl⟩
      go_wp2_with fail
      go_ret2
      exact ⟨Up.refl _, _, by rw [HE1.out]; rfl, by rw [HN1.out]; exact nil_ints_at _ _⟩
    · have d1 : decide (s < 0) = false := by simpa using h1
      by_cases h2 : (xs.length : Int) ≤ s
      · have d2 : decide ((xs.length : Int) ≤ s) = true := by simpa using h2
        have HE1 : Hid (orErr xs s = 2) := by unfold Hid; rw [HE.out, if_neg (fun e => e a0), if_pos (.inr h2)]
        have HN1 : Hid (orN xs s = []) := by unfold Hid; rw [HN.out, if_neg (by rw [HE1.out]; decide)]
        clear h1 h2 a0 h
        go_enter Try.func26, Try.ntmps26
        go_wp2_with fail
        refine HAC.out.mono ?_
        rintro e w1 ⟨rfl, rfl⟩
        go_wp2_with fail
        go_ret2
        exact ⟨Up.refl _, _, by rw [HE1.out]; rfl, by rw [HN1.out]; exact nil_ints_at _ _⟩
      · have d2 : decide ((xs.length : Int) ≤ s) = false := by simpa using h2
        have HE1 : Hid (orErr xs s = 0) := by unfold Hid; rw [HE.out, if_neg (fun e => e a0), if_neg (by omega)]
        have HN1 : Hid (orN xs s = gl xs s.toNat) := by unfold Hid; rw [HN.out, if_pos HE1.out]
        obtain ⟨k, rfl⟩ := Int.eq_ofNat_of_zero_le (by omega : 0 ≤ s)
        rw [Int.toNat_natCast] at HN1
        have hk : k < xs.length := by omega
        have j1 : (0 : Int) ≤ (k : Int) := by omega
        have j2 : (k : Int) < (xs.length : Int) := by omega
        obtain ⟨b, off, q, c, rfl, hc, hi⟩ := rows_get h hk
        have HCL := Lib.hid (clone_int_t S w _ (gl xs k) hi (hr k))
        clear h1 h2 a0 h hr hi
        go_enter Try.func26, Try.ntmps26
        go_wp2_with (first | (go_at_call 11; refine HAC.out.mono ?_; rintro e w1 ⟨rfl, rfl⟩) | fail)
        refine HCL.out.mono ?_
        rintro e w1 ⟨hu, cv, rfl, ho⟩
        go_wp2_with fail
        go_ret2
        exact ⟨hu, _, by rw [HE1.out]; rfl, by rw [HN1.out]; exact ho.ints.sub fun _ _ _ => trivial⟩
  · have HE1 : Hid (orErr xs s = agErr xs) := by unfold Hid; rw [HE.out, if_pos a0]
    have HN1 : Hid (orN xs s = []) := by unfold Hid; rw [HN.out, if_neg (by rw [HE1.out]; exact a0)]
    have g1 : (agErr xs != 0) = true := by simpa using a0
    clear a0 h
    go_enter Try.func26, Try.ntmps26
    go_wp2_with fail
    refine HAC.out.mono ?_
    rintro e w1 ⟨rfl, rfl⟩
    go_wp2_with fail
    go_ret2
    exact ⟨Up.refl _, _, by rw [HE1.out]; rfl, by rw [HN1.out]; exact nil_ints_at _ _⟩
section
variable {P : Program} {ops : Array Oper} {rest : List Oper} {o : Oper} {a : Act} {Q : Exit → Act → World → Prop}
/-- 'out = append(out, g)', g a group. -/
theorem wpList_appGrpM (W : World) (hgd : o.guard = none) (s x : Operand) (t : TypeId) (ho : o.op = .call { callee := .builtin .append, args := #[s, x], argTypes := #[t, t] })
    (base : Nat) (e : TypeId) (z : Value) (bytes : Nat) (ht : P.underlying t = some (.slice e)) (hinfo : (P.info? e).map (fun i => (i.zero, i.size, i.bytes)) = some (some z, 3, bytes))
    (hz1 : z.cells.size = 3) (hb8 : bytes ≤ 64) {v : Value} {gs : List Grp} (hown : GrpsOwn base e W v gs) (hs : a.eval s = v) (G : Grp) (u : Value) (m : Nat) (hm : W.heap.size = m)
    (hx : a.eval x = .slice (some ⟨m, 0, none⟩) 1 1) (hu : IntsAt (fun b => some b ≠ v.ownBlock) W u G.src) (h1 : u.oneCell' = true) (n : Nat) (hxn : gs.length = n) (hn : n ≤ 1000000) (hbase : base ≤ W.heap.size)
    (h : ∀ g cap w', GrpsOwn base e w' (.slice (some ⟨g, 0, none⟩) (n + 1) cap) (gs ++ [G]) → W.grownBy w' v.ownBlock → Below base W w' → wpList P ops Q rest (a.put o.dst (.slice (some ⟨g, 0, none⟩) (n + 1) cap)) w') :
    wpList P ops Q (o :: rest) a (W.alloc (.cells #[.int .i64 G.un, .int .i64 G.st, u] e)) := by
  subst hm
  exact wpList_appGrp W hgd s x t ho base e z bytes ht hinfo hz1 hb8 hown hs G u hx hu h1 n hxn hn hbase h
end
/-- The groups of several sources, of the first k. -/
def sigK (l : List Grp) : Nat → List Grp
  | 0 => []
  | k + 1 => if 1 < (gg l k).src.length then sigK l k ++ [gg l k] else sigK l k
theorem sigK_len (l : List Grp) : ∀ k, (sigK l k).length ≤ k
  | 0 => Nat.le_refl _
  | k + 1 => by
    have := sigK_len l k
    unfold sigK
    split
    · rw [List.length_append]; simp; omega
    · omega
def SgPost (w : World) (l : List Grp) (e : Ending) (w' : World) : Prop := Up w w' ∧ ∃ v, e = .returned v ∧ GrpsAt Any w' v l
set_option maxRecDepth 100000 in
set_option maxHeartbeats 1000000 in
theorem significant_t (S : Nat → Prop) (w : World) (v : Value) (l : List Grp) (h : GrpsAt S w v l) (hn : l.length ≤ 1000000) :
    Calls Try.prog 27 #[v] w (SgPost w (sigK l l.length)) := by
  obtain ⟨p, cap, rfl, hcap⟩ := grps_open h
  have HX : Hid (GrpsAt (fun b => b < w.heap.size) w (.slice p l.length cap) l) := h.sub fun b _ hb => hb
  clear h
  go_enter Try.func27, Try.ntmps27
  go_wp2_with fail
  go_loopw [3, 5, 8] (fun d _ i wr => ∃ k : Nat, k ≤ l.length ∧ i = .int .i64 k ∧ Hid (GrpsOwn w.heap.size 32 wr d (sigK l k)) ∧ Hid (Up w wr)) (fun _ _ i _ => l.length - (intOf i).toNat)
  case atStart => exact ⟨0, Nat.zero_le _, rfl, GrpsOwn.nil _ _ _, Up.refl _⟩
  case round =>
    obtain ⟨k, hk, rfl, hD, hU⟩ := hrel
    obtain ⟨wo, rfl⟩ : ∃ wo : World, wo = wr := ⟨_, rfl⟩
    obtain ⟨d, rfl⟩ : ∃ d : Value, d = u3 := ⟨_, rfl⟩
    by_cases hlt : k < l.length
    · obtain ⟨b, off, rq, rc, rfl, hc0, hc1, hc2, hri⟩ := grps_get (HX.out.keep (hU.out.kept _)) hlt
      have i1 : (0 : Int) ≤ (k : Int) := by omega
      have i2 : (k : Int) < (l.length : Int) := by omega
      have hal := Up.alloc wo (.cells #[.int .i64 (gg l k).un, .int .i64 (gg l k).st, .slice rq (gg l k).src.length rc] 32)
      obtain ⟨hb0, hb1, hb2⟩ := box3 wo (.int .i64 (gg l k).un) (.int .i64 (gg l k).st) (.slice rq (gg l k).src.length rc) 32
      have HUA := Lib.hid (hU.out.trans hal)
      have HDA := Lib.hid (hD.out.kept hal)
      have HIN : Hid (IntsAt (fun b => some b ≠ d.ownBlock) (wo.alloc (.cells #[.int .i64 (gg l k).un, .int .i64 (gg l k).st, .slice rq (gg l k).src.length rc] 32)) (.slice rq (gg l k).src.length rc) (gg l k).src) :=
        (IntsAt.sub hri fun b hb _ e => by have := (hD.out.lt e.symm).1; omega).keep (hal.kept _)
      have HST : Hid (sigK l (k + 1) = if 1 < (gg l k).src.length then sigK l k ++ [gg l k] else sigK l k) := rfl
      have hle : (sigK l k).length ≤ 1000000 := by have := sigK_len l k; omega
      have hsz : (wo.alloc (.cells #[.int .i64 (gg l k).un, .int .i64 (gg l k).st, .slice rq (gg l k).src.length rc] 32)).heap.size = wo.heap.size + 1 := World.size_alloc _ _
      have hwz : w.heap.size ≤ (wo.alloc (.cells #[.int .i64 (gg l k).un, .int .i64 (gg l k).st, .slice rq (gg l k).src.length rc] 32)).heap.size := HUA.out.size
      clear hri hal
      have hG : gg l k = ⟨(gg l k).un, (gg l k).st, (gg l k).src⟩ := rfl
      have HGE := Lib.hid hG
      by_cases e1 : 1 < (gg l k).src.length
      · have d1 : decide ((1 : Int) < ((gg l k).src.length : Int)) = true := by simp; omega
        have d2 : decide (1 < (gg l k).src.length) = true := by simp; omega
        have HSN : Hid (sigK l (k + 1) = sigK l k ++ [gg l k]) := by unfold Hid; rw [HST.out, if_pos e1]
        clear e1 hG
        go_wp2_with (at_builtin; refine wpList_appGrpM (wo.alloc (.cells #[.int .i64 (gg l k).un, .int .i64 (gg l k).st, .slice rq (gg l k).src.length rc] 32)) rfl _ _ 28 rfl w.heap.size 32 _ 40 Try.underlying28 Try.infoEG rfl (by decide) HDA.out rfl (gg l k) (.slice rq (gg l k).src.length rc) _ hsz rfl HIN.out rfl _ rfl hle hwz ?_; intro g8 cap8 w8 hown1 hgr1 hbe1)
        go_roundw
        case rel => exact ⟨k + 1, by omega, by go_num, by unfold Hid; rw [HSN.out]; exact hown1, Below.trans HUA.out hbe1⟩
        case measure => simp [intOf]; omega
      · have d1 : decide ((1 : Int) < ((gg l k).src.length : Int)) = false := by simp; omega
        have d2 : decide (1 < (gg l k).src.length) = false := by simp; omega
        have HSN : Hid (sigK l (k + 1) = sigK l k) := by unfold Hid; rw [HST.out, if_neg e1]
        clear e1 hG
        go_wp2_with fail
        go_roundw
        case rel => exact ⟨k + 1, by omega, by go_num, by unfold Hid; rw [HSN.out]; exact HDA.out, HUA.out⟩
        case measure => simp [intOf]; omega
    · obtain rfl : k = l.length := by omega
      clear hlt hk
      go_wp2_with fail
      go_ret
      exact ⟨hU.out, _, rfl, hD.out.grps⟩
end Go.Proofs.Ytkfndaebmbnmaaa
namespace Go.Proofs.Ytkfndaebmbnmaaa
open Go.RowKit Go.Deep
/-- The sources of group k did not come before. -/
def newB (l : List Grp) (k : Nat) : Nat → Bool
  | 0 => true
  | j + 1 => newB l k j && !decide ((gg l j).src = (gg l k).src)
theorem newB_iff (l : List Grp) (k : Nat) : ∀ j, newB l k j = true ↔ ∀ i, i < j → (gg l i).src ≠ (gg l k).src
  | 0 => by simp [newB]
  | j + 1 => by
    rw [show newB l k (j + 1) = (newB l k j && !decide ((gg l j).src = (gg l k).src)) from rfl, Bool.and_eq_true, newB_iff l k j, Bool.not_eq_true', decide_eq_false_iff_not]
    constructor
    · rintro ⟨h1, h2⟩ i hi
      by_cases e : i = j
      · subst e; exact h2
      · exact h1 i (by omega)
    · intro h; exact ⟨fun i hi => h i (by omega), h j (by omega)⟩
/-- The sum of the supports of the sets that are new, of the first k groups. -/
def sumS (l : List Grp) : Nat → Nat
  | 0 => 0
  | k + 1 => if newB l k k then sumS l k + supK l (gg l k).src l.length else sumS l k
/-- How many of the n groups have a set that is among the first k. -/
def covK (l : List Grp) (k : Nat) : Nat → Nat
  | 0 => 0
  | n + 1 => covK l k n + if (List.range k).any (fun i => decide ((gg l i).src = (gg l n).src)) then 1 else 0
theorem covK_succ (l : List Grp) (k : Nat) : ∀ n, covK l (k + 1) n = covK l k n + if newB l k k then supK l (gg l k).src n else 0
  | 0 => by simp [covK, supK]
  | n + 1 => by
    have ih := covK_succ l k n
    have e : ((List.range (k + 1)).any fun i => decide ((gg l i).src = (gg l n).src)) = (((List.range k).any fun i => decide ((gg l i).src = (gg l n).src)) || decide ((gg l k).src = (gg l n).src)) := any_succ _ _
    show covK l (k + 1) n + _ = covK l k n + _ + _
    rw [ih, e]
    have hs : supK l (gg l k).src (n + 1) = supK l (gg l k).src n + if (gg l n).src = (gg l k).src then 1 else 0 := rfl
    rw [hs]
    cases hn : newB l k k
    · have : ∃ i, i < k ∧ (gg l i).src = (gg l k).src := by
        refine Classical.byContradiction fun hc => ?_
        have h2 : newB l k k = true := (newB_iff l k k).2 fun i hi he => hc ⟨i, hi, he⟩
        rw [hn] at h2; cases h2
      obtain ⟨i, hi, he⟩ := this
      by_cases h1 : (gg l k).src = (gg l n).src
      · have h2 : ((List.range k).any fun i => decide ((gg l i).src = (gg l n).src)) = true := any_at (p := fun i => decide ((gg l i).src = (gg l n).src)) hi (by simp [he, h1])
        rw [h2]; simp
      · rw [decide_eq_false h1]; simp
    · have hnew := (newB_iff l k k).1 hn
      by_cases h1 : (gg l n).src = (gg l k).src
      · have h2 : ((List.range k).any fun i => decide ((gg l i).src = (gg l n).src)) = false := any_none fun j hj => by
          rw [decide_eq_false_iff_not]; intro e2; exact hnew j hj (e2.trans h1)
        rw [h2, h1, decide_eq_true rfl]; simp; omega
      · have h3 : ¬ (gg l k).src = (gg l n).src := fun e => h1 e.symm
        rw [decide_eq_false h3, if_neg h1]; simp; omega
theorem sumS_cov (l : List Grp) : ∀ k, sumS l k = covK l k l.length
  | 0 => by
    have : ∀ n, covK l 0 n = 0 := fun n => by
      induction n with
      | zero => rfl
      | succ n ih => show covK l 0 n + _ = 0; rw [ih]; simp
    rw [this]; rfl
  | k + 1 => by
    rw [covK_succ l k, ← sumS_cov l k]
    show (if newB l k k then _ else _) = _
    cases newB l k k <;> simp
theorem cov_all (l : List Grp) : ∀ n, n ≤ l.length → covK l l.length n = n
  | 0, _ => rfl
  | n + 1, h => by
    show covK l l.length n + _ = _
    rw [cov_all l n (by omega), if_pos (any_at (p := fun i => decide ((gg l i).src = (gg l n).src)) (by omega : n < l.length) (by simp))]
theorem sumS_all (l : List Grp) : sumS l l.length = l.length := by rw [sumS_cov, cov_all l _ (Nat.le_refl _)]
theorem sumS_mono (l : List Grp) {k : Nat} : ∀ {n : Nat}, k ≤ n → sumS l k ≤ sumS l n
  | 0, h => by obtain rfl : k = 0 := by omega
               exact Nat.le_refl _
  | n + 1, h => by
    by_cases e : k = n + 1
    · subst e; exact Nat.le_refl _
    · refine Nat.le_trans (sumS_mono l (k := k) (n := n) (by omega)) ?_
      show _ ≤ if newB l n n then _ else _
      split <;> omega
theorem supK_pos (l : List Grp) (own : List Int) : ∀ n, 0 < supK l own n ↔ (List.range n).any (fun i => decide ((gg l i).src = own)) = true
  | 0 => by simp [supK]
  | n + 1 => by
    rw [any_succ, Bool.or_eq_true, ← supK_pos l own n, decide_eq_true_eq]
    show 0 < supK l own n + _ ↔ _
    by_cases h : (gg l n).src = own
    · rw [if_pos h]; constructor
      · intro _; exact .inr h
      · intro _; omega
    · rw [if_neg h]; constructor
      · intro h1; exact .inl (by omega)
      · rintro (h1 | h1)
        · omega
        · exact absurd h1 h
end Go.Proofs.Ytkfndaebmbnmaaa
namespace Go.Proofs.Ytkfndaebmbnmaaa
open Go.RowKit Go.Deep
set_option maxRecDepth 100000 in
set_option maxHeartbeats 400000 in
theorem sup1_t (S T : Nat → Prop) (w : World) (g : Grp) (sv vo : Value) (pb : Nat) (own : List Int) (hc : w.cell? ⟨pb, 0, none⟩ = some vo) (ho : IntsAt T w vo own) (hi : IntsAt S w sv g.src) (hn : g.src.length ≤ 1000000) (hm : own.length ≤ 1000000) :
    Calls Try.prog 25 (#[gAgg g sv] ++ #[.pointer (some ⟨pb, 0, none⟩)]) w fun e w' => e = .returned (.bool (decide (g.src = own))) ∧ Up w w' := by
  show Calls Try.prog 25 #[.agg #[.int .i64 g.un, .int .i64 g.st, sv], .pointer (some ⟨pb, 0, none⟩)] w _
  obtain ⟨q, cap, rfl, hcap, _⟩ := SlAt.open hi
  obtain ⟨oq, oc, rfl, _, _⟩ := SlAt.open ho
  have hal := Up.alloc w (.cells #[.int .i64 g.un, .int .i64 g.st, .slice q g.src.length cap] 32)
  obtain ⟨_, _, hb2⟩ := box3 w (.int .i64 g.un) (.int .i64 g.st) (.slice q g.src.length cap) 32
  have hb3 := hal.cell hc
  have HM := Lib.hid (equal_int_t S T _ _ _ g.src own (IntsAt.keep hi (hal.kept S)) (IntsAt.keep ho (hal.kept T)) hn hm)
  have HU := Lib.hid hal
  clear hal hi hc ho
  go_enter Try.func25, Try.ntmps25
  go_wp2_with fail
  refine HM.out.mono ?_
  rintro e w' ⟨rfl, n, rfl⟩
  go_wp2_with fail
  go_ret
  exact ⟨rfl, HU.out.trans (Up.drewN _ _)⟩
theorem grps_take {S : Nat → Prop} {w : World} {p : Option Addr} {n cap : Nat} {l : List Grp} (h : GrpsAt S w (.slice p n cap) l) {k : Nat} (hk : k ≤ l.length) : ∃ cap', k ≤ cap' ∧ cap' = cap := by
  obtain ⟨q, c, e, hn, _⟩ := h
  injection e with e1 e2 e3
  exact ⟨cap, by omega, rfl⟩
set_option maxRecDepth 100000 in
set_option maxHeartbeats 8000000 in
theorem support_law (w : World) (v vo : Value) (l : List Grp) (own : List Int) (h : GrpsAt Any w v l) (ho : IntsAt Any w vo own) (hn : l.length ≤ 9223372036854775807) (hr : ∀ k, (gg l k).src.length ≤ 9223372036854775807) (hon : own.length ≤ 9223372036854775807) :
    Calls Try.prog 5 #[v, vo] w fun e w' => e = .returned (.bool true) ∧ Up w w' := by
  obtain ⟨p, cap, rfl, hcap⟩ := grps_open h
  obtain ⟨oq, oc, rfl, _, _⟩ := SlAt.open ho
  have ho : IntsAt Any w (.slice oq own.length oc) own := ho
  have hal := Up.alloc w (.cells #[.slice oq own.length oc] 23)
  have hob := box1_0 w (.slice oq own.length oc) 23
  have HOB := Lib.hid hob
  have HU0 := Lib.hid hal
  have HX := Lib.hid (h.keep (hal.kept _))
  have HO := Lib.hid (IntsAt.keep ho (hal.kept _))
  have HF := Lib.hid (fine35_t Any _ _ l HX.out hn hr)
  have HAW := Lib.hid awake35_t
  clear h ho hal
  cases hf : fine35B l
  · rw [hf] at HF
    clear hf hn hr
    go_enter Try.func5, Try.ntmps5
    go_wp2_with (first | (go_at_call 15; refine HF.out.mono ?_; rintro e w1 ⟨rfl, hu1⟩) | (go_at_call 12; refine (HAW.out _).mono ?_; rintro e w' ⟨rfl, hu⟩) | fail)
    go_ret
    exact ⟨rfl, (HU0.out.trans hu1).trans hu⟩
  · obtain ⟨hl, hs, hg⟩ := fine35_ok hf
    rw [hf] at HF
    by_cases c1 : 36 < own.length
    · have d1 : decide ((36 : Int) < (own.length : Int)) = true := by simp; omega
      clear c1 hf hn hr hs hg
      go_enter Try.func5, Try.ntmps5
      go_wp2_with fail
      refine HF.out.mono ?_
      rintro e w1 ⟨rfl, hu1⟩
      have hob1 := hu1.cell hob
      have HU1 := Lib.hid (HU0.out.trans hu1)
      clear hu1
      go_wp2_with (first | (go_at_call 12; refine (HAW.out _).mono ?_; rintro e w' ⟨rfl, hu⟩) | fail)
      go_ret
      exact ⟨rfl, HU1.out.trans hu⟩
    · have d1 : decide ((36 : Int) < (own.length : Int)) = false := by simp; omega
      have hl2 : l.length ≤ 1000000 := by omega
      have hs2 : ∀ k, (gg l k).src.length ≤ 1000000 := fun k => by have := hs k; omega
      have hown2 : own.length ≤ 1000000 := by omega
      have hok : ∀ k, k < l.length → srcOk (gg l k).src = true := fun k hk => ((gcErr_zero hg).2 k hk).2.2.2
      have HS2 := Lib.hid hs2
      have HSU : Hid (∀ W sv k, Up (w.alloc (.cells #[.slice oq own.length oc] 23)) W → k < l.length → IntsAt Any W sv (gg l k).src → Calls Try.prog 22 #[.slice p l.length cap, sv] W fun e w' => Up W w' ∧ e = .returned (.tuple #[.int .i64 (supK l (gg l k).src l.length : Nat), .int .i64 0])) := fun W sv k hu hk hi => by
        have h1 := support_t Any Any W _ sv l (gg l k).src (HX.out.keep (hu.kept _)) hi hl2 hs2 (hs2 k)
        have e1 : supErr l (gg l k).src = 0 := by unfold supErr; rw [if_neg (fun e => e hg), if_neg (by rw [hok k hk]; decide)]
        have e2 : supN l (gg l k).src = (supK l (gg l k).src l.length : Nat) := by unfold supN; rw [if_pos e1]
        rw [e1, e2] at h1
        exact h1
      have HSO : Hid (∀ W, Up (w.alloc (.cells #[.slice oq own.length oc] 23)) W → Calls Try.prog 22 #[.slice p l.length cap, .slice oq own.length oc] W fun e w' => Up W w' ∧ e = .returned (.tuple #[.int .i64 (supN l own), .int .i64 (supErr l own)])) := fun W hu =>
        support_t Any Any W _ _ l own (HX.out.keep (hu.kept _)) (IntsAt.keep HO.out (hu.kept _)) hl2 hs2 hown2
      have HSE : Hid (supErr l own = 0 ∨ (supErr l own != 0) = true ∧ (supErr l own == 0) = false) := by
        unfold Hid
        by_cases e : supErr l own = 0
        · exact .inl e
        · exact .inr ⟨by simpa using e, by simpa using e⟩
      have HSN : Hid (supErr l own = 0 → supN l own = (supK l own l.length : Nat)) := fun e => by unfold supN; rw [if_pos e]
      have HPOS : Hid (∀ k, k < l.length → 1 ≤ supK l (gg l k).src l.length) := fun k hk => (supK_pos l (gg l k).src l.length).2 (any_at (p := fun i => decide ((gg l i).src = (gg l k).src)) hk (by simp))
      have HSL : Hid (∀ k, k ≤ l.length → sumS l k ≤ 12) := fun k hk => by have h1 := sumS_mono l hk; rw [sumS_all] at h1; omega
      have HLE : Hid (∀ k, supK l (gg l k).src l.length ≤ 12) := fun k => by have := supK_le l (gg l k).src l.length; omega
      clear c1 hf hn hr hs hg hon hs2 hok
      go_enter Try.func5, Try.ntmps5
      go_wp2_with fail
      generalize (w.alloc (.cells #[.slice oq own.length oc] 23)) = w0 at *
      refine HF.out.mono ?_
      rintro e w1 ⟨rfl, hu1⟩
      have hob1 := hu1.cell hob
      have HU1 := Lib.hid hu1
      clear hu1
      go_wp2_with fail
      go_loopw [5, 6, 7, 8, 9, 10, 12, 26] (fun sm _ _ _ _ _ _ i wr => ∃ k : Nat, k ≤ l.length ∧ i = .int .i64 k ∧ sm = .int .i64 (sumS l k : Nat) ∧ Hid (Up w1 wr)) (fun _ _ _ _ _ _ _ i _ => l.length - (intOf i).toNat)
      case atStart => exact ⟨0, Nat.zero_le _, rfl, rfl, Up.refl _⟩
      case round =>
        obtain ⟨k, hk, rfl, rfl, hU⟩ := hrel
        obtain ⟨wo, rfl⟩ : ∃ wo : World, wo = wr := ⟨_, rfl⟩
        have hobo := hU.out.cell hob1
        by_cases hlt : k < l.length
        · obtain ⟨b, off, rq, rc, rfl, hc0, hc1, hc2, hri⟩ := grps_get (HX.out.keep ((HU1.out.trans hU.out).kept Any)) hlt
          have i1 : (0 : Int) ≤ (k : Int) := by omega
          have i2 : (k : Int) < (l.length : Int) := by omega
          have i3 : (k : Int) ≤ (cap : Int) := by omega
          have hal := Up.alloc wo (.cells #[.int .i64 (gg l k).un, .int .i64 (gg l k).st, .slice rq (gg l k).src.length rc] 32)
          obtain ⟨_, _, hb2⟩ := box3 wo (.int .i64 (gg l k).un) (.int .i64 (gg l k).st) (.slice rq (gg l k).src.length rc) 32
          have HB2 := Lib.hid hb2
          have HRI := Lib.hid (IntsAt.keep hri (hal.kept _))
          have HUA := Lib.hid (hU.out.trans hal)
          have HCALL := Lib.hid (HSU.out _ _ k (HU1.out.trans HUA.out) hlt HRI.out)
          have hpos := HPOS.out k hlt
          have hsum := HSL.out k (by omega)
          have hsle := HLE.out k
          have hsk := HS2.out k
          have HST : Hid (sumS l (k + 1) = if newB l k k then sumS l k + supK l (gg l k).src l.length else sumS l k) := rfl
          have HNW : Hid (∀ j, newB l k (j + 1) = (newB l k j && !decide ((gg l j).src = (gg l k).src))) := fun _ => rfl
          clear hri hal hU
          generalize (gg l k).un = un at *
          generalize (gg l k).st = sx at *
          generalize (gg l k).src = sa at *
          generalize supK l sa l.length = n at *
          have e1 : decide ((n : Int) < 1) = false := by simp; omega
          go_wp2_with fail
          generalize wo.alloc (.cells #[.int .i64 un, .int .i64 sx, .slice rq sa.length rc] 32) = w3 at *
          refine HCALL.out.mono ?_
          rintro e w4 ⟨hu4, rfl⟩
          have HU4 := Lib.hid hu4
          clear hu4
          go_wp2_with fail
          go_loopw [10, 12, 48] (fun f _ i wr => ∃ j : Nat, j ≤ k ∧ i = .int .i64 j ∧ f = .bool (newB l k j) ∧ Hid (Up w4 wr)) (fun _ _ i _ => k - (intOf i).toNat)
          case atStart => exact ⟨0, Nat.zero_le _, rfl, rfl, Up.refl _⟩
          case round =>
            obtain ⟨j, hj, rfl, rfl, hV⟩ := hrel
            obtain ⟨wi, rfl⟩ : ∃ wi : World, wi = wr := ⟨_, rfl⟩
            by_cases hjt : j < k
            · obtain ⟨b', off', rq2, rc2, e1', hd0, hd1, hd2, hri2⟩ := grps_get (HX.out.keep ((((HU1.out.trans HUA.out).trans HU4.out).trans hV.out).kept Any)) (show j < l.length by omega)
              injection e1' with e1'
              injection e1' with e1' e2'
              subst e1'; subst e2'
              have j1 : (0 : Int) ≤ (j : Int) := by omega
              have j2 : (j : Int) < (k : Int) := by omega
              have hal := Up.alloc wi (.cells #[.int .i64 (gg l j).un, .int .i64 (gg l j).st, .slice rq2 (gg l j).src.length rc2] 32)
              obtain ⟨_, _, hb3⟩ := box3 wi (.int .i64 (gg l j).un) (.int .i64 (gg l j).st) (.slice rq2 (gg l j).src.length rc2) 32
              have hb2 := ((HU4.out.trans hV.out).trans hal).cell HB2.out
              have HEQ := Lib.hid (equal_int_t Any Any _ _ _ (gg l j).src sa (IntsAt.keep hri2 (hal.kept _)) (IntsAt.keep HRI.out (((HU4.out.trans hV.out).trans hal).kept _)) (HS2.out j) hsk)
              have HVA := Lib.hid (hV.out.trans hal)
              have HNJ := Lib.hid (HNW.out j)
              clear hri2 hal hV
              generalize (gg l j).un = un2 at *
              generalize (gg l j).st = sx2 at *
              generalize (gg l j).src = sb at *
              generalize decide (sb = sa) = de at *
              generalize newB l k j = nw at *
              cases nw
              · have HNJ1 : Hid (newB l k (j + 1) = false) := HNJ.out
                go_wp2_with fail
                go_roundw
                case rel => exact ⟨j + 1, by omega, by go_num, by rw [HNJ1.out], HVA.out⟩
                case measure => simp [intOf]; omega
              · have HNJ1 : Hid (newB l k (j + 1) = !de) := HNJ.out
                go_wp2_with fail
                refine HEQ.out.mono ?_
                rintro e w9 ⟨rfl, n9, rfl⟩
                go_wp2_with fail
                go_roundw
                case rel => exact ⟨j + 1, by omega, by go_num, by rw [HNJ1.out], HVA.out.trans (Up.drewN _ _)⟩
                case measure => simp [intOf]; omega
            · obtain rfl : j = k := by omega
              have HVE := Lib.hid ((HUA.out.trans HU4.out).trans hV.out)
              clear hjt hj hV
              generalize newB l j j = nw at *
              cases nw
              · have HS1 : Hid (sumS l (j + 1) = sumS l j) := HST.out
                go_wp2_with fail
                go_roundw
                case rel => exact ⟨j + 1, by omega, by go_num, by rw [HS1.out], HVE.out⟩
                case measure => simp [intOf]; omega
              · have HS1 : Hid (sumS l (j + 1) = sumS l j + n) := HST.out
                go_wp2_with fail
                go_roundw
                case rel => exact ⟨j + 1, by omega, by go_num, by rw [HS1.out]; go_num, HVE.out⟩
                case measure => simp [intOf]; omega
        · obtain rfl : k = l.length := by omega
          have HSC := Lib.hid (HSO.out wo (HU1.out.trans hU.out))
          have HVE := Lib.hid (HU1.out.trans hU.out)
          have HALL := Lib.hid (sumS_all l)
          have hcov := HALL.out
          rw [hcov]
          clear hlt hk hU hcov
          have dd : ((l.length : Int) == (l.length : Int)) = true := by simp
          go_wp2_with fail
          refine HSC.out.mono ?_
          rintro e w5 ⟨hu5, rfl⟩
          have HU5 := Lib.hid (HVE.out.trans hu5)
          have hob5 := hu5.cell hobo
          clear hu5
          rcases HSE.out with hse | ⟨hse1, hse2⟩
          · have HN := Lib.hid (HSN.out hse)
            rw [hse, HN.out]
            have HHAS := Lib.hid (eg_has_t 25 #[.pointer (some ⟨w.heap.size, 0, none⟩)] (enters_of Try.func25 (by kernel_rfl) rfl) Any w5 _ l (fun i => decide ((gg l i).src = own)) (HX.out.keep (HU5.out.kept _)) hl2
              (fun k w' sv hk hU hi => sup1_t Any Any w' (gg l k) sv _ w.heap.size own (hU.cell hob5) (IntsAt.keep HO.out ((HU5.out.trans hU).kept _)) hi (HS2.out k) hown2))
            have hpos := supK_pos l own l.length
            generalize supK l own l.length = n at *
            cases hb : (List.range l.length).any (fun i => decide ((gg l i).src = own))
            · rw [hb] at HHAS
              have hn0 : n = 0 := by
                refine Classical.byContradiction fun h0 => ?_
                have h1 := hpos.1 (by omega)
                rw [hb] at h1; cases h1
              subst hn0
              clear hpos hb hse
              go_wp2_with (first | (go_at_call 24; refine HHAS.out.mono ?_; rintro e w6 ⟨rfl, hu6⟩) | (go_at_call 12; refine (HAW.out _).mono ?_; rintro e w' ⟨rfl, hu⟩) | fail)
              go_ret
              exact ⟨rfl, ((HU0.out.trans HU5.out).trans hu6).trans hu⟩
            · rw [hb] at HHAS
              have hn0 := hpos.2 hb
              have f1 : decide ((0 : Int) < (n : Int)) = true := by simp; omega
              have f2 : decide (0 < n) = true := by simp; omega
              clear hpos hb hse hn0
              go_wp2_with (first | (go_at_call 24; refine HHAS.out.mono ?_; rintro e w6 ⟨rfl, hu6⟩) | (go_at_call 12; refine (HAW.out _).mono ?_; rintro e w' ⟨rfl, hu⟩) | fail)
              go_ret
              exact ⟨rfl, ((HU0.out.trans HU5.out).trans hu6).trans hu⟩
          · generalize supErr l own = se at *
            generalize supN l own = sn at *
            go_wp2_with (first | (go_at_call 12; refine (HAW.out _).mono ?_; rintro e w' ⟨rfl, hu⟩) | fail)
            go_ret
            exact ⟨rfl, (HU0.out.trans HU5.out).trans hu⟩
end Go.Proofs.Ytkfndaebmbnmaaa
