/- The plain law of SharederrorPairs: sets as lists; the closures of the law. The contracts of layer 35's reference's has, common, conflict. The contract of layer 35's reference's Conflicts. Names, as layer 1's and layer 31's references have them: Check, IsWord, IsName, named. -/
import Derived.Test.YtgjcfkadioblfaaGreatQ12
import Derived.Test.YtgjcfkadioblfaaGreatQ8
import Derived.Test.YtgjcfkadioblfaaGreatQ9
import Derived.Test.YtgjcfkadioblfaaGreatQ6
import Derived.Test.YtgjcfkadioblfaaGreatQ4
namespace Go.Proofs.YtgjcfkadioblfaaGreat
open Go.RowKit Go.Deep
theorem testBit_ofK {l : List Int} (h : Small l) (i : Nat) : ∀ {k : Nat}, k ≤ l.length → ((ofK l k).testBit i = true ↔ ∃ j, j < k ∧ gi l j = i)
  | 0, _ => by simp [ofK]
  | k + 1, hk => by
    have ih := testBit_ofK h i (k := k) (by omega)
    have hb := h k (by omega)
    show ((ofK l k ||| 2 ^ (gi l k).toNat).testBit i = true ↔ _)
    rw [Nat.testBit_or, Bool.or_eq_true, ih, Nat.testBit_two_pow, decide_eq_true_eq]
    constructor
    · rintro (⟨j, h1, h2⟩ | h1)
      · exact ⟨j, by omega, h2⟩
      · exact ⟨k, by omega, by omega⟩
    · rintro ⟨j, h1, h2⟩
      by_cases e : j = k
      · subst e; exact .inr (by omega)
      · exact .inl ⟨j, by omega, h2⟩
theorem testBit_ofS {l : List Int} (h : Small l) (i : Nat) : (ofS l).testBit i = true ↔ (i : Int) ∈ l := by
  unfold ofS
  rw [testBit_ofK h i (Nat.le_refl _)]
  constructor
  · rintro ⟨j, h1, h2⟩; rw [← h2]; exact gi_mem h1
  · intro hm
    obtain ⟨j, hj, e⟩ := List.getElem_of_mem hm
    exact ⟨j, hj, by simp [gi, hj, e]⟩
theorem ofS_u64 {l : List Int} (h : Small l) : U64 (ofS l) := Nat.lt_trans (ofS_lt h) (by decide)
theorem small_mem {l : List Int} (h : Small l) {x : Int} (hx : x ∈ l) : ∃ i : Nat, x = i ∧ i < 32 := by
  obtain ⟨j, hj, e⟩ := List.getElem_of_mem hx
  have h1 := h j hj
  have h2 : gi l j = x := by simp [gi, hj, e]
  rw [h2] at h1
  exact ⟨x.toNat, by omega, by omega⟩
theorem within_mem {a b : List Int} (ha : Small a) (hb : Small b) : withinB (ofS a) (ofS b) = true ↔ ∀ x ∈ a, x ∈ b := by
  rw [withinB_iff (ofS_u64 ha) (ofS_u64 hb)]
  constructor
  · intro h x hx
    obtain ⟨i, rfl, _⟩ := small_mem ha hx
    exact (testBit_ofS hb i).1 (h i ((testBit_ofS ha i).2 hx))
  · intro h i hi
    exact (testBit_ofS hb i).2 (h _ ((testBit_ofS ha i).1 hi))
theorem and_mem {a b : List Int} (ha : Small a) (hb : Small b) : ofS a &&& ofS b ≠ 0 ↔ ∃ x ∈ a, x ∈ b := by
  constructor
  · intro h
    have : ∃ i, (ofS a &&& ofS b).testBit i = true := by
      refine Classical.byContradiction fun hn => h (Nat.eq_of_testBit_eq fun i => ?_)
      rw [Nat.zero_testBit]
      cases hc : (ofS a &&& ofS b).testBit i
      · rfl
      · exact absurd ⟨i, hc⟩ hn
    obtain ⟨i, hi⟩ := this
    rw [Nat.testBit_and, Bool.and_eq_true] at hi
    exact ⟨i, (testBit_ofS ha i).1 hi.1, (testBit_ofS hb i).1 hi.2⟩
  · rintro ⟨x, h1, h2⟩ h0
    obtain ⟨i, rfl, _⟩ := small_mem ha h1
    have h3 : (ofS a &&& ofS b).testBit i = true := by rw [Nat.testBit_and, (testBit_ofS ha i).2 h1, (testBit_ofS hb i).2 h2]; rfl
    rw [h0, Nat.zero_testBit] at h3; cases h3
def lacksB (a b : List Int) : Bool := (List.range a.length).any fun j => !decide (gi a j ∈ b)
def commonB (a b : List Int) : Bool := (List.range a.length).any fun j => decide (gi a j ∈ b)
theorem lacksB_iff {a b : List Int} : lacksB a b = true ↔ ∃ x ∈ a, x ∉ b := by
  unfold lacksB
  rw [List.any_eq_true]
  constructor
  · rintro ⟨j, hj, h⟩
    exact ⟨gi a j, gi_mem (List.mem_range.1 hj), by simpa using h⟩
  · rintro ⟨x, hx, h⟩
    obtain ⟨j, hj, e⟩ := List.getElem_of_mem hx
    have h2 : gi a j = x := by simp [gi, hj, e]
    exact ⟨j, List.mem_range.2 hj, by rw [h2]; simpa using h⟩
theorem commonB_iff {a b : List Int} : commonB a b = true ↔ ∃ x ∈ a, x ∈ b := by
  unfold commonB
  rw [List.any_eq_true]
  constructor
  · rintro ⟨j, hj, h⟩
    exact ⟨gi a j, gi_mem (List.mem_range.1 hj), by simpa using h⟩
  · rintro ⟨x, hx, h⟩
    obtain ⟨j, hj, e⟩ := List.getElem_of_mem hx
    have h2 : gi a j = x := by simp [gi, hj, e]
    exact ⟨j, List.mem_range.2 hj, by rw [h2]; simpa using h⟩
theorem conf_lists {a b : List Int} (ha : Small a) (hb : Small b) : confB (ofS a) (ofS b) = (lacksB a b && lacksB b a && commonB a b) := by
  have h1 : withinB (ofS a) (ofS b) = !lacksB a b := by
    rw [Bool.eq_iff_iff, within_mem ha hb, Bool.not_eq_true', ← Bool.not_eq_true, lacksB_iff]
    constructor
    · rintro h ⟨x, h1, h2⟩; exact h2 (h x h1)
    · intro h x hx; exact Classical.byContradiction fun hn => h ⟨x, hx, hn⟩
  have h2 : withinB (ofS b) (ofS a) = !lacksB b a := by
    rw [Bool.eq_iff_iff, within_mem hb ha, Bool.not_eq_true', ← Bool.not_eq_true, lacksB_iff]
    constructor
    · rintro h ⟨x, h1, h2⟩; exact h2 (h x h1)
    · intro h x hx; exact Classical.byContradiction fun hn => h ⟨x, hx, hn⟩
  have h3 : decide (ofS a &&& ofS b ≠ 0) = commonB a b := by
    rw [Bool.eq_iff_iff, decide_eq_true_eq, and_mem ha hb, commonB_iff]
  unfold confB
  rw [h1, h2, h3, Bool.not_not, Bool.not_not]
  cases commonB a b <;> cases lacksB a b <;> cases lacksB b a <;> rfl
end Go.Proofs.YtgjcfkadioblfaaGreat
namespace Go.Proofs.YtgjcfkadioblfaaGreat
open Go.RowKit Go.Deep
set_option maxRecDepth 100000 in
set_option maxHeartbeats 2000000 in
theorem rhas_t (S : Nat → Prop) (w : World) (v : Value) (l : List Int) (x : Int) (h : IntsAt S w v l) (hn : l.length ≤ 1000000) :
    Calls Tryz.prog 114 #[v, .int .i64 x] w fun e w' => e = .returned (.bool (decide (x ∈ l))) ∧ QD w w' := by
  rw [← any_memI]
  have HI0 := h
  obtain ⟨p, cap, rfl, hcap, H⟩ := SlAt.open h
  have HI := Lib.hid HI0
  clear h HI0 H
  go_enter Tryz.func114, Tryz.ntmps114
  go_wp2_with fail
  go_loopw [5] (fun i wr => ∃ k : Nat, k ≤ l.length ∧ i = .int .i64 k ∧ Hid (QD w wr) ∧ Hid (∀ j, j < k → decide (x = gi l j) = false)) (fun i _ => l.length - (intOf i).toNat)
  case atStart => exact ⟨0, Nat.zero_le _, rfl, QD.refl _, fun j hj => absurd hj (Nat.not_lt_zero _)⟩
  case round =>
    obtain ⟨k, hk, rfl, hQ, hd⟩ := hrel
    obtain ⟨wo, rfl⟩ : ∃ wo : World, wo = wr := ⟨_, rfl⟩
    by_cases hlt : k < l.length
    · obtain ⟨b, off, rfl, hc⟩ := ints_get (IntsAt.keep HI.out (hQ.out.kept S)) hlt
      have i1 : (0 : Int) ≤ (k : Int) := by omega
      have i2 : (k : Int) < (l.length : Int) := by omega
      have HXK : Hid (decide (x = gi l k) = true → ((List.range l.length).any fun j => decide (x = gi l j)) = true) := fun hx => any_at hlt hx
      have HXN : Hid (decide (x = gi l k) = false → ∀ j, j < k + 1 → decide (x = gi l j) = false) := fun hx j hj => if e : j = k then by subst e; exact hx else hd.out j (by omega)
      generalize hy : gi l k = y at *
      clear hy
      by_cases h0 : x = y
      · have HR := HXK.out (by simpa using h0)
        have e0 : (y == x) = true := by simpa using h0.symm
        have HR' := Lib.hid HR
        clear h0 HR
        go_wp2_with fail
        go_ret
        exact ⟨ret_bool HR'.out.symm, hQ.out⟩
      · have HR := Lib.hid (HXN.out (by simpa using h0))
        have e0 : (y == x) = false := by simpa using fun q : y = x => h0 q.symm
        clear h0
        go_wp2_with fail
        go_roundw
        case rel => exact ⟨k + 1, by omega, by go_num, hQ.out, HR.out⟩
        case measure => simp [intOf]; omega
    · obtain rfl : k = l.length := by omega
      have HR := Lib.hid (any_none hd.out)
      go_wp2_with fail
      go_ret
      exact ⟨ret_bool (by rw [HR.out]), hQ.out⟩
/-- How many of the first numbers are in another list. -/
def comK (a b : List Int) : Nat → Nat
  | 0 => 0
  | k + 1 => comK a b k + if gi a k ∈ b then 1 else 0
theorem comK_le (a b : List Int) : ∀ k, comK a b k ≤ k
  | 0 => Nat.le_refl _
  | k + 1 => by have := comK_le a b k; rw [comK]; split <;> omega
set_option maxRecDepth 100000 in
set_option maxHeartbeats 2000000 in
theorem rcommon_t (S T : Nat → Prop) (w : World) (v u : Value) (a b : List Int) (h : IntsAt S w v a) (h2 : IntsAt T w u b) (hn : a.length ≤ 1000000) (hm : b.length ≤ 1000000) :
    Calls Tryz.prog 68 #[v, u] w fun e w' => e = .returned (.int .i64 (comK a b a.length)) ∧ QD w w' := by
  have HI0 := h
  obtain ⟨p, cap, rfl, hcap, H⟩ := SlAt.open h
  have HI := Lib.hid HI0
  have HB := Lib.hid h2
  clear h HI0 H h2
  go_enter Tryz.func68, Tryz.ntmps68
  go_wp2_with fail
  go_loopw [5, 6] (fun n i wr => ∃ k : Nat, k ≤ a.length ∧ i = .int .i64 k ∧ n = .int .i64 (comK a b k) ∧ Hid (QD w wr)) (fun _ i _ => a.length - (intOf i).toNat)
  case atStart => exact ⟨0, Nat.zero_le _, rfl, rfl, QD.refl _⟩
  case round =>
    obtain ⟨k, hk, rfl, rfl, hQ⟩ := hrel
    obtain ⟨wo, rfl⟩ : ∃ wo : World, wo = wr := ⟨_, rfl⟩
    by_cases hlt : k < a.length
    · obtain ⟨q, off, rfl, hc⟩ := ints_get (IntsAt.keep HI.out (hQ.out.kept S)) hlt
      have i1 : (0 : Int) ≤ (k : Int) := by omega
      have i2 : (k : Int) < (a.length : Int) := by omega
      have HK : Hid (comK a b (k + 1) = comK a b k + if gi a k ∈ b then 1 else 0) := rfl
      have hcl := comK_le a b k
      have HC := Lib.hid (rhas_t T wo u b (gi a k) (IntsAt.keep HB.out (hQ.out.kept T)) hm)
      generalize gi a k = y at *
      generalize comK a b k = c at *
      go_wp2_with fail
      refine HC.out.mono ?_
      rintro e w2 ⟨rfl, hq2⟩
      obtain ⟨nq2, rfl⟩ := hq2
      have HQ2 := Lib.hid (hQ.out.drewN nq2)
      by_cases h0 : y ∈ b
      · have e0 : decide (y ∈ b) = true := by simpa using h0
        have HK2 : Hid (comK a b (k + 1) = c + 1) := by rw [Hid, HK.out, if_pos h0]
        clear h0
        rw [e0]
        go_wp2_with fail
        go_roundw
        case rel => exact ⟨k + 1, by omega, by go_num, by rw [HK2.out]; go_num, HQ2.out⟩
        case measure => simp [intOf]; omega
      · have e0 : decide (y ∈ b) = false := by simpa using h0
        have HK2 : Hid (comK a b (k + 1) = c) := by rw [Hid, HK.out, if_neg h0]; rfl
        clear h0
        rw [e0]
        go_wp2_with fail
        go_roundw
        case rel => exact ⟨k + 1, by omega, by go_num, by rw [HK2.out], HQ2.out⟩
        case measure => simp [intOf]; omega
    · obtain rfl : k = a.length := by omega
      go_wp2_with fail
      go_ret
      exact ⟨rfl, hQ.out⟩
/-- The reference's word for neither nested nor disjoint. -/
def rcfB (a b : List Int) : Bool := decide (0 < comK a b a.length) && decide (comK a b a.length < a.length) && decide (comK a b a.length < b.length)
set_option maxRecDepth 100000 in
set_option maxHeartbeats 2000000 in
theorem rconflict_t (S T : Nat → Prop) (w : World) (v u : Value) (a b : List Int) (h : IntsAt S w v a) (h2 : IntsAt T w u b) (hn : a.length ≤ 1000000) (hm : b.length ≤ 1000000) :
    Calls Tryz.prog 55 #[v, u] w fun e w' => e = .returned (.bool (rcfB a b)) ∧ QD w w' := by
  have HC := Lib.hid (rcommon_t S T w v u a b h h2 hn hm)
  obtain ⟨p, cap, rfl, hcap, _⟩ := SlAt.open h
  obtain ⟨p2, cap2, rfl, hcap2, _⟩ := SlAt.open h2
  clear h h2
  have HD : Hid (rcfB a b = (decide (0 < comK a b a.length) && decide (comK a b a.length < a.length) && decide (comK a b a.length < b.length))) := rfl
  have hcl := comK_le a b a.length
  generalize rcfB a b = r at *
  generalize comK a b a.length = c at *
  go_enter Tryz.func55, Tryz.ntmps55
  go_wp2_with fail
  refine HC.out.mono ?_
  rintro e w2 ⟨rfl, hq2⟩
  have HQ := Lib.hid hq2
  clear hq2 HC
  go_wp2_with fail
  all_goals go_ret
  all_goals exact ⟨ret_bool (by rw [HD.out]; clear HD; simp [*]), HQ.out⟩
end Go.Proofs.YtgjcfkadioblfaaGreat
namespace Go.Proofs.YtgjcfkadioblfaaGreat
open Go.RowKit Go.Deep
theorem QD.trans' {w w' w'' : World} (h : QD w w') (k : QD w' w'') : QD w w'' := by
  obtain ⟨n, rfl⟩ := k
  exact h.drewN n
theorem quiet_on {P : Program} {f : FuncId} {args : Array Value} {w : World} {n : Nat} {v : Value} (h : Calls P f args (w.drewN n) fun e w' => e = .returned v ∧ QD (w.drewN n) w') : Calls P f args (w.drewN n) fun e w'' => e = .returned v ∧ ∃ m, w'' = w.drewN m :=
  h.mono fun _ _ ⟨h1, h2⟩ => ⟨h1, (show QD w (w.drewN n) from ⟨n, rfl⟩).trans' h2⟩
theorem comK_filter (a b : List Int) : ∀ k, k ≤ a.length → comK a b k = ((a.take k).filter fun x => decide (x ∈ b)).length
  | 0, _ => rfl
  | k + 1, h => by
    have hg : gi a k = a[k] := by simp [gi, show k < a.length by omega]
    rw [comK, comK_filter a b k (by omega), List.take_succ_eq_append_getElem (show k < a.length by omega), List.filter_append, List.length_append, hg]
    congr 1
    by_cases e : a[k] ∈ b <;> simp [e]
theorem nodup_sub_len : ∀ {p q : List Int}, p.Nodup → (∀ x ∈ p, x ∈ q) → p.length ≤ q.length
  | [], _, _, _ => Nat.zero_le _
  | x :: p, q, hn, h => by
    rw [List.nodup_cons] at hn
    have h1 := nodup_sub_len (p := p) (q := q.erase x) hn.2 fun y hy => (List.mem_erase_of_ne (fun e => hn.1 (by rw [← e]; exact hy))).2 (h y (by simp [hy]))
    rw [List.length_erase_of_mem (h x (by simp))] at h1
    have := List.length_pos_of_mem (h x (by simp))
    rw [List.length_cons]; omega
theorem src_nodup {l : List Int} (h : srcOk l = true) : l.Nodup := by
  obtain ⟨_, _, hs⟩ := srcOk_small h
  have hm : ∀ j i, i < j → j < l.length → gi l i < gi l j := by
    intro j
    induction j with
    | zero => intro i hi; omega
    | succ j ih =>
      intro i hi hj
      have h1 := hs (j + 1) (by omega) hj
      rw [Nat.add_sub_cancel] at h1
      by_cases e : i = j
      · subst e; exact h1
      · have := ih i (by omega) (by omega); omega
  rw [List.Nodup, List.pairwise_iff_getElem]
  intro i j hi hj hij e
  have := hm j i hij hj
  simp [gi, hi, hj, e] at this
theorem rcf_eq {a b : List Int} (ha : srcOk a = true) (hb : srcOk b = true) : rcfB a b = confB (ofS a) (ofS b) := by
  have hna := src_nodup ha
  have hnb := src_nodup hb
  rw [conf_lists (srcOk_small ha).1 (srcOk_small hb).1]
  unfold rcfB
  rw [comK_filter a b _ (Nat.le_refl _), List.take_length]
  have hl : (a.filter fun x => decide (x ∈ b)).length = (b.filter fun x => decide (x ∈ a)).length := by
    have h1 : (a.filter fun x => decide (x ∈ b)).length ≤ (b.filter fun x => decide (x ∈ a)).length := nodup_sub_len (hna.filter _) fun x hx => by
      rw [List.mem_filter] at hx ⊢; exact ⟨by simpa using hx.2, by simpa using hx.1⟩
    have h2 : (b.filter fun x => decide (x ∈ a)).length ≤ (a.filter fun x => decide (x ∈ b)).length := nodup_sub_len (hnb.filter _) fun x hx => by
      rw [List.mem_filter] at hx ⊢; exact ⟨by simpa using hx.2, by simpa using hx.1⟩
    omega
  have e1 : decide (0 < (a.filter fun x => decide (x ∈ b)).length) = commonB a b := by
    rw [Bool.eq_iff_iff, commonB_iff, decide_eq_true_eq, List.length_pos_iff_exists_mem]
    simp [List.mem_filter]
  have lt_iff : ∀ p q : List Int, (p.filter fun x => decide (x ∈ q)).length < p.length ↔ ∃ x ∈ p, x ∉ q := fun p q => by
    rw [List.length_filter_lt_length_iff_exists]; simp
  have e2 : decide ((a.filter fun x => decide (x ∈ b)).length < a.length) = lacksB a b := by
    rw [Bool.eq_iff_iff, lacksB_iff, decide_eq_true_eq, lt_iff]
  have e3 : decide ((a.filter fun x => decide (x ∈ b)).length < b.length) = lacksB b a := by
    rw [Bool.eq_iff_iff, lacksB_iff, decide_eq_true_eq, hl, lt_iff]
  rw [e1, e2, e3]
  cases commonB a b <;> cases lacksB a b <;> cases lacksB b a <;> rfl
set_option maxRecDepth 100000 in
set_option maxHeartbeats 2000000 in
theorem conflictsR_t (S : Nat → Prop) (w : World) (v : Value) (l : List Grp) (h : GrpsAt S w v l) (hn : l.length ≤ 1000000) (hr : ∀ k, (gg l k).src.length ≤ 1000000) :
    Calls Tryz.prog 13 #[v] w (CfPost w l) := by
  have HGC := Lib.hid (gcheckR_t S w v l h hn hr)
  obtain ⟨p, cap, rfl, hcap⟩ := grps_open h
  have HX := Lib.hid h
  have HR := Lib.hid hr
  have HCL : Hid (cfL l = if gcErr l = 0 then cfK l l.length else []) := rfl
  have HNIL : Hid (∀ W, RowsAt Any W (.slice none 0 0) []) := fun W => (RowsOwn.nil 0 22 W).rows
  clear h hr
  by_cases h0 : gcErr l = 0
  · obtain ⟨hl, hgr⟩ := gcErr_zero h0
    have HGR := Lib.hid hgr
    have HL : Hid (cfL l = cfK l l.length) := by unfold Hid; rw [HCL.out, if_pos h0]
    have H0 := Lib.hid h0
    rw [h0] at HGC
    clear HCL hgr h0
    go_enter Tryz.func13, Tryz.ntmps13
    go_wp2_with (refine HGC.out.mono ?_; rintro e w1 ⟨rfl, hq1⟩; have HU1 := Lib.hid hq1.up; clear hq1)
    go_loopw [5, 6, 7] (fun d i _ wr => ∃ k : Nat, k ≤ l.length ∧ i = .int .i64 k ∧ Hid (RowsOwn w1.heap.size 22 wr d (cfK l k)) ∧ Hid (Up w1 wr)) (fun _ i _ _ => l.length - (intOf i).toNat)
    case atStart => exact ⟨0, Nat.zero_le _, rfl, RowsOwn.nil _ _ _, Up.refl _⟩
    case round =>
      obtain ⟨k, hk, rfl, hD, hUr⟩ := hrel
      obtain ⟨wo, rfl⟩ : ∃ wo : World, wo = wr := ⟨_, rfl⟩
      by_cases hlt : k < l.length
      · have HD0 : Hid (RowsOwn w1.heap.size 22 wo u5 (cfK l k ++ cfRow l k (k + 1))) := by unfold Hid; rw [cfRow_start, List.append_nil]; exact hD.out
        have HS := Lib.hid (cfK_succ l k)
        obtain ⟨d0, rfl⟩ : ∃ d : Value, d = u5 := ⟨_, rfl⟩
        go_wp2_with fail
        go_loopw [5, 7] (fun d i wr => ∃ j : Nat, k + 1 ≤ j ∧ j ≤ l.length ∧ i = .int .i64 j ∧ Hid (RowsOwn w1.heap.size 22 wr d (cfK l k ++ cfRow l k j)) ∧ Hid (Up w1 wr)) (fun _ i _ => l.length - (intOf i).toNat)
        case atStart => exact ⟨k + 1, Nat.le_refl _, by omega, by go_num, HD0, hUr⟩
        case round =>
          obtain ⟨j, hj1, hj, rfl, hD2, hU2⟩ := hrel
          obtain ⟨wi, rfl⟩ : ∃ wo : World, wo = wr := ⟨_, rfl⟩
          by_cases hjt : j < l.length
          · obtain ⟨b, off, rq, rc, rfl, _, _, hc2, hri⟩ := grps_get (HX.out.keep ((HU1.out.trans hU2.out).kept S)) hlt
            obtain ⟨b', off', rq2, rc2, e1, _, _, hd2, hri2⟩ := grps_get (HX.out.keep ((HU1.out.trans hU2.out).kept S)) hjt
            injection e1 with e1
            injection e1 with e1 e2
            subst e1; subst e2
            have i1 : (0 : Int) ≤ (k : Int) := by omega
            have i2 : (k : Int) < (l.length : Int) := by omega
            have i3 : (0 : Int) ≤ (j : Int) := by omega
            have i4 : (j : Int) < (l.length : Int) := by omega
            have hs1 := (srcOk_small (HGR.out k hlt).2.2.2).1
            have hs2 := (srcOk_small (HGR.out j hjt).2.2.2).1
            have HCC := Lib.hid (fun m => quiet_on <| rconflict_t S S (wi.drewN m) _ _ _ _ (IntsAt.keep hri (kept_drewN S wi m)) (IntsAt.keep hri2 (kept_drewN S wi m)) (HR.out k) (HR.out j))
            have HEQ := Lib.hid (rcf_eq (HGR.out k hlt).2.2.2 (HGR.out j hjt).2.2.2)
            have HRS := Lib.hid (cfRow_succ l k j)
            have HCB : Hid (cfB l k j = confB (ofS (gg l k).src) (ofS (gg l j).src)) := rfl
            clear hri hri2 hs1 hs2
            generalize (gg l k).src = s1 at *
            generalize (gg l j).src = s2 at *
            go_wp2_with fail
            go_big_quiet (with_reducible exact HCC.out _)
            rw [HEQ.out]
            cases hcb : confB (ofS s1) (ofS s2)
            · have HRN : Hid (RowsOwn w1.heap.size 22 (wi.drewN nq) u5 (cfK l k ++ cfRow l k (j + 1))) := by
                unfold Hid; rw [HRS.out, if_neg (by rw [HCB.out, hcb]; simp), List.append_nil]; exact hD2.out.kept (Up.drewN _ _)
              have HUN : Hid (Up w1 (wi.drewN nq)) := hU2.out.trans (Up.drewN _ _)
              go_wp2_with fail
              go_roundw
              case rel => exact ⟨j + 1, by omega, by omega, by go_num, HRN, HUN⟩
              case measure => simp [intOf]; omega
            · have HUA : Hid (Up wi ((wi.drewN nq).alloc (.cells #[.int .i64 k, .int .i64 j] 3))) := (Up.drewN wi nq).trans (Up.alloc _ _)
              have HRA := Lib.hid (hD2.out.kept HUA.out)
              have HPA : Hid (IntsAt (fun b => some b ≠ u5.ownBlock) ((wi.drewN nq).alloc (.cells #[.int .i64 k, .int .i64 j] 3)) (.slice (some ⟨(wi.drewN nq).heap.size, 0, none⟩) 2 2) [(k : Int), (j : Int)]) :=
                pair_at _ _ _ _ fun e => by have := (hD2.out.lt e.symm).2; exact absurd this (Nat.lt_irrefl _)
              have HLE : (cfK l k ++ cfRow l k j).length ≤ 1000000 := by
                have h1 := cfK_len l k
                have h2 := cfRow_len l k j
                have h3 : k * l.length ≤ 256 * 256 := Nat.mul_le_mul (by omega) hl
                rw [List.length_append]; omega
              have HWZ : w1.heap.size ≤ ((wi.drewN nq).alloc (.cells #[.int .i64 k, .int .i64 j] 3)).heap.size := (hU2.out.trans HUA.out).size
              have HSZ : ((wi.drewN nq).alloc (.cells #[.int .i64 k, .int .i64 j] 3)).heap.size = wi.heap.size + 1 := by rw [World.size_alloc]; rfl
              have HUW := Lib.hid (hU2.out.trans HUA.out)
              have HSN : Hid (cfK l k ++ cfRow l k (j + 1) = (cfK l k ++ cfRow l k j) ++ [[(k : Int), (j : Int)]]) := by
                unfold Hid; rw [HRS.out, if_pos ⟨by omega, by rw [HCB.out, hcb]⟩, List.append_assoc]
              generalize cfK l k ++ cfRow l k j = L0 at *
              go_wp2_with (at_builtin; refine wpList_appRowM ((wi.drewN nq).alloc (.cells #[.int .i64 k, .int .i64 j] 3)) rfl _ _ 31 rfl w1.heap.size 22 _ 24 Tryz.underlying31 Tryz.infoSI3 rfl (by decide) HRA.out rfl _ [(k : Int), (j : Int)] _ HSZ rfl HPA.out rfl _ rfl HLE HWZ ?_; intro g8 cap8 w8 hown1 hgr1 hbe1)
              go_roundw
              case rel => exact ⟨j + 1, by omega, by omega, by go_num, by unfold Hid; rw [HSN.out]; exact hown1, Below.trans HUW.out hbe1⟩
              case measure => simp [intOf]; omega
          · obtain rfl : j = l.length := by omega
            have HDN : Hid (RowsOwn w1.heap.size 22 wi u5 (cfK l (k + 1))) := by unfold Hid; rw [HS.out]; exact hD2.out
            clear hjt hj
            go_wp2_with fail
            go_roundw
            case rel => exact ⟨k + 1, by omega, by go_num, HDN, hU2⟩
            case measure => simp [intOf]; omega
      · obtain rfl : k = l.length := by omega
        clear hlt hk
        go_wp2_with fail
        go_ret2
        exact ⟨HU1.out.trans hUr.out, _, by rw [H0.out]; rfl, by rw [HL.out]; exact hD.out.rows⟩
  · have HL : Hid (cfL l = []) := by unfold Hid; rw [HCL.out, if_neg h0]
    have h1 : (gcErr l != 0) = true := by simpa using h0
    clear HCL h0
    go_enter Tryz.func13, Tryz.ntmps13
    go_wp2_with (refine HGC.out.mono ?_; rintro e w' ⟨rfl, hU1⟩; have HU1 := Lib.hid hU1; clear hU1)
    go_ret2
    exact ⟨HU1.out.up, _, rfl, by rw [HL.out]; exact HNIL.out _⟩
end Go.Proofs.YtgjcfkadioblfaaGreat
namespace Go.Proofs.YtgjcfkadioblfaaGreat
open Go.RowKit Go.Deep
def CkRPost (w : World) (s : ByteArray) (e : Ending) (w' : World) : Prop := Below w.heap.size w w' ∧ ∃ r, e = .returned (.int .i64 r) ∧ (s.data.toList.all aln = true → r = 0)
theorem all_at {s : ByteArray} (h : s.data.toList.all aln = true) {k : Nat} (hk : k < s.size) : aln s[k] = true :=
  List.all_eq_true.1 h _ (by rw [Array.mem_toList_iff]; exact Array.getElem_mem _)
set_option maxRecDepth 100000 in
set_option maxHeartbeats 400000 in
theorem ckR_t (s : ByteArray) (hs : s.size ≤ 1000) (w : World) : Calls Tryz.prog 181 #[.string s] w (CkRPost w s) := by
  go_enter Tryz.func181, Tryz.ntmps181
  go_wp2_with fail
  refine (right_t s hs _).mono ?_
  rintro e w1 ⟨hb, v, bs, rfl, hbl, hsl⟩
  obtain ⟨p, cap, rfl, hcap, H⟩ := hsl.open
  have HH := Lib.hid H
  clear H hsl hbl
  go_wp2_with fail
  go_loop [4, 5] (fun i _ => ∃ k : Nat, k ≤ s.size ∧ i = .int .i64 k) (fun i _ => s.size - (intOf i).toNat)
  case atStart => exact ⟨0, Nat.zero_le _, rfl⟩
  case round =>
    obtain ⟨k, hk, rfl⟩ := hrel
    by_cases hlt : k < s.size
    · obtain ⟨b, off, rfl, hc⟩ := HH.out k hlt
      have hka : s.data.toList.all aln = true → kindL s[k].toNat = 1 ∨ kindL s[k].toNat = 3 := fun h => (kind_aln s[k]).2 (all_at h hlt)
      have HKA := Lib.hid hka
      clear HH hka
      go_wp2_with (go_at_call 182; refine (kindR_t _ (UInt8.toNat_lt _) _).mono ?_; rintro e w' ⟨rfl, rfl⟩; generalize kindL _ = q at *)
      all_goals first | (go_round; (case rel => exact ⟨k + 1, by omega, by go_num⟩); (case measure => simp [intOf]; omega)) | (go_ret; exact ⟨hb, _, rfl, fun h => by have := HKA.out h; simp at *; omega⟩)
    · clear HH
      go_wp2_with fail
      go_ret
      exact ⟨hb, _, rfl, fun _ => rfl⟩
def IwPost (w : World) (s : ByteArray) (e : Ending) (w' : World) : Prop := Below w.heap.size w w' ∧ ∃ b, e = .returned (.bool b) ∧ (s.data.toList.all aln = true → 1 ≤ s.size → b = true) ∧ (s.size = 0 → b = false)
set_option maxRecDepth 100000 in
set_option maxHeartbeats 400000 in
theorem isWordR_t (s : ByteArray) (hs : s.size ≤ 16) (w : World) : Calls Tryz.prog 164 #[.string s] w (IwPost w s) := by
  by_cases h0 : s.size < 1
  · go_enter Tryz.func164, Tryz.ntmps164
    go_wp2_with fail
    go_ret
    exact ⟨Below.refl _ _, _, rfl, fun _ h => by omega, fun _ => rfl⟩
  · have h0' : ((0 : Nat) < s.size) := by omega
    have hka : s.data.toList.all aln = true → kindL s[0].toNat = 1 ∨ kindL s[0].toNat = 3 := fun h => (kind_aln s[0]).2 (all_at h h0')
    have HKA := Lib.hid hka
    clear hka
    go_enter Tryz.func164, Tryz.ntmps164
    go_wp2_with fail
    refine (ckR_t s (by omega) _).mono ?_
    rintro e w1 ⟨hb, r, rfl, hr⟩
    have HR := Lib.hid hr
    clear hr
    go_wp2_with (go_at_call 182; refine (kindR_t _ (UInt8.toNat_lt _) _).mono ?_; rintro e w' ⟨rfl, rfl⟩; generalize kindL _ = q at *)
    all_goals first
      | (go_ret; exact ⟨hb, _, rfl, fun h _ => (by exfalso; have h1 := HKA.out h; have h2 := HR.out h; subst h2; simp at *; omega), fun _ => rfl⟩)
      | skip
    all_goals
      clear HR
      go_loop [4] (fun i => ∃ k : Nat, k ≤ s.size ∧ i = .int .i64 k) (fun i => s.size - (intOf i).toNat)
      case atStart => exact ⟨0, Nat.zero_le _, rfl⟩
      case round =>
        obtain ⟨k, hk, rfl⟩ := hrel
        by_cases hlt : k < s.size
        · have hka : s.data.toList.all aln = true → kindL s[k].toNat = 1 ∨ kindL s[k].toNat = 3 := fun h => (kind_aln s[k]).2 (all_at h hlt)
          have HKB := Lib.hid hka
          clear hka
          go_wp2_with (go_at_call 182; refine (kindR_t _ (UInt8.toNat_lt _) _).mono ?_; rintro e w' ⟨rfl, rfl⟩; generalize kindL s[k].toNat = y at *)
          all_goals first | (go_round; (case rel => exact ⟨k + 1, by omega, by go_num⟩); (case measure => simp [intOf]; omega)) | (go_ret; exact ⟨hb, _, rfl, fun h _ => (by exfalso; have h1 := HKB.out h; omega), fun _ => rfl⟩)
        · go_wp2_with fail
          go_ret
          exact ⟨hb, _, rfl, fun _ _ => rfl, fun h => by omega⟩
set_option maxRecDepth 100000 in
set_option maxHeartbeats 400000 in
theorem isNameR_t (s : ByteArray) (hs : s.size ≤ 70000) (w : World) : Calls Tryz.prog 128 #[.string s] w fun e w' => e = .returned (.bool (isNameB s.data.toList)) ∧ Below w.heap.size w w' := by
  have hl := size_data s
  have hA := cntA_all s.data.toList
  have hfin : isNameB s.data.toList = decide (1 ≤ s.size ∧ s.size ≤ 16 ∧ cntA s.data.toList = s.size) := by
    unfold isNameB; rw [hl] at hA ⊢; rw [Bool.eq_iff_iff]; simp only [Bool.and_eq_true, decide_eq_true_eq]; rw [← hA, and_assoc]
  rw [hl] at hA
  have HF := Lib.hid hfin
  have HA := Lib.hid hA
  clear hfin hl hA
  by_cases h16 : s.size ≤ 16
  · go_enter Tryz.func128, Tryz.ntmps128
    go_wp2_with fail
    refine (isWordR_t s h16 _).mono ?_
    rintro e w1 ⟨hb, b, rfl, h1, h2⟩
    have H1 := Lib.hid h1
    have H2 := Lib.hid h2
    clear h1 h2
    cases b
    · go_wp2_with fail
      go_ret
      refine ⟨ret_bool ?_, hb⟩
      rw [HF.out, eq_comm, decide_eq_false_iff_not]
      rintro ⟨a1, a2, a3⟩
      have := H1.out (HA.out.1 a3) a1
      cases this
    · go_wp2_with (go_at_call 165; refine (lettersR_t s hs _).mono ?_; rintro e w' ⟨rfl, rfl⟩)
      go_ret
      refine ⟨ret_bool ?_, hb⟩
      have h0 : s.size ≠ 0 := fun e => by have := H2.out e; cases this
      rw [HF.out, Bool.eq_iff_iff]
      simp
      omega
  · go_enter Tryz.func128, Tryz.ntmps128
    go_wp2_with fail
    go_ret
    refine ⟨ret_bool ?_, Below.refl _ _⟩
    rw [HF.out, eq_comm, decide_eq_false_iff_not]; omega
theorem last_get (s : ByteArray) (h : s.size - 1 < s.size) : s.data.toList.getLast? = some s[s.size - 1] := by
  have hl := size_data s
  rw [List.getLast?_eq_getElem?, hl, List.getElem?_eq_getElem (by rw [hl]; exact h)]; rfl
theorem named_star (s : ByteArray) (h : s.size - 1 < s.size) (h16 : s.size ≤ 16) (h42 : ((s[s.size - 1].toNat : Int) == 42) = true) : namedB s.data.toList = isNameB (s.extract 0 (s.size - 1)).data.toList := by
  have hl := size_data s
  have h2 : s[s.size - 1] = 42 := by
    have h3 : (s[s.size - 1].toNat : Int) = 42 := by simpa using h42
    have h4 : s[s.size - 1].toNat = 42 := by omega
    exact UInt8.toNat_inj.1 h4
  unfold namedB; rw [last_get s h, h2, if_pos rfl, cut_star, hl]; simp [h16]
theorem named_plain (s : ByteArray) (h : s.size - 1 < s.size) (h42 : ((s[s.size - 1].toNat : Int) == 42) = false) : namedB s.data.toList = isNameB s.data.toList := by
  unfold namedB; rw [last_get s h, if_neg]
  intro e; injection e with e; rw [e] at h42; simp at h42
theorem named_far (s : ByteArray) (h : 16 < s.size) : namedB s.data.toList = isNameB s.data.toList := by
  have hl := size_data s
  unfold namedB; split
  · rename_i h42
    rw [isNameB_star s.data.toList h42, hl, decide_eq_false (by omega), Bool.and_false]
  · rfl
theorem named_one (s : ByteArray) (h : s.size ≤ 1) : namedB s.data.toList = isNameB s.data.toList := by
  have hl := size_data s
  unfold namedB; split
  · rename_i h42
    rw [isNameB_star s.data.toList h42]
    have : s.data.toList.dropLast = [] := by rw [← List.length_eq_zero_iff, List.length_dropLast]; omega
    rw [this]; rfl
  · rfl
set_option maxRecDepth 100000 in
set_option maxHeartbeats 400000 in
theorem namedR_t (s : ByteArray) (hs : s.size ≤ 70000) (w : World) : Calls Tryz.prog 97 #[.string s] w fun e w' => e = .returned (.bool (namedB s.data.toList)) ∧ Below w.heap.size w w' := by
  go_enter Tryz.func97, Tryz.ntmps97
  go_wp2_with fail
  · have hf := Lib.hid (named_star s (by omega) (by omega) ‹_›)
    refine (isNameR_t _ (by simp; omega) _).mono ?_
    rintro e w1 ⟨rfl, hb⟩
    rw [← hf.out]
    go_wp2_with fail
    go_ret
    exact ⟨rfl, hb⟩
  · have hf := Lib.hid (named_plain s (by omega) ‹_›)
    refine (isNameR_t _ hs _).mono ?_
    rintro e w1 ⟨rfl, hb⟩
    rw [← hf.out]
    go_wp2_with fail
    go_ret
    exact ⟨rfl, hb⟩
  · have hf := Lib.hid (named_far s (by omega))
    refine (isNameR_t _ hs _).mono ?_
    rintro e w1 ⟨rfl, hb⟩
    rw [← hf.out]
    go_wp2_with fail
    go_ret
    exact ⟨rfl, hb⟩
  · have hf := Lib.hid (named_one s (by omega))
    refine (isNameR_t _ hs _).mono ?_
    rintro e w1 ⟨rfl, hb⟩
    rw [← hf.out]
    go_wp2_with fail
    go_ret
    exact ⟨rfl, hb⟩
end Go.Proofs.YtgjcfkadioblfaaGreat
