/- The plain law of SharederrorPairs: sets as lists; the closures of the law. The walk of SharederrorPairs. -/
import Derived.Test.YtkfndaebmbnmaaaQ11
import Derived.Test.YtkfndaebmbnmaaaQ19
namespace Go.Proofs.Ytkfndaebmbnmaaa
open Go.RowKit Go.Deep
theorem testBit_ofK {l : List Int} (h : Small l) (i : Nat) : ∀ {k : Nat}, k ≤ l.length → ((ofK l k).testBit i = true ↔ ∃ j, j < k ∧ gi l j = i)
  | 0, _ => by simp [ofK]
  | k + 1, hk => by
    have ih := testBit_ofK h i (k := k) (by omega)
    have hb := h k (by omega)
    show ((ofK l k ||| 2 ^ (gi l k).toNat).testBit i = true ↔ _)
    rw [Nat.testBit_or, Bool.or_eq_true, ih, Nat.testBit_two_pow, decide_eq_true_eq]
    constructor
    · rintro (⟨j, h1, h2⟩ | h1)
      · exact ⟨j, by omega, h2⟩
      · exact ⟨k, by omega, by omega⟩
    · rintro ⟨j, h1, h2⟩
      by_cases e : j = k
      · subst e; exact .inr (by omega)
      · exact .inl ⟨j, by omega, h2⟩
theorem testBit_ofS {l : List Int} (h : Small l) (i : Nat) : (ofS l).testBit i = true ↔ (i : Int) ∈ l := by
  unfold ofS
  rw [testBit_ofK h i (Nat.le_refl _)]
  constructor
  · rintro ⟨j, h1, h2⟩; rw [← h2]; exact gi_mem h1
  · intro hm
    obtain ⟨j, hj, e⟩ := List.getElem_of_mem hm
    exact ⟨j, hj, by simp [gi, hj, e]⟩
theorem ofS_u64 {l : List Int} (h : Small l) : U64 (ofS l) := Nat.lt_trans (ofS_lt h) (by decide)
theorem small_mem {l : List Int} (h : Small l) {x : Int} (hx : x ∈ l) : ∃ i : Nat, x = i ∧ i < 32 := by
  obtain ⟨j, hj, e⟩ := List.getElem_of_mem hx
  have h1 := h j hj
  have h2 : gi l j = x := by simp [gi, hj, e]
  rw [h2] at h1
  exact ⟨x.toNat, by omega, by omega⟩
theorem within_mem {a b : List Int} (ha : Small a) (hb : Small b) : withinB (ofS a) (ofS b) = true ↔ ∀ x ∈ a, x ∈ b := by
  rw [withinB_iff (ofS_u64 ha) (ofS_u64 hb)]
  constructor
  · intro h x hx
    obtain ⟨i, rfl, _⟩ := small_mem ha hx
    exact (testBit_ofS hb i).1 (h i ((testBit_ofS ha i).2 hx))
  · intro h i hi
    exact (testBit_ofS hb i).2 (h _ ((testBit_ofS ha i).1 hi))
theorem and_mem {a b : List Int} (ha : Small a) (hb : Small b) : ofS a &&& ofS b ≠ 0 ↔ ∃ x ∈ a, x ∈ b := by
  constructor
  · intro h
    have : ∃ i, (ofS a &&& ofS b).testBit i = true := by
      refine Classical.byContradiction fun hn => h (Nat.eq_of_testBit_eq fun i => ?_)
      rw [Nat.zero_testBit]
      cases hc : (ofS a &&& ofS b).testBit i
      · rfl
      · exact absurd ⟨i, hc⟩ hn
    obtain ⟨i, hi⟩ := this
    rw [Nat.testBit_and, Bool.and_eq_true] at hi
    exact ⟨i, (testBit_ofS ha i).1 hi.1, (testBit_ofS hb i).1 hi.2⟩
  · rintro ⟨x, h1, h2⟩ h0
    obtain ⟨i, rfl, _⟩ := small_mem ha h1
    have h3 : (ofS a &&& ofS b).testBit i = true := by rw [Nat.testBit_and, (testBit_ofS ha i).2 h1, (testBit_ofS hb i).2 h2]; rfl
    rw [h0, Nat.zero_testBit] at h3; cases h3
def lacksB (a b : List Int) : Bool := (List.range a.length).any fun j => !decide (gi a j ∈ b)
def commonB (a b : List Int) : Bool := (List.range a.length).any fun j => decide (gi a j ∈ b)
theorem lacksB_iff {a b : List Int} : lacksB a b = true ↔ ∃ x ∈ a, x ∉ b := by
  unfold lacksB
  rw [List.any_eq_true]
  constructor
  · rintro ⟨j, hj, h⟩
    exact ⟨gi a j, gi_mem (List.mem_range.1 hj), by simpa using h⟩
  · rintro ⟨x, hx, h⟩
    obtain ⟨j, hj, e⟩ := List.getElem_of_mem hx
    have h2 : gi a j = x := by simp [gi, hj, e]
    exact ⟨j, List.mem_range.2 hj, by rw [h2]; simpa using h⟩
theorem commonB_iff {a b : List Int} : commonB a b = true ↔ ∃ x ∈ a, x ∈ b := by
  unfold commonB
  rw [List.any_eq_true]
  constructor
  · rintro ⟨j, hj, h⟩
    exact ⟨gi a j, gi_mem (List.mem_range.1 hj), by simpa using h⟩
  · rintro ⟨x, hx, h⟩
    obtain ⟨j, hj, e⟩ := List.getElem_of_mem hx
    have h2 : gi a j = x := by simp [gi, hj, e]
    exact ⟨j, List.mem_range.2 hj, by rw [h2]; simpa using h⟩
theorem conf_lists {a b : List Int} (ha : Small a) (hb : Small b) : confB (ofS a) (ofS b) = (lacksB a b && lacksB b a && commonB a b) := by
  have h1 : withinB (ofS a) (ofS b) = !lacksB a b := by
    rw [Bool.eq_iff_iff, within_mem ha hb, Bool.not_eq_true', ← Bool.not_eq_true, lacksB_iff]
    constructor
    · rintro h ⟨x, h1, h2⟩; exact h2 (h x h1)
    · intro h x hx; exact Classical.byContradiction fun hn => h ⟨x, hx, hn⟩
  have h2 : withinB (ofS b) (ofS a) = !lacksB b a := by
    rw [Bool.eq_iff_iff, within_mem hb ha, Bool.not_eq_true', ← Bool.not_eq_true, lacksB_iff]
    constructor
    · rintro h ⟨x, h1, h2⟩; exact h2 (h x h1)
    · intro h x hx; exact Classical.byContradiction fun hn => h ⟨x, hx, hn⟩
  have h3 : decide (ofS a &&& ofS b ≠ 0) = commonB a b := by
    rw [Bool.eq_iff_iff, decide_eq_true_eq, and_mem ha hb, commonB_iff]
  unfold confB
  rw [h1, h2, h3, Bool.not_not, Bool.not_not]
  cases commonB a b <;> cases lacksB a b <;> cases lacksB b a <;> rfl
set_option maxRecDepth 100000 in
set_option maxHeartbeats 400000 in
theorem pairs11_t (S : Nat → Prop) (w : World) (bx : Nat) (vb : Value) (b : List Int) (x : Int) (hc : w.cell? ⟨bx, 0, none⟩ = some vb) (hb : IntsAt S w vb b) (hn : b.length ≤ 1000000) :
    FnIs 19 #[.pointer (some ⟨bx, 0, none⟩)] #[.int .i64 x] (.bool (!decide (x ∈ b))) w := by
  unfold FnIs
  show Calls Try.prog 19 #[.int .i64 x, .pointer (some ⟨bx, 0, none⟩)] w _
  have HC := Lib.hid (contains_int_t S w vb b x hb hn)
  rw [any_memI] at HC
  clear hb
  go_enter Try.func19, Try.ntmps19
  go_wp2_with fail
  refine HC.out.mono ?_
  rintro e w' ⟨rfl, rfl⟩
  go_wp2_with fail
  go_ret
  exact ⟨rfl, rfl⟩
set_option maxRecDepth 100000 in
set_option maxHeartbeats 400000 in
theorem pairs1_t (S T : Nat → Prop) (w : World) (va vb : Value) (a b : List Int) (ha : IntsAt S w va a) (hb : IntsAt T w vb b) (hn : a.length ≤ 1000000) (hm : b.length ≤ 1000000) :
    Calls Try.prog 17 #[va, vb] w fun e w' => e = .returned (.bool (lacksB a b)) ∧ Up w w' := by
  obtain ⟨q, c, rfl, _, _⟩ := SlAt.open hb
  have hb : IntsAt T w (.slice q b.length c) b := hb
  have hu := Up.alloc w (.cells #[.slice q b.length c] 23)
  have hbx := box1_0 w (.slice q b.length c) 23
  have HI := Lib.hid (ints_has_t 19 #[.pointer (some ⟨w.heap.size, 0, none⟩)] (enters_of Try.func19 (by kernel_rfl) rfl) S _ _ a.length _ (fun j => !decide (gi a j ∈ b)) (IntsAt.keep ha (hu.kept S)) hn
    (fun j _ => pairs11_t T _ w.heap.size _ b (gi a j) hbx (IntsAt.keep hb (hu.kept T)) hm))
  have HL : Hid (lacksB a b = (List.range a.length).any fun j => !decide (gi a j ∈ b)) := rfl
  have HU := Lib.hid hu
  clear ha hb hu hbx
  go_enter Try.func17, Try.ntmps17
  go_wp2_with fail
  refine HI.out.mono ?_
  rintro e w' ⟨rfl, rfl⟩
  go_wp2_with fail
  go_ret
  exact ⟨ret_bool HL.out.symm, HU.out⟩
set_option maxRecDepth 100000 in
set_option maxHeartbeats 400000 in
theorem pairs2_t (S : Nat → Prop) (w : World) (bx : Nat) (vb : Value) (b : List Int) (x : Int) (hc : w.cell? ⟨bx, 2, none⟩ = some vb) (hb : IntsAt S w vb b) (hn : b.length ≤ 1000000) :
    FnIs 20 #[.pointer (some ⟨bx, 0, none⟩)] #[.int .i64 x] (.bool (decide (x ∈ b))) w := by
  unfold FnIs
  show Calls Try.prog 20 #[.int .i64 x, .pointer (some ⟨bx, 0, none⟩)] w _
  have HC := Lib.hid (contains_int_t S w vb b x hb hn)
  rw [any_memI] at HC
  clear hb
  go_enter Try.func20, Try.ntmps20
  go_wp2_with fail
  refine HC.out.mono ?_
  rintro e w' ⟨rfl, rfl⟩
  go_wp2_with fail
  go_ret
  exact ⟨rfl, rfl⟩
theorem common_t (S T : Nat → Prop) (w : World) (va vb : Value) (a b : List Int) (bx : Nat) (ha : IntsAt S w va a) (hc : w.cell? ⟨bx, 2, none⟩ = some vb) (hb : IntsAt T w vb b) (hn : a.length ≤ 1000000) (hm : b.length ≤ 1000000) :
    Calls Try.prog 18 #[va, .func (.func 20) #[] #[.pointer (some ⟨bx, 0, none⟩)]] w fun e w' => e = .returned (.bool (commonB a b)) ∧ w = w' :=
  ints_has_t 20 #[.pointer (some ⟨bx, 0, none⟩)] (enters_of Try.func20 (by kernel_rfl) rfl) S w va a.length _ (fun j => decide (gi a j ∈ b)) ha hn (fun j _ => pairs2_t T w bx vb b (gi a j) hc hb hm)
end Go.Proofs.Ytkfndaebmbnmaaa
namespace Go.Proofs.Ytkfndaebmbnmaaa
open Go.RowKit Go.Deep
theorem RowsOwn.typed {base : Nat} {T : TypeId} {w : World} {d : Value} {xs : List (List Int)} (h : RowsOwn base T w d xs) {b : Nat} (hb : d.ownBlock = some b) : ∃ c, w.heap[b]? = some (Obj.cells c T (0, 0)) := by
  obtain ⟨vals, _, ⟨_, ho⟩, _⟩ := h
  rcases ho with ⟨rfl, _⟩ | ⟨g, cap, cur, rfl, _, hc, _⟩
  · cases hb
  · injection hb with hb; subst hb; exact ⟨cur, hc⟩
theorem grp_apart {base : Nat} {w : World} {d : Value} {xs : List (List Int)} (h : RowsOwn base 23 w d xs) {b : Nat} {c : Array Value} (hb : w.heap[b]? = some (Obj.cells c 32 (0, 0))) : some b ≠ d.ownBlock := fun e => by
  obtain ⟨c2, h2⟩ := h.typed e.symm
  rw [hb] at h2
  injection h2 with h2
  injection h2 with _ h2 _
  cases h2
theorem grp_box {w : World} {b : Nat} {x y z : Value} (hb : w.heap[b]? = some (Obj.cells #[x, y, z] 32 (0, 0))) : w.cell? ⟨b, 2, none⟩ = some z := by simp [World.cell?, hb]
set_option maxRecDepth 100000 in
set_option maxHeartbeats 8000000 in
theorem pairs_law (w : World) (v : Value) (l : List Grp) (h : GrpsAt Any w v l) (hn : l.length ≤ 9223372036854775807) (hr : ∀ k, (gg l k).src.length ≤ 9223372036854775807) :
    Calls Try.prog 4 #[v] w fun e w' => e = .returned (.bool true) ∧ Up w w' := by
  have HF := Lib.hid (fine35_t Any w v l h hn hr)
  obtain ⟨p, cap, rfl, hcap⟩ := grps_open h
  have HAW := Lib.hid awake35_t
  cases hf : fine35B l
  · rw [hf] at HF
    clear hf h hn hr
    go_enter Try.func4, Try.ntmps4
    go_wp2_with fail
    refine HF.out.mono ?_
    rintro e w1 ⟨rfl, hu1⟩
    go_wp2_with (first | (go_at_call 12; refine (HAW.out _).mono ?_; rintro e w' ⟨rfl, hu⟩) | fail)
    go_ret
    exact ⟨rfl, hu1.trans hu⟩
  · obtain ⟨hl, hs, hg⟩ := fine35_ok hf
    have hl2 : l.length ≤ 1000000 := by omega
    have hs2 : ∀ k, (gg l k).src.length ≤ 1000000 := fun k => by have := hs k; omega
    rw [hf] at HF
    have HX := Lib.hid h
    have HS2 := Lib.hid hs2
    have HSM : Hid (∀ k, k < l.length → Small (gg l k).src) := fun k hk => (srcOk_small ((gcErr_zero hg).2 k hk).2.2.2).1
    have HCL : Hid (cfL l = cfK l l.length) := by unfold Hid cfL; rw [if_pos hg]
    have HCF : Hid (∀ W, Up w W → Calls Try.prog 16 #[.slice p l.length cap] W fun e w' => Up W w' ∧ ∃ v, e = .returned (.tuple #[v, .int .i64 0]) ∧ RowsAt Any w' v (cfK l l.length)) := fun W hu => by
      have h1 := conflicts_t Any W _ l (HX.out.keep (hu.kept _)) hl2 hs2
      unfold CfPost at h1
      rw [hg, HCL.out] at h1
      exact h1
    clear hf h hn hr hs hg hs2
    go_enter Try.func4, Try.ntmps4
    go_wp2_with fail
    refine HF.out.mono ?_
    rintro e w1 ⟨rfl, hu1⟩
    have HC1 := Lib.hid (HCF.out w1 hu1)
    have HU1 := Lib.hid hu1
    clear hu1
    go_wp2_with fail
    refine HC1.out.mono ?_
    rintro e w2 ⟨hu2, cv, rfl, hcr⟩
    obtain ⟨cq, cc, rfl, _, _⟩ := rows_open hcr
    have HCR := Lib.hid hcr
    have HU2 := Lib.hid (HU1.out.trans hu2)
    clear hcr hu2 HC1 HU1
    go_wp2_with fail
    go_loopw [6, 7, 8, 9, 10, 24] (fun d _ _ _ _ i wr => ∃ k : Nat, k ≤ l.length ∧ i = .int .i64 k ∧ Hid (RowsOwn w2.heap.size 23 wr d (cfK l k)) ∧ Hid (Up w2 wr)) (fun _ _ _ _ _ i _ => l.length - (intOf i).toNat)
    case atStart => exact ⟨0, Nat.zero_le _, rfl, RowsOwn.nil _ _ _, Up.refl _⟩
    case round =>
      obtain ⟨k, hk, rfl, hD, hUr⟩ := hrel
      obtain ⟨wo, rfl⟩ : ∃ wo : World, wo = wr := ⟨_, rfl⟩
      obtain ⟨d0, rfl⟩ : ∃ d : Value, d = u6 := ⟨_, rfl⟩
      by_cases hlt : k < l.length
      · obtain ⟨b, off, rq, rc, rfl, hc0', hc1', hc2', hri⟩ := grps_get (HX.out.keep (HU2.out.kept Any)) hlt
        have hc0 := hUr.out.cell hc0'
        have hc1 := hUr.out.cell hc1'
        have hc2 := hUr.out.cell hc2'
        clear hc0' hc1' hc2'
        have i1 : (0 : Int) ≤ (k : Int) := by omega
        have i2 : (k : Int) < (l.length : Int) := by omega
        have hal := Up.alloc wo (.cells #[.int .i64 (gg l k).un, .int .i64 (gg l k).st, .slice rq (gg l k).src.length rc] 32)
        have hgb := World.alloc_heap_new wo (.cells #[.int .i64 (gg l k).un, .int .i64 (gg l k).st, .slice rq (gg l k).src.length rc] 32)
        have HGB := Lib.hid hgb
        have HRI := Lib.hid hri
        have HUA := Lib.hid (hUr.out.trans hal)
        have HD0 : Hid (RowsOwn w2.heap.size 23 (wo.alloc (.cells #[.int .i64 (gg l k).un, .int .i64 (gg l k).st, .slice rq (gg l k).src.length rc] 32)) d0 (cfK l k ++ cfRow l k (k + 1))) := by unfold Hid; rw [cfRow_start, List.append_nil]; exact hD.out.kept hal
        have HS := Lib.hid (cfK_succ l k)
        have hsl := HS2.out k
        have HSA := Lib.hid (HSM.out k hlt)
        have HCB : Hid (∀ j, cfB l k j = confB (ofS (gg l k).src) (ofS (gg l j).src)) := fun _ => rfl
        clear hri hal hgb
        generalize (gg l k).un = un at *
        generalize (gg l k).st = sx at *
        generalize (gg l k).src = sa at *
        go_wp2_with fail
        generalize wo.alloc (.cells #[.int .i64 un, .int .i64 sx, .slice rq sa.length rc] 32) = w3 at *
        go_loopw [6, 9, 10] (fun d i _ wr => ∃ j : Nat, k + 1 ≤ j ∧ j ≤ l.length ∧ i = .int .i64 j ∧ Hid (RowsOwn w2.heap.size 23 wr d (cfK l k ++ cfRow l k j)) ∧ Hid (Up w2 wr ∧ wr.heap[wo.heap.size]? = some (Obj.cells #[.int .i64 un, .int .i64 sx, .slice rq sa.length rc] 32 (0, 0)))) (fun _ i _ _ => l.length - (intOf i).toNat)
        case atStart => exact ⟨k + 1, Nat.le_refl _, by omega, by go_num, HD0, HUA.out, HGB.out⟩
        case round =>
          obtain ⟨j, hj1, hj, rfl, hD2, hU2⟩ := hrel
          obtain ⟨wi, rfl⟩ : ∃ wo : World, wo = wr := ⟨_, rfl⟩
          obtain ⟨d1, rfl⟩ : ∃ d : Value, d = u6 := ⟨_, rfl⟩
          by_cases hjt : j < l.length
          · obtain ⟨b', off', rq2, rc2, e1, hd0', hd1', hd2', hri2⟩ := grps_get (HX.out.keep (HU2.out.kept Any)) hjt
            injection e1 with e1
            injection e1 with e1 e2
            subst e1; subst e2
            have hd0 := hU2.out.1.cell hd0'
            have hd1 := hU2.out.1.cell hd1'
            have hd2 := hU2.out.1.cell hd2'
            clear hd0' hd1' hd2'
            have i3 : (0 : Int) ≤ (j : Int) := by omega
            have i4 : (j : Int) < (l.length : Int) := by omega
            have hal := Up.alloc wi (.cells #[.int .i64 (gg l j).un, .int .i64 (gg l j).st, .slice rq2 (gg l j).src.length rc2] 32)
            obtain ⟨_, _, hb3⟩ := box3 wi (.int .i64 (gg l j).un) (.int .i64 (gg l j).st) (.slice rq2 (gg l j).src.length rc2) 32
            have HUB := Lib.hid (hU2.out.1.trans hal)
            have hgl : wo.heap.size < wi.heap.size := (Array.getElem?_eq_some_iff.1 hU2.out.2).1
            have HGB2 := Lib.hid ((Below.block hal wo.heap.size hgl).trans hU2.out.2)
            have hb2 := grp_box HGB2.out
            have HRB := Lib.hid (IntsAt.keep hri2 ((hU2.out.1.trans hal).kept _))
            have HRA := Lib.hid (IntsAt.keep HRI.out ((hU2.out.1.trans hal).kept _))
            have hsm := HS2.out j
            have HB3 := Lib.hid hb3
            have HCE := Lib.hid ((HCB.out j).trans (conf_lists HSA.out (HSM.out j hjt)))
            have HRS := Lib.hid (cfRow_succ l k j)
            have HD3 := Lib.hid (hD2.out.kept hal)
            have HLA : Hid (∀ W, Up (wi.alloc (.cells #[.int .i64 (gg l j).un, .int .i64 (gg l j).st, .slice rq2 (gg l j).src.length rc2] 32)) W → Calls Try.prog 17 #[.slice rq sa.length rc, .slice rq2 (gg l j).src.length rc2] W fun e w' => e = .returned (.bool (lacksB sa (gg l j).src)) ∧ Up W w') :=
              fun W hu => pairs1_t Any Any W _ _ sa (gg l j).src (IntsAt.keep HRA.out (hu.kept _)) (IntsAt.keep HRB.out (hu.kept _)) hsl hsm
            have HLB : Hid (∀ W, Up (wi.alloc (.cells #[.int .i64 (gg l j).un, .int .i64 (gg l j).st, .slice rq2 (gg l j).src.length rc2] 32)) W → Calls Try.prog 17 #[.slice rq2 (gg l j).src.length rc2, .slice rq sa.length rc] W fun e w' => e = .returned (.bool (lacksB (gg l j).src sa)) ∧ Up W w') :=
              fun W hu => pairs1_t Any Any W _ _ (gg l j).src sa (IntsAt.keep HRB.out (hu.kept _)) (IntsAt.keep HRA.out (hu.kept _)) hsm hsl
            have HCO : Hid (∀ W, Up (wi.alloc (.cells #[.int .i64 (gg l j).un, .int .i64 (gg l j).st, .slice rq2 (gg l j).src.length rc2] 32)) W → Calls Try.prog 18 #[.slice rq sa.length rc, .func (.func 20) #[] #[.pointer (some ⟨wi.heap.size, 0, none⟩)]] W fun e w' => e = .returned (.bool (commonB sa (gg l j).src)) ∧ W = w') :=
              fun W hu => common_t Any Any W _ _ sa (gg l j).src wi.heap.size (IntsAt.keep HRA.out (hu.kept _)) (hu.cell HB3.out) (IntsAt.keep HRB.out (hu.kept _)) hsl hsm
            have HGL := Lib.hid hgl
            clear hri2 hal hgl
            generalize (gg l j).un = un2 at *
            generalize (gg l j).st = sx2 at *
            generalize (gg l j).src = sb at *
            generalize lacksB sa sb = la at *
            generalize lacksB sb sa = lb at *
            generalize commonB sa sb = co at *
            go_wp2_with fail
            have hsz4 : wo.heap.size < (wi.alloc (.cells #[.int .i64 un2, .int .i64 sx2, .slice rq2 sb.length rc2] 32)).heap.size := by rw [World.size_alloc]; have := HGL.out; omega
            have HSZ4 := Lib.hid hsz4
            clear hsz4
            generalize wi.alloc (.cells #[.int .i64 un2, .int .i64 sx2, .slice rq2 sb.length rc2] 32) = w4 at *
            refine (HLA.out w4 (Up.refl _)).mono ?_
            rintro e w5 ⟨rfl, hu5⟩
            have hb2 := hu5.cell hb2
            have hb3 := hu5.cell hb3
            have HU5 := Lib.hid hu5
            clear hu5
            cases la
            · have HN : Hid (RowsOwn w2.heap.size 23 w5 d1 (cfK l k ++ cfRow l k (j + 1))) := by
                unfold Hid; rw [HRS.out, if_neg (by rw [HCE.out]; simp), List.append_nil]; exact HD3.out.kept HU5.out
              go_wp2_with fail
              go_roundw
              case rel => exact ⟨j + 1, by omega, by omega, by go_num, HN, HUB.out.trans HU5.out, (Below.block HU5.out _ HSZ4.out).trans HGB2.out⟩
              case measure => simp [intOf]; omega
            · have HLB5 := Lib.hid (HLB.out w5 HU5.out)
              go_wp2_with fail
              refine HLB5.out.mono ?_
              rintro e w6 ⟨rfl, hu6⟩
              have hb2 := hu6.cell hb2
              have hb3 := hu6.cell hb3
              have HU6 := Lib.hid (HU5.out.trans hu6)
              clear hu6
              cases lb
              · have HN : Hid (RowsOwn w2.heap.size 23 w6 d1 (cfK l k ++ cfRow l k (j + 1))) := by
                  unfold Hid; rw [HRS.out, if_neg (by rw [HCE.out]; simp), List.append_nil]; exact HD3.out.kept HU6.out
                go_wp2_with fail
                go_roundw
                case rel => exact ⟨j + 1, by omega, by omega, by go_num, HN, HUB.out.trans HU6.out, (Below.block HU6.out _ HSZ4.out).trans HGB2.out⟩
                case measure => simp [intOf]; omega
              · have HCO6 := Lib.hid (HCO.out w6 HU6.out)
                go_wp2_with fail
                refine HCO6.out.mono ?_
                rintro e w' ⟨rfl, rfl⟩
                cases co
                · have HN : Hid (RowsOwn w2.heap.size 23 w6 d1 (cfK l k ++ cfRow l k (j + 1))) := by
                    unfold Hid; rw [HRS.out, if_neg (by rw [HCE.out]; simp), List.append_nil]; exact HD3.out.kept HU6.out
                  go_wp2_with fail
                  go_roundw
                  case rel => exact ⟨j + 1, by omega, by omega, by go_num, HN, HUB.out.trans HU6.out, (Below.block HU6.out _ HSZ4.out).trans HGB2.out⟩
                  case measure => simp [intOf]; omega
                · have HUA7 : Hid (Up w6 (w6.alloc (.cells #[.int .i64 k, .int .i64 j] 3))) := Up.alloc _ _
                  have HRD := Lib.hid (HD3.out.kept (HU6.out.trans HUA7.out))
                  have HPA : Hid (IntsAt (fun b => some b ≠ d1.ownBlock) (w6.alloc (.cells #[.int .i64 k, .int .i64 j] 3)) (.slice (some ⟨w6.heap.size, 0, none⟩) 2 2) [(k : Int), (j : Int)]) :=
                    pair_at _ _ _ _ fun e => by have := (HD3.out.kept HU6.out).lt e.symm; exact absurd this.2 (Nat.lt_irrefl _)
                  have HLE : (cfK l k ++ cfRow l k j).length ≤ 1000000 := by
                    have h1 := cfK_len l k
                    have h2 := cfRow_len l k j
                    have h3 : k * l.length ≤ 12 * 12 := Nat.mul_le_mul (by omega) hl
                    rw [List.length_append]; omega
                  have HUW := Lib.hid ((HUB.out.trans HU6.out).trans HUA7.out)
                  have HWZ : w2.heap.size ≤ (w6.alloc (.cells #[.int .i64 k, .int .i64 j] 3)).heap.size := HUW.out.size
                  have HSN : Hid (cfK l k ++ cfRow l k (j + 1) = (cfK l k ++ cfRow l k j) ++ [[(k : Int), (j : Int)]]) := by
                    unfold Hid; rw [HRS.out, if_pos ⟨by omega, by rw [HCE.out]; rfl⟩, List.append_assoc]
                  have HSZ : (w6.alloc (.cells #[.int .i64 k, .int .i64 j] 3)).heap.size = w6.heap.size + 1 := World.size_alloc _ _
                  have hgw := (Below.block (HU6.out.trans HUA7.out) _ HSZ4.out).trans HGB2.out
                  have hgw2 : wo.heap.size < (w6.alloc (.cells #[.int .i64 k, .int .i64 j] 3)).heap.size := (Array.getElem?_eq_some_iff.1 hgw).1
                  have HBW : Hid (∀ w8, Below w2.heap.size (w6.alloc (.cells #[.int .i64 k, .int .i64 j] 3)) w8 → (w6.alloc (.cells #[.int .i64 k, .int .i64 j] 3)).grownBy w8 d1.ownBlock → Up w2 w8 ∧ w8.heap[wo.heap.size]? = some (Obj.cells #[.int .i64 un, .int .i64 sx, .slice rq sa.length rc] 32 (0, 0))) := fun w8 hb hg =>
                    ⟨Below.trans HUW.out hb, (hg.block _ hgw2 (grp_apart HRD.out hgw)).trans hgw⟩
                  clear hgw hgw2
                  generalize cfK l k ++ cfRow l k j = L0 at *
                  go_wp2_with (at_builtin; refine wpList_appRowM (w6.alloc (.cells #[.int .i64 k, .int .i64 j] 3)) rfl _ _ 22 rfl w2.heap.size 23 _ 24 Try.underlying22 Try.infoSI3 rfl (by decide) HRD.out rfl _ [(k : Int), (j : Int)] _ HSZ rfl HPA.out rfl _ rfl HLE HWZ ?_; intro g8 cap8 w8 hown1 hgr1 hbe1)
                  go_roundw
                  case rel => exact ⟨j + 1, by omega, by omega, by go_num, by unfold Hid; rw [HSN.out]; exact hown1, HBW.out w8 hbe1 hgr1⟩
                  case measure => simp [intOf]; omega
          · obtain rfl : j = l.length := by omega
            have HDN : Hid (RowsOwn w2.heap.size 23 wi d1 (cfK l (k + 1))) := by unfold Hid; rw [HS.out]; exact hD2.out
            have HUN := Lib.hid hU2.out.1
            clear hjt hj
            go_wp2_with fail
            go_roundw
            case rel => exact ⟨k + 1, by omega, by go_num, HDN, HUN⟩
            case measure => simp [intOf]; omega
      · obtain rfl : k = l.length := by omega
        have hcl := cfK_len l l.length
        have hcl2 : l.length * l.length ≤ 12 * 12 := Nat.mul_le_mul hl hl
        have hrl : ∀ k', (gl (cfK l l.length) k').length ≤ 1000000 := fun k' => by
          by_cases hk' : k' < (cfK l l.length).length
          · have hm : gl (cfK l l.length) k' ∈ cfK l l.length := by
              have : gl (cfK l l.length) k' = (cfK l l.length)[k'] := by simp [gl, hk']
              rw [this]; exact List.getElem_mem hk'
            obtain ⟨i, _, hm⟩ := List.mem_flatMap.1 hm
            obtain ⟨j, _, e⟩ := List.mem_map.1 hm
            rw [← e]; show 2 ≤ 1000000; decide
          · have : gl (cfK l l.length) k' = [] := by simp [gl, show (cfK l l.length).length ≤ k' by omega]
            rw [this]; decide
        have HST := Lib.hid (sameTable_t Any Any wo _ _ (cfK l l.length) (cfK l l.length) (HCR.out.keep (hUr.out.kept _)) hD.out.rows (by omega) (by omega) hrl hrl)
        have HUE := Lib.hid (HU2.out.trans hUr.out)
        clear hlt hk hcl hcl2 hrl hD hUr
        go_wp2_with fail
        refine HST.out.mono ?_
        rintro e w7 ⟨rfl, n7, rfl⟩
        have HUF := Lib.hid (HUE.out.trans (Up.drewN wo n7))
        simp only [decide_true]
        go_wp2_with (first | (go_at_call 12; refine (HAW.out _).mono ?_; rintro e w' ⟨rfl, hu⟩) | fail)
        go_ret
        exact ⟨rfl, HUF.out.trans hu⟩
end Go.Proofs.Ytkfndaebmbnmaaa
