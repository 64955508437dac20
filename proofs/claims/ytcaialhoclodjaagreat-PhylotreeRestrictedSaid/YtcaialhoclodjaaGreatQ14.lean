/- The contract of slices.DeleteFunc at nodes. phylotree.contracted: what it does to the forest. Rose trees of the reference's nodes, as they lie in memory; a node whose list of children grows. The contract of layer 31's reference's least. Rose trees appended to a tree that is numbered depth first. -/
import Derived.Test.YtcaialhoclodjaaGreatQ13
import Derived.Test.YtcaialhoclodjaaGreatQ12
namespace Go.Proofs.YtcaialhoclodjaaGreat
open Go.RowKit Go.Deep
def keepF (P : Nat → Bool) (ks : List Nat) (j : Nat) : List Nat := (ks.take j).filter fun k => !P k
theorem keepF_len (P : Nat → Bool) (ks : List Nat) (j : Nat) : (keepF P ks j).length ≤ j := by
  unfold keepF
  refine Nat.le_trans (List.length_filter_le _ _) ?_
  rw [List.length_take]; omega
theorem keepF_succ (P : Nat → Bool) {ks : List Nat} {j : Nat} (hj : j < ks.length) : keepF P ks (j + 1) = if P (ks.getD j 0) then keepF P ks j else keepF P ks j ++ [ks.getD j 0] := by
  unfold keepF
  have hg : ks.getD j 0 = ks[j] := by rw [List.getD_eq_getElem?_getD, List.getElem?_eq_getElem hj]; rfl
  rw [List.take_succ_eq_append_getElem hj, List.filter_append, hg]
  cases h : P ks[j]
  · rw [if_neg (by decide), List.filter_cons_of_pos (by rw [h]; rfl)]; rfl
  · rw [if_pos rfl, List.filter_cons_of_neg (by rw [h]; decide)]; simp
/-- Behind element j of the row of block g: what stays lies ahead, the rest is as it was. -/
structure DfW (A : Nat → Nat) (P : Nat → Bool) (base : Nat) (w wr : World) (g cap : Nat) (ks : List Nat) (j : Nat) (X : List Value) : Prop where
  own : Owns base 59 wr (.slice (some ⟨g, 0, none⟩) ks.length cap) X
  len : X.length = ks.length
  head : X.take (keepF P ks j).length = (keepF P ks j).map (nptr A)
  rest : ∀ q, j ≤ q → X[q]? = (ks.map (nptr A))[q]?
  up : w.grownBy wr (some g)
section
variable {A : Nat → Nat} {P : Nat → Bool} {base : Nat} {w wr : World} {g cap : Nat} {ks : List Nat} {X : List Value}
theorem DfW.start (h : Owns base 59 w (.slice (some ⟨g, 0, none⟩) ks.length cap) (ks.map (nptr A))) {j : Nat} (hj : j < ks.length) (hno : ∀ i, i < j → P (ks.getD i 0) = false) (hP : P (ks.getD j 0) = true) (m : Nat) :
    DfW A P base w (w.drewN m) g cap ks (j + 1) (ks.map (nptr A)) ∧ (keepF P ks (j + 1)).length = j := by
  have hk : ∀ i, i ≤ j → keepF P ks i = ks.take i := by
    intro i
    induction i with
    | zero => intro _; rfl
    | succ i ih =>
      intro hi
      rw [keepF_succ P (show i < ks.length by omega), hno i (by omega), if_neg (by decide), ih (by omega), List.take_succ_eq_append_getElem (show i < ks.length by omega)]
      congr 2
      rw [List.getD_eq_getElem?_getD, List.getElem?_eq_getElem (show i < ks.length by omega)]; rfl
  have e : keepF P ks (j + 1) = ks.take j := by rw [keepF_succ P hj, hP, if_pos rfl, hk j (Nat.le_refl _)]
  have hl : (ks.take j).length = j := by rw [List.length_take]; omega
  refine ⟨⟨h.same2 fun _ _ => rfl, List.length_map _, ?_, fun _ _ => rfl, grown_up (Up.drewN w m) _⟩, by rw [e, hl]⟩
  rw [e, hl, List.map_take]
theorem DfW.skip {j : Nat} (h : DfW A P base w wr g cap ks j X) (hj : j < ks.length) (hP : P (ks.getD j 0) = true) (m : Nat) : DfW A P base w (wr.drewN m) g cap ks (j + 1) X :=
  ⟨h.own.same2 fun _ _ => rfl, h.len, by rw [keepF_succ P hj, if_pos hP]; exact h.head, fun q hq => h.rest q (by omega), grown_trans h.up (grown_up (Up.drewN wr m) _)⟩
theorem DfW.up_drew {j : Nat} (h : DfW A P base w wr g cap ks j X) (m : Nat) : DfW A P base w (wr.drewN m) g cap ks j X :=
  ⟨h.own.same2 fun _ _ => rfl, h.len, h.head, h.rest, grown_trans h.up (grown_up (Up.drewN wr m) _)⟩
theorem DfW.at {j : Nat} (h : DfW A P base w wr g cap ks j X) (hj : j < ks.length) : wr.cell? ⟨g, j, none⟩ = some (.pointer (some ⟨A (ks.getD j 0), 0, none⟩)) := by
  have hke : ks[j]? = some (ks.getD j 0) := by rw [List.getD_eq_getElem?_getD, List.getElem?_eq_getElem hj]; rfl
  exact (owns_cell h.own (j := j) (u := nptr A (ks.getD j 0)) (by rw [h.rest j (Nat.le_refl _), List.getElem?_map, hke]; rfl)).1
theorem DfW.push {j : Nat} (h : DfW A P base w wr g cap ks j X) (hj : j < ks.length) (hP : P (ks.getD j 0) = false) :
    (∃ x, wr.cell? ⟨g, (keepF P ks j).length, none⟩ = some x) ∧ wr.frozen? ⟨g, (keepF P ks j).length, none⟩ = false ∧ (keepF P ks (j + 1)).length = (keepF P ks j).length + 1 ∧
      ∃ X', DfW A P base w (wr.setCell ⟨g, (keepF P ks j).length, none⟩ (.pointer (some ⟨A (ks.getD j 0), 0, none⟩))) g cap ks (j + 1) X' := by
  have hle := keepF_len P ks j
  obtain ⟨g2, cap2, e1, _, _, hc, hf, hs⟩ := h.own.set (j := (keepF P ks j).length) (by rw [h.len]; omega)
  injection e1 with a1 a2 a3
  injection a1 with a1
  injection a1 with a1
  subst a1
  have hk := keepF_succ P hj
  rw [if_neg (by rw [hP]; decide)] at hk
  have hl : (keepF P ks (j + 1)).length = (keepF P ks j).length + 1 := by rw [hk, List.length_append]; rfl
  refine ⟨⟨_, hc⟩, hf, hl, X.set (keepF P ks j).length (nptr A (ks.getD j 0)), hs _, by rw [List.length_set]; exact h.len, ?_, fun q hq => ?_, grown_trans h.up grown_set⟩
  · rw [hl, hk, List.map_append, ← h.head]
    have hlt : (keepF P ks j).length < (X.set (keepF P ks j).length (nptr A (ks.getD j 0))).length := by rw [List.length_set, h.len]; omega
    rw [List.take_succ_eq_append_getElem hlt, List.take_set_of_le (Nat.le_refl _), List.getElem_set_self]; rfl
  · rw [List.getElem?_set_ne (by omega)]; exact h.rest q (by omega)
/-- The rest is cleared, the slice is cut. -/
theorem DfW.done {m : Nat} (h : DfW A P base w wr g cap ks ks.length X) (hm : (keepF P ks ks.length).length = m) (hlt : m < ks.length) :
    (∀ i, i < ks.length - m → (wr.cell? ⟨g, m + i, none⟩).isSome = true) ∧ (∀ i, i < ks.length - m → wr.frozen? ⟨g, m + i, none⟩ = false) ∧
      Owns base 59 (wr.setCells g m (List.replicate (ks.length - m) (.pointer none))) (.slice (some ⟨g, 0, none⟩) m cap) ((ks.filter fun k => !P k).map (nptr A)) ∧
      w.grownBy (wr.setCells g m (List.replicate (ks.length - m) (.pointer none))) (some g) := by
  have hall : keepF P ks ks.length = ks.filter fun k => !P k := by unfold keepF; rw [List.take_length]
  have hcell : ∀ i, i < ks.length - m → wr.cell? ⟨g, m + i, none⟩ = some (X.getD (m + i) undef) ∧ wr.frozen? ⟨g, m + i, none⟩ = false := fun i hi => by
    have hl : m + i < X.length := by rw [h.len]; omega
    exact owns_cell h.own (by rw [List.getD_eq_getElem?_getD, List.getElem?_eq_getElem hl]; rfl)
  refine ⟨fun i hi => by rw [(hcell i hi).1]; rfl, fun i hi => (hcell i hi).2, ?_, grown_trans h.up (grown_sets _ _ _)⟩
  refine owns_tails _ _ _ (Nat.le_refl _) ?_
  have := owns_take h.own (m := m) (by omega)
  rw [← hm, h.head] at this
  rw [← hm, ← hall]; exact this
end
theorem Tryz.zeroNd : ∀ w, (zeroValue 59).run Tryz.prog w = .ok (.pointer none) w := fun w => by simp [Tryz.zeroValue59]
theorem owns_cap {base : Nat} {e : TypeId} {w : World} {g n cap : Nat} {xs : List Value} (h : Owns base e w (.slice (some ⟨g, 0, none⟩) n cap) xs) : n ≤ cap := by
  obtain ⟨h1, h2⟩ := h
  rcases h2 with ⟨e1, _⟩ | ⟨g2, cap2, cur, e1, hg, hc, hn, _⟩
  · cases e1
  · injection e1 with a1 a2 a3
    omega
theorem qd_trans {w w' w'' : World} (h : QD w w') (k : QD w' w'') : QD w w'' := by
  obtain ⟨n, rfl⟩ := h
  obtain ⟨m, rfl⟩ := k
  exact (QD.refl w).drewN n |>.drewN m
theorem first_or (p : Nat → Bool) : ∀ n, (∀ j, j < n → p j = false) ∨ ∃ j, j < n ∧ p j = true ∧ ∀ i, i < j → p i = false
  | 0 => .inl fun j hj => absurd hj (Nat.not_lt_zero _)
  | n + 1 => by
    rcases first_or p n with h | ⟨j, h1, h2, h3⟩
    · cases hp : p n
      · exact .inl fun j hj => if e : j = n then by subst e; exact hp else h j (by omega)
      · exact .inr ⟨n, by omega, hp, h⟩
    · exact .inr ⟨j, by omega, h2, h3⟩
set_option maxRecDepth 100000 in
set_option maxHeartbeats 2000000 in
theorem delete_node_t {A : Nat → Nat} {P : Nat → Bool} (g : Nat) (lb : Array Value) (eg : ∀ args w, (callFunc g args).run Tryz.prog w = .ok (.enter g args) w) {base : Nat} {w : World} {bk cap : Nat} {ks : List Nat} (h : Owns base 59 w (.slice (some ⟨bk, 0, none⟩) ks.length cap) (ks.map (nptr A))) (hn : ks.length ≤ 1000000)
    (hp : ∀ k ∈ ks, ∀ W, w.grownBy W (some bk) → Calls Tryz.prog g (#[.pointer (some ⟨A k, 0, none⟩)] ++ lb) W fun e W' => e = .returned (.bool (P k)) ∧ ∃ m, W' = W.drewN m) :
    Calls Tryz.prog 38 #[.slice (some ⟨bk, 0, none⟩) ks.length cap, .func (.func g) #[] lb] w fun e w' => ∃ m, e = .returned (.slice (some ⟨bk, 0, none⟩) m cap) ∧ Owns base 59 w' (.slice (some ⟨bk, 0, none⟩) m cap) ((ks.filter fun k => !P k).map (nptr A)) ∧ w.grownBy w' (some bk) := by
  have HIX := Lib.hid (index_node_t (P := P) g lb eg h hn fun k hk q => (hp k hk (w.drewN q) (grown_up (Up.drewN w q) _)).mono fun _ _ h => ⟨h.1, qd_trans ⟨q, rfl⟩ h.2⟩)
  have HO := Lib.hid h
  have HP := Lib.hid hp
  obtain ⟨cap0, hcap⟩ : ∃ c, c = cap := ⟨_, rfl⟩
  clear h hp
  rcases first_or (fun j => P (ks.getD j 0)) ks.length with hno | ⟨j0, hj0, hP0, hno⟩
  · have hall : ks.filter (fun k => !P k) = ks := by
      rw [List.filter_eq_self]
      intro k hk
      obtain ⟨j, hj, e⟩ := List.getElem_of_mem hk
      have := hno j hj
      rw [show ks.getD j 0 = k by rw [List.getD_eq_getElem?_getD, List.getElem?_eq_getElem hj, e]; rfl] at this
      rw [this]; rfl
    rw [firstIx_none hno] at HIX
    have HA := Lib.hid hall
    clear hno hall hcap
    go_enter Tryz.func38, Tryz.ntmps38
    go_wp2_with fail
    refine HIX.out.mono ?_
    rintro e w1 ⟨rfl, m, rfl⟩
    go_wp2_with fail
    go_ret
    exact ⟨ks.length, rfl, by rw [HA.out]; exact HO.out.same2 fun _ _ => rfl, grown_up (Up.drewN w m) _⟩
  · rw [firstIx_at hj0 hno hP0] at HIX
    have HST := Lib.hid (fun m => (HO.out |> fun h => DfW.start h hj0 hno hP0 m))
    have hjn : (j0 : Int) < (ks.length : Int) := by omega
    have HJ0 := Lib.hid hj0
    have e1 : ((j0 : Int) == -1) = false := beq_eq_false_iff_ne.2 (by omega)
    clear hno hP0 hj0 hcap
    go_enter Tryz.func38, Tryz.ntmps38
    go_wp2_with fail
    refine HIX.out.mono ?_
    rintro e w1 ⟨rfl, m1, rfl⟩
    obtain ⟨hS1, hS2⟩ := HST.out m1
    have HS1 := Lib.hid hS1
    have HS2 := Lib.hid hS2
    clear hS1 hS2 HST
    go_wp2_with fail
    go_loopw [5, 6, 7] (fun x y _ wr => ∃ j : Nat, j0 < j ∧ j ≤ ks.length ∧ y = .int .i64 j ∧ x = .int .i64 ((keepF P ks j).length : Nat) ∧ Hid (∃ X, DfW A P base w wr bk cap ks j X) ∧ Hid ((keepF P ks j).length < j)) (fun _ y _ _ => ks.length - (intOf y).toNat)
    case atStart => exact ⟨j0 + 1, by omega, HJ0.out, by go_num, by rw [HS2.out], ⟨_, HS1.out⟩, by unfold Hid; rw [HS2.out]; omega⟩
    case round =>
      obtain ⟨j, hj1, hj, rfl, rfl, hX, hK⟩ := hrel
      obtain ⟨wo, rfl⟩ : ∃ wo : World, wo = wr := ⟨_, rfl⟩
      obtain ⟨X, hX⟩ := hX.out
      by_cases hlt : j < ks.length
      · have hx := hX.at hlt
        have i1 : (0 : Int) ≤ (j : Int) := by omega
        have i2 : (j : Int) < (ks.length : Int) := by omega
        have hmem : ks.getD j 0 ∈ ks := by
          rw [List.getD_eq_getElem?_getD, List.getElem?_eq_getElem hlt]; exact List.getElem_mem hlt
        have HPK := Lib.hid (HP.out _ hmem wo hX.up)
        have HLT := Lib.hid hlt
        have HXX := Lib.hid hX
        have HJ1 := Lib.hid hj1
        have n1 : (0 : Int) ≤ ((keepF P ks j).length : Int) := by omega
        have n2 : ((keepF P ks j).length : Int) < (ks.length : Int) := by have := hK.out; omega
        have HSK : Hid (P (ks.getD j 0) = true → (keepF P ks (j + 1)).length = (keepF P ks j).length) := fun hv => by rw [keepF_succ P hlt, if_pos hv]
        clear hmem hX
        cases hv : P (ks.getD j 0)
        · rw [hv] at HPK
          have HPU := Lib.hid (fun m => (HXX.out.up_drew m).push hlt hv)
          clear hv HSK
          generalize ks.getD j 0 = c at *
          go_wp2_with fail
          refine HPK.out.mono ?_
          rintro e w2 ⟨rfl, m, rfl⟩
          obtain ⟨⟨cx, hcx⟩, hff, hl, X', hX'⟩ := HPU.out m
          have HX' := Lib.hid hX'
          have HL := Lib.hid hl
          clear hX' hl
          go_wp2_with fail
          go_roundw
          case rel => exact ⟨j + 1, by have := HJ1.out; omega, HLT.out, by go_num, by rw [HL.out]; go_num, ⟨X', HX'.out⟩, by unfold Hid; have := hK.out; rw [HL.out]; omega⟩
          case measure => have := HLT.out; simp [intOf]; omega
        · rw [hv] at HPK
          have HN := Lib.hid (fun m => HXX.out.skip hlt hv m)
          have HL := Lib.hid (HSK.out hv)
          clear hv HSK
          generalize ks.getD j 0 = c at *
          go_wp2_with fail
          refine HPK.out.mono ?_
          rintro e w2 ⟨rfl, m, rfl⟩
          go_wp2_with fail
          go_roundw
          case rel => exact ⟨j + 1, by have := HJ1.out; omega, HLT.out, by go_num, by rw [HL.out], ⟨X, HN.out m⟩, by unfold Hid; have := hK.out; rw [HL.out]; omega⟩
          case measure => have := HLT.out; simp [intOf]; omega
      · obtain rfl : j = ks.length := by omega
        obtain ⟨mm, hmm⟩ : ∃ mm, (keepF P ks ks.length).length = mm := ⟨_, rfl⟩
        have hml : mm < ks.length := by rw [← hmm]; exact hK.out
        obtain ⟨hc, hf, ho, hg⟩ := hX.done hmm hml
        have HO2 := Lib.hid ho
        have HG2 := Lib.hid hg
        have hcl := Lib.run_clear_slice (P := Tryz.prog) wo 57 59 0 (.pointer none) Tryz.underlying57 Tryz.zeroNd rfl rfl bk mm (ks.length - mm) (cap - mm) (by omega) hc hf
        rw [hmm]
        have n1 : (0 : Int) ≤ (mm : Int) := by omega
        have n2 : (mm : Int) ≤ (ks.length : Int) := by omega
        have n3 : (mm : Int) < (ks.length : Int) := by omega
        clear hc hf ho hg hlt hj hX hK hmm
        have c1 : ks.length ≤ cap := owns_cap HO.out
        have c2 : mm ≤ cap := by omega
        have c3 : (mm : Int) ≤ (cap : Int) := by omega
        go_wp2_with fail
        go_ret
        exact ⟨mm, rfl, HO2.out, HG2.out⟩
end Go.Proofs.YtcaialhoclodjaaGreat
namespace Go.Proofs.YtcaialhoclodjaaGreat
open Go.RowKit Go.Deep
section
variable {n base : Nat} {A : Nat → Nat} {kv : Nat → Value} {F : Frs} {w w' w2 : World} {rk : Nat → Nat}
def ctQ (F : Frs) (rk : Nat → Nat) (z : Nat) : List Nat := if (F.kids z).length = 1 then F.kids z else (F.kids z).map (cr F rk)
/-- Behind the first k children of y. -/
def ctU (F : Frs) (rk : Nat → Nat) (y k : Nat) : Frs := ⟨F.nm, F.old, fun z => if z = y then ((F.kids y).take k).map (cr F rk) ++ (F.kids y).drop k else (F.upto rk (ctQ F rk) (F.kids y) k).kids z⟩
def CtPost (base n : Nat) (A : Nat → Nat) (kv : Nat → Value) (F : Frs) (rk : Nat → Nat) (i : Nat) (w : World) (e : Ending) (w' : World) : Prop :=
  e = .returned (.pointer (some ⟨A (cr F rk i), 0, none⟩)) ∧ FAt base n A kv (F.sub rk (ctQ F rk) i) w' ∧ FUp n A kv w w'
theorem ct_chain (h : Wf F n rk) {y k : Nat} (hy : y < n) (hk : F.kids y = [k]) (z : Nat) : (F.sub rk (ctQ F rk) k).kids z = (F.sub rk (ctQ F rk) y).kids z := by
  show (if _ then _ else _) = if _ then _ else _
  by_cases e : z = y
  · subst e
    rw [subF_not h hy (by rw [hk]; simp), subF_self h hy, if_neg (by simp), if_pos rfl]
    unfold ctQ; rw [if_pos (by rw [hk]; rfl)]
  · rw [subF_eq h hy, hk, show (z == y) = false from beq_eq_false_iff_ne.2 e]
    simp
theorem ctU_zero (y z : Nat) : (ctU F rk y 0).kids z = F.kids z := by
  show (if _ then _ else _) = _
  split
  · rename_i e; subst e; simp
  · exact upto_zero _ _ _
theorem ctU_own (y k : Nat) : (ctU F rk y k).kids y = ((F.kids y).take k).map (cr F rk) ++ (F.kids y).drop k := by
  show (if _ then _ else _) = _
  rw [if_pos rfl]
theorem ctU_len (y k : Nat) : ((ctU F rk y k).kids y).length = (F.kids y).length := by
  rw [ctU_own, List.length_append, List.length_map, List.length_take, List.length_drop]; omega
theorem ctU_at {y k c : Nat} (hc : (F.kids y)[k]? = some c) : ((ctU F rk y k).kids y)[k]? = some c := by
  obtain ⟨hk, e⟩ := List.getElem?_eq_some_iff.1 hc
  rw [ctU_own, List.getElem?_append_right (by rw [List.length_map, List.length_take]; omega), List.length_map, List.length_take, List.getElem?_drop, show k + (k - min k (F.kids y).length) = k by omega]
  exact hc
theorem ctU_wf (h : Wf F n rk) {y : Nat} (hy : y < n) (k : Nat) : Wf (ctU F rk y k) n rk := ⟨fun i hi j hj => by
  have key : ∀ z, z < n → ∀ c ∈ F.kids z, cr F rk c < n ∧ rk (cr F rk c) < rk z := fun z hz c hc => by
    obtain ⟨h1, h2⟩ := h.kid z hz c hc
    obtain ⟨a, b, _⟩ := cr_ok h h1 (Nat.le_refl _)
    exact ⟨a, by omega⟩
  by_cases e : i = y
  · subst e
    rw [ctU_own, List.mem_append] at hj
    rcases hj with hj | hj
    · obtain ⟨c, hc, rfl⟩ := List.mem_map.1 hj
      exact key i hi c (List.mem_of_mem_take hc)
    · exact h.kid i hi j (List.mem_of_mem_drop hj)
  · have hj : j ∈ if i = y then _ else (F.upto rk (ctQ F rk) (F.kids y) k).kids i := hj
    rw [if_neg e] at hj
    have hj : j ∈ if _ then _ else _ := hj
    split at hj
    · unfold ctQ at hj
      split at hj
      · exact h.kid i hi j hj
      · obtain ⟨c, hc, rfl⟩ := List.mem_map.1 hj
        exact key i hi c hc
    · exact h.kid i hi j hj⟩
theorem ctU_fresh (h : Wf F n rk) {y k c : Nat} (hy : y < n) (hD : Dis F n rk y) (hc : (F.kids y)[k]? = some c) : ∀ z, subF F rk c z = true → (ctU F rk y k).kids z = F.kids z := fun z hs => by
  have hck := List.mem_of_getElem? hc
  have hne : z ≠ y := fun e => by subst e; rw [subF_not h hy hck] at hs; cases hs
  show (if _ then _ else _) = _
  rw [if_neg hne]
  exact upto_fresh h hy hD hc z hs
theorem ctU_small (hl : ∀ z, z < n → (F.kids z).length ≤ 1000) {y : Nat} (hy : y < n) (k z : Nat) (hz : z < n) : ((ctU F rk y k).kids z).length ≤ 1000 := by
  by_cases e : z = y
  · subst e; rw [ctU_len]; exact hl z hz
  · show (if z = y then _ else (F.upto rk (ctQ F rk) (F.kids y) k).kids z).length ≤ _
    rw [if_neg e]
    show (if _ then _ else _ : List Nat).length ≤ _
    split
    · unfold ctQ; split
      · exact hl z hz
      · rw [List.length_map]; exact hl z hz
    · exact hl z hz
theorem ctU_all (h : Wf F n rk) {y : Nat} (hy : y < n) (h1 : (F.kids y).length ≠ 1) (z : Nat) : (ctU F rk y (F.kids y).length).kids z = (F.sub rk (ctQ F rk) y).kids z := by
  by_cases e : z = y
  · subst e
    rw [ctU_own, List.take_length, List.drop_length, List.append_nil]
    show _ = if _ then _ else _
    rw [if_pos (subF_self h hy)]
    unfold ctQ; rw [if_neg h1]
  · show (if _ then _ else _) = _
    rw [if_neg e]
    exact upto_all h hy e
/-- One child in a list is replaced by another. -/
theorem FAt.setKid (h : FAt base n A kv F w) {y k c g m cap : Nat} (hy : y < n) (hv : kv y = .slice (some ⟨g, 0, none⟩) m cap) (hk : k < (F.kids y).length) (hc : c < n) :
    w.frozen? ⟨g, k, none⟩ = false ∧ (∃ x, w.cell? ⟨g, k, none⟩ = some x) ∧ FAt base n A kv { F with kids := upd F.kids y ((F.kids y).set k c) } (w.setCell ⟨g, k, none⟩ (nptr A c)) ∧ FUp n A kv w (w.setCell ⟨g, k, none⟩ (nptr A c)) := by
  obtain ⟨g2, cap2, e, hg, hgl, hcl, hfz, hset⟩ := (h.own y hy).set (j := k) (by simpa using hk)
  rw [hv] at e
  injection e with e1 e2 e3
  injection e1 with e1
  injection e1 with e1
  subst e1
  have hgy : (kv y).ownBlock = some g := by rw [hv]; rfl
  have hset := hset (nptr A c)
  rw [show ((F.kids y).map (nptr A)).set k (nptr A c) = ((F.kids y).set k c).map (nptr A) by rw [List.map_set]] at hset
  refine ⟨hfz, ⟨_, hcl⟩, ⟨fun i hi => ?_, h.lo, h.inj, fun i hi => ?_, h.apart, h.alone, fun i hi => ?_⟩, ?_⟩
  · rw [blk_setCell_other _ _ _ _ (fun e2 => h.apart y i hy hi (by rw [hgy, e2]))]; exact h.node i hi
  · by_cases e : i = y
    · subst e; simp only [upd_same]; exact hset
    · simp only [upd_ne _ _ e]; exact (h.own i hi).same fun b hb => blk_setCell_other _ _ _ _ (fun e2 => e (h.alone i y b hi hy hb (by rw [hgy, e2])))
  · by_cases e : i = y
    · subst e; simp only [upd_same]
      intro j hj
      rcases List.mem_or_eq_of_mem_set hj with h1 | h1
      · exact h.kid i hi j h1
      · rw [h1]; exact hc
    · simp only [upd_ne _ _ e]; exact h.kid i hi
  · exact ⟨rfl, rfl, rfl, by rw [World.size_setCell]; exact Nat.le_refl _, fun b hb _ hb2 => blk_setCell_other _ _ _ _ (fun e2 => hb2 y hy (by rw [hgy, e2]))⟩
/-- The next child is done, and put into its place. -/
theorem ct_step (hw : Wf F n rk) {y k c g m cap : Nat} (hy : y < n) (hD : Dis F n rk y) (hc : (F.kids y)[k]? = some c) (hv : kv y = .slice (some ⟨g, 0, none⟩) m cap)
    (h : FAt base n A kv ((ctU F rk y k).sub rk (ctQ (ctU F rk y k) rk) c) w2) :
    w2.cell? ⟨A y, 1, none⟩ = some (.slice (some ⟨g, 0, none⟩) m cap) ∧ w2.frozen? ⟨g, k, none⟩ = false ∧ (∃ x, w2.cell? ⟨g, k, none⟩ = some x) ∧ FAt base n A kv (ctU F rk y (k + 1)) (w2.setCell ⟨g, k, none⟩ (.pointer (some ⟨A (cr F rk c), 0, none⟩))) ∧ FUp n A kv w2 (w2.setCell ⟨g, k, none⟩ (.pointer (some ⟨A (cr F rk c), 0, none⟩))) := by
  have hck := List.mem_of_getElem? hc
  have hcn := (hw.kid y hy c hck).1
  have hG := ctU_wf hw hy k
  have hz := ctU_fresh hw hy hD hc
  have hsub := sub_cong hw hG hcn (Nat.le_refl _) hz
  obtain ⟨hkl, hke⟩ := List.getElem?_eq_some_iff.1 hc
  have hny : subF F rk c y = false := subF_not hw hy hck
  have hrow : ((ctU F rk y k).sub rk (ctQ (ctU F rk y k) rk) c).kids y = (ctU F rk y k).kids y := by
    show (if _ then _ else _) = _
    rw [hsub, hny, if_neg (by simp)]
  obtain ⟨h1, h4, h2, h3⟩ := h.setKid hy hv (k := k) (c := cr F rk c) (by rw [hrow, ctU_len]; exact hkl) (cr_ok hw hcn (Nat.le_refl _)).1
  refine ⟨by rw [h.kidv hy, hv], h1, h4, h2.congr2 fun z hzn => ⟨rfl, rfl, ?_⟩, h3⟩
  show _ = upd _ y _ z
  by_cases e : z = y
  · subst e
    rw [upd_same, hrow, ctU_own, ctU_own]
    have ht : ((F.kids z).take k).length = k := by rw [List.length_take]; omega
    rw [List.set_append_right _ _ (by rw [List.length_map, ht]; exact Nat.le_refl _), List.length_map, ht, Nat.sub_self]
    rw [List.take_add_one, hc, List.map_append, List.append_assoc]
    congr 1
    rw [List.drop_eq_getElem_cons hkl, List.set_cons_zero]; rfl
  · rw [upd_ne _ _ e]
    show (if _ then _ else _) = if _ then _ else _
    rw [if_neg e, upto_succ hc, hsub]
    split
    · rename_i hs
      unfold ctQ
      rw [hz z hs]
      split
      · rfl
      · refine List.map_congr_left fun j hj => ?_
        exact (cr_cong hw hG (hw.kid z hzn j hj).1 (Nat.le_refl _) fun u hu => hz u (sub_trans hw hcn (Nat.le_refl _) hs (subF_kid hw hzn hj hu))).symm
    · show _ = if _ then _ else _
      rw [if_neg e]
theorem rkAt_ex (hinj : ∀ i j, i < n → j < n → A i = A j → i = j) (rk : Nat → Nat) : ∃ m : Value → Nat, ∀ y, y < n → m (.pointer (some ⟨A y, 0, none⟩)) = rk y := by
  have h1 : ∀ v : Value, ∃ k : Nat, ∀ y, y < n → v = .pointer (some ⟨A y, 0, none⟩) → k = rk y := fun v => by
    by_cases h : ∃ y, y < n ∧ v = .pointer (some ⟨A y, 0, none⟩)
    · obtain ⟨y, hy, e⟩ := h
      refine ⟨rk y, fun z hz e2 => ?_⟩
      rw [e] at e2
      injection e2 with e2
      injection e2 with e2
      injection e2 with e2
      rw [hinj y z hy hz e2]
    · exact ⟨0, fun y hy e => absurd ⟨y, hy, e⟩ h⟩
  obtain ⟨m, hm⟩ := Classical.axiomOfChoice h1
  exact ⟨m, fun y hy => hm _ y hy rfl⟩
end
end Go.Proofs.YtcaialhoclodjaaGreat
namespace Go.Proofs.YtcaialhoclodjaaGreat
open Go.RowKit Go.Deep
def vN (vs : List Value) (k : Nat) : Value := vs.getD k undef
mutual
/-- v points at the rose tree; its blocks lie in S. -/
def RAt (S : Nat → Prop) (w : World) : RT → Value → Prop
  | .node nm ks, v => ∃ b kv vs, v = .pointer (some ⟨b, 0, none⟩) ∧ S b ∧ w.heap[b]? = some (.cells #[.string nm, kv] 69 (0, 0)) ∧ SlAt S w kv ks.length (vN vs) ∧ RsAt S w ks vs
def RsAt (S : Nat → Prop) (w : World) : List RT → List Value → Prop
  | [], vs => vs = []
  | r :: rs, vs => ∃ u us, vs = u :: us ∧ RAt S w r u ∧ RsAt S w rs us
end
mutual
theorem RAt.keep {S : Nat → Prop} {w w' : World} (k : Kept S w w') : ∀ (r : RT) {v : Value}, RAt S w r v → RAt S w' r v
  | .node nm ks, v, h => by
    unfold RAt at h ⊢
    obtain ⟨b, kv, vs, rfl, hS, hb, hk, hs⟩ := h
    exact ⟨b, kv, vs, rfl, hS, (k b hS (Array.getElem?_eq_some_iff.1 hb).1).trans hb, hk.keep k, RsAt.keep k ks hs⟩
theorem RsAt.keep {S : Nat → Prop} {w w' : World} (k : Kept S w w') : ∀ (rs : List RT) {vs : List Value}, RsAt S w rs vs → RsAt S w' rs vs
  | [], _, h => by unfold RsAt at h ⊢; exact h
  | r :: rs, vs, h => by
    unfold RsAt at h ⊢
    obtain ⟨u, us, rfl, h1, h2⟩ := h
    exact ⟨u, us, rfl, RAt.keep k r h1, RsAt.keep k rs h2⟩
end
mutual
theorem RAt.sub {S T : Nat → Prop} {w : World} (k : ∀ b, S b → b < w.heap.size → T b) : ∀ (r : RT) {v : Value}, RAt S w r v → RAt T w r v
  | .node nm ks, v, h => by
    unfold RAt at h ⊢
    obtain ⟨b, kv, vs, rfl, hS, hb, hk, hs⟩ := h
    exact ⟨b, kv, vs, rfl, k b hS (Array.getElem?_eq_some_iff.1 hb).1, hb, hk.sub k, RsAt.sub k ks hs⟩
theorem RsAt.sub {S T : Nat → Prop} {w : World} (k : ∀ b, S b → b < w.heap.size → T b) : ∀ (rs : List RT) {vs : List Value}, RsAt S w rs vs → RsAt T w rs vs
  | [], _, h => by unfold RsAt at h ⊢; exact h
  | r :: rs, vs, h => by
    unfold RsAt at h ⊢
    obtain ⟨u, us, rfl, h1, h2⟩ := h
    exact ⟨u, us, rfl, RAt.sub k r h1, RsAt.sub k rs h2⟩
end
theorem RsAt.len {S : Nat → Prop} {w : World} : ∀ (rs : List RT) {vs : List Value}, RsAt S w rs vs → vs.length = rs.length
  | [], _, h => by unfold RsAt at h; subst h; rfl
  | r :: rs, vs, h => by
    unfold RsAt at h
    obtain ⟨u, us, rfl, _, h2⟩ := h
    rw [List.length_cons, List.length_cons, RsAt.len rs h2]
def gr (rs : List RT) (k : Nat) : RT := rs.getD k (.node ByteArray.empty [])
theorem RsAt.get {S : Nat → Prop} {w : World} : ∀ (rs : List RT) {vs : List Value}, RsAt S w rs vs → ∀ k, k < rs.length → RAt S w (gr rs k) (vN vs k)
  | [], _, _, k, hk => absurd hk (Nat.not_lt_zero _)
  | r :: rs, vs, h, k, hk => by
    unfold RsAt at h
    obtain ⟨u, us, rfl, h1, h2⟩ := h
    cases k with
    | zero => exact h1
    | succ k => exact RsAt.get rs h2 k (by simpa using hk)
theorem RsAt.app {S : Nat → Prop} {w : World} {r : RT} {u : Value} (hr : RAt S w r u) : ∀ (rs : List RT) {vs : List Value}, RsAt S w rs vs → RsAt S w (rs ++ [r]) (vs ++ [u])
  | [], vs, h => by
    unfold RsAt at h; subst h
    show RsAt S w [r] [u]
    unfold RsAt
    exact ⟨u, [], rfl, hr, by unfold RsAt; rfl⟩
  | q :: rs, vs, h => by
    unfold RsAt at h
    obtain ⟨x, us, rfl, h1, h2⟩ := h
    show RsAt S w (q :: (rs ++ [r])) (x :: (us ++ [u]))
    unfold RsAt
    exact ⟨x, us ++ [u], rfl, h1, RsAt.app hr rs h2⟩
/-- The node, opened: its cells. -/
theorem RAt.open {S : Nat → Prop} {w : World} {r : RT} {v : Value} (h : RAt S w r v) : ∃ b kp kc vs, v = .pointer (some ⟨b, 0, none⟩) ∧ S b ∧ w.cell? ⟨b, 0, none⟩ = some (.string r.nm) ∧ w.cell? ⟨b, 1, none⟩ = some (.slice kp r.kids.length kc) ∧ SlAt S w (.slice kp r.kids.length kc) r.kids.length (vN vs) ∧ RsAt S w r.kids vs := by
  cases r with
  | node nm ks =>
    unfold RAt at h
    obtain ⟨b, kv, vs, rfl, hS, hb, hk, hs⟩ := h
    obtain ⟨kp, kc, rfl, _, _⟩ := SlAt.open hk
    exact ⟨b, kp, kc, vs, rfl, hS, by simp [World.cell?, hb, RT.nm], by simp [World.cell?, hb, RT.kids], hk, hs⟩
/-- A node under way: block B, its children rs so far; all lies at base or beyond. -/
structure Wip (base B : Nat) (w : World) (nm : ByteArray) (kv : Value) (rs : List RT) : Prop where
  node : w.heap[B]? = some (.cells #[.string nm, kv] 69 (0, 0))
  lo : base ≤ B
  kids : ∃ vs, Owns (B + 1) 66 w kv vs ∧ RsAt (fun b => base ≤ b ∧ b ≠ B ∧ kv.ownBlock ≠ some b) w rs vs
theorem Wip.lt {base B : Nat} {w : World} {nm : ByteArray} {kv : Value} {rs : List RT} (h : Wip base B w nm kv rs) : B < w.heap.size := (Array.getElem?_eq_some_iff.1 h.node).1
theorem Wip.cells {base B : Nat} {w : World} {nm : ByteArray} {kv : Value} {rs : List RT} (h : Wip base B w nm kv rs) : w.cell? ⟨B, 0, none⟩ = some (.string nm) ∧ w.cell? ⟨B, 1, none⟩ = some kv ∧ w.frozen? ⟨B, 0, none⟩ = false ∧ w.frozen? ⟨B, 1, none⟩ = false := by
  refine ⟨?_, ?_, ?_, ?_⟩ <;> simp [World.cell?, World.frozen?, h.node]
theorem Wip.start (w : World) {base : Nat} (hb : base ≤ w.heap.size) (nm : ByteArray) : Wip base w.heap.size (w.alloc (.cells #[.string nm, .slice none 0 0] 69)) nm (.slice none 0 0) [] :=
  ⟨World.alloc_heap_new _ _, hb, [], Owns.nil _ _ _, by unfold RsAt; rfl⟩
theorem Wip.up {base B : Nat} {w w' : World} {nm : ByteArray} {kv : Value} {rs : List RT} (h : Wip base B w nm kv rs) (hu : Up w w') : Wip base B w' nm kv rs := by
  obtain ⟨vs, ho, hr⟩ := h.kids
  exact ⟨(Below.block hu B h.lt).trans h.node, h.lo, vs, ho.kept fun b _ hb => Below.block hu b hb, RsAt.keep (hu.kept _) rs hr⟩
/-- The node is done. -/
theorem Wip.done {base B : Nat} {w : World} {nm : ByteArray} {kv : Value} {rs : List RT} (h : Wip base B w nm kv rs) : RAt (fun b => base ≤ b) w (.node nm rs) (.pointer (some ⟨B, 0, none⟩)) := by
  obtain ⟨vs, ho, hr⟩ := h.kids
  have hlen := RsAt.len rs hr
  unfold RAt
  have h1 := ho.slAt
  rw [hlen] at h1
  exact ⟨B, kv, vs, rfl, h.lo, h.node, h1.sub fun b hb _ => by have := h.lo; omega, RsAt.sub (fun b hb _ => hb.1) rs hr⟩
/-- A child is appended: w0 the world ahead of the child, w the world behind it, W behind append, then the store. -/
theorem Wip.push {base B : Nat} {w W : World} {nm : ByteArray} {kv kv' : Value} {rs : List RT} {r : RT} {u : Value} {lim : Nat} (h : Wip base B w nm kv rs) (hr : RAt (fun b => lim ≤ b) w r u) (hl1 : base ≤ lim) (hl2 : B < lim) (hl3 : ∀ b, kv.ownBlock = some b → b < lim)
    {vs : List Value} (hv : RsAt (fun b => base ≤ b ∧ b ≠ B ∧ kv.ownBlock ≠ some b) w rs vs) (ho : Owns (B + 1) 66 W kv' (vs ++ [u])) (hg : w.grownBy W kv.ownBlock) (hor : ∀ b, kv'.ownBlock = some b → kv.ownBlock = some b ∨ w.heap.size ≤ b) :
    Wip base B (W.setCell ⟨B, 1, none⟩ kv') nm kv' (rs ++ [r]) := by
  have hBl := h.lt
  have hBk : kv.ownBlock ≠ some B := fun e => by
    obtain ⟨vs0, ho0, _⟩ := h.kids
    have := (ownBlock_lt ho0 e).1; omega
  have hBk' : kv'.ownBlock ≠ some B := fun e => by
    rcases hor B e with h1 | h1
    · exact hBk h1
    · omega
  have hset : ∀ b, b ≠ B → (W.setCell ⟨B, 1, none⟩ kv').heap[b]? = W.heap[b]? := fun b hb => blk_setCell_other _ _ _ _ hb
  have hB : W.heap[B]? = w.heap[B]? := hg.block B hBl (fun e => hBk e.symm)
  have hkeep : ∀ b, b ≠ B → kv.ownBlock ≠ some b → b < w.heap.size → (W.setCell ⟨B, 1, none⟩ kv').heap[b]? = w.heap[b]? := fun b h1 h2 h3 => (hset b h1).trans (hg.block b h3 fun e => h2 e.symm)
  refine ⟨?_, h.lo, vs ++ [u], ho.same2 fun b hb => hset b (fun e => hBk' (by rw [hb, e])), ?_⟩
  · have hn := hB.trans h.node
    simp [World.setCell, Array.getElem?_modify, hn]
  · have k1 : Kept (fun b => base ≤ b ∧ b ≠ B ∧ kv.ownBlock ≠ some b) w (W.setCell ⟨B, 1, none⟩ kv') := fun b hb hl => hkeep b hb.2.1 hb.2.2 hl
    have k2 : Kept (fun b => lim ≤ b) w (W.setCell ⟨B, 1, none⟩ kv') := fun b hb hl => hkeep b (by have : lim ≤ b := hb; omega) (fun e => by have := hl3 b e; have : lim ≤ b := hb; omega) hl
    have hsz : (W.setCell ⟨B, 1, none⟩ kv').heap.size = W.heap.size := by simp [World.size_setCell]
    have hold : ∀ b, b < w.heap.size → kv.ownBlock ≠ some b → kv'.ownBlock ≠ some b := fun b h1 h2 e => by
      rcases hor b e with h3 | h3
      · exact h2 h3
      · omega
    have h1 : RsAt (fun b => base ≤ b ∧ b ≠ B ∧ kv'.ownBlock ≠ some b) w rs vs := RsAt.sub (fun b hb hl => ⟨hb.1, hb.2.1, hold b hl hb.2.2⟩) rs hv
    have h2 : RAt (fun b => base ≤ b ∧ b ≠ B ∧ kv'.ownBlock ≠ some b) w r u := RAt.sub (fun b hb hl => ⟨by have : lim ≤ b := hb; omega, by have : lim ≤ b := hb; omega, hold b hl fun e => by have := hl3 b e; have : lim ≤ b := hb; omega⟩) r hr
    have k3 : Kept (fun b => base ≤ b ∧ b ≠ B ∧ kv'.ownBlock ≠ some b ∧ kv.ownBlock ≠ some b) w (W.setCell ⟨B, 1, none⟩ kv') := fun b hb hl => hkeep b hb.2.1 hb.2.2.2 hl
    have h1' : RsAt (fun b => base ≤ b ∧ b ≠ B ∧ kv'.ownBlock ≠ some b ∧ kv.ownBlock ≠ some b) w rs vs := RsAt.sub (fun b hb hl => ⟨hb.1, hb.2.1, hold b hl hb.2.2, hb.2.2⟩) rs hv
    have h2' : RAt (fun b => base ≤ b ∧ b ≠ B ∧ kv'.ownBlock ≠ some b ∧ kv.ownBlock ≠ some b) w r u := RAt.sub (fun b hb hl => ⟨by have : lim ≤ b := hb; omega, by have : lim ≤ b := hb; omega, hold b hl fun e => by have := hl3 b e; have : lim ≤ b := hb; omega, fun e => by have := hl3 b e; have : lim ≤ b := hb; omega⟩) r hr
    exact RsAt.sub (fun b hb _ => ⟨hb.1, hb.2.1, hb.2.2.1⟩) _ (RsAt.app (RAt.keep k3 r h2') rs (RsAt.keep k3 rs h1'))
end Go.Proofs.YtcaialhoclodjaaGreat
namespace Go.Proofs.YtcaialhoclodjaaGreat
open Go.RowKit Go.Deep
end Go.Proofs.YtcaialhoclodjaaGreat
namespace Go.Proofs.YtcaialhoclodjaaGreat
def Tre.app (t : Tre) (r : RT) (p : Int) : Tre := ⟨t.ps ++ psR r t.ps.length p, t.ns ++ nsR r⟩
end Go.Proofs.YtcaialhoclodjaaGreat
