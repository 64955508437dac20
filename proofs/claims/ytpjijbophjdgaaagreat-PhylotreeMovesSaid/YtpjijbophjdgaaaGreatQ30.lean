/- The contract of slices.DeleteFunc at nodes. Reroot: what its loop does to the forest. -/
import Derived.Test.YtpjijbophjdgaaaGreatQ29
namespace Go.Proofs.YtpjijbophjdgaaaGreat
open Go.RowKit Go.Deep
def keepF (P : Nat → Bool) (ks : List Nat) (j : Nat) : List Nat := (ks.take j).filter fun k => !P k
theorem keepF_len (P : Nat → Bool) (ks : List Nat) (j : Nat) : (keepF P ks j).length ≤ j := by
  unfold keepF
  refine Nat.le_trans (List.length_filter_le _ _) ?_
  rw [List.length_take]; omega
theorem keepF_succ (P : Nat → Bool) {ks : List Nat} {j : Nat} (hj : j < ks.length) : keepF P ks (j + 1) = if P (ks.getD j 0) then keepF P ks j else keepF P ks j ++ [ks.getD j 0] := by
  unfold keepF
  have hg : ks.getD j 0 = ks[j] := by rw [List.getD_eq_getElem?_getD, List.getElem?_eq_getElem hj]; rfl
  rw [List.take_succ_eq_append_getElem hj, List.filter_append, hg]
  cases h : P ks[j]
  · rw [if_neg (by decide), List.filter_cons_of_pos (by rw [h]; rfl)]; rfl
  · rw [if_pos rfl, List.filter_cons_of_neg (by rw [h]; decide)]; simp
structure DfW (A : Nat → Nat) (P : Nat → Bool) (base : Nat) (w wr : World) (g cap : Nat) (ks : List Nat) (j : Nat) (X : List Value) : Prop where
  own : Owns base 113 wr (.slice (some ⟨g, 0, none⟩) ks.length cap) X
  len : X.length = ks.length
  head : X.take (keepF P ks j).length = (keepF P ks j).map (nptr A)
  rest : ∀ q, j ≤ q → X[q]? = (ks.map (nptr A))[q]?
  up : w.grownBy wr (some g)
section
variable {A : Nat → Nat} {P : Nat → Bool} {base : Nat} {w wr : World} {g cap : Nat} {ks : List Nat} {X : List Value}
theorem DfW.start (h : Owns base 113 w (.slice (some ⟨g, 0, none⟩) ks.length cap) (ks.map (nptr A))) {j : Nat} (hj : j < ks.length) (hno : ∀ i, i < j → P (ks.getD i 0) = false) (hP : P (ks.getD j 0) = true) (m : Nat) :
    DfW A P base w (w.drewN m) g cap ks (j + 1) (ks.map (nptr A)) ∧ (keepF P ks (j + 1)).length = j := by
  have hk : ∀ i, i ≤ j → keepF P ks i = ks.take i := by
    intro i
    induction i with
    | zero => intro _; rfl
    | succ i ih =>
      intro hi
      rw [keepF_succ P (show i < ks.length by omega), hno i (by omega), if_neg (by decide), ih (by omega), List.take_succ_eq_append_getElem (show i < ks.length by omega)]
      congr 2
      rw [List.getD_eq_getElem?_getD, List.getElem?_eq_getElem (show i < ks.length by omega)]; rfl
  have e : keepF P ks (j + 1) = ks.take j := by rw [keepF_succ P hj, hP, if_pos rfl, hk j (Nat.le_refl _)]
  have hl : (ks.take j).length = j := by rw [List.length_take]; omega
  refine ⟨⟨h.same2 fun _ _ => rfl, List.length_map _, ?_, fun _ _ => rfl, grown_up (Up.drewN w m) _⟩, by rw [e, hl]⟩
  rw [e, hl, List.map_take]
theorem DfW.skip {j : Nat} (h : DfW A P base w wr g cap ks j X) (hj : j < ks.length) (hP : P (ks.getD j 0) = true) (m : Nat) : DfW A P base w (wr.drewN m) g cap ks (j + 1) X :=
  ⟨h.own.same2 fun _ _ => rfl, h.len, by rw [keepF_succ P hj, if_pos hP]; exact h.head, fun q hq => h.rest q (by omega), grown_trans h.up (grown_up (Up.drewN wr m) _)⟩
theorem DfW.up_drew {j : Nat} (h : DfW A P base w wr g cap ks j X) (m : Nat) : DfW A P base w (wr.drewN m) g cap ks j X :=
  ⟨h.own.same2 fun _ _ => rfl, h.len, h.head, h.rest, grown_trans h.up (grown_up (Up.drewN wr m) _)⟩
theorem DfW.at {j : Nat} (h : DfW A P base w wr g cap ks j X) (hj : j < ks.length) : wr.cell? ⟨g, j, none⟩ = some (.pointer (some ⟨A (ks.getD j 0), 0, none⟩)) := by
  have hke : ks[j]? = some (ks.getD j 0) := by rw [List.getD_eq_getElem?_getD, List.getElem?_eq_getElem hj]; rfl
  exact (owns_cell h.own (j := j) (u := nptr A (ks.getD j 0)) (by rw [h.rest j (Nat.le_refl _), List.getElem?_map, hke]; rfl)).1
theorem DfW.push {j : Nat} (h : DfW A P base w wr g cap ks j X) (hj : j < ks.length) (hP : P (ks.getD j 0) = false) :
    (∃ x, wr.cell? ⟨g, (keepF P ks j).length, none⟩ = some x) ∧ wr.frozen? ⟨g, (keepF P ks j).length, none⟩ = false ∧ (keepF P ks (j + 1)).length = (keepF P ks j).length + 1 ∧
      ∃ X', DfW A P base w (wr.setCell ⟨g, (keepF P ks j).length, none⟩ (.pointer (some ⟨A (ks.getD j 0), 0, none⟩))) g cap ks (j + 1) X' := by
  have hle := keepF_len P ks j
  obtain ⟨g2, cap2, e1, _, _, hc, hf, hs⟩ := h.own.set (j := (keepF P ks j).length) (by rw [h.len]; omega)
  injection e1 with a1 a2 a3
  injection a1 with a1
  injection a1 with a1
  subst a1
  have hk := keepF_succ P hj
  rw [if_neg (by rw [hP]; decide)] at hk
  have hl : (keepF P ks (j + 1)).length = (keepF P ks j).length + 1 := by rw [hk, List.length_append]; rfl
  refine ⟨⟨_, hc⟩, hf, hl, X.set (keepF P ks j).length (nptr A (ks.getD j 0)), hs _, by rw [List.length_set]; exact h.len, ?_, fun q hq => ?_, grown_trans h.up grown_set⟩
  · rw [hl, hk, List.map_append, ← h.head]
    have hlt : (keepF P ks j).length < (X.set (keepF P ks j).length (nptr A (ks.getD j 0))).length := by rw [List.length_set, h.len]; omega
    rw [List.take_succ_eq_append_getElem hlt, List.take_set_of_le (Nat.le_refl _), List.getElem_set_self]; rfl
  · rw [List.getElem?_set_ne (by omega)]; exact h.rest q (by omega)
theorem DfW.done {m : Nat} (h : DfW A P base w wr g cap ks ks.length X) (hm : (keepF P ks ks.length).length = m) (hlt : m < ks.length) :
    (∀ i, i < ks.length - m → (wr.cell? ⟨g, m + i, none⟩).isSome = true) ∧ (∀ i, i < ks.length - m → wr.frozen? ⟨g, m + i, none⟩ = false) ∧
      Owns base 113 (wr.setCells g m (List.replicate (ks.length - m) (.pointer none))) (.slice (some ⟨g, 0, none⟩) m cap) ((ks.filter fun k => !P k).map (nptr A)) ∧
      w.grownBy (wr.setCells g m (List.replicate (ks.length - m) (.pointer none))) (some g) := by
  have hall : keepF P ks ks.length = ks.filter fun k => !P k := by unfold keepF; rw [List.take_length]
  have hcell : ∀ i, i < ks.length - m → wr.cell? ⟨g, m + i, none⟩ = some (X.getD (m + i) undef) ∧ wr.frozen? ⟨g, m + i, none⟩ = false := fun i hi => by
    have hl : m + i < X.length := by rw [h.len]; omega
    exact owns_cell h.own (by rw [List.getD_eq_getElem?_getD, List.getElem?_eq_getElem hl]; rfl)
  refine ⟨fun i hi => by rw [(hcell i hi).1]; rfl, fun i hi => (hcell i hi).2, ?_, grown_trans h.up (grown_sets _ _ _)⟩
  refine owns_tails _ _ _ (Nat.le_refl _) ?_
  have := owns_take h.own (m := m) (by omega)
  rw [← hm, h.head] at this
  rw [← hm, ← hall]; exact this
end
theorem Tryz.zeroNd : ∀ w, (zeroValue 113).run Tryz.prog w = .ok (.pointer none) w := fun w => by simp [Tryz.zeroValue113]
theorem owns_cap {base : Nat} {e : TypeId} {w : World} {g n cap : Nat} {xs : List Value} (h : Owns base e w (.slice (some ⟨g, 0, none⟩) n cap) xs) : n ≤ cap := by
  obtain ⟨h1, h2⟩ := h
  rcases h2 with ⟨e1, _⟩ | ⟨g2, cap2, cur, e1, hg, hc, hn, _⟩
  · cases e1
  · injection e1 with a1 a2 a3
    omega
theorem qd_trans {w w' w'' : World} (h : QD w w') (k : QD w' w'') : QD w w'' := by
  obtain ⟨n, rfl⟩ := h
  obtain ⟨m, rfl⟩ := k
  exact (QD.refl w).drewN n |>.drewN m
theorem first_or (p : Nat → Bool) : ∀ n, (∀ j, j < n → p j = false) ∨ ∃ j, j < n ∧ p j = true ∧ ∀ i, i < j → p i = false
  | 0 => .inl fun j hj => absurd hj (Nat.not_lt_zero _)
  | n + 1 => by
    rcases first_or p n with h | ⟨j, h1, h2, h3⟩
    · cases hp : p n
      · exact .inl fun j hj => if e : j = n then by subst e; exact hp else h j (by omega)
      · exact .inr ⟨n, by omega, hp, h⟩
    · exact .inr ⟨j, by omega, h2, h3⟩
set_option maxRecDepth 100000 in
set_option maxHeartbeats 2000000 in
theorem delete_node_t {A : Nat → Nat} {P : Nat → Bool} (g : Nat) (lb : Array Value) (eg : ∀ args w, (callFunc g args).run Tryz.prog w = .ok (.enter g args) w) {base : Nat} {w : World} {bk cap : Nat} {ks : List Nat} (h : Owns base 113 w (.slice (some ⟨bk, 0, none⟩) ks.length cap) (ks.map (nptr A))) (hn : ks.length ≤ 1000000)
    (hp : ∀ k ∈ ks, ∀ W, w.grownBy W (some bk) → Calls Tryz.prog g (#[.pointer (some ⟨A k, 0, none⟩)] ++ lb) W fun e W' => e = .returned (.bool (P k)) ∧ ∃ m, W' = W.drewN m) :
    Calls Tryz.prog 95 #[.slice (some ⟨bk, 0, none⟩) ks.length cap, .func (.func g) #[] lb] w fun e w' => ∃ m, e = .returned (.slice (some ⟨bk, 0, none⟩) m cap) ∧ Owns base 113 w' (.slice (some ⟨bk, 0, none⟩) m cap) ((ks.filter fun k => !P k).map (nptr A)) ∧ w.grownBy w' (some bk) := by
  have HIX := Lib.hid (index_node_t (P := P) g lb eg h hn fun k hk q => (hp k hk (w.drewN q) (grown_up (Up.drewN w q) _)).mono fun _ _ h => ⟨h.1, qd_trans ⟨q, rfl⟩ h.2⟩)
  have HO := Lib.hid h
  have HP := Lib.hid hp
  obtain ⟨cap0, hcap⟩ : ∃ c, c = cap := ⟨_, rfl⟩
  clear h hp
  rcases first_or (fun j => P (ks.getD j 0)) ks.length with hno | ⟨j0, hj0, hP0, hno⟩
  · have hall : ks.filter (fun k => !P k) = ks := by
      rw [List.filter_eq_self]
      intro k hk
      obtain ⟨j, hj, e⟩ := List.getElem_of_mem hk
      have := hno j hj
      rw [show ks.getD j 0 = k by rw [List.getD_eq_getElem?_getD, List.getElem?_eq_getElem hj, e]; rfl] at this
      rw [this]; rfl
    rw [firstIx_none hno] at HIX
    have HA := Lib.hid hall
    clear hno hall hcap
    go_enter Tryz.func95, Tryz.ntmps95
    go_wp2_with fail
    refine HIX.out.mono ?_
    rintro e w1 ⟨rfl, m, rfl⟩
    go_wp2_with fail
    go_ret
    exact ⟨ks.length, rfl, by rw [HA.out]; exact HO.out.same2 fun _ _ => rfl, grown_up (Up.drewN w m) _⟩
  · rw [firstIx_at hj0 hno hP0] at HIX
    have HST := Lib.hid (fun m => (HO.out |> fun h => DfW.start h hj0 hno hP0 m))
    have hjn : (j0 : Int) < (ks.length : Int) := by omega
    have HJ0 := Lib.hid hj0
    have e1 : ((j0 : Int) == -1) = false := beq_eq_false_iff_ne.2 (by omega)
    clear hno hP0 hj0 hcap
    go_enter Tryz.func95, Tryz.ntmps95
    go_wp2_with fail
    refine HIX.out.mono ?_
    rintro e w1 ⟨rfl, m1, rfl⟩
    obtain ⟨hS1, hS2⟩ := HST.out m1
    have HS1 := Lib.hid hS1
    have HS2 := Lib.hid hS2
    clear hS1 hS2 HST
    go_wp2_with fail
    go_loopw [5, 6, 7] (fun x y _ wr => ∃ j : Nat, j0 < j ∧ j ≤ ks.length ∧ y = .int .i64 j ∧ x = .int .i64 ((keepF P ks j).length : Nat) ∧ Hid (∃ X, DfW A P base w wr bk cap ks j X) ∧ Hid ((keepF P ks j).length < j)) (fun _ y _ _ => ks.length - (intOf y).toNat)
    case atStart => exact ⟨j0 + 1, by omega, HJ0.out, by go_num, by rw [HS2.out], ⟨_, HS1.out⟩, by unfold Hid; rw [HS2.out]; omega⟩
    case round =>
      obtain ⟨j, hj1, hj, rfl, rfl, hX, hK⟩ := hrel
      obtain ⟨wo, rfl⟩ : ∃ wo : World, wo = wr := ⟨_, rfl⟩
      obtain ⟨X, hX⟩ := hX.out
      by_cases hlt : j < ks.length
      · have hx := hX.at hlt
        have i1 : (0 : Int) ≤ (j : Int) := by omega
        have i2 : (j : Int) < (ks.length : Int) := by omega
        have hmem : ks.getD j 0 ∈ ks := by
          rw [List.getD_eq_getElem?_getD, List.getElem?_eq_getElem hlt]; exact List.getElem_mem hlt
        have HPK := Lib.hid (HP.out _ hmem wo hX.up)
        have HLT := Lib.hid hlt
        have HXX := Lib.hid hX
        have HJ1 := Lib.hid hj1
        have n1 : (0 : Int) ≤ ((keepF P ks j).length : Int) := by omega
        have n2 : ((keepF P ks j).length : Int) < (ks.length : Int) := by have := hK.out; omega
        have HSK : Hid (P (ks.getD j 0) = true → (keepF P ks (j + 1)).length = (keepF P ks j).length) := fun hv => by rw [keepF_succ P hlt, if_pos hv]
        clear hmem hX
        cases hv : P (ks.getD j 0)
        · rw [hv] at HPK
          have HPU := Lib.hid (fun m => (HXX.out.up_drew m).push hlt hv)
          clear hv HSK
          generalize ks.getD j 0 = c at *
          go_wp2_with fail
          refine HPK.out.mono ?_
          rintro e w2 ⟨rfl, m, rfl⟩
          obtain ⟨⟨cx, hcx⟩, hff, hl, X', hX'⟩ := HPU.out m
          have HX' := Lib.hid hX'
          have HL := Lib.hid hl
          clear hX' hl
          go_wp2_with fail
          go_roundw
          case rel => exact ⟨j + 1, by have := HJ1.out; omega, HLT.out, by go_num, by rw [HL.out]; go_num, ⟨X', HX'.out⟩, by unfold Hid; have := hK.out; rw [HL.out]; omega⟩
          case measure => have := HLT.out; simp [intOf]; omega
        · rw [hv] at HPK
          have HN := Lib.hid (fun m => HXX.out.skip hlt hv m)
          have HL := Lib.hid (HSK.out hv)
          clear hv HSK
          generalize ks.getD j 0 = c at *
          go_wp2_with fail
          refine HPK.out.mono ?_
          rintro e w2 ⟨rfl, m, rfl⟩
          go_wp2_with fail
          go_roundw
          case rel => exact ⟨j + 1, by have := HJ1.out; omega, HLT.out, by go_num, by rw [HL.out], ⟨X, HN.out m⟩, by unfold Hid; have := hK.out; rw [HL.out]; omega⟩
          case measure => have := HLT.out; simp [intOf]; omega
      · obtain rfl : j = ks.length := by omega
        obtain ⟨mm, hmm⟩ : ∃ mm, (keepF P ks ks.length).length = mm := ⟨_, rfl⟩
        have hml : mm < ks.length := by rw [← hmm]; exact hK.out
        obtain ⟨hc, hf, ho, hg⟩ := hX.done hmm hml
        have HO2 := Lib.hid ho
        have HG2 := Lib.hid hg
        have hcl := Lib.run_clear_slice (P := Tryz.prog) wo 111 113 0 (.pointer none) Tryz.underlying111 Tryz.zeroNd rfl rfl bk mm (ks.length - mm) (cap - mm) (by omega) hc hf
        rw [hmm]
        have n1 : (0 : Int) ≤ (mm : Int) := by omega
        have n2 : (mm : Int) ≤ (ks.length : Int) := by omega
        have n3 : (mm : Int) < (ks.length : Int) := by omega
        clear hc hf ho hg hlt hj hX hK hmm
        have c1 : ks.length ≤ cap := owns_cap HO.out
        have c2 : mm ≤ cap := by omega
        have c3 : (mm : Int) ≤ (cap : Int) := by omega
        go_wp2_with fail
        go_ret
        exact ⟨mm, rfl, HO2.out, HG2.out⟩
end Go.Proofs.YtpjijbophjdgaaaGreat
namespace Go.Proofs.YtpjijbophjdgaaaGreat
open Go.RowKit Go.Deep
section
variable {base n : Nat} {A : Nat → Nat} {kv : Nat → Value} {F : Frs} {w w' : World}
theorem FAt.node_kids (h : FAt base n A kv F w) (hb : base ≤ w.heap.size) {v : Value} {ks : List Nat} (nm : ByteArray) (old : Int) (hv : Owns base 113 w v (ks.map (nptr A)))
    (hA : ∀ b, v.ownBlock = some b → ∀ i, i < n → b ≠ A i) (hkv : ∀ b, v.ownBlock = some b → ∀ i, i < n → (kv i).ownBlock ≠ some b) (hks : ∀ j ∈ ks, j < n) :
    FAt base (n + 1) (upd A n w.heap.size) (upd kv n v) ⟨upd F.nm n nm, upd F.old n old, upd F.kids n ks⟩ (w.alloc (.cells #[.string nm, v, .int .i64 old] 115)) := by
  have hne : ∀ i, i < n → i ≠ n := fun i hi => by omega
  have hmap : ∀ l : List Nat, (∀ k ∈ l, k < n) → l.map (nptr (upd A n w.heap.size)) = l.map (nptr A) := fun l hl => by
    refine List.map_congr_left fun k hk => ?_
    unfold nptr; rw [upd_ne _ _ (hne k (hl k hk))]
  have hcase : ∀ i, i < n + 1 → i < n ∨ i = n := fun i hi => by omega
  refine ⟨fun i hi => ?_, fun i hi => ?_, fun i j hi hj e => ?_, fun i hi => ?_, fun i j hi hj => ?_, fun i j b hi hj h1 h2 => ?_, fun i hi => ?_⟩
  · rcases hcase i hi with hi | rfl
    · simp only [upd_ne _ _ (hne i hi)]; rw [blk_alloc_lt _ _ _ (h.lt hi)]; exact h.node i hi
    · simp only [upd_same]; exact blk_alloc_new _ _
  · rcases hcase i hi with hi | rfl
    · rw [upd_ne _ _ (hne i hi)]; exact h.lo i hi
    · rw [upd_same]; exact hb
  · rcases hcase i hi with hi | rfl <;> rcases hcase j hj with hj | rfl
    · rw [upd_ne _ _ (hne i hi), upd_ne _ _ (hne j hj)] at e; exact h.inj i j hi hj e
    · rw [upd_ne _ _ (hne i hi), upd_same] at e; have := h.lt hi; omega
    · rw [upd_same, upd_ne _ _ (hne j hj)] at e; have := h.lt hj; omega
    · rfl
  · rcases hcase i hi with hi | rfl
    · simp only [upd_ne _ _ (hne i hi)]; rw [hmap _ (h.kid i hi)]; exact (h.own i hi).alloc _
    · simp only [upd_same]; rw [hmap _ hks]; exact hv.alloc _
  · rcases hcase i hi with hi | rfl
    · rw [upd_ne _ _ (hne i hi)]
      rcases hcase j hj with hj | rfl
      · rw [upd_ne _ _ (hne j hj)]; exact h.apart i j hi hj
      · rw [upd_same]; intro e; have := (h.ownlt hi e).2; omega
    · rw [upd_same]
      intro e
      rcases hcase j hj with hj | rfl
      · rw [upd_ne _ _ (hne j hj)] at e; exact hA _ e j hj rfl
      · rw [upd_same] at e; have := (ownBlock_lt hv e).2; omega
  · rcases hcase i hi with hi | rfl <;> rcases hcase j hj with hj | rfl
    · rw [upd_ne _ _ (hne i hi)] at h1; rw [upd_ne _ _ (hne j hj)] at h2; exact h.alone i j b hi hj h1 h2
    · rw [upd_ne _ _ (hne i hi)] at h1; rw [upd_same] at h2; exact absurd h1 (hkv b h2 i hi)
    · rw [upd_same] at h1; rw [upd_ne _ _ (hne j hj)] at h2; exact absurd h2 (hkv b h1 j hj)
    · rfl
  · rcases hcase i hi with hi | rfl
    · simp only [upd_ne _ _ (hne i hi)]; intro k hk; have := h.kid i hi k hk; omega
    · simp only [upd_same]; intro k hk; have := hks k hk; omega
theorem FAt.del (h : FAt base n A kv F w) {x g m cap : Nat} {ks : List Nat} (hx : x < n) (hg : (kv x).ownBlock = some g) (hw : w.grownBy w' (some g)) (hv : Owns base 113 w' (.slice (some ⟨g, 0, none⟩) m cap) (ks.map (nptr A))) (hks : ∀ j ∈ ks, j < n) :
    FAt base n A (upd kv x (.slice (some ⟨g, 0, none⟩) m cap)) { F with kids := upd F.kids x ks } (w'.setCell ⟨A x, 1, none⟩ (.slice (some ⟨g, 0, none⟩) m cap)) := by
  have hold : ∀ i, i < n → w'.heap[A i]? = w.heap[A i]? := fun i hi => hw.block (A i) (h.lt hi) (fun e => h.apart x i hx hi (by rw [hg, e]))
  have hgA : g ≠ A x := fun e => h.apart x x hx hx (by rw [hg, e])
  refine h.put hx (fun i hi e => ?_) ?_ (hv.same fun b hb => blk_setCell_other _ _ _ _ (by have hb : some g = some b := hb; injection hb with hb; subst hb; exact hgA)) (fun i b hi e hb2 => ?_) (fun b hb => .inl (by rw [hg]; exact hb)) hks
  · rw [blk_setCell_other _ _ _ _ (fun e2 => e (h.inj i x hi hx e2))]; exact hold i hi
  · have hn := hold x hx
    rw [h.node x hx] at hn
    simp [World.setCell, Array.getElem?_modify, hn]
  · have hne : b ≠ A x := fun e2 => h.apart i x hi hx (by rw [hb2, e2])
    rw [blk_setCell_other _ _ _ _ hne]
    exact hw.block b (h.ownlt hi hb2).2 (fun e2 => e (h.alone i x b hi hx hb2 (by rw [hg, e2])))
end
def rrS (F : Frs) (h frm x : Nat) : Frs := ⟨F.nm, F.old, upd (upd F.kids x ((F.kids x).filter fun k => !decide (F.old k = (frm : Int)))) h (upd F.kids x ((F.kids x).filter fun k => !decide (F.old k = (frm : Int))) h ++ [x])⟩
structure RrS where
  fr : Frs
  hang : Nat
  frm : Nat
  cur : Int
def rrK (t : Tre) (leaf : Nat) : Nat → RrS
  | 0 => ⟨⟨upd (frT t).nm t.ps.length ByteArray.empty, upd (frT t).old t.ps.length 0, upd (frT t).kids t.ps.length [leaf]⟩, t.ps.length, leaf, gi t.ps leaf⟩
  | i + 1 => if (rrK t leaf i).cur < 0 then rrK t leaf i else ⟨rrS (rrK t leaf i).fr (rrK t leaf i).hang (rrK t leaf i).frm (rrK t leaf i).cur.toNat, (rrK t leaf i).cur.toNat, (rrK t leaf i).cur.toNat, gi t.ps (rrK t leaf i).cur.toNat⟩
theorem rrK_go {t : Tre} {leaf i : Nat} (h : ¬ (rrK t leaf i).cur < 0) : rrK t leaf (i + 1) = ⟨rrS (rrK t leaf i).fr (rrK t leaf i).hang (rrK t leaf i).frm (rrK t leaf i).cur.toNat, (rrK t leaf i).cur.toNat, (rrK t leaf i).cur.toNat, gi t.ps (rrK t leaf i).cur.toNat⟩ := by rw [rrK, if_neg h]
theorem rrK_inv {t : Tre} (ht : treeErr t = 0) {leaf : Nat} (hl : leaf < t.ps.length) : ∀ i, (rrK t leaf i).frm < t.ps.length ∧ (rrK t leaf i).hang < t.ps.length + 1 ∧ (rrK t leaf i).cur = gi t.ps (rrK t leaf i).frm ∧ (rrK t leaf i).cur < (rrK t leaf i).frm ∧ ((rrK t leaf i).hang = t.ps.length ∨ (rrK t leaf i).hang = (rrK t leaf i).frm) ∧ -1 ≤ (rrK t leaf i).cur := by
  obtain ⟨hp, _, _, hok, _⟩ := treeErr_zero ht
  have hpar : ∀ k, k < t.ps.length → -1 ≤ gi t.ps k ∧ gi t.ps k < (k : Int) := fun k hk => by
    by_cases h0 : k = 0
    · subst h0
      have := pOkB_at hok hp
      unfold okp at this
      rw [if_pos rfl, beq_iff_eq] at this
      rw [this]; omega
    · have := pOkB_par hok hk (by omega); omega
  intro i
  induction i with
  | zero => exact ⟨hl, by show t.ps.length < _; omega, rfl, (hpar leaf hl).2, .inl rfl, (hpar leaf hl).1⟩
  | succ i ih =>
    by_cases hc : (rrK t leaf i).cur < 0
    · rw [rrK, if_pos hc]; exact ih
    · rw [rrK_go hc]
      have hx : (rrK t leaf i).cur.toNat < t.ps.length := by omega
      exact ⟨hx, by show (rrK t leaf i).cur.toNat < _; omega, rfl, (hpar _ hx).2, .inr rfl, (hpar _ hx).1⟩
end Go.Proofs.YtpjijbophjdgaaaGreat
