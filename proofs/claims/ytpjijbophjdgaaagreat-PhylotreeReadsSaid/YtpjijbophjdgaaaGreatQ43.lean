/- The contract of layer 31's reference's Parse. The contract of slices.DeleteFunc at nodes. -/
import Derived.Test.YtpjijbophjdgaaaGreatQ37
import Derived.Test.YtpjijbophjdgaaaGreatQ42
import Derived.Test.YtpjijbophjdgaaaGreatQ23
import Derived.Test.YtpjijbophjdgaaaGreatQ41
namespace Go.Proofs.YtpjijbophjdgaaaGreat
open Go.RowKit Go.Deep
theorem par_none {s : List UInt8} (h : ∀ r, rdn s ≠ some (r, [59])) : paR s = none := by
  cases e : paR s with
  | none => rfl
  | some r => exact absurd (rdn_par.2 e) (h r)
set_option maxRecDepth 100000 in
set_option maxHeartbeats 4000000 in
theorem parse31R_t (w : World) (s : ByteArray) (hs : s.size ≤ 1000) : Calls Tryz.prog 47 #[.string s] w (PaPost w s) := by
  have hrb := box_at (w := w) (P := .slice none 0 0) (N := .slice none 0 0) (T := 45)
  have hu := Up.alloc w (.cells #[.slice none 0 0, .slice none 0 0] 45)
  have hsz : (w.alloc (.cells #[.slice none 0 0, .slice none 0 0] 45)).heap.size = w.heap.size + 1 := World.size_alloc _ _
  have HU := Lib.hid hu
  have HSZ := Lib.hid hsz
  have HRB := Lib.hid hrb
  have HBD := Lib.hid hs
  have d1 : decide ((65536 : Int) < (s.size : Int)) = false := decide_eq_false (by omega)
  have d1n : ¬ 65536 < s.size := by omega
  have HRD := Lib.hid (fun W => read31R_t s.size s rfl hs W 0 (by omega))
  clear hrb hu hsz hs
  go_enter Tryz.func47, Tryz.ntmps47
  go_wp2_with fail
  clear d1 d1n
  generalize w.alloc (.cells #[.slice none 0 0, .slice none 0 0] 45) = w1 at *
  refine (HRD.out w1).mono ?_
  rintro e w2 ⟨hu2, hm⟩
  have HU2 := Lib.hid (HU.out.trans hu2)
  have HRB2 := Lib.hid ((Below.block hu2 w.heap.size (by rw [HSZ.out]; omega)).trans HRB.out)
  have HS2 : Hid (w.heap.size + 1 ≤ w2.heap.size) := by have := hu2.size; rw [HSZ.out] at this; exact this
  clear hu2 HRD HU HSZ HRB
  cases hr : rdn s.data.toList with
  | none =>
    rw [hr] at hm
    subst hm
    have HST := Lib.hid (pa_err HU2.out HRB2.out (par_none fun r e => by rw [hr] at e; cases e))
    obtain ⟨q0, q1, q2, q3⟩ := boxed HRB2.out
    clear hr
    go_wp2_with fail
    obtain ⟨s1, s2, s3⟩ := HST.out
    exact ⟨rfl, .tuple #[.agg #[.slice none 0 0, .slice none 0 0], .int .i64 3], by simp [results, Tryz.results47, go_sem, s1, s2], s3⟩
  | some q =>
    obtain ⟨r, l⟩ := q
    rw [hr] at hm
    obtain ⟨v2, rfl, hr2⟩ := hm
    obtain ⟨b2, rfl⟩ := rat_ptr hr2
    by_cases hl : l = [59]
    · subst hl
      have hpr : paR s.data.toList = some r := rdn_par.1 hr
      have hsl : s.data.toList.length = s.size := by rw [Array.length_toList]; rfl
      obtain ⟨rs1, rs2, rs3⟩ := read_size hpr
      have hsr := rdn_size hr
      rw [hsl] at rs1 rs2 hsr
      have HRS1 : Hid ((flat r).ps.length ≤ 1000000) := by unfold Hid; have := HBD.out; omega
      have HRS2 : Hid ((flat r).ns.length ≤ 1000000) := by unfold Hid; have := HBD.out; omega
      have HRS3 : Hid (∀ k, (gs (flat r).ns k).size ≤ 70000) := fun j => by have := rs3 j; rw [hsl] at this; have := HBD.out; omega
      have HNB := Lib.hid (number_t _ w2 _ r hr2 (by have := HBD.out; omega))
      have HPR := Lib.hid hpr
      have t1 : (bL [59]).toList = [59] := by rw [toList_data]; rfl
      have t2 : ((bL [59]).toList == [59]) = true := by rw [t1]; rfl
      generalize bL [59] = ub at *
      obtain ⟨q0, q1, q2, q3⟩ := boxed HRB2.out
      clear rs1 rs2 rs3 hsr hsl hpr hr hr2
      go_wp2_with fail
      refine HNB.out.mono ?_
      rintro e w4 ⟨hu4, _, rfl, P4, N4, rfl, hP4, hN4⟩
      obtain ⟨pp, pc, rfl, -, -⟩ := SlAt.open hP4
      obtain ⟨np, nc, rfl, -, -⟩ := SlAt.open hN4
      have hP4 : IntsAt _ w4 (.slice pp (flat r).ps.length pc) (flat r).ps := hP4
      have hN4 : StrsAt _ w4 (.slice np (flat r).ns.length nc) (flat r).ns := hN4
      have hal := Up.alloc w4 (.cells #[.slice pp (flat r).ps.length pc, .slice np (flat r).ns.length nc] 45)
      have b0 := box2_0 w4 (.slice pp (flat r).ps.length pc) (.slice np (flat r).ns.length nc) 45
      have b1 := box2_1 w4 (.slice pp (flat r).ps.length pc) (.slice np (flat r).ns.length nc) 45
      have HB0 := Lib.hid b0
      have HB1 := Lib.hid b1
      have hrb5 := (Below.block (hu4.trans hal) w.heap.size (by have := HS2.out; omega)).trans HRB2.out
      have HRB5 := Lib.hid hrb5
      have HUW5 := Lib.hid (HU2.out.trans (hu4.trans hal))
      have HT5 : Hid (TreeAt (fun b => w2.heap.size ≤ b) (w4.alloc (.cells #[.slice pp (flat r).ps.length pc, .slice np (flat r).ns.length nc] 45)) (.agg #[.slice pp (flat r).ps.length pc, .slice np (flat r).ns.length nc]) (flat r)) := TreeAt.keep ⟨_, _, rfl, hP4, hN4⟩ (hal.kept _)
      have HCK := Lib.hid (checkR_t _ _ _ (flat r) HT5.out HRS1.out HRS2.out HRS3.out)
      have HS5 : Hid (w2.heap.size ≤ (w4.alloc (.cells #[.slice pp (flat r).ps.length pc, .slice np (flat r).ns.length nc] 45)).heap.size) := (hu4.trans hal).size
      clear hu4 hP4 hN4 hal HNB hrb5 HRB2 HU2 q0 q1 q2 q3 t1 t2
      go_wp2_with fail
      generalize w4.alloc (.cells #[.slice pp (flat r).ps.length pc, .slice np (flat r).ns.length nc] 45) = w5 at *
      refine HCK.out.mono ?_
      rintro e w6 ⟨rfl, hu6⟩
      have hu6 : Up w5 w6 := hu6
      have b0 := hu6.cell HB0.out
      have b1 := hu6.cell HB1.out
      have hrb6 := (Below.block hu6 w.heap.size (by have := HS2.out; have := HS5.out; omega)).trans HRB5.out
      have HRB6 := Lib.hid hrb6
      have HUW6 := Lib.hid (HUW5.out.trans hu6)
      have HT6 := Lib.hid (HT5.out.keep (hu6.kept _))
      obtain ⟨q0, q1, q2, q3⟩ := boxed hrb6
      have HPE : Hid (paE s = treeErr (flat r)) := by unfold Hid paE; rw [HPR.out]
      have HPT : Hid (paT s = if treeErr (flat r) ≠ 0 then ⟨[], []⟩ else flat r) := by unfold Hid paT; rw [HPR.out]
      clear hu6 hrb6 HCK
      by_cases he : treeErr (flat r) = 0
      · have HPT0 : Hid (paT s = flat r) := by unfold Hid; rw [HPT.out, if_neg (by simp [he])]
        have HPE0 : Hid (paE s = 0) := by unfold Hid; rw [HPE.out, he]
        rw [he]
        have HST := Lib.hid (store_two (w := w) (p := .slice pp (flat r).ps.length pc) (q := .slice np (flat r).ns.length nc) HRB6.out (Nat.le_refl _) HUW6.out)
        clear he
        go_wp2_with fail
        obtain ⟨s1, s2, s3, s4⟩ := HST.out
        obtain ⟨P7, N7, e7, hP7, hN7⟩ := HT6.out
        have e8 : P7 = .slice pp (flat r).ps.length pc ∧ N7 = .slice np (flat r).ns.length nc := by
          injection e7 with e7
          have := congrArg Array.toList e7
          simp at this
          exact ⟨this.1.symm, this.2.symm⟩
        obtain ⟨rfl, rfl⟩ := e8
        have hsw := HS2.out
        refine ⟨rfl, .tuple #[.agg #[.slice pp (flat r).ps.length pc, .slice np (flat r).ns.length nc], .int .i64 0], by simp [results, Tryz.results47, go_sem, s2, s3], ?_⟩
        refine ⟨s1, _, by rw [HPE0.out], ?_⟩
        rw [HPT0.out]
        exact ⟨_, _, rfl, (IntsAt.keep hP7 fun b hb _ => s4 b (by have : w2.heap.size ≤ b := hb; omega)).sub fun _ _ _ => trivial, (StrsAt.keep hN7 fun b hb _ => s4 b (by have : w2.heap.size ≤ b := hb; omega)).sub fun _ _ _ => trivial⟩
      · have he1 : (treeErr (flat r) != 0) = true := by simpa using he
        have HPT0 : Hid (paT s = ⟨[], []⟩) := by unfold Hid; rw [HPT.out, if_pos he]
        have HST := Lib.hid (store_two (w := w) (p := .slice none 0 0) (q := .slice none 0 0) HRB6.out (Nat.le_refl _) HUW6.out)
        clear he
        generalize hte : treeErr (flat r) = te at *
        go_wp2_with fail
        obtain ⟨s1, s2, s3, s4⟩ := HST.out
        refine ⟨rfl, .tuple #[.agg #[.slice none 0 0, .slice none 0 0], .int .i64 te], by simp [results, Tryz.results47, go_sem, s2, s3], ?_⟩
        refine ⟨s1, _, by rw [HPE.out], ?_⟩
        rw [HPT0.out]; exact nil_tree _
    · have HST := Lib.hid (pa_err HU2.out HRB2.out (par_none fun r' e => by rw [hr] at e; injection e with e; injection e with _ e; exact hl e))
      obtain ⟨q0, q1, q2, q3⟩ := boxed HRB2.out
      have t1 : ((bL l).toList == [59]) = false := by
        rw [beq_eq_false_iff_ne, toList_data]
        exact hl
      have t2 : ¬ (bL l).toList = [59] := by
        rw [toList_data]
        exact hl
      clear hr hr2 hl
      generalize bL l = ub at *
      go_wp2_with fail
      obtain ⟨s1, s2, s3⟩ := HST.out
      exact ⟨rfl, .tuple #[.agg #[.slice none 0 0, .slice none 0 0], .int .i64 3], by simp [results, Tryz.results47, go_sem, s1, s2], s3⟩
end Go.Proofs.YtpjijbophjdgaaaGreat
namespace Go.Proofs.YtpjijbophjdgaaaGreat
open Go.RowKit Go.Deep
def keepF (P : Nat → Bool) (ks : List Nat) (j : Nat) : List Nat := (ks.take j).filter fun k => !P k
theorem keepF_len (P : Nat → Bool) (ks : List Nat) (j : Nat) : (keepF P ks j).length ≤ j := by
  unfold keepF
  refine Nat.le_trans (List.length_filter_le _ _) ?_
  rw [List.length_take]; omega
theorem keepF_succ (P : Nat → Bool) {ks : List Nat} {j : Nat} (hj : j < ks.length) : keepF P ks (j + 1) = if P (ks.getD j 0) then keepF P ks j else keepF P ks j ++ [ks.getD j 0] := by
  unfold keepF
  have hg : ks.getD j 0 = ks[j] := by rw [List.getD_eq_getElem?_getD, List.getElem?_eq_getElem hj]; rfl
  rw [List.take_succ_eq_append_getElem hj, List.filter_append, hg]
  cases h : P ks[j]
  · rw [if_neg (by decide), List.filter_cons_of_pos (by rw [h]; rfl)]; rfl
  · rw [if_pos rfl, List.filter_cons_of_neg (by rw [h]; decide)]; simp
structure DfW (A : Nat → Nat) (P : Nat → Bool) (base : Nat) (w wr : World) (g cap : Nat) (ks : List Nat) (j : Nat) (X : List Value) : Prop where
  own : Owns base 113 wr (.slice (some ⟨g, 0, none⟩) ks.length cap) X
  len : X.length = ks.length
  head : X.take (keepF P ks j).length = (keepF P ks j).map (nptr A)
  rest : ∀ q, j ≤ q → X[q]? = (ks.map (nptr A))[q]?
  up : w.grownBy wr (some g)
section
variable {A : Nat → Nat} {P : Nat → Bool} {base : Nat} {w wr : World} {g cap : Nat} {ks : List Nat} {X : List Value}
theorem DfW.start (h : Owns base 113 w (.slice (some ⟨g, 0, none⟩) ks.length cap) (ks.map (nptr A))) {j : Nat} (hj : j < ks.length) (hno : ∀ i, i < j → P (ks.getD i 0) = false) (hP : P (ks.getD j 0) = true) (m : Nat) :
    DfW A P base w (w.drewN m) g cap ks (j + 1) (ks.map (nptr A)) ∧ (keepF P ks (j + 1)).length = j := by
  have hk : ∀ i, i ≤ j → keepF P ks i = ks.take i := by
    intro i
    induction i with
    | zero => intro _; rfl
    | succ i ih =>
      intro hi
      rw [keepF_succ P (show i < ks.length by omega), hno i (by omega), if_neg (by decide), ih (by omega), List.take_succ_eq_append_getElem (show i < ks.length by omega)]
      congr 2
      rw [List.getD_eq_getElem?_getD, List.getElem?_eq_getElem (show i < ks.length by omega)]; rfl
  have e : keepF P ks (j + 1) = ks.take j := by rw [keepF_succ P hj, hP, if_pos rfl, hk j (Nat.le_refl _)]
  have hl : (ks.take j).length = j := by rw [List.length_take]; omega
  refine ⟨⟨h.same2 fun _ _ => rfl, List.length_map _, ?_, fun _ _ => rfl, grown_up (Up.drewN w m) _⟩, by rw [e, hl]⟩
  rw [e, hl, List.map_take]
theorem DfW.skip {j : Nat} (h : DfW A P base w wr g cap ks j X) (hj : j < ks.length) (hP : P (ks.getD j 0) = true) (m : Nat) : DfW A P base w (wr.drewN m) g cap ks (j + 1) X :=
  ⟨h.own.same2 fun _ _ => rfl, h.len, by rw [keepF_succ P hj, if_pos hP]; exact h.head, fun q hq => h.rest q (by omega), grown_trans h.up (grown_up (Up.drewN wr m) _)⟩
theorem DfW.up_drew {j : Nat} (h : DfW A P base w wr g cap ks j X) (m : Nat) : DfW A P base w (wr.drewN m) g cap ks j X :=
  ⟨h.own.same2 fun _ _ => rfl, h.len, h.head, h.rest, grown_trans h.up (grown_up (Up.drewN wr m) _)⟩
theorem DfW.at {j : Nat} (h : DfW A P base w wr g cap ks j X) (hj : j < ks.length) : wr.cell? ⟨g, j, none⟩ = some (.pointer (some ⟨A (ks.getD j 0), 0, none⟩)) := by
  have hke : ks[j]? = some (ks.getD j 0) := by rw [List.getD_eq_getElem?_getD, List.getElem?_eq_getElem hj]; rfl
  exact (owns_cell h.own (j := j) (u := nptr A (ks.getD j 0)) (by rw [h.rest j (Nat.le_refl _), List.getElem?_map, hke]; rfl)).1
theorem DfW.push {j : Nat} (h : DfW A P base w wr g cap ks j X) (hj : j < ks.length) (hP : P (ks.getD j 0) = false) :
    (∃ x, wr.cell? ⟨g, (keepF P ks j).length, none⟩ = some x) ∧ wr.frozen? ⟨g, (keepF P ks j).length, none⟩ = false ∧ (keepF P ks (j + 1)).length = (keepF P ks j).length + 1 ∧
      ∃ X', DfW A P base w (wr.setCell ⟨g, (keepF P ks j).length, none⟩ (.pointer (some ⟨A (ks.getD j 0), 0, none⟩))) g cap ks (j + 1) X' := by
  have hle := keepF_len P ks j
  obtain ⟨g2, cap2, e1, _, _, hc, hf, hs⟩ := h.own.set (j := (keepF P ks j).length) (by rw [h.len]; omega)
  injection e1 with a1 a2 a3
  injection a1 with a1
  injection a1 with a1
  subst a1
  have hk := keepF_succ P hj
  rw [if_neg (by rw [hP]; decide)] at hk
  have hl : (keepF P ks (j + 1)).length = (keepF P ks j).length + 1 := by rw [hk, List.length_append]; rfl
  refine ⟨⟨_, hc⟩, hf, hl, X.set (keepF P ks j).length (nptr A (ks.getD j 0)), hs _, by rw [List.length_set]; exact h.len, ?_, fun q hq => ?_, grown_trans h.up grown_set⟩
  · rw [hl, hk, List.map_append, ← h.head]
    have hlt : (keepF P ks j).length < (X.set (keepF P ks j).length (nptr A (ks.getD j 0))).length := by rw [List.length_set, h.len]; omega
    rw [List.take_succ_eq_append_getElem hlt, List.take_set_of_le (Nat.le_refl _), List.getElem_set_self]; rfl
  · rw [List.getElem?_set_ne (by omega)]; exact h.rest q (by omega)
theorem DfW.done {m : Nat} (h : DfW A P base w wr g cap ks ks.length X) (hm : (keepF P ks ks.length).length = m) (hlt : m < ks.length) :
    (∀ i, i < ks.length - m → (wr.cell? ⟨g, m + i, none⟩).isSome = true) ∧ (∀ i, i < ks.length - m → wr.frozen? ⟨g, m + i, none⟩ = false) ∧
      Owns base 113 (wr.setCells g m (List.replicate (ks.length - m) (.pointer none))) (.slice (some ⟨g, 0, none⟩) m cap) ((ks.filter fun k => !P k).map (nptr A)) ∧
      w.grownBy (wr.setCells g m (List.replicate (ks.length - m) (.pointer none))) (some g) := by
  have hall : keepF P ks ks.length = ks.filter fun k => !P k := by unfold keepF; rw [List.take_length]
  have hcell : ∀ i, i < ks.length - m → wr.cell? ⟨g, m + i, none⟩ = some (X.getD (m + i) undef) ∧ wr.frozen? ⟨g, m + i, none⟩ = false := fun i hi => by
    have hl : m + i < X.length := by rw [h.len]; omega
    exact owns_cell h.own (by rw [List.getD_eq_getElem?_getD, List.getElem?_eq_getElem hl]; rfl)
  refine ⟨fun i hi => by rw [(hcell i hi).1]; rfl, fun i hi => (hcell i hi).2, ?_, grown_trans h.up (grown_sets _ _ _)⟩
  refine owns_tails _ _ _ (Nat.le_refl _) ?_
  have := owns_take h.own (m := m) (by omega)
  rw [← hm, h.head] at this
  rw [← hm, ← hall]; exact this
end
theorem Tryz.zeroNd : ∀ w, (zeroValue 113).run Tryz.prog w = .ok (.pointer none) w := fun w => by simp [Tryz.zeroValue113]
theorem owns_cap {base : Nat} {e : TypeId} {w : World} {g n cap : Nat} {xs : List Value} (h : Owns base e w (.slice (some ⟨g, 0, none⟩) n cap) xs) : n ≤ cap := by
  obtain ⟨h1, h2⟩ := h
  rcases h2 with ⟨e1, _⟩ | ⟨g2, cap2, cur, e1, hg, hc, hn, _⟩
  · cases e1
  · injection e1 with a1 a2 a3
    omega
theorem qd_trans {w w' w'' : World} (h : QD w w') (k : QD w' w'') : QD w w'' := by
  obtain ⟨n, rfl⟩ := h
  obtain ⟨m, rfl⟩ := k
  exact (QD.refl w).drewN n |>.drewN m
theorem first_or (p : Nat → Bool) : ∀ n, (∀ j, j < n → p j = false) ∨ ∃ j, j < n ∧ p j = true ∧ ∀ i, i < j → p i = false
  | 0 => .inl fun j hj => absurd hj (Nat.not_lt_zero _)
  | n + 1 => by
    rcases first_or p n with h | ⟨j, h1, h2, h3⟩
    · cases hp : p n
      · exact .inl fun j hj => if e : j = n then by subst e; exact hp else h j (by omega)
      · exact .inr ⟨n, by omega, hp, h⟩
    · exact .inr ⟨j, by omega, h2, h3⟩
set_option maxRecDepth 100000 in
set_option maxHeartbeats 2000000 in
theorem delete_node_t {A : Nat → Nat} {P : Nat → Bool} (g : Nat) (lb : Array Value) (eg : ∀ args w, (callFunc g args).run Tryz.prog w = .ok (.enter g args) w) {base : Nat} {w : World} {bk cap : Nat} {ks : List Nat} (h : Owns base 113 w (.slice (some ⟨bk, 0, none⟩) ks.length cap) (ks.map (nptr A))) (hn : ks.length ≤ 1000000)
    (hp : ∀ k ∈ ks, ∀ W, w.grownBy W (some bk) → Calls Tryz.prog g (#[.pointer (some ⟨A k, 0, none⟩)] ++ lb) W fun e W' => e = .returned (.bool (P k)) ∧ ∃ m, W' = W.drewN m) :
    Calls Tryz.prog 95 #[.slice (some ⟨bk, 0, none⟩) ks.length cap, .func (.func g) #[] lb] w fun e w' => ∃ m, e = .returned (.slice (some ⟨bk, 0, none⟩) m cap) ∧ Owns base 113 w' (.slice (some ⟨bk, 0, none⟩) m cap) ((ks.filter fun k => !P k).map (nptr A)) ∧ w.grownBy w' (some bk) := by
  have HIX := Lib.hid (index_node_t (P := P) g lb eg h hn fun k hk q => (hp k hk (w.drewN q) (grown_up (Up.drewN w q) _)).mono fun _ _ h => ⟨h.1, qd_trans ⟨q, rfl⟩ h.2⟩)
  have HO := Lib.hid h
  have HP := Lib.hid hp
  obtain ⟨cap0, hcap⟩ : ∃ c, c = cap := ⟨_, rfl⟩
  clear h hp
  rcases first_or (fun j => P (ks.getD j 0)) ks.length with hno | ⟨j0, hj0, hP0, hno⟩
  · have hall : ks.filter (fun k => !P k) = ks := by
      rw [List.filter_eq_self]
      intro k hk
      obtain ⟨j, hj, e⟩ := List.getElem_of_mem hk
      have := hno j hj
      rw [show ks.getD j 0 = k by rw [List.getD_eq_getElem?_getD, List.getElem?_eq_getElem hj, e]; rfl] at this
      rw [this]; rfl
    rw [firstIx_none hno] at HIX
    have HA := Lib.hid hall
    clear hno hall hcap
    go_enter Tryz.func95, Tryz.ntmps95
    go_wp2_with fail
    refine HIX.out.mono ?_
    rintro e w1 ⟨rfl, m, rfl⟩
    go_wp2_with fail
    go_ret
    exact ⟨ks.length, rfl, by rw [HA.out]; exact HO.out.same2 fun _ _ => rfl, grown_up (Up.drewN w m) _⟩
  · rw [firstIx_at hj0 hno hP0] at HIX
    have HST := Lib.hid (fun m => (HO.out |> fun h => DfW.start h hj0 hno hP0 m))
    have hjn : (j0 : Int) < (ks.length : Int) := by omega
    have HJ0 := Lib.hid hj0
    have e1 : ((j0 : Int) == -1) = false := beq_eq_false_iff_ne.2 (by omega)
    clear hno hP0 hj0 hcap
    go_enter Tryz.func95, Tryz.ntmps95
    go_wp2_with fail
    refine HIX.out.mono ?_
    rintro e w1 ⟨rfl, m1, rfl⟩
    obtain ⟨hS1, hS2⟩ := HST.out m1
    have HS1 := Lib.hid hS1
    have HS2 := Lib.hid hS2
    clear hS1 hS2 HST
    go_wp2_with fail
    go_loopw [5, 6, 7] (fun x y _ wr => ∃ j : Nat, j0 < j ∧ j ≤ ks.length ∧ y = .int .i64 j ∧ x = .int .i64 ((keepF P ks j).length : Nat) ∧ Hid (∃ X, DfW A P base w wr bk cap ks j X) ∧ Hid ((keepF P ks j).length < j)) (fun _ y _ _ => ks.length - (intOf y).toNat)
    case atStart => exact ⟨j0 + 1, by omega, HJ0.out, by go_num, by rw [HS2.out], ⟨_, HS1.out⟩, by unfold Hid; rw [HS2.out]; omega⟩
    case round =>
      obtain ⟨j, hj1, hj, rfl, rfl, hX, hK⟩ := hrel
      obtain ⟨wo, rfl⟩ : ∃ wo : World, wo = wr := ⟨_, rfl⟩
      obtain ⟨X, hX⟩ := hX.out
      by_cases hlt : j < ks.length
      · have hx := hX.at hlt
        have i1 : (0 : Int) ≤ (j : Int) := by omega
        have i2 : (j : Int) < (ks.length : Int) := by omega
        have hmem : ks.getD j 0 ∈ ks := by
          rw [List.getD_eq_getElem?_getD, List.getElem?_eq_getElem hlt]; exact List.getElem_mem hlt
        have HPK := Lib.hid (HP.out _ hmem wo hX.up)
        have HLT := Lib.hid hlt
        have HXX := Lib.hid hX
        have HJ1 := Lib.hid hj1
        have n1 : (0 : Int) ≤ ((keepF P ks j).length : Int) := by omega
        have n2 : ((keepF P ks j).length : Int) < (ks.length : Int) := by have := hK.out; omega
        have HSK : Hid (P (ks.getD j 0) = true → (keepF P ks (j + 1)).length = (keepF P ks j).length) := fun hv => by rw [keepF_succ P hlt, if_pos hv]
        clear hmem hX
        cases hv : P (ks.getD j 0)
        · rw [hv] at HPK
          have HPU := Lib.hid (fun m => (HXX.out.up_drew m).push hlt hv)
          clear hv HSK
          generalize ks.getD j 0 = c at *
          go_wp2_with fail
          refine HPK.out.mono ?_
          rintro e w2 ⟨rfl, m, rfl⟩
          obtain ⟨⟨cx, hcx⟩, hff, hl, X', hX'⟩ := HPU.out m
          have HX' := Lib.hid hX'
          have HL := Lib.hid hl
          clear hX' hl
          go_wp2_with fail
          go_roundw
          case rel => exact ⟨j + 1, by have := HJ1.out; omega, HLT.out, by go_num, by rw [HL.out]; go_num, ⟨X', HX'.out⟩, by unfold Hid; have := hK.out; rw [HL.out]; omega⟩
          case measure => have := HLT.out; simp [intOf]; omega
        · rw [hv] at HPK
          have HN := Lib.hid (fun m => HXX.out.skip hlt hv m)
          have HL := Lib.hid (HSK.out hv)
          clear hv HSK
          generalize ks.getD j 0 = c at *
          go_wp2_with fail
          refine HPK.out.mono ?_
          rintro e w2 ⟨rfl, m, rfl⟩
          go_wp2_with fail
          go_roundw
          case rel => exact ⟨j + 1, by have := HJ1.out; omega, HLT.out, by go_num, by rw [HL.out], ⟨X, HN.out m⟩, by unfold Hid; have := hK.out; rw [HL.out]; omega⟩
          case measure => have := HLT.out; simp [intOf]; omega
      · obtain rfl : j = ks.length := by omega
        obtain ⟨mm, hmm⟩ : ∃ mm, (keepF P ks ks.length).length = mm := ⟨_, rfl⟩
        have hml : mm < ks.length := by rw [← hmm]; exact hK.out
        obtain ⟨hc, hf, ho, hg⟩ := hX.done hmm hml
        have HO2 := Lib.hid ho
        have HG2 := Lib.hid hg
        have hcl := Lib.run_clear_slice (P := Tryz.prog) wo 111 113 0 (.pointer none) Tryz.underlying111 Tryz.zeroNd rfl rfl bk mm (ks.length - mm) (cap - mm) (by omega) hc hf
        rw [hmm]
        have n1 : (0 : Int) ≤ (mm : Int) := by omega
        have n2 : (mm : Int) ≤ (ks.length : Int) := by omega
        have n3 : (mm : Int) < (ks.length : Int) := by omega
        clear hc hf ho hg hlt hj hX hK hmm
        have c1 : ks.length ≤ cap := owns_cap HO.out
        have c2 : mm ≤ cap := by omega
        have c3 : (mm : Int) ≤ (cap : Int) := by omega
        go_wp2_with fail
        go_ret
        exact ⟨mm, rfl, HO2.out, HG2.out⟩
end Go.Proofs.YtpjijbophjdgaaaGreat
