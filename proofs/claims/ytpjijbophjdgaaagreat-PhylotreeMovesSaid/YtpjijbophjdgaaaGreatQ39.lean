/- The text of a tree: phylotree.Print$1. -/
import Derived.Test.YtpjijbophjdgaaaGreatQ38
import Derived.Test.YtpjijbophjdgaaaGreatQ5
import Derived.Test.YtpjijbophjdgaaaGreatQ27
import Derived.Test.YtpjijbophjdgaaaGreatQ15
import Derived.Lib.MinMax
namespace Go.Proofs.YtpjijbophjdgaaaGreat
open Go.RowKit Go.Deep
mutual
def txR : RT → List UInt8
  | .node nm [] => nm.data.toList
  | .node _ (k :: ks) => 40 :: (txR k ++ txRs ks ++ [41])
def txRs : List RT → List UInt8
  | [] => []
  | r :: rs => 44 :: (txR r ++ txRs rs)
end
def txK : List RT → List UInt8
  | [] => []
  | k :: ks => 40 :: (txR k ++ txRs ks)
theorem txRs_app (l : List RT) (c : RT) : txRs (l ++ [c]) = txRs l ++ 44 :: txR c := by
  induction l with
  | nil => simp [txRs]
  | cons a l ih => rw [List.cons_append, txRs, txRs, ih]; simp
theorem txK_app (l : List RT) (c : RT) : txK (l ++ [c]) = txK l ++ (if l.length = 0 then 40 else 44) :: txR c := by
  cases l with
  | nil => simp [txK, txRs]
  | cons a l => rw [List.cons_append, txK, txK, txRs_app, if_neg (by simp)]; simp
theorem txR_node (nm : ByteArray) {ks : List RT} (h : ks ≠ []) : txR (.node nm ks) = txK ks ++ [41] := by
  cases ks with
  | nil => exact absurd rfl h
  | cons k ks => rw [txR, txK]; simp
theorem txR_leaf (nm : ByteArray) : txR (.node nm []) = nm.data.toList := by rw [txR]
theorem txRs_len_app (l m : List RT) : (txRs (l ++ m)).length = (txRs l).length + (txRs m).length := by
  induction l with
  | nil => simp [txRs]
  | cons a l ih => rw [List.cons_append, txRs, txRs]; simp [ih]; omega
theorem txK_len_take (l : List RT) (k : Nat) : (txK (l.take k)).length ≤ (txK l).length := by
  cases l with
  | nil => simp [txK]
  | cons a l =>
    cases k with
    | zero => simp [txK]
    | succ k =>
      rw [List.take_succ_cons, txK, txK]
      have := txRs_len_app (l.take k) (l.drop k)
      rw [List.take_append_drop] at this
      simp only [List.length_cons, List.length_append]; omega
structure BldAt (B b : Nat) (pre : List UInt8) (w wr : World) : Prop where
  bl : Lib.IsBuilderF 130 5 B b (Lib.byteCells pre) wr
  up : Below B w wr
  ot : Lib.OthersKept 5 (some b) w wr
theorem BldAt.size {B b : Nat} {pre : List UInt8} {w wr : World} (h : BldAt B b pre w wr) (hB : B ≤ w.heap.size) : B ≤ wr.heap.size := Nat.le_trans hB h.up.size
theorem BldAt.byte {B b : Nat} {pre : List UInt8} {w wr w2 : World} {x : UInt8} {c : Int} (h : BldAt B b pre w wr) (hc : c = x.toNat) (h1 : Lib.BuilderAtF 130 5 B b (.pointer (some ⟨b, 0, none⟩)) (Lib.byteCells pre ++ [.int .u8 c]) w2) (h2 : Below B wr w2) (h3 : Lib.OthersKept 5 (some b) wr w2) : BldAt B b (pre ++ [x]) w w2 := by
  subst hc
  exact ⟨.inr (by rw [show Lib.byteCells (pre ++ [x]) = Lib.byteCells pre ++ [.int .u8 x.toNat] from List.map_append]; exact h1), h.up.trans h2, h.ot.trans h3⟩
theorem BldAt.next {B b : Nat} {pre pre2 : List UInt8} {w wr w2 : World} (h : BldAt B b pre w wr) (k : BldAt B b pre2 wr w2) : BldAt B b pre2 w w2 := ⟨k.bl, h.up.trans k.up, h.ot.trans k.ot⟩
theorem FAt.others {base n b : Nat} {A : Nat → Nat} {kv : Nat → Value} {F : Frs} {w w' : World} (h : FAt base n A kv F w) (hb : b < base) (k : Lib.OthersKept 5 (some b) w w') : FAt base n A kv F w' := by
  refine h.same (fun i hi => ?_) fun i g hi hg => ?_
  · have h1 := h.node i hi
    rw [h1]
    refine k _ _ h1 (fun e => by have := h.lo i hi; cases e; omega) (fun c fz e => ?_)
    injection e with _ e2 _
    exact absurd e2 (by decide)
  · have hlo := (h.ownlt hi hg).1
    obtain ⟨_, h1 | ⟨g2, cap, cur, h1, _, hc, _⟩⟩ := h.own i hi
    · rw [h1.1] at hg; cases hg
    · rw [h1] at hg
      have hg : some g2 = some g := hg
      injection hg with hg; subst hg
      rw [hc]
      refine k _ _ hc (fun e => by cases e; omega) (fun c fz e => ?_)
      injection e with _ e2 _
      exact absurd e2 (by decide)
def PrBox (b fb : Nat) (w : World) : Prop := w.heap[fb]? = some (Obj.cells #[.func (.func 105) #[] #[.pointer (some ⟨b, 0, none⟩), .pointer (some ⟨fb, 0, none⟩)]] 131 (0, 0))
theorem PrBox.cell {b fb : Nat} {w : World} (h : PrBox b fb w) : w.cell? ⟨fb, 0, none⟩ = some (.func (.func 105) #[] #[.pointer (some ⟨b, 0, none⟩), .pointer (some ⟨fb, 0, none⟩)]) := by
  have h : w.heap[fb]? = _ := h
  simp [World.cell?, h]
theorem PrBox.others {b fb : Nat} {w w' : World} (h : PrBox b fb w) (hne : fb ≠ b) (k : Lib.OthersKept 5 (some b) w w') : PrBox b fb w' := by
  have h : w.heap[fb]? = _ := h
  refine k _ _ h (fun e => by cases e; exact hne rfl) (fun c fz e => ?_)
  injection e with _ e2 _
  exact absurd e2 (by decide)
def PtPost (B b : Nat) (pre : List UInt8) (w : World) (e : Ending) (w' : World) : Prop := e = .returned (.tuple #[]) ∧ BldAt B b pre w w'
set_option maxRecDepth 100000 in
set_option maxHeartbeats 4000000 in
theorem print1_t {base n B b fb : Nat} {A : Nat → Nat} {kv : Nat → Value} {F : Frs} {rk : Nat → Nat} (hw : Wf F n rk) (hl : ∀ z, z < n → (F.kids z).length ≤ 1000) (hbb : b < base) (hfb : fb ≠ b) : ∀ (d i : Nat) (pre : List UInt8) (w : World), i < n → rk i ≤ d → FAt base n A kv F w → PrBox b fb w →
    Lib.IsBuilderF 130 5 B b (Lib.byteCells pre) w → pre.length + (txR (toRF F rk i)).length ≤ 140737488355328 → B ≤ w.heap.size →
    Calls Tryz.prog 105 (#[.pointer (some ⟨A i, 0, none⟩)] ++ #[.pointer (some ⟨b, 0, none⟩), .pointer (some ⟨fb, 0, none⟩)]) w (PtPost B b (pre ++ txR (toRF F rk i)) w) := by
  intro d
  induction d using Nat.strongRecOn with
  | ind d ih =>
    intro i pre w hi hd hF hbx hbl hlen hB
    have eP : ∀ args w, (callFunc 105 args).run Tryz.prog w = .ok (.enter 105 args) w := enters_of Tryz.func105 (by kernel_rfl) rfl
    have hown := hF.own i hi
    obtain ⟨q, cap, hv, hq⟩ := hown.form (n := (F.kids i).length) (by simp)
    have hkc := hF.kidv hi
    rw [hv] at hkc
    have hnm := hF.name hi
    by_cases h0 : F.kids i = []
    · have htx : txR (toRF F rk i) = (F.nm i).data.toList := by rw [toRF_eq hw hi, h0]; exact txR_leaf _
      rw [htx] at hlen ⊢
      have d1 : (((F.kids i).length : Int) == 0) = true := by rw [h0]; rfl
      have HW := Lib.hid (wstr_t B b (Lib.byteCells pre) (F.nm i) w hbl (by rw [Lib.byteCells_length]; exact hlen) hB)
      have HE : Hid (∀ w', Lib.BuilderAtF 130 5 B b (.pointer (some ⟨b, 0, none⟩)) (Lib.byteCells pre ++ Lib.strCells (F.nm i)) w' → Below B w w' → Lib.OthersKept 5 (some b) w w' → BldAt B b (pre ++ (F.nm i).data.toList) w w') := fun w' h1 h2 h3 =>
        ⟨.inr (by rw [Lib.strCells_eq, ← show Lib.byteCells (pre ++ (F.nm i).data.toList) = Lib.byteCells pre ++ Lib.byteCells (F.nm i).data.toList from List.map_append] at h1; exact h1), h2, h3⟩
      clear hown hq hv ih hF hbx hbl hlen h0 htx
      generalize F.nm i = nm at *
      go_enter Tryz.func105, Tryz.ntmps105
      go_wp2_with fail
      refine HW.out.mono ?_
      rintro e w' ⟨rfl, h1, h2, h3⟩
      have HN := Lib.hid (HE.out w' h1 h2 h3)
      clear h1 h2 h3
      go_wp2_with fail
      go_end0
      exact ⟨rfl, HN.out⟩
    · obtain ⟨L, hLL⟩ : ∃ L, L = F.kids i := ⟨_, rfl⟩
      have hL0 : 0 < L.length := by rw [hLL]; exact List.length_pos_iff.2 h0
      have hl1 : L.length ≤ 1000 := by rw [hLL]; exact hl i hi
      rw [← hLL] at hown hv hkc
      have htx : txR (toRF F rk i) = txK (L.map (toRF F rk)) ++ [41] := by rw [toRF_eq hw hi, ← hLL]; exact txR_node _ (by rw [hLL]; simpa using h0)
      rw [htx] at hlen ⊢
      have d1 : ((L.length : Int) == 0) = false := beq_eq_false_iff_ne.2 (by omega)
      obtain ⟨gk, rfl⟩ : ∃ g, q = some ⟨g, 0, none⟩ := by
        rcases hq with rfl | h
        · obtain ⟨_, h | ⟨g, _, _, h, _⟩⟩ := hown
          · have := h.2; rw [List.length_map] at this; omega
          · rw [hv] at h; cases h
        · exact h
      have HLEN : Hid (∀ k, pre.length + (txK ((L.take k).map (toRF F rk))).length + 1 ≤ 140737488355328) := fun k => by
        have := txK_len_take (L.map (toRF F rk)) k
        rw [← List.map_take] at this
        simp only [List.length_append, List.length_cons, List.length_nil] at hlen
        omega
      have HST : Hid (BldAt B b (pre ++ txK ((L.take 0).map (toRF F rk))) w w) := by
        rw [Hid, List.take_zero, List.map_nil, txK, List.append_nil]; exact ⟨hbl, Below.refl _ _, Lib.OthersKept.refl _ _ _⟩
      have HF := Lib.hid hF
      have HBX := Lib.hid hbx
      have HLL := Lib.hid hLL
      have HIH := Lib.hid ih
      have HV := Lib.hid hv
      have HLN : Hid (∀ c ∈ L, c < n ∧ rk c < rk i) := fun c hc => hw.kid i hi c (by rw [← hLL]; exact hc)
      clear hown hq hv ih hF hbx hbl hlen h0 htx hLL hnm
      go_enter Tryz.func105, Tryz.ntmps105
      go_wp2_with fail
      go_loopw [4, 5, 22] (fun _ _ x wr => ∃ k : Nat, k ≤ L.length ∧ x = .int .i64 k ∧ Hid (BldAt B b (pre ++ txK ((L.take k).map (toRF F rk))) w wr)) (fun _ _ x _ => L.length - (intOf x).toNat)
      case atStart => exact ⟨0, Nat.zero_le _, rfl, HST.out⟩
      case round =>
        obtain ⟨k, hk, rfl, hO⟩ := hrel
        obtain ⟨wo, rfl⟩ : ∃ wo : World, wo = wr := ⟨_, rfl⟩
        by_cases hlt : k < L.length
        · have hcL : L[k]? = some L[k] := List.getElem?_eq_getElem hlt
          have hFo := HF.out.others hbb hO.out.ot
          have hrow := hFo.kcell (i := i) (j := k) (c := L[k]) hi HV.out (by rw [← HLL.out]; exact hcL)
          have hcn := HLN.out L[k] (List.getElem_mem hlt)
          have HKL : Hid (((L.take k).map (toRF F rk)).length = k) := by rw [Hid, List.length_map, List.length_take]; omega
          have HNX : Hid (txK ((L.take (k + 1)).map (toRF F rk)) = txK ((L.take k).map (toRF F rk)) ++ ((if k = 0 then 40 else 44) :: txR (toRF F rk L[k]))) := by
            rw [Hid, List.take_add_one, hcL, List.map_append]
            show txK (_ ++ [toRF F rk L[k]]) = _
            rw [txK_app, HKL.out]
          have HC1 := Lib.hid (fun c : Int => wbyte_t B b (Lib.byteCells (pre ++ txK ((L.take k).map (toRF F rk)))) c wo hO.out.bl (by rw [Lib.byteCells_length, List.length_append]; exact HLEN.out k) (hO.out.size hB))
          have HO := Lib.hid hO.out
          have HLT := Lib.hid hlt
          have HCN := Lib.hid hcn
          obtain ⟨mn, hmn, hcase⟩ : ∃ mn : Int, min (k : Int) 1 = mn ∧ ((k = 0 ∧ mn = 0) ∨ (k ≠ 0 ∧ mn = 1)) := ⟨_, rfl, by omega⟩
          have i1 : (0 : Int) ≤ (k : Int) := by omega
          have i2 : (k : Int) < (L.length : Int) := by omega
          clear hcL hFo hcn hO
          generalize L[k] = c at *
          rcases hcase with ⟨hk0, rfl⟩ | ⟨hk0, rfl⟩
          · rw [if_pos hk0] at HNX
            clear hk0
            go_wp2_with fail
            refine (HC1.out _).mono ?_
            rintro e w2 ⟨rfl, h1, h2, h3⟩
            have HS := Lib.hid (HO.out.byte (x := 40) rfl h1 h2 h3)
            clear h1 h2 h3
            have hfc := (HBX.out.others hfb HS.out.ot).cell
            have HCALL := Lib.hid (HIH.out (rk c) (by have := HCN.out.2; omega) c (pre ++ txK ((L.take k).map (toRF F rk)) ++ [40]) w2 HCN.out.1 (Nat.le_refl _) (HF.out.others hbb HS.out.ot) (HBX.out.others hfb HS.out.ot) HS.out.bl (by
              have := HLEN.out (k + 1)
              rw [HNX.out] at this
              simp only [List.length_append, List.length_cons, List.length_nil] at this ⊢
              omega) (HS.out.size hB))
            go_wp2_with fail
            refine HCALL.out.mono ?_
            rintro e w3 ⟨rfl, h4⟩
            have HN : Hid (BldAt B b (pre ++ txK ((L.take (k + 1)).map (toRF F rk))) w w3) := by
              have := HS.out.next h4
              rw [Hid, HNX.out]
              simpa [List.append_assoc] using this
            clear h4 HCALL HS
            go_wp2_with fail
            go_roundw
            case rel => exact ⟨k + 1, HLT.out, by go_num, HN.out⟩
            case measure => have := HLT.out; simp [intOf]; omega
          · rw [if_neg hk0] at HNX
            clear hk0
            go_wp2_with fail
            refine (HC1.out _).mono ?_
            rintro e w2 ⟨rfl, h1, h2, h3⟩
            have HS := Lib.hid (HO.out.byte (x := 44) rfl h1 h2 h3)
            clear h1 h2 h3
            have hfc := (HBX.out.others hfb HS.out.ot).cell
            have HCALL := Lib.hid (HIH.out (rk c) (by have := HCN.out.2; omega) c (pre ++ txK ((L.take k).map (toRF F rk)) ++ [44]) w2 HCN.out.1 (Nat.le_refl _) (HF.out.others hbb HS.out.ot) (HBX.out.others hfb HS.out.ot) HS.out.bl (by
              have := HLEN.out (k + 1)
              rw [HNX.out] at this
              simp only [List.length_append, List.length_cons, List.length_nil] at this ⊢
              omega) (HS.out.size hB))
            go_wp2_with fail
            refine HCALL.out.mono ?_
            rintro e w3 ⟨rfl, h4⟩
            have HN : Hid (BldAt B b (pre ++ txK ((L.take (k + 1)).map (toRF F rk))) w w3) := by
              have := HS.out.next h4
              rw [Hid, HNX.out]
              simpa [List.append_assoc] using this
            clear h4 HCALL HS
            go_wp2_with fail
            go_roundw
            case rel => exact ⟨k + 1, HLT.out, by go_num, HN.out⟩
            case measure => have := HLT.out; simp [intOf]; omega
        · obtain rfl : k = L.length := by omega
          have hO := hO.out
          rw [List.take_length] at hO
          have HO := Lib.hid hO
          have HC1 := Lib.hid (wbyte_t B b (Lib.byteCells (pre ++ txK (L.map (toRF F rk)))) 41 wo hO.bl (by rw [Lib.byteCells_length, List.length_append]; have := HLEN.out L.length; rw [List.take_length] at this; exact this) (hO.size hB))
          clear hO
          go_wp2_with fail
          refine HC1.out.mono ?_
          rintro e w2 ⟨rfl, h1, h2, h3⟩
          have HS := Lib.hid (HO.out.byte (x := 41) rfl h1 h2 h3)
          clear h1 h2 h3
          go_wp2_with fail
          go_end0
          exact ⟨rfl, by rw [← List.append_assoc]; exact HS.out⟩
end Go.Proofs.YtpjijbophjdgaaaGreat
