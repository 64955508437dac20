/- The text of a tree: phylotree.Print$1. The contract of slices.DeleteFunc at nodes. The .. -/
import Derived.Test.YteegefnjnikngaaGreatQ1
import Derived.Test.YteegefnjnikngaaGreatQ9
import Derived.Test.YteegefnjnikngaaGreatQ10
import Derived.Test.YteegefnjnikngaaGreatQ21
import Derived.Test.YteegefnjnikngaaGreatQ18
import Derived.Lib.MinMax
import Derived.Test.YteegefnjnikngaaGreatQ23
import Derived.Test.YteegefnjnikngaaGreatQ7
set_option maxRecDepth 100000
namespace Go.Proofs.YteegefnjnikngaaGreat
section
open Go.RowKit Go.Deep
mutual
def txR : RT → List UInt8
 | .node nm [] => nm.data.toList
 | .node _ (k :: ks) => 40 :: (txR k ++ txRs ks ++ [41])
def txRs : List RT → List UInt8
 | [] => []
 | r :: rs => 44 :: (txR r ++ txRs rs)
end
def gF : List RT → List UInt8
 | [] => []
 | k :: ks => 40 :: (txR k ++ txRs ks)
theorem SM (l : List RT) (c : RT) : txRs (l ++ [c]) = txRs l ++ 44 :: txR c := by
 induction l with
 | nil => simp [txRs]
 | cons a l ih => rw [List.cons_append, txRs, txRs, ih]; simp
theorem zu (l : List RT) (c : RT) : gF (l ++ [c]) = gF l ++ (if l.length = 0 then 40 else 44) :: txR c := by
 cases l with
 | nil => simp [gF, txRs]
 | cons a l => rw [List.cons_append, gF, gF, SM, if_neg (by simp)]; simp
theorem sY (nm : ByteArray) {ks : List RT} (h : ks ≠ []) : txR (.node nm ks) = gF ks ++ [41] := by
 cases ks with
 | nil => exact absurd rfl h
 | cons k ks => rw [txR, gF]; simp
theorem wM (nm : ByteArray) : txR (.node nm []) = nm.data.toList := by rw [txR]
theorem II (l m : List RT) : (txRs (l ++ m)).length = (txRs l).length + (txRs m).length := by
 induction l with
 | nil => simp [txRs]
 | cons a l ih => rw [List.cons_append, txRs, txRs]; simp [ih]; omega
theorem yI (l : List RT) (k : Nat) : (gF (l.take k)).length ≤ (gF l).length := by
 cases l with
 | nil => simp [gF]
 | cons a l =>
  cases k with
  | zero => simp [gF]
  | succ k =>
   rw [List.take_succ_cons, gF, gF]
   have := II (l.take k) (l.drop k)
   rw [List.take_append_drop] at this
   simp only [List.length_cons, List.length_append]; omega
structure j8 (B b : Nat) (pre : List UInt8) (w wr : World) : Prop where
 bl : Lib.IsBuilderF 122 5 B b (Lib.byteCells pre) wr
 up : Below B w wr
 ot : Lib.OthersKept 5 (some b) w wr
theorem j8.size {B b : Nat} {pre : List UInt8} {w wr : World} (h : j8 B b pre w wr) (hB : B ≤ w.heap.size) : B ≤ wr.heap.size := Nat.le_trans hB h.up.size
theorem j8.byte {B b : Nat} {pre : List UInt8} {w wr w2 : World} {x : UInt8} {c : Int} (h : j8 B b pre w wr) (hc : c = x.toNat) (h1 : Lib.BuilderAtF 122 5 B b (.pointer (some ⟨b, 0, none⟩)) (Lib.byteCells pre ++ [.int .u8 c]) w2) (h2 : Below B wr w2) (h3 : Lib.OthersKept 5 (some b) wr w2) : j8 B b (pre ++ [x]) w w2 := by
 subst hc
 exact ⟨.inr (by rw [show Lib.byteCells (pre ++ [x]) = Lib.byteCells pre ++ [.int .u8 x.toNat] from List.map_append]; exact h1), h.up.trans h2, h.ot.trans h3⟩
theorem j8.next {B b : Nat} {pre Zs : List UInt8} {w wr w2 : World} (h : j8 B b pre w wr) (k : j8 B b Zs wr w2) : j8 B b Zs w w2 := ⟨k.bl, h.up.trans k.up, h.ot.trans k.ot⟩
theorem aS.others {base n b : Nat} {A : Nat → Nat} {kv : Nat → Value} {F : aP} {w w' : World} (h : aS base n A kv F w) (hb : b < base) (k : Lib.OthersKept 5 (some b) w w') : aS base n A kv F w' := by
 refine h.same (fun i hi => ?_) fun i g hi hg => ?_
 ·have h1 := h.node i hi
  rw [h1]
  refine k _ _ h1 (fun e => by have := h.lo i hi; cases e; omega) (fun c fz e => ?_)
  injection e with _ e2 _
  exact absurd e2 (by decide)
 ·have hlo := (h.ep hi hg).1
  obtain ⟨_, h1 | ⟨g2, cap, cur, h1, _, hc, _⟩⟩ := h.own i hi
  ·rw [h1.1] at hg; cases hg
  ·rw [h1] at hg
   have hg : some g2 = some g := hg
   injection hg with hg; subst hg
   rw [hc]
   refine k _ _ hc (fun e => by cases e; omega) (fun c fz e => ?_)
   injection e with _ e2 _
   exact absurd e2 (by decide)
def tY (b fb : Nat) (w : World) : Prop := w.heap[fb]? = some (Obj.cells #[.func (.func 97) #[] #[.pointer (some ⟨b, 0, none⟩), .pointer (some ⟨fb, 0, none⟩)]] 123 (0, 0))
theorem tY.cell {b fb : Nat} {w : World} (h : tY b fb w) : w.cell? ⟨fb, 0, none⟩ = some (.func (.func 97) #[] #[.pointer (some ⟨b, 0, none⟩), .pointer (some ⟨fb, 0, none⟩)]) := by
 have h : w.heap[fb]? = _ := h
 simp [World.cell?, h]
theorem tY.others {b fb : Nat} {w w' : World} (h : tY b fb w) (hne : fb ≠ b) (k : Lib.OthersKept 5 (some b) w w') : tY b fb w' := by
 have h : w.heap[fb]? = _ := h
 refine k _ _ h (fun e => by cases e; exact hne rfl) (fun c fz e => ?_)
 injection e with _ e2 _
 exact absurd e2 (by decide)
def Zt (B b : Nat) (pre : List UInt8) (w : World) (e : Ending) (w' : World) : Prop := e = .returned (.tuple #[]) ∧ j8 B b pre w w'
set_option maxHeartbeats 4000000 in
theorem SN {base n B b fb : Nat} {A : Nat → Nat} {kv : Nat → Value} {F : aP} {rk : Nat → Nat} (hw : Wf F n rk) (hl : ∀ z, z < n → (F.kids z).length ≤ 1000) (hbb : b < base) (E5 : fb ≠ b) : ∀ (d i : Nat) (pre : List UInt8) (w : World), i < n → rk i ≤ d → aS base n A kv F w → tY b fb w →
  Lib.IsBuilderF 122 5 B b (Lib.byteCells pre) w → pre.length + (txR (aG F rk i)).length ≤ 140737488355328 → B ≤ w.heap.size →
  Calls Tryz.prog 97 (#[.pointer (some ⟨A i, 0, none⟩)] ++ #[.pointer (some ⟨b, 0, none⟩), .pointer (some ⟨fb, 0, none⟩)]) w (Zt B b (pre ++ txR (aG F rk i)) w) := by
 intro d
 induction d using Nat.strongRecOn with
 | ind d ih =>
  intro i pre w hi hd hF kj hbl hlen hB
  have eP : ∀ args w, (callFunc 97 args).run Tryz.prog w = .ok (.enter 97 args) w := enters_of Tryz.func97 (by kernel_rfl) rfl
  have hown := hF.own i hi
  obtain ⟨q, cap, hv, hq⟩ := hown.form (n := (F.kids i).length) (by simp)
  have hkc := hF.je hi
  rw [hv] at hkc
  have hnm := hF.name hi
  by_cases h0 : F.kids i = []
  ·have E6 : txR (aG F rk i) = (F.nm i).data.toList := by rw [bA hw hi, h0]; exact wM _
   rw [E6] at hlen ⊢
   have d1 : (((F.kids i).length : Int) == 0) = true := by rw [h0]; rfl
   have HW := aa (Yc B b (Lib.byteCells pre) (F.nm i) w hbl (by rw [Lib.byteCells_length]; exact hlen) hB)
   have HE : Hid (∀ w', Lib.BuilderAtF 122 5 B b (.pointer (some ⟨b, 0, none⟩)) (Lib.byteCells pre ++ Lib.strCells (F.nm i)) w' → Below B w w' → Lib.OthersKept 5 (some b) w w' → j8 B b (pre ++ (F.nm i).data.toList) w w') := fun w' h1 h2 h3 =>
    ⟨.inr (by rw [Lib.strCells_eq, ← show Lib.byteCells (pre ++ (F.nm i).data.toList) = Lib.byteCells pre ++ Lib.byteCells (F.nm i).data.toList from List.map_append] at h1; exact h1), h2, h3⟩
   clear hown hq hv ih hF kj hbl hlen h0 E6
   generalize F.nm i = nm at *
   go_enter Tryz.func97, Tryz.ntmps97
   go_wp2_with fail
   refine HW.out.mono ?_
   rintro e w' ⟨rfl, h1, h2, h3⟩
   have HN := aa (HE.out w' h1 h2 h3)
   clear h1 h2 h3
   go_wp2_with fail
   go_end0
   exact ⟨rfl, HN.out⟩
  ·obtain ⟨L, iw⟩ : ∃ L, L = F.kids i := ⟨_, rfl⟩
   have yj : 0 < L.length := by rw [iw]; exact List.length_pos_iff.2 h0
   have gK : L.length ≤ 1000 := by rw [iw]; exact hl i hi
   rw [← iw] at hown hv hkc
   have E6 : txR (aG F rk i) = gF (L.map (aG F rk)) ++ [41] := by rw [bA hw hi, ← iw]; exact sY _ (by rw [iw]; simpa using h0)
   rw [E6] at hlen ⊢
   have d1 : ((L.length : Int) == 0) = false := beq_eq_false_iff_ne.2 (by omega)
   obtain ⟨gk, rfl⟩ : ∃ g, q = some ⟨g, 0, none⟩ := by
    rcases hq with rfl | h
    ·obtain ⟨_, h | ⟨g, _, _, h, _⟩⟩ := hown
     ·have := h.2; rw [List.length_map] at this; omega
     ·rw [hv] at h; cases h
    ·exact h
   have HLEN : Hid (∀ k, pre.length + (gF ((L.take k).map (aG F rk))).length + 1 ≤ 140737488355328) := fun k => by
    have := yI (L.map (aG F rk)) k
    rw [← List.map_take] at this
    simp only [List.length_append, List.length_cons, List.length_nil] at hlen
    omega
   have HST : Hid (j8 B b (pre ++ gF ((L.take 0).map (aG F rk))) w w) := by
    rw [Hid, List.take_zero, List.map_nil, gF, List.append_nil]; exact ⟨hbl, Below.refl _ _, Lib.OthersKept.refl _ _ _⟩
   have HF := aa hF
   have dX := aa kj
   have dF := aa iw
   have iG := aa ih
   have HV := aa hv
   have eT : Hid (∀ c ∈ L, c < n ∧ rk c < rk i) := fun c hc => hw.kid i hi c (by rw [← iw]; exact hc)
   clear hown hq hv ih hF kj hbl hlen h0 E6 iw hnm
   go_enter Tryz.func97, Tryz.ntmps97
   go_wp2_with fail
   go_loopw [4, 5, 22] (fun _ _ x wr => ∃ k : Nat, k ≤ L.length ∧ x = .int .i64 k ∧ Hid (j8 B b (pre ++ gF ((L.take k).map (aG F rk))) w wr)) (fun _ _ x _ => L.length - (intOf x).toNat)
   case atStart => exact ⟨0, Nat.zero_le _, rfl, HST.out⟩
   case round =>
    obtain ⟨k, hk, rfl, hO⟩ := hrel
    obtain ⟨wo, rfl⟩ : ∃ wo : World, wo = wr := ⟨_, rfl⟩
    by_cases hlt : k < L.length
    ·have uT : L[k]? = some L[k] := List.getElem?_eq_getElem hlt
     have hFo := HF.out.others hbb hO.out.ot
     have hrow := hFo.wC (i := i) (j := k) (c := L[k]) hi HV.out (by rw [← dF.out]; exact uT)
     have cD := eT.out L[k] (List.getElem_mem hlt)
     have iT : Hid (((L.take k).map (aG F rk)).length = k) := by rw [Hid, List.length_map, List.length_take]; omega
     have oL : Hid (gF ((L.take (k + 1)).map (aG F rk)) = gF ((L.take k).map (aG F rk)) ++ ((if k = 0 then 40 else 44) :: txR (aG F rk L[k]))) := by
      rw [Hid, List.take_add_one, uT, List.map_append]
      show gF (_ ++ [aG F rk L[k]]) = _
      rw [zu, iT.out]
     have jN := aa (fun c : Int => Dq B b (Lib.byteCells (pre ++ gF ((L.take k).map (aG F rk)))) c wo hO.out.bl (by rw [Lib.byteCells_length, List.length_append]; exact HLEN.out k) (hO.out.size hB))
     have HO := aa hO.out
     have aY := aa hlt
     have nu := aa cD
     obtain ⟨mn, hmn, fq⟩ : ∃ mn : Int, min (k : Int) 1 = mn ∧ ((k = 0 ∧ mn = 0) ∨ (k ≠ 0 ∧ mn = 1)) := ⟨_, rfl, by omega⟩
     have i1 : (0 : Int) ≤ (k : Int) := by omega
     have i2 : (k : Int) < (L.length : Int) := by omega
     clear uT hFo cD hO
     generalize L[k] = c at *
     rcases fq with ⟨tM, rfl⟩ | ⟨tM, rfl⟩
     ·rw [if_pos tM] at oL
      clear tM
      go_wp2_with fail
      refine (jN.out _).mono ?_
      rintro e w2 ⟨rfl, h1, h2, h3⟩
      have HS := aa (HO.out.byte (x := 40) rfl h1 h2 h3)
      clear h1 h2 h3
      have Lz := (dX.out.others E5 HS.out.ot).cell
      have dO := aa (iG.out (rk c) (by have := nu.out.2; omega) c (pre ++ gF ((L.take k).map (aG F rk)) ++ [40]) w2 nu.out.1 (Nat.le_refl _) (HF.out.others hbb HS.out.ot) (dX.out.others E5 HS.out.ot) HS.out.bl (by
       have := HLEN.out (k + 1)
       rw [oL.out] at this
       simp only [List.length_append, List.length_cons, List.length_nil] at this ⊢
       omega) (HS.out.size hB))
      go_wp2_with fail
      refine dO.out.mono ?_
      rintro e w3 ⟨rfl, h4⟩
      have HN : Hid (j8 B b (pre ++ gF ((L.take (k + 1)).map (aG F rk))) w w3) := by
       have := HS.out.next h4
       rw [Hid, oL.out]
       simpa [List.append_assoc] using this
      clear h4 dO HS
      go_wp2_with fail
      go_roundw
      case rel => exact ⟨k + 1, aY.out, by go_num, HN.out⟩
      case measure => have := aY.out; simp [intOf]; omega
     ·rw [if_neg tM] at oL
      clear tM
      go_wp2_with fail
      refine (jN.out _).mono ?_
      rintro e w2 ⟨rfl, h1, h2, h3⟩
      have HS := aa (HO.out.byte (x := 44) rfl h1 h2 h3)
      clear h1 h2 h3
      have Lz := (dX.out.others E5 HS.out.ot).cell
      have dO := aa (iG.out (rk c) (by have := nu.out.2; omega) c (pre ++ gF ((L.take k).map (aG F rk)) ++ [44]) w2 nu.out.1 (Nat.le_refl _) (HF.out.others hbb HS.out.ot) (dX.out.others E5 HS.out.ot) HS.out.bl (by
       have := HLEN.out (k + 1)
       rw [oL.out] at this
       simp only [List.length_append, List.length_cons, List.length_nil] at this ⊢
       omega) (HS.out.size hB))
      go_wp2_with fail
      refine dO.out.mono ?_
      rintro e w3 ⟨rfl, h4⟩
      have HN : Hid (j8 B b (pre ++ gF ((L.take (k + 1)).map (aG F rk))) w w3) := by
       have := HS.out.next h4
       rw [Hid, oL.out]
       simpa [List.append_assoc] using this
      clear h4 dO HS
      go_wp2_with fail
      go_roundw
      case rel => exact ⟨k + 1, aY.out, by go_num, HN.out⟩
      case measure => have := aY.out; simp [intOf]; omega
    ·obtain rfl : k = L.length := by omega
     have hO := hO.out
     rw [List.take_length] at hO
     have HO := aa hO
     have jN := aa (Dq B b (Lib.byteCells (pre ++ gF (L.map (aG F rk)))) 41 wo hO.bl (by rw [Lib.byteCells_length, List.length_append]; have := HLEN.out L.length; rw [List.take_length] at this; exact this) (hO.size hB))
     clear hO
     go_wp2_with fail
     refine jN.out.mono ?_
     rintro e w2 ⟨rfl, h1, h2, h3⟩
     have HS := aa (HO.out.byte (x := 41) rfl h1 h2 h3)
     clear h1 h2 h3
     go_wp2_with fail
     go_end0
     exact ⟨rfl, by rw [← List.append_assoc]; exact HS.out⟩
end
section
open Go.RowKit Go.Deep
def dm (P : Nat → Bool) (ks : List Nat) (j : Nat) : List Nat := (ks.take j).filter fun k => !P k
theorem PW (P : Nat → Bool) (ks : List Nat) (j : Nat) : (dm P ks j).length ≤ j := by
 unfold dm
 refine Nat.le_trans (List.length_filter_le _ _) ?_
 rw [List.length_take]; omega
theorem oB (P : Nat → Bool) {ks : List Nat} {j : Nat} (hj : j < ks.length) : dm P ks (j + 1) = if P (ks.getD j 0) then dm P ks j else dm P ks j ++ [ks.getD j 0] := by
 unfold dm
 have hg : ks.getD j 0 = ks[j] := by rw [List.getD_eq_getElem?_getD, List.getElem?_eq_getElem hj]; rfl
 rw [List.take_succ_eq_append_getElem hj, List.filter_append, hg]
 cases h : P ks[j]
 ·rw [if_neg (by decide), List.filter_cons_of_pos (by rw [h]; rfl)]; rfl
 ·rw [if_pos rfl, List.filter_cons_of_neg (by rw [h]; decide)]; simp
structure qG (A : Nat → Nat) (P : Nat → Bool) (base : Nat) (w wr : World) (g cap : Nat) (ks : List Nat) (j : Nat) (X : List Value) : Prop where
 own : aA base 124 wr (.slice (some ⟨g, 0, none⟩) ks.length cap) X
 len : X.length = ks.length
 head : X.take (dm P ks j).length = (dm P ks j).map (aL A)
 rest : ∀ q, j ≤ q → X[q]? = (ks.map (aL A))[q]?
 up : w.grownBy wr (some g)
section
variable {A : Nat → Nat} {P : Nat → Bool} {base : Nat} {w wr : World} {g cap : Nat} {ks : List Nat} {X : List Value}
theorem qG.start (h : aA base 124 w (.slice (some ⟨g, 0, none⟩) ks.length cap) (ks.map (aL A))) {j : Nat} (hj : j < ks.length) (hno : ∀ i, i < j → P (ks.getD i 0) = false) (hP : P (ks.getD j 0) = true) (m : Nat) :
  qG A P base w (w.drewN m) g cap ks (j + 1) (ks.map (aL A)) ∧ (dm P ks (j + 1)).length = j := by
 have hk : ∀ i, i ≤ j → dm P ks i = ks.take i := by
  intro i
  induction i with
  | zero => intro _; rfl
  | succ i ih =>
   intro hi
   rw [oB P (show i < ks.length by omega), hno i (by omega), if_neg (by decide), ih (by omega), List.take_succ_eq_append_getElem (show i < ks.length by omega)]
   congr 2
   rw [List.getD_eq_getElem?_getD, List.getElem?_eq_getElem (show i < ks.length by omega)]; rfl
 have e : dm P ks (j + 1) = ks.take j := by rw [oB P hj, hP, if_pos rfl, hk j (Nat.le_refl _)]
 have hl : (ks.take j).length = j := by rw [List.length_take]; omega
 refine ⟨⟨h.eV fun _ _ => rfl, List.length_map _, ?_, fun _ _ => rfl, sX (Up.drewN w m) _⟩, by rw [e, hl]⟩
 rw [e, hl, List.map_take]
theorem qG.skip {j : Nat} (h : qG A P base w wr g cap ks j X) (hj : j < ks.length) (hP : P (ks.getD j 0) = true) (m : Nat) : qG A P base w (wr.drewN m) g cap ks (j + 1) X :=
 ⟨h.own.eV fun _ _ => rfl, h.len, by rw [oB P hj, if_pos hP]; exact h.head, fun q hq => h.rest q (by omega), mF h.up (sX (Up.drewN wr m) _)⟩
theorem qG.Wq {j : Nat} (h : qG A P base w wr g cap ks j X) (m : Nat) : qG A P base w (wr.drewN m) g cap ks j X :=
 ⟨h.own.eV fun _ _ => rfl, h.len, h.head, h.rest, mF h.up (sX (Up.drewN wr m) _)⟩
theorem qG.at {j : Nat} (h : qG A P base w wr g cap ks j X) (hj : j < ks.length) : wr.cell? ⟨g, j, none⟩ = some (.pointer (some ⟨A (ks.getD j 0), 0, none⟩)) := by
 have hke : ks[j]? = some (ks.getD j 0) := by rw [List.getD_eq_getElem?_getD, List.getElem?_eq_getElem hj]; rfl
 exact (qF h.own (j := j) (u := aL A (ks.getD j 0)) (by rw [h.rest j (Nat.le_refl _), List.getElem?_map, hke]; rfl)).1
theorem qG.push {j : Nat} (h : qG A P base w wr g cap ks j X) (hj : j < ks.length) (hP : P (ks.getD j 0) = false) :
  (∃ x, wr.cell? ⟨g, (dm P ks j).length, none⟩ = some x) ∧ wr.frozen? ⟨g, (dm P ks j).length, none⟩ = false ∧ (dm P ks (j + 1)).length = (dm P ks j).length + 1 ∧
   ∃ X', qG A P base w (wr.setCell ⟨g, (dm P ks j).length, none⟩ (.pointer (some ⟨A (ks.getD j 0), 0, none⟩))) g cap ks (j + 1) X' := by
 have hle := PW P ks j
 obtain ⟨g2, dM, e1, _, _, hc, hf, hs⟩ := h.own.set (j := (dm P ks j).length) (by rw [h.len]; omega)
 injection e1 with a1 a2 a3
 injection a1 with a1
 injection a1 with a1
 subst a1
 have hk := oB P hj
 rw [if_neg (by rw [hP]; decide)] at hk
 have hl : (dm P ks (j + 1)).length = (dm P ks j).length + 1 := by rw [hk, List.length_append]; rfl
 refine ⟨⟨_, hc⟩, hf, hl, X.set (dm P ks j).length (aL A (ks.getD j 0)), hs _, by rw [List.length_set]; exact h.len, ?_, fun q hq => ?_, mF h.up E3⟩
 ·rw [hl, hk, List.map_append, ← h.head]
  have hlt : (dm P ks j).length < (X.set (dm P ks j).length (aL A (ks.getD j 0))).length := by rw [List.length_set, h.len]; omega
  rw [List.take_succ_eq_append_getElem hlt, List.take_set_of_le (Nat.le_refl _), List.getElem_set_self]; rfl
 ·rw [List.getElem?_set_ne (by omega)]; exact h.rest q (by omega)
theorem qG.done {m : Nat} (h : qG A P base w wr g cap ks ks.length X) (hm : (dm P ks ks.length).length = m) (hlt : m < ks.length) :
  (∀ i, i < ks.length - m → (wr.cell? ⟨g, m + i, none⟩).isSome = true) ∧ (∀ i, i < ks.length - m → wr.frozen? ⟨g, m + i, none⟩ = false) ∧
   aA base 124 (wr.setCells g m (List.replicate (ks.length - m) (.pointer none))) (.slice (some ⟨g, 0, none⟩) m cap) ((ks.filter fun k => !P k).map (aL A)) ∧
   w.grownBy (wr.setCells g m (List.replicate (ks.length - m) (.pointer none))) (some g) := by
 have hall : dm P ks ks.length = ks.filter fun k => !P k := by unfold dm; rw [List.take_length]
 have hcell : ∀ i, i < ks.length - m → wr.cell? ⟨g, m + i, none⟩ = some (X.getD (m + i) undef) ∧ wr.frozen? ⟨g, m + i, none⟩ = false := fun i hi => by
  have hl : m + i < X.length := by rw [h.len]; omega
  exact qF h.own (by rw [List.getD_eq_getElem?_getD, List.getElem?_eq_getElem hl]; rfl)
 refine ⟨fun i hi => by rw [(hcell i hi).1]; rfl, fun i hi => (hcell i hi).2, ?_, mF h.up (Cr _ _ _)⟩
 refine Cs _ _ _ (Nat.le_refl _) ?_
 have := E4 h.own (m := m) (by omega)
 rw [← hm, h.head] at this
 rw [← hm, ← hall]; exact this
end
theorem Tryz.Zu : ∀ w, (zeroValue 124).run Tryz.prog w = .ok (.pointer none) w := fun w => by simp [Tryz.zeroValue124]
theorem SP {base : Nat} {e : TypeId} {w : World} {g n cap : Nat} {xs : List Value} (h : aA base e w (.slice (some ⟨g, 0, none⟩) n cap) xs) : n ≤ cap := by
 obtain ⟨h1, h2⟩ := h
 rcases h2 with ⟨e1, _⟩ | ⟨g2, dM, cur, e1, hg, hc, hn, _⟩
 ·cases e1
 ·injection e1 with a1 a2 a3
  omega
theorem SQ {w w' w'' : World} (h : QD w w') (k : QD w' w'') : QD w w'' := by
 obtain ⟨n, rfl⟩ := h
 obtain ⟨m, rfl⟩ := k
 exact (QD.refl w).drewN n |>.drewN m
theorem IJ (p : Nat → Bool) : ∀ n, (∀ j, j < n → p j = false) ∨ ∃ j, j < n ∧ p j = true ∧ ∀ i, i < j → p i = false
 | 0 => .inl fun j hj => absurd hj (Nat.not_lt_zero _)
 | n + 1 => by
  rcases IJ p n with h | ⟨j, h1, h2, h3⟩
  ·cases hp : p n
   ·exact .inl fun j hj => if e : j = n then by subst e; exact hp else h j (by omega)
   ·exact .inr ⟨n, by omega, hp, h⟩
  ·exact .inr ⟨j, by omega, h2, h3⟩
set_option maxHeartbeats 2000000 in
theorem FW {A : Nat → Nat} {P : Nat → Bool} (g : Nat) (lb : Array Value) (eg : ∀ args w, (callFunc g args).run Tryz.prog w = .ok (.enter g args) w) {base : Nat} {w : World} {bk cap : Nat} {ks : List Nat} (h : aA base 124 w (.slice (some ⟨bk, 0, none⟩) ks.length cap) (ks.map (aL A))) (hn : ks.length ≤ 1000000)
  (hp : ∀ k ∈ ks, ∀ W, w.grownBy W (some bk) → Calls Tryz.prog g (#[.pointer (some ⟨A k, 0, none⟩)] ++ lb) W fun e W' => e = .returned (.bool (P k)) ∧ ∃ m, W' = W.drewN m) :
  Calls Tryz.prog 114 #[.slice (some ⟨bk, 0, none⟩) ks.length cap, .func (.func g) #[] lb] w fun e w' => ∃ m, e = .returned (.slice (some ⟨bk, 0, none⟩) m cap) ∧ aA base 124 w' (.slice (some ⟨bk, 0, none⟩) m cap) ((ks.filter fun k => !P k).map (aL A)) ∧ w.grownBy w' (some bk) := by
 have uV := aa (IE (P := P) g lb eg h hn fun k hk q => (hp k hk (w.drewN q) (sX (Up.drewN w q) _)).mono fun _ _ h => ⟨h.1, SQ ⟨q, rfl⟩ h.2⟩)
 have HO := aa h
 have HP := aa hp
 obtain ⟨cap0, hcap⟩ : ∃ c, c = cap := ⟨_, rfl⟩
 clear h hp
 rcases IJ (fun j => P (ks.getD j 0)) ks.length with hno | ⟨j0, hj0, Zv, hno⟩
 ·have hall : ks.filter (fun k => !P k) = ks := by
   rw [List.filter_eq_self]
   intro k hk
   obtain ⟨j, hj, e⟩ := List.getElem_of_mem hk
   have := hno j hj
   rw [show ks.getD j 0 = k by rw [List.getD_eq_getElem?_getD, List.getElem?_eq_getElem hj, e]; rfl] at this
   rw [this]; rfl
  rw [gu hno] at uV
  have HA := aa hall
  clear hno hall hcap
  go_enter Tryz.func114, Tryz.ntmps114
  go_wp2_with fail
  refine uV.out.mono ?_
  rintro e w1 ⟨rfl, m, rfl⟩
  go_wp2_with fail
  go_ret
  exact ⟨ks.length, rfl, by rw [HA.out]; exact HO.out.eV fun _ _ => rfl, sX (Up.drewN w m) _⟩
 ·rw [iO hj0 hno Zv] at uV
  have HST := aa (fun m => (HO.out |> fun h => qG.start h hj0 hno Zv m))
  have hjn : (j0 : Int) < (ks.length : Int) := by omega
  have IK := aa hj0
  have e1 : ((j0 : Int) == -1) = false := beq_eq_false_iff_ne.2 (by omega)
  clear hno Zv hj0 hcap
  go_enter Tryz.func114, Tryz.ntmps114
  go_wp2_with fail
  refine uV.out.mono ?_
  rintro e w1 ⟨rfl, m1, rfl⟩
  obtain ⟨hS1, hS2⟩ := HST.out m1
  have lg := aa hS1
  have kB := aa hS2
  clear hS1 hS2 HST
  go_wp2_with fail
  go_loopw [5, 6, 7] (fun x y _ wr => ∃ j : Nat, j0 < j ∧ j ≤ ks.length ∧ y = .int .i64 j ∧ x = .int .i64 ((dm P ks j).length : Nat) ∧ Hid (∃ X, qG A P base w wr bk cap ks j X) ∧ Hid ((dm P ks j).length < j)) (fun _ y _ _ => ks.length - (intOf y).toNat)
  case atStart => exact ⟨j0 + 1, by omega, IK.out, by go_num, by rw [kB.out], ⟨_, lg.out⟩, by unfold Hid; rw [kB.out]; omega⟩
  case round =>
   obtain ⟨j, hj1, hj, rfl, rfl, hX, hK⟩ := hrel
   obtain ⟨wo, rfl⟩ : ∃ wo : World, wo = wr := ⟨_, rfl⟩
   obtain ⟨X, hX⟩ := hX.out
   by_cases hlt : j < ks.length
   ·have hx := hX.at hlt
    have i1 : (0 : Int) ≤ (j : Int) := by omega
    have i2 : (j : Int) < (ks.length : Int) := by omega
    have hmem : ks.getD j 0 ∈ ks := by
     rw [List.getD_eq_getElem?_getD, List.getElem?_eq_getElem hlt]; exact List.getElem_mem hlt
    have xw := aa (HP.out _ hmem wo hX.up)
    have aY := aa hlt
    have K9 := aa hX
    have UA := aa hj1
    have n1 : (0 : Int) ≤ ((dm P ks j).length : Int) := by omega
    have n2 : ((dm P ks j).length : Int) < (ks.length : Int) := by have := hK.out; omega
    have BM : Hid (P (ks.getD j 0) = true → (dm P ks (j + 1)).length = (dm P ks j).length) := fun hv => by rw [oB P hlt, if_pos hv]
    clear hmem hX
    cases hv : P (ks.getD j 0)
    ·rw [hv] at xw
     have LA := aa (fun m => (K9.out.Wq m).push hlt hv)
     clear hv BM
     generalize ks.getD j 0 = c at *
     go_wp2_with fail
     refine xw.out.mono ?_
     rintro e w2 ⟨rfl, m, rfl⟩
     obtain ⟨⟨cx, qw⟩, hff, hl, X', hX'⟩ := LA.out m
     have HX' := aa hX'
     have HL := aa hl
     clear hX' hl
     go_wp2_with fail
     go_roundw
     case rel => exact ⟨j + 1, by have := UA.out; omega, aY.out, by go_num, by rw [HL.out]; go_num, ⟨X', HX'.out⟩, by unfold Hid; have := hK.out; rw [HL.out]; omega⟩
     case measure => have := aY.out; simp [intOf]; omega
    ·rw [hv] at xw
     have HN := aa (fun m => K9.out.skip hlt hv m)
     have HL := aa (BM.out hv)
     clear hv BM
     generalize ks.getD j 0 = c at *
     go_wp2_with fail
     refine xw.out.mono ?_
     rintro e w2 ⟨rfl, m, rfl⟩
     go_wp2_with fail
     go_roundw
     case rel => exact ⟨j + 1, by have := UA.out; omega, aY.out, by go_num, by rw [HL.out], ⟨X, HN.out m⟩, by unfold Hid; have := hK.out; rw [HL.out]; omega⟩
     case measure => have := aY.out; simp [intOf]; omega
   ·obtain rfl : j = ks.length := by omega
    obtain ⟨mm, hmm⟩ : ∃ mm, (dm P ks ks.length).length = mm := ⟨_, rfl⟩
    have hml : mm < ks.length := by rw [← hmm]; exact hK.out
    obtain ⟨hc, hf, ho, hg⟩ := hX.done hmm hml
    have Zw := aa ho
    have HG2 := aa hg
    have Iz := Lib.run_clear_slice (P := Tryz.prog) wo 125 124 0 (.pointer none) Tryz.underlying125 Tryz.Zu rfl rfl bk mm (ks.length - mm) (cap - mm) (by omega) hc hf
    rw [hmm]
    have n1 : (0 : Int) ≤ (mm : Int) := by omega
    have n2 : (mm : Int) ≤ (ks.length : Int) := by omega
    have n3 : (mm : Int) < (ks.length : Int) := by omega
    clear hc hf ho hg hlt hj hX hK hmm
    have c1 : ks.length ≤ cap := SP HO.out
    have c2 : mm ≤ cap := by omega
    have c3 : (mm : Int) ≤ (cap : Int) := by omega
    go_wp2_with fail
    go_ret
    exact ⟨mm, rfl, Zw.out, HG2.out⟩
end
section
open Go.RowKit Go.Deep
set_option maxHeartbeats 4000000 in
theorem IL {base n : Nat} {A : Nat → Nat} {kv : Nat → Value} {rk : Nat → Nat} : ∀ (d : Nat) (F : aP) (i : Nat) (w : World), Wf F n rk → oh F n rk i → (∀ z, z < n → (F.kids z).length ≤ 1000) → i < n → rk i ≤ d → aS base n A kv F w →
  Calls Tryz.prog 162 #[.pointer (some ⟨A i, 0, none⟩)] w (Iy base n A kv F rk i w) := by
 intro d
 induction d using Nat.strongRecOn with
 | ind d ih =>
  intro F i w hw hD hl hi hd hF
  obtain ⟨mv, hmv⟩ := Wo hF.inj rk
  have HF := aa hF
  have iG := aa ih
  have HW := aa hw
  have HD := aa hD
  have HL := aa hl
  have HMV := aa hmv
  clear hw hD hl hF ih hmv
  go_enter Tryz.func162, Tryz.ntmps162
  go_wp2_with fail
  go_loop [0] (fun v => ∃ y : Nat, y < n ∧ v = .pointer (some ⟨A y, 0, none⟩) ∧ Hid (rk y ≤ rk i ∧ aM F rk i y = true ∧ cr F rk i = cr F rk y ∧ ∀ z, (F.sub rk (gz F rk) y).kids z = (F.sub rk (gz F rk) i).kids z)) (fun v => mv v)
  case atStart => exact ⟨i, hi, rfl, Nat.le_refl _, aN HW.out hi, rfl, fun _ => rfl⟩
  case round =>
   obtain ⟨y, hy, rfl, hR⟩ := hrel
   have hown := HF.out.own y hy
   obtain ⟨q, cap, hv, hq⟩ := hown.form (n := (F.kids y).length) (by simp)
   have hkc := HF.out.je hy
   rw [hv] at hkc
   have HV := aa hv
   by_cases h1 : (F.kids y).length = 1
   ·obtain ⟨k, hk⟩ := List.length_eq_one_iff.1 h1
    have hkk := HW.out.kid y hy k (by rw [hk]; simp)
    obtain ⟨gk, rfl⟩ : ∃ g, q = some ⟨g, 0, none⟩ := by
     rcases hq with rfl | h
     ·obtain ⟨_, h | ⟨g, _, _, h, _⟩⟩ := hown
      ·have := h.2; rw [List.length_map] at this; omega
      ·rw [hv] at h; cases h
     ·exact h
    have hrow := HF.out.wC (i := y) (j := 0) (c := k) hy hv (by rw [hk]; rfl)
    have d1 : (((F.kids y).length : Int) == 1) = true := by rw [h1]; rfl
    have i2 : (0 : Int) < ((F.kids y).length : Int) := by omega
    have HN : Hid (rk k ≤ rk i ∧ aM F rk i k = true ∧ cr F rk i = cr F rk k ∧ ∀ z, (F.sub rk (gz F rk) k).kids z = (F.sub rk (gz F rk) i).kids z) := by
     obtain ⟨r1, r2, r3, r4⟩ := hR.out
     exact ⟨by omega, dV HW.out hi (Nat.le_refl _) r2 (bz HW.out hy (by rw [hk]; simp) (aN HW.out hkk.1)), r3.trans (vq HW.out hy hk), fun z => (SD HW.out hy hk z).trans (r4 z)⟩
    have HM : Hid (mv (.pointer (some ⟨A k, 0, none⟩)) < mv (.pointer (some ⟨A y, 0, none⟩))) := by rw [Hid, HMV.out k hkk.1, HMV.out y hy]; exact hkk.2
    have hkn := hkk.1
    clear hown hv hq h1 hk hkk hR HV
    go_wp2_with fail
    go_round
    case rel => exact ⟨k, hkn, rfl, HN⟩
    case measure => exact HM.out
   ·have d1 : (((F.kids y).length : Int) == 1) = false := beq_eq_false_iff_ne.2 (by omega)
    have gK := HL.out y hy
    have UM : Hid (oh F n rk y) := fun z hz hs => HD.out z hz (dV HW.out hi (Nat.le_refl _) hR.out.2.1 hs)
    have HCR : Hid (cr F rk i = y) := hR.out.2.2.1.trans (kH HW.out hy h1)
    have fN : Hid (∀ z, (nM F rk y (F.kids y).length).kids z = (F.sub rk (gz F rk) i).kids z) := fun z => (Wm HW.out hy h1 z).trans (hR.out.2.2.2 z)
    have HRK : Hid (rk y ≤ d) := Nat.le_trans hR.out.1 hd
    have eT : Hid (∀ c ∈ F.kids y, c < n ∧ rk c < rk y) := fun c hc => HW.out.kid y hy c hc
    have HST : Hid (aS base n A kv (nM F rk y 0) w) := HF.out.ox fun z _ => ⟨rfl, rfl, SE y z⟩
    clear hR h1
    obtain ⟨L, iw⟩ : ∃ L, L = F.kids y := ⟨_, rfl⟩
    have dF := aa iw
    rw [← iw] at hkc d1 gK fN eT HV hown
    clear iw hv
    go_wp2_with fail
    go_loopw [3, 4, 22] (fun _ _ x wr => ∃ k : Nat, k ≤ L.length ∧ x = .int .i64 k ∧ Hid (aS base n A kv (nM F rk y k) wr ∧ gL n A kv w wr)) (fun _ _ x _ => L.length - (intOf x).toNat)
    case atStart => exact ⟨0, Nat.zero_le _, rfl, HST.out, gL.refl _ _ _ _⟩
    case round =>
     obtain ⟨k, hk, rfl, hO⟩ := hrel
     obtain ⟨wo, rfl⟩ : ∃ wo : World, wo = wr := ⟨_, rfl⟩
     by_cases hlt : k < L.length
     ·obtain ⟨gk, rfl⟩ : ∃ g, q = some ⟨g, 0, none⟩ := by
       rcases hq with rfl | h
       ·obtain ⟨_, h | ⟨g, _, _, h, _⟩⟩ := hown
        ·have := h.2; rw [List.length_map] at this; omega
        ·rw [HV.out] at h; cases h
       ·exact h
      have uT : L[k]? = some L[k] := List.getElem?_eq_getElem hlt
      have hc : (F.kids y)[k]? = some L[k] := by rw [← dF.out]; exact uT
      have cD := eT.out L[k] (List.getElem_mem hlt)
      have hrow := hO.out.1.wC (i := y) (j := k) (c := L[k]) hy HV.out (Ze hc)
      have hkx := hO.out.1.je hy
      rw [HV.out] at hkx
      have dO := aa (iG.out (rk L[k]) (by have := HRK.out; omega) (nM F rk y k) L[k] wo.drew (Ci HW.out hy k) ((oh.kid HW.out hy (List.mem_of_getElem? hc) UM.out).Zb HW.out (Ci HW.out hy k) cD.1 (yG HW.out hy UM.out hc)) (PJ HL.out hy k) cD.1 (Nat.le_refl _) (hO.out.1.same (fun _ _ => rfl) (fun _ _ _ _ => rfl)))
      have Ei : Hid (cr (nM F rk y k) rk L[k] = cr F rk L[k]) := Lr HW.out (Ci HW.out hy k) cD.1 (Nat.le_refl _) (yG HW.out hy UM.out hc)
      have HC := aa hc
      have vu := aa hO.out.2
      have aY := aa hlt
      have i1 : (0 : Int) ≤ (k : Int) := by omega
      have i2 : (k : Int) < (L.length : Int) := by omega
      unfold Iy at dO
      rw [Ei.out] at dO
      clear uT hc cD hO Ei
      generalize L[k] = c at *
      go_wp2_with fail
      refine cU (by kernel_rfl) 9 (fun w' => w'.cell? ⟨A y, 1, none⟩ = some (.slice (some ⟨gk, 0, none⟩) L.length cap)) hkx (fun hS => ?_)
      simp only [List.size_toArray, List.length_cons, List.length_nil, Nat.reduceAdd, Array.replicate_succ, Array.replicate_zero, List.push_toArray, List.nil_append, List.cons_append]
      refine af.take (i := 0) (v := ?qc) rfl (by kernel_rfl) (fun _ _ _ h => h) (by rfl) (fun w hSw => ?gp) hS ?qd
      case gp =>
       (try dsimp only at hSw)
       go_simp
       try with_reducible rfl
      try simp only [Act.put, aq, ah, au]
      refine af.take (i := 1) (v := ?qf) rfl (by kernel_rfl) (fun _ _ _ h => h) (by rfl) (fun w hSw => ?gq) hS ?qg
      case gq =>
       (try dsimp only at hSw)
       go_simp
       try with_reducible rfl
      try simp only [Act.put, aq, ah, au]
      refine af.take (i := 2) (v := ?rG) rfl (by kernel_rfl) (fun _ _ _ h => h) (by rfl) (fun w hSw => ?gN) hS ?rH
      case gN =>
       (try dsimp only at hSw)
       go_simp
       try with_reducible rfl
      try simp only [Act.put, aq, ah, au]
      refine af.take (i := 3) (v := ?rI) rfl (by kernel_rfl) (fun _ _ _ h => h) (by rfl) (fun w hSw => ?gO) hS ?rJ
      case gO =>
       (try dsimp only at hSw)
       go_simp
       try with_reducible rfl
      try simp only [Act.put, aq, ah, au]
      refine af.take (i := 4) (v := ?rK) rfl (by kernel_rfl) (fun _ _ _ h => h) (by rfl) (fun w hSw => ?gP) hS ?rL
      case gP =>
       (try dsimp only at hSw)
       go_simp
       try with_reducible rfl
      try simp only [Act.put, aq, ah, au]
      refine af.take (i := 5) (v := ?rM) rfl (by kernel_rfl) (fun _ _ _ h => h) (by rfl) (fun w hSw => ?gQ) hS ?rN
      case gQ =>
       (try dsimp only at hSw)
       go_simp
       try with_reducible rfl
      try simp only [Act.put, aq, ah, au]
      refine af.step (i := 6) rfl (by kernel_rfl) (fun K' hK => ?_)
      go_simp
      refine dO.out.mono ?_
      rintro e w2 ⟨rfl, hF2, iU⟩
      obtain ⟨hk2, hfz2, ⟨cx, qw⟩, xB, IM⟩ := Wn HW.out hy UM.out HC.out HV.out hF2
      have HN : Hid (aS base n A kv (nM F rk y (k + 1)) (w2.setCell ⟨gk, k, none⟩ (.pointer (some ⟨A (cr F rk c), 0, none⟩))) ∧ gL n A kv w (w2.setCell ⟨gk, k, none⟩ (.pointer (some ⟨A (cr F rk c), 0, none⟩)))) := ⟨xB, vu.out.trans ((gL.Lb iU).trans IM)⟩
      clear hF2 iU xB IM
      refine hK.out _ _ (fun _ => hk2) (fun hS => ?_)
      try simp only [aq, ah, au]
      refine af.step (i := 7) rfl (by kernel_rfl) (fun K' hK => ?_)
      go_simp
      refine hK.out _ _ (fun _ => hk2) (fun hS => ?_)
      try simp only [aq, ah, au]
      refine af.step (i := 8) rfl (by kernel_rfl) (fun K' hK => ?_)
      go_simp
      refine hK.out _ _ (aJ (by kernel_rfl)) (fun hS => ?_)
      refine af.done (by kernel_rfl) ?_
      go_wp2_with fail
      go_roundw
      case rel => exact ⟨k + 1, aY.out, by go_num, HN.out⟩
      case measure => have := aY.out; simp [intOf]; omega
     ·obtain rfl : k = L.length := by omega
      have mj : Hid (aS base n A kv (F.sub rk (gz F rk) i) wo) := hO.out.1.ox fun z _ => ⟨rfl, rfl, (fN.out z).symm⟩
      have PX := aa hO.out.2
      clear hlt hk hO
      go_wp2_with fail
      go_ret
      exact ⟨by rw [HCR.out]; rfl, mj.out, PX.out⟩
end
end Go.Proofs.YteegefnjnikngaaGreat
