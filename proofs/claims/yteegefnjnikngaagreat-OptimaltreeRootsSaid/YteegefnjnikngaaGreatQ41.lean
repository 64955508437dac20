/- Lists of trees with their texts, in memory: appending, reading, sorting by text. The .. -/
import Derived.Test.YteegefnjnikngaaGreatQ1
import Derived.Test.YteegefnjnikngaaGreatQ40
import Derived.Test.YteegefnjnikngaaGreatQ2
import Derived.Test.YteegefnjnikngaaGreatQ26
import Derived.Test.YteegefnjnikngaaGreatQ10
import Derived.Test.YteegefnjnikngaaGreatQ39
import Derived.Test.YteegefnjnikngaaGreatQ11
import Derived.Test.YteegefnjnikngaaGreatQ18
import Derived.Test.YteegefnjnikngaaGreatQ8
import Derived.Test.YteegefnjnikngaaGreatQ19
import Derived.Test.YteegefnjnikngaaGreatQ36
import Derived.Test.YteegefnjnikngaaGreatQ29
import Derived.Test.YteegefnjnikngaaGreatQ37
import Derived.Test.YteegefnjnikngaaGreatQ17
import Derived.Test.YteegefnjnikngaaGreatQ4
set_option maxRecDepth 100000
namespace Go.Proofs.YteegefnjnikngaaGreat
section
open Go.RowKit Go.Deep Go.Sort Go.Shelf Go.Lib
abbrev mJ := (Value × Value) × RT
def aW (r : RT) : ByteArray := ⟨(cn r).toArray⟩
def iC (x : mJ) : List Value := [x.1.1, x.1.2, .string (aW x.2)]
def fS (es : List mJ) : List Value := es.flatMap iC
def ge (es : List mJ) (k : Nat) : mJ := es.getD k ((undef, undef), .node ByteArray.empty [])
theorem KP (es : List mJ) (x : mJ) : fS (es ++ [x]) = fS es ++ iC x := by unfold fS; rw [List.flatMap_append]; simp
theorem FD : ∀ (es : List mJ) (k : Nat), k < es.length → (fS es)[k * 3]? = some (ge es k).1.1 ∧ (fS es)[k * 3 + 1]? = some (ge es k).1.2 ∧ (fS es)[k * 3 + 2]? = some (.string (aW (ge es k).2))
 | [], k, h => absurd h (Nat.not_lt_zero _)
 | x :: es, 0, _ => by simp [fS, iC, ge]
 | x :: es, k + 1, h => by
  have ih := FD es k (by simpa using h)
  have e : (k + 1) * 3 = k * 3 + 1 + 1 + 1 := by omega
  have e2 : ge (x :: es) (k + 1) = ge es k := by simp [ge]
  have e3 : fS (x :: es) = x.1.1 :: x.1.2 :: .string (aW x.2) :: fS es := by simp [fS, iC]
  rw [e2, e3, e]
  simp only [List.getElem?_cons_succ]
  exact ih
def iZ (base : Nat) (w : World) (v : Value) (es : List mJ) : Prop :=
 w.ownsRow base 99 3 v es.length (fS es) ∧ ∀ x ∈ es, aC (fun b => some b ≠ v.ownBlock) w (.agg #[x.1.1, x.1.2]) (flat x.2)
theorem iZ.nil (base : Nat) (w : World) : iZ base w (.slice none 0 0) [] := ⟨World.ownsRow_nil _ _ _ _, fun _ h => by cases h⟩
def vO (w : World) (v : Value) (qs : List RT) : Prop :=
 ∃ g cap, ∃ es : List mJ, v = .slice (some ⟨g, 0, none⟩) qs.length cap ∧ es.map (·.2) = qs ∧ (∀ k, k < es.length → w.cell? ⟨g, k * 3, none⟩ = some (ge es k).1.1 ∧ w.cell? ⟨g, k * 3 + 1, none⟩ = some (ge es k).1.2 ∧ w.cell? ⟨g, k * 3 + 2, none⟩ = some (.string (aW (ge es k).2))) ∧ ∀ x ∈ es, aC Any w (.agg #[x.1.1, x.1.2]) (flat x.2)
theorem ge_mem {es : List mJ} {k : Nat} (h : k < es.length) : ge es k ∈ es := by simp [ge, h]
theorem vO.keep {w w' : World} {v : Value} {qs : List RT} (h : vO w v qs) (hu : Up w w') : vO w' v qs := by
 obtain ⟨g, cap, es, e1, e2, h1, h2⟩ := h
 exact ⟨g, cap, es, e1, e2, fun k hk => ⟨hu.cell (h1 k hk).1, hu.cell (h1 k hk).2.1, hu.cell (h1 k hk).2.2⟩, fun x hx => (h2 x hx).keep (hu.kept _)⟩
section
variable {P : Program} {ops : Array Oper} {rest : List Oper} {o : Oper} {a : Act} {Q : Exit → Act → World → Prop}
theorem FX (W : World) (hgd : o.guard = none) (s x : Operand) (t : TypeId) (ho : o.op = .call { callee := .builtin .append, args := #[s, x], argTypes := #[t, t] })
  (base : Nat) (z : Value) (bytes : Nat) (ht : P.underlying t = some (.slice 99)) (hinfo : (P.info? 99).map (fun i => (i.zero, i.size, i.bytes)) = some (some z, 3, bytes))
  (hz1 : z.cells.size = 3) (nU : bytes ≤ 64) {v : Value} {es : List mJ} (hown : iZ base W v es) (hs : a.eval s = v) (G : mJ)
  (hx : a.eval x = .slice (some ⟨W.heap.size, 0, none⟩) 1 1) (hu : aC (fun b => some b ≠ v.ownBlock) W (.agg #[G.1.1, G.1.2]) (flat G.2)) (n : Nat) (mC : es.length = n) (hn : n ≤ 1000000) (hbase : base ≤ W.heap.size)
  (h : ∀ g cap w', iZ base w' (.slice (some ⟨g, 0, none⟩) (n + 1) cap) (es ++ [G]) → W.grownBy w' v.ownBlock → Below base W w' → wpList P ops Q rest (a.put o.dst (.slice (some ⟨g, 0, none⟩) (n + 1) cap)) w') :
  wpList P ops Q (o :: rest) a (W.alloc (.cells #[G.1.1, G.1.2, .string (aW G.2)] 99)) := by
 subst mC
 obtain ⟨i, hi, hzz⟩ := Option.map_eq_some_iff.1 hinfo
 simp only [Prod.mk.injEq] at hzz
 obtain ⟨hz, hs1, hb⟩ := hzz
 obtain ⟨hown, hrows⟩ := hown
 have h1 : G.1.1.oneCell' = true ∧ G.1.2.oneCell' = true := by
  obtain ⟨P1, N1, e, hP, hN⟩ := hu
  injection e with e
  have e1 : G.1.1 = P1 ∧ G.1.2 = N1 := by simpa using e
  obtain ⟨p, c, e2, _⟩ := aD.open hP
  obtain ⟨q, d, e3, _⟩ := aD.open hN
  rw [e1.1, e1.2, e2, e3]; exact ⟨rfl, rfl⟩
 refine wpList_append_lies _ hgd s x t ho base 99 i z 3 bytes ht hi hz hs1 hb hz1 (by omega) v es.length (fS es) hs (hown.alloc _) ⟨W.heap.size, 0, none⟩ 1 1 (iC G) hx rfl ?_ (fun q hq => by
  unfold iC at hq
  rcases List.mem_cons.1 hq with e | hq
  ·subst e; exact h1.1
  ·rcases List.mem_cons.1 hq with e | hq
   ·subst e; exact h1.2
   ·rw [List.mem_singleton.1 hq]; rfl) (by omega)
  (by unfold maxLen; omega) ?_ (by simp; omega) _ rfl fun g cap w' h2 h3 h4 _ => ?_
 ·intro j u' hj
  match j with
  | 0 =>
   obtain rfl : G.1.1 = u' := by simpa [iC] using hj
   exact aT W _ _ 0
  | 1 =>
   obtain rfl : G.1.2 = u' := by simpa [iC] using hj
   exact aT W _ _ 1
  | 2 =>
   obtain rfl : Value.string (aW G.2) = u' := by simpa [iC] using hj
   exact aT W _ _ 2
  | j + 3 => simp [iC] at hj
 ·have : (es.length + 1) * bytes ≤ (es.length + 1) * 64 := Nat.mul_le_mul_left _ nU
  omega
 ·have hg := jb h3
  have JW : ∀ b : Nat, some b ≠ v.ownBlock → b < W.heap.size → some b ≠ (Value.slice (some ⟨g, 0, none⟩) (es.length + 1) cap).ownBlock := fun b hb hlt e => by
   simp only [Value.ownBlock, Option.some.injEq] at e
   rcases h4 with h4 | h4
   ·exact hb (by rw [h4, e])
   ·rw [World.size_alloc] at h4; omega
  have hkeep : ∀ {u' : Value} {y' : ax}, aC (fun b => some b ≠ v.ownBlock) W u' y' → aC (fun b => some b ≠ (Value.slice (some ⟨g, 0, none⟩) (es.length + 1) cap).ownBlock) w' u' y' := fun hi' => by
   obtain ⟨P1, N1, e, hP, hN⟩ := hi'
   have k : Kept (fun b => some b ≠ v.ownBlock ∧ b < W.heap.size) W w' := fun b hb hlt => hg.block b hlt hb.1
   exact ⟨P1, N1, e, (aB.keep (hP.sub fun b hb hlt => ⟨hb, hlt⟩) k).sub fun b hb _ => JW b hb.1 hb.2, (av.keep (hN.sub fun b hb hlt => ⟨hb, hlt⟩) k).sub fun b hb _ => JW b hb.1 hb.2⟩
  refine h g cap w' ⟨by rw [List.length_append, KP]; exact h2, fun x hx => ?_⟩ hg (Below.grown (Below.refl _ _) hg hbase fun k hk => (World.ownsRow.lt hown k hk).1)
  rcases List.mem_append.1 hx with hx | hx
  ·exact hkeep (hrows x hx)
  ·rw [List.mem_singleton.1 hx]; exact hkeep hu
end
def C7 (x y : mJ) : Int := if Lib.compareBytes (cn x.2) (cn y.2) < 0 then -1 else if 0 < Lib.compareBytes (cn x.2) (cn y.2) then 1 else 0
theorem C8 (x y : mJ) : ltOf C7 x y = decide (Lib.compareBytes (cn x.2) (cn y.2) < 0) := by
 unfold ltOf C7
 split
 ·rename_i h; simp [h]
 ·rename_i h
  split <;> simp [h]
theorem NM : SWO (ltOf C7) where
 irrefl x := by rw [C8, wj]; simp
 trans x y z h1 h2 := by
  rw [C8] at *
  simp only [decide_eq_true_eq] at *
  exact tR h1 h2
 ntrans x y z h1 h2 := by
  rw [C8] at *
  simp only [decide_eq_false_iff_not] at *
  intro h3
  by_cases e : Lib.compareBytes (cn x.2) (cn y.2) = 0
  ·rw [oZ e] at h3; exact h2 h3
  ·have h4 := mO (cn x.2) (cn y.2)
   exact h2 (tR (show Lib.compareBytes (cn y.2) (cn x.2) < 0 by omega) h3)
set_option maxHeartbeats 400000 in
theorem TE (x y : mJ) (W : World) :
  Calls Tryz.prog 133 #[.agg (iC x).toArray, .agg (iC y).toArray] W fun e w' => e = .returned (.int .i64 (C7 x y)) ∧ ∃ q os, w' = grow (W.drewN q) os := by
 have HC : Hid (C7 x y = if Lib.compareBytes (cn x.2) (cn y.2) < 0 then -1 else if 0 < Lib.compareBytes (cn x.2) (cn y.2) then 1 else 0) := rfl
 have hkx : (aW x.2).toList = cn x.2 := by rw [toList_data]; rfl
 have hky : (aW y.2).toList = cn y.2 := by rw [toList_data]; rfl
 have HL : Hid (Op.bytesLess (aW x.2).toList (aW y.2).toList = decide (Lib.compareBytes (cn x.2) (cn y.2) < 0)) := by unfold Hid; rw [hkx, hky]; exact wO _ _
 have HQ : Hid (((aW x.2).toList == (aW y.2).toList) = decide (Lib.compareBytes (cn x.2) (cn y.2) = 0)) := by
  unfold Hid
  rw [hkx, hky]
  by_cases e : cn x.2 = cn y.2
  ·rw [e, wj]; simp
  ·rw [beq_eq_false_iff_ne.2 e, decide_eq_false fun q => e (oZ q)]
 have HW : Hid (∃ q os, (W.alloc (.cells #[x.1.1, x.1.2, .string (aW x.2)] 99)).alloc (.cells #[y.1.1, y.1.2, .string (aW y.2)] 99) = grow (W.drewN q) os) := ⟨0, _, by rw [alloc_eq_grow, alloc_eq_grow, grow_grow]; rfl⟩
 clear hkx hky
 unfold iC
 generalize Lib.compareBytes (cn x.2) (cn y.2) = cb at *
 generalize C7 x y = c at *
 go_enter Tryz.func133, Tryz.ntmps133
 go_wp2_with fail
 ·rename_i hb
  rw [HL.out] at hb
  have hb := of_decide_eq_true hb
  go_ret
  exact ⟨aO (by rw [HC.out, if_pos hb]), HW.out⟩
 ·rename_i hb hc
  rw [HL.out] at hb
  have hb := of_decide_eq_false hb
  have hc : ((aW x.2).toList == (aW y.2).toList) = false := by simpa using hc
  rw [HQ.out] at hc
  have hc := of_decide_eq_false hc
  go_ret
  exact ⟨aO (by rw [HC.out, if_neg hb, if_pos (by omega)]), HW.out⟩
 ·rename_i hb hc
  rw [HL.out] at hb
  have hb := of_decide_eq_false hb
  have hc : ((aW x.2).toList == (aW y.2).toList) = true := by simpa using hc
  rw [HQ.out] at hc
  have hc := of_decide_eq_true hc
  go_ret
  exact ⟨aO (by rw [HC.out, if_neg hb, if_neg (by omega)]), HW.out⟩
theorem WS {S : Nat → Prop} {w : World} {x : mJ} (h : aC S w (.agg #[x.1.1, x.1.2]) (flat x.2)) : x.1.1.oneCell' = true ∧ x.1.2.oneCell' = true := by
 obtain ⟨P1, N1, e, hP, hN⟩ := h
 injection e with e
 have e1 : x.1.1 = P1 ∧ x.1.2 = N1 := by simpa using e
 obtain ⟨p, c, e2, _⟩ := aD.open hP
 obtain ⟨q, d, e3, _⟩ := aD.open hN
 rw [e1.1, e1.2, e2, e3]; exact ⟨rfl, rfl⟩
theorem QV {base : Nat} {w : World} {v : Value} {es : List mJ} (h : iZ base w v es) (hne : es ≠ []) (hn : es.length ≤ 1000000) :
  Calls Tryz.prog 132 #[v, .func (.func 133) #[] #[]] w fun e w' => e = .returned (.tuple #[]) ∧ w.grownBy w' v.ownBlock ∧ ∃ es' : List mJ, es'.Perm es ∧ (es'.map (·.2)).Pairwise fM ∧
   ∃ g cap, v = .slice (some ⟨g, 0, none⟩) es'.length cap ∧ ∀ k, k < es'.length → w'.cell? ⟨g, k * 3, none⟩ = some (ge es' k).1.1 ∧ w'.cell? ⟨g, k * 3 + 1, none⟩ = some (ge es' k).1.2 ∧ w'.cell? ⟨g, k * 3 + 2, none⟩ = some (.string (aW (ge es' k).2)) := by
 obtain ⟨ho, hT⟩ := h
 obtain ⟨x0, hx0⟩ : ∃ x, x ∈ es := List.exists_mem_of_ne_nil _ hne
 have hl0 : 0 < es.length := List.length_pos_iff.2 hne
 letI : Inhabited {x // x ∈ es} := ⟨⟨x0, hx0⟩⟩
 obtain ⟨blk, cap, hv⟩ : ∃ blk cap, v = .slice (some ⟨blk, 0, none⟩) es.length cap := by
  rcases ho.2 with ⟨_, h0⟩ | ⟨g, cap, cur, e, _⟩
  ·exfalso
   have := h0
   omega
  ·exact ⟨g, cap, e⟩
 subst hv
 have hblk : blk < w.heap.size := (World.ownsRow.lt ho blk rfl).2
 have hsize : (es.attach.toArray).size = es.length := by simp
 have hget : ∀ i, i < es.length → ((es.attach.toArray)[i]!).1 = ge es i := fun i hi => by
  rw [getElem!_pos _ _ (by simpa using hi)]
  simp [ge, hi]
 have hfz : ∀ j, w.frozen? ⟨blk, j, none⟩ = false := fun j => by
  rcases ho.2 with ⟨e, _⟩ | ⟨g', cap', cur, hs', _, hc', _⟩
  ·cases e
  ·injection hs' with hs1
   injection hs1 with hs1
   injection hs1 with hs1
   subst hs1
   simp [World.frozen?, hc']
 have hH : HoldsK (fun x : {x // x ∈ es} => iC x.1) 3 w blk 0 es.attach.toArray := by
  intro j hj
  rw [size_flatK, hsize] at hj
  refine ⟨?_, by rw [Nat.zero_add]; exact hfz j⟩
  rw [get_flatK _ _ _ _ (by rw [hsize]; exact hj), Nat.zero_add, ho.cellAt j hj]
  have hi : j / 3 < es.length := by omega
  obtain ⟨c1, c2, c3⟩ := FD es (j / 3) hi
  show _ = some ((iC ((es.attach.toArray)[j / 3]!).1)[j % 3]!)
  rw [hget _ hi]
  have h3 : j % 3 = 0 ∨ j % 3 = 1 ∨ j % 3 = 2 := by omega
  rcases h3 with h3 | h3 | h3
  ·rw [h3, show (fS es)[j]? = (fS es)[j / 3 * 3]? by congr 1; omega, c1]; simp [iC]
  ·rw [h3, show (fS es)[j]? = (fS es)[j / 3 * 3 + 1]? by congr 1; omega, c2]; simp [iC]
  ·rw [h3, show (fS es)[j]? = (fS es)[j / 3 * 3 + 2]? by congr 1; omega, c3]; simp [iC]
 have hgb : ∀ (m : Nat) (os : Array Obj) (dk : Array {x // x ∈ es}), w.grownBy (sortWorldK (fun x : {x // x ∈ es} => iC x.1) 3 w blk 0 m dk os) (some blk) := fun m os dk => ⟨rfl, rfl, rfl, size_sortWorldK_c _ _ _ _ _ _ _ _, fun b hb hne => eH (enc := id) (fun e => hne (by rw [e])) hb⟩
 have hcmp : CmpLays Tryz.prog 133 #[] (fun x : {x // x ∈ es} => iC x.1) 3 (fun x y => C7 x.1 y.1) blk 0 es.attach.toArray.size w := fun m os dk _ x y => TE x.1 y.1 _
 have hcon := AnyQ.slices_SortFunc Tryz.sortEnt 3 Tryz.isAgg99 Tryz.sizeOf99 (fun x : {x // x ∈ es} => iC x.1) (fun _ => rfl) (fun x u hu => by
   obtain ⟨o1, o2⟩ := WS (hT x.1 x.2)
   unfold iC at hu
   rcases List.mem_cons.1 hu with e | hu
   ·subst e; exact o1
   ·rcases List.mem_cons.1 hu with e | hu
    ·subst e; exact o2
    ·rw [List.mem_singleton.1 hu]; rfl) (fun x y => C7 x.1 y.1) ⟨fun x => NM.irrefl x.1, fun x y z => NM.trans x.1 y.1 z.1, fun x y z => NM.ntrans x.1 y.1 z.1⟩ 133 #[] blk 0 cap es.attach.toArray w (enters_of Tryz.func133 (by kernel_rfl) rfl) hcmp hH hblk (by rw [hsize]; omega)
 rw [hsize] at hcon
 refine hcon.mono fun e w' ⟨he, d', m, os, VD, Z8, hw⟩ => ⟨he, by rw [hw]; exact hgb m os d', d'.toList.map (·.1), ?_, ?_, blk, cap, ?_, ?_⟩
 ·obtain ⟨hsz, _, nY⟩ := VD
  have e1 : d'.extract 0 es.length = d' := by rw [← hsize, ← hsz]; exact Array.extract_size
  have e2 : es.attach.toArray.extract 0 es.length = es.attach.toArray := by rw [← hsize]; exact Array.extract_size
  rw [e1, e2] at nY
  have h2 := nY.map (fun (x : {x // x ∈ es}) => x.1)
  rw [List.toList_toArray, List.attach_map_subtype_val] at h2
  exact h2
 ·obtain ⟨hsz, _, _⟩ := VD
  rw [hsize] at hsz
  rw [List.map_map, List.pairwise_map, List.pairwise_iff_getElem]
  intro i j hi hj hij
  have hi' : i < d'.size := by simpa using hi
  have hj' : j < d'.size := by simpa using hj
  have h3 := Z8 i j (Nat.zero_le _) hij (by omega)
  rw [getElem!_pos d' j hj', getElem!_pos d' i hi'] at h3
  have h4 : ltOf C7 (d'[j]'hj').1 (d'[i]'hi').1 = false := h3
  rw [C8, decide_eq_false_iff_not] at h4
  show Lib.compareBytes (cn (d'.toList[i]'(by simpa using hi)).1.2) (cn (d'.toList[j]'(by simpa using hj)).1.2) ≤ 0
  rw [Array.getElem_toList, Array.getElem_toList]
  have := mO (cn (d'[j]'hj').1.2) (cn (d'[i]'hi').1.2)
  omega
 ·have : d'.size = es.length := by rw [VD.1, hsize]
  simp [this]
 ·intro k hk
  have hk' : k < d'.size := by simpa using hk
  have hHd := holdsK_sortWorldK_c (fun x : {x // x ∈ es} => iC x.1) 3 w blk 0 es.attach.toArray d' m os hH hblk VD.1
  have hge : ge (d'.toList.map (·.1)) k = (d'[k]!).1 := by
   rw [getElem!_pos d' k hk']
   simp [ge, hk']
  have c0 := (hHd.cell (i := k) (c := 0) hk' (by decide)).1
  have c1 := (hHd.cell (i := k) (c := 1) hk' (by decide)).1
  have c2 := (hHd.cell (i := k) (c := 2) hk' (by decide)).1
  rw [Nat.zero_add] at c0 c1 c2
  rw [hge, hw]
  exact ⟨c0, c1, c2⟩
end
section
open Go.RowKit Go.Deep
end
section
section
variable {t u : ax} {names : List ByteArray} {states : List (List Int)} {leaf : Nat}
theorem JX (hn : fT names) (ht : mZ t names) (h : aR t leaf) (h63 : t.ps.length ≤ 63) : mZ (flat (jJ t leaf)) names := by
 refine of_flat hn (L9 h h63).1 ?_
 exact (Nx h).trans ((wX ht.te).trans (QS hn ht))
theorem TF (hc : tC names states) (ht : mZ t names) (h : aR t leaf) (h63 : t.ps.length ≤ 63) : cN (flat (jJ t leaf)) names states = cN t names states := by
 have hu := JX hc.nm ht h h63
 refine Int.le_antisymm ?_ ?_
 ·refine CY hc ht hu fun m cost bg M hl s c ha => ?_
  rw [pG]
  obtain ⟨u, c', h1, h2⟩ := (Mb M hl h).1 s c ha
  exact ⟨u, c', h2, h1⟩
 ·refine CY hc hu ht fun m cost bg M hl s c ha => ?_
  rw [pG] at ha
  obtain ⟨u, c', h1, h2⟩ := (Mb M hl h).2 s c ha
  exact ⟨u, c', h2, h1⟩
end
section
variable {t : ax} {names : List ByteArray}
end
end
section
open Go.RowKit Go.Deep
def pZ : Nat → Int
 | 0 => 1
 | m + 1 => pZ m * (2 * (m : Int) + 3)
def NN (n : Int) : Int := if n < 2 ∨ 7 < n then 2 else 0
def NP (n : Int) : Int := if n < 2 ∨ 7 < n then 0 else pZ (n - 3).toNat
set_option maxHeartbeats 2000000 in
theorem QW (n : Int) (hn : -9223372036854775808 ≤ n ∧ n ≤ 9223372036854775807) (w : World) : Calls Tryz.prog 29 #[.int .i64 n] w fun e w' => e = .returned (.tuple #[.int .i64 (NP n), .int .i64 (NN n)]) ∧ w = w' := by
 have HC : Hid (NN n = if n < 2 ∨ 7 < n then 2 else 0) := rfl
 have HR : Hid (NP n = if n < 2 ∨ 7 < n then 0 else pZ (n - 3).toNat) := rfl
 by_cases h1 : n < 2
 ·go_enter Tryz.func29, Tryz.ntmps29
  go_wp2_with fail
  go_ret2
  rw [HC.out, HR.out, if_pos (.inl h1), if_pos (.inl h1)]; exact ⟨rfl, rfl⟩
 by_cases h2 : 7 < n
 ·go_enter Tryz.func29, Tryz.ntmps29
  go_wp2_with fail
  go_ret2
  rw [HC.out, HR.out, if_pos (.inr h2), if_pos (.inr h2)]; exact ⟨rfl, rfl⟩
 obtain ⟨k, rfl⟩ : ∃ k : Nat, n = k := ⟨n.toNat, by omega⟩
 have HF : Hid (NN (k : Int) = 0 ∧ NP (k : Int) = pZ (k - 3)) := by
  unfold Hid; rw [HC.out, HR.out, if_neg (by omega), if_neg (by omega), show ((k : Int) - 3).toNat = k - 3 by omega]; exact ⟨rfl, rfl⟩
 clear HC HR hn
 have hk : k = 2 ∨ k = 3 ∨ k = 4 ∨ k = 5 ∨ k = 6 ∨ k = 7 := by omega
 have e0 := HF.out.1
 have e1 := HF.out.2
 rw [e0, e1]
 clear HF e0 e1
 go_enter Tryz.func29, Tryz.ntmps29
 go_wp2_with fail
 go_loop [4, 5] (fun o i => ∃ m : Nat, m ≤ k - 3 ∧ i = .int .i64 (2 * (m : Int) + 3) ∧ o = .int .i64 (pZ m)) (fun _ i => 20 - (intOf i).toNat)
 case atStart => exact ⟨0, Nat.zero_le _, rfl, rfl⟩
 case round =>
  obtain ⟨m, hm, rfl, rfl⟩ := hrel
  have hm4 : m ≤ 4 := by omega
  by_cases hlt : m < k - 3
  ·have hb : pZ (m + 1) = pZ m * (2 * (m : Int) + 3) ∧ 1 ≤ pZ m ∧ pZ m ≤ 105 ∧ 1 ≤ pZ (m + 1) ∧ pZ (m + 1) ≤ 945 := by
    have : m = 0 ∨ m = 1 ∨ m = 2 ∨ m = 3 := by omega
    rcases this with rfl | rfl | rfl | rfl <;> refine ⟨rfl, by decide, by decide, by decide, by decide⟩
   obtain ⟨b0, b1, b2, b3, b4⟩ := hb
   have hc : 2 * (m : Int) + 3 ≤ 2 * (k : Int) - 5 := by omega
   generalize hcm : pZ (m + 1) = c' at *
   generalize pZ m = c at *
   go_wp2_with fail
   go_round
   case rel => exact ⟨m + 1, hlt, by go_num, by rw [hcm, b0]⟩
   case measure => simp [intOf]; omega
  ·obtain rfl : m = k - 3 := by omega
   have hc : ¬ 2 * ((k - 3 : Nat) : Int) + 3 ≤ 2 * (k : Int) - 5 := by omega
   go_wp2_with fail
   go_ret2
   exact ⟨rfl, rfl⟩
set_option maxHeartbeats 2000000 in
theorem TG (w : World) (s : ByteArray) (hz : s.size ≤ 70000) :
  Calls Tryz.prog 149 #[.string s] w fun e w' => e = .returned (.bool (aZ s.data.toList)) ∧ Up w w' := by
 have hu := (Up.alloc w (.cells #[.int .i64 (-1)] 3)).trans (Up.alloc _ (.cells #[.string s] 9))
 have HU := aa hu
 have HC := aa (oV Any _ _ (jX s) (Za w s) (by simp [jX]) (by simp [jX]) (fun k => by
  unfold jX gs; cases k <;> simp; exact hz))
 have HX := aa (Wk s)
 clear hu
 go_enter Tryz.func149, Tryz.ntmps149
 go_wp2_with fail
 generalize (w.alloc (.cells #[.int .i64 (-1)] 3)).alloc (.cells #[.string s] 9) = w1 at *
 refine HC.out.mono ?_
 rintro e w2 ⟨rfl, hb⟩
 have bH := aa (HU.out.trans (show Up w1 w2 from hb))
 clear hb HC HU
 go_wp2_with fail
 go_ret
 exact ⟨bw HX.out, bH.out⟩
set_option maxHeartbeats 2000000 in
theorem vP (S : Nat → Prop) (w : World) (v : Value) (names : List ByteArray) (h : av S w v names) (hn : names.length ≤ 1000000) (hz : ∀ k, (gs names k).size ≤ 70000) :
  Calls Tryz.prog 94 #[v] w fun e w' => e = .returned (.int .i64 (bZ names)) ∧ Up w w' := by
 obtain ⟨p, cap, rfl, hcap, _⟩ := aD.open h
 have h : av S w (.slice p names.length cap) names := h
 have HC : Hid (bZ names = if names.length < 2 ∨ 7 < names.length then 4 else firstNZ (dW names) names.length) := rfl
 have HN := aa h
 have HZ := aa hz
 clear h hz
 by_cases h1 : names.length < 2
 ·go_enter Tryz.func94, Tryz.ntmps94
  go_wp2_with fail
  go_ret
  exact ⟨aO (by rw [HC.out, if_pos (.inl h1)]), Up.refl _⟩
 by_cases h2 : 7 < names.length
 ·go_enter Tryz.func94, Tryz.ntmps94
  go_wp2_with fail
  go_ret
  exact ⟨aO (by rw [HC.out, if_pos (.inr h2)]), Up.refl _⟩
 have HF : Hid (bZ names = firstNZ (dW names) names.length) := by unfold Hid; rw [HC.out, if_neg (by omega)]
 clear HC
 have CT : Hid (∀ k, k < names.length → (∀ j, j < k → dW names j = 0) → dW names k ≠ 0 → bZ names = dW names k) := fun k hk hj h0 => by
  rw [HF.out, fZ hk hj h0]
 go_enter Tryz.func94, Tryz.ntmps94
 go_wp2_with fail
 go_loopw [3, 4, 15] (fun _ _ i wr => ∃ k : Nat, k ≤ names.length ∧ i = .int .i64 k ∧ Hid (Up w wr ∧ ∀ j, j < k → dW names j = 0)) (fun _ _ i _ => names.length - (intOf i).toNat)
 case atStart => exact ⟨0, Nat.zero_le _, rfl, Up.refl _, fun j hj => absurd hj (Nat.not_lt_zero _)⟩
 case round =>
  obtain ⟨k, hk, rfl, hd⟩ := hrel
  obtain ⟨wo, rfl⟩ : ∃ wo : World, wo = wr := ⟨_, rfl⟩
  by_cases hlt : k < names.length
  ·have JY := av.keep HN.out (hd.out.1.kept S)
   obtain ⟨VE, no, rfl, hc⟩ := cu JY hlt
   have iF := aa (TG wo (gs names k) (HZ.out k))
   have zS : Hid (∀ W, Up wo W → Calls Tryz.prog 39 #[.slice (some ⟨VE, no, none⟩) k cap, .string (gs names k)] W fun e w' => e = .returned (.bool (dI names k)) ∧ W = w') := fun W hW => by
    have h := gZ S W _ k (fun j => gs names j) (gs names k) (ET (av.keep JY (hW.kept S)) hk) (by omega)
    rwa [TD] at h
   have JZ := aa (CT.out k hlt hd.out.2)
   have J1 : Hid (dW names k = if aZ (gs names k).data.toList then (if dI names k then 7 else 0) else 14) := rfl
   generalize gs names k = nm at *
   generalize dI names k = bs at *
   generalize aZ nm.data.toList = bn at *
   clear JY
   cases bn
   ·have HE : Hid (dW names k = 14) := J1.out
    go_wp2_with fail
    refine iF.out.mono ?_
    rintro e w1 ⟨rfl, aX⟩
    have bT := aa (hd.out.1.trans aX)
    clear aX
    go_wp2_with fail
    go_ret
    exact ⟨aO ((JZ.out (by rw [HE.out]; decide)).trans HE.out).symm, bT.out⟩
   ·cases bs
    ·have HE : Hid (dW names k = 0) := J1.out
     go_wp2_with fail
     refine iF.out.mono ?_
     rintro e w1 ⟨rfl, aX⟩
     have bT := aa (hd.out.1.trans aX)
     have Bv := aa (zS.out w1 aX)
     clear aX
     go_wp2_with (go_at_call 39; refine Bv.out.mono ?_; rintro e w' ⟨rfl, rfl⟩)
     go_roundw
     case rel => exact ⟨k + 1, by omega, by go_num, bT.out, fun j hj => if e : j = k then by subst e; exact HE.out else hd.out.2 j (by omega)⟩
     case measure => simp [intOf]; omega
    ·have HE : Hid (dW names k = 7) := J1.out
     go_wp2_with fail
     refine iF.out.mono ?_
     rintro e w1 ⟨rfl, aX⟩
     have bT := aa (hd.out.1.trans aX)
     have Bv := aa (zS.out w1 aX)
     clear aX
     go_wp2_with (go_at_call 39; refine Bv.out.mono ?_; rintro e w' ⟨rfl, rfl⟩)
     go_ret
     exact ⟨aO ((JZ.out (by rw [HE.out]; decide)).trans HE.out).symm, bT.out⟩
  ·obtain rfl : k = names.length := by omega
   have qZ : Hid (bZ names = 0) := by unfold Hid; rw [HF.out, eN hd.out.2]
   go_wp2_with fail
   go_ret
   exact ⟨aO qZ.out.symm, hd.out.1⟩
set_option maxHeartbeats 2000000 in
theorem FE (S : Nat → Prop) (w : World) (v vs : Value) (names : List ByteArray) (states : List (List Int)) (h : av S w v names) (hn : names.length ≤ 1000000) (hz : ∀ k, (gs names k).size ≤ 70000) (hS : bh S w vs states) (sr : states.length ≤ 1000000) (hr : ∀ k, (gl states k).length ≤ 1000000) :
  Calls Tryz.prog 72 #[v, vs] w fun e w' => e = .returned (.int .i64 (dQ names states)) ∧ Up w w' := by
 have HC : Hid (dQ names states = if bZ names ≠ 0 then bZ names else if cB states ≠ 0 then 1 else if states.length ≠ names.length then 9 else 0) := rfl
 have iF := aa (vP S w v names h hn hz)
 obtain ⟨p, cap, rfl, hcap, _⟩ := aD.open h
 obtain ⟨q, d, rfl, hd, _⟩ := fL hS
 have vQ : Hid (∀ W, Up w W → Calls Tryz.prog 75 #[.slice q states.length d] W fun e w' => e = .returned (.int .i64 (cB states)) ∧ W = w') := fun W hW => Ep S W _ states (bh.keep hS (hW.kept S)) sr hr
 clear h hS hz hr
 go_enter Tryz.func72, Tryz.ntmps72
 go_wp2_with fail
 refine iF.out.mono ?_
 rintro e w1 ⟨rfl, aX⟩
 have bT := aa aX
 have HAG1 := aa (vQ.out w1 aX)
 clear aX
 by_cases c1 : bZ names = 0
 ·have HC2 : Hid (dQ names states = if cB states ≠ 0 then 1 else if states.length ≠ names.length then 9 else 0) := by unfold Hid; rw [HC.out, if_neg (by omega)]
  rw [c1]
  clear HC c1 iF vQ
  go_wp2_with fail
  refine HAG1.out.mono ?_
  rintro e w' ⟨rfl, rfl⟩
  generalize cB states = a at *
  by_cases c2 : a = 0
  ·subst c2
   by_cases c3 : states.length = names.length
   ·have d3 : (states.length : Int) = (names.length : Int) := by omega
    go_wp2_with fail
    go_ret
    exact ⟨aO (by rw [HC2.out, if_neg (by omega), if_neg (by omega)]), bT.out⟩
   ·have d3 : ¬ (states.length : Int) = (names.length : Int) := by omega
    go_wp2_with fail
    go_ret
    exact ⟨aO (by rw [HC2.out, if_neg (by omega), if_pos c3]), bT.out⟩
  ·go_wp2_with fail
   go_ret
   exact ⟨aO (by rw [HC2.out, if_pos c2]), bT.out⟩
 ·generalize bZ names = a at *
  go_wp2_with fail
  go_ret
  exact ⟨aO (by rw [HC.out, if_pos c1]), bT.out⟩
end
section
open Go.RowKit Go.Deep
theorem r7 {s : ByteArray} (h : aZ s.data.toList = true) : s.size ≤ 20 := by
 have hl : s.data.toList.length = s.size := size_data s
 unfold aZ eo at h
 split at h
 ·simp only [Bool.and_eq_true, decide_eq_true_eq] at h; omega
 ·simp only [Bool.and_eq_true, decide_eq_true_eq] at h; omega
theorem FH {S : Nat → Prop} {w : World} {b o n cap : Nat} {xs : List ByteArray} (h : av S w (.slice (some ⟨b, o, none⟩) n cap) xs) (hn : 2 ≤ xs.length) : av S w (.slice (some ⟨b, o + 1, none⟩) (xs.length - 1) (cap - 1)) xs.tail := by
 obtain ⟨p, c, e, hc, h⟩ := h
 injection e with e1 e2 e3
 subst e1; subst e3
 refine ⟨_, _, by rw [List.length_tail], by rw [List.length_tail]; omega, ?_⟩
 rcases h with h | ⟨b', o', e4, hS, h⟩
 ·omega
 ·injection e4 with e4
  injection e4 with e5 e6
  subst e5; subst e6
  refine .inr ⟨b, o + 1, rfl, hS, fun k hk => ?_⟩
  rw [List.length_tail] at hk
  have := h (k + 1) (by omega)
  rw [show o + 1 + k = o + (k + 1) by omega, this]
  show some (Value.string (gs xs (k + 1))) = some (Value.string (gs xs.tail k))
  have : gs xs.tail k = gs xs (k + 1) := by
   unfold gs
   cases xs with
   | nil => simp at hn
   | cons a l => rfl
  rw [this]
def nQ (names : List ByteArray) (s : ByteArray) : ByteArray := ⟨#[40]⟩ ++ gs names 0 ++ ⟨#[44]⟩ ++ s ++ ⟨#[41, 59]⟩
structure EnF (names : List ByteArray) (r : BT ByteArray) : Prop where
 NQ : jr (nQ names (jt r)).data.toList = some (btR (uB names r))
 psz : (nQ names (jt r)).size ≤ 1000
 te : az (flat (btR (uB names r))) = 0
 can : qT (flat (btR (uB names r))) = flat (uR names r)
 te2 : az (flat (uR names r)) = 0
 tx : ug (flat (uR names r)) = cn (uR names r)
 len : aI (btR (uB names r)) ≤ 9 ∧ aI (uR names r) ≤ 9
 sz : ∀ k, (gs (flat (btR (uB names r))).ns k).size ≤ 70000
 sz2 : ∀ k, (gs (flat (uR names r)).ns k).size ≤ 70000
theorem mL {r : RT} (h : di r) (k : Nat) : (gs (flat r).ns k).size ≤ 70000 := by
 refine iN (M := 70000) (fun x hx => ?_) k
 have hx : x ∈ cQ r := hx
 rw [lR] at hx
 obtain ⟨s, hs, rfl⟩ := List.mem_map.1 hx
 by_cases e : s.kids = []
 ·exact Nat.le_trans (r7 (h.lf s hs e)) (by decide)
 ·rw [h.sR s hs e]; exact Nat.zero_le _
theorem enF {names : List ByteArray} (h : fT names) {r : BT ByteArray} (hr : r ∈ kD names.tail) : EnF names r := by
 have hp : r.gT.Perm names.tail := x6 _ _ _ hr
 have ho := Vw h hp
 have hg := ho.Vu.good
 have hhi := h.hi
 have hlo := h.lo
 have hl := (vJ h hp).length_eq
 have hs := zF (uB names r)
 have hz : ∀ x ∈ names, x.size ≤ 20 := fun x hx => r7 (h.nm x hx)
 have ht := sS hg (by omega)
 have Ab : r ∈ rt names.length names.tail := by
  have : rt names.length names.tail = kD names.tail := pY _ _ _ (by simp) (Nat.le_refl _)
  rw [this]; exact hr
 obtain ⟨_, _, q3, _, q5, _⟩ := fJ h (JG.2 ⟨r, Ab, rfl⟩)
 refine ⟨?_, ?_, ht, by rw [yD ht, pG]; rfl, q5, by rw [txT_eq q5, pG]; rfl, by omega, mL hg, mL (r := uR names r) hg.sort⟩
 ·have e : (nQ names (jt r)).data.toList = txR (btR (uB names r)) ++ [59] := by
   unfold nQ jt uB
   rw [Vv, btR, wM]
   simp
  rw [e]; exact vA hg.jm
 ·have h1 := xg r fun x hx => hz x (List.mem_of_mem_tail (hp.mem_iff.1 hx))
  have h2 := hp.length_eq
  have h3 := iN hz 0
  rw [List.length_tail] at h2
  unfold nQ
  simp only [ByteArray.size_append]
  show 1 + (gs names 0).size + 1 + (jt r).size + 2 ≤ 1000
  omega
def J2 (w : World) (names : List ByteArray) (e : Ending) (w' : World) : Prop := Up w w' ∧ ∃ v, e = .returned (.tuple #[v, .int .i64 0]) ∧ vO w' v (bD names)
theorem FI {base n size : Nat} {e : TypeId} {w w' : World} {v : Value} {vs : List Value} (h : w.ownsRow base e size v n vs) (k : ∀ b, v.ownBlock = some b → w'.heap[b]? = w.heap[b]?) : w'.ownsRow base e size v n vs := by
 refine ⟨h.1, ?_⟩
 rcases h.2 with h2 | ⟨g, cap, cur, hv, hg, hc, h3⟩
 ·exact .inl h2
 ·exact .inr ⟨g, cap, cur, hv, hg, (k g (by rw [hv]; rfl)).trans hc, h3⟩
theorem iZ.up {base : Nat} {w w' : World} {v : Value} {es : List mJ} (h : iZ base w v es) (hu : Up w w') : iZ base w' v es :=
 ⟨FI h.1 fun b hb => Below.block hu b (World.ownsRow.lt h.1 b hb).2, fun x hx => (h.2 x hx).keep (hu.kept _)⟩
def gB (R : List (BT ByteArray)) (n : Nat) : BT ByteArray := R.getD n (.leaf ByteArray.empty)
theorem rts_gs {L : List ByteArray} {n : Nat} (h : n < (kD L).length) : gs (bK L) n = jt (gB (kD L) n) ∧ gB (kD L) n ∈ kD L := by
 unfold gs gB bK
 constructor
 ·simp [h]
 ·simp [h]
end
section
open Go.RowKit Go.Deep
theorem FY (s : ByteArray) (h : s.size - 1 < s.size) (T9 : 16 < s.size) (zQ : ((s[s.size - 1].toNat : Int) == 42) = true) : aZ s.data.toList = false := by
 have hl := size_data s
 have h2 : s[s.size - 1] = 42 := by
  have h3 : (s[s.size - 1].toNat : Int) = 42 := by simpa using zQ
  have h4 : s[s.size - 1].toNat = 42 := by omega
  exact UInt8.toNat_inj.1 h4
 unfold aZ; rw [AL s h, h2, if_pos rfl, hl, decide_eq_false (by omega), Bool.and_false]
end
end Go.Proofs.YteegefnjnikngaaGreat
