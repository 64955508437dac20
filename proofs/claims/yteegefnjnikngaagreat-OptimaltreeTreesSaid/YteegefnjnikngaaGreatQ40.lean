/- Lists of trees with their texts, in memory: appending, reading, sorting by text. The .. -/
import Derived.Test.YteegefnjnikngaaGreatQ1
import Derived.Test.YteegefnjnikngaaGreatQ38
import Derived.Test.YteegefnjnikngaaGreatQ35
import Derived.Test.YteegefnjnikngaaGreatQ18
import Derived.Test.YteegefnjnikngaaGreatQ14
import Derived.Test.YteegefnjnikngaaGreatQ7
import Derived.Test.YteegefnjnikngaaGreatQ17
import Derived.Test.YteegefnjnikngaaGreatQ22
import Derived.Test.YteegefnjnikngaaGreatQ36
import Derived.Test.YteegefnjnikngaaGreatQ39
import Derived.Test.YteegefnjnikngaaGreatQ12
set_option maxRecDepth 100000
namespace Go.Proofs.YteegefnjnikngaaGreat
section
open Go.RowKit Go.Deep Go.Sort Go.Shelf Go.Lib
abbrev jZ := (Value × Value) × RT
def aO (r : RT) : ByteArray := ⟨(bG r).toArray⟩
def fK (x : jZ) : List Value := [x.1.1, x.1.2, .string (aO x.2)]
def dZ (es : List jZ) : List Value := es.flatMap fK
def ge (es : List jZ) (k : Nat) : jZ := es.getD k ((undef, undef), .node ByteArray.empty [])
theorem FW (es : List jZ) (x : jZ) : dZ (es ++ [x]) = dZ es ++ fK x := by unfold dZ; rw [List.flatMap_append]; simp
theorem BX : ∀ (es : List jZ) (k : Nat), k < es.length → (dZ es)[k * 3]? = some (ge es k).1.1 ∧ (dZ es)[k * 3 + 1]? = some (ge es k).1.2 ∧ (dZ es)[k * 3 + 2]? = some (.string (aO (ge es k).2))
 | [], k, h => absurd h (Nat.not_lt_zero _)
 | x :: es, 0, _ => by simp [dZ, fK, ge]
 | x :: es, k + 1, h => by
  have ih := BX es k (by simpa using h)
  have e : (k + 1) * 3 = k * 3 + 1 + 1 + 1 := by omega
  have e2 : ge (x :: es) (k + 1) = ge es k := by simp [ge]
  have e3 : dZ (x :: es) = x.1.1 :: x.1.2 :: .string (aO x.2) :: dZ es := by simp [dZ, fK]
  rw [e2, e3, e]
  simp only [List.getElem?_cons_succ]
  exact ih
def gp (base : Nat) (w : World) (v : Value) (es : List jZ) : Prop :=
 w.ownsRow base 99 3 v es.length (dZ es) ∧ ∀ x ∈ es, ay (fun b => some b ≠ v.ownBlock) w (.agg #[x.1.1, x.1.2]) (flat x.2)
theorem gp.nil (base : Nat) (w : World) : gp base w (.slice none 0 0) [] := ⟨World.ownsRow_nil _ _ _ _, fun _ h => by cases h⟩
def rQ (w : World) (v : Value) (qs : List RT) : Prop :=
 ∃ g cap, ∃ es : List jZ, v = .slice (some ⟨g, 0, none⟩) qs.length cap ∧ es.map (·.2) = qs ∧ (∀ k, k < es.length → w.cell? ⟨g, k * 3, none⟩ = some (ge es k).1.1 ∧ w.cell? ⟨g, k * 3 + 1, none⟩ = some (ge es k).1.2 ∧ w.cell? ⟨g, k * 3 + 2, none⟩ = some (.string (aO (ge es k).2))) ∧ ∀ x ∈ es, ay Any w (.agg #[x.1.1, x.1.2]) (flat x.2)
theorem Vu {es : List jZ} {k : Nat} (h : k < es.length) : ge es k ∈ es := by simp [ge, h]
theorem rQ.keep {w w' : World} {v : Value} {qs : List RT} (h : rQ w v qs) (hu : Up w w') : rQ w' v qs := by
 obtain ⟨g, cap, es, e1, e2, h1, h2⟩ := h
 exact ⟨g, cap, es, e1, e2, fun k hk => ⟨hu.cell (h1 k hk).1, hu.cell (h1 k hk).2.1, hu.cell (h1 k hk).2.2⟩, fun x hx => (h2 x hx).keep (hu.kept _)⟩
section
variable {P : Program} {ops : Array Oper} {rest : List Oper} {o : Oper} {a : Act} {Q : Exit → Act → World → Prop}
theorem Cl (W : World) (hgd : o.guard = none) (s x : Operand) (t : TypeId) (ho : o.op = .call { callee := .builtin .append, args := #[s, x], argTypes := #[t, t] })
  (base : Nat) (z : Value) (bytes : Nat) (ht : P.underlying t = some (.slice 99)) (hinfo : (P.info? 99).map (fun i => (i.zero, i.size, i.bytes)) = some (some z, 3, bytes))
  (hz1 : z.cells.size = 3) (kY : bytes ≤ 64) {v : Value} {es : List jZ} (hown : gp base W v es) (hs : a.eval s = v) (G : jZ)
  (hx : a.eval x = .slice (some ⟨W.heap.size, 0, none⟩) 1 1) (hu : ay (fun b => some b ≠ v.ownBlock) W (.agg #[G.1.1, G.1.2]) (flat G.2)) (n : Nat) (mO : es.length = n) (hn : n ≤ 1000000) (hbase : base ≤ W.heap.size)
  (h : ∀ g cap w', gp base w' (.slice (some ⟨g, 0, none⟩) (n + 1) cap) (es ++ [G]) → W.grownBy w' v.ownBlock → Below base W w' → wpList P ops Q rest (a.put o.dst (.slice (some ⟨g, 0, none⟩) (n + 1) cap)) w') :
  wpList P ops Q (o :: rest) a (W.alloc (.cells #[G.1.1, G.1.2, .string (aO G.2)] 99)) := by
 subst mO
 obtain ⟨i, hi, hzz⟩ := Option.map_eq_some_iff.1 hinfo
 simp only [Prod.mk.injEq] at hzz
 obtain ⟨hz, hs1, hb⟩ := hzz
 obtain ⟨hown, hrows⟩ := hown
 have h1 : G.1.1.oneCell' = true ∧ G.1.2.oneCell' = true := by
  obtain ⟨P1, N1, e, hP, hN⟩ := hu
  injection e with e
  have e1 : G.1.1 = P1 ∧ G.1.2 = N1 := by simpa using e
  obtain ⟨p, c, e2, _⟩ := aA.open hP
  obtain ⟨q, d, e3, _⟩ := aA.open hN
  rw [e1.1, e1.2, e2, e3]; exact ⟨rfl, rfl⟩
 refine wpList_append_lies _ hgd s x t ho base 99 i z 3 bytes ht hi hz hs1 hb hz1 (by omega) v es.length (dZ es) hs (hown.alloc _) ⟨W.heap.size, 0, none⟩ 1 1 (fK G) hx rfl ?_ (fun q hq => by
  unfold fK at hq
  rcases List.mem_cons.1 hq with e | hq
  ·subst e; exact h1.1
  ·rcases List.mem_cons.1 hq with e | hq
   ·subst e; exact h1.2
   ·rw [List.mem_singleton.1 hq]; rfl) (by omega)
  (by unfold maxLen; omega) ?_ (by simp; omega) _ rfl fun g cap w' h2 h3 h4 _ => ?_
 ·intro j u' hj
  match j with
  | 0 =>
   obtain rfl : G.1.1 = u' := by simpa [fK] using hj
   exact aK W _ _ 0
  | 1 =>
   obtain rfl : G.1.2 = u' := by simpa [fK] using hj
   exact aK W _ _ 1
  | 2 =>
   obtain rfl : Value.string (aO G.2) = u' := by simpa [fK] using hj
   exact aK W _ _ 2
  | j + 3 => simp [fK] at hj
 ·have : (es.length + 1) * bytes ≤ (es.length + 1) * 64 := Nat.mul_le_mul_left _ kY
  omega
 ·have hg := gu h3
  have ES : ∀ b : Nat, some b ≠ v.ownBlock → b < W.heap.size → some b ≠ (Value.slice (some ⟨g, 0, none⟩) (es.length + 1) cap).ownBlock := fun b hb hlt e => by
   simp only [Value.ownBlock, Option.some.injEq] at e
   rcases h4 with h4 | h4
   ·exact hb (by rw [h4, e])
   ·rw [World.size_alloc] at h4; omega
  have hkeep : ∀ {u' : Value} {y' : av}, ay (fun b => some b ≠ v.ownBlock) W u' y' → ay (fun b => some b ≠ (Value.slice (some ⟨g, 0, none⟩) (es.length + 1) cap).ownBlock) w' u' y' := fun hi' => by
   obtain ⟨P1, N1, e, hP, hN⟩ := hi'
   have k : Kept (fun b => some b ≠ v.ownBlock ∧ b < W.heap.size) W w' := fun b hb hlt => hg.block b hlt hb.1
   exact ⟨P1, N1, e, (ax.keep (hP.sub fun b hb hlt => ⟨hb, hlt⟩) k).sub fun b hb _ => ES b hb.1 hb.2, (au.keep (hN.sub fun b hb hlt => ⟨hb, hlt⟩) k).sub fun b hb _ => ES b hb.1 hb.2⟩
  refine h g cap w' ⟨by rw [List.length_append, FW]; exact h2, fun x hx => ?_⟩ hg (Below.grown (Below.refl _ _) hg hbase fun k hk => (World.ownsRow.lt hown k hk).1)
  rcases List.mem_append.1 hx with hx | hx
  ·exact hkeep (hrows x hx)
  ·rw [List.mem_singleton.1 hx]; exact hkeep hu
end
def zi (x y : jZ) : Int := if Lib.compareBytes (bG x.2) (bG y.2) < 0 then -1 else if 0 < Lib.compareBytes (bG x.2) (bG y.2) then 1 else 0
theorem zj (x y : jZ) : ltOf zi x y = decide (Lib.compareBytes (bG x.2) (bG y.2) < 0) := by
 unfold ltOf zi
 split
 ·rename_i h; simp [h]
 ·rename_i h
  split <;> simp [h]
theorem Ji : SWO (ltOf zi) where
 irrefl x := by rw [zj, si]; simp
 trans x y z h1 h2 := by
  rw [zj] at *
  simp only [decide_eq_true_eq] at *
  exact qf h1 h2
 ntrans x y z h1 h2 := by
  rw [zj] at *
  simp only [decide_eq_false_iff_not] at *
  intro h3
  by_cases e : Lib.compareBytes (bG x.2) (bG y.2) = 0
  ·rw [l5 e] at h3; exact h2 h3
  ·have h4 := kj (bG x.2) (bG y.2)
   exact h2 (qf (show Lib.compareBytes (bG y.2) (bG x.2) < 0 by omega) h3)
set_option maxHeartbeats 400000 in
theorem Ov (x y : jZ) (W : World) :
  Calls Tryz.prog 133 #[.agg (fK x).toArray, .agg (fK y).toArray] W fun e w' => e = .returned (.int .i64 (zi x y)) ∧ ∃ q os, w' = grow (W.drewN q) os := by
 have HC : Hid (zi x y = if Lib.compareBytes (bG x.2) (bG y.2) < 0 then -1 else if 0 < Lib.compareBytes (bG x.2) (bG y.2) then 1 else 0) := rfl
 have hkx : (aO x.2).toList = bG x.2 := by rw [toList_data]; rfl
 have Vv : (aO y.2).toList = bG y.2 := by rw [toList_data]; rfl
 have HL : Hid (Op.bytesLess (aO x.2).toList (aO y.2).toList = decide (Lib.compareBytes (bG x.2) (bG y.2) < 0)) := by unfold Hid; rw [hkx, Vv]; exact sU _ _
 have HQ : Hid (((aO x.2).toList == (aO y.2).toList) = decide (Lib.compareBytes (bG x.2) (bG y.2) = 0)) := by
  unfold Hid
  rw [hkx, Vv]
  by_cases e : bG x.2 = bG y.2
  ·rw [e, si]; simp
  ·rw [beq_eq_false_iff_ne.2 e, decide_eq_false fun q => e (l5 q)]
 have HW : Hid (∃ q os, (W.alloc (.cells #[x.1.1, x.1.2, .string (aO x.2)] 99)).alloc (.cells #[y.1.1, y.1.2, .string (aO y.2)] 99) = grow (W.drewN q) os) := ⟨0, _, by rw [alloc_eq_grow, alloc_eq_grow, grow_grow]; rfl⟩
 clear hkx Vv
 unfold fK
 generalize Lib.compareBytes (bG x.2) (bG y.2) = cb at *
 generalize zi x y = c at *
 go_enter Tryz.func133, Tryz.ntmps133
 go_wp2_with fail
 ·rename_i hb
  rw [HL.out] at hb
  have hb := of_decide_eq_true hb
  go_ret
  exact ⟨aH (by rw [HC.out, if_pos hb]), HW.out⟩
 ·rename_i hb hc
  rw [HL.out] at hb
  have hb := of_decide_eq_false hb
  have hc : ((aO x.2).toList == (aO y.2).toList) = false := by simpa using hc
  rw [HQ.out] at hc
  have hc := of_decide_eq_false hc
  go_ret
  exact ⟨aH (by rw [HC.out, if_neg hb, if_pos (by omega)]), HW.out⟩
 ·rename_i hb hc
  rw [HL.out] at hb
  have hb := of_decide_eq_false hb
  have hc : ((aO x.2).toList == (aO y.2).toList) = true := by simpa using hc
  rw [HQ.out] at hc
  have hc := of_decide_eq_true hc
  go_ret
  exact ⟨aH (by rw [HC.out, if_neg hb, if_neg (by omega)]), HW.out⟩
theorem Rl {S : Nat → Prop} {w : World} {x : jZ} (h : ay S w (.agg #[x.1.1, x.1.2]) (flat x.2)) : x.1.1.oneCell' = true ∧ x.1.2.oneCell' = true := by
 obtain ⟨P1, N1, e, hP, hN⟩ := h
 injection e with e
 have e1 : x.1.1 = P1 ∧ x.1.2 = N1 := by simpa using e
 obtain ⟨p, c, e2, _⟩ := aA.open hP
 obtain ⟨q, d, e3, _⟩ := aA.open hN
 rw [e1.1, e1.2, e2, e3]; exact ⟨rfl, rfl⟩
theorem LL {base : Nat} {w : World} {v : Value} {es : List jZ} (h : gp base w v es) (hne : es ≠ []) (hn : es.length ≤ 1000000) :
  Calls Tryz.prog 132 #[v, .func (.func 133) #[] #[]] w fun e w' => e = .returned (.tuple #[]) ∧ w.grownBy w' v.ownBlock ∧ ∃ es' : List jZ, es'.Perm es ∧ (es'.map (·.2)).Pairwise dX ∧
   ∃ g cap, v = .slice (some ⟨g, 0, none⟩) es'.length cap ∧ ∀ k, k < es'.length → w'.cell? ⟨g, k * 3, none⟩ = some (ge es' k).1.1 ∧ w'.cell? ⟨g, k * 3 + 1, none⟩ = some (ge es' k).1.2 ∧ w'.cell? ⟨g, k * 3 + 2, none⟩ = some (.string (aO (ge es' k).2)) := by
 obtain ⟨ho, hT⟩ := h
 obtain ⟨x0, hx0⟩ : ∃ x, x ∈ es := List.exists_mem_of_ne_nil _ hne
 have hl0 : 0 < es.length := List.length_pos_iff.2 hne
 letI : Inhabited {x // x ∈ es} := ⟨⟨x0, hx0⟩⟩
 obtain ⟨blk, cap, hv⟩ : ∃ blk cap, v = .slice (some ⟨blk, 0, none⟩) es.length cap := by
  rcases ho.2 with ⟨_, h0⟩ | ⟨g, cap, cur, e, _⟩
  ·exfalso
   have := h0
   omega
  ·exact ⟨g, cap, e⟩
 subst hv
 have hblk : blk < w.heap.size := (World.ownsRow.lt ho blk rfl).2
 have hsize : (es.attach.toArray).size = es.length := by simp
 have hget : ∀ i, i < es.length → ((es.attach.toArray)[i]!).1 = ge es i := fun i hi => by
  rw [getElem!_pos _ _ (by simpa using hi)]
  simp [ge, hi]
 have hfz : ∀ j, w.frozen? ⟨blk, j, none⟩ = false := fun j => by
  rcases ho.2 with ⟨e, _⟩ | ⟨g', cap', cur, hs', _, hc', _⟩
  ·cases e
  ·injection hs' with hs1
   injection hs1 with hs1
   injection hs1 with hs1
   subst hs1
   simp [World.frozen?, hc']
 have hH : HoldsK (fun x : {x // x ∈ es} => fK x.1) 3 w blk 0 es.attach.toArray := by
  intro j hj
  rw [size_flatK, hsize] at hj
  refine ⟨?_, by rw [Nat.zero_add]; exact hfz j⟩
  rw [get_flatK _ _ _ _ (by rw [hsize]; exact hj), Nat.zero_add, ho.cellAt j hj]
  have hi : j / 3 < es.length := by omega
  obtain ⟨c1, c2, c3⟩ := BX es (j / 3) hi
  show _ = some ((fK ((es.attach.toArray)[j / 3]!).1)[j % 3]!)
  rw [hget _ hi]
  have h3 : j % 3 = 0 ∨ j % 3 = 1 ∨ j % 3 = 2 := by omega
  rcases h3 with h3 | h3 | h3
  ·rw [h3, show (dZ es)[j]? = (dZ es)[j / 3 * 3]? by congr 1; omega, c1]; simp [fK]
  ·rw [h3, show (dZ es)[j]? = (dZ es)[j / 3 * 3 + 1]? by congr 1; omega, c2]; simp [fK]
  ·rw [h3, show (dZ es)[j]? = (dZ es)[j / 3 * 3 + 2]? by congr 1; omega, c3]; simp [fK]
 have hgb : ∀ (m : Nat) (os : Array Obj) (dk : Array {x // x ∈ es}), w.grownBy (sortWorldK (fun x : {x // x ∈ es} => fK x.1) 3 w blk 0 m dk os) (some blk) := fun m os dk => ⟨rfl, rfl, rfl, size_sortWorldK_c _ _ _ _ _ _ _ _, fun b hb hne => dc (enc := id) (fun e => hne (by rw [e])) hb⟩
 have hcmp : CmpLays Tryz.prog 133 #[] (fun x : {x // x ∈ es} => fK x.1) 3 (fun x y => zi x.1 y.1) blk 0 es.attach.toArray.size w := fun m os dk _ x y => Ov x.1 y.1 _
 have hcon := AnyQ.slices_SortFunc Tryz.sortEnt 3 Tryz.isAgg99 Tryz.sizeOf99 (fun x : {x // x ∈ es} => fK x.1) (fun _ => rfl) (fun x u hu => by
   obtain ⟨o1, o2⟩ := Rl (hT x.1 x.2)
   unfold fK at hu
   rcases List.mem_cons.1 hu with e | hu
   ·subst e; exact o1
   ·rcases List.mem_cons.1 hu with e | hu
    ·subst e; exact o2
    ·rw [List.mem_singleton.1 hu]; rfl) (fun x y => zi x.1 y.1) ⟨fun x => Ji.irrefl x.1, fun x y z => Ji.trans x.1 y.1 z.1, fun x y z => Ji.ntrans x.1 y.1 z.1⟩ 133 #[] blk 0 cap es.attach.toArray w (enters_of Tryz.func133 (by kernel_rfl) rfl) hcmp hH hblk (by rw [hsize]; omega)
 rw [hsize] at hcon
 refine hcon.mono fun e w' ⟨he, d', m, os, Qf, UD, hw⟩ => ⟨he, by rw [hw]; exact hgb m os d', d'.toList.map (·.1), ?_, ?_, blk, cap, ?_, ?_⟩
 ·obtain ⟨hsz, _, k8⟩ := Qf
  have e1 : d'.extract 0 es.length = d' := by rw [← hsize, ← hsz]; exact Array.extract_size
  have e2 : es.attach.toArray.extract 0 es.length = es.attach.toArray := by rw [← hsize]; exact Array.extract_size
  rw [e1, e2] at k8
  have h2 := k8.map (fun (x : {x // x ∈ es}) => x.1)
  rw [List.toList_toArray, List.attach_map_subtype_val] at h2
  exact h2
 ·obtain ⟨hsz, _, _⟩ := Qf
  rw [hsize] at hsz
  rw [List.map_map, List.pairwise_map, List.pairwise_iff_getElem]
  intro i j hi hj hij
  have hi' : i < d'.size := by simpa using hi
  have hj' : j < d'.size := by simpa using hj
  have h3 := UD i j (Nat.zero_le _) hij (by omega)
  rw [getElem!_pos d' j hj', getElem!_pos d' i hi'] at h3
  have h4 : ltOf zi (d'[j]'hj').1 (d'[i]'hi').1 = false := h3
  rw [zj, decide_eq_false_iff_not] at h4
  show Lib.compareBytes (bG (d'.toList[i]'(by simpa using hi)).1.2) (bG (d'.toList[j]'(by simpa using hj)).1.2) ≤ 0
  rw [Array.getElem_toList, Array.getElem_toList]
  have := kj (bG (d'[j]'hj').1.2) (bG (d'[i]'hi').1.2)
  omega
 ·have : d'.size = es.length := by rw [Qf.1, hsize]
  simp [this]
 ·intro k hk
  have hk' : k < d'.size := by simpa using hk
  have Vw := holdsK_sortWorldK_c (fun x : {x // x ∈ es} => fK x.1) 3 w blk 0 es.attach.toArray d' m os hH hblk Qf.1
  have hge : ge (d'.toList.map (·.1)) k = (d'[k]!).1 := by
   rw [getElem!_pos d' k hk']
   simp [ge, hk']
  have c0 := (Vw.cell (i := k) (c := 0) hk' (by decide)).1
  have c1 := (Vw.cell (i := k) (c := 1) hk' (by decide)).1
  have c2 := (Vw.cell (i := k) (c := 2) hk' (by decide)).1
  rw [Nat.zero_add] at c0 c1 c2
  rw [hge, hw]
  exact ⟨c0, c1, c2⟩
end
section
open Go.RowKit Go.Deep
end
section
open Go.RowKit Go.Deep
end
section
open Go.RowKit Go.Deep
end
section
open Go.RowKit Go.Deep
def eW : Nat → Int
 | 0 => 1
 | m + 1 => eW m * (2 * (m : Int) + 3)
def vk (n : Int) : Int := if n < 2 ∨ 7 < n then 2 else 0
def vo (n : Int) : Int := if n < 2 ∨ 7 < n then 0 else eW (n - 3).toNat
set_option maxHeartbeats 2000000 in
theorem BZ (n : Int) (hn : -9223372036854775808 ≤ n ∧ n ≤ 9223372036854775807) (w : World) : Calls Tryz.prog 29 #[.int .i64 n] w fun e w' => e = .returned (.tuple #[.int .i64 (vo n), .int .i64 (vk n)]) ∧ w = w' := by
 have HC : Hid (vk n = if n < 2 ∨ 7 < n then 2 else 0) := rfl
 have HR : Hid (vo n = if n < 2 ∨ 7 < n then 0 else eW (n - 3).toNat) := rfl
 by_cases h1 : n < 2
 ·go_enter Tryz.func29, Tryz.ntmps29
  go_wp2_with fail
  go_ret2
  rw [HC.out, HR.out, if_pos (.inl h1), if_pos (.inl h1)]; exact ⟨rfl, rfl⟩
 by_cases h2 : 7 < n
 ·go_enter Tryz.func29, Tryz.ntmps29
  go_wp2_with fail
  go_ret2
  rw [HC.out, HR.out, if_pos (.inr h2), if_pos (.inr h2)]; exact ⟨rfl, rfl⟩
 obtain ⟨k, rfl⟩ : ∃ k : Nat, n = k := ⟨n.toNat, by omega⟩
 have HF : Hid (vk (k : Int) = 0 ∧ vo (k : Int) = eW (k - 3)) := by
  unfold Hid; rw [HC.out, HR.out, if_neg (by omega), if_neg (by omega), show ((k : Int) - 3).toNat = k - 3 by omega]; exact ⟨rfl, rfl⟩
 clear HC HR hn
 have hk : k = 2 ∨ k = 3 ∨ k = 4 ∨ k = 5 ∨ k = 6 ∨ k = 7 := by omega
 have e0 := HF.out.1
 have e1 := HF.out.2
 rw [e0, e1]
 clear HF e0 e1
 go_enter Tryz.func29, Tryz.ntmps29
 go_wp2_with fail
 go_loop [4, 5] (fun o i => ∃ m : Nat, m ≤ k - 3 ∧ i = .int .i64 (2 * (m : Int) + 3) ∧ o = .int .i64 (eW m)) (fun _ i => 20 - (intOf i).toNat)
 case atStart => exact ⟨0, Nat.zero_le _, rfl, rfl⟩
 case round =>
  obtain ⟨m, hm, rfl, rfl⟩ := hrel
  have hm4 : m ≤ 4 := by omega
  by_cases hlt : m < k - 3
  ·have hb : eW (m + 1) = eW m * (2 * (m : Int) + 3) ∧ 1 ≤ eW m ∧ eW m ≤ 105 ∧ 1 ≤ eW (m + 1) ∧ eW (m + 1) ≤ 945 := by
    have : m = 0 ∨ m = 1 ∨ m = 2 ∨ m = 3 := by omega
    rcases this with rfl | rfl | rfl | rfl <;> refine ⟨rfl, by decide, by decide, by decide, by decide⟩
   obtain ⟨b0, b1, b2, b3, b4⟩ := hb
   have hc : 2 * (m : Int) + 3 ≤ 2 * (k : Int) - 5 := by omega
   generalize hcm : eW (m + 1) = c' at *
   generalize eW m = c at *
   go_wp2_with fail
   go_round
   case rel => exact ⟨m + 1, hlt, by go_num, by rw [hcm, b0]⟩
   case measure => simp [intOf]; omega
  ·obtain rfl : m = k - 3 := by omega
   have hc : ¬ 2 * ((k - 3 : Nat) : Int) + 3 ≤ 2 * (k : Int) - 5 := by omega
   go_wp2_with fail
   go_ret2
   exact ⟨rfl, rfl⟩
set_option maxHeartbeats 2000000 in
theorem Ow (w : World) (s : ByteArray) (hz : s.size ≤ 70000) :
  Calls Tryz.prog 149 #[.string s] w fun e w' => e = .returned (.bool (aP s.data.toList)) ∧ Up w w' := by
 have hu := (Up.alloc w (.cells #[.int .i64 (-1)] 3)).trans (Up.alloc _ (.cells #[.string s] 9))
 have HU := aa hu
 have HC := aa (q8 Any _ _ (iI s) (Vs w s) (by simp [iI]) (by simp [iI]) (fun k => by
  unfold iI gs; cases k <;> simp; exact hz))
 have HX := aa (Rk s)
 clear hu
 go_enter Tryz.func149, Tryz.ntmps149
 go_wp2_with fail
 generalize (w.alloc (.cells #[.int .i64 (-1)] 3)).alloc (.cells #[.string s] 9) = w1 at *
 refine HC.out.mono ?_
 rintro e w2 ⟨rfl, hb⟩
 have bE := aa (HU.out.trans (show Up w1 w2 from hb))
 clear hb HC HU
 go_wp2_with fail
 go_ret
 exact ⟨bB HX.out, bE.out⟩
set_option maxHeartbeats 2000000 in
theorem rR (S : Nat → Prop) (w : World) (v : Value) (names : List ByteArray) (h : au S w v names) (hn : names.length ≤ 1000000) (hz : ∀ k, (gs names k).size ≤ 70000) :
  Calls Tryz.prog 94 #[v] w fun e w' => e = .returned (.int .i64 (bD names)) ∧ Up w w' := by
 obtain ⟨p, cap, rfl, hcap, _⟩ := aA.open h
 have h : au S w (.slice p names.length cap) names := h
 have HC : Hid (bD names = if names.length < 2 ∨ 7 < names.length then 4 else firstNZ (cN names) names.length) := rfl
 have HN := aa h
 have HZ := aa hz
 clear h hz
 by_cases h1 : names.length < 2
 ·go_enter Tryz.func94, Tryz.ntmps94
  go_wp2_with fail
  go_ret
  exact ⟨aH (by rw [HC.out, if_pos (.inl h1)]), Up.refl _⟩
 by_cases h2 : 7 < names.length
 ·go_enter Tryz.func94, Tryz.ntmps94
  go_wp2_with fail
  go_ret
  exact ⟨aH (by rw [HC.out, if_pos (.inr h2)]), Up.refl _⟩
 have HF : Hid (bD names = firstNZ (cN names) names.length) := by unfold Hid; rw [HC.out, if_neg (by omega)]
 clear HC
 have zk : Hid (∀ k, k < names.length → (∀ j, j < k → cN names j = 0) → cN names k ≠ 0 → bD names = cN names k) := fun k hk hj h0 => by
  rw [HF.out, eo hk hj h0]
 go_enter Tryz.func94, Tryz.ntmps94
 go_wp2_with fail
 go_loopw [3, 4, 15] (fun _ _ i wr => ∃ k : Nat, k ≤ names.length ∧ i = .int .i64 k ∧ Hid (Up w wr ∧ ∀ j, j < k → cN names j = 0)) (fun _ _ i _ => names.length - (intOf i).toNat)
 case atStart => exact ⟨0, Nat.zero_le _, rfl, Up.refl _, fun j hj => absurd hj (Nat.not_lt_zero _)⟩
 case round =>
  obtain ⟨k, hk, rfl, hd⟩ := hrel
  obtain ⟨wo, rfl⟩ : ∃ wo : World, wo = wr := ⟨_, rfl⟩
  by_cases hlt : k < names.length
  ·have ET := au.keep HN.out (hd.out.1.kept S)
   obtain ⟨Qg, no, rfl, hc⟩ := bQ ET hlt
   have gP := aa (Ow wo (gs names k) (HZ.out k))
   have GA : Hid (∀ W, Up wo W → Calls Tryz.prog 39 #[.slice (some ⟨Qg, no, none⟩) k cap, .string (gs names k)] W fun e w' => e = .returned (.bool (cE names k)) ∧ W = w') := fun W hW => by
    have h := fe S W _ k (fun j => gs names j) (gs names k) (Bf (au.keep ET (hW.kept S)) hk) (by omega)
    rwa [Ot] at h
   have EU := aa (zk.out k hlt hd.out.2)
   have EW : Hid (cN names k = if aP (gs names k).data.toList then (if cE names k then 7 else 0) else 14) := rfl
   generalize gs names k = nm at *
   generalize cE names k = bs at *
   generalize aP nm.data.toList = bn at *
   clear ET
   cases bn
   ·have HE : Hid (cN names k = 14) := EW.out
    go_wp2_with fail
    refine gP.out.mono ?_
    rintro e w1 ⟨rfl, aS⟩
    have bF := aa (hd.out.1.trans aS)
    clear aS
    go_wp2_with fail
    go_ret
    exact ⟨aH ((EU.out (by rw [HE.out]; decide)).trans HE.out).symm, bF.out⟩
   ·cases bs
    ·have HE : Hid (cN names k = 0) := EW.out
     go_wp2_with fail
     refine gP.out.mono ?_
     rintro e w1 ⟨rfl, aS⟩
     have bF := aa (hd.out.1.trans aS)
     have xU := aa (GA.out w1 aS)
     clear aS
     go_wp2_with (go_at_call 39; refine xU.out.mono ?_; rintro e w' ⟨rfl, rfl⟩)
     go_roundw
     case rel => exact ⟨k + 1, by omega, by go_num, bF.out, fun j hj => if e : j = k then by subst e; exact HE.out else hd.out.2 j (by omega)⟩
     case measure => simp [intOf]; omega
    ·have HE : Hid (cN names k = 7) := EW.out
     go_wp2_with fail
     refine gP.out.mono ?_
     rintro e w1 ⟨rfl, aS⟩
     have bF := aa (hd.out.1.trans aS)
     have xU := aa (GA.out w1 aS)
     clear aS
     go_wp2_with (go_at_call 39; refine xU.out.mono ?_; rintro e w' ⟨rfl, rfl⟩)
     go_ret
     exact ⟨aH ((EU.out (by rw [HE.out]; decide)).trans HE.out).symm, bF.out⟩
  ·obtain rfl : k = names.length := by omega
   have nG : Hid (bD names = 0) := by unfold Hid; rw [HF.out, di hd.out.2]
   go_wp2_with fail
   go_ret
   exact ⟨aH nG.out.symm, hd.out.1⟩
set_option maxHeartbeats 2000000 in
theorem LM (S : Nat → Prop) (w : World) (v vs : Value) (names : List ByteArray) (states : List (List Int)) (h : au S w v names) (hn : names.length ≤ 1000000) (hz : ∀ k, (gs names k).size ≤ 70000) (hS : aX S w vs states) (kX : states.length ≤ 1000000) (hr : ∀ k, (gl states k).length ≤ 1000000) :
  Calls Tryz.prog 72 #[v, vs] w fun e w' => e = .returned (.int .i64 (fJ names states)) ∧ Up w w' := by
 have HC : Hid (fJ names states = if bD names ≠ 0 then bD names else if bU states ≠ 0 then 1 else if states.length ≠ names.length then 9 else 0) := rfl
 have gP := aa (rR S w v names h hn hz)
 obtain ⟨p, cap, rfl, hcap, _⟩ := aA.open h
 obtain ⟨q, d, rfl, hd, _⟩ := eD hS
 have rS : Hid (∀ W, Up w W → Calls Tryz.prog 75 #[.slice q states.length d] W fun e w' => e = .returned (.int .i64 (bU states)) ∧ W = w') := fun W hW => AL S W _ states (aX.keep hS (hW.kept S)) kX hr
 clear h hS hz hr
 go_enter Tryz.func72, Tryz.ntmps72
 go_wp2_with fail
 refine gP.out.mono ?_
 rintro e w1 ⟨rfl, aS⟩
 have bF := aa aS
 have HAG1 := aa (rS.out w1 aS)
 clear aS
 by_cases c1 : bD names = 0
 ·have GX : Hid (fJ names states = if bU states ≠ 0 then 1 else if states.length ≠ names.length then 9 else 0) := by unfold Hid; rw [HC.out, if_neg (by omega)]
  rw [c1]
  clear HC c1 gP rS
  go_wp2_with fail
  refine HAG1.out.mono ?_
  rintro e w' ⟨rfl, rfl⟩
  generalize bU states = a at *
  by_cases c2 : a = 0
  ·subst c2
   by_cases c3 : states.length = names.length
   ·have d3 : (states.length : Int) = (names.length : Int) := by omega
    go_wp2_with fail
    go_ret
    exact ⟨aH (by rw [GX.out, if_neg (by omega), if_neg (by omega)]), bF.out⟩
   ·have d3 : ¬ (states.length : Int) = (names.length : Int) := by omega
    go_wp2_with fail
    go_ret
    exact ⟨aH (by rw [GX.out, if_neg (by omega), if_pos c3]), bF.out⟩
  ·go_wp2_with fail
   go_ret
   exact ⟨aH (by rw [GX.out, if_pos c2]), bF.out⟩
 ·generalize bD names = a at *
  go_wp2_with fail
  go_ret
  exact ⟨aH (by rw [HC.out, if_pos c1]), bF.out⟩
end
end Go.Proofs.YteegefnjnikngaaGreat
