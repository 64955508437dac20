/- Children sorted: slices.SortFunc with the closure of phylotree.sorted. The contract of sharederror.Conflicts. -/
import Derived.Test.YtpjijbophjdgaaaGreatQ15
import Derived.Test.YtpjijbophjdgaaaGreatQ1
import Derived.Sort.OwnSorted
import Derived.Test.YtpjijbophjdgaaaGreatQ16
import Derived.Test.YtpjijbophjdgaaaGreatQ10
import Derived.Test.YtpjijbophjdgaaaGreatQ5
namespace Go.Proofs.YtpjijbophjdgaaaGreat
open Go.RowKit Go.Deep Go.Sort Go.Shelf Go.Lib
section
variable {α : Type} [Inhabited α] {enc : α → Value}
theorem take_put (cur : Array Value) (ts : List α) (h : ts.length ≤ cur.size) : (putCells enc 0 ts.toArray cur).toList.take ts.length = ts.map enc := by
  apply List.ext_getElem?
  intro j
  by_cases hj : j < ts.length
  · rw [List.getElem?_take_of_lt hj, Array.getElem?_toList]
    simp [putCells, hj, show j < cur.size by omega]
  · rw [List.getElem?_take_eq_none (by omega), List.getElem?_eq_none (by simp; omega)]
theorem sortWorld_size (w : World) (g n : Nat) (d : Array α) (os : Array Obj) : w.heap.size ≤ (sortWorld enc w g 0 n d os).heap.size := by
  simp [sortWorld, grow, putRow, mapBlock, Sort.ahead]
theorem sortWorld_other {w : World} {g n : Nat} {d : Array α} {os : Array Obj} {b : Nat} (h : b ≠ g) (hl : b < w.heap.size) : (sortWorld enc w g 0 n d os).heap[b]? = w.heap[b]? := by
  unfold sortWorld
  rw [heap_grow_old _ _ (by simpa [putRow, mapBlock, Sort.ahead] using hl)]
  simp [putRow, mapBlock, Sort.ahead, Array.getElem?_modify, Ne.symm h]
theorem sortWorld_row {w : World} {g n : Nat} {d : Array α} {os : Array Obj} {cur : Array Value} {e : TypeId} {fr : Nat × Nat} (hb : w.heap[g]? = some (.cells cur e fr)) :
    (sortWorld enc w g 0 n d os).heap[g]? = some (.cells (putCells enc 0 d cur) e fr) := by
  have hg : g < w.heap.size := (Array.getElem?_eq_some_iff.1 hb).1
  unfold sortWorld
  rw [heap_grow_old _ _ (by simpa [putRow, mapBlock, Sort.ahead] using hg)]
  simp [putRow, mapBlock, Sort.ahead, Array.getElem?_modify, hb, onCells]
end
theorem Owns.sorted {α : Type} [Inhabited α] {enc : α → Value} {base g cap n : Nat} {e : TypeId} {w : World} {os : Array Obj} {vs : List Value} {ts : List α} (h : Owns base e w (.slice (some ⟨g, 0, none⟩) vs.length cap) vs) (hl : ts.length = vs.length) :
    Owns base e (sortWorld enc w g 0 n ts.toArray os) (.slice (some ⟨g, 0, none⟩) vs.length cap) (ts.map enc) := by
  obtain ⟨_, ⟨h1, _⟩ | ⟨g', cap', cur, hs, hg, hc, hn, hcm, hcs, ht⟩⟩ := h
  · cases h1
  · injection hs with hs1 hs2 hs3
    injection hs1 with hs1
    injection hs1 with hs1
    subst hs1; subst hs3
    refine ⟨by simp, .inr ⟨g, cap, putCells enc 0 ts.toArray cur, by simp [hl], hg, sortWorld_row hc, by simp [hl]; exact hn, hcm, by simpa [putCells] using hcs, ?_⟩⟩
    rw [List.length_map, Nat.mul_one]
    exact take_put cur ts (by omega)
theorem ltOf_cmp (f : Nat → ByteArray) {L : List Nat} : SWO (ltOf fun (x y : {k // k ∈ L}) => cmpS (f x.1) (f y.1)) where
  irrefl x := by simp [ltOf, cmpS_self]
  trans x y z h1 h2 := by
    simp only [ltOf, decide_eq_true_eq] at *
    exact cmpS_trans h1 h2
  ntrans x y z h1 h2 := by
    simp only [ltOf, decide_eq_false_iff_not] at *
    intro h3
    by_cases e : cmpS (f x.1) (f y.1) = 0
    · rw [cmpS_zero e] at h3; exact h2 h3
    · have h4 : cmpS (f y.1) (f x.1) < 0 := by have := cmpS_anti (f x.1) (f y.1); omega
      exact h2 (cmpS_trans h4 h3)
def SnPost (n base : Nat) (A : Nat → Nat) (kv : Nat → Value) (F : Frs) (w : World) (i : Nat) (l : List Nat) (e : Ending) (w' : World) : Prop :=
  e = .returned (.tuple #[]) ∧ FAt base n A kv { F with kids := upd F.kids i l } w' ∧ FUp n A kv w w'
theorem FAt.plain {base n : Nat} {A : Nat → Nat} {kv : Nat → Value} {F : Frs} {w : World} (h : FAt base n A kv F w) {i : Nat} (hi : i < n) : Plain w (A i) := ⟨_, _, h.node i hi, by simp⟩
theorem Plain.of_block {w w' : World} {b : Nat} (h : Plain w b) (e : w'.heap[b]? = w.heap[b]?) : Plain w' b := by
  obtain ⟨c, t, h1, h2⟩ := h
  exact ⟨c, t, by rw [e]; exact h1, h2⟩
theorem PMap.of_block {w w' : World} {b : Nat} {l : List (Option Nat × Value)} (h : PMap w b l) (e : w'.heap[b]? = w.heap[b]?) : PMap w' b l := by
  obtain ⟨es, c, h1, h2⟩ := h
  exact ⟨es, c, by rw [e]; exact h1, h2⟩
theorem PMap.lt {w : World} {b : Nat} {l : List (Option Nat × Value)} (h : PMap w b l) : b < w.heap.size := by
  obtain ⟨es, c, h1, h2⟩ := h
  exact (Array.getElem?_eq_some_iff.1 h1).1
set_option maxRecDepth 100000 in
set_option maxHeartbeats 800000 in
theorem sortNodes_t {base n : Nat} {A : Nat → Nat} {kv : Nat → Value} {F : Frs} {w : World} (hF : FAt base n A kv F w) {i g cap : Nat} (hi : i < n) (hv : kv i = .slice (some ⟨g, 0, none⟩) (F.kids i).length cap) (h0 : F.kids i ≠ []) (hlen : (F.kids i).length ≤ 1000000)
    (f : Nat → ByteArray) (hs : Sep f (F.kids i)) {bx m0 : Nat} {l : List (Option Nat × Value)} (hbx : w.cell? ⟨bx, 0, none⟩ = some (.map (some m0))) (hm : PMap w m0 l) (hgb : g ≠ bx) (hgm : g ≠ m0)
    (hl : ∀ k ∈ F.kids i, l.lookup (some (A k)) = some (.string (f k))) (hok : ∀ z ∈ l, ∃ k, k < n ∧ z.1 = some (A k)) :
    Calls Tryz.prog 202 #[kv i, .func (.func 203) #[] #[.pointer (some ⟨bx, 0, none⟩)]] w (SnPost n base A kv F w i (srtBy f (F.kids i))) := by
  obtain ⟨k0, hk0⟩ : ∃ k, k ∈ F.kids i := List.exists_mem_of_ne_nil _ h0
  letI : Inhabited {k // k ∈ F.kids i} := ⟨⟨k0, hk0⟩⟩
  have hown := hF.own i hi
  rw [hv] at hown
  have hgo : (kv i).ownBlock = some g := by rw [hv]; rfl
  have hgl := (hF.ownlt hi hgo).2
  have hAg : ∀ j, j < n → A j ≠ g := fun j hj e => hF.apart i j hi hj (by rw [hgo, e])
  have eg : ∀ args w, (callFunc 203 args).run Tryz.prog w = .ok (.enter 203 args) w := enters_of Tryz.func203 (by kernel_rfl) rfl
  have hsize : ((F.kids i).attach.toArray).size = (F.kids i).length := by simp
  have hmlen : ((F.kids i).map (nptr A)).length = (F.kids i).length := by simp
  have hH : Holds (fun (x : {k // k ∈ F.kids i}) => nptr A x.1) w g 0 (F.kids i).attach.toArray := by
    intro j hj
    rw [hsize] at hj
    obtain ⟨p, c, e, _, H⟩ := hown.slAt.open
    injection e with e1
    subst e1
    obtain ⟨b, off, e, hc⟩ := H j (by rw [hmlen]; exact hj)
    injection e with e
    injection e with e1 e2
    subst e1; subst e2
    refine ⟨?_, ?_⟩
    · rw [hc, getElem!_pos _ _ (by simpa using hj)]; simp [hj]
    · obtain ⟨_, ⟨h1, _⟩ | ⟨g', cap', cur, hs', _, hc', _⟩⟩ := hown
      · cases h1
      · injection hs' with hs1
        injection hs1 with hs1
        injection hs1 with hs1
        subst hs1
        simp [World.frozen?, hc']
  have hcmp : CmpLays1 Tryz.prog 203 #[.pointer (some ⟨bx, 0, none⟩)] (fun (x : {k // k ∈ F.kids i}) => nptr A x.1) (fun x y => cmpS (f x.1) (f y.1)) g 0 (F.kids i).attach.toArray.size w := by
    intro m os dk hdk x y
    have hx := hF.kid i hi x.1 x.2
    have hy := hF.kid i hi y.1 y.2
    have hbl : bx < w.heap.size := World.block_lt_of_cell? w _ hbx
    have h1 : (sortWorld (fun (x : {k // k ∈ F.kids i}) => nptr A x.1) w g 0 m dk os).cell? ⟨bx, 0, none⟩ = some (.map (some m0)) := by
      rw [World.cell?_of_block (a := ⟨bx, 0, none⟩) (sortWorld_other (Ne.symm hgb) hbl)]; exact hbx
    refine (sorted1_t _ bx m0 (A x.1) (A y.1) l (f x.1) (f y.1) h1 (hm.of_block (sortWorld_other (Ne.symm hgm) hm.lt)) (fun z hz => ?_)
      ((hF.plain hx).of_block (sortWorld_other (hAg _ hx) (hF.lt hx))) ((hF.plain hy).of_block (sortWorld_other (hAg _ hy) (hF.lt hy))) (hl x.1 x.2) (hl y.1 y.2)).mono fun e w' ⟨he, hw⟩ => ⟨he, 0, #[], by rw [← hw, grow_empty]; rfl⟩
    obtain ⟨k, hk, e⟩ := hok z hz
    rw [e]
    exact (hF.plain hk).of_block (sortWorld_other (hAg _ hk) (hF.lt hk))
  have hcon := Any.slices_SortFunc_total Tryz.sortNode (fun (x : {k // k ∈ F.kids i}) => nptr A x.1) (fun _ => rfl) (fun x y => cmpS (f x.1) (f y.1)) (ltOf_cmp f) 203 #[.pointer (some ⟨bx, 0, none⟩)] g 0 cap (F.kids i).attach.toArray w eg hcmp hH hgl (by rw [hsize]; omega)
    (fun x y h1 h2 => by
      simp only [ltOf, decide_eq_false_iff_not] at h1 h2
      have h3 : cmpS (f x.1) (f y.1) = 0 := by have := cmpS_anti (f x.1) (f y.1); omega
      exact Subtype.ext (hs x.1 x.2 y.1 y.2 (cmpS_zero h3)))
  rw [hsize, ← hv] at hcon
  refine hcon.mono fun e w' ⟨he, m, os, hw⟩ => ⟨he, ?_, ?_⟩
  · have hsrt : (((F.kids i).attach.toArray.toList.mergeSort fun x y => !(ltOf fun (x y : {k // k ∈ F.kids i}) => cmpS (f x.1) (f y.1)) y x).map fun x => x.1) = srtBy f (F.kids i) := by
      have h := List.map_mergeSort (f := fun (x : {k // k ∈ F.kids i}) => x.1) (r := fun x y => !(ltOf fun (x y : {k // k ∈ F.kids i}) => cmpS (f x.1) (f y.1)) y x) (s := leB f) (l := (F.kids i).attach) (fun a _ b _ => by
        simp only [ltOf, leB]
        have := cmpS_anti (f a.1) (f b.1)
        by_cases h : cmpS (f a.1) (f b.1) ≤ 0
        · rw [decide_eq_true h]; simp; omega
        · rw [decide_eq_false h]; simp; omega)
      rw [List.toList_toArray]
      rw [h, List.attach_map_subtype_val]
      rfl
    have ho : Owns base 113 w' (kv i) ((srtBy f (F.kids i)).map (nptr A)) := by
      rw [hv, hw, ← hsrt, List.map_map]
      have h := Owns.sorted (enc := fun (x : {k // k ∈ F.kids i}) => nptr A x.1) (n := m) (os := os) (ts := ((F.kids i).attach.toArray.toList.mergeSort fun x y => !(ltOf fun (x y : {k // k ∈ F.kids i}) => cmpS (f x.1) (f y.1)) y x)) (vs := (F.kids i).map (nptr A)) (by rw [hmlen]; exact hown) (by simp)
      rw [hmlen] at h
      exact h
    have hsame : ∀ b, b ≠ g → b < w.heap.size → w'.heap[b]? = w.heap[b]? := fun b hb hbl => by rw [hw]; exact sortWorld_other hb hbl
    have h2 := hF.put (w' := w') (k := i) (v := kv i) (ks := srtBy f (F.kids i)) hi (fun j hj _ => hsame _ (hAg j hj) (hF.lt hj)) (by rw [hsame _ (hAg i hi) (hF.lt hi)]; exact hF.node i hi) ho
      (fun j b hj hji hb => hsame b (fun e => hji (hF.alone j i b hj hi hb (by rw [hgo, e]))) (hF.ownlt hj hb).2) (fun b hb => .inl hb) (fun j hj => hF.kid i hi j ((srtBy_perm _ _).mem_iff.1 hj))
    have hkv : upd kv i (kv i) = kv := by
      funext j; by_cases e : j = i
      · subst e; exact upd_same _ _ _
      · exact upd_ne _ _ e
    rw [hkv] at h2
    exact h2
  · rw [hw]
    exact ⟨rfl, rfl, rfl, sortWorld_size _ _ _ _ _, fun b hb _ h2 => sortWorld_other (fun e => h2 i hi (by rw [hgo, e])) hb⟩
end Go.Proofs.YtpjijbophjdgaaaGreat
namespace Go.Proofs.YtpjijbophjdgaaaGreat
open Go.RowKit Go.Deep
theorem same_quiet {P : Program} {f : FuncId} {args : Array Value} {w : World} {n : Nat} {v : Value} (h : Calls P f args (w.drewN n) fun e w' => e = .returned v ∧ w.drewN n = w') : Calls P f args (w.drewN n) fun e w'' => e = .returned v ∧ ∃ m, w'' = w.drewN m :=
  h.mono fun _ _ ⟨h1, h2⟩ => ⟨h1, n, h2.symm⟩
theorem Tryz.infoSI3 : (Tryz.prog.info? 26).map (fun i => (i.zero, i.size, i.bytes)) = some (some (.slice none 0 0), 1, 24) := by kernel_rfl
def cfB (l : List Grp) (i k : Nat) : Bool := confB (ofS (gg l i).src) (ofS (gg l k).src)
def cfRow (l : List Grp) (i k : Nat) : List (List Int) := ((List.range k).filter fun j => decide (i < j) && cfB l i j).map fun (j : Nat) => [(i : Int), (j : Int)]
def cfK (l : List Grp) (k : Nat) : List (List Int) := (List.range k).flatMap fun i => cfRow l i l.length
def cfL (l : List Grp) : List (List Int) := if gcErr l = 0 then cfK l l.length else []
theorem cfRow_succ (l : List Grp) (i k : Nat) : cfRow l i (k + 1) = cfRow l i k ++ (if i < k ∧ cfB l i k = true then [[(i : Int), (k : Int)]] else []) := by
  unfold cfRow
  rw [List.range_succ, List.filter_append, List.map_append]
  congr 1
  by_cases h : i < k <;> by_cases h2 : cfB l i k = true <;> simp [h, h2]
theorem cfRow_start (l : List Grp) (i : Nat) : cfRow l i (i + 1) = [] := by
  unfold cfRow
  rw [List.filter_eq_nil_iff.2 (fun j hj => by have := List.mem_range.1 hj; simp; omega)]
  rfl
theorem cfRow_len (l : List Grp) (i k : Nat) : (cfRow l i k).length ≤ k := by
  unfold cfRow
  rw [List.length_map]
  exact Nat.le_trans (List.length_filter_le _ _) (by simp)
theorem cfK_succ (l : List Grp) (k : Nat) : cfK l (k + 1) = cfK l k ++ cfRow l k l.length := by
  unfold cfK; rw [List.range_succ, List.flatMap_append]; simp
theorem cfK_len (l : List Grp) (k : Nat) : (cfK l k).length ≤ k * l.length := by
  induction k with
  | zero => exact Nat.zero_le _
  | succ k ih =>
    rw [cfK_succ, List.length_append, Nat.succ_mul]
    have := cfRow_len l k l.length
    omega
theorem gcErr_zero {l : List Grp} (h : gcErr l = 0) : l.length ≤ 256 ∧ ∀ k, k < l.length → 0 ≤ (gg l k).un ∧ 0 ≤ (gg l k).st ∧ (gg l k).st < 16 ∧ srcOk (gg l k).src = true := by
  unfold gcErr at h
  split at h
  · cases h
  · split at h
    · cases h
    · rename_i h1 h2
      refine ⟨by omega, fun k hk => ?_⟩
      have h3 := any_false (p := fun k => gBad (gg l k)) (by simpa using h2) hk
      unfold gBad at h3
      simp only [Bool.or_eq_false_iff, decide_eq_false_iff_not, Bool.not_eq_false'] at h3
      exact ⟨by omega, by omega, by omega, h3.2⟩
theorem srcOk_small {l : List Int} (h : srcOk l = true) : Small l ∧ 0 < l.length ∧ ∀ k, 0 < k → k < l.length → gi l (k - 1) < gi l k := by
  unfold srcOk at h
  simp only [Bool.and_eq_true, Bool.not_eq_true', decide_eq_true_eq] at h
  have h2 : ∀ k, k < l.length → srcBad l k = false := fun k hk => any_false h.1 hk
  refine ⟨fun k hk => ?_, h.2, fun k h0 hk => ?_⟩
  · have := h2 k hk
    unfold srcBad at this
    simp only [Bool.or_eq_false_iff, decide_eq_false_iff_not] at this
    omega
  · have := h2 k hk
    unfold srcBad at this
    simp only [Bool.or_eq_false_iff, decide_eq_false_iff_not, Bool.and_eq_false_imp, decide_eq_true_eq] at this
    have := this.2 h0
    omega
theorem pair_at (W : World) (a b : Int) (S : Nat → Prop) (hS : S W.heap.size) : IntsAt S (W.alloc (.cells #[.int .i64 a, .int .i64 b] 3)) (.slice (some ⟨W.heap.size, 0, none⟩) 2 2) [a, b] := by
  refine ⟨_, 2, rfl, Nat.le_refl _, .inr ⟨_, 0, rfl, hS, fun k hk => ?_⟩⟩
  match k with
  | 0 => simp [World.cell?_alloc_new, gi]
  | 1 => simp [World.cell?_alloc_new, gi]
  | k + 2 => exact absurd hk (by simp)
theorem RowsOwn.lt {base : Nat} {T : TypeId} {w : World} {d : Value} {xs : List (List Int)} (h : RowsOwn base T w d xs) {b : Nat} (hb : d.ownBlock = some b) : base ≤ b ∧ b < w.heap.size := by
  obtain ⟨vals, _, ho, _⟩ := h
  exact ownBlock_lt ho hb
section
variable {P : Program} {ops : Array Oper} {rest : List Oper} {o : Oper} {a : Act} {Q : Exit → Act → World → Prop}
theorem wpList_appRowM (W : World) (hgd : o.guard = none) (s x : Operand) (t : TypeId) (ho : o.op = .call { callee := .builtin .append, args := #[s, x], argTypes := #[t, t] })
    (base : Nat) (e : TypeId) (z : Value) (bytes : Nat) (ht : P.underlying t = some (.slice e)) (hinfo : (P.info? e).map (fun i => (i.zero, i.size, i.bytes)) = some (some z, 1, bytes))
    (hz1 : z.cells.size = 1) (hb8 : bytes ≤ 64) {v : Value} {xs : List (List Int)} (hown : RowsOwn base e W v xs) (hs : a.eval s = v) (u : Value) (y : List Int) (m : Nat) (hm : W.heap.size = m)
    (hx : a.eval x = .slice (some ⟨m, 0, none⟩) 1 1) (hu : IntsAt (fun b => some b ≠ v.ownBlock) W u y) (h1 : u.oneCell' = true) (n : Nat) (hxn : xs.length = n) (hn : n ≤ 1000000) (hbase : base ≤ W.heap.size)
    (h : ∀ g cap w', RowsOwn base e w' (.slice (some ⟨g, 0, none⟩) (n + 1) cap) (xs ++ [y]) → W.grownBy w' v.ownBlock → Below base W w' → wpList P ops Q rest (a.put o.dst (.slice (some ⟨g, 0, none⟩) (n + 1) cap)) w') :
    wpList P ops Q (o :: rest) a (W.alloc (.cells #[u] e)) := by
  subst hm
  exact wpList_appRow W hgd s x t ho base e z bytes ht hinfo hz1 hb8 hown hs u y hx hu h1 n hxn hn hbase h
end
def CfPost (w : World) (l : List Grp) (e : Ending) (w' : World) : Prop :=
  Up w w' ∧ ∃ v, e = .returned (.tuple #[v, .int .i64 (gcErr l)]) ∧ RowsAt Any w' v (cfL l)
set_option maxRecDepth 100000 in
set_option maxHeartbeats 2000000 in
theorem conflicts_t (S : Nat → Prop) (w : World) (v : Value) (l : List Grp) (h : GrpsAt S w v l) (hn : l.length ≤ 1000000) (hr : ∀ k, (gg l k).src.length ≤ 1000000) :
    Calls Tryz.prog 14 #[v] w (CfPost w l) := by
  have HGC := Lib.hid (gcheck_t S w v l h hn hr)
  obtain ⟨p, cap, rfl, hcap⟩ := grps_open h
  have HX := Lib.hid h
  have HR := Lib.hid hr
  have HCL : Hid (cfL l = if gcErr l = 0 then cfK l l.length else []) := rfl
  have HNIL : Hid (∀ W, RowsAt Any W (.slice none 0 0) []) := fun W => (RowsOwn.nil 0 26 W).rows
  clear h hr
  by_cases h0 : gcErr l = 0
  · obtain ⟨hl, hgr⟩ := gcErr_zero h0
    have HGR := Lib.hid hgr
    have HL : Hid (cfL l = cfK l l.length) := by unfold Hid; rw [HCL.out, if_pos h0]
    have H0 := Lib.hid h0
    rw [h0] at HGC
    clear HCL hgr h0
    go_enter Tryz.func14, Tryz.ntmps14
    go_wp2_with (refine HGC.out.mono ?_; rintro e w1 ⟨rfl, hU1⟩; have HU1 := Lib.hid hU1; clear hU1)
    go_loopw [5, 6, 7, 15] (fun d _ _ i wr => ∃ k : Nat, k ≤ l.length ∧ i = .int .i64 k ∧ Hid (RowsOwn w1.heap.size 26 wr d (cfK l k)) ∧ Hid (Up w1 wr)) (fun _ _ _ i _ => l.length - (intOf i).toNat)
    case atStart => exact ⟨0, Nat.zero_le _, rfl, RowsOwn.nil _ _ _, Up.refl _⟩
    case round =>
      obtain ⟨k, hk, rfl, hD, hUr⟩ := hrel
      obtain ⟨wo, rfl⟩ : ∃ wo : World, wo = wr := ⟨_, rfl⟩
      by_cases hlt : k < l.length
      · have HD0 : Hid (RowsOwn w1.heap.size 26 wo u5 (cfK l k ++ cfRow l k (k + 1))) := by unfold Hid; rw [cfRow_start, List.append_nil]; exact hD.out
        have HS := Lib.hid (cfK_succ l k)
        obtain ⟨d0, rfl⟩ : ∃ d : Value, d = u5 := ⟨_, rfl⟩
        go_wp2_with fail
        go_loopw [5, 7] (fun d i wr => ∃ j : Nat, k + 1 ≤ j ∧ j ≤ l.length ∧ i = .int .i64 j ∧ Hid (RowsOwn w1.heap.size 26 wr d (cfK l k ++ cfRow l k j)) ∧ Hid (Up w1 wr)) (fun _ i _ => l.length - (intOf i).toNat)
        case atStart => exact ⟨k + 1, Nat.le_refl _, by omega, by go_num, HD0, hUr⟩
        case round =>
          obtain ⟨j, hj1, hj, rfl, hD2, hU2⟩ := hrel
          obtain ⟨wi, rfl⟩ : ∃ wo : World, wo = wr := ⟨_, rfl⟩
          by_cases hjt : j < l.length
          · obtain ⟨b, off, rq, rc, rfl, _, _, hc2, hri⟩ := grps_get (HX.out.keep ((HU1.out.trans hU2.out).kept S)) hlt
            obtain ⟨b', off', rq2, rc2, e1, _, _, hd2, hri2⟩ := grps_get (HX.out.keep ((HU1.out.trans hU2.out).kept S)) hjt
            injection e1 with e1
            injection e1 with e1 e2
            subst e1; subst e2
            have i1 : (0 : Int) ≤ (k : Int) := by omega
            have i2 : (k : Int) < (l.length : Int) := by omega
            have i3 : (0 : Int) ≤ (j : Int) := by omega
            have i4 : (j : Int) < (l.length : Int) := by omega
            have hs1 := (srcOk_small (HGR.out k hlt).2.2.2).1
            have hs2 := (srcOk_small (HGR.out j hjt).2.2.2).1
            have HO1 := Lib.hid (fun m => same_quiet <| of_t S (wi.drewN m) _ _ (IntsAt.keep hri (kept_drewN S wi m)) hs1 (HR.out k))
            have HO2 := Lib.hid (fun m => same_quiet <| of_t S (wi.drewN m) _ _ (IntsAt.keep hri2 (kept_drewN S wi m)) hs2 (HR.out j))
            have HCC := Lib.hid (fun m => same_quiet <| conflict_t (ofS (gg l k).src) (ofS (gg l j).src) (Nat.lt_trans (ofS_lt hs1) (by decide)) (Nat.lt_trans (ofS_lt hs2) (by decide)) (wi.drewN m))
            have HRS := Lib.hid (cfRow_succ l k j)
            have HCB : Hid (cfB l k j = confB (ofS (gg l k).src) (ofS (gg l j).src)) := rfl
            clear hri hri2 hs1 hs2
            generalize (gg l k).src = s1 at *
            generalize (gg l j).src = s2 at *
            go_wp2_with fail
            go_quiet (first | with_reducible exact HO1.out _ | with_reducible exact HO2.out _ | with_reducible exact HCC.out _)
            cases hcb : confB (ofS s1) (ofS s2)
            · have HRN : Hid (RowsOwn w1.heap.size 26 (wi.drewN nq) u5 (cfK l k ++ cfRow l k (j + 1))) := by
                unfold Hid; rw [HRS.out, if_neg (by rw [HCB.out, hcb]; simp), List.append_nil]; exact hD2.out.kept (Up.drewN _ _)
              have HUN : Hid (Up w1 (wi.drewN nq)) := hU2.out.trans (Up.drewN _ _)
              go_wp2_with fail
              go_roundw
              case rel => exact ⟨j + 1, by omega, by omega, by go_num, HRN, HUN⟩
              case measure => simp [intOf]; omega
            · have HUA : Hid (Up wi ((wi.drewN nq).alloc (.cells #[.int .i64 k, .int .i64 j] 3))) := (Up.drewN wi nq).trans (Up.alloc _ _)
              have HRA := Lib.hid (hD2.out.kept HUA.out)
              have HPA : Hid (IntsAt (fun b => some b ≠ u5.ownBlock) ((wi.drewN nq).alloc (.cells #[.int .i64 k, .int .i64 j] 3)) (.slice (some ⟨(wi.drewN nq).heap.size, 0, none⟩) 2 2) [(k : Int), (j : Int)]) :=
                pair_at _ _ _ _ fun e => by have := (hD2.out.lt e.symm).2; exact absurd this (Nat.lt_irrefl _)
              have HLE : (cfK l k ++ cfRow l k j).length ≤ 1000000 := by
                have h1 := cfK_len l k
                have h2 := cfRow_len l k j
                have h3 : k * l.length ≤ 256 * 256 := Nat.mul_le_mul (by omega) hl
                rw [List.length_append]; omega
              have HWZ : w1.heap.size ≤ ((wi.drewN nq).alloc (.cells #[.int .i64 k, .int .i64 j] 3)).heap.size := (hU2.out.trans HUA.out).size
              have HSZ : ((wi.drewN nq).alloc (.cells #[.int .i64 k, .int .i64 j] 3)).heap.size = wi.heap.size + 1 := by rw [World.size_alloc]; rfl
              have HUW := Lib.hid (hU2.out.trans HUA.out)
              have HSN : Hid (cfK l k ++ cfRow l k (j + 1) = (cfK l k ++ cfRow l k j) ++ [[(k : Int), (j : Int)]]) := by
                unfold Hid; rw [HRS.out, if_pos ⟨by omega, by rw [HCB.out, hcb]⟩, List.append_assoc]
              generalize cfK l k ++ cfRow l k j = L0 at *
              go_wp2_with (at_builtin; refine wpList_appRowM ((wi.drewN nq).alloc (.cells #[.int .i64 k, .int .i64 j] 3)) rfl _ _ 22 rfl w1.heap.size 26 _ 24 Tryz.underlying22 Tryz.infoSI3 rfl (by decide) HRA.out rfl _ [(k : Int), (j : Int)] _ HSZ rfl HPA.out rfl _ rfl HLE HWZ ?_; intro g8 cap8 w8 hown1 hgr1 hbe1)
              go_roundw
              case rel => exact ⟨j + 1, by omega, by omega, by go_num, by unfold Hid; rw [HSN.out]; exact hown1, Below.trans HUW.out hbe1⟩
              case measure => simp [intOf]; omega
          · obtain rfl : j = l.length := by omega
            have HDN : Hid (RowsOwn w1.heap.size 26 wi u5 (cfK l (k + 1))) := by unfold Hid; rw [HS.out]; exact hD2.out
            clear hjt hj
            go_wp2_with fail
            go_roundw
            case rel => exact ⟨k + 1, by omega, by go_num, HDN, hU2⟩
            case measure => simp [intOf]; omega
      · obtain rfl : k = l.length := by omega
        clear hlt hk
        go_wp2_with fail
        go_ret2
        exact ⟨HU1.out.trans hUr.out, _, by rw [H0.out]; rfl, by rw [HL.out]; exact hD.out.rows⟩
  · have HL : Hid (cfL l = []) := by unfold Hid; rw [HCL.out, if_neg h0]
    have h1 : (gcErr l != 0) = true := by simpa using h0
    clear HCL h0
    go_enter Tryz.func14, Tryz.ntmps14
    go_wp2_with (refine HGC.out.mono ?_; rintro e w' ⟨rfl, hU1⟩; have HU1 := Lib.hid hU1; clear hU1)
    go_ret2
    exact ⟨HU1.out, _, rfl, by rw [HL.out]; exact HNIL.out _⟩
end Go.Proofs.YtpjijbophjdgaaaGreat
