/- split.below: an iterator over a recursive closure that owns what it builds: one node. -/
import Derived.RangeFuncWrites
import Derived.Maps.OwnIn
import Derived.Test.YtpjijbophjdgaaaGreatQ43
import Derived.Test.YtpjijbophjdgaaaGreatQ10
import Derived.Test.YtpjijbophjdgaaaGreatQ2
import Derived.Test.YtpjijbophjdgaaaGreatQ18
import Derived.Test.YtpjijbophjdgaaaGreatQ40
import Derived.Test.YtpjijbophjdgaaaGreatQ9
namespace Go.Proofs.YtpjijbophjdgaaaGreat
open Go.RowKit Go.Shelf Go.Deep Go.Sort
set_option maxRecDepth 100000 in
theorem sort_g (base : Nat) (w1 : World) (v : Value) (xs : List Int) (ho : Owns base 3 w1 v (xs.map (Value.int .i64))) (hlen : xs.length ≤ 1000000) :
    Calls Tryz.prog 153 #[v] w1 fun e w' => e = .returned (.tuple #[]) ∧ w1.grownBy w' v.ownBlock ∧ Owns base 3 w' v ((sortL xs).map (Value.int .i64)) := by
  rcases ho.2 with ⟨rfl, h0⟩ | ⟨g, cap, cur, rfl, hg, hc, hn, hcm, hcs, ht⟩
  · have hx : xs = [] := by cases xs with | nil => rfl | cons _ _ => simp at h0
    subst hx
    refine (AnyM.slices_Sort_int_none Tryz.sortZ none 0 w1).mono ?_
    rintro e w' ⟨rfl, rfl⟩
    exact ⟨rfl, ⟨rfl, rfl, rfl, Nat.le_refl _, fun _ _ _ => rfl⟩, by unfold sortL; simpa using ho⟩
  · simp only [List.length_map] at hn ht ho ⊢
    refine (AnyM.slices_Sort_int Tryz.sortZ g 0 cap xs w1 (holds_of_blockI hc (by simpa using ht)) (Array.getElem?_eq_some_iff.1 hc).1 (by omega)).mono ?_
    rintro e w' ⟨rfl, n, os, rfl⟩
    refine ⟨rfl, grownBy_sortedI _, ?_⟩
    have h := ownsRow_sortedI (n := n) (os := os) (ss := xs) (ts := sortL xs) (sortL_len xs) hg hc hn hcm (by simpa using hcs)
    unfold Owns
    rw [List.length_map, sortL_len]
    exact h
abbrev El := Nat × Value
def GvB (t : Tre) (names : List ByteArray) (x : El) (L : Nat → Prop) (W : World) : Prop := x.1 < t.ps.length ∧ x.1 ≠ 0 ∧ ∃ p c, x.2 = .slice p (lvS t names x.1).length c ∧ IntsAt (fun b => ¬ L b) W x.2 (lvS t names x.1) ∧ ∀ g, x.2.ownBlock = some g → ∃ c z, W.heap[g]? = some (Obj.cells c 3 z)
def kLeaf (t : Tre) (names : List ByteArray) (i k : Nat) : List Int := (kidsK t.ps i k).flatMap (lvS t names)
theorem kLeaf_len {t : Tre} {names : List ByteArray} (hn : names.length ≤ 32) (i k : Nat) : (kLeaf t names i k).length ≤ 32 * k := by
  have h : ∀ l : List Nat, (l.flatMap (lvS t names)).length ≤ 32 * l.length := fun l => by
    induction l with
    | nil => simp
    | cons a l ih =>
      have h1 : (lvS t names a).length ≤ names.length := memK_len _ _
      rw [List.flatMap_cons, List.length_append, List.length_cons]; omega
  have h1 := h (kidsK t.ps i k)
  have h2 := kidsK_len t.ps i k
  unfold kLeaf; omega
section
variable (w0 : World) (t : Tre) (names : List ByteArray) (l Bt Be Bn Bq N : Nat) (J : List El → (Nat → Prop) → World → Prop)
def WkPost (pre : List El) (i : Nat) (L : Nat → Prop) (W : World) (e : Ending) (W' : World) : Prop :=
  ∃ (v : Value) (ys : List El) (L' : Nat → Prop), e = .returned (.tuple #[v, .bool true]) ∧ ys.map (·.1) = posF t i ∧ J (pre ++ ys) L' W' ∧ Up w0 W' ∧ W.heap.size ≤ W'.heap.size ∧ (∀ b, L b → W'.heap[b]? = W.heap[b]?) ∧ (∀ b, L b → L' b) ∧ (∀ b, L' b → w0.heap.size ≤ b ∧ b < W'.heap.size) ∧
    (∃ p c, v = .slice p (lvS t names i).length c) ∧ IntsAt Any W' v (lvS t names i)
def WalkAt (i : Nat) : Prop :=
  ∀ (m : Nat) (pre : List El) (L : Nat → Prop) (W : World), J pre L W → Up w0 W → (∀ b, L b → w0.heap.size ≤ b ∧ b < W.heap.size) → L Bq → L Be → L Bt → L Bn → (∃ (pp np mp : Option Addr) (pc nc mc : Nat), W.cell? ⟨Bt, 0, none⟩ = some (.slice pp t.ps.length pc) ∧ W.cell? ⟨Bt, 1, none⟩ = some (.slice np t.ns.length nc) ∧ W.cell? ⟨Bn, 0, none⟩ = some (.slice mp names.length mc) ∧ IntsAt Any w0 (.slice pp t.ps.length pc) t.ps ∧ StrsAt Any w0 (.slice np t.ns.length nc) t.ns ∧ StrsAt Any w0 (.slice mp names.length mc) names) →
    W.cell? ⟨Bq, 0, none⟩ = some (.func (.yield l) #[] #[]) → W.cell? ⟨Be, 0, none⟩ = some (.func (.func 152) #[] #[.pointer (some ⟨Bt, 0, none⟩), .pointer (some ⟨Be, 0, none⟩), .pointer (some ⟨Bn, 0, none⟩), .pointer (some ⟨Bq, 0, none⟩)]) →
    pre.length + (posF t i).length ≤ N →
    CallsIn Fence.wide m Tryz.prog 152 #[.int .i64 (i : Int), .pointer (some ⟨Bt, 0, none⟩), .pointer (some ⟨Be, 0, none⟩), .pointer (some ⟨Bn, 0, none⟩), .pointer (some ⟨Bq, 0, none⟩)] W (WkPost w0 t names J pre i L W)
structure LpS (pre : List El) (L : Nat → Prop) (W : World) (Z : List Nat) (X : List Int) (ys : List El) (L' : Nat → Prop) (out : Value) (wr : World) : Prop where
  ndv : ys.map (·.1) = Z
  jj : J (pre ++ ys) L' wr
  up : Up w0 wr
  sz : W.heap.size ≤ wr.heap.size
  lb : ∀ b, L b → b < W.heap.size
  kept : ∀ b, L b → wr.heap[b]? = W.heap[b]?
  sub : ∀ b, L b → L' b
  bd : ∀ b, L' b → w0.heap.size ≤ b ∧ b < wr.heap.size
  own : Owns W.heap.size 3 wr out (X.map (Value.int .i64))
  mine : ∀ g, out.ownBlock = some g → L' g
variable {w0 t names l Bt Be Bn Bq N J}
theorem ints_mine {S : Nat → Prop} {w : World} {v : Value} {xs : List Int} (h : IntsAt S w v xs) : IntsAt (fun b => v.ownBlock = some b) w v xs := by
  obtain ⟨p, cap, rfl, hn, h⟩ := h
  exact ⟨p, cap, rfl, hn, h.imp id fun ⟨g, off, e, _, hc⟩ => ⟨g, off, e, by rw [e]; rfl, hc⟩⟩
theorem flat_pre {α β : Type} (f : α → List β) {a b : List α} (h : a <+: b) : (a.flatMap f).length ≤ (b.flatMap f).length := by
  obtain ⟨c, rfl⟩ := h
  rw [List.flatMap_append, List.length_append]; omega
theorem kidsK_pre (ps : List Int) (i k : Nat) : ∀ {n : Nat}, k ≤ n → kidsK ps i k <+: kidsK ps i n
  | 0, h => by rw [show k = 0 by omega]; exact List.prefix_refl _
  | n + 1, h => by
    by_cases e : k = n + 1
    · rw [e]; exact List.prefix_refl _
    · refine (kidsK_pre ps i k (n := n) (by omega)).trans ?_
      rw [kidsK_succ]; exact List.prefix_append _ _
theorem LpS.grow (hA : AbL J) {pre : List El} {L : Nat → Prop} {W : World} {Z : List Nat} {X Y : List Int} {ys : List El} {L' : Nat → Prop} {out : Value} {wr : World} (h : LpS w0 J pre L W Z X ys L' out wr) {v' : Value} {w4 : World}
    (ho : Owns W.heap.size 3 w4 v' (Y.map (Value.int .i64))) (hg : wr.grownBy w4 out.ownBlock) (hb : ∀ g, v'.ownBlock = some g → out.ownBlock = some g ∨ (wr.heap.size ≤ g)) :
    LpS w0 J pre L W Z Y ys (fun b => L' b ∨ (wr.heap.size ≤ b ∧ b < w4.heap.size)) v' w4 := by
  have hw0 := h.up.size
  have hmo : ∀ b, out.ownBlock = some b → W.heap.size ≤ b := fun b hb => (ownBlock_lt h.own hb).1
  refine ⟨h.ndv, hA _ L' _ wr w4 h.jj ⟨hg.os, hg.tape, hg.output, hg.size, fun b hb hn => hg.block b hb fun e => hn (h.mine b e.symm), fun b hb => hb.imp (fun e => ⟨e, (h.bd b e).2⟩) id⟩, Below.grown h.up hg hw0 fun k hk => (h.bd k (h.mine k hk)).1, Nat.le_trans h.sz hg.size, h.lb,
    fun b hb => (hg.block b (Nat.lt_of_lt_of_le (h.lb b hb) h.sz) fun e => ?_).trans (h.kept b hb), fun b hb => .inl (h.sub b hb), fun b hb => ?_, ho, fun g hg' => ?_⟩
  · have h1 := hmo b e.symm
    have h2 := h.lb b hb
    omega
  · have := hg.size
    rcases hb with hb | hb
    · have := h.bd b hb; omega
    · omega
  · rcases hb g hg' with e | e
    · exact .inl (h.mine g e)
    · exact .inr ⟨e, (ownBlock_lt ho hg').2⟩
theorem LpS.kid {pre : List El} {L : Nat → Prop} {W : World} {Z : List Nat} {X : List Int} {ys : List El} {L' : Nat → Prop} {out : Value} {wr : World} (h : LpS w0 J pre L W Z X ys L' out wr) {ys2 : List El} {L2 : Nat → Prop} {W3 : World} {Z2 : List Nat}
    (hn2 : ys2.map (·.1) = Z2) (hj2 : J (pre ++ ys ++ ys2) L2 W3) (hu2 : Up w0 W3) (hs2 : wr.heap.size ≤ W3.heap.size) (hk2 : ∀ b, L' b → W3.heap[b]? = wr.heap[b]?) (hsub2 : ∀ b, L' b → L2 b) (hbd2 : ∀ b, L2 b → w0.heap.size ≤ b ∧ b < W3.heap.size) :
    LpS w0 J pre L W (Z ++ Z2) X (ys ++ ys2) L2 out W3 :=
  ⟨by rw [List.map_append, h.ndv, hn2], by rw [← List.append_assoc]; exact hj2, hu2, Nat.le_trans h.sz hs2, h.lb, fun b hb => (hk2 b (h.sub b hb)).trans (h.kept b hb), fun b hb => hsub2 b (h.sub b hb), hbd2, h.own.sameZ fun b hb => hk2 b (h.mine b hb), fun g hg => hsub2 g (h.mine g hg)⟩
theorem owns_one (W : World) (base : Nat) (e : TypeId) (u : Value) (h : base ≤ W.heap.size) : Owns base e (W.alloc (.cells #[u] e)) (.slice (some ⟨W.heap.size, 0, none⟩) 1 1) [u] :=
  ⟨rfl, .inr ⟨W.heap.size, 1, #[u], rfl, h, blk_alloc_new W _, Nat.le_refl _, by decide, rfl, rfl⟩⟩
theorem up_grown {W W' : World} (h : Up W W') (row : Option Nat) : W.grownBy W' row := ⟨h.os, h.tape, h.output, h.size, fun j hj _ => Below.block h j hj⟩
set_option maxRecDepth 100000 in
set_option maxHeartbeats 2000000 in
theorem walk_step (hof : OfOk t names) (hA : AbL J)
    (hY : ∀ m pre x L W1, J pre L W1 → GvB t names x L W1 → Up w0 W1 → (∀ b, L b → w0.heap.size ≤ b ∧ b < W1.heap.size) → pre.length < N → YieldAt Fence.wide m Tryz.prog l #[x.2] W1 fun e W' =>
      e = .returned (.bool true) ∧ J (pre ++ [x]) L W' ∧ Up w0 W' ∧ W1.heap.size ≤ W'.heap.size ∧ ∀ b, (L b ∨ x.2.ownBlock = some b) → W'.heap[b]? = W1.heap[b]?)
    {i : Nat} (hi : i < t.ps.length) (ih : ∀ c ∈ kidsL t.ps i, WalkAt w0 t names l Bt Be Bn Bq N J c) : WalkAt w0 t names l Bt Be Bn Bq N J i := by
  intro m pre L W hJ hU hL hLq hLe hLt hLn hcl hq he hN
  obtain ⟨pp, np, mp, pc, nc, mc, hT0, hT1, hBn, hP, hNs, hNm⟩ := hcl
  obtain ⟨ht0, ht64, htl, _, _⟩ := treeErr_zero hof.te
  have HJ0 : Hid (LpS w0 J pre L W ((kidsK t.ps i 0).flatMap (posF t)) (kLeaf t names i 0) [] L (.slice none 0 0) W) := ⟨rfl, by rw [List.append_nil]; exact hJ, hU, Nat.le_refl _, fun b hb => (hL b hb).2, fun _ _ => rfl, fun _ h => h, hL, Owns.nil _ _ _, fun g hg => by cases hg⟩
  have HTC : Hid (∀ (wr : World), (∀ b, L b → wr.heap[b]? = W.heap[b]?) → wr.cell? ⟨Bt, 0, none⟩ = some (.slice pp t.ps.length pc) ∧ wr.cell? ⟨Bt, 1, none⟩ = some (.slice np t.ns.length nc) ∧ wr.cell? ⟨Bn, 0, none⟩ = some (.slice mp names.length mc)) := fun wr hk => ⟨(World.cell?_of_block (a := ⟨Bt, 0, none⟩) (hk Bt hLt)).trans hT0, (World.cell?_of_block (a := ⟨Bt, 1, none⟩) (hk Bt hLt)).trans hT1, (World.cell?_of_block (a := ⟨Bn, 0, none⟩) (hk Bn hLn)).trans hBn⟩
  have HREST : Hid (∀ (wr : World), (∀ b, L b → wr.heap[b]? = W.heap[b]?) → ∃ (pp np mp : Option Addr) (pc nc mc : Nat), wr.cell? ⟨Bt, 0, none⟩ = some (.slice pp t.ps.length pc) ∧ wr.cell? ⟨Bt, 1, none⟩ = some (.slice np t.ns.length nc) ∧ wr.cell? ⟨Bn, 0, none⟩ = some (.slice mp names.length mc) ∧ IntsAt Any w0 (.slice pp t.ps.length pc) t.ps ∧ StrsAt Any w0 (.slice np t.ns.length nc) t.ns ∧ StrsAt Any w0 (.slice mp names.length mc) names) := fun wr hk => by
    obtain ⟨q1, q2, q3⟩ := HTC.out wr hk
    exact ⟨_, _, _, _, _, _, q1, q2, q3, hP, hNs, hNm⟩
  have HLT := Lib.hid hLt
  have HLNN := Lib.hid hLn
  have HPC : Hid (∀ k, k < t.ps.length → ∃ b off, pp = some ⟨b, off, none⟩ ∧ ∀ wr, Up w0 wr → wr.cell? ⟨b, off + k, none⟩ = some (.int .i64 (gi t.ps k))) := fun k hk => by
    obtain ⟨b, off, e, hc⟩ := ints_get hP hk
    exact ⟨b, off, e, fun wr hu => hu.cell hc⟩
  have HBX : Hid (∀ (wr : World), (∀ b, L b → wr.heap[b]? = W.heap[b]?) → wr.cell? ⟨Bq, 0, none⟩ = some (.func (.yield l) #[] #[]) ∧ wr.cell? ⟨Be, 0, none⟩ = some (.func (.func 152) #[] #[.pointer (some ⟨Bt, 0, none⟩), .pointer (some ⟨Be, 0, none⟩), .pointer (some ⟨Bn, 0, none⟩), .pointer (some ⟨Bq, 0, none⟩)])) := fun wr hk =>
    ⟨(World.cell?_of_block (a := ⟨Bq, 0, none⟩) (hk Bq hLq)).trans hq, (World.cell?_of_block (a := ⟨Be, 0, none⟩) (hk Be hLe)).trans he⟩
  have HNC : Hid (∃ nb no, np = some ⟨nb, no, none⟩ ∧ ∀ wr, Up w0 wr → wr.cell? ⟨nb, no + i, none⟩ = some (.string (gs t.ns i))) := by
    obtain ⟨nb, no, e, hc⟩ := strs_get hNs (k := i) (by omega)
    exact ⟨nb, no, e, fun wr hu => hu.cell hc⟩
  have HIX : Hid (∀ wr, Up w0 wr → Calls Tryz.prog 62 #[.slice mp names.length mc, .string (gs t.ns i)] wr fun e w' => e = .returned (.int .i64 (fdN names (gs t.ns i))) ∧ wr = w') := fun wr hu => index_str_t Any wr _ names.length (gs names) (gs t.ns i) (SlAt.keep hNm (hu.kept _)) (by have := hof.le; omega)
  have ii1 : (0 : Int) ≤ (i : Int) := Int.natCast_nonneg _
  have ii2 : (i : Int) < (t.ns.length : Int) := by rw [htl]; exact Int.ofNat_lt.2 hi
  obtain ⟨c0, c1, c2⟩ := HTC.out W (fun _ _ => rfl)
  have n64 : (t.ps.length : Int) ≤ 64 := by omega
  refine callsIn_of_wp Tryz.func152 rfl trivial ?_ rfl
  simp only [Tryz.ntmps152, List.size_toArray, List.length_cons, List.length_nil, Nat.reduceAdd, Nat.reduceSub, Array.replicate_succ, Array.replicate_zero, List.push_toArray, List.append_toArray, List.nil_append, List.cons_append]
  have HN := Lib.hid hN
  have HIH := Lib.hid ih
  have HY := Lib.hid hY
  have HLQ := Lib.hid hLq
  have HLE := Lib.hid hLe
  have HNS := Lib.hid hNs
  have HNM := Lib.hid hNm
  have HA := Lib.hid hA
  have HOF := Lib.hid hof
  clear hJ hU hL hLq hLe hLt hLn hq he hN ih hY hA hT0 hT1 hBn hP hNs hNm hof htl
  gi_wp2
  gi_loopw [8, 9, 10, 11, 12, 16] (fun out _ _ _ _ i' wr => ∃ (k : Nat) (ys : List El) (L' : Nat → Prop), k ≤ t.ps.length ∧ i' = .int .i64 k ∧ Hid (LpS w0 J pre L W ((kidsK t.ps i k).flatMap (posF t)) (kLeaf t names i k) ys L' out wr)) (fun _ _ _ _ _ i' _ => t.ps.length - (intOf i').toNat)
  case atStart => exact ⟨0, [], L, Nat.zero_le _, rfl, HJ0⟩
  case round =>
    obtain ⟨k, ys, L', hk, rfl, hS⟩ := hrel
    clear HJ0 c0 c1 c2
    obtain ⟨c0, c1, c2⟩ := HTC.out wr hS.out.kept
    obtain ⟨cq, ce⟩ := HBX.out wr hS.out.kept
    by_cases hlt : k < t.ps.length
    · obtain ⟨pb, po, rfl, hpc⟩ := HPC.out k hlt
      have hcell := hpc wr hS.out.up
      have HKS := Lib.hid (kidsK_succ t.ps i k)
      have HPL : Hid (gi t.ps k = (i : Int) → i < k) := par_lt HOF.out.te hlt
      have k1 : (0 : Int) ≤ (k : Int) := Int.natCast_nonneg _
      have k2 : (k : Int) < (t.ps.length : Int) := Int.ofNat_lt.2 hlt
      have k3 : (k : Int) < 64 := by omega
      clear hpc
      have HGX : Hid (∃ x, gi t.ps k = x) := ⟨_, rfl⟩
      by_cases hx : gi t.ps k = (i : Int)
      · rw [hx] at hcell HKS
        have hik := HPL.out hx
        have HK2 : Hid (kidsK t.ps i (k + 1) = kidsK t.ps i k ++ [k]) := by unfold Hid; rw [HKS.out, if_pos ⟨hik, rfl⟩]
        have hkm : k ∈ kidsL t.ps i := mem_kidsL.2 ⟨hlt, hik, hx⟩
        have hnl : (pre ++ ys).length + (posF t k).length ≤ N := by
          have h1 := HN.out
          have h2 := flat_pre (posF t) (kidsK_pre t.ps i (k + 1) (n := t.ps.length) (by omega))
          rw [HK2.out, List.flatMap_append, List.length_append] at h2
          have h3 : (ys.map (·.1)).length = _ := congrArg List.length hS.out.ndv
          rw [posF_eq t hi, List.length_append] at h1
          rw [List.length_map] at h3
          rw [List.length_append]
          have h4 : ((kidsK t.ps i t.ps.length).flatMap (posF t)).length = ((kidsL t.ps i).flatMap (posF t)).length := rfl
          simp only [List.flatMap_cons, List.flatMap_nil, List.append_nil] at h2
          omega
        have HCALL := Lib.hid (HIH.out k hkm (m - 1) (pre ++ ys) L' wr hS.out.jj hS.out.up hS.out.bd (hS.out.sub _ HLQ.out) (hS.out.sub _ HLE.out) (hS.out.sub _ HLT.out) (hS.out.sub _ HLNN.out) (HREST.out wr hS.out.kept) cq ce hnl)
        have hm0 : 0 < (lvS t names k).length := lvS_meet HOF.out hlt
        have HM0 := Lib.hid hm0
        have HML : Hid ((lvS t names k).length ≤ 32) := Nat.le_trans (memK_len _ _) HOF.out.le
        have HKL : Hid ((kLeaf t names i k).length ≤ 32 * k) := kLeaf_len HOF.out.le i k
        clear hx hik hkm hnl hm0
        gi_wp2
        refine ⟨trivial, fun h => (by cases h), ?_⟩
        refine HCALL.out.mono ?_
        rintro e W3 ⟨v2, ys2, L2, rfl, hn2, hj2, hu2, hs2, hk2, hsub2, hbd2, ⟨p2, cc2, rfl⟩, hI2⟩
        obtain ⟨b2, o2, rfl, _⟩ := ints_get hI2 HM0.out
        have HS3 := Lib.hid (hS.out.kid hn2 hj2 hu2 hs2 hk2 hsub2 hbd2)
        have HI2 := Lib.hid hI2
        clear hn2 hj2 hu2 hs2 hk2 hsub2 hbd2 hI2 HCALL cq ce c0 c1 c2 hcell
        obtain ⟨i0, hi0, hz0, hz1, hz2⟩ := info_parts Tryz.infoI
        have how1 : W3.ownsRow W.heap.size 3 1 u8 (kLeaf t names i k).length ((kLeaf t names i k).map (Value.int .i64)) := by have h := HS3.out.own; unfold Owns at h; rwa [List.length_map] at h
        have HW1 := Lib.hid how1
        clear how1
        gi_wp2_with (gi_at_builtin; refine wpListIn_append_own_at _ rfl _ _ 26 rfl W.heap.size 3 i0 (.int .i64 0) 1 8 Tryz.underlying26 hi0 hz0 hz1 hz2 rfl (by decide) _ _ _ rfl HW1.out ⟨b2, o2, none⟩ (lvS t names k).length cc2 ((lvS t names k).map (Value.int .i64)) rfl (by rw [List.length_map]; omega) (news_ints HI2.out) (by simp [Value.oneCell']) (by have h1 := HML.out; have h2 := HKL.out; unfold maxLen; omega) (by have h1 := HML.out; have h2 := HKL.out; omega) HS3.out.sz ?_; intro v4 w4 hown4 hg4 hnil4 hblk4)
        have HS4 : Hid (∃ L4, LpS w0 J pre L W ((kidsK t.ps i (k + 1)).flatMap (posF t)) (kLeaf t names i (k + 1)) (ys ++ ys2) L4 v4 w4) := by
          have e1 : (kidsK t.ps i (k + 1)).flatMap (posF t) = (kidsK t.ps i k).flatMap (posF t) ++ posF t k := by rw [HK2.out, List.flatMap_append]; simp
          have e2 : kLeaf t names i (k + 1) = kLeaf t names i k ++ lvS t names k := by unfold kLeaf; rw [HK2.out, List.flatMap_append]; simp
          have g4 := HS3.out.grow HA.out (Y := kLeaf t names i k ++ lvS t names k) (v' := v4) (w4 := w4) (by unfold Owns; rw [List.length_map, List.length_append, List.map_append]; exact hown4) hg4 (fun g hg => by
            rcases hblk4 with e | e
            · exact .inl (e ▸ hg)
            · rw [e] at hg; injection hg with hg; exact .inr (by omega))
          rw [← e1, ← e2] at g4
          exact ⟨_, g4⟩
        clear hown4 hg4 hnil4 hblk4 HS3
        gi_wp2
        go_roundw
        case rel =>
          obtain ⟨L4, h4⟩ := HS4.out
          exact ⟨k + 1, ys ++ ys2, L4, by omega, by go_num, h4⟩
        case measure => simp [intOf]; omega
      · generalize gi t.ps k = x at *
        have d1 : (x == (i : Int)) = false := by simpa using hx
        have d2 : (x != (i : Int)) = true := by simpa using hx
        have HK2 : Hid (kidsK t.ps i (k + 1) = kidsK t.ps i k) := by unfold Hid; rw [HKS.out, if_neg (fun e => hx e.2), List.append_nil]
        clear hx
        gi_wp2
        go_roundw
        case rel => exact ⟨k + 1, ys, L', by omega, by go_num, by
          have h := hS.out
          unfold Hid kLeaf; rw [HK2.out]; exact h⟩
        case measure => simp [intOf]; omega
    · obtain rfl : k = t.ps.length := by omega
      have HKN : Hid (kidsK t.ps i t.ps.length = kidsL t.ps i) := rfl
      obtain ⟨op, oc, rfl, hform⟩ := hS.out.own.form (n := (kLeaf t names i t.ps.length).length) (by rw [List.length_map])
      clear hform cq ce hlt hk
      by_cases hk0 : kidsL t.ps i = []
      · have hx0 : kLeaf t names i t.ps.length = [] := by unfold kLeaf; rw [HKN.out, hk0]; rfl
        have hz0 : (kidsK t.ps i t.ps.length).flatMap (posF t) = [] := by rw [HKN.out, hk0]; rfl
        rw [hx0, hz0] at hS
        rw [hx0]
        have HLF := Lib.hid (lvS_leaf HOF.out hi hk0)
        have HZP : Hid (posF t i = [] ++ if i = 0 then [] else [i]) := by unfold Hid; rw [posF_eq t hi, hk0]; rfl
        have HBXX := HBX
        obtain ⟨nb, no, rfl, hnc⟩ := HNC.out
        have c3 := hnc wr hS.out.up
        have HC0 := Lib.hid c0
        have HC1 := Lib.hid c1
        have HC2 := Lib.hid c2
        have HC3 := Lib.hid c3
        have HSS := hS
        have HIXw := Lib.hid (HIX.out wr.drew (hS.out.up.trans (Up.drewN wr 1)))
        clear hx0 hz0 hk0 hnc c0 c1 c2 c3 HIX HTC HBX HPC
        generalize gs t.ns i = nm at *
        generalize fdN names nm = fx at *
        simp only [List.length_nil]
        gi_wp2
        refine region_R (by kernel_rfl) 9 (fun w' => w'.cell? ⟨Bn, 0, none⟩ = some (.slice mp names.length mc) ∧ w'.cell? ⟨Bt, 1, none⟩ = some (.slice (some ⟨nb, no, none⟩) t.ns.length nc) ∧ w'.cell? ⟨nb, no + i, none⟩ = some (.string nm)) ⟨HC2.out, HC1.out, HC3.out⟩ (fun hS => ?_)
        simp only [List.size_toArray, List.length_cons, List.length_nil, Nat.reduceAdd, Array.replicate_succ, Array.replicate_zero, List.push_toArray, List.nil_append, List.cons_append]
        refine anyR.take (i := 0) (v := ?gv0) rfl (by kernel_rfl) (fun _ _ _ h => h) (by rfl) (fun _ => rfl) (fun w hSw => ?gy0) hS ?gr0
        case gy0 =>
          obtain ⟨q1, q2, q3⟩ := hSw
          go_simp
          try with_reducible rfl
        try simp only [Act.put, List.setIfInBounds_toArray, List.set_cons_zero, List.set_cons_succ]
        refine anyR.take (i := 1) (v := ?gv1) rfl (by kernel_rfl) (fun _ _ _ h => h) (by rfl) (fun _ => rfl) (fun w hSw => ?gy1) hS ?gr1
        case gy1 =>
          obtain ⟨q1, q2, q3⟩ := hSw
          go_simp
          try with_reducible rfl
        try simp only [Act.put, List.setIfInBounds_toArray, List.set_cons_zero, List.set_cons_succ]
        refine anyR.take (i := 2) (v := ?gv2) rfl (by kernel_rfl) (fun _ _ _ h => h) (by rfl) (fun _ => rfl) (fun w hSw => ?gy2) hS ?gr2
        case gy2 =>
          obtain ⟨q1, q2, q3⟩ := hSw
          go_simp
          try with_reducible rfl
        try simp only [Act.put, List.setIfInBounds_toArray, List.set_cons_zero, List.set_cons_succ]
        refine anyR.take (i := 3) (v := ?gv3) rfl (by kernel_rfl) (fun _ _ _ h => h) (by rfl) (fun _ => rfl) (fun w hSw => ?gy3) hS ?gr3
        case gy3 =>
          obtain ⟨q1, q2, q3⟩ := hSw
          go_simp
          try with_reducible rfl
        try simp only [Act.put, List.setIfInBounds_toArray, List.set_cons_zero, List.set_cons_succ]
        refine anyR.take (i := 4) (v := ?gv4) rfl (by kernel_rfl) (fun _ _ _ h => h) (by rfl) (fun _ => rfl) (fun w hSw => ?gy4) hS ?gr4
        case gy4 =>
          obtain ⟨q1, q2, q3⟩ := hSw
          go_simp
          try with_reducible rfl
        try simp only [Act.put, List.setIfInBounds_toArray, List.set_cons_zero, List.set_cons_succ]
        refine anyR.take (i := 5) (v := ?gv5) rfl (by kernel_rfl) (fun _ _ _ h => h) (by rfl) (fun _ => rfl) (fun w hSw => ?gy5) hS ?gr5
        case gy5 =>
          obtain ⟨q1, q2, q3⟩ := hSw
          go_simp
          try with_reducible rfl
        try simp only [Act.put, List.setIfInBounds_toArray, List.set_cons_zero, List.set_cons_succ]
        refine anyR.step (i := 6) rfl (by kernel_rfl) (fun K' hK => ?_)
        go_simp
        refine ⟨trivial, fun h => (by cases h), (callsIn_wide.2 HIXw.out).mono ?_⟩
        rintro e wd ⟨rfl, rfl⟩
        refine hK.out _ _ (fun _ => ⟨HC2.out, HC1.out, HC3.out⟩) (fun hS => ?_)
        try simp only [List.setIfInBounds_toArray, List.set_cons_zero, List.set_cons_succ]
        refine anyR.step (i := 7) rfl (by kernel_rfl) (fun K' hK => ?_)
        go_simp
        have hu5 := Up.alloc wr.drew (.cells #[.int .i64 fx] 3)
        have ho5 := owns_one wr.drew W.heap.size 3 (.int .i64 fx) HSS.out.sz
        refine hK.out _ _ (fun _ => ⟨hu5.cell HC2.out, hu5.cell HC1.out, hu5.cell HC3.out⟩) (fun hS => ?_)
        try simp only [List.setIfInBounds_toArray, List.set_cons_zero, List.set_cons_succ]
        refine anyR.step (i := 8) rfl (by kernel_rfl) (fun K' hK => ?_)
        go_simp
        refine hK.out _ _ (not_more (by kernel_rfl)) (fun hS => ?_)
        refine anyR.done (by kernel_rfl) ?_
        have hud : Up wr (wr.alloc (.cells #[.int .i64 fx] 3)).drew := Up.trans (Up.drewN wr 1) hu5
        have HS5 : Hid (∃ L5, LpS w0 J pre L W [] [fx] ys L5 (.slice (some ⟨wr.heap.size, 0, none⟩) 1 1) (wr.alloc (.cells #[.int .i64 fx] 3)).drew) := ⟨_, HSS.out.grow HA.out (Y := [fx]) (w4 := (wr.alloc (.cells #[.int .i64 fx] 3)).drew) ho5 (up_grown hud _) (fun g hg => .inr (by injection hg with hg; exact Nat.le_of_eq hg))⟩
        obtain ⟨L5, hs5⟩ := HS5.out
        have HS5 := Lib.hid hs5
        have HXS : Hid (sortL [fx] = lvS t names i) := by unfold Hid; rw [HLF.out]; unfold sortL; simp
        have hwe : (wr.drew.heap.size) = wr.heap.size := rfl
        try rw [hwe]
        clear hS hu5 ho5 hud hs5 hwe
        generalize (wr.alloc (.cells #[.int .i64 fx] 3)).drew = w5 at *
        have HSO := Lib.hid (sort_g W.heap.size w5 _ [fx] HS5.out.own (by simp))
        gi_wp2
        first | refine ⟨trivial, fun h => (by cases h), ?_⟩ | refine ⟨fun h => (by cases h), ?_⟩
        refine (callsIn_wide.2 HSO.out).mono ?_
        rintro e w6 ⟨rfl, hg6, ho6⟩
        have h6 := HS5.out.grow HA.out ho6 hg6 (fun g hg => .inl hg)
        rw [HXS.out] at h6
        obtain ⟨L6, hL6⟩ : ∃ L6 : Nat → Prop, L6 = fun b => L5 b ∨ (w5.heap.size ≤ b ∧ b < w6.heap.size) := ⟨_, rfl⟩
        rw [← hL6] at h6
        have HL6 := Lib.hid h6
        have HLN : Hid (1 = (lvS t names i).length) := by unfold Hid; rw [← HXS.out, sortL_len]; try rfl
        clear hg6 ho6 HSO HS5 h6 hL6
        by_cases hi0 : i = 0
        · have HI0 := Lib.hid hi0
          have d0 : ((i : Int) == 0) = true := by subst hi0; rfl
          clear hi0
          gi_wp2
          rename_i hkk _ _ _ _
          refine ⟨fun f h => (by cases h), hkk _ _ ?_⟩
          gi_wp2
          exact ⟨rfl, .tuple #[(Value.slice (some ⟨wr.heap.size, 0, none⟩) 1 1), .bool true], by simp [results, Tryz.results152, go_sem], _, ys, L6, rfl, by rw [HL6.out.ndv, HZP.out, if_pos HI0.out, List.append_nil], HL6.out.jj, HL6.out.up, HL6.out.sz, HL6.out.kept, HL6.out.sub, HL6.out.bd, ⟨some ⟨wr.heap.size, 0, none⟩, 1, by rw [← HLN.out]⟩, HL6.out.own.ints.sub fun _ _ _ => trivial⟩
        · have HI0 := Lib.hid hi0
          have d0 : ((i : Int) == 0) = false := beq_eq_false_iff_ne.2 (by omega)
          have hj7 : J (pre ++ ys) (fun b => L6 b ∧ (Value.slice (some ⟨wr.heap.size, 0, none⟩) 1 1).ownBlock ≠ some b) w6 := HA.out _ L6 _ w6 w6 HL6.out.jj ⟨rfl, rfl, rfl, Nat.le_refl _, fun _ _ _ => rfl, fun b hb => .inl ⟨hb.1, (HL6.out.bd b hb.1).2⟩⟩
          have hin : IntsAt (fun b => ¬ (L6 b ∧ (Value.slice (some ⟨wr.heap.size, 0, none⟩) 1 1).ownBlock ≠ some b)) w6 (Value.slice (some ⟨wr.heap.size, 0, none⟩) 1 1) (lvS t names i) := (ints_mine HL6.out.own.ints).sub fun b hb _ (h7 : _ ∧ _) => h7.2 hb
          have hgv : GvB t names (i, (Value.slice (some ⟨wr.heap.size, 0, none⟩) 1 1)) (fun b => L6 b ∧ (Value.slice (some ⟨wr.heap.size, 0, none⟩) 1 1).ownBlock ≠ some b) w6 := ⟨hi, HI0.out, some ⟨wr.heap.size, 0, none⟩, 1, by show (Value.slice (some ⟨wr.heap.size, 0, none⟩) 1 1) = _; rw [← HLN.out], hin, fun g hg => by obtain ⟨c, h⟩ := Owns.typedV HL6.out.own hg; exact ⟨c, _, h⟩⟩
          have hln : (pre ++ ys).length < N := by
            have h1 := HN.out
            have h2 := congrArg List.length HL6.out.ndv
            rw [HZP.out, if_neg HI0.out, List.length_append, List.length_singleton] at h1
            rw [List.length_map] at h2
            rw [List.length_append]; omega
          obtain ⟨cq, ce⟩ := HBXX.out w6 HL6.out.kept
          obtain ⟨fn, tmps, assign, body, hy, hR⟩ := HY.out (m - 1) (pre ++ ys) (i, (Value.slice (some ⟨wr.heap.size, 0, none⟩) 1 1)) _ w6 hj7 hgv HL6.out.up (fun b hb => HL6.out.bd b hb.1) hln
          have hne : Hid (∀ b, L b → (Value.slice (some ⟨wr.heap.size, 0, none⟩) 1 1).ownBlock ≠ some b) := fun b hb e => by
            have h1 := (ownBlock_lt HL6.out.own e).1
            have h2 := HL6.out.lb b hb
            omega
          simp only at hy
          clear hi0 hj7 hgv hln hin
          gi_wp2
          first | refine ⟨trivial, fun h => (by cases h), ?_⟩ | refine ⟨fun h => (by cases h), ?_⟩
          refine hR.mono ?_
          rintro e W7 ⟨rfl, hj8, hu8, hs8, hk8⟩
          have H8 := Lib.hid (⟨hj8, hu8, hs8, hk8⟩ : _ ∧ _ ∧ _ ∧ _)
          clear hj8 hu8 hs8 hk8 hR
          gi_wp2
          exact ⟨rfl, .tuple #[(Value.slice (some ⟨wr.heap.size, 0, none⟩) 1 1), .bool true], by simp [results, Tryz.results152, go_sem], _, ys ++ [(i, (Value.slice (some ⟨wr.heap.size, 0, none⟩) 1 1))], (fun b => L6 b ∧ (Value.slice (some ⟨wr.heap.size, 0, none⟩) 1 1).ownBlock ≠ some b), rfl, by rw [List.map_append, HL6.out.ndv, HZP.out, if_neg HI0.out]; rfl, by rw [← List.append_assoc]; exact H8.out.1, H8.out.2.1, Nat.le_trans HL6.out.sz H8.out.2.2.1, fun b hb => (H8.out.2.2.2 b (.inl ⟨HL6.out.sub b hb, hne.out b hb⟩)).trans (HL6.out.kept b hb), fun b hb => ⟨HL6.out.sub b hb, hne.out b hb⟩,
            fun b hb => (by have h1 := HL6.out.bd b hb.1; have h2 := H8.out.2.2.1; omega), ⟨some ⟨wr.heap.size, 0, none⟩, 1, by rw [← HLN.out]⟩, (SlAt.keep (ints_mine HL6.out.own.ints) fun b hb _ => H8.out.2.2.2 b (.inr hb)).sub fun _ _ _ => trivial⟩
      · have HXS : Hid (sortL (kLeaf t names i t.ps.length) = lvS t names i) := lvS_node HOF.out hi hk0
        have HZP : Hid (posF t i = (kidsK t.ps i t.ps.length).flatMap (posF t) ++ if i = 0 then [] else [i]) := posF_eq t hi
        have HKL : Hid ((kLeaf t names i t.ps.length).length ≤ 32 * t.ps.length) := kLeaf_len HOF.out.le i _
        have hx0 : 0 < (kLeaf t names i t.ps.length).length := by
          have h1 := HXS.out
          have h2 := congrArg List.length h1
          rw [sortL_len] at h2
          rw [h2]; exact lvS_meet HOF.out hi
        have d3 : (((kLeaf t names i t.ps.length).length : Int) == 0) = false := beq_eq_false_iff_ne.2 (by omega)
        have HS5 := hS
        obtain ⟨L5, hL5⟩ : ∃ L5 : Nat → Prop, L5 = L' := ⟨_, rfl⟩
        rw [← hL5] at HS5
        have HBXX := HBX
        obtain ⟨w5, hw5⟩ : ∃ w5, w5 = wr := ⟨_, rfl⟩
        subst hw5
        clear hk0 hS hL5 c0 c1 c2 HIX HTC HBX HPC HNC
        have HSO := Lib.hid (sort_g W.heap.size w5 _ (kLeaf t names i t.ps.length) HS5.out.own (by have := HKL.out; omega))
        generalize kLeaf t names i t.ps.length = X at *
        gi_wp2
        first | refine ⟨trivial, fun h => (by cases h), ?_⟩ | refine ⟨fun h => (by cases h), ?_⟩
        refine (callsIn_wide.2 HSO.out).mono ?_
        rintro e w6 ⟨rfl, hg6, ho6⟩
        have h6 := HS5.out.grow HA.out ho6 hg6 (fun g hg => .inl hg)
        rw [HXS.out] at h6
        obtain ⟨L6, hL6⟩ : ∃ L6 : Nat → Prop, L6 = fun b => L5 b ∨ (w5.heap.size ≤ b ∧ b < w6.heap.size) := ⟨_, rfl⟩
        rw [← hL6] at h6
        have HL6 := Lib.hid h6
        have HLN : Hid (X.length = (lvS t names i).length) := by unfold Hid; rw [← HXS.out, sortL_len]; try rfl
        clear hg6 ho6 HSO HS5 h6 hL6
        by_cases hi0 : i = 0
        · have HI0 := Lib.hid hi0
          have d0 : ((i : Int) == 0) = true := by subst hi0; rfl
          clear hi0
          gi_wp2
          rename_i hkk _ _ _ _
          refine ⟨fun f h => (by cases h), hkk _ _ ?_⟩
          gi_wp2
          exact ⟨rfl, .tuple #[(Value.slice op X.length oc), .bool true], by simp [results, Tryz.results152, go_sem], _, ys, L6, rfl, by rw [HL6.out.ndv, HZP.out, if_pos HI0.out, List.append_nil], HL6.out.jj, HL6.out.up, HL6.out.sz, HL6.out.kept, HL6.out.sub, HL6.out.bd, ⟨op, oc, by rw [← HLN.out]⟩, HL6.out.own.ints.sub fun _ _ _ => trivial⟩
        · have HI0 := Lib.hid hi0
          have d0 : ((i : Int) == 0) = false := beq_eq_false_iff_ne.2 (by omega)
          have hj7 : J (pre ++ ys) (fun b => L6 b ∧ (Value.slice op X.length oc).ownBlock ≠ some b) w6 := HA.out _ L6 _ w6 w6 HL6.out.jj ⟨rfl, rfl, rfl, Nat.le_refl _, fun _ _ _ => rfl, fun b hb => .inl ⟨hb.1, (HL6.out.bd b hb.1).2⟩⟩
          have hin : IntsAt (fun b => ¬ (L6 b ∧ (Value.slice op X.length oc).ownBlock ≠ some b)) w6 (Value.slice op X.length oc) (lvS t names i) := (ints_mine HL6.out.own.ints).sub fun b hb _ (h7 : _ ∧ _) => h7.2 hb
          have hgv : GvB t names (i, (Value.slice op X.length oc)) (fun b => L6 b ∧ (Value.slice op X.length oc).ownBlock ≠ some b) w6 := ⟨hi, HI0.out, op, oc, by show (Value.slice op X.length oc) = _; rw [← HLN.out], hin, fun g hg => by obtain ⟨c, h⟩ := Owns.typedV HL6.out.own hg; exact ⟨c, _, h⟩⟩
          have hln : (pre ++ ys).length < N := by
            have h1 := HN.out
            have h2 := congrArg List.length HL6.out.ndv
            rw [HZP.out, if_neg HI0.out, List.length_append, List.length_singleton] at h1
            rw [List.length_map] at h2
            rw [List.length_append]; omega
          obtain ⟨cq, ce⟩ := HBXX.out w6 HL6.out.kept
          obtain ⟨fn, tmps, assign, body, hy, hR⟩ := HY.out (m - 1) (pre ++ ys) (i, (Value.slice op X.length oc)) _ w6 hj7 hgv HL6.out.up (fun b hb => HL6.out.bd b hb.1) hln
          have hne : Hid (∀ b, L b → (Value.slice op X.length oc).ownBlock ≠ some b) := fun b hb e => by
            have h1 := (ownBlock_lt HL6.out.own e).1
            have h2 := HL6.out.lb b hb
            omega
          simp only at hy
          clear hi0 hj7 hgv hln hin
          gi_wp2
          first | refine ⟨trivial, fun h => (by cases h), ?_⟩ | refine ⟨fun h => (by cases h), ?_⟩
          refine hR.mono ?_
          rintro e W7 ⟨rfl, hj8, hu8, hs8, hk8⟩
          have H8 := Lib.hid (⟨hj8, hu8, hs8, hk8⟩ : _ ∧ _ ∧ _ ∧ _)
          clear hj8 hu8 hs8 hk8 hR
          gi_wp2
          exact ⟨rfl, .tuple #[(Value.slice op X.length oc), .bool true], by simp [results, Tryz.results152, go_sem], _, ys ++ [(i, (Value.slice op X.length oc))], (fun b => L6 b ∧ (Value.slice op X.length oc).ownBlock ≠ some b), rfl, by rw [List.map_append, HL6.out.ndv, HZP.out, if_neg HI0.out]; rfl, by rw [← List.append_assoc]; exact H8.out.1, H8.out.2.1, Nat.le_trans HL6.out.sz H8.out.2.2.1, fun b hb => (H8.out.2.2.2 b (.inl ⟨HL6.out.sub b hb, hne.out b hb⟩)).trans (HL6.out.kept b hb), fun b hb => ⟨HL6.out.sub b hb, hne.out b hb⟩,
            fun b hb => (by have h1 := HL6.out.bd b hb.1; have h2 := H8.out.2.2.1; omega), ⟨op, oc, by rw [← HLN.out]⟩, (SlAt.keep (ints_mine HL6.out.own.ints) fun b hb _ => H8.out.2.2.2 b (.inr hb)).sub fun _ _ _ => trivial⟩
end
end Go.Proofs.YtpjijbophjdgaaaGreat
