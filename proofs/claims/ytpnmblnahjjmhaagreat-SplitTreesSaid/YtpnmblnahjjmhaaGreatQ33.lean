/- split.below: an iterator over a recursive closure that owns what it builds: one node. -/
import Derived.RangeFuncWrites
import Derived.Maps.OwnIn
import Derived.Test.YtpnmblnahjjmhaaGreatQ30
import Derived.Test.YtpnmblnahjjmhaaGreatQ8
import Derived.Test.YtpnmblnahjjmhaaGreatQ1
import Derived.Test.YtpnmblnahjjmhaaGreatQ19
import Derived.Test.YtpnmblnahjjmhaaGreatQ29
import Derived.Test.YtpnmblnahjjmhaaGreatQ9
import Derived.Test.YtpnmblnahjjmhaaGreatQ31
set_option maxRecDepth 100000
namespace Go.Proofs.YtpnmblnahjjmhaaGreat
open Go.RowKit Go.Shelf Go.Deep Go.Sort
theorem Pz (base : Nat) (w1 : World) (v : Value) (xs : List Int) (ho : ah base 3 w1 v (xs.map (Value.int .i64))) (hlen : xs.length ≤ 1000000) :
  Calls Tryz.prog 87 #[v] w1 fun e w' => e = .returned (.tuple #[]) ∧ w1.grownBy w' v.ownBlock ∧ ah base 3 w' v ((nP xs).map (Value.int .i64)) := by
 rcases ho.2 with ⟨rfl, h0⟩ | ⟨g, cap, cur, rfl, hg, hc, hn, hcm, hcs, ht⟩
 ·have hx : xs = [] := by cases xs with | nil => rfl | cons _ _ => simp at h0
  subst hx
  refine (AnyM.slices_Sort_int_none Tryz.sortZ none 0 w1).mono ?_
  rintro e w' ⟨rfl, rfl⟩
  exact ⟨rfl, ⟨rfl, rfl, rfl, Nat.le_refl _, fun _ _ _ => rfl⟩, by unfold nP; simpa using ho⟩
 ·simp only [List.length_map] at hn ht ho ⊢
  refine (AnyM.slices_Sort_int Tryz.sortZ g 0 cap xs w1 (holds_of_blockI hc (by simpa using ht)) (Array.getElem?_eq_some_iff.1 hc).1 (by omega)).mono ?_
  rintro e w' ⟨rfl, n, os, rfl⟩
  refine ⟨rfl, grownBy_sortedI _, ?_⟩
  have h := ownsRow_sortedI (n := n) (os := os) (ss := xs) (ts := nP xs) (pM xs) hg hc hn hcm (by simpa using hcs)
  unfold ah
  rw [List.length_map, pM]
  exact h
abbrev El := Nat × Value
def Hr (t : aA) (names : List ByteArray) (x : El) (L : Nat → Prop) (W : World) : Prop := x.1 < t.ps.length ∧ x.1 ≠ 0 ∧ ∃ p c, x.2 = .slice p (aN t names x.1).length c ∧ af (fun b => ¬ L b) W x.2 (aN t names x.1) ∧ ∀ g, x.2.ownBlock = some g → ∃ c z, W.heap[g]? = some (Obj.cells c 3 z)
def fH (t : aA) (names : List ByteArray) (i k : Nat) : List Int := (bG t.ps i k).flatMap (aN t names)
theorem Ev {t : aA} {names : List ByteArray} (hn : names.length ≤ 32) (i k : Nat) : (fH t names i k).length ≤ 32 * k := by
 have h : ∀ l : List Nat, (l.flatMap (aN t names)).length ≤ 32 * l.length := fun l => by
  induction l with
  | nil => simp
  | cons a l ih =>
   have h1 : (aN t names a).length ≤ names.length := ja _ _
   rw [List.flatMap_cons, List.length_append, List.length_cons]; omega
 have h1 := h (bG t.ps i k)
 have h2 := o9 t.ps i k
 unfold fH; omega
section
variable (w0 : World) (t : aA) (names : List ByteArray) (l Bt Be Bn Bq N : Nat) (J : List El → (Nat → Prop) → World → Prop)
def YS (pre : List El) (i : Nat) (L : Nat → Prop) (W : World) (e : Ending) (W' : World) : Prop :=
 ∃ (v : Value) (ys : List El) (L' : Nat → Prop), e = .returned (.tuple #[v, .bool true]) ∧ ys.map (·.1) = eV t i ∧ J (pre ++ ys) L' W' ∧ Up w0 W' ∧ W.heap.size ≤ W'.heap.size ∧ (∀ b, L b → W'.heap[b]? = W.heap[b]?) ∧ (∀ b, L b → L' b) ∧ (∀ b, L' b → w0.heap.size ≤ b ∧ b < W'.heap.size) ∧
  (∃ p c, v = .slice p (aN t names i).length c) ∧ af Any W' v (aN t names i)
def Hs (i : Nat) : Prop :=
 ∀ (m : Nat) (pre : List El) (L : Nat → Prop) (W : World), J pre L W → Up w0 W → (∀ b, L b → w0.heap.size ≤ b ∧ b < W.heap.size) → L Bq → L Be → L Bt → L Bn → (∃ (pp np mp : Option Addr) (pc nc mc : Nat), W.cell? ⟨Bt, 0, none⟩ = some (.slice pp t.ps.length pc) ∧ W.cell? ⟨Bt, 1, none⟩ = some (.slice np t.ns.length nc) ∧ W.cell? ⟨Bn, 0, none⟩ = some (.slice mp names.length mc) ∧ af Any w0 (.slice pp t.ps.length pc) t.ps ∧ ay Any w0 (.slice np t.ns.length nc) t.ns ∧ ay Any w0 (.slice mp names.length mc) names) →
  W.cell? ⟨Bq, 0, none⟩ = some (.func (.yield l) #[] #[]) → W.cell? ⟨Be, 0, none⟩ = some (.func (.func 169) #[] #[.pointer (some ⟨Bt, 0, none⟩), .pointer (some ⟨Be, 0, none⟩), .pointer (some ⟨Bn, 0, none⟩), .pointer (some ⟨Bq, 0, none⟩)]) →
  pre.length + (eV t i).length ≤ N →
  CallsIn Fence.wide m Tryz.prog 169 #[.int .i64 (i : Int), .pointer (some ⟨Bt, 0, none⟩), .pointer (some ⟨Be, 0, none⟩), .pointer (some ⟨Bn, 0, none⟩), .pointer (some ⟨Bq, 0, none⟩)] W (YS w0 t names J pre i L W)
structure zI (pre : List El) (L : Nat → Prop) (W : World) (Z : List Nat) (X : List Int) (ys : List El) (L' : Nat → Prop) (out : Value) (wr : World) : Prop where
 bV : ys.map (·.1) = Z
 jj : J (pre ++ ys) L' wr
 up : Up w0 wr
 sz : W.heap.size ≤ wr.heap.size
 lb : ∀ b, L b → b < W.heap.size
 kept : ∀ b, L b → wr.heap[b]? = W.heap[b]?
 sub : ∀ b, L b → L' b
 bd : ∀ b, L' b → w0.heap.size ≤ b ∧ b < wr.heap.size
 own : ah W.heap.size 3 wr out (X.map (Value.int .i64))
 mine : ∀ g, out.ownBlock = some g → L' g
variable {w0 t names l Bt Be Bn Bq N J}
theorem tA {S : Nat → Prop} {w : World} {v : Value} {xs : List Int} (h : af S w v xs) : af (fun b => v.ownBlock = some b) w v xs := by
 obtain ⟨p, cap, rfl, hn, h⟩ := h
 exact ⟨p, cap, rfl, hn, h.imp id fun ⟨g, off, e, _, hc⟩ => ⟨g, off, e, by rw [e]; rfl, hc⟩⟩
theorem SN {α β : Type} (f : α → List β) {a b : List α} (h : a <+: b) : (a.flatMap f).length ≤ (b.flatMap f).length := by
 obtain ⟨c, rfl⟩ := h
 rw [List.flatMap_append, List.length_append]; omega
theorem Ew (ps : List Int) (i k : Nat) : ∀ {n : Nat}, k ≤ n → bG ps i k <+: bG ps i n
 | 0, h => by rw [show k = 0 by omega]; exact List.prefix_refl _
 | n + 1, h => by
  by_cases e : k = n + 1
  ·rw [e]; exact List.prefix_refl _
  ·refine (Ew ps i k (n := n) (by omega)).trans ?_
   rw [kV]; exact List.prefix_append _ _
theorem zI.grow (hA : KL J) {pre : List El} {L : Nat → Prop} {W : World} {Z : List Nat} {X Y : List Int} {ys : List El} {L' : Nat → Prop} {out : Value} {wr : World} (h : zI w0 J pre L W Z X ys L' out wr) {v' : Value} {w4 : World}
  (ho : ah W.heap.size 3 w4 v' (Y.map (Value.int .i64))) (hg : wr.grownBy w4 out.ownBlock) (hb : ∀ g, v'.ownBlock = some g → out.ownBlock = some g ∨ (wr.heap.size ≤ g)) :
  zI w0 J pre L W Z Y ys (fun b => L' b ∨ (wr.heap.size ≤ b ∧ b < w4.heap.size)) v' w4 := by
 have hw0 := h.up.size
 have hmo : ∀ b, out.ownBlock = some b → W.heap.size ≤ b := fun b hb => (ax h.own hb).1
 refine ⟨h.bV, hA _ L' _ wr w4 h.jj ⟨hg.os, hg.tape, hg.output, hg.size, fun b hb hn => hg.block b hb fun e => hn (h.mine b e.symm), fun b hb => hb.imp (fun e => ⟨e, (h.bd b e).2⟩) id⟩, Below.grown h.up hg hw0 fun k hk => (h.bd k (h.mine k hk)).1, Nat.le_trans h.sz hg.size, h.lb,
  fun b hb => (hg.block b (Nat.lt_of_lt_of_le (h.lb b hb) h.sz) fun e => ?_).trans (h.kept b hb), fun b hb => .inl (h.sub b hb), fun b hb => ?_, ho, fun g hg' => ?_⟩
 ·have h1 := hmo b e.symm
  have h2 := h.lb b hb
  omega
 ·have := hg.size
  rcases hb with hb | hb
  ·have := h.bd b hb; omega
  ·omega
 ·rcases hb g hg' with e | e
  ·exact .inl (h.mine g e)
  ·exact .inr ⟨e, (ax ho hg').2⟩
theorem zI.kid {pre : List El} {L : Nat → Prop} {W : World} {Z : List Nat} {X : List Int} {ys : List El} {L' : Nat → Prop} {out : Value} {wr : World} (h : zI w0 J pre L W Z X ys L' out wr) {KT : List El} {L2 : Nat → Prop} {W3 : World} {Z2 : List Nat}
  (hn2 : KT.map (·.1) = Z2) (hj2 : J (pre ++ ys ++ KT) L2 W3) (aC : Up w0 W3) (hs2 : wr.heap.size ≤ W3.heap.size) (hk2 : ∀ b, L' b → W3.heap[b]? = wr.heap[b]?) (Cb : ∀ b, L' b → L2 b) (ML : ∀ b, L2 b → w0.heap.size ≤ b ∧ b < W3.heap.size) :
  zI w0 J pre L W (Z ++ Z2) X (ys ++ KT) L2 out W3 :=
 ⟨by rw [List.map_append, h.bV, hn2], by rw [← List.append_assoc]; exact hj2, aC, Nat.le_trans h.sz hs2, h.lb, fun b hb => (hk2 b (h.sub b hb)).trans (h.kept b hb), fun b hb => Cb b (h.sub b hb), ML, h.own.vC fun b hb => hk2 b (h.mine b hb), fun g hg => Cb g (h.mine g hg)⟩
theorem SP (W : World) (base : Nat) (e : TypeId) (u : Value) (h : base ≤ W.heap.size) : ah base e (W.alloc (.cells #[u] e)) (.slice (some ⟨W.heap.size, 0, none⟩) 1 1) [u] :=
 ⟨rfl, .inr ⟨W.heap.size, 1, #[u], rfl, h, blk_alloc_new W _, Nat.le_refl _, by decide, rfl, rfl⟩⟩
theorem Ap {W W' : World} (h : Up W W') (row : Option Nat) : W.grownBy W' row := ⟨h.os, h.tape, h.output, h.size, fun j hj _ => Below.block h j hj⟩
set_option maxHeartbeats 2000000 in
theorem PA (mV : iz t names) (hA : KL J)
  (hY : ∀ m pre x L W1, J pre L W1 → Hr t names x L W1 → Up w0 W1 → (∀ b, L b → w0.heap.size ≤ b ∧ b < W1.heap.size) → pre.length < N → YieldAt Fence.wide m Tryz.prog l #[x.2] W1 fun e W' =>
   e = .returned (.bool true) ∧ J (pre ++ [x]) L W' ∧ Up w0 W' ∧ W1.heap.size ≤ W'.heap.size ∧ ∀ b, (L b ∨ x.2.ownBlock = some b) → W'.heap[b]? = W1.heap[b]?)
  {i : Nat} (hi : i < t.ps.length) (ih : ∀ c ∈ bu t.ps i, Hs w0 t names l Bt Be Bn Bq N J c) : Hs w0 t names l Bt Be Bn Bq N J i := by
 intro m pre L W hJ hU hL YT YU UM sL uJ hq he hN
 obtain ⟨pp, np, mp, pc, nc, mc, Gn, oh, UN, hP, KU, KV⟩ := uJ
 obtain ⟨wU, ht64, htl, _, _⟩ := aH mV.te
 have HJ0 : Hid (zI w0 J pre L W ((bG t.ps i 0).flatMap (eV t)) (fH t names i 0) [] L (.slice none 0 0) W) := ⟨rfl, by rw [List.append_nil]; exact hJ, hU, Nat.le_refl _, fun b hb => (hL b hb).2, fun _ _ => rfl, fun _ h => h, hL, ah.nil _ _ _, fun g hg => by cases hg⟩
 have BK : Hid (∀ (wr : World), (∀ b, L b → wr.heap[b]? = W.heap[b]?) → wr.cell? ⟨Bt, 0, none⟩ = some (.slice pp t.ps.length pc) ∧ wr.cell? ⟨Bt, 1, none⟩ = some (.slice np t.ns.length nc) ∧ wr.cell? ⟨Bn, 0, none⟩ = some (.slice mp names.length mc)) := fun wr hk => ⟨(World.cell?_of_block (a := ⟨Bt, 0, none⟩) (hk Bt UM)).trans Gn, (World.cell?_of_block (a := ⟨Bt, 1, none⟩) (hk Bt UM)).trans oh, (World.cell?_of_block (a := ⟨Bn, 0, none⟩) (hk Bn sL)).trans UN⟩
 have HREST : Hid (∀ (wr : World), (∀ b, L b → wr.heap[b]? = W.heap[b]?) → ∃ (pp np mp : Option Addr) (pc nc mc : Nat), wr.cell? ⟨Bt, 0, none⟩ = some (.slice pp t.ps.length pc) ∧ wr.cell? ⟨Bt, 1, none⟩ = some (.slice np t.ns.length nc) ∧ wr.cell? ⟨Bn, 0, none⟩ = some (.slice mp names.length mc) ∧ af Any w0 (.slice pp t.ps.length pc) t.ps ∧ ay Any w0 (.slice np t.ns.length nc) t.ns ∧ ay Any w0 (.slice mp names.length mc) names) := fun wr hk => by
  obtain ⟨q1, q2, q3⟩ := BK.out wr hk
  exact ⟨_, _, _, _, _, _, q1, q2, q3, hP, KU, KV⟩
 have aM := aa UM
 have HLNN := aa sL
 have YV : Hid (∀ k, k < t.ps.length → ∃ b off, pp = some ⟨b, off, none⟩ ∧ ∀ wr, Up w0 wr → wr.cell? ⟨b, off + k, none⟩ = some (.int .i64 (gi t.ps k))) := fun k hk => by
  obtain ⟨b, off, e, hc⟩ := bw hP hk
  exact ⟨b, off, e, fun wr hu => hu.cell hc⟩
 have cn : Hid (∀ (wr : World), (∀ b, L b → wr.heap[b]? = W.heap[b]?) → wr.cell? ⟨Bq, 0, none⟩ = some (.func (.yield l) #[] #[]) ∧ wr.cell? ⟨Be, 0, none⟩ = some (.func (.func 169) #[] #[.pointer (some ⟨Bt, 0, none⟩), .pointer (some ⟨Be, 0, none⟩), .pointer (some ⟨Bn, 0, none⟩), .pointer (some ⟨Bq, 0, none⟩)])) := fun wr hk =>
  ⟨(World.cell?_of_block (a := ⟨Bq, 0, none⟩) (hk Bq YT)).trans hq, (World.cell?_of_block (a := ⟨Be, 0, none⟩) (hk Be YU)).trans he⟩
 have HNC : Hid (∃ nb no, np = some ⟨nb, no, none⟩ ∧ ∀ wr, Up w0 wr → wr.cell? ⟨nb, no + i, none⟩ = some (.string (gs t.ns i))) := by
  obtain ⟨nb, no, e, hc⟩ := cC KU (k := i) (by omega)
  exact ⟨nb, no, e, fun wr hu => hu.cell hc⟩
 have YW : Hid (∀ wr, Up w0 wr → Calls Tryz.prog 131 #[.slice mp names.length mc, .string (gs t.ns i)] wr fun e w' => e = .returned (.int .i64 (eR names (gs t.ns i))) ∧ wr = w') := fun wr hu => y9 Any wr _ names.length (gs names) (gs t.ns i) (av.keep KV (hu.kept _)) (by have := mV.le; omega)
 have ii1 : (0 : Int) ≤ (i : Int) := Int.natCast_nonneg _
 have ii2 : (i : Int) < (t.ns.length : Int) := by rw [htl]; exact Int.ofNat_lt.2 hi
 obtain ⟨c0, c1, c2⟩ := BK.out W (fun _ _ => rfl)
 have n64 : (t.ps.length : Int) ≤ 64 := by omega
 refine callsIn_of_wp Tryz.func169 rfl trivial ?_ rfl
 simp only [Tryz.ntmps169, List.size_toArray, List.length_cons, List.length_nil, Nat.reduceAdd, Nat.reduceSub, Array.replicate_succ, Array.replicate_zero, List.push_toArray, List.append_toArray, List.nil_append, List.cons_append]
 have HN := aa hN
 have kr := aa ih
 have HY := aa hY
 have HLQ := aa YT
 have wA := aa YU
 have xd := aa KU
 have lu := aa KV
 have HA := aa hA
 have fJ := aa mV
 clear hJ hU hL YT YU UM sL hq he hN ih hY hA Gn oh UN hP KU KV mV htl
 gi_wp2
 gi_loopw [8, 9, 10, 11, 12, 16] (fun out _ _ _ _ i' wr => ∃ (k : Nat) (ys : List El) (L' : Nat → Prop), k ≤ t.ps.length ∧ i' = .int .i64 k ∧ Hid (zI w0 J pre L W ((bG t.ps i k).flatMap (eV t)) (fH t names i k) ys L' out wr)) (fun _ _ _ _ _ i' _ => t.ps.length - (intOf i').toNat)
 case atStart => exact ⟨0, [], L, Nat.zero_le _, rfl, HJ0⟩
 case round =>
  obtain ⟨k, ys, L', hk, rfl, hS⟩ := hrel
  clear HJ0 c0 c1 c2
  obtain ⟨c0, c1, c2⟩ := BK.out wr hS.out.kept
  obtain ⟨cq, ce⟩ := cn.out wr hS.out.kept
  by_cases hlt : k < t.ps.length
  ·obtain ⟨pb, po, rfl, hpc⟩ := YV.out k hlt
   have hcell := hpc wr hS.out.up
   have OD := aa (kV t.ps i k)
   have dD : Hid (gi t.ps k = (i : Int) → i < k) := YK fJ.out.te hlt
   have k1 : (0 : Int) ≤ (k : Int) := Int.natCast_nonneg _
   have k2 : (k : Int) < (t.ps.length : Int) := Int.ofNat_lt.2 hlt
   have k3 : (k : Int) < 64 := by omega
   clear hpc
   have pU : Hid (∃ x, gi t.ps k = x) := ⟨_, rfl⟩
   by_cases hx : gi t.ps k = (i : Int)
   ·rw [hx] at hcell OD
    have hik := dD.out hx
    have s5 : Hid (bG t.ps i (k + 1) = bG t.ps i k ++ [k]) := by unfold Hid; rw [OD.out, if_pos ⟨hik, rfl⟩]
    have hkm : k ∈ bu t.ps i := bH.2 ⟨hlt, hik, hx⟩
    have hnl : (pre ++ ys).length + (eV t k).length ≤ N := by
     have h1 := HN.out
     have h2 := SN (eV t) (Ew t.ps i (k + 1) (n := t.ps.length) (by omega))
     rw [s5.out, List.flatMap_append, List.length_append] at h2
     have h3 : (ys.map (·.1)).length = _ := congrArg List.length hS.out.bV
     rw [yT t hi, List.length_append] at h1
     rw [List.length_map] at h3
     rw [List.length_append]
     have h4 : ((bG t.ps i t.ps.length).flatMap (eV t)).length = ((bu t.ps i).flatMap (eV t)).length := rfl
     simp only [List.flatMap_cons, List.flatMap_nil, List.append_nil] at h2
     omega
    have dO := aa (kr.out k hkm (m - 1) (pre ++ ys) L' wr hS.out.jj hS.out.up hS.out.bd (hS.out.sub _ HLQ.out) (hS.out.sub _ wA.out) (hS.out.sub _ aM.out) (hS.out.sub _ HLNN.out) (HREST.out wr hS.out.kept) cq ce hnl)
    have hm0 : 0 < (aN t names k).length := Hp fJ.out hlt
    have HM0 := aa hm0
    have sS : Hid ((aN t names k).length ≤ 32) := Nat.le_trans (ja _ _) fJ.out.le
    have kn : Hid ((fH t names i k).length ≤ 32 * k) := Ev fJ.out.le i k
    clear hx hik hkm hnl hm0
    gi_wp2
    refine ⟨trivial, fun h => (by cases h), ?_⟩
    refine dO.out.mono ?_
    rintro e W3 ⟨v2, KT, L2, rfl, hn2, hj2, aC, hs2, hk2, Cb, ML, ⟨p2, cc2, rfl⟩, YX⟩
    obtain ⟨b2, o2, rfl, _⟩ := bw YX HM0.out
    have UO := aa (hS.out.kid hn2 hj2 aC hs2 hk2 Cb ML)
    have UQ := aa YX
    clear hn2 hj2 aC hs2 hk2 Cb ML YX dO cq ce c0 c1 c2 hcell
    obtain ⟨i0, fP, hz0, hz1, hz2⟩ := info_parts Tryz.fU
    have rZ : W3.ownsRow W.heap.size 3 1 u8 (fH t names i k).length ((fH t names i k).map (Value.int .i64)) := by have h := UO.out.own; unfold ah at h; rwa [List.length_map] at h
    have Ht := aa rZ
    clear rZ
    gi_wp2_with (gi_at_builtin; refine wpListIn_append_own_at _ rfl _ _ 26 rfl W.heap.size 3 i0 (.int .i64 0) 1 8 Tryz.underlying26 fP hz0 hz1 hz2 rfl (by decide) _ _ _ rfl Ht.out ⟨b2, o2, none⟩ (aN t names k).length cc2 ((aN t names k).map (Value.int .i64)) rfl (by rw [List.length_map]; omega) (NJ UQ.out) (by simp [Value.oneCell']) (by have h1 := sS.out; have h2 := kn.out; unfold maxLen; omega) (by have h1 := sS.out; have h2 := kn.out; omega) UO.out.sz ?_; intro v4 w4 nt hg4 hnil4 UR)
    have rO : Hid (∃ L4, zI w0 J pre L W ((bG t.ps i (k + 1)).flatMap (eV t)) (fH t names i (k + 1)) (ys ++ KT) L4 v4 w4) := by
     have e1 : (bG t.ps i (k + 1)).flatMap (eV t) = (bG t.ps i k).flatMap (eV t) ++ eV t k := by rw [s5.out, List.flatMap_append]; simp
     have e2 : fH t names i (k + 1) = fH t names i k ++ aN t names k := by unfold fH; rw [s5.out, List.flatMap_append]; simp
     have g4 := UO.out.grow HA.out (Y := fH t names i k ++ aN t names k) (v' := v4) (w4 := w4) (by unfold ah; rw [List.length_map, List.length_append, List.map_append]; exact nt) hg4 (fun g hg => by
      rcases UR with e | e
      ·exact .inl (e ▸ hg)
      ·rw [e] at hg; injection hg with hg; exact .inr (by omega))
     rw [← e1, ← e2] at g4
     exact ⟨_, g4⟩
    clear nt hg4 hnil4 UR UO
    gi_wp2
    go_roundw
    case rel =>
     obtain ⟨L4, h4⟩ := rO.out
     exact ⟨k + 1, ys ++ KT, L4, by omega, by go_num, h4⟩
    case measure => simp [intOf]; omega
   ·generalize gi t.ps k = x at *
    have d1 : (x == (i : Int)) = false := by simpa using hx
    have d2 : (x != (i : Int)) = true := by simpa using hx
    have s5 : Hid (bG t.ps i (k + 1) = bG t.ps i k) := by unfold Hid; rw [OD.out, if_neg (fun e => hx e.2), List.append_nil]
    clear hx
    gi_wp2
    go_roundw
    case rel => exact ⟨k + 1, ys, L', by omega, by go_num, by
     have h := hS.out
     unfold Hid fH; rw [s5.out]; exact h⟩
    case measure => simp [intOf]; omega
  ·obtain rfl : k = t.ps.length := by omega
   have KW : Hid (bG t.ps i t.ps.length = bu t.ps i) := rfl
   obtain ⟨op, oc, rfl, hform⟩ := hS.out.own.form (n := (fH t names i t.ps.length).length) (by rw [List.length_map])
   clear hform cq ce hlt hk
   by_cases iI : bu t.ps i = []
   ·have hx0 : fH t names i t.ps.length = [] := by unfold fH; rw [KW.out, iI]; rfl
    have hz0 : (bG t.ps i t.ps.length).flatMap (eV t) = [] := by rw [KW.out, iI]; rfl
    rw [hx0, hz0] at hS
    rw [hx0]
    have zJ := aa (SH fJ.out hi iI)
    have Hu : Hid (eV t i = [] ++ if i = 0 then [] else [i]) := by unfold Hid; rw [yT t hi, iI]; rfl
    have SQ := cn
    obtain ⟨nb, no, rfl, hnc⟩ := HNC.out
    have c3 := hnc wr hS.out.up
    have iE := aa c0
    have dM := aa c1
    have lC := aa c2
    have YY := aa c3
    have HSS := hS
    have HIXw := aa (YW.out wr.drew (hS.out.up.trans (Up.drewN wr 1)))
    clear hx0 hz0 iI hnc c0 c1 c2 c3 YW BK cn YV
    generalize gs t.ns i = nm at *
    generalize eR names nm = fx at *
    simp only [List.length_nil]
    gi_wp2
    refine FK (by kernel_rfl) 9 (fun w' => w'.cell? ⟨Bn, 0, none⟩ = some (.slice mp names.length mc) ∧ w'.cell? ⟨Bt, 1, none⟩ = some (.slice (some ⟨nb, no, none⟩) t.ns.length nc) ∧ w'.cell? ⟨nb, no + i, none⟩ = some (.string nm)) ⟨lC.out, dM.out, YY.out⟩ (fun hS => ?_)
    simp only [List.size_toArray, List.length_cons, List.length_nil, Nat.reduceAdd, Array.replicate_succ, Array.replicate_zero, List.push_toArray, List.nil_append, List.cons_append]
    refine bh.take (i := 0) (v := ?Dr) rfl (by kernel_rfl) (fun _ _ _ h => h) (by rfl) (fun _ => rfl) (fun w hSw => ?pF) hS ?Ds
    case pF =>
     obtain ⟨q1, q2, q3⟩ := hSw
     go_simp
     try with_reducible rfl
    try simp only [Act.put, aj, aq, au]
    refine bh.take (i := 1) (v := ?Dt) rfl (by kernel_rfl) (fun _ _ _ h => h) (by rfl) (fun _ => rfl) (fun w hSw => ?pG) hS ?Du
    case pG =>
     obtain ⟨q1, q2, q3⟩ := hSw
     go_simp
     try with_reducible rfl
    try simp only [Act.put, aj, aq, au]
    refine bh.take (i := 2) (v := ?Dv) rfl (by kernel_rfl) (fun _ _ _ h => h) (by rfl) (fun _ => rfl) (fun w hSw => ?pH) hS ?Dw
    case pH =>
     obtain ⟨q1, q2, q3⟩ := hSw
     go_simp
     try with_reducible rfl
    try simp only [Act.put, aj, aq, au]
    refine bh.take (i := 3) (v := ?NU) rfl (by kernel_rfl) (fun _ _ _ h => h) (by rfl) (fun _ => rfl) (fun w hSw => ?xe) hS ?NV
    case xe =>
     obtain ⟨q1, q2, q3⟩ := hSw
     go_simp
     try with_reducible rfl
    try simp only [Act.put, aj, aq, au]
    refine bh.take (i := 4) (v := ?NW) rfl (by kernel_rfl) (fun _ _ _ h => h) (by rfl) (fun _ => rfl) (fun w hSw => ?xg) hS ?NX
    case xg =>
     obtain ⟨q1, q2, q3⟩ := hSw
     go_simp
     try with_reducible rfl
    try simp only [Act.put, aj, aq, au]
    refine bh.take (i := 5) (v := ?J1) rfl (by kernel_rfl) (fun _ _ _ h => h) (by rfl) (fun _ => rfl) (fun w hSw => ?uh) hS ?J2
    case uh =>
     obtain ⟨q1, q2, q3⟩ := hSw
     go_simp
     try with_reducible rfl
    try simp only [Act.put, aj, aq, au]
    refine bh.step (i := 6) rfl (by kernel_rfl) (fun K' hK => ?_)
    go_simp
    refine ⟨trivial, fun h => (by cases h), (callsIn_wide.2 HIXw.out).mono ?_⟩
    rintro e wd ⟨rfl, rfl⟩
    refine hK.out _ _ (fun _ => ⟨lC.out, dM.out, YY.out⟩) (fun hS => ?_)
    try simp only [aj, aq, au]
    refine bh.step (i := 7) rfl (by kernel_rfl) (fun K' hK => ?_)
    go_simp
    have fh := Up.alloc wr.drew (.cells #[.int .i64 fx] 3)
    have uE := SP wr.drew W.heap.size 3 (.int .i64 fx) HSS.out.sz
    refine hK.out _ _ (fun _ => ⟨fh.cell lC.out, fh.cell dM.out, fh.cell YY.out⟩) (fun hS => ?_)
    try simp only [aj, aq, au]
    refine bh.step (i := 8) rfl (by kernel_rfl) (fun K' hK => ?_)
    go_simp
    refine hK.out _ _ (aP (by kernel_rfl)) (fun hS => ?_)
    refine bh.done (by kernel_rfl) ?_
    have hud : Up wr (wr.alloc (.cells #[.int .i64 fx] 3)).drew := Up.trans (Up.drewN wr 1) fh
    have rT : Hid (∃ L5, zI w0 J pre L W [] [fx] ys L5 (.slice (some ⟨wr.heap.size, 0, none⟩) 1 1) (wr.alloc (.cells #[.int .i64 fx] 3)).drew) := ⟨_, HSS.out.grow HA.out (Y := [fx]) (w4 := (wr.alloc (.cells #[.int .i64 fx] 3)).drew) uE (Ap hud _) (fun g hg => .inr (by injection hg with hg; exact Nat.le_of_eq hg))⟩
    obtain ⟨L5, hs5⟩ := rT.out
    have rT := aa hs5
    have KX : Hid (nP [fx] = aN t names i) := by unfold Hid; rw [zJ.out]; unfold nP; simp
    have ou : (wr.drew.heap.size) = wr.heap.size := rfl
    try rw [ou]
    clear hS fh uE hud hs5 ou
    generalize (wr.alloc (.cells #[.int .i64 fx] 3)).drew = w5 at *
    have kB := aa (Pz W.heap.size w5 _ [fx] rT.out.own (by simp))
    gi_wp2
    first | refine ⟨trivial, fun h => (by cases h), ?_⟩ | refine ⟨fun h => (by cases h), ?_⟩
    refine (callsIn_wide.2 kB.out).mono ?_
    rintro e w6 ⟨rfl, PB, PC⟩
    have h6 := rT.out.grow HA.out PC PB (fun g hg => .inl hg)
    rw [KX.out] at h6
    obtain ⟨L6, PD⟩ : ∃ L6 : Nat → Prop, L6 = fun b => L5 b ∨ (w5.heap.size ≤ b ∧ b < w6.heap.size) := ⟨_, rfl⟩
    rw [← PD] at h6
    have cL := aa h6
    have iD : Hid (1 = (aN t names i).length) := by unfold Hid; rw [← KX.out, pM]; try rfl
    clear PB PC kB rT h6 PD
    by_cases fP : i = 0
    ·have x6 := aa fP
     have d0 : ((i : Int) == 0) = true := by subst fP; rfl
     clear fP
     gi_wp2
     rename_i hkk _ _ _ _
     refine ⟨fun f h => (by cases h), hkk _ _ ?_⟩
     gi_wp2
     exact ⟨rfl, .tuple #[(Value.slice (some ⟨wr.heap.size, 0, none⟩) 1 1), .bool true], by simp [results, Tryz.results169, go_sem], _, ys, L6, rfl, by rw [cL.out.bV, Hu.out, if_pos x6.out, List.append_nil], cL.out.jj, cL.out.up, cL.out.sz, cL.out.kept, cL.out.sub, cL.out.bd, ⟨some ⟨wr.heap.size, 0, none⟩, 1, by rw [← iD.out]⟩, cL.out.own.ints.sub fun _ _ _ => trivial⟩
    ·have x6 := aa fP
     have d0 : ((i : Int) == 0) = false := beq_eq_false_iff_ne.2 (by omega)
     have PE : J (pre ++ ys) (fun b => L6 b ∧ (Value.slice (some ⟨wr.heap.size, 0, none⟩) 1 1).ownBlock ≠ some b) w6 := HA.out _ L6 _ w6 w6 cL.out.jj ⟨rfl, rfl, rfl, Nat.le_refl _, fun _ _ _ => rfl, fun b hb => .inl ⟨hb.1, (cL.out.bd b hb.1).2⟩⟩
     have hin : af (fun b => ¬ (L6 b ∧ (Value.slice (some ⟨wr.heap.size, 0, none⟩) 1 1).ownBlock ≠ some b)) w6 (Value.slice (some ⟨wr.heap.size, 0, none⟩) 1 1) (aN t names i) := (tA cL.out.own.ints).sub fun b hb _ (h7 : _ ∧ _) => h7.2 hb
     have Et : Hr t names (i, (Value.slice (some ⟨wr.heap.size, 0, none⟩) 1 1)) (fun b => L6 b ∧ (Value.slice (some ⟨wr.heap.size, 0, none⟩) 1 1).ownBlock ≠ some b) w6 := ⟨hi, x6.out, some ⟨wr.heap.size, 0, none⟩, 1, by show (Value.slice (some ⟨wr.heap.size, 0, none⟩) 1 1) = _; rw [← iD.out], hin, fun g hg => by obtain ⟨c, h⟩ := ah.iP cL.out.own hg; exact ⟨c, _, h⟩⟩
     have oo : (pre ++ ys).length < N := by
      have h1 := HN.out
      have h2 := congrArg List.length cL.out.bV
      rw [Hu.out, if_neg x6.out, List.length_append, List.length_singleton] at h1
      rw [List.length_map] at h2
      rw [List.length_append]; omega
     obtain ⟨cq, ce⟩ := SQ.out w6 cL.out.kept
     obtain ⟨fn, tmps, assign, body, hy, hR⟩ := HY.out (m - 1) (pre ++ ys) (i, (Value.slice (some ⟨wr.heap.size, 0, none⟩) 1 1)) _ w6 PE Et cL.out.up (fun b hb => cL.out.bd b hb.1) oo
     have hne : Hid (∀ b, L b → (Value.slice (some ⟨wr.heap.size, 0, none⟩) 1 1).ownBlock ≠ some b) := fun b hb e => by
      have h1 := (ax cL.out.own e).1
      have h2 := cL.out.lb b hb
      omega
     simp only at hy
     clear fP PE Et oo hin
     gi_wp2
     first | refine ⟨trivial, fun h => (by cases h), ?_⟩ | refine ⟨fun h => (by cases h), ?_⟩
     refine hR.mono ?_
     rintro e W7 ⟨rfl, PF, jY, PG, PI⟩
     have H8 := aa (⟨PF, jY, PG, PI⟩ : _ ∧ _ ∧ _ ∧ _)
     clear PF jY PG PI hR
     gi_wp2
     exact ⟨rfl, .tuple #[(Value.slice (some ⟨wr.heap.size, 0, none⟩) 1 1), .bool true], by simp [results, Tryz.results169, go_sem], _, ys ++ [(i, (Value.slice (some ⟨wr.heap.size, 0, none⟩) 1 1))], (fun b => L6 b ∧ (Value.slice (some ⟨wr.heap.size, 0, none⟩) 1 1).ownBlock ≠ some b), rfl, by rw [List.map_append, cL.out.bV, Hu.out, if_neg x6.out]; rfl, by rw [← List.append_assoc]; exact H8.out.1, H8.out.2.1, Nat.le_trans cL.out.sz H8.out.2.2.1, fun b hb => (H8.out.2.2.2 b (.inl ⟨cL.out.sub b hb, hne.out b hb⟩)).trans (cL.out.kept b hb), fun b hb => ⟨cL.out.sub b hb, hne.out b hb⟩,
      fun b hb => (by have h1 := cL.out.bd b hb.1; have h2 := H8.out.2.2.1; omega), ⟨some ⟨wr.heap.size, 0, none⟩, 1, by rw [← iD.out]⟩, (av.keep (tA cL.out.own.ints) fun b hb _ => H8.out.2.2.2 b (.inr hb)).sub fun _ _ _ => trivial⟩
   ·have KX : Hid (nP (fH t names i t.ps.length) = aN t names i) := SI fJ.out hi iI
    have Hu : Hid (eV t i = (bG t.ps i t.ps.length).flatMap (eV t) ++ if i = 0 then [] else [i]) := yT t hi
    have kn : Hid ((fH t names i t.ps.length).length ≤ 32 * t.ps.length) := Ev fJ.out.le i _
    have hx0 : 0 < (fH t names i t.ps.length).length := by
     have h1 := KX.out
     have h2 := congrArg List.length h1
     rw [pM] at h2
     rw [h2]; exact Hp fJ.out hi
    have d3 : (((fH t names i t.ps.length).length : Int) == 0) = false := beq_eq_false_iff_ne.2 (by omega)
    have rT := hS
    obtain ⟨L5, hL5⟩ : ∃ L5 : Nat → Prop, L5 = L' := ⟨_, rfl⟩
    rw [← hL5] at rT
    have SQ := cn
    obtain ⟨w5, hw5⟩ : ∃ w5, w5 = wr := ⟨_, rfl⟩
    subst hw5
    clear iI hS hL5 c0 c1 c2 YW BK cn YV HNC
    have kB := aa (Pz W.heap.size w5 _ (fH t names i t.ps.length) rT.out.own (by have := kn.out; omega))
    generalize fH t names i t.ps.length = X at *
    gi_wp2
    first | refine ⟨trivial, fun h => (by cases h), ?_⟩ | refine ⟨fun h => (by cases h), ?_⟩
    refine (callsIn_wide.2 kB.out).mono ?_
    rintro e w6 ⟨rfl, PB, PC⟩
    have h6 := rT.out.grow HA.out PC PB (fun g hg => .inl hg)
    rw [KX.out] at h6
    obtain ⟨L6, PD⟩ : ∃ L6 : Nat → Prop, L6 = fun b => L5 b ∨ (w5.heap.size ≤ b ∧ b < w6.heap.size) := ⟨_, rfl⟩
    rw [← PD] at h6
    have cL := aa h6
    have iD : Hid (X.length = (aN t names i).length) := by unfold Hid; rw [← KX.out, pM]; try rfl
    clear PB PC kB rT h6 PD
    by_cases fP : i = 0
    ·have x6 := aa fP
     have d0 : ((i : Int) == 0) = true := by subst fP; rfl
     clear fP
     gi_wp2
     rename_i hkk _ _ _ _
     refine ⟨fun f h => (by cases h), hkk _ _ ?_⟩
     gi_wp2
     exact ⟨rfl, .tuple #[(Value.slice op X.length oc), .bool true], by simp [results, Tryz.results169, go_sem], _, ys, L6, rfl, by rw [cL.out.bV, Hu.out, if_pos x6.out, List.append_nil], cL.out.jj, cL.out.up, cL.out.sz, cL.out.kept, cL.out.sub, cL.out.bd, ⟨op, oc, by rw [← iD.out]⟩, cL.out.own.ints.sub fun _ _ _ => trivial⟩
    ·have x6 := aa fP
     have d0 : ((i : Int) == 0) = false := beq_eq_false_iff_ne.2 (by omega)
     have PE : J (pre ++ ys) (fun b => L6 b ∧ (Value.slice op X.length oc).ownBlock ≠ some b) w6 := HA.out _ L6 _ w6 w6 cL.out.jj ⟨rfl, rfl, rfl, Nat.le_refl _, fun _ _ _ => rfl, fun b hb => .inl ⟨hb.1, (cL.out.bd b hb.1).2⟩⟩
     have hin : af (fun b => ¬ (L6 b ∧ (Value.slice op X.length oc).ownBlock ≠ some b)) w6 (Value.slice op X.length oc) (aN t names i) := (tA cL.out.own.ints).sub fun b hb _ (h7 : _ ∧ _) => h7.2 hb
     have Et : Hr t names (i, (Value.slice op X.length oc)) (fun b => L6 b ∧ (Value.slice op X.length oc).ownBlock ≠ some b) w6 := ⟨hi, x6.out, op, oc, by show (Value.slice op X.length oc) = _; rw [← iD.out], hin, fun g hg => by obtain ⟨c, h⟩ := ah.iP cL.out.own hg; exact ⟨c, _, h⟩⟩
     have oo : (pre ++ ys).length < N := by
      have h1 := HN.out
      have h2 := congrArg List.length cL.out.bV
      rw [Hu.out, if_neg x6.out, List.length_append, List.length_singleton] at h1
      rw [List.length_map] at h2
      rw [List.length_append]; omega
     obtain ⟨cq, ce⟩ := SQ.out w6 cL.out.kept
     obtain ⟨fn, tmps, assign, body, hy, hR⟩ := HY.out (m - 1) (pre ++ ys) (i, (Value.slice op X.length oc)) _ w6 PE Et cL.out.up (fun b hb => cL.out.bd b hb.1) oo
     have hne : Hid (∀ b, L b → (Value.slice op X.length oc).ownBlock ≠ some b) := fun b hb e => by
      have h1 := (ax cL.out.own e).1
      have h2 := cL.out.lb b hb
      omega
     simp only at hy
     clear fP PE Et oo hin
     gi_wp2
     first | refine ⟨trivial, fun h => (by cases h), ?_⟩ | refine ⟨fun h => (by cases h), ?_⟩
     refine hR.mono ?_
     rintro e W7 ⟨rfl, PF, jY, PG, PI⟩
     have H8 := aa (⟨PF, jY, PG, PI⟩ : _ ∧ _ ∧ _ ∧ _)
     clear PF jY PG PI hR
     gi_wp2
     exact ⟨rfl, .tuple #[(Value.slice op X.length oc), .bool true], by simp [results, Tryz.results169, go_sem], _, ys ++ [(i, (Value.slice op X.length oc))], (fun b => L6 b ∧ (Value.slice op X.length oc).ownBlock ≠ some b), rfl, by rw [List.map_append, cL.out.bV, Hu.out, if_neg x6.out]; rfl, by rw [← List.append_assoc]; exact H8.out.1, H8.out.2.1, Nat.le_trans cL.out.sz H8.out.2.2.1, fun b hb => (H8.out.2.2.2 b (.inl ⟨cL.out.sub b hb, hne.out b hb⟩)).trans (cL.out.kept b hb), fun b hb => ⟨cL.out.sub b hb, hne.out b hb⟩,
      fun b hb => (by have h1 := cL.out.bd b hb.1; have h2 := H8.out.2.2.1; omega), ⟨op, oc, by rw [← iD.out]⟩, (av.keep (tA cL.out.own.ints) fun b hb _ => H8.out.2.2.2 b (.inr hb)).sub fun _ _ _ => trivial⟩
end
end Go.Proofs.YtpnmblnahjjmhaaGreat
