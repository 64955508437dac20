/- split.below: an iterator over a recursive closure that owns what it builds: one node. -/
import Derived.RangeFuncWrites
import Derived.Maps.OwnIn
import Derived.Test.YtpnmblnahjjmhaaGreatQ29
import Derived.Test.YtpnmblnahjjmhaaGreatQ8
import Derived.Test.YtpnmblnahjjmhaaGreatQ1
import Derived.Test.YtpnmblnahjjmhaaGreatQ19
import Derived.Test.YtpnmblnahjjmhaaGreatQ28
import Derived.Test.YtpnmblnahjjmhaaGreatQ9
import Derived.Test.YtpnmblnahjjmhaaGreatQ30
namespace Go.Proofs.YtpnmblnahjjmhaaGreat
set_option maxRecDepth 100000
open Go.RowKit Go.Shelf Go.Deep Go.Sort
theorem PC (base : Nat) (w1 : World) (v : Value) (xs : List Int) (ho : ay base 3 w1 v (xs.map (Value.int .i64))) (hlen : xs.length ≤ 1000000) :
  Calls Tryz.prog 87 #[v] w1 fun e w' => e = .returned (.tuple #[]) ∧ w1.grownBy w' v.ownBlock ∧ ay base 3 w' v ((oJ xs).map (Value.int .i64)) := by
 rcases ho.2 with ⟨rfl, h0⟩ | ⟨g, cap, cur, rfl, hg, hc, hn, hcm, hcs, ht⟩
 ·have hx : xs = [] := by cases xs with | nil => rfl | cons _ _ => simp at h0
  subst hx
  refine (AnyM.slices_Sort_int_none Tryz.sortZ none 0 w1).mono ?_
  rintro e w' ⟨rfl, rfl⟩
  exact ⟨rfl, ⟨rfl, rfl, rfl, Nat.le_refl _, fun _ _ _ => rfl⟩, by unfold oJ; simpa using ho⟩
 ·simp only [List.length_map] at hn ht ho ⊢
  refine (AnyM.slices_Sort_int Tryz.sortZ g 0 cap xs w1 (holds_of_blockI hc (by simpa using ht)) (Array.getElem?_eq_some_iff.1 hc).1 (by omega)).mono ?_
  rintro e w' ⟨rfl, n, os, rfl⟩
  refine ⟨rfl, grownBy_sortedI _, ?_⟩
  have h := ownsRow_sortedI (n := n) (os := os) (ss := xs) (ts := oJ xs) (qw xs) hg hc hn hcm (by simpa using hcs)
  unfold ay
  rw [List.length_map, qw]
  exact h
abbrev El := Nat × Value
def Hu (t : aJ) (names : List ByteArray) (x : El) (L : Nat → Prop) (W : World) : Prop := x.1 < t.ps.length ∧ x.1 ≠ 0 ∧ ∃ p c, x.2 = .slice p (aW t names x.1).length c ∧ an (fun b => ¬ L b) W x.2 (aW t names x.1) ∧ ∀ g, x.2.ownBlock = some g → ∃ c z, W.heap[g]? = some (Obj.cells c 3 z)
def gq (t : aJ) (names : List ByteArray) (i k : Nat) : List Int := (cA t.ps i k).flatMap (aW t names)
theorem EB {t : aJ} {names : List ByteArray} (hn : names.length ≤ 32) (i k : Nat) : (gq t names i k).length ≤ 32 * k := by
 have h : ∀ l : List Nat, (l.flatMap (aW t names)).length ≤ 32 * l.length := fun l => by
  induction l with
  | nil => simp
  | cons a l ih =>
   have h1 : (aW t names a).length ≤ names.length := jE _ _
   rw [List.flatMap_cons, List.length_append, List.length_cons]; omega
 have h1 := h (cA t.ps i k)
 have h2 := qi t.ps i k
 unfold gq; omega
section
variable (w0 : World) (t : aJ) (names : List ByteArray) (l Bt Be Bn Bq N : Nat) (J : List El → (Nat → Prop) → World → Prop)
def YO (pre : List El) (i : Nat) (L : Nat → Prop) (W : World) (e : Ending) (W' : World) : Prop :=
 ∃ (v : Value) (ys : List El) (L' : Nat → Prop), e = .returned (.tuple #[v, .bool true]) ∧ ys.map (·.1) = fI t i ∧ J (pre ++ ys) L' W' ∧ Up w0 W' ∧ W.heap.size ≤ W'.heap.size ∧ (∀ b, L b → W'.heap[b]? = W.heap[b]?) ∧ (∀ b, L b → L' b) ∧ (∀ b, L' b → w0.heap.size ≤ b ∧ b < W'.heap.size) ∧
  (∃ p c, v = .slice p (aW t names i).length c) ∧ an Any W' v (aW t names i)
def Hv (i : Nat) : Prop :=
 ∀ (m : Nat) (pre : List El) (L : Nat → Prop) (W : World), J pre L W → Up w0 W → (∀ b, L b → w0.heap.size ≤ b ∧ b < W.heap.size) → L Bq → L Be → L Bt → L Bn → (∃ (pp np mp : Option Addr) (pc nc mc : Nat), W.cell? ⟨Bt, 0, none⟩ = some (.slice pp t.ps.length pc) ∧ W.cell? ⟨Bt, 1, none⟩ = some (.slice np t.ns.length nc) ∧ W.cell? ⟨Bn, 0, none⟩ = some (.slice mp names.length mc) ∧ an Any w0 (.slice pp t.ps.length pc) t.ps ∧ aG Any w0 (.slice np t.ns.length nc) t.ns ∧ aG Any w0 (.slice mp names.length mc) names) →
  W.cell? ⟨Bq, 0, none⟩ = some (.func (.yield l) #[] #[]) → W.cell? ⟨Be, 0, none⟩ = some (.func (.func 169) #[] #[.pointer (some ⟨Bt, 0, none⟩), .pointer (some ⟨Be, 0, none⟩), .pointer (some ⟨Bn, 0, none⟩), .pointer (some ⟨Bq, 0, none⟩)]) →
  pre.length + (fI t i).length ≤ N →
  CallsIn Fence.wide m Tryz.prog 169 #[.int .i64 (i : Int), .pointer (some ⟨Bt, 0, none⟩), .pointer (some ⟨Be, 0, none⟩), .pointer (some ⟨Bn, 0, none⟩), .pointer (some ⟨Bq, 0, none⟩)] W (YO w0 t names J pre i L W)
structure zZ (pre : List El) (L : Nat → Prop) (W : World) (Z : List Nat) (X : List Int) (ys : List El) (L' : Nat → Prop) (out : Value) (wr : World) : Prop where
 cN : ys.map (·.1) = Z
 jj : J (pre ++ ys) L' wr
 up : Up w0 wr
 sz : W.heap.size ≤ wr.heap.size
 lb : ∀ b, L b → b < W.heap.size
 kept : ∀ b, L b → wr.heap[b]? = W.heap[b]?
 sub : ∀ b, L b → L' b
 bd : ∀ b, L' b → w0.heap.size ≤ b ∧ b < wr.heap.size
 own : ay W.heap.size 3 wr out (X.map (Value.int .i64))
 mine : ∀ g, out.ownBlock = some g → L' g
variable {w0 t names l Bt Be Bn Bq N J}
theorem tU {S : Nat → Prop} {w : World} {v : Value} {xs : List Int} (h : an S w v xs) : an (fun b => v.ownBlock = some b) w v xs := by
 obtain ⟨p, cap, rfl, hn, h⟩ := h
 exact ⟨p, cap, rfl, hn, h.imp id fun ⟨g, off, e, _, hc⟩ => ⟨g, off, e, by rw [e]; rfl, hc⟩⟩
theorem SM {α β : Type} (f : α → List β) {a b : List α} (h : a <+: b) : (a.flatMap f).length ≤ (b.flatMap f).length := by
 obtain ⟨c, rfl⟩ := h
 rw [List.flatMap_append, List.length_append]; omega
theorem EC (ps : List Int) (i k : Nat) : ∀ {n : Nat}, k ≤ n → cA ps i k <+: cA ps i n
 | 0, h => by rw [show k = 0 by omega]; exact List.prefix_refl _
 | n + 1, h => by
  by_cases e : k = n + 1
  ·rw [e]; exact List.prefix_refl _
  ·refine (EC ps i k (n := n) (by omega)).trans ?_
   rw [lW]; exact List.prefix_append _ _
theorem zZ.grow (hA : KM J) {pre : List El} {L : Nat → Prop} {W : World} {Z : List Nat} {X Y : List Int} {ys : List El} {L' : Nat → Prop} {out : Value} {wr : World} (h : zZ w0 J pre L W Z X ys L' out wr) {v' : Value} {w4 : World}
  (ho : ay W.heap.size 3 w4 v' (Y.map (Value.int .i64))) (hg : wr.grownBy w4 out.ownBlock) (hb : ∀ g, v'.ownBlock = some g → out.ownBlock = some g ∨ (wr.heap.size ≤ g)) :
  zZ w0 J pre L W Z Y ys (fun b => L' b ∨ (wr.heap.size ≤ b ∧ b < w4.heap.size)) v' w4 := by
 have hw0 := h.up.size
 have hmo : ∀ b, out.ownBlock = some b → W.heap.size ≤ b := fun b hb => (aD h.own hb).1
 refine ⟨h.cN, hA _ L' _ wr w4 h.jj ⟨hg.os, hg.tape, hg.output, hg.size, fun b hb hn => hg.block b hb fun e => hn (h.mine b e.symm), fun b hb => hb.imp (fun e => ⟨e, (h.bd b e).2⟩) id⟩, Below.grown h.up hg hw0 fun k hk => (h.bd k (h.mine k hk)).1, Nat.le_trans h.sz hg.size, h.lb,
  fun b hb => (hg.block b (Nat.lt_of_lt_of_le (h.lb b hb) h.sz) fun e => ?_).trans (h.kept b hb), fun b hb => .inl (h.sub b hb), fun b hb => ?_, ho, fun g hg' => ?_⟩
 ·have h1 := hmo b e.symm
  have h2 := h.lb b hb
  omega
 ·have := hg.size
  rcases hb with hb | hb
  ·have := h.bd b hb; omega
  ·omega
 ·rcases hb g hg' with e | e
  ·exact .inl (h.mine g e)
  ·exact .inr ⟨e, (aD ho hg').2⟩
theorem zZ.bF {pre : List El} {L : Nat → Prop} {W : World} {Z : List Nat} {X : List Int} {ys : List El} {L' : Nat → Prop} {out : Value} {wr : World} (h : zZ w0 J pre L W Z X ys L' out wr) {KV : List El} {L2 : Nat → Prop} {W3 : World} {Z2 : List Nat}
  (hn2 : KV.map (·.1) = Z2) (hj2 : J (pre ++ ys ++ KV) L2 W3) (aL : Up w0 W3) (hs2 : wr.heap.size ≤ W3.heap.size) (hk2 : ∀ b, L' b → W3.heap[b]? = wr.heap[b]?) (Cm : ∀ b, L' b → L2 b) (MN : ∀ b, L2 b → w0.heap.size ≤ b ∧ b < W3.heap.size) :
  zZ w0 J pre L W (Z ++ Z2) X (ys ++ KV) L2 out W3 :=
 ⟨by rw [List.map_append, h.cN, hn2], by rw [← List.append_assoc]; exact hj2, aL, Nat.le_trans h.sz hs2, h.lb, fun b hb => (hk2 b (h.sub b hb)).trans (h.kept b hb), fun b hb => Cm b (h.sub b hb), MN, h.own.vT fun b hb => hk2 b (h.mine b hb), fun g hg => Cm g (h.mine g hg)⟩
theorem SN (W : World) (base : Nat) (e : TypeId) (u : Value) (h : base ≤ W.heap.size) : ay base e (W.alloc (.cells #[u] e)) (.slice (some ⟨W.heap.size, 0, none⟩) 1 1) [u] :=
 ⟨rfl, .inr ⟨W.heap.size, 1, #[u], rfl, h, blk_alloc_new W _, Nat.le_refl _, by decide, rfl, rfl⟩⟩
theorem AL {W W' : World} (h : Up W W') (row : Option Nat) : W.grownBy W' row := ⟨h.os, h.tape, h.output, h.size, fun j hj _ => Below.block h j hj⟩
set_option maxHeartbeats 2000000 in
theorem PD (nS : iU t names) (hA : KM J)
  (hY : ∀ m pre x L W1, J pre L W1 → Hu t names x L W1 → Up w0 W1 → (∀ b, L b → w0.heap.size ≤ b ∧ b < W1.heap.size) → pre.length < N → YieldAt Fence.wide m Tryz.prog l #[x.2] W1 fun e W' =>
   e = .returned (.bool true) ∧ J (pre ++ [x]) L W' ∧ Up w0 W' ∧ W1.heap.size ≤ W'.heap.size ∧ ∀ b, (L b ∨ x.2.ownBlock = some b) → W'.heap[b]? = W1.heap[b]?)
  {i : Nat} (hi : i < t.ps.length) (ih : ∀ c ∈ bO t.ps i, Hv w0 t names l Bt Be Bn Bq N J c) : Hv w0 t names l Bt Be Bn Bq N J i := by
 intro m pre L W hJ hU hL YP YQ UK tj vf hq he hN
 obtain ⟨pp, np, mp, pc, nc, mc, Gs, o5, UL, hP, KW, KX⟩ := vf
 obtain ⟨xy, ht64, htl, _, _⟩ := aP nS.te
 have HJ0 : Hid (zZ w0 J pre L W ((cA t.ps i 0).flatMap (fI t)) (gq t names i 0) [] L (.slice none 0 0) W) := ⟨rfl, by rw [List.append_nil]; exact hJ, hU, Nat.le_refl _, fun b hb => (hL b hb).2, fun _ _ => rfl, fun _ h => h, hL, ay.nil _ _ _, fun g hg => by cases hg⟩
 have BV : Hid (∀ (wr : World), (∀ b, L b → wr.heap[b]? = W.heap[b]?) → wr.cell? ⟨Bt, 0, none⟩ = some (.slice pp t.ps.length pc) ∧ wr.cell? ⟨Bt, 1, none⟩ = some (.slice np t.ns.length nc) ∧ wr.cell? ⟨Bn, 0, none⟩ = some (.slice mp names.length mc)) := fun wr hk => ⟨(World.cell?_of_block (a := ⟨Bt, 0, none⟩) (hk Bt UK)).trans Gs, (World.cell?_of_block (a := ⟨Bt, 1, none⟩) (hk Bt UK)).trans o5, (World.cell?_of_block (a := ⟨Bn, 0, none⟩) (hk Bn tj)).trans UL⟩
 have HREST : Hid (∀ (wr : World), (∀ b, L b → wr.heap[b]? = W.heap[b]?) → ∃ (pp np mp : Option Addr) (pc nc mc : Nat), wr.cell? ⟨Bt, 0, none⟩ = some (.slice pp t.ps.length pc) ∧ wr.cell? ⟨Bt, 1, none⟩ = some (.slice np t.ns.length nc) ∧ wr.cell? ⟨Bn, 0, none⟩ = some (.slice mp names.length mc) ∧ an Any w0 (.slice pp t.ps.length pc) t.ps ∧ aG Any w0 (.slice np t.ns.length nc) t.ns ∧ aG Any w0 (.slice mp names.length mc) names) := fun wr hk => by
  obtain ⟨q1, q2, q3⟩ := BV.out wr hk
  exact ⟨_, _, _, _, _, _, q1, q2, q3, hP, KW, KX⟩
 have aU := ag UK
 have HLNN := ag tj
 have YS : Hid (∀ k, k < t.ps.length → ∃ b off, pp = some ⟨b, off, none⟩ ∧ ∀ wr, Up w0 wr → wr.cell? ⟨b, off + k, none⟩ = some (.int .i64 (gi t.ps k))) := fun k hk => by
  obtain ⟨b, off, e, hc⟩ := bV hP hk
  exact ⟨b, off, e, fun wr hu => hu.cell hc⟩
 have cU : Hid (∀ (wr : World), (∀ b, L b → wr.heap[b]? = W.heap[b]?) → wr.cell? ⟨Bq, 0, none⟩ = some (.func (.yield l) #[] #[]) ∧ wr.cell? ⟨Be, 0, none⟩ = some (.func (.func 169) #[] #[.pointer (some ⟨Bt, 0, none⟩), .pointer (some ⟨Be, 0, none⟩), .pointer (some ⟨Bn, 0, none⟩), .pointer (some ⟨Bq, 0, none⟩)])) := fun wr hk =>
  ⟨(World.cell?_of_block (a := ⟨Bq, 0, none⟩) (hk Bq YP)).trans hq, (World.cell?_of_block (a := ⟨Be, 0, none⟩) (hk Be YQ)).trans he⟩
 have HNC : Hid (∃ nb no, np = some ⟨nb, no, none⟩ ∧ ∀ wr, Up w0 wr → wr.cell? ⟨nb, no + i, none⟩ = some (.string (gs t.ns i))) := by
  obtain ⟨nb, no, e, hc⟩ := dh KW (k := i) (by omega)
  exact ⟨nb, no, e, fun wr hu => hu.cell hc⟩
 have YT : Hid (∀ wr, Up w0 wr → Calls Tryz.prog 131 #[.slice mp names.length mc, .string (gs t.ns i)] wr fun e w' => e = .returned (.int .i64 (fG names (gs t.ns i))) ∧ wr = w') := fun wr hu => zu Any wr _ names.length (gs names) (gs t.ns i) (aC.keep KX (hu.kept _)) (by have := nS.le; omega)
 have ii1 : (0 : Int) ≤ (i : Int) := Int.natCast_nonneg _
 have ii2 : (i : Int) < (t.ns.length : Int) := by rw [htl]; exact Int.ofNat_lt.2 hi
 obtain ⟨c0, c1, c2⟩ := BV.out W (fun _ _ => rfl)
 have n64 : (t.ps.length : Int) ≤ 64 := by omega
 refine callsIn_of_wp Tryz.func169 rfl trivial ?_ rfl
 simp only [Tryz.ntmps169, List.size_toArray, List.length_cons, List.length_nil, Nat.reduceAdd, Nat.reduceSub, Array.replicate_succ, Array.replicate_zero, List.push_toArray, List.append_toArray, List.nil_append, List.cons_append]
 have HN := ag hN
 have k7 := ag ih
 have HY := ag hY
 have HLQ := ag YP
 have wO := ag YQ
 have xG := ag KW
 have mz := ag KX
 have HA := ag hA
 have gw := ag nS
 clear hJ hU hL YP YQ UK tj hq he hN ih hY hA Gs o5 UL hP KW KX nS htl
 cD
 Aq [8, 9, 10, 11, 12, 16] (fun out _ _ _ _ i' wr => ∃ (k : Nat) (ys : List El) (L' : Nat → Prop), k ≤ t.ps.length ∧ i' = .int .i64 k ∧ Hid (zZ w0 J pre L W ((cA t.ps i k).flatMap (fI t)) (gq t names i k) ys L' out wr)) (fun _ _ _ _ _ i' _ => t.ps.length - (intOf i').toNat)
 case atStart => exact ⟨0, [], L, Nat.zero_le _, rfl, HJ0⟩
 case round =>
  obtain ⟨k, ys, L', hk, rfl, hS⟩ := bE
  clear HJ0 c0 c1 c2
  obtain ⟨c0, c1, c2⟩ := BV.out wr hS.out.kept
  obtain ⟨cq, ce⟩ := cU.out wr hS.out.kept
  by_cases hlt : k < t.ps.length
  ·obtain ⟨pb, po, rfl, hpc⟩ := YS.out k hlt
   have hcell := hpc wr hS.out.up
   have OJ := ag (lW t.ps i k)
   have ew : Hid (gi t.ps k = (i : Int) → i < k) := YH gw.out.te hlt
   have k1 : (0 : Int) ≤ (k : Int) := Int.natCast_nonneg _
   have k2 : (k : Int) < (t.ps.length : Int) := Int.ofNat_lt.2 hlt
   have k3 : (k : Int) < 64 := by omega
   clear hpc
   have qB : Hid (∃ x, gi t.ps k = x) := ⟨_, rfl⟩
   by_cases hx : gi t.ps k = (i : Int)
   ·rw [hx] at hcell OJ
    have hik := ew.out hx
    have tI : Hid (cA t.ps i (k + 1) = cA t.ps i k ++ [k]) := by unfold Hid; rw [OJ.out, if_pos ⟨hik, rfl⟩]
    have hkm : k ∈ bO t.ps i := cC.2 ⟨hlt, hik, hx⟩
    have hnl : (pre ++ ys).length + (fI t k).length ≤ N := by
     have h1 := HN.out
     have h2 := SM (fI t) (EC t.ps i (k + 1) (n := t.ps.length) (by omega))
     rw [tI.out, List.flatMap_append, List.length_append] at h2
     have h3 : (ys.map (·.1)).length = _ := congrArg List.length hS.out.cN
     rw [zg t hi, List.length_append] at h1
     rw [List.length_map] at h3
     rw [List.length_append]
     have h4 : ((cA t.ps i t.ps.length).flatMap (fI t)).length = ((bO t.ps i).flatMap (fI t)).length := rfl
     simp only [List.flatMap_cons, List.flatMap_nil, List.append_nil] at h2
     omega
    have eM := ag (k7.out k hkm (m - 1) (pre ++ ys) L' wr hS.out.jj hS.out.up hS.out.bd (hS.out.sub _ HLQ.out) (hS.out.sub _ wO.out) (hS.out.sub _ aU.out) (hS.out.sub _ HLNN.out) (HREST.out wr hS.out.kept) cq ce hnl)
    have hm0 : 0 < (aW t names k).length := Hs gw.out hlt
    have HM0 := ag hm0
    have tA : Hid ((aW t names k).length ≤ 32) := Nat.le_trans (jE _ _) gw.out.le
    have kZ : Hid ((gq t names i k).length ≤ 32 * k) := EB gw.out.le i k
    clear hx hik hkm hnl hm0
    cD
    refine ⟨trivial, fun h => (by cases h), ?_⟩
    refine eM.out.mono ?_
    rintro e W3 ⟨v2, KV, L2, rfl, hn2, hj2, aL, hs2, hk2, Cm, MN, ⟨p2, cc2, rfl⟩, YU⟩
    obtain ⟨b2, o2, rfl, _⟩ := bV YU HM0.out
    have UM := ag (hS.out.bF hn2 hj2 aL hs2 hk2 Cm MN)
    have UN := ag YU
    clear hn2 hj2 aL hs2 hk2 Cm MN YU eM cq ce c0 c1 c2 hcell
    obtain ⟨i0, gC, tE, hz1, iR⟩ := info_parts Tryz.gH
    have sN : W3.ownsRow W.heap.size 3 1 u8 (gq t names i k).length ((gq t names i k).map (Value.int .i64)) := by have h := UM.out.own; unfold ay at h; rwa [List.length_map] at h
    have Hw := ag sN
    clear sN
    bf (qJ; refine wpListIn_append_own_at _ rfl _ _ 26 rfl W.heap.size 3 i0 (.int .i64 0) 1 8 Tryz.underlying26 gC tE hz1 iR rfl (by decide) _ _ _ rfl Hw.out ⟨b2, o2, none⟩ (aW t names k).length cc2 ((aW t names k).map (Value.int .i64)) rfl (by rw [List.length_map]; omega) (NL UN.out) (by simp [Value.oneCell']) (by have h1 := tA.out; have h2 := kZ.out; unfold maxLen; omega) (by have h1 := tA.out; have h2 := kZ.out; omega) UM.out.sz ?_; intro v4 w4 oe hg4 hnil4 UO)
    have sC : Hid (∃ L4, zZ w0 J pre L W ((cA t.ps i (k + 1)).flatMap (fI t)) (gq t names i (k + 1)) (ys ++ KV) L4 v4 w4) := by
     have e1 : (cA t.ps i (k + 1)).flatMap (fI t) = (cA t.ps i k).flatMap (fI t) ++ fI t k := by rw [tI.out, List.flatMap_append]; simp
     have e2 : gq t names i (k + 1) = gq t names i k ++ aW t names k := by unfold gq; rw [tI.out, List.flatMap_append]; simp
     have g4 := UM.out.grow HA.out (Y := gq t names i k ++ aW t names k) (v' := v4) (w4 := w4) (by unfold ay; rw [List.length_map, List.length_append, List.map_append]; exact oe) hg4 (fun g hg => by
      rcases UO with e | e
      ·exact .inl (e ▸ hg)
      ·rw [e] at hg; injection hg with hg; exact .inr (by omega))
     rw [← e1, ← e2] at g4
     exact ⟨_, g4⟩
    clear oe hg4 hnil4 UO UM
    cD
    aF
    case rel =>
     obtain ⟨L4, h4⟩ := sC.out
     exact ⟨k + 1, ys ++ KV, L4, by omega, by aH, h4⟩
    case measure => simp [intOf]; omega
   ·generalize gi t.ps k = x at *
    have d1 : (x == (i : Int)) = false := by simpa using hx
    have d2 : (x != (i : Int)) = true := by simpa using hx
    have tI : Hid (cA t.ps i (k + 1) = cA t.ps i k) := by unfold Hid; rw [OJ.out, if_neg (fun e => hx e.2), List.append_nil]
    clear hx
    cD
    aF
    case rel => exact ⟨k + 1, ys, L', by omega, by aH, by
     have h := hS.out
     unfold Hid gq; rw [tI.out]; exact h⟩
    case measure => simp [intOf]; omega
  ·obtain rfl : k = t.ps.length := by omega
   have KY : Hid (cA t.ps i t.ps.length = bO t.ps i) := rfl
   obtain ⟨op, oc, rfl, hform⟩ := hS.out.own.form (n := (gq t names i t.ps.length).length) (by rw [List.length_map])
   clear hform cq ce hlt hk
   by_cases jf : bO t.ps i = []
   ·have hx0 : gq t names i t.ps.length = [] := by unfold gq; rw [KY.out, jf]; rfl
    have tE : (cA t.ps i t.ps.length).flatMap (fI t) = [] := by rw [KY.out, jf]; rfl
    rw [hx0, tE] at hS
    rw [hx0]
    have z6 := ag (SG gw.out hi jf)
    have Hx : Hid (fI t i = [] ++ if i = 0 then [] else [i]) := by unfold Hid; rw [zg t hi, jf]; rfl
    have SO := cU
    obtain ⟨nb, no, rfl, hnc⟩ := HNC.out
    have c3 := hnc wr hS.out.up
    have iZ := ag c0
    have eH := ag c1
    have mC := ag c2
    have YV := ag c3
    have HSS := hS
    have HIXw := ag (YT.out wr.drew (hS.out.up.trans (Up.drewN wr 1)))
    clear hx0 tE jf hnc c0 c1 c2 c3 YT BV cU YS
    generalize gs t.ns i = nm at *
    generalize fG names nm = fx at *
    simp only [List.length_nil]
    cD
    refine FO (by af) 9 (fun w' => w'.cell? ⟨Bn, 0, none⟩ = some (.slice mp names.length mc) ∧ w'.cell? ⟨Bt, 1, none⟩ = some (.slice (some ⟨nb, no, none⟩) t.ns.length nc) ∧ w'.cell? ⟨nb, no + i, none⟩ = some (.string nm)) ⟨mC.out, eH.out, YV.out⟩ (fun hS => ?_)
    simp only [List.size_toArray, List.length_cons, List.length_nil, Nat.reduceAdd, Array.replicate_succ, Array.replicate_zero, List.push_toArray, List.nil_append, List.cons_append]
    refine bL.take (i := 0) (v := ?DB) rfl (by af) (fun _ _ _ h => h) (by rfl) (fun _ => rfl) (fun w av => ?qm) hS ?DC
    case qm =>
     obtain ⟨q1, q2, q3⟩ := av
     aj
     try ah rfl
    try simp only [Act.put, az, aA, aB]
    refine bL.take (i := 1) (v := ?DD) rfl (by af) (fun _ _ _ h => h) (by rfl) (fun _ => rfl) (fun w av => ?qn) hS ?DE
    case qn =>
     obtain ⟨q1, q2, q3⟩ := av
     aj
     try ah rfl
    try simp only [Act.put, az, aA, aB]
    refine bL.take (i := 2) (v := ?DF) rfl (by af) (fun _ _ _ h => h) (by rfl) (fun _ => rfl) (fun w av => ?qq) hS ?DG
    case qq =>
     obtain ⟨q1, q2, q3⟩ := av
     aj
     try ah rfl
    try simp only [Act.put, az, aA, aB]
    refine bL.take (i := 3) (v := ?NX) rfl (by af) (fun _ _ _ h => h) (by rfl) (fun _ => rfl) (fun w av => ?xH) hS ?NY
    case xH =>
     obtain ⟨q1, q2, q3⟩ := av
     aj
     try ah rfl
    try simp only [Act.put, az, aA, aB]
    refine bL.take (i := 4) (v := ?NZ) rfl (by af) (fun _ _ _ h => h) (by rfl) (fun _ => rfl) (fun w av => ?xI) hS ?N9
    case xI =>
     obtain ⟨q1, q2, q3⟩ := av
     aj
     try ah rfl
    try simp only [Act.put, az, aA, aB]
    refine bL.take (i := 5) (v := ?J2) rfl (by af) (fun _ _ _ h => h) (by rfl) (fun _ => rfl) (fun w av => ?uI) hS ?J3
    case uI =>
     obtain ⟨q1, q2, q3⟩ := av
     aj
     try ah rfl
    try simp only [Act.put, az, aA, aB]
    refine bL.step (i := 6) rfl (by af) (fun K' hK => ?_)
    aj
    refine ⟨trivial, fun h => (by cases h), (callsIn_wide.2 HIXw.out).mono ?_⟩
    rintro e wd ⟨rfl, rfl⟩
    refine hK.out _ _ (fun _ => ⟨mC.out, eH.out, YV.out⟩) (fun hS => ?_)
    try simp only [az, aA, aB]
    refine bL.step (i := 7) rfl (by af) (fun K' hK => ?_)
    aj
    have fS := Up.alloc wr.drew (.cells #[.int .i64 fx] 3)
    have u0 := SN wr.drew W.heap.size 3 (.int .i64 fx) HSS.out.sz
    refine hK.out _ _ (fun _ => ⟨fS.cell mC.out, fS.cell eH.out, fS.cell YV.out⟩) (fun hS => ?_)
    try simp only [az, aA, aB]
    refine bL.step (i := 8) rfl (by af) (fun K' hK => ?_)
    aj
    refine hK.out _ _ (bh (by af)) (fun hS => ?_)
    refine bL.done (by af) ?_
    have hud : Up wr (wr.alloc (.cells #[.int .i64 fx] 3)).drew := Up.trans (Up.drewN wr 1) fS
    have sH : Hid (∃ L5, zZ w0 J pre L W [] [fx] ys L5 (.slice (some ⟨wr.heap.size, 0, none⟩) 1 1) (wr.alloc (.cells #[.int .i64 fx] 3)).drew) := ⟨_, HSS.out.grow HA.out (Y := [fx]) (w4 := (wr.alloc (.cells #[.int .i64 fx] 3)).drew) u0 (AL hud _) (fun g hg => .inr (by injection hg with hg; exact Nat.le_of_eq hg))⟩
    obtain ⟨L5, hs5⟩ := sH.out
    have sH := ag hs5
    have KZ : Hid (oJ [fx] = aW t names i) := by unfold Hid; rw [z6.out]; unfold oJ; simp
    have o7 : (wr.drew.heap.size) = wr.heap.size := rfl
    try rw [o7]
    clear hS fS u0 hud hs5 o7
    generalize (wr.alloc (.cells #[.int .i64 fx] 3)).drew = w5 at *
    have lz := ag (PC W.heap.size w5 _ [fx] sH.out.own (by simp))
    cD
    first | refine ⟨trivial, fun h => (by cases h), ?_⟩ | refine ⟨fun h => (by cases h), ?_⟩
    refine (callsIn_wide.2 lz.out).mono ?_
    rintro e w6 ⟨rfl, PE, PF⟩
    have h6 := sH.out.grow HA.out PF PE (fun g hg => .inl hg)
    rw [KZ.out] at h6
    obtain ⟨L6, PG⟩ : ∃ L6 : Nat → Prop, L6 = fun b => L5 b ∨ (w5.heap.size ≤ b ∧ b < w6.heap.size) := ⟨_, rfl⟩
    rw [← PG] at h6
    have dA := ag h6
    have iY : Hid (1 = (aW t names i).length) := by unfold Hid; rw [← KZ.out, qw]; try rfl
    clear PE PF lz sH h6 PG
    by_cases gC : i = 0
    ·have yy := ag gC
     have d0 : ((i : Int) == 0) = true := by subst gC; rfl
     clear gC
     cD
     rename_i hkk _ _ _ _
     refine ⟨fun f h => (by cases h), hkk _ _ ?_⟩
     cD
     exact ⟨rfl, .tuple #[(Value.slice (some ⟨wr.heap.size, 0, none⟩) 1 1), .bool true], by simp [results, Tryz.results169, go_sem], _, ys, L6, rfl, by rw [dA.out.cN, Hx.out, if_pos yy.out, List.append_nil], dA.out.jj, dA.out.up, dA.out.sz, dA.out.kept, dA.out.sub, dA.out.bd, ⟨some ⟨wr.heap.size, 0, none⟩, 1, by rw [← iY.out]⟩, dA.out.own.ints.sub fun _ _ _ => trivial⟩
    ·have yy := ag gC
     have d0 : ((i : Int) == 0) = false := beq_eq_false_iff_ne.2 (by omega)
     have PI : J (pre ++ ys) (fun b => L6 b ∧ (Value.slice (some ⟨wr.heap.size, 0, none⟩) 1 1).ownBlock ≠ some b) w6 := HA.out _ L6 _ w6 w6 dA.out.jj ⟨rfl, rfl, rfl, Nat.le_refl _, fun _ _ _ => rfl, fun b hb => .inl ⟨hb.1, (dA.out.bd b hb.1).2⟩⟩
     have hin : an (fun b => ¬ (L6 b ∧ (Value.slice (some ⟨wr.heap.size, 0, none⟩) 1 1).ownBlock ≠ some b)) w6 (Value.slice (some ⟨wr.heap.size, 0, none⟩) 1 1) (aW t names i) := (tU dA.out.own.ints).sub fun b hb _ (h7 : _ ∧ _) => h7.2 hb
     have Ez : Hu t names (i, (Value.slice (some ⟨wr.heap.size, 0, none⟩) 1 1)) (fun b => L6 b ∧ (Value.slice (some ⟨wr.heap.size, 0, none⟩) 1 1).ownBlock ≠ some b) w6 := ⟨hi, yy.out, some ⟨wr.heap.size, 0, none⟩, 1, by show (Value.slice (some ⟨wr.heap.size, 0, none⟩) 1 1) = _; rw [← iY.out], hin, fun g hg => by obtain ⟨c, h⟩ := ay.jr dA.out.own hg; exact ⟨c, _, h⟩⟩
     have o6 : (pre ++ ys).length < N := by
      have h1 := HN.out
      have h2 := congrArg List.length dA.out.cN
      rw [Hx.out, if_neg yy.out, List.length_append, List.length_singleton] at h1
      rw [List.length_map] at h2
      rw [List.length_append]; omega
     obtain ⟨cq, ce⟩ := SO.out w6 dA.out.kept
     obtain ⟨fn, tmps, assign, body, hy, hR⟩ := HY.out (m - 1) (pre ++ ys) (i, (Value.slice (some ⟨wr.heap.size, 0, none⟩) 1 1)) _ w6 PI Ez dA.out.up (fun b hb => dA.out.bd b hb.1) o6
     have hne : Hid (∀ b, L b → (Value.slice (some ⟨wr.heap.size, 0, none⟩) 1 1).ownBlock ≠ some b) := fun b hb e => by
      have h1 := (aD dA.out.own e).1
      have h2 := dA.out.lb b hb
      omega
     simp only at hy
     clear gC PI Ez o6 hin
     cD
     first | refine ⟨trivial, fun h => (by cases h), ?_⟩ | refine ⟨fun h => (by cases h), ?_⟩
     refine hR.mono ?_
     rintro e W7 ⟨rfl, PJ, kS, PK, PL⟩
     have H8 := ag (⟨PJ, kS, PK, PL⟩ : _ ∧ _ ∧ _ ∧ _)
     clear PJ kS PK PL hR
     cD
     exact ⟨rfl, .tuple #[(Value.slice (some ⟨wr.heap.size, 0, none⟩) 1 1), .bool true], by simp [results, Tryz.results169, go_sem], _, ys ++ [(i, (Value.slice (some ⟨wr.heap.size, 0, none⟩) 1 1))], (fun b => L6 b ∧ (Value.slice (some ⟨wr.heap.size, 0, none⟩) 1 1).ownBlock ≠ some b), rfl, by rw [List.map_append, dA.out.cN, Hx.out, if_neg yy.out]; rfl, by rw [← List.append_assoc]; exact H8.out.1, H8.out.2.1, Nat.le_trans dA.out.sz H8.out.2.2.1, fun b hb => (H8.out.2.2.2 b (.inl ⟨dA.out.sub b hb, hne.out b hb⟩)).trans (dA.out.kept b hb), fun b hb => ⟨dA.out.sub b hb, hne.out b hb⟩,
      fun b hb => (by have h1 := dA.out.bd b hb.1; have h2 := H8.out.2.2.1; omega), ⟨some ⟨wr.heap.size, 0, none⟩, 1, by rw [← iY.out]⟩, (aC.keep (tU dA.out.own.ints) fun b hb _ => H8.out.2.2.2 b (.inr hb)).sub fun _ _ _ => trivial⟩
   ·have KZ : Hid (oJ (gq t names i t.ps.length) = aW t names i) := SH gw.out hi jf
    have Hx : Hid (fI t i = (cA t.ps i t.ps.length).flatMap (fI t) ++ if i = 0 then [] else [i]) := zg t hi
    have kZ : Hid ((gq t names i t.ps.length).length ≤ 32 * t.ps.length) := EB gw.out.le i _
    have hx0 : 0 < (gq t names i t.ps.length).length := by
     have h1 := KZ.out
     have h2 := congrArg List.length h1
     rw [qw] at h2
     rw [h2]; exact Hs gw.out hi
    have d3 : (((gq t names i t.ps.length).length : Int) == 0) = false := beq_eq_false_iff_ne.2 (by omega)
    have sH := hS
    obtain ⟨L5, hL5⟩ : ∃ L5 : Nat → Prop, L5 = L' := ⟨_, rfl⟩
    rw [← hL5] at sH
    have SO := cU
    obtain ⟨w5, hw5⟩ : ∃ w5, w5 = wr := ⟨_, rfl⟩
    subst hw5
    clear jf hS hL5 c0 c1 c2 YT BV cU YS HNC
    have lz := ag (PC W.heap.size w5 _ (gq t names i t.ps.length) sH.out.own (by have := kZ.out; omega))
    generalize gq t names i t.ps.length = X at *
    cD
    first | refine ⟨trivial, fun h => (by cases h), ?_⟩ | refine ⟨fun h => (by cases h), ?_⟩
    refine (callsIn_wide.2 lz.out).mono ?_
    rintro e w6 ⟨rfl, PE, PF⟩
    have h6 := sH.out.grow HA.out PF PE (fun g hg => .inl hg)
    rw [KZ.out] at h6
    obtain ⟨L6, PG⟩ : ∃ L6 : Nat → Prop, L6 = fun b => L5 b ∨ (w5.heap.size ≤ b ∧ b < w6.heap.size) := ⟨_, rfl⟩
    rw [← PG] at h6
    have dA := ag h6
    have iY : Hid (X.length = (aW t names i).length) := by unfold Hid; rw [← KZ.out, qw]; try rfl
    clear PE PF lz sH h6 PG
    by_cases gC : i = 0
    ·have yy := ag gC
     have d0 : ((i : Int) == 0) = true := by subst gC; rfl
     clear gC
     cD
     rename_i hkk _ _ _ _
     refine ⟨fun f h => (by cases h), hkk _ _ ?_⟩
     cD
     exact ⟨rfl, .tuple #[(Value.slice op X.length oc), .bool true], by simp [results, Tryz.results169, go_sem], _, ys, L6, rfl, by rw [dA.out.cN, Hx.out, if_pos yy.out, List.append_nil], dA.out.jj, dA.out.up, dA.out.sz, dA.out.kept, dA.out.sub, dA.out.bd, ⟨op, oc, by rw [← iY.out]⟩, dA.out.own.ints.sub fun _ _ _ => trivial⟩
    ·have yy := ag gC
     have d0 : ((i : Int) == 0) = false := beq_eq_false_iff_ne.2 (by omega)
     have PI : J (pre ++ ys) (fun b => L6 b ∧ (Value.slice op X.length oc).ownBlock ≠ some b) w6 := HA.out _ L6 _ w6 w6 dA.out.jj ⟨rfl, rfl, rfl, Nat.le_refl _, fun _ _ _ => rfl, fun b hb => .inl ⟨hb.1, (dA.out.bd b hb.1).2⟩⟩
     have hin : an (fun b => ¬ (L6 b ∧ (Value.slice op X.length oc).ownBlock ≠ some b)) w6 (Value.slice op X.length oc) (aW t names i) := (tU dA.out.own.ints).sub fun b hb _ (h7 : _ ∧ _) => h7.2 hb
     have Ez : Hu t names (i, (Value.slice op X.length oc)) (fun b => L6 b ∧ (Value.slice op X.length oc).ownBlock ≠ some b) w6 := ⟨hi, yy.out, op, oc, by show (Value.slice op X.length oc) = _; rw [← iY.out], hin, fun g hg => by obtain ⟨c, h⟩ := ay.jr dA.out.own hg; exact ⟨c, _, h⟩⟩
     have o6 : (pre ++ ys).length < N := by
      have h1 := HN.out
      have h2 := congrArg List.length dA.out.cN
      rw [Hx.out, if_neg yy.out, List.length_append, List.length_singleton] at h1
      rw [List.length_map] at h2
      rw [List.length_append]; omega
     obtain ⟨cq, ce⟩ := SO.out w6 dA.out.kept
     obtain ⟨fn, tmps, assign, body, hy, hR⟩ := HY.out (m - 1) (pre ++ ys) (i, (Value.slice op X.length oc)) _ w6 PI Ez dA.out.up (fun b hb => dA.out.bd b hb.1) o6
     have hne : Hid (∀ b, L b → (Value.slice op X.length oc).ownBlock ≠ some b) := fun b hb e => by
      have h1 := (aD dA.out.own e).1
      have h2 := dA.out.lb b hb
      omega
     simp only at hy
     clear gC PI Ez o6 hin
     cD
     first | refine ⟨trivial, fun h => (by cases h), ?_⟩ | refine ⟨fun h => (by cases h), ?_⟩
     refine hR.mono ?_
     rintro e W7 ⟨rfl, PJ, kS, PK, PL⟩
     have H8 := ag (⟨PJ, kS, PK, PL⟩ : _ ∧ _ ∧ _ ∧ _)
     clear PJ kS PK PL hR
     cD
     exact ⟨rfl, .tuple #[(Value.slice op X.length oc), .bool true], by simp [results, Tryz.results169, go_sem], _, ys ++ [(i, (Value.slice op X.length oc))], (fun b => L6 b ∧ (Value.slice op X.length oc).ownBlock ≠ some b), rfl, by rw [List.map_append, dA.out.cN, Hx.out, if_neg yy.out]; rfl, by rw [← List.append_assoc]; exact H8.out.1, H8.out.2.1, Nat.le_trans dA.out.sz H8.out.2.2.1, fun b hb => (H8.out.2.2.2 b (.inl ⟨dA.out.sub b hb, hne.out b hb⟩)).trans (dA.out.kept b hb), fun b hb => ⟨dA.out.sub b hb, hne.out b hb⟩,
      fun b hb => (by have h1 := dA.out.bd b hb.1; have h2 := H8.out.2.2.1; omega), ⟨op, oc, by rw [← iY.out]⟩, (aC.keep (tU dA.out.own.ints) fun b hb _ => H8.out.2.2.2 b (.inr hb)).sub fun _ _ _ => trivial⟩
end
end Go.Proofs.YtpnmblnahjjmhaaGreat
