/- slices.SortFunc at lists of ints with slices.Compare: what the caller owns, sorted. .. -/
import Derived.Test.YtpnmblnahjjmhaaGreatQ1
import Derived.Test.YtpnmblnahjjmhaaGreatQ31
import Derived.Test.YtpnmblnahjjmhaaGreatQ32
import Derived.Test.YtpnmblnahjjmhaaGreatQ5
import Derived.Test.YtpnmblnahjjmhaaGreatQ28
import Derived.Test.YtpnmblnahjjmhaaGreatQ2
import Derived.Test.YtpnmblnahjjmhaaGreatQ3
import Derived.Test.YtpnmblnahjjmhaaGreatQ33
set_option maxRecDepth 100000
namespace Go.Proofs.YtpnmblnahjjmhaaGreat
section
open Go.RowKit Go.Deep Go.Sort Go.Shelf Go.Lib
structure uK (base : Nat) (w : World) (v : Value) (ps : List (List Int × Value)) : Prop where
 own : ah base 26 w v (ps.map (·.2))
 shape : ∀ p ∈ ps, ∃ q c, p.2 = .slice q p.1.length c
 row : ∀ p ∈ ps, af (fun b => v.ownBlock ≠ some b) w p.2 p.1
theorem YZ {α : Type} {f : α → List Int} {cf : List Int → List Int → Int} (h0 : ∀ a, cf a a = 0) (hz : ∀ {a b}, cf a b = 0 → a = b) (ha : ∀ a b, cf b a = - cf a b) (ht : ∀ {a b c}, cf a b < 0 → cf b c < 0 → cf a c < 0) : SWO (ltOf fun (x y : α) => cf (f x) (f y)) where
 irrefl x := by simp [ltOf, h0]
 trans x y z h1 h2 := by
  simp only [ltOf, decide_eq_true_eq] at *
  exact ht h1 h2
 ntrans x y z h1 h2 := by
  simp only [ltOf, decide_eq_false_iff_not] at *
  intro h3
  by_cases e : cf (f x) (f y) = 0
  ·rw [hz e] at h3; exact h2 h3
  ·have h4 : cf (f y) (f x) < 0 := by have := ha (f x) (f y); omega
   exact h2 (ht h4 h3)
theorem Cc {cf : List Int → List Int → Int} (h0 : ∀ a, cf a a = 0) (hz : ∀ {a b}, cf a b = 0 → a = b) (ha : ∀ a b, cf b a = - cf a b) (ht : ∀ {a b c}, cf a b < 0 → cf b c < 0 → cf a c < 0)
  (g : Nat) (cb : Array Value) (eg : ∀ args w, (callFunc g args).run Tryz.prog w = .ok (.enter g args) w) {base : Nat} {w : World} {v : Value} {ps : List (List Int × Value)} (h : uK base w v ps) (hn : ps.length ≤ 1000000)
  (hc : ∀ p ∈ ps, ∀ q ∈ ps, ∀ W, w.grownBy W v.ownBlock → Calls Tryz.prog g (#[p.2, q.2] ++ cb) W fun e w' => e = .returned (.int .i64 (cf p.1 q.1)) ∧ ∃ n os, w' = grow (W.drewN n) os) :
  Calls Tryz.prog 93 #[v, .func (.func g) #[] cb] w fun e w' => e = .returned (.tuple #[]) ∧ w.grownBy w' v.ownBlock ∧ ∃ ps', (ps'.map (·.1)).Perm (ps.map (·.1)) ∧ (ps'.map (·.1)).Pairwise (fun a b => cf a b ≤ 0) ∧ uK base w' v ps' ∧ ∀ p ∈ ps', p ∈ ps := by
 by_cases hp : ps = []
 ·subst hp
  have ho := h.own
  obtain ⟨q, c, hv, _⟩ := ho.form (n := 0) (by simp)
  subst hv
  refine (AnyF.slices_SortFunc_none (P := Tryz.prog) (ρ := Tryz.sortRow_ren) { Tryz.sortRow with } q c _ w).mono ?_
  rintro e w' ⟨rfl, rfl⟩
  exact ⟨rfl, qF _ _, [], .nil, .nil, h, fun p hp => hp⟩
 obtain ⟨p0, nj⟩ : ∃ p, p ∈ ps := List.exists_mem_of_ne_nil _ hp
 letI : Inhabited {p // p ∈ ps} := ⟨⟨p0, nj⟩⟩
 have hown := h.own
 obtain ⟨q, cap, hv, _⟩ := hown.form (n := ps.length) (by simp)
 obtain ⟨blk, hq⟩ : ∃ blk, q = some ⟨blk, 0, none⟩ := by
  obtain ⟨_, ⟨h1, _⟩ | ⟨g', cap', cur, h1, _⟩⟩ := hown
  ·rw [hv] at h1
   injection h1 with _ h1 _
   exact absurd (List.length_eq_zero_iff.1 h1) hp
  ·rw [hv] at h1
   injection h1 with h1 _ _
   exact ⟨g', h1⟩
 subst hq
 subst hv
 have sK := (ax hown rfl).2
 have sK : blk < w.heap.size := sK
 have hsize : (ps.attach.toArray).size = ps.length := by simp
 have l7 : (ps.map (·.2)).length = ps.length := by simp
 have hH : Holds (fun (x : {p // p ∈ ps}) => x.1.2) w blk 0 ps.attach.toArray := by
  intro j hj
  rw [hsize] at hj
  obtain ⟨p, c, e, _, H⟩ := hown.qZ.open
  injection e with e1
  subst e1
  obtain ⟨b, off, e, hcc⟩ := H j (by rw [l7]; exact hj)
  injection e with e
  injection e with e1 e2
  subst e1; subst e2
  refine ⟨?_, ?_⟩
  ·rw [hcc, getElem!_pos _ _ (by simpa using hj)]; simp [hj]
  ·obtain ⟨_, ⟨h1, _⟩ | ⟨g', cap', cur, hs', _, hc', _⟩⟩ := hown
   ·cases h1
   ·injection hs' with hs1
    injection hs1 with hs1
    injection hs1 with hs1
    subst hs1
    simp [World.frozen?, hc']
 have hgb : ∀ (m : Nat) (os : Array Obj) (dk : Array {p // p ∈ ps}), w.grownBy (sortWorld (fun (x : {p // p ∈ ps}) => x.1.2) w blk 0 m dk os) (some blk) := fun m os dk => ⟨rfl, rfl, rfl, ug _ _ _ _ _, fun b hb hne => dY (fun e => hne (by rw [e])) hb⟩
 have hcmp : CmpLays1 Tryz.prog g cb (fun (x : {p // p ∈ ps}) => x.1.2) (fun x y => cf x.1.1 y.1.1) blk 0 ps.attach.toArray.size w := by
  intro m os dk hdk x y
  refine (hc x.1 x.2 y.1 y.2 _ (hgb m os dk)).mono fun e w' ⟨he, n, os', hw⟩ => ⟨he, n, os', hw⟩
 have hcon := Any.slices_SortFunc Tryz.sortRow (fun (x : {p // p ∈ ps}) => x.1.2) (fun x => by obtain ⟨q, c, e⟩ := h.shape x.1 x.2; show x.1.2.oneCell' = true; rw [e]; rfl) (fun x y => cf x.1.1 y.1.1) (YZ (f := fun (x : {p // p ∈ ps}) => x.1.1) h0 hz ha ht) g cb blk 0 cap ps.attach.toArray w eg hcmp hH sK (by rw [hsize]; omega)
 rw [hsize] at hcon
 refine hcon.mono fun e w' ⟨he, d', m, os, Hv, wB, hw⟩ => ⟨he, by rw [hw]; exact hgb m os d', d'.toList.map (·.1), ?_, ?_, ?_, fun p hp => by obtain ⟨x, _, rfl⟩ := List.mem_map.1 hp; exact x.2⟩
 ·obtain ⟨hsz, _, iB⟩ := Hv
  have e1 : d'.extract 0 ps.length = d' := by rw [← hsize, ← hsz]; exact Array.extract_size
  have e2 : ps.attach.toArray.extract 0 ps.length = ps.attach.toArray := by rw [← hsize]; exact Array.extract_size
  rw [e1, e2] at iB
  have h3 : (d'.toList.map (·.1)).Perm ps := by
   have h2 := iB.map (fun (x : {p // p ∈ ps}) => x.1)
   rw [List.toList_toArray, List.attach_map_subtype_val] at h2
   exact h2
  exact h3.map _
 ·obtain ⟨hsz, _, _⟩ := Hv
  rw [hsize] at hsz
  rw [List.map_map, List.pairwise_map, List.pairwise_iff_getElem]
  intro i j hi hj hij
  have hi' : i < d'.size := by simpa using hi
  have hj' : j < d'.size := by simpa using hj
  have h3 := wB i j (Nat.zero_le _) hij (by omega)
  rw [getElem!_pos d' j hj', getElem!_pos d' i hi'] at h3
  simp only [ltOf, decide_eq_false_iff_not] at h3
  have h4 := ha ((d'[i]'hi').1.1) ((d'[j]'hj').1.1)
  show cf ((d'.toList[i]'(by simpa using hi)).1.1) ((d'.toList[j]'(by simpa using hj)).1.1) ≤ 0
  rw [Array.getElem_toList, Array.getElem_toList]
  omega
 ·have hd : d'.toList.length = ps.length := by have := Hv.1; rw [hsize] at this; simpa using this
  have hmem : ∀ p ∈ d'.toList.map (·.1), p ∈ ps := fun p hp => by
   obtain ⟨x, _, rfl⟩ := List.mem_map.1 hp
   exact x.2
  refine ⟨?_, fun p hp => h.shape p (hmem p hp), fun p hp => ?_⟩
  ·have h4 := ah.sorted (enc := fun (x : {p // p ∈ ps}) => x.1.2) (n := m) (os := os) (ts := d'.toList) (vs := ps.map (·.2)) (by rw [l7]; exact hown) (by rw [l7]; exact hd)
   rw [l7] at h4
   rw [hw, List.map_map]
   exact h4
  ·have h5 := h.row p (hmem p hp)
   rw [hw]
   refine av.keep h5 fun b hb hbl => (hgb m os d').block b hbl fun e => hb e.symm
theorem PJ (W : World) : ∃ n os, W = grow (W.drewN n) os := ⟨0, #[], by rw [grow_empty]; rfl⟩
end
section
open Go.RowKit Go.Shelf Go.Deep
theorem kO (w : World) (x y : Value) (T U : TypeId) : Up w ((w.alloc (.cells #[x] T)).alloc (.cells #[y] U)) ∧ ((w.alloc (.cells #[x] T)).alloc (.cells #[y] U)).cell? ⟨w.heap.size, 0, none⟩ = some x ∧ ((w.alloc (.cells #[x] T)).alloc (.cells #[y] U)).cell? ⟨w.heap.size + 1, 0, none⟩ = some y := by
 have bO := Up.alloc w (.cells #[x] T)
 have h1 := gG w x T
 have hs : (w.alloc (.cells #[x] T)).heap.size = w.heap.size + 1 := by simp
 have aC := Up.alloc (w.alloc (.cells #[x] T)) (.cells #[y] U)
 have h2 := gG (w.alloc (.cells #[x] T)) y U
 rw [hs] at h2
 exact ⟨bO.trans aC, aC.cell h1, h2⟩
set_option maxHeartbeats 1000000 in
theorem Hw (S : Nat → Prop) (w : World) (v : Value) (N : Nat) (a : List Int) (hN : N ≤ 64) (h : af S w v a) (ha : cz a) (hb : ∀ x ∈ a, x < (N : Int)) (hl : a.length ≤ 1000000) :
  Calls Tryz.prog 102 #[.int .i64 (N : Int), v] w fun e w' => Up w w' ∧ ∃ u, e = .returned (.tuple #[u, .int .i64 0]) ∧ ah w.heap.size 3 w' u ((aS N a).map (Value.int .i64)) := by
 have HC := aa (qI S w v a h hl)
 rw [eX.2 ha] at HC
 have lW : Hid (aS N a = ey (fun x => !a.contains x) N) := by unfold Hid aS; rw [Int.toNat_natCast]
 obtain ⟨p, cap, rfl, -, -⟩ := av.open h
 have H : Hid (af S w (.slice p a.length cap) a) := h
 have HA := aa ha
 have n0 : ¬ (N : Int) < 0 := by omega
 have n1 : ¬ (64 : Int) < (N : Int) := by omega
 have bO := Up.alloc w (.cells #[.slice p a.length cap] 26)
 have hb1 := gG w (.slice p a.length cap) 26
 have hw1 : (w.alloc (.cells #[.slice p a.length cap] 26)).heap.size = w.heap.size + 1 := by simp
 have Ht := aa (⟨bO, hb1, hw1⟩ : Up w (w.alloc (.cells #[.slice p a.length cap] 26)) ∧ (w.alloc (.cells #[.slice p a.length cap] 26)).cell? ⟨w.heap.size, 0, none⟩ = some (.slice p a.length cap) ∧ (w.alloc (.cells #[.slice p a.length cap] 26)).heap.size = w.heap.size + 1)
 clear h ha bO hb1 hw1
 have HB : Hid (a.length = 0 ∨ 0 < a.length ∧ ∃ b off, p = some ⟨b, off, none⟩ ∧ w.cell? ⟨b, off + (a.length - 1), none⟩ = some (.int .i64 (gi a (a.length - 1))) ∧ gi a (a.length - 1) < N) := by
  by_cases h0 : a.length = 0
  ·exact .inl h0
  ·obtain ⟨b, off, e, hc⟩ := bw H.out (show a.length - 1 < a.length by omega)
   exact .inr ⟨by omega, b, off, e, hc, hb _ (gi_in (by omega))⟩
 clear hb
 have REST : Hid (∀ w3 B1 B2 b6, Up w w3 → w3.cell? ⟨B1, 0, none⟩ = some (.int .i64 (N : Int)) → w3.cell? ⟨B2, 0, none⟩ = some (.func (.func 173) #[] #[.pointer (some ⟨b6, 0, none⟩)]) → w3.cell? ⟨b6, 0, none⟩ = some (.func (.func 226) #[] #[.pointer (some ⟨w.heap.size, 0, none⟩)]) → w3.cell? ⟨w.heap.size, 0, none⟩ = some (.slice p a.length cap) →
   Calls Tryz.prog 171 #[.func (.func 229) #[] #[.pointer (some ⟨B1, 0, none⟩), .pointer (some ⟨B2, 0, none⟩)]] w3 (uI w3 (aS N a))) := fun w3 B1 B2 b6 hu c1 c2 c6 cw => by
  rw [lW.out]
  have hks : ∀ W', KS (· < w3.heap.size) w3 W' → ∀ b o x, w3.cell? ⟨b, o, none⟩ = some x → W'.cell? ⟨b, o, none⟩ = some x := fun W' hW b o x hc => (hW.cell (p := ⟨b, o, none⟩) (World.block_lt_of_cell? w3 _ hc)).trans hc
  refine Ca w3 B1 B2 N hN (fun x => !a.contains x) 173 _ (enters_of Tryz.func173 (by kernel_rfl) rfl) c1 c2 fun k hk W' ki => ?_
  refine SK (· < w3.heap.size) W' b6 w.heap.size _ a k (hks W' ki _ _ _ c6) (hks W' ki _ _ _ cw) ?_ hl HA.out.fF
  exact av.keep (af.sub (af.keep H.out (hu.kept _)) fun b _ hb => hb) fun b hb _ => ki b hb
 have UT : Hid (∀ w3 e w', Up w w3 → uI w3 (aS N a) e w' → ∃ u, e = .returned u ∧ Up w w' ∧ ah w.heap.size 3 w' u ((aS N a).map (Value.int .i64))) := fun w3 e w' hu ⟨h1, u, he, h2⟩ => ⟨u, he, hu.trans h1, by
  obtain ⟨hl, h | ⟨g, cap, cur, hv, hg, hc, hr⟩⟩ := h2
  ·exact ⟨hl, .inl h⟩
  ·exact ⟨hl, .inr ⟨g, cap, cur, hv, Nat.le_trans hu.size hg, hc, hr⟩⟩⟩
 have K : Hid (∀ w1 b1, b1 = w.heap.size → w1 = w.alloc (.cells #[.slice p a.length cap] 26) → Up w (w1.alloc (.cells #[.func (.func 226) #[] #[.pointer (some ⟨b1, 0, none⟩)]] 91)) ∧
   (w1.alloc (.cells #[.func (.func 226) #[] #[.pointer (some ⟨b1, 0, none⟩)]] 91)).cell? ⟨w1.heap.size, 0, none⟩ = some (.func (.func 226) #[] #[.pointer (some ⟨w.heap.size, 0, none⟩)]) ∧
   (w1.alloc (.cells #[.func (.func 226) #[] #[.pointer (some ⟨b1, 0, none⟩)]] 91)).cell? ⟨w.heap.size, 0, none⟩ = some (.slice p a.length cap)) := fun w1 b1 e1 e2 => by
  subst e1
  subst e2
  obtain ⟨k1, k2, k3⟩ := Ht.out
  have q1 := Up.alloc (w.alloc (.cells #[.slice p a.length cap] 26)) (.cells #[.func (.func 226) #[] #[.pointer (some ⟨w.heap.size, 0, none⟩)]] 91)
  have q2 := gG (w.alloc (.cells #[.slice p a.length cap] 26)) (.func (.func 226) #[] #[.pointer (some ⟨w.heap.size, 0, none⟩)]) 91
  exact ⟨k1.trans q1, q2, q1.cell k2⟩
 rcases HB.out with h0 | ⟨i01, b, off, rfl, hc, hlt⟩
 ·have h01 : ¬ (0 : Int) < (a.length : Int) := by omega
  have h02 : ¬ 0 < a.length := by omega
  clear h0
  go_enter Tryz.func102, Tryz.ntmps102
  go_wp2_with fail
  refine HC.out.mono ?_
  rintro e w' ⟨rfl, rfl⟩
  go_wp2_with fail
  refine (Ff _ _ _ _).mono ?_
  rintro e w1 ⟨rfl, hw1⟩
  obtain ⟨k1, k2, k3⟩ := K.out w1 _ rfl hw1
  have xm := aa k1
  have s5 := aa k2
  have A9 := aa k3
  clear hw1 k1 k2 k3 K
  go_wp2_with fail
  generalize w1.alloc (.cells #[.func (.func 226) #[] #[.pointer (some ⟨w.heap.size, 0, none⟩)]] 91) = w2 at *
  refine (x5 _ _ _ _).mono ?_
  rintro e w3 ⟨rfl, hw3⟩
  obtain ⟨m1, m2, m3⟩ := kO w2 (.int .i64 (N : Int)) (.func (.func 173) #[] #[.pointer (some ⟨w1.heap.size, 0, none⟩)]) 3 91
  rw [← hw3] at m1 m2 m3
  have cR : Hid (Up w w3) := xm.out.trans m1
  have HR := aa (REST.out w3 _ _ _ cR.out m2 m3 (m1.cell s5.out) (m1.cell A9.out))
  clear hw3 m1 m2 m3 xm s5 A9
  go_wp2_with fail
  refine HR.out.mono ?_
  rintro e w4 hp
  obtain ⟨u, rfl, h4, h5⟩ := UT.out w3 e w4 cR.out hp
  have H4 := aa h4
  have H5 := aa h5
  clear hp h4 h5
  go_wp2_with fail
  exact ⟨rfl, .tuple #[_, _], by simp [results, Tryz.results102, go_sem], H4.out, _, rfl, H5.out⟩
 ·have i0 : (0 : Int) < (a.length : Int) := by omega
  have i1 : (0 : Int) ≤ (a.length : Int) - 1 := by omega
  have i2 : (a.length : Int) - 1 < (a.length : Int) := by omega
  have i3 : ((a.length : Int) - 1).toNat = a.length - 1 := by omega
  have i4 : wrap64 ((a.length : Int) - 1) = (a.length : Int) - 1 := by unfold wrap64; omega
  have i5 : ¬ (N : Int) ≤ gi a (a.length - 1) := by omega
  clear hlt
  generalize gi a (a.length - 1) = y at *
  go_enter Tryz.func102, Tryz.ntmps102
  go_wp2_with fail
  refine HC.out.mono ?_
  rintro e w' ⟨rfl, rfl⟩
  go_wp2_with fail
  refine (Ff _ _ _ _).mono ?_
  rintro e w1 ⟨rfl, hw1⟩
  obtain ⟨k1, k2, k3⟩ := K.out w1 _ rfl hw1
  have xm := aa k1
  have s5 := aa k2
  have A9 := aa k3
  clear hw1 k1 k2 k3 K
  go_wp2_with fail
  generalize w1.alloc (.cells #[.func (.func 226) #[] #[.pointer (some ⟨w.heap.size, 0, none⟩)]] 91) = w2 at *
  refine (x5 _ _ _ _).mono ?_
  rintro e w3 ⟨rfl, hw3⟩
  obtain ⟨m1, m2, m3⟩ := kO w2 (.int .i64 (N : Int)) (.func (.func 173) #[] #[.pointer (some ⟨w1.heap.size, 0, none⟩)]) 3 91
  rw [← hw3] at m1 m2 m3
  have cR : Hid (Up w w3) := xm.out.trans m1
  have HR := aa (REST.out w3 _ _ _ cR.out m2 m3 (m1.cell s5.out) (m1.cell A9.out))
  clear hw3 m1 m2 m3 xm s5 A9
  go_wp2_with fail
  refine HR.out.mono ?_
  rintro e w4 hp
  obtain ⟨u, rfl, h4, h5⟩ := UT.out w3 e w4 cR.out hp
  have H4 := aa h4
  have H5 := aa h5
  clear hp h4 h5
  go_wp2_with fail
  exact ⟨rfl, .tuple #[_, _], by simp [results, Tryz.results102, go_sem], H4.out, _, rfl, H5.out⟩
end
section
open Go.RowKit Go.Deep
end
section
open Go.RowKit Go.Deep
def zK (g : Nat) (lb args : Array Value) (res : Value) (w : World) : Prop := ∀ m, Calls Tryz.prog g (args ++ lb) (w.drewN m) fun e w' => e = .returned res ∧ ∃ q, w' = w.drewN q
set_option maxHeartbeats 400000 in
theorem PK (g : Nat) (lb : Array Value) (eg : ∀ args w, (callFunc g args).run Tryz.prog w = .ok (.enter g args) w) (S : Nat → Prop) (w : World) (v : Value) (n : Nat) (f : Nat → Value) (p : Nat → Bool)
  (h : av S w v n f) (hn : n ≤ 1000000) (hp : ∀ k, k < n → zK g lb #[f k] (.bool (p k)) w) :
  Calls Tryz.prog 154 #[v, .func (.func g) #[] lb] w fun e w' => e = .returned (.int .i64 (cE p n)) ∧ ∃ q, w' = w.drewN q := by
 obtain ⟨q, cap, rfl, hcap, H⟩ := h.open
 have HP := aa hp
 clear h hp
 go_enter Tryz.func154, Tryz.ntmps154
 go_wp2_with fail
 go_loopw [5, 8] (fun _ i wr => ∃ k : Nat, k ≤ n ∧ i = .int .i64 k ∧ Hid (∀ j, j < k → p j = false) ∧ Hid (∃ m, wr = w.drewN m)) (fun _ i _ => n - (intOf i).toNat)
 case atStart => exact ⟨0, Nat.zero_le _, rfl, fun j hj => absurd hj (Nat.not_lt_zero _), 0, rfl⟩
 case round =>
  obtain ⟨k, hk, rfl, hd, hm⟩ := hrel
  obtain ⟨m, rfl⟩ := hm.out
  clear hm
  by_cases hlt : k < n
  ·obtain ⟨b, off, rfl, hc⟩ := H k hlt
   have hc := (Up.drewN w m).cell hc
   clear H
   have hpk := HP.out k hlt
   unfold zK at hpk
   have B9 := aa (hpk m)
   clear hpk HP
   generalize hv : p k = pk at *
   have HV := aa hv
   clear hv
   cases pk
   ·go_wp2_with fail
    refine B9.out.mono ?_
    rintro e w' ⟨rfl, m2, rfl⟩
    go_wp2_with fail
    go_roundw
    case rel => exact ⟨k + 1, by omega, by go_num, fun j hj => if e : j = k then by subst e; exact HV.out else hd.out j (by omega), m2, rfl⟩
    case measure => simp [intOf]; omega
   ·go_wp2_with fail
    refine B9.out.mono ?_
    rintro e w' ⟨rfl, m2, rfl⟩
    go_wp2_with fail
    go_ret
    exact ⟨aI (fS hlt hd.out HV.out).symm, m2, rfl⟩
  ·clear H
   go_wp2_with fail
   go_ret
   exact ⟨aI (dP fun j hj => hd.out j (by omega)).symm, m, rfl⟩
set_option maxHeartbeats 400000 in
theorem MM (g : Nat) (lb : Array Value) (eg : ∀ args w, (callFunc g args).run Tryz.prog w = .ok (.enter g args) w) (S : Nat → Prop) (w : World) (v : Value) (n : Nat) (f : Nat → Value) (p : Nat → Bool)
  (h : av S w v n f) (hn : n ≤ 1000000) (hp : ∀ k, k < n → zK g lb #[f k] (.bool (p k)) w) :
  Calls Tryz.prog 79 #[v, .func (.func g) #[] lb] w fun e w' => e = .returned (.bool ((List.range n).any p)) ∧ ∃ q, w' = w.drewN q := by
 have hx := fT p n
 have HX := aa hx
 have HI := aa (PK g lb eg S w v n f p h hn hp)
 obtain ⟨q, cap, rfl, -, -⟩ := av.open h
 clear hx hp h eg
 go_enter Tryz.func79, Tryz.ntmps79
 go_wp2_with fail
 refine HI.out.mono ?_
 rintro e w' ⟨rfl, m, rfl⟩
 go_wp2_with fail
 go_ret
 exact ⟨aO (by rw [← HX.out]), m, rfl⟩
end
section
open Go.RowKit Go.Shelf Go.Deep Go.Sort
set_option maxHeartbeats 400000 in
theorem SR (w : World) (P N : Value) (mp : Option Addr) (n c : Nat) : Calls Tryz.prog 101 #[.agg #[P, N], .slice mp n c] w fun e w' => e = .returned (.func (.func 168) #[] #[.pointer (some ⟨w.heap.size, 0, none⟩), .pointer (some ⟨w.heap.size + 1, 0, none⟩)]) ∧ w' = (w.alloc (.cells #[P, N] 39)).alloc (.cells #[.slice mp n c] 22) := by
 go_enter Tryz.func101, Tryz.ntmps101
 go_wp2_with fail
 go_ret
 exact ⟨by simp, rfl⟩
section
variable {w0 : World} {t : aA} {names : List ByteArray} {l Bt Be Bn Bq N : Nat} {J : List El → (Nat → Prop) → World → Prop}
theorem Hx (mV : iz t names) (hA : KL J)
  (hY : ∀ m pre x L W1, J pre L W1 → Hr t names x L W1 → Up w0 W1 → (∀ b, L b → w0.heap.size ≤ b ∧ b < W1.heap.size) → pre.length < N → YieldAt Fence.wide m Tryz.prog l #[x.2] W1 fun e W' =>
   e = .returned (.bool true) ∧ J (pre ++ [x]) L W' ∧ Up w0 W' ∧ W1.heap.size ≤ W'.heap.size ∧ ∀ b, (L b ∨ x.2.ownBlock = some b) → W'.heap[b]? = W1.heap[b]?) :
  ∀ (d i : Nat), t.ps.length - i ≤ d → i < t.ps.length → Hs w0 t names l Bt Be Bn Bq N J i
 | 0, i, hd, hi => by omega
 | d + 1, i, hd, hi => PA mV hA hY hi fun c hc => by
  obtain ⟨c1, c2, _⟩ := bH.1 hc
  exact Hx mV hA hY d c (by omega) c1
set_option maxHeartbeats 1000000 in
theorem MN (m : Nat) (mV : iz t names) {w9 : World} {pp np mp : Option Addr} {pc nc mc : Nat} (h0t : w0.heap.size ≤ Bt) (h0n : w0.heap.size ≤ Bn)
  (Gn : w9.cell? ⟨Bt, 0, none⟩ = some (.slice pp t.ps.length pc)) (oh : w9.cell? ⟨Bt, 1, none⟩ = some (.slice np t.ns.length nc)) (UN : w9.cell? ⟨Bn, 0, none⟩ = some (.slice mp names.length mc))
  (hP : af Any w0 (.slice pp t.ps.length pc) t.ps) (KU : ay Any w0 (.slice np t.ns.length nc) t.ns) (KV : ay Any w0 (.slice mp names.length mc) names) :
  YI Fence.wide m Tryz.prog 168 #[.pointer (some ⟨Bt, 0, none⟩), .pointer (some ⟨Bn, 0, none⟩)] (fun x : El => #[x.2]) (Hr t names) (fun x b => x.2.ownBlock = some b) (fun xs => xs.map (·.1) = eV t 0) t.ps.length w0 w9 (fun b => b = Bt ∨ b = Bn) := by
 intro l J W hW Y0 hW9 hA hY hJ
 obtain ⟨lt1, kt1⟩ := Y0 Bt (.inl rfl)
 obtain ⟨lt2, kt2⟩ := Y0 Bn (.inr rfl)
 have wT0 := (World.cell?_of_block (a := ⟨Bt, 0, none⟩) kt1).trans Gn
 have wT1 := (World.cell?_of_block (a := ⟨Bt, 1, none⟩) kt1).trans oh
 have wBn := (World.cell?_of_block (a := ⟨Bn, 0, none⟩) kt2).trans UN
 have wU := (aH mV.te).1
 have aC : Up W ((W.alloc (.cells #[.func (.yield l) #[] #[]] 47)).alloc (.cells #[.nilFunc] 174)) := (Up.alloc _ _).trans (Up.alloc _ _)
 have hnew := blk_alloc_new (W.alloc (.cells #[.func (.yield l) #[] #[]] 47)) (.cells #[.nilFunc] 174)
 rw [World.size_alloc] at hnew
 have ir : ((W.alloc (.cells #[.func (.yield l) #[] #[]] 47)).alloc (.cells #[.nilFunc] 174)).heap[W.heap.size]? = some (.cells #[.func (.yield l) #[] #[]] 47 (0, 0)) := by
  rw [blk_alloc_lt _ _ _ (by simp)]; exact blk_alloc_new _ _
 have hsz : ((W.alloc (.cells #[.func (.yield l) #[] #[]] 47)).alloc (.cells #[.nilFunc] 174)).heap.size = W.heap.size + 2 := by simp
 generalize hW2 : (W.alloc (.cells #[.func (.yield l) #[] #[]] 47)).alloc (.cells #[.nilFunc] 174) = W2 at *
 have eH : W2.cell? ⟨W.heap.size + 1, 0, none⟩ = some .nilFunc := by simp [World.cell?, hnew]
 have hfn : W2.frozen? ⟨W.heap.size + 1, 0, none⟩ = false := by simp [World.frozen?, hnew]
 have bR : Up W (W2.setCell ⟨W.heap.size + 1, 0, none⟩ (.func (.func 169) #[] #[.pointer (some ⟨Bt, 0, none⟩), .pointer (some ⟨W.heap.size + 1, 0, none⟩), .pointer (some ⟨Bn, 0, none⟩), .pointer (some ⟨W.heap.size, 0, none⟩)])) := Below.setCell aC (p := ⟨W.heap.size + 1, 0, none⟩) (Nat.le_succ _) _
 have hs3 : (W2.setCell ⟨W.heap.size + 1, 0, none⟩ (.func (.func 169) #[] #[.pointer (some ⟨Bt, 0, none⟩), .pointer (some ⟨W.heap.size + 1, 0, none⟩), .pointer (some ⟨Bn, 0, none⟩), .pointer (some ⟨W.heap.size, 0, none⟩)])).heap.size = W.heap.size + 2 := by rw [World.size_setCell]; exact hsz
 have hq : (W2.setCell ⟨W.heap.size + 1, 0, none⟩ (.func (.func 169) #[] #[.pointer (some ⟨Bt, 0, none⟩), .pointer (some ⟨W.heap.size + 1, 0, none⟩), .pointer (some ⟨Bn, 0, none⟩), .pointer (some ⟨W.heap.size, 0, none⟩)])).cell? ⟨W.heap.size, 0, none⟩ = some (.func (.yield l) #[] #[]) := by
  have : (W2.setCell ⟨W.heap.size + 1, 0, none⟩ (.func (.func 169) #[] #[.pointer (some ⟨Bt, 0, none⟩), .pointer (some ⟨W.heap.size + 1, 0, none⟩), .pointer (some ⟨Bn, 0, none⟩), .pointer (some ⟨W.heap.size, 0, none⟩)])).heap[W.heap.size]? = _ := (blk_setCell_other _ _ _ _ (by show W.heap.size ≠ W.heap.size + 1; omega)).trans ir
  simp [World.cell?, this]
 have he : (W2.setCell ⟨W.heap.size + 1, 0, none⟩ (.func (.func 169) #[] #[.pointer (some ⟨Bt, 0, none⟩), .pointer (some ⟨W.heap.size + 1, 0, none⟩), .pointer (some ⟨Bn, 0, none⟩), .pointer (some ⟨W.heap.size, 0, none⟩)])).cell? ⟨W.heap.size + 1, 0, none⟩ = some (.func (.func 169) #[] #[.pointer (some ⟨Bt, 0, none⟩), .pointer (some ⟨W.heap.size + 1, 0, none⟩), .pointer (some ⟨Bn, 0, none⟩), .pointer (some ⟨W.heap.size, 0, none⟩)]) := by
  have : (W2.setCell ⟨W.heap.size + 1, 0, none⟩ (.func (.func 169) #[] #[.pointer (some ⟨Bt, 0, none⟩), .pointer (some ⟨W.heap.size + 1, 0, none⟩), .pointer (some ⟨Bn, 0, none⟩), .pointer (some ⟨W.heap.size, 0, none⟩)])).heap[W.heap.size + 1]? = some (.cells #[.func (.func 169) #[] #[.pointer (some ⟨Bt, 0, none⟩), .pointer (some ⟨W.heap.size + 1, 0, none⟩), .pointer (some ⟨Bn, 0, none⟩), .pointer (some ⟨W.heap.size, 0, none⟩)]] 174 (0, 0)) := by
   simp [World.setCell, Array.getElem?_modify, hnew]
  simp [World.cell?, this]
 have Y1 := hW.size
 have hJ3 := hA [] _ (fun b => (b = Bt ∨ b = Bn) ∨ b = W.heap.size ∨ b = W.heap.size + 1) W _ hJ ⟨bR.os, bR.tape, bR.output, bR.size, fun b hb _ => Below.block bR b hb, fun b hb => hb.imp (fun e => ⟨e, by rcases e with rfl | rfl <;> omega⟩) (fun e => by rw [hs3]; omega)⟩
 have oV := Hx (N := t.ps.length) (Be := W.heap.size + 1) (Bq := W.heap.size) mV hA (fun m' pre x L W1 h1 h2 h3 h4 h5 => YieldAt.FO rfl m' (hY pre x L W1 h1 h2 h3 h4 h5)) _ 0 (Nat.le_refl _) wU (m - 1) [] _ _ hJ3 (hW.trans (bR.mono Y1)) (fun b hb => by rw [hs3]; rcases hb with (rfl | rfl) | hb <;> omega) (.inr (.inl rfl)) (.inr (.inr rfl)) (.inl (.inl rfl)) (.inl (.inr rfl)) ⟨_, _, _, _, _, _, bR.cell wT0, bR.cell wT1, bR.cell wBn, hP, KU, KV⟩ hq he (by have := KP mV.te; simpa using this)
 have dO := aa oV
 have hec := he
 clear oV hJ3 hq he hJ bR aC hY hnew ir hs3 hsz hA hW Y1 Y0 hW9
 refine callsIn_of_wp Tryz.func168 rfl trivial ?_ rfl
 simp only [Tryz.ntmps168, List.size_toArray, List.length_cons, List.length_nil, Nat.reduceAdd, Nat.reduceSub, Array.replicate_succ, Array.replicate_zero, List.push_toArray, List.append_toArray, List.nil_append, List.cons_append]
 gi_wp2
 refine ⟨trivial, fun h => (by cases h), ?_⟩
 refine dO.out.mono ?_
 rintro e W3 ⟨v, ys, L', rfl, h1, h2, _⟩
 gi_wp2
 go_end0
 exact ⟨⟨_, rfl⟩, ys, L', h1, by simpa using h2⟩
end
end
section
open Go.RowKit Go.Deep
theorem Ex (b : List Int) : ∀ l : List (List Int), eF (l ++ [b]) = if l.getLast? = some b then eF l else eF l ++ [b]
 | [] => by simp [eF]
 | [a] => by
  by_cases h : a = b
  ·subst h; simp [eF]
  ·have h2 : ¬ b = a := fun e => h e.symm
   simp [eF, h, h2]
 | a :: c :: l => by
  have ih := Ex b (c :: l)
  have e1 : (a :: c :: l).getLast? = (c :: l).getLast? := by simp [List.getLast?_cons_cons]
  rw [List.cons_append, eF, ih, e1]
  have e2 : ((c :: l) ++ [b]).head? = some c := rfl
  have e3 : eF (a :: c :: l) = if (c :: l).head? = some a then eF (c :: l) else a :: eF (c :: l) := by rw [eF]
  have e4 : (c :: l).head? = some c := rfl
  rw [e2, e3, e4]
  by_cases h : some c = some a <;> by_cases h2 : (c :: l).getLast? = some b
  ·rw [if_pos h, if_pos h2, if_pos h2]; exact (if_pos h).symm
  ·rw [if_pos h, if_neg h2, if_neg h2, if_pos h]
  ·rw [if_neg h, if_pos h2, if_pos h2, if_neg h]
  ·rw [if_neg h, if_neg h2, if_neg h2, if_neg h]; rfl
def tQ (xs : List (List Int)) (j : Nat) : Bool := decide (0 < j ∧ gl xs j = gl xs (j - 1))
theorem KY (xs : List (List Int)) : ∀ j, j ≤ xs.length → (dy (tQ xs) j).map (gl xs) = eF (xs.take j)
 | 0, _ => by simp [dy, eF]
 | j + 1, h => by
  have hlast : (xs.take j).getLast? = if j = 0 then none else some (gl xs (j - 1)) := by
   by_cases h0 : j = 0
   ·subst h0; simp
   ·rw [if_neg h0, List.getLast?_eq_getElem?, List.length_take, show min j xs.length = j by omega, List.getElem?_take_of_lt (by omega)]
    simp [gl, show j - 1 < xs.length by omega]
  rw [r6, Vt (by omega), Ex, hlast, ← KY xs j (by omega)]
  unfold tQ
  by_cases h0 : j = 0
  ·subst h0; simp
  ·rw [if_neg h0]
   by_cases e : gl xs j = gl xs (j - 1)
   ·rw [decide_eq_true ⟨by omega, e⟩, if_pos rfl, if_pos (by rw [e])]
   ·rw [decide_eq_false (fun q => e q.2), if_neg (by decide), if_neg (by intro q; injection q with q; exact e q.symm), List.map_append]; rfl
theorem Hy (f : Nat) (lb : Array Value) (eg : ∀ args w, (callFunc f args).run Tryz.prog w = .ok (.enter f args) w) {base : Nat} {w : World} {v : Value} {ps : List (List Int × Value)} (h : uK base w v ps) (hn : ps.length ≤ 1000000)
    (hf : ∀ p ∈ ps, ∀ q ∈ ps, ∀ W, w.grownBy W v.ownBlock → Calls Tryz.prog f (#[p.2, q.2] ++ lb) W fun e W' => e = .returned (.bool (decide (p.1 = q.1))) ∧ ∃ m, W' = W.drewN m) :
    Calls Tryz.prog 98 #[v, .func (.func f) #[] lb] w fun e w' => w.grownBy w' v.ownBlock ∧ ∃ v' ps', e = .returned v' ∧ ps'.map (·.1) = eF (ps.map (·.1)) ∧ uK base w' v' ps' ∧ ∀ p ∈ ps', p ∈ ps := by
  have hown := h.own
  obtain ⟨q, cap, hv, _⟩ := hown.form (n := ps.length) (by simp)
  obtain ⟨_, ⟨h1, h2⟩ | ⟨g, cap', cur, h1, _⟩⟩ := hown
  · have hp : ps = [] := by simpa using h2
    subst hp
    subst h1
    have h0 : ¬ (0 : Int) ≥ 2 := by decide
    go_enter Tryz.func98, Tryz.ntmps98
    go_wp2_with fail
    go_ret
    exact ⟨qF _ _, .slice none 0 0, rfl, [], rfl, h, by simp⟩
  rw [hv] at h1
  injection h1 with h1 _ _
  subst h1
  subst hv
  have hown := h.own
  have l7 : (ps.map (·.2)).length = ps.length := by simp
  have hat : ∀ j, j < ps.length → ∃ p, p ∈ ps ∧ mI (ps.map (·.2)) j = p.2 ∧ gl (ps.map (·.1)) j = p.1 := fun j hj => ⟨ps[j], List.getElem_mem hj, by simp [mI, hj], by simp [gl, hj]⟩
  have hcon := MK (P := tQ (ps.map (·.1))) f lb eg (base := base) (w := w) (bk := g) (cap := cap) (vs := ps.map (·.2)) (by rw [l7]; exact hown) (by rw [l7]; exact hn) rfl
    (fun j hj => by
      obtain ⟨p, hp, e, _⟩ := hat j (by simpa using hj)
      obtain ⟨q, c, e2⟩ := h.shape p hp
      exact ⟨q, _, c, by rw [e, e2]⟩)
    (fun j h0 hj W hW => by
      obtain ⟨p, hp, e1, e2⟩ := hat j (by simpa using hj)
      obtain ⟨r, hr, e3, e4⟩ := hat (j - 1) (by have : j < ps.length := by simpa using hj
                                                omega)
      rw [e1, e3]
      have hd : tQ (ps.map (·.1)) j = decide (p.1 = r.1) := by
        unfold tQ
        rw [e2, e4]
        by_cases e : p.1 = r.1
        · rw [decide_eq_true ⟨h0, e⟩, decide_eq_true e]
        · rw [decide_eq_false (fun q => e q.2), decide_eq_false e]
      rw [hd]
      exact hf p hp r hr W hW)
  rw [l7] at hcon
  refine hcon.mono ?_
  rintro e w' ⟨m, rfl, ho, hg⟩
  have hkm : ∀ p ∈ (dy (tQ (ps.map (·.1))) ps.length).map (fun j => ps.getD j ([], undef)), p ∈ ps := fun p hp => by
    obtain ⟨j, hj, rfl⟩ := List.mem_map.1 hp
    have hj : j < ps.length := List.mem_range.1 (List.mem_filter.1 hj).1
    rw [List.getD_eq_getElem?_getD, List.getElem?_eq_getElem hj]; exact List.getElem_mem hj
  have hks : ∀ j ∈ dy (tQ (ps.map (·.1))) ps.length, j < ps.length := fun j hj => List.mem_range.1 (List.mem_filter.1 hj).1
  refine ⟨hg, _, (dy (tQ (ps.map (·.1))) ps.length).map (fun j => ps.getD j ([], undef)), rfl, ?_, ⟨?_, fun p hp => h.shape p (hkm p hp), fun p hp => ?_⟩, hkm⟩
  · have h5 := KY (ps.map (·.1)) ps.length (by simp)
    rw [List.take_of_length_le (by simp)] at h5
    rw [← h5, List.map_map]
    refine List.map_congr_left fun j hj => ?_
    have := hks j hj
    simp [gl, this]
  · rw [List.map_map]
    have e : (dy (tQ (ps.map (·.1))) ps.length).map ((fun x => x.2) ∘ fun j => ps.getD j ([], undef)) = (dy (tQ (ps.map (·.1))) ps.length).map (mI (ps.map (·.2))) := by
      refine List.map_congr_left fun j hj => ?_
      have := hks j hj
      simp [mI, this]
    rw [e]; exact ho
  · exact av.keep (h.row p (hkm p hp)) fun b hb hbl => hg.block b hbl fun e => hb e.symm
theorem uK.there {base : Nat} {w W : World} {v : Value} {ps : List (List Int × Value)} (h : uK base w v ps) (hW : w.grownBy W v.ownBlock) : ∀ s ∈ ps, af Any W s.2 s.1 := fun s hs => (av.keep (h.row s hs) fun b hb hbl => hW.block b hbl fun e => hb e.symm).sub fun _ _ _ => trivial
theorem wK {base : Nat} {w : World} {v : Value} {ps : List (List Int × Value)} (h : uK base w v ps) (hn : ps.length ≤ 1000000) (hl : ∀ p ∈ ps, p.1.length ≤ 1000000) :
  Calls Tryz.prog 98 #[v, .func (.func 27) #[] #[]] w fun e w' => w.grownBy w' v.ownBlock ∧ ∃ v' ps', e = .returned v' ∧ ps'.map (·.1) = eF (ps.map (·.1)) ∧ uK base w' v' ps' ∧ ∀ p ∈ ps', p ∈ ps :=
 Hy 27 #[] (enters_of Tryz.func27 (by kernel_rfl) rfl) h hn fun p hp r hr W hW => ze Any Any W p.2 r.2 p.1 r.1 (h.there hW p hp) (h.there hW r hr) (hl p hp) (hl r hr)
end
end Go.Proofs.YtpnmblnahjjmhaaGreat
