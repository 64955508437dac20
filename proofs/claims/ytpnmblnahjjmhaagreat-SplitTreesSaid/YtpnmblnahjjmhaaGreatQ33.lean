/- slices.SortFunc at lists of ints with slices.Compare: what the caller owns, sorted. Package intset: Complement and Intersect at sets: the contracts. The split of a character of two states: plain. slices.IndexFunc and ContainsFunc at ints with a function that draws. split.below: the iterator as a whole. slices.CompactFunc with slices.Equal at rows that the caller owns. -/
import Derived.Test.YtpnmblnahjjmhaaGreatQ1
import Derived.Test.YtpnmblnahjjmhaaGreatQ30
import Derived.Test.YtpnmblnahjjmhaaGreatQ5
import Derived.Test.YtpnmblnahjjmhaaGreatQ31
import Derived.Test.YtpnmblnahjjmhaaGreatQ27
import Derived.Test.YtpnmblnahjjmhaaGreatQ2
import Derived.Test.YtpnmblnahjjmhaaGreatQ3
import Derived.Test.YtpnmblnahjjmhaaGreatQ32
namespace Go.Proofs.YtpnmblnahjjmhaaGreat
set_option maxRecDepth 100000
section
open Go.RowKit Go.Deep Go.Sort Go.Shelf Go.Lib
structure vg (base : Nat) (w : World) (v : Value) (ps : List (List Int × Value)) : Prop where
 own : ay base 26 w v (ps.map (·.2))
 shape : ∀ p ∈ ps, ∃ q c, p.2 = .slice q p.1.length c
 row : ∀ p ∈ ps, an (fun b => v.ownBlock ≠ some b) w p.2 p.1
theorem YW {α : Type} {f : α → List Int} {cf : List Int → List Int → Int} (h0 : ∀ a, cf a a = 0) (hz : ∀ {a b}, cf a b = 0 → a = b) (ha : ∀ a b, cf b a = - cf a b) (ht : ∀ {a b c}, cf a b < 0 → cf b c < 0 → cf a c < 0) : SWO (ltOf fun (x y : α) => cf (f x) (f y)) where
 irrefl x := by simp [ltOf, h0]
 trans x y z h1 h2 := by
  simp only [ltOf, decide_eq_true_eq] at *
  exact ht h1 h2
 ntrans x y z h1 h2 := by
  simp only [ltOf, decide_eq_false_iff_not] at *
  intro h3
  by_cases e : cf (f x) (f y) = 0
  ·rw [hz e] at h3; exact h2 h3
  ·have h4 : cf (f y) (f x) < 0 := by have := ha (f x) (f y); omega
   exact h2 (ht h4 h3)
theorem Cn {cf : List Int → List Int → Int} (h0 : ∀ a, cf a a = 0) (hz : ∀ {a b}, cf a b = 0 → a = b) (ha : ∀ a b, cf b a = - cf a b) (ht : ∀ {a b c}, cf a b < 0 → cf b c < 0 → cf a c < 0)
  (g : Nat) (cb : Array Value) (eg : ∀ args w, (callFunc g args).run Tryz.prog w = .ok (.enter g args) w) {base : Nat} {w : World} {v : Value} {ps : List (List Int × Value)} (h : vg base w v ps) (hn : ps.length ≤ 1000000)
  (hc : ∀ p ∈ ps, ∀ q ∈ ps, ∀ W, w.grownBy W v.ownBlock → Calls Tryz.prog g (#[p.2, q.2] ++ cb) W fun e w' => e = .returned (.int .i64 (cf p.1 q.1)) ∧ ∃ n os, w' = grow (W.drewN n) os) :
  Calls Tryz.prog 93 #[v, .func (.func g) #[] cb] w fun e w' => e = .returned (.tuple #[]) ∧ w.grownBy w' v.ownBlock ∧ ∃ ps', (ps'.map (·.1)).Perm (ps.map (·.1)) ∧ (ps'.map (·.1)).Pairwise (fun a b => cf a b ≤ 0) ∧ vg base w' v ps' ∧ ∀ p ∈ ps', p ∈ ps := by
 by_cases hp : ps = []
 ·subst hp
  have ho := h.own
  obtain ⟨q, c, hv, _⟩ := ho.form (n := 0) (by simp)
  subst hv
  refine (AnyF.slices_SortFunc_none (P := Tryz.prog) (ρ := Tryz.sortRow_ren) { Tryz.sortRow with } q c _ w).mono ?_
  rintro e w' ⟨rfl, rfl⟩
  exact ⟨rfl, rB _ _, [], .nil, .nil, h, fun p hp => hp⟩
 obtain ⟨p0, od⟩ : ∃ p, p ∈ ps := List.exists_mem_of_ne_nil _ hp
 letI : Inhabited {p // p ∈ ps} := ⟨⟨p0, od⟩⟩
 have hown := h.own
 obtain ⟨q, cap, hv, _⟩ := hown.form (n := ps.length) (by simp)
 obtain ⟨blk, hq⟩ : ∃ blk, q = some ⟨blk, 0, none⟩ := by
  obtain ⟨_, ⟨h1, _⟩ | ⟨g', cap', cur, h1, _⟩⟩ := hown
  ·rw [hv] at h1
   injection h1 with _ h1 _
   exact absurd (List.length_eq_zero_iff.1 h1) hp
  ·rw [hv] at h1
   injection h1 with h1 _ _
   exact ⟨g', h1⟩
 subst hq
 subst hv
 have th := (aD hown rfl).2
 have th : blk < w.heap.size := th
 have hsize : (ps.attach.toArray).size = ps.length := by simp
 have mX : (ps.map (·.2)).length = ps.length := by simp
 have hH : Holds (fun (x : {p // p ∈ ps}) => x.1.2) w blk 0 ps.attach.toArray := by
  intro j hj
  rw [hsize] at hj
  obtain ⟨p, c, e, _, H⟩ := hown.rV.open
  injection e with e1
  subst e1
  obtain ⟨b, off, e, gv⟩ := H j (by rw [mX]; exact hj)
  injection e with e
  injection e with e1 e2
  subst e1; subst e2
  refine ⟨?_, ?_⟩
  ·rw [gv, getElem!_pos _ _ (by simpa using hj)]; simp [hj]
  ·obtain ⟨_, ⟨h1, _⟩ | ⟨g', cap', cur, hs', _, qM, _⟩⟩ := hown
   ·cases h1
   ·injection hs' with hs1
    injection hs1 with hs1
    injection hs1 with hs1
    subst hs1
    simp [World.frozen?, qM]
 have NR : ∀ (m : Nat) (os : Array Obj) (dk : Array {p // p ∈ ps}), w.grownBy (sortWorld (fun (x : {p // p ∈ ps}) => x.1.2) w blk 0 m dk os) (some blk) := fun m os dk => ⟨rfl, rfl, rfl, uH _ _ _ _ _, fun b hb hne => eY (fun e => hne (by rw [e])) hb⟩
 have hcmp : CmpLays1 Tryz.prog g cb (fun (x : {p // p ∈ ps}) => x.1.2) (fun x y => cf x.1.1 y.1.1) blk 0 ps.attach.toArray.size w := by
  intro m os dk hdk x y
  refine (hc x.1 x.2 y.1 y.2 _ (NR m os dk)).mono fun e w' ⟨he, n, os', hw⟩ => ⟨he, n, os', hw⟩
 have ni := Any.slices_SortFunc Tryz.sortRow (fun (x : {p // p ∈ ps}) => x.1.2) (fun x => by obtain ⟨q, c, e⟩ := h.shape x.1 x.2; show x.1.2.oneCell' = true; rw [e]; rfl) (fun x y => cf x.1.1 y.1.1) (YW (f := fun (x : {p // p ∈ ps}) => x.1.1) h0 hz ha ht) g cb blk 0 cap ps.attach.toArray w eg hcmp hH th (by rw [hsize]; omega)
 rw [hsize] at ni
 refine ni.mono fun e w' ⟨he, d', m, os, Hy, wP, hw⟩ => ⟨he, by rw [hw]; exact NR m os d', d'.toList.map (·.1), ?_, ?_, ?_, fun p hp => by obtain ⟨x, _, rfl⟩ := List.mem_map.1 hp; exact x.2⟩
 ·obtain ⟨hsz, _, iW⟩ := Hy
  have e1 : d'.extract 0 ps.length = d' := by rw [← hsize, ← hsz]; exact Array.extract_size
  have e2 : ps.attach.toArray.extract 0 ps.length = ps.attach.toArray := by rw [← hsize]; exact Array.extract_size
  rw [e1, e2] at iW
  have h3 : (d'.toList.map (·.1)).Perm ps := by
   have h2 := iW.map (fun (x : {p // p ∈ ps}) => x.1)
   rw [List.toList_toArray, List.attach_map_subtype_val] at h2
   exact h2
  exact h3.map _
 ·obtain ⟨hsz, _, _⟩ := Hy
  rw [hsize] at hsz
  rw [List.map_map, List.pairwise_map, List.pairwise_iff_getElem]
  intro i j hi hj hij
  have hi' : i < d'.size := by simpa using hi
  have hj' : j < d'.size := by simpa using hj
  have h3 := wP i j (Nat.zero_le _) hij (by omega)
  rw [getElem!_pos d' j hj', getElem!_pos d' i hi'] at h3
  simp only [ltOf, decide_eq_false_iff_not] at h3
  have h4 := ha ((d'[i]'hi').1.1) ((d'[j]'hj').1.1)
  show cf ((d'.toList[i]'(by simpa using hi)).1.1) ((d'.toList[j]'(by simpa using hj)).1.1) ≤ 0
  rw [Array.getElem_toList, Array.getElem_toList]
  omega
 ·have hd : d'.toList.length = ps.length := by have := Hy.1; rw [hsize] at this; simpa using this
  have hmem : ∀ p ∈ d'.toList.map (·.1), p ∈ ps := fun p hp => by
   obtain ⟨x, _, rfl⟩ := List.mem_map.1 hp
   exact x.2
  refine ⟨?_, fun p hp => h.shape p (hmem p hp), fun p hp => ?_⟩
  ·have h4 := ay.sorted (enc := fun (x : {p // p ∈ ps}) => x.1.2) (n := m) (os := os) (ts := d'.toList) (vs := ps.map (·.2)) (by rw [mX]; exact hown) (by rw [mX]; exact hd)
   rw [mX] at h4
   rw [hw, List.map_map]
   exact h4
  ·have h5 := h.row p (hmem p hp)
   rw [hw]
   refine aC.keep h5 fun b hb fZ => (NR m os d').block b fZ fun e => hb e.symm
theorem PM (W : World) : ∃ n os, W = grow (W.drewN n) os := ⟨0, #[], by rw [grow_empty]; rfl⟩
end
section
open Go.RowKit Go.Shelf Go.Deep
theorem lP (w : World) (x y : Value) (T U : TypeId) : Up w ((w.alloc (.cells #[x] T)).alloc (.cells #[y] U)) ∧ ((w.alloc (.cells #[x] T)).alloc (.cells #[y] U)).cell? ⟨w.heap.size, 0, none⟩ = some x ∧ ((w.alloc (.cells #[x] T)).alloc (.cells #[y] U)).cell? ⟨w.heap.size + 1, 0, none⟩ = some y := by
 have cK := Up.alloc w (.cells #[x] T)
 have h1 := ig w x T
 have hs : (w.alloc (.cells #[x] T)).heap.size = w.heap.size + 1 := by simp
 have aL := Up.alloc (w.alloc (.cells #[x] T)) (.cells #[y] U)
 have h2 := ig (w.alloc (.cells #[x] T)) y U
 rw [hs] at h2
 exact ⟨cK.trans aL, aL.cell h1, h2⟩
set_option maxHeartbeats 1000000 in
theorem Hz (S : Nat → Prop) (w : World) (v : Value) (N : Nat) (a : List Int) (hN : N ≤ 64) (h : an S w v a) (ha : cZ a) (hb : ∀ x ∈ a, x < (N : Int)) (hl : a.length ≤ 1000000) :
  Calls Tryz.prog 102 #[.int .i64 (N : Int), v] w fun e w' => Up w w' ∧ ∃ u, e = .returned (.tuple #[u, .int .i64 0]) ∧ ay w.heap.size 3 w' u ((bw N a).map (Value.int .i64)) := by
 have HC := ag (rE S w v a h hl)
 rw [fL.2 ha] at HC
 have mU : Hid (bw N a = ff (fun x => !a.contains x) N) := by unfold Hid bw; rw [Int.toNat_natCast]
 obtain ⟨p, cap, rfl, -, -⟩ := aC.open h
 have H : Hid (an S w (.slice p a.length cap) a) := h
 have HA := ag ha
 have n0 : ¬ (N : Int) < 0 := by omega
 have n1 : ¬ (64 : Int) < (N : Int) := by omega
 have cK := Up.alloc w (.cells #[.slice p a.length cap] 26)
 have cB := ig w (.slice p a.length cap) 26
 have hw1 : (w.alloc (.cells #[.slice p a.length cap] 26)).heap.size = w.heap.size + 1 := by simp
 have Hw := ag (⟨cK, cB, hw1⟩ : Up w (w.alloc (.cells #[.slice p a.length cap] 26)) ∧ (w.alloc (.cells #[.slice p a.length cap] 26)).cell? ⟨w.heap.size, 0, none⟩ = some (.slice p a.length cap) ∧ (w.alloc (.cells #[.slice p a.length cap] 26)).heap.size = w.heap.size + 1)
 clear h ha cK cB hw1
 have HB : Hid (a.length = 0 ∨ 0 < a.length ∧ ∃ b off, p = some ⟨b, off, none⟩ ∧ w.cell? ⟨b, off + (a.length - 1), none⟩ = some (.int .i64 (gi a (a.length - 1))) ∧ gi a (a.length - 1) < N) := by
  by_cases h0 : a.length = 0
  ·exact .inl h0
  ·obtain ⟨b, off, e, hc⟩ := bV H.out (show a.length - 1 < a.length by omega)
   exact .inr ⟨by omega, b, off, e, hc, hb _ (ng (by omega))⟩
 clear hb
 have MO : Hid (∀ w3 B1 B2 b6, Up w w3 → w3.cell? ⟨B1, 0, none⟩ = some (.int .i64 (N : Int)) → w3.cell? ⟨B2, 0, none⟩ = some (.func (.func 173) #[] #[.pointer (some ⟨b6, 0, none⟩)]) → w3.cell? ⟨b6, 0, none⟩ = some (.func (.func 226) #[] #[.pointer (some ⟨w.heap.size, 0, none⟩)]) → w3.cell? ⟨w.heap.size, 0, none⟩ = some (.slice p a.length cap) →
   Calls Tryz.prog 171 #[.func (.func 229) #[] #[.pointer (some ⟨B1, 0, none⟩), .pointer (some ⟨B2, 0, none⟩)]] w3 (ve w3 (bw N a))) := fun w3 B1 B2 b6 hu c1 c2 c6 cw => by
  rw [mU.out]
  have hks : ∀ W', KS (· < w3.heap.size) w3 W' → ∀ b o x, w3.cell? ⟨b, o, none⟩ = some x → W'.cell? ⟨b, o, none⟩ = some x := fun W' hW b o x hc => (hW.cell (p := ⟨b, o, none⟩) (World.block_lt_of_cell? w3 _ hc)).trans hc
  refine Cl w3 B1 B2 N hN (fun x => !a.contains x) 173 _ (enters_of Tryz.func173 (by af) rfl) c1 c2 fun k hk W' kX => ?_
  refine SJ (· < w3.heap.size) W' b6 w.heap.size _ a k (hks W' kX _ _ _ c6) (hks W' kX _ _ _ cw) ?_ hl HA.out.gn
  exact aC.keep (an.sub (an.keep H.out (hu.kept _)) fun b _ hb => hb) fun b hb _ => kX b hb
 have UP : Hid (∀ w3 e w', Up w w3 → ve w3 (bw N a) e w' → ∃ u, e = .returned u ∧ Up w w' ∧ ay w.heap.size 3 w' u ((bw N a).map (Value.int .i64))) := fun w3 e w' hu ⟨h1, u, he, h2⟩ => ⟨u, he, hu.trans h1, by
  obtain ⟨hl, h | ⟨g, cap, cur, hv, hg, hc, hr⟩⟩ := h2
  ·exact ⟨hl, .inl h⟩
  ·exact ⟨hl, .inr ⟨g, cap, cur, hv, Nat.le_trans hu.size hg, hc, hr⟩⟩⟩
 have K : Hid (∀ w1 b1, b1 = w.heap.size → w1 = w.alloc (.cells #[.slice p a.length cap] 26) → Up w (w1.alloc (.cells #[.func (.func 226) #[] #[.pointer (some ⟨b1, 0, none⟩)]] 91)) ∧
   (w1.alloc (.cells #[.func (.func 226) #[] #[.pointer (some ⟨b1, 0, none⟩)]] 91)).cell? ⟨w1.heap.size, 0, none⟩ = some (.func (.func 226) #[] #[.pointer (some ⟨w.heap.size, 0, none⟩)]) ∧
   (w1.alloc (.cells #[.func (.func 226) #[] #[.pointer (some ⟨b1, 0, none⟩)]] 91)).cell? ⟨w.heap.size, 0, none⟩ = some (.slice p a.length cap)) := fun w1 b1 e1 e2 => by
  subst e1
  subst e2
  obtain ⟨k1, k2, k3⟩ := Hw.out
  have q1 := Up.alloc (w.alloc (.cells #[.slice p a.length cap] 26)) (.cells #[.func (.func 226) #[] #[.pointer (some ⟨w.heap.size, 0, none⟩)]] 91)
  have q2 := ig (w.alloc (.cells #[.slice p a.length cap] 26)) (.func (.func 226) #[] #[.pointer (some ⟨w.heap.size, 0, none⟩)]) 91
  exact ⟨k1.trans q1, q2, q1.cell k2⟩
 rcases HB.out with h0 | ⟨i01, b, off, rfl, hc, hlt⟩
 ·have h01 : ¬ (0 : Int) < (a.length : Int) := by omega
  have h02 : ¬ 0 < a.length := by omega
  clear h0
  aq Tryz.func102, Tryz.ntmps102
  aa fail
  refine HC.out.mono ?_
  rintro e w' ⟨rfl, rfl⟩
  aa fail
  refine (Fk _ _ _ _).mono ?_
  rintro e w1 ⟨rfl, hw1⟩
  obtain ⟨k1, k2, k3⟩ := K.out w1 _ rfl hw1
  have xL := ag k1
  have tI := ag k2
  have Bo := ag k3
  clear hw1 k1 k2 k3 K
  aa fail
  generalize w1.alloc (.cells #[.func (.func 226) #[] #[.pointer (some ⟨w.heap.size, 0, none⟩)]] 91) = w2 at *
  refine (yx _ _ _ _).mono ?_
  rintro e w3 ⟨rfl, uO⟩
  obtain ⟨m1, m2, m3⟩ := lP w2 (.int .i64 (N : Int)) (.func (.func 173) #[] #[.pointer (some ⟨w1.heap.size, 0, none⟩)]) 3 91
  rw [← uO] at m1 m2 m3
  have dI : Hid (Up w w3) := xL.out.trans m1
  have HR := ag (MO.out w3 _ _ _ dI.out m2 m3 (m1.cell tI.out) (m1.cell Bo.out))
  clear uO m1 m2 m3 xL tI Bo
  aa fail
  refine HR.out.mono ?_
  rintro e w4 hp
  obtain ⟨u, rfl, h4, h5⟩ := UP.out w3 e w4 dI.out hp
  have H4 := ag h4
  have H5 := ag h5
  clear hp h4 h5
  aa fail
  exact ⟨rfl, .tuple #[_, _], by simp [results, Tryz.results102, go_sem], H4.out, _, rfl, H5.out⟩
 ·have i0 : (0 : Int) < (a.length : Int) := by omega
  have i1 : (0 : Int) ≤ (a.length : Int) - 1 := by omega
  have i2 : (a.length : Int) - 1 < (a.length : Int) := by omega
  have i3 : ((a.length : Int) - 1).toNat = a.length - 1 := by omega
  have i4 : wrap64 ((a.length : Int) - 1) = (a.length : Int) - 1 := by unfold wrap64; omega
  have i5 : ¬ (N : Int) ≤ gi a (a.length - 1) := by omega
  clear hlt
  generalize gi a (a.length - 1) = y at *
  aq Tryz.func102, Tryz.ntmps102
  aa fail
  refine HC.out.mono ?_
  rintro e w' ⟨rfl, rfl⟩
  aa fail
  refine (Fk _ _ _ _).mono ?_
  rintro e w1 ⟨rfl, hw1⟩
  obtain ⟨k1, k2, k3⟩ := K.out w1 _ rfl hw1
  have xL := ag k1
  have tI := ag k2
  have Bo := ag k3
  clear hw1 k1 k2 k3 K
  aa fail
  generalize w1.alloc (.cells #[.func (.func 226) #[] #[.pointer (some ⟨w.heap.size, 0, none⟩)]] 91) = w2 at *
  refine (yx _ _ _ _).mono ?_
  rintro e w3 ⟨rfl, uO⟩
  obtain ⟨m1, m2, m3⟩ := lP w2 (.int .i64 (N : Int)) (.func (.func 173) #[] #[.pointer (some ⟨w1.heap.size, 0, none⟩)]) 3 91
  rw [← uO] at m1 m2 m3
  have dI : Hid (Up w w3) := xL.out.trans m1
  have HR := ag (MO.out w3 _ _ _ dI.out m2 m3 (m1.cell tI.out) (m1.cell Bo.out))
  clear uO m1 m2 m3 xL tI Bo
  aa fail
  refine HR.out.mono ?_
  rintro e w4 hp
  obtain ⟨u, rfl, h4, h5⟩ := UP.out w3 e w4 dI.out hp
  have H4 := ag h4
  have H5 := ag h5
  clear hp h4 h5
  aa fail
  exact ⟨rfl, .tuple #[_, _], by simp [results, Tryz.results102, go_sem], H4.out, _, rfl, H5.out⟩
end
section
open Go.RowKit Go.Deep
end
section
open Go.RowKit Go.Deep
def z7 (g : Nat) (lb args : Array Value) (res : Value) (w : World) : Prop := ∀ m, Calls Tryz.prog g (args ++ lb) (w.drewN m) fun e w' => e = .returned res ∧ ∃ q, w' = w.drewN q
set_option maxHeartbeats 400000 in
theorem PN (g : Nat) (lb : Array Value) (eg : ∀ args w, (callFunc g args).run Tryz.prog w = .ok (.enter g args) w) (S : Nat → Prop) (w : World) (v : Value) (n : Nat) (f : Nat → Value) (p : Nat → Bool)
  (h : aC S w v n f) (hn : n ≤ 1000000) (hp : ∀ k, k < n → z7 g lb #[f k] (.bool (p k)) w) :
  Calls Tryz.prog 154 #[v, .func (.func g) #[] lb] w fun e w' => e = .returned (.int .i64 (dm p n)) ∧ ∃ q, w' = w.drewN q := by
 obtain ⟨q, cap, rfl, hcap, H⟩ := h.open
 have HP := ag hp
 clear h hp
 aq Tryz.func154, Tryz.ntmps154
 aa fail
 aV [5, 8] (fun _ i wr => ∃ k : Nat, k ≤ n ∧ i = .int .i64 k ∧ Hid (∀ j, j < k → p j = false) ∧ Hid (∃ m, wr = w.drewN m)) (fun _ i _ => n - (intOf i).toNat)
 case atStart => exact ⟨0, Nat.zero_le _, rfl, fun j hj => absurd hj (Nat.not_lt_zero _), 0, rfl⟩
 case round =>
  obtain ⟨k, hk, rfl, hd, hm⟩ := bE
  obtain ⟨m, rfl⟩ := hm.out
  clear hm
  by_cases hlt : k < n
  ·obtain ⟨b, off, rfl, hc⟩ := H k hlt
   have hc := (Up.drewN w m).cell hc
   clear H
   have hpk := HP.out k hlt
   unfold z7 at hpk
   have Ck := ag (hpk m)
   clear hpk HP
   generalize hv : p k = pk at *
   have HV := ag hv
   clear hv
   cases pk
   ·aa fail
    refine Ck.out.mono ?_
    rintro e w' ⟨rfl, m2, rfl⟩
    aa fail
    aF
    case rel => exact ⟨k + 1, by omega, by aH, fun j hj => if e : j = k then by subst e; exact HV.out else hd.out j (by omega), m2, rfl⟩
    case measure => simp [intOf]; omega
   ·aa fail
    refine Ck.out.mono ?_
    rintro e w' ⟨rfl, m2, rfl⟩
    aa fail
    ax
    exact ⟨aQ (gF hlt hd.out HV.out).symm, m2, rfl⟩
  ·clear H
   aa fail
   ax
   exact ⟨aQ (eN fun j hj => hd.out j (by omega)).symm, m, rfl⟩
set_option maxHeartbeats 400000 in
theorem MP (g : Nat) (lb : Array Value) (eg : ∀ args w, (callFunc g args).run Tryz.prog w = .ok (.enter g args) w) (S : Nat → Prop) (w : World) (v : Value) (n : Nat) (f : Nat → Value) (p : Nat → Bool)
  (h : aC S w v n f) (hn : n ≤ 1000000) (hp : ∀ k, k < n → z7 g lb #[f k] (.bool (p k)) w) :
  Calls Tryz.prog 79 #[v, .func (.func g) #[] lb] w fun e w' => e = .returned (.bool ((List.range n).any p)) ∧ ∃ q, w' = w.drewN q := by
 have hx := gG p n
 have HX := ag hx
 have HI := ag (PN g lb eg S w v n f p h hn hp)
 obtain ⟨q, cap, rfl, -, -⟩ := aC.open h
 clear hx hp h eg
 aq Tryz.func79, Tryz.ntmps79
 aa fail
 refine HI.out.mono ?_
 rintro e w' ⟨rfl, m, rfl⟩
 aa fail
 ax
 exact ⟨aZ (by rw [← HX.out]), m, rfl⟩
end
section
open Go.RowKit Go.Shelf Go.Deep Go.Sort
set_option maxHeartbeats 400000 in
theorem SP (w : World) (P N : Value) (mp : Option Addr) (n c : Nat) : Calls Tryz.prog 101 #[.agg #[P, N], .slice mp n c] w fun e w' => e = .returned (.func (.func 168) #[] #[.pointer (some ⟨w.heap.size, 0, none⟩), .pointer (some ⟨w.heap.size + 1, 0, none⟩)]) ∧ w' = (w.alloc (.cells #[P, N] 39)).alloc (.cells #[.slice mp n c] 22) := by
 aq Tryz.func101, Tryz.ntmps101
 aa fail
 ax
 exact ⟨by simp, rfl⟩
section
variable {w0 : World} {t : aJ} {names : List ByteArray} {l Bt Be Bn Bq N : Nat} {J : List El → (Nat → Prop) → World → Prop}
theorem H6 (nS : iU t names) (hA : KM J)
  (hY : ∀ m pre x L W1, J pre L W1 → Hu t names x L W1 → Up w0 W1 → (∀ b, L b → w0.heap.size ≤ b ∧ b < W1.heap.size) → pre.length < N → YieldAt Fence.wide m Tryz.prog l #[x.2] W1 fun e W' =>
   e = .returned (.bool true) ∧ J (pre ++ [x]) L W' ∧ Up w0 W' ∧ W1.heap.size ≤ W'.heap.size ∧ ∀ b, (L b ∨ x.2.ownBlock = some b) → W'.heap[b]? = W1.heap[b]?) :
  ∀ (d i : Nat), t.ps.length - i ≤ d → i < t.ps.length → Hv w0 t names l Bt Be Bn Bq N J i
 | 0, i, hd, hi => by omega
 | d + 1, i, hd, hi => PD nS hA hY hi fun c hc => by
  obtain ⟨c1, c2, _⟩ := cC.1 hc
  exact H6 nS hA hY d c (by omega) c1
set_option maxHeartbeats 1000000 in
theorem MQ (m : Nat) (nS : iU t names) {w9 : World} {pp np mp : Option Addr} {pc nc mc : Nat} (h0t : w0.heap.size ≤ Bt) (h0n : w0.heap.size ≤ Bn)
  (Gs : w9.cell? ⟨Bt, 0, none⟩ = some (.slice pp t.ps.length pc)) (o5 : w9.cell? ⟨Bt, 1, none⟩ = some (.slice np t.ns.length nc)) (UL : w9.cell? ⟨Bn, 0, none⟩ = some (.slice mp names.length mc))
  (hP : an Any w0 (.slice pp t.ps.length pc) t.ps) (KW : aG Any w0 (.slice np t.ns.length nc) t.ns) (KX : aG Any w0 (.slice mp names.length mc) names) :
  YF Fence.wide m Tryz.prog 168 #[.pointer (some ⟨Bt, 0, none⟩), .pointer (some ⟨Bn, 0, none⟩)] (fun x : El => #[x.2]) (Hu t names) (fun x b => x.2.ownBlock = some b) (fun xs => xs.map (·.1) = fI t 0) t.ps.length w0 w9 (fun b => b = Bt ∨ b = Bn) := by
 intro l J W hW YX hW9 hA hY hJ
 obtain ⟨lt1, kt1⟩ := YX Bt (.inl rfl)
 obtain ⟨lt2, kt2⟩ := YX Bn (.inr rfl)
 have wT0 := (World.cell?_of_block (a := ⟨Bt, 0, none⟩) kt1).trans Gs
 have wT1 := (World.cell?_of_block (a := ⟨Bt, 1, none⟩) kt1).trans o5
 have wBn := (World.cell?_of_block (a := ⟨Bn, 0, none⟩) kt2).trans UL
 have xy := (aP nS.te).1
 have aL : Up W ((W.alloc (.cells #[.func (.yield l) #[] #[]] 47)).alloc (.cells #[.nilFunc] 174)) := (Up.alloc _ _).trans (Up.alloc _ _)
 have hnew := blk_alloc_new (W.alloc (.cells #[.func (.yield l) #[] #[]] 47)) (.cells #[.nilFunc] 174)
 rw [World.size_alloc] at hnew
 have iP : ((W.alloc (.cells #[.func (.yield l) #[] #[]] 47)).alloc (.cells #[.nilFunc] 174)).heap[W.heap.size]? = some (.cells #[.func (.yield l) #[] #[]] 47 (0, 0)) := by
  rw [blk_alloc_lt _ _ _ (by simp)]; exact blk_alloc_new _ _
 have hsz : ((W.alloc (.cells #[.func (.yield l) #[] #[]] 47)).alloc (.cells #[.nilFunc] 174)).heap.size = W.heap.size + 2 := by simp
 generalize zH : (W.alloc (.cells #[.func (.yield l) #[] #[]] 47)).alloc (.cells #[.nilFunc] 174) = W2 at *
 have fB : W2.cell? ⟨W.heap.size + 1, 0, none⟩ = some .nilFunc := by simp [World.cell?, hnew]
 have hfn : W2.frozen? ⟨W.heap.size + 1, 0, none⟩ = false := by simp [World.frozen?, hnew]
 have cL : Up W (W2.setCell ⟨W.heap.size + 1, 0, none⟩ (.func (.func 169) #[] #[.pointer (some ⟨Bt, 0, none⟩), .pointer (some ⟨W.heap.size + 1, 0, none⟩), .pointer (some ⟨Bn, 0, none⟩), .pointer (some ⟨W.heap.size, 0, none⟩)])) := Below.setCell aL (p := ⟨W.heap.size + 1, 0, none⟩) (Nat.le_succ _) _
 have qO : (W2.setCell ⟨W.heap.size + 1, 0, none⟩ (.func (.func 169) #[] #[.pointer (some ⟨Bt, 0, none⟩), .pointer (some ⟨W.heap.size + 1, 0, none⟩), .pointer (some ⟨Bn, 0, none⟩), .pointer (some ⟨W.heap.size, 0, none⟩)])).heap.size = W.heap.size + 2 := by rw [World.size_setCell]; exact hsz
 have hq : (W2.setCell ⟨W.heap.size + 1, 0, none⟩ (.func (.func 169) #[] #[.pointer (some ⟨Bt, 0, none⟩), .pointer (some ⟨W.heap.size + 1, 0, none⟩), .pointer (some ⟨Bn, 0, none⟩), .pointer (some ⟨W.heap.size, 0, none⟩)])).cell? ⟨W.heap.size, 0, none⟩ = some (.func (.yield l) #[] #[]) := by
  have : (W2.setCell ⟨W.heap.size + 1, 0, none⟩ (.func (.func 169) #[] #[.pointer (some ⟨Bt, 0, none⟩), .pointer (some ⟨W.heap.size + 1, 0, none⟩), .pointer (some ⟨Bn, 0, none⟩), .pointer (some ⟨W.heap.size, 0, none⟩)])).heap[W.heap.size]? = _ := (blk_setCell_other _ _ _ _ (by show W.heap.size ≠ W.heap.size + 1; omega)).trans iP
  simp [World.cell?, this]
 have he : (W2.setCell ⟨W.heap.size + 1, 0, none⟩ (.func (.func 169) #[] #[.pointer (some ⟨Bt, 0, none⟩), .pointer (some ⟨W.heap.size + 1, 0, none⟩), .pointer (some ⟨Bn, 0, none⟩), .pointer (some ⟨W.heap.size, 0, none⟩)])).cell? ⟨W.heap.size + 1, 0, none⟩ = some (.func (.func 169) #[] #[.pointer (some ⟨Bt, 0, none⟩), .pointer (some ⟨W.heap.size + 1, 0, none⟩), .pointer (some ⟨Bn, 0, none⟩), .pointer (some ⟨W.heap.size, 0, none⟩)]) := by
  have : (W2.setCell ⟨W.heap.size + 1, 0, none⟩ (.func (.func 169) #[] #[.pointer (some ⟨Bt, 0, none⟩), .pointer (some ⟨W.heap.size + 1, 0, none⟩), .pointer (some ⟨Bn, 0, none⟩), .pointer (some ⟨W.heap.size, 0, none⟩)])).heap[W.heap.size + 1]? = some (.cells #[.func (.func 169) #[] #[.pointer (some ⟨Bt, 0, none⟩), .pointer (some ⟨W.heap.size + 1, 0, none⟩), .pointer (some ⟨Bn, 0, none⟩), .pointer (some ⟨W.heap.size, 0, none⟩)]] 174 (0, 0)) := by
   simp [World.setCell, Array.getElem?_modify, hnew]
  simp [World.cell?, this]
 have YY := hW.size
 have Oe := hA [] _ (fun b => (b = Bt ∨ b = Bn) ∨ b = W.heap.size ∨ b = W.heap.size + 1) W _ hJ ⟨cL.os, cL.tape, cL.output, cL.size, fun b hb _ => Below.block cL b hb, fun b hb => hb.imp (fun e => ⟨e, by rcases e with rfl | rfl <;> omega⟩) (fun e => by rw [qO]; omega)⟩
 have p7 := H6 (N := t.ps.length) (Be := W.heap.size + 1) (Bq := W.heap.size) nS hA (fun m' pre x L W1 h1 h2 h3 h4 h5 => YieldAt.FT rfl m' (hY pre x L W1 h1 h2 h3 h4 h5)) _ 0 (Nat.le_refl _) xy (m - 1) [] _ _ Oe (hW.trans (cL.mono YY)) (fun b hb => by rw [qO]; rcases hb with (rfl | rfl) | hb <;> omega) (.inr (.inl rfl)) (.inr (.inr rfl)) (.inl (.inl rfl)) (.inl (.inr rfl)) ⟨_, _, _, _, _, _, cL.cell wT0, cL.cell wT1, cL.cell wBn, hP, KW, KX⟩ hq he (by have := KQ nS.te; simpa using this)
 have eM := ag p7
 have hec := he
 clear p7 Oe hq he hJ cL aL hY hnew iP qO hsz hA hW YY YX hW9
 refine callsIn_of_wp Tryz.func168 rfl trivial ?_ rfl
 simp only [Tryz.ntmps168, List.size_toArray, List.length_cons, List.length_nil, Nat.reduceAdd, Nat.reduceSub, Array.replicate_succ, Array.replicate_zero, List.push_toArray, List.append_toArray, List.nil_append, List.cons_append]
 cD
 refine ⟨trivial, fun h => (by cases h), ?_⟩
 refine eM.out.mono ?_
 rintro e W3 ⟨v, ys, L', rfl, h1, h2, _⟩
 cD
 rH
 exact ⟨⟨_, rfl⟩, ys, L', h1, by simpa using h2⟩
end
end
section
open Go.RowKit Go.Deep
theorem ED (b : List Int) : ∀ l : List (List Int), fu (l ++ [b]) = if l.getLast? = some b then fu l else fu l ++ [b]
 | [] => by simp [fu]
 | [a] => by
  by_cases h : a = b
  ·subst h; simp [fu]
  ·have h2 : ¬ b = a := fun e => h e.symm
   simp [fu, h, h2]
 | a :: c :: l => by
  have ih := ED b (c :: l)
  have e1 : (a :: c :: l).getLast? = (c :: l).getLast? := by simp [List.getLast?_cons_cons]
  rw [List.cons_append, fu, ih, e1]
  have e2 : ((c :: l) ++ [b]).head? = some c := rfl
  have e3 : fu (a :: c :: l) = if (c :: l).head? = some a then fu (c :: l) else a :: fu (c :: l) := by rw [fu]
  have e4 : (c :: l).head? = some c := rfl
  rw [e2, e3, e4]
  by_cases h : some c = some a <;> by_cases h2 : (c :: l).getLast? = some b
  ·rw [if_pos h, if_pos h2, if_pos h2]; exact (if_pos h).symm
  ·rw [if_pos h, if_neg h2, if_neg h2, if_pos h]
  ·rw [if_neg h, if_pos h2, if_pos h2, if_neg h]
  ·rw [if_neg h, if_neg h2, if_neg h2, if_neg h]; rfl
def uu (xs : List (List Int)) (j : Nat) : Bool := decide (0 < j ∧ gl xs j = gl xs (j - 1))
theorem K0 (xs : List (List Int)) : ∀ j, j ≤ xs.length → (dZ (uu xs) j).map (gl xs) = fu (xs.take j)
 | 0, _ => by simp [dZ, fu]
 | j + 1, h => by
  have hlast : (xs.take j).getLast? = if j = 0 then none else some (gl xs (j - 1)) := by
   by_cases h0 : j = 0
   ·subst h0; simp
   ·rw [if_neg h0, List.getLast?_eq_getElem?, List.length_take, show min j xs.length = j by omega, List.getElem?_take_of_lt (by omega)]
    simp [gl, show j - 1 < xs.length by omega]
  rw [sQ, Vs (by omega), ED, hlast, ← K0 xs j (by omega)]
  unfold uu
  by_cases h0 : j = 0
  ·subst h0; simp
  ·rw [if_neg h0]
   by_cases e : gl xs j = gl xs (j - 1)
   ·rw [decide_eq_true ⟨by omega, e⟩, if_pos rfl, if_pos (by rw [e])]
   ·rw [decide_eq_false (fun q => e q.2), if_neg (by decide), if_neg (by intro q; injection q with q; exact e q.symm), List.map_append]; rfl
theorem Ia (f : Nat) (lb : Array Value) (eg : ∀ args w, (callFunc f args).run Tryz.prog w = .ok (.enter f args) w) {base : Nat} {w : World} {v : Value} {ps : List (List Int × Value)} (h : vg base w v ps) (hn : ps.length ≤ 1000000)
    (hf : ∀ p ∈ ps, ∀ q ∈ ps, ∀ W, w.grownBy W v.ownBlock → Calls Tryz.prog f (#[p.2, q.2] ++ lb) W fun e W' => e = .returned (.bool (decide (p.1 = q.1))) ∧ ∃ m, W' = W.drewN m) :
    Calls Tryz.prog 98 #[v, .func (.func f) #[] lb] w fun e w' => w.grownBy w' v.ownBlock ∧ ∃ v' ps', e = .returned v' ∧ ps'.map (·.1) = fu (ps.map (·.1)) ∧ vg base w' v' ps' ∧ ∀ p ∈ ps', p ∈ ps := by
  have hown := h.own
  obtain ⟨q, cap, hv, _⟩ := hown.form (n := ps.length) (by simp)
  obtain ⟨_, ⟨h1, h2⟩ | ⟨g, cap', cur, h1, _⟩⟩ := hown
  · have hp : ps = [] := by simpa using h2
    subst hp
    subst h1
    have h0 : ¬ (0 : Int) ≥ 2 := by decide
    aq Tryz.func98, Tryz.ntmps98
    aa fail
    ax
    exact ⟨rB _ _, .slice none 0 0, rfl, [], rfl, h, by simp⟩
  rw [hv] at h1
  injection h1 with h1 _ _
  subst h1
  subst hv
  have hown := h.own
  have mX : (ps.map (·.2)).length = ps.length := by simp
  have UQ : ∀ j, j < ps.length → ∃ p, p ∈ ps ∧ nG (ps.map (·.2)) j = p.2 ∧ gl (ps.map (·.1)) j = p.1 := fun j hj => ⟨ps[j], List.getElem_mem hj, by simp [nG, hj], by simp [gl, hj]⟩
  have ni := MM (P := uu (ps.map (·.1))) f lb eg (base := base) (w := w) (bk := g) (cap := cap) (vs := ps.map (·.2)) (by rw [mX]; exact hown) (by rw [mX]; exact hn) rfl
    (fun j hj => by
      obtain ⟨p, hp, e, _⟩ := UQ j (by simpa using hj)
      obtain ⟨q, c, e2⟩ := h.shape p hp
      exact ⟨q, _, c, by rw [e, e2]⟩)
    (fun j h0 hj W hW => by
      obtain ⟨p, hp, e1, e2⟩ := UQ j (by simpa using hj)
      obtain ⟨r, hr, e3, e4⟩ := UQ (j - 1) (by have : j < ps.length := by simpa using hj
                                                omega)
      rw [e1, e3]
      have hd : uu (ps.map (·.1)) j = decide (p.1 = r.1) := by
        unfold uu
        rw [e2, e4]
        by_cases e : p.1 = r.1
        · rw [decide_eq_true ⟨h0, e⟩, decide_eq_true e]
        · rw [decide_eq_false (fun q => e q.2), decide_eq_false e]
      rw [hd]
      exact hf p hp r hr W hW)
  rw [mX] at ni
  refine ni.mono ?_
  rintro e w' ⟨m, rfl, ho, hg⟩
  have hkm : ∀ p ∈ (dZ (uu (ps.map (·.1))) ps.length).map (fun j => ps.getD j ([], undef)), p ∈ ps := fun p hp => by
    obtain ⟨j, hj, rfl⟩ := List.mem_map.1 hp
    have hj : j < ps.length := List.mem_range.1 (List.mem_filter.1 hj).1
    rw [List.getD_eq_getElem?_getD, List.getElem?_eq_getElem hj]; exact List.getElem_mem hj
  have hks : ∀ j ∈ dZ (uu (ps.map (·.1))) ps.length, j < ps.length := fun j hj => List.mem_range.1 (List.mem_filter.1 hj).1
  refine ⟨hg, _, (dZ (uu (ps.map (·.1))) ps.length).map (fun j => ps.getD j ([], undef)), rfl, ?_, ⟨?_, fun p hp => h.shape p (hkm p hp), fun p hp => ?_⟩, hkm⟩
  · have h5 := K0 (ps.map (·.1)) ps.length (by simp)
    rw [List.take_of_length_le (by simp)] at h5
    rw [← h5, List.map_map]
    refine List.map_congr_left fun j hj => ?_
    have := hks j hj
    simp [gl, this]
  · rw [List.map_map]
    have e : (dZ (uu (ps.map (·.1))) ps.length).map ((fun x => x.2) ∘ fun j => ps.getD j ([], undef)) = (dZ (uu (ps.map (·.1))) ps.length).map (nG (ps.map (·.2))) := by
      refine List.map_congr_left fun j hj => ?_
      have := hks j hj
      simp [nG, this]
    rw [e]; exact ho
  · exact aC.keep (h.row p (hkm p hp)) fun b hb fZ => hg.block b fZ fun e => hb e.symm
theorem vg.there {base : Nat} {w W : World} {v : Value} {ps : List (List Int × Value)} (h : vg base w v ps) (hW : w.grownBy W v.ownBlock) : ∀ s ∈ ps, an Any W s.2 s.1 := fun s hs => (aC.keep (h.row s hs) fun b hb fZ => hW.block b fZ fun e => hb e.symm).sub fun _ _ _ => trivial
theorem wZ {base : Nat} {w : World} {v : Value} {ps : List (List Int × Value)} (h : vg base w v ps) (hn : ps.length ≤ 1000000) (hl : ∀ p ∈ ps, p.1.length ≤ 1000000) :
  Calls Tryz.prog 98 #[v, .func (.func 27) #[] #[]] w fun e w' => w.grownBy w' v.ownBlock ∧ ∃ v' ps', e = .returned v' ∧ ps'.map (·.1) = fu (ps.map (·.1)) ∧ vg base w' v' ps' ∧ ∀ p ∈ ps', p ∈ ps :=
 Ia 27 #[] (enters_of Tryz.func27 (by af) rfl) h hn fun p hp r hr W hW => zx Any Any W p.2 r.2 p.1 r.1 (h.there hW p hp) (h.there hW r hr) (hl p hp) (hl r hr)
end
end Go.Proofs.YtpnmblnahjjmhaaGreat
