/- Which parts the rose tree of nested sets has: the sets, and the single sources. The plain .. -/
import Derived.Test.YteegefnjnikngaaGreatQ1
import Derived.Test.YteegefnjnikngaaGreatQ23
import Derived.Test.YteegefnjnikngaaGreatQ20
import Derived.Test.YteegefnjnikngaaGreatQ19
import Derived.Test.YteegefnjnikngaaGreatQ24
import Derived.Test.YteegefnjnikngaaGreatQ8
import Derived.Test.YteegefnjnikngaaGreatQ25
import Derived.Test.YteegefnjnikngaaGreatQ5
import Derived.Test.YteegefnjnikngaaGreatQ21
import Derived.Test.YteegefnjnikngaaGreatQ18
import Derived.Test.YteegefnjnikngaaGreatQ11
import Derived.Test.YteegefnjnikngaaGreatQ17
import Derived.Test.YteegefnjnikngaaGreatQ9
import Derived.Test.YteegefnjnikngaaGreatQ2
import Derived.Test.YteegefnjnikngaaGreatQ13
set_option maxRecDepth 100000
namespace Go.Proofs.YteegefnjnikngaaGreat
section
end
section
section
variable {names : List ByteArray} {l : List Eu}
end
end
section
open Go.RowKit Go.Deep
def XA (vs : List Value) (j : Nat) : Value := vs.getD j undef
section
variable {vs : List Value} {P : Nat → Bool} {base : Nat} {w wr : World} {g cap : Nat} {X : List Value}
end
end
section
open Go.RowKit Go.Deep
def uH (t : ax) : ax := flat (ordR (dU t))
def Z2 (w : World) (t : ax) (e : Ending) (w' : World) : Prop :=
 Up w w' ∧ ((az t ≠ 0 ∧ e = .returned (.tuple #[.agg #[.slice none 0 0, .slice none 0 0], .int .i64 1])) ∨ (az t = 0 ∧ ∃ v, e = .returned (.tuple #[v, .int .i64 0]) ∧ aC (fun b => w.heap.size ≤ b) w' v (uH t)))
set_option maxHeartbeats 2000000 in
theorem SZ (S : Nat → Prop) (w : World) (v : Value) (t : ax) (hT : aC S w v t) (hp : t.ps.length ≤ 1000000) (hn : t.ns.length ≤ 1000000) (hz : ∀ k, (gs t.ns k).size ≤ 70000) : Calls Tryz.prog 154 #[v] w (Z2 w t) := by
 obtain ⟨P, N, rfl, hP, hN⟩ := hT
 have hu := (Up.alloc w (.cells #[P, N] 39)).trans (Up.alloc _ (.cells #[.slice none 0 0, .slice none 0 0] 39))
 have kz : aC S ((w.alloc (.cells #[P, N] 39)).alloc (.cells #[.slice none 0 0, .slice none 0 0] 39)) (.agg #[P, N]) t := aC.keep ⟨P, N, rfl, hP, hN⟩ (hu.kept _)
 have fA := aa (vY S _ _ t kz hp hn hz)
 have HT := aa kz
 have HU := aa hu
 have fB := aa ((Up.alloc _ (.cells #[.slice none 0 0, .slice none 0 0] 39)).cell (ew w P N 39))
 have jN := aa ((Up.alloc _ (.cells #[.slice none 0 0, .slice none 0 0] 39)).cell (ey w P N 39))
 have hc0 := fB.out
 have hc1 := jN.out
 have hrb := fF (w := w.alloc (.cells #[P, N] 39)) (P := .slice none 0 0) (N := .slice none 0 0) (T := 39)
 have hsz : ((w.alloc (.cells #[P, N] 39)).alloc (.cells #[.slice none 0 0, .slice none 0 0] 39)).heap.size = w.heap.size + 2 := by simp
 rw [World.size_alloc] at hrb
 have jA := aa hrb
 have bQ := aa hsz
 clear hu kz hP hN hrb hsz
 go_enter Tryz.func154, Tryz.ntmps154
 go_wp2_with fail
 generalize (w.alloc (.cells #[P, N] 39)).alloc (.cells #[.slice none 0 0, .slice none 0 0] 39) = w1 at *
 refine fA.out.mono ?_
 rintro e w2 ⟨rfl, hb2⟩
 have aK : Up w1 w2 := hb2
 have hc0 := aK.cell fB.out
 have hc1 := aK.cell jN.out
 have q9 := aa (HT.out.keep (aK.kept S))
 have jg := (Below.block aK (w.heap.size + 1) (by rw [bQ.out]; omega)).trans jA.out
 have bH := aa (HU.out.trans aK)
 have kB : Hid (w.heap.size + 2 ≤ w2.heap.size) := by unfold Hid; have := aK.size; rw [bQ.out] at this; exact this
 clear hb2 aK fA HT HU fB jN jA
 by_cases he : az t = 0
 ·have HE := aa he
  rw [he]
  have fu := aa jg
  have vw := aa (Lt S t he (bY t 0) 0 (Nat.le_refl _) (aH he).1 w2 _ q9.out)
  have hsize := EW he
  have Z3 := E9 (dU t)
  have UQ := aa (And.intro hsize Z3)
  clear jg he hsize Z3
  go_wp2_with fail
  refine vw.out.mono ?_
  rintro e w3 ⟨cF, v3, rfl, hr3⟩
  have dS := aa cF
  have HOD := aa (PZ _ 64 (dU t) UQ.out.1 (by omega) w3 _ hr3)
  clear cF hr3 vw
  go_wp2_with fail
  refine HOD.out.mono ?_
  rintro e w4 ⟨b9, v4, rfl, hr4⟩
  have mD := aa (dS.out.trans b9)
  have nw := aa (A9 _ w4 _ (ordR (dU t)) hr4 (by have := UQ.out; omega))
  have LD : Hid (w.heap.size + 2 ≤ w4.heap.size) := by unfold Hid; have := mD.out.size; have := kB.out; omega
  clear b9 hr4 HOD dS
  go_wp2_with fail
  refine nw.out.mono ?_
  rintro e w5 ⟨eX, _, rfl, P4, N4, rfl, dZ, en⟩
  have dZ : aB (fun b => w4.heap.size ≤ b) w5 P4 (uH t).ps := dZ
  have en : av (fun b => w4.heap.size ≤ b) w5 N4 (uH t).ns := en
  obtain ⟨pp, pc, rfl, _, _⟩ := aD.open dZ
  obtain ⟨np, nc, rfl, _, _⟩ := aD.open en
  have jF := (Below.block (mD.out.trans eX) (w.heap.size + 1) (by have := kB.out; omega)).trans fu.out
  have kN : w5.cell? ⟨w.heap.size + 1, 0, none⟩ = some (.slice none 0 0) := by simp [World.cell?, jF]
  have hr1 : w5.cell? ⟨w.heap.size + 1, 1, none⟩ = some (.slice none 0 0) := by simp [World.cell?, jF]
  have B7 : w5.frozen? ⟨w.heap.size + 1, 0, none⟩ = false := by simp [World.frozen?, jF]
  have vg : w5.frozen? ⟨w.heap.size + 1, 1, none⟩ = false := by simp [World.frozen?, jF]
  have EJ := aa dZ
  have Px := aa en
  have HST := aa (dL (w := w) (p := .slice pp (uH t).ps.length pc) (q := .slice np (uH t).ns.length nc) jF (by omega) (bH.out.trans (mD.out.trans eX)))
  clear dZ en eX jF nw fu hc0 hc1
  go_wp2_with fail
  obtain ⟨s1, s2, s3, s4⟩ := HST.out
  have hs2 := kB.out
  have hs4 := LD.out
  refine ⟨rfl, .tuple #[.agg #[.slice pp (uH t).ps.length pc, .slice np (uH t).ns.length nc], .int .i64 0], by simp [results, Tryz.results154, go_sem, s2, s3], ?_⟩
  exact ⟨s1, .inr ⟨HE.out, _, rfl, _, _, rfl, (aB.keep EJ.out fun b hb _ => s4 b (by omega)).sub fun b hb _ => by omega, (av.keep Px.out fun b hb _ => s4 b (by omega)).sub fun b hb _ => by omega⟩⟩
 ·have Ae : (az t != 0) = true := by simpa using he
  have kN : w2.cell? ⟨w.heap.size + 1, 0, none⟩ = some (.slice none 0 0) := by simp [World.cell?, jg]
  have hr1 : w2.cell? ⟨w.heap.size + 1, 1, none⟩ = some (.slice none 0 0) := by simp [World.cell?, jg]
  have B7 : w2.frozen? ⟨w.heap.size + 1, 0, none⟩ = false := by simp [World.frozen?, jg]
  have vg : w2.frozen? ⟨w.heap.size + 1, 1, none⟩ = false := by simp [World.frozen?, jg]
  have HST := aa (dL (w := w) (p := .slice none 0 0) (q := .slice none 0 0) jg (by omega) bH.out)
  have HE := aa he
  clear he jg hc0 hc1
  generalize az t = te at Ae ⊢
  go_wp2_with fail
  obtain ⟨s1, s2, s3, s4⟩ := HST.out
  refine ⟨rfl, .tuple #[.agg #[.slice none 0 0, .slice none 0 0], .int .i64 1], by simp [results, Tryz.results154, go_sem, s2, s3], ?_⟩
  exact ⟨s1, .inl ⟨HE.out, rfl⟩⟩
end
section
section
variable {names : List ByteArray} {l : List Eu}
theorem Fa (ns : List ByteArray) : (ay ns).length = (mS ns).length := by
 unfold ay
 rw [List.length_map]
 have h : ∀ k, k ≤ ns.length → ((List.range k).filter fun i => (gs ns i).size ≠ 0).length = (mS (ns.take k)).length := by
  intro k
  induction k with
  | zero => intro _; rfl
  | succ k ih =>
   intro hk
   have hg : gs ns k = ns[k] := by simp [gs, show k < ns.length by omega]
   rw [List.range_succ, List.filter_append, List.length_append, ih (by omega), List.take_succ_eq_append_getElem (show k < ns.length by omega), ID, List.length_append, ← hg]
   congr 1
   unfold mS
   by_cases e : (gs ns k).size ≠ 0
   ·rw [List.filter_cons_of_pos (by simpa using e), List.filter_cons_of_pos (by simpa using e)]; rfl
   ·rw [List.filter_cons_of_neg (by simpa using e), List.filter_cons_of_neg (by simpa using e)]; rfl
 have := h ns.length (Nat.le_refl _)
 rw [List.take_length] at this
 exact this
end
end
section
open Go.RowKit Go.Deep
end
section
open Go.RowKit Go.Deep Go.Sort Go.Shelf Go.Lib
end
section
open Go.RowKit Go.Deep
theorem wO : ∀ a b : List UInt8, Op.bytesLess a b = decide (Lib.compareBytes a b < 0)
 | [], [] => rfl
 | [], _ :: _ => rfl
 | _ :: _, [] => rfl
 | a :: x, b :: y => by
  rw [Op.bytesLess, Lib.compareBytes, wO x y]
  by_cases h : a < b
  ·simp [h]
  ·by_cases h2 : b < a
   ·have : a ≠ b := by rintro rfl; exact h h2
    simp [h, h2, this]
   ·have : a = b := by
     apply UInt8.toNat.inj
     rw [UInt8.lt_iff_toNat_lt] at h h2; omega
    subst this
    simp [h]
theorem LF (a b : ByteArray) : yF a b = decide (cz a b < 0) := by
 unfold yF cz; rw [wO, Lib.toList_data, Lib.toList_data]
theorem mU (a b : ByteArray) : ji a b = if cz a b ≤ 0 then a else b := by
 unfold ji
 rw [LF]
 by_cases h : a.toList = b.toList
 ·have e : a = b := fc (by rw [← Lib.toList_data, ← Lib.toList_data, h])
  subst e
  simp [Ev]
 ·have e : cz a b ≠ 0 := fun q => h (by rw [gV q])
  by_cases h1 : cz a b ≤ 0
  ·rw [if_pos h1, if_pos]; simp; left; omega
  ·rw [if_neg h1, if_neg]; simp [h]; omega
theorem mM {a b c : ByteArray} (h : cz a b ≤ 0) (h' : cz b c ≤ 0) : cz a c ≤ 0 := by
 by_cases h1 : cz a b = 0
 ·rw [gV h1]; exact h'
 ·by_cases h2 : cz b c = 0
  ·rw [← gV h2]; exact h
  ·have := rz (a := a) (b := b) (c := c) (by omega) (by omega); omega
theorem IU {s a b : ByteArray} (h : cz a b ≤ 0) : ji (ji s a) b = ji s a := by
 rw [mU s a]
 split
 ·rename_i h1; rw [mU, if_pos (mM h1 h)]
 ·rw [mU, if_pos h]
theorem IV {s a b : ByteArray} (h : ¬ cz a b ≤ 0) : ji (ji s a) b = ji s b := by
 have hb := gU a b
 rw [mU s a]
 split
 ·rfl
 ·rename_i h1
  rw [mU a b, if_neg h, mU s b, if_neg]
  intro q
  exact h1 (mM q (by omega))
def hdMin (s : ByteArray) : List RT → ByteArray
 | [] => s
 | b :: _ => ji s (firstR b)
theorem P6 (s : ByteArray) (a : RT) : ∀ l, hdMin s (insR a l) = hdMin (ji s (firstR a)) l
 | [] => rfl
 | b :: l => by
  rw [insR]
  split
  ·rename_i h; show ji s _ = ji (ji s _) _; rw [IU h]
  ·rename_i h; show ji s _ = ji (ji s _) _; rw [IV h]
mutual
theorem rQ : ∀ r : RT, lstR r = firstR (sortR r)
 | .node nm [] => by rw [lstR, sortR, cW, firstR]
 | .node nm (k :: ks) => by
  rw [lstR, Al ks, rQ k, sortR, cW]
  cases h : cW ks with
  | nil => rfl
  | cons b l =>
   rw [insR]
   show ji _ _ = _
   rw [mU]
   split
   ·rw [firstR]
   ·rw [firstR]
theorem Al : ∀ (rs : List RT) (s : ByteArray), lstRs s rs = hdMin s (cW rs)
 | [], s => by rw [lstRs, cW]; rfl
 | r :: rs, s => by rw [lstRs, Al rs, rQ r, cW, P6]
end
theorem IW {s : ByteArray} {o : RT} (hs : s = firstR o) : ∀ {l : List RT}, (∀ b ∈ l, lstR b = firstR b) → pQ s o l = insR o l
 | [], _ => rfl
 | b :: l, h => by
  have hb := h b (by simp)
  have ha := gU (firstR b) (firstR o)
  have ih := IW hs (l := l) fun q hq => h q (by simp [hq])
  unfold pQ at ih ⊢
  rw [posK, insR, hb, LF, hs]
  by_cases e : cz (firstR o) (firstR b) ≤ 0
  ·rw [if_pos e, if_neg (by simp; omega)]; rfl
  ·rw [if_neg e, if_pos (by simp; omega), List.take_succ_cons, List.drop_succ_cons, List.cons_append, ← hs, ih]
theorem Fb {a b : RT} (h : firstR a ≠ firstR b) : ∀ l, insR a (insR b l) = insR b (insR a l)
 | [] => by
  have h1 := gU (firstR a) (firstR b)
  have h2 : cz (firstR a) (firstR b) ≠ 0 := fun q => h (gV q)
  simp only [insR]
  by_cases e : cz (firstR a) (firstR b) ≤ 0
  ·rw [if_pos e, if_neg (by omega)]
  ·rw [if_neg e, if_pos (by omega)]
 | c :: l => by
  have h1 := gU (firstR a) (firstR b)
  have h2 : cz (firstR a) (firstR b) ≠ 0 := fun q => h (gV q)
  by_cases ea : cz (firstR a) (firstR c) ≤ 0
  ·by_cases eb : cz (firstR b) (firstR c) ≤ 0
   ·by_cases e : cz (firstR a) (firstR b) ≤ 0
    ·have e' : ¬ cz (firstR b) (firstR a) ≤ 0 := by omega
     simp only [insR, ea, eb, e, e', if_true, if_false]
    ·have e' : cz (firstR b) (firstR a) ≤ 0 := by omega
     simp only [insR, ea, eb, e, e', if_true, if_false]
   ·have e' : ¬ cz (firstR b) (firstR a) ≤ 0 := fun q => eb (mM q ea)
    simp only [insR, ea, eb, e', if_true, if_false]
  ·by_cases eb : cz (firstR b) (firstR c) ≤ 0
   ·have e' : ¬ cz (firstR a) (firstR b) ≤ 0 := fun q => ea (mM q eb)
    simp only [insR, ea, eb, e', if_true, if_false]
   ·simp only [insR, ea, eb, if_false]
    rw [Fb h l]
theorem IX {a x : RT} : ∀ {l : List RT}, x ∈ insR a l ↔ x = a ∨ x ∈ l
 | [] => by simp [insR]
 | b :: l => by
  rw [insR]
  split
  ·simp
  ·rw [List.mem_cons, IX (l := l), List.mem_cons]
   constructor
   ·rintro (h | h | h) <;> simp [h]
   ·rintro (h | h | h) <;> simp [h]
def Dst (r : RT) : Prop := ∀ s ∈ subR r, (s.kids.map fun k => firstR (sortR k)).Nodup
def foldI (acc : List RT) : List RT → List RT
 | [] => acc
 | c :: cs => insR (sortR c) (foldI acc cs)
theorem Fc {a : RT} : ∀ (cs acc : List RT), (∀ c ∈ cs, firstR a ≠ firstR (sortR c)) → foldI (insR a acc) cs = insR a (foldI acc cs)
 | [], _, _ => rfl
 | c :: cs, acc, h => by
  rw [foldI, foldI, Fc cs acc (fun q hq => h q (by simp [hq])), Fb (h c (by simp))]
theorem Fe : ∀ cs : List RT, foldI [] cs = cW cs
 | [] => by rw [foldI, cW]
 | c :: cs => by rw [foldI, cW, Fe cs]
mutual
theorem IY : ∀ r : RT, Dst r → ordR r = sortR r
 | .node nm ks, h => by
  have h0 := h (.node nm ks) (by rw [subR]; simp)
  rw [ordR, sortR, Ff ks [] (fun s hs => h s (by rw [subR]; simp [hs])) h0 (by simp), Fe]
theorem Ff : ∀ (cs acc : List RT), (∀ s ∈ subRs cs, (s.kids.map fun k => firstR (sortR k)).Nodup) → (cs.map fun k => firstR (sortR k)).Nodup → (∀ b ∈ acc, lstR b = firstR b) → eW acc cs = foldI acc cs
 | [], acc, _, _, _ => by rw [eW, foldI]
 | c :: cs, acc, h, hn, ha => by
  have hc := IY c (fun s hs => h s (by rw [subRs]; simp [hs]))
  have hl : lstR (sortR c) = firstR (sortR c) := by rw [rQ, wJ]
  rw [List.map_cons, List.nodup_cons] at hn
  rw [eW, hc, IW (rQ c) ha, Ff cs _ (fun s hs => h s (by rw [subRs]; simp [hs])) hn.2 (fun b hb => by
   rcases IX.1 hb with rfl | hb
   ·exact hl
   ·exact ha b hb), foldI, Fc cs acc]
  intro q hq e
  exact hn.1 (List.mem_map.2 ⟨q, hq, e.symm⟩)
end
mutual
theorem IZ : ∀ (r s : RT), s ∈ subR r → (cQ s).Sublist (cQ r)
 | .node nm ks, s, h => by
  rw [subR, List.mem_cons] at h
  rcases h with rfl | h
  ·exact List.Sublist.refl _
  ·rw [cQ]; exact (Fg ks s h).trans (List.sublist_cons_self _ _)
theorem Fg : ∀ (rs : List RT) (s : RT), s ∈ subRs rs → (cQ s).Sublist (dr rs)
 | [], s, h => by simp [subRs] at h
 | r :: rs, s, h => by
  rw [subRs, List.mem_append] at h
  rw [dr]
  rcases h with h | h
  ·exact (IZ r s h).trans (List.sublist_append_left _ _)
  ·exact (Fg rs s h).trans (List.sublist_append_right _ _)
end
theorem lq {r s : RT} (h : s ∈ subR r) : (bu s).Sublist (bu r) := (IZ r s h).filter _
theorem jR (r : RT) : r ∈ subR r := by cases r; rw [subR]; simp
theorem wP : ∀ r : RT, (∀ s ∈ subR r, s.kids = [] → aZ s.nm.data.toList = true) → firstR r ∈ bu r
 | .node nm [], h => by
  have h1 : aZ nm.data.toList = true := h (.node nm []) (jR _) rfl
  rw [Nc (lU h1), firstR]; simp
 | .node nm (k :: ks), h => by
  have hk : ∀ s ∈ subR k, s ∈ subR (.node nm (k :: ks)) := fun s hs => by rw [subR, subRs]; simp [hs]
  rw [firstR]
  exact (lq (hk k (jR k))).subset (wP k fun s hs => h s (hk s hs))
theorem yL {k : RT} : ∀ {ks : List RT}, k ∈ ks → ∀ s ∈ subR k, s ∈ subRs ks
 | b :: ks, h, s, hs => by
  rw [subRs, List.mem_append]
  rcases List.mem_cons.1 h with rfl | h
  ·exact .inl hs
  ·exact .inr (yL h s hs)
mutual
theorem fH : ∀ (r : RT) {s u : RT}, s ∈ subR r → u ∈ subR s → u ∈ subR r
 | .node nm ks, s, u, h, hu => by
  rw [subR, List.mem_cons] at h
  rcases h with rfl | h
  ·exact hu
  ·rw [subR]; exact List.mem_cons_of_mem _ (Am ks h hu)
theorem Am : ∀ (rs : List RT) {s u : RT}, s ∈ subRs rs → u ∈ subR s → u ∈ subRs rs
 | [], s, u, h, _ => by simp [subRs] at h
 | r :: rs, s, u, h, hu => by
  rw [subRs, List.mem_append] at h ⊢
  rcases h with h | h
  ·exact .inl (fH r h hu)
  ·exact .inr (Am rs h hu)
end
theorem I1 {r : RT} (h : di r) : Dst r := by
 intro s hs
 have fk : (bu s).Nodup := (lq hs).nodup h.nd
 obtain ⟨nm, ks⟩ := s
 show (ks.map _).Nodup
 by_cases hk : ks = []
 ·subst hk; simp
 ·rw [iY (nm := nm) (ks := ks) (h.sR (.node nm ks) hs hk)] at fk
  have hmem : ∀ k ∈ ks, firstR (sortR k) ∈ bu k := fun k hk => (lV k).mem_iff.1 (wP _ fun q hq hqk => by
   obtain ⟨x, hx, rfl⟩ := List.mem_map.1 ((iW k).mem_iff.1 hq)
   rw [rE] at hqk
   rw [sU]
   exact h.lf x (fH r hs (by rw [subR]; exact List.mem_cons_of_mem _ (yL hk x hx))) (jY.1 hqk))
  clear hs hk
  induction ks with
  | nil => simp
  | cons k ks ih =>
   rw [List.flatMap_cons, List.nodup_append] at fk
   rw [List.map_cons, List.nodup_cons]
   refine ⟨fun hm => ?_, ih fk.2.1 fun q hq => hmem q (by simp [hq])⟩
   obtain ⟨q, hq, e⟩ := List.mem_map.1 hm
   exact fk.2.2 _ (hmem k (by simp)) _ (List.mem_flatMap.2 ⟨q, hq, hmem q (by simp [hq])⟩) e.symm
theorem P8 {t : ax} (h : az t = 0) : uH t = qT t := by
 unfold uH
 rw [IY _ (I1 (wK h)), yD h]
end
section
open Go.RowKit Go.Deep
end
section
open Go.RowKit Go.Deep
end
section
structure UR (r : RT) : Prop where
 nd : (bu r).Nodup
 pt : ∀ s ∈ subR r, IC s
theorem UR.good {r : RT} (h : UR r) : di r := ⟨fun s hs hk => (h.pt s hs).1 hk, fun s hs hk => (h.pt s hs).2.1 hk, h.nd⟩
theorem zv {nm : ByteArray} {ks : List RT} {k : RT} (hk : k ∈ ks) : k ∈ subR (.node nm ks) := by
 rw [subR]; exact List.mem_cons_of_mem _ (yL hk k (jR k))
theorem yM {u : RT} {ks : List RT} (h : u ∈ subRs ks) : ∃ k ∈ ks, u ∈ subR k := by
 rw [lT] at h
 obtain ⟨k, hk, hu⟩ := List.mem_flatMap.1 h
 exact ⟨k, hk, hu⟩
theorem S0 {a b : ByteArray} (ha : a.size = 0) (hb : b.size = 0) : a = b := by
 apply ByteArray.ext
 apply Array.ext
 ·show a.size = b.size; omega
 ·intro i hi _; have : i < a.size := hi; omega
end
section
open Go.RowKit Go.Deep
end
section
mutual
def contrR : RT → RT
 | .node nm [] => .node nm []
 | .node _ [k] => contrR k
 | .node nm (a :: b :: ks) => .node nm (contrR a :: contrR b :: contrRs ks)
def contrRs : List RT → List RT
 | [] => []
 | r :: rs => contrR r :: contrRs rs
end
theorem Ao : ∀ l : List RT, contrRs l = l.map contrR
 | [] => rfl
 | r :: l => by rw [contrRs, Ao l]; rfl
theorem nN (nm : ByteArray) (k : RT) : contrR (.node nm [k]) = contrR k := by rw [contrR]
theorem j9 {nm : ByteArray} {ks : List RT} (h : ks.length ≠ 1) : contrR (.node nm ks) = .node nm (ks.map contrR) := by
 match ks with
 | [] => rw [contrR]; rfl
 | [k] => simp at h
 | a :: b :: ks => rw [contrR, Ao]; rfl
theorem lu {nm : ByteArray} {ks : List RT} {k : RT} (h : k ∈ ks) : aI k < aI (.node nm ks) := by
 rw [aI]
 have : ∀ l : List RT, k ∈ l → aI k ≤ sizeRs l := fun l => by
  induction l with
  | nil => intro h; cases h
  | cons a l ih =>
   intro h
   rw [sizeRs]
   rcases List.mem_cons.1 h with rfl | h
   ·omega
   ·have := ih h; omega
 have := this ks h
 omega
theorem qH : ∀ (d : Nat) (r s : RT), aI r ≤ d → s ∈ subR (contrR r) → ∃ u ∈ subR r, u.kids.length ≠ 1 ∧ s = .node u.nm (u.kids.map contrR)
 | 0, r, _, hd, _ => by have := gW r; omega
 | d + 1, .node nm ks, s, hd, h => by
  by_cases h1 : ks.length = 1
  ·obtain ⟨k, rfl⟩ := List.length_eq_one_iff.1 h1
   rw [nN] at h
   obtain ⟨u, hu, e⟩ := qH d k s (by have := lu (nm := nm) (ks := [k]) (k := k) (by simp); omega) h
   exact ⟨u, fH _ (zv (by simp)) hu, e⟩
  ·rw [j9 h1, subR, List.mem_cons] at h
   rcases h with rfl | h
   ·exact ⟨_, jR _, h1, rfl⟩
   ·obtain ⟨q, hq, hs⟩ := yM h
    obtain ⟨k, hk, rfl⟩ := List.mem_map.1 hq
    obtain ⟨u, hu, e⟩ := qH d k s (by have := lu (nm := nm) hk; omega) hs
    exact ⟨u, fH _ (zv hk) hu, e⟩
theorem wQ : ∀ (d : Nat) (r : RT), aI r ≤ d → (∀ s ∈ subR r, s.kids ≠ [] → s.nm.size = 0) → bu (contrR r) = bu r
 | 0, r, hd, _ => by have := gW r; omega
 | d + 1, .node nm ks, hd, h => by
  have hk : ∀ k ∈ ks, bu (contrR k) = bu k := fun k hk => wQ d k (by have := lu (nm := nm) hk; omega) fun s hs => h s (fH _ (zv hk) hs)
  by_cases h0 : ks = []
  ·subst h0; rw [contrR]
  ·have hz : nm.size = 0 := h _ (jR _) h0
   by_cases h1 : ks.length = 1
   ·obtain ⟨k, rfl⟩ := List.length_eq_one_iff.1 h1
    rw [nN, hk k (by simp), iY hz]; simp
   ·rw [j9 h1, iY hz, iY hz, List.flatMap_map]
    have : ∀ l : List RT, (∀ k ∈ l, bu (contrR k) = bu k) → l.flatMap (fun k => bu (contrR k)) = l.flatMap bu := fun l => by
     induction l with
     | nil => intro _; rfl
     | cons a l ih => intro h; rw [List.flatMap_cons, List.flatMap_cons, h a (by simp), ih fun k hk => h k (by simp [hk])]
    exact this ks hk
theorem wR {r : RT} (h : di r) : di (contrR r) := by
 refine ⟨fun s hs hk => ?_, fun s hs hk => ?_, ?_⟩
 ·obtain ⟨u, hu, _, rfl⟩ := qH _ r s (Nat.le_refl _) hs
  exact h.sR u hu fun e => hk (by show u.kids.map contrR = []; rw [e]; rfl)
 ·obtain ⟨u, hu, _, rfl⟩ := qH _ r s (Nat.le_refl _) hs
  exact h.lf u hu (List.map_eq_nil_iff.1 hk)
 ·rw [wQ _ r (Nat.le_refl _) h.sR]; exact h.nd
section
variable {F : aP} {n : Nat} {rk : Nat → Nat}
theorem F7 (h : Wf F n rk) (i : Nat) : Wf (F.sub rk (gz F rk) i) n rk := ⟨fun z hz j hj => by
 have hj : j ∈ if _ then _ else _ := hj
 split at hj
 ·unfold gz at hj
  split at hj
  ·exact h.kid z hz j hj
  ·obtain ⟨c, hc, rfl⟩ := List.mem_map.1 hj
   obtain ⟨h1, h2⟩ := h.kid z hz c hc
   obtain ⟨a, b, _⟩ := zl h h1 (Nat.le_refl _)
   exact ⟨a, by omega⟩
 ·exact h.kid z hz j hj⟩
theorem LG {i z : Nat} (hs : aM F rk i z = true) (h1 : (F.kids z).length ≠ 1) : (F.sub rk (gz F rk) i).kids z = (F.kids z).map (cr F rk) := by
 show (if _ then _ else _) = _
 rw [if_pos hs]; unfold gz; rw [if_neg h1]
theorem zw (h : Wf F n rk) {i : Nat} (hi : i < n) : ∀ (d z : Nat), rk z ≤ d → z < n → aM F rk i z = true → aG (F.sub rk (gz F rk) i) rk (cr F rk z) = contrR (aG F rk z)
 | d, z, hd, hz, hs => by
  by_cases h1 : (F.kids z).length = 1
  ·obtain ⟨k, hk⟩ := List.length_eq_one_iff.1 h1
   have hkk := h.kid z hz k (by rw [hk]; simp)
   cases d with
   | zero => omega
   | succ d =>
    rw [vq h hz hk, bA h hz, hk, List.map_cons, List.map_nil, nN]
    exact zw h hi d k (by omega) hkk.1 (dV h hi (Nat.le_refl _) hs (bz h hz (by rw [hk]; simp) (aN h hkk.1)))
  ·rw [kH h hz h1, bA h hz, j9 (by rw [List.length_map]; exact h1), bA (F7 h i) hz, LG hs h1, List.map_map, List.map_map]
   congr 1
   refine List.map_congr_left fun k hk => ?_
   have hkk := h.kid z hz k hk
   cases d with
   | zero => omega
   | succ d => exact zw h hi d k (by omega) hkk.1 (dV h hi (Nat.le_refl _) hs (bz h hz hk (aN h hkk.1)))
theorem I2 (h : Wf F n rk) {i : Nat} (hi : i < n) : ∀ (d y z : Nat), rk y ≤ d → y < n → aM F rk i y = true → aM F rk y z = true → (F.kids z).length ≠ 1 → aM (F.sub rk (gz F rk) i) rk (cr F rk y) z = true
 | d, y, z, hd, hy, hs, hz, h1 => by
  have hc := zl h hy (Nat.le_refl _)
  rcases fE h hy hz with e | ⟨k, hk, h2⟩
  ·subst e; rw [kH h hy h1]; exact aN (F7 h i) hy
  ·have hkk := h.kid y hy k hk
   have hsk := dV h hi (Nat.le_refl _) hs (bz h hy hk (aN h hkk.1))
   cases d with
   | zero => omega
   | succ d =>
    have ih := I2 h hi d k z (by omega) hkk.1 hsk h2 h1
    by_cases h3 : (F.kids y).length = 1
    ·obtain ⟨q, hq⟩ := List.length_eq_one_iff.1 h3
     rw [hq] at hk
     have : k = q := by simpa using hk
     subst this
     rw [vq h hy hq]; exact ih
    ·rw [kH h hy h3]
     exact bz (F7 h i) hy (by rw [LG hs h3]; exact List.mem_map.2 ⟨k, hk, rfl⟩) ih
theorem tZ (h : Wf F n rk) {i z : Nat} (hi : i < n) (hs : aM F rk i z = true) : aG F rk z ∈ subR (aG F rk i) := by
 rw [jO h hi (Nat.le_refl _)]
 exact List.mem_map.2 ⟨z, (bX h hi (Nat.le_refl _)).2 hs, rfl⟩
theorem S1 (h : Wf F n rk) {i z : Nat} (hi : i < n) (hg : di (aG F rk i)) (hz : z < n) (hs : aM F rk i z = true) : ((F.kids z).map (fD F rk)).Nodup := by
 have h1 := I1 hg _ (tZ h hi hs)
 rw [nJ h hz, List.map_map] at h1
 have : (F.kids z).map ((fun k => firstR (sortR k)) ∘ aG F rk) = (F.kids z).map (fD F rk) := by
  refine List.map_congr_left fun k hk => ?_
  have hkk := h.kid z hz k hk
  exact (A5 h (fun _ => true) hkk.1 (Nat.le_refl _) fun _ _ => rfl).2
 rw [this] at h1; exact h1
theorem Ws {f : Nat → ByteArray} {l : List Nat} (h : (l.map f).Nodup) : l.Nodup ∧ Sep f l := by
 unfold List.Nodup at h
 rw [List.pairwise_map] at h
 refine ⟨h.imp fun h e => h (by rw [e]), fun x hx y hy e => ?_⟩
 obtain ⟨i, hi, rfl⟩ := List.getElem_of_mem hx
 obtain ⟨j, hj, rfl⟩ := List.getElem_of_mem hy
 have hp := List.pairwise_iff_getElem.1 h
 rcases Nat.lt_trichotomy i j with c | c | c
 ·exact absurd e (hp i j hi hj c)
 ·subst c; rfl
 ·exact absurd e.symm (hp j i hj hi c)
theorem P9 {f : Nat → ByteArray} {l : List Nat} (h : l.length ≤ 1) : l.Nodup ∧ Sep f l := by
 match l with
 | [] => exact ⟨List.nodup_nil, fun x hx => by cases hx⟩
 | [a] => exact ⟨by simp, fun x hx y hy _ => by simp at hx hy; rw [hx, hy]⟩
 | a :: b :: l => simp at h
theorem wS (h : Wf F n rk) : ∀ (d i : Nat), rk i ≤ d → i < n → di (aG F rk i) → (bF F rk i).Nodup
 | d, i, hd, hi, hg => by
  rw [cw h hi, List.nodup_cons]
  have hsub : ∀ k ∈ F.kids i, aG F rk k ∈ subR (aG F rk i) := fun k hk => tZ h hi (bz h hi hk (aN h (h.kid i hi k hk).1))
  have Ed : ∀ k ∈ F.kids i, di (aG F rk k) := fun k hk => ⟨fun s hs => hg.sR s (fH _ (hsub k hk) hs), fun s hs => hg.lf s (fH _ (hsub k hk) hs), (lq (hsub k hk)).nodup hg.nd⟩
  refine ⟨fun hm => ?_, ?_⟩
  ·obtain ⟨k, hk, hm⟩ := List.mem_flatMap.1 hm
   have hkk := h.kid i hi k hk
   have := nE h hkk.1 ((bX h hkk.1 (Nat.le_refl _)).1 hm)
   omega
  ·by_cases h0 : F.kids i = []
   ·rw [h0]; simp
   ·have fk := hg.nd
    rw [bA h hi, iY (by have := hg.sR _ (jR _); rw [nI h hi, nJ h hi] at this; exact this (fun e => h0 (List.map_eq_nil_iff.1 e))), List.flatMap_map, List.nodup_iff_pairwise_ne, List.pairwise_flatMap] at fk
    rw [List.nodup_iff_pairwise_ne, List.pairwise_flatMap]
    refine ⟨fun k hk => ?_, ?_⟩
    ·have hkk := h.kid i hi k hk
     cases d with
     | zero => omega
     | succ d => exact wS h d k (by omega) hkk.1 (Ed k hk)
    ·refine fk.2.imp_of_mem ?_
     intro a b ha hb hab x hx y hy e
     subst e
     have hka := h.kid i hi a ha
     have hkb := h.kid i hi b hb
     have h1 := tZ h hka.1 ((bX h hka.1 (Nat.le_refl _)).1 hx)
     have h2 := tZ h hkb.1 ((bX h hkb.1 (Nat.le_refl _)).1 hy)
     have hf := wP (aG F rk x) fun s hs => (Ed a ha).lf s (fH _ h1 hs)
     exact hab _ ((lq h1).subset hf) _ ((lq h2).subset hf) rfl
end
end
section
section
variable {n : Nat} {S : List (List Int)}
end
end
section
open Go.RowKit Go.Deep
end
section
section
variable {F : aP} {n : Nat} {rk : Nat → Nat}
theorem S2 (h : Wf F n rk) : ∀ {d i : Nat} (p : Option Nat) (np : Int) (s : xG), i < n → rk i ≤ d → (bF F rk i).Nodup → p ≠ some i → s.mp.lookup p = some np → (∀ j ∈ bF F rk i, s.mp.lookup (some j) = none) →
  F4 s ((dR F rk i p).foldl (oa F) s) (psR (aG F rk i) s.ps.length np) (cQ (aG F rk i)) (bF F rk i) := by
 intro d
 induction d with
 | zero =>
  intro i p np s hi hd Z4 hp hl hn
  have hk : F.kids i = [] := by
   cases hk : F.kids i with
   | nil => rfl
   | cons k l => have := (h.kid i hi k (by rw [hk]; simp)).2; omega
  rw [gD h hi, bA h hi, cw h hi, hk]
  have hni := hn i (by rw [cw h hi]; simp)
  refine ⟨?_, ?_, fun k hk2 => dK _ (hk2 i (by simp))⟩
  ·show s.ps ++ [((k9 s.mp (some i) _).lookup p).getD 0] = _
   rw [dK _ hp, hl]; rfl
  ·rfl
 | succ d ih =>
  intro i p np s hi hd Z4 hp hl hn
  rw [gD h hi, bA h hi, cw h hi]
  have hni := hn i (by rw [cw h hi]; simp)
  have fk := Z4
  rw [cw h hi, List.nodup_cons] at fk
  have key : ∀ (l : List Nat), (∀ k ∈ l, k ∈ F.kids i) → (l.flatMap fun k => bF F rk k).Nodup → (∀ k ∈ l, i ∉ bF F rk k) → ∀ (s2 : xG) (own : Nat), s2.mp.lookup (some i) = some (own : Int) → (∀ k ∈ l, ∀ j ∈ bF F rk k, s2.mp.lookup (some j) = none) →
    F4 s2 ((l.flatMap fun k => dR F rk k (some i)).foldl (oa F) s2) (psRs (l.map (aG F rk)) own s2.ps.length) (dr (l.map (aG F rk))) (l.flatMap fun k => bF F rk k) := by
   intro l
   induction l with
   | nil => intro _ _ _ s2 own _ _; exact ⟨by simp [psRs], by simp [dr], fun _ _ => rfl⟩
   | cons c l ihl =>
    intro hin hdl hil s2 own ho hno
    have hcc := h.kid i hi c (hin c (by simp))
    rw [List.flatMap_cons, List.foldl_append, List.flatMap_cons]
    rw [List.flatMap_cons, List.nodup_append] at hdl
    have h1 := ih (some i) (own : Int) s2 hcc.1 (by omega) hdl.1 (fun e => by
     injection e with e
     have := hcc.2; rw [e] at this; omega) ho (hno c (by simp))
    have h2 := ihl (fun k hk => hin k (by simp [hk])) hdl.2.1 (fun k hk => hil k (by simp [hk])) ((dR F rk c (some i)).foldl (oa F) s2) own
     ((h1.old (some i) (fun j hj e => by injection e with e; subst e; exact hil c (by simp) hj)).trans ho)
     (fun k hk j hj => (h1.old (some j) (fun j2 hj2 e => by
      injection e with e; subst e
      exact hdl.2.2 j hj2 j (List.mem_flatMap.2 ⟨k, hk, hj⟩) rfl)).trans (hno k (by simp [hk]) j hj))
    refine ⟨?_, ?_, fun k hk => ?_⟩
    ·rw [h2.ps, h1.ps, List.map_cons, psRs, List.append_assoc, List.length_append, lQ]
    ·rw [h2.ns, h1.ns, List.map_cons, dr, List.append_assoc]
    ·rw [h2.old k (fun j hj => hk j (by simp [hj])), h1.old k (fun j hj => hk j (by simp [hj]))]
  have hin : ∀ k ∈ F.kids i, i ∉ bF F rk k := fun k hk hm => fk.1 (List.mem_flatMap.2 ⟨k, hk, hm⟩)
  have h3 := key (F.kids i) (fun k hk => hk) fk.2 hin (oa F s (i, p)) s.ps.length (tT _ hni) (fun k hk j hj => by
   show (k9 s.mp (some i) _).lookup (some j) = none
   rw [dK _ (fun e => by injection e with e; subst e; exact hin k hk hj)]
   exact hn j (by rw [cw h hi]; exact List.mem_cons_of_mem _ (List.mem_flatMap.2 ⟨k, hk, hj⟩)))
  have hps : (oa F s (i, p)).ps = s.ps ++ [np] := by
   show s.ps ++ [((k9 s.mp (some i) _).lookup p).getD 0] = _
   rw [dK _ hp, hl]; rfl
  rw [List.foldl_cons]
  refine ⟨?_, ?_, fun k hk => ?_⟩
  ·rw [h3.ps, hps, psR, List.append_assoc, List.length_append]; rfl
  ·rw [h3.ns]
   show (s.ns ++ [F.nm i]) ++ _ = _
   rw [cQ, List.append_assoc]; rfl
  ·rw [h3.old k (fun j hj => hk j (by simp [hj]))]
   exact dK _ (hk i (by simp))
theorem Ap (h : Wf F n rk) {i : Nat} (hi : i < n) (fk : (bF F rk i).Nodup) : fO F rk i = flat (aG F rk i) := by
 have h1 := S2 h (d := rk i) none (-1) Du hi (Nat.le_refl _) fk (fun e => by cases e) rfl (fun j _ => rfl)
 unfold fO flat cI
 rw [h1.ps, h1.ns]
 rfl
theorem KG (h : Wf F n rk) {i : Nat} (hi : i < n) (hg : di (aG F rk i)) (hl : ∀ z, z < n → (F.kids z).length ≤ 1000) (hout : ∀ z, z < n → aM F rk i z = false → (F.kids z).length ≤ 1) : wA (F.sub rk (gz F rk) i) n rk := by
 have hw := F7 h i
 have hlen : ∀ z, ((F.sub rk (gz F rk) i).kids z).length = (F.kids z).length := fun z => by
  show (if _ then _ else _ : List Nat).length = _
  split
  ·unfold gz; split
   ·rfl
   ·rw [List.length_map]
  ·rfl
 have hr := zl h hi (Nat.le_refl _)
 have hgr : di (aG (F.sub rk (gz F rk) i) rk (cr F rk i)) := by
  rw [zw h hi (rk i) i (Nat.le_refl _) hi (aN h hi)]; exact wR hg
 have key : ∀ z, z < n → ((F.sub rk (gz F rk) i).kids z).Nodup ∧ Sep (fD (F.sub rk (gz F rk) i) rk) ((F.sub rk (gz F rk) i).kids z) := fun z hz => by
  by_cases h1 : (F.kids z).length ≤ 1
  ·exact P9 (by rw [hlen]; exact h1)
  ·cases hs : aM F rk i z with
   | false => exact absurd (hout z hz hs) h1
   | true => exact Ws (S1 hw hr.1 hgr hz (I2 h hi (rk i) i z (Nat.le_refl _) hi (aN h hi) hs (by omega)))
 exact ⟨hw, fun z hz => (key z hz).2, fun z hz => (key z hz).1, fun z hz => by rw [hlen]; exact hl z hz⟩
theorem S3 (h : Wf F n rk) {i : Nat} (hi : i < n) (hg : di (aG F rk i)) {p : Nat → Bool} (hp : ∀ j, aM F rk i j = true → p j = true) :
  fO (F.fU rk p) rk i = flat (sortR (aG F rk i)) ∧ (dR (F.fU rk p) rk i none).length = aI (aG F rk i) := by
 have he := (A5 h p hi (Nat.le_refl _) hp).1
 have hw := h.fU p
 have hg2 : di (aG (F.fU rk p) rk i) := by rw [he]; exact hg.sort
 refine ⟨by rw [Ap hw hi (wS hw _ i (Nat.le_refl _) hi hg2), he], ?_⟩
 have h1 := congrArg List.length (jO hw hi (Nat.le_refl _))
 rw [List.length_map, jh, he, wH] at h1
 rw [h1]; unfold bF; rw [List.length_map]
end
end
section
section
variable {names : List ByteArray} {l : List Eu} {S : List (List Int)}
end
end
end Go.Proofs.YteegefnjnikngaaGreat
