/- The contract of layer 31's reference's Canonical. The tree of groups that are not in conflict: valid, its leaves are the names, no node has one child. Contracts: Support, Original, Significant of sharederror. What Consistent computes: plain. slices.Equal at strings. A region that draws its order, only reads, and ends in one operation that may write: outside a round. slices.Sort at ints that the call has built. Forests whose nodes change below one node: plain. The reference's canonical tree is the canonical tree: its order is the sort's order. Contracts of the references: Check of layer 30; right, check, Support, Original, Significant of layer 35. Which parts the rose tree of nested sets has: the sets, and the single sources. The plain law of SharederrorLeaves. The walk of sharederror.Consistent. The law's leaves. phylotree.pruned: what it does to the forest. -/
import Derived.Test.YtpnmblnahjjmhaaGreatQ17
import Derived.Test.YtpnmblnahjjmhaaGreatQ18
import Derived.Test.YtpnmblnahjjmhaaGreatQ13
import Derived.Test.YtpnmblnahjjmhaaGreatQ14
import Derived.Test.YtpnmblnahjjmhaaGreatQ3
import Derived.Test.YtpnmblnahjjmhaaGreatQ1
import Derived.Shelf.SortM.Plain
import Derived.Shelf.SortM.SortNone
import Derived.Sort.OwnSortedInts
import Derived.Test.YtpnmblnahjjmhaaGreatQ9
import Derived.Test.YtpnmblnahjjmhaaGreatQ16
namespace Go.Proofs.YtpnmblnahjjmhaaGreat
set_option maxRecDepth 100000
section
open Go.RowKit Go.Deep
def sB (t : aJ) : aJ := flat (ordR (gh t))
def XQ (w : World) (t : aJ) (e : Ending) (w' : World) : Prop :=
 Up w w' ∧ ((aK t ≠ 0 ∧ e = .returned (.tuple #[.agg #[.slice none 0 0, .slice none 0 0], .int .i64 1])) ∨ (aK t = 0 ∧ ∃ v, e = .returned (.tuple #[v, .int .i64 0]) ∧ aO (fun b => w.heap.size ≤ b) w' v (sB t)))
set_option maxHeartbeats 2000000 in
theorem R4 (S : Nat → Prop) (w : World) (v : Value) (t : aJ) (hT : aO S w v t) (hp : t.ps.length ≤ 1000000) (hn : t.ns.length ≤ 1000000) (hz : ∀ k, (gs t.ns k).size ≤ 70000) : Calls Tryz.prog 119 #[v] w (XQ w t) := by
 obtain ⟨P, N, rfl, hP, hN⟩ := hT
 have hu := (Up.alloc w (.cells #[P, N] 39)).trans (Up.alloc _ (.cells #[.slice none 0 0, .slice none 0 0] 39))
 have o5 : aO S ((w.alloc (.cells #[P, N] 39)).alloc (.cells #[.slice none 0 0, .slice none 0 0] 39)) (.agg #[P, N]) t := aO.keep ⟨P, N, rfl, hP, hN⟩ (hu.kept _)
 have fO := ag (Gr S _ _ t o5 hp hn hz)
 have HT := ag o5
 have HU := ag hu
 have iZ := ag ((Up.alloc _ (.cells #[.slice none 0 0, .slice none 0 0] 39)).cell (dg w P N 39))
 have eH := ag ((Up.alloc _ (.cells #[.slice none 0 0, .slice none 0 0] 39)).cell (dy w P N 39))
 have hc0 := iZ.out
 have hc1 := eH.out
 have hrb := lu (w := w.alloc (.cells #[P, N] 39)) (P := .slice none 0 0) (N := .slice none 0 0) (T := 39)
 have hsz : ((w.alloc (.cells #[P, N] 39)).alloc (.cells #[.slice none 0 0, .slice none 0 0] 39)).heap.size = w.heap.size + 2 := by simp
 rw [World.size_alloc] at hrb
 have gQ := ag hrb
 have dG := ag hsz
 clear hu o5 hP hN hrb hsz
 aq Tryz.func119, Tryz.ntmps119
 aa fail
 generalize (w.alloc (.cells #[P, N] 39)).alloc (.cells #[.slice none 0 0, .slice none 0 0] 39) = w1 at *
 refine fO.out.mono ?_
 rintro e w2 ⟨rfl, bK⟩
 have aL : Up w1 w2 := bK
 have hc0 := aL.cell iZ.out
 have hc1 := aL.cell eH.out
 have zM := ag (HT.out.keep (aL.kept S))
 have iz := (Below.block aL (w.heap.size + 1) (by rw [dG.out]; omega)).trans gQ.out
 have cM := ag (HU.out.trans aL)
 have xS : Hid (w.heap.size + 2 ≤ w2.heap.size) := by unfold Hid; have := aL.size; rw [dG.out] at this; exact this
 clear bK aL fO HT HU iZ eH gQ
 by_cases he : aK t = 0
 ·have HE := ag he
  rw [he]
  have pL := ag iz
  have Uq := ag (VG S t he (cI t 0) 0 (Nat.le_refl _) (aP he).1 w2 _ zM.out)
  have hsize := DZ he
  have XR := D5 (gh t)
  have HSI := ag (And.intro hsize XR)
  clear iz he hsize XR
  aa fail
  refine Uq.out.mono ?_
  rintro e w3 ⟨cL, v3, rfl, ow⟩
  have dI := ag cL
  have HOD := ag (OT _ 64 (gh t) HSI.out.1 (by omega) w3 _ ow)
  clear cL ow Uq
  aa fail
  refine HOD.out.mono ?_
  rintro e w4 ⟨eG, v4, rfl, DQ⟩
  have gd := ag (dI.out.trans eG)
  have mO := ag (RP _ w4 _ (ordR (gh t)) DQ (by have := HSI.out; omega))
  have sC : Hid (w.heap.size + 2 ≤ w4.heap.size) := by unfold Hid; have := gd.out.size; have := xS.out; omega
  clear eG DQ HOD dI
  aa fail
  refine mO.out.mono ?_
  rintro e w5 ⟨fS, _, rfl, P4, N4, rfl, oz, oA⟩
  have oz : an (fun b => w4.heap.size ≤ b) w5 P4 (sB t).ps := oz
  have oA : aG (fun b => w4.heap.size ≤ b) w5 N4 (sB t).ns := oA
  obtain ⟨pp, pc, rfl, _, _⟩ := aC.open oz
  obtain ⟨np, nc, rfl, _, _⟩ := aC.open oA
  have jN := (Below.block (gd.out.trans fS) (w.heap.size + 1) (by have := xS.out; omega)).trans pL.out
  have sg : w5.cell? ⟨w.heap.size + 1, 0, none⟩ = some (.slice none 0 0) := by simp [World.cell?, jN]
  have jg : w5.cell? ⟨w.heap.size + 1, 1, none⟩ = some (.slice none 0 0) := by simp [World.cell?, jN]
  have uQ : w5.frozen? ⟨w.heap.size + 1, 0, none⟩ = false := by simp [World.frozen?, jN]
  have mB : w5.frozen? ⟨w.heap.size + 1, 1, none⟩ = false := by simp [World.frozen?, jN]
  have DS := ag oz
  have OA := ag oA
  have cu := ag (fD (w := w) (p := .slice pp (sB t).ps.length pc) (q := .slice np (sB t).ns.length nc) jN (by omega) (cM.out.trans (gd.out.trans fS)))
  clear oz oA fS jN mO pL hc0 hc1
  aa fail
  obtain ⟨s1, s2, s3, s4⟩ := cu.out
  have hs2 := xS.out
  have hs4 := sC.out
  refine ⟨rfl, .tuple #[.agg #[.slice pp (sB t).ps.length pc, .slice np (sB t).ns.length nc], .int .i64 0], by simp [results, Tryz.results119, go_sem, s2, s3], ?_⟩
  exact ⟨s1, .inr ⟨HE.out, _, rfl, _, _, rfl, (an.keep DS.out fun b hb _ => s4 b (by omega)).sub fun b hb _ => by omega, (aG.keep OA.out fun b hb _ => s4 b (by omega)).sub fun b hb _ => by omega⟩⟩
 ·have F0 : (aK t != 0) = true := by simpa using he
  have sg : w2.cell? ⟨w.heap.size + 1, 0, none⟩ = some (.slice none 0 0) := by simp [World.cell?, iz]
  have jg : w2.cell? ⟨w.heap.size + 1, 1, none⟩ = some (.slice none 0 0) := by simp [World.cell?, iz]
  have uQ : w2.frozen? ⟨w.heap.size + 1, 0, none⟩ = false := by simp [World.frozen?, iz]
  have mB : w2.frozen? ⟨w.heap.size + 1, 1, none⟩ = false := by simp [World.frozen?, iz]
  have cu := ag (fD (w := w) (p := .slice none 0 0) (q := .slice none 0 0) iz (by omega) cM.out)
  have HE := ag he
  clear he iz hc0 hc1
  generalize aK t = te at F0 ⊢
  aa fail
  obtain ⟨s1, s2, s3, s4⟩ := cu.out
  refine ⟨rfl, .tuple #[.agg #[.slice none 0 0, .slice none 0 0], .int .i64 1], by simp [results, Tryz.results119, go_sem, s2, s3], ?_⟩
  exact ⟨s1, .inl ⟨HE.out, rfl⟩⟩
end
section
section
variable {names : List ByteArray} {l : List DO}
theorem R5 (names : List ByteArray) : (List.range names.length).map (gs names) = names := by
 refine List.ext_getElem (by simp) fun i h1 h2 => ?_
 simp [gs, h2]
end
end
section
open Go.RowKit Go.Deep
section
variable {P : Program} {ops : Array Oper} {rest : List Oper} {o : Oper} {a : Act} {Q : Exit → Act → World → Prop}
end
end
section
theorem JF {l : List (ByteArray × Value)} {k j : ByteArray} {v : Value} : (sA l k v).lookup j = if j = k then some v else l.lookup j := by
 unfold sA
 split
 ·rename_i h
  have h0 : l.lookup k = none := by simpa using h
  rw [List.lookup_append]
  by_cases e : j = k
  ·subst e; rw [if_pos rfl, h0]; simp [List.lookup, pO]
  ·rw [if_neg e]
   have : List.lookup j [(k, v)] = none := by simp [List.lookup, ri e]
   rw [this]; simp
 ·rename_i h
  have h0 : (l.lookup k).isSome := by
   cases hl : l.lookup k with
   | none => rw [hl] at h; exact absurd rfl h
   | some x => rfl
  clear h
  induction l with
  | nil => cases h0
  | cons y l ih =>
   obtain ⟨y1, y2⟩ := y
   rw [List.map_cons]
   by_cases e1 : y1 = k
   ·subst e1
    rw [if_pos rfl, List.lookup_cons]
    by_cases e : j = y1
    ·subst e; rw [pO, if_pos rfl]
    ·rw [ri e, if_neg e, List.lookup_cons, ri e]
     have hm : ∀ l : List (ByteArray × Value), List.lookup j (l.map fun x => if x.1 = y1 then (y1, v) else x) = List.lookup j l := by
      intro l
      induction l with
      | nil => rfl
      | cons z l ihl =>
       obtain ⟨z1, z2⟩ := z
       rw [List.map_cons]
       by_cases ez : z1 = y1
       ·subst ez; rw [if_pos rfl, List.lookup_cons, ri e, List.lookup_cons, ri e]; exact ihl
       ·rw [if_neg ez, List.lookup_cons, List.lookup_cons, ihl]
     exact hm l
   ·rw [if_neg e1, List.lookup_cons, List.lookup_cons]
    rw [List.lookup_cons, ri (fun h => e1 h.symm)] at h0
    by_cases e : j = y1
    ·subst e; rw [pO, if_neg e1]
    ·rw [ri e]; exact ih h0
end
section
open Go.RowKit Go.Deep
end
section
open Go.RowKit Go.Shelf Go.Deep
section
variable {P : Program} {C : World → Prop}
end
end
section
open Go.RowKit Go.Shelf Go.Deep Go.Sort
def oJ (xs : List Int) : List Int := xs.mergeSort fun x y => decide (x ≤ y)
theorem qw (xs : List Int) : (oJ xs).length = xs.length := List.length_mergeSort _
end
section
section
variable {F G : bA} {n : Nat} {rk : Nat → Nat}
theorem D9 (h : Wf F n rk) {i : Nat} (hi : i < n) (h0 : rk i ≤ 0) : F.kids i = [] := by
 cases hk : F.kids i with
 | nil => rfl
 | cons k l => have := (h.bF i hi k (by rw [hk]; simp)).2; omega
theorem R6 (hF : Wf F n rk) (hG : Wf G n rk) : ∀ {d c : Nat}, c < n → rk c ≤ d → (∀ z, cG F rk c z = true → G.kids z = F.kids z) → ∀ z, cG G rk c z = cG F rk c z := by
 intro d
 induction d with
 | zero =>
  intro c hc hd hz z
  rw [iI hF hc, iI hG hc, D9 hF hc hd, D9 hG hc hd]; rfl
 | succ d ih =>
  intro c hc hd hz z
  rw [iI hF hc, iI hG hc, hz c (ji hF hc)]
  congr 1
  rw [Bool.eq_iff_iff, List.any_eq_true, List.any_eq_true]
  have key : ∀ k ∈ F.kids c, cG G rk k z = cG F rk k z := fun k hk => by
   have hkk := hF.bF c hc k hk
   exact ih hkk.1 (by omega) (fun y hy => hz y (nu hF hc hk hy)) z
  constructor
  ·rintro ⟨k, hk, e⟩; exact ⟨k, hk, by rw [← key k hk]; exact e⟩
  ·rintro ⟨k, hk, e⟩; exact ⟨k, hk, by rw [key k hk]; exact e⟩
end
end
section
open Go.RowKit Go.Deep
theorem Gz : ∀ a b : List UInt8, Op.bytesLess a b = decide (Lib.compareBytes a b < 0)
 | [], [] => rfl
 | [], _ :: _ => rfl
 | _ :: _, [] => rfl
 | a :: x, b :: y => by
  rw [Op.bytesLess, Lib.compareBytes, Gz x y]
  by_cases h : a < b
  ·simp [h]
  ·by_cases h2 : b < a
   ·have : a ≠ b := by rintro rfl; exact h h2
    simp [h, h2, this]
   ·have : a = b := by
     apply UInt8.toNat.inj
     rw [UInt8.lt_iff_toNat_lt] at h h2; omega
    subst this
    simp [h]
theorem Kr (a b : ByteArray) : xV a b = decide (cW a b < 0) := by
 unfold xV cW; rw [Gz, Lib.toList_data, Lib.toList_data]
theorem nA (a b : ByteArray) : jB a b = if cW a b ≤ 0 then a else b := by
 unfold jB
 rw [Kr]
 by_cases h : a.toList = b.toList
 ·have e : a = b := uD (by rw [← Lib.toList_data, ← Lib.toList_data, h])
  subst e
  simp [Dx]
 ·have e : cW a b ≠ 0 := fun q => h (by rw [iC q])
  by_cases h1 : cW a b ≤ 0
  ·rw [if_pos h1, if_pos]; simp; left; omega
  ·rw [if_neg h1, if_neg]; simp [h]; omega
theorem mY {a b c : ByteArray} (h : cW a b ≤ 0) (h' : cW b c ≤ 0) : cW a c ≤ 0 := by
 by_cases h1 : cW a b = 0
 ·rw [iC h1]; exact h'
 ·by_cases h2 : cW b c = 0
  ·rw [← iC h2]; exact h
  ·have := qS (a := a) (b := b) (c := c) (by omega) (by omega); omega
theorem GA {s a b : ByteArray} (h : cW a b ≤ 0) : jB (jB s a) b = jB s a := by
 rw [nA s a]
 split
 ·rename_i h1; rw [nA, if_pos (mY h1 h)]
 ·rw [nA, if_pos h]
theorem GB {s a b : ByteArray} (h : ¬ cW a b ≤ 0) : jB (jB s a) b = jB s b := by
 have hb := iB a b
 rw [nA s a]
 split
 ·rfl
 ·rename_i h1
  rw [nA a b, if_neg h, nA s b, if_neg]
  intro q
  exact h1 (mY q (by omega))
def hdMin (s : ByteArray) : List RT → ByteArray
 | [] => s
 | b :: _ => jB s (firstR b)
theorem O0 (s : ByteArray) (a : RT) : ∀ l, hdMin s (insR a l) = hdMin (jB s (firstR a)) l
 | [] => rfl
 | b :: l => by
  rw [insR]
  split
  ·rename_i h; show jB s _ = jB (jB s _) _; rw [GA h]
  ·rename_i h; show jB s _ = jB (jB s _) _; rw [GB h]
mutual
theorem ru : ∀ r : RT, lstR r = firstR (sortR r)
 | .node nm [] => by rw [lstR, sortR, dX, firstR]
 | .node nm (k :: ks) => by
  rw [lstR, zS ks, ru k, sortR, dX]
  cases h : dX ks with
  | nil => rfl
  | cons b l =>
   rw [insR]
   show jB _ _ = _
   rw [nA]
   split
   ·rw [firstR]
   ·rw [firstR]
theorem zS : ∀ (rs : List RT) (s : ByteArray), lstRs s rs = hdMin s (dX rs)
 | [], s => by rw [lstRs, dX]; rfl
 | r :: rs, s => by rw [lstRs, zS rs, ru r, dX, O0]
end
theorem GC {s : ByteArray} {o : RT} (hs : s = firstR o) : ∀ {l : List RT}, (∀ b ∈ l, lstR b = firstR b) → pM s o l = insR o l
 | [], _ => rfl
 | b :: l, h => by
  have hb := h b (by simp)
  have ha := iB (firstR b) (firstR o)
  have ih := GC hs (l := l) fun q hq => h q (by simp [hq])
  unfold pM at ih ⊢
  rw [posK, insR, hb, Kr, hs]
  by_cases e : cW (firstR o) (firstR b) ≤ 0
  ·rw [if_pos e, if_neg (by simp; omega)]; rfl
  ·rw [if_neg e, if_pos (by simp; omega), List.take_succ_cons, List.drop_succ_cons, List.cons_append, ← hs, ih]
theorem x9 {a b : RT} (h : firstR a ≠ firstR b) : ∀ l, insR a (insR b l) = insR b (insR a l)
 | [] => by
  have h1 := iB (firstR a) (firstR b)
  have h2 : cW (firstR a) (firstR b) ≠ 0 := fun q => h (iC q)
  simp only [insR]
  by_cases e : cW (firstR a) (firstR b) ≤ 0
  ·rw [if_pos e, if_neg (by omega)]
  ·rw [if_neg e, if_pos (by omega)]
 | c :: l => by
  have h1 := iB (firstR a) (firstR b)
  have h2 : cW (firstR a) (firstR b) ≠ 0 := fun q => h (iC q)
  by_cases ea : cW (firstR a) (firstR c) ≤ 0
  ·by_cases eb : cW (firstR b) (firstR c) ≤ 0
   ·by_cases e : cW (firstR a) (firstR b) ≤ 0
    ·have e' : ¬ cW (firstR b) (firstR a) ≤ 0 := by omega
     simp only [insR, ea, eb, e, e', if_true, if_false]
    ·have e' : cW (firstR b) (firstR a) ≤ 0 := by omega
     simp only [insR, ea, eb, e, e', if_true, if_false]
   ·have e' : ¬ cW (firstR b) (firstR a) ≤ 0 := fun q => eb (mY q ea)
    simp only [insR, ea, eb, e', if_true, if_false]
  ·by_cases eb : cW (firstR b) (firstR c) ≤ 0
   ·have e' : ¬ cW (firstR a) (firstR b) ≤ 0 := fun q => ea (mY q eb)
    simp only [insR, ea, eb, e', if_true, if_false]
   ·simp only [insR, ea, eb, if_false]
    rw [x9 h l]
theorem GD {a x : RT} : ∀ {l : List RT}, x ∈ insR a l ↔ x = a ∨ x ∈ l
 | [] => by simp [insR]
 | b :: l => by
  rw [insR]
  split
  ·simp
  ·rw [List.mem_cons, GD (l := l), List.mem_cons]
   constructor
   ·rintro (h | h | h) <;> simp [h]
   ·rintro (h | h | h) <;> simp [h]
def Dst (r : RT) : Prop := ∀ s ∈ subR r, (s.kids.map fun k => firstR (sortR k)).Nodup
def foldI (acc : List RT) : List RT → List RT
 | [] => acc
 | c :: cs => insR (sortR c) (foldI acc cs)
theorem Ea {a : RT} : ∀ (cs acc : List RT), (∀ c ∈ cs, firstR a ≠ firstR (sortR c)) → foldI (insR a acc) cs = insR a (foldI acc cs)
 | [], _, _ => rfl
 | c :: cs, acc, h => by
  rw [foldI, foldI, Ea cs acc (fun q hq => h q (by simp [hq])), x9 (h c (by simp))]
theorem Eb : ∀ cs : List RT, foldI [] cs = dX cs
 | [] => by rw [foldI, dX]
 | c :: cs => by rw [foldI, dX, Eb cs]
mutual
theorem GF : ∀ r : RT, Dst r → ordR r = sortR r
 | .node nm ks, h => by
  have h0 := h (.node nm ks) (by rw [subR]; simp)
  rw [ordR, sortR, Ec ks [] (fun s hs => h s (by rw [subR]; simp [hs])) h0 (by simp), Eb]
theorem Ec : ∀ (cs acc : List RT), (∀ s ∈ subRs cs, (s.kids.map fun k => firstR (sortR k)).Nodup) → (cs.map fun k => firstR (sortR k)).Nodup → (∀ b ∈ acc, lstR b = firstR b) → fk acc cs = foldI acc cs
 | [], acc, _, _, _ => by rw [fk, foldI]
 | c :: cs, acc, h, hn, ha => by
  have hc := GF c (fun s hs => h s (by rw [subRs]; simp [hs]))
  have hl : lstR (sortR c) = firstR (sortR c) := by rw [ru, BD]
  rw [List.map_cons, List.nodup_cons] at hn
  rw [fk, hc, GC (ru c) ha, Ec cs _ (fun s hs => h s (by rw [subRs]; simp [hs])) hn.2 (fun b hb => by
   rcases GD.1 hb with rfl | hb
   ·exact hl
   ·exact ha b hb), foldI, Ea cs acc]
  intro q hq e
  exact hn.1 (List.mem_map.2 ⟨q, hq, e.symm⟩)
end
mutual
theorem GG : ∀ (r s : RT), s ∈ subR r → (cT s).Sublist (cT r)
 | .node nm ks, s, h => by
  rw [subR, List.mem_cons] at h
  rcases h with rfl | h
  ·exact List.Sublist.refl _
  ·rw [cT]; exact (Ed ks s h).trans (List.sublist_cons_self _ _)
theorem Ed : ∀ (rs : List RT) (s : RT), s ∈ subRs rs → (cT s).Sublist (cR rs)
 | [], s, h => by simp [subRs] at h
 | r :: rs, s, h => by
  rw [subRs, List.mem_append] at h
  rw [cR]
  rcases h with h | h
  ·exact (GG r s h).trans (List.sublist_append_left _ _)
  ·exact (Ed rs s h).trans (List.sublist_append_right _ _)
end
theorem cQ {r s : RT} (h : s ∈ subR r) : (bH s).Sublist (bH r) := (GG r s h).filter _
theorem cE (r : RT) : r ∈ subR r := by cases r; rw [subR]; simp
theorem ry : ∀ r : RT, (∀ s ∈ subR r, s.kids = [] → bM s.nm.data.toList = true) → firstR r ∈ bH r
 | .node nm [], h => by
  have h1 : bM nm.data.toList = true := h (.node nm []) (cE _) rfl
  rw [jl (eS h1), firstR]; simp
 | .node nm (k :: ks), h => by
  have hk : ∀ s ∈ subR k, s ∈ subR (.node nm (k :: ks)) := fun s hs => by rw [subR, subRs]; simp [hs]
  rw [firstR]
  exact (cQ (hk k (cE k))).subset (ry k fun s hs => h s (hk s hs))
theorem yd {k : RT} : ∀ {ks : List RT}, k ∈ ks → ∀ s ∈ subR k, s ∈ subRs ks
 | b :: ks, h, s, hs => by
  rw [subRs, List.mem_append]
  rcases List.mem_cons.1 h with rfl | h
  ·exact .inl hs
  ·exact .inr (yd h s hs)
mutual
theorem gK : ∀ (r : RT) {s u : RT}, s ∈ subR r → u ∈ subR s → u ∈ subR r
 | .node nm ks, s, u, h, hu => by
  rw [subR, List.mem_cons] at h
  rcases h with rfl | h
  ·exact hu
  ·rw [subR]; exact List.mem_cons_of_mem _ (zT ks h hu)
theorem zT : ∀ (rs : List RT) {s u : RT}, s ∈ subRs rs → u ∈ subR s → u ∈ subRs rs
 | [], s, u, h, _ => by simp [subRs] at h
 | r :: rs, s, u, h, hu => by
  rw [subRs, List.mem_append] at h ⊢
  rcases h with h | h
  ·exact .inl (gK r h hu)
  ·exact .inr (zT rs h hu)
end
theorem AB {r : RT} (h : gX r) : Dst r := by
 intro s hs
 have eZ : (bH s).Nodup := (cQ hs).nodup h.nd
 obtain ⟨nm, ks⟩ := s
 show (ks.map _).Nodup
 by_cases hk : ks = []
 ·subst hk; simp
 ·rw [fU (nm := nm) (ks := ks) (h.uU (.node nm ks) hs hk)] at eZ
  have hmem : ∀ k ∈ ks, firstR (sortR k) ∈ bH k := fun k hk => (qW k).mem_iff.1 (ry _ fun q hq Ur => by
   obtain ⟨x, hx, rfl⟩ := List.mem_map.1 ((jY k).mem_iff.1 hq)
   rw [vC] at Ur
   rw [vD]
   exact h.lf x (gK r hs (by rw [subR]; exact List.mem_cons_of_mem _ (yd hk x hx))) (vE.1 Ur))
  clear hs hk
  induction ks with
  | nil => simp
  | cons k ks ih =>
   rw [List.flatMap_cons, List.nodup_append] at eZ
   rw [List.map_cons, List.nodup_cons]
   refine ⟨fun hm => ?_, ih eZ.2.1 fun q hq => hmem q (by simp [hq])⟩
   obtain ⟨q, hq, e⟩ := List.mem_map.1 hm
   exact eZ.2.2 _ (hmem k (by simp)) _ (List.mem_flatMap.2 ⟨q, hq, hmem q (by simp [hq])⟩) e.symm
theorem O1 {t : aJ} (h : aK t = 0) : sB t = iy t := by
 unfold sB
 rw [GF _ (AB (lD h)), nP h]
end
section
open Go.RowKit Go.Deep
end
section
end
section
section
variable {names : List ByteArray} {l : List DO}
end
end
section
open Go.RowKit Go.Shelf Go.Deep
end
section
open Go.RowKit Go.Deep
end
section
open Go.RowKit Go.Deep
section
variable {P : Program} {ops : Array Oper} {rest : List Oper} {o : Oper} {a : Act} {Q : Exit → Act → World → Prop}
theorem qa (W : World) (hgd : o.guard = none) (s x : Operand) (t : TypeId) (ho : o.op = .call { callee := .builtin .append, args := #[s, x], argTypes := #[t, t] })
  (base : Nat) (e : TypeId) (z : Value) (bytes : Nat) (ht : P.underlying t = some (.slice e)) (hinfo : (P.info? e).map (fun i => (i.zero, i.size, i.bytes)) = some (some z, 1, bytes))
  (hz1 : z.cells.size = 1) (kB : bytes ≤ 64) {v : Value} {vs : List Value} (hown : ay base e W v vs) (hs : a.eval s = v) (u : Value)
  (hx : a.eval x = .slice (some ⟨W.heap.size, 0, none⟩) 1 1) (h1 : u.oneCell' = true) (k : Nat) (uZ : vs.length = k) (hn : k ≤ 1000000) (hbase : base ≤ W.heap.size)
  (h : ∀ g cap w', ay base e w' (.slice (some ⟨g, 0, none⟩) (k + 1) cap) (vs ++ [u]) → W.grownBy w' v.ownBlock → (v.ownBlock = some g ∨ W.heap.size ≤ g) → wpList P ops Q rest (a.put o.dst (.slice (some ⟨g, 0, none⟩) (k + 1) cap)) w') :
  wpList P ops Q (o :: rest) a (W.alloc (.cells #[u] e)) := by
 subst uZ
 obtain ⟨i, hi, je⟩ := Option.map_eq_some_iff.1 hinfo
 simp only [Prod.mk.injEq] at je
 obtain ⟨hz, hs1, hb⟩ := je
 refine wpList_append_lies _ hgd s x t ho base e i z 1 bytes ht hi hz hs1 hb hz1 (by omega) v vs.length vs hs (hown.alloc _) ⟨W.heap.size, 0, none⟩ 1 1 [u] hx rfl (cell_one_new _ _ _) (by simpa using h1) (by omega)
  (by unfold maxLen; omega) ?_ (by simp; omega) _ rfl fun g cap w' h2 h3 h4 _ => h g cap w' ?_ (pZ h3) (h4.imp id fun e => by rw [e, World.size_alloc]; omega)
 ·have : (vs.length + 1) * bytes ≤ (vs.length + 1) * 64 := Nat.mul_le_mul_left _ kB
  omega
 ·unfold ay; rw [List.length_append]; exact h2
end
section
variable {n base : Nat} {A : Nat → Nat} {kv : Nat → Value} {F : bA} {w w' w2 : World} {P : Nat → Bool} {rk : Nat → Nat}
theorem bZ.XS {G : bA} (h : bZ base n A kv F w) (e : ∀ j, j < n → G.nm j = F.nm j ∧ G.old j = F.old j ∧ G.kids j = F.kids j) : bZ base n A kv G w :=
 ⟨fun i hi => by rw [(e i hi).1, (e i hi).2.1]; exact h.node i hi, h.lo, h.inj, fun i hi => by rw [(e i hi).2.2]; exact h.own i hi, h.apart, h.alone, fun i hi => by rw [(e i hi).2.2]; exact h.bF i hi⟩
end
end
end Go.Proofs.YtpnmblnahjjmhaaGreat
