/- The reference's canonical tree is the canonical tree: its order is the sort's order. The .. -/
import Derived.Test.YthgabkgmkolobaaGreatQ1
import Derived.Test.YthgabkgmkolobaaGreatQ21
import Derived.Test.YthgabkgmkolobaaGreatQ16
import Derived.Test.YthgabkgmkolobaaGreatQ7
import Derived.Deep.CutRange
import Derived.Test.YthgabkgmkolobaaGreatQ19
import Derived.Test.YthgabkgmkolobaaGreatQ15
import Derived.Test.YthgabkgmkolobaaGreatQ6
import Derived.Test.YthgabkgmkolobaaGreatQ17
import Derived.Test.YthgabkgmkolobaaGreatQ5
import Derived.Test.YthgabkgmkolobaaGreatQ14
set_option maxRecDepth 100000
namespace Go.Proofs.YthgabkgmkolobaaGreat
section
open Go.RowKit Go.Deep
theorem r6 : ∀ a b : List UInt8, Op.bytesLess a b = decide (Lib.compareBytes a b < 0)
 | [], [] => rfl
 | [], _ :: _ => rfl
 | _ :: _, [] => rfl
 | a :: x, b :: y => by
  rw [Op.bytesLess, Lib.compareBytes, r6 x y]
  by_cases h : a < b
  ·simp [h]
  ·by_cases h2 : b < a
   ·have : a ≠ b := by rintro rfl; exact h h2
    simp [h, h2, this]
   ·have : a = b := by
     apply UInt8.toNat.inj
     rw [UInt8.lt_iff_toNat_lt] at h h2; omega
    subst this
    simp [h]
theorem Ld (a b : ByteArray) : ye a b = decide (b9 a b < 0) := by
 unfold ye b9; rw [r6, Lib.toList_data, Lib.toList_data]
theorem mH (a b : ByteArray) : iP a b = if b9 a b ≤ 0 then a else b := by
 unfold iP
 rw [Ld]
 by_cases h : a.toList = b.toList
 ·have e : a = b := eL (by rw [← Lib.toList_data, ← Lib.toList_data, h])
  subst e
  simp [DY]
 ·have e : b9 a b ≠ 0 := fun q => h (by rw [gC q])
  by_cases h1 : b9 a b ≤ 0
  ·rw [if_pos h1, if_pos]; simp; left; omega
  ·rw [if_neg h1, if_neg]; simp [h]; omega
theorem mC {a b c : ByteArray} (h : b9 a b ≤ 0) (h' : b9 b c ≤ 0) : b9 a c ≤ 0 := by
 by_cases h1 : b9 a b = 0
 ·rw [gC h1]; exact h'
 ·by_cases h2 : b9 b c = 0
  ·rw [← gC h2]; exact h
  ·have := qK (a := a) (b := b) (c := c) (by omega) (by omega); omega
theorem G9 {s a b : ByteArray} (h : b9 a b ≤ 0) : iP (iP s a) b = iP s a := by
 rw [mH s a]
 split
 ·rename_i h1; rw [mH, if_pos (mC h1 h)]
 ·rw [mH, if_pos h]
theorem He {s a b : ByteArray} (h : ¬ b9 a b ≤ 0) : iP (iP s a) b = iP s b := by
 have hb := gA a b
 rw [mH s a]
 split
 ·rfl
 ·rename_i h1
  rw [mH a b, if_neg h, mH s b, if_neg]
  intro q
  exact h1 (mC q (by omega))
def hdMin (s : ByteArray) : List RT → ByteArray
 | [] => s
 | b :: _ => iP s (firstR b)
theorem Pg (s : ByteArray) (a : RT) : ∀ l, hdMin s (insR a l) = hdMin (iP s (firstR a)) l
 | [] => rfl
 | b :: l => by
  rw [insR]
  split
  ·rename_i h; show iP s _ = iP (iP s _) _; rw [G9 h]
  ·rename_i h; show iP s _ = iP (iP s _) _; rw [He h]
mutual
theorem qR : ∀ r : RT, lstR r = firstR (sortR r)
 | .node nm [] => by rw [lstR, sortR, cz, firstR]
 | .node nm (k :: ks) => by
  rw [lstR, Ab ks, qR k, sortR, cz]
  cases h : cz ks with
  | nil => rfl
  | cons b l =>
   rw [insR]
   show iP _ _ = _
   rw [mH]
   split
   ·rw [firstR]
   ·rw [firstR]
theorem Ab : ∀ (rs : List RT) (s : ByteArray), lstRs s rs = hdMin s (cz rs)
 | [], s => by rw [lstRs, cz]; rfl
 | r :: rs, s => by rw [lstRs, Ab rs, qR r, cz, Pg]
end
theorem Hf {s : ByteArray} {o : RT} (hs : s = firstR o) : ∀ {l : List RT}, (∀ b ∈ l, lstR b = firstR b) → oQ s o l = insR o l
 | [], _ => rfl
 | b :: l, h => by
  have hb := h b (by simp)
  have ha := gA (firstR b) (firstR o)
  have ih := Hf hs (l := l) fun q hq => h q (by simp [hq])
  unfold oQ at ih ⊢
  rw [posK, insR, hb, Ld, hs]
  by_cases e : b9 (firstR o) (firstR b) ≤ 0
  ·rw [if_pos e, if_neg (by simp; omega)]; rfl
  ·rw [if_neg e, if_pos (by simp; omega), List.take_succ_cons, List.drop_succ_cons, List.cons_append, ← hs, ih]
theorem ym {a b : RT} (h : firstR a ≠ firstR b) : ∀ l, insR a (insR b l) = insR b (insR a l)
 | [] => by
  have h1 := gA (firstR a) (firstR b)
  have h2 : b9 (firstR a) (firstR b) ≠ 0 := fun q => h (gC q)
  simp only [insR]
  by_cases e : b9 (firstR a) (firstR b) ≤ 0
  ·rw [if_pos e, if_neg (by omega)]
  ·rw [if_neg e, if_pos (by omega)]
 | c :: l => by
  have h1 := gA (firstR a) (firstR b)
  have h2 : b9 (firstR a) (firstR b) ≠ 0 := fun q => h (gC q)
  by_cases ea : b9 (firstR a) (firstR c) ≤ 0
  ·by_cases eb : b9 (firstR b) (firstR c) ≤ 0
   ·by_cases e : b9 (firstR a) (firstR b) ≤ 0
    ·have e' : ¬ b9 (firstR b) (firstR a) ≤ 0 := by omega
     simp only [insR, ea, eb, e, e', if_true, if_false]
    ·have e' : b9 (firstR b) (firstR a) ≤ 0 := by omega
     simp only [insR, ea, eb, e, e', if_true, if_false]
   ·have e' : ¬ b9 (firstR b) (firstR a) ≤ 0 := fun q => eb (mC q ea)
    simp only [insR, ea, eb, e', if_true, if_false]
  ·by_cases eb : b9 (firstR b) (firstR c) ≤ 0
   ·have e' : ¬ b9 (firstR a) (firstR b) ≤ 0 := fun q => ea (mC q eb)
    simp only [insR, ea, eb, e', if_true, if_false]
   ·simp only [insR, ea, eb, if_false]
    rw [ym h l]
theorem Hg {a x : RT} : ∀ {l : List RT}, x ∈ insR a l ↔ x = a ∨ x ∈ l
 | [] => by simp [insR]
 | b :: l => by
  rw [insR]
  split
  ·simp
  ·rw [List.mem_cons, Hg (l := l), List.mem_cons]
   constructor
   ·rintro (h | h | h) <;> simp [h]
   ·rintro (h | h | h) <;> simp [h]
def Dst (r : RT) : Prop := ∀ s ∈ subR r, (s.kids.map fun k => firstR (sortR k)).Nodup
def foldI (acc : List RT) : List RT → List RT
 | [] => acc
 | c :: cs => insR (sortR c) (foldI acc cs)
theorem EC {a : RT} : ∀ (cs acc : List RT), (∀ c ∈ cs, firstR a ≠ firstR (sortR c)) → foldI (insR a acc) cs = insR a (foldI acc cs)
 | [], _, _ => rfl
 | c :: cs, acc, h => by
  rw [foldI, foldI, EC cs acc (fun q hq => h q (by simp [hq])), ym (h c (by simp))]
theorem ED : ∀ cs : List RT, foldI [] cs = cz cs
 | [] => by rw [foldI, cz]
 | c :: cs => by rw [foldI, cz, ED cs]
mutual
theorem Hh : ∀ r : RT, Dst r → ordR r = sortR r
 | .node nm ks, h => by
  have h0 := h (.node nm ks) (by rw [subR]; simp)
  rw [ordR, sortR, EE ks [] (fun s hs => h s (by rw [subR]; simp [hs])) h0 (by simp), ED]
theorem EE : ∀ (cs acc : List RT), (∀ s ∈ subRs cs, (s.kids.map fun k => firstR (sortR k)).Nodup) → (cs.map fun k => firstR (sortR k)).Nodup → (∀ b ∈ acc, lstR b = firstR b) → eE acc cs = foldI acc cs
 | [], acc, _, _, _ => by rw [eE, foldI]
 | c :: cs, acc, h, hn, ha => by
  have hc := Hh c (fun s hs => h s (by rw [subRs]; simp [hs]))
  have hl : lstR (sortR c) = firstR (sortR c) := by rw [qR, vL]
  rw [List.map_cons, List.nodup_cons] at hn
  rw [eE, hc, Hf (qR c) ha, EE cs _ (fun s hs => h s (by rw [subRs]; simp [hs])) hn.2 (fun b hb => by
   rcases Hg.1 hb with rfl | hb
   ·exact hl
   ·exact ha b hb), foldI, EC cs acc]
  intro q hq e
  exact hn.1 (List.mem_map.2 ⟨q, hq, e.symm⟩)
end
mutual
theorem Hi : ∀ (r s : RT), s ∈ subR r → (cM s).Sublist (cM r)
 | .node nm ks, s, h => by
  rw [subR, List.mem_cons] at h
  rcases h with rfl | h
  ·exact List.Sublist.refl _
  ·rw [cM]; exact (EF ks s h).trans (List.sublist_cons_self _ _)
theorem EF : ∀ (rs : List RT) (s : RT), s ∈ subRs rs → (cM s).Sublist (dg rs)
 | [], s, h => by simp [subRs] at h
 | r :: rs, s, h => by
  rw [subRs, List.mem_append] at h
  rw [dg]
  rcases h with h | h
  ·exact (Hi r s h).trans (List.sublist_append_left _ _)
  ·exact (EF rs s h).trans (List.sublist_append_right _ _)
end
theorem mW {r s : RT} (h : s ∈ subR r) : (cg s).Sublist (cg r) := (Hi r s h).filter _
theorem gF (r : RT) : r ∈ subR r := by cases r; rw [subR]; simp
theorem vX : ∀ r : RT, (∀ s ∈ subR r, s.kids = [] → aY s.nm.data.toList = true) → firstR r ∈ cg r
 | .node nm [], h => by
  have h1 : aY nm.data.toList = true := h (.node nm []) (gF _) rfl
  rw [MJ (fL h1), firstR]; simp
 | .node nm (k :: ks), h => by
  have hk : ∀ s ∈ subR k, s ∈ subR (.node nm (k :: ks)) := fun s hs => by rw [subR, subRs]; simp [hs]
  rw [firstR]
  exact (mW (hk k (gF k))).subset (vX k fun s hs => h s (hk s hs))
theorem yq {k : RT} : ∀ {ks : List RT}, k ∈ ks → ∀ s ∈ subR k, s ∈ subRs ks
 | b :: ks, h, s, hs => by
  rw [subRs, List.mem_append]
  rcases List.mem_cons.1 h with rfl | h
  ·exact .inl hs
  ·exact .inr (yq h s hs)
mutual
theorem gy : ∀ (r : RT) {s u : RT}, s ∈ subR r → u ∈ subR s → u ∈ subR r
 | .node nm ks, s, u, h, hu => by
  rw [subR, List.mem_cons] at h
  rcases h with rfl | h
  ·exact hu
  ·rw [subR]; exact List.mem_cons_of_mem _ (Ac ks h hu)
theorem Ac : ∀ (rs : List RT) {s u : RT}, s ∈ subRs rs → u ∈ subR s → u ∈ subRs rs
 | [], s, u, h, _ => by simp [subRs] at h
 | r :: rs, s, u, h, hu => by
  rw [subRs, List.mem_append] at h ⊢
  rcases h with h | h
  ·exact .inl (gy r h hu)
  ·exact .inr (Ac rs h hu)
end
theorem Hj {r : RT} (h : fK r) : Dst r := by
 intro s hs
 have eT : (cg s).Nodup := (mW hs).nodup h.nd
 obtain ⟨nm, ks⟩ := s
 show (ks.map _).Nodup
 by_cases hk : ks = []
 ·subst hk; simp
 ·rw [jJ (nm := nm) (ks := ks) (h.wY (.node nm ks) hs hk)] at eT
  have hmem : ∀ k ∈ ks, firstR (sortR k) ∈ cg k := fun k hk => (qP k).mem_iff.1 (vX _ fun q hq hqk => by
   obtain ⟨x, hx, rfl⟩ := List.mem_map.1 ((jt k).mem_iff.1 hq)
   rw [lJ] at hqk
   rw [oK]
   exact h.lf x (gy r hs (by rw [subR]; exact List.mem_cons_of_mem _ (yq hk x hx))) (jE.1 hqk))
  clear hs hk
  induction ks with
  | nil => simp
  | cons k ks ih =>
   rw [List.flatMap_cons, List.nodup_append] at eT
   rw [List.map_cons, List.nodup_cons]
   refine ⟨fun hm => ?_, ih eT.2.1 fun q hq => hmem q (by simp [hq])⟩
   obtain ⟨q, hq, e⟩ := List.mem_map.1 hm
   exact eT.2.2 _ (hmem k (by simp)) _ (List.mem_flatMap.2 ⟨q, hq, hmem q (by simp [hq])⟩) e.symm
theorem Ph {t : ay} (h : az t = 0) : tW t = qp t := by
 unfold tW
 rw [Hh _ (Hj (rY h)), x8 h]
end
section
section
variable {names : List ByteArray} {l : List UR}
theorem Sn (names : List ByteArray) : (List.range names.length).map (gs names) = names := by
 refine List.ext_getElem (by simp) fun i h1 h2 => ?_
 simp [gs, h2]
end
end
section
open Go.RowKit Go.Deep
section
variable {P : Program} {ops : Array Oper} {rest : List Oper} {o : Oper} {a : Act} {Q : Exit → Act → World → Prop}
theorem fM (W : World) (hgd : o.guard = none) (s x : Operand) (t : TypeId) (ho : o.op = .call { callee := .builtin .append, args := #[s, x], argTypes := #[t, t] })
  (base : Nat) (e : TypeId) (z : Value) (bytes : Nat) (ht : P.underlying t = some (.slice e)) (hinfo : (P.info? e).map (fun i => (i.zero, i.size, i.bytes)) = some (some z, 1, bytes))
  (hz1 : z.cells.size = 1) (mg : bytes ≤ 64) {v : Value} {vs : List Value} (hown : aC base e W v vs) (hs : a.eval s = v) (u : Value)
  (hx : a.eval x = .slice (some ⟨W.heap.size, 0, none⟩) 1 1) (h1 : u.oneCell' = true) (k : Nat) (zN : vs.length = k) (hn : k ≤ 1000000) (hbase : base ≤ W.heap.size)
  (h : ∀ g cap w', aC base e w' (.slice (some ⟨g, 0, none⟩) (k + 1) cap) (vs ++ [u]) → W.grownBy w' v.ownBlock → (v.ownBlock = some g ∨ W.heap.size ≤ g) → wpList P ops Q rest (a.put o.dst (.slice (some ⟨g, 0, none⟩) (k + 1) cap)) w') :
  wpList P ops Q (o :: rest) a (W.alloc (.cells #[u] e)) := by
 subst zN
 obtain ⟨i, hi, hzz⟩ := Option.map_eq_some_iff.1 hinfo
 simp only [Prod.mk.injEq] at hzz
 obtain ⟨hz, hs1, hb⟩ := hzz
 refine wpList_append_lies _ hgd s x t ho base e i z 1 bytes ht hi hz hs1 hb hz1 (by omega) v vs.length vs hs (hown.alloc _) ⟨W.heap.size, 0, none⟩ 1 1 [u] hx rfl (cell_one_new _ _ _) (by simpa using h1) (by omega)
  (by unfold maxLen; omega) ?_ (by simp; omega) _ rfl fun g cap w' h2 h3 h4 _ => h g cap w' ?_ (iK h3) (h4.imp id fun e => by rw [e, World.size_alloc]; omega)
 ·have : (vs.length + 1) * bytes ≤ (vs.length + 1) * 64 := Nat.mul_le_mul_left _ mg
  omega
 ·unfold aC; rw [List.length_append]; exact h2
end
section
variable {n base : Nat} {A : Nat → Nat} {kv : Nat → Value} {F : aT} {w w' w2 : World} {P : Nat → Bool} {rk : Nat → Nat}
theorem bq.Zj {G : aT} (h : bq base n A kv F w) (e : ∀ j, j < n → G.nm j = F.nm j ∧ G.old j = F.old j ∧ G.kids j = F.kids j) : bq base n A kv G w :=
 ⟨fun i hi => by rw [(e i hi).1, (e i hi).2.1]; exact h.node i hi, h.lo, h.inj, fun i hi => by rw [(e i hi).2.2]; exact h.own i hi, h.apart, h.alone, fun i hi => by rw [(e i hi).2.2]; exact h.kid i hi⟩
end
end
section
structure yt (r : RT) : Prop where
 nd : (cg r).Nodup
 pt : ∀ s ∈ subR r, G7 s
theorem yt.good {r : RT} (h : yt r) : fK r := ⟨fun s hs hk => (h.pt s hs).1 hk, fun s hs hk => (h.pt s hs).2.1 hk, h.nd⟩
theorem Sq {a b : ByteArray} (ha : a.size = 0) (hb : b.size = 0) : a = b := by
 apply ByteArray.ext
 apply Array.ext
 ·show a.size = b.size; omega
 ·intro i hi _; have : i < a.size := hi; omega
end
section
def climb (ps : List Int) (n : Nat) : Nat → Nat → Nat
 | 0, k => k
 | d + 1, k => if n < k then climb ps n d (gi ps k).toNat else k
def l5 (ps : List Int) (n i : Nat) : Bool := decide (climb ps n i i = n)
theorem oT {ps : List Int} (h : fZ ps = true) {k : Nat} (hk : k < ps.length) (h0 : 0 < k) : 0 ≤ gi ps k ∧ gi ps k < k := by
 have h1 := CN h hk
 unfold jb at h1
 rw [if_neg (by omega)] at h1
 simpa using h1
theorem MK {ps : List Int} (hp : fZ ps = true) (n : Nat) : ∀ {d e k : Nat}, k < ps.length → k ≤ d → k ≤ e → climb ps n d k = climb ps n e k := by
 intro d
 induction d with
 | zero =>
  intro e k hl h1 h2
  obtain rfl : k = 0 := by omega
  cases e with
  | zero => rfl
  | succ e => simp [climb]
 | succ d ih =>
  intro e k hl h1 h2
  cases e with
  | zero =>
   obtain rfl : k = 0 := by omega
   simp [climb]
  | succ e =>
   rw [climb, climb]
   split
   ·rename_i hnk
    have := oT hp hl (by omega)
    exact ih (by omega) (by omega) (by omega)
   ·rfl
theorem ML {ps : List Int} (hp : fZ ps = true) {n k : Nat} (hk : k < ps.length) (hn : n < k) : climb ps n k k = climb ps n (gi ps k).toNat (gi ps k).toNat := by
 have h1 := oT hp hk (by omega)
 obtain ⟨m, rfl⟩ : ∃ m, k = m + 1 := ⟨k - 1, by omega⟩
 rw [climb, if_pos hn]
 exact MK hp n (by omega) (by omega) (Nat.le_refl _)
theorem vY {ps : List Int} {n k : Nat} (hn : ¬ n < k) : climb ps n k k = k := by
 cases k with
 | zero => rfl
 | succ k => rw [climb, if_neg hn]

theorem AX {ps : List Int} (i : Nat) : l5 ps i i = true := by unfold l5; rw [vY (by omega)]; simp
theorem uN {ps : List Int} (_ : fZ ps = true) {i : Nat} : ∀ {j : Nat}, j < ps.length → l5 ps i j = true → i ≤ j := by
 intro j
 induction j using Nat.strongRecOn with
 | ind j ih =>
  intro hj h
  by_cases e : i < j
  ·omega
  ·unfold l5 at h
   rw [vY e] at h
   have : j = i := by simpa using h
   omega
theorem oU {ps : List Int} (hp : fZ ps = true) {i j : Nat} (hj : j < ps.length) (hi : i < j) : l5 ps i j = l5 ps i (gi ps j).toNat := by
 unfold l5; rw [ML hp hj hi]
theorem Da {ps : List Int} (hp : fZ ps = true) {i : Nat} : ∀ {j : Nat}, j < ps.length → (l5 ps i j = true ↔ j = i ∨ ∃ c, c < ps.length ∧ i < c ∧ gi ps c = (i : Int) ∧ l5 ps c j = true) := by
 intro j
 induction j using Nat.strongRecOn with
 | ind j ih =>
  intro hj
  by_cases e : i < j
  ·have hpar := oT hp hj (by omega)
   have yu : ((gi ps j).toNat : Int) = gi ps j := Int.toNat_of_nonneg hpar.1
   have hpl : (gi ps j).toNat < j := by omega
   rw [oU hp hj e, ih _ hpl (by omega)]
   constructor
   ·rintro (h | ⟨c, h1, h2, h3, h4⟩)
    ·exact .inr ⟨j, hj, e, by omega, AX j⟩
    ·have := uN hp (show (gi ps j).toNat < ps.length by omega) h4
     exact .inr ⟨c, h1, h2, h3, by rw [oU hp hj (by omega)]; exact h4⟩
   ·rintro (h | ⟨c, h1, h2, h3, h4⟩)
    ·omega
    ·have um := uN hp hj h4
     by_cases ec : c = j
     ·subst ec; left; omega
     ·right
      exact ⟨c, h1, h2, h3, by rw [oU hp hj (by omega)] at h4; exact h4⟩
  ·unfold l5
   rw [vY e]
   constructor
   ·intro h; left; simpa using h
   ·rintro (h | ⟨c, h1, h2, h3, h4⟩)
    ·simpa using h
    ·have := uN hp hj h4; omega
end
section
open Go.RowKit Go.Deep
def r7 (l : List (ByteArray × Value)) (k : ByteArray) (v : Value) : List (ByteArray × Value) := if (l.lookup k).isNone then l ++ [(k, v)] else l.map fun x => if x.1 = k then (k, v) else x
def SMap (w : World) (b : Nat) (l : List (ByteArray × Value)) : Prop := ∃ es clock, w.heap[b]? = some (.map es clock) ∧ es.toList.map (fun x => (x.key, x.val)) = l.map (fun x => (Value.string x.1, x.2))
def vZ (l : List (ByteArray × Value)) : Prop := (l.map (·.1)).Nodup
theorem Pj (a b : ByteArray) : (a == b) = decide (a = b) := by
 obtain ⟨a⟩ := a
 obtain ⟨b⟩ := b
 have : ((⟨a⟩ : ByteArray) == ⟨b⟩) = (a == b) := rfl
 rw [this]
 by_cases h : a = b
 ·subst h; simp
 ·have h2 : ¬ (⟨a⟩ : ByteArray) = ⟨b⟩ := fun e => h (ByteArray.mk.inj e)
  rw [decide_eq_false h2]; simpa using h
theorem oV (a : ByteArray) : (a == a) = true := by rw [Pj]; simp
theorem qT {a b : ByteArray} (h : ¬ a = b) : (a == b) = false := by rw [Pj]; simpa using h
section
variable {P : Program} {w : World}
theorem Pk (k : ByteArray) : ∀ (es : List MapEntry) (l : List (ByteArray × Value)) (i : Nat),
  es.map (fun x => (x.key, x.val)) = l.map (fun x => (Value.string x.1, x.2)) →
   (l.lookup k = none ∧ Instr.findNow .string (.string k) es i = some none) ∨ ∃ j v, l.lookup k = some v ∧ (l[j]?).map (·.1) = some k ∧ Instr.findNow .string (.string k) es i = some (some (i + j, v)) := by
 intro es
 induction es with
 | nil =>
  intro l i hl
  cases l with
  | nil => exact .inl ⟨rfl, rfl⟩
  | cons => cases hl
 | cons x es ih =>
  intro l i hl
  cases l with
  | nil => cases hl
  | cons y l =>
   simp only [List.map_cons, List.cons.injEq, Prod.mk.injEq] at hl
   obtain ⟨⟨h1, h2⟩, h3⟩ := hl
   obtain ⟨y1, y2⟩ := y
   have h1 : x.key = .string y1 := h1
   have h2 : x.val = y2 := h2
   by_cases h : k = y1
   ·subst h
    refine .inr ⟨0, y2, by rw [List.lookup_cons, oV], rfl, ?_⟩
    simp [Instr.findNow, Instr.sameNow, h1, h2, oV]
   ·have hb : (k == y1) = false := qT h
    rcases ih l (i + 1) h3 with ⟨h4, h5⟩ | ⟨j, v, h4, h5, h6⟩
    ·refine .inl ⟨by rw [List.lookup_cons, hb]; exact h4, ?_⟩
     simp [Instr.findNow, Instr.sameNow, h1, hb, h5]
    ·refine .inr ⟨j + 1, v, by rw [List.lookup_cons, hb]; exact h4, by simpa using h5, ?_⟩
     simp [Instr.findNow, Instr.sameNow, h1, hb, h6]; omega
theorem EG {t : TypeId} (ht : P.underlying t = some .string) (k : ByteArray) (es : List MapEntry) (l : List (ByteArray × Value)) (hl : es.map (fun x => (x.key, x.val)) = l.map (fun x => (Value.string x.1, x.2))) :
  (l.lookup k = none ∧ (Instr.findKey t (.string k) es).run P w = .ok none w) ∨ ∃ j v, l.lookup k = some v ∧ (l[j]?).map (·.1) = some k ∧ (Instr.findKey t (.string k) es).run P w = .ok (some (j, v)) w := by
 have hu := run_underlying (w := w) ht
 rcases Pk k es l 0 hl with ⟨h1, h2⟩ | ⟨j, v, h1, h2, h3⟩
 ·exact .inl ⟨h1, by simp [Instr.findKey, hu, h2]⟩
 ·exact .inr ⟨j, v, h1, h2, by simp [Instr.findKey, hu, h3]⟩
theorem qU {t : TypeId} (ht : P.underlying t = some .string) (em : Bool) (k : ByteArray) : (Instr.checkKey em 10000 t (.string k)).run P w = .ok () w := by
 have hu := run_underlying (w := w) ht
 show (Instr.checkKey em (9999 + 1) t (.string k)).run P w = _
 unfold Instr.checkKey
 simp [hu]
theorem Hl {l : List (ByteArray × Value)} {k : ByteArray} : l.lookup k = none ↔ k ∉ l.map (·.1) := by
 induction l with
 | nil => simp
 | cons y l ih =>
  obtain ⟨y1, y2⟩ := y
  rw [List.lookup_cons]
  by_cases h : k = y1
  ·subst h; simp [oV]
  ·have hb : (k == y1) = false := qT h
   rw [hb]; simp only [List.map_cons, List.mem_cons, not_or]
   exact ⟨fun h2 => ⟨h, ih.1 h2⟩, fun h2 => ih.2 h2.2⟩
theorem Pm (l : List (ByteArray × Value)) (k : ByteArray) (v : Value) : (r7 l k v).map (·.1) = if (l.lookup k).isNone then l.map (·.1) ++ [k] else l.map (·.1) := by
 unfold r7
 split
 ·simp
 ·rw [List.map_map]
  refine List.map_congr_left fun x _ => ?_
  show (if x.1 = k then (k, v) else x).1 = x.1
  split
  ·rename_i h; exact h.symm
  ·rfl
theorem Pn {l : List (ByteArray × Value)} (h : vZ l) (k : ByteArray) (v : Value) : vZ (r7 l k v) := by
 unfold vZ
 rw [Pm]
 split
 ·rename_i h2
  have h3 : k ∉ l.map (·.1) := Hl.1 (by simpa using h2)
  rw [List.nodup_append]
  refine ⟨h, by simp, fun a ha b hb => ?_⟩
  have : b = k := by simpa using hb
  subst this
  exact fun e => h3 (by rw [← e]; exact ha)
 ·exact h
theorem Po {l : List (ByteArray × Value)} (h : vZ l) {k : ByteArray} (v : Value) {j : Nat} (hj : (l[j]?).map (·.1) = some k) : (l.map fun x => if x.1 = k then (k, v) else x) = l.set j (k, v) := by
 apply List.ext_getElem?
 intro m
 have hjl : j < l.length := by
  cases hlj : l[j]? with
  | none => rw [hlj] at hj; cases hj
  | some y => exact (List.getElem?_eq_some_iff.1 hlj).1
 rw [List.getElem?_map, List.getElem?_set]
 by_cases e : j = m
 ·subst e
  rw [if_pos rfl, if_pos hjl]
  rw [List.getElem?_eq_getElem hjl] at hj ⊢
  have h3 : (l[j]).1 = k := by simpa using hj
  simp [h3]
 ·rw [if_neg e]
  cases hm : l[m]? with
  | none => rfl
  | some y =>
   have hml := (List.getElem?_eq_some_iff.1 hm).1
   have hne : y.1 ≠ k := fun h4 => by
    have h5 : (l.map (·.1))[m]? = (l.map (·.1))[j]? := by rw [List.getElem?_map, List.getElem?_map, hm, hj]; simp [h4]
    have h6 : m < (l.map (·.1)).length := by simpa using hml
    have h7 : j < (l.map (·.1)).length := by simpa using hjl
    rw [List.getElem?_eq_getElem h6, List.getElem?_eq_getElem h7] at h5
    injection h5 with h5
    exact e ((List.getElem_inj h).1 h5).symm
   simp [hne]
theorem SMap.made (w : World) : SMap (w.alloc (.map #[] 0)) w.heap.size [] := ⟨#[], 0, (MapKept.heap_alloc w _).1, rfl⟩
theorem SMap.same {w' : World} {b : Nat} {l : List (ByteArray × Value)} (h : SMap w b l) (hb : w'.heap[b]? = w.heap[b]?) : SMap w' b l := by
 obtain ⟨es, clock, h1, h2⟩ := h
 exact ⟨es, clock, hb.trans h1, h2⟩
theorem SMap.lt {b : Nat} {l : List (ByteArray × Value)} (h : SMap w b l) : b < w.heap.size := by
 obtain ⟨es, clock, h1, _⟩ := h
 exact (Array.getElem?_eq_some_iff.1 h1).1
theorem Sr {mt t el : TypeId} (hm : P.underlying mt = some (.map t el)) (ht : P.underlying t = some .string) {b : Nat} {l : List (ByteArray × Value)} (h : SMap w b l) (hq : vZ l) (k : ByteArray) (v : Value) :
  ∃ w', (Instr.mapUpdate mt (.map (some b)) (.string k) v).run P w = .ok () w' ∧ SMap w' b (r7 l k v) ∧ w'.heap.size = w.heap.size ∧ w'.os = w.os ∧ w'.tape = w.tape ∧ w'.output = w.output ∧ ∀ j, j ≠ b → w'.heap[j]? = w.heap[j]? := by
 obtain ⟨es, clock, hb, hl⟩ := h
 have hu := run_underlying (w := w) hm
 have hg := MapKept.run_getObj_map (P := P) hb
 have hbl := (Array.getElem?_eq_some_iff.1 hb).1
 rcases EG (w := w) ht k es.toList l hl with ⟨h1, h2⟩ | ⟨j, v', h1, h5, h2⟩
 ·have hs := MapKept.run_setObj_map (P := P) (.map (es.push { key := .string k, val := v, born := clock }) (clock + 1)) hb
  refine ⟨{ w with heap := w.heap.setIfInBounds b (.map (es.push { key := .string k, val := v, born := clock }) (clock + 1)) }, by simp [Instr.mapUpdate, hu, hg, qU ht, h2, hs], ⟨es.push { key := .string k, val := v, born := clock }, clock + 1, by simp [hbl], ?_⟩, by simp, rfl, rfl, rfl, fun j hj => by simp [Ne.symm hj]⟩
  unfold r7; rw [h1]; simp [hl]
 ·have hkey : ((es[j]?).map (·.key)) = some (.string k) := by
   have h8 := congrArg (fun q => (q[j]?).map (·.1)) hl
   simp only [List.getElem?_map, Option.map_map] at h8
   have h9 : (l[j]?).map (fun x => Value.string x.1) = some (.string k) := by
    cases hlj : l[j]? with
    | none => rw [hlj] at h5; cases h5
    | some y => rw [hlj] at h5; simp at h5; simp [h5]
   have h10 : (es.toList[j]?).map (·.key) = (l[j]?).map (fun x => Value.string x.1) := h8
   rw [← Array.getElem?_toList, h10, h9]
  have hst : (Instr.keyThatStays (((es[j]?).map (·.key)).getD (.string k)) (.string k)).run P w = .ok (.string k) w := by
   rw [hkey]
   have h0 : Instr.sameBits 10000 (.string k) (.string k) = true := by simp [Instr.sameBits, oV]
   show (Instr.keyThatStays (.string k) (.string k)).run P w = _
   unfold Instr.keyThatStays
   rw [if_pos h0]; rfl
  have hs := MapKept.run_setObj_map (P := P) (.map (es.modify j fun e => { e with key := .string k, val := v }) clock) hb
  refine ⟨{ w with heap := w.heap.setIfInBounds b (.map (es.modify j fun e => { e with key := .string k, val := v }) clock) }, by simp [Instr.mapUpdate, hu, hg, qU ht, h2, hst, hs], ⟨es.modify j fun e => { e with key := .string k, val := v }, clock, by simp [hbl], ?_⟩, by simp, rfl, rfl, rfl, fun m hm => by simp [Ne.symm hm]⟩
  have hpl : r7 l k v = l.set j (k, v) := by
   unfold r7; rw [h1]
   exact Po hq v h5
  rw [hpl]
  apply List.ext_getElem?
  intro m
  have h8 := congrArg (fun q => q[m]?) hl
  simp only [List.getElem?_map] at h8
  rw [List.getElem?_map, List.getElem?_map, Array.getElem?_toList, Array.getElem?_modify, List.getElem?_set]
  have hjl : j < l.length := by
   cases hlj : l[j]? with
   | none => rw [hlj] at h5; cases h5
   | some y => exact (List.getElem?_eq_some_iff.1 hlj).1
  have Yd : j < es.size := by have := congrArg List.length hl; simp at this; omega
  by_cases e : j = m
  ·subst e
   rw [if_pos rfl, if_pos rfl, if_pos hjl, Array.getElem?_eq_getElem Yd]
   rfl
  ·rw [if_neg e, if_neg e, ← Array.getElem?_toList]; exact h8
theorem Pp {mt t el : TypeId} (hm : P.underlying mt = some (.map t el)) (ht : P.underlying t = some .string) {z : Value} (hz : (zeroValue el).run P w = .ok z w) {b : Nat} {l : List (ByteArray × Value)} (h : SMap w b l) (k : ByteArray) :
  (Instr.lookup mt (.map (some b)) (.string k) false).run P w = .ok ((l.lookup k).getD z) w := by
 obtain ⟨es, clock, hb, hl⟩ := h
 have hu := run_underlying (w := w) hm
 have hg := MapKept.run_getObj_map (P := P) hb
 rcases EG (w := w) ht k es.toList l hl with ⟨h1, h2⟩ | ⟨j, v', h1, _, h2⟩
 ·simp [Instr.lookup, hu, hg, qU ht, h2, hz, h1]
 ·simp [Instr.lookup, hu, hg, qU ht, h2, h1]
end
end
section
section
variable {F : aT} {n : Nat} {rk : Nat → Nat}
theorem yw (h : Wf F n rk) {i z : Nat} (hi : i < n) (hs : bS F rk i z = true) : aN F rk z ∈ subR (aN F rk i) := by
 rw [th h hi (Nat.le_refl _)]
 exact List.mem_map.2 ⟨z, (dV h hi (Nat.le_refl _)).2 hs, rfl⟩
theorem B3 (h : Wf F n rk) : ∀ (d i : Nat), rk i ≤ d → i < n → fK (aN F rk i) → (bK F rk i).Nodup
 | d, i, hd, hi, hg => by
  rw [b7 h hi, List.nodup_cons]
  have hsub : ∀ k ∈ F.kids i, aN F rk k ∈ subR (aN F rk i) := fun k hk => yw h hi (mG h hi hk (iD h (h.kid i hi k hk).1))
  have DN : ∀ k ∈ F.kids i, fK (aN F rk k) := fun k hk => ⟨fun s hs => hg.wY s (gy _ (hsub k hk) hs), fun s hs => hg.lf s (gy _ (hsub k hk) hs), (mW (hsub k hk)).nodup hg.nd⟩
  refine ⟨fun hm => ?_, ?_⟩
  ·obtain ⟨k, hk, hm⟩ := List.mem_flatMap.1 hm
   have hkk := h.kid i hi k hk
   have := mP h hkk.1 ((dV h hkk.1 (Nat.le_refl _)).1 hm)
   omega
  ·by_cases h0 : F.kids i = []
   ·rw [h0]; simp
   ·have eT := hg.nd
    rw [di h hi, jJ (by have := hg.wY _ (gF _); rw [uG h hi, yc h hi] at this; exact this (fun e => h0 (List.map_eq_nil_iff.1 e))), List.flatMap_map, List.nodup_iff_pairwise_ne, List.pairwise_flatMap] at eT
    rw [List.nodup_iff_pairwise_ne, List.pairwise_flatMap]
    refine ⟨fun k hk => ?_, ?_⟩
    ·have hkk := h.kid i hi k hk
     cases d with
     | zero => omega
     | succ d => exact B3 h d k (by omega) hkk.1 (DN k hk)
    ·refine eT.2.imp_of_mem ?_
     intro a b ha hb hab x hx y hy e
     subst e
     have hka := h.kid i hi a ha
     have hkb := h.kid i hi b hb
     have h1 := yw h hka.1 ((dV h hka.1 (Nat.le_refl _)).1 hx)
     have h2 := yw h hkb.1 ((dV h hkb.1 (Nat.le_refl _)).1 hy)
     have hf := vX (aN F rk x) fun s hs => (DN a ha).lf s (gy _ h1 hs)
     exact hab _ ((mW h1).subset hf) _ ((mW h2).subset hf) rfl
end
end
section
theorem Ke {l : List (ByteArray × Value)} {k j : ByteArray} {v : Value} : (r7 l k v).lookup j = if j = k then some v else l.lookup j := by
 unfold r7
 split
 ·rename_i h
  have h0 : l.lookup k = none := by simpa using h
  rw [List.lookup_append]
  by_cases e : j = k
  ·subst e; rw [if_pos rfl, h0]; simp [List.lookup, oV]
  ·rw [if_neg e]
   have : List.lookup j [(k, v)] = none := by simp [List.lookup, qT e]
   rw [this]; simp
 ·rename_i h
  have h0 : (l.lookup k).isSome := by
   cases hl : l.lookup k with
   | none => rw [hl] at h; exact absurd rfl h
   | some x => rfl
  clear h
  induction l with
  | nil => cases h0
  | cons y l ih =>
   obtain ⟨y1, y2⟩ := y
   rw [List.map_cons]
   by_cases e1 : y1 = k
   ·subst e1
    rw [if_pos rfl, List.lookup_cons]
    by_cases e : j = y1
    ·subst e; rw [oV, if_pos rfl]
    ·rw [qT e, if_neg e, List.lookup_cons, qT e]
     have hm : ∀ l : List (ByteArray × Value), List.lookup j (l.map fun x => if x.1 = y1 then (y1, v) else x) = List.lookup j l := by
      intro l
      induction l with
      | nil => rfl
      | cons z l ihl =>
       obtain ⟨z1, z2⟩ := z
       rw [List.map_cons]
       by_cases ez : z1 = y1
       ·subst ez; rw [if_pos rfl, List.lookup_cons, qT e, List.lookup_cons, qT e]; exact ihl
       ·rw [if_neg ez, List.lookup_cons, List.lookup_cons, ihl]
     exact hm l
   ·rw [if_neg e1, List.lookup_cons, List.lookup_cons]
    rw [List.lookup_cons, qT (fun h => e1 h.symm)] at h0
    by_cases e : j = y1
    ·subst e; rw [oV, if_neg e1]
    ·rw [qT e]; exact ih h0
end
end Go.Proofs.YthgabkgmkolobaaGreat
