/- Parse, plain: the machine over a stack of lists of rose trees; the forest that grows. The .. -/
import Derived.Test.YthgabkgmkolobaaGreatQ1
import Derived.Lib.IndexAny
import Derived.Test.YthgabkgmkolobaaGreatQ23
import Derived.Test.YthgabkgmkolobaaGreatQ21
import Derived.Lib.MinMax
import Derived.Test.YthgabkgmkolobaaGreatQ7
import Derived.Test.YthgabkgmkolobaaGreatQ22
import Derived.Test.YthgabkgmkolobaaGreatQ15
import Derived.Lib.SliceRun
import Derived.Test.YthgabkgmkolobaaGreatQ19
set_option maxRecDepth 100000
namespace Go.Proofs.YthgabkgmkolobaaGreat
section
def bF : List UInt8 := [40, 41, 44, 59]
def popZ : List (List RT) → List (List RT)
 | Z :: Y :: st => (Y ++ [.node ByteArray.empty Z]) :: st
 | st => st
def Zt (r : RT) : List (List RT) → List (List RT)
 | Z :: st => (Z ++ [r]) :: st
 | [] => []
def firstZ : List (List RT) → RT
 | (r :: _) :: _ => r
 | _ => .node ByteArray.empty []
def pz : Nat → List UInt8 → List (List RT) → Bool → Option RT
 | 0, _, _, _ => none
 | _ + 1, [], _, _ => none
 | f + 1, c :: s, st, dn =>
  if c = 40 then (if dn = true then none else pz f s ([] :: st) false)
  else if c = 41 then (if dn = false ∨ st.length = 1 then none else pz f s (popZ st) true)
  else if c = 44 then (if dn = false ∨ st.length = 1 then none else pz f s st false)
  else if c = 59 then (if dn = false ∨ st.length ≠ 1 ∨ s ≠ [] then none else some (firstZ st))
  else if dn = true then none
  else if Lib.indexAny (c :: s) bF < 0 then none
  else pz f ((c :: s).drop (Lib.indexAny (c :: s) bF).toNat) (Zt (.node ⟨((c :: s).take (Lib.indexAny (c :: s) bF).toNat).toArray⟩ []) st) true
def iU (s : List UInt8) : Option RT := pz (s.length + 1) s [[]] false
section
variable {F G : aT} {n m : Nat} {rk : Nat → Nat}
theorem B4 (hF : Wf F n rk) (hG : Wf G m rk) : ∀ (d c : Nat), rk c ≤ d → c < n → c < m → (∀ z, bS F rk c z = true → G.kids z = F.kids z ∧ G.nm z = F.nm z) → aN G rk c = aN F rk c
 | d, c, hd, hc, hm, hz => by
  obtain ⟨h1, h2⟩ := hz c (iD hF hc)
  rw [di hF hc, di hG hm, h1, h2]
  congr 1
  refine List.map_congr_left fun k hk => ?_
  have hkk := hF.kid c hc k hk
  have hkm := (hG.kid c hm k (by rw [h1]; exact hk)).1
  cases d with
  | zero => omega
  | succ d => exact B4 hF hG d k (by omega) hkk.1 hkm fun z hs => hz z (mG hF hc hk hs)
def Pu (F : aT) : aT := ⟨fun i => ⟨Array.replicate i 0⟩, F.old, F.kids⟩
theorem Pw (hF : Wf F n rk) (one : ∀ p q k, p < n → q < n → k ∈ F.kids p → k ∈ F.kids q → p = q) (nd : ∀ i, i < n → (F.kids i).Nodup) : rV (Pu F) n rk :=
 ⟨⟨fun i hi k hk => hF.kid i hi k hk⟩, one, nd, fun a b _ _ _ _ e => by
  have e : (⟨Array.replicate a 0⟩ : ByteArray) = ⟨Array.replicate b 0⟩ := e
  have := congrArg (fun s : ByteArray => s.data.size) e
  simpa using this⟩
theorem Px (hF : Wf F n rk) {c : Nat} (hc : c < n) (z : Nat) : bS (Pu F) rk c z = bS F rk c z :=
 Sm (G := Pu F) hF ⟨fun i hi k hk => hF.kid i hi k hk⟩ hc (Nat.le_refl _) (fun _ _ => rfl) z
theorem Ht (hF : Wf F n rk) : ∀ (d c : Nat), rk c ≤ d → c < n → bK (Pu F) rk c = bK F rk c
 | d, c, hd, hc => by
  have hU : Wf (Pu F) n rk := ⟨fun i hi k hk => hF.kid i hi k hk⟩
  rw [b7 hF hc, b7 hU hc]
  congr 1
  refine gH fun k hk => ?_
  have hkk := hF.kid c hc k hk
  cases d with
  | zero => omega
  | succ d => exact Ht hF d k (by omega) hkk.1
theorem Sy (hF : Wf F n rk) (one : ∀ p q k, p < n → q < n → k ∈ F.kids p → k ∈ F.kids q → p = q) (nd : ∀ i, i < n → (F.kids i).Nodup) {R : Nat} (hR : ∀ i, i < n → rk i ≤ R) {i x y j : Nat} (hi : i < n) (hx : x ∈ F.kids i) (hy : y ∈ F.kids i) (h1 : bS F rk x j = true) (h2 : bS F rk y j = true) : x = y :=
 AJ (Pw hF one nd) hR hi hx hy (by rw [Px hF (hF.kid i hi x hx).1]; exact h1) (by rw [Px hF (hF.kid i hi y hy).1]; exact h2)
theorem EH (hF : Wf F n rk) (one : ∀ p q k, p < n → q < n → k ∈ F.kids p → k ∈ F.kids q → p = q) (nd : ∀ i, i < n → (F.kids i).Nodup) {R : Nat} (hR : ∀ i, i < n → rk i ≤ R) {i : Nat} (hi : i < n) : (bK F rk i).Nodup := by
 rw [← Ht hF (rk i) i (Nat.le_refl _) hi]
 exact jg (Pw hF one nd) hR hi (Nat.le_refl _)
end
def mh (z : Nat) : Nat := 2000 - z
def wh (F : aT) : Option Nat → List Nat → List (List RT) → Prop
 | nx, o :: os, Z :: st => (F.nm o).size = 0 ∧ (∃ ks, F.kids o = ks ++ nx.toList ∧ ks.map (aN F mh) = Z) ∧ wh F (some o) os st
 | _, [], [] => True
 | _, _, _ => False
structure kF (F : aT) (n : Nat) (op : List Nat) (st : List (List RT)) : Prop where
 big : n ≤ 2000
 kid : ∀ i, i < n → ∀ k ∈ F.kids i, i < k ∧ k < n
 one : ∀ p q k, p < n → q < n → k ∈ F.kids p → k ∈ F.kids q → p = q
 nd : ∀ i, i < n → (F.kids i).Nodup
 zip : wh F none op st
 opn : ∀ o ∈ op, o < n
 ne : op ≠ []
section
variable {F : aT} {n : Nat} {op : List Nat} {st : List (List RT)}
theorem kF.wf (h : kF F n op st) : Wf F n mh := ⟨fun i hi k hk => by obtain ⟨h1, h2⟩ := h.kid i hi k hk; have := h.big; exact ⟨h2, by unfold mh; omega⟩⟩
theorem Hu (i : Nat) : mh i ≤ 2000 := Nat.sub_le _ _
theorem wh.len {F : aT} : ∀ {nx : Option Nat} {op : List Nat} {st : List (List RT)}, wh F nx op st → op.length = st.length
 | _, [], [], _ => rfl
 | _, _ :: os, _ :: st, h => by rw [List.length_cons, List.length_cons, h.2.2.len]
 | _, [], _ :: _, h => h.elim
 | _, _ :: _, [], h => h.elim
def iQ (F : aT) (n o : Nat) (nm : ByteArray) : aT := ⟨upd F.nm n nm, upd F.old n 0, upd (upd F.kids n []) o (F.kids o ++ [n])⟩
theorem pI {F : aT} {n o : Nat} {nm : ByteArray} : (iQ F n o nm).kids o = F.kids o ++ [n] := upd_same _ _ _
theorem pJ {F : aT} {n o : Nat} {nm : ByteArray} (h : o < n) : (iQ F n o nm).kids n = [] := by
 show upd _ o _ n = []
 rw [upd_ne _ _ (by omega), upd_same]
theorem tC {F : aT} {n o : Nat} {nm : ByteArray} {z : Nat} (h : z ≠ o) (h2 : z ≠ n) : (iQ F n o nm).kids z = F.kids z := by
 show upd _ o _ z = _
 rw [upd_ne _ _ h, upd_ne _ _ h2]
theorem zl {F : aT} {n o : Nat} {nm : ByteArray} {z : Nat} (h2 : z ≠ n) : (iQ F n o nm).nm z = F.nm z := upd_ne _ _ h2
theorem r9 {F : aT} {n o : Nat} {nm : ByteArray} (hk : ∀ i, i < n → ∀ k ∈ F.kids i, i < k ∧ k < n) (ho : o < n) {i k : Nat} (hi : i < n + 1) (hm : k ∈ (iQ F n o nm).kids i) : (i < n ∧ k ∈ F.kids i) ∨ (i = o ∧ k = n) := by
 by_cases e : i = o
 ·subst e
  rw [pI] at hm
  rcases List.mem_append.1 hm with h1 | h1
  ·exact .inl ⟨ho, h1⟩
  ·exact .inr ⟨rfl, by simpa using h1⟩
 ·by_cases e2 : i = n
  ·subst e2; rw [pJ ho] at hm; cases hm
  ·rw [tC e e2] at hm; exact .inl ⟨by omega, hm⟩
theorem Le (h : kF F n op st) {o : Nat} (ho : o < n) (nm : ByteArray) (hb : n < 2000) : Wf (iQ F n o nm) (n + 1) mh := ⟨fun i hi k hm => by
 unfold mh
 rcases r9 h.kid ho hi hm with ⟨h1, h2⟩ | ⟨h1, h2⟩
 ·have := h.kid i h1 k h2; omega
 ·omega⟩
theorem EI (h : kF F n op st) {o : Nat} (ho : o < n) (nm : ByteArray) (hb : n < 2000) {c : Nat} (hc : c < n) (hs : bS F mh c o = false) : aN (iQ F n o nm) mh c = aN F mh c :=
 B4 h.wf (Le h ho nm hb) _ c (Nat.le_refl _) hc (by omega) fun z hz => by
  have Lf := oH h.wf hc (Nat.le_refl _) hz
  have hne : z ≠ o := fun e => by rw [e, hs] at hz; cases hz
  exact ⟨tC hne (by omega), zl (by omega)⟩
theorem Hv (h : kF F n op st) {o : Nat} (ho : o < n) (nm : ByteArray) (hb : n < 2000) : ∀ {y : Nat} {os : List Nat} {zs : List (List RT)}, (∀ p ∈ os, p < n) → y < n → bS F mh y o = true → wh F (some y) os zs → wh (iQ F n o nm) (some y) os zs
 | _, [], [], _, _, _, _ => trivial
 | y, p :: os, Z :: zs, hp, hy, hs, hz => by
  obtain ⟨h1, ⟨ks, h2, h3⟩, h4⟩ := hz
  have yu := hp p (by simp)
  have Zu : y ∈ F.kids p := by rw [h2]; simp
  have hpy := (h.kid p yu y Zu).1
  have Zv := mG h.wf yu Zu hs
  have hne : p ≠ o := fun e => by
   subst e
   have := mP h.wf hy hs
   have hb2 := h.big
   unfold mh at this
   omega
  refine ⟨by rw [zl (by omega)]; exact h1, ⟨ks, by rw [tC hne (by omega)]; exact h2, ?_⟩, Hv h ho nm hb (fun q hq => hp q (by simp [hq])) yu Zv h4⟩
  rw [← h3]
  refine List.map_congr_left fun c hc => ?_
  have xH : c ∈ F.kids p := by rw [h2]; simp [hc]
  have dL := (h.kid p yu c xH).2
  refine EI h ho nm hb dL ?_
  cases hsc : bS F mh c o with
  | false => rfl
  | true =>
   exfalso
   have e := Sy h.wf h.one h.nd (fun i _ => Hu i) yu xH Zu hsc hs
   subst e
   have eT := h.nd p yu
   rw [h2] at eT
   have := (List.nodup_append.1 eT).2.2 c hc c (by simp)
   exact this rfl
 | _, [], _ :: _, _, _, _, hz => hz.elim
 | _, _ :: _, [], _, _, _, hz => hz.elim
end
section
variable {F : aT} {n : Nat} {o : Nat} {os : List Nat} {Z : List RT} {st : List (List RT)}
theorem kF.on (h : kF F n (o :: os) st) : o < n := h.opn o (by simp)
theorem kF.size (h : kF F n (o :: os) (Z :: st)) : (F.nm o).size = 0 ∧ (F.kids o).map (aN F mh) = Z := by
 obtain ⟨h1, ⟨ks, h2, h3⟩, _⟩ := h.zip
 refine ⟨h1, ?_⟩
 rw [h2]; simpa using h3
theorem EJ (h : kF F n (o :: os) (Z :: st)) (nm : ByteArray) (hb : n < 2000) :
  (∀ i, i < n + 1 → ∀ k ∈ (iQ F n o nm).kids i, i < k ∧ k < n + 1) ∧ (∀ p q k, p < n + 1 → q < n + 1 → k ∈ (iQ F n o nm).kids p → k ∈ (iQ F n o nm).kids q → p = q) ∧ (∀ i, i < n + 1 → ((iQ F n o nm).kids i).Nodup) ∧
  wh (iQ F n o nm) (some o) os st ∧ (∀ c ∈ F.kids o, aN (iQ F n o nm) mh c = aN F mh c) ∧ aN (iQ F n o nm) mh n = .node nm [] := by
 have ho := h.on
 refine ⟨fun i hi k hk => ?_, fun p q k hp hq h1 h2 => ?_, fun i hi => ?_, Hv h ho nm hb (fun p hp => h.opn p (by simp [hp])) ho (iD h.wf ho) h.zip.2.2, fun c hc => ?_, ?_⟩
 ·rcases r9 h.kid ho hi hk with ⟨h1, h2⟩ | ⟨h1, h2⟩
  ·have := h.kid i h1 k h2; omega
  ·omega
 ·rcases r9 h.kid ho hp h1 with ⟨a1, a2⟩ | ⟨a1, a2⟩
  ·rcases r9 h.kid ho hq h2 with ⟨b1, b2⟩ | ⟨b1, b2⟩
   ·exact h.one p q k a1 b1 a2 b2
   ·have := (h.kid p a1 k a2).2; omega
  ·rcases r9 h.kid ho hq h2 with ⟨b1, b2⟩ | ⟨b1, b2⟩
   ·have := (h.kid q b1 k b2).2; omega
   ·omega
 ·by_cases e : i = o
  ·subst e
   rw [pI, List.nodup_append]
   refine ⟨h.nd i ho, by simp, fun a ha b hb e => ?_⟩
   have hb : b = n := by simpa using hb
   have := (h.kid i ho a ha).2; omega
  ·by_cases e2 : i = n
   ·subst e2; rw [pJ ho]; exact List.nodup_nil
   ·rw [tC e e2]; exact h.nd i (by omega)
 ·have dL := h.kid o ho c hc
  refine EI h ho nm hb dL.2 ?_
  cases hs : bS F mh c o with
  | false => rfl
  | true =>
   have := mP h.wf dL.2 hs
   have hb2 := h.big
   unfold mh at this
   omega
 ·rw [di (Le h ho nm hb) (Nat.lt_succ_self n), pJ ho]
  show RT.node (upd F.nm n nm n) [] = _
  rw [upd_same]
theorem kF.leaf (h : kF F n (o :: os) (Z :: st)) (nm : ByteArray) (hb : n < 2000) : kF (iQ F n o nm) (n + 1) (o :: os) ((Z ++ [.node nm []]) :: st) := by
 obtain ⟨a1, a2, a3, a4, a5, a6⟩ := EJ h nm hb
 have ho := h.on
 refine ⟨by omega, a1, a2, a3, ⟨by rw [zl (by omega)]; exact h.size.1, ⟨_, (List.append_nil _).symm, ?_⟩, a4⟩, fun p hp => by have := h.opn p hp; omega, by simp⟩
 rw [pI, List.map_append, List.map_cons, List.map_nil, a6]
 congr 1
 rw [← h.size.2]
 exact List.map_congr_left a5
theorem kF.open (h : kF F n (o :: os) (Z :: st)) (hb : n < 2000) : kF (iQ F n o ByteArray.empty) (n + 1) (n :: o :: os) ([] :: Z :: st) := by
 obtain ⟨a1, a2, a3, a4, a5, a6⟩ := EJ h ByteArray.empty hb
 have ho := h.on
 refine ⟨by omega, a1, a2, a3, ⟨?_, ⟨[], by rw [pJ ho]; rfl, rfl⟩, by rw [zl (by omega)]; exact h.size.1, ⟨F.kids o, pI, ?_⟩, a4⟩, fun p hp => ?_, by simp⟩
 ·show (upd F.nm n ByteArray.empty n).size = 0
  rw [upd_same]; rfl
 ·rw [← h.size.2]
  exact List.map_congr_left a5
 ·rcases List.mem_cons.1 hp with e | e
  ·omega
  ·have := h.opn p e; omega
theorem kF.pop {q : Nat} {Y : List RT} (h : kF F n (o :: q :: os) (Z :: Y :: st)) : kF F n (q :: os) ((Y ++ [.node ByteArray.empty Z]) :: st) := by
 obtain ⟨h1, ⟨ks, h2, h3⟩, h4, ⟨yz, h5, h6⟩, h7⟩ := h.zip
 have ho := h.on
 refine ⟨h.big, h.kid, h.one, h.nd, ⟨h4, ⟨yz ++ [o], by rw [h5]; simp, ?_⟩, h7⟩, fun p hp => h.opn p (by simp at hp ⊢; rcases hp with e | e <;> simp [e]), by simp⟩
 rw [List.map_append, h6, List.map_cons, List.map_nil, di h.wf ho]
 have hn : F.nm o = ByteArray.empty := ByteArray.ext (Array.eq_empty_of_size_eq_zero h1)
 rw [hn, h.size.2]
theorem kF.done {r : RT} {Y : List RT} (h : kF F n [o] [r :: Y]) : ∃ c ks, F.kids o = c :: ks ∧ c < n ∧ fJ F mh c = flat r := by
 obtain ⟨_, h2⟩ := h.size
 have ho := h.on
 cases hk : F.kids o with
 | nil => rw [hk] at h2; cases h2
 | cons c ks =>
  rw [hk, List.map_cons] at h2
  injection h2 with h2 h3
  have dL := (h.kid o ho c (by rw [hk]; simp)).2
  exact ⟨c, ks, rfl, dL, by rw [Kf h.wf dL (EH h.wf h.one h.nd (fun i _ => Hu i) dL), h2]⟩
theorem kF.len (h : kF F n (o :: os) (Z :: st)) : (o :: os).length = st.length + 1 := by rw [h.zip.len]; rfl
end
end
section
open Go.RowKit Go.Deep
mutual
def txR : RT → List UInt8
 | .node nm [] => nm.data.toList
 | .node _ (k :: ks) => 40 :: (txR k ++ txRs ks ++ [41])
def txRs : List RT → List UInt8
 | [] => []
 | r :: rs => 44 :: (txR r ++ txRs rs)
end
def fV : List RT → List UInt8
 | [] => []
 | k :: ks => 40 :: (txR k ++ txRs ks)
theorem Sz (l : List RT) (c : RT) : txRs (l ++ [c]) = txRs l ++ 44 :: txR c := by
 induction l with
 | nil => simp [txRs]
 | cons a l ih => rw [List.cons_append, txRs, txRs, ih]; simp
theorem zm (l : List RT) (c : RT) : fV (l ++ [c]) = fV l ++ (if l.length = 0 then 40 else 44) :: txR c := by
 cases l with
 | nil => simp [fV, txRs]
 | cons a l => rw [List.cons_append, fV, fV, Sz, if_neg (by simp)]; simp
theorem sg (nm : ByteArray) {ks : List RT} (h : ks ≠ []) : txR (.node nm ks) = fV ks ++ [41] := by
 cases ks with
 | nil => exact absurd rfl h
 | cons k ks => rw [txR, fV]; simp
theorem wj (nm : ByteArray) : txR (.node nm []) = nm.data.toList := by rw [txR]
theorem Hw (l m : List RT) : (txRs (l ++ m)).length = (txRs l).length + (txRs m).length := by
 induction l with
 | nil => simp [txRs]
 | cons a l ih => rw [List.cons_append, txRs, txRs]; simp [ih]; omega
theorem yA (l : List RT) (k : Nat) : (fV (l.take k)).length ≤ (fV l).length := by
 cases l with
 | nil => simp [fV]
 | cons a l =>
  cases k with
  | zero => simp [fV]
  | succ k =>
   rw [List.take_succ_cons, fV, fV]
   have := Hw (l.take k) (l.drop k)
   rw [List.take_append_drop] at this
   simp only [List.length_cons, List.length_append]; omega
structure jK (B b : Nat) (pre : List UInt8) (w wr : World) : Prop where
 bl : Lib.IsBuilderF 117 5 B b (Lib.byteCells pre) wr
 up : Below B w wr
 ot : Lib.OthersKept 5 (some b) w wr
theorem jK.size {B b : Nat} {pre : List UInt8} {w wr : World} (h : jK B b pre w wr) (hB : B ≤ w.heap.size) : B ≤ wr.heap.size := Nat.le_trans hB h.up.size
theorem jK.byte {B b : Nat} {pre : List UInt8} {w wr w2 : World} {x : UInt8} {c : Int} (h : jK B b pre w wr) (hc : c = x.toNat) (h1 : Lib.BuilderAtF 117 5 B b (.pointer (some ⟨b, 0, none⟩)) (Lib.byteCells pre ++ [.int .u8 c]) w2) (h2 : Below B wr w2) (h3 : Lib.OthersKept 5 (some b) wr w2) : jK B b (pre ++ [x]) w w2 := by
 subst hc
 exact ⟨.inr (by rw [show Lib.byteCells (pre ++ [x]) = Lib.byteCells pre ++ [.int .u8 x.toNat] from List.map_append]; exact h1), h.up.trans h2, h.ot.trans h3⟩
theorem jK.next {B b : Nat} {pre Zw : List UInt8} {w wr w2 : World} (h : jK B b pre w wr) (k : jK B b Zw wr w2) : jK B b Zw w w2 := ⟨k.bl, h.up.trans k.up, h.ot.trans k.ot⟩
theorem bq.others {base n b : Nat} {A : Nat → Nat} {kv : Nat → Value} {F : aT} {w w' : World} (h : bq base n A kv F w) (hb : b < base) (k : Lib.OthersKept 5 (some b) w w') : bq base n A kv F w' := by
 refine h.same (fun i hi => ?_) fun i g hi hg => ?_
 ·have h1 := h.node i hi
  rw [h1]
  refine k _ _ h1 (fun e => by have := h.lo i hi; cases e; omega) (fun c fz e => ?_)
  injection e with _ e2 _
  exact absurd e2 (by decide)
 ·have hlo := (h.gu hi hg).1
  obtain ⟨_, h1 | ⟨g2, cap, cur, h1, _, hc, _⟩⟩ := h.own i hi
  ·rw [h1.1] at hg; cases hg
  ·rw [h1] at hg
   have hg : some g2 = some g := hg
   injection hg with hg; subst hg
   rw [hc]
   refine k _ _ hc (fun e => by cases e; omega) (fun c fz e => ?_)
   injection e with _ e2 _
   exact absurd e2 (by decide)
def tD (b fb : Nat) (w : World) : Prop := w.heap[fb]? = some (Obj.cells #[.func (.func 90) #[] #[.pointer (some ⟨b, 0, none⟩), .pointer (some ⟨fb, 0, none⟩)]] 118 (0, 0))
theorem tD.cell {b fb : Nat} {w : World} (h : tD b fb w) : w.cell? ⟨fb, 0, none⟩ = some (.func (.func 90) #[] #[.pointer (some ⟨b, 0, none⟩), .pointer (some ⟨fb, 0, none⟩)]) := by
 have h : w.heap[fb]? = _ := h
 simp [World.cell?, h]
theorem tD.others {b fb : Nat} {w w' : World} (h : tD b fb w) (hne : fb ≠ b) (k : Lib.OthersKept 5 (some b) w w') : tD b fb w' := by
 have h : w.heap[fb]? = _ := h
 refine k _ _ h (fun e => by cases e; exact hne rfl) (fun c fz e => ?_)
 injection e with _ e2 _
 exact absurd e2 (by decide)
def Zx (B b : Nat) (pre : List UInt8) (w : World) (e : Ending) (w' : World) : Prop := e = .returned (.tuple #[]) ∧ jK B b pre w w'
set_option maxHeartbeats 4000000 in
theorem SA {base n B b fb : Nat} {A : Nat → Nat} {kv : Nat → Value} {F : aT} {rk : Nat → Nat} (hw : Wf F n rk) (hl : ∀ z, z < n → (F.kids z).length ≤ 1000) (hbb : b < base) (EK : fb ≠ b) : ∀ (d i : Nat) (pre : List UInt8) (w : World), i < n → rk i ≤ d → bq base n A kv F w → tD b fb w →
  Lib.IsBuilderF 117 5 B b (Lib.byteCells pre) w → pre.length + (txR (aN F rk i)).length ≤ 140737488355328 → B ≤ w.heap.size →
  Calls Tryz.prog 90 (#[.pointer (some ⟨A i, 0, none⟩)] ++ #[.pointer (some ⟨b, 0, none⟩), .pointer (some ⟨fb, 0, none⟩)]) w (Zx B b (pre ++ txR (aN F rk i)) w) := by
 intro d
 induction d using Nat.strongRecOn with
 | ind d ih =>
  intro i pre w hi hd hF gL hbl hlen hB
  have eP : ∀ args w, (callFunc 90 args).run Tryz.prog w = .ok (.enter 90 args) w := enters_of Tryz.func90 (by kernel_rfl) rfl
  have hown := hF.own i hi
  obtain ⟨q, cap, hv, hq⟩ := hown.form (n := (F.kids i).length) (by simp)
  have hkc := hF.qo hi
  rw [hv] at hkc
  have hnm := hF.name hi
  by_cases h0 : F.kids i = []
  ·have EL : txR (aN F rk i) = (F.nm i).data.toList := by rw [di hw hi, h0]; exact wj _
   rw [EL] at hlen ⊢
   have d1 : (((F.kids i).length : Int) == 0) = true := by rw [h0]; rfl
   have HW := aa (Zr B b (Lib.byteCells pre) (F.nm i) w hbl (by rw [Lib.byteCells_length]; exact hlen) hB)
   have HE : Hid (∀ w', Lib.BuilderAtF 117 5 B b (.pointer (some ⟨b, 0, none⟩)) (Lib.byteCells pre ++ Lib.strCells (F.nm i)) w' → Below B w w' → Lib.OthersKept 5 (some b) w w' → jK B b (pre ++ (F.nm i).data.toList) w w') := fun w' h1 h2 h3 =>
    ⟨.inr (by rw [Lib.strCells_eq, ← show Lib.byteCells (pre ++ (F.nm i).data.toList) = Lib.byteCells pre ++ Lib.byteCells (F.nm i).data.toList from List.map_append] at h1; exact h1), h2, h3⟩
   clear hown hq hv ih hF gL hbl hlen h0 EL
   generalize F.nm i = nm at *
   go_enter Tryz.func90, Tryz.ntmps90
   go_wp2_with fail
   refine HW.out.mono ?_
   rintro e w' ⟨rfl, h1, h2, h3⟩
   have HN := aa (HE.out w' h1 h2 h3)
   clear h1 h2 h3
   go_wp2_with fail
   go_end0
   exact ⟨rfl, HN.out⟩
  ·obtain ⟨L, uw⟩ : ∃ L, L = F.kids i := ⟨_, rfl⟩
   have D5 : 0 < L.length := by rw [uw]; exact List.length_pos_iff.2 h0
   have fA : L.length ≤ 1000 := by rw [uw]; exact hl i hi
   rw [← uw] at hown hv hkc
   have EL : txR (aN F rk i) = fV (L.map (aN F rk)) ++ [41] := by rw [di hw hi, ← uw]; exact sg _ (by rw [uw]; simpa using h0)
   rw [EL] at hlen ⊢
   have d1 : ((L.length : Int) == 0) = false := beq_eq_false_iff_ne.2 (by omega)
   obtain ⟨gk, rfl⟩ : ∃ g, q = some ⟨g, 0, none⟩ := by
    rcases hq with rfl | h
    ·obtain ⟨_, h | ⟨g, _, _, h, _⟩⟩ := hown
     ·have := h.2; rw [List.length_map] at this; omega
     ·rw [hv] at h; cases h
    ·exact h
   have HLEN : Hid (∀ k, pre.length + (fV ((L.take k).map (aN F rk))).length + 1 ≤ 140737488355328) := fun k => by
    have := yA (L.map (aN F rk)) k
    rw [← List.map_take] at this
    simp only [List.length_append, List.length_cons, List.length_nil] at hlen
    omega
   have HST : Hid (jK B b (pre ++ fV ((L.take 0).map (aN F rk))) w w) := by
    rw [Hid, List.take_zero, List.map_nil, fV, List.append_nil]; exact ⟨hbl, Below.refl _ _, Lib.OthersKept.refl _ _ _⟩
   have HF := aa hF
   have dR := aa gL
   have dQ := aa uw
   have js := aa ih
   have HV := aa hv
   have dG : Hid (∀ c ∈ L, c < n ∧ rk c < rk i) := fun c hc => hw.kid i hi c (by rw [← uw]; exact hc)
   clear hown hq hv ih hF gL hbl hlen h0 EL uw hnm
   go_enter Tryz.func90, Tryz.ntmps90
   go_wp2_with fail
   go_loopw [4, 5, 22] (fun _ _ x wr => ∃ k : Nat, k ≤ L.length ∧ x = .int .i64 k ∧ Hid (jK B b (pre ++ fV ((L.take k).map (aN F rk))) w wr)) (fun _ _ x _ => L.length - (intOf x).toNat)
   case atStart => exact ⟨0, Nat.zero_le _, rfl, HST.out⟩
   case round =>
    obtain ⟨k, hk, rfl, hO⟩ := hrel
    obtain ⟨wo, rfl⟩ : ∃ wo : World, wo = wr := ⟨_, rfl⟩
    by_cases hlt : k < L.length
    ·have F9 : L[k]? = some L[k] := List.getElem?_eq_getElem hlt
     have hFo := HF.out.others hbb hO.out.ot
     have hrow := hFo.FH (i := i) (j := k) (c := L[k]) hi HV.out (by rw [← dQ.out]; exact F9)
     have dL := dG.out L[k] (List.getElem_mem hlt)
     have iB : Hid (((L.take k).map (aN F rk)).length = k) := by rw [Hid, List.length_map, List.length_take]; omega
     have qE : Hid (fV ((L.take (k + 1)).map (aN F rk)) = fV ((L.take k).map (aN F rk)) ++ ((if k = 0 then 40 else 44) :: txR (aN F rk L[k]))) := by
      rw [Hid, List.take_add_one, F9, List.map_append]
      show fV (_ ++ [aN F rk L[k]]) = _
      rw [zm, iB.out]
     have kQ := aa (fun c : Int => Db B b (Lib.byteCells (pre ++ fV ((L.take k).map (aN F rk)))) c wo hO.out.bl (by rw [Lib.byteCells_length, List.length_append]; exact HLEN.out k) (hO.out.size hB))
     have HO := aa hO.out
     have aV := aa hlt
     have ij := aa dL
     obtain ⟨mn, hmn, mB⟩ : ∃ mn : Int, min (k : Int) 1 = mn ∧ ((k = 0 ∧ mn = 0) ∨ (k ≠ 0 ∧ mn = 1)) := ⟨_, rfl, by omega⟩
     have i1 : (0 : Int) ≤ (k : Int) := by omega
     have i2 : (k : Int) < (L.length : Int) := by omega
     clear F9 hFo dL hO
     generalize L[k] = c at *
     rcases mB with ⟨s5, rfl⟩ | ⟨s5, rfl⟩
     ·rw [if_pos s5] at qE
      clear s5
      go_wp2_with fail
      refine (kQ.out _).mono ?_
      rintro e w2 ⟨rfl, h1, h2, h3⟩
      have HS := aa (HO.out.byte (x := 40) rfl h1 h2 h3)
      clear h1 h2 h3
      have Lg := (dR.out.others EK HS.out.ot).cell
      have gw := aa (js.out (rk c) (by have := ij.out.2; omega) c (pre ++ fV ((L.take k).map (aN F rk)) ++ [40]) w2 ij.out.1 (Nat.le_refl _) (HF.out.others hbb HS.out.ot) (dR.out.others EK HS.out.ot) HS.out.bl (by
       have := HLEN.out (k + 1)
       rw [qE.out] at this
       simp only [List.length_append, List.length_cons, List.length_nil] at this ⊢
       omega) (HS.out.size hB))
      go_wp2_with fail
      refine gw.out.mono ?_
      rintro e w3 ⟨rfl, h4⟩
      have HN : Hid (jK B b (pre ++ fV ((L.take (k + 1)).map (aN F rk))) w w3) := by
       have := HS.out.next h4
       rw [Hid, qE.out]
       simpa [List.append_assoc] using this
      clear h4 gw HS
      go_wp2_with fail
      go_roundw
      case rel => exact ⟨k + 1, aV.out, by go_num, HN.out⟩
      case measure => have := aV.out; simp [intOf]; omega
     ·rw [if_neg s5] at qE
      clear s5
      go_wp2_with fail
      refine (kQ.out _).mono ?_
      rintro e w2 ⟨rfl, h1, h2, h3⟩
      have HS := aa (HO.out.byte (x := 44) rfl h1 h2 h3)
      clear h1 h2 h3
      have Lg := (dR.out.others EK HS.out.ot).cell
      have gw := aa (js.out (rk c) (by have := ij.out.2; omega) c (pre ++ fV ((L.take k).map (aN F rk)) ++ [44]) w2 ij.out.1 (Nat.le_refl _) (HF.out.others hbb HS.out.ot) (dR.out.others EK HS.out.ot) HS.out.bl (by
       have := HLEN.out (k + 1)
       rw [qE.out] at this
       simp only [List.length_append, List.length_cons, List.length_nil] at this ⊢
       omega) (HS.out.size hB))
      go_wp2_with fail
      refine gw.out.mono ?_
      rintro e w3 ⟨rfl, h4⟩
      have HN : Hid (jK B b (pre ++ fV ((L.take (k + 1)).map (aN F rk))) w w3) := by
       have := HS.out.next h4
       rw [Hid, qE.out]
       simpa [List.append_assoc] using this
      clear h4 gw HS
      go_wp2_with fail
      go_roundw
      case rel => exact ⟨k + 1, aV.out, by go_num, HN.out⟩
      case measure => have := aV.out; simp [intOf]; omega
    ·obtain rfl : k = L.length := by omega
     have hO := hO.out
     rw [List.take_length] at hO
     have HO := aa hO
     have kQ := aa (Db B b (Lib.byteCells (pre ++ fV (L.map (aN F rk)))) 41 wo hO.bl (by rw [Lib.byteCells_length, List.length_append]; have := HLEN.out L.length; rw [List.take_length] at this; exact this) (hO.size hB))
     clear hO
     go_wp2_with fail
     refine kQ.out.mono ?_
     rintro e w2 ⟨rfl, h1, h2, h3⟩
     have HS := aa (HO.out.byte (x := 41) rfl h1 h2 h3)
     clear h1 h2 h3
     go_wp2_with fail
     go_end0
     exact ⟨rfl, by rw [← List.append_assoc]; exact HS.out⟩
end
section
open Go.RowKit Go.Deep
theorem Py {base : Nat} {e : TypeId} {w : World} {g n cap : Nat} {xs : List Value} (h : aC base e w (.slice (some ⟨g, 0, none⟩) n cap) xs) {m : Nat} (hm : m ≤ n) : aC base e w (.slice (some ⟨g, 0, none⟩) m cap) (xs.take m) := by
 obtain ⟨h1, h2⟩ := h
 rcases h2 with ⟨e1, _⟩ | ⟨g2, dw, cur, e1, hg, hc, hn, hcm, hcs, ht⟩
 ·cases e1
 ·injection e1 with a1 a2 a3
  injection a1 with a1
  injection a1 with a1
  subst a1; subst a3
  have hnx : n = xs.length := a2
  have hl : (xs.take m).length = m := by rw [List.length_take]; omega
  refine ⟨by rw [Nat.mul_one], .inr ⟨g, cap, cur, by rw [hl], hg, hc, by omega, hcm, hcs, ?_⟩⟩
  rw [hl, Nat.mul_one, ← ht, List.take_take]
  congr 1; omega
theorem EM {base : Nat} {e : TypeId} {w : World} {g n cap : Nat} {xs : List Value} (h : aC base e w (.slice (some ⟨g, 0, none⟩) n cap) xs) {j : Nat} {u : Value} (hj : xs[j]? = some u) : w.cell? ⟨g, j, none⟩ = some u ∧ w.frozen? ⟨g, j, none⟩ = false := by
 have hl := (List.getElem?_eq_some_iff.1 hj).1
 obtain ⟨g2, dw, e1, _, _, hc, hf, _⟩ := h.set hl
 injection e1 with a1
 injection a1 with a1
 injection a1 with a1
 subst a1
 refine ⟨?_, hf⟩
 rw [hc]
 congr 1
 rw [List.getD_eq_getElem?_getD, hj]; rfl
end
end Go.Proofs.YthgabkgmkolobaaGreat
