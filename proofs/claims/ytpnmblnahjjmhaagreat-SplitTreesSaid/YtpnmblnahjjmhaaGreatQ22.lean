/- Parse, plain: the machine over a stack of lists of rose trees; the forest that grows. The text of a tree: phylotree.Print$1. -/
import Derived.Test.YtpnmblnahjjmhaaGreatQ1
import Derived.Test.YtpnmblnahjjmhaaGreatQ20
import Derived.Test.YtpnmblnahjjmhaaGreatQ19
import Derived.Lib.IndexAny
import Derived.Test.YtpnmblnahjjmhaaGreatQ21
import Derived.Test.YtpnmblnahjjmhaaGreatQ4
import Derived.Test.YtpnmblnahjjmhaaGreatQ12
import Derived.Lib.MinMax
namespace Go.Proofs.YtpnmblnahjjmhaaGreat
set_option maxRecDepth 100000
section
def eW : List UInt8 := [40, 41, 44, 59]
def popZ : List (List RT) → List (List RT)
 | Z :: Y :: st => (Y ++ [.node ByteArray.empty Z]) :: st
 | st => st
def X4 (r : RT) : List (List RT) → List (List RT)
 | Z :: st => (Z ++ [r]) :: st
 | [] => []
def firstZ : List (List RT) → RT
 | (r :: _) :: _ => r
 | _ => .node ByteArray.empty []
def pz : Nat → List UInt8 → List (List RT) → Bool → Option RT
 | 0, _, _, _ => none
 | _ + 1, [], _, _ => none
 | f + 1, c :: s, st, dn =>
  if c = 40 then (if dn = true then none else pz f s ([] :: st) false)
  else if c = 41 then (if dn = false ∨ st.length = 1 then none else pz f s (popZ st) true)
  else if c = 44 then (if dn = false ∨ st.length = 1 then none else pz f s st false)
  else if c = 59 then (if dn = false ∨ st.length ≠ 1 ∨ s ≠ [] then none else some (firstZ st))
  else if dn = true then none
  else if Lib.indexAny (c :: s) eW < 0 then none
  else pz f ((c :: s).drop (Lib.indexAny (c :: s) eW).toNat) (X4 (.node ⟨((c :: s).take (Lib.indexAny (c :: s) eW).toNat).toArray⟩ []) st) true
def qx (s : List UInt8) : Option RT := pz (s.length + 1) s [[]] false
section
variable {F G : bA} {n m : Nat} {rk : Nat → Nat}
theorem B8 (hF : Wf F n rk) (hG : Wf G m rk) : ∀ (d c : Nat), rk c ≤ d → c < n → c < m → (∀ z, cG F rk c z = true → G.kids z = F.kids z ∧ G.nm z = F.nm z) → bu G rk c = bu F rk c
 | d, c, hd, hc, hm, hz => by
  obtain ⟨h1, h2⟩ := hz c (ji hF hc)
  rw [dH hF hc, dH hG hm, h1, h2]
  congr 1
  refine List.map_congr_left fun k hk => ?_
  have hkk := hF.bF c hc k hk
  have hkm := (hG.bF c hm k (by rw [h1]; exact hk)).1
  cases d with
  | zero => omega
  | succ d => exact B8 hF hG d k (by omega) hkk.1 hkm fun z hs => hz z (nu hF hc hk hs)
def O9 (F : bA) : bA := ⟨fun i => ⟨Array.replicate i 0⟩, F.old, F.kids⟩
theorem Pa (hF : Wf F n rk) (one : ∀ p q k, p < n → q < n → k ∈ F.kids p → k ∈ F.kids q → p = q) (nd : ∀ i, i < n → (F.kids i).Nodup) : si (O9 F) n rk :=
 ⟨⟨fun i hi k hk => hF.bF i hi k hk⟩, one, nd, fun a b _ _ _ _ e => by
  have e : (⟨Array.replicate a 0⟩ : ByteArray) = ⟨Array.replicate b 0⟩ := e
  have := congrArg (fun s : ByteArray => s.data.size) e
  simpa using this⟩
theorem Pb (hF : Wf F n rk) {c : Nat} (hc : c < n) (z : Nat) : cG (O9 F) rk c z = cG F rk c z :=
 R6 (G := O9 F) hF ⟨fun i hi k hk => hF.bF i hi k hk⟩ hc (Nat.le_refl _) (fun _ _ => rfl) z
theorem GQ (hF : Wf F n rk) : ∀ (d c : Nat), rk c ≤ d → c < n → cm (O9 F) rk c = cm F rk c
 | d, c, hd, hc => by
  have hU : Wf (O9 F) n rk := ⟨fun i hi k hk => hF.bF i hi k hk⟩
  rw [cO hF hc, cO hU hc]
  congr 1
  refine gy fun k hk => ?_
  have hkk := hF.bF c hc k hk
  cases d with
  | zero => omega
  | succ d => exact GQ hF d k (by omega) hkk.1
theorem Si (hF : Wf F n rk) (one : ∀ p q k, p < n → q < n → k ∈ F.kids p → k ∈ F.kids q → p = q) (nd : ∀ i, i < n → (F.kids i).Nodup) {R : Nat} (hR : ∀ i, i < n → rk i ≤ R) {i x y j : Nat} (hi : i < n) (hx : x ∈ F.kids i) (hy : y ∈ F.kids i) (h1 : cG F rk x j = true) (h2 : cG F rk y j = true) : x = y :=
 As (Pa hF one nd) hR hi hx hy (by rw [Pb hF (hF.bF i hi x hx).1]; exact h1) (by rw [Pb hF (hF.bF i hi y hy).1]; exact h2)
theorem Ej (hF : Wf F n rk) (one : ∀ p q k, p < n → q < n → k ∈ F.kids p → k ∈ F.kids q → p = q) (nd : ∀ i, i < n → (F.kids i).Nodup) {R : Nat} (hR : ∀ i, i < n → rk i ≤ R) {i : Nat} (hi : i < n) : (cm F rk i).Nodup := by
 rw [← GQ hF (rk i) i (Nat.le_refl _) hi]
 exact jM (Pa hF one nd) hR hi (Nat.le_refl _)
end
def mQ (z : Nat) : Nat := 2000 - z
def vM (F : bA) : Option Nat → List Nat → List (List RT) → Prop
 | nx, o :: os, Z :: st => (F.nm o).size = 0 ∧ (∃ ks, F.kids o = ks ++ nx.toList ∧ ks.map (bu F mQ) = Z) ∧ vM F (some o) os st
 | _, [], [] => True
 | _, _, _ => False
structure kQ (F : bA) (n : Nat) (op : List Nat) (st : List (List RT)) : Prop where
 zU : n ≤ 2000
 bF : ∀ i, i < n → ∀ k ∈ F.kids i, i < k ∧ k < n
 one : ∀ p q k, p < n → q < n → k ∈ F.kids p → k ∈ F.kids q → p = q
 nd : ∀ i, i < n → (F.kids i).Nodup
 zip : vM F none op st
 Kw : ∀ o ∈ op, o < n
 ne : op ≠ []
section
variable {F : bA} {n : Nat} {op : List Nat} {st : List (List RT)}
theorem kQ.wf (h : kQ F n op st) : Wf F n mQ := ⟨fun i hi k hk => by obtain ⟨h1, h2⟩ := h.bF i hi k hk; have := h.zU; exact ⟨h2, by unfold mQ; omega⟩⟩
theorem GR (i : Nat) : mQ i ≤ 2000 := Nat.sub_le _ _
theorem vM.len {F : bA} : ∀ {nx : Option Nat} {op : List Nat} {st : List (List RT)}, vM F nx op st → op.length = st.length
 | _, [], [], _ => rfl
 | _, _ :: os, _ :: st, h => by rw [List.length_cons, List.length_cons, h.2.2.len]
 | _, [], _ :: _, h => h.elim
 | _, _ :: _, [], h => h.elim
def jC (F : bA) (n o : Nat) (nm : ByteArray) : bA := ⟨dQ F.nm n nm, dQ F.old n 0, dQ (dQ F.kids n []) o (F.kids o ++ [n])⟩
theorem qf {F : bA} {n o : Nat} {nm : ByteArray} : (jC F n o nm).kids o = F.kids o ++ [n] := bB _ _ _
theorem qg {F : bA} {n o : Nat} {nm : ByteArray} (h : o < n) : (jC F n o nm).kids n = [] := by
 show dQ _ o _ n = []
 rw [bU _ _ (by omega), bB]
theorem tF {F : bA} {n o : Nat} {nm : ByteArray} {z : Nat} (h : z ≠ o) (h2 : z ≠ n) : (jC F n o nm).kids z = F.kids z := by
 show dQ _ o _ z = _
 rw [bU _ _ h, bU _ _ h2]
theorem zc {F : bA} {n o : Nat} {nm : ByteArray} {z : Nat} (h2 : z ≠ n) : (jC F n o nm).nm z = F.nm z := bU _ _ h2
theorem sF {F : bA} {n o : Nat} {nm : ByteArray} (hk : ∀ i, i < n → ∀ k ∈ F.kids i, i < k ∧ k < n) (ho : o < n) {i k : Nat} (hi : i < n + 1) (hm : k ∈ (jC F n o nm).kids i) : (i < n ∧ k ∈ F.kids i) ∨ (i = o ∧ k = n) := by
 by_cases e : i = o
 ·subst e
  rw [qf] at hm
  rcases List.mem_append.1 hm with h1 | h1
  ·exact .inl ⟨ho, h1⟩
  ·exact .inr ⟨rfl, by simpa using h1⟩
 ·by_cases e2 : i = n
  ·subst e2; rw [qg ho] at hm; cases hm
  ·rw [tF e e2] at hm; exact .inl ⟨by omega, hm⟩
theorem Kx (h : kQ F n op st) {o : Nat} (ho : o < n) (nm : ByteArray) (hb : n < 2000) : Wf (jC F n o nm) (n + 1) mQ := ⟨fun i hi k hm => by
 unfold mQ
 rcases sF h.bF ho hi hm with ⟨h1, h2⟩ | ⟨h1, h2⟩
 ·have := h.bF i h1 k h2; omega
 ·omega⟩
theorem Ek (h : kQ F n op st) {o : Nat} (ho : o < n) (nm : ByteArray) (hb : n < 2000) {c : Nat} (hc : c < n) (hs : cG F mQ c o = false) : bu (jC F n o nm) mQ c = bu F mQ c :=
 B8 h.wf (Kx h ho nm hb) _ c (Nat.le_refl _) hc (by omega) fun z hz => by
  have Ku := nO h.wf hc (Nat.le_refl _) hz
  have hne : z ≠ o := fun e => by rw [e, hs] at hz; cases hz
  exact ⟨tF hne (by omega), zc (by omega)⟩
theorem GU (h : kQ F n op st) {o : Nat} (ho : o < n) (nm : ByteArray) (hb : n < 2000) : ∀ {y : Nat} {os : List Nat} {zs : List (List RT)}, (∀ p ∈ os, p < n) → y < n → cG F mQ y o = true → vM F (some y) os zs → vM (jC F n o nm) (some y) os zs
 | _, [], [], _, _, _, _ => trivial
 | y, p :: os, Z :: zs, hp, hy, hs, hz => by
  obtain ⟨h1, ⟨ks, h2, h3⟩, h4⟩ := hz
  have Gy := hp p (by simp)
  have X5 : y ∈ F.kids p := by rw [h2]; simp
  have hpy := (h.bF p Gy y X5).1
  have wP := nu h.wf Gy X5 hs
  have hne : p ≠ o := fun e => by
   subst e
   have := nK h.wf hy hs
   have bK := h.zU
   unfold mQ at this
   omega
  refine ⟨by rw [zc (by omega)]; exact h1, ⟨ks, by rw [tF hne (by omega)]; exact h2, ?_⟩, GU h ho nm hb (fun q hq => hp q (by simp [hq])) Gy wP h4⟩
  rw [← h3]
  refine List.map_congr_left fun c hc => ?_
  have JX : c ∈ F.kids p := by rw [h2]; simp [hc]
  have fB := (h.bF p Gy c JX).2
  refine Ek h ho nm hb fB ?_
  cases hsc : cG F mQ c o with
  | false => rfl
  | true =>
   exfalso
   have e := Si h.wf h.one h.nd (fun i _ => GR i) Gy JX X5 hsc hs
   subst e
   have eZ := h.nd p Gy
   rw [h2] at eZ
   have := (List.nodup_append.1 eZ).2.2 c hc c (by simp)
   exact this rfl
 | _, [], _ :: _, _, _, _, hz => hz.elim
 | _, _ :: _, [], _, _, _, hz => hz.elim
end
section
variable {F : bA} {n : Nat} {o : Nat} {os : List Nat} {Z : List RT} {st : List (List RT)}
theorem kQ.on (h : kQ F n (o :: os) st) : o < n := h.Kw o (by simp)
theorem kQ.size (h : kQ F n (o :: os) (Z :: st)) : (F.nm o).size = 0 ∧ (F.kids o).map (bu F mQ) = Z := by
 obtain ⟨h1, ⟨ks, h2, h3⟩, _⟩ := h.zip
 refine ⟨h1, ?_⟩
 rw [h2]; simpa using h3
theorem Em (h : kQ F n (o :: os) (Z :: st)) (nm : ByteArray) (hb : n < 2000) :
  (∀ i, i < n + 1 → ∀ k ∈ (jC F n o nm).kids i, i < k ∧ k < n + 1) ∧ (∀ p q k, p < n + 1 → q < n + 1 → k ∈ (jC F n o nm).kids p → k ∈ (jC F n o nm).kids q → p = q) ∧ (∀ i, i < n + 1 → ((jC F n o nm).kids i).Nodup) ∧
  vM (jC F n o nm) (some o) os st ∧ (∀ c ∈ F.kids o, bu (jC F n o nm) mQ c = bu F mQ c) ∧ bu (jC F n o nm) mQ n = .node nm [] := by
 have ho := h.on
 refine ⟨fun i hi k hk => ?_, fun p q k hp hq h1 h2 => ?_, fun i hi => ?_, GU h ho nm hb (fun p hp => h.Kw p (by simp [hp])) ho (ji h.wf ho) h.zip.2.2, fun c hc => ?_, ?_⟩
 ·rcases sF h.bF ho hi hk with ⟨h1, h2⟩ | ⟨h1, h2⟩
  ·have := h.bF i h1 k h2; omega
  ·omega
 ·rcases sF h.bF ho hp h1 with ⟨a1, a2⟩ | ⟨a1, a2⟩
  ·rcases sF h.bF ho hq h2 with ⟨b1, b2⟩ | ⟨b1, b2⟩
   ·exact h.one p q k a1 b1 a2 b2
   ·have := (h.bF p a1 k a2).2; omega
  ·rcases sF h.bF ho hq h2 with ⟨b1, b2⟩ | ⟨b1, b2⟩
   ·have := (h.bF q b1 k b2).2; omega
   ·omega
 ·by_cases e : i = o
  ·subst e
   rw [qf, List.nodup_append]
   refine ⟨h.nd i ho, by simp, fun a ha b hb e => ?_⟩
   have hb : b = n := by simpa using hb
   have := (h.bF i ho a ha).2; omega
  ·by_cases e2 : i = n
   ·subst e2; rw [qg ho]; exact List.nodup_nil
   ·rw [tF e e2]; exact h.nd i (by omega)
 ·have fB := h.bF o ho c hc
  refine Ek h ho nm hb fB.2 ?_
  cases hs : cG F mQ c o with
  | false => rfl
  | true =>
   have := nK h.wf fB.2 hs
   have bK := h.zU
   unfold mQ at this
   omega
 ·rw [dH (Kx h ho nm hb) (Nat.lt_succ_self n), qg ho]
  show RT.node (dQ F.nm n nm n) [] = _
  rw [bB]
theorem kQ.leaf (h : kQ F n (o :: os) (Z :: st)) (nm : ByteArray) (hb : n < 2000) : kQ (jC F n o nm) (n + 1) (o :: os) ((Z ++ [.node nm []]) :: st) := by
 obtain ⟨a1, a2, a3, a4, a5, a6⟩ := Em h nm hb
 have ho := h.on
 refine ⟨by omega, a1, a2, a3, ⟨by rw [zc (by omega)]; exact h.size.1, ⟨_, (List.append_nil _).symm, ?_⟩, a4⟩, fun p hp => by have := h.Kw p hp; omega, by simp⟩
 rw [qf, List.map_append, List.map_cons, List.map_nil, a6]
 congr 1
 rw [← h.size.2]
 exact List.map_congr_left a5
theorem kQ.open (h : kQ F n (o :: os) (Z :: st)) (hb : n < 2000) : kQ (jC F n o ByteArray.empty) (n + 1) (n :: o :: os) ([] :: Z :: st) := by
 obtain ⟨a1, a2, a3, a4, a5, a6⟩ := Em h ByteArray.empty hb
 have ho := h.on
 refine ⟨by omega, a1, a2, a3, ⟨?_, ⟨[], by rw [qg ho]; rfl, rfl⟩, by rw [zc (by omega)]; exact h.size.1, ⟨F.kids o, qf, ?_⟩, a4⟩, fun p hp => ?_, by simp⟩
 ·show (dQ F.nm n ByteArray.empty n).size = 0
  rw [bB]; rfl
 ·rw [← h.size.2]
  exact List.map_congr_left a5
 ·rcases List.mem_cons.1 hp with e | e
  ·omega
  ·have := h.Kw p e; omega
theorem kQ.pop {q : Nat} {Y : List RT} (h : kQ F n (o :: q :: os) (Z :: Y :: st)) : kQ F n (q :: os) ((Y ++ [.node ByteArray.empty Z]) :: st) := by
 obtain ⟨h1, ⟨ks, h2, h3⟩, h4, ⟨ks2, h5, h6⟩, h7⟩ := h.zip
 have ho := h.on
 refine ⟨h.zU, h.bF, h.one, h.nd, ⟨h4, ⟨ks2 ++ [o], by rw [h5]; simp, ?_⟩, h7⟩, fun p hp => h.Kw p (by simp at hp ⊢; rcases hp with e | e <;> simp [e]), by simp⟩
 rw [List.map_append, h6, List.map_cons, List.map_nil, dH h.wf ho]
 have hn : F.nm o = ByteArray.empty := ByteArray.ext (Array.eq_empty_of_size_eq_zero h1)
 rw [hn, h.size.2]
theorem kQ.done {r : RT} {Y : List RT} (h : kQ F n [o] [r :: Y]) : ∃ c ks, F.kids o = c :: ks ∧ c < n ∧ gp F mQ c = flat r := by
 obtain ⟨_, h2⟩ := h.size
 have ho := h.on
 cases hk : F.kids o with
 | nil => rw [hk] at h2; cases h2
 | cons c ks =>
  rw [hk, List.map_cons] at h2
  injection h2 with h2 h3
  have fB := (h.bF o ho c (by rw [hk]; simp)).2
  exact ⟨c, ks, rfl, fB, by rw [JG h.wf fB (Ej h.wf h.one h.nd (fun i _ => GR i) fB), h2]⟩
theorem kQ.len (h : kQ F n (o :: os) (Z :: st)) : (o :: os).length = st.length + 1 := by rw [h.zip.len]; rfl
end
end
section
open Go.RowKit Go.Deep
mutual
def txR : RT → List UInt8
 | .node nm [] => nm.data.toList
 | .node _ (k :: ks) => 40 :: (txR k ++ txRs ks ++ [41])
def txRs : List RT → List UInt8
 | [] => []
 | r :: rs => 44 :: (txR r ++ txRs rs)
end
def ja : List RT → List UInt8
 | [] => []
 | k :: ks => 40 :: (txR k ++ txRs ks)
theorem Sj (l : List RT) (c : RT) : txRs (l ++ [c]) = txRs l ++ 44 :: txR c := by
 induction l with
 | nil => simp [txRs]
 | cons a l ih => rw [List.cons_append, txRs, txRs, ih]; simp
theorem C0 (l : List RT) (c : RT) : ja (l ++ [c]) = ja l ++ (if l.length = 0 then 40 else 44) :: txR c := by
 cases l with
 | nil => simp [ja, txRs]
 | cons a l => rw [List.cons_append, ja, ja, Sj, if_neg (by simp)]; simp
theorem AF (nm : ByteArray) {ks : List RT} (h : ks ≠ []) : txR (.node nm ks) = ja ks ++ [41] := by
 cases ks with
 | nil => exact absurd rfl h
 | cons k ks => rw [txR, ja]; simp
theorem Sk (nm : ByteArray) : txR (.node nm []) = nm.data.toList := by rw [txR]
theorem GV (l m : List RT) : (txRs (l ++ m)).length = (txRs l).length + (txRs m).length := by
 induction l with
 | nil => simp [txRs]
 | cons a l ih => rw [List.cons_append, txRs, txRs]; simp [ih]; omega
theorem GX (l : List RT) (k : Nat) : (ja (l.take k)).length ≤ (ja l).length := by
 cases l with
 | nil => simp [ja]
 | cons a l =>
  cases k with
  | zero => simp [ja]
  | succ k =>
   rw [List.take_succ_cons, ja, ja]
   have := GV (l.take k) (l.drop k)
   rw [List.take_append_drop] at this
   simp only [List.length_cons, List.length_append]; omega
structure ku (B b : Nat) (pre : List UInt8) (w wr : World) : Prop where
 bl : Lib.IsBuilderF 135 5 B b (Lib.byteCells pre) wr
 up : Below B w wr
 ot : Lib.OthersKept 5 (some b) w wr
theorem ku.size {B b : Nat} {pre : List UInt8} {w wr : World} (h : ku B b pre w wr) (hB : B ≤ w.heap.size) : B ≤ wr.heap.size := Nat.le_trans hB h.up.size
theorem ku.byte {B b : Nat} {pre : List UInt8} {w wr w2 : World} {x : UInt8} {c : Int} (h : ku B b pre w wr) (hc : c = x.toNat) (h1 : Lib.BuilderAtF 135 5 B b (.pointer (some ⟨b, 0, none⟩)) (Lib.byteCells pre ++ [.int .u8 c]) w2) (h2 : Below B wr w2) (h3 : Lib.OthersKept 5 (some b) wr w2) : ku B b (pre ++ [x]) w w2 := by
 subst hc
 exact ⟨.inr (by rw [show Lib.byteCells (pre ++ [x]) = Lib.byteCells pre ++ [.int .u8 x.toNat] from List.map_append]; exact h1), h.up.trans h2, h.ot.trans h3⟩
theorem ku.next {B b : Nat} {pre X6 : List UInt8} {w wr w2 : World} (h : ku B b pre w wr) (k : ku B b X6 wr w2) : ku B b X6 w w2 := ⟨k.bl, h.up.trans k.up, h.ot.trans k.ot⟩
theorem bZ.others {base n b : Nat} {A : Nat → Nat} {kv : Nat → Value} {F : bA} {w w' : World} (h : bZ base n A kv F w) (hb : b < base) (k : Lib.OthersKept 5 (some b) w w') : bZ base n A kv F w' := by
 refine h.same (fun i hi => ?_) fun i g hi hg => ?_
 ·have h1 := h.node i hi
  rw [h1]
  refine k _ _ h1 (fun e => by have := h.lo i hi; cases e; omega) (fun c fz e => ?_)
  injection e with _ e2 _
  exact absurd e2 (by decide)
 ·have hlo := (h.iw hi hg).1
  obtain ⟨_, h1 | ⟨g2, cap, cur, h1, _, hc, _⟩⟩ := h.own i hi
  ·rw [h1.1] at hg; cases hg
  ·rw [h1] at hg
   have hg : some g2 = some g := hg
   injection hg with hg; subst hg
   rw [hc]
   refine k _ _ hc (fun e => by cases e; omega) (fun c fz e => ?_)
   injection e with _ e2 _
   exact absurd e2 (by decide)
def tG (b fb : Nat) (w : World) : Prop := w.heap[fb]? = some (Obj.cells #[.func (.func 126) #[] #[.pointer (some ⟨b, 0, none⟩), .pointer (some ⟨fb, 0, none⟩)]] 136 (0, 0))
theorem tG.cell {b fb : Nat} {w : World} (h : tG b fb w) : w.cell? ⟨fb, 0, none⟩ = some (.func (.func 126) #[] #[.pointer (some ⟨b, 0, none⟩), .pointer (some ⟨fb, 0, none⟩)]) := by
 have h : w.heap[fb]? = _ := h
 simp [World.cell?, h]
theorem tG.others {b fb : Nat} {w w' : World} (h : tG b fb w) (hne : fb ≠ b) (k : Lib.OthersKept 5 (some b) w w') : tG b fb w' := by
 have h : w.heap[fb]? = _ := h
 refine k _ _ h (fun e => by cases e; exact hne rfl) (fun c fz e => ?_)
 injection e with _ e2 _
 exact absurd e2 (by decide)
def X7 (B b : Nat) (pre : List UInt8) (w : World) (e : Ending) (w' : World) : Prop := e = .returned (.tuple #[]) ∧ ku B b pre w w'
set_option maxHeartbeats 4000000 in
theorem Sl {base n B b fb : Nat} {A : Nat → Nat} {kv : Nat → Value} {F : bA} {rk : Nat → Nat} (hw : Wf F n rk) (hl : ∀ z, z < n → (F.kids z).length ≤ 1000) (hbb : b < base) (En : fb ≠ b) : ∀ (d i : Nat) (pre : List UInt8) (w : World), i < n → rk i ≤ d → bZ base n A kv F w → tG b fb w →
  Lib.IsBuilderF 135 5 B b (Lib.byteCells pre) w → pre.length + (txR (bu F rk i)).length ≤ 140737488355328 → B ≤ w.heap.size →
  Calls Tryz.prog 126 (#[.pointer (some ⟨A i, 0, none⟩)] ++ #[.pointer (some ⟨b, 0, none⟩), .pointer (some ⟨fb, 0, none⟩)]) w (X7 B b (pre ++ txR (bu F rk i)) w) := by
 intro d
 induction d using Nat.strongRecOn with
 | ind d ih =>
  intro i pre w hi hd hF fN fZ hlen hB
  have eP : ∀ args w, (callFunc 126 args).run Tryz.prog w = .ok (.enter 126 args) w := enters_of Tryz.func126 (by af) rfl
  have hown := hF.own i hi
  obtain ⟨q, cap, hv, hq⟩ := hown.form (n := (F.kids i).length) (by simp)
  have hkc := hF.qG hi
  rw [hv] at hkc
  have hnm := hF.name hi
  by_cases h0 : F.kids i = []
  ·have Pe : txR (bu F rk i) = (F.nm i).data.toList := by rw [dH hw hi, h0]; exact Sk _
   rw [Pe] at hlen ⊢
   have d1 : (((F.kids i).length : Int) == 0) = true := by rw [h0]; rfl
   have HW := ag (X2 B b (Lib.byteCells pre) (F.nm i) w fZ (by rw [Lib.byteCells_length]; exact hlen) hB)
   have HE : Hid (∀ w', Lib.BuilderAtF 135 5 B b (.pointer (some ⟨b, 0, none⟩)) (Lib.byteCells pre ++ Lib.strCells (F.nm i)) w' → Below B w w' → Lib.OthersKept 5 (some b) w w' → ku B b (pre ++ (F.nm i).data.toList) w w') := fun w' h1 h2 h3 =>
    ⟨.inr (by rw [Lib.strCells_eq, ← show Lib.byteCells (pre ++ (F.nm i).data.toList) = Lib.byteCells pre ++ Lib.byteCells (F.nm i).data.toList from List.map_append] at h1; exact h1), h2, h3⟩
   clear hown hq hv ih hF fN fZ hlen h0 Pe
   generalize F.nm i = nm at *
   aq Tryz.func126, Tryz.ntmps126
   aa fail
   refine HW.out.mono ?_
   rintro e w' ⟨rfl, h1, h2, h3⟩
   have HN := ag (HE.out w' h1 h2 h3)
   clear h1 h2 h3
   aa fail
   rH
   exact ⟨rfl, HN.out⟩
  ·obtain ⟨L, uK⟩ : ∃ L, L = F.kids i := ⟨_, rfl⟩
   have DJ : 0 < L.length := by rw [uK]; exact List.length_pos_iff.2 h0
   have ql : L.length ≤ 1000 := by rw [uK]; exact hl i hi
   rw [← uK] at hown hv hkc
   have Pe : txR (bu F rk i) = ja (L.map (bu F rk)) ++ [41] := by rw [dH hw hi, ← uK]; exact AF _ (by rw [uK]; simpa using h0)
   rw [Pe] at hlen ⊢
   have d1 : ((L.length : Int) == 0) = false := beq_eq_false_iff_ne.2 (by omega)
   obtain ⟨gk, rfl⟩ : ∃ g, q = some ⟨g, 0, none⟩ := by
    rcases hq with rfl | h
    ·obtain ⟨_, h | ⟨g, _, _, h, _⟩⟩ := hown
     ·have := h.2; rw [List.length_map] at this; omega
     ·rw [hv] at h; cases h
    ·exact h
   have Ao : Hid (∀ k, pre.length + (ja ((L.take k).map (bu F rk))).length + 1 ≤ 140737488355328) := fun k => by
    have := GX (L.map (bu F rk)) k
    rw [← List.map_take] at this
    simp only [List.length_append, List.length_cons, List.length_nil] at hlen
    omega
   have cu : Hid (ku B b (pre ++ ja ((L.take 0).map (bu F rk))) w w) := by
    rw [Hid, List.take_zero, List.map_nil, ja, List.append_nil]; exact ⟨fZ, Below.refl _ _, Lib.OthersKept.refl _ _ _⟩
   have HF := ag hF
   have cU := ag fN
   have dW := ag uK
   have k7 := ag ih
   have HV := ag hv
   have iY : Hid (∀ c ∈ L, c < n ∧ rk c < rk i) := fun c hc => hw.bF i hi c (by rw [← uK]; exact hc)
   clear hown hq hv ih hF fN fZ hlen h0 Pe uK hnm
   aq Tryz.func126, Tryz.ntmps126
   aa fail
   aV [4, 5, 22] (fun _ _ x wr => ∃ k : Nat, k ≤ L.length ∧ x = .int .i64 k ∧ Hid (ku B b (pre ++ ja ((L.take k).map (bu F rk))) w wr)) (fun _ _ x _ => L.length - (intOf x).toNat)
   case atStart => exact ⟨0, Nat.zero_le _, rfl, cu.out⟩
   case round =>
    obtain ⟨k, hk, rfl, hO⟩ := bE
    obtain ⟨wo, rfl⟩ : ∃ wo : World, wo = wr := ⟨_, rfl⟩
    by_cases hlt : k < L.length
    ·have X8 : L[k]? = some L[k] := List.getElem?_eq_getElem hlt
     have hFo := HF.out.others hbb hO.out.ot
     have hrow := hFo.Ff (i := i) (j := k) (c := L[k]) hi HV.out (by rw [← dW.out]; exact X8)
     have fB := iY.out L[k] (List.getElem_mem hlt)
     have kZ : Hid (((L.take k).map (bu F rk)).length = k) := by rw [Hid, List.length_map, List.length_take]; omega
     have qy : Hid (ja ((L.take (k + 1)).map (bu F rk)) = ja ((L.take k).map (bu F rk)) ++ ((if k = 0 then 40 else 44) :: txR (bu F rk L[k]))) := by
      rw [Hid, List.take_add_one, X8, List.map_append]
      show ja (_ ++ [bu F rk L[k]]) = _
      rw [C0, kZ.out]
     have eH := ag (fun c : Int => CZ B b (Lib.byteCells (pre ++ ja ((L.take k).map (bu F rk)))) c wo hO.out.bl (by rw [Lib.byteCells_length, List.length_append]; exact Ao.out k) (hO.out.size hB))
     have HO := ag hO.out
     have aU := ag hlt
     have jH := ag fB
     obtain ⟨mn, hmn, mW⟩ : ∃ mn : Int, min (k : Int) 1 = mn ∧ ((k = 0 ∧ mn = 0) ∨ (k ≠ 0 ∧ mn = 1)) := ⟨_, rfl, by omega⟩
     have i1 : (0 : Int) ≤ (k : Int) := by omega
     have i2 : (k : Int) < (L.length : Int) := by omega
     clear X8 hFo fB hO
     generalize L[k] = c at *
     rcases mW with ⟨jf, rfl⟩ | ⟨jf, rfl⟩
     ·rw [if_pos jf] at qy
      clear jf
      aa fail
      refine (eH.out _).mono ?_
      rintro e w2 ⟨rfl, h1, h2, h3⟩
      have HS := ag (HO.out.byte (x := 40) rfl h1 h2 h3)
      clear h1 h2 h3
      have Ky := (cU.out.others En HS.out.ot).cell
      have eM := ag (k7.out (rk c) (by have := jH.out.2; omega) c (pre ++ ja ((L.take k).map (bu F rk)) ++ [40]) w2 jH.out.1 (Nat.le_refl _) (HF.out.others hbb HS.out.ot) (cU.out.others En HS.out.ot) HS.out.bl (by
       have := Ao.out (k + 1)
       rw [qy.out] at this
       simp only [List.length_append, List.length_cons, List.length_nil] at this ⊢
       omega) (HS.out.size hB))
      aa fail
      refine eM.out.mono ?_
      rintro e w3 ⟨rfl, h4⟩
      have HN : Hid (ku B b (pre ++ ja ((L.take (k + 1)).map (bu F rk))) w w3) := by
       have := HS.out.next h4
       rw [Hid, qy.out]
       simpa [List.append_assoc] using this
      clear h4 eM HS
      aa fail
      aF
      case rel => exact ⟨k + 1, aU.out, by aH, HN.out⟩
      case measure => have := aU.out; simp [intOf]; omega
     ·rw [if_neg jf] at qy
      clear jf
      aa fail
      refine (eH.out _).mono ?_
      rintro e w2 ⟨rfl, h1, h2, h3⟩
      have HS := ag (HO.out.byte (x := 44) rfl h1 h2 h3)
      clear h1 h2 h3
      have Ky := (cU.out.others En HS.out.ot).cell
      have eM := ag (k7.out (rk c) (by have := jH.out.2; omega) c (pre ++ ja ((L.take k).map (bu F rk)) ++ [44]) w2 jH.out.1 (Nat.le_refl _) (HF.out.others hbb HS.out.ot) (cU.out.others En HS.out.ot) HS.out.bl (by
       have := Ao.out (k + 1)
       rw [qy.out] at this
       simp only [List.length_append, List.length_cons, List.length_nil] at this ⊢
       omega) (HS.out.size hB))
      aa fail
      refine eM.out.mono ?_
      rintro e w3 ⟨rfl, h4⟩
      have HN : Hid (ku B b (pre ++ ja ((L.take (k + 1)).map (bu F rk))) w w3) := by
       have := HS.out.next h4
       rw [Hid, qy.out]
       simpa [List.append_assoc] using this
      clear h4 eM HS
      aa fail
      aF
      case rel => exact ⟨k + 1, aU.out, by aH, HN.out⟩
      case measure => have := aU.out; simp [intOf]; omega
    ·obtain rfl : k = L.length := by omega
     have hO := hO.out
     rw [List.take_length] at hO
     have HO := ag hO
     have eH := ag (CZ B b (Lib.byteCells (pre ++ ja (L.map (bu F rk)))) 41 wo hO.bl (by rw [Lib.byteCells_length, List.length_append]; have := Ao.out L.length; rw [List.take_length] at this; exact this) (hO.size hB))
     clear hO
     aa fail
     refine eH.out.mono ?_
     rintro e w2 ⟨rfl, h1, h2, h3⟩
     have HS := ag (HO.out.byte (x := 41) rfl h1 h2 h3)
     clear h1 h2 h3
     aa fail
     rH
     exact ⟨rfl, by rw [← List.append_assoc]; exact HS.out⟩
end
end Go.Proofs.YtpnmblnahjjmhaaGreat
