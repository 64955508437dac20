/- Parse, plain: the machine over a stack of lists of rose trees; the forest that grows. The .. -/
import Derived.Test.YtpnmblnahjjmhaaGreatQ1
import Derived.Test.YtpnmblnahjjmhaaGreatQ20
import Derived.Test.YtpnmblnahjjmhaaGreatQ19
import Derived.Lib.IndexAny
import Derived.Test.YtpnmblnahjjmhaaGreatQ21
import Derived.Test.YtpnmblnahjjmhaaGreatQ4
import Derived.Test.YtpnmblnahjjmhaaGreatQ12
import Derived.Lib.MinMax
set_option maxRecDepth 100000
namespace Go.Proofs.YtpnmblnahjjmhaaGreat
section
def dW : List UInt8 := [40, 41, 44, 59]
def popZ : List (List RT) → List (List RT)
 | Z :: Y :: st => (Y ++ [.node ByteArray.empty Z]) :: st
 | st => st
def X7 (r : RT) : List (List RT) → List (List RT)
 | Z :: st => (Z ++ [r]) :: st
 | [] => []
def firstZ : List (List RT) → RT
 | (r :: _) :: _ => r
 | _ => .node ByteArray.empty []
def pz : Nat → List UInt8 → List (List RT) → Bool → Option RT
 | 0, _, _, _ => none
 | _ + 1, [], _, _ => none
 | f + 1, c :: s, st, dn =>
  if c = 40 then (if dn = true then none else pz f s ([] :: st) false)
  else if c = 41 then (if dn = false ∨ st.length = 1 then none else pz f s (popZ st) true)
  else if c = 44 then (if dn = false ∨ st.length = 1 then none else pz f s st false)
  else if c = 59 then (if dn = false ∨ st.length ≠ 1 ∨ s ≠ [] then none else some (firstZ st))
  else if dn = true then none
  else if Lib.indexAny (c :: s) dW < 0 then none
  else pz f ((c :: s).drop (Lib.indexAny (c :: s) dW).toNat) (X7 (.node ⟨((c :: s).take (Lib.indexAny (c :: s) dW).toNat).toArray⟩ []) st) true
def pO (s : List UInt8) : Option RT := pz (s.length + 1) s [[]] false
section
variable {F G : aT} {n m : Nat} {rk : Nat → Nat}
theorem BU (hF : Wf F n rk) (hG : Wf G m rk) : ∀ (d c : Nat), rk c ≤ d → c < n → c < m → (∀ z, bK F rk c z = true → G.kids z = F.kids z ∧ G.nm z = F.nm z) → aR G rk c = aR F rk c
 | d, c, hd, hc, hm, hz => by
  obtain ⟨h1, h2⟩ := hz c (iK hF hc)
  rw [cQ hF hc, cQ hG hm, h1, h2]
  congr 1
  refine List.map_congr_left fun k hk => ?_
  have hkk := hF.kid c hc k hk
  have hkm := (hG.kid c hm k (by rw [h1]; exact hk)).1
  cases d with
  | zero => omega
  | succ d => exact BU hF hG d k (by omega) hkk.1 hkm fun z hs => hz z (mA hF hc hk hs)
def O7 (F : aT) : aT := ⟨fun i => ⟨Array.replicate i 0⟩, F.old, F.kids⟩
theorem O8 (hF : Wf F n rk) (one : ∀ p q k, p < n → q < n → k ∈ F.kids p → k ∈ F.kids q → p = q) (nd : ∀ i, i < n → (F.kids i).Nodup) : rG (O7 F) n rk :=
 ⟨⟨fun i hi k hk => hF.kid i hi k hk⟩, one, nd, fun a b _ _ _ _ e => by
  have e : (⟨Array.replicate a 0⟩ : ByteArray) = ⟨Array.replicate b 0⟩ := e
  have := congrArg (fun s : ByteArray => s.data.size) e
  simpa using this⟩
theorem O9 (hF : Wf F n rk) {c : Nat} (hc : c < n) (z : Nat) : bK (O7 F) rk c z = bK F rk c z :=
 R6 (G := O7 F) hF ⟨fun i hi k hk => hF.kid i hi k hk⟩ hc (Nat.le_refl _) (fun _ _ => rfl) z
theorem GN (hF : Wf F n rk) : ∀ (d c : Nat), rk c ≤ d → c < n → bE (O7 F) rk c = bE F rk c
 | d, c, hd, hc => by
  have hU : Wf (O7 F) n rk := ⟨fun i hi k hk => hF.kid i hi k hk⟩
  rw [bW hF hc, bW hU hc]
  congr 1
  refine fL fun k hk => ?_
  have hkk := hF.kid c hc k hk
  cases d with
  | zero => omega
  | succ d => exact GN hF d k (by omega) hkk.1
theorem Sk (hF : Wf F n rk) (one : ∀ p q k, p < n → q < n → k ∈ F.kids p → k ∈ F.kids q → p = q) (nd : ∀ i, i < n → (F.kids i).Nodup) {R : Nat} (hR : ∀ i, i < n → rk i ≤ R) {i x y j : Nat} (hi : i < n) (hx : x ∈ F.kids i) (hy : y ∈ F.kids i) (h1 : bK F rk x j = true) (h2 : bK F rk y j = true) : x = y :=
 z8 (O8 hF one nd) hR hi hx hy (by rw [O9 hF (hF.kid i hi x hx).1]; exact h1) (by rw [O9 hF (hF.kid i hi y hy).1]; exact h2)
theorem Ee (hF : Wf F n rk) (one : ∀ p q k, p < n → q < n → k ∈ F.kids p → k ∈ F.kids q → p = q) (nd : ∀ i, i < n → (F.kids i).Nodup) {R : Nat} (hR : ∀ i, i < n → rk i ≤ R) {i : Nat} (hi : i < n) : (bE F rk i).Nodup := by
 rw [← GN hF (rk i) i (Nat.le_refl _) hi]
 exact jh (O8 hF one nd) hR hi (Nat.le_refl _)
end
def lS (z : Nat) : Nat := 2000 - z
def vu (F : aT) : Option Nat → List Nat → List (List RT) → Prop
 | nx, o :: os, Z :: st => (F.nm o).size = 0 ∧ (∃ ks, F.kids o = ks ++ nx.toList ∧ ks.map (aR F lS) = Z) ∧ vu F (some o) os st
 | _, [], [] => True
 | _, _, _ => False
structure jW (F : aT) (n : Nat) (op : List Nat) (st : List (List RT)) : Prop where
 big : n ≤ 2000
 kid : ∀ i, i < n → ∀ k ∈ F.kids i, i < k ∧ k < n
 one : ∀ p q k, p < n → q < n → k ∈ F.kids p → k ∈ F.kids q → p = q
 nd : ∀ i, i < n → (F.kids i).Nodup
 zip : vu F none op st
 opn : ∀ o ∈ op, o < n
 ne : op ≠ []
section
variable {F : aT} {n : Nat} {op : List Nat} {st : List (List RT)}
theorem jW.wf (h : jW F n op st) : Wf F n lS := ⟨fun i hi k hk => by obtain ⟨h1, h2⟩ := h.kid i hi k hk; have := h.big; exact ⟨h2, by unfold lS; omega⟩⟩
theorem GP (i : Nat) : lS i ≤ 2000 := Nat.sub_le _ _
theorem vu.len {F : aT} : ∀ {nx : Option Nat} {op : List Nat} {st : List (List RT)}, vu F nx op st → op.length = st.length
 | _, [], [], _ => rfl
 | _, _ :: os, _ :: st, h => by rw [List.length_cons, List.length_cons, h.2.2.len]
 | _, [], _ :: _, h => h.elim
 | _, _ :: _, [], h => h.elim
def iY (F : aT) (n o : Nat) (nm : ByteArray) : aT := ⟨upd F.nm n nm, upd F.old n 0, upd (upd F.kids n []) o (F.kids o ++ [n])⟩
theorem o6 {F : aT} {n o : Nat} {nm : ByteArray} : (iY F n o nm).kids o = F.kids o ++ [n] := upd_same _ _ _
theorem o7 {F : aT} {n o : Nat} {nm : ByteArray} (h : o < n) : (iY F n o nm).kids n = [] := by
 show upd _ o _ n = []
 rw [upd_ne _ _ (by omega), upd_same]
theorem sX {F : aT} {n o : Nat} {nm : ByteArray} {z : Nat} (h : z ≠ o) (h2 : z ≠ n) : (iY F n o nm).kids z = F.kids z := by
 show upd _ o _ z = _
 rw [upd_ne _ _ h, upd_ne _ _ h2]
theorem yR {F : aT} {n o : Nat} {nm : ByteArray} {z : Nat} (h2 : z ≠ n) : (iY F n o nm).nm z = F.nm z := upd_ne _ _ h2
theorem rR {F : aT} {n o : Nat} {nm : ByteArray} (hk : ∀ i, i < n → ∀ k ∈ F.kids i, i < k ∧ k < n) (ho : o < n) {i k : Nat} (hi : i < n + 1) (hm : k ∈ (iY F n o nm).kids i) : (i < n ∧ k ∈ F.kids i) ∨ (i = o ∧ k = n) := by
 by_cases e : i = o
 ·subst e
  rw [o6] at hm
  rcases List.mem_append.1 hm with h1 | h1
  ·exact .inl ⟨ho, h1⟩
  ·exact .inr ⟨rfl, by simpa using h1⟩
 ·by_cases e2 : i = n
  ·subst e2; rw [o7 ho] at hm; cases hm
  ·rw [sX e e2] at hm; exact .inl ⟨by omega, hm⟩
theorem Kv (h : jW F n op st) {o : Nat} (ho : o < n) (nm : ByteArray) (hb : n < 2000) : Wf (iY F n o nm) (n + 1) lS := ⟨fun i hi k hm => by
 unfold lS
 rcases rR h.kid ho hi hm with ⟨h1, h2⟩ | ⟨h1, h2⟩
 ·have := h.kid i h1 k h2; omega
 ·omega⟩
theorem Ef (h : jW F n op st) {o : Nat} (ho : o < n) (nm : ByteArray) (hb : n < 2000) {c : Nat} (hc : c < n) (hs : bK F lS c o = false) : aR (iY F n o nm) lS c = aR F lS c :=
 BU h.wf (Kv h ho nm hb) _ c (Nat.le_refl _) hc (by omega) fun z hz => by
  have Kt := mQ h.wf hc (Nat.le_refl _) hz
  have hne : z ≠ o := fun e => by rw [e, hs] at hz; cases hz
  exact ⟨sX hne (by omega), yR (by omega)⟩
theorem GQ (h : jW F n op st) {o : Nat} (ho : o < n) (nm : ByteArray) (hb : n < 2000) : ∀ {y : Nat} {os : List Nat} {zs : List (List RT)}, (∀ p ∈ os, p < n) → y < n → bK F lS y o = true → vu F (some y) os zs → vu (iY F n o nm) (some y) os zs
 | _, [], [], _, _, _, _ => trivial
 | y, p :: os, Z :: zs, hp, hy, hs, hz => by
  obtain ⟨h1, ⟨ks, h2, h3⟩, h4⟩ := hz
  have Gt := hp p (by simp)
  have X8 : y ∈ F.kids p := by rw [h2]; simp
  have hpy := (h.kid p Gt y X8).1
  have wB := mA h.wf Gt X8 hs
  have hne : p ≠ o := fun e => by
   subst e
   have := mN h.wf hy hs
   have hb2 := h.big
   unfold lS at this
   omega
  refine ⟨by rw [yR (by omega)]; exact h1, ⟨ks, by rw [sX hne (by omega)]; exact h2, ?_⟩, GQ h ho nm hb (fun q hq => hp q (by simp [hq])) Gt wB h4⟩
  rw [← h3]
  refine List.map_congr_left fun c hc => ?_
  have JX : c ∈ F.kids p := by rw [h2]; simp [hc]
  have eH := (h.kid p Gt c JX).2
  refine Ef h ho nm hb eH ?_
  cases hsc : bK F lS c o with
  | false => rfl
  | true =>
   exfalso
   have e := Sk h.wf h.one h.nd (fun i _ => GP i) Gt JX X8 hsc hs
   subst e
   have dZ := h.nd p Gt
   rw [h2] at dZ
   have := (List.nodup_append.1 dZ).2.2 c hc c (by simp)
   exact this rfl
 | _, [], _ :: _, _, _, _, hz => hz.elim
 | _, _ :: _, [], _, _, _, hz => hz.elim
end
section
variable {F : aT} {n : Nat} {o : Nat} {os : List Nat} {Z : List RT} {st : List (List RT)}
theorem jW.on (h : jW F n (o :: os) st) : o < n := h.opn o (by simp)
theorem jW.size (h : jW F n (o :: os) (Z :: st)) : (F.nm o).size = 0 ∧ (F.kids o).map (aR F lS) = Z := by
 obtain ⟨h1, ⟨ks, h2, h3⟩, _⟩ := h.zip
 refine ⟨h1, ?_⟩
 rw [h2]; simpa using h3
theorem Eg (h : jW F n (o :: os) (Z :: st)) (nm : ByteArray) (hb : n < 2000) :
  (∀ i, i < n + 1 → ∀ k ∈ (iY F n o nm).kids i, i < k ∧ k < n + 1) ∧ (∀ p q k, p < n + 1 → q < n + 1 → k ∈ (iY F n o nm).kids p → k ∈ (iY F n o nm).kids q → p = q) ∧ (∀ i, i < n + 1 → ((iY F n o nm).kids i).Nodup) ∧
  vu (iY F n o nm) (some o) os st ∧ (∀ c ∈ F.kids o, aR (iY F n o nm) lS c = aR F lS c) ∧ aR (iY F n o nm) lS n = .node nm [] := by
 have ho := h.on
 refine ⟨fun i hi k hk => ?_, fun p q k hp hq h1 h2 => ?_, fun i hi => ?_, GQ h ho nm hb (fun p hp => h.opn p (by simp [hp])) ho (iK h.wf ho) h.zip.2.2, fun c hc => ?_, ?_⟩
 ·rcases rR h.kid ho hi hk with ⟨h1, h2⟩ | ⟨h1, h2⟩
  ·have := h.kid i h1 k h2; omega
  ·omega
 ·rcases rR h.kid ho hp h1 with ⟨a1, a2⟩ | ⟨a1, a2⟩
  ·rcases rR h.kid ho hq h2 with ⟨b1, b2⟩ | ⟨b1, b2⟩
   ·exact h.one p q k a1 b1 a2 b2
   ·have := (h.kid p a1 k a2).2; omega
  ·rcases rR h.kid ho hq h2 with ⟨b1, b2⟩ | ⟨b1, b2⟩
   ·have := (h.kid q b1 k b2).2; omega
   ·omega
 ·by_cases e : i = o
  ·subst e
   rw [o6, List.nodup_append]
   refine ⟨h.nd i ho, by simp, fun a ha b hb e => ?_⟩
   have hb : b = n := by simpa using hb
   have := (h.kid i ho a ha).2; omega
  ·by_cases e2 : i = n
   ·subst e2; rw [o7 ho]; exact List.nodup_nil
   ·rw [sX e e2]; exact h.nd i (by omega)
 ·have eH := h.kid o ho c hc
  refine Ef h ho nm hb eH.2 ?_
  cases hs : bK F lS c o with
  | false => rfl
  | true =>
   have := mN h.wf eH.2 hs
   have hb2 := h.big
   unfold lS at this
   omega
 ·rw [cQ (Kv h ho nm hb) (Nat.lt_succ_self n), o7 ho]
  show RT.node (upd F.nm n nm n) [] = _
  rw [upd_same]
theorem jW.leaf (h : jW F n (o :: os) (Z :: st)) (nm : ByteArray) (hb : n < 2000) : jW (iY F n o nm) (n + 1) (o :: os) ((Z ++ [.node nm []]) :: st) := by
 obtain ⟨a1, a2, a3, a4, a5, a6⟩ := Eg h nm hb
 have ho := h.on
 refine ⟨by omega, a1, a2, a3, ⟨by rw [yR (by omega)]; exact h.size.1, ⟨_, (List.append_nil _).symm, ?_⟩, a4⟩, fun p hp => by have := h.opn p hp; omega, by simp⟩
 rw [o6, List.map_append, List.map_cons, List.map_nil, a6]
 congr 1
 rw [← h.size.2]
 exact List.map_congr_left a5
theorem jW.open (h : jW F n (o :: os) (Z :: st)) (hb : n < 2000) : jW (iY F n o ByteArray.empty) (n + 1) (n :: o :: os) ([] :: Z :: st) := by
 obtain ⟨a1, a2, a3, a4, a5, a6⟩ := Eg h ByteArray.empty hb
 have ho := h.on
 refine ⟨by omega, a1, a2, a3, ⟨?_, ⟨[], by rw [o7 ho]; rfl, rfl⟩, by rw [yR (by omega)]; exact h.size.1, ⟨F.kids o, o6, ?_⟩, a4⟩, fun p hp => ?_, by simp⟩
 ·show (upd F.nm n ByteArray.empty n).size = 0
  rw [upd_same]; rfl
 ·rw [← h.size.2]
  exact List.map_congr_left a5
 ·rcases List.mem_cons.1 hp with e | e
  ·omega
  ·have := h.opn p e; omega
theorem jW.pop {q : Nat} {Y : List RT} (h : jW F n (o :: q :: os) (Z :: Y :: st)) : jW F n (q :: os) ((Y ++ [.node ByteArray.empty Z]) :: st) := by
 obtain ⟨h1, ⟨ks, h2, h3⟩, h4, ⟨ks2, h5, h6⟩, h7⟩ := h.zip
 have ho := h.on
 refine ⟨h.big, h.kid, h.one, h.nd, ⟨h4, ⟨ks2 ++ [o], by rw [h5]; simp, ?_⟩, h7⟩, fun p hp => h.opn p (by simp at hp ⊢; rcases hp with e | e <;> simp [e]), by simp⟩
 rw [List.map_append, h6, List.map_cons, List.map_nil, cQ h.wf ho]
 have hn : F.nm o = ByteArray.empty := ByteArray.ext (Array.eq_empty_of_size_eq_zero h1)
 rw [hn, h.size.2]
theorem jW.done {r : RT} {Y : List RT} (h : jW F n [o] [r :: Y]) : ∃ c ks, F.kids o = c :: ks ∧ c < n ∧ fG F lS c = flat r := by
 obtain ⟨_, h2⟩ := h.size
 have ho := h.on
 cases hk : F.kids o with
 | nil => rw [hk] at h2; cases h2
 | cons c ks =>
  rw [hk, List.map_cons] at h2
  injection h2 with h2 h3
  have eH := (h.kid o ho c (by rw [hk]; simp)).2
  exact ⟨c, ks, rfl, eH, by rw [JH h.wf eH (Ee h.wf h.one h.nd (fun i _ => GP i) eH), h2]⟩
theorem jW.len (h : jW F n (o :: os) (Z :: st)) : (o :: os).length = st.length + 1 := by rw [h.zip.len]; rfl
end
end
section
open Go.RowKit Go.Deep
mutual
def txR : RT → List UInt8
 | .node nm [] => nm.data.toList
 | .node _ (k :: ks) => 40 :: (txR k ++ txRs ks ++ [41])
def txRs : List RT → List UInt8
 | [] => []
 | r :: rs => 44 :: (txR r ++ txRs rs)
end
def iF : List RT → List UInt8
 | [] => []
 | k :: ks => 40 :: (txR k ++ txRs ks)
theorem Sl (l : List RT) (c : RT) : txRs (l ++ [c]) = txRs l ++ 44 :: txR c := by
 induction l with
 | nil => simp [txRs]
 | cons a l ih => rw [List.cons_append, txRs, txRs, ih]; simp
theorem CQ (l : List RT) (c : RT) : iF (l ++ [c]) = iF l ++ (if l.length = 0 then 40 else 44) :: txR c := by
 cases l with
 | nil => simp [iF, txRs]
 | cons a l => rw [List.cons_append, iF, iF, Sl, if_neg (by simp)]; simp
theorem Aj (nm : ByteArray) {ks : List RT} (h : ks ≠ []) : txR (.node nm ks) = iF ks ++ [41] := by
 cases ks with
 | nil => exact absurd rfl h
 | cons k ks => rw [txR, iF]; simp
theorem Sm (nm : ByteArray) : txR (.node nm []) = nm.data.toList := by rw [txR]
theorem GR (l m : List RT) : (txRs (l ++ m)).length = (txRs l).length + (txRs m).length := by
 induction l with
 | nil => simp [txRs]
 | cons a l ih => rw [List.cons_append, txRs, txRs]; simp [ih]; omega
theorem GU (l : List RT) (k : Nat) : (iF (l.take k)).length ≤ (iF l).length := by
 cases l with
 | nil => simp [iF]
 | cons a l =>
  cases k with
  | zero => simp [iF]
  | succ k =>
   rw [List.take_succ_cons, iF, iF]
   have := GR (l.take k) (l.drop k)
   rw [List.take_append_drop] at this
   simp only [List.length_cons, List.length_append]; omega
structure jG (B b : Nat) (pre : List UInt8) (w wr : World) : Prop where
 bl : Lib.IsBuilderF 135 5 B b (Lib.byteCells pre) wr
 up : Below B w wr
 ot : Lib.OthersKept 5 (some b) w wr
theorem jG.size {B b : Nat} {pre : List UInt8} {w wr : World} (h : jG B b pre w wr) (hB : B ≤ w.heap.size) : B ≤ wr.heap.size := Nat.le_trans hB h.up.size
theorem jG.byte {B b : Nat} {pre : List UInt8} {w wr w2 : World} {x : UInt8} {c : Int} (h : jG B b pre w wr) (hc : c = x.toNat) (h1 : Lib.BuilderAtF 135 5 B b (.pointer (some ⟨b, 0, none⟩)) (Lib.byteCells pre ++ [.int .u8 c]) w2) (h2 : Below B wr w2) (h3 : Lib.OthersKept 5 (some b) wr w2) : jG B b (pre ++ [x]) w w2 := by
 subst hc
 exact ⟨.inr (by rw [show Lib.byteCells (pre ++ [x]) = Lib.byteCells pre ++ [.int .u8 x.toNat] from List.map_append]; exact h1), h.up.trans h2, h.ot.trans h3⟩
theorem jG.next {B b : Nat} {pre X9 : List UInt8} {w wr w2 : World} (h : jG B b pre w wr) (k : jG B b X9 wr w2) : jG B b X9 w w2 := ⟨k.bl, h.up.trans k.up, h.ot.trans k.ot⟩
theorem bB.others {base n b : Nat} {A : Nat → Nat} {kv : Nat → Value} {F : aT} {w w' : World} (h : bB base n A kv F w) (hb : b < base) (k : Lib.OthersKept 5 (some b) w w') : bB base n A kv F w' := by
 refine h.same (fun i hi => ?_) fun i g hi hg => ?_
 ·have h1 := h.node i hi
  rw [h1]
  refine k _ _ h1 (fun e => by have := h.lo i hi; cases e; omega) (fun c fz e => ?_)
  injection e with _ e2 _
  exact absurd e2 (by decide)
 ·have hlo := (h.gL hi hg).1
  obtain ⟨_, h1 | ⟨g2, cap, cur, h1, _, hc, _⟩⟩ := h.own i hi
  ·rw [h1.1] at hg; cases hg
  ·rw [h1] at hg
   have hg : some g2 = some g := hg
   injection hg with hg; subst hg
   rw [hc]
   refine k _ _ hc (fun e => by cases e; omega) (fun c fz e => ?_)
   injection e with _ e2 _
   exact absurd e2 (by decide)
def sY (b fb : Nat) (w : World) : Prop := w.heap[fb]? = some (Obj.cells #[.func (.func 126) #[] #[.pointer (some ⟨b, 0, none⟩), .pointer (some ⟨fb, 0, none⟩)]] 136 (0, 0))
theorem sY.cell {b fb : Nat} {w : World} (h : sY b fb w) : w.cell? ⟨fb, 0, none⟩ = some (.func (.func 126) #[] #[.pointer (some ⟨b, 0, none⟩), .pointer (some ⟨fb, 0, none⟩)]) := by
 have h : w.heap[fb]? = _ := h
 simp [World.cell?, h]
theorem sY.others {b fb : Nat} {w w' : World} (h : sY b fb w) (hne : fb ≠ b) (k : Lib.OthersKept 5 (some b) w w') : sY b fb w' := by
 have h : w.heap[fb]? = _ := h
 refine k _ _ h (fun e => by cases e; exact hne rfl) (fun c fz e => ?_)
 injection e with _ e2 _
 exact absurd e2 (by decide)
def Ya (B b : Nat) (pre : List UInt8) (w : World) (e : Ending) (w' : World) : Prop := e = .returned (.tuple #[]) ∧ jG B b pre w w'
set_option maxHeartbeats 4000000 in
theorem Sn {base n B b fb : Nat} {A : Nat → Nat} {kv : Nat → Value} {F : aT} {rk : Nat → Nat} (hw : Wf F n rk) (hl : ∀ z, z < n → (F.kids z).length ≤ 1000) (hbb : b < base) (Eh : fb ≠ b) : ∀ (d i : Nat) (pre : List UInt8) (w : World), i < n → rk i ≤ d → bB base n A kv F w → sY b fb w →
  Lib.IsBuilderF 135 5 B b (Lib.byteCells pre) w → pre.length + (txR (aR F rk i)).length ≤ 140737488355328 → B ≤ w.heap.size →
  Calls Tryz.prog 126 (#[.pointer (some ⟨A i, 0, none⟩)] ++ #[.pointer (some ⟨b, 0, none⟩), .pointer (some ⟨fb, 0, none⟩)]) w (Ya B b (pre ++ txR (aR F rk i)) w) := by
 intro d
 induction d using Nat.strongRecOn with
 | ind d ih =>
  intro i pre w hi hd hF eZ hbl hlen hB
  have eP : ∀ args w, (callFunc 126 args).run Tryz.prog w = .ok (.enter 126 args) w := enters_of Tryz.func126 (by kernel_rfl) rfl
  have hown := hF.own i hi
  obtain ⟨q, cap, hv, hq⟩ := hown.form (n := (F.kids i).length) (by simp)
  have hkc := hF.pZ hi
  rw [hv] at hkc
  have hnm := hF.name hi
  by_cases h0 : F.kids i = []
  ·have Pa : txR (aR F rk i) = (F.nm i).data.toList := by rw [cQ hw hi, h0]; exact Sm _
   rw [Pa] at hlen ⊢
   have d1 : (((F.kids i).length : Int) == 0) = true := by rw [h0]; rfl
   have HW := aa (X5 B b (Lib.byteCells pre) (F.nm i) w hbl (by rw [Lib.byteCells_length]; exact hlen) hB)
   have HE : Hid (∀ w', Lib.BuilderAtF 135 5 B b (.pointer (some ⟨b, 0, none⟩)) (Lib.byteCells pre ++ Lib.strCells (F.nm i)) w' → Below B w w' → Lib.OthersKept 5 (some b) w w' → jG B b (pre ++ (F.nm i).data.toList) w w') := fun w' h1 h2 h3 =>
    ⟨.inr (by rw [Lib.strCells_eq, ← show Lib.byteCells (pre ++ (F.nm i).data.toList) = Lib.byteCells pre ++ Lib.byteCells (F.nm i).data.toList from List.map_append] at h1; exact h1), h2, h3⟩
   clear hown hq hv ih hF eZ hbl hlen h0 Pa
   generalize F.nm i = nm at *
   go_enter Tryz.func126, Tryz.ntmps126
   go_wp2_with fail
   refine HW.out.mono ?_
   rintro e w' ⟨rfl, h1, h2, h3⟩
   have HN := aa (HE.out w' h1 h2 h3)
   clear h1 h2 h3
   go_wp2_with fail
   go_end0
   exact ⟨rfl, HN.out⟩
  ·obtain ⟨L, uk⟩ : ∃ L, L = F.kids i := ⟨_, rfl⟩
   have Dz : 0 < L.length := by rw [uk]; exact List.length_pos_iff.2 h0
   have pE : L.length ≤ 1000 := by rw [uk]; exact hl i hi
   rw [← uk] at hown hv hkc
   have Pa : txR (aR F rk i) = iF (L.map (aR F rk)) ++ [41] := by rw [cQ hw hi, ← uk]; exact Aj _ (by rw [uk]; simpa using h0)
   rw [Pa] at hlen ⊢
   have d1 : ((L.length : Int) == 0) = false := beq_eq_false_iff_ne.2 (by omega)
   obtain ⟨gk, rfl⟩ : ∃ g, q = some ⟨g, 0, none⟩ := by
    rcases hq with rfl | h
    ·obtain ⟨_, h | ⟨g, _, _, h, _⟩⟩ := hown
     ·have := h.2; rw [List.length_map] at this; omega
     ·rw [hv] at h; cases h
    ·exact h
   have HLEN : Hid (∀ k, pre.length + (iF ((L.take k).map (aR F rk))).length + 1 ≤ 140737488355328) := fun k => by
    have := GU (L.map (aR F rk)) k
    rw [← List.map_take] at this
    simp only [List.length_append, List.length_cons, List.length_nil] at hlen
    omega
   have HST : Hid (jG B b (pre ++ iF ((L.take 0).map (aR F rk))) w w) := by
    rw [Hid, List.take_zero, List.map_nil, iF, List.append_nil]; exact ⟨hbl, Below.refl _ _, Lib.OthersKept.refl _ _ _⟩
   have HF := aa hF
   have cn := aa eZ
   have dr := aa uk
   have kr := aa ih
   have HV := aa hv
   have iD : Hid (∀ c ∈ L, c < n ∧ rk c < rk i) := fun c hc => hw.kid i hi c (by rw [← uk]; exact hc)
   clear hown hq hv ih hF eZ hbl hlen h0 Pa uk hnm
   go_enter Tryz.func126, Tryz.ntmps126
   go_wp2_with fail
   go_loopw [4, 5, 22] (fun _ _ x wr => ∃ k : Nat, k ≤ L.length ∧ x = .int .i64 k ∧ Hid (jG B b (pre ++ iF ((L.take k).map (aR F rk))) w wr)) (fun _ _ x _ => L.length - (intOf x).toNat)
   case atStart => exact ⟨0, Nat.zero_le _, rfl, HST.out⟩
   case round =>
    obtain ⟨k, hk, rfl, hO⟩ := hrel
    obtain ⟨wo, rfl⟩ : ∃ wo : World, wo = wr := ⟨_, rfl⟩
    by_cases hlt : k < L.length
    ·have Yb : L[k]? = some L[k] := List.getElem?_eq_getElem hlt
     have hFo := HF.out.others hbb hO.out.ot
     have hrow := hFo.E9 (i := i) (j := k) (c := L[k]) hi HV.out (by rw [← dr.out]; exact Yb)
     have eH := iD.out L[k] (List.getElem_mem hlt)
     have kn : Hid (((L.take k).map (aR F rk)).length = k) := by rw [Hid, List.length_map, List.length_take]; omega
     have pQ : Hid (iF ((L.take (k + 1)).map (aR F rk)) = iF ((L.take k).map (aR F rk)) ++ ((if k = 0 then 40 else 44) :: txR (aR F rk L[k]))) := by
      rw [Hid, List.take_add_one, Yb, List.map_append]
      show iF (_ ++ [aR F rk L[k]]) = _
      rw [CQ, kn.out]
     have dM := aa (fun c : Int => CP B b (Lib.byteCells (pre ++ iF ((L.take k).map (aR F rk)))) c wo hO.out.bl (by rw [Lib.byteCells_length, List.length_append]; exact HLEN.out k) (hO.out.size hB))
     have HO := aa hO.out
     have aM := aa hlt
     have jd := aa eH
     obtain ⟨mn, hmn, l5⟩ : ∃ mn : Int, min (k : Int) 1 = mn ∧ ((k = 0 ∧ mn = 0) ∨ (k ≠ 0 ∧ mn = 1)) := ⟨_, rfl, by omega⟩
     have i1 : (0 : Int) ≤ (k : Int) := by omega
     have i2 : (k : Int) < (L.length : Int) := by omega
     clear Yb hFo eH hO
     generalize L[k] = c at *
     rcases l5 with ⟨iI, rfl⟩ | ⟨iI, rfl⟩
     ·rw [if_pos iI] at pQ
      clear iI
      go_wp2_with fail
      refine (dM.out _).mono ?_
      rintro e w2 ⟨rfl, h1, h2, h3⟩
      have HS := aa (HO.out.byte (x := 40) rfl h1 h2 h3)
      clear h1 h2 h3
      have Kw := (cn.out.others Eh HS.out.ot).cell
      have dO := aa (kr.out (rk c) (by have := jd.out.2; omega) c (pre ++ iF ((L.take k).map (aR F rk)) ++ [40]) w2 jd.out.1 (Nat.le_refl _) (HF.out.others hbb HS.out.ot) (cn.out.others Eh HS.out.ot) HS.out.bl (by
       have := HLEN.out (k + 1)
       rw [pQ.out] at this
       simp only [List.length_append, List.length_cons, List.length_nil] at this ⊢
       omega) (HS.out.size hB))
      go_wp2_with fail
      refine dO.out.mono ?_
      rintro e w3 ⟨rfl, h4⟩
      have HN : Hid (jG B b (pre ++ iF ((L.take (k + 1)).map (aR F rk))) w w3) := by
       have := HS.out.next h4
       rw [Hid, pQ.out]
       simpa [List.append_assoc] using this
      clear h4 dO HS
      go_wp2_with fail
      go_roundw
      case rel => exact ⟨k + 1, aM.out, by go_num, HN.out⟩
      case measure => have := aM.out; simp [intOf]; omega
     ·rw [if_neg iI] at pQ
      clear iI
      go_wp2_with fail
      refine (dM.out _).mono ?_
      rintro e w2 ⟨rfl, h1, h2, h3⟩
      have HS := aa (HO.out.byte (x := 44) rfl h1 h2 h3)
      clear h1 h2 h3
      have Kw := (cn.out.others Eh HS.out.ot).cell
      have dO := aa (kr.out (rk c) (by have := jd.out.2; omega) c (pre ++ iF ((L.take k).map (aR F rk)) ++ [44]) w2 jd.out.1 (Nat.le_refl _) (HF.out.others hbb HS.out.ot) (cn.out.others Eh HS.out.ot) HS.out.bl (by
       have := HLEN.out (k + 1)
       rw [pQ.out] at this
       simp only [List.length_append, List.length_cons, List.length_nil] at this ⊢
       omega) (HS.out.size hB))
      go_wp2_with fail
      refine dO.out.mono ?_
      rintro e w3 ⟨rfl, h4⟩
      have HN : Hid (jG B b (pre ++ iF ((L.take (k + 1)).map (aR F rk))) w w3) := by
       have := HS.out.next h4
       rw [Hid, pQ.out]
       simpa [List.append_assoc] using this
      clear h4 dO HS
      go_wp2_with fail
      go_roundw
      case rel => exact ⟨k + 1, aM.out, by go_num, HN.out⟩
      case measure => have := aM.out; simp [intOf]; omega
    ·obtain rfl : k = L.length := by omega
     have hO := hO.out
     rw [List.take_length] at hO
     have HO := aa hO
     have dM := aa (CP B b (Lib.byteCells (pre ++ iF (L.map (aR F rk)))) 41 wo hO.bl (by rw [Lib.byteCells_length, List.length_append]; have := HLEN.out L.length; rw [List.take_length] at this; exact this) (hO.size hB))
     clear hO
     go_wp2_with fail
     refine dM.out.mono ?_
     rintro e w2 ⟨rfl, h1, h2, h3⟩
     have HS := aa (HO.out.byte (x := 41) rfl h1 h2 h3)
     clear h1 h2 h3
     go_wp2_with fail
     go_end0
     exact ⟨rfl, by rw [← List.append_assoc]; exact HS.out⟩
end
end Go.Proofs.YtpnmblnahjjmhaaGreat
