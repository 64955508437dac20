/- Parse, plain: the machine over a stack of lists of rose trees; the forest that grows. The .. -/
import Derived.Test.YteegefnjnikngaaGreatQ1
import Derived.Test.YteegefnjnikngaaGreatQ27
import Derived.Test.YteegefnjnikngaaGreatQ25
import Derived.Lib.IndexAny
import Derived.Test.YteegefnjnikngaaGreatQ7
import Derived.Test.YteegefnjnikngaaGreatQ26
import Derived.Test.YteegefnjnikngaaGreatQ17
import Derived.Lib.MinMax
set_option maxRecDepth 100000
namespace Go.Proofs.YteegefnjnikngaaGreat
section
def bu : List UInt8 := [40, 41, 44, 59]
def popZ : List (List RT) → List (List RT)
 | Z :: Y :: st => (Y ++ [.node ByteArray.empty Z]) :: st
 | st => st
def UB (r : RT) : List (List RT) → List (List RT)
 | Z :: st => (Z ++ [r]) :: st
 | [] => []
def firstZ : List (List RT) → RT
 | (r :: _) :: _ => r
 | _ => .node ByteArray.empty []
def pz : Nat → List UInt8 → List (List RT) → Bool → Option RT
 | 0, _, _, _ => none
 | _ + 1, [], _, _ => none
 | f + 1, c :: s, st, dn =>
  if c = 40 then (if dn = true then none else pz f s ([] :: st) false)
  else if c = 41 then (if dn = false ∨ st.length = 1 then none else pz f s (popZ st) true)
  else if c = 44 then (if dn = false ∨ st.length = 1 then none else pz f s st false)
  else if c = 59 then (if dn = false ∨ st.length ≠ 1 ∨ s ≠ [] then none else some (firstZ st))
  else if dn = true then none
  else if Lib.indexAny (c :: s) bu < 0 then none
  else pz f ((c :: s).drop (Lib.indexAny (c :: s) bu).toNat) (UB (.node ⟨((c :: s).take (Lib.indexAny (c :: s) bu).toNat).toArray⟩ []) st) true
def gH (s : List UInt8) : Option RT := pz (s.length + 1) s [[]] false
section
variable {F G : aL} {n m : Nat} {rk : Nat → Nat}
theorem yU (hF : Wf F n rk) (hG : Wf G m rk) : ∀ (d c : Nat), rk c ≤ d → c < n → c < m → (∀ z, bA F rk c z = true → G.kids z = F.kids z ∧ G.nm z = F.nm z) → aM G rk c = aM F rk c
 | d, c, hd, hc, hm, hz => by
  obtain ⟨h1, h2⟩ := hz c (fV hF hc)
  rw [cI hF hc, cI hG hm, h1, h2]
  congr 1
  refine List.map_congr_left fun k hk => ?_
  have hkk := hF.kid c hc k hk
  have hkm := (hG.kid c hm k (by rw [h1]; exact hk)).1
  cases d with
  | zero => omega
  | succ d => exact yU hF hG d k (by omega) hkk.1 hkm fun z hs => hz z (ku hF hc hk hs)
def Le (F : aL) : aL := ⟨fun i => ⟨Array.replicate i 0⟩, F.old, F.kids⟩
theorem Lf (hF : Wf F n rk) (one : ∀ p q k, p < n → q < n → k ∈ F.kids p → k ∈ F.kids q → p = q) (nd : ∀ i, i < n → (F.kids i).Nodup) : qh (Le F) n rk :=
 ⟨⟨fun i hi k hk => hF.kid i hi k hk⟩, one, nd, fun a b _ _ _ _ e => by
  have e : (⟨Array.replicate a 0⟩ : ByteArray) = ⟨Array.replicate b 0⟩ := e
  have := congrArg (fun s : ByteArray => s.data.size) e
  simpa using this⟩
theorem Lg (hF : Wf F n rk) {c : Nat} (hc : c < n) (z : Nat) : bA (Le F) rk c z = bA F rk c z :=
 NI (G := Le F) hF ⟨fun i hi k hk => hF.kid i hi k hk⟩ hc (Nat.le_refl _) (fun _ _ => rfl) z
theorem Ed (hF : Wf F n rk) : ∀ (d c : Nat), rk c ≤ d → c < n → bz (Le F) rk c = bz F rk c
 | d, c, hd, hc => by
  have hU : Wf (Le F) n rk := ⟨fun i hi k hk => hF.kid i hi k hk⟩
  rw [bI hF hc, bI hU hc]
  congr 1
  refine fk fun k hk => ?_
  have hkk := hF.kid c hc k hk
  cases d with
  | zero => omega
  | succ d => exact Ed hF d k (by omega) hkk.1
theorem NT (hF : Wf F n rk) (one : ∀ p q k, p < n → q < n → k ∈ F.kids p → k ∈ F.kids q → p = q) (nd : ∀ i, i < n → (F.kids i).Nodup) {R : Nat} (hR : ∀ i, i < n → rk i ≤ R) {i x y j : Nat} (hi : i < n) (hx : x ∈ F.kids i) (hy : y ∈ F.kids i) (h1 : bA F rk x j = true) (h2 : bA F rk y j = true) : x = y :=
 xE (Lf hF one nd) hR hi hx hy (by rw [Lg hF (hF.kid i hi x hx).1]; exact h1) (by rw [Lg hF (hF.kid i hi y hy).1]; exact h2)
theorem BG (hF : Wf F n rk) (one : ∀ p q k, p < n → q < n → k ∈ F.kids p → k ∈ F.kids q → p = q) (nd : ∀ i, i < n → (F.kids i).Nodup) {R : Nat} (hR : ∀ i, i < n → rk i ≤ R) {i : Nat} (hi : i < n) : (bz F rk i).Nodup := by
 rw [← Ed hF (rk i) i (Nat.le_refl _) hi]
 exact gU (Lf hF one nd) hR hi (Nat.le_refl _)
end
def jX (z : Nat) : Nat := 2000 - z
def sW (F : aL) : Option Nat → List Nat → List (List RT) → Prop
 | nx, o :: os, Z :: st => (F.nm o).size = 0 ∧ (∃ ks, F.kids o = ks ++ nx.toList ∧ ks.map (aM F jX) = Z) ∧ sW F (some o) os st
 | _, [], [] => True
 | _, _, _ => False
structure jd (F : aL) (n : Nat) (op : List Nat) (st : List (List RT)) : Prop where
 big : n ≤ 2000
 kid : ∀ i, i < n → ∀ k ∈ F.kids i, i < k ∧ k < n
 one : ∀ p q k, p < n → q < n → k ∈ F.kids p → k ∈ F.kids q → p = q
 nd : ∀ i, i < n → (F.kids i).Nodup
 zip : sW F none op st
 opn : ∀ o ∈ op, o < n
 ne : op ≠ []
section
variable {F : aL} {n : Nat} {op : List Nat} {st : List (List RT)}
theorem jd.wf (h : jd F n op st) : Wf F n jX := ⟨fun i hi k hk => by obtain ⟨h1, h2⟩ := h.kid i hi k hk; have := h.big; exact ⟨h2, by unfold jX; omega⟩⟩
theorem Ee (i : Nat) : jX i ≤ 2000 := Nat.sub_le _ _
theorem sW.len {F : aL} : ∀ {nx : Option Nat} {op : List Nat} {st : List (List RT)}, sW F nx op st → op.length = st.length
 | _, [], [], _ => rfl
 | _, _ :: os, _ :: st, h => by rw [List.length_cons, List.length_cons, h.2.2.len]
 | _, [], _ :: _, h => h.elim
 | _, _ :: _, [], h => h.elim
def gC (F : aL) (n o : Nat) (nm : ByteArray) : aL := ⟨upd F.nm n nm, upd F.old n 0, upd (upd F.kids n []) o (F.kids o ++ [n])⟩
theorem mH {F : aL} {n o : Nat} {nm : ByteArray} : (gC F n o nm).kids o = F.kids o ++ [n] := upd_same _ _ _
theorem mI {F : aL} {n o : Nat} {nm : ByteArray} (h : o < n) : (gC F n o nm).kids n = [] := by
 show upd _ o _ n = []
 rw [upd_ne _ _ (by omega), upd_same]
theorem qo {F : aL} {n o : Nat} {nm : ByteArray} {z : Nat} (h : z ≠ o) (h2 : z ≠ n) : (gC F n o nm).kids z = F.kids z := by
 show upd _ o _ z = _
 rw [upd_ne _ _ h, upd_ne _ _ h2]
theorem vM {F : aL} {n o : Nat} {nm : ByteArray} {z : Nat} (h2 : z ≠ n) : (gC F n o nm).nm z = F.nm z := upd_ne _ _ h2
theorem pF {F : aL} {n o : Nat} {nm : ByteArray} (hk : ∀ i, i < n → ∀ k ∈ F.kids i, i < k ∧ k < n) (ho : o < n) {i k : Nat} (hi : i < n + 1) (hm : k ∈ (gC F n o nm).kids i) : (i < n ∧ k ∈ F.kids i) ∨ (i = o ∧ k = n) := by
 by_cases e : i = o
 ·subst e
  rw [mH] at hm
  rcases List.mem_append.1 hm with h1 | h1
  ·exact .inl ⟨ho, h1⟩
  ·exact .inr ⟨rfl, by simpa using h1⟩
 ·by_cases e2 : i = n
  ·subst e2; rw [mI ho] at hm; cases hm
  ·rw [qo e e2] at hm; exact .inl ⟨by omega, hm⟩
theorem GF (h : jd F n op st) {o : Nat} (ho : o < n) (nm : ByteArray) (hb : n < 2000) : Wf (gC F n o nm) (n + 1) jX := ⟨fun i hi k hm => by
 unfold jX
 rcases pF h.kid ho hi hm with ⟨h1, h2⟩ | ⟨h1, h2⟩
 ·have := h.kid i h1 k h2; omega
 ·omega⟩
theorem BH (h : jd F n op st) {o : Nat} (ho : o < n) (nm : ByteArray) (hb : n < 2000) {c : Nat} (hc : c < n) (hs : bA F jX c o = false) : aM (gC F n o nm) jX c = aM F jX c :=
 yU h.wf (GF h ho nm hb) _ c (Nat.le_refl _) hc (by omega) fun z hz => by
  have hzn := l9 h.wf hc (Nat.le_refl _) hz
  have hne : z ≠ o := fun e => by rw [e, hs] at hz; cases hz
  exact ⟨qo hne (by omega), vM (by omega)⟩
theorem Ef (h : jd F n op st) {o : Nat} (ho : o < n) (nm : ByteArray) (hb : n < 2000) : ∀ {y : Nat} {os : List Nat} {zs : List (List RT)}, (∀ p ∈ os, p < n) → y < n → bA F jX y o = true → sW F (some y) os zs → sW (gC F n o nm) (some y) os zs
 | _, [], [], _, _, _, _ => trivial
 | y, p :: os, Z :: zs, hp, hy, hs, hz => by
  obtain ⟨h1, ⟨ks, h2, h3⟩, h4⟩ := hz
  have DZ := hp p (by simp)
  have UC : y ∈ F.kids p := by rw [h2]; simp
  have hpy := (h.kid p DZ y UC).1
  have UD := ku h.wf DZ UC hs
  have hne : p ≠ o := fun e => by
   subst e
   have := kJ h.wf hy hs
   have hb2 := h.big
   unfold jX at this
   omega
  refine ⟨by rw [vM (by omega)]; exact h1, ⟨ks, by rw [qo hne (by omega)]; exact h2, ?_⟩, Ef h ho nm hb (fun q hq => hp q (by simp [hq])) DZ UD h4⟩
  rw [← h3]
  refine List.map_congr_left fun c hc => ?_
  have tV : c ∈ F.kids p := by rw [h2]; simp [hc]
  have dr := (h.kid p DZ c tV).2
  refine BH h ho nm hb dr ?_
  cases hsc : bA F jX c o with
  | false => rfl
  | true =>
   exfalso
   have e := NT h.wf h.one h.nd (fun i _ => Ee i) DZ tV UC hsc hs
   subst e
   have fF := h.nd p DZ
   rw [h2] at fF
   have := (List.nodup_append.1 fF).2.2 c hc c (by simp)
   exact this rfl
 | _, [], _ :: _, _, _, _, hz => hz.elim
 | _, _ :: _, [], _, _, _, hz => hz.elim
end
section
variable {F : aL} {n : Nat} {o : Nat} {os : List Nat} {Z : List RT} {st : List (List RT)}
theorem jd.on (h : jd F n (o :: os) st) : o < n := h.opn o (by simp)
theorem jd.size (h : jd F n (o :: os) (Z :: st)) : (F.nm o).size = 0 ∧ (F.kids o).map (aM F jX) = Z := by
 obtain ⟨h1, ⟨ks, h2, h3⟩, _⟩ := h.zip
 refine ⟨h1, ?_⟩
 rw [h2]; simpa using h3
theorem BI (h : jd F n (o :: os) (Z :: st)) (nm : ByteArray) (hb : n < 2000) :
  (∀ i, i < n + 1 → ∀ k ∈ (gC F n o nm).kids i, i < k ∧ k < n + 1) ∧ (∀ p q k, p < n + 1 → q < n + 1 → k ∈ (gC F n o nm).kids p → k ∈ (gC F n o nm).kids q → p = q) ∧ (∀ i, i < n + 1 → ((gC F n o nm).kids i).Nodup) ∧
  sW (gC F n o nm) (some o) os st ∧ (∀ c ∈ F.kids o, aM (gC F n o nm) jX c = aM F jX c) ∧ aM (gC F n o nm) jX n = .node nm [] := by
 have ho := h.on
 refine ⟨fun i hi k hk => ?_, fun p q k hp hq h1 h2 => ?_, fun i hi => ?_, Ef h ho nm hb (fun p hp => h.opn p (by simp [hp])) ho (fV h.wf ho) h.zip.2.2, fun c hc => ?_, ?_⟩
 ·rcases pF h.kid ho hi hk with ⟨h1, h2⟩ | ⟨h1, h2⟩
  ·have := h.kid i h1 k h2; omega
  ·omega
 ·rcases pF h.kid ho hp h1 with ⟨a1, a2⟩ | ⟨a1, a2⟩
  ·rcases pF h.kid ho hq h2 with ⟨b1, b2⟩ | ⟨b1, b2⟩
   ·exact h.one p q k a1 b1 a2 b2
   ·have := (h.kid p a1 k a2).2; omega
  ·rcases pF h.kid ho hq h2 with ⟨b1, b2⟩ | ⟨b1, b2⟩
   ·have := (h.kid q b1 k b2).2; omega
   ·omega
 ·by_cases e : i = o
  ·subst e
   rw [mH, List.nodup_append]
   refine ⟨h.nd i ho, by simp, fun a ha b hb e => ?_⟩
   have hb : b = n := by simpa using hb
   have := (h.kid i ho a ha).2; omega
  ·by_cases e2 : i = n
   ·subst e2; rw [mI ho]; exact List.nodup_nil
   ·rw [qo e e2]; exact h.nd i (by omega)
 ·have dr := h.kid o ho c hc
  refine BH h ho nm hb dr.2 ?_
  cases hs : bA F jX c o with
  | false => rfl
  | true =>
   have := kJ h.wf dr.2 hs
   have hb2 := h.big
   unfold jX at this
   omega
 ·rw [cI (GF h ho nm hb) (Nat.lt_succ_self n), mI ho]
  show RT.node (upd F.nm n nm n) [] = _
  rw [upd_same]
theorem jd.leaf (h : jd F n (o :: os) (Z :: st)) (nm : ByteArray) (hb : n < 2000) : jd (gC F n o nm) (n + 1) (o :: os) ((Z ++ [.node nm []]) :: st) := by
 obtain ⟨a1, a2, a3, a4, a5, a6⟩ := BI h nm hb
 have ho := h.on
 refine ⟨by omega, a1, a2, a3, ⟨by rw [vM (by omega)]; exact h.size.1, ⟨_, (List.append_nil _).symm, ?_⟩, a4⟩, fun p hp => by have := h.opn p hp; omega, by simp⟩
 rw [mH, List.map_append, List.map_cons, List.map_nil, a6]
 congr 1
 rw [← h.size.2]
 exact List.map_congr_left a5
theorem jd.open (h : jd F n (o :: os) (Z :: st)) (hb : n < 2000) : jd (gC F n o ByteArray.empty) (n + 1) (n :: o :: os) ([] :: Z :: st) := by
 obtain ⟨a1, a2, a3, a4, a5, a6⟩ := BI h ByteArray.empty hb
 have ho := h.on
 refine ⟨by omega, a1, a2, a3, ⟨?_, ⟨[], by rw [mI ho]; rfl, rfl⟩, by rw [vM (by omega)]; exact h.size.1, ⟨F.kids o, mH, ?_⟩, a4⟩, fun p hp => ?_, by simp⟩
 ·show (upd F.nm n ByteArray.empty n).size = 0
  rw [upd_same]; rfl
 ·rw [← h.size.2]
  exact List.map_congr_left a5
 ·rcases List.mem_cons.1 hp with e | e
  ·omega
  ·have := h.opn p e; omega
theorem jd.pop {q : Nat} {Y : List RT} (h : jd F n (o :: q :: os) (Z :: Y :: st)) : jd F n (q :: os) ((Y ++ [.node ByteArray.empty Z]) :: st) := by
 obtain ⟨h1, ⟨ks, h2, h3⟩, h4, ⟨uP, h5, h6⟩, h7⟩ := h.zip
 have ho := h.on
 refine ⟨h.big, h.kid, h.one, h.nd, ⟨h4, ⟨uP ++ [o], by rw [h5]; simp, ?_⟩, h7⟩, fun p hp => h.opn p (by simp at hp ⊢; rcases hp with e | e <;> simp [e]), by simp⟩
 rw [List.map_append, h6, List.map_cons, List.map_nil, cI h.wf ho]
 have hn : F.nm o = ByteArray.empty := ByteArray.ext (Array.eq_empty_of_size_eq_zero h1)
 rw [hn, h.size.2]
theorem jd.done {r : RT} {Y : List RT} (h : jd F n [o] [r :: Y]) : ∃ c ks, F.kids o = c :: ks ∧ c < n ∧ ew F jX c = flat r := by
 obtain ⟨_, h2⟩ := h.size
 have ho := h.on
 cases hk : F.kids o with
 | nil => rw [hk] at h2; cases h2
 | cons c ks =>
  rw [hk, List.map_cons] at h2
  injection h2 with h2 h3
  have dr := (h.kid o ho c (by rw [hk]; simp)).2
  exact ⟨c, ks, rfl, dr, by rw [FP h.wf dr (BG h.wf h.one h.nd (fun i _ => Ee i) dr), h2]⟩
theorem jd.len (h : jd F n (o :: os) (Z :: st)) : (o :: os).length = st.length + 1 := by rw [h.zip.len]; rfl
end
end
section
open Go.RowKit Go.Deep
mutual
def txR : RT → List UInt8
 | .node nm [] => nm.data.toList
 | .node _ (k :: ks) => 40 :: (txR k ++ txRs ks ++ [41])
def txRs : List RT → List UInt8
 | [] => []
 | r :: rs => 44 :: (txR r ++ txRs rs)
end
def eL : List RT → List UInt8
 | [] => []
 | k :: ks => 40 :: (txR k ++ txRs ks)
theorem NU (l : List RT) (c : RT) : txRs (l ++ [c]) = txRs l ++ 44 :: txR c := by
 induction l with
 | nil => simp [txRs]
 | cons a l ih => rw [List.cons_append, txRs, txRs, ih]; simp
theorem vO (l : List RT) (c : RT) : eL (l ++ [c]) = eL l ++ (if l.length = 0 then 40 else 44) :: txR c := by
 cases l with
 | nil => simp [eL, txRs]
 | cons a l => rw [List.cons_append, eL, eL, NU, if_neg (by simp)]; simp
theorem pG (nm : ByteArray) {ks : List RT} (h : ks ≠ []) : txR (.node nm ks) = eL ks ++ [41] := by
 cases ks with
 | nil => exact absurd rfl h
 | cons k ks => rw [txR, eL]; simp
theorem sX (nm : ByteArray) : txR (.node nm []) = nm.data.toList := by rw [txR]
theorem Eg (l m : List RT) : (txRs (l ++ m)).length = (txRs l).length + (txRs m).length := by
 induction l with
 | nil => simp [txRs]
 | cons a l ih => rw [List.cons_append, txRs, txRs]; simp [ih]; omega
theorem uQ (l : List RT) (k : Nat) : (eL (l.take k)).length ≤ (eL l).length := by
 cases l with
 | nil => simp [eL]
 | cons a l =>
  cases k with
  | zero => simp [eL]
  | succ k =>
   rw [List.take_succ_cons, eL, eL]
   have := Eg (l.take k) (l.drop k)
   rw [List.take_append_drop] at this
   simp only [List.length_cons, List.length_append]; omega
structure iF (B b : Nat) (pre : List UInt8) (w wr : World) : Prop where
 bl : Lib.IsBuilderF 122 5 B b (Lib.byteCells pre) wr
 up : Below B w wr
 ot : Lib.OthersKept 5 (some b) w wr
theorem iF.size {B b : Nat} {pre : List UInt8} {w wr : World} (h : iF B b pre w wr) (hB : B ≤ w.heap.size) : B ≤ wr.heap.size := Nat.le_trans hB h.up.size
theorem iF.byte {B b : Nat} {pre : List UInt8} {w wr w2 : World} {x : UInt8} {c : Int} (h : iF B b pre w wr) (hc : c = x.toNat) (h1 : Lib.BuilderAtF 122 5 B b (.pointer (some ⟨b, 0, none⟩)) (Lib.byteCells pre ++ [.int .u8 c]) w2) (h2 : Below B wr w2) (h3 : Lib.OthersKept 5 (some b) wr w2) : iF B b (pre ++ [x]) w w2 := by
 subst hc
 exact ⟨.inr (by rw [show Lib.byteCells (pre ++ [x]) = Lib.byteCells pre ++ [.int .u8 x.toNat] from List.map_append]; exact h1), h.up.trans h2, h.ot.trans h3⟩
theorem iF.next {B b : Nat} {pre UE : List UInt8} {w wr w2 : World} (h : iF B b pre w wr) (k : iF B b UE wr w2) : iF B b UE w w2 := ⟨k.bl, h.up.trans k.up, h.ot.trans k.ot⟩
theorem aR.others {base n b : Nat} {A : Nat → Nat} {kv : Nat → Value} {F : aL} {w w' : World} (h : aR base n A kv F w) (hb : b < base) (k : Lib.OthersKept 5 (some b) w w') : aR base n A kv F w' := by
 refine h.same (fun i hi => ?_) fun i g hi hg => ?_
 ·have h1 := h.node i hi
  rw [h1]
  refine k _ _ h1 (fun e => by have := h.lo i hi; cases e; omega) (fun c fz e => ?_)
  injection e with _ e2 _
  exact absurd e2 (by decide)
 ·have hlo := (h.eT hi hg).1
  obtain ⟨_, h1 | ⟨g2, cap, cur, h1, _, hc, _⟩⟩ := h.own i hi
  ·rw [h1.1] at hg; cases hg
  ·rw [h1] at hg
   have hg : some g2 = some g := hg
   injection hg with hg; subst hg
   rw [hc]
   refine k _ _ hc (fun e => by cases e; omega) (fun c fz e => ?_)
   injection e with _ e2 _
   exact absurd e2 (by decide)
def qp (b fb : Nat) (w : World) : Prop := w.heap[fb]? = some (Obj.cells #[.func (.func 97) #[] #[.pointer (some ⟨b, 0, none⟩), .pointer (some ⟨fb, 0, none⟩)]] 123 (0, 0))
theorem qp.cell {b fb : Nat} {w : World} (h : qp b fb w) : w.cell? ⟨fb, 0, none⟩ = some (.func (.func 97) #[] #[.pointer (some ⟨b, 0, none⟩), .pointer (some ⟨fb, 0, none⟩)]) := by
 have h : w.heap[fb]? = _ := h
 simp [World.cell?, h]
theorem qp.others {b fb : Nat} {w w' : World} (h : qp b fb w) (hne : fb ≠ b) (k : Lib.OthersKept 5 (some b) w w') : qp b fb w' := by
 have h : w.heap[fb]? = _ := h
 refine k _ _ h (fun e => by cases e; exact hne rfl) (fun c fz e => ?_)
 injection e with _ e2 _
 exact absurd e2 (by decide)
def UF (B b : Nat) (pre : List UInt8) (w : World) (e : Ending) (w' : World) : Prop := e = .returned (.tuple #[]) ∧ iF B b pre w w'
set_option maxHeartbeats 4000000 in
theorem NV {base n B b fb : Nat} {A : Nat → Nat} {kv : Nat → Value} {F : aL} {rk : Nat → Nat} (hw : Wf F n rk) (hl : ∀ z, z < n → (F.kids z).length ≤ 1000) (hbb : b < base) (BJ : fb ≠ b) : ∀ (d i : Nat) (pre : List UInt8) (w : World), i < n → rk i ≤ d → aR base n A kv F w → qp b fb w →
  Lib.IsBuilderF 122 5 B b (Lib.byteCells pre) w → pre.length + (txR (aM F rk i)).length ≤ 140737488355328 → B ≤ w.heap.size →
  Calls Tryz.prog 97 (#[.pointer (some ⟨A i, 0, none⟩)] ++ #[.pointer (some ⟨b, 0, none⟩), .pointer (some ⟨fb, 0, none⟩)]) w (UF B b (pre ++ txR (aM F rk i)) w) := by
 intro d
 induction d using Nat.strongRecOn with
 | ind d ih =>
  intro i pre w hi hd hF jS hbl hlen hB
  have eP : ∀ args w, (callFunc 97 args).run Tryz.prog w = .ok (.enter 97 args) w := enters_of Tryz.func97 (by kernel_rfl) rfl
  have hown := hF.own i hi
  obtain ⟨q, cap, hv, hq⟩ := hown.form (n := (F.kids i).length) (by simp)
  have hkc := hF.nt hi
  rw [hv] at hkc
  have hnm := hF.name hi
  by_cases h0 : F.kids i = []
  ·have BK : txR (aM F rk i) = (F.nm i).data.toList := by rw [cI hw hi, h0]; exact sX _
   rw [BK] at hlen ⊢
   have d1 : (((F.kids i).length : Int) == 0) = true := by rw [h0]; rfl
   have HW := aa (Uz B b (Lib.byteCells pre) (F.nm i) w hbl (by rw [Lib.byteCells_length]; exact hlen) hB)
   have HE : Hid (∀ w', Lib.BuilderAtF 122 5 B b (.pointer (some ⟨b, 0, none⟩)) (Lib.byteCells pre ++ Lib.strCells (F.nm i)) w' → Below B w w' → Lib.OthersKept 5 (some b) w w' → iF B b (pre ++ (F.nm i).data.toList) w w') := fun w' h1 h2 h3 =>
    ⟨.inr (by rw [Lib.strCells_eq, ← show Lib.byteCells (pre ++ (F.nm i).data.toList) = Lib.byteCells pre ++ Lib.byteCells (F.nm i).data.toList from List.map_append] at h1; exact h1), h2, h3⟩
   clear hown hq hv ih hF jS hbl hlen h0 BK
   generalize F.nm i = nm at *
   go_enter Tryz.func97, Tryz.ntmps97
   go_wp2_with fail
   refine HW.out.mono ?_
   rintro e w' ⟨rfl, h1, h2, h3⟩
   have HN := aa (HE.out w' h1 h2 h3)
   clear h1 h2 h3
   go_wp2_with fail
   go_end0
   exact ⟨rfl, HN.out⟩
  ·obtain ⟨L, ry⟩ : ∃ L, L = F.kids i := ⟨_, rfl⟩
   have AK : 0 < L.length := by rw [ry]; exact List.length_pos_iff.2 h0
   have gF : L.length ≤ 1000 := by rw [ry]; exact hl i hi
   rw [← ry] at hown hv hkc
   have BK : txR (aM F rk i) = eL (L.map (aM F rk)) ++ [41] := by rw [cI hw hi, ← ry]; exact pG _ (by rw [ry]; simpa using h0)
   rw [BK] at hlen ⊢
   have d1 : ((L.length : Int) == 0) = false := beq_eq_false_iff_ne.2 (by omega)
   obtain ⟨gk, rfl⟩ : ∃ g, q = some ⟨g, 0, none⟩ := by
    rcases hq with rfl | h
    ·obtain ⟨_, h | ⟨g, _, _, h, _⟩⟩ := hown
     ·have := h.2; rw [List.length_map] at this; omega
     ·rw [hv] at h; cases h
    ·exact h
   have HLEN : Hid (∀ k, pre.length + (eL ((L.take k).map (aM F rk))).length + 1 ≤ 140737488355328) := fun k => by
    have := uQ (L.map (aM F rk)) k
    rw [← List.map_take] at this
    simp only [List.length_append, List.length_cons, List.length_nil] at hlen
    omega
   have HST : Hid (iF B b (pre ++ eL ((L.take 0).map (aM F rk))) w w) := by
    rw [Hid, List.take_zero, List.map_nil, eL, List.append_nil]; exact ⟨hbl, Below.refl _ _, Lib.OthersKept.refl _ _ _⟩
   have HF := aa hF
   have dG := aa jS
   have dN := aa ry
   have ir := aa ih
   have HV := aa hv
   have dW : Hid (∀ c ∈ L, c < n ∧ rk c < rk i) := fun c hc => hw.kid i hi c (by rw [← ry]; exact hc)
   clear hown hq hv ih hF jS hbl hlen h0 BK ry hnm
   go_enter Tryz.func97, Tryz.ntmps97
   go_wp2_with fail
   go_loopw [4, 5, 22] (fun _ _ x wr => ∃ k : Nat, k ≤ L.length ∧ x = .int .i64 k ∧ Hid (iF B b (pre ++ eL ((L.take k).map (aM F rk))) w wr)) (fun _ _ x _ => L.length - (intOf x).toNat)
   case atStart => exact ⟨0, Nat.zero_le _, rfl, HST.out⟩
   case round =>
    obtain ⟨k, hk, rfl, hO⟩ := hrel
    obtain ⟨wo, rfl⟩ : ∃ wo : World, wo = wr := ⟨_, rfl⟩
    by_cases hlt : k < L.length
    ·have CQ : L[k]? = some L[k] := List.getElem?_eq_getElem hlt
     have Zw := HF.out.others hbb hO.out.ot
     have hrow := Zw.Co (i := i) (j := k) (c := L[k]) hi HV.out (by rw [← dN.out]; exact CQ)
     have dr := dW.out L[k] (List.getElem_mem hlt)
     have fT : Hid (((L.take k).map (aM F rk)).length = k) := by rw [Hid, List.length_map, List.length_take]; omega
     have nH : Hid (eL ((L.take (k + 1)).map (aM F rk)) = eL ((L.take k).map (aM F rk)) ++ ((if k = 0 then 40 else 44) :: txR (aM F rk L[k]))) := by
      rw [Hid, List.take_add_one, CQ, List.map_append]
      show eL (_ ++ [aM F rk L[k]]) = _
      rw [vO, fT.out]
     have iu := aa (fun c : Int => zT B b (Lib.byteCells (pre ++ eL ((L.take k).map (aM F rk)))) c wo hO.out.bl (by rw [Lib.byteCells_length, List.length_append]; exact HLEN.out k) (hO.out.size hB))
     have HO := aa hO.out
     have aQ := aa hlt
     have kG := aa dr
     obtain ⟨mn, hmn, j8⟩ : ∃ mn : Int, min (k : Int) 1 = mn ∧ ((k = 0 ∧ mn = 0) ∨ (k ≠ 0 ∧ mn = 1)) := ⟨_, rfl, by omega⟩
     have i1 : (0 : Int) ≤ (k : Int) := by omega
     have i2 : (k : Int) < (L.length : Int) := by omega
     clear CQ Zw dr hO
     generalize L[k] = c at *
     rcases j8 with ⟨qd, rfl⟩ | ⟨qd, rfl⟩
     ·rw [if_pos qd] at nH
      clear qd
      go_wp2_with fail
      refine (iu.out _).mono ?_
      rintro e w2 ⟨rfl, h1, h2, h3⟩
      have HS := aa (HO.out.byte (x := 40) rfl h1 h2 h3)
      clear h1 h2 h3
      have GG := (dG.out.others BJ HS.out.ot).cell
      have eU := aa (ir.out (rk c) (by have := kG.out.2; omega) c (pre ++ eL ((L.take k).map (aM F rk)) ++ [40]) w2 kG.out.1 (Nat.le_refl _) (HF.out.others hbb HS.out.ot) (dG.out.others BJ HS.out.ot) HS.out.bl (by
       have := HLEN.out (k + 1)
       rw [nH.out] at this
       simp only [List.length_append, List.length_cons, List.length_nil] at this ⊢
       omega) (HS.out.size hB))
      go_wp2_with fail
      refine eU.out.mono ?_
      rintro e w3 ⟨rfl, h4⟩
      have HN : Hid (iF B b (pre ++ eL ((L.take (k + 1)).map (aM F rk))) w w3) := by
       have := HS.out.next h4
       rw [Hid, nH.out]
       simpa [List.append_assoc] using this
      clear h4 eU HS
      go_wp2_with fail
      go_roundw
      case rel => exact ⟨k + 1, aQ.out, by go_num, HN.out⟩
      case measure => have := aQ.out; simp [intOf]; omega
     ·rw [if_neg qd] at nH
      clear qd
      go_wp2_with fail
      refine (iu.out _).mono ?_
      rintro e w2 ⟨rfl, h1, h2, h3⟩
      have HS := aa (HO.out.byte (x := 44) rfl h1 h2 h3)
      clear h1 h2 h3
      have GG := (dG.out.others BJ HS.out.ot).cell
      have eU := aa (ir.out (rk c) (by have := kG.out.2; omega) c (pre ++ eL ((L.take k).map (aM F rk)) ++ [44]) w2 kG.out.1 (Nat.le_refl _) (HF.out.others hbb HS.out.ot) (dG.out.others BJ HS.out.ot) HS.out.bl (by
       have := HLEN.out (k + 1)
       rw [nH.out] at this
       simp only [List.length_append, List.length_cons, List.length_nil] at this ⊢
       omega) (HS.out.size hB))
      go_wp2_with fail
      refine eU.out.mono ?_
      rintro e w3 ⟨rfl, h4⟩
      have HN : Hid (iF B b (pre ++ eL ((L.take (k + 1)).map (aM F rk))) w w3) := by
       have := HS.out.next h4
       rw [Hid, nH.out]
       simpa [List.append_assoc] using this
      clear h4 eU HS
      go_wp2_with fail
      go_roundw
      case rel => exact ⟨k + 1, aQ.out, by go_num, HN.out⟩
      case measure => have := aQ.out; simp [intOf]; omega
    ·obtain rfl : k = L.length := by omega
     have hO := hO.out
     rw [List.take_length] at hO
     have HO := aa hO
     have iu := aa (zT B b (Lib.byteCells (pre ++ eL (L.map (aM F rk)))) 41 wo hO.bl (by rw [Lib.byteCells_length, List.length_append]; have := HLEN.out L.length; rw [List.take_length] at this; exact this) (hO.size hB))
     clear hO
     go_wp2_with fail
     refine iu.out.mono ?_
     rintro e w2 ⟨rfl, h1, h2, h3⟩
     have HS := aa (HO.out.byte (x := 41) rfl h1 h2 h3)
     clear h1 h2 h3
     go_wp2_with fail
     go_end0
     exact ⟨rfl, by rw [← List.append_assoc]; exact HS.out⟩
end
end Go.Proofs.YteegefnjnikngaaGreat
