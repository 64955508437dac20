/- Costs of rose trees: what an assignment of states to all nodes costs; under sorting, .. -/
import Derived.Test.YteegefnjnikngaaGreatQ1
import Derived.Test.YteegefnjnikngaaGreatQ26
import Derived.Test.YteegefnjnikngaaGreatQ19
import Derived.Lib.IndexAny
import Derived.Test.YteegefnjnikngaaGreatQ20
import Derived.Test.YteegefnjnikngaaGreatQ24
set_option maxRecDepth 100000
namespace Go.Proofs.YteegefnjnikngaaGreat
section
section
variable (m : Nat) (cost : Nat → Nat → Int) (bg : ByteArray → Int)
mutual
def AttR : RT → Nat → Int → Prop
 | .node nm ks, s, c => s < m ∧ (ks = [] → 0 ≤ bg nm → bg nm = (s : Int)) ∧ AttL ks s c
def AttL : List RT → Nat → Int → Prop
 | [], _, c => c = 0
 | k :: ks, s, c => ∃ u a b, AttR k u a ∧ AttL ks s b ∧ c = cost s u + a + b
end
def DD (A B : RT) (c : Int) : Prop := ∃ s u a b, AttR m cost bg A s a ∧ AttR m cost bg B u b ∧ c = a + cost s u + b
end
structure mq (m : Nat) (cost : Nat → Nat → Int) : Prop where
 nn : ∀ a b, a < m → b < m → 0 ≤ cost a b
 z : ∀ a, a < m → cost a a = 0
 sym : ∀ a b, a < m → b < m → cost a b = cost b a
 tri : ∀ a b c, a < m → b < m → c < m → cost a c ≤ cost a b + cost b c
section
variable {m : Nat} {cost : Nat → Nat → Int} {bg : ByteArray → Int}
theorem cZ : ∀ {r : RT} {s : Nat} {c : Int}, AttR m cost bg r s c → s < m
 | .node nm ks, s, c, h => by rw [AttR] at h; exact h.1
theorem aU {k : RT} {ks : List RT} {s : Nat} {c : Int} : AttL m cost bg (k :: ks) s c ↔ ∃ u a b, AttR m cost bg k u a ∧ AttL m cost bg ks s b ∧ c = cost s u + a + b := by rw [AttL]
theorem eZ {s : Nat} {c : Int} : AttL m cost bg [] s c ↔ c = 0 := by rw [AttL]
theorem bS {nm : ByteArray} {ks : List RT} {s : Nat} {c : Int} : AttR m cost bg (.node nm ks) s c ↔ s < m ∧ (ks = [] → 0 ≤ bg nm → bg nm = (s : Int)) ∧ AttL m cost bg ks s c := by rw [AttR]
theorem qh {s : Nat} : ∀ {l l2 : List RT} {c : Int}, AttL m cost bg (l ++ l2) s c ↔ ∃ a b, AttL m cost bg l s a ∧ AttL m cost bg l2 s b ∧ c = a + b
 | [], l2, c => by
  constructor
  ·intro h; exact ⟨0, c, eZ.2 rfl, h, by omega⟩
  ·rintro ⟨a, b, h1, h2, rfl⟩
   rw [eZ] at h1; subst h1
   rw [Int.zero_add]; exact h2
 | k :: l, l2, c => by
  rw [List.cons_append, aU]
  constructor
  ·rintro ⟨u, a, b, h1, h2, rfl⟩
   obtain ⟨a2, b2, h3, h4, rfl⟩ := qh.1 h2
   exact ⟨cost s u + a + a2, b2, aU.2 ⟨u, a, a2, h1, h3, rfl⟩, h4, by omega⟩
  ·rintro ⟨a, b, h1, h2, rfl⟩
   obtain ⟨u, a1, a2, h3, h4, rfl⟩ := aU.1 h1
   exact ⟨u, a1, a2 + b, h3, qh.2 ⟨a2, b, h4, h2, rfl⟩, by omega⟩
theorem nO {s : Nat} {l l2 : List RT} (h : l.Perm l2) : ∀ {c : Int}, AttL m cost bg l s c → AttL m cost bg l2 s c := by
 induction h with
 | nil => intro c h; exact h
 | cons x _ ih =>
  intro c h
  obtain ⟨u, a, b, h1, h2, rfl⟩ := aU.1 h
  exact aU.2 ⟨u, a, b, h1, ih h2, rfl⟩
 | swap x y l =>
  intro c h
  obtain ⟨u, a, b, h1, h2, rfl⟩ := aU.1 h
  obtain ⟨v, a2, b2, h3, h4, rfl⟩ := aU.1 h2
  exact aU.2 ⟨v, a2, cost s u + a + b2, h3, aU.2 ⟨u, a, b2, h1, h4, rfl⟩, by omega⟩
 | trans _ _ i1 i2 => intro c h; exact i2 (i1 h)
mutual
theorem LH (M : mq m cost) : ∀ (r : RT) (s : Nat) (c : Int), AttR m cost bg r s c → 0 ≤ c
 | .node nm ks, s, c, h => by rw [AttR] at h; exact LI M ks s c h.1 h.2.2
theorem LI (M : mq m cost) : ∀ (ks : List RT) (s : Nat) (c : Int), s < m → AttL m cost bg ks s c → 0 ≤ c
 | [], s, c, _, h => by rw [AttL] at h; omega
 | k :: ks, s, c, hs, h => by
  rw [AttL] at h
  obtain ⟨u, a, b, h1, h2, rfl⟩ := h
  have := LH M k u a h1
  have := LI M ks s b hs h2
  have := M.nn s u hs (cZ h1)
  omega
end
mutual
theorem wT : ∀ (r : RT) (s : Nat) (c : Int), AttR m cost bg (sortR r) s c ↔ AttR m cost bg r s c
 | .node nm ks, s, c => by
  rw [sortR, bS, bS, yN ks s c]
  constructor
  ·rintro ⟨h1, h2, h3⟩; exact ⟨h1, fun e => h2 (jY.2 e), h3⟩
  ·rintro ⟨h1, h2, h3⟩; exact ⟨h1, fun e => h2 (jY.1 e), h3⟩
theorem yN : ∀ (rs : List RT) (s : Nat) (c : Int), AttL m cost bg (cW rs) s c ↔ AttL m cost bg rs s c
 | [], s, c => by rw [cW]
 | r :: rs, s, c => by
  rw [cW]
  have hp := yE (sortR r) (cW rs)
  constructor
  ·intro h
   obtain ⟨u, a, b, h1, h2, e⟩ := aU.1 (nO hp h)
   exact aU.2 ⟨u, a, b, (wT r u a).1 h1, (yN rs s b).1 h2, e⟩
  ·intro h
   obtain ⟨u, a, b, h1, h2, e⟩ := aU.1 h
   exact nO hp.symm (aU.2 ⟨u, a, b, (wT r u a).2 h1, (yN rs s b).2 h2, e⟩)
end
theorem Ba (M : mq m cost) : ∀ (d : Nat) (r : RT), aI r ≤ d → ∀ s c, AttR m cost bg r s c → ∃ u c', AttR m cost bg (contrR r) u c' ∧ ∀ p, p < m → cost p u + c' ≤ cost p s + c
 | 0, .node nm ks, h => by rw [aI] at h; omega
 | d + 1, .node nm ks, h => by
  intro s c hc
  rw [bS] at hc
  obtain ⟨hs, hl, hk⟩ := hc
  by_cases h1 : ks.length = 1
  ·obtain ⟨k, rfl⟩ := List.length_eq_one_iff.1 h1
   rw [nN]
   obtain ⟨u, a, b, h2, h3, rfl⟩ := aU.1 hk
   rw [eZ] at h3; subst h3
   obtain ⟨v, c', h4, h5⟩ := Ba M d k (by have := lu (nm := nm) (ks := [k]) (k := k) (by simp); omega) u a h2
   refine ⟨v, c', h4, fun p hp => ?_⟩
   have := h5 p hp
   have := M.tri p s u hp hs (cZ h2)
   omega
  ·rw [j9 h1]
   have hall : ∀ k ∈ ks, ∀ s c, AttR m cost bg k s c → ∃ u c', AttR m cost bg (contrR k) u c' ∧ ∀ p, p < m → cost p u + c' ≤ cost p s + c := fun k hk => Ba M d k (by have := lu (nm := nm) hk; omega)
   have key : ∀ (l : List RT), (∀ k ∈ l, ∀ s c, AttR m cost bg k s c → ∃ u c', AttR m cost bg (contrR k) u c' ∧ ∀ p, p < m → cost p u + c' ≤ cost p s + c) → ∀ c, AttL m cost bg l s c → ∃ c', AttL m cost bg (l.map contrR) s c' ∧ c' ≤ c := fun l => by
    induction l with
    | nil => intro _ c h; exact ⟨c, h, Int.le_refl _⟩
    | cons k l ih =>
     intro ha c h
     obtain ⟨u, a, b, h2, h3, rfl⟩ := aU.1 h
     obtain ⟨v, a', h4, h5⟩ := ha k (by simp) u a h2
     obtain ⟨b', h6, h7⟩ := ih (fun k hk => ha k (by simp [hk])) b h3
     refine ⟨cost s v + a' + b', aU.2 ⟨v, a', b', h4, h6, rfl⟩, ?_⟩
     have := h5 s hs
     omega
   obtain ⟨c', h6, h7⟩ := key ks hall c hk
   exact ⟨s, c', bS.2 ⟨hs, fun e => hl (by simpa using e), h6⟩, fun p _ => by omega⟩
theorem Bb (M : mq m cost) : ∀ (d : Nat) (r : RT), aI r ≤ d → ∀ s c, AttR m cost bg (contrR r) s c → AttR m cost bg r s c
 | 0, .node nm ks, h => by rw [aI] at h; omega
 | d + 1, .node nm ks, h => by
  intro s c hc
  by_cases h1 : ks.length = 1
  ·obtain ⟨k, rfl⟩ := List.length_eq_one_iff.1 h1
   rw [nN] at hc
   have h2 := Bb M d k (by have := lu (nm := nm) (ks := [k]) (k := k) (by simp); omega) s c hc
   refine bS.2 ⟨cZ h2, fun e => (by cases e), aU.2 ⟨s, c, 0, h2, eZ.2 rfl, ?_⟩⟩
   have := M.z s (cZ h2)
   omega
  ·rw [j9 h1, bS] at hc
   obtain ⟨hs, hl, hk⟩ := hc
   have hall : ∀ k ∈ ks, ∀ s c, AttR m cost bg (contrR k) s c → AttR m cost bg k s c := fun k hk => Bb M d k (by have := lu (nm := nm) hk; omega)
   have key : ∀ (l : List RT), (∀ k ∈ l, ∀ s c, AttR m cost bg (contrR k) s c → AttR m cost bg k s c) → ∀ c, AttL m cost bg (l.map contrR) s c → AttL m cost bg l s c := fun l => by
    induction l with
    | nil => intro _ c h; exact h
    | cons k l ih =>
     intro ha c h
     obtain ⟨u, a, b, h2, h3, rfl⟩ := aU.1 h
     exact aU.2 ⟨u, a, b, ha k (by simp) u a h2, ih (fun k hk => ha k (by simp [hk])) b h3, rfl⟩
   exact bS.2 ⟨hs, fun e => hl (by rw [e]; rfl), key ks hall c hk⟩
theorem S4 (M : mq m cost) {nm UT : ByteArray} {ks K : List RT} {x B : RT} (hp : ks.Perm (x :: K)) (c : Int) : DD m cost bg (.node nm ks) B c ↔ DD m cost bg x (.node UT (K ++ [B])) c := by
 have hne : ks ≠ [] := fun e => by rw [e] at hp; have := hp.length_eq; simp at this
 constructor
 ·rintro ⟨s, u, a, b, h1, h2, rfl⟩
  rw [bS] at h1
  obtain ⟨v, a1, a2, h3, h4, rfl⟩ := aU.1 (nO hp h1.2.2)
  refine ⟨v, s, a1, a2 + (cost s u + b), h3, bS.2 ⟨h1.1, fun e => (by simp at e), qh.2 ⟨a2, cost s u + b, h4, aU.2 ⟨u, b, 0, h2, eZ.2 rfl, by omega⟩, rfl⟩⟩, ?_⟩
  have := M.sym s v h1.1 (cZ h3)
  omega
 ·rintro ⟨v, s, a1, a, h1, h2, rfl⟩
  rw [bS] at h2
  obtain ⟨a2, b1, h3, h4, rfl⟩ := qh.1 h2.2.2
  obtain ⟨u, b, z, h5, h6, rfl⟩ := aU.1 h4
  rw [eZ] at h6; subst h6
  refine ⟨s, u, cost s v + a1 + a2, b, bS.2 ⟨h2.1, fun e => absurd e hne, nO hp.symm (aU.2 ⟨v, a1, a2, h1, h3, rfl⟩)⟩, h5, ?_⟩
  have := M.sym s v h2.1 (cZ h1)
  omega
theorem Fh (M : mq m cost) {nm UT : ByteArray} {ks K : List RT} {x : RT} (hp : ks.Perm (x :: K)) (hl : K = [] → bg UT < 0) (c : Int) : (∃ s, AttR m cost bg (.node nm ks) s c) ↔ DD m cost bg x (.node UT K) c := by
 have hne : ks ≠ [] := fun e => by rw [e] at hp; have := hp.length_eq; simp at this
 constructor
 ·rintro ⟨s, h1⟩
  rw [bS] at h1
  obtain ⟨v, a1, a2, h3, h4, rfl⟩ := aU.1 (nO hp h1.2.2)
  refine ⟨v, s, a1, a2, h3, bS.2 ⟨h1.1, fun e h0 => (by have := hl e; omega), h4⟩, ?_⟩
  have := M.sym s v h1.1 (cZ h3)
  omega
 ·rintro ⟨v, s, a1, a2, h1, h2, rfl⟩
  rw [bS] at h2
  refine ⟨s, bS.2 ⟨h2.1, fun e => absurd e hne, nO hp.symm (aU.2 ⟨v, a1, a2, h1, h2.2.2, ?_⟩)⟩⟩
  have := M.sym s v h2.1 (cZ h1)
  omega
theorem S5 (M : mq m cost) {nm : ByteArray} {x W : RT} {c : Int} (h : DD m cost bg x W c) : ∃ s, AttR m cost bg (.node nm [x, W]) s c := by
 obtain ⟨s, u, a, b, h1, h2, rfl⟩ := h
 refine ⟨s, bS.2 ⟨cZ h1, fun e => (by cases e), aU.2 ⟨s, a, cost s u + b, h1, aU.2 ⟨u, b, 0, h2, eZ.2 rfl, by omega⟩, ?_⟩⟩⟩
 have := M.z s (cZ h1)
 omega
theorem S6 (M : mq m cost) {nm : ByteArray} {x W : RT} {s : Nat} {c : Int} (h : AttR m cost bg (.node nm [x, W]) s c) : ∃ c', DD m cost bg x W c' ∧ c' ≤ c := by
 rw [bS] at h
 obtain ⟨hs, _, h⟩ := h
 obtain ⟨u, a, b, h1, h2, rfl⟩ := aU.1 h
 obtain ⟨v, a2, b2, h3, h4, rfl⟩ := aU.1 h2
 rw [eZ] at h4; subst h4
 refine ⟨a + cost u v + a2, ⟨u, v, a, a2, h1, h3, rfl⟩, ?_⟩
 have := M.tri u s v (cZ h1) hs (cZ h3)
 have := M.sym u s (cZ h1) hs
 omega
end
end
section
def bM : List UInt8 := [40, 41, 44, 59]
def popZ : List (List RT) → List (List RT)
 | Z :: Y :: st => (Y ++ [.node ByteArray.empty Z]) :: st
 | st => st
def Z6 (r : RT) : List (List RT) → List (List RT)
 | Z :: st => (Z ++ [r]) :: st
 | [] => []
def firstZ : List (List RT) → RT
 | (r :: _) :: _ => r
 | _ => .node ByteArray.empty []
def pz : Nat → List UInt8 → List (List RT) → Bool → Option RT
 | 0, _, _, _ => none
 | _ + 1, [], _, _ => none
 | f + 1, c :: s, st, dn =>
  if c = 40 then (if dn = true then none else pz f s ([] :: st) false)
  else if c = 41 then (if dn = false ∨ st.length = 1 then none else pz f s (popZ st) true)
  else if c = 44 then (if dn = false ∨ st.length = 1 then none else pz f s st false)
  else if c = 59 then (if dn = false ∨ st.length ≠ 1 ∨ s ≠ [] then none else some (firstZ st))
  else if dn = true then none
  else if Lib.indexAny (c :: s) bM < 0 then none
  else pz f ((c :: s).drop (Lib.indexAny (c :: s) bM).toNat) (Z6 (.node ⟨((c :: s).take (Lib.indexAny (c :: s) bM).toNat).toArray⟩ []) st) true
def jr (s : List UInt8) : Option RT := pz (s.length + 1) s [[]] false
section
variable {F G : aP} {n m : Nat} {rk : Nat → Nat}
theorem Cw (hF : Wf F n rk) (hG : Wf G m rk) : ∀ (d c : Nat), rk c ≤ d → c < n → c < m → (∀ z, aM F rk c z = true → G.kids z = F.kids z ∧ G.nm z = F.nm z) → aG G rk c = aG F rk c
 | d, c, hd, hc, hm, hz => by
  obtain ⟨h1, h2⟩ := hz c (aN hF hc)
  rw [bA hF hc, bA hG hm, h1, h2]
  congr 1
  refine List.map_congr_left fun k hk => ?_
  have hkk := hF.kid c hc k hk
  have hkm := (hG.kid c hm k (by rw [h1]; exact hk)).1
  cases d with
  | zero => omega
  | succ d => exact Cw hF hG d k (by omega) hkk.1 hkm fun z hs => hz z (bz hF hc hk hs)
def Qa (F : aP) : aP := ⟨fun i => ⟨Array.replicate i 0⟩, F.old, F.kids⟩
theorem Qb (hF : Wf F n rk) (one : ∀ p q k, p < n → q < n → k ∈ F.kids p → k ∈ F.kids q → p = q) (nd : ∀ i, i < n → (F.kids i).Nodup) : oK (Qa F) n rk :=
 ⟨⟨fun i hi k hk => hF.kid i hi k hk⟩, one, nd, fun a b _ _ _ _ e => by
  have e : (⟨Array.replicate a 0⟩ : ByteArray) = ⟨Array.replicate b 0⟩ := e
  have := congrArg (fun s : ByteArray => s.data.size) e
  simpa using this⟩
theorem Qc (hF : Wf F n rk) {c : Nat} (hc : c < n) (z : Nat) : aM (Qa F) rk c z = aM F rk c z :=
 pI (G := Qa F) hF ⟨fun i hi k hk => hF.kid i hi k hk⟩ hc (Nat.le_refl _) (fun _ _ => rfl) z
theorem I3 (hF : Wf F n rk) : ∀ (d c : Nat), rk c ≤ d → c < n → bF (Qa F) rk c = bF F rk c
 | d, c, hd, hc => by
  have hU : Wf (Qa F) n rk := ⟨fun i hi k hk => hF.kid i hi k hk⟩
  rw [cw hF hc, cw hU hc]
  congr 1
  refine ic fun k hk => ?_
  have hkk := hF.kid c hc k hk
  cases d with
  | zero => omega
  | succ d => exact I3 hF d k (by omega) hkk.1
theorem S7 (hF : Wf F n rk) (one : ∀ p q k, p < n → q < n → k ∈ F.kids p → k ∈ F.kids q → p = q) (nd : ∀ i, i < n → (F.kids i).Nodup) {R : Nat} (hR : ∀ i, i < n → rk i ≤ R) {i x y j : Nat} (hi : i < n) (hx : x ∈ F.kids i) (hy : y ∈ F.kids i) (h1 : aM F rk x j = true) (h2 : aM F rk y j = true) : x = y :=
 wF (Qb hF one nd) hR hi hx hy (by rw [Qc hF (hF.kid i hi x hx).1]; exact h1) (by rw [Qc hF (hF.kid i hi y hy).1]; exact h2)
theorem Fi (hF : Wf F n rk) (one : ∀ p q k, p < n → q < n → k ∈ F.kids p → k ∈ F.kids q → p = q) (nd : ∀ i, i < n → (F.kids i).Nodup) {R : Nat} (hR : ∀ i, i < n → rk i ≤ R) {i : Nat} (hi : i < n) : (bF F rk i).Nodup := by
 rw [← I3 hF (rk i) i (Nat.le_refl _) hi]
 exact iy (Qb hF one nd) hR hi (Nat.le_refl _)
end
def mG (z : Nat) : Nat := 2000 - z
def wU (F : aP) : Option Nat → List Nat → List (List RT) → Prop
 | nx, o :: os, Z :: st => (F.nm o).size = 0 ∧ (∃ ks, F.kids o = ks ++ nx.toList ∧ ks.map (aG F mG) = Z) ∧ wU F (some o) os st
 | _, [], [] => True
 | _, _, _ => False
structure kV (F : aP) (n : Nat) (op : List Nat) (st : List (List RT)) : Prop where
 big : n ≤ 2000
 kid : ∀ i, i < n → ∀ k ∈ F.kids i, i < k ∧ k < n
 one : ∀ p q k, p < n → q < n → k ∈ F.kids p → k ∈ F.kids q → p = q
 nd : ∀ i, i < n → (F.kids i).Nodup
 zip : wU F none op st
 opn : ∀ o ∈ op, o < n
 ne : op ≠ []
section
variable {F : aP} {n : Nat} {op : List Nat} {st : List (List RT)}
theorem kV.wf (h : kV F n op st) : Wf F n mG := ⟨fun i hi k hk => by obtain ⟨h1, h2⟩ := h.kid i hi k hk; have := h.big; exact ⟨h2, by unfold mG; omega⟩⟩
theorem I4 (i : Nat) : mG i ≤ 2000 := Nat.sub_le _ _
theorem wU.len {F : aP} : ∀ {nx : Option Nat} {op : List Nat} {st : List (List RT)}, wU F nx op st → op.length = st.length
 | _, [], [], _ => rfl
 | _, _ :: os, _ :: st, h => by rw [List.length_cons, List.length_cons, h.2.2.len]
 | _, [], _ :: _, h => h.elim
 | _, _ :: _, [], h => h.elim
def jk (F : aP) (n o : Nat) (nm : ByteArray) : aP := ⟨upd F.nm n nm, upd F.old n 0, upd (upd F.kids n []) o (F.kids o ++ [n])⟩
theorem qi {F : aP} {n o : Nat} {nm : ByteArray} : (jk F n o nm).kids o = F.kids o ++ [n] := upd_same _ _ _
theorem qj {F : aP} {n o : Nat} {nm : ByteArray} (h : o < n) : (jk F n o nm).kids n = [] := by
 show upd _ o _ n = []
 rw [upd_ne _ _ (by omega), upd_same]
theorem ua {F : aP} {n o : Nat} {nm : ByteArray} {z : Nat} (h : z ≠ o) (h2 : z ≠ n) : (jk F n o nm).kids z = F.kids z := by
 show upd _ o _ z = _
 rw [upd_ne _ _ h, upd_ne _ _ h2]
theorem zx {F : aP} {n o : Nat} {nm : ByteArray} {z : Nat} (h2 : z ≠ n) : (jk F n o nm).nm z = F.nm z := upd_ne _ _ h2
theorem sZ {F : aP} {n o : Nat} {nm : ByteArray} (hk : ∀ i, i < n → ∀ k ∈ F.kids i, i < k ∧ k < n) (ho : o < n) {i k : Nat} (hi : i < n + 1) (hm : k ∈ (jk F n o nm).kids i) : (i < n ∧ k ∈ F.kids i) ∨ (i = o ∧ k = n) := by
 by_cases e : i = o
 ·subst e
  rw [qi] at hm
  rcases List.mem_append.1 hm with h1 | h1
  ·exact .inl ⟨ho, h1⟩
  ·exact .inr ⟨rfl, by simpa using h1⟩
 ·by_cases e2 : i = n
  ·subst e2; rw [qj ho] at hm; cases hm
  ·rw [ua e e2] at hm; exact .inl ⟨by omega, hm⟩
theorem LJ (h : kV F n op st) {o : Nat} (ho : o < n) (nm : ByteArray) (hb : n < 2000) : Wf (jk F n o nm) (n + 1) mG := ⟨fun i hi k hm => by
 unfold mG
 rcases sZ h.kid ho hi hm with ⟨h1, h2⟩ | ⟨h1, h2⟩
 ·have := h.kid i h1 k h2; omega
 ·omega⟩
theorem Fj (h : kV F n op st) {o : Nat} (ho : o < n) (nm : ByteArray) (hb : n < 2000) {c : Nat} (hc : c < n) (hs : aM F mG c o = false) : aG (jk F n o nm) mG c = aG F mG c :=
 Cw h.wf (LJ h ho nm hb) _ c (Nat.le_refl _) hc (by omega) fun z hz => by
  have dP := iM h.wf hc (Nat.le_refl _) hz
  have hne : z ≠ o := fun e => by rw [e, hs] at hz; cases hz
  exact ⟨ua hne (by omega), zx (by omega)⟩
theorem I5 (h : kV F n op st) {o : Nat} (ho : o < n) (nm : ByteArray) (hb : n < 2000) : ∀ {y : Nat} {os : List Nat} {zs : List (List RT)}, (∀ p ∈ os, p < n) → y < n → aM F mG y o = true → wU F (some y) os zs → wU (jk F n o nm) (some y) os zs
 | _, [], [], _, _, _, _ => trivial
 | y, p :: os, Z :: zs, hp, hy, hs, hz => by
  obtain ⟨h1, ⟨ks, h2, h3⟩, h4⟩ := hz
  have Ir := hp p (by simp)
  have Z7 : y ∈ F.kids p := by rw [h2]; simp
  have hpy := (h.kid p Ir y Z7).1
  have Z8 := bz h.wf Ir Z7 hs
  have hne : p ≠ o := fun e => by
   subst e
   have := nE h.wf hy hs
   have hb2 := h.big
   unfold mG at this
   omega
  refine ⟨by rw [zx (by omega)]; exact h1, ⟨ks, by rw [ua hne (by omega)]; exact h2, ?_⟩, I5 h ho nm hb (fun q hq => hp q (by simp [hq])) Ir Z8 h4⟩
  rw [← h3]
  refine List.map_congr_left fun c hc => ?_
  have nh : c ∈ F.kids p := by rw [h2]; simp [hc]
  have cD := (h.kid p Ir c nh).2
  refine Fj h ho nm hb cD ?_
  cases hsc : aM F mG c o with
  | false => rfl
  | true =>
   exfalso
   have e := S7 h.wf h.one h.nd (fun i _ => I4 i) Ir nh Z7 hsc hs
   subst e
   have fk := h.nd p Ir
   rw [h2] at fk
   have := (List.nodup_append.1 fk).2.2 c hc c (by simp)
   exact this rfl
 | _, [], _ :: _, _, _, _, hz => hz.elim
 | _, _ :: _, [], _, _, _, hz => hz.elim
end
section
variable {F : aP} {n : Nat} {o : Nat} {os : List Nat} {Z : List RT} {st : List (List RT)}
theorem kV.on (h : kV F n (o :: os) st) : o < n := h.opn o (by simp)
theorem kV.size (h : kV F n (o :: os) (Z :: st)) : (F.nm o).size = 0 ∧ (F.kids o).map (aG F mG) = Z := by
 obtain ⟨h1, ⟨ks, h2, h3⟩, _⟩ := h.zip
 refine ⟨h1, ?_⟩
 rw [h2]; simpa using h3
theorem Fk (h : kV F n (o :: os) (Z :: st)) (nm : ByteArray) (hb : n < 2000) :
  (∀ i, i < n + 1 → ∀ k ∈ (jk F n o nm).kids i, i < k ∧ k < n + 1) ∧ (∀ p q k, p < n + 1 → q < n + 1 → k ∈ (jk F n o nm).kids p → k ∈ (jk F n o nm).kids q → p = q) ∧ (∀ i, i < n + 1 → ((jk F n o nm).kids i).Nodup) ∧
  wU (jk F n o nm) (some o) os st ∧ (∀ c ∈ F.kids o, aG (jk F n o nm) mG c = aG F mG c) ∧ aG (jk F n o nm) mG n = .node nm [] := by
 have ho := h.on
 refine ⟨fun i hi k hk => ?_, fun p q k hp hq h1 h2 => ?_, fun i hi => ?_, I5 h ho nm hb (fun p hp => h.opn p (by simp [hp])) ho (aN h.wf ho) h.zip.2.2, fun c hc => ?_, ?_⟩
 ·rcases sZ h.kid ho hi hk with ⟨h1, h2⟩ | ⟨h1, h2⟩
  ·have := h.kid i h1 k h2; omega
  ·omega
 ·rcases sZ h.kid ho hp h1 with ⟨a1, a2⟩ | ⟨a1, a2⟩
  ·rcases sZ h.kid ho hq h2 with ⟨b1, b2⟩ | ⟨b1, b2⟩
   ·exact h.one p q k a1 b1 a2 b2
   ·have := (h.kid p a1 k a2).2; omega
  ·rcases sZ h.kid ho hq h2 with ⟨b1, b2⟩ | ⟨b1, b2⟩
   ·have := (h.kid q b1 k b2).2; omega
   ·omega
 ·by_cases e : i = o
  ·subst e
   rw [qi, List.nodup_append]
   refine ⟨h.nd i ho, by simp, fun a ha b hb e => ?_⟩
   have hb : b = n := by simpa using hb
   have := (h.kid i ho a ha).2; omega
  ·by_cases e2 : i = n
   ·subst e2; rw [qj ho]; exact List.nodup_nil
   ·rw [ua e e2]; exact h.nd i (by omega)
 ·have cD := h.kid o ho c hc
  refine Fj h ho nm hb cD.2 ?_
  cases hs : aM F mG c o with
  | false => rfl
  | true =>
   have := nE h.wf cD.2 hs
   have hb2 := h.big
   unfold mG at this
   omega
 ·rw [bA (LJ h ho nm hb) (Nat.lt_succ_self n), qj ho]
  show RT.node (upd F.nm n nm n) [] = _
  rw [upd_same]
theorem kV.leaf (h : kV F n (o :: os) (Z :: st)) (nm : ByteArray) (hb : n < 2000) : kV (jk F n o nm) (n + 1) (o :: os) ((Z ++ [.node nm []]) :: st) := by
 obtain ⟨a1, a2, a3, a4, a5, a6⟩ := Fk h nm hb
 have ho := h.on
 refine ⟨by omega, a1, a2, a3, ⟨by rw [zx (by omega)]; exact h.size.1, ⟨_, (List.append_nil _).symm, ?_⟩, a4⟩, fun p hp => by have := h.opn p hp; omega, by simp⟩
 rw [qi, List.map_append, List.map_cons, List.map_nil, a6]
 congr 1
 rw [← h.size.2]
 exact List.map_congr_left a5
theorem kV.open (h : kV F n (o :: os) (Z :: st)) (hb : n < 2000) : kV (jk F n o ByteArray.empty) (n + 1) (n :: o :: os) ([] :: Z :: st) := by
 obtain ⟨a1, a2, a3, a4, a5, a6⟩ := Fk h ByteArray.empty hb
 have ho := h.on
 refine ⟨by omega, a1, a2, a3, ⟨?_, ⟨[], by rw [qj ho]; rfl, rfl⟩, by rw [zx (by omega)]; exact h.size.1, ⟨F.kids o, qi, ?_⟩, a4⟩, fun p hp => ?_, by simp⟩
 ·show (upd F.nm n ByteArray.empty n).size = 0
  rw [upd_same]; rfl
 ·rw [← h.size.2]
  exact List.map_congr_left a5
 ·rcases List.mem_cons.1 hp with e | e
  ·omega
  ·have := h.opn p e; omega
theorem kV.pop {q : Nat} {Y : List RT} (h : kV F n (o :: q :: os) (Z :: Y :: st)) : kV F n (q :: os) ((Y ++ [.node ByteArray.empty Z]) :: st) := by
 obtain ⟨h1, ⟨ks, h2, h3⟩, h4, ⟨yO, h5, h6⟩, h7⟩ := h.zip
 have ho := h.on
 refine ⟨h.big, h.kid, h.one, h.nd, ⟨h4, ⟨yO ++ [o], by rw [h5]; simp, ?_⟩, h7⟩, fun p hp => h.opn p (by simp at hp ⊢; rcases hp with e | e <;> simp [e]), by simp⟩
 rw [List.map_append, h6, List.map_cons, List.map_nil, bA h.wf ho]
 have hn : F.nm o = ByteArray.empty := ByteArray.ext (Array.eq_empty_of_size_eq_zero h1)
 rw [hn, h.size.2]
theorem kV.done {r : RT} {Y : List RT} (h : kV F n [o] [r :: Y]) : ∃ c ks, F.kids o = c :: ks ∧ c < n ∧ fO F mG c = flat r := by
 obtain ⟨_, h2⟩ := h.size
 have ho := h.on
 cases hk : F.kids o with
 | nil => rw [hk] at h2; cases h2
 | cons c ks =>
  rw [hk, List.map_cons] at h2
  injection h2 with h2 h3
  have cD := (h.kid o ho c (by rw [hk]; simp)).2
  exact ⟨c, ks, rfl, cD, by rw [Ap h.wf cD (Fi h.wf h.one h.nd (fun i _ => I4 i) cD), h2]⟩
theorem kV.len (h : kV F n (o :: os) (Z :: st)) : (o :: os).length = st.length + 1 := by rw [h.zip.len]; rfl
end
end
section
mutual
theorem lY : ∀ r : RT, aI (contrR r) ≤ aI r
 | .node nm [] => by rw [contrR]; exact Nat.le_refl _
 | .node nm [k] => by
  have := lY k
  rw [contrR, aI, sizeRs, sizeRs]; omega
 | .node nm (a :: b :: ks) => by
  have h1 := lY a
  have h2 := lY b
  have h3 := Aq ks
  rw [contrR]
  simp only [aI, sizeRs]
  omega
theorem Aq : ∀ rs : List RT, sizeRs (contrRs rs) ≤ sizeRs rs
 | [] => by rw [contrRs]; exact Nat.le_refl _
 | r :: rs => by
  have h1 := lY r
  have h2 := Aq rs
  rw [contrRs, sizeRs, sizeRs]; omega
end
section
variable {F : aP} {n : Nat} {rk : Nat → Nat} {P : Nat → Bool}
theorem lZ {i z : Nat} (hs : aM F rk i z = true) : (F.sub rk (gY F P rk) i).kids z = (F.kids z).filter (al F P rk) := by
 show (if _ then _ else _) = _
 rw [if_pos hs]; rfl
theorem Cx {i z j : Nat} (hj : j ∈ (F.sub rk (gY F P rk) i).kids z) : j ∈ F.kids z := by
 have hj : j ∈ if _ then _ else _ := hj
 split at hj
 ·exact (List.mem_filter.1 hj).1
 ·exact hj
theorem jy (h : Wf F n rk) (i : Nat) : Wf (F.sub rk (gY F P rk) i) n rk := ⟨fun z hz j hj => h.kid z hz j (Cx hj)⟩
theorem Z9 (hl : ∀ z, z < n → (F.kids z).length ≤ 1000) (i z : Nat) (hz : z < n) : ((F.sub rk (gY F P rk) i).kids z).length ≤ 1000 := by
 show (if _ then _ else _ : List Nat).length ≤ _
 split
 ·exact Nat.le_trans (List.length_filter_le _ _) (hl z hz)
 ·exact hl z hz
theorem pR (h : Wf F n rk) (i : Nat) : ∀ (d x z : Nat), rk x ≤ d → x < n → aM (F.sub rk (gY F P rk) i) rk x z = true → aM F rk x z = true
 | d, x, z, hd, hx, hs => by
  rcases fE (jy h i) hx hs with e | ⟨k, hk, h2⟩
  ·subst e; exact aN h hx
  ·have hk := Cx hk
   have hkk := h.kid x hx k hk
   cases d with
   | zero => omega
   | succ d => exact bz h hx hk (pR h i d k z (by omega) hkk.1 h2)
theorem Bc (h : Wf F n rk) {i : Nat} (hi : i < n) : ∀ (d x z : Nat), rk x ≤ d → x < n → aM F rk i x = true → al F P rk x = true → aM (F.sub rk (gY F P rk) i) rk x z = true → al F P rk z = true
 | d, x, z, hd, hx, Ej, ha, hs => by
  rcases fE (jy h i) hx hs with e | ⟨k, hk, h2⟩
  ·subst e; exact ha
  ·rw [lZ Ej] at hk
   obtain ⟨hk, hka⟩ := List.mem_filter.1 hk
   have hkk := h.kid x hx k hk
   cases d with
   | zero => omega
   | succ d => exact Bc h hi d k z (by omega) hkk.1 (dV h hi (Nat.le_refl _) Ej (bz h hx hk (aN h hkk.1))) hka h2
theorem pU (h : Wf F n rk) {i : Nat} (hi : i < n) : ∀ (d x z : Nat), rk x ≤ d → x < n → aM F rk i x = true → aM F rk x z = true → al F P rk z = true → al F P rk x = true ∧ aM (F.sub rk (gY F P rk) i) rk x z = true
 | d, x, z, hd, hx, Ej, hs, ha => by
  rcases fE h hx hs with e | ⟨k, hk, h2⟩
  ·subst e; exact ⟨ha, aN (jy h i) hx⟩
  ·have hkk := h.kid x hx k hk
   cases d with
   | zero => omega
   | succ d =>
    obtain ⟨h3, h4⟩ := pU h hi d k z (by omega) hkk.1 (dV h hi (Nat.le_refl _) Ej (bz h hx hk (aN h hkk.1))) h2 ha
    refine ⟨?_, bz (jy h i) hx (by rw [lZ Ej]; exact List.mem_filter.2 ⟨hk, h3⟩) h4⟩
    rw [jx h hx, if_neg fun e => by rw [e] at hk; cases hk]
    exact List.any_eq_true.2 ⟨k, hk, h3⟩
theorem aaa (h : Wf F n rk) {i : Nat} (hi : i < n) (hD : oh F n rk i) : oh (F.sub rk (gY F P rk) i) n rk i := fun z hz hs => by
 have hs2 := pR h i _ i z (Nat.le_refl _) hi hs
 obtain ⟨h1, h2⟩ := hD z hz hs2
 refine ⟨by rw [lZ hs2]; exact h1.filter _, fun x hx y hy j a b => ?_⟩
 have hx := Cx hx
 have hy := Cx hy
 exact h2 x hx y hy j (pR h i _ x j (Nat.le_refl _) (h.kid z hz x hx).1 a) (pR h i _ y j (Nat.le_refl _) (h.kid z hz y hy).1 b)
theorem aab (h : Wf F n rk) {i : Nat} (hi : i < n) (hall : ∀ z, z < n → aM F rk i z = true) : ∀ z, z < n → aM (F.sub rk (gY F P rk) i) rk i z = false → ((F.sub rk (gY F P rk) i).kids z).length ≤ 1 := fun z hz hs => by
 have h1 := hall z hz
 rw [lZ h1]
 have : (F.kids z).filter (al F P rk) = [] := by
  rw [List.filter_eq_nil_iff]
  intro k hk ha
  have hkk := h.kid z hz k hk
  have ud : al F P rk z = true := by
   rw [jx h hz, if_neg fun e => by rw [e] at hk; cases hk]
   exact List.any_eq_true.2 ⟨k, hk, ha⟩
  rw [(pU h hi _ i z (Nat.le_refl _) hi (aN h hi) h1 ud).2] at hs
  cases hs
 rw [this]; exact Nat.zero_le _
theorem ue {f g : Nat → List ByteArray} {p : Nat → Bool} : ∀ l : List Nat, (∀ k ∈ l, p k = true → (f k).Sublist (g k)) → ((l.filter p).flatMap f).Sublist (l.flatMap g)
 | [], _ => List.Sublist.refl _
 | a :: l, h => by
  have ih := ue l fun k hk => h k (by simp [hk])
  rw [List.flatMap_cons]
  by_cases ha : p a = true
  ·rw [List.filter_cons_of_pos ha, List.flatMap_cons]
   exact (h a (by simp) ha).append ih
  ·rw [List.filter_cons_of_neg ha]
   exact ih.trans (List.sublist_append_right _ _)
theorem yP (h : Wf F n rk) {i : Nat} (hi : i < n) (hg : di (aG F rk i)) : aI (aG F rk i) ≤ n := by
 rw [← jh, jO h hi (Nat.le_refl _), List.length_map]
 exact mQ (wS h _ i (Nat.le_refl _) hi hg) fun x hx => iM h hi (Nat.le_refl _) ((bX h hi (Nat.le_refl _)).1 hx)
end
end
section
section
variable {names : List ByteArray} {l : List Eu}
end
end
section
open Go.RowKit Go.Deep
theorem Cy {base : Nat} {w w4 : World} {B : Nat} {x y p q : Value} {T : TypeId} (hb : w4.heap[B]? = some (Obj.cells #[x, y] T (0, 0))) (hB : base ≤ B) (hu : Below base w w4) :
  Below base w ((w4.setCell ⟨B, 0, none⟩ p).setCell ⟨B, 1, none⟩ q) ∧ ((w4.setCell ⟨B, 0, none⟩ p).setCell ⟨B, 1, none⟩ q).cell? ⟨B, 0, none⟩ = some p ∧ ((w4.setCell ⟨B, 0, none⟩ p).setCell ⟨B, 1, none⟩ q).cell? ⟨B, 1, none⟩ = some q ∧
   ∀ b, b ≠ B → ((w4.setCell ⟨B, 0, none⟩ p).setCell ⟨B, 1, none⟩ q).heap[b]? = w4.heap[b]? := by
 have b8 : ∀ b, b ≠ B → ((w4.setCell ⟨B, 0, none⟩ p).setCell ⟨B, 1, none⟩ q).heap[b]? = w4.heap[b]? := fun b hb => by rw [blk_setCell_other _ _ _ _ hb, blk_setCell_other _ _ _ _ hb]
 have hheap : ((w4.setCell ⟨B, 0, none⟩ p).setCell ⟨B, 1, none⟩ q).heap[B]? = some (Obj.cells #[p, q] T (0, 0)) := by
  simp [World.setCell, Array.getElem?_modify, hb]
 exact ⟨⟨hu.os, hu.tape, hu.output, by simp [World.size_setCell]; exact hu.size, fun b hb => (b8 b (by omega)).trans (hu.block b hb)⟩, by simp [World.cell?, hheap], by simp [World.cell?, hheap], b8⟩
def Qd (base : Nat) (w : World) (T : ax) (e : Ending) (w' : World) : Prop :=
 Below base w w' ∧ w.heap.size ≤ w'.heap.size ∧ ∃ v, e = .returned (.tuple #[v, .int .i64 (if 64 < T.ps.length then 4 else 0)]) ∧ aC (fun b => w.heap.size ≤ b) w' v (if 64 < T.ps.length then ⟨[], []⟩ else T)
theorem gL.far {n base : Nat} {A : Nat → Nat} {kv : Nat → Value} {F : aP} {w a b : World} (h : gL n A kv a b) (hF : aS base n A kv F w) {B : Nat} (hB : w.heap.size ≤ B) (hl : B < a.heap.size) : b.heap[B]? = a.heap[B]? :=
 h.block B hl (fun i hi e => by have := hF.lt hi; omega) (fun i hi e => by have := (hF.ep hi e).2; omega)
set_option maxHeartbeats 4000000 in
theorem aac {base n : Nat} {A : Nat → Nat} {kv : Nat → Value} {rk : Nat → Nat} {F : aP} {i : Nat} {w : World} (hw : Wf F n rk) (hD : oh F n rk i) (hl : ∀ z, z < n → (F.kids z).length ≤ 1000) (hout : ∀ z, z < n → aM F rk i z = false → (F.kids z).length ≤ 1)
  (hi : i < n) (hg : di (aG F rk i)) (hsz : aI (contrR (aG F rk i)) ≤ 100000) (nV : base ≤ w.heap.size) (hF : aS base n A kv F w) :
  Calls Tryz.prog 116 #[.pointer (some ⟨A i, 0, none⟩)] w (Qd base w (flat (sortR (contrR (aG F rk i))))) := by
 have hu := Up.alloc w (.cells #[.slice none 0 0, .slice none 0 0] 39)
 have hrb := fF (w := w) (P := .slice none 0 0) (N := .slice none 0 0) (T := 39)
 have Dm : (w.alloc (.cells #[.slice none 0 0, .slice none 0 0] 39)).heap.size = w.heap.size + 1 := World.size_alloc _ _
 have HF := aa hF
 have HF1 := aa (hF.up hu)
 have zS := aa (IL (rk i) F i _ hw hD hl hi (Nat.le_refl _) (hF.up hu))
 have HR := aa (zl hw hi (Nat.le_refl _))
 have q8 := aa (KG hw hi hg hl hout)
 have Uo : Hid (aG (F.sub rk (gz F rk) i) rk (cr F rk i) = contrR (aG F rk i)) := zw hw hi (rk i) i (Nat.le_refl _) hi (aN hw hi)
 have vw := aa (wR hg)
 have bQ := aa Dm
 have jA := aa hrb
 have HBU : Hid (Below base w (w.alloc (.cells #[.slice none 0 0, .slice none 0 0] 39))) := Below.mono hu nV
 have jq := aa nV
 have vo := aa hsz
 clear hw hD hl hout hg hF hu hrb Dm nV hsz
 unfold Iy at zS
 generalize contrR (aG F rk i) = R at *
 generalize F.sub rk (gz F rk) i = F2 at *
 generalize cr F rk i = r at *
 go_enter Tryz.func116, Tryz.ntmps116
 go_wp2_with fail
 generalize w.alloc (.cells #[.slice none 0 0, .slice none 0 0] 39) = w1 at *
 refine zS.out.mono ?_
 rintro e w2 ⟨rfl, hF2, iU⟩
 obtain ⟨hr, _, _, _⟩ := HR.out
 have Hz : aS base n A kv (F2.fU rk fun _ => false) w2 := hF2.congr fun j _ => ⟨rfl, rfl, rfl⟩
 have HST := aa (Hp q8.out (rk r) r (fun _ => false) w2 hr (Nat.le_refl _) Hz)
 have fu := aa ((iU.far HF.out (Nat.le_refl _) (by rw [bQ.out]; omega)).trans jA.out)
 have hs1 : base ≤ w1.heap.size := by have := jq.out; rw [bQ.out]; omega
 have kC := aa (HBU.out.trans (iU.below HF1.out hs1))
 have UU : Hid (w.heap.size + 1 ≤ w2.heap.size) := by have := iU.size; rw [bQ.out] at this; exact this
 have UW := aa Hz
 clear hF2 iU zS Hz HBU jA
 go_wp2_with fail
 refine HST.out.mono ?_
 rintro e w3 ⟨rfl, xB, IM⟩
 have Dx := aa ((IM.far HF.out (Nat.le_refl _) (by have := UU.out; omega)).trans fu.out)
 have s5 := aa (kC.out.trans (IM.below UW.out (by have := jq.out; have := UU.out; omega)))
 have UX : Hid (w.heap.size + 1 ≤ w3.heap.size) := Nat.le_trans UU.out IM.size
 have hst := S3 q8.out.wf hr (by rw [Uo.out]; exact vw.out) (p := fun j => false || aM F2 rk r j) (fun j hj => by simpa using hj)
 rw [Uo.out] at hst
 have Ad := aa (Ht (q8.out.wf.fU fun j => false || aM F2 rk r j) (fun z hz => by
  rw [(F2.gI rk (fun j => false || aM F2 rk r j) z).length_eq]; exact q8.out.len z hz) w3 r hr xB (by rw [hst.2]; exact vo.out))
 rw [hst.1] at Ad
 clear xB IM HST UW fu kC UU hst
 generalize flat (sortR R) = T at *
 go_wp2_with fail
 refine Ad.out.mono ?_
 rintro e w4 ⟨b9, _, rfl, P4, N4, rfl, dZ, en⟩
 obtain ⟨pp, pc, rfl, _, _⟩ := aD.open dZ
 obtain ⟨np, nc, rfl, _, _⟩ := aD.open en
 have eX := Up.alloc w4 (.cells #[.slice pp T.ps.length pc, .slice np T.ns.length nc] 39)
 have wV := aa (((Below.block (Below.trans b9 (Below.mono eX b9.size)) w.heap.size (by have := UX.out; omega)).trans Dx.out))
 have xz := aa (s5.out.trans (Below.mono (Below.trans b9 (Below.mono eX b9.size)) (by have := jq.out; have := UX.out; omega)))
 have HP5 := aa (aB.keep dZ (eX.kept _))
 have HN5 := aa (av.keep en (eX.kept _))
 have Qe : Hid (w.heap.size + 1 ≤ (w4.alloc (.cells #[.slice pp T.ps.length pc, .slice np T.ns.length nc] 39)).heap.size) := by have := eX.size; have := b9.size; have := UX.out; unfold Hid; omega
 have hc0 := ew w4 (.slice pp T.ps.length pc) (.slice np T.ns.length nc) 39
 have hc1 := ey w4 (.slice pp T.ps.length pc) (.slice np T.ns.length nc) 39
 obtain ⟨q0, q1, q2, q3⟩ : (w4.alloc (.cells #[.slice pp T.ps.length pc, .slice np T.ns.length nc] 39)).cell? ⟨w.heap.size, 0, none⟩ = some (.slice none 0 0) ∧ (w4.alloc (.cells #[.slice pp T.ps.length pc, .slice np T.ns.length nc] 39)).cell? ⟨w.heap.size, 1, none⟩ = some (.slice none 0 0) ∧ (w4.alloc (.cells #[.slice pp T.ps.length pc, .slice np T.ns.length nc] 39)).frozen? ⟨w.heap.size, 0, none⟩ = false ∧ (w4.alloc (.cells #[.slice pp T.ps.length pc, .slice np T.ns.length nc] 39)).frozen? ⟨w.heap.size, 1, none⟩ = false := by
  refine ⟨?_, ?_, ?_, ?_⟩ <;> simp only [World.cell?, World.frozen?, wV.out] <;> rfl
 clear b9 eX dZ en Ad Dx s5
 by_cases LK : 64 < T.ps.length
 ·have d1 : decide ((64 : Int) < (T.ps.length : Int)) = true := decide_eq_true (by omega)
  have HST := aa (Cy (p := .slice none 0 0) (q := .slice none 0 0) wV.out jq.out xz.out)
  have Lu := aa LK
  clear LK
  go_wp2_with fail
  obtain ⟨r1, r2, r3, r4⟩ := HST.out
  refine ⟨rfl, .tuple #[.agg #[.slice none 0 0, .slice none 0 0], .int .i64 4], by simp [results, Tryz.results116, go_sem, r2, r3], r1, ?_, .agg #[.slice none 0 0, .slice none 0 0], by rw [if_pos Lu.out], by rw [if_pos Lu.out]; exact ⟨_, _, rfl, ⟨none, 0, rfl, Nat.le_refl _, .inl rfl⟩, ⟨none, 0, rfl, Nat.le_refl _, .inl rfl⟩⟩⟩
  rw [World.size_setCell, World.size_setCell]; have := Qe.out; omega
 ·have d1 : decide ((64 : Int) < (T.ps.length : Int)) = false := decide_eq_false (by omega)
  have HST := aa (Cy (p := .slice pp T.ps.length pc) (q := .slice np T.ns.length nc) wV.out jq.out xz.out)
  have Lu := aa LK
  clear LK
  go_wp2_with fail
  obtain ⟨r1, r2, r3, r4⟩ := HST.out
  refine ⟨rfl, .tuple #[.agg #[.slice pp T.ps.length pc, .slice np T.ns.length nc], .int .i64 0], by simp [results, Tryz.results116, go_sem, r2, r3], r1, ?_, .agg #[.slice pp T.ps.length pc, .slice np T.ns.length nc], by rw [if_neg Lu.out], ?_⟩
  ·rw [World.size_setCell, World.size_setCell]; have := Qe.out; omega
  ·rw [if_neg Lu.out]
   have hz := UX.out
   exact ⟨_, _, rfl, (aB.keep HP5.out fun b hb _ => r4 b (by omega)).sub fun b hb _ => by omega, (av.keep HN5.out fun b hb _ => r4 b (by omega)).sub fun b hb _ => by omega⟩
end
end Go.Proofs.YteegefnjnikngaaGreat
