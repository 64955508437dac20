/- Rose trees of the reference's nodes, as they lie in memory; a node whose list of children .. -/
import Derived.Test.YteegefnjnikngaaGreatQ1
import Derived.Test.YteegefnjnikngaaGreatQ19
import Derived.Test.YteegefnjnikngaaGreatQ12
set_option maxRecDepth 100000
namespace Go.Proofs.YteegefnjnikngaaGreat
section
open Go.RowKit Go.Deep
def vN (vs : List Value) (k : Nat) : Value := vs.getD k undef
mutual
def RAt (S : Nat → Prop) (w : World) : RT → Value → Prop
 | .node nm ks, v => ∃ b kv vs, v = .pointer (some ⟨b, 0, none⟩) ∧ S b ∧ w.heap[b]? = some (.cells #[.string nm, kv] 261 (0, 0)) ∧ aD S w kv ks.length (vN vs) ∧ RsAt S w ks vs
def RsAt (S : Nat → Prop) (w : World) : List RT → List Value → Prop
 | [], vs => vs = []
 | r :: rs, vs => ∃ u us, vs = u :: us ∧ RAt S w r u ∧ RsAt S w rs us
end
mutual
theorem RAt.keep {S : Nat → Prop} {w w' : World} (k : Kept S w w') : ∀ (r : RT) {v : Value}, RAt S w r v → RAt S w' r v
 | .node nm ks, v, h => by
  unfold RAt at h ⊢
  obtain ⟨b, kv, vs, rfl, hS, hb, hk, hs⟩ := h
  exact ⟨b, kv, vs, rfl, hS, (k b hS (Array.getElem?_eq_some_iff.1 hb).1).trans hb, hk.keep k, RsAt.keep k ks hs⟩
theorem RsAt.keep {S : Nat → Prop} {w w' : World} (k : Kept S w w') : ∀ (rs : List RT) {vs : List Value}, RsAt S w rs vs → RsAt S w' rs vs
 | [], _, h => by unfold RsAt at h ⊢; exact h
 | r :: rs, vs, h => by
  unfold RsAt at h ⊢
  obtain ⟨u, us, rfl, h1, h2⟩ := h
  exact ⟨u, us, rfl, RAt.keep k r h1, RsAt.keep k rs h2⟩
end
mutual
theorem RAt.sub {S T : Nat → Prop} {w : World} (k : ∀ b, S b → b < w.heap.size → T b) : ∀ (r : RT) {v : Value}, RAt S w r v → RAt T w r v
 | .node nm ks, v, h => by
  unfold RAt at h ⊢
  obtain ⟨b, kv, vs, rfl, hS, hb, hk, hs⟩ := h
  exact ⟨b, kv, vs, rfl, k b hS (Array.getElem?_eq_some_iff.1 hb).1, hb, hk.sub k, RsAt.sub k ks hs⟩
theorem RsAt.sub {S T : Nat → Prop} {w : World} (k : ∀ b, S b → b < w.heap.size → T b) : ∀ (rs : List RT) {vs : List Value}, RsAt S w rs vs → RsAt T w rs vs
 | [], _, h => by unfold RsAt at h ⊢; exact h
 | r :: rs, vs, h => by
  unfold RsAt at h ⊢
  obtain ⟨u, us, rfl, h1, h2⟩ := h
  exact ⟨u, us, rfl, RAt.sub k r h1, RsAt.sub k rs h2⟩
end
theorem RsAt.len {S : Nat → Prop} {w : World} : ∀ (rs : List RT) {vs : List Value}, RsAt S w rs vs → vs.length = rs.length
 | [], _, h => by unfold RsAt at h; subst h; rfl
 | r :: rs, vs, h => by
  unfold RsAt at h
  obtain ⟨u, us, rfl, _, h2⟩ := h
  rw [List.length_cons, List.length_cons, RsAt.len rs h2]
def gr (rs : List RT) (k : Nat) : RT := rs.getD k (.node ByteArray.empty [])
theorem RsAt.get {S : Nat → Prop} {w : World} : ∀ (rs : List RT) {vs : List Value}, RsAt S w rs vs → ∀ k, k < rs.length → RAt S w (gr rs k) (vN vs k)
 | [], _, _, k, hk => absurd hk (Nat.not_lt_zero _)
 | r :: rs, vs, h, k, hk => by
  unfold RsAt at h
  obtain ⟨u, us, rfl, h1, h2⟩ := h
  cases k with
  | zero => exact h1
  | succ k => exact RsAt.get rs h2 k (by simpa using hk)
theorem RsAt.app {S : Nat → Prop} {w : World} {r : RT} {u : Value} (hr : RAt S w r u) : ∀ (rs : List RT) {vs : List Value}, RsAt S w rs vs → RsAt S w (rs ++ [r]) (vs ++ [u])
 | [], vs, h => by
  unfold RsAt at h; subst h
  show RsAt S w [r] [u]
  unfold RsAt
  exact ⟨u, [], rfl, hr, by unfold RsAt; rfl⟩
 | q :: rs, vs, h => by
  unfold RsAt at h
  obtain ⟨x, us, rfl, h1, h2⟩ := h
  show RsAt S w (q :: (rs ++ [r])) (x :: (us ++ [u]))
  unfold RsAt
  exact ⟨x, us ++ [u], rfl, h1, RsAt.app hr rs h2⟩
theorem RAt.open {S : Nat → Prop} {w : World} {r : RT} {v : Value} (h : RAt S w r v) : ∃ b kp kc vs, v = .pointer (some ⟨b, 0, none⟩) ∧ S b ∧ w.cell? ⟨b, 0, none⟩ = some (.string r.nm) ∧ w.cell? ⟨b, 1, none⟩ = some (.slice kp r.kids.length kc) ∧ aD S w (.slice kp r.kids.length kc) r.kids.length (vN vs) ∧ RsAt S w r.kids vs := by
 cases r with
 | node nm ks =>
  unfold RAt at h
  obtain ⟨b, kv, vs, rfl, hS, hb, hk, hs⟩ := h
  obtain ⟨kp, kc, rfl, _, _⟩ := aD.open hk
  exact ⟨b, kp, kc, vs, rfl, hS, by simp [World.cell?, hb, RT.nm], by simp [World.cell?, hb, RT.kids], hk, hs⟩
theorem oo {p : Option Addr} {n cap : Nat} {S : Nat → Prop} {w : World} {vs : List Value} (h : aD S w (.slice p n cap) n (vN vs)) {k : Nat} (hk : k < n) : ∃ b off, p = some ⟨b, off, none⟩ ∧ w.cell? ⟨b, off + k, none⟩ = some (vN vs k) := by
 obtain ⟨q, c, e, _, H⟩ := aD.open h
 injection e with e1
 subst e1
 exact H k hk
structure kT (base B : Nat) (w : World) (nm : ByteArray) (kv : Value) (rs : List RT) : Prop where
 node : w.heap[B]? = some (.cells #[.string nm, kv] 261 (0, 0))
 lo : base ≤ B
 kids : ∃ vs, aA (B + 1) 214 w kv vs ∧ RsAt (fun b => base ≤ b ∧ b ≠ B ∧ kv.ownBlock ≠ some b) w rs vs
theorem kT.lt {base B : Nat} {w : World} {nm : ByteArray} {kv : Value} {rs : List RT} (h : kT base B w nm kv rs) : B < w.heap.size := (Array.getElem?_eq_some_iff.1 h.node).1
theorem kT.cells {base B : Nat} {w : World} {nm : ByteArray} {kv : Value} {rs : List RT} (h : kT base B w nm kv rs) : w.cell? ⟨B, 0, none⟩ = some (.string nm) ∧ w.cell? ⟨B, 1, none⟩ = some kv ∧ w.frozen? ⟨B, 0, none⟩ = false ∧ w.frozen? ⟨B, 1, none⟩ = false := by
 refine ⟨?_, ?_, ?_, ?_⟩ <;> simp [World.cell?, World.frozen?, h.node]
theorem kT.start (w : World) {base : Nat} (hb : base ≤ w.heap.size) (nm : ByteArray) : kT base w.heap.size (w.alloc (.cells #[.string nm, .slice none 0 0] 261)) nm (.slice none 0 0) [] :=
 ⟨World.alloc_heap_new _ _, hb, [], aA.nil _ _ _, by unfold RsAt; rfl⟩
theorem kT.up {base B : Nat} {w w' : World} {nm : ByteArray} {kv : Value} {rs : List RT} (h : kT base B w nm kv rs) (hu : Up w w') : kT base B w' nm kv rs := by
 obtain ⟨vs, ho, hr⟩ := h.kids
 exact ⟨(Below.block hu B h.lt).trans h.node, h.lo, vs, ho.kept fun b _ hb => Below.block hu b hb, RsAt.keep (hu.kept _) rs hr⟩
theorem kT.done {base B : Nat} {w : World} {nm : ByteArray} {kv : Value} {rs : List RT} (h : kT base B w nm kv rs) : RAt (fun b => base ≤ b) w (.node nm rs) (.pointer (some ⟨B, 0, none⟩)) := by
 obtain ⟨vs, ho, hr⟩ := h.kids
 have hlen := RsAt.len rs hr
 unfold RAt
 have h1 := ho.AJ
 rw [hlen] at h1
 exact ⟨B, kv, vs, rfl, h.lo, h.node, h1.sub fun b hb _ => by have := h.lo; omega, RsAt.sub (fun b hb _ => hb.1) rs hr⟩
theorem kT.push {base B : Nat} {w W : World} {nm : ByteArray} {kv kv' : Value} {rs : List RT} {r : RT} {u : Value} {lim : Nat} (h : kT base B w nm kv rs) (hr : RAt (fun b => lim ≤ b) w r u) (gK : base ≤ lim) (hl2 : B < lim) (Er : ∀ b, kv.ownBlock = some b → b < lim)
  {vs : List Value} (hv : RsAt (fun b => base ≤ b ∧ b ≠ B ∧ kv.ownBlock ≠ some b) w rs vs) (ho : aA (B + 1) 214 W kv' (vs ++ [u])) (hg : w.grownBy W kv.ownBlock) (eR : ∀ b, kv'.ownBlock = some b → kv.ownBlock = some b ∨ w.heap.size ≤ b) :
  kT base B (W.setCell ⟨B, 1, none⟩ kv') nm kv' (rs ++ [r]) := by
 have hBl := h.lt
 have hBk : kv.ownBlock ≠ some B := fun e => by
  obtain ⟨Zc, zN, _⟩ := h.kids
  have := (aF zN e).1; omega
 have hBk' : kv'.ownBlock ≠ some B := fun e => by
  rcases eR B e with h1 | h1
  ·exact hBk h1
  ·omega
 have b8 : ∀ b, b ≠ B → (W.setCell ⟨B, 1, none⟩ kv').heap[b]? = W.heap[b]? := fun b hb => blk_setCell_other _ _ _ _ hb
 have hB : W.heap[B]? = w.heap[B]? := hg.block B hBl (fun e => hBk e.symm)
 have hkeep : ∀ b, b ≠ B → kv.ownBlock ≠ some b → b < w.heap.size → (W.setCell ⟨B, 1, none⟩ kv').heap[b]? = w.heap[b]? := fun b h1 h2 h3 => (b8 b h1).trans (hg.block b h3 fun e => h2 e.symm)
 refine ⟨?_, h.lo, vs ++ [u], ho.eV fun b hb => b8 b (fun e => hBk' (by rw [hb, e])), ?_⟩
 ·have hn := hB.trans h.node
  simp [World.setCell, Array.getElem?_modify, hn]
 ·have k1 : Kept (fun b => base ≤ b ∧ b ≠ B ∧ kv.ownBlock ≠ some b) w (W.setCell ⟨B, 1, none⟩ kv') := fun b hb hl => hkeep b hb.2.1 hb.2.2 hl
  have k2 : Kept (fun b => lim ≤ b) w (W.setCell ⟨B, 1, none⟩ kv') := fun b hb hl => hkeep b (by have : lim ≤ b := hb; omega) (fun e => by have := Er b e; have : lim ≤ b := hb; omega) hl
  have hsz : (W.setCell ⟨B, 1, none⟩ kv').heap.size = W.heap.size := by simp [World.size_setCell]
  have hold : ∀ b, b < w.heap.size → kv.ownBlock ≠ some b → kv'.ownBlock ≠ some b := fun b h1 h2 e => by
   rcases eR b e with h3 | h3
   ·exact h2 h3
   ·omega
  have h1 : RsAt (fun b => base ≤ b ∧ b ≠ B ∧ kv'.ownBlock ≠ some b) w rs vs := RsAt.sub (fun b hb hl => ⟨hb.1, hb.2.1, hold b hl hb.2.2⟩) rs hv
  have h2 : RAt (fun b => base ≤ b ∧ b ≠ B ∧ kv'.ownBlock ≠ some b) w r u := RAt.sub (fun b hb hl => ⟨by have : lim ≤ b := hb; omega, by have : lim ≤ b := hb; omega, hold b hl fun e => by have := Er b e; have : lim ≤ b := hb; omega⟩) r hr
  have k3 : Kept (fun b => base ≤ b ∧ b ≠ B ∧ kv'.ownBlock ≠ some b ∧ kv.ownBlock ≠ some b) w (W.setCell ⟨B, 1, none⟩ kv') := fun b hb hl => hkeep b hb.2.1 hb.2.2.2 hl
  have h1' : RsAt (fun b => base ≤ b ∧ b ≠ B ∧ kv'.ownBlock ≠ some b ∧ kv.ownBlock ≠ some b) w rs vs := RsAt.sub (fun b hb hl => ⟨hb.1, hb.2.1, hold b hl hb.2.2, hb.2.2⟩) rs hv
  have Ec : RAt (fun b => base ≤ b ∧ b ≠ B ∧ kv'.ownBlock ≠ some b ∧ kv.ownBlock ≠ some b) w r u := RAt.sub (fun b hb hl => ⟨by have : lim ≤ b := hb; omega, by have : lim ≤ b := hb; omega, hold b hl fun e => by have := Er b e; have : lim ≤ b := hb; omega, fun e => by have := Er b e; have : lim ≤ b := hb; omega⟩) r hr
  exact RsAt.sub (fun b hb _ => ⟨hb.1, hb.2.1, hb.2.2.1⟩) _ (RsAt.app (RAt.keep k3 r Ec) rs (RsAt.keep k3 rs h1'))
end
section
def ax.app (t : ax) (r : RT) (p : Int) : ax := ⟨t.ps ++ psR r t.ps.length p, t.ns ++ cQ r⟩
def ax.apps (t : ax) (rs : List RT) (own : Nat) : ax := ⟨t.ps ++ psRs rs own t.ps.length, t.ns ++ dr rs⟩
theorem Ip : ∀ (a b : List RT) (own n : Nat), psRs (a ++ b) own n = psRs a own n ++ psRs b own (n + sizeRs a)
 | [], _, _, _ => rfl
 | r :: a, b, own, n => by rw [List.cons_append, psRs, psRs, Ip a b own (n + aI r), sizeRs, List.append_assoc, Nat.add_assoc]
theorem Iq : ∀ (a b : List RT), dr (a ++ b) = dr a ++ dr b
 | [], _ => rfl
 | r :: a, b => by rw [List.cons_append, dr, dr, Iq a b, List.append_assoc]
theorem Sz (t : ax) (own : Nat) : t.apps [] own = t := by simp [ax.apps, psRs, dr]
theorem PF (t : ax) (a b : List RT) (own : Nat) : (t.apps a own).apps b own = t.apps (a ++ b) own := by
 unfold ax.apps
 rw [Ip, Iq, List.append_assoc, List.append_assoc, List.length_append, pE]
theorem SA (t : ax) (a : List RT) (r : RT) (own : Nat) : (t.apps a own).app r (own : Int) = t.apps (a ++ [r]) own := by
 rw [← PF]
 simp [ax.apps, ax.app, psRs, dr]
end
section
def climb (ps : List Int) (n : Nat) : Nat → Nat → Nat
 | 0, k => k
 | d + 1, k => if n < k then climb ps n d (gi ps k).toNat else k
def eY (ps : List Int) (n i : Nat) : Bool := decide (climb ps n i i = n)
theorem mR {ps : List Int} (h : iJ ps = true) {k : Nat} (hk : k < ps.length) (h0 : 0 < k) : 0 ≤ gi ps k ∧ gi ps k < k := by
 have h1 := uK h hk
 unfold jm at h1
 rw [if_neg (by omega)] at h1
 simpa using h1
theorem M7 {ps : List Int} (hp : iJ ps = true) (n : Nat) : ∀ {d e k : Nat}, k < ps.length → k ≤ d → k ≤ e → climb ps n d k = climb ps n e k := by
 intro d
 induction d with
 | zero =>
  intro e k hl h1 h2
  obtain rfl : k = 0 := by omega
  cases e with
  | zero => rfl
  | succ e => simp [climb]
 | succ d ih =>
  intro e k hl h1 h2
  cases e with
  | zero =>
   obtain rfl : k = 0 := by omega
   simp [climb]
  | succ e =>
   rw [climb, climb]
   split
   ·rename_i hnk
    have := mR hp hl (by omega)
    exact ih (by omega) (by omega) (by omega)
   ·rfl
theorem M8 {ps : List Int} (hp : iJ ps = true) {n k : Nat} (hk : k < ps.length) (hn : n < k) : climb ps n k k = climb ps n (gi ps k).toNat (gi ps k).toNat := by
 have h1 := mR hp hk (by omega)
 obtain ⟨m, rfl⟩ : ∃ m, k = m + 1 := ⟨k - 1, by omega⟩
 rw [climb, if_pos hn]
 exact M7 hp n (by omega) (by omega) (Nat.le_refl _)
theorem wL {ps : List Int} {n k : Nat} (hn : ¬ n < k) : climb ps n k k = k := by
 cases k with
 | zero => rfl
 | succ k => rw [climb, if_neg hn]

theorem pJ {ps : List Int} (i : Nat) : eY ps i i = true := by unfold eY; rw [wL (by omega)]; simp
theorem ou {ps : List Int} (_ : iJ ps = true) {i : Nat} : ∀ {j : Nat}, j < ps.length → eY ps i j = true → i ≤ j := by
 intro j
 induction j using Nat.strongRecOn with
 | ind j ih =>
  intro hj h
  by_cases e : i < j
  ·omega
  ·unfold eY at h
   rw [wL e] at h
   have : j = i := by simpa using h
   omega
theorem jZ {ps : List Int} (hp : iJ ps = true) {i j : Nat} (hj : j < ps.length) (hi : i < j) : eY ps i j = eY ps i (gi ps j).toNat := by
 unfold eY; rw [M8 hp hj hi]
theorem nK {ps : List Int} (hp : iJ ps = true) {i : Nat} : ∀ {j : Nat}, j < ps.length → (eY ps i j = true ↔ j = i ∨ ∃ c, c < ps.length ∧ i < c ∧ gi ps c = (i : Int) ∧ eY ps c j = true) := by
 intro j
 induction j using Nat.strongRecOn with
 | ind j ih =>
  intro hj
  by_cases e : i < j
  ·have hpar := mR hp hj (by omega)
   have Ir : ((gi ps j).toNat : Int) = gi ps j := Int.toNat_of_nonneg hpar.1
   have hpl : (gi ps j).toNat < j := by omega
   rw [jZ hp hj e, ih _ hpl (by omega)]
   constructor
   ·rintro (h | ⟨c, h1, h2, h3, h4⟩)
    ·exact .inr ⟨j, hj, e, by omega, pJ j⟩
    ·have := ou hp (show (gi ps j).toNat < ps.length by omega) h4
     exact .inr ⟨c, h1, h2, h3, by rw [jZ hp hj (by omega)]; exact h4⟩
   ·rintro (h | ⟨c, h1, h2, h3, h4⟩)
    ·omega
    ·have xx := ou hp hj h4
     by_cases ec : c = j
     ·subst ec; left; omega
     ·right
      exact ⟨c, h1, h2, h3, by rw [jZ hp hj (by omega)] at h4; exact h4⟩
  ·unfold eY
   rw [wL e]
   constructor
   ·intro h; left; simpa using h
   ·rintro (h | ⟨c, h1, h2, h3, h4⟩)
    ·simpa using h
    ·have := ou hp hj h4; omega
end
section
open Go.RowKit Go.Deep
section
variable {P : Program} {ops : Array Oper} {rest : List Oper} {o : Oper} {a : Act} {Q : Exit → Act → World → Prop}
theorem gX (W : World) (hgd : o.guard = none) (s x : Operand) (t : TypeId) (ho : o.op = .call { callee := .builtin .append, args := #[s, x], argTypes := #[t, t] })
  (base : Nat) (e : TypeId) (z : Value) (bytes : Nat) (ht : P.underlying t = some (.slice e)) (hinfo : (P.info? e).map (fun i => (i.zero, i.size, i.bytes)) = some (some z, 1, bytes))
  (hz1 : z.cells.size = 1) (nU : bytes ≤ 64) {v : Value} {vs : List Value} (hown : aA base e W v vs) (hs : a.eval s = v) (u : Value)
  (hx : a.eval x = .slice (some ⟨W.heap.size, 0, none⟩) 1 1) (h1 : u.oneCell' = true) (k : Nat) (zX : vs.length = k) (hn : k ≤ 1000000) (hbase : base ≤ W.heap.size)
  (h : ∀ g cap w', aA base e w' (.slice (some ⟨g, 0, none⟩) (k + 1) cap) (vs ++ [u]) → W.grownBy w' v.ownBlock → (v.ownBlock = some g ∨ W.heap.size ≤ g) → wpList P ops Q rest (a.put o.dst (.slice (some ⟨g, 0, none⟩) (k + 1) cap)) w') :
  wpList P ops Q (o :: rest) a (W.alloc (.cells #[u] e)) := by
 subst zX
 obtain ⟨i, hi, hzz⟩ := Option.map_eq_some_iff.1 hinfo
 simp only [Prod.mk.injEq] at hzz
 obtain ⟨hz, hs1, hb⟩ := hzz
 refine wpList_append_lies _ hgd s x t ho base e i z 1 bytes ht hi hz hs1 hb hz1 (by omega) v vs.length vs hs (hown.alloc _) ⟨W.heap.size, 0, none⟩ 1 1 [u] hx rfl (cell_one_new _ _ _) (by simpa using h1) (by omega)
  (by unfold maxLen; omega) ?_ (by simp; omega) _ rfl fun g cap w' h2 h3 h4 _ => h g cap w' ?_ (jb h3) (h4.imp id fun e => by rw [e, World.size_alloc]; omega)
 ·have : (vs.length + 1) * bytes ≤ (vs.length + 1) * 64 := Nat.mul_le_mul_left _ nU
  omega
 ·unfold aA; rw [List.length_append]; exact h2
end
structure tV (n : Nat) (A : Nat → Nat) (w w' : World) : Prop where
 os : w'.os = w.os
 tape : w'.tape = w.tape
 output : w'.output = w.output
 size : w.heap.size ≤ w'.heap.size
 block : ∀ b, b < w.heap.size → (∀ i, i < n → b ≠ A i) → w'.heap[b]? = w.heap[b]?
section
variable {n base : Nat} {A : Nat → Nat} {kv : Nat → Value} {F : aP} {w w' w2 : World} {P : Nat → Bool} {rk : Nat → Nat}
theorem tV.refl (n : Nat) (A : Nat → Nat) (w : World) : tV n A w w := ⟨rfl, rfl, rfl, Nat.le_refl _, fun _ _ _ => rfl⟩
theorem tV.trans (h : tV n A w w') (k : tV n A w' w2) : tV n A w w2 :=
 ⟨k.os.trans h.os, k.tape.trans h.tape, k.output.trans h.output, Nat.le_trans h.size k.size, fun b hb hA => (k.block b (Nat.lt_of_lt_of_le hb h.size) hA).trans (h.block b hb hA)⟩
theorem tV.MQ (k : Up w w') : tV n A w w' := ⟨k.os, k.tape, k.output, k.size, fun b hb _ => Below.block k b hb⟩
theorem tV.below (h : tV n A w w') (hlo : ∀ i, i < n → base ≤ A i) (hs : base ≤ w.heap.size) : Below base w w' :=
 ⟨h.os, h.tape, h.output, h.size, fun b hb => h.block b (by omega) fun i hi e => by have := hlo i hi; omega⟩
theorem aS.putF (h : aS base n A kv F w) {k : Nat} (hk : k < n) {v : Value} {ks : List Nat} (hv : aA base 124 w v (ks.map (aL A)))
  (hA : ∀ b, v.ownBlock = some b → ∀ i, i < n → b ≠ A i) (hkv : ∀ b, v.ownBlock = some b → ∀ i, i < n → (kv i).ownBlock ≠ some b) (hks : ∀ j ∈ ks, j < n) :
  aS base n A (upd kv k v) { F with kids := upd F.kids k ks } (w.setCell ⟨A k, 1, none⟩ v) := by
 refine ⟨fun i hi => ?_, h.lo, h.inj, fun i hi => ?_, fun i j hi hj => ?_, fun i j b hi hj h1 h2 => ?_, fun i hi => ?_⟩
 ·by_cases e : i = k
  ·subst e; rw [upd_same]
   have hn := h.node i hi
   simp [World.setCell, Array.getElem?_modify, hn]
  ·rw [upd_ne _ _ e, blk_setCell_other _ _ _ _ (fun e2 => e (h.inj i k hi hk e2))]; exact h.node i hi
 ·by_cases e : i = k
  ·subst e; simp only [upd_same]; exact hv.same fun b hb => blk_setCell_other _ _ _ _ (hA b hb i hi)
  ·simp only [upd_ne _ _ e]; exact (h.own i hi).same fun b hb => blk_setCell_other _ _ _ _ (fun e2 => h.apart i k hi hk (by rw [hb, e2]))
 ·by_cases e : i = k
  ·subst e; rw [upd_same]; intro h3; exact hA _ h3 j hj rfl
  ·rw [upd_ne _ _ e]; exact h.apart i j hi hj
 ·by_cases e1 : i = k
  ·by_cases e2 : j = k
   ·rw [e1, e2]
   ·subst e1
    rw [upd_same] at h1
    rw [upd_ne _ _ e2] at h2
    exact absurd h2 (hkv b h1 j hj)
  ·by_cases e2 : j = k
   ·subst e2
    rw [upd_same] at h2
    rw [upd_ne _ _ e1] at h1
    exact absurd h1 (hkv b h2 i hi)
   ·rw [upd_ne _ _ e1] at h1
    rw [upd_ne _ _ e2] at h2
    exact h.alone i j b hi hj h1 h2
 ·by_cases e : i = k
  ·subst e; simp only [upd_same]; exact hks
  ·simp only [upd_ne _ _ e]; exact h.kid i hi
def gY (F : aP) (P : Nat → Bool) (rk : Nat → Nat) (z : Nat) : List Nat := (F.kids z).filter (al F P rk)
structure UI (base n : Nat) (A : Nat → Nat) (F : aP) (P : Nat → Bool) (rk : Nat → Nat) (kv : Nat → Value) (i : Nat) (w : World) (kv' : Nat → Value) (w' : World) : Prop where
 fr : aS base n A kv' (F.sub rk (gY F P rk) i) w'
 up : tV n A w w'
 new : ∀ j b, j < n → (kv' j).ownBlock = some b → (kv j).ownBlock = some b ∨ w.heap.size ≤ b
 old : ∀ z, aM F rk i z = false → kv' z = kv z
def Cg (base n : Nat) (A : Nat → Nat) (F : aP) (P : Nat → Bool) (rk : Nat → Nat) (kv : Nat → Value) (i : Nat) (w : World) (e : Ending) (w' : World) : Prop :=
 e = .returned (if al F P rk i then aL A i else .pointer none) ∧ ∃ kv', UI base n A F P rk kv i w kv' w'
structure tW (base n : Nat) (A : Nat → Nat) (F : aP) (P : Nat → Bool) (rk : Nat → Nat) (kv : Nat → Value) (i : Nat) (w : World) (l7 : Nat → Value) (wr : World) (d : Value) (k m : Nat) : Prop where
 fr : aS base n A l7 (F.upto rk (gY F P rk) (F.kids i) k) wr
 up : tV n A w wr
 new : ∀ j b, j < n → (l7 j).ownBlock = some b → (kv j).ownBlock = some b ∨ w.heap.size ≤ b
 old : ∀ z, aM F rk i z = false ∨ z = i → l7 z = kv z
 own : aA w.heap.size 124 wr d ((((F.kids i).take m).filter (al F P rk)).map (aL A))
 far : ∀ b, d.ownBlock = some b → ∀ j, j < n → (l7 j).ownBlock ≠ some b
theorem zm (h : Wf F n rk) (P : Nat → Bool) (L : List Nat) (k : Nat) : Wf (F.upto rk (gY F P rk) L k) n rk := ⟨fun i hi j hj => by
 have hj : j ∈ if _ then _ else _ := hj
 split at hj
 ·exact h.kid i hi j (List.mem_filter.1 hj).1
 ·exact h.kid i hi j hj⟩
theorem aS.ox {G : aP} (h : aS base n A kv F w) (e : ∀ j, j < n → G.nm j = F.nm j ∧ G.old j = F.old j ∧ G.kids j = F.kids j) : aS base n A kv G w :=
 ⟨fun i hi => by rw [(e i hi).1, (e i hi).2.1]; exact h.node i hi, h.lo, h.inj, fun i hi => by rw [(e i hi).2.2]; exact h.own i hi, h.apart, h.alone, fun i hi => by rw [(e i hi).2.2]; exact h.kid i hi⟩
theorem tW.step {l7 PG : Nat → Value} {wr w2 : World} {d : Value} {i k c m : Nat} (hF : aS base n A kv F w) (h : tW base n A F P rk kv i w l7 wr d k m) (hw : Wf F n rk) (hD : oh F n rk i) (hi : i < n) (hc : (F.kids i)[k]? = some c)
  (h2 : UI base n A (F.upto rk (gY F P rk) (F.kids i) k) P rk l7 c wr PG w2) : tW base n A F P rk kv i w PG w2 d (k + 1) m := by
 have nh : c ∈ F.kids i := List.mem_of_getElem? hc
 have cD := (hw.kid i hi c nh).1
 have hz := rF hw (q := gY F P rk) hi hD hc
 have hG := zm hw P (F.kids i) k
 have hsub := pI hw hG cD (Nat.le_refl _) hz
 have hdl : ∀ b, d.ownBlock = some b → w.heap.size ≤ b ∧ b < wr.heap.size := fun b hb => aF h.own hb
 have OT : ∀ b, d.ownBlock = some b → ∀ j, j < n → b ≠ A j := fun b hb j hj e => by have := (hdl b hb).1; have := hF.lt hj; omega
 refine ⟨h2.fr.ox fun z dP => ⟨rfl, rfl, ?_⟩, h.up.trans h2.up, fun j b hj hb => ?_, fun z hz2 => ?_, h.own.eV fun b hb => h2.up.block b (hdl b hb).2 (OT b hb), fun b hb j hj e => ?_⟩
 ·rw [EY hc]
  show _ = if _ then _ else _
  rw [hsub]
  split
  ·rename_i hs
   show List.filter (al F P rk) (F.kids z) = List.filter (al (F.upto rk (gY F P rk) (F.kids i) k) P rk) ((F.upto rk (gY F P rk) (F.kids i) k).kids z)
   rw [hz z hs]
   refine List.filter_congr fun k hk => ?_
   exact (Ls hw hG (hw.kid z dP k hk).1 (Nat.le_refl _) fun u hu => hz u (dV hw cD (Nat.le_refl _) hs (bz hw dP hk hu))).symm
  ·rfl
 ·rcases h2.new j b hj hb with e | e
  ·exact h.new j b hj e
  ·exact .inr (Nat.le_trans h.up.size e)
 ·rw [h2.old z ?_]
  ·exact h.old z hz2
  ·rw [hsub]
   rcases hz2 with e | e
   ·cases hs : aM F rk c z with
    | false => rfl
    | true => rw [bz hw hi nh hs] at e; cases e
   ·subst e; exact o9 hw hi nh
 ·rcases h2.new j b hj e with e2 | e2
  ·exact h.far b hb j hj e2
  ·have := (hdl b hb).2; omega
theorem Ag {f : Nat → Bool} {L : List Nat} {k c : Nat} (hc : L[k]? = some c) : (L.take (k + 1)).filter f = (L.take k).filter f ++ if f c then [c] else [] := by
 rw [List.take_add_one, hc, List.filter_append]
 cases h : f c <;> simp [h]
theorem tW.skip {l7 : Nat → Value} {wr : World} {d : Value} {i k c : Nat} (h : tW base n A F P rk kv i w l7 wr d (k + 1) k) (hc : (F.kids i)[k]? = some c) (ha : al F P rk c = false) : tW base n A F P rk kv i w l7 wr d (k + 1) (k + 1) :=
 ⟨h.fr, h.up, h.new, h.old, by rw [Ag hc, ha]; simpa using h.own, h.far⟩
theorem tW.push {l7 : Nat → Value} {wr w3 : World} {d : Value} {i k c g m cap : Nat} (hF : aS base n A kv F w) (h : tW base n A F P rk kv i w l7 wr d (k + 1) k) (hc : (F.kids i)[k]? = some c) (ha : al F P rk c = true)
  (ho : aA w.heap.size 124 w3 (.slice (some ⟨g, 0, none⟩) m cap) ((((F.kids i).take k).filter (al F P rk)).map (aL A) ++ [aL A c])) (hg : wr.grownBy w3 d.ownBlock) (hr : d.ownBlock = some g ∨ wr.heap.size ≤ g) :
  tW base n A F P rk kv i w l7 w3 (.slice (some ⟨g, 0, none⟩) m cap) (k + 1) (k + 1) := by
 have hdl : ∀ b, d.ownBlock = some b → w.heap.size ≤ b ∧ b < wr.heap.size := fun b hb => aF h.own hb
 have OT : ∀ j, j < n → some (A j) ≠ d.ownBlock := fun j hj e => by have := (hdl _ e.symm).1; have := hF.lt hj; omega
 refine ⟨h.fr.same (fun j hj => hg.block _ (h.fr.lt hj) (OT j hj)) (fun j b hj hb => hg.block _ (h.fr.ep hj hb).2 fun e => h.far b e.symm j hj hb), ?_, h.new, h.old, by rw [Ag hc, ha, if_pos rfl, List.map_append]; exact ho, fun b hb j hj e => ?_⟩
 ·refine ⟨hg.os.trans h.up.os, hg.tape.trans h.up.tape, hg.output.trans h.up.output, Nat.le_trans h.up.size hg.size, fun b hb hA => ?_⟩
  exact (hg.block b (Nat.lt_of_lt_of_le hb h.up.size) fun e => by have := (hdl b e.symm).1; omega).trans (h.up.block b hb hA)
 ·have hb : some g = some b := hb
  injection hb with hb
  subst hb
  rcases hr with e2 | e2
  ·exact h.far g e2 j hj e
  ·have := (h.fr.ep hj e).2; omega
theorem tW.done {l7 : Nat → Value} {wr : World} {d : Value} {i : Nat} (hF : aS base n A kv F w) (h : tW base n A F P rk kv i w l7 wr d (F.kids i).length (F.kids i).length) (hw : Wf F n rk) (hi : i < n) (hb : base ≤ w.heap.size) :
  UI base n A F P rk kv i w (upd l7 i d) (wr.setCell ⟨A i, 1, none⟩ d) := by
 have hdl : ∀ b, d.ownBlock = some b → w.heap.size ≤ b ∧ b < wr.heap.size := fun b hb => aF h.own hb
 have hown : aA base 124 wr d ((gY F P rk i).map (aL A)) := by have := h.own.tQ hb; rw [List.take_length] at this; exact this
 have h1 := h.fr.putF hi hown (fun b hb j hj e => by have := (hdl b hb).1; have := hF.lt hj; omega) h.far (fun j hj => (hw.kid i hi j (List.mem_filter.1 hj).1).1)
 refine ⟨h1.ox fun z hz => ⟨rfl, rfl, ?_⟩, ?_, fun j b hj hb => ?_, fun z hz => ?_⟩
 ·show _ = upd _ i _ z
  by_cases e : z = i
  ·subst e; rw [upd_same]
   show (if _ then _ else _) = _
   rw [if_pos (aN hw hi)]
  ·rw [upd_ne _ _ e]; exact (Io hw hi e).symm
 ·refine ⟨h.up.os, h.up.tape, h.up.output, by rw [World.size_setCell]; exact h.up.size, fun b hb hA => ?_⟩
  rw [blk_setCell_other _ _ _ _ (hA i hi)]; exact h.up.block b hb hA
 ·by_cases e : j = i
  ·subst e; rw [upd_same] at hb; exact .inr (hdl b hb).1
  ·rw [upd_ne _ _ e] at hb; exact h.new j b hj hb
 ·have : z ≠ i := fun e => by subst e; rw [aN hw hi] at hz; cases hz
  rw [upd_ne _ _ this]; exact h.old z (.inl hz)
end
end
section
open Go.RowKit Go.Deep
def yF (a b : ByteArray) : Bool := Op.bytesLess a.toList b.toList
def ji (a b : ByteArray) : ByteArray := if (yF a b || a.toList == b.toList) = true then a else b
mutual
def lstR : RT → ByteArray
 | .node nm [] => nm
 | .node _ (k :: ks) => lstRs (lstR k) ks
def lstRs (s : ByteArray) : List RT → ByteArray
 | [] => s
 | r :: rs => lstRs (ji s (lstR r)) rs
end
theorem EZ (s : ByteArray) : ∀ (a b : List RT), lstRs s (a ++ b) = lstRs (lstRs s a) b
 | [], _ => by rw [lstRs]; rfl
 | r :: a, b => by rw [List.cons_append, lstRs, lstRs]; exact EZ _ a b
theorem M9 {s : ByteArray} {rs : List RT} {j : Nat} (h : j < rs.length) : lstRs s (rs.take (j + 1)) = ji (lstRs s (rs.take j)) (lstR (gr rs j)) := by
 have hg : gr rs j = rs[j] := by simp [gr, h]
 rw [List.take_succ_eq_append_getElem h, EZ, lstRs, lstRs, hg]
theorem KD {P : Program} {w : World} (ts : Array TypeId) (t : TypeId) (x y : ByteArray) : (Builtin.min_ ts t #[.string x, .string y]).run P w = .ok (.string (ji x y)) w := by
 unfold ji yF
 simp [Builtin.min_, Builtin.min2, Op.stringOp, asBool]
theorem rW {ks : List RT} {j : Nat} (h : j < ks.length) : aI (gr ks j) ≤ sizeRs ks := by
 induction ks generalizing j with
 | nil => simp at h
 | cons k ks ih =>
  rw [sizeRs]
  cases j with
  | zero => show aI k ≤ _; omega
  | succ j =>
   have := ih (j := j) (by simpa using h)
   show aI (gr ks j) ≤ _
   omega
theorem oy : ∀ ks : List RT, ks.length ≤ sizeRs ks
 | [] => Nat.le_refl _
 | k :: ks => by
  have := oy ks
  have := gW k
  rw [sizeRs, List.length_cons]; omega
set_option maxHeartbeats 2000000 in
theorem Iu (S : Nat → Prop) : ∀ (d : Nat) (r : RT), aI r ≤ d → d ≤ 1000000 → ∀ (w : World) (v : Value), RAt S w r v → Calls Tryz.prog 261 #[v] w fun e w' => e = .returned (.string (lstR r)) ∧ w = w' := by
 intro d
 induction d with
 | zero => intro r hr; have := gW r; omega
 | succ d ih =>
 intro r hr hd w v hv
 cases r with
 | node nm ks =>
  obtain ⟨b, kp, kc, vs, rfl, hS, c0, c1, hk, hs⟩ := hv.open
  simp only [RT.nm, RT.kids] at c0 c1 hk hs
  have dY := oy ks
  rw [aI] at hr
  have iG : Hid (∀ j, j < ks.length → Calls Tryz.prog 261 #[vN vs j] w fun e w' => e = .returned (.string (lstR (gr ks j))) ∧ w = w') := fun j hj => by
   have := rW hj
   exact ih _ (by omega) (by omega) w _ (RsAt.get ks hs j hj)
  have HK := aa hk
  clear ih hv hS hs hk
  cases ks with
  | nil =>
   clear hr
   go_enter Tryz.func261, Tryz.ntmps261
   go_wp2_with fail
   go_ret
   exact ⟨rfl, rfl⟩
  | cons k0 rs =>
   obtain ⟨kb, ko, rfl, hc0⟩ := oo HK.out (show 0 < (k0 :: rs).length by simp)
   have d0 : (((k0 :: rs).length : Int) == 0) = false := by simp; omega
   have hpos : (0 : Int) < ((k0 :: rs).length : Int) := by rw [List.length_cons]; omega
   have HL : Hid (lstR (.node nm (k0 :: rs)) = lstRs (lstR k0) rs) := by unfold Hid; rw [lstR]
   have H0 : Hid (Calls Tryz.prog 261 #[vN vs 0] w fun e w' => e = .returned (.string (lstR k0)) ∧ w = w') := iG.out 0 (by simp)
   have dF : Hid ((k0 :: rs).length = rs.length + 1) := List.length_cons
   have kr : Hid ((k0 :: rs).length ≤ 1000000) := by unfold Hid; omega
   rw [Nat.add_zero] at hc0
   clear hr
   generalize (k0 :: rs).length = n at *
   go_enter Tryz.func261, Tryz.ntmps261
   go_wp2_with fail
   refine H0.out.mono ?_
   rintro e w' ⟨rfl, rfl⟩
   go_wp2_with fail
   go_loop [3, 4] (fun a i => ∃ j : Nat, j ≤ rs.length ∧ i = .int .i64 (j + 1 : Nat) ∧ a = .string (lstRs (lstR k0) (rs.take j))) (fun _ i => n - (intOf i).toNat)
   case atStart => exact ⟨0, Nat.zero_le _, rfl, by rw [List.take_zero, lstRs]⟩
   case round =>
    obtain ⟨j, hj, rfl, rfl⟩ := hrel
    by_cases hlt : j < rs.length
    ·obtain ⟨kb2, ko2, e2, xx⟩ := oo HK.out (show j + 1 < n by have := dF.out; omega)
     injection e2 with e2
     injection e2 with e3 e4
     subst e3; subst e4
     have HJ : Hid (Calls Tryz.prog 261 #[vN vs (j + 1)] w fun e w' => e = .returned (.string (lstR (gr rs j))) ∧ w = w') := iG.out (j + 1) (by have := dF.out; omega)
     have HT := aa (M9 (s := lstR k0) hlt)
     have i1 : (0 : Int) ≤ ((j + 1 : Nat) : Int) := by omega
     have i2 : ((j + 1 : Nat) : Int) < (n : Int) := by have := dF.out; omega
     have i3 : ((j + 1 : Nat) : Int) < 1000000 := by have := dF.out; have := kr.out; omega
     have aY := aa hlt
     have hmin := fun ts t => KD (P := Tryz.prog) (w := w) ts t (lstRs (lstR k0) (rs.take j)) (lstR (gr rs j))
     generalize hm : j + 1 = m at *
     clear hlt hj hc0
     go_wp2_with fail
     refine HJ.out.mono ?_
     rintro e w' ⟨rfl, rfl⟩
     go_wp2_with fail
     go_round
     case rel => exact ⟨m, by have := aY.out; omega, by go_num, by rw [HT.out]⟩
     case measure => have := aY.out; have := dF.out; simp [intOf]; omega
    ·obtain rfl : j = rs.length := by omega
     have d1 : decide (((rs.length + 1 : Nat) : Int) < (n : Int)) = false := by simp; have := dF.out; omega
     have hnl : ¬ (((rs.length + 1 : Nat) : Int) < (n : Int)) := by have := dF.out; omega
     have eT := aa hnl
     go_wp2_with fail
     go_ret
     exact ⟨by rw [HL.out]; rfl, rfl⟩
end
end Go.Proofs.YteegefnjnikngaaGreat
