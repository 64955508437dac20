/- Parse: what its loop keeps in memory. Rerooting twice, plain. The example of chapter 31, .. -/
import Derived.Test.YteegefnjnikngaaGreatQ1
import Derived.Test.YteegefnjnikngaaGreatQ27
import Derived.Test.YteegefnjnikngaaGreatQ33
import Derived.Test.YteegefnjnikngaaGreatQ16
import Derived.Test.YteegefnjnikngaaGreatQ23
import Derived.Test.YteegefnjnikngaaGreatQ2
import Derived.Test.YteegefnjnikngaaGreatQ4
import Derived.Test.YteegefnjnikngaaGreatQ29
import Derived.Test.YteegefnjnikngaaGreatQ34
import Derived.Test.YteegefnjnikngaaGreatQ30
set_option maxRecDepth 100000
namespace Go.Proofs.YteegefnjnikngaaGreat
section
open Go.RowKit Go.Deep
structure jI (base : Nat) (s : ByteArray) (R : Option RT) (w0 : World) (top k : Nat) (b : Bool) (ov : Value) (wr : World) (n : Nat) (A : Nat → Nat) (kv : Nat → Value) (F : aP) (o : Nat) (os : List Nat) (Z : List RT) (st : List (List RT)) (f : Nat) : Prop where
 fr : aS base n A kv F wr
 a0 : A 0 = top
 zf : kV F n (o :: os) (Z :: st)
 own : aA base 124 wr ov ((o :: os).reverse.map (aL A))
 lD : ∀ g, ov.ownBlock = some g → ∀ j, j < n → g ≠ A j
 ki : ∀ g, ov.ownBlock = some g → ∀ j, j < n → (kv j).ownBlock ≠ some g
 last : (o :: os).getLast? = some 0
 nk : n ≤ k + 1
 ol : os.length ≤ k
 dnz : b = true → Z ≠ []
 run : pz f (s.data.toList.drop k) (Z :: st) b = R
 fuel : s.size < f + k
 up : Below base w0 wr
def CN (base : Nat) (s : ByteArray) (R : Option RT) (w0 : World) (top k : Nat) (b : Bool) (ov : Value) (wr : World) : Prop :=
 ∃ n A kv F o os Z st f, jI base s R w0 top k b ov wr n A kv F o os Z st f
section
variable {base : Nat} {s : ByteArray} {R : Option RT} {w0 wr w' : World} {top k n f o : Nat} {b : Bool} {ov : Value} {A : Nat → Nat} {kv : Nat → Value} {F : aP} {os : List Nat} {Z : List RT} {st : List (List RT)}
theorem jI.Vm (h : jI base s R w0 top k b ov wr n A kv F o os Z st f) {g : Nat} (hg : ov.ownBlock = some g) : base ≤ g ∧ g < wr.heap.size := aF h.own hg
theorem jI.row (h : jI base s R w0 top k b ov wr n A kv F o os Z st f) : ∃ g cap, ov = .slice (some ⟨g, 0, none⟩) (os.length + 1) cap ∧ os.length + 1 ≤ cap ∧ wr.cell? ⟨g, os.length, none⟩ = some (.pointer (some ⟨A o, 0, none⟩)) := by
 obtain ⟨q, cap, hv, hq⟩ := h.own.form (n := os.length + 1) (by simp)
 obtain ⟨g, rfl⟩ : ∃ g, q = some ⟨g, 0, none⟩ := by
  rcases hq with rfl | h2
  ·obtain ⟨_, h3 | ⟨g, _, _, h3, _⟩⟩ := h.own
   ·have := h3.2; simp at this
   ·rw [hv] at h3; cases h3
  ·exact h2
 have ho := h.own
 rw [hv] at ho
 have hcm : os.length + 1 ≤ cap := by
  rcases ho.2 with ⟨e, _⟩ | ⟨g2, dM, cur, e, _, _, hn, _⟩
  ·cases e
  ·have e3 : cap = dM := (Value.slice.inj e).2.2
   rw [e3]; simpa using hn
 refine ⟨g, cap, hv, hcm, (qF ho ?_).1⟩
 rw [List.getElem?_map, List.reverse_cons, List.getElem?_append_right (by simp)]
 simp [aL]
structure Vn (base : Nat) (w0 : World) (top : Nat) (ov : Value) (n : Nat) (A' : Nat → Nat) (kv' : Nat → Value) (G : aP) (ol : List Nat) (W : World) : Prop where
 fr : aS base (n + 1) A' kv' G W
 a0 : A' 0 = top
 own : aA base 124 W ov (ol.reverse.map (aL A'))
 lD : ∀ g, ov.ownBlock = some g → ∀ j, j < n + 1 → g ≠ A' j
 ki : ∀ g, ov.ownBlock = some g → ∀ j, j < n + 1 → (kv' j).ownBlock ≠ some g
 up : Below base w0 W
theorem jI.node (h : jI base s R w0 top k b ov wr n A kv F o os Z st f) (nm : ByteArray) {g m cap : Nat} (nV : base ≤ wr.heap.size)
  (hv : aA base 124 w' (.slice (some ⟨g, 0, none⟩) m cap) ((F.kids o).map (aL A) ++ [.pointer (some ⟨wr.heap.size, 0, none⟩)]))
  (hg : (wr.alloc (.cells #[.string nm, .slice none 0 0, .int .i64 0] 127)).grownBy w' (kv o).ownBlock) (hr : (kv o).ownBlock = some g ∨ wr.heap.size + 1 ≤ g) :
  ∃ A' kv', A' n = wr.heap.size ∧ Vn base w0 top ov n A' kv' (jk F n o nm) (o :: os) (w'.setCell ⟨A o, 1, none⟩ (.slice (some ⟨g, 0, none⟩) m cap)) := by
 have ho := h.zf.on
 have hon : o ≠ n := by omega
 have h1 := h.fr.AP nV nm 0
 have hAo : upd A n wr.heap.size o = A o := upd_ne _ _ hon
 have hkvo : upd kv n (.slice none 0 0) o = kv o := upd_ne _ _ hon
 have hmap : ∀ l : List Nat, (∀ k ∈ l, k < n) → l.map (aL (upd A n wr.heap.size)) = l.map (aL A) := fun l hl => by
  refine List.map_congr_left fun k hk => ?_
  have := hl k hk
  unfold aL; rw [upd_ne _ _ (by omega)]
 have hsz : (wr.alloc (.cells #[.string nm, .slice none 0 0, .int .i64 0] 127)).heap.size = wr.heap.size + 1 := World.size_alloc _ _
 have h2 := h1.push (k := o) (c := n) (v := .slice (some ⟨g, 0, none⟩) m cap) (by omega) (by omega)
  (by
   show aA _ _ _ _ ((upd F.kids n [] o ++ [n]).map _)
   rw [upd_ne _ _ hon, List.map_append, hmap _ (h.fr.kid o ho)]
   show aA _ _ _ _ (_ ++ [aL (upd A n wr.heap.size) n])
   unfold aL; rw [upd_same]; exact hv) (by rw [hkvo]; exact hg) (fun b2 hb2 => by cases hb2; rw [hkvo, hsz]; exact hr)
 rw [hAo] at h2
 have h0n : 0 < n := by omega
 have hovb : ∀ g2, ov.ownBlock = some g2 → w'.heap[g2]? = wr.heap[g2]? := fun g2 hg2 => by
  have hl := (h.Vm hg2).2
  rw [hg.block g2 (by rw [hsz]; omega) (fun e => h.ki g2 hg2 o ho e.symm)]
  exact blk_alloc_lt _ _ _ hl
 refine ⟨_, _, upd_same _ _ _, h2.ox fun j hj => ⟨rfl, rfl, ?_⟩, by rw [upd_ne _ _ (by omega)]; exact h.a0, ?_, fun g2 hg2 j hj => ?_, fun g2 hg2 j hj => ?_, ?_⟩
 ·show upd (upd F.kids n []) o (F.kids o ++ [n]) j = upd (upd F.kids n []) o (upd F.kids n [] o ++ [n]) j
  rw [upd_ne F.kids _ hon]
 ·rw [hmap _ (fun k hk => h.zf.opn k (List.mem_reverse.1 hk))]
  refine h.own.same fun g2 hg2 => ?_
  rw [blk_setCell_other _ _ _ _ (h.lD g2 hg2 o ho)]
  exact hovb g2 hg2
 ·by_cases e : j = n
  ·subst e; rw [upd_same]; have := (h.Vm hg2).2; omega
  ·rw [upd_ne _ _ e]; exact h.lD g2 hg2 j (by omega)
 ·by_cases e : j = o
  ·subst e; rw [upd_same]
   intro e2
   have e2 : g = g2 := by cases e2; rfl
   rcases hr with h3 | h3
   ·exact h.ki g2 hg2 j ho (by rw [h3, e2])
   ·have := (h.Vm hg2).2; omega
  ·rw [upd_ne _ _ e]
   by_cases e2 : j = n
   ·subst e2; rw [upd_same]; intro e3; cases e3
   ·rw [upd_ne _ _ e2]; exact h.ki g2 hg2 j (by omega)
 ·have ha : Below base wr (wr.alloc (.cells #[.string nm, .slice none 0 0, .int .i64 0] 127)) := (Below.refl _ _).alloc nV _
  have hb2 : Below base (wr.alloc (.cells #[.string nm, .slice none 0 0, .int .i64 0] 127)) w' := ((h.fr.own o ho).alloc _).dJ hg (by rw [hsz]; omega)
  exact ((h.up.trans ha).trans hb2).setCell (p := ⟨A o, 1, none⟩) (h.fr.lo o ho) _
theorem jI.store (h : jI base s R w0 top k b ov wr n A kv F o os Z st f) {ob : Obj} (hg : (wr.alloc ob).grownBy w' (kv o).ownBlock) :
  w'.cell? ⟨A o, 1, none⟩ = some (kv o) ∧ w'.frozen? ⟨A o, 1, none⟩ = false := by
 have ho := h.zf.on
 have hlt := h.fr.lt ho
 have h1 : w'.heap[A o]? = wr.heap[A o]? := by
  rw [hg.block _ (by rw [World.size_alloc]; omega) (fun e => h.fr.apart o o ho ho e.symm)]
  exact blk_alloc_lt _ _ _ hlt
 constructor
 ·simp only [World.cell?, h1]; exact h.fr.je ho
 ·simp only [World.frozen?, h1]; exact h.fr.thaw ho 1
theorem jI.klen (h : jI base s R w0 top k b ov wr n A kv F o os Z st f) : ((F.kids o).map (aL A)).length = (F.kids o).length ∧ (F.kids o).length ≤ 1000000 := by
 refine ⟨List.length_map _, ?_⟩
 have := mQ (h.zf.nd o h.zf.on) (fun x hx => (h.zf.kid o h.zf.on x hx).2)
 have := h.zf.big
 omega
theorem jI.leaf (h : jI base s R w0 top k b ov wr n A kv F o os Z st f) (hb : n < 2000) {W : World} {A' : Nat → Nat} {kv' : Nat → Value} {nm : ByteArray} {k' f' : Nat} (hk : k + 1 ≤ k') (hN : Vn base w0 top ov n A' kv' (jk F n o nm) (o :: os) W)
  (hrun : pz f' (s.data.toList.drop k') ((Z ++ [.node nm []]) :: st) true = R) (hf : s.size < f' + k') : CN base s R w0 top k' true ov W :=
 ⟨_, _, _, _, _, _, _, _, _, ⟨hN.fr, hN.a0, h.zf.leaf nm hb, hN.own, hN.lD, hN.ki, h.last, (by have := h.nk; omega), (by have := h.ol; omega), (fun _ => by simp), hrun, hf, hN.up⟩⟩
theorem jI.opened (h : jI base s R w0 top k b ov wr n A kv F o os Z st f) (hb : n < 2000) {W : World} {A' : Nat → Nat} {kv' : Nat → Value} {f' g m cap : Nat} (hN : Vn base w0 top ov n A' kv' (jk F n o ByteArray.empty) (o :: os) W) (nV : base ≤ W.heap.size)
  (hv : aA base 124 w' (.slice (some ⟨g, 0, none⟩) m cap) ((o :: os).reverse.map (aL A') ++ [aL A' n])) (hg : W.grownBy w' ov.ownBlock) (hr : ov.ownBlock = some g ∨ W.heap.size ≤ g)
  (hrun : pz f' (s.data.toList.drop (k + 1)) ([] :: Z :: st) false = R) (hf : s.size < f' + (k + 1)) : CN base s R w0 top (k + 1) false (.slice (some ⟨g, 0, none⟩) m cap) w' := by
 have hold : ∀ b2, b2 < W.heap.size → (∀ g2, ov.ownBlock = some g2 → b2 ≠ g2) → w'.heap[b2]? = W.heap[b2]? := fun b2 hb2 hne => hg.block b2 hb2 fun e => hne b2 e.symm rfl
 refine ⟨_, _, _, _, _, _, _, _, _, ⟨hN.fr.same (fun i hi => hold _ (hN.fr.lt hi) fun g2 hg2 e => hN.lD g2 hg2 i hi e.symm) (fun i b2 hi hb2 => hold _ (hN.fr.ep hi hb2).2 fun g2 hg2 e => hN.ki g2 hg2 i hi (by rw [hb2, e])), hN.a0, h.zf.open hb, ?_, fun g2 hg2 j hj => ?_, fun g2 hg2 j hj => ?_, ?_, (by have := h.nk; omega), (by have := h.ol; simp; omega), (fun e => by cases e), hrun, hf, hN.up.trans (hN.own.dJ hg nV)⟩⟩
 ·rw [List.reverse_cons, List.map_append]; exact hv
 ·have hg2 : some g = some g2 := hg2
  injection hg2 with hg2; subst hg2
  rcases hr with h1 | h1
  ·exact hN.lD g h1 j hj
  ·have := hN.fr.lt hj; omega
 ·have hg2 : some g = some g2 := hg2
  injection hg2 with hg2; subst hg2
  intro e
  rcases hr with h1 | h1
  ·exact hN.ki g h1 j hj e
  ·have := (hN.fr.ep hj e).2; omega
 ·rw [List.getLast?_cons_cons]; exact h.last
theorem jI.popped {q : Nat} {Y : List RT} {st2 : List (List RT)} {os2 : List Nat} (h : jI base s R w0 top k b ov wr n A kv F o (q :: os2) Z (Y :: st2) f) {g cap f' : Nat} (Vo : ov = .slice (some ⟨g, 0, none⟩) (os2.length + 2) cap)
  (hrun : pz f' (s.data.toList.drop (k + 1)) ((Y ++ [.node ByteArray.empty Z]) :: st2) true = R) (hf : s.size < f' + (k + 1)) : CN base s R w0 top (k + 1) true (.slice (some ⟨g, 0, none⟩) (os2.length + 1) cap) wr := by
 subst Vo
 refine ⟨_, _, _, _, _, _, _, _, _, ⟨h.fr, h.a0, h.zf.pop, ?_, h.lD, h.ki, ?_, (by have := h.nk; omega), (by have := h.ol; simp at this; omega), (fun _ => by simp), hrun, hf, h.up⟩⟩
 ·have h1 := E4 h.own (m := os2.length + 1) (by omega)
  have e : ((o :: q :: os2).reverse.map (aL A)).take (os2.length + 1) = (q :: os2).reverse.map (aL A) := by
   rw [List.reverse_cons, List.map_append, List.take_append_of_le_length (by simp)]
   rw [List.take_of_length_le (by simp)]
  rw [e] at h1; exact h1
 ·have := h.last
  rw [List.getLast?_cons_cons] at this; exact this
theorem jI.comma (h : jI base s R w0 top k b ov wr n A kv F o os Z st f) {f' : Nat} (hrun : pz f' (s.data.toList.drop (k + 1)) (Z :: st) false = R) (hf : s.size < f' + (k + 1)) : CN base s R w0 top (k + 1) false ov wr :=
 ⟨_, _, _, _, _, _, _, _, _, ⟨h.fr, h.a0, h.zf, h.own, h.lD, h.ki, h.last, (by have := h.nk; omega), (by have := h.ol; omega), (fun e => by cases e), hrun, hf, h.up⟩⟩
theorem jI.drew (h : jI base s R w0 top k b ov wr n A kv F o os Z st f) : jI base s R w0 top k b ov wr.drew n A kv F o os Z st f :=
 ⟨h.fr.up (Up.drewN wr 1), h.a0, h.zf, h.own.same fun _ _ => rfl, h.lD, h.ki, h.last, h.nk, h.ol, h.dnz, h.run, h.fuel, h.up.drew⟩
theorem jI.keepUp (h : jI base s R w0 top k b ov wr n A kv F o os Z st f) (hu : Up wr w') : jI base s R w0 top k b ov w' n A kv F o os Z st f :=
 ⟨h.fr.up hu, h.a0, h.zf, h.own.same fun _ hg => Below.block hu _ (h.Vm hg).2, h.lD, h.ki, h.last, h.nk, h.ol, h.dnz, h.run, h.fuel, h.up.trans (hu.mono (Nat.le_trans (h.fr.lo 0 (by have := h.zf.on; omega)) (Nat.le_of_lt (h.fr.lt (i := 0) (by have := h.zf.on; omega)))))⟩
theorem jI.step (h : jI base s R w0 top k b ov wr n A kv F o os Z st f) (hk : k < s.size) : ∃ f' ch, f = f' + 1 ∧ s.size < f' + (k + 1) ∧ s.data.toList.drop k = ch :: s.data.toList.drop (k + 1) ∧ s[k] = ch := by
 have hf := h.fuel
 refine ⟨f - 1, s[k], by omega, by omega, ?_, rfl⟩
 have hl : k < s.data.toList.length := by rw [Array.length_toList]; exact hk
 rw [List.drop_eq_getElem_cons hl]
 congr 1
end
theorem Tm (w1 : World) (s : ByteArray) : CN w1.heap.size s (jr s.data.toList) w1 w1.heap.size 0 false (.slice (some ⟨w1.heap.size + 1, 0, none⟩) 1 1)
  ((w1.alloc (.cells #[.string ⟨#[]⟩, .slice none 0 0, .int .i64 0] 127)).alloc (.cells #[.pointer (some ⟨w1.heap.size, 0, none⟩)] 124)) := by
 have hs1 : (w1.alloc (.cells #[.string ⟨#[]⟩, .slice none 0 0, .int .i64 0] 127)).heap.size = w1.heap.size + 1 := World.size_alloc _ _
 have h1 := ((aS.empty w1.heap.size (fun _ => w1.heap.size) (fun _ => .slice none 0 0) ⟨fun _ => ⟨#[]⟩, fun _ => 0, fun _ => []⟩ w1).AP (Nat.le_refl _) ⟨#[]⟩ 0).up (Up.alloc _ (.cells #[.pointer (some ⟨w1.heap.size, 0, none⟩)] 124))
 have h0 : ∀ j, j < 1 → j = 0 := fun j hj => by omega
 have hA : ∀ j, j < 0 + 1 → upd (fun _ => w1.heap.size) 0 w1.heap.size j = w1.heap.size := fun j hj => by rw [h0 j hj, upd_same]
 have hown : aA w1.heap.size 124 ((w1.alloc (.cells #[.string ⟨#[]⟩, .slice none 0 0, .int .i64 0] 127)).alloc (.cells #[.pointer (some ⟨w1.heap.size, 0, none⟩)] 124)) (.slice (some ⟨w1.heap.size + 1, 0, none⟩) 1 1) (([0] : List Nat).reverse.map (aL (upd (fun _ => w1.heap.size) 0 w1.heap.size))) := by
  have hb := blk_alloc_new (w1.alloc (.cells #[.string ⟨#[]⟩, .slice none 0 0, .int .i64 0] 127)) (.cells #[.pointer (some ⟨w1.heap.size, 0, none⟩)] 124)
  rw [hs1] at hb
  exact ⟨rfl, .inr ⟨w1.heap.size + 1, 1, _, rfl, by omega, hb, ⟨by simp, by unfold maxLen; omega, rfl, by simp [aL, upd_same]⟩⟩⟩
 refine ⟨0 + 1, _, _, _, 0, [], [], [], s.data.toList.length + 1, ⟨h1, upd_same _ _ _, ?_, hown, fun g hg j hj => ?_, fun g hg j hj => ?_, rfl, Nat.le_refl _, Nat.zero_le _, (fun e => by cases e), rfl, ?_, ((Up.alloc w1 _).trans (Up.alloc _ _))⟩⟩
 ·refine ⟨by omega, fun i hi k hk => ?_, fun p q k hp hq _ _ => by omega, fun i hi => ?_, ⟨?_, ⟨[], ?_, rfl⟩, trivial⟩, fun o ho => by simp at ho; omega, by simp⟩
  ·rw [h0 i hi] at hk
   have hk : k ∈ upd (fun _ => ([] : List Nat)) 0 [] 0 := hk
   rw [upd_same] at hk; cases hk
  ·rw [h0 i hi]
   show (upd (fun _ => ([] : List Nat)) 0 [] 0).Nodup
   rw [upd_same]; exact List.nodup_nil
  ·show (upd (fun _ => (⟨#[]⟩ : ByteArray)) 0 ⟨#[]⟩ 0).size = 0
   rw [upd_same]; rfl
  ·show upd (fun _ => ([] : List Nat)) 0 [] 0 = _
   rw [upd_same]; rfl
 ·have hg : some (w1.heap.size + 1) = some g := hg
  injection hg with hg
  rw [hA j hj]; omega
 ·rw [h0 j hj, upd_same]; intro e; cases e
 ·rw [Array.length_toList]
  show s.data.size < _
  omega
end
section
theorem Tn {r : RT} {X : ByteArray → Prop} : pX (sortR r) X ↔ pX r X := by
 constructor
 ·rintro ⟨s, hs, hx⟩
  obtain ⟨u, hu, rfl⟩ := List.mem_map.1 ((iW r).mem_iff.1 hs)
  exact ⟨u, hu, fun x => (hx x).trans (lV u).mem_iff⟩
 ·rintro ⟨s, hs, hx⟩
  exact ⟨sortR s, (iW r).mem_iff.2 (List.mem_map_of_mem hs), fun x => (hx x).trans (lV s).mem_iff.symm⟩
theorem di.sub {r s : RT} (h : di r) (hs : s ∈ subR r) : di s :=
 ⟨fun q hq => h.sR q (fH r hs hq), fun q hq => h.lf q (fH r hs hq), (lq hs).nodup h.nd⟩
theorem di.Av {r : RT} (h : di r) : bu (contrR r) = bu r := wQ _ r (Nat.le_refl _) h.sR
theorem Qx {r : RT} (h : di r) {X : ByteArray → Prop} : pX (contrR r) X ↔ pX r X := by
 constructor
 ·rintro ⟨s, hs, hx⟩
  obtain ⟨u, hu, h1, rfl⟩ := qH _ r s (Nat.le_refl _) hs
  refine ⟨u, hu, fun x => (hx x).trans ?_⟩
  have e : contrR u = .node u.nm (u.kids.map contrR) := by
   cases u with
   | node nm ks => exact j9 h1
  rw [← e, (h.sub hu).Av]
 ·rintro ⟨s, hs, hx⟩
  exact ⟨contrR s, Fp _ r s (Nat.le_refl _) hs, fun x => by rw [hx x, (h.sub hs).Av]⟩
theorem fam_le {r : RT} {X : ByteArray → Prop} (h : pX r X) {x : ByteArray} (hx : X x) : x ∈ bu r := by
 obtain ⟨s, hs, e⟩ := h
 exact (lq hs).subset ((e x).1 hx)
section
variable {r q : RT} {a b : ByteArray}
theorem Nw (ha : a ∈ bu r) (hf : ∀ X, pX q X ↔ Tj r a X) : ∀ x, x ∈ bu q ↔ x ∈ bu r := by
 have h1 : ∀ x, x ∈ bu r → x ∈ bu q := fun x hx => fam_le ((hf (fun x => x ∈ bu r)).2 (.inl fun _ => Iff.rfl)) hx
 intro x
 refine ⟨fun hx => ?_, h1 x⟩
 rcases (hf (fun x => x ∈ bu q)).1 ⟨q, jR q, fun _ => Iff.rfl⟩ with h | h | ⟨h, _, _⟩
 ·exact (h x).1 hx
 ·rw [(h x).1 hx]; exact ha
 ·exact absurd (h1 a ha) h
end
section
variable {t : ax} {leaf : Nat}
def jJ (t : ax) (leaf : Nat) : RT := sortR (contrR (yV t leaf))
theorem WE (h : aR t leaf) (X : ByteArray → Prop) : pX (jJ t leaf) X ↔ Tj (dU t) (gs t.ns leaf) X := by
 unfold jJ
 rw [Tn, Qx (pW h).2.1, rr_fam h]
theorem Bh (h : aR t leaf) : di (jJ t leaf) := (wR (pW h).2.1).sort
theorem WG (h : aR t leaf) : aI (yV t leaf) ≤ t.ps.length + 1 :=
 yP (jy (fR h).wf _) (Nat.lt_succ_self _) (pW h).2.1
theorem Jt (h : aR t leaf) : aI (jJ t leaf) ≤ t.ps.length + 1 := by
 unfold jJ
 rw [wH]
 exact Nat.le_trans (lY _) (WG h)
theorem Nx (h : aR t leaf) : (bu (jJ t leaf)).Perm (bu (dU t)) :=
 (List.perm_ext_iff_of_nodup (Bh h).nd (wK h.te).nd).2 (Nw ((lB h.te).2 ⟨leaf, h.lt, h.nm, rfl⟩) (WE h))
theorem Ju : CJ t (leaf : Int) = flat (jJ t leaf) := by unfold CJ jJ; rw [Int.toNat_natCast]
theorem L9 (h : aR t leaf) (h63 : t.ps.length ≤ 63) : az (flat (jJ t leaf)) = 0 ∧ mI t leaf = 0 ∧ xd t leaf = flat (jJ t leaf) := by
 have hs := Jt h
 have he : rR t leaf = 0 := by
  unfold rR
  rw [if_neg (by simp [h.te]), if_neg (by have := h.lt; omega), if_neg (by rw [Int.toNat_natCast]; exact h.nm)]
 have hc : mI t leaf = 0 := by
  unfold mI
  rw [if_neg (by simp [he]), if_neg]
  rw [Ju, jG]; omega
 refine ⟨sS (Bh h) (by omega), hc, ?_⟩
 unfold xd
 rw [if_neg (by simp [hc]), Ju]
end
end
section
end
end Go.Proofs.YteegefnjnikngaaGreat
