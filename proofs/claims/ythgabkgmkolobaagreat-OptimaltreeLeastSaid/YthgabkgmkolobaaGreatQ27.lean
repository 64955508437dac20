/- Parse: what its loop keeps in memory. Valid trees and their texts, plain: what the .. -/
import Derived.Test.YthgabkgmkolobaaGreatQ24
import Derived.Test.YthgabkgmkolobaaGreatQ25
import Derived.Test.YthgabkgmkolobaaGreatQ13
import Derived.Test.YthgabkgmkolobaaGreatQ2
import Derived.StillTail
import Derived.Laws.IdiomStrings
import Derived.Sort.OwnSorted
import Derived.Shelf.Slices.In.SortNone
import Derived.Shelf.SlGeneric
import Derived.Shelf.Lays
import Derived.Shelf.Sort.Plain
import Derived.Ground.NamesProg
import Derived.Test.YthgabkgmkolobaaGreatProg
import Derived.Test.YthgabkgmkolobaaGreatQ26
import Derived.Test.YthgabkgmkolobaaGreatQ6
import Derived.Test.YthgabkgmkolobaaGreatQ3
import Derived.Test.YthgabkgmkolobaaGreatQ21
import Derived.Test.YthgabkgmkolobaaGreatQ1
import Derived.Test.YthgabkgmkolobaaGreatQ22
set_option maxRecDepth 100000
namespace Go.Proofs.YthgabkgmkolobaaGreat
section
open Go.RowKit Go.Deep
structure jk (base : Nat) (s : ByteArray) (R : Option RT) (w0 : World) (top k : Nat) (b : Bool) (ov : Value) (wr : World) (n : Nat) (A : Nat → Nat) (kv : Nat → Value) (F : aT) (o : Nat) (os : List Nat) (Z : List RT) (st : List (List RT)) (f : Nat) : Prop where
 fr : bq base n A kv F wr
 a0 : A 0 = top
 zf : kF F n (o :: os) (Z :: st)
 own : aC base 119 wr ov ((o :: os).reverse.map (bu A))
 tY : ∀ g, ov.ownBlock = some g → ∀ j, j < n → g ≠ A j
 sk : ∀ g, ov.ownBlock = some g → ∀ j, j < n → (kv j).ownBlock ≠ some g
 last : (o :: os).getLast? = some 0
 nk : n ≤ k + 1
 ol : os.length ≤ k
 ZB : b = true → Z ≠ []
 run : pz f (s.data.toList.drop k) (Z :: st) b = R
 fuel : s.size < f + k
 up : Below base w0 wr
def B5 (base : Nat) (s : ByteArray) (R : Option RT) (w0 : World) (top k : Nat) (b : Bool) (ov : Value) (wr : World) : Prop :=
 ∃ n A kv F o os Z st f, jk base s R w0 top k b ov wr n A kv F o os Z st f
section
variable {base : Nat} {s : ByteArray} {R : Option RT} {w0 wr w' : World} {top k n f o : Nat} {b : Bool} {ov : Value} {A : Nat → Nat} {kv : Nat → Value} {F : aT} {os : List Nat} {Z : List RT} {st : List (List RT)}
theorem jk.U5 (h : jk base s R w0 top k b ov wr n A kv F o os Z st f) {g : Nat} (hg : ov.ownBlock = some g) : base ≤ g ∧ g < wr.heap.size := aF h.own hg
theorem jk.row (h : jk base s R w0 top k b ov wr n A kv F o os Z st f) : ∃ g cap, ov = .slice (some ⟨g, 0, none⟩) (os.length + 1) cap ∧ os.length + 1 ≤ cap ∧ wr.cell? ⟨g, os.length, none⟩ = some (.pointer (some ⟨A o, 0, none⟩)) := by
 obtain ⟨q, cap, hv, hq⟩ := h.own.form (n := os.length + 1) (by simp)
 obtain ⟨g, rfl⟩ : ∃ g, q = some ⟨g, 0, none⟩ := by
  rcases hq with rfl | h2
  ·obtain ⟨_, h3 | ⟨g, _, _, h3, _⟩⟩ := h.own
   ·have := h3.2; simp at this
   ·rw [hv] at h3; cases h3
  ·exact h2
 have ho := h.own
 rw [hv] at ho
 have hcm : os.length + 1 ≤ cap := by
  rcases ho.2 with ⟨e, _⟩ | ⟨g2, dw, cur, e, _, _, hn, _⟩
  ·cases e
  ·have e3 : cap = dw := (Value.slice.inj e).2.2
   rw [e3]; simpa using hn
 refine ⟨g, cap, hv, hcm, (EM ho ?_).1⟩
 rw [List.getElem?_map, List.reverse_cons, List.getElem?_append_right (by simp)]
 simp [bu]
structure U6 (base : Nat) (w0 : World) (top : Nat) (ov : Value) (n : Nat) (A' : Nat → Nat) (kv' : Nat → Value) (G : aT) (ol : List Nat) (W : World) : Prop where
 fr : bq base (n + 1) A' kv' G W
 a0 : A' 0 = top
 own : aC base 119 W ov (ol.reverse.map (bu A'))
 tY : ∀ g, ov.ownBlock = some g → ∀ j, j < n + 1 → g ≠ A' j
 sk : ∀ g, ov.ownBlock = some g → ∀ j, j < n + 1 → (kv' j).ownBlock ≠ some g
 up : Below base w0 W
theorem jk.node (h : jk base s R w0 top k b ov wr n A kv F o os Z st f) (nm : ByteArray) {g m cap : Nat} (rI : base ≤ wr.heap.size)
  (hv : aC base 119 w' (.slice (some ⟨g, 0, none⟩) m cap) ((F.kids o).map (bu A) ++ [.pointer (some ⟨wr.heap.size, 0, none⟩)]))
  (hg : (wr.alloc (.cells #[.string nm, .slice none 0 0, .int .i64 0] 122)).grownBy w' (kv o).ownBlock) (hr : (kv o).ownBlock = some g ∨ wr.heap.size + 1 ≤ g) :
  ∃ A' kv', A' n = wr.heap.size ∧ U6 base w0 top ov n A' kv' (iQ F n o nm) (o :: os) (w'.setCell ⟨A o, 1, none⟩ (.slice (some ⟨g, 0, none⟩) m cap)) := by
 have ho := h.zf.on
 have hon : o ≠ n := by omega
 have h1 := h.fr.Ay rI nm 0
 have hAo : upd A n wr.heap.size o = A o := upd_ne _ _ hon
 have ZC : upd kv n (.slice none 0 0) o = kv o := upd_ne _ _ hon
 have hmap : ∀ l : List Nat, (∀ k ∈ l, k < n) → l.map (bu (upd A n wr.heap.size)) = l.map (bu A) := fun l hl => by
  refine List.map_congr_left fun k hk => ?_
  have := hl k hk
  unfold bu; rw [upd_ne _ _ (by omega)]
 have hsz : (wr.alloc (.cells #[.string nm, .slice none 0 0, .int .i64 0] 122)).heap.size = wr.heap.size + 1 := World.size_alloc _ _
 have h2 := h1.push (k := o) (c := n) (v := .slice (some ⟨g, 0, none⟩) m cap) (by omega) (by omega)
  (by
   show aC _ _ _ _ ((upd F.kids n [] o ++ [n]).map _)
   rw [upd_ne _ _ hon, List.map_append, hmap _ (h.fr.kid o ho)]
   show aC _ _ _ _ (_ ++ [bu (upd A n wr.heap.size) n])
   unfold bu; rw [upd_same]; exact hv) (by rw [ZC]; exact hg) (fun b2 hb2 => by cases hb2; rw [ZC, hsz]; exact hr)
 rw [hAo] at h2
 have h0n : 0 < n := by omega
 have hovb : ∀ g2, ov.ownBlock = some g2 → w'.heap[g2]? = wr.heap[g2]? := fun g2 hg2 => by
  have hl := (h.U5 hg2).2
  rw [hg.block g2 (by rw [hsz]; omega) (fun e => h.sk g2 hg2 o ho e.symm)]
  exact blk_alloc_lt _ _ _ hl
 refine ⟨_, _, upd_same _ _ _, h2.Zj fun j hj => ⟨rfl, rfl, ?_⟩, by rw [upd_ne _ _ (by omega)]; exact h.a0, ?_, fun g2 hg2 j hj => ?_, fun g2 hg2 j hj => ?_, ?_⟩
 ·show upd (upd F.kids n []) o (F.kids o ++ [n]) j = upd (upd F.kids n []) o (upd F.kids n [] o ++ [n]) j
  rw [upd_ne F.kids _ hon]
 ·rw [hmap _ (fun k hk => h.zf.opn k (List.mem_reverse.1 hk))]
  refine h.own.same fun g2 hg2 => ?_
  rw [blk_setCell_other _ _ _ _ (h.tY g2 hg2 o ho)]
  exact hovb g2 hg2
 ·by_cases e : j = n
  ·subst e; rw [upd_same]; have := (h.U5 hg2).2; omega
  ·rw [upd_ne _ _ e]; exact h.tY g2 hg2 j (by omega)
 ·by_cases e : j = o
  ·subst e; rw [upd_same]
   intro e2
   have e2 : g = g2 := by cases e2; rfl
   rcases hr with h3 | h3
   ·exact h.sk g2 hg2 j ho (by rw [h3, e2])
   ·have := (h.U5 hg2).2; omega
  ·rw [upd_ne _ _ e]
   by_cases e2 : j = n
   ·subst e2; rw [upd_same]; intro e3; cases e3
   ·rw [upd_ne _ _ e2]; exact h.sk g2 hg2 j (by omega)
 ·have ha : Below base wr (wr.alloc (.cells #[.string nm, .slice none 0 0, .int .i64 0] 122)) := (Below.refl _ _).alloc rI _
  have hb2 : Below base (wr.alloc (.cells #[.string nm, .slice none 0 0, .int .i64 0] 122)) w' := ((h.fr.own o ho).alloc _).dy hg (by rw [hsz]; omega)
  exact ((h.up.trans ha).trans hb2).setCell (p := ⟨A o, 1, none⟩) (h.fr.lo o ho) _
theorem jk.store (h : jk base s R w0 top k b ov wr n A kv F o os Z st f) {ob : Obj} (hg : (wr.alloc ob).grownBy w' (kv o).ownBlock) :
  w'.cell? ⟨A o, 1, none⟩ = some (kv o) ∧ w'.frozen? ⟨A o, 1, none⟩ = false := by
 have ho := h.zf.on
 have hlt := h.fr.lt ho
 have h1 : w'.heap[A o]? = wr.heap[A o]? := by
  rw [hg.block _ (by rw [World.size_alloc]; omega) (fun e => h.fr.apart o o ho ho e.symm)]
  exact blk_alloc_lt _ _ _ hlt
 constructor
 ·simp only [World.cell?, h1]; exact h.fr.qo ho
 ·simp only [World.frozen?, h1]; exact h.fr.thaw ho 1
theorem jk.ZE (h : jk base s R w0 top k b ov wr n A kv F o os Z st f) : ((F.kids o).map (bu A)).length = (F.kids o).length ∧ (F.kids o).length ≤ 1000000 := by
 refine ⟨List.length_map _, ?_⟩
 have := oI (h.zf.nd o h.zf.on) (fun x hx => (h.zf.kid o h.zf.on x hx).2)
 have := h.zf.big
 omega
theorem jk.leaf (h : jk base s R w0 top k b ov wr n A kv F o os Z st f) (hb : n < 2000) {W : World} {A' : Nat → Nat} {kv' : Nat → Value} {nm : ByteArray} {k' f' : Nat} (hk : k + 1 ≤ k') (hN : U6 base w0 top ov n A' kv' (iQ F n o nm) (o :: os) W)
  (hrun : pz f' (s.data.toList.drop k') ((Z ++ [.node nm []]) :: st) true = R) (hf : s.size < f' + k') : B5 base s R w0 top k' true ov W :=
 ⟨_, _, _, _, _, _, _, _, _, ⟨hN.fr, hN.a0, h.zf.leaf nm hb, hN.own, hN.tY, hN.sk, h.last, (by have := h.nk; omega), (by have := h.ol; omega), (fun _ => by simp), hrun, hf, hN.up⟩⟩
theorem jk.opened (h : jk base s R w0 top k b ov wr n A kv F o os Z st f) (hb : n < 2000) {W : World} {A' : Nat → Nat} {kv' : Nat → Value} {f' g m cap : Nat} (hN : U6 base w0 top ov n A' kv' (iQ F n o ByteArray.empty) (o :: os) W) (rI : base ≤ W.heap.size)
  (hv : aC base 119 w' (.slice (some ⟨g, 0, none⟩) m cap) ((o :: os).reverse.map (bu A') ++ [bu A' n])) (hg : W.grownBy w' ov.ownBlock) (hr : ov.ownBlock = some g ∨ W.heap.size ≤ g)
  (hrun : pz f' (s.data.toList.drop (k + 1)) ([] :: Z :: st) false = R) (hf : s.size < f' + (k + 1)) : B5 base s R w0 top (k + 1) false (.slice (some ⟨g, 0, none⟩) m cap) w' := by
 have hold : ∀ b2, b2 < W.heap.size → (∀ g2, ov.ownBlock = some g2 → b2 ≠ g2) → w'.heap[b2]? = W.heap[b2]? := fun b2 hb2 hne => hg.block b2 hb2 fun e => hne b2 e.symm rfl
 refine ⟨_, _, _, _, _, _, _, _, _, ⟨hN.fr.same (fun i hi => hold _ (hN.fr.lt hi) fun g2 hg2 e => hN.tY g2 hg2 i hi e.symm) (fun i b2 hi hb2 => hold _ (hN.fr.gu hi hb2).2 fun g2 hg2 e => hN.sk g2 hg2 i hi (by rw [hb2, e])), hN.a0, h.zf.open hb, ?_, fun g2 hg2 j hj => ?_, fun g2 hg2 j hj => ?_, ?_, (by have := h.nk; omega), (by have := h.ol; simp; omega), (fun e => by cases e), hrun, hf, hN.up.trans (hN.own.dy hg rI)⟩⟩
 ·rw [List.reverse_cons, List.map_append]; exact hv
 ·have hg2 : some g = some g2 := hg2
  injection hg2 with hg2; subst hg2
  rcases hr with h1 | h1
  ·exact hN.tY g h1 j hj
  ·have := hN.fr.lt hj; omega
 ·have hg2 : some g = some g2 := hg2
  injection hg2 with hg2; subst hg2
  intro e
  rcases hr with h1 | h1
  ·exact hN.sk g h1 j hj e
  ·have := (hN.fr.gu hj e).2; omega
 ·rw [List.getLast?_cons_cons]; exact h.last
theorem jk.ZF {q : Nat} {Y : List RT} {st2 : List (List RT)} {os2 : List Nat} (h : jk base s R w0 top k b ov wr n A kv F o (q :: os2) Z (Y :: st2) f) {g cap f' : Nat} (U7 : ov = .slice (some ⟨g, 0, none⟩) (os2.length + 2) cap)
  (hrun : pz f' (s.data.toList.drop (k + 1)) ((Y ++ [.node ByteArray.empty Z]) :: st2) true = R) (hf : s.size < f' + (k + 1)) : B5 base s R w0 top (k + 1) true (.slice (some ⟨g, 0, none⟩) (os2.length + 1) cap) wr := by
 subst U7
 refine ⟨_, _, _, _, _, _, _, _, _, ⟨h.fr, h.a0, h.zf.pop, ?_, h.tY, h.sk, ?_, (by have := h.nk; omega), (by have := h.ol; simp at this; omega), (fun _ => by simp), hrun, hf, h.up⟩⟩
 ·have h1 := Py h.own (m := os2.length + 1) (by omega)
  have e : ((o :: q :: os2).reverse.map (bu A)).take (os2.length + 1) = (q :: os2).reverse.map (bu A) := by
   rw [List.reverse_cons, List.map_append, List.take_append_of_le_length (by simp)]
   rw [List.take_of_length_le (by simp)]
  rw [e] at h1; exact h1
 ·have := h.last
  rw [List.getLast?_cons_cons] at this; exact this
theorem jk.comma (h : jk base s R w0 top k b ov wr n A kv F o os Z st f) {f' : Nat} (hrun : pz f' (s.data.toList.drop (k + 1)) (Z :: st) false = R) (hf : s.size < f' + (k + 1)) : B5 base s R w0 top (k + 1) false ov wr :=
 ⟨_, _, _, _, _, _, _, _, _, ⟨h.fr, h.a0, h.zf, h.own, h.tY, h.sk, h.last, (by have := h.nk; omega), (by have := h.ol; omega), (fun e => by cases e), hrun, hf, h.up⟩⟩
theorem jk.drew (h : jk base s R w0 top k b ov wr n A kv F o os Z st f) : jk base s R w0 top k b ov wr.drew n A kv F o os Z st f :=
 ⟨h.fr.up (Up.drewN wr 1), h.a0, h.zf, h.own.same fun _ _ => rfl, h.tY, h.sk, h.last, h.nk, h.ol, h.ZB, h.run, h.fuel, h.up.drew⟩
theorem jk.ZG (h : jk base s R w0 top k b ov wr n A kv F o os Z st f) (hu : Up wr w') : jk base s R w0 top k b ov w' n A kv F o os Z st f :=
 ⟨h.fr.up hu, h.a0, h.zf, h.own.same fun _ hg => Below.block hu _ (h.U5 hg).2, h.tY, h.sk, h.last, h.nk, h.ol, h.ZB, h.run, h.fuel, h.up.trans (hu.mono (Nat.le_trans (h.fr.lo 0 (by have := h.zf.on; omega)) (Nat.le_of_lt (h.fr.lt (i := 0) (by have := h.zf.on; omega)))))⟩
theorem jk.step (h : jk base s R w0 top k b ov wr n A kv F o os Z st f) (hk : k < s.size) : ∃ f' ch, f = f' + 1 ∧ s.size < f' + (k + 1) ∧ s.data.toList.drop k = ch :: s.data.toList.drop (k + 1) ∧ s[k] = ch := by
 have hf := h.fuel
 refine ⟨f - 1, s[k], by omega, by omega, ?_, rfl⟩
 have hl : k < s.data.toList.length := by rw [Array.length_toList]; exact hk
 rw [List.drop_eq_getElem_cons hl]
 congr 1
end
theorem SG (w1 : World) (s : ByteArray) : B5 w1.heap.size s (iU s.data.toList) w1 w1.heap.size 0 false (.slice (some ⟨w1.heap.size + 1, 0, none⟩) 1 1)
  ((w1.alloc (.cells #[.string ⟨#[]⟩, .slice none 0 0, .int .i64 0] 122)).alloc (.cells #[.pointer (some ⟨w1.heap.size, 0, none⟩)] 119)) := by
 have hs1 : (w1.alloc (.cells #[.string ⟨#[]⟩, .slice none 0 0, .int .i64 0] 122)).heap.size = w1.heap.size + 1 := World.size_alloc _ _
 have h1 := ((bq.empty w1.heap.size (fun _ => w1.heap.size) (fun _ => .slice none 0 0) ⟨fun _ => ⟨#[]⟩, fun _ => 0, fun _ => []⟩ w1).Ay (Nat.le_refl _) ⟨#[]⟩ 0).up (Up.alloc _ (.cells #[.pointer (some ⟨w1.heap.size, 0, none⟩)] 119))
 have h0 : ∀ j, j < 1 → j = 0 := fun j hj => by omega
 have hA : ∀ j, j < 0 + 1 → upd (fun _ => w1.heap.size) 0 w1.heap.size j = w1.heap.size := fun j hj => by rw [h0 j hj, upd_same]
 have hown : aC w1.heap.size 119 ((w1.alloc (.cells #[.string ⟨#[]⟩, .slice none 0 0, .int .i64 0] 122)).alloc (.cells #[.pointer (some ⟨w1.heap.size, 0, none⟩)] 119)) (.slice (some ⟨w1.heap.size + 1, 0, none⟩) 1 1) (([0] : List Nat).reverse.map (bu (upd (fun _ => w1.heap.size) 0 w1.heap.size))) := by
  have hb := blk_alloc_new (w1.alloc (.cells #[.string ⟨#[]⟩, .slice none 0 0, .int .i64 0] 122)) (.cells #[.pointer (some ⟨w1.heap.size, 0, none⟩)] 119)
  rw [hs1] at hb
  exact ⟨rfl, .inr ⟨w1.heap.size + 1, 1, _, rfl, by omega, hb, ⟨by simp, by unfold maxLen; omega, rfl, by simp [bu, upd_same]⟩⟩⟩
 refine ⟨0 + 1, _, _, _, 0, [], [], [], s.data.toList.length + 1, ⟨h1, upd_same _ _ _, ?_, hown, fun g hg j hj => ?_, fun g hg j hj => ?_, rfl, Nat.le_refl _, Nat.zero_le _, (fun e => by cases e), rfl, ?_, ((Up.alloc w1 _).trans (Up.alloc _ _))⟩⟩
 ·refine ⟨by omega, fun i hi k hk => ?_, fun p q k hp hq _ _ => by omega, fun i hi => ?_, ⟨?_, ⟨[], ?_, rfl⟩, trivial⟩, fun o ho => by simp at ho; omega, by simp⟩
  ·rw [h0 i hi] at hk
   have hk : k ∈ upd (fun _ => ([] : List Nat)) 0 [] 0 := hk
   rw [upd_same] at hk; cases hk
  ·rw [h0 i hi]
   show (upd (fun _ => ([] : List Nat)) 0 [] 0).Nodup
   rw [upd_same]; exact List.nodup_nil
  ·show (upd (fun _ => (⟨#[]⟩ : ByteArray)) 0 ⟨#[]⟩ 0).size = 0
   rw [upd_same]; rfl
  ·show upd (fun _ => ([] : List Nat)) 0 [] 0 = _
   rw [upd_same]; rfl
 ·have hg : some (w1.heap.size + 1) = some g := hg
  injection hg with hg
  rw [hA j hj]; omega
 ·rw [h0 j hj, upd_same]; intro e; cases e
 ·rw [Array.length_toList]
  show s.data.size < _
  omega
end
section
theorem ZH {c : UInt8} (h : qz c = true) : c ∉ bF := fun hm => by
 simp only [bF, List.mem_cons, List.not_mem_nil, or_false] at hm
 rcases hm with rfl | rfl | rfl | rfl <;> exact absurd h (by decide)
theorem SH {s : ByteArray} (h : aY s.data.toList = true) : s.data.toList ≠ [] ∧ ∀ c ∈ s.data.toList, c ∉ bF := by
 generalize s.data.toList = l at h ⊢
 unfold aY at h
 have key : ∀ l : List UInt8, dS l = true → l ≠ [] ∧ ∀ c ∈ l, c ∉ bF := fun l h => by
  unfold dS at h
  simp only [Bool.and_eq_true, decide_eq_true_eq, List.all_eq_true] at h
  exact ⟨fun e => by rw [e] at h; simp at h, fun c hc => ZH (h.2 c hc)⟩
 by_cases e : l.getLast? = some 42
 ·rw [if_pos e] at h
  simp only [Bool.and_eq_true] at h
  obtain ⟨h1, h2⟩ := key _ h.1
  have hl : l ≠ [] := fun e2 => by subst e2; cases e
  refine ⟨hl, fun c hc => ?_⟩
  rw [← List.dropLast_concat_getLast hl, List.mem_append, List.mem_singleton] at hc
  rcases hc with hc | hc
  ·exact h2 c hc
  ·rw [List.getLast?_eq_some_getLast hl] at e
   have e := Option.some.inj e
   rw [hc, e]; decide
 ·rw [if_neg e] at h; exact key l h
theorem fK.jb {r : RT} (h : fK r) : kG r := fun s hs => ⟨h.wY s hs, fun hk => SH (h.lf s hs hk)⟩
section
variable {t : ay}
theorem PC (h : az t = 0) : si t = txR (fO t) ++ [59] := by unfold si; rw [if_neg (by simp [h])]
theorem Ic (h : az t = 0) : ∀ (d j : Nat), j ≤ d → j < t.ps.length → l5 t.ps 0 j = true
 | d, j, hd, hj => by
  by_cases h0 : j = 0
  ·subst h0; exact AX 0
  ·obtain ⟨_, _, _, hok, _⟩ := aD h
   have hp := oT hok hj (by omega)
   rw [oU hok hj (by omega)]
   cases d with
   | zero => omega
   | succ d => exact Ic h d _ (by omega) (by omega)
theorem B6 (h : az t = 0) : (bK (ew t) (cu t) 0).Perm (List.range t.ps.length) := by
 have h0 := (aD h).1
 refine (List.perm_ext_iff_of_nodup (jg (dz h) (fun i _ => uD t i) h0 (Nat.le_refl _)) List.nodup_range).2 fun j => ?_
 rw [List.mem_range]
 constructor
 ·exact gU h
 ·intro hj
  refine (dV (dz h).wf h0 (Nat.le_refl _)).2 ?_
  rw [Dc h _ 0 j (Nat.le_refl _) h0 hj]
  exact Ic h j j (Nat.le_refl _) hj
theorem V9 (h : az t = 0) : (cM (fO t)).Perm t.ns := by
 rw [K6 h]
 have hl := (aD h).2.2.1
 have h1 := (B6 h).map (gs t.ns)
 rw [← hl, Sn] at h1
 exact h1
theorem qV (h : az t = 0) : (cg (fO t)).Perm (kV t.ns) := (V9 h).filter _
theorem B7 {nm : ByteArray} (h : nm.size ≠ 0) : cg (.node nm []) = [nm] := by
 unfold cg
 rw [cM, dg]
 exact List.filter_eq_self.2 fun x hx => decide_eq_true (by rw [List.mem_singleton.1 hx]; exact h)
theorem Lr : ∀ a b : List UInt8, Lib.compareBytes a b ≤ 0 ↔ a ≤ b
 | [], b => by
  cases b with
  | nil => simp [Lib.compareBytes]
  | cons y b => simp [Lib.compareBytes]
 | x :: a, [] => by simp [Lib.compareBytes]
 | x :: a, y :: b => by
  rw [Lib.compareBytes, List.cons_le_cons_iff]
  have ih := Lr a b
  by_cases h1 : x < y
  ·simp [h1]
  ·by_cases h2 : y < x
   ·have : x ≠ y := by rintro rfl; exact h1 h2
    simp [h1, h2, this]
   ·have : x = y := by
     apply UInt8.toNat.inj
     rw [UInt8.lt_iff_toNat_lt] at h1 h2; omega
    subst this
    simp [ih]
end
end
end Go.Proofs.YthgabkgmkolobaaGreat
