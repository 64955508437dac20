/- slices.IndexFunc and ContainsFunc at ints with a function that draws. Lists of splits: ordered, each once. Plain. Trees whose nodes stand for nested sets of names: valid, without one-child nodes; their parts. Plain. The root of a rerooted tree, plain. strings.IndexAny: laid Parse: what its loop keeps in memory. -/
import Derived.Test.YtpjijbophjdgaaaGreatQ2
import Derived.Test.YtpjijbophjdgaaaGreatQ3
import Derived.Test.YtpjijbophjdgaaaGreatQ44
import Derived.Test.YtpjijbophjdgaaaGreatQ26
import Derived.Shelf.SlGeneric
import Derived.Shelf.Strings.IndexAnyAll
import Derived.Ground.NamesProg
import Derived.Ground.Names2Prog
import Derived.Test.YtpjijbophjdgaaaGreatProg
import Derived.Test.YtpjijbophjdgaaaGreatQ38
import Derived.Test.YtpjijbophjdgaaaGreatQ36
import Derived.Test.YtpjijbophjdgaaaGreatQ13
import Derived.Test.YtpjijbophjdgaaaGreatQ29
namespace Go.Proofs.YtpjijbophjdgaaaGreat
open Go.RowKit Go.Deep
end Go.Proofs.YtpjijbophjdgaaaGreat
namespace Go.Proofs.YtpjijbophjdgaaaGreat
end Go.Proofs.YtpjijbophjdgaaaGreat
namespace Go.Proofs.YtpjijbophjdgaaaGreat
section
variable {names : List ByteArray} {t : Tre} {S : Nat → List Int}
end
end Go.Proofs.YtpjijbophjdgaaaGreat
namespace Go.Proofs.YtpjijbophjdgaaaGreat
section
variable {t : Tre} {leaf : Nat}
end
end Go.Proofs.YtpjijbophjdgaaaGreat
namespace Go.Proofs
open Go.Shelf
def Tryz.idxA_ren : Go.Shelf.Ren := ⟨fun | 153 => 114 | 152 => 178 | 226 => 179 | 227 => 180 | 228 => 181 | 137 => 208 | 119 => 209 | 224 => 210 | 225 => 211 | 217 => 233 | 266 => 248 | n => n, fun | 9 => 9 | 3 => 3 | 4 => 4 | 5 => 5 | 21 => 21 | 117 => 201 | 116 => 200 | 0 => 0 | 46 => 106 | 124 => 226 | n => n, fun | n => n⟩
theorem Tryz.idxA : Go.Proofs.Lays.n153 Tryz.prog Tryz.idxA_ren := {
  mixed := by kernel_rfl
  f119 := Tryz.func209.trans (congrArg some (by kernel_rfl))
  f137 := Tryz.func208.trans (congrArg some (by kernel_rfl))
  f152 := Tryz.func178.trans (congrArg some (by kernel_rfl))
  f153 := Tryz.func114.trans (congrArg some (by kernel_rfl))
  f217 := Tryz.func233.trans (congrArg some (by kernel_rfl))
  f224 := Tryz.func210.trans (congrArg some (by kernel_rfl))
  f225 := Tryz.func211.trans (congrArg some (by kernel_rfl))
  f226 := Tryz.func179.trans (congrArg some (by kernel_rfl))
  f227 := Tryz.func180.trans (congrArg some (by kernel_rfl))
  f228 := Tryz.func181.trans (congrArg some (by kernel_rfl))
  f266 := Tryz.func248.trans (congrArg some (by kernel_rfl))
  t0 := Tryz.underlying0
  a0 := Tryz.isAgg0
  z0 := Tryz.sizeOf0
  v0 := Tryz.zeroValue0
  t3 := Tryz.underlying3
  a3 := Tryz.isAgg3
  z3 := Tryz.sizeOf3
  v3 := Tryz.zeroValue3
  t4 := Tryz.underlying4
  a4 := Tryz.isAgg4
  z4 := Tryz.sizeOf4
  v4 := Tryz.zeroValue4
  t5 := Tryz.underlying5
  a5 := Tryz.isAgg5
  z5 := Tryz.sizeOf5
  v5 := Tryz.zeroValue5
  t9 := Tryz.underlying9
  a9 := Tryz.isAgg9
  z9 := Tryz.sizeOf9
  v9 := Tryz.zeroValue9
  t21 := Tryz.underlying21
  a21 := Tryz.isAgg21
  z21 := Tryz.sizeOf21
  v21 := Tryz.zeroValue21
  t46 := Tryz.underlying106
  a46 := Tryz.isAgg106
  z46 := Tryz.sizeOf106
  v46 := Tryz.zeroValue106
  t116 := Tryz.underlying200
  a116 := Tryz.isAgg200
  z116 := Tryz.sizeOf200
  t117 := Tryz.underlying201
  a117 := Tryz.isAgg201
  z117 := Tryz.sizeOf201
  v117 := Tryz.zeroValue201
  t124 := Tryz.underlying226
  a124 := Tryz.isAgg226
  z124 := Tryz.sizeOf226
  v124 := Tryz.zeroValue226 }
end Go.Proofs
namespace Go.Proofs.YtpjijbophjdgaaaGreat
open Go.RowKit Go.Deep
structure PaM (base : Nat) (s : ByteArray) (R : Option RT) (w0 : World) (top k : Nat) (b : Bool) (ov : Value) (wr : World) (n : Nat) (A : Nat → Nat) (kv : Nat → Value) (F : Frs) (o : Nat) (os : List Nat) (Z : List RT) (st : List (List RT)) (f : Nat) : Prop where
  fr : FAt base n A kv F wr
  a0 : A 0 = top
  zf : PzF F n (o :: os) (Z :: st)
  own : Owns base 113 wr ov ((o :: os).reverse.map (nptr A))
  farA : ∀ g, ov.ownBlock = some g → ∀ j, j < n → g ≠ A j
  farK : ∀ g, ov.ownBlock = some g → ∀ j, j < n → (kv j).ownBlock ≠ some g
  last : (o :: os).getLast? = some 0
  nk : n ≤ k + 1
  ol : os.length ≤ k
  dnz : b = true → Z ≠ []
  run : pz f (s.data.toList.drop k) (Z :: st) b = R
  fuel : s.size < f + k
  up : Below base w0 wr
def PaS (base : Nat) (s : ByteArray) (R : Option RT) (w0 : World) (top k : Nat) (b : Bool) (ov : Value) (wr : World) : Prop :=
  ∃ n A kv F o os Z st f, PaM base s R w0 top k b ov wr n A kv F o os Z st f
section
variable {base : Nat} {s : ByteArray} {R : Option RT} {w0 wr w' : World} {top k n f o : Nat} {b : Bool} {ov : Value} {A : Nat → Nat} {kv : Nat → Value} {F : Frs} {os : List Nat} {Z : List RT} {st : List (List RT)}
theorem PaM.ovl (h : PaM base s R w0 top k b ov wr n A kv F o os Z st f) {g : Nat} (hg : ov.ownBlock = some g) : base ≤ g ∧ g < wr.heap.size := ownBlock_lt h.own hg
theorem PaM.row (h : PaM base s R w0 top k b ov wr n A kv F o os Z st f) : ∃ g cap, ov = .slice (some ⟨g, 0, none⟩) (os.length + 1) cap ∧ os.length + 1 ≤ cap ∧ wr.cell? ⟨g, os.length, none⟩ = some (.pointer (some ⟨A o, 0, none⟩)) := by
  obtain ⟨q, cap, hv, hq⟩ := h.own.form (n := os.length + 1) (by simp)
  obtain ⟨g, rfl⟩ : ∃ g, q = some ⟨g, 0, none⟩ := by
    rcases hq with rfl | h2
    · obtain ⟨_, h3 | ⟨g, _, _, h3, _⟩⟩ := h.own
      · have := h3.2; simp at this
      · rw [hv] at h3; cases h3
    · exact h2
  have ho := h.own
  rw [hv] at ho
  have hcm : os.length + 1 ≤ cap := by
    rcases ho.2 with ⟨e, _⟩ | ⟨g2, cap2, cur, e, _, _, hn, _⟩
    · cases e
    · have e3 : cap = cap2 := (Value.slice.inj e).2.2
      rw [e3]; simpa using hn
  refine ⟨g, cap, hv, hcm, (owns_cell ho ?_).1⟩
  rw [List.getElem?_map, List.reverse_cons, List.getElem?_append_right (by simp)]
  simp [nptr]
structure PaN (base : Nat) (w0 : World) (top : Nat) (ov : Value) (n : Nat) (A' : Nat → Nat) (kv' : Nat → Value) (G : Frs) (ol : List Nat) (W : World) : Prop where
  fr : FAt base (n + 1) A' kv' G W
  a0 : A' 0 = top
  own : Owns base 113 W ov (ol.reverse.map (nptr A'))
  farA : ∀ g, ov.ownBlock = some g → ∀ j, j < n + 1 → g ≠ A' j
  farK : ∀ g, ov.ownBlock = some g → ∀ j, j < n + 1 → (kv' j).ownBlock ≠ some g
  up : Below base w0 W
theorem PaM.node (h : PaM base s R w0 top k b ov wr n A kv F o os Z st f) (nm : ByteArray) {g m cap : Nat} (hbs : base ≤ wr.heap.size)
    (hv : Owns base 113 w' (.slice (some ⟨g, 0, none⟩) m cap) ((F.kids o).map (nptr A) ++ [.pointer (some ⟨wr.heap.size, 0, none⟩)]))
    (hg : (wr.alloc (.cells #[.string nm, .slice none 0 0, .int .i64 0] 115)).grownBy w' (kv o).ownBlock) (hr : (kv o).ownBlock = some g ∨ wr.heap.size + 1 ≤ g) :
    ∃ A' kv', A' n = wr.heap.size ∧ PaN base w0 top ov n A' kv' (addF F n o nm) (o :: os) (w'.setCell ⟨A o, 1, none⟩ (.slice (some ⟨g, 0, none⟩) m cap)) := by
  have ho := h.zf.on
  have hon : o ≠ n := by omega
  have h1 := h.fr.node_new hbs nm 0
  have hAo : upd A n wr.heap.size o = A o := upd_ne _ _ hon
  have hkvo : upd kv n (.slice none 0 0) o = kv o := upd_ne _ _ hon
  have hmap : ∀ l : List Nat, (∀ k ∈ l, k < n) → l.map (nptr (upd A n wr.heap.size)) = l.map (nptr A) := fun l hl => by
    refine List.map_congr_left fun k hk => ?_
    have := hl k hk
    unfold nptr; rw [upd_ne _ _ (by omega)]
  have hsz : (wr.alloc (.cells #[.string nm, .slice none 0 0, .int .i64 0] 115)).heap.size = wr.heap.size + 1 := World.size_alloc _ _
  have h2 := h1.push (k := o) (c := n) (v := .slice (some ⟨g, 0, none⟩) m cap) (by omega) (by omega)
    (by
      show Owns _ _ _ _ ((upd F.kids n [] o ++ [n]).map _)
      rw [upd_ne _ _ hon, List.map_append, hmap _ (h.fr.kid o ho)]
      show Owns _ _ _ _ (_ ++ [nptr (upd A n wr.heap.size) n])
      unfold nptr; rw [upd_same]; exact hv) (by rw [hkvo]; exact hg) (fun b2 hb2 => by cases hb2; rw [hkvo, hsz]; exact hr)
  rw [hAo] at h2
  have h0n : 0 < n := by omega
  have hovb : ∀ g2, ov.ownBlock = some g2 → w'.heap[g2]? = wr.heap[g2]? := fun g2 hg2 => by
    have hl := (h.ovl hg2).2
    rw [hg.block g2 (by rw [hsz]; omega) (fun e => h.farK g2 hg2 o ho e.symm)]
    exact blk_alloc_lt _ _ _ hl
  refine ⟨_, _, upd_same _ _ _, h2.congr2 fun j hj => ⟨rfl, rfl, ?_⟩, by rw [upd_ne _ _ (by omega)]; exact h.a0, ?_, fun g2 hg2 j hj => ?_, fun g2 hg2 j hj => ?_, ?_⟩
  · show upd (upd F.kids n []) o (F.kids o ++ [n]) j = upd (upd F.kids n []) o (upd F.kids n [] o ++ [n]) j
    rw [upd_ne F.kids _ hon]
  · rw [hmap _ (fun k hk => h.zf.opn k (List.mem_reverse.1 hk))]
    refine h.own.same fun g2 hg2 => ?_
    rw [blk_setCell_other _ _ _ _ (h.farA g2 hg2 o ho)]
    exact hovb g2 hg2
  · by_cases e : j = n
    · subst e; rw [upd_same]; have := (h.ovl hg2).2; omega
    · rw [upd_ne _ _ e]; exact h.farA g2 hg2 j (by omega)
  · by_cases e : j = o
    · subst e; rw [upd_same]
      intro e2
      have e2 : g = g2 := by cases e2; rfl
      rcases hr with h3 | h3
      · exact h.farK g2 hg2 j ho (by rw [h3, e2])
      · have := (h.ovl hg2).2; omega
    · rw [upd_ne _ _ e]
      by_cases e2 : j = n
      · subst e2; rw [upd_same]; intro e3; cases e3
      · rw [upd_ne _ _ e2]; exact h.farK g2 hg2 j (by omega)
  · have ha : Below base wr (wr.alloc (.cells #[.string nm, .slice none 0 0, .int .i64 0] 115)) := (Below.refl _ _).alloc hbs _
    have hb2 : Below base (wr.alloc (.cells #[.string nm, .slice none 0 0, .int .i64 0] 115)) w' := ((h.fr.own o ho).alloc _).grown_below hg (by rw [hsz]; omega)
    exact ((h.up.trans ha).trans hb2).setCell (p := ⟨A o, 1, none⟩) (h.fr.lo o ho) _
theorem PaM.store (h : PaM base s R w0 top k b ov wr n A kv F o os Z st f) {ob : Obj} (hg : (wr.alloc ob).grownBy w' (kv o).ownBlock) :
    w'.cell? ⟨A o, 1, none⟩ = some (kv o) ∧ w'.frozen? ⟨A o, 1, none⟩ = false := by
  have ho := h.zf.on
  have hlt := h.fr.lt ho
  have h1 : w'.heap[A o]? = wr.heap[A o]? := by
    rw [hg.block _ (by rw [World.size_alloc]; omega) (fun e => h.fr.apart o o ho ho e.symm)]
    exact blk_alloc_lt _ _ _ hlt
  constructor
  · simp only [World.cell?, h1]; exact h.fr.kidv ho
  · simp only [World.frozen?, h1]; exact h.fr.thaw ho 1
theorem PaM.klen (h : PaM base s R w0 top k b ov wr n A kv F o os Z st f) : ((F.kids o).map (nptr A)).length = (F.kids o).length ∧ (F.kids o).length ≤ 1000000 := by
  refine ⟨List.length_map _, ?_⟩
  have := nodup_le (h.zf.nd o h.zf.on) (fun x hx => (h.zf.kid o h.zf.on x hx).2)
  have := h.zf.big
  omega
theorem PaM.leaf (h : PaM base s R w0 top k b ov wr n A kv F o os Z st f) (hb : n < 2000) {W : World} {A' : Nat → Nat} {kv' : Nat → Value} {nm : ByteArray} {k' f' : Nat} (hk : k + 1 ≤ k') (hN : PaN base w0 top ov n A' kv' (addF F n o nm) (o :: os) W)
    (hrun : pz f' (s.data.toList.drop k') ((Z ++ [.node nm []]) :: st) true = R) (hf : s.size < f' + k') : PaS base s R w0 top k' true ov W :=
  ⟨_, _, _, _, _, _, _, _, _, ⟨hN.fr, hN.a0, h.zf.leaf nm hb, hN.own, hN.farA, hN.farK, h.last, (by have := h.nk; omega), (by have := h.ol; omega), (fun _ => by simp), hrun, hf, hN.up⟩⟩
theorem PaM.opened (h : PaM base s R w0 top k b ov wr n A kv F o os Z st f) (hb : n < 2000) {W : World} {A' : Nat → Nat} {kv' : Nat → Value} {f' g m cap : Nat} (hN : PaN base w0 top ov n A' kv' (addF F n o ByteArray.empty) (o :: os) W) (hbs : base ≤ W.heap.size)
    (hv : Owns base 113 w' (.slice (some ⟨g, 0, none⟩) m cap) ((o :: os).reverse.map (nptr A') ++ [nptr A' n])) (hg : W.grownBy w' ov.ownBlock) (hr : ov.ownBlock = some g ∨ W.heap.size ≤ g)
    (hrun : pz f' (s.data.toList.drop (k + 1)) ([] :: Z :: st) false = R) (hf : s.size < f' + (k + 1)) : PaS base s R w0 top (k + 1) false (.slice (some ⟨g, 0, none⟩) m cap) w' := by
  have hold : ∀ b2, b2 < W.heap.size → (∀ g2, ov.ownBlock = some g2 → b2 ≠ g2) → w'.heap[b2]? = W.heap[b2]? := fun b2 hb2 hne => hg.block b2 hb2 fun e => hne b2 e.symm rfl
  refine ⟨_, _, _, _, _, _, _, _, _, ⟨hN.fr.same (fun i hi => hold _ (hN.fr.lt hi) fun g2 hg2 e => hN.farA g2 hg2 i hi e.symm) (fun i b2 hi hb2 => hold _ (hN.fr.ownlt hi hb2).2 fun g2 hg2 e => hN.farK g2 hg2 i hi (by rw [hb2, e])), hN.a0, h.zf.open hb, ?_, fun g2 hg2 j hj => ?_, fun g2 hg2 j hj => ?_, ?_, (by have := h.nk; omega), (by have := h.ol; simp; omega), (fun e => by cases e), hrun, hf, hN.up.trans (hN.own.grown_below hg hbs)⟩⟩
  · rw [List.reverse_cons, List.map_append]; exact hv
  · have hg2 : some g = some g2 := hg2
    injection hg2 with hg2; subst hg2
    rcases hr with h1 | h1
    · exact hN.farA g h1 j hj
    · have := hN.fr.lt hj; omega
  · have hg2 : some g = some g2 := hg2
    injection hg2 with hg2; subst hg2
    intro e
    rcases hr with h1 | h1
    · exact hN.farK g h1 j hj e
    · have := (hN.fr.ownlt hj e).2; omega
  · rw [List.getLast?_cons_cons]; exact h.last
theorem PaM.popped {q : Nat} {Y : List RT} {st2 : List (List RT)} {os2 : List Nat} (h : PaM base s R w0 top k b ov wr n A kv F o (q :: os2) Z (Y :: st2) f) {g cap f' : Nat} (hov : ov = .slice (some ⟨g, 0, none⟩) (os2.length + 2) cap)
    (hrun : pz f' (s.data.toList.drop (k + 1)) ((Y ++ [.node ByteArray.empty Z]) :: st2) true = R) (hf : s.size < f' + (k + 1)) : PaS base s R w0 top (k + 1) true (.slice (some ⟨g, 0, none⟩) (os2.length + 1) cap) wr := by
  subst hov
  refine ⟨_, _, _, _, _, _, _, _, _, ⟨h.fr, h.a0, h.zf.pop, ?_, h.farA, h.farK, ?_, (by have := h.nk; omega), (by have := h.ol; simp at this; omega), (fun _ => by simp), hrun, hf, h.up⟩⟩
  · have h1 := owns_take h.own (m := os2.length + 1) (by omega)
    have e : ((o :: q :: os2).reverse.map (nptr A)).take (os2.length + 1) = (q :: os2).reverse.map (nptr A) := by
      rw [List.reverse_cons, List.map_append, List.take_append_of_le_length (by simp)]
      rw [List.take_of_length_le (by simp)]
    rw [e] at h1; exact h1
  · have := h.last
    rw [List.getLast?_cons_cons] at this; exact this
theorem PaM.comma (h : PaM base s R w0 top k b ov wr n A kv F o os Z st f) {f' : Nat} (hrun : pz f' (s.data.toList.drop (k + 1)) (Z :: st) false = R) (hf : s.size < f' + (k + 1)) : PaS base s R w0 top (k + 1) false ov wr :=
  ⟨_, _, _, _, _, _, _, _, _, ⟨h.fr, h.a0, h.zf, h.own, h.farA, h.farK, h.last, (by have := h.nk; omega), (by have := h.ol; omega), (fun e => by cases e), hrun, hf, h.up⟩⟩
theorem PaM.drew (h : PaM base s R w0 top k b ov wr n A kv F o os Z st f) : PaM base s R w0 top k b ov wr.drew n A kv F o os Z st f :=
  ⟨h.fr.up (Up.drewN wr 1), h.a0, h.zf, h.own.same fun _ _ => rfl, h.farA, h.farK, h.last, h.nk, h.ol, h.dnz, h.run, h.fuel, h.up.drew⟩
theorem PaM.keepUp (h : PaM base s R w0 top k b ov wr n A kv F o os Z st f) (hu : Up wr w') : PaM base s R w0 top k b ov w' n A kv F o os Z st f :=
  ⟨h.fr.up hu, h.a0, h.zf, h.own.same fun _ hg => Below.block hu _ (h.ovl hg).2, h.farA, h.farK, h.last, h.nk, h.ol, h.dnz, h.run, h.fuel, h.up.trans (hu.mono (Nat.le_trans (h.fr.lo 0 (by have := h.zf.on; omega)) (Nat.le_of_lt (h.fr.lt (i := 0) (by have := h.zf.on; omega)))))⟩
theorem PaM.step (h : PaM base s R w0 top k b ov wr n A kv F o os Z st f) (hk : k < s.size) : ∃ f' ch, f = f' + 1 ∧ s.size < f' + (k + 1) ∧ s.data.toList.drop k = ch :: s.data.toList.drop (k + 1) ∧ s[k] = ch := by
  have hf := h.fuel
  refine ⟨f - 1, s[k], by omega, by omega, ?_, rfl⟩
  have hl : k < s.data.toList.length := by rw [Array.length_toList]; exact hk
  rw [List.drop_eq_getElem_cons hl]
  congr 1
end
theorem pa_start (w1 : World) (s : ByteArray) : PaS w1.heap.size s (paR s.data.toList) w1 w1.heap.size 0 false (.slice (some ⟨w1.heap.size + 1, 0, none⟩) 1 1)
    ((w1.alloc (.cells #[.string ⟨#[]⟩, .slice none 0 0, .int .i64 0] 115)).alloc (.cells #[.pointer (some ⟨w1.heap.size, 0, none⟩)] 113)) := by
  have hs1 : (w1.alloc (.cells #[.string ⟨#[]⟩, .slice none 0 0, .int .i64 0] 115)).heap.size = w1.heap.size + 1 := World.size_alloc _ _
  have h1 := ((FAt.empty w1.heap.size (fun _ => w1.heap.size) (fun _ => .slice none 0 0) ⟨fun _ => ⟨#[]⟩, fun _ => 0, fun _ => []⟩ w1).node_new (Nat.le_refl _) ⟨#[]⟩ 0).up (Up.alloc _ (.cells #[.pointer (some ⟨w1.heap.size, 0, none⟩)] 113))
  have h0 : ∀ j, j < 1 → j = 0 := fun j hj => by omega
  have hA : ∀ j, j < 0 + 1 → upd (fun _ => w1.heap.size) 0 w1.heap.size j = w1.heap.size := fun j hj => by rw [h0 j hj, upd_same]
  have hown : Owns w1.heap.size 113 ((w1.alloc (.cells #[.string ⟨#[]⟩, .slice none 0 0, .int .i64 0] 115)).alloc (.cells #[.pointer (some ⟨w1.heap.size, 0, none⟩)] 113)) (.slice (some ⟨w1.heap.size + 1, 0, none⟩) 1 1) (([0] : List Nat).reverse.map (nptr (upd (fun _ => w1.heap.size) 0 w1.heap.size))) := by
    have hb := blk_alloc_new (w1.alloc (.cells #[.string ⟨#[]⟩, .slice none 0 0, .int .i64 0] 115)) (.cells #[.pointer (some ⟨w1.heap.size, 0, none⟩)] 113)
    rw [hs1] at hb
    exact ⟨rfl, .inr ⟨w1.heap.size + 1, 1, _, rfl, by omega, hb, ⟨by simp, by unfold maxLen; omega, rfl, by simp [nptr, upd_same]⟩⟩⟩
  refine ⟨0 + 1, _, _, _, 0, [], [], [], s.data.toList.length + 1, ⟨h1, upd_same _ _ _, ?_, hown, fun g hg j hj => ?_, fun g hg j hj => ?_, rfl, Nat.le_refl _, Nat.zero_le _, (fun e => by cases e), rfl, ?_, ((Up.alloc w1 _).trans (Up.alloc _ _))⟩⟩
  · refine ⟨by omega, fun i hi k hk => ?_, fun p q k hp hq _ _ => by omega, fun i hi => ?_, ⟨?_, ⟨[], ?_, rfl⟩, trivial⟩, fun o ho => by simp at ho; omega, by simp⟩
    · rw [h0 i hi] at hk
      have hk : k ∈ upd (fun _ => ([] : List Nat)) 0 [] 0 := hk
      rw [upd_same] at hk; cases hk
    · rw [h0 i hi]
      show (upd (fun _ => ([] : List Nat)) 0 [] 0).Nodup
      rw [upd_same]; exact List.nodup_nil
    · show (upd (fun _ => (⟨#[]⟩ : ByteArray)) 0 ⟨#[]⟩ 0).size = 0
      rw [upd_same]; rfl
    · show upd (fun _ => ([] : List Nat)) 0 [] 0 = _
      rw [upd_same]; rfl
  · have hg : some (w1.heap.size + 1) = some g := hg
    injection hg with hg
    rw [hA j hj]; omega
  · rw [h0 j hj, upd_same]; intro e; cases e
  · rw [Array.length_toList]
    show s.data.size < _
    omega
end Go.Proofs.YtpjijbophjdgaaaGreat
