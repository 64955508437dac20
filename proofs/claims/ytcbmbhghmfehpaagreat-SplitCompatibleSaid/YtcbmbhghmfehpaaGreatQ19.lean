/- phylotree.pruned: what it does to the forest. slices.IndexFunc, slices.DeleteFunc at nodes. The contract of slices.DeleteFunc at nodes. phylotree.contracted: what it does to the forest. The tree that phylotree.made makes: plain. The tree of a forest whose rose tree is good: plain. The forest that pruned leaves: plain. Reroot: what its loop does to the forest. -/
import Derived.Test.YtcbmbhghmfehpaaGreatQ18
import Derived.Test.YtcbmbhghmfehpaaGreatQ14
import Derived.Test.YtcbmbhghmfehpaaGreatQ15
import Derived.Lib.SliceRun
import Derived.Test.YtcbmbhghmfehpaaGreatQ16
namespace Go.Proofs.YtcbmbhghmfehpaaGreat
open Go.RowKit Go.Deep
section
variable {P : Program} {ops : Array Oper} {rest : List Oper} {o : Oper} {a : Act} {Q : Exit → Act → World → Prop}
/-- 'out = append(out, u)': the block is the old one or a new one. -/
theorem wpList_appG (W : World) (hgd : o.guard = none) (s x : Operand) (t : TypeId) (ho : o.op = .call { callee := .builtin .append, args := #[s, x], argTypes := #[t, t] })
    (base : Nat) (e : TypeId) (z : Value) (bytes : Nat) (ht : P.underlying t = some (.slice e)) (hinfo : (P.info? e).map (fun i => (i.zero, i.size, i.bytes)) = some (some z, 1, bytes))
    (hz1 : z.cells.size = 1) (hb8 : bytes ≤ 64) {v : Value} {vs : List Value} (hown : Owns base e W v vs) (hs : a.eval s = v) (u : Value)
    (hx : a.eval x = .slice (some ⟨W.heap.size, 0, none⟩) 1 1) (h1 : u.oneCell' = true) (k : Nat) (hvn : vs.length = k) (hn : k ≤ 1000000) (hbase : base ≤ W.heap.size)
    (h : ∀ g cap w', Owns base e w' (.slice (some ⟨g, 0, none⟩) (k + 1) cap) (vs ++ [u]) → W.grownBy w' v.ownBlock → (v.ownBlock = some g ∨ W.heap.size ≤ g) → wpList P ops Q rest (a.put o.dst (.slice (some ⟨g, 0, none⟩) (k + 1) cap)) w') :
    wpList P ops Q (o :: rest) a (W.alloc (.cells #[u] e)) := by
  subst hvn
  obtain ⟨i, hi, hzz⟩ := Option.map_eq_some_iff.1 hinfo
  simp only [Prod.mk.injEq] at hzz
  obtain ⟨hz, hs1, hb⟩ := hzz
  refine wpList_append_lies _ hgd s x t ho base e i z 1 bytes ht hi hz hs1 hb hz1 (by omega) v vs.length vs hs (hown.alloc _) ⟨W.heap.size, 0, none⟩ 1 1 [u] hx rfl (cell_one_new _ _ _) (by simpa using h1) (by omega)
    (by unfold maxLen; omega) ?_ (by simp; omega) _ rfl fun g cap w' h2 h3 h4 _ => h g cap w' ?_ (grown_alloc h3) (h4.imp id fun e => by rw [e, World.size_alloc]; omega)
  · have : (vs.length + 1) * bytes ≤ (vs.length + 1) * 64 := Nat.mul_le_mul_left _ hb8
    omega
  · unfold Owns; rw [List.length_append]; exact h2
end
/-- Only blocks of nodes may have changed. -/
structure PUp (n : Nat) (A : Nat → Nat) (w w' : World) : Prop where
  os : w'.os = w.os
  tape : w'.tape = w.tape
  output : w'.output = w.output
  size : w.heap.size ≤ w'.heap.size
  block : ∀ b, b < w.heap.size → (∀ i, i < n → b ≠ A i) → w'.heap[b]? = w.heap[b]?
section
variable {n base : Nat} {A : Nat → Nat} {kv : Nat → Value} {F : Frs} {w w' w2 : World} {P : Nat → Bool} {rk : Nat → Nat}
theorem PUp.refl (n : Nat) (A : Nat → Nat) (w : World) : PUp n A w w := ⟨rfl, rfl, rfl, Nat.le_refl _, fun _ _ _ => rfl⟩
theorem PUp.trans (h : PUp n A w w') (k : PUp n A w' w2) : PUp n A w w2 :=
  ⟨k.os.trans h.os, k.tape.trans h.tape, k.output.trans h.output, Nat.le_trans h.size k.size, fun b hb hA => (k.block b (Nat.lt_of_lt_of_le hb h.size) hA).trans (h.block b hb hA)⟩
theorem PUp.of_up (k : Up w w') : PUp n A w w' := ⟨k.os, k.tape, k.output, k.size, fun b hb _ => Below.block k b hb⟩
theorem PUp.below (h : PUp n A w w') (hlo : ∀ i, i < n → base ≤ A i) (hs : base ≤ w.heap.size) : Below base w w' :=
  ⟨h.os, h.tape, h.output, h.size, fun b hb => h.block b (by omega) fun i hi e => by have := hlo i hi; omega⟩
/-- One list of children is replaced by one that lies apart. -/
theorem FAt.putF (h : FAt base n A kv F w) {k : Nat} (hk : k < n) {v : Value} {ks : List Nat} (hv : Owns base 145 w v (ks.map (nptr A)))
    (hA : ∀ b, v.ownBlock = some b → ∀ i, i < n → b ≠ A i) (hkv : ∀ b, v.ownBlock = some b → ∀ i, i < n → (kv i).ownBlock ≠ some b) (hks : ∀ j ∈ ks, j < n) :
    FAt base n A (upd kv k v) { F with kids := upd F.kids k ks } (w.setCell ⟨A k, 1, none⟩ v) := by
  refine ⟨fun i hi => ?_, h.lo, h.inj, fun i hi => ?_, fun i j hi hj => ?_, fun i j b hi hj h1 h2 => ?_, fun i hi => ?_⟩
  · by_cases e : i = k
    · subst e; rw [upd_same]
      have hn := h.node i hi
      simp [World.setCell, Array.getElem?_modify, hn]
    · rw [upd_ne _ _ e, blk_setCell_other _ _ _ _ (fun e2 => e (h.inj i k hi hk e2))]; exact h.node i hi
  · by_cases e : i = k
    · subst e; simp only [upd_same]; exact hv.same fun b hb => blk_setCell_other _ _ _ _ (hA b hb i hi)
    · simp only [upd_ne _ _ e]; exact (h.own i hi).same fun b hb => blk_setCell_other _ _ _ _ (fun e2 => h.apart i k hi hk (by rw [hb, e2]))
  · by_cases e : i = k
    · subst e; rw [upd_same]; intro h3; exact hA _ h3 j hj rfl
    · rw [upd_ne _ _ e]; exact h.apart i j hi hj
  · by_cases e1 : i = k
    · by_cases e2 : j = k
      · rw [e1, e2]
      · subst e1
        rw [upd_same] at h1
        rw [upd_ne _ _ e2] at h2
        exact absurd h2 (hkv b h1 j hj)
    · by_cases e2 : j = k
      · subst e2
        rw [upd_same] at h2
        rw [upd_ne _ _ e1] at h1
        exact absurd h1 (hkv b h2 i hi)
      · rw [upd_ne _ _ e1] at h1
        rw [upd_ne _ _ e2] at h2
        exact h.alone i j b hi hj h1 h2
  · by_cases e : i = k
    · subst e; simp only [upd_same]; exact hks
    · simp only [upd_ne _ _ e]; exact h.kid i hi
def prQ (F : Frs) (P : Nat → Bool) (rk : Nat → Nat) (z : Nat) : List Nat := (F.kids z).filter (al F P rk)
structure PrD (base n : Nat) (A : Nat → Nat) (F : Frs) (P : Nat → Bool) (rk : Nat → Nat) (kv : Nat → Value) (i : Nat) (w : World) (kv' : Nat → Value) (w' : World) : Prop where
  fr : FAt base n A kv' (F.sub rk (prQ F P rk) i) w'
  up : PUp n A w w'
  new : ∀ j b, j < n → (kv' j).ownBlock = some b → (kv j).ownBlock = some b ∨ w.heap.size ≤ b
  old : ∀ z, subF F rk i z = false → kv' z = kv z
/-- Behind the first k children; m of them are in the list. -/
structure PrW (base n : Nat) (A : Nat → Nat) (F : Frs) (P : Nat → Bool) (rk : Nat → Nat) (kv : Nat → Value) (i : Nat) (w : World) (kvk : Nat → Value) (wr : World) (d : Value) (k m : Nat) : Prop where
  fr : FAt base n A kvk (F.upto rk (prQ F P rk) (F.kids i) k) wr
  up : PUp n A w wr
  new : ∀ j b, j < n → (kvk j).ownBlock = some b → (kv j).ownBlock = some b ∨ w.heap.size ≤ b
  old : ∀ z, subF F rk i z = false ∨ z = i → kvk z = kv z
  own : Owns w.heap.size 145 wr d ((((F.kids i).take m).filter (al F P rk)).map (nptr A))
  far : ∀ b, d.ownBlock = some b → ∀ j, j < n → (kvk j).ownBlock ≠ some b
theorem upto_wf (h : Wf F n rk) (P : Nat → Bool) (L : List Nat) (k : Nat) : Wf (F.upto rk (prQ F P rk) L k) n rk := ⟨fun i hi j hj => by
  have hj : j ∈ if _ then _ else _ := hj
  split at hj
  · exact h.kid i hi j (List.mem_filter.1 hj).1
  · exact h.kid i hi j hj⟩
theorem FAt.congr2 {G : Frs} (h : FAt base n A kv F w) (e : ∀ j, j < n → G.nm j = F.nm j ∧ G.old j = F.old j ∧ G.kids j = F.kids j) : FAt base n A kv G w :=
  ⟨fun i hi => by rw [(e i hi).1, (e i hi).2.1]; exact h.node i hi, h.lo, h.inj, fun i hi => by rw [(e i hi).2.2]; exact h.own i hi, h.apart, h.alone, fun i hi => by rw [(e i hi).2.2]; exact h.kid i hi⟩
/-- The next child is done, and not yet in the list. -/
theorem PrW.step {kvk kv2 : Nat → Value} {wr w2 : World} {d : Value} {i k c m : Nat} (hF : FAt base n A kv F w) (h : PrW base n A F P rk kv i w kvk wr d k m) (hw : Wf F n rk) (hD : Dis F n rk i) (hi : i < n) (hc : (F.kids i)[k]? = some c)
    (h2 : PrD base n A (F.upto rk (prQ F P rk) (F.kids i) k) P rk kvk c wr kv2 w2) : PrW base n A F P rk kv i w kv2 w2 d (k + 1) m := by
  have hck : c ∈ F.kids i := List.mem_of_getElem? hc
  have hcn := (hw.kid i hi c hck).1
  have hz := upto_fresh hw (q := prQ F P rk) hi hD hc
  have hG := upto_wf hw P (F.kids i) k
  have hsub := sub_cong hw hG hcn (Nat.le_refl _) hz
  have hdl : ∀ b, d.ownBlock = some b → w.heap.size ≤ b ∧ b < wr.heap.size := fun b hb => ownBlock_lt h.own hb
  have hnA : ∀ b, d.ownBlock = some b → ∀ j, j < n → b ≠ A j := fun b hb j hj e => by have := (hdl b hb).1; have := hF.lt hj; omega
  refine ⟨h2.fr.congr2 fun z hzn => ⟨rfl, rfl, ?_⟩, h.up.trans h2.up, fun j b hj hb => ?_, fun z hz2 => ?_, h.own.same2 fun b hb => h2.up.block b (hdl b hb).2 (hnA b hb), fun b hb j hj e => ?_⟩
  · rw [upto_succ hc]
    show _ = if _ then _ else _
    rw [hsub]
    split
    · rename_i hs
      show List.filter (al F P rk) (F.kids z) = List.filter (al (F.upto rk (prQ F P rk) (F.kids i) k) P rk) ((F.upto rk (prQ F P rk) (F.kids i) k).kids z)
      rw [hz z hs]
      refine List.filter_congr fun k hk => ?_
      exact (al_cong hw hG (hw.kid z hzn k hk).1 (Nat.le_refl _) fun u hu => hz u (sub_trans hw hcn (Nat.le_refl _) hs (subF_kid hw hzn hk hu))).symm
    · rfl
  · rcases h2.new j b hj hb with e | e
    · exact h.new j b hj e
    · exact .inr (Nat.le_trans h.up.size e)
  · rw [h2.old z ?_]
    · exact h.old z hz2
    · rw [hsub]
      rcases hz2 with e | e
      · cases hs : subF F rk c z with
        | false => rfl
        | true => rw [subF_kid hw hi hck hs] at e; cases e
      · subst e; exact subF_not hw hi hck
  · rcases h2.new j b hj e with e2 | e2
    · exact h.far b hb j hj e2
    · have := (hdl b hb).2; omega
theorem take_filter {f : Nat → Bool} {L : List Nat} {k c : Nat} (hc : L[k]? = some c) : (L.take (k + 1)).filter f = (L.take k).filter f ++ if f c then [c] else [] := by
  rw [List.take_add_one, hc, List.filter_append]
  cases h : f c <;> simp [h]
theorem PrW.skip {kvk : Nat → Value} {wr : World} {d : Value} {i k c : Nat} (h : PrW base n A F P rk kv i w kvk wr d (k + 1) k) (hc : (F.kids i)[k]? = some c) (ha : al F P rk c = false) : PrW base n A F P rk kv i w kvk wr d (k + 1) (k + 1) :=
  ⟨h.fr, h.up, h.new, h.old, by rw [take_filter hc, ha]; simpa using h.own, h.far⟩
/-- It is put into the list. -/
theorem PrW.push {kvk : Nat → Value} {wr w3 : World} {d : Value} {i k c g m cap : Nat} (hF : FAt base n A kv F w) (h : PrW base n A F P rk kv i w kvk wr d (k + 1) k) (hc : (F.kids i)[k]? = some c) (ha : al F P rk c = true)
    (ho : Owns w.heap.size 145 w3 (.slice (some ⟨g, 0, none⟩) m cap) ((((F.kids i).take k).filter (al F P rk)).map (nptr A) ++ [nptr A c])) (hg : wr.grownBy w3 d.ownBlock) (hr : d.ownBlock = some g ∨ wr.heap.size ≤ g) :
    PrW base n A F P rk kv i w kvk w3 (.slice (some ⟨g, 0, none⟩) m cap) (k + 1) (k + 1) := by
  have hdl : ∀ b, d.ownBlock = some b → w.heap.size ≤ b ∧ b < wr.heap.size := fun b hb => ownBlock_lt h.own hb
  have hnA : ∀ j, j < n → some (A j) ≠ d.ownBlock := fun j hj e => by have := (hdl _ e.symm).1; have := hF.lt hj; omega
  refine ⟨h.fr.same (fun j hj => hg.block _ (h.fr.lt hj) (hnA j hj)) (fun j b hj hb => hg.block _ (h.fr.ownlt hj hb).2 fun e => h.far b e.symm j hj hb), ?_, h.new, h.old, by rw [take_filter hc, ha, if_pos rfl, List.map_append]; exact ho, fun b hb j hj e => ?_⟩
  · refine ⟨hg.os.trans h.up.os, hg.tape.trans h.up.tape, hg.output.trans h.up.output, Nat.le_trans h.up.size hg.size, fun b hb hA => ?_⟩
    exact (hg.block b (Nat.lt_of_lt_of_le hb h.up.size) fun e => by have := (hdl b e.symm).1; omega).trans (h.up.block b hb hA)
  · have hb : some g = some b := hb
    injection hb with hb
    subst hb
    rcases hr with e2 | e2
    · exact h.far g e2 j hj e
    · have := (h.fr.ownlt hj e).2; omega
/-- The list is the node's. -/
theorem PrW.done {kvk : Nat → Value} {wr : World} {d : Value} {i : Nat} (hF : FAt base n A kv F w) (h : PrW base n A F P rk kv i w kvk wr d (F.kids i).length (F.kids i).length) (hw : Wf F n rk) (hi : i < n) (hb : base ≤ w.heap.size) :
    PrD base n A F P rk kv i w (upd kvk i d) (wr.setCell ⟨A i, 1, none⟩ d) := by
  have hdl : ∀ b, d.ownBlock = some b → w.heap.size ≤ b ∧ b < wr.heap.size := fun b hb => ownBlock_lt h.own hb
  have hown : Owns base 145 wr d ((prQ F P rk i).map (nptr A)) := by have := h.own.mono_base hb; rw [List.take_length] at this; exact this
  have h1 := h.fr.putF hi hown (fun b hb j hj e => by have := (hdl b hb).1; have := hF.lt hj; omega) h.far (fun j hj => (hw.kid i hi j (List.mem_filter.1 hj).1).1)
  refine ⟨h1.congr2 fun z hz => ⟨rfl, rfl, ?_⟩, ?_, fun j b hj hb => ?_, fun z hz => ?_⟩
  · show _ = upd _ i _ z
    by_cases e : z = i
    · subst e; rw [upd_same]
      show (if _ then _ else _) = _
      rw [if_pos (subF_self hw hi)]
    · rw [upd_ne _ _ e]; exact (upto_all hw hi e).symm
  · refine ⟨h.up.os, h.up.tape, h.up.output, by rw [World.size_setCell]; exact h.up.size, fun b hb hA => ?_⟩
    rw [blk_setCell_other _ _ _ _ (hA i hi)]; exact h.up.block b hb hA
  · by_cases e : j = i
    · subst e; rw [upd_same] at hb; exact .inr (hdl b hb).1
    · rw [upd_ne _ _ e] at hb; exact h.new j b hj hb
  · have : z ≠ i := fun e => by subst e; rw [subF_self hw hi] at hz; cases hz
    rw [upd_ne _ _ this]; exact h.old z (.inl hz)
end
end Go.Proofs.YtcbmbhghmfehpaaGreat
namespace Go.Proofs.YtcbmbhghmfehpaaGreat
open Go.RowKit Go.Deep
theorem grown_refl (w : World) (o : Option Nat) : w.grownBy w o := ⟨rfl, rfl, rfl, Nat.le_refl _, fun _ _ _ => rfl⟩
theorem grown_trans {w w' x : World} {o : Option Nat} (h : w.grownBy w' o) (k : w'.grownBy x o) : w.grownBy x o :=
  ⟨k.os.trans h.os, k.tape.trans h.tape, k.output.trans h.output, Nat.le_trans h.size k.size, fun b hb hn => (k.block b (Nat.lt_of_lt_of_le hb h.size) hn).trans (h.block b hb hn)⟩
theorem grown_up {w w' : World} (h : Up w w') (o : Option Nat) : w.grownBy w' o := ⟨h.os, h.tape, h.output, h.size, fun b hb _ => Below.block h b hb⟩
theorem grown_set {w : World} {g o : Nat} {z : Value} : w.grownBy (w.setCell ⟨g, o, none⟩ z) (some g) :=
  ⟨rfl, rfl, rfl, by rw [World.size_setCell]; exact Nat.le_refl _, fun b _ hn => blk_setCell_other _ _ _ _ fun e => hn (by rw [e])⟩
theorem grown_sets {g : Nat} : ∀ (vs : List Value) (o : Nat) (w : World), w.grownBy (w.setCells g o vs) (some g)
  | [], _, w => grown_refl w _
  | z :: vs, o, w => by rw [World.setCells]; exact grown_trans grown_set (grown_sets vs (o + 1) _)
theorem owns_take {base : Nat} {e : TypeId} {w : World} {g n cap : Nat} {xs : List Value} (h : Owns base e w (.slice (some ⟨g, 0, none⟩) n cap) xs) {m : Nat} (hm : m ≤ n) : Owns base e w (.slice (some ⟨g, 0, none⟩) m cap) (xs.take m) := by
  obtain ⟨h1, h2⟩ := h
  rcases h2 with ⟨e1, _⟩ | ⟨g2, cap2, cur, e1, hg, hc, hn, hcm, hcs, ht⟩
  · cases e1
  · injection e1 with a1 a2 a3
    injection a1 with a1
    injection a1 with a1
    subst a1; subst a3
    have hnx : n = xs.length := a2
    have hl : (xs.take m).length = m := by rw [List.length_take]; omega
    refine ⟨by rw [Nat.mul_one], .inr ⟨g, cap, cur, by rw [hl], hg, hc, by omega, hcm, hcs, ?_⟩⟩
    rw [hl, Nat.mul_one, ← ht, List.take_take]
    congr 1; omega
theorem owns_tail {base : Nat} {e : TypeId} {w : World} {g m cap o : Nat} {xs : List Value} {z : Value} (h : Owns base e w (.slice (some ⟨g, 0, none⟩) m cap) xs) (ho : m ≤ o) : Owns base e (w.setCell ⟨g, o, none⟩ z) (.slice (some ⟨g, 0, none⟩) m cap) xs := by
  obtain ⟨h1, h2⟩ := h
  rcases h2 with ⟨e1, _⟩ | ⟨g2, cap2, cur, e1, hg, hc, hn, hcm, hcs, ht⟩
  · cases e1
  · injection e1 with a1 a2 a3
    injection a1 with a1
    injection a1 with a1
    subst a1; subst a3
    refine ⟨h1, .inr ⟨g, cap, cur.setIfInBounds o z, by rw [a2], hg, ?_, hn, hcm, by rw [Array.size_setIfInBounds]; exact hcs, ?_⟩⟩
    · simp [World.setCell, Array.getElem?_modify, hc]
    · have hmx : m = xs.length := a2
      rw [Array.toList_setIfInBounds, List.take_set_of_le (by omega)]; exact ht
theorem owns_tails {base : Nat} {e : TypeId} {g m cap : Nat} {xs : List Value} : ∀ (vs : List Value) (o : Nat) (w : World), m ≤ o → Owns base e w (.slice (some ⟨g, 0, none⟩) m cap) xs → Owns base e (w.setCells g o vs) (.slice (some ⟨g, 0, none⟩) m cap) xs
  | [], _, _, _, h => h
  | z :: vs, o, w, ho, h => by rw [World.setCells]; exact owns_tails vs (o + 1) _ (by omega) (owns_tail h ho)
theorem owns_cell {base : Nat} {e : TypeId} {w : World} {g n cap : Nat} {xs : List Value} (h : Owns base e w (.slice (some ⟨g, 0, none⟩) n cap) xs) {j : Nat} {u : Value} (hj : xs[j]? = some u) : w.cell? ⟨g, j, none⟩ = some u ∧ w.frozen? ⟨g, j, none⟩ = false := by
  have hl := (List.getElem?_eq_some_iff.1 hj).1
  obtain ⟨g2, cap2, e1, _, _, hc, hf, _⟩ := h.set hl
  injection e1 with a1
  injection a1 with a1
  injection a1 with a1
  subst a1
  refine ⟨?_, hf⟩
  rw [hc]
  congr 1
  rw [List.getD_eq_getElem?_getD, hj]; rfl
section
variable {A : Nat → Nat} {P : Nat → Bool}
end
end Go.Proofs.YtcbmbhghmfehpaaGreat
namespace Go.Proofs.YtcbmbhghmfehpaaGreat
open Go.RowKit Go.Deep
def keepF (P : Nat → Bool) (ks : List Nat) (j : Nat) : List Nat := (ks.take j).filter fun k => !P k
theorem keepF_len (P : Nat → Bool) (ks : List Nat) (j : Nat) : (keepF P ks j).length ≤ j := by
  unfold keepF
  refine Nat.le_trans (List.length_filter_le _ _) ?_
  rw [List.length_take]; omega
theorem keepF_succ (P : Nat → Bool) {ks : List Nat} {j : Nat} (hj : j < ks.length) : keepF P ks (j + 1) = if P (ks.getD j 0) then keepF P ks j else keepF P ks j ++ [ks.getD j 0] := by
  unfold keepF
  have hg : ks.getD j 0 = ks[j] := by rw [List.getD_eq_getElem?_getD, List.getElem?_eq_getElem hj]; rfl
  rw [List.take_succ_eq_append_getElem hj, List.filter_append, hg]
  cases h : P ks[j]
  · rw [if_neg (by decide), List.filter_cons_of_pos (by rw [h]; rfl)]; rfl
  · rw [if_pos rfl, List.filter_cons_of_neg (by rw [h]; decide)]; simp
/-- Behind element j of the row of block g: what stays lies ahead, the rest is as it was. -/
structure DfW (A : Nat → Nat) (P : Nat → Bool) (base : Nat) (w wr : World) (g cap : Nat) (ks : List Nat) (j : Nat) (X : List Value) : Prop where
  own : Owns base 145 wr (.slice (some ⟨g, 0, none⟩) ks.length cap) X
  len : X.length = ks.length
  head : X.take (keepF P ks j).length = (keepF P ks j).map (nptr A)
  rest : ∀ q, j ≤ q → X[q]? = (ks.map (nptr A))[q]?
  up : w.grownBy wr (some g)
section
variable {A : Nat → Nat} {P : Nat → Bool} {base : Nat} {w wr : World} {g cap : Nat} {ks : List Nat} {X : List Value}
theorem DfW.start (h : Owns base 145 w (.slice (some ⟨g, 0, none⟩) ks.length cap) (ks.map (nptr A))) {j : Nat} (hj : j < ks.length) (hno : ∀ i, i < j → P (ks.getD i 0) = false) (hP : P (ks.getD j 0) = true) (m : Nat) :
    DfW A P base w (w.drewN m) g cap ks (j + 1) (ks.map (nptr A)) ∧ (keepF P ks (j + 1)).length = j := by
  have hk : ∀ i, i ≤ j → keepF P ks i = ks.take i := by
    intro i
    induction i with
    | zero => intro _; rfl
    | succ i ih =>
      intro hi
      rw [keepF_succ P (show i < ks.length by omega), hno i (by omega), if_neg (by decide), ih (by omega), List.take_succ_eq_append_getElem (show i < ks.length by omega)]
      congr 2
      rw [List.getD_eq_getElem?_getD, List.getElem?_eq_getElem (show i < ks.length by omega)]; rfl
  have e : keepF P ks (j + 1) = ks.take j := by rw [keepF_succ P hj, hP, if_pos rfl, hk j (Nat.le_refl _)]
  have hl : (ks.take j).length = j := by rw [List.length_take]; omega
  refine ⟨⟨h.same2 fun _ _ => rfl, List.length_map _, ?_, fun _ _ => rfl, grown_up (Up.drewN w m) _⟩, by rw [e, hl]⟩
  rw [e, hl, List.map_take]
theorem DfW.skip {j : Nat} (h : DfW A P base w wr g cap ks j X) (hj : j < ks.length) (hP : P (ks.getD j 0) = true) (m : Nat) : DfW A P base w (wr.drewN m) g cap ks (j + 1) X :=
  ⟨h.own.same2 fun _ _ => rfl, h.len, by rw [keepF_succ P hj, if_pos hP]; exact h.head, fun q hq => h.rest q (by omega), grown_trans h.up (grown_up (Up.drewN wr m) _)⟩
theorem DfW.at {j : Nat} (h : DfW A P base w wr g cap ks j X) (hj : j < ks.length) : wr.cell? ⟨g, j, none⟩ = some (.pointer (some ⟨A (ks.getD j 0), 0, none⟩)) := by
  have hke : ks[j]? = some (ks.getD j 0) := by rw [List.getD_eq_getElem?_getD, List.getElem?_eq_getElem hj]; rfl
  exact (owns_cell h.own (j := j) (u := nptr A (ks.getD j 0)) (by rw [h.rest j (Nat.le_refl _), List.getElem?_map, hke]; rfl)).1
theorem DfW.push {j : Nat} (h : DfW A P base w wr g cap ks j X) (hj : j < ks.length) (hP : P (ks.getD j 0) = false) :
    (∃ x, wr.cell? ⟨g, (keepF P ks j).length, none⟩ = some x) ∧ wr.frozen? ⟨g, (keepF P ks j).length, none⟩ = false ∧ (keepF P ks (j + 1)).length = (keepF P ks j).length + 1 ∧
      ∃ X', DfW A P base w (wr.setCell ⟨g, (keepF P ks j).length, none⟩ (.pointer (some ⟨A (ks.getD j 0), 0, none⟩))) g cap ks (j + 1) X' := by
  have hle := keepF_len P ks j
  obtain ⟨g2, cap2, e1, _, _, hc, hf, hs⟩ := h.own.set (j := (keepF P ks j).length) (by rw [h.len]; omega)
  injection e1 with a1 a2 a3
  injection a1 with a1
  injection a1 with a1
  subst a1
  have hk := keepF_succ P hj
  rw [if_neg (by rw [hP]; decide)] at hk
  have hl : (keepF P ks (j + 1)).length = (keepF P ks j).length + 1 := by rw [hk, List.length_append]; rfl
  refine ⟨⟨_, hc⟩, hf, hl, X.set (keepF P ks j).length (nptr A (ks.getD j 0)), hs _, by rw [List.length_set]; exact h.len, ?_, fun q hq => ?_, grown_trans h.up grown_set⟩
  · rw [hl, hk, List.map_append, ← h.head]
    have hlt : (keepF P ks j).length < (X.set (keepF P ks j).length (nptr A (ks.getD j 0))).length := by rw [List.length_set, h.len]; omega
    rw [List.take_succ_eq_append_getElem hlt, List.take_set_of_le (Nat.le_refl _), List.getElem_set_self]; rfl
  · rw [List.getElem?_set_ne (by omega)]; exact h.rest q (by omega)
/-- The rest is cleared, the slice is cut. -/
theorem DfW.done {m : Nat} (h : DfW A P base w wr g cap ks ks.length X) (hm : (keepF P ks ks.length).length = m) (hlt : m < ks.length) :
    (∀ i, i < ks.length - m → (wr.cell? ⟨g, m + i, none⟩).isSome = true) ∧ (∀ i, i < ks.length - m → wr.frozen? ⟨g, m + i, none⟩ = false) ∧
      Owns base 145 (wr.setCells g m (List.replicate (ks.length - m) (.pointer none))) (.slice (some ⟨g, 0, none⟩) m cap) ((ks.filter fun k => !P k).map (nptr A)) ∧
      w.grownBy (wr.setCells g m (List.replicate (ks.length - m) (.pointer none))) (some g) := by
  have hall : keepF P ks ks.length = ks.filter fun k => !P k := by unfold keepF; rw [List.take_length]
  have hcell : ∀ i, i < ks.length - m → wr.cell? ⟨g, m + i, none⟩ = some (X.getD (m + i) undef) ∧ wr.frozen? ⟨g, m + i, none⟩ = false := fun i hi => by
    have hl : m + i < X.length := by rw [h.len]; omega
    exact owns_cell h.own (by rw [List.getD_eq_getElem?_getD, List.getElem?_eq_getElem hl]; rfl)
  refine ⟨fun i hi => by rw [(hcell i hi).1]; rfl, fun i hi => (hcell i hi).2, ?_, grown_trans h.up (grown_sets _ _ _)⟩
  refine owns_tails _ _ _ (Nat.le_refl _) ?_
  have := owns_take h.own (m := m) (by omega)
  rw [← hm, h.head] at this
  rw [← hm, ← hall]; exact this
end
theorem owns_cap {base : Nat} {e : TypeId} {w : World} {g n cap : Nat} {xs : List Value} (h : Owns base e w (.slice (some ⟨g, 0, none⟩) n cap) xs) : n ≤ cap := by
  obtain ⟨h1, h2⟩ := h
  rcases h2 with ⟨e1, _⟩ | ⟨g2, cap2, cur, e1, hg, hc, hn, _⟩
  · cases e1
  · injection e1 with a1 a2 a3
    omega
end Go.Proofs.YtcbmbhghmfehpaaGreat
namespace Go.Proofs.YtcbmbhghmfehpaaGreat
open Go.RowKit Go.Deep
section
variable {n base : Nat} {A : Nat → Nat} {kv : Nat → Value} {F : Frs} {w w' w2 : World} {rk : Nat → Nat}
end
end Go.Proofs.YtcbmbhghmfehpaaGreat
namespace Go.Proofs.YtcbmbhghmfehpaaGreat
theorem size_kid {nm : ByteArray} {ks : List RT} {k : RT} (h : k ∈ ks) : sizeR k < sizeR (.node nm ks) := by
  rw [sizeR]
  have : ∀ l : List RT, k ∈ l → sizeR k ≤ sizeRs l := fun l => by
    induction l with
    | nil => intro h; cases h
    | cons a l ih =>
      intro h
      rw [sizeRs]
      rcases List.mem_cons.1 h with rfl | h
      · omega
      · have := ih h; omega
  have := this ks h
  omega
section
variable {F : Frs} {n : Nat} {rk : Nat → Nat}
theorem rose_part (h : Wf F n rk) {i z : Nat} (hi : i < n) (hs : subF F rk i z = true) : toRF F rk z ∈ subR (toRF F rk i) := by
  rw [subR_toRF h hi (Nat.le_refl _)]
  exact List.mem_map.2 ⟨z, (mem_nodesF h hi (Nat.le_refl _)).2 hs, rfl⟩
/-- Where the rose tree is good, no node stands twice below the root. -/
theorem good_nodes (h : Wf F n rk) : ∀ (d i : Nat), rk i ≤ d → i < n → GoodR (toRF F rk i) → (nodesF F rk i).Nodup
  | d, i, hd, hi, hg => by
    rw [nodesF_eq h hi, List.nodup_cons]
    have hsub : ∀ k ∈ F.kids i, toRF F rk k ∈ subR (toRF F rk i) := fun k hk => rose_part h hi (subF_kid h hi hk (subF_self h (h.kid i hi k hk).1))
    have hgk : ∀ k ∈ F.kids i, GoodR (toRF F rk k) := fun k hk => ⟨fun s hs => hg.inn s (subR_trans _ (hsub k hk) hs), fun s hs => hg.lf s (subR_trans _ (hsub k hk) hs), (leafR_sub (hsub k hk)).nodup hg.nd⟩
    refine ⟨fun hm => ?_, ?_⟩
    · obtain ⟨k, hk, hm⟩ := List.mem_flatMap.1 hm
      have hkk := h.kid i hi k hk
      have := subD_rank h hkk.1 ((mem_nodesF h hkk.1 (Nat.le_refl _)).1 hm)
      omega
    · by_cases h0 : F.kids i = []
      · rw [h0]; simp
      · have hnd := hg.nd
        rw [toRF_eq h hi, leafR_node (by have := hg.inn _ (subR_self _); rw [toRF_nm h hi, toRF_kids h hi] at this; exact this (fun e => h0 (List.map_eq_nil_iff.1 e))), List.flatMap_map, List.nodup_iff_pairwise_ne, List.pairwise_flatMap] at hnd
        rw [List.nodup_iff_pairwise_ne, List.pairwise_flatMap]
        refine ⟨fun k hk => ?_, ?_⟩
        · have hkk := h.kid i hi k hk
          cases d with
          | zero => omega
          | succ d => exact good_nodes h d k (by omega) hkk.1 (hgk k hk)
        · refine hnd.2.imp_of_mem ?_
          intro a b ha hb hab x hx y hy e
          subst e
          have hka := h.kid i hi a ha
          have hkb := h.kid i hi b hb
          have h1 := rose_part h hka.1 ((mem_nodesF h hka.1 (Nat.le_refl _)).1 hx)
          have h2 := rose_part h hkb.1 ((mem_nodesF h hkb.1 (Nat.le_refl _)).1 hy)
          have hf := first_leaf (toRF F rk x) fun s hs => (hgk a ha).lf s (subR_trans _ h1 hs)
          exact hab _ ((leafR_sub h1).subset hf) _ ((leafR_sub h2).subset hf) rfl
end
end Go.Proofs.YtcbmbhghmfehpaaGreat
namespace Go.Proofs.YtcbmbhghmfehpaaGreat
section
variable {F : Frs} {n : Nat} {rk : Nat → Nat}
theorem num_sub2 (h : Wf F n rk) : ∀ {d i : Nat} (p : Option Nat) (np : Int) (s : Num), i < n → rk i ≤ d → (nodesF F rk i).Nodup → p ≠ some i → s.mp.lookup p = some np → (∀ j ∈ nodesF F rk i, s.mp.lookup (some j) = none) →
    NumTo s ((seqF F rk i p).foldl (numS F) s) (psR (toRF F rk i) s.ps.length np) (nsR (toRF F rk i)) (nodesF F rk i) := by
  intro d
  induction d with
  | zero =>
    intro i p np s hi hd hnd0 hp hl hn
    have hk : F.kids i = [] := by
      cases hk : F.kids i with
      | nil => rfl
      | cons k l => have := (h.kid i hi k (by rw [hk]; simp)).2; omega
    rw [seqF_eq h hi, toRF_eq h hi, nodesF_eq h hi, hk]
    have hni := hn i (by rw [nodesF_eq h hi]; simp)
    refine ⟨?_, ?_, fun k hk2 => lookup_putI_ne _ (hk2 i (by simp))⟩
    · show s.ps ++ [((putI s.mp (some i) _).lookup p).getD 0] = _
      rw [lookup_putI_ne _ hp, hl]; rfl
    · rfl
  | succ d ih =>
    intro i p np s hi hd hnd0 hp hl hn
    rw [seqF_eq h hi, toRF_eq h hi, nodesF_eq h hi]
    have hni := hn i (by rw [nodesF_eq h hi]; simp)
    have hnd := hnd0
    rw [nodesF_eq h hi, List.nodup_cons] at hnd
    have key : ∀ (l : List Nat), (∀ k ∈ l, k ∈ F.kids i) → (l.flatMap fun k => nodesF F rk k).Nodup → (∀ k ∈ l, i ∉ nodesF F rk k) → ∀ (s2 : Num) (own : Nat), s2.mp.lookup (some i) = some (own : Int) → (∀ k ∈ l, ∀ j ∈ nodesF F rk k, s2.mp.lookup (some j) = none) →
        NumTo s2 ((l.flatMap fun k => seqF F rk k (some i)).foldl (numS F) s2) (psRs (l.map (toRF F rk)) own s2.ps.length) (nsRs (l.map (toRF F rk))) (l.flatMap fun k => nodesF F rk k) := by
      intro l
      induction l with
      | nil => intro _ _ _ s2 own _ _; exact ⟨by simp [psRs], by simp [nsRs], fun _ _ => rfl⟩
      | cons c l ihl =>
        intro hin hdl hil s2 own ho hno
        have hcc := h.kid i hi c (hin c (by simp))
        rw [List.flatMap_cons, List.foldl_append, List.flatMap_cons]
        rw [List.flatMap_cons, List.nodup_append] at hdl
        have h1 := ih (some i) (own : Int) s2 hcc.1 (by omega) hdl.1 (fun e => by
          injection e with e
          have := hcc.2; rw [e] at this; omega) ho (hno c (by simp))
        have h2 := ihl (fun k hk => hin k (by simp [hk])) hdl.2.1 (fun k hk => hil k (by simp [hk])) ((seqF F rk c (some i)).foldl (numS F) s2) own
          ((h1.old (some i) (fun j hj e => by injection e with e; subst e; exact hil c (by simp) hj)).trans ho)
          (fun k hk j hj => (h1.old (some j) (fun j2 hj2 e => by
            injection e with e; subst e
            exact hdl.2.2 j hj2 j (List.mem_flatMap.2 ⟨k, hk, hj⟩) rfl)).trans (hno k (by simp [hk]) j hj))
        refine ⟨?_, ?_, fun k hk => ?_⟩
        · rw [h2.ps, h1.ps, List.map_cons, psRs, List.append_assoc, List.length_append, psR_len]
        · rw [h2.ns, h1.ns, List.map_cons, nsRs, List.append_assoc]
        · rw [h2.old k (fun j hj => hk j (by simp [hj])), h1.old k (fun j hj => hk j (by simp [hj]))]
    have hin : ∀ k ∈ F.kids i, i ∉ nodesF F rk k := fun k hk hm => hnd.1 (List.mem_flatMap.2 ⟨k, hk, hm⟩)
    have h3 := key (F.kids i) (fun k hk => hk) hnd.2 hin (numS F s (i, p)) s.ps.length (lookup_putI_new _ hni) (fun k hk j hj => by
      show (putI s.mp (some i) _).lookup (some j) = none
      rw [lookup_putI_ne _ (fun e => by injection e with e; subst e; exact hin k hk hj)]
      exact hn j (by rw [nodesF_eq h hi]; exact List.mem_cons_of_mem _ (List.mem_flatMap.2 ⟨k, hk, hj⟩)))
    have hps : (numS F s (i, p)).ps = s.ps ++ [np] := by
      show s.ps ++ [((putI s.mp (some i) _).lookup p).getD 0] = _
      rw [lookup_putI_ne _ hp, hl]; rfl
    rw [List.foldl_cons]
    refine ⟨?_, ?_, fun k hk => ?_⟩
    · rw [h3.ps, hps, psR, List.append_assoc, List.length_append]; rfl
    · rw [h3.ns]
      show (s.ns ++ [F.nm i]) ++ _ = _
      rw [nsR, List.append_assoc]; rfl
    · rw [h3.old k (fun j hj => hk j (by simp [hj]))]
      exact lookup_putI_ne _ (hk i (by simp))
theorem treeF_flat2 (h : Wf F n rk) {i : Nat} (hi : i < n) (hnd : (nodesF F rk i).Nodup) : treeF F rk i = flat (toRF F rk i) := by
  have h1 := num_sub2 h (d := rk i) none (-1) num0 hi (Nat.le_refl _) hnd (fun e => by cases e) rfl (fun j _ => rfl)
  unfold treeF flat numL
  rw [h1.ps, h1.ns]
  rfl
end
end Go.Proofs.YtcbmbhghmfehpaaGreat
namespace Go.Proofs.YtcbmbhghmfehpaaGreat
section
variable {F : Frs} {n : Nat} {rk : Nat → Nat} {P : Nat → Bool}
theorem good_size (h : Wf F n rk) {i : Nat} (hi : i < n) (hg : GoodR (toRF F rk i)) : sizeR (toRF F rk i) ≤ n := by
  rw [← subR_len, subR_toRF h hi (Nat.le_refl _), List.length_map]
  exact nodup_le (good_nodes h _ i (Nat.le_refl _) hi hg) fun x hx => subF_lt h hi (Nat.le_refl _) ((mem_nodesF h hi (Nat.le_refl _)).1 hx)
end
end Go.Proofs.YtcbmbhghmfehpaaGreat
namespace Go.Proofs.YtcbmbhghmfehpaaGreat
open Go.RowKit Go.Deep
section
variable {base n : Nat} {A : Nat → Nat} {kv : Nat → Value} {F : Frs} {w w' : World}
end
structure RrS where
  fr : Frs
  hang : Nat
  frm : Nat
  cur : Int
end Go.Proofs.YtcbmbhghmfehpaaGreat
