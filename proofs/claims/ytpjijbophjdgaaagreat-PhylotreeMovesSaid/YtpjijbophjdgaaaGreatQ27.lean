/- phylotree.pruned: what it does to the forest. phylotree.contracted: what it does to the forest. -/
import Derived.Test.YtpjijbophjdgaaaGreatQ26
import Derived.Test.YtpjijbophjdgaaaGreatQ16
namespace Go.Proofs.YtpjijbophjdgaaaGreat
open Go.RowKit Go.Deep
section
variable {P : Program} {ops : Array Oper} {rest : List Oper} {o : Oper} {a : Act} {Q : Exit → Act → World → Prop}
theorem wpList_appG (W : World) (hgd : o.guard = none) (s x : Operand) (t : TypeId) (ho : o.op = .call { callee := .builtin .append, args := #[s, x], argTypes := #[t, t] })
    (base : Nat) (e : TypeId) (z : Value) (bytes : Nat) (ht : P.underlying t = some (.slice e)) (hinfo : (P.info? e).map (fun i => (i.zero, i.size, i.bytes)) = some (some z, 1, bytes))
    (hz1 : z.cells.size = 1) (hb8 : bytes ≤ 64) {v : Value} {vs : List Value} (hown : Owns base e W v vs) (hs : a.eval s = v) (u : Value)
    (hx : a.eval x = .slice (some ⟨W.heap.size, 0, none⟩) 1 1) (h1 : u.oneCell' = true) (k : Nat) (hvn : vs.length = k) (hn : k ≤ 1000000) (hbase : base ≤ W.heap.size)
    (h : ∀ g cap w', Owns base e w' (.slice (some ⟨g, 0, none⟩) (k + 1) cap) (vs ++ [u]) → W.grownBy w' v.ownBlock → (v.ownBlock = some g ∨ W.heap.size ≤ g) → wpList P ops Q rest (a.put o.dst (.slice (some ⟨g, 0, none⟩) (k + 1) cap)) w') :
    wpList P ops Q (o :: rest) a (W.alloc (.cells #[u] e)) := by
  subst hvn
  obtain ⟨i, hi, hzz⟩ := Option.map_eq_some_iff.1 hinfo
  simp only [Prod.mk.injEq] at hzz
  obtain ⟨hz, hs1, hb⟩ := hzz
  refine wpList_append_lies _ hgd s x t ho base e i z 1 bytes ht hi hz hs1 hb hz1 (by omega) v vs.length vs hs (hown.alloc _) ⟨W.heap.size, 0, none⟩ 1 1 [u] hx rfl (cell_one_new _ _ _) (by simpa using h1) (by omega)
    (by unfold maxLen; omega) ?_ (by simp; omega) _ rfl fun g cap w' h2 h3 h4 _ => h g cap w' ?_ (grown_alloc h3) (h4.imp id fun e => by rw [e, World.size_alloc]; omega)
  · have : (vs.length + 1) * bytes ≤ (vs.length + 1) * 64 := Nat.mul_le_mul_left _ hb8
    omega
  · unfold Owns; rw [List.length_append]; exact h2
end
structure PUp (n : Nat) (A : Nat → Nat) (w w' : World) : Prop where
  os : w'.os = w.os
  tape : w'.tape = w.tape
  output : w'.output = w.output
  size : w.heap.size ≤ w'.heap.size
  block : ∀ b, b < w.heap.size → (∀ i, i < n → b ≠ A i) → w'.heap[b]? = w.heap[b]?
section
variable {n base : Nat} {A : Nat → Nat} {kv : Nat → Value} {F : Frs} {w w' w2 : World} {P : Nat → Bool} {rk : Nat → Nat}
theorem PUp.refl (n : Nat) (A : Nat → Nat) (w : World) : PUp n A w w := ⟨rfl, rfl, rfl, Nat.le_refl _, fun _ _ _ => rfl⟩
theorem PUp.trans (h : PUp n A w w') (k : PUp n A w' w2) : PUp n A w w2 :=
  ⟨k.os.trans h.os, k.tape.trans h.tape, k.output.trans h.output, Nat.le_trans h.size k.size, fun b hb hA => (k.block b (Nat.lt_of_lt_of_le hb h.size) hA).trans (h.block b hb hA)⟩
theorem PUp.of_up (k : Up w w') : PUp n A w w' := ⟨k.os, k.tape, k.output, k.size, fun b hb _ => Below.block k b hb⟩
theorem PUp.below (h : PUp n A w w') (hlo : ∀ i, i < n → base ≤ A i) (hs : base ≤ w.heap.size) : Below base w w' :=
  ⟨h.os, h.tape, h.output, h.size, fun b hb => h.block b (by omega) fun i hi e => by have := hlo i hi; omega⟩
theorem FAt.putF (h : FAt base n A kv F w) {k : Nat} (hk : k < n) {v : Value} {ks : List Nat} (hv : Owns base 113 w v (ks.map (nptr A)))
    (hA : ∀ b, v.ownBlock = some b → ∀ i, i < n → b ≠ A i) (hkv : ∀ b, v.ownBlock = some b → ∀ i, i < n → (kv i).ownBlock ≠ some b) (hks : ∀ j ∈ ks, j < n) :
    FAt base n A (upd kv k v) { F with kids := upd F.kids k ks } (w.setCell ⟨A k, 1, none⟩ v) := by
  refine ⟨fun i hi => ?_, h.lo, h.inj, fun i hi => ?_, fun i j hi hj => ?_, fun i j b hi hj h1 h2 => ?_, fun i hi => ?_⟩
  · by_cases e : i = k
    · subst e; rw [upd_same]
      have hn := h.node i hi
      simp [World.setCell, Array.getElem?_modify, hn]
    · rw [upd_ne _ _ e, blk_setCell_other _ _ _ _ (fun e2 => e (h.inj i k hi hk e2))]; exact h.node i hi
  · by_cases e : i = k
    · subst e; simp only [upd_same]; exact hv.same fun b hb => blk_setCell_other _ _ _ _ (hA b hb i hi)
    · simp only [upd_ne _ _ e]; exact (h.own i hi).same fun b hb => blk_setCell_other _ _ _ _ (fun e2 => h.apart i k hi hk (by rw [hb, e2]))
  · by_cases e : i = k
    · subst e; rw [upd_same]; intro h3; exact hA _ h3 j hj rfl
    · rw [upd_ne _ _ e]; exact h.apart i j hi hj
  · by_cases e1 : i = k
    · by_cases e2 : j = k
      · rw [e1, e2]
      · subst e1
        rw [upd_same] at h1
        rw [upd_ne _ _ e2] at h2
        exact absurd h2 (hkv b h1 j hj)
    · by_cases e2 : j = k
      · subst e2
        rw [upd_same] at h2
        rw [upd_ne _ _ e1] at h1
        exact absurd h1 (hkv b h2 i hi)
      · rw [upd_ne _ _ e1] at h1
        rw [upd_ne _ _ e2] at h2
        exact h.alone i j b hi hj h1 h2
  · by_cases e : i = k
    · subst e; simp only [upd_same]; exact hks
    · simp only [upd_ne _ _ e]; exact h.kid i hi
def prQ (F : Frs) (P : Nat → Bool) (rk : Nat → Nat) (z : Nat) : List Nat := (F.kids z).filter (al F P rk)
structure PrD (base n : Nat) (A : Nat → Nat) (F : Frs) (P : Nat → Bool) (rk : Nat → Nat) (kv : Nat → Value) (i : Nat) (w : World) (kv' : Nat → Value) (w' : World) : Prop where
  fr : FAt base n A kv' (F.sub rk (prQ F P rk) i) w'
  up : PUp n A w w'
  new : ∀ j b, j < n → (kv' j).ownBlock = some b → (kv j).ownBlock = some b ∨ w.heap.size ≤ b
  old : ∀ z, subF F rk i z = false → kv' z = kv z
def PrPost (base n : Nat) (A : Nat → Nat) (F : Frs) (P : Nat → Bool) (rk : Nat → Nat) (kv : Nat → Value) (i : Nat) (w : World) (e : Ending) (w' : World) : Prop :=
  e = .returned (if al F P rk i then nptr A i else .pointer none) ∧ ∃ kv', PrD base n A F P rk kv i w kv' w'
structure PrW (base n : Nat) (A : Nat → Nat) (F : Frs) (P : Nat → Bool) (rk : Nat → Nat) (kv : Nat → Value) (i : Nat) (w : World) (kvk : Nat → Value) (wr : World) (d : Value) (k m : Nat) : Prop where
  fr : FAt base n A kvk (F.upto rk (prQ F P rk) (F.kids i) k) wr
  up : PUp n A w wr
  new : ∀ j b, j < n → (kvk j).ownBlock = some b → (kv j).ownBlock = some b ∨ w.heap.size ≤ b
  old : ∀ z, subF F rk i z = false ∨ z = i → kvk z = kv z
  own : Owns w.heap.size 113 wr d ((((F.kids i).take m).filter (al F P rk)).map (nptr A))
  far : ∀ b, d.ownBlock = some b → ∀ j, j < n → (kvk j).ownBlock ≠ some b
theorem upto_wf (h : Wf F n rk) (P : Nat → Bool) (L : List Nat) (k : Nat) : Wf (F.upto rk (prQ F P rk) L k) n rk := ⟨fun i hi j hj => by
  have hj : j ∈ if _ then _ else _ := hj
  split at hj
  · exact h.kid i hi j (List.mem_filter.1 hj).1
  · exact h.kid i hi j hj⟩
theorem FAt.congr2 {G : Frs} (h : FAt base n A kv F w) (e : ∀ j, j < n → G.nm j = F.nm j ∧ G.old j = F.old j ∧ G.kids j = F.kids j) : FAt base n A kv G w :=
  ⟨fun i hi => by rw [(e i hi).1, (e i hi).2.1]; exact h.node i hi, h.lo, h.inj, fun i hi => by rw [(e i hi).2.2]; exact h.own i hi, h.apart, h.alone, fun i hi => by rw [(e i hi).2.2]; exact h.kid i hi⟩
theorem PrW.step {kvk kv2 : Nat → Value} {wr w2 : World} {d : Value} {i k c m : Nat} (hF : FAt base n A kv F w) (h : PrW base n A F P rk kv i w kvk wr d k m) (hw : Wf F n rk) (hD : Dis F n rk i) (hi : i < n) (hc : (F.kids i)[k]? = some c)
    (h2 : PrD base n A (F.upto rk (prQ F P rk) (F.kids i) k) P rk kvk c wr kv2 w2) : PrW base n A F P rk kv i w kv2 w2 d (k + 1) m := by
  have hck : c ∈ F.kids i := List.mem_of_getElem? hc
  have hcn := (hw.kid i hi c hck).1
  have hz := upto_fresh hw (q := prQ F P rk) hi hD hc
  have hG := upto_wf hw P (F.kids i) k
  have hsub := sub_cong hw hG hcn (Nat.le_refl _) hz
  have hdl : ∀ b, d.ownBlock = some b → w.heap.size ≤ b ∧ b < wr.heap.size := fun b hb => ownBlock_lt h.own hb
  have hnA : ∀ b, d.ownBlock = some b → ∀ j, j < n → b ≠ A j := fun b hb j hj e => by have := (hdl b hb).1; have := hF.lt hj; omega
  refine ⟨h2.fr.congr2 fun z hzn => ⟨rfl, rfl, ?_⟩, h.up.trans h2.up, fun j b hj hb => ?_, fun z hz2 => ?_, h.own.same2 fun b hb => h2.up.block b (hdl b hb).2 (hnA b hb), fun b hb j hj e => ?_⟩
  · rw [upto_succ hc]
    show _ = if _ then _ else _
    rw [hsub]
    split
    · rename_i hs
      show List.filter (al F P rk) (F.kids z) = List.filter (al (F.upto rk (prQ F P rk) (F.kids i) k) P rk) ((F.upto rk (prQ F P rk) (F.kids i) k).kids z)
      rw [hz z hs]
      refine List.filter_congr fun k hk => ?_
      exact (al_cong hw hG (hw.kid z hzn k hk).1 (Nat.le_refl _) fun u hu => hz u (sub_trans hw hcn (Nat.le_refl _) hs (subF_kid hw hzn hk hu))).symm
    · rfl
  · rcases h2.new j b hj hb with e | e
    · exact h.new j b hj e
    · exact .inr (Nat.le_trans h.up.size e)
  · rw [h2.old z ?_]
    · exact h.old z hz2
    · rw [hsub]
      rcases hz2 with e | e
      · cases hs : subF F rk c z with
        | false => rfl
        | true => rw [subF_kid hw hi hck hs] at e; cases e
      · subst e; exact subF_not hw hi hck
  · rcases h2.new j b hj e with e2 | e2
    · exact h.far b hb j hj e2
    · have := (hdl b hb).2; omega
theorem take_filter {f : Nat → Bool} {L : List Nat} {k c : Nat} (hc : L[k]? = some c) : (L.take (k + 1)).filter f = (L.take k).filter f ++ if f c then [c] else [] := by
  rw [List.take_add_one, hc, List.filter_append]
  cases h : f c <;> simp [h]
theorem PrW.skip {kvk : Nat → Value} {wr : World} {d : Value} {i k c : Nat} (h : PrW base n A F P rk kv i w kvk wr d (k + 1) k) (hc : (F.kids i)[k]? = some c) (ha : al F P rk c = false) : PrW base n A F P rk kv i w kvk wr d (k + 1) (k + 1) :=
  ⟨h.fr, h.up, h.new, h.old, by rw [take_filter hc, ha]; simpa using h.own, h.far⟩
theorem PrW.push {kvk : Nat → Value} {wr w3 : World} {d : Value} {i k c g m cap : Nat} (hF : FAt base n A kv F w) (h : PrW base n A F P rk kv i w kvk wr d (k + 1) k) (hc : (F.kids i)[k]? = some c) (ha : al F P rk c = true)
    (ho : Owns w.heap.size 113 w3 (.slice (some ⟨g, 0, none⟩) m cap) ((((F.kids i).take k).filter (al F P rk)).map (nptr A) ++ [nptr A c])) (hg : wr.grownBy w3 d.ownBlock) (hr : d.ownBlock = some g ∨ wr.heap.size ≤ g) :
    PrW base n A F P rk kv i w kvk w3 (.slice (some ⟨g, 0, none⟩) m cap) (k + 1) (k + 1) := by
  have hdl : ∀ b, d.ownBlock = some b → w.heap.size ≤ b ∧ b < wr.heap.size := fun b hb => ownBlock_lt h.own hb
  have hnA : ∀ j, j < n → some (A j) ≠ d.ownBlock := fun j hj e => by have := (hdl _ e.symm).1; have := hF.lt hj; omega
  refine ⟨h.fr.same (fun j hj => hg.block _ (h.fr.lt hj) (hnA j hj)) (fun j b hj hb => hg.block _ (h.fr.ownlt hj hb).2 fun e => h.far b e.symm j hj hb), ?_, h.new, h.old, by rw [take_filter hc, ha, if_pos rfl, List.map_append]; exact ho, fun b hb j hj e => ?_⟩
  · refine ⟨hg.os.trans h.up.os, hg.tape.trans h.up.tape, hg.output.trans h.up.output, Nat.le_trans h.up.size hg.size, fun b hb hA => ?_⟩
    exact (hg.block b (Nat.lt_of_lt_of_le hb h.up.size) fun e => by have := (hdl b e.symm).1; omega).trans (h.up.block b hb hA)
  · have hb : some g = some b := hb
    injection hb with hb
    subst hb
    rcases hr with e2 | e2
    · exact h.far g e2 j hj e
    · have := (h.fr.ownlt hj e).2; omega
theorem PrW.done {kvk : Nat → Value} {wr : World} {d : Value} {i : Nat} (hF : FAt base n A kv F w) (h : PrW base n A F P rk kv i w kvk wr d (F.kids i).length (F.kids i).length) (hw : Wf F n rk) (hi : i < n) (hb : base ≤ w.heap.size) :
    PrD base n A F P rk kv i w (upd kvk i d) (wr.setCell ⟨A i, 1, none⟩ d) := by
  have hdl : ∀ b, d.ownBlock = some b → w.heap.size ≤ b ∧ b < wr.heap.size := fun b hb => ownBlock_lt h.own hb
  have hown : Owns base 113 wr d ((prQ F P rk i).map (nptr A)) := by have := h.own.mono_base hb; rw [List.take_length] at this; exact this
  have h1 := h.fr.putF hi hown (fun b hb j hj e => by have := (hdl b hb).1; have := hF.lt hj; omega) h.far (fun j hj => (hw.kid i hi j (List.mem_filter.1 hj).1).1)
  refine ⟨h1.congr2 fun z hz => ⟨rfl, rfl, ?_⟩, ?_, fun j b hj hb => ?_, fun z hz => ?_⟩
  · show _ = upd _ i _ z
    by_cases e : z = i
    · subst e; rw [upd_same]
      show (if _ then _ else _) = _
      rw [if_pos (subF_self hw hi)]
    · rw [upd_ne _ _ e]; exact (upto_all hw hi e).symm
  · refine ⟨h.up.os, h.up.tape, h.up.output, by rw [World.size_setCell]; exact h.up.size, fun b hb hA => ?_⟩
    rw [blk_setCell_other _ _ _ _ (hA i hi)]; exact h.up.block b hb hA
  · by_cases e : j = i
    · subst e; rw [upd_same] at hb; exact .inr (hdl b hb).1
    · rw [upd_ne _ _ e] at hb; exact h.new j b hj hb
  · have : z ≠ i := fun e => by subst e; rw [subF_self hw hi] at hz; cases hz
    rw [upd_ne _ _ this]; exact h.old z (.inl hz)
end
end Go.Proofs.YtpjijbophjdgaaaGreat
namespace Go.Proofs.YtpjijbophjdgaaaGreat
open Go.RowKit Go.Deep
section
variable {n base : Nat} {A : Nat → Nat} {kv : Nat → Value} {F : Frs} {w w' w2 : World} {rk : Nat → Nat}
def ctQ (F : Frs) (rk : Nat → Nat) (z : Nat) : List Nat := if (F.kids z).length = 1 then F.kids z else (F.kids z).map (cr F rk)
def ctU (F : Frs) (rk : Nat → Nat) (y k : Nat) : Frs := ⟨F.nm, F.old, fun z => if z = y then ((F.kids y).take k).map (cr F rk) ++ (F.kids y).drop k else (F.upto rk (ctQ F rk) (F.kids y) k).kids z⟩
def CtPost (base n : Nat) (A : Nat → Nat) (kv : Nat → Value) (F : Frs) (rk : Nat → Nat) (i : Nat) (w : World) (e : Ending) (w' : World) : Prop :=
  e = .returned (.pointer (some ⟨A (cr F rk i), 0, none⟩)) ∧ FAt base n A kv (F.sub rk (ctQ F rk) i) w' ∧ FUp n A kv w w'
theorem ct_chain (h : Wf F n rk) {y k : Nat} (hy : y < n) (hk : F.kids y = [k]) (z : Nat) : (F.sub rk (ctQ F rk) k).kids z = (F.sub rk (ctQ F rk) y).kids z := by
  show (if _ then _ else _) = if _ then _ else _
  by_cases e : z = y
  · subst e
    rw [subF_not h hy (by rw [hk]; simp), subF_self h hy, if_neg (by simp), if_pos rfl]
    unfold ctQ; rw [if_pos (by rw [hk]; rfl)]
  · rw [subF_eq h hy, hk, show (z == y) = false from beq_eq_false_iff_ne.2 e]
    simp
theorem ctU_zero (y z : Nat) : (ctU F rk y 0).kids z = F.kids z := by
  show (if _ then _ else _) = _
  split
  · rename_i e; subst e; simp
  · exact upto_zero _ _ _
theorem ctU_own (y k : Nat) : (ctU F rk y k).kids y = ((F.kids y).take k).map (cr F rk) ++ (F.kids y).drop k := by
  show (if _ then _ else _) = _
  rw [if_pos rfl]
theorem ctU_len (y k : Nat) : ((ctU F rk y k).kids y).length = (F.kids y).length := by
  rw [ctU_own, List.length_append, List.length_map, List.length_take, List.length_drop]; omega
theorem ctU_at {y k c : Nat} (hc : (F.kids y)[k]? = some c) : ((ctU F rk y k).kids y)[k]? = some c := by
  obtain ⟨hk, e⟩ := List.getElem?_eq_some_iff.1 hc
  rw [ctU_own, List.getElem?_append_right (by rw [List.length_map, List.length_take]; omega), List.length_map, List.length_take, List.getElem?_drop, show k + (k - min k (F.kids y).length) = k by omega]
  exact hc
theorem ctU_wf (h : Wf F n rk) {y : Nat} (hy : y < n) (k : Nat) : Wf (ctU F rk y k) n rk := ⟨fun i hi j hj => by
  have key : ∀ z, z < n → ∀ c ∈ F.kids z, cr F rk c < n ∧ rk (cr F rk c) < rk z := fun z hz c hc => by
    obtain ⟨h1, h2⟩ := h.kid z hz c hc
    obtain ⟨a, b, _⟩ := cr_ok h h1 (Nat.le_refl _)
    exact ⟨a, by omega⟩
  by_cases e : i = y
  · subst e
    rw [ctU_own, List.mem_append] at hj
    rcases hj with hj | hj
    · obtain ⟨c, hc, rfl⟩ := List.mem_map.1 hj
      exact key i hi c (List.mem_of_mem_take hc)
    · exact h.kid i hi j (List.mem_of_mem_drop hj)
  · have hj : j ∈ if i = y then _ else (F.upto rk (ctQ F rk) (F.kids y) k).kids i := hj
    rw [if_neg e] at hj
    have hj : j ∈ if _ then _ else _ := hj
    split at hj
    · unfold ctQ at hj
      split at hj
      · exact h.kid i hi j hj
      · obtain ⟨c, hc, rfl⟩ := List.mem_map.1 hj
        exact key i hi c hc
    · exact h.kid i hi j hj⟩
theorem ctU_fresh (h : Wf F n rk) {y k c : Nat} (hy : y < n) (hD : Dis F n rk y) (hc : (F.kids y)[k]? = some c) : ∀ z, subF F rk c z = true → (ctU F rk y k).kids z = F.kids z := fun z hs => by
  have hck := List.mem_of_getElem? hc
  have hne : z ≠ y := fun e => by subst e; rw [subF_not h hy hck] at hs; cases hs
  show (if _ then _ else _) = _
  rw [if_neg hne]
  exact upto_fresh h hy hD hc z hs
theorem ctU_small (hl : ∀ z, z < n → (F.kids z).length ≤ 1000) {y : Nat} (hy : y < n) (k z : Nat) (hz : z < n) : ((ctU F rk y k).kids z).length ≤ 1000 := by
  by_cases e : z = y
  · subst e; rw [ctU_len]; exact hl z hz
  · show (if z = y then _ else (F.upto rk (ctQ F rk) (F.kids y) k).kids z).length ≤ _
    rw [if_neg e]
    show (if _ then _ else _ : List Nat).length ≤ _
    split
    · unfold ctQ; split
      · exact hl z hz
      · rw [List.length_map]; exact hl z hz
    · exact hl z hz
theorem ctU_all (h : Wf F n rk) {y : Nat} (hy : y < n) (h1 : (F.kids y).length ≠ 1) (z : Nat) : (ctU F rk y (F.kids y).length).kids z = (F.sub rk (ctQ F rk) y).kids z := by
  by_cases e : z = y
  · subst e
    rw [ctU_own, List.take_length, List.drop_length, List.append_nil]
    show _ = if _ then _ else _
    rw [if_pos (subF_self h hy)]
    unfold ctQ; rw [if_neg h1]
  · show (if _ then _ else _) = _
    rw [if_neg e]
    exact upto_all h hy e
theorem FAt.setKid (h : FAt base n A kv F w) {y k c g m cap : Nat} (hy : y < n) (hv : kv y = .slice (some ⟨g, 0, none⟩) m cap) (hk : k < (F.kids y).length) (hc : c < n) :
    w.frozen? ⟨g, k, none⟩ = false ∧ (∃ x, w.cell? ⟨g, k, none⟩ = some x) ∧ FAt base n A kv { F with kids := upd F.kids y ((F.kids y).set k c) } (w.setCell ⟨g, k, none⟩ (nptr A c)) ∧ FUp n A kv w (w.setCell ⟨g, k, none⟩ (nptr A c)) := by
  obtain ⟨g2, cap2, e, hg, hgl, hcl, hfz, hset⟩ := (h.own y hy).set (j := k) (by simpa using hk)
  rw [hv] at e
  injection e with e1 e2 e3
  injection e1 with e1
  injection e1 with e1
  subst e1
  have hgy : (kv y).ownBlock = some g := by rw [hv]; rfl
  have hset := hset (nptr A c)
  rw [show ((F.kids y).map (nptr A)).set k (nptr A c) = ((F.kids y).set k c).map (nptr A) by rw [List.map_set]] at hset
  refine ⟨hfz, ⟨_, hcl⟩, ⟨fun i hi => ?_, h.lo, h.inj, fun i hi => ?_, h.apart, h.alone, fun i hi => ?_⟩, ?_⟩
  · rw [blk_setCell_other _ _ _ _ (fun e2 => h.apart y i hy hi (by rw [hgy, e2]))]; exact h.node i hi
  · by_cases e : i = y
    · subst e; simp only [upd_same]; exact hset
    · simp only [upd_ne _ _ e]; exact (h.own i hi).same fun b hb => blk_setCell_other _ _ _ _ (fun e2 => e (h.alone i y b hi hy hb (by rw [hgy, e2])))
  · by_cases e : i = y
    · subst e; simp only [upd_same]
      intro j hj
      rcases List.mem_or_eq_of_mem_set hj with h1 | h1
      · exact h.kid i hi j h1
      · rw [h1]; exact hc
    · simp only [upd_ne _ _ e]; exact h.kid i hi
  · exact ⟨rfl, rfl, rfl, by rw [World.size_setCell]; exact Nat.le_refl _, fun b hb _ hb2 => blk_setCell_other _ _ _ _ (fun e2 => hb2 y hy (by rw [hgy, e2]))⟩
theorem ct_step (hw : Wf F n rk) {y k c g m cap : Nat} (hy : y < n) (hD : Dis F n rk y) (hc : (F.kids y)[k]? = some c) (hv : kv y = .slice (some ⟨g, 0, none⟩) m cap)
    (h : FAt base n A kv ((ctU F rk y k).sub rk (ctQ (ctU F rk y k) rk) c) w2) :
    w2.cell? ⟨A y, 1, none⟩ = some (.slice (some ⟨g, 0, none⟩) m cap) ∧ w2.frozen? ⟨g, k, none⟩ = false ∧ (∃ x, w2.cell? ⟨g, k, none⟩ = some x) ∧ FAt base n A kv (ctU F rk y (k + 1)) (w2.setCell ⟨g, k, none⟩ (.pointer (some ⟨A (cr F rk c), 0, none⟩))) ∧ FUp n A kv w2 (w2.setCell ⟨g, k, none⟩ (.pointer (some ⟨A (cr F rk c), 0, none⟩))) := by
  have hck := List.mem_of_getElem? hc
  have hcn := (hw.kid y hy c hck).1
  have hG := ctU_wf hw hy k
  have hz := ctU_fresh hw hy hD hc
  have hsub := sub_cong hw hG hcn (Nat.le_refl _) hz
  obtain ⟨hkl, hke⟩ := List.getElem?_eq_some_iff.1 hc
  have hny : subF F rk c y = false := subF_not hw hy hck
  have hrow : ((ctU F rk y k).sub rk (ctQ (ctU F rk y k) rk) c).kids y = (ctU F rk y k).kids y := by
    show (if _ then _ else _) = _
    rw [hsub, hny, if_neg (by simp)]
  obtain ⟨h1, h4, h2, h3⟩ := h.setKid hy hv (k := k) (c := cr F rk c) (by rw [hrow, ctU_len]; exact hkl) (cr_ok hw hcn (Nat.le_refl _)).1
  refine ⟨by rw [h.kidv hy, hv], h1, h4, h2.congr2 fun z hzn => ⟨rfl, rfl, ?_⟩, h3⟩
  show _ = upd _ y _ z
  by_cases e : z = y
  · subst e
    rw [upd_same, hrow, ctU_own, ctU_own]
    have ht : ((F.kids z).take k).length = k := by rw [List.length_take]; omega
    rw [List.set_append_right _ _ (by rw [List.length_map, ht]; exact Nat.le_refl _), List.length_map, ht, Nat.sub_self]
    rw [List.take_add_one, hc, List.map_append, List.append_assoc]
    congr 1
    rw [List.drop_eq_getElem_cons hkl, List.set_cons_zero]; rfl
  · rw [upd_ne _ _ e]
    show (if _ then _ else _) = if _ then _ else _
    rw [if_neg e, upto_succ hc, hsub]
    split
    · rename_i hs
      unfold ctQ
      rw [hz z hs]
      split
      · rfl
      · refine List.map_congr_left fun j hj => ?_
        exact (cr_cong hw hG (hw.kid z hzn j hj).1 (Nat.le_refl _) fun u hu => hz u (sub_trans hw hcn (Nat.le_refl _) hs (subF_kid hw hzn hj hu))).symm
    · show _ = if _ then _ else _
      rw [if_neg e]
theorem rkAt_ex (hinj : ∀ i j, i < n → j < n → A i = A j → i = j) (rk : Nat → Nat) : ∃ m : Value → Nat, ∀ y, y < n → m (.pointer (some ⟨A y, 0, none⟩)) = rk y := by
  have h1 : ∀ v : Value, ∃ k : Nat, ∀ y, y < n → v = .pointer (some ⟨A y, 0, none⟩) → k = rk y := fun v => by
    by_cases h : ∃ y, y < n ∧ v = .pointer (some ⟨A y, 0, none⟩)
    · obtain ⟨y, hy, e⟩ := h
      refine ⟨rk y, fun z hz e2 => ?_⟩
      rw [e] at e2
      injection e2 with e2
      injection e2 with e2
      injection e2 with e2
      rw [hinj y z hy hz e2]
    · exact ⟨0, fun y hy e => absurd ⟨y, hy, e⟩ h⟩
  obtain ⟨m, hm⟩ := Classical.axiomOfChoice h1
  exact ⟨m, fun y hy => hm _ y hy rfl⟩
end
end Go.Proofs.YtpjijbophjdgaaaGreat
