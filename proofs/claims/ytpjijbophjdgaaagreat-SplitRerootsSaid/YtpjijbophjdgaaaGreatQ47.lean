/- slices.CompactFunc with slices.Equal at rows that the caller owns. split.Of: what its loop keeps. -/
import Derived.Test.YtpjijbophjdgaaaGreatQ46
import Derived.Test.YtpjijbophjdgaaaGreatQ4
import Derived.Test.YtpjijbophjdgaaaGreatQ45
namespace Go.Proofs.YtpjijbophjdgaaaGreat
open Go.RowKit Go.Deep
theorem cptX_snoc (b : List Int) : ∀ l : List (List Int), cptX (l ++ [b]) = if l.getLast? = some b then cptX l else cptX l ++ [b]
  | [] => by simp [cptX]
  | [a] => by
    by_cases h : a = b
    · subst h; simp [cptX]
    · have h2 : ¬ b = a := fun e => h e.symm
      simp [cptX, h, h2]
  | a :: c :: l => by
    have ih := cptX_snoc b (c :: l)
    have e1 : (a :: c :: l).getLast? = (c :: l).getLast? := by simp [List.getLast?_cons_cons]
    rw [List.cons_append, cptX, ih, e1]
    have e2 : ((c :: l) ++ [b]).head? = some c := rfl
    have e3 : cptX (a :: c :: l) = if (c :: l).head? = some a then cptX (c :: l) else a :: cptX (c :: l) := by rw [cptX]
    have e4 : (c :: l).head? = some c := rfl
    rw [e2, e3, e4]
    by_cases h : some c = some a <;> by_cases h2 : (c :: l).getLast? = some b
    · rw [if_pos h, if_pos h2, if_pos h2]; exact (if_pos h).symm
    · rw [if_pos h, if_neg h2, if_neg h2, if_pos h]
    · rw [if_neg h, if_pos h2, if_pos h2, if_neg h]
    · rw [if_neg h, if_neg h2, if_neg h2, if_neg h]; rfl
def dupP (xs : List (List Int)) (j : Nat) : Bool := decide (0 < j ∧ gl xs j = gl xs (j - 1))
theorem kpC_cpt (xs : List (List Int)) : ∀ j, j ≤ xs.length → (kpC (dupP xs) j).map (gl xs) = cptX (xs.take j)
  | 0, _ => by simp [kpC, cptX]
  | j + 1, h => by
    have hlast : (xs.take j).getLast? = if j = 0 then none else some (gl xs (j - 1)) := by
      by_cases h0 : j = 0
      · subst h0; simp
      · rw [if_neg h0, List.getLast?_eq_getElem?, List.length_take, show min j xs.length = j by omega, List.getElem?_take_of_lt (by omega)]
        simp [gl, show j - 1 < xs.length by omega]
    rw [kpC_succ, take_gl (by omega), cptX_snoc, hlast, ← kpC_cpt xs j (by omega)]
    unfold dupP
    by_cases h0 : j = 0
    · subst h0; simp
    · rw [if_neg h0]
      by_cases e : gl xs j = gl xs (j - 1)
      · rw [decide_eq_true ⟨by omega, e⟩, if_pos rfl, if_pos (by rw [e])]
      · rw [decide_eq_false (fun q => e q.2), if_neg (by decide), if_neg (by intro q; injection q with q; exact e q.symm), List.map_append]; rfl
set_option maxRecDepth 100000 in
theorem compactRowsG (f : Nat) (lb : Array Value) (eg : ∀ args w, (callFunc f args).run Tryz.prog w = .ok (.enter f args) w) {base : Nat} {w : World} {v : Value} {ps : List (List Int × Value)} (h : RwS base w v ps) (hn : ps.length ≤ 1000000)
    (hf : ∀ p ∈ ps, ∀ q ∈ ps, ∀ W, w.grownBy W v.ownBlock → Calls Tryz.prog f (#[p.2, q.2] ++ lb) W fun e W' => e = .returned (.bool (decide (p.1 = q.1))) ∧ ∃ m, W' = W.drewN m) :
    Calls Tryz.prog 86 #[v, .func (.func f) #[] lb] w fun e w' => w.grownBy w' v.ownBlock ∧ ∃ v' ps', e = .returned v' ∧ ps'.map (·.1) = cptX (ps.map (·.1)) ∧ RwS base w' v' ps' ∧ ∀ p ∈ ps', p ∈ ps := by
  have hown := h.own
  obtain ⟨q, cap, hv, _⟩ := hown.form (n := ps.length) (by simp)
  obtain ⟨_, ⟨h1, h2⟩ | ⟨g, cap', cur, h1, _⟩⟩ := hown
  · have hp : ps = [] := by simpa using h2
    subst hp
    subst h1
    have h0 : ¬ (0 : Int) ≥ 2 := by decide
    go_enter Tryz.func86, Tryz.ntmps86
    go_wp2_with fail
    go_ret
    exact ⟨grown_refl _ _, .slice none 0 0, rfl, [], rfl, h, by simp⟩
  rw [hv] at h1
  injection h1 with h1 _ _
  subst h1
  subst hv
  have hown := h.own
  have hmlen : (ps.map (·.2)).length = ps.length := by simp
  have hat : ∀ j, j < ps.length → ∃ p, p ∈ ps ∧ at0 (ps.map (·.2)) j = p.2 ∧ gl (ps.map (·.1)) j = p.1 := fun j hj => ⟨ps[j], List.getElem_mem hj, by simp [at0, hj], by simp [gl, hj]⟩
  have hcon := compactF_t (P := dupP (ps.map (·.1))) f lb eg (base := base) (w := w) (bk := g) (cap := cap) (vs := ps.map (·.2)) (by rw [hmlen]; exact hown) (by rw [hmlen]; exact hn) rfl
    (fun j hj => by
      obtain ⟨p, hp, e, _⟩ := hat j (by simpa using hj)
      obtain ⟨q, c, e2⟩ := h.shape p hp
      exact ⟨q, _, c, by rw [e, e2]⟩)
    (fun j h0 hj W hW => by
      obtain ⟨p, hp, e1, e2⟩ := hat j (by simpa using hj)
      obtain ⟨r, hr, e3, e4⟩ := hat (j - 1) (by have : j < ps.length := by simpa using hj
                                                omega)
      rw [e1, e3]
      have hd : dupP (ps.map (·.1)) j = decide (p.1 = r.1) := by
        unfold dupP
        rw [e2, e4]
        by_cases e : p.1 = r.1
        · rw [decide_eq_true ⟨h0, e⟩, decide_eq_true e]
        · rw [decide_eq_false (fun q => e q.2), decide_eq_false e]
      rw [hd]
      exact hf p hp r hr W hW)
  rw [hmlen] at hcon
  refine hcon.mono ?_
  rintro e w' ⟨m, rfl, ho, hg⟩
  have hkm : ∀ p ∈ (kpC (dupP (ps.map (·.1))) ps.length).map (fun j => ps.getD j ([], undef)), p ∈ ps := fun p hp => by
    obtain ⟨j, hj, rfl⟩ := List.mem_map.1 hp
    have hj : j < ps.length := List.mem_range.1 (List.mem_filter.1 hj).1
    rw [List.getD_eq_getElem?_getD, List.getElem?_eq_getElem hj]; exact List.getElem_mem hj
  have hks : ∀ j ∈ kpC (dupP (ps.map (·.1))) ps.length, j < ps.length := fun j hj => List.mem_range.1 (List.mem_filter.1 hj).1
  refine ⟨hg, _, (kpC (dupP (ps.map (·.1))) ps.length).map (fun j => ps.getD j ([], undef)), rfl, ?_, ⟨?_, fun p hp => h.shape p (hkm p hp), fun p hp => ?_⟩, hkm⟩
  · have h5 := kpC_cpt (ps.map (·.1)) ps.length (by simp)
    rw [List.take_of_length_le (by simp)] at h5
    rw [← h5, List.map_map]
    refine List.map_congr_left fun j hj => ?_
    have := hks j hj
    simp [gl, this]
  · rw [List.map_map]
    have e : (kpC (dupP (ps.map (·.1))) ps.length).map ((fun x => x.2) ∘ fun j => ps.getD j ([], undef)) = (kpC (dupP (ps.map (·.1))) ps.length).map (at0 (ps.map (·.2))) := by
      refine List.map_congr_left fun j hj => ?_
      have := hks j hj
      simp [at0, this]
    rw [e]; exact ho
  · exact SlAt.keep (h.row p (hkm p hp)) fun b hb hbl => hg.block b hbl fun e => hb e.symm
theorem RwS.there {base : Nat} {w W : World} {v : Value} {ps : List (List Int × Value)} (h : RwS base w v ps) (hW : w.grownBy W v.ownBlock) : ∀ s ∈ ps, IntsAt Any W s.2 s.1 := fun s hs => (SlAt.keep (h.row s hs) fun b hb hbl => hW.block b hbl fun e => hb e.symm).sub fun _ _ _ => trivial
theorem compactRows_m {base : Nat} {w : World} {v : Value} {ps : List (List Int × Value)} (h : RwS base w v ps) (hn : ps.length ≤ 1000000) (hl : ∀ p ∈ ps, p.1.length ≤ 1000000) :
    Calls Tryz.prog 86 #[v, .func (.func 18) #[] #[]] w fun e w' => w.grownBy w' v.ownBlock ∧ ∃ v' ps', e = .returned v' ∧ ps'.map (·.1) = cptX (ps.map (·.1)) ∧ RwS base w' v' ps' ∧ ∀ p ∈ ps', p ∈ ps :=
  compactRowsG 18 #[] (enters_of Tryz.func18 (by kernel_rfl) rfl) h hn fun p hp r hr W hW => equal_int_t Any Any W p.2 r.2 p.1 r.1 (h.there hW p hp) (h.there hW r hr) (hl p hp) (hl r hr)
end Go.Proofs.YtpjijbophjdgaaaGreat
namespace Go.Proofs.YtpjijbophjdgaaaGreat
open Go.RowKit Go.Deep Go.Shelf
def rawP (t : Tre) (names : List ByteArray) (l : List Nat) : List (List Int) := (l.map fun k => splS names.length (lvS t names k)).filter fun s => decide (splErr names.length s = 0)
theorem rawP_snoc (t : Tre) (names : List ByteArray) (l : List Nat) (k : Nat) : rawP t names (l ++ [k]) = rawP t names l ++ if splErr names.length (splS names.length (lvS t names k)) = 0 then [splS names.length (lvS t names k)] else [] := by
  unfold rawP
  rw [List.map_append, List.filter_append]
  congr 1
  by_cases h : splErr names.length (splS names.length (lvS t names k)) = 0 <;> simp [h]
theorem SlAt.grown {S : Nat → Prop} {X Y : World} {v : Value} {n : Nat} {f : Nat → Value} {row : Option Nat} (h : SlAt S X v n f) (hg : X.grownBy Y row) (hr : ∀ r, row = some r → ∃ o, X.heap[r]? = some o ∧ o.isCells = false) : SlAt S Y v n f := by
  obtain ⟨p, cap, rfl, hn, h⟩ := h
  refine ⟨p, cap, rfl, hn, ?_⟩
  by_cases h0 : n = 0
  · exact .inl h0
  · rcases h with h | ⟨g, off, rfl, hS, hc⟩
    · exact absurd h h0
    · refine .inr ⟨g, off, rfl, hS, fun k hk => ?_⟩
      have h1 := hc k hk
      have hl := World.block_lt_of_cell? X _ h1
      refine (World.cell?_of_block (a := ⟨g, off + k, none⟩) (hg.block g hl fun e => ?_)).trans h1
      obtain ⟨o, h2, h3⟩ := hr g e.symm
      simp only [World.cell?] at h1
      rw [h2] at h1
      cases o <;> simp [Obj.isCells] at h3 <;> simp at h1
def TyI (W : World) (b : Nat) : Prop := ∃ c z, W.heap[b]? = some (Obj.cells c 3 z)
theorem TyI.same {W W' : World} {b : Nat} (h : TyI W b) (e : W'.heap[b]? = W.heap[b]?) : TyI W' b := by
  obtain ⟨c, z, h⟩ := h
  exact ⟨c, z, e.trans h⟩
structure OfI (w6 : World) (t : Tre) (names : List ByteArray) (pre : List El) (L : Nat → Prop) (W : World) : Prop where
  up : Up w6 W
  sz : w6.heap.size + 2 ≤ W.heap.size
  lo : ∀ b, L b → w6.heap.size ≤ b
  nL : ¬ L w6.heap.size ∧ ¬ L (w6.heap.size + 1)
  nb : W.heap[w6.heap.size]? = some (Obj.cells #[.int .i64 (names.length : Int)] 3 (0, 0))
  ex : ∃ (ov : Value) (ps : List (List Int × Value)), W.heap[w6.heap.size + 1]? = some (Obj.cells #[ov] 22 (0, 0)) ∧ Owns (w6.heap.size + 2) 26 W ov (ps.map (·.2)) ∧ ps.map (·.1) = rawP t names (pre.map (·.1)) ∧ ps.length ≤ pre.length ∧
    (∀ p ∈ ps, ∃ q c, p.2 = .slice q p.1.length c) ∧ (∀ p ∈ ps, IntsAt (fun b => ov.ownBlock ≠ some b ∧ b ≠ w6.heap.size + 1 ∧ (¬ L b ∧ TyI W b)) W p.2 p.1) ∧ ∀ g, ov.ownBlock = some g → ¬ L g
section
variable {w6 : World} {t : Tre} {names : List ByteArray}
theorem OfI.ab : AbL (OfI w6 t names) := by
  rintro s L L' W W' h hs
  obtain ⟨ov, ps, h1, h2, h3, h4, h5, h6, h7⟩ := h.ex
  have hsz := h.sz
  have hnl : ∀ b, b < W.heap.size → ¬ L b → ¬ L' b := fun b hb hn hb' => by
    rcases hs.more b hb' with e | e
    · exact hn e.1
    · omega
  refine ⟨⟨hs.os.trans h.up.os, hs.tape.trans h.up.tape, hs.output.trans h.up.output, Nat.le_trans h.up.size hs.size, fun b hb => (hs.block b (by omega) fun e => by have := h.lo b e; omega).trans (h.up.block b hb)⟩, by have := hs.size; omega, fun b hb => ?_, ⟨hnl _ (by omega) h.nL.1, hnl _ (by omega) h.nL.2⟩,
    (hs.block _ (by omega) h.nL.1).trans h.nb, ov, ps, (hs.block _ (by omega) h.nL.2).trans h1, Owns.sameZ h2 fun b hb => hs.block b (ownBlock_lt h2 hb).2 (h7 b hb), h3, h4, h5, fun p hp => ?_, fun g hg => hnl g (ownBlock_lt h2 hg).2 (h7 g hg)⟩
  · rcases hs.more b hb with e | e
    · exact h.lo b e.1
    · omega
  · have hk := h6 p hp
    obtain ⟨q, cap, hv, hn, hx⟩ := hk
    refine ⟨q, cap, hv, hn, ?_⟩
    by_cases h0 : p.1.length = 0
    · exact .inl h0
    · rcases hx with hx | ⟨g, off, e, ⟨s1, s2, s3⟩, hc⟩
      · exact absurd hx h0
      · have hl := World.block_lt_of_cell? W _ (hc 0 (by omega))
        exact .inr ⟨g, off, e, ⟨s1, s2, hnl g hl s3.1, s3.2.same (hs.block g hl s3.1)⟩, fun k hk => (World.cell?_of_block (a := ⟨g, off + k, none⟩) (hs.block g hl s3.1)).trans (hc k hk)⟩
theorem OfI.own {B : Nat} (hB : w6.heap.size + 2 ≤ B) (L : Nat → Prop) : OwnFrom B (fun s W => OfI w6 t names s L W) := by
  intro s X Y row h hg hr
  obtain ⟨ov, ps, h1, h2, h3, h4, h5, h6, h7⟩ := h.ex
  have hsz := h.sz
  have hlow : ∀ b, b < w6.heap.size + 2 → Y.heap[b]? = X.heap[b]? := fun b hb => hg.block b (by omega) fun e => by have := (hr b e.symm).1; omega
  have tyi : ∀ b, TyI X b → TyI Y b := fun b ⟨c, z, hc⟩ => ⟨c, z, (hg.block b (Array.getElem?_eq_some_iff.1 hc).1 fun e => by
    obtain ⟨_, o, h8, h9⟩ := hr b e.symm
    rw [hc] at h8; injection h8 with h8; subst h8; cases h9).trans hc⟩
  refine ⟨⟨hg.os.trans h.up.os, hg.tape.trans h.up.tape, hg.output.trans h.up.output, Nat.le_trans h.up.size hg.size, fun b hb => (hlow b (by omega)).trans (h.up.block b hb)⟩, by have := hg.size; omega, h.lo, h.nL, (hlow _ (by omega)).trans h.nb, ov, ps, (hlow _ (by omega)).trans h1,
    Owns.sameZ h2 fun b hb => hg.block b (ownBlock_lt h2 hb).2 fun e => ?_, h3, h4, h5, fun p hp => IntsAt.sub (show IntsAt _ Y p.2 p.1 from SlAt.grown (h6 p hp) hg fun r e => (hr r e).2) fun b hb _ => ⟨hb.1, hb.2.1, hb.2.2.1, tyi b hb.2.2.2⟩, h7⟩
  obtain ⟨_, o, h8, h9⟩ := hr b e.symm
  obtain ⟨c, h10⟩ := Owns.typedV h2 hb
  rw [h10] at h8; injection h8 with h8; subst h8; cases h9
theorem gvB_own {B : Nat} (x : El) (L : Nat → Prop) : OwnFrom B (fun (_ : Unit) W => GvB t names x L W) := by
  intro s X Y row h hg hr
  obtain ⟨h1, h2, p, c, e, h3, h4⟩ := h
  refine ⟨h1, h2, p, c, e, SlAt.grown h3 hg fun r e => (hr r e).2, fun g hgg => ?_⟩
  obtain ⟨cc, z, h5⟩ := h4 g hgg
  refine ⟨cc, z, (hg.block g (Array.getElem?_eq_some_iff.1 h5).1 fun e => ?_).trans h5⟩
  obtain ⟨_, o, h8, h9⟩ := hr g e.symm
  rw [h5] at h8; injection h8 with h8; subst h8; cases h9
theorem gvB_gb (x : El) (L : Nat → Prop) (W : World) (b : Nat) (h : GvB t names x L W) (hb : x.2.ownBlock = some b) : ∃ o, W.heap[b]? = some o ∧ o.isCells = true := by
  obtain ⟨_, _, _, _, _, _, h4⟩ := h
  obtain ⟨c, z, h5⟩ := h4 b hb
  exact ⟨_, h5, rfl⟩
theorem OfI.grow {pre : List El} {L : Nat → Prop} {W W' : World} (h : OfI w6 t names pre L W) (hL : ∀ b, L b → b < W.heap.size) (hu : Up W W') : OfI w6 t names pre L W' :=
  OfI.ab pre L L W W' h ⟨hu.os, hu.tape, hu.output, hu.size, fun b hb _ => Below.block hu b hb, fun b hb => .inl ⟨hb, hL b hb⟩⟩
theorem OfI.pass {pre : List El} {L : Nat → Prop} {W : World} (h : OfI w6 t names pre L W) {x : El} (hx : splErr names.length (splS names.length (lvS t names x.1)) ≠ 0) : OfI w6 t names (pre ++ [x]) L W := by
  obtain ⟨ov, ps, h1, h2, h3, h4, h5, h6, h7⟩ := h.ex
  exact ⟨h.up, h.sz, h.lo, h.nL, h.nb, ov, ps, h1, h2, by rw [List.map_append, List.map_singleton, rawP_snoc, if_neg hx, List.append_nil]; exact h3, by simp; omega, h5, h6, h7⟩
theorem owns_uniq {base : Nat} {e : TypeId} {W : World} {v : Value} {a b : List Value} (h : Owns base e W v a) (k : Owns base e W v b) : a = b := by
  obtain ⟨_, ⟨h1, h2⟩ | ⟨g, cap, cur, h1, _, h2, _, _, _, h3⟩⟩ := h <;> obtain ⟨_, ⟨k1, k2⟩ | ⟨g', cap', cur', k1, _, k2, _, _, _, k3⟩⟩ := k
  · rw [List.length_eq_zero_iff.1 h2, List.length_eq_zero_iff.1 k2]
  · rw [h1] at k1; cases k1
  · rw [h1] at k1; cases k1
  · rw [h1] at k1
    injection k1 with e1 e2 _
    injection e1 with e1
    injection e1 with e1 _ _
    subst e1
    rw [h2] at k2; injection k2 with k2; injection k2 with k2 _ _
    subst k2
    rw [← h3, ← k3, e2]
theorem OfI.push {pre : List El} {L : Nat → Prop} {W : World} (h : OfI w6 t names pre L W) (hL : ∀ b, L b → b < W.heap.size) {x : El} (hx : splErr names.length (splS names.length (lvS t names x.1)) = 0) {u : Value} (hu : ∃ q c, u = .slice q (splS names.length (lvS t names x.1)).length c)
    (hi : IntsAt (fun b => ¬ L b) W u (splS names.length (lvS t names x.1))) (ht : ∀ g, u.ownBlock = some g → ∃ c z, W.heap[g]? = some (Obj.cells c 3 z)) {ov : Value} (hov : W.heap[w6.heap.size + 1]? = some (Obj.cells #[ov] 22 (0, 0))) {W3 : World} {v' : Value}
    {vs : List Value} (hvs : Owns (w6.heap.size + 2) 26 W ov vs) (hno : Owns (w6.heap.size + 2) 26 W3 v' (vs ++ [u])) (hg : W.grownBy W3 ov.ownBlock) (hb : ∀ g, v'.ownBlock = some g → ov.ownBlock = some g ∨ W.heap.size ≤ g) :
    OfI w6 t names (pre ++ [x]) L (W3.setCell ⟨w6.heap.size + 1, 0, none⟩ v') ∧ KeepsFrom (w6.heap.size + 2) W (W3.setCell ⟨w6.heap.size + 1, 0, none⟩ v') ∧ ∀ b, b < W.heap.size → ov.ownBlock ≠ some b → b ≠ w6.heap.size + 1 → (W3.setCell ⟨w6.heap.size + 1, 0, none⟩ v').heap[b]? = W.heap[b]? := by
  obtain ⟨ov', ps, h1, h2, h3, h4, h5, h6, h7⟩ := h.ex
  rw [hov] at h1; injection h1 with h1; injection h1 with h1 _ _; injection h1 with h1; injection h1 with h1; subst h1
  have hsz := h.sz
  have hset : ∀ b, b ≠ w6.heap.size + 1 → (W3.setCell ⟨w6.heap.size + 1, 0, none⟩ v').heap[b]? = W3.heap[b]? := fun b hb => blk_setCell_other _ _ _ _ hb
  have hov3 : W3.heap[w6.heap.size + 1]? = some (Obj.cells #[ov] 22 (0, 0)) := (hg.block _ (by omega) fun e => by have := (ownBlock_lt h2 e.symm).1; omega).trans hov
  have hall : ∀ b, b < W.heap.size → ov.ownBlock ≠ some b → b ≠ w6.heap.size + 1 → (W3.setCell ⟨w6.heap.size + 1, 0, none⟩ v').heap[b]? = W.heap[b]? := fun b h1 h2 h3 => (hset b h3).trans (hg.block b h1 fun e => h2 e.symm)
  have evs := owns_uniq hvs h2
  subst evs
  have hlow : ∀ b, b < w6.heap.size + 1 → (W3.setCell ⟨w6.heap.size + 1, 0, none⟩ v').heap[b]? = W.heap[b]? := fun b hb => hall b (by omega) (fun e => by have := (ownBlock_lt h2 e).1; omega) (by omega)
  have hkeep : ∀ {v : Value} {xs : List Int}, IntsAt (fun b => ov.ownBlock ≠ some b ∧ b ≠ w6.heap.size + 1 ∧ (¬ L b ∧ TyI W b)) W v xs → IntsAt (fun b => v'.ownBlock ≠ some b ∧ b ≠ w6.heap.size + 1 ∧ (¬ L b ∧ TyI (W3.setCell ⟨w6.heap.size + 1, 0, none⟩ v') b)) (W3.setCell ⟨w6.heap.size + 1, 0, none⟩ v') v xs := fun {v xs} hk => by
    obtain ⟨q, cap, hv, hn, hx⟩ := hk
    refine ⟨q, cap, hv, hn, ?_⟩
    by_cases h0 : xs.length = 0
    · exact .inl h0
    · rcases hx with hx | ⟨g, off, e, ⟨s1, s2, s3⟩, hc⟩
      · exact absurd hx h0
      · have hl := World.block_lt_of_cell? W _ (hc 0 (by omega))
        have hl : g < W.heap.size := hl
        refine .inr ⟨g, off, e, ⟨fun e2 => ?_, s2, s3.1, s3.2.same (hall g hl s1 s2)⟩, fun k hk => (World.cell?_of_block (a := ⟨g, off + k, none⟩) (hall g hl s1 s2)).trans (hc k hk)⟩
        rcases hb g e2 with e3 | e3
        · exact s1 e3
        · omega
  refine ⟨⟨⟨hg.os.trans h.up.os, hg.tape.trans h.up.tape, hg.output.trans h.up.output, by rw [World.size_setCell]; have := hg.size; have := h.up.size; omega, fun b hb => (hlow b (by omega)).trans (h.up.block b hb)⟩, by rw [World.size_setCell]; have := hg.size; omega, h.lo, h.nL, (hlow _ (by omega)).trans h.nb, v', ps ++ [(splS names.length (lvS t names x.1), u)], ?_, ?_, ?_, by simp; omega, ?_, ?_, ?_⟩, ⟨by rw [World.size_setCell]; exact hg.size, fun k o hk hk2 hk3 => ?_⟩, hall⟩
  · simp [World.setCell, Array.getElem?_modify, hov3]
  · rw [List.map_append]
    exact Owns.sameZ hno fun b hb => hset b (by have := (ownBlock_lt hno hb).1; omega)
  · rw [List.map_append, h3, List.map_append, List.map_singleton, List.map_singleton, rawP_snoc, if_pos hx]
  · intro p hp
    rcases List.mem_append.1 hp with hp | hp
    · exact h5 p hp
    · rw [List.mem_singleton.1 hp]; exact hu
  · intro p hp
    rcases List.mem_append.1 hp with hp | hp
    · exact hkeep (h6 p hp)
    · rw [List.mem_singleton.1 hp]
      refine hkeep ?_
      obtain ⟨q, cap, hv, hn, hxx⟩ := hi
      refine ⟨q, cap, hv, hn, hxx.imp id fun ⟨g, off, e, s3, hc⟩ => ⟨g, off, e, ⟨fun e2 => ?_, fun e2 => ?_, s3, ht g (by show u.ownBlock = some g; rw [show u = _ from hv, e]; rfl)⟩, hc⟩⟩
      · obtain ⟨c, z, h8⟩ := ht g (by show u.ownBlock = some g; rw [show u = _ from hv, e]; rfl)
        obtain ⟨c2, h9⟩ := Owns.typedV h2 e2
        rw [h8] at h9; injection h9 with h9; injection h9 with _ h9 _; exact absurd h9 (by decide)
      · obtain ⟨c, z, h8⟩ := ht g (by show u.ownBlock = some g; rw [show u = _ from hv, e]; rfl)
        rw [e2, hov] at h8; injection h8 with h8; injection h8 with _ h8 _; exact absurd h8 (by decide)
  · intro g hgg hL'
    rcases hb g hgg with e | e
    · exact h7 g e hL'
    · have := hL g hL'; omega
  · have hkl := (Array.getElem?_eq_some_iff.1 hk2).1
    rw [hall k hkl (fun e => ?_) (by omega)]
    · exact hk2
    · obtain ⟨c, h9⟩ := Owns.typedV h2 e
      rw [hk2] at h9; injection h9 with h9; subst h9; cases hk3
theorem OfI.fin_pass {B : Nat} {pre : List El} {L : Nat → Prop} {W W' : World} (h : OfI w6 t names pre L W) (hL : ∀ b, L b → b < W.heap.size) (hu : Up W W') {x : El} (hg : ∀ g, x.2.ownBlock = some g → ∃ c z, W.heap[g]? = some (Obj.cells c 3 z)) (hx : splErr names.length (splS names.length (lvS t names x.1)) ≠ 0) :
    KeepsFrom B W W' ∧ Below w6.heap.size w6 W' ∧ (∀ b, (L b ∨ x.2.ownBlock = some b) → W'.heap[b]? = W.heap[b]?) ∧ OfI w6 t names (pre ++ [x]) L W' := by
  have h2 := (h.grow hL hu).pass hx
  refine ⟨KeepsFrom.of_grownBy (up_grown hu none) (fun j e => by cases e), h2.up, fun b hb => Below.block hu b ?_, h2⟩
  rcases hb with hb | hb
  · exact hL b hb
  · obtain ⟨c, z, h5⟩ := hg b hb
    exact (Array.getElem?_eq_some_iff.1 h5).1
theorem OfI.fin_push {B : Nat} (hB : w6.heap.size + 2 ≤ B) {pre : List El} {L : Nat → Prop} {W W2 : World} (h : OfI w6 t names pre L W) (hL : ∀ b, L b → b < W.heap.size) (hu2 : Up W W2) {x : El} (hgx : ∀ g, x.2.ownBlock = some g → ∃ c z, W.heap[g]? = some (Obj.cells c 3 z)) (hx : splErr names.length (splS names.length (lvS t names x.1)) = 0) {u : Value} (hu : ∃ q c, u = .slice q (splS names.length (lvS t names x.1)).length c)
    (hi : IntsAt (fun b => ¬ L b) W2 u (splS names.length (lvS t names x.1))) (ht : ∀ g, u.ownBlock = some g → ∃ c z, W2.heap[g]? = some (Obj.cells c 3 z)) {ov : Value} (hov : W2.heap[w6.heap.size + 1]? = some (Obj.cells #[ov] 22 (0, 0))) {W3 : World} {v' : Value}
    {vs : List Value} (hvs : Owns (w6.heap.size + 2) 26 W2 ov vs) (hno : Owns (w6.heap.size + 2) 26 W3 v' (vs ++ [u])) (hg : W2.grownBy W3 ov.ownBlock) (hb : ∀ g, v'.ownBlock = some g → ov.ownBlock = some g ∨ W2.heap.size ≤ g) :
    KeepsFrom B W (W3.setCell ⟨w6.heap.size + 1, 0, none⟩ v') ∧ Below w6.heap.size w6 (W3.setCell ⟨w6.heap.size + 1, 0, none⟩ v') ∧ (∀ b, (L b ∨ x.2.ownBlock = some b) → (W3.setCell ⟨w6.heap.size + 1, 0, none⟩ v').heap[b]? = W.heap[b]?) ∧ OfI w6 t names (pre ++ [x]) L (W3.setCell ⟨w6.heap.size + 1, 0, none⟩ v') := by
  have h2 := h.grow hL hu2
  have hL2 : ∀ b, L b → b < W2.heap.size := fun b hb => Nat.lt_of_lt_of_le (hL b hb) hu2.size
  obtain ⟨p1, p2, p3⟩ := h2.push hL2 hx hu hi ht hov hvs hno hg hb
  have k1 : KeepsFrom B W W2 := KeepsFrom.of_grownBy (up_grown hu2 none) (fun j e => by cases e)
  have k2 : KeepsFrom B W2 (W3.setCell ⟨w6.heap.size + 1, 0, none⟩ v') := ⟨p2.size, fun k o hk => p2.same k o (by omega)⟩
  refine ⟨k1.trans k2, p1.up, fun b hb => ?_, p1⟩
  have hbl : b < W.heap.size := by
    rcases hb with hb | hb
    · exact hL b hb
    · obtain ⟨c, z, h5⟩ := hgx b hb
      exact (Array.getElem?_eq_some_iff.1 h5).1
  refine (p3 b (Nat.lt_of_lt_of_le hbl hu2.size) (fun e => ?_) (fun e => ?_)).trans (Below.block hu2 b hbl)
  · rcases hb with hb | hb
    · obtain ⟨ov', ps, h3, h4, _, _, _, _, h5⟩ := h2.ex
      rw [hov] at h3; injection h3 with h3; injection h3 with h3 _ _; injection h3 with h3; injection h3 with h3; subst h3
      exact h5 b e hb
    · obtain ⟨c, z, h5⟩ := hgx b hb
      obtain ⟨c2, h6⟩ := Owns.typedV hvs e
      rw [Below.block hu2 b hbl, h5] at h6; injection h6 with h6; injection h6 with _ h6 _; exact absurd h6 (by decide)
  · rcases hb with hb | hb
    · exact h2.nL.2 (e ▸ hb)
    · obtain ⟨c, z, h5⟩ := hgx b hb
      have h6 := (Below.block hu2 b hbl).trans h5
      rw [e, hov] at h6; injection h6 with h6; injection h6 with _ h6 _; exact absurd h6 (by decide)
end
theorem any_contains (xs : List Int) (x : Int) : ((List.range xs.length).any fun j => decide (x = gi xs j)) = xs.contains x := by
  rw [Bool.eq_iff_iff, List.any_eq_true, List.contains_iff_mem]
  constructor
  · rintro ⟨j, hj, e⟩
    rw [of_decide_eq_true e]; exact gi_in (List.mem_range.1 hj)
  · intro h
    obtain ⟨k, hk, e⟩ := in_gi h
    exact ⟨k, List.mem_range.2 hk, decide_eq_true e.symm⟩
theorem RwS.rowsT {S : Nat → Prop} {base : Nat} {w : World} {v : Value} {ps : List (List Int × Value)} (h : RwS base w v ps) (ht : ∀ p ∈ ps, IntsAt S w p.2 p.1) : ∃ f, SlAt (fun b => base ≤ b) w v (ps.map (·.1)).length f ∧ ∀ k, k < (ps.map (·.1)).length → IntsAt S w (f k) (gl (ps.map (·.1)) k) := by
  have h1 := h.own.slAt
  rw [List.length_map] at h1
  refine ⟨_, by rw [List.length_map]; exact h1, fun k hk => ?_⟩
  have hk' : k < ps.length := by simpa using hk
  have h2 := ht ps[k] (List.getElem_mem hk')
  have e : gl (ps.map (·.1)) k = ps[k].1 := by simp [gl, hk']
  rw [e]
  simpa [hk'] using h2
theorem tyi_keep {W W' : World} {row : Option Nat} {v : Value} {xs : List Int} (h : IntsAt (TyI W) W v xs) (hg : W.grownBy W' row) (hr : ∀ r, row = some r → ¬ TyI W r) : IntsAt (TyI W') W' v xs := by
  have hs : ∀ b, TyI W b → W'.heap[b]? = W.heap[b]? := fun b hb => hg.block b (by obtain ⟨c, z, hc⟩ := hb; exact (Array.getElem?_eq_some_iff.1 hc).1) fun e => hr b e.symm hb
  exact (IntsAt.keep h fun b hb _ => hs b hb).sub fun b hb _ => hb.same (hs b hb)
theorem own_notI {base : Nat} {W : World} {v : Value} {vs : List Value} (h : Owns base 26 W v vs) : ∀ r, v.ownBlock = some r → ¬ TyI W r := fun r hr ⟨c, z, hc⟩ => by
  obtain ⟨c2, h9⟩ := Owns.typedV h hr
  rw [hc] at h9; injection h9 with h9; injection h9 with _ h9 _; exact absurd h9 (by decide)
theorem mem_rawP {t : Tre} {names : List ByteArray} (h : treeErr t = 0) {s : List Int} : s ∈ rawP t names (posF t 0) ↔ s ∈ rawO t names := by
  unfold rawP rawO
  rw [List.mem_filter, List.mem_filter, List.mem_map, List.mem_map]
  constructor
  · rintro ⟨⟨k, hk, e⟩, h2⟩
    have := (mem_pos h).1 hk
    exact ⟨⟨k, List.mem_filter.2 ⟨List.mem_range.2 this.2, decide_eq_true this.1⟩, e⟩, h2⟩
  · rintro ⟨⟨k, hk, e⟩, h2⟩
    obtain ⟨h3, h4⟩ := List.mem_filter.1 hk
    exact ⟨⟨k, (mem_pos h).2 ⟨of_decide_eq_true h4, List.mem_range.1 h3⟩, e⟩, h2⟩
theorem of_sorted {t : Tre} {names : List ByteArray} (h : OfOk t names) {l : List (List Int)} (hp : l.Perm (rawP t names (posF t 0))) (hs : l.Pairwise fun a b => cmpL a b ≤ 0) : cptX l = splO t names := by
  have e := sortX_uniq hp hs
  unfold splO
  rw [if_pos (splO_ok.2 h), e]
  show ordX _ = _
  exact ordX_congr fun s => mem_rawP h.te
end Go.Proofs.YtpjijbophjdgaaaGreat
