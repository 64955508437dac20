/- slices.SortFunc at lists of ints with slices.Compare: what the caller owns, sorted. The reference's canonical tree is the canonical tree: its order is the sort's order. The walk of SharederrorNested. slices.CompactFunc with slices.Equal at rows that the caller owns. Two rose trees without one-child nodes that have the same families of leaves are the same, sorted. The contracts of layer 35's reference's beyond and GreatNames, of layer 31's reference's Great. The sets that layer 35's reference makes a tree of, and that tree: plain. The tree that phylotree.made makes: plain. The contract of layer 31's reference's Great. The tree that layer 35's reference makes of the sets is, sorted, the program's tree: plain. The tree of a forest whose rose tree is good: plain. Trees whose nodes stand for nested sets of names: valid, without one-child nodes; their parts. Plain. The forest that pruned leaves: plain. The sets of layer 35's reference are nested, and their tree is the program's: plain. Parse, plain: the machine over a stack of lists of rose trees; the forest that grows. The contract of phylotree.made. Reroot: what its loop does to the forest. SharederrorClades, plain: the tree whose leaves are renamed, the lists of the leaves below its nodes. Texts of rose trees, plain: what the machine reads is the text of the result, and the other way round. -/
import Derived.Test.YtpjijbophjdgaaaGreatQ10
import Derived.Test.YtpjijbophjdgaaaGreatQ37
import Derived.Test.YtpjijbophjdgaaaGreatQ2
import Derived.Test.YtpjijbophjdgaaaGreatQ20
import Derived.Test.YtpjijbophjdgaaaGreatQ35
import Derived.Test.YtpjijbophjdgaaaGreatQ33
import Derived.Test.YtpjijbophjdgaaaGreatQ36
import Derived.Test.YtpjijbophjdgaaaGreatQ34
import Derived.Lib.IndexAny
namespace Go.Proofs.YtpjijbophjdgaaaGreat
open Go.RowKit Go.Deep Go.Sort Go.Shelf Go.Lib
structure RwS (base : Nat) (w : World) (v : Value) (ps : List (List Int × Value)) : Prop where
  own : Owns base 26 w v (ps.map (·.2))
  shape : ∀ p ∈ ps, ∃ q c, p.2 = .slice q p.1.length c
  row : ∀ p ∈ ps, IntsAt (fun b => v.ownBlock ≠ some b) w p.2 p.1
theorem swo_of {α : Type} {f : α → List Int} {cf : List Int → List Int → Int} (h0 : ∀ a, cf a a = 0) (hz : ∀ {a b}, cf a b = 0 → a = b) (ha : ∀ a b, cf b a = - cf a b) (ht : ∀ {a b c}, cf a b < 0 → cf b c < 0 → cf a c < 0) : SWO (ltOf fun (x y : α) => cf (f x) (f y)) where
  irrefl x := by simp [ltOf, h0]
  trans x y z h1 h2 := by
    simp only [ltOf, decide_eq_true_eq] at *
    exact ht h1 h2
  ntrans x y z h1 h2 := by
    simp only [ltOf, decide_eq_false_iff_not] at *
    intro h3
    by_cases e : cf (f x) (f y) = 0
    · rw [hz e] at h3; exact h2 h3
    · have h4 : cf (f y) (f x) < 0 := by have := ha (f x) (f y); omega
      exact h2 (ht h4 h3)
theorem sortRows_m {cf : List Int → List Int → Int} (h0 : ∀ a, cf a a = 0) (hz : ∀ {a b}, cf a b = 0 → a = b) (ha : ∀ a b, cf b a = - cf a b) (ht : ∀ {a b c}, cf a b < 0 → cf b c < 0 → cf a c < 0)
    (g : Nat) (cb : Array Value) (eg : ∀ args w, (callFunc g args).run Tryz.prog w = .ok (.enter g args) w) {base : Nat} {w : World} {v : Value} {ps : List (List Int × Value)} (h : RwS base w v ps) (hn : ps.length ≤ 1000000)
    (hc : ∀ p ∈ ps, ∀ q ∈ ps, ∀ W, w.grownBy W v.ownBlock → Calls Tryz.prog g (#[p.2, q.2] ++ cb) W fun e w' => e = .returned (.int .i64 (cf p.1 q.1)) ∧ ∃ n os, w' = grow (W.drewN n) os) :
    Calls Tryz.prog 26 #[v, .func (.func g) #[] cb] w fun e w' => e = .returned (.tuple #[]) ∧ w.grownBy w' v.ownBlock ∧ ∃ ps', (ps'.map (·.1)).Perm (ps.map (·.1)) ∧ (ps'.map (·.1)).Pairwise (fun a b => cf a b ≤ 0) ∧ RwS base w' v ps' ∧ ∀ p ∈ ps', p ∈ ps := by
  by_cases hp : ps = []
  · subst hp
    have ho := h.own
    obtain ⟨q, c, hv, _⟩ := ho.form (n := 0) (by simp)
    subst hv
    refine (AnyF.slices_SortFunc_none (P := Tryz.prog) (ρ := Tryz.sortRow_ren) { Tryz.sortRow with } q c _ w).mono ?_
    rintro e w' ⟨rfl, rfl⟩
    exact ⟨rfl, grown_refl _ _, [], .nil, .nil, h, fun p hp => hp⟩
  obtain ⟨p0, hp0⟩ : ∃ p, p ∈ ps := List.exists_mem_of_ne_nil _ hp
  letI : Inhabited {p // p ∈ ps} := ⟨⟨p0, hp0⟩⟩
  have hown := h.own
  obtain ⟨q, cap, hv, _⟩ := hown.form (n := ps.length) (by simp)
  obtain ⟨blk, hq⟩ : ∃ blk, q = some ⟨blk, 0, none⟩ := by
    obtain ⟨_, ⟨h1, _⟩ | ⟨g', cap', cur, h1, _⟩⟩ := hown
    · rw [hv] at h1
      injection h1 with _ h1 _
      exact absurd (List.length_eq_zero_iff.1 h1) hp
    · rw [hv] at h1
      injection h1 with h1 _ _
      exact ⟨g', h1⟩
  subst hq
  subst hv
  have hgl := (ownBlock_lt hown rfl).2
  have hgl : blk < w.heap.size := hgl
  have hsize : (ps.attach.toArray).size = ps.length := by simp
  have hmlen : (ps.map (·.2)).length = ps.length := by simp
  have hH : Holds (fun (x : {p // p ∈ ps}) => x.1.2) w blk 0 ps.attach.toArray := by
    intro j hj
    rw [hsize] at hj
    obtain ⟨p, c, e, _, H⟩ := hown.slAt.open
    injection e with e1
    subst e1
    obtain ⟨b, off, e, hcc⟩ := H j (by rw [hmlen]; exact hj)
    injection e with e
    injection e with e1 e2
    subst e1; subst e2
    refine ⟨?_, ?_⟩
    · rw [hcc, getElem!_pos _ _ (by simpa using hj)]; simp [hj]
    · obtain ⟨_, ⟨h1, _⟩ | ⟨g', cap', cur, hs', _, hc', _⟩⟩ := hown
      · cases h1
      · injection hs' with hs1
        injection hs1 with hs1
        injection hs1 with hs1
        subst hs1
        simp [World.frozen?, hc']
  have hgb : ∀ (m : Nat) (os : Array Obj) (dk : Array {p // p ∈ ps}), w.grownBy (sortWorld (fun (x : {p // p ∈ ps}) => x.1.2) w blk 0 m dk os) (some blk) := fun m os dk => ⟨rfl, rfl, rfl, sortWorld_size _ _ _ _ _, fun b hb hne => sortWorld_other (fun e => hne (by rw [e])) hb⟩
  have hcmp : CmpLays1 Tryz.prog g cb (fun (x : {p // p ∈ ps}) => x.1.2) (fun x y => cf x.1.1 y.1.1) blk 0 ps.attach.toArray.size w := by
    intro m os dk hdk x y
    refine (hc x.1 x.2 y.1 y.2 _ (hgb m os dk)).mono fun e w' ⟨he, n, os', hw⟩ => ⟨he, n, os', hw⟩
  have hcon := Any.slices_SortFunc Tryz.sortRow (fun (x : {p // p ∈ ps}) => x.1.2) (fun x => by obtain ⟨q, c, e⟩ := h.shape x.1 x.2; show x.1.2.oneCell' = true; rw [e]; rfl) (fun x y => cf x.1.1 y.1.1) (swo_of (f := fun (x : {p // p ∈ ps}) => x.1.1) h0 hz ha ht) g cb blk 0 cap ps.attach.toArray w eg hcmp hH hgl (by rw [hsize]; omega)
  rw [hsize] at hcon
  refine hcon.mono fun e w' ⟨he, d', m, os, hpm, hso, hw⟩ => ⟨he, by rw [hw]; exact hgb m os d', d'.toList.map (·.1), ?_, ?_, ?_, fun p hp => by obtain ⟨x, _, rfl⟩ := List.mem_map.1 hp; exact x.2⟩
  · obtain ⟨hsz, _, hperm⟩ := hpm
    have e1 : d'.extract 0 ps.length = d' := by rw [← hsize, ← hsz]; exact Array.extract_size
    have e2 : ps.attach.toArray.extract 0 ps.length = ps.attach.toArray := by rw [← hsize]; exact Array.extract_size
    rw [e1, e2] at hperm
    have h3 : (d'.toList.map (·.1)).Perm ps := by
      have h2 := hperm.map (fun (x : {p // p ∈ ps}) => x.1)
      rw [List.toList_toArray, List.attach_map_subtype_val] at h2
      exact h2
    exact h3.map _
  · obtain ⟨hsz, _, _⟩ := hpm
    rw [hsize] at hsz
    rw [List.map_map, List.pairwise_map, List.pairwise_iff_getElem]
    intro i j hi hj hij
    have hi' : i < d'.size := by simpa using hi
    have hj' : j < d'.size := by simpa using hj
    have h3 := hso i j (Nat.zero_le _) hij (by omega)
    rw [getElem!_pos d' j hj', getElem!_pos d' i hi'] at h3
    simp only [ltOf, decide_eq_false_iff_not] at h3
    have h4 := ha ((d'[i]'hi').1.1) ((d'[j]'hj').1.1)
    show cf ((d'.toList[i]'(by simpa using hi)).1.1) ((d'.toList[j]'(by simpa using hj)).1.1) ≤ 0
    rw [Array.getElem_toList, Array.getElem_toList]
    omega
  · have hd : d'.toList.length = ps.length := by have := hpm.1; rw [hsize] at this; simpa using this
    have hmem : ∀ p ∈ d'.toList.map (·.1), p ∈ ps := fun p hp => by
      obtain ⟨x, _, rfl⟩ := List.mem_map.1 hp
      exact x.2
    refine ⟨?_, fun p hp => h.shape p (hmem p hp), fun p hp => ?_⟩
    · have h4 := Owns.sorted (enc := fun (x : {p // p ∈ ps}) => x.1.2) (n := m) (os := os) (ts := d'.toList) (vs := ps.map (·.2)) (by rw [hmlen]; exact hown) (by rw [hmlen]; exact hd)
      rw [hmlen] at h4
      rw [hw, List.map_map]
      exact h4
    · have h5 := h.row p (hmem p hp)
      rw [hw]
      refine SlAt.keep h5 fun b hb hbl => (hgb m os d').block b hbl fun e => hb e.symm
theorem grow_same (W : World) : ∃ n os, W = grow (W.drewN n) os := ⟨0, #[], by rw [grow_empty]; rfl⟩
end Go.Proofs.YtpjijbophjdgaaaGreat
namespace Go.Proofs.YtpjijbophjdgaaaGreat
open Go.RowKit Go.Deep
mutual
theorem nsR_subl : ∀ (r s : RT), s ∈ subR r → (nsR s).Sublist (nsR r)
  | .node nm ks, s, h => by
    rw [subR, List.mem_cons] at h
    rcases h with rfl | h
    · exact List.Sublist.refl _
    · rw [nsR]; exact (nsRs_subl ks s h).trans (List.sublist_cons_self _ _)
theorem nsRs_subl : ∀ (rs : List RT) (s : RT), s ∈ subRs rs → (nsR s).Sublist (nsRs rs)
  | [], s, h => by simp [subRs] at h
  | r :: rs, s, h => by
    rw [subRs, List.mem_append] at h
    rw [nsRs]
    rcases h with h | h
    · exact (nsR_subl r s h).trans (List.sublist_append_left _ _)
    · exact (nsRs_subl rs s h).trans (List.sublist_append_right _ _)
end
theorem leafR_sub {r s : RT} (h : s ∈ subR r) : (leafR s).Sublist (leafR r) := (nsR_subl r s h).filter _
theorem subR_self (r : RT) : r ∈ subR r := by cases r; rw [subR]; simp
theorem mem_subRs {k : RT} : ∀ {ks : List RT}, k ∈ ks → ∀ s ∈ subR k, s ∈ subRs ks
  | b :: ks, h, s, hs => by
    rw [subRs, List.mem_append]
    rcases List.mem_cons.1 h with rfl | h
    · exact .inl hs
    · exact .inr (mem_subRs h s hs)
mutual
theorem subR_trans : ∀ (r : RT) {s u : RT}, s ∈ subR r → u ∈ subR s → u ∈ subR r
  | .node nm ks, s, u, h, hu => by
    rw [subR, List.mem_cons] at h
    rcases h with rfl | h
    · exact hu
    · rw [subR]; exact List.mem_cons_of_mem _ (subRs_trans ks h hu)
theorem subRs_trans : ∀ (rs : List RT) {s u : RT}, s ∈ subRs rs → u ∈ subR s → u ∈ subRs rs
  | [], s, u, h, _ => by simp [subRs] at h
  | r :: rs, s, u, h, hu => by
    rw [subRs, List.mem_append] at h ⊢
    rcases h with h | h
    · exact .inl (subR_trans r h hu)
    · exact .inr (subRs_trans rs h hu)
end
end Go.Proofs.YtpjijbophjdgaaaGreat
namespace Go.Proofs.YtpjijbophjdgaaaGreat
open Go.RowKit Go.Deep
end Go.Proofs.YtpjijbophjdgaaaGreat
namespace Go.Proofs.YtpjijbophjdgaaaGreat
open Go.RowKit Go.Deep
theorem cptX_snoc (b : List Int) : ∀ l : List (List Int), cptX (l ++ [b]) = if l.getLast? = some b then cptX l else cptX l ++ [b]
  | [] => by simp [cptX]
  | [a] => by
    by_cases h : a = b
    · subst h; simp [cptX]
    · have h2 : ¬ b = a := fun e => h e.symm
      simp [cptX, h, h2]
  | a :: c :: l => by
    have ih := cptX_snoc b (c :: l)
    have e1 : (a :: c :: l).getLast? = (c :: l).getLast? := by simp [List.getLast?_cons_cons]
    rw [List.cons_append, cptX, ih, e1]
    have e2 : ((c :: l) ++ [b]).head? = some c := rfl
    have e3 : cptX (a :: c :: l) = if (c :: l).head? = some a then cptX (c :: l) else a :: cptX (c :: l) := by rw [cptX]
    have e4 : (c :: l).head? = some c := rfl
    rw [e2, e3, e4]
    by_cases h : some c = some a <;> by_cases h2 : (c :: l).getLast? = some b
    · rw [if_pos h, if_pos h2, if_pos h2]; exact (if_pos h).symm
    · rw [if_pos h, if_neg h2, if_neg h2, if_pos h]
    · rw [if_neg h, if_pos h2, if_pos h2, if_neg h]
    · rw [if_neg h, if_neg h2, if_neg h2, if_neg h]; rfl
def dupP (xs : List (List Int)) (j : Nat) : Bool := decide (0 < j ∧ gl xs j = gl xs (j - 1))
theorem kpC_cpt (xs : List (List Int)) : ∀ j, j ≤ xs.length → (kpC (dupP xs) j).map (gl xs) = cptX (xs.take j)
  | 0, _ => by simp [kpC, cptX]
  | j + 1, h => by
    have hlast : (xs.take j).getLast? = if j = 0 then none else some (gl xs (j - 1)) := by
      by_cases h0 : j = 0
      · subst h0; simp
      · rw [if_neg h0, List.getLast?_eq_getElem?, List.length_take, show min j xs.length = j by omega, List.getElem?_take_of_lt (by omega)]
        simp [gl, show j - 1 < xs.length by omega]
    rw [kpC_succ, take_gl (by omega), cptX_snoc, hlast, ← kpC_cpt xs j (by omega)]
    unfold dupP
    by_cases h0 : j = 0
    · subst h0; simp
    · rw [if_neg h0]
      by_cases e : gl xs j = gl xs (j - 1)
      · rw [decide_eq_true ⟨by omega, e⟩, if_pos rfl, if_pos (by rw [e])]
      · rw [decide_eq_false (fun q => e q.2), if_neg (by decide), if_neg (by intro q; injection q with q; exact e q.symm), List.map_append]; rfl
set_option maxRecDepth 100000 in
theorem compactRowsG (f : Nat) (lb : Array Value) (eg : ∀ args w, (callFunc f args).run Tryz.prog w = .ok (.enter f args) w) {base : Nat} {w : World} {v : Value} {ps : List (List Int × Value)} (h : RwS base w v ps) (hn : ps.length ≤ 1000000)
    (hf : ∀ p ∈ ps, ∀ q ∈ ps, ∀ W, w.grownBy W v.ownBlock → Calls Tryz.prog f (#[p.2, q.2] ++ lb) W fun e W' => e = .returned (.bool (decide (p.1 = q.1))) ∧ ∃ m, W' = W.drewN m) :
    Calls Tryz.prog 86 #[v, .func (.func f) #[] lb] w fun e w' => w.grownBy w' v.ownBlock ∧ ∃ v' ps', e = .returned v' ∧ ps'.map (·.1) = cptX (ps.map (·.1)) ∧ RwS base w' v' ps' ∧ ∀ p ∈ ps', p ∈ ps := by
  have hown := h.own
  obtain ⟨q, cap, hv, _⟩ := hown.form (n := ps.length) (by simp)
  obtain ⟨_, ⟨h1, h2⟩ | ⟨g, cap', cur, h1, _⟩⟩ := hown
  · have hp : ps = [] := by simpa using h2
    subst hp
    subst h1
    have h0 : ¬ (0 : Int) ≥ 2 := by decide
    go_enter Tryz.func86, Tryz.ntmps86
    go_wp2_with fail
    go_ret
    exact ⟨grown_refl _ _, .slice none 0 0, rfl, [], rfl, h, by simp⟩
  rw [hv] at h1
  injection h1 with h1 _ _
  subst h1
  subst hv
  have hown := h.own
  have hmlen : (ps.map (·.2)).length = ps.length := by simp
  have hat : ∀ j, j < ps.length → ∃ p, p ∈ ps ∧ at0 (ps.map (·.2)) j = p.2 ∧ gl (ps.map (·.1)) j = p.1 := fun j hj => ⟨ps[j], List.getElem_mem hj, by simp [at0, hj], by simp [gl, hj]⟩
  have hcon := compactF_t (P := dupP (ps.map (·.1))) f lb eg (base := base) (w := w) (bk := g) (cap := cap) (vs := ps.map (·.2)) (by rw [hmlen]; exact hown) (by rw [hmlen]; exact hn) rfl
    (fun j hj => by
      obtain ⟨p, hp, e, _⟩ := hat j (by simpa using hj)
      obtain ⟨q, c, e2⟩ := h.shape p hp
      exact ⟨q, _, c, by rw [e, e2]⟩)
    (fun j h0 hj W hW => by
      obtain ⟨p, hp, e1, e2⟩ := hat j (by simpa using hj)
      obtain ⟨r, hr, e3, e4⟩ := hat (j - 1) (by have : j < ps.length := by simpa using hj
                                                omega)
      rw [e1, e3]
      have hd : dupP (ps.map (·.1)) j = decide (p.1 = r.1) := by
        unfold dupP
        rw [e2, e4]
        by_cases e : p.1 = r.1
        · rw [decide_eq_true ⟨h0, e⟩, decide_eq_true e]
        · rw [decide_eq_false (fun q => e q.2), decide_eq_false e]
      rw [hd]
      exact hf p hp r hr W hW)
  rw [hmlen] at hcon
  refine hcon.mono ?_
  rintro e w' ⟨m, rfl, ho, hg⟩
  have hkm : ∀ p ∈ (kpC (dupP (ps.map (·.1))) ps.length).map (fun j => ps.getD j ([], undef)), p ∈ ps := fun p hp => by
    obtain ⟨j, hj, rfl⟩ := List.mem_map.1 hp
    have hj : j < ps.length := List.mem_range.1 (List.mem_filter.1 hj).1
    rw [List.getD_eq_getElem?_getD, List.getElem?_eq_getElem hj]; exact List.getElem_mem hj
  have hks : ∀ j ∈ kpC (dupP (ps.map (·.1))) ps.length, j < ps.length := fun j hj => List.mem_range.1 (List.mem_filter.1 hj).1
  refine ⟨hg, _, (kpC (dupP (ps.map (·.1))) ps.length).map (fun j => ps.getD j ([], undef)), rfl, ?_, ⟨?_, fun p hp => h.shape p (hkm p hp), fun p hp => ?_⟩, hkm⟩
  · have h5 := kpC_cpt (ps.map (·.1)) ps.length (by simp)
    rw [List.take_of_length_le (by simp)] at h5
    rw [← h5, List.map_map]
    refine List.map_congr_left fun j hj => ?_
    have := hks j hj
    simp [gl, this]
  · rw [List.map_map]
    have e : (kpC (dupP (ps.map (·.1))) ps.length).map ((fun x => x.2) ∘ fun j => ps.getD j ([], undef)) = (kpC (dupP (ps.map (·.1))) ps.length).map (at0 (ps.map (·.2))) := by
      refine List.map_congr_left fun j hj => ?_
      have := hks j hj
      simp [at0, this]
    rw [e]; exact ho
  · exact SlAt.keep (h.row p (hkm p hp)) fun b hb hbl => hg.block b hbl fun e => hb e.symm
theorem RwS.there {base : Nat} {w W : World} {v : Value} {ps : List (List Int × Value)} (h : RwS base w v ps) (hW : w.grownBy W v.ownBlock) : ∀ s ∈ ps, IntsAt Any W s.2 s.1 := fun s hs => (SlAt.keep (h.row s hs) fun b hb hbl => hW.block b hbl fun e => hb e.symm).sub fun _ _ _ => trivial
theorem compactRows_m {base : Nat} {w : World} {v : Value} {ps : List (List Int × Value)} (h : RwS base w v ps) (hn : ps.length ≤ 1000000) (hl : ∀ p ∈ ps, p.1.length ≤ 1000000) :
    Calls Tryz.prog 86 #[v, .func (.func 18) #[] #[]] w fun e w' => w.grownBy w' v.ownBlock ∧ ∃ v' ps', e = .returned v' ∧ ps'.map (·.1) = cptX (ps.map (·.1)) ∧ RwS base w' v' ps' ∧ ∀ p ∈ ps', p ∈ ps :=
  compactRowsG 18 #[] (enters_of Tryz.func18 (by kernel_rfl) rfl) h hn fun p hp r hr W hW => equal_int_t Any Any W p.2 r.2 p.1 r.1 (h.there hW p hp) (h.there hW r hr) (hl p hp) (hl r hr)
end Go.Proofs.YtpjijbophjdgaaaGreat
namespace Go.Proofs.YtpjijbophjdgaaaGreat
theorem mem_kid {nm : ByteArray} {ks : List RT} {k : RT} (hk : k ∈ ks) : k ∈ subR (.node nm ks) := by
  rw [subR]; exact List.mem_cons_of_mem _ (mem_subRs hk k (subR_self k))
theorem mem_subRs_ex {u : RT} {ks : List RT} (h : u ∈ subRs ks) : ∃ k ∈ ks, u ∈ subR k := by
  rw [subRs_flat] at h
  obtain ⟨k, hk, hu⟩ := List.mem_flatMap.1 h
  exact ⟨k, hk, hu⟩
end Go.Proofs.YtpjijbophjdgaaaGreat
namespace Go.Proofs.YtpjijbophjdgaaaGreat
open Go.RowKit Go.Deep
end Go.Proofs.YtpjijbophjdgaaaGreat
namespace Go.Proofs.YtpjijbophjdgaaaGreat
def allI (n : Nat) : List Int := (List.range n).map fun (i : Nat) => (i : Int)
theorem mem_allI {n : Nat} {x : Int} : x ∈ allI n ↔ 0 ≤ x ∧ x < n := by
  unfold allI
  rw [List.mem_map]
  constructor
  · rintro ⟨i, hi, rfl⟩
    have := List.mem_range.1 hi; omega
  · rintro ⟨h0, h1⟩
    exact ⟨x.toNat, List.mem_range.2 (by omega), by omega⟩
theorem allI_len (n : Nat) : (allI n).length = n := by unfold allI; rw [List.length_map, List.length_range]
theorem perm_subI : ∀ {p q : List Int}, p.Nodup → (∀ x ∈ p, x ∈ q) → q.length ≤ p.length → p.Perm q
  | [], q, _, _, h => by
    have : q = [] := List.eq_nil_of_length_eq_zero (by simpa using h)
    rw [this]
  | x :: p, q, hn, hs, hl => by
    rw [List.nodup_cons] at hn
    have hx := hs x (by simp)
    obtain ⟨a, b, rfl⟩ := List.append_of_mem hx
    have h1 : p.Perm (a ++ b) := perm_subI hn.2 (fun y hy => by
      have h2 := hs y (by simp [hy])
      rw [List.mem_append, List.mem_cons] at h2
      rw [List.mem_append]
      rcases h2 with h2 | h2 | h2
      · exact .inl h2
      · exact absurd (by rw [← h2]; exact hy) hn.1
      · exact .inr h2) (by
      rw [List.length_append, List.length_cons, List.length_cons] at hl
      rw [List.length_append]; omega)
    exact (h1.cons x).trans List.perm_middle.symm
section
variable {n : Nat} {S : List (List Int)}
end
end Go.Proofs.YtpjijbophjdgaaaGreat
namespace Go.Proofs.YtpjijbophjdgaaaGreat
theorem size_kid {nm : ByteArray} {ks : List RT} {k : RT} (h : k ∈ ks) : sizeR k < sizeR (.node nm ks) := by
  rw [sizeR]
  have : ∀ l : List RT, k ∈ l → sizeR k ≤ sizeRs l := fun l => by
    induction l with
    | nil => intro h; cases h
    | cons a l ih =>
      intro h
      rw [sizeRs]
      rcases List.mem_cons.1 h with rfl | h
      · omega
      · have := ih h; omega
  have := this ks h
  omega
section
variable {F : Frs} {n : Nat} {rk : Nat → Nat}
end
end Go.Proofs.YtpjijbophjdgaaaGreat
namespace Go.Proofs.YtpjijbophjdgaaaGreat
open Go.RowKit Go.Deep
end Go.Proofs.YtpjijbophjdgaaaGreat
namespace Go.Proofs.YtpjijbophjdgaaaGreat
section
variable {names : List ByteArray} {l : List Grp} {S : List (List Int)}
def Lv (names : List ByteArray) (s : RT) (x : List Int) : Prop := ∀ y, y ∈ leafR s ↔ ∃ b : Nat, (b : Int) ∈ x ∧ y = gs names b
end
end Go.Proofs.YtpjijbophjdgaaaGreat
namespace Go.Proofs.YtpjijbophjdgaaaGreat
section
variable {F : Frs} {n : Nat} {rk : Nat → Nat}
end
end Go.Proofs.YtpjijbophjdgaaaGreat
namespace Go.Proofs.YtpjijbophjdgaaaGreat
section
variable {names : List ByteArray} {t : Tre} {S : Nat → List Int}
end
end Go.Proofs.YtpjijbophjdgaaaGreat
namespace Go.Proofs.YtpjijbophjdgaaaGreat
section
variable {F : Frs} {n : Nat} {rk : Nat → Nat} {P : Nat → Bool}
end
end Go.Proofs.YtpjijbophjdgaaaGreat
namespace Go.Proofs.YtpjijbophjdgaaaGreat
section
variable {names : List ByteArray} {l : List Grp}
end
end Go.Proofs.YtpjijbophjdgaaaGreat
namespace Go.Proofs.YtpjijbophjdgaaaGreat
section
variable {F G : Frs} {n m : Nat} {rk : Nat → Nat}
end
section
variable {F : Frs} {n : Nat} {op : List Nat} {st : List (List RT)}
end
section
variable {F : Frs} {n : Nat} {o : Nat} {os : List Nat} {Z : List RT} {st : List (List RT)}
end
end Go.Proofs.YtpjijbophjdgaaaGreat
namespace Go.Proofs.YtpjijbophjdgaaaGreat
open Go.RowKit Go.Deep
end Go.Proofs.YtpjijbophjdgaaaGreat
namespace Go.Proofs.YtpjijbophjdgaaaGreat
open Go.RowKit Go.Deep
section
variable {base n : Nat} {A : Nat → Nat} {kv : Nat → Value} {F : Frs} {w w' : World}
end
end Go.Proofs.YtpjijbophjdgaaaGreat
namespace Go.Proofs.YtpjijbophjdgaaaGreat
section
variable {t : Tre}
theorem sub_hit (h : treeErr t = 0) : ∀ (d i j : Nat), t.ps.length - i ≤ d → i < t.ps.length → j < t.ps.length → subF (frT t) (rkT t) i j = hitB t.ps i j
  | 0, i, _, hd, hi, _ => by omega
  | d + 1, i, j, hd, hi, hj => by
    obtain ⟨_, _, _, hok, _⟩ := treeErr_zero h
    have hw := (frT_arb h).wf
    rw [Bool.eq_iff_iff, hit_kid hok hj, subF_eq hw hi, Bool.or_eq_true, beq_iff_eq, List.any_eq_true]
    constructor
    · rintro (e | ⟨c, hc, e⟩)
      · exact .inl e
      · rw [frT_kids] at hc
        obtain ⟨h1, h2, h3⟩ := mem_kidsL.1 hc
        exact .inr ⟨c, h1, h2, h3, by rw [← sub_hit h d c j (by omega) h1 hj]; exact e⟩
    · rintro (e | ⟨c, h1, h2, h3, e⟩)
      · exact .inl e
      · exact .inr ⟨c, by rw [frT_kids]; exact mem_kidsL.2 ⟨h1, h2, h3⟩, by rw [sub_hit h d c j (by omega) h1 hj]; exact e⟩
theorem hit_chain {ps : List Int} (hp : pOkB ps = true) {i k : Nat} (hik : i ≤ k) : ∀ (d j : Nat), j ≤ d → j < ps.length → hitB ps i j = true → hitB ps k j = true → hitB ps i k = true
  | d, j, hd, hj, h1, h2 => by
    have hkj := hit_le hp hj h2
    by_cases e : j = k
    · subst e; exact h1
    · obtain ⟨p0, pj⟩ := pOkB_par hp hj (by omega)
      rw [hit_step hp hj (by omega)] at h1 h2
      cases d with
      | zero => omega
      | succ d => exact hit_chain hp hik d (gi ps j).toNat (by omega) (by omega) h1 h2
end
end Go.Proofs.YtpjijbophjdgaaaGreat
namespace Go.Proofs.YtpjijbophjdgaaaGreat
end Go.Proofs.YtpjijbophjdgaaaGreat
