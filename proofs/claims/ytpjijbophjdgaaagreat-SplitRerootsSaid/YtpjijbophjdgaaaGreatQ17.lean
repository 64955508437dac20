/- The reference's canonical tree is the canonical tree: its order is the sort's order. The tree of groups that are not in conflict: valid, its leaves are the names, no node has one child. Two rose trees without one-child nodes that have the same families of leaves are the same, sorted. Contracts: Support, Original, Significant of sharederror. Contracts of the references: Check of layer 30; right, check, Support, Original, Significant of layer 35. The contracts of layer 35's reference's has, common, conflict. Maps whose keys are strings. -/
import Derived.Test.YtpjijbophjdgaaaGreatQ16
import Derived.Test.YtpjijbophjdgaaaGreatQ4
import Derived.Test.YtpjijbophjdgaaaGreatQ5
namespace Go.Proofs.YtpjijbophjdgaaaGreat
open Go.RowKit Go.Deep
theorem cmpS_le_trans {a b c : ByteArray} (h : cmpS a b ≤ 0) (h' : cmpS b c ≤ 0) : cmpS a c ≤ 0 := by
  by_cases h1 : cmpS a b = 0
  · rw [cmpS_zero h1]; exact h'
  · by_cases h2 : cmpS b c = 0
    · rw [← cmpS_zero h2]; exact h
    · have := cmpS_trans (a := a) (b := b) (c := c) (by omega) (by omega); omega
theorem insR_comm {a b : RT} (h : firstR a ≠ firstR b) : ∀ l, insR a (insR b l) = insR b (insR a l)
  | [] => by
    have h1 := cmpS_anti (firstR a) (firstR b)
    have h2 : cmpS (firstR a) (firstR b) ≠ 0 := fun q => h (cmpS_zero q)
    simp only [insR]
    by_cases e : cmpS (firstR a) (firstR b) ≤ 0
    · rw [if_pos e, if_neg (by omega)]
    · rw [if_neg e, if_pos (by omega)]
  | c :: l => by
    have h1 := cmpS_anti (firstR a) (firstR b)
    have h2 : cmpS (firstR a) (firstR b) ≠ 0 := fun q => h (cmpS_zero q)
    by_cases ea : cmpS (firstR a) (firstR c) ≤ 0
    · by_cases eb : cmpS (firstR b) (firstR c) ≤ 0
      · by_cases e : cmpS (firstR a) (firstR b) ≤ 0
        · have e' : ¬ cmpS (firstR b) (firstR a) ≤ 0 := by omega
          simp only [insR, ea, eb, e, e', if_true, if_false]
        · have e' : cmpS (firstR b) (firstR a) ≤ 0 := by omega
          simp only [insR, ea, eb, e, e', if_true, if_false]
      · have e' : ¬ cmpS (firstR b) (firstR a) ≤ 0 := fun q => eb (cmpS_le_trans q ea)
        simp only [insR, ea, eb, e', if_true, if_false]
    · by_cases eb : cmpS (firstR b) (firstR c) ≤ 0
      · have e' : ¬ cmpS (firstR a) (firstR b) ≤ 0 := fun q => ea (cmpS_le_trans q eb)
        simp only [insR, ea, eb, e', if_true, if_false]
      · simp only [insR, ea, eb, if_false]
        rw [insR_comm h l]
def Dst (r : RT) : Prop := ∀ s ∈ subR r, (s.kids.map fun k => firstR (sortR k)).Nodup
mutual
theorem nsR_subl : ∀ (r s : RT), s ∈ subR r → (nsR s).Sublist (nsR r)
  | .node nm ks, s, h => by
    rw [subR, List.mem_cons] at h
    rcases h with rfl | h
    · exact List.Sublist.refl _
    · rw [nsR]; exact (nsRs_subl ks s h).trans (List.sublist_cons_self _ _)
theorem nsRs_subl : ∀ (rs : List RT) (s : RT), s ∈ subRs rs → (nsR s).Sublist (nsRs rs)
  | [], s, h => by simp [subRs] at h
  | r :: rs, s, h => by
    rw [subRs, List.mem_append] at h
    rw [nsRs]
    rcases h with h | h
    · exact (nsR_subl r s h).trans (List.sublist_append_left _ _)
    · exact (nsRs_subl rs s h).trans (List.sublist_append_right _ _)
end
theorem leafR_sub {r s : RT} (h : s ∈ subR r) : (leafR s).Sublist (leafR r) := (nsR_subl r s h).filter _
theorem subR_self (r : RT) : r ∈ subR r := by cases r; rw [subR]; simp
theorem first_leaf : ∀ r : RT, (∀ s ∈ subR r, s.kids = [] → namedB s.nm.data.toList = true) → firstR r ∈ leafR r
  | .node nm [], h => by
    have h1 : namedB nm.data.toList = true := h (.node nm []) (subR_self _) rfl
    rw [leafR_leaf (named_size h1), firstR]; simp
  | .node nm (k :: ks), h => by
    have hk : ∀ s ∈ subR k, s ∈ subR (.node nm (k :: ks)) := fun s hs => by rw [subR, subRs]; simp [hs]
    rw [firstR]
    exact (leafR_sub (hk k (subR_self k))).subset (first_leaf k fun s hs => h s (hk s hs))
theorem mem_subRs {k : RT} : ∀ {ks : List RT}, k ∈ ks → ∀ s ∈ subR k, s ∈ subRs ks
  | b :: ks, h, s, hs => by
    rw [subRs, List.mem_append]
    rcases List.mem_cons.1 h with rfl | h
    · exact .inl hs
    · exact .inr (mem_subRs h s hs)
mutual
theorem subR_trans : ∀ (r : RT) {s u : RT}, s ∈ subR r → u ∈ subR s → u ∈ subR r
  | .node nm ks, s, u, h, hu => by
    rw [subR, List.mem_cons] at h
    rcases h with rfl | h
    · exact hu
    · rw [subR]; exact List.mem_cons_of_mem _ (subRs_trans ks h hu)
theorem subRs_trans : ∀ (rs : List RT) {s u : RT}, s ∈ subRs rs → u ∈ subR s → u ∈ subRs rs
  | [], s, u, h, _ => by simp [subRs] at h
  | r :: rs, s, u, h, hu => by
    rw [subRs, List.mem_append] at h ⊢
    rcases h with h | h
    · exact .inl (subR_trans r h hu)
    · exact .inr (subRs_trans rs h hu)
end
theorem good_dst {r : RT} (h : GoodR r) : Dst r := by
  intro s hs
  have hnd : (leafR s).Nodup := (leafR_sub hs).nodup h.nd
  obtain ⟨nm, ks⟩ := s
  show (ks.map _).Nodup
  by_cases hk : ks = []
  · subst hk; simp
  · rw [leafR_node (nm := nm) (ks := ks) (h.inn (.node nm ks) hs hk)] at hnd
    have hmem : ∀ k ∈ ks, firstR (sortR k) ∈ leafR k := fun k hk => (leafR_sort k).mem_iff.1 (first_leaf _ fun q hq hqk => by
      obtain ⟨x, hx, rfl⟩ := List.mem_map.1 ((subR_sort k).mem_iff.1 hq)
      rw [sortR_kids] at hqk
      rw [sortR_nm]
      exact h.lf x (subR_trans r hs (by rw [subR]; exact List.mem_cons_of_mem _ (mem_subRs hk x hx))) (sortRs_nil.1 hqk))
    clear hs hk
    induction ks with
    | nil => simp
    | cons k ks ih =>
      rw [List.flatMap_cons, List.nodup_append] at hnd
      rw [List.map_cons, List.nodup_cons]
      refine ⟨fun hm => ?_, ih hnd.2.1 fun q hq => hmem q (by simp [hq])⟩
      obtain ⟨q, hq, e⟩ := List.mem_map.1 hm
      exact hnd.2.2 _ (hmem k (by simp)) _ (List.mem_flatMap.2 ⟨q, hq, hmem q (by simp [hq])⟩) e.symm
end Go.Proofs.YtpjijbophjdgaaaGreat
namespace Go.Proofs.YtpjijbophjdgaaaGreat
section
variable {names : List ByteArray} {l : List Grp}
theorem range_gs (names : List ByteArray) : (List.range names.length).map (gs names) = names := by
  refine List.ext_getElem (by simp) fun i h1 h2 => ?_
  simp [gs, h2]
end
end Go.Proofs.YtpjijbophjdgaaaGreat
namespace Go.Proofs.YtpjijbophjdgaaaGreat
structure OkU (r : RT) : Prop where
  nd : (leafR r).Nodup
  pt : ∀ s ∈ subR r, PartOk s
theorem OkU.good {r : RT} (h : OkU r) : GoodR r := ⟨fun s hs hk => (h.pt s hs).1 hk, fun s hs hk => (h.pt s hs).2.1 hk, h.nd⟩
theorem OkU.sub {r s : RT} (h : OkU r) (hs : s ∈ subR r) : OkU s := ⟨(leafR_sub hs).nodup h.nd, fun q hq => h.pt q (subR_trans r hs hq)⟩
theorem OkU.first {r : RT} (h : OkU r) : firstR r ∈ leafR r := first_leaf r h.good.lf
theorem mem_kid {nm : ByteArray} {ks : List RT} {k : RT} (hk : k ∈ ks) : k ∈ subR (.node nm ks) := by
  rw [subR]; exact List.mem_cons_of_mem _ (mem_subRs hk k (subR_self k))
theorem OkU.leafs {nm : ByteArray} {ks : List RT} (h : OkU (.node nm ks)) (h0 : ks ≠ []) : leafR (.node nm ks) = ks.flatMap leafR :=
  leafR_node ((h.pt _ (subR_self _)).1 h0)
theorem OkU.apart {nm : ByteArray} {ks : List RT} (h : OkU (.node nm ks)) {i j : Nat} (hi : i < ks.length) (hj : j < ks.length) {x : ByteArray} (h1 : x ∈ leafR ks[i]) (h2 : x ∈ leafR ks[j]) : i = j := by
  have h0 : ks ≠ [] := fun e => by subst e; simp at hi
  have hn := h.nd
  rw [h.leafs h0, List.nodup_iff_pairwise_ne, List.pairwise_flatMap] at hn
  have hp := List.pairwise_iff_getElem.1 hn.2
  rcases Nat.lt_trichotomy i j with c | c | c
  · exact absurd rfl (hp i j hi hj c x h1 x h2)
  · exact c
  · exact absurd rfl (hp j i hj hi c x h2 x h1)
theorem OkU.same_kid {nm : ByteArray} {ks : List RT} (h : OkU (.node nm ks)) {k k' : RT} (hk : k ∈ ks) (hk' : k' ∈ ks) {x : ByteArray} (h1 : x ∈ leafR k) (h2 : x ∈ leafR k') : k = k' := by
  obtain ⟨i, hi, rfl⟩ := List.getElem_of_mem hk
  obtain ⟨j, hj, rfl⟩ := List.getElem_of_mem hk'
  have := h.apart hi hj h1 h2
  subst this; rfl
theorem OkU.lacks {nm : ByteArray} {ks : List RT} (h : OkU (.node nm ks)) {k : RT} (hk : k ∈ ks) : ∃ x ∈ leafR (.node nm ks), x ∉ leafR k := by
  have h0 : ks ≠ [] := fun e => by subst e; simp at hk
  have h1 : ks.length ≠ 1 := (h.pt _ (subR_self _)).2.2
  have h2 : 2 ≤ ks.length := by
    have := List.length_pos_of_mem hk
    omega
  obtain ⟨i, hi, rfl⟩ := List.getElem_of_mem hk
  obtain ⟨j, hj, hij⟩ : ∃ j, j < ks.length ∧ i ≠ j := by
    by_cases c : i = 0
    · exact ⟨1, by omega, by omega⟩
    · exact ⟨0, by omega, c⟩
  have hf := (h.sub (mem_kid (List.getElem_mem hj))).first
  refine ⟨firstR ks[j], ?_, fun q => hij (h.apart hi hj q hf)⟩
  rw [h.leafs h0]
  exact List.mem_flatMap.2 ⟨_, List.getElem_mem hj, hf⟩
theorem OkU.two {nm : ByteArray} {ks : List RT} (h : OkU (.node nm ks)) (h0 : ks ≠ []) (y : ByteArray) : ∃ x ∈ leafR (.node nm ks), x ≠ y := by
  obtain ⟨k, hk⟩ := List.exists_mem_of_ne_nil _ h0
  obtain ⟨x, hx, hn⟩ := h.lacks hk
  have hf := (h.sub (mem_kid hk)).first
  by_cases c : x = y
  · subst c
    refine ⟨firstR k, (leafR_sub (mem_kid hk)).subset hf, fun e => hn ?_⟩
    rw [← e]; exact hf
  · exact ⟨x, hx, c⟩
def SameL (r s : RT) : Prop := ∀ x, x ∈ leafR r ↔ x ∈ leafR s
def FamIn (r1 r2 : RT) : Prop := ∀ s ∈ subR r1, ∃ u ∈ subR r2, SameL s u
theorem fam_root {r1 r2 : RT} (h1 : FamIn r1 r2) (h2 : FamIn r2 r1) : SameL r1 r2 := by
  obtain ⟨u, hu, e⟩ := h1 r1 (subR_self _)
  obtain ⟨v, hv, f⟩ := h2 r2 (subR_self _)
  exact fun x => ⟨fun hx => (leafR_sub hu).subset ((e x).1 hx), fun hx => (leafR_sub hv).subset ((f x).1 hx)⟩
theorem mem_subRs_ex {u : RT} {ks : List RT} (h : u ∈ subRs ks) : ∃ k ∈ ks, u ∈ subR k := by
  rw [subRs_flat] at h
  obtain ⟨k, hk, hu⟩ := List.mem_flatMap.1 h
  exact ⟨k, hk, hu⟩
theorem fam_kid {n1 n2 : ByteArray} {k1 k2 : List RT} (o1 : OkU (.node n1 k1)) (h1 : FamIn (.node n1 k1) (.node n2 k2)) (hs : SameL (.node n1 k1) (.node n2 k2)) {k : RT} (hk : k ∈ k1) {s : RT} (hsk : s ∈ subR k) :
    ∃ q ∈ k2, ∃ u ∈ subR q, SameL s u := by
  obtain ⟨u, hu, e⟩ := h1 s (subR_trans _ (mem_kid hk) hsk)
  rw [subR, List.mem_cons] at hu
  rcases hu with rfl | hu
  · obtain ⟨x, hx, hn⟩ := o1.lacks hk
    exact absurd ((leafR_sub hsk).subset ((e x).2 ((hs x).1 hx))) hn
  · obtain ⟨q, hq, hu⟩ := mem_subRs_ex hu
    exact ⟨q, hq, u, hu, e⟩
theorem ins_perm {a b : List RT} (h : a.Perm b) : (a.map firstR).Nodup → a.foldr insR [] = b.foldr insR [] := by
  induction h with
  | nil => intro _; rfl
  | cons x _ ih => intro hn; rw [List.foldr_cons, List.foldr_cons, ih (by rw [List.map_cons, List.nodup_cons] at hn; exact hn.2)]
  | swap x y l =>
    intro hn
    simp only [List.foldr_cons]
    rw [List.map_cons, List.nodup_cons, List.map_cons] at hn
    exact insR_comm (fun e => hn.1 (by rw [e]; simp)) _
  | trans p _ ih1 ih2 => intro hn; rw [ih1 hn, ih2 ((p.map _).nodup_iff.1 hn)]
theorem sortRs_fold : ∀ l : List RT, sortRs l = (l.map sortR).foldr insR []
  | [] => by rw [sortRs]; rfl
  | r :: l => by rw [sortRs, sortRs_fold l]; rfl
theorem size0_eq {a b : ByteArray} (ha : a.size = 0) (hb : b.size = 0) : a = b := by
  apply ByteArray.ext
  apply Array.ext
  · show a.size = b.size; omega
  · intro i hi _; have : i < a.size := hi; omega
theorem uniq_sort : ∀ (d : Nat) (r1 r2 : RT), sizeR r1 ≤ d → OkU r1 → OkU r2 → FamIn r1 r2 → FamIn r2 r1 → sortR r1 = sortR r2
  | 0, r1, _, hd, _, _, _, _ => by have := sizeR_pos r1; omega
  | d + 1, .node n1 k1, .node n2 k2, hd, o1, o2, h1, h2 => by
    have hs := fam_root h1 h2
    have hs' : SameL (.node n2 k2) (.node n1 k1) := fun x => (hs x).symm
    by_cases e1 : k1 = []
    · subst e1
      have hz1 := named_size ((o1.pt _ (subR_self _)).2.1 rfl)
      have l1 : leafR (.node n1 []) = [n1] := leafR_leaf hz1
      by_cases e2 : k2 = []
      · subst e2
        have hz2 := named_size ((o2.pt _ (subR_self _)).2.1 rfl)
        have l2 : leafR (.node n2 []) = [n2] := leafR_leaf hz2
        have := (hs n1).1 (by rw [l1]; simp)
        rw [l2, List.mem_singleton] at this
        rw [this]
      · obtain ⟨x, hx, hn⟩ := o2.two e2 n1
        have := (hs x).2 hx
        rw [l1, List.mem_singleton] at this
        exact absurd this hn
    · by_cases e2 : k2 = []
      · subst e2
        have hz2 := named_size ((o2.pt _ (subR_self _)).2.1 rfl)
        have l2 : leafR (.node n2 []) = [n2] := leafR_leaf hz2
        obtain ⟨x, hx, hn⟩ := o1.two e1 n2
        have := (hs x).1 hx
        rw [l2, List.mem_singleton] at this
        exact absurd this hn
      · have hz1 := (o1.pt _ (subR_self _)).1 e1
        have hz2 : n2.size = 0 := (o2.pt _ (subR_self _)).1 e2
        have sub1 : ∀ k ∈ k1, OkU k := fun k hk => o1.sub (mem_kid hk)
        have sub2 : ∀ k ∈ k2, OkU k := fun k hk => o2.sub (mem_kid hk)
        -- children match
        have key : ∀ {n1 n2 : ByteArray} {k1 k2 : List RT}, OkU (.node n1 k1) → OkU (.node n2 k2) → FamIn (.node n1 k1) (.node n2 k2) → FamIn (.node n2 k2) (.node n1 k1) → SameL (.node n1 k1) (.node n2 k2) → SameL (.node n2 k2) (.node n1 k1) →
            ∀ k ∈ k1, ∃ q ∈ k2, SameL k q ∧ FamIn k q ∧ FamIn q k := by
          intro n1 n2 k1 k2 o1 o2 h1 h2 hs hs' k hk
          obtain ⟨q, hq, u, hu, e⟩ := fam_kid o1 h1 hs hk (subR_self k)
          obtain ⟨k', hk', u', hu', e'⟩ := fam_kid o2 h2 hs' hq (subR_self q)
          have hf := (o1.sub (mem_kid hk)).first
          have hfq : firstR k ∈ leafR q := (leafR_sub hu).subset ((e _).1 hf)
          have hkk : k = k' := o1.same_kid hk hk' hf ((leafR_sub hu').subset ((e' _).1 hfq))
          subst hkk
          have hsame : SameL k q := fun x => ⟨fun hx => (leafR_sub hu).subset ((e x).1 hx), fun hx => (leafR_sub hu').subset ((e' x).1 hx)⟩
          refine ⟨q, hq, hsame, fun s hsk => ?_, fun s hsq => ?_⟩
          · obtain ⟨q2, hq2, v, hv, ev⟩ := fam_kid o1 h1 hs hk hsk
            have hfs := ((o1.sub (mem_kid hk)).sub hsk).first
            have := o2.same_kid hq hq2 ((hsame _).1 ((leafR_sub hsk).subset hfs)) ((leafR_sub hv).subset ((ev _).1 hfs))
            subst this
            exact ⟨v, hv, ev⟩
          · obtain ⟨q2, hq2, v, hv, ev⟩ := fam_kid o2 h2 hs' hq hsq
            have hfs := ((o2.sub (mem_kid hq)).sub hsq).first
            have := o1.same_kid hk hq2 ((hsame _).2 ((leafR_sub hsq).subset hfs)) ((leafR_sub hv).subset ((ev _).1 hfs))
            subst this
            exact ⟨v, hv, ev⟩
        have hsz : ∀ k ∈ k1, sizeR k ≤ d := fun k hk => by
          rw [sizeR] at hd
          have : ∀ l : List RT, k ∈ l → sizeR k ≤ sizeRs l := fun l => by
            induction l with
            | nil => intro h; cases h
            | cons a l ih =>
              intro h
              rw [sizeRs]
              rcases List.mem_cons.1 h with rfl | h
              · omega
              · have := ih h; omega
          have := this k1 hk
          omega
        have m1 : ∀ k ∈ k1, ∃ q ∈ k2, sortR k = sortR q := fun k hk => by
          obtain ⟨q, hq, _, f1, f2⟩ := key o1 o2 h1 h2 hs hs' k hk
          exact ⟨q, hq, uniq_sort d k q (hsz k hk) (sub1 k hk) (sub2 q hq) f1 f2⟩
        have m2 : ∀ q ∈ k2, ∃ k ∈ k1, sortR q = sortR k := fun q hq => by
          obtain ⟨k, hk, _, f1, f2⟩ := key o2 o1 h2 h1 hs' hs q hq
          exact ⟨k, hk, (uniq_sort d k q (hsz k hk) (sub1 k hk) (sub2 q hq) f2 f1).symm⟩
        have d1 : ((k1.map sortR).map firstR).Nodup := by rw [List.map_map]; exact good_dst o1.good _ (subR_self _)
        have d2 : ((k2.map sortR).map firstR).Nodup := by rw [List.map_map]; exact good_dst o2.good _ (subR_self _)
        have nd : ∀ {l : List RT}, (l.map firstR).Nodup → l.Nodup := fun {l} h => by
          unfold List.Nodup at h ⊢
          rw [List.pairwise_map] at h
          exact h.imp fun h e => h (by rw [e])
        have hp : (k1.map sortR).Perm (k2.map sortR) := (List.perm_ext_iff_of_nodup (nd d1) (nd d2)).2 fun x => by
          constructor
          · intro hx
            obtain ⟨k, hk, rfl⟩ := List.mem_map.1 hx
            obtain ⟨q, hq, e⟩ := m1 k hk
            exact List.mem_map.2 ⟨q, hq, e.symm⟩
          · intro hx
            obtain ⟨q, hq, rfl⟩ := List.mem_map.1 hx
            obtain ⟨k, hk, e⟩ := m2 q hq
            exact List.mem_map.2 ⟨k, hk, e.symm⟩
        rw [sortR, sortR, sortRs_fold, sortRs_fold, ins_perm hp d1, size0_eq (a := n1) (b := n2) hz1 hz2]
end Go.Proofs.YtpjijbophjdgaaaGreat
namespace Go.Proofs.YtpjijbophjdgaaaGreat
open Go.RowKit Go.Deep
section
variable {P : Program} {ops : Array Oper} {rest : List Oper} {o : Oper} {a : Act} {Q : Exit → Act → World → Prop}
end
end Go.Proofs.YtpjijbophjdgaaaGreat
namespace Go.Proofs.YtpjijbophjdgaaaGreat
open Go.RowKit Go.Deep
end Go.Proofs.YtpjijbophjdgaaaGreat
namespace Go.Proofs.YtpjijbophjdgaaaGreat
open Go.RowKit Go.Deep
end Go.Proofs.YtpjijbophjdgaaaGreat
namespace Go.Proofs.YtpjijbophjdgaaaGreat
open Go.RowKit Go.Deep
def putS (l : List (ByteArray × Value)) (k : ByteArray) (v : Value) : List (ByteArray × Value) := if (l.lookup k).isNone then l ++ [(k, v)] else l.map fun x => if x.1 = k then (k, v) else x
def SMap (w : World) (b : Nat) (l : List (ByteArray × Value)) : Prop := ∃ es clock, w.heap[b]? = some (.map es clock) ∧ es.toList.map (fun x => (x.key, x.val)) = l.map (fun x => (Value.string x.1, x.2))
def UniqS (l : List (ByteArray × Value)) : Prop := (l.map (·.1)).Nodup
theorem ba_beq (a b : ByteArray) : (a == b) = decide (a = b) := by
  obtain ⟨a⟩ := a
  obtain ⟨b⟩ := b
  have : ((⟨a⟩ : ByteArray) == ⟨b⟩) = (a == b) := rfl
  rw [this]
  by_cases h : a = b
  · subst h; simp
  · have h2 : ¬ (⟨a⟩ : ByteArray) = ⟨b⟩ := fun e => h (ByteArray.mk.inj e)
    rw [decide_eq_false h2]; simpa using h
theorem ba_self (a : ByteArray) : (a == a) = true := by rw [ba_beq]; simp
theorem ba_ne {a b : ByteArray} (h : ¬ a = b) : (a == b) = false := by rw [ba_beq]; simpa using h
section
variable {P : Program} {w : World}
theorem findNow_s (k : ByteArray) : ∀ (es : List MapEntry) (l : List (ByteArray × Value)) (i : Nat),
    es.map (fun x => (x.key, x.val)) = l.map (fun x => (Value.string x.1, x.2)) →
      (l.lookup k = none ∧ Instr.findNow .string (.string k) es i = some none) ∨ ∃ j v, l.lookup k = some v ∧ (l[j]?).map (·.1) = some k ∧ Instr.findNow .string (.string k) es i = some (some (i + j, v)) := by
  intro es
  induction es with
  | nil =>
    intro l i hl
    cases l with
    | nil => exact .inl ⟨rfl, rfl⟩
    | cons => cases hl
  | cons x es ih =>
    intro l i hl
    cases l with
    | nil => cases hl
    | cons y l =>
      simp only [List.map_cons, List.cons.injEq, Prod.mk.injEq] at hl
      obtain ⟨⟨h1, h2⟩, h3⟩ := hl
      obtain ⟨y1, y2⟩ := y
      have h1 : x.key = .string y1 := h1
      have h2 : x.val = y2 := h2
      by_cases h : k = y1
      · subst h
        refine .inr ⟨0, y2, by rw [List.lookup_cons, ba_self], rfl, ?_⟩
        simp [Instr.findNow, Instr.sameNow, h1, h2, ba_self]
      · have hb : (k == y1) = false := ba_ne h
        rcases ih l (i + 1) h3 with ⟨h4, h5⟩ | ⟨j, v, h4, h5, h6⟩
        · refine .inl ⟨by rw [List.lookup_cons, hb]; exact h4, ?_⟩
          simp [Instr.findNow, Instr.sameNow, h1, hb, h5]
        · refine .inr ⟨j + 1, v, by rw [List.lookup_cons, hb]; exact h4, by simpa using h5, ?_⟩
          simp [Instr.findNow, Instr.sameNow, h1, hb, h6]; omega
theorem run_findS {t : TypeId} (ht : P.underlying t = some .string) (k : ByteArray) (es : List MapEntry) (l : List (ByteArray × Value)) (hl : es.map (fun x => (x.key, x.val)) = l.map (fun x => (Value.string x.1, x.2))) :
    (l.lookup k = none ∧ (Instr.findKey t (.string k) es).run P w = .ok none w) ∨ ∃ j v, l.lookup k = some v ∧ (l[j]?).map (·.1) = some k ∧ (Instr.findKey t (.string k) es).run P w = .ok (some (j, v)) w := by
  have hu := run_underlying (w := w) ht
  rcases findNow_s k es l 0 hl with ⟨h1, h2⟩ | ⟨j, v, h1, h2, h3⟩
  · exact .inl ⟨h1, by simp [Instr.findKey, hu, h2]⟩
  · exact .inr ⟨j, v, h1, h2, by simp [Instr.findKey, hu, h3]⟩
theorem run_checkS {t : TypeId} (ht : P.underlying t = some .string) (em : Bool) (k : ByteArray) : (Instr.checkKey em 10000 t (.string k)).run P w = .ok () w := by
  have hu := run_underlying (w := w) ht
  show (Instr.checkKey em (9999 + 1) t (.string k)).run P w = _
  unfold Instr.checkKey
  simp [hu]
theorem lookupS_none {l : List (ByteArray × Value)} {k : ByteArray} : l.lookup k = none ↔ k ∉ l.map (·.1) := by
  induction l with
  | nil => simp
  | cons y l ih =>
    obtain ⟨y1, y2⟩ := y
    rw [List.lookup_cons]
    by_cases h : k = y1
    · subst h; simp [ba_self]
    · have hb : (k == y1) = false := ba_ne h
      rw [hb]; simp only [List.map_cons, List.mem_cons, not_or]
      exact ⟨fun h2 => ⟨h, ih.1 h2⟩, fun h2 => ih.2 h2.2⟩
theorem putS_keys (l : List (ByteArray × Value)) (k : ByteArray) (v : Value) : (putS l k v).map (·.1) = if (l.lookup k).isNone then l.map (·.1) ++ [k] else l.map (·.1) := by
  unfold putS
  split
  · simp
  · rw [List.map_map]
    refine List.map_congr_left fun x _ => ?_
    show (if x.1 = k then (k, v) else x).1 = x.1
    split
    · rename_i h; exact h.symm
    · rfl
theorem putS_uniq {l : List (ByteArray × Value)} (h : UniqS l) (k : ByteArray) (v : Value) : UniqS (putS l k v) := by
  unfold UniqS
  rw [putS_keys]
  split
  · rename_i h2
    have h3 : k ∉ l.map (·.1) := lookupS_none.1 (by simpa using h2)
    rw [List.nodup_append]
    refine ⟨h, by simp, fun a ha b hb => ?_⟩
    have : b = k := by simpa using hb
    subst this
    exact fun e => h3 (by rw [← e]; exact ha)
  · exact h
theorem modS_uniq {l : List (ByteArray × Value)} (h : UniqS l) {k : ByteArray} (v : Value) {j : Nat} (hj : (l[j]?).map (·.1) = some k) : (l.map fun x => if x.1 = k then (k, v) else x) = l.set j (k, v) := by
  apply List.ext_getElem?
  intro m
  have hjl : j < l.length := by
    cases hlj : l[j]? with
    | none => rw [hlj] at hj; cases hj
    | some y => exact (List.getElem?_eq_some_iff.1 hlj).1
  rw [List.getElem?_map, List.getElem?_set]
  by_cases e : j = m
  · subst e
    rw [if_pos rfl, if_pos hjl]
    rw [List.getElem?_eq_getElem hjl] at hj ⊢
    have h3 : (l[j]).1 = k := by simpa using hj
    simp [h3]
  · rw [if_neg e]
    cases hm : l[m]? with
    | none => rfl
    | some y =>
      have hml := (List.getElem?_eq_some_iff.1 hm).1
      have hne : y.1 ≠ k := fun h4 => by
        have h5 : (l.map (·.1))[m]? = (l.map (·.1))[j]? := by rw [List.getElem?_map, List.getElem?_map, hm, hj]; simp [h4]
        have h6 : m < (l.map (·.1)).length := by simpa using hml
        have h7 : j < (l.map (·.1)).length := by simpa using hjl
        rw [List.getElem?_eq_getElem h6, List.getElem?_eq_getElem h7] at h5
        injection h5 with h5
        exact e ((List.getElem_inj h).1 h5).symm
      simp [hne]
theorem SMap.made (w : World) : SMap (w.alloc (.map #[] 0)) w.heap.size [] := ⟨#[], 0, (MapKept.heap_alloc w _).1, rfl⟩
theorem SMap.same {w' : World} {b : Nat} {l : List (ByteArray × Value)} (h : SMap w b l) (hb : w'.heap[b]? = w.heap[b]?) : SMap w' b l := by
  obtain ⟨es, clock, h1, h2⟩ := h
  exact ⟨es, clock, hb.trans h1, h2⟩
theorem run_sset {mt t el : TypeId} (hm : P.underlying mt = some (.map t el)) (ht : P.underlying t = some .string) {b : Nat} {l : List (ByteArray × Value)} (h : SMap w b l) (hq : UniqS l) (k : ByteArray) (v : Value) :
    ∃ w', (Instr.mapUpdate mt (.map (some b)) (.string k) v).run P w = .ok () w' ∧ SMap w' b (putS l k v) ∧ w'.heap.size = w.heap.size ∧ w'.os = w.os ∧ w'.tape = w.tape ∧ w'.output = w.output ∧ ∀ j, j ≠ b → w'.heap[j]? = w.heap[j]? := by
  obtain ⟨es, clock, hb, hl⟩ := h
  have hu := run_underlying (w := w) hm
  have hg := MapKept.run_getObj_map (P := P) hb
  have hbl := (Array.getElem?_eq_some_iff.1 hb).1
  rcases run_findS (w := w) ht k es.toList l hl with ⟨h1, h2⟩ | ⟨j, v', h1, h5, h2⟩
  · have hs := MapKept.run_setObj_map (P := P) (.map (es.push { key := .string k, val := v, born := clock }) (clock + 1)) hb
    refine ⟨{ w with heap := w.heap.setIfInBounds b (.map (es.push { key := .string k, val := v, born := clock }) (clock + 1)) }, by simp [Instr.mapUpdate, hu, hg, run_checkS ht, h2, hs], ⟨es.push { key := .string k, val := v, born := clock }, clock + 1, by simp [hbl], ?_⟩, by simp, rfl, rfl, rfl, fun j hj => by simp [Ne.symm hj]⟩
    unfold putS; rw [h1]; simp [hl]
  · have hkey : ((es[j]?).map (·.key)) = some (.string k) := by
      have h8 := congrArg (fun q => (q[j]?).map (·.1)) hl
      simp only [List.getElem?_map, Option.map_map] at h8
      have h9 : (l[j]?).map (fun x => Value.string x.1) = some (.string k) := by
        cases hlj : l[j]? with
        | none => rw [hlj] at h5; cases h5
        | some y => rw [hlj] at h5; simp at h5; simp [h5]
      have h10 : (es.toList[j]?).map (·.key) = (l[j]?).map (fun x => Value.string x.1) := h8
      rw [← Array.getElem?_toList, h10, h9]
    have hst : (Instr.keyThatStays (((es[j]?).map (·.key)).getD (.string k)) (.string k)).run P w = .ok (.string k) w := by
      rw [hkey]
      have h0 : Instr.sameBits 10000 (.string k) (.string k) = true := by simp [Instr.sameBits, ba_self]
      show (Instr.keyThatStays (.string k) (.string k)).run P w = _
      unfold Instr.keyThatStays
      rw [if_pos h0]; rfl
    have hs := MapKept.run_setObj_map (P := P) (.map (es.modify j fun e => { e with key := .string k, val := v }) clock) hb
    refine ⟨{ w with heap := w.heap.setIfInBounds b (.map (es.modify j fun e => { e with key := .string k, val := v }) clock) }, by simp [Instr.mapUpdate, hu, hg, run_checkS ht, h2, hst, hs], ⟨es.modify j fun e => { e with key := .string k, val := v }, clock, by simp [hbl], ?_⟩, by simp, rfl, rfl, rfl, fun m hm => by simp [Ne.symm hm]⟩
    have hpl : putS l k v = l.set j (k, v) := by
      unfold putS; rw [h1]
      exact modS_uniq hq v h5
    rw [hpl]
    apply List.ext_getElem?
    intro m
    have h8 := congrArg (fun q => q[m]?) hl
    simp only [List.getElem?_map] at h8
    rw [List.getElem?_map, List.getElem?_map, Array.getElem?_toList, Array.getElem?_modify, List.getElem?_set]
    have hjl : j < l.length := by
      cases hlj : l[j]? with
      | none => rw [hlj] at h5; cases h5
      | some y => exact (List.getElem?_eq_some_iff.1 hlj).1
    have hje : j < es.size := by have := congrArg List.length hl; simp at this; omega
    by_cases e : j = m
    · subst e
      rw [if_pos rfl, if_pos rfl, if_pos hjl, Array.getElem?_eq_getElem hje]
      rfl
    · rw [if_neg e, if_neg e, ← Array.getElem?_toList]; exact h8
theorem run_slook {mt t el : TypeId} (hm : P.underlying mt = some (.map t el)) (ht : P.underlying t = some .string) {z : Value} (hz : (zeroValue el).run P w = .ok z w) {b : Nat} {l : List (ByteArray × Value)} (h : SMap w b l) (k : ByteArray) :
    (Instr.lookup mt (.map (some b)) (.string k) false).run P w = .ok ((l.lookup k).getD z) w := by
  obtain ⟨es, clock, hb, hl⟩ := h
  have hu := run_underlying (w := w) hm
  have hg := MapKept.run_getObj_map (P := P) hb
  rcases run_findS (w := w) ht k es.toList l hl with ⟨h1, h2⟩ | ⟨j, v', h1, _, h2⟩
  · simp [Instr.lookup, hu, hg, run_checkS ht, h2, hz, h1]
  · simp [Instr.lookup, hu, hg, run_checkS ht, h2, h1]
end
end Go.Proofs.YtpjijbophjdgaaaGreat
