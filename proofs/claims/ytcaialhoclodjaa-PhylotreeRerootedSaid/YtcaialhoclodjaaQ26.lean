/- Rerooting twice, plain. The root of a rerooted tree, plain. The last common ancestor of two nodes, plain. What Parse answers. The example of chapter 31, plain: what its functions answer. The helpers of the statements on layer 31: below, find, names, example. strings.IndexAny: laid -/
import Derived.Test.YtcaialhoclodjaaQ21
import Derived.Test.YtcaialhoclodjaaQ23
import Derived.Test.YtcaialhoclodjaaQ25
import Derived.Test.YtcaialhoclodjaaQ17
import Derived.Test.YtcaialhoclodjaaQ19
import Derived.Test.YtcaialhoclodjaaQ2
import Derived.Test.YtcaialhoclodjaaQ3
import Derived.Test.YtcaialhoclodjaaQ22
import Derived.Test.YtcaialhoclodjaaQ14
import Derived.Test.YtcaialhoclodjaaQ16
import Derived.Shelf.SlGeneric
import Derived.Shelf.Strings.IndexAnyAll
import Derived.Ground.NamesProg
import Derived.Ground.Names2Prog
import Derived.Test.YtcaialhoclodjaaProg
namespace Go.Proofs.Ytcaialhoclodjaa
theorem fam_sort {r : RT} {X : ByteArray → Prop} : FamR (sortR r) X ↔ FamR r X := by
  constructor
  · rintro ⟨s, hs, hx⟩
    obtain ⟨u, hu, rfl⟩ := List.mem_map.1 ((subR_sort r).mem_iff.1 hs)
    exact ⟨u, hu, fun x => (hx x).trans (leafR_sort u).mem_iff⟩
  · rintro ⟨s, hs, hx⟩
    exact ⟨sortR s, (subR_sort r).mem_iff.2 (List.mem_map_of_mem hs), fun x => (hx x).trans (leafR_sort s).mem_iff.symm⟩
theorem GoodR.sub {r s : RT} (h : GoodR r) (hs : s ∈ subR r) : GoodR s :=
  ⟨fun q hq => h.inn q (subR_trans r hs hq), fun q hq => h.lf q (subR_trans r hs hq), (leafR_sub hs).nodup h.nd⟩
theorem GoodR.contr_leafs {r : RT} (h : GoodR r) : leafR (contrR r) = leafR r := leaf_contr _ r (Nat.le_refl _) h.inn
theorem fam_contr {r : RT} (h : GoodR r) {X : ByteArray → Prop} : FamR (contrR r) X ↔ FamR r X := by
  constructor
  · rintro ⟨s, hs, hx⟩
    obtain ⟨u, hu, h1, rfl⟩ := sub_contr _ r s (Nat.le_refl _) hs
    refine ⟨u, hu, fun x => (hx x).trans ?_⟩
    have e : contrR u = .node u.nm (u.kids.map contrR) := by
      cases u with
      | node nm ks => exact contr_many h1
    rw [← e, (h.sub hu).contr_leafs]
  · rintro ⟨s, hs, hx⟩
    exact ⟨contrR s, contr_sub _ r s (Nat.le_refl _) hs, fun x => by rw [hx x, (h.sub hs).contr_leafs]⟩
theorem fam_eq {r1 r2 : RT} (o1 : OkU r1) (o2 : OkU r2) (h : ∀ X, FamR r1 X ↔ FamR r2 X) : sortR r1 = sortR r2 :=
  uniq_sort _ r1 r2 (Nat.le_refl _) o1 o2 (fun s hs => by
    obtain ⟨u, hu, e⟩ := (h _).1 ⟨s, hs, fun _ => Iff.rfl⟩
    exact ⟨u, hu, e⟩) (fun s hs => by
    obtain ⟨u, hu, e⟩ := (h _).2 ⟨s, hs, fun _ => Iff.rfl⟩
    exact ⟨u, hu, e⟩)
/-- A leaf is a part. -/
theorem GoodR.single {r : RT} (h : GoodR r) {a : ByteArray} (ha : a ∈ leafR r) : ∃ s ∈ subR r, leafR s = [a] ∧ s = .node a [] := by
  unfold leafR at ha
  obtain ⟨h1, h2⟩ := List.mem_filter.1 ha
  rw [nsR_sub] at h1
  obtain ⟨s, hs, rfl⟩ := List.mem_map.1 h1
  have h2 : s.nm.size ≠ 0 := of_decide_eq_true h2
  have hk : s.kids = [] := by
    by_cases c : s.kids = []
    · exact c
    · exact absurd (h.inn s hs c) h2
  refine ⟨s, hs, ?_⟩
  cases s with
  | node nm ks =>
    have hk : ks = [] := hk
    have h2 : nm.size ≠ 0 := h2
    subst hk
    refine ⟨?_, rfl⟩
    exact leaf_one31 h2
theorem GoodR.meet {r s : RT} (h : GoodR r) (hs : s ∈ subR r) : ∃ x, x ∈ leafR s := by
  obtain ⟨l, hl⟩ := (h.sub hs).head
  exact ⟨firstR s, by rw [hl]; simp⟩
theorem co_iff {r : RT} {X : ByteArray → Prop} : CoR r X ↔ ∃ Y, FamR r Y ∧ ∀ x, X x ↔ x ∈ leafR r ∧ ¬ Y x := by
  constructor
  · rintro ⟨s, hs, hx⟩
    exact ⟨fun x => x ∈ leafR s, ⟨s, hs, fun _ => Iff.rfl⟩, hx⟩
  · rintro ⟨Y, ⟨s, hs, hy⟩, hx⟩
    exact ⟨s, hs, fun x => by rw [hx x, hy x]⟩
theorem fam_cong {r : RT} {X Y : ByteArray → Prop} (h : ∀ x, X x ↔ Y x) : FamR r X ↔ FamR r Y := by
  have : X = Y := funext fun x => propext (h x)
  rw [this]
theorem fam_le {r : RT} {X : ByteArray → Prop} (h : FamR r X) {x : ByteArray} (hx : X x) : x ∈ leafR r := by
  obtain ⟨s, hs, e⟩ := h
  exact (leafR_sub hs).subset ((e x).1 hx)
section
variable {r q : RT} {a b : ByteArray}
theorem rrs_leaves (ha : a ∈ leafR r) (hf : ∀ X, FamR q X ↔ RrtS r a X) : ∀ x, x ∈ leafR q ↔ x ∈ leafR r := by
  have h1 : ∀ x, x ∈ leafR r → x ∈ leafR q := fun x hx => fam_le ((hf (fun x => x ∈ leafR r)).2 (.inl fun _ => Iff.rfl)) hx
  intro x
  refine ⟨fun hx => ?_, h1 x⟩
  rcases (hf (fun x => x ∈ leafR q)).1 ⟨q, subR_self q, fun _ => Iff.rfl⟩ with h | h | ⟨h, _, _⟩
  · exact (h x).1 hx
  · rw [(h x).1 hx]; exact ha
  · exact absurd (h1 a ha) h
theorem rrs_twice (hr : GoodR r) (ha : a ∈ leafR r) (hb : b ∈ leafR r) (hf : ∀ X, FamR q X ↔ RrtS r a X) (X : ByteArray → Prop) : RrtS q b X ↔ RrtS r b X := by
  have hL := rrs_leaves ha hf
  have hone : ∀ {Y : ByteArray → Prop}, (∀ x, Y x ↔ x = a) → FamR r Y := fun {Y} hy => by
    obtain ⟨s, hs, e, _⟩ := hr.single ha
    exact ⟨s, hs, fun x => by rw [hy x, e, List.mem_singleton]⟩
  have key : ¬ X b → (∃ x, X x) → ((FamR q X ∨ CoR q X) ↔ (FamR r X ∨ CoR r X)) := fun hnb hne => by
    constructor
    · rintro (h | h)
      · rcases (hf X).1 h with h1 | h1 | ⟨_, _, h1⟩
        · exact absurd ((h1 b).2 hb) hnb
        · exact .inl (hone h1)
        · exact h1
      · obtain ⟨Y, hY, hx⟩ := co_iff.1 h
        have hx : ∀ x, X x ↔ x ∈ leafR r ∧ ¬ Y x := fun x => by rw [hx x, hL x]
        rcases (hf Y).1 hY with h1 | h1 | ⟨_, _, h1 | h1⟩
        · obtain ⟨x, h2⟩ := hne
          exact absurd ((h1 x).2 ((hx x).1 h2).1) ((hx x).1 h2).2
        · exact .inr (co_iff.2 ⟨Y, hone h1, hx⟩)
        · exact .inr (co_iff.2 ⟨Y, h1, hx⟩)
        · obtain ⟨Z, hZ, hy⟩ := co_iff.1 h1
          left
          refine (fam_cong fun x => ?_).1 hZ
          rw [hx x, hy x]
          constructor
          · intro hz; exact ⟨fam_le hZ hz, fun h => h.2 hz⟩
          · rintro ⟨h2, h3⟩
            exact Classical.byContradiction fun h4 => h3 ⟨h2, h4⟩
    · rintro (h | h)
      · by_cases c : X a
        · refine .inr (co_iff.2 ⟨fun x => x ∈ leafR r ∧ ¬ X x, (hf _).2 (.inr (.inr ⟨fun h => h.2 c, ⟨b, hb, hnb⟩, .inr (co_iff.2 ⟨X, h, fun _ => Iff.rfl⟩)⟩)), fun x => ?_⟩)
          rw [hL x]
          constructor
          · intro hx; exact ⟨fam_le h hx, fun h => h.2 hx⟩
          · rintro ⟨h2, h3⟩
            exact Classical.byContradiction fun h4 => h3 ⟨h2, h4⟩
        · exact .inl ((hf X).2 (.inr (.inr ⟨c, hne, .inl h⟩)))
      · by_cases c : X a
        · obtain ⟨Z, hZ, hx⟩ := co_iff.1 h
          have hza : ¬ Z a := ((hx a).1 c).2
          obtain ⟨s, hs, e⟩ := hZ
          obtain ⟨x, h2⟩ := hr.meet hs
          exact .inr (co_iff.2 ⟨Z, (hf Z).2 (.inr (.inr ⟨hza, ⟨x, (e x).2 h2⟩, .inl ⟨s, hs, e⟩⟩)), fun x => by rw [hx x, hL x]⟩)
        · exact .inl ((hf X).2 (.inr (.inr ⟨c, hne, .inr h⟩)))
  unfold RrtS
  constructor
  · rintro (h | h | ⟨h1, h2, h3⟩)
    · exact .inl fun x => by rw [h x, hL x]
    · exact .inr (.inl h)
    · exact .inr (.inr ⟨h1, h2, (key h1 h2).1 h3⟩)
  · rintro (h | h | ⟨h1, h2, h3⟩)
    · exact .inl fun x => by rw [h x, hL x]
    · exact .inr (.inl h)
    · exact .inr (.inr ⟨h1, h2, (key h1 h2).2 h3⟩)
end
section
variable {t : Tre} {leaf : Nat}
/-- The rerooted tree as a rose tree. -/
def rrQt (t : Tre) (leaf : Nat) : RT := sortR (contrR (rrR t leaf))
theorem rrQ_fam (h : LeafOk t leaf) (X : ByteArray → Prop) : FamR (rrQt t leaf) X ↔ RrtS (toR t) (gs t.ns leaf) X := by
  unfold rrQt
  rw [fam_sort, fam_contr (rr_facts h).2.1, rr_fam h]
theorem rrQ_good (h : LeafOk t leaf) : GoodR (rrQt t leaf) := (good_contr (rr_facts h).2.1).sort
theorem rr_size (h : LeafOk t leaf) : sizeR (rrR t leaf) ≤ t.ps.length + 1 :=
  good_size (pr_wf (rr_arb h).wf _) (Nat.lt_succ_self _) (rr_facts h).2.1
theorem rrQ_size (h : LeafOk t leaf) : sizeR (rrQt t leaf) ≤ t.ps.length + 1 := by
  unfold rrQt
  rw [sizeR_sort]
  exact Nat.le_trans (size_contr _) (rr_size h)
theorem rrQ_leaves (h : LeafOk t leaf) : (leafR (rrQt t leaf)).Perm (leafR (toR t)) :=
  (List.perm_ext_iff_of_nodup (rrQ_good h).nd (good_toR h.te).nd).2 (rrs_leaves ((leaf_all h.te).2 ⟨leaf, h.lt, h.nm, rfl⟩) (rrQ_fam h))
theorem rrT_flat : rrT t (leaf : Int) = flat (rrQt t leaf) := by unfold rrT rrQt; rw [Int.toNat_natCast]
theorem rr_ok_t (h : LeafOk t leaf) (h63 : t.ps.length ≤ 63) : treeErr (flat (rrQt t leaf)) = 0 ∧ rrCode t leaf = 0 ∧ rrRes t leaf = flat (rrQt t leaf) := by
  have hs := rrQ_size h
  have he : rrErr t leaf = 0 := by
    unfold rrErr
    rw [if_neg (by simp [h.te]), if_neg (by have := h.lt; omega), if_neg (by rw [Int.toNat_natCast]; exact h.nm)]
  have hc : rrCode t leaf = 0 := by
    unfold rrCode
    rw [if_neg (by simp [he]), if_neg]
    rw [rrT_flat, flat_ps]; omega
  refine ⟨treeErr_flat (rrQ_good h) (by omega), hc, ?_⟩
  unfold rrRes
  rw [if_neg (by simp [hc]), rrT_flat]
/-- Rerooting does not depend on the root before. -/
theorem rr_twice (h : LeafOk t leaf) {lb lx : Nat} (hb : LeafOk t lb) {x : Tre} (hx : x = flat (rrQt t leaf)) (hxb : LeafOk x lx) (e : gs x.ns lx = gs t.ns lb) : rrQt x lx = rrQt t lb := by
  have hq : toR x = rrQt t leaf := by rw [hx, toR_flat]
  refine fam_eq (oku_contr (rr_facts hxb).2.1) (oku_contr (rr_facts hb).2.1) fun X => ?_
  rw [fam_contr (rr_facts hxb).2.1, fam_contr (rr_facts hb).2.1, rr_fam hxb, rr_fam hb, hq, e]
  exact rrs_twice (good_toR h.te) ((leaf_all h.te).2 ⟨leaf, h.lt, h.nm, rfl⟩) ((leaf_all h.te).2 ⟨lb, hb.lt, hb.nm, rfl⟩) (rrQ_fam h) X
end
end Go.Proofs.Ytcaialhoclodjaa
namespace Go.Proofs.Ytcaialhoclodjaa
section
variable {t : Tre} {leaf : Nat}
theorem rrQ_root (h : LeafOk t leaf) : rrQt t leaf = .node (gs t.ns leaf) [] ∨ ∃ nm Y, (nm.size = 0) ∧ (rrQt t leaf = .node nm [.node (gs t.ns leaf) [], Y] ∨ rrQt t leaf = .node nm [Y, .node (gs t.ns leaf) []]) := by
  have hw := (rr_arb h).wf
  have hn : t.ps.length < t.ps.length + 1 := Nat.lt_succ_self _
  have hlt := h.lt
  have hwG := pr_wf (P := rrP t leaf) hw t.ps.length
  have hself := subF_self hw hn
  have hnl : (rrF t leaf).nm leaf = gs t.ns leaf := upd_ne _ _ (by omega)
  have hr0 : ((rrF t leaf).nm t.ps.length).size = 0 := by
    show (upd (gs t.ns) _ _ _).size = 0
    rw [upd_same]; rfl
  have hla : al (rrF t leaf) (rrP t leaf) (rkR t leaf) leaf = true := by
    rw [al_eq hw (by omega), if_pos (rr_kids_leaf h)]
    refine decide_eq_true ?_
    rw [hnl]; exact h.nm
  have e1 : toRF ((rrF t leaf).sub (rkR t leaf) (prQ (rrF t leaf) (rrP t leaf) (rkR t leaf)) t.ps.length) (rkR t leaf) leaf = .node (gs t.ns leaf) [] := by
    rw [toRF_eq hwG (by omega), pr_kids (rr_all h leaf (by omega)), rr_kids_leaf h]
    show RT.node ((rrF t leaf).nm leaf) _ = _
    rw [hnl]; rfl
  have hkr : (rrF t leaf).kids t.ps.length = leaf :: (if leaf = 0 then [] else [(gi t.ps leaf).toNat]) := by
    show rrQ t leaf t.ps.length = _
    unfold rrQ; rw [if_pos rfl]
  have e2 : rrR t leaf = .node ((rrF t leaf).nm t.ps.length) (((leaf :: (if leaf = 0 then [] else [(gi t.ps leaf).toNat])).filter (al (rrF t leaf) (rrP t leaf) (rkR t leaf))).map (toRF ((rrF t leaf).sub (rkR t leaf) (prQ (rrF t leaf) (rrP t leaf) (rkR t leaf)) t.ps.length) (rkR t leaf))) := by
    unfold rrR
    rw [toRF_eq hwG hn, pr_kids hself, hkr]; rfl
  rw [List.filter_cons_of_pos hla, List.map_cons, e1] at e2
  unfold rrQt
  have two : ∀ Z, sortR (contrR (.node ((rrF t leaf).nm t.ps.length) [.node (gs t.ns leaf) [], Z])) = .node ((rrF t leaf).nm t.ps.length) [.node (gs t.ns leaf) [], sortR (contrR Z)] ∨ sortR (contrR (.node ((rrF t leaf).nm t.ps.length) [.node (gs t.ns leaf) [], Z])) = .node ((rrF t leaf).nm t.ps.length) [sortR (contrR Z), .node (gs t.ns leaf) []] := fun Z => by
    rw [contrR, contrRs, contrR, sortR, sortRs, sortRs, sortRs, sortR, sortRs, insR, insR]
    split
    · exact .inl rfl
    · exact .inr (by rw [insR])
  by_cases h0 : leaf = 0
  · left
    rw [e2, if_pos h0]
    rfl
  · rw [if_neg h0] at e2
    cases ha : al (rrF t leaf) (rrP t leaf) (rkR t leaf) (gi t.ps leaf).toNat with
    | false =>
      left
      rw [List.filter_cons_of_neg (by rw [ha]; simp)] at e2
      rw [e2]; rfl
    | true =>
      right
      rw [List.filter_cons_of_pos ha] at e2
      rw [e2]
      exact ⟨_, _, hr0, two _⟩
theorem flat_two (nm : ByteArray) (a b : RT) : kidsL (flat (.node nm [a, b])).ps 0 = [1, 1 + sizeR a] ∧ gs (flat (.node nm [a, b])).ns 1 = a.nm ∧ gs (flat (.node nm [a, b])).ns (1 + sizeR a) = b.nm := by
  have h1 : kidsL (flat (.node nm [a, b])).ps 0 = hdR [a, b] 1 := kids_flat (r := .node nm [a, b]) (i := 0) (s := .node nm [a, b]) rfl
  have ha := sizeR_pos a
  refine ⟨by rw [h1]; rfl, ?_, ?_⟩
  · show gs (nsR _) 1 = _
    rw [nsR_sub, subR, subRs, subRs, subRs, List.append_nil]
    cases a with
    | node na ka => rfl
  · show gs (nsR _) _ = _
    rw [nsR_sub, subR, subRs, subRs, subRs, List.append_nil, List.map_cons, List.map_append]
    have e : 1 + sizeR a = ((subR a).map RT.nm).length + 1 := by rw [List.length_map, subR_len]; omega
    rw [e]
    have : gs (nm :: ((subR a).map RT.nm ++ (subR b).map RT.nm)) (((subR a).map RT.nm).length + 1) = gs ((subR a).map RT.nm ++ (subR b).map RT.nm) (((subR a).map RT.nm).length + 0) := rfl
    have h2 := gs_app_r ((subR a).map RT.nm) ((subR b).map RT.nm) 0
    show gs (nm :: _) _ = _
    rw [this, h2]
    cases b with
    | node nb kb => rfl
/-- Where the leaf lies in the rerooted tree. -/
theorem rr_place (h : LeafOk t leaf) : (rrQt t leaf = .node (gs t.ns leaf) [] ∧ (leafR (toR t)).length = 1) ∨
    (2 ≤ (leafR (toR t)).length ∧ (kidsL (flat (rrQt t leaf)).ps 0).length = 2 ∧ ∃ n, n ∈ kidsL (flat (rrQt t leaf)).ps 0 ∧ gs (flat (rrQt t leaf)).ns n = gs t.ns leaf) := by
  have hp := (rrQ_leaves h).length_eq
  have hl1 : leafR (.node (gs t.ns leaf) []) = [gs t.ns leaf] := by
    exact leaf_one31 h.nm
  have hne : ∀ Y, Y ∈ subR (rrQt t leaf) → 1 ≤ (leafR Y).length := fun Y hY => by
    obtain ⟨x, hx⟩ := (rrQ_good h).meet hY
    exact List.length_pos_of_mem hx
  rcases rrQ_root h with e | ⟨nm, Y, h0, e | e⟩
  · left
    rw [e, hl1] at hp
    exact ⟨e, hp.symm⟩
  · right
    have hY := hne Y (by rw [e, subR, subRs, subRs, subRs]; simp [subR_self])
    rw [e, leafR_node h0, List.flatMap_cons, hl1, List.flatMap_cons, List.flatMap_nil, List.append_nil, List.length_append] at hp
    obtain ⟨f1, f2, f3⟩ := flat_two nm (.node (gs t.ns leaf) []) Y
    rw [e]
    refine ⟨by simp at hp; omega, by rw [f1]; rfl, 1, by rw [f1]; simp, by rw [f2]; rfl⟩
  · right
    have hY := hne Y (by rw [e, subR, subRs]; simp [subR_self])
    rw [e, leafR_node h0, List.flatMap_cons, List.flatMap_cons, List.flatMap_nil, hl1, List.append_nil, List.length_append] at hp
    obtain ⟨f1, f2, f3⟩ := flat_two nm Y (.node (gs t.ns leaf) [])
    rw [e]
    refine ⟨by simp at hp; omega, by rw [f1]; rfl, 1 + sizeR Y, by rw [f1]; simp, by rw [f3]; rfl⟩
end
end Go.Proofs.Ytcaialhoclodjaa
namespace Go.Proofs.Ytcaialhoclodjaa
section
variable {ps : List Int}
end
end Go.Proofs.Ytcaialhoclodjaa
namespace Go.Proofs.Ytcaialhoclodjaa
def paE (s : ByteArray) : Int := match paR s.data.toList with
  | none => 3
  | some r => treeErr (flat r)
def paT (s : ByteArray) : Tre := match paR s.data.toList with
  | none => ⟨[], []⟩
  | some r => if treeErr (flat r) ≠ 0 then ⟨[], []⟩ else flat r
end Go.Proofs.Ytcaialhoclodjaa
namespace Go.Proofs.Ytcaialhoclodjaa
def exT : Tre := ⟨[-1, 0, 1, 1, 0], [⟨#[]⟩, ⟨#[]⟩, ⟨#[65]⟩, ⟨#[66]⟩, ⟨#[67]⟩]⟩
def exS : ByteArray := ⟨#[40, 40, 65, 44, 66, 41, 44, 67, 41, 59]⟩
def exX : Tre := ⟨[-1, 0, 1, 1, 0], [⟨#[]⟩, ⟨#[]⟩, ⟨#[65]⟩, ⟨#[67]⟩, ⟨#[66]⟩]⟩
def exR : Tre := ⟨[-1, 0, 0], [⟨#[]⟩, ⟨#[65]⟩, ⟨#[67]⟩]⟩
theorem ex_par : paE exS = 0 ∧ paT exS = exT := by decide +kernel
theorem ex_rr : rrCode exT 3 = 0 ∧ rrRes exT 3 = exX := by decide +kernel
theorem ex_tx : txE exX = 0 ∧ txT exX = [40, 40, 65, 44, 67, 41, 44, 66, 41, 59] := by decide +kernel
theorem ex_rs : rsErr exT [2, 4] = 0 ∧ rsT exT [2, 4] = exR := by decide +kernel
theorem ex_tr : txE exR = 0 ∧ txT exR = [40, 65, 44, 67, 41, 59] := by decide +kernel
end Go.Proofs.Ytcaialhoclodjaa
namespace Go.Proofs.Ytcaialhoclodjaa
open Go.RowKit Go.Deep
@[go_sem high] theorem run_max0_4 (w : World) (ts : Array TypeId) (t : TypeId) (k : IntKind) : (Builtin.max_ ts t #[.int k 0, .int k 0, .int k 0, .int k 0]).run Try.prog w = .ok (.int k 0) w := by
  simp [Builtin.max_, Builtin.max2]
@[go_sem high] theorem run_max0_5 (w : World) (ts : Array TypeId) (t : TypeId) (k : IntKind) : (Builtin.max_ ts t #[.int k 0, .int k 0, .int k 0, .int k 0, .int k 0]).run Try.prog w = .ok (.int k 0) w := by
  simp [Builtin.max_, Builtin.max2]
@[go_sem high] theorem run_max0_6 (w : World) (ts : Array TypeId) (t : TypeId) (k : IntKind) : (Builtin.max_ ts t #[.int k 0, .int k 0, .int k 0, .int k 0, .int k 0, .int k 0]).run Try.prog w = .ok (.int k 0) w := by
  simp [Builtin.max_, Builtin.max2]
@[go_sem high] theorem run_max0_7 (w : World) (ts : Array TypeId) (t : TypeId) (k : IntKind) : (Builtin.max_ ts t #[.int k 0, .int k 0, .int k 0, .int k 0, .int k 0, .int k 0, .int k 0]).run Try.prog w = .ok (.int k 0) w := by
  simp [Builtin.max_, Builtin.max2]
theorem flt_take31 {ns : List ByteArray} {k : Nat} (hk : k < ns.length) : fltN (ns.take (k + 1)) = fltN (ns.take k) ++ if (gs ns k).size = 0 then [] else [gs ns k] := by
  have hg : gs ns k = ns[k] := by simp [gs, hk]
  rw [List.take_succ_eq_append_getElem hk, fltN_app, ← hg]
  congr 1
  unfold fltN
  by_cases h : (gs ns k).size = 0
  · rw [if_pos h, List.filter_cons_of_neg (by simp [h])]; rfl
  · rw [if_neg h, List.filter_cons_of_pos (by simpa using h)]; rfl
set_option maxRecDepth 100000 in
set_option maxHeartbeats 2000000 in
theorem find31_t (S : Nat → Prop) (w : World) (v : Value) (t : Tre) (x : ByteArray) (hT : TreeAt S w v t) (hn : t.ns.length ≤ 1000000) :
    Calls Try.prog 29 #[v, .string x] w fun e w' => e = .returned (.int .i64 (firstIx (fun j => decide (x = gs t.ns j)) t.ns.length)) ∧ Up w w' := by
  obtain ⟨P, N, rfl, hP, hN⟩ := hT
  obtain ⟨np, nc, rfl, _, _⟩ := SlAt.open hN
  have hN : StrsAt S w (.slice np t.ns.length nc) t.ns := hN
  have hu := Up.alloc w (.cells #[P, .slice np t.ns.length nc] 25)
  have hc1 := box2_1 w P (.slice np t.ns.length nc) 25
  have HI := Lib.hid (index_str_t S _ _ t.ns.length (gs t.ns) x (StrsAt.keep hN (hu.kept S)) hn)
  have HU := Lib.hid hu
  clear hu hP hN
  go_enter Try.func29, Try.ntmps29
  go_wp2_with fail
  refine HI.out.mono ?_
  rintro e w2 ⟨rfl, rfl⟩
  go_wp2_with fail
  go_ret
  exact ⟨rfl, HU.out⟩
def NmPost31 (w : World) (t : Tre) (e : Ending) (w' : World) : Prop := Up w w' ∧ ∃ v, e = .returned v ∧ Owns w.heap.size 9 w' v ((sortS (fltN t.ns)).map Value.string)
set_option maxRecDepth 100000 in
set_option maxHeartbeats 2000000 in
theorem names31_t (S : Nat → Prop) (w : World) (v : Value) (t : Tre) (hT : TreeAt S w v t) (hn : t.ns.length ≤ 1000) :
    Calls Try.prog 31 #[v] w (NmPost31 w t) := by
  obtain ⟨P, N, rfl, hP, hN⟩ := hT
  obtain ⟨np, nc, rfl, _, _⟩ := SlAt.open hN
  have hN : StrsAt S w (.slice np t.ns.length nc) t.ns := hN
  have hu := Up.alloc w (.cells #[P, .slice np t.ns.length nc] 25)
  have b1 := box2_1 w P (.slice np t.ns.length nc) 25
  have HN1 := Lib.hid (StrsAt.keep hN (hu.kept S))
  have HU := Lib.hid hu
  have HSZ := Lib.hid hn
  clear hu hP hN
  go_enter Try.func31, Try.ntmps31
  go_wp2_with fail
  clear b1
  generalize w.alloc (.cells #[P, .slice np t.ns.length nc] 25) = w7 at *
  go_loopw [3, 5, 9] (fun d _ i wr => ∃ k : Nat, k ≤ t.ns.length ∧ i = .int .i64 k ∧ Hid (Owns w7.heap.size 9 wr d ((fltN (t.ns.take k)).map Value.string)) ∧ Hid (Up w7 wr)) (fun _ _ i _ => t.ns.length - (intOf i).toNat)
  case atStart => exact ⟨0, Nat.zero_le _, rfl, Owns.nil _ _ _, Up.refl _⟩
  case round =>
    obtain ⟨k, hk, rfl, hD, hUr⟩ := hrel
    obtain ⟨wo, rfl⟩ : ∃ wo : World, wo = wr := ⟨_, rfl⟩
    obtain ⟨d, rfl⟩ : ∃ d : Value, d = u3 := ⟨_, rfl⟩
    by_cases hlt : k < t.ns.length
    · obtain ⟨b, off, rfl, hcell⟩ := strs_get (StrsAt.keep HN1.out (hUr.out.kept _)) hlt
      have i1 : (0 : Int) ≤ (k : Int) := by omega
      have i2 : (k : Int) < (t.ns.length : Int) := by omega
      have i3 : (k : Int) < 1000 := by have := HSZ.out; omega
      have HTK := Lib.hid (flt_take31 hlt)
      have HNIL := Lib.hid (toList_nil (gs t.ns k))
      have HLN : Hid ((fltN (t.ns.take k)).length ≤ 1000) := by
        have h1 : (fltN (t.ns.take k)).length ≤ (t.ns.take k).length := List.length_filter_le _ _
        rw [List.length_take] at h1
        have := HSZ.out; unfold Hid; omega
      have HUA := Lib.hid hUr.out
      have HDA := Lib.hid hD.out
      have hsz := hUr.out.size
      have HLT := Lib.hid hlt
      clear hUr hD hk
      generalize gs t.ns k = s at *
      by_cases hs0 : s.size = 0
      · have hs1 : s.toList = [] := HNIL.out.2 hs0
        have HF : Hid (fltN (t.ns.take (k + 1)) = fltN (t.ns.take k)) := by unfold Hid; rw [HTK.out, if_pos hs0, List.append_nil]
        clear hs0
        go_wp2_with fail
        go_roundw
        case rel => exact ⟨k + 1, HLT.out, by have := HLT.out; have := HSZ.out; go_num, by rw [HF.out]; exact HDA.out, HUA.out⟩
        case measure => have := HLT.out; have := HSZ.out; simp [intOf]; omega
      · have hs1 : (s.toList == []) = false := by
          rw [Bool.eq_false_iff]; intro e; exact hs0 (HNIL.out.1 (by simpa using e))
        have hs2 : (s.toList != []) = true := by
          rw [bne_iff_ne]; intro e; exact hs0 (HNIL.out.1 (by simpa using e))
        have HF : Hid (fltN (t.ns.take (k + 1)) = fltN (t.ns.take k) ++ [s]) := by unfold Hid; rw [HTK.out, if_neg hs0]
        have HLM : Hid (((fltN (t.ns.take k)).map Value.string).length = (fltN (t.ns.take k)).length) := List.length_map _
        have HL6 : Hid ((fltN (t.ns.take k)).length ≤ 1000000) := by have := HLN.out; unfold Hid; omega
        clear hs0
        go_wp2_with (at_builtin; refine wpList_appM wo rfl _ _ 23 rfl w7.heap.size 9 (.string ⟨#[]⟩) 16 Try.underlying23 Try.infoStr2 rfl (by decide) HDA.out rfl (.string s) _ rfl rfl rfl _ HLM.out HL6.out hsz ?_; intro g8 cap8 w8 hown1 hgr1 hbe1)
        go_roundw
        case rel => exact ⟨k + 1, HLT.out, by have := HLT.out; have := HSZ.out; go_num, by unfold Hid; rw [HF.out, List.map_append]; exact hown1, Below.trans HUA.out hbe1⟩
        case measure => have := HLT.out; have := HSZ.out; simp [intOf]; omega
    · obtain rfl : k = t.ns.length := by omega
      have hD2 := hD.out
      rw [List.take_length] at hD2
      have hUW := hUr.out
      have hsz1 := HU.out.size
      clear hlt hk hD hUr
      have hfl : (fltN t.ns).length ≤ 1000 := by
        have h1 : (fltN t.ns).length ≤ t.ns.length := List.length_filter_le _ _
        have := HSZ.out; omega
      obtain ⟨g, cap2, hdv⟩ : ∃ g c, d = .slice g (fltN t.ns).length c := by
        obtain ⟨h1, h2 | ⟨g, c, _, h2, _⟩⟩ := hD2
        · exact ⟨none, 0, by rw [h2.1]; simp at h2; simp [h2]⟩
        · exact ⟨_, _, by rw [h2, List.length_map]⟩
      have HSO := Lib.hid (sort_str_t w7 wo d (fltN t.ns) hUW hD2 (by omega))
      clear hD2 hUW hfl
      subst hdv
      go_wp2_with fail
      refine HSO.out.mono ?_
      rintro e w9 ⟨rfl, hu9, ho9⟩
      have HR : Hid (NmPost31 w t (.returned (.slice g (fltN t.ns).length cap2)) w9) := ⟨HU.out.trans hu9, _, rfl, ho9.mono_base HU.out.size⟩
      clear hu9 ho9 HSO
      go_wp2_with fail
      go_ret
      exact HR.out
def ExPost (w : World) (e : Ending) (w' : World) : Prop := Up w w' ∧ ∃ v, e = .returned v ∧ TreeAt Any w' v exT
set_option maxRecDepth 100000 in
set_option maxHeartbeats 2000000 in
theorem example31_t (w : World) : Calls Try.prog 49 #[] w (ExPost w) := by
  have h1 := lit_ints (w.alloc (.cells #[.slice (some ⟨w.heap.size + 1, 0, none⟩) 5 5, .slice (some ⟨w.heap.size + 1 + 1, 0, none⟩) 5 5] 25)) #[.int .i64 (-1), .int .i64 0, .int .i64 1, .int .i64 1, .int .i64 0] 3 exT.ps rfl 5 rfl
  have h2 := lit_strs ((w.alloc (.cells #[.slice (some ⟨w.heap.size + 1, 0, none⟩) 5 5, .slice (some ⟨w.heap.size + 1 + 1, 0, none⟩) 5 5] 25)).alloc (.cells #[.int .i64 (-1), .int .i64 0, .int .i64 1, .int .i64 1, .int .i64 0] 3)) #[.string ⟨#[]⟩, .string ⟨#[]⟩, .string ⟨#[65]⟩, .string ⟨#[66]⟩, .string ⟨#[67]⟩] 9 exT.ns rfl 5 rfl
  have hu1 := Up.alloc w (.cells #[.slice (some ⟨w.heap.size + 1, 0, none⟩) 5 5, .slice (some ⟨w.heap.size + 1 + 1, 0, none⟩) 5 5] 25)
  have hu2 := Up.alloc (w.alloc (.cells #[.slice (some ⟨w.heap.size + 1, 0, none⟩) 5 5, .slice (some ⟨w.heap.size + 1 + 1, 0, none⟩) 5 5] 25)) (.cells #[.int .i64 (-1), .int .i64 0, .int .i64 1, .int .i64 1, .int .i64 0] 3)
  have hu3 := Up.alloc ((w.alloc (.cells #[.slice (some ⟨w.heap.size + 1, 0, none⟩) 5 5, .slice (some ⟨w.heap.size + 1 + 1, 0, none⟩) 5 5] 25)).alloc (.cells #[.int .i64 (-1), .int .i64 0, .int .i64 1, .int .i64 1, .int .i64 0] 3)) (.cells #[.string ⟨#[]⟩, .string ⟨#[]⟩, .string ⟨#[65]⟩, .string ⟨#[66]⟩, .string ⟨#[67]⟩] 9)
  have c0 := (hu2.trans hu3).cell (box2_0 w (.slice (some ⟨w.heap.size + 1, 0, none⟩) 5 5) (.slice (some ⟨w.heap.size + 1 + 1, 0, none⟩) 5 5) 25)
  have c1 := (hu2.trans hu3).cell (box2_1 w (.slice (some ⟨w.heap.size + 1, 0, none⟩) 5 5) (.slice (some ⟨w.heap.size + 1 + 1, 0, none⟩) 5 5) 25)
  simp only [World.size_alloc] at h1 h2
  have H1 := Lib.hid (IntsAt.keep h1 (hu3.kept _))
  have H2 := Lib.hid h2
  have HU3 := Lib.hid (hu1.trans (hu2.trans hu3))
  have C0 := Lib.hid c0
  have C1 := Lib.hid c1
  clear h1 h2 hu1 hu2 hu3 c0 c1
  go_enter Try.func49, Try.ntmps49
  go_wp2_with fail
  have c0 := C0.out
  have c1 := C1.out
  exact ⟨rfl, .agg #[.slice (some ⟨w.heap.size + 1, 0, none⟩) 5 5, .slice (some ⟨w.heap.size + 1 + 1, 0, none⟩) 5 5], by simp [results, Try.results49, go_sem, c0, c1], HU3.out, _, rfl, _, _, rfl, H1.out, H2.out⟩
end Go.Proofs.Ytcaialhoclodjaa
namespace Go.Proofs
open Go.Shelf
def Try.idxA_ren : Go.Shelf.Ren := ⟨fun | 153 => 56 | 152 => 79 | 226 => 80 | 227 => 81 | 228 => 82 | 137 => 99 | 119 => 100 | 224 => 101 | 225 => 102 | 217 => 121 | 266 => 140 | n => n, fun | 9 => 9 | 3 => 3 | 4 => 4 | 5 => 5 | 21 => 21 | 117 => 119 | 116 => 118 | 0 => 0 | 46 => 126 | 124 => 138 | n => n, fun | n => n⟩
theorem Try.idxA : Go.Proofs.Lays.n153 Try.prog Try.idxA_ren := {
  mixed := by kernel_rfl
  f119 := Try.func100.trans (congrArg some (by kernel_rfl))
  f137 := Try.func99.trans (congrArg some (by kernel_rfl))
  f152 := Try.func79.trans (congrArg some (by kernel_rfl))
  f153 := Try.func56.trans (congrArg some (by kernel_rfl))
  f217 := Try.func121.trans (congrArg some (by kernel_rfl))
  f224 := Try.func101.trans (congrArg some (by kernel_rfl))
  f225 := Try.func102.trans (congrArg some (by kernel_rfl))
  f226 := Try.func80.trans (congrArg some (by kernel_rfl))
  f227 := Try.func81.trans (congrArg some (by kernel_rfl))
  f228 := Try.func82.trans (congrArg some (by kernel_rfl))
  f266 := Try.func140.trans (congrArg some (by kernel_rfl))
  t0 := Try.underlying0
  a0 := Try.isAgg0
  z0 := Try.sizeOf0
  v0 := Try.zeroValue0
  t3 := Try.underlying3
  a3 := Try.isAgg3
  z3 := Try.sizeOf3
  v3 := Try.zeroValue3
  t4 := Try.underlying4
  a4 := Try.isAgg4
  z4 := Try.sizeOf4
  v4 := Try.zeroValue4
  t5 := Try.underlying5
  a5 := Try.isAgg5
  z5 := Try.sizeOf5
  v5 := Try.zeroValue5
  t9 := Try.underlying9
  a9 := Try.isAgg9
  z9 := Try.sizeOf9
  v9 := Try.zeroValue9
  t21 := Try.underlying21
  a21 := Try.isAgg21
  z21 := Try.sizeOf21
  v21 := Try.zeroValue21
  t46 := Try.underlying126
  a46 := Try.isAgg126
  z46 := Try.sizeOf126
  v46 := Try.zeroValue126
  t116 := Try.underlying118
  a116 := Try.isAgg118
  z116 := Try.sizeOf118
  t117 := Try.underlying119
  a117 := Try.isAgg119
  z117 := Try.sizeOf119
  v117 := Try.zeroValue119
  t124 := Try.underlying138
  a124 := Try.isAgg138
  z124 := Try.sizeOf138
  v124 := Try.zeroValue138 }
end Go.Proofs
