/- The statements' bounds on layer 31's trees. The contract of phylotree.Same. PhylotreeTexts, plain. PhylotreeRerooted, plain. The walk of PhylotreeRerooted. The parts of a restricted tree, plain: which sets of leaves they have; restricting twice. PhylotreeRestricted, plain. Three lists under way: two of ints, one of strings. slices.Sort at strings: only the list's own block changes. -/
import Derived.Test.YtcaialhoclodjaaGreatQ29
import Derived.Test.YtcaialhoclodjaaGreatQ25
import Derived.Test.YtcaialhoclodjaaGreatQ11
import Derived.Test.YtcaialhoclodjaaGreatQ5
import Derived.Test.YtcaialhoclodjaaGreatQ3
import Derived.Test.YtcaialhoclodjaaGreatQ17
import Derived.Test.YtcaialhoclodjaaGreatQ15
import Derived.Test.YtcaialhoclodjaaGreatQ27
import Derived.Test.YtcaialhoclodjaaGreatQ26
import Derived.Test.YtcaialhoclodjaaGreatQ23
import Derived.Test.YtcaialhoclodjaaGreatQ18
import Derived.Test.YtcaialhoclodjaaGreatQ13
namespace Go.Proofs.YtcaialhoclodjaaGreat
open Go.RowKit Go.Deep
def fine31B (t : Tre) : Bool := decide (0 < t.ps.length) && decide (t.ps.length ≤ 16) && !gt31B t 16 && decide (treeErr t = 0)
theorem fine31_ok {t : Tre} (h : fine31B t = true) : 0 < t.ps.length ∧ t.ps.length ≤ 16 ∧ treeErr t = 0 := by
  unfold fine31B at h
  simp only [Bool.and_eq_true, decide_eq_true_eq] at h
  exact ⟨h.1.1.1, h.1.1.2, h.2⟩
set_option maxRecDepth 100000 in
set_option maxHeartbeats 2000000 in
theorem lgreat31_t (S : Nat → Prop) (w : World) (v : Value) (t : Tre) (hT : TreeAt S w v t) (hp : t.ps.length ≤ 9223372036854775807) (hn : t.ns.length ≤ 9223372036854775807) (hz : ∀ k, (gs t.ns k).size ≤ 9223372036854775807) :
    Calls Tryz.prog 6 #[v] w fun e w' => e = .returned (.bool (gt31B t 16)) ∧ Up w w' := by
  obtain ⟨P, N, rfl, hP, hN⟩ := hT
  have hu := Up.alloc w (.cells #[P, N] 25)
  have HG : Hid (Calls Tryz.prog 34 #[.agg #[P, N], .int .i64 16] (w.alloc (.cells #[P, N] 25)) fun e w' => e = .returned (.bool (gt31B t 16)) ∧ Up (w.alloc (.cells #[P, N] 25)) w') := great31_t S _ _ t 16 (TreeAt.keep ⟨P, N, rfl, hP, hN⟩ (hu.kept S)) hp hn hz
  have HU := Lib.hid hu
  clear hu hP hN hp hn hz
  go_enter Tryz.func6, Tryz.ntmps6
  go_wp2_with fail
  refine HG.out.mono ?_
  rintro e w2 ⟨rfl, hu2⟩
  go_wp2_with fail
  go_ret
  exact ⟨rfl, HU.out.trans hu2⟩
set_option maxRecDepth 100000 in
set_option maxHeartbeats 2000000 in
theorem fine31_t (S : Nat → Prop) (w : World) (v : Value) (t : Tre) (hT : TreeAt S w v t) (hp : t.ps.length ≤ 9223372036854775807) (hn : t.ns.length ≤ 9223372036854775807) (hz : ∀ k, (gs t.ns k).size ≤ 9223372036854775807) :
    Calls Tryz.prog 28 #[v] w fun e w' => e = .returned (.bool (fine31B t)) ∧ Up w w' := by
  obtain ⟨P, N, rfl, hP, hN⟩ := hT
  obtain ⟨pp, pc, rfl, _, _⟩ := SlAt.open hP
  obtain ⟨np, nc, rfl, _, _⟩ := SlAt.open hN
  have hP : IntsAt S w (.slice pp t.ps.length pc) t.ps := hP
  have hN : StrsAt S w (.slice np t.ns.length nc) t.ns := hN
  have hu := Up.alloc w (.cells #[.slice pp t.ps.length pc, .slice np t.ns.length nc] 25)
  have b0 := box2_0 w (.slice pp t.ps.length pc) (.slice np t.ns.length nc) 25
  have b1 := box2_1 w (.slice pp t.ps.length pc) (.slice np t.ns.length nc) 25
  have HB0 := Lib.hid b0
  have HB1 := Lib.hid b1
  have HT : Hid (TreeAt S (w.alloc (.cells #[.slice pp t.ps.length pc, .slice np t.ns.length nc] 25)) (.agg #[.slice pp t.ps.length pc, .slice np t.ns.length nc]) t) := TreeAt.keep ⟨_, _, rfl, hP, hN⟩ (hu.kept _)
  have HG := Lib.hid (lgreat31_t S _ _ t HT.out hp hn hz)
  have HCK : Hid (t.ps.length ≤ 16 → ∀ W, Up (w.alloc (.cells #[.slice pp t.ps.length pc, .slice np t.ns.length nc] 25)) W → Calls Tryz.prog 25 #[.agg #[.slice pp t.ps.length pc, .slice np t.ns.length nc]] W fun e w' => e = .returned (.int .i64 (treeErr t)) ∧ Up W w') := fun h W hW => check9_t S W _ t (HT.out.keep (hW.kept S)) (by omega) hn hz
  have HU := Lib.hid hu
  have HFB : Hid (fine31B t = (decide (0 < t.ps.length) && decide (t.ps.length ≤ 16) && !gt31B t 16 && decide (treeErr t = 0))) := rfl
  clear hu hP hN hn hz
  by_cases c0 : 0 < t.ps.length
  · have d0 : decide ((0 : Int) < (t.ps.length : Int)) = true := decide_eq_true (by omega)
    by_cases c1 : t.ps.length ≤ 16
    · have d1 : decide ((t.ps.length : Int) ≤ 16) = true := decide_eq_true (by omega)
      have HF1 : Hid (fine31B t = (!gt31B t 16 && decide (treeErr t = 0))) := by unfold Hid; rw [HFB.out, decide_eq_true c0, decide_eq_true c1]; rfl
      have HC := Lib.hid (HCK.out c1)
      clear hp
      cases hg : gt31B t 16
      · rw [hg] at HG
        have HF2 : Hid (fine31B t = decide (treeErr t = 0)) := by unfold Hid; rw [HF1.out, hg]; rfl
        clear hg
        go_enter Tryz.func28, Tryz.ntmps28
        go_wp2_with fail
        generalize w.alloc (.cells #[.slice pp t.ps.length pc, .slice np t.ns.length nc] 25) = w1 at *
        refine HG.out.mono ?_
        rintro e w2 ⟨rfl, hu2⟩
        have b0 := hu2.cell HB0.out
        have b1 := hu2.cell HB1.out
        have HU2 := Lib.hid (HU.out.trans hu2)
        have HC2 := Lib.hid (HC.out w2 hu2)
        clear hu2 HG HC HCK
        go_wp2_with fail
        refine HC2.out.mono ?_
        rintro e w3 ⟨rfl, hu3⟩
        have HU3 := Lib.hid (HU2.out.trans hu3)
        clear hu3
        by_cases he : treeErr t = 0
        · have HF3 : Hid (fine31B t = true) := by unfold Hid; rw [HF2.out, decide_eq_true he]
          rw [he]
          clear he b0 b1
          go_wp2_with fail
          go_ret
          exact ⟨ret_bool (by rw [HF3.out]), HU3.out⟩
        · have HF3 : Hid (fine31B t = false) := by unfold Hid; rw [HF2.out, decide_eq_false he]
          have he1 : (treeErr t == 0) = false := by simpa using he
          clear he b0 b1
          generalize treeErr t = te at he1 ⊢
          go_wp2_with fail
          go_ret
          exact ⟨ret_bool (by rw [HF3.out]), HU3.out⟩
      · rw [hg] at HG
        have HF2 : Hid (fine31B t = false) := by unfold Hid; rw [HF1.out, hg]; rfl
        clear hg
        go_enter Tryz.func28, Tryz.ntmps28
        go_wp2_with fail
        generalize w.alloc (.cells #[.slice pp t.ps.length pc, .slice np t.ns.length nc] 25) = w1 at *
        refine HG.out.mono ?_
        rintro e w2 ⟨rfl, hu2⟩
        have HU2 := Lib.hid (HU.out.trans hu2)
        clear hu2 b0 b1
        go_wp2_with fail
        go_ret
        exact ⟨ret_bool (by rw [HF2.out]), HU2.out⟩
    · have d1 : decide ((t.ps.length : Int) ≤ 16) = false := decide_eq_false (by omega)
      have HF1 : Hid (fine31B t = false) := by unfold Hid; rw [HFB.out, decide_eq_true c0, decide_eq_false c1]; rfl
      clear hp
      go_enter Tryz.func28, Tryz.ntmps28
      go_wp2_with fail
      go_ret
      exact ⟨ret_bool (by rw [HF1.out]), HU.out⟩
  · have d0 : decide ((0 : Int) < (t.ps.length : Int)) = false := decide_eq_false (by omega)
    have HF1 : Hid (fine31B t = false) := by unfold Hid; rw [HFB.out, decide_eq_false c0]; rfl
    clear hp
    go_enter Tryz.func28, Tryz.ntmps28
    go_wp2_with fail
    go_ret
    exact ⟨ret_bool (by rw [HF1.out]), HU.out⟩
end Go.Proofs.YtcaialhoclodjaaGreat
namespace Go.Proofs.YtcaialhoclodjaaGreat
open Go.RowKit Go.Deep
section
variable {P : Program} {ops : Array Oper} {Q : Exit → Act → World → Prop} {md : Region.Mode} {S : World → Prop} {t : Nat}
end
end Go.Proofs.YtcaialhoclodjaaGreat
namespace Go.Proofs.YtcaialhoclodjaaGreat
section
variable {t : Tre}
end
end Go.Proofs.YtcaialhoclodjaaGreat
namespace Go.Proofs.YtcaialhoclodjaaGreat
section
variable {t : Tre}
/-- The node of a name. -/
def fdN (ns : List ByteArray) (a : ByteArray) : Int := firstIx (fun j => decide (a = gs ns j)) ns.length
theorem mem_flt {ns : List ByteArray} {a : ByteArray} : a ∈ fltN ns ↔ ∃ j, j < ns.length ∧ gs ns j = a ∧ a.size ≠ 0 := by
  unfold fltN
  rw [List.mem_filter]
  constructor
  · rintro ⟨h1, h2⟩
    obtain ⟨j, hj, e⟩ := List.mem_iff_getElem.1 h1
    exact ⟨j, hj, by rw [← e]; simp [gs, hj], of_decide_eq_true h2⟩
  · rintro ⟨j, hj, e, h2⟩
    refine ⟨?_, decide_eq_true h2⟩
    have : gs ns j = ns[j] := by simp [gs, hj]
    rw [← e, this]; exact List.getElem_mem hj
theorem fd_ok (he : treeErr t = 0) {a : ByteArray} (ha : a ∈ fltN t.ns) : ∃ k : Nat, fdN t.ns a = (k : Int) ∧ LeafOk t k ∧ gs t.ns k = a := by
  obtain ⟨_, _, hl, _, _⟩ := treeErr_zero he
  obtain ⟨j, hj, e, h0⟩ := mem_flt.1 ha
  have hany : (List.range t.ns.length).any (fun j => decide (a = gs t.ns j)) = true := List.any_eq_true.2 ⟨j, List.mem_range.2 hj, decide_eq_true e.symm⟩
  rw [← firstIx_any] at hany
  have hge := of_decide_eq_true hany
  obtain ⟨k, hk⟩ := Int.eq_ofNat_of_zero_le hge
  obtain ⟨h1, h2, _⟩ := firstIx_spec hk
  have h2 : a = gs t.ns k := of_decide_eq_true h2
  exact ⟨k, hk, ⟨he, by omega, by rw [← h2]; exact h0⟩, h2.symm⟩
end
section
variable {t : Tre} {la : Nat}
end
end Go.Proofs.YtcaialhoclodjaaGreat
namespace Go.Proofs.YtcaialhoclodjaaGreat
open Go.RowKit Go.Deep
theorem cntI_le31 (ps : List Int) (i : Int) : ∀ k, cntI ps i k ≤ k
  | 0 => Nat.le_refl _
  | k + 1 => by
    have := cntI_le31 ps i k
    rw [cntI]; split <;> omega
end Go.Proofs.YtcaialhoclodjaaGreat
namespace Go.Proofs.YtcaialhoclodjaaGreat
/-- The leaves of the parts of a tree of which some leaves (K) are kept. -/
def RsrS (r : RT) (K X : ByteArray → Prop) : Prop := (∃ x, X x) ∧ ∃ Y, FamR r Y ∧ ∀ x, X x ↔ Y x ∧ K x
theorem rss_twice {r q : RT} {K1 K2 : ByteArray → Prop} (hf : ∀ X, FamR q X ↔ RsrS r K1 X) (hk : ∀ x, K2 x → K1 x) (X : ByteArray → Prop) : RsrS q K2 X ↔ RsrS r K2 X := by
  constructor
  · rintro ⟨hne, Y, hY, hx⟩
    obtain ⟨_, Z, hZ, hy⟩ := (hf Y).1 hY
    exact ⟨hne, Z, hZ, fun x => by rw [hx x, hy x]; exact ⟨fun h => ⟨h.1.1, h.2⟩, fun h => ⟨⟨h.1, hk x h.2⟩, h.2⟩⟩⟩
  · rintro ⟨⟨x0, h0⟩, Y, hY, hx⟩
    have h1 := (hx x0).1 h0
    exact ⟨⟨x0, h0⟩, fun x => Y x ∧ K1 x, (hf _).2 ⟨⟨x0, h1.1, hk x0 h1.2⟩, Y, hY, fun _ => Iff.rfl⟩, fun x => by rw [hx x]; exact ⟨fun h => ⟨⟨h.1, hk x h.2⟩, h.2⟩, fun h => ⟨h.1.1, h.2⟩⟩⟩
theorem pr_names {F : Frs} {n : Nat} {rk : Nat → Nat} {P : Nat → Bool} (hw : Wf F n rk) {i : Nat} (hn : i < n) (inn : ∀ z, z < n → F.kids z ≠ [] → (F.nm z).size = 0) {z : Nat} (hz : z < n) (hiz : subF F rk i z = true) (ha : al F P rk z = true) {x : ByteArray} :
    x ∈ leafR (toRF (F.sub rk (prQ F P rk) i) rk z) ↔ ∃ j, j < n ∧ subF F rk z j = true ∧ (F.nm j).size ≠ 0 ∧ P j = true ∧ x = F.nm j := by
  rw [leaf_reach (pr_wf hw _) hz]
  have key : ∀ j, j < n → (F.nm j).size ≠ 0 → al F P rk j = P j := fun j hj h0 => by
    have hk : F.kids j = [] := by
      by_cases c : F.kids j = []
      · exact c
      · exact absurd (inn j hj c) h0
    rw [al_eq hw hj, if_pos hk]
  constructor
  · rintro ⟨j, hj, hs, h0, e⟩
    have h0 : (F.nm j).size ≠ 0 := h0
    have hb := pr_below hw _ _ z j (Nat.le_refl _) hz hs
    have haj := pr_alive hw hn _ z j (Nat.le_refl _) hz hiz ha hs
    rw [key j hj h0] at haj
    exact ⟨j, hj, hb, h0, haj, e⟩
  · rintro ⟨j, hj, hs, h0, hP, e⟩
    have haj : al F P rk j = true := by rw [key j hj h0]; exact hP
    exact ⟨j, hj, (pr_reach hw hn _ z j (Nat.le_refl _) hz hiz hs haj).2, h0, e⟩
section
variable {t : Tre} {L : List Int}
/-- The names that are kept. -/
def kpN (t : Tre) (L : List Int) (x : ByteArray) : Prop := ∃ j : Nat, j < t.ps.length ∧ (j : Int) ∈ L ∧ x = gs t.ns j
theorem fr_inn (h : treeErr t = 0) : ∀ z, z < t.ps.length → (frT t).kids z ≠ [] → ((frT t).nm z).size = 0 := fun z hz hk => by
  obtain ⟨k, hk⟩ := List.exists_mem_of_ne_nil _ hk
  rw [frT_kids] at hk
  obtain ⟨h1, h2, h3⟩ := mem_kidsL.1 hk
  exact inner_empty h h1 h2 h3
theorem rs_fam (h : rsErr t L = 0) {X : ByteArray → Prop} : FamR (rsR t L) X ↔ RsrS (toR t) (kpN t L) X := by
  obtain ⟨ht, hl0, hL⟩ := rsErr_zero h
  have hw := (frT_arb ht).wf
  have h0 := (treeErr_zero ht).1
  have hall : ∀ z, z < t.ps.length → subF (frT t) (rkT t) 0 z = true := fun z hz => by
    rw [sub_hit ht _ 0 z (Nat.le_refl _) h0 hz]; exact hit_all0 ht z z (Nat.le_refl _) hz
  have hroot : al (frT t) (rsP L) (rkT t) 0 = true := (rs_facts h).1
  have hpart : ∀ z, z < t.ps.length → al (frT t) (rsP L) (rkT t) z = true → ∀ x, x ∈ leafR (toRF ((frT t).sub (rkT t) (prQ (frT t) (rsP L) (rkT t)) 0) (rkT t) z) ↔ x ∈ leafR (toRF (frT t) (rkT t) z) ∧ kpN t L x := fun z hz ha x => by
    rw [pr_names hw h0 (fr_inn ht) hz (hall z hz) ha, leaf_reach hw hz]
    constructor
    · rintro ⟨j, hj, hs, hn, hP, e⟩
      exact ⟨⟨j, hj, hs, hn, e⟩, j, hj, of_decide_eq_true hP, e⟩
    · rintro ⟨⟨j, hj, hs, hn, e⟩, i, hi, hiL, e2⟩
      have hin : ((frT t).nm i).size ≠ 0 := by
        have : x = (frT t).nm i := e2
        rw [← this, e]; exact hn
      have hkid : ∀ c, c < t.ps.length → ((frT t).nm c).size ≠ 0 → (frT t).kids c = [] := fun c hc hcn => by
        by_cases q : (frT t).kids c = []
        · exact q
        · exact absurd (fr_inn ht c hc q) hcn
      have hij : j = i := (frT_arb ht).names j i hj hi (hkid j hj hn) (hkid i hi hin) (by rw [← e]; exact e2)
      subst hij
      exact ⟨j, hj, hs, hn, decide_eq_true hiL, e⟩
  have hme : ∀ z, z < t.ps.length → al (frT t) (rsP L) (rkT t) z = true → ∃ x, x ∈ leafR (toRF (frT t) (rkT t) z) ∧ kpN t L x := fun z hz ha => by
    obtain ⟨j, j1, j2, j3, j4⟩ := al_ex hw _ z (Nat.le_refl _) hz ha
    have hjL : (j : Int) ∈ L := of_decide_eq_true j4
    obtain ⟨k, hk, e⟩ := List.mem_iff_getElem.1 hjL
    have hk3 := (hL k hk).2.2
    have e2 : gi L k = (j : Int) := by rw [← e]; simp [gi, hk]
    rw [e2, Int.toNat_natCast] at hk3
    exact ⟨_, (leaf_reach hw hz).2 ⟨j, j1, j2, hk3, rfl⟩, j, j1, hjL, rfl⟩
  unfold FamR RsrS rsR
  rw [subR_toRF (pr_wf hw _) h0 (Nat.le_refl _)]
  constructor
  · rintro ⟨s, hs, hx⟩
    obtain ⟨z, hz, rfl⟩ := List.mem_map.1 hs
    have hsz := (mem_nodesF (pr_wf hw _) h0 (Nat.le_refl _)).1 hz
    have hzn := subF_lt (pr_wf hw _) h0 (Nat.le_refl _) hsz
    have ha := pr_alive hw h0 _ 0 z (Nat.le_refl _) h0 (subF_self hw h0) hroot hsz
    have hx2 : ∀ x, X x ↔ x ∈ leafR (toRF (frT t) (rkT t) z) ∧ kpN t L x := fun x => (hx x).trans (hpart z hzn ha x)
    obtain ⟨x, hx3⟩ := hme z hzn ha
    exact ⟨⟨x, (hx2 x).2 hx3⟩, fun x => x ∈ leafR (toRF (frT t) (rkT t) z), ⟨toRF (frT t) (rkT t) z, by rw [subR_toR ht]; exact List.mem_map_of_mem ((nodes_perm ht).mem_iff.2 (List.mem_range.2 hzn)), fun _ => Iff.rfl⟩, hx2⟩
  · rintro ⟨⟨x0, h0x⟩, Y, ⟨s, hs, hy⟩, hx⟩
    rw [subR_toR ht] at hs
    obtain ⟨z, hz, rfl⟩ := List.mem_map.1 hs
    have hzn := mem_nodes_lt ht hz
    obtain ⟨y1, j0, j1, j2, j3⟩ := (hx x0).1 h0x
    obtain ⟨i, i1, i2, i3, i4⟩ := (leaf_reach hw hzn).1 ((hy x0).1 y1)
    have hin : ((frT t).nm j0).size ≠ 0 := by
      have : x0 = (frT t).nm j0 := j3
      rw [← this, i4]; exact i3
    have hkid : ∀ c, c < t.ps.length → ((frT t).nm c).size ≠ 0 → (frT t).kids c = [] := fun c hc hcn => by
      by_cases q : (frT t).kids c = []
      · exact q
      · exact absurd (fr_inn ht c hc q) hcn
    have hij : i = j0 := (frT_arb ht).names i j0 i1 j1 (hkid i i1 i3) (hkid j0 j1 hin) (by rw [← i4]; exact j3)
    subst hij
    have hai : al (frT t) (rsP L) (rkT t) i = true := by rw [al_eq hw i1, if_pos (hkid i i1 i3)]; exact decide_eq_true j2
    have haz := (pr_reach hw h0 _ z i (Nat.le_refl _) hzn (hall z hzn) i2 hai).1
    refine ⟨_, List.mem_map_of_mem ((mem_nodesF (pr_wf hw _) h0 (Nat.le_refl _)).2 ((pr_reach hw h0 _ 0 z (Nat.le_refl _) h0 (subF_self hw h0) (hall z hzn) haz).2)), fun x => ?_⟩
    rw [hx x, hy x, hpart z hzn haz x]
/-- The restricted tree as a rose tree. -/
def rsQt (t : Tre) (L : List Int) : RT := sortR (contrR (rsR t L))
theorem rs_good (h : rsErr t L = 0) : GoodR (rsR t L) := (rs_facts h).2.1
theorem rsQ_good (h : rsErr t L = 0) : GoodR (rsQt t L) := (good_contr (rs_good h)).sort
theorem rsQ_fam (h : rsErr t L = 0) (X : ByteArray → Prop) : FamR (rsQt t L) X ↔ RsrS (toR t) (kpN t L) X := by
  unfold rsQt
  rw [fam_sort, fam_contr (rs_good h), rs_fam h]
theorem rsT_flat (h : rsErr t L = 0) : rsT t L = flat (rsQt t L) := by unfold rsT rsQt; rw [if_neg (by simp [h])]
/-- Which leaves are kept. -/
theorem rsQ_leaves (h : rsErr t L = 0) (x : ByteArray) : x ∈ leafR (rsQt t L) ↔ kpN t L x := by
  obtain ⟨ht, hl0, hL⟩ := rsErr_zero h
  have hk : ∀ x, kpN t L x → x ∈ leafR (toR t) := by
    rintro x ⟨j, j1, j2, rfl⟩
    obtain ⟨k, hk, e⟩ := List.mem_iff_getElem.1 j2
    have hk3 := (hL k hk).2.2
    have e2 : gi L k = (j : Int) := by rw [← e]; simp [gi, hk]
    rw [e2, Int.toNat_natCast] at hk3
    exact (leaf_all ht).2 ⟨j, j1, hk3, rfl⟩
  constructor
  · intro hx
    obtain ⟨_, Y, _, hy⟩ := (rsQ_fam h fun x => x ∈ leafR (rsQt t L)).1 ⟨_, subR_self _, fun _ => Iff.rfl⟩
    exact ((hy x).1 hx).2
  · intro hx
    exact fam_le ((rsQ_fam h (kpN t L)).2 ⟨⟨x, hx⟩, fun x => x ∈ leafR (toR t), ⟨_, subR_self _, fun _ => Iff.rfl⟩, fun y => ⟨fun hy => ⟨hk y hy, hy⟩, fun hy => hy.2⟩⟩) hx
/-- Restricting step by step. -/
theorem rs_twice {L1 L2 L3 : List Int} {x : Tre} (h1 : rsErr t L1 = 0) (h2 : rsErr t L2 = 0) (hx : x = flat (rsQt t L1)) (h3 : rsErr x L3 = 0) (hk : ∀ j, j ∈ L2 → j ∈ L1) (he : ∀ y, kpN x L3 y ↔ kpN t L2 y) : rsQt x L3 = rsQt t L2 := by
  have hq : toR x = rsQt t L1 := by rw [hx, toR_flat]
  refine fam_eq (oku_contr (rs_good h3)) (oku_contr (rs_good h2)) fun X => ?_
  rw [fam_contr (rs_good h3), fam_contr (rs_good h2), rs_fam h3, rs_fam h2, hq]
  have e : kpN x L3 = kpN t L2 := funext fun y => propext (he y)
  rw [e]
  exact rss_twice (rsQ_fam h1) (fun y ⟨j, j1, j2, j3⟩ => ⟨j, j1, hk _ j2, j3⟩) X
end
end Go.Proofs.YtcaialhoclodjaaGreat
namespace Go.Proofs.YtcaialhoclodjaaGreat
section
variable {t : Tre}
/-- The leaves whose place is chosen. -/
def selB (b : Nat → Bool) (l : List Int) (k : Nat) : List Int := ((List.range k).filter b).map (gi l)
theorem selB_succ (b : Nat → Bool) (l : List Int) (k : Nat) : selB b l (k + 1) = selB b l k ++ if b k = true then [gi l k] else [] := by
  unfold selB
  rw [List.range_succ, List.filter_append, List.map_append]
  congr 1
  by_cases h : b k = true
  · rw [if_pos h, List.filter_cons_of_pos h]; rfl
  · rw [if_neg h, List.filter_cons_of_neg h]; rfl
theorem selB_mem {b : Nat → Bool} {l : List Int} {k : Nat} {x : Int} : x ∈ selB b l k ↔ ∃ i, i < k ∧ b i = true ∧ gi l i = x := by
  unfold selB
  rw [List.mem_map]
  constructor
  · rintro ⟨i, hi, rfl⟩
    obtain ⟨h1, h2⟩ := List.mem_filter.1 hi
    exact ⟨i, List.mem_range.1 h1, h2, rfl⟩
  · rintro ⟨i, h1, h2, rfl⟩
    exact ⟨i, List.mem_filter.2 ⟨List.mem_range.2 h1, h2⟩, rfl⟩
theorem selB_asc (b : Nat → Bool) (ns : List ByteArray) {k : Nat} (hk : k ≤ (leavesL ns).length) : (selB b (leavesL ns) k).Pairwise (· < ·) := by
  unfold selB
  rw [List.pairwise_map]
  refine List.Pairwise.imp_of_mem (R := (· < ·)) ?_ (List.Pairwise.filter b List.pairwise_lt_range)
  intro i j hi hj hij
  have h1 := List.mem_range.1 (List.mem_filter.1 hj).1
  exact leaves_lt ns (by omega) hij
theorem selB_len (b : Nat → Bool) (l : List Int) (k : Nat) : (selB b l k).length ≤ k := by
  unfold selB
  rw [List.length_map]
  have := List.length_filter_le b (List.range k)
  rw [List.length_range] at this; exact this
theorem sortS_self (l : List ByteArray) : (sortS l).Perm l := by
  unfold sortS srtL
  have h := (List.mergeSort_perm (l.map toL) (fun x y => decide (x ≤ y))).map ofL
  rw [List.map_map] at h
  have e : (ofL ∘ toL) = (id : ByteArray → ByteArray) := funext fun x => ofL_toL x
  rw [e, List.map_id] at h
  exact h
theorem sortL_pair (l : List Int) : (sortL l).Pairwise (· ≤ ·) := by
  have h := List.pairwise_mergeSort (le := fun x y : Int => decide (x ≤ y)) (fun a b c h1 h2 => by simp at h1 h2 ⊢; omega) (fun a b => by
    simp only [Bool.or_eq_true, decide_eq_true_eq]; omega) l
  exact h.imp fun h => by simpa using h
theorem nodup_map {α β : Type} {f : α → β} : ∀ {l : List α}, l.Nodup → (∀ x ∈ l, ∀ y ∈ l, f x = f y → x = y) → (l.map f).Nodup
  | [], _, _ => List.nodup_nil
  | a :: l, hn, h => by
    rw [List.map_cons, List.nodup_cons]
    have hn2 := List.nodup_cons.1 hn
    refine ⟨fun hm => ?_, nodup_map hn2.2 fun x hx y hy e => h x (List.mem_cons_of_mem _ hx) y (List.mem_cons_of_mem _ hy) e⟩
    obtain ⟨y, hy, e⟩ := List.mem_map.1 hm
    exact hn2.1 (h y (List.mem_cons_of_mem _ hy) a (List.mem_cons_self ..) e ▸ hy)
/-- What Restrict takes. -/
theorem rsErr_of {L : List Int} (he : treeErr t = 0) (h0 : L ≠ []) (ha : L.Pairwise (· < ·)) (hl : ∀ x ∈ L, ∃ j : Nat, x = j ∧ LeafOk t j) : rsErr t L = 0 := by
  unfold rsErr
  rw [if_neg (by simp [he]), if_neg (fun e => h0 (List.eq_nil_of_length_eq_zero e))]
  refine firstNZ_zero fun k hk => ?_
  obtain ⟨j, hj, hlf⟩ := hl _ (gi_mem hk)
  have h1 := hlf.lt
  have h2 := hlf.nm
  unfold rsE
  rw [if_neg (by rw [hj]; omega), if_neg (by rw [hj, Int.toNat_natCast]; exact h2), if_neg]
  rintro ⟨k0, hle⟩
  have hlt : gi L (k - 1) < gi L k := by
    have := List.pairwise_iff_getElem.1 ha (k - 1) k (by omega) hk (by omega)
    simpa [gi, hk, show k - 1 < L.length by omega] using this
  omega
theorem lv_leafOk (he : treeErr t = 0) {x : Int} (hx : x ∈ leavesL t.ns) : ∃ j : Nat, x = j ∧ LeafOk t j := by
  obtain ⟨_, _, hl, _, _⟩ := treeErr_zero he
  obtain ⟨j, rfl, h1, h2⟩ := mem_leavesL.1 hx
  exact ⟨j, rfl, he, by omega, h2⟩
theorem sel_ok (he : treeErr t = 0) {b : Nat → Bool} {k : Nat} (hk : k ≤ (leavesL t.ns).length) (h0 : 0 < k) (hb : b 0 = true) : rsErr t (selB b (leavesL t.ns) k) = 0 := by
  refine rsErr_of he (fun e => ?_) (selB_asc b _ hk) fun x hx => ?_
  · have : gi (leavesL t.ns) 0 ∈ selB b (leavesL t.ns) k := selB_mem.2 ⟨0, h0, hb, rfl⟩
    rw [e] at this; cases this
  · obtain ⟨i, h1, _, rfl⟩ := selB_mem.1 hx
    exact lv_leafOk he (gi_mem (by omega))
/-- The names of a list of nodes. -/
def nmsL (ns : List ByteArray) (L : List Int) : List ByteArray := L.map fun x => gs ns x.toNat
theorem nms_nodup {L : List Int} (hn : L.Nodup) (hl : ∀ x ∈ L, ∃ j : Nat, x = j ∧ LeafOk t j) : (nmsL t.ns L).Nodup := by
  unfold nmsL
  induction L with
  | nil => exact List.nodup_nil
  | cons a L ih =>
    rw [List.map_cons, List.nodup_cons]
    have hn2 := List.nodup_cons.1 hn
    refine ⟨fun hm => ?_, ih hn2.2 fun x hx => hl x (List.mem_cons_of_mem _ hx)⟩
    obtain ⟨y, hy, e⟩ := List.mem_map.1 hm
    obtain ⟨i, rfl, hi⟩ := hl a (List.mem_cons_self ..)
    obtain ⟨j, rfl, hj⟩ := hl y (List.mem_cons_of_mem _ hy)
    rw [Int.toNat_natCast, Int.toNat_natCast] at e
    have := hi.inj hj.lt hi.lt hj.nm e
    subst this
    exact hn2.1 hy
theorem nms_mem {L : List Int} (hl : ∀ x ∈ L, ∃ j : Nat, x = j ∧ LeafOk t j) {y : ByteArray} : y ∈ nmsL t.ns L ↔ kpN t L y := by
  unfold nmsL kpN
  rw [List.mem_map]
  constructor
  · rintro ⟨x, hx, rfl⟩
    obtain ⟨j, rfl, hj⟩ := hl x hx
    exact ⟨j, hj.lt, hx, by rw [Int.toNat_natCast]⟩
  · rintro ⟨j, _, h2, rfl⟩
    exact ⟨j, h2, by rw [Int.toNat_natCast]⟩
theorem rsE_leaf {L : List Int} (h : rsErr t L = 0) : ∀ x ∈ L, ∃ j : Nat, x = j ∧ LeafOk t j := fun x hx => by
  obtain ⟨h1, _, h3⟩ := rsErr_zero h
  obtain ⟨k, hk, e⟩ := List.mem_iff_getElem.1 hx
  have e2 : gi L k = x := by rw [← e]; simp [gi, hk]
  obtain ⟨a, b, c⟩ := h3 k hk
  rw [e2] at a b c
  exact ⟨x.toNat, by omega, h1, by omega, c⟩
/-- The names of the restricted tree. -/
theorem rsx_ok {L : List Int} (h : rsErr t L = 0) : treeErr (flat (rsQt t L)) = 0 := by
  have h4 := (rs_facts h).2.2.2
  rw [flat_ps] at h4
  exact treeErr_flat (rsQ_good h) h4
theorem rsx_names {L : List Int} (h : rsErr t L = 0) (hn : L.Nodup) : (fltN (flat (rsQt t L)).ns).Perm (nmsL t.ns L) := by
  refine (List.perm_ext_iff_of_nodup (rsQ_good h).nd (nms_nodup hn (rsE_leaf h))).2 fun y => ?_
  rw [nms_mem (rsE_leaf h)]
  exact rsQ_leaves h y
theorem rsx_sorted {L : List Int} (h : rsErr t L = 0) (hn : L.Nodup) : sortS (fltN (flat (rsQt t L)).ns) = sortS (nmsL t.ns L) := sortS_perm (rsx_names h hn)
/-- No node has one child. -/
theorem rsx_kids {L : List Int} (h : rsErr t L = 0) {i : Nat} (hi : i < (flat (rsQt t L)).ps.length) : cntI (flat (rsQt t L)).ps (i : Int) (flat (rsQt t L)).ps.length ≠ 1 := by
  obtain ⟨_, _, _, hok, _⟩ := treeErr_zero (rsx_ok h)
  rw [cnt_kids hok i _ (Nat.le_refl _)]
  show (kidsL (flat (rsQt t L)).ps i).length ≠ 1
  have hi2 : i < (subR (rsQt t L)).length := by rw [subR_len]; rw [flat_ps] at hi; exact hi
  rw [kids_flat (List.getElem?_eq_getElem hi2), hdR_len]
  have hm : (subR (rsQt t L))[i] ∈ subR (rsQt t L) := List.getElem_mem hi2
  generalize (subR (rsQt t L))[i] = s at hm
  unfold rsQt at hm
  obtain ⟨q, hq, rfl⟩ := List.mem_map.1 ((subR_sort _).mem_iff.1 hm)
  rw [sortR_kids, (sortRs_perm q.kids).length_eq, List.length_map]
  exact ((oku_contr (rs_good h)).pt q hq).2.2
/-- Restricted in two steps. -/
theorem rsx_twice {L1 L2 : List Int} (h1 : rsErr t L1 = 0) (h2 : rsErr t L2 = 0) (hn : L2.Nodup) (hs : ∀ x ∈ L2, x ∈ L1) {a : Tre} (ha : a = flat (rsQt t L1)) {R : List Int} (hR : R = sortL ((sortS (nmsL t.ns L2)).map (fdN a.ns))) :
    rsErr a R = 0 ∧ rsT a R = flat (rsQt t L2) := by
  have hae : treeErr a = 0 := by rw [ha]; exact rsx_ok h1
  have hw : ∀ x, x ∈ sortS (nmsL t.ns L2) → x ∈ fltN a.ns := fun x hx => by
    rw [sortS_mem, nms_mem (rsE_leaf h2)] at hx
    obtain ⟨j, j1, j2, j3⟩ := hx
    rw [ha]
    exact (rsQ_leaves h1 x).2 ⟨j, j1, hs _ j2, j3⟩
  have hfd : ∀ x, x ∈ sortS (nmsL t.ns L2) → ∃ k : Nat, fdN a.ns x = (k : Int) ∧ LeafOk a k ∧ gs a.ns k = x := fun x hx => fd_ok hae (hw x hx)
  have hperm : R.Perm ((sortS (nmsL t.ns L2)).map (fdN a.ns)) := by rw [hR]; exact List.mergeSort_perm _ _
  have hmem : ∀ x, x ∈ R ↔ ∃ y, y ∈ sortS (nmsL t.ns L2) ∧ fdN a.ns y = x := fun x => by rw [hperm.mem_iff, List.mem_map]
  have hnd0 : (sortS (nmsL t.ns L2)).Nodup := by
    have hp := sortS_self (nmsL t.ns L2)
    exact hp.nodup_iff.2 (nms_nodup hn (rsE_leaf h2))
  have hnd : R.Nodup := by
    refine hperm.nodup_iff.2 ?_
    refine nodup_map hnd0 fun x hx y hy e => ?_
    obtain ⟨k, k1, _, k3⟩ := hfd x hx
    obtain ⟨j, j1, _, j3⟩ := hfd y hy
    rw [k1, j1] at e
    have : k = j := by omega
    rw [← k3, ← j3, this]
  have hasc : R.Pairwise (· < ·) := by
    refine List.pairwise_iff_getElem.2 fun i j hi hj hij => ?_
    have hle := List.pairwise_iff_getElem.1 (sortL_pair ((sortS (nmsL t.ns L2)).map (fdN a.ns))) i j (by rw [← hR]; exact hi) (by rw [← hR]; exact hj) hij
    simp only [← hR] at hle
    have hne : R[i] ≠ R[j] := fun e => by
      have := (List.getElem_inj hnd).1 e
      omega
    omega
  have hl : ∀ x ∈ R, ∃ j : Nat, x = j ∧ LeafOk a j := fun x hx => by
    obtain ⟨y, hy, rfl⟩ := (hmem x).1 hx
    obtain ⟨k, k1, k2, _⟩ := hfd y hy
    exact ⟨k, k1, k2⟩
  have h0 : R ≠ [] := by
    obtain ⟨_, l0, _⟩ := rsErr_zero h2
    have e : gs t.ns (gi L2 0).toNat ∈ sortS (nmsL t.ns L2) := sortS_mem.2 (List.mem_map.2 ⟨_, gi_mem l0, rfl⟩)
    intro er
    have := (hmem _).2 ⟨_, e, rfl⟩
    rw [er] at this; cases this
  have h3 := rsErr_of hae h0 hasc hl
  refine ⟨h3, ?_⟩
  rw [rsT_flat h3, rs_twice h1 h2 ha h3 hs fun y => ?_]
  rw [← nms_mem (rsE_leaf h2)]
  constructor
  · rintro ⟨j, _, j2, rfl⟩
    obtain ⟨y, hy, e⟩ := (hmem _).1 j2
    obtain ⟨k, k1, _, k3⟩ := hfd y hy
    rw [k1] at e
    have : k = j := by omega
    rw [← this, k3]; exact sortS_mem.1 hy
  · intro hy
    obtain ⟨k, k1, k2, k3⟩ := hfd y (sortS_mem.2 hy)
    exact ⟨k, k2.lt, (hmem _).2 ⟨y, sortS_mem.2 hy, k1⟩, k3.symm⟩
end
end Go.Proofs.YtcaialhoclodjaaGreat
namespace Go.Proofs.YtcaialhoclodjaaGreat
open Go.RowKit Go.Deep
structure Tri (B : Nat) (W : World) (s f n : Value) (S F : List Int) (L : List ByteArray) : Prop where
  so : Owns B 3 W s (S.map (Value.int .i64))
  fo : Owns B 3 W f (F.map (Value.int .i64))
  no : Owns B 9 W n (L.map Value.string)
  a1 : ∀ b, s.ownBlock = some b → f.ownBlock ≠ some b
  a2 : ∀ b, s.ownBlock = some b → n.ownBlock ≠ some b
  a3 : ∀ b, f.ownBlock = some b → n.ownBlock ≠ some b
section
variable {B : Nat} {W W' : World} {s f n : Value} {S F : List Int} {L : List ByteArray} {g cap k : Nat}
theorem Tri.start (B : Nat) (W : World) : Tri B W (.slice none 0 0) (.slice none 0 0) (.slice none 0 0) [] [] [] :=
  ⟨Owns.nil _ _ _, Owns.nil _ _ _, Owns.nil _ _ _, fun b h => (by cases h), fun b h => (by cases h), fun b h => (by cases h)⟩
theorem Tri.up (h : Tri B W s f n S F L) (hu : Up W W') : Tri B W' s f n S F L :=
  ⟨h.so.same2 fun b hb => Below.block hu b (ownBlock_lt h.so hb).2, h.fo.same2 fun b hb => Below.block hu b (ownBlock_lt h.fo hb).2, h.no.same2 fun b hb => Below.block hu b (ownBlock_lt h.no hb).2, h.a1, h.a2, h.a3⟩
theorem new_apart {v u : Value} {e : TypeId} {vs : List Value} (ho : Owns B e W u vs) (ha : ∀ b, v.ownBlock = some b → u.ownBlock ≠ some b) (hor : v.ownBlock = some g ∨ W.heap.size ≤ g) : ∀ b, (Value.slice (some ⟨g, 0, none⟩) k cap).ownBlock = some b → u.ownBlock ≠ some b := fun b hb hb2 => by
  injection hb with hb
  have hb : g = b := hb
  subst hb
  rcases hor with h1 | h1
  · exact ha g h1 hb2
  · have := (ownBlock_lt ho hb2).2; omega
theorem Tri.appS (h : Tri B W s f n S F L) {u : Int} (ho : Owns B 3 W' (.slice (some ⟨g, 0, none⟩) k cap) (S.map (Value.int .i64) ++ [.int .i64 u])) (hg : W.grownBy W' s.ownBlock) (hor : s.ownBlock = some g ∨ W.heap.size ≤ g) : Tri B W' (.slice (some ⟨g, 0, none⟩) k cap) f n (S ++ [u]) F L :=
  ⟨by rw [List.map_append]; exact ho, h.fo.same2 fun b hb => hg.block b (ownBlock_lt h.fo hb).2 (fun e => h.a1 b e.symm hb), h.no.same2 fun b hb => hg.block b (ownBlock_lt h.no hb).2 (fun e => h.a2 b e.symm hb), new_apart h.fo h.a1 hor, new_apart h.no h.a2 hor, h.a3⟩
theorem Tri.appF (h : Tri B W s f n S F L) {u : Int} (ho : Owns B 3 W' (.slice (some ⟨g, 0, none⟩) k cap) (F.map (Value.int .i64) ++ [.int .i64 u])) (hg : W.grownBy W' f.ownBlock) (hor : f.ownBlock = some g ∨ W.heap.size ≤ g) : Tri B W' s (.slice (some ⟨g, 0, none⟩) k cap) n S (F ++ [u]) L :=
  ⟨h.so.same2 fun b hb => hg.block b (ownBlock_lt h.so hb).2 (fun e => h.a1 b hb e.symm), by rw [List.map_append]; exact ho, h.no.same2 fun b hb => hg.block b (ownBlock_lt h.no hb).2 (fun e => h.a3 b e.symm hb), fun b hb hb2 => new_apart h.so (fun b h1 h2 => h.a1 b h2 h1) hor b hb2 hb, h.a2, new_apart h.no h.a3 hor⟩
theorem Tri.appN (h : Tri B W s f n S F L) {u : ByteArray} (ho : Owns B 9 W' (.slice (some ⟨g, 0, none⟩) k cap) (L.map Value.string ++ [.string u])) (hg : W.grownBy W' n.ownBlock) (hor : n.ownBlock = some g ∨ W.heap.size ≤ g) : Tri B W' s f (.slice (some ⟨g, 0, none⟩) k cap) S F (L ++ [u]) :=
  ⟨h.so.same2 fun b hb => hg.block b (ownBlock_lt h.so hb).2 (fun e => h.a2 b hb e.symm), h.fo.same2 fun b hb => hg.block b (ownBlock_lt h.fo hb).2 (fun e => h.a3 b hb e.symm), by rw [List.map_append]; exact ho, h.a1, fun b hb hb2 => new_apart h.so (fun b h1 h2 => h.a2 b h2 h1) hor b hb2 hb, fun b hb hb2 => new_apart h.fo (fun b h1 h2 => h.a3 b h2 h1) hor b hb2 hb⟩
end
end Go.Proofs.YtcaialhoclodjaaGreat
namespace Go.Proofs.YtcaialhoclodjaaGreat
open Go.RowKit Go.Sort Go.Shelf Go.Deep
set_option maxRecDepth 100000 in
theorem sort_str_g (B : Nat) (w1 : World) (v : Value) (xs : List ByteArray) (ho : Owns B 9 w1 v (xs.map Value.string)) (hlen : xs.length ≤ 1000000) :
    Calls Tryz.prog 29 #[v] w1 fun e w' => e = .returned (.tuple #[]) ∧ w1.grownBy w' v.ownBlock ∧ Owns B 9 w' v ((sortS xs).map Value.string) := by
  rcases ho.2 with ⟨rfl, h0⟩ | ⟨g, cap, cur, rfl, hg, hc, hn, hcm, hcs, ht⟩
  · have hx : xs = [] := by cases xs with | nil => rfl | cons _ _ => simp at h0
    subst hx
    refine (Any.slices_Sort_string_none Tryz.sortS none 0 w1).mono ?_
    rintro e w' ⟨rfl, rfl⟩
    exact ⟨rfl, World.grownBy.refl _ _, by unfold sortS srtL; simpa using ho⟩
  · simp only [List.length_map] at hn ht ho ⊢
    have hln : (xs.map toL).length = xs.length := List.length_map _
    have hH : Holds encStr w1 g 0 (xs.map toL).toArray := holds_of_block hc (by rw [enc_map', hln]; simpa using ht)
    have hS := Any.slices_Sort_string Tryz.sortS g 0 cap (xs.map toL) w1 hH (Array.getElem?_eq_some_iff.1 hc).1 (by rw [hln]; omega)
    rw [hln] at hS
    refine hS.mono ?_
    rintro e w' ⟨rfl, n, os, rfl⟩
    refine ⟨rfl, grownBy_sorted _, ?_⟩
    have h := ownsRow_sorted (n := n) (os := os) (ss := xs.map toL) (ts := srtL (xs.map toL)) (List.length_mergeSort _) hg hc (by rw [hln]; exact hn) hcm (by simpa using hcs)
    unfold Owns
    rw [List.length_map, sortS_len]
    rw [hln, enc_map] at h
    exact h
theorem Tri.grownN {B : Nat} {W W' : World} {s f n : Value} {S F : List Int} {L L' : List ByteArray} (h : Tri B W s f n S F L) (ho : Owns B 9 W' n (L'.map Value.string)) (hg : W.grownBy W' n.ownBlock) : Tri B W' s f n S F L' :=
  ⟨h.so.same2 fun b hb => hg.block b (ownBlock_lt h.so hb).2 (fun e => h.a2 b hb e.symm), h.fo.same2 fun b hb => hg.block b (ownBlock_lt h.fo hb).2 (fun e => h.a3 b hb e.symm), ho, h.a1, h.a2, h.a3⟩
end Go.Proofs.YtcaialhoclodjaaGreat
