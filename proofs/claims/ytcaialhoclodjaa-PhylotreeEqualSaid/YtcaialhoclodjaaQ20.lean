/- The contract of phylotree.made. The contract of phylotree.Restrict. The walk of phylotree.Restrict. The walk of phylotree.Reroot. -/
import Derived.Test.YtcaialhoclodjaaQ19
import Derived.Test.YtcaialhoclodjaaQ17
import Derived.Test.YtcaialhoclodjaaQ13
import Derived.Test.YtcaialhoclodjaaQ18
namespace Go.Proofs.Ytcaialhoclodjaa
open Go.RowKit Go.Deep
/-- Two lists stored into a box of a tree that lies at base or beyond. -/
theorem store_twoB {base : Nat} {w w4 : World} {B : Nat} {x y p q : Value} {T : TypeId} (hb : w4.heap[B]? = some (Obj.cells #[x, y] T (0, 0))) (hB : base ≤ B) (hu : Below base w w4) :
    Below base w ((w4.setCell ⟨B, 0, none⟩ p).setCell ⟨B, 1, none⟩ q) ∧ ((w4.setCell ⟨B, 0, none⟩ p).setCell ⟨B, 1, none⟩ q).cell? ⟨B, 0, none⟩ = some p ∧ ((w4.setCell ⟨B, 0, none⟩ p).setCell ⟨B, 1, none⟩ q).cell? ⟨B, 1, none⟩ = some q ∧
      ∀ b, b ≠ B → ((w4.setCell ⟨B, 0, none⟩ p).setCell ⟨B, 1, none⟩ q).heap[b]? = w4.heap[b]? := by
  have hset : ∀ b, b ≠ B → ((w4.setCell ⟨B, 0, none⟩ p).setCell ⟨B, 1, none⟩ q).heap[b]? = w4.heap[b]? := fun b hb => by rw [blk_setCell_other _ _ _ _ hb, blk_setCell_other _ _ _ _ hb]
  have hheap : ((w4.setCell ⟨B, 0, none⟩ p).setCell ⟨B, 1, none⟩ q).heap[B]? = some (Obj.cells #[p, q] T (0, 0)) := by
    simp [World.setCell, Array.getElem?_modify, hb]
  exact ⟨⟨hu.os, hu.tape, hu.output, by simp [World.size_setCell]; exact hu.size, fun b hb => (hset b (by omega)).trans (hu.block b hb)⟩, by simp [World.cell?, hheap], by simp [World.cell?, hheap], hset⟩
def MdPost (base : Nat) (w : World) (T : Tre) (e : Ending) (w' : World) : Prop :=
  Below base w w' ∧ w.heap.size ≤ w'.heap.size ∧ ∃ v, e = .returned (.tuple #[v, .int .i64 (if 64 < T.ps.length then 4 else 0)]) ∧ TreeAt (fun b => w.heap.size ≤ b) w' v (if 64 < T.ps.length then ⟨[], []⟩ else T)
theorem FUp.far {n base : Nat} {A : Nat → Nat} {kv : Nat → Value} {F : Frs} {w a b : World} (h : FUp n A kv a b) (hF : FAt base n A kv F w) {B : Nat} (hB : w.heap.size ≤ B) (hl : B < a.heap.size) : b.heap[B]? = a.heap[B]? :=
  h.block B hl (fun i hi e => by have := hF.lt hi; omega) (fun i hi e => by have := (hF.ownlt hi e).2; omega)
set_option maxRecDepth 100000 in
set_option maxHeartbeats 4000000 in
theorem made_t {base n : Nat} {A : Nat → Nat} {kv : Nat → Value} {rk : Nat → Nat} {F : Frs} {i : Nat} {w : World} (hw : Wf F n rk) (hD : Dis F n rk i) (hl : ∀ z, z < n → (F.kids z).length ≤ 1000) (hout : ∀ z, z < n → subF F rk i z = false → (F.kids z).length ≤ 1)
    (hi : i < n) (hg : GoodR (toRF F rk i)) (hsz : sizeR (contrR (toRF F rk i)) ≤ 100000) (hbs : base ≤ w.heap.size) (hF : FAt base n A kv F w) :
    Calls Try.prog 42 #[.pointer (some ⟨A i, 0, none⟩)] w (MdPost base w (flat (sortR (contrR (toRF F rk i))))) := by
  have hu := Up.alloc w (.cells #[.slice none 0 0, .slice none 0 0] 25)
  have hrb := box_at (w := w) (P := .slice none 0 0) (N := .slice none 0 0) (T := 25)
  have hsz1 : (w.alloc (.cells #[.slice none 0 0, .slice none 0 0] 25)).heap.size = w.heap.size + 1 := World.size_alloc _ _
  have HF := Lib.hid hF
  have HF1 := Lib.hid (hF.up hu)
  have HCT := Lib.hid (contracted_t (rk i) F i _ hw hD hl hi (Nat.le_refl _) (hF.up hu))
  have HR := Lib.hid (cr_ok hw hi (Nat.le_refl _))
  have HSO := Lib.hid (ct_sortable hw hi hg hl hout)
  have HRO : Hid (toRF (F.sub rk (ctQ F rk) i) rk (cr F rk i) = contrR (toRF F rk i)) := ct_rose hw hi (rk i) i (Nat.le_refl _) hi (subF_self hw hi)
  have HGR := Lib.hid (good_contr hg)
  have HSZ := Lib.hid hsz1
  have HRB := Lib.hid hrb
  have HBU : Hid (Below base w (w.alloc (.cells #[.slice none 0 0, .slice none 0 0] 25))) := Below.mono hu hbs
  have HBS := Lib.hid hbs
  have HSC := Lib.hid hsz
  clear hw hD hl hout hg hF hu hrb hsz1 hbs hsz
  unfold CtPost at HCT
  generalize contrR (toRF F rk i) = R at *
  generalize F.sub rk (ctQ F rk) i = F2 at *
  generalize cr F rk i = r at *
  go_enter Try.func42, Try.ntmps42
  go_wp2_with fail
  generalize w.alloc (.cells #[.slice none 0 0, .slice none 0 0] 25) = w1 at *
  refine HCT.out.mono ?_
  rintro e w2 ⟨rfl, hF2, hU2⟩
  obtain ⟨hr, _, _, _⟩ := HR.out
  have hF0 : FAt base n A kv (F2.srt rk fun _ => false) w2 := hF2.congr fun j _ => ⟨rfl, rfl, rfl⟩
  have HST := Lib.hid (sorted_t HSO.out (rk r) r (fun _ => false) w2 hr (Nat.le_refl _) hF0)
  have HRB2 := Lib.hid ((hU2.far HF.out (Nat.le_refl _) (by rw [HSZ.out]; omega)).trans HRB.out)
  have hs1 : base ≤ w1.heap.size := by have := HBS.out; rw [HSZ.out]; omega
  have HB2 := Lib.hid (HBU.out.trans (hU2.below HF1.out hs1))
  have HZ2 : Hid (w.heap.size + 1 ≤ w2.heap.size) := by have := hU2.size; rw [HSZ.out] at this; exact this
  have HF0 := Lib.hid hF0
  clear hF2 hU2 HCT hF0 HBU HRB
  go_wp2_with fail
  refine HST.out.mono ?_
  rintro e w3 ⟨rfl, hF3, hU3⟩
  have HRB3 := Lib.hid ((hU3.far HF.out (Nat.le_refl _) (by have := HZ2.out; omega)).trans HRB2.out)
  have HB3 := Lib.hid (HB2.out.trans (hU3.below HF0.out (by have := HBS.out; have := HZ2.out; omega)))
  have HZ3 : Hid (w.heap.size + 1 ≤ w3.heap.size) := Nat.le_trans HZ2.out hU3.size
  have hst := srt_tree HSO.out.wf hr (by rw [HRO.out]; exact HGR.out) (p := fun j => false || subF F2 rk r j) (fun j hj => by simpa using hj)
  rw [HRO.out] at hst
  have HTR := Lib.hid (tree_t (HSO.out.wf.srt fun j => false || subF F2 rk r j) (fun z hz => by
    rw [(F2.srt_perm rk (fun j => false || subF F2 rk r j) z).length_eq]; exact HSO.out.len z hz) w3 r hr hF3 (by rw [hst.2]; exact HSC.out))
  rw [hst.1] at HTR
  clear hF3 hU3 HST HF0 HRB2 HB2 HZ2 hst
  generalize flat (sortR R) = T at *
  go_wp2_with fail
  refine HTR.out.mono ?_
  rintro e w4 ⟨hu4, _, rfl, P4, N4, rfl, hP4, hN4⟩
  obtain ⟨pp, pc, rfl, _, _⟩ := SlAt.open hP4
  obtain ⟨np, nc, rfl, _, _⟩ := SlAt.open hN4
  have hu5 := Up.alloc w4 (.cells #[.slice pp T.ps.length pc, .slice np T.ns.length nc] 25)
  have HRB5 := Lib.hid (((Below.block (Below.trans hu4 (Below.mono hu5 hu4.size)) w.heap.size (by have := HZ3.out; omega)).trans HRB3.out))
  have HB5 := Lib.hid (HB3.out.trans (Below.mono (Below.trans hu4 (Below.mono hu5 hu4.size)) (by have := HBS.out; have := HZ3.out; omega)))
  have HP5 := Lib.hid (IntsAt.keep hP4 (hu5.kept _))
  have HN5 := Lib.hid (StrsAt.keep hN4 (hu5.kept _))
  have HZ5 : Hid (w.heap.size + 1 ≤ (w4.alloc (.cells #[.slice pp T.ps.length pc, .slice np T.ns.length nc] 25)).heap.size) := by have := hu5.size; have := hu4.size; have := HZ3.out; unfold Hid; omega
  have hc0 := box2_0 w4 (.slice pp T.ps.length pc) (.slice np T.ns.length nc) 25
  have hc1 := box2_1 w4 (.slice pp T.ps.length pc) (.slice np T.ns.length nc) 25
  obtain ⟨q0, q1, q2, q3⟩ : (w4.alloc (.cells #[.slice pp T.ps.length pc, .slice np T.ns.length nc] 25)).cell? ⟨w.heap.size, 0, none⟩ = some (.slice none 0 0) ∧ (w4.alloc (.cells #[.slice pp T.ps.length pc, .slice np T.ns.length nc] 25)).cell? ⟨w.heap.size, 1, none⟩ = some (.slice none 0 0) ∧ (w4.alloc (.cells #[.slice pp T.ps.length pc, .slice np T.ns.length nc] 25)).frozen? ⟨w.heap.size, 0, none⟩ = false ∧ (w4.alloc (.cells #[.slice pp T.ps.length pc, .slice np T.ns.length nc] 25)).frozen? ⟨w.heap.size, 1, none⟩ = false := by
    refine ⟨?_, ?_, ?_, ?_⟩ <;> simp only [World.cell?, World.frozen?, HRB5.out] <;> rfl
  clear hu4 hu5 hP4 hN4 HTR HRB3 HB3
  by_cases h64 : 64 < T.ps.length
  · have d1 : decide ((64 : Int) < (T.ps.length : Int)) = true := decide_eq_true (by omega)
    have HST := Lib.hid (store_twoB (p := .slice none 0 0) (q := .slice none 0 0) HRB5.out HBS.out HB5.out)
    have H64 := Lib.hid h64
    clear h64
    go_wp2_with fail
    obtain ⟨r1, r2, r3, r4⟩ := HST.out
    refine ⟨rfl, .tuple #[.agg #[.slice none 0 0, .slice none 0 0], .int .i64 4], by simp [results, Try.results42, go_sem, r2, r3], r1, ?_, .agg #[.slice none 0 0, .slice none 0 0], by rw [if_pos H64.out], by rw [if_pos H64.out]; exact ⟨_, _, rfl, ⟨none, 0, rfl, Nat.le_refl _, .inl rfl⟩, ⟨none, 0, rfl, Nat.le_refl _, .inl rfl⟩⟩⟩
    rw [World.size_setCell, World.size_setCell]; have := HZ5.out; omega
  · have d1 : decide ((64 : Int) < (T.ps.length : Int)) = false := decide_eq_false (by omega)
    have HST := Lib.hid (store_twoB (p := .slice pp T.ps.length pc) (q := .slice np T.ns.length nc) HRB5.out HBS.out HB5.out)
    have H64 := Lib.hid h64
    clear h64
    go_wp2_with fail
    obtain ⟨r1, r2, r3, r4⟩ := HST.out
    refine ⟨rfl, .tuple #[.agg #[.slice pp T.ps.length pc, .slice np T.ns.length nc], .int .i64 0], by simp [results, Try.results42, go_sem, r2, r3], r1, ?_, .agg #[.slice pp T.ps.length pc, .slice np T.ns.length nc], by rw [if_neg H64.out], ?_⟩
    · rw [World.size_setCell, World.size_setCell]; have := HZ5.out; omega
    · rw [if_neg H64.out]
      have hz := HZ3.out
      exact ⟨_, _, rfl, (IntsAt.keep HP5.out fun b hb _ => r4 b (by omega)).sub fun b hb _ => by omega, (StrsAt.keep HN5.out fun b hb _ => r4 b (by omega)).sub fun b hb _ => by omega⟩
end Go.Proofs.Ytcaialhoclodjaa
namespace Go.Proofs.Ytcaialhoclodjaa
open Go.RowKit Go.Deep
set_option maxRecDepth 100000 in
set_option maxHeartbeats 1000000 in
theorem keep_t (S : Nat → Prop) (W : World) (aj bx : Nat) (x : Int) (lv : Value) (L : List Int) (hl : L.length ≤ 1000000) (hb : W.cell? ⟨bx, 0, none⟩ = some lv) (hL : IntsAt S W lv L) (ho : W.cell? ⟨aj, 2, none⟩ = some (.int .i64 x)) :
    Calls Try.prog 75 (#[.pointer (some ⟨aj, 0, none⟩)] ++ #[.pointer (some ⟨bx, 0, none⟩)]) W fun e W' => e = .returned (.bool (decide (x ∈ L))) ∧ Up W W' := by
  have HC := Lib.hid (fun q => same_quiet (contains_int_t S (W.drewN q) lv L x (IntsAt.keep hL (kept_drewN _ W q)) hl))
  have HM := Lib.hid (any_memI x L)
  clear hL
  go_enter Try.func75, Try.ntmps75
  go_wp2_with fail
  go_big_quiet (with_reducible exact HC.out _)
  go_wp2_with fail
  go_ret
  exact ⟨by rw [HM.out]; rfl, Up.drewN _ _⟩
def rsE (t : Tre) (L : List Int) (k : Nat) : Int :=
  if gi L k < 0 ∨ (t.ps.length : Int) ≤ gi L k then 2 else if (gs t.ns (gi L k).toNat).size = 0 then 8 else if 0 < k ∧ gi L k ≤ gi L (k - 1) then 10 else 0
def rsErr (t : Tre) (L : List Int) : Int := if treeErr t ≠ 0 then 1 else if L.length = 0 then 5 else firstNZ (rsE t L) L.length
def rsP (L : List Int) (j : Nat) : Bool := decide ((j : Int) ∈ L)
/-- The tree that is left. -/
def rsR (t : Tre) (L : List Int) : RT := toRF ((frT t).sub (rkT t) (prQ (frT t) (rsP L) (rkT t)) 0) (rkT t) 0
def rsT (t : Tre) (L : List Int) : Tre := if rsErr t L ≠ 0 then ⟨[], []⟩ else flat (sortR (contrR (rsR t L)))
def RsPost (w : World) (t : Tre) (L : List Int) (e : Ending) (w' : World) : Prop :=
  Up w w' ∧ ∃ v, e = .returned (.tuple #[v, .int .i64 (rsErr t L)]) ∧ TreeAt Any w' v (rsT t L)
theorem rsErr_zero {t : Tre} {L : List Int} (h : rsErr t L = 0) : treeErr t = 0 ∧ 0 < L.length ∧ ∀ k, k < L.length → 0 ≤ gi L k ∧ gi L k < t.ps.length ∧ (gs t.ns (gi L k).toNat).size ≠ 0 := by
  unfold rsErr at h
  by_cases h1 : treeErr t = 0
  · rw [if_neg (by simp [h1])] at h
    by_cases h2 : L.length = 0
    · rw [if_pos h2] at h; cases h
    · rw [if_neg h2] at h
      refine ⟨h1, by omega, fun k hk => ?_⟩
      have h3 := firstNZ_eq_zero h k hk
      unfold rsE at h3
      split at h3
      · cases h3
      · split at h3
        · cases h3
        · exact ⟨by omega, by omega, by assumption⟩
  · rw [if_pos h1] at h; cases h
theorem rs_facts {t : Tre} {L : List Int} (h : rsErr t L = 0) :
    al (frT t) (rsP L) (rkT t) 0 = true ∧ GoodR (rsR t L) ∧ sizeR (rsR t L) ≤ 64 ∧ (flat (sortR (contrR (rsR t L)))).ps.length ≤ 64 := by
  obtain ⟨h1, h2, h3⟩ := rsErr_zero h
  obtain ⟨hp, hp64, _, _, _⟩ := treeErr_zero h1
  have hA := frT_arb h1
  obtain ⟨a, b, c⟩ := h3 0 h2
  obtain ⟨q, hq⟩ : ∃ q : Nat, gi L 0 = q := ⟨(gi L 0).toNat, by omega⟩
  have hqn : q < t.ps.length := by omega
  have hmem : (q : Int) ∈ L := by rw [← hq]; exact gi_mem h2
  have hleaf : (frT t).kids q = [] := by
    cases hk : (frT t).kids q with
    | nil => rfl
    | cons k l =>
      have hg := good_toR h1
      have hpart := rose_part hA.wf hp (all_below h1 q q (Nat.le_refl _) hqn)
      have hin := hg.inn _ hpart
      rw [toRF_nm hA.wf hqn, toRF_kids hA.wf hqn, hk] at hin
      rw [hq] at c
      exact absurd (hin (by simp)) c
  have hqa : al (frT t) (rsP L) (rkT t) q = true := by
    rw [al_eq hA.wf hqn, if_pos hleaf]; unfold rsP; exact decide_eq_true hmem
  have h0 := (pr_reach hA.wf hp _ 0 q (Nat.le_refl _) hp (subF_self hA.wf hp) (all_below h1 q q (Nat.le_refl _) hqn) hqa).1
  have hg : GoodR (rsR t L) := pr_good hA.wf hp (good_toR h1) h0
  have hs : sizeR (rsR t L) ≤ 64 := Nat.le_trans (good_size (pr_wf hA.wf 0) hp hg) hp64
  refine ⟨h0, hg, hs, ?_⟩
  rw [flat_ps, sizeR_sort]
  exact Nat.le_trans (size_contr _) hs
end Go.Proofs.Ytcaialhoclodjaa
namespace Go.Proofs.Ytcaialhoclodjaa
open Go.RowKit Go.Deep
theorem rs_err {w W : World} {B : Nat} {t : Tre} {L : List Int} {c : Int} (hB : w.heap.size ≤ B) (hu : Up w W) (hb : W.heap[B]? = some (Obj.cells #[.slice none 0 0, .slice none 0 0] 25 (0, 0))) (hc : rsErr t L = c) (h0 : c ≠ 0) :
    ((W.setCell ⟨B, 0, none⟩ (.slice none 0 0)).setCell ⟨B, 1, none⟩ (.slice none 0 0)).cell? ⟨B, 0, none⟩ = some (.slice none 0 0) ∧ ((W.setCell ⟨B, 0, none⟩ (.slice none 0 0)).setCell ⟨B, 1, none⟩ (.slice none 0 0)).cell? ⟨B, 1, none⟩ = some (.slice none 0 0) ∧
      RsPost w t L (.returned (.tuple #[.agg #[.slice none 0 0, .slice none 0 0], .int .i64 c])) ((W.setCell ⟨B, 0, none⟩ (.slice none 0 0)).setCell ⟨B, 1, none⟩ (.slice none 0 0)) := by
  obtain ⟨s1, s2, s3, s4⟩ := store_two (p := .slice none 0 0) (q := .slice none 0 0) hb hB hu
  refine ⟨s2, s3, s1, .agg #[.slice none 0 0, .slice none 0 0], by rw [hc], ?_⟩
  unfold rsT; rw [if_pos (by rw [hc]; exact h0)]; exact nil_tree _
set_option maxRecDepth 100000 in
set_option maxHeartbeats 8000000 in
theorem restrict_t (S : Nat → Prop) (w : World) (v vl : Value) (t : Tre) (L : List Int) (hT : TreeAt S w v t) (hL : IntsAt S w vl L) (hp : t.ps.length ≤ 1000000) (hn : t.ns.length ≤ 1000000) (hz : ∀ k, (gs t.ns k).size ≤ 70000) (hll : L.length ≤ 1000000) :
    Calls Try.prog 50 #[v, vl] w (RsPost w t L) := by
  obtain ⟨P, N, rfl, hP, hN⟩ := hT
  obtain ⟨pp, pc, rfl, _, _⟩ := SlAt.open hP
  obtain ⟨pn, pm, rfl, _, _⟩ := SlAt.open hN
  obtain ⟨lp, lc, rfl, _, _⟩ := SlAt.open hL
  have hP : IntsAt S w (.slice pp t.ps.length pc) t.ps := hP
  have hN : StrsAt S w (.slice pn t.ns.length pm) t.ns := hN
  have hL : IntsAt S w (.slice lp L.length lc) L := hL
  have ha := Up.alloc w (.cells #[.slice pp t.ps.length pc, .slice pn t.ns.length pm] 25)
  have hb := Up.alloc (w.alloc (.cells #[.slice pp t.ps.length pc, .slice pn t.ns.length pm] 25)) (.cells #[.slice lp L.length lc] 22)
  have hc := Up.alloc ((w.alloc (.cells #[.slice pp t.ps.length pc, .slice pn t.ns.length pm] 25)).alloc (.cells #[.slice lp L.length lc] 22)) (.cells #[.slice none 0 0, .slice none 0 0] 25)
  have HC0 := Lib.hid ((hb.trans hc).cell (box2_0 w (.slice pp t.ps.length pc) (.slice pn t.ns.length pm) 25))
  have HC1 := Lib.hid ((hb.trans hc).cell (box2_1 w (.slice pp t.ps.length pc) (.slice pn t.ns.length pm) 25))
  have hlc := hc.cell (box1_0 (w.alloc (.cells #[.slice pp t.ps.length pc, .slice pn t.ns.length pm] 25)) (.slice lp L.length lc) 22)
  have hrb := box_at (w := (w.alloc (.cells #[.slice pp t.ps.length pc, .slice pn t.ns.length pm] 25)).alloc (.cells #[.slice lp L.length lc] 22)) (P := .slice none 0 0) (N := .slice none 0 0) (T := 25)
  have hsz : (((w.alloc (.cells #[.slice pp t.ps.length pc, .slice pn t.ns.length pm] 25)).alloc (.cells #[.slice lp L.length lc] 22)).alloc (.cells #[.slice none 0 0, .slice none 0 0] 25)).heap.size = w.heap.size + 3 := by simp
  rw [World.size_alloc, World.size_alloc] at hrb
  rw [World.size_alloc] at hlc
  have hu := (ha.trans hb).trans hc
  have HU := Lib.hid hu
  have HT1 : Hid (TreeAt S _ _ t) := TreeAt.keep ⟨_, _, rfl, hP, hN⟩ (hu.kept S)
  have HL1 := Lib.hid (IntsAt.keep hL (hu.kept S))
  have HN1 := Lib.hid (StrsAt.keep hN (hu.kept S))
  have HRB := Lib.hid hrb
  have HLC := Lib.hid hlc
  have HSZ := Lib.hid hsz
  have HZ := Lib.hid hz
  have HRE : Hid (rsErr t L = if treeErr t ≠ 0 then 1 else if L.length = 0 then 5 else firstNZ (rsE t L) L.length) := rfl
  have hc0 := HC0.out
  have hc1 := HC1.out
  have HCK := Lib.hid (check_t S _ _ t HT1.out hp hn hz)
  clear ha hb hc hu hP hN hL hrb hsz hlc hz
  go_enter Try.func50, Try.ntmps50
  go_wp2_with fail
  generalize ((w.alloc (.cells #[.slice pp t.ps.length pc, .slice pn t.ns.length pm] 25)).alloc (.cells #[.slice lp L.length lc] 22)).alloc (.cells #[.slice none 0 0, .slice none 0 0] 25) = w1 at *
  refine HCK.out.mono ?_
  rintro e w2 ⟨rfl, hu2⟩
  have hu2 : Up w1 w2 := hu2
  have HU2 := Lib.hid hu2
  have HUW := Lib.hid (HU.out.trans hu2)
  have hc0 := hu2.cell HC0.out
  have hc1 := hu2.cell HC1.out
  have hlc := hu2.cell HLC.out
  have hrb2 := (Below.block hu2 (w.heap.size + 2) (by rw [HSZ.out]; omega)).trans HRB.out
  obtain ⟨q0, q1, q2, q3⟩ := boxed hrb2
  have HRB2 := Lib.hid hrb2
  clear hu2 hrb2 HCK
  by_cases he : treeErr t = 0
  · obtain ⟨hp0, hp64, hnl, hok, _⟩ := treeErr_zero he
    have HTE := Lib.hid he
    rw [he]
    have HRE2 : Hid (rsErr t L = if L.length = 0 then 5 else firstNZ (rsE t L) L.length) := by rw [Hid, HRE.out, if_neg (by simp [he])]
    have HNL := Lib.hid hnl
    clear he HRE hnl hok
    by_cases h0 : L.length = 0
    · have d0 : ((L.length : Int) == 0) = true := by rw [h0]; rfl
      have HST := Lib.hid (rs_err (c := 5) (by omega) HUW.out HRB2.out (by rw [HRE2.out, if_pos h0]) (by decide))
      clear h0
      go_wp2_with fail
      obtain ⟨s2, s3, hp⟩ := HST.out
      exact ⟨rfl, .tuple #[.agg #[.slice none 0 0, .slice none 0 0], .int .i64 5], by simp [results, Try.results50, go_sem, s2, s3], hp⟩
    · have d0 : ((L.length : Int) == 0) = false := beq_eq_false_iff_ne.2 (by omega)
      have HRE3 : Hid (rsErr t L = firstNZ (rsE t L) L.length) := by rw [Hid, HRE2.out, if_neg h0]
      have HNE : Hid (∀ k c, k < L.length → (∀ j, j < k → rsE t L j = 0) → rsE t L k = c → c ≠ 0 → rsErr t L = c) := fun k c hk hj hc h0 => by
        rw [HRE3.out, firstNZ_at hk hj (by rw [hc]; exact h0), hc]
      have HL0 := Lib.hid h0
      have HL2 := Lib.hid (IntsAt.keep HL1.out (HU2.out.kept S))
      have HN2 := Lib.hid (StrsAt.keep HN1.out (HU2.out.kept S))
      have HEK : Hid (∀ k, rsE t L k = if gi L k < 0 ∨ (t.ps.length : Int) ≤ gi L k then 2 else if (gs t.ns (gi L k).toNat).size = 0 then 8 else if 0 < k ∧ gi L k ≤ gi L (k - 1) then 10 else 0) := fun _ => rfl
      clear h0 HRE2
      go_wp2_with fail
      go_loop [6, 7, 18, 23, 34, 42] (fun _ _ x _ _ _ => ∃ k : Nat, k ≤ L.length ∧ x = .int .i64 k ∧ Hid (∀ j, j < k → rsE t L j = 0)) (fun _ _ x _ _ _ => L.length - (intOf x).toNat)
      case atStart => exact ⟨0, Nat.zero_le _, rfl, fun j hj => absurd hj (Nat.not_lt_zero _)⟩
      case round =>
        obtain ⟨k, hk, rfl, hd⟩ := hrel
        by_cases hlt : k < L.length
        · obtain ⟨lb, lo, rfl, hx⟩ := ints_get HL2.out hlt
          have k1 : (0 : Int) ≤ (k : Int) := by omega
          have k2 : (k : Int) < (L.length : Int) := by omega
          have HK := Lib.hid (HEK.out k)
          have HER := Lib.hid (fun c => HNE.out k c hlt hd.out)
          have HLT := Lib.hid hlt
          have hprev : ∀ h : 0 < k, w2.cell? ⟨lb, lo + (k - 1), none⟩ = some (.int .i64 (gi L (k - 1))) := fun h => ints_get' HL2.out (by omega)
          have HP := Lib.hid hprev
          clear hprev
          by_cases c1 : gi L k < 0
          · have e1 : decide (gi L k < 0) = true := decide_eq_true c1
            have HST := Lib.hid (rs_err (c := 2) (by omega) HUW.out HRB2.out (HER.out 2 (by rw [HK.out, if_pos (.inl c1)]) (by decide)) (by decide))
            clear c1
            go_wp2_with fail
            obtain ⟨s2, s3, hp⟩ := HST.out
            exact ⟨rfl, .tuple #[.agg #[.slice none 0 0, .slice none 0 0], .int .i64 2], by simp [results, Try.results50, go_sem, s2, s3], hp⟩
          · have e1 : decide (gi L k < 0) = false := decide_eq_false c1
            by_cases c2 : (t.ps.length : Int) ≤ gi L k
            · have e2 : decide ((t.ps.length : Int) ≤ gi L k) = true := decide_eq_true c2
              have HST := Lib.hid (rs_err (c := 2) (by omega) HUW.out HRB2.out (HER.out 2 (by rw [HK.out, if_pos (.inr c2)]) (by decide)) (by decide))
              clear c1 c2
              go_wp2_with fail
              obtain ⟨s2, s3, hp⟩ := HST.out
              exact ⟨rfl, .tuple #[.agg #[.slice none 0 0, .slice none 0 0], .int .i64 2], by simp [results, Try.results50, go_sem, s2, s3], hp⟩
            · have e2 : decide ((t.ps.length : Int) ≤ gi L k) = false := decide_eq_false c2
              obtain ⟨q, hq⟩ : ∃ q : Nat, gi L k = q := ⟨(gi L k).toNat, by omega⟩
              have hqn : q < t.ns.length := by have := HNL.out; omega
              obtain ⟨nb, no, hnb, hxn⟩ := strs_get HN2.out hqn
              have n1 : (0 : Int) ≤ (q : Int) := by omega
              have n2 : (q : Int) < (t.ns.length : Int) := by omega
              have HK2 : Hid (rsE t L k = if (gs t.ns q).size = 0 then 8 else if 0 < k ∧ (q : Int) ≤ gi L (k - 1) then 10 else 0) := by
                rw [Hid, HK.out, if_neg (by omega), hq]; rfl
              rw [hq] at e1 e2 hx
              have e2n : decide (t.ps.length ≤ q) = false := decide_eq_false (by omega)
              have e2p : ¬ t.ps.length ≤ q := by omega
              subst hnb
              clear c1 c2 hq HK
              by_cases c3 : (gs t.ns q).size = 0
              · have e3 : ((gs t.ns q).toList == []) = true := by
                  rw [(toList_nil _).2 c3]; rfl
                have HST := Lib.hid (rs_err (c := 8) (by omega) HUW.out HRB2.out (HER.out 8 (by rw [HK2.out, if_pos c3]) (by decide)) (by decide))
                clear c3
                generalize gs t.ns q = nm at *
                go_wp2_with fail
                obtain ⟨s2, s3, hp⟩ := HST.out
                exact ⟨rfl, .tuple #[.agg #[.slice none 0 0, .slice none 0 0], .int .i64 8], by simp [results, Try.results50, go_sem, s2, s3], hp⟩
              · have e3 : ((gs t.ns q).toList == []) = false := by
                  rw [beq_eq_false_iff_ne]
                  exact fun h => c3 ((toList_nil _).1 h)
                by_cases c4 : 0 < k
                · have hx2 := HP.out c4
                  have e4 : decide ((0 : Int) < (k : Int)) = true := decide_eq_true (by omega)
                  have p1 : (0 : Int) ≤ (k : Int) - 1 := by omega
                  have p2 : (k : Int) - 1 < (L.length : Int) := by omega
                  have p3 : ((k : Int) - 1).toNat = k - 1 := by omega
                  by_cases c5 : (q : Int) ≤ gi L (k - 1)
                  · have e5 : decide ((q : Int) ≤ gi L (k - 1)) = true := decide_eq_true c5
                    have HST := Lib.hid (rs_err (c := 10) (by omega) HUW.out HRB2.out (HER.out 10 (by rw [HK2.out, if_neg c3, if_pos ⟨c4, c5⟩]) (by decide)) (by decide))
                    clear c3 c5
                    generalize gs t.ns q = nm at *
                    generalize gi L (k - 1) = pv at *
                    go_wp2_with fail
                    obtain ⟨s2, s3, hp⟩ := HST.out
                    exact ⟨rfl, .tuple #[.agg #[.slice none 0 0, .slice none 0 0], .int .i64 10], by simp [results, Try.results50, go_sem, s2, s3], hp⟩
                  · have e5 : decide ((q : Int) ≤ gi L (k - 1)) = false := decide_eq_false c5
                    have HN0 : Hid (∀ j, j < k + 1 → rsE t L j = 0) := fun j hj => if c : j = k then by subst c; rw [HK2.out, if_neg c3, if_neg (by omega)] else hd.out j (by omega)
                    clear c3 c5
                    generalize gs t.ns q = nm at *
                    generalize gi L (k - 1) = pv at *
                    go_wp2_with fail
                    go_round
                    case rel => exact ⟨k + 1, HLT.out, by go_num, HN0⟩
                    case measure => have := HLT.out; simp [intOf]; omega
                · have e4 : decide ((0 : Int) < (k : Int)) = false := decide_eq_false (by omega)
                  have HN0 : Hid (∀ j, j < k + 1 → rsE t L j = 0) := fun j hj => if c : j = k then by subst c; rw [HK2.out, if_neg c3, if_neg (by omega)] else hd.out j (by omega)
                  clear c3
                  generalize gs t.ns q = nm at *
                  go_wp2_with fail
                  go_round
                  case rel => exact ⟨k + 1, HLT.out, by go_num, HN0⟩
                  case measure => have := HLT.out; simp [intOf]; omega
        · obtain rfl : k = L.length := by omega
          have HR0 : Hid (rsErr t L = 0) := by rw [Hid, HRE3.out]; exact firstNZ_zero hd.out
          clear hlt hk hd HNE HRE3
          have HT2 : Hid (TreeAt S w2 (.agg #[.slice pp t.ps.length pc, .slice pn t.ns.length pm]) t) := HT1.out.keep (HU2.out.kept S)
          obtain ⟨_, _, hnl, hok, _⟩ := treeErr_zero HTE.out
          have HND := Lib.hid (nodes_t S w2 _ t HT2.out (by omega) hnl hok HZ.out)
          have HFX := Lib.hid (rs_facts HR0.out)
          clear hnl hok
          go_wp2_with fail
          refine HND.out.mono ?_
          rintro e w3 ⟨hu3, g, A, kv, rfl, hF, hrow⟩
          have hi0 := hrow.cell (i := 0) hp0
          simp only [nptr] at hi0
          have HF3 := Lib.hid hF
          have HU3 := Lib.hid hu3
          have HB3 : Hid (Below w2.heap.size w2 w3) := hu3
          have hpos : (0 : Int) < (t.ps.length : Int) := by omega
          have hlc3 := hu3.cell hlc
          have HLC3 := Lib.hid hlc3
          have HL3 := Lib.hid (IntsAt.keep HL2.out (hu3.kept S))
          have HA := Lib.hid (frT_arb HTE.out)
          have HS2 : Hid (w.heap.size + 3 ≤ w2.heap.size) := by have := HU2.out.size; rw [HSZ.out] at this; exact this
          have HLB : Hid (∀ W, Below w2.heap.size w2 W → W.cell? ⟨w.heap.size + 1, 0, none⟩ = some (.slice lp L.length lc) ∧ IntsAt S W (.slice lp L.length lc) L) := fun W hW => ⟨(show Up w2 W from hW).cell hlc, IntsAt.keep HL2.out ((show Up w2 W from hW).kept S)⟩
          have HPR := Lib.hid (pruned_t 75 #[.pointer (some ⟨w.heap.size + 1, 0, none⟩)] (enters_of Try.func75 (by kernel_rfl) rfl) (base := w2.heap.size) (n := t.ps.length) (A := A) (w0 := w2) (m := (frT t).nm) (o := fun j => (j : Int)) (P := rsP L) (rk := rkT t)
            (fun j W hj hB _ ho => keep_t S W (A j) (w.heap.size + 1) j _ L hll (HLB.out W hB).1 (HLB.out W hB).2 ho) (rkT t 0) (frT t) 0 kv w3 rfl rfl HA.out.wf (HA.out.dis (fun i _ => rkT_le t i) 0) (fun z hz => by have := frT_kids_len t z; omega) hp0 (Nat.le_refl _) HB3.out hu3.size hF)
          clear hu3 hF hrow hc0 hc1 hlc hlc3 q0 q1 q2 q3 HND
          have HAL := Lib.hid HFX.out.1
          unfold PrPost at HPR
          rw [HAL.out, if_pos rfl] at HPR
          unfold nptr at HPR
          go_wp2_with fail
          refine HPR.out.mono ?_
          rintro e w4 ⟨rfl, kv4, h4⟩
          have HB4 := Lib.hid (HB3.out.trans (h4.up.below HF3.out.lo HU3.out.size))
          have HZ4 : Hid (w2.heap.size ≤ w4.heap.size) := Nat.le_trans HU3.out.size h4.up.size
          have HMD := Lib.hid (made_t (pr_wf HA.out.wf 0) (pr_dis HA.out.wf hp0 (HA.out.dis (fun i _ => rkT_le t i) 0)) (pr_len (fun z hz => by have := frT_kids_len t z; omega) 0) (pr_out HA.out.wf hp0 fun z hz => all_below HTE.out z z (Nat.le_refl _) hz) hp0 HFX.out.2.1
            (Nat.le_trans (size_contr _) (Nat.le_trans HFX.out.2.2.1 (by decide))) HZ4.out h4.fr)
          have HT64 : Hid (¬ 64 < (flat (sortR (contrR (rsR t L)))).ps.length) := by have := HFX.out.2.2.2; unfold Hid; omega
          have HRS : Hid (rsT t L = flat (sortR (contrR (rsR t L)))) := by unfold Hid rsT; rw [if_neg (by simp [HR0.out])]
          have HRR : Hid (toRF ((frT t).sub (rkT t) (prQ (frT t) (rsP L) (rkT t)) 0) (rkT t) 0 = rsR t L) := rfl
          unfold MdPost at HMD
          rw [HRR.out, if_neg HT64.out, if_neg HT64.out] at HMD
          clear h4 HPR hi0
          generalize flat (sortR (contrR (rsR t L))) = T at *
          go_wp2_with fail
          refine HMD.out.mono ?_
          rintro e w5 ⟨hb5, hz5, _, rfl, P5, N5, rfl, hP5, hN5⟩
          obtain ⟨p5, c5, rfl, _, _⟩ := SlAt.open hP5
          obtain ⟨n5, d5, rfl, _, _⟩ := SlAt.open hN5
          have hu5 : Up w2 w5 := HB4.out.trans hb5
          have hrb5 := (Below.block hu5 (w.heap.size + 2) (by have := HS2.out; omega)).trans HRB2.out
          obtain ⟨q0, q1, q2, q3⟩ := boxed hrb5
          have HST := Lib.hid (store_two (w := w) (p := .slice p5 T.ps.length c5) (q := .slice n5 T.ns.length d5) hrb5 (by omega) (HUW.out.trans hu5))
          have HP5 := Lib.hid hP5
          have HN5 := Lib.hid hN5
          clear hb5 hrb5 hu5 hP5 hN5 HMD
          go_wp2_with fail
          obtain ⟨s1, s2, s3, s4⟩ := HST.out
          refine ⟨rfl, .tuple #[.agg #[.slice p5 T.ps.length c5, .slice n5 T.ns.length d5], .int .i64 0], by simp [results, Try.results50, go_sem, s2, s3], s1, _, by rw [HR0.out], ?_⟩
          rw [HRS.out]
          have hs2 := HS2.out
          have hz4 := HZ4.out
          exact ⟨_, _, rfl, (IntsAt.keep HP5.out fun b hb _ => s4 b (by omega)).sub fun _ _ _ => trivial, (StrsAt.keep HN5.out fun b hb _ => s4 b (by omega)).sub fun _ _ _ => trivial⟩
  · have he1 : (treeErr t != 0) = true := by simpa using he
    have HST := Lib.hid (rs_err (c := 1) (by omega) HUW.out HRB2.out (by rw [HRE.out, if_pos he]) (by decide))
    clear he HRE
    generalize treeErr t = te at *
    go_wp2_with fail
    obtain ⟨s2, s3, hp⟩ := HST.out
    exact ⟨rfl, .tuple #[.agg #[.slice none 0 0, .slice none 0 0], .int .i64 1], by simp [results, Try.results50, go_sem, s2, s3], hp⟩
end Go.Proofs.Ytcaialhoclodjaa
namespace Go.Proofs.Ytcaialhoclodjaa
open Go.RowKit Go.Deep
set_option maxRecDepth 100000 in
set_option maxHeartbeats 1000000 in
/-- 'k.old == from'. -/
theorem from_t (W : World) (aj bx : Nat) (x f : Int) (hb : W.cell? ⟨bx, 0, none⟩ = some (.int .i64 f)) (ho : W.cell? ⟨aj, 2, none⟩ = some (.int .i64 x)) :
    Calls Try.prog 41 (#[.pointer (some ⟨aj, 0, none⟩)] ++ #[.pointer (some ⟨bx, 0, none⟩)]) W fun e W' => e = .returned (.bool (decide (x = f))) ∧ ∃ m, W' = W.drewN m := by
  have d1 : (x == f) = decide (x = f) := by rw [Bool.eq_iff_iff, beq_iff_eq, decide_eq_true_eq]
  have D1 := Lib.hid d1
  clear d1
  go_enter Try.func41, Try.ntmps41
  go_wp2_with fail
  go_big_quiet (fail)
  go_wp2_with fail
  go_ret
  exact ⟨by rw [← D1.out]; rfl, _, rfl⟩
set_option maxRecDepth 100000 in
set_option maxHeartbeats 1000000 in
/-- 'x.name != ""'. -/
theorem named_leaf_t (W : World) (aj : Nat) (s : ByteArray) (ho : W.cell? ⟨aj, 0, none⟩ = some (.string s)) :
    Calls Try.prog 44 (#[.pointer (some ⟨aj, 0, none⟩)] ++ #[]) W fun e W' => e = .returned (.bool (decide (s.size ≠ 0))) ∧ Up W W' := by
  by_cases h : s.size = 0
  · have e3 : (s.toList == []) = true := by rw [(toList_nil _).2 h]; rfl
    have HD : Hid (decide (s.size ≠ 0) = false) := by rw [Hid, h]; rfl
    clear h
    go_enter Try.func44, Try.ntmps44
    go_wp2_with fail
    go_ret
    exact ⟨by rw [HD.out]; rfl, Up.refl _⟩
  · have e3 : (s.toList == []) = false := by
      rw [beq_eq_false_iff_ne]; exact fun q => h ((toList_nil _).1 q)
    have HD : Hid (decide (s.size ≠ 0) = true) := decide_eq_true h
    clear h
    go_enter Try.func44, Try.ntmps44
    go_wp2_with fail
    go_ret
    exact ⟨by rw [HD.out]; rfl, Up.refl _⟩
end Go.Proofs.Ytcaialhoclodjaa
