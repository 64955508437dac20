/- What TopErrors does at its end: a copy, two sorts, a comparison. -/
import Derived.Test.YtpjijbophjdgaaaGreatQ48
import Derived.Test.YtpjijbophjdgaaaGreatQ47
import Derived.Test.YtpjijbophjdgaaaGreatQ13
import Derived.Test.YtpjijbophjdgaaaGreatQ11
import Derived.Test.YtpjijbophjdgaaaGreatQ15
import Derived.Test.YtpjijbophjdgaaaGreatQ35
namespace Go.Proofs.YtpjijbophjdgaaaGreat
open Go.RowKit Go.Deep Go.Sort
def WnAt (B : Nat) (W : World) (d : Value) (L : List (List Int)) : Prop := ∃ cv, Owns B 26 W d cv ∧ cv.length = L.length ∧ ∀ i, i < L.length → IntsAt (fun b => b < B) W (cv.getD i undef) (gl L i)
theorem WnAt.start (B : Nat) (W : World) : WnAt B W (.slice none 0 0) [] := ⟨[], Owns.nil _ _ _, rfl, fun _ h => absurd h (Nat.not_lt_zero _)⟩
theorem WnAt.up {B : Nat} {W W' : World} {d : Value} {L : List (List Int)} (h : WnAt B W d L) (hu : Up W W') : WnAt B W' d L := by
  obtain ⟨cv, h1, h2, h3⟩ := h
  exact ⟨cv, h1.same2 fun b hb => Below.block hu b (ownBlock_lt h1 hb).2, h2, fun i hi => IntsAt.keep (h3 i hi) (hu.kept _)⟩
theorem WnAt.rows {B : Nat} {W : World} {d : Value} {L : List (List Int)} (h : WnAt B W d L) : RowsAt Any W d L := by
  obtain ⟨cv, h1, h2, h3⟩ := h
  refine ⟨fun i => cv.getD i undef, ?_, fun i hi => (h3 i hi).sub fun _ _ _ => trivial⟩
  have := h1.slAt
  rw [h2] at this
  exact this.sub fun _ _ _ => trivial
theorem WnAt.app {B g k cap : Nat} {W W' : World} {u : Value} {L : List (List Int)} {r : List Int} {cv : List Value} (h2 : cv.length = L.length) (h3 : ∀ i, i < L.length → IntsAt (fun b => b < B) W (cv.getD i undef) (gl L i)) (hu : IntsAt (fun b => b < B) W u r)
    (ho : Owns B 26 W' (.slice (some ⟨g, 0, none⟩) k cap) (cv ++ [u])) (hb : Below B W W') : WnAt B W' (.slice (some ⟨g, 0, none⟩) k cap) (L ++ [r]) := by
  refine ⟨cv ++ [u], ho, by rw [List.length_append, List.length_append, h2]; rfl, fun i hi => ?_⟩
  rw [List.length_append] at hi
  have hkeep : Kept (fun b => b < B) W W' := fun b hb2 hl => Below.block hb b hb2
  by_cases e : i < L.length
  · rw [getD_app (by omega), gl_app e]
    exact IntsAt.keep (h3 i e) hkeep
  · obtain rfl : i = L.length := by simp at hi; omega
    rw [getD_end h2.symm, gl_end]
    exact IntsAt.keep hu hkeep
theorem grown_cell {W W' : World} {ob : Option Nat} (hg : W.grownBy W' ob) {p : Addr} {v : Value} (hc : W.cell? p = some v) (hne : ob ≠ some p.block) : W'.cell? p = some v := by
  have h := hg.block p.block (World.block_lt_of_cell? W _ hc) fun e => hne e.symm
  unfold World.cell? at hc ⊢
  rw [h]; exact hc
def inW (L : List (List Int)) (s : List Int) : Bool := (List.range L.length).any fun j => decide (gl L j = s)
theorem inW_iff {L : List (List Int)} {s : List Int} : inW L s = true ↔ s ∈ L := by
  unfold inW
  rw [List.any_eq_true]
  constructor
  · rintro ⟨j, hj, e⟩
    rw [← of_decide_eq_true e]; exact gl_in (List.mem_range.1 hj)
  · intro h
    obtain ⟨j, hj, e⟩ := in_gl h
    exact ⟨j, List.mem_range.2 hj, decide_eq_true e⟩
set_option maxRecDepth 100000 in
set_option maxHeartbeats 800000 in
theorem equalRowsTE_t (S T : Nat → Prop) (w : World) (v u : Value) (xs ys : List (List Int)) (h : RowsAt S w v xs) (h2 : RowsAt T w u ys) (hn : xs.length ≤ 1000000) (hn2 : ys.length ≤ 1000000) (hr : ∀ k, (gl xs k).length ≤ 1000000) (hr2 : ∀ k, (gl ys k).length ≤ 1000000) :
    Calls Tryz.prog 27 #[v, u, .func (.func 28) #[] #[]] w (EqPost w (decide (xs = ys))) := by
  obtain ⟨p, cap, rfl, hcap, _⟩ := rows_open h
  obtain ⟨q, cap2, rfl, hcap2, _⟩ := rows_open h2
  have HX := Lib.hid h
  have HY := Lib.hid h2
  have HR := Lib.hid hr
  have HR2 := Lib.hid hr2
  clear h h2 hr hr2
  by_cases hl : xs.length = ys.length
  · have hl1 : ((xs.length : Int) != ys.length) = false := by simp [hl]
    have HL := Lib.hid hl
    clear hl
    go_enter Tryz.func27, Tryz.ntmps27
    go_wp2_with fail
    go_loopw [7, 8, 9, 17] (fun _ _ _ i wr => ∃ k : Nat, k ≤ xs.length ∧ i = .int .i64 k ∧ Hid (QD w wr) ∧ Hid (∀ j, j < k → gl xs j = gl ys j)) (fun _ _ _ i _ => xs.length - (intOf i).toNat)
    case atStart => exact ⟨0, Nat.zero_le _, rfl, QD.refl _, fun j hj => absurd hj (Nat.not_lt_zero _)⟩
    case round =>
      obtain ⟨k, hk, rfl, hQ, hd⟩ := hrel
      by_cases hlt : k < xs.length
      · have hlt2 : k < ys.length := by rw [← HL.out]; exact hlt
        obtain ⟨b, off, rq, rc, rfl, hc, hri⟩ := rows_get (HX.out.keep (hQ.out.kept S)) hlt
        obtain ⟨b2, off2, rq2, rc2, rfl, hc2, hri2⟩ := rows_get (HY.out.keep (hQ.out.kept T)) hlt2
        have HS := Lib.hid (teEq_t S T wr _ _ _ _ hri hri2 (HR.out k) (HR2.out k))
        clear hri hri2
        by_cases hxy : gl xs k = gl ys k
        · have hb : decide (gl xs k = gl ys k) = true := decide_eq_true hxy
          rw [hb] at HS
          have HXY := Lib.hid hxy
          clear hxy hb
          go_wp2_with fail
          refine HS.out.mono ?_
          rintro e w' ⟨rfl, m, rfl⟩
          go_wp2_with fail
          go_roundw
          case rel => exact ⟨k + 1, by omega, by go_num, hQ.out.drewN m, fun j hj => if e : j = k then by subst e; exact HXY.out else hd.out j (by omega)⟩
          case measure => simp [intOf]; omega
        · have hb : decide (gl xs k = gl ys k) = false := decide_eq_false hxy
          rw [hb] at HS
          have HXY := Lib.hid hxy
          clear hxy hb
          go_wp2_with fail
          refine HS.out.mono ?_
          rintro e w' ⟨rfl, m, rfl⟩
          go_wp2_with fail
          go_ret
          refine ⟨ret_bool ?_, hQ.out.drewN m⟩
          rw [eq_comm, decide_eq_false_iff_not]
          rintro rfl
          exact HXY.out rfl
      · obtain rfl : k = xs.length := by omega
        clear hlt hk
        have hex : xs = ys := rows_ext HL.out hd.out
        have HEX : Hid (decide (xs = ys) = true) := decide_eq_true hex
        clear hex
        go_wp2_with fail
        go_ret
        exact ⟨ret_bool (by rw [HEX.out]), hQ.out⟩
  · have hl1 : ((xs.length : Int) != ys.length) = true := by simp; omega
    have HL := Lib.hid hl
    clear hl
    go_enter Tryz.func27, Tryz.ntmps27
    go_wp2_with fail
    go_ret
    refine ⟨ret_bool ?_, 0, rfl⟩
    rw [eq_comm, decide_eq_false_iff_not]
    rintro rfl
    exact HL.out rfl
theorem rws_ofS {S : Nat → Prop} {base : Nat} {w : World} {v : Value} {vals : List Value} {l : List (List Int)} (ho : Owns base 26 w v vals) (hvl : vals.length = l.length) (hrow : ∀ i, i < l.length → IntsAt S w (vals.getD i undef) (gl l i)) (hk : ∀ b, S b → b < base) :
    ∃ ps, RwS base w v ps ∧ ps.map (·.1) = l ∧ ∀ p ∈ ps, IntsAt S w p.2 p.1 := by
  have hin : ∀ p ∈ (List.range l.length).map (fun i => (gl l i, vals.getD i undef)), IntsAt S w p.2 p.1 := fun p hp => by
    obtain ⟨i, hi, rfl⟩ := List.mem_map.1 hp
    exact hrow i (List.mem_range.1 hi)
  refine ⟨(List.range l.length).map fun i => (gl l i, vals.getD i undef), ⟨?_, fun p hp => ?_, fun p hp => ?_⟩, ?_, hin⟩
  · rw [List.map_map]
    have e : (List.range l.length).map ((fun x => x.2) ∘ fun i => (gl l i, vals.getD i undef)) = vals := by
      refine List.ext_getElem (by simp [hvl]) fun i h1 h2 => ?_
      simp [List.getElem_map, h2]
    rw [e]; exact ho
  · obtain ⟨q, c, e, _, _⟩ := SlAt.open (hin p hp)
    exact ⟨q, c, e⟩
  · exact (hin p hp).sub fun b hb _ e => by have := (ownBlock_lt ho e).1; have := hk b hb; omega
  · rw [List.map_map]
    refine List.ext_getElem (by simp) fun i h1 h2 => ?_
    simp [gl, h2]
def TeS (w9 : World) (lo b : Nat) : Prop := b < w9.heap.size ∧ (lo ≤ b ∨ TyI w9 b)
theorem te_clone (w9 : World) (ov : Value) (L : List (List Int)) (lo : Nat) {f : Nat → Value} (hs : SlAt (fun b => lo ≤ b) w9 ov L.length f) (hr : ∀ k, k < L.length → IntsAt (TyI w9) w9 (f k) (gl L k)) (hl : L.length ≤ 1000000) :
    Calls Tryz.prog 25 #[ov] w9 fun e w10 => Up w9 w10 ∧ ∃ q c ps, e = .returned (.slice q L.length c) ∧ RwS w9.heap.size w10 (.slice q L.length c) ps ∧ ps.map (·.1) = L ∧ ∀ p ∈ ps, IntsAt (TeS w9 lo) w10 p.2 p.1 := by
  have hR : RowsAt (TeS w9 lo) w9 ov L := ⟨f, hs.sub fun b hb hl => ⟨hl, .inl hb⟩, fun k hk => (hr k hk).sub fun b hb hl => ⟨hl, .inr hb⟩⟩
  refine (clone_rows_t (TeS w9 lo) w9 ov L hR hl).mono ?_
  rintro e w10 ⟨hu, v, vals, rfl, hvl, ho, hrow⟩
  obtain ⟨q, c, rfl, _⟩ := ho.form (n := L.length) hvl
  obtain ⟨ps, h1, h2, h3⟩ := rws_ofS ho hvl hrow fun b hb => hb.1
  exact ⟨hu, q, c, ps, rfl, h1, h2, h3⟩
theorem te_sort1 {w9 w10 : World} {v : Value} {L : List (List Int)} {lo : Nat} {ps : List (List Int × Value)} (hu : Up w9 w10) (hR : RwS w9.heap.size w10 v ps) (hm : ps.map (·.1) = L) (hS : ∀ p ∈ ps, IntsAt (TeS w9 lo) w10 p.2 p.1) (hl : L.length ≤ 1000000) (hrl : ∀ k, (gl L k).length ≤ 1000000) :
    Calls Tryz.prog 26 #[v, .func (.func 23) #[] #[]] w10 fun e w11 => e = .returned (.tuple #[]) ∧ Up w9 w11 ∧ ∃ ps', ps'.map (·.1) = sortX L ∧ RwS w9.heap.size w11 v ps' ∧ ∀ p ∈ ps', IntsAt (TeS w9 lo) w11 p.2 p.1 := by
  have hpl : ps.length = L.length := by rw [← hm, List.length_map]
  have hr : ∀ p ∈ ps, p.1.length ≤ 1000000 := fun p hp => by
    obtain ⟨k, hk, e⟩ := in_gl (show p.1 ∈ L by rw [← hm]; exact List.mem_map_of_mem hp)
    rw [← e]; exact hrl k
  refine (sortRows_m (cf := cmpL) cmpL_self (fun h => cmpL_zero h) cmpL_anti (fun h k => cmpL_trans h k) 23 #[] (enters_of Tryz.func23 (by kernel_rfl) rfl) hR (by omega) (fun p hp q hq W' hW' => teCmp_t Any Any W' p.2 q.2 p.1 q.1 (hR.there hW' p hp) (hR.there hW' q hq) (hr p hp) (hr q hq))).mono ?_
  rintro e w11 ⟨rfl, hg, ps', hp, hs, hR2, hm2⟩
  refine ⟨rfl, Below.grown hu hg hu.size fun g hg => (ownBlock_lt hR.own hg).1, ps', sortX_uniq (by rw [hm] at hp; exact hp) hs, hR2, fun p hp => IntsAt.keep (hS p (hm2 p hp)) fun b hb hlb => hg.block b hlb fun e => ?_⟩
  have := (ownBlock_lt hR.own e.symm).1
  have := hb.1
  omega
theorem te_sort2 {w9 w11 : World} {v d : Value} {L M : List (List Int)} {B lo : Nat} {ps : List (List Int × Value)} (hu : Up w9 w11) (hR : RwS w9.heap.size w11 v ps) (hm : ps.map (·.1) = L) (hS : ∀ p ∈ ps, IntsAt (TeS w9 lo) w11 p.2 p.1)
    (hW : WnAt B w9 d M) (hlo : ∀ g, d.ownBlock = some g → g < lo) (hl : M.length ≤ 1000000) (hrl : ∀ k, (gl M k).length ≤ 1000000) :
    Calls Tryz.prog 26 #[d, .func (.func 23) #[] #[]] w11 fun e w12 => e = .returned (.tuple #[]) ∧ (∀ W0, W0.heap.size ≤ B → Up W0 w11 → Up W0 w12) ∧ RowsAt Any w12 d (sortX M) ∧ RowsAt Any w12 v L := by
  obtain ⟨cv, h1, h2, h3⟩ := hW.up hu
  obtain ⟨cv9, k1, _, _⟩ := hW
  obtain ⟨qs, hQ, hqm, hqS⟩ := rws_ofS (S := fun b => b < B) h1 h2 h3 fun b hb => hb
  have hql : qs.length = M.length := by rw [← hqm, List.length_map]
  have hr : ∀ p ∈ qs, p.1.length ≤ 1000000 := fun p hp => by
    obtain ⟨k, hk, e⟩ := in_gl (show p.1 ∈ M by rw [← hqm]; exact List.mem_map_of_mem hp)
    rw [← e]; exact hrl k
  refine (sortRows_m (cf := cmpL) cmpL_self (fun h => cmpL_zero h) cmpL_anti (fun h k => cmpL_trans h k) 23 #[] (enters_of Tryz.func23 (by kernel_rfl) rfl) hQ (by omega) (fun p hp q hq W' hW' => teCmp_t Any Any W' p.2 q.2 p.1 q.1 (hQ.there hW' p hp) (hQ.there hW' q hq) (hr p hp) (hr q hq))).mono ?_
  rintro e w12 ⟨rfl, hg, qs', hp, hs, hR2, hm2⟩
  have hnot : ∀ b, TeS w9 lo b → d.ownBlock ≠ some b := fun b hb e => by
    rcases hb.2 with hb | hb
    · have := hlo b e; omega
    · exact own_notI k1 b e hb
  have hlt : ∀ b, v.ownBlock = some b → d.ownBlock ≠ some b := fun b hb e => by
    have := (ownBlock_lt hR.own hb).1
    have := (ownBlock_lt k1 e).2
    omega
  refine ⟨rfl, fun W0 h0 hW0 => Below.grown hW0 hg hW0.size fun g hg => Nat.le_trans h0 (ownBlock_lt h1 hg).1, ?_, ?_⟩
  · have hq : qs'.map (·.1) = sortX M := sortX_uniq (by rw [hqm] at hp; exact hp) hs
    rw [← hq]; exact hR2.rows
  · rw [← hm]
    have ho : Owns w9.heap.size 26 w12 v (ps.map (·.2)) := hR.own.same2 fun b hb => hg.block b (ownBlock_lt hR.own hb).2 fun e => hlt b hb e.symm
    have h4 := ho.slAt
    rw [List.length_map] at h4
    refine ⟨_, by rw [List.length_map]; exact h4.sub fun _ _ _ => trivial, fun k hk => ?_⟩
    have hk' : k < ps.length := by simpa using hk
    have h5 : IntsAt (TeS w9 lo) w12 ps[k].2 ps[k].1 := IntsAt.keep (hS ps[k] (List.getElem_mem hk')) fun b hb hlb => hg.block b hlb fun e => hnot b hb e.symm
    have e : gl (ps.map (·.1)) k = ps[k].1 := by simp [gl, hk']
    rw [e]
    have h6 := h5.sub (T := Any) fun _ _ _ => trivial
    simpa [hk'] using h6
theorem rows_perm_len {X Y : List (List Int)} (h : X.Perm Y) {n : Nat} (hr : ∀ k, (gl Y k).length ≤ n) (k : Nat) : (gl X k).length ≤ n := by
  by_cases hk : k < X.length
  · obtain ⟨j, hj, e⟩ := in_gl (h.mem_iff.1 (gl_in hk))
    rw [← e]; exact hr j
  · have : gl X k = [] := by simp [gl, show X.length ≤ k by omega]
    rw [this]; exact Nat.zero_le _
end Go.Proofs.YtpjijbophjdgaaaGreat
