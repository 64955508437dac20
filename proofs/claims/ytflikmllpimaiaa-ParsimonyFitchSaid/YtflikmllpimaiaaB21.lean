/- The contracts of parsimony.Score and Table. -/
import Derived.Test.YtflikmllpimaiaaB20
import Derived.Test.YtflikmllpimaiaaS
namespace Go.Proofs.Ytflikmllpimaiaa
open Go.RowKit Go.Deep
/-- What lay in w lies in w' as it lay. -/
def Up (w w' : World) : Prop := Below w.heap.size w w'
theorem Up.refl (w : World) : Up w w := Below.refl _ _
theorem Up.trans {a b c : World} (h : Up a b) (k : Up b c) : Up a c := Below.trans h (Below.mono k h.size)
theorem Up.alloc (w : World) (o : Obj) : Up w (w.alloc o) := (Below.refl _ _).alloc (Nat.le_refl _) _
theorem Up.drewN (w : World) (n : Nat) : Up w (w.drewN n) := below_drewN (Below.refl _ _) n
theorem Up.kept {w w' : World} (h : Up w w') (S : Nat → Prop) : Kept S w w' := Kept.below h
theorem Up.size {w w' : World} (h : Up w w') : w.heap.size ≤ w'.heap.size := Below.size h
theorem Up.cell {w w' : World} (h : Up w w') {p : Addr} {v : Value} (hc : w.cell? p = some v) : w'.cell? p = some v := by
  obtain ⟨b, o, i⟩ := p
  have hl : b < w.heap.size := World.block_lt_of_cell? w _ hc
  rw [Below.cell h (p := ⟨b, o, i⟩) hl]; exact hc
theorem box2_0 (w : World) (P N : Value) (T : TypeId) : (w.alloc (.cells #[P, N] T)).cell? ⟨w.heap.size, 0, none⟩ = some P := by simp [World.cell?_alloc_new]
theorem box2_1 (w : World) (P N : Value) (T : TypeId) : (w.alloc (.cells #[P, N] T)).cell? ⟨w.heap.size, 1, none⟩ = some N := by simp [World.cell?_alloc_new]
theorem box1_0 (w : World) (P : Value) (T : TypeId) : (w.alloc (.cells #[P] T)).cell? ⟨w.heap.size, 0, none⟩ = some P := by simp [World.cell?_alloc_new]
def Sized (t : Tre) (st : List Int) (cs : List (List Int)) : Prop :=
  t.ps.length ≤ 1000000 ∧ t.ns.length ≤ 1000000 ∧ (∀ k, (gs t.ns k).size ≤ 70000) ∧ st.length ≤ 1000000 ∧ cs.length ≤ 1000000 ∧ ∀ k, (gl cs k).length ≤ 1000000
theorem pcheck_s (S : Nat → Prop) (w : World) (v vs vc : Value) (t : Tre) (st : List Int) (cs : List (List Int)) (hT : TreeAt S w v t) (hS : IntsAt S w vs st) (hC : RowsAt S w vc cs) (hz : Sized t st cs) :
    Calls Try.prog 37 #[v, vs, vc] w fun e w' => StI e w' w (parErr t st cs) := by
  obtain ⟨h1, h2, h3, h4, h5, h6⟩ := hz
  exact pcheck_t S w v vs vc t st cs hT hS hC h1 h2 h3 h4 h5 h6
theorem table_v (S : Nat → Prop) (w : World) (v vs vc : Value) (t : Tre) (st : List Int) (cs : List (List Int)) (hT : TreeAt S w v t) (hS : IntsAt S w vs st) (hC : RowsAt S w vc cs)
    (hz : ∀ k, (gs t.ns k).size ≤ 70000) (hv : Valid t st cs) : Calls Try.prog 51 #[v, vs, vc] w (TbPost w (tabL t st cs)) := by
  obtain ⟨h1, h2, h3, hok, hn⟩ := treeErr_zero hv.tree
  obtain ⟨m1, m2, m3, m4, m5⟩ := matErr_zero hv.mat
  have hl := leavesL_len t.ns
  exact table_t S w v vs vc t st cs hT hS hC hv.tree (by omega) hz h2 m2 m1 (Nat.le_of_eq hv.len.symm) m3 m4 (fun j s hj => hv.tb j s hj) (by omega)
def ScPost (w : World) (t : Tre) (st : List Int) (cs : List (List Int)) (e : Ending) (w' : World) : Prop :=
  Up w w' ∧ e = .returned (.tuple #[.int .i64 (scoreN t st cs), .int .i64 (parErr t st cs)])
theorem rows_open {S : Nat → Prop} {w : World} {v : Value} {xs : List (List Int)} (h : RowsAt S w v xs) : ∃ p cap, v = .slice p xs.length cap ∧ xs.length ≤ cap ∧
    ∀ k, k < xs.length → ∃ b off q c, p = some ⟨b, off, none⟩ ∧ w.cell? ⟨b, off + k, none⟩ = some (.slice q (gl xs k).length c) ∧ IntsAt S w (.slice q (gl xs k).length c) (gl xs k) := by
  obtain ⟨f, hsl, hr⟩ := h
  obtain ⟨p, cap, rfl, hcap, H⟩ := SlAt.open hsl
  refine ⟨p, cap, rfl, hcap, fun k hk => ?_⟩
  obtain ⟨b, off, rfl, hc⟩ := H k hk
  have h1 := hr k hk
  obtain ⟨q, c, e, _, _⟩ := SlAt.open h1
  rw [e] at hc h1
  exact ⟨b, off, q, c, rfl, hc, h1⟩
theorem ints_get {S : Nat → Prop} {w : World} {p : Option Addr} {n cap : Nat} {xs : List Int} (h : IntsAt S w (.slice p n cap) xs) {k : Nat} (hk : k < xs.length) : ∃ b off, p = some ⟨b, off, none⟩ ∧ w.cell? ⟨b, off + k, none⟩ = some (.int .i64 (gi xs k)) := by
  obtain ⟨q, c, e, _, H⟩ := SlAt.open h
  injection e with e1
  subst e1
  exact H k hk
theorem strs_get {S : Nat → Prop} {w : World} {p : Option Addr} {n cap : Nat} {xs : List ByteArray} (h : StrsAt S w (.slice p n cap) xs) {k : Nat} (hk : k < xs.length) : ∃ b off, p = some ⟨b, off, none⟩ ∧ w.cell? ⟨b, off + k, none⟩ = some (.string (gs xs k)) := by
  obtain ⟨q, c, e, _, H⟩ := SlAt.open h
  injection e with e1
  subst e1
  exact H k hk
theorem rows_get {S : Nat → Prop} {w : World} {p : Option Addr} {n cap : Nat} {xs : List (List Int)} (h : RowsAt S w (.slice p n cap) xs) {k : Nat} (hk : k < xs.length) :
    ∃ b off q c, p = some ⟨b, off, none⟩ ∧ w.cell? ⟨b, off + k, none⟩ = some (.slice q (gl xs k).length c) ∧ IntsAt S w (.slice q (gl xs k).length c) (gl xs k) := by
  obtain ⟨q, c, e, _, H⟩ := rows_open h
  injection e with e1
  subst e1
  exact H k hk
theorem ints_get' {S : Nat → Prop} {w : World} {b off : Nat} {n cap : Nat} {xs : List Int} (h : IntsAt S w (.slice (some ⟨b, off, none⟩) n cap) xs) {k : Nat} (hk : k < xs.length) : w.cell? ⟨b, off + k, none⟩ = some (.int .i64 (gi xs k)) := by
  obtain ⟨b', o', e, hc⟩ := ints_get h hk
  injection e with e
  injection e with e1 e2
  subst e1; subst e2; exact hc
theorem rows_get' {S : Nat → Prop} {w : World} {b off : Nat} {n cap : Nat} {xs : List (List Int)} (h : RowsAt S w (.slice (some ⟨b, off, none⟩) n cap) xs) {k : Nat} (hk : k < xs.length) :
    ∃ q c, w.cell? ⟨b, off + k, none⟩ = some (.slice q (gl xs k).length c) ∧ IntsAt S w (.slice q (gl xs k).length c) (gl xs k) := by
  obtain ⟨b', o', q, c, e, hc, hi⟩ := rows_get h hk
  injection e with e
  injection e with e1 e2
  subst e1; subst e2; exact ⟨q, c, hc, hi⟩
theorem gl_tabL (t : Tre) (st : List Int) (cs : List (List Int)) {k : Nat} (hk : k < t.ps.length) : gl (tabL t st cs) k = tabRow t st cs k := by simp [gl, tabL, hk]
theorem tabL_len (t : Tre) (st : List Int) (cs : List (List Int)) : (tabL t st cs).length = t.ps.length := by simp [tabL]
set_option maxRecDepth 100000 in
set_option maxHeartbeats 800000 in
theorem score_t (S : Nat → Prop) (w : World) (v vs vc : Value) (t : Tre) (st : List Int) (cs : List (List Int)) (hT : TreeAt S w v t) (hS : IntsAt S w vs st) (hC : RowsAt S w vc cs) (hz : Sized t st cs) :
    Calls Try.prog 13 #[v, vs, vc] w (ScPost w t st cs) := by
  have hns := hz.2.2.1
  obtain ⟨P, N, rfl, hP, hN⟩ := hT
  have hu := Up.alloc w (.cells #[P, N] 25)
  have hT1 : TreeAt S (w.alloc (.cells #[P, N] 25)) (.agg #[P, N]) t := TreeAt.keep ⟨P, N, rfl, hP, hN⟩ (hu.kept S)
  have hS1 := IntsAt.keep hS (hu.kept S)
  have hC1 := hC.keep (hu.kept S)
  have hk := pcheck_s S _ _ _ _ t st cs hT1 hS1 hC1 hz
  have hb0 := box2_0 w P N 25
  have hb1 := box2_1 w P N 25
  have HK := Lib.hid hk
  have HU := Lib.hid hu
  have HB0 := Lib.hid hb0
  have HB1 := Lib.hid hb1
  have HT := Lib.hid hT1
  have HS := Lib.hid hS1
  have HC := Lib.hid hC1
  have HNS := Lib.hid hns
  clear hk hu hb0 hb1 hT1 hS1 hC1 hS hC hP hN hz hns
  go_enter Try.func13, Try.ntmps13
  go_wp2_with fail
  generalize w.alloc (.cells #[P, N] 25) = w1 at *
  refine HK.out.mono ?_
  rintro e w2 ⟨rfl, hb⟩
  have hu2 : Up w1 w2 := hb
  have hc0 := hu2.cell HB0.out
  have hc1 := hu2.cell HB1.out
  have HU2 := Lib.hid (HU.out.trans hu2)
  have HT2 := Lib.hid (HT.out.keep (hu2.kept S))
  have HS2 := Lib.hid (IntsAt.keep HS.out (hu2.kept S))
  have HC2 := Lib.hid (HC.out.keep (hu2.kept S))
  clear hb hu2 HK HU HB0 HB1 HT HS HC
  by_cases he : parErr t st cs = 0
  · have he1 : (parErr t st cs != 0) = false := by simpa using he
    have hv := parErr_valid he
    have hfin : scoreN t st cs = (bestK (fun _ => 0) (gi (tabRow t st cs 0)) cs.length).1 := by unfold scoreN; rw [if_pos he]
    have hp0 : 0 < t.ps.length := (treeErr_zero hv.tree).1
    have hml : (tabRow t st cs 0).length ≤ 1000 := by rw [tabRow_len]; have := (matErr_zero hv.mat).2.1; omega
    have HF := Lib.hid hfin
    have HE := Lib.hid he
    have HTB := Lib.hid (table_v S w2 _ _ _ t st cs HT2.out HS2.out HC2.out HNS.out hv)
    clear he hv hfin
    go_wp2_with fail
    refine HTB.out.mono ?_
    rintro e w3 ⟨hb3, tv, rfl, hrows⟩
    have hu3 : Up w2 w3 := hb3
    obtain ⟨p, cap, rfl, hcap, H⟩ := rows_open hrows
    obtain ⟨b, off, q, c, rfl, hcell, hint⟩ := H 0 (by rw [tabL_len]; exact hp0)
    rw [gl_tabL _ _ _ hp0] at hcell hint
    rw [tabL_len]
    rw [Nat.add_zero] at hcell
    have HL := Lib.hid (least_t Any w3 _ _ hint hml)
    have HU3 := Lib.hid (HU2.out.trans hu3)
    clear hrows H hint hb3 hu3 HTB HNS hcap
    go_wp2_with fail
    refine HL.out.mono ?_
    rintro e w4 ⟨rfl, rfl⟩
    unfold pairOf
    go_wp2_with fail
    go_ret2
    exact ⟨HU3.out, by rw [HF.out, HE.out, tabRow_len]; rfl⟩
  · have he1 : (parErr t st cs != 0) = true := by simpa using he
    have HE := Lib.hid he
    clear he
    go_wp2_with fail
    go_ret2
    exact ⟨HU2.out, by unfold scoreN; rw [if_neg HE.out]; rfl⟩
end Go.Proofs.Ytflikmllpimaiaa
