/- The contracts of parsimony.Table, Assign. The contract of phylotree.nodes. -/
import Derived.Test.YtcaialhoclodjaaQ6
import Derived.Test.YtcaialhoclodjaaQ1
import Derived.StillTailTactics
import Derived.Test.YtcaialhoclodjaaQ7
import Derived.Test.YtcaialhoclodjaaQ8
import Derived.Deep.RegionHeld3
import Derived.Deep.AppendLies
namespace Go.Proofs.Ytcaialhoclodjaa
open Go.RowKit Go.Deep
/-- The table, or nothing. -/
def tableN (t : Tre) (st : List Int) (cs : List (List Int)) : List (List Int) := if parErr t st cs = 0 then tabL t st cs else []
def assignN (t : Tre) (st : List Int) (cs : List (List Int)) : List Int := if parErr t st cs = 0 then asgL t st cs else []
theorem rows_nil (S : Nat → Prop) (w : World) : RowsAt S w (.slice none 0 0) [] := ⟨fun _ => undef, ⟨none, 0, rfl, Nat.le_refl _, .inl rfl⟩, fun _ hk => absurd hk (Nat.not_lt_zero _)⟩
theorem ints_nil (S : Nat → Prop) (w : World) : IntsAt S w (.slice none 0 0) [] := ⟨none, 0, rfl, Nat.le_refl _, .inl rfl⟩
def TlPost (w : World) (t : Tre) (st : List Int) (cs : List (List Int)) (e : Ending) (w' : World) : Prop :=
  Up w w' ∧ ∃ v, e = .returned (.tuple #[v, .int .i64 (parErr t st cs)]) ∧ RowsAt Any w' v (tableN t st cs)
def AsPost (w : World) (t : Tre) (st : List Int) (cs : List (List Int)) (e : Ending) (w' : World) : Prop :=
  Up w w' ∧ ∃ v, e = .returned (.tuple #[v, .int .i64 (parErr t st cs)]) ∧ IntsAt (fun b => w.heap.size ≤ b) w' v (assignN t st cs)
set_option maxRecDepth 100000 in
set_option maxHeartbeats 800000 in
theorem ptable_t (S : Nat → Prop) (w : World) (v vs vc : Value) (t : Tre) (st : List Int) (cs : List (List Int)) (hT : TreeAt S w v t) (hS : IntsAt S w vs st) (hC : RowsAt S w vc cs) (hz : Sized t st cs) :
    Calls Try.prog 37 #[v, vs, vc] w (TlPost w t st cs) := by
  have hns := hz.2.2.1
  obtain ⟨P, N, rfl, hP, hN⟩ := hT
  have hu := Up.alloc w (.cells #[P, N] 25)
  have hT1 : TreeAt S (w.alloc (.cells #[P, N] 25)) (.agg #[P, N]) t := TreeAt.keep ⟨P, N, rfl, hP, hN⟩ (hu.kept S)
  have hS1 := IntsAt.keep hS (hu.kept S)
  have hC1 := hC.keep (hu.kept S)
  have hk := pcheck_s S _ _ _ _ t st cs hT1 hS1 hC1 hz
  have hb0 := box2_0 w P N 25
  have hb1 := box2_1 w P N 25
  have HK := Lib.hid hk
  have HU := Lib.hid hu
  have HB0 := Lib.hid hb0
  have HB1 := Lib.hid hb1
  have HT := Lib.hid hT1
  have HS := Lib.hid hS1
  have HC := Lib.hid hC1
  have HNS := Lib.hid hns
  clear hk hu hb0 hb1 hT1 hS1 hC1 hS hC hP hN hz hns
  go_enter Try.func37, Try.ntmps37
  go_wp2_with fail
  generalize w.alloc (.cells #[P, N] 25) = w1 at *
  refine HK.out.mono ?_
  rintro e w2 ⟨rfl, hb⟩
  have hu2 : Up w1 w2 := hb
  have hc0 := hu2.cell HB0.out
  have hc1 := hu2.cell HB1.out
  have HU2 := Lib.hid (HU.out.trans hu2)
  have HT2 := Lib.hid (HT.out.keep (hu2.kept S))
  have HS2 := Lib.hid (IntsAt.keep HS.out (hu2.kept S))
  have HC2 := Lib.hid (HC.out.keep (hu2.kept S))
  clear hb hu2 HK HU HB0 HB1 HT HS HC
  by_cases he : parErr t st cs = 0
  · have he1 : (parErr t st cs != 0) = false := by simpa using he
    have hv := parErr_valid he
    have hfin : tableN t st cs = tabL t st cs := by unfold tableN; rw [if_pos he]
    have HF := Lib.hid hfin
    have HE := Lib.hid he
    have HTB := Lib.hid (table_v S w2 _ _ _ t st cs HT2.out HS2.out HC2.out HNS.out hv)
    clear he hv hfin
    go_wp2_with fail
    refine HTB.out.mono ?_
    rintro e w3 ⟨hb3, tv, rfl, hrows⟩
    have HU3 := Lib.hid (HU2.out.trans (show Up w2 w3 from hb3))
    have HR := Lib.hid hrows
    clear hb3 hrows
    go_wp2_with fail
    go_ret2
    exact ⟨HU3.out, tv, by rw [HE.out]; rfl, by rw [HF.out]; exact HR.out⟩
  · have he1 : (parErr t st cs != 0) = true := by simpa using he
    have HE := Lib.hid he
    clear he
    go_wp2_with fail
    go_ret2
    exact ⟨HU2.out, _, rfl, by unfold tableN; rw [if_neg HE.out]; exact rows_nil _ _⟩
theorem still_of {P : Program} {f : FuncId} {args : Array Value} {w : World} {v : Value} (h : Calls P f args w fun e w' => e = .returned v ∧ w = w') : Calls P f args w fun e w' => e = .returned v ∧ w' = w :=
  h.mono fun _ _ ⟨a, b⟩ => ⟨a, b.symm⟩
/-- The first k states are given. -/
structure AsgW (w wr : World) (ob : Nat) (t : Tre) (st : List Int) (cs : List (List Int)) (k : Nat) : Prop where
  grown : w.grownBy wr (some ob)
  row : wr.rowIs ob 3 t.ps.length (fun j => .int .i64 (if j < k then gi (asgK t st cs k) j else 0))
theorem AsgW.step {w wr : World} {ob k nq : Nat} {t : Tre} {st : List Int} {cs : List (List Int)} (h : AsgW w wr ob t st cs k) : AsgW w ((wr.drewN nq).setCell ⟨ob, k, none⟩ (.int .i64 (asgAt t st cs (asgK t st cs k) k))) ob t st cs (k + 1) := by
  refine ⟨grown_tr h.grown ⟨rfl, rfl, rfl, by rw [World.size_setCell]; exact Nat.le_refl _, fun j _ hne => Below.heap_setCell (wr.drewN nq) _ _ j (fun e => hne (by rw [e]))⟩, ((show (wr.drewN nq).rowIs ob _ _ _ from h.row).set k _).congr fun j _ => ?_⟩
  by_cases e : j = k
  · subst e; simp [gi_asgK_new]
  · by_cases h2 : j < k
    · simp [e, h2, Nat.lt_succ_of_lt h2, gi_asgK_old]
    · have h3 : ¬ j < k + 1 := by omega
      simp [e, h2, h3]
theorem AsgW.kept {w wr : World} {ob k : Nat} {t : Tre} {st : List Int} {cs : List (List Int)} (h : AsgW w wr ob t st cs k) : Kept (· < ob) w wr := fun b hb hl => h.grown.block b hl (by simp; omega)
theorem kept_cell {S : Nat → Prop} {w w' : World} (h : Kept S w w') {b o : Nat} {v : Value} (hS : S b) (hc : w.cell? ⟨b, o, none⟩ = some v) : w'.cell? ⟨b, o, none⟩ = some v := by
  rw [World.cell?_of_block (a := ⟨b, o, none⟩) (h b hS (World.block_lt_of_cell? w _ hc))]; exact hc
set_option maxRecDepth 100000 in
set_option maxHeartbeats 800000 in
theorem assign_t (S : Nat → Prop) (w : World) (v vs vc : Value) (t : Tre) (st : List Int) (cs : List (List Int)) (hT : TreeAt S w v t) (hS : IntsAt S w vs st) (hC : RowsAt S w vc cs) (hz : Sized t st cs) :
    Calls Try.prog 36 #[v, vs, vc] w (AsPost w t st cs) := by
  have hns := hz.2.2.1
  obtain ⟨P, N, rfl, hP, hN⟩ := hT
  obtain ⟨pp, pcap, rfl, hpcap, _⟩ := SlAt.open hP
  have hP0 : IntsAt S w (.slice pp t.ps.length pcap) t.ps := hP
  have hu := Up.alloc w (.cells #[.slice pp t.ps.length pcap, N] 25)
  have hT1 : TreeAt S (w.alloc (.cells #[.slice pp t.ps.length pcap, N] 25)) (.agg #[.slice pp t.ps.length pcap, N]) t := TreeAt.keep ⟨_, N, rfl, hP0, hN⟩ (hu.kept S)
  have hS1 := IntsAt.keep hS (hu.kept S)
  have hC1 := hC.keep (hu.kept S)
  have hk := pcheck_s S _ _ _ _ t st cs hT1 hS1 hC1 hz
  have hb0 := box2_0 w (.slice pp t.ps.length pcap) N 25
  have hb1 := box2_1 w (.slice pp t.ps.length pcap) N 25
  have HK := Lib.hid hk
  have HU := Lib.hid hu
  have HB0 := Lib.hid hb0
  have HB1 := Lib.hid hb1
  have HT := Lib.hid hT1
  have HS := Lib.hid hS1
  have HC := Lib.hid hC1
  have HP := Lib.hid (IntsAt.keep hP0 (hu.kept S))
  have HNS := Lib.hid hns
  have hWZ : w.heap.size < (w.alloc (.cells #[.slice pp t.ps.length pcap, N] 25)).heap.size := by simp
  clear hk hu hb0 hb1 hT1 hS1 hC1 hS hC hP hP0 hN hz hns
  go_enter Try.func36, Try.ntmps36
  go_wp2_with fail
  generalize w.alloc (.cells #[.slice pp t.ps.length pcap, N] 25) = w1 at *
  refine HK.out.mono ?_
  rintro e w2 ⟨rfl, hb⟩
  have hu2 : Up w1 w2 := hb
  have hc0 := hu2.cell HB0.out
  have hc1 := hu2.cell HB1.out
  have HU2 := Lib.hid (HU.out.trans hu2)
  have HT2 := Lib.hid (HT.out.keep (hu2.kept S))
  have HP2 := Lib.hid (IntsAt.keep HP.out (hu2.kept S))
  have HS2 := Lib.hid (IntsAt.keep HS.out (hu2.kept S))
  have HC2 := Lib.hid (HC.out.keep (hu2.kept S))
  have hWZ2 : w.heap.size < w2.heap.size := Nat.lt_of_lt_of_le hWZ hu2.size
  clear hb hu2 HK HU HB0 HB1 HT HS HC HP hWZ
  by_cases he : parErr t st cs = 0
  · have he1 : (parErr t st cs != 0) = false := by simpa using he
    have hv := parErr_valid he
    have hfin : assignN t st cs = asgL t st cs := by unfold assignN; rw [if_pos he]
    have hp0 : 0 < t.ps.length := (treeErr_zero hv.tree).1
    have hp64 : t.ps.length ≤ 64 := (treeErr_zero hv.tree).2.1
    have hml : ∀ k, (tabRow t st cs k).length ≤ 1000 := fun k => by rw [tabRow_len]; have := (matErr_zero hv.mat).2.1; omega
    have HML := Lib.hid hml
    have HF := Lib.hid hfin
    have HE := Lib.hid he
    have HV := Lib.hid hv
    have HTB := Lib.hid (table_v S w2 _ _ _ t st cs HT2.out HS2.out HC2.out HNS.out hv)
    clear he hv hfin hml
    go_wp2_with fail
    refine HTB.out.mono ?_
    rintro e w3 ⟨hb3, tv, rfl, hrows⟩
    have hu3 : Up w2 w3 := hb3
    have hmk := fun W => run_make_row' (P := Try.prog) 22 3 (.int .i64 0) 8 Try.underlying22 Try.infoI rfl .i64 .i64 t.ps.length (by omega) (by omega) W
    have hu4 := Up.alloc w3 (.cells (madeCells #[.int .i64 0] t.ps.length) 3)
    have hu24 := hu3.trans hu4
    have hd04 := hu24.cell hc0
    have hd14 := hu24.cell hc1
    have hZ3 : w.heap.size < w3.heap.size := Nat.lt_of_lt_of_le hWZ2 hu3.size
    have HC4 := Lib.hid ((HC2.out.sub (T := (· < w3.heap.size)) fun b _ hb => Nat.lt_of_lt_of_le hb hu3.size).keep (hu24.kept _))
    have HP4 := Lib.hid ((HP2.out.sub (T := (· < w3.heap.size)) fun b _ hb => Nat.lt_of_lt_of_le hb hu3.size).keep (hu24.kept _))
    have HR4 := Lib.hid ((hrows.sub (T := (· < w3.heap.size)) fun b _ hb => hb).keep (hu4.kept _))
    have hrow4 := World.rowIs_made w3 (.int .i64 0) t.ps.length 3
    obtain ⟨tp, cap, rfl, hcap, H⟩ := rows_open HR4.out
    rw [tabL_len] at hcap ⊢
    obtain ⟨tb, to, q, c, rfl, hcell, hint⟩ := H 0 (by rw [tabL_len]; exact hp0)
    rw [gl_tabL _ _ _ hp0] at hcell hint
    rw [Nat.add_zero] at hcell
    have HL := Lib.hid (least_t _ _ _ _ hint (HML.out 0))
    have HU4 := Lib.hid (HU2.out.trans hu24)
    have HW4 := Lib.hid hrow4
    have hx4 := hrow4.cell hp0
    have hf4 := hrow4.frozen 0
    clear H hb3 hu3 hu4 hu24 HTB HNS hrows hc0 hc1 HC2 HP2 HS2 HT2 HU2 hrow4 hint hWZ2
    go_wp2_with fail
    refine HL.out.mono ?_
    rintro e w4 ⟨rfl, rfl⟩
    unfold pairOf
    clear hmk HL
    generalize w3.alloc (.cells (madeCells #[.int .i64 0] t.ps.length) 3) = w4 at *
    generalize w3.heap.size = ob at *
    have hW1 : AsgW w4 (w4.setCell ⟨ob, 0, none⟩ (.int .i64 (bestK (fun _ => 0) (gi (tabRow t st cs 0)) (tabRow t st cs 0).length).2)) ob t st cs 1 := by
      have h0 : AsgW w4 w4 ob t st cs 0 := ⟨⟨rfl, rfl, rfl, Nat.le_refl _, fun _ _ _ => rfl⟩, HW4.out⟩
      have h1 := h0.step (nq := 0)
      rw [tabRow_len]
      exact h1
    have HW1 := Lib.hid hW1
    clear hW1 HW4
    go_wp2_with fail
    clear hx4 hf4 hcell
    have HD0 := Lib.hid hd04
    clear hd04 hd14
    go_loopw [11] (fun i wr => ∃ k : Nat, 1 ≤ k ∧ k ≤ t.ps.length ∧ i = .int .i64 k ∧ Hid (AsgW w4 wr ob t st cs k)) (fun i _ => t.ps.length - (intOf i).toNat)
    case atStart => exact ⟨1, by omega, by omega, rfl, HW1⟩
    case round =>
      obtain ⟨k, hk1, hk, rfl, hA⟩ := hrel
      by_cases hlt : k < t.ps.length
      · have hkp := hA.out.kept
        have hcT := kept_cell hkp hZ3 HD0.out
        obtain ⟨pb, po, rfl, hpc⟩ := ints_get (HP4.out.keep hkp) hlt
        have hpar := par_ok (treeErr_zero HV.out.tree).2.2.2.1 hlt
        obtain ⟨j, hj⟩ : ∃ j : Nat, gi t.ps k = j := Int.eq_ofNat_of_zero_le (hpar.2.1 (by omega))
        have hjk : j < k := by have := hpar.1; omega
        rw [hj] at hpc
        obtain ⟨o, ho, hom⟩ := asgK_ok HV.out (k := k) (j := j) (by omega) hjk
        have hoc := hA.out.row.cell (i := j) (by omega)
        simp only [hjk, if_true, ho] at hoc
        obtain ⟨rq, rc, hrc, hri⟩ := rows_get' (HR4.out.keep hkp) (k := k) (by rw [tabL_len]; exact hlt)
        rw [gl_tabL _ _ _ hlt] at hrc hri
        have hxk := hA.out.row.cell (i := k) hlt
        have hfk := hA.out.row.frozen k
        have hbest := best_t _ _ wr.drew _ _ cs (tabRow t st cs k) o (HC4.out.keep hkp) hri hom (by rw [tabRow_len, (matErr_zero HV.out.mat).2.2.1 o hom]; exact Nat.le_refl _) (HML.out k) (fun k => (matErr_zero HV.out.mat).2.2.2.1 o k) (fun s => by have := (HV.out.tb k s hlt).2; omega)
        have i1 : (0 : Int) ≤ (k : Int) := by omega
        have i2 : (k : Int) < (t.ps.length : Int) := by omega
        have i3 : (0 : Int) ≤ (j : Int) := by omega
        have i4 : (j : Int) < (t.ps.length : Int) := by omega
        have HBEST := Lib.hid hbest
        have HJ := Lib.hid hj
        have HO := Lib.hid ho
        clear hbest hj ho hri hkp hpar
        go_wp2_with fail
        refine wp_region_still_tail 20 (by kernel_rfl) (by kernel_rfl) ?_
        simp only [List.take_succ_cons, List.take_zero, List.drop_succ_cons, List.drop_zero]
        repeat still_step
        still_call (still_of HBEST.out)
        unfold pairOf
        repeat still_step
        refine wpStill_nil ?_
        have HAA : Hid ((bestK (gi (gl cs o)) (gi (tabRow t st cs k)) (tabRow t st cs k).length).2 = asgAt t st cs (asgK t st cs k) k) := by
          unfold Hid asgAt; rw [if_neg (by omega), HJ.out, Int.toNat_natCast, HO.out, Int.toNat_natCast, tabRow_len]
        have hxk1 : (wr.drewN 1).cell? ⟨ob, k, none⟩ = _ := hxk
        have hfk1 : (wr.drewN 1).frozen? ⟨ob, k, none⟩ = false := hfk
        change wpList _ _ _ _ _ (wr.drewN 1)
        clear hxk hfk hcT hoc hrc hpc HBEST
        rw [HAA.out]
        generalize hw1 : wr.drewN 1 = wd at *
        go_wp2_with fail
        go_roundw
        case rel => exact ⟨k + 1, by omega, by omega, by go_num, by unfold Hid; rw [← hw1]; exact hA.out.step⟩
        case measure => simp [intOf]; omega
      · obtain rfl : k = t.ps.length := by omega
        have hgr := hA.out.grown
        have HA := hA
        clear hlt
        go_wp2_with fail
        go_ret2
        refine ⟨Below.trans HU4.out ((show Below w.heap.size w4 wr from (Below.refl _ _).grown HA.out.grown (by have := Up.size HU4.out; omega) fun k e => by cases e; omega)), .slice (some ⟨ob, 0, none⟩) t.ps.length t.ps.length, by rw [HE.out]; rfl, ?_⟩
        rw [HF.out]
        refine ⟨some ⟨ob, 0, none⟩, t.ps.length, by unfold asgL; rw [asgK_len], by unfold asgL; rw [asgK_len]; exact Nat.le_refl _, .inr ⟨ob, 0, rfl, by omega, fun k hk => ?_⟩⟩
        unfold asgL at hk; rw [asgK_len] at hk
        have h1 := HA.out.row.cell hk
        simp only [hk, if_true] at h1
        rw [Nat.zero_add]; exact h1
  · have he1 : (parErr t st cs != 0) = true := by simpa using he
    have HE := Lib.hid he
    clear he
    go_wp2_with fail
    go_ret2
    exact ⟨HU2.out, _, rfl, by unfold assignN; rw [if_neg HE.out]; exact ints_nil _ _⟩
end Go.Proofs.Ytcaialhoclodjaa
namespace Go.Proofs.Ytcaialhoclodjaa
open Go.RowKit Go.Deep
theorem Try.infoNP : (Try.prog.info? 66).map (fun i => (i.zero, i.size, i.bytes)) = some (some (.pointer none), 1, 8) := by kernel_rfl
theorem FAt.congr {base n : Nat} {A : Nat → Nat} {kv : Nat → Value} {F F' : Frs} {w : World} (h : FAt base n A kv F w) (e : ∀ i, i < n → F'.nm i = F.nm i ∧ F'.old i = F.old i ∧ F'.kids i = F.kids i) : FAt base n A kv F' w :=
  ⟨fun i hi => by rw [(e i hi).1, (e i hi).2.1]; exact h.node i hi, h.lo, h.inj, fun i hi => by rw [(e i hi).2.2]; exact h.own i hi, h.apart, h.alone, fun i hi => by rw [(e i hi).2.2]; exact h.kid i hi⟩
theorem grown_alloc_drew {w w' : World} {o : Obj} {row : Option Nat} (h : (w.alloc o).drew.grownBy w' row) : w.grownBy w' row :=
  grown_alloc (o := o) ⟨h.os, h.tape, h.output, h.size, h.block⟩
section
variable {P : Program} {ops : Array Oper} {o : Oper} {a : Act} {w : World} {K : Act → World → Prop} {Q : Exit → Act → World → Prop} {E : Prop}
/-- 'x.l = append(x.l, u)' inside a region that draws its order. -/
theorem step_app1 (hgd : o.guard = none) (s x : Operand) (t : TypeId) (ho : o.op = .call { callee := .builtin .append, args := #[s, x], argTypes := #[t, t] })
    (base : Nat) (e : TypeId) (z : Value) (bytes : Nat) (ht : P.underlying t = some (.slice e)) (hinfo : (P.info? e).map (fun i => (i.zero, i.size, i.bytes)) = some (some z, 1, bytes))
    (hz1 : z.cells.size = 1) (hb8 : bytes ≤ 64) {v : Value} {vs : List Value} (hs : a.eval s = v) (hown : Owns base e w v vs) (u : Value) (B : Nat)
    (hx : a.eval x = .slice (some ⟨B, 0, none⟩) 1 1) (hB : w.cell? ⟨B, 0, none⟩ = some u) (h1 : u.oneCell' = true) (hn : vs.length ≤ 1000000) (hbase : base ≤ w.heap.size)
    (h : ∀ g cap w', Owns base e w' (.slice (some ⟨g, 0, none⟩) (vs.length + 1) cap) (vs ++ [u]) → w.grownBy w' v.ownBlock → (v.ownBlock = some g ∨ g = w.heap.size) → Below base w w' → K (a.put o.dst (.slice (some ⟨g, 0, none⟩) (vs.length + 1) cap)) w') :
    if Region.wanted o (yielded ops a.tmps) = true then Oper.wp P o a w K Q else E := by
  obtain ⟨i, hi, hzz⟩ := Option.map_eq_some_iff.1 hinfo
  simp only [Prod.mk.injEq] at hzz
  obtain ⟨hz, hs1, hb⟩ := hzz
  refine step_append_lies w hgd s x t ho base e i z 1 bytes ht hi hz hs1 hb hz1 (by omega) v vs.length vs hs hown ⟨B, 0, none⟩ 1 1 [u] hx rfl ?_ (by simpa using h1) (by omega)
    (by unfold maxLen; omega) ?_ hbase _ rfl fun g cap w' h2 h3 h4 _ => h g cap w' ?_ h3 h4 (hown.grown_below h3 hbase)
  · intro j u' hj
    cases j with
    | zero => (simp at hj; subst hj; simpa [Addr.add] using hB)
    | succ j => simp at hj
  · have : (vs.length + 1) * bytes ≤ (vs.length + 1) * 64 := Nat.mul_le_mul_left _ hb8
    omega
  · unfold Owns; rw [List.length_append]; exact h2
end
/-- The forest of the first k nodes of a tree. -/
def frK (t : Tre) (k : Nat) : Frs := ⟨gs t.ns, fun i => i, fun i => kidsK t.ps i k⟩
def frT (t : Tre) : Frs := frK t t.ps.length
/-- The first k nodes are laid beyond block g0, the list of them. -/
def NdW (w wr : World) (g0 n k : Nat) (t : Tre) : Prop :=
  Below g0 w wr ∧ ∃ A kv, FAt (g0 + 1) k A kv (frK t k) wr ∧ wr.rowIs g0 66 n (fun i => if i < k then nptr A i else .pointer none)
/-- Node k is laid without children, its pointer stored. -/
def frX (t : Tre) (k : Nat) : Frs := ⟨gs t.ns, fun i => i, upd (fun i => kidsK t.ps i k) k []⟩
structure NdX (w wr : World) (g0 n k : Nat) (t : Tre) (A : Nat → Nat) (kv : Nat → Value) : Prop where
  up : Below g0 w wr
  fr : FAt (g0 + 1) (k + 1) A kv (frX t k) wr
  row : wr.rowIs g0 66 n (fun i => if i < k + 1 then nptr A i else .pointer none)
theorem FAt.far {g0 n : Nat} {A : Nat → Nat} {kv : Nat → Value} {F : Frs} {w : World} (h : FAt (g0 + 1) n A kv F w) {i : Nat} (hi : i < n) : A i ≠ g0 ∧ (kv i).ownBlock ≠ some g0 :=
  ⟨fun e => by have := h.lo i hi; omega, fun e => by have := (h.ownlt hi e).1; omega⟩
theorem NdW.new {w wo : World} {g0 n k : Nat} {t : Tre} (h : NdW w wo g0 n k t) :
    ∃ A kv, A k = wo.heap.size ∧ NdX w ((wo.alloc (.cells #[.string (gs t.ns k), .slice none 0 0, .int .i64 k] 68)).setCell ⟨g0, k, none⟩ (.pointer (some ⟨wo.heap.size, 0, none⟩))) g0 n k t A kv := by
  obtain ⟨hup, A, kv, hF, hrow⟩ := h
  have hg0 := hrow.lt
  have hF2 := hF.node_new (by omega) (gs t.ns k) k
  refine ⟨upd A k wo.heap.size, upd kv k (.slice none 0 0), upd_same _ _ _, (hup.alloc (by omega) _).setCell (p := ⟨g0, k, none⟩) (Nat.le_refl _) _, ?_, ?_⟩
  · have hF3 := hF2.congr (F' := frX t k) fun i hi => by
      refine ⟨?_, ?_, rfl⟩
      · by_cases e : i = k
        · subst e; exact (upd_same _ _ _).symm
        · exact (upd_ne _ _ e).symm
      · by_cases e : i = k
        · subst e; exact (upd_same _ _ _).symm
        · exact (upd_ne _ _ e).symm
    exact hF3.same (fun i hi => blk_setCell_other _ _ _ _ (hF3.far hi).1) fun i b hi hb => blk_setCell_other _ _ _ _ (fun e2 => (hF3.far hi).2 (by rw [hb]; exact congrArg some e2))
  · refine ((hrow.alloc _).set k _).congr fun i hi => ?_
    by_cases e : i = k
    · subst e; rw [if_pos rfl, if_pos (by omega)]; unfold nptr; rw [upd_same]
    · rw [if_neg e]
      by_cases e2 : i < k
      · rw [if_pos e2, if_pos (by omega)]; unfold nptr; rw [upd_ne _ _ e]
      · rw [if_neg e2, if_neg (by omega)]
theorem kidsK_len0 (ps : List Int) (k : Nat) : kidsK ps k k = [] := by
  unfold kidsK
  refine List.filter_eq_nil_iff.2 fun i hi => ?_
  have := List.mem_range.1 hi
  simp; omega
theorem frX_kids (t : Tre) (k i : Nat) : (frX t k).kids i = kidsK t.ps i k := by
  show upd (fun i => kidsK t.ps i k) k [] i = _
  by_cases e : i = k
  · subst e; rw [upd_same, kidsK_len0]
  · rw [upd_ne _ _ e]
theorem NdX.root {w wr : World} {g0 n k : Nat} {t : Tre} {A : Nat → Nat} {kv : Nat → Value} (h : NdX w wr g0 n k t A kv) (hp : gi t.ps k < 0) : NdW w wr g0 n (k + 1) t := by
  refine ⟨h.up, A, kv, h.fr.congr fun i hi => ⟨rfl, rfl, ?_⟩, h.row⟩
  rw [frX_kids]
  show kidsK t.ps i (k + 1) = _
  rw [kidsK_succ, if_neg (by omega), List.append_nil]
theorem NdX.push {w wr w' : World} {g0 n k p : Nat} {t : Tre} {A : Nat → Nat} {kv : Nat → Value} (h : NdX w wr g0 n k t A kv) (hpk : p < k) (hp : gi t.ps k = p) {v : Value}
    (hv : Owns (g0 + 1) 66 w' v ((kidsK t.ps p k).map (nptr A) ++ [nptr A k])) (hg : wr.grownBy w' (kv p).ownBlock) (hb : ∀ b, v.ownBlock = some b → (kv p).ownBlock = some b ∨ wr.heap.size ≤ b) :
    NdW w (w'.setCell ⟨A p, 1, none⟩ v) g0 n (k + 1) t := by
  have hF := h.fr.push (k := p) (c := k) (v := v) (by omega) (by omega) (by rw [frX_kids, List.map_append]; exact hv) hg hb
  have hlo := h.fr.lo p (by omega)
  have hrl := h.row.lt
  refine ⟨?_, A, upd kv p v, hF.congr fun i hi => ⟨rfl, rfl, ?_⟩, ?_⟩
  · have h1 : Below (g0 + 1) wr w' := (h.fr.own p (by omega)).grown_below hg (by omega)
    exact (Below.trans h.up (h1.mono (by omega))).setCell (p := ⟨A p, 1, none⟩) (by show g0 ≤ A p; omega) _
  · show kidsK t.ps i (k + 1) = upd (frX t k).kids p ((frX t k).kids p ++ [k]) i
    rw [kidsK_succ, frX_kids]
    by_cases e : i = p
    · subst e; rw [upd_same, if_pos ⟨hpk, hp⟩]
    · rw [upd_ne _ _ e, if_neg (by omega), List.append_nil, frX_kids]
  · have hne : g0 ≠ A p := fun e => (h.fr.far (i := p) (by omega)).1 e.symm
    refine (h.row.of_block ?_).setOther (a := ⟨A p, 1, none⟩) hne v
    exact hg.block g0 hrl (fun e => (h.fr.far (i := p) (by omega)).2 e.symm)
end Go.Proofs.Ytcaialhoclodjaa
