/- apographlaw31.turned: the whole; plain facts of the turned tree. The walk of PhylotreeEqual. -/
import Derived.Test.YtcaialhoclodjaaQ31
import Derived.Test.YtcaialhoclodjaaQ25
import Derived.Test.YtcaialhoclodjaaQ30
namespace Go.Proofs.Ytcaialhoclodjaa
open Go.RowKit Go.Deep
mutual
theorem subR_mir : ∀ r : RT, (subR (mirR r)).Perm ((subR r).map mirR)
  | .node nm ks => by
    rw [mirR, subR, subR, List.map_cons, mirR]
    exact List.Perm.cons _ (subRs_mir ks)
theorem subRs_mir : ∀ rs : List RT, (subRs (mirRs rs)).Perm ((subRs rs).map mirR)
  | [] => List.Perm.refl _
  | r :: rs => by
    rw [mirRs, subRs_flat, List.flatMap_append, ← subRs_flat, List.flatMap_cons, List.flatMap_nil, List.append_nil, subRs, List.map_append]
    exact (List.perm_append_comm).trans ((subR_mir r).append (subRs_mir rs))
end
theorem sizeR_mir (r : RT) : sizeR (mirR r) = sizeR r := by
  have := (subR_mir r).length_eq
  rw [List.length_map, subR_len, subR_len] at this; exact this
theorem mirR_nm (r : RT) : (mirR r).nm = r.nm := by cases r; rfl
theorem mirR_kids (r : RT) : (mirR r).kids = mirRs r.kids := by cases r; rfl
theorem mirRs_nil {l : List RT} : mirRs l = [] ↔ l = [] := by
  rw [mirRs_map]; simp
theorem leafR_mir (r : RT) : (leafR (mirR r)).Perm (leafR r) := by
  unfold leafR
  refine List.Perm.filter _ ?_
  rw [nsR_sub, nsR_sub]
  refine ((subR_mir r).map RT.nm).trans ?_
  rw [List.map_map]
  have : (RT.nm ∘ mirR) = RT.nm := funext mirR_nm
  rw [this]
theorem GoodR.mir {r : RT} (h : GoodR r) : GoodR (mirR r) := by
  refine ⟨fun s hs hk => ?_, fun s hs hk => ?_, (leafR_mir r).nodup_iff.2 h.nd⟩
  · obtain ⟨q, hq, rfl⟩ := List.mem_map.1 ((subR_mir r).mem_iff.1 hs)
    rw [mirR_kids] at hk
    rw [mirR_nm]
    exact h.inn q hq (fun e => hk (mirRs_nil.2 e))
  · obtain ⟨q, hq, rfl⟩ := List.mem_map.1 ((subR_mir r).mem_iff.1 hs)
    rw [mirR_kids] at hk
    rw [mirR_nm]
    exact h.lf q hq (mirRs_nil.1 hk)
def tnT (t : Tre) : Tre := flat (mirR (toR t))
theorem tnT_ok {t : Tre} (he : treeErr t = 0) : treeErr (tnT t) = 0 :=
  treeErr_flat (good_toR he).mir (by rw [sizeR_mir]; exact sizeR_toR he)
theorem tnT_can {t : Tre} (he : treeErr t = 0) : canT (tnT t) = canT t := by
  rw [canT_flat (tnT_ok he), canT_flat he]
  unfold tnT
  rw [toR_flat, mir_sort _ _ (Nat.le_refl _) (good_toR he)]
theorem tnT_app {t : Tre} : (⟨[], []⟩ : Tre).app (tnR t 0) (-1) = tnT t := by
  unfold Tre.app tnT flat
  simp only [List.nil_append, List.length_nil]
  rfl
def TnTPost (w : World) (t : Tre) (e : Ending) (w' : World) : Prop := Up w w' ∧ ∃ v, e = .returned v ∧ TreeAt Any w' v (tnT t)
set_option maxRecDepth 100000 in
set_option maxHeartbeats 8000000 in
theorem turned_t (S : Nat → Prop) (w : World) (v : Value) (t : Tre) (hT : TreeAt S w v t) (he : treeErr t = 0) :
    Calls Try.prog 28 #[v] w (TnTPost w t) := by
  obtain ⟨P, N, rfl, hP, hN⟩ := hT
  obtain ⟨pp, pc, rfl, _, _⟩ := SlAt.open hP
  obtain ⟨hp0, hp64, hnl, hok, _⟩ := treeErr_zero he
  have hP : IntsAt S w (.slice pp t.ps.length pc) t.ps := hP
  obtain ⟨pn, nc, rfl, _, _⟩ := SlAt.open hN
  have hN : StrsAt S w (.slice pn t.ns.length nc) t.ns := hN
  have hpn : ∃ nb no, pn = some ⟨nb, no, none⟩ := by
    cases pn with
    | none => have := (nil_strs hN).2; omega
    | some a =>
      obtain ⟨b2, off, e, _⟩ := strs_get hN (show 0 < t.ns.length by omega)
      injection e with e; exact ⟨_, _, congrArg some e⟩
  obtain ⟨nb, no, rfl⟩ := hpn
  have hsz : ((((w.alloc (.cells #[.slice pp t.ps.length pc, .slice (some ⟨nb, no, none⟩) t.ns.length nc] 25)).alloc (.cells #[.slice none 0 0, .slice none 0 0] 25)).alloc (.cells #[.slice none 0 0, .slice none 0 0] 25)).alloc (.cells #[.func (.func 60) #[] #[.pointer (some ⟨w.heap.size + 1 + 1, 0, none⟩), .pointer (some ⟨w.heap.size, 0, none⟩), .pointer (some ⟨w.heap.size + 1 + 1 + 1, 0, none⟩)]] 93)).heap.size = w.heap.size + 4 := by simp
  have hu := (((Up.alloc w (.cells #[.slice pp t.ps.length pc, .slice (some ⟨nb, no, none⟩) t.ns.length nc] 25)).trans (Up.alloc _ (.cells #[.slice none 0 0, .slice none 0 0] 25))).trans (Up.alloc _ (.cells #[.slice none 0 0, .slice none 0 0] 25))).trans (Up.alloc _ (.cells #[.func (.func 60) #[] #[.pointer (some ⟨w.heap.size + 1 + 1, 0, none⟩), .pointer (some ⟨w.heap.size, 0, none⟩), .pointer (some ⟨w.heap.size + 1 + 1 + 1, 0, none⟩)]] 93))
  have hu2 := ((Up.alloc (w.alloc (.cells #[.slice pp t.ps.length pc, .slice (some ⟨nb, no, none⟩) t.ns.length nc] 25)) (.cells #[.slice none 0 0, .slice none 0 0] 25)).trans (Up.alloc _ (.cells #[.slice none 0 0, .slice none 0 0] 25))).trans (Up.alloc _ (.cells #[.func (.func 60) #[] #[.pointer (some ⟨w.heap.size + 1 + 1, 0, none⟩), .pointer (some ⟨w.heap.size, 0, none⟩), .pointer (some ⟨w.heap.size + 1 + 1 + 1, 0, none⟩)]] 93))
  have hu3 := (Up.alloc ((w.alloc (.cells #[.slice pp t.ps.length pc, .slice (some ⟨nb, no, none⟩) t.ns.length nc] 25)).alloc (.cells #[.slice none 0 0, .slice none 0 0] 25)) (.cells #[.slice none 0 0, .slice none 0 0] 25)).trans (Up.alloc _ (.cells #[.func (.func 60) #[] #[.pointer (some ⟨w.heap.size + 1 + 1, 0, none⟩), .pointer (some ⟨w.heap.size, 0, none⟩), .pointer (some ⟨w.heap.size + 1 + 1 + 1, 0, none⟩)]] 93))
  have hu4 := Up.alloc (((w.alloc (.cells #[.slice pp t.ps.length pc, .slice (some ⟨nb, no, none⟩) t.ns.length nc] 25)).alloc (.cells #[.slice none 0 0, .slice none 0 0] 25)).alloc (.cells #[.slice none 0 0, .slice none 0 0] 25)) (.cells #[.func (.func 60) #[] #[.pointer (some ⟨w.heap.size + 1 + 1, 0, none⟩), .pointer (some ⟨w.heap.size, 0, none⟩), .pointer (some ⟨w.heap.size + 1 + 1 + 1, 0, none⟩)]] 93)
  have x0 := hu2.cell (box2_0 w (.slice pp t.ps.length pc) (.slice (some ⟨nb, no, none⟩) t.ns.length nc) 25)
  have x1 := hu2.cell (box2_1 w (.slice pp t.ps.length pc) (.slice (some ⟨nb, no, none⟩) t.ns.length nc) 25)
  have rb := box_at (w := w.alloc (.cells #[.slice pp t.ps.length pc, .slice (some ⟨nb, no, none⟩) t.ns.length nc] 25)) (P := .slice none 0 0) (N := .slice none 0 0) (T := 25)
  rw [World.size_alloc] at rb
  have r0 := (Below.block hu3 (w.heap.size + 1) (by simp)).trans rb
  have ob := box_at (w := (w.alloc (.cells #[.slice pp t.ps.length pc, .slice (some ⟨nb, no, none⟩) t.ns.length nc] 25)).alloc (.cells #[.slice none 0 0, .slice none 0 0] 25)) (P := .slice none 0 0) (N := .slice none 0 0) (T := 25)
  rw [World.size_alloc, World.size_alloc] at ob
  have o0 := (Below.block hu4 (w.heap.size + 1 + 1) (by simp)).trans ob
  have f0 := cell_at_new (((w.alloc (.cells #[.slice pp t.ps.length pc, .slice (some ⟨nb, no, none⟩) t.ns.length nc] 25)).alloc (.cells #[.slice none 0 0, .slice none 0 0] 25)).alloc (.cells #[.slice none 0 0, .slice none 0 0] 25)) #[.func (.func 60) #[] #[.pointer (some ⟨w.heap.size + 1 + 1, 0, none⟩), .pointer (some ⟨w.heap.size, 0, none⟩), .pointer (some ⟨w.heap.size + 1 + 1 + 1, 0, none⟩)]] 93 0
  rw [World.size_alloc, World.size_alloc, World.size_alloc] at f0
  have HP1 := Lib.hid (IntsAt.keep (hP.sub (T := fun b => b < w.heap.size) fun b _ hl => hl) (hu.kept _))
  have HN1 := Lib.hid (StrsAt.keep (hN.sub (T := fun b => b < w.heap.size) fun b _ hl => hl) (hu.kept _))
  have HU := Lib.hid hu
  have HSZ := Lib.hid hsz
  have HX0 := Lib.hid x0
  have HX1 := Lib.hid x1
  have HR0 := Lib.hid r0
  have HO0 := Lib.hid o0
  have HF0 := Lib.hid f0
  have HE := Lib.hid he
  have HPL : Hid (0 < t.ps.length ∧ t.ps.length ≤ 64 ∧ t.ns.length = t.ps.length) := ⟨hp0, hp64, hnl⟩
  clear rb ob hu hu2 hu3 hu4 x0 x1 r0 o0 f0 hP hN hsz he hp0 hp64 hnl hok
  go_enter Try.func28, Try.ntmps28
  go_wp2_with fail
  generalize ((((w.alloc (.cells #[.slice pp t.ps.length pc, .slice (some ⟨nb, no, none⟩) t.ns.length nc] 25)).alloc (.cells #[.slice none 0 0, .slice none 0 0] 25)).alloc (.cells #[.slice none 0 0, .slice none 0 0] 25)).alloc (.cells #[.func (.func 60) #[] #[.pointer (some ⟨w.heap.size + 1 + 1, 0, none⟩), .pointer (some ⟨w.heap.size, 0, none⟩), .pointer (some ⟨w.heap.size + 1 + 1 + 1, 0, none⟩)]] 93)) = w4 at *
  have hENV : TnEnv t (w.heap.size + 1 + 1) (w.heap.size + 4) w.heap.size (w.heap.size + 1 + 1 + 1) pp pc nb no nc w4 :=
    ⟨HX0.out, HX1.out, HP1.out.sub fun b hb _ => ⟨by omega, by omega⟩, HN1.out.sub fun b hb _ => ⟨by omega, by omega⟩, HF0.out, ⟨by omega, by omega⟩, ⟨by omega, by omega⟩⟩
  have hGS : GS (w.heap.size + 1 + 1) (w.heap.size + 4) w4 (.slice none 0 0) (.slice none 0 0) ⟨[], []⟩ := ⟨HO0.out, ⟨Owns.nil _ _ _, Owns.nil _ _ _, fun b hb => (by cases hb)⟩, by omega, by rw [HSZ.out]; exact Nat.le_refl _⟩
  have hlen : ((⟨[], []⟩ : Tre).app (tnR t 0) (-1)).ps.length ≤ 1000000 := by
    rw [tnT_app]; unfold tnT; rw [flat_ps, sizeR_mir]
    have := sizeR_toR HE.out; omega
  refine (turned1_t HE.out _ _ _ _ _ _ _ _ _ t.ps.length 0 (-1) ⟨[], []⟩ w4 _ _ (by omega) HPL.out.1 rfl hlen hENV hGS).mono ?_
  rintro e w5 ⟨rfl, P5, N5, hG5, hK5⟩
  rw [tnT_app] at hG5
  obtain ⟨tc0, tc1, _, _⟩ := hG5.cells
  obtain ⟨op, oc, rfl, _⟩ := hG5.tl.pown.form (n := (tnT t).ps.length) (by simp)
  obtain ⟨on, od, rfl, _⟩ := hG5.tl.nown.form (n := (tnT t).ns.length) (by simp)
  have hu5 : Up w w5 := ⟨hK5.os.trans HU.out.os, hK5.tape.trans HU.out.tape, hK5.output.trans HU.out.output, Nat.le_trans HU.out.size hK5.size, fun b hb => (hK5.block b (by have := HU.out.size; omega) (by omega) (fun e => by cases e) (fun e => by cases e)).trans (Below.block HU.out b hb)⟩
  have hrb5 := (hK5.block (w.heap.size + 1) (by rw [HSZ.out]; omega) (by omega) (fun e => by cases e) (fun e => by cases e)).trans HR0.out
  obtain ⟨q0, q1, q2, q3⟩ := boxed hrb5
  have HST := Lib.hid (store_two (w := w) (p := .slice op (tnT t).ps.length oc) (q := .slice on (tnT t).ns.length od) hrb5 (by omega) hu5)
  have HP5 := Lib.hid (hG5.tl.pown.ints)
  have HN5 := Lib.hid (hG5.tl.nown.strs)
  clear hG5 hK5 hu5 hrb5 hlen hGS hENV HU
  go_wp2_with fail
  obtain ⟨s1, s2, s3, s4⟩ := HST.out
  refine ⟨rfl, .agg #[.slice op (tnT t).ps.length oc, .slice on (tnT t).ns.length od], by simp [results, Try.results28, go_sem, s2, s3], s1, _, rfl, _, _, rfl, ?_, ?_⟩
  · exact (IntsAt.keep HP5.out fun b hb _ => s4 b (by omega)).sub fun _ _ _ => trivial
  · exact (StrsAt.keep HN5.out fun b hb _ => s4 b (by omega)).sub fun _ _ _ => trivial
end Go.Proofs.Ytcaialhoclodjaa
namespace Go.Proofs.Ytcaialhoclodjaa
open Go.RowKit Go.Deep
theorem sm_fine {t u : Tre} (he : treeErr t = 0) (hf : treeErr u = 0) : smE t u = 0 ∧ smB t u = decide (canT t = canT u) := by
  have h : smE t u = 0 := by unfold smE; rw [if_neg (by simp [he, hf])]
  refine ⟨h, ?_⟩
  unfold smB
  rw [h, decide_eq_true rfl]; rfl
theorem tx_fine {t u : Tre} (he : treeErr t = 0) (hf : treeErr u = 0) : ((⟨(txT (canT t)).toArray⟩ : ByteArray) = ⟨(txT (canT u)).toArray⟩) ↔ canT t = canT u := by
  rw [can_text he hf]
  constructor
  · intro h
    have h1 := congrArg (fun b : ByteArray => b.data.toList) h
    simpa using h1
  · intro h; rw [h]
set_option maxRecDepth 100000 in
set_option maxHeartbeats 8000000 in
theorem equal_law (w : World) (v v2 : Value) (t u : Tre) (hT : TreeAt Any w v t) (hp : t.ps.length ≤ 9223372036854775807) (hn : t.ns.length ≤ 9223372036854775807) (hz : ∀ k, (gs t.ns k).size ≤ 9223372036854775807)
    (hT2 : TreeAt Any w v2 u) (hp2 : u.ps.length ≤ 9223372036854775807) (hn2 : u.ns.length ≤ 9223372036854775807) (hz2 : ∀ k, (gs u.ns k).size ≤ 9223372036854775807) :
    Calls Try.prog 6 #[v, v2] w fun e w' => e = .returned (.bool true) ∧ Up w w' := by
  obtain ⟨P, N, rfl, hP, hN⟩ := hT
  obtain ⟨pp, pc, rfl, _, _⟩ := SlAt.open hP
  obtain ⟨np, nc, rfl, _, _⟩ := SlAt.open hN
  obtain ⟨P2, N2, rfl, hP2, hN2⟩ := hT2
  obtain ⟨pp2, pc2, rfl, _, _⟩ := SlAt.open hP2
  obtain ⟨np2, nc2, rfl, _, _⟩ := SlAt.open hN2
  have hP : IntsAt Any w (.slice pp t.ps.length pc) t.ps := hP
  have hN : StrsAt Any w (.slice np t.ns.length nc) t.ns := hN
  have hP2 : IntsAt Any w (.slice pp2 u.ps.length pc2) u.ps := hP2
  have hN2 : StrsAt Any w (.slice np2 u.ns.length nc2) u.ns := hN2
  have hu1 := Up.alloc w (.cells #[.slice pp t.ps.length pc, .slice np t.ns.length nc] 25)
  have hu2 := Up.alloc (w.alloc (.cells #[.slice pp t.ps.length pc, .slice np t.ns.length nc] 25)) (.cells #[.slice pp2 u.ps.length pc2, .slice np2 u.ns.length nc2] 25)
  have b0 := hu2.cell (box2_0 w (.slice pp t.ps.length pc) (.slice np t.ns.length nc) 25)
  have b1 := hu2.cell (box2_1 w (.slice pp t.ps.length pc) (.slice np t.ns.length nc) 25)
  have c0 := box2_0 (w.alloc (.cells #[.slice pp t.ps.length pc, .slice np t.ns.length nc] 25)) (.slice pp2 u.ps.length pc2) (.slice np2 u.ns.length nc2) 25
  have c1 := box2_1 (w.alloc (.cells #[.slice pp t.ps.length pc, .slice np t.ns.length nc] 25)) (.slice pp2 u.ps.length pc2) (.slice np2 u.ns.length nc2) 25
  rw [World.size_alloc] at c0 c1
  have hu := hu1.trans hu2
  have HB0 := Lib.hid b0
  have HB1 := Lib.hid b1
  have HC0 := Lib.hid c0
  have HC1 := Lib.hid c1
  have HU := Lib.hid hu
  have HT : Hid (TreeAt Any _ _ t) := TreeAt.keep ⟨_, _, rfl, hP, hN⟩ (hu.kept _)
  have HT2 : Hid (TreeAt Any _ _ u) := TreeAt.keep ⟨_, _, rfl, hP2, hN2⟩ (hu.kept _)
  have HF : Hid (∀ W, Up ((w.alloc (.cells #[.slice pp t.ps.length pc, .slice np t.ns.length nc] 25)).alloc (.cells #[.slice pp2 u.ps.length pc2, .slice np2 u.ns.length nc2] 25)) W → Calls Try.prog 19 #[.agg #[.slice pp t.ps.length pc, .slice np t.ns.length nc]] W fun e w' => e = .returned (.bool (fine31B t)) ∧ Up W w') :=
    fun W hW => fine31_t Any W _ t (HT.out.keep (hW.kept _)) hp hn hz
  have HF2 : Hid (∀ W, Up ((w.alloc (.cells #[.slice pp t.ps.length pc, .slice np t.ns.length nc] 25)).alloc (.cells #[.slice pp2 u.ps.length pc2, .slice np2 u.ns.length nc2] 25)) W → Calls Try.prog 19 #[.agg #[.slice pp2 u.ps.length pc2, .slice np2 u.ns.length nc2]] W fun e w' => e = .returned (.bool (fine31B u)) ∧ Up W w') :=
    fun W hW => fine31_t Any W _ u (HT2.out.keep (hW.kept _)) hp2 hn2 hz2
  have HAW := Lib.hid awake31_t
  clear hu hu1 hu2 hP hN hn hz hp hP2 hN2 hn2 hz2 hp2
  go_enter Try.func6, Try.ntmps6
  go_wp2_with fail
  generalize (w.alloc (.cells #[.slice pp t.ps.length pc, .slice np t.ns.length nc] 25)).alloc (.cells #[.slice pp2 u.ps.length pc2, .slice np2 u.ns.length nc2] 25) = w1 at *
  refine (HF.out w1 (Up.refl _)).mono ?_
  rintro e w2 ⟨rfl, hu2⟩
  have HU2 := Lib.hid hu2
  have HFu := Lib.hid (HF2.out w2 hu2)
  have b0 := hu2.cell HB0.out
  have b1 := hu2.cell HB1.out
  have c0 := hu2.cell HC0.out
  have c1 := hu2.cell HC1.out
  clear hu2 HF HF2
  cases hf : fine31B t
  · clear hf
    go_wp2_with (first | (go_at_call 20; refine (HAW.out _).mono ?_; rintro e w' ⟨rfl, hu⟩) | fail)
    go_ret
    exact ⟨rfl, HU.out.trans (HU2.out.trans hu)⟩
  cases hg : fine31B u
  · rw [hg] at HFu
    clear hf hg
    go_wp2_with (first | (go_at_call 19; refine HFu.out.mono ?_; rintro e w3 ⟨rfl, hu3⟩) | (go_at_call 20; refine (HAW.out _).mono ?_; rintro e w' ⟨rfl, hu⟩) | fail)
    go_ret
    exact ⟨rfl, HU.out.trans (HU2.out.trans (hu3.trans hu))⟩
  rw [hg] at HFu
  obtain ⟨h0, h16, he⟩ := fine31_ok hf
  obtain ⟨g0, g16, hge⟩ := fine31_ok hg
  obtain ⟨_, _, hl, _, _⟩ := treeErr_zero he
  obtain ⟨_, _, gl, _, _⟩ := treeErr_zero hge
  have HSM := Lib.hid (tree_small he)
  have HSM2 := Lib.hid (tree_small hge)
  have HSA : Hid (∀ W v u', TreeAt Any W v t → TreeAt Any W u' u → Calls Try.prog 25 #[v, u'] W fun e w' => e = .returned (.tuple #[.bool (decide (canT t = canT u)), .int .i64 0]) ∧ Up W w') := fun W v u' hv hu => by
    have h := same31_t Any W v u' t u hv hu (by omega) (by omega) HSM.out (by omega) (by omega) HSM2.out
    rw [(sm_fine he hge).1, (sm_fine he hge).2] at h; exact h
  have HSB : Hid (∀ W v u', TreeAt Any W v u → TreeAt Any W u' t → Calls Try.prog 25 #[v, u'] W fun e w' => e = .returned (.tuple #[.bool (decide (canT t = canT u)), .int .i64 0]) ∧ Up W w') := fun W v u' hv hu => by
    have h := same31_t Any W v u' u t hv hu (by omega) (by omega) HSM2.out (by omega) (by omega) HSM.out
    have e1 : decide (canT u = canT t) = decide (canT t = canT u) := decide_eq_decide.2 ⟨fun h => h.symm, fun h => h.symm⟩
    rw [(sm_fine hge he).1, (sm_fine hge he).2, e1] at h; exact h
  have htk := tnT_ok he
  obtain ⟨_, tn64, tnl, _, _⟩ := treeErr_zero htk
  have HSC : Hid (∀ W v u', TreeAt Any W v t → TreeAt Any W u' (tnT t) → Calls Try.prog 25 #[v, u'] W fun e w' => e = .returned (.tuple #[.bool true, .int .i64 0]) ∧ Up W w') := fun W v u' hv hu => by
    have h := same31_t Any W v u' t (tnT t) hv hu (by omega) (by omega) HSM.out (by omega) (by omega) (tree_small htk)
    rw [(sm_fine he htk).1, (sm_fine he htk).2, decide_eq_true (tnT_can he).symm] at h; exact h
  have HTN : Hid (∀ W v, TreeAt Any W v t → Calls Try.prog 28 #[v] W (TnTPost W t)) := fun W v hv => turned_t Any W v t hv he
  have HCA : Hid (∀ W v, TreeAt Any W v t → Calls Try.prog 27 #[v] W fun e w' => Up W w' ∧ ∃ u, e = .returned (.tuple #[u, .int .i64 0]) ∧ TreeAt Any w' u (canT t)) := fun W v hv => by
    refine (pcanonical_t Any W v t hv (by omega) (by omega) HSM.out).mono ?_
    rintro e w' ⟨h1, ⟨h2, _⟩ | ⟨_, u, rfl, h3⟩⟩
    · exact absurd he h2
    · exact ⟨h1, u, rfl, h3.sub fun _ _ _ => trivial⟩
  have HCB : Hid (∀ W v, TreeAt Any W v u → Calls Try.prog 27 #[v] W fun e w' => Up W w' ∧ ∃ x, e = .returned (.tuple #[x, .int .i64 0]) ∧ TreeAt Any w' x (canT u)) := fun W v hv => by
    refine (pcanonical_t Any W v u hv (by omega) (by omega) HSM2.out).mono ?_
    rintro e w' ⟨h1, ⟨h2, _⟩ | ⟨_, u, rfl, h3⟩⟩
    · exact absurd hge h2
    · exact ⟨h1, u, rfl, h3.sub fun _ _ _ => trivial⟩
  have HPR : Hid (∀ W v q, treeErr q = 0 → TreeAt Any W v q → Calls Try.prog 23 #[v] W fun e w' => Up W w' ∧ e = .returned (.tuple #[.string ⟨(txT q).toArray⟩, .int .i64 0])) := fun W v q hq hv => by
    obtain ⟨_, q64, ql, _, _⟩ := treeErr_zero hq
    refine (print_t Any W v q hv (by omega) (by omega) (tree_small hq)).mono ?_
    rintro e w' ⟨h1, rfl⟩
    have e1 : txE q = 0 := by unfold txE; rw [if_neg (by simp [hq])]
    exact ⟨h1, by rw [e1]⟩
  have HPA := Lib.hid fun W v => HPR.out W v (canT t) (canT_ok he)
  have HPB := Lib.hid fun W v => HPR.out W v (canT u) (canT_ok hge)
  have hxy := Lib.hid (tx_fine he hge)
  clear hf hg he hge hl gl htk tnl tn64 HSM HSM2 HPR
  generalize canT t = ct at *
  generalize canT u = cu at *
  generalize (⟨(txT ct).toArray⟩ : ByteArray) = x at *
  generalize (⟨(txT cu).toArray⟩ : ByteArray) = y at *
  go_wp2_with fail
  refine HFu.out.mono ?_
  rintro e w3 ⟨rfl, hu3⟩
  have HU3 := Lib.hid (HU2.out.trans hu3)
  have b0 := HU3.out.cell HB0.out
  have b1 := HU3.out.cell HB1.out
  have c0 := HU3.out.cell HC0.out
  have c1 := HU3.out.cell HC1.out
  clear hu3 HFu
  go_wp2_with fail
  refine (HSA.out w3 _ _ (HT.out.keep (HU3.out.kept _)) (HT2.out.keep (HU3.out.kept _))).mono ?_
  rintro e w4 ⟨rfl, hu4⟩
  have HU4 := Lib.hid (HU3.out.trans hu4)
  have b0 := HU4.out.cell HB0.out
  have b1 := HU4.out.cell HB1.out
  have c0 := HU4.out.cell HC0.out
  have c1 := HU4.out.cell HC1.out
  clear hu4
  go_wp2_with fail
  refine (HSB.out w4 _ _ (HT2.out.keep (HU4.out.kept _)) (HT.out.keep (HU4.out.kept _))).mono ?_
  rintro e w5 ⟨rfl, hu5⟩
  have HU5 := Lib.hid (HU4.out.trans hu5)
  have b0 := HU5.out.cell HB0.out
  have b1 := HU5.out.cell HB1.out
  have c0 := HU5.out.cell HC0.out
  have c1 := HU5.out.cell HC1.out
  clear hu5
  go_wp2_with fail
  refine (HCA.out w5 _ (HT.out.keep (HU5.out.kept _))).mono ?_
  rintro e w6 ⟨hu6, v6, rfl, ht6⟩
  obtain ⟨P6, N6, rfl, hP6, hN6⟩ := ht6
  obtain ⟨pp6, pc6, rfl, _, _⟩ := SlAt.open hP6
  obtain ⟨np6, nc6, rfl, _, _⟩ := SlAt.open hN6
  have hP6 : IntsAt Any w6 (.slice pp6 ct.ps.length pc6) ct.ps := hP6
  have hN6 : StrsAt Any w6 (.slice np6 ct.ns.length nc6) ct.ns := hN6
  have hal := Up.alloc w6 (.cells #[.slice pp6 ct.ps.length pc6, .slice np6 ct.ns.length nc6] 25)
  have d0 := box2_0 w6 (.slice pp6 ct.ps.length pc6) (.slice np6 ct.ns.length nc6) 25
  have d1 := box2_1 w6 (.slice pp6 ct.ps.length pc6) (.slice np6 ct.ns.length nc6) 25
  have HD0 := Lib.hid d0
  have HD1 := Lib.hid d1
  have HT7 : Hid (TreeAt Any (w6.alloc (.cells #[.slice pp6 ct.ps.length pc6, .slice np6 ct.ns.length nc6] 25)) (.agg #[.slice pp6 ct.ps.length pc6, .slice np6 ct.ns.length nc6]) ct) := TreeAt.keep ⟨_, _, rfl, hP6, hN6⟩ (hal.kept _)
  have HU7 := Lib.hid (HU5.out.trans (hu6.trans hal))
  have b0 := HU7.out.cell HB0.out
  have b1 := HU7.out.cell HB1.out
  have c0 := HU7.out.cell HC0.out
  have c1 := HU7.out.cell HC1.out
  clear hu6 hal hP6 hN6
  go_wp2_with fail
  generalize w6.alloc (.cells #[.slice pp6 ct.ps.length pc6, .slice np6 ct.ns.length nc6] 25) = w7 at *
  refine (HCB.out w7 _ (HT2.out.keep (HU7.out.kept _))).mono ?_
  rintro e w8 ⟨hu8, v8, rfl, ht8⟩
  obtain ⟨P8, N8, rfl, hP8, hN8⟩ := ht8
  obtain ⟨pp8, pc8, rfl, _, _⟩ := SlAt.open hP8
  obtain ⟨np8, nc8, rfl, _, _⟩ := SlAt.open hN8
  have hP8 : IntsAt Any w8 (.slice pp8 cu.ps.length pc8) cu.ps := hP8
  have hN8 : StrsAt Any w8 (.slice np8 cu.ns.length nc8) cu.ns := hN8
  have hal := Up.alloc w8 (.cells #[.slice pp8 cu.ps.length pc8, .slice np8 cu.ns.length nc8] 25)
  have e0 := box2_0 w8 (.slice pp8 cu.ps.length pc8) (.slice np8 cu.ns.length nc8) 25
  have e1 := box2_1 w8 (.slice pp8 cu.ps.length pc8) (.slice np8 cu.ns.length nc8) 25
  have HE0 := Lib.hid e0
  have HE1 := Lib.hid e1
  have HT9 : Hid (TreeAt Any (w8.alloc (.cells #[.slice pp8 cu.ps.length pc8, .slice np8 cu.ns.length nc8] 25)) (.agg #[.slice pp8 cu.ps.length pc8, .slice np8 cu.ns.length nc8]) cu) := TreeAt.keep ⟨_, _, rfl, hP8, hN8⟩ (hal.kept _)
  have hu79 := hu8.trans hal
  have HU9 := Lib.hid (HU7.out.trans hu79)
  have d0 := hu79.cell HD0.out
  have d1 := hu79.cell HD1.out
  have HT79 := Lib.hid (HT7.out.keep (hu79.kept _))
  clear hu8 hal hP8 hN8 hu79 b0 b1 c0 c1
  go_wp2_with fail
  generalize w8.alloc (.cells #[.slice pp8 cu.ps.length pc8, .slice np8 cu.ns.length nc8] 25) = w9 at *
  refine (HPA.out w9 _ HT79.out).mono ?_
  rintro e w10 ⟨hu10, rfl⟩
  have HU10 := Lib.hid (HU9.out.trans hu10)
  have e0 := hu10.cell HE0.out
  have e1 := hu10.cell HE1.out
  have HT10 := Lib.hid (HT9.out.keep (hu10.kept _))
  clear hu10 d0 d1
  go_wp2_with fail
  refine (HPB.out w10 _ HT10.out).mono ?_
  rintro e w11 ⟨hu11, rfl⟩
  have HU11 := Lib.hid (HU10.out.trans hu11)
  have b0 := HU11.out.cell HB0.out
  have b1 := HU11.out.cell HB1.out
  have HB011 := Lib.hid b0
  have HB111 := Lib.hid b1
  have HT11 := Lib.hid (HT.out.keep (HU11.out.kept _))
  clear hu11 e0 e1 HSA HSB HCA HCB HPA HPB HT10 HT9 HT79 HT7 HD0 HD1 HE0 HE1
  go_wp2_with fail
  have HTN11 : Hid (∀ W, Up w11 W → Calls Try.prog 28 #[.agg #[.slice pp t.ps.length pc, .slice np t.ns.length nc]] W (TnTPost W t)) := fun W hW => HTN.out W _ (HT11.out.keep (hW.kept _))
  have HSC11 : Hid (∀ W x, Up w11 W → TreeAt Any W x (tnT t) → Calls Try.prog 25 #[.agg #[.slice pp t.ps.length pc, .slice np t.ns.length nc], x] W fun e w' => e = .returned (.tuple #[.bool true, .int .i64 0]) ∧ Up W w') := fun W x hW hx => HSC.out W _ x (HT11.out.keep (hW.kept _)) hx
  have hup : Hid (Up w11 (w11.drewN 1)) := Up.drewN w11 1
  go_region_held3 (fun w' => Hid (Up w11 w') ∧ w'.cell? ⟨w.heap.size, 0, none⟩ = some (.slice pp t.ps.length pc) ∧ w'.cell? ⟨w.heap.size, 1, none⟩ = some (.slice np t.ns.length nc)) (exact ⟨hup, hup.out.cell HB011.out, hup.out.cell HB111.out⟩) (first
    | (go_at_call 28; refine (HTN11.out _ hup.out).mono ?_; rintro e w12 ⟨hb12, v12, rfl, ho12⟩; have HS12 := Lib.hid ho12; have hup : Hid (Up w11 w12) := hup.out.trans hb12; clear hb12 ho12)
    | (go_at_call 25; refine (HSC11.out _ _ hup.out HS12.out).mono ?_; rintro e w13 ⟨rfl, hb13⟩; have hup : Hid (Up w11 w13) := hup.out.trans hb13; clear hb13 HS12))
  have HUW := Lib.hid (HU11.out.trans hup.out)
  clear hup HTN11 HSC11 HB011 HB111
  by_cases e : ct = cu
  · have d0 : decide (ct = cu) = true := decide_eq_true e
    obtain rfl := hxy.out.2 e
    clear hxy e
    go_wp2_with (first | (go_at_call 20; refine (HAW.out _).mono ?_; rintro e w' ⟨rfl, hu⟩) | fail)
    go_ret
    exact ⟨rfl, HU.out.trans (HUW.out.trans hu)⟩
  · have d0 : decide (ct = cu) = false := decide_eq_false e
    have hne : x ≠ y := fun h => e (hxy.out.1 h)
    have hne2 : (x.toList == y.toList) = false := by
      rw [beq_eq_false_iff_ne]
      intro h
      rw [toList_data, toList_data] at h
      exact hne (congrArg ByteArray.mk (Array.toList_inj.1 h))
    clear hxy e
    go_wp2_with (first | (go_at_call 20; refine (HAW.out _).mono ?_; rintro e w' ⟨rfl, hu⟩) | fail)
    go_ret
    exact ⟨rfl, HU.out.trans (HUW.out.trans hu)⟩
end Go.Proofs.Ytcaialhoclodjaa
