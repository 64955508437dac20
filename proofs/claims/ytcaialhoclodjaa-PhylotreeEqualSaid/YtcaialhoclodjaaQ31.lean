/- PhylotreeTexts, plain. The statements' turned tree: children in the opposite order. -/
import Derived.Test.YtcaialhoclodjaaQ29
import Derived.Test.YtcaialhoclodjaaQ30
import Derived.Test.YtcaialhoclodjaaQ13
namespace Go.Proofs.Ytcaialhoclodjaa
section
variable {t : Tre}
end
end Go.Proofs.Ytcaialhoclodjaa
namespace Go.Proofs.Ytcaialhoclodjaa
open Go.RowKit Go.Deep
theorem app_node31 (t : Tre) (nm : ByteArray) (ks : List RT) (p : Int) : t.app (.node nm ks) p = (t.push p nm).apps ks t.ps.length := by
  unfold Tre.app Tre.apps Tre.push
  rw [psR, nsR]
  simp
theorem apps_le (t : Tre) (a b : List RT) (own : Nat) : (t.apps a own).ps.length ≤ (t.apps (a ++ b) own).ps.length := by
  rw [← apps_apps]
  simp [Tre.apps]
theorem apps_ns {t : Tre} (h : t.ns.length = t.ps.length) (a : List RT) (own : Nat) : (t.apps a own).ns.length = (t.apps a own).ps.length := by
  simp [Tre.apps, h, nsRs_len, psRs_len]
section
variable {ps : List Int} {n : Nat}
/-- The children behind node q, last first. -/
def restK (ps : List Int) (n k : Nat) : List Nat := (kidsL ps n).drop (kidsK ps n k).length
def kds (ps : List Int) (n q : Nat) : List Nat := (restK ps n (q + 1)).reverse
theorem kidsK_pre : ∀ (d k : Nat), ps.length - k ≤ d → k ≤ ps.length → ∃ R, kidsL ps n = kidsK ps n k ++ R
  | 0, k, hd, hk => by
    obtain rfl : k = ps.length := by omega
    exact ⟨[], by rw [List.append_nil]; rfl⟩
  | d + 1, k, hd, hk => by
    by_cases e : k = ps.length
    · subst e; exact ⟨[], by rw [List.append_nil]; rfl⟩
    · obtain ⟨R, hR⟩ := kidsK_pre d (k + 1) (by omega) (by omega)
      rw [kidsK_succ, List.append_assoc] at hR
      exact ⟨_, hR⟩
theorem kidsK_rest {k : Nat} (hk : k ≤ ps.length) : kidsL ps n = kidsK ps n k ++ restK ps n k := by
  obtain ⟨R, hR⟩ := kidsK_pre (n := n) _ k (Nat.le_refl _) hk
  have : restK ps n k = R := by unfold restK; rw [hR, List.drop_left]
  rw [this]; exact hR
theorem kds_step {q : Nat} (hq : q < ps.length) (hn : n < q) : kds ps n (q - 1) = kds ps n q ++ (if gi ps q = n then [q] else []) := by
  have h1 := kidsK_rest (n := n) (show q ≤ ps.length by omega)
  have h2 := kidsK_rest (n := n) (show q + 1 ≤ ps.length by omega)
  rw [kidsK_succ, h1, List.append_assoc] at h2
  have h3 := List.append_cancel_left h2
  unfold kds
  rw [show q - 1 + 1 = q by omega, h3, List.reverse_append]
  congr 1
  by_cases e : gi ps q = n
  · rw [if_pos ⟨hn, e⟩, if_pos e]; rfl
  · rw [if_neg (fun h => e h.2), if_neg e]; rfl
theorem kds_start (h : 0 < ps.length) : kds ps n (ps.length - 1) = [] := by
  unfold kds restK
  rw [show ps.length - 1 + 1 = ps.length by omega]
  show ((kidsL ps n).drop (kidsL ps n).length).reverse = []
  rw [List.drop_length]; rfl
theorem kds_end : kds ps n n = (kidsL ps n).reverse := by
  unfold kds restK
  have : kidsK ps n (n + 1) = [] := by rw [kidsK_succ, kidsK_len0, if_neg (by omega)]; rfl
  rw [this]; rfl
theorem kds_pre : ∀ (d q : Nat), q - n ≤ d → n ≤ q → q < ps.length → ∃ R, kds ps n n = kds ps n q ++ R
  | 0, q, hd, hn, hq => by
    obtain rfl : q = n := by omega
    exact ⟨[], by rw [List.append_nil]⟩
  | d + 1, q, hd, hn, hq => by
    by_cases e : q = n
    · subst e; exact ⟨[], by rw [List.append_nil]⟩
    · obtain ⟨R, hR⟩ := kds_pre d (q - 1) (by omega) (by omega) (by omega)
      rw [kds_step hq (by omega), List.append_assoc] at hR
      exact ⟨_, hR⟩
end
/-- The part of the turned tree. -/
def tnR (t : Tre) (n : Nat) : RT := mirR (toRF (frT t) (rkT t) n)
theorem tnR_eq {t : Tre} (he : treeErr t = 0) {n : Nat} (hn : n < t.ps.length) : tnR t n = .node (gs t.ns n) ((kds t.ps n n).map (tnR t)) := by
  unfold tnR
  rw [toRF_eq (frT_arb he).wf hn, mirR, mirRs_map, kds_end, frT_kids, List.map_map]
  show RT.node (gs t.ns n) ((kidsL t.ps n).map (mirR ∘ toRF (frT t) (rkT t))).reverse = _
  rw [List.map_reverse]; rfl
/-- What the closure sees. -/
structure TnEnv (t : Tre) (tb B0 xb fb : Nat) (pp : Option Addr) (pc nb no nc : Nat) (w : World) : Prop where
  xc : w.cell? ⟨xb, 0, none⟩ = some (.slice pp t.ps.length pc)
  xn : w.cell? ⟨xb, 1, none⟩ = some (.slice (some ⟨nb, no, none⟩) t.ns.length nc)
  xi : IntsAt (fun b => b < B0 ∧ b ≠ tb) w (.slice pp t.ps.length pc) t.ps
  xs : StrsAt (fun b => b < B0 ∧ b ≠ tb) w (.slice (some ⟨nb, no, none⟩) t.ns.length nc) t.ns
  fc : w.cell? ⟨fb, 0, none⟩ = some (.func (.func 60) #[] #[.pointer (some ⟨tb, 0, none⟩), .pointer (some ⟨xb, 0, none⟩), .pointer (some ⟨fb, 0, none⟩)])
  lo : (xb < B0 ∧ xb ≠ tb) ∧ (fb < B0 ∧ fb ≠ tb)
theorem TnEnv.keep {t : Tre} {tb B0 xb fb : Nat} {pp : Option Addr} {pc nb no nc : Nat} {w W : World} (h : TnEnv t tb B0 xb fb pp pc nb no nc w) (k : Kept (fun b => b < B0 ∧ b ≠ tb) w W) : TnEnv t tb B0 xb fb pp pc nb no nc W := by
  have hc : ∀ (b o : Nat) (v : Value), b < B0 ∧ b ≠ tb → w.cell? ⟨b, o, none⟩ = some v → W.cell? ⟨b, o, none⟩ = some v := fun b o v hb hv => by
    rw [World.cell?_of_block (a := ⟨b, o, none⟩) (k b hb (World.block_lt_of_cell? w _ hv))]; exact hv
  exact ⟨hc _ _ _ h.lo.1 h.xc, hc _ _ _ h.lo.1 h.xn, h.xi.keep k, h.xs.keep k, hc _ _ _ h.lo.2 h.fc, h.lo⟩
def TnPost (tb B0 : Nat) (w : World) (P N : Value) (t : Tre) (e : Ending) (w' : World) : Prop :=
  e = .returned (.tuple #[]) ∧ ∃ P' N', GS tb B0 w' P' N' t ∧ GK tb w w' P N P' N'
set_option maxRecDepth 100000 in
set_option maxHeartbeats 8000000 in
theorem turned1_t {t : Tre} (he : treeErr t = 0) (tb B0 xb fb : Nat) (pp : Option Addr) (pc nb no nc : Nat) : ∀ (d n : Nat) (par : Int) (T : Tre) (w : World) (P N : Value),
    t.ps.length - n ≤ d → n < t.ps.length → T.ns.length = T.ps.length → (T.app (tnR t n) par).ps.length ≤ 1000000 → TnEnv t tb B0 xb fb pp pc nb no nc w → GS tb B0 w P N T →
    Calls Try.prog 60 #[.int .i64 n, .int .i64 par, .pointer (some ⟨tb, 0, none⟩), .pointer (some ⟨xb, 0, none⟩), .pointer (some ⟨fb, 0, none⟩)] w (TnPost tb B0 w P N (T.app (tnR t n) par)) := by
  intro d
  induction d with
  | zero => intro n _ _ _ _ _ h1 h2; omega
  | succ d ih =>
    intro n par T w P N hd hn hns hlen hE hG
    obtain ⟨hp0, hp64, hnl, hok, _⟩ := treeErr_zero he
    rw [tnR_eq he hn, app_node31] at hlen ⊢
    have IH := Lib.hid ih
    have HE := Lib.hid hE
    have HG := Lib.hid hG
    have HNS := Lib.hid hns
    obtain ⟨hc0, hc1, _, _⟩ := hG.cells
    obtain ⟨op, oc, rfl, _⟩ := hG.tl.pown.form (n := T.ps.length) (by simp)
    obtain ⟨on, od, rfl, _⟩ := hG.tl.nown.form (n := T.ps.length) (by simp [hns])
    obtain ⟨_, _, ee, hnm⟩ := strs_get hE.xs (show n < t.ns.length by omega)
    cases ee
    have hxn := hE.xn
    have hxc := hE.xc
    have HLEN : Hid (∀ q, n ≤ q → q < t.ps.length → ((T.push par (gs t.ns n)).apps ((kds t.ps n q).map (tnR t)) T.ps.length).ps.length ≤ 1000000) := fun q h1 h2 => by
      obtain ⟨R, hR⟩ := kds_pre (ps := t.ps) (n := n) _ q (Nat.le_refl _) h1 h2
      rw [hR, List.map_append] at hlen
      exact Nat.le_trans (apps_le _ _ _ _) hlen
    have hlp : T.ps.length + 1 ≤ 1000000 := by
      have h1 := HLEN.out (t.ps.length - 1) (by omega) (by omega)
      rw [kds_start hp0, List.map_nil, apps_nil] at h1
      have := (push_len T par (gs t.ns n)).1
      omega
    have HNK : Hid (∀ q, ((T.push par (gs t.ns n)).apps ((kds t.ps n q).map (tnR t)) T.ps.length).ns.length = ((T.push par (gs t.ns n)).apps ((kds t.ps n q).map (tnR t)) T.ps.length).ps.length) := fun q => apps_ns (push_ns hns _ _) _ _
    have HST : Hid (kds t.ps n (t.ps.length - 1) = []) := kds_start hp0
    have HKS : Hid (∀ q, q < t.ps.length → n < q → kds t.ps n (q - 1) = kds t.ps n q ++ (if gi t.ps q = n then [q] else [])) := fun q h1 h2 => kds_step h1 h2
    have HPL0 : Hid (0 < t.ps.length ∧ t.ps.length ≤ 64) := ⟨hp0, hp64⟩
    have i1 : (0 : Int) ≤ (n : Int) := by omega
    have i2 : (n : Int) < (t.ns.length : Int) := by omega
    have HND := Lib.hid hd
    have HNN := Lib.hid hn
    clear hE hG hlen hns ih hnl hok hp0 hp64 hd he
    generalize hnmm : gs t.ns n = nm at *
    clear hnmm
    go_enter Try.func60, Try.ntmps60
    go_wp2_with fail
    go_cut [] from 12 to 27 (fun wx => ∃ P' N', GS tb B0 wx P' N' (T.push par nm) ∧ GK tb w wx (.slice op T.ps.length oc) (.slice on T.ps.length od) P' N')
    case first =>
      have hd := Up.drewN w 1
      have HGS := Lib.hid HG.out
      have HBX := Lib.hid HG.out.box
      have HRd : Hid (RS tb B0 w w.drew (.slice op T.ps.length oc) (.slice on T.ps.length od) (.slice op T.ps.length oc) (.slice on T.ps.length od) T.ps T.ns) := (RS.start HG.out.tl HG.out.lo).up hd
      have HPL : Hid (T.ps.length ≤ 1000000 ∧ T.ns.length ≤ 1000000) := ⟨by omega, by rw [HNS.out]; omega⟩
      have HSP : Hid (∀ {W : World} {P' N' : Value} {ps' : List Int} {ns' : List ByteArray}, RS tb B0 w W (.slice op T.ps.length oc) (.slice on T.ps.length od) P' N' ps' ns' → W.cell? ⟨tb, 0, none⟩ = some (.slice op T.ps.length oc) ∧ W.cell? ⟨tb, 1, none⟩ = some (.slice on T.ps.length od) ∧ W.cell? ⟨xb, 1, none⟩ = some (.slice (some ⟨nb, no, none⟩) t.ns.length nc) ∧ W.cell? ⟨nb, no + n, none⟩ = some (.string nm)) := fun {W P' N' ps' ns'} h => by
        have hk := h.gk.keeps HG.out.tl
        have hE2 := HE.out.keep hk
        refine ⟨(h.cells HBX.out).1, (h.cells HBX.out).2, hE2.xn, ?_⟩
        obtain ⟨_, _, e3, hcx⟩ := strs_get HE.out.xs (show n < t.ns.length by omega)
        cases e3
        obtain ⟨_, _, e4, hcy⟩ := strs_get hE2.xs (show n < t.ns.length by omega)
        cases e4
        rw [hcx] at hnm
        rw [hcy]; exact hnm
      refine region_T (by kernel_rfl) 14 (fun w' => w'.cell? ⟨tb, 0, none⟩ = some (.slice op T.ps.length oc) ∧ w'.cell? ⟨tb, 1, none⟩ = some (.slice on T.ps.length od) ∧ w'.cell? ⟨xb, 1, none⟩ = some (.slice (some ⟨nb, no, none⟩) t.ns.length nc) ∧ w'.cell? ⟨nb, no + n, none⟩ = some (.string nm)) (HSP.out HRd.out) (fun hS => ?_)
      simp only [List.size_toArray, List.length_cons, List.length_nil, Nat.reduceAdd, Array.replicate_succ, Array.replicate_zero, List.push_toArray, List.nil_append, List.cons_append]
      clear hnm hxn hxc hc0 hc1
      generalize w.drew = Wd at *
      refine anyT.take (i := 0) (v := ?gv0) rfl (by kernel_rfl) (fun _ _ _ h => h) (by rfl) (fun w hSw => ?gy0) hS ?gr0
      case gy0 =>
        (try dsimp only at hSw)
        go_simp
        try with_reducible rfl
      try simp only [Act.put, List.setIfInBounds_toArray, List.set_cons_zero, List.set_cons_succ]
      refine anyT.take (i := 1) (v := ?gv1) rfl (by kernel_rfl) (fun _ _ _ h => h) (by rfl) (fun w hSw => ?gy1) hS ?gr1
      case gy1 =>
        (try dsimp only at hSw)
        go_simp
        try with_reducible rfl
      try simp only [Act.put, List.setIfInBounds_toArray, List.set_cons_zero, List.set_cons_succ]
      refine anyT.take (i := 2) (v := ?gv2) rfl (by kernel_rfl) (fun _ _ _ h => h) (by rfl) (fun w hSw => ?gy2) hS ?gr2
      case gy2 =>
        (try dsimp only at hSw)
        go_simp
        try with_reducible rfl
      try simp only [Act.put, List.setIfInBounds_toArray, List.set_cons_zero, List.set_cons_succ]
      refine anyT.take (i := 5) (v := ?gv5) rfl (by kernel_rfl) (fun _ _ _ h => h) (by rfl) (fun w hSw => ?gy5) hS ?gr5
      case gy5 =>
        (try dsimp only at hSw)
        go_simp
        try with_reducible rfl
      try simp only [Act.put, List.setIfInBounds_toArray, List.set_cons_zero, List.set_cons_succ]
      refine anyT.take (i := 6) (v := ?gv6) rfl (by kernel_rfl) (fun _ _ _ h => h) (by rfl) (fun w hSw => ?gy6) hS ?gr6
      case gy6 =>
        (try dsimp only at hSw)
        go_simp
        try with_reducible rfl
      try simp only [Act.put, List.setIfInBounds_toArray, List.set_cons_zero, List.set_cons_succ]
      refine anyT.take (i := 7) (v := ?gv7) rfl (by kernel_rfl) (fun _ _ _ h => h) (by rfl) (fun w hSw => ?gy7) hS ?gr7
      case gy7 =>
        (try dsimp only at hSw)
        go_simp
        try with_reducible rfl
      try simp only [Act.put, List.setIfInBounds_toArray, List.set_cons_zero, List.set_cons_succ]
      refine anyT.take (i := 8) (v := ?gv8) rfl (by kernel_rfl) (fun _ _ _ h => h) (by rfl) (fun w hSw => ?gy8) hS ?gr8
      case gy8 =>
        (try dsimp only at hSw)
        go_simp
        try with_reducible rfl
      try simp only [Act.put, List.setIfInBounds_toArray, List.set_cons_zero, List.set_cons_succ]
      refine anyT.take (i := 9) (v := ?gv9) rfl (by kernel_rfl) (fun _ _ _ h => h) (by rfl) (fun w hSw => ?gy9) hS ?gr9
      case gy9 =>
        (try dsimp only at hSw)
        go_simp
        try with_reducible rfl
      try simp only [Act.put, List.setIfInBounds_toArray, List.set_cons_zero, List.set_cons_succ]
      refine anyT.take (i := 10) (v := ?gv10) rfl (by kernel_rfl) (fun _ _ _ h => h) (by rfl) (fun w hSw => ?gy10) hS ?gr10
      case gy10 =>
        (try dsimp only at hSw)
        go_simp
        try with_reducible rfl
      try simp only [Act.put, List.setIfInBounds_toArray, List.set_cons_zero, List.set_cons_succ]
      refine anyT.take (i := 11) (v := ?gv11) rfl (by kernel_rfl) (fun _ _ _ h => h) (by rfl) (fun w hSw => ?gy11) hS ?gr11
      case gy11 =>
        (try dsimp only at hSw)
        go_simp
        try with_reducible rfl
      try simp only [Act.put, List.setIfInBounds_toArray, List.set_cons_zero, List.set_cons_succ]
      refine anyT.step2 (i := 3) (i2 := 12) rfl rfl (by kernel_rfl) (fun K' hK => ?_) (fun K' hK => ?_)
      · go_simp
        have HRa : Hid (RS tb B0 _ (Wd.alloc (.cells #[.int .i64 par] 3)) _ _ _ _ _ _) := HRd.out.up (Up.alloc _ _)
        refine hK.out _ _ (fun _ => HSP.out HRa.out) (fun _ => ?_)
        try simp only [List.setIfInBounds_toArray, List.set_cons_zero, List.set_cons_succ]
        refine anyT.step2 (i := 4) (i2 := 12) rfl rfl (by kernel_rfl) (fun K' hK => ?_) (fun K' hK => ?_)
        · refine step_app1 (by rfl) _ _ _ (by rfl) B0 3 _ 8 Try.underlying22 Try.infoI (by rfl) (by decide) (by rfl) HRa.out.tl.pown (.int .i64 par) Wd.heap.size (by rfl) (cell_at_new Wd #[.int .i64 par] 3 0) (by rfl) (by rw [List.length_map]; exact HPL.out.1) (Nat.le_trans HRa.out.lo.2 HRa.out.gk.size) ?_
          intro g1 g1c We1 hog1 hgg1 hrg1 _
          have HRb : Hid (RS tb B0 _ We1 _ _ _ _ _ _) := HRa.out.appP hog1 hgg1 (hrg1.imp id (fun e => Nat.le_of_eq e.symm))
          refine hK.out _ _ (fun _ => HSP.out HRb.out) (fun _ => ?_)
          try simp only [Act.put, List.setIfInBounds_toArray, List.set_cons_zero, List.set_cons_succ]
          refine anyT.free (i := 14) (v := ?gv14a) rfl (by kernel_rfl) (fun _ _ _ h => h) (by rfl) (fun w => ?gy14a) (fun _ => HSP.out HRb.out) ?gr14a
          case gy14a =>
            go_simp
            try with_reducible rfl
          try simp only [Act.put, List.setIfInBounds_toArray, List.set_cons_zero, List.set_cons_succ]
          refine anyT.step (i := 12) rfl (by kernel_rfl) (fun K' hK => ?_)
          go_simp
          have HRc : Hid (RS tb B0 _ (We1.alloc (.cells #[.string nm] 9)) _ _ _ _ _ _) := HRb.out.up (Up.alloc _ _)
          refine hK.out _ _ (fun _ => HSP.out HRc.out) (fun _ => ?_)
          try simp only [List.setIfInBounds_toArray, List.set_cons_zero, List.set_cons_succ]
          refine anyT.step (i := 13) rfl (by kernel_rfl) (fun K' hK => ?_)
          refine step_app1 (by rfl) _ _ _ (by rfl) B0 9 _ 16 Try.underlying23 Try.infoStr2 (by rfl) (by decide) (by rfl) HRc.out.tl.nown (.string nm) We1.heap.size (by rfl) (cell_at_new We1 #[.string nm] 9 0) (by rfl) (by rw [List.length_map]; exact HPL.out.2) (Nat.le_trans HRc.out.lo.2 HRc.out.gk.size) ?_
          intro g2 g2c We2 hog2 hgg2 hrg2 _
          have HRf : Hid (RS tb B0 _ We2 _ _ _ _ _ _) := HRc.out.appN hog2 hgg2 (hrg2.imp id (fun e => Nat.le_of_eq e.symm))
          refine hK.out _ _ (fun _ => HSP.out HRf.out) (fun _ => ?_)
          try simp only [Act.put, List.setIfInBounds_toArray, List.set_cons_zero, List.set_cons_succ]
          obtain ⟨hbe, hbe1⟩ := HRf.out.cells HBX.out
          have hfe := HRf.out.frozen HBX.out 0
          have hfe1 := HRf.out.frozen HBX.out 1
          have HFIN := Lib.hid (HRf.out.store HGS.out)
          refine anyT.step (i := 15) rfl (by kernel_rfl) (fun K' hK => ?_)
          go_simp
          refine hK.out _ _ (not_more (by kernel_rfl)) (fun _ => ?_)
          try simp only [List.setIfInBounds_toArray, List.set_cons_zero, List.set_cons_succ]
          refine anyT.free (i := 16) (v := ?gv16a) rfl (by kernel_rfl) (fun _ _ _ h => h) (by rfl) (fun w => ?gy16a) (not_more (by kernel_rfl)) ?gr16a
          case gy16a =>
            go_simp
            try with_reducible rfl
          try simp only [Act.put, List.setIfInBounds_toArray, List.set_cons_zero, List.set_cons_succ]
          refine anyT.step (i := 17) rfl (by kernel_rfl) (fun K' hK => ?_)
          go_simp
          refine hK.out _ _ (not_more (by kernel_rfl)) (fun _ => ?_)
          refine anyT.done (by kernel_rfl) ?_
          go_wp2_with fail
          go_meet
          case rel =>
            have hfin := HFIN.out
            simp only [List.length_map] at hfin
            exact ⟨_, _, hfin.1, hfin.2⟩
        · go_simp
          have HRb : Hid (RS tb B0 _ ((Wd.alloc (.cells #[.int .i64 par] 3)).alloc (.cells #[.string nm] 9)) _ _ _ _ _ _) := HRa.out.up (Up.alloc _ _)
          refine hK.out _ _ (fun _ => HSP.out HRb.out) (fun _ => ?_)
          try simp only [List.setIfInBounds_toArray, List.set_cons_zero, List.set_cons_succ]
          have hcN := cell_at_new (Wd.alloc (.cells #[.int .i64 par] 3)) #[.string nm] 9 0
          have hcP := (Up.alloc (Wd.alloc (.cells #[.int .i64 par] 3)) (.cells #[.string nm] 9)).cell (cell_at_new Wd #[.int .i64 par] 3 0)
          rw [World.size_alloc] at hcN
          refine anyT.step (i := 4) rfl (by kernel_rfl) (fun K' hK => ?_)
          refine step_app1 (by rfl) _ _ _ (by rfl) B0 3 _ 8 Try.underlying22 Try.infoI (by rfl) (by decide) (by rfl) HRb.out.tl.pown (.int .i64 par) Wd.heap.size (by rfl) hcP (by rfl) (by rw [List.length_map]; exact HPL.out.1) (Nat.le_trans HRb.out.lo.2 HRb.out.gk.size) ?_
          intro g1 g1c We1 hog1 hgg1 hrg1 _
          have HRc : Hid (RS tb B0 _ We1 _ _ _ _ _ _) := HRb.out.appP hog1 hgg1 (hrg1.imp id (fun e => Nat.le_of_eq e.symm))
          have hcN1 : We1.cell? ⟨Wd.heap.size + 1, 0, none⟩ = some (.string nm) := by
            rw [hgg1.cell_far ⟨Wd.heap.size + 1, 0, none⟩ (by simp) (fun e => absurd (ownBlock_lt HRd.out.tl.pown e.symm).2 (by show ¬ (Wd.heap.size + 1 < Wd.heap.size); omega))]; exact hcN
          refine hK.out _ _ (fun _ => HSP.out HRc.out) (fun _ => ?_)
          try simp only [Act.put, List.setIfInBounds_toArray, List.set_cons_zero, List.set_cons_succ]
          refine anyT.free (i := 14) (v := ?gv14b) rfl (by kernel_rfl) (fun _ _ _ h => h) (by rfl) (fun w => ?gy14b) (fun _ => HSP.out HRc.out) ?gr14b
          case gy14b =>
            go_simp
            try with_reducible rfl
          try simp only [Act.put, List.setIfInBounds_toArray, List.set_cons_zero, List.set_cons_succ]
          refine anyT.step (i := 13) rfl (by kernel_rfl) (fun K' hK => ?_)
          refine step_app1 (by rfl) _ _ _ (by rfl) B0 9 _ 16 Try.underlying23 Try.infoStr2 (by rfl) (by decide) (by rfl) HRc.out.tl.nown (.string nm) (Wd.heap.size + 1) (by rfl) hcN1 (by rfl) (by rw [List.length_map]; exact HPL.out.2) (Nat.le_trans HRc.out.lo.2 HRc.out.gk.size) ?_
          intro g2 g2c We2 hog2 hgg2 hrg2 _
          have HRf : Hid (RS tb B0 _ We2 _ _ _ _ _ _) := HRc.out.appN hog2 hgg2 (hrg2.imp id (fun e => Nat.le_of_eq e.symm))
          refine hK.out _ _ (fun _ => HSP.out HRf.out) (fun _ => ?_)
          try simp only [Act.put, List.setIfInBounds_toArray, List.set_cons_zero, List.set_cons_succ]
          obtain ⟨hbe, hbe1⟩ := HRf.out.cells HBX.out
          have hfe := HRf.out.frozen HBX.out 0
          have hfe1 := HRf.out.frozen HBX.out 1
          have HFIN := Lib.hid (HRf.out.store HGS.out)
          refine anyT.step (i := 15) rfl (by kernel_rfl) (fun K' hK => ?_)
          go_simp
          refine hK.out _ _ (not_more (by kernel_rfl)) (fun _ => ?_)
          try simp only [List.setIfInBounds_toArray, List.set_cons_zero, List.set_cons_succ]
          refine anyT.free (i := 16) (v := ?gv16b) rfl (by kernel_rfl) (fun _ _ _ h => h) (by rfl) (fun w => ?gy16b) (not_more (by kernel_rfl)) ?gr16b
          case gy16b =>
            go_simp
            try with_reducible rfl
          try simp only [Act.put, List.setIfInBounds_toArray, List.set_cons_zero, List.set_cons_succ]
          refine anyT.step (i := 17) rfl (by kernel_rfl) (fun K' hK => ?_)
          go_simp
          refine hK.out _ _ (not_more (by kernel_rfl)) (fun _ => ?_)
          refine anyT.done (by kernel_rfl) ?_
          go_wp2_with fail
          go_meet
          case rel =>
            have hfin := HFIN.out
            simp only [List.length_map] at hfin
            exact ⟨_, _, hfin.1, hfin.2⟩
      · go_simp
        have HRa : Hid (RS tb B0 _ (Wd.alloc (.cells #[.string nm] 9)) _ _ _ _ _ _) := HRd.out.up (Up.alloc _ _)
        refine hK.out _ _ (fun _ => HSP.out HRa.out) (fun _ => ?_)
        try simp only [List.setIfInBounds_toArray, List.set_cons_zero, List.set_cons_succ]
        refine anyT.step (i := 3) rfl (by kernel_rfl) (fun K' hK => ?_)
        go_simp
        have HRb : Hid (RS tb B0 _ ((Wd.alloc (.cells #[.string nm] 9)).alloc (.cells #[.int .i64 par] 3)) _ _ _ _ _ _) := HRa.out.up (Up.alloc _ _)
        refine hK.out _ _ (fun _ => HSP.out HRb.out) (fun _ => ?_)
        try simp only [List.setIfInBounds_toArray, List.set_cons_zero, List.set_cons_succ]
        have hcP := cell_at_new (Wd.alloc (.cells #[.string nm] 9)) #[.int .i64 par] 3 0
        have hcN := (Up.alloc (Wd.alloc (.cells #[.string nm] 9)) (.cells #[.int .i64 par] 3)).cell (cell_at_new Wd #[.string nm] 9 0)
        rw [World.size_alloc] at hcP
        refine anyT.step (i := 4) rfl (by kernel_rfl) (fun K' hK => ?_)
        refine step_app1 (by rfl) _ _ _ (by rfl) B0 3 _ 8 Try.underlying22 Try.infoI (by rfl) (by decide) (by rfl) HRb.out.tl.pown (.int .i64 par) (Wd.heap.size + 1) (by rfl) hcP (by rfl) (by rw [List.length_map]; exact HPL.out.1) (Nat.le_trans HRb.out.lo.2 HRb.out.gk.size) ?_
        intro g1 g1c We1 hog1 hgg1 hrg1 _
        have HRc : Hid (RS tb B0 _ We1 _ _ _ _ _ _) := HRb.out.appP hog1 hgg1 (hrg1.imp id (fun e => Nat.le_of_eq e.symm))
        have hcN1 : We1.cell? ⟨Wd.heap.size, 0, none⟩ = some (.string nm) := by
          rw [hgg1.cell_far ⟨Wd.heap.size, 0, none⟩ (by simp; omega) (fun e => absurd (ownBlock_lt HRd.out.tl.pown e.symm).2 (by show ¬ (Wd.heap.size < Wd.heap.size); omega))]; exact hcN
        refine hK.out _ _ (fun _ => HSP.out HRc.out) (fun _ => ?_)
        try simp only [Act.put, List.setIfInBounds_toArray, List.set_cons_zero, List.set_cons_succ]
        refine anyT.free (i := 14) (v := ?gv14c) rfl (by kernel_rfl) (fun _ _ _ h => h) (by rfl) (fun w => ?gy14c) (fun _ => HSP.out HRc.out) ?gr14c
        case gy14c =>
          go_simp
          try with_reducible rfl
        try simp only [Act.put, List.setIfInBounds_toArray, List.set_cons_zero, List.set_cons_succ]
        refine anyT.step (i := 13) rfl (by kernel_rfl) (fun K' hK => ?_)
        refine step_app1 (by rfl) _ _ _ (by rfl) B0 9 _ 16 Try.underlying23 Try.infoStr2 (by rfl) (by decide) (by rfl) HRc.out.tl.nown (.string nm) Wd.heap.size (by rfl) hcN1 (by rfl) (by rw [List.length_map]; exact HPL.out.2) (Nat.le_trans HRc.out.lo.2 HRc.out.gk.size) ?_
        intro g2 g2c We2 hog2 hgg2 hrg2 _
        have HRf : Hid (RS tb B0 _ We2 _ _ _ _ _ _) := HRc.out.appN hog2 hgg2 (hrg2.imp id (fun e => Nat.le_of_eq e.symm))
        refine hK.out _ _ (fun _ => HSP.out HRf.out) (fun _ => ?_)
        try simp only [Act.put, List.setIfInBounds_toArray, List.set_cons_zero, List.set_cons_succ]
        obtain ⟨hbe, hbe1⟩ := HRf.out.cells HBX.out
        have hfe := HRf.out.frozen HBX.out 0
        have hfe1 := HRf.out.frozen HBX.out 1
        have HFIN := Lib.hid (HRf.out.store HGS.out)
        refine anyT.step (i := 15) rfl (by kernel_rfl) (fun K' hK => ?_)
        go_simp
        refine hK.out _ _ (not_more (by kernel_rfl)) (fun _ => ?_)
        try simp only [List.setIfInBounds_toArray, List.set_cons_zero, List.set_cons_succ]
        refine anyT.free (i := 16) (v := ?gv16c) rfl (by kernel_rfl) (fun _ _ _ h => h) (by rfl) (fun w => ?gy16c) (not_more (by kernel_rfl)) ?gr16c
        case gy16c =>
          go_simp
          try with_reducible rfl
        try simp only [Act.put, List.setIfInBounds_toArray, List.set_cons_zero, List.set_cons_succ]
        refine anyT.step (i := 17) rfl (by kernel_rfl) (fun K' hK => ?_)
        go_simp
        refine hK.out _ _ (not_more (by kernel_rfl)) (fun _ => ?_)
        refine anyT.done (by kernel_rfl) ?_
        go_wp2_with fail
        go_meet
        case rel =>
          have hfin := HFIN.out
          simp only [List.length_map] at hfin
          exact ⟨_, _, hfin.1, hfin.2⟩
    case rest =>
      obtain ⟨P2, N2, hG2, hK2⟩ := hcut
      have HG2 := Lib.hid hG2
      have HK2 := Lib.hid hK2
      have HEC : Hid (TnEnv t tb B0 xb fb pp pc nb no nc wc) := HE.out.keep (hK2.keeps HG.out.tl)
      have HSEE : Hid (∀ (wr : World) (P N : Value), GK tb wc wr P2 N2 P N → TnEnv t tb B0 xb fb pp pc nb no nc wr) := fun wr P N hk => HEC.out.keep (hk.keeps HG2.out.tl)
      have hxc := HEC.out.xc
      have hl1 := HPL0.out.1
      have j1 : (0 : Int) < (t.ps.length : Int) := by omega
      have j2 : wrap64 ((t.ps.length : Int) - 1) = (t.ps.length : Int) - 1 := by have := HPL0.out.2; unfold wrap64; omega
      clear hG2 hK2 hnm hxn hc0 hc1
      go_wp2_with fail
      clear hxc j2
      go_loopw [8] (fun i wr => ∃ q : Nat, n ≤ q ∧ q < t.ps.length ∧ i = .int .i64 q ∧ Hid (∃ P N, GS tb B0 wr P N ((T.push par nm).apps ((kds t.ps n q).map (tnR t)) T.ps.length) ∧ GK tb wc wr P2 N2 P N)) (fun i _ => (intOf i).toNat - n)
      case atStart => exact ⟨t.ps.length - 1, by omega, by omega, by congr 1; have h1 := HPL0.out.1; have h2 := HPL0.out.2; first | go_num | (unfold wrap64; omega), P2, N2, by rw [HST.out, List.map_nil, apps_nil]; exact HG2.out, GK.refl _ _ _ _⟩
      case round =>
        obtain ⟨q, hq1, hq2, rfl, hI⟩ := hrel
        obtain ⟨wo, rfl⟩ : ∃ wo : World, wo = wr := ⟨_, rfl⟩
        obtain ⟨P, N, hGr, hKr⟩ := hI.out
        have hEr := HSEE.out wo P N hKr
        have h64 := HPL0.out.2
        by_cases hlt : n < q
        · have HSTEP := Lib.hid (HKS.out q hq2 hlt)
          obtain ⟨b2, off, rfl, hcell⟩ := ints_get hEr.xi hq2
          have hxc := hEr.xc
          have hfc := hEr.fc
          have k1 : (0 : Int) ≤ (q : Int) := by omega
          have k2 : (q : Int) < (t.ps.length : Int) := by omega
          have k3 : (q : Int) < 64 := by omega
          have d1 : decide ((n : Int) < (q : Int)) = true := decide_eq_true (by omega)
          have HGR := Lib.hid hGr
          have HKR := Lib.hid hKr
          have HQ1 := Lib.hid hlt
          have HQ2 := Lib.hid hq2
          have HER := Lib.hid hEr
          have HK64 := Lib.hid h64
          by_cases e : gi t.ps q = (n : Int)
          · have d2 : (gi t.ps q == (n : Int)) = true := beq_iff_eq.2 e
            have HS1 : Hid ((T.push par nm).apps ((kds t.ps n (q - 1)).map (tnR t)) T.ps.length = ((T.push par nm).apps ((kds t.ps n q).map (tnR t)) T.ps.length).app (tnR t q) (T.ps.length : Nat)) := by
              unfold Hid; rw [HSTEP.out, if_pos e, List.map_append, List.map_cons, List.map_nil, apps_app]
            have HL2 := HLEN.out (q - 1) (by omega) (by omega)
            rw [HS1.out] at HL2
            have HCALL := Lib.hid (IH.out q (T.ps.length : Nat) _ wo P N (by have := HND.out; omega) hq2 (HNK.out q) HL2 hEr hGr)
            clear e hI hGr hKr hEr HL2 h64
            generalize gi t.ps q = gq at *
            go_wp2_with fail
            refine HCALL.out.mono ?_
            rintro e w4 ⟨rfl, P4, N4, hG4, hK4⟩
            have HN4 : Hid (∃ P N, GS tb B0 w4 P N ((T.push par nm).apps ((kds t.ps n (q - 1)).map (tnR t)) T.ps.length) ∧ GK tb wc w4 P2 N2 P N) := ⟨P4, N4, by rw [HS1.out]; exact hG4, HKR.out.trans hK4⟩
            clear hG4 hK4 HCALL hcell hxc hfc
            go_wp2_with fail
            go_roundw
            case rel => exact ⟨q - 1, by have := HQ1.out; omega, by have := HQ2.out; omega, by have := HQ1.out; have := HQ2.out; have := HK64.out; go_num, HN4.out⟩
            case measure => have := HQ1.out; have := HQ2.out; have := HK64.out; simp [intOf]; omega
          · have d2 : (gi t.ps q == (n : Int)) = false := beq_eq_false_iff_ne.2 e
            have HN4 : Hid (∃ P N, GS tb B0 wo P N ((T.push par nm).apps ((kds t.ps n (q - 1)).map (tnR t)) T.ps.length) ∧ GK tb wc wo P2 N2 P N) := ⟨P, N, by rw [HSTEP.out, if_neg e, List.append_nil]; exact hGr, hKr⟩
            clear e hI hGr hKr hEr h64 hfc
            generalize gi t.ps q = gq at *
            go_wp2_with fail
            go_roundw
            case rel => exact ⟨q - 1, by have := HQ1.out; omega, by have := HQ2.out; omega, by have := HQ1.out; have := HQ2.out; have := HK64.out; go_num, HN4.out⟩
            case measure => have := HQ1.out; have := HQ2.out; have := HK64.out; simp [intOf]; omega
        · obtain rfl : q = n := by omega
          have d1 : decide ((q : Int) < (q : Int)) = false := decide_eq_false (by omega)
          have HFIN := Lib.hid hGr
          have HKF := Lib.hid (HK2.out.trans hKr)
          clear hI hGr hKr hEr
          go_wp2_with fail
          refine bodyPost_end (results_none rfl _ _ _) rfl ⟨rfl, P, N, HFIN.out, HKF.out⟩
end Go.Proofs.Ytcaialhoclodjaa
