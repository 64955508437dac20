/- The contract of layer 31's reference's ordered. -/
import Derived.Test.YtpjijbophjdgaaaGreatQ19
import Derived.Test.YtpjijbophjdgaaaGreatQ21
namespace Go.Proofs.YtpjijbophjdgaaaGreat
open Go.RowKit Go.Deep
def posK (s : ByteArray) : List RT → Nat
  | [] => 0
  | b :: l => if lsB (lstR b) s = true then posK s l + 1 else 0
theorem posK_of {s : ByteArray} : ∀ {l : List RT} {k : Nat}, k ≤ l.length → (∀ j, j < k → lsB (lstR (gr l j)) s = true) → (k < l.length → lsB (lstR (gr l k)) s = false) → posK s l = k
  | [], k, hk, _, _ => by
    obtain rfl : k = 0 := by simpa using hk
    rfl
  | b :: l, 0, _, _, h => by
    have h1 : lsB (lstR b) s = false := h (by simp)
    rw [posK, if_neg (by rw [h1]; simp)]
  | b :: l, k + 1, hk, h0, h => by
    have h1 : lsB (lstR b) s = true := h0 0 (by omega)
    rw [posK, if_pos h1, posK_of (l := l) (k := k) (by simpa using hk) (fun j hj => h0 (j + 1) (by omega)) (fun hl => h (by simpa using hl))]
def insO (s : ByteArray) (o : RT) (l : List RT) : List RT := l.take (posK s l) ++ (o :: l.drop (posK s l))
mutual
def ordR : RT → RT
  | .node nm ks => .node nm (ordRs [] ks)
def ordRs (acc : List RT) : List RT → List RT
  | [] => acc
  | c :: cs => ordRs (insO (lstR c) (ordR c) acc) cs
end
theorem insO_len (s : ByteArray) (o : RT) (l : List RT) : (insO s o l).length = l.length + 1 := by
  unfold insO
  have : posK s l ≤ l.length := by
    induction l with
    | nil => exact Nat.le_refl _
    | cons b l ih =>
      rw [posK, List.length_cons]; split
      · omega
      · omega
  rw [List.length_append, List.length_take, List.length_cons, List.length_drop]; omega
theorem ordRs_app (acc : List RT) : ∀ (a b : List RT), ordRs acc (a ++ b) = ordRs (ordRs acc a) b
  | [], _ => by rw [ordRs]; rfl
  | c :: a, b => by rw [List.cons_append, ordRs, ordRs]; exact ordRs_app _ a b
theorem ordRs_take {ks : List RT} {i : Nat} (h : i < ks.length) : ordRs [] (ks.take (i + 1)) = insO (lstR (gr ks i)) (ordR (gr ks i)) (ordRs [] (ks.take i)) := by
  have hg : gr ks i = ks[i] := by simp [gr, h]
  rw [List.take_succ_eq_append_getElem h, ordRs_app, ordRs, ordRs, hg]
theorem ordRs_len : ∀ (ks acc : List RT), (ordRs acc ks).length = acc.length + ks.length
  | [], acc => by rw [ordRs]; simp
  | c :: ks, acc => by rw [ordRs, ordRs_len ks, insO_len, List.length_cons]; omega
theorem sizeRs_app : ∀ (a b : List RT), sizeRs (a ++ b) = sizeRs a + sizeRs b
  | [], b => by rw [sizeRs]; simp
  | r :: a, b => by rw [List.cons_append, sizeRs, sizeRs, sizeRs_app a b]; omega
theorem sizeRs_ins (s : ByteArray) (o : RT) (l : List RT) : sizeRs (insO s o l) = sizeRs l + sizeR o := by
  unfold insO
  rw [sizeRs_app, sizeRs]
  have h := sizeRs_app (l.take (posK s l)) (l.drop (posK s l))
  rw [List.take_append_drop] at h; omega
mutual
theorem sizeR_ord : ∀ r : RT, sizeR (ordR r) = sizeR r
  | .node nm ks => by rw [ordR, sizeR, sizeR, sizeRs_ord ks []]; simp [sizeRs]
theorem sizeRs_ord : ∀ (ks acc : List RT), sizeRs (ordRs acc ks) = sizeRs acc + sizeRs ks
  | [], acc => by rw [ordRs, sizeRs]; rfl
  | c :: ks, acc => by rw [ordRs, sizeRs_ord ks, sizeRs_ins, sizeR_ord c, sizeRs]; omega
end
theorem sizeRs_take (ks : List RT) (i : Nat) : sizeRs (ks.take i) ≤ sizeRs ks := by
  have h := sizeRs_app (ks.take i) (ks.drop i)
  rw [List.take_append_drop] at h; omega
theorem drop_cells {S : Nat → Prop} {w : World} {b off n cap k : Nat} {vs : List Value} (h : SlAt S w (.slice (some ⟨b, off, none⟩) n cap) n (vN vs)) (hl : vs.length = n) (_ : k < n) (i : Nat) (q : Value) (hq : (vs.drop k)[i]? = some q) : w.cell? ((⟨b, off + k, none⟩ : Addr).add i) = some q := by
  rw [List.getElem?_drop] at hq
  have hki : k + i < n := by rw [← hl]; exact (List.getElem?_eq_some_iff.1 hq).1
  obtain ⟨b', o', e, hc⟩ := vN_get h hki
  injection e with e
  injection e with e1 e2
  subst e1; subst e2
  have hv : vN vs (k + i) = q := by unfold vN; rw [List.getD_eq_getElem?_getD, hq]; rfl
  rw [hv] at hc
  rw [Addr.add_lit, show off + k + i = off + (k + i) by omega]; exact hc
theorem take_cells {S : Nat → Prop} {w : World} {b off n cap k : Nat} {vs : List Value} (h : SlAt S w (.slice (some ⟨b, off, none⟩) n cap) n (vN vs)) (hl : vs.length = n) (_ : k ≤ n) (i : Nat) (q : Value) (hq : (vs.take k)[i]? = some q) : w.cell? ((⟨b, off, none⟩ : Addr).add i) = some q := by
  rw [List.getElem?_take] at hq
  split at hq
  · have hki : i < n := by rw [← hl]; exact (List.getElem?_eq_some_iff.1 hq).1
    obtain ⟨b', o', e, hc⟩ := vN_get h hki
    injection e with e
    injection e with e1 e2
    subst e1; subst e2
    have hv : vN vs i = q := by unfold vN; rw [List.getD_eq_getElem?_getD, hq]; rfl
    rw [hv] at hc
    rw [Addr.add_lit]; exact hc
  · cases hq
theorem rs_ptr {S : Nat → Prop} {w : World} : ∀ {rs : List RT} {vs : List Value}, RsAt S w rs vs → ∀ u ∈ vs, u.oneCell' = true
  | [], vs, h, u, hu => by unfold RsAt at h; subst h; cases hu
  | r :: rs, vs, h, u, hu => by
    unfold RsAt at h
    obtain ⟨x, us, rfl, h1, h2⟩ := h
    rcases List.mem_cons.1 hu with rfl | hu
    · obtain ⟨b, rfl⟩ := rat_ptr h1; rfl
    · exact rs_ptr h2 u hu
theorem quiet_of {P : Program} {f : FuncId} {args : Array Value} {w : World} {m n : Nat} {v : Value} (h : Calls P f args (w.drewN (m + n)) fun e w' => e = .returned v ∧ w.drewN (m + n) = w') : Calls P f args (w.drewN (m + n)) fun e w'' => e = .returned v ∧ ∃ q, w'' = w.drewN (m + q) :=
  h.mono fun _ _ ⟨h1, h2⟩ => ⟨h1, n, h2.symm⟩
def OdPost (w : World) (r : RT) (e : Ending) (w' : World) : Prop := Up w w' ∧ ∃ u, e = .returned u ∧ RAt (fun b => w.heap.size ≤ b) w' (ordR r) u
set_option maxRecDepth 100000 in
set_option maxHeartbeats 4000000 in
theorem ordered_t (S : Nat → Prop) : ∀ (d : Nat) (r : RT), sizeR r ≤ d → d ≤ 90000 → ∀ (w : World) (v : Value), RAt S w r v → Calls Tryz.prog 111 #[v] w (OdPost w r) := by
  intro d
  induction d with
  | zero => intro r hr; have := sizeR_pos r; omega
  | succ d ih =>
  intro r hr hd w v hv
  cases r with
  | node nm ks =>
    have hv0 := hv
    obtain ⟨xb, kp, kc, vs, rfl, hS, c0, c1, hk, hs⟩ := hv.open
    simp only [RT.nm, RT.kids] at c0 c1 hk hs
    have hkl := len_sizeRs ks
    rw [sizeR] at hr
    have hal := Up.alloc w (.cells #[.string nm, .slice none 0 0] 123)
    have HW0 := Lib.hid (Wip.start w (Nat.le_refl _) nm)
    have HC1 := Lib.hid c1
    have HK := Lib.hid hk
    have HR := Lib.hid hs
    have HIH : Hid (∀ j, j < ks.length → ∀ W, Up w W → Calls Tryz.prog 111 #[vN vs j] W (OdPost W (gr ks j))) := fun j hj W hW => by
      have h1 := gr_size hj
      exact ih (gr ks j) (by omega) (by omega) W _ (RAt.keep (hW.kept S) _ (RsAt.get ks hs j hj))
    have HLX : Hid (∀ j, j < ks.length → ∀ W, Up w W → Calls Tryz.prog 176 #[vN vs j] W fun e w' => e = .returned (.string (lstR (gr ks j))) ∧ W = w') := fun j hj W hW => by
      have h1 := gr_size hj
      exact rleast_t S (sizeR (gr ks j)) _ (Nat.le_refl _) (by omega) W _ (RAt.keep (hW.kept S) _ (RsAt.get ks hs j hj))
    have HU := Lib.hid hal
    have HKL : Hid (ks.length ≤ 90000) := by unfold Hid; omega
    have HSR : Hid (sizeRs ks ≤ 90000) := by unfold Hid; omega
    clear ih hv hv0 hal hk hs hr hkl hS
    go_enter Tryz.func111, Tryz.ntmps111
    go_wp2_with fail
    clear c0 c1
    go_loopw [4, 5] (fun i _ wr => ∃ (j : Nat) (kv : Value), j ≤ ks.length ∧ i = .int .i64 j ∧ Hid (Wip w.heap.size w.heap.size wr nm kv (ordRs [] (ks.take j))) ∧ Hid (Up w wr)) (fun i _ _ => ks.length - (intOf i).toNat)
    case atStart => exact ⟨0, _, Nat.zero_le _, rfl, by rw [List.take_zero, ordRs]; exact HW0.out, HU.out⟩
    case round =>
      obtain ⟨j, kv, hj, rfl, hW, hUr⟩ := hrel
      obtain ⟨wo, rfl⟩ : ∃ wo : World, wo = wr := ⟨_, rfl⟩
      have x1 := hUr.out.cell HC1.out
      by_cases hlt : j < ks.length
      · obtain ⟨acc, hacc⟩ : ∃ acc, acc = ordRs [] (ks.take j) := ⟨_, rfl⟩
        have HT : Hid (ordRs [] (ks.take (j + 1)) = insO (lstR (gr ks j)) (ordR (gr ks j)) acc) := by rw [hacc]; exact ordRs_take hlt
        have hal2 : acc.length ≤ 90000 := by
          rw [hacc, ordRs_len, List.length_take]; have := HKL.out; simp; omega
        have hsa : sizeRs acc ≤ 90000 := by
          rw [hacc, sizeRs_ord]; have := sizeRs_take ks j; have := HSR.out; simp [sizeRs]; omega
        rw [← hacc] at hW
        obtain ⟨avs, ho, hra⟩ := hW.out.kids
        have hcw := hW.out.cells
        have hlen := RsAt.len acc hra
        have hsl := ho.slAt
        rw [hlen] at hsl
        obtain ⟨ap, ac, rfl, hac, _⟩ := SlAt.open hsl
        have hy1 := hcw.2.1
        obtain ⟨kb, ko, rfl, hkc⟩ := vN_get (HK.out.keep (hUr.out.kept _)) hlt
        have HLA : Hid (∀ k, k < acc.length → ∀ W, Up wo W → Calls Tryz.prog 176 #[vN avs k] W fun e w' => e = .returned (.string (lstR (gr acc k))) ∧ W = w') := fun k hk W hWW => by
          have h1 := gr_size hk
          exact rleast_t _ (sizeR (gr acc k)) _ (Nat.le_refl _) (by omega) W _ (RAt.keep (hWW.kept _) _ (RsAt.get acc hra k hk))
        have HLB : Hid (∀ W, Up wo W → Calls Tryz.prog 176 #[vN vs j] W fun e w' => e = .returned (.string (lstR (gr ks j))) ∧ W = w') := fun W hWW => HLX.out j hlt W (hUr.out.trans hWW)
        have HOC := Lib.hid (HIH.out j hlt)
        have HY1 := Lib.hid hy1
        have HX1 := Lib.hid x1
        have HKC := Lib.hid hkc
        have HSL := Lib.hid hsl
        have HWW := Lib.hid hW.out
        have HUW := Lib.hid hUr.out
        have HLT := Lib.hid hlt
        have HRA := Lib.hid hra
        have HHO := Lib.hid ho
        have HLE := Lib.hid hlen
        have i1 : (0 : Int) ≤ (j : Int) := by omega
        have i2 : (j : Int) < (ks.length : Int) := by omega
        have i3 : (j : Int) < 90000 := by have := HKL.out; omega
        clear hacc hsa hra ho hcw hlen hsl hW hUr hlt hj
        generalize vN vs j = xv at *
        generalize hs : lstR (gr ks j) = s at *
        generalize hoc : ordR (gr ks j) = oc at *
        go_wp2_with fail
        go_loopw [5] (fun q wr => ∃ k m : Nat, k ≤ acc.length ∧ q = .int .i64 k ∧ wr = wo.drewN m ∧ Hid (∀ i, i < k → lsB (lstR (gr acc i)) s = true)) (fun q _ => acc.length - (intOf q).toNat)
        case atStart => exact ⟨0, 0, Nat.zero_le _, rfl, rfl, fun i hi => absurd hi (Nat.not_lt_zero _)⟩
        case round =>
          obtain ⟨k, m, hk, rfl, rfl, hlo⟩ := hrel
          by_cases hkt : k < acc.length
          · obtain ⟨yb, yo, rfl, hyc⟩ := vN_get HSL.out hkt
            have HM1 := Lib.hid (fun n => quiet_of (m := m) (n := n) (HLA.out k hkt _ (Up.drewN wo _)))
            have HM2 := Lib.hid (fun n => quiet_of (m := m) (n := n) (HLB.out _ (Up.drewN wo _)))
            have k1 : (0 : Int) ≤ (k : Int) := by omega
            have k2 : (k : Int) < (acc.length : Int) := by omega
            have k3 : (k : Int) < 90000 := by omega
            have dk : decide ((k : Int) < (acc.length : Int)) = true := by simp; omega
            have dn : decide (k < acc.length) = true := by simp; omega
            have HKT := Lib.hid hkt
            generalize vN avs k = yv at *
            cases hls : lsB (lstR (gr acc k)) s
            · have hbl : Op.bytesLess (lstR (gr acc k)).toList s.toList = false := hls
              have HLS := Lib.hid hls
              clear hls hk
              generalize hs1 : lstR (gr acc k) = s1 at *
              go_wp2_with fail
              go_big_quiet (first | with_reducible exact HM1.out _ | with_reducible exact HM2.out _)
              go_wp2_with fail
              have HZ : Hid (Up wo ((wo.drewN m).drewN nq)) := (Up.drewN _ _).trans (Up.drewN _ _)
              have HPOS : Hid (posK s acc = k) := posK_of (by have := HKT.out; omega) hlo.out (fun _ => by rw [hs1]; exact HLS.out)
              have hkle : k ≤ acc.length := Nat.le_of_lt HKT.out
              generalize (wo.drewN m).drewN nq = wz at *
              have hy1z := HZ.out.cell HY1.out
              have hx1z := HZ.out.cell HX1.out
              have hkcz := HZ.out.cell HKC.out
              have g1 : (0 : Int) ≤ (k : Int) := by omega
              have g2 : (k : Int) ≤ (acc.length : Int) := by omega
              have g3 : (k : Int) ≤ (ac : Int) := by omega
              have HKD : Hid (∀ W, Up wz W → W.cell? ⟨w.heap.size, 1, none⟩ = some (.slice (some ⟨yb, yo, none⟩) acc.length ac) ∧ W.cell? ⟨xb, 1, none⟩ = some (.slice (some ⟨kb, ko, none⟩) ks.length kc) ∧ W.cell? ⟨kb, ko + j, none⟩ = some xv) := fun W hW => ⟨hW.cell hy1z, hW.cell hx1z, hW.cell hkcz⟩
              refine region_T (by kernel_rfl) 28 (fun w' => w'.cell? ⟨w.heap.size, 1, none⟩ = some (.slice (some ⟨yb, yo, none⟩) acc.length ac) ∧ w'.cell? ⟨xb, 1, none⟩ = some (.slice (some ⟨kb, ko, none⟩) ks.length kc) ∧ w'.cell? ⟨kb, ko + j, none⟩ = some xv) (HKD.out _ (drew_up wz)) (fun hS => ?_)
              simp only [List.size_toArray, List.length_cons, List.length_nil, Nat.reduceAdd, Array.replicate_succ, Array.replicate_zero, List.push_toArray, List.nil_append, List.cons_append]
              refine anyT.take (i := 0) (v := ?gv0k1) rfl (by kernel_rfl) (fun _ _ _ h => h) (by rfl) (fun w hSw => ?gy0k1) hS ?gr0k1
              case gy0k1 =>
                (try dsimp only at hSw)
                go_simp
                try with_reducible rfl
              try simp only [Act.put, List.setIfInBounds_toArray, List.set_cons_zero, List.set_cons_succ]
              refine anyT.take (i := 1) (v := ?gv1k1) rfl (by kernel_rfl) (fun _ _ _ h => h) (by rfl) (fun w hSw => ?gy1k1) hS ?gr1k1
              case gy1k1 =>
                (try dsimp only at hSw)
                go_simp
                try with_reducible rfl
              try simp only [Act.put, List.setIfInBounds_toArray, List.set_cons_zero, List.set_cons_succ]
              refine anyT.take (i := 2) (v := ?gv2k1) rfl (by kernel_rfl) (fun _ _ _ h => h) (by rfl) (fun w hSw => ?gy2k1) hS ?gr2k1
              case gy2k1 =>
                (try dsimp only at hSw)
                go_simp
                try with_reducible rfl
              try simp only [Act.put, List.setIfInBounds_toArray, List.set_cons_zero, List.set_cons_succ]
              refine anyT.take (i := 3) (v := ?gv3k1) rfl (by kernel_rfl) (fun _ _ _ h => h) (by rfl) (fun w hSw => ?gy3k1) hS ?gr3k1
              case gy3k1 =>
                (try dsimp only at hSw)
                go_simp
                try with_reducible rfl
              try simp only [Act.put, List.setIfInBounds_toArray, List.set_cons_zero, List.set_cons_succ]
              refine anyT.take (i := 4) (v := ?gv4k1) rfl (by kernel_rfl) (fun _ _ _ h => h) (by rfl) (fun w hSw => ?gy4k1) hS ?gr4k1
              case gy4k1 =>
                (try dsimp only at hSw)
                go_simp
                try with_reducible rfl
              try simp only [Act.put, List.setIfInBounds_toArray, List.set_cons_zero, List.set_cons_succ]
              refine anyT.take (i := 5) (v := ?gv5k1) rfl (by kernel_rfl) (fun _ _ _ h => h) (by rfl) (fun w hSw => ?gy5k1) hS ?gr5k1
              case gy5k1 =>
                (try dsimp only at hSw)
                go_simp
                try with_reducible rfl
              try simp only [Act.put, List.setIfInBounds_toArray, List.set_cons_zero, List.set_cons_succ]
              refine anyT.take (i := 6) (v := ?gv6k1) rfl (by kernel_rfl) (fun _ _ _ h => h) (by rfl) (fun w hSw => ?gy6k1) hS ?gr6k1
              case gy6k1 =>
                (try dsimp only at hSw)
                go_simp
                try with_reducible rfl
              try simp only [Act.put, List.setIfInBounds_toArray, List.set_cons_zero, List.set_cons_succ]
              refine anyT.take (i := 7) (v := .slice (some ⟨yb, yo, none⟩) k k) rfl (by kernel_rfl) (fun _ _ _ h => h) (by rfl) (fun w hSw => ?gy7a) hS ?gr7a
              case gy7a =>
                (try dsimp only at hSw)
                go_simp
              try simp only [Act.put, List.setIfInBounds_toArray, List.set_cons_zero, List.set_cons_succ]
              refine anyT.take (i := 8) (v := ?gv8k2) rfl (by kernel_rfl) (fun _ _ _ h => h) (by rfl) (fun w hSw => ?gy8k2) hS ?gr8k2
              case gy8k2 =>
                (try dsimp only at hSw)
                go_simp
                try with_reducible rfl
              try simp only [Act.put, List.setIfInBounds_toArray, List.set_cons_zero, List.set_cons_succ]
              refine anyT.take (i := 9) (v := ?gv9k2) rfl (by kernel_rfl) (fun _ _ _ h => h) (by rfl) (fun w hSw => ?gy9k2) hS ?gr9k2
              case gy9k2 =>
                (try dsimp only at hSw)
                go_simp
                try with_reducible rfl
              try simp only [Act.put, List.setIfInBounds_toArray, List.set_cons_zero, List.set_cons_succ]
              refine anyT.take (i := 10) (v := ?gv10k2) rfl (by kernel_rfl) (fun _ _ _ h => h) (by rfl) (fun w hSw => ?gy10k2) hS ?gr10k2
              case gy10k2 =>
                (try dsimp only at hSw)
                go_simp
                try with_reducible rfl
              try simp only [Act.put, List.setIfInBounds_toArray, List.set_cons_zero, List.set_cons_succ]
              refine anyT.take (i := 11) (v := ?gv11k2) rfl (by kernel_rfl) (fun _ _ _ h => h) (by rfl) (fun w hSw => ?gy11k2) hS ?gr11k2
              case gy11k2 =>
                (try dsimp only at hSw)
                go_simp
                try with_reducible rfl
              try simp only [Act.put, List.setIfInBounds_toArray, List.set_cons_zero, List.set_cons_succ]
              refine anyT.take (i := 12) (v := ?gv12k2) rfl (by kernel_rfl) (fun _ _ _ h => h) (by rfl) (fun w hSw => ?gy12k2) hS ?gr12k2
              case gy12k2 =>
                (try dsimp only at hSw)
                go_simp
                try with_reducible rfl
              try simp only [Act.put, List.setIfInBounds_toArray, List.set_cons_zero, List.set_cons_succ]
              refine anyT.take (i := 13) (v := ?gv13k2) rfl (by kernel_rfl) (fun _ _ _ h => h) (by rfl) (fun w hSw => ?gy13k2) hS ?gr13k2
              case gy13k2 =>
                (try dsimp only at hSw)
                go_simp
                try with_reducible rfl
              try simp only [Act.put, List.setIfInBounds_toArray, List.set_cons_zero, List.set_cons_succ]
              refine anyT.take (i := 14) (v := ?gv14k2) rfl (by kernel_rfl) (fun _ _ _ h => h) (by rfl) (fun w hSw => ?gy14k2) hS ?gr14k2
              case gy14k2 =>
                (try dsimp only at hSw)
                go_simp
                try with_reducible rfl
              try simp only [Act.put, List.setIfInBounds_toArray, List.set_cons_zero, List.set_cons_succ]
              refine anyT.take (i := 17) (v := ?gv17k2) rfl (by kernel_rfl) (fun _ _ _ h => h) (by rfl) (fun w hSw => ?gy17k2) hS ?gr17k2
              case gy17k2 =>
                (try dsimp only at hSw)
                go_simp
                try with_reducible rfl
              try simp only [Act.put, List.setIfInBounds_toArray, List.set_cons_zero, List.set_cons_succ]
              refine anyT.take (i := 18) (v := ?gv18k2) rfl (by kernel_rfl) (fun _ _ _ h => h) (by rfl) (fun w hSw => ?gy18k2) hS ?gr18k2
              case gy18k2 =>
                (try dsimp only at hSw)
                go_simp
                try with_reducible rfl
              try simp only [Act.put, List.setIfInBounds_toArray, List.set_cons_zero, List.set_cons_succ]
              refine anyT.take (i := 19) (v := ?gv19k2) rfl (by kernel_rfl) (fun _ _ _ h => h) (by rfl) (fun w hSw => ?gy19k2) hS ?gr19k2
              case gy19k2 =>
                (try dsimp only at hSw)
                go_simp
                try with_reducible rfl
              try simp only [Act.put, List.setIfInBounds_toArray, List.set_cons_zero, List.set_cons_succ]
              refine anyT.take (i := 20) (v := ?gv20k2) rfl (by kernel_rfl) (fun _ _ _ h => h) (by rfl) (fun w hSw => ?gy20k2) hS ?gr20k2
              case gy20k2 =>
                (try dsimp only at hSw)
                go_simp
                try with_reducible rfl
              try simp only [Act.put, List.setIfInBounds_toArray, List.set_cons_zero, List.set_cons_succ]
              refine anyT.take (i := 21) (v := ?gv21k2) rfl (by kernel_rfl) (fun _ _ _ h => h) (by rfl) (fun w hSw => ?gy21k2) hS ?gr21k2
              case gy21k2 =>
                (try dsimp only at hSw)
                go_simp
                try with_reducible rfl
              try simp only [Act.put, List.setIfInBounds_toArray, List.set_cons_zero, List.set_cons_succ]
              refine anyT.take (i := 22) (v := .slice (some ⟨yb, yo + k, none⟩) (acc.length - k) (ac - k)) rfl (by kernel_rfl) (fun _ _ _ h => h) (by rfl) (fun w hSw => ?gy22a) hS ?gr22a
              case gy22a =>
                (try dsimp only at hSw)
                go_simp
                intro e; have := HKT.out; omega
              try simp only [Act.put, List.setIfInBounds_toArray, List.set_cons_zero, List.set_cons_succ]
              refine anyT.step (i := 15) rfl (by kernel_rfl) (fun K' hK => ?_)
              go_simp
              refine (HOC.out _ ((HUW.out.trans HZ.out).trans (drew_up wz))).mono ?_
              rintro e w3 ⟨hu3, u, rfl, hr3⟩
              have hu3 : Up wz.drew w3 := hu3
              obtain ⟨ub, rfl⟩ := rat_ptr hr3
              rw [hoc] at hr3
              have HU3 := Lib.hid ((drew_up wz).trans hu3)
              have HR3 := Lib.hid hr3
              have HAL := Lib.hid (Up.alloc w3 (.cells #[.pointer (some ⟨ub, 0, none⟩)] 120))
              have hdc := drop_cells HSL.out HLE.out HKT.out
              have HDC := Lib.hid fun i q hq => HAL.out.cell (HU3.out.cell (HZ.out.cell (hdc i q hq)))
              have HTC := Lib.hid (take_cells HSL.out HLE.out hkle)
              have HNW : Hid ((w3.alloc (.cells #[.pointer (some ⟨ub, 0, none⟩)] 120)).cell? ⟨w3.heap.size, 0, none⟩ = some (.pointer (some ⟨ub, 0, none⟩))) := box1_0 _ _ _
              have HPT := Lib.hid (rs_ptr HRA.out)
              have HML : Hid (0 < acc.length - k ∧ (avs.drop k).length = acc.length - k ∧ (avs.take k).length = k ∧ acc.length ≤ 90000) := by
                have := HKT.out; have := HLE.out; unfold Hid; rw [List.length_drop, List.length_take]; omega
              clear hu3 hr3 hdc
              refine hK.out _ _ (fun _ => HKD.out _ HU3.out) (fun hS => ?_)
              replace hS := hS ⟨16, by decide, rfl⟩
              try simp only [List.setIfInBounds_toArray, List.set_cons_zero, List.set_cons_succ]
              refine anyT.step (i := 16) rfl (by kernel_rfl) (fun K' hK => ?_)
              go_simp
              refine hK.out _ _ (fun _ => HKD.out _ (HU3.out.trans HAL.out)) (fun hS => ?_)
              replace hS := hS ⟨23, by decide, rfl⟩
              try simp only [List.setIfInBounds_toArray, List.set_cons_zero, List.set_cons_succ]
              refine anyT.step (i := 23) rfl (by kernel_rfl) (fun K' hK => ?_)
              refine step_appF (by rfl) _ _ _ (by rfl) 120 _ 8 Tryz.underlying121 Tryz.infoRN (by rfl) (by decide) (ao := some ⟨w3.heap.size, 0, none⟩) (n := 1) (olds := [.pointer (some ⟨ub, 0, none⟩)]) (by rfl) (fun e => by cases e) rfl ?q1 (ad := ⟨yb, yo + k, none⟩) (m := acc.length - k) (c := ac - k) (news := avs.drop k) (by rfl) HML.out.2.1 (fun i q hq => HDC.out i q hq) ?q2 HML.out.1 (by have := HML.out.2.2.2; omega) ?q3
              case q1 =>
                intro b e i q hq
                injection e with e
                subst e
                cases i with
                | zero =>
                  simp at hq
                  subst hq
                  have e0 : (⟨w3.heap.size, 0, none⟩ : Addr).add 0 = ⟨w3.heap.size, 0, none⟩ := by simp [Addr.add]
                  rw [e0]; exact HNW.out
                | succ i => simp at hq
              case q2 => exact fun q hq => HPT.out q (List.mem_of_mem_drop hq)
              intro g1 c1 w4 ho4 hu4
              have HU4 := Lib.hid (HU3.out.trans (HAL.out.trans hu4))
              have HOC4 := Lib.hid (World.ownsRow.cells ho4 rfl)
              have HV4 := Lib.hid (HAL.out.trans hu4)
              clear ho4 hu4
              refine hK.out _ _ (fun _ => HKD.out _ HU4.out) (fun hS => ?_)
              replace hS := hS ⟨24, by decide, rfl⟩
              try simp only [Act.put, List.setIfInBounds_toArray, List.set_cons_zero, List.set_cons_succ]
              refine anyT.step (i := 24) rfl (by kernel_rfl) (fun K' hK => ?_)
              refine step_appF (by rfl) _ _ _ (by rfl) 120 _ 8 Tryz.underlying121 Tryz.infoRN (by rfl) (by decide) (ao := some ⟨yb, yo, none⟩) (n := k) (olds := avs.take k) (by rfl) (fun e => by cases e) HML.out.2.2.1 ?r1 (ad := ⟨g1, 0, none⟩) (m := 1 + (acc.length - k)) (c := c1) (news := [.pointer (some ⟨ub, 0, none⟩)] ++ avs.drop k) (by rfl) (by rw [List.length_append, HML.out.2.1]; rfl) (fun i q hq => HOC4.out i q hq) ?r2 (by omega) (by have := HML.out.2.2.2; omega) ?r3
              case r1 =>
                intro b e i q hq
                injection e with e
                subst e
                exact HU4.out.cell (HZ.out.cell (HTC.out i q hq))
              case r2 =>
                intro q hq
                rcases List.mem_append.1 hq with h1 | h1
                · obtain rfl : q = .pointer (some ⟨ub, 0, none⟩) := by simpa using h1
                  rfl
                · exact HPT.out q (List.mem_of_mem_drop h1)
              intro g2 c2 w5 ho5 hu5
              have hU5 := (HZ.out.trans HU4.out).trans hu5
              have hr5 : RAt (fun b => wo.heap.size ≤ b ∧ b < w3.heap.size) w5 oc (.pointer (some ⟨ub, 0, none⟩)) := RAt.keep ((HV4.out.trans hu5).kept _) oc (RAt.sub (fun b hb hl => ⟨Nat.le_trans HZ.out.size hb, hl⟩) oc HR3.out)
              have hs3 := HV4.out.size
              have hsw := (HZ.out.trans HU3.out).size
              have hBl := HWW.out.lt
              have HLAY := Lib.hid (HWW.out.lay HRA.out hU5 hsw (fun b hb => by have := (ownBlock_lt ho5 hb).1; omega) hr5 k (ho5.mono_base (by omega)))
              have HIN : Hid (insO s oc acc = acc.take k ++ oc :: acc.drop k) := by unfold Hid insO; rw [HPOS.out]
              have hcw := (HWW.out.up hU5).cells
              have hyf := hcw.2.2.2
              have hyc5 := hcw.2.1
              have HU5 := Lib.hid (HU4.out.trans hu5)
              have HUB : Hid (Up w (w5.setCell ⟨w.heap.size, 1, none⟩ (.slice (some ⟨g2, 0, none⟩) (k + (1 + (acc.length - k))) c2))) := Below.setCell (p := ⟨w.heap.size, 1, none⟩) (HUW.out.trans hU5) (Nat.le_refl _) _
              clear ho5 hu5 hU5 hr5 hs3 hsw hcw
              refine hK.out _ _ (fun _ => HKD.out _ HU5.out) (fun hS => ?_)
              replace hS := hS ⟨27, by decide, rfl⟩
              try simp only [Act.put, List.setIfInBounds_toArray, List.set_cons_zero, List.set_cons_succ]
              refine anyT.take (i := 25) (v := ?gv25k3) rfl (by kernel_rfl) (fun _ _ _ h => h) (by rfl) (fun w hSw => ?gy25k3) hS ?gr25k3
              case gy25k3 =>
                (try dsimp only at hSw)
                go_simp
                try with_reducible rfl
              try simp only [Act.put, List.setIfInBounds_toArray, List.set_cons_zero, List.set_cons_succ]
              refine anyT.take (i := 26) (v := ?gv26k3) rfl (by kernel_rfl) (fun _ _ _ h => h) (by rfl) (fun w hSw => ?gy26k3) hS ?gr26k3
              case gy26k3 =>
                (try dsimp only at hSw)
                go_simp
                try with_reducible rfl
              try simp only [Act.put, List.setIfInBounds_toArray, List.set_cons_zero, List.set_cons_succ]
              refine anyT.step (i := 27) rfl (by kernel_rfl) (fun K' hK => ?_)
              go_simp
              refine hK.out _ _ (not_more (by kernel_rfl)) (fun hS => ?_)
              refine anyT.done (by kernel_rfl) ?_
              go_wp2_with fail
              go_roundw
              case rel => exact ⟨j + 1, _, HLT.out, by go_num, by rw [HT.out, HIN.out]; exact HLAY.out, HUB.out⟩
              case measure => have := HLT.out; simp [intOf]; omega
            · have hbl : Op.bytesLess (lstR (gr acc k)).toList s.toList = true := hls
              have HLS := Lib.hid hls
              clear hls hk
              generalize hs1 : lstR (gr acc k) = s1 at *
              go_wp2_with fail
              go_big_quiet (first | with_reducible exact HM1.out _ | with_reducible exact HM2.out _)
              go_wp2_with fail
              go_roundw
              case rel => exact ⟨k + 1, m + nq, HKT.out, by go_num, rfl, fun i hi => if e : i = k then by subst e; rw [hs1]; exact HLS.out else hlo.out i (by omega)⟩
              case measure => have := HKT.out; simp [intOf]; omega
          · obtain rfl : k = acc.length := by omega
            have dk : decide ((acc.length : Int) < (acc.length : Int)) = false := by simp
            have dn : decide (acc.length < acc.length) = false := by simp
            go_wp2_with fail
            go_big_quiet (fail)
            go_wp2_with fail
            have HZ : Hid (Up wo ((wo.drewN m).drewN nq)) := (Up.drewN _ _).trans (Up.drewN _ _)
            have HPOS : Hid (posK s acc = acc.length) := posK_of (Nat.le_refl _) hlo.out (fun h => absurd h (Nat.lt_irrefl _))
            generalize (wo.drewN m).drewN nq = wz at *
            have hy1z := HZ.out.cell HY1.out
            have hx1z := HZ.out.cell HX1.out
            have hkcz := HZ.out.cell HKC.out
            have g1 : (0 : Int) ≤ (acc.length : Int) := by omega
            have g2 : (acc.length : Int) ≤ (acc.length : Int) := by omega
            have g3 : (acc.length : Int) ≤ (ac : Int) := by omega
            have HKD : Hid (∀ W, Up wz W → W.cell? ⟨w.heap.size, 1, none⟩ = some (.slice ap acc.length ac) ∧ W.cell? ⟨xb, 1, none⟩ = some (.slice (some ⟨kb, ko, none⟩) ks.length kc) ∧ W.cell? ⟨kb, ko + j, none⟩ = some xv) := fun W hW => ⟨hW.cell hy1z, hW.cell hx1z, hW.cell hkcz⟩
            refine region_T (by kernel_rfl) 28 (fun w' => w'.cell? ⟨w.heap.size, 1, none⟩ = some (.slice ap acc.length ac) ∧ w'.cell? ⟨xb, 1, none⟩ = some (.slice (some ⟨kb, ko, none⟩) ks.length kc) ∧ w'.cell? ⟨kb, ko + j, none⟩ = some xv) (HKD.out _ (drew_up wz)) (fun hS => ?_)
            simp only [List.size_toArray, List.length_cons, List.length_nil, Nat.reduceAdd, Array.replicate_succ, Array.replicate_zero, List.push_toArray, List.nil_append, List.cons_append]
            refine anyT.take (i := 0) (v := ?gv0k4) rfl (by kernel_rfl) (fun _ _ _ h => h) (by rfl) (fun w hSw => ?gy0k4) hS ?gr0k4
            case gy0k4 =>
              (try dsimp only at hSw)
              go_simp
              try with_reducible rfl
            try simp only [Act.put, List.setIfInBounds_toArray, List.set_cons_zero, List.set_cons_succ]
            refine anyT.take (i := 1) (v := ?gv1k4) rfl (by kernel_rfl) (fun _ _ _ h => h) (by rfl) (fun w hSw => ?gy1k4) hS ?gr1k4
            case gy1k4 =>
              (try dsimp only at hSw)
              go_simp
              try with_reducible rfl
            try simp only [Act.put, List.setIfInBounds_toArray, List.set_cons_zero, List.set_cons_succ]
            refine anyT.take (i := 2) (v := ?gv2k4) rfl (by kernel_rfl) (fun _ _ _ h => h) (by rfl) (fun w hSw => ?gy2k4) hS ?gr2k4
            case gy2k4 =>
              (try dsimp only at hSw)
              go_simp
              try with_reducible rfl
            try simp only [Act.put, List.setIfInBounds_toArray, List.set_cons_zero, List.set_cons_succ]
            refine anyT.take (i := 3) (v := ?gv3k4) rfl (by kernel_rfl) (fun _ _ _ h => h) (by rfl) (fun w hSw => ?gy3k4) hS ?gr3k4
            case gy3k4 =>
              (try dsimp only at hSw)
              go_simp
              try with_reducible rfl
            try simp only [Act.put, List.setIfInBounds_toArray, List.set_cons_zero, List.set_cons_succ]
            refine anyT.take (i := 4) (v := ?gv4k4) rfl (by kernel_rfl) (fun _ _ _ h => h) (by rfl) (fun w hSw => ?gy4k4) hS ?gr4k4
            case gy4k4 =>
              (try dsimp only at hSw)
              go_simp
              try with_reducible rfl
            try simp only [Act.put, List.setIfInBounds_toArray, List.set_cons_zero, List.set_cons_succ]
            refine anyT.take (i := 5) (v := ?gv5k4) rfl (by kernel_rfl) (fun _ _ _ h => h) (by rfl) (fun w hSw => ?gy5k4) hS ?gr5k4
            case gy5k4 =>
              (try dsimp only at hSw)
              go_simp
              try with_reducible rfl
            try simp only [Act.put, List.setIfInBounds_toArray, List.set_cons_zero, List.set_cons_succ]
            refine anyT.take (i := 6) (v := ?gv6k4) rfl (by kernel_rfl) (fun _ _ _ h => h) (by rfl) (fun w hSw => ?gy6k4) hS ?gr6k4
            case gy6k4 =>
              (try dsimp only at hSw)
              go_simp
              try with_reducible rfl
            try simp only [Act.put, List.setIfInBounds_toArray, List.set_cons_zero, List.set_cons_succ]
            refine anyT.take (i := 7) (v := .slice ap acc.length acc.length) rfl (by kernel_rfl) (fun _ _ _ h => h) (by rfl) (fun w hSw => ?gy7b) hS ?gr7b
            case gy7b =>
              (try dsimp only at hSw)
              go_simp
            try simp only [Act.put, List.setIfInBounds_toArray, List.set_cons_zero, List.set_cons_succ]
            refine anyT.take (i := 8) (v := ?gv8k5) rfl (by kernel_rfl) (fun _ _ _ h => h) (by rfl) (fun w hSw => ?gy8k5) hS ?gr8k5
            case gy8k5 =>
              (try dsimp only at hSw)
              go_simp
              try with_reducible rfl
            try simp only [Act.put, List.setIfInBounds_toArray, List.set_cons_zero, List.set_cons_succ]
            refine anyT.take (i := 9) (v := ?gv9k5) rfl (by kernel_rfl) (fun _ _ _ h => h) (by rfl) (fun w hSw => ?gy9k5) hS ?gr9k5
            case gy9k5 =>
              (try dsimp only at hSw)
              go_simp
              try with_reducible rfl
            try simp only [Act.put, List.setIfInBounds_toArray, List.set_cons_zero, List.set_cons_succ]
            refine anyT.take (i := 10) (v := ?gv10k5) rfl (by kernel_rfl) (fun _ _ _ h => h) (by rfl) (fun w hSw => ?gy10k5) hS ?gr10k5
            case gy10k5 =>
              (try dsimp only at hSw)
              go_simp
              try with_reducible rfl
            try simp only [Act.put, List.setIfInBounds_toArray, List.set_cons_zero, List.set_cons_succ]
            refine anyT.take (i := 11) (v := ?gv11k5) rfl (by kernel_rfl) (fun _ _ _ h => h) (by rfl) (fun w hSw => ?gy11k5) hS ?gr11k5
            case gy11k5 =>
              (try dsimp only at hSw)
              go_simp
              try with_reducible rfl
            try simp only [Act.put, List.setIfInBounds_toArray, List.set_cons_zero, List.set_cons_succ]
            refine anyT.take (i := 12) (v := ?gv12k5) rfl (by kernel_rfl) (fun _ _ _ h => h) (by rfl) (fun w hSw => ?gy12k5) hS ?gr12k5
            case gy12k5 =>
              (try dsimp only at hSw)
              go_simp
              try with_reducible rfl
            try simp only [Act.put, List.setIfInBounds_toArray, List.set_cons_zero, List.set_cons_succ]
            refine anyT.take (i := 13) (v := ?gv13k5) rfl (by kernel_rfl) (fun _ _ _ h => h) (by rfl) (fun w hSw => ?gy13k5) hS ?gr13k5
            case gy13k5 =>
              (try dsimp only at hSw)
              go_simp
              try with_reducible rfl
            try simp only [Act.put, List.setIfInBounds_toArray, List.set_cons_zero, List.set_cons_succ]
            refine anyT.take (i := 14) (v := ?gv14k5) rfl (by kernel_rfl) (fun _ _ _ h => h) (by rfl) (fun w hSw => ?gy14k5) hS ?gr14k5
            case gy14k5 =>
              (try dsimp only at hSw)
              go_simp
              try with_reducible rfl
            try simp only [Act.put, List.setIfInBounds_toArray, List.set_cons_zero, List.set_cons_succ]
            refine anyT.take (i := 17) (v := ?gv17k5) rfl (by kernel_rfl) (fun _ _ _ h => h) (by rfl) (fun w hSw => ?gy17k5) hS ?gr17k5
            case gy17k5 =>
              (try dsimp only at hSw)
              go_simp
              try with_reducible rfl
            try simp only [Act.put, List.setIfInBounds_toArray, List.set_cons_zero, List.set_cons_succ]
            refine anyT.take (i := 18) (v := ?gv18k5) rfl (by kernel_rfl) (fun _ _ _ h => h) (by rfl) (fun w hSw => ?gy18k5) hS ?gr18k5
            case gy18k5 =>
              (try dsimp only at hSw)
              go_simp
              try with_reducible rfl
            try simp only [Act.put, List.setIfInBounds_toArray, List.set_cons_zero, List.set_cons_succ]
            refine anyT.take (i := 19) (v := ?gv19k5) rfl (by kernel_rfl) (fun _ _ _ h => h) (by rfl) (fun w hSw => ?gy19k5) hS ?gr19k5
            case gy19k5 =>
              (try dsimp only at hSw)
              go_simp
              try with_reducible rfl
            try simp only [Act.put, List.setIfInBounds_toArray, List.set_cons_zero, List.set_cons_succ]
            refine anyT.take (i := 20) (v := ?gv20k5) rfl (by kernel_rfl) (fun _ _ _ h => h) (by rfl) (fun w hSw => ?gy20k5) hS ?gr20k5
            case gy20k5 =>
              (try dsimp only at hSw)
              go_simp
              try with_reducible rfl
            try simp only [Act.put, List.setIfInBounds_toArray, List.set_cons_zero, List.set_cons_succ]
            refine anyT.take (i := 21) (v := ?gv21k5) rfl (by kernel_rfl) (fun _ _ _ h => h) (by rfl) (fun w hSw => ?gy21k5) hS ?gr21k5
            case gy21k5 =>
              (try dsimp only at hSw)
              go_simp
              try with_reducible rfl
            try simp only [Act.put, List.setIfInBounds_toArray, List.set_cons_zero, List.set_cons_succ]
            refine anyT.take (i := 22) (v := .slice (sEnd ap acc.length ac) 0 (ac - acc.length)) rfl (by kernel_rfl) (fun _ _ _ h => h) (by rfl) (fun w hSw => ?gy22b) hS ?gr22b
            case gy22b =>
              (try dsimp only at hSw)
              go_simp
              try (unfold sEnd; simp)
            try simp only [Act.put, List.setIfInBounds_toArray, List.set_cons_zero, List.set_cons_succ]
            refine anyT.step (i := 15) rfl (by kernel_rfl) (fun K' hK => ?_)
            go_simp
            refine (HOC.out _ ((HUW.out.trans HZ.out).trans (drew_up wz))).mono ?_
            rintro e w3 ⟨hu3, u, rfl, hr3⟩
            have hu3 : Up wz.drew w3 := hu3
            obtain ⟨ub, rfl⟩ := rat_ptr hr3
            rw [hoc] at hr3
            have HU3 := Lib.hid ((drew_up wz).trans hu3)
            have HR3 := Lib.hid hr3
            have HAL := Lib.hid (Up.alloc w3 (.cells #[.pointer (some ⟨ub, 0, none⟩)] 120))
            have HTC := Lib.hid (all_cells HSL.out HLE.out)
            have HNW : Hid ((w3.alloc (.cells #[.pointer (some ⟨ub, 0, none⟩)] 120)).cell? ⟨w3.heap.size, 0, none⟩ = some (.pointer (some ⟨ub, 0, none⟩))) := box1_0 _ _ _
            have HPT := Lib.hid (rs_ptr HRA.out)
            have HML : Hid (avs.length = acc.length ∧ acc.length ≤ 90000) := ⟨HLE.out, hal2⟩
            clear hu3 hr3
            refine hK.out _ _ (fun _ => HKD.out _ HU3.out) (fun hS => ?_)
            replace hS := hS ⟨16, by decide, rfl⟩
            try simp only [List.setIfInBounds_toArray, List.set_cons_zero, List.set_cons_succ]
            refine anyT.step (i := 16) rfl (by kernel_rfl) (fun K' hK => ?_)
            go_simp
            refine hK.out _ _ (fun _ => HKD.out _ (HU3.out.trans HAL.out)) (fun hS => ?_)
            replace hS := hS ⟨23, by decide, rfl⟩
            try simp only [List.setIfInBounds_toArray, List.set_cons_zero, List.set_cons_succ]
            refine anyT.step (i := 23) rfl (by kernel_rfl) (fun K' hK => ?_)
            refine step_app0 (by rfl) _ _ _ (by rfl) 120 _ 8 Tryz.underlying121 Tryz.infoRN (ao := some ⟨w3.heap.size, 0, none⟩) (n := 1) (c := 1) (by rfl) (Nat.le_refl _) (ad := sEnd ap acc.length ac) (c2 := ac - acc.length) (by rfl) ?_
            refine hK.out _ _ (fun _ => HKD.out _ (HU3.out.trans HAL.out)) (fun hS => ?_)
            replace hS := hS ⟨24, by decide, rfl⟩
            try simp only [Act.put, List.setIfInBounds_toArray, List.set_cons_zero, List.set_cons_succ]
            refine anyT.step (i := 24) rfl (by kernel_rfl) (fun K' hK => ?_)
            refine step_appF (by rfl) _ _ _ (by rfl) 120 _ 8 Tryz.underlying121 Tryz.infoRN (by rfl) (by decide) (ao := ap) (n := acc.length) (olds := avs) (by rfl) (all_none HSL.out) HML.out.1 ?p1 (ad := ⟨w3.heap.size, 0, none⟩) (m := 1) (c := 1) (news := [.pointer (some ⟨ub, 0, none⟩)]) (by rfl) rfl ?p2 ?p4 (by omega) (by have := HML.out.2; omega) ?p3
            case p1 => exact fun b e i q hq => HAL.out.cell (HU3.out.cell (HZ.out.cell (HTC.out b e i q hq)))
            case p2 =>
              intro i q hq
              cases i with
              | zero =>
                simp at hq
                subst hq
                have e0 : (⟨w3.heap.size, 0, none⟩ : Addr).add 0 = ⟨w3.heap.size, 0, none⟩ := by simp [Addr.add]
                rw [e0]; exact HNW.out
              | succ i => simp at hq
            case p4 =>
              intro q hq
              obtain rfl : q = .pointer (some ⟨ub, 0, none⟩) := by simpa using hq
              rfl
            intro g2 c2 w5 ho5 hu5
            have hU5 := (HZ.out.trans (HU3.out.trans HAL.out)).trans hu5
            have hr5 : RAt (fun b => wo.heap.size ≤ b ∧ b < w3.heap.size) w5 oc (.pointer (some ⟨ub, 0, none⟩)) := RAt.keep ((HAL.out.trans hu5).kept _) oc (RAt.sub (fun b hb hl => ⟨Nat.le_trans HZ.out.size hb, hl⟩) oc HR3.out)
            have hs3 := HAL.out.size
            have hsw := (HZ.out.trans HU3.out).size
            have hBl := HWW.out.lt
            have HLAY := Lib.hid (HWW.out.lay HRA.out hU5 hsw (fun b hb => by have := (ownBlock_lt ho5 hb).1; omega) hr5 acc.length (by rw [List.take_of_length_le (by rw [HML.out.1]; exact Nat.le_refl _), List.drop_of_length_le (by rw [HML.out.1]; exact Nat.le_refl _)]; exact ho5.mono_base (by omega)))
            have HIN : Hid (insO s oc acc = acc.take acc.length ++ oc :: acc.drop acc.length) := by unfold Hid insO; rw [HPOS.out]
            have hcw := (HWW.out.up hU5).cells
            have hyf := hcw.2.2.2
            have hyc5 := hcw.2.1
            have HU5 := Lib.hid ((HU3.out.trans HAL.out).trans hu5)
            have HUB : Hid (Up w (w5.setCell ⟨w.heap.size, 1, none⟩ (.slice (some ⟨g2, 0, none⟩) (acc.length + 1) c2))) := Below.setCell (p := ⟨w.heap.size, 1, none⟩) (HUW.out.trans hU5) (Nat.le_refl _) _
            clear ho5 hu5 hU5 hr5 hs3 hsw hcw
            refine hK.out _ _ (fun _ => HKD.out _ HU5.out) (fun hS => ?_)
            replace hS := hS ⟨27, by decide, rfl⟩
            try simp only [Act.put, List.setIfInBounds_toArray, List.set_cons_zero, List.set_cons_succ]
            refine anyT.take (i := 25) (v := ?gv25k6) rfl (by kernel_rfl) (fun _ _ _ h => h) (by rfl) (fun w hSw => ?gy25k6) hS ?gr25k6
            case gy25k6 =>
              (try dsimp only at hSw)
              go_simp
              try with_reducible rfl
            try simp only [Act.put, List.setIfInBounds_toArray, List.set_cons_zero, List.set_cons_succ]
            refine anyT.take (i := 26) (v := ?gv26k6) rfl (by kernel_rfl) (fun _ _ _ h => h) (by rfl) (fun w hSw => ?gy26k6) hS ?gr26k6
            case gy26k6 =>
              (try dsimp only at hSw)
              go_simp
              try with_reducible rfl
            try simp only [Act.put, List.setIfInBounds_toArray, List.set_cons_zero, List.set_cons_succ]
            refine anyT.step (i := 27) rfl (by kernel_rfl) (fun K' hK => ?_)
            go_simp
            refine hK.out _ _ (not_more (by kernel_rfl)) (fun hS => ?_)
            refine anyT.done (by kernel_rfl) ?_
            go_wp2_with fail
            go_roundw
            case rel => exact ⟨j + 1, _, HLT.out, by go_num, by rw [HT.out, HIN.out]; exact HLAY.out, HUB.out⟩
            case measure => have := HLT.out; simp [intOf]; omega
      · obtain rfl : j = ks.length := by omega
        have HD := Lib.hid hW.out.done
        have HUF := Lib.hid hUr.out
        clear hW hUr hlt hj
        go_wp2_with fail
        go_ret
        refine ⟨HUF.out, _, rfl, ?_⟩
        have h := HD.out
        rw [List.take_length] at h
        rw [ordR]; exact h
end Go.Proofs.YtpjijbophjdgaaaGreat
