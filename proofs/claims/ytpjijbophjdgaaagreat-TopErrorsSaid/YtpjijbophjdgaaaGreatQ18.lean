/- The walk of sharederror.Groups. -/
import Derived.Test.YtpjijbophjdgaaaGreatQ15
namespace Go.Proofs.YtpjijbophjdgaaaGreat
open Go.RowKit Go.Deep
theorem agRow_len {xs : List (List Int)} (h : agErr xs = 0) {k : Nat} (hk : k < xs.length) : (gl xs k).length = (gl xs 0).length := by
  unfold agErr at h
  split at h
  · cases h
  · split at h
    · cases h
    · have h1 := firstNZ_eq_zero h k hk
      unfold agRow at h1
      split at h1
      · cases h1
      · rename_i h2
        exact Classical.not_not.1 h2
theorem stK_len (xs : List (List Int)) (og : List Int) (u s : Nat) : (stK xs og u s).length ≤ s := by
  induction s with
  | zero => exact Nat.le_refl _
  | succ s ih =>
    rw [stK_succ, List.length_append]
    have : (grp1 xs og u s).length ≤ 1 := by unfold grp1; split <;> simp
    omega
theorem unK_len (xs : List (List Int)) (og : List Int) (k : Nat) : (unK xs og k).length ≤ k * 16 := by
  induction k with
  | zero => exact Nat.le_refl _
  | succ k ih =>
    rw [unK_succ, List.length_append]
    have : (unG xs og k).length ≤ 16 := by
      unfold unG
      split
      · exact Nat.zero_le _
      · exact stK_len xs og k 16
    omega
def GrW (wS wr : World) (u s : Int) (l : List Int) : Prop :=
  Up wS wr ∧ ∃ sv, wr.heap[wS.heap.size]? = some (Obj.cells #[.int .i64 u, .int .i64 s, sv] 37 (0, 0)) ∧ Owns (wS.heap.size + 1) 3 wr sv (l.map (Value.int .i64)) ∧ wS.heap.size + 1 ≤ wr.heap.size
theorem GrW.cells {wS wr : World} {u s : Int} {l : List Int} (h : GrW wS wr u s l) : ∃ sv, wr.cell? ⟨wS.heap.size, 0, none⟩ = some (.int .i64 u) ∧ wr.cell? ⟨wS.heap.size, 1, none⟩ = some (.int .i64 s) ∧ wr.cell? ⟨wS.heap.size, 2, none⟩ = some sv ∧ Owns (wS.heap.size + 1) 3 wr sv (l.map (Value.int .i64)) ∧ wS.heap.size + 1 ≤ wr.heap.size := by
  obtain ⟨_, sv, hc, ho, hs⟩ := h
  refine ⟨sv, ?_, ?_, ?_, ho, hs⟩ <;> simp [World.cell?, hc]
theorem GrW.app {wS wr w8 : World} {u s x : Int} {l : List Int} (h : GrW wS wr u s l) {v : Value} (ho : Owns (wS.heap.size + 1) 3 w8 v (l.map (Value.int .i64) ++ [.int .i64 x])) (hb : Below (wS.heap.size + 1) wr w8) :
    (∃ c, w8.cell? ⟨wS.heap.size, 2, none⟩ = some c) ∧ w8.frozen? ⟨wS.heap.size, 2, none⟩ = false ∧ GrW wS (w8.setCell ⟨wS.heap.size, 2, none⟩ v) u s (l ++ [x]) := by
  obtain ⟨hu, sv, hc, _, hs⟩ := h
  have hc8 : w8.heap[wS.heap.size]? = some (Obj.cells #[.int .i64 u, .int .i64 s, sv] 37 (0, 0)) := (hb.block _ (Nat.lt_succ_self _)).trans hc
  refine ⟨⟨sv, by simp [World.cell?, hc8]⟩, by simp [World.frozen?, hc8], ?_, v, ?_, ?_, ?_⟩
  · exact Below.setCell (p := ⟨wS.heap.size, 2, none⟩) (Below.trans hu (Below.mono hb (Nat.le_succ _))) (Nat.le_refl _) _
  · simp [World.setCell, Array.getElem?_modify, hc8]
  · rw [List.map_append]
    exact ho.kept fun b hb2 _ => Below.heap_setCell w8 _ _ b (by simp only; omega)
  · rw [World.size_setCell]; exact Nat.le_trans hs hb.size
def GrPost (w : World) (xs : List (List Int)) (og : List Int) (e : Ending) (w' : World) : Prop :=
  Up w w' ∧ ∃ v, e = .returned (.tuple #[v, .int .i64 (grErr xs og)]) ∧ GrpsAt Any w' v (groupsN xs og)
set_option maxRecDepth 100000 in
set_option maxHeartbeats 2000000 in
theorem groups_t (S : Nat → Prop) (w : World) (v vo : Value) (xs : List (List Int)) (og : List Int) (h : RowsAt S w v xs) (ho : IntsAt S w vo og) (hn : xs.length ≤ 1000000) (hr : ∀ k, (gl xs k).length ≤ 1000000) (hon : og.length ≤ 1000000) :
    Calls Tryz.prog 12 #[v, vo] w (GrPost w xs og) := by
  have HAC := Lib.hid (agcheck_t S w v xs h hn hr)
  obtain ⟨p, cap, rfl, hcap, _⟩ := rows_open h
  obtain ⟨po, co, rfl, hco, _⟩ := SlAt.open ho
  have ho : IntsAt S w (.slice po og.length co) og := ho
  have H := Lib.hid h
  have HO := Lib.hid ho
  have HCO := Lib.hid (ints_has_t 66 #[] (enters_of Tryz.func66 (by kernel_rfl) rfl) S w _ og.length _ (fun j => decide (gi og j < -1) || decide (16 ≤ gi og j)) ho hon (fun j _ => groups1_t w (gi og j)))
  have HGE : Hid (grErr xs og = if agErr xs ≠ 0 then agErr xs else if og.length ≠ plN xs then 9 else if stBad og (-1) 16 then 2 else 0) := rfl
  have HGN : Hid (groupsN xs og = if grErr xs og = 0 then unK xs og og.length else []) := rfl
  have HNIL : Hid (∀ W, GrpsAt Any W (.slice none 0 0) []) := fun _ => ⟨none, 0, rfl, Nat.le_refl _, .inl rfl⟩
  clear h ho
  by_cases ha : agErr xs = 0
  · have hx0 : 0 < xs.length := by
      by_cases h0 : xs.length = 0
      · unfold agErr at ha; rw [if_pos h0] at ha; cases ha
      · omega
    obtain ⟨b, off, q0, c0, rfl, hc0, _⟩ := rows_get H.out hx0
    have hc00 : w.cell? ⟨b, off, none⟩ = some (.slice q0 (gl xs 0).length c0) := by simpa using hc0
    have hl0 := hr 0
    have hpl : (gl xs 0).length ≤ 4096 := by
      unfold agErr at ha
      split at ha
      · cases ha
      · split at ha
        · cases ha
        · omega
    have hxp : decide ((0 : Int) < (xs.length : Int)) = true := by simpa using hx0
    rw [ha] at HAC
    clear hc0
    by_cases hl : og.length = (gl xs 0).length
    · have hl1 : ((og.length : Int) != ((gl xs 0).length : Int)) = false := by simp [hl]
      by_cases hb : stBad og (-1) 16 = true
      · have HSB : Hid (stBad og (-1) 16 = (List.range og.length).any fun j => decide (gi og j < -1) || decide (16 ≤ gi og j)) := rfl
        have HB := Lib.hid hb
        have hge : grErr xs og = 2 := by rw [HGE.out, if_neg (fun e => e ha), if_neg (fun e => e hl), if_pos hb]
        have HG := Lib.hid hge
        clear hge hb hl
        go_enter Tryz.func12, Tryz.ntmps12
        go_wp2_with fail
        refine HAC.out.mono ?_
        rintro e w' ⟨rfl, rfl⟩
        go_wp2_with fail
        refine HCO.out.mono ?_
        rintro e w' ⟨rfl, rfl⟩
        rw [← HSB.out, HB.out]
        go_wp2_with fail
        go_ret2
        exact ⟨Up.refl _, _, by rw [HG.out]; rfl, by rw [HGN.out, HG.out]; exact HNIL.out _⟩
      · have hb2 : stBad og (-1) 16 = false := by simpa using hb
        have HSB : Hid (stBad og (-1) 16 = (List.range og.length).any fun j => decide (gi og j < -1) || decide (16 ≤ gi og j)) := rfl
        have HB := Lib.hid hb2
        have HG : Hid (grErr xs og = 0) := by unfold Hid; rw [HGE.out, if_neg (fun e => e ha), if_neg (fun e => e (by unfold plN; exact hl)), if_neg hb]
        have HLL := Lib.hid hl
        have hog4 : og.length ≤ 4096 := by omega
        have HRW : Hid (∀ k, k < xs.length → (gl xs k).length = og.length) := fun k hk => (agRow_len ha hk).trans hl.symm
        clear hb hb2 hl ha
        go_enter Tryz.func12, Tryz.ntmps12
        go_wp2_with fail
        refine HAC.out.mono ?_
        rintro e w' ⟨rfl, rfl⟩
        go_wp2_with fail
        refine HCO.out.mono ?_
        rintro e w' ⟨rfl, rfl⟩
        rw [← HSB.out, HB.out]
        go_wp2_with fail
        go_loopw [8, 35] (fun d i wr => ∃ k : Nat, k ≤ og.length ∧ i = .int .i64 k ∧ Hid (GrpsOwn w.heap.size 37 wr d (unK xs og k)) ∧ Hid (Up w wr)) (fun _ i _ => og.length - (intOf i).toNat)
        case atStart => exact ⟨0, Nat.zero_le _, rfl, GrpsOwn.nil _ _ _, Up.refl _⟩
        case round =>
          obtain ⟨k, hk, rfl, hD, hUr⟩ := hrel
          obtain ⟨wo, rfl⟩ : ∃ wo : World, wo = wr := ⟨_, rfl⟩
          obtain ⟨d, rfl⟩ : ∃ d : Value, d = u8 := ⟨_, rfl⟩
          by_cases hlt : k < og.length
          · obtain ⟨ob, oo, rfl, hco0⟩ := ints_get (IntsAt.keep HO.out (hUr.out.kept _)) hlt
            have HUN := Lib.hid (unK_succ xs og k)
            have HUG : Hid (unG xs og k = if gi og k < 0 then [] else stK xs og k 16) := rfl
            by_cases h0 : gi og k < 0
            · have HD1 : Hid (GrpsOwn w.heap.size 37 wo d (unK xs og (k + 1))) := by unfold Hid; rw [HUN.out, HUG.out, if_pos h0, List.append_nil]; exact hD.out
              generalize gi og k = f at *
              go_wp2_with fail
              go_roundw
              case rel => exact ⟨k + 1, by omega, by go_num, HD1, hUr⟩
              case measure => simp [intOf]; omega
            · have HD0 : Hid (GrpsOwn w.heap.size 37 wo d (unK xs og k ++ stK xs og k 0)) := by unfold Hid; rw [show stK xs og k 0 = [] from rfl, List.append_nil]; exact hD.out
              have HUS := Lib.hid (stK_succ xs og k)
              have HG1 : Hid (∀ s, grp1 xs og k s = if (s : Int) ≠ gi og k ∧ srcK xs k s xs.length ≠ [] then [⟨k, s, srcK xs k s xs.length⟩] else []) := fun _ => rfl
              have HUE : Hid (unK xs og (k + 1) = unK xs og k ++ stK xs og k 16) := by unfold Hid; rw [HUN.out, HUG.out, if_neg h0]
              clear HUN HUG hD
              generalize gi og k = f at *
              go_wp2_with fail
              go_loopw [8, 42] (fun d i wr => ∃ s : Nat, s ≤ 16 ∧ i = .int .i64 s ∧ Hid (GrpsOwn w.heap.size 37 wr d (unK xs og k ++ stK xs og k s)) ∧ Hid (Up w wr)) (fun _ i _ => 16 - (intOf i).toNat)
              case atStart => exact ⟨0, by omega, rfl, HD0, hUr⟩
              case round =>
                obtain ⟨s, hs, rfl, hD, hUr2⟩ := hrel
                obtain ⟨wi, rfl⟩ : ∃ wo : World, wo = wr := ⟨_, rfl⟩
                obtain ⟨d2, rfl⟩ : ∃ d : Value, d = u8 := ⟨_, rfl⟩
                by_cases hs16 : s < 16
                · go_wp2_with fail
                  go_loopw [50] (fun i wr => ∃ m : Nat, m ≤ xs.length ∧ i = .int .i64 m ∧ Hid (GrW wi wr k s (srcK xs k s m))) (fun i _ => xs.length - (intOf i).toNat)
                  case atStart => exact ⟨0, Nat.zero_le _, rfl, Up.alloc _ _, _, World.alloc_heap_new _ _, Owns.nil _ _ _, by simp⟩
                  case round =>
                    obtain ⟨m, hm, rfl, hW⟩ := hrel
                    obtain ⟨wq, rfl⟩ : ∃ wo : World, wo = wr := ⟨_, rfl⟩
                    have hu3 := hW.out.1
                    by_cases hmt : m < xs.length
                    · obtain ⟨b', off', rq, rc, e1, hcr, hir⟩ := rows_get (H.out.keep ((hUr2.out.trans hu3).kept S)) hmt
                      injection e1 with e1
                      injection e1 with e1 e2
                      subst e1; subst e2
                      rw [HRW.out m hmt] at hcr hir
                      obtain ⟨rb, ro, rfl, hcx⟩ := ints_get hir (k := k) (by rw [HRW.out m hmt]; exact hlt)
                      have i1 : (0 : Int) ≤ (k : Int) := by omega
                      have i2 : (k : Int) < (og.length : Int) := by omega
                      have HSR := Lib.hid (srcK_succ xs k s m)
                      clear hir
                      generalize gi (gl xs m) k = x at *
                      by_cases hxs : x = s
                      · have hx1 : (x == (s : Int)) = true := by simpa using hxs
                        obtain ⟨sv, hg0, hg1, hg2, hso, hsz3⟩ := hW.out.cells
                        have HSO := Lib.hid hso
                        have HLN : Hid (((srcK xs k s m).map (Value.int .i64)).length = (srcK xs k s m).length) := List.length_map _
                        have HLE : (srcK xs k s m).length ≤ 1000000 := by have := srcK_len xs k s m; omega
                        have HSE : Hid (srcK xs k s (m + 1) = srcK xs k s m ++ [(m : Int)]) := by unfold Hid; rw [HSR.out, if_pos hxs]
                        have HAPP := Lib.hid (fun (w8 : World) (v : Value) => hW.out.app (w8 := w8) (x := (m : Int)) (v := v))
                        clear hg0 hg1 hso hxs
                        go_wp2_with (at_builtin; refine wpList_appN wq rfl _ _ 26 rfl (wi.heap.size + 1) 3 _ 8 Tryz.underlying26 Tryz.infoI rfl (by decide) HSO.out rfl _ rfl rfl _ HLN.out HLE hsz3 ?_; intro g8 cap8 w8 hown1 hgr1 hbe1; obtain ⟨⟨c8, hc8⟩, hf8, hW8⟩ := HAPP.out w8 _ hown1 hbe1; have HW8 := Lib.hid hW8; clear hW8 hown1 hgr1 hbe1)
                        go_roundw
                        case rel => exact ⟨_, _, _, ⟨m + 1, by omega, rfl, by unfold Hid; rw [HSE.out]; exact HW8.out⟩, rfl, rfl, by go_num⟩
                        case measure => simp [intOf]; omega
                      · have hx1 : (x == (s : Int)) = false := by simpa using hxs
                        have HW1 : Hid (GrW wi wq k s (srcK xs k s (m + 1))) := by unfold Hid; rw [HSR.out, if_neg hxs, List.append_nil]; exact hW.out
                        go_wp2_with fail
                        go_roundw
                        case rel => exact ⟨m + 1, by omega, by go_num, HW1⟩
                        case measure => simp [intOf]; omega
                    · obtain rfl : m = xs.length := by omega
                      obtain ⟨sv, hg0, hg1, hg2, hso, hsz3⟩ := hW.out.cells
                      obtain ⟨sp, sc, rfl, hsc⟩ := hso.form (n := (srcK xs k s xs.length).length) (by simp)
                      have hsl : (srcK xs k s xs.length).length ≤ 1000000 := by have := srcK_len xs k s xs.length; omega
                      have HU3 := Lib.hid (hUr2.out.trans hu3)
                      have HD3 := Lib.hid (hD.out.kept hu3)
                      have HIN : Hid (IntsAt (fun b => some b ≠ d2.ownBlock) wq (.slice sp (srcK xs k s xs.length).length sc) (srcK xs k s xs.length)) := hso.ints.sub fun b hb _ e => by
                        have := (hD.out.lt e.symm).2; omega
                      have HLE : (unK xs og k ++ stK xs og k s).length ≤ 1000000 := by
                        rw [List.length_append]
                        have h1 := unK_len xs og k; have h2 := stK_len xs og k s; omega
                      have HWZ : w.heap.size ≤ wq.heap.size := HU3.out.size
                      have HGS := Lib.hid (HG1.out s)
                      have HUSS : Hid (unK xs og k ++ stK xs og k (s + 1) = (unK xs og k ++ stK xs og k s) ++ grp1 xs og k s) := by unfold Hid; rw [HUS.out s, List.append_assoc]
                      have HE0 : Hid ((srcK xs k s xs.length).length = 0 ↔ srcK xs k s xs.length = []) := List.length_eq_zero_iff
                      clear hlt hm hsc hso
                      generalize (srcK xs k s xs.length).length = sl at *
                      generalize unK xs og k ++ stK xs og k s = L0 at *
                      by_cases hsf : (s : Int) = f
                      · have hs1 : ((s : Int) != f) = false := by simp [hsf]
                        have HDN : Hid (GrpsOwn w.heap.size 37 wq d2 (unK xs og k ++ stK xs og k (s + 1))) := by unfold Hid; rw [HUSS.out, HGS.out, if_neg (fun e => e.1 hsf), List.append_nil]; exact HD3.out
                        clear hsf
                        go_wp2_with fail
                        go_roundw
                        case rel => exact ⟨s + 1, by omega, by go_num, HDN, HU3⟩
                        case measure => simp [intOf]; omega
                      · have hs1 : ((s : Int) != f) = true := by simpa using hsf
                        by_cases hs0 : sl = 0
                        · have hs2 : decide ((0 : Int) < (sl : Int)) = false := by simp [hs0]
                          have hs3 : decide (0 < sl) = false := by simp [hs0]
                          have HDN : Hid (GrpsOwn w.heap.size 37 wq d2 (unK xs og k ++ stK xs og k (s + 1))) := by unfold Hid; rw [HUSS.out, HGS.out, if_neg (fun e => e.2 (HE0.out.1 hs0)), List.append_nil]; exact HD3.out
                          clear hs0 hsf
                          go_wp2_with fail
                          go_roundw
                          case rel => exact ⟨s + 1, by omega, by go_num, HDN, HU3⟩
                          case measure => simp [intOf]; omega
                        · have hs2 : decide ((0 : Int) < (sl : Int)) = true := by simp; omega
                          have hs3 : decide (0 < sl) = true := by simp; omega
                          have HSE : Hid (unK xs og k ++ stK xs og k (s + 1) = L0 ++ [⟨k, s, srcK xs k s xs.length⟩]) := by unfold Hid; rw [HUSS.out, HGS.out, if_pos ⟨hsf, fun e => hs0 (HE0.out.2 e)⟩]
                          clear hs0 hsf
                          go_wp2_with (at_builtin; refine wpList_appGrp wq rfl _ _ 30 rfl w.heap.size 37 _ 40 Tryz.underlying30 Tryz.infoEG rfl (by decide) HD3.out rfl ⟨k, s, srcK xs k s xs.length⟩ (.slice sp sl sc) rfl HIN.out rfl _ rfl HLE HWZ ?_; intro g8 cap8 w8 hown1 hgr1 hbe1)
                          go_roundw
                          case rel => exact ⟨s + 1, by omega, by go_num, by unfold Hid; rw [HSE.out]; exact hown1, Below.trans HU3.out hbe1⟩
                          case measure => simp [intOf]; omega
                · obtain rfl : s = 16 := by omega
                  have HDE : Hid (GrpsOwn w.heap.size 37 wi d2 (unK xs og (k + 1))) := by unfold Hid; rw [HUE.out]; exact hD.out
                  go_wp2_with fail
                  go_roundw
                  case rel => exact ⟨k + 1, by omega, by go_num, HDE, hUr2⟩
                  case measure => simp [intOf]; omega
          · obtain rfl : k = og.length := by omega
            clear hlt hk
            go_wp2_with fail
            go_ret2
            exact ⟨hUr.out, d, by rw [HG.out]; rfl, by rw [HGN.out, if_pos HG.out]; exact hD.out.grps⟩
    · have hl1 : ((og.length : Int) != ((gl xs 0).length : Int)) = true := by simp; omega
      have HG : Hid (grErr xs og = 9) := by unfold Hid; rw [HGE.out, if_neg (fun e => e ha), if_pos (by unfold plN; exact hl)]
      clear hl
      go_enter Tryz.func12, Tryz.ntmps12
      go_wp2_with fail
      refine HAC.out.mono ?_
      rintro e w' ⟨rfl, rfl⟩
      go_wp2_with fail
      go_ret2
      exact ⟨Up.refl _, _, by rw [HG.out]; rfl, by rw [HGN.out, HG.out]; exact HNIL.out _⟩
  · have HG : Hid (grErr xs og = agErr xs) := by unfold Hid; rw [HGE.out, if_pos ha]
    have HA := Lib.hid ha
    have ha1 : (agErr xs != 0) = true := by simpa using ha
    clear ha
    go_enter Tryz.func12, Tryz.ntmps12
    go_wp2_with fail
    refine HAC.out.mono ?_
    rintro e w' ⟨rfl, rfl⟩
    go_wp2_with fail
    go_ret2
    exact ⟨Up.refl _, _, by rw [HG.out]; rfl, by rw [HGN.out, HG.out, if_neg HA.out]; exact HNIL.out _⟩
end Go.Proofs.YtpjijbophjdgaaaGreat
