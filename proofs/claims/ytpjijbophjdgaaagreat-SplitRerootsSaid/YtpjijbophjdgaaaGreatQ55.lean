/- The walk of SplitReroots. -/
import Derived.Test.YtpjijbophjdgaaaGreatQ31
import Derived.Test.YtpjijbophjdgaaaGreatQ54
import Derived.Test.YtpjijbophjdgaaaGreatQ27
import Derived.Test.YtpjijbophjdgaaaGreatQ37
import Derived.Test.YtpjijbophjdgaaaGreatQ16
namespace Go.Proofs.YtpjijbophjdgaaaGreat
open Go.RowKit Go.Deep
theorem rot_perm (l : List ByteArray) (k : Nat) : l.Perm (rotN l k) := by
  unfold rotN
  have h : (l.take k ++ l.drop k).Perm (l.drop k ++ l.take k) := List.perm_append_comm
  rwa [List.take_append_drop] at h
theorem nodup_gs {l : List ByteArray} (h : l.Nodup) : ∀ j k, j < k → k < l.length → gs l k ≠ gs l j := fun j k hjk hk e => by
  have h1 : gs l k = l[k] := by simp [gs, hk]
  have h2 : gs l j = l[j] := by simp [gs, show j < l.length by omega]
  rw [h1, h2] at e
  have := (List.getElem_inj h).1 e
  omega
theorem slat_off {w : World} {B : Nat} {T : TypeId} {v : Value} {n : Nat} {f : Nat → Value} (h : SlAt Any w v n f) (hb : w.heap[B]? = some (Obj.cells #[.slice none 0 0, .slice none 0 0] T (0, 0))) (hf : ∀ k, f k ≠ .slice none 0 0) : SlAt (fun b => b ≠ B) w v n f := by
  obtain ⟨p, cap, rfl, hn, h⟩ := h
  refine ⟨p, cap, rfl, hn, ?_⟩
  rcases h with h | ⟨b, off, rfl, _, hc⟩
  · exact .inl h
  by_cases h0 : n = 0
  · exact .inl h0
  refine .inr ⟨b, off, rfl, fun e => ?_, hc⟩
  subst e
  have h1 := hc 0 (by omega)
  match off, h1 with
  | 0, h1 => simp [World.cell?, hb] at h1; exact hf 0 h1.symm
  | 1, h1 => simp [World.cell?, hb] at h1; exact hf 0 h1.symm
  | k + 2, h1 => simp [World.cell?, hb] at h1
theorem tree_off {w W : World} {B : Nat} {T : TypeId} {P N : Value} {t : Tre} (hP : IntsAt Any w P t.ps) (hN : StrsAt Any w N t.ns) (hb : w.heap[B]? = some (Obj.cells #[.slice none 0 0, .slice none 0 0] T (0, 0))) (h : ∀ b, b ≠ B → W.heap[b]? = w.heap[b]?) : TreeAt Any W (.agg #[P, N]) t :=
  ⟨P, N, rfl, (SlAt.keep (slat_off hP hb fun k e => by cases e) fun b hb _ => h b hb).sub fun _ _ _ => trivial, (SlAt.keep (slat_off hN hb fun k e => by cases e) fun b hb _ => h b hb).sub fun _ _ _ => trivial⟩
structure RerOk (t : Tre) (names : List ByteArray) (la : Nat) : Prop where
  ofe : splOErr t names = 0
  ble : bldErr names (splO t names) = 0
  ix : firstIx (fun j => decide (gs names 0 = gs t.ns j)) t.ns.length = (la : Int)
  leaf : LeafOk t la
  can : canT (bldR names (splO t names)) = canT (flat (rrQt t la))
  te : treeErr (bldR names (splO t names)) = 0
theorem rer_ok {t : Tre} (he : treeErr t = 0) (h18 : t.ps.length ≤ 18) {k : Nat} (hk : k < (fltN t.ns).length) (h9 : (fltN t.ns).length ≤ 9) : ∃ la, RerOk t (rotN (fltN t.ns) k) la := by
  have hp := rot_perm (fltN t.ns) k
  have hl := hp.length_eq
  have hnd := hp.nodup (flt_nodup he)
  have ho : OfOk t (rotN (fltN t.ns) k) := ofok_of he hp (by omega) (nodup_gs hnd)
  have h0 : 0 < (rotN (fltN t.ns) k).length := by omega
  have hm : gs (rotN (fltN t.ns) k) 0 ∈ fltN t.ns := hp.symm.mem_iff.1 (by
    have : gs (rotN (fltN t.ns) k) 0 = (rotN (fltN t.ns) k)[0] := by simp [gs, h0]
    rw [this]; exact List.getElem_mem h0)
  obtain ⟨hmn, hsz⟩ := List.mem_filter.1 hm
  have hsz : (gs (rotN (fltN t.ns) k) 0).size ≠ 0 := by simpa using hsz
  obtain ⟨j, hj, hje⟩ := List.getElem_of_mem hmn
  have hany : decide (0 ≤ firstIx (fun j => decide (gs (rotN (fltN t.ns) k) 0 = gs t.ns j)) t.ns.length) = true := by
    rw [firstIx_any]
    exact any_at (p := fun j => decide (gs (rotN (fltN t.ns) k) 0 = gs t.ns j)) hj (decide_eq_true (by rw [← hje]; simp [gs, hj]))
  obtain ⟨la, hla⟩ := Int.eq_ofNat_of_zero_le (of_decide_eq_true hany)
  obtain ⟨l1, l2, _⟩ := firstIx_spec (show firstIx (fun j => decide (gs (rotN (fltN t.ns) k) 0 = gs t.ns j)) t.ns.length = la from hla)
  have l2 := of_decide_eq_true l2
  obtain ⟨_, _, hnl, _, _⟩ := treeErr_zero he
  have hleaf : LeafOk t la := ⟨he, by omega, by rw [← l2]; exact hsz⟩
  have hb := of_bld ho
  have hbe := bldErr_ok.2 hb
  have hbr : bldR (rotN (fltN t.ns) k) (splO t (rotN (fltN t.ns) k)) = bldT (rotN (fltN t.ns) k) (splO t (rotN (fltN t.ns) k)) := by unfold bldR; rw [if_pos hbe]
  exact ⟨la, splO_ok.2 ho, hbe, hla, hleaf, by rw [hbr]; exact bld_reroot ho hleaf l2.symm (by omega), (back_law hbe).2.2⟩
set_option maxRecDepth 100000 in
set_option maxHeartbeats 8000000 in
theorem srer_law (w : World) (v : Value) (t : Tre) (f : Int) (hT : TreeAt Any w v t) (hf : 0 ≤ f ∧ f ≤ 255) (hp : t.ps.length ≤ 9223372036854775807) (hn : t.ns.length ≤ 9223372036854775807) (hz : ∀ k, (gs t.ns k).size ≤ 9223372036854775807) :
    Calls Tryz.prog 7 #[v, .int .u8 f] w fun e w' => e = .returned (.bool true) ∧ Up w w' := by
  have HAW := Lib.hid awake32_t
  obtain ⟨P, N, rfl, hP, hN⟩ := hT
  obtain ⟨pp, pc, rfl, _, _⟩ := SlAt.open hP
  obtain ⟨np, nc, rfl, _, _⟩ := SlAt.open hN
  have hP : IntsAt Any w (.slice pp t.ps.length pc) t.ps := hP
  have hN : StrsAt Any w (.slice np t.ns.length nc) t.ns := hN
  have hu := Up.alloc w (.cells #[.slice pp t.ps.length pc, .slice np t.ns.length nc] 45)
  have b0 := box2_0 w (.slice pp t.ps.length pc) (.slice np t.ns.length nc) 45
  have b1 := box2_1 w (.slice pp t.ps.length pc) (.slice np t.ns.length nc) 45
  have HB0 := Lib.hid b0
  have HB1 := Lib.hid b1
  have HT : Hid (TreeAt Any (w.alloc (.cells #[.slice pp t.ps.length pc, .slice np t.ns.length nc] 45)) (.agg #[.slice pp t.ps.length pc, .slice np t.ns.length nc]) t) := TreeAt.keep ⟨_, _, rfl, hP, hN⟩ (hu.kept _)
  have HNS : Hid (StrsAt Any (w.alloc (.cells #[.slice pp t.ps.length pc, .slice np t.ns.length nc] 45)) (.slice np t.ns.length nc) t.ns) := StrsAt.keep hN (hu.kept _)
  have HG := Lib.hid (gtree32_t Any _ _ t HT.out hp hn hz)
  have HU := Lib.hid hu
  clear hu hP hN hp hn hz
  cases g : gt31B t 18
  case true =>
    rw [g] at HG
    clear g
    go_enter Tryz.func7, Tryz.ntmps7
    go_wp2_with fail
    refine HG.out.mono ?_
    rintro e w2 ⟨rfl, hu2⟩
    have HU2 := Lib.hid (HU.out.trans hu2)
    clear hu2 b0 b1
    go_wp2_with fail
    refine (HAW.out _).mono ?_
    rintro e w' ⟨rfl, hu⟩
    go_wp2_with fail
    go_ret
    exact ⟨rfl, HU2.out.trans hu⟩
  obtain ⟨s1, s2, s3⟩ := gt31_small g (by decide)
  have hgp : treeErr t = 0 → t.ps.length ≤ 18 := fun he => by
    obtain ⟨_, h64, _, _, _⟩ := treeErr_zero he
    unfold gt31B at g
    simp only [Bool.or_eq_false_iff, Bool.and_eq_false_iff, decide_eq_false_iff_not] at g
    omega
  have hsz3 : ∀ k, (gs t.ns k).size ≤ 70000 := fun k => Nat.le_trans (s3 k) (by decide)
  rw [g] at HG
  have HCK : Hid (∀ W, Up (w.alloc (.cells #[.slice pp t.ps.length pc, .slice np t.ns.length nc] 45)) W → Calls Tryz.prog 49 #[.agg #[.slice pp t.ps.length pc, .slice np t.ns.length nc]] W fun e w' => e = .returned (.int .i64 (treeErr t)) ∧ Up W w') := fun W hW => checkR_t Any W _ t (HT.out.keep (hW.kept _)) (by omega) (by omega) hsz3
  by_cases he : treeErr t = 0
  case neg =>
    have d1 : (treeErr t != 0) = true := by simpa using he
    clear g he hgp
    generalize treeErr t = z at *
    go_enter Tryz.func7, Tryz.ntmps7
    go_wp2_with fail
    refine HG.out.mono ?_
    rintro e w2 ⟨rfl, hu2⟩
    have b0 := hu2.cell HB0.out
    have b1 := hu2.cell HB1.out
    have HC2 := Lib.hid (HCK.out w2 hu2)
    have HU2 := Lib.hid (HU.out.trans hu2)
    clear hu2 HCK
    go_wp2_with fail
    refine HC2.out.mono ?_
    rintro e w3 ⟨rfl, hu3⟩
    have HU3 := Lib.hid (HU2.out.trans hu3)
    clear hu3 b0 b1
    go_wp2_with fail
    refine (HAW.out _).mono ?_
    rintro e w' ⟨rfl, hu⟩
    go_wp2_with fail
    go_ret
    exact ⟨rfl, HU3.out.trans hu⟩
  have h18 := hgp he
  obtain ⟨_, _, hnl, _, _⟩ := treeErr_zero he
  have h0 : 0 < (fltN t.ns).length := by
    obtain ⟨lf, hlf⟩ := can_first he
    have h1 := (can_names he).length_eq
    rw [hlf] at h1
    simp at h1; omega
  obtain ⟨fn, rfl⟩ := Int.eq_ofNat_of_zero_le hf.1
  obtain ⟨k, hk⟩ : ∃ k, fn % (fltN t.ns).length = k := ⟨_, rfl⟩
  have hkl : k < (fltN t.ns).length := by rw [← hk]; exact Nat.mod_lt _ h0
  have hrl : (rotN (fltN t.ns) k).length = (fltN t.ns).length := (rot_perm _ k).length_eq.symm
  rw [he] at HCK
  have HNM : Hid (∀ W, Up (w.alloc (.cells #[.slice pp t.ps.length pc, .slice np t.ns.length nc] 45)) W → Calls Tryz.prog 61 #[.agg #[.slice pp t.ps.length pc, .slice np t.ns.length nc], .int .i64 (fn : Int)] W (NmPost32 W (rotN (fltN t.ns) k))) := fun W hW => names32_t Any W _ t fn k (HT.out.keep (hW.kept _)) (by omega) (by omega) h0 hk
  have hfl : (fltN t.ns).length ≤ t.ns.length := List.length_filter_le _ _
  have HF255 : (fn : Int) ≤ 255 := hf.2
  by_cases h9 : (fltN t.ns).length ≤ 9
  case neg =>
    have d9 : decide ((9 : Int) < ((rotN (fltN t.ns) k).length : Int)) = true := decide_eq_true (by omega)
    have hll : ((rotN (fltN t.ns) k).length : Int) ≤ 1000 := by omega
    clear g he hgp h9 hkl hrl hfl hk h0 hnl h18 s1 s2 s3
    generalize rotN (fltN t.ns) k = L at *
    go_enter Tryz.func7, Tryz.ntmps7
    go_wp2_with fail
    refine HG.out.mono ?_
    rintro e w2 ⟨rfl, hu2⟩
    have b0 := hu2.cell HB0.out
    have b1 := hu2.cell HB1.out
    have HC2 := Lib.hid (HCK.out w2 hu2)
    have HX2 := Lib.hid hu2
    have HU2 := Lib.hid (HU.out.trans hu2)
    clear hu2 HCK
    go_wp2_with fail
    refine HC2.out.mono ?_
    rintro e w3 ⟨rfl, hu3⟩
    have b0 := hu3.cell b0
    have b1 := hu3.cell b1
    have HN3 := Lib.hid (HNM.out w3 (HX2.out.trans hu3))
    have HU3 := Lib.hid (HU2.out.trans hu3)
    clear hu3 HNM
    go_wp2_with fail
    refine HN3.out.mono ?_
    rintro e w4 ⟨hu4, v4, rfl, hv4⟩
    obtain ⟨ap, ac, rfl, _, _⟩ := SlAt.open hv4
    have HU4 := Lib.hid (HU3.out.trans hu4)
    clear hu4 hv4 b0 b1
    go_wp2_with fail
    refine (HAW.out _).mono ?_
    rintro e w' ⟨rfl, hu⟩
    go_wp2_with fail
    go_ret
    exact ⟨rfl, HU4.out.trans hu⟩
  obtain ⟨la, hR⟩ := rer_ok he h18 hkl h9
  obtain ⟨q1, q2, q3⟩ := rr_ok_t hR.leaf (by omega)
  have d9 : decide ((9 : Int) < ((rotN (fltN t.ns) k).length : Int)) = false := decide_eq_false (by omega)
  have hl9 : (rotN (fltN t.ns) k).length ≤ 9 := by omega
  have hl0 : 0 < (rotN (fltN t.ns) k).length := by omega
  have hgz : ∀ j, (gs (rotN (fltN t.ns) k) j).size ≤ 70000 := fun j => by
    by_cases hj : j < (rotN (fltN t.ns) k).length
    · have h1 : gs (rotN (fltN t.ns) k) j ∈ rotN (fltN t.ns) k := by
        have : gs (rotN (fltN t.ns) k) j = (rotN (fltN t.ns) k)[j] := by simp [gs, hj]
        rw [this]; exact List.getElem_mem hj
      have h2 := (rot_perm (fltN t.ns) k).symm.mem_iff.1 h1
      obtain ⟨i, hi, e⟩ := List.getElem_of_mem (List.mem_filter.1 h2).1
      have h3 := hsz3 i
      have : gs t.ns i = t.ns[i] := by simp [gs, hi]
      rw [← e, ← this]; exact h3
    · have : gs (rotN (fltN t.ns) k) j = ByteArray.empty := by simp [gs, show (rotN (fltN t.ns) k).length ≤ j by omega]
      rw [this]; decide
  have hsl := splO_len t (rotN (fltN t.ns) k)
  have hsw := splO_row t (rotN (fltN t.ns) k)
  have hsm : smE (bldR (rotN (fltN t.ns) k) (splO t (rotN (fltN t.ns) k))) (flat (rrQt t la)) = 0 := by unfold smE; rw [if_neg (by simp [hR.te, q1])]
  have hsb : smB (bldR (rotN (fltN t.ns) k) (splO t (rotN (fltN t.ns) k))) (flat (rrQt t la)) = true := by unfold smB; rw [hsm, hR.can]; simp
  have HOF : Hid (∀ W u, Up (w.alloc (.cells #[.slice pp t.ps.length pc, .slice np t.ns.length nc] 45)) W → StrsAt Any W u (rotN (fltN t.ns) k) → Calls Tryz.prog 22 #[.agg #[.slice pp t.ps.length pc, .slice np t.ns.length nc], u] W fun e w' => Up W w' ∧ ∃ u, e = .returned (.tuple #[u, .int .i64 0]) ∧ RowsAt Any w' u (splO t (rotN (fltN t.ns) k))) := fun W u hW hu => by
    refine (splOf_t Any W _ u t _ (HT.out.keep (hW.kept _)) hu (by omega) (by omega) hsz3 (by omega)).mono ?_
    rintro e w' ⟨h1, u, rfl, h2⟩
    exact ⟨h1, u, by rw [hR.ofe], h2⟩
  have HBD : Hid (∀ W u x, StrsAt Any W u (rotN (fltN t.ns) k) → RowsAt Any W x (splO t (rotN (fltN t.ns) k)) → Calls Tryz.prog 56 #[u, x] W fun e w' => Up W w' ∧ ∃ v, e = .returned (.tuple #[v, .int .i64 0]) ∧ TreeAt Any w' v (bldR (rotN (fltN t.ns) k) (splO t (rotN (fltN t.ns) k)))) := fun W u x hu hx => by
    refine (build_t Any W u x _ _ hu hx (by omega) hgz (by omega) (fun j => Nat.le_trans (hsw j) (by decide))).mono ?_
    rintro e w' ⟨h1, u, rfl, h2⟩
    exact ⟨h1, u, by rw [hR.ble], h2⟩
  have HIX : Hid (∀ W, Up (w.alloc (.cells #[.slice pp t.ps.length pc, .slice np t.ns.length nc] 45)) W → Calls Tryz.prog 62 #[.slice np t.ns.length nc, .string (gs (rotN (fltN t.ns) k) 0)] W fun e w' => e = .returned (.int .i64 (la : Int)) ∧ W = w') := fun W hW => by
    have h := index_str_t Any W _ t.ns.length (gs t.ns) (gs (rotN (fltN t.ns) k) 0) (StrsAt.keep HNS.out (hW.kept _)) (by omega)
    rwa [hR.ix] at h
  have HRR : Hid (∀ W, Up (w.alloc (.cells #[.slice pp t.ps.length pc, .slice np t.ns.length nc] 45)) W → Calls Tryz.prog 33 #[.agg #[.slice pp t.ps.length pc, .slice np t.ns.length nc], .int .i64 (la : Int)] W fun e w' => Up W w' ∧ ∃ v, e = .returned (.tuple #[v, .int .i64 0]) ∧ TreeAt Any w' v (flat (rrQt t la))) := fun W hW => by
    refine (reroot_t Any W _ t la (HT.out.keep (hW.kept _)) (by omega) (by omega) hsz3).mono ?_
    rintro e w' ⟨h1, u, rfl, h2⟩
    rw [q3] at h2
    exact ⟨h1, u, by rw [q2], h2⟩
  have HSA : Hid (∀ W u x, TreeAt Any W u (bldR (rotN (fltN t.ns) k) (splO t (rotN (fltN t.ns) k))) → TreeAt Any W x (flat (rrQt t la)) → Calls Tryz.prog 31 #[u, x] W fun e w' => e = .returned (.tuple #[.bool true, .int .i64 0]) ∧ Up W w') := fun W u x hu hx => by
    obtain ⟨_, u1, u2, _, _⟩ := treeErr_zero hR.te
    obtain ⟨_, x1, x2, _, _⟩ := treeErr_zero q1
    have h := same31_t Any W u x _ _ hu hx (by omega) (by omega) (tree_small hR.te) (by omega) (by omega) (tree_small q1)
    rwa [hsm, hsb] at h
  have HLL : Hid (0 < (rotN (fltN t.ns) k).length ∧ (rotN (fltN t.ns) k).length ≤ 9) := ⟨hl0, hl9⟩
  clear g he hgp h9 hkl hrl hfl hk h0 hR q1 q2 q3 hl9 hl0 hgz hsl hsw hsm hsb s1 s2 s3 hsz3 h18 hnl hf
  generalize bldR (rotN (fltN t.ns) k) (splO t (rotN (fltN t.ns) k)) = UT at *
  generalize flat (rrQt t la) = VT at *
  generalize splO t (rotN (fltN t.ns) k) = SL at *
  generalize rotN (fltN t.ns) k = L at *
  go_enter Tryz.func7, Tryz.ntmps7
  go_wp2_with fail
  generalize w.alloc (.cells #[.slice pp t.ps.length pc, .slice np t.ns.length nc] 45) = w1 at *
  refine HG.out.mono ?_
  rintro e w2 ⟨rfl, hu2⟩
  have b0 := hu2.cell HB0.out
  have b1 := hu2.cell HB1.out
  have HC2 := Lib.hid (HCK.out w2 hu2)
  have HX2 := Lib.hid hu2
  clear hu2 HCK HG
  go_wp2_with fail
  refine HC2.out.mono ?_
  rintro e w3 ⟨rfl, hu3⟩
  have b0 := hu3.cell b0
  have b1 := hu3.cell b1
  have HX3 := Lib.hid (HX2.out.trans hu3)
  clear hu3 HC2 HX2
  go_wp2_with fail
  refine (HNM.out w3 HX3.out).mono ?_
  rintro e w4 ⟨hu4, v4, rfl, hv4⟩
  obtain ⟨ap, ac, rfl, _, _⟩ := SlAt.open hv4
  have b0 := hu4.cell b0
  have b1 := hu4.cell b1
  have HX4 := Lib.hid (HX3.out.trans hu4)
  have HA4 : Hid (StrsAt Any w4 (.slice ap L.length ac) L) := hv4
  clear hu4 hv4 HNM HX3
  go_wp2_with fail
  refine (HOF.out w4 _ HX4.out HA4.out).mono ?_
  rintro e w5 ⟨hu5, v5, rfl, hr5⟩
  have HX5 := Lib.hid (HX4.out.trans hu5)
  have HA5 := Lib.hid (StrsAt.keep HA4.out (hu5.kept _))
  have HB5 := Lib.hid (HBD.out w5 _ _ HA5.out hr5)
  have b0 := hu5.cell b0
  have b1 := hu5.cell b1
  clear hu5 hr5 HOF HBD HA4 HX4
  go_wp2_with fail
  refine HB5.out.mono ?_
  rintro e w6 ⟨hu6, v6, rfl, ht6⟩
  obtain ⟨P6, N6, rfl, hP6, hN6⟩ := ht6
  obtain ⟨p6, c6, rfl, _, _⟩ := SlAt.open hP6
  obtain ⟨n6, d6, rfl, _, _⟩ := SlAt.open hN6
  have hal := Up.alloc w6 (.cells #[.slice p6 UT.ps.length c6, .slice n6 UT.ns.length d6] 45)
  have HD0 := Lib.hid (box2_0 w6 (.slice p6 UT.ps.length c6) (.slice n6 UT.ns.length d6) 45)
  have HD1 := Lib.hid (box2_1 w6 (.slice p6 UT.ps.length c6) (.slice n6 UT.ns.length d6) 45)
  have HU7 : Hid (TreeAt Any (w6.alloc (.cells #[.slice p6 UT.ps.length c6, .slice n6 UT.ns.length d6] 45)) (.agg #[.slice p6 UT.ps.length c6, .slice n6 UT.ns.length d6]) UT) := TreeAt.keep ⟨_, _, rfl, hP6, hN6⟩ (hal.kept _)
  have hu67 := hu6.trans hal
  have HX7 := Lib.hid (HX5.out.trans hu67)
  have HA7 := Lib.hid (StrsAt.keep HA5.out (hu67.kept _))
  have HC0 := Lib.hid (hu67.cell b0)
  have HC1 := Lib.hid (hu67.cell b1)
  clear hu6 hal hu67 hP6 hN6 HB5 HX5 HA5 b0 b1
  go_wp2_with fail
  generalize w6.alloc (.cells #[.slice p6 UT.ps.length c6, .slice n6 UT.ns.length d6] 45) = w7 at *
  obtain ⟨ab, ao, rfl, hac⟩ := strs_get HA7.out HLL.out.1
  rw [Nat.add_zero] at hac
  have HAC := Lib.hid hac
  have i1 : (0 : Int) < (L.length : Int) := by have := HLL.out; omega
  have i2 : 0 < L.length := HLL.out.1
  clear hac
  have hup : Hid (Up w7 (w7.drewN 1)) := Up.drewN w7 1
  have HST : Hid (∀ W, Up w7 W → ∀ x y : Value, Hid (Up w7 ((W.setCell ⟨w7.heap.size, 0, none⟩ x).setCell ⟨w7.heap.size, 1, none⟩ y)) ∧ True) := fun W hW x y => ⟨Below.setCell (p := ⟨w7.heap.size, 1, none⟩) (Below.setCell (p := ⟨w7.heap.size, 0, none⟩) hW (Nat.le_refl _) x) (Nat.le_refl _) y, trivial⟩
  go_region_held3 (fun w' => Hid (Up w7 w') ∧ w'.cell? ⟨w.heap.size, 0, none⟩ = some (.slice pp t.ps.length pc) ∧ w'.cell? ⟨w.heap.size, 1, none⟩ = some (.slice np t.ns.length nc) ∧ w'.cell? ⟨ab, ao, none⟩ = some (.string (gs L 0))) (first | exact ⟨hup, hup.out.cell HC0.out, hup.out.cell HC1.out, hup.out.cell HAC.out⟩ | exact ⟨hup.out.trans (Up.alloc _ _), (hup.out.trans (Up.alloc _ _)).cell HC0.out, (hup.out.trans (Up.alloc _ _)).cell HC1.out, (hup.out.trans (Up.alloc _ _)).cell HAC.out⟩ | exact ⟨(HST.out _ hup.out _ _).1, (HST.out _ hup.out _ _).1.out.cell HC0.out, (HST.out _ hup.out _ _).1.out.cell HC1.out, (HST.out _ hup.out _ _).1.out.cell HAC.out⟩) (first
    | (go_at_call 62; refine (HIX.out _ (HX7.out.trans hup.out)).mono ?_; rintro e w8 ⟨rfl, rfl⟩)
    | (go_at_call 62; refine (HIX.out _ (HX7.out.trans (hup.out.trans (Up.alloc _ _)))).mono ?_; rintro e w8 ⟨rfl, rfl⟩)
    | (go_at_call 33; refine (HRR.out _ (HX7.out.trans hup.out)).mono ?_; rintro e w9 ⟨hb9, v9, rfl, ht9⟩; obtain ⟨P9, N9, rfl, hP9, hN9⟩ := ht9; obtain ⟨p9, c9, rfl, _, _⟩ := SlAt.open hP9; obtain ⟨n9, d9, rfl, _, _⟩ := SlAt.open hN9; have HP9 := Lib.hid hP9; have HN9 := Lib.hid hN9; have hup : Hid (Up w7 w9) := hup.out.trans hb9; clear hb9 hP9 hN9)
    | (go_at_call 33; refine (HRR.out _ (HX7.out.trans (hup.out.trans (Up.alloc _ (.cells #[.slice none 0 0, .slice none 0 0] 45))))).mono ?_; rintro e w9 ⟨hb9, v9, rfl, ht9⟩; obtain ⟨P9, N9, rfl, hP9, hN9⟩ := ht9; obtain ⟨p9, c9, rfl, _, _⟩ := SlAt.open hP9; obtain ⟨n9, d9, rfl, _, _⟩ := SlAt.open hN9; have HP9 := Lib.hid hP9; have HN9 := Lib.hid hN9; have hblk : w9.heap[w7.heap.size]? = some (Obj.cells #[.slice none 0 0, .slice none 0 0] 45 (0, 0)) := (Below.block hb9 _ (by rw [World.size_alloc]; exact Nat.lt_succ_self _)).trans (World.alloc_heap_new _ _); have HBK := Lib.hid hblk; obtain ⟨y0, y1, y2, y3⟩ := boxed hblk; have hup : Hid (Up w7 w9) := (hup.out.trans (Up.alloc _ (.cells #[.slice none 0 0, .slice none 0 0] 45))).trans hb9; clear hb9 hP9 hN9 hblk))
  · have hF : Up w7 (w9.alloc (.cells #[(.slice p9 VT.ps.length c9), (.slice n9 VT.ns.length d9)] 45)) ∧ (w9.alloc (.cells #[(.slice p9 VT.ps.length c9), (.slice n9 VT.ns.length d9)] 45)).cell? ⟨w9.heap.size, 0, none⟩ = some (.slice p9 VT.ps.length c9) ∧ (w9.alloc (.cells #[(.slice p9 VT.ps.length c9), (.slice n9 VT.ns.length d9)] 45)).cell? ⟨w9.heap.size, 1, none⟩ = some (.slice n9 VT.ns.length d9) ∧ TreeAt Any (w9.alloc (.cells #[(.slice p9 VT.ps.length c9), (.slice n9 VT.ns.length d9)] 45)) (.agg #[(.slice p9 VT.ps.length c9), (.slice n9 VT.ns.length d9)]) VT := ⟨hup.out.trans (Up.alloc _ _), box2_0 _ _ _ _, box2_1 _ _ _ _, TreeAt.keep ⟨_, _, rfl, HP9.out, HN9.out⟩ ((Up.alloc _ _).kept _)⟩
    have HF := Lib.hid hF
    clear hF
    generalize w9.alloc (.cells #[(.slice p9 VT.ps.length c9), (.slice n9 VT.ns.length d9)] 45) = w10 at *
    obtain ⟨f1, f2, f3, f4⟩ := HF.out
    have d0 := f1.cell HD0.out
    have d1 := f1.cell HD1.out
    have HS10 := Lib.hid (HSA.out w10 _ _ (HU7.out.keep (f1.kept _)) f4)
    have HU10 := Lib.hid (HU.out.trans (HX7.out.trans f1))
    clear f1 f4 HF
    go_wp2_with fail
    refine HS10.out.mono ?_
    rintro e w11 ⟨rfl, hu11⟩
    have HU11 := Lib.hid (HU10.out.trans hu11)
    clear hu11 d0 d1 f2 f3
    go_wp2_with fail
    refine (HAW.out _).mono ?_
    rintro e w' ⟨rfl, hu⟩
    go_wp2_with fail
    go_ret
    exact ⟨rfl, HU11.out.trans hu⟩
  · obtain ⟨s1, s2, s3, s4⟩ := store_two (w := w7) (p := (.slice p9 VT.ps.length c9)) (q := (.slice n9 VT.ns.length d9)) HBK.out (Nat.le_refl _) hup.out
    have hF : Up w7 ((w9.setCell ⟨w7.heap.size, 0, none⟩ (.slice p9 VT.ps.length c9)).setCell ⟨w7.heap.size, 1, none⟩ (.slice n9 VT.ns.length d9)) ∧ ((w9.setCell ⟨w7.heap.size, 0, none⟩ (.slice p9 VT.ps.length c9)).setCell ⟨w7.heap.size, 1, none⟩ (.slice n9 VT.ns.length d9)).cell? ⟨w7.heap.size, 0, none⟩ = some (.slice p9 VT.ps.length c9) ∧ ((w9.setCell ⟨w7.heap.size, 0, none⟩ (.slice p9 VT.ps.length c9)).setCell ⟨w7.heap.size, 1, none⟩ (.slice n9 VT.ns.length d9)).cell? ⟨w7.heap.size, 1, none⟩ = some (.slice n9 VT.ns.length d9) ∧ TreeAt Any ((w9.setCell ⟨w7.heap.size, 0, none⟩ (.slice p9 VT.ps.length c9)).setCell ⟨w7.heap.size, 1, none⟩ (.slice n9 VT.ns.length d9)) (.agg #[(.slice p9 VT.ps.length c9), (.slice n9 VT.ns.length d9)]) VT := ⟨s1, s2, s3, tree_off HP9.out HN9.out HBK.out s4⟩
    clear s1 s2 s3 s4 y0 y1 y2 y3 HBK
    have HF := Lib.hid hF
    clear hF
    generalize (w9.setCell ⟨w7.heap.size, 0, none⟩ (.slice p9 VT.ps.length c9)).setCell ⟨w7.heap.size, 1, none⟩ (.slice n9 VT.ns.length d9) = w10 at *
    obtain ⟨f1, f2, f3, f4⟩ := HF.out
    have d0 := f1.cell HD0.out
    have d1 := f1.cell HD1.out
    have HS10 := Lib.hid (HSA.out w10 _ _ (HU7.out.keep (f1.kept _)) f4)
    have HU10 := Lib.hid (HU.out.trans (HX7.out.trans f1))
    clear f1 f4 HF
    go_wp2_with fail
    refine HS10.out.mono ?_
    rintro e w11 ⟨rfl, hu11⟩
    have HU11 := Lib.hid (HU10.out.trans hu11)
    clear hu11 d0 d1 f2 f3
    go_wp2_with fail
    refine (HAW.out _).mono ?_
    rintro e w' ⟨rfl, hu⟩
    go_wp2_with fail
    go_ret
    exact ⟨rfl, HU11.out.trans hu⟩
  · obtain ⟨s1, s2, s3, s4⟩ := store_two (w := w7) (p := (.slice p9 VT.ps.length c9)) (q := (.slice n9 VT.ns.length d9)) HBK.out (Nat.le_refl _) hup.out
    have hF : Up w7 ((w9.setCell ⟨w7.heap.size, 0, none⟩ (.slice p9 VT.ps.length c9)).setCell ⟨w7.heap.size, 1, none⟩ (.slice n9 VT.ns.length d9)) ∧ ((w9.setCell ⟨w7.heap.size, 0, none⟩ (.slice p9 VT.ps.length c9)).setCell ⟨w7.heap.size, 1, none⟩ (.slice n9 VT.ns.length d9)).cell? ⟨w7.heap.size, 0, none⟩ = some (.slice p9 VT.ps.length c9) ∧ ((w9.setCell ⟨w7.heap.size, 0, none⟩ (.slice p9 VT.ps.length c9)).setCell ⟨w7.heap.size, 1, none⟩ (.slice n9 VT.ns.length d9)).cell? ⟨w7.heap.size, 1, none⟩ = some (.slice n9 VT.ns.length d9) ∧ TreeAt Any ((w9.setCell ⟨w7.heap.size, 0, none⟩ (.slice p9 VT.ps.length c9)).setCell ⟨w7.heap.size, 1, none⟩ (.slice n9 VT.ns.length d9)) (.agg #[(.slice p9 VT.ps.length c9), (.slice n9 VT.ns.length d9)]) VT := ⟨s1, s2, s3, tree_off HP9.out HN9.out HBK.out s4⟩
    clear s1 s2 s3 s4 y0 y1 y2 y3 HBK
    have HF := Lib.hid hF
    clear hF
    generalize (w9.setCell ⟨w7.heap.size, 0, none⟩ (.slice p9 VT.ps.length c9)).setCell ⟨w7.heap.size, 1, none⟩ (.slice n9 VT.ns.length d9) = w10 at *
    obtain ⟨f1, f2, f3, f4⟩ := HF.out
    have d0 := f1.cell HD0.out
    have d1 := f1.cell HD1.out
    have HS10 := Lib.hid (HSA.out w10 _ _ (HU7.out.keep (f1.kept _)) f4)
    have HU10 := Lib.hid (HU.out.trans (HX7.out.trans f1))
    clear f1 f4 HF
    go_wp2_with fail
    refine HS10.out.mono ?_
    rintro e w11 ⟨rfl, hu11⟩
    have HU11 := Lib.hid (HU10.out.trans hu11)
    clear hu11 d0 d1 f2 f3
    go_wp2_with fail
    refine (HAW.out _).mono ?_
    rintro e w' ⟨rfl, hu⟩
    go_wp2_with fail
    go_ret
    exact ⟨rfl, HU11.out.trans hu⟩
end Go.Proofs.YtpjijbophjdgaaaGreat
