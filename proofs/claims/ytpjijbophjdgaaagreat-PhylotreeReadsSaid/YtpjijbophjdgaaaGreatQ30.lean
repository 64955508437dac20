/- The contracts of layer 31's reference's Leaves, below and Ancestor. strings.Builder: WriteByte, WriteString, String: laid -/
import Derived.Test.YtpjijbophjdgaaaGreatQ29
import Derived.Test.YtpjijbophjdgaaaGreatQ3
import Derived.Test.YtpjijbophjdgaaaGreatQ23
import Derived.Shelf.SlGeneric
import Derived.Shelf.Strings.BuilderK
import Derived.Ground.NamesProg
import Derived.Ground.Names2Prog
import Derived.Test.YtpjijbophjdgaaaGreatProg
namespace Go.Proofs.YtpjijbophjdgaaaGreat
open Go.RowKit Go.Deep
theorem anc_stop {ps : List Int} (hp : pOkB ps = true) {a b k : Nat} (ha : a < ps.length) (hb : b < ps.length) (h1 : hitB ps k a = true) (h2 : hitB ps k b = true) (h : ∀ j, k < j → j < ps.length → ¬ (hitB ps j a = true ∧ hitB ps j b = true)) : ancN ps a b = k := by
  obtain ⟨g1, g2, g3⟩ := anc_hit hp _ a b (Nat.le_refl _) ha hb
  have hl := anc_lt hp ha hb
  have h3 := hit_le hp (show ancN ps a b < ps.length by omega) (g3 k h1 h2)
  rcases Nat.lt_or_ge k (ancN ps a b) with c | c
  · exact absurd ⟨g1, g2⟩ (h _ c (by omega))
  · omega
theorem anc_none {ps : List Int} (hp : pOkB ps = true) {a b : Nat} (ha : a < ps.length) (hb : b < ps.length) (h : ∀ j, 0 < j → j < ps.length → ¬ (hitB ps j a = true ∧ hitB ps j b = true)) : ancN ps a b = 0 := by
  obtain ⟨g1, g2, _⟩ := anc_hit hp _ a b (Nat.le_refl _) ha hb
  have hl := anc_lt hp ha hb
  rcases Nat.eq_zero_or_pos (ancN ps a b) with c | c
  · exact c
  · exact absurd ⟨g1, g2⟩ (h _ c (by omega))
set_option maxRecDepth 100000 in
set_option maxHeartbeats 2000000 in
theorem below31R_t (S : Nat → Prop) (w : World) (v : Value) (t : Tre) (a b : Nat) (hT : TreeAt S w v t) (hok : pOkB t.ps = true) (ha : a < t.ps.length) :
    Calls Tryz.prog 112 #[v, .int .i64 a, .int .i64 b] w fun e w' => e = .returned (.bool (hitB t.ps b a)) ∧ Up w w' := by
  obtain ⟨P, N, rfl, hP, hN⟩ := hT
  obtain ⟨pp, pc, rfl, _, _⟩ := SlAt.open hP
  have hP : IntsAt S w (.slice pp t.ps.length pc) t.ps := hP
  have hu := Up.alloc w (.cells #[.slice pp t.ps.length pc, N] 45)
  have hc0 := box2_0 w (.slice pp t.ps.length pc) N 45
  have HP1 := Lib.hid (IntsAt.keep hP (hu.kept S))
  have HU := Lib.hid hu
  have HPO := Lib.hid hok
  have HC0 := Lib.hid hc0
  clear hu hP hN hok
  go_enter Tryz.func112, Tryz.ntmps112
  go_wp2_with fail
  generalize w.alloc (.cells #[.slice pp t.ps.length pc, N] 45) = w1 at *
  go_loop [1] (fun q => ∃ k : Nat, k ≤ a ∧ q = .int .i64 k ∧ Hid (climb t.ps b k k = climb t.ps b a a)) (fun q => (intOf q).toNat)
  case atStart => exact ⟨a, Nat.le_refl _, rfl, rfl⟩
  case round =>
    obtain ⟨k, hk, rfl, hc⟩ := hrel
    have hkl : k < t.ps.length := by omega
    have j3 : (0 : Int) ≤ (k : Int) := by omega
    have j4 : (k : Int) < (t.ps.length : Int) := by omega
    by_cases hnk : b < k
    · have hpar := pOkB_par HPO.out hkl (by omega)
      have hst := climb_step HPO.out hkl hnk
      obtain ⟨b2, off, rfl, hcell⟩ := ints_get HP1.out hkl
      have d1 : decide ((b : Int) < (k : Int)) = true := by simp; omega
      obtain ⟨p, hp⟩ : ∃ p : Nat, gi t.ps k = p := ⟨(gi t.ps k).toNat, (Int.toNat_of_nonneg hpar.1).symm⟩
      rw [hp] at hcell hpar hst
      have HST : Hid (climb t.ps b p p = climb t.ps b a a) := by unfold Hid; rw [← hc.out, hst]; rfl
      have hpk : p < k := by omega
      clear hpar hst hp hc
      go_wp2_with fail
      go_round
      case rel => exact ⟨p, by omega, rfl, HST⟩
      case measure => simp [intOf]; omega
    · have d1 : decide ((b : Int) < (k : Int)) = false := by simp; omega
      have hck := hc.out
      rw [climb_stop hnk] at hck
      have HR : Hid (hitB t.ps b a = ((k : Int) == (b : Int))) := by
        unfold Hid hitB
        rw [← hck, Bool.eq_iff_iff]; simp; omega
      clear hck hc
      go_wp2_with fail
      go_ret
      exact ⟨ret_bool (by rw [← HR.out]), HU.out⟩
set_option maxRecDepth 100000 in
set_option maxHeartbeats 2000000 in
theorem leaves31R_t (S : Nat → Prop) (w : World) (v : Value) (t : Tre) (h : TreeAt S w v t) (hp : t.ps.length ≤ 1000000) (hn : t.ns.length ≤ 1000000) (hz : ∀ k, (gs t.ns k).size ≤ 70000) :
    Calls Tryz.prog 41 #[v] w (LvPost w t) := by
  obtain ⟨P, N, rfl, hP, hN⟩ := h
  have ht0 : TreeAt S (w.alloc (.cells #[P, N] 45)) (.agg #[P, N]) t := TreeAt.keep ⟨P, N, rfl, hP, hN⟩ (Kept.below ((Below.refl _ w).alloc (Nat.le_refl _) _))
  have hb0 : Below w.heap.size w (w.alloc (.cells #[P, N] 45)) := (Below.refl _ _).alloc (Nat.le_refl _) _
  have hcq : (w.alloc (.cells #[P, N] 45)).cell? ⟨w.heap.size, 1, none⟩ = some N := by simp [World.cell?_alloc_new]
  have hcp := box2_0 w P N 45
  have hck := checkR_t S (w.alloc (.cells #[P, N] 45)) _ t ht0 hp hn hz
  have HCK := Lib.hid hck
  have HCQ := Lib.hid hcq
  have HB0 := Lib.hid hb0
  have HN := Lib.hid hN
  clear hck hb0 ht0 hP hN
  by_cases he : treeErr t = 0
  · go_enter Tryz.func41, Tryz.ntmps41
    go_wp2_with fail
    refine HCK.out.mono ?_
    rintro e w1 ⟨rfl, hb1⟩
    rw [World.size_alloc] at hb1
    clear hcp hcq
    have hbw : Below w.heap.size w w1 := HB0.out.trans (hb1.mono (by omega))
    have hN1 := HN.out.keep (Kept.below hbw)
    have hcq : w1.cell? ⟨w.heap.size, 1, none⟩ = some N := (hb1.cell (p := ⟨w.heap.size, 1, none⟩) (by simp)).trans HCQ.out
    obtain ⟨q, cap2, rfl, hcap2, HNN⟩ := SlAt.open hN1
    have hHN := Lib.hid HNN
    have HCQ1 := Lib.hid hcq
    have hwz : w.heap.size ≤ w1.heap.size := hbw.size
    have hwlt : w.heap.size < w1.heap.size := by have := hb1.size; rw [World.size_alloc] at this; omega
    have HWLT := Lib.hid hwlt
    have HE := Lib.hid he
    rw [he]
    clear HNN hN1 HCK HCQ HB0 HN hb1 he hwlt
    go_wp2_with fail
    clear hcq
    go_loopw [4, 5] (fun v i wr => ∃ k : Nat, k ≤ t.ns.length ∧ i = .int .i64 k ∧ Owns w1.heap.size 3 wr v ((leavesK t.ns k).map (Value.int .i64)) ∧ Below w1.heap.size w1 wr) (fun _ i _ => t.ns.length - (intOf i).toNat)
    case atStart => exact ⟨0, Nat.zero_le _, rfl, Owns.nil _ _ _, Below.refl _ _⟩
    case round =>
      obtain ⟨k, hk, rfl, hown, hbr⟩ := hrel
      obtain ⟨wo, rfl⟩ : ∃ wo : World, wo = wr := ⟨_, rfl⟩
      have hcq : wo.cell? ⟨w.heap.size, 1, none⟩ = some (.slice q t.ns.length cap2) := (hbr.cell (p := ⟨w.heap.size, 1, none⟩) HWLT.out).trans HCQ1.out
      by_cases hlt : k < t.ns.length
      · obtain ⟨b, off, rfl, hc0⟩ := hHN.out k hlt
        have hc : wo.cell? ⟨b, off + k, none⟩ = some (.string (gs t.ns k)) := by
          rw [hbr.cell (p := ⟨b, off + k, none⟩) (World.block_lt_of_cell? _ _ hc0)]; exact hc0
        have hsz := hbr.size
        have hsucc := leavesK_succ t.ns k
        have hll := leavesK_len t.ns k
        have hnil := toList_nil (gs t.ns k)
        have HNIL := Lib.hid hnil
        have HSU := Lib.hid hsucc
        have HLL : Hid (((leavesK t.ns k).map (Value.int .i64)).length ≤ 1000000) := by unfold Hid; rw [List.length_map]; omega
        have i1 : (0 : Int) ≤ (k : Int) := by omega
        have i2 : (k : Int) < (t.ns.length : Int) := by omega
        clear hc0 hnil hsucc hll hHN hz
        generalize hgk : gs t.ns k = g at *
        clear hgk
        by_cases hg0 : g.size = 0
        · have hg1 : g.toList = [] := HNIL.out.2 hg0
          have HG0 := Lib.hid hg0
          clear hg0
          go_wp2
          go_roundw
          case rel => exact ⟨k + 1, by omega, by go_num, by rw [HSU.out, if_pos HG0.out, List.append_nil]; exact hown, hbr⟩
          case measure => simp [intOf]; omega
        · have hg1 : (g.toList == []) = false := by
            rw [Bool.eq_false_iff]; intro e; exact hg0 (HNIL.out.1 (by simpa using e))
          have hg2 : (g.toList != []) = true := by
            rw [bne_iff_ne]; intro e; exact hg0 (HNIL.out.1 (by simpa using e))
          have HG0 := Lib.hid hg0
          clear hg0
          go_wp2_with (at_builtin; refine wpList_app1 wo rfl _ _ 26 rfl w1.heap.size 3 _ 8 Tryz.underlying26 Tryz.infoI rfl (by decide) hown rfl _ rfl rfl HLL.out hsz ?_; intro g cap w2 hown1 hg1 hb1)
          go_roundw
          case rel => exact ⟨k + 1, by omega, by go_num, by rw [HSU.out, if_neg HG0.out, List.map_append]; rw [List.length_map] at hown1; exact hown1, hbr.trans hb1⟩
          case measure => simp [intOf]; omega
      · obtain rfl : k = t.ns.length := by omega
        clear hlt hk hHN
        go_wp2
        go_ret2
        exact ⟨hbw.trans (hbr.mono hwz), .inr ⟨HE.out, _, rfl, hown.ints.sub fun b hb _ => Nat.le_trans hwz hb⟩⟩
  · have he' : (treeErr t != 0) = true := by simpa using he
    have HE := Lib.hid he
    clear he
    go_enter Tryz.func41, Tryz.ntmps41
    go_wp2_with fail
    refine HCK.out.mono ?_
    rintro e w1 ⟨rfl, hb1⟩
    rw [World.size_alloc] at hb1
    go_wp2_with fail
    go_ret2
    exact ⟨HB0.out.trans (hb1.mono (by omega)), .inl ⟨HE.out, rfl⟩⟩
set_option maxRecDepth 100000 in
set_option maxHeartbeats 2000000 in
theorem ancestor31R_t (S : Nat → Prop) (w : World) (v : Value) (t : Tre) (a b : Int) (hT : TreeAt S w v t) (hp : t.ps.length ≤ 1000000) (hn : t.ns.length ≤ 1000000) (hz : ∀ k, (gs t.ns k).size ≤ 70000) :
    Calls Tryz.prog 45 #[v, .int .i64 a, .int .i64 b] w fun e w' => e = .returned (.tuple #[.int .i64 (anV t a b), .int .i64 (anE t a b)]) ∧ Up w w' := by
  obtain ⟨P, N, rfl, hP, hN⟩ := hT
  obtain ⟨pp, pc, rfl, _, _⟩ := SlAt.open hP
  obtain ⟨pn, pm, rfl, _, _⟩ := SlAt.open hN
  have hP : IntsAt S w (.slice pp t.ps.length pc) t.ps := hP
  have hN : StrsAt S w (.slice pn t.ns.length pm) t.ns := hN
  have ha := Up.alloc w (.cells #[.slice pp t.ps.length pc, .slice pn t.ns.length pm] 45)
  have HC0 := Lib.hid (box2_0 w (.slice pp t.ps.length pc) (.slice pn t.ns.length pm) 45)
  have HC1 := Lib.hid (box2_1 w (.slice pp t.ps.length pc) (.slice pn t.ns.length pm) 45)
  have HT1 : Hid (TreeAt S _ _ t) := TreeAt.keep ⟨_, _, rfl, hP, hN⟩ (ha.kept S)
  have HU := Lib.hid ha
  have hc0 := HC0.out
  have hc1 := HC1.out
  have HCK := Lib.hid (checkR_t S _ _ t HT1.out hp hn hz)
  clear ha hP hN hz
  go_enter Tryz.func45, Tryz.ntmps45
  go_wp2_with fail
  generalize w.alloc (.cells #[.slice pp t.ps.length pc, .slice pn t.ns.length pm] 45) = w1 at *
  refine HCK.out.mono ?_
  rintro e w2 ⟨rfl, hu2⟩
  have hu2 : Up w1 w2 := hu2
  have HU2 := Lib.hid (HU.out.trans hu2)
  have hc0 := hu2.cell HC0.out
  have hc1 := hu2.cell HC1.out
  have HC02 := Lib.hid hc0
  have HC12 := Lib.hid hc1
  have HT2 := Lib.hid (HT1.out.keep (hu2.kept S))
  clear hu2 HCK HT1 HU HC0 HC1
  by_cases he : treeErr t = 0
  · obtain ⟨hp0, hp64, hnl, hok, _⟩ := treeErr_zero he
    have HOK := Lib.hid hok
    have HXE : Hid (anE t a b = if a < 0 ∨ b < 0 ∨ (t.ps.length : Int) ≤ a ∨ (t.ps.length : Int) ≤ b then 2 else 0) := by unfold Hid anE; rw [if_neg (by simp [he])]
    rw [he]
    clear he hnl hok
    by_cases c1 : a < 0 ∨ b < 0 ∨ (t.ps.length : Int) ≤ a ∨ (t.ps.length : Int) ≤ b
    · have HX1 : Hid (anE t a b = 2) := by unfold Hid; rw [HXE.out, if_pos c1]
      have hv : anV t a b = 0 := by unfold anV; rw [HX1.out]; rfl
      have HV := Lib.hid hv
      have dall : (decide (a < 0) || (decide ((t.ps.length : Int) ≤ a) || (decide (b < 0) || decide ((t.ps.length : Int) ≤ b)))) = true := by
        simp only [Bool.or_eq_true, decide_eq_true_eq]; omega
      have HD := Lib.hid dall
      clear hv dall c1
      cases x1 : decide (a < 0) <;> cases x2 : decide ((t.ps.length : Int) ≤ a) <;> cases x3 : decide (b < 0) <;> cases x4 : decide ((t.ps.length : Int) ≤ b)
      all_goals first
        | (exfalso; have := HD.out; rw [x1, x2, x3, x4] at this; exact absurd this (by decide))
        | (clear HD; go_wp2_with fail; exact ⟨rfl, .tuple #[.int .i64 0, .int .i64 2], by simp [results, Tryz.results45, go_sem], by rw [HV.out, HX1.out], HU2.out⟩)
    · have d1 : decide (a < 0) = false := decide_eq_false (by omega)
      have d2 : decide ((t.ps.length : Int) ≤ a) = false := decide_eq_false (by omega)
      have d3 : decide (b < 0) = false := decide_eq_false (by omega)
      have d4 : decide ((t.ps.length : Int) ≤ b) = false := decide_eq_false (by omega)
      have HX1 : Hid (anE t a b = 0) := by unfold Hid; rw [HXE.out, if_neg (by omega)]
      obtain ⟨x, rfl⟩ := Int.eq_ofNat_of_zero_le (show 0 ≤ a by omega)
      obtain ⟨y, rfl⟩ := Int.eq_ofNat_of_zero_le (show 0 ≤ b by omega)
      have HV : Hid (anV t (x : Int) (y : Int) = (ancN t.ps x y : Nat)) := by unfold Hid anV; rw [HX1.out, if_neg (by simp), Int.toNat_natCast, Int.toNat_natCast]
      have hxl : x < t.ps.length := by omega
      have hyl : y < t.ps.length := by omega
      have HXY := Lib.hid (And.intro hxl hyl)
      have hp1 : (1 : Int) ≤ (t.ps.length : Int) := by omega
      have m1 : ¬ t.ps.length ≤ x := by omega
      have m2 : ¬ t.ps.length ≤ y := by omega
      have m3 : (x : Int) < (t.ps.length : Int) := by omega
      have m4 : (y : Int) < (t.ps.length : Int) := by omega
      clear c1 hc1 hxl hyl
      go_wp2_with fail
      clear hc0 d1 d2 d3 d4 m1 m2 m3 m4
      go_loopw [9] (fun i wr => ∃ k : Nat, k < t.ps.length ∧ i = .int .i64 k ∧ Hid (∀ j, k < j → j < t.ps.length → ¬ (hitB t.ps j x = true ∧ hitB t.ps j y = true)) ∧ Hid (Up w2 wr)) (fun i _ => (intOf i).toNat)
      case atStart => exact ⟨t.ps.length - 1, by omega, by congr 1; first | go_num | (unfold wrap64; omega), fun j h1 h2 => by omega, Up.refl _⟩
      case round =>
        obtain ⟨k, hk, rfl, hno, hUr⟩ := hrel
        obtain ⟨wo, rfl⟩ : ∃ wo : World, wo = wr := ⟨_, rfl⟩
        have hc0 := hUr.out.cell HC02.out
        have hc1 := hUr.out.cell HC12.out
        have HUo := Lib.hid hUr.out
        have HBX := Lib.hid (fun W (h : Up wo W) => below31R_t S W (.agg #[.slice pp t.ps.length pc, .slice pn t.ns.length pm]) t x k (HT2.out.keep ((hUr.out.trans h).kept S)) HOK.out HXY.out.1)
        have HBY := Lib.hid (fun W (h : Up wo W) => below31R_t S W (.agg #[.slice pp t.ps.length pc, .slice pn t.ns.length pm]) t y k (HT2.out.keep ((hUr.out.trans h).kept S)) HOK.out HXY.out.2)
        by_cases h0 : k = 0
        · subst h0
          have HR : Hid (ancN t.ps x y = 0) := anc_none HOK.out HXY.out.1 HXY.out.2 hno.out
          clear hno hUr
          go_wp2_with fail
          exact ⟨rfl, .tuple #[.int .i64 0, .int .i64 0], by simp [results, Tryz.results45, go_sem], by rw [HV.out, HX1.out, HR.out]; rfl, HU2.out.trans HUo.out⟩
        · have i1 : (0 : Int) < (k : Int) := by omega
          have i2 : 0 < k := by omega
          have HNO := Lib.hid hno.out
          have HK := Lib.hid hk
          clear hno hUr h0
          cases hx : hitB t.ps k x
          · have HHX := Lib.hid hx
            rw [hx] at HBX
            clear hx
            go_wp2_with fail
            refine (HBX.out _ (Up.refl _)).mono ?_
            rintro e w3 ⟨rfl, hu3⟩
            have HU3 := Lib.hid (HUo.out.trans hu3)
            have hc0 := HU3.out.cell HC02.out
            have hc1 := HU3.out.cell HC12.out
            clear hu3
            go_wp2_with fail
            go_roundw
            case rel => exact ⟨k - 1, by have := HK.out; omega, by congr 1; first | go_num | (unfold wrap64; omega), fun j h1 h2 => by
              by_cases e : j = k
              · subst e; rw [HHX.out]; simp
              · exact HNO.out j (by omega) h2, HU3.out⟩
            case measure => simp [intOf]; omega
          · have HHX := Lib.hid hx
            rw [hx] at HBX
            clear hx
            go_wp2_with fail
            refine (HBX.out _ (Up.refl _)).mono ?_
            rintro e w3 ⟨rfl, hu3⟩
            have HU3 := Lib.hid (HUo.out.trans hu3)
            have hc0 := HU3.out.cell HC02.out
            have hc1 := HU3.out.cell HC12.out
            have HB3 := Lib.hid (HBY.out w3 hu3)
            clear hu3 HBY HBX
            cases hy : hitB t.ps k y
            · have HHY := Lib.hid hy
              rw [hy] at HB3
              clear hy
              go_wp2_with fail
              refine HB3.out.mono ?_
              rintro e w4 ⟨rfl, hu4⟩
              have HU4 := Lib.hid (HU3.out.trans hu4)
              have hc0 := HU4.out.cell HC02.out
              have hc1 := HU4.out.cell HC12.out
              clear hu4
              go_wp2_with fail
              go_roundw
              case rel => exact ⟨k - 1, by have := HK.out; omega, by congr 1; first | go_num | (unfold wrap64; omega), fun j h1 h2 => by
                by_cases e : j = k
                · subst e; rw [HHY.out]; simp
                · exact HNO.out j (by omega) h2, HU4.out⟩
              case measure => simp [intOf]; omega
            · have HHY := Lib.hid hy
              rw [hy] at HB3
              clear hy
              have HR : Hid (ancN t.ps x y = k) := anc_stop HOK.out HXY.out.1 HXY.out.2 HHX.out HHY.out HNO.out
              go_wp2_with fail
              refine HB3.out.mono ?_
              rintro e w4 ⟨rfl, hu4⟩
              have HU4 := Lib.hid (HU3.out.trans hu4)
              clear hu4
              go_wp2_with fail
              exact ⟨rfl, .tuple #[.int .i64 k, .int .i64 0], by simp [results, Tryz.results45, go_sem], by rw [HV.out, HX1.out, HR.out], HU2.out.trans HU4.out⟩
  · have he1 : (treeErr t != 0) = true := by simpa using he
    have HX1 : Hid (anE t a b = 1) := by unfold Hid anE; rw [if_pos he]
    clear he
    generalize treeErr t = te at he1 ⊢
    go_wp2_with fail
    have hv : anV t a b = 0 := by unfold anV; rw [HX1.out]; rfl
    exact ⟨rfl, .tuple #[.int .i64 0, .int .i64 1], by simp [results, Tryz.results45, go_sem], by rw [hv, HX1.out], HU2.out⟩
end Go.Proofs.YtpjijbophjdgaaaGreat
namespace Go.Proofs
open Go.Shelf
def Tryz.bldG_ren : Go.Shelf.Ren := ⟨fun | 169 => 108 | n => n, fun | 70 => 128 | 9 => 9 | 0 => 0 | 72 => 130 | 37 => 95 | 127 => 192 | 3 => 3 | 5 => 5 | n => n, fun | n => n⟩
theorem Tryz.bldG : Go.Proofs.Lays.n169 Tryz.prog Tryz.bldG_ren := {
  mixed := by kernel_rfl
  f169 := Tryz.func108.trans (congrArg some (by kernel_rfl))
  t0 := Tryz.underlying0
  a0 := Tryz.isAgg0
  z0 := Tryz.sizeOf0
  v0 := Tryz.zeroValue0
  t3 := Tryz.underlying3
  a3 := Tryz.isAgg3
  z3 := Tryz.sizeOf3
  v3 := Tryz.zeroValue3
  t9 := Tryz.underlying9
  a9 := Tryz.isAgg9
  z9 := Tryz.sizeOf9
  v9 := Tryz.zeroValue9
  t37 := Tryz.underlying95
  a37 := Tryz.isAgg95
  z37 := Tryz.sizeOf95
  v37 := Tryz.zeroValue95
  t70 := Tryz.underlying128
  a70 := Tryz.isAgg128
  z70 := Tryz.sizeOf128
  v70 := Tryz.zeroValue128
  t72 := Tryz.underlying130
  a72 := Tryz.isAgg130
  z72 := Tryz.sizeOf130
  v72 := Tryz.zeroValue130
  t127 := Tryz.underlying192
  a127 := Tryz.isAgg192
  z127 := Tryz.sizeOf192
  v127 := Tryz.zeroValue192 }
end Go.Proofs
