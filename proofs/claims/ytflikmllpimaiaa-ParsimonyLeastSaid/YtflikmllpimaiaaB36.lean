/- The walk of ParsimonyLeast. -/
import Derived.Test.YtflikmllpimaiaaB30
import Derived.Test.YtflikmllpimaiaaB31
import Derived.Test.YtflikmllpimaiaaB32
import Derived.Test.YtflikmllpimaiaaS13
namespace Go.Proofs.Ytflikmllpimaiaa
open Go.RowKit Go.Deep
def BytesAt (S : Nat → Prop) (w : World) (v : Value) (xs : List Int) : Prop := SlAt S w v xs.length (fun k => .int .u8 (gi xs k))
theorem BytesAt.keep {S : Nat → Prop} {w w' : World} {v : Value} {xs : List Int} (h : BytesAt S w v xs) (k : Kept S w w') : BytesAt S w' v xs := SlAt.keep h k
theorem bytes_get {S : Nat → Prop} {w : World} {p : Option Addr} {n cap : Nat} {xs : List Int} (h : BytesAt S w (.slice p n cap) xs) {k : Nat} (hk : k < xs.length) : ∃ b off, p = some ⟨b, off, none⟩ ∧ w.cell? ⟨b, off + k, none⟩ = some (.int .u8 (gi xs k)) := by
  obtain ⟨q, c, e, _, H⟩ := SlAt.open h
  injection e with e1
  subst e1
  exact H k hk
set_option maxRecDepth 100000 in
set_option maxHeartbeats 2000000 in
theorem least_law (w : World) (v vs vc vp : Value) (t : Tre) (st : List Int) (cs : List (List Int)) (pk : List Int) (hT : TreeAt Any w v t) (hS : IntsAt Any w vs st) (hC : RowsAt Any w vc cs) (hP : BytesAt Any w vp pk)
    (hz : Big t st cs) (hpl : pk.length ≤ 9223372036854775807) (hpb : ∀ k, 0 ≤ gi pk k ∧ gi pk k ≤ 255) :
    Calls Try.prog 5 #[v, vs, vc, vp] w (BoPost w true) := by
  obtain ⟨P, N, rfl, hPP, hN⟩ := hT
  obtain ⟨pp, pcap, rfl, hpcap, _⟩ := SlAt.open hPP
  have hP0 : IntsAt Any w (.slice pp t.ps.length pcap) t.ps := hPP
  obtain ⟨qS, capS, rfl, hcapS, _⟩ := SlAt.open hS
  have hS : IntsAt Any w (.slice qS st.length capS) st := hS
  obtain ⟨qC, capC, rfl, hcapC, _⟩ := rows_open hC
  obtain ⟨qP, capP, rfl, hcapP, _⟩ := SlAt.open hP
  have hP : BytesAt Any w (.slice qP pk.length capP) pk := hP
  have hu := Up.alloc w (.cells #[.slice pp t.ps.length pcap, N] 25)
  have hT1 : TreeAt Any (w.alloc (.cells #[.slice pp t.ps.length pcap, N] 25)) (.agg #[.slice pp t.ps.length pcap, N]) t := TreeAt.keep ⟨_, N, rfl, hP0, hN⟩ (hu.kept _)
  have HT := Lib.hid hT1
  have HS := Lib.hid (IntsAt.keep hS (hu.kept _))
  have HC := Lib.hid (hC.keep (hu.kept _))
  have HP := Lib.hid (BytesAt.keep hP (hu.kept _))
  have HU := Lib.hid hu
  have HB0 := Lib.hid (box2_0 w (.slice pp t.ps.length pcap) N 25)
  have HB1 := Lib.hid (box2_1 w (.slice pp t.ps.length pcap) N 25)
  have HFI := Lib.hid (fine_t Any _ _ _ _ t st cs HT.out HS.out HC.out hz)
  have HPB := Lib.hid hpb
  have hz5 := hz.2.2.2.2.1
  have hz1 := hz.1
  clear hu hT1 hPP hP0 hP hN hS hC hz hpb
  go_enter Try.func5, Try.ntmps5
  go_wp2_with fail
  generalize w.alloc (.cells #[.slice pp t.ps.length pcap, N] 25) = w1 at *
  refine HFI.out.mono ?_
  rintro e w2 ⟨rfl, hu2⟩
  have HU2 := Lib.hid (HU.out.trans hu2)
  have hc0 := hu2.cell HB0.out
  have hc1 := hu2.cell HB1.out
  have HT2 := Lib.hid (HT.out.keep (hu2.kept _))
  have HS2 := Lib.hid (IntsAt.keep HS.out (hu2.kept _))
  have HC2 := Lib.hid (HC.out.keep (hu2.kept _))
  have HP2 := Lib.hid (BytesAt.keep HP.out (hu2.kept _))
  clear HU HB0 HB1 HT HS HC HP hu2 HFI
  by_cases hf : fineB t st cs = true ∧ t.ps.length ≤ pk.length ∧ pk.length ≤ 40
  · obtain ⟨hf, hf2, hf3⟩ := hf
    obtain ⟨hg, hv⟩ := fine_sized hf
    obtain ⟨hsz, _⟩ := great_sized hg
    have HV := Lib.hid hv
    have HSZ := Lib.hid hsz
    obtain ⟨hps1, _, hnl, _, _⟩ := treeErr_zero hv.tree
    have hm0 := (matErr_zero hv.mat).1
    have hm16 := (matErr_zero hv.mat).2.1
    have HNL := Lib.hid hnl
    rw [hf]
    have i1 : decide (pk.length < t.ps.length) = false := by simp; omega
    have i2 : decide (40 < (pk.length : Int)) = false := by simp; omega
    clear hf hg hv hsz hnl
    go_wp2_with fail
    have HC0 := Lib.hid hc0
    have HC1 := Lib.hid hc1
    clear hc0 hc1
    go_loopw [9, 10, 40] (fun a _ i wr => ∃ k : Nat, k ≤ t.ps.length ∧ i = .int .i64 k ∧ Hid (Owns w2.heap.size 3 wr a ((picked pk cs.length k).map (Value.int .i64))) ∧ Hid (Up w2 wr)) (fun _ _ i _ => t.ps.length - (intOf i).toNat)
    case atStart => exact ⟨0, Nat.zero_le _, rfl, Owns.nil _ _ _, Up.refl _⟩
    case round =>
      obtain ⟨k, hk, rfl, hA, hUr⟩ := hrel
      obtain ⟨wo, rfl⟩ : ∃ wo : World, wo = wr := ⟨_, rfl⟩
      by_cases hlt : k < t.ps.length
      · obtain ⟨pb, po, rfl, hcp⟩ := bytes_get (HP2.out.keep (hUr.out.kept _)) (k := k) (by omega)
        have hb := HPB.out k
        have hsz := hUr.out.size
        have HTK : Hid ((picked pk cs.length (k + 1)).map (Value.int .i64) = (picked pk cs.length k).map (Value.int .i64) ++ [.int .i64 (gi pk k % (cs.length : Int))]) := by
          unfold Hid; rw [picked_succ, List.map_append]; rfl
        have HLN : Hid (((picked pk cs.length k).map (Value.int .i64)).length = k) := by unfold Hid; rw [List.length_map, picked_len]
        generalize gi pk k = c at *
        obtain ⟨hb1, hb2⟩ := hb
        go_wp2_with (at_builtin; refine wpList_appN wo rfl _ _ 22 rfl w2.heap.size 3 _ 8 Try.underlying22 Try.infoI rfl (by decide) hA.out rfl _ rfl rfl k HLN.out (by omega) hsz ?_; intro g cap w8 hown1 hg1 hbe1)
        have HO1 : Hid (Owns w2.heap.size 3 w8 (.slice (some ⟨g, 0, none⟩) (k + 1) cap) ((picked pk cs.length (k + 1)).map (Value.int .i64))) := by unfold Hid; rw [HTK.out]; exact hown1
        have HU8 : Hid (Up w2 w8) := Below.trans hUr.out hbe1
        clear hown1 hg1 hbe1
        go_roundw
        case rel => exact ⟨k + 1, by omega, by go_num, HO1, HU8⟩
        case measure => simp [intOf]; omega
      · obtain rfl : k = t.ps.length := by omega
        obtain ⟨ag, acap, rfl, hag, _⟩ := hA.out.set (j := 0) (by rw [List.length_map, picked_len]; exact hps1)
        rw [List.length_map, picked_len] at hA ⊢
        have hc0 := hUr.out.cell HC0.out
        have hc1 := hUr.out.cell HC1.out
        have HT3 := Lib.hid (HT2.out.keep (hUr.out.kept _))
        have HLV := Lib.hid (leavesR_t Any wo _ t HT3.out HSZ.out.1 HSZ.out.2.1 HSZ.out.2.2.1)
        clear hlt hk
        go_wp2_with fail
        refine HLV.out.mono ?_
        rintro e w3 ⟨hb, ⟨h1, _⟩ | ⟨_, lv, rfl, hlv⟩⟩
        · exact absurd HV.out.tree h1
        obtain ⟨lp, lc, rfl, _, _⟩ := SlAt.open hlv
        have hu3 : Up wo w3 := hb
        have hlv : IntsAt (fun b => wo.heap.size ≤ b) w3 (.slice lp (leavesL t.ns).length lc) (leavesL t.ns) := hlv
        have hu23 := hUr.out.trans hu3
        have HD0 := Lib.hid (hu3.cell hc0)
        have HD1 := Lib.hid (hu3.cell hc1)
        have HA3 := Lib.hid (hA.out.kept fun b _ hb2 => Below.block hb b hb2)
        have hago : ag < wo.heap.size := (ownBlock_lt hA.out rfl).2
        have HU3 := Lib.hid hu23
        have HLS : Hid (IntsAt (fun b => b ≠ ag) w3 (.slice lp (leavesL t.ns).length lc) (leavesL t.ns)) := hlv.sub fun b hb _ => by omega
        have hll : (leavesL t.ns).length ≤ 64 := by have := leavesL_len t.ns; have := HNL.out; have := (treeErr_zero HV.out.tree).2.1; omega
        clear hb hu3 hlv hu23 hc0 hc1 HLV HT3 hUr hA
        go_wp2_with fail
        go_loopw [13, 14, 64] (fun _ _ i wr => ∃ k : Nat, k ≤ (leavesL t.ns).length ∧ i = .int .i64 k ∧ Hid (Owns w2.heap.size 3 wr (.slice (some ⟨ag, 0, none⟩) t.ps.length acap) ((fitK t.ns st (picked pk cs.length t.ps.length) k).map (Value.int .i64))) ∧ Hid (w3.grownBy wr (some ag))) (fun _ _ i _ => (leavesL t.ns).length - (intOf i).toNat)
        case atStart => exact ⟨0, Nat.zero_le _, rfl, HA3, ⟨rfl, rfl, rfl, Nat.le_refl _, fun _ _ _ => rfl⟩⟩
        case round =>
          obtain ⟨k, hk, rfl, hA, hGr⟩ := hrel
          obtain ⟨wo, rfl⟩ : ∃ wo : World, wo = wr := ⟨_, rfl⟩
          have hup : Up w2 wo := Below.grown HU3.out hGr.out HU3.out.size fun b e => by cases e; exact hag
          by_cases hlt : k < (leavesL t.ns).length
          · obtain ⟨lb, lo, rfl, hcl⟩ := ints_get (HLS.out.keep (w' := wo) fun b hb hl => hGr.out.block b hl (by simp; exact hb)) hlt
            obtain ⟨q, hq, hqn, _⟩ := leaf_nat hlt
            rw [hq] at hcl
            have hks : k < st.length := by rw [HV.out.len]; exact hlt
            obtain ⟨sb, so, rfl, hcs⟩ := ints_get (IntsAt.keep HS2.out (hup.kept _)) hks
            have hqp : q < t.ps.length := by rw [← HNL.out]; exact hqn
            have HSTP : Hid (fitK t.ns st (picked pk cs.length t.ps.length) (k + 1) = if 0 ≤ gi st k then (fitK t.ns st (picked pk cs.length t.ps.length) k).set q (gi st k) else fitK t.ns st (picked pk cs.length t.ps.length) k) := by
              unfold Hid; rw [fitK, hq, Int.toNat_natCast]
            obtain ⟨ag', acap', e, _, hag2, hac, haf, hset⟩ := hA.out.set (j := q) (by rw [List.length_map, fitK_len, picked_len]; exact hqp)
            injection e with e1 e2 e3
            clear e2 e3
            injection e1 with e1
            injection e1 with e1
            subst e1
            generalize gi st k = s at *
            have hset2 := hset (.int .i64 s)
            rw [gi_set'] at hset2
            have HSET := Lib.hid hset2
            obtain ⟨y, hac⟩ : ∃ y, wo.cell? ⟨ag, q, none⟩ = some y := ⟨_, hac⟩
            clear hset hset2 hq
            by_cases h0 : 0 ≤ s
            · have HO1 : Hid (Owns w2.heap.size 3 (wo.setCell ⟨ag, q, none⟩ (.int .i64 s)) (.slice (some ⟨ag, 0, none⟩) t.ps.length acap) ((fitK t.ns st (picked pk cs.length t.ps.length) (k + 1)).map (Value.int .i64))) := by
                unfold Hid; rw [HSTP.out, if_pos h0]; exact HSET.out
              have HG1 : Hid (w3.grownBy (wo.setCell ⟨ag, q, none⟩ (.int .i64 s)) (some ag)) := grown_tr hGr.out ⟨rfl, rfl, rfl, by rw [World.size_setCell]; exact Nat.le_refl _, fun b _ hne => Below.heap_setCell wo _ _ b (fun e => hne (by rw [e]))⟩
              go_wp2_with fail
              go_roundw
              case rel => exact ⟨k + 1, by omega, by go_num, HO1, HG1⟩
              case measure => simp [intOf]; omega
            · have HO1 : Hid (Owns w2.heap.size 3 wo (.slice (some ⟨ag, 0, none⟩) t.ps.length acap) ((fitK t.ns st (picked pk cs.length t.ps.length) (k + 1)).map (Value.int .i64))) := by
                unfold Hid; rw [HSTP.out, if_neg h0]; exact hA.out
              go_wp2_with fail
              go_roundw
              case rel => exact ⟨k + 1, by omega, by go_num, HO1, hGr⟩
              case measure => simp [intOf]; omega
          · obtain rfl : k = (leavesL t.ns).length := by omega
            have hG3 : ∀ {b o : Nat} {x : Value}, b ≠ ag → w3.cell? ⟨b, o, none⟩ = some x → wo.cell? ⟨b, o, none⟩ = some x := fun hb hx => hGr.out.cell hx (by simp; exact hb)
            have hBne : w.heap.size ≠ ag := by have := World.block_lt_of_cell? w2 _ HC0.out; simp at this; omega
            have hd0 := hG3 hBne HD0.out
            have hd1 := hG3 hBne HD1.out
            have HT4 := Lib.hid (HT2.out.keep (hup.kept _))
            have HS4 := Lib.hid (IntsAt.keep HS2.out (hup.kept _))
            have HC4 := Lib.hid (HC2.out.keep (hup.kept _))
            have HA4 : Hid (IntsAt Any wo (.slice (some ⟨ag, 0, none⟩) t.ps.length acap) (fitK t.ns st (picked pk cs.length t.ps.length) (leavesL t.ns).length)) := hA.out.ints.sub fun _ _ _ => trivial
            have HU4 := Lib.hid (HU2.out.trans hup)
            have hle := fit_le HV.out pk
            have HLE := Lib.hid hle
            generalize fitK t.ns st (picked pk cs.length t.ps.length) (leavesL t.ns).length = all at *
            have HSC := Lib.hid (score_t Any wo _ _ _ t st cs HT4.out HS4.out HC4.out HSZ.out)
            clear hup hG3 hlt hk hle hGr hA
            go_wp2_with fail
            refine HSC.out.mono ?_
            rintro e w5 ⟨hu5, rfl⟩
            have HU5 := Lib.hid (HU4.out.trans hu5)
            have he0 := hu5.cell hd0
            have he1 := hu5.cell hd1
            have hsz2 : Sized t all cs := by
              obtain ⟨a1, a2, a3, a4, a5, a6⟩ := HSZ.out
              exact ⟨a1, a2, a3, by rw [HLE.out.1.1]; exact a1, a5, a6⟩
            have HCO := Lib.hid (pcost_t Any w5 _ _ _ t all cs (HT4.out.keep (hu5.kept _)) (IntsAt.keep HA4.out (hu5.kept _)) (HC4.out.keep (hu5.kept _)) hsz2)
            have hp := HV.out.par
            rw [hp]
            clear hp hu5 hsz2 hd0 hd1 HU4 HT4 HS4 HC4 HA4 HSC
            go_wp2_with fail
            refine HCO.out.mono ?_
            rintro e w6 ⟨hu6, rfl⟩
            have HU6 := Lib.hid (HU5.out.trans hu6)
            have hce : costErr t all cs = 0 := AllOk.err HV.out.tree HV.out.mat HLE.out.1
            have hle2 : scoreN t st cs ≤ costN t all cs := by unfold costN; rw [if_pos hce]; exact HLE.out.2
            rw [hce]
            clear hce hu6 HU5 HCO HLE
            generalize scoreN t st cs = n1 at *
            generalize costN t all cs = n2 at *
            go_wp2_with fail
            refine (awake_t w6).mono ?_
            rintro e w7 ⟨rfl, hu7⟩
            have HU7 := Lib.hid (HU6.out.trans hu7)
            clear hu7
            go_wp2_with fail
            go_ret
            exact ⟨rfl, HU7.out⟩
  · have hend : ∀ (b1 b2 b3 : Bool), fineB t st cs = b1 → decide (pk.length < t.ps.length) = b2 → decide (40 < (pk.length : Int)) = b3 → (b1 = false ∨ b2 = true ∨ b3 = true) := fun b1 b2 b3 e1 e2 e3 => by
      subst e1; subst e2; subst e3
      cases h1 : fineB t st cs
      · exact .inl rfl
      · right
        by_cases h2 : pk.length < t.ps.length
        · exact .inl (by simpa using h2)
        · right
          have : ¬ pk.length ≤ 40 := fun h3 => hf ⟨h1, by omega, h3⟩
          simp; omega
    clear hf
    have HND := Lib.hid hend
    clear hend
    cases h1 : fineB t st cs
    · clear h1
      go_wp2_with fail
      refine (awake_t w2).mono ?_
      rintro e w3 ⟨rfl, hu3⟩
      have HU3 := Lib.hid (HU2.out.trans hu3)
      clear hu3
      go_wp2_with fail
      go_ret
      exact ⟨rfl, HU3.out⟩
    · by_cases h2 : pk.length < t.ps.length
      · clear h1
        go_wp2_with fail
        refine (awake_t w2).mono ?_
        rintro e w3 ⟨rfl, hu3⟩
        have HU3 := Lib.hid (HU2.out.trans hu3)
        clear hu3
        go_wp2_with fail
        go_ret
        exact ⟨rfl, HU3.out⟩
      · have h3 : 40 < pk.length := by
          have := HND.out true false (decide (40 < (pk.length : Int))) h1 (by simpa using h2) rfl
          simp at this; omega
        clear h1
        go_wp2_with fail
        refine (awake_t w2).mono ?_
        rintro e w3 ⟨rfl, hu3⟩
        have HU3 := Lib.hid (HU2.out.trans hu3)
        clear hu3
        go_wp2_with fail
        go_ret
        exact ⟨rfl, HU3.out⟩
end Go.Proofs.Ytflikmllpimaiaa
