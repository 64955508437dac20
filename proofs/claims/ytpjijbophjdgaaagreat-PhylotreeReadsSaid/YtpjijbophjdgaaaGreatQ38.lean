/- The contract of layer 31's reference's SameTree, at trees that are the same. The example of the chapter: three, awake. The example of chapter 35: awake. The plain law of SharederrorSupport: the supports of the different sets. The walk of SharederrorSupport. The walk of SharederrorLeaves. The walk of SharederrorNested. The contract of phylotree.pruned. -/
import Derived.Test.YtpjijbophjdgaaaGreatQ24
import Derived.Test.YtpjijbophjdgaaaGreatQ4
import Derived.Test.YtpjijbophjdgaaaGreatQ7
import Derived.Test.YtpjijbophjdgaaaGreatQ15
import Derived.Test.YtpjijbophjdgaaaGreatQ25
import Derived.Test.YtpjijbophjdgaaaGreatQ26
namespace Go.Proofs.YtpjijbophjdgaaaGreat
open Go.RowKit Go.Deep
set_option maxRecDepth 100000 in
set_option maxHeartbeats 2000000 in
theorem sameTree_yes (S T : Nat → Prop) (w : World) (v u : Value) (t : Tre) (h : TreeAt S w v t) (h2 : TreeAt T w u t) (hp : t.ps.length ≤ 1000000) (hn : t.ns.length ≤ 1000000) :
    Calls Tryz.prog 37 #[v, u] w fun e w' => e = .returned (.bool true) ∧ Up w w' := by
  obtain ⟨P, N, rfl, hP, hN⟩ := h
  obtain ⟨P2, N2, rfl, hP2, hN2⟩ := h2
  obtain ⟨pp, pc, rfl, _, _⟩ := SlAt.open hP
  obtain ⟨np, nc, rfl, _, _⟩ := SlAt.open hN
  obtain ⟨pp2, pc2, rfl, _, _⟩ := SlAt.open hP2
  obtain ⟨np2, nc2, rfl, _, _⟩ := SlAt.open hN2
  have hP : IntsAt S w (.slice pp t.ps.length pc) t.ps := hP
  have hN : StrsAt S w (.slice np t.ns.length nc) t.ns := hN
  have hP2 : IntsAt T w (.slice pp2 t.ps.length pc2) t.ps := hP2
  have hN2 : StrsAt T w (.slice np2 t.ns.length nc2) t.ns := hN2
  have hu1 := Up.alloc w (.cells #[.slice pp t.ps.length pc, .slice np t.ns.length nc] 45)
  have hu2 := Up.alloc (w.alloc (.cells #[.slice pp t.ps.length pc, .slice np t.ns.length nc] 45)) (.cells #[.slice pp2 t.ps.length pc2, .slice np2 t.ns.length nc2] 45)
  have hu := hu1.trans hu2
  have a0 := hu2.cell (box2_0 w (.slice pp t.ps.length pc) (.slice np t.ns.length nc) 45)
  have a1 := hu2.cell (box2_1 w (.slice pp t.ps.length pc) (.slice np t.ns.length nc) 45)
  have b0 := box2_0 (w.alloc (.cells #[.slice pp t.ps.length pc, .slice np t.ns.length nc] 45)) (.slice pp2 t.ps.length pc2) (.slice np2 t.ns.length nc2) 45
  have b1 := box2_1 (w.alloc (.cells #[.slice pp t.ps.length pc, .slice np t.ns.length nc] 45)) (.slice pp2 t.ps.length pc2) (.slice np2 t.ns.length nc2) 45
  rw [World.size_alloc] at b0 b1
  have HP := Lib.hid (IntsAt.keep hP (hu.kept S))
  have HN := Lib.hid (StrsAt.keep hN (hu.kept S))
  have HP2 := Lib.hid (IntsAt.keep hP2 (hu.kept T))
  have HN2 := Lib.hid (StrsAt.keep hN2 (hu.kept T))
  have HU := Lib.hid hu
  have A0 := Lib.hid a0
  have A1 := Lib.hid a1
  have B0' := Lib.hid b0
  have B1' := Lib.hid b1
  have d0 : ((t.ps.length : Int) != (t.ps.length : Int)) = false := by simp
  have d1 : ((t.ns.length : Int) != (t.ns.length : Int)) = false := by simp
  clear hP hN hP2 hN2 hu hu1 hu2
  go_enter Tryz.func37, Tryz.ntmps37
  go_wp2_with fail
  clear a0 a1 b0 b1
  generalize (w.alloc (.cells #[.slice pp t.ps.length pc, .slice np t.ns.length nc] 45)).alloc (.cells #[.slice pp2 t.ps.length pc2, .slice np2 t.ns.length nc2] 45) = w1 at *
  go_loopw [5] (fun i wr => ∃ k : Nat, k ≤ t.ps.length ∧ i = .int .i64 k ∧ Hid (QD w1 wr)) (fun i _ => t.ps.length - (intOf i).toNat)
  case atStart => exact ⟨0, Nat.zero_le _, rfl, QD.refl _⟩
  case round =>
    obtain ⟨k, hk, rfl, hQ⟩ := hrel
    have a0 := hQ.out.up.cell A0.out
    have b0 := hQ.out.up.cell B0'.out
    by_cases hlt : k < t.ps.length
    · obtain ⟨b, off, rfl, hc⟩ := ints_get (IntsAt.keep HP.out (hQ.out.kept S)) hlt
      obtain ⟨b2, off2, rfl, hc2⟩ := ints_get (IntsAt.keep HP2.out (hQ.out.kept T)) hlt
      have i1 : (0 : Int) ≤ (k : Int) := by omega
      have i2 : (k : Int) < (t.ps.length : Int) := by omega
      generalize gi t.ps k = x at *
      have j1 : (x != x) = false := by simp
      go_wp2_with fail
      go_quiet (fail)
      go_wp2_with fail
      go_roundw
      case rel => exact ⟨k + 1, by omega, by go_num, hQ.out.drewN nq⟩
      case measure => simp [intOf]; omega
    · obtain rfl : k = t.ps.length := by omega
      have HQ0 := Lib.hid hQ.out
      clear hlt hk
      go_wp2_with fail
      go_loopw [6] (fun i wr => ∃ k : Nat, k ≤ t.ns.length ∧ i = .int .i64 k ∧ Hid (QD w1 wr)) (fun i _ => t.ns.length - (intOf i).toNat)
      case atStart => exact ⟨0, Nat.zero_le _, rfl, HQ0.out⟩
      case round =>
        obtain ⟨k, hk, rfl, hQ⟩ := hrel
        have a1 := hQ.out.up.cell A1.out
        have b1 := hQ.out.up.cell B1'.out
        by_cases hlt : k < t.ns.length
        · obtain ⟨b, off, rfl, hc⟩ := strs_get (StrsAt.keep HN.out (hQ.out.kept S)) hlt
          obtain ⟨b2, off2, rfl, hc2⟩ := strs_get (StrsAt.keep HN2.out (hQ.out.kept T)) hlt
          have i1 : (0 : Int) ≤ (k : Int) := by omega
          have i2 : (k : Int) < (t.ns.length : Int) := by omega
          generalize gs t.ns k = x at *
          have j1 : (x.toList == x.toList) = true := by simp
          go_wp2_with fail
          go_quiet (fail)
          go_wp2_with fail
          go_roundw
          case rel => exact ⟨k + 1, by omega, by go_num, hQ.out.drewN nq⟩
          case measure => simp [intOf]; omega
        · obtain rfl : k = t.ns.length := by omega
          clear hlt hk
          go_wp2_with fail
          go_ret
          exact ⟨rfl, HU.out.trans hQ.out.up⟩
end Go.Proofs.YtpjijbophjdgaaaGreat
namespace Go.Proofs.YtpjijbophjdgaaaGreat
open Go.RowKit Go.Deep
def t3 : Tre := ⟨[-1, 0, 1, 1, 0], [⟨#[]⟩, ⟨#[]⟩, ⟨#[65]⟩, ⟨#[66]⟩, ⟨#[67]⟩]⟩
def s3 : List Int := [0, 1, 1]
def u2 : List (List Int) := [[0, 1], [1, 0]]
theorem lit_ints (w : World) (cs : Array Value) (T : TypeId) (xs : List Int) (hcs : cs.toList = xs.map (Value.int .i64)) (n : Nat) (hn : n = xs.length) : IntsAt Any (w.alloc (.cells cs T)) (.slice (some ⟨w.heap.size, 0, none⟩) n n) xs := by
  subst hn
  refine ⟨_, _, rfl, Nat.le_refl _, .inr ⟨_, 0, rfl, trivial, fun k hk => ?_⟩⟩
  rw [Nat.zero_add, cell_at_new, ← Array.getElem?_toList, hcs]
  simp [gi, hk]
theorem lit_strs (w : World) (cs : Array Value) (T : TypeId) (xs : List ByteArray) (hcs : cs.toList = xs.map Value.string) (n : Nat) (hn : n = xs.length) : StrsAt Any (w.alloc (.cells cs T)) (.slice (some ⟨w.heap.size, 0, none⟩) n n) xs := by
  subst hn
  refine ⟨_, _, rfl, Nat.le_refl _, .inr ⟨_, 0, rfl, trivial, fun k hk => ?_⟩⟩
  rw [Nat.zero_add, cell_at_new, ← Array.getElem?_toList, hcs]
  simp [gs, hk]
end Go.Proofs.YtpjijbophjdgaaaGreat
namespace Go.Proofs.YtpjijbophjdgaaaGreat
open Go.RowKit Go.Deep
deriving instance DecidableEq for Grp
end Go.Proofs.YtpjijbophjdgaaaGreat
namespace Go.Proofs.YtpjijbophjdgaaaGreat
open Go.RowKit Go.Deep
end Go.Proofs.YtpjijbophjdgaaaGreat
namespace Go.Proofs.YtpjijbophjdgaaaGreat
open Go.RowKit Go.Deep
end Go.Proofs.YtpjijbophjdgaaaGreat
namespace Go.Proofs.YtpjijbophjdgaaaGreat
open Go.RowKit Go.Deep
end Go.Proofs.YtpjijbophjdgaaaGreat
namespace Go.Proofs.YtpjijbophjdgaaaGreat
open Go.RowKit Go.Deep
end Go.Proofs.YtpjijbophjdgaaaGreat
namespace Go.Proofs.YtpjijbophjdgaaaGreat
open Go.RowKit Go.Deep
set_option maxRecDepth 100000 in
set_option maxHeartbeats 1000000 in
theorem pruned_leaf {g : Nat} {lb : Array Value} (eg : ∀ args w, (callFunc g args).run Tryz.prog w = .ok (.enter g args) w) {base n : Nat} {A : Nat → Nat} {w0 : World} {m : Nat → ByteArray} {o : Nat → Int} {P : Nat → Bool} {rk : Nat → Nat}
    (hp : ∀ j W, j < n → Below base w0 W → W.cell? ⟨A j, 0, none⟩ = some (.string (m j)) → W.cell? ⟨A j, 2, none⟩ = some (.int .i64 (o j)) → Calls Tryz.prog g (#[.pointer (some ⟨A j, 0, none⟩)] ++ lb) W fun e W' => e = .returned (.bool (P j)) ∧ Up W W')
    {F : Frs} {i : Nat} {kv : Nat → Value} {w : World} (hm0 : F.nm = m) (ho : F.old = o) (hw : Wf F n rk) (hi : i < n) (hB : Below base w0 w) (_hb : base ≤ w.heap.size) (hF : FAt base n A kv F w) (h0 : F.kids i = []) :
    Calls Tryz.prog 98 #[.pointer (some ⟨A i, 0, none⟩), .func (.func g) #[] lb] w (PrPost base n A F P rk kv i w) := by
  have hown := hF.own i hi
  rw [h0] at hown
  obtain ⟨q, cap, hv, _⟩ := hown.form (n := 0) rfl
  have hkc := hF.kidv hi
  rw [hv] at hkc
  have HCALL := Lib.hid (hp i w hi hB (by have := hF.name hi; rw [hm0] at this; exact this) (by have := hF.oldc hi; rw [ho] at this; exact this))
  have HAL : Hid (al F P rk i = P i) := by rw [Hid, al_eq hw hi, if_pos h0]
  have HPD : Hid (∀ w', Up w w' → PrD base n A F P rk kv i w kv w') := fun w' hu => ⟨(hF.up hu).congr2 fun z hz => ⟨rfl, rfl, by
    show (if _ then _ else _) = _
    split
    · rename_i hs
      rw [subF_eq hw hi, h0] at hs
      have : z = i := by simpa using hs
      subst this
      unfold prQ; rw [h0]; rfl
    · rfl⟩, PUp.of_up hu, fun _ _ _ h => .inl h, fun _ _ => rfl⟩
  clear hown hF hp hv h0 hB
  go_enter Tryz.func98, Tryz.ntmps98
  go_wp2_with fail
  refine HCALL.out.mono ?_
  rintro e w' ⟨rfl, hu⟩
  have HN := Lib.hid (HPD.out w' hu)
  clear hu
  cases hP : P i with
  | true =>
    have HA2 : Hid (al F P rk i = true) := by rw [Hid, HAL.out, hP]
    go_wp2_with fail
    go_ret
    exact ⟨by rw [HA2.out]; rfl, _, HN.out⟩
  | false =>
    have HA2 : Hid (al F P rk i = false) := by rw [Hid, HAL.out, hP]
    go_wp2_with fail
    go_ret
    exact ⟨by rw [HA2.out]; rfl, _, HN.out⟩
set_option maxRecDepth 100000 in
set_option maxHeartbeats 4000000 in
theorem pruned_t (g : Nat) (lb : Array Value) (eg : ∀ args w, (callFunc g args).run Tryz.prog w = .ok (.enter g args) w) {base n : Nat} {A : Nat → Nat} {w0 : World} {m : Nat → ByteArray} {o : Nat → Int} {P : Nat → Bool} {rk : Nat → Nat}
    (hp : ∀ j W, j < n → Below base w0 W → W.cell? ⟨A j, 0, none⟩ = some (.string (m j)) → W.cell? ⟨A j, 2, none⟩ = some (.int .i64 (o j)) → Calls Tryz.prog g (#[.pointer (some ⟨A j, 0, none⟩)] ++ lb) W fun e W' => e = .returned (.bool (P j)) ∧ Up W W') :
    ∀ (d : Nat) (F : Frs) (i : Nat) (kv : Nat → Value) (w : World), F.nm = m → F.old = o → Wf F n rk → Dis F n rk i → (∀ z, z < n → (F.kids z).length ≤ 1000) → i < n → rk i ≤ d → Below base w0 w → base ≤ w.heap.size → FAt base n A kv F w →
    Calls Tryz.prog 98 #[.pointer (some ⟨A i, 0, none⟩), .func (.func g) #[] lb] w (PrPost base n A F P rk kv i w) := by
  intro d
  induction d with
  | zero =>
    intro F i kv w hm0 ho hw hD hl hi hd hB hb hF
    exact pruned_leaf eg hp hm0 ho hw hi hB hb hF (kids_nil0 hw hi hd)
  | succ d ih =>
    intro F i kv w hm0 ho hw hD hl hi hd hB hb hF
    by_cases h0 : F.kids i = []
    · exact pruned_leaf eg hp hm0 ho hw hi hB hb hF h0
    · have hown := hF.own i hi
      obtain ⟨L, hLL⟩ : ∃ L, L = F.kids i := ⟨_, rfl⟩
      have hL0 : 0 < L.length := by rw [hLL]; exact List.length_pos_iff.2 h0
      have hl1 : L.length ≤ 1000 := by rw [hLL]; exact hl i hi
      rw [← hLL] at hown
      obtain ⟨q, cap, hv, hq⟩ := hown.form (n := L.length) (by simp)
      obtain ⟨gk, rfl⟩ : ∃ g, q = some ⟨g, 0, none⟩ := by
        rcases hq with rfl | h
        · obtain ⟨_, h | ⟨g, _, _, h, _⟩⟩ := hown
          · have := h.2; rw [List.length_map] at this; omega
          · rw [hv] at h; cases h
        · exact h
      have hkc := hF.kidv hi
      rw [hv] at hkc
      have HF := Lib.hid hF
      have HV := Lib.hid hv
      have HLL := Lib.hid hLL
      have HIH := Lib.hid ih
      have HW := Lib.hid hw
      have HD := Lib.hid hD
      have HO := Lib.hid ho
      have HM0 := Lib.hid hm0
      have HLS := Lib.hid hl
      have HB := Lib.hid hB
      have HBS := Lib.hid hb
      have HLN : Hid (∀ c ∈ L, c < n ∧ rk c < rk i) := fun c hc => hw.kid i hi c (by rw [← hLL]; exact hc)
      have HST : Hid (PrW base n A F P rk kv i w kv w (.slice none 0 0) 0 0) := ⟨hF.congr2 fun z _ => ⟨rfl, rfl, upto_zero _ _ _⟩, PUp.refl _ _ _, fun _ _ _ h => .inl h, fun _ _ => rfl, Owns.nil _ _ _, fun b hb => by cases hb⟩
      have HAL : Hid (al F P rk i = (F.kids i).any (al F P rk)) := by rw [Hid, al_eq hw hi, if_neg h0]
      have d1 : ((L.length : Int) == 0) = false := beq_eq_false_iff_ne.2 (by omega)
      have hfr := hF.thaw hi 1
      clear hown hq hv hLL ih hw hD ho hm0 hl hB hb hF h0
      go_enter Tryz.func98, Tryz.ntmps98
      go_wp2_with fail
      go_loopw [5, 7, 8, 25] (fun dv _ _ x wr => ∃ k : Nat, k ≤ L.length ∧ x = .int .i64 k ∧ Hid (∃ kvk, PrW base n A F P rk kv i w kvk wr dv k k)) (fun _ _ _ x _ => L.length - (intOf x).toNat)
      case atStart => exact ⟨0, Nat.zero_le _, rfl, kv, HST.out⟩
      case round =>
        obtain ⟨k, hk, rfl, hO⟩ := hrel
        obtain ⟨wo, rfl⟩ : ∃ wo : World, wo = wr := ⟨_, rfl⟩
        obtain ⟨dv, rfl⟩ : ∃ d : Value, d = u5 := ⟨_, rfl⟩
        obtain ⟨kvk, hO⟩ := hO.out
        have HK := Lib.hid hO
        by_cases hlt : k < L.length
        · have hcL : L[k]? = some L[k] := List.getElem?_eq_getElem hlt
          have hc : (F.kids i)[k]? = some L[k] := by rw [← HLL.out]; exact hcL
          have hkvi : kvk i = .slice (some ⟨gk, 0, none⟩) L.length cap := (hO.old i (.inr rfl)).trans HV.out
          have hrow := hO.fr.kcell (i := i) (j := k) (c := L[k]) hi hkvi (by rw [upto_own HW.out hi k]; exact hc)
          have hcn := HLN.out L[k] (List.getElem_mem hlt)
          have HCALL := Lib.hid (HIH.out (F.upto rk (prQ F P rk) (F.kids i) k) L[k] kvk wo HM0.out HO.out (upto_wf HW.out P _ k) ((Dis.kid HW.out hi (List.mem_of_getElem? hc) HD.out).cong HW.out (upto_wf HW.out P _ k) hcn.1 (upto_fresh HW.out hi HD.out hc))
            (fun z hz => by
              show (if _ then _ else _ : List Nat).length ≤ _
              split
              · exact Nat.le_trans (List.length_filter_le _ _) (HLS.out z hz)
              · exact HLS.out z hz) hcn.1 (by have := hcn.2; omega) (HB.out.trans (hO.up.below HF.out.lo HBS.out)) (Nat.le_trans HBS.out hO.up.size) hO.fr)
          have HALC : Hid (al (F.upto rk (prQ F P rk) (F.kids i) k) P rk L[k] = al F P rk L[k]) := al_cong HW.out (upto_wf HW.out P _ k) hcn.1 (Nat.le_refl _) (upto_fresh HW.out hi HD.out hc)
          have HC := Lib.hid hc
          have HLT := Lib.hid hlt
          have i1 : (0 : Int) ≤ (k : Int) := by omega
          have i2 : (k : Int) < (L.length : Int) := by omega
          unfold PrPost at HCALL
          rw [HALC.out] at HCALL
          clear hcL hc hcn hkvi hO
          generalize L[k] = c at *
          go_wp2_with fail
          refine HCALL.out.mono ?_
          rintro e w2 ⟨rfl, kv2, h2⟩
          have HS := Lib.hid (HK.out.step HF.out HW.out HD.out hi HC.out h2)
          clear h2 HK
          cases ha : al F P rk c with
          | false =>
            have HN := Lib.hid (HS.out.skip HC.out ha)
            clear HS ha
            go_wp2_with fail
            go_roundw
            case rel => exact ⟨k + 1, HLT.out, by go_num, kv2, HN.out⟩
            case measure => have := HLT.out; simp [intOf]; omega
          | true =>
            have HA := Lib.hid ha
            have HLM : Hid (((((F.kids i).take k).filter (al F P rk)).map (nptr A)).length = (((F.kids i).take k).filter (al F P rk)).length) := List.length_map _
            have HLE : (((F.kids i).take k).filter (al F P rk)).length ≤ 1000000 := by
              refine Nat.le_trans (List.length_filter_le _ _) ?_
              rw [List.length_take]; omega
            have hwz : w.heap.size ≤ w2.heap.size := HS.out.up.size
            have HOW : Hid (Owns w.heap.size 113 w2 dv ((((F.kids i).take k).filter (al F P rk)).map (nptr A))) := HS.out.own
            clear ha
            unfold nptr
            go_wp2_with (first | (at_builtin; refine wpList_appG w2 rfl _ _ 111 rfl w.heap.size 113 (.pointer none) 8 Tryz.underlying111 Tryz.infoNP rfl (by decide) HOW.out rfl (.pointer (some ⟨A c, 0, none⟩)) rfl rfl _ HLM.out HLE hwz ?_; intro g8 cap8 w8 hown1 hgr1 hr1))
            have HN := Lib.hid (HS.out.push HF.out HC.out HA.out hown1 hgr1 hr1)
            clear hown1 hgr1 hr1 HS HOW
            go_roundw
            case rel => exact ⟨k + 1, HLT.out, by go_num, kv2, HN.out⟩
            case measure => have := HLT.out; simp [intOf]; omega
        · obtain rfl : k = L.length := by omega
          have hkl : (F.kids i).length = L.length := by rw [HLL.out]
          have HKD : Hid (PrW base n A F P rk kv i w kvk wo dv (F.kids i).length (F.kids i).length) := by rw [Hid, hkl]; exact hO
          have HDN := Lib.hid (HKD.out.done HF.out HW.out hi HBS.out)
          have hfr := HKD.out.fr.thaw hi 1
          have hdo := HKD.out.own
          rw [List.take_length] at hdo
          obtain ⟨dq, dc, rfl, _⟩ := hdo.form (n := ((F.kids i).filter (al F P rk)).length) (by simp)
          have HAE : Hid (al F P rk i = decide (0 < ((F.kids i).filter (al F P rk)).length)) := by
            rw [Hid, HAL.out, Bool.eq_iff_iff, List.any_eq_true, decide_eq_true_eq, List.length_pos_iff_exists_mem]
            constructor
            · rintro ⟨x, hx, e⟩; exact ⟨x, List.mem_filter.2 ⟨hx, e⟩⟩
            · rintro ⟨x, hx⟩; exact ⟨x, (List.mem_filter.1 hx).1, (List.mem_filter.1 hx).2⟩
          have hkc := HKD.out.fr.kidv hi
          clear hlt hk hdo hkl hO HK HKD
          generalize ((F.kids i).filter (al F P rk)).length = m at *
          by_cases hm : m = 0
          · have d2 : ((m : Int) == 0) = true := by rw [hm]; rfl
            have HA2 : Hid (al F P rk i = false) := by rw [Hid, HAE.out, hm]; rfl
            clear hm
            go_wp2_with fail
            go_ret
            exact ⟨by rw [HA2.out]; rfl, _, HDN.out⟩
          · have d2 : ((m : Int) == 0) = false := beq_eq_false_iff_ne.2 (by omega)
            have HA2 : Hid (al F P rk i = true) := by rw [Hid, HAE.out]; exact decide_eq_true (by omega)
            clear hm
            go_wp2_with fail
            go_ret
            exact ⟨by rw [HA2.out]; rfl, _, HDN.out⟩
end Go.Proofs.YtpjijbophjdgaaaGreat
