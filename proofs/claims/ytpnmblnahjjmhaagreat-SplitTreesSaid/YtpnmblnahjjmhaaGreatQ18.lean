/- The contract of layer 31's reference's Check. The rose tree of nested sets: leaves, .. -/
import Derived.Test.YtpnmblnahjjmhaaGreatQ1
import Derived.Test.YtpnmblnahjjmhaaGreatQ11
import Derived.Test.YtpnmblnahjjmhaaGreatQ16
import Derived.Test.YtpnmblnahjjmhaaGreatQ4
import Derived.Test.YtpnmblnahjjmhaaGreatQ13
import Derived.Laws.IdiomStrings
set_option maxRecDepth 100000
namespace Go.Proofs.YtpnmblnahjjmhaaGreat
section
open Go.RowKit Go.Deep
set_option maxHeartbeats 1600000 in
theorem Gm (S : Nat → Prop) (w : World) (v : Value) (t : aA) (h : aG S w v t) (hp : t.ps.length ≤ 1000000) (hn : t.ns.length ≤ 1000000) (hz : ∀ k, (gs t.ns k).size ≤ 70000) :
    Calls Tryz.prog 52 #[v] w fun e w' => e = .returned (.int .i64 (aB t)) ∧ Below w.heap.size w w' := by
  obtain ⟨P, N, rfl, hP, hN⟩ := h
  obtain ⟨ps, ns⟩ := t
  simp only at *
  have cH : aB ⟨ps, ns⟩ = if ps.length = 0 then 5 else if 64 < ps.length then 4 else if ns.length ≠ ps.length then 9 else if fK ps then firstNZ (iR ps ns) ps.length else 2 := rfl
  have HF := aa cH
  clear cH
  have eZ : Below w.heap.size w (w.alloc (.cells #[P, N] 39)) := (Below.refl _ _).alloc (Nat.le_refl _) _
  have Gn : aG S (w.alloc (.cells #[P, N] 39)) (.agg #[P, N]) ⟨ps, ns⟩ := aG.keep ⟨P, N, rfl, hP, hN⟩ (Kept.below eZ)
  have NC := hP.keep (Kept.below eZ)
  have ND := hN.keep (Kept.below eZ)
  clear hP hN
  obtain ⟨p, cap, rfl, hcap, HP⟩ := av.open NC
  obtain ⟨q, bJ, rfl, AY, HN⟩ := av.open ND
  have JV := aa HP
  have Fo := aa HN
  have Um := aa Gn
  have cn := aa eZ
  clear NC ND HP HN Gn eZ
  by_cases h0 : ps.length = 0
  · have HX : Hid (ps.length = 0) := h0
    have h0' : ((ps.length : Int) == 0) = true := by simp [h0]
    clear h0
    go_enter Tryz.func52, Tryz.ntmps52
    go_wp2_with fail
    go_ret
    exact ⟨aI (by rw [HF.out, if_pos HX.out]), cn.out⟩
  have h0' : ((ps.length : Int) == 0) = false := by simpa using h0
  by_cases h1 : 64 < ps.length
  · go_enter Tryz.func52, Tryz.ntmps52
    go_wp2_with fail
    go_ret
    exact ⟨aI (by rw [HF.out, if_neg h0, if_pos h1]), cn.out⟩
  by_cases h2 : ns.length = ps.length
  · have NF : ((ns.length : Int) != ps.length) = false := by simp [h2]
    have H2 := aa h2
    clear h2
    have qX : (w.alloc (.cells #[.slice p ps.length cap, .slice q ns.length bJ] 39)).cell? ⟨w.heap.size, 0, none⟩ = some (.slice p ps.length cap) := by simp [World.cell?_alloc_new]
    have ue : (w.alloc (.cells #[.slice p ps.length cap, .slice q ns.length bJ] 39)).cell? ⟨w.heap.size, 1, none⟩ = some (.slice q ns.length bJ) := by simp [World.cell?_alloc_new]
    have hct : (w.alloc (.cells #[.slice p ps.length cap, .slice q ns.length bJ] 39)).rowIs w.heap.size 39 2 (fun i => if i = 0 then .slice p ps.length cap else .slice q ns.length bJ) :=
      World.rowIs_alloc w _ _ _ (fun i hi => by match i, hi with | 0, _ => rfl | 1, _ => rfl)
    have hsz : (w.alloc (.cells #[.slice p ps.length cap, .slice q ns.length bJ] 39)).heap.size = w.heap.size + 1 := by simp
    have HS := aa hsz
    have uf := aa qX
    have JW := aa ue
    have BM := aa hct
    clear hsz ue hct
    go_enter Tryz.func52, Tryz.ntmps52
    go_wp2_with fail
    generalize hw0 : w.alloc (.cells #[.slice p ps.length cap, .slice q ns.length bJ] 39) = w0 at *
    clear hw0
    go_loop [3] (fun i => ∃ k : Nat, k ≤ ps.length ∧ i = .int .i64 k ∧ Hid (∀ j, j < k → mH j (gi ps j) = true)) (fun i => ps.length - (intOf i).toNat)
    case atStart => exact ⟨0, Nat.zero_le _, rfl, fun j hj => absurd hj (Nat.not_lt_zero _)⟩
    case round =>
      obtain ⟨k, hk, rfl, hd⟩ := hrel
      by_cases hlt : k < ps.length
      · obtain ⟨b, off, rfl, hc⟩ := JV.out k hlt
        clear JV Fo Um
        generalize hpk : gi ps k = x at *
        have HX := aa hpk
        clear hpk
        by_cases hg : 0 < k ∧ 0 ≤ x ∧ x < k
        · obtain ⟨g1, g2, g3⟩ := hg
          go_wp2_with fail
          go_round
          case rel => exact ⟨k + 1, by omega, by go_num, fun j hj => if e : j = k then by subst e; rw [HX.out]; unfold mH; rw [if_neg (by omega)]; simp; omega else hd.out j (by omega)⟩
          case measure => simp [intOf]; omega
        · by_cases Fp : k = 0 ∧ x = -1
          · obtain ⟨rfl, rfl⟩ := Fp
            have hc' : w0.cell? ⟨b, off, none⟩ = some (.int .i64 (-1)) := by simpa using hc
            go_wp2_with fail
            go_round
            case rel => exact ⟨1, by omega, by go_num, fun j hj => by obtain rfl : j = 0 := by omega
                                                                      rw [HX.out]; rfl⟩
            case measure => simp [intOf]; omega
          · have pY : mH k x = false := by
              unfold mH; split
              · rename_i e; simp; exact fun e2 => Fp ⟨e, e2⟩
              · simp; intro; omega
            rw [← HX.out] at pY
            have HB := aa (Fj hlt pY)
            clear pY
            have hc' : k = 0 → w0.cell? ⟨b, off, none⟩ = some (.int .i64 x) := fun e => by subst e; simpa using hc
            rcases Nat.eq_zero_or_pos k with rfl | iI
            · have hc2 := hc' rfl
              clear hc' hc
              go_wp2_with fail
              all_goals go_ret
              all_goals exact ⟨aI (by rw [HF.out, if_neg h0, if_neg h1, if_neg (by rw [H2.out]; simp), HB.out]; simp), cn.out⟩
            · clear hc'
              go_wp2_with fail
              all_goals go_ret
              all_goals exact ⟨aI (by rw [HF.out, if_neg h0, if_neg h1, if_neg (by rw [H2.out]; simp), HB.out]; simp), cn.out⟩
      · obtain rfl : k = ps.length := by omega
        have XR := zT hd.out
        have hok := aa XR
        clear hlt hk hd JV hcap XR
        go_wp2_with fail
        go_loopw [4, 5] (fun i _ wr => ∃ k : Nat, k ≤ ps.length ∧ i = .int .i64 k ∧ Hid (∀ j, j < k → iR ps ns j = 0) ∧ Below w0.heap.size w0 wr) (fun i _ _ => ps.length - (intOf i).toNat)
        case atStart => exact ⟨0, Nat.zero_le _, rfl, fun j hj => absurd hj (Nat.not_lt_zero _), Below.refl _ _⟩
        case round =>
          obtain ⟨k, hk, rfl, hd, hbr⟩ := hrel
          clear qX
          have qX : wr.cell? ⟨w.heap.size, 0, none⟩ = some (.slice p ps.length cap) := (hbr.cell (p := ⟨w.heap.size, 0, none⟩) (by have := HS.out; simp; omega)).trans uf.out
          have ue : wr.cell? ⟨w.heap.size, 1, none⟩ = some (.slice q ns.length bJ) := (hbr.cell (p := ⟨w.heap.size, 1, none⟩) (by have := HS.out; simp; omega)).trans JW.out
          by_cases hlt : k < ps.length
          · have hlen : ns.length ≤ ps.length ∧ ps.length ≤ ns.length := by have := H2.out; omega
            obtain ⟨pE, hl2⟩ := hlen
            have hT := Um.out.keep (Kept.below hbr)
            have hkd := Ke S wr _ ⟨ps, ns⟩ k hT hp hlt
            have jU := aa hkd
            have hne : iR ps ns k = if isIn ps k then (if (gs ns k).size = 0 then 0 else 14) else if bq (gs ns k).data.toList then (if cZ ns k then 7 else 0) else 14 := rfl
            have hki := j9 hok.out k
            have hend : iR ps ns k ≠ 0 → aB ⟨ps, ns⟩ = iR ps ns k := fun hn0 => by
              rw [HF.out, if_neg h0, if_neg h1, if_neg (by rw [H2.out]; simp), hok.out, if_pos rfl]; exact eY hlt hd.out hn0
            have HE := aa hne
            have zU := aa hend
            have HKI := aa hki
            clear hT hkd hne hend hki
            go_wp2_with fail
            refine jU.out.mono ?_
            rintro e w2 ⟨hb2, v2, rfl, hv2⟩
            obtain ⟨p2, c2, rfl, _, _⟩ := av.open hv2
            clear hv2
            have hcp2 : w2.cell? ⟨w.heap.size, 0, none⟩ = some (.slice p ps.length cap) := (hb2.cell (p := ⟨w.heap.size, 0, none⟩) (World.block_lt_of_cell? _ _ qX)).trans qX
            have R1 : w2.cell? ⟨w.heap.size, 1, none⟩ = some (.slice q ns.length bJ) := (hb2.cell (p := ⟨w.heap.size, 1, none⟩) (World.block_lt_of_cell? _ _ ue)).trans ue
            have Gp : Below w0.heap.size w0 w2 := hbr.trans (hb2.mono hbr.size)
            clear qX ue jU hb2
            have AZ := hz k
            have hnil := toList_nil (gs ns k)
            have mh := aa hnil
            have CN := aa Gp
            obtain ⟨b, off, rfl, hc0⟩ := Fo.out k (by omega)
            have hc2 : w2.cell? ⟨b, off + k, none⟩ = some (.string (gs ns k)) := (Gp.cell (p := ⟨b, off + k, none⟩) (World.block_lt_of_cell? _ _ hc0)).trans hc0
            clear hc0 Gp hnil hz
            cases hin : isIn ps k
            · have iI : (er (bu ps k)).length = 0 := by
                rcases h : bu ps k with _ | ⟨a, l⟩
                · rfl
                · have h2 := HKI.out.1 (by rw [h]; simp); rw [hin] at h2; cases h2
              rw [iI]
              have uF := aa hin
              clear iI hin
              have hnm := RO (gs ns k) AZ w2
              have lu := aa hnm
              clear hnm
              cases hnb : bq (gs ns k).data.toList
              · have lQ := aa hnb
                rw [hnb] at lu
                clear hnb
                go_wp2_with fail
                refine lu.out.mono ?_
                rintro e w3 ⟨rfl, hb3⟩
                go_wp2_with fail
                go_ret
                exact ⟨aI (by rw [zU.out (by rw [HE.out, uF.out, lQ.out]; simp), HE.out, uF.out, lQ.out]; simp), cn.out.trans ((CN.out.mono (by have := HS.out; omega)).trans (hb3.mono (by have := HS.out; have := CN.out.size; omega)))⟩
              · have lQ := aa hnb
                rw [hnb] at lu
                clear hnb
                go_wp2_with fail
                refine lu.out.mono ?_
                rintro e w3 ⟨rfl, hb3⟩
                have XS : Below w0.heap.size w0 w3 := CN.out.trans (hb3.mono CN.out.size)
                have hcq3 : w3.cell? ⟨w.heap.size, 1, none⟩ = some (.slice (some ⟨b, off, none⟩) ns.length bJ) := (hb3.cell (p := ⟨w.heap.size, 1, none⟩) (World.block_lt_of_cell? _ _ R1)).trans R1
                have hc3 : w3.cell? ⟨b, off + k, none⟩ = some (.string (gs ns k)) := (hb3.cell (p := ⟨b, off + k, none⟩) (World.block_lt_of_cell? _ _ hc2)).trans hc2
                have R2 := aa XS
                clear hcp2 R1 hc2 hb3 XS
                go_wp2_with fail
                go_loopw [5] (fun i wq => ∃ j a : Nat, j ≤ k ∧ i = .int .i64 j ∧ Hid (∀ m, m < j → decide (gs ns m = gs ns k) = false) ∧ wq = w3.drewN a) (fun i _ => k - (intOf i).toNat)
                case atStart => exact ⟨0, 0, Nat.zero_le _, rfl, fun j hj => absurd hj (Nat.not_lt_zero _), rfl⟩
                case round =>
                  obtain ⟨j, a, hj, rfl, hd2, rfl⟩ := hrel
                  by_cases hjk : j < k
                  · obtain ⟨b', off', eb, wT⟩ := Fo.out j (by omega)
                    cases eb
                    have Ko : w3.cell? ⟨b, off + j, none⟩ = some (.string (gs ns j)) := (R2.out.cell (p := ⟨b, off + j, none⟩) (World.block_lt_of_cell? _ _ wT)).trans wT
                    clear wT
                    have i1 : (0 : Int) ≤ (j : Int) := by omega
                    have i2 : (j : Int) < (ns.length : Int) := by omega
                    have i3 : (0 : Int) ≤ (k : Int) := by omega
                    have i4 : (k : Int) < (ns.length : Int) := by omega
                    have HNEQ := aa (toList_data (gs ns j))
                    go_wp2_with fail
                    go_quiet (fail)
                    go_wp2_with fail
                    · have hs : cZ ns k = true := List.any_eq_true.2 ⟨j, List.mem_range.2 hjk, by simpa using JU ‹_›⟩
                      go_ret
                      exact ⟨aI (by rw [zU.out (by rw [HE.out, uF.out, lQ.out, hs]; simp), HE.out, uF.out, lQ.out, hs]; simp), cn.out.trans (Below.mono (B := w0.heap.size) (below_drewN (below_drewN R2.out _) _) (by have := HS.out; omega))⟩
                    · have hs := NB ‹((gs ns j).toList == (gs ns k).toList) = false›
                      go_roundw
                      case rel => exact ⟨j + 1, _, by omega, by go_num, fun m hm => if e : m = j then by subst e; simpa using hs else hd2.out m (by omega), rfl⟩
                      case measure => simp [intOf]; omega
                  · have hs : cZ ns k = false := by
                      rw [Bool.eq_false_iff]; intro e
                      obtain ⟨m, hm, h2⟩ := List.any_eq_true.1 e
                      have h3 := hd2.out m (by have := List.mem_range.1 hm; omega)
                      rw [h3] at h2; cases h2
                    have Oa := aa hs
                    clear hs
                    go_wp2_with fail
                    go_roundw
                    case rel => exact ⟨k + 1, by omega, by go_num, fun m hm => if e : m = k then by subst e; rw [HE.out, uF.out, lQ.out, Oa.out]; simp else hd.out m (by omega), below_drewN R2.out _⟩
                    case measure => simp [intOf]; omega
            · have iI : 0 < (er (bu ps k)).length := by
                have h2 := HKI.out.2 hin
                unfold er; rw [List.length_map]; exact List.length_pos_iff.2 h2
              generalize (er (bu ps k)).length = m at *
              have uF := aa hin
              clear hin
              by_cases hg0 : (gs ns k).size = 0
              · have hg1 : (gs ns k).toList = [] := mh.out.2 hg0
                have qY := aa hg0
                clear hg0
                go_wp2_with fail
                go_roundw
                case rel => exact ⟨k + 1, by omega, by go_num, fun j hj => if e : j = k then by subst e; rw [HE.out, uF.out, qY.out]; simp else hd.out j (by omega), CN.out⟩
                case measure => simp [intOf]; omega
              · have hg1 : ((gs ns k).toList == []) = false := by
                  rw [Bool.eq_false_iff]; intro e; exact hg0 (mh.out.1 (by simpa using e))
                have hg2 : ((gs ns k).toList != []) = true := by
                  rw [bne_iff_ne]; intro e; exact hg0 (mh.out.1 (by simpa using e))
                have qY := aa hg0
                clear hg0
                go_wp2_with fail
                go_ret
                exact ⟨aI (by rw [zU.out (by rw [HE.out, uF.out, if_pos rfl, if_neg qY.out]; simp), HE.out, uF.out, if_pos rfl, if_neg qY.out]), cn.out.trans (CN.out.mono (by have := HS.out; omega))⟩
          · have hk2 : k = ps.length := by omega
            clear hlt
            go_wp2_with fail
            go_ret
            exact ⟨aI (by rw [HF.out, if_neg h0, if_neg h1, if_neg (by rw [H2.out]; simp), hok.out, if_pos rfl, cA fun j hj => hd.out j (by omega)]), cn.out.trans (hbr.mono (by have := HS.out; omega))⟩
  · have NF : ((ns.length : Int) != ps.length) = true := by simp; omega
    go_enter Tryz.func52, Tryz.ntmps52
    go_wp2_with fail
    go_ret
    exact ⟨aI (by rw [HF.out, if_neg h0, if_neg h1, if_pos h2]), cn.out⟩
end
section
theorem xN {α β : Type} {f g : α → List β} : ∀ l : List α, (∀ a ∈ l, (f a).Perm (g a)) → (l.flatMap f).Perm (l.flatMap g)
 | [], _ => List.Perm.refl _
 | a :: l, h => by
  rw [List.flatMap_cons, List.flatMap_cons]
  exact (h a (by simp)).append (xN l fun b hb => h b (by simp [hb]))
def nN (s : RT) : Prop := (s.kids ≠ [] → s.nm.size = 0) ∧ (s.kids = [] → bq s.nm.data.toList = true) ∧ s.kids.length ≠ 1
def mB (l : List ByteArray) : List ByteArray := l.filter fun s => decide (s.size ≠ 0)
theorem Gq (a b : List ByteArray) : mB (a ++ b) = mB a ++ mB b := List.filter_append _ _
theorem fo {nm : ByteArray} {ks : List RT} (h : nm.size = 0) : aZ (.node nm ks) = ks.flatMap aZ := by
 have key : ∀ ks : List RT, mB (b7 ks) = ks.flatMap aZ := by
  intro ks
  induction ks with
  | nil => rfl
  | cons r rs ih => rw [b7, Gq, ih, List.flatMap_cons]; rfl
 show mB (cm _) = _
 rw [cm, ← key]
 unfold mB
 rw [List.filter_cons_of_neg (by simp [h])]
theorem iM {nm : ByteArray} (h : nm.size ≠ 0) : aZ (.node nm []) = [nm] := by
 show List.filter _ (cm _) = _
 rw [cm, b7, List.filter_cons_of_pos (by simpa using h)]; rfl
mutual
theorem size_le : ∀ r : RT, (∀ s ∈ subR r, nN s) → aK r + 1 ≤ 2 * (aZ r).length
 | .node nm [], h => by
  have h1 : bq nm.data.toList = true := (h (.node nm []) (by rw [subR]; simp)).2.1 rfl
  rw [iM (dS h1)]; simp [aK, sizeRs]
 | .node nm (k :: ks), h => by
  have h0 := h (.node nm (k :: ks)) (by rw [subR]; simp)
  have h1 : nm.size = 0 := h0.1 (by simp [RT.kids])
  have h2 : (k :: ks).length ≠ 1 := h0.2.2
  rw [fo h1]
  have h3 := Gr (k :: ks) (fun s hs => h s (by rw [subR]; exact List.mem_cons_of_mem _ hs))
  rw [List.length_cons] at h2 h3
  rw [aK]; omega
theorem Gr : ∀ rs : List RT, (∀ s ∈ subRs rs, nN s) → sizeRs rs + rs.length ≤ 2 * (rs.flatMap aZ).length
 | [], _ => by simp [sizeRs]
 | r :: rs, h => by
  have h1 := size_le r (fun s hs => h s (by rw [subRs]; exact List.mem_append_left _ hs))
  have h2 := Gr rs (fun s hs => h s (by rw [subRs]; exact List.mem_append_right _ hs))
  rw [sizeRs, List.flatMap_cons, List.length_append, List.length_cons]; omega
end
end
section
open Go.RowKit Go.Deep
def rM (l : List (ByteArray × Value)) (k : ByteArray) (v : Value) : List (ByteArray × Value) := if (l.lookup k).isNone then l ++ [(k, v)] else l.map fun x => if x.1 = k then (k, v) else x
def SMap (w : World) (b : Nat) (l : List (ByteArray × Value)) : Prop := ∃ es clock, w.heap[b]? = some (.map es clock) ∧ es.toList.map (fun x => (x.key, x.val)) = l.map (fun x => (Value.string x.1, x.2))
def yP (l : List (ByteArray × Value)) : Prop := (l.map (·.1)).Nodup
theorem OT (a b : ByteArray) : (a == b) = decide (a = b) := by
 obtain ⟨a⟩ := a
 obtain ⟨b⟩ := b
 have : ((⟨a⟩ : ByteArray) == ⟨b⟩) = (a == b) := rfl
 rw [this]
 by_cases h : a = b
 ·subst h; simp
 ·have h2 : ¬ (⟨a⟩ : ByteArray) = ⟨b⟩ := fun e => h (ByteArray.mk.inj e)
  rw [decide_eq_false h2]; simpa using h
theorem oH (a : ByteArray) : (a == a) = true := by rw [OT]; simp
theorem qz {a b : ByteArray} (h : ¬ a = b) : (a == b) = false := by rw [OT]; simpa using h
section
variable {P : Program} {w : World}
theorem OU (k : ByteArray) : ∀ (es : List MapEntry) (l : List (ByteArray × Value)) (i : Nat),
  es.map (fun x => (x.key, x.val)) = l.map (fun x => (Value.string x.1, x.2)) →
   (l.lookup k = none ∧ Instr.findNow .string (.string k) es i = some none) ∨ ∃ j v, l.lookup k = some v ∧ (l[j]?).map (·.1) = some k ∧ Instr.findNow .string (.string k) es i = some (some (i + j, v)) := by
 intro es
 induction es with
 | nil =>
  intro l i hl
  cases l with
  | nil => exact .inl ⟨rfl, rfl⟩
  | cons => cases hl
 | cons x es ih =>
  intro l i hl
  cases l with
  | nil => cases hl
  | cons y l =>
   simp only [List.map_cons, List.cons.injEq, Prod.mk.injEq] at hl
   obtain ⟨⟨h1, h2⟩, h3⟩ := hl
   obtain ⟨y1, y2⟩ := y
   have h1 : x.key = .string y1 := h1
   have h2 : x.val = y2 := h2
   by_cases h : k = y1
   ·subst h
    refine .inr ⟨0, y2, by rw [List.lookup_cons, oH], rfl, ?_⟩
    simp [Instr.findNow, Instr.sameNow, h1, h2, oH]
   ·have hb : (k == y1) = false := qz h
    rcases ih l (i + 1) h3 with ⟨h4, h5⟩ | ⟨j, v, h4, h5, h6⟩
    ·refine .inl ⟨by rw [List.lookup_cons, hb]; exact h4, ?_⟩
     simp [Instr.findNow, Instr.sameNow, h1, hb, h5]
    ·refine .inr ⟨j + 1, v, by rw [List.lookup_cons, hb]; exact h4, by simpa using h5, ?_⟩
     simp [Instr.findNow, Instr.sameNow, h1, hb, h6]; omega
theorem D2 {t : TypeId} (ht : P.underlying t = some .string) (k : ByteArray) (es : List MapEntry) (l : List (ByteArray × Value)) (hl : es.map (fun x => (x.key, x.val)) = l.map (fun x => (Value.string x.1, x.2))) :
  (l.lookup k = none ∧ (Instr.findKey t (.string k) es).run P w = .ok none w) ∨ ∃ j v, l.lookup k = some v ∧ (l[j]?).map (·.1) = some k ∧ (Instr.findKey t (.string k) es).run P w = .ok (some (j, v)) w := by
 have hu := run_underlying (w := w) ht
 rcases OU k es l 0 hl with ⟨h1, h2⟩ | ⟨j, v, h1, h2, h3⟩
 ·exact .inl ⟨h1, by simp [Instr.findKey, hu, h2]⟩
 ·exact .inr ⟨j, v, h1, h2, by simp [Instr.findKey, hu, h3]⟩
theorem qA {t : TypeId} (ht : P.underlying t = some .string) (em : Bool) (k : ByteArray) : (Instr.checkKey em 10000 t (.string k)).run P w = .ok () w := by
 have hu := run_underlying (w := w) ht
 show (Instr.checkKey em (9999 + 1) t (.string k)).run P w = _
 unfold Instr.checkKey
 simp [hu]
theorem Gs {l : List (ByteArray × Value)} {k : ByteArray} : l.lookup k = none ↔ k ∉ l.map (·.1) := by
 induction l with
 | nil => simp
 | cons y l ih =>
  obtain ⟨y1, y2⟩ := y
  rw [List.lookup_cons]
  by_cases h : k = y1
  ·subst h; simp [oH]
  ·have hb : (k == y1) = false := qz h
   rw [hb]; simp only [List.map_cons, List.mem_cons, not_or]
   exact ⟨fun h2 => ⟨h, ih.1 h2⟩, fun h2 => ih.2 h2.2⟩
theorem OV (l : List (ByteArray × Value)) (k : ByteArray) (v : Value) : (rM l k v).map (·.1) = if (l.lookup k).isNone then l.map (·.1) ++ [k] else l.map (·.1) := by
 unfold rM
 split
 ·simp
 ·rw [List.map_map]
  refine List.map_congr_left fun x _ => ?_
  show (if x.1 = k then (k, v) else x).1 = x.1
  split
  ·rename_i h; exact h.symm
  ·rfl
theorem OW {l : List (ByteArray × Value)} (h : yP l) (k : ByteArray) (v : Value) : yP (rM l k v) := by
 unfold yP
 rw [OV]
 split
 ·rename_i h2
  have h3 : k ∉ l.map (·.1) := Gs.1 (by simpa using h2)
  rw [List.nodup_append]
  refine ⟨h, by simp, fun a ha b hb => ?_⟩
  have : b = k := by simpa using hb
  subst this
  exact fun e => h3 (by rw [← e]; exact ha)
 ·exact h
theorem OX {l : List (ByteArray × Value)} (h : yP l) {k : ByteArray} (v : Value) {j : Nat} (hj : (l[j]?).map (·.1) = some k) : (l.map fun x => if x.1 = k then (k, v) else x) = l.set j (k, v) := by
 apply List.ext_getElem?
 intro m
 have hjl : j < l.length := by
  cases hlj : l[j]? with
  | none => rw [hlj] at hj; cases hj
  | some y => exact (List.getElem?_eq_some_iff.1 hlj).1
 rw [List.getElem?_map, List.getElem?_set]
 by_cases e : j = m
 ·subst e
  rw [if_pos rfl, if_pos hjl]
  rw [List.getElem?_eq_getElem hjl] at hj ⊢
  have h3 : (l[j]).1 = k := by simpa using hj
  simp [h3]
 ·rw [if_neg e]
  cases hm : l[m]? with
  | none => rfl
  | some y =>
   have hml := (List.getElem?_eq_some_iff.1 hm).1
   have hne : y.1 ≠ k := fun h4 => by
    have h5 : (l.map (·.1))[m]? = (l.map (·.1))[j]? := by rw [List.getElem?_map, List.getElem?_map, hm, hj]; simp [h4]
    have h6 : m < (l.map (·.1)).length := by simpa using hml
    have h7 : j < (l.map (·.1)).length := by simpa using hjl
    rw [List.getElem?_eq_getElem h6, List.getElem?_eq_getElem h7] at h5
    injection h5 with h5
    exact e ((List.getElem_inj h).1 h5).symm
   simp [hne]
theorem SMap.made (w : World) : SMap (w.alloc (.map #[] 0)) w.heap.size [] := ⟨#[], 0, (MapKept.heap_alloc w _).1, rfl⟩
theorem SMap.same {w' : World} {b : Nat} {l : List (ByteArray × Value)} (h : SMap w b l) (hb : w'.heap[b]? = w.heap[b]?) : SMap w' b l := by
 obtain ⟨es, clock, h1, h2⟩ := h
 exact ⟨es, clock, hb.trans h1, h2⟩
theorem R3 {mt t el : TypeId} (hm : P.underlying mt = some (.map t el)) (ht : P.underlying t = some .string) {b : Nat} {l : List (ByteArray × Value)} (h : SMap w b l) (hq : yP l) (k : ByteArray) (v : Value) :
  ∃ w', (Instr.mapUpdate mt (.map (some b)) (.string k) v).run P w = .ok () w' ∧ SMap w' b (rM l k v) ∧ w'.heap.size = w.heap.size ∧ w'.os = w.os ∧ w'.tape = w.tape ∧ w'.output = w.output ∧ ∀ j, j ≠ b → w'.heap[j]? = w.heap[j]? := by
 obtain ⟨es, clock, hb, hl⟩ := h
 have hu := run_underlying (w := w) hm
 have hg := MapKept.run_getObj_map (P := P) hb
 have hbl := (Array.getElem?_eq_some_iff.1 hb).1
 rcases D2 (w := w) ht k es.toList l hl with ⟨h1, h2⟩ | ⟨j, v', h1, h5, h2⟩
 ·have hs := MapKept.run_setObj_map (P := P) (.map (es.push { key := .string k, val := v, born := clock }) (clock + 1)) hb
  refine ⟨{ w with heap := w.heap.setIfInBounds b (.map (es.push { key := .string k, val := v, born := clock }) (clock + 1)) }, by simp [Instr.mapUpdate, hu, hg, qA ht, h2, hs], ⟨es.push { key := .string k, val := v, born := clock }, clock + 1, by simp [hbl], ?_⟩, by simp, rfl, rfl, rfl, fun j hj => by simp [Ne.symm hj]⟩
  unfold rM; rw [h1]; simp [hl]
 ·have hkey : ((es[j]?).map (·.key)) = some (.string k) := by
   have h8 := congrArg (fun q => (q[j]?).map (·.1)) hl
   simp only [List.getElem?_map, Option.map_map] at h8
   have h9 : (l[j]?).map (fun x => Value.string x.1) = some (.string k) := by
    cases hlj : l[j]? with
    | none => rw [hlj] at h5; cases h5
    | some y => rw [hlj] at h5; simp at h5; simp [h5]
   have h10 : (es.toList[j]?).map (·.key) = (l[j]?).map (fun x => Value.string x.1) := h8
   rw [← Array.getElem?_toList, h10, h9]
  have hst : (Instr.keyThatStays (((es[j]?).map (·.key)).getD (.string k)) (.string k)).run P w = .ok (.string k) w := by
   rw [hkey]
   have h0 : Instr.sameBits 10000 (.string k) (.string k) = true := by simp [Instr.sameBits, oH]
   show (Instr.keyThatStays (.string k) (.string k)).run P w = _
   unfold Instr.keyThatStays
   rw [if_pos h0]; rfl
  have hs := MapKept.run_setObj_map (P := P) (.map (es.modify j fun e => { e with key := .string k, val := v }) clock) hb
  refine ⟨{ w with heap := w.heap.setIfInBounds b (.map (es.modify j fun e => { e with key := .string k, val := v }) clock) }, by simp [Instr.mapUpdate, hu, hg, qA ht, h2, hst, hs], ⟨es.modify j fun e => { e with key := .string k, val := v }, clock, by simp [hbl], ?_⟩, by simp, rfl, rfl, rfl, fun m hm => by simp [Ne.symm hm]⟩
  have hpl : rM l k v = l.set j (k, v) := by
   unfold rM; rw [h1]
   exact OX hq v h5
  rw [hpl]
  apply List.ext_getElem?
  intro m
  have h8 := congrArg (fun q => q[m]?) hl
  simp only [List.getElem?_map] at h8
  rw [List.getElem?_map, List.getElem?_map, Array.getElem?_toList, Array.getElem?_modify, List.getElem?_set]
  have hjl : j < l.length := by
   cases hlj : l[j]? with
   | none => rw [hlj] at h5; cases h5
   | some y => exact (List.getElem?_eq_some_iff.1 hlj).1
  have WV : j < es.size := by have := congrArg List.length hl; simp at this; omega
  by_cases e : j = m
  ·subst e
   rw [if_pos rfl, if_pos rfl, if_pos hjl, Array.getElem?_eq_getElem WV]
   rfl
  ·rw [if_neg e, if_neg e, ← Array.getElem?_toList]; exact h8
theorem D3 {mt t el : TypeId} (hm : P.underlying mt = some (.map t el)) (ht : P.underlying t = some .string) {z : Value} (hz : (zeroValue el).run P w = .ok z w) {b : Nat} {l : List (ByteArray × Value)} (h : SMap w b l) (k : ByteArray) :
  (Instr.lookup mt (.map (some b)) (.string k) false).run P w = .ok ((l.lookup k).getD z) w := by
 obtain ⟨es, clock, hb, hl⟩ := h
 have hu := run_underlying (w := w) hm
 have hg := MapKept.run_getObj_map (P := P) hb
 rcases D2 (w := w) ht k es.toList l hl with ⟨h1, h2⟩ | ⟨j, v', h1, _, h2⟩
 ·simp [Instr.lookup, hu, hg, qA ht, h2, hz, h1]
 ·simp [Instr.lookup, hu, hg, qA ht, h2, h1]
end
end
section
def climb (ps : List Int) (n : Nat) : Nat → Nat → Nat
 | 0, k => k
 | d + 1, k => if n < k then climb ps n d (gi ps k).toNat else k
def dm (ps : List Int) (n i : Nat) : Bool := decide (climb ps n i i = n)
theorem kJ {ps : List Int} (h : fK ps = true) {k : Nat} (hk : k < ps.length) (h0 : 0 < k) : 0 ≤ gi ps k ∧ gi ps k < k := by
 have h1 := yG h hk
 unfold mH at h1
 rw [if_neg (by omega)] at h1
 simpa using h1
theorem Mm {ps : List Int} (hp : fK ps = true) (n : Nat) : ∀ {d e k : Nat}, k < ps.length → k ≤ d → k ≤ e → climb ps n d k = climb ps n e k := by
 intro d
 induction d with
 | zero =>
  intro e k hl h1 h2
  obtain rfl : k = 0 := by omega
  cases e with
  | zero => rfl
  | succ e => simp [climb]
 | succ d ih =>
  intro e k hl h1 h2
  cases e with
  | zero =>
   obtain rfl : k = 0 := by omega
   simp [climb]
  | succ e =>
   rw [climb, climb]
   split
   ·rename_i hnk
    have := kJ hp hl (by omega)
    exact ih (by omega) (by omega) (by omega)
   ·rfl
theorem Mn {ps : List Int} (hp : fK ps = true) {n k : Nat} (hk : k < ps.length) (hn : n < k) : climb ps n k k = climb ps n (gi ps k).toNat (gi ps k).toNat := by
 have h1 := kJ hp hk (by omega)
 obtain ⟨m, rfl⟩ : ∃ m, k = m + 1 := ⟨k - 1, by omega⟩
 rw [climb, if_pos hn]
 exact Mm hp n (by omega) (by omega) (Nat.le_refl _)
theorem vr {ps : List Int} {n k : Nat} (hn : ¬ n < k) : climb ps n k k = k := by
 cases k with
 | zero => rfl
 | succ k => rw [climb, if_neg hn]

theorem vt {ps : List Int} (i : Nat) : dm ps i i = true := by unfold dm; rw [vr (by omega)]; simp
theorem nO {ps : List Int} (_ : fK ps = true) {i : Nat} : ∀ {j : Nat}, j < ps.length → dm ps i j = true → i ≤ j := by
 intro j
 induction j using Nat.strongRecOn with
 | ind j ih =>
  intro hj h
  by_cases e : i < j
  ·omega
  ·unfold dm at h
   rw [vr e] at h
   have : j = i := by simpa using h
   omega
theorem mC {ps : List Int} (hp : fK ps = true) {i j : Nat} (hj : j < ps.length) (hi : i < j) : dm ps i j = dm ps i (gi ps j).toNat := by
 unfold dm; rw [Mn hp hj hi]
theorem CO {ps : List Int} (hp : fK ps = true) {i : Nat} : ∀ {j : Nat}, j < ps.length → (dm ps i j = true ↔ j = i ∨ ∃ c, c < ps.length ∧ i < c ∧ gi ps c = (i : Int) ∧ dm ps c j = true) := by
 intro j
 induction j using Nat.strongRecOn with
 | ind j ih =>
  intro hj
  by_cases e : i < j
  ·have hpar := kJ hp hj (by omega)
   have Gt : ((gi ps j).toNat : Int) = gi ps j := Int.toNat_of_nonneg hpar.1
   have hpl : (gi ps j).toNat < j := by omega
   rw [mC hp hj e, ih _ hpl (by omega)]
   constructor
   ·rintro (h | ⟨c, h1, h2, h3, h4⟩)
    ·exact .inr ⟨j, hj, e, by omega, vt j⟩
    ·have := nO hp (show (gi ps j).toNat < ps.length by omega) h4
     exact .inr ⟨c, h1, h2, h3, by rw [mC hp hj (by omega)]; exact h4⟩
   ·rintro (h | ⟨c, h1, h2, h3, h4⟩)
    ·omega
    ·have wT := nO hp hj h4
     by_cases ec : c = j
     ·subst ec; left; omega
     ·right
      exact ⟨c, h1, h2, h3, by rw [mC hp hj (by omega)] at h4; exact h4⟩
  ·unfold dm
   rw [vr e]
   constructor
   ·intro h; left; simpa using h
   ·rintro (h | ⟨c, h1, h2, h3, h4⟩)
    ·simpa using h
    ·have := nO hp hj h4; omega
end
section
open Go.RowKit Go.Deep
end
end Go.Proofs.YtpnmblnahjjmhaaGreat
