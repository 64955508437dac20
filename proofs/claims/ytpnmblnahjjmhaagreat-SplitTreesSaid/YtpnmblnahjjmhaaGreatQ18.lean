/- The contract of layer 31's reference's Check. The rose tree of nested sets: leaves, sizes, no node with one child. Maps whose keys are strings. Which nodes lie below a node of a tree that is numbered depth first. The law's names: A, B, .. The contract of slices.Sort at ints: the laying. -/
import Derived.Test.YtpnmblnahjjmhaaGreatQ1
import Derived.Test.YtpnmblnahjjmhaaGreatQ11
import Derived.Test.YtpnmblnahjjmhaaGreatQ16
import Derived.Test.YtpnmblnahjjmhaaGreatQ4
import Derived.Test.YtpnmblnahjjmhaaGreatQ13
import Derived.Laws.IdiomStrings
import Derived.Shelf.SlGeneric
import Derived.Shelf.SlLaysM
import Derived.Ground.SlgmProg
import Derived.Test.YtpnmblnahjjmhaaGreatProg
namespace Go.Proofs.YtpnmblnahjjmhaaGreat
set_option maxRecDepth 100000
section
open Go.RowKit Go.Deep
set_option maxHeartbeats 1600000 in
theorem Gr (S : Nat → Prop) (w : World) (v : Value) (t : aJ) (h : aO S w v t) (hp : t.ps.length ≤ 1000000) (hn : t.ns.length ≤ 1000000) (hz : ∀ k, (gs t.ns k).size ≤ 70000) :
    Calls Tryz.prog 52 #[v] w fun e w' => e = .returned (.int .i64 (aK t)) ∧ Below w.heap.size w w' := by
  obtain ⟨P, N, rfl, hP, hN⟩ := h
  obtain ⟨ps, ns⟩ := t
  simp only at *
  have dx : aK ⟨ps, ns⟩ = if ps.length = 0 then 5 else if 64 < ps.length then 4 else if ns.length ≠ ps.length then 9 else if gx ps then firstNZ (jv ps ns) ps.length else 2 := rfl
  have HF := ag dx
  clear dx
  have fN : Below w.heap.size w (w.alloc (.cells #[P, N] 39)) := (Below.refl _ _).alloc (Nat.le_refl _) _
  have Gs : aO S (w.alloc (.cells #[P, N] 39)) (.agg #[P, N]) ⟨ps, ns⟩ := aO.keep ⟨P, N, rfl, hP, hN⟩ (Kept.below fN)
  have NF := hP.keep (Kept.below fN)
  have NG := hN.keep (Kept.below fN)
  clear hP hN
  obtain ⟨p, cap, rfl, hcap, HP⟩ := aC.open NF
  obtain ⟨q, cF, rfl, Bf, HN⟩ := aC.open NG
  have JV := ag HP
  have Fu := ag HN
  have Uj := ag Gs
  have cU := ag fN
  clear NF NG HP HN Gs fN
  by_cases h0 : ps.length = 0
  · have HX : Hid (ps.length = 0) := h0
    have h0' : ((ps.length : Int) == 0) = true := by simp [h0]
    clear h0
    aq Tryz.func52, Tryz.ntmps52
    aa fail
    ax
    exact ⟨aQ (by rw [HF.out, if_pos HX.out]), cU.out⟩
  have h0' : ((ps.length : Int) == 0) = false := by simpa using h0
  by_cases h1 : 64 < ps.length
  · aq Tryz.func52, Tryz.ntmps52
    aa fail
    ax
    exact ⟨aQ (by rw [HF.out, if_neg h0, if_pos h1]), cU.out⟩
  by_cases h2 : ns.length = ps.length
  · have NH : ((ns.length : Int) != ps.length) = false := by simp [h2]
    have H2 := ag h2
    clear h2
    have rT : (w.alloc (.cells #[.slice p ps.length cap, .slice q ns.length cF] 39)).cell? ⟨w.heap.size, 0, none⟩ = some (.slice p ps.length cap) := by simp [World.cell?_alloc_new]
    have uF : (w.alloc (.cells #[.slice p ps.length cap, .slice q ns.length cF] 39)).cell? ⟨w.heap.size, 1, none⟩ = some (.slice q ns.length cF) := by simp [World.cell?_alloc_new]
    have hct : (w.alloc (.cells #[.slice p ps.length cap, .slice q ns.length cF] 39)).rowIs w.heap.size 39 2 (fun i => if i = 0 then .slice p ps.length cap else .slice q ns.length cF) :=
      World.rowIs_alloc w _ _ _ (fun i hi => by match i, hi with | 0, _ => rfl | 1, _ => rfl)
    have hsz : (w.alloc (.cells #[.slice p ps.length cap, .slice q ns.length cF] 39)).heap.size = w.heap.size + 1 := by simp
    have HS := ag hsz
    have uG := ag rT
    have JW := ag uF
    have BX := ag hct
    clear hsz uF hct
    aq Tryz.func52, Tryz.ntmps52
    aa fail
    generalize hw0 : w.alloc (.cells #[.slice p ps.length cap, .slice q ns.length cF] 39) = w0 at *
    clear hw0
    dD [3] (fun i => ∃ k : Nat, k ≤ ps.length ∧ i = .int .i64 k ∧ Hid (∀ j, j < k → nE j (gi ps j) = true)) (fun i => ps.length - (intOf i).toNat)
    case atStart => exact ⟨0, Nat.zero_le _, rfl, fun j hj => absurd hj (Nat.not_lt_zero _)⟩
    case round =>
      obtain ⟨k, hk, rfl, hd⟩ := bE
      by_cases hlt : k < ps.length
      · obtain ⟨b, off, rfl, hc⟩ := JV.out k hlt
        clear JV Fu Uj
        generalize hpk : gi ps k = x at *
        have HX := ag hpk
        clear hpk
        by_cases hg : 0 < k ∧ 0 ≤ x ∧ x < k
        · obtain ⟨g1, g2, g3⟩ := hg
          aa fail
          cz
          case rel => exact ⟨k + 1, by omega, by aH, fun j hj => if e : j = k then by subst e; rw [HX.out]; unfold nE; rw [if_neg (by omega)]; simp; omega else hd.out j (by omega)⟩
          case measure => simp [intOf]; omega
        · by_cases Fv : k = 0 ∧ x = -1
          · obtain ⟨rfl, rfl⟩ := Fv
            have qM : w0.cell? ⟨b, off, none⟩ = some (.int .i64 (-1)) := by simpa using hc
            aa fail
            cz
            case rel => exact ⟨1, by omega, by aH, fun j hj => by obtain rfl : j = 0 := by omega
                                                                      rw [HX.out]; rfl⟩
            case measure => simp [intOf]; omega
          · have qF : nE k x = false := by
              unfold nE; split
              · rename_i e; simp; exact fun e2 => Fv ⟨e, e2⟩
              · simp; intro; omega
            rw [← HX.out] at qF
            have HB := ag (Fp hlt qF)
            clear qF
            have qM : k = 0 → w0.cell? ⟨b, off, none⟩ = some (.int .i64 x) := fun e => by subst e; simpa using hc
            rcases Nat.eq_zero_or_pos k with rfl | jf
            · have fJ := qM rfl
              clear qM hc
              aa fail
              all_goals ax
              all_goals exact ⟨aQ (by rw [HF.out, if_neg h0, if_neg h1, if_neg (by rw [H2.out]; simp), HB.out]; simp), cU.out⟩
            · clear qM
              aa fail
              all_goals ax
              all_goals exact ⟨aQ (by rw [HF.out, if_neg h0, if_neg h1, if_neg (by rw [H2.out]; simp), HB.out]; simp), cU.out⟩
      · obtain rfl : k = ps.length := by omega
        have XO := Ah hd.out
        have hok := ag XO
        clear hlt hk hd JV hcap XO
        aa fail
        aV [4, 5] (fun i _ wr => ∃ k : Nat, k ≤ ps.length ∧ i = .int .i64 k ∧ Hid (∀ j, j < k → jv ps ns j = 0) ∧ Below w0.heap.size w0 wr) (fun i _ _ => ps.length - (intOf i).toNat)
        case atStart => exact ⟨0, Nat.zero_le _, rfl, fun j hj => absurd hj (Nat.not_lt_zero _), Below.refl _ _⟩
        case round =>
          obtain ⟨k, hk, rfl, hd, jG⟩ := bE
          clear rT
          have rT : wr.cell? ⟨w.heap.size, 0, none⟩ = some (.slice p ps.length cap) := (jG.cell (p := ⟨w.heap.size, 0, none⟩) (by have := HS.out; simp; omega)).trans uG.out
          have uF : wr.cell? ⟨w.heap.size, 1, none⟩ = some (.slice q ns.length cF) := (jG.cell (p := ⟨w.heap.size, 1, none⟩) (by have := HS.out; simp; omega)).trans JW.out
          by_cases hlt : k < ps.length
          · have hlen : ns.length ≤ ps.length ∧ ps.length ≤ ns.length := by have := H2.out; omega
            obtain ⟨ql, mw⟩ := hlen
            have hT := Uj.out.keep (Kept.below jG)
            have hkd := Kf S wr _ ⟨ps, ns⟩ k hT hp hlt
            have kO := ag hkd
            have hne : jv ps ns k = if isIn ps k then (if (gs ns k).size = 0 then 0 else 14) else if bM (gs ns k).data.toList then (if dO ns k then 7 else 0) else 14 := rfl
            have hki := kW hok.out k
            have hend : jv ps ns k ≠ 0 → aK ⟨ps, ns⟩ = jv ps ns k := fun hn0 => by
              rw [HF.out, if_neg h0, if_neg h1, if_neg (by rw [H2.out]; simp), hok.out, if_pos rfl]; exact fM hlt hd.out hn0
            have HE := ag hne
            have Ai := ag hend
            have HKI := ag hki
            clear hT hkd hne hend hki
            aa fail
            refine kO.out.mono ?_
            rintro e w2 ⟨bK, v2, rfl, JY⟩
            obtain ⟨p2, c2, rfl, _, _⟩ := aC.open JY
            clear JY
            have hcp2 : w2.cell? ⟨w.heap.size, 0, none⟩ = some (.slice p ps.length cap) := (bK.cell (p := ⟨w.heap.size, 0, none⟩) (World.block_lt_of_cell? _ _ rT)).trans rT
            have R1 : w2.cell? ⟨w.heap.size, 1, none⟩ = some (.slice q ns.length cF) := (bK.cell (p := ⟨w.heap.size, 1, none⟩) (World.block_lt_of_cell? _ _ uF)).trans uF
            have Gt : Below w0.heap.size w0 w2 := jG.trans (bK.mono jG.size)
            clear rT uF kO bK
            have Bg := hz k
            have hnil := toList_nil (gs ns k)
            have nh := ag hnil
            have CX := ag Gt
            obtain ⟨b, off, rfl, hc0⟩ := Fu.out k (by omega)
            have fJ : w2.cell? ⟨b, off + k, none⟩ = some (.string (gs ns k)) := (Gt.cell (p := ⟨b, off + k, none⟩) (World.block_lt_of_cell? _ _ hc0)).trans hc0
            clear hc0 Gt hnil hz
            cases hin : isIn ps k
            · have jf : (e9 (bO ps k)).length = 0 := by
                rcases h : bO ps k with _ | ⟨a, l⟩
                · rfl
                · have h2 := HKI.out.1 (by rw [h]; simp); rw [hin] at h2; cases h2
              rw [jf]
              have u6 := ag hin
              clear jf hin
              have hnm := RO (gs ns k) Bg w2
              have mz := ag hnm
              clear hnm
              cases hnb : bM (gs ns k).data.toList
              · have mO := ag hnb
                rw [hnb] at mz
                clear hnb
                aa fail
                refine mz.out.mono ?_
                rintro e w3 ⟨rfl, jL⟩
                aa fail
                ax
                exact ⟨aQ (by rw [Ai.out (by rw [HE.out, u6.out, mO.out]; simp), HE.out, u6.out, mO.out]; simp), cU.out.trans ((CX.out.mono (by have := HS.out; omega)).trans (jL.mono (by have := HS.out; have := CX.out.size; omega)))⟩
              · have mO := ag hnb
                rw [hnb] at mz
                clear hnb
                aa fail
                refine mz.out.mono ?_
                rintro e w3 ⟨rfl, jL⟩
                have XP : Below w0.heap.size w0 w3 := CX.out.trans (jL.mono CX.out.size)
                have hcq3 : w3.cell? ⟨w.heap.size, 1, none⟩ = some (.slice (some ⟨b, off, none⟩) ns.length cF) := (jL.cell (p := ⟨w.heap.size, 1, none⟩) (World.block_lt_of_cell? _ _ R1)).trans R1
                have hc3 : w3.cell? ⟨b, off + k, none⟩ = some (.string (gs ns k)) := (jL.cell (p := ⟨b, off + k, none⟩) (World.block_lt_of_cell? _ _ fJ)).trans fJ
                have R2 := ag XP
                clear hcp2 R1 fJ jL XP
                aa fail
                aV [5] (fun i wq => ∃ j a : Nat, j ≤ k ∧ i = .int .i64 j ∧ Hid (∀ m, m < j → decide (gs ns m = gs ns k) = false) ∧ wq = w3.drewN a) (fun i _ => k - (intOf i).toNat)
                case atStart => exact ⟨0, 0, Nat.zero_le _, rfl, fun j hj => absurd hj (Nat.not_lt_zero _), rfl⟩
                case round =>
                  obtain ⟨j, a, hj, rfl, hd2, rfl⟩ := bE
                  by_cases hjk : j < k
                  · obtain ⟨b', off', eb, xx⟩ := Fu.out j (by omega)
                    cases eb
                    have Kq : w3.cell? ⟨b, off + j, none⟩ = some (.string (gs ns j)) := (R2.out.cell (p := ⟨b, off + j, none⟩) (World.block_lt_of_cell? _ _ xx)).trans xx
                    clear xx
                    have i1 : (0 : Int) ≤ (j : Int) := by omega
                    have i2 : (j : Int) < (ns.length : Int) := by omega
                    have i3 : (0 : Int) ≤ (k : Int) := by omega
                    have i4 : (k : Int) < (ns.length : Int) := by omega
                    have HNEQ := ag (toList_data (gs ns j))
                    aa fail
                    fP (fail)
                    aa fail
                    · have hs : dO ns k = true := List.any_eq_true.2 ⟨j, List.mem_range.2 hjk, by simpa using JU ‹_›⟩
                      ax
                      exact ⟨aQ (by rw [Ai.out (by rw [HE.out, u6.out, mO.out, hs]; simp), HE.out, u6.out, mO.out, hs]; simp), cU.out.trans (Below.mono (B := w0.heap.size) (below_drewN (below_drewN R2.out _) _) (by have := HS.out; omega))⟩
                    · have hs := ND ‹((gs ns j).toList == (gs ns k).toList) = false›
                      aF
                      case rel => exact ⟨j + 1, _, by omega, by aH, fun m hm => if e : m = j then by subst e; simpa using hs else hd2.out m (by omega), rfl⟩
                      case measure => simp [intOf]; omega
                  · have hs : dO ns k = false := by
                      rw [Bool.eq_false_iff]; intro e
                      obtain ⟨m, hm, h2⟩ := List.any_eq_true.1 e
                      have h3 := hd2.out m (by have := List.mem_range.1 hm; omega)
                      rw [h3] at h2; cases h2
                    have Od := ag hs
                    clear hs
                    aa fail
                    aF
                    case rel => exact ⟨k + 1, by omega, by aH, fun m hm => if e : m = k then by subst e; rw [HE.out, u6.out, mO.out, Od.out]; simp else hd.out m (by omega), below_drewN R2.out _⟩
                    case measure => simp [intOf]; omega
            · have jf : 0 < (e9 (bO ps k)).length := by
                have h2 := HKI.out.2 hin
                unfold e9; rw [List.length_map]; exact List.length_pos_iff.2 h2
              generalize (e9 (bO ps k)).length = m at *
              have u6 := ag hin
              clear hin
              by_cases kL : (gs ns k).size = 0
              · have hg1 : (gs ns k).toList = [] := nh.out.2 kL
                have rU := ag kL
                clear kL
                aa fail
                aF
                case rel => exact ⟨k + 1, by omega, by aH, fun j hj => if e : j = k then by subst e; rw [HE.out, u6.out, rU.out]; simp else hd.out j (by omega), CX.out⟩
                case measure => simp [intOf]; omega
              · have hg1 : ((gs ns k).toList == []) = false := by
                  rw [Bool.eq_false_iff]; intro e; exact kL (nh.out.1 (by simpa using e))
                have hg2 : ((gs ns k).toList != []) = true := by
                  rw [bne_iff_ne]; intro e; exact kL (nh.out.1 (by simpa using e))
                have rU := ag kL
                clear kL
                aa fail
                ax
                exact ⟨aQ (by rw [Ai.out (by rw [HE.out, u6.out, if_pos rfl, if_neg rU.out]; simp), HE.out, u6.out, if_pos rfl, if_neg rU.out]), cU.out.trans (CX.out.mono (by have := HS.out; omega))⟩
          · have hk2 : k = ps.length := by omega
            clear hlt
            aa fail
            ax
            exact ⟨aQ (by rw [HF.out, if_neg h0, if_neg h1, if_neg (by rw [H2.out]; simp), hok.out, if_pos rfl, c9 fun j hj => hd.out j (by omega)]), cU.out.trans (jG.mono (by have := HS.out; omega))⟩
  · have NH : ((ns.length : Int) != ps.length) = true := by simp; omega
    aq Tryz.func52, Tryz.ntmps52
    aa fail
    ax
    exact ⟨aQ (by rw [HF.out, if_neg h0, if_neg h1, if_pos h2]), cU.out⟩
end
section
theorem x8 {α β : Type} {f g : α → List β} : ∀ l : List α, (∀ a ∈ l, (f a).Perm (g a)) → (l.flatMap f).Perm (l.flatMap g)
 | [], _ => List.Perm.refl _
 | a :: l, h => by
  rw [List.flatMap_cons, List.flatMap_cons]
  exact (h a (by simp)).append (x8 l fun b hb => h b (by simp [hb]))
def oH (s : RT) : Prop := (s.kids ≠ [] → s.nm.size = 0) ∧ (s.kids = [] → bM s.nm.data.toList = true) ∧ s.kids.length ≠ 1
def nw (l : List ByteArray) : List ByteArray := l.filter fun s => decide (s.size ≠ 0)
theorem Gu (a b : List ByteArray) : nw (a ++ b) = nw a ++ nw b := List.filter_append _ _
theorem fU {nm : ByteArray} {ks : List RT} (h : nm.size = 0) : bH (.node nm ks) = ks.flatMap bH := by
 have key : ∀ ks : List RT, nw (cR ks) = ks.flatMap bH := by
  intro ks
  induction ks with
  | nil => rfl
  | cons r rs ih => rw [cR, Gu, ih, List.flatMap_cons]; rfl
 show nw (cT _) = _
 rw [cT, ← key]
 unfold nw
 rw [List.filter_cons_of_neg (by simp [h])]
theorem jl {nm : ByteArray} (h : nm.size ≠ 0) : bH (.node nm []) = [nm] := by
 show List.filter _ (cT _) = _
 rw [cT, cR, List.filter_cons_of_pos (by simpa using h)]; rfl
mutual
theorem size_le : ∀ r : RT, (∀ s ∈ subR r, oH s) → aS r + 1 ≤ 2 * (bH r).length
 | .node nm [], h => by
  have h1 : bM nm.data.toList = true := (h (.node nm []) (by rw [subR]; simp)).2.1 rfl
  rw [jl (eS h1)]; simp [aS, sizeRs]
 | .node nm (k :: ks), h => by
  have h0 := h (.node nm (k :: ks)) (by rw [subR]; simp)
  have h1 : nm.size = 0 := h0.1 (by simp [RT.kids])
  have h2 : (k :: ks).length ≠ 1 := h0.2.2
  rw [fU h1]
  have h3 := Gw (k :: ks) (fun s hs => h s (by rw [subR]; exact List.mem_cons_of_mem _ hs))
  rw [List.length_cons] at h2 h3
  rw [aS]; omega
theorem Gw : ∀ rs : List RT, (∀ s ∈ subRs rs, oH s) → sizeRs rs + rs.length ≤ 2 * (rs.flatMap bH).length
 | [], _ => by simp [sizeRs]
 | r :: rs, h => by
  have h1 := size_le r (fun s hs => h s (by rw [subRs]; exact List.mem_append_left _ hs))
  have h2 := Gw rs (fun s hs => h s (by rw [subRs]; exact List.mem_append_right _ hs))
  rw [sizeRs, List.flatMap_cons, List.length_append, List.length_cons]; omega
end
end
section
open Go.RowKit Go.Deep
def sA (l : List (ByteArray × Value)) (k : ByteArray) (v : Value) : List (ByteArray × Value) := if (l.lookup k).isNone then l ++ [(k, v)] else l.map fun x => if x.1 = k then (k, v) else x
def SMap (w : World) (b : Nat) (l : List (ByteArray × Value)) : Prop := ∃ es clock, w.heap[b]? = some (.map es clock) ∧ es.toList.map (fun x => (x.key, x.val)) = l.map (fun x => (Value.string x.1, x.2))
def za (l : List (ByteArray × Value)) : Prop := (l.map (·.1)).Nodup
theorem OV (a b : ByteArray) : (a == b) = decide (a = b) := by
 obtain ⟨a⟩ := a
 obtain ⟨b⟩ := b
 have : ((⟨a⟩ : ByteArray) == ⟨b⟩) = (a == b) := rfl
 rw [this]
 by_cases h : a = b
 ·subst h; simp
 ·have h2 : ¬ (⟨a⟩ : ByteArray) = ⟨b⟩ := fun e => h (ByteArray.mk.inj e)
  rw [decide_eq_false h2]; simpa using h
theorem pO (a : ByteArray) : (a == a) = true := by rw [OV]; simp
theorem ri {a b : ByteArray} (h : ¬ a = b) : (a == b) = false := by rw [OV]; simpa using h
section
variable {P : Program} {w : World}
theorem OW (k : ByteArray) : ∀ (es : List MapEntry) (l : List (ByteArray × Value)) (i : Nat),
  es.map (fun x => (x.key, x.val)) = l.map (fun x => (Value.string x.1, x.2)) →
   (l.lookup k = none ∧ Instr.findNow .string (.string k) es i = some none) ∨ ∃ j v, l.lookup k = some v ∧ (l[j]?).map (·.1) = some k ∧ Instr.findNow .string (.string k) es i = some (some (i + j, v)) := by
 intro es
 induction es with
 | nil =>
  intro l i hl
  cases l with
  | nil => exact .inl ⟨rfl, rfl⟩
  | cons => cases hl
 | cons x es ih =>
  intro l i hl
  cases l with
  | nil => cases hl
  | cons y l =>
   simp only [List.map_cons, List.cons.injEq, Prod.mk.injEq] at hl
   obtain ⟨⟨h1, h2⟩, h3⟩ := hl
   obtain ⟨y1, y2⟩ := y
   have h1 : x.key = .string y1 := h1
   have h2 : x.val = y2 := h2
   by_cases h : k = y1
   ·subst h
    refine .inr ⟨0, y2, by rw [List.lookup_cons, pO], rfl, ?_⟩
    simp [Instr.findNow, Instr.sameNow, h1, h2, pO]
   ·have hb : (k == y1) = false := ri h
    rcases ih l (i + 1) h3 with ⟨h4, h5⟩ | ⟨j, v, h4, h5, h6⟩
    ·refine .inl ⟨by rw [List.lookup_cons, hb]; exact h4, ?_⟩
     simp [Instr.findNow, Instr.sameNow, h1, hb, h5]
    ·refine .inr ⟨j + 1, v, by rw [List.lookup_cons, hb]; exact h4, by simpa using h5, ?_⟩
     simp [Instr.findNow, Instr.sameNow, h1, hb, h6]; omega
theorem D7 {t : TypeId} (ht : P.underlying t = some .string) (k : ByteArray) (es : List MapEntry) (l : List (ByteArray × Value)) (hl : es.map (fun x => (x.key, x.val)) = l.map (fun x => (Value.string x.1, x.2))) :
  (l.lookup k = none ∧ (Instr.findKey t (.string k) es).run P w = .ok none w) ∨ ∃ j v, l.lookup k = some v ∧ (l[j]?).map (·.1) = some k ∧ (Instr.findKey t (.string k) es).run P w = .ok (some (j, v)) w := by
 have hu := run_underlying (w := w) ht
 rcases OW k es l 0 hl with ⟨h1, h2⟩ | ⟨j, v, h1, h2, h3⟩
 ·exact .inl ⟨h1, by simp [Instr.findKey, hu, h2]⟩
 ·exact .inr ⟨j, v, h1, h2, by simp [Instr.findKey, hu, h3]⟩
theorem rj {t : TypeId} (ht : P.underlying t = some .string) (em : Bool) (k : ByteArray) : (Instr.checkKey em 10000 t (.string k)).run P w = .ok () w := by
 have hu := run_underlying (w := w) ht
 show (Instr.checkKey em (9999 + 1) t (.string k)).run P w = _
 unfold Instr.checkKey
 simp [hu]
theorem Gx {l : List (ByteArray × Value)} {k : ByteArray} : l.lookup k = none ↔ k ∉ l.map (·.1) := by
 induction l with
 | nil => simp
 | cons y l ih =>
  obtain ⟨y1, y2⟩ := y
  rw [List.lookup_cons]
  by_cases h : k = y1
  ·subst h; simp [pO]
  ·have hb : (k == y1) = false := ri h
   rw [hb]; simp only [List.map_cons, List.mem_cons, not_or]
   exact ⟨fun h2 => ⟨h, ih.1 h2⟩, fun h2 => ih.2 h2.2⟩
theorem OX (l : List (ByteArray × Value)) (k : ByteArray) (v : Value) : (sA l k v).map (·.1) = if (l.lookup k).isNone then l.map (·.1) ++ [k] else l.map (·.1) := by
 unfold sA
 split
 ·simp
 ·rw [List.map_map]
  refine List.map_congr_left fun x _ => ?_
  show (if x.1 = k then (k, v) else x).1 = x.1
  split
  ·rename_i h; exact h.symm
  ·rfl
theorem OY {l : List (ByteArray × Value)} (h : za l) (k : ByteArray) (v : Value) : za (sA l k v) := by
 unfold za
 rw [OX]
 split
 ·rename_i h2
  have h3 : k ∉ l.map (·.1) := Gx.1 (by simpa using h2)
  rw [List.nodup_append]
  refine ⟨h, by simp, fun a ha b hb => ?_⟩
  have : b = k := by simpa using hb
  subst this
  exact fun e => h3 (by rw [← e]; exact ha)
 ·exact h
theorem OZ {l : List (ByteArray × Value)} (h : za l) {k : ByteArray} (v : Value) {j : Nat} (hj : (l[j]?).map (·.1) = some k) : (l.map fun x => if x.1 = k then (k, v) else x) = l.set j (k, v) := by
 apply List.ext_getElem?
 intro m
 have hjl : j < l.length := by
  cases hlj : l[j]? with
  | none => rw [hlj] at hj; cases hj
  | some y => exact (List.getElem?_eq_some_iff.1 hlj).1
 rw [List.getElem?_map, List.getElem?_set]
 by_cases e : j = m
 ·subst e
  rw [if_pos rfl, if_pos hjl]
  rw [List.getElem?_eq_getElem hjl] at hj ⊢
  have h3 : (l[j]).1 = k := by simpa using hj
  simp [h3]
 ·rw [if_neg e]
  cases hm : l[m]? with
  | none => rfl
  | some y =>
   have hml := (List.getElem?_eq_some_iff.1 hm).1
   have hne : y.1 ≠ k := fun h4 => by
    have h5 : (l.map (·.1))[m]? = (l.map (·.1))[j]? := by rw [List.getElem?_map, List.getElem?_map, hm, hj]; simp [h4]
    have h6 : m < (l.map (·.1)).length := by simpa using hml
    have h7 : j < (l.map (·.1)).length := by simpa using hjl
    rw [List.getElem?_eq_getElem h6, List.getElem?_eq_getElem h7] at h5
    injection h5 with h5
    exact e ((List.getElem_inj h).1 h5).symm
   simp [hne]
theorem SMap.made (w : World) : SMap (w.alloc (.map #[] 0)) w.heap.size [] := ⟨#[], 0, (MapKept.heap_alloc w _).1, rfl⟩
theorem SMap.same {w' : World} {b : Nat} {l : List (ByteArray × Value)} (h : SMap w b l) (hb : w'.heap[b]? = w.heap[b]?) : SMap w' b l := by
 obtain ⟨es, clock, h1, h2⟩ := h
 exact ⟨es, clock, hb.trans h1, h2⟩
theorem R3 {mt t el : TypeId} (hm : P.underlying mt = some (.map t el)) (ht : P.underlying t = some .string) {b : Nat} {l : List (ByteArray × Value)} (h : SMap w b l) (hq : za l) (k : ByteArray) (v : Value) :
  ∃ w', (Instr.mapUpdate mt (.map (some b)) (.string k) v).run P w = .ok () w' ∧ SMap w' b (sA l k v) ∧ w'.heap.size = w.heap.size ∧ w'.os = w.os ∧ w'.tape = w.tape ∧ w'.output = w.output ∧ ∀ j, j ≠ b → w'.heap[j]? = w.heap[j]? := by
 obtain ⟨es, clock, hb, hl⟩ := h
 have hu := run_underlying (w := w) hm
 have hg := MapKept.run_getObj_map (P := P) hb
 have fZ := (Array.getElem?_eq_some_iff.1 hb).1
 rcases D7 (w := w) ht k es.toList l hl with ⟨h1, h2⟩ | ⟨j, v', h1, h5, h2⟩
 ·have hs := MapKept.run_setObj_map (P := P) (.map (es.push { key := .string k, val := v, born := clock }) (clock + 1)) hb
  refine ⟨{ w with heap := w.heap.setIfInBounds b (.map (es.push { key := .string k, val := v, born := clock }) (clock + 1)) }, by simp [Instr.mapUpdate, hu, hg, rj ht, h2, hs], ⟨es.push { key := .string k, val := v, born := clock }, clock + 1, by simp [fZ], ?_⟩, by simp, rfl, rfl, rfl, fun j hj => by simp [Ne.symm hj]⟩
  unfold sA; rw [h1]; simp [hl]
 ·have hkey : ((es[j]?).map (·.key)) = some (.string k) := by
   have h8 := congrArg (fun q => (q[j]?).map (·.1)) hl
   simp only [List.getElem?_map, Option.map_map] at h8
   have h9 : (l[j]?).map (fun x => Value.string x.1) = some (.string k) := by
    cases hlj : l[j]? with
    | none => rw [hlj] at h5; cases h5
    | some y => rw [hlj] at h5; simp at h5; simp [h5]
   have Om : (es.toList[j]?).map (·.key) = (l[j]?).map (fun x => Value.string x.1) := h8
   rw [← Array.getElem?_toList, Om, h9]
  have hst : (Instr.keyThatStays (((es[j]?).map (·.key)).getD (.string k)) (.string k)).run P w = .ok (.string k) w := by
   rw [hkey]
   have h0 : Instr.sameBits 10000 (.string k) (.string k) = true := by simp [Instr.sameBits, pO]
   show (Instr.keyThatStays (.string k) (.string k)).run P w = _
   unfold Instr.keyThatStays
   rw [if_pos h0]; rfl
  have hs := MapKept.run_setObj_map (P := P) (.map (es.modify j fun e => { e with key := .string k, val := v }) clock) hb
  refine ⟨{ w with heap := w.heap.setIfInBounds b (.map (es.modify j fun e => { e with key := .string k, val := v }) clock) }, by simp [Instr.mapUpdate, hu, hg, rj ht, h2, hst, hs], ⟨es.modify j fun e => { e with key := .string k, val := v }, clock, by simp [fZ], ?_⟩, by simp, rfl, rfl, rfl, fun m hm => by simp [Ne.symm hm]⟩
  have hpl : sA l k v = l.set j (k, v) := by
   unfold sA; rw [h1]
   exact OZ hq v h5
  rw [hpl]
  apply List.ext_getElem?
  intro m
  have h8 := congrArg (fun q => q[m]?) hl
  simp only [List.getElem?_map] at h8
  rw [List.getElem?_map, List.getElem?_map, Array.getElem?_toList, Array.getElem?_modify, List.getElem?_set]
  have hjl : j < l.length := by
   cases hlj : l[j]? with
   | none => rw [hlj] at h5; cases h5
   | some y => exact (List.getElem?_eq_some_iff.1 hlj).1
  have WS : j < es.size := by have := congrArg List.length hl; simp at this; omega
  by_cases e : j = m
  ·subst e
   rw [if_pos rfl, if_pos rfl, if_pos hjl, Array.getElem?_eq_getElem WS]
   rfl
  ·rw [if_neg e, if_neg e, ← Array.getElem?_toList]; exact h8
theorem D8 {mt t el : TypeId} (hm : P.underlying mt = some (.map t el)) (ht : P.underlying t = some .string) {z : Value} (hz : (zeroValue el).run P w = .ok z w) {b : Nat} {l : List (ByteArray × Value)} (h : SMap w b l) (k : ByteArray) :
  (Instr.lookup mt (.map (some b)) (.string k) false).run P w = .ok ((l.lookup k).getD z) w := by
 obtain ⟨es, clock, hb, hl⟩ := h
 have hu := run_underlying (w := w) hm
 have hg := MapKept.run_getObj_map (P := P) hb
 rcases D7 (w := w) ht k es.toList l hl with ⟨h1, h2⟩ | ⟨j, v', h1, _, h2⟩
 ·simp [Instr.lookup, hu, hg, rj ht, h2, hz, h1]
 ·simp [Instr.lookup, hu, hg, rj ht, h2, h1]
end
end
section
def climb (ps : List Int) (n : Nat) : Nat → Nat → Nat
 | 0, k => k
 | d + 1, k => if n < k then climb ps n d (gi ps k).toNat else k
def dU (ps : List Int) (n i : Nat) : Bool := decide (climb ps n i i = n)
theorem lI {ps : List Int} (h : gx ps = true) {k : Nat} (hk : k < ps.length) (h0 : 0 < k) : 0 ≤ gi ps k ∧ gi ps k < k := by
 have h1 := yW h hk
 unfold nE at h1
 rw [if_neg (by omega)] at h1
 simpa using h1
theorem Mo {ps : List Int} (hp : gx ps = true) (n : Nat) : ∀ {d e k : Nat}, k < ps.length → k ≤ d → k ≤ e → climb ps n d k = climb ps n e k := by
 intro d
 induction d with
 | zero =>
  intro e k hl h1 h2
  obtain rfl : k = 0 := by omega
  cases e with
  | zero => rfl
  | succ e => simp [climb]
 | succ d ih =>
  intro e k hl h1 h2
  cases e with
  | zero =>
   obtain rfl : k = 0 := by omega
   simp [climb]
  | succ e =>
   rw [climb, climb]
   split
   ·rename_i hnk
    have := lI hp hl (by omega)
    exact ih (by omega) (by omega) (by omega)
   ·rfl
theorem Mp {ps : List Int} (hp : gx ps = true) {n k : Nat} (hk : k < ps.length) (hn : n < k) : climb ps n k k = climb ps n (gi ps k).toNat (gi ps k).toNat := by
 have h1 := lI hp hk (by omega)
 obtain ⟨m, rfl⟩ : ∃ m, k = m + 1 := ⟨k - 1, by omega⟩
 rw [climb, if_pos hn]
 exact Mo hp n (by omega) (by omega) (Nat.le_refl _)
theorem vK {ps : List Int} {n k : Nat} (hn : ¬ n < k) : climb ps n k k = k := by
 cases k with
 | zero => rfl
 | succ k => rw [climb, if_neg hn]

theorem vL {ps : List Int} (i : Nat) : dU ps i i = true := by unfold dU; rw [vK (by omega)]; simp
theorem oI {ps : List Int} (_ : gx ps = true) {i : Nat} : ∀ {j : Nat}, j < ps.length → dU ps i j = true → i ≤ j := by
 intro j
 induction j using Nat.strongRecOn with
 | ind j ih =>
  intro hj h
  by_cases e : i < j
  ·omega
  ·unfold dU at h
   rw [vK e] at h
   have : j = i := by simpa using h
   omega
theorem ny {ps : List Int} (hp : gx ps = true) {i j : Nat} (hj : j < ps.length) (hi : i < j) : dU ps i j = dU ps i (gi ps j).toNat := by
 unfold dU; rw [Mp hp hj hi]
theorem CY {ps : List Int} (hp : gx ps = true) {i : Nat} : ∀ {j : Nat}, j < ps.length → (dU ps i j = true ↔ j = i ∨ ∃ c, c < ps.length ∧ i < c ∧ gi ps c = (i : Int) ∧ dU ps c j = true) := by
 intro j
 induction j using Nat.strongRecOn with
 | ind j ih =>
  intro hj
  by_cases e : i < j
  ·have hpar := lI hp hj (by omega)
   have Gy : ((gi ps j).toNat : Int) = gi ps j := Int.toNat_of_nonneg hpar.1
   have hpl : (gi ps j).toNat < j := by omega
   rw [ny hp hj e, ih _ hpl (by omega)]
   constructor
   ·rintro (h | ⟨c, h1, h2, h3, h4⟩)
    ·exact .inr ⟨j, hj, e, by omega, vL j⟩
    ·have := oI hp (show (gi ps j).toNat < ps.length by omega) h4
     exact .inr ⟨c, h1, h2, h3, by rw [ny hp hj (by omega)]; exact h4⟩
   ·rintro (h | ⟨c, h1, h2, h3, h4⟩)
    ·omega
    ·have xx := oI hp hj h4
     by_cases ec : c = j
     ·subst ec; left; omega
     ·right
      exact ⟨c, h1, h2, h3, by rw [ny hp hj (by omega)] at h4; exact h4⟩
  ·unfold dU
   rw [vK e]
   constructor
   ·intro h; left; simpa using h
   ·rintro (h | ⟨c, h1, h2, h3, h4⟩)
    ·simpa using h
    ·have := oI hp hj h4; omega
end
section
open Go.RowKit Go.Deep
end
end Go.Proofs.YtpnmblnahjjmhaaGreat
namespace Go.Proofs
open Go.Shelf
end Go.Proofs
