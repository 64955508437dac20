/- The contract of layer 31's reference's Check. The contract of parsimony.children: an .. -/
import Derived.RangeFuncNested
import Derived.RangeFuncBound
import Derived.RangeFuncCalls
import Derived.RangeFuncLeaves
import Derived.Shelf.RegionOpen
import Derived.OwnWalkIn
import Derived.TacticsInMore
import Derived.LoopNIn
import Derived.LoopIn
import Derived.Sort.QuietIn
import Derived.Stop.RegionWithIn
import Derived.Test.YthgabkgmkolobaaGreatQ5
set_option maxRecDepth 100000
namespace Go.Proofs.YthgabkgmkolobaaGreat
section
open Go.RowKit Go.Deep
set_option maxHeartbeats 1600000 in
theorem jZ (S : Nat → Prop) (w : World) (v : Value) (t : aD) (h : au S w v t) (hp : t.ps.length ≤ 1000000) (hn : t.ns.length ≤ 1000000) (hz : ∀ k, (gs t.ns k).size ≤ 70000) :
    Calls Tryz.prog 33 #[v] w fun e w' => e = .returned (.int .i64 (aB t)) ∧ Below w.heap.size w w' := by
  obtain ⟨P, N, rfl, hP, hN⟩ := h
  obtain ⟨ps, ns⟩ := t
  simp only at *
  have b8 : aB ⟨ps, ns⟩ = if ps.length = 0 then 5 else if 64 < ps.length then 4 else if ns.length ≠ ps.length then 9 else if iQ ps then firstNZ (iC ps ns) ps.length else 2 := rfl
  have HF := aa b8
  clear b8
  have k9 : Below w.heap.size w (w.alloc (.cells #[P, N] 39)) := (Below.refl _ _).alloc (Nat.le_refl _) _
  have Yd : au S (w.alloc (.cells #[P, N] 39)) (.agg #[P, N]) ⟨ps, ns⟩ := au.keep ⟨P, N, rfl, hP, hN⟩ (Kept.below k9)
  have Lb := hP.keep (Kept.below k9)
  have Lc := hN.keep (Kept.below k9)
  clear hP hN
  obtain ⟨p, cap, rfl, hcap, HP⟩ := aC.open Lb
  obtain ⟨q, cr, rfl, mD, HN⟩ := aC.open Lc
  have Ip := aa HP
  have Ef := aa HN
  have Ej := aa Yd
  have eu := aa k9
  clear Lb Lc HP HN Yd k9
  by_cases h0 : ps.length = 0
  · have HX : Hid (ps.length = 0) := h0
    have h0' : ((ps.length : Int) == 0) = true := by simp [h0]
    clear h0
    go_enter Tryz.func33, Tryz.ntmps33
    go_wp2_with fail
    go_ret
    exact ⟨aH (by rw [HF.out, if_pos HX.out]), eu.out⟩
  have h0' : ((ps.length : Int) == 0) = false := by simpa using h0
  by_cases h1 : 64 < ps.length
  · go_enter Tryz.func33, Tryz.ntmps33
    go_wp2_with fail
    go_ret
    exact ⟨aH (by rw [HF.out, if_neg h0, if_pos h1]), eu.out⟩
  by_cases h2 : ns.length = ps.length
  · have B7 : ((ns.length : Int) != ps.length) = false := by simp [h2]
    have H2 := aa h2
    clear h2
    have jL : (w.alloc (.cells #[.slice p ps.length cap, .slice q ns.length cr] 39)).cell? ⟨w.heap.size, 0, none⟩ = some (.slice p ps.length cap) := by simp [World.cell?_alloc_new]
    have jh : (w.alloc (.cells #[.slice p ps.length cap, .slice q ns.length cr] 39)).cell? ⟨w.heap.size, 1, none⟩ = some (.slice q ns.length cr) := by simp [World.cell?_alloc_new]
    have hct : (w.alloc (.cells #[.slice p ps.length cap, .slice q ns.length cr] 39)).rowIs w.heap.size 39 2 (fun i => if i = 0 then .slice p ps.length cap else .slice q ns.length cr) :=
      World.rowIs_alloc w _ _ _ (fun i hi => by match i, hi with | 0, _ => rfl | 1, _ => rfl)
    have hsz : (w.alloc (.cells #[.slice p ps.length cap, .slice q ns.length cr] 39)).heap.size = w.heap.size + 1 := by simp
    have HS := aa hsz
    have Iq := aa jL
    have uZ := aa jh
    have Iu := aa hct
    clear hsz jh hct
    go_enter Tryz.func33, Tryz.ntmps33
    go_wp2_with fail
    generalize hw0 : w.alloc (.cells #[.slice p ps.length cap, .slice q ns.length cr] 39) = w0 at *
    clear hw0
    go_loop [3] (fun i => ∃ k : Nat, k ≤ ps.length ∧ i = .int .i64 k ∧ Hid (∀ j, j < k → jg j (gi ps j) = true)) (fun i => ps.length - (intOf i).toNat)
    case atStart => exact ⟨0, Nat.zero_le _, rfl, fun j hj => absurd hj (Nat.not_lt_zero _)⟩
    case round =>
      obtain ⟨k, hk, rfl, hd⟩ := hrel
      by_cases hlt : k < ps.length
      · obtain ⟨b, off, rfl, hc⟩ := Ip.out k hlt
        clear Ip Ef Ej
        generalize hpk : gi ps k = x at *
        have HX := aa hpk
        clear hpk
        by_cases hg : 0 < k ∧ 0 ≤ x ∧ x < k
        · obtain ⟨g1, g2, g3⟩ := hg
          go_wp2_with fail
          go_round
          case rel => exact ⟨k + 1, by omega, by go_num, fun j hj => if e : j = k then by subst e; rw [HX.out]; unfold jg; rw [if_neg (by omega)]; simp; omega else hd.out j (by omega)⟩
          case measure => simp [intOf]; omega
        · by_cases Eg : k = 0 ∧ x = -1
          · obtain ⟨rfl, rfl⟩ := Eg
            have hc' : w0.cell? ⟨b, off, none⟩ = some (.int .i64 (-1)) := by simpa using hc
            go_wp2_with fail
            go_round
            case rel => exact ⟨1, by omega, by go_num, fun j hj => by obtain rfl : j = 0 := by omega
                                                                      rw [HX.out]; rfl⟩
            case measure => simp [intOf]; omega
          · have mB : jg k x = false := by
              unfold jg; split
              · rename_i e; simp; exact fun e2 => Eg ⟨e, e2⟩
              · simp; intro; omega
            rw [← HX.out] at mB
            have HB := aa (D2 hlt mB)
            clear mB
            have hc' : k = 0 → w0.cell? ⟨b, off, none⟩ = some (.int .i64 x) := fun e => by subst e; simpa using hc
            rcases Nat.eq_zero_or_pos k with rfl | rN
            · have hc2 := hc' rfl
              clear hc' hc
              go_wp2_with fail
              all_goals go_ret
              all_goals exact ⟨aH (by rw [HF.out, if_neg h0, if_neg h1, if_neg (by rw [H2.out]; simp), HB.out]; simp), eu.out⟩
            · clear hc'
              go_wp2_with fail
              all_goals go_ret
              all_goals exact ⟨aH (by rw [HF.out, if_neg h0, if_neg h1, if_neg (by rw [H2.out]; simp), HB.out]; simp), eu.out⟩
      · obtain rfl : k = ps.length := by omega
        have TN := yY hd.out
        have hok := aa TN
        clear hlt hk hd Ip hcap TN
        go_wp2_with fail
        go_loopw [4, 5] (fun i _ wr => ∃ k : Nat, k ≤ ps.length ∧ i = .int .i64 k ∧ Hid (∀ j, j < k → iC ps ns j = 0) ∧ Below w0.heap.size w0 wr) (fun i _ _ => ps.length - (intOf i).toNat)
        case atStart => exact ⟨0, Nat.zero_le _, rfl, fun j hj => absurd hj (Nat.not_lt_zero _), Below.refl _ _⟩
        case round =>
          obtain ⟨k, hk, rfl, hd, hbr⟩ := hrel
          clear jL
          have jL : wr.cell? ⟨w.heap.size, 0, none⟩ = some (.slice p ps.length cap) := (hbr.cell (p := ⟨w.heap.size, 0, none⟩) (by have := HS.out; simp; omega)).trans Iq.out
          have jh : wr.cell? ⟨w.heap.size, 1, none⟩ = some (.slice q ns.length cr) := (hbr.cell (p := ⟨w.heap.size, 1, none⟩) (by have := HS.out; simp; omega)).trans uZ.out
          by_cases hlt : k < ps.length
          · have hlen : ns.length ≤ ps.length ∧ ps.length ≤ ns.length := by have := H2.out; omega
            obtain ⟨eU, hl2⟩ := hlen
            have hT := Ej.out.keep (Kept.below hbr)
            have TP := Ir S wr _ ⟨ps, ns⟩ k hT hp hlt
            have nt := aa TP
            have hne : iC ps ns k = if isIn ps k then (if (gs ns k).size = 0 then 0 else 14) else if aX (gs ns k).data.toList then (if dg ns k then 7 else 0) else 14 := rfl
            have hki := l5 hok.out k
            have hend : iC ps ns k ≠ 0 → aB ⟨ps, ns⟩ = iC ps ns k := fun hn0 => by
              rw [HF.out, if_neg h0, if_neg h1, if_neg (by rw [H2.out]; simp), hok.out, if_pos rfl]; exact fk hlt hd.out hn0
            have HE := aa hne
            have gV := aa hend
            have Ye := aa hki
            clear hT TP hne hend hki
            go_wp2_with fail
            refine nt.out.mono ?_
            rintro e w2 ⟨hb2, v2, rfl, hv2⟩
            obtain ⟨p2, c2, rfl, _, _⟩ := aC.open hv2
            clear hv2
            have TQ : w2.cell? ⟨w.heap.size, 0, none⟩ = some (.slice p ps.length cap) := (hb2.cell (p := ⟨w.heap.size, 0, none⟩) (World.block_lt_of_cell? _ _ jL)).trans jL
            have Og : w2.cell? ⟨w.heap.size, 1, none⟩ = some (.slice q ns.length cr) := (hb2.cell (p := ⟨w.heap.size, 1, none⟩) (World.block_lt_of_cell? _ _ jh)).trans jh
            have Ek : Below w0.heap.size w0 w2 := hbr.trans (hb2.mono hbr.size)
            clear jL jh nt hb2
            have B8 := hz k
            have hnil := toList_nil (gs ns k)
            have js := aa hnil
            have Bl := aa Ek
            obtain ⟨b, off, rfl, hc0⟩ := Ef.out k (by omega)
            have hc2 : w2.cell? ⟨b, off + k, none⟩ = some (.string (gs ns k)) := (Ek.cell (p := ⟨b, off + k, none⟩) (World.block_lt_of_cell? _ _ hc0)).trans hc0
            clear hc0 Ek hnil hz
            cases hin : isIn ps k
            · have rN : (dX (cu ps k)).length = 0 := by
                rcases h : cu ps k with _ | ⟨a, l⟩
                · rfl
                · have h2 := Ye.out.1 (by rw [h]; simp); rw [hin] at h2; cases h2
              rw [rN]
              have sZ := aa hin
              clear rN hin
              have hnm := Od (gs ns k) B8 w2
              have jM := aa hnm
              clear hnm
              cases hnb : aX (gs ns k).data.toList
              · have l6 := aa hnb
                rw [hnb] at jM
                clear hnb
                go_wp2_with fail
                refine jM.out.mono ?_
                rintro e w3 ⟨rfl, hb3⟩
                go_wp2_with fail
                go_ret
                exact ⟨aH (by rw [gV.out (by rw [HE.out, sZ.out, l6.out]; simp), HE.out, sZ.out, l6.out]; simp), eu.out.trans ((Bl.out.mono (by have := HS.out; omega)).trans (hb3.mono (by have := HS.out; have := Bl.out.size; omega)))⟩
              · have l6 := aa hnb
                rw [hnb] at jM
                clear hnb
                go_wp2_with fail
                refine jM.out.mono ?_
                rintro e w3 ⟨rfl, hb3⟩
                have TR : Below w0.heap.size w0 w3 := Bl.out.trans (hb3.mono Bl.out.size)
                have hcq3 : w3.cell? ⟨w.heap.size, 1, none⟩ = some (.slice (some ⟨b, off, none⟩) ns.length cr) := (hb3.cell (p := ⟨w.heap.size, 1, none⟩) (World.block_lt_of_cell? _ _ Og)).trans Og
                have hc3 : w3.cell? ⟨b, off + k, none⟩ = some (.string (gs ns k)) := (hb3.cell (p := ⟨b, off + k, none⟩) (World.block_lt_of_cell? _ _ hc2)).trans hc2
                have Oh := aa TR
                clear TQ Og hc2 hb3 TR
                go_wp2_with fail
                go_loopw [5] (fun i wq => ∃ j a : Nat, j ≤ k ∧ i = .int .i64 j ∧ Hid (∀ m, m < j → decide (gs ns m = gs ns k) = false) ∧ wq = w3.drewN a) (fun i _ => k - (intOf i).toNat)
                case atStart => exact ⟨0, 0, Nat.zero_le _, rfl, fun j hj => absurd hj (Nat.not_lt_zero _), rfl⟩
                case round =>
                  obtain ⟨j, a, hj, rfl, hd2, rfl⟩ := hrel
                  by_cases hjk : j < k
                  · obtain ⟨b', off', eb, rO⟩ := Ef.out j (by omega)
                    cases eb
                    have hc4 : w3.cell? ⟨b, off + j, none⟩ = some (.string (gs ns j)) := (Oh.out.cell (p := ⟨b, off + j, none⟩) (World.block_lt_of_cell? _ _ rO)).trans rO
                    clear rO
                    have i1 : (0 : Int) ≤ (j : Int) := by omega
                    have i2 : (j : Int) < (ns.length : Int) := by omega
                    have i3 : (0 : Int) ≤ (k : Int) := by omega
                    have i4 : (k : Int) < (ns.length : Int) := by omega
                    have HNEQ := aa (toList_data (gs ns j))
                    go_wp2_with fail
                    go_quiet (fail)
                    go_wp2_with fail
                    · have hs : dg ns k = true := List.any_eq_true.2 ⟨j, List.mem_range.2 hjk, by simpa using xT ‹_›⟩
                      go_ret
                      exact ⟨aH (by rw [gV.out (by rw [HE.out, sZ.out, l6.out, hs]; simp), HE.out, sZ.out, l6.out, hs]; simp), eu.out.trans (Below.mono (B := w0.heap.size) (below_drewN (below_drewN Oh.out _) _) (by have := HS.out; omega))⟩
                    · have hs := Ee ‹((gs ns j).toList == (gs ns k).toList) = false›
                      go_roundw
                      case rel => exact ⟨j + 1, _, by omega, by go_num, fun m hm => if e : m = j then by subst e; simpa using hs else hd2.out m (by omega), rfl⟩
                      case measure => simp [intOf]; omega
                  · have hs : dg ns k = false := by
                      rw [Bool.eq_false_iff]; intro e
                      obtain ⟨m, hm, h2⟩ := List.any_eq_true.1 e
                      have h3 := hd2.out m (by have := List.mem_range.1 hm; omega)
                      rw [h3] at h2; cases h2
                    have wI := aa hs
                    clear hs
                    go_wp2_with fail
                    go_roundw
                    case rel => exact ⟨k + 1, by omega, by go_num, fun m hm => if e : m = k then by subst e; rw [HE.out, sZ.out, l6.out, wI.out]; simp else hd.out m (by omega), below_drewN Oh.out _⟩
                    case measure => simp [intOf]; omega
            · have rN : 0 < (dX (cu ps k)).length := by
                have h2 := Ye.out.2 hin
                unfold dX; rw [List.length_map]; exact List.length_pos_iff.2 h2
              generalize (dX (cu ps k)).length = m at *
              have sZ := aa hin
              clear hin
              by_cases hg0 : (gs ns k).size = 0
              · have hg1 : (gs ns k).toList = [] := js.out.2 hg0
                have lg := aa hg0
                clear hg0
                go_wp2_with fail
                go_roundw
                case rel => exact ⟨k + 1, by omega, by go_num, fun j hj => if e : j = k then by subst e; rw [HE.out, sZ.out, lg.out]; simp else hd.out j (by omega), Bl.out⟩
                case measure => simp [intOf]; omega
              · have hg1 : ((gs ns k).toList == []) = false := by
                  rw [Bool.eq_false_iff]; intro e; exact hg0 (js.out.1 (by simpa using e))
                have hg2 : ((gs ns k).toList != []) = true := by
                  rw [bne_iff_ne]; intro e; exact hg0 (js.out.1 (by simpa using e))
                have lg := aa hg0
                clear hg0
                go_wp2_with fail
                go_ret
                exact ⟨aH (by rw [gV.out (by rw [HE.out, sZ.out, if_pos rfl, if_neg lg.out]; simp), HE.out, sZ.out, if_pos rfl, if_neg lg.out]), eu.out.trans (Bl.out.mono (by have := HS.out; omega))⟩
          · have hk2 : k = ps.length := by omega
            clear hlt
            go_wp2_with fail
            go_ret
            exact ⟨aH (by rw [HF.out, if_neg h0, if_neg h1, if_neg (by rw [H2.out]; simp), hok.out, if_pos rfl, dW fun j hj => hd.out j (by omega)]), eu.out.trans (hbr.mono (by have := HS.out; omega))⟩
  · have B7 : ((ns.length : Int) != ps.length) = true := by simp; omega
    go_enter Tryz.func33, Tryz.ntmps33
    go_wp2_with fail
    go_ret
    exact ⟨aH (by rw [HF.out, if_neg h0, if_neg h1, if_pos h2]), eu.out⟩
end
section
open Go.RowKit Go.Shelf Go.Deep
attribute [local go_sem] Oper.semAt_some
theorem JF (w:World) (row:Option Nat):w.grownBy w.drew row:=⟨rfl,rfl,rfl,Nat.le_refl _,fun _ _ _=>rfl⟩
abbrev Cc (ps:List Int) (node:Nat):={ x:Nat // x∈cu ps node }
def vals {ps:List Int} {node:Nat} (l:List (Cc ps node)):List Nat:=l.map Subtype.val
theorem wJ {ps:List Int} {node:Nat} (l:List (Cc ps node)) (x:Cc ps node):vals (l++[x])=vals l++[x.1]:=by simp [vals]
theorem Em (ps:List Int) (n k:Nat) (h:k≤ps.length):cg ps n k <+: cu ps n:=by
 unfold cu;obtain ⟨d,hd⟩:∃d,ps.length=k+d:=⟨ps.length - k,by omega⟩;rw [hd];clear hd h
 induction d with
 | zero=>exact List.prefix_rfl
 | succ d ih=>rw [← Nat.add_assoc,jq];exact ih.trans (List.prefix_append _ _)
theorem Oi {e:Ending} {A B:Prop} (h:(e=.returned (.bool true)∧A)∨(e=.returned (.bool false)∧B)):∃bb,e=.returned (.bool bb)∧Hid ((bb=true∧A)∨(bb=false∧B)):=by
 rcases h with ⟨h1,h2⟩ | ⟨h1,h2⟩
 ·exact ⟨true,h1,.inl ⟨rfl,h2⟩⟩
 ·exact ⟨false,h1,.inr ⟨rfl,h2⟩⟩
def KS (T:Nat→Prop) (w w':World):Prop:=∀b,T b→w'.heap[b]? = w.heap[b]?
theorem KS.refl (T:Nat→Prop) (w:World):KS T w w:=fun _ _=>rfl
theorem KS.trans {T:Nat→Prop} {a b c:World} (h:KS T a b) (k:KS T b c):KS T a c:=fun i hi=>(k i hi).trans (h i hi)
theorem KS.cell {T:Nat→Prop} {a b:World} (h:KS T a b) {p:Addr} (hp:T p.block):b.cell? p=a.cell? p:=World.cell?_of_block (h p.block hp)
theorem KS.drew {T:Nat→Prop} {a b:World} (h:KS T a b):KS T a b.drew:=h
theorem KS.drewN {T:Nat→Prop} {a b:World} (h:KS T a b) (n:Nat):KS T a (b.drewN n):=h
set_option maxHeartbeats 1000000 in
theorem Oj (n l Bn Bt:Nat) (T:Nat→Prop) (hn:1≤n) (ps:List Int) (node:Nat) (P:Value) (J Jx:List (Cc ps node)→World→Prop)
  (hY:∀pre x W,J pre W→pre.length<ps.length→YieldAt Fence.wide (n - 1) Tryz.prog l #[.int .i64 (x.1:Int)] W fun e W' =>
   (e=.returned (.bool true)∧J (pre++[x]) W'∧KS T W W')∨(e=.returned (.bool false)∧Jx (pre++[x]) W'))
  (W:World) (Li:AbidesFrom W.heap.size J) (dQ:W.cell? ⟨Bn,0,none⟩=some (.int .i64 node)) (jL:W.cell? ⟨Bt,0,none⟩=some P) (hP:aj T W P ps) (QU:T Bn) (QV:T Bt)
  (QW:node<ps.length) (hlen:ps.length≤1000000) (h0:J [] W) :
  CallsIn Fence.wide n Tryz.prog 268 #[.func (.yield l) #[] #[],.pointer (some ⟨Bn,0,none⟩),.pointer (some ⟨Bt,0,none⟩)] W fun e W'=>(∃v,e=.returned v) ∧
   ((∃xs,vals xs=cu ps node∧J xs W')∨(∃pre,vals pre <+: cu ps node∧Jx pre W')):=by
 obtain ⟨q,cap,rfl,hcap,gC⟩:=hP;have ir:=aa gC;have Yf:=aa Li;have l7:=aa dQ;have Iq:=aa jL;have HY:=aa hY;clear gC Li hY;refine callsIn_of_wp Tryz.func268 rfl trivial ?_ rfl;simp only [Tryz.ntmps268,List.size_toArray,List.length_cons,List.length_nil,Nat.reduceAdd,Nat.reduceSub,Array.replicate_succ,Array.replicate_zero,List.push_toArray,List.append_toArray,List.nil_append,List.cons_append];gi_wp2;clear dQ jL
 gi_loopw [4] (fun i wr=>∃(k:Nat) (pre:List (Cc ps node)),node+1≤k∧k≤ps.length∧i=.int .i64 k∧vals pre=cg ps node k∧J pre wr∧KS T W wr) (fun i _=>ps.length - (intOf i).toNat)
 case atStart=>exact ⟨node+1,[],Nat.le_refl _,by omega,by go_num,(ym _ _).symm,h0,KS.refl _ _⟩
 case round =>
  obtain ⟨k,pre,hk1,hk,rfl,hpre,hJ,hbr⟩:=hrel;have dQ:wr.cell? ⟨Bn,0,none⟩=some (.int .i64 node):=(hbr.cell (p:=⟨Bn,0,none⟩) QU).trans l7.out;have jL:wr.cell? ⟨Bt,0,none⟩=some (.slice q ps.length cap):=(hbr.cell (p:=⟨Bt,0,none⟩) QV).trans Iq.out;have En:=aa hpre;clear hpre;by_cases hlt:k<ps.length
  ·have hsl2:=ir.out
   rcases hsl2 with h | ⟨b,off,rfl,hb,hcell⟩
   ·omega
   ·have hc:wr.cell? ⟨b,off+k,none⟩=some (.int .i64 (gi ps k)):=(hbr.cell (p:=⟨b,off+k,none⟩) hb).trans (hcell k hlt)
    have eL:=jq ps node k;(have Xo:pre.length<ps.length:=by have h1:=oz ps node k;have h2:=congrArg List.length En.out;unfold vals at h2;rw [List.length_map] at h2;omega);have hmem:gi ps k=node→k∈cu ps node:=fun h=>gh.2 ⟨hlt,by omega,h⟩;have Eo:=aa hmem;have jN:=aa eL;clear hcell eL hmem;(have i1:(0:Int)≤(k:Int):=by omega);(have i2:(k:Int)<(ps.length:Int):=by omega);generalize hx:gi ps k=x at *;clear hx;by_cases mE:x=node
    ·have hx1:(x==(node:Int))=true:=by simp [mE]
     have HX:=aa mE;clear mE;have Yg:J pre wr.drew:=Yf.out pre wr wr.drew none hJ (JF _ _) (fun r e=>by cases e);obtain ⟨fn,tmps,assign,body,hy,hR⟩:=HY.out pre ⟨k,Eo.out HX.out⟩ wr.drew Yg Xo;dsimp only at hy;clear Yg;gi_wp2
     gi_region_with (refine hR.mono ?_;rintro e W3 dY;obtain ⟨bb,rfl,hq⟩:=Oi dY)
     all_goals
      gi_wp2
      ·have hbb:=‹(!bb)=true›
       have zX:bb=false∧Jx (pre++[⟨k,Eo.out HX.out⟩]) W3:=by
        rcases hq.out with ⟨h1,_⟩ | h2
        ·rw [h1] at hbb;cases hbb
        ·exact h2
       refine bodyPost_ret (results_none rfl _ _ _) rfl ?_
       exact ⟨⟨_,rfl⟩,.inr ⟨pre++[⟨k,Eo.out HX.out⟩],by
        rw [wJ,En.out];have h3:=Em ps node (k+1) hlt
        rw [jN.out,if_pos ⟨by omega,HX.out⟩] at h3;exact h3,zX.2⟩⟩
      ·have hbb:=‹(!bb)=false›
       have zX:bb=true∧J (pre++[⟨k,Eo.out HX.out⟩]) W3∧KS T wr.drew W3:=by
        rcases hq.out with h2 | ⟨h1,_⟩
        ·exact h2
        ·rw [h1] at hbb;cases hbb
       go_roundw
       case rel=>exact ⟨k+1,pre++[⟨k,Eo.out HX.out⟩],by omega,by omega,by go_num,by rw [wJ,En.out,jN.out,if_pos ⟨by omega,HX.out⟩],zX.2.1,hbr.drew.trans zX.2.2⟩
       case measure=>simp [intOf];omega
    ·have hx1:(x==(node:Int))=false:=by simpa using mE
     have HX:=aa mE;clear mE;gi_wp2;refine wpIn_region_quiet_lit rfl (by kernel_rfl) (by kernel_rfl) ?_
     repeat (gi_big_quiet_step (fail))
     refine BigFrame.wpQuietIn_skip (fun _ _ _ _=>trivial) rfl ?_;simp only [Act.put,ay,aA,az]
     repeat (gi_big_quiet_step (fail))
     refine wpQuietIn_nil ?_;intro _ hw';obtain ⟨nq,hw''⟩:=hw';subst hw'';gi_wp2
     go_roundw
     case rel=>exact ⟨k+1,pre,by omega,by omega,by go_num,by rw [En.out,jN.out,if_neg (fun h=>HX.out h.2),List.append_nil],Yf.out pre wr _ none hJ ⟨rfl,rfl,rfl,Nat.le_refl _,fun _ _ _=>rfl⟩ (fun r e=>by cases e),hbr.drewN _⟩
     case measure=>simp [intOf];omega
  ·gi_wp2
   go_end0
   (obtain rfl:k=ps.length:=by omega);exact ⟨⟨_,rfl⟩,.inl ⟨pre,En.out,hJ⟩⟩
set_option maxHeartbeats 400000 in
theorem TS (w:World) (v:Value) (P N:Value) (hv:v=.agg #[P,N]) (node:Nat) :
  Calls Tryz.prog 231 #[v,.int .i64 node] w fun e w'=>e=.returned (.func (.func 268) #[] #[.pointer (some ⟨w.heap.size+1,0,none⟩),.pointer (some ⟨w.heap.size,0,none⟩)])∧w'=(w.alloc (.cells #[P,N] 39)).alloc (.cells #[.int .i64 node] 3):=by
 subst hv
 go_enter Tryz.func231,Tryz.ntmps231
 go_wp2_with fail;go_ret;exact ⟨rfl,rfl⟩
theorem JG (n:Nat) (hn:1≤n) (Bn Bt:Nat) (T:Nat→Prop) (ps:List Int) (node:Nat) (P:Value) (w:World) (hT:∀b,T b→b<w.heap.size)
  (dQ:w.cell? ⟨Bn,0,none⟩=some (.int .i64 node)) (jL:w.cell? ⟨Bt,0,none⟩=some P) (hP:aj T w P ps) (QU:T Bn) (QV:T Bt) (QW:node<ps.length) (hlen:ps.length≤1000000) :
  SeqStopsK Fence.wide n Tryz.prog 268 #[.pointer (some ⟨Bn,0,none⟩),.pointer (some ⟨Bt,0,none⟩)] (fun x:Cc ps node=>#[Value.int .i64 (x.1:Int)]) (KS T)
   (fun xs=>vals xs=cu ps node) (fun pre=>vals pre <+: cu ps node) ps.length w:=fun l J Jx W hW hJ _ hY h0 =>
 Oj n l Bn Bt T hn ps node P J Jx hY W hJ ((hW.cell (p:=⟨Bn,0,none⟩) (hT _ QU)).trans dQ) ((hW.cell (p:=⟨Bt,0,none⟩) (hT _ QV)).trans jL)
  (hP.keep fun b hb _=>hW.block b (hT b hb)) QU QV QW hlen h0
end
section
open Go.RowKit Go.Deep
set_option maxHeartbeats 800000 in
theorem Ce (S:Nat→Prop) (w:World) (v:Value) (t:aD) (h:au S w v t) (hp:t.ps.length≤1000000) (hn:t.ns.length≤1000000) (hz:∀k,(gs t.ns k).size≤70000) :
  Calls Tryz.prog 142 #[v] w (Ei w t):=by
 obtain ⟨P,N,rfl,hP,hN⟩:=h;have Ca:au S (w.alloc (.cells #[P,N] 39)) (.agg #[P,N]) t:=au.keep ⟨P,N,rfl,hP,hN⟩ (Kept.below ((Below.refl _ w).alloc (Nat.le_refl _) _));have hb0:Below w.heap.size w (w.alloc (.cells #[P,N] 39)):=(Below.refl _ _).alloc (Nat.le_refl _) _;have jh:(w.alloc (.cells #[P,N] 39)).cell? ⟨w.heap.size,1,none⟩=some N:=by simp [World.cell?_alloc_new]
 have ni:=jZ S (w.alloc (.cells #[P,N] 39)) _ t Ca hp hn hz;rw [World.size_alloc] at ni;have dr:=aa ni;have uZ:=aa jh;have cZ:=aa hb0;have HN:=aa hN;clear ni jh hb0 Ca hP hN;by_cases he:aB t=0
 ·go_enter Tryz.func142,Tryz.ntmps142
  go_wp2_with fail;refine dr.out.mono ?_;rintro e w1 ⟨rfl,hb1⟩;have gp:Below w.heap.size w w1:=cZ.out.trans (hb1.mono (by omega));have sY:=HN.out.keep (Kept.below gp);have jh:w1.cell? ⟨w.heap.size,1,none⟩=some N:=(hb1.cell (p:=⟨w.heap.size,1,none⟩) (by simp)).trans uZ.out;obtain ⟨q,cr,rfl,mD,yy⟩:=aC.open sY;have wF:=aa yy;have Cb:w.heap.size≤w1.heap.size:=gp.size;have HE:=aa he;rw [he];have JH:=aa jh;clear yy sY dr uZ cZ HN hb1 he;go_wp2_with fail
  go_loopw [4,5] (fun v i wr=>∃k:Nat,k≤t.ns.length∧i=.int .i64 k∧aF w1.heap.size 3 wr v ((iT t.ns k).map (Value.int .i64))∧Below w1.heap.size w1 wr) (fun _ i _=>t.ns.length - (intOf i).toNat)
  case atStart=>exact ⟨0,Nat.zero_le _,rfl,aF.nil _ _ _,Below.refl _ _⟩
  case round =>
   obtain ⟨k,hk,rfl,hown,hbr⟩:=hrel;by_cases hlt:k<t.ns.length
   ·obtain ⟨b,off,rfl,hc0⟩:=wF.out k hlt
    (have hc:wr.cell? ⟨b,off+k,none⟩=some (.string (gs t.ns k)):=by rw [hbr.cell (p:=⟨b,off+k,none⟩) (World.block_lt_of_cell? _ _ hc0)];exact hc0);have hsz:=hbr.size;have hcqr:wr.cell? ⟨w.heap.size,1,none⟩=some (.slice (some ⟨b,off,none⟩) t.ns.length cr):=(hbr.cell (p:=⟨w.heap.size,1,none⟩) (World.block_lt_of_cell? _ _ JH.out)).trans JH.out;have eL:=qx t.ns k;have kS:=sA t.ns k;have hnil:=toList_nil (gs t.ns k);have js:=aa hnil;have jN:=aa eL;have dm:Hid (((iT t.ns k).map (Value.int .i64)).length≤1000000):=by unfold Hid;rw [List.length_map];omega
    clear hc0 hnil eL kS wF hz jh;generalize u7:gs t.ns k=g at *;clear u7;by_cases hg0:g.size=0
    ·have hg1:g.toList=[]:=js.out.2 hg0
     have lg:=aa hg0;clear hg0;go_wp2
     go_roundw
     case rel=>exact ⟨k+1,by omega,by go_num,by rw [jN.out,if_pos lg.out,List.append_nil];exact hown,hbr⟩
     case measure=>simp [intOf];omega
    ·have hg1:(g.toList==[])=false:=by
      rw [Bool.eq_false_iff];intro e;exact hg0 (js.out.1 (by simpa using e))
     have hg2:(g.toList != [])=true:=by
      rw [bne_iff_ne];intro e;exact hg0 (js.out.1 (by simpa using e))
     have lg:=aa hg0
     clear hg0
     go_wp2_with (at_builtin;refine iD wr rfl _ _ 26 rfl w1.heap.size 3 _ 8 Tryz.underlying26 Tryz.fI rfl (by decide) hown rfl _ rfl rfl dm.out hsz ?_;intro g cap w2 hown1 hg1 hb1)
     go_roundw
     case rel=>exact ⟨k+1,by omega,by go_num,by rw [jN.out,if_neg lg.out,List.map_append];rw [List.length_map] at hown1;exact hown1,hbr.trans hb1⟩
     case measure=>simp [intOf];omega
   ·obtain rfl:k=t.ns.length:=by omega
    have hcqr:wr.cell? ⟨w.heap.size,1,none⟩=some (.slice q t.ns.length cr):=(hbr.cell (p:=⟨w.heap.size,1,none⟩) (World.block_lt_of_cell? _ _ JH.out)).trans JH.out;clear hlt hk wF;go_wp2;go_ret2;exact ⟨gp.trans (hbr.mono Cb),.inr ⟨HE.out,_,rfl,hown.ints.sub fun b hb _=>Nat.le_trans Cb hb⟩⟩
 ·have he':(aB t != 0)=true:=by simpa using he
  have HE:=aa he;clear he
  go_enter Tryz.func142,Tryz.ntmps142
  go_wp2_with fail;refine dr.out.mono ?_;rintro e w1 ⟨rfl,hb1⟩;go_wp2_with fail;go_ret2;exact ⟨cZ.out.trans (hb1.mono (by omega)),.inl ⟨HE.out,rfl⟩⟩
end
section
open Go.RowKit Go.Shelf Go.Deep
def Marks (n₀:Nat) (w:World):List Deferred→Prop
 | []=>True
 | d::ds=>(∃r,d={ target:=.collected r,args:=#[] }∧n₀≤r∧w.heap[r]? = some (.deferred (some []))∧(∀d'∈ds,d'.target≠.collected r))∧Marks n₀ w ds
theorem Marks.keep {n₀:Nat} {w w':World} (h:∀r,w.heap[r]? = some (.deferred (some []))→n₀≤r→w'.heap[r]? = w.heap[r]?):∀ {ds:List Deferred},Marks n₀ w ds→Marks n₀ w' ds
 | [],_=>trivial
 | _::_,⟨⟨r,e,hr,hk,hne⟩,ht⟩=>⟨⟨r,e,hr,(h r hk hr).trans hk,hne⟩,ht.keep h⟩
theorem Marks.lt {n₀:Nat} {w:World}:∀ {ds:List Deferred},Marks n₀ w ds→∀d∈ds,∃r,d.target=.collected r∧r<w.heap.size
 | _::_,⟨⟨r,e,_,hk,_⟩,ht⟩,d,hd=>by
  rcases List.mem_cons.1 hd with rfl | hd
  ·refine ⟨r,by rw [e],?_⟩
   rcases Nat.lt_or_ge r w.heap.size with h | h
   ·exact h
   ·rw [Array.getElem?_eq_none h] at hk;cases hk
  ·exact ht.lt d hd
theorem Marks.keep' {n₀ r:Nat} {w w':World} (h:∀k,k≠r→w'.heap[k]? = w.heap[k]?):∀ {ds:List Deferred},(∀d'∈ds,d'.target≠.collected r)→Marks n₀ w ds→Marks n₀ w' ds
 | [],_,_=>trivial
 | _::_,hne,⟨⟨s,e,hs,hk,vg⟩,ht⟩=>⟨⟨s,e,hs,(h s (by rintro rfl;exact hne _ List.mem_cons_self (by rw [e]))).trans hk,vg⟩,Marks.keep' h (fun d hd=>hne d (List.mem_cons_of_mem _ hd)) ht⟩
theorem wK {fn:Func} {tmps:Array Value} {R:Ending→World→Prop} {n n₀:Nat} {v:Value} (hres:∀w,(results fn tmps).run Tryz.prog w=.ok v w) :
  ∀ {ds:List Deferred} {w:World},Marks n₀ w ds→(∀w',Below n₀ w w'→w'.heap.size=w.heap.size→(∀b:Nat,(∃c t z,w.heap[b]? = some (Obj.cells c t z))→w'.heap[b]? = w.heap[b]?)→R (.returned v) w') →
  LeavesInM Fence.wide n Tryz.prog fn tmps R ds .returning w
 | [],w,_,hR=>⟨v,hres w,hR w (Below.refl _ _) rfl fun _ _=>rfl⟩
 | d::ds,w,⟨⟨r,e,hr,hk,hne⟩,ht⟩,hR=>by
  refine ⟨by simp,.inl ⟨r,_,by rw [e],run_takeDeferred hk,?_⟩⟩
  have JI:∀k,k≠r→(w.putObj r (.deferred none)).heap[k]? = w.heap[k]?:=fun k hk2=>World.putObj_heap_other hk2
  refine wK hres (Marks.keep' JI hne ht) fun w' hb hs hc=>hR w' ?_ (hs.trans (by simp)) fun b ⟨c,t,z,hbk⟩=>?_
  ·exact (show Below n₀ w (w.putObj r (.deferred none)) from ⟨rfl,rfl,rfl,by simp,fun k hk2=>JI k (by omega)⟩).trans hb
  ·have hbr:b≠r:=by rintro rfl;rw [hk] at hbk;cases hbk
   rw [hc b ⟨c,t,z,by rw [JI b hbr];exact hbk⟩,JI b hbr]
end
end Go.Proofs.YthgabkgmkolobaaGreat
