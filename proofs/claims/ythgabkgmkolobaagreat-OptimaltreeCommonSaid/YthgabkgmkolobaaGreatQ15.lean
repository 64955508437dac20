/- The contract of layer 31's reference's Check. The contract of layer 31's reference's .. -/
import Derived.Laws.Bits64b
import Derived.Laws.BitsAllLaws
import Derived.Test.YthgabkgmkolobaaGreatQ14
set_option maxRecDepth 100000
set_option maxHeartbeats 2000000
namespace Go.Proofs.YthgabkgmkolobaaGreat
section
open Go.RowKit Go.Deep
theorem BW (S : Nat -> Prop) (w : World) (v : Value) (t : az) (h : aI S w v t) (hp : t.ps.length <= 1000000) (hn : t.ns.length <= 1000000) (hz : ∀ k, (gs t.ns k).size <= 70000) :
    Calls Tryz.prog 33 #[v] w fun e w' => e = .returned (.int .i64 (aH t)) /\ Below w.heap.size w w' := by
  obtain ⟨P, N, rfl, hP, hN⟩ := h
  obtain ⟨ps, ns⟩ := t
  simp only at *
  have eU : aH ⟨ps, ns⟩ = if ps.length = 0 then 5 else if 64 < ps.length then 4 else if ns.length ≠ ps.length then 9 else if k8 ps then bU (oZ ps ns) ps.length else 2 := rfl
  have HF := aa eU
  clear eU
  have iT : Below w.heap.size w (w.alloc (.cells #[P, N] 39)) := (dM _ _).alloc (af _) _
  have BX : aI S (w.alloc (.cells #[P, N] 39)) (.agg #[P, N]) ⟨ps, ns⟩ := aI.keep ⟨P, N, rfl, hP, hN⟩ (Kept.below iT)
  have hP' := hP.keep (Kept.below iT)
  have hN' := hN.keep (Kept.below iT)
  clear hP hN
  obtain ⟨p, cap, rfl, hcap, HP⟩ := ay.open hP'
  obtain ⟨q, fS, rfl, JW, HN⟩ := ay.open hN'
  have Yt := aa HP
  have Ti := aa HN
  have um := aa BX
  have dz := aa iT
  clear hP' hN' HP HN BX iT
  by_cases h0 : ps.length = 0
  · have HX : Hid (ps.length = 0) := h0
    have h0' : ((ps.length : Int) == 0) = true := by simp [h0]
    clear h0
    go_enter Tryz.func33, Tryz.ntmps33
    go_wp2_with fail
    go_ret
    exact ⟨aM (by rw [HF.out, if_pos HX.out]), dz.out⟩
  have h0' : ((ps.length : Int) == 0) = false := by simpa using h0
  by_cases h1 : 64 < ps.length
  · go_enter Tryz.func33, Tryz.ntmps33
    go_wp2_with fail
    go_ret
    exact ⟨aM (by rw [HF.out, if_neg h0, if_pos h1]), dz.out⟩
  by_cases h2 : ns.length = ps.length
  · have Qf : ((ns.length : Int) != ps.length) = false := by simp [h2]
    have H2 := aa h2
    clear h2
    have qX : (w.alloc (.cells #[.slice p ps.length cap, .slice q ns.length fS] 39)).cell? ⟨w.heap.size, 0, none⟩ = some (.slice p ps.length cap) := by simp [World.cell?_alloc_new]
    have En : (w.alloc (.cells #[.slice p ps.length cap, .slice q ns.length fS] 39)).cell? ⟨w.heap.size, 1, none⟩ = some (.slice q ns.length fS) := by simp [World.cell?_alloc_new]
    have hct : (w.alloc (.cells #[.slice p ps.length cap, .slice q ns.length fS] 39)).rowIs w.heap.size 39 2 (fun i => if i = 0 then .slice p ps.length cap else .slice q ns.length fS) :=
      World.rowIs_alloc w _ _ _ (fun i hi => by match i, hi with | 0, _ => rfl | 1, _ => rfl)
    have hsz : (w.alloc (.cells #[.slice p ps.length cap, .slice q ns.length fS] 39)).heap.size = w.heap.size + 1 := by simp
    have HS := aa hsz
    have GG := aa qX
    have Yu := aa En
    have oU := aa hct
    clear hsz En hct
    go_enter Tryz.func33, Tryz.ntmps33
    go_wp2_with fail
    generalize hw0 : w.alloc (.cells #[.slice p ps.length cap, .slice q ns.length fS] 39) = w0 at *
    clear hw0
    go_loop [3] (fun i => ∃ k : Nat, k <= ps.length /\ i = .int .i64 k /\ Hid (∀ j, j < k -> qq j (gi ps j) = true)) (fun i => ps.length - (intOf i).toNat)
    case atStart => exact ⟨0, aL _, rfl, fun j hj => absurd hj (bG _)⟩
    case round =>
      obtain ⟨k, hk, rfl, hd⟩ := hrel
      by_cases hlt : k < ps.length
      · obtain ⟨b, off, rfl, hc⟩ := Yt.out k hlt
        clear Yt Ti um
        generalize hpk : gi ps k = x at *
        have HX := aa hpk
        clear hpk
        by_cases hg : 0 < k /\ 0 <= x /\ x < k
        · obtain ⟨g1, g2, g3⟩ := hg
          go_wp2_with fail
          go_round
          case rel => exact ⟨k + 1, by omega, by go_num, fun j hj => if e : j = k then by subst e; rw [HX.out]; unfold qq; rw [if_neg (by omega)]; simp; omega else hd.out j (by omega)⟩
          case measure => simp [intOf]; omega
        · by_cases Nc : k = 0 /\ x = -1
          · obtain ⟨rfl, rfl⟩ := Nc
            have hc' : w0.cell? ⟨b, off, none⟩ = some (.int .i64 (-1)) := by simpa using hc
            go_wp2_with fail
            go_round
            case rel => exact ⟨1, by omega, by go_num, fun j hj => by obtain rfl : j = 0 := by omega
                                                                      rw [HX.out]; rfl⟩
            case measure => simp [intOf]; omega
          · have rE : qq k x = false := by
              unfold qq; split
              · rename_i e; simp; exact fun e2 => Nc ⟨e, e2⟩
              · simp; intro; omega
            rw [<- HX.out] at rE
            have HB := aa (Ta hlt rE)
            clear rE
            have hc' : k = 0 -> w0.cell? ⟨b, off, none⟩ = some (.int .i64 x) := fun e => by subst e; simpa using hc
            rcases yY k with rfl | kW
            · have hc2 := hc' rfl
              clear hc' hc
              go_wp2_with fail
              all_goals go_ret
              all_goals exact ⟨aM (by rw [HF.out, if_neg h0, if_neg h1, if_neg (by rw [H2.out]; simp), HB.out]; simp), dz.out⟩
            · clear hc'
              go_wp2_with fail
              all_goals go_ret
              all_goals exact ⟨aM (by rw [HF.out, if_neg h0, if_neg h1, if_neg (by rw [H2.out]; simp), HB.out]; simp), dz.out⟩
      · obtain rfl : k = ps.length := by omega
        have hok0 := Lx hd.out
        have hok := aa hok0
        clear hlt hk hd Yt hcap hok0
        go_wp2_with fail
        go_loopw [4, 5] (fun i _ wr => ∃ k : Nat, k <= ps.length /\ i = .int .i64 k /\ Hid (∀ j, j < k -> oZ ps ns j = 0) /\ Below w0.heap.size w0 wr) (fun i _ _ => ps.length - (intOf i).toNat)
        case atStart => exact ⟨0, aL _, rfl, fun j hj => absurd hj (bG _), dM _ _⟩
        case round =>
          obtain ⟨k, hk, rfl, hd, hbr⟩ := hrel
          clear qX
          have qX : wr.cell? ⟨w.heap.size, 0, none⟩ = some (.slice p ps.length cap) := (hbr.cell (p := ⟨w.heap.size, 0, none⟩) (by have := HS.out; simp; omega)).trans GG.out
          have En : wr.cell? ⟨w.heap.size, 1, none⟩ = some (.slice q ns.length fS) := (hbr.cell (p := ⟨w.heap.size, 1, none⟩) (by have := HS.out; simp; omega)).trans Yu.out
          by_cases hlt : k < ps.length
          · have hlen : ns.length <= ps.length /\ ps.length <= ns.length := by have := H2.out; omega
            obtain ⟨kI, hl2⟩ := hlen
            have hT := um.out.keep (Kept.below hbr)
            have hkd := YN S wr _ ⟨ps, ns⟩ k hT hp hlt
            have sN := aa hkd
            have hne : oZ ps ns k = if isIn ps k then (if (gs ns k).size = 0 then 0 else 14) else if b7 (gs ns k).data.toList then (if fk ns k then 7 else 0) else 14 := rfl
            have hki := sY hok.out k
            have hend : oZ ps ns k ≠ 0 -> aH ⟨ps, ns⟩ = oZ ps ns k := fun hn0 => by
              rw [HF.out, if_neg h0, if_neg h1, if_neg (by rw [H2.out]; simp), hok.out, if_pos rfl]; exact gm hlt hd.out hn0
            have HE := aa hne
            have o5 := aa hend
            have HKI := aa hki
            clear hT hkd hne hend hki
            go_wp2_with fail
            refine sN.out.mono ?_
            rintro e w2 ⟨hb2, v2, rfl, hv2⟩
            obtain ⟨p2, c2, rfl, _, _⟩ := ay.open hv2
            clear hv2
            have hcp2 : w2.cell? ⟨w.heap.size, 0, none⟩ = some (.slice p ps.length cap) := (hb2.cell (p := ⟨w.heap.size, 0, none⟩) (eG _ _ qX)).trans qX
            have hcq2 : w2.cell? ⟨w.heap.size, 1, none⟩ = some (.slice q ns.length fS) := (hb2.cell (p := ⟨w.heap.size, 1, none⟩) (eG _ _ En)).trans En
            have Uf : Below w0.heap.size w0 w2 := hbr.trans (hb2.mono hbr.size)
            clear qX En sN hb2
            have Tj := hz k
            have hnil := toList_nil (gs ns k)
            have Bv := aa hnil
            have Pg := aa Uf
            obtain ⟨b, off, rfl, hc0⟩ := Ti.out k (by omega)
            have hc2 : w2.cell? ⟨b, off + k, none⟩ = some (.string (gs ns k)) := (Uf.cell (p := ⟨b, off + k, none⟩) (eG _ _ hc0)).trans hc0
            clear hc0 Uf hnil hz
            cases hin : isIn ps k
            · have kW : (jE (bq ps k)).length = 0 := by
                rcases h : bq ps k with _ | ⟨a, l⟩
                · rfl
                · have h2 := HKI.out.1 (by rw [h]; simp); rw [hin] at h2; cases h2
              rw [kW]
              have EH := aa hin
              clear kW hin
              have hnm := namedR_t (gs ns k) Tj w2
              have je := aa hnm
              clear hnm
              cases hnb : b7 (gs ns k).data.toList
              · have uk := aa hnb
                rw [hnb] at je
                clear hnb
                go_wp2_with fail
                refine je.out.mono ?_
                rintro e w3 ⟨rfl, hb3⟩
                go_wp2_with fail
                go_ret
                exact ⟨aM (by rw [o5.out (by rw [HE.out, EH.out, uk.out]; simp), HE.out, EH.out, uk.out]; simp), dz.out.trans ((Pg.out.mono (by have := HS.out; omega)).trans (hb3.mono (by have := HS.out; have := Pg.out.size; omega)))⟩
              · have uk := aa hnb
                rw [hnb] at je
                clear hnb
                go_wp2_with fail
                refine je.out.mono ?_
                rintro e w3 ⟨rfl, hb3⟩
                have hbw3 : Below w0.heap.size w0 w3 := Pg.out.trans (hb3.mono Pg.out.size)
                have hcq3 : w3.cell? ⟨w.heap.size, 1, none⟩ = some (.slice (some ⟨b, off, none⟩) ns.length fS) := (hb3.cell (p := ⟨w.heap.size, 1, none⟩) (eG _ _ hcq2)).trans hcq2
                have hc3 : w3.cell? ⟨b, off + k, none⟩ = some (.string (gs ns k)) := (hb3.cell (p := ⟨b, off + k, none⟩) (eG _ _ hc2)).trans hc2
                have HBW3 := aa hbw3
                clear hcp2 hcq2 hc2 hb3 hbw3
                go_wp2_with fail
                go_loopw [5] (fun i wq => ∃ j a : Nat, j <= k /\ i = .int .i64 j /\ Hid (∀ m, m < j -> decide (gs ns m = gs ns k) = false) /\ wq = w3.drewN a) (fun i _ => k - (intOf i).toNat)
                case atStart => exact ⟨0, 0, aL _, rfl, fun j hj => absurd hj (bG _), rfl⟩
                case round =>
                  obtain ⟨j, a, hj, rfl, hd2, rfl⟩ := hrel
                  by_cases hjk : j < k
                  · obtain ⟨b', off', eb, GH⟩ := Ti.out j (by omega)
                    cases eb
                    have hc4 : w3.cell? ⟨b, off + j, none⟩ = some (.string (gs ns j)) := (HBW3.out.cell (p := ⟨b, off + j, none⟩) (eG _ _ GH)).trans GH
                    clear GH
                    have i1 : (0 : Int) <= (j : Int) := by omega
                    have i2 : (j : Int) < (ns.length : Int) := by omega
                    have i3 : (0 : Int) <= (k : Int) := by omega
                    have i4 : (k : Int) < (ns.length : Int) := by omega
                    have HNEQ := aa (toList_data (gs ns j))
                    go_wp2_with fail
                    go_quiet (fail)
                    go_wp2_with fail
                    · have hs : fk ns k = true := eO.2 ⟨j, bh.2 hjk, by simpa using O4 ‹_›⟩
                      go_ret
                      exact ⟨aM (by rw [o5.out (by rw [HE.out, EH.out, uk.out, hs]; simp), HE.out, EH.out, uk.out, hs]; simp), dz.out.trans (Below.mono (B := w0.heap.size) (below_drewN (below_drewN HBW3.out _) _) (by have := HS.out; omega))⟩
                    · have hs := Th ‹((gs ns j).toList == (gs ns k).toList) = false›
                      go_roundw
                      case rel => exact ⟨j + 1, _, by omega, by go_num, fun m hm => if e : m = j then by subst e; simpa using hs else hd2.out m (by omega), rfl⟩
                      case measure => simp [intOf]; omega
                  · have hs : fk ns k = false := by
                      rw [uZ]; intro e
                      obtain ⟨m, hm, h2⟩ := eO.1 e
                      have h3 := hd2.out m (by have := bh.1 hm; omega)
                      rw [h3] at h2; cases h2
                    have GN := aa hs
                    clear hs
                    go_wp2_with fail
                    go_roundw
                    case rel => exact ⟨k + 1, by omega, by go_num, fun m hm => if e : m = k then by subst e; rw [HE.out, EH.out, uk.out, GN.out]; simp else hd.out m (by omega), below_drewN HBW3.out _⟩
                    case measure => simp [intOf]; omega
            · have kW : 0 < (jE (bq ps k)).length := by
                have h2 := HKI.out.2 hin
                unfold jE; rw [aG]; exact Ak.2 h2
              generalize (jE (bq ps k)).length = m at *
              have EH := aa hin
              clear hin
              by_cases hg0 : (gs ns k).size = 0
              · have hg1 : (gs ns k).toList = [] := Bv.out.2 hg0
                have Eo := aa hg0
                clear hg0
                go_wp2_with fail
                go_roundw
                case rel => exact ⟨k + 1, by omega, by go_num, fun j hj => if e : j = k then by subst e; rw [HE.out, EH.out, Eo.out]; simp else hd.out j (by omega), Pg.out⟩
                case measure => simp [intOf]; omega
              · have hg1 : ((gs ns k).toList == []) = false := by
                  rw [uZ]; intro e; exact hg0 (Bv.out.1 (by simpa using e))
                have hg2 : ((gs ns k).toList != []) = true := by
                  rw [bne_iff_ne]; intro e; exact hg0 (Bv.out.1 (by simpa using e))
                have Eo := aa hg0
                clear hg0
                go_wp2_with fail
                go_ret
                exact ⟨aM (by rw [o5.out (by rw [HE.out, EH.out, if_pos rfl, if_neg Eo.out]; simp), HE.out, EH.out, if_pos rfl, if_neg Eo.out]), dz.out.trans (Pg.out.mono (by have := HS.out; omega))⟩
          · have hk2 : k = ps.length := by omega
            clear hlt
            go_wp2_with fail
            go_ret
            exact ⟨aM (by rw [HF.out, if_neg h0, if_neg h1, if_neg (by rw [H2.out]; simp), hok.out, if_pos rfl, cR fun j hj => hd.out j (by omega)]), dz.out.trans (hbr.mono (by have := HS.out; omega))⟩
  · have Qf : ((ns.length : Int) != ps.length) = true := by simp; omega
    go_enter Tryz.func33, Tryz.ntmps33
    go_wp2_with fail
    go_ret
    exact ⟨aM (by rw [HF.out, if_neg h0, if_neg h1, if_pos h2]), dz.out⟩
def DV (t:az):az:=flat (zG (iZ t))
def CrPost (w:World) (t:az) (e:Ending) (w':World):Prop :=
 Up w w'/\((aH t≠0/\e=.returned (.tuple #[.agg #[.slice none 0 0,.slice none 0 0],.int .i64 1]))\/(aH t=0/\∃v,e=.returned (.tuple #[v,.int .i64 0])/\aI (fun b=>w.heap.size<=b) w' v (DV t)))
theorem canonR_t (S:Nat->Prop) (w:World) (v:Value) (t:az) (hT:aI S w v t) (hp:t.ps.length<=1000000) (hn:t.ns.length<=1000000) (hz:∀k,(gs t.ns k).size<=70000):Calls Tryz.prog 147 #[v] w (CrPost w t):=by
 obtain ⟨P,N,rfl,hP,hN⟩:=hT;have hu:=(Up.alloc w (.cells #[P,N] 39)).trans (Up.alloc _ (.cells #[.slice none 0 0,.slice none 0 0] 39));have kY:aI S ((w.alloc (.cells #[P,N] 39)).alloc (.cells #[.slice none 0 0,.slice none 0 0] 39)) (.agg #[P,N]) t:=aI.keep ⟨P,N,rfl,hP,hN⟩ (hu.kept _);have gy:=aa (BW S _ _ t kY hp hn hz);have HT:=aa kY;have HU:=aa hu;have jx:=aa ((Up.alloc _ (.cells #[.slice none 0 0,.slice none 0 0] 39)).cell (iU w P N 39));have jG:=aa ((Up.alloc _ (.cells #[.slice none 0 0,.slice none 0 0] 39)).cell (iV w P N 39))
 have hc0:=jx.out;have hc1:=jG.out;have hrb:=gp (w:=w.alloc (.cells #[P,N] 39)) (P:=.slice none 0 0) (N:=.slice none 0 0) (T:=39);have hsz:((w.alloc (.cells #[P,N] 39)).alloc (.cells #[.slice none 0 0,.slice none 0 0] 39)).heap.size=w.heap.size+2:=by simp
 rw [aQ] at hrb;have lJ:=aa hrb;have fA:=aa hsz;clear hu kY hP hN hrb hsz
 go_enter Tryz.func147,Tryz.ntmps147
 go_wp2_with fail;generalize (w.alloc (.cells #[P,N] 39)).alloc (.cells #[.slice none 0 0,.slice none 0 0] 39)=w1 at *;refine gy.out.mono ?_;rintro e w2 ⟨rfl,hb2⟩;have aK:Up w1 w2:=hb2;have hc0:=aK.cell jx.out;have hc1:=aK.cell jG.out;have uj:=aa (HT.out.keep (aK.kept S));have nj:=(bI aK (w.heap.size+1) (by rw [fA.out];omega)).trans lJ.out;have bD:=aa (HU.out.trans aK);have oQ:Hid (w.heap.size+2<=w2.heap.size):=by unfold Hid;have:=aK.size;rw [fA.out] at this;exact this
 clear hb2 aK gy HT HU jx jG lJ;by_cases he:aH t=0
 ·have HE:=aa he
  rw [he];have mP:=aa nj;have EI:=aa (YQ S t he (dU t 0) 0 (af _) (aF he).1 w2 _ uj.out);have hsize:=Iu he;have hord:=QY (iZ t);have HSI:=aa (And.intro hsize hord);clear nj he hsize hord;go_wp2_with fail;refine EI.out.mono ?_;rintro e w3 ⟨dQ,v3,rfl,hr3⟩;have eo:=aa dQ;have HOD:=aa (ordered_t _ 64 (iZ t) HSI.out.1 (by omega) w3 _ hr3);clear dQ hr3 EI;go_wp2_with fail;refine HOD.out.mono ?_;rintro e w4 ⟨di,v4,rfl,hr4⟩;have kX:=aa (eo.out.trans di)
  have uk:=aa (LN _ w4 _ (zG (iZ t)) hr4 (by have:=HSI.out;omega));have Q1:Hid (w.heap.size+2<=w4.heap.size):=by unfold Hid;have:=kX.out.size;have:=oQ.out;omega
  clear di hr4 HOD eo;go_wp2_with fail;refine uk.out.mono ?_;rintro e w5 ⟨ey,_,rfl,P4,N4,rfl,iB,iC⟩;have iB:ah (fun b=>w4.heap.size<=b) w5 P4 (DV t).ps:=iB;have iC:au (fun b=>w4.heap.size<=b) w5 N4 (DV t).ns:=iC;obtain ⟨pp,pc,rfl,_,_⟩:=ay.open iB;obtain ⟨np,nc,rfl,_,_⟩:=ay.open iC;have qJ:=(bI (kX.out.trans ey) (w.heap.size+1) (by have:=oQ.out;omega)).trans mP.out;have sH:w5.cell? ⟨w.heap.size+1,0,none⟩=some (.slice none 0 0):=by simp [World.cell?,qJ]
  have hr1:w5.cell? ⟨w.heap.size+1,1,none⟩=some (.slice none 0 0):=by simp [World.cell?,qJ]
  have KI:w5.frozen? ⟨w.heap.size+1,0,none⟩=false:=by simp [World.frozen?,qJ]
  have nE:w5.frozen? ⟨w.heap.size+1,1,none⟩=false:=by simp [World.frozen?,qJ]
  have QE:=aa iB;have HN4:=aa iC;have HST:=aa (gq (w:=w) (p:=.slice pp (DV t).ps.length pc) (q:=.slice np (DV t).ns.length nc) qJ (by omega) (bD.out.trans (kX.out.trans ey)));clear iB iC ey qJ uk mP hc0 hc1;go_wp2_with fail;obtain ⟨s1,s2,s3,s4⟩:=HST.out;have hs2:=oQ.out;have hs4:=Q1.out;refine ⟨rfl,.tuple #[.agg #[.slice pp (DV t).ps.length pc,.slice np (DV t).ns.length nc],.int .i64 0],by simp [results,Tryz.results147,go_sem,s2,s3],?_⟩
  exact ⟨s1,.inr ⟨HE.out,_,rfl,_,_,rfl,(ah.keep QE.out fun b hb _=>s4 b (by omega)).sub fun b hb _=>by omega,(au.keep HN4.out fun b hb _=>s4 b (by omega)).sub fun b hb _=>by omega⟩⟩
 ·have Nu:(aH t != 0)=true:=by simpa using he
  have sH:w2.cell? ⟨w.heap.size+1,0,none⟩=some (.slice none 0 0):=by simp [World.cell?,nj]
  have hr1:w2.cell? ⟨w.heap.size+1,1,none⟩=some (.slice none 0 0):=by simp [World.cell?,nj]
  have KI:w2.frozen? ⟨w.heap.size+1,0,none⟩=false:=by simp [World.frozen?,nj]
  have nE:w2.frozen? ⟨w.heap.size+1,1,none⟩=false:=by simp [World.frozen?,nj]
  have HST:=aa (gq (w:=w) (p:=.slice none 0 0) (q:=.slice none 0 0) nj (by omega) bD.out);have HE:=aa he;clear he nj hc0 hc1;generalize aH t=te at Nu ⊢;go_wp2_with fail;obtain ⟨s1,s2,s3,s4⟩:=HST.out;refine ⟨rfl,.tuple #[.agg #[.slice none 0 0,.slice none 0 0],.int .i64 1],by simp [results,Tryz.results147,go_sem,s2,s3],?_⟩;exact ⟨s1,.inl ⟨HE.out,rfl⟩⟩
def Small (l:List Int):Prop:=∀k,k<l.length->0<=gi l k/\gi l k<32
theorem x6 (W:World):aI Any W (.agg #[.slice none 0 0,.slice none 0 0]) ⟨[],[]⟩ :=
 ⟨_,_,rfl,⟨none,0,rfl,af _,.inl rfl⟩,⟨none,0,rfl,af _,.inl rfl⟩⟩
theorem boxed {W:World} {B:Nat} {P N:Value} (hb:W.heap[B]? = some (Obj.cells #[P,N] 39 (0,0))):W.cell? ⟨B,0,none⟩=some P/\W.cell? ⟨B,1,none⟩=some N/\W.frozen? ⟨B,0,none⟩=false/\W.frozen? ⟨B,1,none⟩=false:=by
 refine ⟨?_,?_,?_,?_⟩<;>simp [World.cell?,World.frozen?,hb]
theorem IJ {S:Nat->Prop} {w:World} {b off n cap:Nat} {xs:List ByteArray} (h:au S w (.slice (some ⟨b,off,none⟩) n cap) xs) {k:Nat} (hk:k<=xs.length):ay S w (.slice (some ⟨b,off,none⟩) k cap) k (fun j=>.string (gs xs j)):=by
 obtain ⟨q,c,e,hn,h⟩:=h;injection e with e1 e2 e3;subst e1;subst e2;subst e3;refine ⟨_,cap,rfl,by omega,?_⟩;rcases h with h | ⟨b',o',e,hS,h⟩
 ·exact .inl (by omega)
 ·exact .inr ⟨b',o',e,hS,fun j hj=>h j (by omega)⟩
end
section
def IK (s:RT):Prop:=(s.kids≠[]->s.nm.size=0)/\(s.kids=[]->b7 s.nm.data.toList=true)/\s.kids.length≠1
def qK (l:List ByteArray):List ByteArray:=l.filter fun s=>decide (s.size≠0)
theorem Ug (a b:List ByteArray):qK (a++b)=qK a++qK b:=vg _ _
theorem kT {nm:ByteArray} {ks:List RT} (h:nm.size=0):dx (.node nm ks)=ks.flatMap dx:=by
 have key:∀ks:List RT,qK (gZ ks)=ks.flatMap dx:=by
  intro ks
  induction ks with
  | nil=>rfl
  | cons r rs ih=>rw [gZ,Ug,ih,gU];rfl
 show qK (gJ _)=_;rw [gJ,<- key];unfold qK;rw [JQ (by simp [h])]
theorem FU {nm:ByteArray} (h:nm.size≠0):dx (.node nm [])=[nm]:=by
 show List.filter _ (gJ _)=_;rw [gJ,gZ,MZ (by simpa using h)];rfl
end
section
open Go.RowKit Go.Deep
theorem FV:∀a b:List UInt8,Op.bytesLess a b=decide (Lib.compareBytes a b<0)
 | [],[]=>rfl
 | [],_::_=>rfl
 | _::_,[]=>rfl
 | a::x,b::y=>by
  rw [Op.bytesLess,Lib.compareBytes,FV x y]
  by_cases h:a<b
  ·simp [h]
  ·by_cases h2:b<a
   ·have:a≠b:=by rintro rfl;exact h h2
    simp [h,h2,this]
   ·have:a=b:=by
     apply UInt8.toNat.inj
     rw [Bl] at h h2;omega
    subst this
    simp [h]
theorem YU (a b:ByteArray):Iz a b=decide (fG a b<0):=by
 unfold Iz fG;rw [FV,Lib.toList_data,Lib.toList_data]
theorem vG (a b:ByteArray):qj a b=if fG a b<=0 then a else b:=by
 unfold qj;rw [YU];by_cases h:a.toList=b.toList
 ·have e:a=b:=j9 (by rw [<- Lib.toList_data,<- Lib.toList_data,h])
  subst e;simp [Qn]
 ·have e:fG a b≠0:=fun q=>h (by rw [nD q])
  by_cases h1:fG a b<=0
  ·rw [if_pos h1,if_pos];simp;left;omega
  ·rw [if_neg h1,if_neg];simp [h];omega
theorem vq {a b c:ByteArray} (h:fG a b<=0) (h':fG b c<=0):fG a c<=0:=by
 by_cases h1:fG a b=0
 ·rw [nD h1];exact h'
 ·by_cases h2:fG b c=0
  ·rw [<- nD h2];exact h
  ·have:=Ap (a:=a) (b:=b) (c:=c) (by omega) (by omega);omega
theorem Uh {s a b:ByteArray} (h:fG a b<=0):qj (qj s a) b=qj s a:=by
 rw [vG s a];split
 ·rename_i h1;rw [vG,if_pos (vq h1 h)]
 ·rw [vG,if_pos h]
theorem Ui {s a b:ByteArray} (h:¬fG a b<=0):qj (qj s a) b=qj s b:=by
 have hb:=nC a b;rw [vG s a];split
 ·rfl
 ·rename_i h1
  rw [vG a b,if_neg h,vG s b,if_neg];intro q;exact h1 (vq q (by omega))
def hdMin (s:ByteArray):List RT->ByteArray
 | []=>s
 | b::_=>qj s (bw b)
theorem hdMin_ins (s:ByteArray) (a:RT):∀l,hdMin s (iF a l)=hdMin (qj s (bw a)) l
 | []=>rfl
 | b::l=>by
  rw [iF]
  split
  ·rename_i h;show qj s _=qj (qj s _) _;rw [Uh h]
  ·rename_i h;show qj s _=qj (qj s _) _;rw [Ui h]
mutual
theorem Aw:∀r:RT,iy r=bw (cn r)
 | .node nm []=>by rw [iy,cn,fU,bw]
 | .node nm (k::ks)=>by
  rw [iy,KO ks,Aw k,cn,fU]
  cases h:fU ks with
  | nil=>rfl
  | cons b l =>
   rw [iF]
   show qj _ _=_
   rw [vG]
   split
   ·rw [bw]
   ·rw [bw]
theorem KO:∀(rs:List RT) (s:ByteArray),nt s rs=hdMin s (fU rs)
 | [],s=>by rw [nt,fU];rfl
 | r::rs,s=>by rw [nt,KO rs,Aw r,fU,hdMin_ins]
end
theorem Uj {s:ByteArray} {o:RT} (hs:s=bw o):∀ {l:List RT},(∀b∈l,iy b=bw b)->x5 s o l=iF o l
 | [],_=>rfl
 | b::l,h=>by
  have hb:=h b (by simp)
  have ha:=nC (bw b) (bw o)
  have ih:=Uj hs (l:=l) fun q hq=>h q (by simp [hq])
  unfold x5 at ih ⊢
  rw [x4,iF,hb,YU,hs]
  by_cases e:fG (bw o) (bw b)<=0
  ·rw [if_pos e,if_neg (by simp;omega)];rfl
  ·rw [if_neg e,if_pos (by simp;omega),Bk,List.drop_succ_cons,cr,<- hs,ih]
theorem IL {a b:RT} (h:bw a≠bw b):∀l,iF a (iF b l)=iF b (iF a l)
 | []=>by
  have h1:=nC (bw a) (bw b)
  have h2:fG (bw a) (bw b)≠0:=fun q=>h (nD q)
  simp only [iF]
  by_cases e:fG (bw a) (bw b)<=0
  ·rw [if_pos e,if_neg (by omega)]
  ·rw [if_neg e,if_pos (by omega)]
 | c::l=>by
  have h1:=nC (bw a) (bw b)
  have h2:fG (bw a) (bw b)≠0:=fun q=>h (nD q)
  by_cases ea:fG (bw a) (bw c)<=0
  ·by_cases eb:fG (bw b) (bw c)<=0
   ·by_cases e:fG (bw a) (bw b)<=0
    ·have e':¬fG (bw b) (bw a)<=0:=by omega
     simp only [iF,ea,eb,e,e',if_true,if_false]
    ·have e':fG (bw b) (bw a)<=0:=by omega
     simp only [iF,ea,eb,e,e',if_true,if_false]
   ·have e':¬fG (bw b) (bw a)<=0:=fun q=>eb (vq q ea)
    simp only [iF,ea,eb,e',if_true,if_false]
  ·by_cases eb:fG (bw b) (bw c)<=0
   ·have e':¬fG (bw a) (bw b)<=0:=fun q=>ea (vq q eb)
    simp only [iF,ea,eb,e',if_true,if_false]
   ·simp only [iF,ea,eb,if_false]
    rw [IL h l]
theorem Uk {a x:RT}:∀ {l:List RT},x∈iF a l↔x=a\/x∈l
 | []=>by simp [iF]
 | b::l=>by
  rw [iF]
  split
  ·simp
  ·rw [aW,Uk (l:=l),aW]
   constructor
   ·rintro (h | h | h)<;>simp [h]
   ·rintro (h | h | h)<;>simp [h]
def Dst (r:RT):Prop:=∀s∈bH r,(s.kids.map fun k=>bw (cn k)).Nodup
def foldI (acc:List RT):List RT->List RT
 | []=>acc
 | c::cs=>iF (cn c) (foldI acc cs)
theorem Q2 {a:RT}:∀(cs acc:List RT),(∀c∈cs,bw a≠bw (cn c))->foldI (iF a acc) cs=iF a (foldI acc cs)
 | [],_,_=>rfl
 | c::cs,acc,h=>by
  rw [foldI,foldI,Q2 cs acc (fun q hq=>h q (by simp [hq])),IL (h c (by simp))]
theorem Q3:∀cs:List RT,foldI [] cs=fU cs
 | []=>by rw [foldI,fU]
 | c::cs=>by rw [foldI,fU,Q3 cs]
mutual
theorem Ul:∀r:RT,Dst r->zG r=cn r
 | .node nm ks,h=>by
  have h0:=h (.node nm ks) (by rw [bH];simp)
  rw [zG,cn,Q4 ks [] (fun s hs=>h s (by rw [bH];simp [hs])) h0 (by simp),Q3]
theorem Q4:∀(cs acc:List RT),(∀s∈eZ cs,(s.kids.map fun k=>bw (cn k)).Nodup)->(cs.map fun k=>bw (cn k)).Nodup->(∀b∈acc,iy b=bw b)->jS acc cs=foldI acc cs
 | [],acc,_,_,_=>by rw [jS,foldI]
 | c::cs,acc,h,hn,ha=>by
  have hc:=Ul c (fun s hs=>h s (by rw [eZ];simp [hs]))
  have hl:iy (cn c)=bw (cn c):=by rw [Aw,FO]
  rw [cK,iR] at hn
  rw [jS,hc,Uj (Aw c) ha,Q4 cs _ (fun s hs=>h s (by rw [eZ];simp [hs])) hn.2 (fun b hb=>by
   rcases Uk.1 hb with rfl | hb
   ·exact hl
   ·exact ha b hb),foldI,Q2 cs acc]
  intro q hq e
  exact hn.1 (cm.2 ⟨q,hq,e.symm⟩)
end
mutual
theorem Um:∀(r s:RT),s∈bH r->(gJ s).Sublist (gJ r)
 | .node nm ks,s,h=>by
  rw [bH,aW] at h
  rcases h with rfl | h
  ·exact List.Sublist.refl _
  ·rw [gJ];exact (Q5 ks s h).trans (List.sublist_cons_self _ _)
theorem Q5:∀(rs:List RT) (s:RT),s∈eZ rs->(gJ s).Sublist (gZ rs)
 | [],s,h=>by simp [eZ] at h
 | r::rs,s,h=>by
  rw [eZ,dV] at h
  rw [gZ]
  rcases h with h | h
  ·exact (Um r s h).trans (List.sublist_append_left _ _)
  ·exact (Q5 rs s h).trans (List.sublist_append_right _ _)
end
theorem nI {r s:RT} (h:s∈bH r):(dx s).Sublist (dx r):=(Um r s h).filter _
theorem ja (r:RT):r∈bH r:=by cases r;rw [bH];simp
theorem FW:∀r:RT,(∀s∈bH r,s.kids=[]->b7 s.nm.data.toList=true)->bw r∈dx r
 | .node nm [],h=>by
  have h1:b7 nm.data.toList=true:=h (.node nm []) (ja _) rfl
  rw [FU (jR h1),bw];simp
 | .node nm (k::ks),h=>by
  have hk:∀s∈bH k,s∈bH (.node nm (k::ks)):=fun s hs=>by rw [bH,eZ];simp [hs]
  rw [bw]
  exact (nI (hk k (ja k))).subset (FW k fun s hs=>h s (hk s hs))
theorem IM {k:RT}:∀ {ks:List RT},k∈ks->∀s∈bH k,s∈eZ ks
 | b::ks,h,s,hs=>by
  rw [eZ,dV]
  rcases aW.1 h with rfl | h
  ·exact .inl hs
  ·exact .inr (IM h s hs)
mutual
theorem jT:∀(r:RT) {s u:RT},s∈bH r->u∈bH s->u∈bH r
 | .node nm ks,s,u,h,hu=>by
  rw [bH,aW] at h
  rcases h with rfl | h
  ·exact hu
  ·rw [bH];exact pH _ (KP ks h hu)
theorem KP:∀(rs:List RT) {s u:RT},s∈eZ rs->u∈bH s->u∈eZ rs
 | [],s,u,h,_=>by simp [eZ] at h
 | r::rs,s,u,h,hu=>by
  rw [eZ,dV] at h ⊢
  rcases h with h | h
  ·exact .inl (jT r h hu)
  ·exact .inr (KP rs h hu)
end
theorem Un {r:RT} (h:iq r):Dst r:=by
 intro s hs;have fe:(dx s).Nodup:=(nI hs).nodup h.nd;obtain ⟨nm,ks⟩:=s;show (ks.map _).Nodup;by_cases hk:ks=[]
 ·subst hk;simp
 ·rw [kT (nm:=nm) (ks:=ks) (h.wm (.node nm ks) hs hk)] at fe
  have hmem:∀k∈ks,bw (cn k)∈dx k:=fun k hk=>(tQ k).mem_iff.1 (FW _ fun q hq hqk=>by
   obtain ⟨x,hx,rfl⟩:=cm.1 ((nG k).mem_iff.1 hq);rw [xd] at hqk;rw [BU]
   exact h.lf x (jT r hs (by rw [bH];exact pH _ (IM hk x hx))) (rI.1 hqk))
  clear hs hk
  induction ks with
  | nil=>simp
  | cons k ks ih =>
   rw [gU,nR] at fe;rw [cK,iR];refine ⟨fun hm=>?_,ih fe.2.1 fun q hq=>hmem q (by simp [hq])⟩;obtain ⟨q,hq,e⟩:=cm.1 hm;exact fe.2.2 _ (hmem k (by simp)) _ (jP.2 ⟨q,hq,hmem q (by simp [hq])⟩) e.symm
theorem canR_canT {t:az} (h:aH t=0):DV t=o8 t:=by
 unfold DV;rw [Ul _ (Un (ou h)),wh h]
end
section
section
variable {aac:List ByteArray} {l:List Yy}
theorem range_gs (aac:List ByteArray):(List.range aac.length).map (gs aac)=aac:=by
 refine wM (by simp) fun i h1 h2=>?_;simp [gs,h2]
end
end
section
structure GZ (r:RT):Prop where
 nd:(dx r).Nodup
 pt:∀s∈bH r,IK s
theorem GZ.good {r:RT} (h:GZ r):iq r:=⟨fun s hs hk=>(h.pt s hs).1 hk,fun s hs hk=>(h.pt s hs).2.1 hk,h.nd⟩
theorem size0_eq {a b:ByteArray} (ha:a.size=0) (hb:b.size=0):a=b:=by
 apply ByteArray.ext;apply Array.ext
 ·show a.size=b.size;omega
 ·intro i hi _;have:i<a.size:=hi;omega
end
section
section
variable {F:ct} {n:Nat} {rk:Nat->Nat}
theorem IP (h:Wf F n rk) {i z:Nat} (hi:i<n) (hs:ep F rk i z=true):bB F rk z∈bH (bB F rk i):=by
 rw [CY h hi (af _)];exact cm.2 ⟨z,(gO h hi (af _)).2 hs,rfl⟩
theorem NK (h:Wf F n rk):∀(d i:Nat),rk i<=d->i<n->iq (bB F rk i)->(dw F rk i).Nodup
 | d,i,hd,hi,hg=>by
  rw [fh h hi,iR]
  have hsub:∀k∈F.kids i,bB F rk k∈bH (bB F rk i):=fun k hk=>IP h hi (vD h hi hk (pV h (h.kid i hi k hk).1))
  have Qg:∀k∈F.kids i,iq (bB F rk k):=fun k hk=>⟨fun s hs=>hg.wm s (jT _ (hsub k hk) hs),fun s hs=>hg.lf s (jT _ (hsub k hk) hs),(nI (hsub k hk)).nodup hg.nd⟩
  refine ⟨fun hm=>?_,?_⟩
  ·obtain ⟨k,hk,hm⟩:=jP.1 hm
   have hkk:=h.kid i hi k hk
   have:=vX h hkk.1 ((gO h hkk.1 (af _)).1 hm)
   omega
  ·by_cases h0:F.kids i=[]
   ·rw [h0];simp
   ·have fe:=hg.nd
    rw [fO h hi,kT (by have:=hg.wm _ (ja _);rw [A2 h hi,CZ h hi] at this;exact this (fun e=>h0 (List.map_eq_nil_iff.1 e))),Fu,Ef,Hs] at fe
    rw [Ef,Hs]
    refine ⟨fun k hk=>?_,?_⟩
    ·have hkk:=h.kid i hi k hk
     cases d with
     | zero=>omega
     | succ d=>exact NK h d k (by omega) hkk.1 (Qg k hk)
    ·refine fe.2.imp_of_mem ?_
     intro a b ha hb hab x hx y hy e
     subst e
     have hka:=h.kid i hi a ha
     have hkb:=h.kid i hi b hb
     have h1:=IP h hka.1 ((gO h hka.1 (af _)).1 hx)
     have h2:=IP h hkb.1 ((gO h hkb.1 (af _)).1 hy)
     have hf:=FW (bB F rk x) fun s hs=>(Qg a ha).lf s (jT _ h1 hs)
     exact hab _ ((nI h1).subset hf) _ ((nI h2).subset hf) rfl
end
end
section
section
variable {F:ct} {n:Nat} {rk:Nat->Nat}
theorem num_sub2 (h:Wf F n rk):∀ {d i:Nat} (p:Option Nat) (np:Int) (s:GP),i<n->rk i<=d->(dw F rk i).Nodup->p≠some i->s.mp.lookup p=some np->(∀j∈dw F rk i,s.mp.lookup (some j)=none) ->
  S0 s ((iW F rk i p).foldl (wY F) s) (mY (bB F rk i) s.ps.length np) (gJ (bB F rk i)) (dw F rk i):=by
 intro d
 induction d with
 | zero =>
  intro i p np s hi hd hnd0 hp hl hn;have hk:F.kids i=[]:=by
   cases hk:F.kids i with
   | nil=>rfl
   | cons k l=>have:=(h.kid i hi k (by rw [hk];simp)).2;omega
  rw [mI h hi,fO h hi,fh h hi,hk];have hni:=hn i (by rw [fh h hi];simp);refine ⟨?_,?_,fun k hk2=>iA _ (hk2 i (by simp))⟩
  ·show s.ps++[((th s.mp (some i) _).lookup p).getD 0]=_
   rw [iA _ hp,hl];rfl
  ·rfl
 | succ d ih =>
  intro i p np s hi hd hnd0 hp hl hn;rw [mI h hi,fO h hi,fh h hi];have hni:=hn i (by rw [fh h hi];simp);have fe:=hnd0;rw [fh h hi,iR] at fe;have key:∀(l:List Nat),(∀k∈l,k∈F.kids i)->(l.flatMap fun k=>dw F rk k).Nodup->(∀k∈l,i∉dw F rk k)->∀(s2:GP) (own:Nat),s2.mp.lookup (some i)=some (own:Int)->(∀k∈l,∀j∈dw F rk k,s2.mp.lookup (some j)=none) ->
    S0 s2 ((l.flatMap fun k=>iW F rk k (some i)).foldl (wY F) s2) (iE (l.map (bB F rk)) own s2.ps.length) (gZ (l.map (bB F rk))) (l.flatMap fun k=>dw F rk k):=by
   intro l
   induction l with
   | nil=>intro _ _ _ s2 own _ _;exact ⟨by simp [iE],by simp [gZ],fun _ _=>rfl⟩
   | cons c l ihl =>
    intro hin hdl hil s2 own ho hno
    have hcc:=h.kid i hi c (hin c (by simp))
    rw [gU,List.foldl_append,gU]
    rw [gU,nR] at hdl
    have h1:=ih (some i) (own:Int) s2 hcc.1 (by omega) hdl.1 (fun e=>by
     injection e with e
     have:=hcc.2;rw [e] at this;omega) ho (hno c (by simp))
    have h2:=ihl (fun k hk=>hin k (by simp [hk])) hdl.2.1 (fun k hk=>hil k (by simp [hk])) ((iW F rk c (some i)).foldl (wY F) s2) own
     ((h1.old (some i) (fun j hj e=>by injection e with e;subst e;exact hil c (by simp) hj)).trans ho)
     (fun k hk j hj=>(h1.old (some j) (fun j2 hj2 e=>by
      injection e with e;subst e
      exact hdl.2.2 j hj2 j (jP.2 ⟨k,hk,hj⟩) rfl)).trans (hno k (by simp [hk]) j hj))
    refine ⟨?_,?_,fun k hk=>?_⟩
    ·rw [h2.ps,h1.ps,cK,iE,dN,aZ,tO]
    ·rw [h2.ns,h1.ns,cK,gZ,dN]
    ·rw [h2.old k (fun j hj=>hk j (by simp [hj])),h1.old k (fun j hj=>hk j (by simp [hj]))]
  have hin:∀k∈F.kids i,i∉dw F rk k:=fun k hk hm=>fe.1 (jP.2 ⟨k,hk,hm⟩)
  have h3:=key (F.kids i) (fun k hk=>hk) fe.2 hin (wY F s (i,p)) s.ps.length (CX _ hni) (fun k hk j hj=>by
   show (th s.mp (some i) _).lookup (some j)=none;rw [iA _ (fun e=>by injection e with e;subst e;exact hin k hk hj)]
   exact hn j (by rw [fh h hi];exact pH _ (jP.2 ⟨k,hk,hj⟩)))
  have hps:(wY F s (i,p)).ps=s.ps++[np]:=by show s.ps++[((th s.mp (some i) _).lookup p).getD 0]=_;rw [iA _ hp,hl];rfl
  rw [List.foldl_cons];refine ⟨?_,?_,fun k hk=>?_⟩
  ·rw [h3.ps,hps,mY,dN,aZ];rfl
  ·rw [h3.ns]
   show (s.ns++[F.nm i])++_=_;rw [gJ,dN];rfl
  ·rw [h3.old k (fun j hj=>hk j (by simp [hj]))]
   exact iA _ (hk i (by simp))
theorem XO (h:Wf F n rk) {i:Nat} (hi:i<n) (fe:(dw F rk i).Nodup):lZ F rk i=flat (bB F rk i):=by
 have h1:=num_sub2 h (d:=rk i) none (-1) Pa hi (af _) fe (fun e=>by cases e) rfl (fun j _=>rfl);unfold lZ flat fW;rw [h1.ps,h1.ns];rfl
end
end
end Go.Proofs.YthgabkgmkolobaaGreat
