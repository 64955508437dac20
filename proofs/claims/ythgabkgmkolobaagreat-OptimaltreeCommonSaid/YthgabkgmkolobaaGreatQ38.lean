/- split.Of: the map of names, the closure that asks it. The contract of split.Of. .. -/
import Derived.Test.YthgabkgmkolobaaGreatQ36
set_option maxRecDepth 100000
set_option maxHeartbeats 4000000
namespace Go.Proofs.YthgabkgmkolobaaGreat
section
open Go.RowKit Go.Deep
def JD (aac:List ByteArray):Nat->List (ByteArray×Value)
 | 0=>[]
 | k+1=>x8 (JD aac k) (gs aac k) (.bool true)
def Ea (aac:List ByteArray) (k:Nat) (s:ByteArray):Bool:=(List.range k).any fun j=>decide (gs aac j=s)
theorem Wq (aac:List ByteArray):∀k,Db (JD aac k)
 | 0=>yV
 | k+1=>Re (Wq aac k) _ _
theorem Mo (aac:List ByteArray) (s:ByteArray):∀k,((JD aac k).lookup s).getD (.bool false)=.bool (Ea aac k s)
 | 0=>rfl
 | k+1=>by
  rw [JD,KQ]
  have e:Ea aac (k+1) s=(Ea aac k s || decide (gs aac k=s)):=by unfold Ea;rw [rX,List.any_append];simp
  rw [e]
  by_cases h:s=gs aac k
  ·rw [if_pos h,decide_eq_true h.symm];simp
  ·rw [if_neg h,Mo aac s k,decide_eq_false (fun q=>h q.symm)];simp
theorem inNm_fd (aac:List ByteArray) (s:ByteArray):Ea aac aac.length s=!decide (iD aac s<0):=by
 have h1:decide (0<=iD aac s)=(List.range aac.length).any fun j=>decide (s=gs aac j):=gX _ _;have h2:Ea aac aac.length s=(List.range aac.length).any fun j=>decide (s=gs aac j):=by
  unfold Ea;congr 1;funext j;by_cases e:gs aac j=s
  ·rw [decide_eq_true e,decide_eq_true e.symm]
  ·rw [decide_eq_false e,decide_eq_false fun q=>e q.symm]
 rw [h2,<- h1];by_cases h:iD aac s<0
 ·rw [decide_eq_true h,decide_eq_false (by omega)];rfl
 ·rw [decide_eq_false h,decide_eq_true (by omega)];rfl
theorem R8 (w:World):(zeroValue 4).run Tryz.prog w=.ok (.bool false) w:=by simp [Tryz.zeroValue4]
theorem of1_t (w:World) (S:Nat->Prop) (b8 bt mb:Nat) (np:Option Addr) (nc:Nat) (ns aac:List ByteArray) (k:Nat) (h8:w.cell? ⟨b8,0,none⟩=some (.map (some mb))) (hm:SMap w mb (JD aac aac.length)) (ht:w.cell? ⟨bt,1,none⟩=some (.slice np ns.length nc)) (hN:au S w (.slice np ns.length nc) ns) (hk:k<ns.length) :
  Hj 84 #[.pointer (some ⟨b8,0,none⟩),.pointer (some ⟨bt,0,none⟩)] #[.int .i64 (k:Int)] (.bool (decide (iD aac (gs ns k)<0))) w:=by
 intro m;show Calls Tryz.prog 84 #[.int .i64 (k:Int),.pointer (some ⟨b8,0,none⟩),.pointer (some ⟨bt,0,none⟩)] (w.drewN m) _;have hd:=Up.drewN w m;obtain ⟨nb,no,rfl,c4⟩:=dr hN hk;have c1:=hd.cell h8;have c2:=hd.cell ht;have c4:=hd.cell c4;have k1:(0:Int)<=(k:Int):=CG _;have k2:(k:Int)<(ns.length:Int):=Ai.2 hk
 have hlk:∀n,(Instr.lookup 108 (.map (some mb)) (.string (gs ns k)) false).run Tryz.prog ((w.drewN m).drewN n)=.ok (.bool (!decide (iD aac (gs ns k)<0))) ((w.drewN m).drewN n):=fun n=>by have hm2:SMap ((w.drewN m).drewN n) mb (JD aac aac.length):=hm.same rfl;have h:=IY (P:=Tryz.prog) Tryz.underlying108 Tryz.underlying9 (R8 _) hm2 (gs ns k);rw [Mo,inNm_fd] at h;exact h
 obtain ⟨W,hW⟩:∃W,W=w.drewN m:=⟨_,rfl⟩;have HW:=aa hW;rw [<- hW] at c1 c2 c4 hlk ⊢;clear hd h8 hm ht hN hk hW;generalize gs ns k=s at *;generalize decide (iD aac s<0)=b at *
 go_enter Tryz.func84,Tryz.ntmps84
 go_wp2_with fail;go_big_quiet (fail)
 go_wp2_with fail;go_ret;exact ⟨by cases b<;>rfl,m+nq,by rw [HW.out,wS]⟩
end
section
open Go.RowKit Go.Deep Go.Shelf
def OH (w:World) (t:az) (aac:List ByteArray) (e:Ending) (w':World):Prop:=Up w w'/\∃u,e=.returned (.tuple #[u,.int .i64 (jD t aac)])/\aR Any w' u (cW t aac)
def Ki (w:World) (t:az) (aac:List ByteArray) (e:Ending) (w':World):Prop:=Up w w'/\∃u,e=.returned (.tuple #[u,.int .i64 (jD t aac)])/\∃f,ay (fun b=>w.heap.size<=b) w' u (cW t aac).length f/\∀k,k<(cW t aac).length->ah (wF w') w' (f k) (gl (cW t aac) k)
theorem JE {w w':World} {t:az} {aac:List ByteArray} {c:Int} (hE:jD t aac=c) (hc:c≠0) (hu:Up w w'):Ki w t aac (.returned (.tuple #[.slice none 0 0,.int .i64 c])) w':=by
 refine ⟨hu,.slice none 0 0,by rw [hE],?_⟩;have h0:cW t aac=[]:=by unfold cW;rw [if_neg (by rw [hE];exact hc)]
 rw [h0];exact ⟨fun _=>undef,⟨none,0,rfl,af _,.inl rfl⟩,fun k hk=>absurd hk (bG _)⟩
theorem Mp (S : Nat -> Prop) (w : World) (v vs : Value) (t : az) (aac : List ByteArray) (hT : aI S w v t) (hV : au S w vs aac) (hp : t.ps.length <= 1000000) (hn : t.ns.length <= 1000000) (hz : ∀ k, (gs t.ns k).size <= 70000) (hnl : aac.length <= 1000000) :
    Calls Tryz.prog 20 #[v, vs] w (Ki w t aac) := by
  have HE : Hid (jD t aac = if aH t ≠ 0 then 1 else if 32 < aac.length then 4 else if Md aac then 7 else if (aD t.ns).length ≠ aac.length \/ xA t aac = true then 9 else 0) := rfl
  obtain ⟨P, N, rfl, hP, hN⟩ := hT
  obtain ⟨pp, pc, rfl, -, -⟩ := ay.open hP
  obtain ⟨np, nc, rfl, -, -⟩ := ay.open hN
  obtain ⟨mp, mc, rfl, -, -⟩ := ay.open hV
  have hP : ah S w (.slice pp t.ps.length pc) t.ps := hP
  have hN : au S w (.slice np t.ns.length nc) t.ns := hN
  have HV : Hid (au S w (.slice mp aac.length mc) aac) := hV
  have hu := Up.alloc w (.cells #[.slice pp t.ps.length pc, .slice np t.ns.length nc] 39)
  have mX := aa (iU w (.slice pp t.ps.length pc) (.slice np t.ns.length nc) 39)
  have lK := aa (iV w (.slice pp t.ps.length pc) (.slice np t.ns.length nc) 39)
  have HU := aa hu
  have HP := aa hP
  have HN := aa hN
  have K2 : Hid (∀ W, Up w W -> Calls Tryz.prog 30 #[.agg #[.slice pp t.ps.length pc, .slice np t.ns.length nc]] W (LvPost W t)) := fun W hW => Fz S W _ t (aI.keep ⟨_, _, rfl, hP, hN⟩ (hW.kept _)) hp hn hz
  clear hu hP hN hV
  refine (callsIn_wide (n := 9)).1 ?_
  refine callsIn_of_wp_marks Tryz.func20 rfl trivial ?_
  simp only [Tryz.ntmps20, eW, aT, dO, Nat.reduceAdd, Nat.reduceSub, ji, jk, eV, ve, cH, cr]
  gi_wp2_with fail
  generalize w.alloc (.cells #[.slice pp t.ps.length pc, .slice np t.ns.length nc] 39) = w1 at *
  refine ⟨trivial, (callsIn_wide.2 (K2.out w1 HU.out)).mono ?_⟩
  rintro e w2 ⟨aK, hcc⟩
  have aK : Up w1 w2 := aK
  have bD := aa (HU.out.trans aK)
  have HB02 := aa (aK.cell mX.out)
  have HB12 := aa (aK.cell lK.out)
  clear aK K2 HU mX lK
  rcases hcc with ⟨rE, rfl⟩ | ⟨hok, lv, rfl, hlv⟩
  · have HZ : Hid (jD t aac = 1) := by unfold Hid; rw [HE.out, if_pos rE]
    have d1 : (aH t == 0) = false := by simpa using rE
    have d2 : (aH t != 0) = true := by simpa using rE
    clear rE
    gi_wp2_with fail
    exact ⟨.tuple #[.slice none 0 0, .int .i64 1], by simp [results, Tryz.results20, go_sem], JE HZ.out (by decide) bD.out⟩
  obtain ⟨lp, lc, rfl, -, -⟩ := ay.open hlv
  have ZE : Hid (ah Any w2 (.slice lp (aD t.ns).length lc) (aD t.ns)) := ah.sub hlv fun _ _ _ => trivial
  have xK := aa hok
  clear hlv
  by_cases Fc : 32 < aac.length
  · have HZ : Hid (jD t aac = 4) := by unfold Hid; rw [HE.out, if_neg (fun e => e hok), if_pos Fc]
    clear hok
    gi_wp2_with fail
    exact ⟨.tuple #[.slice none 0 0, .int .i64 4], by simp [results, Tryz.results20, go_sem], JE HZ.out (by decide) bD.out⟩
  have qO : Hid (jD t aac = if Md aac then 7 else if (aD t.ns).length ≠ aac.length \/ xA t aac = true then 9 else 0) := by unfold Hid; rw [HE.out, if_neg (fun e => e hok), if_neg Fc]
  have n32 : (aac.length : Int) <= 32 := by omega
  have hmm := fun W => run_makeMap (P := Tryz.prog) 108 W
  clear hok HE
  gi_wp2_with fail
  have h3m : Up w2 ((w2.alloc (.map #[] 0)).alloc (.cells #[.map (some w2.heap.size)] 108)) := (Up.alloc _ _).trans (Up.alloc _ _)
  have h3s : SMap ((w2.alloc (.map #[] 0)).alloc (.cells #[.map (some w2.heap.size)] 108)) w2.heap.size (JD aac 0) := (SMap.made w2).same (bI (Up.alloc (w2.alloc (.map #[] 0)) _) _ (by simp))
  have h3b : ((w2.alloc (.map #[] 0)).alloc (.cells #[.map (some w2.heap.size)] 108)).cell? ⟨w2.heap.size + 1, 0, none⟩ = some (.map (some w2.heap.size)) := by
    have h := nW (w2.alloc (.map #[] 0)) (.map (some w2.heap.size)) 108
    rwa [aQ] at h
  have H3 := aa (⟨h3m, h3s, h3b⟩ : _ /\ _ /\ _)
  have d32 : decide ((32 : Int) < (aac.length : Int)) = false := decide_eq_false (by omega)
  try simp only [d32]
  clear h3m h3s h3b hmm d32
  generalize (w2.alloc (.map #[] 0)).alloc (.cells #[.map (some w2.heap.size)] 108) = w3 at *
  have HV2 := aa (au.keep HV.out (bD.out.kept _))
  have HSEEN : Hid (∀ k, fk aac k = Ea aac k (gs aac k)) := fun k => rfl
  gi_loopw [10, 29] (fun _ i wr => ∃ k : Nat, k <= aac.length /\ i = .int .i64 k /\ Hid (SMap wr w2.heap.size (JD aac k)) /\ Hid (Up w2 wr) /\ Hid (wr.cell? ⟨w2.heap.size + 1, 0, none⟩ = some (.map (some w2.heap.size))) /\ Hid (∀ j, j < k -> fk aac j = false)) (fun _ i _ => aac.length - (intOf i).toNat)
  case atStart => exact ⟨0, aL _, rfl, H3.out.2.1, H3.out.1, H3.out.2.2, fun j hj => absurd hj (bG _)⟩
  case round =>
    obtain ⟨k, hk, rfl, hM, dY, hB, hno⟩ := hrel
    obtain ⟨wo, rfl⟩ : ∃ wo : World, wo = wr := ⟨_, rfl⟩
    have b8 := hB.out
    by_cases hlt : k < aac.length
    · obtain ⟨b, off, rfl, hcell⟩ := dr (au.keep HV2.out (dY.out.kept _)) hlt
      have i1 : (0 : Int) <= (k : Int) := by omega
      have i2 : (k : Int) < (aac.length : Int) := by omega
      have i3 : (k : Int) < 64 := by omega
      have Zh : Hid (JD aac (k + 1) = x8 (JD aac k) (gs aac k) (.bool true)) := rfl
      have GI := aa (HSEEN.out k)
      have hlk : (Instr.lookup 108 (.map (some w2.heap.size)) (.string (gs aac k)) false).run Tryz.prog wo = .ok (.bool (Ea aac k (gs aac k))) wo := by
        have h := IY (P := Tryz.prog) Tryz.underlying108 Tryz.underlying9 (R8 _) hM.out (gs aac k)
        rw [Mo] at h
        exact h
      generalize gs aac k = s at *
      generalize Ea aac k s = q at *
      cases q
      · obtain ⟨w5, hrun, Oh, hs5, xm, zY, Jg, qG⟩ := UC (P := Tryz.prog) Tryz.underlying108 Tryz.underlying9 hM.out (Wq aac k) s (.bool true)
        have HM5 : Hid (SMap w5 w2.heap.size (JD aac (k + 1))) := by unfold Hid; rw [Zh.out]; exact Oh
        have iw : Hid (Up w2 w5) := ⟨xm.trans dY.out.os, zY.trans dY.out.tape, Jg.trans dY.out.output, by rw [hs5]; exact dY.out.size, fun b hb => (qG b (by omega)).trans (dY.out.block b hb)⟩
        have Tx : Hid (w5.cell? ⟨w2.heap.size + 1, 0, none⟩ = some (.map (some w2.heap.size))) := (eX (a := ⟨w2.heap.size + 1, 0, none⟩) (qG (w2.heap.size + 1) (by omega))).trans hB.out
        have rz : Hid (∀ j, j < k + 1 -> fk aac j = false) := fun j hj => by
          by_cases e : j = k
          · rw [e]; exact GI.out
          · exact hno.out j (by omega)
        clear Oh hs5 xm zY Jg qG hM dY hB hno
        gi_wp2_with fail
        go_roundw
        case rel => exact ⟨k + 1, by omega, by go_num, HM5, iw, Tx, rz⟩
        case measure => simp [intOf]; omega
      · have HZ : Hid (jD t aac = 7) := by
          unfold Hid
          rw [qO.out, show Md aac = true from eO.2 ⟨k, bh.2 hlt, GI.out⟩, if_pos rfl]
        gi_wp2_with fail
        exact ⟨.tuple #[.slice none 0 0, .int .i64 7], by simp [results, Tryz.results20, go_sem], JE HZ.out (by decide) (bD.out.trans dY.out)⟩
    · obtain rfl : k = aac.length := by omega
      have OI : Hid (jD t aac = if (aD t.ns).length ≠ aac.length \/ xA t aac = true then 9 else 0) := by
        unfold Hid
        rw [qO.out, show Md aac = false from any_none hno.out, if_neg (by decide)]
      have oV := aa (bD.out.trans dY.out)
      clear hlt hk qO hno HSEEN HV2 H3
      by_cases jv : (aD t.ns).length = aac.length
      · have d1 : (((aD t.ns).length : Int) == (aac.length : Int)) = true := by rw [jv]; simp
        have d2 : (((aD t.ns).length : Int) != (aac.length : Int)) = false := by rw [bne, d1]; rfl
        have HLNE := aa jv
        have HIo : Hid (ah Any wo (.slice lp (aD t.ns).length lc) (aD t.ns)) := ah.keep ZE.out (dY.out.kept _)
        have hb1 := dY.out.cell HB12.out
        have nM := aa (Oq 84 #[.pointer (some ⟨w2.heap.size + 1, 0, none⟩), .pointer (some ⟨w.heap.size, 0, none⟩)] (enters_of Tryz.func84 (by kernel_rfl) rfl) Any wo _ (aD t.ns).length (fun k => .int .i64 (gi (aD t.ns) k)) (fun j => decide (iD aac (gs t.ns (gi (aD t.ns) j).toNat) < 0)) HIo.out (by have := yF t.ns; omega) (fun k hk => by
          obtain ⟨q, h1, h2, _⟩ := qi hk
          simp only [h1, cZ]
          exact of1_t wo S (w2.heap.size + 1) w.heap.size w2.heap.size np nc t.ns aac q b8 hM.out hb1 (au.keep HN.out (oV.out.kept _)) h2))
        have Lh : Hid (((List.range (aD t.ns).length).any fun j => decide (iD aac (gs t.ns (gi (aD t.ns) j).toNat) < 0)) = xA t aac) := rfl
        rw [Lh.out] at nM
        have HBo0 := aa (dY.out.cell HB02.out)
        have HBo1 := aa hb1
        clear jv hb1 hM dY hB HB02 HB12 ZE Lh b8
        cases tF : xA t aac
        · rw [tF] at nM OI
          have HZ : Hid (jD t aac = 0) := by unfold Hid; rw [OI.out, if_neg]; exact fun e => e.elim (fun e => e HLNE.out) (fun e => by cases e)
          have oC := aa (kV.1 HZ.out)
          clear tF OI
          gi_wp2_with fail
          refine ⟨trivial, (callsIn_wide.2 nM.out).mono ?_⟩
          rintro e w6 ⟨rfl, nq, hw6⟩
          have dL : Up wo w6 := by rw [hw6]; exact Up.drewN wo nq
          have rj := aa (oV.out.trans dL)
          have b0 := dL.cell HBo0.out
          have b1 := dL.cell HBo1.out
          have HB60 := aa b0
          have HB61 := aa b1
          clear hw6 dL nM HBo0 HBo1 oV
          obtain ⟨t1, t2, t3⟩ := wI w6 (.int .i64 (aac.length : Int)) (.slice none 0 0) 3 23
          have hn7 := blk_alloc_new (w6.alloc (.cells #[.int .i64 (aac.length : Int)] 3)) (.cells #[.slice none 0 0] 23)
          have ZW := (bI (Up.alloc (w6.alloc (.cells #[.int .i64 (aac.length : Int)] 3)) (.cells #[.slice none 0 0] 23)) w6.heap.size (by simp)).trans (blk_alloc_new w6 (.cells #[.int .i64 (aac.length : Int)] 3))
          have hs7 : ((w6.alloc (.cells #[.int .i64 (aac.length : Int)] 3)).alloc (.cells #[.slice none 0 0] 23)).heap.size = w6.heap.size + 2 := by simp
          rw [aQ] at hn7
          have b0 := t1.cell b0
          have b1 := t1.cell b1
          have H7 := aa (⟨t1, ZW, hn7, hs7⟩ : _ /\ _ /\ _ /\ _)
          clear t1 t2 t3 ZW hn7 hs7 HB60 HB61
          gi_wp2_with fail
          generalize (w6.alloc (.cells #[.int .i64 (aac.length : Int)] 3)).alloc (.cells #[.slice none 0 0] 23) = w7 at *
          refine ⟨trivial, (callsIn_wide.2 (sbelow_t w7 _ _ _ _ _)).mono ?_⟩
          rintro e w9 ⟨rfl, KW⟩
          have kN : Up w7 w9 := by rw [KW]; exact (Up.alloc _ _).trans (Up.alloc _ _)
          have I9 : w9.heap.size = w7.heap.size + 2 := by rw [KW]; simp
          have ht9 := (Up.alloc (w7.alloc (.cells #[.slice pp t.ps.length pc, .slice np t.ns.length nc] 39)) (.cells #[.slice mp aac.length mc] 22))
          have hc0 := ht9.cell (iU w7 (.slice pp t.ps.length pc) (.slice np t.ns.length nc) 39)
          have hc1 := ht9.cell (iV w7 (.slice pp t.ps.length pc) (.slice np t.ns.length nc) 39)
          have hc2 := nW (w7.alloc (.cells #[.slice pp t.ps.length pc, .slice np t.ns.length nc] 39)) (.slice mp aac.length mc) 22
          rw [aQ] at hc2
          rw [<- KW] at hc0 hc1 hc2
          have ZX : ah Any w6 (.slice pp t.ps.length pc) t.ps := ah.sub (ah.keep HP.out (rj.out.kept _)) fun _ _ _ => trivial
          have ZY : au Any w6 (.slice np t.ns.length nc) t.ns := au.sub (au.keep HN.out (rj.out.kept _)) fun _ _ _ => trivial
          have hV6 : au Any w6 (.slice mp aac.length mc) aac := au.sub (au.keep HV.out (rj.out.kept _)) fun _ _ _ => trivial
          have h67 := H7.out.2.2.2
          have Vq : Up w6 w9 := H7.out.1.trans kN
          have hI0 : sV w6 t aac [] (fun b => b = w7.heap.size \/ b = w7.heap.size + 1) w9 := ⟨Vq, by omega, fun b hb => by omega, ⟨by omega, by omega⟩, (bI kN _ (by omega)).trans H7.out.2.1, .slice none 0 0, [], (bI kN _ (by omega)).trans H7.out.2.2.1, ax.nil _ _ _, rfl, af _, (fun p hp => by cases hp), (fun p hp => by cases hp), fun g hg => by cases hg⟩
          have hseq := below_seqL (w0 := w6) (w9 := w9) (Bt := w7.heap.size) (Bn := w7.heap.size + 1) 8 oC.out (by omega) (by omega) hc0 hc1 hc2 ZX ZY hV6
          have H9 := aa (⟨Vq, I9, h67⟩ : _ /\ _ /\ _)
          clear KW kN ht9 hc0 hc1 hc2 ZX ZY hV6 b0 b1 H7 h67 I9 Vq
          gi_wp2_with fail
          apply KT (F := Fence.wide) (n := 9) (P := Tryz.prog) (ps := #[54]) (w := w9) rfl (by omega) (gf := 132) (lb := #[.pointer (some ⟨w7.heap.size, 0, none⟩), .pointer (some ⟨w7.heap.size + 1, 0, none⟩)]) rfl trivial (enters_of Tryz.func132 (by kernel_rfl) rfl)
            hseq (fun b hb => by have := H9.out.2.1; omega) (fun x L W b h1 h2 => gvB_gb x L W b h1 h2) H9.out.1 (fun _ => rfl) (fun x L => gvB_own x L)
            (sV w6 t aac) sV.ab (sV.own (by have := H9.out.2; omega)) hI0
          · intro l x W K hK
            gi_wp2_with (rw [iJ _ _ _ (fun c h => by cases h)]; go_simp; try go_bits)
            exact hK
          · rintro l pre ⟨nk, v⟩ L W hI hG kJ NT hlen
            obtain ⟨hx1, hx2, xp, xc, Qq, hxi, hxt⟩ := hG
            dsimp only at hx1 hx2 Qq hxi hxt
            subst Qq
            have HI := aa hI
            have HXI : Hid (ah (fun b => ¬ L b) W (.slice xp (cu t aac nk).length xc) (cu t aac nk)) := hxi
            have Rh := aa hxt
            have gG : Hid (∀ b, L b -> b < W.heap.size) := fun b hb => (NT b hb).2
            have HSOK : Hid (qc (cu t aac nk)) := ⟨Ba _ _ _, fun x hx => by have h1 := nP.1 hx; have h2 := oC.out.le; omega⟩
            have HXL : Hid ((cu t aac nk).length <= 32) := aJ (rS _ _) oC.out.le
            have HPX : Hid (pre.length <= 64) := by have := (aF oC.out.te).2.1; unfold Hid; omega
            have nH : Hid (fc aac.length (cu t aac nk) = if (cu t aac nk).contains 0 then dZ aac.length (cu t aac nk) else (cu t aac nk)) := rfl
            have hnb : W.cell? ⟨w6.heap.size, 0, none⟩ = some (.int .i64 (aac.length : Int)) := by simp [World.cell?, hI.nb]
            have uk := aa hnb
            have jx : Hid (Calls Tryz.prog 14 #[.slice xp (cu t aac nk).length xc, .int .i64 0] W fun e w' => e = .returned (.bool ((cu t aac nk).contains 0)) /\ W = w') := by
              have h := tY (fun b => ¬ L b) W _ (cu t aac nk) 0 hxi (by have := HXL.out; omega)
              rw [Jo] at h; exact h
            have IB : Hid (Calls Tryz.prog 86 #[.int .i64 (aac.length : Int), .slice xp (cu t aac nk).length xc] W fun e w' => Up W w' /\ ∃ u, e = .returned (.tuple #[u, .int .i64 0]) /\ ax W.heap.size 3 w' u ((dZ aac.length (cu t aac nk)).map (Value.int .i64))) := V8 (fun b => ¬ L b) W _ aac.length (cu t aac nk) (by have := oC.out.le; omega) hxi HSOK.out (fun x hx => (nP.1 hx).2.1) (by have := HXL.out; omega)
            clear hI hxi hxt kJ NT hlen hx1 hx2
            cases hc0 : (cu t aac nk).contains 0
            · rw [hc0] at jx
              have Gi : Hid (fc aac.length (cu t aac nk) = (cu t aac nk)) := by unfold Hid; rw [nH.out, hc0]; rfl
              have gy := aa (AL (fun b => ¬ L b) W _ (aac.length : Int) (cu t aac nk) HXI.out (by have := HXL.out; omega))
              clear hc0 IB nH
              generalize Ho : cM aac.length (cu t aac nk) = se at *
              have FP := aa Ho
              clear Ho
              by_cases h0 : se = 0
              · have wH : Hid (cM aac.length (cu t aac nk) = 0) := by unfold Hid; rw [FP.out]; exact h0
                subst h0
                gi_wp2_with (rw [iJ _ _ _ (fun c h => by cases h)]; go_simp; try go_bits)
                refine ⟨trivial, (callsIn_wide.2 jx.out).mono ?_⟩
                rintro e w' ⟨rfl, rfl⟩
                gi_wp2_with (rw [iJ _ _ _ (fun c h => by cases h)]; go_simp; try go_bits)
                refine ⟨trivial, (callsIn_wide.2 gy.out).mono ?_⟩
                rintro e w' ⟨rfl, rfl⟩
                have hIn := HI.out
                obtain ⟨ov, ps, e1, e2, _, e4, _, _, _⟩ := hIn.ex
                obtain ⟨oq, oc, rfl, _⟩ := e2.form (n := ps.length) (by simp)
                have Lg := aa e1
                have HOW := aa e2
                have fN : Hid (ps.length <= 64) := aJ e4 HPX.out
                have zQ : W.cell? ⟨w6.heap.size + 1, 0, none⟩ = some (.slice oq ps.length oc) := by simp [World.cell?, e1]
                have fA : Hid (w6.heap.size + 2 <= W.heap.size) := hIn.sz
                obtain ⟨i0, jg, hz0, hz1, hz2⟩ := info_parts Tryz.Zv
                have Cr : W.ownsRow (w6.heap.size + 2) 26 1 (.slice oq ps.length oc) ps.length (ps.map (·.2)) := by have h := e2; unfold ax at h; rwa [aG] at h
                have VT := aa Cr
                have dX := Up.alloc W (.cells #[.slice xp (cu t aac nk).length xc] 26)
                have tH := aa dX
                clear e1 e2 e4 hIn Cr dX
                gi_wp2_with (first
                  | (gi_at_builtin; refine wpListIn_append_own_at _ rfl _ _ 23 rfl (w6.heap.size + 2) 26 i0 (.slice none 0 0) 1 24 Tryz.underlying23 jg hz0 hz1 hz2 rfl (by decide) _ _ _ rfl (VT.out.alloc _) ⟨W.heap.size, 0, none⟩ 1 1 [.slice xp (cu t aac nk).length xc] rfl rfl (cell_one_new _ _ _) (by simp [Value.oneCell']) (by have := fN.out; unfold maxLen; omega) (by have := fN.out; omega) (by have h1 := fA.out; have h2 := tH.out.size; omega) ?_
                     intro v3 w3 OJ hg3 hnil3 OL
                     have Mq : ax (w6.heap.size + 2) 26 w3 v3 (ps.map (·.2) ++ [.slice xp (cu t aac nk).length xc]) := by unfold ax; rw [aZ, aG]; exact OJ
                     obtain ⟨vp3, vc3, rfl, _⟩ := Mq.form (n := ps.length + 1) (by simp)
                     have HNO3 := aa Mq
                     have OE : Hid (W.grownBy w3 (Value.slice oq ps.length oc).ownBlock) := kO (lG tH.out _) hg3
                     have HBK3 : Hid (∀ g, (Value.slice vp3 (ps.length + 1) vc3).ownBlock = some g -> (Value.slice oq ps.length oc).ownBlock = some g \/ W.heap.size <= g) := fun g Cs => by
                       rcases OL with e | e
                       · exact .inl (e ▸ Cs)
                       · rw [e] at Cs; injection Cs with Cs; rw [<- Cs]; exact .inr tH.out.size
                     have Ws : w3.heap[w6.heap.size + 1]? = some (Obj.cells #[.slice oq ps.length oc] 23 (0, 0)) := (OE.out.block _ (by have := fA.out; omega) fun e => by have := (av HOW.out e.symm).1; omega).trans Lg.out
                     have q3 : w3.cell? ⟨w6.heap.size + 1, 0, none⟩ = some (.slice oq ps.length oc) := by simp [World.cell?, Ws]
                     have q4 : ∀ o, w3.frozen? ⟨w6.heap.size + 1, o, none⟩ = false := fun o => by simp [World.frozen?, Ws]
                     clear OJ hg3 hnil3 OL Mq Ws)
                  | (rw [iJ _ _ _ (fun c h => by cases h)]; go_simp; try go_bits))
                exact HI.out.VZ (B := w9.heap.size) (x := (nk, .slice xp (cu t aac nk).length xc)) (by have := H9.out.2; omega) gG.out (Up.refl W) Rh.out (by rw [Gi.out]; exact wH.out) ⟨xp, xc, by rw [Gi.out]⟩ (by rw [Gi.out]; exact HXI.out) Rh.out Lg.out HOW.out HNO3.out OE.out HBK3.out
              · have d1 : (se == 0) = false := by simpa using h0
                have HZ : Hid (cM aac.length (fc aac.length (cu t aac nk)) ≠ 0) := by unfold Hid; rw [Gi.out, FP.out]; exact h0
                clear h0
                gi_wp2_with (rw [iJ _ _ _ (fun c h => by cases h)]; go_simp; try go_bits)
                refine ⟨trivial, (callsIn_wide.2 jx.out).mono ?_⟩
                rintro e w' ⟨rfl, rfl⟩
                gi_wp2_with (rw [iJ _ _ _ (fun c h => by cases h)]; go_simp; try go_bits)
                refine ⟨trivial, (callsIn_wide.2 gy.out).mono ?_⟩
                rintro e w' ⟨rfl, rfl⟩
                gi_wp2_with (rw [iJ _ _ _ (fun c h => by cases h)]; go_simp; try go_bits)
                exact HI.out.VY (B := w9.heap.size) (x := (nk, .slice xp (cu t aac nk).length xc)) gG.out (Up.refl W) Rh.out HZ.out
            · rw [hc0] at jx
              have Gi : Hid (fc aac.length (cu t aac nk) = dZ aac.length (cu t aac nk)) := by unfold Hid; rw [nH.out, hc0]; rfl
              have HYL : Hid ((dZ aac.length (cu t aac nk)).length <= 32) := by
                have h1 := rS (fun x => !(cu t aac nk).contains x) (aac.length : Int).toNat
                have h2 := oC.out.le
                unfold Hid dZ; rw [cZ] at h1 ⊢; omega
              clear hc0 nH
              generalize Ho : cM aac.length (dZ aac.length (cu t aac nk)) = se at *
              have FP := aa Ho
              clear Ho
              gi_wp2_with (rw [iJ _ _ _ (fun c h => by cases h)]; go_simp; try go_bits)
              refine ⟨trivial, (callsIn_wide.2 jx.out).mono ?_⟩
              rintro e w' ⟨rfl, rfl⟩
              gi_wp2_with (rw [iJ _ _ _ (fun c h => by cases h)]; go_simp; try go_bits)
              refine ⟨trivial, (callsIn_wide.2 IB.out).mono ?_⟩
              rintro e W2 ⟨aK, u, rfl, KU⟩
              obtain ⟨uq, uc, rfl, _⟩ := KU.form (n := (dZ aac.length (cu t aac nk)).length) (by simp)
              have HU2W := aa aK
              have HOU := aa KU
              have HYI : Hid (ah (fun b => ¬ L b) W2 (.slice uq (dZ aac.length (cu t aac nk)).length uc) (dZ aac.length (cu t aac nk))) := KU.ints.sub fun b hb _ hb' => by have := gG.out b hb'; omega
              have gy := aa (AL (fun b => ¬ L b) W2 _ (aac.length : Int) (dZ aac.length (cu t aac nk)) HYI.out (by have := HYL.out; omega))
              rw [FP.out] at gy
              have hnb := aK.cell uk.out
              clear aK KU jx IB
              by_cases h0 : se = 0
              · have wH : Hid (cM aac.length (dZ aac.length (cu t aac nk)) = 0) := by unfold Hid; rw [FP.out]; exact h0
                subst h0
                gi_wp2_with (rw [iJ _ _ _ (fun c h => by cases h)]; go_simp; try go_bits)
                refine ⟨trivial, (callsIn_wide.2 gy.out).mono ?_⟩
                rintro e w' ⟨rfl, rfl⟩
                have hIn := HI.out.grow gG.out HU2W.out
                obtain ⟨ov, ps, e1, e2, _, e4, _, _, _⟩ := hIn.ex
                obtain ⟨oq, oc, rfl, _⟩ := e2.form (n := ps.length) (by simp)
                have Lg := aa e1
                have HOW := aa e2
                have fN : Hid (ps.length <= 64) := aJ e4 HPX.out
                have zQ : W2.cell? ⟨w6.heap.size + 1, 0, none⟩ = some (.slice oq ps.length oc) := by simp [World.cell?, e1]
                have fA : Hid (w6.heap.size + 2 <= W2.heap.size) := hIn.sz
                obtain ⟨i0, jg, hz0, hz1, hz2⟩ := info_parts Tryz.Zv
                have Cr : W2.ownsRow (w6.heap.size + 2) 26 1 (.slice oq ps.length oc) ps.length (ps.map (·.2)) := by have h := e2; unfold ax at h; rwa [aG] at h
                have VT := aa Cr
                have dX := Up.alloc W2 (.cells #[.slice uq (dZ aac.length (cu t aac nk)).length uc] 26)
                have tH := aa dX
                clear e1 e2 e4 hIn Cr dX
                gi_wp2_with (first
                  | (gi_at_builtin; refine wpListIn_append_own_at _ rfl _ _ 23 rfl (w6.heap.size + 2) 26 i0 (.slice none 0 0) 1 24 Tryz.underlying23 jg hz0 hz1 hz2 rfl (by decide) _ _ _ rfl (VT.out.alloc _) ⟨W2.heap.size, 0, none⟩ 1 1 [.slice uq (dZ aac.length (cu t aac nk)).length uc] rfl rfl (cell_one_new _ _ _) (by simp [Value.oneCell']) (by have := fN.out; unfold maxLen; omega) (by have := fN.out; omega) (by have h1 := fA.out; have h2 := tH.out.size; omega) ?_
                     intro v3 w3 OJ hg3 hnil3 OL
                     have Mq : ax (w6.heap.size + 2) 26 w3 v3 (ps.map (·.2) ++ [.slice uq (dZ aac.length (cu t aac nk)).length uc]) := by unfold ax; rw [aZ, aG]; exact OJ
                     obtain ⟨vp3, vc3, rfl, _⟩ := Mq.form (n := ps.length + 1) (by simp)
                     have HNO3 := aa Mq
                     have OE : Hid (W2.grownBy w3 (Value.slice oq ps.length oc).ownBlock) := kO (lG tH.out _) hg3
                     have HBK3 : Hid (∀ g, (Value.slice vp3 (ps.length + 1) vc3).ownBlock = some g -> (Value.slice oq ps.length oc).ownBlock = some g \/ W2.heap.size <= g) := fun g Cs => by
                       rcases OL with e | e
                       · exact .inl (e ▸ Cs)
                       · rw [e] at Cs; injection Cs with Cs; rw [<- Cs]; exact .inr tH.out.size
                     have Ws : w3.heap[w6.heap.size + 1]? = some (Obj.cells #[.slice oq ps.length oc] 23 (0, 0)) := (OE.out.block _ (by have := fA.out; omega) fun e => by have := (av HOW.out e.symm).1; omega).trans Lg.out
                     have q3 : w3.cell? ⟨w6.heap.size + 1, 0, none⟩ = some (.slice oq ps.length oc) := by simp [World.cell?, Ws]
                     have q4 : ∀ o, w3.frozen? ⟨w6.heap.size + 1, o, none⟩ = false := fun o => by simp [World.frozen?, Ws]
                     clear OJ hg3 hnil3 OL Mq Ws)
                  | (rw [iJ _ _ _ (fun c h => by cases h)]; go_simp; try go_bits))
                exact HI.out.VZ (B := w9.heap.size) (x := (nk, .slice xp (cu t aac nk).length xc)) (by have := H9.out.2; omega) gG.out HU2W.out Rh.out (by rw [Gi.out]; exact wH.out) ⟨uq, uc, by rw [Gi.out]⟩ (by rw [Gi.out]; exact HYI.out) (fun g hg => by obtain ⟨c, h⟩ := ax.mC HOU.out hg; exact ⟨c, _, h⟩) Lg.out HOW.out HNO3.out OE.out HBK3.out
              · have d1 : (se == 0) = false := by simpa using h0
                have HZ : Hid (cM aac.length (fc aac.length (cu t aac nk)) ≠ 0) := by unfold Hid; rw [Gi.out, FP.out]; exact h0
                clear h0
                gi_wp2_with (rw [iJ _ _ _ (fun c h => by cases h)]; go_simp; try go_bits)
                refine ⟨trivial, (callsIn_wide.2 gy.out).mono ?_⟩
                rintro e w' ⟨rfl, rfl⟩
                gi_wp2_with (rw [iJ _ _ _ (fun c h => by cases h)]; go_simp; try go_bits)
                exact HI.out.VY (B := w9.heap.size) (x := (nk, .slice xp (cu t aac nk).length xc)) gG.out HU2W.out Rh.out HZ.out
          · rintro D xs L W hD hS hI hK
            have hHI := aa hI
            obtain ⟨ov, ps, e1, e2, e3, e4, e5, e6, e7⟩ := hI.ex
            have K5 := aa hI.up
            have hrw : uu (w6.heap.size + 2) W ov ps := ⟨e2, e5, fun p hp => ah.sub (e6 p hp) fun b hb _ => hb.1⟩
            have HTY : Hid (∀ p ∈ ps, ah (wF W) W p.2 p.1) := fun p hp => ah.sub (e6 p hp) fun b hb _ => hb.2.2.2
            have hxl : xs.length <= 64 := by
              have h1 := congrArg List.length hS
              rw [aG] at h1
              have h2 := Zz oC.out.te
              have h3 := (aF oC.out.te).2.1
              omega
            have hpl : ps.length <= 64 := aJ e4 hxl
            have hrl : ∀ p ∈ ps, p.1.length <= 32 := fun p hp => by
              have h1 : p.1 ∈ Jn t aac (xs.map (·.1)) := by rw [<- e3]; exact cm.2 ⟨p, hp, rfl⟩
              have h2 := (nJ.1 (of_decide_eq_true (fL.1 h1).2)).len
              have h3 := oC.out.le
              omega
            rw [hS] at e3
            obtain ⟨oq, oc, rfl, _⟩ := e2.form (n := ps.length) (by simp)
            have G0 := Ov (cf := cmpL) Dr (fun h => rA h) tD (fun h k => AG h k) 81 #[] (enters_of Tryz.func81 (by kernel_rfl) rfl) hrw (by omega) (fun p hp q hq W' pM => by
              have hk : ∀ s ∈ ps, ah Any W' s.2 s.1 := fun s hs => (ay.keep (hrw.row s hs) fun b hb hbl => pM.block b hbl fun e => hb e.symm).sub fun _ _ _ => trivial
              exact (cmpL_t Any Any W' p.2 q.2 p.1 q.1 (hk p hp) (hk q hq) (by have := hrl p hp; omega) (by have := hrl q hq; omega)).mono fun e w' ⟨he, hw⟩ => ⟨he, by rw [<- hw]; exact grow_same W'⟩)
            have pW := aa G0
            have OI := aa e3
            have fN : Hid (ps.length <= 64) := hpl
            have ug : Hid (∀ p ∈ ps, p.1.length <= 32) := hrl
            have zQ : W.cell? ⟨w6.heap.size + 1, 0, none⟩ = some (.slice oq ps.length oc) := by simp [World.cell?, e1]
            have Na := aa e1
            have qO := aa e2
            have HK := aa hK
            have HISZ := aa hI.sz
            clear e1 e2 e3 e4 e5 e6 e7 hrw G0 hpl hrl hxl hI hS hK
            gi_wp2_with fail
            refine ⟨trivial, (callsIn_wide.2 pW.out).mono ?_⟩
            rintro e Fa ⟨rfl, Cw, JB, D7, Wh, hr10, hm10⟩
            have HTY10 : Hid (∀ p ∈ JB, ah (wF Fa) Fa p.2 p.1) := fun p hp => Mh (HTY.out p (hm10 p hp)) Cw (V0 qO.out)
            have hD10 : Fa.heap[D]? = some (.deferred (some [])) := (Cw.block D (fR.1 HK.out).1 fun e => by
              obtain ⟨c, h⟩ := ax.mC qO.out e.symm
              rw [HK.out] at h; injection h with h; cases h).trans HK.out
            have hb10 : Fa.heap[w6.heap.size + 1]? = some (Obj.cells #[.slice oq ps.length oc] 23 (0, 0)) := (Cw.block _ (by have := HISZ.out; omega) fun e => by have := (av qO.out e.symm).1; omega).trans Na.out
            have zQ := (show Fa.cell? ⟨w6.heap.size + 1, 0, none⟩ = some (.slice oq ps.length oc) by simp [World.cell?, hb10])
            have Wt : Up w6 Fa := zA K5.out Cw K5.out.size fun k hk => by have := (av qO.out hk).1; omega
            have hl10 : JB.length = ps.length := by have := D7.length_eq; simpa using this
            have hrl10 : ∀ p ∈ JB, p.1.length <= 32 := fun p hp => by
              obtain ⟨q, hq, e⟩ := cm.1 (D7.mem_iff.1 (cm.2 ⟨p, hp, rfl⟩))
              rw [<- e]; exact ug.out q hq
            have wU := aa (Hl hr10 (by have := fN.out; omega) (fun p hp => by have := hrl10 p hp; omega))
            have Wk := aa hr10
            have HD10 := aa hD10
            have JC := aa Wt
            have GG : Hid (jX (JB.map (·.1)) = cW t aac) := by
              rw [OI.out] at D7
              exact of_sorted oC.out D7 Wh
            clear Cw D7 Wh hr10 hm10 hD10 hb10 Wt hl10 hrl10 pW
            gi_wp2_with fail
            refine ⟨trivial, (callsIn_wide.2 wU.out).mono ?_⟩
            rintro e jh ⟨D8, v11, Wl, rfl, D9, hr11, hm11⟩
            have HTY11 : Hid (∀ p ∈ Wl, ah (wF jh) jh p.2 p.1) := fun p hp => Mh (HTY10.out p (hm11 p hp)) D8 (V0 Wk.out.own)
            have hD11 : jh.heap[D]? = some (.deferred (some [])) := (D8.block D (fR.1 HD10.out).1 fun e => by
              obtain ⟨c, h⟩ := ax.mC Wk.out.own e.symm
              rw [HD10.out] at h; injection h with h; cases h).trans HD10.out
            have Wu : Up w6 jh := zA JC.out D8 JC.out.size fun k hk => by have := (av Wk.out.own hk).1; omega
            rw [GG.out] at D9
            have HP11 := aa D9
            have HR11 := aa hr11
            have HU11 := aa Wu
            have HD11 := aa hD11
            clear D8 D9 hr11 hm11 Wu hD11 wU zQ
            gi_wp2_with fail
            have hq : ∀ b, b ≠ D -> (jh.putObj D (.deferred none)).heap[b]? = jh.heap[b]? := fun b hb => nT hb
            have hu := rj.out.trans HU11.out
            have hws := rj.out.size
            have KW := H9.out.2
            obtain ⟨f, nE, hf2⟩ := HR11.out.rowsT HTY11.out
            rw [HP11.out] at nE hf2
            have hgd : jh.grownBy (jh.putObj D (.deferred none)) (some D) := grownBy_putObj' jh D _
            have hrd : ∀ r, some D = some r -> ∃ o, jh.heap[r]? = some o /\ o.isCells = false := fun r e => by injection e with e; subst e; exact ⟨_, HD11.out, rfl⟩
            refine ⟨by simp, .inl ⟨_, _, rfl, run_takeDeferred HD11.out, ?_⟩⟩
            exact ⟨.tuple #[v11, .int .i64 0], by simp [results, Tryz.results20, go_sem], ⟨hu.os, hu.tape, hu.output, by have h := hu.size; simpa using h, fun b hb => (hq b (by omega)).trans (hu.block b hb)⟩, v11, by rw [HZ.out], f, (ay.grown nE hgd hrd).sub (fun b hb _ => by have : w6.heap.size + 2 <= b := hb; omega), fun k hk => Mh (hf2 k hk) hgd fun r e ht => by
              obtain ⟨o, h1, h2⟩ := hrd r e
              obtain ⟨c, z, h3⟩ := ht
              rw [h3] at h1; injection h1 with h1; subst h1; cases h2⟩
        · rw [tF] at nM
          have HZ : Hid (jD t aac = 9) := by unfold Hid; rw [OI.out, if_pos (.inr tF)]
          clear tF
          gi_wp2_with fail
          refine ⟨trivial, (callsIn_wide.2 nM.out).mono ?_⟩
          rintro e w6 ⟨rfl, nq, rfl⟩
          gi_wp2_with fail
          exact ⟨.tuple #[.slice none 0 0, .int .i64 9], by simp [results, Tryz.results20, go_sem], JE HZ.out (by decide) (oV.out.trans (Up.drewN _ _))⟩
      · have HZ : Hid (jD t aac = 9) := by unfold Hid; rw [OI.out, if_pos (.inl jv)]
        have d1 : (((aD t.ns).length : Int) == (aac.length : Int)) = false := beq_eq_false_iff_ne.2 (by omega)
        have d2 : (((aD t.ns).length : Int) != (aac.length : Int)) = true := by rw [bne, d1]; rfl
        clear jv
        gi_wp2_with fail
        rename_i hkk
        refine ⟨trivial, hkk _ _ ?_⟩
        gi_wp2_with fail
        exact ⟨.tuple #[.slice none 0 0, .int .i64 9], by simp [results, Tryz.results20, go_sem], JE HZ.out (by decide) oV.out⟩
theorem PJ (S:Nat->Prop) (w:World) (v vs:Value) (t:az) (aac:List ByteArray) (hT:aI S w v t) (hV:au S w vs aac) (hp:t.ps.length<=1000000) (hn:t.ns.length<=1000000) (hz:∀k,(gs t.ns k).size<=70000) (hnl:aac.length<=1000000) :
  Calls Tryz.prog 20 #[v,vs] w (OH w t aac):=(Mp S w v vs t aac hT hV hp hn hz hnl).mono fun _ _ ⟨h1,u,h2,f,h3,h4⟩=>⟨h1,u,h2,f,h3.sub fun _ _ _=>trivial,fun k hk=>(h4 k hk).sub fun _ _ _=>trivial⟩
end
section
open Go.RowKit Go.Deep
theorem vQ (t:az) (aac:List ByteArray) (k:Nat):(gl (cW t aac) k).length<=64:=by
 by_cases hk:k<(cW t aac).length
 ·by_cases he:jD t aac=0
  ·have ho:=kV.1 he
   have:=((of_bld ho).Ct _ (oM hk)).len;have:=ho.le;omega
  ·unfold cW at hk
   rw [if_neg he] at hk;exact absurd hk (bG _)
 ·simp [gl,show (cW t aac).length<=k by omega]
theorem Wv {aac:List ByteArray} {l:List (List Int)} (h:jL aac l=0):jD (iz aac l) aac=0/\cW (iz aac l) aac=oH l/\aH (iz aac l)=0:=by
 have hk:=Dy.1 h;have hr:iz aac l=Jq aac l:=by unfold iz;rw [if_pos h]
 rw [hr];by_cases h3:3<=aac.length
 ·obtain ⟨a,b⟩:=V3 hk (R6 hk h3)
  exact ⟨kV.2 a,b,a.te⟩
 ·have hf:=hk.few (by omega)
  have hsm:3+(aP l).length+(aac.length - 1)<=64:=by rw [hf];simp [aP,Gg,jX];omega
  obtain ⟨a,b⟩:=V3 hk hsm;exact ⟨kV.2 a,b,a.te⟩
end
end Go.Proofs.YthgabkgmkolobaaGreat
