/- The contract of split.Of. The tree of .. -/
import Derived.Test.YthgabkgmkolobaaGreatQ34
set_option maxRecDepth 100000
set_option maxHeartbeats 4000000
namespace Go.Proofs.YthgabkgmkolobaaGreat
section
open Go.RowKit Go.Deep Go.Shelf
def CG (w:World) (t:ax) (amd:List ByteArray) (e:Ending) (w':World):Prop:=Up w w'/\∃u,e=.returned (.tuple #[u,.int .i64 (cF t amd)])/\aT Any w' u (dP t amd)
def LC (w:World) (t:ax) (amd:List ByteArray) (e:Ending) (w':World):Prop:=Up w w'/\∃u,e=.returned (.tuple #[u,.int .i64 (cF t amd)])/\∃f,aq (fun b=>w.heap.size<=b) w' u (dP t amd).length f/\∀k,k<(dP t amd).length->af (uL w') w' (f k) (gl (dP t amd) k)
theorem FM {w w':World} {t:ax} {amd:List ByteArray} {c:Int} (hE:cF t amd=c) (hc:c≠0) (hu:Up w w'):LC w t amd (.returned (.tuple #[.slice none 0 0,.int .i64 c])) w':=by
 refine ⟨hu,.slice none 0 0,by rw [hE],?_⟩;have h0:dP t amd=[]:=by unfold dP;rw [if_neg (by rw [hE];exact hc)]
 rw [h0];exact ⟨fun _=>undef,⟨none,0,rfl,ah _,.inl rfl⟩,fun k hk=>absurd hk (aZ _)⟩
theorem acH (S:Nat->Prop) (w:World) (v vs:Value) (t:ax) (amd:List ByteArray) (hT:aG S w v t) (hV:aj S w vs amd) (hp:t.ps.length<=1000000) (hn:t.ns.length<=1000000) (hz:∀k,(gs t.ns k).size<=70000) (hnl:amd.length<=1000000) :
 Calls Tryz.prog 20 #[v,vs] w (LC w t amd):=by
 have HE:Hid (cF t amd=if aA t≠0 then 1 else if 32<amd.length then 4 else if zy amd then 7 else if (ay t.ns).length≠amd.length\/kN t amd=true then 9 else 0):=rfl;obtain ⟨P,N,rfl,hP,hN⟩:=hT;obtain ⟨pp,pc,rfl,-,-⟩:=aq.open hP;obtain ⟨np,nc,rfl,-,-⟩:=aq.open hN;obtain ⟨mp,mc,rfl,-,-⟩:=aq.open hV;have hP:af S w (.slice pp t.ps.length pc) t.ps:=hP;have hN:aj S w (.slice np t.ns.length nc) t.ns:=hN;have HV:Hid (aj S w (.slice mp amd.length mc) amd):=hV;have hu:=Up.alloc w (.cells #[.slice pp t.ps.length pc,.slice np t.ns.length nc] 39);have mz:=aa (iq w (.slice pp t.ps.length pc) (.slice np t.ns.length nc) 39);have mO:=aa (jg w (.slice pp t.ps.length pc) (.slice np t.ns.length nc) 39);have HU:=aa hu;have HP:=aa hP;have HN:=aa hN;have A5:Hid (∀W,Up w W->Calls Tryz.prog 30 #[.agg #[.slice pp t.ps.length pc,.slice np t.ns.length nc]] W (OV W t)):=fun W hW=>CY S W _ t (aG.keep ⟨_,_,rfl,hP,hN⟩ (hW.kept _)) hp hn hz;clear hu hP hN hV;refine (callsIn_wide (n:=9)).1 ?_;refine callsIn_of_wp_marks Tryz.func20 rfl trivial ?_;simp only [Tryz.ntmps20,dY,aW,dw,Nat.reduceAdd,Nat.reduceSub,iu,iw,dX,s9,di,cm];gi_wp2_with fail;generalize w.alloc (.cells #[.slice pp t.ps.length pc,.slice np t.ns.length nc] 39)=w1 at *;refine ⟨trivial,(callsIn_wide.2 (A5.out w1 HU.out)).mono ?_⟩;rintro e w2 ⟨aI,hcc⟩;have aI:Up w1 w2:=aI;have b7:=aa (HU.out.trans aI);have WR:=aa (aI.cell mz.out);have WS:=aa (aI.cell mO.out);clear aI A5 HU mz mO;rcases hcc with ⟨qT,rfl⟩ | ⟨hok,lv,rfl,hlv⟩
 ·have HZ:Hid (cF t amd=1):=by unfold Hid;rw [HE.out,if_pos qT]
  have d1:(aA t==0)=false:=by simpa using qT
  have d2:(aA t != 0)=true:=by simpa using qT
  clear qT;gi_wp2_with fail;exact ⟨.tuple #[.slice none 0 0,.int .i64 1],by simp [results,Tryz.results20,go_sem],FM HZ.out (by decide) b7.out⟩
 obtain ⟨lp,lc,rfl,-,-⟩:=aq.open hlv;have Uq:Hid (af Any w2 (.slice lp (ay t.ns).length lc) (ay t.ns)):=af.sub hlv fun _ _ _=>trivial;have pW:=aa hok;clear hlv;by_cases h32:32<amd.length
 ·have HZ:Hid (cF t amd=4):=by unfold Hid;rw [HE.out,if_neg (fun e=>e hok),if_pos h32]
  clear hok;gi_wp2_with fail;exact ⟨.tuple #[.slice none 0 0,.int .i64 4],by simp [results,Tryz.results20,go_sem],FM HZ.out (by decide) b7.out⟩
 have xD:Hid (cF t amd=if zy amd then 7 else if (ay t.ns).length≠amd.length\/kN t amd=true then 9 else 0):=by unfold Hid;rw [HE.out,if_neg (fun e=>e hok),if_neg h32]
 have n32:(amd.length:Int)<=32:=by omega
 have hmm:=fun W=>run_makeMap (P:=Tryz.prog) 108 W;clear hok HE;gi_wp2_with fail;have h3m:Up w2 ((w2.alloc (.map #[] 0)).alloc (.cells #[.map (some w2.heap.size)] 108)):=(Up.alloc _ _).trans (Up.alloc _ _);have h3s:SMap ((w2.alloc (.map #[] 0)).alloc (.cells #[.map (some w2.heap.size)] 108)) w2.heap.size (FL amd 0):=(SMap.made w2).same (bH (Up.alloc (w2.alloc (.map #[] 0)) _) _ (by simp));have h3b:((w2.alloc (.map #[] 0)).alloc (.cells #[.map (some w2.heap.size)] 108)).cell? ⟨w2.heap.size+1,0,none⟩=some (.map (some w2.heap.size)):=by
  have h:=mA (w2.alloc (.map #[] 0)) (.map (some w2.heap.size)) 108
  rwa [aQ] at h
 have H3:=aa (⟨h3m,h3s,h3b⟩:_/\_/\_);have d32:decide ((32:Int)<(amd.length:Int))=false:=decide_eq_false (by omega);try simp only [d32]
 clear h3m h3s h3b hmm d32;generalize (w2.alloc (.map #[] 0)).alloc (.cells #[.map (some w2.heap.size)] 108)=w3 at *;have UW:=aa (aj.keep HV.out (b7.out.kept _));have ad0:Hid (∀k,cW amd k=BN amd k (gs amd k)):=fun k=>rfl
 gi_loopw [10,29] (fun _ i wr=>∃k:Nat,k<=amd.length/\i=.int .i64 k/\Hid (SMap wr w2.heap.size (FL amd k))/\Hid (Up w2 wr)/\Hid (wr.cell? ⟨w2.heap.size+1,0,none⟩=some (.map (some w2.heap.size)))/\Hid (∀j,j<k->cW amd j=false)) (fun _ i _=>amd.length - (intOf i).toNat)
 case atStart=>exact ⟨0,aF _,rfl,H3.out.2.1,H3.out.1,H3.out.2.2,fun j hj=>absurd hj (aZ _)⟩
 case round =>
  obtain ⟨k,hk,rfl,hM,cz,hB,hno⟩:=hrel;obtain ⟨wo,rfl⟩:=eM wr;have b8:=hB.out;by_cases hlt:k<amd.length
  ·obtain ⟨b,off,rfl,hcell⟩:=cH (aj.keep UW.out (cz.out.kept _)) hlt
   (have i1:(0:Int)<=(k:Int):=by omega);(have i2:(k:Int)<(amd.length:Int):=by omega);(have i3:(k:Int)<64:=by omega);have HMS:Hid (FL amd (k+1)=vC (FL amd k) (gs amd k) (.bool true)):=rfl;have Ac:=aa (ad0.out k);(have hlk:(Instr.lookup 108 (.map (some w2.heap.size)) (.string (gs amd k)) false).run Tryz.prog wo=.ok (.bool (BN amd k (gs amd k))) wo:=by have h:=Fa (P:=Tryz.prog) Tryz.underlying108 Tryz.underlying9 (NK _) hM.out (gs amd k);rw [IW] at h;exact h);generalize gs amd k=s at *;generalize BN amd k s=q at *;cases q
   ·obtain ⟨w5,hrun,ZF,hs5,xx,ZG,RQ,qW⟩:=Qx (P:=Tryz.prog) Tryz.underlying108 Tryz.underlying9 hM.out (RP amd k) s (.bool true)
    (have HM5:Hid (SMap w5 w2.heap.size (FL amd (k+1))):=by unfold Hid;rw [HMS.out];exact ZF);have kK:Hid (Up w2 w5):=⟨xx.trans cz.out.os,ZG.trans cz.out.tape,RQ.trans cz.out.output,by rw [hs5];exact cz.out.size,fun b hb=>(qW b (by omega)).trans (cz.out.block b hb)⟩;have O8:Hid (w5.cell? ⟨w2.heap.size+1,0,none⟩=some (.map (some w2.heap.size))):=(cU (a:=⟨w2.heap.size+1,0,none⟩) (qW (w2.heap.size+1) (by omega))).trans hB.out;have u7:Hid (∀j,j<k+1->cW amd j=false):=fun j hj=>by
     by_cases e:j=k
     ·rw [e];exact Ac.out
     ·exact hno.out j (by omega)
    clear ZF hs5 xx ZG RQ qW hM cz hB hno;gi_wp2
    go_roundw
    case rel=>exact ⟨k+1,by omega,by go_num,HM5,kK,O8,u7⟩
    case measure=>simp [intOf];omega
   ·have HZ:Hid (cF t amd=7):=by
     unfold Hid
     rw [xD.out,show zy amd=true from dx.2 ⟨k,bu.2 hlt,Ac.out⟩,if_pos rfl]
    gi_wp2_with fail
    exact ⟨.tuple #[.slice none 0 0,.int .i64 7],by simp [results,Tryz.results20,go_sem],FM HZ.out (by decide) (b7.out.trans cz.out)⟩
  ·obtain rfl:k=amd.length:=by omega
   (have Kv:Hid (cF t amd=if (ay t.ns).length≠amd.length\/kN t amd=true then 9 else 0):=by unfold Hid;rw [xD.out,show zy amd=false from any_none hno.out,if_neg (by decide)]);have lu:=aa (b7.out.trans cz.out);clear hlt hk xD hno ad0 UW H3;by_cases oL:(ay t.ns).length=amd.length
   ·have d1:(((ay t.ns).length:Int)==(amd.length:Int))=true:=by rw [oL];simp
    (have d2:(((ay t.ns).length:Int) != (amd.length:Int))=false:=by rw [bne,d1];rfl);have aj3:=aa oL;have HIo:Hid (af Any wo (.slice lp (ay t.ns).length lc) (ay t.ns)):=af.keep Uq.out (cz.out.kept _);have hb1:=cz.out.cell WS.out
    have UX:=aa (WO 84 #[.pointer (some ⟨w2.heap.size+1,0,none⟩),.pointer (some ⟨w.heap.size,0,none⟩)] (enters_of Tryz.func84 (by kernel_rfl) rfl) Any wo _ (ay t.ns).length (fun k=>.int .i64 (gi (ay t.ns) k)) (fun j=>decide (dD amd (gs t.ns (gi (ay t.ns) j).toNat)<0)) HIo.out (by have:=sK t.ns;omega) (fun k hk=>by
     obtain ⟨q,h1,h2,_⟩:=vg hk;simp only [h1,fc]
     exact aiP wo S (w2.heap.size+1) w.heap.size w2.heap.size np nc t.ns amd q b8 hM.out hb1 (aj.keep HN.out (lu.out.kept _)) h2))
    have HOB:Hid (((List.range (ay t.ns).length).any fun j=>decide (dD amd (gs t.ns (gi (ay t.ns) j).toNat)<0))=kN t amd):=rfl;rw [HOB.out] at UX;have ahx:=aa (cz.out.cell WR.out);have ahy:=aa hb1;clear oL hb1 hM cz hB WR WS Uq HOB b8;cases rB:kN t amd
    ·rw [rB] at UX Kv
     (have HZ:Hid (cF t amd=0):=by unfold Hid;rw [Kv.out,if_neg];exact fun e=>e.elim (fun e=>e aj3.out) (fun e=>by cases e));have jk:=aa (oD.1 HZ.out);clear rB Kv;gi_wp2_with fail;refine ⟨trivial,(callsIn_wide.2 UX.out).mono ?_⟩;rintro e w6 ⟨rfl,nq,hw6⟩;(have ir:Up wo w6:=by rw [hw6];exact Up.drewN wo nq);have uY:=aa (lu.out.trans ir);have b0:=ir.cell ahx.out;have b1:=ir.cell ahy.out;have aj4:=aa b0;have aj5:=aa b1;clear hw6 ir UX ahx ahy lu;obtain ⟨t1,t2,t3⟩:=rG w6 (.int .i64 (amd.length:Int)) (.slice none 0 0) 3 23;have hn7:=blk_alloc_new (w6.alloc (.cells #[.int .i64 (amd.length:Int)] 3)) (.cells #[.slice none 0 0] 23);have hn6:=(bH (Up.alloc (w6.alloc (.cells #[.int .i64 (amd.length:Int)] 3)) (.cells #[.slice none 0 0] 23)) w6.heap.size (by simp)).trans (blk_alloc_new w6 (.cells #[.int .i64 (amd.length:Int)] 3));(have hs7:((w6.alloc (.cells #[.int .i64 (amd.length:Int)] 3)).alloc (.cells #[.slice none 0 0] 23)).heap.size=w6.heap.size+2:=by simp);rw [aQ] at hn7;have b0:=t1.cell b0;have b1:=t1.cell b1;have H7:=aa (⟨t1,hn6,hn7,hs7⟩:_/\_/\_/\_);clear t1 t2 t3 hn6 hn7 hs7 aj4 aj5;gi_wp2_with fail;generalize (w6.alloc (.cells #[.int .i64 (amd.length:Int)] 3)).alloc (.cells #[.slice none 0 0] 23)=w7 at *;refine ⟨trivial,(callsIn_wide.2 (abY w7 _ _ _ _ _)).mono ?_⟩;rintro e w9 ⟨rfl,AU⟩;(have qK:Up w7 w9:=by rw [AU];exact (Up.alloc _ _).trans (Up.alloc _ _));(have Kh:w9.heap.size=w7.heap.size+2:=by rw [AU];simp);have ht9:=(Up.alloc (w7.alloc (.cells #[.slice pp t.ps.length pc,.slice np t.ns.length nc] 39)) (.cells #[.slice mp amd.length mc] 22));have hc0:=ht9.cell (iq w7 (.slice pp t.ps.length pc) (.slice np t.ns.length nc) 39);have hc1:=ht9.cell (jg w7 (.slice pp t.ps.length pc) (.slice np t.ns.length nc) 39);have hc2:=mA (w7.alloc (.cells #[.slice pp t.ps.length pc,.slice np t.ns.length nc] 39)) (.slice mp amd.length mc) 22;rw [aQ] at hc2;rw [<- AU] at hc0 hc1 hc2;have hP6:af Any w6 (.slice pp t.ps.length pc) t.ps:=af.sub (af.keep HP.out (uY.out.kept _)) fun _ _ _=>trivial;have hN6:aj Any w6 (.slice np t.ns.length nc) t.ns:=aj.sub (aj.keep HN.out (uY.out.kept _)) fun _ _ _=>trivial;have hV6:aj Any w6 (.slice mp amd.length mc) amd:=aj.sub (aj.keep HV.out (uY.out.kept _)) fun _ _ _=>trivial;have h67:=H7.out.2.2.2;have FD:Up w6 w9:=H7.out.1.trans qK;have hI0:qJ w6 t amd [] (fun b=>b=w7.heap.size\/b=w7.heap.size+1) w9:=⟨FD,by omega,fun b hb=>by omega,⟨by omega,by omega⟩,(bH qK _ (by omega)).trans H7.out.2.1,.slice none 0 0,[],(bH qK _ (by omega)).trans H7.out.2.2.1,au.nil _ _ _,rfl,ah _,(fun p hp=>by cases hp),(fun p hp=>by cases hp),fun g hg=>by cases hg⟩;have hseq:=Wq (w0:=w6) (w9:=w9) (Bt:=w7.heap.size) (Bn:=w7.heap.size+1) 8 jk.out (by omega) (by omega) hc0 hc1 hc2 hP6 hN6 hV6;have H9:=aa (⟨FD,Kh,h67⟩:_/\_/\_)
     clear AU qK ht9 hc0 hc1 hc2 hP6 hN6 hV6 b0 b1 H7 h67 Kh FD;gi_wp2_with fail;apply GV (F:=Fence.wide) (n:=9) (P:=Tryz.prog) (ps:=#[54]) (w:=w9) rfl (by omega) (gf:=132) (lb:=#[.pointer (some ⟨w7.heap.size,0,none⟩),.pointer (some ⟨w7.heap.size+1,0,none⟩)]) rfl trivial (enters_of Tryz.func132 (by kernel_rfl) rfl)
      hseq (fun b hb=>by have:=H9.out.2.1;omega) (fun x L W b h1 h2=>ag3 x L W b h1 h2) H9.out.1 (fun _=>rfl) (fun x L=>aeP x L)
      (qJ w6 t amd) qJ.ab (qJ.own (by have:=H9.out.2;omega)) hI0
     ·intro l x W K hK
      gi_wp2_with (rw [gF _ _ _ (fun c h=>by cases h)];go_simp;try go_bits);exact hK
     ·rintro l pre ⟨nk,v⟩ L W hI hG iE J4 hlen
      obtain ⟨hx1,hx2,xp,xc,Ml,ZH,hxt⟩:=hG;dsimp only at hx1 hx2 Ml ZH hxt;subst Ml;have HI:=aa hI;have G8:Hid (af (fun b=>¬L b) W (.slice xp (bD t amd nk).length xc) (bD t amd nk)):=ZH;have M9:=aa hxt;have dG:Hid (∀b,L b->b<W.heap.size):=fun b hb=>(J4 b hb).2;have acI:Hid (eD (bD t amd nk)):=⟨vG _ _ _,fun x hx=>by have h1:=l7.1 hx;have h2:=jk.out.le;omega⟩;have Nh:Hid ((bD t amd nk).length<=32):=aB (nR _ _) jk.out.le;(have HPX:Hid (pre.length<=64):=by have:=(aH jk.out.te).2.1;unfold Hid;omega);have kU:Hid (cu amd.length (bD t amd nk)=if (bD t amd nk).contains 0 then bG amd.length (bD t amd nk) else (bD t amd nk)):=rfl;(have hnb:W.cell? ⟨w6.heap.size,0,none⟩=some (.int .i64 (amd.length:Int)):=by simp [World.cell?,hI.nb]);have sU:=aa hnb;(have lV:Hid (Calls Tryz.prog 14 #[.slice xp (bD t amd nk).length xc,.int .i64 0] W fun e w'=>e=.returned (.bool ((bD t amd nk).contains 0))/\W=w'):=by have h:=Cs (fun b=>¬L b) W _ (bD t amd nk) 0 ZH (by have:=Nh.out;omega);rw [Fq] at h;exact h);have Aw:Hid (Calls Tryz.prog 86 #[.int .i64 (amd.length:Int),.slice xp (bD t amd nk).length xc] W fun e w'=>Up W w'/\∃u,e=.returned (.tuple #[u,.int .i64 0])/\au W.heap.size 3 w' u ((bG amd.length (bD t amd nk)).map (Value.int .i64))):=Rv (fun b=>¬L b) W _ amd.length (bD t amd nk) (by have:=jk.out.le;omega) ZH acI.out (fun x hx=>(l7.1 hx).2.1) (by have:=Nh.out;omega);clear hI ZH hxt iE J4 hlen hx1 hx2;cases hc0:(bD t amd nk).contains 0
      ·rw [hc0] at lV
       (have DC:Hid (cu amd.length (bD t amd nk)=(bD t amd nk)):=by unfold Hid;rw [kU.out,hc0];rfl);have gw:=aa (DA (fun b=>¬L b) W _ (amd.length:Int) (bD t amd nk) G8.out (by have:=Nh.out;omega));clear hc0 Aw kU;generalize UK:aV amd.length (bD t amd nk)=se at *;have ru:=aa UK;clear UK;by_cases h0:se=0
       ·have nI:Hid (aV amd.length (bD t amd nk)=0):=by unfold Hid;rw [ru.out];exact h0
        subst h0;gi_wp2_with (rw [gF _ _ _ (fun c h=>by cases h)];go_simp;try go_bits);refine ⟨trivial,(callsIn_wide.2 lV.out).mono ?_⟩;rintro e w' ⟨rfl,rfl⟩;gi_wp2_with (rw [gF _ _ _ (fun c h=>by cases h)];go_simp;try go_bits);refine ⟨trivial,(callsIn_wide.2 gw.out).mono ?_⟩;rintro e w' ⟨rfl,rfl⟩;have hIn:=HI.out;obtain ⟨ov,ps,e1,e2,_,e4,_,_,_⟩:=hIn.ex;obtain ⟨oq,oc,rfl,_⟩:=e2.form (n:=ps.length) (by simp);have NH:=aa e1;have HOW:=aa e2;have eC:Hid (ps.length<=64):=aB e4 HPX.out;(have DT:W.cell? ⟨w6.heap.size+1,0,none⟩=some (.slice oq ps.length oc):=by simp [World.cell?,e1]);have dM:Hid (w6.heap.size+2<=W.heap.size):=hIn.sz;obtain ⟨i0,gO,hz0,hz1,hz2⟩:=info_parts Tryz.tP;(have zD:W.ownsRow (w6.heap.size+2) 26 1 (.slice oq ps.length oc) ps.length (ps.map (·.2)):=by have h:=e2;unfold au at h;rwa [aD] at h);have Q7:=aa zD;have nY:=Up.alloc W (.cells #[.slice xp (bD t amd nk).length xc] 26);have nX:=aa nY;clear e1 e2 e4 hIn zD nY
        gi_wp2_with (first
         | (
          gi_at_builtin;refine wpListIn_append_own_at _ rfl _ _ 23 rfl (w6.heap.size+2) 26 i0 (.slice none 0 0) 1 24 Tryz.underlying23 gO hz0 hz1 hz2 rfl (by decide) _ _ _ rfl (Q7.out.alloc _) ⟨W.heap.size,0,none⟩ 1 1 [.slice xp (bD t amd nk).length xc] rfl rfl (cell_one_new _ _ _) (by simp [Value.oneCell']) (by have:=eC.out;unfold maxLen;omega) (by have:=eC.out;omega) (by have h1:=dM.out;have h2:=nX.out.size;omega) ?_
          intro v3 w3 yh hg3 hnil3 Kw;(have IX:au (w6.heap.size+2) 26 w3 v3 (ps.map (·.2)++[.slice xp (bD t amd nk).length xc]):=by unfold au;rw [bg,aD];exact yh);obtain ⟨vp3,vc3,rfl,_⟩:=IX.form (n:=ps.length+1) (by simp);have acJ:=aa IX;have oH:Hid (W.grownBy w3 (Value.slice oq ps.length oc).ownBlock):=jw (jZ nX.out _) hg3;have acK:Hid (∀g,(Value.slice vp3 (ps.length+1) vc3).ownBlock=some g->(Value.slice oq ps.length oc).ownBlock=some g\/W.heap.size<=g):=fun g uW=>by
           rcases Kw with e | e
           ·exact .inl (e ▸ uW)
           ·rw [e] at uW;injection uW with uW;rw [<- uW];exact .inr nX.out.size
          have G9:w3.heap[w6.heap.size+1]? = some (Obj.cells #[.slice oq ps.length oc] 23 (0,0)):=(oH.out.block _ (by have:=dM.out;omega) fun e=>by have:=(av HOW.out e.symm).1;omega).trans NH.out;(have q3:w3.cell? ⟨w6.heap.size+1,0,none⟩=some (.slice oq ps.length oc):=by simp [World.cell?,G9]);have q4:∀o,w3.frozen? ⟨w6.heap.size+1,o,none⟩=false:=fun o=>by simp [World.frozen?,G9]
          clear yh hg3 hnil3 Kw IX G9)
         | (rw [gF _ _ _ (fun c h=>by cases h)];go_simp;try go_bits))
        exact HI.out.Rf (B:=w9.heap.size) (x:=(nk,.slice xp (bD t amd nk).length xc)) (by have:=H9.out.2;omega) dG.out (Up.refl W) M9.out (by rw [DC.out];exact nI.out) ⟨xp,xc,by rw [DC.out]⟩ (by rw [DC.out];exact G8.out) M9.out NH.out HOW.out acJ.out oH.out acK.out
       ·have d1:(se==0)=false:=by simpa using h0
        (have HZ:Hid (aV amd.length (cu amd.length (bD t amd nk))≠0):=by unfold Hid;rw [DC.out,ru.out];exact h0);clear h0;gi_wp2_with (rw [gF _ _ _ (fun c h=>by cases h)];go_simp;try go_bits);refine ⟨trivial,(callsIn_wide.2 lV.out).mono ?_⟩;rintro e w' ⟨rfl,rfl⟩;gi_wp2_with (rw [gF _ _ _ (fun c h=>by cases h)];go_simp;try go_bits);refine ⟨trivial,(callsIn_wide.2 gw.out).mono ?_⟩;rintro e w' ⟨rfl,rfl⟩;gi_wp2_with (rw [gF _ _ _ (fun c h=>by cases h)];go_simp;try go_bits);exact HI.out.Re (B:=w9.heap.size) (x:=(nk,.slice xp (bD t amd nk).length xc)) dG.out (Up.refl W) M9.out HZ.out
      ·rw [hc0] at lV
       (have DC:Hid (cu amd.length (bD t amd nk)=bG amd.length (bD t amd nk)):=by unfold Hid;rw [kU.out,hc0];rfl);(have HYL:Hid ((bG amd.length (bD t amd nk)).length<=32):=by have h1:=nR (fun x=>!(bD t amd nk).contains x) (amd.length:Int).toNat;have h2:=jk.out.le;unfold Hid bG;rw [fc] at h1 ⊢;omega);clear hc0 kU;generalize UK:aV amd.length (bG amd.length (bD t amd nk))=se at *;have ru:=aa UK;clear UK;gi_wp2_with (rw [gF _ _ _ (fun c h=>by cases h)];go_simp;try go_bits);refine ⟨trivial,(callsIn_wide.2 lV.out).mono ?_⟩;rintro e w' ⟨rfl,rfl⟩;gi_wp2_with (rw [gF _ _ _ (fun c h=>by cases h)];go_simp;try go_bits);refine ⟨trivial,(callsIn_wide.2 Aw.out).mono ?_⟩;rintro e W2 ⟨aI,u,rfl,GX⟩;obtain ⟨uq,uc,rfl,_⟩:=GX.form (n:=(bG amd.length (bD t amd nk)).length) (by simp);have acL:=aa aI;have HOU:=aa GX;(have HYI:Hid (af (fun b=>¬L b) W2 (.slice uq (bG amd.length (bD t amd nk)).length uc) (bG amd.length (bD t amd nk))):=GX.ints.sub fun b hb _ hb'=>by have:=dG.out b hb';omega);have gw:=aa (DA (fun b=>¬L b) W2 _ (amd.length:Int) (bG amd.length (bD t amd nk)) HYI.out (by have:=HYL.out;omega));rw [ru.out] at gw;have hnb:=aI.cell sU.out;clear aI GX lV Aw;by_cases h0:se=0
       ·have nI:Hid (aV amd.length (bG amd.length (bD t amd nk))=0):=by unfold Hid;rw [ru.out];exact h0
        subst h0;gi_wp2_with (rw [gF _ _ _ (fun c h=>by cases h)];go_simp;try go_bits);refine ⟨trivial,(callsIn_wide.2 gw.out).mono ?_⟩;rintro e w' ⟨rfl,rfl⟩;have hIn:=HI.out.grow dG.out acL.out;obtain ⟨ov,ps,e1,e2,_,e4,_,_,_⟩:=hIn.ex;obtain ⟨oq,oc,rfl,_⟩:=e2.form (n:=ps.length) (by simp);have NH:=aa e1;have HOW:=aa e2;have eC:Hid (ps.length<=64):=aB e4 HPX.out;(have DT:W2.cell? ⟨w6.heap.size+1,0,none⟩=some (.slice oq ps.length oc):=by simp [World.cell?,e1]);have dM:Hid (w6.heap.size+2<=W2.heap.size):=hIn.sz;obtain ⟨i0,gO,hz0,hz1,hz2⟩:=info_parts Tryz.tP;(have zD:W2.ownsRow (w6.heap.size+2) 26 1 (.slice oq ps.length oc) ps.length (ps.map (·.2)):=by have h:=e2;unfold au at h;rwa [aD] at h);have Q7:=aa zD;have nY:=Up.alloc W2 (.cells #[.slice uq (bG amd.length (bD t amd nk)).length uc] 26);have nX:=aa nY;clear e1 e2 e4 hIn zD nY
        gi_wp2_with (first
         | (
          gi_at_builtin;refine wpListIn_append_own_at _ rfl _ _ 23 rfl (w6.heap.size+2) 26 i0 (.slice none 0 0) 1 24 Tryz.underlying23 gO hz0 hz1 hz2 rfl (by decide) _ _ _ rfl (Q7.out.alloc _) ⟨W2.heap.size,0,none⟩ 1 1 [.slice uq (bG amd.length (bD t amd nk)).length uc] rfl rfl (cell_one_new _ _ _) (by simp [Value.oneCell']) (by have:=eC.out;unfold maxLen;omega) (by have:=eC.out;omega) (by have h1:=dM.out;have h2:=nX.out.size;omega) ?_
          intro v3 w3 yh hg3 hnil3 Kw;(have IX:au (w6.heap.size+2) 26 w3 v3 (ps.map (·.2)++[.slice uq (bG amd.length (bD t amd nk)).length uc]):=by unfold au;rw [bg,aD];exact yh);obtain ⟨vp3,vc3,rfl,_⟩:=IX.form (n:=ps.length+1) (by simp);have acJ:=aa IX;have oH:Hid (W2.grownBy w3 (Value.slice oq ps.length oc).ownBlock):=jw (jZ nX.out _) hg3;have acK:Hid (∀g,(Value.slice vp3 (ps.length+1) vc3).ownBlock=some g->(Value.slice oq ps.length oc).ownBlock=some g\/W2.heap.size<=g):=fun g uW=>by
           rcases Kw with e | e
           ·exact .inl (e ▸ uW)
           ·rw [e] at uW;injection uW with uW;rw [<- uW];exact .inr nX.out.size
          have G9:w3.heap[w6.heap.size+1]? = some (Obj.cells #[.slice oq ps.length oc] 23 (0,0)):=(oH.out.block _ (by have:=dM.out;omega) fun e=>by have:=(av HOW.out e.symm).1;omega).trans NH.out;(have q3:w3.cell? ⟨w6.heap.size+1,0,none⟩=some (.slice oq ps.length oc):=by simp [World.cell?,G9]);have q4:∀o,w3.frozen? ⟨w6.heap.size+1,o,none⟩=false:=fun o=>by simp [World.frozen?,G9]
          clear yh hg3 hnil3 Kw IX G9)
         | (rw [gF _ _ _ (fun c h=>by cases h)];go_simp;try go_bits))
        exact HI.out.Rf (B:=w9.heap.size) (x:=(nk,.slice xp (bD t amd nk).length xc)) (by have:=H9.out.2;omega) dG.out acL.out M9.out (by rw [DC.out];exact nI.out) ⟨uq,uc,by rw [DC.out]⟩ (by rw [DC.out];exact HYI.out) (fun g hg=>by obtain ⟨c,h⟩:=au.kL HOU.out hg;exact ⟨c,_,h⟩) NH.out HOW.out acJ.out oH.out acK.out
       ·have d1:(se==0)=false:=by simpa using h0
        (have HZ:Hid (aV amd.length (cu amd.length (bD t amd nk))≠0):=by unfold Hid;rw [DC.out,ru.out];exact h0);clear h0;gi_wp2_with (rw [gF _ _ _ (fun c h=>by cases h)];go_simp;try go_bits);refine ⟨trivial,(callsIn_wide.2 gw.out).mono ?_⟩;rintro e w' ⟨rfl,rfl⟩;gi_wp2_with (rw [gF _ _ _ (fun c h=>by cases h)];go_simp;try go_bits);exact HI.out.Re (B:=w9.heap.size) (x:=(nk,.slice xp (bD t amd nk).length xc)) dG.out acL.out M9.out HZ.out
     ·rintro D xs L W hD hS hI hK
      have hHI:=aa hI;obtain ⟨ov,ps,e1,e2,e3,e4,e5,e6,e7⟩:=hI.ex;have UY:=aa hI.up;have hrw:sk (w6.heap.size+2) W ov ps:=⟨e2,e5,fun p hp=>af.sub (e6 p hp) fun b hb _=>hb.1⟩;have HTY:Hid (∀p∈ps,af (uL W) W p.2 p.1):=fun p hp=>af.sub (e6 p hp) fun b hb _=>hb.2.2.2;(have hxl:xs.length<=64:=by have h1:=congrArg List.length hS;rw [aD] at h1;have h2:=Um jk.out.te;have h3:=(aH jk.out.te).2.1;omega);have hpl:ps.length<=64:=aB e4 hxl;(have hrl:∀p∈ps,p.1.length<=32:=fun p hp=>by (have h1:p.1∈Fp t amd (xs.map (·.1)):=by rw [<- e3];exact bI.2 ⟨p,hp,rfl⟩);have h2:=(qh.1 (of_decide_eq_true (gP.1 h1).2)).len;have h3:=jk.out.le;omega);rw [hS] at e3;obtain ⟨oq,oc,rfl,_⟩:=e2.form (n:=ps.length) (by simp)
      have zm:=Kf (cf:=cmpL) AH (fun h=>nE h) oV (fun h k=>uE h k) 81 #[] (enters_of Tryz.func81 (by kernel_rfl) rfl) hrw (by omega) (fun p hp q hq W' qU=>by
       have hk:∀s∈ps,af Any W' s.2 s.1:=fun s hs=>(aq.keep (hrw.row s hs) fun b hb hbl=>qU.block b hbl fun e=>hb e.symm).sub fun _ _ _=>trivial
       exact (YZ Any Any W' p.2 q.2 p.1 q.1 (hk p hp) (hk q hq) (by have:=hrl p hp;omega) (by have:=hrl q hq;omega)).mono fun e w' ⟨he,hw⟩=>⟨he,by rw [<- hw];exact Y4 W'⟩)
      have kJ:=aa zm;have Kv:=aa e3;have eC:Hid (ps.length<=64):=hpl;have pV:Hid (∀p∈ps,p.1.length<=32):=hrl;(have DT:W.cell? ⟨w6.heap.size+1,0,none⟩=some (.slice oq ps.length oc):=by simp [World.cell?,e1]);have Ji:=aa e1;have xD:=aa e2;have HK:=aa hK;have aj6:=aa hI.sz;clear e1 e2 e3 e4 e5 e6 e7 hrw zm hpl hrl hxl hI hS hK;gi_wp2_with fail;refine ⟨trivial,(callsIn_wide.2 kJ.out).mono ?_⟩;rintro e A4 ⟨rfl,zM,FJ,BK,RB,IY,ahz⟩;have aiQ:Hid (∀p∈FJ,af (uL A4) A4 p.2 p.1):=fun p hp=>IG (HTY.out p (ahz p hp)) zM (Rg xD.out)
      have ahA:A4.heap[D]? = some (.deferred (some [])):=(zM.block D (fq.1 HK.out).1 fun e=>by
       obtain ⟨c,h⟩:=au.kL xD.out e.symm
       rw [HK.out] at h;injection h with h;cases h).trans HK.out
      have Il:A4.heap[w6.heap.size+1]? = some (Obj.cells #[.slice oq ps.length oc] 23 (0,0)):=(zM.block _ (by have:=aj6.out;omega) fun e=>by have:=(av xD.out e.symm).1;omega).trans Ji.out;have DT:=(show A4.cell? ⟨w6.heap.size+1,0,none⟩=some (.slice oq ps.length oc) by simp [World.cell?,Il]);(have LD:Up w6 A4:=Below.grown UY.out zM UY.out.size fun k hk=>by have:=(av xD.out hk).1;omega);(have WE:FJ.length=ps.length:=by have:=BK.length_eq;simpa using this);(have ad1:∀p∈FJ,p.1.length<=32:=fun p hp=>by obtain ⟨q,hq,e⟩:=bI.1 (BK.mem_iff.1 (bI.2 ⟨p,hp,rfl⟩));rw [<- e];exact pV.out q hq);have uk:=aa (D6 IY (by have:=eC.out;omega) (fun p hp=>by have:=ad1 p hp;omega));have RG:=aa IY;have acM:=aa ahA;have FK:=aa LD;(have Ey:Hid (jd (FJ.map (·.1))=dP t amd):=by rw [Kv.out] at BK;exact Y6 jk.out BK RB);clear zM BK RB IY ahz ahA Il LD WE ad1 kJ;gi_wp2_with fail;refine ⟨trivial,(callsIn_wide.2 uk.out).mono ?_⟩;rintro e fZ ⟨BL,v11,RH,rfl,BM,ahB,ahC⟩;have aiR:Hid (∀p∈RH,af (uL fZ) fZ p.2 p.1):=fun p hp=>IG (aiQ.out p (ahC p hp)) BL (Rg RG.out.own)
      have ahD:fZ.heap[D]? = some (.deferred (some [])):=(BL.block D (fq.1 acM.out).1 fun e=>by
       obtain ⟨c,h⟩:=au.kL RG.out.own e.symm
       rw [acM.out] at h;injection h with h;cases h).trans acM.out
      (have RR:Up w6 fZ:=Below.grown FK.out BL FK.out.size fun k hk=>by have:=(av RG.out.own hk).1;omega);rw [Ey.out] at BM;have aj7:=aa BM;have aj8:=aa ahB;have aj9:=aa RR;have ahE:=aa ahD;clear BL BM ahB ahC RR ahD uk DT;gi_wp2_with fail;have hq:∀b,b≠D->(fZ.putObj D (.deferred none)).heap[b]? = fZ.heap[b]?:=fun b hb=>l9 hb;have hu:=uY.out.trans aj9.out;have hws:=uY.out.size;have AU:=H9.out.2;obtain ⟨f,sQ,hf2⟩:=aj8.out.aiK aiR.out;rw [aj7.out] at sQ hf2;have hgd:fZ.grownBy (fZ.putObj D (.deferred none)) (some D):=grownBy_putObj' fZ D _;(have hrd:∀r,some D=some r->∃o,fZ.heap[r]? = some o/\o.isCells=false:=fun r e=>by injection e with e;subst e;exact ⟨_,ahE.out,rfl⟩);refine ⟨by simp,.inl ⟨_,_,rfl,run_takeDeferred ahE.out,?_⟩⟩
      exact ⟨.tuple #[v11,.int .i64 0],by simp [results,Tryz.results20,go_sem],⟨hu.os,hu.tape,hu.output,by have h:=hu.size;simpa using h,fun b hb=>(hq b (by omega)).trans (hu.block b hb)⟩,v11,by rw [HZ.out],f,(aq.grown sQ hgd hrd).sub (fun b hb _=>by have:w6.heap.size+2<=b:=hb;omega),fun k hk=>IG (hf2 k hk) hgd fun r e ht=>by
       obtain ⟨o,h1,h2⟩:=hrd r e;obtain ⟨c,z,h3⟩:=ht
       rw [h3] at h1;injection h1 with h1;subst h1;cases h2⟩
    ·rw [rB] at UX
     (have HZ:Hid (cF t amd=9):=by unfold Hid;rw [Kv.out,if_pos (.inr rB)]);clear rB;gi_wp2_with fail;refine ⟨trivial,(callsIn_wide.2 UX.out).mono ?_⟩;rintro e w6 ⟨rfl,nq,rfl⟩;gi_wp2_with fail;exact ⟨.tuple #[.slice none 0 0,.int .i64 9],by simp [results,Tryz.results20,go_sem],FM HZ.out (by decide) (lu.out.trans (Up.drewN _ _))⟩
   ·have HZ:Hid (cF t amd=9):=by unfold Hid;rw [Kv.out,if_pos (.inl oL)]
    have d1:(((ay t.ns).length:Int)==(amd.length:Int))=false:=beq_eq_false_iff_ne.2 (by omega);(have d2:(((ay t.ns).length:Int) != (amd.length:Int))=true:=by rw [bne,d1];rfl);clear oL;gi_wp2_with fail;rename_i hkk;refine ⟨trivial,hkk _ _ ?_⟩;gi_wp2_with fail;exact ⟨.tuple #[.slice none 0 0,.int .i64 9],by simp [results,Tryz.results20,go_sem],FM HZ.out (by decide) lu.out⟩
end
section
theorem NL:∀(d:Nat) (r:RT),aP r<=d->jm r->∀p∈bh r,∀q∈bh r,p∈bh q\/q∈bh p\/∀x,x∈bM p->x∉bM q
 | 0,r,hd,_=>by have:=oT r;omega
 | d+1,.node nm ks,hd,h=>fun p hp q hq=>by
  rw [bh,bA] at hp hq
  rcases hp with rfl | hp
  ·exact .inr (.inl (by rw [bh,bA];exact hq))
  rcases hq with rfl | hq
  ·exact .inl (by rw [bh,bA];exact .inr hp)
  obtain ⟨k1,h1,hp⟩:=zk hp
  obtain ⟨k2,h2,hq⟩:=zk hq
  obtain ⟨i,hi,rfl⟩:=rQ h1
  obtain ⟨j,hj,rfl⟩:=rQ h2
  have h0:ks≠[]:=fun e=>by subst e;simp at hi
  by_cases hij:i=j
  ·subst hij
   have hk:=oA (nm:=nm) (jy hi)
   exact NL d _ (by have:=abp (nm:=nm) (jy hi);omega) (h.sub hk) p hp q hq
  ·refine .inr (.inr fun x hx hx2=>?_)
   have hn:=h.nd
   rw [iX (show nm.size=0 from h.y9 _ (dm _) h0),Aa,BR] at hn
   have hpw:=mY.1 hn.2
   have e1:=(dR hp).subset hx
   have e2:=(dR hq).subset hx2
   rcases oo i j with c | c | c
   ·exact absurd rfl (hpw i j hi hj c x e1 x e2)
   ·exact hij c
   ·exact absurd rfl (hpw j i hj hi c x e2 x e1)
section
variable {amd:List ByteArray} {t:ax} {S:Nat->List Int} {l:List (List Int)} {la:Nat}
theorem RU (h:jG t amd) {x:Int}:x∈bD t amd 0↔0<=x/\x<(amd.length:Int):=by
 constructor
 ·intro hx;have:=l7.1 hx;exact ⟨this.1,this.2.1⟩
 ·rintro ⟨x0,xn⟩
  obtain ⟨b,rfl⟩:=oa x0;obtain ⟨j,hj,h3,h4⟩:=zA h (show b<amd.length by omega);exact l7.2 ⟨x0,xn,j,hj,Fm h.te j hj,h3,by rw [h4,tj h.nd (by omega)]⟩
theorem ahF (h:jG t amd) {x:ByteArray}:x∈bM (jE t)↔∃b:Nat,b<amd.length/\x=gs amd b:=by
 have h1:=sZ h (aH h.te).1 x;constructor
 ·intro hx
  obtain ⟨b,hb,e⟩:=h1.1 hx;have:=(RU h).1 hb;exact ⟨b,by omega,e⟩
 ·rintro ⟨b,hb,e⟩
  exact h1.2 ⟨b,(RU h).2 ⟨by omega,by omega⟩,e⟩
theorem acN {n:Nat} {X Y:List Int} (hX:∀x∈X,0<=x/\x<(n:Int)) (hY:∀x∈Y,0<=x/\x<(n:Int)) (h:(∀x∈X,x∉Y)\/(∀x∈X,x∈Y)\/∀x∈Y,x∈X) :
  (∀x∈cu n X,x∉cu n Y)\/(∀x∈cu n X,x∈cu n Y)\/∀x∈cu n Y,x∈cu n X:=by
 by_cases hx:(0:Int)∈X<;>by_cases hy:(0:Int)∈Y
 ·rw [show cu n X=bG n X from if_pos (dU.2 hx),show cu n Y=bG n Y from if_pos (dU.2 hy)]
  simp only [nD];rcases h with h | h | h
  ·exact absurd hy (h 0 hx)
  ·exact .inr (.inr fun x ⟨a,b,c⟩=>⟨a,b,fun e=>c (h x e)⟩)
  ·exact .inr (.inl fun x ⟨a,b,c⟩=>⟨a,b,fun e=>c (h x e)⟩)
 ·rw [show cu n X=bG n X from if_pos (dU.2 hx),show cu n Y=Y from if_neg fun e=>hy (dU.1 e)]
  simp only [nD];rcases h with h | h | h
  ·exact .inr (.inr fun x hx=>⟨(hY x hx).1,(hY x hx).2,fun e=>h x e hx⟩)
  ·exact absurd (h 0 hx) hy
  ·exact .inl fun x ⟨a,b,c⟩ e=>c (h x e)
 ·rw [show cu n Y=bG n Y from if_pos (dU.2 hy),show cu n X=X from if_neg fun e=>hx (dU.1 e)]
  simp only [nD];rcases h with h | h | h
  ·exact .inr (.inl fun x hx=>⟨(hX x hx).1,(hX x hx).2,fun e=>h x hx e⟩)
  ·exact .inl fun x hx ⟨a,b,c⟩=>c (h x hx)
  ·exact absurd (h 0 hy) hx
 ·rw [show cu n Y=Y from if_neg fun e=>hy (dU.1 e),show cu n X=X from if_neg fun e=>hx (dU.1 e)]
  exact h
theorem ZI (h:jG t amd) {a b:List Int} (ha:a∈dP t amd) (hb:b∈dP t amd):jo a b=true:=by
 obtain ⟨a1,p,hp,X,aX,bX,lX,rfl⟩:=(zB h).1 ha;obtain ⟨b1,q,hq,Y,aY,bY,lY,rfl⟩:=(zB h).1 hb;refine (AG a1.set b1.set).2 (acN bX bY ?_);have up:∀ {X Y:List Int} {p q:RT},(∀x∈X,0<=x/\x<(amd.length:Int))->(∀x∈Y,0<=x/\x<(amd.length:Int))->Lv amd p X->Lv amd q Y->p∈bh q->∀x∈X,x∈Y:=fun {X Y p q} bX bY lX lY h2 x hx=>by obtain ⟨x0,xn⟩:=bX x hx;obtain ⟨b,rfl⟩:=oa x0;obtain ⟨b',hb',e⟩:=(lY _).1 ((dR h2).subset ((lX _).2 ⟨b,hx,rfl⟩));have:=bY _ hb';have:=Ka h.nd (a:=b) (b:=b') (by omega) (by omega) e;rw [this];exact hb'
 rcases NL _ (jE t) (ah _) (rj h.te) p hp q hq with h2 | h2 | h2
 ·exact .inr (.inl (up bX bY lX lY h2))
 ·exact .inr (.inr (up bY bX lY lX h2))
 ·refine .inl fun x hx hy=>?_
  obtain ⟨x0,xn⟩:=bX x hx;obtain ⟨b,rfl⟩:=oa x0;exact h2 _ ((lX _).2 ⟨b,hx,rfl⟩) ((lY _).2 ⟨b,hy,rfl⟩)
theorem vK (t:ax) (amd:List ByteArray):(dP t amd).length<=t.ps.length:=by
 unfold dP;split
 ·unfold wX
  refine aB (IJ _) ?_;rw [(ye _).length_eq];unfold IC;refine aB (mN _ _) ?_;rw [aD];refine aB (mN _ _) ?_;rw [vQ];exact ah _
 ·exact aF _
theorem ahG (h:jG t amd):iZ amd (dP t amd):=by
 obtain ⟨h0,h64,hl,_,_⟩:=aH h.te;have aiS:=rj h.te;refine ⟨?_,h.le,aB (vK t amd) h64,fun k hk=>?_,h.nd,fun s hs=>((zB h).1 hs).1,fun i k hik hk=>ZI h (lI (by omega)) (lI hk)⟩
 ·obtain ⟨x,hx⟩:=aiS.meet (dm _)
  obtain ⟨b,hb,_⟩:=(ahF h).1 hx;omega
 ·obtain ⟨j,hj,h3,h4⟩:=zA h hk
  rw [<- h4];exact vY h.te hj (eN.JY ⟨h.te,hj,h3⟩)
def UZ (n:Nat) (l:List (List Int)) (Y:List Int):Prop :=
 Y=allI n\/Y=[0]\/((0:Int)∉Y/\Y≠[]/\(∀x∈Y,0<=x/\x<(n:Int))/\Y.Pairwise (· < ·)/\(Y.length=1\/Y.length+1=n\/Y∈l))
theorem LG {n:Nat} {Y:List Int} (hn:0<n) (h0:(0:Int)∉Y) (hb:∀x∈Y,0<=x/\x<(n:Int)) (ha:Y.Pairwise (· < ·)) (hl:Y.length+1=n):Y=bG n [0]:=by
 have hsub:∀x∈Y,x∈bG n [0]:=fun x hx=>jH.2 (by
  have:=hb x hx;have:x≠0:=fun e=>h0 (by rw [<- e];exact hx)
  omega)
 have hr:=rE hn;exact rZ ha (nS _ _) fun x=>⟨hsub x,pJ ha (nS _ _) hsub (by show Y.length=(bG n [0]).length;omega) x⟩
theorem bB.aka (h:bB amd t S) (hS:∀Y,(∃i,i<t.ps.length/\Y=S i)↔UZ amd.length l Y) (X:ByteArray->Prop) :
  QF (jE t) X↔∃Y,UZ amd.length l Y/\∀x,X x↔∃b:Nat,(b:Int)∈Y/\x=gs amd b:=by
 constructor
 ·rintro ⟨s,hs,hX⟩
  obtain ⟨i,hi,hL⟩:=h.parts.1 s hs;exact ⟨S i,(hS _).1 ⟨i,hi,rfl⟩,fun x=>(hX x).trans (hL x)⟩
 ·rintro ⟨Y,hY,hX⟩
  obtain ⟨i,hi,rfl⟩:=(hS _).2 hY;obtain ⟨s,hs,hL⟩:=h.parts.2 i hi;exact ⟨s,hs,fun x=>(hX x).trans (hL x).symm⟩
theorem ae8 (h2:amd.length=2) (hl:l=[]) (Y:List Int):(∃i,i<(⟨[-1,0,0],[ByteArray.empty,gs amd 0,gs amd 1]⟩:ax).ps.length/\Y=lJ i)↔UZ amd.length l Y:=by
 subst hl;rw [h2];constructor
 ·rintro ⟨i,hi,rfl⟩
  have hi:i=0\/i=1\/i=2:=by simp at hi;omega
  rcases hi with rfl | rfl | rfl
  ·exact .inl rfl
  ·exact .inr (.inl rfl)
  ·exact .inr (.inr ⟨by simp [lJ],by simp [lJ],by simp [lJ],by simp [lJ],.inl (by simp [lJ])⟩)
 ·rintro (rfl | rfl | ⟨y0,yn,yb,ya,hY⟩)
  ·exact ⟨0,by simp,rfl⟩
  ·exact ⟨1,by simp,rfl⟩
  ·refine ⟨2,by simp,?_⟩
   have h1:Y.length+1=2:=by
    rcases hY with hY | hY | hY
    ·omega
    ·exact hY
    ·cases hY
   exact LG (n:=2) (by omega) y0 yb ya h1
theorem ae9 (h:iZ amd l) (h3:3<=amd.length) (Y:List Int):(∃i,i<(bT amd (aJ l)).ps.length/\Y=bS amd (aJ l) i)↔UZ amd.length l Y:=by
 have hlen:(bT amd (aJ l)).ps.length=3+(aJ l).length+(amd.length - 1):=Rl;rw [hlen];constructor
 ·rintro ⟨i,hi,rfl⟩
  obtain ⟨⟨k1,k2⟩,k3⟩:=h.kind h3 hi;rcases k3 with ⟨rfl,k4⟩ | ⟨rfl,k4,k5⟩ | ⟨rfl,k4⟩ | ⟨k,hk,rfl,k6,k4,k5⟩ | ⟨b,b1,b2,rfl,k5,k4⟩
  ·exact .inl rfl
  ·exact .inr (.inl k5)
  ·refine .inr (.inr ⟨fun e=>?_,fun e=>?_,k2,k1,.inr (.inl k4)⟩)
   ·have:=jH.1 (show (0:Int)∈bG amd.length [0] from e);omega
   ·rw [e] at k4;simp at k4;omega
  ·refine .inr (.inr ⟨fun e=>?_,fun e=>?_,k2,k1,.inr (.inr ?_)⟩)
   ·rw [k6] at e;have:=(h.own hk).bd _ e;omega
   ·rw [e] at k4;simp at k4
   ·rw [k6];exact rD.1 (lI hk)
  ·refine .inr (.inr ⟨fun e=>?_,fun e=>?_,k2,k1,.inl k4⟩)
   ·rw [k5] at e;have:=cN.1 e;omega
   ·rw [e] at k4;simp at k4
 ·rintro (rfl | rfl | ⟨y0,yn,yb,ya,hY | hY | hY⟩)
  ·exact ⟨0,by omega,rfl⟩
  ·exact ⟨1,by omega,rfl⟩
  ·obtain ⟨x,rfl⟩:=zZ.1 hY
   have hb:=yb x (by simp);obtain ⟨b,rfl⟩:=oa hb.1;have hb0:b≠0:=fun e=>y0 (by subst e;simp);exact ⟨2+(aJ l).length+b,by omega,(oF (by omega)).symm⟩
  ·exact ⟨2,by omega,LG (by omega) y0 yb ya hY⟩
  ·obtain ⟨k,hk,rfl⟩:=Ds (rD.2 hY)
   exact ⟨3+k,by omega,(lq hk).symm⟩
end
end
section
open Go.RowKit Go.Deep
theorem zO (t:ax) (amd:List ByteArray) (k:Nat):(gl (dP t amd) k).length<=64:=by
 by_cases hk:k<(dP t amd).length
 ·by_cases he:cF t amd=0
  ·have ho:=oD.1 he
   have:=((ahG ho).AW _ (lI hk)).len;have:=ho.le;omega
  ·unfold dP at hk
   rw [if_neg he] at hk;exact absurd hk (aZ _)
 ·simp [gl,show (dP t amd).length<=k by omega]
end
end Go.Proofs.YthgabkgmkolobaaGreat
