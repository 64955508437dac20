/- The contracts of parsimony.Fitch and of the reference's Fitch. stemma.Extend. The .. -/
import Derived.Deep.CutRange
import Derived.Test.YtfomhlbhcifgbaaGreatDoorQ17
set_option maxRecDepth 100000
set_option maxHeartbeats 4000000
namespace Go.Proofs.YtfomhlbhcifgbaaGreatDoor
section
open Go.RowKit Go.Deep
def Nf (w:World) (t:aA) (st:List Int) (e:Ending) (w':World):Prop :=
 Up w w'/\e=.returned (.tuple #[.int .i64 (cI t st (bT 16)),.int .i64 (gZ t st (bT 16))])
theorem ZN:nS (bT 16)=0:=by decide +kernel
theorem E5:(bT 16).length=16:=kY 16
theorem ZO {t:aA} (h:aF t=0) (st:List Int):gZ t st (bT 16)=mV st (aq t.ns).length (-1) 16:=by
 unfold gZ;rw [if_neg (fun e=>e h),if_neg (fun e=>e ZN),E5];rfl
theorem JS {t:aA} {st:List Int} {cs:List (List Int)} (h:gZ t st cs≠0):cI t st cs=0:=by unfold cI;rw [if_neg h]
theorem QA (T:Nat->Prop) (w:World) (vr:Value) (row:List Int) (hR:af T w vr row) (Vu:row.length<=1000) :
  Calls Tryz.prog 80 #[vr] w fun e w'=>e=.returned (.tuple #[.int .i64 (bw (fun _=>0) (gi row) row.length).1,.int .i64 (bw (fun _=>0) (gi row) row.length).2])/\w=w':=Ub T w vr row hR Vu
theorem Uq (S:Nat->Prop) (w:World) (v vs:Value) (t:aA) (st:List Int) (hT:aJ S w v t) (hS:af S w vs st) (hp:t.ps.length<=1000000) (hn:t.ns.length<=1000000) (hz:∀k,(gs t.ns k).size<=70000) (hst:st.length<=1000000) :
  Calls Tryz.prog 48 #[v,vs] w (Nf w t st):=by
 obtain ⟨P,N,rfl,hP,hN⟩:=hT;have hu:=Up.alloc w (.cells #[P,N] 33);have p6:aJ S (w.alloc (.cells #[P,N] 33)) (.agg #[P,N]) t:=aJ.keep ⟨P,N,rfl,hP,hN⟩ (hu.kept S);have HK:=aa (Ah S _ _ t p6 hp hn hz);have HU:=aa hu;have sW:=aa (mC w P N 33);have qE:=aa (mD w P N 33);have HT:=aa p6;have HS:=aa (af.keep hS (hu.kept S));have HNS:=aa hz;clear hu p6 hS hP hN hz;go_in;go_wp2_with fail;generalize w.alloc (.cells #[P,N] 33)=w1 at *;refine HK.out.mono ?_;rintro e w2 ⟨hb,⟨he,rfl⟩ | ⟨he,vl,rfl,hl⟩⟩
 ·have bF:=aa (HU.out.trans (show Up w1 w2 from hb))
  have HE:=aa he;clear hb he HK;go_wp2;go_ret2;have hpe:gZ t st (bT 16)=1:=by unfold gZ;rw [if_pos HE.out]
  exact ⟨bF.out,by rw [JS (by rw [hpe];decide),hpe];rfl⟩
 ·have aK:Up w1 w2:=hb
  have hc0:=aK.cell sW.out;have hc1:=aK.cell qE.out;have bF:=aa (HU.out.trans aK);have zC:=aa (HT.out.keep (aK.kept S));have td:=aa (af.keep HS.out (aK.kept S));obtain ⟨ql,acj,rfl,_,_⟩:=aB.open hl;have HE:=aa he;have HKN:=aa (Uc S w2 vs st (aq t.ns).length (-1) 16 td.out hst);have S2:=aa (ZO he st);clear hb he HK aK hl HU sW qE HT HS;go_wp2_with fail;refine HKN.out.mono ?_;rintro e w3 ⟨rfl,hb3⟩;have ct:Up w2 w3:=hb3;have hc0:=ct.cell hc0;have hc1:=ct.cell hc1;have jA:=aa (bF.out.trans ct)
  have S3:=aa (zC.out.keep (ct.kept S));have uC:=aa (af.keep td.out (ct.kept S));clear hb3 ct HKN;rw [<- S2.out];by_cases hpe:gZ t st (bT 16)=0
  ·rw [hpe]
   have hv:=Fe hpe;(have HF:Hid (cI t st (bT 16)=(bw (fun _=>0) (gi (aR t st (bT 16) 0)) (bT 16).length).1):=by unfold Hid cI;rw [if_pos hpe]);have HP:=aa hpe;have rI:Hid (∀W vc,Up w3 W->aS Any W vc (bT 16)->Calls Tryz.prog 81 #[.agg #[P,N],vs,vc] W (JP W t st (bT 16))):=fun W vc hW hR =>
    (Uf Any W _ _ _ t st (bT 16) ((S3.out.keep (hW.kept _)).sub fun _ _ _=>trivial) (af.sub (af.keep uC.out (hW.kept _)) fun _ _ _=>trivial) hR HNS.out hv).mono fun _ _ h=>tb1 hv h
   (have hml:(aR t st (bT 16) 0).length<=1000:=by rw [gJ,E5];omega);(have abH:(0:Int)<(t.ps.length:Int):=by have:=(aG HE.out).1;omega);have HML:=aa hml;have HW3:=aa (Up.refl w3);have dy:Hid (Up w3 (w3.drewN 1)):=Up.drewN w3 1;clear hpe hv hml;go_wp2_with fail
   go_region_with (first
    | (go_at_call 82;refine (V7 _ 16 (by decide) (by decide)).mono ?_;rintro e w5 ⟨l8,vc,rfl,Ng⟩;have hR5:=aa Ng;have hc0:=(dy.out.trans (show Up _ w5 from l8)).cell hc0;have hc1:=(dy.out.trans (show Up _ w5 from l8)).cell hc1;have dy:Hid (Up w3 w5):=dy.out.trans (show Up _ w5 from l8);clear l8 Ng)
    | (go_at_call 81;refine (rI.out _ _ dy.out hR5.out).mono ?_;rintro e w6 ⟨tb,V2,V3,rq,rc,rfl,hcell,hrow,V9⟩;have hR6:=aa hrow;have dy:Hid (Up w3 w6):=dy.out.trans V9;clear V9 hrow)
    | (go_at_call 80;refine (QA Any _ _ _ hR6.out HML.out).mono ?_;rintro e w7 ⟨rfl,rfl⟩))
   all_goals
    go_wp2;go_ret2;exact ⟨jA.out.trans dy.out,by rw [HF.out,HP.out,E5,gJ,E5];rfl⟩
  ·have S4:(gZ t st (bT 16) != 0)=true:=by simpa using hpe
   have HP:=aa hpe;clear hpe;have xV:Hid (cI t st (bT 16)=0):=JS HP.out;go_wp2;go_ret2;exact ⟨jA.out,by rw [xV.out];rfl⟩
theorem Tryz.p8:(Tryz.prog.info? 3).map (fun i=>(i.zero,i.size,i.bytes))=some (some (.int .i64 0),1,8):=by kernel_rfl
theorem fQ (w:World) (a b c:Value) (T:TypeId):(w.alloc (.cells #[a,b,c] T)).heap[w.heap.size]? = some (Obj.cells #[a,b,c] T (0,0)):=blk_alloc_new _ _
theorem aQ {W:World} {B:Nat} {a b c:Value} {T:TypeId} (hb:W.heap[B]? = some (Obj.cells #[a,b,c] T (0,0))):W.cell? ⟨B,0,none⟩=some a/\W.cell? ⟨B,1,none⟩=some b/\W.cell? ⟨B,2,none⟩=some c/\W.frozen? ⟨B,0,none⟩=false/\W.frozen? ⟨B,1,none⟩=false/\W.frozen? ⟨B,2,none⟩=false:=by
 refine ⟨?_,?_,?_,?_,?_,?_⟩<;>simp [World.cell?,World.frozen?,hb]
def nw (w:World) (s:kI) (c p:Nat) (e:Ending) (w':World):Prop :=
 Up w w'/\((dw s.P c p/\∃v,e=.returned (.tuple #[v,.int .i64 0])/\aP Any w' v ⟨s.ns,s.bs,bk s.P c p⟩) \/
  (¬dw s.P c p/\∃code:Int,code≠0/\(code=10\/code=7)/\e=.returned (.tuple #[.agg #[.slice none 0 0,.slice none 0 0,.slice none 0 0],.int .i64 code])))
theorem DU (x:Int) (xs:List Int):((List.range xs.length).any fun j=>decide (x=gi xs j))=decide (x∈xs):=by
 rw [nM,cR,decide_eq_true_eq];constructor
 ·rintro ⟨j,hj,h⟩
  rw [of_decide_eq_true h];have:=bX.1 hj;simp [gi,this]
 ·intro h
  obtain ⟨j,hj,e⟩:=sG h;exact ⟨j,bX.2 hj,by simp [gi,hj,e]⟩
theorem Ar {w W:World} {B:Nat} {a b c:Value} (h:Up w W) (hB:w.heap.size<=B):Up w (((W.setCell ⟨B,0,none⟩ a).setCell ⟨B,1,none⟩ b).setCell ⟨B,2,none⟩ c) :=
 jm (jm (jm h (p:=⟨B,0,none⟩) hB _) (p:=⟨B,1,none⟩) hB _) (p:=⟨B,2,none⟩) hB _
theorem vM {W:World} {B:Nat} {a b c a' b' c':Value} {T:TypeId} (hb:W.heap[B]? = some (Obj.cells #[a,b,c] T (0,0))) :
  (((W.setCell ⟨B,0,none⟩ a').setCell ⟨B,1,none⟩ b').setCell ⟨B,2,none⟩ c').heap[B]? = some (Obj.cells #[a',b',c'] T (0,0)):=by
 simp [World.setCell,Array.getElem?_modify,hb]
theorem Au (S:Nat->Prop) (w:World) (v:Value) (s:kI) (c p:Nat) (h:aP S w v s) (hs:fD s.ns s.P) (hb:s.bs.length=s.ns.length) (hc:c<s.ns.length) (hp:p<s.ns.length) :
  Calls Tryz.prog 16 #[v,.int .i64 c,.int .i64 p] w (nw w s c p):=by
 have h0:aP (fun b=>b<w.heap.size) w v s:=h.sub fun b _ hb=>hb;obtain ⟨np,nc,bp,bc,pp,pc,rfl,hN,hB,hP⟩:=aP.open h0;have xW:Hid (∀W,Up w W->∀i:Nat,i<s.ns.length->Calls Tryz.prog 31 #[.agg #[.slice np s.ns.length nc,.slice bp s.bs.length bc,.slice pp s.P.length pc],.int .i64 i] W fun e w'=>e=.returned (.int .i64 0)/\Up W w'):=fun W hW i hi=>MP S W _ s i (h.keep (hW.kept S)) hs hb hi
 have Wa:Hid (∀W (code:Int),Up w W->¬dw s.P c p->code≠0->(code=10\/code=7)->nw w s c p (.returned (.tuple #[.agg #[.slice none 0 0,.slice none 0 0,.slice none 0 0],.int .i64 code])) W):=fun W code hW h1 h2 h3=>⟨hW,.inr ⟨h1,code,h2,h3,rfl⟩⟩;have pZ:Hid (∀W u,Up w W->dw s.P c p->aP Any W u ⟨s.ns,s.bs,bk s.P c p⟩->nw w s c p (.returned (.tuple #[u,.int .i64 0])) W):=fun W u hW h1 h2=>⟨hW,.inl ⟨h1,u,rfl,h2⟩⟩;obtain ⟨Q,hQ⟩:∃Q,Q=nw w s c p:=⟨_,rfl⟩;rw [<- hQ] at Wa pZ ⊢;obtain ⟨ns,bs,P⟩:=s;dsimp only at *;have hl:=hs.len;have DV:ns.length<=7:=hs.le;rw [hl] at hP xW ⊢
 rw [hb] at hB xW ⊢;obtain ⟨sb,eG⟩:∃sb,sb=w.heap.size:=⟨_,rfl⟩;obtain ⟨w1,hw1⟩:∃w1,w1=(w.alloc (.cells #[.slice np ns.length nc,.slice bp ns.length bc,.slice pp ns.length pc] 36)).alloc (.cells #[.slice none 0 0,.slice none 0 0,.slice none 0 0] 36):=⟨_,rfl⟩;have aM:Up w w1:=by rw [hw1];exact (Up.alloc _ _).trans (Up.alloc _ _)
 have hs1:w1.heap.size=sb+1+1:=by rw [hw1,eG];simp
 have k0:w1.heap[sb]? = some (Obj.cells #[.slice np ns.length nc,.slice bp ns.length bc,.slice pp ns.length pc] 36 (0,0)):=by rw [hw1,eG,blk_alloc_lt _ _ _ (by simp)];exact blk_alloc_new _ _
 have k1:w1.heap[sb+1]? = some (Obj.cells #[.slice none 0 0,.slice none 0 0,.slice none 0 0] 36 (0,0)):=by have:=blk_alloc_new (w.alloc (.cells #[.slice np ns.length nc,.slice bp ns.length bc,.slice pp ns.length pc] 36)) (.cells #[.slice none 0 0,.slice none 0 0,.slice none 0 0] 36);rw [aN] at this;rw [hw1,eG];exact this
 have aK:=Up.alloc w1 (.cells #[.int .i64 c,.int .i64 p] 3);have l0:(w1.alloc (.cells #[.int .i64 c,.int .i64 p] 3)).cell? ⟨w1.heap.size,0,none⟩=some (.int .i64 c):=mC w1 _ _ _;have l1:(w1.alloc (.cells #[.int .i64 c,.int .i64 p] 3)).cell? ⟨w1.heap.size,1,none⟩=some (.int .i64 p):=mD w1 _ _ _;rw [hs1] at l0 l1;have K0:=aa k0;have K1:=aa k1;have bU:=aa aM;have bF:=aa (aM.trans aK);have jB:=aa hs1;have cg:=aa eG;have HN:=aa hN;have HB:=aa hB;have HP:=aa hP;have HL:=aa hl;have wP:=aa hb;have HS:=aa hs
 have Wb:=(aO aK sb (by omega)).trans k0;have Wh:=(aO aK (sb+1) (by omega)).trans k1;have zD:=aa Wb;have DW:=aa Wh;have L0:=aa l0;have L1:=aa l1;have p7:(p:Int)<7:=by omega
 have c7:(c:Int)<7:=by omega
 clear h h0 hN hB hP hl hb hs Wb Wh aM aK k0 k1 hs1 hQ;rw [hw1] at zD DW L0 L1 bF;go_in;go_wp2_with fail;rw [<- eG];generalize (((w.alloc (.cells #[.slice np ns.length nc,.slice bp ns.length bc,.slice pp ns.length pc] 36)).alloc (.cells #[.slice none 0 0,.slice none 0 0,.slice none 0 0] 36)).alloc (.cells #[.int .i64 c,.int .i64 p] 3))=w2 at *;clear hw1 eG
 go_loopw [9,10,17] (fun _ _ i wr=>∃k:Nat,k<=2/\i=.int .i64 k/\Hid (Up w2 wr)) (fun _ _ i _=>2 - (intOf i).toNat)
 case atStart=>exact ⟨0,by omega,rfl,Up.refl _⟩
 case round =>
  obtain ⟨k,hk,rfl,hU⟩:=hrel;obtain ⟨wo,rfl⟩:=e9 wr;have nY:=(aO hU.out sb (bq.1 zD.out).1).trans zD.out;obtain ⟨a0,a1,a2,-,-,-⟩:=aQ nY;have e0:=hU.out.cell L0.out;have e1:=hU.out.cell L1.out;have wQ:=aa (bF.out.trans hU.out);by_cases hlt:k<2
  ·have aaq:k=0\/k=1:=by omega
   rcases aaq with rfl | rfl
   ·have HC:=aa (xW.out wo wQ.out c hc)
    clear nY;go_wp2_with fail;refine HC.out.mono ?_;rintro e w' ⟨rfl,Nh⟩;have HX:=aa (hU.out.trans Nh);clear Nh;go_wp2
    go_roundw
    case rel=>exact ⟨1,by omega,by go_num,HX.out⟩
    case measure=>simp [intOf]
   ·have HC:=aa (xW.out wo wQ.out p hp)
    clear nY;go_wp2_with fail;refine HC.out.mono ?_;rintro e w' ⟨rfl,Nh⟩;have HX:=aa (hU.out.trans Nh);clear Nh;go_wp2
    go_roundw
    case rel=>exact ⟨2,by omega,by go_num,HX.out⟩
    case measure=>simp [intOf]
  ·obtain rfl:k=2:=by omega
   have hk1:=(aO hU.out (sb+1) (bq.1 DW.out).1).trans DW.out;obtain ⟨b0,b1,b2,b3,b4,b5⟩:=aQ hk1;have aZ:=aa hk1;have Wi:=aa nY;clear nY hk1 e0 e1 xW hU hlt hk bF zD DW L0 L1 K0 K1;by_cases d1:c<=p
   ·have d2:((c:Nat):Int)<=(p:Int):=by omega
    go_wp2_with fail;have hf:=vM (a':=.slice none 0 0) (b':=.slice none 0 0) (c':=.slice none 0 0) aZ.out;obtain ⟨f0,f1,f2,-,-,-⟩:=aQ hf;refine ⟨rfl,.tuple #[.agg #[.slice none 0 0,.slice none 0 0,.slice none 0 0],.int .i64 10],by simp [results,Tryz.results16,go_sem,f0,f1,f2],?_⟩;exact Wa.out _ 10 (Ar wQ.out (by have:=cg.out;omega)) (fun e=>by have:=e.2.1;omega) (by decide) (.inl rfl)
   (have d2:decide ((c:Int)<=(p:Int))=false:=by simp;omega);obtain ⟨pb,po,q,qc,rfl,jw,hq⟩:=dV (aS.keep HP.out (wQ.out.kept _)) (k:=c) (by rw [HL.out];exact hc);have hrl:=nZ HS.out.row (i:=c) (by rw [HL.out];exact hc);have fK:=aa (uz _ wo _ (gl P c) p hq (by omega));rw [DU] at fK;(have d3:(c:Int)<(ns.length:Int):=by omega);(have d0:(0:Int)<=(c:Int):=by omega);by_cases d4:(p:Int)∈gl P c
   ·rw [decide_eq_true d4] at fK
    have Wj:Hid (¬dw P c p):=fun e=>e.2.2 d4;have Cy:wo.cell? ⟨pb,po+c,none⟩=some (.slice q (gl P c).length qc):=jw;clear d4 hq;generalize (gl P c).length=rl at *;go_wp2_with fail;refine fK.out.mono ?_;rintro e w' ⟨rfl,rfl⟩;go_wp2_with fail;have hf:=vM (a':=.slice none 0 0) (b':=.slice none 0 0) (c':=.slice none 0 0) aZ.out;obtain ⟨f0,f1,f2,-,-,-⟩:=aQ hf;refine ⟨rfl,.tuple #[.agg #[.slice none 0 0,.slice none 0 0,.slice none 0 0],.int .i64 7],by simp [results,Tryz.results16,go_sem,f0,f1,f2],?_⟩
    exact Wa.out _ 7 (Ar wQ.out (by have:=cg.out;omega)) Wj.out (by decide) (.inr rfl)
   rw [decide_eq_false d4] at fK;have Cy:wo.cell? ⟨pb,po+c,none⟩=some (.slice q (gl P c).length qc):=jw;have HEO:Hid (dw P c p):=⟨by rw [HL.out];exact hc,by omega,d4⟩;have HQ:=aa hq;clear hq d4;generalize hrw:(gl P c)=row at *;have DB:=aa hrw;clear hrw;obtain ⟨w3,hw3⟩:∃w3,w3=wo.alloc (.cells #[.slice np ns.length nc,.slice bp ns.length bc,.slice (some ⟨pb,po,none⟩) ns.length pc] 36):=⟨_,rfl⟩;have ct:Up wo w3:=by rw [hw3];exact Up.alloc _ _
   (have hx3:w3.heap[wo.heap.size]? = some (Obj.cells #[.slice np ns.length nc,.slice bp ns.length bc,.slice (some ⟨pb,po,none⟩) ns.length pc] 36 (0,0)):=by rw [hw3];exact fQ _ _ _ _ _);(have hs3:w3.heap.size=wo.heap.size+1:=by rw [hw3];simp);have Ni:=aa hx3;have uC:=aa hs3;have g2:=ct.cell a2;have HCR:=aa (F6 _ w3 _ P (HP.out.keep ((wQ.out.trans ct).kept _)) (by rw [HL.out];omega));have jA:=aa (wQ.out.trans ct);have HQ3:=aa (af.keep HQ.out (ct.kept _))
   have JT:=aa ((aO ct sb (bq.1 Wi.out).1).trans Wi.out);have zF:=aa ((aO ct (sb+1) (bq.1 aZ.out).1).trans aZ.out);have S5:=aa (ct.cell Cy);obtain ⟨B,hB⟩:∃B,B=wo.heap.size:=⟨_,rfl⟩;(have th:Hid (sb+1<B):=by rw [hB];exact (bq.1 aZ.out).1);rw [<- hB] at Ni uC;rw [hw3] at g2;clear ct hx3 hs3 HQ Wi aZ;go_wp2_with fail;refine fK.out.mono ?_;rintro e w' ⟨rfl,rfl⟩;clear fK b0 b1 b2 b3 b4 b5 jw Cy;go_wp2_with fail;rw [<- hw3,<- hB];clear hw3 hB g2 a0 a1 a2;refine HCR.out.mono ?_
   rintro e w4 ⟨eB,u,vals,rfl,hvl,hown,hrows⟩;obtain ⟨ug,uc,rfl,-⟩:=hown.form (n:=ns.length) (by rw [hvl,HL.out]);have Wk:=(aO eB B (by have:=uC.out;omega)).trans Ni.out;obtain ⟨x0,x1,x2,x3,x4,x5⟩:=aQ Wk;have HX4:=aa Wk;have gF:=aa eB;have Wl:=aa hown;have Nj:=aa hrows;have Wm:=aa hvl;clear Wk eB hown hrows hvl HCR
   (have ha5:(w4.setCell ⟨B,2,none⟩ (.slice ug ns.length uc)).heap[sb]? = some (Obj.cells #[.slice np ns.length nc,.slice bp ns.length bc,.slice (some ⟨pb,po,none⟩) ns.length pc] 36 (0,0)):=by rw [blk_setCell_other _ _ _ _ (by show sb≠B;have:=th.out;omega)];exact (aO gF.out sb (bq.1 JT.out).1).trans JT.out);obtain ⟨y0,y1,y2,-,-,-⟩:=aQ ha5;have mG:Below w.heap.size w (w4.setCell ⟨B,2,none⟩ (.slice ug ns.length uc)):=jm (jA.out.trans gF.out) (p:=⟨B,2,none⟩) (by have:=th.out;have:=cg.out;show w.heap.size<=B;omega) _
   obtain ⟨pb',po',q',qc',e1,Wn,Wo⟩:=dV (aS.keep HP.out (Kept.Ae mG fun _ h _=>h)) (k:=c) (by rw [HL.out];exact hc);injection e1 with e1;injection e1 with e1 e2;subst e1;subst e2;rw [DB.out] at Wn Wo;have hx5:(w4.setCell ⟨B,2,none⟩ (.slice ug ns.length uc)).heap[B]? = some (Obj.cells #[.slice np ns.length nc,.slice bp ns.length bc,.slice ug ns.length uc] 36 (0,0)):=by simp [World.setCell,Array.getElem?_modify,HX4.out]
   have Nk:au w3.heap.size 27 (w4.setCell ⟨B,2,none⟩ (.slice ug ns.length uc)) (.slice ug ns.length uc) vals:=Wl.out.fE fun b hb=>blk_setCell_other _ _ _ _ (by have:=(az Wl.out hb).1;have:=uC.out;show b≠B;omega);have Ng:∀i,i<P.length->af (fun b=>b<w.heap.size) (w4.setCell ⟨B,2,none⟩ (.slice ug ns.length uc)) (vals.getD i undef) (gl P i):=fun i hi=>af.keep (Nj.out i hi) fun b hb _=>blk_setCell_other _ _ _ _ (by have:=th.out;have:=cg.out;show b≠B;omega)
   (have l8:(w4.setCell ⟨B,2,none⟩ (.slice ug ns.length uc)).heap[sb+1]? = some (Obj.cells #[.slice none 0 0,.slice none 0 0,.slice none 0 0] 36 (0,0)):=by rw [blk_setCell_other _ _ _ _ (by show sb+1≠B;have:=th.out;omega)];exact (aO gF.out _ (bq.1 zF.out).1).trans zF.out);(have hs5:w3.heap.size<=(w4.setCell ⟨B,2,none⟩ (.slice ug ns.length uc)).heap.size:=by rw [gX];exact gF.out.size);have FL:=aa (tV _ _ _ row Wo (by omega));have gU:=aa mG;have HX5:=aa hx5;have Wp:=aa Nk;have HR5:=aa Ng
   have DG:=aa l8;have xX:=aa hs5;clear ha5 mG Wo hx5 Nk Ng l8 hs5 HX4 Wl Nj gF JT zF S5 HQ3 jA Ni wQ;have hp6:=hrl;generalize Wq:row.length=rl at *;have nW:=aa Wq;clear Wq;go_wp2_with fail;generalize w4.setCell ⟨B,2,none⟩ (.slice ug ns.length uc)=w5 at *;refine FL.out.mono ?_;rintro e w6 ⟨iu,x6,rfl,Li⟩;have Ws:Hid (au w5.heap.size 3 w6 x6 (row.map (Value.int .i64))/\Up w5 w6):=⟨Li,iu⟩;(have wR:Hid ((row.map (Value.int .i64)).length<=1000000):=by unfold Hid;rw [aD,nW.out];omega);have HS6:Hid (w5.heap.size<=w6.heap.size):=iu.size
   obtain ⟨xg,xc,rfl,-⟩:=Li.form (n:=rl) (by rw [aD,nW.out]);clear Li iu FL y0 y1 y2 x0 x1 x2 x3 x4 x5 Wn;go_wp2_with (at_builtin;refine ja w6 rfl _ _ 27 rfl w5.heap.size 3 _ 8 Tryz.underlying27 Tryz.p8 rfl (by decide) Ws.out.1 rfl (.int .i64 p) rfl rfl wR.out HS6.out ?_;intro g8 mY w8 cD eC jC;have tj:=aa cD;have lg:=aa jC;clear cD eC jC);have Wt:=tj.out;rw [aD,show row.map (Value.int .i64)++[Value.int .i64 (p:Int)]=(row++[(p:Int)]).map (Value.int .i64) by simp] at Wt
   have HST:=aa (MS w5 w8 _ (row++[(p:Int)]) (dI (show Below w5.heap.size w5 w6 from Ws.out.2) lg.out) Wt (by rw [bG,nW.out];simp;omega));clear Wt tj lg Ws wR HS6;refine HST.out.mono ?_;rintro e w9 ⟨rfl,jD,Wu⟩;have JU:=(aO jD B (bq.1 HX5.out).1).trans HX5.out;have Wv:=(aO jD (sb+1) (bq.1 DG.out).1).trans DG.out;have yZ:=Wp.out.fE (w':=w9) fun b hb=>aO jD b (az Wp.out hb).2
   obtain ⟨g,gc,eg,hg1,hg2,hg3,hg4,cZ⟩:=yZ.set (j:=c) (by rw [Wm.out,HL.out];exact hc);injection eg with eg1 eg2 eg3;subst eg1;subst eg3;clear eg2;obtain ⟨x0,x1,x2,-,-,-⟩:=aQ JU;(have hgB:B<g:=by have:=uC.out;omega);have hg8:w5.heap.size<=g8/\g8<w9.heap.size:=az Wu (b:=g8) rfl;have hg5:g<w5.heap.size:=(az Wp.out (b:=g) rfl).2;generalize hrv:Value.slice (some ⟨g8,0,none⟩) (row.length+1) mY=rv at *
   have CB:(w9.setCell ⟨g,c,none⟩ rv).heap[B]? = some (Obj.cells #[.slice np ns.length nc,.slice bp ns.length bc,.slice (some ⟨g,0,none⟩) ns.length uc] 36 (0,0)):=(blk_setCell_other _ _ _ _ (by show B≠g;omega)).trans JU;have Gj:(w9.setCell ⟨g,c,none⟩ rv).heap[sb+1]? = some (Obj.cells #[.slice none 0 0,.slice none 0 0,.slice none 0 0] 36 (0,0)):=(blk_setCell_other _ _ _ _ (by show sb+1≠g;have:=th.out;omega)).trans Wv;obtain ⟨y0,y1,y2,-,-,-⟩:=aQ CB;obtain ⟨z0,z1,z2,z3,z4,z5⟩:=aQ Gj
   have dy:Up w (w9.setCell ⟨g,c,none⟩ rv):=jm (dI gU.out (Below.mono jD (by have:=xX.out;have:=uC.out;have:=th.out;have:=cg.out;omega))) (p:=⟨g,c,none⟩) (by have:=th.out;have:=cg.out;show w.heap.size<=g;omega) _;have hst:aP (fun b=>b≠sb+1) (w9.setCell ⟨g,c,none⟩ rv) (.agg #[.slice np ns.length nc,.slice bp ns.length bc,.slice (some ⟨g,0,none⟩) ns.length uc]) ⟨ns,bs,bk P c p⟩:=by
    (have hS1:∀b,b<w.heap.size->b≠sb+1:=fun b hb=>by have:=cg.out;omega);refine ⟨_,_,_,rfl,(aC.keep HN.out (Kept.Ae dy fun _ h _=>h)).sub fun b hb _=>hS1 b hb,?_,?_⟩
    ·have hB:=HB.out
     rw [<- wP.out] at hB ⊢;exact (aB.keep hB (Kept.Ae dy fun _ h _=>h)).sub fun b hb _=>hS1 b hb
    ·have h1:=(cZ rv).xC
     rw [List.length_set,Wm.out] at h1;refine ⟨fun k=>(vals.set c rv).getD k undef,?_,fun k hk=>?_⟩
     ·rw [iq];exact h1.sub fun b hb _=>by have hb:w3.heap.size<=b:=hb;have:=uC.out;have:=th.out;omega
     ·rw [iq] at hk
      rw [qZ hk];dsimp only;by_cases e:k=c
      ·subst e
       (have h2:(vals.set k rv).getD k undef=rv:=by simp [Wm.out,hk]);rw [h2,if_pos rfl,DB.out];exact (af.keep Wu.ints fun b hb _=>blk_setCell_other _ _ _ _ (by show b≠g;have hb:w5.heap.size<=b:=hb;omega)).sub fun b hb _=>by have hb:w5.heap.size<=b:=hb;have:=th.out;omega
      ·have h2:(vals.set c rv).getD k undef=vals.getD k undef:=by
        rw [mN,mN,List.getElem?_set_ne (fe e)]
       rw [h2,if_neg e]
       have h3:=af.keep (HR5.out k hk) (Kept.below jD)
       exact (af.keep h3 fun b hb _=>blk_setCell_other _ _ _ _ (by show b≠g;have:=th.out;have:=cg.out;omega)).sub fun b hb _=>hS1 b hb
   have ny:=aa (⟨Gj,dy,hst⟩:_/\_/\_);(have hg3':w9.cell? ⟨g,0+c,none⟩=some (vals.getD c undef):=by rw [jQ];exact hg3);clear CB Gj dy hst cZ yZ JU Wv jD Wu HST;subst hrv;go_wp2_with fail;obtain ⟨Gj,dy,hst⟩:=ny.out;obtain ⟨f0,f1,f2,-,-,-⟩:=aQ (vM (a':=.slice np ns.length nc) (b':=.slice bp ns.length bc) (c':=.slice (some ⟨g,0,none⟩) ns.length uc) Gj);refine ⟨rfl,.tuple #[.agg #[.slice np ns.length nc,.slice bp ns.length bc,.slice (some ⟨g,0,none⟩) ns.length uc],.int .i64 0],by simp [results,Tryz.results16,go_sem,f0,f1,f2],?_⟩
   refine pZ.out _ _ (Ar dy (by have:=cg.out;omega)) HEO.out ((hst.keep fun b hb _=>?_).sub fun _ _ _=>trivial);rw [blk_setCell_other _ _ _ _ hb,blk_setCell_other _ _ _ _ hb,blk_setCell_other _ _ _ _ hb]
def jW (s:ByteArray):aA:=⟨[-1],[s]⟩
theorem Ww (w:World) (s:ByteArray):aJ Any ((w.alloc (.cells #[.int .i64 (-1)] 3)).alloc (.cells #[.string s] 9)) (.agg #[.slice (some ⟨w.heap.size,0,none⟩) 1 1,.slice (some ⟨w.heap.size+1,0,none⟩) 1 1]) (jW s):=by
 refine ⟨_,_,rfl,⟨_,1,rfl,aj _,.inr ⟨_,0,rfl,trivial,fun k hk=>?_⟩⟩,⟨_,1,rfl,aj _,.inr ⟨_,0,rfl,trivial,fun k hk=>?_⟩⟩⟩
 ·obtain rfl:k=0:=by have:(jW s).ps.length=1:=rfl;omega
  refine (Up.alloc (w.alloc (.cells #[.int .i64 (-1)] 3)) _).cell ?_;have h:=nP w (Obj.cells #[.int .i64 (-1)] 3);simp only [World.cell?,h];rfl
 ·obtain rfl:k=0:=by have:(jW s).ns.length=1:=rfl;omega
  have h:=nP (w.alloc (.cells #[.int .i64 (-1)] 3)) (Obj.cells #[.string s] 9);rw [aN] at h;simp only [World.cell?,h];rfl
theorem Ur (s:ByteArray):(aF (jW s)==0)=bD s.data.toList:=by
 have h1:isIn (jW s).ps 0=false:=by unfold isIn Dp jW;simp
 have h2:fO (jW s).ns 0=false:=by unfold fO;simp
 have h3:jt (jW s).ps=true:=by unfold jt jW;simp [nR,gi]
 have h4:gs (jW s).ns 0=s:=rfl;unfold aF;rw [if_neg (by simp [jW]),if_neg (by simp [jW]),if_neg (by simp [jW]),if_pos h3];show (dP (mj (jW s).ps (jW s).ns) 1==0)=_;simp only [dP,if_true];unfold mj;rw [h1,h2,h4];cases bD s.data.toList<;>simp
end
end Go.Proofs.YtfomhlbhcifgbaaGreatDoor
