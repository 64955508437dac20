/- optimaltree.Best. -/
import Derived.Test.YtfomhlbhcifgbaaGreatDoorQ48
set_option maxRecDepth 100000
set_option maxHeartbeats 4000000
namespace Go.Proofs.YtfomhlbhcifgbaaGreatDoor
open Go.RowKit Go.Deep
def zi (acF:List ByteArray) (acG:List (List Int)):Int:=if fG acF acG=0 then dY acF acG else 0
def Cr (acF:List ByteArray) (acG:List (List Int)):List aA:=if fG acF acG=0 then eY acF acG else []
def wJ (w:World) (acF:List ByteArray) (acG:List (List Int)) (e:Ending) (w':World):Prop :=
 Up w w'/\∃v,e=.returned (.tuple #[v,.int .i64 (zi acF acG),.int .i64 (fG acF acG)])/\l7 Any w' v (Cr acF acG)
def Za (w:World) (acF:List ByteArray) (acG:List (List Int)) (n:Nat) (wr:World):Prop:=Up w wr/\SMap wr w.heap.size (Aa acF acG n)
def BeJ (w:World) (acF:List ByteArray) (acG:List (List Int)) (n:Nat) (out:Value) (wr:World):Prop:=Up w wr/\∃es:List nh,kS w.heap.size wr out es/\es.map (·.2)=qB acF acG n
theorem Ve {acF:List ByteArray} (hn:iE acF) {k:Nat} (h:k<(dN acF).length):aF (gt (allT acF) k)=0/\qz (gt (allT acF) k) acF=true/\∀i,(gs (gt (allT acF) k).ns i).size<=70000:=by
 have h2:k<(allT acF).length:=by unfold allT;rw [aD];exact h
 have ho:=(ri hn (yF h2)).1;refine ⟨ho.te,(Ik hn ho.te).2 ho,?_⟩;rw [Dl h];exact pM (iX hn (I3 h)).1.good
theorem Si (S:Nat->Prop) (w:World) (v vs:Value) (acF:List ByteArray) (acG:List (List Int)) (h:aC S w v acF) (hn:acF.length<=1000000) (hz:∀k,(gs acF k).size<=70000) (hS:aS S w vs acG) (FB:acG.length<=1000000) (hr:∀k,(gl acG k).length<=1000000) (h5:acF.length<=5\/7<acF.length) :
  Calls Tryz.prog 7 #[v,vs] w (wJ w acF acG):=by
 have fo:=aa (Ov S w v vs acF acG h hn hz hS FB hr);obtain ⟨mp,mc,rfl,-,-⟩:=aB.open h;have h:aC S w (.slice mp acF.length mc) acF:=h;obtain ⟨sp,sc,rfl,-,-⟩:=eE hS;have HN:=aa h;have HS:=aa hS;have xN:Hid (fG acF acG=0->lG acF acG):=Cj h5;clear h hS hz hr h5;go_in;go_wp2_with fail;refine fo.out.mono ?_;rintro e w1 ⟨rfl,aM⟩;by_cases c1:fG acF acG=0
 ·have hc:=xN.out c1
  have IM:=aa (O0 S w1 _ acF hc.nm (aC.keep HN.out (aM.kept S)));have HC:=aa hc;have ny:Hid (∀W v,Up w W->l7 Any W v (eY acF acG)->wJ w acF acG (.returned (.tuple #[v,.int .i64 (dY acF acG),.int .i64 0])) W):=fun W v hu ht=>⟨hu,v,by unfold zi;rw [c1];rfl,by unfold Cr;rw [if_pos c1];exact ht⟩;have hl0:(allT acF).length=(dN acF).length:=by unfold allT;rw [aD]
  have ki:(dN acF).length<=15:=by rw [wm hc.nm];split<;>(try split)<;>(try split)<;>omega
  have HL:=aa (And.intro hl0 ki);have bU:=aa aM;rw [c1];clear c1 hc aM hl0 ki fo xN;go_wp2_with fail;refine IM.out.mono ?_;rintro e w2 ⟨aK,ev,rfl,Zb⟩;obtain ⟨eg,ec,rfl⟩:=Pg Zb;have bF:=aa (bU.out.trans aK);have Ow:=aa Zb;have Nr:=aa (aC.keep HN.out (bF.out.kept S));have td:=aa (aS.keep HS.out (bF.out.kept S));have uX:Hid (Za w2 acF acG 0 (w2.alloc (.map #[] 0))):=⟨Up.alloc _ _,SMap.made _⟩;have hmm:=fun W=>run_makeMap (P:=Tryz.prog) 60 W;clear aK Zb IM bU;go_wp2_with fail;clear hmm
  go_loopw [4,5,6,11,13,14,15,36] (fun _ _ _ s _ _ _ i wr=>∃n:Nat,n<=(dN acF).length/\i=.int .i64 n/\s=.int .i64 (su acF acG n)/\Hid (Za w2 acF acG n wr)) (fun _ _ _ _ _ _ _ i _=>(dN acF).length - (intOf i).toNat)
  case atStart=>exact ⟨0,bg _,rfl,rfl,uX.out⟩
  case round =>
   obtain ⟨n,hn,rfl,rfl,hI⟩:=hrel;obtain ⟨wo,rfl⟩:=e9 wr;obtain ⟨oG,hM⟩:=hI.out;by_cases hlt:n<(dN acF).length
   ·obtain ⟨pp,pc,np,nc,c0,c1,c2,hT⟩:=I1 Ow.out hlt
    replace c0:=oG.cell c0;replace c1:=oG.cell c1;replace c2:wo.cell? ⟨eg,n*3+2,none⟩=some (.string (eM (gR acF n))):=oG.cell c2;obtain ⟨te,fi,tz⟩:=Ve HC.out.nm hlt;have hbd:=Po HC.out (n:=n) (by rw [HL.out.1];exact hlt);have hmb:=Pp HC.out (n:=n) (by rw [HL.out.1];exact hn);have KI:=aa (Sc acF acG n);have hsc:tL (gt (allT acF) n) acF acG=.tuple #[.int .i64 (qj acF acG n),.int .i64 0]:=by unfold tL qj;rw [fi];rfl
    replace hT:aJ Any wo (.agg #[.slice pp (gt (allT acF) n).ps.length pc,.slice np (gt (allT acF) n).ns.length nc]) (gt (allT acF) n):=aJ.keep hT (oG.kept _);replace c0:wo.cell? ⟨eg,n*3,none⟩=some (.slice pp (gt (allT acF) n).ps.length pc):=c0;replace c1:wo.cell? ⟨eg,n*3+1,none⟩=some (.slice np (gt (allT acF) n).ns.length nc):=c1
    have xV:Hid (∀W,Up wo W->Calls Tryz.prog 23 #[.agg #[.slice pp (gt (allT acF) n).ps.length pc,.slice np (gt (allT acF) n).ns.length nc],.slice mp acF.length mc,.slice sp acG.length sc] W fun e w'=>e=.returned (.tuple #[.int .i64 (qj acF acG n),.int .i64 0])/\Up W w'):=fun W hW=>by rw [<- hsc];exact OH Any W _ _ _ _ acF acG (hT.keep (hW.kept _)) te tz ((aC.keep Nr.out ((oG.trans hW).kept S)).sub fun _ _ _=>trivial) ((aS.keep td.out ((oG.trans hW).kept S)).sub fun _ _ _=>trivial) HC.out
    have HMS:Hid (Aa acF acG (n+1)=rU (Aa acF acG n) (eM (gR acF n)) (.int .i64 (qj acF acG n))):=rfl;have HUQ:=aa (I4 acF acG n);have Zc:=aa hM;have wQ:=aa oG;have bf:=aa hlt;(have i4:(n:Int)<((dN acF).length:Int):=by omega);(have i5:(n:Int)<16:=by have:=HL.out.2;omega);clear hI oG hM te fi tz hsc hlt;generalize gt (allT acF) n=q at *;generalize eM (gR acF n)=key at *
    (have aZ:Hid (Up wo (wo.alloc (.cells #[.slice pp q.ps.length pc,.slice np q.ns.length nc,.string key] 62))/\(wo.alloc (.cells #[.slice pp q.ps.length pc,.slice np q.ns.length nc,.string key] 62)).cell? ⟨wo.heap.size,2,none⟩=some (.string key)/\(wo.alloc (.cells #[.slice pp q.ps.length pc,.slice np q.ns.length nc,.string key] 62)).heap[w2.heap.size]? = wo.heap[w2.heap.size]?):=by refine ⟨Up.alloc _ _,bE wo _ _ 2,aO (Up.alloc wo _) _ Zc.out.lt⟩);have Zd:=aa (xV.out _ aZ.out.1);generalize qj acF acG n=f at *;generalize su acF acG n=m at *;go_wp2_with fail
    generalize wo.alloc (.cells #[.slice pp q.ps.length pc,.slice np q.ns.length nc,.string key] 62)=w7 at *;refine Zd.out.mono ?_;rintro e w9 ⟨rfl,jD⟩;obtain ⟨Ab,hk7,hm7⟩:=aZ.out;have hk9:=jD.cell hk7;have hM9:SMap w9 w2.heap.size (Aa acF acG n):=Zc.out.same ((aO jD _ (by have:=Ab.size;have:=Zc.out.lt;omega)).trans hm7);have KJ:=(wQ.out.trans Ab).trans jD;obtain ⟨w5,hrun,hm5,hs5,Nk,ht5,Ze,l8⟩:=Qy (P:=Tryz.prog) Tryz.underlying60 Tryz.underlying9 hM9 HUQ.out key (.int .i64 f)
    have KB:Hid (Za w2 acF acG (n+1) w5):=⟨⟨Nk.trans KJ.os,ht5.trans KJ.tape,Ze.trans KJ.output,by rw [hs5];exact KJ.size,fun b hb=>(l8 b (by omega)).trans (KJ.block b hb)⟩,by rw [HMS.out];exact hm5⟩;clear hm5 hs5 Nk ht5 Ze l8 hM9 KJ jD Ab hk7 hm7 aZ xV Zd hT c0 c1 c2;by_cases e1:m<0
    ·have HE:Hid (su acF acG (n+1)=f):=by unfold Hid;rw [KI.out,if_pos (.inl e1)]
     (have d1:decide (m<0)=true:=by simp [e1]);clear KI e1;go_wp2
     go_roundw
     case rel=>exact ⟨n+1,bf.out,by go_num,by rw [HE.out],KB.out⟩
     case measure=>have:=bf.out;simp [intOf];omega
    ·have d1:decide (m<0)=false:=by simp;omega
     by_cases e2:f<m
     ·have HE:Hid (su acF acG (n+1)=f):=by unfold Hid;rw [KI.out,if_pos (.inr e2)]
      (have d2:decide (f<m)=true:=by simp [e2]);clear KI e1 e2;go_wp2
      go_roundw
      case rel=>exact ⟨n+1,bf.out,by go_num,by rw [HE.out],KB.out⟩
      case measure=>have:=bf.out;simp [intOf];omega
     ·have HE:Hid (su acF acG (n+1)=m):=by unfold Hid;rw [KI.out,if_neg (by omega)]
      (have d2:decide (f<m)=false:=by simp;omega);clear KI e1 e2;go_wp2
      go_roundw
      case rel=>exact ⟨n+1,bf.out,by go_num,by rw [HE.out],KB.out⟩
      case measure=>have:=bf.out;simp [intOf];omega
   ·obtain rfl:n=(dN acF).length:=by omega
    have Ot:=aa hM;have Pu:=aa oG;have HEB:=aa (Ow.out.keep oG);have Yp:Hid (BeJ wo acF acG 0 (.slice none 0 0) wo):=⟨Up.refl _,[],kS.nil _ _,by simp [qB]⟩;(have Zf:su acF acG (dN acF).length=dY acF acG:=by rw [<- HL.out.1];exact Vd acF acG);rw [Zf];clear hI oG hM hlt Zf;have aa0:=aa (fun W v (hu:Up wo W) ht=>ny.out W v ((bF.out.trans Pu.out).trans hu) ht);go_wp2
    go_loopw [16,18,66] (fun out _ i wr=>∃k:Nat,k<=(dN acF).length/\i=.int .i64 k/\Hid (BeJ wo acF acG k out wr)) (fun _ _ i _=>(dN acF).length - (intOf i).toNat)
    case atStart=>exact ⟨0,bg _,rfl,Yp.out⟩
    case round =>
     obtain ⟨k,hk,rfl,hI⟩:=hrel;obtain ⟨wi,rfl⟩:=e9 wr;obtain ⟨gD,es,hes,hem⟩:=hI.out;by_cases hlt:k<(dN acF).length
     ·obtain ⟨pp,pc,np,nc,c0,c1,c2,hT⟩:=I1 HEB.out hlt
      replace c0:=gD.cell c0;replace c1:=gD.cell c1;replace c2:wi.cell? ⟨eg,k*3+2,none⟩=some (.string (eM (gR acF k))):=gD.cell c2;(have hlt2:k<(allT acF).length:=by rw [HL.out.1];exact hlt);have xT:=aa (Pn acG hlt2);have TU:=I5 HC.out.nm acG hlt (n:=(dN acF).length) (aj _) hlt;replace hT:aJ (fun b=>b<wo.heap.size) wi (.agg #[.slice pp (gt (allT acF) k).ps.length pc,.slice np (gt (allT acF) k).ns.length nc]) (gt (allT acF) k):=aJ.keep (hT.sub fun b _ hb=>hb) (gD.kept _)
      replace c0:wi.cell? ⟨eg,k*3,none⟩=some (.slice pp (gt (allT acF) k).ps.length pc):=c0;replace c1:wi.cell? ⟨eg,k*3+1,none⟩=some (.slice np (gt (allT acF) k).ns.length nc):=c1;generalize gt (allT acF) k=q at *;generalize eM (gR acF k)=key at *;have hal:=Up.alloc wi (.cells #[.slice pp q.ps.length pc,.slice np q.ns.length nc,.string key] 62);have hM7:SMap (wi.alloc (.cells #[.slice pp q.ps.length pc,.slice np q.ns.length nc,.string key] 62)) w2.heap.size (Aa acF acG (dN acF).length):=Ot.out.same (aO (gD.trans hal) _ Ot.out.lt)
      have hlk:=M8 (P:=Tryz.prog) Tryz.underlying60 Tryz.underlying9 (Q5 _) hM7 key;rw [TU] at hlk;simp only [Option.getD_some] at hlk;obtain ⟨op,oc,rfl⟩:=hes.form;obtain ⟨m,hm⟩:∃m,es.length=m:=⟨_,rfl⟩;(have hmk:m<=k:=by rw [<- hm];have:=congrArg List.length hem;rw [aD] at this;rw [this];unfold qB;exact aV (mP _ _) (by rw [iy];omega));rw [hm];have EK:Hid (kS wo.heap.size (wi.alloc (.cells #[.slice pp q.ps.length pc,.slice np q.ns.length nc,.string key] 62)) (.slice op m oc) es):=by have h:=hes.up hal;rw [hm] at h;exact h
      (have YU:Hid (aJ (fun b=>some b≠(Value.slice op m oc).ownBlock) (wi.alloc (.cells #[.slice pp q.ps.length pc,.slice np q.ns.length nc,.string key] 62)) (.agg #[.slice pp q.ps.length pc,.slice np q.ns.length nc]) q):=by have h2:=hes.1;rw [hm] at h2;exact (hT.keep (hal.kept _)).sub fun b hb _ e=>by have:=(mq h2 b e.symm).1;omega);have Zg:=aa (gD.trans hal);have O5:=aa hem;have Yy:=aa hm;have bf:=aa hlt;(have i4:(k:Int)<((dN acF).length:Int):=by omega);have i5:(k:Int)<16:=by have:=HL.out.2;omega
      (have VL:Hid (m<=1000000):=by have:=HL.out.2;unfold Hid;omega);clear hI gD hes hem hlt hlt2 hT hal hm TU hM7 hmk;generalize qj acF acG k=f at *;generalize dY acF acG=le at *;by_cases e1:f=le
      ·have d1:(f==le)=true:=by simp [e1]
       (have Ac:Hid (qB acF acG (k+1)=qB acF acG k++[q]):=by unfold Hid;rw [xT.out,if_pos e1]);subst e1;go_wp2_with (at_builtin;refine IW _ rfl _ _ 29 rfl wo.heap.size _ 48 Tryz.underlying29 Tryz.infoTree rfl (by decide) EK.out rfl ((.slice pp q.ps.length pc,.slice np q.ns.length nc),q) (by rw [aN];rfl) YU.out m Yy.out VL.out Zg.out.size ?_;intro g8 mY w8 cD eC jC;have tj:=aa cD;have lg:=aa jC;clear cD eC jC)
       go_roundw
       case rel=>exact ⟨k+1,bf.out,by go_num,dI (show Below wo.heap.size wo _ from Zg.out) lg.out,_,tj.out,by rw [Ac.out,cm,O5.out];rfl⟩
       case measure=>have:=bf.out;simp [intOf];omega
      ·have d1:(f==le)=false:=by simp [e1]
       (have Ac:Hid (qB acF acG (k+1)=qB acF acG k):=by unfold Hid;rw [xT.out,if_neg e1,gm]);clear e1;go_wp2
       go_roundw
       case rel=>exact ⟨k+1,bf.out,by go_num,Zg.out,_,EK.out,by rw [Ac.out,O5.out]⟩
       case measure=>have:=bf.out;simp [intOf];omega
     ·obtain rfl:k=(dN acF).length:=by omega
      (have IP:es.map (·.2)=eY acF acG:=by rw [hem,<- HL.out.1,Sb]);obtain ⟨op,oc,rfl⟩:=hes.form;have tJ:=aa (aa0.out wi _ gD (IP ▸ hes.trees));clear hI gD hes hem IP hlt;go_wp2_with fail;exact ⟨rfl,.tuple #[.slice op es.length oc,.int .i64 (dY acF acG),.int .i64 0],by simp [results,Tryz.results7,go_sem],tJ.out⟩
 ·have ny:Hid (wJ w acF acG (.returned (.tuple #[.slice none 0 0,.int .i64 0,.int .i64 (fG acF acG)])) w1):=by
   refine ⟨aM,.slice none 0 0,?_,?_⟩
   ·unfold zi;rw [if_neg c1]
   ·unfold Cr;rw [if_neg c1];exact l7.nil _ _
  generalize fG acF acG=a at *
  clear aM fo
  go_wp2_with fail
  exact ⟨rfl,.tuple #[.slice none 0 0,.int .i64 0,.int .i64 a],by simp [results,Tryz.results7,go_sem],ny.out⟩
end Go.Proofs.YtfomhlbhcifgbaaGreatDoor
