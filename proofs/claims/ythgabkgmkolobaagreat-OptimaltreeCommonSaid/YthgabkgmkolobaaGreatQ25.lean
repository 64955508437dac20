/- Plain and map help for optimaltree.Best. optimaltree.Best. slices.Compact at ints that .. -/
import Derived.Shelf.Lays2
import Derived.Shelf.Slices.CompactI
import Derived.Test.YthgabkgmkolobaaGreatQ24
set_option maxRecDepth 100000
set_option maxHeartbeats 4000000
namespace Go.Proofs.YthgabkgmkolobaaGreat
section
open Go.RowKit Go.Deep
def gR (aac:List ByteArray) (k:Nat):RT:=(cI aac).getD k (.node ByteArray.empty [])
theorem Pu {aac:List ByteArray} {k:Nat} (h:k<(cI aac).length):gt (allT aac) k=flat (gR aac k):=by
 unfold allT gR gt;simp [h]
theorem Vr {aac:List ByteArray} {k:Nat} (h:k<(cI aac).length):gR aac k∈cI aac:=by simp [gR,h]
theorem keyB_inj {aac:List ByteArray} (hn:gT aac) {j k:Nat} (hj:j<(cI aac).length) (hk:k<(cI aac).length) (e:cz (gR aac j)=cz (gR aac k)):gR aac j=gR aac k:=by
 have e1:fq (gR aac j)=fq (gR aac k):=by have:=congrArg (fun b:ByteArray=>b.data.toList) e;simpa [cz] using this
 exact tx_inj (jU hn (Vr hj)).1.good.qq (jU hn (Vr hk)).1.good.qq (List.append_cancel_right e1)
def xP (aac:List ByteArray) (aad:List (List Int)) (k:Nat):Int:=bz (gt (allT aac) k) aac aad
def K4 (aac:List ByteArray) (aad:List (List Int)):Nat->List (ByteArray×Value)
 | 0=>[]
 | n+1=>x8 (K4 aac aad n) (cz (gR aac n)) (.int .i64 (xP aac aad n))
theorem Vs (aac:List ByteArray) (aad:List (List Int)):∀n,Db (K4 aac aad n)
 | 0=>by unfold Db K4;simp
 | n+1=>Re (Vs aac aad n) _ _
theorem Vt {aac:List ByteArray} (hn:gT aac) (aad:List (List Int)) {k:Nat} (hk:k<(cI aac).length):∀ {n:Nat},n<=(cI aac).length->k<n->(K4 aac aad n).lookup (cz (gR aac k))=some (.int .i64 (xP aac aad k))
 | 0,_,h=>absurd h (bG _)
 | n+1,hle,h=>by
  rw [K4,KQ]
  split
  ·rename_i e
   have e2:=keyB_inj hn hk (show n<_ by omega) e
   unfold xP
   rw [Pu hk,Pu (show n<_ by omega),e2]
  ·rename_i e
   have:k≠n:=fun e3=>e (by rw [e3])
   exact Vt hn aad hk (by omega) (by omega)
def zJ (aac:List ByteArray) (aad:List (List Int)) (n:Nat):List az:=((allT aac).take n).filter fun t=>decide (bz t aac aad=cB aac aad)
theorem bstK_succ {aac:List ByteArray} (aad:List (List Int)) {n:Nat} (h:n<(allT aac).length):zJ aac aad (n+1)=zJ aac aad n++if xP aac aad n=cB aac aad then [gt (allT aac) n] else []:=by
 unfold zJ xP;rw [Pt h,vg];congr 1;by_cases e:bz (gt (allT aac) n) aac aad=cB aac aad
 ·rw [if_pos e];simp [e]
 ·rw [if_neg e];simp [e]
theorem bstK_all (aac:List ByteArray) (aad:List (List Int)):zJ aac aad (allT aac).length=eE aac aad:=by
 unfold zJ eE;rw [gh]
theorem Vu {aac:List ByteArray} {aad:List (List Int)} (hc:mR aac aad) {n:Nat} (h:n<(allT aac).length):0<=xP aac aad n/\xP aac aad n<=409600000:=by
 have ho:=(mM hc.nm (pZ h)).1;have h1:=J9 (f:=fun p=>dg (gt (allT aac) n) (iN (gt (allT aac) n) aac aad p) (bZ 16)) (n:=(gl aad 0).length) fun p hp=>⟨s9 (ru hc ho hp),Qe (ru hc ho hp)⟩;have h2:=(Vo hc.ag).2;unfold xP bz;omega
def Cb (aac:List ByteArray) (aad:List (List Int)) (n:Nat):Int:=sS (xP aac aad) n
theorem mnF_bd {aac:List ByteArray} {aad:List (List Int)} (hc:mR aac aad):∀ {n:Nat},n<=(allT aac).length -> -1<=Cb aac aad n/\Cb aac aad n<=409600000
 | 0,_=>by unfold Cb sS;omega
 | n+1,h=>by
  have h1:=mnF_bd hc (n:=n) (by omega)
  have h2:=Vu hc (n:=n) h
  unfold Cb at h1 ⊢
  rw [B8]
  split<;>omega
theorem mnF_succ (aac:List ByteArray) (aad:List (List Int)) (n:Nat):Cb aac aad (n+1)=if Cb aac aad n<0\/xP aac aad n<Cb aac aad n then xP aac aad n else Cb aac aad n:=rfl
theorem mnF_all (aac:List ByteArray) (aad:List (List Int)):Cb aac aad (allT aac).length=cB aac aad:=rfl
def rR (aac:List ByteArray) (aad:List (List Int)):Int:=if gL aac aad=0 then cB aac aad else 0
def l5 (aac:List ByteArray) (aad:List (List Int)):List az:=if gL aac aad=0 then eE aac aad else []
def yf (w:World) (aac:List ByteArray) (aad:List (List Int)) (e:Ending) (w':World):Prop :=
 Up w w'/\∃v,e=.returned (.tuple #[v,.int .i64 (rR aac aad),.int .i64 (gL aac aad)])/\fQ Any w' v (l5 aac aad)
def BeI (w:World) (aac:List ByteArray) (aad:List (List Int)) (n:Nat) (wr:World):Prop:=Up w wr/\SMap wr w.heap.size (K4 aac aad n)
def BeJ (w:World) (aac:List ByteArray) (aad:List (List Int)) (n:Nat) (out:Value) (wr:World):Prop:=Up w wr/\∃es:List rP,nw w.heap.size wr out es/\es.map (·.2)=zJ aac aad n
theorem Pw {aac:List ByteArray} (hn:gT aac) {k:Nat} (h:k<(cI aac).length):aH (gt (allT aac) k)=0/\oB (gt (allT aac) k) aac=true/\∀i,(gs (gt (allT aac) k).ns i).size<=70000:=by
 have h2:k<(allT aac).length:=by unfold allT;rw [aG];exact h
 have ho:=(mM hn (pZ h2)).1;refine ⟨ho.te,(B9 hn ho.te).2 ho,?_⟩;rw [Pu h];exact DZ (jU hn (Vr h)).1.good
theorem yg (S:Nat->Prop) (w:World) (v vs:Value) (aac:List ByteArray) (aad:List (List Int)) (h:au S w v aac) (hn:aac.length<=1000000) (hz:∀k,(gs aac k).size<=70000) (hS:aR S w vs aad) (ud:aad.length<=1000000) (hr:∀k,(gl aad k).length<=1000000) (h5:aac.length<=5\/7<aac.length) :
  Calls Tryz.prog 17 #[v,vs] w (yf w aac aad):=by
 have gy:=aa (RA S w v vs aac aad h hn hz hS ud hr);obtain ⟨mp,mc,rfl,-,-⟩:=ay.open h;have h:au S w (.slice mp aac.length mc) aac:=h;obtain ⟨sp,sc,rfl,-,-⟩:=dW hS;have HN:=aa h;have HS:=aa hS;have wU:Hid (gL aac aad=0->mR aac aad):=F8 h5;clear h hS hz hr h5
 go_enter Tryz.func17,Tryz.ntmps17
 go_wp2_with fail;refine gy.out.mono ?_;rintro e w1 ⟨rfl,bA⟩;by_cases c1:gL aac aad=0
 ·have hc:=wU.out c1
  have EU:=aa (Rx S w1 _ aac hc.nm (au.keep HN.out (bA.kept S)));have HC:=aa hc;have kA:Hid (∀W v,Up w W->fQ Any W v (eE aac aad)->yf w aac aad (.returned (.tuple #[v,.int .i64 (cB aac aad),.int .i64 0])) W):=fun W v hu ht=>⟨hu,v,by unfold rR;rw [c1];rfl,by unfold l5;rw [if_pos c1];exact ht⟩;have hl0:(allT aac).length=(cI aac).length:=by unfold allT;rw [aG]
  have kI:(cI aac).length<=15:=by rw [rO hc.nm];split<;>(try split)<;>(try split)<;>omega
  have HL:=aa (And.intro hl0 kI);have cA:=aa bA;rw [c1];clear c1 hc bA hl0 kI gy wU;go_wp2_with fail;refine EU.out.mono ?_;rintro e w2 ⟨aK,ev,rfl,Vv⟩;obtain ⟨eg,ec,rfl⟩:=RF Vv;have bD:=aa (cA.out.trans aK);have qO:=aa Vv;have wC:=aa (au.keep HN.out (bD.out.kept S));have oQ:=aa (aR.keep HS.out (bD.out.kept S));have qP:Hid (BeI w2 aac aad 0 (w2.alloc (.map #[] 0))):=⟨Up.alloc _ _,SMap.made _⟩;have hmm:=fun W=>run_makeMap (P:=Tryz.prog) 94 W;clear aK Vv EU cA;go_wp2_with fail;clear hmm
  go_loopw [4,5,6,11,13,14,15,36] (fun _ _ _ s _ _ _ i wr=>∃n:Nat,n<=(cI aac).length/\i=.int .i64 n/\s=.int .i64 (Cb aac aad n)/\Hid (BeI w2 aac aad n wr)) (fun _ _ _ _ _ _ _ i _=>(cI aac).length - (intOf i).toNat)
  case atStart=>exact ⟨0,aL _,rfl,rfl,qP.out⟩
  case round =>
   obtain ⟨n,hn,rfl,rfl,hI⟩:=hrel;obtain ⟨wo,rfl⟩:∃wo:World,wo=wr:=⟨_,rfl⟩;obtain ⟨mL,hM⟩:=hI.out;by_cases hlt:n<(cI aac).length
   ·obtain ⟨pp,pc,np,nc,c0,c1,c2,hT⟩:=LZ qO.out hlt
    replace c0:=mL.cell c0;replace c1:=mL.cell c1;replace c2:wo.cell? ⟨eg,n*3+2,none⟩=some (.string (cz (gR aac n))):=mL.cell c2;obtain ⟨te,fi,tz⟩:=Pw HC.out.nm hlt;have hbd:=Vu HC.out (n:=n) (by rw [HL.out.1];exact hlt);have hmb:=mnF_bd HC.out (n:=n) (by rw [HL.out.1];exact hn);have Zg:=aa (mnF_succ aac aad n);have hsc:yN (gt (allT aac) n) aac aad=.tuple #[.int .i64 (xP aac aad n),.int .i64 0]:=by unfold yN xP;rw [fi];rfl
    replace hT:aI Any wo (.agg #[.slice pp (gt (allT aac) n).ps.length pc,.slice np (gt (allT aac) n).ns.length nc]) (gt (allT aac) n):=aI.keep hT (mL.kept _);replace c0:wo.cell? ⟨eg,n*3,none⟩=some (.slice pp (gt (allT aac) n).ps.length pc):=c0;replace c1:wo.cell? ⟨eg,n*3+1,none⟩=some (.slice np (gt (allT aac) n).ns.length nc):=c1
    have xC:Hid (∀W,Up wo W->Calls Tryz.prog 69 #[.agg #[.slice pp (gt (allT aac) n).ps.length pc,.slice np (gt (allT aac) n).ns.length nc],.slice mp aac.length mc,.slice sp aad.length sc] W fun e w'=>e=.returned (.tuple #[.int .i64 (xP aac aad n),.int .i64 0])/\Up W w'):=fun W hW=>by rw [<- hsc];exact RD Any W _ _ _ _ aac aad (hT.keep (hW.kept _)) te tz ((au.keep wC.out ((mL.trans hW).kept S)).sub fun _ _ _=>trivial) ((aR.keep oQ.out ((mL.trans hW).kept S)).sub fun _ _ _=>trivial) HC.out
    have Zh:Hid (K4 aac aad (n+1)=x8 (K4 aac aad n) (cz (gR aac n)) (.int .i64 (xP aac aad n))):=rfl;have HUQ:=aa (Vs aac aad n);have HMo:=aa hM;have oV:=aa mL;have bu:=aa hlt;(have i4:(n:Int)<((cI aac).length:Int):=by omega);(have i5:(n:Int)<16:=by have:=HL.out.2;omega);clear hI mL hM te fi tz hsc hlt;generalize gt (allT aac) n=q at *;generalize cz (gR aac n)=key at *
    (have dz:Hid (Up wo (wo.alloc (.cells #[.slice pp q.ps.length pc,.slice np q.ns.length nc,.string key] 96))/\(wo.alloc (.cells #[.slice pp q.ps.length pc,.slice np q.ns.length nc,.string key] 96)).cell? ⟨wo.heap.size,2,none⟩=some (.string key)/\(wo.alloc (.cells #[.slice pp q.ps.length pc,.slice np q.ns.length nc,.string key] 96)).heap[w2.heap.size]? = wo.heap[w2.heap.size]?):=by refine ⟨Up.alloc _ _,aS wo _ _ 2,bI (Up.alloc wo _) _ HMo.out.lt⟩);have HSC0:=aa (xC.out _ dz.out.1);generalize xP aac aad n=f at *;generalize Cb aac aad n=m at *;go_wp2_with fail
    generalize wo.alloc (.cells #[.slice pp q.ps.length pc,.slice np q.ns.length nc,.string key] 96)=w7 at *;refine HSC0.out.mono ?_;rintro e w9 ⟨rfl,kN⟩;obtain ⟨qa,hk7,hm7⟩:=dz.out;have hk9:=kN.cell hk7;have hM9:SMap w9 w2.heap.size (K4 aac aad n):=HMo.out.same ((bI kN _ (by have:=qa.size;have:=HMo.out.lt;omega)).trans hm7);have Zi:=(oV.out.trans qa).trans kN;obtain ⟨w5,hrun,Oh,hs5,xm,zY,Jg,qG⟩:=UC (P:=Tryz.prog) Tryz.underlying94 Tryz.underlying9 hM9 HUQ.out key (.int .i64 f)
    have HI5:Hid (BeI w2 aac aad (n+1) w5):=⟨⟨xm.trans Zi.os,zY.trans Zi.tape,Jg.trans Zi.output,by rw [hs5];exact Zi.size,fun b hb=>(qG b (by omega)).trans (Zi.block b hb)⟩,by rw [Zh.out];exact Oh⟩;clear Oh hs5 xm zY Jg qG hM9 Zi kN qa hk7 hm7 dz xC HSC0 hT c0 c1 c2;by_cases e1:m<0
    ·have HE:Hid (Cb aac aad (n+1)=f):=by unfold Hid;rw [Zg.out,if_pos (.inl e1)]
     (have d1:decide (m<0)=true:=by simp [e1]);clear Zg e1;go_wp2_with fail
     go_roundw
     case rel=>exact ⟨n+1,bu.out,by go_num,by rw [HE.out],HI5.out⟩
     case measure=>have:=bu.out;simp [intOf];omega
    ·have d1:decide (m<0)=false:=by simp;omega
     by_cases e2:f<m
     ·have HE:Hid (Cb aac aad (n+1)=f):=by unfold Hid;rw [Zg.out,if_pos (.inr e2)]
      (have d2:decide (f<m)=true:=by simp [e2]);clear Zg e1 e2;go_wp2_with fail
      go_roundw
      case rel=>exact ⟨n+1,bu.out,by go_num,by rw [HE.out],HI5.out⟩
      case measure=>have:=bu.out;simp [intOf];omega
     ·have HE:Hid (Cb aac aad (n+1)=m):=by unfold Hid;rw [Zg.out,if_neg (by omega)]
      (have d2:decide (f<m)=false:=by simp;omega);clear Zg e1 e2;go_wp2_with fail
      go_roundw
      case rel=>exact ⟨n+1,bu.out,by go_num,by rw [HE.out],HI5.out⟩
      case measure=>have:=bu.out;simp [intOf];omega
   ·obtain rfl:n=(cI aac).length:=by omega
    have HMB:=aa hM;have xM:=aa mL;have HEB:=aa (qO.out.keep mL);have G5:Hid (BeJ wo aac aad 0 (.slice none 0 0) wo):=⟨Up.refl _,[],nw.nil _ _,by simp [zJ]⟩;(have hlst:Cb aac aad (cI aac).length=cB aac aad:=by rw [<- HL.out.1];exact mnF_all aac aad);rw [hlst];clear hI mL hM hlt hlst;have HFX2:=aa (fun W v (hu:Up wo W) ht=>kA.out W v ((bD.out.trans xM.out).trans hu) ht);go_wp2_with fail
    go_loopw [16,18,66] (fun out _ i wr=>∃k:Nat,k<=(cI aac).length/\i=.int .i64 k/\Hid (BeJ wo aac aad k out wr)) (fun _ _ i _=>(cI aac).length - (intOf i).toNat)
    case atStart=>exact ⟨0,aL _,rfl,G5.out⟩
    case round =>
     obtain ⟨k,hk,rfl,hI⟩:=hrel;obtain ⟨wi,rfl⟩:∃wi:World,wi=wr:=⟨_,rfl⟩;obtain ⟨wD,es,hes,hem⟩:=hI.out;by_cases hlt:k<(cI aac).length
     ·obtain ⟨pp,pc,np,nc,c0,c1,c2,hT⟩:=LZ HEB.out hlt
      replace c0:=wD.cell c0;replace c1:=wD.cell c1;replace c2:wi.cell? ⟨eg,k*3+2,none⟩=some (.string (cz (gR aac k))):=wD.cell c2;(have hlt2:k<(allT aac).length:=by rw [HL.out.1];exact hlt);have vW:=aa (bstK_succ aad hlt2);have hlook:=Vt HC.out.nm aad hlt (n:=(cI aac).length) (af _) hlt;replace hT:aI (fun b=>b<wo.heap.size) wi (.agg #[.slice pp (gt (allT aac) k).ps.length pc,.slice np (gt (allT aac) k).ns.length nc]) (gt (allT aac) k):=aI.keep (hT.sub fun b _ hb=>hb) (wD.kept _)
      replace c0:wi.cell? ⟨eg,k*3,none⟩=some (.slice pp (gt (allT aac) k).ps.length pc):=c0;replace c1:wi.cell? ⟨eg,k*3+1,none⟩=some (.slice np (gt (allT aac) k).ns.length nc):=c1;generalize gt (allT aac) k=q at *;generalize cz (gR aac k)=key at *;have cE:=Up.alloc wi (.cells #[.slice pp q.ps.length pc,.slice np q.ns.length nc,.string key] 96);have hM7:SMap (wi.alloc (.cells #[.slice pp q.ps.length pc,.slice np q.ns.length nc,.string key] 96)) w2.heap.size (K4 aac aad (cI aac).length):=HMB.out.same (bI (wD.trans cE) _ HMB.out.lt)
      have hlk:=IY (P:=Tryz.prog) Tryz.underlying94 Tryz.underlying9 (zero_int _) hM7 key;rw [hlook] at hlk;simp only [Option.getD_some] at hlk;obtain ⟨op,oc,rfl⟩:=hes.form;obtain ⟨m,hm⟩:∃m,es.length=m:=⟨_,rfl⟩;(have hmk:m<=k:=by rw [<- hm];have:=congrArg List.length hem;rw [aG] at this;rw [this];unfold zJ;exact aJ (pG _ _) (by rw [gV];omega));rw [hm];have Dj:Hid (nw wo.heap.size (wi.alloc (.cells #[.slice pp q.ps.length pc,.slice np q.ns.length nc,.string key] 96)) (.slice op m oc) es):=by have h:=hes.up cE;rw [hm] at h;exact h
      (have U9:Hid (aI (fun b=>some b≠(Value.slice op m oc).ownBlock) (wi.alloc (.cells #[.slice pp q.ps.length pc,.slice np q.ns.length nc,.string key] 96)) (.agg #[.slice pp q.ps.length pc,.slice np q.ns.length nc]) q):=by have h2:=hes.1;rw [hm] at h2;exact (hT.keep (cE.kept _)).sub fun b hb _ e=>by have:=(j8 h2 b e.symm).1;omega);have K5:=aa (wD.trans cE);have Oc:=aa hem;have YT:=aa hm;have bu:=aa hlt;(have i4:(k:Int)<((cI aac).length:Int):=by omega);have i5:(k:Int)<16:=by have:=HL.out.2;omega
      (have HMK:Hid (m<=1000000):=by have:=HL.out.2;unfold Hid;omega);clear hI wD hes hem hlt hlt2 hT cE hm hlook hM7 hmk;generalize xP aac aad k=f at *;generalize cB aac aad=le at *;by_cases e1:f=le
      ·have d1:(f==le)=true:=by simp [e1]
       (have qb:Hid (zJ aac aad (k+1)=zJ aac aad k++[q]):=by unfold Hid;rw [vW.out,if_pos e1]);subst e1;go_wp2_with (at_builtin;refine Ca _ rfl _ _ 33 rfl wo.heap.size _ 48 Tryz.underlying33 Tryz.infoTree rfl (by decide) Dj.out rfl ((.slice pp q.ps.length pc,.slice np q.ns.length nc),q) (by rw [aQ];rfl) U9.out m YT.out HMK.out K5.out.size ?_;intro g8 oz w8 fH ic B6;have Va:=aa fH;have qQ:=aa B6;clear fH ic B6)
       go_roundw
       case rel=>exact ⟨k+1,bu.out,by go_num,iH (show Below wo.heap.size wo _ from K5.out) qQ.out,_,Va.out,by rw [qb.out,cg,Oc.out];rfl⟩
       case measure=>have:=bu.out;simp [intOf];omega
      ·have d1:(f==le)=false:=by simp [e1]
       (have qb:Hid (zJ aac aad (k+1)=zJ aac aad k):=by unfold Hid;rw [vW.out,if_neg e1,gN]);clear e1;go_wp2_with fail
       go_roundw
       case rel=>exact ⟨k+1,bu.out,by go_num,K5.out,_,Dj.out,by rw [qb.out,Oc.out]⟩
       case measure=>have:=bu.out;simp [intOf];omega
     ·obtain rfl:k=(cI aac).length:=by omega
      (have B7:es.map (·.2)=eE aac aad:=by rw [hem,<- HL.out.1,bstK_all]);obtain ⟨op,oc,rfl⟩:=hes.form;have tC:=aa (HFX2.out wi _ wD (B7 ▸ hes.trees));clear hI wD hes hem B7 hlt;go_wp2_with fail;exact ⟨rfl,.tuple #[.slice op es.length oc,.int .i64 (cB aac aad),.int .i64 0],by simp [results,Tryz.results17,go_sem],tC.out⟩
 ·have kA:Hid (yf w aac aad (.returned (.tuple #[.slice none 0 0,.int .i64 0,.int .i64 (gL aac aad)])) w1):=by
   refine ⟨bA,.slice none 0 0,?_,?_⟩
   ·unfold rR;rw [if_neg c1]
   ·unfold l5;rw [if_neg c1];exact fQ.nil _ _
  generalize gL aac aad=a at *
  clear bA gy
  go_wp2_with fail
  exact ⟨rfl,.tuple #[.slice none 0 0,.int .i64 0,.int .i64 a],by simp [results,Tryz.results17,go_sem],kA.out⟩
end
end Go.Proofs.YthgabkgmkolobaaGreat
namespace Go.Proofs
open Go.Shelf
end Go.Proofs
namespace Go.Proofs.YthgabkgmkolobaaGreat
section
open Go.RowKit Go.Shelf Go.Deep Go.Sort
end
section
open Go
theorem tW (l:List Int) (j:Nat):l.toArray[j]! = gi l j:=by
 unfold gi;by_cases h:j<l.length
 ·simp [h]
 ·simp [h]
theorem D2 (l:List Int) (x:Int):∀m,x∈Lib.compactUpTo l.toArray m↔∃j,j<m/\gi l j=x
 | 0=>by simp [Lib.compactUpTo]
 | m+1=>by
  rw [Lib.compactUpTo_succ,dV,D2 l x m,tW]
  constructor
  ·rintro (⟨j,hj,e⟩ | h)
   ·exact ⟨j,by omega,e⟩
   ·by_cases hk:Lib.keeps l.toArray m=true
    ·rw [if_pos hk] at h;exact ⟨m,by omega,(dP.1 h).symm⟩
    ·rw [if_neg hk] at h;cases h
  ·rintro ⟨j,hj,e⟩
   by_cases hjm:j=m
   ·subst hjm
    by_cases hk:Lib.keeps l.toArray j=true
    ·rw [if_pos hk];exact .inr (by simp [e])
    ·unfold Lib.keeps at hk
     rw [tW,tW] at hk
     simp only [decide_eq_true_eq,not_or,ne_eq,Fo] at hk
     exact .inl ⟨j - 1,by omega,by rw [<- hk.2];exact e⟩
   ·exact .inl ⟨j,by omega,e⟩
theorem Hg {l:List Int} (hs:∀i j,i<j->j<l.length->gi l i<=gi l j):∀m,m<=l.length->(Lib.compactUpTo l.toArray m).Nodup
 | 0,_=>by simp [Lib.compactUpTo]
 | m+1,h=>by
  rw [Lib.compactUpTo_succ,nR]
  refine ⟨Hg hs m (by omega),by split<;>simp,fun a ha b hb e=>?_⟩
  subst e
  obtain ⟨j,hj,e⟩:=(D2 l a m).1 ha
  by_cases hk:Lib.keeps l.toArray m=true
  ·rw [if_pos hk,tW] at hb
   have hb:a=gi l m:=by simpa using hb
   unfold Lib.keeps at hk
   rw [tW,tW] at hk
   simp only [decide_eq_true_eq,ne_eq] at hk
   have hne:gi l m≠gi l (m - 1):=hk.resolve_left (by omega)
   have h1:gi l j<=gi l (m - 1):=by
    by_cases e2:j=m - 1
    ·rw [e2];exact lT _
    ·exact hs j (m - 1) (by omega) (by omega)
   have h2:=hs (m - 1) m (by omega) (by omega)
   omega
  ·rw [if_neg hk] at hb;cases hb
theorem sortL_le (xs:List Int):∀i j,i<j->j<(jC xs).length->gi (jC xs) i<=gi (jC xs) j:=fun i j hij hj=>by
 have hp:(jC xs).Pairwise fun a b=>decide (a<=b)=true:=List.pairwise_mergeSort (le:=fun x y=>decide (x<=y)) (fun a b c h1 h2=>by simp at *;omega) (fun a b=>by simp;omega) xs
 have:=nS.1 hp i j (by omega) hj hij
 have hi:i<(jC xs).length:=by omega
 simpa [gi,hi,hj] using this
theorem mem_sortL {xs:List Int} {x:Int}:x∈jC xs↔x∈xs:=(Ee xs _).mem_iff
theorem RG (xs:List Int):(Lib.compact (jC xs)).length=(dd xs).length:=by
 have hn:=Hg (sortL_le xs) _ (af _);have hm:∀x,x∈Lib.compact (jC xs)↔x∈dd xs:=fun x=>by
  unfold Lib.compact;rw [D2,mE,<- mem_sortL];constructor
  ·rintro ⟨j,hj,e⟩;rw [<- e];exact mq hj
  ·intro h;exact zl h
 exact Nat.le_antisymm (CI hn fun x hx=>(hm x).1 hx) (CI (vI xs) fun x hx=>(hm x).2 hx)
end
section
open Go.RowKit Go.Deep
theorem F9 {w:World} {B n:Nat} {xs:List (List Int)} (hn:n=xs.length) (f:Nat->Value) (hc:∀k,k<n->w.cell? ⟨B,k,none⟩=some (f k)) (hr:∀k,k<n->ah Any w (f k) (gl xs k)):aR Any w (.slice (some ⟨B,0,none⟩) n n) xs:=by
 subst hn;refine ⟨f,⟨_,_,rfl,af _,.inr ⟨_,0,rfl,trivial,fun k hk=>?_⟩⟩,fun k hk=>hr k hk⟩;rw [mg];exact hc k hk
theorem Vw (k:Nat):(gs jK k).size<=70000:=lF (M:=70000) (by decide) k
theorem Cc {l:List (List Int)} (h:∀x∈l,x.length<=1000000) (k:Nat):(gl l k).length<=1000000:=by
 by_cases hk:k<l.length
 ·have:gl l k=l[k]:=by simp [gl,hk]
  rw [this];exact h _ (lg hk)
 ·have:gl l k=[]:=by simp [gl,show l.length<=k by omega]
  rw [this];simp
theorem SN (s:ByteArray) (h:s.size - 1<s.size) (KM:16<s.size) (GY:((s[s.size - 1].toNat:Int)==42)=true):b7 s.data.toList=false:=by
 have hl:=size_data s;have h2:s[s.size - 1]=42:=by
  have h3:(s[s.size - 1].toNat:Int)=42:=by simpa using GY
  have h4:s[s.size - 1].toNat=42:=by omega
  exact UInt8.toNat_inj.1 h4
 unfold b7;rw [FR s h,h2,if_pos rfl,hl,decide_eq_false (by omega),Bool.and_false]
theorem leafR34_t (s:ByteArray) (hs:s.size<=70000) (w:World):Calls Tryz.prog 150 #[.string s] w fun e w'=>e=.returned (.bool (b7 s.data.toList))/\Below w.heap.size w w':=by
 go_enter Tryz.func150,Tryz.ntmps150
 go_wp2_with fail
 ·have hf:=aa (FT s (by omega) (by omega) ‹_›)
  refine (tq _ (by simp;omega) _).mono ?_
  rintro e w1 ⟨rfl,hb⟩
  rw [<- hf.out]
  go_wp2_with fail
  go_ret
  exact ⟨rfl,hb⟩
 ·have hf:=aa (SN s (by omega) (by omega) ‹_›)
  go_ret
  exact ⟨aV (by rw [hf.out]),dM _ _⟩
 ·have hf:=aa (DU s (by omega) ‹_›)
  refine (tq _ hs _).mono ?_
  rintro e w1 ⟨rfl,hb⟩
  rw [<- hf.out]
  go_wp2_with fail
  go_ret
  exact ⟨rfl,hb⟩
 ·have hf:=aa (II s (by omega))
  refine (tq _ hs _).mono ?_
  rintro e w1 ⟨rfl,hb⟩
  rw [<- hf.out]
  go_wp2_with fail
  go_ret
  exact ⟨rfl,hb⟩
theorem indexR34_t (S:Nat->Prop) (w:World) (v:Value) (aac:List ByteArray) (s:ByteArray) (h:au S w v aac) (hn:aac.length<=1000000) :
  Calls Tryz.prog 143 #[v,.string s] w fun e w'=>e=.returned (.int .i64 (iD aac s))/\w=w':=by
 obtain ⟨p,cap,rfl,hcap,-⟩:=ay.open h;have h:au S w (.slice p aac.length cap) aac:=h;have HF:Hid (iD aac s=dI (fun j=>decide (s=gs aac j)) aac.length):=rfl;have HN:=aa h;clear h
 go_enter Tryz.func143,Tryz.ntmps143
 go_wp2_with fail
 go_loop [4,5] (fun _ i=>∃k:Nat,k<=aac.length/\i=.int .i64 k/\Hid (∀j,j<k->decide (s=gs aac j)=false)) (fun _ i=>aac.length - (intOf i).toNat)
 case atStart=>exact ⟨0,aL _,rfl,fun j hj=>absurd hj (bG _)⟩
 case round =>
  obtain ⟨k,hk,rfl,hd⟩:=hrel;by_cases hlt:k<aac.length
  ·obtain ⟨b,off,rfl,hc⟩:=dr HN.out hlt
   (have uo:Hid (decide (s=gs aac k)=true->(k:Int)=iD aac s):=fun h1=>by rw [HF.out];exact (iK (p:=fun j=>decide (s=gs aac j)) hlt hd.out h1).symm);have HX:Hid (∀j,j<k+1->¬j=k->decide (s=gs aac j)=false):=fun j hj h1=>hd.out j (by omega);(have HK:Hid (∀j,j<k+1->decide (s=gs aac k)=false->decide (s=gs aac j)=false):=fun j hj h1=>if e:j=k then by subst e;exact h1 else HX.out j hj e);generalize gs aac k=nm at *;go_wp2_with fail
   ·have hx:=O4 ‹(nm.toList==s.toList)=true›
    go_ret;exact ⟨aM (uo.out (by simpa using hx.symm)),rfl⟩
   ·have hx:=Th ‹(nm.toList==s.toList)=false›
    go_round
    case rel=>exact ⟨k+1,by omega,by go_num,fun j hj=>HK.out j hj (by simpa using fun e=>hx e.symm)⟩
    case measure=>simp [intOf];omega
  ·obtain rfl:k=aac.length:=by omega
   (have HE:Hid (iD aac s = -1):=by unfold Hid;rw [HF.out];exact fI hd.out);go_wp2_with fail;go_ret;exact ⟨aM HE.out.symm,rfl⟩
def grN (aac:List ByteArray):Bool:=(List.range aac.length).any fun i=>decide (20<(gs aac i).size)
def vu (n:Nat):Bool:=(decide (6<n)&&decide (n<=4096)) || decide (4098<n)
def grS (aad:List (List Int)):Bool:=(List.range aad.length).any fun i=>vu (gl aad i).length
def Ka (n m:Nat):Bool:=(decide (5<n)&&decide (n<=7)) || decide (10<n) || decide (10<m)
def oD (aac:List ByteArray) (aad:List (List Int)):Bool:=grN aac || grS aad || Ka aac.length aad.length
structure Px (aac:List ByteArray) (aad:List (List Int)):Prop where
 nm:∀k,(gs aac k).size<=20
 row:∀k,(gl aad k).length<=6\/(4096<(gl aad k).length/\(gl aad k).length<=4098)
 n5:aac.length<=5\/(7<aac.length/\aac.length<=10)
 m10:aad.length<=10
theorem E1 {aac:List ByteArray} {aad:List (List Int)} (h:oD aac aad=false):Px aac aad:=by
 unfold oD at h;rw [CF,CF] at h;obtain ⟨⟨h1,h2⟩,h3⟩:=h;refine ⟨fun k=>?_,fun k=>?_,?_,?_⟩
 ·by_cases hk:k<aac.length
  ·have:=of_decide_eq_false (any_false h1 hk)
   omega
  ·have:gs aac k=ByteArray.empty:=by simp [gs,hk]
   rw [this];exact aL _
 ·by_cases hk:k<aad.length
  ·have:=any_false h2 hk
   unfold vu at this;simp at this;omega
  ·have:gl aad k=[]:=by simp [gl,hk]
   rw [this];exact .inl (aL _)
 ·unfold Ka at h3
  simp at h3;omega
 ·unfold Ka at h3
  simp at h3;omega
theorem RH (S T:Nat->Prop) (w:World) (v vs:Value) (aac:List ByteArray) (aad:List (List Int)) (h:au S w v aac) (hS:aR T w vs aad) (hn:aac.length<=9223372036854775807) (hz:∀k,(gs aac k).size<=9223372036854775807) (hm:aad.length<=9223372036854775807) (hr:∀k,(gl aad k).length<=9223372036854775807) :
  Calls Tryz.prog 59 #[v,vs] w fun e w'=>e=.returned (.bool (oD aac aad))/\w=w':=by
 obtain ⟨p,cap,rfl,hcap,-⟩:=ay.open h;have h:au S w (.slice p aac.length cap) aac:=h;obtain ⟨sp,sc,rfl,-,-⟩:=dW hS;have HG:Hid (oD aac aad=(grN aac || grS aad || Ka aac.length aad.length)):=rfl;have HGN:Hid (grN aac=(List.range aac.length).any fun i=>decide (20<(gs aac i).size)):=rfl;have IA:Hid (grS aad=(List.range aad.length).any fun i=>vu (gl aad i).length):=rfl;have HN:=aa h;have HS:=aa hS;have HZ:=aa hz;have HR:=aa hr;clear h hS hz hr
 go_enter Tryz.func59,Tryz.ntmps59
 go_wp2_with fail
 go_loop [5] (fun i=>∃k:Nat,k<=aac.length/\i=.int .i64 k/\Hid (∀j,j<k->decide (20<(gs aac j).size)=false)) (fun i=>aac.length - (intOf i).toNat)
 case atStart=>exact ⟨0,aL _,rfl,fun j hj=>absurd hj (bG _)⟩
 case round =>
  obtain ⟨k,hk,rfl,hd⟩:=hrel;by_cases hlt:k<aac.length
  ·obtain ⟨b,off,rfl,hc⟩:=dr HN.out hlt
   (have uo:Hid (20<(gs aac k).size->grN aac=true):=fun h1=>by rw [HGN.out];exact Ei hlt (decide_eq_true h1));(have HX:Hid (¬20<(gs aac k).size->∀j,j<k+1->decide (20<(gs aac j).size)=false):=fun h1 j hj=>if e:j=k then by subst e;exact decide_eq_false h1 else hd.out j (by omega));have hsz:=HZ.out k;generalize gs aac k=nm at *;by_cases h20:20<nm.size
   ·have HF:Hid (oD aac aad=true):=by unfold Hid;rw [HG.out,uo.out h20];rfl
    go_wp2_with fail;go_ret;exact ⟨aV HF.out.symm,rfl⟩
   ·have zh:=aa (HX.out h20)
    go_wp2_with fail
    go_round
    case rel=>exact ⟨k+1,by omega,by go_num,zh.out⟩
    case measure=>simp [intOf];omega
  ·obtain rfl:k=aac.length:=by omega
   (have HNF:Hid (grN aac=false):=by unfold Hid;rw [HGN.out];exact any_none hd.out);clear hd hlt hk;go_wp2_with fail
   go_loop [6,7] (fun i _=>∃k:Nat,k<=aad.length/\i=.int .i64 k/\Hid (∀j,j<k->vu (gl aad j).length=false)) (fun i _=>aad.length - (intOf i).toNat)
   case atStart=>exact ⟨0,aL _,rfl,fun j hj=>absurd hj (bG _)⟩
   case round =>
    obtain ⟨k,hk,rfl,hd⟩:=hrel;by_cases hlt:k<aad.length
    ·obtain ⟨b,off,r0,r1,rfl,hc,-⟩:=gP HS.out hlt
     (have uo:Hid (vu (gl aad k).length=true->grS aad=true):=fun h1=>by rw [IA.out];exact Ei hlt h1);(have HX:Hid (vu (gl aad k).length=false->∀j,j<k+1->vu (gl aad j).length=false):=fun h1 j hj=>if e:j=k then by subst e;exact h1 else hd.out j (by omega));have hsz:=HR.out k;have Y2:Hid (vu (gl aad k).length=((decide (6<(gl aad k).length)&&decide ((gl aad k).length<=4096)) || decide (4098<(gl aad k).length))):=rfl;generalize (gl aad k).length=m at *
     (have key:(6<m/\m<=4096/\vu m=true)\/(6<m/\4096<m/\4098<m/\vu m=true)\/(6<m/\4096<m/\m<=4098/\vu m=false)\/(m<=6/\vu m=false):=by rw [Y2.out];by_cases q1:6<m<;>by_cases q2:m<=4096<;>by_cases q3:4098<m<;>simp [q1,q2,q3]<;>omega);rcases key with ⟨q1,q2,q⟩ | ⟨q1,q2,q3,q⟩ | ⟨q1,q2,q3,q⟩ | ⟨q1,q⟩
     ·have HF:Hid (oD aac aad=true):=by unfold Hid;rw [HG.out,uo.out q];simp
      (have d1:decide (6<(m:Int))=true:=by simp;omega);(have d2:decide ((m:Int)<=4096)=true:=by simp;omega);clear uo HX Y2 q;go_wp2_with fail
      all_goals (go_ret;exact ⟨aV HF.out.symm,rfl⟩)
     ·have HF:Hid (oD aac aad=true):=by unfold Hid;rw [HG.out,uo.out q];simp
      (have d1:decide (6<(m:Int))=true:=by simp;omega);(have d2:decide ((m:Int)<=4096)=false:=by simp;omega);(have d3:decide (4098<(m:Int))=true:=by simp;omega);clear uo HX Y2 q;go_wp2_with fail
      all_goals (go_ret;exact ⟨aV HF.out.symm,rfl⟩)
     ·have zh:=aa (HX.out q)
      (have d1:decide (6<(m:Int))=true:=by simp;omega);(have d2:decide ((m:Int)<=4096)=false:=by simp;omega);(have d3:decide (4098<(m:Int))=false:=by simp;omega);clear uo HX Y2 q;go_wp2_with fail
      go_round
      case rel=>exact ⟨k+1,by omega,by go_num,zh.out⟩
      case measure=>simp [intOf];omega
     ·have zh:=aa (HX.out q)
      (have d1:decide (6<(m:Int))=false:=by simp;omega);(have d3:decide (4098<(m:Int))=false:=by simp;omega);clear uo HX Y2 q;go_wp2_with fail
      go_round
      case rel=>exact ⟨k+1,by omega,by go_num,zh.out⟩
      case measure=>simp [intOf];omega
    ·obtain rfl:k=aad.length:=by omega
     (have Vp:Hid (grS aad=false):=by unfold Hid;rw [IA.out];exact any_none hd.out);(have HF:Hid (oD aac aad=Ka aac.length aad.length):=by unfold Hid;rw [HG.out,HNF.out,Vp.out];simp);have HT:Hid (Ka aac.length aad.length=((decide (5<aac.length)&&decide (aac.length<=7)) || decide (10<aac.length) || decide (10<aad.length))):=rfl;clear hd hlt hk HG HGN IA HNF Vp HN HS HZ HR;generalize aac.length=n at *;generalize aad.length=m at *;by_cases q1:5<n
     ·by_cases q2:n<=7
      ·have HB:Hid (oD aac aad=true):=by unfold Hid;rw [HF.out,HT.out];simp [q1,q2]
       go_wp2_with fail
       all_goals (go_ret;refine ⟨aV ?_,rfl⟩;first | (rw [HB.out];done) | (rw [HB.out];simp;done) | (rw [HB.out];simp;omega))
      ·by_cases q3:10<n
       ·have HB:Hid (oD aac aad=true):=by unfold Hid;rw [HF.out,HT.out];simp [q3]
        go_wp2_with fail
        all_goals (go_ret;refine ⟨aV ?_,rfl⟩;first | (rw [HB.out];done) | (rw [HB.out];simp;done) | (rw [HB.out];simp;omega))
       ·by_cases q4:10<m
        ·have HB:Hid (oD aac aad=true):=by unfold Hid;rw [HF.out,HT.out];simp [q4]
         go_wp2_with fail
         all_goals (go_ret;refine ⟨aV ?_,rfl⟩;first | (rw [HB.out];done) | (rw [HB.out];simp;done) | (rw [HB.out];simp;omega))
        ·have HB:Hid (oD aac aad=false):=by unfold Hid;rw [HF.out,HT.out];simp [q2,q3,q4]
         go_wp2_with fail
         all_goals (go_ret;refine ⟨aV ?_,rfl⟩;first | (rw [HB.out];done) | (rw [HB.out];simp;done) | (rw [HB.out];simp;omega))
     ·have q3:¬10<n:=by omega
      by_cases q4:10<m
      ·have HB:Hid (oD aac aad=true):=by unfold Hid;rw [HF.out,HT.out];simp [q4]
       go_wp2_with fail
       all_goals (go_ret;refine ⟨aV ?_,rfl⟩;first | (rw [HB.out];done) | (rw [HB.out];simp;done) | (rw [HB.out];simp;omega))
      ·have HB:Hid (oD aac aad=false):=by unfold Hid;rw [HF.out,HT.out];simp [q1,q3,q4]
       go_wp2_with fail
       all_goals (go_ret;refine ⟨aV ?_,rfl⟩;first | (rw [HB.out];done) | (rw [HB.out];simp;done) | (rw [HB.out];simp;omega))
end
end Go.Proofs.YthgabkgmkolobaaGreat
