/- The contract of layer 32's reference's .. -/
import Derived.Test.YthgabkgmkolobaaGreatQ41
set_option maxRecDepth 100000
set_option maxHeartbeats 8000000
namespace Go.Proofs.YthgabkgmkolobaaGreat
open Go.RowKit Go.Deep
def zS (t:ax) (amd:List ByteArray) (k i j:Nat):Bool:=decide (gs t.ns j=gs amd i)&&fJ t.ps k j
def xI (t:ax) (amd:List ByteArray) (k i m:Nat):Bool:=(List.range m).any (zS t amd k i)
def nT (t:ax) (amd:List ByteArray) (k:Nat):Nat->List Int
 | 0=>[]
 | i+1=>nT t amd k i++if xI t amd k i t.ns.length=true then [(i:Int)] else []
theorem Sv (t:ax) (amd:List ByteArray) (k:Nat):∀i,(nT t amd k i).length<=i
 | 0=>ah _
 | i+1=>by
  have:=Sv t amd k i
  rw [nT,bg]
  split<;>simp<;>omega
theorem Sw (t:ax) (amd:List ByteArray) (k i m:Nat):xI t amd k i (m+1)=(xI t amd k i m || zS t amd k i m):=by
 unfold xI;rw [pU,List.any_append];simp
theorem ac6 {t:ax} {amd:List ByteArray} (h:jG t amd) {k i:Nat} (hi:i<amd.length) {a b:Nat} (ha:a<t.ns.length) (hb:b<t.ns.length) (h1:zS t amd k i a=true) (h2:zS t amd k i b=true):a=b:=by
 obtain ⟨_,_,hl,_,_⟩:=aH h.te;unfold zS at h1 h2;simp only [eF,decide_eq_true_eq] at h1 h2;obtain ⟨j,hj,h0,e⟩:=zA h hi;have e1:gs t.ns a=gs t.ns j:=by rw [h1.1,e]
 have e2:gs t.ns b=gs t.ns j:=by rw [h2.1,e]
 have ho:eN t j:=⟨h.te,hj,h0⟩;exact (ho.inj hj (by omega) h0 e1.symm).symm.trans (ho.inj hj (by omega) h0 e2.symm)
theorem ac7 {t:ax} {amd:List ByteArray} (h:jG t amd) {k i:Nat} (hi:i<amd.length) {m:Nat} (hm:m<t.ns.length) (hq:zS t amd k i m=true):xI t amd k i m=false:=by
 refine any_none fun j hj=>?_;cases e:zS t amd k i j with
 | false=>rfl
 | true=>have:=ac6 h hi (by omega) hm e hq;omega
theorem afp {t:ax} {amd:List ByteArray} (h:jG t amd) (k:Nat) {i:Nat} (hi:i<amd.length):xI t amd k i t.ns.length=(List.range t.ps.length).any fun j=>fJ t.ps k j&&decide ((gs t.ns j).size≠0)&&decide (dD amd (gs t.ns j)=(i:Int)):=by
 obtain ⟨_,_,hl,_,_⟩:=aH h.te;rw [mW];unfold xI;rw [dx,dx];constructor
 ·rintro ⟨j,hj,hq⟩
  have hj:=bu.1 hj;unfold zS at hq;simp only [eF,decide_eq_true_eq] at hq;obtain ⟨j2,hj2,h0,e⟩:=zA h hi;refine ⟨j,bu.2 (by omega),?_⟩;simp only [eF,decide_eq_true_eq];exact ⟨⟨hq.2,by rw [hq.1,<- e];exact h0⟩,by rw [hq.1];exact tj h.nd hi⟩
 ·rintro ⟨j,hj,hq⟩
  have hj:=bu.1 hj;simp only [eF,decide_eq_true_eq] at hq;obtain ⟨b,hb,e⟩:=h.has j hj hq.1.2;have h1:=tj h.nd hb;rw [e,hq.2] at h1;have:b=i:=by omega
  subst this;refine ⟨j,bu.2 (by omega),?_⟩;unfold zS;rw [eF];exact ⟨decide_eq_true e.symm,hq.1.1⟩
theorem ac8 {t:ax} {amd:List ByteArray} (h:jG t amd) (k:Nat):nT t amd k amd.length=bD t amd k:=by
 have hX:∀i,i<=amd.length->nT t amd k i=iT (fun b=>(List.range t.ps.length).any fun j=>fJ t.ps k j&&decide ((gs t.ns j).size≠0)&&decide (dD amd (gs t.ns j)=b)) i:=by
  intro i
  induction i with
  | zero=>exact fun _=>rfl
  | succ i ih =>
   intro hi;rw [wJ,nT,ih (by omega),afp h k (by omega)]
 exact hX _ (ah _)
theorem aai {t:ax} {amd:List ByteArray} {k n base:Nat} {w:World} {v:Value} (h:au base 3 w v ((nT t amd k n).map (Value.int .i64))):au base 3 w v ((nT t amd k n++if xI t amd k n 0=true then [(n:Int)] else []).map (Value.int .i64)):=by
 rw [show xI t amd k n 0=false from rfl];simpa using h
theorem Sy {t:ax} {amd:List ByteArray} {k n m base:Nat} {w:World} {v:Value} (hq:zS t amd k n m=false) (h:au base 3 w v ((nT t amd k n++if xI t amd k n m=true then [(n:Int)] else []).map (Value.int .i64))):au base 3 w v ((nT t amd k n++if xI t amd k n (m+1)=true then [(n:Int)] else []).map (Value.int .i64)):=by
 rw [Sw,hq,Bool.or_false];exact h
theorem ac9 {t:ax} {amd:List ByteArray} {k n m base:Nat} {w:World} {v:Value} (hp:xI t amd k n m=false) (h:au base 3 w v ((nT t amd k n++if xI t amd k n m=true then [(n:Int)] else []).map (Value.int .i64))):au base 3 w v ((nT t amd k n).map (Value.int .i64)):=by
 rw [hp] at h;simpa using h
theorem ada {t:ax} {amd:List ByteArray} {k n m base:Nat} {w:World} {v:Value} (hq:zS t amd k n m=true) (h:au base 3 w v ((nT t amd k n).map (Value.int .i64)++[.int .i64 (n:Int)])):au base 3 w v ((nT t amd k n++if xI t amd k n (m+1)=true then [(n:Int)] else []).map (Value.int .i64)):=by
 rw [Sw,hq,Bool.or_true,if_pos rfl,cg];exact h
theorem adb {t:ax} {amd:List ByteArray} {k:Nat} (hk:1<=k) (h:aV amd.length (cu amd.length (bD t amd k))≠0):gZ t amd (k+1 - 1)=gZ t amd (k - 1):=by
 obtain ⟨d,rfl⟩:∃d,k=d+1:=⟨k - 1,by omega⟩;rw [wm,wm,gZ,if_neg h]
theorem LO {t:ax} {amd:List ByteArray} {k:Nat} (hk:1<=k) (h:aV amd.length (cu amd.length (bD t amd k))=0):gZ t amd (k+1 - 1)=zR (cu amd.length (bD t amd k)) (gZ t amd (k - 1)):=by
 obtain ⟨d,rfl⟩:∃d,k=d+1:=⟨k - 1,by omega⟩;rw [wm,wm,gZ,if_pos h]
theorem aaj {s:List Int} {l:List (List Int)} {a:Nat} (ha:a<l.length) (hb:∀j,j<a->cmpL (gl l j) s<0) (hc:¬cmpL (gl l a) s<0) (e:gl l a=s):zR s l=l:=by
 have h:=aah (Nat.le_of_lt ha) hb (.inr hc);rw [Bg,<- h,if_pos ⟨ha,e⟩]
theorem Va {s:List Int} {l:List (List Int)} {a:Nat} (ha:a<=l.length) (hb:∀j,j<a->cmpL (gl l j) s<0) (hc:a=l.length\/(¬cmpL (gl l a) s<0/\gl l a≠s)):zR s l=l.take a++s::l.drop a:=by
 have h:=aah ha hb (hc.imp id fun h=>h.1);rw [Bg,<- h,if_neg];rintro ⟨h1,h2⟩;rcases hc with hc | hc
 ·omega
 ·exact hc.2 h2
theorem ah2 {W:World} {g:Nat} {f:Nat->Value} {rows:List (List Int)} (h1:∀k,k<rows.length->W.cell? ⟨g,0+k,none⟩=some (f k)) (h2:∀k,k<rows.length->af Any W (f k) (gl rows k)) {k:Nat} (hk:k<rows.length) :
  ∃q c,W.cell? ⟨g,k,none⟩=some (.slice q (gl rows k).length c)/\af Any W (.slice q (gl rows k).length c) (gl rows k):=by
 have hc:=h1 k hk;have hi:=h2 k hk;obtain ⟨q,c,e,-,-⟩:=aq.open hi;rw [e] at hc hi;exact ⟨q,c,by simpa using hc,hi⟩
theorem afq {w w':World} {t:ax} {amd:List ByteArray} {c:Int} (hE:cF t amd=c) (hc:c≠0) (hu:Up w w'):CG w t amd (.returned (.tuple #[.slice none 0 0,.int .i64 c])) w':=by
 refine ⟨hu,.slice none 0 0,by rw [hE],?_⟩;have h0:dP t amd=[]:=by unfold dP;rw [if_neg (by rw [hE];exact hc)]
 rw [h0];exact ⟨fun _=>undef,⟨none,0,rfl,ah _,.inl rfl⟩,fun k hk=>absurd hk (aZ _)⟩
theorem KL {t:ax} {amd:List ByteArray} {k:Nat} (h:amd.length<=32):(cu amd.length (bD t amd k)).length<=64:=by
 unfold cu;split
 ·rw [ZJ];have:=U0 (bD t amd k) amd.length;omega
 ·have h1:(bD t amd k).length<=amd.length:=nR _ _
  omega
theorem Vb (t:ax) (amd:List ByteArray) (k:Nat) {a:Nat} (ha:a<(gZ t amd k).length) (h:amd.length<=32):(gl (gZ t amd k) a).length<=1000000:=by
 obtain ⟨j,_,_,_,e⟩:=Gp.1 (YF ha);rw [e];have:=KL (t:=t) (k:=j) h;omega
theorem nU {b:Nat} {w x y:World} (h:Below b w x) (h2:Below b x y):Below b w y:=iz h h2
theorem Sz {w x:World} (h:Below w.heap.size w x) {a:Addr} {v:Value} (hc:w.cell? a=some v):x.cell? a=some v:=Up.cell h hc
theorem ah3 {w w':World} {t:ax} {amd:List ByteArray} {u:Value} (hE:cF t amd=0) (hu:Up w w') (hr:aT Any w' u (dP t amd)):CG w t amd (.returned (.tuple #[u,.int .i64 0])) w' :=
 ⟨hu,u,by rw [hE],hr⟩
theorem Vc (S T:Nat->Prop) (w:World) (v vs:Value) (t:ax) (amd:List ByteArray) (hT:aG S w v t) (hV:aj T w vs amd) (hp:t.ps.length<=1000000) (hn:t.ns.length<=1000000) (hz:∀k,(gs t.ns k).size<=70000) (hnl:amd.length<=1000000) :
  Calls Tryz.prog 113 #[v,vs] w (CG w t amd):=by
 obtain ⟨P,N,rfl,hP,hN⟩:=hT;obtain ⟨pp,pc,rfl,-,-⟩:=aq.open hP;obtain ⟨np,nc,rfl,-,-⟩:=aq.open hN;obtain ⟨mp,mc,rfl,-,-⟩:=aq.open hV;have hP:af S w (.slice pp t.ps.length pc) t.ps:=hP;have hN:aj S w (.slice np t.ns.length nc) t.ns:=hN;have hV:aj T w (.slice mp amd.length mc) amd:=hV;have hu:=Up.alloc w (.cells #[.slice pp t.ps.length pc,.slice np t.ns.length nc] 39);have b0:=iq w (.slice pp t.ps.length pc) (.slice np t.ns.length nc) 39;have b1:=jg w (.slice pp t.ps.length pc) (.slice np t.ns.length nc) 39;have mz:=aa b0;have mO:=aa b1;have HT:Hid (aG S (w.alloc (.cells #[.slice pp t.ps.length pc,.slice np t.ns.length nc] 39)) (.agg #[.slice pp t.ps.length pc,.slice np t.ns.length nc]) t):=aG.keep ⟨_,_,rfl,hP,hN⟩ (hu.kept _);have HN:=aa (aj.keep hN (hu.kept _));have HV:=aa (aj.keep hV (hu.kept _));have HU:=aa hu;have HF:=aa (ac5 S T _ _ _ t amd HT.out HV.out hp hn hz hnl);clear hu hP hN hV hn hz hp hnl;go_in;go_wp2_with fail;generalize w.alloc (.cells #[.slice pp t.ps.length pc,.slice np t.ns.length nc] 39)=w1 at *;generalize w.heap.size=tb at *;refine HF.out.mono ?_;rintro e w2 ⟨rfl,aI⟩;have b0:=aI.cell mz.out;have b1:=aI.cell mO.out;have b7:=aa aI;clear aI HF;by_cases h0:cF t amd=0
 case neg =>
  have HZ:=aa h0;have e1:(cF t amd != 0)=true:=by simpa using h0
  have I3:Hid (∀c,cF t amd=c->c≠0->CG w t amd (.returned (.tuple #[.slice none 0 0,.int .i64 c])) w2):=fun c h1 h2=>afq h1 h2 (HU.out.trans b7.out);obtain ⟨c,hc⟩:∃c,c=cF t amd:=⟨_,rfl⟩;rw [<- hc] at e1;rw [<- hc];have HC:=aa hc;clear h0 hc;go_wp2_with fail;exact ⟨rfl,.tuple #[.slice none 0 0,.int .i64 c],by simp [results,Tryz.results113,go_sem],I3.out c HC.out.symm (by rw [HC.out];exact HZ.out)⟩
 case pos =>
 have jk:=aa (oD.1 h0);have HE:=aa h0;rw [h0];have dM:Hid (0<t.ps.length/\t.ps.length<=64/\t.ns.length=t.ps.length/\jB t.ps=true):=by obtain ⟨h1,h2,h3,h4,_⟩:=aH jk.out.te;exact ⟨h1,h2,by omega,h4⟩
 clear h0;have HOI:Hid (OI (w2.alloc (.cells #[] 26)) (.slice (some ⟨w2.heap.size,0,none⟩) 0 0) []):=⟨_,_,fun _=>undef,rfl,ah _,fun k hk=>absurd hk (aZ _),fun k hk=>absurd hk (aZ _)⟩;have nX:=aa (Up.alloc w2 (.cells #[] 26));have WR:=aa (nX.out.cell b0);have WS:=aa (nX.out.cell b1);go_wp2_with fail;clear b0 b1
 go_loopw [7,8] (fun o i wr=>∃k:Nat,1<=k/\k<=t.ps.length/\i=.int .i64 k/\Hid (OI wr o (gZ t amd (k - 1)))/\Hid (Up (w2.alloc (.cells #[] 26)) wr)) (fun _ i _=>t.ps.length - (intOf i).toNat)
 case atStart=>exact ⟨1,ah _,dM.out.1,rfl,HOI.out,Up.refl _⟩
 case round =>
  obtain ⟨k,hk1,hk,rfl,hO,cz⟩:=hrel;obtain ⟨wo,rfl⟩:=eM wr;have lu:=aa (b7.out.trans (nX.out.trans cz.out));have b0:=cz.out.cell WR.out;have b1:=cz.out.cell WS.out;by_cases hlt:k<t.ps.length
  case neg =>(obtain rfl:k=t.ps.length:=by omega);have hR:=hO.out.rows;(have hS:gZ t amd (t.ps.length - 1)=dP t amd:=by unfold dP;rw [afn dM.out.1,if_pos HE.out]);rw [hS] at hR;have HR:=aa hR;(have i1:¬(t.ps.length:Int)<(t.ps.length:Int):=by omega);clear hR hS hlt hk hk1 hO cz;go_wp2_with fail;exact ⟨rfl,.tuple #[_,.int .i64 0],by simp [results,Tryz.results113,go_sem],ah3 HE.out (HU.out.trans lu.out) HR.out⟩
  case pos =>
  have HTo:=aa (HT.out.keep (lu.out.kept _));have Vd:=aa (aj.keep HN.out (lu.out.kept _));have HVo:=aa (aj.keep HV.out (lu.out.kept _));have i2:(k:Int)<(t.ps.length:Int):=by omega
  have HK:=aa (And.intro hk1 hlt);have HO:=aa hO.out;have B0o:=aa b0;have B1o:=aa b1;have KC:=aa cz.out;have i4:(k:Int)<64:=by have:=dM.out.2.1;omega
  have HM:=aa (au.made wo 3);have HUM:=aa (Up.alloc wo (.cells #[] 3));clear hk1 hk hlt hO cz;go_wp2_with fail;clear b0 b1
  go_loopw [9,10] (fun o i wr=>∃n:Nat,n<=amd.length/\i=.int .i64 n/\Hid (au wo.heap.size 3 wr o ((nT t amd k n).map (Value.int .i64)))/\Hid (Up wo wr)) (fun _ i _=>amd.length - (intOf i).toNat)
  case atStart=>exact ⟨0,aF _,rfl,HM.out,HUM.out⟩
  case round =>
   obtain ⟨n,hn,rfl,hO,cz⟩:=hrel;obtain ⟨wi,rfl⟩:=eM wr;by_cases hlt:n<amd.length
   case pos =>
    obtain ⟨nb,no,rfl,fG⟩:=cH HVo.out hlt;(have i5:(n:Int)<(amd.length:Int):=by omega);(have i6:(0:Int)<=(n:Int):=by omega);(have i7:(n:Int)<64:=by have:=jk.out.le;omega);have b1:=cz.out.cell B1o.out;have jD:=aa fG;have ux:=aa hlt;have He:=aa cz.out;have NY:=aa (aai hO.out);clear fG hlt hn cz hO;go_wp2
    go_loopw [9,11] (fun o i wr=>∃m:Nat,m<=t.ns.length/\i=.int .i64 m/\Hid (au wo.heap.size 3 wr o ((nT t amd k n++if xI t amd k n m=true then [(n:Int)] else []).map (Value.int .i64)))/\Hid (Up wo wr)) (fun _ i _=>t.ns.length - (intOf i).toNat)
    case atStart=>exact ⟨0,aF _,rfl,NY.out,He.out⟩
    case round =>
     obtain ⟨m,hm,rfl,hO,cz⟩:=hrel;obtain ⟨wj,rfl⟩:=eM wr;have Ve:=aa cz.out;have b0:=Ve.out.cell B0o.out;have b1:=Ve.out.cell B1o.out;by_cases hlt:m<t.ns.length
     case pos =>
      obtain ⟨xb,xo,rfl,qx⟩:=cH (aj.keep Vd.out (Ve.out.kept _)) hlt;(have i8:(m:Int)<(t.ns.length:Int):=by omega);(have i9:(0:Int)<=(m:Int):=by omega);(have i10:(m:Int)<64:=by have:=dM.out.2.1;have:=dM.out.2.2.1;omega);have fG:=cz.out.cell jD.out;have DZ:=aa (And.intro hm hlt);have Bh:=aa hO.out;have ade:=aa cz.out;have HQ:Hid (zS t amd k n m=(decide (gs t.ns m=gs amd n)&&fJ t.ps k m)):=rfl;have oM:=aa (fun W (hW:Up wj W)=>W4 S W _ t m k (HTo.out.keep ((Ve.out.trans hW).kept _)) dM.out.2.2.2 (by have:=dM.out.2.2.1;omega) HK.out.2);by_cases e:gs t.ns m=gs amd n
      case neg =>
       (have t1:((gs t.ns m).toList==(gs amd n).toList)=false:=by rw [Bf];exact decide_eq_false e);(have Vf:Hid (zS t amd k n m=false):=by unfold Hid;rw [HQ.out,decide_eq_false e];rfl);have R3:=aa (Sy Vf.out Bh.out);clear e hlt hm hO cz Bh HQ;generalize gs t.ns m=xs at *;generalize gs amd n=ys at *;go_wp2;(go_quiet (fail));go_wp2
       go_roundw
       case rel=>exact ⟨m+1,DZ.out.2,by go_num,R3.out.kept fun b hb hl=>rfl,ade.out.trans (Up.drewN _ _)⟩
       case measure=>have:=DZ.out.2;simp [intOf];omega
      case pos =>
       (have t1:((gs t.ns m).toList==(gs amd n).toList)=true:=by rw [Bf];exact decide_eq_true e);cases hh:fJ t.ps k m
       case false =>
        rw [hh] at oM;(have Vf:Hid (zS t amd k n m=false):=by unfold Hid;rw [HQ.out,hh,Bool.and_false]);have R3:=aa (Sy Vf.out Bh.out);clear e hlt hm hO cz Bh HQ hh;generalize gs t.ns m=xs at *;generalize gs amd n=ys at *;go_wp2_with fail;have cQ:Hid (Up wj (wj.drewN 1)):=Up.drewN wj 1;have HCX:=aa qx;have adf:=aa fG;have adg:=aa b0;have adh:=aa b1;clear qx fG b0 b1
        go_region_held3 (fun w'=>Hid (Up wj w')/\w'.cell? ⟨tb,0,none⟩=some (.slice pp t.ps.length pc)/\w'.cell? ⟨tb,1,none⟩=some (.slice (some ⟨xb,xo,none⟩) t.ns.length nc)/\w'.cell? ⟨xb,xo+m,none⟩=some (.string xs)/\w'.cell? ⟨nb,no+n,none⟩=some (.string ys)) (exact ⟨cQ,cQ.out.cell adg.out,cQ.out.cell adh.out,cQ.out.cell HCX.out,cQ.out.cell adf.out⟩) (first | (go_at_call 152;refine (oM.out _ cQ.out).mono ?_;rintro e w' ⟨rfl,hu⟩;have cQ:Hid (Up wj w'):=cQ.out.trans hu;clear hu))
        have HOW:=aa (R3.out.kept fun b _ hl=>bH cQ.out b hl);have kZ:=aa cQ.out;clear cQ;go_wp2
        go_roundw
        case rel=>exact ⟨m+1,DZ.out.2,by go_num,HOW.out,ade.out.trans kZ.out⟩
        case measure=>have:=DZ.out.2;simp [intOf];omega
       case true =>
        rw [hh] at oM;(have Vf:Hid (zS t amd k n m=true):=by unfold Hid;rw [HQ.out,hh,decide_eq_true e];rfl);have R3:=aa (ac9 (ac7 jk.out ux.out hlt Vf.out) Bh.out);have dG:Hid (((nT t amd k n).map (Value.int .i64)).length=(nT t amd k n).length):=aD _;(have eO:Hid ((nT t amd k n).length<=1000000):=by have:=Sv t amd k n;have:=ux.out;have:=jk.out.le;unfold Hid;omega);clear e hlt hm hO cz Bh HQ hh;generalize gs t.ns m=xs at *;generalize gs amd n=ys at *;go_wp2_with fail;have cQ:Hid (Up wj (wj.drewN 1)):=Up.drewN wj 1;have HCX:=aa qx;have adf:=aa fG;have adg:=aa b0;have adh:=aa b1;clear qx fG b0 b1
        go_region_held3 (fun w'=>Hid (Up wj w')/\w'.cell? ⟨tb,0,none⟩=some (.slice pp t.ps.length pc)/\w'.cell? ⟨tb,1,none⟩=some (.slice (some ⟨xb,xo,none⟩) t.ns.length nc)/\w'.cell? ⟨xb,xo+m,none⟩=some (.string xs)/\w'.cell? ⟨nb,no+n,none⟩=some (.string ys)) (exact ⟨cQ,cQ.out.cell adg.out,cQ.out.cell adh.out,cQ.out.cell HCX.out,cQ.out.cell adf.out⟩) (first | (go_at_call 152;refine (oM.out _ cQ.out).mono ?_;rintro e w' ⟨rfl,hu⟩;have cQ:Hid (Up wj w'):=cQ.out.trans hu;clear hu))
        have HOW:=aa (R3.out.kept fun b _ hl=>bH cQ.out b hl);have kZ:=aa cQ.out;have hsz:=(Ve.out.trans kZ.out).size;clear cQ;go_wp2_with (at_builtin;refine qg _ rfl _ _ 26 rfl wo.heap.size 3 (.int .i64 0) 8 Tryz.underlying26 Tryz.iD rfl (by decide) HOW.out rfl (.int .i64 (n:Int)) _ rfl rfl rfl _ dG.out eO.out hsz ?_;intro g8 kM w8 hown1 acG gC)
        go_roundw
        case rel=>exact ⟨m+1,DZ.out.2,by go_num,ada Vf.out hown1,iz (ade.out.trans kZ.out) gC⟩
        case measure=>have:=DZ.out.2;simp [intOf];omega
     case neg =>
      (obtain rfl:m=t.ns.length:=by omega);have Bh:=aa hO.out;(have i8:¬(t.ns.length:Int)<(t.ns.length:Int):=by omega);have nB:Hid (nT t amd k (n+1)=nT t amd k n++if xI t amd k n t.ns.length=true then [(n:Int)] else []):=rfl;rw [<- nB.out] at Bh;clear hlt hm hO cz;go_wp2
      go_roundw
      case rel=>exact ⟨n+1,ux.out,by go_num,Bh.out,Ve.out⟩
      case measure=>have:=ux.out;simp [intOf];omega
   case neg =>
    (obtain rfl:n=amd.length:=by omega);have Bh:=aa hO.out;rw [ac8 jk.out k] at Bh;have He:=aa cz.out;(have i5:¬(amd.length:Int)<(amd.length:Int):=by omega);clear hlt hn hO cz;have kU:Hid (cu amd.length (bD t amd k)=if (bD t amd k).contains 0 then bG amd.length (bD t amd k) else (bD t amd k)):=rfl;have dG:Hid ((bD t amd k).length<=32):=aB (nR _ _) jk.out.le;have HI:=aa Bh.out.ints;have HH:=aa (CF _ wi _ _ 0 HI.out (by have:=dG.out;omega));have acI:Hid (eD (bD t amd k)):=⟨vG _ _ _,fun x hx=>by have h1:=l7.1 hx;have h2:=jk.out.le;omega⟩;have Aw:=aa (NM _ wi _ amd.length _ HI.out (by have:=dG.out;omega) jk.out.le acI.out (fun x hx=>(l7.1 hx).2.1));go_wp2_with fail;refine HH.out.mono ?_;rintro e wi2 ⟨rfl,rfl⟩;cases hc0:(bD t amd k).contains 0
    case' false =>
     have DJ:=aa (af.sub HI.out (T:=Any) fun _ _ _=>trivial);(have hsp:cu amd.length (bD t amd k)=bD t amd k:=by rw [kU.out,hc0];rfl);rw [<- hsp] at DJ;clear hsp;obtain ⟨xq,xc,rfl,-,-⟩:=aq.open DJ.out;have G8:Hid (af Any wi (.slice xq (cu amd.length (bD t amd k)).length xc) (cu amd.length (bD t amd k))):=DJ.out;obtain ⟨wc,hwc⟩:∃wc:World,wc=wi:=⟨_,rfl⟩;rw [<- hwc] at G8 He;rw [<- hwc];have HUc:=aa He.out;clear hwc HH Aw HI Bh DJ hc0 kU
    case' true =>
     go_wp2_with fail;refine Aw.out.mono ?_;rintro e wc ⟨hu,x,rfl,NZ⟩;have HUc:=aa (He.out.trans hu);have DJ:=aa (af.sub NZ.ints (T:=Any) fun _ _ _=>trivial);(have hsp:cu amd.length (bD t amd k)=bG amd.length (bD t amd k):=by rw [kU.out,hc0];rfl);rw [<- hsp] at DJ;clear hsp;obtain ⟨xq,xc,rfl,-,-⟩:=aq.open DJ.out;have G8:Hid (af Any wc (.slice xq (cu amd.length (bD t amd k)).length xc) (cu amd.length (bD t amd k))):=DJ.out;clear HH Aw HI Bh DJ hc0 kU hu NZ
    all_goals
     obtain ⟨g,cap,f,rfl,hcap,D4,hrw⟩:=HO.out;have Jq:=aa hrw;have oZ:=aa D4;have LI:=aa hcap;clear hrw D4 hcap;(have pV:Hid ((gZ t amd (k - 1)).length<=64):=by have:=U8 t amd (k - 1);have:=HK.out.2;have:=dM.out.2.1;unfold Hid;omega);have Nh:Hid ((cu amd.length (bD t amd k)).length<=64):=KL jk.out.le;have gw:=aa (U9 Any wc _ (amd.length:Int) _ G8.out (by have:=Nh.out;omega));go_wp2_with fail;refine gw.out.mono ?_;rintro e wd ⟨rfl,hqd⟩;have HQD:=aa hqd;clear hqd gw;by_cases hs:aV amd.length (cu amd.length (bD t amd k))=0
     case neg =>
      (have e1:(aV amd.length (cu amd.length (bD t amd k)) != 0)=true:=by simpa using hs);have Ac:=aa (adb HK.out.1 hs);clear hs;go_wp2
      go_roundw
      case rel=>exact ⟨k+1,by omega,HK.out.2,by go_num,by unfold Hid;rw [Ac.out];exact HO.out.up (HUc.out.trans HQD.out.up),KC.out.trans (HUc.out.trans HQD.out.up)⟩
      case measure=>have:=HK.out.2;simp [intOf];omega
     case pos =>
     have nI:=aa hs;rw [hs];clear hs;go_wp2
     go_loopw [12] (fun i wr=>∃a:Nat,a<=(gZ t amd (k - 1)).length/\i=.int .i64 a/\Hid (QD wd wr)/\Hid (∀j,j<a->cmpL (gl (gZ t amd (k - 1)) j) (cu amd.length (bD t amd k))<0)) (fun i _=>(gZ t amd (k - 1)).length - (intOf i).toNat)
     case atStart=>exact ⟨0,aF _,rfl,QD.refl _,fun j hj=>absurd hj (aZ _)⟩
     case round =>
      obtain ⟨a,ha,rfl,hQ,TG⟩:=hrel;obtain ⟨wf,rfl⟩:=eM wr;have LP:=aa (HQD.out.up.trans hQ.out.up);have Vg:=aa (HUc.out.trans LP.out);have UU:=aa TG.out;have iQ:=aa ha;have HQf:=aa hQ.out;(have i5:(0:Int)<=(a:Int):=by omega);(have i6:(a:Int)<100:=by have:=pV.out;omega);by_cases hlt:a<(gZ t amd (k - 1)).length
      case neg =>
       (have i7:¬(a:Int)<((gZ t amd (k - 1)).length:Int):=by omega);(have Y0:Hid (a=(gZ t amd (k - 1)).length):=by unfold Hid;omega);obtain ⟨we,G1⟩:∃we:World,we=wf:=⟨_,rfl⟩;rw [<- G1] at LP Vg;rw [<- G1];have SA:=aa Vg.out;have adi:=aa LP.out;clear hlt TG ha hQ G1;have BQ:=aa (Va iQ.out UU.out (.inl Y0.out));have nO:=aa (LO HK.out.1 nI.out);rw [BQ.out] at nO;have SB:Hid (∀j,j<(gZ t amd (k - 1)).length->af Any we (f j) (gl (gZ t amd (k - 1)) j)):=fun j hj=>af.keep (Jq.out j hj) (SA.out.kept _);have HCe:Hid (∀j,j<(gZ t amd (k - 1)).length->we.cell? ⟨g,0+j,none⟩=some (f j)):=fun j hj=>SA.out.cell (oZ.out j hj);have HXe:=aa (af.keep G8.out (adi.out.kept _));have HMz:=aa (au.made we 26);have SC:=aa (Up.alloc we (.cells #[] 26));(have DV:Hid (([]++(List.range a).map f:List Value).length=a):=by unfold Hid;simp);(have JP:Hid ((([]++(List.range a).map f)++[Value.slice xq (cu amd.length (bD t amd k)).length xc]:List Value).length=a+1):=by unfold Hid;simp);have j1:a<=(gZ t amd (k - 1)).length:=iQ.out;(have j2:(a:Int)<=((gZ t amd (k - 1)).length:Int):=by have:=iQ.out;omega);have j3:(gZ t amd (k - 1)).length<=cap:=LI.out;have j4:(0:Int)<=(a:Int):=by omega
       go_wp2_with (first
        | (at_builtin;refine wh (we.alloc (.cells #[] 26)) rfl _ _ 23 rfl we.heap.size 26 (.slice none 0 0) 24 Tryz.underlying23 Tryz.tP rfl (by decide) HMz.out rfl (by simp) g 0 a _ rfl f (fun j hj=>SC.out.cell (HCe.out j (by have:=iQ.out;omega))) (fun j hj=>OI.one (SB.out j (by have:=iQ.out;omega))) 0 a rfl (je _) (by have:=iQ.out;have:=pV.out;omega) (by simp) ?_;intro g1 aki wa hown1 gC)
        | (at_builtin;refine qg wa rfl _ _ 23 rfl we.heap.size 26 (.slice none 0 0) 24 Tryz.underlying23 Tryz.tP rfl (by decide) hown1 rfl (.slice xq (cu amd.length (bD t amd k)).length xc) _ rfl rfl rfl a DV.out (by have:=iQ.out;have:=pV.out;omega) (by have:=gC.size;rw [aQ] at this;omega) ?_;intro g2 dF wb hown2 akj I4)
        | (at_builtin;refine wh wb rfl _ _ 23 rfl we.heap.size 26 (.slice none 0 0) 24 Tryz.underlying23 Tryz.tP rfl (by decide) hown2 rfl (by simp) g (if cap=a then 0 else a) ((gZ t amd (k - 1)).length - a) (cap - a) (by show (Value.slice _ _ _:Value)=_;congr 1;by_cases q1:cap=a<;>by_cases q2:a=0<;>first | (simp [q1,q2];done) | (exfalso;omega)) (fun j=>f (a+j)) (fun j hj=>by have h0:=LI.out;rw [if_neg (by omega:¬cap=a)];have h1:=Sz (nU (nU SC.out gC) I4) (HCe.out (a+j) (by omega));rwa [je] at h1) (fun j hj=>OI.one (SB.out (a+j) (by omega))) (a+1) ((gZ t amd (k - 1)).length+1) JP.out (by have:=iQ.out;omega) (by have:=pV.out;omega) (by have:=gC.size;have:=I4.size;rw [aQ] at *;omega) ?_;intro g3 afK wz yh adj))
       all_goals (
        have SD:Hid (Up we wz):=nU (nU (nU SC.out gC) I4) adj
        go_roundw
        case rel=>exact ⟨k+1,by omega,HK.out.2,by go_num,by unfold Hid;rw [nO.out];exact OI.ins iQ.out yh (fun j hj=>af.keep (SB.out j hj) (SD.out.kept _)) (af.keep HXe.out (SD.out.kept _)),KC.out.trans (SA.out.trans SD.out)⟩
        case measure=>have:=HK.out.2;simp [intOf];omega)
      case pos =>
       obtain ⟨rq,rc,hca,Au⟩:=ah2 (fun j hj=>Vg.out.cell (oZ.out j hj)) (fun j hj=>af.keep (Jq.out j hj) (Vg.out.kept _)) hlt;(have i7:(a:Int)<((gZ t amd (k - 1)).length:Int):=by omega);have uT:=aa (ac4 Any Any wf _ _ _ _ Au (af.keep G8.out (LP.out.kept _)) (Vb t amd (k - 1) hlt jk.out.le) (by have:=Nh.out;omega));have aR:=aa hlt;have JQ:=aa Au;have Cj:=aa hca;cases hcm:decide (cmpL (gl (gZ t amd (k - 1)) a) (cu amd.length (bD t amd k))<0)
       case true =>
        rw [hcm] at uT;have Aw:=aa (of_decide_eq_true hcm);clear hlt TG ha hQ Au hcm;go_wp2_with fail;refine uT.out.mono ?_;rintro e w' ⟨rfl,hq⟩;obtain ⟨nq,rfl⟩:=hq;have HQ':=aa (HQf.out.drewN nq);go_wp2
        go_roundw
        case rel=>exact ⟨a+1,aR.out,by go_num,HQ'.out,fun j hj=>by
         by_cases q:j=a
         ·subst q;exact Aw.out
         ·exact UU.out j (by omega)⟩
        case measure=>have:=aR.out;simp [intOf];omega
       case false =>
        rw [hcm] at uT;have Aw:=aa (Int.not_lt.1 (of_decide_eq_false hcm));clear hlt TG ha hQ Au hcm;go_wp2_with fail;refine uT.out.mono ?_;rintro e w' ⟨rfl,hq⟩;have HQ':=aa hq;have hca:=hq.up.cell Cj.out;have wP:=aa (zN Any Any w' _ _ _ _ (af.keep JQ.out (hq.up.kept _)) (af.keep G8.out ((LP.out.trans hq.up).kept _)) (Vb t amd (k - 1) aR.out jk.out.le) (by have:=Nh.out;omega));clear hq;go_wp2_with fail;cases hsm:decide (gl (gZ t amd (k - 1)) a=cu amd.length (bD t amd k))
        case true =>
         rw [hsm] at wP;have HTH:=aa (aaj aR.out UU.out (Int.not_lt.2 Aw.out) (of_decide_eq_true hsm));have nO:=aa (LO HK.out.1 nI.out);rw [HTH.out] at nO;clear hsm;refine wP.out.mono ?_;rintro e we ⟨rfl,nq,rfl⟩;have HUd:=aa (Vg.out.trans (HQ'.out.up.trans (Up.drewN w' nq)));go_wp2
         go_roundw
         case rel=>exact ⟨k+1,by omega,HK.out.2,by go_num,by unfold Hid;rw [nO.out];exact HO.out.up HUd.out,KC.out.trans HUd.out⟩
         case measure=>have:=HK.out.2;simp [intOf];omega
        case false =>
         rw [hsm] at wP;have Aj:=aa (of_decide_eq_false hsm);clear hsm;refine wP.out.mono ?_;rintro e we ⟨rfl,nq,G1⟩;(have SA:Hid (Up wo we):=by rw [G1];exact Vg.out.trans (HQ'.out.up.trans (Up.drewN w' nq)));(have adi:Hid (Up wc we):=by rw [G1];exact LP.out.trans (HQ'.out.up.trans (Up.drewN w' nq)));clear G1 hca;have BQ:=aa (Va iQ.out UU.out (.inr ⟨Int.not_lt.2 Aw.out,Aj.out⟩));have nO:=aa (LO HK.out.1 nI.out);rw [BQ.out] at nO;have SB:Hid (∀j,j<(gZ t amd (k - 1)).length->af Any we (f j) (gl (gZ t amd (k - 1)) j)):=fun j hj=>af.keep (Jq.out j hj) (SA.out.kept _);have HCe:Hid (∀j,j<(gZ t amd (k - 1)).length->we.cell? ⟨g,0+j,none⟩=some (f j)):=fun j hj=>SA.out.cell (oZ.out j hj);have HXe:=aa (af.keep G8.out (adi.out.kept _));have HMz:=aa (au.made we 26);have SC:=aa (Up.alloc we (.cells #[] 26));(have DV:Hid (([]++(List.range a).map f:List Value).length=a):=by unfold Hid;simp);(have JP:Hid ((([]++(List.range a).map f)++[Value.slice xq (cu amd.length (bD t amd k)).length xc]:List Value).length=a+1):=by unfold Hid;simp);have j1:a<=(gZ t amd (k - 1)).length:=iQ.out;(have j2:(a:Int)<=((gZ t amd (k - 1)).length:Int):=by have:=iQ.out;omega);have j3:(gZ t amd (k - 1)).length<=cap:=LI.out;have j4:(0:Int)<=(a:Int):=by omega
         go_wp2_with (first
          | (at_builtin;refine wh (we.alloc (.cells #[] 26)) rfl _ _ 23 rfl we.heap.size 26 (.slice none 0 0) 24 Tryz.underlying23 Tryz.tP rfl (by decide) HMz.out rfl (by simp) g 0 a _ rfl f (fun j hj=>SC.out.cell (HCe.out j (by have:=iQ.out;omega))) (fun j hj=>OI.one (SB.out j (by have:=iQ.out;omega))) 0 a rfl (je _) (by have:=iQ.out;have:=pV.out;omega) (by simp) ?_;intro g1 aki wa hown1 gC)
          | (at_builtin;refine qg wa rfl _ _ 23 rfl we.heap.size 26 (.slice none 0 0) 24 Tryz.underlying23 Tryz.tP rfl (by decide) hown1 rfl (.slice xq (cu amd.length (bD t amd k)).length xc) _ rfl rfl rfl a DV.out (by have:=iQ.out;have:=pV.out;omega) (by have:=gC.size;rw [aQ] at this;omega) ?_;intro g2 dF wb hown2 akj I4)
          | (at_builtin;refine wh wb rfl _ _ 23 rfl we.heap.size 26 (.slice none 0 0) 24 Tryz.underlying23 Tryz.tP rfl (by decide) hown2 rfl (by simp) g (if cap=a then 0 else a) ((gZ t amd (k - 1)).length - a) (cap - a) (by show (Value.slice _ _ _:Value)=_;congr 1;by_cases q1:cap=a<;>by_cases q2:a=0<;>first | (simp [q1,q2];done) | (exfalso;omega)) (fun j=>f (a+j)) (fun j hj=>by have h0:=LI.out;rw [if_neg (by omega:¬cap=a)];have h1:=Sz (nU (nU SC.out gC) I4) (HCe.out (a+j) (by omega));rwa [je] at h1) (fun j hj=>OI.one (SB.out (a+j) (by omega))) (a+1) ((gZ t amd (k - 1)).length+1) JP.out (by have:=iQ.out;omega) (by have:=pV.out;omega) (by have:=gC.size;have:=I4.size;rw [aQ] at *;omega) ?_;intro g3 afK wz yh adj))
         all_goals (
          have SD:Hid (Up we wz):=nU (nU (nU SC.out gC) I4) adj
          go_roundw
          case rel=>exact ⟨k+1,by omega,HK.out.2,by go_num,by unfold Hid;rw [nO.out];exact OI.ins iQ.out yh (fun j hj=>af.keep (SB.out j hj) (SD.out.kept _)) (af.keep HXe.out (SD.out.kept _)),KC.out.trans (SA.out.trans SD.out)⟩
          case measure=>have:=HK.out.2;simp [intOf];omega)
end Go.Proofs.YthgabkgmkolobaaGreat
