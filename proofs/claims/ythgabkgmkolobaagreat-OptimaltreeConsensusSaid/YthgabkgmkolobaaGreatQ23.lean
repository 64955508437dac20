/- The contract of phylotree.Parse. .. -/
import Derived.Laws.RangeAny
import Derived.WalkMore
import Derived.Shelf.Small.Utf8
import Derived.Test.YthgabkgmkolobaaGreatQ22
set_option maxRecDepth 100000
set_option maxHeartbeats 8000000
namespace Go.Proofs.YthgabkgmkolobaaGreat
section
open Go.RowKit Go.Deep
def QV (w:World) (s:ByteArray) (e:Ending) (w':World):Prop :=
 Up w w'/\∃v,e=.returned (.tuple #[v,.int .i64 (QU s)])/\aG Any w' v (Nd s)
def agL (s:ByteArray):Prop:=∀(i:Nat) (W:World),i<s.size->Calls Tryz.prog 166 #[.string (s.extract i s.size),.string ⟨#[40,41,44,59]⟩] W fun e W'=>e=.returned (.int .i64 (Lib.indexAny (s.data.toList.drop i) eY))/\Up W W'
theorem rC {w W:World} {s:ByteArray} (hu:Up w W) (hb:W.heap[w.heap.size]? = some (Obj.cells #[.slice none 0 0,.slice none 0 0] 39 (0,0))) (h:tQ s.data.toList=none) :
  ((
   W.setCell ⟨w.heap.size,0,none⟩ (.slice none 0 0)).setCell ⟨w.heap.size,1,none⟩ (.slice none 0 0)).cell? ⟨w.heap.size,0,none⟩=some (.slice none 0 0)/\((W.setCell ⟨w.heap.size,0,none⟩ (.slice none 0 0)).setCell ⟨w.heap.size,1,none⟩ (.slice none 0 0)).cell? ⟨w.heap.size,1,none⟩=some (.slice none 0 0) /\
   QV w s (.returned (.tuple #[.agg #[.slice none 0 0,.slice none 0 0],.int .i64 3])) ((W.setCell ⟨w.heap.size,0,none⟩ (.slice none 0 0)).setCell ⟨w.heap.size,1,none⟩ (.slice none 0 0)):=by
 obtain ⟨s1,s2,s3,s4⟩:=gz (p:=.slice none 0 0) (q:=.slice none 0 0) hb (ah _) hu;refine ⟨s2,s3,s1,.agg #[.slice none 0 0,.slice none 0 0],by unfold QU;rw [h],?_⟩;unfold Nd;rw [h];exact zj _
theorem J9 {c d:UInt8} {z:Int} (h:c≠d) (hz:z=d.toNat):((c.toNat:Int)==z)=false:=by
 subst hz;rw [beq_eq_false_iff_ne];intro e;exact h (UInt8.toNat_inj.1 (by omega))
theorem Ge {c d:UInt8} {z:Int} (h:c=d) (hz:z=d.toNat):((c.toNat:Int)==z)=true:=by
 subst hz;subst h;exact beq_self_eq_true _
theorem aeL (w:World) (s:ByteArray) (hs:s.size<=1000) (QW:agL s) :
  Calls Tryz.prog 121 #[.string s] w (QV w s):=by
 have hrb:=iN (w:=w) (P:=.slice none 0 0) (N:=.slice none 0 0) (T:=39);have hu:=Up.alloc w (.cells #[.slice none 0 0,.slice none 0 0] 39);have hsz:(w.alloc (.cells #[.slice none 0 0,.slice none 0 0] 39)).heap.size=w.heap.size+1:=aQ _ _;have HU:=aa hu;have dM:=aa hsz;have gY:=aa hrb;have HIA:=aa QW;have d1:decide ((65536:Int)<(s.size:Int))=false:=decide_eq_false (by omega);have d1n:¬65536<s.size:=by omega
 clear hrb hu hsz QW;go_in;go_wp2_with fail;have HST:=aa (abM (w.alloc (.cells #[.slice none 0 0,.slice none 0 0] 39)) s);rw [dM.out] at HST;generalize w.alloc (.cells #[.slice none 0 0,.slice none 0 0] 39)=w1 at *;have fo:Hid (∀wr,Below (w.heap.size+1) w1 wr->wr.heap[w.heap.size]? = some (Obj.cells #[.slice none 0 0,.slice none 0 0] 39 (0,0))/\Up w wr):=fun wr h=>⟨(h.block _ (wu _)).trans gY.out,HU.out.trans (h.mono (by rw [dM.out];exact ah _))⟩
 go_loopw [5,6,7,8,9,10,11,12,66,86,101,111] (fun ov dn i _ _ _ _ _ _ _ _ _ wr=>∃(k:Nat) (b:Bool),k<=s.size/\i=.int .i64 k/\dn=.bool b/\Hid (J8 (w.heap.size+1) s (tQ s.data.toList) w1 (w.heap.size+1) k b ov wr)) (fun _ _ i _ _ _ _ _ _ _ _ _ _=>s.size - (intOf i).toNat)
 case atStart=>exact ⟨0,false,aF _,rfl,rfl,HST.out⟩
 case round =>
  obtain ⟨k,b,hk,rfl,rfl,hO⟩:=hrel;obtain ⟨wo,rfl⟩:=eM wr;by_cases hlt:k<s.size
  ·obtain ⟨n,A,kv,F,o,os,Z,st,f,hM⟩:=hO.out
   obtain ⟨g,cap,wK,aiE,hrow⟩:=hM.row
   
   obtain ⟨f',ch,sQ,hf2,hdr,hch⟩:=hM.step hlt;have HF:=aa sQ;have qA:=aa hf2;have abN:=hdr;(have i1:(0:Int)<=(k:Int):=by omega);(have i2:(k:Int)<(s.size:Int):=by omega);have Uf:=hM.ol;have aR:=aa hlt;obtain ⟨m,hm⟩:∃m,m=os.length:=⟨_,rfl⟩;have DZ:=aa hm;rw [<- hm] at wK aiE hrow Uf;subst wK;(have w1a:wrap64 (m:Int)=(m:Int):=by unfold wrap64;omega);(have w1b:(0:Int)<=(m:Int):=by omega);(have w1c:(m:Int)<(m:Int)+1:=by omega);(have w1d:m<m+1:=by omega);(have w1e:m+1<=1000000:=by omega);have HM:=aa hM;clear hm Uf;clear hO hM sQ hf2 hdr;have hfr:=HM.out.fr.thaw HM.out.zf.on 1;obtain ⟨q0,q1,q2,q3⟩:=boxed (fo.out wo HM.out.up).1;(have AL:Hid (∀x,pz (f'+1) (ch::s.data.toList.drop (k+1)) (Z::st) b=x->tQ s.data.toList=x):=fun x hx=>by have hr:=HM.out.run;rw [HF.out,abN] at hr;rw [<- hr];exact hx);have HDR:=aa abN;(have Lm:Hid ((Z::st).length=m+1):=by have h:=HM.out.zf.len;rw [Hid,DZ.out];simp at h ⊢;omega);clear abN;by_cases QX:ch=40
   ·have e1:=Ge (z:=40) QX rfl
    subst QX;cases b with
    | true =>
     have HST:=aa (rC (fo.out wo HM.out.up).2 (fo.out wo HM.out.up).1 (AL.out none (by simp [pz])));go_wp2_with fail;obtain ⟨s2,s3,hp⟩:=HST.out;exact ⟨rfl,.tuple #[.agg #[.slice none 0 0,.slice none 0 0],.int .i64 3],by simp [results,Tryz.results121,go_sem,s2,s3],hp⟩
    | false =>
     have hkc:=(Up.alloc wo (.cells #[.string ⟨#[]⟩,.slice none 0 0,.int .i64 0] 122)).cell (HM.out.fr.yM HM.out.zf.on);have hs1:(wo.alloc (.cells #[.string ⟨#[]⟩,.slice none 0 0,.int .i64 0] 122)).heap.size=wo.heap.size+1:=aQ _ _;have lg:=aa hs1;have HOW:Hid (au (w.heap.size+1) 119 (wo.alloc (.cells #[.string ⟨#[]⟩,.slice none 0 0,.int .i64 0] 122)) (kv o) ((F.kids o).map (dh A))):=(HM.out.fr.own o HM.out.zf.on).alloc _;have Ca:Hid (w.heap.size+1<=wo.heap.size):=aB (fD dM.out.symm) HM.out.up.size;(have agM:Hid (w.heap.size+1<=(wo.alloc (.cells #[.string ⟨#[]⟩,.slice none 0 0,.int .i64 0] 122)).heap.size):=by rw [Hid,lg.out];exact Nat.le_succ_of_le Ca.out);have Fk:=aa HM.out.agI
     have nB:Hid (∀g2 m2 dF w',au (w.heap.size+1) 119 w' (.slice (some ⟨g2,0,none⟩) m2 dF) ((F.kids o).map (dh A)++[.pointer (some ⟨wo.heap.size,0,none⟩)])->(wo.alloc (.cells #[.string ⟨#[]⟩,.slice none 0 0,.int .i64 0] 122)).grownBy w' (kv o).ownBlock->((kv o).ownBlock=some g2\/(wo.alloc (.cells #[.string ⟨#[]⟩,.slice none 0 0,.int .i64 0] 122)).heap.size<=g2) ->
       (w'.cell? ⟨A o,1,none⟩=some (kv o)/\w'.frozen? ⟨A o,1,none⟩=false)/\∃A' kv',A' n=wo.heap.size/\PaN (w.heap.size+1) w1 (w.heap.size+1) (.slice (some ⟨g,0,none⟩) (m+1) cap) n A' kv' (nP F n o ByteArray.empty) (o::os) (w'.setCell ⟨A o,1,none⟩ (.slice (some ⟨g2,0,none⟩) m2 dF))):=fun g2 m2 dF w' h1 h2 h3 =>
      ⟨HM.out.store h2,HM.out.node ByteArray.empty Ca.out h1 h2 (by rw [lg.out] at h3;exact h3)⟩
     (have sU:Hid (n<2000):=by have:=HM.out.nk;unfold Hid;omega);clear hs1;generalize kv o=kvo at *;have Jr:Hid (tQ s.data.toList=pz f' (s.data.toList.drop (k+1)) ([]::Z::st) false):=AL.out _ (by simp [pz]);go_wp2_with (first | (at_builtin;refine Fe (wo.alloc (.cells #[.string ⟨#[]⟩,.slice none 0 0,.int .i64 0] 122)) rfl _ _ 120 rfl (w.heap.size+1) 119 (.pointer none) 8 Tryz.underlying120 Tryz.EN rfl (by decide) HOW.out rfl (.pointer (some ⟨wo.heap.size,0,none⟩)) (wo.heap.size+1) lg.out rfl rfl _ Fk.out.1 Fk.out.2 agM.out ?_;intro g8 kM w8 gp jr uG;obtain ⟨⟨QY,Ug⟩,A8,kv8,hA8,sY⟩:=nB.out _ _ _ w8 gp jr uG;have HN8:=aa sY;have HA8:=aa hA8;have agN:Hid (w.heap.size+1<=(w8.setCell ⟨A o,1,none⟩ (.slice (some ⟨g8,0,none⟩) ((F.kids o).length+1) kM)).heap.size):=(by rw [Hid,nh];exact aB agM.out jr.size);clear gp jr uG hA8 sY) | (at_builtin;refine Fe (w8.setCell ⟨A o,1,none⟩ (.slice (some ⟨g8,0,none⟩) ((F.kids o).length+1) kM)) rfl _ _ 120 rfl (w.heap.size+1) 119 (.pointer none) 8 Tryz.underlying120 Tryz.EN rfl (by decide) HN8.out.own rfl (.pointer (some ⟨wo.heap.size,0,none⟩)) w8.heap.size (nh _ _ _) rfl rfl (m+1) (by rw [DZ.out];simp) (by omega) agN.out ?_;intro g9 aju w9 Wl Lp agO;have HP9:Hid (J8 (w.heap.size+1) s (tQ s.data.toList) w1 (w.heap.size+1) (k+1) false (.slice (some ⟨g9,0,none⟩) (m+1+1) aju) w9):=HM.out.opened sU.out HN8.out agN.out (by unfold dh at Wl ⊢;rw [HA8.out];exact Wl) Lp agO Jr.out.symm qA.out;clear Wl Lp agO))
     go_roundw
     case rel=>exact ⟨k+1,false,aR.out,by go_num,rfl,HP9.out⟩
     case measure=>have:=aR.out;simp [intOf];omega
   ·have e1:=J9 (z:=40) QX rfl
    by_cases QZ:ch=41
    ·have e2:=Ge (z:=41) QZ rfl
     subst QZ;cases b with
     | false =>
      have HST:=aa (rC (fo.out wo HM.out.up).2 (fo.out wo HM.out.up).1 (AL.out none (by simp [pz])));go_wp2_with fail;obtain ⟨s2,s3,hp⟩:=HST.out;exact ⟨rfl,.tuple #[.agg #[.slice none 0 0,.slice none 0 0],.int .i64 3],by simp [results,Tryz.results121,go_sem,s2,s3],hp⟩
     | true =>
      by_cases hm0:m=0
      ·have d2:(((m:Int)+1)==1)=true:=by rw [hm0];rfl
       have HST:=aa (rC (fo.out wo HM.out.up).2 (fo.out wo HM.out.up).1 (AL.out none (by have h:=Lm.out;rw [hm0] at h;rw [pz,if_neg (by decide),if_pos rfl,if_pos (.inr h)])));clear hm0;go_wp2_with fail;obtain ⟨s2,s3,hp⟩:=HST.out;exact ⟨rfl,.tuple #[.agg #[.slice none 0 0,.slice none 0 0],.int .i64 3],by simp [results,Tryz.results121,go_sem,s2,s3],hp⟩
      ·have d2:(((m:Int)+1)==1)=false:=beq_eq_false_iff_ne.2 (by omega)
       obtain ⟨q,os2,rfl⟩:∃q os2,os=q::os2:=by
        cases os with
        | nil=>exact absurd (by have:=DZ.out;simpa using this) hm0
        | cons q os2=>exact ⟨q,os2,rfl⟩
       obtain ⟨Y,st2,rfl⟩:∃Y st2,st=Y::st2:=by
        cases st with
        | nil=>exact absurd (by have:=Lm.out;simp at this;omega) hm0
        | cons Y st2=>exact ⟨Y,st2,rfl⟩
       have Jr:Hid (tQ s.data.toList=pz f' (s.data.toList.drop (k+1)) ((Y++[.node ByteArray.empty Z])::st2) true):=AL.out _ (by simp [pz,abr]);(have Ng:Hid (m=os2.length+1):=by have:=DZ.out;simp at this;exact this);(have HN:Hid (J8 (w.heap.size+1) s (tQ s.data.toList) w1 (w.heap.size+1) (k+1) true (.slice (some ⟨g,0,none⟩) m cap) wo):=by rw [Ng.out];exact HM.out.agJ (by rw [Ng.out]) Jr.out.symm qA.out);(have w1f:(m:Int)<=(cap:Int):=by omega);clear hm0;go_wp2
       go_roundw
       case rel=>exact ⟨k+1,true,aR.out,by go_num,rfl,HN.out⟩
       case measure=>have:=aR.out;simp [intOf];omega
    ·have e2:=J9 (z:=41) QZ rfl
     by_cases Q0:ch=44
     ·have e3:=Ge (z:=44) Q0 rfl
      subst Q0;cases b with
      | false =>
       have HST:=aa (rC (fo.out wo HM.out.up).2 (fo.out wo HM.out.up).1 (AL.out none (by simp [pz])));go_wp2_with fail;obtain ⟨s2,s3,hp⟩:=HST.out;exact ⟨rfl,.tuple #[.agg #[.slice none 0 0,.slice none 0 0],.int .i64 3],by simp [results,Tryz.results121,go_sem,s2,s3],hp⟩
      | true =>
       by_cases hm0:m=0
       ·have d2:(((m:Int)+1)==1)=true:=by rw [hm0];rfl
        have HST:=aa (rC (fo.out wo HM.out.up).2 (fo.out wo HM.out.up).1 (AL.out none (by have h:=Lm.out;rw [hm0] at h;rw [pz,if_neg (by decide),if_neg (by decide),if_pos rfl,if_pos (.inr h)])));clear hm0;go_wp2_with fail;obtain ⟨s2,s3,hp⟩:=HST.out;exact ⟨rfl,.tuple #[.agg #[.slice none 0 0,.slice none 0 0],.int .i64 3],by simp [results,Tryz.results121,go_sem,s2,s3],hp⟩
       ·have d2:(((m:Int)+1)==1)=false:=beq_eq_false_iff_ne.2 (by omega)
        have Jr:Hid (tQ s.data.toList=pz f' (s.data.toList.drop (k+1)) (Z::st) false):=AL.out _ (by have h:=Lm.out;rw [pz,if_neg (by decide),if_neg (by decide),if_pos rfl,if_neg (by rw [h];simp;omega)]);have HN:Hid (J8 (w.heap.size+1) s (tQ s.data.toList) w1 (w.heap.size+1) (k+1) false (.slice (some ⟨g,0,none⟩) (m+1) cap) wo):=HM.out.comma Jr.out.symm qA.out;clear hm0;go_wp2
        go_roundw
        case rel=>exact ⟨k+1,false,aR.out,by go_num,rfl,HN.out⟩
        case measure=>have:=aR.out;simp [intOf];omega
     ·have e3:=J9 (z:=44) Q0 rfl
      by_cases Q1:ch=59
      ·have e4:=Ge (z:=59) Q1 rfl
       subst Q1;cases b with
       | false =>
        have HST:=aa (rC (fo.out wo HM.out.up).2 (fo.out wo HM.out.up).1 (AL.out none (by simp [pz])));go_wp2_with fail;obtain ⟨s2,s3,hp⟩:=HST.out;exact ⟨rfl,.tuple #[.agg #[.slice none 0 0,.slice none 0 0],.int .i64 3],by simp [results,Tryz.results121,go_sem,s2,s3],hp⟩
       | true =>
        by_cases hm0:m=0
        ·have d2:(((m:Int)+1) != 1)=false:=by rw [hm0];rfl
         by_cases hk1:k+1=s.size
         ·have d3:((k:Int) != (s.size:Int) - 1)=false:=by simp;omega
          have hos:os=[]:=od (by have:=DZ.out;omega);subst hos;have ajv:st=[]:=od (by have:=Lm.out;simp at this;omega);subst ajv;obtain ⟨r,Y,rfl⟩:∃r Y,Z=r::Y:=by
           have:=HM.out.dnz rfl;cases Z with
           | nil=>exact absurd rfl this
           | cons r Y=>exact ⟨r,Y,rfl⟩
          (have OH:o=0:=by have:=HM.out.last;simpa using this);subst OH;have agP:s.data.toList.drop (k+1)=[]:=List.drop_eq_nil_of_le (by rw [CM];have:s.data.size=s.size:=rfl;omega);have JF:tQ s.data.toList=some r:=AL.out (some r) (by rw [agP];simp [pz,Yo]);obtain ⟨c,ks,hkc,fG,htr⟩:=HM.out.zf.done;(have kF:s.data.toList.length=s.size:=by rw [CM];rfl);obtain ⟨rs1,rs2,rs3⟩:=Yy JF;rw [kF] at rs1 rs2;have ajw:=aa rs1;have ajx:=aa rs2;(have ajy:Hid (∀k,(gs (flat r).ns k).size<=70000):=fun j=>by have:=rs3 j;rw [kF] at this;omega);have D1:=aa JF;have hA0:=HM.out.a0;have hkv:=HM.out.fr.yM HM.out.zf.on;have hown:=HM.out.fr.own 0 HM.out.zf.on;rw [hkc,dV] at hown;rw [hA0] at hkv;obtain ⟨kq,alY,abO,YM⟩:=hown.form (n:=(ks.map (dh A)).length+1) (by simp);obtain ⟨kg,rfl⟩:∃kg,kq=some ⟨kg,0,none⟩:=by
           rcases YM with rfl | h2
           ·obtain ⟨_,h3 | ⟨g,_,_,h3,_⟩⟩:=hown
            ·have:=h3.2;simp at this
            ·rw [abO] at h3;cases h3
           ·exact h2
          rw [abO] at hown hkv;have YN:=(tR hown (j:=0) (u:=dh A c) (by simp)).1;simp only [dh] at YN
          have wD:=aa (XY HM.out.zf.wf (fun i hi=>aB (vq (HM.out.zf.nd i hi) (fun x hx=>(HM.out.zf.kid i hi x hx).2)) (by have:=HM.out.nk;omega)) wo c fG HM.out.fr (by
           (have h1:(gT F sW c none).length=(cI F sW c).length:=by simp [cI]);have h2:=vq (MQ HM.out.zf.wf HM.out.zf.one HM.out.zf.nd (fun i _=>Qk i) fG) (fun x hx=>tO HM.out.zf.wf fG (ah _) ((fB HM.out.zf.wf fG (ah _)).1 hx));have:=HM.out.nk
           omega))
          rw [htr] at wD;have agQ:=aa (fo.out wo HM.out.up).1;have kZ:=aa (fo.out wo HM.out.up).2;have YO:Hid (w.heap.size+1<=wo.heap.size):=aB (fD dM.out.symm) HM.out.up.size;(have i9:(0:Int)<((ks.map (dh A)).length:Int)+1:=by omega);clear hm0 hk1 agP JF hkc htr kF rs1 rs2 rs3 hown abO YM fG;generalize (ks.map (dh A)).length=kl at *;go_wp2_with fail;refine wD.out.mono ?_;rintro e w4 ⟨gU,_,rfl,P4,N4,rfl,qB,qD⟩;obtain ⟨pp,pc,rfl,_,_⟩:=aq.open qB;obtain ⟨np,nc,rfl,_,_⟩:=aq.open qD;have qB:af _ w4 (.slice pp (flat r).ps.length pc) (flat r).ps:=qB;have qD:aj _ w4 (.slice np (flat r).ns.length nc) (flat r).ns:=qD;have fO:=Up.alloc w4 (.cells #[.slice pp (flat r).ps.length pc,.slice np (flat r).ns.length nc] 39);have b0:=iq w4 (.slice pp (flat r).ps.length pc) (.slice np (flat r).ns.length nc) 39;have b1:=jg w4 (.slice pp (flat r).ps.length pc) (.slice np (flat r).ns.length nc) 39;have mz:=aa b0;have mO:=aa b1;have BD:=(bH (gU.trans fO) w.heap.size (by have:=YO.out;omega)).trans agQ.out;have ajz:=aa BD;have ajA:=aa (kZ.out.trans (gU.trans fO));have Uh:Hid (aG (fun b=>wo.heap.size<=b) (w4.alloc (.cells #[.slice pp (flat r).ps.length pc,.slice np (flat r).ns.length nc] 39)) (.agg #[.slice pp (flat r).ps.length pc,.slice np (flat r).ns.length nc]) (flat r)):=aG.keep ⟨_,_,rfl,qB,qD⟩ (fO.kept _);have gw:=aa (yj _ _ _ (flat r) Uh.out (by have:=ajw.out;omega) (by have:=ajx.out;omega) ajy.out);have D2:Hid (wo.heap.size<=(w4.alloc (.cells #[.slice pp (flat r).ps.length pc,.slice np (flat r).ns.length nc] 39)).heap.size):=(gU.trans fO).size;clear gU qB qD fO wD BD kZ agQ q0 q1 q2 q3 YN hkv;go_wp2_with fail;generalize w4.alloc (.cells #[.slice pp (flat r).ps.length pc,.slice np (flat r).ns.length nc] 39)=w5 at *;refine gw.out.mono ?_;rintro e w6 ⟨rfl,ir⟩;have ir:Up w5 w6:=ir;have b0:=ir.cell mz.out;have b1:=ir.cell mO.out;have Dq:=(bH ir w.heap.size (by have:=YO.out;have:=D2.out;omega)).trans ajz.out;have Lr:=aa Dq;have agR:=aa (ajA.out.trans ir);have HT6:=aa (Uh.out.keep (ir.kept _));obtain ⟨q0,q1,q2,q3⟩:=boxed Dq;(have HPE:Hid (QU s=aA (flat r)):=by unfold Hid QU;rw [D1.out]);(have TW:Hid (Nd s=if aA (flat r)≠0 then ⟨[],[]⟩ else flat r):=by unfold Hid Nd;rw [D1.out]);clear ir Dq gw;by_cases he:aA (flat r)=0
          ·have abP:Hid (Nd s=flat r):=by unfold Hid;rw [TW.out,if_neg (by simp [he])]
           (have ajB:Hid (QU s=0):=by unfold Hid;rw [HPE.out,he]);rw [he];have HST:=aa (gz (w:=w) (p:=.slice pp (flat r).ps.length pc) (q:=.slice np (flat r).ns.length nc) Lr.out (ah _) agR.out);clear he;go_wp2_with fail;obtain ⟨s1,s2,s3,s4⟩:=HST.out;obtain ⟨P7,N7,e7,XB,hN7⟩:=HT6.out;(have e8:P7=.slice pp (flat r).ps.length pc/\N7=.slice np (flat r).ns.length nc:=by injection e7 with e7;have:=congrArg Array.toList e7;simp at this;exact ⟨this.1.symm,this.2.symm⟩);obtain ⟨rfl,rfl⟩:=e8;have hsw:=YO.out;refine ⟨rfl,.tuple #[.agg #[.slice pp (flat r).ps.length pc,.slice np (flat r).ns.length nc],.int .i64 0],by simp [results,Tryz.results121,go_sem,s2,s3],?_⟩;refine ⟨s1,_,by rw [ajB.out],?_⟩;rw [abP.out];exact ⟨_,_,rfl,(af.keep XB fun b hb _=>s4 b (by omega)).sub fun b _ _=>trivial,(aj.keep hN7 fun b hb _=>s4 b (by omega)).sub fun b _ _=>trivial⟩
          ·have Mz:(aA (flat r) != 0)=true:=by simpa using he
           (have abP:Hid (Nd s=⟨[],[]⟩):=by unfold Hid;rw [TW.out,if_pos he]);have HST:=aa (gz (w:=w) (p:=.slice none 0 0) (q:=.slice none 0 0) Lr.out (ah _) agR.out);clear he;generalize aA (flat r)=te at *;go_wp2_with fail;obtain ⟨s1,s2,s3,s4⟩:=HST.out;refine ⟨rfl,.tuple #[.agg #[.slice none 0 0,.slice none 0 0],.int .i64 te],by simp [results,Tryz.results121,go_sem,s2,s3],?_⟩;refine ⟨s1,_,by rw [HPE.out],?_⟩;rw [abP.out];exact zj _
         ·have d3:((k:Int) != (s.size:Int) - 1)=true:=by simp;omega
          have HST:=aa (rC (fo.out wo HM.out.up).2 (fo.out wo HM.out.up).1 (AL.out none (by
           have hne:s.data.toList.drop (k+1)≠[]:=fun e=>by have:=List.drop_eq_nil_iff.1 e;rw [CM] at this;have h2:s.data.size=s.size:=rfl;omega
           rw [pz,if_neg (by decide),if_neg (by decide),if_neg (by decide),if_pos rfl,if_pos (.inr (.inr hne))])))
          clear hm0 hk1;go_wp2_with fail;obtain ⟨s2,s3,hp⟩:=HST.out;exact ⟨rfl,.tuple #[.agg #[.slice none 0 0,.slice none 0 0],.int .i64 3],by simp [results,Tryz.results121,go_sem,s2,s3],hp⟩
        ·have d2:(((m:Int)+1) != 1)=true:=by simp;omega
         have HST:=aa (rC (fo.out wo HM.out.up).2 (fo.out wo HM.out.up).1 (AL.out none (by have h:=Lm.out;rw [pz,if_neg (by decide),if_neg (by decide),if_neg (by decide),if_pos rfl,if_pos (.inr (.inl (by rw [h];omega)))])));clear hm0;go_wp2_with fail;obtain ⟨s2,s3,hp⟩:=HST.out;exact ⟨rfl,.tuple #[.agg #[.slice none 0 0,.slice none 0 0],.int .i64 3],by simp [results,Tryz.results121,go_sem,s2,s3],hp⟩
      ·have e4:=J9 (z:=59) Q1 rfl
       cases b with
       | true =>
        have HST:=aa (rC (fo.out wo HM.out.up).2 (fo.out wo HM.out.up).1 (AL.out none (by rw [pz,if_neg QX,if_neg QZ,if_neg Q0,if_neg Q1,if_pos rfl])));go_wp2_with fail;obtain ⟨s2,s3,hp⟩:=HST.out;exact ⟨rfl,.tuple #[.agg #[.slice none 0 0,.slice none 0 0],.int .i64 3],by simp [results,Tryz.results121,go_sem,s2,s3],hp⟩
       | false =>
        have kU:Hid (ch∉eY):=Lc QX QZ Q0 Q1
        have HPZ:Hid (∀x,(if Lib.indexAny (s.data.toList.drop k) eY<0 then none else pz f' ((s.data.toList.drop k).drop (Lib.indexAny (s.data.toList.drop k) eY).toNat) ((Z++[.node ⟨((s.data.toList.drop k).take (Lib.indexAny (s.data.toList.drop k) eY).toNat).toArray⟩ []])::st) true)=x->tQ s.data.toList=x):=fun x hx=>AL.out x (by
         rw [pz,if_neg QX,if_neg QZ,if_neg Q0,if_neg Q1,if_neg (by simp),<- HDR.out];exact hx)
        have Ui:=aa (HIA.out k wo aR.out);clear QX QZ Q0 Q1;(have i3:(k:Int)<=(s.size:Int):=by omega);go_wp2_with fail;refine Ui.out.mono ?_;rintro e w3 ⟨rfl,cR⟩;have HM3:=aa (HM.out.agK cR);obtain ⟨q0,q1,q2,q3⟩:=boxed (fo.out w3 HM3.out.up).1;clear cR Ui;by_cases QW:Lib.indexAny (s.data.toList.drop k) eY<0
        ·have d5:decide (Lib.indexAny (s.data.toList.drop k) eY<0)=true:=decide_eq_true QW
         have HST:=aa (rC (fo.out w3 HM3.out.up).2 (fo.out w3 HM3.out.up).1 (HPZ.out none (by rw [if_pos QW])));clear QW;generalize Lib.indexAny (s.data.toList.drop k) eY=ia at *;go_wp2_with fail;obtain ⟨s2,s3,hp⟩:=HST.out;exact ⟨rfl,.tuple #[.agg #[.slice none 0 0,.slice none 0 0],.int .i64 3],by simp [results,Tryz.results121,go_sem,s2,s3],hp⟩
        ·obtain ⟨x,hx⟩:∃x:Nat,Lib.indexAny (s.data.toList.drop k) eY=(x:Int):=⟨(Lib.indexAny (s.data.toList.drop k) eY).toNat,by omega⟩
         (have hx1:1<=x:=by have h1:=Qr (s:=s.data.toList.drop (k+1)) kU.out;rw [<- HDR.out,hx] at h1;omega);(have hx2:k+x<s.size:=by have h1:=adO _ x hx;rw [xN,CM] at h1;have h2:s.data.size=s.size:=rfl;omega);(have ajC:Hid (pz f' (s.data.toList.drop (k+x)) ((Z++[.node (s.extract k (k+x)) []])::st) true=tQ s.data.toList):=by have h1:=HPZ.out _ rfl;rw [hx,if_neg (by omega),fc,List.drop_drop,V4 s k x] at h1;exact h1.symm);rw [hx];have d5:decide ((x:Int)<0)=false:=decide_eq_false (by omega);have uU:=aa hx2;have k8:=aa hx1;(have j1:(0:Int)<=(x:Int):=by omega);(have j2:(k:Int)<=(k:Int)+(x:Int):=by omega);(have j3:(k:Int)+(x:Int)<=(s.size:Int):=by omega);(have j4:IntKind.i64.wrap ((k:Int)+(x:Int))=(k:Int)+(x:Int):=by rw [IntKind.wrap_i64];omega);(have j5:((k:Int)+(x:Int)).toNat=k+x:=by omega);(have j6:(0:Int)<=(k:Int)+(x:Int):=by omega);have D3:=aa HM3.out.drew;have hkc:=D3.out.fr.yM D3.out.zf.on;have hkf:=D3.out.fr.thaw D3.out.zf.on 1;clear QW hx hx1 HPZ;go_wp2_with fail;refine fR (by kernel_rfl) 18 (fun w'=>w'.cell? ⟨A o,1,none⟩=some (kv o)) hkc (fun hS=>?_);simp only [dY,aW,dw,Nat.reduceAdd,iu,iw,dX,di,cm];refine az.kG 0 1 2 3 hS ?_;(try simp only [Act.put,aL,aM,aN]);refine az.kG 4 5 6 7 hS ?_;(try simp only [Act.put,aL,aM,aN]);refine az.kG 8 9 10 11 hS ?_;(try simp only [Act.put,aL,aM,aN]);refine az.st 12 fun K' hK=>?_;go_simp;refine hK.out _ _ (fun _=>(Up.alloc _ _).cell hkc) (fun hS=>?_);(try simp only [aL,aM,aN]);have HOW:Hid (au (w.heap.size+1) 119 ((w3.drew.alloc (.cells #[.string (s.extract k (k+x)),.slice none 0 0,.int .i64 0] 122)).alloc (.cells #[.pointer (some ⟨w3.drew.heap.size,0,none⟩)] 119)) (kv o) ((F.kids o).map (dh A))):=((D3.out.fr.own o D3.out.zf.on).alloc _).alloc _;have JO:(w3.drew.alloc (.cells #[.string (s.extract k (k+x)),.slice none 0 0,.int .i64 0] 122)).heap.size=w3.drew.heap.size+1:=aQ _ _;have uH:=aa JO;(have jD:Hid (((w3.drew.alloc (.cells #[.string (s.extract k (k+x)),.slice none 0 0,.int .i64 0] 122)).alloc (.cells #[.pointer (some ⟨w3.drew.heap.size,0,none⟩)] 119)).cell? ⟨w3.drew.heap.size+1,0,none⟩=some (.pointer (some ⟨w3.drew.heap.size,0,none⟩))):=by have h:=aS (w3.drew.alloc (.cells #[.string (s.extract k (k+x)),.slice none 0 0,.int .i64 0] 122)) #[.pointer (some ⟨w3.drew.heap.size,0,none⟩)] 119 0;rw [JO] at h;exact h);have lQ:Hid (w.heap.size+1<=w3.drew.heap.size):=aB (fD dM.out.symm) D3.out.up.size
         (have Ca:Hid (w.heap.size+1<=((w3.drew.alloc (.cells #[.string (s.extract k (k+x)),.slice none 0 0,.int .i64 0] 122)).alloc (.cells #[.pointer (some ⟨w3.drew.heap.size,0,none⟩)] 119)).heap.size):=by have:=lQ.out;rw [Hid,aQ,aQ];omega);have Fk:=aa D3.out.agI;(have ajD:Hid (((F.kids o).map (dh A)).length<=1000000):=by have:=Fk.out;unfold Hid;rw [this.1];exact this.2);clear JO;refine az.st 13 fun K' hK=>?_;go_simp;refine hK.out _ _ (fun _=>((Up.alloc _ _).trans (Up.alloc _ _)).cell hkc) (fun hS=>?_);(try simp only [aL,aM,aN]);(try rw [uH.out]);refine az.st 14 fun K' hK=>?_;refine fL (by rfl) _ _ _ (by rfl) (w.heap.size+1) 119 _ 8 Tryz.underlying120 Tryz.EN (by rfl) (by decide) (by rfl) HOW.out (.pointer (some ⟨w3.drew.heap.size,0,none⟩)) (w3.drew.heap.size+1) (by rfl) jD.out (by rfl) ajD.out Ca.out ?_;intro g8 kM w8 gp jr uG _;have Ls:=yT jr;have Lp:(w3.drew.alloc (.cells #[.string (s.extract k (k+x)),.slice none 0 0,.int .i64 0] 122)).grownBy w8 (kv o).ownBlock:=⟨Ls.os,Ls.tape,Ls.output,Ls.size,Ls.block⟩;obtain ⟨QY,Ug⟩:=D3.out.store Lp;obtain ⟨A8,kv8,hA8,sY⟩:=D3.out.node (s.extract k (k+x)) lQ.out gp Lp (uG.imp id fun e=>by rw [e];show _<=(World.alloc (World.alloc w3 _) _).heap.size;rw [aQ,aQ];exact oh (w3.heap.size+1));have HP8:=aa (D3.out.leaf (by have:=D3.out.nk;omega) (k':=k+x) (f':=f') (by have:=k8.out;omega) sY ajC.out (by have:=qA.out;have:=k8.out;omega));clear gp jr uG Ls Lp sY hA8;refine hK.out _ _ (fun _=>QY) (fun hS=>?_);(try simp only [Act.put,aL,aM,aN]);replace hS:=hS ⟨17,by decide,rfl⟩;refine az.xk 15 16 hS ?_;(try simp only [Act.put,aL,aM,aN]);refine az.st 17 fun K' hK=>?_;go_simp;refine hK.out _ _ (bF ·) (fun hS=>?_);refine az.done (by kernel_rfl) ?_;(have j7:(x:Int) - 1<(s.size:Int):=by omega);go_wp2
         go_roundw
         case rel=>exact ⟨k+x,true,by have:=uU.out;omega,by have:=k8.out;have:=uU.out;go_num,rfl,by have h:=HP8.out;rw [Fk.out.1] at h;exact h⟩
         case measure=>have:=k8.out;have:=uU.out;simp [intOf];omega
  ·obtain rfl:k=s.size:=by omega
   obtain ⟨n,A,kv,F,o,os,Z,st,f,hM⟩:=hO.out;have hf:=hM.fuel;have hrun:=hM.run;have Fl:s.data.toList.drop s.size=[]:=List.drop_eq_nil_of_le (by rw [CM];exact ah _);obtain ⟨f',rfl⟩:∃f',f=f'+1:=⟨f - 1,by omega⟩;rw [Fl,pz] at hrun;obtain ⟨q0,q1,q2,q3⟩:=boxed (fo.out wo hM.up).1;have HST:=aa (rC (fo.out wo hM.up).2 (fo.out wo hM.up).1 hrun.symm);clear hM hO hf hrun Fl hlt hk;go_wp2_with fail;obtain ⟨s2,s3,hp⟩:=HST.out;exact ⟨rfl,.tuple #[.agg #[.slice none 0 0,.slice none 0 0],.int .i64 3],by simp [results,Tryz.results121,go_sem,s2,s3],hp⟩
def qH:ByteArray:=⟨#[40,41,44,59]⟩
theorem adT:∀i,(h:i<4)->(qH[i]'h).toNat<128:=by decide +kernel
theorem aeM (j:Nat) {b:UInt8} (h:128<=b.toNat):Lib.indexByte ((qH.extract j 4).data.toList) b = -1:=by
 have key:∀l:List UInt8,b∉l->Lib.indexByte l b = -1:=fun l=>by
  induction l with
  | nil=>intro _;rfl
  | cons a l ih =>
   intro hm;have h1:a≠b:=fun e=>hm (by rw [e];exact tZ);have h2:=ih fun h=>hm (mX _ h);rw [Lib.indexByte,if_neg (by simpa using h1),h2];rfl
 refine key _ fun hm=>?_;rw [Ja,Array.toList_extract] at hm;have hm2:b∈qH.data.toList:=List.mem_of_mem_drop (CT hm);have hall:∀x∈qH.data.toList,x.toNat<128:=by decide +kernel
 have:=hall b hm2;omega
def abQ (s:ByteArray):Prop:=∃n:Nat,∃lb:UInt8,∃hs:s.size=n+1,1<=n/\n<=3/\128<=lb.toNat/\s[n]'(by omega)=lb
theorem abR (r:Int) (h:128<=r):abQ (Utf8.encode r):=by
 obtain ⟨c,hcd⟩:∃c,c=if Utf8.valid r then r.toNat else Utf8.runeError:=⟨_,rfl⟩
 have hc:128<=c:=by
  rw [hcd];split
  ·omega
  ·decide
 have hl:∀c:Nat,128<=(UInt8.ofNat (0x80+c % 64)).toNat:=fun c=>by rw [UInt8.toNat_ofNat'];omega
 by_cases h1:c<0x800
 ·have he:∃b0,Utf8.encode r=⟨#[b0,UInt8.ofNat (0x80+c % 64)]⟩:=by
   unfold Utf8.encode
   simp only [<- hcd,if_neg (show ¬c<0x80 by omega),if_pos h1]
   exact ⟨_,rfl⟩
  obtain ⟨b0,he⟩:=he
  rw [he]
  exact ⟨1,_,rfl,by omega,by omega,hl c,rfl⟩
 ·by_cases h2:c<0x10000
  ·have he:∃b0 b1,Utf8.encode r=⟨#[b0,b1,UInt8.ofNat (0x80+c % 64)]⟩:=by
    unfold Utf8.encode
    simp only [<- hcd,if_neg (show ¬c<0x80 by omega),if_neg h1,if_pos h2]
    exact ⟨_,_,rfl⟩
   obtain ⟨b0,b1,he⟩:=he
   rw [he]
   exact ⟨2,_,rfl,by omega,by omega,hl c,rfl⟩
  ·have he:∃b0 b1 b2,Utf8.encode r=⟨#[b0,b1,b2,UInt8.ofNat (0x80+c % 64)]⟩:=by
    unfold Utf8.encode
    simp only [<- hcd,if_neg (show ¬c<0x80 by omega),if_neg h1,if_neg h2]
    exact ⟨_,_,_,rfl⟩
   obtain ⟨b0,b1,b2,he⟩:=he
   rw [he]
   exact ⟨3,_,rfl,by omega,by omega,hl c,rfl⟩
theorem Q2 (w:World) (r:Int) (h:128<=r) (h2:r<=2147483647) :
  Calls Tryz.prog 217 #[.string qH,.int .i32 r] w fun e w'=>e=.returned (.int .i64 (-1))/\Up w w':=by
 have d1:decide ((0:Int)<=r)=true:=decide_eq_true (by omega);have d2:decide (r<(128:Int))=false:=decide_eq_false (by omega);have HVR:=aa (fun W=>Go.Proofs.Any.utf8_ValidRune (ρ:=Tryz.idxA_ren) { Tryz.idxA with } r W);by_cases h3:r=65533
 ·have d3:(r==(65533:Int))=true:=by simp [h3]
  clear h3;go_in;go_wp2
  go_loopg [5,6] 4 (fun g _ _ wx=>∃i:Nat,i+g=4/\wx=w.iter qH i)
  case atStart=>exact ⟨0,rfl,rfl⟩
  case round =>
   obtain ⟨i,hig,rfl⟩:=hrel;cases gk with
   | zero =>
    (obtain rfl:i=4:=by omega);have hnx:=fun ty=>run_next_end (P:=Tryz.prog) w qH 4 ty (by decide);go_wp2;go_ret;exact ⟨rfl,Up.alloc _ _⟩
   | succ g =>
    (have hi:i<4:=by omega);have hlt:=adT i hi;have hnx:=fun ty=>run_next_ascii (P:=Tryz.prog) w qH i ty hi hlt;generalize (qH[i]'hi).toNat=x at *;(have d4:((x:Int)==65533)=false:=by simp;omega);go_wp2
    go_roundg g
    case measure=>omega
    case rel=>exact ⟨i+1,by omega,rfl⟩
 ·have d3:(r==(65533:Int))=false:=by simp [h3]
  clear h3;obtain ⟨n,lb,B6,n1,n3,hlb,agS⟩:=abR r h;go_in;go_wp2_with fail;refine (HVR.out _).mono ?_;rintro e w2 ⟨rfl,rfl⟩;cases hv:Lib.validRune r
  ·go_wp2
   go_ret;exact ⟨rfl,Up.refl _⟩
  ·go_wp2_with fail
   (have hsz:((Utf8.encode r).size:Int)=(n:Int)+1:=by omega);have abS:=hsz;obtain ⟨nd,iF⟩:∃nd,nd=Utf8.encode r:=⟨_,rfl⟩;(have hlt:n<nd.size:=by rw [iF];omega);(have hidx:nd[n]'hlt=lb:=by subst iF;exact agS);rw [<- iF] at hsz;(have i3:(n:Int)<(nd.size:Int):=by omega);(have i1:(n:Int)<4:=by omega);(have i2:(0:Int)<=(n:Int):=by omega);(have abT:n<4:=by omega);(have w1:wrap64 (n:Int)=(n:Int):=by unfold wrap64;omega);(have w2a:(n:Int)<(n:Int)+1:=by omega);(have w3a:IntKind.i64.wrap ((n:Int)+1)=(n:Int)+1:=by rw [IntKind.wrap_i64];omega);(have w3b:((n:Int)+1).toNat=n+1:=by omega);(have w3c:(0:Int)<=(n:Int)+1:=by omega);(have w3d:(n:Int)+1<=4:=by omega);obtain ⟨cx,qx⟩:∃cx,cx=qH[n]'abT:=⟨_,rfl⟩;(have alZ:cx.toNat<128:=by rw [qx];exact adT n abT);(have d5:(((qH[n]'abT).toNat:Int) != (lb.toNat:Int))=true:=by rw [<- qx];simp;omega);have HIB:=aa (fun W=>Go.Proofs.Any.strings_IndexByte (ρ:=Tryz.idxA_ren) { Tryz.idxA with } (qH.extract (n+1) 4) (lb.toNat:Int) W);(have hback:((lb.toNat:Int)).toNat.toUInt8=lb:=by simp);rw [hback,aeM (n+1) hlb] at HIB;have hsg:(qH.size:Int)=4:=rfl;have al0:qH.size=4:=rfl;have xA:=aa iF;clear agS B6 qx iF
   go_step3
   go_wp2_with fail;rw [<- xA.out];clear xA
   go_loop [9,10,11,12] (fun i f _ _=>i=.int .i64 n/\f=.int .i64 0) (fun _ _ _ _=>0)
   case atStart=>exact ⟨rfl,rfl⟩
   case round =>
    obtain ⟨rfl,rfl⟩:=hrel;go_wp2_with fail
    go_step3
    go_wp2_with fail;refine fR (by kernel_rfl) 7 (fun _=>True) trivial (fun hS=>?_);simp only [dY,aW,dw,Nat.reduceAdd,iu,iw,dX,di,cm];refine az.kG 0 1 2 3 hS ?_;(try simp only [Act.put,aL,aM,aN]);refine az.xk 4 5 hS ?_;(try simp only [Act.put,aL,aM,aN]);refine az.st 6 fun K' hK=>?_;go_simp;refine hK.out _ _ (bF ·) (fun hS=>?_);refine az.done (by kernel_rfl) ?_;go_wp2_with fail;refine fR (by kernel_rfl) 9 (fun _=>True) trivial (fun hS=>?_);simp only [dY,aW,dw,Nat.reduceAdd,iu,iw,dX,di,cm];refine az.kG 0 1 2 3 hS ?_;(try simp only [Act.put,aL,aM,aN]);refine az.xk 4 5 hS ?_;(try simp only [Act.put,aL,aM,aN]);refine az.tk 6 hS ?_;(try simp only [Act.put,aL,aM,aN]);refine az.st 7 fun K' hK=>?_;go_simp;refine (HIB.out _).mono ?_;rintro e w4 ⟨rfl,rfl⟩;refine hK.out _ _ (fun _=>trivial) (fun hS=>?_);(try simp only [aL,aM,aN]);refine az.st 8 fun K' hK=>?_;go_simp;refine hK.out _ _ (bF ·) (fun hS=>?_);refine az.done (by kernel_rfl) ?_;go_wp2_with fail;simp +zetaDelta only [Exit.noGoto,Exit.inBlock,Exit.then];refine bodyPost_ret (results_tmp rfl _ _ _) rfl ?_;exact ⟨rfl,(Up.drewN _ 1).trans (Up.drewN _ 1)⟩
end
end Go.Proofs.YthgabkgmkolobaaGreat
