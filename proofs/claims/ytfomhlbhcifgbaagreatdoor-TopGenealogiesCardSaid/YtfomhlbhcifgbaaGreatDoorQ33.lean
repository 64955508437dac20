/- The contract of phylotree.Parse. -/
import Derived.Test.YtfomhlbhcifgbaaGreatDoorQ31
set_option maxRecDepth 100000
set_option maxHeartbeats 8000000
namespace Go.Proofs.YtfomhlbhcifgbaaGreatDoor
open Go.RowKit Go.Deep
def B2 (w:World) (s:ByteArray) (e:Ending) (w':World):Prop :=
 Up w w'/\∃v,e=.returned (.tuple #[v,.int .i64 (Er s)])/\aJ Any w' v (BW s)
def X6 (s:ByteArray):Prop:=∀(i:Nat) (W:World),i<s.size->Calls Tryz.prog 38 #[.string (s.extract i s.size),.string ⟨#[40,41,44,59]⟩] W fun e W'=>e=.returned (.int .i64 (Lib.indexAny (s.data.toList.drop i) cN))/\Up W W'
theorem lF {w W:World} {s:ByteArray} (hu:Up w W) (hb:W.heap[w.heap.size]? = some (Obj.cells #[.slice none 0 0,.slice none 0 0] 33 (0,0))) (h:nH s.data.toList=none) :
  ((
   W.setCell ⟨w.heap.size,0,none⟩ (.slice none 0 0)).setCell ⟨w.heap.size,1,none⟩ (.slice none 0 0)).cell? ⟨w.heap.size,0,none⟩=some (.slice none 0 0)/\((W.setCell ⟨w.heap.size,0,none⟩ (.slice none 0 0)).setCell ⟨w.heap.size,1,none⟩ (.slice none 0 0)).cell? ⟨w.heap.size,1,none⟩=some (.slice none 0 0) /\
   B2 w s (.returned (.tuple #[.agg #[.slice none 0 0,.slice none 0 0],.int .i64 3])) ((W.setCell ⟨w.heap.size,0,none⟩ (.slice none 0 0)).setCell ⟨w.heap.size,1,none⟩ (.slice none 0 0)):=by
 obtain ⟨s1,s2,s3,s4⟩:=nD (p:=.slice none 0 0) (q:=.slice none 0 0) hb (aj _) hu;refine ⟨s2,s3,s1,.agg #[.slice none 0 0,.slice none 0 0],by unfold Er;rw [h],?_⟩;unfold BW;rw [h];exact GX _
theorem B3 {c d:UInt8} {z:Int} (h:c≠d) (hz:z=d.toNat):((c.toNat:Int)==z)=false:=by
 subst hz;rw [beq_eq_false_iff_ne];intro e;exact h (UInt8.toNat_inj.1 (by omega))
theorem za {c d:UInt8} {z:Int} (h:c=d) (hz:z=d.toNat):((c.toNat:Int)==z)=true:=by
 subst hz;subst h;exact beq_self_eq_true _
theorem Km (w:World) (s:ByteArray) (hs:s.size<=1000) (Ib:X6 s) :
  Calls Tryz.prog 19 #[.string s] w (B2 w s):=by
 have hrb:=uK (w:=w) (P:=.slice none 0 0) (N:=.slice none 0 0) (T:=33);have hu:=Up.alloc w (.cells #[.slice none 0 0,.slice none 0 0] 33);have hsz:(w.alloc (.cells #[.slice none 0 0,.slice none 0 0] 33)).heap.size=w.heap.size+1:=aN _ _;have HU:=aa hu;have fW:=aa hsz;have wK:=aa hrb;have HIA:=aa Ib;have d1:decide ((65536:Int)<(s.size:Int))=false:=decide_eq_false (by omega);have d1n:¬65536<s.size:=by omega
 clear hrb hu hsz Ib;go_in;go_wp2_with fail;have HST:=aa (Rn (w.alloc (.cells #[.slice none 0 0,.slice none 0 0] 33)) s);rw [fW.out] at HST;generalize w.alloc (.cells #[.slice none 0 0,.slice none 0 0] 33)=w1 at *;have cg:Hid (∀wr,Below (w.heap.size+1) w1 wr->wr.heap[w.heap.size]? = some (Obj.cells #[.slice none 0 0,.slice none 0 0] 33 (0,0))/\Up w wr):=fun wr h=>⟨(h.block _ (kC _)).trans wK.out,HU.out.trans (h.mono (by rw [fW.out];exact aj _))⟩
 go_loopw [5,6,7,8,9,10,11,12,66,86,101,111] (fun ov dn i _ _ _ _ _ _ _ _ _ wr=>∃(k:Nat) (b:Bool),k<=s.size/\i=.int .i64 k/\dn=.bool b/\Hid (BZ (w.heap.size+1) s (nH s.data.toList) w1 (w.heap.size+1) k b ov wr)) (fun _ _ i _ _ _ _ _ _ _ _ _ _=>s.size - (intOf i).toNat)
 case atStart=>exact ⟨0,false,bg _,rfl,rfl,HST.out⟩
 case round =>
  obtain ⟨k,b,hk,rfl,rfl,hO⟩:=hrel;obtain ⟨wo,rfl⟩:=e9 wr;by_cases hlt:k<s.size
  ·obtain ⟨n,A,kv,F,o,os,Z,st,f,hM⟩:=hO.out
   obtain ⟨g,cap,Tw,Z1,hrow⟩:=hM.row
   
   obtain ⟨f',ch,zM,hf2,hdr,hch⟩:=hM.step hlt;have HF:=aa zM;have oD:=aa hf2;have Ro:=hdr;(have i1:(0:Int)<=(k:Int):=by omega);(have i2:(k:Int)<(s.size:Int):=by omega);have hol:=hM.ol;have bf:=aa hlt;obtain ⟨m,hm⟩:∃m,m=os.length:=⟨_,rfl⟩;have Ob:=aa hm;rw [<- hm] at Tw Z1 hrow hol;subst Tw;(have w1a:wrap64 (m:Int)=(m:Int):=by unfold wrap64;omega);(have w1b:(0:Int)<=(m:Int):=by omega);(have w1c:(m:Int)<(m:Int)+1:=by omega);(have w1d:m<m+1:=by omega);(have w1e:m+1<=1000000:=by omega);have HM:=aa hM;clear hm hol;clear hO hM zM hf2 hdr
   have hfr:=HM.out.fr.thaw HM.out.zf.on 1;obtain ⟨q0,q1,q2,q3⟩:=boxed (cg.out wo HM.out.up).1;(have tG:Hid (∀x,pz (f'+1) (ch::s.data.toList.drop (k+1)) (Z::st) b=x->nH s.data.toList=x):=fun x hx=>by have hr:=HM.out.run;rw [HF.out,Ro] at hr;rw [<- hr];exact hx);have HDR:=aa Ro;(have C9:Hid ((Z::st).length=m+1):=by have h:=HM.out.zf.len;rw [Hid,Ob.out];simp at h ⊢;omega);clear Ro;by_cases Ic:ch=40
   ·have e1:=za (z:=40) Ic rfl
    subst Ic;cases b with
    | true =>
     have HST:=aa (lF (cg.out wo HM.out.up).2 (cg.out wo HM.out.up).1 (tG.out none (by simp [pz])));go_wp2_with fail;obtain ⟨s2,s3,hp⟩:=HST.out;exact ⟨rfl,.tuple #[.agg #[.slice none 0 0,.slice none 0 0],.int .i64 3],by simp [results,Tryz.results19,go_sem,s2,s3],hp⟩
    | false =>
     have hkc:=(Up.alloc wo (.cells #[.string ⟨#[]⟩,.slice none 0 0,.int .i64 0] 81)).cell (HM.out.fr.rL HM.out.zf.on);have hs1:(wo.alloc (.cells #[.string ⟨#[]⟩,.slice none 0 0,.int .i64 0] 81)).heap.size=wo.heap.size+1:=aN _ _;have jB:=aa hs1;have HOW:Hid (au (w.heap.size+1) 78 (wo.alloc (.cells #[.string ⟨#[]⟩,.slice none 0 0,.int .i64 0] 81)) (kv o) ((F.kids o).map (bL A))):=(HM.out.fr.own o HM.out.zf.on).alloc _;have xT:Hid (w.heap.size+1<=wo.heap.size):=aV (mQ fW.out.symm) HM.out.up.size
     (have X7:Hid (w.heap.size+1<=(wo.alloc (.cells #[.string ⟨#[]⟩,.slice none 0 0,.int .i64 0] 81)).heap.size):=by rw [Hid,jB.out];exact Nat.le_succ_of_le xT.out);have Et:=aa HM.out.X0
     have wV:Hid (∀g2 m2 ij w',au (w.heap.size+1) 78 w' (.slice (some ⟨g2,0,none⟩) m2 ij) ((F.kids o).map (bL A)++[.pointer (some ⟨wo.heap.size,0,none⟩)])->(wo.alloc (.cells #[.string ⟨#[]⟩,.slice none 0 0,.int .i64 0] 81)).grownBy w' (kv o).ownBlock->((kv o).ownBlock=some g2\/(wo.alloc (.cells #[.string ⟨#[]⟩,.slice none 0 0,.int .i64 0] 81)).heap.size<=g2) ->
       (w'.cell? ⟨A o,1,none⟩=some (kv o)/\w'.frozen? ⟨A o,1,none⟩=false)/\∃A' kv',A' n=wo.heap.size/\Tv (w.heap.size+1) w1 (w.heap.size+1) (.slice (some ⟨g,0,none⟩) (m+1) cap) n A' kv' (jc F n o ByteArray.empty) (o::os) (w'.setCell ⟨A o,1,none⟩ (.slice (some ⟨g2,0,none⟩) m2 ij))):=fun g2 m2 ij w' h1 h2 h3 =>
      ⟨HM.out.store h2,HM.out.node ByteArray.empty xT.out h1 h2 (by rw [jB.out] at h3;exact h3)⟩
     (have HNB:Hid (n<2000):=by have:=HM.out.nk;unfold Hid;omega);clear hs1;generalize kv o=kvo at *;have xK:Hid (nH s.data.toList=pz f' (s.data.toList.drop (k+1)) ([]::Z::st) false):=tG.out _ (by simp [pz])
     go_wp2_with (first | (at_builtin;refine yD (wo.alloc (.cells #[.string ⟨#[]⟩,.slice none 0 0,.int .i64 0] 81)) rfl _ _ 79 rfl (w.heap.size+1) 78 (.pointer none) 8 Tryz.underlying79 Tryz.xS rfl (by decide) HOW.out rfl (.pointer (some ⟨wo.heap.size,0,none⟩)) (wo.heap.size+1) jB.out rfl rfl _ Et.out.1 Et.out.2 X7.out ?_;intro g8 mY w8 cD eC oz;obtain ⟨⟨B4,Tz⟩,A8,kv8,TA,Oc⟩:=wV.out _ _ _ w8 cD eC oz;have HN8:=aa Oc;have HA8:=aa TA;have X8:Hid (w.heap.size+1<=(w8.setCell ⟨A o,1,none⟩ (.slice (some ⟨g8,0,none⟩) ((F.kids o).length+1) mY)).heap.size):=(by rw [Hid,gX];exact aV X7.out eC.size);clear cD eC oz TA Oc) | (at_builtin;refine yD (w8.setCell ⟨A o,1,none⟩ (.slice (some ⟨g8,0,none⟩) ((F.kids o).length+1) mY)) rfl _ _ 79 rfl (w.heap.size+1) 78 (.pointer none) 8 Tryz.underlying79 Tryz.xS rfl (by decide) HN8.out.own rfl (.pointer (some ⟨wo.heap.size,0,none⟩)) w8.heap.size (gX _ _ _) rfl rfl (m+1) (by rw [Ob.out];simp) (by omega) X8.out ?_;intro g9 aaF w9 yZ Da X9;have HP9:Hid (BZ (w.heap.size+1) s (nH s.data.toList) w1 (w.heap.size+1) (k+1) false (.slice (some ⟨g9,0,none⟩) (m+1+1) aaF) w9):=HM.out.opened HNB.out HN8.out X8.out (by unfold bL at yZ ⊢;rw [HA8.out];exact yZ) Da X9 xK.out.symm oD.out;clear yZ Da X9))
     go_roundw
     case rel=>exact ⟨k+1,false,bf.out,by go_num,rfl,HP9.out⟩
     case measure=>have:=bf.out;simp [intOf];omega
   ·have e1:=B3 (z:=40) Ic rfl
    by_cases Ie:ch=41
    ·have e2:=za (z:=41) Ie rfl
     subst Ie;cases b with
     | false =>
      have HST:=aa (lF (cg.out wo HM.out.up).2 (cg.out wo HM.out.up).1 (tG.out none (by simp [pz])));go_wp2_with fail;obtain ⟨s2,s3,hp⟩:=HST.out;exact ⟨rfl,.tuple #[.agg #[.slice none 0 0,.slice none 0 0],.int .i64 3],by simp [results,Tryz.results19,go_sem,s2,s3],hp⟩
     | true =>
      by_cases hm0:m=0
      ·have d2:(((m:Int)+1)==1)=true:=by rw [hm0];rfl
       have HST:=aa (lF (cg.out wo HM.out.up).2 (cg.out wo HM.out.up).1 (tG.out none (by have h:=C9.out;rw [hm0] at h;rw [pz,if_neg (by decide),if_pos rfl,if_pos (.inr h)])));clear hm0;go_wp2_with fail;obtain ⟨s2,s3,hp⟩:=HST.out;exact ⟨rfl,.tuple #[.agg #[.slice none 0 0,.slice none 0 0],.int .i64 3],by simp [results,Tryz.results19,go_sem,s2,s3],hp⟩
      ·have d2:(((m:Int)+1)==1)=false:=beq_eq_false_iff_ne.2 (by omega)
       obtain ⟨q,os2,rfl⟩:∃q os2,os=q::os2:=by
        cases os with
        | nil=>exact absurd (by have:=Ob.out;simpa using this) hm0
        | cons q os2=>exact ⟨q,os2,rfl⟩
       obtain ⟨Y,st2,rfl⟩:∃Y st2,st=Y::st2:=by
        cases st with
        | nil=>exact absurd (by have:=C9.out;simp at this;omega) hm0
        | cons Y st2=>exact ⟨Y,st2,rfl⟩
       have xK:Hid (nH s.data.toList=pz f' (s.data.toList.drop (k+1)) ((Y++[.node ByteArray.empty Z])::st2) true):=tG.out _ (by simp [pz,Q8]);(have HOL:Hid (m=os2.length+1):=by have:=Ob.out;simp at this;exact this);(have HN:Hid (BZ (w.heap.size+1) s (nH s.data.toList) w1 (w.heap.size+1) (k+1) true (.slice (some ⟨g,0,none⟩) m cap) wo):=by rw [HOL.out];exact HM.out.X3 (by rw [HOL.out]) xK.out.symm oD.out);(have w1f:(m:Int)<=(cap:Int):=by omega);clear hm0;go_wp2
       go_roundw
       case rel=>exact ⟨k+1,true,bf.out,by go_num,rfl,HN.out⟩
       case measure=>have:=bf.out;simp [intOf];omega
    ·have e2:=B3 (z:=41) Ie rfl
     by_cases Ig:ch=44
     ·have e3:=za (z:=44) Ig rfl
      subst Ig;cases b with
      | false =>
       have HST:=aa (lF (cg.out wo HM.out.up).2 (cg.out wo HM.out.up).1 (tG.out none (by simp [pz])));go_wp2_with fail;obtain ⟨s2,s3,hp⟩:=HST.out;exact ⟨rfl,.tuple #[.agg #[.slice none 0 0,.slice none 0 0],.int .i64 3],by simp [results,Tryz.results19,go_sem,s2,s3],hp⟩
      | true =>
       by_cases hm0:m=0
       ·have d2:(((m:Int)+1)==1)=true:=by rw [hm0];rfl
        have HST:=aa (lF (cg.out wo HM.out.up).2 (cg.out wo HM.out.up).1 (tG.out none (by have h:=C9.out;rw [hm0] at h;rw [pz,if_neg (by decide),if_neg (by decide),if_pos rfl,if_pos (.inr h)])));clear hm0;go_wp2_with fail;obtain ⟨s2,s3,hp⟩:=HST.out;exact ⟨rfl,.tuple #[.agg #[.slice none 0 0,.slice none 0 0],.int .i64 3],by simp [results,Tryz.results19,go_sem,s2,s3],hp⟩
       ·have d2:(((m:Int)+1)==1)=false:=beq_eq_false_iff_ne.2 (by omega)
        have xK:Hid (nH s.data.toList=pz f' (s.data.toList.drop (k+1)) (Z::st) false):=tG.out _ (by have h:=C9.out;rw [pz,if_neg (by decide),if_neg (by decide),if_pos rfl,if_neg (by rw [h];simp;omega)]);have HN:Hid (BZ (w.heap.size+1) s (nH s.data.toList) w1 (w.heap.size+1) (k+1) false (.slice (some ⟨g,0,none⟩) (m+1) cap) wo):=HM.out.comma xK.out.symm oD.out;clear hm0;go_wp2
        go_roundw
        case rel=>exact ⟨k+1,false,bf.out,by go_num,rfl,HN.out⟩
        case measure=>have:=bf.out;simp [intOf];omega
     ·have e3:=B3 (z:=44) Ig rfl
      by_cases Ih:ch=59
      ·have e4:=za (z:=59) Ih rfl
       subst Ih;cases b with
       | false =>
        have HST:=aa (lF (cg.out wo HM.out.up).2 (cg.out wo HM.out.up).1 (tG.out none (by simp [pz])));go_wp2_with fail;obtain ⟨s2,s3,hp⟩:=HST.out;exact ⟨rfl,.tuple #[.agg #[.slice none 0 0,.slice none 0 0],.int .i64 3],by simp [results,Tryz.results19,go_sem,s2,s3],hp⟩
       | true =>
        by_cases hm0:m=0
        ·have d2:(((m:Int)+1) != 1)=false:=by rw [hm0];rfl
         by_cases hk1:k+1=s.size
         ·have d3:((k:Int) != (s.size:Int) - 1)=false:=by simp;omega
          have hos:os=[]:=nN (by have:=Ob.out;omega);subst hos;have aaG:st=[]:=nN (by have:=C9.out;simp at this;omega);subst aaG;obtain ⟨r,Y,rfl⟩:∃r Y,Z=r::Y:=by
           have:=HM.out.XY rfl;cases Z with
           | nil=>exact absurd rfl this
           | cons r Y=>exact ⟨r,Y,rfl⟩
          (have ho0:o=0:=by have:=HM.out.last;simpa using this);subst ho0;have Ya:s.data.toList.drop (k+1)=[]:=List.drop_eq_nil_of_le (by rw [uY];have:s.data.size=s.size:=rfl;omega);have J8:nH s.data.toList=some r:=tG.out (some r) (by rw [Ya];simp [pz,NV]);obtain ⟨c,ks,hkc,dZ,htr⟩:=HM.out.zf.done;(have ni:s.data.toList.length=s.size:=by rw [uY];rfl);obtain ⟨Yb,Yc,rs3⟩:=N8 J8;rw [ni] at Yb Yc;have aaH:=aa Yb;have aaI:=aa Yc;have aaJ:Hid (∀k,(gs (flat r).ns k).size<=70000):=fun j=>by have:=rs3 j;rw [ni] at this;omega
          have Ii:=aa J8;have TB:=HM.out.a0;have hkv:=HM.out.fr.rL HM.out.zf.on;have hown:=HM.out.fr.own 0 HM.out.zf.on;rw [hkc,cV] at hown;rw [TB] at hkv;obtain ⟨kq,acz,Rp,Od⟩:=hown.form (n:=(ks.map (bL A)).length+1) (by simp);obtain ⟨kg,rfl⟩:∃kg,kq=some ⟨kg,0,none⟩:=by
           rcases Od with rfl | h2
           ·obtain ⟨_,h3 | ⟨g,_,_,h3,_⟩⟩:=hown
            ·have:=h3.2;simp at this
            ·rw [Rp] at h3;cases h3
           ·exact h2
          rw [Rp] at hown hkv;have Oe:=(Ej hown (j:=0) (u:=bL A c) (by simp)).1;simp only [bL] at Oe
          have J6:=aa (NB HM.out.zf.wf (fun i hi=>aV (r6 (HM.out.zf.nd i hi) (fun x hx=>(HM.out.zf.kid i hi x hx).2)) (by have:=HM.out.nk;omega)) wo c dZ HM.out.fr (by
           (have h1:(dW F mI c none).length=(bW F mI c).length:=by simp [bW]);have h2:=r6 (Ek HM.out.zf.wf HM.out.zf.one HM.out.zf.nd (fun i _=>Hq i) dZ) (fun x hx=>oT HM.out.zf.wf dZ (aj _) ((ew HM.out.zf.wf dZ (aj _)).1 hx));have:=HM.out.nk
           omega))
          rw [htr] at J6;have Yd:=aa (cg.out wo HM.out.up).1;have qF:=aa (cg.out wo HM.out.up).2;have Og:Hid (w.heap.size+1<=wo.heap.size):=aV (mQ fW.out.symm) HM.out.up.size;(have i9:(0:Int)<((ks.map (bL A)).length:Int)+1:=by omega);clear hm0 hk1 Ya J8 hkc htr ni Yb Yc rs3 hown Rp Od dZ;generalize (ks.map (bL A)).length=kl at *;go_wp2_with fail;refine J6.out.mono ?_;rintro e w4 ⟨eB,_,rfl,P4,N4,rfl,nC,kL⟩;obtain ⟨pp,pc,rfl,_,_⟩:=aB.open nC;obtain ⟨np,nc,rfl,_,_⟩:=aB.open kL
          have nC:af _ w4 (.slice pp (flat r).ps.length pc) (flat r).ps:=nC;have kL:aC _ w4 (.slice np (flat r).ns.length nc) (flat r).ns:=kL;have hal:=Up.alloc w4 (.cells #[.slice pp (flat r).ps.length pc,.slice np (flat r).ns.length nc] 33);have b0:=mC w4 (.slice pp (flat r).ps.length pc) (.slice np (flat r).ns.length nc) 33;have b1:=mD w4 (.slice pp (flat r).ps.length pc) (.slice np (flat r).ns.length nc) 33;have sW:=aa b0;have qE:=aa b1;have Ye:=(aO (eB.trans hal) w.heap.size (by have:=Og.out;omega)).trans Yd.out;have aaK:=aa Ye
          have aaL:=aa (qF.out.trans (eB.trans hal));have Kn:Hid (aJ (fun b=>wo.heap.size<=b) (w4.alloc (.cells #[.slice pp (flat r).ps.length pc,.slice np (flat r).ns.length nc] 33)) (.agg #[.slice pp (flat r).ps.length pc,.slice np (flat r).ns.length nc]) (flat r)):=aJ.keep ⟨_,_,rfl,nC,kL⟩ (hal.kept _);have fo:=aa (qY _ _ _ (flat r) Kn.out (by have:=aaH.out;omega) (by have:=aaI.out;omega) aaJ.out);have xX:Hid (wo.heap.size<=(w4.alloc (.cells #[.slice pp (flat r).ps.length pc,.slice np (flat r).ns.length nc] 33)).heap.size):=(eB.trans hal).size
          clear eB nC kL hal J6 Ye qF Yd q0 q1 q2 q3 Oe hkv;go_wp2_with fail;generalize w4.alloc (.cells #[.slice pp (flat r).ps.length pc,.slice np (flat r).ns.length nc] 33)=w5 at *;refine fo.out.mono ?_;rintro e w6 ⟨rfl,iu⟩;have iu:Up w5 w6:=iu;have b0:=iu.cell sW.out;have b1:=iu.cell qE.out;have Rq:=(aO iu w.heap.size (by have:=Og.out;have:=xX.out;omega)).trans aaK.out;have Yf:=aa Rq;have Yg:=aa (aaL.out.trans iu);have TC:=aa (Kn.out.keep (iu.kept _));obtain ⟨q0,q1,q2,q3⟩:=boxed Rq
          (have S2:Hid (Er s=aF (flat r)):=by unfold Hid Er;rw [Ii.out]);(have TD:Hid (BW s=if aF (flat r)≠0 then ⟨[],[]⟩ else flat r):=by unfold Hid BW;rw [Ii.out]);clear iu Rq fo;by_cases he:aF (flat r)=0
          ·have Rs:Hid (BW s=flat r):=by unfold Hid;rw [TD.out,if_neg (by simp [he])]
           (have aaM:Hid (Er s=0):=by unfold Hid;rw [S2.out,he]);rw [he];have HST:=aa (nD (w:=w) (p:=.slice pp (flat r).ps.length pc) (q:=.slice np (flat r).ns.length nc) Yf.out (aj _) Yg.out);clear he;go_wp2_with fail;obtain ⟨s1,s2,s3,s4⟩:=HST.out;obtain ⟨P7,N7,e7,MA,hN7⟩:=TC.out;(have e8:P7=.slice pp (flat r).ps.length pc/\N7=.slice np (flat r).ns.length nc:=by injection e7 with e7;have:=congrArg Array.toList e7;simp at this;exact ⟨this.1.symm,this.2.symm⟩);obtain ⟨rfl,rfl⟩:=e8;have hsw:=Og.out
           refine ⟨rfl,.tuple #[.agg #[.slice pp (flat r).ps.length pc,.slice np (flat r).ns.length nc],.int .i64 0],by simp [results,Tryz.results19,go_sem,s2,s3],?_⟩;refine ⟨s1,_,by rw [aaM.out],?_⟩;rw [Rs.out];exact ⟨_,_,rfl,(af.keep MA fun b hb _=>s4 b (by omega)).sub fun b _ _=>trivial,(aC.keep hN7 fun b hb _=>s4 b (by omega)).sub fun b _ _=>trivial⟩
          ·have S4:(aF (flat r) != 0)=true:=by simpa using he
           (have Rs:Hid (BW s=⟨[],[]⟩):=by unfold Hid;rw [TD.out,if_pos he]);have HST:=aa (nD (w:=w) (p:=.slice none 0 0) (q:=.slice none 0 0) Yf.out (aj _) Yg.out);clear he;generalize aF (flat r)=te at *;go_wp2_with fail;obtain ⟨s1,s2,s3,s4⟩:=HST.out;refine ⟨rfl,.tuple #[.agg #[.slice none 0 0,.slice none 0 0],.int .i64 te],by simp [results,Tryz.results19,go_sem,s2,s3],?_⟩;refine ⟨s1,_,by rw [S2.out],?_⟩;rw [Rs.out];exact GX _
         ·have d3:((k:Int) != (s.size:Int) - 1)=true:=by simp;omega
          have HST:=aa (lF (cg.out wo HM.out.up).2 (cg.out wo HM.out.up).1 (tG.out none (by
           have hne:s.data.toList.drop (k+1)≠[]:=fun e=>by have:=List.drop_eq_nil_iff.1 e;rw [uY] at this;have h2:s.data.size=s.size:=rfl;omega
           rw [pz,if_neg (by decide),if_neg (by decide),if_neg (by decide),if_pos rfl,if_pos (.inr (.inr hne))])))
          clear hm0 hk1;go_wp2_with fail;obtain ⟨s2,s3,hp⟩:=HST.out;exact ⟨rfl,.tuple #[.agg #[.slice none 0 0,.slice none 0 0],.int .i64 3],by simp [results,Tryz.results19,go_sem,s2,s3],hp⟩
        ·have d2:(((m:Int)+1) != 1)=true:=by simp;omega
         have HST:=aa (lF (cg.out wo HM.out.up).2 (cg.out wo HM.out.up).1 (tG.out none (by have h:=C9.out;rw [pz,if_neg (by decide),if_neg (by decide),if_neg (by decide),if_pos rfl,if_pos (.inr (.inl (by rw [h];omega)))])));clear hm0;go_wp2_with fail;obtain ⟨s2,s3,hp⟩:=HST.out;exact ⟨rfl,.tuple #[.agg #[.slice none 0 0,.slice none 0 0],.int .i64 3],by simp [results,Tryz.results19,go_sem,s2,s3],hp⟩
      ·have e4:=B3 (z:=59) Ih rfl
       cases b with
       | true =>
        have HST:=aa (lF (cg.out wo HM.out.up).2 (cg.out wo HM.out.up).1 (tG.out none (by rw [pz,if_neg Ic,if_neg Ie,if_neg Ig,if_neg Ih,if_pos rfl])));go_wp2_with fail;obtain ⟨s2,s3,hp⟩:=HST.out;exact ⟨rfl,.tuple #[.agg #[.slice none 0 0,.slice none 0 0],.int .i64 3],by simp [results,Tryz.results19,go_sem,s2,s3],hp⟩
       | false =>
        have Oh:Hid (ch∉cN):=CX Ic Ie Ig Ih
        have Yh:Hid (∀x,(if Lib.indexAny (s.data.toList.drop k) cN<0 then none else pz f' ((s.data.toList.drop k).drop (Lib.indexAny (s.data.toList.drop k) cN).toNat) ((Z++[.node ⟨((s.data.toList.drop k).take (Lib.indexAny (s.data.toList.drop k) cN).toNat).toArray⟩ []])::st) true)=x->nH s.data.toList=x):=fun x hx=>tG.out x (by
         rw [pz,if_neg Ic,if_neg Ie,if_neg Ig,if_neg Ih,if_neg (by simp),<- HDR.out];exact hx)
        have S0:=aa (HIA.out k wo bf.out);clear Ic Ie Ig Ih;(have i3:(k:Int)<=(s.size:Int):=by omega);go_wp2_with fail;refine S0.out.mono ?_;rintro e w3 ⟨rfl,ct⟩;have TE:=aa (HM.out.X4 ct);obtain ⟨q0,q1,q2,q3⟩:=boxed (cg.out w3 TE.out.up).1;clear ct S0;by_cases Ib:Lib.indexAny (s.data.toList.drop k) cN<0
        ·have d5:decide (Lib.indexAny (s.data.toList.drop k) cN<0)=true:=decide_eq_true Ib
         have HST:=aa (lF (cg.out w3 TE.out.up).2 (cg.out w3 TE.out.up).1 (Yh.out none (by rw [if_pos Ib])));clear Ib;generalize Lib.indexAny (s.data.toList.drop k) cN=ia at *;go_wp2_with fail;obtain ⟨s2,s3,hp⟩:=HST.out;exact ⟨rfl,.tuple #[.agg #[.slice none 0 0,.slice none 0 0],.int .i64 3],by simp [results,Tryz.results19,go_sem,s2,s3],hp⟩
        ·obtain ⟨x,hx⟩:∃x:Nat,Lib.indexAny (s.data.toList.drop k) cN=(x:Int):=⟨(Lib.indexAny (s.data.toList.drop k) cN).toNat,by omega⟩
         (have hx1:1<=x:=by have h1:=Hs (s:=s.data.toList.drop (k+1)) Oh.out;rw [<- HDR.out,hx] at h1;omega);(have hx2:k+x<s.size:=by have h1:=Tn _ x hx;rw [List.length_drop,uY] at h1;have h2:s.data.size=s.size:=rfl;omega);(have aaN:Hid (pz f' (s.data.toList.drop (k+x)) ((Z++[.node (s.extract k (k+x)) []])::st) true=nH s.data.toList):=by have h1:=Yh.out _ rfl;rw [hx,if_neg (by omega),ei,List.drop_drop,LF s k x] at h1;exact h1.symm);rw [hx];have d5:decide ((x:Int)<0)=false:=decide_eq_false (by omega);have ko:=aa hx2;have qG:=aa hx1
         (have j1:(0:Int)<=(x:Int):=by omega);(have j2:(k:Int)<=(k:Int)+(x:Int):=by omega);(have j3:(k:Int)+(x:Int)<=(s.size:Int):=by omega);(have j4:IntKind.i64.wrap ((k:Int)+(x:Int))=(k:Int)+(x:Int):=by rw [IntKind.wrap_i64];omega);(have j5:((k:Int)+(x:Int)).toNat=k+x:=by omega);(have j6:(0:Int)<=(k:Int)+(x:Int):=by omega);have wW:=aa TE.out.drew;have hkc:=wW.out.fr.rL wW.out.zf.on;have hkf:=wW.out.fr.thaw wW.out.zf.on 1;clear Ib hx hx1 Yh;go_wp2_with fail;refine jT (by kernel_rfl) 18 (fun w'=>w'.cell? ⟨A o,1,none⟩=some (kv o)) hkc (fun hS=>?_)
         simp only [gI,bB,eW,Nat.reduceAdd,jL,jM,gH,dz,cw];refine ah.uv 0 1 2 3 hS ?_;(try simp only [Act.put,av,ax,ay]);refine ah.uv 4 5 6 7 hS ?_;(try simp only [Act.put,av,ax,ay]);refine ah.uv 8 9 10 11 hS ?_;(try simp only [Act.put,av,ax,ay]);refine ah.st 12 fun K' hK=>?_;go_simp
         refine hK.out _ _ (fun _=>(Up.alloc _ _).cell hkc) (fun hS=>?_);(try simp only [av,ax,ay]);have HOW:Hid (au (w.heap.size+1) 78 ((w3.drew.alloc (.cells #[.string (s.extract k (k+x)),.slice none 0 0,.int .i64 0] 81)).alloc (.cells #[.pointer (some ⟨w3.drew.heap.size,0,none⟩)] 78)) (kv o) ((F.kids o).map (bL A))):=((wW.out.fr.own o wW.out.zf.on).alloc _).alloc _;have Ko:(w3.drew.alloc (.cells #[.string (s.extract k (k+x)),.slice none 0 0,.int .i64 0] 81)).heap.size=w3.drew.heap.size+1:=aN _ _;have kO:=aa Ko
         (have k7:Hid (((w3.drew.alloc (.cells #[.string (s.extract k (k+x)),.slice none 0 0,.int .i64 0] 81)).alloc (.cells #[.pointer (some ⟨w3.drew.heap.size,0,none⟩)] 78)).cell? ⟨w3.drew.heap.size+1,0,none⟩=some (.pointer (some ⟨w3.drew.heap.size,0,none⟩))):=by have h:=bE (w3.drew.alloc (.cells #[.string (s.extract k (k+x)),.slice none 0 0,.int .i64 0] 81)) #[.pointer (some ⟨w3.drew.heap.size,0,none⟩)] 78 0;rw [Ko] at h;exact h);have JL:Hid (w.heap.size+1<=w3.drew.heap.size):=aV (mQ fW.out.symm) wW.out.up.size
         (have xT:Hid (w.heap.size+1<=((w3.drew.alloc (.cells #[.string (s.extract k (k+x)),.slice none 0 0,.int .i64 0] 81)).alloc (.cells #[.pointer (some ⟨w3.drew.heap.size,0,none⟩)] 78)).heap.size):=by have:=JL.out;rw [Hid,aN,aN];omega);have Et:=aa wW.out.X0;(have aaO:Hid (((F.kids o).map (bL A)).length<=1000000):=by have:=Et.out;unfold Hid;rw [this.1];exact this.2);clear Ko;refine ah.st 13 fun K' hK=>?_;go_simp;refine hK.out _ _ (fun _=>((Up.alloc _ _).trans (Up.alloc _ _)).cell hkc) (fun hS=>?_)
         (try simp only [av,ax,ay]);(try rw [kO.out]);refine ah.st 14 fun K' hK=>?_;refine aL (by rfl) _ _ _ (by rfl) (w.heap.size+1) 78 _ 8 Tryz.underlying79 Tryz.xS (by rfl) (by decide) (by rfl) HOW.out (.pointer (some ⟨w3.drew.heap.size,0,none⟩)) (w3.drew.heap.size+1) (by rfl) k7.out (by rfl) aaO.out xT.out ?_;intro g8 mY w8 cD eC oz _;have Db:=rM eC
         have Da:(w3.drew.alloc (.cells #[.string (s.extract k (k+x)),.slice none 0 0,.int .i64 0] 81)).grownBy w8 (kv o).ownBlock:=⟨Db.os,Db.tape,Db.output,Db.size,Db.block⟩;obtain ⟨B4,Tz⟩:=wW.out.store Da;obtain ⟨A8,kv8,TA,Oc⟩:=wW.out.node (s.extract k (k+x)) JL.out cD Da (oz.imp id fun e=>by rw [e];show _<=(World.alloc (World.alloc w3 _) _).heap.size;rw [aN,aN];exact jP (w3.heap.size+1))
         have Yi:=aa (wW.out.leaf (by have:=wW.out.nk;omega) (k':=k+x) (f':=f') (by have:=qG.out;omega) Oc aaN.out (by have:=oD.out;have:=qG.out;omega));clear cD eC oz Db Da Oc TA;refine hK.out _ _ (fun _=>B4) (fun hS=>?_);(try simp only [Act.put,av,ax,ay]);replace hS:=hS ⟨17,by decide,rfl⟩;refine ah.Dz 15 16 hS ?_;(try simp only [Act.put,av,ax,ay]);refine ah.st 17 fun K' hK=>?_;go_simp;refine hK.out _ _ (aT ·) (fun hS=>?_)
         refine ah.done (by kernel_rfl) ?_;(have j7:(x:Int) - 1<(s.size:Int):=by omega);go_wp2
         go_roundw
         case rel=>exact ⟨k+x,true,by have:=ko.out;omega,by have:=qG.out;have:=ko.out;go_num,rfl,by have h:=Yi.out;rw [Et.out.1] at h;exact h⟩
         case measure=>have:=qG.out;have:=ko.out;simp [intOf];omega
  ·obtain rfl:k=s.size:=by omega
   obtain ⟨n,A,kv,F,o,os,Z,st,f,hM⟩:=hO.out;have hf:=hM.fuel;have hrun:=hM.run;have hd0:s.data.toList.drop s.size=[]:=List.drop_eq_nil_of_le (by rw [uY];exact aj _);obtain ⟨f',rfl⟩:∃f',f=f'+1:=⟨f - 1,by omega⟩;rw [hd0,pz] at hrun;obtain ⟨q0,q1,q2,q3⟩:=boxed (cg.out wo hM.up).1;have HST:=aa (lF (cg.out wo hM.up).2 (cg.out wo hM.up).1 hrun.symm);clear hM hO hf hrun hd0 hlt hk;go_wp2_with fail;obtain ⟨s2,s3,hp⟩:=HST.out;exact ⟨rfl,.tuple #[.agg #[.slice none 0 0,.slice none 0 0],.int .i64 3],by simp [results,Tryz.results19,go_sem,s2,s3],hp⟩
end Go.Proofs.YtfomhlbhcifgbaaGreatDoor
