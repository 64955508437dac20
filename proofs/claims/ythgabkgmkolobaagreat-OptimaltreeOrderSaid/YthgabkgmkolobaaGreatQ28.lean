/- The contract of phylotree.Parse. -/
import Derived.Test.YthgabkgmkolobaaGreatQ27
set_option maxRecDepth 100000
set_option maxHeartbeats 8000000
namespace Go.Proofs.YthgabkgmkolobaaGreat
open Go.RowKit Go.Deep
def yZ (w:World) (s:ByteArray) (e:Ending) (w':World):Prop :=
 Up w w'/\∃v,e=.returned (.tuple #[v,.int .i64 (ux s)])/\aC Any w' v (rE s)
def W9 (s:ByteArray):Prop:=∀(i:Nat) (W:World),i<s.size->Calls Tryz.prog 166 #[.string (s.extract i s.size),.string ⟨#[40,41,44,59]⟩] W fun e W'=>e=.returned (.int .i64 (Lib.indexAny (s.data.toList.drop i) bT))/\Up W W'
theorem kz {w W : World} {s : ByteArray} (hu : Up w W) (hb : W.heap[w.heap.size]? = some (Obj.cells #[.slice none 0 0, .slice none 0 0] 39 (0, 0))) (h : jM s.data.toList = none) :
    ((W.setCell ⟨w.heap.size, 0, none⟩ (.slice none 0 0)).setCell ⟨w.heap.size, 1, none⟩ (.slice none 0 0)).cell? ⟨w.heap.size, 0, none⟩ = some (.slice none 0 0) /\ ((W.setCell ⟨w.heap.size, 0, none⟩ (.slice none 0 0)).setCell ⟨w.heap.size, 1, none⟩ (.slice none 0 0)).cell? ⟨w.heap.size, 1, none⟩ = some (.slice none 0 0) /\
      yZ w s (.returned (.tuple #[.agg #[.slice none 0 0, .slice none 0 0], .int .i64 3])) ((W.setCell ⟨w.heap.size, 0, none⟩ (.slice none 0 0)).setCell ⟨w.heap.size, 1, none⟩ (.slice none 0 0)) := by
  obtain ⟨s1, s2, s3, s4⟩ := eW (p := .slice none 0 0) (q := .slice none 0 0) hb (ah _) hu
  refine ⟨s2, s3, s1, .agg #[.slice none 0 0, .slice none 0 0], by unfold ux; rw [h], ?_⟩
  unfold rE; rw [h]; exact Bb _
theorem Cr {c d:UInt8} {z:Int} (h:c≠d) (hz:z=d.toNat):((c.toNat:Int)==z)=false:=by
 subst hz;rw [beq_eq_false_iff_ne];intro e;exact h (UInt8.toNat_inj.1 (by omega))
theorem zQ {c d:UInt8} {z:Int} (h:c=d) (hz:z=d.toNat):((c.toNat:Int)==z)=true:=by
 subst hz;subst h;exact beq_self_eq_true _
theorem Uj (w:World) (s:ByteArray) (hs:s.size<=1000) (Hq:W9 s) :
  Calls Tryz.prog 121 #[.string s] w (yZ w s):=by
 have hrb:=jv (w:=w) (P:=.slice none 0 0) (N:=.slice none 0 0) (T:=39);have hu:=Up.alloc w (.cells #[.slice none 0 0,.slice none 0 0] 39);have hsz:(w.alloc (.cells #[.slice none 0 0,.slice none 0 0] 39)).heap.size=w.heap.size+1:=aL _ _;have HU:=aa hu;have dm:=aa hsz;have mI:=aa hrb;have Xa:=aa Hq;have d1:decide ((65536:Int)<(s.size:Int))=false:=decide_eq_false (by omega);have S9:¬65536<s.size:=by omega
 clear hrb hu hsz Hq
 go_enter Tryz.func121,Tryz.ntmps121
 go_wp2_with fail;have HST:=aa (Ru (w.alloc (.cells #[.slice none 0 0,.slice none 0 0] 39)) s);rw [dm.out] at HST;generalize w.alloc (.cells #[.slice none 0 0,.slice none 0 0] 39)=w1 at *;have ct:Hid (∀wr,Below (w.heap.size+1) w1 wr->wr.heap[w.heap.size]? = some (Obj.cells #[.slice none 0 0,.slice none 0 0] 39 (0,0))/\Up w wr):=fun wr h=>⟨(h.block _ (qz _)).trans mI.out,HU.out.trans (h.mono (by rw [dm.out];exact ah _))⟩
 go_loopw [5,6,7,8,9,10,11,12,66,86,101,111] (fun ov dn i _ _ _ _ _ _ _ _ _ wr=>∃(k:Nat) (b:Bool),k<=s.size/\i=.int .i64 k/\dn=.bool b/\Hid (Cq (w.heap.size+1) s (jM s.data.toList) w1 (w.heap.size+1) k b ov wr)) (fun _ _ i _ _ _ _ _ _ _ _ _ _=>s.size - (intOf i).toNat)
 case atStart=>exact ⟨0,false,aI _,rfl,rfl,HST.out⟩
 case round =>
  obtain ⟨k,b,hk,rfl,rfl,hO⟩:=hrel;obtain ⟨wo,rfl⟩:∃wo:World,wo=wr:=⟨_,rfl⟩;by_cases hlt:k<s.size
  ·obtain ⟨n,A,kv,F,o,os,Z,st,f,hM⟩:=hO.out
   obtain ⟨g,cap,S8,Zo,hrow⟩:=hM.row
   
   obtain ⟨f',ch,vG,hf2,hdr,hch⟩:=hM.step hlt;have HF:=aa vG;have Gm:=aa hf2;have Rv:=hdr;(have i1:(0:Int)<=(k:Int):=by omega);(have i2:(k:Int)<(s.size:Int):=by omega);have hol:=hM.ol;have bG:=aa hlt;obtain ⟨m,hm⟩:∃m,m=os.length:=⟨_,rfl⟩;have OC:=aa hm;rw [<- hm] at S8 Zo hrow hol;subst S8;(have w1a:wrap64 (m:Int)=(m:Int):=by unfold wrap64;omega);(have w1b:(0:Int)<=(m:Int):=by omega);(have w1c:(m:Int)<(m:Int)+1:=by omega);(have w1d:m<m+1:=by omega);(have w1e:m+1<=1000000:=by omega);have HM:=aa hM;clear hm hol;clear hO hM vG hf2 hdr
   have hfr:=HM.out.fr.thaw HM.out.zf.on 1;obtain ⟨q0,q1,q2,q3⟩:=boxed (ct.out wo HM.out.up).1;(have uy:Hid (∀x,pz (f'+1) (ch::s.data.toList.drop (k+1)) (Z::st) b=x->jM s.data.toList=x):=fun x hx=>by have hr:=HM.out.run;rw [HF.out,Rv] at hr;rw [<- hr];exact hx);have Ta:=aa Rv;(have Di:Hid ((Z::st).length=m+1):=by have h:=HM.out.zf.len;rw [Hid,OC.out];simp at h ⊢;omega);clear Rv;by_cases Hr:ch=40
   ·have e1:=zQ (z:=40) Hr rfl
    subst Hr;cases b with
    | true =>
     have HST:=aa (kz (ct.out wo HM.out.up).2 (ct.out wo HM.out.up).1 (uy.out none (by simp [pz])));go_wp2_with fail;obtain ⟨s2,s3,hp⟩:=HST.out;exact ⟨rfl,.tuple #[.agg #[.slice none 0 0,.slice none 0 0],.int .i64 3],by simp [results,Tryz.results121,go_sem,s2,s3],hp⟩
    | false =>
     have hkc:=(Up.alloc wo (.cells #[.string ⟨#[]⟩,.slice none 0 0,.int .i64 0] 122)).cell (HM.out.fr.qV HM.out.zf.on);have hs1:(wo.alloc (.cells #[.string ⟨#[]⟩,.slice none 0 0,.int .i64 0] 122)).heap.size=wo.heap.size+1:=aL _ _;have ni:=aa hs1;have HOW:Hid (ax (w.heap.size+1) 119 (wo.alloc (.cells #[.string ⟨#[]⟩,.slice none 0 0,.int .i64 0] 122)) (kv o) ((F.kids o).map (bD A))):=(HM.out.fr.own o HM.out.zf.on).alloc _;have pg:Hid (w.heap.size+1<=wo.heap.size):=aR (gQ dm.out.symm) HM.out.up.size
     (have Xb:Hid (w.heap.size+1<=(wo.alloc (.cells #[.string ⟨#[]⟩,.slice none 0 0,.int .i64 0] 122)).heap.size):=by rw [Hid,ni.out];exact Nat.le_succ_of_le pg.out);have OD:=aa HM.out.W5
     have rD:Hid (∀g2 m2 eR w',ax (w.heap.size+1) 119 w' (.slice (some ⟨g2,0,none⟩) m2 eR) ((F.kids o).map (bD A)++[.pointer (some ⟨wo.heap.size,0,none⟩)])->(wo.alloc (.cells #[.string ⟨#[]⟩,.slice none 0 0,.int .i64 0] 122)).grownBy w' (kv o).ownBlock->((kv o).ownBlock=some g2\/(wo.alloc (.cells #[.string ⟨#[]⟩,.slice none 0 0,.int .i64 0] 122)).heap.size<=g2) ->
       (w'.cell? ⟨A o,1,none⟩=some (kv o)/\w'.frozen? ⟨A o,1,none⟩=false)/\∃A' kv',A' n=wo.heap.size/\S7 (w.heap.size+1) w1 (w.heap.size+1) (.slice (some ⟨g,0,none⟩) (m+1) cap) n A' kv' (jI F n o ByteArray.empty) (o::os) (w'.setCell ⟨A o,1,none⟩ (.slice (some ⟨g2,0,none⟩) m2 eR))):=fun g2 m2 eR w' h1 h2 h3 =>
      ⟨HM.out.store h2,HM.out.node ByteArray.empty pg.out h1 h2 (by rw [ni.out] at h3;exact h3)⟩
     (have nV:Hid (n<2000):=by have:=HM.out.nk;unfold Hid;omega);clear hs1;generalize kv o=kvo at *;have BU:Hid (jM s.data.toList=pz f' (s.data.toList.drop (k+1)) ([]::Z::st) false):=uy.out _ (by simp [pz])
     go_wp2_with (first | (at_builtin;refine yY (wo.alloc (.cells #[.string ⟨#[]⟩,.slice none 0 0,.int .i64 0] 122)) rfl _ _ 120 rfl (w.heap.size+1) 119 (.pointer none) 8 Tryz.underlying120 Tryz.sQ rfl (by decide) HOW.out rfl (.pointer (some ⟨wo.heap.size,0,none⟩)) (wo.heap.size+1) ni.out rfl rfl _ OD.out.1 OD.out.2 Xb.out ?_;intro g8 jl w8 dJ eN iV;obtain ⟨⟨Xc,hf8⟩,A8,kv8,Aw,OE⟩:=rD.out _ _ _ w8 dJ eN iV;have HN8:=aa OE;have Xd:=aa Aw;have Xe:Hid (w.heap.size+1<=(w8.setCell ⟨A o,1,none⟩ (.slice (some ⟨g8,0,none⟩) ((F.kids o).length+1) jl)).heap.size):=(by rw [Hid,ox];exact aR Xb.out eN.size);clear dJ eN iV Aw OE) | (at_builtin;refine yY (w8.setCell ⟨A o,1,none⟩ (.slice (some ⟨g8,0,none⟩) ((F.kids o).length+1) jl)) rfl _ _ 120 rfl (w.heap.size+1) 119 (.pointer none) 8 Tryz.underlying120 Tryz.sQ rfl (by decide) HN8.out.own rfl (.pointer (some ⟨wo.heap.size,0,none⟩)) w8.heap.size (ox _ _ _) rfl rfl (m+1) (by rw [OC.out];simp) (by omega) Xe.out ?_;intro g9 aaG w9 Mf Dj Xf;have HP9:Hid (Cq (w.heap.size+1) s (jM s.data.toList) w1 (w.heap.size+1) (k+1) false (.slice (some ⟨g9,0,none⟩) (m+1+1) aaG) w9):=HM.out.opened nV.out HN8.out Xe.out (by unfold bD at Mf ⊢;rw [Xd.out];exact Mf) Dj Xf BU.out.symm Gm.out;clear Mf Dj Xf))
     go_roundw
     case rel=>exact ⟨k+1,false,bG.out,by go_num,rfl,HP9.out⟩
     case measure=>have:=bG.out;simp [intOf];omega
   ·have e1:=Cr (z:=40) Hr rfl
    by_cases Hs:ch=41
    ·have e2:=zQ (z:=41) Hs rfl
     subst Hs;cases b with
     | false =>
      have HST:=aa (kz (ct.out wo HM.out.up).2 (ct.out wo HM.out.up).1 (uy.out none (by simp [pz])));go_wp2_with fail;obtain ⟨s2,s3,hp⟩:=HST.out;exact ⟨rfl,.tuple #[.agg #[.slice none 0 0,.slice none 0 0],.int .i64 3],by simp [results,Tryz.results121,go_sem,s2,s3],hp⟩
     | true =>
      by_cases hm0:m=0
      ·have d2:(((m:Int)+1)==1)=true:=by rw [hm0];rfl
       have HST:=aa (kz (ct.out wo HM.out.up).2 (ct.out wo HM.out.up).1 (uy.out none (by have h:=Di.out;rw [hm0] at h;rw [pz,if_neg (by decide),if_pos rfl,if_pos (.inr h)])));clear hm0;go_wp2_with fail;obtain ⟨s2,s3,hp⟩:=HST.out;exact ⟨rfl,.tuple #[.agg #[.slice none 0 0,.slice none 0 0],.int .i64 3],by simp [results,Tryz.results121,go_sem,s2,s3],hp⟩
      ·have d2:(((m:Int)+1)==1)=false:=beq_eq_false_iff_ne.2 (by omega)
       obtain ⟨q,os2,rfl⟩:∃q os2,os=q::os2:=by
        cases os with
        | nil=>exact absurd (by have:=OC.out;simpa using this) hm0
        | cons q os2=>exact ⟨q,os2,rfl⟩
       obtain ⟨Y,st2,rfl⟩:∃Y st2,st=Y::st2:=by
        cases st with
        | nil=>exact absurd (by have:=Di.out;simp at this;omega) hm0
        | cons Y st2=>exact ⟨Y,st2,rfl⟩
       have BU:Hid (jM s.data.toList=pz f' (s.data.toList.drop (k+1)) ((Y++[.node ByteArray.empty Z])::st2) true):=uy.out _ (by simp [pz,Rh]);(have HOL:Hid (m=os2.length+1):=by have:=OC.out;simp at this;exact this);(have HN:Hid (Cq (w.heap.size+1) s (jM s.data.toList) w1 (w.heap.size+1) (k+1) true (.slice (some ⟨g,0,none⟩) m cap) wo):=by rw [HOL.out];exact HM.out.W6 (by rw [HOL.out]) BU.out.symm Gm.out);(have w1f:(m:Int)<=(cap:Int):=by omega);clear hm0;go_wp2_with fail
       go_roundw
       case rel=>exact ⟨k+1,true,bG.out,by go_num,rfl,HN.out⟩
       case measure=>have:=bG.out;simp [intOf];omega
    ·have e2:=Cr (z:=41) Hs rfl
     by_cases Ht:ch=44
     ·have e3:=zQ (z:=44) Ht rfl
      subst Ht;cases b with
      | false =>
       have HST:=aa (kz (ct.out wo HM.out.up).2 (ct.out wo HM.out.up).1 (uy.out none (by simp [pz])));go_wp2_with fail;obtain ⟨s2,s3,hp⟩:=HST.out;exact ⟨rfl,.tuple #[.agg #[.slice none 0 0,.slice none 0 0],.int .i64 3],by simp [results,Tryz.results121,go_sem,s2,s3],hp⟩
      | true =>
       by_cases hm0:m=0
       ·have d2:(((m:Int)+1)==1)=true:=by rw [hm0];rfl
        have HST:=aa (kz (ct.out wo HM.out.up).2 (ct.out wo HM.out.up).1 (uy.out none (by have h:=Di.out;rw [hm0] at h;rw [pz,if_neg (by decide),if_neg (by decide),if_pos rfl,if_pos (.inr h)])));clear hm0;go_wp2_with fail;obtain ⟨s2,s3,hp⟩:=HST.out;exact ⟨rfl,.tuple #[.agg #[.slice none 0 0,.slice none 0 0],.int .i64 3],by simp [results,Tryz.results121,go_sem,s2,s3],hp⟩
       ·have d2:(((m:Int)+1)==1)=false:=beq_eq_false_iff_ne.2 (by omega)
        have BU:Hid (jM s.data.toList=pz f' (s.data.toList.drop (k+1)) (Z::st) false):=uy.out _ (by have h:=Di.out;rw [pz,if_neg (by decide),if_neg (by decide),if_pos rfl,if_neg (by rw [h];simp;omega)]);have HN:Hid (Cq (w.heap.size+1) s (jM s.data.toList) w1 (w.heap.size+1) (k+1) false (.slice (some ⟨g,0,none⟩) (m+1) cap) wo):=HM.out.comma BU.out.symm Gm.out;clear hm0;go_wp2_with fail
        go_roundw
        case rel=>exact ⟨k+1,false,bG.out,by go_num,rfl,HN.out⟩
        case measure=>have:=bG.out;simp [intOf];omega
     ·have e3:=Cr (z:=44) Ht rfl
      by_cases Hu:ch=59
      ·have e4:=zQ (z:=59) Hu rfl
       subst Hu;cases b with
       | false =>
        have HST:=aa (kz (ct.out wo HM.out.up).2 (ct.out wo HM.out.up).1 (uy.out none (by simp [pz])));go_wp2_with fail;obtain ⟨s2,s3,hp⟩:=HST.out;exact ⟨rfl,.tuple #[.agg #[.slice none 0 0,.slice none 0 0],.int .i64 3],by simp [results,Tryz.results121,go_sem,s2,s3],hp⟩
       | true =>
        by_cases hm0:m=0
        ·have d2:(((m:Int)+1) != 1)=false:=by rw [hm0];rfl
         by_cases hk1:k+1=s.size
         ·have d3:((k:Int) != (s.size:Int) - 1)=false:=by simp;omega
          have hos:os=[]:=lu (by have:=OC.out;omega);subst hos;have aaH:st=[]:=lu (by have:=Di.out;simp at this;omega);subst aaH;obtain ⟨r,Y,rfl⟩:∃r Y,Z=r::Y:=by
           have:=HM.out.WY rfl;cases Z with
           | nil=>exact absurd rfl this
           | cons r Y=>exact ⟨r,Y,rfl⟩
          (have Ab:o=0:=by have:=HM.out.last;simpa using this);subst Ab;have Xg:s.data.toList.drop (k+1)=[]:=List.drop_eq_nil_of_le (by rw [sj];have:s.data.size=s.size:=rfl;omega);have mY:jM s.data.toList=some r:=uy.out (some r) (by rw [Xg];simp [pz,Ou]);obtain ⟨c,ks,hkc,eY,htr⟩:=HM.out.zf.done;(have iO:s.data.toList.length=s.size:=by rw [sj];rfl);obtain ⟨Cs,Ct,ET⟩:=yX mY;rw [iO] at Cs Ct;have Hv:=aa Cs;have Hw:=aa Ct;have Hx:Hid (∀k,(gs (flat r).ns k).size<=70000):=fun j=>by have:=ET j;rw [iO] at this;omega
          have xR:=aa mY;have Tb:=HM.out.a0;have hkv:=HM.out.fr.qV HM.out.zf.on;have hown:=HM.out.fr.own 0 HM.out.zf.on;rw [hkc,bI] at hown;rw [Tb] at hkv;obtain ⟨kq,acj,Rw,OG⟩:=hown.form (n:=(ks.map (bD A)).length+1) (by simp);obtain ⟨kg,rfl⟩:∃kg,kq=some ⟨kg,0,none⟩:=by
           rcases OG with rfl | h2
           ·obtain ⟨_,h3 | ⟨g,_,_,h3,_⟩⟩:=hown
            ·have:=h3.2;simp at this
            ·rw [Rw] at h3;cases h3
           ·exact h2
          rw [Rw] at hown hkv;have OH:=(EJ hown (j:=0) (u:=bD A c) (by simp)).1;simp only [bD] at OH
          have Eg:=aa (NB HM.out.zf.wf (fun i hi=>aR (pU (HM.out.zf.nd i hi) (fun x hx=>(HM.out.zf.kid i hi x hx).2)) (by have:=HM.out.nk;omega)) wo c eY HM.out.fr (by
           (have h1:(eD F nh c none).length=(b5 F nh c).length:=by simp [b5]);have h2:=pU (EK HM.out.zf.wf HM.out.zf.one HM.out.zf.nd (fun i _=>G4 i) eY) (fun x hx=>pR HM.out.zf.wf eY (ah _) ((eL HM.out.zf.wf eY (ah _)).1 hx));have:=HM.out.nk
           omega))
          rw [htr] at Eg;have Xh:=aa (ct.out wo HM.out.up).1;have mX:=aa (ct.out wo HM.out.up).2;have OI:Hid (w.heap.size+1<=wo.heap.size):=aR (gQ dm.out.symm) HM.out.up.size;(have i9:(0:Int)<((ks.map (bD A)).length:Int)+1:=by omega);clear hm0 hk1 Xg mY hkc htr iO Cs Ct ET hown Rw OG eY;generalize (ks.map (bD A)).length=kl at *;go_wp2_with fail;refine Eg.out.mono ?_;rintro e w4 ⟨dQ,_,rfl,P4,N4,rfl,fD,fE⟩;obtain ⟨pp,pc,rfl,_,_⟩:=aA.open fD;obtain ⟨np,nc,rfl,_,_⟩:=aA.open fE
          have fD:ay _ w4 (.slice pp (flat r).ps.length pc) (flat r).ps:=fD;have fE:av _ w4 (.slice np (flat r).ns.length nc) (flat r).ns:=fE;have bq:=Up.alloc w4 (.cells #[.slice pp (flat r).ps.length pc,.slice np (flat r).ns.length nc] 39);have b0:=fO w4 (.slice pp (flat r).ps.length pc) (.slice np (flat r).ns.length nc) 39;have b1:=fP w4 (.slice pp (flat r).ps.length pc) (.slice np (flat r).ns.length nc) 39;have jK:=aa b0;have gT:=aa b1;have y5:=(bH (dQ.trans bq) w.heap.size (by have:=OI.out;omega)).trans Xh.out;have Hy:=aa y5
          have Hz:=aa (mX.out.trans (dQ.trans bq));have tB:Hid (aC (fun b=>wo.heap.size<=b) (w4.alloc (.cells #[.slice pp (flat r).ps.length pc,.slice np (flat r).ns.length nc] 39)) (.agg #[.slice pp (flat r).ps.length pc,.slice np (flat r).ns.length nc]) (flat r)):=aC.keep ⟨_,_,rfl,fD,fE⟩ (bq.kept _);have ir:=aa (vq _ _ _ (flat r) tB.out (by have:=Hv.out;omega) (by have:=Hw.out;omega) Hx.out);have OJ:Hid (wo.heap.size<=(w4.alloc (.cells #[.slice pp (flat r).ps.length pc,.slice np (flat r).ns.length nc] 39)).heap.size):=(dQ.trans bq).size
          clear dQ fD fE bq Eg y5 mX Xh q0 q1 q2 q3 OH hkv;go_wp2_with fail;generalize w4.alloc (.cells #[.slice pp (flat r).ps.length pc,.slice np (flat r).ns.length nc] 39)=w5 at *;refine ir.out.mono ?_;rintro e w6 ⟨rfl,fB⟩;have fB:Up w5 w6:=fB;have b0:=fB.cell jK.out;have b1:=fB.cell gT.out;have tC:=(bH fB w.heap.size (by have:=OI.out;have:=OJ.out;omega)).trans Hy.out;have Bc:=aa tC;have Bd:=aa (Hz.out.trans fB);have EU:=aa (tB.out.keep (fB.kept _));obtain ⟨q0,q1,q2,q3⟩:=boxed tC
          (have y6:Hid (ux s=aB (flat r)):=by unfold Hid ux;rw [xR.out]);(have vL:Hid (rE s=if aB (flat r)≠0 then ⟨[],[]⟩ else flat r):=by unfold Hid rE;rw [xR.out]);clear fB tC ir;by_cases he:aB (flat r)=0
          ·have Bf:Hid (rE s=flat r):=by unfold Hid;rw [vL.out,if_neg (by simp [he])]
           (have Rx:Hid (ux s=0):=by unfold Hid;rw [y6.out,he]);rw [he];have HST:=aa (eW (w:=w) (p:=.slice pp (flat r).ps.length pc) (q:=.slice np (flat r).ns.length nc) Bc.out (ah _) Bd.out);clear he;go_wp2_with fail;obtain ⟨s1,s2,s3,s4⟩:=HST.out;obtain ⟨P7,N7,e7,BV,OL⟩:=EU.out;(have e8:P7=.slice pp (flat r).ps.length pc/\N7=.slice np (flat r).ns.length nc:=by injection e7 with e7;have:=congrArg Array.toList e7;simp at this;exact ⟨this.1.symm,this.2.symm⟩);obtain ⟨rfl,rfl⟩:=e8;have hsw:=OI.out
           refine ⟨rfl,.tuple #[.agg #[.slice pp (flat r).ps.length pc,.slice np (flat r).ns.length nc],.int .i64 0],by simp [results,Tryz.results121,go_sem,s2,s3],?_⟩;refine ⟨s1,_,by rw [Rx.out],?_⟩;rw [Bf.out];exact ⟨_,_,rfl,(ay.keep BV fun b hb _=>s4 b (by omega)).sub fun b _ _=>trivial,(av.keep OL fun b hb _=>s4 b (by omega)).sub fun b _ _=>trivial⟩
          ·have B5:(aB (flat r) != 0)=true:=by simpa using he
           (have Bf:Hid (rE s=⟨[],[]⟩):=by unfold Hid;rw [vL.out,if_pos he]);have HST:=aa (eW (w:=w) (p:=.slice none 0 0) (q:=.slice none 0 0) Bc.out (ah _) Bd.out);clear he;generalize aB (flat r)=te at *;go_wp2_with fail;obtain ⟨s1,s2,s3,s4⟩:=HST.out;refine ⟨rfl,.tuple #[.agg #[.slice none 0 0,.slice none 0 0],.int .i64 te],by simp [results,Tryz.results121,go_sem,s2,s3],?_⟩;refine ⟨s1,_,by rw [y6.out],?_⟩;rw [Bf.out];exact Bb _
         ·have d3:((k:Int) != (s.size:Int) - 1)=true:=by simp;omega
          have HST:=aa (kz (ct.out wo HM.out.up).2 (ct.out wo HM.out.up).1 (uy.out none (by
           have hne:s.data.toList.drop (k+1)≠[]:=fun e=>by have:=List.drop_eq_nil_iff.1 e;rw [sj] at this;have h2:s.data.size=s.size:=rfl;omega
           rw [pz,if_neg (by decide),if_neg (by decide),if_neg (by decide),if_pos rfl,if_pos (.inr (.inr hne))])))
          clear hm0 hk1;go_wp2_with fail;obtain ⟨s2,s3,hp⟩:=HST.out;exact ⟨rfl,.tuple #[.agg #[.slice none 0 0,.slice none 0 0],.int .i64 3],by simp [results,Tryz.results121,go_sem,s2,s3],hp⟩
        ·have d2:(((m:Int)+1) != 1)=true:=by simp;omega
         have HST:=aa (kz (ct.out wo HM.out.up).2 (ct.out wo HM.out.up).1 (uy.out none (by have h:=Di.out;rw [pz,if_neg (by decide),if_neg (by decide),if_neg (by decide),if_pos rfl,if_pos (.inr (.inl (by rw [h];omega)))])));clear hm0;go_wp2_with fail;obtain ⟨s2,s3,hp⟩:=HST.out;exact ⟨rfl,.tuple #[.agg #[.slice none 0 0,.slice none 0 0],.int .i64 3],by simp [results,Tryz.results121,go_sem,s2,s3],hp⟩
      ·have e4:=Cr (z:=59) Hu rfl
       cases b with
       | true =>
        have HST:=aa (kz (ct.out wo HM.out.up).2 (ct.out wo HM.out.up).1 (uy.out none (by rw [pz,if_neg Hr,if_neg Hs,if_neg Ht,if_neg Hu,if_pos rfl])));go_wp2_with fail;obtain ⟨s2,s3,hp⟩:=HST.out;exact ⟨rfl,.tuple #[.agg #[.slice none 0 0,.slice none 0 0],.int .i64 3],by simp [results,Tryz.results121,go_sem,s2,s3],hp⟩
       | false =>
        have qH:Hid (ch∉bT):=Dh Hr Hs Ht Hu
        have Xi:Hid (∀x,(if Lib.indexAny (s.data.toList.drop k) bT<0 then none else pz f' ((s.data.toList.drop k).drop (Lib.indexAny (s.data.toList.drop k) bT).toNat) ((Z++[.node ⟨((s.data.toList.drop k).take (Lib.indexAny (s.data.toList.drop k) bT).toNat).toArray⟩ []])::st) true)=x->jM s.data.toList=x):=fun x hx=>uy.out x (by
         rw [pz,if_neg Hr,if_neg Hs,if_neg Ht,if_neg Hu,if_neg (by simp),<- Ta.out];exact hx)
        have EF:=aa (Xa.out k wo bG.out);clear Hr Hs Ht Hu;(have i3:(k:Int)<=(s.size:Int):=by omega);go_wp2_with fail;refine EF.out.mono ?_;rintro e w3 ⟨rfl,dg⟩;have Tc:=aa (HM.out.W8 dg);obtain ⟨q0,q1,q2,q3⟩:=boxed (ct.out w3 Tc.out.up).1;clear dg EF;by_cases Hq:Lib.indexAny (s.data.toList.drop k) bT<0
        ·have d5:decide (Lib.indexAny (s.data.toList.drop k) bT<0)=true:=decide_eq_true Hq
         have HST:=aa (kz (ct.out w3 Tc.out.up).2 (ct.out w3 Tc.out.up).1 (Xi.out none (by rw [if_pos Hq])));clear Hq;generalize Lib.indexAny (s.data.toList.drop k) bT=ia at *;go_wp2_with fail;obtain ⟨s2,s3,hp⟩:=HST.out;exact ⟨rfl,.tuple #[.agg #[.slice none 0 0,.slice none 0 0],.int .i64 3],by simp [results,Tryz.results121,go_sem,s2,s3],hp⟩
        ·obtain ⟨x,hx⟩:∃x:Nat,Lib.indexAny (s.data.toList.drop k) bT=(x:Int):=⟨(Lib.indexAny (s.data.toList.drop k) bT).toNat,by omega⟩
         (have hx1:1<=x:=by have h1:=G9 (s:=s.data.toList.drop (k+1)) qH.out;rw [<- Ta.out,hx] at h1;omega);(have hx2:k+x<s.size:=by have h1:=S5 _ x hx;rw [gw,sj] at h1;have h2:s.data.size=s.size:=rfl;omega);(have aaI:Hid (pz f' (s.data.toList.drop (k+x)) ((Z++[.node (s.extract k (k+x)) []])::st) true=jM s.data.toList):=by have h1:=Xi.out _ rfl;rw [hx,if_neg (by omega),jd,List.drop_drop,L8 s k x] at h1;exact h1.symm);rw [hx];have d5:decide ((x:Int)<0)=false:=decide_eq_false (by omega);have vS:=aa hx2;have lM:=aa hx1
         (have j1:(0:Int)<=(x:Int):=by omega);(have j2:(k:Int)<=(k:Int)+(x:Int):=by omega);(have j3:(k:Int)+(x:Int)<=(s.size:Int):=by omega);(have j4:IntKind.i64.wrap ((k:Int)+(x:Int))=(k:Int)+(x:Int):=by rw [IntKind.wrap_i64];omega);(have j5:((k:Int)+(x:Int)).toNat=k+x:=by omega);(have j6:(0:Int)<=(k:Int)+(x:Int):=by omega);have xS:=aa Tc.out.drew;have hkc:=xS.out.fr.qV xS.out.zf.on;have hkf:=xS.out.fr.thaw xS.out.zf.on 1;clear Hq hx hx1 Xi;go_wp2_with fail;refine eC (by kernel_rfl) 18 (fun w'=>w'.cell? ⟨A o,1,none⟩=some (kv o)) hkc (fun hS=>?_)
         simp only [fo,aO,dz,Nat.reduceAdd,ic,ig,fk,cw,bz];refine af.tk 0 hS ?_;(try simp only [Act.put,aj,aq,au]);refine af.tk 1 hS ?_;(try simp only [Act.put,aj,aq,au]);refine af.tk 2 hS ?_;(try simp only [Act.put,aj,aq,au]);refine af.tk 3 hS ?_
         (try simp only [Act.put,aj,aq,au]);refine af.tk 4 hS ?_;(try simp only [Act.put,aj,aq,au]);refine af.tk 5 hS ?_;(try simp only [Act.put,aj,aq,au]);refine af.tk 6 hS ?_;(try simp only [Act.put,aj,aq,au]);refine af.tk 7 hS ?_;(try simp only [Act.put,aj,aq,au]);refine af.tk 8 hS ?_
         (try simp only [Act.put,aj,aq,au]);refine af.tk 9 hS ?_;(try simp only [Act.put,aj,aq,au]);refine af.tk 10 hS ?_;(try simp only [Act.put,aj,aq,au]);refine af.tk 11 hS ?_;(try simp only [Act.put,aj,aq,au]);refine af.step (i:=12) rfl (by kernel_rfl) (fun K' hK=>?_);go_simp;refine hK.out _ _ (fun _=>(Up.alloc _ _).cell hkc) (fun hS=>?_)
         (try simp only [aj,aq,au]);have HOW:Hid (ax (w.heap.size+1) 119 ((w3.drew.alloc (.cells #[.string (s.extract k (k+x)),.slice none 0 0,.int .i64 0] 122)).alloc (.cells #[.pointer (some ⟨w3.drew.heap.size,0,none⟩)] 119)) (kv o) ((F.kids o).map (bD A))):=((xS.out.fr.own o xS.out.zf.on).alloc _).alloc _;have vK:(w3.drew.alloc (.cells #[.string (s.extract k (k+x)),.slice none 0 0,.int .i64 0] 122)).heap.size=w3.drew.heap.size+1:=aL _ _;have jN:=aa vK
         (have nO:Hid (((w3.drew.alloc (.cells #[.string (s.extract k (k+x)),.slice none 0 0,.int .i64 0] 122)).alloc (.cells #[.pointer (some ⟨w3.drew.heap.size,0,none⟩)] 119)).cell? ⟨w3.drew.heap.size+1,0,none⟩=some (.pointer (some ⟨w3.drew.heap.size,0,none⟩))):=by have h:=aH (w3.drew.alloc (.cells #[.string (s.extract k (k+x)),.slice none 0 0,.int .i64 0] 122)) #[.pointer (some ⟨w3.drew.heap.size,0,none⟩)] 119 0;rw [vK] at h;exact h);have kV:Hid (w.heap.size+1<=w3.drew.heap.size):=aR (gQ dm.out.symm) xS.out.up.size
         (have pg:Hid (w.heap.size+1<=((w3.drew.alloc (.cells #[.string (s.extract k (k+x)),.slice none 0 0,.int .i64 0] 122)).alloc (.cells #[.pointer (some ⟨w3.drew.heap.size,0,none⟩)] 119)).heap.size):=by have:=kV.out;rw [Hid,aL,aL];omega);have OD:=aa xS.out.W5;(have aaJ:Hid (((F.kids o).map (bD A)).length<=1000000):=by have:=OD.out;unfold Hid;rw [this.1];exact this.2);clear vK;refine af.step (i:=13) rfl (by kernel_rfl) (fun K' hK=>?_);go_simp;refine hK.out _ _ (fun _=>((Up.alloc _ _).trans (Up.alloc _ _)).cell hkc) (fun hS=>?_)
         (try simp only [aj,aq,au]);(try rw [jN.out]);refine af.step (i:=14) rfl (by kernel_rfl) (fun K' hK=>?_);refine gN (by rfl) _ _ _ (by rfl) (w.heap.size+1) 119 _ 8 Tryz.underlying120 Tryz.sQ (by rfl) (by decide) (by rfl) HOW.out (.pointer (some ⟨w3.drew.heap.size,0,none⟩)) (w3.drew.heap.size+1) (by rfl) nO.out (by rfl) aaJ.out pg.out ?_;intro g8 jl w8 dJ eN iV _;have Dk:=nH eN
         have Dj:(w3.drew.alloc (.cells #[.string (s.extract k (k+x)),.slice none 0 0,.int .i64 0] 122)).grownBy w8 (kv o).ownBlock:=⟨Dk.os,Dk.tape,Dk.output,Dk.size,Dk.block⟩;obtain ⟨Xc,hf8⟩:=xS.out.store Dj;obtain ⟨A8,kv8,Aw,OE⟩:=xS.out.node (s.extract k (k+x)) kV.out dJ Dj (iV.imp id fun e=>by rw [e];show _<=(World.alloc (World.alloc w3 _) _).heap.size;rw [aL,aL];exact kI (w3.heap.size+1))
         have Xj:=aa (xS.out.leaf (by have:=xS.out.nk;omega) (k':=k+x) (f':=f') (by have:=lM.out;omega) OE aaI.out (by have:=Gm.out;have:=lM.out;omega));clear dJ eN iV Dk Dj OE Aw;refine hK.out _ _ (fun _=>Xc) (fun hS=>?_);(try simp only [Act.put,aj,aq,au]);replace hS:=hS ⟨17,by decide,rfl⟩;refine af.tk 15 hS ?_;(try simp only [Act.put,aj,aq,au]);refine af.tk 16 hS ?_;try simp only [Act.put,aj,aq,au]
         refine af.step (i:=17) rfl (by kernel_rfl) (fun K' hK=>?_);go_simp;refine hK.out _ _ (aS (by kernel_rfl)) (fun hS=>?_);refine af.done (by kernel_rfl) ?_;(have j7:(x:Int) - 1<(s.size:Int):=by omega);go_wp2_with fail
         go_roundw
         case rel=>exact ⟨k+x,true,by have:=vS.out;omega,by have:=lM.out;have:=vS.out;go_num,rfl,by have h:=Xj.out;rw [OD.out.1] at h;exact h⟩
         case measure=>have:=lM.out;have:=vS.out;simp [intOf];omega
  ·obtain rfl:k=s.size:=by omega
   obtain ⟨n,A,kv,F,o,os,Z,st,f,hM⟩:=hO.out;have hf:=hM.fuel;have hrun:=hM.run;have hd0:s.data.toList.drop s.size=[]:=List.drop_eq_nil_of_le (by rw [sj];exact ah _);obtain ⟨f',rfl⟩:∃f',f=f'+1:=⟨f - 1,by omega⟩;rw [hd0,pz] at hrun;obtain ⟨q0,q1,q2,q3⟩:=boxed (ct.out wo hM.up).1;have HST:=aa (kz (ct.out wo hM.up).2 (ct.out wo hM.up).1 hrun.symm);clear hM hO hf hrun hd0 hlt hk;go_wp2_with fail;obtain ⟨s2,s3,hp⟩:=HST.out;exact ⟨rfl,.tuple #[.agg #[.slice none 0 0,.slice none 0 0],.int .i64 3],by simp [results,Tryz.results121,go_sem,s2,s3],hp⟩
end Go.Proofs.YthgabkgmkolobaaGreat
