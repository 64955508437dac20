/- The contract of phylotree.Parse. strings.IndexRune: a rune above ASCII is not among the .. -/
import Derived.Laws.RangeAny
import Derived.WalkMore
import Derived.Shelf.Small.Utf8
import Derived.Test.YthgabkgmkolobaaGreatQ19
set_option maxRecDepth 100000
set_option maxHeartbeats 8000000
namespace Go.Proofs.YthgabkgmkolobaaGreat
section
open Go.RowKit Go.Deep
def I6 (w:World) (s:ByteArray) (e:Ending) (w':World):Prop :=
 Up w w'/\∃v,e=.returned (.tuple #[v,.int .i64 (Df s)])/\aI Any w' v (zU s)
def IaOk (s:ByteArray):Prop:=∀(i:Nat) (W:World),i<s.size->Calls Tryz.prog 166 #[.string (s.extract i s.size),.string ⟨#[40,41,44,59]⟩] W fun e W'=>e=.returned (.int .i64 (Lib.indexAny (s.data.toList.drop i) dS))/\Up W W'
theorem qN {w W : World} {s : ByteArray} (hu : Up w W) (hb : W.heap[w.heap.size]? = some (Obj.cells #[.slice none 0 0, .slice none 0 0] 39 (0, 0))) (h : qw s.data.toList = none) :
    ((W.setCell ⟨w.heap.size, 0, none⟩ (.slice none 0 0)).setCell ⟨w.heap.size, 1, none⟩ (.slice none 0 0)).cell? ⟨w.heap.size, 0, none⟩ = some (.slice none 0 0) /\ ((W.setCell ⟨w.heap.size, 0, none⟩ (.slice none 0 0)).setCell ⟨w.heap.size, 1, none⟩ (.slice none 0 0)).cell? ⟨w.heap.size, 1, none⟩ = some (.slice none 0 0) /\
      I6 w s (.returned (.tuple #[.agg #[.slice none 0 0, .slice none 0 0], .int .i64 3])) ((W.setCell ⟨w.heap.size, 0, none⟩ (.slice none 0 0)).setCell ⟨w.heap.size, 1, none⟩ (.slice none 0 0)) := by
  obtain ⟨s1, s2, s3, s4⟩ := gq (p := .slice none 0 0) (q := .slice none 0 0) hb (af _) hu
  refine ⟨s2, s3, s1, .agg #[.slice none 0 0, .slice none 0 0], by unfold Df; rw [h], ?_⟩
  unfold zU; rw [h]; exact x6 _
theorem NV {c d:UInt8} {z:Int} (h:c≠d) (hz:z=d.toNat):((c.toNat:Int)==z)=false:=by
 subst hz;rw [beq_eq_false_iff_ne];intro e;exact h (UInt8.toNat_inj.1 (by omega))
theorem J7 {c d:UInt8} {z:Int} (h:c=d) (hz:z=d.toNat):((c.toNat:Int)==z)=true:=by
 subst hz;subst h;exact beq_self_eq_true _
theorem parse_t (w:World) (s:ByteArray) (hs:s.size<=1000) (UL:IaOk s) :
  Calls Tryz.prog 121 #[.string s] w (I6 w s):=by
 have hrb:=gp (w:=w) (P:=.slice none 0 0) (N:=.slice none 0 0) (T:=39);have hu:=Up.alloc w (.cells #[.slice none 0 0,.slice none 0 0] 39);have hsz:(w.alloc (.cells #[.slice none 0 0,.slice none 0 0] 39)).heap.size=w.heap.size+1:=aQ _ _;have HU:=aa hu;have fA:=aa hsz;have lJ:=aa hrb;have HIA:=aa UL;have d1:decide ((65536:Int)<(s.size:Int))=false:=decide_eq_false (by omega);have d1n:¬65536<s.size:=by omega
 clear hrb hu hsz UL
 go_enter Tryz.func121,Tryz.ntmps121
 go_wp2_with fail;have HST:=aa (pa_start (w.alloc (.cells #[.slice none 0 0,.slice none 0 0] 39)) s);rw [fA.out] at HST;generalize w.alloc (.cells #[.slice none 0 0,.slice none 0 0] 39)=w1 at *;have fu:Hid (∀wr,Below (w.heap.size+1) w1 wr->wr.heap[w.heap.size]? = some (Obj.cells #[.slice none 0 0,.slice none 0 0] 39 (0,0))/\Up w wr):=fun wr h=>⟨(h.block _ (pI _)).trans lJ.out,HU.out.trans (h.mono (by rw [fA.out];exact af _))⟩
 go_loopw [5,6,7,8,9,10,11,12,66,86,101,111] (fun ov dn i _ _ _ _ _ _ _ _ _ wr=>∃(k:Nat) (b:Bool),k<=s.size/\i=.int .i64 k/\dn=.bool b/\Hid (NU (w.heap.size+1) s (qw s.data.toList) w1 (w.heap.size+1) k b ov wr)) (fun _ _ i _ _ _ _ _ _ _ _ _ _=>s.size - (intOf i).toNat)
 case atStart=>exact ⟨0,false,aL _,rfl,rfl,HST.out⟩
 case round =>
  obtain ⟨k,b,hk,rfl,rfl,hO⟩:=hrel;obtain ⟨wo,rfl⟩:∃wo:World,wo=wr:=⟨_,rfl⟩;by_cases hlt:k<s.size
  ·obtain ⟨n,A,kv,F,o,os,Z,st,f,hM⟩:=hO.out
   obtain ⟨g,cap,xx,hcapn,hrow⟩:=hM.row
   
   obtain ⟨f',ch,nE,hf2,hdr,hch⟩:=hM.step hlt;have HF:=aa nE;have TT:=aa hf2;have hdr2:=hdr;(have i1:(0:Int)<=(k:Int):=by omega);(have i2:(k:Int)<(s.size:Int):=by omega);have Y5:=hM.ol;have bu:=aa hlt;obtain ⟨m,hm⟩:∃m,m=os.length:=⟨_,rfl⟩;have HMM:=aa hm;rw [<- hm] at xx hcapn hrow Y5;subst xx;(have w1a:wrap64 (m:Int)=(m:Int):=by unfold wrap64;omega);(have w1b:(0:Int)<=(m:Int):=by omega);(have w1c:(m:Int)<(m:Int)+1:=by omega);(have w1d:m<m+1:=by omega);(have w1e:m+1<=1000000:=by omega);have HM:=aa hM;clear hm Y5;clear hO hM nE hf2 hdr
   have hfr:=HM.out.fr.thaw HM.out.zf.on 1;obtain ⟨q0,q1,q2,q3⟩:=boxed (fu.out wo HM.out.up).1;(have xN:Hid (∀x,pz (f'+1) (ch::s.data.toList.drop (k+1)) (Z::st) b=x->qw s.data.toList=x):=fun x hx=>by have hr:=HM.out.run;rw [HF.out,hdr2] at hr;rw [<- hr];exact hx);have HDR:=aa hdr2;(have Pn:Hid ((Z::st).length=m+1):=by have h:=HM.out.zf.len;rw [Hid,HMM.out];simp at h ⊢;omega);clear hdr2;by_cases UM:ch=40
   ·have e1:=J7 (z:=40) UM rfl
    subst UM;cases b with
    | true =>
     have HST:=aa (qN (fu.out wo HM.out.up).2 (fu.out wo HM.out.up).1 (xN.out none (by simp [pz])));go_wp2_with fail;obtain ⟨s2,s3,hp⟩:=HST.out;exact ⟨rfl,.tuple #[.agg #[.slice none 0 0,.slice none 0 0],.int .i64 3],by simp [results,Tryz.results121,go_sem,s2,s3],hp⟩
    | false =>
     have hkc:=(Up.alloc wo (.cells #[.string ⟨#[]⟩,.slice none 0 0,.int .i64 0] 122)).cell (HM.out.fr.zB HM.out.zf.on);have hs1:(wo.alloc (.cells #[.string ⟨#[]⟩,.slice none 0 0,.int .i64 0] 122)).heap.size=wo.heap.size+1:=aQ _ _;have lN:=aa hs1;have HOW:Hid (ax (w.heap.size+1) 119 (wo.alloc (.cells #[.string ⟨#[]⟩,.slice none 0 0,.int .i64 0] 122)) (kv o) ((F.kids o).map (cV A))):=(HM.out.fr.own o HM.out.zf.on).alloc _;have vW:Hid (w.heap.size+1<=wo.heap.size):=aJ (fB fA.out.symm) HM.out.up.size
     (have HBS1:Hid (w.heap.size+1<=(wo.alloc (.cells #[.string ⟨#[]⟩,.slice none 0 0,.int .i64 0] 122)).heap.size):=by rw [Hid,lN.out];exact Nat.le_succ_of_le vW.out);have HFL:=aa HM.out.klen
     have r4:Hid (∀g2 m2 fS w',ax (w.heap.size+1) 119 w' (.slice (some ⟨g2,0,none⟩) m2 fS) ((F.kids o).map (cV A)++[.pointer (some ⟨wo.heap.size,0,none⟩)])->(wo.alloc (.cells #[.string ⟨#[]⟩,.slice none 0 0,.int .i64 0] 122)).grownBy w' (kv o).ownBlock->((kv o).ownBlock=some g2\/(wo.alloc (.cells #[.string ⟨#[]⟩,.slice none 0 0,.int .i64 0] 122)).heap.size<=g2) ->
       (w'.cell? ⟨A o,1,none⟩=some (kv o)/\w'.frozen? ⟨A o,1,none⟩=false)/\∃A' kv',A' n=wo.heap.size/\PaN (w.heap.size+1) w1 (w.heap.size+1) (.slice (some ⟨g,0,none⟩) (m+1) cap) n A' kv' (qm F n o ByteArray.empty) (o::os) (w'.setCell ⟨A o,1,none⟩ (.slice (some ⟨g2,0,none⟩) m2 fS))):=fun g2 m2 fS w' h1 h2 h3 =>
      ⟨HM.out.store h2,HM.out.node ByteArray.empty vW.out h1 h2 (by rw [lN.out] at h3;exact h3)⟩
     (have uk:Hid (n<2000):=by have:=HM.out.nk;unfold Hid;omega);clear hs1;generalize kv o=kvo at *;have Ep:Hid (qw s.data.toList=pz f' (s.data.toList.drop (k+1)) ([]::Z::st) false):=xN.out _ (by simp [pz])
     go_wp2_with (first | (at_builtin;refine I2 (wo.alloc (.cells #[.string ⟨#[]⟩,.slice none 0 0,.int .i64 0] 122)) rfl _ _ 120 rfl (w.heap.size+1) 119 (.pointer none) 8 Tryz.underlying120 Tryz.BJ rfl (by decide) HOW.out rfl (.pointer (some ⟨wo.heap.size,0,none⟩)) (wo.heap.size+1) lN.out rfl rfl _ HFL.out.1 HFL.out.2 HBS1.out ?_;intro g8 oz w8 fH ic jJ;obtain ⟨⟨hc8,hf8⟩,A8,kv8,KV,EP⟩:=r4.out _ _ _ w8 fH ic jJ;have HN8:=aa EP;have NW:=aa KV;have HBS8:Hid (w.heap.size+1<=(w8.setCell ⟨A o,1,none⟩ (.slice (some ⟨g8,0,none⟩) ((F.kids o).length+1) oz)).heap.size):=(by rw [Hid,mW];exact aJ HBS1.out ic.size);clear fH ic jJ KV EP) | (at_builtin;refine I2 (w8.setCell ⟨A o,1,none⟩ (.slice (some ⟨g8,0,none⟩) ((F.kids o).length+1) oz)) rfl _ _ 120 rfl (w.heap.size+1) 119 (.pointer none) 8 Tryz.underlying120 Tryz.BJ rfl (by decide) HN8.out.own rfl (.pointer (some ⟨wo.heap.size,0,none⟩)) w8.heap.size (mW _ _ _) rfl rfl (m+1) (by rw [HMM.out];simp) (by omega) HBS8.out ?_;intro g9 cap9 w9 AB DY UN;have HP9:Hid (NU (w.heap.size+1) s (qw s.data.toList) w1 (w.heap.size+1) (k+1) false (.slice (some ⟨g9,0,none⟩) (m+1+1) cap9) w9):=HM.out.opened uk.out HN8.out HBS8.out (by unfold cV at AB ⊢;rw [NW.out];exact AB) DY UN Ep.out.symm TT.out;clear AB DY UN))
     go_roundw
     case rel=>exact ⟨k+1,false,bu.out,by go_num,rfl,HP9.out⟩
     case measure=>have:=bu.out;simp [intOf];omega
   ·have e1:=NV (z:=40) UM rfl
    by_cases UO:ch=41
    ·have e2:=J7 (z:=41) UO rfl
     subst UO;cases b with
     | false =>
      have HST:=aa (qN (fu.out wo HM.out.up).2 (fu.out wo HM.out.up).1 (xN.out none (by simp [pz])));go_wp2_with fail;obtain ⟨s2,s3,hp⟩:=HST.out;exact ⟨rfl,.tuple #[.agg #[.slice none 0 0,.slice none 0 0],.int .i64 3],by simp [results,Tryz.results121,go_sem,s2,s3],hp⟩
     | true =>
      by_cases hm0:m=0
      ·have d2:(((m:Int)+1)==1)=true:=by rw [hm0];rfl
       have HST:=aa (qN (fu.out wo HM.out.up).2 (fu.out wo HM.out.up).1 (xN.out none (by have h:=Pn.out;rw [hm0] at h;rw [pz,if_neg (by decide),if_pos rfl,if_pos (.inr h)])));clear hm0;go_wp2_with fail;obtain ⟨s2,s3,hp⟩:=HST.out;exact ⟨rfl,.tuple #[.agg #[.slice none 0 0,.slice none 0 0],.int .i64 3],by simp [results,Tryz.results121,go_sem,s2,s3],hp⟩
      ·have d2:(((m:Int)+1)==1)=false:=beq_eq_false_iff_ne.2 (by omega)
       obtain ⟨q,os2,rfl⟩:∃q os2,os=q::os2:=by
        cases os with
        | nil=>exact absurd (by have:=HMM.out;simpa using this) hm0
        | cons q os2=>exact ⟨q,os2,rfl⟩
       obtain ⟨Y,st2,rfl⟩:∃Y st2,st=Y::st2:=by
        cases st with
        | nil=>exact absurd (by have:=Pn.out;simp at this;omega) hm0
        | cons Y st2=>exact ⟨Y,st2,rfl⟩
       have Ep:Hid (qw s.data.toList=pz f' (s.data.toList.drop (k+1)) ((Y++[.node ByteArray.empty Z])::st2) true):=xN.out _ (by simp [pz,popZ]);(have G3:Hid (m=os2.length+1):=by have:=HMM.out;simp at this;exact this);(have HN:Hid (NU (w.heap.size+1) s (qw s.data.toList) w1 (w.heap.size+1) (k+1) true (.slice (some ⟨g,0,none⟩) m cap) wo):=by rw [G3.out];exact HM.out.popped (by rw [G3.out]) Ep.out.symm TT.out);(have w1f:(m:Int)<=(cap:Int):=by omega);clear hm0;go_wp2_with fail
       go_roundw
       case rel=>exact ⟨k+1,true,bu.out,by go_num,rfl,HN.out⟩
       case measure=>have:=bu.out;simp [intOf];omega
    ·have e2:=NV (z:=41) UO rfl
     by_cases UQ:ch=44
     ·have e3:=J7 (z:=44) UQ rfl
      subst UQ;cases b with
      | false =>
       have HST:=aa (qN (fu.out wo HM.out.up).2 (fu.out wo HM.out.up).1 (xN.out none (by simp [pz])));go_wp2_with fail;obtain ⟨s2,s3,hp⟩:=HST.out;exact ⟨rfl,.tuple #[.agg #[.slice none 0 0,.slice none 0 0],.int .i64 3],by simp [results,Tryz.results121,go_sem,s2,s3],hp⟩
      | true =>
       by_cases hm0:m=0
       ·have d2:(((m:Int)+1)==1)=true:=by rw [hm0];rfl
        have HST:=aa (qN (fu.out wo HM.out.up).2 (fu.out wo HM.out.up).1 (xN.out none (by have h:=Pn.out;rw [hm0] at h;rw [pz,if_neg (by decide),if_neg (by decide),if_pos rfl,if_pos (.inr h)])));clear hm0;go_wp2_with fail;obtain ⟨s2,s3,hp⟩:=HST.out;exact ⟨rfl,.tuple #[.agg #[.slice none 0 0,.slice none 0 0],.int .i64 3],by simp [results,Tryz.results121,go_sem,s2,s3],hp⟩
       ·have d2:(((m:Int)+1)==1)=false:=beq_eq_false_iff_ne.2 (by omega)
        have Ep:Hid (qw s.data.toList=pz f' (s.data.toList.drop (k+1)) (Z::st) false):=xN.out _ (by have h:=Pn.out;rw [pz,if_neg (by decide),if_neg (by decide),if_pos rfl,if_neg (by rw [h];simp;omega)]);have HN:Hid (NU (w.heap.size+1) s (qw s.data.toList) w1 (w.heap.size+1) (k+1) false (.slice (some ⟨g,0,none⟩) (m+1) cap) wo):=HM.out.comma Ep.out.symm TT.out;clear hm0;go_wp2_with fail
        go_roundw
        case rel=>exact ⟨k+1,false,bu.out,by go_num,rfl,HN.out⟩
        case measure=>have:=bu.out;simp [intOf];omega
     ·have e3:=NV (z:=44) UQ rfl
      by_cases UR:ch=59
      ·have e4:=J7 (z:=59) UR rfl
       subst UR;cases b with
       | false =>
        have HST:=aa (qN (fu.out wo HM.out.up).2 (fu.out wo HM.out.up).1 (xN.out none (by simp [pz])));go_wp2_with fail;obtain ⟨s2,s3,hp⟩:=HST.out;exact ⟨rfl,.tuple #[.agg #[.slice none 0 0,.slice none 0 0],.int .i64 3],by simp [results,Tryz.results121,go_sem,s2,s3],hp⟩
       | true =>
        by_cases hm0:m=0
        ·have d2:(((m:Int)+1) != 1)=false:=by rw [hm0];rfl
         by_cases hk1:k+1=s.size
         ·have d3:((k:Int) != (s.size:Int) - 1)=false:=by simp;omega
          have hos:os=[]:=oJ (by have:=HMM.out;omega);subst hos;have hst0:st=[]:=oJ (by have:=Pn.out;simp at this;omega);subst hst0;obtain ⟨r,Y,rfl⟩:∃r Y,Z=r::Y:=by
           have:=HM.out.dnz rfl;cases Z with
           | nil=>exact absurd rfl this
           | cons r Y=>exact ⟨r,Y,rfl⟩
          (have Kv:o=0:=by have:=HM.out.last;simpa using this);subst Kv;have hdr0:s.data.toList.drop (k+1)=[]:=List.drop_eq_nil_of_le (by rw [Bh];have:s.data.size=s.size:=rfl;omega);have za:qw s.data.toList=some r:=xN.out (some r) (by rw [hdr0];simp [pz,firstZ]);obtain ⟨c,ks,hkc,jt,htr⟩:=HM.out.zf.done;(have jf:s.data.toList.length=s.size:=by rw [Bh];rfl);obtain ⟨NX,NY,Rk⟩:=IX za;rw [jf] at NX NY;have UT:=aa NX;have UU:=aa NY;have UW:Hid (∀k,(gs (flat r).ns k).size<=70000):=fun j=>by have:=Rk j;rw [jf] at this;omega
          have zV:=aa za;have ER:=HM.out.a0;have hkv:=HM.out.fr.zB HM.out.zf.on;have hown:=HM.out.fr.own 0 HM.out.zf.on;rw [hkc,cK] at hown;rw [ER] at hkv;obtain ⟨kq,kcap,hkvs,hkform⟩:=hown.form (n:=(ks.map (cV A)).length+1) (by simp);obtain ⟨kg,rfl⟩:∃kg,kq=some ⟨kg,0,none⟩:=by
           rcases hkform with rfl | h2
           ·obtain ⟨_,h3 | ⟨g,_,_,h3,_⟩⟩:=hown
            ·have:=h3.2;simp at this
            ·rw [hkvs] at h3;cases h3
           ·exact h2
          rw [hkvs] at hown hkv;have hkcell:=(wu hown (j:=0) (u:=cV A c) (by simp)).1;simp only [cV] at hkcell
          have Io:=aa (tree_t HM.out.zf.wf (fun i hi=>aJ (xX (HM.out.zf.nd i hi) (fun x hx=>(HM.out.zf.kid i hi x hx).2)) (by have:=HM.out.nk;omega)) wo c jt HM.out.fr (by
           (have h1:(iW F uN c none).length=(dw F uN c).length:=by simp [dw]);have h2:=xX (Q6 HM.out.zf.wf HM.out.zf.one HM.out.zf.nd (fun i _=>Uq i) jt) (fun x hx=>vZ HM.out.zf.wf jt (af _) ((gO HM.out.zf.wf jt (af _)).1 hx));have:=HM.out.nk
           omega))
          rw [htr] at Io;have HRB1:=aa (fu.out wo HM.out.up).1;have jw:=aa (fu.out wo HM.out.up).2;have HSW:Hid (w.heap.size+1<=wo.heap.size):=aJ (fB fA.out.symm) HM.out.up.size;(have i9:(0:Int)<((ks.map (cV A)).length:Int)+1:=by omega);clear hm0 hk1 hdr0 za hkc htr jf NX NY Rk hown hkvs hkform jt;generalize (ks.map (cV A)).length=kl at *;go_wp2_with fail;refine Io.out.mono ?_;rintro e w4 ⟨di,_,rfl,P4,N4,rfl,iB,iC⟩;obtain ⟨pp,pc,rfl,_,_⟩:=ay.open iB;obtain ⟨np,nc,rfl,_,_⟩:=ay.open iC
          have iB:ah _ w4 (.slice pp (flat r).ps.length pc) (flat r).ps:=iB;have iC:au _ w4 (.slice np (flat r).ns.length nc) (flat r).ns:=iC;have cE:=Up.alloc w4 (.cells #[.slice pp (flat r).ps.length pc,.slice np (flat r).ns.length nc] 39);have b0:=iU w4 (.slice pp (flat r).ps.length pc) (.slice np (flat r).ns.length nc) 39;have b1:=iV w4 (.slice pp (flat r).ps.length pc) (.slice np (flat r).ns.length nc) 39;have mX:=aa b0;have lK:=aa b1;have zH:=(bI (di.trans cE) w.heap.size (by have:=HSW.out;omega)).trans HRB1.out;have UX:=aa zH
          have UY:=aa (jw.out.trans (di.trans cE));have uQ:Hid (aI (fun b=>wo.heap.size<=b) (w4.alloc (.cells #[.slice pp (flat r).ps.length pc,.slice np (flat r).ns.length nc] 39)) (.agg #[.slice pp (flat r).ps.length pc,.slice np (flat r).ns.length nc]) (flat r)):=aI.keep ⟨_,_,rfl,iB,iC⟩ (cE.kept _);have gy:=aa (xS _ _ _ (flat r) uQ.out (by have:=UT.out;omega) (by have:=UU.out;omega) UW.out);have xy:Hid (wo.heap.size<=(w4.alloc (.cells #[.slice pp (flat r).ps.length pc,.slice np (flat r).ns.length nc] 39)).heap.size):=(di.trans cE).size
          clear di iB iC cE Io zH jw HRB1 q0 q1 q2 q3 hkcell hkv;go_wp2_with fail;generalize w4.alloc (.cells #[.slice pp (flat r).ps.length pc,.slice np (flat r).ns.length nc] 39)=w5 at *;refine gy.out.mono ?_;rintro e w6 ⟨rfl,dL⟩;have dL:Up w5 w6:=dL;have b0:=dL.cell mX.out;have b1:=dL.cell lK.out;have tB:=(bI dL w.heap.size (by have:=HSW.out;have:=xy.out;omega)).trans UX.out;have B5:=aa tB;have LU:=aa (UY.out.trans dL);have Dg:=aa (uQ.out.keep (dL.kept _));obtain ⟨q0,q1,q2,q3⟩:=boxed tB
          (have I7:Hid (Df s=aH (flat r)):=by unfold Hid Df;rw [zV.out]);(have EG:Hid (zU s=if aH (flat r)≠0 then ⟨[],[]⟩ else flat r):=by unfold Hid zU;rw [zV.out]);clear dL tB gy;by_cases he:aH (flat r)=0
          ·have LV:Hid (zU s=flat r):=by unfold Hid;rw [EG.out,if_neg (by simp [he])]
           (have HPE0:Hid (Df s=0):=by unfold Hid;rw [I7.out,he]);rw [he];have HST:=aa (gq (w:=w) (p:=.slice pp (flat r).ps.length pc) (q:=.slice np (flat r).ns.length nc) B5.out (af _) LU.out);clear he;go_wp2_with fail;obtain ⟨s1,s2,s3,s4⟩:=HST.out;obtain ⟨P7,N7,e7,Nj,hN7⟩:=Dg.out;(have e8:P7=.slice pp (flat r).ps.length pc/\N7=.slice np (flat r).ns.length nc:=by injection e7 with e7;have:=congrArg Array.toList e7;simp at this;exact ⟨this.1.symm,this.2.symm⟩);obtain ⟨rfl,rfl⟩:=e8;have hsw:=HSW.out
           refine ⟨rfl,.tuple #[.agg #[.slice pp (flat r).ps.length pc,.slice np (flat r).ns.length nc],.int .i64 0],by simp [results,Tryz.results121,go_sem,s2,s3],?_⟩;refine ⟨s1,_,by rw [HPE0.out],?_⟩;rw [LV.out];exact ⟨_,_,rfl,(ah.keep Nj fun b hb _=>s4 b (by omega)).sub fun b _ _=>trivial,(au.keep hN7 fun b hb _=>s4 b (by omega)).sub fun b _ _=>trivial⟩
          ·have Nu:(aH (flat r) != 0)=true:=by simpa using he
           (have LV:Hid (zU s=⟨[],[]⟩):=by unfold Hid;rw [EG.out,if_pos he]);have HST:=aa (gq (w:=w) (p:=.slice none 0 0) (q:=.slice none 0 0) B5.out (af _) LU.out);clear he;generalize aH (flat r)=te at *;go_wp2_with fail;obtain ⟨s1,s2,s3,s4⟩:=HST.out;refine ⟨rfl,.tuple #[.agg #[.slice none 0 0,.slice none 0 0],.int .i64 te],by simp [results,Tryz.results121,go_sem,s2,s3],?_⟩;refine ⟨s1,_,by rw [I7.out],?_⟩;rw [LV.out];exact x6 _
         ·have d3:((k:Int) != (s.size:Int) - 1)=true:=by simp;omega
          have HST:=aa (qN (fu.out wo HM.out.up).2 (fu.out wo HM.out.up).1 (xN.out none (by
           have hne:s.data.toList.drop (k+1)≠[]:=fun e=>by have:=List.drop_eq_nil_iff.1 e;rw [Bh] at this;have h2:s.data.size=s.size:=rfl;omega
           rw [pz,if_neg (by decide),if_neg (by decide),if_neg (by decide),if_pos rfl,if_pos (.inr (.inr hne))])))
          clear hm0 hk1;go_wp2_with fail;obtain ⟨s2,s3,hp⟩:=HST.out;exact ⟨rfl,.tuple #[.agg #[.slice none 0 0,.slice none 0 0],.int .i64 3],by simp [results,Tryz.results121,go_sem,s2,s3],hp⟩
        ·have d2:(((m:Int)+1) != 1)=true:=by simp;omega
         have HST:=aa (qN (fu.out wo HM.out.up).2 (fu.out wo HM.out.up).1 (xN.out none (by have h:=Pn.out;rw [pz,if_neg (by decide),if_neg (by decide),if_neg (by decide),if_pos rfl,if_pos (.inr (.inl (by rw [h];omega)))])));clear hm0;go_wp2_with fail;obtain ⟨s2,s3,hp⟩:=HST.out;exact ⟨rfl,.tuple #[.agg #[.slice none 0 0,.slice none 0 0],.int .i64 3],by simp [results,Tryz.results121,go_sem,s2,s3],hp⟩
      ·have e4:=NV (z:=59) UR rfl
       cases b with
       | true =>
        have HST:=aa (qN (fu.out wo HM.out.up).2 (fu.out wo HM.out.up).1 (xN.out none (by rw [pz,if_neg UM,if_neg UO,if_neg UQ,if_neg UR,if_pos rfl])));go_wp2_with fail;obtain ⟨s2,s3,hp⟩:=HST.out;exact ⟨rfl,.tuple #[.agg #[.slice none 0 0,.slice none 0 0],.int .i64 3],by simp [results,Tryz.results121,go_sem,s2,s3],hp⟩
       | false =>
        have nH:Hid (ch∉dS):=Pj UM UO UQ UR
        have HPZ:Hid (∀x,(if Lib.indexAny (s.data.toList.drop k) dS<0 then none else pz f' ((s.data.toList.drop k).drop (Lib.indexAny (s.data.toList.drop k) dS).toNat) ((Z++[.node ⟨((s.data.toList.drop k).take (Lib.indexAny (s.data.toList.drop k) dS).toNat).toArray⟩ []])::st) true)=x->qw s.data.toList=x):=fun x hx=>xN.out x (by
         rw [pz,if_neg UM,if_neg UO,if_neg UQ,if_neg UR,if_neg (by simp),<- HDR.out];exact hx)
        have Rl:=aa (HIA.out k wo bu.out);clear UM UO UQ UR;(have i3:(k:Int)<=(s.size:Int):=by omega);go_wp2_with fail;refine Rl.out.mono ?_;rintro e w3 ⟨rfl,dQ⟩;have HM3:=aa (HM.out.keepUp dQ);obtain ⟨q0,q1,q2,q3⟩:=boxed (fu.out w3 HM3.out.up).1;clear dQ Rl;by_cases UL:Lib.indexAny (s.data.toList.drop k) dS<0
        ·have d5:decide (Lib.indexAny (s.data.toList.drop k) dS<0)=true:=decide_eq_true UL
         have HST:=aa (qN (fu.out w3 HM3.out.up).2 (fu.out w3 HM3.out.up).1 (HPZ.out none (by rw [if_pos UL])));clear UL;generalize Lib.indexAny (s.data.toList.drop k) dS=ia at *;go_wp2_with fail;obtain ⟨s2,s3,hp⟩:=HST.out;exact ⟨rfl,.tuple #[.agg #[.slice none 0 0,.slice none 0 0],.int .i64 3],by simp [results,Tryz.results121,go_sem,s2,s3],hp⟩
        ·obtain ⟨x,hx⟩:∃x:Nat,Lib.indexAny (s.data.toList.drop k) dS=(x:Int):=⟨(Lib.indexAny (s.data.toList.drop k) dS).toNat,by omega⟩
         (have hx1:1<=x:=by have h1:=Uw (s:=s.data.toList.drop (k+1)) nH.out;rw [<- HDR.out,hx] at h1;omega);(have hx2:k+x<s.size:=by have h1:=ia_lt _ x hx;rw [wO,Bh] at h1;have h2:s.data.size=s.size:=rfl;omega);(have HRUN:Hid (pz f' (s.data.toList.drop (k+x)) ((Z++[.node (s.extract k (k+x)) []])::st) true=qw s.data.toList):=by have h1:=HPZ.out _ rfl;rw [hx,if_neg (by omega),cZ,List.drop_drop,ba_extract s k x] at h1;exact h1.symm);rw [hx];have d5:decide ((x:Int)<0)=false:=decide_eq_false (by omega);have zh:=aa hx2;have oT:=aa hx1
         (have j1:(0:Int)<=(x:Int):=by omega);(have j2:(k:Int)<=(k:Int)+(x:Int):=by omega);(have j3:(k:Int)+(x:Int)<=(s.size:Int):=by omega);(have j4:IntKind.i64.wrap ((k:Int)+(x:Int))=(k:Int)+(x:Int):=by rw [IntKind.wrap_i64];omega);(have j5:((k:Int)+(x:Int)).toNat=k+x:=by omega);(have j6:(0:Int)<=(k:Int)+(x:Int):=by omega);have G4:=aa HM3.out.drew;have hkc:=G4.out.fr.zB G4.out.zf.on;have hkf:=G4.out.fr.thaw G4.out.zf.on 1;clear UL hx hx1 HPZ;go_wp2_with fail;refine gQ (by kernel_rfl) 18 (fun w'=>w'.cell? ⟨A o,1,none⟩=some (kv o)) hkc (fun hS=>?_)
         simp only [eW,aT,dO,Nat.reduceAdd,ji,jk,eV,cH,cr];refine aj.tk 0 hS ?_;(try simp only [Act.put,aA,aB,aC]);refine aj.tk 1 hS ?_;(try simp only [Act.put,aA,aB,aC]);refine aj.tk 2 hS ?_;(try simp only [Act.put,aA,aB,aC]);refine aj.tk 3 hS ?_
         (try simp only [Act.put,aA,aB,aC]);refine aj.tk 4 hS ?_;(try simp only [Act.put,aA,aB,aC]);refine aj.tk 5 hS ?_;(try simp only [Act.put,aA,aB,aC]);refine aj.tk 6 hS ?_;(try simp only [Act.put,aA,aB,aC]);refine aj.tk 7 hS ?_;(try simp only [Act.put,aA,aB,aC]);refine aj.tk 8 hS ?_
         (try simp only [Act.put,aA,aB,aC]);refine aj.tk 9 hS ?_;(try simp only [Act.put,aA,aB,aC]);refine aj.tk 10 hS ?_;(try simp only [Act.put,aA,aB,aC]);refine aj.tk 11 hS ?_;(try simp only [Act.put,aA,aB,aC]);refine aj.step (i:=12) rfl (by kernel_rfl) (fun K' hK=>?_);go_simp;refine hK.out _ _ (fun _=>(Up.alloc _ _).cell hkc) (fun hS=>?_)
         (try simp only [aA,aB,aC]);have HOW:Hid (ax (w.heap.size+1) 119 ((w3.drew.alloc (.cells #[.string (s.extract k (k+x)),.slice none 0 0,.int .i64 0] 122)).alloc (.cells #[.pointer (some ⟨w3.drew.heap.size,0,none⟩)] 119)) (kv o) ((F.kids o).map (cV A))):=((G4.out.fr.own o G4.out.zf.on).alloc _).alloc _;have EE:(w3.drew.alloc (.cells #[.string (s.extract k (k+x)),.slice none 0 0,.int .i64 0] 122)).heap.size=w3.drew.heap.size+1:=aQ _ _;have qy:=aa EE
         (have nV:Hid (((w3.drew.alloc (.cells #[.string (s.extract k (k+x)),.slice none 0 0,.int .i64 0] 122)).alloc (.cells #[.pointer (some ⟨w3.drew.heap.size,0,none⟩)] 119)).cell? ⟨w3.drew.heap.size+1,0,none⟩=some (.pointer (some ⟨w3.drew.heap.size,0,none⟩))):=by have h:=aS (w3.drew.alloc (.cells #[.string (s.extract k (k+x)),.slice none 0 0,.int .i64 0] 122)) #[.pointer (some ⟨w3.drew.heap.size,0,none⟩)] 119 0;rw [EE] at h;exact h);have kP:Hid (w.heap.size+1<=w3.drew.heap.size):=aJ (fB fA.out.symm) G4.out.up.size
         (have vW:Hid (w.heap.size+1<=((w3.drew.alloc (.cells #[.string (s.extract k (k+x)),.slice none 0 0,.int .i64 0] 122)).alloc (.cells #[.pointer (some ⟨w3.drew.heap.size,0,none⟩)] 119)).heap.size):=by have:=kP.out;rw [Hid,aQ,aQ];omega);have HFL:=aa G4.out.klen;(have HFLM:Hid (((F.kids o).map (cV A)).length<=1000000):=by have:=HFL.out;unfold Hid;rw [this.1];exact this.2);clear EE;refine aj.step (i:=13) rfl (by kernel_rfl) (fun K' hK=>?_);go_simp;refine hK.out _ _ (fun _=>((Up.alloc _ _).trans (Up.alloc _ _)).cell hkc) (fun hS=>?_)
         (try simp only [aA,aB,aC]);(try rw [qy.out]);refine aj.step (i:=14) rfl (by kernel_rfl) (fun K' hK=>?_);refine fF (by rfl) _ _ _ (by rfl) (w.heap.size+1) 119 _ 8 Tryz.underlying120 Tryz.BJ (by rfl) (by decide) (by rfl) HOW.out (.pointer (some ⟨w3.drew.heap.size,0,none⟩)) (w3.drew.heap.size+1) (by rfl) nV.out (by rfl) HFLM.out vW.out ?_;intro g8 oz w8 fH ic jJ _;have Po:=vC ic
         have DY:(w3.drew.alloc (.cells #[.string (s.extract k (k+x)),.slice none 0 0,.int .i64 0] 122)).grownBy w8 (kv o).ownBlock:=⟨Po.os,Po.tape,Po.output,Po.size,Po.block⟩;obtain ⟨hc8,hf8⟩:=G4.out.store DY;obtain ⟨A8,kv8,KV,EP⟩:=G4.out.node (s.extract k (k+x)) kP.out fH DY (jJ.imp id fun e=>by rw [e];show _<=(World.alloc (World.alloc w3 _) _).heap.size;rw [aQ,aQ];exact lz (w3.heap.size+1))
         have HP8:=aa (G4.out.leaf (by have:=G4.out.nk;omega) (k':=k+x) (f':=f') (by have:=oT.out;omega) EP HRUN.out (by have:=TT.out;have:=oT.out;omega));clear fH ic jJ Po DY EP KV;refine hK.out _ _ (fun _=>hc8) (fun hS=>?_);(try simp only [Act.put,aA,aB,aC]);replace hS:=hS ⟨17,by decide,rfl⟩;refine aj.tk 15 hS ?_;(try simp only [Act.put,aA,aB,aC]);refine aj.tk 16 hS ?_;try simp only [Act.put,aA,aB,aC]
         refine aj.step (i:=17) rfl (by kernel_rfl) (fun K' hK=>?_);go_simp;refine hK.out _ _ (aO (by kernel_rfl)) (fun hS=>?_);refine aj.done (by kernel_rfl) ?_;(have j7:(x:Int) - 1<(s.size:Int):=by omega);go_wp2_with fail
         go_roundw
         case rel=>exact ⟨k+x,true,by have:=zh.out;omega,by have:=oT.out;have:=zh.out;go_num,rfl,by have h:=HP8.out;rw [HFL.out.1] at h;exact h⟩
         case measure=>have:=oT.out;have:=zh.out;simp [intOf];omega
  ·obtain rfl:k=s.size:=by omega
   obtain ⟨n,A,kv,F,o,os,Z,st,f,hM⟩:=hO.out;have hf:=hM.fuel;have hrun:=hM.run;have hd0:s.data.toList.drop s.size=[]:=List.drop_eq_nil_of_le (by rw [Bh];exact af _);obtain ⟨f',rfl⟩:∃f',f=f'+1:=⟨f - 1,by omega⟩;rw [hd0,pz] at hrun;obtain ⟨q0,q1,q2,q3⟩:=boxed (fu.out wo hM.up).1;have HST:=aa (qN (fu.out wo hM.up).2 (fu.out wo hM.up).1 hrun.symm);clear hM hO hf hrun hd0 hlt hk;go_wp2_with fail;obtain ⟨s2,s3,hp⟩:=HST.out;exact ⟨rfl,.tuple #[.agg #[.slice none 0 0,.slice none 0 0],.int .i64 3],by simp [results,Tryz.results121,go_sem,s2,s3],hp⟩
def sQ:ByteArray:=⟨#[40,41,44,59]⟩
theorem sg_at:∀i,(h:i<4)->(sQ[i]'h).toNat<128:=by decide +kernel
theorem ib_none (j:Nat) {b:UInt8} (h:128<=b.toNat):Lib.indexByte ((sQ.extract j 4).data.toList) b = -1:=by
 have key:∀l:List UInt8,b∉l->Lib.indexByte l b = -1:=fun l=>by
  induction l with
  | nil=>intro _;rfl
  | cons a l ih =>
   intro hm;have h1:a≠b:=fun e=>hm (by rw [e];exact tL);have h2:=ih fun h=>hm (pH _ h);rw [Lib.indexByte,if_neg (by simpa using h1),h2];rfl
 refine key _ fun hm=>?_;rw [Fm,Array.toList_extract] at hm;have hm2:b∈sQ.data.toList:=List.mem_of_mem_drop (CP hm);have hall:∀x∈sQ.data.toList,x.toNat<128:=by decide +kernel
 have:=hall b hm2;omega
def LastHigh (s:ByteArray):Prop:=∃n:Nat,∃lb:UInt8,∃hs:s.size=n+1,1<=n/\n<=3/\128<=lb.toNat/\s[n]'(by omega)=lb
theorem high_enc (r:Int) (h:128<=r):LastHigh (Utf8.encode r):=by
 obtain ⟨c,hcd⟩:∃c,c=if Utf8.valid r then r.toNat else Utf8.runeError:=⟨_,rfl⟩
 have hc:128<=c:=by
  rw [hcd];split
  ·omega
  ·decide
 have hl:∀c:Nat,128<=(UInt8.ofNat (0x80+c % 64)).toNat:=fun c=>by rw [UInt8.toNat_ofNat'];omega
 by_cases h1:c<0x800
 ·have he:∃b0,Utf8.encode r=⟨#[b0,UInt8.ofNat (0x80+c % 64)]⟩:=by
   unfold Utf8.encode
   simp only [<- hcd,if_neg (show ¬c<0x80 by omega),if_pos h1]
   exact ⟨_,rfl⟩
  obtain ⟨b0,he⟩:=he
  rw [he]
  exact ⟨1,_,rfl,by omega,by omega,hl c,rfl⟩
 ·by_cases h2:c<0x10000
  ·have he:∃b0 b1,Utf8.encode r=⟨#[b0,b1,UInt8.ofNat (0x80+c % 64)]⟩:=by
    unfold Utf8.encode
    simp only [<- hcd,if_neg (show ¬c<0x80 by omega),if_neg h1,if_pos h2]
    exact ⟨_,_,rfl⟩
   obtain ⟨b0,b1,he⟩:=he
   rw [he]
   exact ⟨2,_,rfl,by omega,by omega,hl c,rfl⟩
  ·have he:∃b0 b1 b2,Utf8.encode r=⟨#[b0,b1,b2,UInt8.ofNat (0x80+c % 64)]⟩:=by
    unfold Utf8.encode
    simp only [<- hcd,if_neg (show ¬c<0x80 by omega),if_neg h1,if_neg h2]
    exact ⟨_,_,_,rfl⟩
   obtain ⟨b0,b1,b2,he⟩:=he
   rw [he]
   exact ⟨3,_,rfl,by omega,by omega,hl c,rfl⟩
theorem UZ (w:World) (r:Int) (h:128<=r) (h2:r<=2147483647) :
  Calls Tryz.prog 217 #[.string sQ,.int .i32 r] w fun e w'=>e=.returned (.int .i64 (-1))/\Up w w':=by
 have d1:decide ((0:Int)<=r)=true:=decide_eq_true (by omega);have d2:decide (r<(128:Int))=false:=decide_eq_false (by omega);have HVR:=aa (fun W=>Go.Proofs.Any.utf8_ValidRune (ρ:=Tryz.idxA_ren) { Tryz.idxA with } r W);by_cases h3:r=65533
 ·have d3:(r==(65533:Int))=true:=by simp [h3]
  clear h3
  go_enter Tryz.func217,Tryz.ntmps217
  go_wp2_with fail
  go_loopg [5,6] 4 (fun g _ _ wx=>∃i:Nat,i+g=4/\wx=w.iter sQ i)
  case atStart=>exact ⟨0,rfl,rfl⟩
  case round =>
   obtain ⟨i,hig,rfl⟩:=hrel;cases gk with
   | zero =>
    (obtain rfl:i=4:=by omega);have hnx:=fun ty=>run_next_end (P:=Tryz.prog) w sQ 4 ty (by decide);go_wp2_with fail;go_ret;exact ⟨rfl,Up.alloc _ _⟩
   | succ g =>
    (have hi:i<4:=by omega);have hlt:=sg_at i hi;have hnx:=fun ty=>run_next_ascii (P:=Tryz.prog) w sQ i ty hi hlt;generalize (sQ[i]'hi).toNat=x at *;(have d4:((x:Int)==65533)=false:=by simp;omega);go_wp2_with fail
    go_roundg g
    case measure=>omega
    case rel=>exact ⟨i+1,by omega,rfl⟩
 ·have d3:(r==(65533:Int))=false:=by simp [h3]
  clear h3;obtain ⟨n,lb,ud,n1,n3,hlb,hix0⟩:=high_enc r h
  go_enter Tryz.func217,Tryz.ntmps217
  go_wp2_with fail;refine (HVR.out _).mono ?_;rintro e w2 ⟨rfl,rfl⟩;cases hv:Lib.validRune r
  ·go_wp2_with fail
   go_ret;exact ⟨rfl,Up.refl _⟩
  ·go_wp2_with fail
   (have hsz:((Utf8.encode r).size:Int)=(n:Int)+1:=by omega);have hsz0:=hsz;obtain ⟨nd,fe⟩:∃nd,nd=Utf8.encode r:=⟨_,rfl⟩;(have hlt:n<nd.size:=by rw [fe];omega);(have hidx:nd[n]'hlt=lb:=by subst fe;exact hix0);rw [<- fe] at hsz;(have i3:(n:Int)<(nd.size:Int):=by omega);(have i1:(n:Int)<4:=by omega);(have i2:(0:Int)<=(n:Int):=by omega);(have hlt4:n<4:=by omega);(have w1:wrap64 (n:Int)=(n:Int):=by unfold wrap64;omega);(have w2a:(n:Int)<(n:Int)+1:=by omega);(have w3a:IntKind.i64.wrap ((n:Int)+1)=(n:Int)+1:=by rw [IntKind.wrap_i64];omega);have w3b:((n:Int)+1).toNat=n+1:=by omega
   (have w3c:(0:Int)<=(n:Int)+1:=by omega);(have w3d:(n:Int)+1<=4:=by omega);obtain ⟨cx,xI⟩:∃cx,cx=sQ[n]'hlt4:=⟨_,rfl⟩;(have hcx1:cx.toNat<128:=by rw [xI];exact sg_at n hlt4);(have d5:(((sQ[n]'hlt4).toNat:Int) != (lb.toNat:Int))=true:=by rw [<- xI];simp;omega);have HIB:=aa (fun W=>Go.Proofs.Any.strings_IndexByte (ρ:=Tryz.idxA_ren) { Tryz.idxA with } (sQ.extract (n+1) 4) (lb.toNat:Int) W);(have hback:((lb.toNat:Int)).toNat.toUInt8=lb:=by simp);rw [hback,ib_none (n+1) hlb] at HIB;have hsg:(sQ.size:Int)=4:=rfl;have hsg2:sQ.size=4:=rfl;have G2:=aa fe;clear hix0 ud xI fe
   go_step3
   go_wp2_with fail;rw [<- G2.out];clear G2
   go_loop [9,10,11,12] (fun i f _ _=>i=.int .i64 n/\f=.int .i64 0) (fun _ _ _ _=>0)
   case atStart=>exact ⟨rfl,rfl⟩
   case round =>
    obtain ⟨rfl,rfl⟩:=hrel;go_wp2_with fail
    go_step3
    go_wp2_with fail;refine gQ (by kernel_rfl) 7 (fun _=>True) trivial (fun hS=>?_);simp only [eW,aT,dO,Nat.reduceAdd,ji,jk,eV,cH,cr];refine aj.tk 0 hS ?_;(try simp only [Act.put,aA,aB,aC]);refine aj.tk 1 hS ?_;(try simp only [Act.put,aA,aB,aC]);refine aj.tk 2 hS ?_;try simp only [Act.put,aA,aB,aC]
    refine aj.tk 3 hS ?_;(try simp only [Act.put,aA,aB,aC]);refine aj.tk 4 hS ?_;(try simp only [Act.put,aA,aB,aC]);refine aj.tk 5 hS ?_;(try simp only [Act.put,aA,aB,aC]);refine aj.step (i:=6) rfl (by kernel_rfl) (fun K' hK=>?_);go_simp;refine hK.out _ _ (aO (by kernel_rfl)) (fun hS=>?_);refine aj.done (by kernel_rfl) ?_;go_wp2_with fail;refine gQ (by kernel_rfl) 9 (fun _=>True) trivial (fun hS=>?_)
    simp only [eW,aT,dO,Nat.reduceAdd,ji,jk,eV,cH,cr];refine aj.tk 0 hS ?_;(try simp only [Act.put,aA,aB,aC]);refine aj.tk 1 hS ?_;(try simp only [Act.put,aA,aB,aC]);refine aj.tk 2 hS ?_;(try simp only [Act.put,aA,aB,aC]);refine aj.tk 3 hS ?_
    (try simp only [Act.put,aA,aB,aC]);refine aj.tk 4 hS ?_;(try simp only [Act.put,aA,aB,aC]);refine aj.tk 5 hS ?_;(try simp only [Act.put,aA,aB,aC]);refine aj.tk 6 hS ?_;(try simp only [Act.put,aA,aB,aC]);refine aj.step (i:=7) rfl (by kernel_rfl) (fun K' hK=>?_);go_simp;refine (HIB.out _).mono ?_;rintro e w4 ⟨rfl,rfl⟩;refine hK.out _ _ (fun _=>trivial) (fun hS=>?_)
    (try simp only [aA,aB,aC]);refine aj.step (i:=8) rfl (by kernel_rfl) (fun K' hK=>?_);go_simp;refine hK.out _ _ (aO (by kernel_rfl)) (fun hS=>?_);refine aj.done (by kernel_rfl) ?_;go_wp2_with fail;simp +zetaDelta only [Exit.noGoto,Exit.inBlock,Exit.then];refine bodyPost_ret (results_tmp rfl _ _ _) rfl ?_;exact ⟨rfl,(Up.drewN _ 1).trans (Up.drewN _ 1)⟩
end
end Go.Proofs.YthgabkgmkolobaaGreat
