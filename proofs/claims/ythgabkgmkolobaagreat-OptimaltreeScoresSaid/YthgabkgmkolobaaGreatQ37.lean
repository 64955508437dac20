/- The contract of phylotree.Parse. -/
import Derived.Test.YthgabkgmkolobaaGreatQ35
set_option maxRecDepth 100000
namespace Go.Proofs.YthgabkgmkolobaaGreat
open Go.RowKit Go.Deep
def xM (w:World) (s:ByteArray) (e:Ending) (w':World):Prop :=
 Up w w'∧∃v,e=.returned (.tuple #[v,.int .i64 (r6 s)])∧au Any w' v (pM s)
def VS (s:ByteArray):Prop:=∀(i:Nat) (W:World),i<s.size→Calls Tryz.prog 166 #[.string (s.extract i s.size),.string ⟨#[40,41,44,59]⟩] W fun e W'=>e=.returned (.int .i64 (Lib.indexAny (s.data.toList.drop i) bF))∧Up W W'
theorem je {w W : World} {s : ByteArray} (hu : Up w W) (hb : W.heap[w.heap.size]? = some (Obj.cells #[.slice none 0 0, .slice none 0 0] 39 (0, 0))) (h : iL s.data.toList = none) :
    ((W.setCell ⟨w.heap.size, 0, none⟩ (.slice none 0 0)).setCell ⟨w.heap.size, 1, none⟩ (.slice none 0 0)).cell? ⟨w.heap.size, 0, none⟩ = some (.slice none 0 0) ∧ ((W.setCell ⟨w.heap.size, 0, none⟩ (.slice none 0 0)).setCell ⟨w.heap.size, 1, none⟩ (.slice none 0 0)).cell? ⟨w.heap.size, 1, none⟩ = some (.slice none 0 0) ∧
      xM w s (.returned (.tuple #[.agg #[.slice none 0 0, .slice none 0 0], .int .i64 3])) ((W.setCell ⟨w.heap.size, 0, none⟩ (.slice none 0 0)).setCell ⟨w.heap.size, 1, none⟩ (.slice none 0 0)) := by
  obtain ⟨s1, s2, s3, s4⟩ := dS (p := .slice none 0 0) (q := .slice none 0 0) hb (Nat.le_refl _) hu
  refine ⟨s2, s3, s1, .agg #[.slice none 0 0, .slice none 0 0], by unfold r6; rw [h], ?_⟩
  unfold pM; rw [h]; exact zn _
theorem AQ {c d:UInt8} {z:Int} (h:c≠d) (hz:z=d.toNat):((c.toNat:Int)==z)=false:=by
 subst hz;rw [beq_eq_false_iff_ne];intro e;exact h (UInt8.toNat_inj.1 (by omega))
theorem ya {c d:UInt8} {z:Int} (h:c=d) (hz:z=d.toNat):((c.toNat:Int)==z)=true:=by
 subst hz;subst h;exact beq_self_eq_true _
set_option maxHeartbeats 8000000 in
theorem S7 (w:World) (s:ByteArray) (hs:s.size≤1000) (F2:VS s) :
  Calls Tryz.prog 121 #[.string s] w (xM w s):=by
 have hrb:=ek (w:=w) (P:=.slice none 0 0) (N:=.slice none 0 0) (T:=39);have hu:=Up.alloc w (.cells #[.slice none 0 0,.slice none 0 0] 39);have hsz:(w.alloc (.cells #[.slice none 0 0,.slice none 0 0] 39)).heap.size=w.heap.size+1:=World.size_alloc _ _;have HU:=aa hu;have cz:=aa hsz;have iV:=aa hrb;have VT:=aa F2;have d1:decide ((65536:Int)<(s.size:Int))=false:=decide_eq_false (by omega);have RS:¬65536<s.size:=by omega
 clear hrb hu hsz F2
 go_enter Tryz.func121,Tryz.ntmps121
 go_wp2_with fail;have HST:=aa (P9 (w.alloc (.cells #[.slice none 0 0,.slice none 0 0] 39)) s);rw [cz.out] at HST;generalize w.alloc (.cells #[.slice none 0 0,.slice none 0 0] 39)=w1 at *;have bU:Hid (∀wr,Below (w.heap.size+1) w1 wr→wr.heap[w.heap.size]? = some (Obj.cells #[.slice none 0 0,.slice none 0 0] 39 (0,0))∧Up w wr):=fun wr h=>⟨(h.block _ (Nat.lt_succ_self _)).trans iV.out,HU.out.trans (h.mono (by rw [cz.out];exact Nat.le_refl _))⟩
 go_loopw [5,6,7,8,9,10,11,12,66,86,101,111] (fun ov dn i _ _ _ _ _ _ _ _ _ wr=>∃(k:Nat) (b:Bool),k≤s.size∧i=.int .i64 k∧dn=.bool b∧Hid (AL (w.heap.size+1) s (iL s.data.toList) w1 (w.heap.size+1) k b ov wr)) (fun _ _ i _ _ _ _ _ _ _ _ _ _=>s.size - (intOf i).toNat)
 case atStart=>exact ⟨0,false,Nat.zero_le _,rfl,rfl,HST.out⟩
 case round =>
  obtain ⟨k,b,hk,rfl,rfl,hO⟩:=hrel;obtain ⟨wo,rfl⟩:∃wo:World,wo=wr:=⟨_,rfl⟩;by_cases hlt:k<s.size
  ·obtain ⟨n,A,kv,F,o,os,Z,st,f,hM⟩:=hO.out
   obtain ⟨g,cap,RR,XP,hrow⟩:=hM.row
   
   obtain ⟨f',ch,nw,hf2,hdr,hch⟩:=hM.step hlt;have HF:=aa nw;have vD:=aa hf2;have Qa:=hdr;(have i1:(0:Int)≤(k:Int):=by omega);(have i2:(k:Int)<(s.size:Int):=by omega);have Y9:=hM.ol;have aW:=aa hlt;obtain ⟨m,hm⟩:∃m,m=os.length:=⟨_,rfl⟩;have MX:=aa hm;rw [← hm] at RR XP hrow Y9;subst RR;(have w1a:wrap64 (m:Int)=(m:Int):=by unfold wrap64;omega);(have w1b:(0:Int)≤(m:Int):=by omega);(have w1c:(m:Int)<(m:Int)+1:=by omega);(have w1d:m<m+1:=by omega);(have w1e:m+1≤1000000:=by omega);have HM:=aa hM;clear hm Y9;clear hO hM nw hf2 hdr
   have hfr:=HM.out.fr.thaw HM.out.zf.on 1;obtain ⟨q0,q1,q2,q3⟩:=boxed (bU.out wo HM.out.up).1;(have r7:Hid (∀x,pz (f'+1) (ch::s.data.toList.drop (k+1)) (Z::st) b=x→iL s.data.toList=x):=fun x hx=>by have hr:=HM.out.run;rw [HF.out,Qa] at hr;rw [← hr];exact hx);have RJ:=aa Qa;(have BQ:Hid ((Z::st).length=m+1):=by have h:=HM.out.zf.len;rw [Hid,MX.out];simp at h ⊢;omega);clear Qa;by_cases F3:ch=40
   ·have e1:=ya (z:=40) F3 rfl
    subst F3;cases b with
    | true =>
     have HST:=aa (je (bU.out wo HM.out.up).2 (bU.out wo HM.out.up).1 (r7.out none (by simp [pz])));go_wp2_with fail;obtain ⟨s2,s3,hp⟩:=HST.out;exact ⟨rfl,.tuple #[.agg #[.slice none 0 0,.slice none 0 0],.int .i64 3],by simp [results,Tryz.results121,go_sem,s2,s3],hp⟩
    | false =>
     have hkc:=(Up.alloc wo (.cells #[.string ⟨#[]⟩,.slice none 0 0,.int .i64 0] 122)).cell (HM.out.fr.oZ HM.out.zf.on);have hs1:(wo.alloc (.cells #[.string ⟨#[]⟩,.slice none 0 0,.int .i64 0] 122)).heap.size=wo.heap.size+1:=World.size_alloc _ _;have jW:=aa hs1;have HOW:Hid (aF (w.heap.size+1) 119 (wo.alloc (.cells #[.string ⟨#[]⟩,.slice none 0 0,.int .i64 0] 122)) (kv o) ((F.kids o).map (bg A))):=(HM.out.fr.own o HM.out.zf.on).alloc _;have kU:Hid (w.heap.size+1≤wo.heap.size):=Nat.le_trans (Nat.le_of_eq cz.out.symm) HM.out.up.size
     (have VU:Hid (w.heap.size+1≤(wo.alloc (.cells #[.string ⟨#[]⟩,.slice none 0 0,.int .i64 0] 122)).heap.size):=by rw [Hid,jW.out];exact Nat.le_succ_of_le kU.out);have MZ:=aa HM.out.VO
     have mz:Hid (∀g2 m2 cr w',aF (w.heap.size+1) 119 w' (.slice (some ⟨g2,0,none⟩) m2 cr) ((F.kids o).map (bg A)++[.pointer (some ⟨wo.heap.size,0,none⟩)])→(wo.alloc (.cells #[.string ⟨#[]⟩,.slice none 0 0,.int .i64 0] 122)).grownBy w' (kv o).ownBlock→((kv o).ownBlock=some g2∨(wo.alloc (.cells #[.string ⟨#[]⟩,.slice none 0 0,.int .i64 0] 122)).heap.size≤g2) →
       (w'.cell? ⟨A o,1,none⟩=some (kv o)∧w'.frozen? ⟨A o,1,none⟩=false)∧∃A' kv',A' n=wo.heap.size∧RQ (w.heap.size+1) w1 (w.heap.size+1) (.slice (some ⟨g,0,none⟩) (m+1) cap) n A' kv' (iH F n o ByteArray.empty) (o::os) (w'.setCell ⟨A o,1,none⟩ (.slice (some ⟨g2,0,none⟩) m2 cr))):=fun g2 m2 cr w' h1 h2 h3 =>
      ⟨HM.out.store h2,HM.out.node ByteArray.empty kU.out h1 h2 (by rw [jW.out] at h3;exact h3)⟩
     (have l6:Hid (n<2000):=by have:=HM.out.nk;unfold Hid;omega);clear hs1;generalize kv o=kvo at *;have z7:Hid (iL s.data.toList=pz f' (s.data.toList.drop (k+1)) ([]::Z::st) false):=r7.out _ (by simp [pz])
     go_wp2_with (first | (at_builtin;refine xK (wo.alloc (.cells #[.string ⟨#[]⟩,.slice none 0 0,.int .i64 0] 122)) rfl _ _ 120 rfl (w.heap.size+1) 119 (.pointer none) 8 Tryz.underlying120 Tryz.qN rfl (by decide) HOW.out rfl (.pointer (some ⟨wo.heap.size,0,none⟩)) (wo.heap.size+1) jW.out rfl rfl _ MZ.out.1 MZ.out.2 VU.out ?_;intro g8 gZ w8 bJ cD fS;obtain ⟨⟨VV,Za⟩,A8,kv8,yS,M0⟩:=mz.out _ _ _ w8 bJ cD fS;have Zb:=aa M0;have VW:=aa yS;have VX:Hid (w.heap.size+1≤(w8.setCell ⟨A o,1,none⟩ (.slice (some ⟨g8,0,none⟩) ((F.kids o).length+1) gZ)).heap.size):=(by rw [Hid,World.size_setCell];exact Nat.le_trans VU.out cD.size);clear bJ cD fS yS M0) | (at_builtin;refine xK (w8.setCell ⟨A o,1,none⟩ (.slice (some ⟨g8,0,none⟩) ((F.kids o).length+1) gZ)) rfl _ _ 120 rfl (w.heap.size+1) 119 (.pointer none) 8 Tryz.underlying120 Tryz.qN rfl (by decide) Zb.out.own rfl (.pointer (some ⟨wo.heap.size,0,none⟩)) w8.heap.size (World.size_setCell _ _ _) rfl rfl (m+1) (by rw [MX.out];simp) (by omega) VX.out ?_;intro g9 cap9 w9 Kz BR VY;have HP9:Hid (AL (w.heap.size+1) s (iL s.data.toList) w1 (w.heap.size+1) (k+1) false (.slice (some ⟨g9,0,none⟩) (m+1+1) cap9) w9):=HM.out.opened l6.out Zb.out VX.out (by unfold bg at Kz ⊢;rw [VW.out];exact Kz) BR VY z7.out.symm vD.out;clear Kz BR VY))
     go_roundw
     case rel=>exact ⟨k+1,false,aW.out,by go_num,rfl,HP9.out⟩
     case measure=>have:=aW.out;simp [intOf];omega
   ·have e1:=AQ (z:=40) F3 rfl
    by_cases F4:ch=41
    ·have e2:=ya (z:=41) F4 rfl
     subst F4;cases b with
     | false =>
      have HST:=aa (je (bU.out wo HM.out.up).2 (bU.out wo HM.out.up).1 (r7.out none (by simp [pz])));go_wp2_with fail;obtain ⟨s2,s3,hp⟩:=HST.out;exact ⟨rfl,.tuple #[.agg #[.slice none 0 0,.slice none 0 0],.int .i64 3],by simp [results,Tryz.results121,go_sem,s2,s3],hp⟩
     | true =>
      by_cases hm0:m=0
      ·have d2:(((m:Int)+1)==1)=true:=by rw [hm0];rfl
       have HST:=aa (je (bU.out wo HM.out.up).2 (bU.out wo HM.out.up).1 (r7.out none (by have h:=BQ.out;rw [hm0] at h;rw [pz,if_neg (by decide),if_pos rfl,if_pos (.inr h)])));clear hm0;go_wp2_with fail;obtain ⟨s2,s3,hp⟩:=HST.out;exact ⟨rfl,.tuple #[.agg #[.slice none 0 0,.slice none 0 0],.int .i64 3],by simp [results,Tryz.results121,go_sem,s2,s3],hp⟩
      ·have d2:(((m:Int)+1)==1)=false:=beq_eq_false_iff_ne.2 (by omega)
       obtain ⟨q,os2,rfl⟩:∃q os2,os=q::os2:=by
        cases os with
        | nil=>exact absurd (by have:=MX.out;simpa using this) hm0
        | cons q os2=>exact ⟨q,os2,rfl⟩
       obtain ⟨Y,st2,rfl⟩:∃Y st2,st=Y::st2:=by
        cases st with
        | nil=>exact absurd (by have:=BQ.out;simp at this;omega) hm0
        | cons Y st2=>exact ⟨Y,st2,rfl⟩
       have z7:Hid (iL s.data.toList=pz f' (s.data.toList.drop (k+1)) ((Y++[.node ByteArray.empty Z])::st2) true):=r7.out _ (by simp [pz,popZ]);(have Zc:Hid (m=os2.length+1):=by have:=MX.out;simp at this;exact this);(have HN:Hid (AL (w.heap.size+1) s (iL s.data.toList) w1 (w.heap.size+1) (k+1) true (.slice (some ⟨g,0,none⟩) m cap) wo):=by rw [Zc.out];exact HM.out.VP (by rw [Zc.out]) z7.out.symm vD.out);(have w1f:(m:Int)≤(cap:Int):=by omega);clear hm0;go_wp2_with fail
       go_roundw
       case rel=>exact ⟨k+1,true,aW.out,by go_num,rfl,HN.out⟩
       case measure=>have:=aW.out;simp [intOf];omega
    ·have e2:=AQ (z:=41) F4 rfl
     by_cases F5:ch=44
     ·have e3:=ya (z:=44) F5 rfl
      subst F5;cases b with
      | false =>
       have HST:=aa (je (bU.out wo HM.out.up).2 (bU.out wo HM.out.up).1 (r7.out none (by simp [pz])));go_wp2_with fail;obtain ⟨s2,s3,hp⟩:=HST.out;exact ⟨rfl,.tuple #[.agg #[.slice none 0 0,.slice none 0 0],.int .i64 3],by simp [results,Tryz.results121,go_sem,s2,s3],hp⟩
      | true =>
       by_cases hm0:m=0
       ·have d2:(((m:Int)+1)==1)=true:=by rw [hm0];rfl
        have HST:=aa (je (bU.out wo HM.out.up).2 (bU.out wo HM.out.up).1 (r7.out none (by have h:=BQ.out;rw [hm0] at h;rw [pz,if_neg (by decide),if_neg (by decide),if_pos rfl,if_pos (.inr h)])));clear hm0;go_wp2_with fail;obtain ⟨s2,s3,hp⟩:=HST.out;exact ⟨rfl,.tuple #[.agg #[.slice none 0 0,.slice none 0 0],.int .i64 3],by simp [results,Tryz.results121,go_sem,s2,s3],hp⟩
       ·have d2:(((m:Int)+1)==1)=false:=beq_eq_false_iff_ne.2 (by omega)
        have z7:Hid (iL s.data.toList=pz f' (s.data.toList.drop (k+1)) (Z::st) false):=r7.out _ (by have h:=BQ.out;rw [pz,if_neg (by decide),if_neg (by decide),if_pos rfl,if_neg (by rw [h];simp;omega)]);have HN:Hid (AL (w.heap.size+1) s (iL s.data.toList) w1 (w.heap.size+1) (k+1) false (.slice (some ⟨g,0,none⟩) (m+1) cap) wo):=HM.out.comma z7.out.symm vD.out;clear hm0;go_wp2_with fail
        go_roundw
        case rel=>exact ⟨k+1,false,aW.out,by go_num,rfl,HN.out⟩
        case measure=>have:=aW.out;simp [intOf];omega
     ·have e3:=AQ (z:=44) F5 rfl
      by_cases F6:ch=59
      ·have e4:=ya (z:=59) F6 rfl
       subst F6;cases b with
       | false =>
        have HST:=aa (je (bU.out wo HM.out.up).2 (bU.out wo HM.out.up).1 (r7.out none (by simp [pz])));go_wp2_with fail;obtain ⟨s2,s3,hp⟩:=HST.out;exact ⟨rfl,.tuple #[.agg #[.slice none 0 0,.slice none 0 0],.int .i64 3],by simp [results,Tryz.results121,go_sem,s2,s3],hp⟩
       | true =>
        by_cases hm0:m=0
        ·have d2:(((m:Int)+1) != 1)=false:=by rw [hm0];rfl
         by_cases hk1:k+1=s.size
         ·have d3:((k:Int) != (s.size:Int) - 1)=false:=by simp;omega
          have hos:os=[]:=List.eq_nil_of_length_eq_zero (by have:=MX.out;omega);subst hos;have hst0:st=[]:=List.eq_nil_of_length_eq_zero (by have:=BQ.out;simp at this;omega);subst hst0;obtain ⟨r,Y,rfl⟩:∃r Y,Z=r::Y:=by
           have:=HM.out.VM rfl;cases Z with
           | nil=>exact absurd rfl this
           | cons r Y=>exact ⟨r,Y,rfl⟩
          (have yq:o=0:=by have:=HM.out.last;simpa using this);subst yq;have VZ:s.data.toList.drop (k+1)=[]:=List.drop_eq_nil_of_le (by rw [Array.length_toList];have:s.data.size=s.size:=rfl;omega);have oJ:iL s.data.toList=some r:=r7.out (some r) (by rw [VZ];simp [pz,firstZ]);obtain ⟨c,ks,hkc,dQ,htr⟩:=HM.out.zf.done;(have gC:s.data.toList.length=s.size:=by rw [Array.length_toList];rfl);obtain ⟨AR,AU,Dq⟩:=xI oJ;rw [gC] at AR AU;have F7:=aa AR;have F8:=aa AU;have F9:Hid (∀k,(gs (flat r).ns k).size≤70000):=fun j=>by have:=Dq j;rw [gC] at this;omega
          have vJ:=aa oJ;have RU:=HM.out.a0;have hkv:=HM.out.fr.oZ HM.out.zf.on;have hown:=HM.out.fr.own 0 HM.out.zf.on;rw [hkc,List.map_cons] at hown;rw [RU] at hkv;obtain ⟨kq,kcap,Qb,M3⟩:=hown.form (n:=(ks.map (bg A)).length+1) (by simp);obtain ⟨kg,rfl⟩:∃kg,kq=some ⟨kg,0,none⟩:=by
           rcases M3 with rfl | h2
           ·obtain ⟨_,h3 | ⟨g,_,_,h3,_⟩⟩:=hown
            ·have:=h3.2;simp at this
            ·rw [Qb] at h3;cases h3
           ·exact h2
          rw [Qb] at hown hkv;have M4:=(CY hown (j:=0) (u:=bg A c) (by simp)).1;simp only [bg] at M4
          have Ao:=aa (Mj HM.out.zf.wf (fun i hi=>Nat.le_trans (nQ (HM.out.zf.nd i hi) (fun x hx=>(HM.out.zf.kid i hi x hx).2)) (by have:=HM.out.nk;omega)) wo c dQ HM.out.fr (by
           (have h1:(dH F lF c none).length=(bK F lF c).length:=by simp [bK]);have h2:=nQ (Dh HM.out.zf.wf HM.out.zf.one HM.out.zf.nd (fun i _=>FI i) dQ) (fun x hx=>nP HM.out.zf.wf dQ (Nat.le_refl _) ((dN HM.out.zf.wf dQ (Nat.le_refl _)).1 hx));have:=HM.out.nk
           omega))
          rw [htr] at Ao;have V3:=aa (bU.out wo HM.out.up).1;have jB:=aa (bU.out wo HM.out.up).2;have M5:Hid (w.heap.size+1≤wo.heap.size):=Nat.le_trans (Nat.le_of_eq cz.out.symm) HM.out.up.size;(have i9:(0:Int)<((ks.map (bg A)).length:Int)+1:=by omega);clear hm0 hk1 VZ oJ hkc htr gC AR AU Dq hown Qb M3 dQ;generalize (ks.map (bg A)).length=kl at *;go_wp2_with fail;refine Ao.out.mono ?_;rintro e w4 ⟨bE,_,rfl,P4,N4,rfl,ey,eC⟩;obtain ⟨pp,pc,rfl,_,_⟩:=aC.open ey;obtain ⟨np,nc,rfl,_,_⟩:=aC.open eC
          have ey:aj _ w4 (.slice pp (flat r).ps.length pc) (flat r).ps:=ey;have eC:ah _ w4 (.slice np (flat r).ns.length nc) (flat r).ns:=eC;have aY:=Up.alloc w4 (.cells #[.slice pp (flat r).ps.length pc,.slice np (flat r).ns.length nc] 39);have b0:=dc w4 (.slice pp (flat r).ps.length pc) (.slice np (flat r).ns.length nc) 39;have b1:=dz w4 (.slice pp (flat r).ps.length pc) (.slice np (flat r).ns.length nc) 39;have cZ:=aa b0;have cR:=aa b1;have xN:=(Below.block (bE.trans aY) w.heap.size (by have:=M5.out;omega)).trans V3.out;have Ga:=aa xN
          have Gc:=aa (jB.out.trans (bE.trans aY));have nB:Hid (au (fun b=>wo.heap.size≤b) (w4.alloc (.cells #[.slice pp (flat r).ps.length pc,.slice np (flat r).ns.length nc] 39)) (.agg #[.slice pp (flat r).ps.length pc,.slice np (flat r).ns.length nc]) (flat r)):=au.keep ⟨_,_,rfl,ey,eC⟩ (aY.kept _);have dr:=aa (qi _ _ _ (flat r) nB.out (by have:=F7.out;omega) (by have:=F8.out;omega) F9.out);have M6:Hid (wo.heap.size≤(w4.alloc (.cells #[.slice pp (flat r).ps.length pc,.slice np (flat r).ns.length nc] 39)).heap.size):=(bE.trans aY).size
          clear bE ey eC aY Ao xN jB V3 q0 q1 q2 q3 M4 hkv;go_wp2_with fail;generalize w4.alloc (.cells #[.slice pp (flat r).ps.length pc,.slice np (flat r).ns.length nc] 39)=w5 at *;refine dr.out.mono ?_;rintro e w6 ⟨rfl,ew⟩;have ew:Up w5 w6:=ew;have b0:=ew.cell cZ.out;have b1:=ew.cell cR.out;have rD:=(Below.block ew w.heap.size (by have:=M5.out;have:=M6.out;omega)).trans Ga.out;have zF:=aa rD;have zG:=aa (Gc.out.trans ew);have xO:=aa (nB.out.keep (ew.kept _));obtain ⟨q0,q1,q2,q3⟩:=boxed rD
          (have tq:Hid (r6 s=aB (flat r)):=by unfold Hid r6;rw [vJ.out]);(have tG:Hid (pM s=if aB (flat r)≠0 then ⟨[],[]⟩ else flat r):=by unfold Hid pM;rw [vJ.out]);clear ew rD dr;by_cases he:aB (flat r)=0
          ·have zH:Hid (pM s=flat r):=by unfold Hid;rw [tG.out,if_neg (by simp [he])]
           (have Qc:Hid (r6 s=0):=by unfold Hid;rw [tq.out,he]);rw [he];have HST:=aa (dS (w:=w) (p:=.slice pp (flat r).ps.length pc) (q:=.slice np (flat r).ns.length nc) zF.out (Nat.le_refl _) zG.out);clear he;go_wp2_with fail;obtain ⟨s1,s2,s3,s4⟩:=HST.out;obtain ⟨P7,N7,e7,z8,M7⟩:=xO.out;(have e8:P7=.slice pp (flat r).ps.length pc∧N7=.slice np (flat r).ns.length nc:=by injection e7 with e7;have:=congrArg Array.toList e7;simp at this;exact ⟨this.1.symm,this.2.symm⟩);obtain ⟨rfl,rfl⟩:=e8;have hsw:=M5.out
           refine ⟨rfl,.tuple #[.agg #[.slice pp (flat r).ps.length pc,.slice np (flat r).ns.length nc],.int .i64 0],by simp [results,Tryz.results121,go_sem,s2,s3],?_⟩;refine ⟨s1,_,by rw [Qc.out],?_⟩;rw [zH.out];exact ⟨_,_,rfl,(aj.keep z8 fun b hb _=>s4 b (by omega)).sub fun b _ _=>trivial,(ah.keep M7 fun b hb _=>s4 b (by omega)).sub fun b _ _=>trivial⟩
          ·have rR:(aB (flat r) != 0)=true:=by simpa using he
           (have zH:Hid (pM s=⟨[],[]⟩):=by unfold Hid;rw [tG.out,if_pos he]);have HST:=aa (dS (w:=w) (p:=.slice none 0 0) (q:=.slice none 0 0) zF.out (Nat.le_refl _) zG.out);clear he;generalize aB (flat r)=te at *;go_wp2_with fail;obtain ⟨s1,s2,s3,s4⟩:=HST.out;refine ⟨rfl,.tuple #[.agg #[.slice none 0 0,.slice none 0 0],.int .i64 te],by simp [results,Tryz.results121,go_sem,s2,s3],?_⟩;refine ⟨s1,_,by rw [tq.out],?_⟩;rw [zH.out];exact zn _
         ·have d3:((k:Int) != (s.size:Int) - 1)=true:=by simp;omega
          have HST:=aa (je (bU.out wo HM.out.up).2 (bU.out wo HM.out.up).1 (r7.out none (by
           have hne:s.data.toList.drop (k+1)≠[]:=fun e=>by have:=List.drop_eq_nil_iff.1 e;rw [Array.length_toList] at this;have h2:s.data.size=s.size:=rfl;omega
           rw [pz,if_neg (by decide),if_neg (by decide),if_neg (by decide),if_pos rfl,if_pos (.inr (.inr hne))])))
          clear hm0 hk1;go_wp2_with fail;obtain ⟨s2,s3,hp⟩:=HST.out;exact ⟨rfl,.tuple #[.agg #[.slice none 0 0,.slice none 0 0],.int .i64 3],by simp [results,Tryz.results121,go_sem,s2,s3],hp⟩
        ·have d2:(((m:Int)+1) != 1)=true:=by simp;omega
         have HST:=aa (je (bU.out wo HM.out.up).2 (bU.out wo HM.out.up).1 (r7.out none (by have h:=BQ.out;rw [pz,if_neg (by decide),if_neg (by decide),if_neg (by decide),if_pos rfl,if_pos (.inr (.inl (by rw [h];omega)))])));clear hm0;go_wp2_with fail;obtain ⟨s2,s3,hp⟩:=HST.out;exact ⟨rfl,.tuple #[.agg #[.slice none 0 0,.slice none 0 0],.int .i64 3],by simp [results,Tryz.results121,go_sem,s2,s3],hp⟩
      ·have e4:=AQ (z:=59) F6 rfl
       cases b with
       | true =>
        have HST:=aa (je (bU.out wo HM.out.up).2 (bU.out wo HM.out.up).1 (r7.out none (by rw [pz,if_neg F3,if_neg F4,if_neg F5,if_neg F6,if_pos rfl])));go_wp2_with fail;obtain ⟨s2,s3,hp⟩:=HST.out;exact ⟨rfl,.tuple #[.agg #[.slice none 0 0,.slice none 0 0],.int .i64 3],by simp [results,Tryz.results121,go_sem,s2,s3],hp⟩
       | false =>
        have oL:Hid (ch∉bF):=BI F3 F4 F5 F6
        have V4:Hid (∀x,(if Lib.indexAny (s.data.toList.drop k) bF<0 then none else pz f' ((s.data.toList.drop k).drop (Lib.indexAny (s.data.toList.drop k) bF).toNat) ((Z++[.node ⟨((s.data.toList.drop k).take (Lib.indexAny (s.data.toList.drop k) bF).toNat).toArray⟩ []])::st) true)=x→iL s.data.toList=x):=fun x hx=>r7.out x (by
         rw [pz,if_neg F3,if_neg F4,if_neg F5,if_neg F6,if_neg (by simp),← RJ.out];exact hx)
        have vv:=aa (VT.out k wo aW.out);clear F3 F4 F5 F6;(have i3:(k:Int)≤(s.size:Int):=by omega);go_wp2_with fail;refine vv.out.mono ?_;rintro e w3 ⟨rfl,bz⟩;have Cv:=aa (HM.out.VQ bz);obtain ⟨q0,q1,q2,q3⟩:=boxed (bU.out w3 Cv.out.up).1;clear bz vv;by_cases F2:Lib.indexAny (s.data.toList.drop k) bF<0
        ·have d5:decide (Lib.indexAny (s.data.toList.drop k) bF<0)=true:=decide_eq_true F2
         have HST:=aa (je (bU.out w3 Cv.out.up).2 (bU.out w3 Cv.out.up).1 (V4.out none (by rw [if_pos F2])));clear F2;generalize Lib.indexAny (s.data.toList.drop k) bF=ia at *;go_wp2_with fail;obtain ⟨s2,s3,hp⟩:=HST.out;exact ⟨rfl,.tuple #[.agg #[.slice none 0 0,.slice none 0 0],.int .i64 3],by simp [results,Tryz.results121,go_sem,s2,s3],hp⟩
        ·obtain ⟨x,hx⟩:∃x:Nat,Lib.indexAny (s.data.toList.drop k) bF=(x:Int):=⟨(Lib.indexAny (s.data.toList.drop k) bF).toNat,by omega⟩
         (have hx1:1≤x:=by have h1:=FK (s:=s.data.toList.drop (k+1)) oL.out;rw [← RJ.out,hx] at h1;omega);(have hx2:k+x<s.size:=by have h1:=RG _ x hx;rw [List.length_drop,Array.length_toList] at h1;have h2:s.data.size=s.size:=rfl;omega);(have HRUN:Hid (pz f' (s.data.toList.drop (k+x)) ((Z++[.node (s.extract k (k+x)) []])::st) true=iL s.data.toList):=by have h1:=V4.out _ rfl;rw [hx,if_neg (by omega),Int.toNat_natCast,List.drop_drop,Km s k x] at h1;exact h1.symm);rw [hx];have d5:decide ((x:Int)<0)=false:=decide_eq_false (by omega);have tL:=aa hx2;have jT:=aa hx1
         (have j1:(0:Int)≤(x:Int):=by omega);(have j2:(k:Int)≤(k:Int)+(x:Int):=by omega);(have j3:(k:Int)+(x:Int)≤(s.size:Int):=by omega);(have j4:IntKind.i64.wrap ((k:Int)+(x:Int))=(k:Int)+(x:Int):=by rw [IntKind.wrap_i64];omega);(have j5:((k:Int)+(x:Int)).toNat=k+x:=by omega);(have j6:(0:Int)≤(k:Int)+(x:Int):=by omega);have vK:=aa Cv.out.drew;have hkc:=vK.out.fr.oZ vK.out.zf.on;have hkf:=vK.out.fr.thaw vK.out.zf.on 1;clear F2 hx hx1 V4;go_wp2_with fail;refine dG (by kernel_rfl) 18 (fun w'=>w'.cell? ⟨A o,1,none⟩=some (kv o)) hkc (fun hS=>?_)
         simp only [List.size_toArray,List.length_cons,List.length_nil,Nat.reduceAdd,Array.replicate_succ,Array.replicate_zero,List.push_toArray,List.nil_append,List.cons_append];refine af.tk 0 hS ?_;(try simp only [Act.put,ay,az,aA]);refine af.tk 1 hS ?_;(try simp only [Act.put,ay,az,aA]);refine af.tk 2 hS ?_;(try simp only [Act.put,ay,az,aA]);refine af.tk 3 hS ?_
         (try simp only [Act.put,ay,az,aA]);refine af.tk 4 hS ?_;(try simp only [Act.put,ay,az,aA]);refine af.tk 5 hS ?_;(try simp only [Act.put,ay,az,aA]);refine af.tk 6 hS ?_;(try simp only [Act.put,ay,az,aA]);refine af.tk 7 hS ?_;(try simp only [Act.put,ay,az,aA]);refine af.tk 8 hS ?_
         (try simp only [Act.put,ay,az,aA]);refine af.tk 9 hS ?_;(try simp only [Act.put,ay,az,aA]);refine af.tk 10 hS ?_;(try simp only [Act.put,ay,az,aA]);refine af.tk 11 hS ?_;(try simp only [Act.put,ay,az,aA]);refine af.step (i:=12) rfl (by kernel_rfl) (fun K' hK=>?_);go_simp;refine hK.out _ _ (fun _=>(Up.alloc _ _).cell hkc) (fun hS=>?_)
         (try simp only [ay,az,aA]);have HOW:Hid (aF (w.heap.size+1) 119 ((w3.drew.alloc (.cells #[.string (s.extract k (k+x)),.slice none 0 0,.int .i64 0] 122)).alloc (.cells #[.pointer (some ⟨w3.drew.heap.size,0,none⟩)] 119)) (kv o) ((F.kids o).map (bg A))):=((vK.out.fr.own o vK.out.zf.on).alloc _).alloc _;have tF:(w3.drew.alloc (.cells #[.string (s.extract k (k+x)),.slice none 0 0,.int .i64 0] 122)).heap.size=w3.drew.heap.size+1:=World.size_alloc _ _;have iN:=aa tF
         (have l7:Hid (((w3.drew.alloc (.cells #[.string (s.extract k (k+x)),.slice none 0 0,.int .i64 0] 122)).alloc (.cells #[.pointer (some ⟨w3.drew.heap.size,0,none⟩)] 119)).cell? ⟨w3.drew.heap.size+1,0,none⟩=some (.pointer (some ⟨w3.drew.heap.size,0,none⟩))):=by have h:=aK (w3.drew.alloc (.cells #[.string (s.extract k (k+x)),.slice none 0 0,.int .i64 0] 122)) #[.pointer (some ⟨w3.drew.heap.size,0,none⟩)] 119 0;rw [tF] at h;exact h);have gO:Hid (w.heap.size+1≤w3.drew.heap.size):=Nat.le_trans (Nat.le_of_eq cz.out.symm) vK.out.up.size
         (have kU:Hid (w.heap.size+1≤((w3.drew.alloc (.cells #[.string (s.extract k (k+x)),.slice none 0 0,.int .i64 0] 122)).alloc (.cells #[.pointer (some ⟨w3.drew.heap.size,0,none⟩)] 119)).heap.size):=by have:=gO.out;rw [Hid,World.size_alloc,World.size_alloc];omega);have MZ:=aa vK.out.VO;(have HFLM:Hid (((F.kids o).map (bg A)).length≤1000000):=by have:=MZ.out;unfold Hid;rw [this.1];exact this.2);clear tF;refine af.step (i:=13) rfl (by kernel_rfl) (fun K' hK=>?_);go_simp;refine hK.out _ _ (fun _=>((Up.alloc _ _).trans (Up.alloc _ _)).cell hkc) (fun hS=>?_)
         (try simp only [ay,az,aA]);(try rw [iN.out]);refine af.step (i:=14) rfl (by kernel_rfl) (fun K' hK=>?_);refine eV (by rfl) _ _ _ (by rfl) (w.heap.size+1) 119 _ 8 Tryz.underlying120 Tryz.qN (by rfl) (by decide) (by rfl) HOW.out (.pointer (some ⟨w3.drew.heap.size,0,none⟩)) (w3.drew.heap.size+1) (by rfl) l7.out (by rfl) HFLM.out kU.out ?_;intro g8 gZ w8 bJ cD fS _;have BS:=lR cD
         have BR:(w3.drew.alloc (.cells #[.string (s.extract k (k+x)),.slice none 0 0,.int .i64 0] 122)).grownBy w8 (kv o).ownBlock:=⟨BS.os,BS.tape,BS.output,BS.size,BS.block⟩;obtain ⟨VV,Za⟩:=vK.out.store BR;obtain ⟨A8,kv8,yS,M0⟩:=vK.out.node (s.extract k (k+x)) gO.out bJ BR (fS.imp id fun e=>by rw [e];show _≤(World.alloc (World.alloc w3 _) _).heap.size;rw [World.size_alloc,World.size_alloc];exact Nat.le_succ (w3.heap.size+1))
         have V5:=aa (vK.out.leaf (by have:=vK.out.nk;omega) (k':=k+x) (f':=f') (by have:=jT.out;omega) M0 HRUN.out (by have:=vD.out;have:=jT.out;omega));clear bJ cD fS BS BR M0 yS;refine hK.out _ _ (fun _=>VV) (fun hS=>?_);(try simp only [Act.put,ay,az,aA]);replace hS:=hS ⟨17,by decide,rfl⟩;refine af.tk 15 hS ?_;(try simp only [Act.put,ay,az,aA]);refine af.tk 16 hS ?_;try simp only [Act.put,ay,az,aA]
         refine af.step (i:=17) rfl (by kernel_rfl) (fun K' hK=>?_);go_simp;refine hK.out _ _ (aM (by kernel_rfl)) (fun hS=>?_);refine af.done (by kernel_rfl) ?_;(have j7:(x:Int) - 1<(s.size:Int):=by omega);go_wp2_with fail
         go_roundw
         case rel=>exact ⟨k+x,true,by have:=tL.out;omega,by have:=jT.out;have:=tL.out;go_num,rfl,by have h:=V5.out;rw [MZ.out.1] at h;exact h⟩
         case measure=>have:=jT.out;have:=tL.out;simp [intOf];omega
  ·obtain rfl:k=s.size:=by omega
   obtain ⟨n,A,kv,F,o,os,Z,st,f,hM⟩:=hO.out;have hf:=hM.fuel;have hrun:=hM.run;have V6:s.data.toList.drop s.size=[]:=List.drop_eq_nil_of_le (by rw [Array.length_toList];exact Nat.le_refl _);obtain ⟨f',rfl⟩:∃f',f=f'+1:=⟨f - 1,by omega⟩;rw [V6,pz] at hrun;obtain ⟨q0,q1,q2,q3⟩:=boxed (bU.out wo hM.up).1;have HST:=aa (je (bU.out wo hM.up).2 (bU.out wo hM.up).1 hrun.symm);clear hM hO hf hrun V6 hlt hk;go_wp2_with fail;obtain ⟨s2,s3,hp⟩:=HST.out;exact ⟨rfl,.tuple #[.agg #[.slice none 0 0,.slice none 0 0],.int .i64 3],by simp [results,Tryz.results121,go_sem,s2,s3],hp⟩
end Go.Proofs.YthgabkgmkolobaaGreat
