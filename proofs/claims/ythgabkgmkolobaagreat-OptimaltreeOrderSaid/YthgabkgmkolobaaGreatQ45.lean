/- The contract of layer 31's reference's read. -/
import Derived.Test.YthgabkgmkolobaaGreatQ44
set_option maxRecDepth 100000
set_option maxHeartbeats 4000000
namespace Go.Proofs.YthgabkgmkolobaaGreat
open Go.RowKit Go.Deep
structure BC (w1:World) (base B:Nat) (wr:World) (kv:Value) (rs:List RT):Prop where
 uq:lJ base B wr ByteArray.empty kv rs
 up:Up w1 wr
 lo:w1.heap.size<=B
theorem BC.push {w1:World} {base B:Nat} {wr w2:World} {kv:Value} {rs:List RT} (h:BC w1 base B wr kv rs) {r:RT} {u:Value} (hu:Up wr w2) (hr:cK (fun b=>wr.heap.size<=b) w2 r u) :
  ∃vs:List Value,vs.length=rs.length/\ax (B+1) 210 w2 kv vs/\B+1<=w2.heap.size /\
   (∀W,w2.grownBy W kv.ownBlock->W.cell? ⟨B,1,none⟩=some kv/\W.frozen? ⟨B,1,none⟩=false) /\
   ∀g c W,ax (B+1) 210 W (.slice (some ⟨g,0,none⟩) (vs.length+1) c) (vs++[u])->w2.grownBy W kv.ownBlock->(kv.ownBlock=some g\/w2.heap.size<=g) ->
    BC w1 base B (W.setCell ⟨B,1,none⟩ (.slice (some ⟨g,0,none⟩) (vs.length+1) c)) (.slice (some ⟨g,0,none⟩) (vs.length+1) c) (rs++[r]):=by
 have hW:=h.uq.up hu;have hBl:=h.uq.lt;have hsz:=hu.size;obtain ⟨vs,ho,hv⟩:=hW.kids;obtain ⟨V5,Ab,_⟩:=h.uq.kids;have hkb:∀b,kv.ownBlock=some b->b<wr.heap.size/\B<b:=fun b hb=>⟨(aG Ab hb).2,by have:=(aG Ab hb).1;omega⟩;refine ⟨vs,aT.len rs hv,ho,by omega,fun W hg=>?_,fun g c W hown hg eZ=>?_⟩
 ·have hc:=hW.cells
  have N3:some B≠kv.ownBlock:=fun e=>by have:=(hkb B e.symm).2;omega
  refine ⟨?_,?_⟩
  ·rw [hg.cell_far (a:=⟨B,1,none⟩) (by show B<_;omega) N3];exact hc.2.1
  ·rw [hg.frozen_far (a:=⟨B,1,none⟩) (by show B<_;omega) N3];exact hc.2.2.2
 ·have LU:∀b,(Value.slice (some ⟨g,0,none⟩) (vs.length+1) c).ownBlock=some b->kv.ownBlock=some b\/w2.heap.size<=b:=fun b hb=>by
   injection hb with hb
   have hb:g=b:=hb
   subst hb
   exact eZ
  have hlo:=h.lo
  have hw:=h.uq.lo
  refine ⟨hW.push hr (by omega) hBl (fun b hb=>(hkb b hb).1) hv hown hg LU,?_,h.lo⟩
  have h1:=h.up.trans hu
  refine ⟨hg.os.trans h1.os,hg.tape.trans h1.tape,hg.output.trans h1.output,?_,fun b hb=>?_⟩
  ·have:=h1.size;have:=hg.size;simp only [ox];omega
  ·rw [blk_setCell_other _ _ _ _ (by omega:b≠B),hg.block b (mm hb h1.size) (fun e=>by have:=(hkb b e.symm).2;omega)]
   exact h1.block b hb
theorem BC.done {w1:World} {base B:Nat} {wr:World} {kv:Value} {rs:List RT} (h:BC w1 base B wr kv rs):cK (fun b=>base<=b) wr (.node ByteArray.empty rs) (.pointer (some ⟨B,0,none⟩)):=h.uq.done
def Jk (w:World) (s:ByteArray) (e:Ending) (w':World):Prop :=
 Up w w'/\match gZ s.data.toList with
  | none=>e=.returned (.tuple #[.pointer none,.string ⟨#[]⟩])
  | some (r,l)=>∃v,e=.returned (.tuple #[v,.string (bL l)])/\cK (fun b=>w.heap.size<=b) w' r v
theorem fR {w w':World} {s:ByteArray} {e:Ending} (h:gZ s.data.toList=none) (hu:Up w w') (he:e=.returned (.tuple #[.pointer none,.string ⟨#[]⟩])):Jk w s e w':=by
 refine ⟨hu,?_⟩;rw [h];exact he
theorem kA {w w':World} {s:ByteArray} {e:Ending} {r:RT} {l:List UInt8} {v:Value} (h:gZ s.data.toList=some (r,l)) (hu:Up w w') (he:e=.returned (.tuple #[v,.string (bL l)])) (hr:cK (fun b=>w.heap.size<=b) w' r v):Jk w s e w':=by
 refine ⟨hu,?_⟩;rw [h];exact ⟨v,he,hr⟩
theorem nM (s:ByteArray) (k:Nat):(s.extract k s.size).data.toList=s.data.toList.drop k:=by
 rw [wA];simp;exact zD (by simp)
theorem tM (s:ByteArray) (k:Nat):(s.extract 0 k).data.toList=s.data.toList.take k:=by
 rw [wA];simp
theorem wm (w:World) (nm:ByteArray):cK (fun b=>w.heap.size<=b) (w.alloc (.cells #[.string nm,.slice none 0 0] 254)).drew (.node nm []) (.pointer (some ⟨w.heap.size,0,none⟩)) :=
 cK.keep ((Up.drewN _ 1).kept _) _ (lJ.start w (ah _) nm).done
def lenOf:Value->Nat
 | .string u=>u.size
 | _=>0
theorem qy {c d:UInt8} {z:Int} (h:c≠d) (hz:z=d.toNat):¬(c.toNat:Int)=z:=fun e=>h (UInt8.toNat_inj.1 (by omega))
theorem tN {c d:UInt8} {z:Int} (h:c=d) (hz:z=d.toNat):(c.toNat:Int)=z:=by rw [h,hz]
theorem tO {s:List UInt8} {k:Nat} (h1:k<=s.length) (h2:∀j,(hj:j<k)->s[j]∉bT) (h3:k=s.length\/∃h:k<s.length,s[k]∈bT):gJ s=k:=by
 induction s generalizing k with
 | nil=>simp at h1;rw [h1];rfl
 | cons c s ih =>
  rw [gJ]
  cases k with
  | zero =>
   rcases h3 with h3 | ⟨h,h3⟩
   ·simp at h3
   ·rw [if_pos (by simpa using h3)]
  | succ k =>
   rw [if_neg (by simpa using h2 0 (by omega))]
   congr 1
   refine ih (by simpa using h1) (fun j hj=>by simpa using h2 (j+1) (by omega)) ?_
   rcases h3 with h3 | ⟨h,h3⟩
   ·exact .inl (by simpa using h3)
   ·exact .inr ⟨by simpa using h,by simpa using h3⟩
theorem YA {c:UInt8}:c∉bT↔c≠40/\c≠41/\c≠44/\c≠59:=by simp [bT]
theorem Ff:∀(n:Nat) (s:ByteArray),s.size=n->n<=1000->∀(w:World) (dp:Nat),dp+n<=60000->Calls Tryz.prog 204 #[.string s,.int .i64 dp] w (Jk w s):=by
 intro n
 induction n using Nat.strongRecOn with
 | ind n ih =>
 intro s hs hn w dp hdp;have hnil:=toList_nil s;by_cases h0:s.size=0
 ·have hl:s.data.toList=[]:=lu (by rw [size_data];exact h0)
  have e1:s.toList=[]:=hnil.2 h0;have HN:Hid (gZ s.data.toList=none):=by unfold Hid;rw [hl];rfl
  clear hl hnil ih hs hdp h0
  go_enter Tryz.func204,Tryz.ntmps204
  go_wp2_with fail;exact ⟨rfl,.tuple #[.pointer none,.string ⟨#[]⟩],by simp [results,Tryz.results204,go_sem],fR HN.out (Up.refl _) rfl⟩
 ·have hpos:0<s.size:=by omega
  have e1:(s.toList==[])=false:=by rw [oh];intro e;exact h0 (hnil.1 (by simpa using e))
  have d1:decide ((65536:Int)<(dp:Int))=false:=decide_eq_false (by omega);have jq:Hid (s.data.toList=s[0]::s.data.toList.drop 1):=by unfold Hid;(have:0<s.data.toList.length:=by rw [size_data];exact hpos);exact List.drop_eq_getElem_cons this
  have HS:=aa (And.intro hs (And.intro hn hdp));clear hnil h0 hs hn hdp;by_cases hc:s[0]=40
  ·have t40:(s[0].toNat:Int)=40:=tN hc rfl
   have gj:=aa hc;clear hc
   go_enter Tryz.func204,Tryz.ntmps204
   go_wp2_with fail;clear d1;have HST:Hid (BC w w.heap.size w.heap.size (w.alloc (.cells #[.string ⟨#[]⟩,.slice none 0 0] 254)) (.slice none 0 0) []):=⟨lJ.start w (ah _) _,Up.alloc w _,ah _⟩;(have CC:Hid (tL [] (s.data.toList.drop 1)=gZ s.data.toList):=by unfold Hid;rw [<- Jg];congr 1;have:=jq.out;rw [gj.out] at this;exact this.symm);clear t40 e1;generalize hw1:w.alloc (.cells #[.string ⟨#[]⟩,.slice none 0 0] 254)=w1 at *;clear hw1
   go_loopw [0,8,9] (fun sv _ _ wr=>∃(u:ByteArray) (ks:List RT) (kv:Value),sv=.string u/\0<u.size/\Hid (ks.length+u.size<=n/\tL ks (u.data.toList.drop 1)=gZ s.data.toList)/\Hid (BC w w.heap.size w.heap.size wr kv ks)) (fun sv _ _ _=>lenOf sv)
   case atStart=>exact ⟨s,[],_,rfl,hpos,⟨by have:=HS.out;rw [dz];omega,CC.out⟩,HST.out⟩
   case round =>
    obtain ⟨u,ks,kv,rfl,E0,bw,hI⟩:=hrel;obtain ⟨wo,rfl⟩:∃wo:World,wo=wr:=⟨_,rfl⟩;have b9:=aa bw.out;have HI:=aa hI.out;have iB:=aa (ih (u.size - 1) (by have:=b9.out.1;omega) (u.extract 1 u.size) (by rw [ByteArray.size_extract];omega) (by have:=HS.out;have:=b9.out.1;omega) wo (dp+1) (by have:=HS.out;have:=b9.out.1;omega));(have i1:(1:Int)<=(u.size:Int):=by omega);clear bw hI HST CC;(have hdp:wrap64 ((dp:Int)+1)=((dp+1:Nat):Int):=by have:=HS.out;have hk:=(show ((dp:Int)+1)=((dp+1:Nat):Int) by omega);rw [hk];unfold wrap64;omega);have HDP:=aa hdp
    have hcB:=HI.out.uq.cells;have TB:=aa (fun (w2:World) (r:RT) (v:Value) (h1:Up wo w2) (h2:cK (fun b=>wo.heap.size<=b) w2 r v)=>HI.out.push h1 h2);clear hdp hcB;go_wp2_with fail;rw [HDP.out];refine iB.out.mono ?_;rintro e w2 ⟨aJ,hm⟩;rw [nM u 1] at hm;have hK:=Jh ks (u.data.toList.drop 1);have bY:=aa (HI.out.up.trans aJ);clear iB ih;cases hr:gZ (u.data.toList.drop 1) with
    | none =>
     rw [hr] at hm hK;(have HN:Hid (gZ s.data.toList=none):=by unfold Hid;rw [<- b9.out.2,hK]);subst hm;clear hK hr aJ TB;go_wp2_with fail;exact ⟨rfl,.tuple #[.pointer none,.string ⟨#[]⟩],by simp [results,Tryz.results204,go_sem],fR HN.out bY.out rfl⟩
    | some q =>
     obtain ⟨r,l⟩:=q;rw [hr] at hm hK;obtain ⟨v2,rfl,hr2⟩:=hm;obtain ⟨b2,rfl⟩:=pY hr2;have hlen:=z7 _ _ _ _ hr;cases l with
     | nil =>
      (have HN:Hid (gZ s.data.toList=none):=by unfold Hid;rw [<- b9.out.2,hK]);have hb:(bL ([]:List UInt8)).toList=[]:=(toList_nil _).2 rfl;clear hK hr aJ hr2 hlen TB;generalize bL ([]:List UInt8)=ub at *;go_wp2_with fail;exact ⟨rfl,.tuple #[.pointer none,.string ⟨#[]⟩],by simp [results,Tryz.results204,go_sem],fR HN.out bY.out rfl⟩
     | cons c l2 =>
      rw [aO,gw,size_data] at hlen;obtain ⟨vs,hvl,ho,hsz,hcW,Cg⟩:=TB.out w2 r _ aJ hr2;obtain ⟨u2,DG⟩:∃u2,u2=bL (c::l2):=⟨_,rfl⟩;(have hz2:u2.size=l2.length+1:=by rw [DG,zZ];rfl);(have hp2:0<u2.size:=by omega);(have hc0:u2[0]=c:=by subst DG;rfl);(have NR:(u2.toList==[])=false:=by rw [oh];intro e;have:=(toList_nil u2).1 (by simpa using e);omega);have HEX:Hid (bL l2=u2.extract 1 u2.size):=fH (by rw [nM,DG];rfl);have Ta:Hid (u2.data.toList.drop 1=l2):=by unfold Hid;rw [DG];rfl
      (have HZ:Hid ((ks++[r]).length+u2.size<=n/\u2.size<u.size):=by unfold Hid;rw [bg,BH];have:=b9.out.1;omega);have hcells:=(HI.out.uq.up aJ).cells;obtain ⟨k0,k1,k2,k3⟩:=hcells;(have hvb:vs.length<=1000000:=by have:=b9.out.1;have:=HS.out;omega);have S0:=aa ho;have YB:=aa hsz;have YC:=aa hcW;have Pq:=aa Cg;have YD:=aa hvb;(have i2:(1:Int)<=(u2.size:Int):=by omega);rw [<- DG];have hK:tL ks (u.data.toList.drop 1)=if c=41 then some (.node ByteArray.empty (ks++[r]),l2) else if c=44 then tL (ks++[r]) l2 else none:=hK
      have HK:=aa hK;clear hK hr aJ hr2 hlen TB hvl ho hsz hcW Cg DG hz2 hvb k0 k2;by_cases pG:c=41
      ·have t41:(u2[0].toNat:Int)=41:=tN (by rw [hc0,pG]) rfl
       (have HN:Hid (gZ s.data.toList=some (.node ByteArray.empty (ks++[r]),l2)):=by unfold Hid;rw [<- b9.out.2,HK.out,if_pos pG]);clear pG hc0;go_wp2_with (at_builtin;refine jH w2 rfl _ _ 252 rfl (w.heap.size+1) 210 (.pointer none) 8 Tryz.underlying252 Tryz.qJ rfl (by decide) S0.out rfl (.pointer (some ⟨b2,0,none⟩)) rfl rfl vs.length rfl YD.out YB.out ?_;intro g cap W hown hg eZ;obtain ⟨hcB,hfB⟩:=YC.out W hg;have hN:=aa (Pq.out g cap W hown hg eZ);clear hown hg eZ)
       go_region
       go_wp2_with fail;exact ⟨rfl,.tuple #[.pointer (some ⟨w.heap.size,0,none⟩),.string (u2.extract 1 u2.size)],by simp [results,Tryz.results204,go_sem],kA HN.out (hN.out.up.trans (Up.drewN _ 1)) (by rw [HEX.out]) (cK.keep ((Up.drewN _ 1).kept _) _ hN.out.done)⟩
      ·by_cases tP:c=44
       ·have t44:(u2[0].toNat:Int)=44:=tN (by rw [hc0,tP]) rfl
        (have HN:Hid (tL (ks++[r]) (u2.data.toList.drop 1)=gZ s.data.toList):=by unfold Hid;rw [<- b9.out.2,HK.out,if_neg pG,if_pos tP,Ta.out]);clear pG tP hc0;go_wp2_with (at_builtin;refine jH w2 rfl _ _ 252 rfl (w.heap.size+1) 210 (.pointer none) 8 Tryz.underlying252 Tryz.qJ rfl (by decide) S0.out rfl (.pointer (some ⟨b2,0,none⟩)) rfl rfl vs.length rfl YD.out YB.out ?_;intro g cap W hown hg eZ;obtain ⟨hcB,hfB⟩:=YC.out W hg;have hN:=aa (Pq.out g cap W hown hg eZ);clear hown hg eZ)
        go_roundw
        case rel=>exact ⟨u2,ks++[r],_,rfl,hp2,⟨HZ.out.1,HN.out⟩,hN.out⟩
        case measure=>have:=HZ.out.2;simp [lenOf];omega
       ·have t41:¬(u2[0].toNat:Int)=41:=qy (by rw [hc0];exact pG) rfl
        have t44:¬(u2[0].toNat:Int)=44:=qy (by rw [hc0];exact tP) rfl;(have HN:Hid (gZ s.data.toList=none):=by unfold Hid;rw [<- b9.out.2,HK.out,if_neg pG,if_neg tP]);clear pG tP hc0;go_wp2_with (at_builtin;refine jH w2 rfl _ _ 252 rfl (w.heap.size+1) 210 (.pointer none) 8 Tryz.underlying252 Tryz.qJ rfl (by decide) S0.out rfl (.pointer (some ⟨b2,0,none⟩)) rfl rfl vs.length rfl YD.out YB.out ?_;intro g cap W hown hg eZ;obtain ⟨hcB,hfB⟩:=YC.out W hg;have hN:=aa (Pq.out g cap W hown hg eZ);clear hown hg eZ)
        exact ⟨rfl,.tuple #[.pointer none,.string ⟨#[]⟩],by simp [results,Tryz.results204,go_sem],fR HN.out hN.out.up rfl⟩
  ·have t40:¬(s[0].toNat:Int)=40:=qy hc rfl
   have gj:=aa hc;clear hc ih
   go_enter Tryz.func204,Tryz.ntmps204
   go_wp2_with fail;clear t40 d1
   go_loop [6] (fun i=>∃k:Nat,k<=s.size/\i=.int .i64 k/\Hid (∀j,(hj:j<k)->∀hl:j<s.data.toList.length,s.data.toList[j]∉bT)) (fun i=>s.size - (intOf i).toNat)
   case atStart=>exact ⟨0,aI _,rfl,fun j hj=>by omega⟩
   case round =>
    obtain ⟨k,hk,rfl,hno⟩:=hrel;by_cases hlt:k<s.size
    ·have x8:=aa hno.out
     have bG:=aa hlt;(have i1:(0:Int)<=(k:Int):=by omega);(have i2:(k:Int)<(s.size:Int):=by omega);have fT:=hk;clear hno hk;by_cases AJ:s[k]=40
     ·have t40:(s[k].toNat:Int)=40:=tN AJ rfl
      have ji:Hid (k=s.data.toList.length\/∃h:k<s.data.toList.length,s.data.toList[k]∈bT):=.inr ⟨by rw [size_data];exact hlt,by show s[k]∈bT;rw [AJ];decide⟩;clear AJ;have fQ:Hid (gJ s.data.toList=k):=tO (by rw [size_data];omega) (fun j hj=>x8.out j hj (by rw [size_data];omega)) ji.out;clear x8 ji;by_cases k0:k=0
      ·have HN:Hid (gZ s.data.toList=none):=by unfold Hid;rw [jq.out,jc _ gj.out,<- jq.out,fQ.out,if_pos k0]
       have k1:((k:Int)==0)=true:=beq_iff_eq.2 (by omega);clear k0;go_wp2_with fail;exact ⟨rfl,.tuple #[.pointer none,.string ⟨#[]⟩],by simp [results,Tryz.results204,go_sem],fR HN.out (Up.refl _) rfl⟩
      ·have HN:Hid (gZ s.data.toList=some (.node (s.extract 0 k) [],s.data.toList.drop k)):=by
        unfold Hid
        have e:(⟨(s.data.toList.take k).toArray⟩:ByteArray)=s.extract 0 k:=fH (by rw [tM])
        rw [jq.out,jc _ gj.out,<- jq.out,fQ.out,if_neg k0,e]
       have HE:Hid (bL (s.data.toList.drop k)=s.extract k s.size):=fH (by rw [nM];rfl)
       have k1:((k:Int)==0)=false:=beq_eq_false_iff_ne.2 (by omega)
       have i4:(k:Int)<=(s.size:Int):=by omega
       clear k0
       go_wp2_with fail
       go_region
       go_wp2_with fail
       exact ⟨rfl,.tuple #[.pointer (some ⟨w.heap.size,0,none⟩),.string (s.extract k s.size)],by simp [results,Tryz.results204,go_sem],kA HN.out ((Up.alloc w _).trans (Up.drewN _ 1)) (by rw [HE.out]) (wm w _)⟩
     ·skip
      by_cases pG:s[k]=41
      ·have t41:(s[k].toNat:Int)=41:=tN pG rfl
       have ji:Hid (k=s.data.toList.length\/∃h:k<s.data.toList.length,s.data.toList[k]∈bT):=.inr ⟨by rw [size_data];exact hlt,by show s[k]∈bT;rw [pG];decide⟩;clear AJ pG;have fQ:Hid (gJ s.data.toList=k):=tO (by rw [size_data];omega) (fun j hj=>x8.out j hj (by rw [size_data];omega)) ji.out;clear x8 ji;by_cases k0:k=0
       ·have HN:Hid (gZ s.data.toList=none):=by unfold Hid;rw [jq.out,jc _ gj.out,<- jq.out,fQ.out,if_pos k0]
        have k1:((k:Int)==0)=true:=beq_iff_eq.2 (by omega);clear k0;go_wp2_with fail;exact ⟨rfl,.tuple #[.pointer none,.string ⟨#[]⟩],by simp [results,Tryz.results204,go_sem],fR HN.out (Up.refl _) rfl⟩
       ·have HN:Hid (gZ s.data.toList=some (.node (s.extract 0 k) [],s.data.toList.drop k)):=by
         unfold Hid
         have e:(⟨(s.data.toList.take k).toArray⟩:ByteArray)=s.extract 0 k:=fH (by rw [tM])
         rw [jq.out,jc _ gj.out,<- jq.out,fQ.out,if_neg k0,e]
        have HE:Hid (bL (s.data.toList.drop k)=s.extract k s.size):=fH (by rw [nM];rfl)
        have k1:((k:Int)==0)=false:=beq_eq_false_iff_ne.2 (by omega)
        have i4:(k:Int)<=(s.size:Int):=by omega
        clear k0
        go_wp2_with fail
        go_region
        go_wp2_with fail
        exact ⟨rfl,.tuple #[.pointer (some ⟨w.heap.size,0,none⟩),.string (s.extract k s.size)],by simp [results,Tryz.results204,go_sem],kA HN.out ((Up.alloc w _).trans (Up.drewN _ 1)) (by rw [HE.out]) (wm w _)⟩
      ·skip
       by_cases tP:s[k]=44
       ·have t44:(s[k].toNat:Int)=44:=tN tP rfl
        have ji:Hid (k=s.data.toList.length\/∃h:k<s.data.toList.length,s.data.toList[k]∈bT):=.inr ⟨by rw [size_data];exact hlt,by show s[k]∈bT;rw [tP];decide⟩;clear AJ pG tP;have fQ:Hid (gJ s.data.toList=k):=tO (by rw [size_data];omega) (fun j hj=>x8.out j hj (by rw [size_data];omega)) ji.out;clear x8 ji;by_cases k0:k=0
        ·have HN:Hid (gZ s.data.toList=none):=by unfold Hid;rw [jq.out,jc _ gj.out,<- jq.out,fQ.out,if_pos k0]
         have k1:((k:Int)==0)=true:=beq_iff_eq.2 (by omega);clear k0;go_wp2_with fail;exact ⟨rfl,.tuple #[.pointer none,.string ⟨#[]⟩],by simp [results,Tryz.results204,go_sem],fR HN.out (Up.refl _) rfl⟩
        ·have HN:Hid (gZ s.data.toList=some (.node (s.extract 0 k) [],s.data.toList.drop k)):=by
          unfold Hid
          have e:(⟨(s.data.toList.take k).toArray⟩:ByteArray)=s.extract 0 k:=fH (by rw [tM])
          rw [jq.out,jc _ gj.out,<- jq.out,fQ.out,if_neg k0,e]
         have HE:Hid (bL (s.data.toList.drop k)=s.extract k s.size):=fH (by rw [nM];rfl)
         have k1:((k:Int)==0)=false:=beq_eq_false_iff_ne.2 (by omega)
         have i4:(k:Int)<=(s.size:Int):=by omega
         clear k0
         go_wp2_with fail
         go_region
         go_wp2_with fail
         exact ⟨rfl,.tuple #[.pointer (some ⟨w.heap.size,0,none⟩),.string (s.extract k s.size)],by simp [results,Tryz.results204,go_sem],kA HN.out ((Up.alloc w _).trans (Up.drewN _ 1)) (by rw [HE.out]) (wm w _)⟩
       ·skip
        by_cases Lc:s[k]=59
        ·have t40:¬(s[k].toNat:Int)=40:=qy AJ rfl
         have b40:((s[k].toNat:Int) != 40)=true:=bne_iff_ne.2 t40;have t41:¬(s[k].toNat:Int)=41:=qy pG rfl;have b41:((s[k].toNat:Int) != 41)=true:=bne_iff_ne.2 t41;have t44:¬(s[k].toNat:Int)=44:=qy tP rfl;have b44:((s[k].toNat:Int) != 44)=true:=bne_iff_ne.2 t44;(have TC:((s[k].toNat:Int) != 59)=false:=by rw [bne_eq_false_iff_eq];exact tN Lc rfl);have ji:Hid (k=s.data.toList.length\/∃h:k<s.data.toList.length,s.data.toList[k]∈bT):=.inr ⟨by rw [size_data];exact hlt,by show s[k]∈bT;rw [Lc];decide⟩;clear AJ pG tP Lc
         have fQ:Hid (gJ s.data.toList=k):=tO (by rw [size_data];omega) (fun j hj=>x8.out j hj (by rw [size_data];omega)) ji.out;clear x8 ji;by_cases k0:k=0
         ·have HN:Hid (gZ s.data.toList=none):=by unfold Hid;rw [jq.out,jc _ gj.out,<- jq.out,fQ.out,if_pos k0]
          have k1:((k:Int)==0)=true:=beq_iff_eq.2 (by omega);clear k0;go_wp2_with fail
          all_goals first | (exfalso;have hj:=‹((((s[k].toNat:Int) != 40)=true/\((s[k].toNat:Int) != 41)=true)/\((s[k].toNat:Int) != 44)=true)/\((s[k].toNat:Int) != 59)=true›.2;rw [TC] at hj;cases hj;done) | skip
          exact ⟨rfl,.tuple #[.pointer none,.string ⟨#[]⟩],by simp [results,Tryz.results204,go_sem],fR HN.out (Up.refl _) rfl⟩
         ·have HN:Hid (gZ s.data.toList=some (.node (s.extract 0 k) [],s.data.toList.drop k)):=by
           unfold Hid
           have e:(⟨(s.data.toList.take k).toArray⟩:ByteArray)=s.extract 0 k:=fH (by rw [tM])
           rw [jq.out,jc _ gj.out,<- jq.out,fQ.out,if_neg k0,e]
          have HE:Hid (bL (s.data.toList.drop k)=s.extract k s.size):=fH (by rw [nM];rfl)
          have k1:((k:Int)==0)=false:=beq_eq_false_iff_ne.2 (by omega)
          have i4:(k:Int)<=(s.size:Int):=by omega
          clear k0
          go_wp2_with fail
          all_goals first | (exfalso;have hj:=‹((((s[k].toNat:Int) != 40)=true/\((s[k].toNat:Int) != 41)=true)/\((s[k].toNat:Int) != 44)=true)/\((s[k].toNat:Int) != 59)=true›.2;rw [TC] at hj;cases hj;done) | skip
          go_region
          go_wp2_with fail
          exact ⟨rfl,.tuple #[.pointer (some ⟨w.heap.size,0,none⟩),.string (s.extract k s.size)],by simp [results,Tryz.results204,go_sem],kA HN.out ((Up.alloc w _).trans (Up.drewN _ 1)) (by rw [HE.out]) (wm w _)⟩
        ·skip
         have t40:¬(s[k].toNat:Int)=40:=qy AJ rfl;have b40:((s[k].toNat:Int) != 40)=true:=bne_iff_ne.2 t40;have t41:¬(s[k].toNat:Int)=41:=qy pG rfl;have b41:((s[k].toNat:Int) != 41)=true:=bne_iff_ne.2 t41;have t44:¬(s[k].toNat:Int)=44:=qy tP rfl;have b44:((s[k].toNat:Int) != 44)=true:=bne_iff_ne.2 t44;have t59:¬(s[k].toNat:Int)=59:=qy Lc rfl;have TC:((s[k].toNat:Int) != 59)=true:=bne_iff_ne.2 t59;have rD:Hid (s[k]∉bT):=YA.2 ⟨AJ,pG,tP,Lc⟩;(have i3:(k:Int)<1001:=by have:=HS.out;omega);clear AJ pG tP Lc;go_wp2_with fail
         all_goals first | (exfalso;have hj:=‹((((s[k].toNat:Int) != 40)=false\/((s[k].toNat:Int) != 41)=false)\/((s[k].toNat:Int) != 44)=false)\/((s[k].toNat:Int) != 59)=false›;rw [b40,b41,b44,TC] at hj;simp at hj;done) | skip
         go_round
         case rel=>exact ⟨k+1,bG.out,by go_num,fun j hj hl=>by
          by_cases e:j=k
          ·subst e;exact rD.out
          ·exact x8.out j (by omega) hl⟩
         case measure=>have:=bG.out;simp [intOf];omega
    ·skip
     have x8:=aa hno.out;have ji:Hid (k=s.data.toList.length\/∃h:k<s.data.toList.length,s.data.toList[k]∈bT):=.inl (by rw [size_data];omega);(have hkn:¬(k:Int)<(s.size:Int):=by omega);have Wu:decide ((k:Int)<(s.size:Int))=false:=decide_eq_false hkn;have fT:k<=s.size:=hk;clear hno hk hlt;have fQ:Hid (gJ s.data.toList=k):=tO (by rw [size_data];omega) (fun j hj=>x8.out j hj (by rw [size_data];omega)) ji.out;clear x8 ji;by_cases k0:k=0
     ·have HN:Hid (gZ s.data.toList=none):=by unfold Hid;rw [jq.out,jc _ gj.out,<- jq.out,fQ.out,if_pos k0]
      have k1:((k:Int)==0)=true:=beq_iff_eq.2 (by omega);clear k0;go_wp2_with fail;exact ⟨rfl,.tuple #[.pointer none,.string ⟨#[]⟩],by simp [results,Tryz.results204,go_sem],fR HN.out (Up.refl _) rfl⟩
     ·have HN:Hid (gZ s.data.toList=some (.node (s.extract 0 k) [],s.data.toList.drop k)):=by
       unfold Hid
       have e:(⟨(s.data.toList.take k).toArray⟩:ByteArray)=s.extract 0 k:=fH (by rw [tM])
       rw [jq.out,jc _ gj.out,<- jq.out,fQ.out,if_neg k0,e]
      have HE:Hid (bL (s.data.toList.drop k)=s.extract k s.size):=fH (by rw [nM];rfl)
      have k1:((k:Int)==0)=false:=beq_eq_false_iff_ne.2 (by omega)
      have i4:(k:Int)<=(s.size:Int):=by omega
      clear k0
      go_wp2_with fail
      go_region
      go_wp2_with fail
      exact ⟨rfl,.tuple #[.pointer (some ⟨w.heap.size,0,none⟩),.string (s.extract k s.size)],by simp [results,Tryz.results204,go_sem],kA HN.out ((Up.alloc w _).trans (Up.drewN _ 1)) (by rw [HE.out]) (wm w _)⟩
end Go.Proofs.YthgabkgmkolobaaGreat
