/- The contract of layer 31's reference's read. -/
import Derived.Test.YthgabkgmkolobaaGreatQ33
set_option maxRecDepth 100000
namespace Go.Proofs.YthgabkgmkolobaaGreat
open Go.RowKit Go.Deep
structure zA (w1:World) (base B:Nat) (wr:World) (kv:Value) (rs:List RT):Prop where
 rY:jS base B wr ByteArray.empty kv rs
 up:Up w1 wr
 lo:w1.heap.size≤B
theorem zA.push {w1:World} {base B:Nat} {wr w2:World} {kv:Value} {rs:List RT} (h:zA w1 base B wr kv rs) {r:RT} {u:Value} (hu:Up wr w2) (hr:RAt (fun b=>wr.heap.size≤b) w2 r u) :
  ∃vs:List Value,vs.length=rs.length∧aF (B+1) 210 w2 kv vs∧B+1≤w2.heap.size ∧
   (∀W,w2.grownBy W kv.ownBlock→W.cell? ⟨B,1,none⟩=some kv∧W.frozen? ⟨B,1,none⟩=false) ∧
   ∀g c W,aF (B+1) 210 W (.slice (some ⟨g,0,none⟩) (vs.length+1) c) (vs++[u])→w2.grownBy W kv.ownBlock→(kv.ownBlock=some g∨w2.heap.size≤g) →
    zA w1 base B (W.setCell ⟨B,1,none⟩ (.slice (some ⟨g,0,none⟩) (vs.length+1) c)) (.slice (some ⟨g,0,none⟩) (vs.length+1) c) (rs++[r]):=by
 have hW:=h.rY.up hu;have hBl:=h.rY.lt;have hsz:=hu.size;obtain ⟨vs,ho,hv⟩:=hW.kids;obtain ⟨Vd,yq,_⟩:=h.rY.kids;have hkb:∀b,kv.ownBlock=some b→b<wr.heap.size∧B<b:=fun b hb=>⟨(aI yq hb).2,by have:=(aI yq hb).1;omega⟩;refine ⟨vs,RsAt.len rs hv,ho,by omega,fun W hg=>?_,fun g c W hown hg dY=>?_⟩
 ·have hc:=hW.cells
  have Mx:some B≠kv.ownBlock:=fun e=>by have:=(hkb B e.symm).2;omega
  refine ⟨?_,?_⟩
  ·rw [hg.cell_far (a:=⟨B,1,none⟩) (by show B<_;omega) Mx];exact hc.2.1
  ·rw [hg.frozen_far (a:=⟨B,1,none⟩) (by show B<_;omega) Mx];exact hc.2.2.2
 ·have Kg:∀b,(Value.slice (some ⟨g,0,none⟩) (vs.length+1) c).ownBlock=some b→kv.ownBlock=some b∨w2.heap.size≤b:=fun b hb=>by
   injection hb with hb
   have hb:g=b:=hb
   subst hb
   exact dY
  have hlo:=h.lo
  have hw:=h.rY.lo
  refine ⟨hW.push hr (by omega) hBl (fun b hb=>(hkb b hb).1) hv hown hg Kg,?_,h.lo⟩
  have h1:=h.up.trans hu
  refine ⟨hg.os.trans h1.os,hg.tape.trans h1.tape,hg.output.trans h1.output,?_,fun b hb=>?_⟩
  ·have:=h1.size;have:=hg.size;simp only [World.size_setCell];omega
  ·rw [blk_setCell_other _ _ _ _ (by omega:b≠B),hg.block b (Nat.lt_of_lt_of_le hb h1.size) (fun e=>by have:=(hkb b e.symm).2;omega)]
   exact h1.block b hb
theorem zA.done {w1:World} {base B:Nat} {wr:World} {kv:Value} {rs:List RT} (h:zA w1 base B wr kv rs):RAt (fun b=>base≤b) wr (.node ByteArray.empty rs) (.pointer (some ⟨B,0,none⟩)):=h.rY.done
def FY (w:World) (s:ByteArray) (e:Ending) (w':World):Prop :=
 Up w w'∧match fQ s.data.toList with
  | none=>e=.returned (.tuple #[.pointer none,.string ⟨#[]⟩])
  | some (r,l)=>∃v,e=.returned (.tuple #[v,.string (bL l)])∧RAt (fun b=>w.heap.size≤b) w' r v
theorem eR {w w':World} {s:ByteArray} {e:Ending} (h:fQ s.data.toList=none) (hu:Up w w') (he:e=.returned (.tuple #[.pointer none,.string ⟨#[]⟩])):FY w s e w':=by
 refine ⟨hu,?_⟩;rw [h];exact he
theorem jb {w w':World} {s:ByteArray} {e:Ending} {r:RT} {l:List UInt8} {v:Value} (h:fQ s.data.toList=some (r,l)) (hu:Up w w') (he:e=.returned (.tuple #[v,.string (bL l)])) (hr:RAt (fun b=>w.heap.size≤b) w' r v):FY w s e w':=by
 refine ⟨hu,?_⟩;rw [h];exact ⟨v,he,hr⟩
theorem lX (s:ByteArray) (k:Nat):(s.extract k s.size).data.toList=s.data.toList.drop k:=by
 rw [ByteArray.data_extract];simp;exact List.take_of_length_le (by simp)
theorem ry (s:ByteArray) (k:Nat):(s.extract 0 k).data.toList=s.data.toList.take k:=by
 rw [ByteArray.data_extract];simp
theorem tN (w:World) (nm:ByteArray):RAt (fun b=>w.heap.size≤b) (w.alloc (.cells #[.string nm,.slice none 0 0] 254)).drew (.node nm []) (.pointer (some ⟨w.heap.size,0,none⟩)) :=
 RAt.keep ((Up.drewN _ 1).kept _) _ (jS.start w (Nat.le_refl _) nm).done
def lenOf:Value→Nat
 | .string u=>u.size
 | _=>0
theorem ou {c d:UInt8} {z:Int} (h:c≠d) (hz:z=d.toNat):¬(c.toNat:Int)=z:=fun e=>h (UInt8.toNat_inj.1 (by omega))
theorem rz {c d:UInt8} {z:Int} (h:c=d) (hz:z=d.toNat):(c.toNat:Int)=z:=by rw [h,hz]
theorem rA {s:List UInt8} {k:Nat} (h1:k≤s.length) (h2:∀j,(hj:j<k)→s[j]∉bF) (h3:k=s.length∨∃h:k<s.length,s[k]∈bF):nmLen s=k:=by
 induction s generalizing k with
 | nil=>simp at h1;rw [h1];rfl
 | cons c s ih =>
  rw [nmLen]
  cases k with
  | zero =>
   rcases h3 with h3 | ⟨h,h3⟩
   ·simp at h3
   ·rw [if_pos (by simpa using h3)]
  | succ k =>
   rw [if_neg (by simpa using h2 0 (by omega))]
   congr 1
   refine ih (by simpa using h1) (fun j hj=>by simpa using h2 (j+1) (by omega)) ?_
   rcases h3 with h3 | ⟨h,h3⟩
   ·exact .inl (by simpa using h3)
   ·exact .inr ⟨by simpa using h,by simpa using h3⟩
theorem VI {c:UInt8}:c∉bF↔c≠40∧c≠41∧c≠44∧c≠59:=by simp [bF]
set_option maxHeartbeats 4000000 in
theorem Dn:∀(n:Nat) (s:ByteArray),s.size=n→n≤1000→∀(w:World) (dp:Nat),dp+n≤60000→Calls Tryz.prog 204 #[.string s,.int .i64 dp] w (FY w s):=by
 intro n
 induction n using Nat.strongRecOn with
 | ind n ih =>
 intro s hs hn w dp hdp;have hnil:=toList_nil s;by_cases h0:s.size=0
 ·have hl:s.data.toList=[]:=List.eq_nil_of_length_eq_zero (by rw [size_data];exact h0)
  have e1:s.toList=[]:=hnil.2 h0;have HN:Hid (fQ s.data.toList=none):=by unfold Hid;rw [hl];rfl
  clear hl hnil ih hs hdp h0
  go_enter Tryz.func204,Tryz.ntmps204
  go_wp2_with fail;exact ⟨rfl,.tuple #[.pointer none,.string ⟨#[]⟩],by simp [results,Tryz.results204,go_sem],eR HN.out (Up.refl _) rfl⟩
 ·have hpos:0<s.size:=by omega
  have e1:(s.toList==[])=false:=by rw [Bool.eq_false_iff];intro e;exact h0 (hnil.1 (by simpa using e))
  have d1:decide ((65536:Int)<(dp:Int))=false:=decide_eq_false (by omega);have ir:Hid (s.data.toList=s[0]::s.data.toList.drop 1):=by unfold Hid;(have:0<s.data.toList.length:=by rw [size_data];exact hpos);exact List.drop_eq_getElem_cons this
  have HS:=aa (And.intro hs (And.intro hn hdp));clear hnil h0 hs hn hdp;by_cases hc:s[0]=40
  ·have t40:(s[0].toNat:Int)=40:=rz hc rfl
   have eN:=aa hc;clear hc
   go_enter Tryz.func204,Tryz.ntmps204
   go_wp2_with fail;clear d1;have HST:Hid (zA w w.heap.size w.heap.size (w.alloc (.cells #[.string ⟨#[]⟩,.slice none 0 0] 254)) (.slice none 0 0) []):=⟨jS.start w (Nat.le_refl _) _,Up.alloc w _,Nat.le_refl _⟩;(have Ad:Hid (ru [] (s.data.toList.drop 1)=fQ s.data.toList):=by unfold Hid;rw [← FR];congr 1;have:=ir.out;rw [eN.out] at this;exact this.symm);clear t40 e1;generalize hw1:w.alloc (.cells #[.string ⟨#[]⟩,.slice none 0 0] 254)=w1 at *;clear hw1
   go_loopw [0,8,9] (fun sv _ _ wr=>∃(u:ByteArray) (ks:List RT) (kv:Value),sv=.string u∧0<u.size∧Hid (ks.length+u.size≤n∧ru ks (u.data.toList.drop 1)=fQ s.data.toList)∧Hid (zA w w.heap.size w.heap.size wr kv ks)) (fun sv _ _ _=>lenOf sv)
   case atStart=>exact ⟨s,[],_,rfl,hpos,⟨by have:=HS.out;rw [List.length_nil];omega,Ad.out⟩,HST.out⟩
   case round =>
    obtain ⟨u,ks,kv,rfl,kT,aO,hI⟩:=hrel;obtain ⟨wo,rfl⟩:∃wo:World,wo=wr:=⟨_,rfl⟩;have bH:=aa aO.out;have HI:=aa hI.out;have fV:=aa (ih (u.size - 1) (by have:=bH.out.1;omega) (u.extract 1 u.size) (by rw [ByteArray.size_extract];omega) (by have:=HS.out;have:=bH.out.1;omega) wo (dp+1) (by have:=HS.out;have:=bH.out.1;omega));(have i1:(1:Int)≤(u.size:Int):=by omega);clear aO hI HST Ad;(have hdp:wrap64 ((dp:Int)+1)=((dp+1:Nat):Int):=by have:=HS.out;have hk:=(show ((dp:Int)+1)=((dp+1:Nat):Int) by omega);rw [hk];unfold wrap64;omega);have HDP:=aa hdp
    have hcB:=HI.out.rY.cells;have RI:=aa (fun (w2:World) (r:RT) (v:Value) (h1:Up wo w2) (h2:RAt (fun b=>wo.heap.size≤b) w2 r v)=>HI.out.push h1 h2);clear hdp hcB;go_wp2_with fail;rw [HDP.out];refine fV.out.mono ?_;rintro e w2 ⟨aG,hm⟩;rw [lX u 1] at hm;have hK:=FT ks (u.data.toList.drop 1);have aP:=aa (HI.out.up.trans aG);clear fV ih;cases hr:fQ (u.data.toList.drop 1) with
    | none =>
     rw [hr] at hm hK;(have HN:Hid (fQ s.data.toList=none):=by unfold Hid;rw [← bH.out.2,hK]);subst hm;clear hK hr aG RI;go_wp2_with fail;exact ⟨rfl,.tuple #[.pointer none,.string ⟨#[]⟩],by simp [results,Tryz.results204,go_sem],eR HN.out aP.out rfl⟩
    | some q =>
     obtain ⟨r,l⟩:=q;rw [hr] at hm hK;obtain ⟨v2,rfl,hr2⟩:=hm;obtain ⟨b2,rfl⟩:=nT hr2;have hlen:=x8 _ _ _ _ hr;cases l with
     | nil =>
      (have HN:Hid (fQ s.data.toList=none):=by unfold Hid;rw [← bH.out.2,hK]);have hb:(bL ([]:List UInt8)).toList=[]:=(toList_nil _).2 rfl;clear hK hr aG hr2 hlen RI;generalize bL ([]:List UInt8)=ub at *;go_wp2_with fail;exact ⟨rfl,.tuple #[.pointer none,.string ⟨#[]⟩],by simp [results,Tryz.results204,go_sem],eR HN.out aP.out rfl⟩
     | cons c l2 =>
      rw [List.length_cons,List.length_drop,size_data] at hlen;obtain ⟨vs,hvl,ho,hsz,Y4,Aw⟩:=RI.out w2 r _ aG hr2;obtain ⟨u2,BN⟩:∃u2,u2=bL (c::l2):=⟨_,rfl⟩;(have hz2:u2.size=l2.length+1:=by rw [BN,x7];rfl);(have hp2:0<u2.size:=by omega);(have hc0:u2[0]=c:=by subst BN;rfl);(have CS:(u2.toList==[])=false:=by rw [Bool.eq_false_iff];intro e;have:=(toList_nil u2).1 (by simpa using e);omega);have Ez:Hid (bL l2=u2.extract 1 u2.size):=eD (by rw [lX,BN];rfl);have RJ:Hid (u2.data.toList.drop 1=l2):=by unfold Hid;rw [BN];rfl
      (have HZ:Hid ((ks++[r]).length+u2.size≤n∧u2.size<u.size):=by unfold Hid;rw [List.length_append,List.length_singleton];have:=bH.out.1;omega);have hcells:=(HI.out.rY.up aG).cells;obtain ⟨k0,k1,k2,k3⟩:=hcells;(have hvb:vs.length≤1000000:=by have:=bH.out.1;have:=HS.out;omega);have RB:=aa ho;have VJ:=aa hsz;have VK:=aa Y4;have MW:=aa Aw;have VL:=aa hvb;(have i2:(1:Int)≤(u2.size:Int):=by omega);rw [← BN];have hK:ru ks (u.data.toList.drop 1)=if c=41 then some (.node ByteArray.empty (ks++[r]),l2) else if c=44 then ru (ks++[r]) l2 else none:=hK
      have HK:=aa hK;clear hK hr aG hr2 hlen RI hvl ho hsz Y4 Aw BN hz2 hvb k0 k2;by_cases nA:c=41
      ·have t41:(u2[0].toNat:Int)=41:=rz (by rw [hc0,nA]) rfl
       (have HN:Hid (fQ s.data.toList=some (.node ByteArray.empty (ks++[r]),l2)):=by unfold Hid;rw [← bH.out.2,HK.out,if_pos nA]);clear nA hc0;go_wp2_with (at_builtin;refine iF w2 rfl _ _ 252 rfl (w.heap.size+1) 210 (.pointer none) 8 Tryz.underlying252 Tryz.oK rfl (by decide) RB.out rfl (.pointer (some ⟨b2,0,none⟩)) rfl rfl vs.length rfl VL.out VJ.out ?_;intro g cap W hown hg dY;obtain ⟨hcB,Y5⟩:=VK.out W hg;have hN:=aa (MW.out g cap W hown hg dY);clear hown hg dY)
       go_region
       go_wp2_with fail;exact ⟨rfl,.tuple #[.pointer (some ⟨w.heap.size,0,none⟩),.string (u2.extract 1 u2.size)],by simp [results,Tryz.results204,go_sem],jb HN.out (hN.out.up.trans (Up.drewN _ 1)) (by rw [Ez.out]) (RAt.keep ((Up.drewN _ 1).kept _) _ hN.out.done)⟩
      ·by_cases rB:c=44
       ·have t44:(u2[0].toNat:Int)=44:=rz (by rw [hc0,rB]) rfl
        (have HN:Hid (ru (ks++[r]) (u2.data.toList.drop 1)=fQ s.data.toList):=by unfold Hid;rw [← bH.out.2,HK.out,if_neg nA,if_pos rB,RJ.out]);clear nA rB hc0;go_wp2_with (at_builtin;refine iF w2 rfl _ _ 252 rfl (w.heap.size+1) 210 (.pointer none) 8 Tryz.underlying252 Tryz.oK rfl (by decide) RB.out rfl (.pointer (some ⟨b2,0,none⟩)) rfl rfl vs.length rfl VL.out VJ.out ?_;intro g cap W hown hg dY;obtain ⟨hcB,Y5⟩:=VK.out W hg;have hN:=aa (MW.out g cap W hown hg dY);clear hown hg dY)
        go_roundw
        case rel=>exact ⟨u2,ks++[r],_,rfl,hp2,⟨HZ.out.1,HN.out⟩,hN.out⟩
        case measure=>have:=HZ.out.2;simp [lenOf];omega
       ·have t41:¬(u2[0].toNat:Int)=41:=ou (by rw [hc0];exact nA) rfl
        have t44:¬(u2[0].toNat:Int)=44:=ou (by rw [hc0];exact rB) rfl;(have HN:Hid (fQ s.data.toList=none):=by unfold Hid;rw [← bH.out.2,HK.out,if_neg nA,if_neg rB]);clear nA rB hc0;go_wp2_with (at_builtin;refine iF w2 rfl _ _ 252 rfl (w.heap.size+1) 210 (.pointer none) 8 Tryz.underlying252 Tryz.oK rfl (by decide) RB.out rfl (.pointer (some ⟨b2,0,none⟩)) rfl rfl vs.length rfl VL.out VJ.out ?_;intro g cap W hown hg dY;obtain ⟨hcB,Y5⟩:=VK.out W hg;have hN:=aa (MW.out g cap W hown hg dY);clear hown hg dY)
        exact ⟨rfl,.tuple #[.pointer none,.string ⟨#[]⟩],by simp [results,Tryz.results204,go_sem],eR HN.out hN.out.up rfl⟩
  ·have t40:¬(s[0].toNat:Int)=40:=ou hc rfl
   have eN:=aa hc;clear hc ih
   go_enter Tryz.func204,Tryz.ntmps204
   go_wp2_with fail;clear t40 d1
   go_loop [6] (fun i=>∃k:Nat,k≤s.size∧i=.int .i64 k∧Hid (∀j,(hj:j<k)→∀hl:j<s.data.toList.length,s.data.toList[j]∉bF)) (fun i=>s.size - (intOf i).toNat)
   case atStart=>exact ⟨0,Nat.zero_le _,rfl,fun j hj=>by omega⟩
   case round =>
    obtain ⟨k,hk,rfl,hno⟩:=hrel;by_cases hlt:k<s.size
    ·have vI:=aa hno.out
     have aW:=aa hlt;(have i1:(0:Int)≤(k:Int):=by omega);(have i2:(k:Int)<(s.size:Int):=by omega);have fK:=hk;clear hno hk;by_cases yQ:s[k]=40
     ·have t40:(s[k].toNat:Int)=40:=rz yQ rfl
      have gV:Hid (k=s.data.toList.length∨∃h:k<s.data.toList.length,s.data.toList[k]∈bF):=.inr ⟨by rw [size_data];exact hlt,by show s[k]∈bF;rw [yQ];decide⟩;clear yQ;have lD:Hid (nmLen s.data.toList=k):=rA (by rw [size_data];omega) (fun j hj=>vI.out j hj (by rw [size_data];omega)) gV.out;clear vI gV;by_cases k0:k=0
      ·have HN:Hid (fQ s.data.toList=none):=by unfold Hid;rw [ir.out,gK _ eN.out,← ir.out,lD.out,if_pos k0]
       have k1:((k:Int)==0)=true:=beq_iff_eq.2 (by omega);clear k0;go_wp2_with fail;exact ⟨rfl,.tuple #[.pointer none,.string ⟨#[]⟩],by simp [results,Tryz.results204,go_sem],eR HN.out (Up.refl _) rfl⟩
      ·have HN:Hid (fQ s.data.toList=some (.node (s.extract 0 k) [],s.data.toList.drop k)):=by
        unfold Hid
        have e:(⟨(s.data.toList.take k).toArray⟩:ByteArray)=s.extract 0 k:=eD (by rw [ry])
        rw [ir.out,gK _ eN.out,← ir.out,lD.out,if_neg k0,e]
       have HE:Hid (bL (s.data.toList.drop k)=s.extract k s.size):=eD (by rw [lX];rfl)
       have k1:((k:Int)==0)=false:=beq_eq_false_iff_ne.2 (by omega)
       have i4:(k:Int)≤(s.size:Int):=by omega
       clear k0
       go_wp2_with fail
       go_region
       go_wp2_with fail
       exact ⟨rfl,.tuple #[.pointer (some ⟨w.heap.size,0,none⟩),.string (s.extract k s.size)],by simp [results,Tryz.results204,go_sem],jb HN.out ((Up.alloc w _).trans (Up.drewN _ 1)) (by rw [HE.out]) (tN w _)⟩
     ·skip
      by_cases nA:s[k]=41
      ·have t41:(s[k].toNat:Int)=41:=rz nA rfl
       have gV:Hid (k=s.data.toList.length∨∃h:k<s.data.toList.length,s.data.toList[k]∈bF):=.inr ⟨by rw [size_data];exact hlt,by show s[k]∈bF;rw [nA];decide⟩;clear yQ nA;have lD:Hid (nmLen s.data.toList=k):=rA (by rw [size_data];omega) (fun j hj=>vI.out j hj (by rw [size_data];omega)) gV.out;clear vI gV;by_cases k0:k=0
       ·have HN:Hid (fQ s.data.toList=none):=by unfold Hid;rw [ir.out,gK _ eN.out,← ir.out,lD.out,if_pos k0]
        have k1:((k:Int)==0)=true:=beq_iff_eq.2 (by omega);clear k0;go_wp2_with fail;exact ⟨rfl,.tuple #[.pointer none,.string ⟨#[]⟩],by simp [results,Tryz.results204,go_sem],eR HN.out (Up.refl _) rfl⟩
       ·have HN:Hid (fQ s.data.toList=some (.node (s.extract 0 k) [],s.data.toList.drop k)):=by
         unfold Hid
         have e:(⟨(s.data.toList.take k).toArray⟩:ByteArray)=s.extract 0 k:=eD (by rw [ry])
         rw [ir.out,gK _ eN.out,← ir.out,lD.out,if_neg k0,e]
        have HE:Hid (bL (s.data.toList.drop k)=s.extract k s.size):=eD (by rw [lX];rfl)
        have k1:((k:Int)==0)=false:=beq_eq_false_iff_ne.2 (by omega)
        have i4:(k:Int)≤(s.size:Int):=by omega
        clear k0
        go_wp2_with fail
        go_region
        go_wp2_with fail
        exact ⟨rfl,.tuple #[.pointer (some ⟨w.heap.size,0,none⟩),.string (s.extract k s.size)],by simp [results,Tryz.results204,go_sem],jb HN.out ((Up.alloc w _).trans (Up.drewN _ 1)) (by rw [HE.out]) (tN w _)⟩
      ·skip
       by_cases rB:s[k]=44
       ·have t44:(s[k].toNat:Int)=44:=rz rB rfl
        have gV:Hid (k=s.data.toList.length∨∃h:k<s.data.toList.length,s.data.toList[k]∈bF):=.inr ⟨by rw [size_data];exact hlt,by show s[k]∈bF;rw [rB];decide⟩;clear yQ nA rB;have lD:Hid (nmLen s.data.toList=k):=rA (by rw [size_data];omega) (fun j hj=>vI.out j hj (by rw [size_data];omega)) gV.out;clear vI gV;by_cases k0:k=0
        ·have HN:Hid (fQ s.data.toList=none):=by unfold Hid;rw [ir.out,gK _ eN.out,← ir.out,lD.out,if_pos k0]
         have k1:((k:Int)==0)=true:=beq_iff_eq.2 (by omega);clear k0;go_wp2_with fail;exact ⟨rfl,.tuple #[.pointer none,.string ⟨#[]⟩],by simp [results,Tryz.results204,go_sem],eR HN.out (Up.refl _) rfl⟩
        ·have HN:Hid (fQ s.data.toList=some (.node (s.extract 0 k) [],s.data.toList.drop k)):=by
          unfold Hid
          have e:(⟨(s.data.toList.take k).toArray⟩:ByteArray)=s.extract 0 k:=eD (by rw [ry])
          rw [ir.out,gK _ eN.out,← ir.out,lD.out,if_neg k0,e]
         have HE:Hid (bL (s.data.toList.drop k)=s.extract k s.size):=eD (by rw [lX];rfl)
         have k1:((k:Int)==0)=false:=beq_eq_false_iff_ne.2 (by omega)
         have i4:(k:Int)≤(s.size:Int):=by omega
         clear k0
         go_wp2_with fail
         go_region
         go_wp2_with fail
         exact ⟨rfl,.tuple #[.pointer (some ⟨w.heap.size,0,none⟩),.string (s.extract k s.size)],by simp [results,Tryz.results204,go_sem],jb HN.out ((Up.alloc w _).trans (Up.drewN _ 1)) (by rw [HE.out]) (tN w _)⟩
       ·skip
        by_cases Jj:s[k]=59
        ·have t40:¬(s[k].toNat:Int)=40:=ou yQ rfl
         have Y6:((s[k].toNat:Int) != 40)=true:=bne_iff_ne.2 t40;have t41:¬(s[k].toNat:Int)=41:=ou nA rfl;have Y7:((s[k].toNat:Int) != 41)=true:=bne_iff_ne.2 t41;have t44:¬(s[k].toNat:Int)=44:=ou rB rfl;have Y8:((s[k].toNat:Int) != 44)=true:=bne_iff_ne.2 t44;(have RL:((s[k].toNat:Int) != 59)=false:=by rw [bne_eq_false_iff_eq];exact rz Jj rfl);have gV:Hid (k=s.data.toList.length∨∃h:k<s.data.toList.length,s.data.toList[k]∈bF):=.inr ⟨by rw [size_data];exact hlt,by show s[k]∈bF;rw [Jj];decide⟩;clear yQ nA rB Jj
         have lD:Hid (nmLen s.data.toList=k):=rA (by rw [size_data];omega) (fun j hj=>vI.out j hj (by rw [size_data];omega)) gV.out;clear vI gV;by_cases k0:k=0
         ·have HN:Hid (fQ s.data.toList=none):=by unfold Hid;rw [ir.out,gK _ eN.out,← ir.out,lD.out,if_pos k0]
          have k1:((k:Int)==0)=true:=beq_iff_eq.2 (by omega);clear k0;go_wp2_with fail
          all_goals first | (exfalso;have hj:=‹((((s[k].toNat:Int) != 40)=true∧((s[k].toNat:Int) != 41)=true)∧((s[k].toNat:Int) != 44)=true)∧((s[k].toNat:Int) != 59)=true›.2;rw [RL] at hj;cases hj;done) | skip
          exact ⟨rfl,.tuple #[.pointer none,.string ⟨#[]⟩],by simp [results,Tryz.results204,go_sem],eR HN.out (Up.refl _) rfl⟩
         ·have HN:Hid (fQ s.data.toList=some (.node (s.extract 0 k) [],s.data.toList.drop k)):=by
           unfold Hid
           have e:(⟨(s.data.toList.take k).toArray⟩:ByteArray)=s.extract 0 k:=eD (by rw [ry])
           rw [ir.out,gK _ eN.out,← ir.out,lD.out,if_neg k0,e]
          have HE:Hid (bL (s.data.toList.drop k)=s.extract k s.size):=eD (by rw [lX];rfl)
          have k1:((k:Int)==0)=false:=beq_eq_false_iff_ne.2 (by omega)
          have i4:(k:Int)≤(s.size:Int):=by omega
          clear k0
          go_wp2_with fail
          all_goals first | (exfalso;have hj:=‹((((s[k].toNat:Int) != 40)=true∧((s[k].toNat:Int) != 41)=true)∧((s[k].toNat:Int) != 44)=true)∧((s[k].toNat:Int) != 59)=true›.2;rw [RL] at hj;cases hj;done) | skip
          go_region
          go_wp2_with fail
          exact ⟨rfl,.tuple #[.pointer (some ⟨w.heap.size,0,none⟩),.string (s.extract k s.size)],by simp [results,Tryz.results204,go_sem],jb HN.out ((Up.alloc w _).trans (Up.drewN _ 1)) (by rw [HE.out]) (tN w _)⟩
        ·skip
         have t40:¬(s[k].toNat:Int)=40:=ou yQ rfl;have Y6:((s[k].toNat:Int) != 40)=true:=bne_iff_ne.2 t40;have t41:¬(s[k].toNat:Int)=41:=ou nA rfl;have Y7:((s[k].toNat:Int) != 41)=true:=bne_iff_ne.2 t41;have t44:¬(s[k].toNat:Int)=44:=ou rB rfl;have Y8:((s[k].toNat:Int) != 44)=true:=bne_iff_ne.2 t44;have t59:¬(s[k].toNat:Int)=59:=ou Jj rfl;have RL:((s[k].toNat:Int) != 59)=true:=bne_iff_ne.2 t59;have mz:Hid (s[k]∉bF):=VI.2 ⟨yQ,nA,rB,Jj⟩;(have i3:(k:Int)<1001:=by have:=HS.out;omega);clear yQ nA rB Jj;go_wp2_with fail
         all_goals first | (exfalso;have hj:=‹((((s[k].toNat:Int) != 40)=false∨((s[k].toNat:Int) != 41)=false)∨((s[k].toNat:Int) != 44)=false)∨((s[k].toNat:Int) != 59)=false›;rw [Y6,Y7,Y8,RL] at hj;simp at hj;done) | skip
         go_round
         case rel=>exact ⟨k+1,aW.out,by go_num,fun j hj hl=>by
          by_cases e:j=k
          ·subst e;exact mz.out
          ·exact vI.out j (by omega) hl⟩
         case measure=>have:=aW.out;simp [intOf];omega
    ·skip
     have vI:=aa hno.out;have gV:Hid (k=s.data.toList.length∨∃h:k<s.data.toList.length,s.data.toList[k]∈bF):=.inl (by rw [size_data];omega);(have hkn:¬(k:Int)<(s.size:Int):=by omega);have TP:decide ((k:Int)<(s.size:Int))=false:=decide_eq_false hkn;have fK:k≤s.size:=hk;clear hno hk hlt;have lD:Hid (nmLen s.data.toList=k):=rA (by rw [size_data];omega) (fun j hj=>vI.out j hj (by rw [size_data];omega)) gV.out;clear vI gV;by_cases k0:k=0
     ·have HN:Hid (fQ s.data.toList=none):=by unfold Hid;rw [ir.out,gK _ eN.out,← ir.out,lD.out,if_pos k0]
      have k1:((k:Int)==0)=true:=beq_iff_eq.2 (by omega);clear k0;go_wp2_with fail;exact ⟨rfl,.tuple #[.pointer none,.string ⟨#[]⟩],by simp [results,Tryz.results204,go_sem],eR HN.out (Up.refl _) rfl⟩
     ·have HN:Hid (fQ s.data.toList=some (.node (s.extract 0 k) [],s.data.toList.drop k)):=by
       unfold Hid
       have e:(⟨(s.data.toList.take k).toArray⟩:ByteArray)=s.extract 0 k:=eD (by rw [ry])
       rw [ir.out,gK _ eN.out,← ir.out,lD.out,if_neg k0,e]
      have HE:Hid (bL (s.data.toList.drop k)=s.extract k s.size):=eD (by rw [lX];rfl)
      have k1:((k:Int)==0)=false:=beq_eq_false_iff_ne.2 (by omega)
      have i4:(k:Int)≤(s.size:Int):=by omega
      clear k0
      go_wp2_with fail
      go_region
      go_wp2_with fail
      exact ⟨rfl,.tuple #[.pointer (some ⟨w.heap.size,0,none⟩),.string (s.extract k s.size)],by simp [results,Tryz.results204,go_sem],jb HN.out ((Up.alloc w _).trans (Up.drewN _ 1)) (by rw [HE.out]) (tN w _)⟩
end Go.Proofs.YthgabkgmkolobaaGreat
