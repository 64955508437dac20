/- The contracts of the reference's checkCosts, checkStates, Check. The example of the .. -/
import Derived.Laws.EntriesVeiled
import Derived.Shelf.SortM.Plain
import Derived.Shelf.SortM.SortNone
import Derived.Sort.OwnSortedInts
import Derived.Laws.Bits64b
import Derived.Laws.BitsAllLaws
import Derived.Test.YthgabkgmkolobaaGreatQ11
set_option maxRecDepth 100000
namespace Go.Proofs.YthgabkgmkolobaaGreat
section
open Go.RowKit Go.Deep
def ki (t:aD) (cs:List (List Int)):Int:=if aB t≠0 then 1 else eG cs
set_option maxHeartbeats 1000000 in
theorem OM (S:Nat→Prop) (w:World) (v vc:Value) (t:aD) (cs:List (List Int)) (hT:au S w v t) (hC:aQ S w vc cs)
  (hp:t.ps.length≤1000000) (hn:t.ns.length≤1000000) (hz:∀k,(gs t.ns k).size≤70000) (dQ:cs.length≤1000000) (hr:∀k,(gl cs k).length≤1000000) :
  Calls Tryz.prog 276 #[v,vc] w fun e w'=>QT e w' w (ki t cs):=by
 have b8:ki t cs=if aB t≠0 then 1 else eG cs:=rfl
 have HF:=aa b8;have Cn:eG cs=if cs.length=0 then 5 else if 16<cs.length then 4 else if vY cs then 9 else if sS cs cs.length then 2 else 0:=rfl
 have LH:=aa Cn;obtain ⟨P,N,rfl,hP,hN⟩:=hT;obtain ⟨qC,fT,rfl,DT,_⟩:=bS hC;have hu:=Up.alloc w (.cells #[P,N] 39);have dw:au S (w.alloc (.cells #[P,N] 39)) (.agg #[P,N]) t:=au.keep ⟨_,N,rfl,hP,hN⟩ (hu.kept S);have hk:=jZ S _ _ t dw hp hn hz;have HK:=aa hk;have HU:=aa hu;have HC:=aa (hC.keep (hu.kept S));have HR:=aa hr;clear hk hu dw hC hP hN b8 Cn hz hr
 go_enter Tryz.func276,Tryz.ntmps276
 go_wp2_with fail;generalize w.alloc (.cells #[P,N] 39)=w1 at *;refine HK.out.mono ?_;rintro e w2 ⟨rfl,hb⟩;have aP:=aa (HU.out.trans (show Up w1 w2 from hb));have iK:=aa (HC.out.keep (Up.kept (show Up w1 w2 from hb) S));clear hb HK HU HC;by_cases he:aB t=0
 ·have rR:(aB t != 0)=false:=by simpa using he
  have HE:Hid (ki t cs=eG cs):=by unfold Hid;rw [HF.out,if_neg (fun h=>h he)]
  clear he HF;by_cases h0:cs.length=0
  ·have Yo:((cs.length:Int)==0)=true:=by simp [h0]
   have H0:=aa h0;clear h0;go_wp2_with fail;go_ret;exact ⟨aH (by rw [HE.out,LH.out,if_pos H0.out]),aP.out⟩
  have Yo:((cs.length:Int)==0)=false:=by simpa using h0
  have hpos:0<cs.length:=by omega
  have H0:=aa h0;clear h0;by_cases h1:16<cs.length
  ·go_wp2_with fail
   go_ret;exact ⟨aH (by rw [HE.out,LH.out,if_neg H0.out,if_pos h1]),aP.out⟩
  go_wp2_with fail
  go_loop [5] (fun i=>∃k:Nat,k≤cs.length∧i=.int .i64 k∧Hid (∀j,j<k→(gl cs j).length=cs.length)) (fun i=>cs.length - (intOf i).toNat)
  case atStart=>exact ⟨0,Nat.zero_le _,rfl,fun j hj=>absurd hj (Nat.not_lt_zero _)⟩
  case round =>
   obtain ⟨k,hk,rfl,hd⟩:=hrel;by_cases hlt:k<cs.length
   ·obtain ⟨b,off,q,c,rfl,hc,_⟩:=eM iK.out hlt
    have sV:=HR.out k;by_cases hl:(gl cs k).length=cs.length
    ·have eU:(((gl cs k).length:Int) != cs.length)=false:=by simp [hl]
     have HL:=aa hl;clear hl;go_wp2_with fail
     go_round
     case rel=>exact ⟨k+1,by omega,by go_num,fun j hj=>if e:j=k then by subst e;exact HL.out else hd.out j (by omega)⟩
     case measure=>simp [intOf];omega
    ·have eU:(((gl cs k).length:Int) != cs.length)=true:=by simp;omega
     have HL:=aa hl;clear hl;go_wp2_with fail;go_ret;refine ⟨aH ?_,aP.out⟩;have hlb:vY cs=true:=ij hlt (by simpa using HL.out);rw [HE.out,LH.out,if_neg H0.out,if_neg h1,if_pos hlb]
   ·obtain rfl:k=cs.length:=by omega
    clear hlt hk;(have hlb:vY cs=false:=any_none fun j hj=>by simpa using hd.out j hj);have vk:=aa hlb;clear hlb;go_wp2_with fail
    go_loop [6,7] (fun i _=>∃k:Nat,k≤cs.length∧i=.int .i64 k∧Hid (∀j,j<k→D3 j (gl cs j) (gl cs j).length=false)) (fun i _=>cs.length - (intOf i).toNat)
    case atStart=>exact ⟨0,Nat.zero_le _,rfl,fun j hj=>absurd hj (Nat.not_lt_zero _)⟩
    case round =>
     obtain ⟨k,hk,rfl,Yp⟩:=hrel;by_cases hlt:k<cs.length
     ·obtain ⟨b,off,q,c,rfl,hc,IB⟩:=eM iK.out hlt
      have hlen:(gl cs k).length=cs.length:=hd.out k hlt;rw [hlen] at hc IB;have HRI:=aa IB;have HLEN:=aa hlen;(have iV:Hid (sS cs cs.length=true→eG cs=2):=fun h=>by rw [LH.out,if_neg H0.out,if_neg h1,vk.out,if_neg (by simp),if_pos h]);have IC:Hid (∀j,j<cs.length→qy k j (gi (gl cs k) j)=true→eG cs=2):=fun j hj hb=>iV.out (ij hlt (ij (by rw [HLEN.out];exact hj) hb));have HRZ:Hid ((∀j,j<cs.length→qy k j (gi (gl cs k) j)=false)→D3 k (gl cs k) (gl cs k).length=false):=fun h=>any_none fun j hj=>h j (by rw [HLEN.out] at hj;exact hj);clear IB hlen iV
      go_wp2_with fail
      go_loop [7] (fun i=>∃m:Nat,m≤cs.length∧i=.int .i64 m∧Hid (∀j,j<m→qy k j (gi (gl cs k) j)=false)) (fun i=>cs.length - (intOf i).toNat)
      case atStart=>exact ⟨0,Nat.zero_le _,rfl,fun j hj=>absurd hj (Nat.not_lt_zero _)⟩
      case round =>
       obtain ⟨m,hm,rfl,hd2⟩:=hrel;by_cases vo:m<cs.length
       ·obtain ⟨rb,roff,rfl,rS⟩:=bQ HRI.out (k:=m) (by rw [HLEN.out];exact vo)
        generalize hx:gi (gl cs k) m=x at *;have HX:=aa hx;clear hx;by_cases hb1:x<0∨1000<x
        ·have gO:=aa (IC.out m vo (by rw [HX.out];unfold qy;rcases hb1 with h | h<;>simp [h]))
         rcases hb1 with hb1 | hb1
         ·go_wp2_with fail
          go_ret;exact ⟨aH (by rw [HE.out,gO.out]),aP.out⟩
         ·go_wp2_with fail
          go_ret;exact ⟨aH (by rw [HE.out,gO.out]),aP.out⟩
        ·have hb2:0≤x∧x≤1000:=by omega
         obtain ⟨hb3,hb4⟩:=hb2;clear hb1;by_cases hkm:k=m∧x≠0
         ·obtain ⟨rfl,hx0⟩:=hkm
          have gO:=aa (IC.out k vo (by rw [HX.out];unfold qy;simp [hx0]));(have hx1:(x != 0)=true:=by simpa using hx0);clear hx0;go_wp2_with fail;go_ret;exact ⟨aH (by rw [HE.out,gO.out]),aP.out⟩
         ·have Ri:qy k m x=false:=by
           unfold qy
           have e1:decide (x<0)=false:=by simp;omega
           have e2:decide (1000<x)=false:=by simp;omega
           have e3:(decide (k=m)&&decide (x≠0))=false:=by
            rw [Bool.eq_false_iff];intro e;apply hkm;simpa using e
           rw [e1,e2,e3];rfl
          have HG:=aa Ri
          clear Ri
          by_cases OO:k=m
          ·have hx0:x=0:=by
            by_cases e:x=0
            ·exact e
            ·exact absurd ⟨OO,e⟩ hkm
           subst hx0
           clear hkm
           subst OO
           go_wp2_with fail
           go_round
           case rel=>exact ⟨k+1,by omega,by go_num,fun j hj=>if e:j=k then by subst e;rw [HX.out];exact HG.out else hd2.out j (by omega)⟩
           case measure=>simp [intOf];omega
          ·have hne:((k:Int)==(m:Int))=false:=by rw [beq_eq_false_iff_ne];omega
           clear hkm OO
           go_wp2_with fail
           go_round
           case rel=>exact ⟨m+1,by omega,by go_num,fun j hj=>if e:j=m then by subst e;rw [HX.out];exact HG.out else hd2.out j (by omega)⟩
           case measure=>simp [intOf];omega
       ·have hall:=HRZ.out fun j hj=>hd2.out j (by omega)
        have za:=aa hall;clear hall;go_wp2_with fail
        go_round
        case rel=>exact ⟨k+1,by omega,by go_num,fun j hj=>if e:j=k then by subst e;exact za.out else Yp.out j (by omega)⟩
        case measure=>simp [intOf];omega
     ·have Ur:sS cs cs.length=false:=any_none fun j hj=>Yp.out j (by omega)
      have HMB0:=aa Ur;clear Ur;go_wp2_with fail;go_ret;exact ⟨aH (by rw [HE.out,LH.out,if_neg H0.out,if_neg h1,vk.out,if_neg (by simp),HMB0.out];simp),aP.out⟩
 ·have rR:(aB t != 0)=true:=by simpa using he
  have HE:=aa he;clear he;go_wp2_with fail;go_ret;exact ⟨aH (by rw [HF.out,if_pos HE.out]),aP.out⟩
end
section
open Go.RowKit Go.Deep
theorem qM (w:World) (cs:Array Value) (T:TypeId) (xs:List Int) (hcs:cs.toList=xs.map (Value.int .i64)) (n:Nat) (hn:n=xs.length):aj Any (w.alloc (.cells cs T)) (.slice (some ⟨w.heap.size,0,none⟩) n n) xs:=by
 subst hn;refine ⟨_,_,rfl,Nat.le_refl _,.inr ⟨_,0,rfl,trivial,fun k hk=>?_⟩⟩;rw [Nat.zero_add,aK,← Array.getElem?_toList,hcs];simp [gi,hk]
theorem EA (w:World) (cs:Array Value) (T:TypeId) (xs:List ByteArray) (hcs:cs.toList=xs.map Value.string) (n:Nat) (hn:n=xs.length):ah Any (w.alloc (.cells cs T)) (.slice (some ⟨w.heap.size,0,none⟩) n n) xs:=by
 subst hn;refine ⟨_,_,rfl,Nat.le_refl _,.inr ⟨_,0,rfl,trivial,fun k hk=>?_⟩⟩;rw [Nat.zero_add,aK,← Array.getElem?_toList,hcs];simp [gs,hk]
end
section
open Go.RowKit Go.Deep
structure Rj where
 un:Int
 st:Int
 src:List Int
end
section
open Go.RowKit Go.Deep
theorem aF.set {base:Nat} {e:TypeId} {w:World} {v:Value} {vs:List Value} (h:aF base e w v vs) {j:Nat} (hj:j<vs.length) :
  ∃g cap,v=.slice (some ⟨g,0,none⟩) vs.length cap∧base≤g∧g<w.heap.size∧w.cell? ⟨g,j,none⟩=some (vs.getD j undef)∧w.frozen? ⟨g,j,none⟩=false∧∀x,aF base e (w.setCell ⟨g,j,none⟩ x) v (vs.set j x):=by
 obtain ⟨hl,h | ⟨g,cap,cur,rfl,hg,hc,hn,hcm,hcs,ht⟩⟩:=h
 ·omega
 ·have yA:g<w.heap.size:=(Array.getElem?_eq_some_iff.1 hc).1
  have ht1:cur.toList.take vs.length=vs:=by rw [Nat.mul_one] at ht;exact ht
  have hj2:j<cur.size:=by omega
  have hcell:cur[j]? = some (vs.getD j undef):=by (have h1:vs[j]? = some (vs.getD j undef):=by simp [hj]);rw [← h1];have h2:=congrArg (·[j]?) ht1;simp only [List.getElem?_take,hj,if_true] at h2;rw [← h2];simp
  refine ⟨g,cap,rfl,hg,yA,by simp [World.cell?,hc,hcell],by simp [World.frozen?,hc],fun x=>⟨by simp,.inr ⟨g,cap,cur.setIfInBounds j x,by simp,hg,?_,by simpa using hn,hcm,by simpa using hcs,?_⟩⟩⟩
  ·simp [World.setCell,Array.getElem?_modify,hc]
  ·rw [List.length_set,Nat.mul_one,Array.toList_setIfInBounds,List.take_set,ht1]
def ic (base:Nat) (T:TypeId) (w:World) (d:Value) (xs:List (List Int)):Prop :=
 ∃vals:List Value,vals.length=xs.length∧aF base T w d vals∧∀i,i<xs.length→aj (fun b=>some b≠d.ownBlock) w (vals.getD i undef) (gl xs i)
theorem aI {base:Nat} {e:TypeId} {w:World} {v:Value} {vs:List Value} (h:aF base e w v vs) {b:Nat} (hb:v.ownBlock=some b):base≤b∧b<w.heap.size:=World.ownsRow.lt h b hb
theorem ID {l:List Int} {m:Nat} (h:m<l.length):l.take (m+1)=l.take m++[gi l m]:=by
 rw [List.take_succ_eq_append_getElem h];simp [gi,h]
theorem Sy {l:List (List Int)} {m:Nat} (h:m<l.length):l.take (m+1)=l.take m++[gl l m]:=by
 rw [List.take_succ_eq_append_getElem h];simp [gl,h]
theorem aF.ne {base base':Nat} {e e':TypeId} {w w':World} {v u:Value} {vs us:List Value} (h:aF base e w v vs) (_:aF base' e' w' u us) (hb:w.heap.size≤base') {b:Nat} (hb':base'≤b):some b≠v.ownBlock:=fun e2=>by
 have:=(aI h e2.symm).2;omega
theorem ic.rows {base:Nat} {T:TypeId} {w:World} {d:Value} {xs:List (List Int)} (h:ic base T w d xs):aQ Any w d xs:=by
 obtain ⟨vals,hl,ho,hr⟩:=h;have h1:=ho.wA;rw [hl] at h1;exact ⟨_,h1.sub fun _ _ _=>trivial,fun k hk=>(hr k hk).sub fun _ _ _=>trivial⟩
theorem ic.kept {base:Nat} {T:TypeId} {w w':World} {d:Value} {xs:List (List Int)} (h:ic base T w d xs) (k:Up w w'):ic base T w' d xs:=by
 obtain ⟨vals,hl,ho,hr⟩:=h;exact ⟨vals,hl,ho.kept fun b _ hb=>Below.block k b hb,fun i hi=>(hr i hi).keep (k.kept _)⟩
section
variable {P:Program} {ops:Array Oper} {rest:List Oper} {o:Oper} {a:Act} {Q:Exit→Act→World→Prop}
theorem lu (W:World) (hgd:o.guard=none) (s x:Operand) (t:TypeId) (ho:o.op=.call { callee:=.builtin .append,args:=#[s,x],argTypes:=#[t,t] })
  (base:Nat) (e:TypeId) (z:Value) (bytes:Nat) (ht:P.underlying t=some (.slice e)) (hinfo:(P.info? e).map (fun i=>(i.zero,i.size,i.bytes))=some (some z,1,bytes))
  (hz1:z.cells.size=1) (k8:bytes≤64) {v:Value} {vs:List Value} (hown:aF base e W v vs) (hs:a.eval s=v) (u:Value)
  (hx:a.eval x=.slice (some ⟨W.heap.size,0,none⟩) 1 1) (h1:u.oneCell'=true) (n:Nat) (vp:vs.length=n) (hn:n≤1000000) (hbase:base≤W.heap.size)
  (h:∀g cap w',aF base e w' (.slice (some ⟨g,0,none⟩) (n+1) cap) (vs++[u])→W.grownBy w' v.ownBlock→Below base W w'→wpList P ops Q rest (a.put o.dst (.slice (some ⟨g,0,none⟩) (n+1) cap)) w') :
  wpList P ops Q (o::rest) a (W.alloc (.cells #[u] e)):=by
 subst vp;exact iD W hgd s x t ho base e z bytes ht hinfo hz1 k8 hown hs u hx h1 hn hbase h
theorem DI (W:World) (hgd:o.guard=none) (s x:Operand) (t:TypeId) (ho:o.op=.call { callee:=.builtin .append,args:=#[s,x],argTypes:=#[t,t] })
  (base:Nat) (e:TypeId) (z:Value) (bytes:Nat) (ht:P.underlying t=some (.slice e)) (hinfo:(P.info? e).map (fun i=>(i.zero,i.size,i.bytes))=some (some z,1,bytes))
  (hz1:z.cells.size=1) (k8:bytes≤64) {v:Value} {xs:List (List Int)} (hown:ic base e W v xs) (hs:a.eval s=v) (u:Value) (y:List Int)
  (hx:a.eval x=.slice (some ⟨W.heap.size,0,none⟩) 1 1) (hu:aj (fun b=>some b≠v.ownBlock) W u y) (h1:u.oneCell'=true) (n:Nat) (mE:xs.length=n) (hn:n≤1000000) (hbase:base≤W.heap.size)
  (h:∀g cap w',ic base e w' (.slice (some ⟨g,0,none⟩) (n+1) cap) (xs++[y])→W.grownBy w' v.ownBlock→Below base W w'→wpList P ops Q rest (a.put o.dst (.slice (some ⟨g,0,none⟩) (n+1) cap)) w') :
  wpList P ops Q (o::rest) a (W.alloc (.cells #[u] e)):=by
 subst mE;obtain ⟨i,hi,hzz⟩:=Option.map_eq_some_iff.1 hinfo;simp only [Prod.mk.injEq] at hzz;obtain ⟨hz,hs1,hb⟩:=hzz;obtain ⟨vals,hl,hown,hrows⟩:=hown;refine wpList_append_lies _ hgd s x t ho base e i z 1 bytes ht hi hz hs1 hb hz1 (by omega) v vals.length vals hs (hown.alloc _) ⟨W.heap.size,0,none⟩ 1 1 [u] hx rfl (cell_one_new _ _ _) (by simpa using h1) (by omega)
  (by unfold maxLen;omega) ?_ (by simp;omega) _ rfl fun g cap w' h2 h3 h4 _=>?_
 ·have:(vals.length+1)*bytes≤(vals.length+1)*64:=Nat.mul_le_mul_left _ k8
  omega
 ·have hg:=gm h3
  rw [hl] at h2 ⊢;have zb:∀b:Nat,some b≠v.ownBlock→b<W.heap.size→some b≠(Value.slice (some ⟨g,0,none⟩) (xs.length+1) cap).ownBlock:=fun b hb hlt e=>by
   simp only [Value.ownBlock,Option.some.injEq] at e;rcases h4 with h4 | h4
   ·exact hb (by rw [h4,e])
   ·rw [World.size_alloc] at h4;omega
  have hkeep:∀ {u':Value} {y':List Int},aj (fun b=>some b≠v.ownBlock) W u' y'→aj (fun b=>some b≠(Value.slice (some ⟨g,0,none⟩) (xs.length+1) cap).ownBlock) w' u' y':=fun hi' =>
   ((hi'.sub (T:=fun b=>some b≠v.ownBlock∧b<W.heap.size) fun b hb hlt=>⟨hb,hlt⟩).keep fun b hb hlt=>hg.block b hlt hb.1).sub fun b hb _=>zb b hb.1 hb.2
  refine h g cap w' ⟨vals++[u],by simp [hl],?_,fun i hi=>?_⟩ hg (hown.dh hg hbase)
  ·unfold aF;rw [List.length_append,hl];exact h2
  ·rw [List.length_append] at hi
   by_cases hi2:i<xs.length
   ·have e1:(vals++[u]).getD i undef=vals.getD i undef:=by simp [List.getElem?_append,hl,hi2]
    (have e2:gl (xs++[y]) i=gl xs i:=by simp [gl,List.getElem?_append,hi2]);rw [e1,e2];exact hkeep (hrows i hi2)
   ·obtain rfl:i=xs.length:=by simp at hi;omega
    (have e1:(vals++[u]).getD xs.length undef=u:=by simp [← hl]);(have e2:gl (xs++[y]) xs.length=y:=by simp [gl]);rw [e1,e2];exact hkeep hu
end
end
section
open Go.RowKit Go.Deep
set_option maxHeartbeats 1000000 in
theorem Co (S:Nat→Prop) (w:World) (v vs:Value) (t:aD) (st:List Int) (hi:Int) (hT:au S w v t) (hS:aj S w vs st) (he:aB t=0)
  (hp:t.ps.length≤1000000) (hn:t.ns.length≤1000000) (hz:∀k,(gs t.ns k).size≤70000) (hst:st.length≤1000000) :
  Calls Tryz.prog 201 #[v,vs,.int .i64 hi] w fun e w'=>QT e w' w (gA st (aq t.ns).length (-1) hi):=by
 have b8:gA st (aq t.ns).length (-1) hi=if st.length≠(aq t.ns).length then 9 else if fo st (-1) hi then 2 else 0:=rfl
 have HF:=aa b8;obtain ⟨P,N,rfl,hP,hN⟩:=hT;obtain ⟨qS,gX,rfl,QY,_⟩:=aC.open hS;have hS:aj S w (.slice qS st.length gX) st:=hS;have hu:=Up.alloc w (.cells #[P,N] 39);have dw:au S (w.alloc (.cells #[P,N] 39)) (.agg #[P,N]) t:=au.keep ⟨_,N,rfl,hP,hN⟩ (hu.kept S);have hk:=Ce S _ _ t dw hp hn hz;have HK:=aa hk;have HU:=aa hu;have HS:=aa (aj.keep hS (hu.kept S));have HE:=aa he;clear hk hu dw hS hP hN b8 hz he
 go_enter Tryz.func201,Tryz.ntmps201
 go_wp2_with fail;generalize w.alloc (.cells #[P,N] 39)=w1 at *;refine HK.out.mono ?_;rintro e w2 ⟨hb,⟨h1,_⟩ | ⟨_,lv,rfl,hlv⟩⟩
 ·exact absurd HE.out h1
 obtain ⟨lp,lc,rfl,_,_⟩:=aC.open hlv;have aP:=aa (HU.out.trans (show Up w1 w2 from hb));have dP:=aa (aj.keep HS.out (Up.kept (show Up w1 w2 from hb) S));clear hb HK HU HS hlv;by_cases hl:st.length=(aq t.ns).length
 ·have eU:((st.length:Int) != (aq t.ns).length)=false:=by simp [hl]
  have HL:=aa hl;clear hl;go_wp2_with fail
  go_loop [9] (fun i=>∃k:Nat,k≤st.length∧i=.int .i64 k∧Hid (∀j,j<k→(decide (gi st j < -1) || decide (hi≤gi st j))=false)) (fun i=>st.length - (intOf i).toNat)
  case atStart=>exact ⟨0,Nat.zero_le _,rfl,fun j hj=>absurd hj (Nat.not_lt_zero _)⟩
  case round =>
   obtain ⟨k,hk,rfl,hd⟩:=hrel;by_cases hlt:k<st.length
   ·obtain ⟨b,off,rfl,hc⟩:=bQ dP.out hlt
    generalize hx:gi st k=x at *;have HX:=aa hx;clear hx;by_cases h1:x < -1
    ·have hb:Hid (fo st (-1) hi=true):=ij hlt (by rw [HX.out];simp [h1])
     go_wp2_with fail;go_ret;exact ⟨aH (by rw [HF.out,if_neg (fun h=>h HL.out),if_pos hb.out]),aP.out⟩
    ·by_cases h2:hi≤x
     ·have hb:Hid (fo st (-1) hi=true):=ij hlt (by rw [HX.out];simp [h2])
      go_wp2_with fail;go_ret;exact ⟨aH (by rw [HF.out,if_neg (fun h=>h HL.out),if_pos hb.out]),aP.out⟩
     ·have hg:Hid ((decide (x < -1) || decide (hi≤x))=false):=by unfold Hid;simp;omega
      go_wp2_with fail
      go_round
      case rel=>exact ⟨k+1,by omega,by go_num,fun j hj=>if e:j=k then by subst e;rw [HX.out];exact hg.out else hd.out j (by omega)⟩
      case measure=>simp [intOf];omega
   ·have hb:Hid (fo st (-1) hi=false):=any_none fun j hj=>hd.out j (by omega)
    go_wp2_with fail;go_ret;exact ⟨aH (by rw [HF.out,if_neg (fun h=>h HL.out),hb.out];simp),aP.out⟩
 ·have eU:((st.length:Int) != (aq t.ns).length)=true:=by simp;omega
  have HL:=aa hl;clear hl;go_wp2_with fail;go_ret;exact ⟨aH (by rw [HF.out,if_pos HL.out]),aP.out⟩
set_option maxHeartbeats 800000 in
theorem LI (S:Nat→Prop) (w:World) (v vs vc:Value) (t:aD) (st:List Int) (cs:List (List Int)) (hT:au S w v t) (hS:aj S w vs st) (hC:aQ S w vc cs) (hz:JQ t st cs) :
  Calls Tryz.prog 250 #[v,vs,vc] w fun e w'=>QT e w' w (cE t st cs):=by
 obtain ⟨hz1,hz2,hz3,Rk,hz5,IE⟩:=hz;have b8:cE t st cs=if aB t≠0 then 1 else if eG cs≠0 then eG cs else gA st (aq t.ns).length (-1) cs.length:=rfl
 have HF:=aa b8;obtain ⟨P,N,rfl,hP,hN⟩:=hT;obtain ⟨qC,fT,rfl,DT,_⟩:=bS hC;have hu:=Up.alloc w (.cells #[P,N] 39);have dw:au S (w.alloc (.cells #[P,N] 39)) (.agg #[P,N]) t:=au.keep ⟨_,N,rfl,hP,hN⟩ (hu.kept S);have hk:=OM S _ _ _ t cs dw (hC.keep (hu.kept S)) hz1 hz2 hz3 hz5 IE;have HK:=aa hk;have HU:=aa hu;have HT:=aa dw;have HS:=aa (aj.keep hS (hu.kept S));have cZ:=aa (dc w P N 39);have cR:=aa (dz w P N 39);have HZ3:=aa hz3;clear hk hu dw hS hC hP hN b8 hz3 IE
 go_enter Tryz.func250,Tryz.ntmps250
 go_wp2_with fail;generalize w.alloc (.cells #[P,N] 39)=w1 at *;refine HK.out.mono ?_;rintro e w2 ⟨rfl,hb⟩;have aG:Up w1 w2:=hb;have hc0:=aG.cell cZ.out;have hc1:=aG.cell cR.out;have aP:=aa (HU.out.trans aG);have iu:=aa (HT.out.keep (aG.kept S));have dP:=aa (aj.keep HS.out (aG.kept S));have hce:ki t cs=if aB t≠0 then 1 else eG cs:=rfl
 have s8:=aa hce;clear hb aG HK HU cZ cR HT HS hce;by_cases hc:ki t cs=0
 ·have hc2:(ki t cs != 0)=false:=by simpa using hc
  have ht:aB t=0:=by
   rw [s8.out] at hc;by_cases h:aB t=0
   ·exact h
   ·rw [if_pos h] at hc;cases hc
  have hm:eG cs=0:=by rw [s8.out,if_neg (fun h=>h ht)] at hc;exact hc
  have HH:Hid (cE t st cs=gA st (aq t.ns).length (-1) cs.length):=by unfold Hid;rw [HF.out,if_neg (fun h=>h ht),if_neg (fun h=>h hm)]
  have HST:=aa (Co S w2 _ _ t st cs.length iu.out dP.out ht hz1 hz2 HZ3.out Rk);clear hc ht hm s8 HF;go_wp2_with fail;refine HST.out.mono ?_;rintro e w3 ⟨rfl,hb⟩;have bW:=aa (aP.out.trans (show Up w2 w3 from hb));clear hb;go_wp2_with fail;go_ret;exact ⟨aH (by rw [HH.out]),bW.out⟩
 ·have hc2:(ki t cs != 0)=true:=by simpa using hc
  have HH:Hid (cE t st cs=ki t cs):=by
   unfold Hid;rw [HF.out,s8.out];rw [s8.out] at hc;by_cases h:aB t=0
   ·rw [if_neg (fun e=>e h)] at hc ⊢;rw [if_pos hc,if_neg (fun e=>e h)]
   ·rw [if_pos h,if_pos h]
  clear hc s8 HF;go_wp2_with fail;go_ret;exact ⟨aH (by rw [HH.out]),aP.out⟩
end
section
open Go.RowKit Go.Shelf Go.Deep
attribute [local go_sem] Oper.semAt_some
theorem aF.Rl {base:Nat} {e:TypeId} {w w':World} {v:Value} {vs:List Value} (h:aF base e w v vs) (k:∀b,v.ownBlock=some b→w'.heap[b]? = w.heap[b]?):aF base e w' v vs:=by
 obtain ⟨hl,h | ⟨g,cap,cur,rfl,hg,hc,hr⟩⟩:=h
 ·exact ⟨hl,.inl h⟩
 ·exact ⟨hl,.inr ⟨g,cap,cur,rfl,hg,by rw [k g rfl];exact hc,hr⟩⟩
theorem aF.EB {base:Nat} {e:TypeId} {w:World} {v:Value} {vs:List Value} (h:aF base e w v vs) {b:Nat} (hb:v.ownBlock=some b):∃c,w.heap[b]? = some (Obj.cells c e (0,0)):=by
 obtain ⟨_,⟨rfl,_⟩ | ⟨g,cap,cur,rfl,_,hc,_⟩⟩:=h
 ·cases hb
 ·injection hb with hb;subst hb;exact ⟨cur,hc⟩

end
section
open Go.RowKit Go.Shelf Go.Deep
end
section
open Go.RowKit Go.Shelf Go.Deep Go.Sort
def iP (xs:List Int):List Int:=xs.mergeSort fun x y=>decide (x≤y)
theorem wU (xs:List Int):(iP xs).length=xs.length:=List.length_mergeSort _
theorem Us (w w1:World) (v:Value) (xs:List Int) (hu:Up w w1) (ho:aF w.heap.size 3 w1 v (xs.map (Value.int .i64))) (hlen:xs.length≤1000000) :
  Calls Tryz.prog 71 #[v] w1 fun e w'=>e=.returned (.tuple #[])∧Up w w'∧aF w.heap.size 3 w' v ((iP xs).map (Value.int .i64)):=by
 rcases ho.2 with ⟨rfl,h0⟩ | ⟨g,cap,cur,rfl,hg,hc,hn,hcm,hcs,ht⟩
 ·have hx:xs=[]:=by cases xs with | nil=>rfl | cons _ _=>simp at h0
  subst hx;refine (AnyM.slices_Sort_int_none Tryz.sortZ none 0 w1).mono ?_;rintro e w' ⟨rfl,rfl⟩;exact ⟨rfl,hu,by unfold iP;simpa using ho⟩
 ·simp only [List.length_map] at hn ht ho ⊢
  refine (AnyM.slices_Sort_int Tryz.sortZ g 0 cap xs w1 (holds_of_blockI hc (by simpa using ht)) (Array.getElem?_eq_some_iff.1 hc).1 (by omega)).mono ?_;rintro e w' ⟨rfl,n,os,rfl⟩;refine ⟨rfl,Below.grown hu (grownBy_sortedI _) hu.size (fun j hj=>by cases hj;exact hg),?_⟩;have h:=ownsRow_sortedI (n:=n) (os:=os) (ss:=xs) (ts:=iP xs) (wU xs) hg hc hn hcm (by simpa using hcs);unfold aF;rw [List.length_map,wU];exact h
end
section
open Go.RowKit Go.Deep
def QD (w w':World):Prop:=∃n,w'=w.drewN n
theorem QD.refl (w:World):QD w w:=⟨0,rfl⟩
theorem QD.drewN {w w':World} (h:QD w w') (n:Nat):QD w (w'.drewN n):=by
 obtain ⟨m,rfl⟩:=h;exact ⟨m+n,by rw [World.drewN_drewN]⟩
theorem QD.kept {w w':World} (h:QD w w') (S:Nat→Prop):Kept S w w':=by
 obtain ⟨m,rfl⟩:=h;exact fun _ _ _=>rfl
theorem QD.up {w w':World} (h:QD w w'):Up w w':=by
 obtain ⟨m,rfl⟩:=h;exact Up.drewN w m
end
section
open Go.RowKit Go.Deep
def Small (l:List Int):Prop:=∀k,k<l.length→0≤gi l k∧gi l k<32
end
end Go.Proofs.YthgabkgmkolobaaGreat
