/- stemma: leafName; Check and check of a valid stemma. Plain: the stemma of a tree (chapter .. -/
import Derived.StillTailTactics
import Derived.Laws.EntriesVeiled
import Derived.Test.YtfomhlbhcifgbaaGreatDoorQ10
import Derived.Test.YtfomhlbhcifgbaaGreatDoorQ11
set_option maxRecDepth 100000
set_option maxHeartbeats 4000000
namespace Go.Proofs.YtfomhlbhcifgbaaGreatDoor
section
open Go.RowKit Go.Deep
theorem xP (s:ByteArray) (h:s.size - 1<s.size) (JJ:((s[s.size - 1].toNat:Int)==42)=true):bD s.data.toList=(decide (s.size<=16)&&fA (s.extract 0 (s.size - 1)).data.toList):=by
 have hl:=size_data s;have h2:s[s.size - 1]=42:=by
  have h3:(s[s.size - 1].toNat:Int)=42:=by simpa using JJ
  have h4:s[s.size - 1].toNat=42:=by omega
  exact UInt8.toNat_inj.1 h4
 unfold bD;rw [Fz s h,h2,if_pos rfl,Fy,hl,Bool.and_comm]
theorem Lc {s:ByteArray} (h:bD s.data.toList=true):s.size<=16:=by
 have hl:=size_data s;unfold bD at h;split at h
 ·simp at h;omega
 ·unfold fA at h;simp at h;omega
theorem Qr (s:ByteArray) (hs:s.size<=70000) (w:World):Calls Tryz.prog 54 #[.string s] w fun e w'=>e=.returned (.bool (bD s.data.toList))/\w=w':=by
 go_in;go_wp2_with fail
 ·have hf:=aa (xP s (by omega) ‹_›)
  have hd:decide (s.size<=16)=true:=by simp;omega
  refine (rB _ (by simp;omega) _).mono ?_;rintro e w1 ⟨rfl,rfl⟩;have hf2:=aa hf.out;rw [hd,Bool.true_and] at hf2;rw [<- hf2.out];go_wp2;go_ret;exact ⟨rfl,rfl⟩
 ·have hf:=aa (xP s (by omega) ‹_›)
  go_ret;exact ⟨bu (by rw [hf.out,decide_eq_false (by omega),Bool.false_and]),rfl⟩
 ·have hf:=aa (Jd s (by omega) ‹_›)
  refine (rB _ hs _).mono ?_;rintro e w1 ⟨rfl,rfl⟩;rw [<- hf.out];go_wp2;go_ret;exact ⟨rfl,rfl⟩
 ·have hf:=aa (Mm s (by omega))
  refine (rB _ hs _).mono ?_;rintro e w1 ⟨rfl,rfl⟩;rw [<- hf.out];go_wp2;go_ret;exact ⟨rfl,rfl⟩
theorem SX {S:Nat->Prop} {w:World} {p:Option Addr} {n c m:Nat} {f:Nat->Value} (h:aB S w (.slice p n c) m f):m<=c:=by
 obtain ⟨_,_,e,hc,-⟩:=aB.open h;injection e with e1 e2 e3;omega
theorem DL {P:List (List Int)} (h:xB P) {i:Nat} (hi:i<P.length):∀k,k<(gl P i).length->(k:Int)<=gi (gl P i) k
 | 0,hk=>((h i hi).1 _ (by simp [gi,hk])).1
 | k+1,hk=>by
  have ih:=DL h hi k (by omega)
  have:=(h i hi).2 k hk
  omega
theorem nZ {P:List (List Int)} (h:xB P) {i:Nat} (hi:i<P.length):(gl P i).length<=i:=by
 rcases Nat.eq_zero_or_pos (gl P i).length with e | e
 ·omega
 ·have h1:=DL h hi ((gl P i).length - 1) (by omega)
  have h2:=((h i hi).1 (gi (gl P i) ((gl P i).length - 1)) (by simp [gi,show (gl P i).length - 1<(gl P i).length by omega])).2;omega
theorem MO (w:World) (bx:Nat) (i p:Int) (hc:w.cell? ⟨bx,0,none⟩=some (.int .i64 i)) :
  rC 56 #[.pointer (some ⟨bx,0,none⟩)] #[.int .i64 p] (.bool (decide (p<0) || decide (i<=p))) w:=by
 unfold rC;show Calls Tryz.prog 56 #[.int .i64 p,.pointer (some ⟨bx,0,none⟩)] w _;by_cases h0:p<0
 ·go_in
  go_wp2;go_ret;exact ⟨bu (by simp [h0]),rfl⟩
 ·by_cases h1:i<=p
  ·go_in
   go_wp2;go_ret;exact ⟨bu (by simp),rfl⟩
  ·go_in
   go_wp2;go_ret;exact ⟨bu (by simp [h0,h1]),rfl⟩
theorem Uk {ns:List ByteArray} (hd:∀i j,i<j->j<ns.length->gs ns i≠gs ns j) {k:Nat} (hk:k<ns.length):((List.range k).any fun j=>decide (gs ns k=gs ns j))=false:=by
 rw [yP];intro j hj;have:=hd j k (bX.1 hj) hk;simp only [decide_eq_true_eq];exact fun e=>this e.symm
theorem zw {S:Nat->Prop} {w:World} {b off n cap:Nat} {xs:List ByteArray} (h:aC S w (.slice (some ⟨b,off,none⟩) n cap) xs) {k:Nat} (hk:k<=xs.length):aB S w (.slice (some ⟨b,off,none⟩) k cap) k (fun j=>.string (gs xs j)):=by
 obtain ⟨q,c,e,hn,h⟩:=h;injection e with e1 e2 e3;subst e1;subst e2;subst e3;refine ⟨_,cap,rfl,by omega,?_⟩;rcases h with h | ⟨b',o',e,hS,h⟩
 ·exact .inl (by omega)
 ·exact .inr ⟨b',o',e,hS,fun j hj=>h j (by omega)⟩
theorem qP (S:Nat->Prop) (w:World) (v:Value) (s:kI) (h:aP S w v s) (hs:fD s.ns s.P) (hb:s.bs.length=s.ns.length) :
  Calls Tryz.prog 30 #[v] w fun e w'=>e=.returned (.int .i64 0)/\Up w w':=by
 obtain ⟨np,nc,bp,bc,pp,pc,rfl,hN,hB,hP⟩:=aP.open h;obtain ⟨ns,bs,P⟩:=s;dsimp only at *;have hcap:=SX hN;have hl:=hs.len;rw [hl] at hP ⊢;rw [hb] at hB ⊢;have i1:0<ns.length:=hs.pos;have i2:ns.length<=7:=hs.le;have i3:((ns.length:Int)==0)=false:=beq_eq_false_iff_ne.2 (by omega);have i4:decide (64<(ns.length:Int))=false:=by simp;omega
 have i5:((ns.length:Int) != (ns.length:Int))=false:=by simp
 have aM:=Up.alloc w (.cells #[.slice np ns.length nc,.slice bp ns.length bc,.slice pp ns.length pc] 36);have c0:(w.alloc (.cells #[.slice np ns.length nc,.slice bp ns.length bc,.slice pp ns.length pc] 36)).cell? ⟨w.heap.size,0,none⟩=some (.slice np ns.length nc):=by simp [World.cell?_alloc_new]
 have c1:(w.alloc (.cells #[.slice np ns.length nc,.slice bp ns.length bc,.slice pp ns.length pc] 36)).cell? ⟨w.heap.size,1,none⟩=some (.slice bp ns.length bc):=by simp [World.cell?_alloc_new]
 have c2:(w.alloc (.cells #[.slice np ns.length nc,.slice bp ns.length bc,.slice pp ns.length pc] 36)).cell? ⟨w.heap.size,2,none⟩=some (.slice pp ns.length pc):=by simp [World.cell?_alloc_new]
 have HN:=aa (aC.keep hN (aM.kept S));have HP:=aa (aS.keep hP (aM.kept S));have bU:=aa aM;have HS:=aa hs;have HL:=aa hl;clear h hN hB hP aM hs hl hb;go_in;go_wp2_with fail;generalize hw1:w.alloc (.cells #[.slice np ns.length nc,.slice bp ns.length bc,.slice pp ns.length pc] 36)=w1 at *;generalize w.heap.size=sb at *;clear hw1;have C0:=aa c0;have C2:=aa c2
 go_loopw [4,5,6,32] (fun _ _ _ i wr=>∃k:Nat,k<=ns.length/\i=.int .i64 k/\Hid (Up w1 wr)) (fun _ _ _ i _=>ns.length - (intOf i).toNat)
 case atStart=>exact ⟨0,bg _,rfl,Up.refl _⟩
 case round =>
  obtain ⟨k,hk,rfl,hU⟩:=hrel;obtain ⟨wo,rfl⟩:=e9 wr;by_cases hlt:k<ns.length
  ·obtain ⟨nb,no,rfl,dZ⟩:=fI (aC.keep HN.out (hU.out.kept S)) hlt
   obtain ⟨pb,po,q,qc,rfl,jw,hq⟩:=dV (aS.keep HP.out (hU.out.kept S)) (k:=k) (by rw [HL.out];exact hlt);have hrl:=nZ HS.out.row (i:=k) (by rw [HL.out];exact hlt);have DF:=aa (HS.out.row k (by rw [HL.out];exact hlt));have hnm:=HS.out.nm k hlt;have iR:=Uk HS.out.nd hlt;have aK:=Up.alloc wo (.cells #[.int .i64 k] 3);have k0:(wo.alloc (.cells #[.int .i64 k] 3)).cell? ⟨wo.heap.size,0,none⟩=some (.int .i64 k):=mE wo _ _;have b6:=aa (Qr (gs ns k) (by have:=Lc hnm;omega) (wo.alloc (.cells #[.int .i64 k] 3)));rw [hnm] at b6
   have fK:=aa (eT S (wo.alloc (.cells #[.int .i64 k] 3)) _ k (fun j=>gs ns j) (gs ns k) (zw (aC.keep HN.out ((hU.out.trans aK).kept S)) hk) (by omega));rw [iR] at fK;have V1:=aa (qO 56 #[.pointer (some ⟨wo.heap.size,0,none⟩)] (enters_of Tryz.func56 (by kernel_rfl) rfl) S _ _ (gl P k).length _ (fun j=>decide (gi (gl P k) j<0) || decide ((k:Int)<=gi (gl P k) j)) (af.keep hq (aK.kept S)) (by omega) (fun j _=>MO _ wo.heap.size k (gi (gl P k) j) k0))
   (have F4:((List.range (gl P k).length).any fun j=>decide (gi (gl P k) j<0) || decide ((k:Int)<=gi (gl P k) j))=false:=by rw [yP];intro j hj;have:=DF.out.1 (gi (gl P k) j) (by simp [gi,List.mem_range.1 hj]);simp;omega);rw [F4] at V1;replace dZ:wo.cell? ⟨nb,no+k,none⟩=some (.string (gs ns k)):=dZ;have HQ:=aa (af.keep hq (aK.kept S));have Dw:=aa (aK.cell jw);have bF:=aa (hU.out.trans aK);have c0':=hU.out.cell C0.out;have c2':=hU.out.cell C2.out;have acd:=bF.out.cell C0.out;have ace:=bF.out.cell C2.out;have Cy:=Dw.out
   (have j1:(k:Int)<(ns.length:Int):=by omega);(have j2:(k:Int)<8:=by omega);(have j3:k<=nc:=by omega);clear aK hq F4 hnm iR;generalize (gl P k)=row at *;generalize gs ns k=nm at *;go_wp2_with fail;generalize wo.alloc (.cells #[.int .i64 k] 3)=w2 at *;generalize wo.heap.size=kb at *;refine b6.out.mono ?_;rintro e w' ⟨rfl,rfl⟩;go_wp2_with fail;refine fK.out.mono ?_;rintro e w' ⟨rfl,rfl⟩;go_wp2_with fail;refine V1.out.mono ?_;rintro e w' ⟨rfl,rfl⟩;have K0:=aa k0;have bf:=aa hlt;clear b6 fK V1;go_wp2
   go_loopw [6] (fun i wr=>∃j:Nat,(j+1<=row.length\/j=0)/\i=.int .i64 ((j:Int)+1)/\Hid (Up w2 wr)) (fun i _=>row.length - (intOf i).toNat)
   case atStart=>exact ⟨0,.inr rfl,rfl,Up.refl _⟩
   case round =>
    obtain ⟨j,hj,rfl,gD⟩:=hrel;obtain ⟨wi,rfl⟩:=e9 wr;have e0:=gD.out.cell K0.out;have e2:=gD.out.cell (bF.out.cell C2.out);have e3:=gD.out.cell Dw.out;(have m0:(j:Int)<8:=by omega);by_cases hjl:j+1<row.length
    ·have m1:(j:Int)+1<(row.length:Int):=by omega
     (have m2:wrap64 ((j:Int)+1 - 1)=(j:Int):=by unfold wrap64;omega);obtain ⟨rb,ro,rfl,r0⟩:=dh (af.keep HQ.out (gD.out.kept S)) (k:=j) (by omega);have r1:=xL (af.keep HQ.out (gD.out.kept S)) (k:=j+1) hjl;have aai:=DF.out.2 j hjl;(have m3:decide (gi row (j+1)<=gi row j)=false:=by simp;omega);have x0:=aa gD.out;clear aai gD;go_wp2;(go_quiet (fail));go_wp2_with fail;have rK:=aa (x0.out.trans (Up.drewN wi nq))
     go_roundw
     case rel=>exact ⟨j+1,.inl (by omega),by go_num,rK.out⟩
     case measure=>simp [intOf];omega
    ·have m1:¬(j:Int)+1<(row.length:Int):=by omega
     have rK:=aa (bF.out.trans gD.out);go_wp2
     go_roundw
     case rel=>exact ⟨k+1,bf.out,by go_num,rK.out⟩
     case measure=>simp [intOf];omega
  ·obtain rfl:k=ns.length:=by omega
   have rK:=aa (bU.out.trans hU.out);go_wp2;go_ret;exact ⟨rfl,rK.out⟩
theorem MP (S:Nat->Prop) (w:World) (v:Value) (s:kI) (i:Nat) (h:aP S w v s) (hs:fD s.ns s.P) (hb:s.bs.length=s.ns.length) (hi:i<s.ns.length) :
  Calls Tryz.prog 31 #[v,.int .i64 i] w fun e w'=>e=.returned (.int .i64 0)/\Up w w':=by
 have hl:=hs.len;have i2:s.ns.length<=7:=hs.le;obtain ⟨np,nc,bp,bc,pp,pc,rfl,hN,hB,hP⟩:=aP.open h;have aM:=Up.alloc w (.cells #[.slice np s.ns.length nc,.slice bp s.bs.length bc,.slice pp s.P.length pc] 36);have c0:(w.alloc (.cells #[.slice np s.ns.length nc,.slice bp s.bs.length bc,.slice pp s.P.length pc] 36)).cell? ⟨w.heap.size,0,none⟩=some (.slice np s.ns.length nc):=by simp [World.cell?_alloc_new]
 have c1:(w.alloc (.cells #[.slice np s.ns.length nc,.slice bp s.bs.length bc,.slice pp s.P.length pc] 36)).cell? ⟨w.heap.size,1,none⟩=some (.slice bp s.bs.length bc):=by simp [World.cell?_alloc_new]
 have c2:(w.alloc (.cells #[.slice np s.ns.length nc,.slice bp s.bs.length bc,.slice pp s.P.length pc] 36)).cell? ⟨w.heap.size,2,none⟩=some (.slice pp s.P.length pc):=by simp [World.cell?_alloc_new]
 have HC:=aa (qP S _ _ s (h.keep (aM.kept S)) hs hb);have bU:=aa aM;clear h hN hB hP aM hs hl hb;generalize s.ns.length=n at *;generalize s.bs.length=nb at *;generalize s.P.length=ji at *;have j1:(i:Int)<(n:Int):=by omega
 have j0:(i:Int)<8:=by omega
 have j2:(0:Int)<=(i:Int):=by omega
 go_in;go_wp2_with fail;generalize w.alloc (.cells #[.slice np n nc,.slice bp nb bc,.slice pp ji pc] 36)=w1 at *;refine HC.out.mono ?_;rintro e w2 ⟨rfl,aK⟩;have c0':=aK.cell c0;have bF:=aa (bU.out.trans aK);go_wp2;go_ret;exact ⟨rfl,bF.out⟩
end
section
def aH (t:aA):List (List Int):=(List.range t.ps.length).map fun i=>if i=0 then [] else [gi t.ps i]
theorem cG (t:aA):(aH t).length=t.ps.length:=by simp [aH]
theorem oL {t:aA} {i:Nat} (h:i<t.ps.length):gl (aH t) i=if i=0 then [] else [gi t.ps i]:=by simp [gl,aH,h]
def mF (t:aA) (i:Nat):ByteArray:=if (gs t.ns i).size=0 then ⟨(120::Lib.decDigits i).toArray⟩ else gs t.ns i
def bI (t:aA):List ByteArray:=(List.range t.ps.length).map (mF t)
def qm (t:aA):Bool:=(List.range t.ps.length).any fun i=>(List.range i).any fun j=>decide (mF t j=mF t i)
theorem di (t:aA):(bI t).length=t.ps.length:=by simp [bI]
theorem uA {t:aA} {i:Nat} (h:i<t.ps.length):gs (bI t) i=mF t i:=by simp [gs,bI,h]
def dm (t:aA):List Bool:=(List.range t.ps.length).map fun i=>decide ((gs t.ns i).size≠0)
theorem gu (t:aA):(dm t).length=t.ps.length:=by simp [dm]
def qo (t:aA) (i:Nat):List Int:=if i=0 then [] else [gi t.ps i]
theorem MQ (t:aA) {k:Nat} (h:k<t.ps.length):(aH t).take (k+1)=(aH t).take k++[qo t k]:=by
 have hl:k<(aH t).length:=by rw [cG];exact h
 rw [iL hl];simp [aH,qo]
theorem Qs (t:aA) {k:Nat} (h:k<t.ps.length):(bI t).take (k+1)=(bI t).take k++[mF t k]:=by
 have hl:k<(bI t).length:=by rw [di];exact h
 rw [iL hl];simp [bI]
theorem Qt (t:aA) {k:Nat} (h:k<t.ps.length):(dm t).take (k+1)=(dm t).take k++[decide ((gs t.ns k).size≠0)]:=by
 have hl:k<(dm t).length:=by rw [gu];exact h
 rw [iL hl];simp [dm]
end
section
open Go.RowKit Go.Deep
def t3:aA:=⟨[-1,0,1,1,0],[⟨#[]⟩,⟨#[]⟩,⟨#[65]⟩,⟨#[66]⟩,⟨#[67]⟩]⟩
def s3:List Int:=[0,1,1]
theorem F5 (w:World) (cs:Array Value) (T:TypeId) (xs:List Int) (hcs:cs.toList=xs.map (Value.int .i64)) (n:Nat) (hn:n=xs.length):af Any (w.alloc (.cells cs T)) (.slice (some ⟨w.heap.size,0,none⟩) n n) xs:=by
 subst hn;refine ⟨_,_,rfl,aj _,.inr ⟨_,0,rfl,trivial,fun k hk=>?_⟩⟩;rw [jQ,bE,<- iZ,hcs];simp [gi,hk]
structure SY where
 un:Int
 st:Int
 src:List Int
theorem au.set {base:Nat} {e:TypeId} {w:World} {v:Value} {vs:List Value} (h:au base e w v vs) {j:Nat} (hj:j<vs.length) :
  ∃g cap,v=.slice (some ⟨g,0,none⟩) vs.length cap/\base<=g/\g<w.heap.size/\w.cell? ⟨g,j,none⟩=some (vs.getD j undef)/\w.frozen? ⟨g,j,none⟩=false/\∀x,au base e (w.setCell ⟨g,j,none⟩ x) v (vs.set j x):=by
 obtain ⟨hl,h | ⟨g,cap,cur,rfl,hg,hc,hn,hcm,hcs,ht⟩⟩:=h
 ·omega
 ·have wM:g<w.heap.size:=(bq.1 hc).1
  have ht1:cur.toList.take vs.length=vs:=by rw [Nat.mul_one] at ht;exact ht
  have hj2:j<cur.size:=by omega
  have hcell:cur[j]? = some (vs.getD j undef):=by (have h1:vs[j]? = some (vs.getD j undef):=by simp [hj]);rw [<- h1];have h2:=congrArg (·[j]?) ht1;simp only [List.getElem?_take,hj,if_true] at h2;rw [<- h2];simp
  refine ⟨g,cap,rfl,hg,wM,by simp [World.cell?,hc,hcell],by simp [World.frozen?,hc],fun x=>⟨by simp,.inr ⟨g,cap,cur.setIfInBounds j x,by simp,hg,?_,by simpa using hn,hcm,by simpa using hcs,?_⟩⟩⟩
  ·simp [World.setCell,Array.getElem?_modify,hc]
  ·rw [List.length_set,Nat.mul_one,Array.toList_setIfInBounds,List.take_set,ht1]
theorem JO (l:List Int) (j:Nat) (x:Int):(l.map (Value.int .i64)).set j (.int .i64 x)=(l.set j x).map (Value.int .i64):=by
 rw [List.map_set]
def iG (base:Nat) (T:TypeId) (w:World) (d:Value) (xs:List (List Int)):Prop :=
 ∃vals:List Value,vals.length=xs.length/\au base T w d vals/\∀i,i<xs.length->af (fun b=>some b≠d.ownBlock) w (vals.getD i undef) (gl xs i)
theorem az {base:Nat} {e:TypeId} {w:World} {v:Value} {vs:List Value} (h:au base e w v vs) {b:Nat} (hb:v.ownBlock=some b):base<=b/\b<w.heap.size:=mq h b hb
theorem iG.nil (base:Nat) (T:TypeId) (w:World):iG base T w (.slice none 0 0) []:=⟨[],rfl,au.nil _ _ _,fun _ hi=>absurd hi (cz _)⟩
theorem iG.rows {base:Nat} {T:TypeId} {w:World} {d:Value} {xs:List (List Int)} (h:iG base T w d xs):aS Any w d xs:=by
 obtain ⟨vals,hl,ho,hr⟩:=h;have h1:=ho.xC;rw [hl] at h1;exact ⟨_,h1.sub fun _ _ _=>trivial,fun k hk=>(hr k hk).sub fun _ _ _=>trivial⟩
theorem iG.kept {base:Nat} {T:TypeId} {w w':World} {d:Value} {xs:List (List Int)} (h:iG base T w d xs) (k:Up w w'):iG base T w' d xs:=by
 obtain ⟨vals,hl,ho,hr⟩:=h;exact ⟨vals,hl,ho.kept fun b _ hb=>aO k b hb,fun i hi=>(hr i hi).keep (k.kept _)⟩
section
variable {P:Program} {ops:Array Oper} {rest:List Oper} {o:Oper} {a:Act} {Q:Exit->Act->World->Prop}
theorem zx (W:World) (hgd:o.guard=none) (s x:Operand) (t:TypeId) (ho:o.op=.call { callee:=.builtin .append,args:=#[s,x],argTypes:=#[t,t] })
  (base:Nat) (e:TypeId) (z:Value) (bytes:Nat) (ht:P.underlying t=some (.slice e)) (hinfo:(P.info? e).map (fun i=>(i.zero,i.size,i.bytes))=some (some z,1,bytes))
  (hz1:z.cells.size=1) (mB:bytes<=64) {v:Value} {vs:List Value} (hown:au base e W v vs) (hs:a.eval s=v) (u:Value)
  (hx:a.eval x=.slice (some ⟨W.heap.size,0,none⟩) 1 1) (h1:u.oneCell'=true) (n:Nat) (xQ:vs.length=n) (hn:n<=1000000) (hbase:base<=W.heap.size)
  (h:∀g cap w',au base e w' (.slice (some ⟨g,0,none⟩) (n+1) cap) (vs++[u])->W.grownBy w' v.ownBlock->Below base W w'->wpList P ops Q rest (a.put o.dst (.slice (some ⟨g,0,none⟩) (n+1) cap)) w') :
  wpList P ops Q (o::rest) a (W.alloc (.cells #[u] e)):=by
 subst xQ;exact ja W hgd s x t ho base e z bytes ht hinfo hz1 mB hown hs u hx h1 hn hbase h
theorem ER (W:World) (hgd:o.guard=none) (s x:Operand) (t:TypeId) (ho:o.op=.call { callee:=.builtin .append,args:=#[s,x],argTypes:=#[t,t] })
  (base:Nat) (e:TypeId) (z:Value) (bytes:Nat) (ht:P.underlying t=some (.slice e)) (hinfo:(P.info? e).map (fun i=>(i.zero,i.size,i.bytes))=some (some z,1,bytes))
  (hz1:z.cells.size=1) (mB:bytes<=64) {v:Value} {xs:List (List Int)} (hown:iG base e W v xs) (hs:a.eval s=v) (u:Value) (y:List Int)
  (hx:a.eval x=.slice (some ⟨W.heap.size,0,none⟩) 1 1) (hu:af (fun b=>some b≠v.ownBlock) W u y) (h1:u.oneCell'=true) (n:Nat) (nV:xs.length=n) (hn:n<=1000000) (hbase:base<=W.heap.size)
  (h:∀g cap w',iG base e w' (.slice (some ⟨g,0,none⟩) (n+1) cap) (xs++[y])->W.grownBy w' v.ownBlock->Below base W w'->wpList P ops Q rest (a.put o.dst (.slice (some ⟨g,0,none⟩) (n+1) cap)) w') :
  wpList P ops Q (o::rest) a (W.alloc (.cells #[u] e)):=by
 subst nV;obtain ⟨i,hi,hzz⟩:=iN.1 hinfo;simp only [iO] at hzz;obtain ⟨hz,hs1,hb⟩:=hzz;obtain ⟨vals,hl,hown,hrows⟩:=hown;refine wpList_append_lies _ hgd s x t ho base e i z 1 bytes ht hi hz hs1 hb hz1 (by omega) v vals.length vals hs (hown.alloc _) ⟨W.heap.size,0,none⟩ 1 1 [u] hx rfl (cell_one_new _ _ _) (by simpa using h1) (by omega)
  (by unfold maxLen;omega) ?_ (by simp;omega) _ rfl fun g cap w' h2 h3 h4 _=>?_
 ·have:(vals.length+1)*bytes<=(vals.length+1)*64:=qK _ mB
  omega
 ·have hg:=gQ h3
  rw [hl] at h2 ⊢;have Am:∀b:Nat,some b≠v.ownBlock->b<W.heap.size->some b≠(Value.slice (some ⟨g,0,none⟩) (xs.length+1) cap).ownBlock:=fun b hb hlt e=>by
   simp only [Value.ownBlock,um] at e;rcases h4 with h4 | h4
   ·exact hb (by rw [h4,e])
   ·rw [aN] at h4;omega
  have hkeep:∀ {u':Value} {y':List Int},af (fun b=>some b≠v.ownBlock) W u' y'->af (fun b=>some b≠(Value.slice (some ⟨g,0,none⟩) (xs.length+1) cap).ownBlock) w' u' y':=fun hi' =>
   ((hi'.sub (T:=fun b=>some b≠v.ownBlock/\b<W.heap.size) fun b hb hlt=>⟨hb,hlt⟩).keep fun b hb hlt=>hg.block b hlt hb.1).sub fun b hb _=>Am b hb.1 hb.2
  refine h g cap w' ⟨vals++[u],by simp [hl],?_,fun i hi=>?_⟩ hg (hown.cQ hg hbase)
  ·unfold au;rw [bG,hl];exact h2
  ·rw [bG] at hi
   by_cases hi2:i<xs.length
   ·have e1:(vals++[u]).getD i undef=vals.getD i undef:=by simp [List.getElem?_append,hl,hi2]
    (have e2:gl (xs++[y]) i=gl xs i:=by simp [gl,List.getElem?_append,hi2]);rw [e1,e2];exact hkeep (hrows i hi2)
   ·obtain rfl:i=xs.length:=by simp at hi;omega
    (have e1:(vals++[u]).getD xs.length undef=u:=by simp [<- hl]);(have e2:gl (xs++[y]) xs.length=y:=by simp [gl]);rw [e1,e2];exact hkeep hu
end
theorem Tryz.eV:(Tryz.prog.info? 27).map (fun i=>(i.zero,i.size,i.bytes))=some (some (.slice none 0 0),1,24):=by kernel_rfl
def Ul (S:Nat->Prop) (w:World) (T:TypeId) (xs:List (List Int)) (en:Ending) (w':World):Prop :=
 Up w w'/\∃u vals,en=.returned u/\vals.length=xs.length/\au w.heap.size T w' u vals/\∀i,i<xs.length->af S w' (vals.getD i undef) (gl xs i)
theorem Qu {S:Nat->Prop} {w:World} {n cap:Nat} {xs:List (List Int)} (h:aS S w (.slice none n cap) xs):xs=[]:=by
 obtain ⟨f,⟨q,c,e,_,h⟩,_⟩:=h;injection e with e1 e2 e3;rcases h with h | ⟨b,off,h,_⟩
 ·exact nN h
 ·rw [<- e1] at h;cases h
theorem MR {u:Value} (h:∃p n c,u=.slice p n c):u.oneCell'=true:=by obtain ⟨_,_,_,rfl⟩:=h;rfl
theorem F6 (S:Nat->Prop) (w:World) (v:Value) (xs:List (List Int)) (h:aS S w v xs) (hn:xs.length<=1000000) :
  Calls Tryz.prog 32 #[v] w (Ul S w 27 xs):=by
 obtain ⟨p,cap,rfl,hcap,_⟩:=eE h;cases p with
 | none =>
  obtain rfl:=Qu h;have heq:=fun (w:World)=>Lib.run_eql_slice_nil (P:=Tryz.prog) w 23 27 none 0 cap 0 0 Tryz.underlying23;clear h;go_in;go_wp2;go_ret;exact ⟨Up.refl _,_,[],rfl,rfl,au.nil _ _ _,fun i hi=>absurd hi (cz _)⟩
 | some p =>
  have heq:=fun (w:World)=>Lib.run_eql_slice_nil (P:=Tryz.prog) w 23 27 (some p) xs.length cap 0 0 Tryz.underlying23;have hu:=Up.alloc w (.cells #[] 27);obtain ⟨f,ni,hr⟩:=h;obtain ⟨q,c,e,_,H⟩:=aB.open (aB.keep ni (hu.kept S));injection e with e1 e2 e3;subst e1;have hnl:((List.range xs.length).map f).length=xs.length:=by simp
  have hnews:∀j u,((List.range xs.length).map f)[j]? = some u->(w.alloc (.cells #[] 27)).cell? (p.add j)=some u:=fun j u hj=>by (have hj2:j<xs.length:=by have:=(mO.1 hj).1;simpa using this);obtain ⟨b,off,e,hc⟩:=H j hj2;injection e with e;subst e;(have Af:(⟨b,off,none⟩:Addr).add j=⟨b,off+j,none⟩:=by unfold Addr.add;split<;>simp_all);rw [Af,hc];simp [hj2] at hj;rw [hj]
  have hone:∀u∈(List.range xs.length).map f,u.oneCell'=true:=fun u aK=>by obtain ⟨k,hk,rfl⟩:=ek.1 aK;obtain ⟨p',c',e',_⟩:=hr k (bX.1 hk);exact MR ⟨_,_,_,e'⟩
  have HU:=aa hu;have HN:=aa hnews;have HO:=aa hone;have F7:=aa hnl;have HR:=aa hr;have HM:=aa (au.made w 27);clear ni hr H hnews hu hone hnl e2 e3;go_in;go_wp2_with (at_builtin;refine zu _ rfl _ _ 23 rfl w.heap.size 27 (.slice none 0 0) 24 Tryz.underlying23 Tryz.eV rfl (by decide) HM.out rfl p cap ((List.range xs.length).map f) (by rw [F7.out];rfl) HN.out HO.out (by rw [F7.out];simp;omega) (by simp) ?_;intro v' w' hown' hgrow Qn);go_ret;have dy:Up w w':=dI HU.out Qn
  refine ⟨dy,_,(List.range xs.length).map f,rfl,F7.out,by simpa using hown',fun i hi=>?_⟩;have e:((List.range xs.length).map f).getD i undef=f i:=by simp [hi]
  rw [e];exact (HR.out i hi).keep (dy.kept S)
end
section
open Go.RowKit Go.Shelf Go.Deep
attribute [local go_sem] vz
theorem au.SZ {base:Nat} {e:TypeId} {w w':World} {v:Value} {vs:List Value} (h:au base e w v vs) (k:∀b,v.ownBlock=some b->w'.heap[b]? = w.heap[b]?):au base e w' v vs:=by
 obtain ⟨hl,h | ⟨g,cap,cur,rfl,hg,hc,hr⟩⟩:=h
 ·exact ⟨hl,.inl h⟩
 ·exact ⟨hl,.inr ⟨g,cap,cur,rfl,hg,by rw [k g rfl];exact hc,hr⟩⟩
theorem au.F8 {base:Nat} {e:TypeId} {w:World} {v:Value} {vs:List Value} (h:au base e w v vs) {b:Nat} (hb:v.ownBlock=some b):∃c,w.heap[b]? = some (Obj.cells c e (0,0)):=by
 obtain ⟨_,⟨rfl,_⟩ | ⟨g,cap,cur,rfl,_,hc,_⟩⟩:=h
 ·cases hb
 ·injection hb with hb;subst hb;exact ⟨cur,hc⟩

end
section
open Go.RowKit Go.Shelf Go.Deep
end
end Go.Proofs.YtfomhlbhcifgbaaGreatDoor
