/- Lists of trees in memory: reading and appending. Reference 34: Great, GreatTrees. -/
import Derived.Test.YtfomhlbhcifgbaaGreatDoorQ44
set_option maxRecDepth 100000
set_option maxHeartbeats 2000000
namespace Go.Proofs.YtfomhlbhcifgbaaGreatDoor
section
open Go.RowKit Go.Deep
def l7 (S:Nat->Prop) (w:World) (v:Value) (ts:List aA):Prop :=
 ∃p cap,v=.slice p ts.length cap/\ts.length<=cap/\(ts.length=0\/∃b off,p=some ⟨b,off,none⟩/\S b/\∀k,k<ts.length->∃P N,w.cell? ⟨b,off+k*2,none⟩=some P/\w.cell? ⟨b,off+k*2+1,none⟩=some N/\aJ S w (.agg #[P,N]) (gt ts k))
theorem Cq {S:Nat->Prop} {w:World} {v:Value} {ts:List aA} (h:l7 S w v ts):∃p cap,v=.slice p ts.length cap/\ts.length<=cap:=by
 obtain ⟨p,cap,e,hn,_⟩:=h;exact ⟨p,cap,e,hn⟩
theorem l7.nil (S:Nat->Prop) (w:World):l7 S w (.slice none 0 0) []:=⟨none,0,rfl,aj _,.inl rfl⟩
theorem O8 {S:Nat->Prop} {w:World} {p:Option Addr} {n cap:Nat} {ts:List aA} (h:l7 S w (.slice p n cap) ts) {k:Nat} (hk:k<ts.length) :
  ∃b off pp pc np nc,p=some ⟨b,off,none⟩/\w.cell? ⟨b,off+k*2,none⟩=some (.slice pp (gt ts k).ps.length pc)/\w.cell? ⟨b,off+k*2+1,none⟩=some (.slice np (gt ts k).ns.length nc)/\aJ S w (.agg #[.slice pp (gt ts k).ps.length pc,.slice np (gt ts k).ns.length nc]) (gt ts k):=by
 obtain ⟨q,c,e,_,h⟩:=h;injection e with e1;subst e1;rcases h with h | ⟨b,off,rfl,_,h⟩
 ·omega
 ·obtain ⟨P,N,h1,h2,h3⟩:=h k hk
  obtain ⟨P1,N1,e,hP,hN⟩:=h3;injection e with e;have e1:P=P1/\N=N1:=by simpa using e
  obtain ⟨rfl,rfl⟩:=e1;obtain ⟨pp,pc,rfl,_,_⟩:=aB.open hP;obtain ⟨np,nc,rfl,_,_⟩:=aB.open hN;exact ⟨b,off,pp,pc,np,nc,rfl,h1,h2,_,_,rfl,hP,hN⟩
abbrev nh:=(Value×Value)×aA
def wH (x:nh):List Value:=[x.1.1,x.1.2]
def lJ (es:List nh):List Value:=es.flatMap wH
def xk (es:List nh) (k:Nat):nh:=es.getD k ((undef,undef),⟨[],[]⟩)
theorem Jz (es:List nh) (x:nh):lJ (es++[x])=lJ es++wH x:=by unfold lJ;rw [o9];simp
theorem EO:∀(es:List nh) (k:Nat),k<es.length->(lJ es)[k*2]? = some (xk es k).1.1/\(lJ es)[k*2+1]? = some (xk es k).1.2
 | [],k,h=>absurd h (cz _)
 | x::es,0,_=>by simp [lJ,wH,xk]
 | x::es,k+1,h=>by
  have ih:=EO es k (by simpa using h)
  have e:(k+1)*2=k*2+1+1:=by omega
  have e2:xk (x::es) (k+1)=xk es k:=by simp [xk]
  have e3:lJ (x::es)=x.1.1::x.1.2::lJ es:=by simp [lJ,wH]
  rw [e2,e3,e]
  simp only [List.getElem?_cons_succ]
  exact ih
def kS (base:Nat) (w:World) (v:Value) (es:List nh):Prop :=
 w.ownsRow base 33 2 v es.length (lJ es)/\∀x∈es,aJ (fun b=>some b≠v.ownBlock) w (.agg #[x.1.1,x.1.2]) x.2
theorem kS.nil (base:Nat) (w:World):kS base w (.slice none 0 0) []:=⟨World.ownsRow_nil _ _ _ _,fun _ h=>by cases h⟩
theorem kS.up {base:Nat} {w w':World} {v:Value} {es:List nh} (h:kS base w v es) (hu:Up w w'):kS base w' v es :=
 ⟨EG h.1 fun b hb=>aO hu b (mq h.1 b hb).2,fun x hx=>(h.2 x hx).keep (hu.kept _)⟩
theorem kS.form {base:Nat} {w:World} {v:Value} {es:List nh} (h:kS base w v es):∃p c,v=.slice p es.length c:=by
 rcases h.1.2 with ⟨e,h0⟩ | ⟨g,cap,cur,e,_⟩
 ·exact ⟨none,0,by rw [e,h0]⟩
 ·exact ⟨_,_,e⟩
theorem U7 {es:List nh} {k:Nat} (h:k<es.length):xk es k∈es:=by simp [xk,h]
theorem kS.trees {base:Nat} {w:World} {v:Value} {es:List nh} (h:kS base w v es):l7 Any w v (es.map (·.2)):=by
 obtain ⟨ho,hT⟩:=h;have hgt:∀k,k<es.length->gt (es.map (·.2)) k=(xk es k).2:=fun k hk=>by simp [gt,xk,hk]
 rcases ho.2 with ⟨e,h0⟩ | ⟨g,cap,cur,e,hg,hc,hn,hcm,hcs,ht⟩
 ·have Bh:es.length=0:=h0
  have:es=[]:=nN Bh;subst this;subst e;exact l7.nil _ _
 ·subst e
  refine ⟨_,cap,by rw [aD],by rw [aD];exact hn,.inr ⟨g,0,rfl,trivial,fun k hk=>?_⟩⟩;rw [aD] at hk;rw [hgt k hk];obtain ⟨c0,c1⟩:=EO es k hk;refine ⟨(xk es k).1.1,(xk es k).1.2,?_,?_,(hT _ (U7 hk)).sub fun _ _ _=>trivial⟩
  ·rw [jQ,ho.cellAt (k*2) (by omega)];exact c0
  ·rw [jQ,ho.cellAt (k*2+1) (by omega)];exact c1
section
variable {P:Program} {ops:Array Oper} {rest:List Oper} {o:Oper} {a:Act} {Q:Exit->Act->World->Prop}
theorem IW (W:World) (hgd:o.guard=none) (s x:Operand) (t:TypeId) (ho:o.op=.call { callee:=.builtin .append,args:=#[s,x],argTypes:=#[t,t] })
  (base:Nat) (z:Value) (bytes:Nat) (ht:P.underlying t=some (.slice 33)) (hinfo:(P.info? 33).map (fun i=>(i.zero,i.size,i.bytes))=some (some z,2,bytes))
  (hz1:z.cells.size=2) (mB:bytes<=64) {v:Value} {es:List nh} (hown:kS base W v es) (hs:a.eval s=v) (G:nh)
  (hx:a.eval x=.slice (some ⟨W.heap.size,0,none⟩) 1 1) (hu:aJ (fun b=>some b≠v.ownBlock) W (.agg #[G.1.1,G.1.2]) G.2) (n:Nat) (nV:es.length=n) (hn:n<=1000000) (hbase:base<=W.heap.size)
  (h:∀g cap w',kS base w' (.slice (some ⟨g,0,none⟩) (n+1) cap) (es++[G])->W.grownBy w' v.ownBlock->Below base W w'->wpList P ops Q rest (a.put o.dst (.slice (some ⟨g,0,none⟩) (n+1) cap)) w') :
  wpList P ops Q (o::rest) a (W.alloc (.cells #[G.1.1,G.1.2] 33)):=by
 subst nV;obtain ⟨i,hi,hzz⟩:=iN.1 hinfo;simp only [iO] at hzz;obtain ⟨hz,hs1,hb⟩:=hzz;obtain ⟨hown,hrows⟩:=hown;have h1:G.1.1.oneCell'=true/\G.1.2.oneCell'=true:=by
  obtain ⟨P1,N1,e,hP,hN⟩:=hu;injection e with e;have e1:G.1.1=P1/\G.1.2=N1:=by simpa using e
  obtain ⟨p,c,e2,_⟩:=aB.open hP;obtain ⟨q,d,e3,_⟩:=aB.open hN;rw [e1.1,e1.2,e2,e3];exact ⟨rfl,rfl⟩
 refine wpList_append_lies _ hgd s x t ho base 33 i z 2 bytes ht hi hz hs1 hb hz1 (by omega) v es.length (lJ es) hs (hown.alloc _) ⟨W.heap.size,0,none⟩ 1 1 (wH G) hx rfl ?_ (fun q hq=>by
  unfold wH at hq;rcases bQ.1 hq with e | hq
  ·subst e;exact h1.1
  ·rw [eN.1 hq];exact h1.2) (by omega)
  (by unfold maxLen;omega) ?_ (by simp;omega) _ rfl fun g cap w' h2 h3 h4 _=>?_
 ·intro j u' hj
  match j with
  | 0 =>
   (obtain rfl:G.1.1=u':=by simpa [wH] using hj);exact bE W _ _ 0
  | 1 =>
   (obtain rfl:G.1.2=u':=by simpa [wH] using hj);exact bE W _ _ 1
  | j+2=>simp [wH] at hj
 ·have:(es.length+1)*bytes<=(es.length+1)*64:=qK _ mB
  omega
 ·have hg:=gQ h3
  have Am:∀b:Nat,some b≠v.ownBlock->b<W.heap.size->some b≠(Value.slice (some ⟨g,0,none⟩) (es.length+1) cap).ownBlock:=fun b hb hlt e=>by
   simp only [Value.ownBlock,um] at e;rcases h4 with h4 | h4
   ·exact hb (by rw [h4,e])
   ·rw [aN] at h4;omega
  have hkeep:∀ {u':Value} {y':aA},aJ (fun b=>some b≠v.ownBlock) W u' y'->aJ (fun b=>some b≠(Value.slice (some ⟨g,0,none⟩) (es.length+1) cap).ownBlock) w' u' y':=fun hi'=>by obtain ⟨P1,N1,e,hP,hN⟩:=hi';have k:Kept (fun b=>some b≠v.ownBlock/\b<W.heap.size) W w':=fun b hb hlt=>hg.block b hlt hb.1;exact ⟨P1,N1,e,(af.keep (hP.sub fun b hb hlt=>⟨hb,hlt⟩) k).sub fun b hb _=>Am b hb.1 hb.2,(aC.keep (hN.sub fun b hb hlt=>⟨hb,hlt⟩) k).sub fun b hb _=>Am b hb.1 hb.2⟩
  refine h g cap w' ⟨by rw [bG,Jz];exact h2,fun x hx=>?_⟩ hg (Below.grown (b7 _ _) hg hbase fun k hk=>(mq hown k hk).1);rcases eD.1 hx with hx | hx
  ·exact hkeep (hrows x hx)
  ·rw [eN.1 hx];exact hkeep hu
end
theorem Tryz.infoTree:(Tryz.prog.info? 33).map (fun i=>(i.zero,i.size,i.bytes))=some (some (.agg #[.slice none 0 0,.slice none 0 0]),2,48):=by kernel_rfl
def O9 (acF:List ByteArray):Bool:=(List.range acF.length).any fun i=>decide (20<(gs acF i).size)
def mU (n:Nat):Bool:=(decide (6<n)&&decide (n<=4096)) || decide (4098<n)
def Pa (acG:List (List Int)):Bool:=(List.range acG.length).any fun i=>mU (gl acG i).length
def zg (n m:Nat):Bool:=(decide (5<n)&&decide (n<=7)) || decide (10<n) || decide (10<m)
def kA (acF:List ByteArray) (acG:List (List Int)):Bool:=O9 acF || Pa acG || zg acF.length acG.length
structure R6 (acF:List ByteArray) (acG:List (List Int)):Prop where
 nm:∀k,(gs acF k).size<=20
 row:∀k,(gl acG k).length<=6\/(4096<(gl acG k).length/\(gl acG k).length<=4098)
 n5:acF.length<=5\/(7<acF.length/\acF.length<=10)
 m10:acG.length<=10
theorem nJ {acF:List ByteArray} {acG:List (List Int)} (h:kA acF acG=false):R6 acF acG:=by
 unfold kA at h;rw [Bool.or_eq_false_iff,Bool.or_eq_false_iff] at h;obtain ⟨⟨h1,h2⟩,h3⟩:=h;refine ⟨fun k=>?_,fun k=>?_,?_,?_⟩
 ·by_cases hk:k<acF.length
  ·have:=of_decide_eq_false (any_false h1 hk)
   omega
  ·have:gs acF k=ByteArray.empty:=by simp [gs,hk]
   rw [this];exact bg _
 ·by_cases hk:k<acG.length
  ·have:=any_false h2 hk
   unfold mU at this;simp at this;omega
  ·have:gl acG k=[]:=by simp [gl,hk]
   rw [this];exact .inl (bg _)
 ·unfold zg at h3
  simp at h3;omega
 ·unfold zg at h3
  simp at h3;omega
theorem R6.IX {acF:List ByteArray} {acG:List (List Int)} (h:R6 acF acG):acF.length<=10/\(∀k,(gl acG k).length<=4098)/\(acF.length<=5\/7<acF.length):=by
 have h1:=h.n5;refine ⟨by omega,fun k=>?_,by omega⟩;have:=h.row k;omega
theorem Pb (S T:Nat->Prop) (w:World) (v vs:Value) (acF:List ByteArray) (acG:List (List Int)) (h:aC S w v acF) (hS:aS T w vs acG) (hn:acF.length<=9223372036854775807) (hz:∀k,(gs acF k).size<=9223372036854775807) (hm:acG.length<=9223372036854775807) (hr:∀k,(gl acG k).length<=9223372036854775807) :
  Calls Tryz.prog 4 #[v,vs] w fun e w'=>e=.returned (.bool (kA acF acG))/\w=w':=by
 obtain ⟨p,cap,rfl,hcap,-⟩:=aB.open h;have h:aC S w (.slice p acF.length cap) acF:=h;obtain ⟨sp,sc,rfl,-,-⟩:=eE hS;have HG:Hid (kA acF acG=(O9 acF || Pa acG || zg acF.length acG.length)):=rfl;have Y0:Hid (O9 acF=(List.range acF.length).any fun i=>decide (20<(gs acF i).size)):=rfl;have Y1:Hid (Pa acG=(List.range acG.length).any fun i=>mU (gl acG i).length):=rfl;have HN:=aa h;have HS:=aa hS;have HZ:=aa hz;have HR:=aa hr;clear h hS hz hr;go_in;go_wp2
 go_loop [5] (fun i=>∃k:Nat,k<=acF.length/\i=.int .i64 k/\Hid (∀j,j<k->decide (20<(gs acF j).size)=false)) (fun i=>acF.length - (intOf i).toNat)
 case atStart=>exact ⟨0,bg _,rfl,fun j hj=>absurd hj (cz _)⟩
 case round =>
  obtain ⟨k,hk,rfl,hd⟩:=hrel;by_cases hlt:k<acF.length
  ·obtain ⟨b,off,rfl,hc⟩:=fI HN.out hlt
   (have EP:Hid (20<(gs acF k).size->O9 acF=true):=fun h1=>by rw [Y0.out];exact uo hlt (decide_eq_true h1));(have HX:Hid (¬20<(gs acF k).size->∀j,j<k+1->decide (20<(gs acF j).size)=false):=fun h1 j hj=>if e:j=k then by subst e;exact decide_eq_false h1 else hd.out j (by omega));have hsz:=HZ.out k;generalize gs acF k=nm at *;by_cases h20:20<nm.size
   ·have HF:Hid (kA acF acG=true):=by unfold Hid;rw [HG.out,EP.out h20];rfl
    go_wp2;go_ret;exact ⟨bu HF.out.symm,rfl⟩
   ·have ko:=aa (HX.out h20)
    go_wp2
    go_round
    case rel=>exact ⟨k+1,by omega,by go_num,ko.out⟩
    case measure=>simp [intOf];omega
  ·obtain rfl:k=acF.length:=by omega
   (have HNF:Hid (O9 acF=false):=by unfold Hid;rw [Y0.out];exact any_none hd.out);clear hd hlt hk;go_wp2
   go_loop [6,7] (fun i _=>∃k:Nat,k<=acG.length/\i=.int .i64 k/\Hid (∀j,j<k->mU (gl acG j).length=false)) (fun i _=>acG.length - (intOf i).toNat)
   case atStart=>exact ⟨0,bg _,rfl,fun j hj=>absurd hj (cz _)⟩
   case round =>
    obtain ⟨k,hk,rfl,hd⟩:=hrel;by_cases hlt:k<acG.length
    ·obtain ⟨b,off,r0,r1,rfl,hc,-⟩:=dV HS.out hlt
     (have EP:Hid (mU (gl acG k).length=true->Pa acG=true):=fun h1=>by rw [Y1.out];exact uo hlt h1);(have HX:Hid (mU (gl acG k).length=false->∀j,j<k+1->mU (gl acG j).length=false):=fun h1 j hj=>if e:j=k then by subst e;exact h1 else hd.out j (by omega));have hsz:=HR.out k;have Kk:Hid (mU (gl acG k).length=((decide (6<(gl acG k).length)&&decide ((gl acG k).length<=4096)) || decide (4098<(gl acG k).length))):=rfl;generalize (gl acG k).length=m at *
     (have key:(6<m/\m<=4096/\mU m=true)\/(6<m/\4096<m/\4098<m/\mU m=true)\/(6<m/\4096<m/\m<=4098/\mU m=false)\/(m<=6/\mU m=false):=by rw [Kk.out];by_cases q1:6<m<;>by_cases q2:m<=4096<;>by_cases q3:4098<m<;>simp [q1,q2,q3]<;>omega);rcases key with ⟨q1,q2,q⟩ | ⟨q1,q2,q3,q⟩ | ⟨q1,q2,q3,q⟩ | ⟨q1,q⟩
     ·have HF:Hid (kA acF acG=true):=by unfold Hid;rw [HG.out,EP.out q];simp
      (have d1:decide (6<(m:Int))=true:=by simp;omega);(have d2:decide ((m:Int)<=4096)=true:=by simp;omega);clear EP HX Kk q;go_wp2_with fail
      all_goals (go_ret;exact ⟨bu HF.out.symm,rfl⟩)
     ·have HF:Hid (kA acF acG=true):=by unfold Hid;rw [HG.out,EP.out q];simp
      (have d1:decide (6<(m:Int))=true:=by simp;omega);(have d2:decide ((m:Int)<=4096)=false:=by simp;omega);(have d3:decide (4098<(m:Int))=true:=by simp;omega);clear EP HX Kk q;go_wp2_with fail
      all_goals (go_ret;exact ⟨bu HF.out.symm,rfl⟩)
     ·have ko:=aa (HX.out q)
      (have d1:decide (6<(m:Int))=true:=by simp;omega);(have d2:decide ((m:Int)<=4096)=false:=by simp;omega);(have d3:decide (4098<(m:Int))=false:=by simp;omega);clear EP HX Kk q;go_wp2
      go_round
      case rel=>exact ⟨k+1,by omega,by go_num,ko.out⟩
      case measure=>simp [intOf];omega
     ·have ko:=aa (HX.out q)
      (have d1:decide (6<(m:Int))=false:=by simp;omega);(have d3:decide (4098<(m:Int))=false:=by simp;omega);clear EP HX Kk q;go_wp2
      go_round
      case rel=>exact ⟨k+1,by omega,by go_num,ko.out⟩
      case measure=>simp [intOf];omega
    ·obtain rfl:k=acG.length:=by omega
     (have IB:Hid (Pa acG=false):=by unfold Hid;rw [Y1.out];exact any_none hd.out);(have HF:Hid (kA acF acG=zg acF.length acG.length):=by unfold Hid;rw [HG.out,HNF.out,IB.out];simp);have HT:Hid (zg acF.length acG.length=((decide (5<acF.length)&&decide (acF.length<=7)) || decide (10<acF.length) || decide (10<acG.length))):=rfl;clear hd hlt hk HG Y0 Y1 HNF IB HN HS HZ HR;generalize acF.length=n at *;generalize acG.length=m at *;by_cases q1:5<n
     ·by_cases q2:n<=7
      ·have HB:Hid (kA acF acG=true):=by unfold Hid;rw [HF.out,HT.out];simp [q1,q2]
       go_wp2_with fail
       all_goals (go_ret;refine ⟨bu ?_,rfl⟩;first | (rw [HB.out];done) | (rw [HB.out];simp;done) | (rw [HB.out];simp;omega))
      ·by_cases q3:10<n
       ·have HB:Hid (kA acF acG=true):=by unfold Hid;rw [HF.out,HT.out];simp [q3]
        go_wp2_with fail
        all_goals (go_ret;refine ⟨bu ?_,rfl⟩;first | (rw [HB.out];done) | (rw [HB.out];simp;done) | (rw [HB.out];simp;omega))
       ·by_cases q4:10<m
        ·have HB:Hid (kA acF acG=true):=by unfold Hid;rw [HF.out,HT.out];simp [q4]
         go_wp2_with fail
         all_goals (go_ret;refine ⟨bu ?_,rfl⟩;first | (rw [HB.out];done) | (rw [HB.out];simp;done) | (rw [HB.out];simp;omega))
        ·have HB:Hid (kA acF acG=false):=by unfold Hid;rw [HF.out,HT.out];simp [q2,q3,q4]
         go_wp2_with fail
         all_goals (go_ret;refine ⟨bu ?_,rfl⟩;first | (rw [HB.out];done) | (rw [HB.out];simp;done) | (rw [HB.out];simp;omega))
     ·have q3:¬10<n:=by omega
      by_cases q4:10<m
      ·have HB:Hid (kA acF acG=true):=by unfold Hid;rw [HF.out,HT.out];simp [q4]
       go_wp2_with fail
       all_goals (go_ret;refine ⟨bu ?_,rfl⟩;first | (rw [HB.out];done) | (rw [HB.out];simp;done) | (rw [HB.out];simp;omega))
      ·have HB:Hid (kA acF acG=false):=by unfold Hid;rw [HF.out,HT.out];simp [q1,q3,q4]
       go_wp2_with fail
       all_goals (go_ret;refine ⟨bu ?_,rfl⟩;first | (rw [HB.out];done) | (rw [HB.out];simp;done) | (rw [HB.out];simp;omega))
end
end Go.Proofs.YtfomhlbhcifgbaaGreatDoor
