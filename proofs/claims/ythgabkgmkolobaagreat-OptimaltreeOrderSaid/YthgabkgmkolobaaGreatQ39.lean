/- Lists of trees in memory: reading and appending. optimaltree.All. Plain and map help for .. -/
import Derived.Test.YthgabkgmkolobaaGreatQ38
set_option maxRecDepth 100000
set_option maxHeartbeats 4000000
namespace Go.Proofs.YthgabkgmkolobaaGreat
section
open Go.RowKit Go.Deep
def ew (S:Nat->Prop) (w:World) (v:Value) (ts:List aF):Prop :=
 ∃p cap,v=.slice p ts.length cap/\ts.length<=cap/\(ts.length=0\/∃b off,p=some ⟨b,off,none⟩/\S b/\∀k,k<ts.length->∃P N,w.cell? ⟨b,off+k*2,none⟩=some P/\w.cell? ⟨b,off+k*2+1,none⟩=some N/\aC S w (.agg #[P,N]) (gt ts k))
theorem ew.keep {S:Nat->Prop} {w w':World} {v:Value} {ts:List aF} (h:ew S w v ts) (k:Kept S w w'):ew S w' v ts:=by
 obtain ⟨p,cap,rfl,hn,h⟩:=h;refine ⟨p,cap,rfl,hn,?_⟩;rcases h with h | ⟨b,off,rfl,hS,h⟩
 ·exact .inl h
 ·refine .inr ⟨b,off,rfl,hS,fun i hi=>?_⟩
  obtain ⟨P,N,h1,h2,h3⟩:=h i hi;have hlt:b<w.heap.size:=dN w _ h1;have hc:∀o,w'.cell? ⟨b,o,none⟩=w.cell? ⟨b,o,none⟩:=fun o=>fG (a:=⟨b,o,none⟩) (k b hS hlt);exact ⟨P,N,(hc _).trans h1,(hc _).trans h2,h3.keep k⟩
theorem o6 {S:Nat->Prop} {w:World} {v:Value} {ts:List aF} (h:ew S w v ts):∃p cap,v=.slice p ts.length cap/\ts.length<=cap:=by
 obtain ⟨p,cap,e,hn,_⟩:=h;exact ⟨p,cap,e,hn⟩
theorem ew.nil (S:Nat->Prop) (w:World):ew S w (.slice none 0 0) []:=⟨none,0,rfl,ah _,.inl rfl⟩
theorem E9 {S:Nat->Prop} {w:World} {p:Option Addr} {n cap:Nat} {ts:List aF} (h:ew S w (.slice p n cap) ts) {k:Nat} (hk:k<ts.length) :
  ∃b off pp pc np nc,p=some ⟨b,off,none⟩/\w.cell? ⟨b,off+k*2,none⟩=some (.slice pp (gt ts k).ps.length pc)/\w.cell? ⟨b,off+k*2+1,none⟩=some (.slice np (gt ts k).ns.length nc)/\aC S w (.agg #[.slice pp (gt ts k).ps.length pc,.slice np (gt ts k).ns.length nc]) (gt ts k):=by
 obtain ⟨q,c,e,_,h⟩:=h;injection e with e1;subst e1;rcases h with h | ⟨b,off,rfl,_,h⟩
 ·omega
 ·obtain ⟨P,N,h1,h2,h3⟩:=h k hk
  obtain ⟨P1,N1,e,hP,hN⟩:=h3;injection e with e;have e1:P=P1/\N=N1:=by simpa using e
  obtain ⟨rfl,rfl⟩:=e1;obtain ⟨pp,pc,rfl,_,_⟩:=aA.open hP;obtain ⟨np,nc,rfl,_,_⟩:=aA.open hN;exact ⟨b,off,pp,pc,np,nc,rfl,h1,h2,_,_,rfl,hP,hN⟩
abbrev mR:=(Value×Value)×aF
def xB (x:mR):List Value:=[x.1.1,x.1.2]
def mh (es:List mR):List Value:=es.flatMap xB
def xZ (es:List mR) (k:Nat):mR:=es.getD k ((undef,undef),⟨[],[]⟩)
theorem JQ (es:List mR) (x:mR):mh (es++[x])=mh es++xB x:=by unfold mh;rw [qh];simp
theorem Fa:∀(es:List mR) (k:Nat),k<es.length->(mh es)[k*2]? = some (xZ es k).1.1/\(mh es)[k*2+1]? = some (xZ es k).1.2
 | [],k,h=>absurd h (bS _)
 | x::es,0,_=>by simp [mh,xB,xZ]
 | x::es,k+1,h=>by
  have ih:=Fa es k (by simpa using h)
  have e:(k+1)*2=k*2+1+1:=by omega
  have e2:xZ (x::es) (k+1)=xZ es k:=by simp [xZ]
  have e3:mh (x::es)=x.1.1::x.1.2::mh es:=by simp [mh,xB]
  rw [e2,e3,e]
  simp only [List.getElem?_cons_succ]
  exact ih
def jV (base:Nat) (w:World) (v:Value) (es:List mR):Prop :=
 w.ownsRow base 39 2 v es.length (mh es)/\∀x∈es,aC (fun b=>some b≠v.ownBlock) w (.agg #[x.1.1,x.1.2]) x.2
theorem jV.nil (base:Nat) (w:World):jV base w (.slice none 0 0) []:=⟨World.ownsRow_nil _ _ _ _,fun _ h=>by cases h⟩
theorem jV.up {base:Nat} {w w':World} {v:Value} {es:List mR} (h:jV base w v es) (hu:Up w w'):jV base w' v es :=
 ⟨E7 h.1 fun b hb=>bH hu b (lT h.1 b hb).2,fun x hx=>(h.2 x hx).keep (hu.kept _)⟩
theorem jV.form {base:Nat} {w:World} {v:Value} {es:List mR} (h:jV base w v es):∃p c,v=.slice p es.length c:=by
 rcases h.1.2 with ⟨e,h0⟩ | ⟨g,cap,cur,e,_⟩
 ·exact ⟨none,0,by rw [e,h0]⟩
 ·exact ⟨_,_,e⟩
theorem Uz {es:List mR} {k:Nat} (h:k<es.length):xZ es k∈es:=by simp [xZ,h]
theorem jV.trees {base:Nat} {w:World} {v:Value} {es:List mR} (h:jV base w v es):ew Any w v (es.map (·.2)):=by
 obtain ⟨ho,hT⟩:=h;have hgt:∀k,k<es.length->gt (es.map (·.2)) k=(xZ es k).2:=fun k hk=>by simp [gt,xZ,hk]
 rcases ho.2 with ⟨e,h0⟩ | ⟨g,cap,cur,e,hg,hc,hn,hcm,hcs,ht⟩
 ·have FN:es.length=0:=h0
  have:es=[]:=lu FN;subst this;subst e;exact ew.nil _ _
 ·subst e
  refine ⟨_,cap,by rw [aD],by rw [aD];exact hn,.inr ⟨g,0,rfl,trivial,fun k hk=>?_⟩⟩;rw [aD] at hk;rw [hgt k hk];obtain ⟨c0,c1⟩:=Fa es k hk;refine ⟨(xZ es k).1.1,(xZ es k).1.2,?_,?_,(hT _ (Uz hk)).sub fun _ _ _=>trivial⟩
  ·rw [ij,ho.cellAt (k*2) (by omega)];exact c0
  ·rw [ij,ho.cellAt (k*2+1) (by omega)];exact c1
section
variable {P:Program} {ops:Array Oper} {rest:List Oper} {o:Oper} {a:Act} {Q:Exit->Act->World->Prop}
theorem zk (W:World) (hgd:o.guard=none) (s x:Operand) (t:TypeId) (ho:o.op=.call { callee:=.builtin .append,args:=#[s,x],argTypes:=#[t,t] })
  (base:Nat) (z:Value) (bytes:Nat) (ht:P.underlying t=some (.slice 39)) (hinfo:(P.info? 39).map (fun i=>(i.zero,i.size,i.bytes))=some (some z,2,bytes))
  (hz1:z.cells.size=2) (gL:bytes<=64) {v:Value} {es:List mR} (hown:jV base W v es) (hs:a.eval s=v) (G:mR)
  (hx:a.eval x=.slice (some ⟨W.heap.size,0,none⟩) 1 1) (hu:aC (fun b=>some b≠v.ownBlock) W (.agg #[G.1.1,G.1.2]) G.2) (n:Nat) (qF:es.length=n) (hn:n<=1000000) (hbase:base<=W.heap.size)
  (h:∀g cap w',jV base w' (.slice (some ⟨g,0,none⟩) (n+1) cap) (es++[G])->W.grownBy w' v.ownBlock->Below base W w'->wpList P ops Q rest (a.put o.dst (.slice (some ⟨g,0,none⟩) (n+1) cap)) w') :
  wpList P ops Q (o::rest) a (W.alloc (.cells #[G.1.1,G.1.2] 39)):=by
 subst qF;obtain ⟨i,hi,hzz⟩:=iq.1 hinfo;simp only [iM] at hzz;obtain ⟨hz,hs1,hb⟩:=hzz;obtain ⟨hown,hrows⟩:=hown;have h1:G.1.1.oneCell'=true/\G.1.2.oneCell'=true:=by
  obtain ⟨P1,N1,e,hP,hN⟩:=hu;injection e with e;have e1:G.1.1=P1/\G.1.2=N1:=by simpa using e
  obtain ⟨p,c,e2,_⟩:=aA.open hP;obtain ⟨q,d,e3,_⟩:=aA.open hN;rw [e1.1,e1.2,e2,e3];exact ⟨rfl,rfl⟩
 refine wpList_append_lies _ hgd s x t ho base 39 i z 2 bytes ht hi hz hs1 hb hz1 (by omega) v es.length (mh es) hs (hown.alloc _) ⟨W.heap.size,0,none⟩ 1 1 (xB G) hx rfl ?_ (fun q hq=>by
  unfold xB at hq;rcases bX.1 hq with e | hq
  ·subst e;exact h1.1
  ·rw [jT.1 hq];exact h1.2) (by omega)
  (by unfold maxLen;omega) ?_ (by simp;omega) _ rfl fun g cap w' h2 h3 h4 _=>?_
 ·intro j u' hj
  match j with
  | 0 =>
   (obtain rfl:G.1.1=u':=by simpa [xB] using hj);exact aH W _ _ 0
  | 1 =>
   (obtain rfl:G.1.2=u':=by simpa [xB] using hj);exact aH W _ _ 1
  | j+2=>simp [xB] at hj
 ·have:(es.length+1)*bytes<=(es.length+1)*64:=mS _ gL
  omega
 ·have hg:=jE h3
  have IY:∀b:Nat,some b≠v.ownBlock->b<W.heap.size->some b≠(Value.slice (some ⟨g,0,none⟩) (es.length+1) cap).ownBlock:=fun b hb hlt e=>by
   simp only [Value.ownBlock,Option.some.injEq] at e;rcases h4 with h4 | h4
   ·exact hb (by rw [h4,e])
   ·rw [aL] at h4;omega
  have hkeep:∀ {u':Value} {y':aF},aC (fun b=>some b≠v.ownBlock) W u' y'->aC (fun b=>some b≠(Value.slice (some ⟨g,0,none⟩) (es.length+1) cap).ownBlock) w' u' y':=fun hi'=>by obtain ⟨P1,N1,e,hP,hN⟩:=hi';have k:Kept (fun b=>some b≠v.ownBlock/\b<W.heap.size) W w':=fun b hb hlt=>hg.block b hlt hb.1;exact ⟨P1,N1,e,(ay.keep (hP.sub fun b hb hlt=>⟨hb,hlt⟩) k).sub fun b hb _=>IY b hb.1 hb.2,(av.keep (hN.sub fun b hb hlt=>⟨hb,hlt⟩) k).sub fun b hb _=>IY b hb.1 hb.2⟩
  refine h g cap w' ⟨by rw [bg,JQ];exact h2,fun x hx=>?_⟩ hg (Below.grown (cN _ _) hg hbase fun k hk=>(lT hown k hk).1);rcases cu.1 hx with hx | hx
  ·exact hkeep (hrows x hx)
  ·rw [jT.1 hx];exact hkeep hu
end
theorem Tryz.infoTree:(Tryz.prog.info? 39).map (fun i=>(i.zero,i.size,i.bytes))=some (some (.agg #[.slice none 0 0,.slice none 0 0]),2,48):=by kernel_rfl
def Dx (w:World) (acw:List ByteArray) (e:Ending) (w':World):Prop :=
 Up w w'/\∃v,e=.returned (.tuple #[v,.int .i64 (dK acw)])/\ew Any w' v (if dK acw=0 then allT acw else [])
theorem Pk {w:World} {v:Value} {qs:List RT} (h:vZ w v qs):∃g cap,v=.slice (some ⟨g,0,none⟩) qs.length cap:=by
 obtain ⟨g,cap,es,e1,_⟩:=h;exact ⟨g,cap,e1⟩
theorem I1 {w:World} {g n cap:Nat} {qs:List RT} (h:vZ w (.slice (some ⟨g,0,none⟩) n cap) qs) {k:Nat} (hk:k<qs.length) :
  ∃pp pc np nc,w.cell? ⟨g,k*3,none⟩=some (.slice pp (gt (qs.map flat) k).ps.length pc)/\w.cell? ⟨g,k*3+1,none⟩=some (.slice np (gt (qs.map flat) k).ns.length nc)/\w.cell? ⟨g,k*3+2,none⟩=some (.string (bf (qs.getD k (.node ByteArray.empty []))))/\aC Any w (.agg #[.slice pp (gt (qs.map flat) k).ps.length pc,.slice np (gt (qs.map flat) k).ns.length nc]) (gt (qs.map flat) k):=by
 obtain ⟨g',cap',es,e1,e2,h1,h2⟩:=h;injection e1 with e1;injection e1 with e1;injection e1 with e1;subst e1;subst e2;rw [aD] at hk;obtain ⟨c0,c1,c2⟩:=h1 k hk;have hg:gt ((es.map (·.2)).map flat) k=flat (ge es k).2:=by simp [gt,ge,hk]
 have hg2:(es.map (·.2)).getD k (.node ByteArray.empty [])=(ge es k).2:=by simp [ge,hk]
 have h3:=h2 _ (XY hk);rw [hg,hg2];obtain ⟨P1,N1,e,hP,hN⟩:=h3;injection e with e;have e1:(ge es k).1.1=P1/\(ge es k).1.2=N1:=by simpa using e
 obtain ⟨pp,pc,e2,_,_⟩:=aA.open hP;obtain ⟨np,nc,e3,_,_⟩:=aA.open hN;rw [<- e1.1] at e2;rw [<- e1.2] at e3;rw [e2] at c0;rw [e3] at c1;refine ⟨pp,pc,np,nc,c0,c1,c2,_,_,rfl,?_,?_⟩
 ·rw [<- e2,e1.1];exact hP
 ·rw [<- e3,e1.2];exact hN
theorem K0 {ts:List aF} {n:Nat} (h:n<ts.length):ts.take (n+1)=ts.take n++[gt ts n]:=by
 rw [jo h];simp [gt,h]
def AlI (w:World) (acw:List ByteArray) (n:Nat) (out:Value) (wr:World):Prop:=Up w wr/\∃es:List mR,jV w.heap.size wr out es/\es.map (·.2)=(allT acw).take n
def gR (acw:List ByteArray) (k:Nat):RT:=(bQ acw).getD k (.node ByteArray.empty [])
theorem Dy {acw:List ByteArray} {k:Nat} (h:k<(bQ acw).length):gt (allT acw) k=flat (gR acw k):=by
 unfold allT gR gt;simp [h]
theorem I2 {acw:List ByteArray} {k:Nat} (h:k<(bQ acw).length):gR acw k∈bQ acw:=by simp [gR,h]
theorem R1 {acw:List ByteArray} (hn:dU acw) {j k:Nat} (hj:j<(bQ acw).length) (hk:k<(bQ acw).length) (e:bf (gR acw j)=bf (gR acw k)):gR acw j=gR acw k:=by
 have e1:cr (gR acw j)=cr (gR acw k):=by have:=congrArg (fun b:ByteArray=>b.data.toList) e;simpa [bf] using this
 exact OA (gI hn (I2 hj)).1.good.kC (gI hn (I2 hk)).1.good.kC (List.append_cancel_right e1)
def qR (acw:List ByteArray) (acy:List (List Int)) (k:Nat):Int:=cE (gt (allT acw) k) acw acy
def AG (acw:List ByteArray) (acy:List (List Int)):Nat->List (ByteArray×Value)
 | 0=>[]
 | n+1=>s8 (AG acw acy n) (bf (gR acw n)) (.int .i64 (qR acw acy n))
theorem I3 (acw:List ByteArray) (acy:List (List Int)):∀n,xg (AG acw acy n)
 | 0=>by unfold xg AG;simp
 | n+1=>Oj (I3 acw acy n) _ _
theorem I4 {acw:List ByteArray} (hn:dU acw) (acy:List (List Int)) {k:Nat} (hk:k<(bQ acw).length):∀ {n:Nat},n<=(bQ acw).length->k<n->(AG acw acy n).lookup (bf (gR acw k))=some (.int .i64 (qR acw acy k))
 | 0,_,h=>absurd h (bS _)
 | n+1,hle,h=>by
  rw [AG,JG]
  split
  ·rename_i e
   have e2:=R1 hn hk (show n<_ by omega) e
   unfold qR
   rw [Dy hk,Dy (show n<_ by omega),e2]
  ·rename_i e
   have:k≠n:=fun e3=>e (by rw [e3])
   exact I4 hn acy hk (by omega) (by omega)
def ry (acw:List ByteArray) (acy:List (List Int)) (n:Nat):List aF:=((allT acw).take n).filter fun t=>decide (cE t acw acy=eu acw acy)
theorem Pm {acw:List ByteArray} (acy:List (List Int)) {n:Nat} (h:n<(allT acw).length):ry acw acy (n+1)=ry acw acy n++if qR acw acy n=eu acw acy then [gt (allT acw) n] else []:=by
 unfold ry qR;rw [K0 h,wD];congr 1;by_cases e:cE (gt (allT acw) n) acw acy=eu acw acy
 ·rw [if_pos e];simp [e]
 ·rw [if_neg e];simp [e]
theorem R2 (acw:List ByteArray) (acy:List (List Int)):ry acw acy (allT acw).length=nC acw acy:=by
 unfold ry nC;rw [eT]
theorem Pn {acw:List ByteArray} {acy:List (List Int)} (hc:qc acw acy) {n:Nat} (h:n<(allT acw).length):0<=qR acw acy n/\qR acw acy n<=409600000:=by
 have ho:=(r9 hc.nm (Cy h)).1;have h1:=zU (f:=fun p=>cQ (gt (allT acw) n) (jm (gt (allT acw) n) acw acy p) (cn 16)) (n:=(gl acy 0).length) fun p hp=>⟨su (nY hc ho hp),DL (nY hc ho hp)⟩;have h2:=(IK hc.ag).2;unfold qR cE;omega
def tG (acw:List ByteArray) (acy:List (List Int)) (n:Nat):Int:=nX (qR acw acy) n
theorem Po {acw:List ByteArray} {acy:List (List Int)} (hc:qc acw acy):∀ {n:Nat},n<=(allT acw).length -> -1<=tG acw acy n/\tG acw acy n<=409600000
 | 0,_=>by unfold tG nX;omega
 | n+1,h=>by
  have h1:=Po hc (n:=n) (by omega)
  have h2:=Pn hc (n:=n) h
  unfold tG at h1 ⊢
  rw [tF]
  split<;>omega
theorem R3 (acw:List ByteArray) (acy:List (List Int)) (n:Nat):tG acw acy (n+1)=if tG acw acy n<0\/qR acw acy n<tG acw acy n then qR acw acy n else tG acw acy n:=rfl
theorem UA (acw:List ByteArray) (acy:List (List Int)):tG acw acy (allT acw).length=eu acw acy:=rfl
def xC (acw:List ByteArray) (acy:List (List Int)):Int:=if iY acw acy=0 then eu acw acy else 0
def xD (acw:List ByteArray) (acy:List (List Int)):List aF:=if iY acw acy=0 then nC acw acy else []
def tH (w:World) (acw:List ByteArray) (acy:List (List Int)) (e:Ending) (w':World):Prop :=
 Up w w'/\∃v,e=.returned (.tuple #[v,.int .i64 (xC acw acy),.int .i64 (iY acw acy)])/\ew Any w' v (xD acw acy)
def Yb (w:World) (acw:List ByteArray) (acy:List (List Int)) (n:Nat) (wr:World):Prop:=Up w wr/\SMap wr w.heap.size (AG acw acy n)
def BeJ (w:World) (acw:List ByteArray) (acy:List (List Int)) (n:Nat) (out:Value) (wr:World):Prop:=Up w wr/\∃es:List mR,jV w.heap.size wr out es/\es.map (·.2)=ry acw acy n
theorem UB {acw:List ByteArray} (hn:dU acw) {k:Nat} (h:k<(bQ acw).length):aB (gt (allT acw) k)=0/\ri (gt (allT acw) k) acw=true/\∀i,(gs (gt (allT acw) k).ns i).size<=70000:=by
 have h2:k<(allT acw).length:=by unfold allT;rw [aD];exact h
 have ho:=(r9 hn (Cy h2)).1;refine ⟨ho.te,(Iw hn ho.te).2 ho,?_⟩;rw [Dy h];exact ve (gI hn (I2 h)).1.good
theorem Bv (S:Nat->Prop) (w:World) (v vs:Value) (acw:List ByteArray) (acy:List (List Int)) (h:av S w v acw) (hn:acw.length<=1000000) (hz:∀k,(gs acw k).size<=70000) (hS:bh S w vs acy) (vu:acy.length<=1000000) (hr:∀k,(gl acy k).length<=1000000) (h5:acw.length<=5\/7<acw.length) :
  Calls Tryz.prog 17 #[v,vs] w (tH w acw acy):=by
 have ir:=aa (O2 S w v vs acw acy h hn hz hS vu hr);obtain ⟨mp,mc,rfl,-,-⟩:=aA.open h;have h:av S w (.slice mp acw.length mc) acw:=h;obtain ⟨sp,sc,rfl,-,-⟩:=gM hS;have HN:=aa h;have HS:=aa hS;have F3:Hid (iY acw acy=0->qc acw acy):=Mu h5;clear h hS hz hr h5
 go_enter Tryz.func17,Tryz.ntmps17
 go_wp2_with fail;refine ir.out.mono ?_;rintro e w1 ⟨rfl,bw⟩;by_cases c1:iY acw acy=0
 ·have hc:=F3.out c1
  have AE:=aa (Pe S w1 _ acw hc.nm (av.keep HN.out (bw.kept S)));have HC:=aa hc;have iZ:Hid (∀W v,Up w W->ew Any W v (nC acw acy)->tH w acw acy (.returned (.tuple #[v,.int .i64 (eu acw acy),.int .i64 0])) W):=fun W v hu ht=>⟨hu,v,by unfold xC;rw [c1];rfl,by unfold xD;rw [if_pos c1];exact ht⟩;have hl0:(allT acw).length=(bQ acw).length:=by unfold allT;rw [aD]
  have jg:(bQ acw).length<=15:=by rw [Cw hc.nm];split<;>(try split)<;>(try split)<;>omega
  have HL:=aa (And.intro hl0 jg);have b9:=aa bw;rw [c1];clear c1 hc bw hl0 jg ir F3;go_wp2_with fail;refine AE.out.mono ?_;rintro e w2 ⟨aJ,ev,rfl,Yc⟩;obtain ⟨eg,ec,rfl⟩:=Pk Yc;have bY:=aa (b9.out.trans aJ);have Pb:=aa Yc;have Ho:=aa (av.keep HN.out (bY.out.kept S));have mM:=aa (bh.keep HS.out (bY.out.kept S));have CF:Hid (Yb w2 acw acy 0 (w2.alloc (.map #[] 0))):=⟨Up.alloc _ _,SMap.made _⟩;have hmm:=fun W=>run_makeMap (P:=Tryz.prog) 94 W;clear aJ Yc AE b9;go_wp2_with fail;clear hmm
  go_loopw [4,5,6,11,13,14,15,36] (fun _ _ _ s _ _ _ i wr=>∃n:Nat,n<=(bQ acw).length/\i=.int .i64 n/\s=.int .i64 (tG acw acy n)/\Hid (Yb w2 acw acy n wr)) (fun _ _ _ _ _ _ _ i _=>(bQ acw).length - (intOf i).toNat)
  case atStart=>exact ⟨0,aI _,rfl,rfl,CF.out⟩
  case round =>
   obtain ⟨n,hn,rfl,rfl,hI⟩:=hrel;obtain ⟨wo,rfl⟩:∃wo:World,wo=wr:=⟨_,rfl⟩;obtain ⟨lR,hM⟩:=hI.out;by_cases hlt:n<(bQ acw).length
   ·obtain ⟨pp,pc,np,nc,c0,c1,c2,hT⟩:=I1 Pb.out hlt
    replace c0:=lR.cell c0;replace c1:=lR.cell c1;replace c2:wo.cell? ⟨eg,n*3+2,none⟩=some (.string (bf (gR acw n))):=lR.cell c2;obtain ⟨te,fi,tz⟩:=UB HC.out.nm hlt;have hbd:=Pn HC.out (n:=n) (by rw [HL.out.1];exact hlt);have hmb:=Po HC.out (n:=n) (by rw [HL.out.1];exact hn);have K1:=aa (R3 acw acy n);have hsc:uG (gt (allT acw) n) acw acy=.tuple #[.int .i64 (qR acw acy n),.int .i64 0]:=by unfold uG qR;rw [fi];rfl
    replace hT:aC Any wo (.agg #[.slice pp (gt (allT acw) n).ps.length pc,.slice np (gt (allT acw) n).ns.length nc]) (gt (allT acw) n):=aC.keep hT (lR.kept _);replace c0:wo.cell? ⟨eg,n*3,none⟩=some (.slice pp (gt (allT acw) n).ps.length pc):=c0;replace c1:wo.cell? ⟨eg,n*3+1,none⟩=some (.slice np (gt (allT acw) n).ns.length nc):=c1
    have rG:Hid (∀W,Up wo W->Calls Tryz.prog 69 #[.agg #[.slice pp (gt (allT acw) n).ps.length pc,.slice np (gt (allT acw) n).ns.length nc],.slice mp acw.length mc,.slice sp acy.length sc] W fun e w'=>e=.returned (.tuple #[.int .i64 (qR acw acy n),.int .i64 0])/\Up W w'):=fun W hW=>by rw [<- hsc];exact O6 Any W _ _ _ _ acw acy (hT.keep (hW.kept _)) te tz ((av.keep Ho.out ((lR.trans hW).kept S)).sub fun _ _ _=>trivial) ((bh.keep mM.out ((lR.trans hW).kept S)).sub fun _ _ _=>trivial) HC.out
    have HMS:Hid (AG acw acy (n+1)=s8 (AG acw acy n) (bf (gR acw n)) (.int .i64 (qR acw acy n))):=rfl;have HUQ:=aa (I3 acw acy n);have Yd:=aa hM;have x4:=aa lR;have bG:=aa hlt;(have i4:(n:Int)<((bQ acw).length:Int):=by omega);(have i5:(n:Int)<16:=by have:=HL.out.2;omega);clear hI lR hM te fi tz hsc hlt;generalize gt (allT acw) n=q at *;generalize bf (gR acw n)=key at *
    (have fF:Hid (Up wo (wo.alloc (.cells #[.slice pp q.ps.length pc,.slice np q.ns.length nc,.string key] 96))/\(wo.alloc (.cells #[.slice pp q.ps.length pc,.slice np q.ns.length nc,.string key] 96)).cell? ⟨wo.heap.size,2,none⟩=some (.string key)/\(wo.alloc (.cells #[.slice pp q.ps.length pc,.slice np q.ns.length nc,.string key] 96)).heap[w2.heap.size]? = wo.heap[w2.heap.size]?):=by refine ⟨Up.alloc _ _,aH wo _ _ 2,bH (Up.alloc wo _) _ Yd.out.lt⟩);have Ye:=aa (rG.out _ fF.out.1);generalize qR acw acy n=f at *;generalize tG acw acy n=m at *;go_wp2_with fail
    generalize wo.alloc (.cells #[.slice pp q.ps.length pc,.slice np q.ns.length nc,.string key] 96)=w7 at *;refine Ye.out.mono ?_;rintro e w9 ⟨rfl,uH⟩;obtain ⟨K2,hk7,hm7⟩:=fF.out;have hk9:=uH.cell hk7;have hM9:SMap w9 w2.heap.size (AG acw acy n):=Yd.out.same ((bH uH _ (by have:=K2.size;have:=Yd.out.lt;omega)).trans hm7);have K3:=(x4.out.trans K2).trans uH;obtain ⟨w5,hrun,hm5,hs5,Ap,ht5,Yf,oD⟩:=Rc (P:=Tryz.prog) Tryz.underlying94 Tryz.underlying9 hM9 HUQ.out key (.int .i64 f)
    have Yg:Hid (Yb w2 acw acy (n+1) w5):=⟨⟨Ap.trans K3.os,ht5.trans K3.tape,Yf.trans K3.output,by rw [hs5];exact K3.size,fun b hb=>(oD b (by omega)).trans (K3.block b hb)⟩,by rw [HMS.out];exact hm5⟩;clear hm5 hs5 Ap ht5 Yf oD hM9 K3 uH K2 hk7 hm7 fF rG Ye hT c0 c1 c2;by_cases e1:m<0
    ·have HE:Hid (tG acw acy (n+1)=f):=by unfold Hid;rw [K1.out,if_pos (.inl e1)]
     (have d1:decide (m<0)=true:=by simp [e1]);clear K1 e1;go_wp2_with fail
     go_roundw
     case rel=>exact ⟨n+1,bG.out,by go_num,by rw [HE.out],Yg.out⟩
     case measure=>have:=bG.out;simp [intOf];omega
    ·have d1:decide (m<0)=false:=by simp;omega
     by_cases e2:f<m
     ·have HE:Hid (tG acw acy (n+1)=f):=by unfold Hid;rw [K1.out,if_pos (.inr e2)]
      (have d2:decide (f<m)=true:=by simp [e2]);clear K1 e1 e2;go_wp2_with fail
      go_roundw
      case rel=>exact ⟨n+1,bG.out,by go_num,by rw [HE.out],Yg.out⟩
      case measure=>have:=bG.out;simp [intOf];omega
     ·have HE:Hid (tG acw acy (n+1)=m):=by unfold Hid;rw [K1.out,if_neg (by omega)]
      (have d2:decide (f<m)=false:=by simp;omega);clear K1 e1 e2;go_wp2_with fail
      go_roundw
      case rel=>exact ⟨n+1,bG.out,by go_num,by rw [HE.out],Yg.out⟩
      case measure=>have:=bG.out;simp [intOf];omega
   ·obtain rfl:n=(bQ acw).length:=by omega
    have XU:=aa hM;have Oa:=aa lR;have HEB:=aa (Pb.out.keep lR);have O8:Hid (BeJ wo acw acy 0 (.slice none 0 0) wo):=⟨Up.refl _,[],jV.nil _ _,by simp [ry]⟩;(have Yh:tG acw acy (bQ acw).length=eu acw acy:=by rw [<- HL.out.1];exact UA acw acy);rw [Yh];clear hI lR hM hlt Yh;have aaU:=aa (fun W v (hu:Up wo W) ht=>iZ.out W v ((bY.out.trans Oa.out).trans hu) ht);go_wp2_with fail
    go_loopw [16,18,66] (fun out _ i wr=>∃k:Nat,k<=(bQ acw).length/\i=.int .i64 k/\Hid (BeJ wo acw acy k out wr)) (fun _ _ i _=>(bQ acw).length - (intOf i).toNat)
    case atStart=>exact ⟨0,aI _,rfl,O8.out⟩
    case round =>
     obtain ⟨k,hk,rfl,hI⟩:=hrel;obtain ⟨wi,rfl⟩:∃wi:World,wi=wr:=⟨_,rfl⟩;obtain ⟨tI,es,hes,hem⟩:=hI.out;by_cases hlt:k<(bQ acw).length
     ·obtain ⟨pp,pc,np,nc,c0,c1,c2,hT⟩:=I1 HEB.out hlt
      replace c0:=tI.cell c0;replace c1:=tI.cell c1;replace c2:wi.cell? ⟨eg,k*3+2,none⟩=some (.string (bf (gR acw k))):=tI.cell c2;(have hlt2:k<(allT acw).length:=by rw [HL.out.1];exact hlt);have pg:=aa (Pm acy hlt2);have Tu:=I4 HC.out.nm acy hlt (n:=(bQ acw).length) (ah _) hlt;replace hT:aC (fun b=>b<wo.heap.size) wi (.agg #[.slice pp (gt (allT acw) k).ps.length pc,.slice np (gt (allT acw) k).ns.length nc]) (gt (allT acw) k):=aC.keep (hT.sub fun b _ hb=>hb) (tI.kept _)
      replace c0:wi.cell? ⟨eg,k*3,none⟩=some (.slice pp (gt (allT acw) k).ps.length pc):=c0;replace c1:wi.cell? ⟨eg,k*3+1,none⟩=some (.slice np (gt (allT acw) k).ns.length nc):=c1;generalize gt (allT acw) k=q at *;generalize bf (gR acw k)=key at *;have bq:=Up.alloc wi (.cells #[.slice pp q.ps.length pc,.slice np q.ns.length nc,.string key] 96);have hM7:SMap (wi.alloc (.cells #[.slice pp q.ps.length pc,.slice np q.ns.length nc,.string key] 96)) w2.heap.size (AG acw acy (bQ acw).length):=XU.out.same (bH (tI.trans bq) _ XU.out.lt)
      have hlk:=Om (P:=Tryz.prog) Tryz.underlying94 Tryz.underlying9 (Re _) hM7 key;rw [Tu] at hlk;simp only [Option.getD_some] at hlk;obtain ⟨op,oc,rfl⟩:=hes.form;obtain ⟨m,hm⟩:∃m,es.length=m:=⟨_,rfl⟩;(have hmk:m<=k:=by rw [<- hm];have:=congrArg List.length hem;rw [aD] at this;rw [this];unfold ry;exact aR (tW _ _) (by rw [dD];omega));rw [hm];have xX:Hid (jV wo.heap.size (wi.alloc (.cells #[.slice pp q.ps.length pc,.slice np q.ns.length nc,.string key] 96)) (.slice op m oc) es):=by have h:=hes.up bq;rw [hm] at h;exact h
      (have Ph:Hid (aC (fun b=>some b≠(Value.slice op m oc).ownBlock) (wi.alloc (.cells #[.slice pp q.ps.length pc,.slice np q.ns.length nc,.string key] 96)) (.agg #[.slice pp q.ps.length pc,.slice np q.ns.length nc]) q):=by have h2:=hes.1;rw [hm] at h2;exact (hT.keep (bq.kept _)).sub fun b hb _ e=>by have:=(lT h2 b e.symm).1;omega);have Yi:=aa (tI.trans bq);have Pj:=aa hem;have Kt:=aa hm;have bG:=aa hlt;(have i4:(k:Int)<((bQ acw).length:Int):=by omega);have i5:(k:Int)<16:=by have:=HL.out.2;omega
      (have Vr:Hid (m<=1000000):=by have:=HL.out.2;unfold Hid;omega);clear hI tI hes hem hlt hlt2 hT bq hm Tu hM7 hmk;generalize qR acw acy k=f at *;generalize eu acw acy=le at *;by_cases e1:f=le
      ·have d1:(f==le)=true:=by simp [e1]
       (have x5:Hid (ry acw acy (k+1)=ry acw acy k++[q]):=by unfold Hid;rw [pg.out,if_pos e1]);subst e1;go_wp2_with (at_builtin;refine zk _ rfl _ _ 33 rfl wo.heap.size _ 48 Tryz.underlying33 Tryz.infoTree rfl (by decide) xX.out rfl ((.slice pp q.ps.length pc,.slice np q.ns.length nc),q) (by rw [aL];rfl) Ph.out m Kt.out Vr.out Yi.out.size ?_;intro g8 jl w8 dJ eN zi;have vT:=aa dJ;have nj:=aa zi;clear dJ eN zi)
       go_roundw
       case rel=>exact ⟨k+1,bG.out,by go_num,fc (show Below wo.heap.size wo _ from Yi.out) nj.out,_,vT.out,by rw [x5.out,cm,Pj.out];rfl⟩
       case measure=>have:=bG.out;simp [intOf];omega
      ·have d1:(f==le)=false:=by simp [e1]
       (have x5:Hid (ry acw acy (k+1)=ry acw acy k):=by unfold Hid;rw [pg.out,if_neg e1,fM]);clear e1;go_wp2_with fail
       go_roundw
       case rel=>exact ⟨k+1,bG.out,by go_num,Yi.out,_,xX.out,by rw [x5.out,Pj.out]⟩
       case measure=>have:=bG.out;simp [intOf];omega
     ·obtain rfl:k=(bQ acw).length:=by omega
      (have zj:es.map (·.2)=nC acw acy:=by rw [hem,<- HL.out.1,R2]);obtain ⟨op,oc,rfl⟩:=hes.form;have rF:=aa (aaU.out wi _ tI (zj ▸ hes.trees));clear hI tI hes hem zj hlt;go_wp2_with fail;exact ⟨rfl,.tuple #[.slice op es.length oc,.int .i64 (eu acw acy),.int .i64 0],by simp [results,Tryz.results17,go_sem],rF.out⟩
 ·have iZ:Hid (tH w acw acy (.returned (.tuple #[.slice none 0 0,.int .i64 0,.int .i64 (iY acw acy)])) w1):=by
   refine ⟨bw,.slice none 0 0,?_,?_⟩
   ·unfold xC;rw [if_neg c1]
   ·unfold xD;rw [if_neg c1];exact ew.nil _ _
  generalize iY acw acy=a at *
  clear bw ir
  go_wp2_with fail
  exact ⟨rfl,.tuple #[.slice none 0 0,.int .i64 0,.int .i64 a],by simp [results,Tryz.results17,go_sem],iZ.out⟩
end
section
def Tv (acy:List (List Int)) (p:Nat):Nat:=(dd (dO (cI acy p))).length
def o7 (acy:List (List Int)) (p:Nat):Int:=if Tv acy p=0 then 0 else (Tv acy p:Int) - 1
def I5 (acy:List (List Int)):Int:=cz (o7 acy) (gl acy 0).length
def MA (acy:List (List Int)):Int:=if cB acy=0 then 0 else 1
def MB (acy:List (List Int)):Int:=if cB acy=0 then I5 acy else 0
theorem xE (acy:List (List Int)) (p:Nat):(cI acy p).length=acy.length:=by unfold cI;rw [aD]
theorem Yj (acy:List (List Int)) (p:Nat):Tv acy p<=acy.length:=by
 unfold Tv;have h1:(dd (dO (cI acy p))).length<=(dO (cI acy p)).length:=(tD _).length_le_of_subset fun x hx=>vV.1 hx;have h2:(dO (cI acy p)).length<=(cI acy p).length:=tW _ _;rw [xE] at h2;omega
theorem K4 (acy:List (List Int)) (p:Nat):0<=o7 acy p/\o7 acy p<=acy.length:=by
 have:=Yj acy p;unfold o7;split<;>omega
end
end Go.Proofs.YthgabkgmkolobaaGreat
