/- phylotree.pruned: what it does to the forest. The reference's canonical tree is the .. -/
import Derived.ArgAppend
import Derived.Lib.MinMax
import Derived.Lib.SliceRun
import Derived.Laws.IdiomStrings
import Derived.Shelf.Slices.In.SortNone
import Derived.Shelf.Lays
import Derived.Shelf.Sort.Plain
import Derived.Test.YtfomhlbhcifgbaaGreatDoorQ26
set_option maxRecDepth 100000
set_option maxHeartbeats 4000000
namespace Go.Proofs.YtfomhlbhcifgbaaGreatDoor
section
open Go.RowKit Go.Deep
section
variable {P:Program} {ops:Array Oper} {rest:List Oper} {o:Oper} {a:Act} {Q:Exit->Act->World->Prop}
theorem Jo (W:World) (hgd:o.guard=none) (s x:Operand) (t:TypeId) (ho:o.op=.call { callee:=.builtin .append,args:=#[s,x],argTypes:=#[t,t] })
  (base:Nat) (e:TypeId) (z:Value) (bytes:Nat) (ht:P.underlying t=some (.slice e)) (hinfo:(P.info? e).map (fun i=>(i.zero,i.size,i.bytes))=some (some z,1,bytes))
  (hz1:z.cells.size=1) (mB:bytes<=64) {v:Value} {vs:List Value} (hown:au base e W v vs) (hs:a.eval s=v) (u:Value)
  (hx:a.eval x=.slice (some ⟨W.heap.size,0,none⟩) 1 1) (h1:u.oneCell'=true) (k:Nat) (xQ:vs.length=k) (hn:k<=1000000) (hbase:base<=W.heap.size)
  (h:∀g cap w',au base e w' (.slice (some ⟨g,0,none⟩) (k+1) cap) (vs++[u])->W.grownBy w' v.ownBlock->(v.ownBlock=some g\/W.heap.size<=g)->wpList P ops Q rest (a.put o.dst (.slice (some ⟨g,0,none⟩) (k+1) cap)) w') :
  wpList P ops Q (o::rest) a (W.alloc (.cells #[u] e)):=by
 subst xQ;obtain ⟨i,hi,hzz⟩:=iN.1 hinfo;simp only [iO] at hzz;obtain ⟨hz,hs1,hb⟩:=hzz;refine wpList_append_lies _ hgd s x t ho base e i z 1 bytes ht hi hz hs1 hb hz1 (by omega) v vs.length vs hs (hown.alloc _) ⟨W.heap.size,0,none⟩ 1 1 [u] hx rfl (cell_one_new _ _ _) (by simpa using h1) (by omega)
  (by unfold maxLen;omega) ?_ (by simp;omega) _ rfl fun g cap w' h2 h3 h4 _=>h g cap w' ?_ (gQ h3) (h4.imp id fun e=>by rw [e,aN];omega)
 ·have:(vs.length+1)*bytes<=(vs.length+1)*64:=qK _ mB
  omega
 ·unfold au;rw [bG];exact h2
end
section
variable {n base:Nat} {A:Nat->Nat} {kv:Nat->Value} {F:aW} {w w' w2:World} {P:Nat->Bool} {rk:Nat->Nat}
theorem bz.XL {G:aW} (h:bz base n A kv F w) (e:∀j,j<n->G.nm j=F.nm j/\G.old j=F.old j/\G.kids j=F.kids j):bz base n A kv G w :=
 ⟨fun i hi=>by rw [(e i hi).1,(e i hi).2.1];exact h.node i hi,h.lo,h.inj,fun i hi=>by rw [(e i hi).2.2];exact h.own i hi,h.apart,h.alone,fun i hi=>by rw [(e i hi).2.2];exact h.kid i hi⟩
end
theorem Hi:∀a b:List UInt8,Op.bytesLess a b=decide (Lib.compareBytes a b<0)
 | [],[]=>rfl
 | [],_::_=>rfl
 | _::_,[]=>rfl
 | a::x,b::y=>by
  rw [Op.bytesLess,Lib.compareBytes,Hi x y]
  by_cases h:a<b
  ·simp [h]
  ·by_cases h2:b<a
   ·have:a≠b:=by rintro rfl;exact h h2
    simp [h,h2,this]
   ·have:a=b:=by
     apply UInt8.toNat.inj
     rw [rj] at h h2;omega
    subst this
    simp [h]
mutual
theorem Hj:∀(r s:RT),s∈cn r->(dH s).Sublist (dH r)
 | .node nm ks,s,h=>by
  rw [cn,bQ] at h
  rcases h with rfl | h
  ·exact List.Sublist.refl _
  ·rw [dH];exact (Eh ks s h).trans (List.sublist_cons_self _ _)
theorem Eh:∀(rs:List RT) (s:RT),s∈dL rs->(dH s).Sublist (eH rs)
 | [],s,h=>by simp [dL] at h
 | r::rs,s,h=>by
  rw [dL,eD] at h
  rw [eH]
  rcases h with h | h
  ·exact (Hj r s h).trans (List.sublist_append_left _ _)
  ·exact (Eh rs s h).trans (List.sublist_append_right _ _)
end
theorem tD {r s:RT} (h:s∈cn r):(gM s).Sublist (gM r):=(Hj r s h).filter _
theorem yz (r:RT):r∈cn r:=by cases r;rw [cn];simp
theorem BS:∀r:RT,(∀s∈cn r,s.kids=[]->bD s.nm.data.toList=true)->gh r∈gM r
 | .node nm [],h=>by
  have h1:bD nm.data.toList=true:=h (.node nm []) (yz _) rfl
  rw [LD (vU h1),gh];simp
 | .node nm (k::ks),h=>by
  have hk:∀s∈cn k,s∈cn (.node nm (k::ks)):=fun s hs=>by rw [cn,dL];simp [hs]
  rw [gh]
  exact (tD (hk k (yz k))).subset (BS k fun s hs=>h s (hk s hs))
mutual
theorem qX:∀(r:RT) {s u:RT},s∈cn r->u∈cn s->u∈cn r
 | .node nm ks,s,u,h,hu=>by
  rw [cn,bQ] at h
  rcases h with rfl | h
  ·exact hu
  ·rw [cn];exact yR _ (zO ks h hu)
theorem zO:∀(rs:List RT) {s u:RT},s∈dL rs->u∈cn s->u∈dL rs
 | [],s,u,h,_=>by simp [dL] at h
 | r::rs,s,u,h,hu=>by
  rw [dL,eD] at h ⊢
  rcases h with h | h
  ·exact .inl (qX r h hu)
  ·exact .inr (zO rs h hu)
end
end
section
section
variable {acF:List ByteArray} {l:List SY}
theorem Q2 (acF:List ByteArray):(List.range acF.length).map (gs acF)=acF:=by
 refine qJ (by simp) fun i h1 h2=>?_;simp [gs,h2]
end
end
section
open Go Go.RowKit Go.Deep
theorem qx {F:Fence} {nF:Nat} {P:Program} {ops:Array Oper} {rest:List Oper} {o:Oper} {a:Act} {Q:Exit->Act->World->Prop} (W:World) (hgd:o.guard=none) (s x:Operand) (t:TypeId) (ho:o.op=.call { callee:=.builtin .append,args:=#[s,x],argTypes:=#[t,t] })
  (base:Nat) (e:TypeId) (z:Value) (bytes:Nat) (ht:P.underlying t=some (.slice e)) (hinfo:(P.info? e).map (fun i=>(i.zero,i.size,i.bytes))=some (some z,1,bytes))
  (hz1:z.cells.size=1) (mB:bytes<=64) {v:Value} {vs:List Value} (hown:au base e W v vs) (hs:a.eval s=v) (u:Value)
  (hx:a.eval x=.slice (some ⟨W.heap.size,0,none⟩) 1 1) (h1:u.oneCell'=true) (k:Nat) (xQ:vs.length=k) (hn:k<=1000000) (hbase:base<=W.heap.size)
  (h:∀g cap w',au base e w' (.slice (some ⟨g,0,none⟩) (k+1) cap) (vs++[u])->W.grownBy w' v.ownBlock->(v.ownBlock=some g\/W.heap.size<=g)->wpListIn F nF P ops Q rest (a.put o.dst (.slice (some ⟨g,0,none⟩) (k+1) cap)) w') :
  wpListIn F nF P ops Q (o::rest) a (W.alloc (.cells #[u] e)):=by
 subst xQ;obtain ⟨i,hi,hzz⟩:=iN.1 hinfo;simp only [iO] at hzz;obtain ⟨hz,hs1,hb⟩:=hzz;refine wpListIn_plain hgd fun K hK'=>?_;obtain ⟨g,cap,w',hr,h2,h3,h4,h5⟩:=run_append_lies (P:=P) (W.alloc (.cells #[u] e)) t o.type base e i z 1 bytes ht hi hz hs1 hb hz1 (by omega) v vs.length vs (hown.alloc _) ⟨W.heap.size,0,none⟩ 1 1 [u] rfl (cell_one_new _ _ _) (by simpa using h1) (by omega)
  (by unfold maxLen;omega) (by have:(vs.length+1)*bytes<=(vs.length+1)*64:=qK _ mB;omega) (by simp;omega) _ rfl
 unfold Oper.wpIn;refine ⟨by simp [Oper.about,ho,resolve,Target.leads,Sem.run_pure],?_⟩;rw [Oper.semAt_plain F _ _ (by rw [ho];intro c hc';cases hc')];simp [execOp,ho,resolve,invoke,builtin,hs,hx,hr,Result.andThen];exact hK' _ _ (h g cap w' (by unfold au;rw [bG];exact h2) (gQ h3) (h4.imp id fun e=>by rw [e,aN];omega))
end
section
open Go.RowKit Go.Deep
mutual
def dO:RT->List UInt8
 | .node nm []=>nm.data.toList
 | .node _ (k::ks)=>40::(dO k++eL ks++[41])
def eL:List RT->List UInt8
 | []=>[]
 | r::rs=>44::(dO r++eL rs)
end
def iB:List RT->List UInt8
 | []=>[]
 | k::ks=>40::(dO k++eL ks)
theorem Q3 (l:List RT) (c:RT):eL (l++[c])=eL l++44::dO c:=by
 induction l with
 | nil=>simp [eL]
 | cons a l ih=>rw [cw,eL,eL,ih];simp
theorem CW (l:List RT) (c:RT):iB (l++[c])=iB l++(if l.length=0 then 40 else 44)::dO c:=by
 cases l with
 | nil=>simp [iB,eL]
 | cons a l=>rw [cw,iB,iB,Q3,if_neg (by simp)];simp
theorem AL (nm:ByteArray) {ks:List RT} (h:ks≠[]):dO (.node nm ks)=iB ks++[41]:=by
 cases ks with
 | nil=>exact absurd rfl h
 | cons k ks=>rw [dO,iB];simp
theorem AO (nm:ByteArray):dO (.node nm [])=nm.data.toList:=by rw [dO]
theorem Hl (l m:List RT):(eL (l++m)).length=(eL l).length+(eL m).length:=by
 induction l with
 | nil=>simp [eL]
 | cons a l ih=>rw [cw,eL,eL];simp [ih];omega
theorem Ho (l:List RT) (k:Nat):(iB (l.take k)).length<=(iB l).length:=by
 cases l with
 | nil=>simp [iB]
 | cons a l =>
  cases k with
  | zero=>simp [iB]
  | succ k =>
   rw [List.take_succ_cons,iB,iB];have:=Hl (l.take k) (l.drop k);rw [A5] at this;simp only [bB,bG];omega
structure jZ (B b:Nat) (pre:List UInt8) (w wr:World):Prop where
 bl:Lib.IsBuilderF 130 5 B b (Lib.byteCells pre) wr
 up:Below B w wr
 ot:Lib.OthersKept 5 (some b) w wr
theorem jZ.size {B b:Nat} {pre:List UInt8} {w wr:World} (h:jZ B b pre w wr) (hB:B<=w.heap.size):B<=wr.heap.size:=aV hB h.up.size
theorem jZ.byte {B b:Nat} {pre:List UInt8} {w wr w2:World} {x:UInt8} {c:Int} (h:jZ B b pre w wr) (hc:c=x.toNat) (h1:Lib.BuilderAtF 130 5 B b (.pointer (some ⟨b,0,none⟩)) (Lib.byteCells pre++[.int .u8 c]) w2) (h2:Below B wr w2) (h3:Lib.OthersKept 5 (some b) wr w2):jZ B b (pre++[x]) w w2:=by
 subst hc;exact ⟨.inr (by rw [show Lib.byteCells (pre++[x])=Lib.byteCells pre++[.int .u8 x.toNat] from cm];exact h1),h.up.trans h2,h.ot.trans h3⟩
theorem jZ.next {B b:Nat} {pre XM:List UInt8} {w wr w2:World} (h:jZ B b pre w wr) (k:jZ B b XM wr w2):jZ B b XM w w2:=⟨k.bl,h.up.trans k.up,h.ot.trans k.ot⟩
theorem bz.others {base n b:Nat} {A:Nat->Nat} {kv:Nat->Value} {F:aW} {w w':World} (h:bz base n A kv F w) (hb:b<base) (k:Lib.OthersKept 5 (some b) w w'):bz base n A kv F w':=by
 refine h.same (fun i hi=>?_) fun i g hi hg=>?_
 ·have h1:=h.node i hi
  rw [h1];refine k _ _ h1 (fun e=>by have:=h.lo i hi;cases e;omega) (fun c fz e=>?_);injection e with _ e2 _;exact absurd e2 (by decide)
 ·have hlo:=(h.gK hi hg).1
  obtain ⟨_,h1 | ⟨g2,cap,cur,h1,_,hc,_⟩⟩:=h.own i hi
  ·rw [h1.1] at hg;cases hg
  ·rw [h1] at hg
   have hg:some g2=some g:=hg;injection hg with hg;subst hg;rw [hc];refine k _ _ hc (fun e=>by cases e;omega) (fun c fz e=>?_);injection e with _ e2 _;exact absurd e2 (by decide)
def tE (b fb:Nat) (w:World):Prop:=w.heap[fb]? = some (Obj.cells #[.func (.func 72) #[] #[.pointer (some ⟨b,0,none⟩),.pointer (some ⟨fb,0,none⟩)]] 131 (0,0))
theorem tE.cell {b fb:Nat} {w:World} (h:tE b fb w):w.cell? ⟨fb,0,none⟩=some (.func (.func 72) #[] #[.pointer (some ⟨b,0,none⟩),.pointer (some ⟨fb,0,none⟩)]):=by
 have h:w.heap[fb]? = _:=h;simp [World.cell?,h]
theorem tE.others {b fb:Nat} {w w':World} (h:tE b fb w) (hne:fb≠b) (k:Lib.OthersKept 5 (some b) w w'):tE b fb w':=by
 have h:w.heap[fb]? = _:=h;refine k _ _ h (fun e=>by cases e;exact hne rfl) (fun c fz e=>?_);injection e with _ e2 _;exact absurd e2 (by decide)
def XN (B b:Nat) (pre:List UInt8) (w:World) (e:Ending) (w':World):Prop:=e=.returned (.tuple #[])/\jZ B b pre w w'
theorem Q4 {base n B b fb:Nat} {A:Nat->Nat} {kv:Nat->Value} {F:aW} {rk:Nat->Nat} (hw:Wf F n rk) (hl:∀z,z<n->(F.kids z).length<=1000) (hbb:b<base) (Ei:fb≠b):∀(d i:Nat) (pre:List UInt8) (w:World),i<n->rk i<=d->bz base n A kv F w->tE b fb w ->
  Lib.IsBuilderF 130 5 B b (Lib.byteCells pre) w->pre.length+(dO (bh F rk i)).length<=140737488355328->B<=w.heap.size ->
  Calls Tryz.prog 72 (#[.pointer (some ⟨A i,0,none⟩)]++#[.pointer (some ⟨b,0,none⟩),.pointer (some ⟨fb,0,none⟩)]) w (XN B b (pre++dO (bh F rk i)) w):=by
 intro d
 induction d using Nat.strongRecOn with
 | ind d ih =>
  intro i pre w hi hd hF nU hbl hlen hB;have eP:∀args w,(callFunc 72 args).run Tryz.prog w=.ok (.enter 72 args) w:=enters_of Tryz.func72 (by kernel_rfl) rfl;have hown:=hF.own i hi;obtain ⟨q,cap,hv,hq⟩:=hown.form (n:=(F.kids i).length) (by simp);have hkc:=hF.rL hi;rw [hv] at hkc;have hnm:=hF.name hi;by_cases h0:F.kids i=[]
  ·have NQ:dO (bh F rk i)=(F.nm i).data.toList:=by rw [ey hw hi,h0];exact AO _
   rw [NQ] at hlen ⊢;(have d1:(((F.kids i).length:Int)==0)=true:=by rw [h0];rfl);have HW:=aa (VX B b (Lib.byteCells pre) (F.nm i) w hbl (by rw [Lib.byteCells_length];exact hlen) hB);have HE:Hid (∀w',Lib.BuilderAtF 130 5 B b (.pointer (some ⟨b,0,none⟩)) (Lib.byteCells pre++Lib.strCells (F.nm i)) w'->Below B w w'->Lib.OthersKept 5 (some b) w w'->jZ B b (pre++(F.nm i).data.toList) w w'):=fun w' h1 h2 h3 =>
    ⟨.inr (by rw [Lib.strCells_eq,<- show Lib.byteCells (pre++(F.nm i).data.toList)=Lib.byteCells pre++Lib.byteCells (F.nm i).data.toList from cm] at h1;exact h1),h2,h3⟩
   clear hown hq hv ih hF nU hbl hlen h0 NQ;generalize F.nm i=nm at *;go_in;go_wp2_with fail;refine HW.out.mono ?_;rintro e w' ⟨rfl,h1,h2,h3⟩;have HN:=aa (HE.out w' h1 h2 h3);clear h1 h2 h3;go_wp2_with fail
   go_end0
   exact ⟨rfl,HN.out⟩
  ·obtain ⟨L,uD⟩:∃L,L=F.kids i:=⟨_,rfl⟩
   (have ux:0<L.length:=by rw [uD];exact yQ.2 h0);(have ki:L.length<=1000:=by rw [uD];exact hl i hi);rw [<- uD] at hown hv hkc;(have NQ:dO (bh F rk i)=iB (L.map (bh F rk))++[41]:=by rw [ey hw hi,<- uD];exact AL _ (by rw [uD];simpa using h0));rw [NQ] at hlen ⊢;have d1:((L.length:Int)==0)=false:=beq_eq_false_iff_ne.2 (by omega);obtain ⟨gk,rfl⟩:∃g,q=some ⟨g,0,none⟩:=by
    rcases hq with rfl | h
    ·obtain ⟨_,h | ⟨g,_,_,h,_⟩⟩:=hown
     ·have:=h.2;rw [aD] at this;omega
     ·rw [hv] at h;cases h
    ·exact h
   (have HLEN:Hid (∀k,pre.length+(iB ((L.take k).map (bh F rk))).length+1<=140737488355328):=fun k=>by have:=Ho (L.map (bh F rk)) k;rw [<- List.map_take] at this;simp only [bG,bB,eW] at hlen;omega);(have HST:Hid (jZ B b (pre++iB ((L.take 0).map (bh F rk))) w w):=by rw [Hid,List.take_zero,List.map_nil,iB,gm];exact ⟨hbl,b7 _ _,Lib.OthersKept.refl _ _ _⟩);have HF:=aa hF;have aZ:=aa nU;have kZ:=aa uD;have tr:=aa ih;have HV:=aa hv
   have b6:Hid (∀c∈L,c<n/\rk c<rk i):=fun c hc=>hw.kid i hi c (by rw [<- uD];exact hc);clear hown hq hv ih hF nU hbl hlen h0 NQ uD hnm;go_in;go_wp2
   go_loopw [4,5,22] (fun _ _ x wr=>∃k:Nat,k<=L.length/\x=.int .i64 k/\Hid (jZ B b (pre++iB ((L.take k).map (bh F rk))) w wr)) (fun _ _ x _=>L.length - (intOf x).toNat)
   case atStart=>exact ⟨0,bg _,rfl,HST.out⟩
   case round =>
    obtain ⟨k,hk,rfl,hO⟩:=hrel;obtain ⟨wo,rfl⟩:=e9 wr;by_cases hlt:k<L.length
    ·have FI:L[k]? = some L[k]:=kB hlt
     have hFo:=HF.out.others hbb hO.out.ot;have hrow:=hFo.E6 (i:=i) (j:=k) (c:=L[k]) hi HV.out (by rw [<- kZ.out];exact FI);have dZ:=b6.out L[k] (pg hlt);(have zA:Hid (((L.take k).map (bh F rk)).length=k):=by rw [Hid,aD,iy];omega);have wV:Hid (iB ((L.take (k+1)).map (bh F rk))=iB ((L.take k).map (bh F rk))++((if k=0 then 40 else 44)::dO (bh F rk L[k]))):=by rw [Hid,List.take_add_one,FI,cm];show iB (_++[bh F rk L[k]])=_;rw [CW,zA.out]
     have oo:=aa (fun c:Int=>CA B b (Lib.byteCells (pre++iB ((L.take k).map (bh F rk)))) c wo hO.out.bl (by rw [Lib.byteCells_length,bG];exact HLEN.out k) (hO.out.size hB));have HO:=aa hO.out;have bf:=aa hlt;have k7:=aa dZ;obtain ⟨mn,hmn,mR⟩:∃mn:Int,min (k:Int) 1=mn/\((k=0/\mn=0)\/(k≠0/\mn=1)):=⟨_,rfl,by omega⟩;(have i1:(0:Int)<=(k:Int):=by omega);(have i2:(k:Int)<(L.length:Int):=by omega);clear FI hFo dZ hO;generalize L[k]=c at *;rcases mR with ⟨nY,rfl⟩ | ⟨nY,rfl⟩
     ·rw [if_pos nY] at wV
      clear nY;go_wp2_with fail;refine (oo.out _).mono ?_;rintro e w2 ⟨rfl,h1,h2,h3⟩;have HS:=aa (HO.out.byte (x:=40) rfl h1 h2 h3);clear h1 h2 h3;have Ke:=(aZ.out.others Ei HS.out.ot).cell
      have iz:=aa (tr.out (rk c) (by have:=k7.out.2;omega) c (pre++iB ((L.take k).map (bh F rk))++[40]) w2 k7.out.1 (aj _) (HF.out.others hbb HS.out.ot) (aZ.out.others Ei HS.out.ot) HS.out.bl (by
       have:=HLEN.out (k+1);rw [wV.out] at this;simp only [bG,bB,eW] at this ⊢
       omega) (HS.out.size hB))
      go_wp2_with fail;refine iz.out.mono ?_;rintro e w3 ⟨rfl,h4⟩;(have HN:Hid (jZ B b (pre++iB ((L.take (k+1)).map (bh F rk))) w w3):=by have:=HS.out.next h4;rw [Hid,wV.out];simpa [List.append_assoc] using this);clear h4 iz HS;go_wp2
      go_roundw
      case rel=>exact ⟨k+1,bf.out,by go_num,HN.out⟩
      case measure=>have:=bf.out;simp [intOf];omega
     ·rw [if_neg nY] at wV
      clear nY;go_wp2_with fail;refine (oo.out _).mono ?_;rintro e w2 ⟨rfl,h1,h2,h3⟩;have HS:=aa (HO.out.byte (x:=44) rfl h1 h2 h3);clear h1 h2 h3;have Ke:=(aZ.out.others Ei HS.out.ot).cell
      have iz:=aa (tr.out (rk c) (by have:=k7.out.2;omega) c (pre++iB ((L.take k).map (bh F rk))++[44]) w2 k7.out.1 (aj _) (HF.out.others hbb HS.out.ot) (aZ.out.others Ei HS.out.ot) HS.out.bl (by
       have:=HLEN.out (k+1);rw [wV.out] at this;simp only [bG,bB,eW] at this ⊢
       omega) (HS.out.size hB))
      go_wp2_with fail;refine iz.out.mono ?_;rintro e w3 ⟨rfl,h4⟩;(have HN:Hid (jZ B b (pre++iB ((L.take (k+1)).map (bh F rk))) w w3):=by have:=HS.out.next h4;rw [Hid,wV.out];simpa [List.append_assoc] using this);clear h4 iz HS;go_wp2
      go_roundw
      case rel=>exact ⟨k+1,bf.out,by go_num,HN.out⟩
      case measure=>have:=bf.out;simp [intOf];omega
    ·obtain rfl:k=L.length:=by omega
     have hO:=hO.out;rw [gq] at hO;have HO:=aa hO;have oo:=aa (CA B b (Lib.byteCells (pre++iB (L.map (bh F rk)))) 41 wo hO.bl (by rw [Lib.byteCells_length,bG];have:=HLEN.out L.length;rw [gq] at this;exact this) (hO.size hB));clear hO;go_wp2_with fail;refine oo.out.mono ?_;rintro e w2 ⟨rfl,h1,h2,h3⟩;have HS:=aa (HO.out.byte (x:=41) rfl h1 h2 h3);clear h1 h2 h3;go_wp2_with fail
     go_end0
     exact ⟨rfl,by rw [<- cU];exact HS.out⟩
end
section
open Go.RowKit Go.Deep
theorem NR {base:Nat} {e:TypeId} {w:World} {g n cap:Nat} {xs:List Value} (h:au base e w (.slice (some ⟨g,0,none⟩) n cap) xs) {m:Nat} (hm:m<=n):au base e w (.slice (some ⟨g,0,none⟩) m cap) (xs.take m):=by
 obtain ⟨h1,h2⟩:=h;rcases h2 with ⟨e1,_⟩ | ⟨g2,ij,cur,e1,hg,hc,hn,hcm,hcs,ht⟩
 ·cases e1
 ·injection e1 with a1 a2 a3
  injection a1 with a1;injection a1 with a1;subst a1;subst a3;have hnx:n=xs.length:=a2;have hl:(xs.take m).length=m:=by rw [iy];omega
  refine ⟨by rw [Nat.mul_one],.inr ⟨g,cap,cur,by rw [hl],hg,hc,by omega,hcm,hcs,?_⟩⟩;rw [hl,Nat.mul_one,<- ht,List.take_take];congr 1;omega
theorem Ej {base:Nat} {e:TypeId} {w:World} {g n cap:Nat} {xs:List Value} (h:au base e w (.slice (some ⟨g,0,none⟩) n cap) xs) {j:Nat} {u:Value} (hj:xs[j]? = some u):w.cell? ⟨g,j,none⟩=some u/\w.frozen? ⟨g,j,none⟩=false:=by
 have hl:=(mO.1 hj).1;obtain ⟨g2,ij,e1,_,_,hc,hf,_⟩:=h.set hl;injection e1 with a1;injection a1 with a1;injection a1 with a1;subst a1;refine ⟨?_,hf⟩;rw [hc];congr 1;rw [mN,hj];rfl
end
section
open Go.RowKit Go.Shelf Go.Deep
theorem Q5 (W:World):(zeroValue 3).run Tryz.prog W=.ok (.int .i64 0) W:=by simp [Tryz.zeroValue3]
end
section
structure Tl (r:RT):Prop where
 nd:(gM r).Nodup
 pt:∀s∈cn r,Hg s
theorem Tl.good {r:RT} (h:Tl r):lX r:=⟨fun s hs hk=>(h.pt s hs).1 hk,fun s hs hk=>(h.pt s hs).2.1 hk,h.nd⟩
theorem Q6 {a b:ByteArray} (ha:a.size=0) (hb:b.size=0):a=b:=by
 apply ByteArray.ext;apply Array.ext
 ·show a.size=b.size;omega
 ·intro i hi _;have:i<a.size:=hi;omega
end
section
open Go.RowKit Go.Deep
def at0 (vs:List Value) (j:Nat):Value:=vs.getD j undef
end
section
section
variable {acF:List ByteArray} {l:List SY}
theorem NT (ns:List ByteArray):(aq ns).length=(o6 ns).length:=by
 unfold aq;rw [aD];have h:∀k,k<=ns.length->((List.range k).filter fun i=>(gs ns i).size≠0).length=(o6 (ns.take k)).length:=by
  intro k
  induction k with
  | zero=>intro _;rfl
  | succ k ih =>
   intro hk;(have hg:gs ns k=ns[k]:=by simp [gs,show k<ns.length by omega]);rw [sL,o8,bG,ih (by omega),iL (show k<ns.length by omega),Hh,bG,<- hg];congr 1;unfold o6;by_cases e:(gs ns k).size≠0
   ·rw [List.filter_cons_of_pos (by simpa using e),List.filter_cons_of_pos (by simpa using e)];rfl
   ·rw [List.filter_cons_of_neg (by simpa using e),List.filter_cons_of_neg (by simpa using e)];rfl
 have:=h ns.length (aj _);rw [gq] at this;exact this
end
end
section
section
variable {F:aW} {n:Nat} {rk:Nat->Nat}
theorem yA (h:Wf F n rk) {i z:Nat} (hi:i<n) (hs:bY F rk i z=true):bh F rk z∈cn (bh F rk i):=by
 rw [tC h hi (aj _)];exact ek.2 ⟨z,(ew h hi (aj _)).2 hs,rfl⟩
theorem BU (h:Wf F n rk):∀(d i:Nat),rk i<=d->i<n->lX (bh F rk i)->(bW F rk i).Nodup
 | d,i,hd,hi,hg=>by
  rw [cu h hi,sK]
  have hsub:∀k∈F.kids i,bh F rk k∈cn (bh F rk i):=fun k hk=>yA h hi (ng h hi hk (iU h (h.kid i hi k hk).1))
  have JK:∀k∈F.kids i,lX (bh F rk k):=fun k hk=>⟨fun s hs=>hg.Kb s (qX _ (hsub k hk) hs),fun s hs=>hg.lf s (qX _ (hsub k hk) hs),(tD (hsub k hk)).nodup hg.nd⟩
  refine ⟨fun hm=>?_,?_⟩
  ·obtain ⟨k,hk,hm⟩:=jo.1 hm
   have hkk:=h.kid i hi k hk
   have:=nA h hkk.1 ((ew h hkk.1 (aj _)).1 hm)
   omega
  ·by_cases h0:F.kids i=[]
   ·rw [h0];simp
   ·have iR:=hg.nd
    rw [ey h hi,BR (by have:=hg.Kb _ (yz _);rw [uM h hi,yy h hi] at this;exact this (fun e=>h0 (List.map_eq_nil_iff.1 e))),List.flatMap_map,List.nodup_iff_pairwise_ne,List.pairwise_flatMap] at iR
    rw [List.nodup_iff_pairwise_ne,List.pairwise_flatMap]
    refine ⟨fun k hk=>?_,?_⟩
    ·have hkk:=h.kid i hi k hk
     cases d with
     | zero=>omega
     | succ d=>exact BU h d k (by omega) hkk.1 (JK k hk)
    ·refine iR.2.imp_of_mem ?_
     intro a b ha hb hab x hx y hy e
     subst e
     have hka:=h.kid i hi a ha
     have hkb:=h.kid i hi b hb
     have h1:=yA h hka.1 ((ew h hka.1 (aj _)).1 hx)
     have h2:=yA h hkb.1 ((ew h hkb.1 (aj _)).1 hy)
     have hf:=BS (bh F rk x) fun s hs=>(JK a ha).lf s (qX _ h1 hs)
     exact hab _ ((tD h1).subset hf) _ ((tD h2).subset hf) rfl
end
end
end Go.Proofs.YtfomhlbhcifgbaaGreatDoor
