/- Lists of trees with their texts, in memory: appending, reading, sorting by text. .. -/
import Derived.Test.YthgabkgmkolobaaGreatQ37
set_option maxRecDepth 100000
set_option maxHeartbeats 8000000
namespace Go.Proofs.YthgabkgmkolobaaGreat
section
open Go.RowKit Go.Deep Go.Sort Go.Shelf Go.Lib
abbrev nu:=(Value×Value)×RT
def bf (r:RT):ByteArray:=⟨(cr r).toArray⟩
def ja (x:nu):List Value:=[x.1.1,x.1.2,.string (bf x.2)]
def gm (es:List nu):List Value:=es.flatMap ja
def ge (es:List nu) (k:Nat):nu:=es.getD k ((undef,undef),.node ByteArray.empty [])
theorem JP (es:List nu) (x:nu):gm (es++[x])=gm es++ja x:=by unfold gm;rw [qh];simp
theorem E5:∀(es:List nu) (k:Nat),k<es.length->(gm es)[k*3]? = some (ge es k).1.1/\(gm es)[k*3+1]? = some (ge es k).1.2/\(gm es)[k*3+2]? = some (.string (bf (ge es k).2))
 | [],k,h=>absurd h (bS _)
 | x::es,0,_=>by simp [gm,ja,ge]
 | x::es,k+1,h=>by
  have ih:=E5 es k (by simpa using h)
  have e:(k+1)*3=k*3+1+1+1:=by omega
  have e2:ge (x::es) (k+1)=ge es k:=by simp [ge]
  have e3:gm (x::es)=x.1.1::x.1.2::.string (bf x.2)::gm es:=by simp [gm,ja]
  rw [e2,e3,e]
  simp only [List.getElem?_cons_succ]
  exact ih
def jB (base:Nat) (w:World) (v:Value) (es:List nu):Prop :=
 w.ownsRow base 96 3 v es.length (gm es)/\∀x∈es,aC (fun b=>some b≠v.ownBlock) w (.agg #[x.1.1,x.1.2]) (flat x.2)
theorem jB.nil (base:Nat) (w:World):jB base w (.slice none 0 0) []:=⟨World.ownsRow_nil _ _ _ _,fun _ h=>by cases h⟩
def vZ (w:World) (v:Value) (qs:List RT):Prop :=
 ∃g cap,∃es:List nu,v=.slice (some ⟨g,0,none⟩) qs.length cap/\es.map (·.2)=qs/\(∀k,k<es.length->w.cell? ⟨g,k*3,none⟩=some (ge es k).1.1/\w.cell? ⟨g,k*3+1,none⟩=some (ge es k).1.2/\w.cell? ⟨g,k*3+2,none⟩=some (.string (bf (ge es k).2)))/\∀x∈es,aC Any w (.agg #[x.1.1,x.1.2]) (flat x.2)
theorem XY {es:List nu} {k:Nat} (h:k<es.length):ge es k∈es:=by simp [ge,h]
theorem vZ.keep {w w':World} {v:Value} {qs:List RT} (h:vZ w v qs) (hu:Up w w'):vZ w' v qs:=by
 obtain ⟨g,cap,es,e1,e2,h1,h2⟩:=h;exact ⟨g,cap,es,e1,e2,fun k hk=>⟨hu.cell (h1 k hk).1,hu.cell (h1 k hk).2.1,hu.cell (h1 k hk).2.2⟩,fun x hx=>(h2 x hx).keep (hu.kept _)⟩
section
variable {P:Program} {ops:Array Oper} {rest:List Oper} {o:Oper} {a:Act} {Q:Exit->Act->World->Prop}
theorem Fm (W:World) (hgd:o.guard=none) (s x:Operand) (t:TypeId) (ho:o.op=.call { callee:=.builtin .append,args:=#[s,x],argTypes:=#[t,t] })
  (base:Nat) (z:Value) (bytes:Nat) (ht:P.underlying t=some (.slice 96)) (hinfo:(P.info? 96).map (fun i=>(i.zero,i.size,i.bytes))=some (some z,3,bytes))
  (hz1:z.cells.size=3) (gL:bytes<=64) {v:Value} {es:List nu} (hown:jB base W v es) (hs:a.eval s=v) (G:nu)
  (hx:a.eval x=.slice (some ⟨W.heap.size,0,none⟩) 1 1) (hu:aC (fun b=>some b≠v.ownBlock) W (.agg #[G.1.1,G.1.2]) (flat G.2)) (n:Nat) (qF:es.length=n) (hn:n<=1000000) (hbase:base<=W.heap.size)
  (h:∀g cap w',jB base w' (.slice (some ⟨g,0,none⟩) (n+1) cap) (es++[G])->W.grownBy w' v.ownBlock->Below base W w'->wpList P ops Q rest (a.put o.dst (.slice (some ⟨g,0,none⟩) (n+1) cap)) w') :
  wpList P ops Q (o::rest) a (W.alloc (.cells #[G.1.1,G.1.2,.string (bf G.2)] 96)):=by
 subst qF;obtain ⟨i,hi,hzz⟩:=iq.1 hinfo;simp only [iM] at hzz;obtain ⟨hz,hs1,hb⟩:=hzz;obtain ⟨hown,hrows⟩:=hown;have h1:G.1.1.oneCell'=true/\G.1.2.oneCell'=true:=by
  obtain ⟨P1,N1,e,hP,hN⟩:=hu;injection e with e;have e1:G.1.1=P1/\G.1.2=N1:=by simpa using e
  obtain ⟨p,c,e2,_⟩:=aA.open hP;obtain ⟨q,d,e3,_⟩:=aA.open hN;rw [e1.1,e1.2,e2,e3];exact ⟨rfl,rfl⟩
 refine wpList_append_lies _ hgd s x t ho base 96 i z 3 bytes ht hi hz hs1 hb hz1 (by omega) v es.length (gm es) hs (hown.alloc _) ⟨W.heap.size,0,none⟩ 1 1 (ja G) hx rfl ?_ (fun q hq=>by
  unfold ja at hq;rcases bX.1 hq with e | hq
  ·subst e;exact h1.1
  ·rcases bX.1 hq with e | hq
   ·subst e;exact h1.2
   ·rw [jT.1 hq];rfl) (by omega)
  (by unfold maxLen;omega) ?_ (by simp;omega) _ rfl fun g cap w' h2 h3 h4 _=>?_
 ·intro j u' hj
  match j with
  | 0 =>
   (obtain rfl:G.1.1=u':=by simpa [ja] using hj);exact aH W _ _ 0
  | 1 =>
   (obtain rfl:G.1.2=u':=by simpa [ja] using hj);exact aH W _ _ 1
  | 2 =>
   (obtain rfl:Value.string (bf G.2)=u':=by simpa [ja] using hj);exact aH W _ _ 2
  | j+3=>simp [ja] at hj
 ·have:(es.length+1)*bytes<=(es.length+1)*64:=mS _ gL
  omega
 ·have hg:=jE h3
  have IY:∀b:Nat,some b≠v.ownBlock->b<W.heap.size->some b≠(Value.slice (some ⟨g,0,none⟩) (es.length+1) cap).ownBlock:=fun b hb hlt e=>by
   simp only [Value.ownBlock,Option.some.injEq] at e;rcases h4 with h4 | h4
   ·exact hb (by rw [h4,e])
   ·rw [aL] at h4;omega
  have hkeep:∀ {u':Value} {y':aF},aC (fun b=>some b≠v.ownBlock) W u' y'->aC (fun b=>some b≠(Value.slice (some ⟨g,0,none⟩) (es.length+1) cap).ownBlock) w' u' y':=fun hi'=>by obtain ⟨P1,N1,e,hP,hN⟩:=hi';have k:Kept (fun b=>some b≠v.ownBlock/\b<W.heap.size) W w':=fun b hb hlt=>hg.block b hlt hb.1;exact ⟨P1,N1,e,(ay.keep (hP.sub fun b hb hlt=>⟨hb,hlt⟩) k).sub fun b hb _=>IY b hb.1 hb.2,(av.keep (hN.sub fun b hb hlt=>⟨hb,hlt⟩) k).sub fun b hb _=>IY b hb.1 hb.2⟩
  refine h g cap w' ⟨by rw [bg,JP];exact h2,fun x hx=>?_⟩ hg (Below.grown (cN _ _) hg hbase fun k hk=>(lT hown k hk).1);rcases cu.1 hx with hx | hx
  ·exact hkeep (hrows x hx)
  ·rw [jT.1 hx];exact hkeep hu
end
def CI (x y:nu):Int:=if Lib.compareBytes (cr x.2) (cr y.2)<0 then -1 else if 0<Lib.compareBytes (cr x.2) (cr y.2) then 1 else 0
theorem CJ (x y:nu):ltOf CI x y=decide (Lib.compareBytes (cr x.2) (cr y.2)<0):=by
 unfold ltOf CI;split
 ·rename_i h;simp [h]
 ·rename_i h
  split<;>simp [h]
theorem My:SWO (ltOf CI) where
 irrefl x:=by rw [CJ,wP];simp
 trans x y z h1 h2:=by
  rw [CJ] at *
  simp only [decide_eq_true_eq] at *
  exact ue h1 h2
 ntrans x y z h1 h2:=by
  rw [CJ] at *
  simp only [decide_eq_false_iff_not] at *
  intro h3
  by_cases e:Lib.compareBytes (cr x.2) (cr y.2)=0
  ·rw [pI e] at h3;exact h2 h3
  ·have h4:=nG (cr x.2) (cr y.2)
   exact h2 (ue (show Lib.compareBytes (cr y.2) (cr x.2)<0 by omega) h3)
theorem RX (x y:nu) (W:World) :
  Calls Tryz.prog 123 #[.agg (ja x).toArray,.agg (ja y).toArray] W fun e w'=>e=.returned (.int .i64 (CI x y))/\∃q os,w'=grow (W.drewN q) os:=by
 have HC:Hid (CI x y=if Lib.compareBytes (cr x.2) (cr y.2)<0 then -1 else if 0<Lib.compareBytes (cr x.2) (cr y.2) then 1 else 0):=rfl;have hkx:(bf x.2).toList=cr x.2:=by rw [toList_data];rfl
 have XZ:(bf y.2).toList=cr y.2:=by rw [toList_data];rfl
 have HL:Hid (Op.bytesLess (bf x.2).toList (bf y.2).toList=decide (Lib.compareBytes (cr x.2) (cr y.2)<0)):=by unfold Hid;rw [hkx,XZ];exact xd _ _
 have HQ:Hid (((bf x.2).toList==(bf y.2).toList)=decide (Lib.compareBytes (cr x.2) (cr y.2)=0)):=by
  unfold Hid;rw [hkx,XZ];by_cases e:cr x.2=cr y.2
  ·rw [e,wP];simp
  ·rw [beq_eq_false_iff_ne.2 e,decide_eq_false fun q=>e (pI q)]
 have HW:Hid (∃q os,(W.alloc (.cells #[x.1.1,x.1.2,.string (bf x.2)] 96)).alloc (.cells #[y.1.1,y.1.2,.string (bf y.2)] 96)=grow (W.drewN q) os):=⟨0,_,by rw [alloc_eq_grow,alloc_eq_grow,grow_grow];rfl⟩;clear hkx XZ;unfold ja;generalize Lib.compareBytes (cr x.2) (cr y.2)=cb at *;generalize CI x y=c at *
 go_enter Tryz.func123,Tryz.ntmps123
 go_wp2_with fail
 ·rename_i hb
  rw [HL.out] at hb;have hb:=of_decide_eq_true hb;go_ret;exact ⟨aN (by rw [HC.out,if_pos hb]),HW.out⟩
 ·rename_i hb hc
  rw [HL.out] at hb;have hb:=of_decide_eq_false hb;have hc:((bf x.2).toList==(bf y.2).toList)=false:=by simpa using hc
  rw [HQ.out] at hc;have hc:=of_decide_eq_false hc;go_ret;exact ⟨aN (by rw [HC.out,if_neg hb,if_pos (by omega)]),HW.out⟩
 ·rename_i hb hc
  rw [HL.out] at hb;have hb:=of_decide_eq_false hb;have hc:((bf x.2).toList==(bf y.2).toList)=true:=by simpa using hc
  rw [HQ.out] at hc;have hc:=of_decide_eq_true hc;go_ret;exact ⟨aN (by rw [HC.out,if_neg hb,if_neg (by omega)]),HW.out⟩
theorem Ux {S:Nat->Prop} {w:World} {x:nu} (h:aC S w (.agg #[x.1.1,x.1.2]) (flat x.2)):x.1.1.oneCell'=true/\x.1.2.oneCell'=true:=by
 obtain ⟨P1,N1,e,hP,hN⟩:=h;injection e with e;have e1:x.1.1=P1/\x.1.2=N1:=by simpa using e
 obtain ⟨p,c,e2,_⟩:=aA.open hP;obtain ⟨q,d,e3,_⟩:=aA.open hN;rw [e1.1,e1.2,e2,e3];exact ⟨rfl,rfl⟩
theorem Pc {base:Nat} {w:World} {v:Value} {es:List nu} (h:jB base w v es) (hne:es≠[]) (hn:es.length<=1000000) :
  Calls Tryz.prog 122 #[v,.func (.func 123) #[] #[]] w fun e w'=>e=.returned (.tuple #[])/\w.grownBy w' v.ownBlock/\∃es':List nu,es'.Perm es/\(es'.map (·.2)).Pairwise fV /\
   ∃g cap,v=.slice (some ⟨g,0,none⟩) es'.length cap/\∀k,k<es'.length->w'.cell? ⟨g,k*3,none⟩=some (ge es' k).1.1/\w'.cell? ⟨g,k*3+1,none⟩=some (ge es' k).1.2/\w'.cell? ⟨g,k*3+2,none⟩=some (.string (bf (ge es' k).2)):=by
 obtain ⟨ho,hT⟩:=h;obtain ⟨x0,hx0⟩:∃x,x∈es:=List.exists_mem_of_ne_nil _ hne;have hl0:0<es.length:=wG.2 hne;letI:Inhabited {x // x∈es}:=⟨⟨x0,hx0⟩⟩;obtain ⟨blk,cap,hv⟩:∃blk cap,v=.slice (some ⟨blk,0,none⟩) es.length cap:=by
  rcases ho.2 with ⟨_,h0⟩ | ⟨g,cap,cur,e,_⟩
  ·exfalso
   have:=h0;omega
  ·exact ⟨g,cap,e⟩
 subst hv;have hblk:blk<w.heap.size:=(lT ho blk rfl).2;have hsize:(es.attach.toArray).size=es.length:=by simp
 have Dn:∀i,i<es.length->((es.attach.toArray)[i]!).1=ge es i:=fun i hi=>by rw [getElem!_pos _ _ (by simpa using hi)];simp [ge,hi]
 have hfz:∀j,w.frozen? ⟨blk,j,none⟩=false:=fun j=>by
  rcases ho.2 with ⟨e,_⟩ | ⟨g',cap',cur,hs',_,hc',_⟩
  ·cases e
  ·injection hs' with hs1
   injection hs1 with hs1;injection hs1 with hs1;subst hs1;simp [World.frozen?,hc']
 have hH:HoldsK (fun x:{x // x∈es}=>ja x.1) 3 w blk 0 es.attach.toArray:=by
  intro j hj;rw [size_flatK,hsize] at hj;refine ⟨?_,by rw [ij];exact hfz j⟩;rw [get_flatK _ _ _ _ (by rw [hsize];exact hj),ij,ho.cellAt j hj];have hi:j / 3<es.length:=by omega
  obtain ⟨c1,c2,c3⟩:=E5 es (j / 3) hi;show _=some ((ja ((es.attach.toArray)[j / 3]!).1)[j % 3]!);rw [Dn _ hi];have h3:j % 3=0\/j % 3=1\/j % 3=2:=by omega
  rcases h3 with h3 | h3 | h3
  ·rw [h3,show (gm es)[j]? = (gm es)[j / 3*3]? by congr 1;omega,c1];simp [ja]
  ·rw [h3,show (gm es)[j]? = (gm es)[j / 3*3+1]? by congr 1;omega,c2];simp [ja]
  ·rw [h3,show (gm es)[j]? = (gm es)[j / 3*3+2]? by congr 1;omega,c3];simp [ja]
 have hgb:∀(m:Nat) (os:Array Obj) (dk:Array {x // x∈es}),w.grownBy (sortWorldK (fun x:{x // x∈es}=>ja x.1) 3 w blk 0 m dk os) (some blk):=fun m os dk=>⟨rfl,rfl,rfl,size_sortWorldK_c _ _ _ _ _ _ _ _,fun b hb hne=>eV (enc:=id) (fun e=>hne (by rw [e])) hb⟩;have hcmp:CmpLays Tryz.prog 123 #[] (fun x:{x // x∈es}=>ja x.1) 3 (fun x y=>CI x.1 y.1) blk 0 es.attach.toArray.size w:=fun m os dk _ x y=>RX x.1 y.1 _
 have hcon:=AnyQ.slices_SortFunc Tryz.sortEnt 3 Tryz.isAgg96 Tryz.sizeOf96 (fun x:{x // x∈es}=>ja x.1) (fun _=>rfl) (fun x u hu=>by
   obtain ⟨o1,o2⟩:=Ux (hT x.1 x.2);unfold ja at hu;rcases bX.1 hu with e | hu
   ·subst e;exact o1
   ·rcases bX.1 hu with e | hu
    ·subst e;exact o2
    ·rw [jT.1 hu];rfl) (fun x y=>CI x.1 y.1) ⟨fun x=>My.irrefl x.1,fun x y z=>My.trans x.1 y.1 z.1,fun x y z=>My.ntrans x.1 y.1 z.1⟩ 123 #[] blk 0 cap es.attach.toArray w (enters_of Tryz.func123 (by kernel_rfl) rfl) hcmp hH hblk (by rw [hsize];omega)
 rw [hsize] at hcon;refine hcon.mono fun e w' ⟨he,d',m,os,Ts,WI,hw⟩=>⟨he,by rw [hw];exact hgb m os d',d'.toList.map (·.1),?_,?_,blk,cap,?_,?_⟩
 ·obtain ⟨hsz,_,oG⟩:=Ts
  have e1:d'.extract 0 es.length=d':=by rw [<- hsize,<- hsz];exact Array.extract_size
  have e2:es.attach.toArray.extract 0 es.length=es.attach.toArray:=by rw [<- hsize];exact Array.extract_size
  rw [e1,e2] at oG;have h2:=oG.map (fun (x:{x // x∈es})=>x.1);rw [List.toList_toArray,List.attach_map_subtype_val] at h2;exact h2
 ·obtain ⟨hsz,_,_⟩:=Ts
  rw [hsize] at hsz;rw [jS,List.pairwise_map,rK];intro i j hi hj hij;have hi':i<d'.size:=by simpa using hi
  have hj':j<d'.size:=by simpa using hj
  have h3:=WI i j (aI _) hij (by omega);rw [getElem!_pos d' j hj',getElem!_pos d' i hi'] at h3;have h4:ltOf CI (d'[j]'hj').1 (d'[i]'hi').1=false:=h3;rw [CJ,decide_eq_false_iff_not] at h4;show Lib.compareBytes (cr (d'.toList[i]'(by simpa using hi)).1.2) (cr (d'.toList[j]'(by simpa using hj)).1.2)<=0;rw [Array.getElem_toList,Array.getElem_toList];have:=nG (cr (d'[j]'hj').1.2) (cr (d'[i]'hi').1.2);omega
 ·have:d'.size=es.length:=by rw [Ts.1,hsize]
  simp [this]
 ·intro k hk
  have hk':k<d'.size:=by simpa using hk
  have X0:=holdsK_sortWorldK_c (fun x:{x // x∈es}=>ja x.1) 3 w blk 0 es.attach.toArray d' m os hH hblk Ts.1;have hge:ge (d'.toList.map (·.1)) k=(d'[k]!).1:=by rw [getElem!_pos d' k hk'];simp [ge,hk']
  have c0:=(X0.cell (i:=k) (c:=0) hk' (by decide)).1;have c1:=(X0.cell (i:=k) (c:=1) hk' (by decide)).1;have c2:=(X0.cell (i:=k) (c:=2) hk' (by decide)).1;rw [ij] at c0 c1 c2;rw [hge,hw];exact ⟨c0,c1,c2⟩
end
section
open Go.RowKit Go.Deep
theorem si {s:ByteArray} (h:bu s.data.toList=true):s.size<=20:=by
 have hl:s.data.toList.length=s.size:=size_data s;unfold bu eG at h;split at h
 ·simp only [fe,decide_eq_true_eq] at h;omega
 ·simp only [fe,decide_eq_true_eq] at h;omega
theorem E6 {S:Nat->Prop} {w:World} {b o n cap:Nat} {xs:List ByteArray} (h:av S w (.slice (some ⟨b,o,none⟩) n cap) xs) (hn:2<=xs.length):av S w (.slice (some ⟨b,o+1,none⟩) (xs.length - 1) (cap - 1)) xs.tail:=by
 obtain ⟨p,c,e,hc,h⟩:=h;injection e with e1 e2 e3;subst e1;subst e3;refine ⟨_,_,by rw [qi],by rw [qi];omega,?_⟩;rcases h with h | ⟨b',o',e4,hS,h⟩
 ·omega
 ·injection e4 with e4
  injection e4 with e5 e6;subst e5;subst e6;refine .inr ⟨b,o+1,rfl,hS,fun k hk=>?_⟩;rw [qi] at hk;have:=h (k+1) (by omega);rw [show o+1+k=o+(k+1) by omega,this];show some (Value.string (gs xs (k+1)))=some (Value.string (gs xs.tail k));have:gs xs.tail k=gs xs (k+1):=by
   unfold gs;cases xs with
   | nil=>simp at hn
   | cons a l=>rfl
  rw [this]
def oa (acw:List ByteArray) (s:ByteArray):ByteArray:=⟨#[40]⟩++gs acw 0++⟨#[44]⟩++s++⟨#[41,59]⟩
structure EnF (acw:List ByteArray) (r:BT ByteArray):Prop where
 Mz:jM (oa acw (jO r)).data.toList=some (dy (uB acw r))
 X3:(oa acw (jO r)).size<=1000
 te:aB (flat (dy (uB acw r)))=0
 can:qX (flat (dy (uB acw r)))=flat (uR acw r)
 te2:aB (flat (uR acw r))=0
 tx:uw (flat (uR acw r))=cr (uR acw r)
 len:aK (dy (uB acw r))<=9/\aK (uR acw r)<=9
 sz:∀k,(gs (flat (dy (uB acw r))).ns k).size<=70000
 sz2:∀k,(gs (flat (uR acw r)).ns k).size<=70000
theorem ve {r:RT} (h:kP r) (k:Nat):(gs (flat r).ns k).size<=70000:=by
 refine iL (M:=70000) (fun x hx=>?_) k;have hx:x∈dr r:=hx;rw [nU] at hx;obtain ⟨s,hs,rfl⟩:=di.1 hx;by_cases e:s.kids=[]
 ·exact aR (si (h.lf s hs e)) (by decide)
 ·rw [h.Ej s hs e];exact aI _
theorem enF {acw:List ByteArray} (h:dU acw) {r:BT ByteArray} (hr:r∈k6 acw.tail):EnF acw r:=by
 have hp:r.aP.Perm acw.tail:=iX _ _ _ hr;have ho:=Ml h hp;have hg:=ho.KI.good;have hhi:=h.hi;have hlo:=h.lo;have hl:=(mF h hp).length_eq;have hs:=zS (uB acw r);have hz:∀x∈acw,x.size<=20:=fun x hx=>si (h.nm x hx);have ht:=yJ hg (by omega);have Am:r∈rt acw.length acw.tail:=by have:rt acw.length acw.tail=k6 acw.tail:=qf _ _ _ (by simp) (ah _);rw [this];exact hr
 obtain ⟨_,_,q3,_,q5,_⟩:=gI h (qa.2 ⟨r,Am,rfl⟩);refine ⟨?_,?_,ht,by rw [yH ht,l5];rfl,q5,by rw [WT q5,l5];rfl,by omega,ve hg,ve (r:=uR acw r) hg.sort⟩
 ·have e:(oa acw (jO r)).data.toList=bF (dy (uB acw r))++[59]:=by
   unfold oa jO uB
   rw [Th,dy,xu]
   simp
  rw [e];exact vQ hg.kC
 ·have h1:=xz r fun x hx=>hz x (zB (hp.mem_iff.1 hx))
  have h2:=hp.length_eq;have h3:=iL hz 0;rw [qi] at h2;unfold oa;simp only [ByteArray.size_append];show 1+(gs acw 0).size+1+(jO r).size+2<=1000;omega
def Pd (w:World) (acw:List ByteArray) (e:Ending) (w':World):Prop:=Up w w'/\∃v,e=.returned (.tuple #[v,.int .i64 0])/\vZ w' v (bQ acw)
theorem E7 {base n size:Nat} {e:TypeId} {w w':World} {v:Value} {vs:List Value} (h:w.ownsRow base e size v n vs) (k:∀b,v.ownBlock=some b->w'.heap[b]? = w.heap[b]?):w'.ownsRow base e size v n vs:=by
 refine ⟨h.1,?_⟩;rcases h.2 with h2 | ⟨g,cap,cur,hv,hg,hc,h3⟩
 ·exact .inl h2
 ·exact .inr ⟨g,cap,cur,hv,hg,(k g (by rw [hv];rfl)).trans hc,h3⟩
theorem jB.up {base:Nat} {w w':World} {v:Value} {es:List nu} (h:jB base w v es) (hu:Up w w'):jB base w' v es :=
 ⟨E7 h.1 fun b hb=>bH hu b (lT h.1 b hb).2,fun x hx=>(h.2 x hx).keep (hu.kept _)⟩
def gB (R:List (BT ByteArray)) (n:Nat):BT ByteArray:=R.getD n (.leaf ByteArray.empty)
theorem X4 {L:List ByteArray} {n:Nat} (h:n<(k6 L).length):gs (bM L) n=jO (gB (k6 L) n)/\gB (k6 L) n∈k6 L:=by
 unfold gs gB bM;constructor
 ·simp [h]
 ·simp [h]
theorem Tryz.Uy:(Tryz.prog.info? 96).map (fun i=>(i.zero,i.size,i.bytes))=some (some (.agg #[.slice none 0 0,.slice none 0 0,.string ⟨#[]⟩]),3,64):=by kernel_rfl
def EnI (w:World) (acw:List ByteArray) (n:Nat) (out:Value) (wr:World):Prop:=Up w wr/\∃es:List nu,jB w.heap.size wr out es/\es.map (·.2)=((k6 acw.tail).take n).map (uR acw)
theorem jB.form {base:Nat} {w:World} {v:Value} {es:List nu} (h:jB base w v es):∃p c,v=.slice p es.length c:=by
 rcases h.1.2 with ⟨e,h0⟩ | ⟨g,cap,cur,e,_⟩
 ·exact ⟨none,0,by rw [e,h0]⟩
 ·exact ⟨_,_,e⟩
theorem KY {R:List (BT ByteArray)} {n:Nat} (h:n<R.length):R.take (n+1)=R.take n++[gB R n]:=by
 rw [jo h];simp [gB,h]
theorem Pe (S:Nat->Prop) (w:World) (v:Value) (acw:List ByteArray) (hok:dU acw) (h:av S w v acw):Calls Tryz.prog 68 #[v] w (Pd w acw):=by
 have hlo:=hok.lo;have hhi:=hok.hi;obtain ⟨p,cap,rfl,hcap,-⟩:=aA.open h;have h:av S w (.slice p acw.length cap) acw:=h;obtain ⟨nb,no,rfl,hc0⟩:=cA h (k:=0) (by omega);rw [nA] at hc0;have hz:∀x∈acw,x.size<=20:=fun x hx=>si (hok.nm x hx);have Pf:=aa (RV acw.tail.length acw.tail (ah _) (by rw [qi];omega) (by rw [qi];omega) (fun x hx=>hz x (zB hx)) S w _ (E6 h hlo));have xK:=aa hok;have gj:=aa hc0
 have uI:Hid (acw.tail.length<=4/\1<=acw.tail.length):=by unfold Hid;rw [qi];omega
 have hgz:(gs acw 0).size<=20:=iL hz 0;have X5:=aa hgz;have X6:Hid (∀k,(gs (bM acw.tail) k).size<=100):=iL fun x hx=>xA uI.out.1 (fun x hx=>hz x (zB hx)) hx;have o9:Hid ((bM acw.tail).length=(k6 acw.tail).length/\(bM acw.tail).length<=15/\1<=(bM acw.tail).length):=⟨by unfold bM;rw [aD],sg uI.out.1,Ut uI.out.1 uI.out.2⟩;have i0:¬cap=1:=by omega
 have i1:(1:Int)<=(acw.length:Int):=by omega
 have i2:1<=acw.length:=by omega
 clear h hc0 hz hok hhi hgz
 go_enter Tryz.func68,Tryz.ntmps68
 go_wp2_with fail;refine Pf.out.mono ?_;rintro e w1 ⟨bw,tv,rfl,IZ⟩;obtain ⟨tp,tc,rfl,-,-⟩:=aA.open IZ;have X7:Hid (av (fun b=>S b\/w.heap.size<=b) w1 (.slice tp (bM acw.tail).length tc) (bM acw.tail)):=IZ;have b9:=aa bw;have CF:Hid (EnI w1 acw 0 (.slice none 0 0) w1):=⟨Up.refl _,[],jB.nil _ _,by simp⟩;clear bw IZ Pf;go_wp2_with fail
 go_loopw [4,6,7,8,9,14] (fun out _ _ _ _ i wr=>∃n:Nat,n<=(bM acw.tail).length/\i=.int .i64 n/\Hid (EnI w1 acw n out wr)) (fun _ _ _ _ _ i _=>(bM acw.tail).length - (intOf i).toNat)
 case atStart=>exact ⟨0,aI _,rfl,CF.out⟩
 case round =>
  obtain ⟨n,hn,rfl,hI⟩:=hrel;obtain ⟨wo,rfl⟩:∃wo:World,wo=wr:=⟨_,rfl⟩;obtain ⟨lR,es,hes,hem⟩:=hI.out;have i3:(0:Int)<=(n:Int):=by omega
  by_cases hlt:n<(bM acw.tail).length
  ·obtain ⟨tb,to',rfl,hct⟩:=cA (av.keep X7.out (lR.kept _)) hlt
   (have hnl:n<(k6 acw.tail).length:=by rw [<- o9.out.1];exact hlt);obtain ⟨g1,g2⟩:=X4 hnl;have E8:=enF xK.out g2;(have hen:es.length=n:=by have:=congrArg List.length hem;rw [aD,aD,dD] at this;omega);(have lK:Hid (((k6 acw.tail).take (n+1)).map (uR acw)=es.map (·.2)++[uR acw (gB (k6 acw.tail) n)]):=by unfold Hid;rw [KY hnl,cm,hem];rfl);have z1:=X5.out;have z2:(gs (bM acw.tail) n).size<=100:=X6.out n;rw [g1] at hct z2
   have zh:Hid (∀W,Calls Tryz.prog 121 #[.string (oa acw (jO (gB (k6 acw.tail) n)))] W (yZ W (oa acw (jO (gB (k6 acw.tail) n))))):=fun W=>Uj W _ E8.X3 (Zp _ E8.X3);unfold oa at zh;have kG:=aa E8;have xX:=aa hes;have AE:=aa hen;have bG:=aa hlt;have Pg:=aa lR;have eY:=(b9.out.trans lR).cell gj.out;(have i4:(n:Int)<((bM acw.tail).length:Int):=by omega);(have i5:(n:Int)<16:=by have:=o9.out.2.1;omega);clear hI E8 hes hen hem lR hlt hnl g1 g2;generalize gB (k6 acw.tail) n=r at *;go_wp2_with fail;refine (zh.out wo).mono ?_
   rintro e w2 ⟨aJ,pv,rfl,hpv⟩;(have hpe:ux (oa acw (jO r))=0:=by unfold ux;rw [kG.out.Mz];exact kG.out.te);(have hpt:rE (oa acw (jO r))=flat (dy (uB acw r)):=by unfold rE;rw [kG.out.Mz];simp [kG.out.te]);unfold oa at hpe hpt;rw [hpe];(have hpv:aC Any w2 pv (flat (dy (uB acw r))):=by have h:=hpv;unfold oa at h;rw [hpt] at h;exact h);obtain ⟨q0,xY⟩:∃q0,q0=flat (dy (uB acw r)):=⟨_,rfl⟩;obtain ⟨q1,hq1⟩:∃q1,q1=flat (uR acw r):=⟨_,rfl⟩;rw [<- xY] at hpv;obtain ⟨P2,N2,rfl,jw,jx⟩:=hpv;obtain ⟨pp,pc,rfl,-,-⟩:=aA.open jw;obtain ⟨np,nc,rfl,-,-⟩:=aA.open jx
   have jw:ay Any w2 (.slice pp q0.ps.length pc) q0.ps:=jw;have jx:av Any w2 (.slice np q0.ns.length nc) q0.ns:=jx;have bq:=Up.alloc w2 (.cells #[.slice pp q0.ps.length pc,.slice np q0.ns.length nc] 39);have hb3:=jv (w:=w2) (P:=.slice pp q0.ps.length pc) (N:=.slice np q0.ns.length nc) (T:=39);have hs3:(w2.alloc (.cells #[.slice pp q0.ps.length pc,.slice np q0.ns.length nc] 39)).heap.size=w2.heap.size+1:=aL _ _;have hl0:q0.ps.length<=1000000/\q0.ns.length<=1000000:=by have:=kG.out.len;rw [xY,nT,r6];omega
   (have jg:q1.ps.length<=1000000/\q1.ns.length<=1000000:=by have:=kG.out.len;rw [hq1,nT,r6];omega);have Ef:=aa (Gn Any (w2.alloc (.cells #[.slice pp q0.ps.length pc,.slice np q0.ns.length nc] 39)) _ q0 (aC.keep ⟨_,_,rfl,jw,jx⟩ (bq.kept _)) hl0.1 hl0.2 (by rw [xY];exact kG.out.sz));(have KZ:Hid (aB q0=0/\qX q0=q1):=by unfold Hid;rw [xY,hq1];exact ⟨kG.out.te,kG.out.can⟩);have lM:Hid (xQ q1=0/\(⟨(uw q1).toArray⟩:ByteArray)=bf (uR acw r)):=by unfold Hid;rw [hq1];refine ⟨by unfold xQ;rw [if_neg (by simp [kG.out.te2])],?_⟩;unfold bf;rw [kG.out.tx]
   have xR:Hid (∀W v,aC Any W v q1->Calls Tryz.prog 29 #[v] W (Cn W q1)):=fun W v h=>Uh Any W v q1 h jg.1 jg.2 (by rw [hq1];exact kG.out.sz2);have ek:=aa (aJ.trans bq);have AD:=aa hb3;have E2:=aa hs3;have yF:Hid (wo.heap.size<=w2.heap.size):=aJ.size;have HQ1:=aa hq1;obtain ⟨b0,b1,b2,b3⟩:=boxed hb3;clear hpe hpt jw jx bq hb3 hs3 hl0 jg aJ xY hq1 eY hct zh z1 z2;go_wp2_with fail;generalize w2.alloc (.cells #[.slice pp q0.ps.length pc,.slice np q0.ns.length nc] 39)=w3 at *;refine Ef.out.mono ?_
   rintro e w4 ⟨dQ,⟨oA,-⟩ | ⟨-,cv,rfl,P4,N4,rfl,fD,fE⟩⟩
   ·exact absurd KZ.out.1 oA
   rw [KZ.out.2] at fD fE;obtain ⟨p4,c4,rfl,-,-⟩:=aA.open fD;obtain ⟨n4,d4,rfl,-,-⟩:=aA.open fE;have hb4:=(bH dQ w2.heap.size (by rw [E2.out];omega)).trans AD.out;have WO:=aa hb4;have kX:=aa (ek.out.trans dQ);have Kf:Hid (ay (fun b=>w3.heap.size<=b) w4 (.slice p4 q1.ps.length c4) q1.ps/\av (fun b=>w3.heap.size<=b) w4 (.slice n4 q1.ns.length d4) q1.ns):=⟨fD,fE⟩;obtain ⟨b0,b1,b2,b3⟩:=boxed hb4;clear hb4 dQ fD fE Ef;have HST:=aa (eW (w:=wo) (p:=.slice p4 q1.ps.length c4) (q:=.slice n4 q1.ns.length d4) WO.out yF.out kX.out)
   go_wp2_with fail;obtain ⟨u5,s0,s1,s2⟩:=HST.out;have DY:aC (fun b=>w3.heap.size<=b) ((w4.setCell ⟨w2.heap.size,0,none⟩ (.slice p4 q1.ps.length c4)).setCell ⟨w2.heap.size,1,none⟩ (.slice n4 q1.ns.length d4)) (.agg #[.slice p4 q1.ps.length c4,.slice n4 q1.ns.length d4]) q1 :=
    ⟨_,_,rfl,ay.keep Kf.out.1 fun b hb _=>s2 b (by have:=E2.out;omega),av.keep Kf.out.2 fun b hb _=>s2 b (by have:=E2.out;omega)⟩
   have tB:=aa DY;have ng:=aa u5;have HC5:=aa (And.intro s0 s1);clear DY u5 s0 s1 s2 HST Kf b0 b1 b2 b3;generalize (w4.setCell ⟨w2.heap.size,0,none⟩ _).setCell ⟨w2.heap.size,1,none⟩ _=w5 at *;refine (xR.out w5 _ (tB.out.sub fun _ _ _=>trivial)).mono ?_;rintro e w6 ⟨fB,rfl⟩;rw [lM.out.1,lM.out.2];have b0:=fB.cell HC5.out.1;have b1:=fB.cell HC5.out.2;have X8:=aa (ng.out.trans fB);have EU:=aa (tB.out.keep (fB.kept _));have RY:=xX.out.up X8.out;have RZ:=aa RY;obtain ⟨op,oc,rfl⟩:=RY.form;rw [AE.out]
   (have RZ:Hid (jB w1.heap.size w6 (.slice op n oc) es):=by have h:=RZ.out;rw [AE.out] at h;exact h);have Ph:Hid (aC (fun b=>some b≠(Value.slice op n oc).ownBlock) w6 (.agg #[.slice p4 q1.ps.length c4,.slice n4 q1.ns.length d4]) (flat (uR acw r))):=by have h:=EU.out;(have hlt:∀b,(Value.slice op n oc).ownBlock=some b->b<wo.heap.size:=fun b hb=>by have h2:=xX.out.1;rw [AE.out] at h2;exact (lT h2 b hb).2);rw [<- HQ1.out];exact h.sub fun b hb _ e=>by have h1:=hlt b e.symm;have h2:=yF.out;have h3:=E2.out;omega
   have dm:Hid (w1.heap.size<=w6.heap.size):=(Pg.out.trans X8.out).size;clear RY fB tB EU xR;go_wp2_with (at_builtin;refine Fm w6 rfl _ _ 91 rfl w1.heap.size _ 64 Tryz.underlying91 Tryz.Uy rfl (by decide) RZ.out rfl ((.slice p4 q1.ps.length c4,.slice n4 q1.ns.length d4),uR acw r) rfl Ph.out n AE.out (by have:=bG.out;have:=o9.out.2.1;omega) dm.out ?_;intro g8 jl w8 dJ eN zi;have vT:=aa dJ;have nj:=aa zi;clear dJ eN zi)
   go_roundw
   case rel=>exact ⟨n+1,bG.out,by go_num,fc (show Below w1.heap.size w1 w6 from Pg.out.trans X8.out) nj.out,_,vT.out,by rw [lK.out,cm];rfl⟩
   case measure=>have:=bG.out;simp [intOf];omega
  ·obtain rfl:n=(bM acw.tail).length:=by omega
   (have i4:¬((bM acw.tail).length:Int)<((bM acw.tail).length:Int):=by omega);have X9:=jB.up hes (Up.refl wo);obtain ⟨op,oc,rfl⟩:=X9.form;(have zj:es.map (·.2)=(rt acw.length acw.tail).map (uR acw):=by rw [hem,o9.out.1,eT];have:rt acw.length acw.tail=k6 acw.tail:=qf _ _ _ (by simp) (ah _);rw [this]);have rA:es.length=(bM acw.tail).length:=by have:=congrArg List.length hem;rw [aD,aD,o9.out.1,eT] at this;rw [o9.out.1];exact this
   (have hne:es≠[]:=fun e=>by rw [e] at rA;have:=o9.out.2.2;simp at rA;omega);have Wk:=aa (Pc hes hne (by rw [rA];have:=o9.out.2.1;omega));have xX:=aa hes;have Pj:=aa zj;have Pg:=aa lR;clear hI hes X9 hem zj lR hlt hne rA;go_wp2_with fail;refine Wk.out.mono ?_;rintro e w9 ⟨rfl,Ya,es',Tt,KW,g9,c9,hv9,KX⟩;have rF:Hid (Pd w acw (.returned (.tuple #[.slice op es.length oc,.int .i64 0])) w9):=by
    have hB:Below w1.heap.size w1 w9:=Below.grown (show Below w1.heap.size w1 wo from Pg.out) Ya Pg.out.size fun k hk=>(lT xX.out.1 k hk).1;(have Am:(es'.map (·.2))=bQ acw:=by refine xx (((Tt.map (·.2)).trans (List.Perm.of_eq Pj.out)).trans (kF _).symm) KW (uY _) fun r hr=>?_;have hr2:r∈bQ acw:=(kF _).mem_iff.2 (Pj.out ▸ (Tt.map (·.2)).mem_iff.1 hr);exact (gI xK.out hr2).1.good.kC);refine ⟨?_,_,rfl,g9,c9,es',?_,Am,KX,?_⟩
    ·exact Up.trans b9.out hB
    ·rw [hv9,<- Am,aD]
    ·intro x hx
     have h1:=xX.out.2 x (Tt.mem_iff.1 hx);exact (h1.keep fun b hb hlt=>Ya.block b hlt hb).sub fun _ _ _=>trivial
   clear Ya Tt KW hv9 KX;go_wp2_with fail;go_ret2;exact rF.out
end
end Go.Proofs.YthgabkgmkolobaaGreat
