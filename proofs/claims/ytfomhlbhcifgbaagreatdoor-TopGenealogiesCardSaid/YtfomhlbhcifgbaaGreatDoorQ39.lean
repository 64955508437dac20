/- Lists of trees with their texts, in memory: appending, reading, sorting by text. .. -/
import Derived.Test.YtfomhlbhcifgbaaGreatDoorQ37
import Derived.Test.YtfomhlbhcifgbaaGreatDoorQ38
set_option maxRecDepth 100000
set_option maxHeartbeats 4000000
namespace Go.Proofs.YtfomhlbhcifgbaaGreatDoor
section
open Go.RowKit Go.Deep Go.Sort Go.Shelf Go.Lib
abbrev mM:=(Value×Value)×RT
def eM (r:RT):ByteArray:=⟨(dc r).toArray⟩
def iw (x:mM):List Value:=[x.1.1,x.1.2,.string (eM x.2)]
def fH (es:List mM):List Value:=es.flatMap iw
def ge (es:List mM) (k:Nat):mM:=es.getD k ((undef,undef),.node ByteArray.empty [])
theorem Jv (es:List mM) (x:mM):fH (es++[x])=fH es++iw x:=by unfold fH;rw [o9];simp
theorem Ey:∀(es:List mM) (k:Nat),k<es.length->(fH es)[k*3]? = some (ge es k).1.1/\(fH es)[k*3+1]? = some (ge es k).1.2/\(fH es)[k*3+2]? = some (.string (eM (ge es k).2))
 | [],k,h=>absurd h (cz _)
 | x::es,0,_=>by simp [fH,iw,ge]
 | x::es,k+1,h=>by
  have ih:=Ey es k (by simpa using h)
  have e:(k+1)*3=k*3+1+1+1:=by omega
  have e2:ge (x::es) (k+1)=ge es k:=by simp [ge]
  have e3:fH (x::es)=x.1.1::x.1.2::.string (eM x.2)::fH es:=by simp [fH,iw]
  rw [e2,e3,e]
  simp only [List.getElem?_cons_succ]
  exact ih
def iY (base:Nat) (w:World) (v:Value) (es:List mM):Prop :=
 w.ownsRow base 62 3 v es.length (fH es)/\∀x∈es,aJ (fun b=>some b≠v.ownBlock) w (.agg #[x.1.1,x.1.2]) (flat x.2)
theorem iY.nil (base:Nat) (w:World):iY base w (.slice none 0 0) []:=⟨World.ownsRow_nil _ _ _ _,fun _ h=>by cases h⟩
def uW (w:World) (v:Value) (qs:List RT):Prop :=
 ∃g cap,∃es:List mM,v=.slice (some ⟨g,0,none⟩) qs.length cap/\es.map (·.2)=qs/\(∀k,k<es.length->w.cell? ⟨g,k*3,none⟩=some (ge es k).1.1/\w.cell? ⟨g,k*3+1,none⟩=some (ge es k).1.2/\w.cell? ⟨g,k*3+2,none⟩=some (.string (eM (ge es k).2)))/\∀x∈es,aJ Any w (.agg #[x.1.1,x.1.2]) (flat x.2)
theorem YB {es:List mM} {k:Nat} (h:k<es.length):ge es k∈es:=by simp [ge,h]
theorem uW.keep {w w':World} {v:Value} {qs:List RT} (h:uW w v qs) (hu:Up w w'):uW w' v qs:=by
 obtain ⟨g,cap,es,e1,e2,h1,h2⟩:=h;exact ⟨g,cap,es,e1,e2,fun k hk=>⟨hu.cell (h1 k hk).1,hu.cell (h1 k hk).2.1,hu.cell (h1 k hk).2.2⟩,fun x hx=>(h2 x hx).keep (hu.kept _)⟩
section
variable {P:Program} {ops:Array Oper} {rest:List Oper} {o:Oper} {a:Act} {Q:Exit->Act->World->Prop}
theorem EW (W:World) (hgd:o.guard=none) (s x:Operand) (t:TypeId) (ho:o.op=.call { callee:=.builtin .append,args:=#[s,x],argTypes:=#[t,t] })
  (base:Nat) (z:Value) (bytes:Nat) (ht:P.underlying t=some (.slice 62)) (hinfo:(P.info? 62).map (fun i=>(i.zero,i.size,i.bytes))=some (some z,3,bytes))
  (hz1:z.cells.size=3) (mB:bytes<=64) {v:Value} {es:List mM} (hown:iY base W v es) (hs:a.eval s=v) (G:mM)
  (hx:a.eval x=.slice (some ⟨W.heap.size,0,none⟩) 1 1) (hu:aJ (fun b=>some b≠v.ownBlock) W (.agg #[G.1.1,G.1.2]) (flat G.2)) (n:Nat) (nV:es.length=n) (hn:n<=1000000) (hbase:base<=W.heap.size)
  (h:∀g cap w',iY base w' (.slice (some ⟨g,0,none⟩) (n+1) cap) (es++[G])->W.grownBy w' v.ownBlock->Below base W w'->wpList P ops Q rest (a.put o.dst (.slice (some ⟨g,0,none⟩) (n+1) cap)) w') :
  wpList P ops Q (o::rest) a (W.alloc (.cells #[G.1.1,G.1.2,.string (eM G.2)] 62)):=by
 subst nV;obtain ⟨i,hi,hzz⟩:=iN.1 hinfo;simp only [iO] at hzz;obtain ⟨hz,hs1,hb⟩:=hzz;obtain ⟨hown,hrows⟩:=hown;have h1:G.1.1.oneCell'=true/\G.1.2.oneCell'=true:=by
  obtain ⟨P1,N1,e,hP,hN⟩:=hu;injection e with e;have e1:G.1.1=P1/\G.1.2=N1:=by simpa using e
  obtain ⟨p,c,e2,_⟩:=aB.open hP;obtain ⟨q,d,e3,_⟩:=aB.open hN;rw [e1.1,e1.2,e2,e3];exact ⟨rfl,rfl⟩
 refine wpList_append_lies _ hgd s x t ho base 62 i z 3 bytes ht hi hz hs1 hb hz1 (by omega) v es.length (fH es) hs (hown.alloc _) ⟨W.heap.size,0,none⟩ 1 1 (iw G) hx rfl ?_ (fun q hq=>by
  unfold iw at hq;rcases bQ.1 hq with e | hq
  ·subst e;exact h1.1
  ·rcases bQ.1 hq with e | hq
   ·subst e;exact h1.2
   ·rw [eN.1 hq];rfl) (by omega)
  (by unfold maxLen;omega) ?_ (by simp;omega) _ rfl fun g cap w' h2 h3 h4 _=>?_
 ·intro j u' hj
  match j with
  | 0 =>
   (obtain rfl:G.1.1=u':=by simpa [iw] using hj);exact bE W _ _ 0
  | 1 =>
   (obtain rfl:G.1.2=u':=by simpa [iw] using hj);exact bE W _ _ 1
  | 2 =>
   (obtain rfl:Value.string (eM G.2)=u':=by simpa [iw] using hj);exact bE W _ _ 2
  | j+3=>simp [iw] at hj
 ·have:(es.length+1)*bytes<=(es.length+1)*64:=qK _ mB
  omega
 ·have hg:=gQ h3
  have Am:∀b:Nat,some b≠v.ownBlock->b<W.heap.size->some b≠(Value.slice (some ⟨g,0,none⟩) (es.length+1) cap).ownBlock:=fun b hb hlt e=>by
   simp only [Value.ownBlock,um] at e;rcases h4 with h4 | h4
   ·exact hb (by rw [h4,e])
   ·rw [aN] at h4;omega
  have hkeep:∀ {u':Value} {y':aA},aJ (fun b=>some b≠v.ownBlock) W u' y'->aJ (fun b=>some b≠(Value.slice (some ⟨g,0,none⟩) (es.length+1) cap).ownBlock) w' u' y':=fun hi'=>by obtain ⟨P1,N1,e,hP,hN⟩:=hi';have k:Kept (fun b=>some b≠v.ownBlock/\b<W.heap.size) W w':=fun b hb hlt=>hg.block b hlt hb.1;exact ⟨P1,N1,e,(af.keep (hP.sub fun b hb hlt=>⟨hb,hlt⟩) k).sub fun b hb _=>Am b hb.1 hb.2,(aC.keep (hN.sub fun b hb hlt=>⟨hb,hlt⟩) k).sub fun b hb _=>Am b hb.1 hb.2⟩
  refine h g cap w' ⟨by rw [bG,Jv];exact h2,fun x hx=>?_⟩ hg (Below.grown (b7 _ _) hg hbase fun k hk=>(mq hown k hk).1);rcases eD.1 hx with hx | hx
  ·exact hkeep (hrows x hx)
  ·rw [eN.1 hx];exact hkeep hu
end
def Ce (x y:mM):Int:=if Lib.compareBytes (dc x.2) (dc y.2)<0 then -1 else if 0<Lib.compareBytes (dc x.2) (dc y.2) then 1 else 0
theorem Cf (x y:mM):ltOf Ce x y=decide (Lib.compareBytes (dc x.2) (dc y.2)<0):=by
 unfold ltOf Ce;split
 ·rename_i h;simp [h]
 ·rename_i h
  split<;>simp [h]
theorem LW:SWO (ltOf Ce) where
 irrefl x:=by rw [Cf,Ap];simp
 trans x y z h1 h2:=by
  rw [Cf] at *
  simp only [decide_eq_true_eq] at *
  exact s7 h1 h2
 ntrans x y z h1 h2:=by
  rw [Cf] at *
  simp only [decide_eq_false_iff_not] at *
  intro h3
  by_cases e:Lib.compareBytes (dc x.2) (dc y.2)=0
  ·rw [rQ e] at h3;exact h2 h3
  ·have h4:=mX (dc x.2) (dc y.2)
   exact h2 (s7 (show Lib.compareBytes (dc y.2) (dc x.2)<0 by omega) h3)
theorem RP (x y:mM) (W:World) :
  Calls Tryz.prog 46 #[.agg (iw x).toArray,.agg (iw y).toArray] W fun e w'=>e=.returned (.int .i64 (Ce x y))/\∃q os,w'=grow (W.drewN q) os:=by
 have HC:Hid (Ce x y=if Lib.compareBytes (dc x.2) (dc y.2)<0 then -1 else if 0<Lib.compareBytes (dc x.2) (dc y.2) then 1 else 0):=rfl;have hkx:(eM x.2).toList=dc x.2:=by rw [toList_data];rfl
 have YC:(eM y.2).toList=dc y.2:=by rw [toList_data];rfl
 have HL:Hid (Op.bytesLess (eM x.2).toList (eM y.2).toList=decide (Lib.compareBytes (dc x.2) (dc y.2)<0)):=by unfold Hid;rw [hkx,YC];exact Hi _ _
 have HQ:Hid (((eM x.2).toList==(eM y.2).toList)=decide (Lib.compareBytes (dc x.2) (dc y.2)=0)):=by
  unfold Hid;rw [hkx,YC];by_cases e:dc x.2=dc y.2
  ·rw [e,Ap];simp
  ·rw [beq_eq_false_iff_ne.2 e,decide_eq_false fun q=>e (rQ q)]
 have HW:Hid (∃q os,(W.alloc (.cells #[x.1.1,x.1.2,.string (eM x.2)] 62)).alloc (.cells #[y.1.1,y.1.2,.string (eM y.2)] 62)=grow (W.drewN q) os):=⟨0,_,by rw [alloc_eq_grow,alloc_eq_grow,grow_grow];rfl⟩;clear hkx YC;unfold iw;generalize Lib.compareBytes (dc x.2) (dc y.2)=cb at *;generalize Ce x y=c at *;go_in;go_wp2_with fail
 ·rename_i hb
  rw [HL.out] at hb;have hb:=of_decide_eq_true hb;go_ret;exact ⟨aU (by rw [HC.out,if_pos hb]),HW.out⟩
 ·rename_i hb hc
  rw [HL.out] at hb;have hb:=of_decide_eq_false hb;have hc:((eM x.2).toList==(eM y.2).toList)=false:=by simpa using hc
  rw [HQ.out] at hc;have hc:=of_decide_eq_false hc;go_ret;exact ⟨aU (by rw [HC.out,if_neg hb,if_pos (by omega)]),HW.out⟩
 ·rename_i hb hc
  rw [HL.out] at hb;have hb:=of_decide_eq_false hb;have hc:((eM x.2).toList==(eM y.2).toList)=true:=by simpa using hc
  rw [HQ.out] at hc;have hc:=of_decide_eq_true hc;go_ret;exact ⟨aU (by rw [HC.out,if_neg hb,if_neg (by omega)]),HW.out⟩
theorem UX {S:Nat->Prop} {w:World} {x:mM} (h:aJ S w (.agg #[x.1.1,x.1.2]) (flat x.2)):x.1.1.oneCell'=true/\x.1.2.oneCell'=true:=by
 obtain ⟨P1,N1,e,hP,hN⟩:=h;injection e with e;have e1:x.1.1=P1/\x.1.2=N1:=by simpa using e
 obtain ⟨p,c,e2,_⟩:=aB.open hP;obtain ⟨q,d,e3,_⟩:=aB.open hN;rw [e1.1,e1.2,e2,e3];exact ⟨rfl,rfl⟩
theorem OD {base:Nat} {w:World} {v:Value} {es:List mM} (h:iY base w v es) (hne:es≠[]) (hn:es.length<=1000000) :
  Calls Tryz.prog 45 #[v,.func (.func 46) #[] #[]] w fun e w'=>e=.returned (.tuple #[])/\w.grownBy w' v.ownBlock/\∃es':List mM,es'.Perm es/\(es'.map (·.2)).Pairwise mg /\
   ∃g cap,v=.slice (some ⟨g,0,none⟩) es'.length cap/\∀k,k<es'.length->w'.cell? ⟨g,k*3,none⟩=some (ge es' k).1.1/\w'.cell? ⟨g,k*3+1,none⟩=some (ge es' k).1.2/\w'.cell? ⟨g,k*3+2,none⟩=some (.string (eM (ge es' k).2)):=by
 obtain ⟨ho,hT⟩:=h;obtain ⟨x0,hx0⟩:∃x,x∈es:=List.exists_mem_of_ne_nil _ hne;have hl0:0<es.length:=yQ.2 hne;letI:Inhabited {x // x∈es}:=⟨⟨x0,hx0⟩⟩;obtain ⟨blk,cap,hv⟩:∃blk cap,v=.slice (some ⟨blk,0,none⟩) es.length cap:=by
  rcases ho.2 with ⟨_,h0⟩ | ⟨g,cap,cur,e,_⟩
  ·exfalso
   have:=h0;omega
  ·exact ⟨g,cap,e⟩
 subst hv;have hblk:blk<w.heap.size:=(mq ho blk rfl).2;have hsize:(es.attach.toArray).size=es.length:=by simp
 have aaV:∀i,i<es.length->((es.attach.toArray)[i]!).1=ge es i:=fun i hi=>by rw [getElem!_pos _ _ (by simpa using hi)];simp [ge,hi]
 have hfz:∀j,w.frozen? ⟨blk,j,none⟩=false:=fun j=>by
  rcases ho.2 with ⟨e,_⟩ | ⟨g',cap',cur,hs',_,hc',_⟩
  ·cases e
  ·injection hs' with hs1
   injection hs1 with hs1;injection hs1 with hs1;subst hs1;simp [World.frozen?,hc']
 have hH:HoldsK (fun x:{x // x∈es}=>iw x.1) 3 w blk 0 es.attach.toArray:=by
  intro j hj;rw [size_flatK,hsize] at hj;refine ⟨?_,by rw [jQ];exact hfz j⟩;rw [get_flatK _ _ _ _ (by rw [hsize];exact hj),jQ,ho.cellAt j hj];have hi:j / 3<es.length:=by omega
  obtain ⟨c1,c2,c3⟩:=Ey es (j / 3) hi;show _=some ((iw ((es.attach.toArray)[j / 3]!).1)[j % 3]!);rw [aaV _ hi];have h3:j % 3=0\/j % 3=1\/j % 3=2:=by omega
  rcases h3 with h3 | h3 | h3
  ·rw [h3,show (fH es)[j]? = (fH es)[j / 3*3]? by congr 1;omega,c1];simp [iw]
  ·rw [h3,show (fH es)[j]? = (fH es)[j / 3*3+1]? by congr 1;omega,c2];simp [iw]
  ·rw [h3,show (fH es)[j]? = (fH es)[j / 3*3+2]? by congr 1;omega,c3];simp [iw]
 have hgb:∀(m:Nat) (os:Array Obj) (dk:Array {x // x∈es}),w.grownBy (sortWorldK (fun x:{x // x∈es}=>iw x.1) 3 w blk 0 m dk os) (some blk):=fun m os dk=>⟨rfl,rfl,rfl,size_sortWorldK_c _ _ _ _ _ _ _ _,fun b hb hne=>eF (enc:=id) (fun e=>hne (by rw [e])) hb⟩;have hcmp:CmpLays Tryz.prog 46 #[] (fun x:{x // x∈es}=>iw x.1) 3 (fun x y=>Ce x.1 y.1) blk 0 es.attach.toArray.size w:=fun m os dk _ x y=>RP x.1 y.1 _
 have hcon:=AnyQ.slices_SortFunc Tryz.sortEnt 3 Tryz.isAgg62 Tryz.sizeOf62 (fun x:{x // x∈es}=>iw x.1) (fun _=>rfl) (fun x u hu=>by
   obtain ⟨o1,o2⟩:=UX (hT x.1 x.2);unfold iw at hu;rcases bQ.1 hu with e | hu
   ·subst e;exact o1
   ·rcases bQ.1 hu with e | hu
    ·subst e;exact o2
    ·rw [eN.1 hu];rfl) (fun x y=>Ce x.1 y.1) ⟨fun x=>LW.irrefl x.1,fun x y z=>LW.trans x.1 y.1 z.1,fun x y z=>LW.ntrans x.1 y.1 z.1⟩ 46 #[] blk 0 cap es.attach.toArray w (enters_of Tryz.func46 (by kernel_rfl) rfl) hcmp hH hblk (by rw [hsize];omega)
 rw [hsize] at hcon;refine hcon.mono fun e w' ⟨he,d',m,os,TJ,XR,hw⟩=>⟨he,by rw [hw];exact hgb m os d',d'.toList.map (·.1),?_,?_,blk,cap,?_,?_⟩
 ·obtain ⟨hsz,_,oa⟩:=TJ
  have e1:d'.extract 0 es.length=d':=by rw [<- hsize,<- hsz];exact Array.extract_size
  have e2:es.attach.toArray.extract 0 es.length=es.attach.toArray:=by rw [<- hsize];exact Array.extract_size
  rw [e1,e2] at oa;have h2:=oa.map (fun (x:{x // x∈es})=>x.1);rw [List.toList_toArray,List.attach_map_subtype_val] at h2;exact h2
 ·obtain ⟨hsz,_,_⟩:=TJ
  rw [hsize] at hsz;rw [jO,List.pairwise_map,vw];intro i j hi hj hij;have hi':i<d'.size:=by simpa using hi
  have hj':j<d'.size:=by simpa using hj
  have h3:=XR i j (bg _) hij (by omega);rw [getElem!_pos d' j hj',getElem!_pos d' i hi'] at h3;have h4:ltOf Ce (d'[j]'hj').1 (d'[i]'hi').1=false:=h3;rw [Cf,decide_eq_false_iff_not] at h4;show Lib.compareBytes (dc (d'.toList[i]'(by simpa using hi)).1.2) (dc (d'.toList[j]'(by simpa using hj)).1.2)<=0;rw [Array.getElem_toList,Array.getElem_toList];have:=mX (dc (d'[j]'hj').1.2) (dc (d'[i]'hi').1.2);omega
 ·have:d'.size=es.length:=by rw [TJ.1,hsize]
  simp [this]
 ·intro k hk
  have hk':k<d'.size:=by simpa using hk
  have YD:=holdsK_sortWorldK_c (fun x:{x // x∈es}=>iw x.1) 3 w blk 0 es.attach.toArray d' m os hH hblk TJ.1;have hge:ge (d'.toList.map (·.1)) k=(d'[k]!).1:=by rw [getElem!_pos d' k hk'];simp [ge,hk']
  have c0:=(YD.cell (i:=k) (c:=0) hk' (by decide)).1;have c1:=(YD.cell (i:=k) (c:=1) hk' (by decide)).1;have c2:=(YD.cell (i:=k) (c:=2) hk' (by decide)).1;rw [jQ] at c0 c1 c2;rw [hge,hw];exact ⟨c0,c1,c2⟩
end
section
open Go.RowKit Go.Deep
theorem YE (w:World) (q:Option Addr) (n c:Nat):Calls Tryz.prog 36 #[.slice q n c] w fun e w'=>e=.returned (.bool (decide (1<n)))/\w=w':=by
 by_cases h:1<n
 ·have h1:(1:Int)<(n:Int):=by omega
  go_in;go_wp2;go_ret;exact ⟨bu (by simp [h]),rfl⟩
 ·have h1:¬(1:Int)<(n:Int):=by omega
  go_in;go_wp2;go_ret;exact ⟨bu (by simp),rfl⟩
def lH (P:List (List Int)) (k:Nat):List Int:=((List.range k).filter fun i=>decide (1<(gl P i).length)).map fun i:Nat=>(i:Int)
theorem OE (P:List (List Int)) (k:Nat):lH P (k+1)=if 1<(gl P k).length then lH P k++[(k:Int)] else lH P k:=by
 unfold lH;rw [sL,o8,cm];by_cases h:1<(gl P k).length
 ·rw [if_pos h];simp [h]
 ·rw [if_neg h];simp [h]
theorem RQ (P:List (List Int)) (k:Nat):(lH P k).length<=k:=by
 unfold lH;rw [aD];exact aV (mP _ _) (by simp)
theorem RR (S:Nat->Prop) (w:World) (v:Value) (s:kI) (h:aP S w v s) (hs:fD s.ns s.P) (hb:s.bs.length=s.ns.length) :
  Calls Tryz.prog 35 #[v,.func (.func 36) #[] #[]] w fun e w'=>Up w w'/\∃u,e=.returned (.tuple #[u,.int .i64 0])/\af Any w' u (uh s.P):=by
 obtain ⟨np,nc,bp,bc,pp,pc,rfl,hN,hB,hP⟩:=aP.open h;obtain ⟨ns,bs,P⟩:=s;dsimp only at *;have hl:=hs.len;have DV:ns.length<=7:=hs.le;have hrow:=hs.row;rw [hl] at hP h ⊢;rw [hb] at hB h ⊢;obtain ⟨w1,hw1⟩:∃w1,w1=w.alloc (.cells #[.slice np ns.length nc,.slice bp ns.length bc,.slice pp ns.length pc] 36):=⟨_,rfl⟩;have aM:Up w w1:=by rw [hw1];exact Up.alloc _ _
 have hx1:w1.heap[w.heap.size]? = some (Obj.cells #[.slice np ns.length nc,.slice bp ns.length bc,.slice pp ns.length pc] 36 (0,0)):=by rw [hw1];exact fQ _ _ _ _ _
 obtain ⟨x0,x1,x2,-,-,-⟩:=aQ hx1;have fo:=aa (qP S w1 _ ⟨ns,bs,P⟩ (h.keep (aM.kept S)) hs hb);have HX:=aa hx1;have bU:=aa aM;have HP:=aa (hP.keep (aM.kept S));have HL:=aa hl;have DF:Hid (∀i,i<ns.length->(gl P i).length<=7):=fun i hi=>by have:=nZ hrow (i:=i) (by rw [hl];exact hi);omega
 have TK:Hid (uh P=lH P ns.length):=by unfold Hid uh lH;rw [hl]
 rw [hw1] at x0 x1 x2;clear h hN hB hP hl hb hs aM hx1 hrow;go_in;go_wp2_with fail;rw [<- hw1] at x0 x1 x2 ⊢;clear hw1;refine fo.out.mono ?_;rintro e w2 ⟨rfl,aK⟩;have hx2:=(aO aK _ (bq.1 HX.out).1).trans HX.out;obtain ⟨y0,y1,y2,-,-,-⟩:=aQ hx2;have bF:=aa (bU.out.trans aK);have WB:=aa (HP.out.keep (aK.kept S));clear aK hx2 fo HX bU HP x0 x1 x2;go_wp2
 go_loopw [6,7,8,15] (fun o _ _ i wr=>∃k:Nat,k<=ns.length/\i=.int .i64 k/\Hid (au w2.heap.size 3 wr o ((lH P k).map (Value.int .i64)))/\Hid (Up w2 wr)) (fun _ _ _ i _=>ns.length - (intOf i).toNat)
 case atStart=>exact ⟨0,bg _,rfl,au.nil _ _ _,Up.refl _⟩
 case round =>
  obtain ⟨k,hk,rfl,hO,hU⟩:=hrel;obtain ⟨wo,rfl⟩:=e9 wr;obtain ⟨op,oc,rfl,-⟩:=hO.out.form (n:=(lH P k).length) (by simp);by_cases hlt:k<ns.length
  ·obtain ⟨pb,po,q,qc,rfl,jw,-⟩:=dV (WB.out.keep (hU.out.kept S)) (k:=k) (by rw [HL.out];exact hlt)
   have hr7:=DF.out k hlt;have tK:=aa (OE P k);(have kP:Hid (((lH P k).map (Value.int .i64)).length<=1000000):=by unfold Hid;rw [aD];have:=RQ P k;omega);have bf:=aa hlt;(have j1:(k:Int)<(ns.length:Int):=by omega);(have j2:(k:Int)<8:=by omega);have oo:=aa (YE wo q (gl P k).length qc);replace jw:wo.cell? ⟨pb,po+k,none⟩=some (.slice q (gl P k).length qc):=jw;have fW:Hid (w2.heap.size<=wo.heap.size):=hU.out.size;clear hlt;generalize (gl P k).length=rl at *;by_cases hc:1<rl
   ·rw [decide_eq_true hc] at oo
    (have tK:Hid (lH P (k+1)=lH P k++[(k:Int)]):=by unfold Hid;rw [tK.out,if_pos hc]);clear hc;go_wp2_with fail;refine oo.out.mono ?_;rintro e w' ⟨rfl,rfl⟩;clear oo;go_wp2_with (at_builtin;refine ja wo rfl _ _ 27 rfl w2.heap.size 3 _ 8 Tryz.underlying27 Tryz.p8 rfl (by decide) hO.out rfl (.int .i64 k) rfl rfl kP.out fW.out ?_;intro g8 mY w8 cD eC jC;have tj:=aa cD;have lg:=aa jC;clear cD eC jC)
    go_roundw
    case rel=>exact ⟨k+1,bf.out,by go_num,by rw [tK.out,cm];have h:=tj.out;rw [aD] at h;exact h,dI (show Below w2.heap.size w2 wo from hU.out) lg.out⟩
    case measure=>have:=bf.out;simp [intOf];omega
   ·rw [decide_eq_false hc] at oo
    (have tK:Hid (lH P (k+1)=lH P k):=by unfold Hid;rw [tK.out,if_neg hc]);clear hc;go_wp2_with fail;refine oo.out.mono ?_;rintro e w' ⟨rfl,rfl⟩;clear oo;go_wp2
    go_roundw
    case rel=>exact ⟨k+1,bf.out,by go_num,by rw [tK.out];exact hO.out,hU.out⟩
    case measure=>have:=bf.out;simp [intOf];omega
  ·obtain rfl:k=ns.length:=by omega
   have rK:=aa (bF.out.trans hU.out);(have tJ:Hid (af Any wo (.slice op (lH P ns.length).length oc) (uh P)):=by unfold Hid;rw [TK.out];exact hO.out.ints.sub fun _ _ _=>trivial);clear hO hU hlt hk;go_wp2;go_ret2;exact ⟨rK.out,.slice op (lH P ns.length).length oc,rfl,tJ.out⟩
theorem Df (S:Nat->Prop) (w:World) (v:Value) (s:kI) (h:aP S w v s) (hs:fD s.ns s.P) (hb:s.bs.length=s.ns.length) :
  Calls Tryz.prog 17 #[v] w fun e w'=>Up w w'/\∃u,e=.returned (.tuple #[u,.int .i64 0])/\af Any w' u (uh s.P):=by
 obtain ⟨np,nc,bp,bc,pp,pc,rfl,hN,hB,hP⟩:=aP.open h;have aM:=Up.alloc w (.cells #[.slice np s.ns.length nc,.slice bp s.bs.length bc,.slice pp s.P.length pc] 36);obtain ⟨x0,x1,x2,-,-,-⟩:=aQ (fQ w (.slice np s.ns.length nc) (.slice bp s.bs.length bc) (.slice pp s.P.length pc) 36);have HC:=aa (RR S _ _ s (h.keep (aM.kept S)) hs hb);have bU:=aa aM;clear h hN hB hP aM hs hb;generalize s.ns.length=n at *;generalize s.bs.length=nb at *;generalize s.P.length=ji at *;go_in;go_wp2_with fail
 generalize w.alloc (.cells #[.slice np n nc,.slice bp nb bc,.slice pp ji pc] 36)=w1 at *;refine HC.out.mono ?_;rintro e w2 ⟨aK,u,rfl,hi⟩;have HF:=aa (⟨bU.out.trans aK,hi⟩:_/\_);obtain ⟨up,uc,rfl,-,-⟩:=aB.open hi;clear aK hi HC;go_wp2;go_ret2;exact ⟨HF.out.1,.slice up (uh s.P).length uc,rfl,HF.out.2⟩
end
end Go.Proofs.YtfomhlbhcifgbaaGreatDoor
