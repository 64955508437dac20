/- The contracts of parsimony.Score and Table. The contracts of slices.Clone and .. -/
import Derived.Test.YthgabkgmkolobaaGreatQ11
set_option maxRecDepth 100000
set_option maxHeartbeats 4000000
namespace Go.Proofs.YthgabkgmkolobaaGreat
section
open Go.RowKit Go.Deep
theorem ints_get' {S:Nat->Prop} {w:World} {b off:Nat} {n cap:Nat} {xs:List Int} (h:ah S w (.slice (some ⟨b,off,none⟩) n cap) xs) {k:Nat} (hk:k<xs.length):w.cell? ⟨b,off+k,none⟩=some (.int .i64 (gi xs k)):=by
 obtain ⟨b',o',e,hc⟩:=dG h hk;injection e with e;injection e with e1 e2;subst e1;subst e2;exact hc
section
variable {P:Program} {ops:Array Oper} {rest:List Oper} {o:Oper} {a:Act} {Q:Exit->Act->World->Prop}
theorem XZ (W:World) (hgd:o.guard=none) (s x:Operand) (t:TypeId) (ho:o.op=.call { callee:=.builtin .append,args:=#[s,x],argTypes:=#[t,t] })
  (base:Nat) (e:TypeId) (z:Value) (bytes:Nat) (ht:P.underlying t=some (.slice e)) (hinfo:(P.info? e).map (fun i=>(i.zero,i.size,i.bytes))=some (some z,1,bytes))
  (hz1:z.cells.size=1) (qE:bytes<=64) {v:Value} {vs:List Value} (hown:ax base e W v vs) (hs:a.eval s=v) (ad:Addr) (c:Nat) (news:List Value)
  (hx:a.eval x=.slice (some ad) news.length c) (hnews:∀j u,news[j]? = some u->W.cell? (ad.add j)=some u) (h1:∀u∈news,u.oneCell'=true) (hn:vs.length+news.length<=1000000) (hbase:base<=W.heap.size)
  (h:∀v' w',ax base e w' v' (vs++news)->W.grownBy w' v.ownBlock->Below base W w'->wpList P ops Q rest (a.put o.dst v') w') :
  wpList P ops Q (o::rest) a W:=by
 obtain ⟨i,hi,hzz⟩:=mh.1 hinfo;simp only [mj] at hzz;obtain ⟨hz,hs1,hb⟩:=hzz;refine wpList_append_own _ hgd s x t ho base e i z 1 bytes ht hi hz hs1 hb hz1 (by omega) v vs.length vs hs hown ad news.length c news hx (by omega) hnews h1
  (by unfold maxLen;omega) ?_ hbase fun v' w' h2 h3 _=>h v' w' ?_ h3 (hown.fE h3 hbase)
 ·have:(vs.length+news.length)*bytes<=(vs.length+news.length)*64:=sW _ qE
  omega
 ·unfold ax;rw [aZ];exact h2
end
theorem news_ints {S:Nat->Prop} {w:World} {b off n cap:Nat} {xs:List Int} (h:ah S w (.slice (some ⟨b,off,none⟩) n cap) xs):∀j u,(xs.map (Value.int .i64))[j]? = some u->w.cell? ((⟨b,off,none⟩:Addr).add j)=some u:=by
 intro j u hj;have DK:(⟨b,off,none⟩:Addr).add j=⟨b,off+j,none⟩:=by unfold Addr.add;split<;>simp_all
 rw [jA] at hj;obtain ⟨x,hx,rfl⟩:=mh.1 hj;have hk:j<xs.length:=(pF.1 hx).1;rw [DK,ints_get' h hk];simp [gi,hx]
theorem ints_ext {xs ys:List Int} (hl:xs.length=ys.length) (h:∀j,j<xs.length->gi xs j=gi ys j):xs=ys:=by
 refine wM hl fun i h1 h2=>?_;have:=h i h1;simpa [gi,h1,h2] using this
def EqPost (w:World) (b:Bool) (e:Ending) (w':World):Prop:=e=.returned (.bool b)/\∃n,w'=w.drewN n
theorem uU (S T:Nat->Prop) (w:World) (v u:Value) (xs ys:List Int) (h:ah S w v xs) (h2:ah T w u ys) (hn:xs.length<=1000000) (hn2:ys.length<=1000000) :
  Calls Tryz.prog 24 #[v,u] w (EqPost w (decide (xs=ys))):=by
 obtain ⟨p,cap,rfl,hcap,_⟩:=ay.open h;obtain ⟨q,fS,rfl,JW,_⟩:=ay.open h2;have HX:Hid (ah S w (.slice p xs.length cap) xs):=h;have HY:Hid (ah T w (.slice q ys.length fS) ys):=h2;clear h h2;by_cases hl:xs.length=ys.length
 ·have kI:((xs.length:Int) != ys.length)=false:=by simp [hl]
  have HL:=aa hl;clear hl
  go_enter Tryz.func24,Tryz.ntmps24
  go_wp2_with fail
  go_loopw [5,13] (fun _ i wr=>∃k n:Nat,k<=xs.length/\i=.int .i64 k/\wr=w.drewN n/\Hid (∀j,j<k->gi xs j=gi ys j)) (fun _ i _=>xs.length - (intOf i).toNat)
  case atStart=>exact ⟨0,0,aL _,rfl,rfl,fun j hj=>absurd hj (bG _)⟩
  case round =>
   obtain ⟨k,n,hk,rfl,rfl,hd⟩:=hrel;by_cases hlt:k<xs.length
   ·have hlt2:k<ys.length:=by rw [<- HL.out];exact hlt
    obtain ⟨b,off,rfl,hc⟩:=dG HX.out hlt;obtain ⟨b2,off2,rfl,hc2⟩:=dG HY.out hlt2;(have i1:(0:Int)<=(k:Int):=by omega);(have i2:(k:Int)<(xs.length:Int):=by omega);(have i3:(k:Int)<(ys.length:Int):=by omega);generalize hx:gi xs k=x at *;generalize hy:gi ys k=y at *;have Nn:=aa hx;have HYY:=aa hy;clear hx hy;by_cases hxy:x=y
    ·have VM:(x != y)=false:=by simp [hxy]
     have Tp:=aa hxy;clear hxy;go_wp2_with fail;(go_quiet (fail));go_wp2_with fail
     go_roundw
     case rel=>exact ⟨k+1,n+nq,by omega,by go_num,rfl,fun j hj=>if e:j=k then by subst e;rw [Nn.out,HYY.out,Tp.out] else hd.out j (by omega)⟩
     case measure=>simp [intOf];omega
    ·have VM:(x != y)=true:=by simpa using hxy
     have Tp:=aa hxy;clear hxy;go_wp2_with fail;(go_quiet (fail));go_wp2_with fail;go_ret;refine ⟨aV ?_,n+nq,by rw [wS]⟩;rw [eq_comm,decide_eq_false_iff_not];rintro rfl;exact Tp.out (by rw [<- Nn.out,<- HYY.out])
   ·obtain rfl:k=xs.length:=by omega
    clear hlt hk;have hex:xs=ys:=ints_ext HL.out hd.out;have HEX:Hid (decide (xs=ys)=true):=decide_eq_true hex;clear hex;go_wp2_with fail;go_ret;exact ⟨aV (by rw [HEX.out]),n,rfl⟩
 ·have kI:((xs.length:Int) != ys.length)=true:=by simp;omega
  have HL:=aa hl;clear hl
  go_enter Tryz.func24,Tryz.ntmps24
  go_wp2_with fail;go_ret;refine ⟨aV ?_,0,rfl⟩;rw [eq_comm,decide_eq_false_iff_not];rintro rfl;exact HL.out rfl
theorem take_gl {l:List (List Int)} {m:Nat} (h:m<l.length):l.take (m+1)=l.take m++[gl l m]:=by
 rw [jY h];simp [gl,h]
end
section
theorem canT_ok {t:az} (h:aH t=0):aH (o8 t)=0:=by
 rw [wh h];exact BS (ou h).sort (by rw [Nz];exact Iu h)
theorem toR_canT {t:az} (h:aH t=0):iZ (o8 t)=cn (iZ t):=by rw [wh h,vE]
end
section
open Go.RowKit Go.Deep
theorem GK.JY {tb:Nat} {w W:World} {P N:Value} (k:Up w W):GK tb w W P N P N:=(GK.refl tb w P N).up k
structure RS (tb B0:Nat) (w W:World) (P N Pv Nv:Value) (ps:List Int) (ns:List ByteArray):Prop where
 gk:GK tb w W P N Pv Nv
 tl:TL B0 W Pv Nv ps ns
 same:W.heap[tb]? = w.heap[tb]?
 lo:tb<B0/\B0<=w.heap.size
section
variable {tb B0:Nat} {w W W':World} {P N Pv Nv:Value} {ps:List Int} {ns:List ByteArray}
theorem RS.start (h:TL B0 w P N ps ns) (hl:tb<B0/\B0<=w.heap.size):RS tb B0 w w P N P N ps ns:=⟨GK.refl _ _ _ _,h,rfl,hl⟩
theorem RS.up (h:RS tb B0 w W P N Pv Nv ps ns) (hu:Up W W'):RS tb B0 w W' P N Pv Nv ps ns :=
 ⟨h.gk.up hu,h.tl.up hu,(bI hu tb (by have:=h.gk.size;have:=h.lo;omega)).trans h.same,h.lo⟩
theorem RS.BK (h:RS tb B0 w W P N Pv Nv ps ns) {g cap k:Nat} {u:Int} (ho:ax B0 3 W' (.slice (some ⟨g,0,none⟩) k cap) (ps.map (Value.int .i64)++[.int .i64 u])) (hg:W.grownBy W' Pv.ownBlock) (dD:Pv.ownBlock=some g\/W.heap.size<=g) :
  RS tb B0 w W' P N (.slice (some ⟨g,0,none⟩) k cap) Nv (ps++[u]) ns:=by
 have hlo:=h.lo;have hsz:=h.gk.size;refine ⟨⟨hg.os.trans h.gk.os,hg.tape.trans h.gk.tape,hg.output.trans h.gk.output,aJ hsz hg.size,fun b hb h1 h2 h3=>?_,fun b hb=>?_,h.gk.rK⟩,⟨by rw [cg];exact ho,h.tl.eH.fM fun b hb=>hg.block b (av h.tl.eH hb).2 (fun e=>h.tl.apart b e.symm hb),fun b hb hb2=>?_⟩,(hg.block tb (by omega) (fun e=>by have:=(av h.tl.dJ e.symm).1;omega)).trans h.same,hlo⟩
 ·rw [<- h.gk.block b hb h1 h2 h3]
  refine hg.block b (by omega) fun e=>?_;rcases h.gk.rJ b e.symm with h4 | h4
  ·exact h2 h4.symm
  ·omega
 ·injection hb with hb
  have hb:g=b:=hb;subst hb;rcases dD with h4 | h4
  ·exact h.gk.rJ g h4
  ·exact .inr (by omega)
 ·injection hb with hb
  have hb:g=b:=hb;subst hb;rcases dD with h1 | h1
  ·exact h.tl.apart g h1 hb2
  ·have:=(av h.tl.eH hb2).2;omega
theorem RS.BM (h:RS tb B0 w W P N Pv Nv ps ns) {g cap k:Nat} {u:ByteArray} (ho:ax B0 9 W' (.slice (some ⟨g,0,none⟩) k cap) (ns.map Value.string++[.string u])) (hg:W.grownBy W' Nv.ownBlock) (dD:Nv.ownBlock=some g\/W.heap.size<=g) :
  RS tb B0 w W' P N Pv (.slice (some ⟨g,0,none⟩) k cap) ps (ns++[u]):=by
 have hlo:=h.lo;have hsz:=h.gk.size;refine ⟨⟨hg.os.trans h.gk.os,hg.tape.trans h.gk.tape,hg.output.trans h.gk.output,aJ hsz hg.size,fun b hb h1 h2 h3=>?_,h.gk.rJ,fun b hb=>?_⟩,⟨h.tl.dJ.fM fun b hb=>hg.block b (av h.tl.dJ hb).2 (fun e=>h.tl.apart b hb e.symm),by rw [cg];exact ho,fun b hb hb2=>?_⟩,(hg.block tb (by omega) (fun e=>by have:=(av h.tl.eH e.symm).1;omega)).trans h.same,hlo⟩
 ·rw [<- h.gk.block b hb h1 h2 h3]
  refine hg.block b (by omega) fun e=>?_;rcases h.gk.rK b e.symm with h4 | h4
  ·exact h3 h4.symm
  ·omega
 ·injection hb with hb
  have hb:g=b:=hb;subst hb;rcases dD with h4 | h4
  ·exact h.gk.rK g h4
  ·exact .inr (by omega)
 ·injection hb2 with hb2
  have hb2:g=b:=hb2;subst hb2;rcases dD with h1 | h1
  ·exact h.tl.apart g hb h1
  ·have:=(av h.tl.dJ hb).2;omega
end
structure GS (tb B0:Nat) (W:World) (P N:Value) (t:az):Prop where
 box:W.heap[tb]? = some (Obj.cells #[P,N] 39 (0,0))
 tl:TL B0 W P N t.ps t.ns
 lo:tb<B0/\B0<=W.heap.size
theorem GS.cells {tb B0:Nat} {W:World} {P N:Value} {t:az} (h:GS tb B0 W P N t):W.cell? ⟨tb,0,none⟩=some P/\W.cell? ⟨tb,1,none⟩=some N/\W.frozen? ⟨tb,0,none⟩=false/\W.frozen? ⟨tb,1,none⟩=false:=by
 refine ⟨?_,?_,?_,?_⟩<;>simp [World.cell?,World.frozen?,h.box]
theorem GS.up {tb B0:Nat} {W W':World} {P N:Value} {t:az} (h:GS tb B0 W P N t) (hu:Up W W'):GS tb B0 W' P N t :=
 ⟨(bI hu tb (by have:=h.lo;omega)).trans h.box,h.tl.up hu,⟨h.lo.1,aJ h.lo.2 hu.size⟩⟩
theorem RS.cells {tb B0:Nat} {w W:World} {P N Pv Nv P0 N0:Value} {ps:List Int} {ns:List ByteArray} (h:RS tb B0 w W P N Pv Nv ps ns) (hb:w.heap[tb]? = some (Obj.cells #[P0,N0] 39 (0,0))) :
  W.cell? ⟨tb,0,none⟩=some P0/\W.cell? ⟨tb,1,none⟩=some N0:=by
 have h1:=h.same.trans hb;exact ⟨by simp [World.cell?,h1],by simp [World.cell?,h1]⟩
theorem RS.frozen {tb B0:Nat} {w W:World} {P N Pv Nv P0 N0:Value} {ps:List Int} {ns:List ByteArray} (h:RS tb B0 w W P N Pv Nv ps ns) (hb:w.heap[tb]? = some (Obj.cells #[P0,N0] 39 (0,0))) (o:Nat) :
  W.frozen? ⟨tb,o,none⟩=false:=by
 have h1:=h.same.trans hb;simp [World.frozen?,h1]
theorem RS.store {tb B0:Nat} {w W:World} {P N Pv Nv:Value} {t:az} {z:Int} {nm:ByteArray} (h0:GS tb B0 w P N t) (h:RS tb B0 w W P N Pv Nv (t.ps++[z]) (t.ns++[nm])) :
  GS tb B0 ((W.setCell ⟨tb,0,none⟩ Pv).setCell ⟨tb,1,none⟩ Nv) Pv Nv (t.push z nm)/\GK tb w ((W.setCell ⟨tb,0,none⟩ Pv).setCell ⟨tb,1,none⟩ Nv) P N Pv Nv:=by
 have h1:=h.same.trans h0.box;have dR:∀b,b≠tb->((W.setCell ⟨tb,0,none⟩ Pv).setCell ⟨tb,1,none⟩ Nv).heap[b]? = W.heap[b]?:=fun b hb=>by rw [blk_setCell_other _ _ _ _ hb,blk_setCell_other _ _ _ _ hb]
 have hsz:((W.setCell ⟨tb,0,none⟩ Pv).setCell ⟨tb,1,none⟩ Nv).heap.size=W.heap.size:=by simp [World.size_setCell]
 refine ⟨⟨by simp [World.setCell,Array.getElem?_modify,h1],⟨h.tl.dJ.fM fun b hb=>dR b ?_,h.tl.eH.fM fun b hb=>dR b ?_,h.tl.apart⟩,h.lo.1,by rw [hsz];exact aJ h.lo.2 h.gk.size⟩,h.gk.os,h.gk.tape,h.gk.output,by rw [hsz];exact h.gk.size,fun b hb h2 h3 h4=>(dR b h2).trans (h.gk.block b hb h2 h3 h4),h.gk.rJ,h.gk.rK⟩
 ·have:=(av h.tl.dJ hb).1;have:=h.lo.1;omega
 ·have:=(av h.tl.eH hb).1;have:=h.lo.1;omega
theorem AD (w:World) (o:Option Nat):w.grownBy w o:=⟨rfl,rfl,rfl,af _,fun _ _ _=>rfl⟩
theorem kO {w w' x:World} {o:Option Nat} (h:w.grownBy w' o) (k:w'.grownBy x o):w.grownBy x o :=
 ⟨k.os.trans h.os,k.tape.trans h.tape,k.output.trans h.output,aJ h.size k.size,fun b hb hn=>(k.block b (js hb h.size) hn).trans (h.block b hb hn)⟩
theorem lG {w w':World} (h:Up w w') (o:Option Nat):w.grownBy w' o:=⟨h.os,h.tape,h.output,h.size,fun b hb _=>bI h b hb⟩
theorem RN {w:World} {g o:Nat} {z:Value}:w.grownBy (w.setCell ⟨g,o,none⟩ z) (some g) :=
 ⟨rfl,rfl,rfl,by rw [mW];exact af _,fun b _ hn=>blk_setCell_other _ _ _ _ fun e=>hn (by rw [e])⟩
theorem Om {g:Nat}:∀(vs:List Value) (o:Nat) (w:World),w.grownBy (w.setCells g o vs) (some g)
 | [],_,w=>AD w _
 | z::vs,o,w=>by rw [World.setCells];exact kO RN (Om vs (o+1) _)
theorem owns_tail {base:Nat} {e:TypeId} {w:World} {g m cap o:Nat} {xs:List Value} {z:Value} (h:ax base e w (.slice (some ⟨g,0,none⟩) m cap) xs) (ho:m<=o):ax base e (w.setCell ⟨g,o,none⟩ z) (.slice (some ⟨g,0,none⟩) m cap) xs:=by
 obtain ⟨h1,h2⟩:=h;rcases h2 with ⟨e1,_⟩ | ⟨g2,fS,cur,e1,hg,hc,hn,hcm,hcs,ht⟩
 ·cases e1
 ·injection e1 with a1 a2 a3
  injection a1 with a1;injection a1 with a1;subst a1;subst a3;refine ⟨h1,.inr ⟨g,cap,cur.setIfInBounds o z,by rw [a2],hg,?_,hn,hcm,by rw [Array.size_setIfInBounds];exact hcs,?_⟩⟩
  ·simp [World.setCell,Array.getElem?_modify,hc]
  ·have hmx:m=xs.length:=a2
   rw [Array.toList_setIfInBounds,List.take_set_of_le (by omega)];exact ht
theorem Oo {base:Nat} {e:TypeId} {g m cap:Nat} {xs:List Value}:∀(vs:List Value) (o:Nat) (w:World),m<=o->ax base e w (.slice (some ⟨g,0,none⟩) m cap) xs->ax base e (w.setCells g o vs) (.slice (some ⟨g,0,none⟩) m cap) xs
 | [],_,_,_,h=>h
 | z::vs,o,w,ho,h=>by rw [World.setCells];exact Oo vs (o+1) _ (by omega) (owns_tail h ho)
theorem VN {base:Nat} {e:TypeId} {w:World} {g n cap:Nat} {xs:List Value} (h:ax base e w (.slice (some ⟨g,0,none⟩) n cap) xs):n<=cap:=by
 obtain ⟨h1,h2⟩:=h;rcases h2 with ⟨e1,_⟩ | ⟨g2,fS,cur,e1,hg,hc,hn,_⟩
 ·cases e1
 ·injection e1 with a1 a2 a3
  omega
theorem Gc {w w' w'':World} (h:QD w w') (k:QD w' w''):QD w w'':=by
 obtain ⟨n,rfl⟩:=h;obtain ⟨m,rfl⟩:=k;exact (QD.refl w).drewN n |>.drewN m
def eM (P:Nat->Bool) (j:Nat):List Nat:=(List.range j).filter fun i=>!P i
theorem kpC_len (P:Nat->Bool) (j:Nat):(eM P j).length<=j:=by
 unfold eM;refine aJ (pG _ _) ?_;rw [wP];exact af _
theorem vL (P:Nat->Bool) (j:Nat):eM P (j+1)=if P j then eM P j else eM P j++[j]:=by
 unfold eM;rw [rX,vg];cases h:P j
 ·rw [if_neg (by decide),MZ (by rw [h];rfl)];rfl
 ·rw [if_pos rfl,JQ (by rw [h];decide)];simp
theorem PC {P:Nat->Bool} {j:Nat} (h:∀i,i<j->P i=false):eM P j=List.range j:=by
 unfold eM;rw [List.filter_eq_self];intro i hi;rw [h i (bh.1 hi)];rfl
def pQ (vs:List Value) (j:Nat):Value:=vs.getD j undef
structure oG (vs:List Value) (P:Nat->Bool) (base:Nat) (w wr:World) (g cap j:Nat) (X:List Value):Prop where
 own:ax base 26 wr (.slice (some ⟨g,0,none⟩) vs.length cap) X
 len:X.length=vs.length
 head:X.take (eM P j).length=(eM P j).map (pQ vs)
 rest:∀q,(eM P j).length<=q->X[q]? = vs[q]?
 up:w.grownBy wr (some g)
section
variable {vs:List Value} {P:Nat->Bool} {base:Nat} {w wr:World} {g cap:Nat} {X:List Value}
theorem yj {j:Nat} (hj:j<vs.length):vs[j]? = some (pQ vs j):=by unfold pQ;rw [kD,iQ hj];rfl
theorem oG.start (h:ax base 26 w (.slice (some ⟨g,0,none⟩) vs.length cap) vs) {j:Nat} (hj:j<vs.length) (hno:∀i,i<j->P i=false) (hP:P j=true) (m:Nat) :
  oG vs P base w (w.drewN m) g cap (j+1) vs/\(eM P (j+1)).length=j:=by
 have e:eM P (j+1)=List.range j:=by rw [vL,hP,if_pos rfl,PC hno]
 refine ⟨⟨h.fM fun _ _=>rfl,rfl,?_,fun _ _=>rfl,lG (Up.drewN w m) _⟩,by rw [e,wP]⟩;rw [e,wP];apply wN;intro i;by_cases hi:i<j
 ·rw [List.getElem?_take_of_lt hi,jA,List.getElem?_range hi,yj (by omega)];rfl
 ·rw [List.getElem?_take_eq_none (by omega),vh (by simp;omega)]
theorem oG.skip {j:Nat} (h:oG vs P base w wr g cap j X) (hP:P j=true) (m:Nat):oG vs P base w (wr.drewN m) g cap (j+1) X:=by
 have e:eM P (j+1)=eM P j:=by rw [vL,if_pos hP]
 exact ⟨h.own.fM fun _ _=>rfl,h.len,by rw [e];exact h.head,by rw [e];exact h.rest,kO h.up (lG (Up.drewN wr m) _)⟩
theorem oG.drewn {j:Nat} (h:oG vs P base w wr g cap j X) (m:Nat):oG vs P base w (wr.drewN m) g cap j X :=
 ⟨h.own.fM fun _ _=>rfl,h.len,h.head,h.rest,kO h.up (lG (Up.drewN wr m) _)⟩
theorem oG.cells {j:Nat} (h:oG vs P base w wr g cap j X) {q:Nat} (hq:(eM P j).length<=q) (hl:q<vs.length):wr.cell? ⟨g,q,none⟩=some (pQ vs q) :=
 (wu h.own (by rw [h.rest q hq];exact yj hl)).1
theorem oG.push {j:Nat} (h:oG vs P base w wr g cap j X) (hj:j<vs.length) (hP:P j=false) (hk:(eM P j).length<j) :
  (∃x,wr.cell? ⟨g,(eM P j).length,none⟩=some x)/\wr.frozen? ⟨g,(eM P j).length,none⟩=false/\(eM P (j+1)).length=(eM P j).length+1 /\
   ∃X',oG vs P base w (wr.setCell ⟨g,(eM P j).length,none⟩ (pQ vs j)) g cap (j+1) X':=by
 obtain ⟨g2,fS,e1,_,_,hc,hf,hs⟩:=h.own.set (j:=(eM P j).length) (by rw [h.len];omega);injection e1 with a1 a2 a3;injection a1 with a1;injection a1 with a1;subst a1;have hkk:=vL P j;rw [if_neg (by rw [hP];decide)] at hkk;have hl:(eM P (j+1)).length=(eM P j).length+1:=by rw [hkk,aZ];rfl
 refine ⟨⟨_,hc⟩,hf,hl,X.set (eM P j).length (pQ vs j),hs _,by rw [List.length_set];exact h.len,?_,fun q hq=>?_,kO h.up RN⟩
 ·rw [hl,hkk,cg,<- h.head]
  have hlt:(eM P j).length<(X.set (eM P j).length (pQ vs j)).length:=by rw [List.length_set,h.len];omega
  rw [jY hlt,List.take_set_of_le (af _),List.getElem_set_self];rfl
 ·rw [hl] at hq
  rw [List.getElem?_set_ne (by omega)];exact h.rest q (by omega)
theorem oG.done {m:Nat} (h:oG vs P base w wr g cap vs.length X) (hm:(eM P vs.length).length=m) (hlt:m<vs.length) :
  (∀i,i<vs.length - m->(wr.cell? ⟨g,m+i,none⟩).isSome=true)/\(∀i,i<vs.length - m->wr.frozen? ⟨g,m+i,none⟩=false) /\
   ax base 26 (wr.setCells g m (List.replicate (vs.length - m) (.slice none 0 0))) (.slice (some ⟨g,0,none⟩) m cap) ((eM P vs.length).map (pQ vs)) /\
   w.grownBy (wr.setCells g m (List.replicate (vs.length - m) (.slice none 0 0))) (some g):=by
 have hcell:∀i,i<vs.length - m->wr.cell? ⟨g,m+i,none⟩=some (X.getD (m+i) undef)/\wr.frozen? ⟨g,m+i,none⟩=false:=fun i hi=>by
  have hl:m+i<X.length:=by rw [h.len];omega
  exact wu h.own (by rw [kD,iQ hl];rfl)
 refine ⟨fun i hi=>by rw [(hcell i hi).1];rfl,fun i hi=>(hcell i hi).2,?_,kO h.up (Om _ _ _)⟩;refine Oo _ _ _ (af _) ?_;have:=QM h.own (m:=m) (by omega);rw [<- hm,h.head] at this;rw [<- hm];exact this
end
theorem Tryz.Zr:∀w,(zeroValue 26).run Tryz.prog w=.ok (.slice none 0 0) w:=fun w=>by simp [Tryz.zeroValue26]
theorem compactF_t {P:Nat->Bool} (g:Nat) (lb:Array Value) (eg:∀args w,(callFunc g args).run Tryz.prog w=.ok (.enter g args) w) {base:Nat} {w:World} {bk cap:Nat} {vs:List Value} (h:ax base 26 w (.slice (some ⟨bk,0,none⟩) vs.length cap) vs) (hn:vs.length<=1000000) (Zs:P 0=false)
  (jf:∀j,j<vs.length->∃q n c,pQ vs j=.slice q n c)
  (hp:∀j,0<j->j<vs.length->∀W,w.grownBy W (some bk)->Calls Tryz.prog g (#[pQ vs j,pQ vs (j - 1)]++lb) W fun e W'=>e=.returned (.bool (P j))/\∃m,W'=W.drewN m) :
  Calls Tryz.prog 82 #[.slice (some ⟨bk,0,none⟩) vs.length cap,.func (.func g) #[] lb] w fun e w'=>∃m,e=.returned (.slice (some ⟨bk,0,none⟩) m cap)/\ax base 26 w' (.slice (some ⟨bk,0,none⟩) m cap) ((eM P vs.length).map (pQ vs))/\w.grownBy w' (some bk):=by
 have HO:=aa h;have HP:=aa hp;have gH:=aa jf;have Ga:Hid ((∀i,i<vs.length->P i=false)->(eM P vs.length).map (pQ vs)=vs):=fun hno=>by
  rw [PC hno];apply wN;intro i;by_cases hi:i<vs.length
  ·rw [jA,List.getElem?_range hi,yj hi];rfl
  ·rw [vh (by simp;omega),vh (by omega)]
 have hcap:vs.length<=cap:=VN h;clear h hp jf;by_cases h2:vs.length<2
 ·have h2i:(vs.length:Int)<2:=by omega
  have HN:Hid (∀i,i<vs.length->P i=false):=fun i hi=>by rw [show i=0 by omega];exact Zs
  clear h2
  go_enter Tryz.func82,Tryz.ntmps82
  go_wp2_with fail;go_ret;exact ⟨_,rfl,by rw [Ga.out HN.out];exact HO.out,AD _ _⟩
 have h2i:¬(vs.length:Int)<2:=by omega
 have n6:(vs.length:Int)<=1000000:=by omega
 have HP0:=aa Zs
 go_enter Tryz.func82,Tryz.ntmps82
 go_wp2_with fail
 go_loopw [5,6,7] (fun x _ _ wr=>∃k:Nat,1<=k/\k<=vs.length/\x=.int .i64 k/\Hid (∀i,i<k->P i=false)/\Hid (∃m,wr=w.drewN m)) (fun x _ _ _=>vs.length - (intOf x).toNat)
 case atStart=>exact ⟨1,af _,by omega,by go_num,fun i hi=>by rw [show i=0 by omega];exact HP0.out,0,rfl⟩
 case round =>
  obtain ⟨k,hk1,hk,rfl,hno,hm⟩:=hrel;obtain ⟨m1,U3⟩:=hm.out;obtain ⟨wo,rfl⟩:∃wo:World,wo=wr:=⟨_,rfl⟩;have HWO:=aa U3;have fT:w.grownBy wo (some bk):=by rw [U3];exact lG (Up.drewN w m1) _
  have S3:ax base 26 wo (.slice (some ⟨bk,0,none⟩) vs.length cap) vs:=by rw [U3];exact HO.out.fM fun _ _=>rfl
  clear hm U3;by_cases hlt:k<vs.length
  ·have c1:=(wu S3 (yj hlt)).1
   have c2:=(wu S3 (yj (show k - 1<vs.length by omega))).1;(have i1:(0:Int)<=(k:Int):=by omega);(have i2:(k:Int)<(vs.length:Int):=by omega);(have i3:(k:Int)<1000000:=by omega);(have j1:(0:Int)<=(k:Int) - 1:=by omega);(have j2:(k:Int) - 1<(vs.length:Int):=by omega);(have j3:((k:Int) - 1).toNat=k - 1:=by omega);(have j4:wrap64 ((k:Int) - 1)=(k:Int) - 1:=by unfold wrap64;omega);obtain ⟨q1,n1,d1,e1⟩:=gH.out k hlt;obtain ⟨q2,n2,d2,e2⟩:=gH.out (k - 1) (by omega)
   (have CW:Hid (∀n,Calls Tryz.prog g (#[.slice q1 n1 d1,.slice q2 n2 d2]++lb) (wo.drewN n) fun e W'=>e=.returned (.bool (P k))/\∃q,W'=wo.drewN q):=fun n=>by rw [<- e1,<- e2];refine (HP.out k hk1 hlt (wo.drewN n) (kO fT (lG (Up.drewN wo n) _))).mono ?_;rintro e W' ⟨rfl,q,rfl⟩;exact ⟨rfl,n+q,by rw [wS]⟩);rw [e1] at c1;rw [e2] at c2;have pJ:Hid (∃x,P k=x):=⟨_,rfl⟩;clear fT e1 e2;cases Zt:P k
   ·rw [Zt] at CW
    have wC:Hid (∀i,i<k+1->P i=false):=fun i hi=>by
     by_cases e:i=k
     ·rw [e];exact Zt
     ·exact hno.out i (by omega)
    clear Zt;go_wp2_with fail;(go_big_quiet (first | with_reducible exact CW.out _));go_wp2_with fail;clear j4
    go_roundw
    case rel=>exact ⟨k+1,by omega,by omega,by go_num,wC,m1+nq,by rw [HWO.out,wS]⟩
    case measure=>simp [intOf];omega
   ·rw [Zt] at CW
    have HST:Hid (∀m,oG vs P base w (w.drewN m) bk cap (k+1) vs/\(eM P (k+1)).length=k):=fun m=>oG.start HO.out hlt hno.out Zt m;clear Zt;go_wp2_with fail;(go_big_quiet (first | with_reducible exact CW.out _));have lN:=aa (HST.out (m1+nq));rw [<- wS,<- HWO.out] at lN;generalize wo.drewN nq=w1 at *;clear j4 c1 c2 CW HWO S3;(have n3:(k:Int)<=(vs.length:Int):=by omega);(have n4:(k:Int)<=(cap:Int):=by omega);go_wp2_with fail;obtain ⟨M,hM⟩:∃M,vs.length=k+M:=⟨vs.length - k,by omega⟩;have HM:=aa hM;(have hM2:vs.length - k=M:=by omega);have M0:0<M:=by omega
    (have M6:(M:Int)<=1000000:=by omega);rw [hM2];clear hM hM2
    go_loopw [5,7] (fun x y wr=>∃d:Nat,1<=d/\d<=M/\y=.int .i64 d/\x=.int .i64 ((eM P (k+d)).length:Nat)/\Hid (∃X,oG vs P base w wr bk cap (k+d) X)/\Hid ((eM P (k+d)).length<k+d)) (fun _ y _=>M - (intOf y).toNat)
    case atStart=>exact ⟨1,af _,by omega,by go_num,by rw [lN.out.2],⟨_,lN.out.1⟩,by unfold Hid;rw [lN.out.2];omega⟩
    case round =>
     obtain ⟨d,hd1,hd,rfl,rfl,hX,hK⟩:=hrel;obtain ⟨wz,rfl⟩:∃wz:World,wz=wr:=⟨_,rfl⟩;obtain ⟨X,hX⟩:=hX.out;by_cases hdlt:d<M
     ·have hjl:k+d<vs.length:=by have:=HM.out;omega
      have c1:=hX.cells (q:=k+d) (by have:=hK.out;omega) hjl;have c2:=hX.cells (q:=k+(d - 1)) (by have:=hK.out;omega) (by omega);obtain ⟨q3,n3',d3,e3⟩:=gH.out (k+d) hjl;obtain ⟨q4,n4',d4,e4⟩:=gH.out (k+(d - 1)) (by omega)
      have uf:Hid (∀n,Calls Tryz.prog g (#[.slice q3 n3' d3,.slice q4 n4' d4]++lb) (wz.drewN n) fun e W'=>e=.returned (.bool (P (k+d)))/\∃q,W'=wz.drewN q):=fun n=>by rw [<- e3,<- e4];have h:=HP.out (k+d) (by omega) hjl (wz.drewN n) (kO hX.up (lG (Up.drewN wz n) _));rw [show k+d - 1=k+(d - 1) by omega] at h;refine h.mono ?_;rintro e W' ⟨rfl,q,rfl⟩;exact ⟨rfl,n+q,by rw [wS]⟩
      have K9:Hid (∀m,P (k+d)=false->(∃x,(wz.drewN m).cell? ⟨bk,(eM P (k+d)).length,none⟩=some x)/\(wz.drewN m).frozen? ⟨bk,(eM P (k+d)).length,none⟩=false/\(eM P (k+d+1)).length=(eM P (k+d)).length+1 /\
       ∃X',oG vs P base w ((wz.drewN m).setCell ⟨bk,(eM P (k+d)).length,none⟩ (.slice q3 n3' d3)) bk cap (k+d+1) X'):=fun m hPf=>by
       have h:=(hX.drewn m).push hjl hPf hK.out;rw [e3] at h;exact h
      have GI:Hid (∀m,P (k+d)=true->oG vs P base w (wz.drewN m) bk cap (k+d+1) X/\(eM P (k+d+1)).length=(eM P (k+d)).length):=fun m hPt=>⟨hX.skip hPt m,by rw [vL,if_pos hPt]⟩;(have jG:Hid (∀m,(wz.drewN m).cell? ⟨bk,k+d,none⟩=some (.slice q3 n3' d3)):=fun m=>by rw [<- e3];exact (Up.drewN wz m).cell c1);rw [e3] at c1;rw [e4] at c2;(have a1:(0:Int)<=(d:Int):=by omega);(have a2:(d:Int)<(M:Int):=by omega);(have a3:(d:Int)<1000000:=by omega);(have b1:(0:Int)<=(d:Int) - 1:=by omega);(have b2:(d:Int) - 1<(M:Int):=by omega);have b3:((d:Int) - 1).toNat=d - 1:=by omega
      (have b4:wrap64 ((d:Int) - 1)=(d:Int) - 1:=by unfold wrap64;omega);have kK:=aa (kpC_len P (k+d));have HJL:=aa hjl;have iu:Hid (vs.length<=1000000):=hn;clear e3 e4 hX hjl;cases Zu:P (k+d)
      ·rw [Zu] at uf
       have HPU2:Hid (∀m,_):=fun m=>K9.out m Zu;clear Zu K9 GI;(have k0:(0:Int)<=((eM P (k+d)).length:Int):=by omega);(have k1':((eM P (k+d)).length:Int)<(vs.length:Int):=by have:=hK.out;have:=HJL.out;omega);(have k2':((eM P (k+d)).length:Int)<1000000:=by have:=iu.out;omega);go_wp2_with fail;(go_big_quiet (first | with_reducible exact uf.out _));obtain ⟨⟨cx,xI⟩,hff,hl,X',hX'⟩:=HPU2.out nq;have c1:=jG.out nq;have HX':=aa hX';have HL:=aa hl;clear hX' hl b4 c2 uf HPU2;generalize wz.drewN nq=wy at *;go_wp2_with fail
       go_roundw
       case rel=>exact ⟨d+1,by omega,by omega,by go_num,by rw [show k+(d+1)=k+d+1 by omega,HL.out];go_num,⟨X',HX'.out⟩,by unfold Hid;rw [show k+(d+1)=k+d+1 by omega,HL.out];have:=hK.out;omega⟩
       case measure=>simp [intOf];omega
      ·rw [Zu] at uf
       have HSK2:Hid (∀m,_):=fun m=>GI.out m Zu;clear Zu K9 GI;go_wp2_with fail;(go_big_quiet (first | with_reducible exact uf.out _));obtain ⟨hx1,hl⟩:=HSK2.out nq;have oT:=aa hx1;have HL:=aa hl;clear hx1 hl b4 c1 c2 uf HSK2;go_wp2_with fail
       go_roundw
       case rel=>exact ⟨d+1,by omega,by omega,by go_num,by rw [show k+(d+1)=k+d+1 by omega,HL.out],⟨X,oT.out⟩,by unfold Hid;rw [show k+(d+1)=k+d+1 by omega,HL.out];have:=hK.out;omega⟩
       case measure=>simp [intOf];omega
     ·obtain rfl:d=M:=by omega
      have hMl:=HM.out;rw [<- hMl] at hX hK ⊢;obtain ⟨mm,hmm⟩:∃mm,(eM P vs.length).length=mm:=⟨_,rfl⟩;(have hml:mm<vs.length:=by rw [<- hmm];exact hK.out);obtain ⟨hc,hf,ho,hg⟩:=hX.done hmm hml;have HO2:=aa ho;have HG2:=aa hg;have qV:=Lib.run_clear_slice (P:=Tryz.prog) wz 23 26 0 (.slice none 0 0) Tryz.underlying23 Tryz.Zr rfl rfl bk mm (vs.length - mm) (cap - mm) (by omega) hc hf;rw [hmm];(have e1:(0:Int)<=(mm:Int):=by omega);(have e2:(mm:Int)<=(vs.length:Int):=by omega);(have e3:(mm:Int)<(vs.length:Int):=by omega);(have e4:mm<=cap:=by omega);have e5:(mm:Int)<=(cap:Int):=by omega
      clear hc hf ho hg hX hK hmm hMl HM M0 M6 hd hd1 hdlt;go_wp2_with fail;go_ret;exact ⟨mm,rfl,HO2.out,HG2.out⟩
  ·obtain rfl:k=vs.length:=by omega
   go_wp2_with fail;go_ret;exact ⟨_,rfl,by rw [Ga.out hno.out];exact S3,fT⟩
def Hj (g:Nat) (lb args:Array Value) (res:Value) (w:World):Prop:=∀m,Calls Tryz.prog g (args++lb) (w.drewN m) fun e w'=>e=.returned res/\∃q,w'=w.drewN q
theorem ints_ix_d (g:Nat) (lb:Array Value) (eg:∀args w,(callFunc g args).run Tryz.prog w=.ok (.enter g args) w) (S:Nat->Prop) (w:World) (v:Value) (n:Nat) (f:Nat->Value) (p:Nat->Bool)
  (h:ay S w v n f) (hn:n<=1000000) (hp:∀k,k<n->Hj g lb #[f k] (.bool (p k)) w) :
  Calls Tryz.prog 117 #[v,.func (.func g) #[] lb] w fun e w'=>e=.returned (.int .i64 (dI p n))/\∃q,w'=w.drewN q:=by
 obtain ⟨q,cap,rfl,hcap,H⟩:=h.open;have HP:=aa hp;clear h hp
 go_enter Tryz.func117,Tryz.ntmps117
 go_wp2_with fail
 go_loopw [5,8] (fun _ i wr=>∃k:Nat,k<=n/\i=.int .i64 k/\Hid (∀j,j<k->p j=false)/\Hid (∃m,wr=w.drewN m)) (fun _ i _=>n - (intOf i).toNat)
 case atStart=>exact ⟨0,aL _,rfl,fun j hj=>absurd hj (bG _),0,rfl⟩
 case round =>
  obtain ⟨k,hk,rfl,hd,hm⟩:=hrel;obtain ⟨m,rfl⟩:=hm.out;clear hm;by_cases hlt:k<n
  ·obtain ⟨b,off,rfl,hc⟩:=H k hlt
   have hc:=(Up.drewN w m).cell hc;clear H;have hpk:=HP.out k hlt;unfold Hj at hpk;have pJ:=aa (hpk m);clear hpk HP;generalize hv:p k=pk at *;have HV:=aa hv;clear hv;cases pk
   ·go_wp2_with fail
    refine pJ.out.mono ?_;rintro e w' ⟨rfl,m2,rfl⟩;go_wp2_with fail
    go_roundw
    case rel=>exact ⟨k+1,by omega,by go_num,fun j hj=>if e:j=k then by subst e;exact HV.out else hd.out j (by omega),m2,rfl⟩
    case measure=>simp [intOf];omega
   ·go_wp2_with fail
    refine pJ.out.mono ?_;rintro e w' ⟨rfl,m2,rfl⟩;go_wp2_with fail;go_ret;exact ⟨aM (iK hlt hd.out HV.out).symm,m2,rfl⟩
  ·clear H
   go_wp2_with fail;go_ret;exact ⟨aM (fI fun j hj=>hd.out j (by omega)).symm,m,rfl⟩
theorem Oq (g:Nat) (lb:Array Value) (eg:∀args w,(callFunc g args).run Tryz.prog w=.ok (.enter g args) w) (S:Nat->Prop) (w:World) (v:Value) (n:Nat) (f:Nat->Value) (p:Nat->Bool)
  (h:ay S w v n f) (hn:n<=1000000) (hp:∀k,k<n->Hj g lb #[f k] (.bool (p k)) w) :
  Calls Tryz.prog 63 #[v,.func (.func g) #[] lb] w fun e w'=>e=.returned (.bool ((List.range n).any p))/\∃q,w'=w.drewN q:=by
 have hx:=gX p n;have HX:=aa hx;have HI:=aa (ints_ix_d g lb eg S w v n f p h hn hp);obtain ⟨q,cap,rfl,-,-⟩:=ay.open h;clear hx hp h eg
 go_enter Tryz.func63,Tryz.ntmps63
 go_wp2_with fail;refine HI.out.mono ?_;rintro e w' ⟨rfl,m,rfl⟩;go_wp2_with fail;go_ret;exact ⟨aV (by rw [<- HX.out]),m,rfl⟩
theorem rows_ix_d (g:Nat) (lb:Array Value) (eg:∀args w,(callFunc g args).run Tryz.prog w=.ok (.enter g args) w) (S:Nat->Prop) (w:World) (v:Value) (n:Nat) (f:Nat->Value) (p:Nat->Bool)
  (h:ay S w v n f) (hn:n<=1000000) (hp:∀k,k<n->Hj g lb #[f k] (.bool (p k)) w) :
  Calls Tryz.prog 88 #[v,.func (.func g) #[] lb] w fun e w'=>e=.returned (.int .i64 (dI p n))/\∃q,w'=w.drewN q:=by
 obtain ⟨q,cap,rfl,hcap,H⟩:=h.open;have HP:=aa hp;clear h hp
 go_enter Tryz.func88,Tryz.ntmps88
 go_wp2_with fail
 go_loopw [5,8] (fun _ i wr=>∃k:Nat,k<=n/\i=.int .i64 k/\Hid (∀j,j<k->p j=false)/\Hid (∃m,wr=w.drewN m)) (fun _ i _=>n - (intOf i).toNat)
 case atStart=>exact ⟨0,aL _,rfl,fun j hj=>absurd hj (bG _),0,rfl⟩
 case round =>
  obtain ⟨k,hk,rfl,hd,hm⟩:=hrel;obtain ⟨m,rfl⟩:=hm.out;clear hm;by_cases hlt:k<n
  ·obtain ⟨b,off,rfl,hc⟩:=H k hlt
   have hc:=(Up.drewN w m).cell hc;clear H;have hpk:=HP.out k hlt;unfold Hj at hpk;have pJ:=aa (hpk m);clear hpk HP;generalize hv:p k=pk at *;have HV:=aa hv;clear hv;cases pk
   ·go_wp2_with fail
    refine pJ.out.mono ?_;rintro e w' ⟨rfl,m2,rfl⟩;go_wp2_with fail
    go_roundw
    case rel=>exact ⟨k+1,by omega,by go_num,fun j hj=>if e:j=k then by subst e;exact HV.out else hd.out j (by omega),m2,rfl⟩
    case measure=>simp [intOf];omega
   ·go_wp2_with fail
    refine pJ.out.mono ?_;rintro e w' ⟨rfl,m2,rfl⟩;go_wp2_with fail;go_ret;exact ⟨aM (iK hlt hd.out HV.out).symm,m2,rfl⟩
  ·clear H
   go_wp2_with fail;go_ret;exact ⟨aM (fI fun j hj=>hd.out j (by omega)).symm,m,rfl⟩
theorem AE (g:Nat) (lb:Array Value) (eg:∀args w,(callFunc g args).run Tryz.prog w=.ok (.enter g args) w) (S:Nat->Prop) (w:World) (v:Value) (n:Nat) (f:Nat->Value) (p:Nat->Bool)
  (h:ay S w v n f) (hn:n<=1000000) (hp:∀k,k<n->Hj g lb #[f k] (.bool (p k)) w) :
  Calls Tryz.prog 22 #[v,.func (.func g) #[] lb] w fun e w'=>e=.returned (.bool ((List.range n).any p))/\∃q,w'=w.drewN q:=by
 have hx:=gX p n;have HX:=aa hx;have HI:=aa (rows_ix_d g lb eg S w v n f p h hn hp);obtain ⟨q,cap,rfl,-,-⟩:=ay.open h;clear hx hp h eg
 go_enter Tryz.func22,Tryz.ntmps22
 go_wp2_with fail;refine HI.out.mono ?_;rintro e w' ⟨rfl,m,rfl⟩;go_wp2_with fail;go_ret;exact ⟨aV (by rw [<- HX.out]),m,rfl⟩
end
end Go.Proofs.YthgabkgmkolobaaGreat
