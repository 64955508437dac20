/- An append onto a slice without room, inside a region that draws its order; a node whose .. -/
import Derived.ArgAppend
import Derived.Test.YthgabkgmkolobaaGreatQ26
import Derived.Test.YthgabkgmkolobaaGreatQ27
set_option maxRecDepth 100000
namespace Go.Proofs.YthgabkgmkolobaaGreat
section
open Go.RowKit Go.Deep
section
variable {P:Program} {ops:Array Oper} {o:Oper} {a:Act} {w:World} {K:Act→World→Prop} {Q:Exit→Act→World→Prop} {E:Prop}
theorem xz (hgd:o.guard=none) (s x:Operand) (t:TypeId) (ho:o.op=.call { callee:=.builtin .append,args:=#[s,x],argTypes:=#[t,t] })
  (e:TypeId) (z:Value) (bytes:Nat) (ht:P.underlying t=some (.slice e)) (hinfo:(P.info? e).map (fun i=>(i.zero,i.size,i.bytes))=some (some z,1,bytes))
  (hz1:z.cells.size=1) (k8:bytes≤64) {ao:Option Addr} {n:Nat} {olds:List Value} (hs:a.eval s=.slice ao n n) (hnone:ao=none→n=0) (hlo:olds.length=n) (holds:∀b,ao=some b→∀j u,olds[j]? = some u→w.cell? (b.add j)=some u)
  {ad:Addr} {m c:Nat} {news:List Value} (hx:a.eval x=.slice (some ad) m c) (hl:news.length=m) (hnews:∀j u,news[j]? = some u→w.cell? (ad.add j)=some u) (h1:∀u∈news,u.oneCell'=true) (hm:0<m) (hn:n+m≤1000000)
  (h:∀g cap w',aF w.heap.size e w' (.slice (some ⟨g,0,none⟩) (n+m) cap) (olds++news)→Up w w'→K (a.put o.dst (.slice (some ⟨g,0,none⟩) (n+m) cap)) w') :
  if Region.wanted o (yielded ops a.tmps)=true then Oper.wp P o a w K Q else E:=by
 have hw:Region.wanted o (yielded ops a.tmps)=true:=by simp [Region.wanted,hgd]
 rw [if_pos hw];obtain ⟨i,hi,hzz⟩:=Option.map_eq_some_iff.1 hinfo;simp only [Prod.mk.injEq] at hzz;obtain ⟨hz,hs1,hb⟩:=hzz;have hb1:n+m≤maxLen:=by unfold maxLen;omega
 have hb2:(n+m)*bytes≤140737488355328:=by have:(n+m)*bytes≤(n+m)*64:=Nat.mul_le_mul_left _ k8;omega
 have fin:∀v' w',w'.ownsRow w.heap.size e 1 v' (n+m) (olds++news)→w.grownBy w' none→K (a.put o.dst v') w':=fun v' w' r1 r2=>by
  have hlen:(olds++news).length=n+m:=by rw [List.length_append,hlo,hl]
  have hown:aF w.heap.size e w' v' (olds++news):=by unfold aF;rw [hlen];exact r1
  have b9:Up w w':=⟨r2.os,r2.tape,r2.output,r2.size,fun b hb=>r2.block b hb (fun e=>by cases e)⟩;obtain ⟨h2,h3 | ⟨g,c',cur,h3,_⟩⟩:=hown
  ·omega
  ·rw [hlen] at h3
   subst h3;exact h g c' w' (by unfold aF;rw [hlen];exact r1) b9
 cases ao with
 | some b =>
  obtain ⟨v',w',hrun,r1,r2⟩:=run_append_arg_grows (P:=P) w t o.type e i z 1 bytes ht hi hz hs1 hb hz1 (by omega) b n n olds (by omega) (holds b rfl) ad m c news (by omega) hnews (by omega) hb1 hb2;unfold Oper.wp;simp [execOp,ho,resolve,invoke,builtin,hs,hx,hrun,Result.andThen];exact fin v' w' r1 r2
 | none =>
  obtain rfl:=hnone rfl;obtain rfl:olds=[]:=List.eq_nil_of_length_eq_zero hlo;obtain ⟨v',w',hrun,r1,r2,_⟩:=run_append_own (P:=P) w w.heap.size t o.type e i z 1 bytes ht hi hz hs1 hb hz1 (by omega) (.slice none 0 0) 0 [] (World.ownsRow_nil w _ e 1) ad m c news (by omega) hnews h1 hb1 hb2 (Nat.le_refl _);unfold Oper.wp;simp [execOp,ho,resolve,invoke,builtin,hs,hx,hrun,Result.andThen];exact fin v' w' r1 r2
theorem ME (hgd:o.guard=none) (s x:Operand) (t:TypeId) (ho:o.op=.call { callee:=.builtin .append,args:=#[s,x],argTypes:=#[t,t] })
  (e:TypeId) (z:Value) (bytes:Nat) (ht:P.underlying t=some (.slice e)) (hinfo:(P.info? e).map (fun i=>(i.zero,i.size,i.bytes))=some (some z,1,bytes))
  {ao:Option Addr} {n c:Nat} (hs:a.eval s=.slice ao n c) (hle:n≤c) {ad:Option Addr} {c2:Nat} (hx:a.eval x=.slice ad 0 c2)
  (h:K (a.put o.dst (.slice ao n c)) w):if Region.wanted o (yielded ops a.tmps)=true then Oper.wp P o a w K Q else E:=by
 have hw:Region.wanted o (yielded ops a.tmps)=true:=by simp [Region.wanted,hgd]
 rw [if_pos hw];obtain ⟨i,hi,hzz⟩:=Option.map_eq_some_iff.1 hinfo;have hrun:(Builtin.append_ #[t,t] o.type #[.slice ao n c,.slice ad 0 c2]).run P w=.ok (.slice ao n c) w:=by cases ao<;>cases ad<;>simp [Builtin.append_,run_underlying ht,sizeOf,typeInfo,hi,Builtin.lenOf,hle,Builtin.firstCells,storeCells,loadCells,loadCellsFrom]
 unfold Oper.wp;simp [execOp,ho,resolve,invoke,builtin,hs,hx,hrun,Result.andThen];exact h
end
theorem RsAt.Vo {S:Nat→Prop} {w:World}:∀(a b:List RT) {vs us:List Value},RsAt S w a vs→RsAt S w b us→RsAt S w (a++b) (vs++us)
 | [],b,vs,us,h,h2=>by unfold RsAt at h;subst h;exact h2
 | r::a,b,vs,us,h,h2=>by
  unfold RsAt at h
  obtain ⟨u,q,rfl,h3,h4⟩:=h
  show RsAt S w (r::(a++b)) (u::(q++us))
  unfold RsAt
  exact ⟨u,q++us,rfl,h3,RsAt.Vo a b h4 h2⟩
theorem RsAt.Ry {S:Nat→Prop} {w:World}:∀(a:List RT) (k:Nat) {vs:List Value},RsAt S w a vs→RsAt S w (a.take k) (vs.take k)
 | [],k,vs,h=>by unfold RsAt at h;subst h;simp [RsAt]
 | r::a,0,vs,h=>by simp [RsAt]
 | r::a,k+1,vs,h=>by
  unfold RsAt at h
  obtain ⟨u,q,rfl,h3,h4⟩:=h
  rw [List.take_succ_cons,List.take_succ_cons]
  unfold RsAt
  exact ⟨u,_,rfl,h3,RsAt.Ry a k h4⟩
theorem RsAt.Rz {S:Nat→Prop} {w:World}:∀(a:List RT) (k:Nat) {vs:List Value},RsAt S w a vs→RsAt S w (a.drop k) (vs.drop k)
 | [],k,vs,h=>by unfold RsAt at h;subst h;simp [RsAt]
 | r::a,0,vs,h=>h
 | r::a,k+1,vs,h=>by
  unfold RsAt at h
  obtain ⟨u,q,rfl,h3,h4⟩:=h
  rw [List.drop_succ_cons,List.drop_succ_cons]
  exact RsAt.Rz a k h4
theorem jS.lay {base B X:Nat} {w W:World} {nm:ByteArray} {kv kv':Value} {acc:List RT} {q9:List Value} {o:RT} {u:Value} (h:jS base B w nm kv acc) (AB:RsAt (fun b=>base≤b∧b≠B∧kv.ownBlock≠some b) w acc q9) (hu:Up w W) (hX:w.heap.size≤X)
  (hkb:∀b,kv'.ownBlock=some b→X≤b) (hr:RAt (fun b=>w.heap.size≤b∧b<X) W o u) (k:Nat) (ho:aF (B+1) 210 W kv' (q9.take k++u::q9.drop k)) :
  jS base B (W.setCell ⟨B,1,none⟩ kv') nm kv' (acc.take k++o::acc.drop k):=by
 have hBl:=h.lt;have cG:∀b,b≠B→(W.setCell ⟨B,1,none⟩ kv').heap[b]? = W.heap[b]?:=fun b hb=>blk_setCell_other _ _ _ _ hb;have hn:=(Below.block hu B hBl).trans h.node;have hlo:=h.lo;refine ⟨by simp [World.setCell,Array.getElem?_modify,hn],h.lo,_,ho.fM fun b hb=>cG b (by have:=hkb b hb;omega),?_⟩;have k1:Kept (fun b=>base≤b∧b≠B∧kv'.ownBlock≠some b) w (W.setCell ⟨B,1,none⟩ kv'):=fun b hb hl=>(cG b hb.2.1).trans (Below.block hu b hl);have a1:RsAt (fun b=>base≤b∧b≠B∧kv'.ownBlock≠some b) (W.setCell ⟨B,1,none⟩ kv') acc q9 :=
  RsAt.keep k1 acc (RsAt.sub (fun b hb hl=>⟨hb.1,hb.2.1,fun e=>by have:=hkb b e;omega⟩) acc AB)
 have k2:Kept (fun b=>base≤b∧b≠B∧kv'.ownBlock≠some b) W (W.setCell ⟨B,1,none⟩ kv'):=fun b hb _=>cG b hb.2.1;have a2:RAt (fun b=>base≤b∧b≠B∧kv'.ownBlock≠some b) (W.setCell ⟨B,1,none⟩ kv') o u :=
  RAt.keep k2 o (RAt.sub (fun b hb _=>⟨by have:=hb.1;omega,by have:=hb.1;omega,fun e=>by have:=hkb b e;have:=hb.2;omega⟩) o hr)
 refine RsAt.Vo _ _ (RsAt.Ry acc k a1) ?_;unfold RsAt;exact ⟨u,q9.drop k,rfl,a2,RsAt.Rz acc k a1⟩
end
section
open Go.RowKit Go.Deep
theorem SQ {base:Nat} {e:TypeId} {w w':World} {v:Value} {vs:List Value} (h:aF base e w v vs) (k:Up w w'):aF base e w' v vs:=by
 refine h.fM fun b hb=>?_;obtain ⟨_,h2⟩:=h;rcases h2 with ⟨e1,_⟩ | ⟨g,cap,cur,e1,hg,hc,_⟩
 ·subst e1;cases hb
 ·subst e1
  injection hb with hb;subst hb
  exact Below.block k _ (by
   rcases Nat.lt_or_ge g w.heap.size with h | h
   ·exact h
   ·rw [Array.getElem?_eq_none h] at hc;cases hc)
end
section
section
variable {names:List ByteArray} {l:List Rj}
theorem MF (ns:List ByteArray):(aq ns).length=(nS ns).length:=by
 unfold aq;rw [List.length_map];have h:∀k,k≤ns.length→((List.range k).filter fun i=>(gs ns i).size≠0).length=(nS (ns.take k)).length:=by
  intro k
  induction k with
  | zero=>intro _;rfl
  | succ k ih =>
   intro hk;(have hg:gs ns k=ns[k]:=by simp [gs,show k<ns.length by omega]);rw [List.range_succ,List.filter_append,List.length_append,ih (by omega),List.take_succ_eq_append_getElem (show k<ns.length by omega),Fq,List.length_append,← hg];congr 1;unfold nS;by_cases e:(gs ns k).size≠0
   ·rw [List.filter_cons_of_pos (by simpa using e),List.filter_cons_of_pos (by simpa using e)];rfl
   ·rw [List.filter_cons_of_neg (by simpa using e),List.filter_cons_of_neg (by simpa using e)];rfl
 have:=h ns.length (Nat.le_refl _);rw [List.take_length] at this;exact this
end
end
section
open Go.RowKit Go.Deep
def Vp (w:World) (r:RT) (e:Ending) (w':World):Prop:=Up w w'∧∃v,e=.returned v∧au (fun b=>w.heap.size≤b) w' v (flat r)
theorem SR (r:RT) (p:Int):(⟨[],[]⟩:aD).app r p=⟨psR r 0 p,cF r⟩:=by simp [aD.app]
set_option maxHeartbeats 1000000 in
theorem zx (S:Nat→Prop) (w:World) (v:Value) (r:RT) (h:RAt S w r v) (hs:aL r≤90000):Calls Tryz.prog 205 #[v] w (Vp w r):=by
 have aY:=Up.alloc w (.cells #[.slice none 0 0,.slice none 0 0] 39);have hsz:(w.alloc (.cells #[.slice none 0 0,.slice none 0 0] 39)).heap.size=w.heap.size+1:=World.size_alloc _ _;have hrb:=ek (w:=w) (P:=.slice none 0 0) (N:=.slice none 0 0) (T:=39);have hx:RAt (fun b=>(Value.slice none 0 0).ownBlock≠some b∧(Value.slice none 0 0).ownBlock≠some b) (w.alloc (.cells #[.slice none 0 0,.slice none 0 0] 39)) r v:=RAt.sub (fun b _ _=>⟨fun e=>(by cases e),fun e=>(by cases e)⟩) r (RAt.keep (aY.kept S) r h)
 have HW:=aa (Vi (w.heap.size+1) (aL r) r (Nat.le_refl _) (w.alloc (.cells #[.slice none 0 0,.slice none 0 0] 39)) (.slice none 0 0) (.slice none 0 0) v ⟨[],[]⟩ (-1) ⟨aF.nil _ _ _,aF.nil _ _ _,fun b hb=>by cases hb⟩ (by omega) rfl (by simp;omega) hx);have HU:=aa aY;have iV:=aa hrb;have cz:=aa hsz;clear aY hrb hsz h hx
 go_enter Tryz.func205,Tryz.ntmps205
 go_wp2_with fail;generalize w.alloc (.cells #[.slice none 0 0,.slice none 0 0] 39)=w1 at *;refine HW.out.mono ?_;rintro e w2 ⟨P2,N2,rfl,hT,hK⟩;rw [SR] at hT;obtain ⟨p2,c2,rfl,_,_⟩:=aC.open hT.cI.ints;obtain ⟨q2,e2,rfl,_,_⟩:=aC.open hT.dx.strs;have hu:Up w1 w2:=⟨hK.os,hK.tape,hK.output,hK.size,fun b hb=>hK.block b hb (by omega) (fun e=>by cases e) (fun e=>by cases e)⟩;have hb2:=(Below.block hu w.heap.size (by rw [cz.out];omega)).trans iV.out
 obtain ⟨r0,r1,r2,r3⟩:w2.cell? ⟨w.heap.size,0,none⟩=some (.slice none 0 0)∧w2.cell? ⟨w.heap.size,1,none⟩=some (.slice none 0 0)∧w2.frozen? ⟨w.heap.size,0,none⟩=false∧w2.frozen? ⟨w.heap.size,1,none⟩=false:=by refine ⟨?_,?_,?_,?_⟩<;>simp [World.cell?,World.frozen?,hb2]
 have HST:=aa (dS (w:=w) (p:=.slice p2 (psR r 0 (-1)).length c2) (q:=.slice q2 (cF r).length e2) hb2 (Nat.le_refl _) (HU.out.trans hu));have HP:=aa hT.cI.ints;have HN:=aa hT.dx.strs;clear hT hK hu hb2;go_wp2_with fail;obtain ⟨s1,s2,s3,s4⟩:=HST.out;refine ⟨rfl,.agg #[.slice p2 (psR r 0 (-1)).length c2,.slice q2 (cF r).length e2],by simp [results,Tryz.results205,go_sem,s2,s3],?_⟩
 exact ⟨s1,_,rfl,_,_,rfl,(aj.keep HP.out fun b hb _=>s4 b (by have:w.heap.size+1≤b:=hb;omega)).sub fun b hb _=>by have:w.heap.size+1≤b:=hb;omega,(ah.keep HN.out fun b hb _=>s4 b (by have:w.heap.size+1≤b:=hb;omega)).sub fun b hb _=>by have:w.heap.size+1≤b:=hb;omega⟩
end
section
open Go.RowKit Go.Deep
def PF (a:Option Addr) (n c:Nat):Option Addr:=if c=n then a else Option.map (fun x=>x.add n) a
theorem all_none {S:Nat→Prop} {w:World} {n c:Nat} {f:Nat→Value} {a:Option Addr} (h:aC S w (.slice a n c) n f) (e:a=none):n=0:=by
 subst e;by_cases hn:n=0
 ·exact hn
 ·obtain ⟨q,c',e,_,H⟩:=aC.open h
  injection e with e;subst e;obtain ⟨b,off,e2,_⟩:=H 0 (by omega);cases e2
theorem MG {S:Nat→Prop} {w:World} {n c:Nat} {vs:List Value} {a:Option Addr} (h:aC S w (.slice a n c) n (vN vs)) (hl:vs.length=n) (b:Addr) (e:a=some b) (i:Nat) (q:Value) (hq:vs[i]? = some q):w.cell? (b.add i)=some q:=by
 have hki:i<n:=by rw [← hl];exact (List.getElem?_eq_some_iff.1 hq).1
 obtain ⟨b',o',e2,hc⟩:=mS h hki;rw [e] at e2;injection e2 with e2;subst e2;have hv:vN vs i=q:=by unfold vN;rw [List.getD_eq_getElem?_getD,hq];rfl
 rw [hv] at hc;rw [Addr.add_lit];exact hc
end
section
open Go.RowKit Go.Deep
def mW (t:aD) (n:Nat):Bool:=(decide (n<t.ps.length)&&decide (t.ps.length≤64)) || decide (66<t.ps.length) || decide (t.ps.length+2<t.ns.length) || (List.range t.ns.length).any fun k=>decide (20<(gs t.ns k).size)
set_option maxHeartbeats 2000000 in
theorem MH (S:Nat→Prop) (w:World) (v:Value) (t:aD) (n:Nat) (hT:au S w v t) (hp:t.ps.length≤9223372036854775807) (hn:t.ns.length≤9223372036854775807) (hz:∀k,(gs t.ns k).size≤9223372036854775807) :
  Calls Tryz.prog 47 #[v,.int .i64 n] w fun e w'=>e=.returned (.bool (mW t n))∧Below w.heap.size w w':=by
 obtain ⟨P,N,rfl,hP,hN⟩:=hT;have hu:=Up.alloc w (.cells #[P,N] 39);have HU:=aa hu;have HN:=aa (ah.keep hN (hu.kept S));obtain ⟨pp,pc,rfl,_,_⟩:=aC.open hP;obtain ⟨np,nc,rfl,_,_⟩:=aC.open hN;have cZ:=aa (dc w (.slice pp t.ps.length pc) (.slice np t.ns.length nc) 39);have cR:=aa (dz w (.slice pp t.ps.length pc) (.slice np t.ns.length nc) 39);have hc0:=cZ.out;have hc1:=cR.out;have HZ:=aa hz
 have HE:Hid (mW t n=((decide (n<t.ps.length)&&decide (t.ps.length≤64)) || decide (66<t.ps.length) || decide (t.ps.length+2<t.ns.length) || (List.range t.ns.length).any fun k=>decide (20<(gs t.ns k).size))):=rfl;clear hu hP hN hz;generalize mW t n=r at *;obtain ⟨ps,ns⟩:=t;simp only at *;generalize ps.length=m at *
 go_enter Tryz.func47,Tryz.ntmps47
 go_wp2_with fail
 all_goals generalize w.alloc (.cells #[.slice pp m pc,.slice np ns.length nc] 39)=w1 at *
 all_goals try (go_ret;exact ⟨aR (by rw [HE.out];clear HE;symm;simp;omega),HU.out⟩)
 all_goals have HT:Hid (∀k,k<ns.length→decide (20<(gs ns k).size)=true→r=true):=fun k hk hb=>by rw [HE.out,ij (p:=fun k=>decide (20<(gs ns k).size)) hk hb];simp
 all_goals have HF:Hid ((∀k,k<ns.length→decide (20<(gs ns k).size)=false)→r=false):=fun hb=>by rw [HE.out,any_none (p:=fun k=>decide (20<(gs ns k).size)) hb];clear HE;simp;omega
 all_goals clear HE
 all_goals go_loop [5] (fun i=>∃k:Nat,k≤ns.length∧i=.int .i64 k∧Hid (∀j,j<k→decide (20<(gs ns j).size)=false)) (fun i=>ns.length - (intOf i).toNat)
 case atStart=>exact ⟨0,Nat.zero_le _,rfl,fun j hj=>absurd hj (Nat.not_lt_zero _)⟩
 case atStart=>exact ⟨0,Nat.zero_le _,rfl,fun j hj=>absurd hj (Nat.not_lt_zero _)⟩
 all_goals
  obtain ⟨k,hk,rfl,hd⟩:=hrel;by_cases hlt:k<ns.length
  ·obtain ⟨b,off,rfl,hc⟩:=bI HN.out hlt
   (have i1:(0:Int)≤(k:Int):=by omega);(have i2:(k:Int)<(ns.length:Int):=by omega);have B8:=HZ.out k;have fN:=aa (HT.out k hlt);(have HDK:Hid (decide (20<(gs ns k).size)=false→∀j,j<k+1→decide (20<(gs ns j).size)=false):=fun hx j hj=>if e:j=k then by subst e;exact hx else hd.out j (by omega));generalize gs ns k=y at *;by_cases h1:20<y.size
   ·have e0:decide ((20:Int)<(y.size:Int))=true:=by simp;omega
    have HQ:=aa (fN.out (by simpa using h1));clear h1;go_wp2_with fail;go_ret;exact ⟨aR HQ.out.symm,HU.out⟩
   ·have e0:decide ((20:Int)<(y.size:Int))=false:=by simp;omega
    have HQ:=aa (HDK.out (by simpa using h1));clear h1;go_wp2_with fail
    go_round
    case rel=>exact ⟨k+1,by omega,by go_num,HQ.out⟩
    case measure=>simp [intOf];omega
  ·obtain rfl:k=ns.length:=by omega
   have HQ:=aa (HF.out hd.out);clear hlt hk;go_wp2_with fail;go_ret;exact ⟨aR HQ.out.symm,HU.out⟩
end
end Go.Proofs.YthgabkgmkolobaaGreat
