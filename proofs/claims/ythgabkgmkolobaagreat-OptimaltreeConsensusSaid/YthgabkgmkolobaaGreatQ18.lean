/- The text of a tree: phylotree.Print$1. .. -/
import Derived.Lib.MinMax
import Derived.Lib.SliceRun
import Derived.Test.YthgabkgmkolobaaGreatQ17
set_option maxRecDepth 100000
set_option maxHeartbeats 4000000
namespace Go.Proofs.YthgabkgmkolobaaGreat
section
open Go.RowKit Go.Deep
mutual
def gL:RT->List UInt8
 | .node nm []=>nm.data.toList
 | .node _ (k::ks)=>40::(gL k++iR ks++[41])
def iR:List RT->List UInt8
 | []=>[]
 | r::rs=>44::(gL r++iR rs)
end
def mS:List RT->List UInt8
 | []=>[]
 | k::ks=>40::(gL k++iR ks)
theorem abw (l:List RT) (c:RT):iR (l++[c])=iR l++44::gL c:=by
 induction l with
 | nil=>simp [iR]
 | cons a l ih=>rw [cm,iR,iR,ih];simp
theorem Lb (l:List RT) (c:RT):mS (l++[c])=mS l++(if l.length=0 then 40 else 44)::gL c:=by
 cases l with
 | nil=>simp [mS,iR]
 | cons a l=>rw [cm,mS,mS,abw,if_neg (by simp)];simp
theorem Ir (nm:ByteArray) {ks:List RT} (h:ks≠[]):gL (.node nm ks)=mS ks++[41]:=by
 cases ks with
 | nil=>exact absurd rfl h
 | cons k ks=>rw [gL,mS];simp
theorem Iu (nm:ByteArray):gL (.node nm [])=nm.data.toList:=by rw [gL]
theorem Qp (l m:List RT):(iR (l++m)).length=(iR l).length+(iR m).length:=by
 induction l with
 | nil=>simp [iR]
 | cons a l ih=>rw [cm,iR,iR];simp [ih];omega
theorem Qq (l:List RT) (k:Nat):(mS (l.take k)).length<=(mS l).length:=by
 cases l with
 | nil=>simp [mS]
 | cons a l =>
  cases k with
  | zero=>simp [mS]
  | succ k =>
   rw [yA,mS,mS];have:=Qp (l.take k) (l.drop k);rw [BV] at this;simp only [aW,bg];omega
structure pI (B b:Nat) (pre:List UInt8) (w wr:World):Prop where
 bl:Lib.IsBuilderF 117 5 B b (Lib.byteCells pre) wr
 up:Below B w wr
 ot:Lib.OthersKept 5 (some b) w wr
theorem pI.size {B b:Nat} {pre:List UInt8} {w wr:World} (h:pI B b pre w wr) (hB:B<=w.heap.size):B<=wr.heap.size:=aB hB h.up.size
theorem pI.byte {B b:Nat} {pre:List UInt8} {w wr w2:World} {x:UInt8} {c:Int} (h:pI B b pre w wr) (hc:c=x.toNat) (h1:Lib.BuilderAtF 117 5 B b (.pointer (some ⟨b,0,none⟩)) (Lib.byteCells pre++[.int .u8 c]) w2) (h2:Below B wr w2) (h3:Lib.OthersKept 5 (some b) wr w2):pI B b (pre++[x]) w w2:=by
 subst hc;exact ⟨.inr (by rw [show Lib.byteCells (pre++[x])=Lib.byteCells pre++[.int .u8 x.toNat] from cg];exact h1),h.up.trans h2,h.ot.trans h3⟩
theorem pI.next {B b:Nat} {pre agy:List UInt8} {w wr w2:World} (h:pI B b pre w wr) (k:pI B b agy wr w2):pI B b agy w w2:=⟨k.bl,h.up.trans k.up,h.ot.trans k.ot⟩
theorem cE.others {base n b:Nat} {A:Nat->Nat} {kv:Nat->Value} {F:bW} {w w':World} (h:cE base n A kv F w) (hb:b<base) (k:Lib.OthersKept 5 (some b) w w'):cE base n A kv F w':=by
 refine h.same (fun i hi=>?_) fun i g hi hg=>?_
 ·have h1:=h.node i hi
  rw [h1];refine k _ _ h1 (fun e=>by have:=h.lo i hi;cases e;omega) (fun c fz e=>?_);injection e with _ e2 _;exact absurd e2 (by decide)
 ·have hlo:=(h.lF hi hg).1
  obtain ⟨_,h1 | ⟨g2,cap,cur,h1,_,hc,_⟩⟩:=h.own i hi
  ·rw [h1.1] at hg;cases hg
  ·rw [h1] at hg
   have hg:some g2=some g:=hg;injection hg with hg;subst hg;rw [hc];refine k _ _ hc (fun e=>by cases e;omega) (fun c fz e=>?_);injection e with _ e2 _;exact absurd e2 (by decide)
def AB (b fb:Nat) (w:World):Prop:=w.heap[fb]? = some (Obj.cells #[.func (.func 90) #[] #[.pointer (some ⟨b,0,none⟩),.pointer (some ⟨fb,0,none⟩)]] 118 (0,0))
theorem AB.cell {b fb:Nat} {w:World} (h:AB b fb w):w.cell? ⟨fb,0,none⟩=some (.func (.func 90) #[] #[.pointer (some ⟨b,0,none⟩),.pointer (some ⟨fb,0,none⟩)]):=by
 have h:w.heap[fb]? = _:=h;simp [World.cell?,h]
theorem AB.others {b fb:Nat} {w w':World} (h:AB b fb w) (hne:fb≠b) (k:Lib.OthersKept 5 (some b) w w'):AB b fb w':=by
 have h:w.heap[fb]? = _:=h;refine k _ _ h (fun e=>by cases e;exact hne rfl) (fun c fz e=>?_);injection e with _ e2 _;exact absurd e2 (by decide)
def agz (B b:Nat) (pre:List UInt8) (w:World) (e:Ending) (w':World):Prop:=e=.returned (.tuple #[])/\pI B b pre w w'
theorem abx {base n B b fb:Nat} {A:Nat->Nat} {kv:Nat->Value} {F:bW} {rk:Nat->Nat} (hw:Wf F n rk) (hl:∀z,z<n->(F.kids z).length<=1000) (hbb:b<base) (MT:fb≠b):∀(d i:Nat) (pre:List UInt8) (w:World),i<n->rk i<=d->cE base n A kv F w->AB b fb w ->
  Lib.IsBuilderF 117 5 B b (Lib.byteCells pre) w->pre.length+(gL (bE F rk i)).length<=140737488355328->B<=w.heap.size ->
  Calls Tryz.prog 90 (#[.pointer (some ⟨A i,0,none⟩)]++#[.pointer (some ⟨b,0,none⟩),.pointer (some ⟨fb,0,none⟩)]) w (agz B b (pre++gL (bE F rk i)) w):=by
 intro d
 induction d using Nat.strongRecOn with
 | ind d ih =>
  intro i pre w hi hd hF gX hbl hlen hB;have eP:∀args w,(callFunc 90 args).run Tryz.prog w=.ok (.enter 90 args) w:=enters_of Tryz.func90 (by kernel_rfl) rfl;have hown:=hF.own i hi;obtain ⟨q,cap,hv,hq⟩:=hown.form (n:=(F.kids i).length) (by simp);have hkc:=hF.yM hi;rw [hv] at hkc;have hnm:=hF.name hi;by_cases h0:F.kids i=[]
  ·have Yu:gL (bE F rk i)=(F.nm i).data.toList:=by rw [fh hw hi,h0];exact Iu _
   rw [Yu] at hlen ⊢;(have d1:(((F.kids i).length:Int)==0)=true:=by rw [h0];rfl);have HW:=aa (agw B b (Lib.byteCells pre) (F.nm i) w hbl (by rw [Lib.byteCells_length];exact hlen) hB);have HE:Hid (∀w',Lib.BuilderAtF 117 5 B b (.pointer (some ⟨b,0,none⟩)) (Lib.byteCells pre++Lib.strCells (F.nm i)) w'->Below B w w'->Lib.OthersKept 5 (some b) w w'->pI B b (pre++(F.nm i).data.toList) w w'):=fun w' h1 h2 h3 =>
    ⟨.inr (by rw [Lib.strCells_eq,<- show Lib.byteCells (pre++(F.nm i).data.toList)=Lib.byteCells pre++Lib.byteCells (F.nm i).data.toList from cg] at h1;exact h1),h2,h3⟩
   clear hown hq hv ih hF gX hbl hlen h0 Yu;generalize F.nm i=nm at *;go_in;go_wp2_with fail;refine HW.out.mono ?_;rintro e w' ⟨rfl,h1,h2,h3⟩;have HN:=aa (HE.out w' h1 h2 h3);clear h1 h2 h3;go_wp2_with fail
   go_end0
   exact ⟨rfl,HN.out⟩
  ·obtain ⟨L,Cb⟩:∃L,L=F.kids i:=⟨_,rfl⟩
   (have Mo:0<L.length:=by rw [Cb];exact z7.2 h0);(have jC:L.length<=1000:=by rw [Cb];exact hl i hi);rw [<- Cb] at hown hv hkc;(have Yu:gL (bE F rk i)=mS (L.map (bE F rk))++[41]:=by rw [fh hw hi,<- Cb];exact Ir _ (by rw [Cb];simpa using h0));rw [Yu] at hlen ⊢;have d1:((L.length:Int)==0)=false:=beq_eq_false_iff_ne.2 (by omega);obtain ⟨gk,rfl⟩:∃g,q=some ⟨g,0,none⟩:=by
    rcases hq with rfl | h
    ·obtain ⟨_,h | ⟨g,_,_,h,_⟩⟩:=hown
     ·have:=h.2;rw [aD] at this;omega
     ·rw [hv] at h;cases h
    ·exact h
   (have HLEN:Hid (∀k,pre.length+(mS ((L.take k).map (bE F rk))).length+1<=140737488355328):=fun k=>by have:=Qq (L.map (bE F rk)) k;rw [<- List.map_take] at this;simp only [bg,aW,dw] at hlen;omega);(have HST:Hid (pI B b (pre++mS ((L.take 0).map (bE F rk))) w w):=by rw [Hid,List.take_zero,List.map_nil,mS,eG];exact ⟨hbl,cM _ _,Lib.OthersKept.refl _ _ _⟩);have HF:=aa hF;have dJ:=aa gX;have dG:=aa Cb;have oO:=aa ih;have HV:=aa hv;have kH:Hid (∀c∈L,c<n/\rk c<rk i):=fun c hc=>hw.kid i hi c (by rw [<- Cb];exact hc);clear hown hq hv ih hF gX hbl hlen h0 Yu Cb hnm;go_in;go_wp2
   go_loopw [4,5,22] (fun _ _ x wr=>∃k:Nat,k<=L.length/\x=.int .i64 k/\Hid (pI B b (pre++mS ((L.take k).map (bE F rk))) w wr)) (fun _ _ x _=>L.length - (intOf x).toNat)
   case atStart=>exact ⟨0,aF _,rfl,HST.out⟩
   case round =>
    obtain ⟨k,hk,rfl,hO⟩:=hrel;obtain ⟨wo,rfl⟩:=eM wr;by_cases hlt:k<L.length
    ·have O3:L[k]? = some L[k]:=kQ hlt
     have hFo:=HF.out.others hbb hO.out.ot;have hrow:=hFo.Ou (i:=i) (j:=k) (c:=L[k]) hi HV.out (by rw [<- dG.out];exact O3);have fG:=kH.out L[k] (jy hlt);(have pX:Hid (((L.take k).map (bE F rk)).length=k):=by rw [Hid,aD,jl];omega);(have nB:Hid (mS ((L.take (k+1)).map (bE F rk))=mS ((L.take k).map (bE F rk))++((if k=0 then 40 else 44)::gL (bE F rk L[k]))):=by rw [Hid,BU,O3,cg];show mS (_++[bE F rk L[k]])=_;rw [Lb,pX.out]);have gA:=aa (fun c:Int=>La B b (Lib.byteCells (pre++mS ((L.take k).map (bE F rk)))) c wo hO.out.bl (by rw [Lib.byteCells_length,bg];exact HLEN.out k) (hO.out.size hB));have HO:=aa hO.out;have aR:=aa hlt;have jD:=aa fG;obtain ⟨mn,hmn,td⟩:∃mn:Int,min (k:Int) 1=mn/\((k=0/\mn=0)\/(k≠0/\mn=1)):=⟨_,rfl,by omega⟩;(have i1:(0:Int)<=(k:Int):=by omega);(have i2:(k:Int)<(L.length:Int):=by omega);clear O3 hFo fG hO;generalize L[k]=c at *;rcases td with ⟨nj,rfl⟩ | ⟨nj,rfl⟩
     ·rw [if_pos nj] at nB
      clear nj;go_wp2_with fail;refine (gA.out _).mono ?_;rintro e w2 ⟨rfl,h1,h2,h3⟩;have HS:=aa (HO.out.byte (x:=40) rfl h1 h2 h3);clear h1 h2 h3;have T4:=(dJ.out.others MT HS.out.ot).cell
      have gQ:=aa (oO.out (rk c) (by have:=jD.out.2;omega) c (pre++mS ((L.take k).map (bE F rk))++[40]) w2 jD.out.1 (ah _) (HF.out.others hbb HS.out.ot) (dJ.out.others MT HS.out.ot) HS.out.bl (by
       have:=HLEN.out (k+1);rw [nB.out] at this;simp only [bg,aW,dw] at this ⊢
       omega) (HS.out.size hB))
      go_wp2_with fail;refine gQ.out.mono ?_;rintro e w3 ⟨rfl,h4⟩;(have HN:Hid (pI B b (pre++mS ((L.take (k+1)).map (bE F rk))) w w3):=by have:=HS.out.next h4;rw [Hid,nB.out];simpa [List.append_assoc] using this);clear h4 gQ HS;go_wp2
      go_roundw
      case rel=>exact ⟨k+1,aR.out,by go_num,HN.out⟩
      case measure=>have:=aR.out;simp [intOf];omega
     ·rw [if_neg nj] at nB
      clear nj;go_wp2_with fail;refine (gA.out _).mono ?_;rintro e w2 ⟨rfl,h1,h2,h3⟩;have HS:=aa (HO.out.byte (x:=44) rfl h1 h2 h3);clear h1 h2 h3;have T4:=(dJ.out.others MT HS.out.ot).cell
      have gQ:=aa (oO.out (rk c) (by have:=jD.out.2;omega) c (pre++mS ((L.take k).map (bE F rk))++[44]) w2 jD.out.1 (ah _) (HF.out.others hbb HS.out.ot) (dJ.out.others MT HS.out.ot) HS.out.bl (by
       have:=HLEN.out (k+1);rw [nB.out] at this;simp only [bg,aW,dw] at this ⊢
       omega) (HS.out.size hB))
      go_wp2_with fail;refine gQ.out.mono ?_;rintro e w3 ⟨rfl,h4⟩;(have HN:Hid (pI B b (pre++mS ((L.take (k+1)).map (bE F rk))) w w3):=by have:=HS.out.next h4;rw [Hid,nB.out];simpa [List.append_assoc] using this);clear h4 gQ HS;go_wp2
      go_roundw
      case rel=>exact ⟨k+1,aR.out,by go_num,HN.out⟩
      case measure=>have:=aR.out;simp [intOf];omega
    ·obtain rfl:k=L.length:=by omega
     have hO:=hO.out;rw [fT] at hO;have HO:=aa hO;have gA:=aa (La B b (Lib.byteCells (pre++mS (L.map (bE F rk)))) 41 wo hO.bl (by rw [Lib.byteCells_length,bg];have:=HLEN.out L.length;rw [fT] at this;exact this) (hO.size hB));clear hO;go_wp2_with fail;refine gA.out.mono ?_;rintro e w2 ⟨rfl,h1,h2,h3⟩;have HS:=aa (HO.out.byte (x:=41) rfl h1 h2 h3);clear h1 h2 h3;go_wp2_with fail
     go_end0
     exact ⟨rfl,by rw [<- dS];exact HS.out⟩
end
section
theorem Qr {c:UInt8} {s:List UInt8} (h:c∉eY):Lib.indexAny (c::s) eY<0\/1<=Lib.indexAny (c::s) eY:=by
 have hc:eY.contains c=false:=by
  cases e:eY.contains c with
  | false=>rfl
  | true=>exact absurd (dU.1 e) h
 rw [Lib.indexAny,hc];have:=Lib.indexAny_ge eY s;by_cases e:Lib.indexAny s eY = -1
 ·left;simp [e]
 ·right;rw [if_neg (by simp),if_neg (by simpa using e)];omega
theorem Lc {c:UInt8} (h1:c≠40) (h2:c≠41) (h3:c≠44) (h4:c≠59):c∉eY:=by simp [eY,h1,h2,h3,h4]
theorem Ct:∀(f g:Nat) (s:List UInt8) (st:List (List RT)) (b:Bool),s.length<f->s.length<g->pz f s st b=pz g s st b
 | 0,_,s,_,_,h,_=>by omega
 | _,0,s,_,_,_,h=>by omega
 | f+1,g+1,[],st,b,_,_=>rfl
 | f+1,g+1,c::s,st,b,hf,hg=>by
  rw [aW] at hf hg
  have key:∀(s':List UInt8) (st':List (List RT)) (b':Bool),s'.length<f->s'.length<g->pz f s' st' b'=pz g s' st' b':=fun s' st' b' h1 h2=>Ct f g s' st' b' h1 h2
  rw [pz,pz]
  by_cases c1:c=40
  ·rw [if_pos c1,if_pos c1,key s _ _ (by omega) (by omega)]
  rw [if_neg c1,if_neg c1]
  by_cases c2:c=41
  ·rw [if_pos c2,if_pos c2,key s _ _ (by omega) (by omega)]
  rw [if_neg c2,if_neg c2]
  by_cases c3:c=44
  ·rw [if_pos c3,if_pos c3,key s _ _ (by omega) (by omega)]
  rw [if_neg c3,if_neg c3]
  by_cases c4:c=59
  ·rw [if_pos c4,if_pos c4]
  rw [if_neg c4,if_neg c4]
  by_cases c5:b=true
  ·rw [if_pos c5,if_pos c5]
  rw [if_neg c5,if_neg c5]
  rcases Qr (s:=s) (Lc c1 c2 c3 c4) with h | h
  ·rw [if_pos h,if_pos h]
  ·rw [if_neg (by omega),if_neg (by omega)]
   have hd:((c::s).drop (Lib.indexAny (c::s) eY).toNat).length<=s.length:=by
    rw [xN,aW];omega
   exact key _ _ _ (by omega) (by omega)
def uy (s:List UInt8) (st:List (List RT)) (b:Bool):Option RT:=pz (s.length+1) s st b
theorem aeB (s:List UInt8):tQ s=uy s [[]] false:=rfl
theorem aby (s:List UInt8) (st:List (List RT)):uy (40::s) st false=uy s ([]::st) false:=by
 unfold uy;rw [pz,if_pos rfl,if_neg (by simp)];exact Ct _ _ _ _ _ (by simp) (by simp)
theorem MU (s:List UInt8) (Z Y:List RT) (st:List (List RT)):uy (41::s) (Z::Y::st) true=uy s ((Y++[.node ByteArray.empty Z])::st) true:=by
 unfold uy;rw [pz,if_neg (by decide),if_pos rfl,if_neg (by simp)];exact Ct _ _ _ _ _ (by simp) (by simp)
theorem Yv (s:List UInt8) (Z Y:List RT) (st:List (List RT)):uy (44::s) (Z::Y::st) true=uy s (Z::Y::st) false:=by
 unfold uy;rw [pz,if_neg (by decide),if_neg (by decide),if_pos rfl,if_neg (by simp)];exact Ct _ _ _ _ _ (by simp) (by simp)
theorem aeC (r:RT) (Z:List RT):uy [59] [r::Z] true=some r:=by
 unfold uy;rw [pz,if_neg (by decide),if_neg (by decide),if_neg (by decide),if_pos rfl,if_neg (by simp)];rfl
theorem abz {n s:List UInt8} {d:UInt8} (h0:n≠[]) (h:∀c∈n,c∉eY) (hd:d∈eY) (Z:List RT) (st:List (List RT)):uy (n++d::s) (Z::st) false=uy (d::s) ((Z++[.node ⟨n.toArray⟩ []])::st) true:=by
 have hi:Lib.indexAny (n++d::s) eY=(n.length:Nat):=by
  refine Lib.indexAny_hit (x:=d) (fun j b hj hb=>?_) (by simp) (dU.2 hd);rw [F0 hj] at hb;have hm:=Jg hb;cases e:eY.contains b with
  | false=>rfl
  | true=>exact absurd (dU.1 e) (h b hm)
 cases n with
 | nil=>exact absurd rfl h0
 | cons c n =>
  have hc:=h c (by simp);simp only [eY,bA,List.not_mem_nil,or_false,not_or] at hc;unfold uy;rw [cm] at hi ⊢;rw [pz,if_neg hc.1,if_neg hc.2.1,if_neg hc.2.2.1,if_neg hc.2.2.2,if_neg (by simp),if_neg (by rw [hi];omega),hi];have e1:((c::(n++d::s)).drop ((((c::n).length:Nat):Int)).toNat)=d::s:=by rw [fc,<- cm,List.drop_left]
  have e2:((c::(n++d::s)).take ((((c::n).length:Nat):Int)).toNat)=c::n:=by rw [fc,<- cm,List.take_left]
  rw [e1,e2];exact Ct _ _ _ _ _ (by simp;omega) (by simp)
def uz (r:RT):Prop:=∀s∈bh r,(s.kids≠[]->s.nm.size=0)/\(s.kids=[]->s.nm.data.toList≠[]/\∀c∈s.nm.data.toList,c∉eY)
theorem Cu {nm:ByteArray} {ks:List RT} (h:uz (.node nm ks)) {k:RT} (hk:k∈ks):uz k:=fun s hs =>
 h s (by rw [bh,pH];exact mX _ (iA.2 ⟨k,hk,hs⟩))
theorem abA {nm:ByteArray} {ks:List RT} (h0:nm.size=0) (h1:ks≠[]) (h:∀k∈ks,uz k):uz (.node nm ks):=fun s hs=>by
 rw [bh,pH,bA,iA] at hs
 rcases hs with rfl | ⟨k,hk,hs⟩
 ·exact ⟨fun _=>h0,fun e=>absurd e h1⟩
 ·exact h k hk s hs
theorem abB {nm:ByteArray} (h1:nm.data.toList≠[]) (h:∀c∈nm.data.toList,c∉eY):uz (.node nm []):=fun s hs=>by
 rw [bh,dO,cN] at hs;subst hs
 exact ⟨fun e=>absurd rfl e,fun _=>⟨h1,h⟩⟩
theorem abC {nm:ByteArray} (h:nm.size=0):nm=ByteArray.empty:=Qi h rfl
mutual
theorem E9:∀(r:RT),uz r->∀(d:UInt8) (s:List UInt8) (Z:List RT) (st:List (List RT)),d∈eY->uy (gL r++d::s) (Z::st) false=uy (d::s) ((Z++[r])::st) true
 | .node nm [],h,d,s,Z,st,hd=>by
  obtain ⟨_,h1⟩:=h _ (by rw [bh];exact tZ)
  obtain ⟨h1,h2⟩:=h1 rfl
  have h1:nm.data.toList≠[]:=h1
  have h2:∀c∈nm.data.toList,c∉eY:=h2
  rw [gL,abz h1 h2 hd]
 | .node nm (k::ks),h,d,s,Z,st,hd=>by
  obtain ⟨h1,_⟩:=h _ (by rw [bh];exact tZ)
  have h1:=abC (h1 (by simp [RT.kids]))
  have h1:nm=ByteArray.empty:=h1
  rw [gL,cm,aby,dS,dS]
  cases hks:ks with
  | nil =>
   rw [iR,di,cm,di,E9 k (Cu h (by simp)) 41 _ _ _ (by decide),MU,h1];rfl
  | cons k2 ks2 =>
   rw [<- hks]
   have e:∀X:List UInt8,iR ks++X=44::(gL k2++iR ks2++X):=fun X=>by rw [hks,iR,cm]
   rw [e,E9 k (Cu h (by simp)) 44 _ _ _ (by decide),<- e,di,List.singleton_append,T5 ks (fun q hq=>Cu h (by simp [hq])) 41 _ _ _ _ (by decide),MU,h1,List.singleton_append]
theorem T5:∀(ks:List RT),(∀k∈ks,uz k)->∀(d:UInt8) (s:List UInt8) (Z Y:List RT) (st:List (List RT)),d∈eY->uy (iR ks++d::s) (Z::Y::st) true=uy (d::s) ((Z++ks)::Y::st) true
 | [],_,d,s,Z,Y,st,_=>by rw [iR,di,eG]
 | k::ks,h,d,s,Z,Y,st,hd=>by
  rw [iR,cm,Yv,dS]
  have hk:=h k (by simp)
  have ih:=T5 ks (fun q hq=>h q (by simp [hq])) d s (Z++[k]) Y st hd
  rw [dS,List.singleton_append] at ih
  rw [<- ih]
  cases ks with
  | nil=>rw [iR,di,E9 k hk d _ _ _ hd]
  | cons k2 ks2=>rw [iR,cm,E9 k hk 44 _ _ _ (by decide)]
end
mutual
theorem Ld:∀(r:RT),uz r->aP r<=(gL r).length/\∀s∈eo r,s.size<=(gL r).length
 | .node nm [],h=>by
  obtain ⟨_,h1⟩:=h _ (by rw [bh];exact tZ)
  have h1:nm.data.toList≠[]:=(h1 rfl).1
  have hl:0<nm.data.toList.length:=z7.2 h1
  rw [aP,aK,gL,eo,eu]
  refine ⟨by omega,fun s hs=>?_⟩
  rw [cN.1 hs,size_data];exact ah _
 | .node nm (k::ks),h=>by
  obtain ⟨h1,_⟩:=h _ (by rw [bh];exact tZ)
  have h1:nm.size=0:=h1 (by simp [RT.kids])
  obtain ⟨a1,a2⟩:=Ld k (Cu h (by simp))
  obtain ⟨b1,b2⟩:=Qs ks (fun q hq=>Cu h (by simp [hq]))
  rw [aP,aK,gL,eo,eu,aW,bg,bg]
  refine ⟨by simp;omega,fun s hs=>?_⟩
  rcases bA.1 hs with rfl | hs
  ·omega
  ·rcases ey.1 hs with hs | hs
   ·have:=a2 s hs;omega
   ·have:=b2 s hs;omega
theorem Qs:∀(ks:List RT),(∀k∈ks,uz k)->aK ks<=(iR ks).length/\∀s∈eu ks,s.size<=(iR ks).length
 | [],_=>⟨by rw [aK];exact aF _,fun s hs=>by rw [eu] at hs;cases hs⟩
 | k::ks,h=>by
  obtain ⟨a1,a2⟩:=Ld k (h k (by simp))
  obtain ⟨b1,b2⟩:=Qs ks (fun q hq=>h q (by simp [hq]))
  rw [aK,iR,eu,aW,bg]
  refine ⟨by omega,fun s hs=>?_⟩
  rcases ey.1 hs with hs | hs
  ·have:=a2 s hs;omega
  ·have:=b2 s hs;omega
end
theorem Qt {r:RT} (h:uz r):tQ (gL r++[59])=some r:=by
 rw [aeB,E9 r h 59 [] [] [] (by decide),di,aeC]
theorem Yw {r q:RT} (hr:uz r) (hq:uz q) (e:gL r=gL q):r=q:=by
 have h:=Qt hr;rw [e,Qt hq] at h;exact (Option.some.inj h).symm
def pT:List (List RT)->Bool->List UInt8
 | [],_=>[]
 | [Z],_=>match Z with
  | []=>[]
  | r::_=>gL r
 | Z::Y::st,b=>pT (Y::st) false++(if Z=[] then [40] else mS Z++(if b then [] else [44]))
def ajq (st:List (List RT)) (b:Bool):Prop:=(∀Z∈st,∀r∈Z,uz r)/\st≠[]/\(b=true->∀Z,st.head? = some Z->Z≠[])/\(∀Z,st.getLast? = some Z->Z.length<=1/\((st.length≠1\/b=false)->Z=[]))
theorem abD {Z Y:List RT} {st:List (List RT)} (h0:Z≠[]) (hl:st=[]->Y=[]):pT ((Y++[.node ByteArray.empty Z])::st) true=pT (Z::Y::st) true++[41]:=by
 cases st with
 | nil =>
  rw [hl rfl];simp only [pT,di,if_neg h0];rw [Ir _ h0];simp
 | cons X st =>
  have hne:Y++[RT.node ByteArray.empty Z]≠[]:=by simp
  simp only [pT,if_neg h0,if_neg hne,if_true,Lb,Ir _ h0];by_cases hY:Y=[]
  ·subst hY;simp [mS]
  ·have:Y.length≠0:=by simpa using hY
   simp [hY]
theorem T6:∀(s:List UInt8) (n:Nat),Lib.indexAny s eY=(n:Int)->∀x∈s.take n,x∉eY
 | [],n,h,x,hx=>by simp at hx
 | c::s,0,_,x,hx=>by simp at hx
 | c::s,n+1,h,x,hx=>by
  rw [Lib.indexAny] at h
  cases hc:eY.contains c with
  | true=>rw [hc,if_pos rfl] at h;omega
  | false =>
   rw [hc,if_neg (by simp)] at h
   by_cases e:Lib.indexAny s eY = -1
   ·rw [e] at h;simp at h;omega
   ·rw [if_neg (by simpa using e)] at h
    rw [yA,bA] at hx
    rcases hx with rfl | hx
    ·intro hm;rw [dU.2 hm] at hc;cases hc
    ·exact T6 s n (by omega) x hx
theorem adO:∀(s:List UInt8) (n:Nat),Lib.indexAny s eY=(n:Int)->n<s.length
 | [],n,h=>by rw [Lib.indexAny] at h;omega
 | c::s,0,_=>by simp
 | c::s,n+1,h=>by
  rw [Lib.indexAny] at h
  cases hc:eY.contains c with
  | true=>rw [hc,if_pos rfl] at h;omega
  | false =>
   rw [hc,if_neg (by simp)] at h
   by_cases e:Lib.indexAny s eY = -1
   ·rw [e] at h;simp at h;omega
   ·rw [if_neg (by simpa using e)] at h
    have:=adO s n (by omega)
    rw [aW];omega
theorem V4 (s:ByteArray) (k n:Nat):(⟨((s.data.toList.drop k).take n).toArray⟩:ByteArray)=s.extract k (k+n):=by
 apply yD;rw [Ja];simp [Nat.add_sub_cancel_left]
theorem Cv:∀(f:Nat) (s:List UInt8) (st:List (List RT)) (b:Bool) (r:RT),s.length<f->ajq st b->pz f s st b=some r->pT st b++s=gL r++[59]/\uz r
 | 0,_,_,_,_,h,_,_=>by omega
 | f+1,[],st,b,r,_,_,e=>by cases e
 | f+1,c::s,st,b,r,hf,hI,e=>by
  rw [aW] at hf
  obtain ⟨i1,i2,i3,i4⟩:=hI
  rw [pz] at e
  by_cases c1:c=40
  ·rw [if_pos c1] at e
   cases b with
   | true=>rw [if_pos rfl] at e;cases e
   | false =>
    rw [if_neg (by simp)] at e
    obtain ⟨h1,h2⟩:=Cv f s ([]::st) false r (by omega) ⟨fun Z hZ=>by
     rcases bA.1 hZ with rfl | h
     ·intro r hr;cases hr
     ·exact i1 Z h,by simp,(fun h=>by cases h),fun Z hZ=>by
      cases st with
      | nil=>exact absurd rfl i2
      | cons Y st =>
       rw [zY] at hZ
       have:=i4 Z hZ
       exact ⟨this.1,fun _=>this.2 (.inr rfl)⟩⟩ e
    refine ⟨?_,h2⟩
    rw [<- h1,c1]
    cases st with
    | nil=>exact absurd rfl i2
    | cons Y st=>simp [pT]
  rw [if_neg c1] at e
  by_cases c2:c=41
  ·rw [if_pos c2] at e
   by_cases hb:b=false\/st.length=1
   ·rw [if_pos hb] at e;cases e
   ·rw [if_neg hb] at e
    have hb1:b=true:=by cases b<;>simp at hb ⊢
    subst hb1
    match st,i2,hb with
    | [],h,_=>exact absurd rfl h
    | [Z],_,h=>exact absurd (.inr rfl) h
    | Z::Y::st,_,_ =>
     have hZ:Z≠[]:=i3 rfl Z rfl
     have hY:st=[]->Y=[]:=fun h=>by subst h;exact (i4 Y rfl).2 (.inl (by simp))
     rw [show abr (Z::Y::st)=(Y++[.node ByteArray.empty Z])::st from rfl] at e
     obtain ⟨h1,h2⟩:=Cv f s ((Y++[.node ByteArray.empty Z])::st) true r (by omega) ⟨fun X hX r hr=>by
      rcases bA.1 hX with rfl | h
      ·rcases ey.1 hr with h | h
       ·exact i1 Y (by simp) r h
       ·rw [cN.1 h];exact abA rfl hZ fun k hk=>i1 Z (by simp) k hk
      ·exact i1 X (by simp [h]) r hr,by simp,(fun _ X hX=>by cases hX;simp),fun X hX=>by
       cases st with
       | nil =>
        cases hX;rw [hY rfl]
        exact ⟨by simp,fun h=>by simp at h⟩
       | cons W st =>
        rw [zY] at hX
        have:=i4 X (by rw [zY,zY];exact hX)
        exact ⟨this.1,fun _=>this.2 (.inl (by simp))⟩⟩ e
     refine ⟨?_,h2⟩
     rw [<- h1,abD hZ hY,c2];simp
  rw [if_neg c2] at e
  by_cases c3:c=44
  ·rw [if_pos c3] at e
   by_cases hb:b=false\/st.length=1
   ·rw [if_pos hb] at e;cases e
   ·rw [if_neg hb] at e
    have hb1:b=true:=by cases b<;>simp at hb ⊢
    subst hb1
    match st,i2,hb with
    | [],h,_=>exact absurd rfl h
    | [Z],_,h=>exact absurd (.inr rfl) h
    | Z::Y::st,_,_ =>
     have hZ:Z≠[]:=i3 rfl Z rfl
     obtain ⟨h1,h2⟩:=Cv f s (Z::Y::st) false r (by omega) ⟨i1,by simp,(fun h=>by cases h),fun X hX=>⟨(i4 X hX).1,fun _=>(i4 X hX).2 (.inl (by simp))⟩⟩ e
     refine ⟨?_,h2⟩
     rw [<- h1,c3]
     simp [pT,hZ]
  rw [if_neg c3] at e
  by_cases c4:c=59
  ·rw [if_pos c4] at e
   by_cases hb:b=false\/st.length≠1\/s≠[]
   ·rw [if_pos hb] at e;cases e
   ·rw [if_neg hb] at e
    have hb1:b=true:=by cases b<;>simp at hb ⊢
    have hs:s=[]:=by simp at hb;exact hb.2.2
    have hl:st.length=1:=by simp at hb;exact hb.2.1
    subst hb1;subst hs
    match st,hl with
    | [Z],_ =>
     have hZ:Z≠[]:=i3 rfl Z rfl
     cases Z with
     | nil=>exact absurd rfl hZ
     | cons q Z =>
      cases e
      rw [c4]
      exact ⟨rfl,i1 (q::Z) tZ q tZ⟩
  rw [if_neg c4] at e
  by_cases c5:b=true
  ·rw [if_pos c5] at e;cases e
  rw [if_neg c5] at e
  have hb:b=false:=by cases b<;>simp at c5 ⊢
  subst hb
  by_cases c6:Lib.indexAny (c::s) eY<0
  ·rw [if_pos c6] at e;cases e
  rw [if_neg c6] at e
  have hn:=(Qr (s:=s) (Lc c1 c2 c3 c4)).resolve_left c6
  obtain ⟨n,hn2⟩:∃n:Nat,Lib.indexAny (c::s) eY=(n:Int):=⟨(Lib.indexAny (c::s) eY).toNat,by omega⟩
  rw [hn2,fc] at e
  have hno:∀x∈(c::s).take n,x∉eY:=T6 _ n hn2
  match st,i2 with
  | Z::st,_ =>
   have hne:(c::s).take n≠[]:=by
    cases n with
    | zero=>omega
    | succ n=>simp
   rw [show ∀q,agu q (Z::st)=(Z++[q])::st from fun _=>rfl] at e
   obtain ⟨h1,h2⟩:=Cv f ((c::s).drop n) ((Z++[.node ⟨((c::s).take n).toArray⟩ []])::st) true r (by rw [xN,aW];omega) ⟨fun X hX r hr=>by
     rcases bA.1 hX with rfl | h
     ·rcases ey.1 hr with h | h
      ·exact i1 Z (by simp) r h
      ·rw [cN.1 h];exact abB (by simpa using hne) (by simpa using hno)
     ·exact i1 X (by simp [h]) r hr,by simp,(fun _ X hX=>by cases hX;simp),fun X hX=>by
      cases st with
      | nil =>
       cases hX;rw [(i4 Z rfl).2 (.inr rfl)]
       exact ⟨by simp,fun h=>by simp at h⟩
      | cons W st =>
       rw [zY] at hX
       have:=i4 X (by rw [zY];exact hX)
       exact ⟨this.1,fun _=>this.2 (.inr rfl)⟩⟩ e
   refine ⟨?_,h2⟩
   rw [<- h1]
   have ht:c::s=(c::s).take n++(c::s).drop n:=(BV _ _).symm
   cases st with
   | nil =>
    rw [(i4 Z rfl).2 (.inr rfl)]
    simp only [pT,di,gL]
    exact ht
   | cons W st =>
    have Bk:Z++[RT.node ⟨((c::s).take n).toArray⟩ []]≠[]:=by simp
    simp only [pT,if_neg Bk,if_true,Lb,gL,eG]
    by_cases hZ:Z=[]
    ·subst hZ;simp [mS]
    ·have hz:Z.length≠0:=by simpa using hZ
     simp [hZ]
theorem Yx {s:List UInt8} {r:RT} (h:tQ s=some r):s=gL r++[59]/\uz r:=by
 obtain ⟨h1,h2⟩:=Cv _ s [[]] false r (wu _) ⟨(fun Z hZ r hr=>by simp at hZ;subst hZ;cases hr),by simp,(fun h=>by cases h),fun Z hZ=>by cases hZ;simp⟩ h;exact ⟨h1,h2⟩
theorem Yy {s:List UInt8} {r:RT} (h:tQ s=some r):(flat r).ps.length<=s.length/\(flat r).ns.length<=s.length/\∀k,(gs (flat r).ns k).size<=s.length:=by
 obtain ⟨h1,h2⟩:=Yx h;obtain ⟨h3,h4⟩:=Ld r h2;have hl:s.length=(gL r).length+1:=by rw [h1];simp
 refine ⟨by rw [vv];omega,by rw [Cl];omega,fun k=>?_⟩;by_cases hk:k<(eo r).length
 ·have hm:gs (eo r) k∈eo r:=by simp [gs,hk]
  have:=h4 _ hm;show (gs (eo r) k).size<=_;omega
 ·have:gs (flat r).ns k=ByteArray.empty:=by
   show (eo r).getD k ByteArray.empty=_
   simp [show (eo r).length<=k by omega]
  rw [this];exact aF _
end
section
open Go.RowKit Go.Deep
theorem x6 (w:World) (o:Option Nat):w.grownBy w o:=⟨rfl,rfl,rfl,ah _,fun _ _ _=>rfl⟩
theorem jw {w w' x:World} {o:Option Nat} (h:w.grownBy w' o) (k:w'.grownBy x o):w.grownBy x o :=
 ⟨k.os.trans h.os,k.tape.trans h.tape,k.output.trans h.output,aB h.size k.size,fun b hb hn=>(k.block b (iI hb h.size) hn).trans (h.block b hb hn)⟩
theorem jZ {w w':World} (h:Up w w') (o:Option Nat):w.grownBy w' o:=⟨h.os,h.tape,h.output,h.size,fun b hb _=>bH h b hb⟩
theorem MV {w:World} {g o:Nat} {z:Value}:w.grownBy (w.setCell ⟨g,o,none⟩ z) (some g) :=
 ⟨rfl,rfl,rfl,by rw [nh];exact ah _,fun b _ hn=>blk_setCell_other _ _ _ _ fun e=>hn (by rw [e])⟩
theorem JV {g:Nat}:∀(vs:List Value) (o:Nat) (w:World),w.grownBy (w.setCells g o vs) (some g)
 | [],_,w=>x6 w _
 | z::vs,o,w=>by rw [World.setCells];exact jw MV (JV vs (o+1) _)
theorem MW {base:Nat} {e:TypeId} {w:World} {g n cap:Nat} {xs:List Value} (h:au base e w (.slice (some ⟨g,0,none⟩) n cap) xs) {m:Nat} (hm:m<=n):au base e w (.slice (some ⟨g,0,none⟩) m cap) (xs.take m):=by
 obtain ⟨h1,h2⟩:=h;rcases h2 with ⟨e1,_⟩ | ⟨g2,dF,cur,e1,hg,hc,hn,hcm,hcs,ht⟩
 ·cases e1
 ·injection e1 with a1 a2 a3
  injection a1 with a1;injection a1 with a1;subst a1;subst a3;have hnx:n=xs.length:=a2;have hl:(xs.take m).length=m:=by rw [jl];omega
  refine ⟨by rw [Nat.mul_one],.inr ⟨g,cap,cur,by rw [hl],hg,hc,by omega,hcm,hcs,?_⟩⟩;rw [hl,Nat.mul_one,<- ht,List.take_take];congr 1;omega
theorem Yz {base:Nat} {e:TypeId} {w:World} {g m cap o:Nat} {xs:List Value} {z:Value} (h:au base e w (.slice (some ⟨g,0,none⟩) m cap) xs) (ho:m<=o):au base e (w.setCell ⟨g,o,none⟩ z) (.slice (some ⟨g,0,none⟩) m cap) xs:=by
 obtain ⟨h1,h2⟩:=h;rcases h2 with ⟨e1,_⟩ | ⟨g2,dF,cur,e1,hg,hc,hn,hcm,hcs,ht⟩
 ·cases e1
 ·injection e1 with a1 a2 a3
  injection a1 with a1;injection a1 with a1;subst a1;subst a3;refine ⟨h1,.inr ⟨g,cap,cur.setIfInBounds o z,by rw [a2],hg,?_,hn,hcm,by rw [Array.size_setIfInBounds];exact hcs,?_⟩⟩
  ·simp [World.setCell,Array.getElem?_modify,hc]
  ·have hmx:m=xs.length:=a2
   rw [Array.toList_setIfInBounds,List.take_set_of_le (by omega)];exact ht
theorem JW {base:Nat} {e:TypeId} {g m cap:Nat} {xs:List Value}:∀(vs:List Value) (o:Nat) (w:World),m<=o->au base e w (.slice (some ⟨g,0,none⟩) m cap) xs->au base e (w.setCells g o vs) (.slice (some ⟨g,0,none⟩) m cap) xs
 | [],_,_,_,h=>h
 | z::vs,o,w,ho,h=>by rw [World.setCells];exact JW vs (o+1) _ (by omega) (Yz h ho)
theorem tR {base:Nat} {e:TypeId} {w:World} {g n cap:Nat} {xs:List Value} (h:au base e w (.slice (some ⟨g,0,none⟩) n cap) xs) {j:Nat} {u:Value} (hj:xs[j]? = some u):w.cell? ⟨g,j,none⟩=some u/\w.frozen? ⟨g,j,none⟩=false:=by
 have hl:=(o8.1 hj).1;obtain ⟨g2,dF,e1,_,_,hc,hf,_⟩:=h.set hl;injection e1 with a1;injection a1 with a1;injection a1 with a1;subst a1;refine ⟨?_,hf⟩;rw [hc];congr 1;rw [rP,hj];rfl
end
section
open Go.RowKit Go.Deep
theorem Qu {base:Nat} {e:TypeId} {w:World} {g n cap:Nat} {xs:List Value} (h:au base e w (.slice (some ⟨g,0,none⟩) n cap) xs):n<=cap:=by
 obtain ⟨h1,h2⟩:=h;rcases h2 with ⟨e1,_⟩ | ⟨g2,dF,cur,e1,hg,hc,hn,_⟩
 ·cases e1
 ·injection e1 with a1 a2 a3
  omega
theorem abE {w w' w'':World} (h:QD w w') (k:QD w' w''):QD w w'':=by
 obtain ⟨n,rfl⟩:=h;obtain ⟨m,rfl⟩:=k;exact (QD.refl w).drewN n |>.drewN m
theorem Qv (p:Nat->Bool):∀n,(∀j,j<n->p j=false)\/∃j,j<n/\p j=true/\∀i,i<j->p i=false
 | 0=>.inl fun j hj=>absurd hj (aZ _)
 | n+1=>by
  rcases Qv p n with h | ⟨j,h1,h2,h3⟩
  ·cases hp:p n
   ·exact .inl fun j hj=>if e:j=n then by subst e;exact hp else h j (by omega)
   ·exact .inr ⟨n,by omega,hp,h⟩
  ·exact .inr ⟨j,by omega,h2,h3⟩
end
section
def rX (ps:List Int) (n:Nat):Nat->Nat->Nat
 | 0,k=>k
 | d+1,k=>if n<k then rX ps n d (gi ps k).toNat else k
def fJ (ps:List Int) (n i:Nat):Bool:=decide (rX ps n i i=n)
theorem rA {ps:List Int} (h:jB ps=true) {k:Nat} (hk:k<ps.length) (h0:0<k):0<=gi ps k/\gi ps k<k:=by
 have h1:=F5 h hk;unfold oJ at h1;rw [if_neg (by omega)] at h1;simpa using h1
theorem V5 {ps:List Int} (hp:jB ps=true) (n:Nat):∀ {d e k:Nat},k<ps.length->k<=d->k<=e->rX ps n d k=rX ps n e k:=by
 intro d
 induction d with
 | zero =>
  intro e k hl h1 h2;obtain rfl:k=0:=by omega
  cases e with
  | zero=>rfl
  | succ e=>simp [rX]
 | succ d ih =>
  intro e k hl h1 h2;cases e with
  | zero =>
   (obtain rfl:k=0:=by omega);simp [rX]
  | succ e =>
   rw [rX,rX];split
   ·rename_i hnk
    have:=rA hp hl (by omega);exact ih (by omega) (by omega) (by omega)
   ·rfl
theorem V6 {ps:List Int} (hp:jB ps=true) {n k:Nat} (hk:k<ps.length) (hn:n<k):rX ps n k k=rX ps n (gi ps k).toNat (gi ps k).toNat:=by
 have h1:=rA hp hk (by omega);obtain ⟨m,rfl⟩:∃m,k=m+1:=⟨k - 1,by omega⟩;rw [rX,if_pos hn];exact V5 hp n (by omega) (by omega) (ah _)
theorem Di {ps:List Int} {n k:Nat} (hn:¬n<k):rX ps n k k=k:=by
 cases k with
 | zero=>rfl
 | succ k=>rw [rX,if_neg hn]

theorem Dj {ps:List Int} (i:Nat):fJ ps i i=true:=by unfold fJ;rw [Di (by omega)];simp
theorem uA {ps:List Int} (_:jB ps=true) {i:Nat}:∀ {j:Nat},j<ps.length->fJ ps i j=true->i<=j:=by
 intro j
 induction j using Nat.strongRecOn with
 | ind j ih =>
  intro hj h;by_cases e:i<j
  ·omega
  ·unfold fJ at h
   rw [Di e] at h;(have:j=i:=by simpa using h);omega
theorem tE {ps:List Int} (hp:jB ps=true) {i j:Nat} (hj:j<ps.length) (hi:i<j):fJ ps i j=fJ ps i (gi ps j).toNat:=by
 unfold fJ;rw [V6 hp hj hi]
theorem Le {ps:List Int} (hp:jB ps=true) {i:Nat}:∀ {j:Nat},j<ps.length->(fJ ps i j=true↔j=i\/∃c,c<ps.length/\i<c/\gi ps c=(i:Int)/\fJ ps c j=true):=by
 intro j
 induction j using Nat.strongRecOn with
 | ind j ih =>
  intro hj;by_cases e:i<j
  ·have hpar:=rA hp hj (by omega)
   have Qm:((gi ps j).toNat:Int)=gi ps j:=Int.toNat_of_nonneg hpar.1;(have hpl:(gi ps j).toNat<j:=by omega);rw [tE hp hj e,ih _ hpl (by omega)];constructor
   ·rintro (h | ⟨c,h1,h2,h3,h4⟩)
    ·exact .inr ⟨j,hj,e,by omega,Dj j⟩
    ·have:=uA hp (show (gi ps j).toNat<ps.length by omega) h4
     exact .inr ⟨c,h1,h2,h3,by rw [tE hp hj (by omega)];exact h4⟩
   ·rintro (h | ⟨c,h1,h2,h3,h4⟩)
    ·omega
    ·have B5:=uA hp hj h4
     by_cases ec:c=j
     ·subst ec;left;omega
     ·right
      exact ⟨c,h1,h2,h3,by rw [tE hp hj (by omega)] at h4;exact h4⟩
  ·unfold fJ
   rw [Di e];constructor
   ·intro h;left;simpa using h
   ·rintro (h | ⟨c,h1,h2,h3,h4⟩)
    ·simpa using h
    ·have:=uA hp hj h4;omega
end
section
section
variable {F:bW} {n:Nat} {rk:Nat->Nat} {P:Nat->Bool}
theorem YA (h:Wf F n rk) {i:Nat} (hi:i<n) (hg:jm (bE F rk i)):aP (bE F rk i)<=n:=by
 rw [<- pG,Ao h hi (ah _),aD];exact vq (JT h _ i (ah _) hi hg) fun x hx=>tO h hi (ah _) ((fB h hi (ah _)).1 hx)
end
end
end Go.Proofs.YthgabkgmkolobaaGreat
