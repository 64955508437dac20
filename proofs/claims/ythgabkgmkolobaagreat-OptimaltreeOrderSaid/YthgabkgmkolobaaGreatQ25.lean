/- The text of a tree: phylotree.Print$1. Texts of rose trees, plain: what the machine reads .. -/
import Derived.Lib.MinMax
import Derived.Test.YthgabkgmkolobaaGreatQ24
set_option maxRecDepth 100000
set_option maxHeartbeats 4000000
namespace Go.Proofs.YthgabkgmkolobaaGreat
section
open Go.RowKit Go.Deep
mutual
def bF:RT->List UInt8
 | .node nm []=>nm.data.toList
 | .node _ (k::ks)=>40::(bF k++cH ks++[41])
def cH:List RT->List UInt8
 | []=>[]
 | r::rs=>44::(bF r++cH rs)
end
def gX:List RT->List UInt8
 | []=>[]
 | k::ks=>40::(bF k++cH ks)
theorem Rl (l:List RT) (c:RT):cH (l++[c])=cH l++44::bF c:=by
 induction l with
 | nil=>simp [cH]
 | cons a l ih=>rw [bz,cH,cH,ih];simp
theorem zN (l:List RT) (c:RT):gX (l++[c])=gX l++(if l.length=0 then 40 else 44)::bF c:=by
 cases l with
 | nil=>simp [gX,cH]
 | cons a l=>rw [bz,gX,gX,Rl,if_neg (by simp)];simp
theorem td (nm:ByteArray) {ks:List RT} (h:ks≠[]):bF (.node nm ks)=gX ks++[41]:=by
 cases ks with
 | nil=>exact absurd rfl h
 | cons k ks=>rw [bF,gX];simp
theorem xu (nm:ByteArray):bF (.node nm [])=nm.data.toList:=by rw [bF]
theorem G8 (l m:List RT):(cH (l++m)).length=(cH l).length+(cH m).length:=by
 induction l with
 | nil=>simp [cH]
 | cons a l ih=>rw [bz,cH,cH];simp [ih];omega
theorem yU (l:List RT) (k:Nat):(gX (l.take k)).length<=(gX l).length:=by
 cases l with
 | nil=>simp [gX]
 | cons a l =>
  cases k with
  | zero=>simp [gX]
  | succ k =>
   rw [wI,gX,gX];have:=G8 (l.take k) (l.drop k);rw [qm] at this;simp only [aO,bg];omega
structure kR (B b:Nat) (pre:List UInt8) (w wr:World):Prop where
 bl:Lib.IsBuilderF 117 5 B b (Lib.byteCells pre) wr
 up:Below B w wr
 ot:Lib.OthersKept 5 (some b) w wr
theorem kR.size {B b:Nat} {pre:List UInt8} {w wr:World} (h:kR B b pre w wr) (hB:B<=w.heap.size):B<=wr.heap.size:=aR hB h.up.size
theorem kR.byte {B b:Nat} {pre:List UInt8} {w wr w2:World} {x:UInt8} {c:Int} (h:kR B b pre w wr) (hc:c=x.toNat) (h1:Lib.BuilderAtF 117 5 B b (.pointer (some ⟨b,0,none⟩)) (Lib.byteCells pre++[.int .u8 c]) w2) (h2:Below B wr w2) (h3:Lib.OthersKept 5 (some b) wr w2):kR B b (pre++[x]) w w2:=by
 subst hc;exact ⟨.inr (by rw [show Lib.byteCells (pre++[x])=Lib.byteCells pre++[.int .u8 x.toNat] from cm];exact h1),h.up.trans h2,h.ot.trans h3⟩
theorem kR.next {B b:Nat} {pre WM:List UInt8} {w wr w2:World} (h:kR B b pre w wr) (k:kR B b WM wr w2):kR B b WM w w2:=⟨k.bl,h.up.trans k.up,h.ot.trans k.ot⟩
theorem bB.others {base n b:Nat} {A:Nat->Nat} {kv:Nat->Value} {F:aX} {w w':World} (h:bB base n A kv F w) (hb:b<base) (k:Lib.OthersKept 5 (some b) w w'):bB base n A kv F w':=by
 refine h.same (fun i hi=>?_) fun i g hi hg=>?_
 ·have h1:=h.node i hi
  rw [h1];refine k _ _ h1 (fun e=>by have:=h.lo i hi;cases e;omega) (fun c fz e=>?_);injection e with _ e2 _;exact absurd e2 (by decide)
 ·have hlo:=(h.iA hi hg).1
  obtain ⟨_,h1 | ⟨g2,cap,cur,h1,_,hc,_⟩⟩:=h.own i hi
  ·rw [h1.1] at hg;cases hg
  ·rw [h1] at hg
   have hg:some g2=some g:=hg;injection hg with hg;subst hg;rw [hc];refine k _ _ hc (fun e=>by cases e;omega) (fun c fz e=>?_);injection e with _ e2 _;exact absurd e2 (by decide)
def uv (b fb:Nat) (w:World):Prop:=w.heap[fb]? = some (Obj.cells #[.func (.func 90) #[] #[.pointer (some ⟨b,0,none⟩),.pointer (some ⟨fb,0,none⟩)]] 118 (0,0))
theorem uv.cell {b fb:Nat} {w:World} (h:uv b fb w):w.cell? ⟨fb,0,none⟩=some (.func (.func 90) #[] #[.pointer (some ⟨b,0,none⟩),.pointer (some ⟨fb,0,none⟩)]):=by
 have h:w.heap[fb]? = _:=h;simp [World.cell?,h]
theorem uv.others {b fb:Nat} {w w':World} (h:uv b fb w) (hne:fb≠b) (k:Lib.OthersKept 5 (some b) w w'):uv b fb w':=by
 have h:w.heap[fb]? = _:=h;refine k _ _ h (fun e=>by cases e;exact hne rfl) (fun c fz e=>?_);injection e with _ e2 _;exact absurd e2 (by decide)
def WN (B b:Nat) (pre:List UInt8) (w:World) (e:Ending) (w':World):Prop:=e=.returned (.tuple #[])/\kR B b pre w w'
theorem Rm {base n B b fb:Nat} {A:Nat->Nat} {kv:Nat->Value} {F:aX} {rk:Nat->Nat} (hw:Wf F n rk) (hl:∀z,z<n->(F.kids z).length<=1000) (hbb:b<base) (EN:fb≠b):∀(d i:Nat) (pre:List UInt8) (w:World),i<n->rk i<=d->bB base n A kv F w->uv b fb w ->
  Lib.IsBuilderF 117 5 B b (Lib.byteCells pre) w->pre.length+(bF (aV F rk i)).length<=140737488355328->B<=w.heap.size ->
  Calls Tryz.prog 90 (#[.pointer (some ⟨A i,0,none⟩)]++#[.pointer (some ⟨b,0,none⟩),.pointer (some ⟨fb,0,none⟩)]) w (WN B b (pre++bF (aV F rk i)) w):=by
 intro d
 induction d using Nat.strongRecOn with
 | ind d ih =>
  intro i pre w hi hd hF mV hbl hlen hB;have eP:∀args w,(callFunc 90 args).run Tryz.prog w=.ok (.enter 90 args) w:=enters_of Tryz.func90 (by kernel_rfl) rfl;have hown:=hF.own i hi;obtain ⟨q,cap,hv,hq⟩:=hown.form (n:=(F.kids i).length) (by simp);have hkc:=hF.qV hi;rw [hv] at hkc;have hnm:=hF.name hi;by_cases h0:F.kids i=[]
  ·have EO:bF (aV F rk i)=(F.nm i).data.toList:=by rw [dY hw hi,h0];exact xu _
   rw [EO] at hlen ⊢;(have d1:(((F.kids i).length:Int)==0)=true:=by rw [h0];rfl);have HW:=aa (WK B b (Lib.byteCells pre) (F.nm i) w hbl (by rw [Lib.byteCells_length];exact hlen) hB);have HE:Hid (∀w',Lib.BuilderAtF 117 5 B b (.pointer (some ⟨b,0,none⟩)) (Lib.byteCells pre++Lib.strCells (F.nm i)) w'->Below B w w'->Lib.OthersKept 5 (some b) w w'->kR B b (pre++(F.nm i).data.toList) w w'):=fun w' h1 h2 h3 =>
    ⟨.inr (by rw [Lib.strCells_eq,<- show Lib.byteCells (pre++(F.nm i).data.toList)=Lib.byteCells pre++Lib.byteCells (F.nm i).data.toList from cm] at h1;exact h1),h2,h3⟩
   clear hown hq hv ih hF mV hbl hlen h0 EO;generalize F.nm i=nm at *
   go_enter Tryz.func90,Tryz.ntmps90
   go_wp2_with fail;refine HW.out.mono ?_;rintro e w' ⟨rfl,h1,h2,h3⟩;have HN:=aa (HE.out w' h1 h2 h3);clear h1 h2 h3;go_wp2_with fail
   go_end0
   exact ⟨rfl,HN.out⟩
  ·obtain ⟨L,vB⟩:∃L,L=F.kids i:=⟨_,rfl⟩
   (have D6:0<L.length:=by rw [vB];exact wG.2 h0);(have jg:L.length<=1000:=by rw [vB];exact hl i hi);rw [<- vB] at hown hv hkc;(have EO:bF (aV F rk i)=gX (L.map (aV F rk))++[41]:=by rw [dY hw hi,<- vB];exact td _ (by rw [vB];simpa using h0));rw [EO] at hlen ⊢;have d1:((L.length:Int)==0)=false:=beq_eq_false_iff_ne.2 (by omega);obtain ⟨gk,rfl⟩:∃g,q=some ⟨g,0,none⟩:=by
    rcases hq with rfl | h
    ·obtain ⟨_,h | ⟨g,_,_,h,_⟩⟩:=hown
     ·have:=h.2;rw [aD] at this;omega
     ·rw [hv] at h;cases h
    ·exact h
   (have HLEN:Hid (∀k,pre.length+(gX ((L.take k).map (aV F rk))).length+1<=140737488355328):=fun k=>by have:=yU (L.map (aV F rk)) k;rw [<- List.map_take] at this;simp only [bg,aO,dz] at hlen;omega);(have HST:Hid (kR B b (pre++gX ((L.take 0).map (aV F rk))) w w):=by rw [Hid,List.take_zero,List.map_nil,gX,fM];exact ⟨hbl,cN _ _,Lib.OthersKept.refl _ _ _⟩);have HF:=aa hF;have fF:=aa mV;have fN:=aa vB;have kD:=aa ih;have HV:=aa hv
   have iu:Hid (∀c∈L,c<n/\rk c<rk i):=fun c hc=>hw.kid i hi c (by rw [<- vB];exact hc);clear hown hq hv ih hF mV hbl hlen h0 EO vB hnm
   go_enter Tryz.func90,Tryz.ntmps90
   go_wp2_with fail
   go_loopw [4,5,22] (fun _ _ x wr=>∃k:Nat,k<=L.length/\x=.int .i64 k/\Hid (kR B b (pre++gX ((L.take k).map (aV F rk))) w wr)) (fun _ _ x _=>L.length - (intOf x).toNat)
   case atStart=>exact ⟨0,aI _,rfl,HST.out⟩
   case round =>
    obtain ⟨k,hk,rfl,hO⟩:=hrel;obtain ⟨wo,rfl⟩:∃wo:World,wo=wr:=⟨_,rfl⟩;by_cases hlt:k<L.length
    ·have FU:L[k]? = some L[k]:=gP hlt
     have hFo:=HF.out.others hbb hO.out.ot;have hrow:=hFo.Fu (i:=i) (j:=k) (c:=L[k]) hi HV.out (by rw [<- fN.out];exact FU);have eY:=iu.out L[k] (lz hlt);(have e9:Hid (((L.take k).map (aV F rk)).length=k):=by rw [Hid,aD,dD];omega);have rD:Hid (gX ((L.take (k+1)).map (aV F rk))=gX ((L.take k).map (aV F rk))++((if k=0 then 40 else 44)::bF (aV F rk L[k]))):=by rw [Hid,List.take_add_one,FU,cm];show gX (_++[aV F rk L[k]])=_;rw [zN,e9.out]
     have kr:=aa (fun c:Int=>Dg B b (Lib.byteCells (pre++gX ((L.take k).map (aV F rk)))) c wo hO.out.bl (by rw [Lib.byteCells_length,bg];exact HLEN.out k) (hO.out.size hB));have HO:=aa hO.out;have bG:=aa hlt;have nO:=aa eY;obtain ⟨mn,hmn,gU⟩:∃mn:Int,min (k:Int) 1=mn/\((k=0/\mn=0)\/(k≠0/\mn=1)):=⟨_,rfl,by omega⟩;(have i1:(0:Int)<=(k:Int):=by omega);(have i2:(k:Int)<(L.length:Int):=by omega);clear FU hFo eY hO;generalize L[k]=c at *;rcases gU with ⟨ud,rfl⟩ | ⟨ud,rfl⟩
     ·rw [if_pos ud] at rD
      clear ud;go_wp2_with fail;refine (kr.out _).mono ?_;rintro e w2 ⟨rfl,h1,h2,h3⟩;have HS:=aa (HO.out.byte (x:=40) rfl h1 h2 h3);clear h1 h2 h3;have Kz:=(fF.out.others EN HS.out.ot).cell
      have iB:=aa (kD.out (rk c) (by have:=nO.out.2;omega) c (pre++gX ((L.take k).map (aV F rk))++[40]) w2 nO.out.1 (ah _) (HF.out.others hbb HS.out.ot) (fF.out.others EN HS.out.ot) HS.out.bl (by
       have:=HLEN.out (k+1);rw [rD.out] at this;simp only [bg,aO,dz] at this ⊢
       omega) (HS.out.size hB))
      go_wp2_with fail;refine iB.out.mono ?_;rintro e w3 ⟨rfl,h4⟩;(have HN:Hid (kR B b (pre++gX ((L.take (k+1)).map (aV F rk))) w w3):=by have:=HS.out.next h4;rw [Hid,rD.out];simpa [List.append_assoc] using this);clear h4 iB HS;go_wp2_with fail
      go_roundw
      case rel=>exact ⟨k+1,bG.out,by go_num,HN.out⟩
      case measure=>have:=bG.out;simp [intOf];omega
     ·rw [if_neg ud] at rD
      clear ud;go_wp2_with fail;refine (kr.out _).mono ?_;rintro e w2 ⟨rfl,h1,h2,h3⟩;have HS:=aa (HO.out.byte (x:=44) rfl h1 h2 h3);clear h1 h2 h3;have Kz:=(fF.out.others EN HS.out.ot).cell
      have iB:=aa (kD.out (rk c) (by have:=nO.out.2;omega) c (pre++gX ((L.take k).map (aV F rk))++[44]) w2 nO.out.1 (ah _) (HF.out.others hbb HS.out.ot) (fF.out.others EN HS.out.ot) HS.out.bl (by
       have:=HLEN.out (k+1);rw [rD.out] at this;simp only [bg,aO,dz] at this ⊢
       omega) (HS.out.size hB))
      go_wp2_with fail;refine iB.out.mono ?_;rintro e w3 ⟨rfl,h4⟩;(have HN:Hid (kR B b (pre++gX ((L.take (k+1)).map (aV F rk))) w w3):=by have:=HS.out.next h4;rw [Hid,rD.out];simpa [List.append_assoc] using this);clear h4 iB HS;go_wp2_with fail
      go_roundw
      case rel=>exact ⟨k+1,bG.out,by go_num,HN.out⟩
      case measure=>have:=bG.out;simp [intOf];omega
    ·obtain rfl:k=L.length:=by omega
     have hO:=hO.out;rw [eT] at hO;have HO:=aa hO;have kr:=aa (Dg B b (Lib.byteCells (pre++gX (L.map (aV F rk)))) 41 wo hO.bl (by rw [Lib.byteCells_length,bg];have:=HLEN.out L.length;rw [eT] at this;exact this) (hO.size hB));clear hO;go_wp2_with fail;refine kr.out.mono ?_;rintro e w2 ⟨rfl,h1,h2,h3⟩;have HS:=aa (HO.out.byte (x:=41) rfl h1 h2 h3);clear h1 h2 h3;go_wp2_with fail
     go_end0
     exact ⟨rfl,by rw [<- bZ];exact HS.out⟩
end
section
theorem G9 {c:UInt8} {s:List UInt8} (h:c∉bT):Lib.indexAny (c::s) bT<0\/1<=Lib.indexAny (c::s) bT:=by
 have hc:bT.contains c=false:=by
  cases e:bT.contains c with
  | false=>rfl
  | true=>exact absurd (BF.1 e) h
 rw [Lib.indexAny,hc];have:=Lib.indexAny_ge bT s;by_cases e:Lib.indexAny s bT = -1
 ·left;simp [e]
 ·right;rw [if_neg (by simp),if_neg (by simpa using e)];omega
theorem Dh {c:UInt8} (h1:c≠40) (h2:c≠41) (h3:c≠44) (h4:c≠59):c∉bT:=by simp [bT,h1,h2,h3,h4]
theorem vP:∀(f g:Nat) (s:List UInt8) (st:List (List RT)) (b:Bool),s.length<f->s.length<g->pz f s st b=pz g s st b
 | 0,_,s,_,_,h,_=>by omega
 | _,0,s,_,_,_,h=>by omega
 | f+1,g+1,[],st,b,_,_=>rfl
 | f+1,g+1,c::s,st,b,hf,hg=>by
  rw [aO] at hf hg
  have key:∀(s':List UInt8) (st':List (List RT)) (b':Bool),s'.length<f->s'.length<g->pz f s' st' b'=pz g s' st' b':=fun s' st' b' h1 h2=>vP f g s' st' b' h1 h2
  rw [pz,pz]
  by_cases c1:c=40
  ·rw [if_pos c1,if_pos c1,key s _ _ (by omega) (by omega)]
  rw [if_neg c1,if_neg c1]
  by_cases c2:c=41
  ·rw [if_pos c2,if_pos c2,key s _ _ (by omega) (by omega)]
  rw [if_neg c2,if_neg c2]
  by_cases c3:c=44
  ·rw [if_pos c3,if_pos c3,key s _ _ (by omega) (by omega)]
  rw [if_neg c3,if_neg c3]
  by_cases c4:c=59
  ·rw [if_pos c4,if_pos c4]
  rw [if_neg c4,if_neg c4]
  by_cases c5:b=true
  ·rw [if_pos c5,if_pos c5]
  rw [if_neg c5,if_neg c5]
  rcases G9 (s:=s) (Dh c1 c2 c3 c4) with h | h
  ·rw [if_pos h,if_pos h]
  ·rw [if_neg (by omega),if_neg (by omega)]
   have hd:((c::s).drop (Lib.indexAny (c::s) bT).toNat).length<=s.length:=by
    rw [gw,aO];omega
   exact key _ _ _ (by omega) (by omega)
def oW (s:List UInt8) (st:List (List RT)) (b:Bool):Option RT:=pz (s.length+1) s st b
theorem Uf (s:List UInt8):jM s=oW s [[]] false:=rfl
theorem Rn (s:List UInt8) (st:List (List RT)):oW (40::s) st false=oW s ([]::st) false:=by
 unfold oW;rw [pz,if_pos rfl,if_neg (by simp)];exact vP _ _ _ _ _ (by simp) (by simp)
theorem EP (s:List UInt8) (Z Y:List RT) (st:List (List RT)):oW (41::s) (Z::Y::st) true=oW s ((Y++[.node ByteArray.empty Z])::st) true:=by
 unfold oW;rw [pz,if_neg (by decide),if_pos rfl,if_neg (by simp)];exact vP _ _ _ _ _ (by simp) (by simp)
theorem Oz (s:List UInt8) (Z Y:List RT) (st:List (List RT)):oW (44::s) (Z::Y::st) true=oW s (Z::Y::st) false:=by
 unfold oW;rw [pz,if_neg (by decide),if_neg (by decide),if_pos rfl,if_neg (by simp)];exact vP _ _ _ _ _ (by simp) (by simp)
theorem Ug (r:RT) (Z:List RT):oW [59] [r::Z] true=some r:=by
 unfold oW;rw [pz,if_neg (by decide),if_neg (by decide),if_neg (by decide),if_pos rfl,if_neg (by simp)];rfl
theorem Ro {n s:List UInt8} {d:UInt8} (h0:n≠[]) (h:∀c∈n,c∉bT) (hd:d∈bT) (Z:List RT) (st:List (List RT)):oW (n++d::s) (Z::st) false=oW (d::s) ((Z++[.node ⟨n.toArray⟩ []])::st) true:=by
 have hi:Lib.indexAny (n++d::s) bT=(n.length:Nat):=by
  refine Lib.indexAny_hit (x:=d) (fun j b hj hb=>?_) (by simp) (BF.2 hd);rw [wE hj] at hb;have hm:=BI hb;cases e:bT.contains b with
  | false=>rfl
  | true=>exact absurd (BF.1 e) (h b hm)
 cases n with
 | nil=>exact absurd rfl h0
 | cons c n =>
  have hc:=h c (by simp);simp only [bT,bX,List.not_mem_nil,or_false,not_or] at hc;unfold oW;rw [bz] at hi ⊢;rw [pz,if_neg hc.1,if_neg hc.2.1,if_neg hc.2.2.1,if_neg hc.2.2.2,if_neg (by simp),if_neg (by rw [hi];omega),hi];have e1:((c::(n++d::s)).drop ((((c::n).length:Nat):Int)).toNat)=d::s:=by rw [jd,<- bz,List.drop_left]
  have e2:((c::(n++d::s)).take ((((c::n).length:Nat):Int)).toNat)=c::n:=by rw [jd,<- bz,List.take_left]
  rw [e1,e2];exact vP _ _ _ _ _ (by simp;omega) (by simp)
def l8 (r:RT):Prop:=∀s∈bW r,(s.kids≠[]->s.nm.size=0)/\(s.kids=[]->s.nm.data.toList≠[]/\∀c∈s.nm.data.toList,c∉bT)
theorem r8 {nm:ByteArray} {ks:List RT} (h:l8 (.node nm ks)) {k:RT} (hk:k∈ks):l8 k:=fun s hs =>
 h s (by rw [bW,oO];exact tY _ (gh.2 ⟨k,hk,hs⟩))
theorem He {nm:ByteArray} {ks:List RT} (h0:nm.size=0) (h1:ks≠[]) (h:∀k∈ks,l8 k):l8 (.node nm ks):=fun s hs=>by
 rw [bW,oO,bX,gh] at hs
 rcases hs with rfl | ⟨k,hk,hs⟩
 ·exact ⟨fun _=>h0,fun e=>absurd e h1⟩
 ·exact h k hk s hs
theorem Hf {nm:ByteArray} (h1:nm.data.toList≠[]) (h:∀c∈nm.data.toList,c∉bT):l8 (.node nm []):=fun s hs=>by
 rw [bW,dh,jT] at hs;subst hs
 exact ⟨fun e=>absurd rfl e,fun _=>⟨h1,h⟩⟩
theorem Hg {nm:ByteArray} (h:nm.size=0):nm=ByteArray.empty:=Rb h rfl
mutual
theorem yV:∀(r:RT),l8 r->∀(d:UInt8) (s:List UInt8) (Z:List RT) (st:List (List RT)),d∈bT->oW (bF r++d::s) (Z::st) false=oW (d::s) ((Z++[r])::st) true
 | .node nm [],h,d,s,Z,st,hd=>by
  obtain ⟨_,h1⟩:=h _ (by rw [bW];exact qj)
  obtain ⟨h1,h2⟩:=h1 rfl
  have h1:nm.data.toList≠[]:=h1
  have h2:∀c∈nm.data.toList,c∉bT:=h2
  rw [bF,Ro h1 h2 hd]
 | .node nm (k::ks),h,d,s,Z,st,hd=>by
  obtain ⟨h1,_⟩:=h _ (by rw [bW];exact qj)
  have h1:=Hg (h1 (by simp [RT.kids]))
  have h1:nm=ByteArray.empty:=h1
  rw [bF,bz,Rn,bZ,bZ]
  cases hks:ks with
  | nil =>
   rw [cH,cw,bz,cw,yV k (r8 h (by simp)) 41 _ _ _ (by decide),EP,h1];rfl
  | cons k2 yT =>
   rw [<- hks]
   have e:∀X:List UInt8,cH ks++X=44::(bF k2++cH yT++X):=fun X=>by rw [hks,cH,bz]
   rw [e,yV k (r8 h (by simp)) 44 _ _ _ (by decide),<- e,cw,List.singleton_append,KA ks (fun q hq=>r8 h (by simp [hq])) 41 _ _ _ _ (by decide),EP,h1,List.singleton_append]
theorem KA:∀(ks:List RT),(∀k∈ks,l8 k)->∀(d:UInt8) (s:List UInt8) (Z Y:List RT) (st:List (List RT)),d∈bT->oW (cH ks++d::s) (Z::Y::st) true=oW (d::s) ((Z++ks)::Y::st) true
 | [],_,d,s,Z,Y,st,_=>by rw [cH,cw,fM]
 | k::ks,h,d,s,Z,Y,st,hd=>by
  rw [cH,bz,Oz,bZ]
  have hk:=h k (by simp)
  have ih:=KA ks (fun q hq=>h q (by simp [hq])) d s (Z++[k]) Y st hd
  rw [bZ,List.singleton_append] at ih
  rw [<- ih]
  cases ks with
  | nil=>rw [cH,cw,yV k hk d _ _ _ hd]
  | cons k2 yT=>rw [cH,bz,yV k hk 44 _ _ _ (by decide)]
end
mutual
theorem zO:∀(r:RT),l8 r->aK r<=(bF r).length/\∀s∈dr r,s.size<=(bF r).length
 | .node nm [],h=>by
  obtain ⟨_,h1⟩:=h _ (by rw [bW];exact qj)
  have h1:nm.data.toList≠[]:=(h1 rfl).1
  have hl:0<nm.data.toList.length:=wG.2 h1
  rw [aK,aU,bF,dr,dL]
  refine ⟨by omega,fun s hs=>?_⟩
  rw [jT.1 hs,size_data];exact ah _
 | .node nm (k::ks),h=>by
  obtain ⟨h1,_⟩:=h _ (by rw [bW];exact qj)
  have h1:nm.size=0:=h1 (by simp [RT.kids])
  obtain ⟨a1,a2⟩:=zO k (r8 h (by simp))
  obtain ⟨b1,b2⟩:=Hh ks (fun q hq=>r8 h (by simp [hq]))
  rw [aK,aU,bF,dr,dL,aO,bg,bg]
  refine ⟨by simp;omega,fun s hs=>?_⟩
  rcases bX.1 hs with rfl | hs
  ·omega
  ·rcases cu.1 hs with hs | hs
   ·have:=a2 s hs;omega
   ·have:=b2 s hs;omega
theorem Hh:∀(ks:List RT),(∀k∈ks,l8 k)->aU ks<=(cH ks).length/\∀s∈dL ks,s.size<=(cH ks).length
 | [],_=>⟨by rw [aU];exact aI _,fun s hs=>by rw [dL] at hs;cases hs⟩
 | k::ks,h=>by
  obtain ⟨a1,a2⟩:=zO k (h k (by simp))
  obtain ⟨b1,b2⟩:=Hh ks (fun q hq=>h q (by simp [hq]))
  rw [aU,cH,dL,aO,bg]
  refine ⟨by omega,fun s hs=>?_⟩
  rcases cu.1 hs with hs | hs
  ·have:=a2 s hs;omega
  ·have:=b2 s hs;omega
end
theorem vQ {r:RT} (h:l8 r):jM (bF r++[59])=some r:=by
 rw [Uf,yV r h 59 [] [] [] (by decide),cw,Ug]
theorem OA {r q:RT} (hr:l8 r) (hq:l8 q) (e:bF r=bF q):r=q:=by
 have h:=vQ hr;rw [e,vQ hq] at h;exact (Option.some.inj h).symm
def pT:List (List RT)->Bool->List UInt8
 | [],_=>[]
 | [Z],_=>match Z with
  | []=>[]
  | r::_=>bF r
 | Z::Y::st,b=>pT (Y::st) false++(if Z=[] then [40] else gX Z++(if b then [] else [44]))
def aaD (st:List (List RT)) (b:Bool):Prop:=(∀Z∈st,∀r∈Z,l8 r)/\st≠[]/\(b=true->∀Z,st.head? = some Z->Z≠[])/\(∀Z,st.getLast? = some Z->Z.length<=1/\((st.length≠1\/b=false)->Z=[]))
theorem Rp {Z Y:List RT} {st:List (List RT)} (h0:Z≠[]) (hl:st=[]->Y=[]):pT ((Y++[.node ByteArray.empty Z])::st) true=pT (Z::Y::st) true++[41]:=by
 cases st with
 | nil =>
  rw [hl rfl];simp only [pT,cw,if_neg h0];rw [td _ h0];simp
 | cons X st =>
  have hne:Y++[RT.node ByteArray.empty Z]≠[]:=by simp
  simp only [pT,if_neg h0,if_neg hne,if_true,zN,td _ h0];by_cases hY:Y=[]
  ·subst hY;simp [gX]
  ·have:Y.length≠0:=by simpa using hY
   simp [hY]
theorem KB:∀(s:List UInt8) (n:Nat),Lib.indexAny s bT=(n:Int)->∀x∈s.take n,x∉bT
 | [],n,h,x,hx=>by simp at hx
 | c::s,0,_,x,hx=>by simp at hx
 | c::s,n+1,h,x,hx=>by
  rw [Lib.indexAny] at h
  cases hc:bT.contains c with
  | true=>rw [hc,if_pos rfl] at h;omega
  | false =>
   rw [hc,if_neg (by simp)] at h
   by_cases e:Lib.indexAny s bT = -1
   ·rw [e] at h;simp at h;omega
   ·rw [if_neg (by simpa using e)] at h
    rw [wI,bX] at hx
    rcases hx with rfl | hx
    ·intro hm;rw [BF.2 hm] at hc;cases hc
    ·exact KB s n (by omega) x hx
theorem S5:∀(s:List UInt8) (n:Nat),Lib.indexAny s bT=(n:Int)->n<s.length
 | [],n,h=>by rw [Lib.indexAny] at h;omega
 | c::s,0,_=>by simp
 | c::s,n+1,h=>by
  rw [Lib.indexAny] at h
  cases hc:bT.contains c with
  | true=>rw [hc,if_pos rfl] at h;omega
  | false =>
   rw [hc,if_neg (by simp)] at h
   by_cases e:Lib.indexAny s bT = -1
   ·rw [e] at h;simp at h;omega
   ·rw [if_neg (by simpa using e)] at h
    have:=S5 s n (by omega)
    rw [aO];omega
theorem L8 (s:ByteArray) (k n:Nat):(⟨((s.data.toList.drop k).take n).toArray⟩:ByteArray)=s.extract k (k+n):=by
 apply fH;rw [wA];simp [Nat.add_sub_cancel_left]
theorem vR:∀(f:Nat) (s:List UInt8) (st:List (List RT)) (b:Bool) (r:RT),s.length<f->aaD st b->pz f s st b=some r->pT st b++s=bF r++[59]/\l8 r
 | 0,_,_,_,_,h,_,_=>by omega
 | f+1,[],st,b,r,_,_,e=>by cases e
 | f+1,c::s,st,b,r,hf,hI,e=>by
  rw [aO] at hf
  obtain ⟨i1,i2,i3,i4⟩:=hI
  rw [pz] at e
  by_cases c1:c=40
  ·rw [if_pos c1] at e
   cases b with
   | true=>rw [if_pos rfl] at e;cases e
   | false =>
    rw [if_neg (by simp)] at e
    obtain ⟨h1,h2⟩:=vR f s ([]::st) false r (by omega) ⟨fun Z hZ=>by
     rcases bX.1 hZ with rfl | h
     ·intro r hr;cases hr
     ·exact i1 Z h,by simp,(fun h=>by cases h),fun Z hZ=>by
      cases st with
      | nil=>exact absurd rfl i2
      | cons Y st =>
       rw [tV] at hZ
       have:=i4 Z hZ
       exact ⟨this.1,fun _=>this.2 (.inr rfl)⟩⟩ e
    refine ⟨?_,h2⟩
    rw [<- h1,c1]
    cases st with
    | nil=>exact absurd rfl i2
    | cons Y st=>simp [pT]
  rw [if_neg c1] at e
  by_cases c2:c=41
  ·rw [if_pos c2] at e
   by_cases hb:b=false\/st.length=1
   ·rw [if_pos hb] at e;cases e
   ·rw [if_neg hb] at e
    have hb1:b=true:=by cases b<;>simp at hb ⊢
    subst hb1
    match st,i2,hb with
    | [],h,_=>exact absurd rfl h
    | [Z],_,h=>exact absurd (.inr rfl) h
    | Z::Y::st,_,_ =>
     have hZ:Z≠[]:=i3 rfl Z rfl
     have hY:st=[]->Y=[]:=fun h=>by subst h;exact (i4 Y rfl).2 (.inl (by simp))
     rw [show Rh (Z::Y::st)=(Y++[.node ByteArray.empty Z])::st from rfl] at e
     obtain ⟨h1,h2⟩:=vR f s ((Y++[.node ByteArray.empty Z])::st) true r (by omega) ⟨fun X hX r hr=>by
      rcases bX.1 hX with rfl | h
      ·rcases cu.1 hr with h | h
       ·exact i1 Y (by simp) r h
       ·rw [jT.1 h];exact He rfl hZ fun k hk=>i1 Z (by simp) k hk
      ·exact i1 X (by simp [h]) r hr,by simp,(fun _ X hX=>by cases hX;simp),fun X hX=>by
       cases st with
       | nil =>
        cases hX;rw [hY rfl]
        exact ⟨by simp,fun h=>by simp at h⟩
       | cons W st =>
        rw [tV] at hX
        have:=i4 X (by rw [tV,tV];exact hX)
        exact ⟨this.1,fun _=>this.2 (.inl (by simp))⟩⟩ e
     refine ⟨?_,h2⟩
     rw [<- h1,Rp hZ hY,c2];simp
  rw [if_neg c2] at e
  by_cases c3:c=44
  ·rw [if_pos c3] at e
   by_cases hb:b=false\/st.length=1
   ·rw [if_pos hb] at e;cases e
   ·rw [if_neg hb] at e
    have hb1:b=true:=by cases b<;>simp at hb ⊢
    subst hb1
    match st,i2,hb with
    | [],h,_=>exact absurd rfl h
    | [Z],_,h=>exact absurd (.inr rfl) h
    | Z::Y::st,_,_ =>
     have hZ:Z≠[]:=i3 rfl Z rfl
     obtain ⟨h1,h2⟩:=vR f s (Z::Y::st) false r (by omega) ⟨i1,by simp,(fun h=>by cases h),fun X hX=>⟨(i4 X hX).1,fun _=>(i4 X hX).2 (.inl (by simp))⟩⟩ e
     refine ⟨?_,h2⟩
     rw [<- h1,c3]
     simp [pT,hZ]
  rw [if_neg c3] at e
  by_cases c4:c=59
  ·rw [if_pos c4] at e
   by_cases hb:b=false\/st.length≠1\/s≠[]
   ·rw [if_pos hb] at e;cases e
   ·rw [if_neg hb] at e
    have hb1:b=true:=by cases b<;>simp at hb ⊢
    have hs:s=[]:=by simp at hb;exact hb.2.2
    have hl:st.length=1:=by simp at hb;exact hb.2.1
    subst hb1;subst hs
    match st,hl with
    | [Z],_ =>
     have hZ:Z≠[]:=i3 rfl Z rfl
     cases Z with
     | nil=>exact absurd rfl hZ
     | cons q Z =>
      cases e
      rw [c4]
      exact ⟨rfl,i1 (q::Z) qj q qj⟩
  rw [if_neg c4] at e
  by_cases c5:b=true
  ·rw [if_pos c5] at e;cases e
  rw [if_neg c5] at e
  have hb:b=false:=by cases b<;>simp at c5 ⊢
  subst hb
  by_cases c6:Lib.indexAny (c::s) bT<0
  ·rw [if_pos c6] at e;cases e
  rw [if_neg c6] at e
  have hn:=(G9 (s:=s) (Dh c1 c2 c3 c4)).resolve_left c6
  obtain ⟨n,hn2⟩:∃n:Nat,Lib.indexAny (c::s) bT=(n:Int):=⟨(Lib.indexAny (c::s) bT).toNat,by omega⟩
  rw [hn2,jd] at e
  have hno:∀x∈(c::s).take n,x∉bT:=KB _ n hn2
  match st,i2 with
  | Z::st,_ =>
   have hne:(c::s).take n≠[]:=by
    cases n with
    | zero=>omega
    | succ n=>simp
   rw [show ∀q,WG q (Z::st)=(Z++[q])::st from fun _=>rfl] at e
   obtain ⟨h1,h2⟩:=vR f ((c::s).drop n) ((Z++[.node ⟨((c::s).take n).toArray⟩ []])::st) true r (by rw [gw,aO];omega) ⟨fun X hX r hr=>by
     rcases bX.1 hX with rfl | h
     ·rcases cu.1 hr with h | h
      ·exact i1 Z (by simp) r h
      ·rw [jT.1 h];exact Hf (by simpa using hne) (by simpa using hno)
     ·exact i1 X (by simp [h]) r hr,by simp,(fun _ X hX=>by cases hX;simp),fun X hX=>by
      cases st with
      | nil =>
       cases hX;rw [(i4 Z rfl).2 (.inr rfl)]
       exact ⟨by simp,fun h=>by simp at h⟩
      | cons W st =>
       rw [tV] at hX
       have:=i4 X (by rw [tV];exact hX)
       exact ⟨this.1,fun _=>this.2 (.inr rfl)⟩⟩ e
   refine ⟨?_,h2⟩
   rw [<- h1]
   have ht:c::s=(c::s).take n++(c::s).drop n:=(qm _ _).symm
   cases st with
   | nil =>
    rw [(i4 Z rfl).2 (.inr rfl)]
    simp only [pT,cw,bF]
    exact ht
   | cons W st =>
    have CR:Z++[RT.node ⟨((c::s).take n).toArray⟩ []]≠[]:=by simp
    simp only [pT,if_neg CR,if_true,zN,bF,fM]
    by_cases hZ:Z=[]
    ·subst hZ;simp [gX]
    ·have hz:Z.length≠0:=by simpa using hZ
     simp [hZ]
theorem ER {s:List UInt8} {r:RT} (h:jM s=some r):s=bF r++[59]/\l8 r:=by
 obtain ⟨h1,h2⟩:=vR _ s [[]] false r (qz _) ⟨(fun Z hZ r hr=>by simp at hZ;subst hZ;cases hr),by simp,(fun h=>by cases h),fun Z hZ=>by cases hZ;simp⟩ h;exact ⟨h1,h2⟩
theorem yX {s:List UInt8} {r:RT} (h:jM s=some r):(flat r).ps.length<=s.length/\(flat r).ns.length<=s.length/\∀k,(gs (flat r).ns k).size<=s.length:=by
 obtain ⟨h1,h2⟩:=ER h;obtain ⟨h3,h4⟩:=zO r h2;have hl:s.length=(bF r).length+1:=by rw [h1];simp
 refine ⟨by rw [nT];omega,by rw [r6];omega,fun k=>?_⟩;by_cases hk:k<(dr r).length
 ·have hm:gs (dr r) k∈dr r:=by simp [gs,hk]
  have:=h4 _ hm;show (gs (dr r) k).size<=_;omega
 ·have:gs (flat r).ns k=ByteArray.empty:=by
   show (dr r).getD k ByteArray.empty=_
   simp [show (dr r).length<=k by omega]
  rw [this];exact aI _
end
end Go.Proofs.YthgabkgmkolobaaGreat
