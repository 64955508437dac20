/- Appending one value to an owned list, inside a fence: where the new list lies. The .. -/
import Derived.Test.YthgabkgmkolobaaGreatQ35
set_option maxRecDepth 100000
set_option maxHeartbeats 2000000
namespace Go.Proofs.YthgabkgmkolobaaGreat
section
open Go Go.RowKit Go.Deep
theorem ru {F:Fence} {nF:Nat} {P:Program} {ops:Array Oper} {rest:List Oper} {o:Oper} {a:Act} {Q:Exit->Act->World->Prop} (W:World) (hgd:o.guard=none) (s x:Operand) (t:TypeId) (ho:o.op=.call { callee:=.builtin .append,args:=#[s,x],argTypes:=#[t,t] })
  (base:Nat) (e:TypeId) (z:Value) (bytes:Nat) (ht:P.underlying t=some (.slice e)) (hinfo:(P.info? e).map (fun i=>(i.zero,i.size,i.bytes))=some (some z,1,bytes))
  (hz1:z.cells.size=1) (gL:bytes<=64) {v:Value} {vs:List Value} (hown:ax base e W v vs) (hs:a.eval s=v) (u:Value)
  (hx:a.eval x=.slice (some ⟨W.heap.size,0,none⟩) 1 1) (h1:u.oneCell'=true) (k:Nat) (xI:vs.length=k) (hn:k<=1000000) (hbase:base<=W.heap.size)
  (h:∀g cap w',ax base e w' (.slice (some ⟨g,0,none⟩) (k+1) cap) (vs++[u])->W.grownBy w' v.ownBlock->(v.ownBlock=some g\/W.heap.size<=g)->wpListIn F nF P ops Q rest (a.put o.dst (.slice (some ⟨g,0,none⟩) (k+1) cap)) w') :
  wpListIn F nF P ops Q (o::rest) a (W.alloc (.cells #[u] e)):=by
 subst xI;obtain ⟨i,hi,hzz⟩:=iq.1 hinfo;simp only [iM] at hzz;obtain ⟨hz,hs1,hb⟩:=hzz;refine wpListIn_plain hgd fun K hK'=>?_;obtain ⟨g,cap,w',hr,h2,h3,h4,h5⟩:=run_append_lies (P:=P) (W.alloc (.cells #[u] e)) t o.type base e i z 1 bytes ht hi hz hs1 hb hz1 (by omega) v vs.length vs (hown.alloc _) ⟨W.heap.size,0,none⟩ 1 1 [u] rfl (cell_one_new _ _ _) (by simpa using h1) (by omega)
  (by unfold maxLen;omega) (by have:(vs.length+1)*bytes<=(vs.length+1)*64:=mS _ gL;omega) (by simp;omega) _ rfl
 unfold Oper.wpIn;refine ⟨by simp [Oper.about,ho,resolve,Target.leads,Sem.run_pure],?_⟩;rw [Oper.semAt_plain F _ _ (by rw [ho];intro c hc';cases hc')];simp [execOp,ho,resolve,invoke,builtin,hs,hx,hr,Result.andThen];exact hK' _ _ (h g cap w' (by unfold ax;rw [bg];exact h2) (jE h3) (h4.imp id fun e=>by rw [e,aL];omega))
end
section
open Go.RowKit Go.Shelf Go.Deep Go.Sort
theorem JO (w:World) (mp:Option Addr) (n c:Nat):Calls Tryz.prog 164 #[.slice mp n c] w fun e w'=>e=.returned (.func (.func 215) #[] #[.pointer (some ⟨w.heap.size,0,none⟩)])/\w'=w.alloc (.cells #[.slice mp n c] 22):=by
 go_enter Tryz.func164,Tryz.ntmps164
 go_wp2_with fail
 go_ret
 exact ⟨by simp,rfl⟩
abbrev Dv:=Nat×Value×Value
def XR (acw:List ByteArray) (x:Dv) (L:Nat->Prop) (W:World):Prop:=(1<=x.1/\x.1<2 ^ (acw.length - 1))/\av L W x.2.1 (dA acw x.1)/\av L W x.2.2 (dB acw x.1)
theorem Uv {acw:List ByteArray} {B:Nat} (x:Dv) (L:Nat->Prop):OwnFrom B (fun (_:Unit) W=>XR acw x L W):=by
 intro s X Y row h hg hr;obtain ⟨h1,h2,h3⟩:=h;exact ⟨h1,aA.grown h2 hg fun r e=>(hr r e).2,aA.grown h3 hg fun r e=>(hr r e).2⟩
theorem IP:∀q:Nat,q<8->bits BinOp.and IntKind.i64 ((q:Nat):Int) 1=((q:Nat):Int) % 2:=by decide +kernel
theorem KV (k i:Nat):(((k / 2 ^ i:Nat):Int)) % 2=if k.testBit i then 1 else 0:=by
 rw [Nat.testBit_eq_decide_div_mod_eq];generalize k / 2 ^ i=q;by_cases h:q % 2=1
 ·rw [decide_eq_true h,if_pos rfl];omega
 ·rw [decide_eq_false h,if_neg (by decide)];omega
structure Dup (B:Nat) (W:World) (a b:Value) (A C:List ByteArray):Prop where
 ao:ax B 9 W a (A.map Value.string)
 bo:ax B 9 W b (C.map Value.string)
 ap:∀g,a.ownBlock=some g->b.ownBlock≠some g
theorem Dup.XS {B:Nat} {W W':World} {a b:Value} {A C:List ByteArray} {g cap k:Nat} {s:ByteArray} (h:Dup B W a b A C) (ho:ax B 9 W' (.slice (some ⟨g,0,none⟩) k cap) (A.map Value.string++[.string s])) (hg:W.grownBy W' a.ownBlock) (eZ:a.ownBlock=some g\/W.heap.size<=g):Dup B W' (.slice (some ⟨g,0,none⟩) k cap) b (A++[s]) C:=by
 refine ⟨by rw [cm];exact ho,h.bo.iC fun x hx=>hg.block x (aG h.bo hx).2 fun e=>h.ap x e.symm hx,fun x hx hx2=>?_⟩;have hx:some g=some x:=hx;injection hx with hx;subst hx;rcases eZ with e | e
 ·exact h.ap g e hx2
 ·have:=(aG h.bo hx2).2;omega
theorem Dup.XT {B:Nat} {W W':World} {a b:Value} {A C:List ByteArray} {g cap k:Nat} {s:ByteArray} (h:Dup B W a b A C) (ho:ax B 9 W' (.slice (some ⟨g,0,none⟩) k cap) (C.map Value.string++[.string s])) (hg:W.grownBy W' b.ownBlock) (eZ:b.ownBlock=some g\/W.heap.size<=g):Dup B W' a (.slice (some ⟨g,0,none⟩) k cap) A (C++[s]):=by
 refine ⟨h.ao.iC fun x hx=>hg.block x (aG h.ao hx).2 fun e=>h.ap x hx e.symm,by rw [cm];exact ho,fun x hx hx2=>?_⟩;have hx2:some g=some x:=hx2;injection hx2 with hx2;subst hx2;rcases eZ with e | e
 ·exact h.ap g hx e
 ·have:=(aG h.ao hx).2;omega
section
variable {w0 w9:World} {acw:List ByteArray} {Bt N:Nat}
theorem RR (m:Nat) {mp:Option Addr} {mc:Nat} (h2:2<=acw.length) (h4:acw.length<=4) (hB:w0.heap.size<=Bt)
  (hb:w9.cell? ⟨Bt,0,none⟩=some (.slice mp acw.length mc)) (IQ:av Any w0 (.slice mp acw.length mc) acw) (hN:2 ^ (acw.length - 1) - 1<=N) :
  Xq Fence.wide m Tryz.prog 215 #[.pointer (some ⟨Bt,0,none⟩)] (fun x:Dv=>#[x.2.1,x.2.2]) (XR acw) (fun _ _=>False) (fun xs=>xs.map (·.1)=List.range' 1 (2 ^ (acw.length - 1) - 1)) N w0 w9 (fun b=>b=Bt):=by
 intro l J W hW hL9 hW9 hA hY hJ;obtain ⟨Tn,kt1⟩:=hL9 Bt rfl;have wB:=(fG (a:=⟨Bt,0,none⟩) kt1).trans hb;obtain ⟨nb,no,rfl,hc0⟩:=cA IQ (k:=0) (by omega);obtain ⟨M,hM⟩:∃M,M=2 ^ (acw.length - 1):=⟨_,rfl⟩;have O7:M<=8:=by rw [hM];exact x9 (n:=2) (by decide) (show acw.length - 1<=3 by omega)
 have hM1:1<=M:=by rw [hM];exact Nat.one_le_two_pow
 have Tp:wrap64 ((2:Int) ^ (acw.length - 1))=(M:Int):=by
  have:(2:Int) ^ (acw.length - 1)=((2 ^ (acw.length - 1):Nat):Int):=by simp
  rw [this,<- hM];unfold wrap64;omega
 have Wz:acw.length<=mc:=by obtain ⟨_,_,e,h,_⟩:=aA.open IQ;injection e with e1 e2 e3;omega
 have nO:Hid (∀i,i<acw.length->∀W,Up w0 W->W.cell? ⟨nb,no+i,none⟩=some (.string (gs acw i))):=fun i hi W hW=>hW.cell (aA.Z2 IQ hi);rw [<- hM] at hN;have O8:Hid (J [] (fun b=>b=Bt) W):=hJ;have HY:=aa hY;have HA:=aa hA;have HW:=aa hW;have WQ:=aa wB;have HL:Hid (Bt<W.heap.size):=mm Tn hW9;have HM:=aa hM;have HN:=aa hN;have HB:=aa hB;have XU:Hid (M<=8):=O7;clear hW hL9 hW9 hA hY hJ kt1 Tn IQ hc0 hb hM hN hB;refine callsIn_of_wp Tryz.func215 rfl trivial ?_ rfl
 simp only [Tryz.ntmps215,fo,aO,dz,Nat.reduceAdd,Nat.reduceSub,ic,ig,fk,wC,cw,bz];gi_wp2
 gi_loopw [3,4,5,6,7] (fun i _ _ _ _ wr=>∃(k:Nat) (ys:List Dv) (L':Nat->Prop),1<=k/\k<=M/\i=.int .i64 k/\Hid (ys.map (·.1)=List.range' 1 (k - 1))/\Hid (J ys L' wr)/\Hid (Below w0.heap.size w0 wr)/\Hid (∀b,L' b->w0.heap.size<=b/\b<wr.heap.size)/\Hid (L' Bt)/\Hid (wr.cell? ⟨Bt,0,none⟩=some (.slice (some ⟨nb,no,none⟩) acw.length mc))) (fun i _ _ _ _ _=>M - (intOf i).toNat)
 case atStart=>exact ⟨1,[],_,ah _,hM1,rfl,rfl,O8.out,HW.out,fun b hb=>by rw [hb];exact ⟨HB.out,HL.out⟩,rfl,WQ.out⟩
 case round =>
  obtain ⟨k,ys,L',hk1,hk,rfl,hys,hJk,O9,BZ,hLB,hcB⟩:=hrel;obtain ⟨wo,rfl⟩:∃wo:World,wo=wr:=⟨_,rfl⟩;have hcb:=hcB.out;have hn0:=nO.out 0 (by omega) wo O9.out;rw [nA] at hn0;have i0:(0:Int)<=(k:Int):=by omega
  by_cases hlt:k<M
  ·have i1:(k:Int)<(M:Int):=by omega
   (have i2:(k:Int)<8:=by omega);(have i3:0<acw.length:=by omega);(have i4:(0:Int)<(acw.length:Int):=by omega);(have i5:(1:Int)<=(acw.length:Int):=by omega);(have i6:1<=acw.length:=by omega);(have i7:¬mc=1:=by omega);have i8:acw.length<=mc:=Wz;have bw:=Up.alloc wo (.cells #[.string (gs acw 0)] 9);have hD0:Dup wo.heap.size (wo.alloc (.cells #[.string (gs acw 0)] 9)) (.slice (some ⟨wo.heap.size,0,none⟩) 1 1) (.slice none 0 0) [gs acw 0] []:=⟨Ic wo _ _ _ (ah _),ax.nil _ _ _,fun g _ e=>by cases e⟩;have Tq:=aa hD0;have b9:=aa bw;have acr:=bw.cell hcb
   clear hD0 bw;gi_wp2;generalize wo.alloc (.cells #[.string (gs acw 0)] 9)=w1 at *;simp only [Tp];clear Tp
   gi_loopw [4,5,6,7,23] (fun a b _ _ i wr=>∃j:Nat,j<=acw.length - 1/\i=.int .i64 j/\Hid (Dup wo.heap.size wr a b (gs acw 0::aZ (fun i=>!k.testBit i) acw.tail j) (aZ (fun i=>k.testBit i) acw.tail j))/\Hid (Up wo wr)) (fun _ _ _ _ i _=>acw.length - 1 - (intOf i).toNat)
   case atStart=>exact ⟨0,aI _,rfl,Tq.out,b9.out⟩
   case round =>
    obtain ⟨j,hj,rfl,hD,hU⟩:=hrel;obtain ⟨wi,rfl⟩:∃wi:World,wi=wr:=⟨_,rfl⟩;(have j0:(0:Int)<=(j:Int):=by omega);by_cases hlj:j<acw.length - 1
    ·have xG:=nO.out (j+1) (by omega) wi (O9.out.trans (hU.out.mono O9.out.size))
     rw [show no+(j+1)=no+1+j by omega] at xG;(have j1:(j:Int)<((acw.length - 1:Nat):Int):=by omega);(have j2:(j:Int)<4:=by omega);(have vY:bits BinOp.and IntKind.i64 ((k:Int) / 2 ^ j) 1=if k.testBit j then 1 else 0:=by (have e:(k:Int) / 2 ^ j=((k / 2 ^ j:Nat):Int):=by simp);have:k / 2 ^ j<=k:=Nat.div_le_self _ _;rw [e,IP _ (by omega),KV]);have jN:=aa (jy (fun i=>!k.testBit i) acw.tail j);have ct:=aa (jy (fun i=>k.testBit i) acw.tail j);have uI:Hid (acw.tail.getD j default=gs acw (j+1)):=by
      unfold Hid gs;cases acw with
      | nil=>simp at hlj
      | cons a l=>rfl
     have CH:=aa hlj;(have yO:Hid (((gs acw 0::aZ (fun i=>!k.testBit i) acw.tail j).map Value.string).length<=1000000/\((aZ (fun i=>k.testBit i) acw.tail j).map Value.string).length<=1000000):=by have a1:=kE (fun i=>!k.testBit i) acw.tail j;have a2:=kE (fun i=>k.testBit i) acw.tail j;unfold Hid;rw [aD,aD,aO];omega);have dm:Hid (wo.heap.size<=wi.heap.size):=hU.out.size;obtain ⟨ap,ac,rfl,-⟩:=hD.out.ao.form rfl;obtain ⟨bp,bc,rfl,-⟩:=hD.out.bo.form rfl;rw [uI.out] at jN ct;clear hlj;cases hb:k.testBit j
     ·rw [hb] at vY jN ct
      have vY:bits BinOp.and IntKind.i64 ((k:Int) / 2 ^ j) 1=0:=vY;have jN:Hid (aZ (fun i=>!k.testBit i) acw.tail (j+1)=aZ (fun i=>!k.testBit i) acw.tail j++[gs acw (j+1)]):=jN.out;(have ct:Hid (aZ (fun i=>k.testBit i) acw.tail (j+1)=aZ (fun i=>k.testBit i) acw.tail j):=by unfold Hid;rw [ct.out];simp);clear hb
      gi_wp2_with (gi_at_builtin;refine ru wi rfl _ _ 22 rfl wo.heap.size 9 (.string ⟨#[]⟩) 16 Tryz.underlying22 Tryz.jF rfl (by decide) hD.out.ao rfl (.string (gs acw (j+1))) rfl rfl _ rfl yO.out.1 dm.out ?_;intro g8 jl w8 dJ eN iV;have IU:=aa (hD.out.XS dJ eN iV);have qP:=aa (hD.out.ao.dX eN dm.out);clear dJ eN iV)
      go_roundw
      case rel=>exact ⟨j+1,by have:=CH.out;omega,by go_num,by rw [jN.out,ct.out];have q:=IU.out;simp only [aD,aO] at q;exact q,fc (show Below wo.heap.size wo wi from hU.out) qP.out⟩
      case measure=>have:=CH.out;simp [intOf];omega
     ·rw [hb] at vY jN ct
      have vY:bits BinOp.and IntKind.i64 ((k:Int) / 2 ^ j) 1=1:=vY;(have jN:Hid (aZ (fun i=>!k.testBit i) acw.tail (j+1)=aZ (fun i=>!k.testBit i) acw.tail j):=by unfold Hid;rw [jN.out];simp);have ct:Hid (aZ (fun i=>k.testBit i) acw.tail (j+1)=aZ (fun i=>k.testBit i) acw.tail j++[gs acw (j+1)]):=ct.out;clear hb
      gi_wp2_with (gi_at_builtin;refine ru wi rfl _ _ 22 rfl wo.heap.size 9 (.string ⟨#[]⟩) 16 Tryz.underlying22 Tryz.jF rfl (by decide) hD.out.bo rfl (.string (gs acw (j+1))) rfl rfl _ rfl yO.out.2 dm.out ?_;intro g8 jl w8 dJ eN iV;have IU:=aa (hD.out.XT dJ eN iV);have qP:=aa (hD.out.bo.dX eN dm.out);clear dJ eN iV)
      go_roundw
      case rel=>exact ⟨j+1,by have:=CH.out;omega,by go_num,by rw [jN.out,ct.out];have q:=IU.out;simp only [aD,aO] at q;exact q,fc (show Below wo.heap.size wo wi from hU.out) qP.out⟩
      case measure=>have:=CH.out;simp [intOf];omega
    ·obtain rfl:j=acw.length - 1:=by omega
     obtain ⟨ap,ac,hae,-⟩:=hD.out.ao.form rfl;obtain ⟨bp,bc,B4,-⟩:=hD.out.bo.form rfl;subst hae;subst B4;obtain ⟨va,XV⟩:∃va,va=Value.slice ap ((gs acw 0::aZ (fun i=>!k.testBit i) acw.tail (acw.length - 1)).map Value.string).length ac:=⟨_,rfl⟩;obtain ⟨vb,hvb⟩:∃vb,vb=Value.slice bp ((aZ (fun i=>k.testBit i) acw.tail (acw.length - 1)).map Value.string).length bc:=⟨_,rfl⟩;rw [<- XV,<- hvb] at hD
     have hj7:J ys (fun b=>L' b\/(wo.heap.size<=b/\b<wi.heap.size)) wi:=HA.out ys L' _ wo wi hJk.out ⟨hU.out.os,hU.out.tape,hU.out.output,hU.out.size,fun b hb _=>bH hU.out b hb,fun b hb=>hb.imp (fun e=>⟨e,(BZ.out b e).2⟩) id⟩;have OM:XR acw (k,va,vb) (fun b=>L' b\/(wo.heap.size<=b/\b<wi.heap.size)) wi:=⟨⟨hk1,by rw [<- HM.out];exact hlt⟩,hD.out.ao.strs.sub fun b hb hl=>.inr ⟨hb,hl⟩,hD.out.bo.strs.sub fun b hb hl=>.inr ⟨hb,hl⟩⟩;have XW:=congrArg List.length hys.out;rw [aD,List.length_range'] at XW;have hwi:=hU.out.size;have hwo:=O9.out.size
     obtain ⟨fn,tmps,assign,body,hy,hR⟩:=HY.out ys (k,va,vb) _ wi hj7 OM (O9.out.trans (hU.out.mono hwo)) (fun b hb=>by
      rcases hb with hb | hb
      ·have:=BZ.out b hb;omega
      ·omega) (by have:=HN.out;omega)
     have HYS:Hid ((ys++[(k,va,vb)]).map (·.1)=List.range' 1 k):=by
      unfold Hid;rw [cm,hys.out];have:k=(k - 1)+1:=by omega
      conv=>rhs;rw [this,List.range'_concat]
      simp;omega
     have yw:Hid (∀b,(L' b\/(wo.heap.size<=b/\b<wi.heap.size))->w0.heap.size<=b/\b<wi.heap.size):=fun b hb=>by
      rcases hb with hb | hb
      ·have:=BZ.out b hb;omega
      ·omega
     have aaS:=hU.out.cell hcb;have aaT:=aa aaS;have bG:=aa hlt;simp only at hy;clear hj7 OM XW hD hwi hwo Tq;rw [<- XV,<- hvb];clear XV hvb;gi_wp2
     first | refine ⟨trivial,fun h=>(by cases h),?_⟩ | refine ⟨fun h=>(by cases h),?_⟩
     refine hR.mono ?_;rintro e W7 ⟨rfl,hj8,qP,hs8,hk8⟩;have H8:=aa (⟨hj8,qP,hs8,hk8⟩:_/\_/\_/\_);clear hj8 qP hs8 hk8 hR;gi_wp2
     go_roundw
     case rel=>exact ⟨k+1,ys++[(k,va,vb)],_,by omega,bG.out,by go_num,HYS.out,H8.out.1,H8.out.2.1,fun b hb=>by have h1:=yw.out b hb;have h2:=H8.out.2.2.1;omega,.inl hLB.out,(fG (a:=⟨Bt,0,none⟩) (H8.out.2.2.2 Bt (.inl (.inl hLB.out)))).trans aaT.out⟩
     case measure=>have:=bG.out;simp [intOf];omega
  ·obtain rfl:k=M:=by omega
   gi_wp2
   go_end0
   exact ⟨⟨_,rfl⟩,ys,L',by rw [hys.out,HM.out],hJk.out⟩
end
end
end Go.Proofs.YthgabkgmkolobaaGreat
