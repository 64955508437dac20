/- The contract of layer 31's reference's number. The contract of layer 31's reference's .. -/
import Derived.ArgAppend
import Derived.Test.YthgabkgmkolobaaGreatQ12
set_option maxRecDepth 100000
set_option maxHeartbeats 4000000
namespace Go.Proofs.YthgabkgmkolobaaGreat
section
open Go.RowKit Go.Deep
def NbPost (w:World) (r:RT) (e:Ending) (w':World):Prop:=Up w w'/\∃v,e=.returned v/\aI (fun b=>w.heap.size<=b) w' v (flat r)
theorem nil_app (r:RT) (p:Int):(⟨[],[]⟩:az).app r p=⟨mY r 0 p,gJ r⟩:=by simp [az.app]
theorem LN (S:Nat->Prop) (w:World) (v:Value) (r:RT) (h:fP S w r v) (hs:aU r<=90000):Calls Tryz.prog 205 #[v] w (NbPost w r):=by
 have cE:=Up.alloc w (.cells #[.slice none 0 0,.slice none 0 0] 39);have hsz:(w.alloc (.cells #[.slice none 0 0,.slice none 0 0] 39)).heap.size=w.heap.size+1:=aQ _ _;have hrb:=gp (w:=w) (P:=.slice none 0 0) (N:=.slice none 0 0) (T:=39);have hx:fP (fun b=>(Value.slice none 0 0).ownBlock≠some b/\(Value.slice none 0 0).ownBlock≠some b) (w.alloc (.cells #[.slice none 0 0,.slice none 0 0] 39)) r v:=fP.sub (fun b _ _=>⟨fun e=>(by cases e),fun e=>(by cases e)⟩) r (fP.keep (cE.kept S) r h)
 have HW:=aa (with_t (w.heap.size+1) (aU r) r (af _) (w.alloc (.cells #[.slice none 0 0,.slice none 0 0] 39)) (.slice none 0 0) (.slice none 0 0) v ⟨[],[]⟩ (-1) ⟨ax.nil _ _ _,ax.nil _ _ _,fun b hb=>by cases hb⟩ (by omega) rfl (by simp;omega) hx);have HU:=aa cE;have lJ:=aa hrb;have fA:=aa hsz;clear cE hrb hsz h hx
 go_enter Tryz.func205,Tryz.ntmps205
 go_wp2_with fail;generalize w.alloc (.cells #[.slice none 0 0,.slice none 0 0] 39)=w1 at *;refine HW.out.mono ?_;rintro e w2 ⟨P2,N2,rfl,hT,hK⟩;rw [nil_app] at hT;obtain ⟨p2,c2,rfl,_,_⟩:=ay.open hT.dJ.ints;obtain ⟨q2,e2,rfl,_,_⟩:=ay.open hT.eH.strs;have hu:Up w1 w2:=⟨hK.os,hK.tape,hK.output,hK.size,fun b hb=>hK.block b hb (by omega) (fun e=>by cases e) (fun e=>by cases e)⟩;have hb2:=(bI hu w.heap.size (by rw [fA.out];omega)).trans lJ.out
 obtain ⟨r0,r1,r2,r3⟩:w2.cell? ⟨w.heap.size,0,none⟩=some (.slice none 0 0)/\w2.cell? ⟨w.heap.size,1,none⟩=some (.slice none 0 0)/\w2.frozen? ⟨w.heap.size,0,none⟩=false/\w2.frozen? ⟨w.heap.size,1,none⟩=false:=by refine ⟨?_,?_,?_,?_⟩<;>simp [World.cell?,World.frozen?,hb2]
 have HST:=aa (gq (w:=w) (p:=.slice p2 (mY r 0 (-1)).length c2) (q:=.slice q2 (gJ r).length e2) hb2 (af _) (HU.out.trans hu));have HP:=aa hT.dJ.ints;have HN:=aa hT.eH.strs;clear hT hK hu hb2;go_wp2_with fail;obtain ⟨s1,s2,s3,s4⟩:=HST.out;refine ⟨rfl,.agg #[.slice p2 (mY r 0 (-1)).length c2,.slice q2 (gJ r).length e2],by simp [results,Tryz.results205,go_sem,s2,s3],?_⟩
 exact ⟨s1,_,rfl,_,_,rfl,(ah.keep HP.out fun b hb _=>s4 b (by have:w.heap.size+1<=b:=hb;omega)).sub fun b hb _=>by have:w.heap.size+1<=b:=hb;omega,(au.keep HN.out fun b hb _=>s4 b (by have:w.heap.size+1<=b:=hb;omega)).sub fun b hb _=>by have:w.heap.size+1<=b:=hb;omega⟩
def KdPost (w:World) (l:List Nat) (e:Ending) (w':World):Prop:=Below w.heap.size w w'/\∃v,e=.returned v/\ah (fun b=>w.heap.size<=b) w' v (jE l)
theorem YN (S:Nat->Prop) (w:World) (v:Value) (t:az) (n:Nat) (h:aI S w v t) (hp:t.ps.length<=1000000) (hn:n<t.ps.length) :
  Calls Tryz.prog 96 #[v,.int .i64 n] w (KdPost w (bq t.ps n)):=by
 obtain ⟨P,N,rfl,hP,hN⟩:=h;have hb0:Below w.heap.size w (w.alloc (.cells #[P,N] 39)):=(dM _ _).alloc (af _) _;have YO:=hP.keep (Kept.below hb0);have qX:(w.alloc (.cells #[P,N] 39)).cell? ⟨w.heap.size,0,none⟩=some P:=by simp [World.cell?_alloc_new]
 obtain ⟨ps,ns⟩:=t;simp only at *;obtain ⟨p,cap,rfl,hcap,HP⟩:=ay.open YO;have hsz:(w.alloc (.cells #[.slice p ps.length cap,N] 39)).heap.size=w.heap.size+1:=by simp
 have HS:=aa hsz;have mX:=aa hb0;have GG:=aa qX;have GJ:=aa HP;clear HP YO hP hN hb0 qX hsz
 go_enter Tryz.func96,Tryz.ntmps96
 go_wp2_with fail;generalize hw0:w.alloc (.cells #[.slice p ps.length cap,N] 39)=w0 at *;clear hw0
 go_loopw [5,6] (fun v i wr=>∃k:Nat,n+1<=k/\k<=ps.length/\i=.int .i64 k/\ax (w.heap.size+1) 3 wr v ((jE (dc ps n k)).map (Value.int .i64))/\Below (w.heap.size+1) w0 wr) (fun _ i _=>ps.length - (intOf i).toNat)
 case atStart=>exact ⟨n+1,af _,by omega,by go_num,by rw [Ku];exact ax.nil _ _ _,dM _ _⟩
 case round =>
  obtain ⟨k,hk1,hk,rfl,hown,hbr⟩:=hrel;have qX:wr.cell? ⟨w.heap.size,0,none⟩=some (.slice p ps.length cap):=(hbr.cell (p:=⟨w.heap.size,0,none⟩) (by simp)).trans GG.out;by_cases hlt:k<ps.length
  ·obtain ⟨b,off,rfl,hc0⟩:=GJ.out k hlt
   (have hc:wr.cell? ⟨b,off+k,none⟩=some (.int .i64 (gi ps k)):=by rw [hbr.cell (p:=⟨b,off+k,none⟩) (by have:=eG _ _ hc0;have:=HS.out;simp at *;omega)];exact hc0);(have hsz:w.heap.size+1<=wr.heap.size:=by have:=hbr.size;have:=HS.out;omega);have sG:=ng ps n k;have xJ:=aa sG;(have gG:Hid (((jE (dc ps n k)).map (Value.int .i64)).length<=1000000):=by have:=vS ps n k;unfold Hid jE;rw [aG,aG];omega);clear hc0 sG GJ;generalize Qg:gi ps k=x at *;clear Qg;by_cases hx:x=n
   ·have hx1:(x==(n:Int))=true:=by simp [hx]
    have HX:Hid (n<k/\x=n):=⟨by omega,hx⟩;clear hx;go_wp2_with (at_builtin;refine r9 wr rfl _ _ 26 rfl (w.heap.size+1) 3 _ 8 Tryz.underlying26 Tryz.kE rfl (by decide) hown rfl _ rfl rfl gG.out hsz ?_;intro g cap w2 hown1 hg1 hb1)
    go_roundw
    case rel=>exact ⟨k+1,by omega,by omega,by go_num,by rw [xJ.out,if_pos HX.out,SH,cg];rw [aG] at hown1;exact hown1,hbr.trans hb1⟩
    case measure=>simp [intOf];omega
   ·have hx1:(x==(n:Int))=false:=by simpa using hx
    have HX:Hid ¬(n<k/\x=n):=fun h=>hx h.2;clear hx;go_wp2_with fail
    go_roundw
    case rel=>exact ⟨k+1,by omega,by omega,by go_num,by rw [xJ.out,if_neg HX.out,gN];exact hown,hbr⟩
    case measure=>simp [intOf];omega
  ·obtain rfl:k=ps.length:=by omega
   clear hlt hk;go_wp2_with fail;go_ret;exact ⟨mX.out.trans (hbr.mono (by omega)),_,rfl,hown.ints.sub fun b hb _=>by omega⟩
theorem Tryz.ze:(Tryz.prog.info? 210).map (fun i=>(i.zero,i.size,i.bytes))=some (some (.pointer none),1,8):=by kernel_rfl
structure Ua (w1:World) (base B:Nat) (nm:ByteArray) (kl:List Int) (kp:Option Addr) (kc:Nat) (wr:World) (kv:Value) (rs:List RT):Prop where
 C6:sM base B wr nm kv rs
 up:Up w1 wr
 ints:ah (fun b=>b≠B/\kv.ownBlock≠some b) wr (.slice kp kl.length kc) kl
 lo:w1.heap.size<=B
theorem kz (w:World):Up w w.drew:=Up.drewN w 1
theorem Ua.push {w1:World} {base B:Nat} {nm:ByteArray} {kl:List Int} {kp:Option Addr} {kc:Nat} {wr w2:World} {kv:Value} {rs:List RT} (h:Ua w1 base B nm kl kp kc wr kv rs) {r:RT} {u:Value} (hu:Up wr w2) (hr:fP (fun b=>wr.heap.size<=b) w2 r u) :
  ∃vs:List Value,vs.length=rs.length/\ax (B+1) 210 (w2.alloc (.cells #[u] 210)) kv vs/\B+1<=(w2.alloc (.cells #[u] 210)).heap.size /\
   (∀W,(w2.alloc (.cells #[u] 210)).grownBy W kv.ownBlock->W.cell? ⟨B,1,none⟩=some kv/\W.frozen? ⟨B,1,none⟩=false/\(∀b o v,b<w1.heap.size->w1.cell? ⟨b,o,none⟩=some v->W.cell? ⟨b,o,none⟩=some v)/\ah (fun b=>b≠B/\kv.ownBlock≠some b) W (.slice kp kl.length kc) kl) /\
   ∀g c W,ax (B+1) 210 W (.slice (some ⟨g,0,none⟩) (vs.length+1) c) (vs++[u])->(w2.alloc (.cells #[u] 210)).grownBy W kv.ownBlock->(kv.ownBlock=some g\/g=(w2.alloc (.cells #[u] 210)).heap.size) ->
    Ua w1 base B nm kl kp kc (W.setCell ⟨B,1,none⟩ (.slice (some ⟨g,0,none⟩) (vs.length+1) c)) (.slice (some ⟨g,0,none⟩) (vs.length+1) c) (rs++[r]):=by
 have cE:=Up.alloc w2 (.cells #[u] 210);have hW:=(h.C6.up hu).up cE;have hBl:=h.C6.lt;have hsz:=hu.size;have EE:(w2.alloc (.cells #[u] 210)).heap.size=w2.heap.size+1:=aQ _ _;obtain ⟨vs,ho,hv⟩:=hW.kids;obtain ⟨YL,Kv,_⟩:=h.C6.kids;have hkb:∀b,kv.ownBlock=some b->b<wr.heap.size/\B<b:=fun b hb=>⟨(av Kv hb).2,by have:=(av Kv hb).1;omega⟩;have hi2:ah (fun b=>b≠B/\kv.ownBlock≠some b) (w2.alloc (.cells #[u] 210)) (.slice kp kl.length kc) kl:=ah.keep h.ints ((hu.trans cE).kept _)
 have hi3:∀W,(w2.alloc (.cells #[u] 210)).grownBy W kv.ownBlock->ah (fun b=>b≠B/\kv.ownBlock≠some b) W (.slice kp kl.length kc) kl:=fun W hg =>
  ah.keep hi2 fun b hb hl=>hg.block b hl fun e=>hb.2 e.symm
 refine ⟨vs,bF.len rs hv,ho,by omega,fun W hg=>?_,fun g c W hown hg dD=>?_⟩
 ·have hc:=hW.cells
  have YP:some B≠kv.ownBlock:=fun e=>by have:=(hkb B e.symm).2;omega
  have hBa:B<(w2.alloc (.cells #[u] 210)).heap.size:=by omega
  refine ⟨?_,?_,fun b o v hb hcb=>?_,hi3 W hg⟩
  ·rw [hg.cell_far (a:=⟨B,1,none⟩) hBa YP];exact hc.2.1
  ·rw [hg.frozen_far (a:=⟨B,1,none⟩) hBa YP];exact hc.2.2.2
  ·have h1:=((h.up.trans hu).trans cE)
   have hlo:=h.lo;rw [hg.cell_far _ (js hb h1.size) (fun e=>by have:=(hkb b e.symm).2;omega)];exact h1.cell hcb
 ·have hor2:∀b,(Value.slice (some ⟨g,0,none⟩) (vs.length+1) c).ownBlock=some b->kv.ownBlock=some b\/(w2.alloc (.cells #[u] 210)).heap.size<=b:=fun b hb=>by
   injection hb with hb
   have hb:g=b:=hb
   subst hb
   rcases dD with h1 | h1
   ·exact .inl h1
   ·exact .inr (by omega)
  have hlo:=h.lo
  have hw:=h.C6.lo
  refine ⟨hW.push (fP.keep (cE.kept _) r hr) (by omega) hBl (fun b hb=>(hkb b hb).1) hv hown hg hor2,?_,?_,h.lo⟩
  ·have h1:=(h.up.trans hu).trans cE
   refine ⟨hg.os.trans h1.os,hg.tape.trans h1.tape,hg.output.trans h1.output,?_,fun b hb=>?_⟩
   ·have:=h1.size;have:=hg.size;simp only [mW];omega
   ·rw [blk_setCell_other _ _ _ _ (by omega:b≠B),hg.block b (js hb h1.size) (fun e=>by have:=(hkb b e.symm).2;omega)]
    exact h1.block b hb
  ·have h2:=hi3 W hg
   have h3:ah (fun b=>b≠B/\kv.ownBlock≠some b/\(Value.slice (some ⟨g,0,none⟩) (vs.length+1) c).ownBlock≠some b) (w2.alloc (.cells #[u] 210)) (.slice kp kl.length kc) kl:=ah.sub hi2 fun b hb hl=>⟨hb.1,hb.2,fun e=>by
    rcases hor2 b e with h5 | h5
    ·exact hb.2 h5
    ·omega⟩
   have h4:=ah.keep (w':=W.setCell ⟨B,1,none⟩ (.slice (some ⟨g,0,none⟩) (vs.length+1) c)) h3 fun b hb hl=>(blk_setCell_other _ _ _ _ hb.1).trans (hg.block b hl fun e=>hb.2.1 e.symm)
   exact ah.sub h4 fun b hb _=>⟨hb.1,hb.2.2⟩
theorem ints_at1 {S:Nat->Prop} {w:World} {b off n cap:Nat} {xs:List Int} (h:ah S w (.slice (some ⟨b,off,none⟩) n cap) xs) {k:Nat} (hk:k<xs.length):w.cell? ⟨b,off+k,none⟩=some (.int .i64 (gi xs k)):=by
 obtain ⟨b',o',e,hc⟩:=dG h hk;injection e with e;injection e with e1 e2;subst e1;subst e2;exact hc
def Pe (w:World) (r:RT) (e:Ending) (w':World):Prop:=Up w w'/\∃u,e=.returned u/\fP (fun b=>w.heap.size<=b) w' r u
theorem QT {l:List Nat} {k:Nat} (h:k<l.length):gi (jE l) k=(l[k]:Nat):=by simp [gi,jE,h]
theorem xZ {S:Nat->Prop} {w:World} {r:RT} {u:Value} (h:fP S w r u):∃b,u=.pointer (some ⟨b,0,none⟩):=by
 obtain ⟨b,_,_,_,e,_⟩:=h.open;exact ⟨b,e⟩
theorem YQ (S:Nat->Prop) (t:az) (ht:aH t=0):∀(d n:Nat),dU t n<=d->n<t.ps.length->∀(w:World) (v:Value),aI S w v t->Calls Tryz.prog 207 #[v,.int .i64 n] w (Pe w (bB (fJ t) (dU t) n)):=by
 intro d
 induction d with
 | zero=>intro n hd hn;unfold dU at hd;omega
 | succ d ih =>
 intro n hd hn w v hT;obtain ⟨_,DR,hnl,hpk,_⟩:=aF ht;have hwf:=(eu ht).wf;obtain ⟨P,N,rfl,hP,hN⟩:=hT;obtain ⟨pp,pc,rfl,_,_⟩:=ay.open hP;obtain ⟨np,nc,rfl,_,_⟩:=ay.open hN;have hP:ah S w (.slice pp t.ps.length pc) t.ps:=hP;have hN:au S w (.slice np t.ns.length nc) t.ns:=hN;have cE:=Up.alloc w (.cells #[.slice pp t.ps.length pc,.slice np t.ns.length nc] 39);have b0:=iU w (.slice pp t.ps.length pc) (.slice np t.ns.length nc) 39;have b1:=iV w (.slice pp t.ps.length pc) (.slice np t.ns.length nc) 39
 have hsz:(w.alloc (.cells #[.slice pp t.ps.length pc,.slice np t.ns.length nc] 39)).heap.size=w.heap.size+1:=aQ _ _;have QU:Hid (aI S (w.alloc (.cells #[.slice pp t.ps.length pc,.slice np t.ns.length nc] 39)) (.agg #[.slice pp t.ps.length pc,.slice np t.ns.length nc]) t):=aI.keep ⟨_,_,rfl,hP,hN⟩ (cE.kept S);obtain ⟨sb,so,rfl,hsc⟩:=dr (au.keep hN (cE.kept S)) (k:=n) (by rw [hnl];exact hn);have hn2:(n:Int)<(t.ns.length:Int):=by omega
 have hn0:(0:Int)<=(n:Int):=by omega
 have mX:=aa b0;have lK:=aa b1;have HU:=aa cE;have fA:=aa hsz;have HN:=aa hn;have H64:=aa DR;have qu:Hid (∀c∈bq t.ps n,∀W u,aI S W u t->Calls Tryz.prog 207 #[u,.int .i64 (c:Nat)] W (Pe W (bB (fJ t) (dU t) c))):=fun c hc W u hu=>by have hk:=hwf.kid n hn c hc;exact ih c (by omega) hk.1 W u hu
 have HRF:Hid (bB (fJ t) (dU t) n=.node (gs t.ns n) ((bq t.ps n).map (bB (fJ t) (dU t)))):=fO hwf hn;have kK:Hid ((bq t.ps n).length<=64):=by have:=wZ t n;rw [iY] at this;unfold Hid;omega
 clear cE hP hN hnl hpk ih hd hn hwf
 go_enter Tryz.func207,Tryz.ntmps207
 go_wp2_with fail;generalize w.alloc (.cells #[.slice pp t.ps.length pc,.slice (some ⟨sb,so,none⟩) t.ns.length nc] 39)=w1 at *;have hst:=sM.start w1 (base:=w.heap.size) (by rw [fA.out];omega) (gs t.ns n);have hup0:=Up.alloc w1 (.cells #[.string (gs t.ns n),.slice none 0 0] 254);have hs1:(w1.alloc (.cells #[.string (gs t.ns n),.slice none 0 0] 254)).heap.size=w1.heap.size+1:=aQ _ _;refine (YN S _ _ t n (QU.out.keep (hup0.kept S)) (by omega) HN.out).mono ?_;rintro e w2 ⟨aK,kvv,rfl,hki⟩;have aK:Up (w1.alloc (.cells #[.string (gs t.ns n),.slice none 0 0] 254)) w2:=aK
 obtain ⟨kp,kc,rfl,_,_⟩:=ay.open hki;have hG0:Ua w1 w.heap.size (w.heap.size+1) (gs t.ns n) (jE (bq t.ps n)) kp kc w2 (.slice none 0 0) (((bq t.ps n).take 0).map (bB (fJ t) (dU t))):=by rw [fA.out] at hst hs1;exact ⟨hst.up aK,hup0.trans aK,ah.sub hki fun b hb _=>⟨by rw [hs1] at hb;omega,fun e=>by cases e⟩,by rw [fA.out];exact af _⟩
 have Eo:=aa hG0;clear hst hup0 hs1 aK hki hG0 b0 b1;have jv:(jE (bq t.ps n)).length=(bq t.ps n).length:=by simp [jE]
 rw [jv];obtain ⟨L,hL⟩:∃L,L=bq t.ps n:=⟨_,rfl⟩;rw [<- hL] at kK qu HRF Eo ⊢;clear hL jv;go_wp2_with fail
 go_loopw [7] (fun i wr=>∃(k:Nat) (kv:Value),k<=L.length/\i=.int .i64 k/\Hid (Ua w1 w.heap.size (w.heap.size+1) (gs t.ns n) (jE L) kp kc wr kv ((L.take k).map (bB (fJ t) (dU t))))) (fun i _=>L.length - (intOf i).toNat)
 case atStart=>exact ⟨0,_,aL _,rfl,Eo.out⟩
 case round =>
  obtain ⟨k,kv,hk,rfl,hG⟩:=hrel;obtain ⟨wo,rfl⟩:∃wo:World,wo=wr:=⟨_,rfl⟩;by_cases hlt:k<L.length
  ·have hc:=hG.out.C6.cells
   (have gz:k<(jE L).length:=by simp [jE];exact hlt);obtain ⟨ib,io,rfl,hic⟩:=dG hG.out.ints gz;rw [QT hlt] at hic;have IB:Hid (L[k]∈L):=lg hlt;(have oy:Hid ((L.take (k+1)).map (bB (fJ t) (dU t))=(L.take k).map (bB (fJ t) (dU t))++[bB (fJ t) (dU t) L[k]]):=by unfold Hid;rw [jY hlt,cg];rfl);have HCG:Hid (gi (jE L) k=(L[k]:Nat)):=QT hlt;generalize L[k]=c at *
   have jq:Hid (∀W,Up wo W->Calls Tryz.prog 207 #[.agg #[.slice pp t.ps.length pc,.slice (some ⟨sb,so,none⟩) t.ns.length nc],.int .i64 (c:Nat)] W (Pe W (bB (fJ t) (dU t) c))):=fun W hW=>qu.out c IB.out W _ (QU.out.keep ((hG.out.up.trans hW).kept S));generalize bB (fJ t) (dU t) c=r at *;have hk1:=hc.2.1;have hk2:=hc.2.2.2;have hb0:=hG.out.up.cell mX.out;have hb1:=hG.out.up.cell lK.out;(have i1:(0:Int)<=(k:Int):=by omega);(have i2:(k:Int)<(L.length:Int):=by omega);(have i3:(k:Int)<64:=by have:=kK.out;omega);have bu:=aa hlt
   have sN:Hid (∀W,Up wo W->W.cell? ⟨w.heap.size+1,1,none⟩=some kv/\W.cell? ⟨w.heap.size,0,none⟩=some (.slice pp t.ps.length pc)/\W.cell? ⟨w.heap.size,1,none⟩=some (.slice (some ⟨sb,so,none⟩) t.ns.length nc)/\W.cell? ⟨ib,io+k,none⟩=some (.int .i64 (c:Nat))):=fun W hW=>⟨hW.cell hk1,hW.cell hb0,hW.cell hb1,hW.cell hic⟩;have KL:=aa hG.out;clear hc gz hk hlt hG;go_wp2_with fail
   refine gQ (by kernel_rfl) 16 (fun w'=>w'.cell? ⟨w.heap.size+1,1,none⟩=some kv/\w'.cell? ⟨w.heap.size,0,none⟩=some (.slice pp t.ps.length pc)/\w'.cell? ⟨w.heap.size,1,none⟩=some (.slice (some ⟨sb,so,none⟩) t.ns.length nc)/\w'.cell? ⟨ib,io+k,none⟩=some (.int .i64 (c:Nat))) (sN.out _ (kz wo)) (fun hS=>?_);simp only [eW,aT,dO,Nat.reduceAdd,ji,jk,eV,cH,cr];refine aj.tk 0 hS ?_;try simp only [Act.put,aA,aB,aC]
   refine aj.tk 1 hS ?_;(try simp only [Act.put,aA,aB,aC]);refine aj.tk 2 hS ?_;(try simp only [Act.put,aA,aB,aC]);refine aj.tk 3 hS ?_;(try simp only [Act.put,aA,aB,aC]);refine aj.tk 4 hS ?_;(try simp only [Act.put,aA,aB,aC]);refine aj.tk 5 hS ?_;(try simp only [Act.put,aA,aB,aC]);refine aj.tk 6 hS ?_
   (try simp only [Act.put,aA,aB,aC]);refine aj.tk 7 hS ?_;(try simp only [Act.put,aA,aB,aC]);refine aj.tk 8 hS ?_;(try simp only [Act.put,aA,aB,aC]);refine aj.tk 9 hS ?_;(try simp only [Act.put,aA,aB,aC]);refine aj.step (i:=10) rfl (by kernel_rfl) (fun K' hK=>?_);go_simp;refine (jq.out _ (kz wo)).mono ?_;rintro e w3 ⟨dQ,u,rfl,hr3⟩;have dQ:Up wo.drew w3:=dQ
   obtain ⟨ub,rfl⟩:=xZ hr3;have eo:=aa ((kz wo).trans dQ);obtain ⟨vs,hvl,hown,Bw,hfar,NI⟩:=KL.out.push eo.out hr3;have HOW:=aa hown;have vW:=aa Bw;have TE:=aa hfar;have Np:=aa NI;(have QV:Hid (vs.length<=1000000):=by have:=bu.out;have:=kK.out;rw [aG,gV] at hvl;unfold Hid;omega);have nV:Hid ((w3.alloc (.cells #[.pointer (some ⟨ub,0,none⟩)] 210)).cell? ⟨w3.heap.size,0,none⟩=some (.pointer (some ⟨ub,0,none⟩))):=nW _ _ _;clear dQ hr3 hown Bw hfar NI hvl;refine hK.out _ _ (fun _=>sN.out _ eo.out) (fun hS=>?_)
   replace hS:=hS ⟨11,by decide,rfl⟩;(try simp only [aA,aB,aC]);refine aj.step (i:=11) rfl (by kernel_rfl) (fun K' hK=>?_);go_simp;refine hK.out _ _ (fun _=>sN.out _ (eo.out.trans (Up.alloc _ _))) (fun hS=>?_);replace hS:=hS ⟨12,by decide,rfl⟩;(try simp only [aA,aB,aC]);refine aj.step (i:=12) rfl (by kernel_rfl) (fun K' hK=>?_)
   refine fF (by rfl) _ _ _ (by rfl) (w.heap.size+1+1) 210 _ 8 Tryz.underlying252 Tryz.ze (by rfl) (by decide) (by rfl) HOW.out (.pointer (some ⟨ub,0,none⟩)) w3.heap.size (by rfl) nV.out (by rfl) QV.out vW.out ?_;intro g cap w4 wW hg4 Ig TF;obtain ⟨q1,q2,q3,q4⟩:=TE.out w4 hg4;(have q5:w4.cell? ⟨ib,io+k,none⟩=some (.int .i64 (c:Nat)):=by rw [ints_at1 q4 (by simp [jE];exact bu.out),HCG.out]);have q6:=q3 _ _ _ (by rw [fA.out];omega) mX.out;have q7:=q3 _ _ _ (by rw [fA.out];omega) lK.out;have Nq:=aa (Np.out g cap w4 wW hg4 Ig)
   clear wW hg4 Ig TF q3 q4;refine hK.out _ _ (fun _=>⟨q1,q6,q7,q5⟩) (fun hS=>?_);replace hS:=hS ⟨15,by decide,rfl⟩;(try simp only [Act.put,aA,aB,aC]);refine aj.tk 13 hS ?_;(try simp only [Act.put,aA,aB,aC]);refine aj.tk 14 hS ?_;(try simp only [Act.put,aA,aB,aC]);refine aj.step (i:=15) rfl (by kernel_rfl) (fun K' hK=>?_);go_simp;refine hK.out _ _ (aO (by kernel_rfl)) (fun hS=>?_)
   refine aj.done (by kernel_rfl) ?_;go_wp2_with fail
   go_roundw
   case rel=>exact ⟨k+1,_,bu.out,by go_num,by rw [oy.out];exact Nq.out⟩
   case measure=>have:=bu.out;simp [intOf];omega
  ·obtain rfl:k=L.length:=by omega
   have KL:=aa hG.out;clear hG;go_wp2_with fail;go_ret;refine ⟨HU.out.trans KL.out.up,_,rfl,?_⟩;have h:=KL.out.C6.done;rw [gh] at h;rw [HRF.out];exact h
section
variable {P:Program} {ops:Array Oper} {o:Oper} {a:Act} {w:World} {K:Act->World->Prop} {Q:Exit->Act->World->Prop} {E:Prop}
theorem IC (hgd:o.guard=none) (s x:Operand) (t:TypeId) (ho:o.op=.call { callee:=.builtin .append,args:=#[s,x],argTypes:=#[t,t] })
  (e:TypeId) (z:Value) (bytes:Nat) (ht:P.underlying t=some (.slice e)) (hinfo:(P.info? e).map (fun i=>(i.zero,i.size,i.bytes))=some (some z,1,bytes))
  (hz1:z.cells.size=1) (qE:bytes<=64) {ao:Option Addr} {n:Nat} {olds:List Value} (hs:a.eval s=.slice ao n n) (hnone:ao=none->n=0) (hlo:olds.length=n) (holds:∀b,ao=some b->∀j u,olds[j]? = some u->w.cell? (b.add j)=some u)
  {ad:Addr} {m c:Nat} {news:List Value} (hx:a.eval x=.slice (some ad) m c) (hl:news.length=m) (hnews:∀j u,news[j]? = some u->w.cell? (ad.add j)=some u) (h1:∀u∈news,u.oneCell'=true) (hm:0<m) (hn:n+m<=1000000)
  (h:∀g cap w',ax w.heap.size e w' (.slice (some ⟨g,0,none⟩) (n+m) cap) (olds++news)->Up w w'->K (a.put o.dst (.slice (some ⟨g,0,none⟩) (n+m) cap)) w') :
  if Region.wanted o (yielded ops a.tmps)=true then Oper.wp P o a w K Q else E:=by
 have hw:Region.wanted o (yielded ops a.tmps)=true:=by simp [Region.wanted,hgd]
 rw [if_pos hw];obtain ⟨i,hi,hzz⟩:=mh.1 hinfo;simp only [mj] at hzz;obtain ⟨hz,hs1,hb⟩:=hzz;have hb1:n+m<=maxLen:=by unfold maxLen;omega
 have hb2:(n+m)*bytes<=140737488355328:=by have:(n+m)*bytes<=(n+m)*64:=sW _ qE;omega
 have fin:∀v' w',w'.ownsRow w.heap.size e 1 v' (n+m) (olds++news)->w.grownBy w' none->K (a.put o.dst v') w':=fun v' w' r1 r2=>by
  have hlen:(olds++news).length=n+m:=by rw [aZ,hlo,hl]
  have hown:ax w.heap.size e w' v' (olds++news):=by unfold ax;rw [hlen];exact r1
  have fT:Up w w':=⟨r2.os,r2.tape,r2.output,r2.size,fun b hb=>r2.block b hb (fun e=>by cases e)⟩;obtain ⟨h2,h3 | ⟨g,c',cur,h3,_⟩⟩:=hown
  ·omega
  ·rw [hlen] at h3
   subst h3;exact h g c' w' (by unfold ax;rw [hlen];exact r1) fT
 cases ao with
 | some b =>
  obtain ⟨v',w',hrun,r1,r2⟩:=run_append_arg_grows (P:=P) w t o.type e i z 1 bytes ht hi hz hs1 hb hz1 (by omega) b n n olds (by omega) (holds b rfl) ad m c news (by omega) hnews (by omega) hb1 hb2;unfold Oper.wp;simp [execOp,ho,resolve,invoke,builtin,hs,hx,hrun,Result.andThen];exact fin v' w' r1 r2
 | none =>
  obtain rfl:=hnone rfl;obtain rfl:olds=[]:=oJ hlo;obtain ⟨v',w',hrun,r1,r2,_⟩:=run_append_own (P:=P) w w.heap.size t o.type e i z 1 bytes ht hi hz hs1 hb hz1 (by omega) (.slice none 0 0) 0 [] (World.ownsRow_nil w _ e 1) ad m c news (by omega) hnews h1 hb1 hb2 (af _);unfold Oper.wp;simp [execOp,ho,resolve,invoke,builtin,hs,hx,hrun,Result.andThen];exact fin v' w' r1 r2
theorem step_app0 (hgd:o.guard=none) (s x:Operand) (t:TypeId) (ho:o.op=.call { callee:=.builtin .append,args:=#[s,x],argTypes:=#[t,t] })
  (e:TypeId) (z:Value) (bytes:Nat) (ht:P.underlying t=some (.slice e)) (hinfo:(P.info? e).map (fun i=>(i.zero,i.size,i.bytes))=some (some z,1,bytes))
  {ao:Option Addr} {n c:Nat} (hs:a.eval s=.slice ao n c) (hle:n<=c) {ad:Option Addr} {c2:Nat} (hx:a.eval x=.slice ad 0 c2)
  (h:K (a.put o.dst (.slice ao n c)) w):if Region.wanted o (yielded ops a.tmps)=true then Oper.wp P o a w K Q else E:=by
 have hw:Region.wanted o (yielded ops a.tmps)=true:=by simp [Region.wanted,hgd]
 rw [if_pos hw];obtain ⟨i,hi,hzz⟩:=mh.1 hinfo;have hrun:(Builtin.append_ #[t,t] o.type #[.slice ao n c,.slice ad 0 c2]).run P w=.ok (.slice ao n c) w:=by cases ao<;>cases ad<;>simp [Builtin.append_,run_underlying ht,sizeOf,typeInfo,hi,Builtin.lenOf,hle,Builtin.firstCells,storeCells,loadCells,loadCellsFrom]
 unfold Oper.wp;simp [execOp,ho,resolve,invoke,builtin,hs,hx,hrun,Result.andThen];exact h
end
theorem bF.app2 {S:Nat->Prop} {w:World}:∀(a b:List RT) {vs us:List Value},bF S w a vs->bF S w b us->bF S w (a++b) (vs++us)
 | [],b,vs,us,h,h2=>by unfold bF at h;subst h;exact h2
 | r::a,b,vs,us,h,h2=>by
  unfold bF at h
  obtain ⟨u,q,rfl,h3,h4⟩:=h
  show bF S w (r::(a++b)) (u::(q++us))
  unfold bF
  exact ⟨u,q++us,rfl,h3,bF.app2 a b h4 h2⟩
theorem bF.takeR {S:Nat->Prop} {w:World}:∀(a:List RT) (k:Nat) {vs:List Value},bF S w a vs->bF S w (a.take k) (vs.take k)
 | [],k,vs,h=>by unfold bF at h;subst h;simp [bF]
 | r::a,0,vs,h=>by simp [bF]
 | r::a,k+1,vs,h=>by
  unfold bF at h
  obtain ⟨u,q,rfl,h3,h4⟩:=h
  rw [Bk,Bk]
  unfold bF
  exact ⟨u,_,rfl,h3,bF.takeR a k h4⟩
theorem bF.dropR {S:Nat->Prop} {w:World}:∀(a:List RT) (k:Nat) {vs:List Value},bF S w a vs->bF S w (a.drop k) (vs.drop k)
 | [],k,vs,h=>by unfold bF at h;subst h;simp [bF]
 | r::a,0,vs,h=>h
 | r::a,k+1,vs,h=>by
  unfold bF at h
  obtain ⟨u,q,rfl,h3,h4⟩:=h
  rw [List.drop_succ_cons,List.drop_succ_cons]
  exact bF.dropR a k h4
theorem sM.lay {base B X:Nat} {w W:World} {nm:ByteArray} {kv kv':Value} {acc:List RT} {BV:List Value} {o:RT} {u:Value} (h:sM base B w nm kv acc) (NH:bF (fun b=>base<=b/\b≠B/\kv.ownBlock≠some b) w acc BV) (hu:Up w W) (hX:w.heap.size<=X)
  (hkb:∀b,kv'.ownBlock=some b->X<=b) (hr:fP (fun b=>w.heap.size<=b/\b<X) W o u) (k:Nat) (ho:ax (B+1) 210 W kv' (BV.take k++u::BV.drop k)) :
  sM base B (W.setCell ⟨B,1,none⟩ kv') nm kv' (acc.take k++o::acc.drop k):=by
 have hBl:=h.lt;have dR:∀b,b≠B->(W.setCell ⟨B,1,none⟩ kv').heap[b]? = W.heap[b]?:=fun b hb=>blk_setCell_other _ _ _ _ hb;have hn:=(bI hu B hBl).trans h.node;have hlo:=h.lo;refine ⟨by simp [World.setCell,Array.getElem?_modify,hn],h.lo,_,ho.fM fun b hb=>dR b (by have:=hkb b hb;omega),?_⟩;have k1:Kept (fun b=>base<=b/\b≠B/\kv'.ownBlock≠some b) w (W.setCell ⟨B,1,none⟩ kv'):=fun b hb hl=>(dR b hb.2.1).trans (bI hu b hl);have a1:bF (fun b=>base<=b/\b≠B/\kv'.ownBlock≠some b) (W.setCell ⟨B,1,none⟩ kv') acc BV :=
  bF.keep k1 acc (bF.sub (fun b hb hl=>⟨hb.1,hb.2.1,fun e=>by have:=hkb b e;omega⟩) acc NH)
 have k2:Kept (fun b=>base<=b/\b≠B/\kv'.ownBlock≠some b) W (W.setCell ⟨B,1,none⟩ kv'):=fun b hb _=>dR b hb.2.1;have a2:fP (fun b=>base<=b/\b≠B/\kv'.ownBlock≠some b) (W.setCell ⟨B,1,none⟩ kv') o u :=
  fP.keep k2 o (fP.sub (fun b hb _=>⟨by have:=hb.1;omega,by have:=hb.1;omega,fun e=>by have:=hkb b e;have:=hb.2;omega⟩) o hr)
 refine bF.app2 _ _ (bF.takeR acc k a1) ?_;unfold bF;exact ⟨u,BV.drop k,rfl,a2,bF.dropR acc k a1⟩
def sEnd (a:Option Addr) (n c:Nat):Option Addr:=if c=n then a else Option.map (fun x=>x.add n) a
theorem all_none {S:Nat->Prop} {w:World} {n c:Nat} {f:Nat->Value} {a:Option Addr} (h:ay S w (.slice a n c) n f) (e:a=none):n=0:=by
 subst e;by_cases hn:n=0
 ·exact hn
 ·obtain ⟨q,c',e,_,H⟩:=ay.open h
  injection e with e;subst e;obtain ⟨b,off,e2,_⟩:=H 0 (by omega);cases e2
theorem all_cells {S:Nat->Prop} {w:World} {n c:Nat} {vs:List Value} {a:Option Addr} (h:ay S w (.slice a n c) n (vN vs)) (hl:vs.length=n) (b:Addr) (e:a=some b) (i:Nat) (q:Value) (hq:vs[i]? = some q):w.cell? (b.add i)=some q:=by
 have hki:i<n:=by rw [<- hl];exact (pF.1 hq).1
 obtain ⟨b',o',e2,hc⟩:=xg h hki;rw [e] at e2;injection e2 with e2;subst e2;have hv:vN vs i=q:=by unfold vN;rw [kD,hq];rfl
 rw [hv] at hc;rw [Addr.add_lit];exact hc
end
end Go.Proofs.YthgabkgmkolobaaGreat
