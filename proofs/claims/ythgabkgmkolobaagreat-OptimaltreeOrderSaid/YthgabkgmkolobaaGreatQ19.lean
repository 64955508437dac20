/- The contract of layer 31's reference's number. The contract of layer 31's reference's .. -/
import Derived.ArgAppend
import Derived.Test.YthgabkgmkolobaaGreatQ18
set_option maxRecDepth 100000
set_option maxHeartbeats 4000000
namespace Go.Proofs.YthgabkgmkolobaaGreat
section
open Go.RowKit Go.Deep
def Wc (w:World) (r:RT) (e:Ending) (w':World):Prop:=Up w w'/\∃v,e=.returned v/\aC (fun b=>w.heap.size<=b) w' v (flat r)
theorem Ub (r:RT) (p:Int):(⟨[],[]⟩:aF).app r p=⟨iw r 0 p,dr r⟩:=by simp [aF.app]
theorem A9 (S:Nat->Prop) (w:World) (v:Value) (r:RT) (h:cK S w r v) (hs:aK r<=90000):Calls Tryz.prog 205 #[v] w (Wc w r):=by
 have bq:=Up.alloc w (.cells #[.slice none 0 0,.slice none 0 0] 39);have hsz:(w.alloc (.cells #[.slice none 0 0,.slice none 0 0] 39)).heap.size=w.heap.size+1:=aL _ _;have hrb:=jv (w:=w) (P:=.slice none 0 0) (N:=.slice none 0 0) (T:=39);have hx:cK (fun b=>(Value.slice none 0 0).ownBlock≠some b/\(Value.slice none 0 0).ownBlock≠some b) (w.alloc (.cells #[.slice none 0 0,.slice none 0 0] 39)) r v:=cK.sub (fun b _ _=>⟨fun e=>(by cases e),fun e=>(by cases e)⟩) r (cK.keep (bq.kept S) r h)
 have HW:=aa (V6 (w.heap.size+1) (aK r) r (ah _) (w.alloc (.cells #[.slice none 0 0,.slice none 0 0] 39)) (.slice none 0 0) (.slice none 0 0) v ⟨[],[]⟩ (-1) ⟨ax.nil _ _ _,ax.nil _ _ _,fun b hb=>by cases hb⟩ (by omega) rfl (by simp;omega) hx);have HU:=aa bq;have mI:=aa hrb;have dm:=aa hsz;clear bq hrb hsz h hx
 go_enter Tryz.func205,Tryz.ntmps205
 go_wp2_with fail;generalize w.alloc (.cells #[.slice none 0 0,.slice none 0 0] 39)=w1 at *;refine HW.out.mono ?_;rintro e w2 ⟨P2,N2,rfl,hT,hK⟩;rw [Ub] at hT;obtain ⟨p2,c2,rfl,_,_⟩:=aA.open hT.dG.ints;obtain ⟨q2,e2,rfl,_,_⟩:=aA.open hT.en.strs;have hu:Up w1 w2:=⟨hK.os,hK.tape,hK.output,hK.size,fun b hb=>hK.block b hb (by omega) (fun e=>by cases e) (fun e=>by cases e)⟩;have hb2:=(bH hu w.heap.size (by rw [dm.out];omega)).trans mI.out
 obtain ⟨r0,r1,r2,r3⟩:w2.cell? ⟨w.heap.size,0,none⟩=some (.slice none 0 0)/\w2.cell? ⟨w.heap.size,1,none⟩=some (.slice none 0 0)/\w2.frozen? ⟨w.heap.size,0,none⟩=false/\w2.frozen? ⟨w.heap.size,1,none⟩=false:=by refine ⟨?_,?_,?_,?_⟩<;>simp [World.cell?,World.frozen?,hb2]
 have HST:=aa (eW (w:=w) (p:=.slice p2 (iw r 0 (-1)).length c2) (q:=.slice q2 (dr r).length e2) hb2 (ah _) (HU.out.trans hu));have HP:=aa hT.dG.ints;have HN:=aa hT.en.strs;clear hT hK hu hb2;go_wp2_with fail;obtain ⟨s1,s2,s3,s4⟩:=HST.out;refine ⟨rfl,.agg #[.slice p2 (iw r 0 (-1)).length c2,.slice q2 (dr r).length e2],by simp [results,Tryz.results205,go_sem,s2,s3],?_⟩
 exact ⟨s1,_,rfl,_,_,rfl,(ay.keep HP.out fun b hb _=>s4 b (by have:w.heap.size+1<=b:=hb;omega)).sub fun b hb _=>by have:w.heap.size+1<=b:=hb;omega,(av.keep HN.out fun b hb _=>s4 b (by have:w.heap.size+1<=b:=hb;omega)).sub fun b hb _=>by have:w.heap.size+1<=b:=hb;omega⟩
def Wh (w:World) (l:List Nat) (e:Ending) (w':World):Prop:=Below w.heap.size w w'/\∃v,e=.returned v/\ay (fun b=>w.heap.size<=b) w' v (eX l)
theorem Kq (S:Nat->Prop) (w:World) (v:Value) (t:aF) (n:Nat) (h:aC S w v t) (hp:t.ps.length<=1000000) (hn:n<t.ps.length) :
  Calls Tryz.prog 96 #[v,.int .i64 n] w (Wh w (b7 t.ps n)):=by
 obtain ⟨P,N,rfl,hP,hN⟩:=h;have hb0:Below w.heap.size w (w.alloc (.cells #[P,N] 39)):=(cN _ _).alloc (ah _) _;have hP1:=hP.keep (Kept.below hb0);have nN:(w.alloc (.cells #[P,N] 39)).cell? ⟨w.heap.size,0,none⟩=some P:=by simp [World.cell?_alloc_new]
 obtain ⟨ps,ns⟩:=t;simp only at *;obtain ⟨p,cap,rfl,hcap,HP⟩:=aA.open hP1;have hsz:(w.alloc (.cells #[.slice p ps.length cap,N] 39)).heap.size=w.heap.size+1:=by simp
 have HS:=aa hsz;have jK:=aa hb0;have J7:=aa nN;have xH:=aa HP;clear HP hP1 hP hN hb0 nN hsz
 go_enter Tryz.func96,Tryz.ntmps96
 go_wp2_with fail;generalize hw0:w.alloc (.cells #[.slice p ps.length cap,N] 39)=w0 at *;clear hw0
 go_loopw [5,6] (fun v i wr=>∃k:Nat,n+1<=k/\k<=ps.length/\i=.int .i64 k/\ax (w.heap.size+1) 3 wr v ((eX (cV ps n k)).map (Value.int .i64))/\Below (w.heap.size+1) w0 wr) (fun _ i _=>ps.length - (intOf i).toNat)
 case atStart=>exact ⟨n+1,ah _,by omega,by go_num,by rw [Aa];exact ax.nil _ _ _,cN _ _⟩
 case round =>
  obtain ⟨k,hk1,hk,rfl,hown,hbr⟩:=hrel;have nN:wr.cell? ⟨w.heap.size,0,none⟩=some (.slice p ps.length cap):=(hbr.cell (p:=⟨w.heap.size,0,none⟩) (by simp)).trans J7.out;by_cases hlt:k<ps.length
  ·obtain ⟨b,off,rfl,hc0⟩:=xH.out k hlt
   (have hc:wr.cell? ⟨b,off+k,none⟩=some (.int .i64 (gi ps k)):=by rw [hbr.cell (p:=⟨b,off+k,none⟩) (by have:=dN _ _ hc0;have:=HS.out;simp at *;omega)];exact hc0);(have hsz:w.heap.size+1<=wr.heap.size:=by have:=hbr.size;have:=HS.out;omega);have lF:=kK ps n k;have sF:=aa lF;(have fN:Hid (((eX (cV ps n k)).map (Value.int .i64)).length<=1000000):=by have:=qD ps n k;unfold Hid eX;rw [aD,aD];omega);clear hc0 lF xH;generalize DN:gi ps k=x at *;clear DN;by_cases hx:x=n
   ·have hx1:(x==(n:Int))=true:=by simp [hx]
    have HX:Hid (n<k/\x=n):=⟨by omega,hx⟩;clear hx;go_wp2_with (at_builtin;refine mW wr rfl _ _ 26 rfl (w.heap.size+1) 3 _ 8 Tryz.underlying26 Tryz.mA rfl (by decide) hown rfl _ rfl rfl fN.out hsz ?_;intro g cap w2 hown1 hg1 hb1)
    go_roundw
    case rel=>exact ⟨k+1,by omega,by omega,by go_num,by rw [sF.out,if_pos HX.out,Fg,cm];rw [aD] at hown1;exact hown1,hbr.trans hb1⟩
    case measure=>simp [intOf];omega
   ·have hx1:(x==(n:Int))=false:=by simpa using hx
    have HX:Hid ¬(n<k/\x=n):=fun h=>hx h.2;clear hx;go_wp2_with fail
    go_roundw
    case rel=>exact ⟨k+1,by omega,by omega,by go_num,by rw [sF.out,if_neg HX.out,fM];exact hown,hbr⟩
    case measure=>simp [intOf];omega
  ·obtain rfl:k=ps.length:=by omega
   clear hlt hk;go_wp2_with fail;go_ret;exact ⟨jK.out.trans (hbr.mono (by omega)),_,rfl,hown.ints.sub fun b hb _=>by omega⟩
theorem Tryz.qJ:(Tryz.prog.info? 210).map (fun i=>(i.zero,i.size,i.bytes))=some (some (.pointer none),1,8):=by kernel_rfl
structure GI (w1:World) (base B:Nat) (nm:ByteArray) (kl:List Int) (kp:Option Addr) (kc:Nat) (wr:World) (kv:Value) (rs:List RT):Prop where
 uq:lJ base B wr nm kv rs
 up:Up w1 wr
 ints:ay (fun b=>b≠B/\kv.ownBlock≠some b) wr (.slice kp kl.length kc) kl
 lo:w1.heap.size<=B
theorem mD (w:World):Up w w.drew:=Up.drewN w 1
theorem GI.push {w1:World} {base B:Nat} {nm:ByteArray} {kl:List Int} {kp:Option Addr} {kc:Nat} {wr w2:World} {kv:Value} {rs:List RT} (h:GI w1 base B nm kl kp kc wr kv rs) {r:RT} {u:Value} (hu:Up wr w2) (hr:cK (fun b=>wr.heap.size<=b) w2 r u) :
  ∃vs:List Value,vs.length=rs.length/\ax (B+1) 210 (w2.alloc (.cells #[u] 210)) kv vs/\B+1<=(w2.alloc (.cells #[u] 210)).heap.size /\
   (∀W,(w2.alloc (.cells #[u] 210)).grownBy W kv.ownBlock->W.cell? ⟨B,1,none⟩=some kv/\W.frozen? ⟨B,1,none⟩=false/\(∀b o v,b<w1.heap.size->w1.cell? ⟨b,o,none⟩=some v->W.cell? ⟨b,o,none⟩=some v)/\ay (fun b=>b≠B/\kv.ownBlock≠some b) W (.slice kp kl.length kc) kl) /\
   ∀g c W,ax (B+1) 210 W (.slice (some ⟨g,0,none⟩) (vs.length+1) c) (vs++[u])->(w2.alloc (.cells #[u] 210)).grownBy W kv.ownBlock->(kv.ownBlock=some g\/g=(w2.alloc (.cells #[u] 210)).heap.size) ->
    GI w1 base B nm kl kp kc (W.setCell ⟨B,1,none⟩ (.slice (some ⟨g,0,none⟩) (vs.length+1) c)) (.slice (some ⟨g,0,none⟩) (vs.length+1) c) (rs++[r]):=by
 have bq:=Up.alloc w2 (.cells #[u] 210);have hW:=(h.uq.up hu).up bq;have hBl:=h.uq.lt;have hsz:=hu.size;have vK:(w2.alloc (.cells #[u] 210)).heap.size=w2.heap.size+1:=aL _ _;obtain ⟨vs,ho,hv⟩:=hW.kids;obtain ⟨V5,Ab,_⟩:=h.uq.kids;have hkb:∀b,kv.ownBlock=some b->b<wr.heap.size/\B<b:=fun b hb=>⟨(aG Ab hb).2,by have:=(aG Ab hb).1;omega⟩;have hi2:ay (fun b=>b≠B/\kv.ownBlock≠some b) (w2.alloc (.cells #[u] 210)) (.slice kp kl.length kc) kl:=ay.keep h.ints ((hu.trans bq).kept _)
 have SU:∀W,(w2.alloc (.cells #[u] 210)).grownBy W kv.ownBlock->ay (fun b=>b≠B/\kv.ownBlock≠some b) W (.slice kp kl.length kc) kl:=fun W hg =>
  ay.keep hi2 fun b hb hl=>hg.block b hl fun e=>hb.2 e.symm
 refine ⟨vs,aT.len rs hv,ho,by omega,fun W hg=>?_,fun g c W hown hg eZ=>?_⟩
 ·have hc:=hW.cells
  have N3:some B≠kv.ownBlock:=fun e=>by have:=(hkb B e.symm).2;omega
  have hBa:B<(w2.alloc (.cells #[u] 210)).heap.size:=by omega
  refine ⟨?_,?_,fun b o v hb hcb=>?_,SU W hg⟩
  ·rw [hg.cell_far (a:=⟨B,1,none⟩) hBa N3];exact hc.2.1
  ·rw [hg.frozen_far (a:=⟨B,1,none⟩) hBa N3];exact hc.2.2.2
  ·have h1:=((h.up.trans hu).trans bq)
   have hlo:=h.lo;rw [hg.cell_far _ (mm hb h1.size) (fun e=>by have:=(hkb b e.symm).2;omega)];exact h1.cell hcb
 ·have LU:∀b,(Value.slice (some ⟨g,0,none⟩) (vs.length+1) c).ownBlock=some b->kv.ownBlock=some b\/(w2.alloc (.cells #[u] 210)).heap.size<=b:=fun b hb=>by
   injection hb with hb
   have hb:g=b:=hb
   subst hb
   rcases eZ with h1 | h1
   ·exact .inl h1
   ·exact .inr (by omega)
  have hlo:=h.lo
  have hw:=h.uq.lo
  refine ⟨hW.push (cK.keep (bq.kept _) r hr) (by omega) hBl (fun b hb=>(hkb b hb).1) hv hown hg LU,?_,?_,h.lo⟩
  ·have h1:=(h.up.trans hu).trans bq
   refine ⟨hg.os.trans h1.os,hg.tape.trans h1.tape,hg.output.trans h1.output,?_,fun b hb=>?_⟩
   ·have:=h1.size;have:=hg.size;simp only [ox];omega
   ·rw [blk_setCell_other _ _ _ _ (by omega:b≠B),hg.block b (mm hb h1.size) (fun e=>by have:=(hkb b e.symm).2;omega)]
    exact h1.block b hb
  ·have h2:=SU W hg
   have h3:ay (fun b=>b≠B/\kv.ownBlock≠some b/\(Value.slice (some ⟨g,0,none⟩) (vs.length+1) c).ownBlock≠some b) (w2.alloc (.cells #[u] 210)) (.slice kp kl.length kc) kl:=ay.sub hi2 fun b hb hl=>⟨hb.1,hb.2,fun e=>by
    rcases LU b e with h5 | h5
    ·exact hb.2 h5
    ·omega⟩
   have h4:=ay.keep (w':=W.setCell ⟨B,1,none⟩ (.slice (some ⟨g,0,none⟩) (vs.length+1) c)) h3 fun b hb hl=>(blk_setCell_other _ _ _ _ hb.1).trans (hg.block b hl fun e=>hb.2.1 e.symm)
   exact ay.sub h4 fun b hb _=>⟨hb.1,hb.2.2⟩
theorem QW {S:Nat->Prop} {w:World} {b off n cap:Nat} {xs:List Int} (h:ay S w (.slice (some ⟨b,off,none⟩) n cap) xs) {k:Nat} (hk:k<xs.length):w.cell? ⟨b,off+k,none⟩=some (.int .i64 (gi xs k)):=by
 obtain ⟨b',o',e,hc⟩:=gp h hk;injection e with e;injection e with e1 e2;subst e1;subst e2;exact hc
def Dc (w:World) (r:RT) (e:Ending) (w':World):Prop:=Up w w'/\∃u,e=.returned u/\cK (fun b=>w.heap.size<=b) w' r u
theorem Er {l:List Nat} {k:Nat} (h:k<l.length):gi (eX l) k=(l[k]:Nat):=by simp [gi,eX,h]
theorem pY {S:Nat->Prop} {w:World} {r:RT} {u:Value} (h:cK S w r u):∃b,u=.pointer (some ⟨b,0,none⟩):=by
 obtain ⟨b,_,_,_,e,_⟩:=h.open;exact ⟨b,e⟩
theorem Kr (S:Nat->Prop) (t:aF) (ht:aB t=0):∀(d n:Nat),dx t n<=d->n<t.ps.length->∀(w:World) (v:Value),aC S w v t->Calls Tryz.prog 207 #[v,.int .i64 n] w (Dc w (aV (fU t) (dx t) n)):=by
 intro d
 induction d with
 | zero=>intro n hd hn;unfold dx at hd;omega
 | succ d ih =>
 intro n hd hn w v hT;obtain ⟨_,C8,hnl,hpk,_⟩:=aM ht;have hwf:=(eM ht).wf;obtain ⟨P,N,rfl,hP,hN⟩:=hT;obtain ⟨pp,pc,rfl,_,_⟩:=aA.open hP;obtain ⟨np,nc,rfl,_,_⟩:=aA.open hN;have hP:ay S w (.slice pp t.ps.length pc) t.ps:=hP;have hN:av S w (.slice np t.ns.length nc) t.ns:=hN;have bq:=Up.alloc w (.cells #[.slice pp t.ps.length pc,.slice np t.ns.length nc] 39);have b0:=fO w (.slice pp t.ps.length pc) (.slice np t.ns.length nc) 39;have b1:=fP w (.slice pp t.ps.length pc) (.slice np t.ns.length nc) 39
 have hsz:(w.alloc (.cells #[.slice pp t.ps.length pc,.slice np t.ns.length nc] 39)).heap.size=w.heap.size+1:=aL _ _;have Es:Hid (aC S (w.alloc (.cells #[.slice pp t.ps.length pc,.slice np t.ns.length nc] 39)) (.agg #[.slice pp t.ps.length pc,.slice np t.ns.length nc]) t):=aC.keep ⟨_,_,rfl,hP,hN⟩ (bq.kept S);obtain ⟨sb,so,rfl,hsc⟩:=cA (av.keep hN (bq.kept S)) (k:=n) (by rw [hnl];exact hn);have hn2:(n:Int)<(t.ns.length:Int):=by omega
 have hn0:(0:Int)<=(n:Int):=by omega
 have jK:=aa b0;have gT:=aa b1;have HU:=aa bq;have dm:=aa hsz;have HN:=aa hn;have H64:=aa C8;have kD:Hid (∀c∈b7 t.ps n,∀W u,aC S W u t->Calls Tryz.prog 207 #[u,.int .i64 (c:Nat)] W (Dc W (aV (fU t) (dx t) c))):=fun c hc W u hu=>by have hk:=hwf.kid n hn c hc;exact ih c (by omega) hk.1 W u hu
 have HRF:Hid (aV (fU t) (dx t) n=.node (gs t.ns n) ((b7 t.ps n).map (aV (fU t) (dx t)))):=dY hwf hn;have e9:Hid ((b7 t.ps n).length<=64):=by have:=oM t n;rw [kM] at this;unfold Hid;omega
 clear bq hP hN hnl hpk ih hd hn hwf
 go_enter Tryz.func207,Tryz.ntmps207
 go_wp2_with fail;generalize w.alloc (.cells #[.slice pp t.ps.length pc,.slice (some ⟨sb,so,none⟩) t.ns.length nc] 39)=w1 at *;have hst:=lJ.start w1 (base:=w.heap.size) (by rw [dm.out];omega) (gs t.ns n);have QX:=Up.alloc w1 (.cells #[.string (gs t.ns n),.slice none 0 0] 254);have hs1:(w1.alloc (.cells #[.string (gs t.ns n),.slice none 0 0] 254)).heap.size=w1.heap.size+1:=aL _ _;refine (Kq S _ _ t n (Es.out.keep (QX.kept S)) (by omega) HN.out).mono ?_;rintro e w2 ⟨aJ,kvv,rfl,hki⟩;have aJ:Up (w1.alloc (.cells #[.string (gs t.ns n),.slice none 0 0] 254)) w2:=aJ
 obtain ⟨kp,kc,rfl,_,_⟩:=aA.open hki;have hG0:GI w1 w.heap.size (w.heap.size+1) (gs t.ns n) (eX (b7 t.ps n)) kp kc w2 (.slice none 0 0) (((b7 t.ps n).take 0).map (aV (fU t) (dx t))):=by rw [dm.out] at hst hs1;exact ⟨hst.up aJ,QX.trans aJ,ay.sub hki fun b hb _=>⟨by rw [hs1] at hb;omega,fun e=>by cases e⟩,by rw [dm.out];exact ah _⟩
 have vv:=aa hG0;clear hst QX hs1 aJ hki hG0 b0 b1;have rA:(eX (b7 t.ps n)).length=(b7 t.ps n).length:=by simp [eX]
 rw [rA];obtain ⟨L,hL⟩:∃L,L=b7 t.ps n:=⟨_,rfl⟩;rw [<- hL] at e9 kD HRF vv ⊢;clear hL rA;go_wp2_with fail
 go_loopw [7] (fun i wr=>∃(k:Nat) (kv:Value),k<=L.length/\i=.int .i64 k/\Hid (GI w1 w.heap.size (w.heap.size+1) (gs t.ns n) (eX L) kp kc wr kv ((L.take k).map (aV (fU t) (dx t))))) (fun i _=>L.length - (intOf i).toNat)
 case atStart=>exact ⟨0,_,aI _,rfl,vv.out⟩
 case round =>
  obtain ⟨k,kv,hk,rfl,hG⟩:=hrel;obtain ⟨wo,rfl⟩:∃wo:World,wo=wr:=⟨_,rfl⟩;by_cases hlt:k<L.length
  ·have hc:=hG.out.uq.cells
   (have fT:k<(eX L).length:=by simp [eX];exact hlt);obtain ⟨ib,io,rfl,hic⟩:=gp hG.out.ints fT;rw [Er hlt] at hic;have HCM:Hid (L[k]∈L):=lz hlt;(have lK:Hid ((L.take (k+1)).map (aV (fU t) (dx t))=(L.take k).map (aV (fU t) (dx t))++[aV (fU t) (dx t) L[k]]):=by unfold Hid;rw [jo hlt,cm];rfl);have HCG:Hid (gi (eX L) k=(L[k]:Nat)):=Er hlt;generalize L[k]=c at *
   have iB:Hid (∀W,Up wo W->Calls Tryz.prog 207 #[.agg #[.slice pp t.ps.length pc,.slice (some ⟨sb,so,none⟩) t.ns.length nc],.int .i64 (c:Nat)] W (Dc W (aV (fU t) (dx t) c))):=fun W hW=>kD.out c HCM.out W _ (Es.out.keep ((hG.out.up.trans hW).kept S));generalize aV (fU t) (dx t) c=r at *;have hk1:=hc.2.1;have hk2:=hc.2.2.2;have hb0:=hG.out.up.cell jK.out;have hb1:=hG.out.up.cell gT.out;(have i1:(0:Int)<=(k:Int):=by omega);(have i2:(k:Int)<(L.length:Int):=by omega);(have i3:(k:Int)<64:=by have:=e9.out;omega);have bG:=aa hlt
   have pE:Hid (∀W,Up wo W->W.cell? ⟨w.heap.size+1,1,none⟩=some kv/\W.cell? ⟨w.heap.size,0,none⟩=some (.slice pp t.ps.length pc)/\W.cell? ⟨w.heap.size,1,none⟩=some (.slice (some ⟨sb,so,none⟩) t.ns.length nc)/\W.cell? ⟨ib,io+k,none⟩=some (.int .i64 (c:Nat))):=fun W hW=>⟨hW.cell hk1,hW.cell hb0,hW.cell hb1,hW.cell hic⟩;have SV:=aa hG.out;clear hc fT hk hlt hG;go_wp2_with fail
   refine eC (by kernel_rfl) 16 (fun w'=>w'.cell? ⟨w.heap.size+1,1,none⟩=some kv/\w'.cell? ⟨w.heap.size,0,none⟩=some (.slice pp t.ps.length pc)/\w'.cell? ⟨w.heap.size,1,none⟩=some (.slice (some ⟨sb,so,none⟩) t.ns.length nc)/\w'.cell? ⟨ib,io+k,none⟩=some (.int .i64 (c:Nat))) (pE.out _ (mD wo)) (fun hS=>?_);simp only [fo,aO,dz,Nat.reduceAdd,ic,ig,fk,cw,bz];refine af.tk 0 hS ?_;try simp only [Act.put,aj,aq,au]
   refine af.tk 1 hS ?_;(try simp only [Act.put,aj,aq,au]);refine af.tk 2 hS ?_;(try simp only [Act.put,aj,aq,au]);refine af.tk 3 hS ?_;(try simp only [Act.put,aj,aq,au]);refine af.tk 4 hS ?_;(try simp only [Act.put,aj,aq,au]);refine af.tk 5 hS ?_;(try simp only [Act.put,aj,aq,au]);refine af.tk 6 hS ?_
   (try simp only [Act.put,aj,aq,au]);refine af.tk 7 hS ?_;(try simp only [Act.put,aj,aq,au]);refine af.tk 8 hS ?_;(try simp only [Act.put,aj,aq,au]);refine af.tk 9 hS ?_;(try simp only [Act.put,aj,aq,au]);refine af.step (i:=10) rfl (by kernel_rfl) (fun K' hK=>?_);go_simp;refine (iB.out _ (mD wo)).mono ?_;rintro e w3 ⟨dg,u,rfl,hr3⟩;have dg:Up wo.drew w3:=dg
   obtain ⟨ub,rfl⟩:=pY hr3;have ek:=aa ((mD wo).trans dg);obtain ⟨vs,hvl,hown,sH,Wi,Cg⟩:=SV.out.push ek.out hr3;have HOW:=aa hown;have pg:=aa sH;have Ga:=aa Wi;have B1:=aa Cg;(have HVL:Hid (vs.length<=1000000):=by have:=bG.out;have:=e9.out;rw [aD,dD] at hvl;unfold Hid;omega);have nO:Hid ((w3.alloc (.cells #[.pointer (some ⟨ub,0,none⟩)] 210)).cell? ⟨w3.heap.size,0,none⟩=some (.pointer (some ⟨ub,0,none⟩))):=yu _ _ _;clear dg hr3 hown sH Wi Cg hvl;refine hK.out _ _ (fun _=>pE.out _ ek.out) (fun hS=>?_)
   replace hS:=hS ⟨11,by decide,rfl⟩;(try simp only [aj,aq,au]);refine af.step (i:=11) rfl (by kernel_rfl) (fun K' hK=>?_);go_simp;refine hK.out _ _ (fun _=>pE.out _ (ek.out.trans (Up.alloc _ _))) (fun hS=>?_);replace hS:=hS ⟨12,by decide,rfl⟩;(try simp only [aj,aq,au]);refine af.step (i:=12) rfl (by kernel_rfl) (fun K' hK=>?_)
   refine gN (by rfl) _ _ _ (by rfl) (w.heap.size+1+1) 210 _ 8 Tryz.underlying252 Tryz.qJ (by rfl) (by decide) (by rfl) HOW.out (.pointer (some ⟨ub,0,none⟩)) w3.heap.size (by rfl) nO.out (by rfl) HVL.out pg.out ?_;intro g cap w4 uh hg4 yB Gc;obtain ⟨q1,q2,q3,q4⟩:=Ga.out w4 hg4;(have q5:w4.cell? ⟨ib,io+k,none⟩=some (.int .i64 (c:Nat)):=by rw [QW q4 (by simp [eX];exact bG.out),HCG.out]);have q6:=q3 _ _ _ (by rw [dm.out];omega) jK.out;have q7:=q3 _ _ _ (by rw [dm.out];omega) gT.out;have Np:=aa (B1.out g cap w4 uh hg4 yB)
   clear uh hg4 yB Gc q3 q4;refine hK.out _ _ (fun _=>⟨q1,q6,q7,q5⟩) (fun hS=>?_);replace hS:=hS ⟨15,by decide,rfl⟩;(try simp only [Act.put,aj,aq,au]);refine af.tk 13 hS ?_;(try simp only [Act.put,aj,aq,au]);refine af.tk 14 hS ?_;(try simp only [Act.put,aj,aq,au]);refine af.step (i:=15) rfl (by kernel_rfl) (fun K' hK=>?_);go_simp;refine hK.out _ _ (aS (by kernel_rfl)) (fun hS=>?_)
   refine af.done (by kernel_rfl) ?_;go_wp2_with fail
   go_roundw
   case rel=>exact ⟨k+1,_,bG.out,by go_num,by rw [lK.out];exact Np.out⟩
   case measure=>have:=bG.out;simp [intOf];omega
  ·obtain rfl:k=L.length:=by omega
   have SV:=aa hG.out;clear hG;go_wp2_with fail;go_ret;refine ⟨HU.out.trans SV.out.up,_,rfl,?_⟩;have h:=SV.out.uq.done;rw [eT] at h;rw [HRF.out];exact h
section
variable {P:Program} {ops:Array Oper} {o:Oper} {a:Act} {w:World} {K:Act->World->Prop} {Q:Exit->Act->World->Prop} {E:Prop}
theorem yN (hgd:o.guard=none) (s x:Operand) (t:TypeId) (ho:o.op=.call { callee:=.builtin .append,args:=#[s,x],argTypes:=#[t,t] })
  (e:TypeId) (z:Value) (bytes:Nat) (ht:P.underlying t=some (.slice e)) (hinfo:(P.info? e).map (fun i=>(i.zero,i.size,i.bytes))=some (some z,1,bytes))
  (hz1:z.cells.size=1) (gL:bytes<=64) {ao:Option Addr} {n:Nat} {olds:List Value} (hs:a.eval s=.slice ao n n) (hnone:ao=none->n=0) (hlo:olds.length=n) (holds:∀b,ao=some b->∀j u,olds[j]? = some u->w.cell? (b.add j)=some u)
  {ad:Addr} {m c:Nat} {news:List Value} (hx:a.eval x=.slice (some ad) m c) (hl:news.length=m) (hnews:∀j u,news[j]? = some u->w.cell? (ad.add j)=some u) (h1:∀u∈news,u.oneCell'=true) (hm:0<m) (hn:n+m<=1000000)
  (h:∀g cap w',ax w.heap.size e w' (.slice (some ⟨g,0,none⟩) (n+m) cap) (olds++news)->Up w w'->K (a.put o.dst (.slice (some ⟨g,0,none⟩) (n+m) cap)) w') :
  if Region.wanted o (yielded ops a.tmps)=true then Oper.wp P o a w K Q else E:=by
 have hw:Region.wanted o (yielded ops a.tmps)=true:=by simp [Region.wanted,hgd]
 rw [if_pos hw];obtain ⟨i,hi,hzz⟩:=iq.1 hinfo;simp only [iM] at hzz;obtain ⟨hz,hs1,hb⟩:=hzz;have hb1:n+m<=maxLen:=by unfold maxLen;omega
 have hb2:(n+m)*bytes<=140737488355328:=by have:(n+m)*bytes<=(n+m)*64:=mS _ gL;omega
 have fin:∀v' w',w'.ownsRow w.heap.size e 1 v' (n+m) (olds++news)->w.grownBy w' none->K (a.put o.dst v') w':=fun v' w' r1 r2=>by
  have hlen:(olds++news).length=n+m:=by rw [bg,hlo,hl]
  have hown:ax w.heap.size e w' v' (olds++news):=by unfold ax;rw [hlen];exact r1
  have fL:Up w w':=⟨r2.os,r2.tape,r2.output,r2.size,fun b hb=>r2.block b hb (fun e=>by cases e)⟩;obtain ⟨h2,h3 | ⟨g,c',cur,h3,_⟩⟩:=hown
  ·omega
  ·rw [hlen] at h3
   subst h3;exact h g c' w' (by unfold ax;rw [hlen];exact r1) fL
 cases ao with
 | some b =>
  obtain ⟨v',w',hrun,r1,r2⟩:=run_append_arg_grows (P:=P) w t o.type e i z 1 bytes ht hi hz hs1 hb hz1 (by omega) b n n olds (by omega) (holds b rfl) ad m c news (by omega) hnews (by omega) hb1 hb2;unfold Oper.wp;simp [execOp,ho,resolve,invoke,builtin,hs,hx,hrun,Result.andThen];exact fin v' w' r1 r2
 | none =>
  obtain rfl:=hnone rfl;obtain rfl:olds=[]:=lu hlo;obtain ⟨v',w',hrun,r1,r2,_⟩:=run_append_own (P:=P) w w.heap.size t o.type e i z 1 bytes ht hi hz hs1 hb hz1 (by omega) (.slice none 0 0) 0 [] (World.ownsRow_nil w _ e 1) ad m c news (by omega) hnews h1 hb1 hb2 (ah _);unfold Oper.wp;simp [execOp,ho,resolve,invoke,builtin,hs,hx,hrun,Result.andThen];exact fin v' w' r1 r2
theorem N5 (hgd:o.guard=none) (s x:Operand) (t:TypeId) (ho:o.op=.call { callee:=.builtin .append,args:=#[s,x],argTypes:=#[t,t] })
  (e:TypeId) (z:Value) (bytes:Nat) (ht:P.underlying t=some (.slice e)) (hinfo:(P.info? e).map (fun i=>(i.zero,i.size,i.bytes))=some (some z,1,bytes))
  {ao:Option Addr} {n c:Nat} (hs:a.eval s=.slice ao n c) (hle:n<=c) {ad:Option Addr} {c2:Nat} (hx:a.eval x=.slice ad 0 c2)
  (h:K (a.put o.dst (.slice ao n c)) w):if Region.wanted o (yielded ops a.tmps)=true then Oper.wp P o a w K Q else E:=by
 have hw:Region.wanted o (yielded ops a.tmps)=true:=by simp [Region.wanted,hgd]
 rw [if_pos hw];obtain ⟨i,hi,hzz⟩:=iq.1 hinfo;have hrun:(Builtin.append_ #[t,t] o.type #[.slice ao n c,.slice ad 0 c2]).run P w=.ok (.slice ao n c) w:=by cases ao<;>cases ad<;>simp [Builtin.append_,run_underlying ht,sizeOf,typeInfo,hi,Builtin.lenOf,hle,Builtin.firstCells,storeCells,loadCells,loadCellsFrom]
 unfold Oper.wp;simp [execOp,ho,resolve,invoke,builtin,hs,hx,hrun,Result.andThen];exact h
end
theorem aT.Wj {S:Nat->Prop} {w:World}:∀(a b:List RT) {vs us:List Value},aT S w a vs->aT S w b us->aT S w (a++b) (vs++us)
 | [],b,vs,us,h,h2=>by unfold aT at h;subst h;exact h2
 | r::a,b,vs,us,h,h2=>by
  unfold aT at h
  obtain ⟨u,q,rfl,h3,h4⟩:=h
  show aT S w (r::(a++b)) (u::(q++us))
  unfold aT
  exact ⟨u,q++us,rfl,h3,aT.Wj a b h4 h2⟩
theorem aT.SX {S:Nat->Prop} {w:World}:∀(a:List RT) (k:Nat) {vs:List Value},aT S w a vs->aT S w (a.take k) (vs.take k)
 | [],k,vs,h=>by unfold aT at h;subst h;simp [aT]
 | r::a,0,vs,h=>by simp [aT]
 | r::a,k+1,vs,h=>by
  unfold aT at h
  obtain ⟨u,q,rfl,h3,h4⟩:=h
  rw [wI,wI]
  unfold aT
  exact ⟨u,_,rfl,h3,aT.SX a k h4⟩
theorem aT.SY {S:Nat->Prop} {w:World}:∀(a:List RT) (k:Nat) {vs:List Value},aT S w a vs->aT S w (a.drop k) (vs.drop k)
 | [],k,vs,h=>by unfold aT at h;subst h;simp [aT]
 | r::a,0,vs,h=>h
 | r::a,k+1,vs,h=>by
  unfold aT at h
  obtain ⟨u,q,rfl,h3,h4⟩:=h
  rw [List.drop_succ_cons,List.drop_succ_cons]
  exact aT.SY a k h4
theorem lJ.lay {base B X:Nat} {w W:World} {nm:ByteArray} {kv kv':Value} {acc:List RT} {sZ:List Value} {o:RT} {u:Value} (h:lJ base B w nm kv acc) (Cf:aT (fun b=>base<=b/\b≠B/\kv.ownBlock≠some b) w acc sZ) (hu:Up w W) (hX:w.heap.size<=X)
  (hkb:∀b,kv'.ownBlock=some b->X<=b) (hr:cK (fun b=>w.heap.size<=b/\b<X) W o u) (k:Nat) (ho:ax (B+1) 210 W kv' (sZ.take k++u::sZ.drop k)) :
  lJ base B (W.setCell ⟨B,1,none⟩ kv') nm kv' (acc.take k++o::acc.drop k):=by
 have hBl:=h.lt;have dw:∀b,b≠B->(W.setCell ⟨B,1,none⟩ kv').heap[b]? = W.heap[b]?:=fun b hb=>blk_setCell_other _ _ _ _ hb;have hn:=(bH hu B hBl).trans h.node;have hlo:=h.lo;refine ⟨by simp [World.setCell,Array.getElem?_modify,hn],h.lo,_,ho.iC fun b hb=>dw b (by have:=hkb b hb;omega),?_⟩;have k1:Kept (fun b=>base<=b/\b≠B/\kv'.ownBlock≠some b) w (W.setCell ⟨B,1,none⟩ kv'):=fun b hb hl=>(dw b hb.2.1).trans (bH hu b hl);have a1:aT (fun b=>base<=b/\b≠B/\kv'.ownBlock≠some b) (W.setCell ⟨B,1,none⟩ kv') acc sZ :=
  aT.keep k1 acc (aT.sub (fun b hb hl=>⟨hb.1,hb.2.1,fun e=>by have:=hkb b e;omega⟩) acc Cf)
 have k2:Kept (fun b=>base<=b/\b≠B/\kv'.ownBlock≠some b) W (W.setCell ⟨B,1,none⟩ kv'):=fun b hb _=>dw b hb.2.1;have a2:cK (fun b=>base<=b/\b≠B/\kv'.ownBlock≠some b) (W.setCell ⟨B,1,none⟩ kv') o u :=
  cK.keep k2 o (cK.sub (fun b hb _=>⟨by have:=hb.1;omega,by have:=hb.1;omega,fun e=>by have:=hkb b e;have:=hb.2;omega⟩) o hr)
 refine aT.Wj _ _ (aT.SX acc k a1) ?_;unfold aT;exact ⟨u,sZ.drop k,rfl,a2,aT.SY acc k a1⟩
def QY (a:Option Addr) (n c:Nat):Option Addr:=if c=n then a else Option.map (fun x=>x.add n) a
theorem all_none {S:Nat->Prop} {w:World} {n c:Nat} {f:Nat->Value} {a:Option Addr} (h:aA S w (.slice a n c) n f) (e:a=none):n=0:=by
 subst e;by_cases hn:n=0
 ·exact hn
 ·obtain ⟨q,c',e,_,H⟩:=aA.open h
  injection e with e;subst e;obtain ⟨b,off,e2,_⟩:=H 0 (by omega);cases e2
theorem N6 {S:Nat->Prop} {w:World} {n c:Nat} {vs:List Value} {a:Option Addr} (h:aA S w (.slice a n c) n (vN vs)) (hl:vs.length=n) (b:Addr) (e:a=some b) (i:Nat) (q:Value) (hq:vs[i]? = some q):w.cell? (b.add i)=some q:=by
 have hki:i<n:=by rw [<- hl];exact (mj.1 hq).1
 obtain ⟨b',o',e2,hc⟩:=oQ h hki;rw [e] at e2;injection e2 with e2;subst e2;have hv:vN vs i=q:=by unfold vN;rw [fh,hq];rfl
 rw [hv] at hc;rw [Addr.add_lit];exact hc
end
end Go.Proofs.YthgabkgmkolobaaGreat
