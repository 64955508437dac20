/- The contract of layer 31's reference's .. -/
import Derived.ArgAppend
import Derived.Test.YthgabkgmkolobaaGreatQ13
set_option maxRecDepth 100000
set_option maxHeartbeats 4000000
namespace Go.Proofs.YthgabkgmkolobaaGreat
section
open Go.RowKit Go.Deep
theorem Tryz.E0:(Tryz.prog.info? 210).map (fun i=>(i.zero,i.size,i.bytes))=some (some (.pointer none),1,8):=by kernel_rfl
structure PU (w1:World) (base B:Nat) (nm:ByteArray) (kl:List Int) (kp:Option Addr) (kc:Nat) (wr:World) (kv:Value) (rs:List RT):Prop where
 TT:sS base B wr nm kv rs
 up:Up w1 wr
 ints:af (fun b=>b≠B/\kv.ownBlock≠some b) wr (.slice kp kl.length kc) kl
 lo:w1.heap.size<=B
theorem jh (w:World):Up w w.drew:=Up.drewN w 1
theorem PU.push {w1:World} {base B:Nat} {nm:ByteArray} {kl:List Int} {kp:Option Addr} {kc:Nat} {wr w2:World} {kv:Value} {rs:List RT} (h:PU w1 base B nm kl kp kc wr kv rs) {r:RT} {u:Value} (hu:Up wr w2) (hr:fN (fun b=>wr.heap.size<=b) w2 r u) :
  ∃vs:List Value,vs.length=rs.length/\au (B+1) 210 (w2.alloc (.cells #[u] 210)) kv vs/\B+1<=(w2.alloc (.cells #[u] 210)).heap.size /\
   (∀W,(w2.alloc (.cells #[u] 210)).grownBy W kv.ownBlock->W.cell? ⟨B,1,none⟩=some kv/\W.frozen? ⟨B,1,none⟩=false/\(∀b o v,b<w1.heap.size->w1.cell? ⟨b,o,none⟩=some v->W.cell? ⟨b,o,none⟩=some v)/\af (fun b=>b≠B/\kv.ownBlock≠some b) W (.slice kp kl.length kc) kl) /\
   ∀g c W,au (B+1) 210 W (.slice (some ⟨g,0,none⟩) (vs.length+1) c) (vs++[u])->(w2.alloc (.cells #[u] 210)).grownBy W kv.ownBlock->(kv.ownBlock=some g\/g=(w2.alloc (.cells #[u] 210)).heap.size) ->
    PU w1 base B nm kl kp kc (W.setCell ⟨B,1,none⟩ (.slice (some ⟨g,0,none⟩) (vs.length+1) c)) (.slice (some ⟨g,0,none⟩) (vs.length+1) c) (rs++[r]):=by
 have fO:=Up.alloc w2 (.cells #[u] 210);have hW:=(h.TT.up hu).up fO;have hBl:=h.TT.lt;have hsz:=hu.size;have JO:(w2.alloc (.cells #[u] 210)).heap.size=w2.heap.size+1:=aQ _ _;obtain ⟨vs,ho,hv⟩:=hW.kids;obtain ⟨vs0,OH,_⟩:=h.TT.kids;have hkb:∀b,kv.ownBlock=some b->b<wr.heap.size/\B<b:=fun b hb=>⟨(av OH hb).2,by have:=(av OH hb).1;omega⟩;have hi2:af (fun b=>b≠B/\kv.ownBlock≠some b) (w2.alloc (.cells #[u] 210)) (.slice kp kl.length kc) kl:=af.keep h.ints ((hu.trans fO).kept _);have PV:∀W,(w2.alloc (.cells #[u] 210)).grownBy W kv.ownBlock->af (fun b=>b≠B/\kv.ownBlock≠some b) W (.slice kp kl.length kc) kl:=fun W hg =>
  af.keep hi2 fun b hb hl=>hg.block b hl fun e=>hb.2 e.symm
 refine ⟨vs,bw.len rs hv,ho,by omega,fun W hg=>?_,fun g c W hown hg gH=>?_⟩
 ·have hc:=hW.cells
  have hBo:some B≠kv.ownBlock:=fun e=>by have:=(hkb B e.symm).2;omega
  have hBa:B<(w2.alloc (.cells #[u] 210)).heap.size:=by omega
  refine ⟨?_,?_,fun b o v hb hcb=>?_,PV W hg⟩
  ·rw [hg.cell_far (a:=⟨B,1,none⟩) hBa hBo];exact hc.2.1
  ·rw [hg.frozen_far (a:=⟨B,1,none⟩) hBa hBo];exact hc.2.2.2
  ·have h1:=((h.up.trans hu).trans fO)
   have hlo:=h.lo;rw [hg.cell_far _ (iI hb h1.size) (fun e=>by have:=(hkb b e.symm).2;omega)];exact h1.cell hcb
 ·have agh:∀b,(Value.slice (some ⟨g,0,none⟩) (vs.length+1) c).ownBlock=some b->kv.ownBlock=some b\/(w2.alloc (.cells #[u] 210)).heap.size<=b:=fun b hb=>by
   injection hb with hb
   have hb:g=b:=hb
   subst hb
   rcases gH with h1 | h1
   ·exact .inl h1
   ·exact .inr (by omega)
  have hlo:=h.lo
  have hw:=h.TT.lo
  refine ⟨hW.push (fN.keep (fO.kept _) r hr) (by omega) hBl (fun b hb=>(hkb b hb).1) hv hown hg agh,?_,?_,h.lo⟩
  ·have h1:=(h.up.trans hu).trans fO
   refine ⟨hg.os.trans h1.os,hg.tape.trans h1.tape,hg.output.trans h1.output,?_,fun b hb=>?_⟩
   ·have:=h1.size;have:=hg.size;simp only [nh];omega
   ·rw [blk_setCell_other _ _ _ _ (by omega:b≠B),hg.block b (iI hb h1.size) (fun e=>by have:=(hkb b e.symm).2;omega)]
    exact h1.block b hb
  ·have h2:=PV W hg
   have h3:af (fun b=>b≠B/\kv.ownBlock≠some b/\(Value.slice (some ⟨g,0,none⟩) (vs.length+1) c).ownBlock≠some b) (w2.alloc (.cells #[u] 210)) (.slice kp kl.length kc) kl:=af.sub hi2 fun b hb hl=>⟨hb.1,hb.2,fun e=>by
    rcases agh b e with h5 | h5
    ·exact hb.2 h5
    ·omega⟩
   have h4:=af.keep (w':=W.setCell ⟨B,1,none⟩ (.slice (some ⟨g,0,none⟩) (vs.length+1) c)) h3 fun b hb hl=>(blk_setCell_other _ _ _ _ hb.1).trans (hg.block b hl fun e=>hb.2.1 e.symm)
   exact af.sub h4 fun b hb _=>⟨hb.1,hb.2.2⟩
theorem aa9 {S:Nat->Prop} {w:World} {b off n cap:Nat} {xs:List Int} (h:af S w (.slice (some ⟨b,off,none⟩) n cap) xs) {k:Nat} (hk:k<xs.length):w.cell? ⟨b,off+k,none⟩=some (.int .i64 (gi xs k)):=by
 obtain ⟨b',o',e,hc⟩:=bU h hk;injection e with e;injection e with e1 e2;subst e1;subst e2;exact hc
def K7 (w:World) (r:RT) (e:Ending) (w':World):Prop:=Up w w'/\∃u,e=.returned u/\fN (fun b=>w.heap.size<=b) w' r u
theorem MH {l:List Nat} {k:Nat} (h:k<l.length):gi (iL l) k=(l[k]:Nat):=by simp [gi,iL,h]
theorem F9 {S:Nat->Prop} {w:World} {r:RT} {u:Value} (h:fN S w r u):∃b,u=.pointer (some ⟨b,0,none⟩):=by
 obtain ⟨b,_,_,_,e,_⟩:=h.open;exact ⟨b,e⟩
theorem aey (S:Nat->Prop) (t:ax) (ht:aA t=0):∀(d n:Nat),dI t n<=d->n<t.ps.length->∀(w:World) (v:Value),aG S w v t->Calls Tryz.prog 207 #[v,.int .i64 n] w (K7 w (bE (fA t) (dI t) n)):=by
 intro d
 induction d with
 | zero=>intro n hd hn;unfold dI at hd;omega
 | succ d ih =>
 intro n hd hn w v hT;obtain ⟨_,K3,hnl,hpk,_⟩:=aH ht;have hwf:=(ew ht).wf;obtain ⟨P,N,rfl,hP,hN⟩:=hT;obtain ⟨pp,pc,rfl,_,_⟩:=aq.open hP;obtain ⟨np,nc,rfl,_,_⟩:=aq.open hN;have hP:af S w (.slice pp t.ps.length pc) t.ps:=hP;have hN:aj S w (.slice np t.ns.length nc) t.ns:=hN;have fO:=Up.alloc w (.cells #[.slice pp t.ps.length pc,.slice np t.ns.length nc] 39);have b0:=iq w (.slice pp t.ps.length pc) (.slice np t.ns.length nc) 39;have b1:=jg w (.slice pp t.ps.length pc) (.slice np t.ns.length nc) 39;have hsz:(w.alloc (.cells #[.slice pp t.ps.length pc,.slice np t.ns.length nc] 39)).heap.size=w.heap.size+1:=aQ _ _;have Cq:Hid (aG S (w.alloc (.cells #[.slice pp t.ps.length pc,.slice np t.ns.length nc] 39)) (.agg #[.slice pp t.ps.length pc,.slice np t.ns.length nc]) t):=aG.keep ⟨_,_,rfl,hP,hN⟩ (fO.kept S);obtain ⟨sb,so,rfl,hsc⟩:=cH (aj.keep hN (fO.kept S)) (k:=n) (by rw [hnl];exact hn);have hn2:(n:Int)<(t.ns.length:Int):=by omega
 have hn0:(0:Int)<=(n:Int):=by omega
 have mz:=aa b0;have mO:=aa b1;have HU:=aa fO;have dM:=aa hsz;have HN:=aa hn;have H64:=aa K3;have oO:Hid (∀c∈bL t.ps n,∀W u,aG S W u t->Calls Tryz.prog 207 #[u,.int .i64 (c:Nat)] W (K7 W (bE (fA t) (dI t) c))):=fun c hc W u hu=>by have hk:=hwf.kid n hn c hc;exact ih c (by omega) hk.1 W u hu
 have HRF:Hid (bE (fA t) (dI t) n=.node (gs t.ns n) ((bL t.ps n).map (bE (fA t) (dI t)))):=fh hwf hn;have pX:Hid ((bL t.ps n).length<=64):=by have:=uu t n;rw [jW] at this;unfold Hid;omega
 clear fO hP hN hnl hpk ih hd hn hwf;go_in;go_wp2_with fail;generalize w.alloc (.cells #[.slice pp t.ps.length pc,.slice (some ⟨sb,so,none⟩) t.ns.length nc] 39)=w1 at *;have hst:=sS.start w1 (base:=w.heap.size) (by rw [dM.out];omega) (gs t.ns n);have aba:=Up.alloc w1 (.cells #[.string (gs t.ns n),.slice none 0 0] 254);have hs1:(w1.alloc (.cells #[.string (gs t.ns n),.slice none 0 0] 254)).heap.size=w1.heap.size+1:=aQ _ _;refine (TR S _ _ t n (Cq.out.keep (aba.kept S)) (by omega) HN.out).mono ?_;rintro e w2 ⟨aI,kvv,rfl,hki⟩;have aI:Up (w1.alloc (.cells #[.string (gs t.ns n),.slice none 0 0] 254)) w2:=aI;obtain ⟨kp,kc,rfl,_,_⟩:=aq.open hki;have hG0:PU w1 w.heap.size (w.heap.size+1) (gs t.ns n) (iL (bL t.ps n)) kp kc w2 (.slice none 0 0) (((bL t.ps n).take 0).map (bE (fA t) (dI t))):=by rw [dM.out] at hst hs1;exact ⟨hst.up aI,aba.trans aI,af.sub hki fun b hb _=>⟨by rw [hs1] at hb;omega,fun e=>by cases e⟩,by rw [dM.out];exact ah _⟩
 have ue:=aa hG0;clear hst aba hs1 aI hki hG0 b0 b1;have oL:(iL (bL t.ps n)).length=(bL t.ps n).length:=by simp [iL]
 rw [oL];obtain ⟨L,hL⟩:∃L,L=bL t.ps n:=⟨_,rfl⟩;rw [<- hL] at pX oO HRF ue ⊢;clear hL oL;go_wp2
 go_loopw [7] (fun i wr=>∃(k:Nat) (kv:Value),k<=L.length/\i=.int .i64 k/\Hid (PU w1 w.heap.size (w.heap.size+1) (gs t.ns n) (iL L) kp kc wr kv ((L.take k).map (bE (fA t) (dI t))))) (fun i _=>L.length - (intOf i).toNat)
 case atStart=>exact ⟨0,_,aF _,rfl,ue.out⟩
 case round =>
  obtain ⟨k,kv,hk,rfl,hG⟩:=hrel;obtain ⟨wo,rfl⟩:=eM wr;by_cases hlt:k<L.length
  ·have hc:=hG.out.TT.cells
   (have jt:k<(iL L).length:=by simp [iL];exact hlt);obtain ⟨ib,io,rfl,hic⟩:=bU hG.out.ints jt;rw [MH hlt] at hic;have Aw:Hid (L[k]∈L):=jy hlt;(have sV:Hid ((L.take (k+1)).map (bE (fA t) (dI t))=(L.take k).map (bE (fA t) (dI t))++[bE (fA t) (dI t) L[k]]):=by unfold Hid;rw [jQ hlt,cg];rfl);have HCG:Hid (gi (iL L) k=(L[k]:Nat)):=MH hlt;generalize L[k]=c at *;have gQ:Hid (∀W,Up wo W->Calls Tryz.prog 207 #[.agg #[.slice pp t.ps.length pc,.slice (some ⟨sb,so,none⟩) t.ns.length nc],.int .i64 (c:Nat)] W (K7 W (bE (fA t) (dI t) c))):=fun W hW=>oO.out c Aw.out W _ (Cq.out.keep ((hG.out.up.trans hW).kept S));generalize bE (fA t) (dI t) c=r at *;have hk1:=hc.2.1;have hk2:=hc.2.2.2;have hb0:=hG.out.up.cell mz.out;have hb1:=hG.out.up.cell mO.out;(have i1:(0:Int)<=(k:Int):=by omega);(have i2:(k:Int)<(L.length:Int):=by omega);(have i3:(k:Int)<64:=by have:=pX.out;omega);have aR:=aa hlt;have qE:Hid (∀W,Up wo W->W.cell? ⟨w.heap.size+1,1,none⟩=some kv/\W.cell? ⟨w.heap.size,0,none⟩=some (.slice pp t.ps.length pc)/\W.cell? ⟨w.heap.size,1,none⟩=some (.slice (some ⟨sb,so,none⟩) t.ns.length nc)/\W.cell? ⟨ib,io+k,none⟩=some (.int .i64 (c:Nat))):=fun W hW=>⟨hW.cell hk1,hW.cell hb0,hW.cell hb1,hW.cell hic⟩;have GJ:=aa hG.out;clear hc jt hk hlt hG;go_wp2_with fail;refine fR (by kernel_rfl) 16 (fun w'=>w'.cell? ⟨w.heap.size+1,1,none⟩=some kv/\w'.cell? ⟨w.heap.size,0,none⟩=some (.slice pp t.ps.length pc)/\w'.cell? ⟨w.heap.size,1,none⟩=some (.slice (some ⟨sb,so,none⟩) t.ns.length nc)/\w'.cell? ⟨ib,io+k,none⟩=some (.int .i64 (c:Nat))) (qE.out _ (jh wo)) (fun hS=>?_);simp only [dY,aW,dw,Nat.reduceAdd,iu,iw,dX,di,cm];refine az.kG 0 1 2 3 hS ?_;(try simp only [Act.put,aL,aM,aN]);refine az.kG 4 5 6 7 hS ?_;(try simp only [Act.put,aL,aM,aN]);refine az.xk 8 9 hS ?_;(try simp only [Act.put,aL,aM,aN]);refine az.st 10 fun K' hK=>?_;go_simp;refine (gQ.out _ (jh wo)).mono ?_;rintro e w3 ⟨cR,u,rfl,hr3⟩;have cR:Up wo.drew w3:=cR;obtain ⟨ub,rfl⟩:=F9 hr3;have eW:=aa ((jh wo).trans cR);obtain ⟨vs,hvl,hown,yJ,agi,adK⟩:=GJ.out.push eW.out hr3;have HOW:=aa hown;have Ca:=aa yJ;have aaR:=aa agi;have VK:=aa adK;(have PW:Hid (vs.length<=1000000):=by have:=aR.out;have:=pX.out;rw [aD,jl] at hvl;unfold Hid;omega);have jD:Hid ((w3.alloc (.cells #[.pointer (some ⟨ub,0,none⟩)] 210)).cell? ⟨w3.heap.size,0,none⟩=some (.pointer (some ⟨ub,0,none⟩))):=mA _ _ _;clear cR hr3 hown yJ agi adK hvl;refine hK.out _ _ (fun _=>qE.out _ eW.out) (fun hS=>?_)
   replace hS:=hS ⟨11,by decide,rfl⟩;(try simp only [aL,aM,aN]);refine az.st 11 fun K' hK=>?_;go_simp;refine hK.out _ _ (fun _=>qE.out _ (eW.out.trans (Up.alloc _ _))) (fun hS=>?_);replace hS:=hS ⟨12,by decide,rfl⟩;(try simp only [aL,aM,aN]);refine az.st 12 fun K' hK=>?_;refine fL (by rfl) _ _ _ (by rfl) (w.heap.size+1+1) 210 _ 8 Tryz.underlying252 Tryz.E0 (by rfl) (by decide) (by rfl) HOW.out (.pointer (some ⟨ub,0,none⟩)) w3.heap.size (by rfl) jD.out (by rfl) PW.out Ca.out ?_;intro g cap w4 Ak hg4 Pj aaS;obtain ⟨q1,q2,q3,q4⟩:=aaR.out w4 hg4;(have q5:w4.cell? ⟨ib,io+k,none⟩=some (.int .i64 (c:Nat)):=by rw [aa9 q4 (by simp [iL];exact aR.out),HCG.out]);have q6:=q3 _ _ _ (by rw [dM.out];omega) mz.out;have q7:=q3 _ _ _ (by rw [dM.out];omega) mO.out;have Pk:=aa (VK.out g cap w4 Ak hg4 Pj);clear Ak hg4 Pj aaS q3 q4;refine hK.out _ _ (fun _=>⟨q1,q6,q7,q5⟩) (fun hS=>?_);replace hS:=hS ⟨15,by decide,rfl⟩;(try simp only [Act.put,aL,aM,aN]);refine az.xk 13 14 hS ?_;(try simp only [Act.put,aL,aM,aN]);refine az.st 15 fun K' hK=>?_;go_simp;refine hK.out _ _ (bF ·) (fun hS=>?_);refine az.done (by kernel_rfl) ?_;go_wp2
   go_roundw
   case rel=>exact ⟨k+1,_,aR.out,by go_num,by rw [sV.out];exact Pk.out⟩
   case measure=>have:=aR.out;simp [intOf];omega
  ·obtain rfl:k=L.length:=by omega
   have GJ:=aa hG.out;clear hG;go_wp2;go_ret;refine ⟨HU.out.trans GJ.out.up,_,rfl,?_⟩;have h:=GJ.out.TT.done;rw [fT] at h;rw [HRF.out];exact h
section
variable {P:Program} {ops:Array Oper} {o:Oper} {a:Act} {w:World} {K:Act->World->Prop} {Q:Exit->Act->World->Prop} {E:Prop}
theorem E1 (hgd:o.guard=none) (s x:Operand) (t:TypeId) (ho:o.op=.call { callee:=.builtin .append,args:=#[s,x],argTypes:=#[t,t] })
  (e:TypeId) (z:Value) (bytes:Nat) (ht:P.underlying t=some (.slice e)) (hinfo:(P.info? e).map (fun i=>(i.zero,i.size,i.bytes))=some (some z,1,bytes))
  (hz1:z.cells.size=1) (lN:bytes<=64) {ao:Option Addr} {n:Nat} {olds:List Value} (hs:a.eval s=.slice ao n n) (hnone:ao=none->n=0) (hlo:olds.length=n) (holds:∀b,ao=some b->∀j u,olds[j]? = some u->w.cell? (b.add j)=some u)
  {ad:Addr} {m c:Nat} {news:List Value} (hx:a.eval x=.slice (some ad) m c) (hl:news.length=m) (hnews:∀j u,news[j]? = some u->w.cell? (ad.add j)=some u) (h1:∀u∈news,u.oneCell'=true) (hm:0<m) (hn:n+m<=1000000)
  (h:∀g cap w',au w.heap.size e w' (.slice (some ⟨g,0,none⟩) (n+m) cap) (olds++news)->Up w w'->K (a.put o.dst (.slice (some ⟨g,0,none⟩) (n+m) cap)) w') :
  if Region.wanted o (yielded ops a.tmps)=true then Oper.wp P o a w K Q else E:=by
 have hw:Region.wanted o (yielded ops a.tmps)=true:=by simp [Region.wanted,hgd]
 rw [if_pos hw];obtain ⟨i,hi,hzz⟩:=jR.1 hinfo;simp only [kX] at hzz;obtain ⟨hz,hs1,hb⟩:=hzz;have hb1:n+m<=maxLen:=by unfold maxLen;omega
 have hb2:(n+m)*bytes<=140737488355328:=by have:(n+m)*bytes<=(n+m)*64:=qO _ lN;omega
 have fin:∀v' w',w'.ownsRow w.heap.size e 1 v' (n+m) (olds++news)->w.grownBy w' none->K (a.put o.dst v') w':=fun v' w' r1 r2=>by
  have hlen:(olds++news).length=n+m:=by rw [bg,hlo,hl]
  have hown:au w.heap.size e w' v' (olds++news):=by unfold au;rw [hlen];exact r1
  have cQ:Up w w':=⟨r2.os,r2.tape,r2.output,r2.size,fun b hb=>r2.block b hb (fun e=>by cases e)⟩;obtain ⟨h2,h3 | ⟨g,c',cur,h3,_⟩⟩:=hown
  ·omega
  ·rw [hlen] at h3
   subst h3;exact h g c' w' (by unfold au;rw [hlen];exact r1) cQ
 cases ao with
 | some b =>
  obtain ⟨v',w',hrun,r1,r2⟩:=run_append_arg_grows (P:=P) w t o.type e i z 1 bytes ht hi hz hs1 hb hz1 (by omega) b n n olds (by omega) (holds b rfl) ad m c news (by omega) hnews (by omega) hb1 hb2;unfold Oper.wp;simp [execOp,ho,resolve,invoke,builtin,hs,hx,hrun,Result.andThen];exact fin v' w' r1 r2
 | none =>
  obtain rfl:=hnone rfl;obtain rfl:olds=[]:=od hlo;obtain ⟨v',w',hrun,r1,r2,_⟩:=run_append_own (P:=P) w w.heap.size t o.type e i z 1 bytes ht hi hz hs1 hb hz1 (by omega) (.slice none 0 0) 0 [] (World.ownsRow_nil w _ e 1) ad m c news (by omega) hnews h1 hb1 hb2 (ah _);unfold Oper.wp;simp [execOp,ho,resolve,invoke,builtin,hs,hx,hrun,Result.andThen];exact fin v' w' r1 r2
theorem Yc (hgd:o.guard=none) (s x:Operand) (t:TypeId) (ho:o.op=.call { callee:=.builtin .append,args:=#[s,x],argTypes:=#[t,t] })
  (e:TypeId) (z:Value) (bytes:Nat) (ht:P.underlying t=some (.slice e)) (hinfo:(P.info? e).map (fun i=>(i.zero,i.size,i.bytes))=some (some z,1,bytes))
  {ao:Option Addr} {n c:Nat} (hs:a.eval s=.slice ao n c) (hle:n<=c) {ad:Option Addr} {c2:Nat} (hx:a.eval x=.slice ad 0 c2)
  (h:K (a.put o.dst (.slice ao n c)) w):if Region.wanted o (yielded ops a.tmps)=true then Oper.wp P o a w K Q else E:=by
 have hw:Region.wanted o (yielded ops a.tmps)=true:=by simp [Region.wanted,hgd]
 rw [if_pos hw];obtain ⟨i,hi,hzz⟩:=jR.1 hinfo;have hrun:(Builtin.append_ #[t,t] o.type #[.slice ao n c,.slice ad 0 c2]).run P w=.ok (.slice ao n c) w:=by cases ao<;>cases ad<;>simp [Builtin.append_,run_underlying ht,sizeOf,typeInfo,hi,Builtin.lenOf,hle,Builtin.firstCells,storeCells,loadCells,loadCellsFrom]
 unfold Oper.wp;simp [execOp,ho,resolve,invoke,builtin,hs,hx,hrun,Result.andThen];exact h
end
theorem bw.agj {S:Nat->Prop} {w:World}:∀(a b:List RT) {vs us:List Value},bw S w a vs->bw S w b us->bw S w (a++b) (vs++us)
 | [],b,vs,us,h,h2=>by unfold bw at h;subst h;exact h2
 | r::a,b,vs,us,h,h2=>by
  unfold bw at h
  obtain ⟨u,q,rfl,h3,h4⟩:=h
  show bw S w (r::(a++b)) (u::(q++us))
  unfold bw
  exact ⟨u,q++us,rfl,h3,bw.agj a b h4 h2⟩
theorem bw.adL {S:Nat->Prop} {w:World}:∀(a:List RT) (k:Nat) {vs:List Value},bw S w a vs->bw S w (a.take k) (vs.take k)
 | [],k,vs,h=>by unfold bw at h;subst h;simp [bw]
 | r::a,0,vs,h=>by simp [bw]
 | r::a,k+1,vs,h=>by
  unfold bw at h
  obtain ⟨u,q,rfl,h3,h4⟩:=h
  rw [yA,yA]
  unfold bw
  exact ⟨u,_,rfl,h3,bw.adL a k h4⟩
theorem bw.adM {S:Nat->Prop} {w:World}:∀(a:List RT) (k:Nat) {vs:List Value},bw S w a vs->bw S w (a.drop k) (vs.drop k)
 | [],k,vs,h=>by unfold bw at h;subst h;simp [bw]
 | r::a,0,vs,h=>h
 | r::a,k+1,vs,h=>by
  unfold bw at h
  obtain ⟨u,q,rfl,h3,h4⟩:=h
  rw [List.drop_succ_cons,List.drop_succ_cons]
  exact bw.adM a k h4
theorem sS.lay {base B X:Nat} {w W:World} {nm:ByteArray} {kv kv':Value} {acc:List RT} {ze:List Value} {o:RT} {u:Value} (h:sS base B w nm kv acc) (Au:bw (fun b=>base<=b/\b≠B/\kv.ownBlock≠some b) w acc ze) (hu:Up w W) (hX:w.heap.size<=X)
  (hkb:∀b,kv'.ownBlock=some b->X<=b) (hr:fN (fun b=>w.heap.size<=b/\b<X) W o u) (k:Nat) (ho:au (B+1) 210 W kv' (ze.take k++u::ze.drop k)) :
  sS base B (W.setCell ⟨B,1,none⟩ kv') nm kv' (acc.take k++o::acc.drop k):=by
 have hBl:=h.lt;have cA:∀b,b≠B->(W.setCell ⟨B,1,none⟩ kv').heap[b]? = W.heap[b]?:=fun b hb=>blk_setCell_other _ _ _ _ hb;have hn:=(bH hu B hBl).trans h.node;have hlo:=h.lo;refine ⟨by simp [World.setCell,Array.getElem?_modify,hn],h.lo,_,ho.eH fun b hb=>cA b (by have:=hkb b hb;omega),?_⟩;have k1:Kept (fun b=>base<=b/\b≠B/\kv'.ownBlock≠some b) w (W.setCell ⟨B,1,none⟩ kv'):=fun b hb hl=>(cA b hb.2.1).trans (bH hu b hl);have a1:bw (fun b=>base<=b/\b≠B/\kv'.ownBlock≠some b) (W.setCell ⟨B,1,none⟩ kv') acc ze :=
  bw.keep k1 acc (bw.sub (fun b hb hl=>⟨hb.1,hb.2.1,fun e=>by have:=hkb b e;omega⟩) acc Au)
 have k2:Kept (fun b=>base<=b/\b≠B/\kv'.ownBlock≠some b) W (W.setCell ⟨B,1,none⟩ kv'):=fun b hb _=>cA b hb.2.1;have a2:fN (fun b=>base<=b/\b≠B/\kv'.ownBlock≠some b) (W.setCell ⟨B,1,none⟩ kv') o u :=
  fN.keep k2 o (fN.sub (fun b hb _=>⟨by have:=hb.1;omega,by have:=hb.1;omega,fun e=>by have:=hkb b e;have:=hb.2;omega⟩) o hr)
 refine bw.agj _ _ (bw.adL acc k a1) ?_;unfold bw;exact ⟨u,ze.drop k,rfl,a2,bw.adM acc k a1⟩
def abb (a:Option Addr) (n c:Nat):Option Addr:=if c=n then a else Option.map (fun x=>x.add n) a
theorem all_none {S:Nat->Prop} {w:World} {n c:Nat} {f:Nat->Value} {a:Option Addr} (h:aq S w (.slice a n c) n f) (e:a=none):n=0:=by
 subst e;by_cases hn:n=0
 ·exact hn
 ·obtain ⟨q,c',e,_,H⟩:=aq.open h
  injection e with e;subst e;obtain ⟨b,off,e2,_⟩:=H 0 (by omega);cases e2
theorem Yd {S:Nat->Prop} {w:World} {n c:Nat} {vs:List Value} {a:Option Addr} (h:aq S w (.slice a n c) n (vN vs)) (hl:vs.length=n) (b:Addr) (e:a=some b) (i:Nat) (q:Value) (hq:vs[i]? = some q):w.cell? (b.add i)=some q:=by
 have hki:i<n:=by rw [<- hl];exact (o8.1 hq).1
 obtain ⟨b',o',e2,hc⟩:=wF h hki;rw [e] at e2;injection e2 with e2;subst e2;have hv:vN vs i=q:=by unfold vN;rw [rP,hq];rfl
 rw [hv] at hc;rw [Addr.add_lit];exact hc
end
end Go.Proofs.YthgabkgmkolobaaGreat
