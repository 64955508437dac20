/- The contract of layer 31's reference's least. The contract of layer 31's reference's .. -/
import Derived.Test.YthgabkgmkolobaaGreatQ24
set_option maxRecDepth 100000
namespace Go.Proofs.YthgabkgmkolobaaGreat
section
open Go.RowKit Go.Deep
def xw (a b:ByteArray):Bool:=Op.bytesLess a.toList b.toList
def iG (a b:ByteArray):ByteArray:=if (xw a b || a.toList==b.toList)=true then a else b
mutual
def lstR:RT→ByteArray
 | .node nm []=>nm
 | .node _ (k::ks)=>lstRs (lstR k) ks
def lstRs (s:ByteArray):List RT→ByteArray
 | []=>s
 | r::rs=>lstRs (iG s (lstR r)) rs
end
theorem CU (s:ByteArray):∀(a b:List RT),lstRs s (a++b)=lstRs (lstRs s a) b
 | [],_=>by rw [lstRs];rfl
 | r::a,b=>by rw [List.cons_append,lstRs,lstRs];exact CU _ a b
theorem Kf {s:ByteArray} {rs:List RT} {j:Nat} (h:j<rs.length):lstRs s (rs.take (j+1))=iG (lstRs s (rs.take j)) (lstR (gr rs j)):=by
 have hg:gr rs j=rs[j]:=by simp [gr,h]
 rw [List.take_succ_eq_append_getElem h,CU,lstRs,lstRs,hg]
theorem Hp {P:Program} {w:World} (ts:Array TypeId) (t:TypeId) (x y:ByteArray):(Builtin.min_ ts t #[.string x,.string y]).run P w=.ok (.string (iG x y)) w:=by
 unfold iG xw;simp [Builtin.min_,Builtin.min2,Op.stringOp,asBool]
theorem qp {ks:List RT} {j:Nat} (h:j<ks.length):aL (gr ks j)≤sizeRs ks:=by
 induction ks generalizing j with
 | nil=>simp at h
 | cons k ks ih =>
  rw [sizeRs]
  cases j with
  | zero=>show aL k≤_;omega
  | succ j =>
   have:=ih (j:=j) (by simpa using h)
   show aL (gr ks j)≤_
   omega
theorem mU:∀ks:List RT,ks.length≤sizeRs ks
 | []=>Nat.le_refl _
 | k::ks=>by
  have:=mU ks
  have:=ku k
  rw [sizeRs,List.length_cons];omega
set_option maxHeartbeats 2000000 in
theorem Fs (S:Nat→Prop):∀(d:Nat) (r:RT),aL r≤d→d≤1000000→∀(w:World) (v:Value),RAt S w r v→Calls Tryz.prog 254 #[v] w fun e w'=>e=.returned (.string (lstR r))∧w=w':=by
 intro d
 induction d with
 | zero=>intro r hr;have:=ku r;omega
 | succ d ih =>
 intro r hr hd w v hv;cases r with
 | node nm ks =>
  obtain ⟨b,kp,kc,vs,rfl,hS,c0,c1,hk,hs⟩:=hv.open;simp only [RT.nm,RT.kids] at c0 c1 hk hs;have fK:=mU ks;rw [aL] at hr;have jk:Hid (∀j,j<ks.length→Calls Tryz.prog 254 #[vN vs j] w fun e w'=>e=.returned (.string (lstR (gr ks j)))∧w=w'):=fun j hj=>by have:=qp hj;exact ih _ (by omega) (by omega) w _ (RsAt.get ks hs j hj)
  have HK:=aa hk;clear ih hv hS hs hk;cases ks with
  | nil =>
   clear hr
   go_enter Tryz.func254,Tryz.ntmps254
   go_wp2_with fail;go_ret;exact ⟨rfl,rfl⟩
  | cons k0 rs =>
   obtain ⟨kb,ko,rfl,hc0⟩:=mS HK.out (show 0<(k0::rs).length by simp);(have d0:(((k0::rs).length:Int)==0)=false:=by simp;omega);(have hpos:(0:Int)<((k0::rs).length:Int):=by rw [List.length_cons];omega);(have HL:Hid (lstR (.node nm (k0::rs))=lstRs (lstR k0) rs):=by unfold Hid;rw [lstR]);have H0:Hid (Calls Tryz.prog 254 #[vN vs 0] w fun e w'=>e=.returned (.string (lstR k0))∧w=w'):=jk.out 0 (by simp);have dm:Hid ((k0::rs).length=rs.length+1):=List.length_cons;(have gO:Hid ((k0::rs).length≤1000000):=by unfold Hid;omega);rw [Nat.add_zero] at hc0;clear hr;generalize (k0::rs).length=n at *
   go_enter Tryz.func254,Tryz.ntmps254
   go_wp2_with fail;refine H0.out.mono ?_;rintro e w' ⟨rfl,rfl⟩;go_wp2_with fail
   go_loop [3,4] (fun a i=>∃j:Nat,j≤rs.length∧i=.int .i64 (j+1:Nat)∧a=.string (lstRs (lstR k0) (rs.take j))) (fun _ i=>n - (intOf i).toNat)
   case atStart=>exact ⟨0,Nat.zero_le _,rfl,by rw [List.take_zero,lstRs]⟩
   case round =>
    obtain ⟨j,hj,rfl,rfl⟩:=hrel;by_cases hlt:j<rs.length
    ·obtain ⟨kb2,ko2,e2,rO⟩:=mS HK.out (show j+1<n by have:=dm.out;omega)
     injection e2 with e2;injection e2 with e3 e4;subst e3;subst e4;have HJ:Hid (Calls Tryz.prog 254 #[vN vs (j+1)] w fun e w'=>e=.returned (.string (lstR (gr rs j)))∧w=w'):=jk.out (j+1) (by have:=dm.out;omega);have HT:=aa (Kf (s:=lstR k0) hlt);(have i1:(0:Int)≤((j+1:Nat):Int):=by omega);(have i2:((j+1:Nat):Int)<(n:Int):=by have:=dm.out;omega);(have i3:((j+1:Nat):Int)<1000000:=by have:=dm.out;have:=gO.out;omega);have aW:=aa hlt;have hmin:=fun ts t=>Hp (P:=Tryz.prog) (w:=w) ts t (lstRs (lstR k0) (rs.take j)) (lstR (gr rs j));generalize hm:j+1=m at *;clear hlt hj hc0
     go_wp2_with fail;refine HJ.out.mono ?_;rintro e w' ⟨rfl,rfl⟩;go_wp2_with fail
     go_round
     case rel=>exact ⟨m,by have:=aW.out;omega,by go_num,by rw [HT.out]⟩
     case measure=>have:=aW.out;have:=dm.out;simp [intOf];omega
    ·obtain rfl:j=rs.length:=by omega
     (have d1:decide (((rs.length+1:Nat):Int)<(n:Int))=false:=by simp;have:=dm.out;omega);(have hnl:¬(((rs.length+1:Nat):Int)<(n:Int)):=by have:=dm.out;omega);have eO:=aa hnl;go_wp2_with fail;go_ret;exact ⟨by rw [HL.out];rfl,rfl⟩
end
section
open Go.RowKit Go.Deep
theorem Tryz.oK:(Tryz.prog.info? 210).map (fun i=>(i.zero,i.size,i.bytes))=some (some (.pointer none),1,8):=by kernel_rfl
structure Fu (w1:World) (base B:Nat) (nm:ByteArray) (kl:List Int) (kp:Option Addr) (kc:Nat) (wr:World) (kv:Value) (rs:List RT):Prop where
 rY:jS base B wr nm kv rs
 up:Up w1 wr
 ints:aj (fun b=>b≠B∧kv.ownBlock≠some b) wr (.slice kp kl.length kc) kl
 lo:w1.heap.size≤B
theorem kP (w:World):Up w w.drew:=Up.drewN w 1
theorem Fu.push {w1:World} {base B:Nat} {nm:ByteArray} {kl:List Int} {kp:Option Addr} {kc:Nat} {wr w2:World} {kv:Value} {rs:List RT} (h:Fu w1 base B nm kl kp kc wr kv rs) {r:RT} {u:Value} (hu:Up wr w2) (hr:RAt (fun b=>wr.heap.size≤b) w2 r u) :
  ∃vs:List Value,vs.length=rs.length∧aF (B+1) 210 (w2.alloc (.cells #[u] 210)) kv vs∧B+1≤(w2.alloc (.cells #[u] 210)).heap.size ∧
   (∀W,(w2.alloc (.cells #[u] 210)).grownBy W kv.ownBlock→W.cell? ⟨B,1,none⟩=some kv∧W.frozen? ⟨B,1,none⟩=false∧(∀b o v,b<w1.heap.size→w1.cell? ⟨b,o,none⟩=some v→W.cell? ⟨b,o,none⟩=some v)∧aj (fun b=>b≠B∧kv.ownBlock≠some b) W (.slice kp kl.length kc) kl) ∧
   ∀g c W,aF (B+1) 210 W (.slice (some ⟨g,0,none⟩) (vs.length+1) c) (vs++[u])→(w2.alloc (.cells #[u] 210)).grownBy W kv.ownBlock→(kv.ownBlock=some g∨g=(w2.alloc (.cells #[u] 210)).heap.size) →
    Fu w1 base B nm kl kp kc (W.setCell ⟨B,1,none⟩ (.slice (some ⟨g,0,none⟩) (vs.length+1) c)) (.slice (some ⟨g,0,none⟩) (vs.length+1) c) (rs++[r]):=by
 have aY:=Up.alloc w2 (.cells #[u] 210);have hW:=(h.rY.up hu).up aY;have hBl:=h.rY.lt;have hsz:=hu.size;have tF:(w2.alloc (.cells #[u] 210)).heap.size=w2.heap.size+1:=World.size_alloc _ _;obtain ⟨vs,ho,hv⟩:=hW.kids;obtain ⟨Vd,yq,_⟩:=h.rY.kids;have hkb:∀b,kv.ownBlock=some b→b<wr.heap.size∧B<b:=fun b hb=>⟨(aI yq hb).2,by have:=(aI yq hb).1;omega⟩;have hi2:aj (fun b=>b≠B∧kv.ownBlock≠some b) (w2.alloc (.cells #[u] 210)) (.slice kp kl.length kc) kl:=aj.keep h.ints ((hu.trans aY).kept _)
 have Rh:∀W,(w2.alloc (.cells #[u] 210)).grownBy W kv.ownBlock→aj (fun b=>b≠B∧kv.ownBlock≠some b) W (.slice kp kl.length kc) kl:=fun W hg =>
  aj.keep hi2 fun b hb hl=>hg.block b hl fun e=>hb.2 e.symm
 refine ⟨vs,RsAt.len rs hv,ho,by omega,fun W hg=>?_,fun g c W hown hg dY=>?_⟩
 ·have hc:=hW.cells
  have Mx:some B≠kv.ownBlock:=fun e=>by have:=(hkb B e.symm).2;omega
  have YM:B<(w2.alloc (.cells #[u] 210)).heap.size:=by omega
  refine ⟨?_,?_,fun b o v hb hcb=>?_,Rh W hg⟩
  ·rw [hg.cell_far (a:=⟨B,1,none⟩) YM Mx];exact hc.2.1
  ·rw [hg.frozen_far (a:=⟨B,1,none⟩) YM Mx];exact hc.2.2.2
  ·have h1:=((h.up.trans hu).trans aY)
   have hlo:=h.lo;rw [hg.cell_far _ (Nat.lt_of_lt_of_le hb h1.size) (fun e=>by have:=(hkb b e.symm).2;omega)];exact h1.cell hcb
 ·have Kg:∀b,(Value.slice (some ⟨g,0,none⟩) (vs.length+1) c).ownBlock=some b→kv.ownBlock=some b∨(w2.alloc (.cells #[u] 210)).heap.size≤b:=fun b hb=>by
   injection hb with hb
   have hb:g=b:=hb
   subst hb
   rcases dY with h1 | h1
   ·exact .inl h1
   ·exact .inr (by omega)
  have hlo:=h.lo
  have hw:=h.rY.lo
  refine ⟨hW.push (RAt.keep (aY.kept _) r hr) (by omega) hBl (fun b hb=>(hkb b hb).1) hv hown hg Kg,?_,?_,h.lo⟩
  ·have h1:=(h.up.trans hu).trans aY
   refine ⟨hg.os.trans h1.os,hg.tape.trans h1.tape,hg.output.trans h1.output,?_,fun b hb=>?_⟩
   ·have:=h1.size;have:=hg.size;simp only [World.size_setCell];omega
   ·rw [blk_setCell_other _ _ _ _ (by omega:b≠B),hg.block b (Nat.lt_of_lt_of_le hb h1.size) (fun e=>by have:=(hkb b e.symm).2;omega)]
    exact h1.block b hb
  ·have h2:=Rh W hg
   have h3:aj (fun b=>b≠B∧kv.ownBlock≠some b∧(Value.slice (some ⟨g,0,none⟩) (vs.length+1) c).ownBlock≠some b) (w2.alloc (.cells #[u] 210)) (.slice kp kl.length kc) kl:=aj.sub hi2 fun b hb hl=>⟨hb.1,hb.2,fun e=>by
    rcases Kg b e with h5 | h5
    ·exact hb.2 h5
    ·omega⟩
   have h4:=aj.keep (w':=W.setCell ⟨B,1,none⟩ (.slice (some ⟨g,0,none⟩) (vs.length+1) c)) h3 fun b hb hl=>(blk_setCell_other _ _ _ _ hb.1).trans (hg.block b hl fun e=>hb.2.1 e.symm)
   exact aj.sub h4 fun b hb _=>⟨hb.1,hb.2.2⟩
theorem Pw {S:Nat→Prop} {w:World} {b off n cap:Nat} {xs:List Int} (h:aj S w (.slice (some ⟨b,off,none⟩) n cap) xs) {k:Nat} (hk:k<xs.length):w.cell? ⟨b,off+k,none⟩=some (.int .i64 (gi xs k)):=by
 obtain ⟨b',o',e,hc⟩:=bQ h hk;injection e with e;injection e with e1 e2;subst e1;subst e2;exact hc
def BG (w:World) (r:RT) (e:Ending) (w':World):Prop:=Up w w'∧∃u,e=.returned u∧RAt (fun b=>w.heap.size≤b) w' r u
theorem CV {l:List Nat} {k:Nat} (h:k<l.length):gi (dX l) k=(l[k]:Nat):=by simp [gi,dX,h]
theorem nT {S:Nat→Prop} {w:World} {r:RT} {u:Value} (h:RAt S w r u):∃b,u=.pointer (some ⟨b,0,none⟩):=by
 obtain ⟨b,_,_,_,e,_⟩:=h.open;exact ⟨b,e⟩
set_option maxHeartbeats 4000000 in
theorem I1 (S:Nat→Prop) (t:aD) (ht:aB t=0):∀(d n:Nat),cW t n≤d→n<t.ps.length→∀(w:World) (v:Value),au S w v t→Calls Tryz.prog 207 #[v,.int .i64 n] w (BG w (aT (fL t) (cW t) n)):=by
 intro d
 induction d with
 | zero=>intro n hd hn;unfold cW at hd;omega
 | succ d ih =>
 intro n hd hn w v hT;obtain ⟨_,xh,hnl,hpk,_⟩:=aJ ht;have hwf:=(dV ht).wf;obtain ⟨P,N,rfl,hP,hN⟩:=hT;obtain ⟨pp,pc,rfl,_,_⟩:=aC.open hP;obtain ⟨np,nc,rfl,_,_⟩:=aC.open hN;have hP:aj S w (.slice pp t.ps.length pc) t.ps:=hP;have hN:ah S w (.slice np t.ns.length nc) t.ns:=hN;have aY:=Up.alloc w (.cells #[.slice pp t.ps.length pc,.slice np t.ns.length nc] 39);have b0:=dc w (.slice pp t.ps.length pc) (.slice np t.ns.length nc) 39;have b1:=dz w (.slice pp t.ps.length pc) (.slice np t.ns.length nc) 39
 have hsz:(w.alloc (.cells #[.slice pp t.ps.length pc,.slice np t.ns.length nc] 39)).heap.size=w.heap.size+1:=World.size_alloc _ _;have xx:Hid (au S (w.alloc (.cells #[.slice pp t.ps.length pc,.slice np t.ns.length nc] 39)) (.agg #[.slice pp t.ps.length pc,.slice np t.ns.length nc]) t):=au.keep ⟨_,_,rfl,hP,hN⟩ (aY.kept S);obtain ⟨sb,so,rfl,hsc⟩:=bI (ah.keep hN (aY.kept S)) (k:=n) (by rw [hnl];exact hn);have hn2:(n:Int)<(t.ns.length:Int):=by omega
 have hn0:(0:Int)≤(n:Int):=by omega
 have cZ:=aa b0;have cR:=aa b1;have HU:=aa aY;have cz:=aa hsz;have HN:=aa hn;have H64:=aa xh;have jk:Hid (∀c∈cu t.ps n,∀W u,au S W u t→Calls Tryz.prog 207 #[u,.int .i64 (c:Nat)] W (BG W (aT (fL t) (cW t) c))):=fun c hc W u hu=>by have hk:=hwf.kid n hn c hc;exact ih c (by omega) hk.1 W u hu
 have YN:Hid (aT (fL t) (cW t) n=.node (gs t.ns n) ((cu t.ps n).map (aT (fL t) (cW t)))):=dD hwf hn;have iw:Hid ((cu t.ps n).length≤64):=by have:=mP t n;rw [lV] at this;unfold Hid;omega
 clear aY hP hN hnl hpk ih hd hn hwf
 go_enter Tryz.func207,Tryz.ntmps207
 go_wp2_with fail;generalize w.alloc (.cells #[.slice pp t.ps.length pc,.slice (some ⟨sb,so,none⟩) t.ns.length nc] 39)=w1 at *;have hst:=jS.start w1 (base:=w.heap.size) (by rw [cz.out];omega) (gs t.ns n);have Px:=Up.alloc w1 (.cells #[.string (gs t.ns n),.slice none 0 0] 254);have hs1:(w1.alloc (.cells #[.string (gs t.ns n),.slice none 0 0] 254)).heap.size=w1.heap.size+1:=World.size_alloc _ _;refine (Ir S _ _ t n (xx.out.keep (Px.kept S)) (by omega) HN.out).mono ?_;rintro e w2 ⟨aG,kvv,rfl,hki⟩;have aG:Up (w1.alloc (.cells #[.string (gs t.ns n),.slice none 0 0] 254)) w2:=aG
 obtain ⟨kp,kc,rfl,_,_⟩:=aC.open hki;have YO:Fu w1 w.heap.size (w.heap.size+1) (gs t.ns n) (dX (cu t.ps n)) kp kc w2 (.slice none 0 0) (((cu t.ps n).take 0).map (aT (fL t) (cW t))):=by rw [cz.out] at hst hs1;exact ⟨hst.up aG,Px.trans aG,aj.sub hki fun b hb _=>⟨by rw [hs1] at hb;omega,fun e=>by cases e⟩,by rw [cz.out];exact Nat.le_refl _⟩
 have lg:=aa YO;clear hst Px hs1 aG hki YO b0 b1;have pF:(dX (cu t.ps n)).length=(cu t.ps n).length:=by simp [dX]
 rw [pF];obtain ⟨L,hL⟩:∃L,L=cu t.ps n:=⟨_,rfl⟩;rw [← hL] at iw jk YN lg ⊢;clear hL pF;go_wp2_with fail
 go_loopw [7] (fun i wr=>∃(k:Nat) (kv:Value),k≤L.length∧i=.int .i64 k∧Hid (Fu w1 w.heap.size (w.heap.size+1) (gs t.ns n) (dX L) kp kc wr kv ((L.take k).map (aT (fL t) (cW t))))) (fun i _=>L.length - (intOf i).toNat)
 case atStart=>exact ⟨0,_,Nat.zero_le _,rfl,lg.out⟩
 case round =>
  obtain ⟨k,kv,hk,rfl,hG⟩:=hrel;obtain ⟨wo,rfl⟩:∃wo:World,wo=wr:=⟨_,rfl⟩;by_cases hlt:k<L.length
  ·have hc:=hG.out.rY.cells
   (have fK:k<(dX L).length:=by simp [dX];exact hlt);obtain ⟨ib,io,rfl,hic⟩:=bQ hG.out.ints fK;rw [CV hlt] at hic;have HCM:Hid (L[k]∈L):=List.getElem_mem hlt;(have fN:Hid ((L.take (k+1)).map (aT (fL t) (cW t))=(L.take k).map (aT (fL t) (cW t))++[aT (fL t) (cW t) L[k]]):=by unfold Hid;rw [List.take_succ_eq_append_getElem hlt,List.map_append];rfl);have HCG:Hid (gi (dX L) k=(L[k]:Nat)):=CV hlt;generalize L[k]=c at *
   have fV:Hid (∀W,Up wo W→Calls Tryz.prog 207 #[.agg #[.slice pp t.ps.length pc,.slice (some ⟨sb,so,none⟩) t.ns.length nc],.int .i64 (c:Nat)] W (BG W (aT (fL t) (cW t) c))):=fun W hW=>jk.out c HCM.out W _ (xx.out.keep ((hG.out.up.trans hW).kept S));generalize aT (fL t) (cW t) c=r at *;have hk1:=hc.2.1;have hk2:=hc.2.2.2;have hb0:=hG.out.up.cell cZ.out;have hb1:=hG.out.up.cell cR.out;(have i1:(0:Int)≤(k:Int):=by omega);(have i2:(k:Int)<(L.length:Int):=by omega);(have i3:(k:Int)<64:=by have:=iw.out;omega);have aW:=aa hlt
   have nt:Hid (∀W,Up wo W→W.cell? ⟨w.heap.size+1,1,none⟩=some kv∧W.cell? ⟨w.heap.size,0,none⟩=some (.slice pp t.ps.length pc)∧W.cell? ⟨w.heap.size,1,none⟩=some (.slice (some ⟨sb,so,none⟩) t.ns.length nc)∧W.cell? ⟨ib,io+k,none⟩=some (.int .i64 (c:Nat))):=fun W hW=>⟨hW.cell hk1,hW.cell hb0,hW.cell hb1,hW.cell hic⟩;have Rx:=aa hG.out;clear hc fK hk hlt hG;go_wp2_with fail
   refine dG (by kernel_rfl) 16 (fun w'=>w'.cell? ⟨w.heap.size+1,1,none⟩=some kv∧w'.cell? ⟨w.heap.size,0,none⟩=some (.slice pp t.ps.length pc)∧w'.cell? ⟨w.heap.size,1,none⟩=some (.slice (some ⟨sb,so,none⟩) t.ns.length nc)∧w'.cell? ⟨ib,io+k,none⟩=some (.int .i64 (c:Nat))) (nt.out _ (kP wo)) (fun hS=>?_);simp only [List.size_toArray,List.length_cons,List.length_nil,Nat.reduceAdd,Array.replicate_succ,Array.replicate_zero,List.push_toArray,List.nil_append,List.cons_append];refine af.tk 0 hS ?_;try simp only [Act.put,ay,az,aA]
   refine af.tk 1 hS ?_;(try simp only [Act.put,ay,az,aA]);refine af.tk 2 hS ?_;(try simp only [Act.put,ay,az,aA]);refine af.tk 3 hS ?_;(try simp only [Act.put,ay,az,aA]);refine af.tk 4 hS ?_;(try simp only [Act.put,ay,az,aA]);refine af.tk 5 hS ?_;(try simp only [Act.put,ay,az,aA]);refine af.tk 6 hS ?_
   (try simp only [Act.put,ay,az,aA]);refine af.tk 7 hS ?_;(try simp only [Act.put,ay,az,aA]);refine af.tk 8 hS ?_;(try simp only [Act.put,ay,az,aA]);refine af.tk 9 hS ?_;(try simp only [Act.put,ay,az,aA]);refine af.step (i:=10) rfl (by kernel_rfl) (fun K' hK=>?_);go_simp;refine (fV.out _ (kP wo)).mono ?_;rintro e w3 ⟨bz,u,rfl,hr3⟩;have bz:Up wo.drew w3:=bz
   obtain ⟨ub,rfl⟩:=nT hr3;have bW:=aa ((kP wo).trans bz);obtain ⟨vs,hvl,hown,lq,Vf,Aw⟩:=Rx.out.push bW.out hr3;have HOW:=aa hown;have kU:=aa lq;have EJ:=aa Vf;have Ag:=aa Aw;(have HVL:Hid (vs.length≤1000000):=by have:=aW.out;have:=iw.out;rw [List.length_map,List.length_take] at hvl;unfold Hid;omega);have l7:Hid ((w3.alloc (.cells #[.pointer (some ⟨ub,0,none⟩)] 210)).cell? ⟨w3.heap.size,0,none⟩=some (.pointer (some ⟨ub,0,none⟩))):=wQ _ _ _;clear bz hr3 hown lq Vf Aw hvl;refine hK.out _ _ (fun _=>nt.out _ bW.out) (fun hS=>?_)
   replace hS:=hS ⟨11,by decide,rfl⟩;(try simp only [ay,az,aA]);refine af.step (i:=11) rfl (by kernel_rfl) (fun K' hK=>?_);go_simp;refine hK.out _ _ (fun _=>nt.out _ (bW.out.trans (Up.alloc _ _))) (fun hS=>?_);replace hS:=hS ⟨12,by decide,rfl⟩;(try simp only [ay,az,aA]);refine af.step (i:=12) rfl (by kernel_rfl) (fun K' hK=>?_)
   refine eV (by rfl) _ _ _ (by rfl) (w.heap.size+1+1) 210 _ 8 Tryz.underlying252 Tryz.oK (by rfl) (by decide) (by rfl) HOW.out (.pointer (some ⟨ub,0,none⟩)) w3.heap.size (by rfl) l7.out (by rfl) HVL.out kU.out ?_;intro g cap w4 rT hg4 wW EK;obtain ⟨q1,q2,q3,q4⟩:=EJ.out w4 hg4;(have q5:w4.cell? ⟨ib,io+k,none⟩=some (.int .i64 (c:Nat)):=by rw [Pw q4 (by simp [dX];exact aW.out),HCG.out]);have q6:=q3 _ _ _ (by rw [cz.out];omega) cZ.out;have q7:=q3 _ _ _ (by rw [cz.out];omega) cR.out;have LQ:=aa (Ag.out g cap w4 rT hg4 wW)
   clear rT hg4 wW EK q3 q4;refine hK.out _ _ (fun _=>⟨q1,q6,q7,q5⟩) (fun hS=>?_);replace hS:=hS ⟨15,by decide,rfl⟩;(try simp only [Act.put,ay,az,aA]);refine af.tk 13 hS ?_;(try simp only [Act.put,ay,az,aA]);refine af.tk 14 hS ?_;(try simp only [Act.put,ay,az,aA]);refine af.step (i:=15) rfl (by kernel_rfl) (fun K' hK=>?_);go_simp;refine hK.out _ _ (aM (by kernel_rfl)) (fun hS=>?_)
   refine af.done (by kernel_rfl) ?_;go_wp2_with fail
   go_roundw
   case rel=>exact ⟨k+1,_,aW.out,by go_num,by rw [fN.out];exact LQ.out⟩
   case measure=>have:=aW.out;simp [intOf];omega
  ·obtain rfl:k=L.length:=by omega
   have Rx:=aa hG.out;clear hG;go_wp2_with fail;go_ret;refine ⟨HU.out.trans Rx.out.up,_,rfl,?_⟩;have h:=Rx.out.rY.done;rw [List.take_length] at h;rw [YN.out];exact h
end
section
open Go Go.RowKit Go.Deep
theorem o7 {F:Fence} {nF:Nat} {P:Program} {ops:Array Oper} {rest:List Oper} {o:Oper} {a:Act} {Q:Exit→Act→World→Prop} (W:World) (hgd:o.guard=none) (s x:Operand) (t:TypeId) (ho:o.op=.call { callee:=.builtin .append,args:=#[s,x],argTypes:=#[t,t] })
  (base:Nat) (e:TypeId) (z:Value) (bytes:Nat) (ht:P.underlying t=some (.slice e)) (hinfo:(P.info? e).map (fun i=>(i.zero,i.size,i.bytes))=some (some z,1,bytes))
  (hz1:z.cells.size=1) (k8:bytes≤64) {v:Value} {vs:List Value} (hown:aF base e W v vs) (hs:a.eval s=v) (u:Value)
  (hx:a.eval x=.slice (some ⟨W.heap.size,0,none⟩) 1 1) (h1:u.oneCell'=true) (k:Nat) (vp:vs.length=k) (hn:k≤1000000) (hbase:base≤W.heap.size)
  (h:∀g cap w',aF base e w' (.slice (some ⟨g,0,none⟩) (k+1) cap) (vs++[u])→W.grownBy w' v.ownBlock→(v.ownBlock=some g∨W.heap.size≤g)→wpListIn F nF P ops Q rest (a.put o.dst (.slice (some ⟨g,0,none⟩) (k+1) cap)) w') :
  wpListIn F nF P ops Q (o::rest) a (W.alloc (.cells #[u] e)):=by
 subst vp;obtain ⟨i,hi,hzz⟩:=Option.map_eq_some_iff.1 hinfo;simp only [Prod.mk.injEq] at hzz;obtain ⟨hz,hs1,hb⟩:=hzz;refine wpListIn_plain hgd fun K hK'=>?_;obtain ⟨g,cap,w',hr,h2,h3,h4,h5⟩:=run_append_lies (P:=P) (W.alloc (.cells #[u] e)) t o.type base e i z 1 bytes ht hi hz hs1 hb hz1 (by omega) v vs.length vs (hown.alloc _) ⟨W.heap.size,0,none⟩ 1 1 [u] rfl (cell_one_new _ _ _) (by simpa using h1) (by omega)
  (by unfold maxLen;omega) (by have:(vs.length+1)*bytes≤(vs.length+1)*64:=Nat.mul_le_mul_left _ k8;omega) (by simp;omega) _ rfl
 unfold Oper.wpIn;refine ⟨by simp [Oper.about,ho,resolve,Target.leads,Sem.run_pure],?_⟩;rw [Oper.semAt_plain F _ _ (by rw [ho];intro c hc';cases hc')];simp [execOp,ho,resolve,invoke,builtin,hs,hx,hr,Result.andThen];exact hK' _ _ (h g cap w' (by unfold aF;rw [List.length_append];exact h2) (gm h3) (h4.imp id fun e=>by rw [e,World.size_alloc];omega))
end
end Go.Proofs.YthgabkgmkolobaaGreat
