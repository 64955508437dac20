/- The contract of layer 31's reference's least. Rose trees appended to a tree that is .. -/
import Derived.Deep.CutRange
import Derived.Test.YthgabkgmkolobaaGreatQ11
set_option maxRecDepth 100000
set_option maxHeartbeats 4000000
namespace Go.Proofs.YthgabkgmkolobaaGreat
section
open Go.RowKit Go.Deep
def Iz (a b:ByteArray):Bool:=Op.bytesLess a.toList b.toList
def qj (a b:ByteArray):ByteArray:=if (Iz a b || a.toList==b.toList)=true then a else b
mutual
def iy:RT->ByteArray
 | .node nm []=>nm
 | .node _ (k::ks)=>nt (iy k) ks
def nt (s:ByteArray):List RT->ByteArray
 | []=>s
 | r::rs=>nt (qj s (iy r)) rs
end
theorem QN (s:ByteArray):∀(a b:List RT),nt s (a++b)=nt (nt s a) b
 | [],_=>by rw [nt];rfl
 | r::a,b=>by rw [cr,nt,nt];exact QN _ a b
theorem lstRs_take {s:ByteArray} {rs:List RT} {j:Nat} (h:j<rs.length):nt s (rs.take (j+1))=qj (nt s (rs.take j)) (iy (gr rs j)):=by
 have hg:gr rs j=rs[j]:=by simp [gr,h]
 rw [jY h,QN,nt,nt,hg]
theorem XM {P:Program} {w:World} (ts:Array TypeId) (t:TypeId) (x y:ByteArray):(Builtin.min_ ts t #[.string x,.string y]).run P w=.ok (.string (qj x y)) w:=by
 unfold qj Iz;simp [Builtin.min_,Builtin.min2,Op.stringOp,asBool]
theorem A3 {ks:List RT} {j:Nat} (h:j<ks.length):aU (gr ks j)<=bE ks:=by
 induction ks generalizing j with
 | nil=>simp at h
 | cons k ks ih =>
  rw [bE]
  cases j with
  | zero=>show aU k<=_;omega
  | succ j =>
   have:=ih (j:=j) (by simpa using h)
   show aU (gr ks j)<=_
   omega
theorem xh:∀ks:List RT,ks.length<=bE ks
 | []=>af _
 | k::ks=>by
  have:=xh ks
  have:=mA k
  rw [bE,aT];omega
theorem T6 (S:Nat->Prop):∀(d:Nat) (r:RT),aU r<=d->d<=1000000->∀(w:World) (v:Value),fP S w r v->Calls Tryz.prog 254 #[v] w fun e w'=>e=.returned (.string (iy r))/\w=w':=by
 intro d
 induction d with
 | zero=>intro r hr;have:=mA r;omega
 | succ d ih =>
 intro r hr hd w v hv;cases r with
 | node nm ks =>
  obtain ⟨b,kp,kc,vs,rfl,hS,c0,c1,hk,hs⟩:=hv.open;simp only [RT.nm,RT.kids] at c0 c1 hk hs;have gz:=xh ks;rw [aU] at hr;have qu:Hid (∀j,j<ks.length->Calls Tryz.prog 254 #[vN vs j] w fun e w'=>e=.returned (.string (iy (gr ks j)))/\w=w'):=fun j hj=>by have:=A3 hj;exact ih _ (by omega) (by omega) w _ (bF.get ks hs j hj)
  have HK:=aa hk;clear ih hv hS hs hk;cases ks with
  | nil =>
   clear hr
   go_enter Tryz.func254,Tryz.ntmps254
   go_wp2_with fail;go_ret;exact ⟨rfl,rfl⟩
  | cons k0 rs =>
   obtain ⟨kb,ko,rfl,hc0⟩:=xg HK.out (show 0<(k0::rs).length by simp);(have d0:(((k0::rs).length:Int)==0)=false:=by simp;omega);(have hpos:(0:Int)<((k0::rs).length:Int):=by rw [aT];omega);(have HL:Hid (iy (.node nm (k0::rs))=nt (iy k0) rs):=by unfold Hid;rw [iy]);have H0:Hid (Calls Tryz.prog 254 #[vN vs 0] w fun e w'=>e=.returned (.string (iy k0))/\w=w'):=qu.out 0 (by simp);have gG:Hid ((k0::rs).length=rs.length+1):=aT;(have kP:Hid ((k0::rs).length<=1000000):=by unfold Hid;omega);rw [jZ] at hc0;clear hr;generalize (k0::rs).length=n at *
   go_enter Tryz.func254,Tryz.ntmps254
   go_wp2_with fail;refine H0.out.mono ?_;rintro e w' ⟨rfl,rfl⟩;go_wp2_with fail
   go_loop [3,4] (fun a i=>∃j:Nat,j<=rs.length/\i=.int .i64 (j+1:Nat)/\a=.string (nt (iy k0) (rs.take j))) (fun _ i=>n - (intOf i).toNat)
   case atStart=>exact ⟨0,aL _,rfl,by rw [List.take_zero,nt]⟩
   case round =>
    obtain ⟨j,hj,rfl,rfl⟩:=hrel;by_cases hlt:j<rs.length
    ·obtain ⟨kb2,ko2,e2,GH⟩:=xg HK.out (show j+1<n by have:=gG.out;omega)
     injection e2 with e2;injection e2 with e3 e4;subst e3;subst e4;have HJ:Hid (Calls Tryz.prog 254 #[vN vs (j+1)] w fun e w'=>e=.returned (.string (iy (gr rs j)))/\w=w'):=qu.out (j+1) (by have:=gG.out;omega);have HT:=aa (lstRs_take (s:=iy k0) hlt);(have i1:(0:Int)<=((j+1:Nat):Int):=by omega);(have i2:((j+1:Nat):Int)<(n:Int):=by have:=gG.out;omega);(have i3:((j+1:Nat):Int)<1000000:=by have:=gG.out;have:=kP.out;omega);have bu:=aa hlt;have hmin:=fun ts t=>XM (P:=Tryz.prog) (w:=w) ts t (nt (iy k0) (rs.take j)) (iy (gr rs j));generalize hm:j+1=m at *;clear hlt hj hc0
     go_wp2_with fail;refine HJ.out.mono ?_;rintro e w' ⟨rfl,rfl⟩;go_wp2_with fail
     go_round
     case rel=>exact ⟨m,by have:=bu.out;omega,by go_num,by rw [HT.out]⟩
     case measure=>have:=bu.out;have:=gG.out;simp [intOf];omega
    ·obtain rfl:j=rs.length:=by omega
     (have d1:decide (((rs.length+1:Nat):Int)<(n:Int))=false:=by simp;have:=gG.out;omega);(have hnl:¬(((rs.length+1:Nat):Int)<(n:Int)):=by have:=gG.out;omega);have gI:=aa hnl;go_wp2_with fail;go_ret;exact ⟨by rw [HL.out];rfl,rfl⟩
end
section
def az.app (t:az) (r:RT) (p:Int):az:=⟨t.ps++mY r t.ps.length p,t.ns++gJ r⟩
def az.apps (t:az) (rs:List RT) (own:Nat):az:=⟨t.ps++iE rs own t.ps.length,t.ns++gZ rs⟩
theorem T7:∀(a b:List RT) (own n:Nat),iE (a++b) own n=iE a own n++iE b own (n+bE a)
 | [],_,_,_=>rfl
 | r::a,b,own,n=>by rw [cr,iE,iE,T7 a b own (n+aU r),bE,dN,Nat.add_assoc]
theorem T8:∀(a b:List RT),gZ (a++b)=gZ a++gZ b
 | [],_=>rfl
 | r::a,b=>by rw [cr,gZ,gZ,T8 a b,dN]
theorem apps_nil (t:az) (own:Nat):t.apps [] own=t:=by simp [az.apps,iE,gZ]
theorem apps_apps (t:az) (a b:List RT) (own:Nat):(t.apps a own).apps b own=t.apps (a++b) own:=by
 unfold az.apps;rw [T7,T8,dN,dN,aZ,xY]
theorem apps_app (t:az) (a:List RT) (r:RT) (own:Nat):(t.apps a own).app r (own:Int)=t.apps (a++[r]) own:=by
 rw [<- apps_apps];simp [az.apps,az.app,iE,gZ]
end
section
open Go.RowKit Go.Deep
structure RW (tb B0:Nat) (w W:World) (P N Pv Nv:Value) (ps:List Int) (ns:List ByteArray):Prop where
 gk:GK tb w W P N Pv Nv
 tl:TL B0 W Pv Nv ps ns
 same:W.heap[tb]? = w.heap[tb]?
 lo:(tb<w.heap.size/\P.ownBlock≠some tb/\N.ownBlock≠some tb)/\B0<=w.heap.size
section
variable {tb B0:Nat} {w W W':World} {P N Pv Nv:Value} {ps:List Int} {ns:List ByteArray}
theorem RW.start (h:TL B0 w P N ps ns) (hl:(tb<w.heap.size/\P.ownBlock≠some tb/\N.ownBlock≠some tb)/\B0<=w.heap.size):RW tb B0 w w P N P N ps ns:=⟨GK.refl _ _ _ _,h,rfl,hl⟩
theorem RW.notP (h:RW tb B0 w W P N Pv Nv ps ns):Pv.ownBlock≠some tb:=fun e=>by
 rcases h.gk.rJ tb e with h1 | h1
 ·exact h.lo.1.2.1 h1
 ·have:=h.lo.1.1;omega
theorem RW.notN (h:RW tb B0 w W P N Pv Nv ps ns):Nv.ownBlock≠some tb:=fun e=>by
 rcases h.gk.rK tb e with h1 | h1
 ·exact h.lo.1.2.2 h1
 ·have:=h.lo.1.1;omega
theorem RW.up (h:RW tb B0 w W P N Pv Nv ps ns) (hu:Up W W'):RW tb B0 w W' P N Pv Nv ps ns :=
 ⟨h.gk.up hu,h.tl.up hu,(bI hu tb (by have:=h.gk.size;have:=h.lo.1.1;omega)).trans h.same,h.lo⟩
theorem RW.BK (h:RW tb B0 w W P N Pv Nv ps ns) {g cap k:Nat} {u:Int} (ho:ax B0 3 W' (.slice (some ⟨g,0,none⟩) k cap) (ps.map (Value.int .i64)++[.int .i64 u])) (hg:W.grownBy W' Pv.ownBlock) (dD:Pv.ownBlock=some g\/W.heap.size<=g) :
  RW tb B0 w W' P N (.slice (some ⟨g,0,none⟩) k cap) Nv (ps++[u]) ns:=by
 have hlo:=h.lo;have hsz:=h.gk.size;have hnp:=h.notP;refine ⟨⟨hg.os.trans h.gk.os,hg.tape.trans h.gk.tape,hg.output.trans h.gk.output,aJ hsz hg.size,fun b hb h1 h2 h3=>?_,fun b hb=>?_,h.gk.rK⟩,⟨by rw [cg];exact ho,h.tl.eH.fM fun b hb=>hg.block b (av h.tl.eH hb).2 (fun e=>h.tl.apart b e.symm hb),fun b hb hb2=>?_⟩,(hg.block tb (by have:=hlo.1.1;omega) (fun e=>hnp e.symm)).trans h.same,hlo⟩
 ·rw [<- h.gk.block b hb h1 h2 h3]
  refine hg.block b (by omega) fun e=>?_;rcases h.gk.rJ b e.symm with h4 | h4
  ·exact h2 h4.symm
  ·omega
 ·injection hb with hb
  have hb:g=b:=hb;subst hb;rcases dD with h4 | h4
  ·exact h.gk.rJ g h4
  ·exact .inr (by omega)
 ·injection hb with hb
  have hb:g=b:=hb;subst hb;rcases dD with h1 | h1
  ·exact h.tl.apart g h1 hb2
  ·have:=(av h.tl.eH hb2).2;omega
theorem RW.BM (h:RW tb B0 w W P N Pv Nv ps ns) {g cap k:Nat} {u:ByteArray} (ho:ax B0 9 W' (.slice (some ⟨g,0,none⟩) k cap) (ns.map Value.string++[.string u])) (hg:W.grownBy W' Nv.ownBlock) (dD:Nv.ownBlock=some g\/W.heap.size<=g) :
  RW tb B0 w W' P N Pv (.slice (some ⟨g,0,none⟩) k cap) ps (ns++[u]):=by
 have hlo:=h.lo;have hsz:=h.gk.size;have hnn:=h.notN;refine ⟨⟨hg.os.trans h.gk.os,hg.tape.trans h.gk.tape,hg.output.trans h.gk.output,aJ hsz hg.size,fun b hb h1 h2 h3=>?_,h.gk.rJ,fun b hb=>?_⟩,⟨h.tl.dJ.fM fun b hb=>hg.block b (av h.tl.dJ hb).2 (fun e=>h.tl.apart b hb e.symm),by rw [cg];exact ho,fun b hb hb2=>?_⟩,(hg.block tb (by have:=hlo.1.1;omega) (fun e=>hnn e.symm)).trans h.same,hlo⟩
 ·rw [<- h.gk.block b hb h1 h2 h3]
  refine hg.block b (by omega) fun e=>?_;rcases h.gk.rK b e.symm with h4 | h4
  ·exact h3 h4.symm
  ·omega
 ·injection hb with hb
  have hb:g=b:=hb;subst hb;rcases dD with h4 | h4
  ·exact h.gk.rK g h4
  ·exact .inr (by omega)
 ·injection hb2 with hb2
  have hb2:g=b:=hb2;subst hb2;rcases dD with h1 | h1
  ·exact h.tl.apart g hb h1
  ·have:=(av h.tl.dJ hb).2;omega
theorem RW.cells {P0 N0:Value} (h:RW tb B0 w W P N Pv Nv ps ns) (hb:w.heap[tb]? = some (Obj.cells #[P0,N0] 39 (0,0))) :
  W.cell? ⟨tb,0,none⟩=some P0/\W.cell? ⟨tb,1,none⟩=some N0:=by
 have h1:=h.same.trans hb;exact ⟨by simp [World.cell?,h1],by simp [World.cell?,h1]⟩
theorem RW.frozen {P0 N0:Value} (h:RW tb B0 w W P N Pv Nv ps ns) (hb:w.heap[tb]? = some (Obj.cells #[P0,N0] 39 (0,0))) (o:Nat):W.frozen? ⟨tb,o,none⟩=false:=by
 have h1:=h.same.trans hb;simp [World.frozen?,h1]
end
structure GW (tb B0:Nat) (W:World) (P N:Value) (t:az):Prop where
 box:W.heap[tb]? = some (Obj.cells #[P,N] 39 (0,0))
 tl:TL B0 W P N t.ps t.ns
 lo:(P.ownBlock≠some tb/\N.ownBlock≠some tb)/\B0<=W.heap.size
theorem GW.lt {tb B0:Nat} {W:World} {P N:Value} {t:az} (h:GW tb B0 W P N t):tb<W.heap.size:=(fR.1 h.box).1
theorem GW.cells {tb B0:Nat} {W:World} {P N:Value} {t:az} (h:GW tb B0 W P N t):W.cell? ⟨tb,0,none⟩=some P/\W.cell? ⟨tb,1,none⟩=some N/\W.frozen? ⟨tb,0,none⟩=false/\W.frozen? ⟨tb,1,none⟩=false:=by
 refine ⟨?_,?_,?_,?_⟩<;>simp [World.cell?,World.frozen?,h.box]
theorem GW.put {tb B0:Nat} {W X:World} {P N P' N':Value} {t u:az} (h:GW tb B0 W P N t) (hk:GK tb W X P N P' N') (hs:X.heap[tb]? = W.heap[tb]?) (ht:TL B0 X P' N' u.ps u.ns) :
  GW tb B0 ((X.setCell ⟨tb,0,none⟩ P').setCell ⟨tb,1,none⟩ N') P' N' u/\GK tb W ((X.setCell ⟨tb,0,none⟩ P').setCell ⟨tb,1,none⟩ N') P N P' N':=by
 have h1:=hs.trans h.box;have hl:=h.lt;have hp:P'.ownBlock≠some tb:=fun e=>by
  rcases hk.rJ tb e with h2 | h2
  ·exact h.lo.1.1 h2
  ·omega
 have hn:N'.ownBlock≠some tb:=fun e=>by
  rcases hk.rK tb e with h2 | h2
  ·exact h.lo.1.2 h2
  ·omega
 have dR:∀b,b≠tb->((X.setCell ⟨tb,0,none⟩ P').setCell ⟨tb,1,none⟩ N').heap[b]? = X.heap[b]?:=fun b hb=>by rw [blk_setCell_other _ _ _ _ hb,blk_setCell_other _ _ _ _ hb]
 have hsz:((X.setCell ⟨tb,0,none⟩ P').setCell ⟨tb,1,none⟩ N').heap.size=X.heap.size:=by simp [World.size_setCell]
 refine ⟨⟨by simp [World.setCell,Array.getElem?_modify,h1],⟨ht.dJ.fM fun b hb=>dR b (fun e=>hp (by rw [hb,e])),ht.eH.fM fun b hb=>dR b (fun e=>hn (by rw [hb,e])),ht.apart⟩,⟨hp,hn⟩,by rw [hsz];exact aJ h.lo.2 hk.size⟩,hk.os,hk.tape,hk.output,by rw [hsz];exact hk.size,fun b hb h2 h3 h4=>(dR b h2).trans (hk.block b hb h2 h3 h4),hk.rJ,hk.rK⟩
theorem RW.store {tb B0:Nat} {w W:World} {P N Pv Nv:Value} {t:az} {z:Int} {nm:ByteArray} (h0:GW tb B0 w P N t) (h:RW tb B0 w W P N Pv Nv (t.ps++[z]) (t.ns++[nm])) :
  GW tb B0 ((W.setCell ⟨tb,0,none⟩ Pv).setCell ⟨tb,1,none⟩ Nv) Pv Nv (t.push z nm)/\GK tb w ((W.setCell ⟨tb,0,none⟩ Pv).setCell ⟨tb,1,none⟩ Nv) P N Pv Nv:=h0.put h.gk h.same h.tl
theorem GK.keepR {tb:Nat} {w W:World} {P N P' N':Value} (h:GK tb w W P N P' N') {S:Nat->Prop} (hS:∀b,S b->b<w.heap.size->b≠tb/\P.ownBlock≠some b/\N.ownBlock≠some b):Kept S w W:=fun b hb hl=>by
 obtain ⟨h1,h2,h3⟩:=hS b hb hl
 exact h.block b hl h1 (fun e=>h2 e.symm) (fun e=>h3 e.symm)
def WtPost (B0:Nat) (w:World) (P N:Value) (t:az) (r:RT) (par:Int) (e:Ending) (w':World):Prop :=
 ∃P' N',e=.returned (.agg #[P',N'])/\TL B0 w' P' N' (t.app r par).ps (t.app r par).ns/\GK w.heap.size w w' P N P' N'
theorem app_node (t:az) (nm:ByteArray) (ks:List RT) (par:Int):(t.push par nm).apps ks t.ps.length=t.app (.node nm ks) par:=by
 unfold az.apps az.app az.push;rw [mY,gJ];simp
theorem apps_one (t:az) (ks:List RT) {j:Nat} (h:j<ks.length) (own:Nat):(t.apps (ks.take j) own).app (gr ks j) (own:Int)=t.apps (ks.take (j+1)) own:=by
 have hg:gr ks j=ks[j]:=by simp [gr,h]
 rw [apps_app,hg,jY h]
theorem sizes_take (ks:List RT) {j:Nat} (h:j<ks.length):bE (ks.take j)+aU (gr ks j)<=bE ks:=by
 induction ks generalizing j with
 | nil=>simp at h
 | cons k ks ih =>
  cases j with
  | zero=>rw [List.take_zero,bE,bE];show _+aU k<=_;omega
  | succ j =>
   have:=ih (j:=j) (by simpa using h)
   rw [Bk,bE,bE]
   show _+aU (gr ks j)<=_
   omega
theorem drew_up3 (w:World):Up w w.drew:=Up.drewN w 1
theorem J1 {tb B0:Nat} {wo w3:World} {P N P2 N2:Value} {T:az} (h:GW tb B0 wo P N T) (hk:GK wo.drew.heap.size wo.drew w3 P N P2 N2):w3.heap[tb]? = wo.heap[tb]?:=by
 have hl:=h.lt;exact hk.block tb hl (fun e=>by have:tb=wo.heap.size:=e;omega) (fun e=>h.lo.1.1 e.symm) (fun e=>h.lo.1.2 e.symm)
theorem wt_frozen {tb B0:Nat} {wo w3:World} {P N P2 N2:Value} {T:az} (h:GW tb B0 wo P N T) (hk:GK wo.drew.heap.size wo.drew w3 P N P2 N2) (o:Nat):w3.frozen? ⟨tb,o,none⟩=false:=by
 have h1:=(J1 h hk).trans h.box;simp [World.frozen?,h1]
theorem wt_gk {tb B0:Nat} {wo w3:World} {P N P2 N2:Value} {T:az} (_:GW tb B0 wo P N T) (hk:GK wo.drew.heap.size wo.drew w3 P N P2 N2):GK tb wo w3 P N P2 N2 :=
 ⟨hk.os,hk.tape,hk.output,hk.size,fun b hb _ h2 h3=>hk.block b hb (fun e=>by have:b=wo.heap.size:=e;omega) h2 h3,hk.rJ,hk.rK⟩
theorem with_t (B0:Nat):∀(d:Nat) (r:RT),aU r<=d->∀(w:World) (P N v:Value) (t:az) (par:Int),TL B0 w P N t.ps t.ns->B0<=w.heap.size->t.ns.length=t.ps.length->t.ps.length+aU r<=100000 ->
  fP (fun b=>P.ownBlock≠some b/\N.ownBlock≠some b) w r v->Calls Tryz.prog 253 #[.agg #[P,N],v,.int .i64 par] w (WtPost B0 w P N t r par):=by
 intro d
 induction d with
 | zero=>intro r hr;have:=mA r;omega
 | succ d ih =>
 intro r hr w P N v t par YM hB0 hnl hbd hv;cases r with
 | node nm ks =>
  obtain ⟨xb,kp,kc,vs,rfl,hS,c0,c1,hk,hs⟩:=hv.open;simp only [RT.nm,RT.kids] at c0 c1 hk hs;have gz:=xh ks;rw [aU] at hr hbd;obtain ⟨pp,pc,rfl,_,_⟩:=ay.open YM.dJ.ints;obtain ⟨np,nc,rfl,_,_⟩:=ay.open YM.eH.strs;have qu:=aa ih;have iu:=aa hnl;have hal1:=Up.alloc w (.cells #[.slice pp t.ps.length pc,.slice np t.ns.length nc] 39);have cE:=hal1.trans (Up.alloc _ (.cells #[.slice none 0 0,.slice none 0 0] 39))
  have hsz:((w.alloc (.cells #[.slice pp t.ps.length pc,.slice np t.ns.length nc] 39)).alloc (.cells #[.slice none 0 0,.slice none 0 0] 39)).heap.size=w.heap.size+2:=by simp
  have hb1:((w.alloc (.cells #[.slice pp t.ps.length pc,.slice np t.ns.length nc] 39)).alloc (.cells #[.slice none 0 0,.slice none 0 0] 39)).heap[w.heap.size]? = some (Obj.cells #[.slice pp t.ps.length pc,.slice np t.ns.length nc] 39 (0,0)) :=
   (bI (Up.alloc (w.alloc (.cells #[.slice pp t.ps.length pc,.slice np t.ns.length nc] 39)) _) w.heap.size (by rw [aQ];omega)).trans (mV _ _)
  have hrb:=gp (w:=w.alloc (.cells #[.slice pp t.ps.length pc,.slice np t.ns.length nc] 39)) (P:=.slice none 0 0) (N:=.slice none 0 0) (T:=39);rw [aQ] at hrb;have hpl:∀b,(Value.slice pp t.ps.length pc).ownBlock=some b->b<w.heap.size:=fun b hb=>(av YM.dJ hb).2;have FM:∀b,(Value.slice np t.ns.length nc).ownBlock=some b->b<w.heap.size:=fun b hb=>(av YM.eH hb).2
  have HG:Hid (GW w.heap.size B0 ((w.alloc (.cells #[.slice pp t.ps.length pc,.slice np t.ns.length nc] 39)).alloc (.cells #[.slice none 0 0,.slice none 0 0] 39)) (.slice pp t.ps.length pc) (.slice np t.ns.length nc) t) :=
   ⟨hb1,YM.up cE,⟨fun e=>by have:=hpl _ e;omega,fun e=>by have:=FM _ e;omega⟩,by omega⟩
  have jx:=aa (cE.cell c0);have jG:=aa (cE.cell c1);have hxl:xb<w.heap.size:=eG w _ c0;have ND:Hid (ay (fun b=>b<w.heap.size/\(Value.slice pp t.ps.length pc).ownBlock≠some b/\(Value.slice np t.ns.length nc).ownBlock≠some b) ((w.alloc (.cells #[.slice pp t.ps.length pc,.slice np t.ns.length nc] 39)).alloc (.cells #[.slice none 0 0,.slice none 0 0] 39)) (.slice kp ks.length kc) ks.length (vN vs)) :=
   (hk.sub (T:=fun b=>b<w.heap.size/\(Value.slice pp t.ps.length pc).ownBlock≠some b/\(Value.slice np t.ns.length nc).ownBlock≠some b) fun b hb hl=>⟨hl,hb⟩).keep (cE.kept _)
  have HRS:Hid (bF (fun b=>b<w.heap.size/\(Value.slice pp t.ps.length pc).ownBlock≠some b/\(Value.slice np t.ns.length nc).ownBlock≠some b) ((w.alloc (.cells #[.slice pp t.ps.length pc,.slice np t.ns.length nc] 39)).alloc (.cells #[.slice none 0 0,.slice none 0 0] 39)) ks vs) :=
   bF.keep (cE.kept _) ks (bF.sub (fun b hb hl=>⟨hl,hb⟩) ks hs)
  have lJ:=aa hrb;have fA:=aa hsz;have jw:=aa cE;have HS:=aa hS;have ED:=aa hpl;have uk:=aa FM;have kP:=aa hbd;have TD:=aa (app_node t nm ks par);have kK:=aa gz;have HR:=aa hr;have hb10:=HG.out.cells.1;clear ih hv hal1 cE hb1 hrb hpl FM YM hk hs hnl c0 c1 hS hbd gz hr
  go_enter Tryz.func253,Tryz.ntmps253
  go_wp2_with fail;clear hb10;generalize (w.alloc (.cells #[.slice pp t.ps.length pc,.slice np t.ns.length nc] 39)).alloc (.cells #[.slice none 0 0,.slice none 0 0] 39)=w2 at *;generalize htb:w.heap.size=tb at *
  have FP:Hid (∀(W:World) (P' N':Value),GK tb w2 W (.slice pp t.ps.length pc) (.slice np t.ns.length nc) P' N'->W.cell? ⟨xb,0,none⟩=some (.string nm)/\W.cell? ⟨xb,1,none⟩=some (.slice kp ks.length kc)):=fun W P' N' hk=>by have h1:=hk.block xb (by rw [fA.out];omega) (by omega) (fun e=>HS.out.1 e.symm) (fun e=>HS.out.2 e.symm);exact ⟨(eX (a:=⟨xb,0,none⟩) h1).trans jx.out,(eX (a:=⟨xb,1,none⟩) h1).trans jG.out⟩
  go_cut [] from 12 to 26 (fun wx=>∃P' N',GW tb B0 wx P' N' (t.push par nm)/\GK tb w2 wx (.slice pp t.ps.length pc) (.slice np t.ns.length nc) P' N')
  case first =>
   have hd:=Up.drewN w2 1;have IA:=aa HG.out;have dz:=aa HG.out.box;have zS:Hid (RW tb B0 w2 w2.drew (.slice pp t.ps.length pc) (.slice np t.ns.length nc) (.slice pp t.ps.length pc) (.slice np t.ns.length nc) t.ps t.ns):=(RW.start HG.out.tl ⟨⟨HG.out.lt,HG.out.lo.1⟩,HG.out.lo.2⟩).up hd;have fN:Hid (t.ps.length<=1000000/\t.ns.length<=1000000):=by have:=kP.out;have:=iu.out;unfold Hid;omega
   have nH:Hid (∀ {W:World} {P' N':Value} {ps':List Int} {ns':List ByteArray},RW tb B0 w2 W (.slice pp t.ps.length pc) (.slice np t.ns.length nc) P' N' ps' ns'->W.cell? ⟨tb,0,none⟩=some (.slice pp t.ps.length pc)/\W.cell? ⟨tb,1,none⟩=some (.slice np t.ns.length nc)/\W.cell? ⟨xb,0,none⟩=some (.string nm)) :=
    fun h=>⟨(h.cells dz.out).1,(h.cells dz.out).2,(FP.out _ _ _ h.gk).1⟩
   refine gQ (by kernel_rfl) 13 (fun w'=>w'.cell? ⟨tb,0,none⟩=some (.slice pp t.ps.length pc)/\w'.cell? ⟨tb,1,none⟩=some (.slice np t.ns.length nc)/\w'.cell? ⟨xb,0,none⟩=some (.string nm)) (nH.out zS.out) (fun hS=>?_);simp only [eW,aT,dO,Nat.reduceAdd,ji,jk,eV,cH,cr];generalize w2.drew=Wd at *;refine aj.tk 0 hS ?_;(try simp only [Act.put,aA,aB,aC]);refine aj.tk 1 hS ?_
   (try simp only [Act.put,aA,aB,aC]);refine aj.tk 2 hS ?_;(try simp only [Act.put,aA,aB,aC]);refine aj.tk 5 hS ?_;(try simp only [Act.put,aA,aB,aC]);refine aj.tk 6 hS ?_;(try simp only [Act.put,aA,aB,aC]);refine aj.tk 7 hS ?_;(try simp only [Act.put,aA,aB,aC]);refine aj.tk 8 hS ?_
   (try simp only [Act.put,aA,aB,aC]);refine aj.tk 9 hS ?_;(try simp only [Act.put,aA,aB,aC]);refine aj.tk 10 hS ?_;(try simp only [Act.put,aA,aB,aC]);refine aj.yG (i:=3) (i2:=11) rfl rfl (by kernel_rfl) (fun K' hK=>?_) (fun K' hK=>?_)
   ·go_simp
    have xk:Hid (RW tb B0 _ (Wd.alloc (.cells #[.int .i64 par] 3)) _ _ _ _ _ _):=zS.out.up (Up.alloc _ _);refine hK.out _ _ (fun _=>nH.out xk.out) (fun _=>?_);(try simp only [aA,aB,aC]);refine aj.yG (i:=4) (i2:=11) rfl rfl (by kernel_rfl) (fun K' hK=>?_) (fun K' hK=>?_)
    ·refine fF (by rfl) _ _ _ (by rfl) B0 3 _ 8 Tryz.underlying26 Tryz.kE (by rfl) (by decide) (by rfl) xk.out.tl.dJ (.int .i64 par) Wd.heap.size (by rfl) (aS Wd #[.int .i64 par] 3 0) (by rfl) (by rw [aG];exact fN.out.1) (aJ xk.out.lo.2 xk.out.gk.size) ?_
     intro g1 Ij iO og gA hrg1 _;have ox:Hid (RW tb B0 _ iO _ _ _ _ _ _):=xk.out.BK og gA (hrg1.imp id (fun e=>fB e.symm));refine hK.out _ _ (fun _=>nH.out ox.out) (fun _=>?_);(try simp only [Act.put,aA,aB,aC]);refine aj.fr 13 (fun _=>nH.out ox.out) ?_;(try simp only [Act.put,aA,aB,aC]);refine aj.step (i:=11) rfl (by kernel_rfl) (fun K' hK=>?_);go_simp;have kS:Hid (RW tb B0 _ (iO.alloc (.cells #[.string nm] 9)) _ _ _ _ _ _):=ox.out.up (Up.alloc _ _)
     refine hK.out _ _ (fun _=>nH.out kS.out) (fun _=>?_);(try simp only [aA,aB,aC]);refine aj.step (i:=12) rfl (by kernel_rfl) (fun K' hK=>?_);refine fF (by rfl) _ _ _ (by rfl) B0 9 _ 16 Tryz.underlying22 Tryz.kR (by rfl) (by decide) (by rfl) kS.out.tl.eH (.string nm) iO.heap.size (by rfl) (aS iO #[.string nm] 9 0) (by rfl) (by rw [aG];exact fN.out.2) (aJ kS.out.lo.2 kS.out.gk.size) ?_;intro g2 y9 iX oh kQ hrg2 _
     have mB:Hid (RW tb B0 _ iX _ _ _ _ _ _):=kS.out.BM oh kQ (hrg2.imp id (fun e=>fB e.symm));refine hK.out _ _ (fun _=>nH.out mB.out) (fun _=>?_);(try simp only [Act.put,aA,aB,aC]);obtain ⟨zP,o7⟩:=mB.out.cells dz.out;have QG:=mB.out.frozen dz.out 0;have Im:=mB.out.frozen dz.out 1;have jr:=aa (mB.out.store IA.out);refine aj.step (i:=14) rfl (by kernel_rfl) (fun K' hK=>?_);go_simp;refine hK.out _ _ (aO (by kernel_rfl)) (fun _=>?_)
     (try simp only [aA,aB,aC]);refine aj.fr 15 (aO (by kernel_rfl)) ?_;(try simp only [Act.put,aA,aB,aC]);refine aj.step (i:=16) rfl (by kernel_rfl) (fun K' hK=>?_);go_simp;refine hK.out _ _ (aO (by kernel_rfl)) (fun _=>?_);refine aj.done (by kernel_rfl) ?_;go_wp2_with fail;go_meet
     case rel =>have eU:=jr.out;simp only [aG] at eU;exact ⟨_,_,eU.1,eU.2⟩
    ·go_simp
     have ox:Hid (RW tb B0 _ ((Wd.alloc (.cells #[.int .i64 par] 3)).alloc (.cells #[.string nm] 9)) _ _ _ _ _ _):=xk.out.up (Up.alloc _ _);refine hK.out _ _ (fun _=>nH.out ox.out) (fun _=>?_);(try simp only [aA,aB,aC]);have uL:=aS (Wd.alloc (.cells #[.int .i64 par] 3)) #[.string nm] 9 0;have sI:=(Up.alloc (Wd.alloc (.cells #[.int .i64 par] 3)) (.cells #[.string nm] 9)).cell (aS Wd #[.int .i64 par] 3 0);rw [aQ] at uL;refine aj.step (i:=4) rfl (by kernel_rfl) (fun K' hK=>?_)
     refine fF (by rfl) _ _ _ (by rfl) B0 3 _ 8 Tryz.underlying26 Tryz.kE (by rfl) (by decide) (by rfl) ox.out.tl.dJ (.int .i64 par) Wd.heap.size (by rfl) sI (by rfl) (by rw [aG];exact fN.out.1) (aJ ox.out.lo.2 ox.out.gk.size) ?_;intro g1 Ij iO og gA hrg1 _;have kS:Hid (RW tb B0 _ iO _ _ _ _ _ _):=ox.out.BK og gA (hrg1.imp id (fun e=>fB e.symm))
     (have vA:iO.cell? ⟨Wd.heap.size+1,0,none⟩=some (.string nm):=by rw [gA.cell_far ⟨Wd.heap.size+1,0,none⟩ (by simp) (fun e=>absurd (av zS.out.tl.dJ e.symm).2 (by show ¬(Wd.heap.size+1<Wd.heap.size);omega))];exact uL);refine hK.out _ _ (fun _=>nH.out kS.out) (fun _=>?_);(try simp only [Act.put,aA,aB,aC]);refine aj.fr 13 (fun _=>nH.out kS.out) ?_;(try simp only [Act.put,aA,aB,aC]);refine aj.step (i:=12) rfl (by kernel_rfl) (fun K' hK=>?_)
     refine fF (by rfl) _ _ _ (by rfl) B0 9 _ 16 Tryz.underlying22 Tryz.kR (by rfl) (by decide) (by rfl) kS.out.tl.eH (.string nm) (Wd.heap.size+1) (by rfl) vA (by rfl) (by rw [aG];exact fN.out.2) (aJ kS.out.lo.2 kS.out.gk.size) ?_;intro g2 y9 iX oh kQ hrg2 _;have mB:Hid (RW tb B0 _ iX _ _ _ _ _ _):=kS.out.BM oh kQ (hrg2.imp id (fun e=>fB e.symm));refine hK.out _ _ (fun _=>nH.out mB.out) (fun _=>?_);(try simp only [Act.put,aA,aB,aC]);obtain ⟨zP,o7⟩:=mB.out.cells dz.out
     have QG:=mB.out.frozen dz.out 0;have Im:=mB.out.frozen dz.out 1;have jr:=aa (mB.out.store IA.out);refine aj.step (i:=14) rfl (by kernel_rfl) (fun K' hK=>?_);go_simp;refine hK.out _ _ (aO (by kernel_rfl)) (fun _=>?_);(try simp only [aA,aB,aC]);refine aj.fr 15 (aO (by kernel_rfl)) ?_;(try simp only [Act.put,aA,aB,aC]);refine aj.step (i:=16) rfl (by kernel_rfl) (fun K' hK=>?_);go_simp;refine hK.out _ _ (aO (by kernel_rfl)) (fun _=>?_)
     refine aj.done (by kernel_rfl) ?_;go_wp2_with fail;go_meet
     case rel =>have eU:=jr.out;simp only [aG] at eU;exact ⟨_,_,eU.1,eU.2⟩
   ·go_simp
    have xk:Hid (RW tb B0 _ (Wd.alloc (.cells #[.string nm] 9)) _ _ _ _ _ _):=zS.out.up (Up.alloc _ _);refine hK.out _ _ (fun _=>nH.out xk.out) (fun _=>?_);(try simp only [aA,aB,aC]);refine aj.step (i:=3) rfl (by kernel_rfl) (fun K' hK=>?_);go_simp;have ox:Hid (RW tb B0 _ ((Wd.alloc (.cells #[.string nm] 9)).alloc (.cells #[.int .i64 par] 3)) _ _ _ _ _ _):=xk.out.up (Up.alloc _ _);refine hK.out _ _ (fun _=>nH.out ox.out) (fun _=>?_);try simp only [aA,aB,aC]
    have sI:=aS (Wd.alloc (.cells #[.string nm] 9)) #[.int .i64 par] 3 0;have uL:=(Up.alloc (Wd.alloc (.cells #[.string nm] 9)) (.cells #[.int .i64 par] 3)).cell (aS Wd #[.string nm] 9 0);rw [aQ] at sI;refine aj.step (i:=4) rfl (by kernel_rfl) (fun K' hK=>?_);refine fF (by rfl) _ _ _ (by rfl) B0 3 _ 8 Tryz.underlying26 Tryz.kE (by rfl) (by decide) (by rfl) ox.out.tl.dJ (.int .i64 par) (Wd.heap.size+1) (by rfl) sI (by rfl) (by rw [aG];exact fN.out.1) (aJ ox.out.lo.2 ox.out.gk.size) ?_;intro g1 Ij iO og gA hrg1 _
    have kS:Hid (RW tb B0 _ iO _ _ _ _ _ _):=ox.out.BK og gA (hrg1.imp id (fun e=>fB e.symm));(have vA:iO.cell? ⟨Wd.heap.size,0,none⟩=some (.string nm):=by rw [gA.cell_far ⟨Wd.heap.size,0,none⟩ (by simp;omega) (fun e=>absurd (av zS.out.tl.dJ e.symm).2 (by show ¬(Wd.heap.size<Wd.heap.size);omega))];exact uL);refine hK.out _ _ (fun _=>nH.out kS.out) (fun _=>?_);(try simp only [Act.put,aA,aB,aC]);refine aj.fr 13 (fun _=>nH.out kS.out) ?_
    (try simp only [Act.put,aA,aB,aC]);refine aj.step (i:=12) rfl (by kernel_rfl) (fun K' hK=>?_);refine fF (by rfl) _ _ _ (by rfl) B0 9 _ 16 Tryz.underlying22 Tryz.kR (by rfl) (by decide) (by rfl) kS.out.tl.eH (.string nm) Wd.heap.size (by rfl) vA (by rfl) (by rw [aG];exact fN.out.2) (aJ kS.out.lo.2 kS.out.gk.size) ?_;intro g2 y9 iX oh kQ hrg2 _;have mB:Hid (RW tb B0 _ iX _ _ _ _ _ _):=kS.out.BM oh kQ (hrg2.imp id (fun e=>fB e.symm))
    refine hK.out _ _ (fun _=>nH.out mB.out) (fun _=>?_);(try simp only [Act.put,aA,aB,aC]);obtain ⟨zP,o7⟩:=mB.out.cells dz.out;have QG:=mB.out.frozen dz.out 0;have Im:=mB.out.frozen dz.out 1;have jr:=aa (mB.out.store IA.out);refine aj.step (i:=14) rfl (by kernel_rfl) (fun K' hK=>?_);go_simp;refine hK.out _ _ (aO (by kernel_rfl)) (fun _=>?_);(try simp only [aA,aB,aC]);refine aj.fr 15 (aO (by kernel_rfl)) ?_
    (try simp only [Act.put,aA,aB,aC]);refine aj.step (i:=16) rfl (by kernel_rfl) (fun K' hK=>?_);go_simp;refine hK.out _ _ (aO (by kernel_rfl)) (fun _=>?_);refine aj.done (by kernel_rfl) ?_;go_wp2_with fail;go_meet
    case rel =>have eU:=jr.out;simp only [aG] at eU;exact ⟨_,_,eU.1,eU.2⟩
  case rest =>
   obtain ⟨P1,N1,hG1,hK1⟩:=hcut;have HG1:=aa hG1;have Nr:=aa hK1;have um:Hid ((t.push par nm).apps (ks.take 0) t.ps.length=t.push par nm):=apps_nil _ _;clear hG1 hK1;go_wp2_with fail
   go_loopw [8] (fun i wr=>∃(j:Nat) (P' N':Value),j<=ks.length/\i=.int .i64 j/\Hid (GW tb B0 wr P' N' ((t.push par nm).apps (ks.take j) t.ps.length))/\Hid (GK tb w2 wr (.slice pp t.ps.length pc) (.slice np t.ns.length nc) P' N')) (fun i _=>ks.length - (intOf i).toNat)
   case atStart=>exact ⟨0,P1,N1,aL _,rfl,by rw [um.out];exact HG1.out,Nr.out⟩
   case round =>
    obtain ⟨j,P',N',hj,rfl,NF,NG⟩:=hrel;obtain ⟨wo,rfl⟩:∃wo:World,wo=wr:=⟨_,rfl⟩;have hx:=FP.out _ _ _ NG.out;have hx1:=hx.2;by_cases hlt:j<ks.length
    ·have hcs:=NF.out.cells
     have hkr:Kept (fun b=>b<tb/\(Value.slice pp t.ps.length pc).ownBlock≠some b/\(Value.slice np t.ns.length nc).ownBlock≠some b) w2 wo:=NG.out.keepR fun b hb _=>⟨by omega,hb.2⟩;obtain ⟨kb,ko,rfl,hkc⟩:=xg (ND.out.keep hkr) hlt;have NH:=fP.keep hkr _ (bF.get ks HRS.out j hlt)
     have hra2:fP (fun b=>P'.ownBlock≠some b/\N'.ownBlock≠some b) wo (gr ks j) (vN vs j):=fP.sub (fun b hb hl=>⟨fun e=>by
      rcases NG.out.rJ b e with h1 | h1
      ·exact hb.2.1 h1
      ·have:=hb.1;have:=fA.out;omega,fun e=>by
      rcases NG.out.rK b e with h1 | h1
      ·exact hb.2.2 h1
      ·have:=hb.1;have:=fA.out;omega⟩) _ NH
     have hgs:=A3 hlt;obtain ⟨T,hT⟩:∃T,T=(t.push par nm).apps (ks.take j) t.ps.length:=⟨_,rfl⟩;(have HTS:Hid (T.app (gr ks j) (t.ps.length:Int)=(t.push par nm).apps (ks.take (j+1)) t.ps.length):=by rw [hT];exact apps_one _ _ hlt _);(have htl:T.ps.length=t.ps.length+1+bE (ks.take j)/\T.ns.length=t.ns.length+1+bE (ks.take j):=by rw [hT];unfold az.apps az.push;simp only [aZ,aT,dO,xY,LL];exact ⟨trivial,trivial⟩);have hsz2:=sizes_take ks hlt;rw [<- hT] at NF
     have jq:Hid (∀W,Up wo W->Calls Tryz.prog 253 #[.agg #[P',N'],vN vs j,.int .i64 (t.ps.length:Nat)] W (WtPost B0 W P' N' T (gr ks j) (t.ps.length:Nat))):=fun W hW =>
      qu.out (gr ks j) (by have:=HR.out;omega) W P' N' (vN vs j) T _ (NF.out.tl.up hW) (aJ NF.out.lo.2 hW.size) (by have:=iu.out;omega) (by have:=kP.out;omega) (fP.keep (hW.kept _) _ hra2)
     have QO:=aa NF.out;have HKJ:=aa NG.out;(have i1:(0:Int)<=(j:Int):=by omega);(have i2:(j:Int)<(ks.length:Int):=by omega);(have i3:(j:Int)<1000000:=by have:=kK.out;have:=kP.out;omega);have bu:=aa hlt;have a0:=hcs.1;have a1:=hcs.2.1;clear hT htl hgs NH hra2 hkr hcs hx NF NG hsz2 hlt hj;generalize vN vs j=kv at *;generalize gr ks j=r at *;go_wp2_with fail
     refine gQ (by kernel_rfl) 10 (fun w'=>w'.cell? ⟨tb,0,none⟩=some P'/\w'.cell? ⟨tb,1,none⟩=some N'/\w'.cell? ⟨xb,1,none⟩=some (.slice (some ⟨kb,ko,none⟩) ks.length kc)/\w'.cell? ⟨kb,ko+j,none⟩=some kv) ⟨a0,a1,hx1,hkc⟩ (fun hS=>?_);simp only [eW,aT,dO,Nat.reduceAdd,ji,jk,eV,cH,cr];refine aj.tk 0 hS ?_;(try simp only [Act.put,aA,aB,aC]);refine aj.tk 1 hS ?_
     (try simp only [Act.put,aA,aB,aC]);refine aj.tk 2 hS ?_;(try simp only [Act.put,aA,aB,aC]);refine aj.tk 3 hS ?_;(try simp only [Act.put,aA,aB,aC]);refine aj.tk 4 hS ?_;(try simp only [Act.put,aA,aB,aC]);refine aj.tk 5 hS ?_;(try simp only [Act.put,aA,aB,aC]);refine aj.tk 6 hS ?_
     (try simp only [Act.put,aA,aB,aC]);refine aj.tk 7 hS ?_;(try simp only [Act.put,aA,aB,aC]);refine aj.tk 8 hS ?_;(try simp only [Act.put,aA,aB,aC]);refine aj.step (i:=9) rfl (by kernel_rfl) (fun K' hK=>?_);go_simp;refine (jq.out _ (drew_up3 wo)).mono ?_;rintro e w3 ⟨P2,N2,rfl,QS,hK3⟩;obtain ⟨p2,c2,rfl,_,_⟩:=ay.open QS.dJ.ints;obtain ⟨q2,e2,rfl,_,_⟩:=ay.open QS.eH.strs;have hfz:=wt_frozen QO.out hK3
     have KI:=hfz 0;have nE:=hfz 1;have hw0:w3.cell? ⟨tb,0,none⟩=some P':=(eX (a:=⟨tb,0,none⟩) (J1 QO.out hK3)).trans QO.out.cells.1;have hw1:w3.cell? ⟨tb,1,none⟩=some N':=(eX (a:=⟨tb,1,none⟩) (J1 QO.out hK3)).trans QO.out.cells.2.1;have HPUT:=aa (QO.out.put (u:=T.app r (t.ps.length:Int)) (wt_gk QO.out hK3) (J1 QO.out hK3) QS);clear hfz QS hK3;refine hK.out _ _ (aO (by kernel_rfl)) (fun hS=>?_);try simp only [aA,aB,aC]
     refine aj.step (i:=10) rfl (by kernel_rfl) (fun K' hK=>?_);go_simp;refine hK.out _ _ (aO (by kernel_rfl)) (fun hS=>?_);refine aj.done (by kernel_rfl) ?_;go_wp2_with fail
     go_roundw
     case rel=>exact ⟨j+1,_,_,bu.out,by go_num,by rw [<- HTS.out];exact HPUT.out.1,HKJ.out.trans HPUT.out.2⟩
     case measure=>have:=bu.out;simp [intOf];omega
    ·obtain rfl:j=ks.length:=by omega
     have hcs:=NF.out.cells;have a0:=hcs.1;have a1:=hcs.2.1;have hrb:wo.heap[tb+1]? = some (Obj.cells #[.slice none 0 0,.slice none 0 0] 39 (0,0)) :=
      (NG.out.block (tb+1) (by rw [fA.out];omega) (by omega) (fun e=>by have:=ED.out _ e.symm;omega) (fun e=>by have:=uk.out _ e.symm;omega)).trans lJ.out
     (obtain ⟨r0,r1,r2,r3⟩:wo.cell? ⟨tb+1,0,none⟩=some (.slice none 0 0)/\wo.cell? ⟨tb+1,1,none⟩=some (.slice none 0 0)/\wo.frozen? ⟨tb+1,0,none⟩=false/\wo.frozen? ⟨tb+1,1,none⟩=false:=by refine ⟨?_,?_,?_,?_⟩<;>simp [World.cell?,World.frozen?,hrb]);have hGf:=NF.out;rw [gh,TD.out] at hGf;have HGF:=aa hGf;have T9:=aa NG.out;obtain ⟨pq,GV,rfl,_,_⟩:=ay.open hGf.tl.dJ.ints;obtain ⟨nq,GX,rfl,_,_⟩:=ay.open hGf.tl.eH.strs;have HRBX:=aa hrb;clear hcs NF NG hGf hx hlt hj hrb;go_wp2_with fail
     have dR:∀b,b≠tb+1->((wo.setCell ⟨tb+1,0,none⟩ (.slice pq (t.app (.node nm ks) par).ps.length GV)).setCell ⟨tb+1,1,none⟩ (.slice nq (t.app (.node nm ks) par).ns.length GX)).heap[b]? = wo.heap[b]?:=fun b hb=>by rw [blk_setCell_other _ _ _ _ hb,blk_setCell_other _ _ _ _ hb]
     (have hheap:((wo.setCell ⟨tb+1,0,none⟩ (.slice pq (t.app (.node nm ks) par).ps.length GV)).setCell ⟨tb+1,1,none⟩ (.slice nq (t.app (.node nm ks) par).ns.length GX)).heap[tb+1]? = some (Obj.cells #[.slice pq (t.app (.node nm ks) par).ps.length GV,.slice nq (t.app (.node nm ks) par).ns.length GX] 39 (0,0)):=by simp [World.setCell,Array.getElem?_modify,HRBX.out]);have hsf:((wo.setCell ⟨tb+1,0,none⟩ (.slice pq (t.app (.node nm ks) par).ps.length GV)).setCell ⟨tb+1,1,none⟩ (.slice nq (t.app (.node nm ks) par).ns.length GX)).heap.size=wo.heap.size:=by simp [World.size_setCell]
     have hos:((wo.setCell ⟨tb+1,0,none⟩ (.slice pq (t.app (.node nm ks) par).ps.length GV)).setCell ⟨tb+1,1,none⟩ (.slice nq (t.app (.node nm ks) par).ns.length GX)).os=wo.os/\((wo.setCell ⟨tb+1,0,none⟩ (.slice pq (t.app (.node nm ks) par).ps.length GV)).setCell ⟨tb+1,1,none⟩ (.slice nq (t.app (.node nm ks) par).ns.length GX)).tape=wo.tape/\((wo.setCell ⟨tb+1,0,none⟩ (.slice pq (t.app (.node nm ks) par).ps.length GV)).setCell ⟨tb+1,1,none⟩ (.slice nq (t.app (.node nm ks) par).ns.length GX)).output=wo.output:=⟨rfl,rfl,rfl⟩
     generalize (wo.setCell ⟨tb+1,0,none⟩ (.slice pq (t.app (.node nm ks) par).ps.length GV)).setCell ⟨tb+1,1,none⟩ (.slice nq (t.app (.node nm ks) par).ns.length GX)=wf at *;(have sH:wf.cell? ⟨tb+1,0,none⟩=some (.slice pq (t.app (.node nm ks) par).ps.length GV):=by simp [World.cell?,hheap]);(have hr1:wf.cell? ⟨tb+1,1,none⟩=some (.slice nq (t.app (.node nm ks) par).ns.length GX):=by simp [World.cell?,hheap]);refine ⟨rfl,.agg #[.slice pq (t.app (.node nm ks) par).ps.length GV,.slice nq (t.app (.node nm ks) par).ns.length GX],by simp [results,Tryz.results253,go_sem,sH,hr1],?_⟩
     have hs2:=fA.out;have hnp:∀b,(Value.slice pq (t.app (.node nm ks) par).ps.length GV).ownBlock=some b->(Value.slice pp t.ps.length pc).ownBlock=some b\/w2.heap.size<=b:=T9.out.rJ;have hnn:∀b,(Value.slice nq (t.app (.node nm ks) par).ns.length GX).ownBlock=some b->(Value.slice np t.ns.length nc).ownBlock=some b\/w2.heap.size<=b:=T9.out.rK;have hne1:∀b,(Value.slice pq (t.app (.node nm ks) par).ps.length GV).ownBlock=some b->b≠tb+1:=fun b hb=>by
      rcases hnp b hb with h1 | h1
      ·have:=ED.out b h1;omega
      ·omega
     have O3:∀b,(Value.slice nq (t.app (.node nm ks) par).ns.length GX).ownBlock=some b->b≠tb+1:=fun b hb=>by
      rcases hnn b hb with h1 | h1
      ·have:=uk.out b h1;omega
      ·omega
     have hko:=T9.out.size;refine ⟨_,_,rfl,⟨HGF.out.tl.dJ.fM fun b hb=>dR b (hne1 b hb),HGF.out.tl.eH.fM fun b hb=>dR b (O3 b hb),HGF.out.tl.apart⟩,hos.1.trans (T9.out.os.trans jw.out.os),hos.2.1.trans (T9.out.tape.trans jw.out.tape),hos.2.2.trans (T9.out.output.trans jw.out.output),by omega,fun b hb h1 h2 h3=>?_,fun b hb=>?_,fun b hb=>?_⟩
     ·rw [dR b (by omega),T9.out.block b (by omega) (by omega) h2 h3]
      exact jw.out.block b hb
     ·rcases hnp b hb with h1 | h1
      ·exact .inl h1
      ·exact .inr (by omega)
     ·rcases hnn b hb with h1 | h1
      ·exact .inl h1
      ·exact .inr (by omega)
end
end Go.Proofs.YthgabkgmkolobaaGreat
