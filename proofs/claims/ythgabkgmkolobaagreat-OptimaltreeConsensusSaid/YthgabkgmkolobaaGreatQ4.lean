/- The contract of the closure that fills .. -/
import Derived.Test.YthgabkgmkolobaaGreatQ3
set_option maxRecDepth 100000
set_option maxHeartbeats 2000000
namespace Go.Proofs.YthgabkgmkolobaaGreat
section
open Go.RowKit Go.Shelf Go.Deep
attribute [local go_sem] yB
theorem Gw (S:Nat->Prop) (w:World) (v:Value) (xs:List Int) (x:Int) (h:af S w v xs) (hn:xs.length<=1000000) :
  Calls Tryz.prog 62 #[v,.int .i64 x] w fun e w'=>e=.returned (.int .i64 (dr (fun j=>decide (x=gi xs j)) xs.length))/\w=w':=by
 obtain ⟨p,cap,rfl,hcap,H⟩:=aq.open h;clear h;go_in;go_wp2
 go_loop [5,8] (fun _ i=>∃k:Nat,k<=xs.length/\i=.int .i64 k/\Hid (∀j,j<k->decide (x=gi xs j)=false)) (fun _ i=>xs.length - (intOf i).toNat)
 case atStart=>exact ⟨0,aF _,rfl,fun j hj=>absurd hj (aZ _)⟩
 case round =>
  obtain ⟨k,hk,rfl,hd⟩:=hrel;by_cases hlt:k<xs.length
  ·obtain ⟨b,off,rfl,hc⟩:=H k hlt
   clear H;generalize hy:gi xs k=y at *;have HY:=aa hy;clear hy;by_cases hxy:x=y
   ·have hx1:(x==y)=true:=by simp [hxy]
    have yI:=aa hxy;clear hxy;go_wp2;go_ret;exact ⟨aC (gG (p:=fun j=>decide (x=gi xs j)) hlt hd.out (by rw [HY.out];simpa using yI.out)).symm,rfl⟩
   ·have hx1:(x==y)=false:=by simpa using hxy
    have yI:=aa hxy;clear hxy;go_wp2
    go_round
    case rel=>exact ⟨k+1,by omega,by go_num,fun j hj=>if e:j=k then by subst e;rw [HY.out];simpa using yI.out else hd.out j (by omega)⟩
    case measure=>simp [intOf];omega
  ·clear H
   go_wp2;go_ret;exact ⟨aC (dZ fun j hj=>hd.out j (by omega)).symm,rfl⟩
structure F6 (w:World) (t:ax) (st:List Int) (cs:List (List Int)) (pC pL pS pT pO ob:Nat) (V:Nat->Value) (k:Nat):Prop where
 cC:∃C,w.cell? ⟨pC,0,none⟩=some C/\aT (· ≠ ob) w C cs
 cL:∃L,w.cell? ⟨pL,0,none⟩=some L/\af (· ≠ ob) w L (ay t.ns)
 cS:∃L,w.cell? ⟨pS,0,none⟩=some L/\af (· ≠ ob) w L st
 cT:∃P N,w.cell? ⟨pT,0,none⟩=some P/\w.cell? ⟨pT,1,none⟩=some N/\af (· ≠ ob) w P t.ps
 cO:w.cell? ⟨pO,0,none⟩=some (.slice (some ⟨ob,0,none⟩) t.ps.length t.ps.length)
 row:w.rowIs ob 26 t.ps.length V
 rows:∀j,k<=j->j<t.ps.length->af (· ≠ ob) w (V j) (bZ t st cs j)
 ne:pC≠ob/\pL≠ob/\pS≠ob/\pT≠ob/\pO≠ob
def aay (w:World) (t:ax) (st:List Int) (cs:List (List Int)) (ob:Nat) (V:Nat->Value) (i:Nat) (e:Ending) (w':World):Prop :=
 e=.returned (.tuple #[])/\w.grownBy w' (some ob)/\∃v,w'.rowIs ob 26 t.ps.length (fun j=>if j=i then v else V j)/\af (· ≠ ob) w' v (bZ t st cs i)
structure jf (w1 wr:World) (R0 m:Nat) (f:Nat->Int) (ds:List Deferred):Prop where
 grown:w1.grownBy wr (some R0)
 row:wr.rowIs R0 3 m (fun j=>.int .i64 (f j))
 marks:Marks w1.heap.size wr ds
theorem Marks.drewN {n₀:Nat} {w:World} {ds:List Deferred} (h:Marks n₀ w ds) (k:Nat):Marks n₀ (w.drewN k) ds:=Marks.keep (w:=w) (w':=w.drewN k) (fun _ _ _=>rfl) h
theorem jf.drewN {w1 wr:World} {R0 m:Nat} {f:Nat->Int} {ds:List Deferred} (h:jf w1 wr R0 m f ds) (k:Nat):jf w1 (wr.drewN k) R0 m f ds :=
 ⟨⟨h.grown.os,h.grown.tape,h.grown.output,h.grown.size,h.grown.block⟩,h.row,h.marks.drewN k⟩
theorem jf.congr {w1 wr:World} {R0 m:Nat} {f g:Nat->Int} {ds:List Deferred} (h:jf w1 wr R0 m f ds) (e:∀j,j<m->f j=g j):jf w1 wr R0 m g ds :=
 ⟨h.grown,h.row.congr fun j hj=>by rw [e j hj],h.marks⟩
theorem jf.set {w1 wr:World} {R0 m:Nat} {f:Nat->Int} {ds:List Deferred} (h:jf w1 wr R0 m f ds) (hR:R0<w1.heap.size) (s:Nat) (x:Int) :
  jf w1 (wr.setCell ⟨R0,s,none⟩ (.int .i64 x)) R0 m (fun j=>if j=s then x else f j) ds :=
 ⟨⟨h.grown.os,h.grown.tape,h.grown.output,by rw [nh];exact h.grown.size,fun k hk hne=>(KT _ _ _ k (fun e=>hne (by rw [e]))).trans (h.grown.block k hk hne)⟩,
  (h.row.set s _).congr (fun j _=>by by_cases e:j=s<;>simp [e]),h.marks.keep fun r _ hr2=>KT _ _ _ r (by simp only;omega)⟩
theorem jf.alloc {w1 wr:World} {R0 m:Nat} {f:Nat->Int} {ds:List Deferred} (h:jf w1 wr R0 m f ds) (o:Obj):jf w1 (wr.alloc o) R0 m f ds :=
 ⟨⟨h.grown.os,h.grown.tape,h.grown.output,by simp;have:=h.grown.size;omega,fun k hk hne=>(En _ _ k (iI hk h.grown.size)).trans (h.grown.block k hk hne)⟩,
  h.row.alloc o,h.marks.keep fun r hr _=>En _ _ r (by
   rcases Nat.lt_or_ge r wr.heap.size with h | h
   ·exact h
   ·rw [OA h] at hr;cases hr)⟩
theorem VA {P:Program} {f:FuncId} {args:Array Value} {w:World} {n:Nat} {v:Value} (h:Calls P f args (w.drewN n) fun e w'=>e=.returned v/\w.drewN n=w') :
  Calls P f args (w.drewN n) fun e w''=>e=.returned v/\∃m,w''=w.drewN m:=h.mono fun _ _ ⟨he,hm⟩=>⟨he,n,hm.symm⟩
theorem Jo (S:Nat->Prop) (w:World) (n:Nat):Kept S w (w.drewN n):=fun _ _ _=>rfl
theorem O2 {a b c:World} {R:Nat} (h:a.grownBy b (some R)) (k:b.grownBy c (some R)):a.grownBy c (some R) :=
 ⟨k.os.trans h.os,k.tape.trans h.tape,k.output.trans h.output,aB h.size k.size,fun i hi hne=>(k.block i (iI hi h.size) hne).trans (h.block i hi hne)⟩
theorem jf.later {w1 w7 W:World} {R0 m:Nat} {f g:Nat->Int} {ds:List Deferred} (h:jf w1 w7 R0 m f ds) (hg:w7.grownBy W (some R0)) (hr:W.rowIs R0 3 m (fun j=>.int .i64 (g j))) (hR:R0<w1.heap.size):jf w1 W R0 m g ds :=
 ⟨O2 h.grown hg,hr,h.marks.keep fun r hr hr2=>hg.block r (by
   rcases Nat.lt_or_ge r w7.heap.size with h | h
   ·exact h
   ·rw [OA h] at hr;cases hr) (by simp;omega)⟩
theorem aee {w7:World} {R0 m:Nat} {β:Type} {f:β->Nat->Int} (hR:R0<w7.heap.size) :
  OwnFrom w7.heap.size (fun (pre:β) W=>W.rowIs R0 3 m (fun j=>.int .i64 (f pre j))/\w7.grownBy W (some R0)):=by
 rintro pre W W' row ⟨h1,h2⟩ hg hr;refine ⟨h1.of_block (hg.block _ h1.lt (fun e=>by have:=(hr _ e.symm).1;omega)),hg.os.trans h2.os,hg.tape.trans h2.tape,hg.output.trans h2.output,aB h2.size hg.size,fun k hk hne=>?_⟩;exact (hg.block k (iI hk h2.size) (fun e=>by have:=(hr _ e.symm).1;omega)).trans (h2.block k hk hne)
theorem aaz {ps:List Int} {i:Nat} {f:Nat->Int} {A:Int} {B:Nat} (hA:0<=A) (hB:0<=(B:Int)):∀(l:List (L9 ps i)),(∀c:L9 ps i,-1<=f c.1/\f c.1<=A)->l.length<=B -> -(B:Int)<=((vals l).map f).sum/\((vals l).map f).sum<=A*B:=by
 intro l h
 induction l generalizing B with
 | nil=>intro _;simp [vals];exact Int.mul_nonneg hA hB
 | cons c l ih =>
  intro hl;simp only [aW] at hl;obtain ⟨B',rfl⟩:∃B',B=B'+1:=⟨B - 1,by omega⟩;have:=ih (B:=B') (by omega) (by omega);have hc:=h c;have e:A*((B'+1:Nat):Int)=A*B'+A:=by rw [Int.natCast_add,Int.mul_add];simp
  rw [e];simp only [vals,dV,List.sum_cons] at this ⊢;constructor<;>omega
theorem afM (w:World) (t:ax) (st:List Int) (cs:List (List Int)) (pC pL pS pT pO ob:Nat) (V:Nat->Value) (i:Nat) (hi:i<t.ps.length) (hW:F6 w t st cs pC pL pS pT pO ob V (i+1))
  (hn:t.ps.length<=64) (hm:cs.length<=16) (hm0:0<cs.length) (uQ:(ay t.ns).length<=st.length) (hrl:∀a,a<cs.length->(gl cs a).length=cs.length) (hcb:∀a k,0<=gi (gl cs a) k/\gi (gl cs a) k<=1000)
  (htb:∀j s,j<t.ps.length -> -1<=gi (bZ t st cs j) s/\gi (bZ t st cs j) s<=100000) (oL:(ay t.ns).length<=64) :
  Calls Tryz.prog 230 #[.int .i64 i,.pointer (some ⟨pC,0,none⟩),.pointer (some ⟨pL,0,none⟩),.pointer (some ⟨pS,0,none⟩),.pointer (some ⟨pT,0,none⟩),.pointer (some ⟨pO,0,none⟩)] w (aay w t st cs ob V i):=by
 obtain ⟨C,hcC,hC⟩:=hW.cC
 obtain ⟨L,O3,hL⟩:=hW.cL
 obtain ⟨St,hcS,hS⟩:=hW.cS
 obtain ⟨P,N,sP,uh,hP⟩:=hW.cT
 have hcO:=hW.cO
 obtain ⟨fC,Hs,Jp⟩:=hC
 obtain ⟨qC,pg,rfl,akW,Xw⟩:=aq.open Hs
 obtain ⟨qL,alq,rfl,akX,dG⟩:=aq.open hL
 obtain ⟨qS,qi,rfl,akY,xh⟩:=aq.open hS
 have hb1:Below w.heap.size w ((w.alloc (.cells (madeCells #[.int .i64 0] cs.length) 3)).alloc (.cells #[.slice (some ⟨w.heap.size,0,none⟩) cs.length cs.length] 26)):=((cM _ w).alloc (ah _) _).alloc (by simp) _
 have hL1:=aq.keep hL (Kept.below hb1)
 have hix:=Gw (· ≠ ob) _ _ _ (i:Int) hL1 (by omega)
 have qV:=aa hix
 have lC:=dL _ _ hcC
 have lL:=dL _ _ O3
 have lS:=dL _ _ hcS
 have lP:=dL _ _ sP
 have lO:=dL _ _ hcO
 simp only at lC lL lS lP lO
 have aaA:=cell_later hb1 hcC
 have ai1:=cell_later hb1 O3
 have aaB:=cell_later hb1 hcS
 have aaC:=cell_later hb1 sP
 have tA:=cell_later hb1 uh
 have aaD:=cell_later hb1 hcO
 have adH:=(World.rowIs_made w (.int .i64 0) cs.length 3).alloc (.cells #[.slice (some ⟨w.heap.size,0,none⟩) cs.length cs.length] 26)
 have hR1:((w.alloc (.cells (madeCells #[.int .i64 0] cs.length) 3)).alloc (.cells #[.slice (some ⟨w.heap.size,0,none⟩) cs.length cs.length] 26)).cell? ⟨w.heap.size+1,0,none⟩=some (.slice (some ⟨w.heap.size,0,none⟩) cs.length cs.length):=by simp
 have CZ:((w.alloc (.cells (madeCells #[.int .i64 0] cs.length) 3)).alloc (.cells #[.slice (some ⟨w.heap.size,0,none⟩) cs.length cs.length] 26)).heap.size=w.heap.size+2:=by simp
 have HW:=aa hW
 have EC:=aa htb
 have sO:=aa hcb
 have pV:=aa hrl
 have ai2:=aa xh
 have mO:=aa hb1
 have aim:=aa adH
 have sA:=aa CZ
 have hmk:=fun W=>run_make_row' (P:=Tryz.prog) 26 3 (.int .i64 0) 8 Tryz.underlying26 Tryz.iD rfl .i64 .i64 cs.length (by omega) (by omega) W
 have O4:=aa hP
 have HCI:Hid (aT (· ≠ ob) w (.slice qC cs.length pg) cs):=⟨fC,Hs,Jp⟩
 clear hW htb hcb hrl Xw dG xh Hs Jp hL hS hP hb1 hL1 hix adH CZ O3 hcS sP uh hcO
 refine (callsIn_wide (n:=9)).1 ?_
 refine callsIn_of_wp_marks Tryz.func230 rfl trivial ?_
 simp only [Tryz.ntmps230,dY,aW,dw,Nat.reduceAdd,Nat.reduceSub,iu,iw,dX,s9,di,cm]
 gi_wp2_with fail
 refine ⟨trivial,(callsIn_wide.2 qV.out).mono ?_⟩
 rintro e w' ⟨rfl,rfl⟩
 generalize hw1:((w.alloc (.cells (madeCells #[.int .i64 0] cs.length) 3)).alloc (.cells #[.slice (some ⟨w.heap.size,0,none⟩) cs.length cs.length] 26))=w1 at *
 clear hw1 qV hmk
 have hle:mj t.ns i=dr (fun j=>decide ((i:Int)=gi (ay t.ns) j)) (ay t.ns).length:=rfl
 rw [<- hle]
 have hlo:=CV (fun j=>decide ((i:Int)=gi (ay t.ns) j)) (ay t.ns).length
 rw [<- hle] at hlo
 have how:Ho t.ns st i=if 0<=mj t.ns i then gi st (mj t.ns i).toNat else -1:=rfl
 have HOW:=aa how
 generalize hk:mj t.ns i=kl at *
 obtain ⟨hk1,hk2,_⟩:=hlo
 clear hle hk how
 gi_wp2_with fail
 refine wpIn_loop (fun a wr=>∃(s:Nat) (ds:List Deferred) (u6 u9 u10 u11 u12 u13 u14 u15 u16 u17 u18 u19 u22 u23 u24 u25 u26 u27 u28 u29 u30 u31 u32 u33 u34 u35 u36 u37 u38 u39 u40 u41 u42 u43 u44 u45 u46 u47 u48 u49 u50 u51 u52 u53 u54 u55 u56 u57 u58 u59 u60 u61 u62 u63 u64 u65 u66 u67 u68 u69:Value),s<=cs.length/\a={ tmps:=#[.int .i64 i,.pointer (some ⟨pC,0,none⟩),.pointer (some ⟨pL,0,none⟩),.pointer (some ⟨pS,0,none⟩),.pointer (some ⟨pT,0,none⟩),.pointer (some ⟨pO,0,none⟩),u6,.pointer (some ⟨w.heap.size+1,0,none⟩),.int .i64 kl,u9,u10,u11,u12,u13,u14,u15,u16,u17,u18,u19,.int .i64 cs.length,.int .i64 s,u22,u23,u24,u25,u26,u27,u28,u29,u30,u31,u32,u33,u34,u35,u36,u37,u38,u39,u40,u41,u42,u43,u44,u45,u46,u47,u48,u49,u50,u51,u52,u53,u54,u55,u56,u57,u58,u59,u60,u61,u62,u63,u64,u65,u66,u67,u68,u69],defers:=ds }/\jf w1 wr w.heap.size cs.length (fun j=>if j<s then gi (bZ t st cs i) j else 0) ds) (fun a _=>cs.length - (intOf (a.tmps.getD 21 undef)).toNat) ?start ?round
 case start =>
  exact ⟨0,[],_,_,_,_,_,_,_,_,_,_,_,_,_,_,_,_,_,_,_,_,_,_,_,_,_,_,_,_,_,_,_,_,_,_,_,_,_,_,_,_,_,_,_,_,_,_,_,_,_,_,_,_,_,_,_,_,_,_,_,_,aF _,rfl,⟨⟨rfl,rfl,rfl,ah _,fun _ _ _=>rfl⟩,aim.out.congr (fun j _=>by simp),trivial⟩⟩
 case round =>
  rintro a wr ⟨s,ds,u6,u9,u10,u11,u12,u13,u14,u15,u16,u17,u18,u19,u22,u23,u24,u25,u26,u27,u28,u29,u30,u31,u32,u33,u34,u35,u36,u37,u38,u39,u40,u41,u42,u43,u44,u45,u46,u47,u48,u49,u50,u51,u52,u53,u54,u55,u56,u57,u58,u59,u60,u61,u62,u63,u64,u65,u66,u67,u68,u69,hs,rfl,hRW⟩
  have hg:=hRW.grown
  have afN:=hg.cell aaA (by simp;omega)
  have afO:=hg.cell aaB (by simp;omega)
  have afP:=hg.cell aaC (by simp;omega)
  have afQ:=hg.cell tA (by simp;omega)
  have afR:=hg.cell aaD (by simp;omega)
  have Mb:=hg.cell hR1 (by simp)
  have Jq:=aa hRW
  have alr:=aa aaB
  have als:=aa aaA
  have alu:=aa aaD
  have alv:=aa aaC
  have alw:=aa tA
  have Jr:=aa hR1
  have HG:=aa hg
  clear aaA aaB aaC tA aaD hR1 hRW hg ai1
  by_cases hlt:s<cs.length
  ·have qW:Below wr.heap.size wr (wr.alloc (.cells #[.int .i64 s] 3)):=(cM _ _).alloc (ah _) _
   have h5C:=cell_later qW afN
   have h5S:=cell_later qW afO
   have h5P:=cell_later qW afP
   have h5N:=cell_later qW afQ
   have h5O:=cell_later qW afR
   have h5R:=cell_later qW Mb
   have Mc:(wr.alloc (.cells #[.int .i64 s] 3)).cell? ⟨wr.heap.size,0,none⟩=some (.int .i64 s):=by simp
   have VB:=Jq.out.alloc (.cells #[.int .i64 s] 3)
   have hsB:w.heap.size+2<=wr.heap.size/\(wr.alloc (.cells #[.int .i64 s] 3)).heap.size=wr.heap.size+1:=⟨by have:=HG.out.size;have:=sA.out;omega,by simp⟩
   have C6:=aa VB
   have fo:=aa hsB
   have Xx:=VB.row.frozen s
   have Xy:=VB.row.cell hlt
   simp only [Nat.lt_irrefl,if_false] at Xy
   clear qW VB hsB Jq HG
   gi_wp2_with fail
   clear afN afO afP afQ afR Mb
   generalize hw5:(wr.alloc (.cells #[.int .i64 s] 3))=w5 at *
   clear hw5
   generalize uS:wr.heap.size=sB at *
   clear uS
   by_cases jt:0<=kl
   obtain ⟨kn,rfl⟩:=oa jt
   obtain ⟨b,off,rfl,qx⟩:=ai2.out kn (by omega)
   have alx:w5.cell? ⟨b,off+kn,none⟩=some (.int .i64 (gi st kn)):=C6.out.grown.cell (mO.out.cell (p:=⟨b,off+kn,none⟩) (dL _ _ qx) |>.trans qx) (by have:=dL _ _ qx;simp at this ⊢;omega)
   rw [if_pos jt,fc] at HOW
   have i1:(0:Int)<=(kn:Int):=by omega
   have i2:(kn:Int)<(st.length:Int):=by omega
   clear qx
   generalize hx:gi st kn=x at *
   clear hx
   by_cases hx0:0<=x
   by_cases hxs:x=s
   focus
    have hx1:(x != (s:Int))=false:=by simp [hxs]
    have HX:=aa hxs
    clear hxs
    gi_wp2_with fail
    gi_quiet (fail)
    gi_wp2_with fail
    have H6:Hid (jf w1 (w5.drewN nq) w.heap.size cs.length (fun j=>if j<s then gi (bZ t st cs i) j else if j=s then jO t st i s else 0) ds):=(C6.out.drewN nq).congr fun j _=>by
     rw [show jO t st i s=0 from by unfold jO;rw [HOW.out,if_neg (fun h=>h.2 HX.out)]]
     by_cases e1:j<s<;>by_cases e2:j=s<;>simp [e1,e2]
    have h6s:(w5.drewN nq).cell? ⟨sB,0,none⟩=some (.int .i64 s):=Mc
    have h6z:Hid ((w5.drewN nq).heap.size=sB+1):=fo.out.2
    clear h5C h5S h5P h5N h5O h5R Mc Xx Xy C6
    generalize w5.drewN nq=w6 at *

   rotate_left
   focus
    have hx1:(x != (s:Int))=true:=by simpa using hxs
    have HX:=aa hxs
    clear hxs
    gi_wp2_with fail
    gi_quiet (fail)
    gi_wp2_with fail
    have h6f:(w5.drewN nq).frozen? ⟨w.heap.size,s,none⟩=false:=Xx
    have H6:Hid (jf w1 ((w5.drewN nq).setCell ⟨w.heap.size,s,none⟩ (.int .i64 (-1))) w.heap.size cs.length (fun j=>if j<s then gi (bZ t st cs i) j else if j=s then jO t st i s else 0) ds):=((C6.out.drewN nq).set (by have:=sA.out;omega) s (-1)).congr fun j _=>by
     rw [show jO t st i s = -1 from by unfold jO;rw [HOW.out,if_pos ⟨hx0,HX.out⟩]]
     by_cases e1:j=s
     ·subst e1;simp
     ·simp [e1]
    have h6s:((w5.drewN nq).setCell ⟨w.heap.size,s,none⟩ (.int .i64 (-1))).cell? ⟨sB,0,none⟩=some (.int .i64 s):=by
     rw [World.cell?_setCell_other _ _ _ _ (by intro e;injection e with e;have:=fo.out;omega)];exact Mc
    have h6z:Hid (((w5.drewN nq).setCell ⟨w.heap.size,s,none⟩ (.int .i64 (-1))).heap.size=sB+1):=by unfold Hid;rw [nh];exact fo.out.2
    clear h5C h5S h5P h5N h5O h5R Mc Xx Xy C6 h6f
    generalize (w5.drewN nq).setCell ⟨w.heap.size,s,none⟩ (.int .i64 (-1))=w6 at *

   rotate_left
   focus
    have hx1:decide (0<=x)=false:=by simpa using hx0
    gi_wp2_with fail
    gi_quiet (fail)
    gi_wp2_with fail
    have H6:Hid (jf w1 (w5.drewN nq) w.heap.size cs.length (fun j=>if j<s then gi (bZ t st cs i) j else if j=s then jO t st i s else 0) ds):=(C6.out.drewN nq).congr fun j _=>by
     rw [show jO t st i s=0 from by unfold jO;rw [HOW.out,if_neg (fun h=>by omega)]]
     by_cases e1:j<s<;>by_cases e2:j=s<;>simp [e1,e2]
    have h6s:(w5.drewN nq).cell? ⟨sB,0,none⟩=some (.int .i64 s):=Mc
    have h6z:Hid ((w5.drewN nq).heap.size=sB+1):=fo.out.2
    clear h5C h5S h5P h5N h5O h5R Mc Xx Xy C6
    generalize w5.drewN nq=w6 at *

   rotate_left
   focus
    rw [if_neg jt] at HOW
    have hx1:decide (0<=kl)=false:=by simpa using jt
    gi_wp2_with fail
    gi_quiet (fail)
    gi_wp2_with fail
    have H6:Hid (jf w1 (w5.drewN nq) w.heap.size cs.length (fun j=>if j<s then gi (bZ t st cs i) j else if j=s then jO t st i s else 0) ds):=(C6.out.drewN nq).congr fun j _=>by
     rw [show jO t st i s=0 from by unfold jO;rw [HOW.out,if_neg (fun h=>by omega)]]
     by_cases e1:j<s<;>by_cases e2:j=s<;>simp [e1,e2]
    have h6s:(w5.drewN nq).cell? ⟨sB,0,none⟩=some (.int .i64 s):=Mc
    have h6z:Hid ((w5.drewN nq).heap.size=sB+1):=fo.out.2
    clear h5C h5S h5P h5N h5O h5R Mc Xx Xy C6
    generalize w5.drewN nq=w6 at *

   rotate_left
   all_goals
    refine ⟨trivial,(callsIn_wide.2 (afI w6 _ P N rfl i)).mono ?_⟩
    rintro e w7 ⟨rfl,rfl⟩
    gi_wp2_with fail
    have Xz:Below w6.heap.size w6 ((w6.alloc (.cells #[P,N] 39)).alloc (.cells #[.int .i64 i] 3)):=((cM _ _).alloc (ah _) _).alloc (by simp) _
    have h7s:=cell_later Xz h6s
    have h7n:((w6.alloc (.cells #[P,N] 39)).alloc (.cells #[.int .i64 i] 3)).cell? ⟨w6.heap.size+1,0,none⟩=some (.int .i64 i):=by simp
    have h7p:((w6.alloc (.cells #[P,N] 39)).alloc (.cells #[.int .i64 i] 3)).cell? ⟨w6.heap.size,0,none⟩=some P:=by simp
    have h7z:((w6.alloc (.cells #[P,N] 39)).alloc (.cells #[.int .i64 i] 3)).heap.size=w6.heap.size+2:=by simp
    have aaE:=(H6.out.alloc (.cells #[P,N] 39)).alloc (.cells #[.int .i64 i] 3)
    have h6e:w6.heap.size=sB+1:=h6z.out
    generalize ((w6.alloc (.cells #[P,N] 39)).alloc (.cells #[.int .i64 i] 3))=w7 at *
    generalize w6.heap.size=z6 at *
    have hz1:=sA.out
    have aly:=fo.out.1
    have hold:∀W,w7.grownBy W (some w.heap.size)->∀b,b<w.heap.size->W.heap[b]? = w.heap[b]?:=fun W hg b hb =>
     ((hg.block b (by omega) (by simp;omega)).trans (aaE.grown.block b (by omega) (by simp;omega))).trans (mO.out.block b hb)
    have XA:w7.grownBy w7 (some w.heap.size):=⟨rfl,rfl,rfl,ah _,fun _ _ _=>rfl⟩
    have XB:af (fun b=>b≠w.heap.size/\b<w7.heap.size) w7 P t.ps:=((O4.out.sub (T:=fun b=>b<w.heap.size) fun b _ hb=>hb).keep fun b hb _=>hold w7 XA b hb).sub fun b hb _=>⟨by omega,by omega⟩
    have Hr:∀c,c<t.ps.length -> -1<=sw t st cs s c/\sw t st cs s c<=101000:=fun c hc=>OD (A:=100000) (by omega) (fun k=>sO.out s k) (fun k=>(EC.out c k hc).2) _
    have afS:=aa Hr
    have HOLD:=aa hold
    have O5:=aa aaE
    have H7S:=aa h7s
    have HZ7:=aa h7z
    have HZ1:=aa hz1
    have ai3:w.heap.size<w7.heap.size:=by omega
    apply wpIn_rangeFunc_ownF (F:=Fence.wide) (n:=9) (P:=Tryz.prog) (ps:=#[47]) (w:=w7) rfl (by omega) (gf:=268) (lb:=#[.pointer (some ⟨z6+1,0,none⟩),.pointer (some ⟨z6,0,none⟩)]) rfl trivial (enters_of Tryz.func268 (by kernel_rfl) rfl)
     (Vw 8 (by omega) (z6+1) z6 (fun b=>b≠w.heap.size/\b<w7.heap.size) t.ps i P w7 (fun b hb=>hb.2) h7n h7p XB ⟨by omega,by omega⟩ ⟨by omega,by omega⟩ hi (by omega))
     (fun h k=>KS.trans h k) (fun W l o o' hl _ _ _=>fun b (hb:b≠w.heap.size/\b<w7.heap.size)=>l9 (by have:=hb.2;omega)) (cM _ _) (fun _=>(rfl:(1:Nat)=1))
     (fun pre W=>W.rowIs w.heap.size 3 cs.length (fun j=>.int .i64 (if j<s then gi (bZ t st cs i) j else if j=s then jO t st i s+((vals pre).map (sw t st cs s)).sum else 0))/\w7.grownBy W (some w.heap.size))
     (fun _ _ _=>False) (aee ai3) (fun _ _ _ _ _ h _ _=>h)
     ⟨aaE.row.congr fun j _=>by simp [vals],XA⟩
    ·intro l x W K hK
     gi_wp2
     exact hK
    ·rintro l pre x W ⟨hrow,Md⟩ hlen
     have hkeep:=HOLD.out W Md
     have bC:W.cell? ⟨pC,0,none⟩=some (.slice qC cs.length pg):=(cU (hkeep pC lC)).trans hcC
     have bO:W.cell? ⟨pO,0,none⟩=some (.slice (some ⟨ob,0,none⟩) t.ps.length t.ps.length):=(cU (hkeep pO lO)).trans HW.out.cO
     have bs:W.cell? ⟨sB,0,none⟩=some (.int .i64 s):=Md.cell H7S.out (by simp;omega)
     have bR:W.cell? ⟨w.heap.size+1,0,none⟩=some (.slice (some ⟨w.heap.size,0,none⟩) cs.length cs.length):=Md.cell (O5.out.grown.cell Jr.out (by simp)) (by simp)
     obtain ⟨hx1,hx2,_⟩:=cK.1 x.2
     have bV:W.cell? ⟨ob,x.1,none⟩=some (V x.1):=(cU (hkeep ob HW.out.row.lt)).trans (HW.out.row.cell hx1)
     have hVx:=HW.out.rows x.1 hx2 hx1
     have hVW:af (fun b=>b<w.heap.size) W (V x.1) (bZ t st cs x.1):=(hVx.sub (T:=fun b=>b<w.heap.size) fun b _ hb=>hb).keep fun b hb _=>hkeep b hb
     have hCW:aT (fun b=>b<w.heap.size) W (.slice qC cs.length pg) cs:=(HCI.out.sub (T:=fun b=>b<w.heap.size) fun b _ hb=>hb).keep fun b hb _=>hkeep b hb
     have Js:=fun k=>afJ _ _ (W.drewN k) _ _ cs (bZ t st cs x.1) s (hCW.keep (Jo _ _ _)) (hVW.keep (Jo _ _ _)) hlt (by rw [lD,pV.out s hlt];exact ah _) (by rw [lD];omega) (sO.out s) (fun k=>by have:=(EC.out x.1 k hx1).2;omega)
     obtain ⟨qv,cv,ev,_,_⟩:=aq.open hVx
     rw [ev] at bV Js
     unfold EB at Js
     have ha:=afS.out x.1 hx1
     have hak:(dg (gi (gl cs s)) (gi (bZ t st cs x.1)) (bZ t st cs x.1).length).1=sw t st cs s x.1:=rfl
     rw [hak] at Js
     have hrs:=hrow.cell hlt
     have hrf:=hrow.frozen s
     simp only [Nat.lt_irrefl,if_false,if_true] at hrs
     have yJ:jO t st i s=0\/jO t st i s = -1:=by unfold jO;split<;>simp
     have hsm:-64<=((vals pre).map (sw t st cs s)).sum/\((vals pre).map (sw t st cs s)).sum<=101000*64:=by
      have h0:=aaz (A:=101000) (B:=64) (f:=sw t st cs s) (by omega) (by omega) pre (fun c=>afS.out c.1 (cK.1 c.2).1) (by omega)
      constructor<;>omega
     have ain:=aa Js
     have ED:=aa hrow
     have HG7:=aa Md
     have ai4:-1<=jO t st i s/\jO t st i s<=0:=by omega
     have i1:(0:Int)<=(x.1:Int):=by omega
     have i2:(x.1:Int)<(t.ps.length:Int):=by omega
     obtain ⟨ha1,ha2⟩:=ha
     obtain ⟨alz,alA⟩:=hsm
     obtain ⟨hb1,hb2⟩:=ai4
     have HPX:Hid (((vals (pre++[x])).map (sw t st cs s)).sum=((vals pre).map (sw t st cs s)).sum+sw t st cs s x.1):=by unfold Hid;rw [Ez];simp
     clear Js hrow Md hkeep hVW hCW hVx hak yJ HW EC sO pV HOLD O5 H7S XB
     generalize ((vals pre).map (sw t st cs s)).sum=sm at *
     generalize sw t st cs s x.1=ad at *
     generalize jO t st i s=bt at *
     generalize (dg (gi (gl cs s)) (gi (bZ t st cs x.1)) (bZ t st cs x.1).length).2=ow at *
     gi_wp2
     have alC:Fence.wide.fn 232:=trivial
     have akZ:(Fence.wide.inRound l).fn 232:=trivial
     refine KW (l₀:=l) rfl (by kernel_rfl) (by kernel_rfl) (by kernel_rfl) ?_
     repeat (gi_big_quiet_step (fail))
     gi_big_quiet_want
     gi_big_quiet_op
     refine ⟨_,fun k=>CallsIn.inRound l (callsIn_wide.2 (VA (ain.out k))),?_⟩
     go_big_quiet_on
     repeat (gi_big_quiet_step (fail))
     refine wpQuietIn_nil ?_
     intro _ hw'
     obtain ⟨nq,hw''⟩:=hw'
     subst hw''
     gi_wp2
     refine ⟨?_,?_,?_,?_⟩
     ·exact ⟨(KeepsOthers.setCell (W.drewN nq) _ _).size,(KeepsOthers.setCell (W.drewN nq) _ _).same⟩
     ·exact fun b hb=>KT (W.drewN nq) _ _ b hb.1
     ·exact ((show (W.drewN nq).rowIs w.heap.size 3 cs.length _ from ED.out).set s _).congr fun j _=>by
       by_cases e:j=s
       ·subst e;simp [HPX.out];omega
       ·simp [e]
     ·exact O2 HG7.out ⟨rfl,rfl,rfl,by rw [nh];exact ah _,fun k _ hne=>KT (W.drewN nq) _ _ k (fun e=>hne (by rw [e]))⟩
    ·rintro D xs W hD hS ⟨hrow,Md⟩ hK
     have hT:jO t st i s+((vals xs).map (sw t st cs s)).sum=gi (bZ t st cs i) s:=by rw [hS,oK _ _ _ _ hlt,ad8 _ _ _ hi]
     have hRN:=(O5.out.later Md hrow (by omega)).congr (g:=fun j=>if j<s+1 then gi (bZ t st cs i) j else 0) (fun j _=>by
      by_cases e1:j<s
      ·simp [e1,Nat.lt_succ_of_lt e1]
      ·by_cases e2:j=s
       ·subst e2;simp [hT]
       ·have e3:¬j<s+1:=by omega
        simp [e1,e2,e3])
     have hMK:Marks w1.heap.size W ({ target:=.collected D,args:=#[] }::ds):=⟨⟨D,rfl,by have:=O5.out.grown.size;omega,hK,fun d' hd' e=>by
      obtain ⟨r,hr,hr2⟩:=O5.out.marks.lt d' hd'
      rw [hr] at e;injection e with e;omega⟩,hRN.marks⟩
     have XC:=aa hRN
     have HMK:=aa hMK
     clear hT hRN hMK hrow Md hK XB
     gi_wp2_with fail
     refine ⟨⟨s+1,_,_,_,_,_,_,_,_,_,_,_,_,_,_,_,_,_,_,_,_,_,_,_,_,_,_,_,_,_,_,_,_,_,_,_,_,_,_,_,_,_,_,_,_,_,_,_,_,_,_,_,_,_,_,_,_,_,_,_,_,_,by omega,rfl,⟨XC.out.grown,XC.out.row,HMK.out⟩⟩,?_⟩
     simp [intOf];omega
    ·rintro D c pre W _ _ h _
     exact h.elim
  ·obtain rfl:s=cs.length:=by omega
   clear hlt
   have Jt:=HW.out.row.lt
   have hkeep:∀b,b<w.heap.size->wr.heap[b]? = w.heap[b]?:=fun b hb=>(HG.out.block b (by have:=sA.out;omega) (by simp;omega)).trans (mO.out.block b hb)
   have hro:=HW.out.row.of_block (hkeep ob Jt)
   have hx1:=hro.cell hi
   have hx2:=hro.frozen i
   have hle1:w.heap.size+2<=w1.heap.size:=by have:=sA.out;omega
   have HKP:=aa hkeep
   have HRO:=aa hro
   clear hkeep hro
   have afT:=Jq
   gi_wp2_with fail
   refine EA (v:=.tuple #[]) (n₀:=w1.heap.size) (fun _=>results_none rfl _ _ _) (afT.out.marks.keep fun r _ hr2=>KT _ _ _ r (by simp only;omega)) fun w' hb hs' hc=>⟨rfl,?_,.slice (some ⟨w.heap.size,0,none⟩) cs.length cs.length,?_,?_⟩
   ·refine ⟨hb.os.trans (HG.out.os.trans mO.out.os),hb.tape.trans (HG.out.tape.trans mO.out.tape),hb.output.trans (HG.out.output.trans mO.out.output),?_,fun k hk hne=>?_⟩
    ·have h1:=hb.size;rw [nh] at h1;have h2:=HG.out.size;omega
    ·exact ((hb.block k (by omega)).trans (KT _ _ _ k (fun e=>hne (by rw [e])))).trans (HKP.out k hk)
   ·exact ((HRO.out.set i _).of_block (hb.block ob (by omega)))
   ·have hrow2:=(afT.out.row.setOther (a:=⟨ob,i,none⟩) (by simp only;omega) (.slice (some ⟨w.heap.size,0,none⟩) cs.length cs.length)).of_block (hb.block w.heap.size (by omega))
    refine ⟨some ⟨w.heap.size,0,none⟩,cs.length,by rw [lD],by rw [lD];exact ah _,.inr ⟨w.heap.size,0,rfl,by omega,fun k hk=>?_⟩⟩
    rw [lD] at hk
    have h1:=hrow2.cell hk
    simp only [hk,if_true] at h1
    rw [je];exact h1
end
section
open Go.RowKit Go.Deep
theorem Tryz.O6:(Tryz.prog.info? 26).map (fun i=>(i.zero,i.size,i.bytes))=some (some (.slice none 0 0),1,24):=by kernel_rfl
theorem aS (W:World) (cs:Array Value) (t:TypeId) (k:Nat):(W.alloc (.cells cs t)).cell? ⟨W.heap.size,k,none⟩=cs[k]?:=by
 unfold World.cell?;rw [ng];rfl
theorem qy (W:World) (v:Value) (t:TypeId):(W.alloc (.cells #[v] t)).cell? ⟨W.heap.size,0,none⟩=some v:=aS W _ t 0
theorem F6.step {w w':World} {t:ax} {st:List Int} {cs:List (List Int)} {pC pL pS pT pO ob:Nat} {V:Nat->Value} {j:Nat} {v:Value} (h:F6 w t st cs pC pL pS pT pO ob V (j+1))
  (hg:w.grownBy w' (some ob)) (hr:w'.rowIs ob 26 t.ps.length (fun x=>if x=j then v else V x)) (hv:af (· ≠ ob) w' v (bZ t st cs j)):F6 w' t st cs pC pL pS pT pO ob (fun x=>if x=j then v else V x) j:=by
 have hk:Kept (· ≠ ob) w w':=fun b hb hl=>hg.block b hl (by simp;exact hb);have hc:∀ {p o:Nat} {x:Value},p≠ob->w.cell? ⟨p,o,none⟩=some x->w'.cell? ⟨p,o,none⟩=some x:=fun hp hx=>hg.cell hx (by simp;exact hp);obtain ⟨n1,n2,n3,n4,n5⟩:=h.ne;obtain ⟨C,a1,a2⟩:=h.cC;obtain ⟨L,b1,b2⟩:=h.cL;obtain ⟨Q,c1,c2⟩:=h.cS;obtain ⟨P,N,d1,d2,d3⟩:=h.cT;refine ⟨⟨C,hc n1 a1,a2.keep hk⟩,⟨L,hc n2 b1,b2.keep hk⟩,⟨Q,hc n3 c1,c2.keep hk⟩,⟨P,N,hc n4 d1,hc n4 d2,d3.keep hk⟩,hc n5 h.cO,hr,fun x h1 h2=>?_,h.ne⟩;by_cases e:x=j
 ·subst e;simp only [if_true];exact hv
 ·simp only [e,if_false];exact (h.rows x (by omega) h2).keep hk
def uj (t:ax) (st:List Int) (cs:List (List Int)):List (List Int):=(List.range t.ps.length).map (bZ t st cs)
def Ju (w:World) (l:List (List Int)) (e:Ending) (w':World):Prop:=Below w.heap.size w w'/\∃v,e=.returned v/\aT Any w' v l
theorem aef (S:Nat->Prop) (w:World) (v vs vc:Value) (t:ax) (st:List Int) (cs:List (List Int)) (hT:aG S w v t) (hS:af S w vs st) (hC:aT S w vc cs)
  (he:aA t=0) (EE:t.ns.length<=64) (hz:∀k,(gs t.ns k).size<=70000)
  (hn:t.ps.length<=64) (hm:cs.length<=16) (hm0:0<cs.length) (uQ:(ay t.ns).length<=st.length) (hrl:∀a,a<cs.length->(gl cs a).length=cs.length) (hcb:∀a k,0<=gi (gl cs a) k/\gi (gl cs a) k<=1000)
  (htb:∀j s,j<t.ps.length -> -1<=gi (bZ t st cs j) s/\gi (bZ t st cs j) s<=100000) (oL:(ay t.ns).length<=64) :
  Calls Tryz.prog 170 #[v,vs,vc] w (Ju w (uj t st cs)):=by
 obtain ⟨P,N,rfl,hP,hN⟩:=hT;obtain ⟨p,cap,rfl,hcap,Me⟩:=aq.open hP;obtain ⟨qS,qi,rfl,_,_⟩:=aq.open hS;obtain ⟨fC,Hs,Jp⟩:=hC;obtain ⟨qC,pg,rfl,_,_⟩:=aq.open Hs;have hC:aT S w (.slice qC cs.length pg) cs:=⟨fC,Hs,Jp⟩;clear Hs Jp;have hmk:=fun W=>run_make_row' (P:=Tryz.prog) 23 26 (.slice none 0 0) 24 Tryz.underlying23 Tryz.O6 rfl .i64 .i64 t.ps.length (by omega) (by omega) W;have qW:Below w.heap.size w (((((w.alloc (.cells #[.slice p t.ps.length cap,N] 39)).alloc (.cells #[.slice qS st.length qi] 26)).alloc (.cells #[.slice qC cs.length pg] 23)).alloc (.cells (madeCells #[.slice none 0 0] t.ps.length) 26)).alloc (.cells #[.slice (some ⟨w.heap.size+1+1+1,0,none⟩) t.ps.length t.ps.length] 23)):=(((((cM _ w).alloc (ah _) _).alloc (by simp) _).alloc (by simp;omega) _).alloc (by simp;omega) _).alloc (by simp;omega) _;have Mf:aG S (((((w.alloc (.cells #[.slice p t.ps.length cap,N] 39)).alloc (.cells #[.slice qS st.length qi] 26)).alloc (.cells #[.slice qC cs.length pg] 23)).alloc (.cells (madeCells #[.slice none 0 0] t.ps.length) 26)).alloc (.cells #[.slice (some ⟨w.heap.size+1+1+1,0,none⟩) t.ps.length t.ps.length] 23)) (.agg #[.slice p t.ps.length cap,N]) t:=aG.keep ⟨_,_,rfl,hP,hN⟩ (Kept.below qW);have O7:Below (((w.alloc (.cells #[.slice p t.ps.length cap,N] 39)).alloc (.cells #[.slice qS st.length qi] 26)).alloc (.cells #[.slice qC cs.length pg] 23)).heap.size (((w.alloc (.cells #[.slice p t.ps.length cap,N] 39)).alloc (.cells #[.slice qS st.length qi] 26)).alloc (.cells #[.slice qC cs.length pg] 23)) (((((w.alloc (.cells #[.slice p t.ps.length cap,N] 39)).alloc (.cells #[.slice qS st.length qi] 26)).alloc (.cells #[.slice qC cs.length pg] 23)).alloc (.cells (madeCells #[.slice none 0 0] t.ps.length) 26)).alloc (.cells #[.slice (some ⟨w.heap.size+1+1+1,0,none⟩) t.ps.length t.ps.length] 23)):=((cM _ _).alloc (ah _) _).alloc (by simp) _;have aaF:Below (w.alloc (.cells #[.slice p t.ps.length cap,N] 39)).heap.size (w.alloc (.cells #[.slice p t.ps.length cap,N] 39)) (((w.alloc (.cells #[.slice p t.ps.length cap,N] 39)).alloc (.cells #[.slice qS st.length qi] 26)).alloc (.cells #[.slice qC cs.length pg] 23)):=((cM _ _).alloc (ah _) _).alloc (by simp) _;have afU:Below ((w.alloc (.cells #[.slice p t.ps.length cap,N] 39)).alloc (.cells #[.slice qS st.length qi] 26)).heap.size ((w.alloc (.cells #[.slice p t.ps.length cap,N] 39)).alloc (.cells #[.slice qS st.length qi] 26)) (((w.alloc (.cells #[.slice p t.ps.length cap,N] 39)).alloc (.cells #[.slice qS st.length qi] 26)).alloc (.cells #[.slice qC cs.length pg] 23)):=(cM _ _).alloc (ah _) _;have c0:=cell_later O7 (cell_later aaF (aS w #[.slice p t.ps.length cap,N] 39 0));have c1:=cell_later O7 (cell_later aaF (aS w #[.slice p t.ps.length cap,N] 39 1))
 have c2:=cell_later O7 (cell_later afU (qy (w.alloc (.cells #[.slice p t.ps.length cap,N] 39)) (.slice qS st.length qi) 26));have c3:=cell_later O7 (qy ((w.alloc (.cells #[.slice p t.ps.length cap,N] 39)).alloc (.cells #[.slice qS st.length qi] 26)) (.slice qC cs.length pg) 23);simp only [aQ] at c2 c3;have c4:(((((w.alloc (.cells #[.slice p t.ps.length cap,N] 39)).alloc (.cells #[.slice qS st.length qi] 26)).alloc (.cells #[.slice qC cs.length pg] 23)).alloc (.cells (madeCells #[.slice none 0 0] t.ps.length) 26)).alloc (.cells #[.slice (some ⟨w.heap.size+1+1+1,0,none⟩) t.ps.length t.ps.length] 23)).rowIs (w.heap.size+1+1+1) 26 t.ps.length (fun _=>.slice none 0 0):=by have h:=World.rowIs_made (((w.alloc (.cells #[.slice p t.ps.length cap,N] 39)).alloc (.cells #[.slice qS st.length qi] 26)).alloc (.cells #[.slice qC cs.length pg] 23)) (.slice none 0 0) t.ps.length 26;simp only [aQ] at h;exact h.alloc _
 have c5:(((((w.alloc (.cells #[.slice p t.ps.length cap,N] 39)).alloc (.cells #[.slice qS st.length qi] 26)).alloc (.cells #[.slice qC cs.length pg] 23)).alloc (.cells (madeCells #[.slice none 0 0] t.ps.length) 26)).alloc (.cells #[.slice (some ⟨w.heap.size+1+1+1,0,none⟩) t.ps.length t.ps.length] 23)).cell? ⟨w.heap.size+1+1+1+1,0,none⟩=some (.slice (some ⟨w.heap.size+1+1+1,0,none⟩) t.ps.length t.ps.length):=by have h:=(qy ((((w.alloc (.cells #[.slice p t.ps.length cap,N] 39)).alloc (.cells #[.slice qS st.length qi] 26)).alloc (.cells #[.slice qC cs.length pg] 23)).alloc (.cells (madeCells #[.slice none 0 0] t.ps.length) 26)) (.slice (some ⟨w.heap.size+1+1+1,0,none⟩) t.ps.length t.ps.length) 23);simpa only [aQ] using h
 have z5:(((((w.alloc (.cells #[.slice p t.ps.length cap,N] 39)).alloc (.cells #[.slice qS st.length qi] 26)).alloc (.cells #[.slice qC cs.length pg] 23)).alloc (.cells (madeCells #[.slice none 0 0] t.ps.length) 26)).alloc (.cells #[.slice (some ⟨w.heap.size+1+1+1,0,none⟩) t.ps.length t.ps.length] 23)).heap.size=w.heap.size+5:=by simp
 have hL:=CY S _ _ t Mf (by omega) (by omega) hz;have HL:=aa hL;have O8:=aa qW;have C0:=aa c0;have C1:=aa c1;have C2:=aa c2;have C3:=aa c3;have C4:=aa c4;have C5:=aa c5;have Z5:=aa z5;have HC:=aa hC;have HS:=aa hS;have HP:=aa hP;clear Me O7 aaF afU qW Mf c0 c1 c2 c3 c4 c5 z5 hL hC hS hP hN hz;go_in;go_wp2_with fail;generalize (((((w.alloc (.cells #[.slice p t.ps.length cap,N] 39)).alloc (.cells #[.slice qS st.length qi] 26)).alloc (.cells #[.slice qC cs.length pg] 23)).alloc (.cells (madeCells #[.slice none 0 0] t.ps.length) 26)).alloc (.cells #[.slice (some ⟨w.heap.size+1+1+1,0,none⟩) t.ps.length t.ps.length] 23))=w5 at *;clear hmk;refine HL.out.mono ?_;rintro e w6 ⟨hb6,⟨h1,_⟩ | ⟨_,lv,rfl,hlv⟩⟩
 ·exact absurd he h1
 obtain ⟨lp,lc,rfl,_,_⟩:=aq.open hlv;have Xz:Below w6.heap.size w6 (w6.alloc (.cells #[.slice lp (ay t.ns).length lc] 26)):=(cM _ _).alloc (ah _) _;have yK:Below w5.heap.size w5 (w6.alloc (.cells #[.slice lp (ay t.ns).length lc] 26)):=hb6.trans (Xz.mono hb6.size);have d5:=cell_later yK C5.out;have d6:=qy w6 (.slice lp (ay t.ns).length lc) 26;have afV:Below w.heap.size w (w6.alloc (.cells #[.slice lp (ay t.ns).length lc] 26)):=O8.out.trans (yK.mono O8.out.size);have z6:w.heap.size+5<=w6.heap.size:=by have:=Z5.out;have:=hb6.size;omega
 have hF:F6 (w6.alloc (.cells #[.slice lp (ay t.ns).length lc] 26)) t st cs (w.heap.size+1+1) w6.heap.size (w.heap.size+1) w.heap.size (w.heap.size+1+1+1+1) (w.heap.size+1+1+1) (fun _=>.slice none 0 0) t.ps.length :=
  ⟨⟨_,cell_later yK C3.out,(((HC.out.sub (T:=fun b=>b<w.heap.size) fun b _ hb=>hb).keep (Kept.below O8.out)).keep (Kept.below yK)).sub fun b hb _=>by omega⟩,
   ⟨_,d6,(hlv.keep (Kept.below Xz)).sub fun b hb _=>by have:=Z5.out;omega⟩,
   ⟨_,cell_later yK C2.out,(((HS.out.sub (T:=fun b=>b<w.heap.size) fun b _ hb=>hb).keep (Kept.below O8.out)).keep (Kept.below yK)).sub fun b hb _=>by omega⟩,⟨_,_,cell_later yK C0.out,cell_later yK C1.out,(((HP.out.sub (T:=fun b=>b<w.heap.size) fun b _ hb=>hb).keep (Kept.below O8.out)).keep (Kept.below yK)).sub fun b hb _=>by omega⟩,d5,C4.out.of_block (yK.block _ (by have:=Z5.out;omega)),fun j h1 h2=>by omega,by omega,by omega,by omega,by omega,by omega⟩
 have HF:=aa hF;have HBW:=aa afV;clear hb6 hlv Xz yK d6 afV hF;have EC:=aa htb;have sO:=aa hcb;have pV:=aa hrl;clear htb hcb hrl HL C0 C1 C2 C3 C4 C5 HC HS HP;go_wp2_with fail;generalize (w6.alloc (.cells #[.slice lp (ay t.ns).length lc] 26))=w7 at *;generalize w6.heap.size=pL at *
 go_loopw [11] (fun i wr=>∃(k:Nat) (V:Nat->Value),k<=t.ps.length/\i=.int .i64 ((k:Int) - 1)/\Hid (F6 wr t st cs (w.heap.size+1+1) pL (w.heap.size+1) w.heap.size (w.heap.size+1+1+1+1) (w.heap.size+1+1+1) V k)/\Hid (Below w.heap.size w wr)) (fun i _=>(intOf i+1).toNat)
 case atStart=>exact ⟨t.ps.length,_,ah _,by go_num,HF,HBW⟩
 case round =>
  obtain ⟨k,V,hk,rfl,hF,hB⟩:=hrel;rcases BZ k with rfl | nj
  ·have hcO:=hF.out.cO
   go_wp2;go_ret;refine ⟨hB.out,_,rfl,V,?_,?_⟩
   ·refine ⟨some ⟨w.heap.size+1+1+1,0,none⟩,t.ps.length,by rw [show (uj t st cs).length=t.ps.length by simp [uj]];rfl,by simp [uj],.inr ⟨_,0,rfl,trivial,fun k hk=>?_⟩⟩
    rw [je];exact hF.out.row.cell (by simpa [uj] using hk)
   ·intro k hk
    (have hk2:k<t.ps.length:=by simpa [uj] using hk);(have he:gl (uj t st cs) k=bZ t st cs k:=by simp [gl,uj,hk2]);rw [he];exact (hF.out.rows k (aF _) hk2).sub fun _ _ _=>trivial
  ·obtain ⟨j,rfl⟩:∃j,k=j+1:=⟨k - 1,by omega⟩
   go_wp2_with fail;refine (afM wr t st cs _ _ _ _ _ _ V j (by omega) hF.out hn hm hm0 uQ pV.out sO.out EC.out oL).mono ?_;rintro e w8 ⟨rfl,hg,v,hr,hv⟩;have hF2:=aa (hF.out.step hg hr hv);have hB2:=aa (hB.out.grown hg hB.out.size fun k e=>by cases e<;>omega);clear hg hr hv;go_wp2
   go_roundw
   case rel=>exact ⟨j,_,by omega,by go_num,hF2,hB2⟩
   case measure=>simp [intOf]
end
end Go.Proofs.YthgabkgmkolobaaGreat
