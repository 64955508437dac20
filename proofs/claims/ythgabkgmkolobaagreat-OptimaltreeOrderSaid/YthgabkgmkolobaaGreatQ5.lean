/- The contract of the closure that fills a row of the table. -/
import Derived.Test.YthgabkgmkolobaaGreatQ4
set_option maxRecDepth 100000
set_option maxHeartbeats 2000000
namespace Go.Proofs.YthgabkgmkolobaaGreat
open Go.RowKit Go.Shelf Go.Deep
attribute [local go_sem] Oper.semAt_some
theorem Jw (S:Nat->Prop) (w:World) (v:Value) (xs:List Int) (x:Int) (h:ay S w v xs) (hn:xs.length<=1000000) :
  Calls Tryz.prog 62 #[v,.int .i64 x] w fun e w'=>e=.returned (.int .i64 (cF (fun j=>decide (x=gi xs j)) xs.length))/\w=w':=by
 obtain ⟨p,cap,rfl,hcap,H⟩:=aA.open h;clear h
 go_enter Tryz.func62,Tryz.ntmps62
 go_wp2_with fail
 go_loop [5,8] (fun _ i=>∃k:Nat,k<=xs.length/\i=.int .i64 k/\Hid (∀j,j<k->decide (x=gi xs j)=false)) (fun _ i=>xs.length - (intOf i).toNat)
 case atStart=>exact ⟨0,aI _,rfl,fun j hj=>absurd hj (bS _)⟩
 case round =>
  obtain ⟨k,hk,rfl,hd⟩:=hrel;by_cases hlt:k<xs.length
  ·obtain ⟨b,off,rfl,hc⟩:=H k hlt
   clear H;generalize hy:gi xs k=y at *;have HY:=aa hy;clear hy;by_cases hxy:x=y
   ·have hx1:(x==y)=true:=by simp [hxy]
    have Vb:=aa hxy;clear hxy;go_wp2_with fail;go_ret;exact ⟨aN (mq (p:=fun j=>decide (x=gi xs j)) hlt hd.out (by rw [HY.out];simpa using Vb.out)).symm,rfl⟩
   ·have hx1:(x==y)=false:=by simpa using hxy
    have Vb:=aa hxy;clear hxy;go_wp2_with fail
    go_round
    case rel=>exact ⟨k+1,by omega,by go_num,fun j hj=>if e:j=k then by subst e;rw [HY.out];simpa using Vb.out else hd.out j (by omega)⟩
    case measure=>simp [intOf];omega
  ·clear H
   go_wp2_with fail;go_ret;exact ⟨aN (jX fun j hj=>hd.out j (by omega)).symm,rfl⟩
structure zI (w:World) (t:aF) (st:List Int) (cs:List (List Int)) (pC pL pS pT pO ob:Nat) (V:Nat->Value) (k:Nat):Prop where
 cC:∃C,w.cell? ⟨pC,0,none⟩=some C/\bh (· ≠ ob) w C cs
 cL:∃L,w.cell? ⟨pL,0,none⟩=some L/\ay (· ≠ ob) w L (az t.ns)
 cS:∃L,w.cell? ⟨pS,0,none⟩=some L/\ay (· ≠ ob) w L st
 cT:∃P N,w.cell? ⟨pT,0,none⟩=some P/\w.cell? ⟨pT,1,none⟩=some N/\ay (· ≠ ob) w P t.ps
 cO:w.cell? ⟨pO,0,none⟩=some (.slice (some ⟨ob,0,none⟩) t.ps.length t.ps.length)
 row:w.rowIs ob 26 t.ps.length V
 rows:∀j,k<=j->j<t.ps.length->ay (· ≠ ob) w (V j) (aW t st cs j)
 ne:pC≠ob/\pL≠ob/\pS≠ob/\pT≠ob/\pO≠ob
def P9 (w:World) (t:aF) (st:List Int) (cs:List (List Int)) (ob:Nat) (V:Nat->Value) (i:Nat) (e:Ending) (w':World):Prop :=
 e=.returned (.tuple #[])/\w.grownBy w' (some ob)/\∃v,w'.rowIs ob 26 t.ps.length (fun j=>if j=i then v else V j)/\ay (· ≠ ob) w' v (aW t st cs i)
structure fJ (w1 wr:World) (R0 m:Nat) (f:Nat->Int) (ds:List Deferred):Prop where
 grown:w1.grownBy wr (some R0)
 row:wr.rowIs R0 3 m (fun j=>.int .i64 (f j))
 marks:Marks w1.heap.size wr ds
theorem Marks.drewN {n₀:Nat} {w:World} {ds:List Deferred} (h:Marks n₀ w ds) (k:Nat):Marks n₀ (w.drewN k) ds:=Marks.keep (w:=w) (w':=w.drewN k) (fun _ _ _=>rfl) h
theorem fJ.drewN {w1 wr:World} {R0 m:Nat} {f:Nat->Int} {ds:List Deferred} (h:fJ w1 wr R0 m f ds) (k:Nat):fJ w1 (wr.drewN k) R0 m f ds :=
 ⟨⟨h.grown.os,h.grown.tape,h.grown.output,h.grown.size,h.grown.block⟩,h.row,h.marks.drewN k⟩
theorem fJ.congr {w1 wr:World} {R0 m:Nat} {f g:Nat->Int} {ds:List Deferred} (h:fJ w1 wr R0 m f ds) (e:∀j,j<m->f j=g j):fJ w1 wr R0 m g ds :=
 ⟨h.grown,h.row.congr fun j hj=>by rw [e j hj],h.marks⟩
theorem fJ.set {w1 wr:World} {R0 m:Nat} {f:Nat->Int} {ds:List Deferred} (h:fJ w1 wr R0 m f ds) (hR:R0<w1.heap.size) (s:Nat) (x:Int) :
  fJ w1 (wr.setCell ⟨R0,s,none⟩ (.int .i64 x)) R0 m (fun j=>if j=s then x else f j) ds :=
 ⟨⟨h.grown.os,h.grown.tape,h.grown.output,by rw [ox];exact h.grown.size,fun k hk hne=>(CO _ _ _ k (fun e=>hne (by rw [e]))).trans (h.grown.block k hk hne)⟩,
  (h.row.set s _).congr (fun j _=>by by_cases e:j=s<;>simp [e]),h.marks.keep fun r _ hr2=>CO _ _ _ r (by simp only;omega)⟩
theorem fJ.alloc {w1 wr:World} {R0 m:Nat} {f:Nat->Int} {ds:List Deferred} (h:fJ w1 wr R0 m f ds) (o:Obj):fJ w1 (wr.alloc o) R0 m f ds :=
 ⟨⟨h.grown.os,h.grown.tape,h.grown.output,by simp;have:=h.grown.size;omega,fun k hk hne=>(Below.heap_alloc _ _ k (mm hk h.grown.size)).trans (h.grown.block k hk hne)⟩,
  h.row.alloc o,h.marks.keep fun r hr _=>Below.heap_alloc _ _ r (by
   rcases Nat.lt_or_ge r wr.heap.size with h | h
   ·exact h
   ·rw [Ld h] at hr;cases hr)⟩
theorem Lr {P:Program} {f:FuncId} {args:Array Value} {w:World} {n:Nat} {v:Value} (h:Calls P f args (w.drewN n) fun e w'=>e=.returned v/\w.drewN n=w') :
  Calls P f args (w.drewN n) fun e w''=>e=.returned v/\∃m,w''=w.drewN m:=h.mono fun _ _ ⟨he,hm⟩=>⟨he,n,hm.symm⟩
theorem BQ (S:Nat->Prop) (w:World) (n:Nat):Kept S w (w.drewN n):=fun _ _ _=>rfl
theorem FT {a b c:World} {R:Nat} (h:a.grownBy b (some R)) (k:b.grownBy c (some R)):a.grownBy c (some R) :=
 ⟨k.os.trans h.os,k.tape.trans h.tape,k.output.trans h.output,aR h.size k.size,fun i hi hne=>(k.block i (mm hi h.size) hne).trans (h.block i hi hne)⟩
theorem fJ.later {w1 w7 W:World} {R0 m:Nat} {f g:Nat->Int} {ds:List Deferred} (h:fJ w1 w7 R0 m f ds) (hg:w7.grownBy W (some R0)) (hr:W.rowIs R0 3 m (fun j=>.int .i64 (g j))) (hR:R0<w1.heap.size):fJ w1 W R0 m g ds :=
 ⟨FT h.grown hg,hr,h.marks.keep fun r hr hr2=>hg.block r (by
   rcases Nat.lt_or_ge r w7.heap.size with h | h
   ·exact h
   ·rw [Ld h] at hr;cases hr) (by simp;omega)⟩
theorem TR {w7:World} {R0 m:Nat} {β:Type} {f:β->Nat->Int} (hR:R0<w7.heap.size) :
  OwnFrom w7.heap.size (fun (pre:β) W=>W.rowIs R0 3 m (fun j=>.int .i64 (f pre j))/\w7.grownBy W (some R0)):=by
 rintro pre W W' row ⟨h1,h2⟩ hg hr;refine ⟨h1.of_block (hg.block _ h1.lt (fun e=>by have:=(hr _ e.symm).1;omega)),hg.os.trans h2.os,hg.tape.trans h2.tape,hg.output.trans h2.output,aR h2.size hg.size,fun k hk hne=>?_⟩;exact (hg.block k (mm hk h2.size) (fun e=>by have:=(hr _ e.symm).1;omega)).trans (h2.block k hk hne)
theorem Qa {ps:List Int} {i:Nat} {f:Nat->Int} {A:Int} {B:Nat} (hA:0<=A) (hB:0<=(B:Int)):∀(l:List (DO ps i)),(∀c:DO ps i,-1<=f c.1/\f c.1<=A)->l.length<=B -> -(B:Int)<=((vals l).map f).sum/\((vals l).map f).sum<=A*B:=by
 intro l h
 induction l generalizing B with
 | nil=>intro _;simp [vals];exact Int.mul_nonneg hA hB
 | cons c l ih =>
  intro hl;simp only [aO] at hl;obtain ⟨B',rfl⟩:∃B',B=B'+1:=⟨B - 1,by omega⟩;have:=ih (B:=B') (by omega) (by omega);have hc:=h c;have e:A*((B'+1:Nat):Int)=A*B'+A:=by rw [Int.natCast_add,Int.mul_add];simp
  rw [e];simp only [vals,bI,List.sum_cons] at this ⊢;constructor<;>omega
theorem Vc (w:World) (t:aF) (st:List Int) (cs:List (List Int)) (pC pL pS pT pO ob:Nat) (V:Nat->Value) (i:Nat) (hi:i<t.ps.length) (hW:zI w t st cs pC pL pS pT pO ob V (i+1))
  (hn:t.ps.length<=64) (hm:cs.length<=16) (hm0:0<cs.length) (qE:(az t.ns).length<=st.length) (hrl:∀a,a<cs.length->(gl cs a).length=cs.length) (hcb:∀a k,0<=gi (gl cs a) k/\gi (gl cs a) k<=1000)
  (htb:∀j s,j<t.ps.length -> -1<=gi (aW t st cs j) s/\gi (aW t st cs j) s<=100000) (rA:(az t.ns).length<=64) :
  Calls Tryz.prog 230 #[.int .i64 i,.pointer (some ⟨pC,0,none⟩),.pointer (some ⟨pL,0,none⟩),.pointer (some ⟨pS,0,none⟩),.pointer (some ⟨pT,0,none⟩),.pointer (some ⟨pO,0,none⟩)] w (P9 w t st cs ob V i):=by
 obtain ⟨C,Vd,hC⟩:=hW.cC
 obtain ⟨L,FU,hL⟩:=hW.cL
 obtain ⟨St,Ve,hS⟩:=hW.cS
 obtain ⟨P,N,oC,rB,hP⟩:=hW.cT
 have Sw:=hW.cO
 obtain ⟨fC,AQ,BR⟩:=hC
 obtain ⟨qC,kL,rfl,abv,M5⟩:=aA.open AQ
 obtain ⟨qL,abU,rfl,abw,fN⟩:=aA.open hL
 obtain ⟨qS,lg,rfl,abx,vw⟩:=aA.open hS
 have hb1:Below w.heap.size w ((w.alloc (.cells (madeCells #[.int .i64 0] cs.length) 3)).alloc (.cells #[.slice (some ⟨w.heap.size,0,none⟩) cs.length cs.length] 26)):=((cN _ w).alloc (ah _) _).alloc (by simp) _
 have Sy:=aA.keep hL (Kept.below hb1)
 have ZH:=Jw (· ≠ ob) _ _ _ (i:Int) Sy (by omega)
 have DT:=aa ZH
 have lC:=dN _ _ Vd
 have lL:=dN _ _ FU
 have lS:=dN _ _ Ve
 have lP:=dN _ _ oC
 have lO:=dN _ _ Sw
 simp only at lC lL lS lP lO
 have Qb:=cell_later hb1 Vd
 have aac:=cell_later hb1 FU
 have Qc:=cell_later hb1 Ve
 have Qd:=cell_later hb1 oC
 have sG:=cell_later hb1 rB
 have Qe:=cell_later hb1 Sw
 have Sz:=(World.rowIs_made w (.int .i64 0) cs.length 3).alloc (.cells #[.slice (some ⟨w.heap.size,0,none⟩) cs.length cs.length] 26)
 have Vf:((w.alloc (.cells (madeCells #[.int .i64 0] cs.length) 3)).alloc (.cells #[.slice (some ⟨w.heap.size,0,none⟩) cs.length cs.length] 26)).cell? ⟨w.heap.size+1,0,none⟩=some (.slice (some ⟨w.heap.size,0,none⟩) cs.length cs.length):=by simp
 have Qf:((w.alloc (.cells (madeCells #[.int .i64 0] cs.length) 3)).alloc (.cells #[.slice (some ⟨w.heap.size,0,none⟩) cs.length cs.length] 26)).heap.size=w.heap.size+2:=by simp
 have HW:=aa hW
 have BS:=aa htb
 have DR:=aa hcb
 have o9:=aa hrl
 have aad:=aa vw
 have gT:=aa hb1
 have Y2:=aa Sz
 have FV:=aa Qf
 have hmk:=fun W=>run_make_row' (P:=Tryz.prog) 26 3 (.int .i64 0) 8 Tryz.underlying26 Tryz.mA rfl .i64 .i64 cs.length (by omega) (by omega) W
 have Vg:=aa hP
 have HCI:Hid (bh (· ≠ ob) w (.slice qC cs.length kL) cs):=⟨fC,AQ,BR⟩
 clear hW htb hcb hrl M5 fN vw AQ BR hL hS hP hb1 Sy ZH Sz Qf FU Ve oC rB Sw
 refine (callsIn_wide (n:=9)).1 ?_
 refine callsIn_of_wp_marks Tryz.func230 rfl trivial ?_
 simp only [Tryz.ntmps230,fo,aO,dz,Nat.reduceAdd,Nat.reduceSub,ic,ig,fk,wC,cw,bz]
 gi_wp2_with fail
 refine ⟨trivial,(callsIn_wide.2 DT.out).mono ?_⟩
 rintro e w' ⟨rfl,rfl⟩
 generalize hw1:((w.alloc (.cells (madeCells #[.int .i64 0] cs.length) 3)).alloc (.cells #[.slice (some ⟨w.heap.size,0,none⟩) cs.length cs.length] 26))=w1 at *
 clear hw1 DT hmk
 have hle:gK t.ns i=cF (fun j=>decide ((i:Int)=gi (az t.ns) j)) (az t.ns).length:=rfl
 rw [<- hle]
 have hlo:=BK (fun j=>decide ((i:Int)=gi (az t.ns) j)) (az t.ns).length
 rw [<- hle] at hlo
 have how:oz t.ns st i=if 0<=gK t.ns i then gi st (gK t.ns i).toNat else -1:=rfl
 have HOW:=aa how
 generalize hk:gK t.ns i=kl at *
 obtain ⟨hk1,hk2,_⟩:=hlo
 clear hle hk how
 gi_wp2_with fail
 refine wpIn_loop (fun a wr=>∃(s:Nat) (ds:List Deferred) (u6 u9 u10 u11 u12 u13 u14 u15 u16 u17 u18 u19 u22 u23 u24 u25 u26 u27 u28 u29 u30 u31 u32 u33 u34 u35 u36 u37 u38 u39 u40 u41 u42 u43 u44 u45 u46 u47 u48 u49 u50 u51 u52 u53 u54 u55 u56 u57 u58 u59 u60 u61 u62 u63 u64 u65 u66 u67 u68 u69:Value),s<=cs.length/\a={ tmps:=#[.int .i64 i,.pointer (some ⟨pC,0,none⟩),.pointer (some ⟨pL,0,none⟩),.pointer (some ⟨pS,0,none⟩),.pointer (some ⟨pT,0,none⟩),.pointer (some ⟨pO,0,none⟩),u6,.pointer (some ⟨w.heap.size+1,0,none⟩),.int .i64 kl,u9,u10,u11,u12,u13,u14,u15,u16,u17,u18,u19,.int .i64 cs.length,.int .i64 s,u22,u23,u24,u25,u26,u27,u28,u29,u30,u31,u32,u33,u34,u35,u36,u37,u38,u39,u40,u41,u42,u43,u44,u45,u46,u47,u48,u49,u50,u51,u52,u53,u54,u55,u56,u57,u58,u59,u60,u61,u62,u63,u64,u65,u66,u67,u68,u69],defers:=ds }/\fJ w1 wr w.heap.size cs.length (fun j=>if j<s then gi (aW t st cs i) j else 0) ds) (fun a _=>cs.length - (intOf (a.tmps.getD 21 undef)).toNat) ?start ?round
 case start =>
  exact ⟨0,[],_,_,_,_,_,_,_,_,_,_,_,_,_,_,_,_,_,_,_,_,_,_,_,_,_,_,_,_,_,_,_,_,_,_,_,_,_,_,_,_,_,_,_,_,_,_,_,_,_,_,_,_,_,_,_,_,_,_,_,_,aI _,rfl,⟨⟨rfl,rfl,rfl,ah _,fun _ _ _=>rfl⟩,Y2.out.congr (fun j _=>by simp),trivial⟩⟩
 case round =>
  rintro a wr ⟨s,ds,u6,u9,u10,u11,u12,u13,u14,u15,u16,u17,u18,u19,u22,u23,u24,u25,u26,u27,u28,u29,u30,u31,u32,u33,u34,u35,u36,u37,u38,u39,u40,u41,u42,u43,u44,u45,u46,u47,u48,u49,u50,u51,u52,u53,u54,u55,u56,u57,u58,u59,u60,u61,u62,u63,u64,u65,u66,u67,u68,u69,hs,rfl,Vh⟩
  have hg:=Vh.grown
  have Vi:=hg.cell Qb (by simp;omega)
  have Vj:=hg.cell Qc (by simp;omega)
  have Vk:=hg.cell Qd (by simp;omega)
  have Vl:=hg.cell sG (by simp;omega)
  have Vm:=hg.cell Qe (by simp;omega)
  have DU:=hg.cell Vf (by simp)
  have DV:=aa Vh
  have FW:=aa Qc
  have abV:=aa Qb
  have abW:=aa Qe
  have abX:=aa Qd
  have abY:=aa sG
  have BU:=aa Vf
  have HG:=aa hg
  clear Qb Qc Qd sG Qe Vf Vh hg aac
  by_cases hlt:s<cs.length
  ·have oD:Below wr.heap.size wr (wr.alloc (.cells #[.int .i64 s] 3)):=(cN _ _).alloc (ah _) _
   have SA:=cell_later oD Vi
   have SB:=cell_later oD Vj
   have SC:=cell_later oD Vk
   have SD:=cell_later oD Vl
   have SE:=cell_later oD Vm
   have SF:=cell_later oD DU
   have DW:(wr.alloc (.cells #[.int .i64 s] 3)).cell? ⟨wr.heap.size,0,none⟩=some (.int .i64 s):=by simp
   have Ls:=DV.out.alloc (.cells #[.int .i64 s] 3)
   have ZI:w.heap.size+2<=wr.heap.size/\(wr.alloc (.cells #[.int .i64 s] 3)).heap.size=wr.heap.size+1:=⟨by have:=HG.out.size;have:=FV.out;omega,by simp⟩
   have wN:=aa Ls
   have ct:=aa ZI
   have M6:=Ls.row.frozen s
   have M7:=Ls.row.cell hlt
   simp only [Nat.lt_irrefl,if_false] at M7
   clear oD Ls ZI DV HG
   gi_wp2_with fail
   clear Vi Vj Vk Vl Vm DU
   generalize hw5:(wr.alloc (.cells #[.int .i64 s] 3))=w5 at *
   clear hw5
   generalize o8:wr.heap.size=sB at *
   clear o8
   by_cases fT:0<=kl
   obtain ⟨kn,rfl⟩:=tR fT
   obtain ⟨b,off,rfl,sA⟩:=aad.out kn (by omega)
   have abZ:w5.cell? ⟨b,off+kn,none⟩=some (.int .i64 (gi st kn)):=wN.out.grown.cell (gT.out.cell (p:=⟨b,off+kn,none⟩) (dN _ _ sA) |>.trans sA) (by have:=dN _ _ sA;simp at this ⊢;omega)
   rw [if_pos fT,jd] at HOW
   have i1:(0:Int)<=(kn:Int):=by omega
   have i2:(kn:Int)<(st.length:Int):=by omega
   clear sA
   generalize hx:gi st kn=x at *
   clear hx
   by_cases hx0:0<=x
   by_cases hxs:x=s
   focus
    have hx1:(x != (s:Int))=false:=by simp [hxs]
    have HX:=aa hxs
    clear hxs
    gi_wp2_with fail
    gi_quiet (fail)
    gi_wp2_with fail
    have H6:Hid (fJ w1 (w5.drewN nq) w.heap.size cs.length (fun j=>if j<s then gi (aW t st cs i) j else if j=s then fq t st i s else 0) ds):=(wN.out.drewN nq).congr fun j _=>by
     rw [show fq t st i s=0 from by unfold fq;rw [HOW.out,if_neg (fun h=>h.2 HX.out)]]
     by_cases e1:j<s<;>by_cases e2:j=s<;>simp [e1,e2]
    have SG:(w5.drewN nq).cell? ⟨sB,0,none⟩=some (.int .i64 s):=DW
    have SH:Hid ((w5.drewN nq).heap.size=sB+1):=ct.out.2
    clear SA SB SC SD SE SF DW M6 M7 wN
    generalize w5.drewN nq=w6 at *

   rotate_left
   focus
    have hx1:(x != (s:Int))=true:=by simpa using hxs
    have HX:=aa hxs
    clear hxs
    gi_wp2_with fail
    gi_quiet (fail)
    gi_wp2_with fail
    have h6f:(w5.drewN nq).frozen? ⟨w.heap.size,s,none⟩=false:=M6
    have H6:Hid (fJ w1 ((w5.drewN nq).setCell ⟨w.heap.size,s,none⟩ (.int .i64 (-1))) w.heap.size cs.length (fun j=>if j<s then gi (aW t st cs i) j else if j=s then fq t st i s else 0) ds):=((wN.out.drewN nq).set (by have:=FV.out;omega) s (-1)).congr fun j _=>by
     rw [show fq t st i s = -1 from by unfold fq;rw [HOW.out,if_pos ⟨hx0,HX.out⟩]]
     by_cases e1:j=s
     ·subst e1;simp
     ·simp [e1]
    have SG:((w5.drewN nq).setCell ⟨w.heap.size,s,none⟩ (.int .i64 (-1))).cell? ⟨sB,0,none⟩=some (.int .i64 s):=by
     rw [World.cell?_setCell_other _ _ _ _ (by intro e;injection e with e;have:=ct.out;omega)];exact DW
    have SH:Hid (((w5.drewN nq).setCell ⟨w.heap.size,s,none⟩ (.int .i64 (-1))).heap.size=sB+1):=by unfold Hid;rw [ox];exact ct.out.2
    clear SA SB SC SD SE SF DW M6 M7 wN h6f
    generalize (w5.drewN nq).setCell ⟨w.heap.size,s,none⟩ (.int .i64 (-1))=w6 at *

   rotate_left
   focus
    have hx1:decide (0<=x)=false:=by simpa using hx0
    gi_wp2_with fail
    gi_quiet (fail)
    gi_wp2_with fail
    have H6:Hid (fJ w1 (w5.drewN nq) w.heap.size cs.length (fun j=>if j<s then gi (aW t st cs i) j else if j=s then fq t st i s else 0) ds):=(wN.out.drewN nq).congr fun j _=>by
     rw [show fq t st i s=0 from by unfold fq;rw [HOW.out,if_neg (fun h=>by omega)]]
     by_cases e1:j<s<;>by_cases e2:j=s<;>simp [e1,e2]
    have SG:(w5.drewN nq).cell? ⟨sB,0,none⟩=some (.int .i64 s):=DW
    have SH:Hid ((w5.drewN nq).heap.size=sB+1):=ct.out.2
    clear SA SB SC SD SE SF DW M6 M7 wN
    generalize w5.drewN nq=w6 at *

   rotate_left
   focus
    rw [if_neg fT] at HOW
    have hx1:decide (0<=kl)=false:=by simpa using fT
    gi_wp2_with fail
    gi_quiet (fail)
    gi_wp2_with fail
    have H6:Hid (fJ w1 (w5.drewN nq) w.heap.size cs.length (fun j=>if j<s then gi (aW t st cs i) j else if j=s then fq t st i s else 0) ds):=(wN.out.drewN nq).congr fun j _=>by
     rw [show fq t st i s=0 from by unfold fq;rw [HOW.out,if_neg (fun h=>by omega)]]
     by_cases e1:j<s<;>by_cases e2:j=s<;>simp [e1,e2]
    have SG:(w5.drewN nq).cell? ⟨sB,0,none⟩=some (.int .i64 s):=DW
    have SH:Hid ((w5.drewN nq).heap.size=sB+1):=ct.out.2
    clear SA SB SC SD SE SF DW M6 M7 wN
    generalize w5.drewN nq=w6 at *

   rotate_left
   all_goals
    refine ⟨trivial,(callsIn_wide.2 (U7 w6 _ P N rfl i)).mono ?_⟩
    rintro e w7 ⟨rfl,rfl⟩
    gi_wp2_with fail
    have M8:Below w6.heap.size w6 ((w6.alloc (.cells #[P,N] 39)).alloc (.cells #[.int .i64 i] 3)):=((cN _ _).alloc (ah _) _).alloc (by simp) _
    have h7s:=cell_later M8 SG
    have h7n:((w6.alloc (.cells #[P,N] 39)).alloc (.cells #[.int .i64 i] 3)).cell? ⟨w6.heap.size+1,0,none⟩=some (.int .i64 i):=by simp
    have h7p:((w6.alloc (.cells #[P,N] 39)).alloc (.cells #[.int .i64 i] 3)).cell? ⟨w6.heap.size,0,none⟩=some P:=by simp
    have h7z:((w6.alloc (.cells #[P,N] 39)).alloc (.cells #[.int .i64 i] 3)).heap.size=w6.heap.size+2:=by simp
    have Qg:=(H6.out.alloc (.cells #[P,N] 39)).alloc (.cells #[.int .i64 i] 3)
    have h6e:w6.heap.size=sB+1:=SH.out
    generalize ((w6.alloc (.cells #[P,N] 39)).alloc (.cells #[.int .i64 i] 3))=w7 at *
    generalize w6.heap.size=z6 at *
    have hz1:=FV.out
    have ab0:=ct.out.1
    have hold:∀W,w7.grownBy W (some w.heap.size)->∀b,b<w.heap.size->W.heap[b]? = w.heap[b]?:=fun W hg b hb =>
     ((hg.block b (by omega) (by simp;omega)).trans (Qg.grown.block b (by omega) (by simp;omega))).trans (gT.out.block b hb)
    have M9:w7.grownBy w7 (some w.heap.size):=⟨rfl,rfl,rfl,ah _,fun _ _ _=>rfl⟩
    have BV:ay (fun b=>b≠w.heap.size/\b<w7.heap.size) w7 P t.ps:=((Vg.out.sub (T:=fun b=>b<w.heap.size) fun b _ hb=>hb).keep fun b hb _=>hold w7 M9 b hb).sub fun b hb _=>⟨by omega,by omega⟩
    have CT:∀c,c<t.ps.length -> -1<=jD t st cs s c/\jD t st cs s c<=101000:=fun c hc=>FA (A:=100000) (by omega) (fun k=>DR.out s k) (fun k=>(BS.out c k hc).2) _
    have Vn:=aa CT
    have HOLD:=aa hold
    have FX:=aa Qg
    have ZJ:=aa h7s
    have HZ7:=aa h7z
    have HZ1:=aa hz1
    have aae:w.heap.size<w7.heap.size:=by omega
    apply wpIn_rangeFunc_ownF (F:=Fence.wide) (n:=9) (P:=Tryz.prog) (ps:=#[47]) (w:=w7) rfl (by omega) (gf:=268) (lb:=#[.pointer (some ⟨z6+1,0,none⟩),.pointer (some ⟨z6,0,none⟩)]) rfl trivial (enters_of Tryz.func268 (by kernel_rfl) rfl)
     (Lj 8 (by omega) (z6+1) z6 (fun b=>b≠w.heap.size/\b<w7.heap.size) t.ps i P w7 (fun b hb=>hb.2) h7n h7p BV ⟨by omega,by omega⟩ ⟨by omega,by omega⟩ hi (by omega))
     (fun h k=>KS.trans h k) (fun W l o o' hl _ _ _=>fun b (hb:b≠w.heap.size/\b<w7.heap.size)=>kU (by have:=hb.2;omega)) (cN _ _) (fun _=>(rfl:(1:Nat)=1))
     (fun pre W=>W.rowIs w.heap.size 3 cs.length (fun j=>.int .i64 (if j<s then gi (aW t st cs i) j else if j=s then fq t st i s+((vals pre).map (jD t st cs s)).sum else 0))/\w7.grownBy W (some w.heap.size))
     (fun _ _ _=>False) (TR aae) (fun _ _ _ _ _ h _ _=>h)
     ⟨Qg.row.congr fun j _=>by simp [vals],M9⟩
    ·intro l x W K hK
     gi_wp2
     exact hK
    ·rintro l pre x W ⟨hrow,DX⟩ hlen
     have hkeep:=HOLD.out W DX
     have bC:W.cell? ⟨pC,0,none⟩=some (.slice qC cs.length kL):=(fG (hkeep pC lC)).trans Vd
     have bO:W.cell? ⟨pO,0,none⟩=some (.slice (some ⟨ob,0,none⟩) t.ps.length t.ps.length):=(fG (hkeep pO lO)).trans HW.out.cO
     have bs:W.cell? ⟨sB,0,none⟩=some (.int .i64 s):=DX.cell ZJ.out (by simp;omega)
     have bR:W.cell? ⟨w.heap.size+1,0,none⟩=some (.slice (some ⟨w.heap.size,0,none⟩) cs.length cs.length):=DX.cell (FX.out.grown.cell BU.out (by simp)) (by simp)
     obtain ⟨hx1,hx2,_⟩:=fI.1 x.2
     have bV:W.cell? ⟨ob,x.1,none⟩=some (V x.1):=(fG (hkeep ob HW.out.row.lt)).trans (HW.out.row.cell hx1)
     have Vo:=HW.out.rows x.1 hx2 hx1
     have ZK:ay (fun b=>b<w.heap.size) W (V x.1) (aW t st cs x.1):=(Vo.sub (T:=fun b=>b<w.heap.size) fun b _ hb=>hb).keep fun b hb _=>hkeep b hb
     have hCW:bh (fun b=>b<w.heap.size) W (.slice qC cs.length kL) cs:=(HCI.out.sub (T:=fun b=>b<w.heap.size) fun b _ hb=>hb).keep fun b hb _=>hkeep b hb
     have BW:=fun k=>U8 _ _ (W.drewN k) _ _ cs (aW t st cs x.1) s (hCW.keep (BQ _ _ _)) (ZK.keep (BQ _ _ _)) hlt (by rw [gD,o9.out s hlt];exact ah _) (by rw [gD];omega) (DR.out s) (fun k=>by have:=(BS.out x.1 k hx1).2;omega)
     obtain ⟨qv,cv,ev,_,_⟩:=aA.open Vo
     rw [ev] at bV BW
     unfold yt at BW
     have ha:=Vn.out x.1 hx1
     have ZL:(bJ (gi (gl cs s)) (gi (aW t st cs x.1)) (aW t st cs x.1).length).1=jD t st cs s x.1:=rfl
     rw [ZL] at BW
     have Vp:=hrow.cell hlt
     have hrf:=hrow.frozen s
     simp only [Nat.lt_irrefl,if_false,if_true] at Vp
     have sH:fq t st i s=0\/fq t st i s = -1:=by unfold fq;split<;>simp
     have hsm:-64<=((vals pre).map (jD t st cs s)).sum/\((vals pre).map (jD t st cs s)).sum<=101000*64:=by
      have h0:=Qa (A:=101000) (B:=64) (f:=jD t st cs s) (by omega) (by omega) pre (fun c=>Vn.out c.1 (fI.1 c.2).1) (by omega)
      constructor<;>omega
     have Y3:=aa BW
     have Lt:=aa hrow
     have HG7:=aa DX
     have aaf:-1<=fq t st i s/\fq t st i s<=0:=by omega
     have i1:(0:Int)<=(x.1:Int):=by omega
     have i2:(x.1:Int)<(t.ps.length:Int):=by omega
     obtain ⟨ha1,ha2⟩:=ha
     obtain ⟨ab1,ab2⟩:=hsm
     obtain ⟨hb1,hb2⟩:=aaf
     have HPX:Hid (((vals (pre++[x])).map (jD t st cs s)).sum=((vals pre).map (jD t st cs s)).sum+jD t st cs s x.1):=by unfold Hid;rw [ym];simp
     clear BW hrow DX hkeep ZK hCW Vo ZL sH HW BS DR o9 HOLD FX ZJ BV
     generalize ((vals pre).map (jD t st cs s)).sum=sm at *
     generalize jD t st cs s x.1=ad at *
     generalize fq t st i s=bt at *
     generalize (bJ (gi (gl cs s)) (gi (aW t st cs x.1)) (aW t st cs x.1).length).2=ow at *
     gi_wp2
     have ab3:Fence.wide.fn 232:=trivial
     have aby:(Fence.wide.inRound l).fn 232:=trivial
     refine CU (l₀:=l) rfl (by kernel_rfl) (by kernel_rfl) (by kernel_rfl) ?_
     repeat (gi_big_quiet_step (fail))
     gi_big_quiet_want
     gi_big_quiet_op
     refine ⟨_,fun k=>CallsIn.inRound l (callsIn_wide.2 (Lr (Y3.out k))),?_⟩
     go_big_quiet_on
     repeat (gi_big_quiet_step (fail))
     refine wpQuietIn_nil ?_
     intro _ hw'
     obtain ⟨nq,hw''⟩:=hw'
     subst hw''
     gi_wp2
     refine ⟨?_,?_,?_,?_⟩
     ·exact ⟨(KeepsOthers.setCell (W.drewN nq) _ _).size,(KeepsOthers.setCell (W.drewN nq) _ _).same⟩
     ·exact fun b hb=>CO (W.drewN nq) _ _ b hb.1
     ·exact ((show (W.drewN nq).rowIs w.heap.size 3 cs.length _ from Lt.out).set s _).congr fun j _=>by
       by_cases e:j=s
       ·subst e;simp [HPX.out];omega
       ·simp [e]
     ·exact FT HG7.out ⟨rfl,rfl,rfl,by rw [ox];exact ah _,fun k _ hne=>CO (W.drewN nq) _ _ k (fun e=>hne (by rw [e]))⟩
    ·rintro D xs W hD hS ⟨hrow,DX⟩ hK
     have hT:fq t st i s+((vals xs).map (jD t st cs s)).sum=gi (aW t st cs i) s:=by rw [hS,eU _ _ _ _ hlt,J5 _ _ _ hi]
     have Vq:=(FX.out.later DX hrow (by omega)).congr (g:=fun j=>if j<s+1 then gi (aW t st cs i) j else 0) (fun j _=>by
      by_cases e1:j<s
      ·simp [e1,Nat.lt_succ_of_lt e1]
      ·by_cases e2:j=s
       ·subst e2;simp [hT]
       ·have e3:¬j<s+1:=by omega
        simp [e1,e2,e3])
     have ZM:Marks w1.heap.size W ({ target:=.collected D,args:=#[] }::ds):=⟨⟨D,rfl,by have:=FX.out.grown.size;omega,hK,fun d' hd' e=>by
      obtain ⟨r,hr,hr2⟩:=FX.out.marks.lt d' hd'
      rw [hr] at e;injection e with e;omega⟩,Vq.marks⟩
     have ZN:=aa Vq
     have Vr:=aa ZM
     clear hT Vq ZM hrow DX hK BV
     gi_wp2_with fail
     refine ⟨⟨s+1,_,_,_,_,_,_,_,_,_,_,_,_,_,_,_,_,_,_,_,_,_,_,_,_,_,_,_,_,_,_,_,_,_,_,_,_,_,_,_,_,_,_,_,_,_,_,_,_,_,_,_,_,_,_,_,_,_,_,_,_,_,by omega,rfl,⟨ZN.out.grown,ZN.out.row,Vr.out⟩⟩,?_⟩
     simp [intOf];omega
    ·rintro D c pre W _ _ h _
     exact h.elim
  ·obtain rfl:s=cs.length:=by omega
   clear hlt
   have SI:=HW.out.row.lt
   have hkeep:∀b,b<w.heap.size->wr.heap[b]? = w.heap[b]?:=fun b hb=>(HG.out.block b (by have:=FV.out;omega) (by simp;omega)).trans (gT.out.block b hb)
   have hro:=HW.out.row.of_block (hkeep ob SI)
   have hx1:=hro.cell hi
   have hx2:=hro.frozen i
   have hle1:w.heap.size+2<=w1.heap.size:=by have:=FV.out;omega
   have HKP:=aa hkeep
   have HRO:=aa hro
   clear hkeep hro
   have Vs:=DV
   gi_wp2_with fail
   refine yq (v:=.tuple #[]) (n₀:=w1.heap.size) (fun _=>results_none rfl _ _ _) (Vs.out.marks.keep fun r _ hr2=>CO _ _ _ r (by simp only;omega)) fun w' hb hs' hc=>⟨rfl,?_,.slice (some ⟨w.heap.size,0,none⟩) cs.length cs.length,?_,?_⟩
   ·refine ⟨hb.os.trans (HG.out.os.trans gT.out.os),hb.tape.trans (HG.out.tape.trans gT.out.tape),hb.output.trans (HG.out.output.trans gT.out.output),?_,fun k hk hne=>?_⟩
    ·have h1:=hb.size;rw [ox] at h1;have h2:=HG.out.size;omega
    ·exact ((hb.block k (by omega)).trans (CO _ _ _ k (fun e=>hne (by rw [e])))).trans (HKP.out k hk)
   ·exact ((HRO.out.set i _).of_block (hb.block ob (by omega)))
   ·have hrow2:=(Vs.out.row.setOther (a:=⟨ob,i,none⟩) (by simp only;omega) (.slice (some ⟨w.heap.size,0,none⟩) cs.length cs.length)).of_block (hb.block w.heap.size (by omega))
    refine ⟨some ⟨w.heap.size,0,none⟩,cs.length,by rw [gD],by rw [gD];exact ah _,.inr ⟨w.heap.size,0,rfl,by omega,fun k hk=>?_⟩⟩
    rw [gD] at hk
    have h1:=hrow2.cell hk
    simp only [hk,if_true] at h1
    rw [ij];exact h1
end Go.Proofs.YthgabkgmkolobaaGreat
