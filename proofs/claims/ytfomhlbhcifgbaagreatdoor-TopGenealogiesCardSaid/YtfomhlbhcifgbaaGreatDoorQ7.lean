/- The contract of the closure that fills a row of the table. -/
import Derived.Test.YtfomhlbhcifgbaaGreatDoorQ5
set_option maxRecDepth 100000
set_option maxHeartbeats 2000000
namespace Go.Proofs.YtfomhlbhcifgbaaGreatDoor
open Go.RowKit Go.Shelf Go.Deep
attribute [local go_sem] vz
theorem zm (S:Nat->Prop) (w:World) (v:Value) (xs:List Int) (x:Int) (h:af S w v xs) (hn:xs.length<=1000000) :
  Calls Tryz.prog 53 #[v,.int .i64 x] w fun e w'=>e=.returned (.int .i64 (bZ (fun j=>decide (x=gi xs j)) xs.length))/\w=w':=by
 obtain ⟨p,cap,rfl,hcap,H⟩:=aB.open h;clear h;go_in;go_wp2
 go_loop [5,8] (fun _ i=>∃k:Nat,k<=xs.length/\i=.int .i64 k/\Hid (∀j,j<k->decide (x=gi xs j)=false)) (fun _ i=>xs.length - (intOf i).toNat)
 case atStart=>exact ⟨0,bg _,rfl,fun j hj=>absurd hj (cz _)⟩
 case round =>
  obtain ⟨k,hk,rfl,hd⟩:=hrel;by_cases hlt:k<xs.length
  ·obtain ⟨b,off,rfl,hc⟩:=H k hlt
   clear H;generalize hy:gi xs k=y at *;have HY:=aa hy;clear hy;by_cases hxy:x=y
   ·have hx1:(x==y)=true:=by simp [hxy]
    have FE:=aa hxy;clear hxy;go_wp2;go_ret;exact ⟨aU (jR (p:=fun j=>decide (x=gi xs j)) hlt hd.out (by rw [HY.out];simpa using FE.out)).symm,rfl⟩
   ·have hx1:(x==y)=false:=by simpa using hxy
    have FE:=aa hxy;clear hxy;go_wp2
    go_round
    case rel=>exact ⟨k+1,by omega,by go_num,fun j hj=>if e:j=k then by subst e;rw [HY.out];simpa using FE.out else hd.out j (by omega)⟩
    case measure=>simp [intOf];omega
  ·clear H
   go_wp2;go_ret;exact ⟨aU (gY fun j hj=>hd.out j (by omega)).symm,rfl⟩
structure yX (w:World) (t:aA) (st:List Int) (cs:List (List Int)) (pC pL pS pT pO ob:Nat) (V:Nat->Value) (k:Nat):Prop where
 cC:∃C,w.cell? ⟨pC,0,none⟩=some C/\aS (· ≠ ob) w C cs
 cL:∃L,w.cell? ⟨pL,0,none⟩=some L/\af (· ≠ ob) w L (aq t.ns)
 cS:∃L,w.cell? ⟨pS,0,none⟩=some L/\af (· ≠ ob) w L st
 cT:∃P N,w.cell? ⟨pT,0,none⟩=some P/\w.cell? ⟨pT,1,none⟩=some N/\af (· ≠ ob) w P t.ps
 cO:w.cell? ⟨pO,0,none⟩=some (.slice (some ⟨ob,0,none⟩) t.ps.length t.ps.length)
 row:w.rowIs ob 27 t.ps.length V
 rows:∀j,k<=j->j<t.ps.length->af (· ≠ ob) w (V j) (aR t st cs j)
 ne:pC≠ob/\pL≠ob/\pS≠ob/\pT≠ob/\pO≠ob
def P3 (w:World) (t:aA) (st:List Int) (cs:List (List Int)) (ob:Nat) (V:Nat->Value) (i:Nat) (e:Ending) (w':World):Prop :=
 e=.returned (.tuple #[])/\w.grownBy w' (some ob)/\∃v,w'.rowIs ob 27 t.ps.length (fun j=>if j=i then v else V j)/\af (· ≠ ob) w' v (aR t st cs i)
structure eU (w1 wr:World) (R0 m:Nat) (f:Nat->Int) (ds:List Deferred):Prop where
 grown:w1.grownBy wr (some R0)
 row:wr.rowIs R0 3 m (fun j=>.int .i64 (f j))
 marks:Marks w1.heap.size wr ds
theorem Marks.drewN {n₀:Nat} {w:World} {ds:List Deferred} (h:Marks n₀ w ds) (k:Nat):Marks n₀ (w.drewN k) ds:=Marks.keep (w:=w) (w':=w.drewN k) (fun _ _ _=>rfl) h
theorem eU.drewN {w1 wr:World} {R0 m:Nat} {f:Nat->Int} {ds:List Deferred} (h:eU w1 wr R0 m f ds) (k:Nat):eU w1 (wr.drewN k) R0 m f ds :=
 ⟨⟨h.grown.os,h.grown.tape,h.grown.output,h.grown.size,h.grown.block⟩,h.row,h.marks.drewN k⟩
theorem eU.congr {w1 wr:World} {R0 m:Nat} {f g:Nat->Int} {ds:List Deferred} (h:eU w1 wr R0 m f ds) (e:∀j,j<m->f j=g j):eU w1 wr R0 m g ds :=
 ⟨h.grown,h.row.congr fun j hj=>by rw [e j hj],h.marks⟩
theorem eU.set {w1 wr:World} {R0 m:Nat} {f:Nat->Int} {ds:List Deferred} (h:eU w1 wr R0 m f ds) (hR:R0<w1.heap.size) (s:Nat) (x:Int) :
  eU w1 (wr.setCell ⟨R0,s,none⟩ (.int .i64 x)) R0 m (fun j=>if j=s then x else f j) ds :=
 ⟨⟨h.grown.os,h.grown.tape,h.grown.output,by rw [gX];exact h.grown.size,fun k hk hne=>(Ad _ _ _ k (fun e=>hne (by rw [e]))).trans (h.grown.block k hk hne)⟩,
  (h.row.set s _).congr (fun j _=>by by_cases e:j=s<;>simp [e]),h.marks.keep fun r _ hr2=>Ad _ _ _ r (by simp only;omega)⟩
theorem eU.alloc {w1 wr:World} {R0 m:Nat} {f:Nat->Int} {ds:List Deferred} (h:eU w1 wr R0 m f ds) (o:Obj):eU w1 (wr.alloc o) R0 m f ds :=
 ⟨⟨h.grown.os,h.grown.tape,h.grown.output,by simp;have:=h.grown.size;omega,fun k hk hne=>(uZ _ _ k (lM hk h.grown.size)).trans (h.grown.block k hk hne)⟩,
  h.row.alloc o,h.marks.keep fun r hr _=>uZ _ _ r (by
   rcases Nat.lt_or_ge r wr.heap.size with h | h
   ·exact h
   ·rw [KO h] at hr;cases hr)⟩
theorem K4 {P:Program} {f:FuncId} {args:Array Value} {w:World} {n:Nat} {v:Value} (h:Calls P f args (w.drewN n) fun e w'=>e=.returned v/\w.drewN n=w') :
  Calls P f args (w.drewN n) fun e w''=>e=.returned v/\∃m,w''=w.drewN m:=h.mono fun _ _ ⟨he,hm⟩=>⟨he,n,hm.symm⟩
theorem Bj (S:Nat->Prop) (w:World) (n:Nat):Kept S w (w.drewN n):=fun _ _ _=>rfl
theorem FH {a b c:World} {R:Nat} (h:a.grownBy b (some R)) (k:b.grownBy c (some R)):a.grownBy c (some R) :=
 ⟨k.os.trans h.os,k.tape.trans h.tape,k.output.trans h.output,aV h.size k.size,fun i hi hne=>(k.block i (lM hi h.size) hne).trans (h.block i hi hne)⟩
theorem eU.later {w1 w7 W:World} {R0 m:Nat} {f g:Nat->Int} {ds:List Deferred} (h:eU w1 w7 R0 m f ds) (hg:w7.grownBy W (some R0)) (hr:W.rowIs R0 3 m (fun j=>.int .i64 (g j))) (hR:R0<w1.heap.size):eU w1 W R0 m g ds :=
 ⟨FH h.grown hg,hr,h.marks.keep fun r hr hr2=>hg.block r (by
   rcases Nat.lt_or_ge r w7.heap.size with h | h
   ·exact h
   ·rw [KO h] at hr;cases hr) (by simp;omega)⟩
theorem Ud {w7:World} {R0 m:Nat} {β:Type} {f:β->Nat->Int} (hR:R0<w7.heap.size) :
  OwnFrom w7.heap.size (fun (pre:β) W=>W.rowIs R0 3 m (fun j=>.int .i64 (f pre j))/\w7.grownBy W (some R0)):=by
 rintro pre W W' row ⟨h1,h2⟩ hg hr;refine ⟨h1.of_block (hg.block _ h1.lt (fun e=>by have:=(hr _ e.symm).1;omega)),hg.os.trans h2.os,hg.tape.trans h2.tape,hg.output.trans h2.output,aV h2.size hg.size,fun k hk hne=>?_⟩;exact (hg.block k (lM hk h2.size) (fun e=>by have:=(hr _ e.symm).1;omega)).trans (h2.block k hk hne)
theorem P5 {ps:List Int} {i:Nat} {f:Nat->Int} {A:Int} {B:Nat} (hA:0<=A) (hB:0<=(B:Int)):∀(l:List (Dy ps i)),(∀c:Dy ps i,-1<=f c.1/\f c.1<=A)->l.length<=B -> -(B:Int)<=((vals l).map f).sum/\((vals l).map f).sum<=A*B:=by
 intro l h
 induction l generalizing B with
 | nil=>intro _;simp [vals];exact Int.mul_nonneg hA hB
 | cons c l ih =>
  intro hl;simp only [bB] at hl;obtain ⟨B',rfl⟩:∃B',B=B'+1:=⟨B - 1,by omega⟩;have:=ih (B:=B') (by omega) (by omega);have hc:=h c;have e:A*((B'+1:Nat):Int)=A*B'+A:=by rw [Int.natCast_add,Int.mul_add];simp
  rw [e];simp only [vals,cV,List.sum_cons] at this ⊢;constructor<;>omega
theorem Vx (w:World) (t:aA) (st:List Int) (cs:List (List Int)) (pC pL pS pT pO ob:Nat) (V:Nat->Value) (i:Nat) (hi:i<t.ps.length) (hW:yX w t st cs pC pL pS pT pO ob V (i+1))
  (hn:t.ps.length<=64) (hm:cs.length<=16) (hm0:0<cs.length) (pW:(aq t.ns).length<=st.length) (hrl:∀a,a<cs.length->(gl cs a).length=cs.length) (hcb:∀a k,0<=gi (gl cs a) k/\gi (gl cs a) k<=1000)
  (htb:∀j s,j<t.ps.length -> -1<=gi (aR t st cs j) s/\gi (aR t st cs j) s<=100000) (Bk:(aq t.ns).length<=64) :
  Calls Tryz.prog 122 #[.int .i64 i,.pointer (some ⟨pC,0,none⟩),.pointer (some ⟨pL,0,none⟩),.pointer (some ⟨pS,0,none⟩),.pointer (some ⟨pT,0,none⟩),.pointer (some ⟨pO,0,none⟩)] w (P3 w t st cs ob V i):=by
 obtain ⟨C,Vy,hC⟩:=hW.cC
 obtain ⟨L,FI,hL⟩:=hW.cL
 obtain ⟨St,Vz,hS⟩:=hW.cS
 obtain ⟨P,N,xJ,Bl,hP⟩:=hW.cT
 have SD:=hW.cO
 obtain ⟨fC,Ak,Bp⟩:=hC
 obtain ⟨qC,jU,rfl,abB,FJ⟩:=aB.open Ak
 obtain ⟨qL,abZ,rfl,abC,kZ⟩:=aB.open hL
 obtain ⟨qS,kz,rfl,abD,uw⟩:=aB.open hS
 have hb1:Below w.heap.size w ((w.alloc (.cells (madeCells #[.int .i64 0] cs.length) 3)).alloc (.cells #[.slice (some ⟨w.heap.size,0,none⟩) cs.length cs.length] 27)):=((b7 _ w).alloc (aj _) _).alloc (by simp) _
 have JM:=aB.keep hL (Kept.below hb1)
 have hix:=zm (· ≠ ob) _ _ _ (i:Int) JM (by omega)
 have rH:=aa hix
 have lC:=fS _ _ Vy
 have lL:=fS _ _ FI
 have lS:=fS _ _ Vz
 have lP:=fS _ _ xJ
 have lO:=fS _ _ SD
 simp only at lC lL lS lP lO
 have P6:=cell_later hb1 Vy
 have aac:=cell_later hb1 FI
 have P8:=cell_later hb1 Vz
 have P9:=cell_later hb1 xJ
 have Al:=cell_later hb1 Bl
 have Qa:=cell_later hb1 SD
 have SE:=(World.rowIs_made w (.int .i64 0) cs.length 3).alloc (.cells #[.slice (some ⟨w.heap.size,0,none⟩) cs.length cs.length] 27)
 have VA:((w.alloc (.cells (madeCells #[.int .i64 0] cs.length) 3)).alloc (.cells #[.slice (some ⟨w.heap.size,0,none⟩) cs.length cs.length] 27)).cell? ⟨w.heap.size+1,0,none⟩=some (.slice (some ⟨w.heap.size,0,none⟩) cs.length cs.length):=by simp
 have Qb:((w.alloc (.cells (madeCells #[.int .i64 0] cs.length) 3)).alloc (.cells #[.slice (some ⟨w.heap.size,0,none⟩) cs.length cs.length] 27)).heap.size=w.heap.size+2:=by simp
 have HW:=aa hW
 have rI:=aa htb
 have rE:=aa hcb
 have nW:=aa hrl
 have aad:=aa uw
 have qE:=aa hb1
 have ZF:=aa SE
 have FK:=aa Qb
 have hmk:=fun W=>run_make_row' (P:=Tryz.prog) 27 3 (.int .i64 0) 8 Tryz.underlying27 Tryz.pF rfl .i64 .i64 cs.length (by omega) (by omega) W
 have VB:=aa hP
 have FL:Hid (aS (· ≠ ob) w (.slice qC cs.length jU) cs):=⟨fC,Ak,Bp⟩
 clear hW htb hcb hrl FJ kZ uw Ak Bp hL hS hP hb1 JM hix SE Qb FI Vz xJ Bl SD
 refine (callsIn_wide (n:=9)).1 ?_
 refine callsIn_of_wp_marks Tryz.func122 rfl trivial ?_
 simp only [Tryz.ntmps122,gI,bB,eW,Nat.reduceAdd,Nat.reduceSub,jL,jM,gH,qI,dz,cw]
 gi_wp2_with fail
 refine ⟨trivial,(callsIn_wide.2 rH.out).mono ?_⟩
 rintro e w' ⟨rfl,rfl⟩
 generalize hw1:((w.alloc (.cells (madeCells #[.int .i64 0] cs.length) 3)).alloc (.cells #[.slice (some ⟨w.heap.size,0,none⟩) cs.length cs.length] 27))=w1 at *
 clear hw1 rH hmk
 have hle:fh t.ns i=bZ (fun j=>decide ((i:Int)=gi (aq t.ns) j)) (aq t.ns).length:=rfl
 rw [<- hle]
 have hlo:=vA (fun j=>decide ((i:Int)=gi (aq t.ns) j)) (aq t.ns).length
 rw [<- hle] at hlo
 have how:ig t.ns st i=if 0<=fh t.ns i then gi st (fh t.ns i).toNat else -1:=rfl
 have HOW:=aa how
 generalize hk:fh t.ns i=kl at *
 obtain ⟨hk1,hk2,_⟩:=hlo
 clear hle hk how
 gi_wp2_with fail
 refine wpIn_loop (fun a wr=>∃(s:Nat) (ds:List Deferred) (u6 u9 u10 u11 u12 u13 u14 u15 u16 u17 u18 u19 u22 u23 u24 u25 u26 u27 u28 u29 u30 u31 u32 u33 u34 u35 u36 u37 u38 u39 u40 u41 u42 u43 u44 u45 u46 u47 u48 u49 u50 u51 u52 u53 u54 u55 u56 u57 u58 u59 u60 u61 u62 u63 u64 u65 u66 u67 u68 u69:Value),s<=cs.length/\a={ tmps:=#[.int .i64 i,.pointer (some ⟨pC,0,none⟩),.pointer (some ⟨pL,0,none⟩),.pointer (some ⟨pS,0,none⟩),.pointer (some ⟨pT,0,none⟩),.pointer (some ⟨pO,0,none⟩),u6,.pointer (some ⟨w.heap.size+1,0,none⟩),.int .i64 kl,u9,u10,u11,u12,u13,u14,u15,u16,u17,u18,u19,.int .i64 cs.length,.int .i64 s,u22,u23,u24,u25,u26,u27,u28,u29,u30,u31,u32,u33,u34,u35,u36,u37,u38,u39,u40,u41,u42,u43,u44,u45,u46,u47,u48,u49,u50,u51,u52,u53,u54,u55,u56,u57,u58,u59,u60,u61,u62,u63,u64,u65,u66,u67,u68,u69],defers:=ds }/\eU w1 wr w.heap.size cs.length (fun j=>if j<s then gi (aR t st cs i) j else 0) ds) (fun a _=>cs.length - (intOf (a.tmps.getD 21 undef)).toNat) ?start ?round
 case start =>
  exact ⟨0,[],_,_,_,_,_,_,_,_,_,_,_,_,_,_,_,_,_,_,_,_,_,_,_,_,_,_,_,_,_,_,_,_,_,_,_,_,_,_,_,_,_,_,_,_,_,_,_,_,_,_,_,_,_,_,_,_,_,_,_,_,bg _,rfl,⟨⟨rfl,rfl,rfl,aj _,fun _ _ _=>rfl⟩,ZF.out.congr (fun j _=>by simp),trivial⟩⟩
 case round =>
  rintro a wr ⟨s,ds,u6,u9,u10,u11,u12,u13,u14,u15,u16,u17,u18,u19,u22,u23,u24,u25,u26,u27,u28,u29,u30,u31,u32,u33,u34,u35,u36,u37,u38,u39,u40,u41,u42,u43,u44,u45,u46,u47,u48,u49,u50,u51,u52,u53,u54,u55,u56,u57,u58,u59,u60,u61,u62,u63,u64,u65,u66,u67,u68,u69,hs,rfl,VC⟩
  have hg:=VC.grown
  have VD:=hg.cell P6 (by simp;omega)
  have VE:=hg.cell P8 (by simp;omega)
  have VF:=hg.cell P9 (by simp;omega)
  have VG:=hg.cell Al (by simp;omega)
  have VH:=hg.cell Qa (by simp;omega)
  have DA:=hg.cell VA (by simp)
  have DB:=aa VC
  have ab0:=aa P8
  have ab1:=aa P6
  have ab2:=aa Qa
  have ab3:=aa P9
  have ab4:=aa Al
  have xK:=aa VA
  have HG:=aa hg
  clear P6 P8 P9 Al Qa VA VC hg aac
  by_cases hlt:s<cs.length
  ·have l8:Below wr.heap.size wr (wr.alloc (.cells #[.int .i64 s] 3)):=(b7 _ _).alloc (aj _) _
   have SF:=cell_later l8 VD
   have SG:=cell_later l8 VE
   have SH:=cell_later l8 VF
   have SI:=cell_later l8 VG
   have SJ:=cell_later l8 VH
   have SK:=cell_later l8 DA
   have DC:(wr.alloc (.cells #[.int .i64 s] 3)).cell? ⟨wr.heap.size,0,none⟩=some (.int .i64 s):=by simp
   have K5:=DB.out.alloc (.cells #[.int .i64 s] 3)
   have hsB:w.heap.size+2<=wr.heap.size/\(wr.alloc (.cells #[.int .i64 s] 3)).heap.size=wr.heap.size+1:=⟨by have:=HG.out.size;have:=FK.out;omega,by simp⟩
   have vG:=aa K5
   have cg:=aa hsB
   have Mw:=K5.row.frozen s
   have Mx:=K5.row.cell hlt
   simp only [Nat.lt_irrefl,if_false] at Mx
   clear l8 K5 hsB DB HG
   gi_wp2_with fail
   clear VD VE VF VG VH DA
   generalize Br:(wr.alloc (.cells #[.int .i64 s] 3))=w5 at *
   clear Br
   generalize eG:wr.heap.size=sB at *
   clear eG
   by_cases kG:0<=kl
   obtain ⟨kn,rfl⟩:=o7 kG
   obtain ⟨b,off,rfl,qD⟩:=aad.out kn (by omega)
   have ab5:w5.cell? ⟨b,off+kn,none⟩=some (.int .i64 (gi st kn)):=vG.out.grown.cell (qE.out.cell (p:=⟨b,off+kn,none⟩) (fS _ _ qD) |>.trans qD) (by have:=fS _ _ qD;simp at this ⊢;omega)
   rw [if_pos kG,ei] at HOW
   have i1:(0:Int)<=(kn:Int):=by omega
   have i2:(kn:Int)<(st.length:Int):=by omega
   clear qD
   generalize hx:gi st kn=x at *
   clear hx
   by_cases hx0:0<=x
   by_cases hxs:x=s
   focus
    have hx1:(x != (s:Int))=false:=by simp [hxs]
    have HX:=aa hxs
    clear hxs
    gi_wp2_with fail
    gi_quiet (fail)
    gi_wp2_with fail
    have H6:Hid (eU w1 (w5.drewN nq) w.heap.size cs.length (fun j=>if j<s then gi (aR t st cs i) j else if j=s then fk t st i s else 0) ds):=(vG.out.drewN nq).congr fun j _=>by
     rw [show fk t st i s=0 from by unfold fk;rw [HOW.out,if_neg (fun h=>h.2 HX.out)]]
     by_cases e1:j<s<;>by_cases e2:j=s<;>simp [e1,e2]
    have SL:(w5.drewN nq).cell? ⟨sB,0,none⟩=some (.int .i64 s):=DC
    have SM:Hid ((w5.drewN nq).heap.size=sB+1):=cg.out.2
    clear SF SG SH SI SJ SK DC Mw Mx vG
    generalize w5.drewN nq=w6 at *

   rotate_left
   focus
    have hx1:(x != (s:Int))=true:=by simpa using hxs
    have HX:=aa hxs
    clear hxs
    gi_wp2_with fail
    gi_quiet (fail)
    gi_wp2_with fail
    have h6f:(w5.drewN nq).frozen? ⟨w.heap.size,s,none⟩=false:=Mw
    have H6:Hid (eU w1 ((w5.drewN nq).setCell ⟨w.heap.size,s,none⟩ (.int .i64 (-1))) w.heap.size cs.length (fun j=>if j<s then gi (aR t st cs i) j else if j=s then fk t st i s else 0) ds):=((vG.out.drewN nq).set (by have:=FK.out;omega) s (-1)).congr fun j _=>by
     rw [show fk t st i s = -1 from by unfold fk;rw [HOW.out,if_pos ⟨hx0,HX.out⟩]]
     by_cases e1:j=s
     ·subst e1;simp
     ·simp [e1]
    have SL:((w5.drewN nq).setCell ⟨w.heap.size,s,none⟩ (.int .i64 (-1))).cell? ⟨sB,0,none⟩=some (.int .i64 s):=by
     rw [World.cell?_setCell_other _ _ _ _ (by intro e;injection e with e;have:=cg.out;omega)];exact DC
    have SM:Hid (((w5.drewN nq).setCell ⟨w.heap.size,s,none⟩ (.int .i64 (-1))).heap.size=sB+1):=by unfold Hid;rw [gX];exact cg.out.2
    clear SF SG SH SI SJ SK DC Mw Mx vG h6f
    generalize (w5.drewN nq).setCell ⟨w.heap.size,s,none⟩ (.int .i64 (-1))=w6 at *

   rotate_left
   focus
    have hx1:decide (0<=x)=false:=by simpa using hx0
    gi_wp2_with fail
    gi_quiet (fail)
    gi_wp2_with fail
    have H6:Hid (eU w1 (w5.drewN nq) w.heap.size cs.length (fun j=>if j<s then gi (aR t st cs i) j else if j=s then fk t st i s else 0) ds):=(vG.out.drewN nq).congr fun j _=>by
     rw [show fk t st i s=0 from by unfold fk;rw [HOW.out,if_neg (fun h=>by omega)]]
     by_cases e1:j<s<;>by_cases e2:j=s<;>simp [e1,e2]
    have SL:(w5.drewN nq).cell? ⟨sB,0,none⟩=some (.int .i64 s):=DC
    have SM:Hid ((w5.drewN nq).heap.size=sB+1):=cg.out.2
    clear SF SG SH SI SJ SK DC Mw Mx vG
    generalize w5.drewN nq=w6 at *

   rotate_left
   focus
    rw [if_neg kG] at HOW
    have hx1:decide (0<=kl)=false:=by simpa using kG
    gi_wp2_with fail
    gi_quiet (fail)
    gi_wp2_with fail
    have H6:Hid (eU w1 (w5.drewN nq) w.heap.size cs.length (fun j=>if j<s then gi (aR t st cs i) j else if j=s then fk t st i s else 0) ds):=(vG.out.drewN nq).congr fun j _=>by
     rw [show fk t st i s=0 from by unfold fk;rw [HOW.out,if_neg (fun h=>by omega)]]
     by_cases e1:j<s<;>by_cases e2:j=s<;>simp [e1,e2]
    have SL:(w5.drewN nq).cell? ⟨sB,0,none⟩=some (.int .i64 s):=DC
    have SM:Hid ((w5.drewN nq).heap.size=sB+1):=cg.out.2
    clear SF SG SH SI SJ SK DC Mw Mx vG
    generalize w5.drewN nq=w6 at *

   rotate_left
   all_goals
    refine ⟨trivial,(callsIn_wide.2 (Vw w6 _ P N rfl i)).mono ?_⟩
    rintro e w7 ⟨rfl,rfl⟩
    gi_wp2_with fail
    have My:Below w6.heap.size w6 ((w6.alloc (.cells #[P,N] 33)).alloc (.cells #[.int .i64 i] 3)):=((b7 _ _).alloc (aj _) _).alloc (by simp) _
    have h7s:=cell_later My SL
    have h7n:((w6.alloc (.cells #[P,N] 33)).alloc (.cells #[.int .i64 i] 3)).cell? ⟨w6.heap.size+1,0,none⟩=some (.int .i64 i):=by simp
    have h7p:((w6.alloc (.cells #[P,N] 33)).alloc (.cells #[.int .i64 i] 3)).cell? ⟨w6.heap.size,0,none⟩=some P:=by simp
    have h7z:((w6.alloc (.cells #[P,N] 33)).alloc (.cells #[.int .i64 i] 3)).heap.size=w6.heap.size+2:=by simp
    have Qc:=(H6.out.alloc (.cells #[P,N] 33)).alloc (.cells #[.int .i64 i] 3)
    have h6e:w6.heap.size=sB+1:=SM.out
    generalize ((w6.alloc (.cells #[P,N] 33)).alloc (.cells #[.int .i64 i] 3))=w7 at *
    generalize w6.heap.size=z6 at *
    have hz1:=FK.out
    have ab6:=cg.out.1
    have hold:∀W,w7.grownBy W (some w.heap.size)->∀b,b<w.heap.size->W.heap[b]? = w.heap[b]?:=fun W hg b hb =>
     ((hg.block b (by omega) (by simp;omega)).trans (Qc.grown.block b (by omega) (by simp;omega))).trans (qE.out.block b hb)
    have Mz:w7.grownBy w7 (some w.heap.size):=⟨rfl,rfl,rfl,aj _,fun _ _ _=>rfl⟩
    have MA:af (fun b=>b≠w.heap.size/\b<w7.heap.size) w7 P t.ps:=((VB.out.sub (T:=fun b=>b<w.heap.size) fun b _ hb=>hb).keep fun b hb _=>hold w7 Mz b hb).sub fun b hb _=>⟨by omega,by omega⟩
    have Af:∀c,c<t.ps.length -> -1<=kX t st cs s c/\kX t st cs s c<=101000:=fun c hc=>Fc (A:=100000) (by omega) (fun k=>rE.out s k) (fun k=>(rI.out c k hc).2) _
    have VI:=aa Af
    have HOLD:=aa hold
    have FM:=aa Qc
    have H7S:=aa h7s
    have HZ7:=aa h7z
    have HZ1:=aa hz1
    have aae:w.heap.size<w7.heap.size:=by omega
    apply wpIn_rangeFunc_ownF (F:=Fence.wide) (n:=9) (P:=Tryz.prog) (ps:=#[47]) (w:=w7) rfl (by omega) (gf:=147) (lb:=#[.pointer (some ⟨z6+1,0,none⟩),.pointer (some ⟨z6,0,none⟩)]) rfl trivial (enters_of Tryz.func147 (by kernel_rfl) rfl)
     (KW 8 (by omega) (z6+1) z6 (fun b=>b≠w.heap.size/\b<w7.heap.size) t.ps i P w7 (fun b hb=>hb.2) h7n h7p MA ⟨by omega,by omega⟩ ⟨by omega,by omega⟩ hi (by omega))
     (fun h k=>KS.trans h k) (fun W l o o' hl _ _ _=>fun b (hb:b≠w.heap.size/\b<w7.heap.size)=>eA (by have:=hb.2;omega)) (b7 _ _) (fun _=>(rfl:(1:Nat)=1))
     (fun pre W=>W.rowIs w.heap.size 3 cs.length (fun j=>.int .i64 (if j<s then gi (aR t st cs i) j else if j=s then fk t st i s+((vals pre).map (kX t st cs s)).sum else 0))/\w7.grownBy W (some w.heap.size))
     (fun _ _ _=>False) (Ud aae) (fun _ _ _ _ _ h _ _=>h)
     ⟨Qc.row.congr fun j _=>by simp [vals],Mz⟩
    ·intro l x W K hK
     gi_wp2
     exact hK
    ·rintro l pre x W ⟨hrow,DD⟩ hlen
     have hkeep:=HOLD.out W DD
     have bC:W.cell? ⟨pC,0,none⟩=some (.slice qC cs.length jU):=(cW (hkeep pC lC)).trans Vy
     have bO:W.cell? ⟨pO,0,none⟩=some (.slice (some ⟨ob,0,none⟩) t.ps.length t.ps.length):=(cW (hkeep pO lO)).trans HW.out.cO
     have bs:W.cell? ⟨sB,0,none⟩=some (.int .i64 s):=DD.cell H7S.out (by simp;omega)
     have bR:W.cell? ⟨w.heap.size+1,0,none⟩=some (.slice (some ⟨w.heap.size,0,none⟩) cs.length cs.length):=DD.cell (FM.out.grown.cell xK.out (by simp)) (by simp)
     obtain ⟨hx1,hx2,_⟩:=gP.1 x.2
     have bV:W.cell? ⟨ob,x.1,none⟩=some (V x.1):=(cW (hkeep ob HW.out.row.lt)).trans (HW.out.row.cell hx1)
     have VJ:=HW.out.rows x.1 hx2 hx1
     have hVW:af (fun b=>b<w.heap.size) W (V x.1) (aR t st cs x.1):=(VJ.sub (T:=fun b=>b<w.heap.size) fun b _ hb=>hb).keep fun b hb _=>hkeep b hb
     have hCW:aS (fun b=>b<w.heap.size) W (.slice qC cs.length jU) cs:=(FL.out.sub (T:=fun b=>b<w.heap.size) fun b _ hb=>hb).keep fun b hb _=>hkeep b hb
     have Bu:=fun k=>Vt _ _ (W.drewN k) _ _ cs (aR t st cs x.1) s (hCW.keep (Bj _ _ _)) (hVW.keep (Bj _ _ _)) hlt (by rw [gJ,nW.out s hlt];exact aj _) (by rw [gJ];omega) (rE.out s) (fun k=>by have:=(rI.out x.1 k hx1).2;omega)
     obtain ⟨qv,cv,ev,_,_⟩:=aB.open VJ
     rw [ev] at bV Bu
     unfold xE at Bu
     have ha:=VI.out x.1 hx1
     have hak:(bw (gi (gl cs s)) (gi (aR t st cs x.1)) (aR t st cs x.1).length).1=kX t st cs s x.1:=rfl
     rw [hak] at Bu
     have hrs:=hrow.cell hlt
     have hrf:=hrow.frozen s
     simp only [Nat.lt_irrefl,if_false,if_true] at hrs
     have wL:fk t st i s=0\/fk t st i s = -1:=by unfold fk;split<;>simp
     have hsm:-64<=((vals pre).map (kX t st cs s)).sum/\((vals pre).map (kX t st cs s)).sum<=101000*64:=by
      have h0:=P5 (A:=101000) (B:=64) (f:=kX t st cs s) (by omega) (by omega) pre (fun c=>VI.out c.1 (gP.1 c.2).1) (by omega)
      constructor<;>omega
     have ZG:=aa Bu
     have K6:=aa hrow
     have HG7:=aa DD
     have aaf:-1<=fk t st i s/\fk t st i s<=0:=by omega
     have i1:(0:Int)<=(x.1:Int):=by omega
     have i2:(x.1:Int)<(t.ps.length:Int):=by omega
     obtain ⟨ha1,ha2⟩:=ha
     obtain ⟨ab7,ab8⟩:=hsm
     obtain ⟨hb1,hb2⟩:=aaf
     have HPX:Hid (((vals (pre++[x])).map (kX t st cs s)).sum=((vals pre).map (kX t st cs s)).sum+kX t st cs s x.1):=by unfold Hid;rw [xF];simp
     clear Bu hrow DD hkeep hVW hCW VJ hak wL HW rI rE nW HOLD FM H7S MA
     generalize ((vals pre).map (kX t st cs s)).sum=sm at *
     generalize kX t st cs s x.1=ad at *
     generalize fk t st i s=bt at *
     generalize (bw (gi (gl cs s)) (gi (aR t st cs x.1)) (aR t st cs x.1).length).2=ow at *
     gi_wp2
     have ab9:Fence.wide.fn 124:=trivial
     have abE:(Fence.wide.inRound l).fn 124:=trivial
     refine Cw (l₀:=l) rfl (by kernel_rfl) (by kernel_rfl) (by kernel_rfl) ?_
     repeat (gi_big_quiet_step (fail))
     gi_big_quiet_want
     gi_big_quiet_op
     refine ⟨_,fun k=>CallsIn.inRound l (callsIn_wide.2 (K4 (ZG.out k))),?_⟩
     go_big_quiet_on
     repeat (gi_big_quiet_step (fail))
     refine wpQuietIn_nil ?_
     intro _ hw'
     obtain ⟨nq,hw''⟩:=hw'
     subst hw''
     gi_wp2
     refine ⟨?_,?_,?_,?_⟩
     ·exact ⟨(KeepsOthers.setCell (W.drewN nq) _ _).size,(KeepsOthers.setCell (W.drewN nq) _ _).same⟩
     ·exact fun b hb=>Ad (W.drewN nq) _ _ b hb.1
     ·exact ((show (W.drewN nq).rowIs w.heap.size 3 cs.length _ from K6.out).set s _).congr fun j _=>by
       by_cases e:j=s
       ·subst e;simp [HPX.out];omega
       ·simp [e]
     ·exact FH HG7.out ⟨rfl,rfl,rfl,by rw [gX];exact aj _,fun k _ hne=>Ad (W.drewN nq) _ _ k (fun e=>hne (by rw [e]))⟩
    ·rintro D xs W hD hS ⟨hrow,DD⟩ hK
     have hT:fk t st i s+((vals xs).map (kX t st cs s)).sum=gi (aR t st cs i) s:=by rw [hS,fU _ _ _ _ hlt,T5 _ _ _ hi]
     have VK:=(FM.out.later DD hrow (by omega)).congr (g:=fun j=>if j<s+1 then gi (aR t st cs i) j else 0) (fun j _=>by
      by_cases e1:j<s
      ·simp [e1,Nat.lt_succ_of_lt e1]
      ·by_cases e2:j=s
       ·subst e2;simp [hT]
       ·have e3:¬j<s+1:=by omega
        simp [e1,e2,e3])
     have hMK:Marks w1.heap.size W ({ target:=.collected D,args:=#[] }::ds):=⟨⟨D,rfl,by have:=FM.out.grown.size;omega,hK,fun d' hd' e=>by
      obtain ⟨r,hr,hr2⟩:=FM.out.marks.lt d' hd'
      rw [hr] at e;injection e with e;omega⟩,VK.marks⟩
     have HRN:=aa VK
     have VL:=aa hMK
     clear hT VK hMK hrow DD hK MA
     gi_wp2_with fail
     refine ⟨⟨s+1,_,_,_,_,_,_,_,_,_,_,_,_,_,_,_,_,_,_,_,_,_,_,_,_,_,_,_,_,_,_,_,_,_,_,_,_,_,_,_,_,_,_,_,_,_,_,_,_,_,_,_,_,_,_,_,_,_,_,_,_,_,by omega,rfl,⟨HRN.out.grown,HRN.out.row,VL.out⟩⟩,?_⟩
     simp [intOf];omega
    ·rintro D c pre W _ _ h _
     exact h.elim
  ·obtain rfl:s=cs.length:=by omega
   clear hlt
   have SN:=HW.out.row.lt
   have hkeep:∀b,b<w.heap.size->wr.heap[b]? = w.heap[b]?:=fun b hb=>(HG.out.block b (by have:=FK.out;omega) (by simp;omega)).trans (qE.out.block b hb)
   have hro:=HW.out.row.of_block (hkeep ob SN)
   have hx1:=hro.cell hi
   have hx2:=hro.frozen i
   have hle1:w.heap.size+2<=w1.heap.size:=by have:=FK.out;omega
   have Bw:=aa hkeep
   have DF:=aa hro
   clear hkeep hro
   have VM:=DB
   gi_wp2_with fail
   refine xH (v:=.tuple #[]) (n₀:=w1.heap.size) (fun _=>results_none rfl _ _ _) (VM.out.marks.keep fun r _ hr2=>Ad _ _ _ r (by simp only;omega)) fun w' hb hs' hc=>⟨rfl,?_,.slice (some ⟨w.heap.size,0,none⟩) cs.length cs.length,?_,?_⟩
   ·refine ⟨hb.os.trans (HG.out.os.trans qE.out.os),hb.tape.trans (HG.out.tape.trans qE.out.tape),hb.output.trans (HG.out.output.trans qE.out.output),?_,fun k hk hne=>?_⟩
    ·have h1:=hb.size;rw [gX] at h1;have h2:=HG.out.size;omega
    ·exact ((hb.block k (by omega)).trans (Ad _ _ _ k (fun e=>hne (by rw [e])))).trans (Bw.out k hk)
   ·exact ((DF.out.set i _).of_block (hb.block ob (by omega)))
   ·have hrow2:=(VM.out.row.setOther (a:=⟨ob,i,none⟩) (by simp only;omega) (.slice (some ⟨w.heap.size,0,none⟩) cs.length cs.length)).of_block (hb.block w.heap.size (by omega))
    refine ⟨some ⟨w.heap.size,0,none⟩,cs.length,by rw [gJ],by rw [gJ];exact aj _,.inr ⟨w.heap.size,0,rfl,by omega,fun k hk=>?_⟩⟩
    rw [gJ] at hk
    have h1:=hrow2.cell hk
    simp only [hk,if_true] at h1
    rw [jQ];exact h1
end Go.Proofs.YtfomhlbhcifgbaaGreatDoor
