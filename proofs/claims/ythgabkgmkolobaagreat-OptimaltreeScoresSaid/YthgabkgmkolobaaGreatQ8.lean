/- The contract of the closure that fills a row of the table. -/
import Derived.Test.YthgabkgmkolobaaGreatQ7
set_option maxRecDepth 100000
namespace Go.Proofs.YthgabkgmkolobaaGreat
open Go.RowKit Go.Shelf Go.Deep
attribute [local go_sem] Oper.semAt_some
set_option maxHeartbeats 400000 in
theorem G6 (S:Nat→Prop) (w:World) (v:Value) (xs:List Int) (x:Int) (h:aj S w v xs) (hn:xs.length≤1000000) :
  Calls Tryz.prog 62 #[v,.int .i64 x] w fun e w'=>e=.returned (.int .i64 (b5 (fun j=>decide (x=gi xs j)) xs.length))∧w=w':=by
 obtain ⟨p,cap,rfl,hcap,H⟩:=aC.open h;clear h
 go_enter Tryz.func62,Tryz.ntmps62
 go_wp2_with fail
 go_loop [5,8] (fun _ i=>∃k:Nat,k≤xs.length∧i=.int .i64 k∧Hid (∀j,j<k→decide (x=gi xs j)=false)) (fun _ i=>xs.length - (intOf i).toNat)
 case atStart=>exact ⟨0,Nat.zero_le _,rfl,fun j hj=>absurd hj (Nat.not_lt_zero _)⟩
 case round =>
  obtain ⟨k,hk,rfl,hd⟩:=hrel;by_cases hlt:k<xs.length
  ·obtain ⟨b,off,rfl,hc⟩:=H k hlt
   clear H;generalize hy:gi xs k=y at *;have HY:=aa hy;clear hy;by_cases hxy:x=y
   ·have hx1:(x==y)=true:=by simp [hxy]
    have qH:=aa hxy;clear hxy;go_wp2_with fail;go_ret;exact ⟨aH (kK (p:=fun j=>decide (x=gi xs j)) hlt hd.out (by rw [HY.out];simpa using qH.out)).symm,rfl⟩
   ·have hx1:(x==y)=false:=by simpa using hxy
    have qH:=aa hxy;clear hxy;go_wp2_with fail
    go_round
    case rel=>exact ⟨k+1,by omega,by go_num,fun j hj=>if e:j=k then by subst e;rw [HY.out];simpa using qH.out else hd.out j (by omega)⟩
    case measure=>simp [intOf];omega
  ·clear H
   go_wp2_with fail;go_ret;exact ⟨aH (iR fun j hj=>hd.out j (by omega)).symm,rfl⟩
structure xV (w:World) (t:aD) (st:List Int) (cs:List (List Int)) (pC pL pS pT pO ob:Nat) (V:Nat→Value) (k:Nat):Prop where
 cC:∃C,w.cell? ⟨pC,0,none⟩=some C∧aQ (· ≠ ob) w C cs
 cL:∃L,w.cell? ⟨pL,0,none⟩=some L∧aj (· ≠ ob) w L (aq t.ns)
 cS:∃L,w.cell? ⟨pS,0,none⟩=some L∧aj (· ≠ ob) w L st
 cT:∃P N,w.cell? ⟨pT,0,none⟩=some P∧w.cell? ⟨pT,1,none⟩=some N∧aj (· ≠ ob) w P t.ps
 cO:w.cell? ⟨pO,0,none⟩=some (.slice (some ⟨ob,0,none⟩) t.ps.length t.ps.length)
 row:w.rowIs ob 26 t.ps.length V
 rows:∀j,k≤j→j<t.ps.length→aj (· ≠ ob) w (V j) (aN t st cs j)
 ne:pC≠ob∧pL≠ob∧pS≠ob∧pT≠ob∧pO≠ob
def Oo (w:World) (t:aD) (st:List Int) (cs:List (List Int)) (ob:Nat) (V:Nat→Value) (i:Nat) (e:Ending) (w':World):Prop :=
 e=.returned (.tuple #[])∧w.grownBy w' (some ob)∧∃v,w'.rowIs ob 26 t.ps.length (fun j=>if j=i then v else V j)∧aj (· ≠ ob) w' v (aN t st cs i)
structure eE (w1 wr:World) (R0 m:Nat) (f:Nat→Int) (ds:List Deferred):Prop where
 grown:w1.grownBy wr (some R0)
 row:wr.rowIs R0 3 m (fun j=>.int .i64 (f j))
 marks:Marks w1.heap.size wr ds
theorem Marks.drewN {n₀:Nat} {w:World} {ds:List Deferred} (h:Marks n₀ w ds) (k:Nat):Marks n₀ (w.drewN k) ds:=Marks.keep (w:=w) (w':=w.drewN k) (fun _ _ _=>rfl) h
theorem eE.drewN {w1 wr:World} {R0 m:Nat} {f:Nat→Int} {ds:List Deferred} (h:eE w1 wr R0 m f ds) (k:Nat):eE w1 (wr.drewN k) R0 m f ds :=
 ⟨⟨h.grown.os,h.grown.tape,h.grown.output,h.grown.size,h.grown.block⟩,h.row,h.marks.drewN k⟩
theorem eE.congr {w1 wr:World} {R0 m:Nat} {f g:Nat→Int} {ds:List Deferred} (h:eE w1 wr R0 m f ds) (e:∀j,j<m→f j=g j):eE w1 wr R0 m g ds :=
 ⟨h.grown,h.row.congr fun j hj=>by rw [e j hj],h.marks⟩
theorem eE.set {w1 wr:World} {R0 m:Nat} {f:Nat→Int} {ds:List Deferred} (h:eE w1 wr R0 m f ds) (hR:R0<w1.heap.size) (s:Nat) (x:Int) :
  eE w1 (wr.setCell ⟨R0,s,none⟩ (.int .i64 x)) R0 m (fun j=>if j=s then x else f j) ds :=
 ⟨⟨h.grown.os,h.grown.tape,h.grown.output,by rw [World.size_setCell];exact h.grown.size,fun k hk hne=>(Below.heap_setCell _ _ _ k (fun e=>hne (by rw [e]))).trans (h.grown.block k hk hne)⟩,
  (h.row.set s _).congr (fun j _=>by by_cases e:j=s<;>simp [e]),h.marks.keep fun r _ hr2=>Below.heap_setCell _ _ _ r (by simp only;omega)⟩
theorem eE.alloc {w1 wr:World} {R0 m:Nat} {f:Nat→Int} {ds:List Deferred} (h:eE w1 wr R0 m f ds) (o:Obj):eE w1 (wr.alloc o) R0 m f ds :=
 ⟨⟨h.grown.os,h.grown.tape,h.grown.output,by simp;have:=h.grown.size;omega,fun k hk hne=>(Below.heap_alloc _ _ k (Nat.lt_of_lt_of_le hk h.grown.size)).trans (h.grown.block k hk hne)⟩,
  h.row.alloc o,h.marks.keep fun r hr _=>Below.heap_alloc _ _ r (by
   rcases Nat.lt_or_ge r wr.heap.size with h | h
   ·exact h
   ·rw [Array.getElem?_eq_none h] at hr;cases hr)⟩
theorem JN {P:Program} {f:FuncId} {args:Array Value} {w:World} {n:Nat} {v:Value} (h:Calls P f args (w.drewN n) fun e w'=>e=.returned v∧w.drewN n=w') :
  Calls P f args (w.drewN n) fun e w''=>e=.returned v∧∃m,w''=w.drewN m:=h.mono fun _ _ ⟨he,hm⟩=>⟨he,n,hm.symm⟩
theorem pX (S:Nat→Prop) (w:World) (n:Nat):Kept S w (w.drewN n):=fun _ _ _=>rfl
theorem Ep {a b c:World} {R:Nat} (h:a.grownBy b (some R)) (k:b.grownBy c (some R)):a.grownBy c (some R) :=
 ⟨k.os.trans h.os,k.tape.trans h.tape,k.output.trans h.output,Nat.le_trans h.size k.size,fun i hi hne=>(k.block i (Nat.lt_of_lt_of_le hi h.size) hne).trans (h.block i hi hne)⟩
theorem eE.later {w1 w7 W:World} {R0 m:Nat} {f g:Nat→Int} {ds:List Deferred} (h:eE w1 w7 R0 m f ds) (hg:w7.grownBy W (some R0)) (hr:W.rowIs R0 3 m (fun j=>.int .i64 (g j))) (hR:R0<w1.heap.size):eE w1 W R0 m g ds :=
 ⟨Ep h.grown hg,hr,h.marks.keep fun r hr hr2=>hg.block r (by
   rcases Nat.lt_or_ge r w7.heap.size with h | h
   ·exact h
   ·rw [Array.getElem?_eq_none h] at hr;cases hr) (by simp;omega)⟩
theorem Sr {w7:World} {R0 m:Nat} {β:Type} {f:β→Nat→Int} (hR:R0<w7.heap.size) :
  OwnFrom w7.heap.size (fun (pre:β) W=>W.rowIs R0 3 m (fun j=>.int .i64 (f pre j))∧w7.grownBy W (some R0)):=by
 rintro pre W W' row ⟨h1,h2⟩ hg hr;refine ⟨h1.of_block (hg.block _ h1.lt (fun e=>by have:=(hr _ e.symm).1;omega)),hg.os.trans h2.os,hg.tape.trans h2.tape,hg.output.trans h2.output,Nat.le_trans h2.size hg.size,fun k hk hne=>?_⟩;exact (hg.block k (Nat.lt_of_lt_of_le hk h2.size) (fun e=>by have:=(hr _ e.symm).1;omega)).trans (h2.block k hk hne)
theorem Oq {ps:List Int} {i:Nat} {f:Nat→Int} {A:Int} {B:Nat} (hA:0≤A) (hB:0≤(B:Int)):∀(l:List (Cc ps i)),(∀c:Cc ps i,-1≤f c.1∧f c.1≤A)→l.length≤B → -(B:Int)≤((vals l).map f).sum∧((vals l).map f).sum≤A*B:=by
 intro l h
 induction l generalizing B with
 | nil=>intro _;simp [vals];exact Int.mul_nonneg hA hB
 | cons c l ih =>
  intro hl;simp only [List.length_cons] at hl;obtain ⟨B',rfl⟩:∃B',B=B'+1:=⟨B - 1,by omega⟩;have:=ih (B:=B') (by omega) (by omega);have hc:=h c;have e:A*((B'+1:Nat):Int)=A*B'+A:=by rw [Int.natCast_add,Int.mul_add];simp
  rw [e];simp only [vals,List.map_cons,List.sum_cons] at this ⊢;constructor<;>omega
set_option maxHeartbeats 2000000 in
theorem TT (w:World) (t:aD) (st:List Int) (cs:List (List Int)) (pC pL pS pT pO ob:Nat) (V:Nat→Value) (i:Nat) (hi:i<t.ps.length) (hW:xV w t st cs pC pL pS pT pO ob V (i+1))
  (hn:t.ps.length≤64) (hm:cs.length≤16) (hm0:0<cs.length) (kS:(aq t.ns).length≤st.length) (hrl:∀a,a<cs.length→(gl cs a).length=cs.length) (hcb:∀a k,0≤gi (gl cs a) k∧gi (gl cs a) k≤1000)
  (htb:∀j s,j<t.ps.length → -1≤gi (aN t st cs j) s∧gi (aN t st cs j) s≤100000) (pF:(aq t.ns).length≤64) :
  Calls Tryz.prog 230 #[.int .i64 i,.pointer (some ⟨pC,0,none⟩),.pointer (some ⟨pL,0,none⟩),.pointer (some ⟨pS,0,none⟩),.pointer (some ⟨pT,0,none⟩),.pointer (some ⟨pO,0,none⟩)] w (Oo w t st cs ob V i):=by
 obtain ⟨C,TU,hC⟩:=hW.cC
 obtain ⟨L,Er,hL⟩:=hW.cL
 obtain ⟨St,TV,hS⟩:=hW.cS
 obtain ⟨P,N,mF,pG,hP⟩:=hW.cT
 have QX:=hW.cO
 obtain ⟨fC,y9,zZ⟩:=hC
 obtain ⟨qC,fT,rfl,DT,Lm⟩:=aC.open y9
 obtain ⟨qL,capL,rfl,hcapL,dm⟩:=aC.open hL
 obtain ⟨qS,gX,rfl,QY,nu⟩:=aC.open hS
 have hb1:Below w.heap.size w ((w.alloc (.cells (madeCells #[.int .i64 0] cs.length) 3)).alloc (.cells #[.slice (some ⟨w.heap.size,0,none⟩) cs.length cs.length] 26)):=((Below.refl _ w).alloc (Nat.le_refl _) _).alloc (by simp) _
 have QZ:=aC.keep hL (Kept.below hb1)
 have Iy:=G6 (· ≠ ob) _ _ _ (i:Int) QZ (by omega)
 have s5:=aa Iy
 have lC:=World.block_lt_of_cell? _ _ TU
 have lL:=World.block_lt_of_cell? _ _ Er
 have lS:=World.block_lt_of_cell? _ _ TV
 have lP:=World.block_lt_of_cell? _ _ mF
 have lO:=World.block_lt_of_cell? _ _ QX
 simp only at lC lL lS lP lO
 have Ot:=cell_later hb1 TU
 have hcL1:=cell_later hb1 Er
 have Ou:=cell_later hb1 TV
 have Ov:=cell_later hb1 mF
 have qI:=cell_later hb1 pG
 have Ow:=cell_later hb1 QX
 have Q4:=(World.rowIs_made w (.int .i64 0) cs.length 3).alloc (.cells #[.slice (some ⟨w.heap.size,0,none⟩) cs.length cs.length] 26)
 have TW:((w.alloc (.cells (madeCells #[.int .i64 0] cs.length) 3)).alloc (.cells #[.slice (some ⟨w.heap.size,0,none⟩) cs.length cs.length] 26)).cell? ⟨w.heap.size+1,0,none⟩=some (.slice (some ⟨w.heap.size,0,none⟩) cs.length cs.length):=by simp
 have Ox:((w.alloc (.cells (madeCells #[.int .i64 0] cs.length) 3)).alloc (.cells #[.slice (some ⟨w.heap.size,0,none⟩) cs.length cs.length] 26)).heap.size=w.heap.size+2:=by simp
 have HW:=aa hW
 have wN:=aa htb
 have wH:=aa hcb
 have j9:=aa hrl
 have HSTS:=aa nu
 have cR:=aa hb1
 have Xp:=aa Q4
 have Es:=aa Ox
 have hmk:=fun W=>run_make_row' (P:=Tryz.prog) 26 3 (.int .i64 0) 8 Tryz.underlying26 Tryz.fI rfl .i64 .i64 cs.length (by omega) (by omega) W
 have TX:=aa hP
 have HCI:Hid (aQ (· ≠ ob) w (.slice qC cs.length fT) cs):=⟨fC,y9,zZ⟩
 clear hW htb hcb hrl Lm dm nu y9 zZ hL hS hP hb1 QZ Iy Q4 Ox Er TV mF pG QX
 refine (callsIn_wide (n:=9)).1 ?_
 refine callsIn_of_wp_marks Tryz.func230 rfl trivial ?_
 simp only [Tryz.ntmps230,List.size_toArray,List.length_cons,List.length_nil,Nat.reduceAdd,Nat.reduceSub,Array.replicate_succ,Array.replicate_zero,List.push_toArray,List.append_toArray,List.nil_append,List.cons_append]
 gi_wp2_with fail
 refine ⟨trivial,(callsIn_wide.2 s5.out).mono ?_⟩
 rintro e w' ⟨rfl,rfl⟩
 generalize hw1:((w.alloc (.cells (madeCells #[.int .i64 0] cs.length) 3)).alloc (.cells #[.slice (some ⟨w.heap.size,0,none⟩) cs.length cs.length] 26))=w1 at *
 clear hw1 s5 hmk
 have hle:cH t.ns i=b5 (fun j=>decide ((i:Int)=gi (aq t.ns) j)) (aq t.ns).length:=rfl
 rw [← hle]
 have hlo:=ug (fun j=>decide ((i:Int)=gi (aq t.ns) j)) (aq t.ns).length
 rw [← hle] at hlo
 have how:sD t.ns st i=if 0≤cH t.ns i then gi st (cH t.ns i).toNat else -1:=rfl
 have HOW:=aa how
 generalize hk:cH t.ns i=kl at *
 obtain ⟨hk1,hk2,_⟩:=hlo
 clear hle hk how
 gi_wp2_with fail
 refine wpIn_loop (fun a wr=>∃(s:Nat) (ds:List Deferred) (u6 u9 u10 u11 u12 u13 u14 u15 u16 u17 u18 u19 u22 u23 u24 u25 u26 u27 u28 u29 u30 u31 u32 u33 u34 u35 u36 u37 u38 u39 u40 u41 u42 u43 u44 u45 u46 u47 u48 u49 u50 u51 u52 u53 u54 u55 u56 u57 u58 u59 u60 u61 u62 u63 u64 u65 u66 u67 u68 u69:Value),s≤cs.length∧a={ tmps:=#[.int .i64 i,.pointer (some ⟨pC,0,none⟩),.pointer (some ⟨pL,0,none⟩),.pointer (some ⟨pS,0,none⟩),.pointer (some ⟨pT,0,none⟩),.pointer (some ⟨pO,0,none⟩),u6,.pointer (some ⟨w.heap.size+1,0,none⟩),.int .i64 kl,u9,u10,u11,u12,u13,u14,u15,u16,u17,u18,u19,.int .i64 cs.length,.int .i64 s,u22,u23,u24,u25,u26,u27,u28,u29,u30,u31,u32,u33,u34,u35,u36,u37,u38,u39,u40,u41,u42,u43,u44,u45,u46,u47,u48,u49,u50,u51,u52,u53,u54,u55,u56,u57,u58,u59,u60,u61,u62,u63,u64,u65,u66,u67,u68,u69],defers:=ds }∧eE w1 wr w.heap.size cs.length (fun j=>if j<s then gi (aN t st cs i) j else 0) ds) (fun a _=>cs.length - (intOf (a.tmps.getD 21 undef)).toNat) ?start ?round
 case start =>
  exact ⟨0,[],_,_,_,_,_,_,_,_,_,_,_,_,_,_,_,_,_,_,_,_,_,_,_,_,_,_,_,_,_,_,_,_,_,_,_,_,_,_,_,_,_,_,_,_,_,_,_,_,_,_,_,_,_,_,_,_,_,_,_,_,Nat.zero_le _,rfl,⟨⟨rfl,rfl,rfl,Nat.le_refl _,fun _ _ _=>rfl⟩,Xp.out.congr (fun j _=>by simp),trivial⟩⟩
 case round =>
  rintro a wr ⟨s,ds,u6,u9,u10,u11,u12,u13,u14,u15,u16,u17,u18,u19,u22,u23,u24,u25,u26,u27,u28,u29,u30,u31,u32,u33,u34,u35,u36,u37,u38,u39,u40,u41,u42,u43,u44,u45,u46,u47,u48,u49,u50,u51,u52,u53,u54,u55,u56,u57,u58,u59,u60,u61,u62,u63,u64,u65,u66,u67,u68,u69,hs,rfl,TY⟩
  have hg:=TY.grown
  have TZ:=hg.cell Ot (by simp;omega)
  have T3:=hg.cell Ou (by simp;omega)
  have T4:=hg.cell Ov (by simp;omega)
  have T5:=hg.cell qI (by simp;omega)
  have T6:=hg.cell Ow (by simp;omega)
  have Cf:=hg.cell TW (by simp)
  have Lp:=aa TY
  have HCS1:=aa Ou
  have HCC1:=aa Ot
  have HCO1:=aa Ow
  have HCP1:=aa Ov
  have HCN1:=aa qI
  have z7:=aa TW
  have HG:=aa hg
  clear Ot Ou Ov qI Ow TW TY hg hcL1
  by_cases hlt:s<cs.length
  ·have mG:Below wr.heap.size wr (wr.alloc (.cells #[.int .i64 s] 3)):=(Below.refl _ _).alloc (Nat.le_refl _) _
   have Q5:=cell_later mG TZ
   have Q6:=cell_later mG T3
   have Q7:=cell_later mG T4
   have Q8:=cell_later mG T5
   have Q9:=cell_later mG T6
   have Ra:=cell_later mG Cf
   have Cg:(wr.alloc (.cells #[.int .i64 s] 3)).cell? ⟨wr.heap.size,0,none⟩=some (.int .i64 s):=by simp
   have JO:=Lp.out.alloc (.cells #[.int .i64 s] 3)
   have Yi:w.heap.size+2≤wr.heap.size∧(wr.alloc (.cells #[.int .i64 s] 3)).heap.size=wr.heap.size+1:=⟨by have:=HG.out.size;have:=Es.out;omega,by simp⟩
   have uj:=aa JO
   have bU:=aa Yi
   have Lr:=JO.row.frozen s
   have Ls:=JO.row.cell hlt
   simp only [Nat.lt_irrefl,if_false] at Ls
   clear mG JO Yi Lp HG
   gi_wp2_with fail
   clear TZ T3 T4 T5 T6 Cf
   generalize hw5:(wr.alloc (.cells #[.int .i64 s] 3))=w5 at *
   clear hw5
   generalize nj:wr.heap.size=sB at *
   clear nj
   by_cases fK:0≤kl
   obtain ⟨kn,rfl⟩:=Int.eq_ofNat_of_zero_le fK
   obtain ⟨b,off,rfl,kR⟩:=HSTS.out kn (by omega)
   have hcx2:w5.cell? ⟨b,off+kn,none⟩=some (.int .i64 (gi st kn)):=uj.out.grown.cell (cR.out.cell (p:=⟨b,off+kn,none⟩) (World.block_lt_of_cell? _ _ kR) |>.trans kR) (by have:=World.block_lt_of_cell? _ _ kR;simp at this ⊢;omega)
   rw [if_pos fK,Int.toNat_natCast] at HOW
   have i1:(0:Int)≤(kn:Int):=by omega
   have i2:(kn:Int)<(st.length:Int):=by omega
   clear kR
   generalize hx:gi st kn=x at *
   clear hx
   by_cases hx0:0≤x
   by_cases hxs:x=s
   focus
    have hx1:(x != (s:Int))=false:=by simp [hxs]
    have HX:=aa hxs
    clear hxs
    gi_wp2_with fail
    gi_quiet (fail)
    gi_wp2_with fail
    have H6:Hid (eE w1 (w5.drewN nq) w.heap.size cs.length (fun j=>if j<s then gi (aN t st cs i) j else if j=s then cm t st i s else 0) ds):=(uj.out.drewN nq).congr fun j _=>by
     rw [show cm t st i s=0 from by unfold cm;rw [HOW.out,if_neg (fun h=>h.2 HX.out)]]
     by_cases e1:j<s<;>by_cases e2:j=s<;>simp [e1,e2]
    have Rb:(w5.drewN nq).cell? ⟨sB,0,none⟩=some (.int .i64 s):=Cg
    have Rc:Hid ((w5.drewN nq).heap.size=sB+1):=bU.out.2
    clear Q5 Q6 Q7 Q8 Q9 Ra Cg Lr Ls uj
    generalize w5.drewN nq=w6 at *

   rotate_left
   focus
    have hx1:(x != (s:Int))=true:=by simpa using hxs
    have HX:=aa hxs
    clear hxs
    gi_wp2_with fail
    gi_quiet (fail)
    gi_wp2_with fail
    have h6f:(w5.drewN nq).frozen? ⟨w.heap.size,s,none⟩=false:=Lr
    have H6:Hid (eE w1 ((w5.drewN nq).setCell ⟨w.heap.size,s,none⟩ (.int .i64 (-1))) w.heap.size cs.length (fun j=>if j<s then gi (aN t st cs i) j else if j=s then cm t st i s else 0) ds):=((uj.out.drewN nq).set (by have:=Es.out;omega) s (-1)).congr fun j _=>by
     rw [show cm t st i s = -1 from by unfold cm;rw [HOW.out,if_pos ⟨hx0,HX.out⟩]]
     by_cases e1:j=s
     ·subst e1;simp
     ·simp [e1]
    have Rb:((w5.drewN nq).setCell ⟨w.heap.size,s,none⟩ (.int .i64 (-1))).cell? ⟨sB,0,none⟩=some (.int .i64 s):=by
     rw [World.cell?_setCell_other _ _ _ _ (by intro e;injection e with e;have:=bU.out;omega)];exact Cg
    have Rc:Hid (((w5.drewN nq).setCell ⟨w.heap.size,s,none⟩ (.int .i64 (-1))).heap.size=sB+1):=by unfold Hid;rw [World.size_setCell];exact bU.out.2
    clear Q5 Q6 Q7 Q8 Q9 Ra Cg Lr Ls uj h6f
    generalize (w5.drewN nq).setCell ⟨w.heap.size,s,none⟩ (.int .i64 (-1))=w6 at *

   rotate_left
   focus
    have hx1:decide (0≤x)=false:=by simpa using hx0
    gi_wp2_with fail
    gi_quiet (fail)
    gi_wp2_with fail
    have H6:Hid (eE w1 (w5.drewN nq) w.heap.size cs.length (fun j=>if j<s then gi (aN t st cs i) j else if j=s then cm t st i s else 0) ds):=(uj.out.drewN nq).congr fun j _=>by
     rw [show cm t st i s=0 from by unfold cm;rw [HOW.out,if_neg (fun h=>by omega)]]
     by_cases e1:j<s<;>by_cases e2:j=s<;>simp [e1,e2]
    have Rb:(w5.drewN nq).cell? ⟨sB,0,none⟩=some (.int .i64 s):=Cg
    have Rc:Hid ((w5.drewN nq).heap.size=sB+1):=bU.out.2
    clear Q5 Q6 Q7 Q8 Q9 Ra Cg Lr Ls uj
    generalize w5.drewN nq=w6 at *

   rotate_left
   focus
    rw [if_neg fK] at HOW
    have hx1:decide (0≤kl)=false:=by simpa using fK
    gi_wp2_with fail
    gi_quiet (fail)
    gi_wp2_with fail
    have H6:Hid (eE w1 (w5.drewN nq) w.heap.size cs.length (fun j=>if j<s then gi (aN t st cs i) j else if j=s then cm t st i s else 0) ds):=(uj.out.drewN nq).congr fun j _=>by
     rw [show cm t st i s=0 from by unfold cm;rw [HOW.out,if_neg (fun h=>by omega)]]
     by_cases e1:j<s<;>by_cases e2:j=s<;>simp [e1,e2]
    have Rb:(w5.drewN nq).cell? ⟨sB,0,none⟩=some (.int .i64 s):=Cg
    have Rc:Hid ((w5.drewN nq).heap.size=sB+1):=bU.out.2
    clear Q5 Q6 Q7 Q8 Q9 Ra Cg Lr Ls uj
    generalize w5.drewN nq=w6 at *

   rotate_left
   all_goals
    refine ⟨trivial,(callsIn_wide.2 (TS w6 _ P N rfl i)).mono ?_⟩
    rintro e w7 ⟨rfl,rfl⟩
    gi_wp2_with fail
    have Lt:Below w6.heap.size w6 ((w6.alloc (.cells #[P,N] 39)).alloc (.cells #[.int .i64 i] 3)):=((Below.refl _ _).alloc (Nat.le_refl _) _).alloc (by simp) _
    have h7s:=cell_later Lt Rb
    have h7n:((w6.alloc (.cells #[P,N] 39)).alloc (.cells #[.int .i64 i] 3)).cell? ⟨w6.heap.size+1,0,none⟩=some (.int .i64 i):=by simp
    have h7p:((w6.alloc (.cells #[P,N] 39)).alloc (.cells #[.int .i64 i] 3)).cell? ⟨w6.heap.size,0,none⟩=some P:=by simp
    have h7z:((w6.alloc (.cells #[P,N] 39)).alloc (.cells #[.int .i64 i] 3)).heap.size=w6.heap.size+2:=by simp
    have Oy:=(H6.out.alloc (.cells #[P,N] 39)).alloc (.cells #[.int .i64 i] 3)
    have h6e:w6.heap.size=sB+1:=Rc.out
    generalize ((w6.alloc (.cells #[P,N] 39)).alloc (.cells #[.int .i64 i] 3))=w7 at *
    generalize w6.heap.size=z6 at *
    have hz1:=Es.out
    have hsb1:=bU.out.1
    have hold:∀W,w7.grownBy W (some w.heap.size)→∀b,b<w.heap.size→W.heap[b]? = w.heap[b]?:=fun W hg b hb =>
     ((hg.block b (by omega) (by simp;omega)).trans (Oy.grown.block b (by omega) (by simp;omega))).trans (cR.out.block b hb)
    have Lu:w7.grownBy w7 (some w.heap.size):=⟨rfl,rfl,rfl,Nat.le_refl _,fun _ _ _=>rfl⟩
    have z8:aj (fun b=>b≠w.heap.size∧b<w7.heap.size) w7 P t.ps:=((TX.out.sub (T:=fun b=>b<w.heap.size) fun b _ hb=>hb).keep fun b hb _=>hold w7 Lu b hb).sub fun b hb _=>⟨by omega,by omega⟩
    have Bi:∀c,c<t.ps.length → -1≤eH t st cs s c∧eH t st cs s c≤101000:=fun c hc=>D4 (A:=100000) (by omega) (fun k=>wH.out s k) (fun k=>(wN.out c k hc).2) _
    have T7:=aa Bi
    have HOLD:=aa hold
    have Et:=aa Oy
    have Yj:=aa h7s
    have HZ7:=aa h7z
    have T8:=aa hz1
    have h7zz:w.heap.size<w7.heap.size:=by omega
    apply wpIn_rangeFunc_ownF (F:=Fence.wide) (n:=9) (P:=Tryz.prog) (ps:=#[47]) (w:=w7) rfl (by omega) (gf:=268) (lb:=#[.pointer (some ⟨z6+1,0,none⟩),.pointer (some ⟨z6,0,none⟩)]) rfl trivial (enters_of Tryz.func268 (by kernel_rfl) rfl)
     (JG 8 (by omega) (z6+1) z6 (fun b=>b≠w.heap.size∧b<w7.heap.size) t.ps i P w7 (fun b hb=>hb.2) h7n h7p z8 ⟨by omega,by omega⟩ ⟨by omega,by omega⟩ hi (by omega))
     (fun h k=>KS.trans h k) (fun W l o o' hl _ _ _=>fun b (hb:b≠w.heap.size∧b<w7.heap.size)=>World.putObj_heap_other (by have:=hb.2;omega)) (Below.refl _ _) (fun _=>(rfl:(1:Nat)=1))
     (fun pre W=>W.rowIs w.heap.size 3 cs.length (fun j=>.int .i64 (if j<s then gi (aN t st cs i) j else if j=s then cm t st i s+((vals pre).map (eH t st cs s)).sum else 0))∧w7.grownBy W (some w.heap.size))
     (fun _ _ _=>False) (Sr h7zz) (fun _ _ _ _ _ h _ _=>h)
     ⟨Oy.row.congr fun j _=>by simp [vals],Lu⟩
    ·intro l x W K hK
     gi_wp2
     exact hK
    ·rintro l pre x W ⟨hrow,Ch⟩ hlen
     have hkeep:=HOLD.out W Ch
     have bC:W.cell? ⟨pC,0,none⟩=some (.slice qC cs.length fT):=(World.cell?_of_block (hkeep pC lC)).trans TU
     have bO:W.cell? ⟨pO,0,none⟩=some (.slice (some ⟨ob,0,none⟩) t.ps.length t.ps.length):=(World.cell?_of_block (hkeep pO lO)).trans HW.out.cO
     have bs:W.cell? ⟨sB,0,none⟩=some (.int .i64 s):=Ch.cell Yj.out (by simp;omega)
     have bR:W.cell? ⟨w.heap.size+1,0,none⟩=some (.slice (some ⟨w.heap.size,0,none⟩) cs.length cs.length):=Ch.cell (Et.out.grown.cell z7.out (by simp)) (by simp)
     obtain ⟨hx1,hx2,_⟩:=gh.1 x.2
     have bV:W.cell? ⟨ob,x.1,none⟩=some (V x.1):=(World.cell?_of_block (hkeep ob HW.out.row.lt)).trans (HW.out.row.cell hx1)
     have T9:=HW.out.rows x.1 hx2 hx1
     have Yk:aj (fun b=>b<w.heap.size) W (V x.1) (aN t st cs x.1):=(T9.sub (T:=fun b=>b<w.heap.size) fun b _ hb=>hb).keep fun b hb _=>hkeep b hb
     have hCW:aQ (fun b=>b<w.heap.size) W (.slice qC cs.length fT) cs:=(HCI.out.sub (T:=fun b=>b<w.heap.size) fun b _ hb=>hb).keep fun b hb _=>hkeep b hb
     have Aa:=fun k=>TJ _ _ (W.drewN k) _ _ cs (aN t st cs x.1) s (hCW.keep (pX _ _ _)) (Yk.keep (pX _ _ _)) hlt (by rw [bX,j9.out s hlt];exact Nat.le_refl _) (by rw [bX];omega) (wH.out s) (fun k=>by have:=(wN.out x.1 k hx1).2;omega)
     obtain ⟨qv,cv,ev,_,_⟩:=aC.open T9
     rw [ev] at bV Aa
     unfold wG at Aa
     have ha:=T7.out x.1 hx1
     have Yl:(bq (gi (gl cs s)) (gi (aN t st cs x.1)) (aN t st cs x.1).length).1=eH t st cs s x.1:=rfl
     rw [Yl] at Aa
     have hrs:=hrow.cell hlt
     have hrf:=hrow.frozen s
     simp only [Nat.lt_irrefl,if_false,if_true] at hrs
     have lq:cm t st i s=0∨cm t st i s = -1:=by unfold cm;split<;>simp
     have hsm:-64≤((vals pre).map (eH t st cs s)).sum∧((vals pre).map (eH t st cs s)).sum≤101000*64:=by
      have h0:=Oq (A:=101000) (B:=64) (f:=eH t st cs s) (by omega) (by omega) pre (fun c=>T7.out c.1 (gh.1 c.2).1) (by omega)
      constructor<;>omega
     have Xq:=aa Aa
     have JP:=aa hrow
     have HG7:=aa Ch
     have hbs2:-1≤cm t st i s∧cm t st i s≤0:=by omega
     have i1:(0:Int)≤(x.1:Int):=by omega
     have i2:(x.1:Int)<(t.ps.length:Int):=by omega
     obtain ⟨ha1,ha2⟩:=ha
     obtain ⟨hsm1,hsm2⟩:=hsm
     obtain ⟨hb1,hb2⟩:=hbs2
     have HPX:Hid (((vals (pre++[x])).map (eH t st cs s)).sum=((vals pre).map (eH t st cs s)).sum+eH t st cs s x.1):=by unfold Hid;rw [wJ];simp
     clear Aa hrow Ch hkeep Yk hCW T9 Yl lq HW wN wH j9 HOLD Et Yj z8
     generalize ((vals pre).map (eH t st cs s)).sum=sm at *
     generalize eH t st cs s x.1=ad at *
     generalize cm t st i s=bt at *
     generalize (bq (gi (gl cs s)) (gi (aN t st cs x.1)) (aN t st cs x.1).length).2=ow at *
     gi_wp2
     have hf52:Fence.wide.fn 232:=trivial
     have hf52r:(Fence.wide.inRound l).fn 232:=trivial
     refine Bo (l₀:=l) rfl (by kernel_rfl) (by kernel_rfl) (by kernel_rfl) ?_
     repeat (gi_big_quiet_step (fail))
     gi_big_quiet_want
     gi_big_quiet_op
     refine ⟨_,fun k=>CallsIn.inRound l (callsIn_wide.2 (JN (Xq.out k))),?_⟩
     go_big_quiet_on
     repeat (gi_big_quiet_step (fail))
     refine wpQuietIn_nil ?_
     intro _ hw'
     obtain ⟨nq,hw''⟩:=hw'
     subst hw''
     gi_wp2
     refine ⟨?_,?_,?_,?_⟩
     ·exact ⟨(KeepsOthers.setCell (W.drewN nq) _ _).size,(KeepsOthers.setCell (W.drewN nq) _ _).same⟩
     ·exact fun b hb=>Below.heap_setCell (W.drewN nq) _ _ b hb.1
     ·exact ((show (W.drewN nq).rowIs w.heap.size 3 cs.length _ from JP.out).set s _).congr fun j _=>by
       by_cases e:j=s
       ·subst e;simp [HPX.out];omega
       ·simp [e]
     ·exact Ep HG7.out ⟨rfl,rfl,rfl,by rw [World.size_setCell];exact Nat.le_refl _,fun k _ hne=>Below.heap_setCell (W.drewN nq) _ _ k (fun e=>hne (by rw [e]))⟩
    ·rintro D xs W hD hS ⟨hrow,Ch⟩ hK
     have hT:cm t st i s+((vals xs).map (eH t st cs s)).sum=gi (aN t st cs i) s:=by rw [hS,fD _ _ _ _ hlt,Im _ _ _ hi]
     have Ua:=(Et.out.later Ch hrow (by omega)).congr (g:=fun j=>if j<s+1 then gi (aN t st cs i) j else 0) (fun j _=>by
      by_cases e1:j<s
      ·simp [e1,Nat.lt_succ_of_lt e1]
      ·by_cases e2:j=s
       ·subst e2;simp [hT]
       ·have e3:¬j<s+1:=by omega
        simp [e1,e2,e3])
     have Ym:Marks w1.heap.size W ({ target:=.collected D,args:=#[] }::ds):=⟨⟨D,rfl,by have:=Et.out.grown.size;omega,hK,fun d' hd' e=>by
      obtain ⟨r,hr,hr2⟩:=Et.out.marks.lt d' hd'
      rw [hr] at e;injection e with e;omega⟩,Ua.marks⟩
     have Yn:=aa Ua
     have Ub:=aa Ym
     clear hT Ua Ym hrow Ch hK z8
     gi_wp2_with fail
     refine ⟨⟨s+1,_,_,_,_,_,_,_,_,_,_,_,_,_,_,_,_,_,_,_,_,_,_,_,_,_,_,_,_,_,_,_,_,_,_,_,_,_,_,_,_,_,_,_,_,_,_,_,_,_,_,_,_,_,_,_,_,_,_,_,_,_,by omega,rfl,⟨Yn.out.grown,Yn.out.row,Ub.out⟩⟩,?_⟩
     simp [intOf];omega
    ·rintro D c pre W _ _ h _
     exact h.elim
  ·obtain rfl:s=cs.length:=by omega
   clear hlt
   have Re:=HW.out.row.lt
   have hkeep:∀b,b<w.heap.size→wr.heap[b]? = w.heap[b]?:=fun b hb=>(HG.out.block b (by have:=Es.out;omega) (by simp;omega)).trans (cR.out.block b hb)
   have hro:=HW.out.row.of_block (hkeep ob Re)
   have hx1:=hro.cell hi
   have hx2:=hro.frozen i
   have hle1:w.heap.size+2≤w1.heap.size:=by have:=Es.out;omega
   have HKP:=aa hkeep
   have HRO:=aa hro
   clear hkeep hro
   have Uc:=Lp
   gi_wp2_with fail
   refine wK (v:=.tuple #[]) (n₀:=w1.heap.size) (fun _=>results_none rfl _ _ _) (Uc.out.marks.keep fun r _ hr2=>Below.heap_setCell _ _ _ r (by simp only;omega)) fun w' hb hs' hc=>⟨rfl,?_,.slice (some ⟨w.heap.size,0,none⟩) cs.length cs.length,?_,?_⟩
   ·refine ⟨hb.os.trans (HG.out.os.trans cR.out.os),hb.tape.trans (HG.out.tape.trans cR.out.tape),hb.output.trans (HG.out.output.trans cR.out.output),?_,fun k hk hne=>?_⟩
    ·have h1:=hb.size;rw [World.size_setCell] at h1;have h2:=HG.out.size;omega
    ·exact ((hb.block k (by omega)).trans (Below.heap_setCell _ _ _ k (fun e=>hne (by rw [e])))).trans (HKP.out k hk)
   ·exact ((HRO.out.set i _).of_block (hb.block ob (by omega)))
   ·have hrow2:=(Uc.out.row.setOther (a:=⟨ob,i,none⟩) (by simp only;omega) (.slice (some ⟨w.heap.size,0,none⟩) cs.length cs.length)).of_block (hb.block w.heap.size (by omega))
    refine ⟨some ⟨w.heap.size,0,none⟩,cs.length,by rw [bX],by rw [bX];exact Nat.le_refl _,.inr ⟨w.heap.size,0,rfl,by omega,fun k hk=>?_⟩⟩
    rw [bX] at hk
    have h1:=hrow2.cell hk
    simp only [hk,if_true] at h1
    rw [Nat.zero_add];exact h1
end Go.Proofs.YthgabkgmkolobaaGreat
