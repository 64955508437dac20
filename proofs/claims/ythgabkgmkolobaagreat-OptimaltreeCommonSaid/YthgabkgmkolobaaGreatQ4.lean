/- The contract of the closure that fills a row of the table. The contract of .. -/
import Derived.Test.YthgabkgmkolobaaGreatQ3
set_option maxRecDepth 100000
set_option maxHeartbeats 2000000
namespace Go.Proofs.YthgabkgmkolobaaGreat
section
open Go.RowKit Go.Shelf Go.Deep
attribute [local go_sem] y5
theorem Ky (S:Nat->Prop) (w:World) (v:Value) (xs:List Int) (x:Int) (h:ah S w v xs) (hn:xs.length<=1000000) :
  Calls Tryz.prog 62 #[v,.int .i64 x] w fun e w'=>e=.returned (.int .i64 (dI (fun j=>decide (x=gi xs j)) xs.length))/\w=w':=by
 obtain ⟨p,cap,rfl,hcap,H⟩:=ay.open h;clear h
 go_enter Tryz.func62,Tryz.ntmps62
 go_wp2_with fail
 go_loop [5,8] (fun _ i=>∃k:Nat,k<=xs.length/\i=.int .i64 k/\Hid (∀j,j<k->decide (x=gi xs j)=false)) (fun _ i=>xs.length - (intOf i).toNat)
 case atStart=>exact ⟨0,aL _,rfl,fun j hj=>absurd hj (bG _)⟩
 case round =>
  obtain ⟨k,hk,rfl,hd⟩:=hrel;by_cases hlt:k<xs.length
  ·obtain ⟨b,off,rfl,hc⟩:=H k hlt
   clear H;generalize hy:gi xs k=y at *;have HY:=aa hy;clear hy;by_cases hxy:x=y
   ·have hx1:(x==y)=true:=by simp [hxy]
    have Tp:=aa hxy;clear hxy;go_wp2_with fail;go_ret;exact ⟨aM (iK (p:=fun j=>decide (x=gi xs j)) hlt hd.out (by rw [HY.out];simpa using Tp.out)).symm,rfl⟩
   ·have hx1:(x==y)=false:=by simpa using hxy
    have Tp:=aa hxy;clear hxy;go_wp2_with fail
    go_round
    case rel=>exact ⟨k+1,by omega,by go_num,fun j hj=>if e:j=k then by subst e;rw [HY.out];simpa using Tp.out else hd.out j (by omega)⟩
    case measure=>simp [intOf];omega
  ·clear H
   go_wp2_with fail;go_ret;exact ⟨aM (fI fun j hj=>hd.out j (by omega)).symm,rfl⟩
structure JX (w:World) (t:az) (st:List Int) (cs:List (List Int)) (pC pL pS pT pO ob:Nat) (V:Nat->Value) (k:Nat):Prop where
 cC:∃C,w.cell? ⟨pC,0,none⟩=some C/\aR (· ≠ ob) w C cs
 cL:∃L,w.cell? ⟨pL,0,none⟩=some L/\ah (· ≠ ob) w L (aD t.ns)
 cS:∃L,w.cell? ⟨pS,0,none⟩=some L/\ah (· ≠ ob) w L st
 cT:∃P N,w.cell? ⟨pT,0,none⟩=some P/\w.cell? ⟨pT,1,none⟩=some N/\ah (· ≠ ob) w P t.ps
 cO:w.cell? ⟨pO,0,none⟩=some (.slice (some ⟨ob,0,none⟩) t.ps.length t.ps.length)
 row:w.rowIs ob 26 t.ps.length V
 rows:∀j,k<=j->j<t.ps.length->ah (· ≠ ob) w (V j) (bK t st cs j)
 ne:pC≠ob/\pL≠ob/\pS≠ob/\pT≠ob/\pO≠ob
def FillPost (w:World) (t:az) (st:List Int) (cs:List (List Int)) (ob:Nat) (V:Nat->Value) (i:Nat) (e:Ending) (w':World):Prop :=
 e=.returned (.tuple #[])/\w.grownBy w' (some ob)/\∃v,w'.rowIs ob 26 t.ps.length (fun j=>if j=i then v else V j)/\ah (· ≠ ob) w' v (bK t st cs i)
structure ku (w1 wr:World) (R0 m:Nat) (f:Nat->Int) (ds:List Deferred):Prop where
 grown:w1.grownBy wr (some R0)
 row:wr.rowIs R0 3 m (fun j=>.int .i64 (f j))
 marks:Marks w1.heap.size wr ds
theorem Marks.drewN {n₀:Nat} {w:World} {ds:List Deferred} (h:Marks n₀ w ds) (k:Nat):Marks n₀ (w.drewN k) ds:=Marks.keep (w:=w) (w':=w.drewN k) (fun _ _ _=>rfl) h
theorem ku.drewN {w1 wr:World} {R0 m:Nat} {f:Nat->Int} {ds:List Deferred} (h:ku w1 wr R0 m f ds) (k:Nat):ku w1 (wr.drewN k) R0 m f ds :=
 ⟨⟨h.grown.os,h.grown.tape,h.grown.output,h.grown.size,h.grown.block⟩,h.row,h.marks.drewN k⟩
theorem ku.congr {w1 wr:World} {R0 m:Nat} {f g:Nat->Int} {ds:List Deferred} (h:ku w1 wr R0 m f ds) (e:∀j,j<m->f j=g j):ku w1 wr R0 m g ds :=
 ⟨h.grown,h.row.congr fun j hj=>by rw [e j hj],h.marks⟩
theorem ku.set {w1 wr:World} {R0 m:Nat} {f:Nat->Int} {ds:List Deferred} (h:ku w1 wr R0 m f ds) (hR:R0<w1.heap.size) (s:Nat) (x:Int) :
  ku w1 (wr.setCell ⟨R0,s,none⟩ (.int .i64 x)) R0 m (fun j=>if j=s then x else f j) ds :=
 ⟨⟨h.grown.os,h.grown.tape,h.grown.output,by rw [mW];exact h.grown.size,fun k hk hne=>(yB _ _ _ k (fun e=>hne (by rw [e]))).trans (h.grown.block k hk hne)⟩,
  (h.row.set s _).congr (fun j _=>by by_cases e:j=s<;>simp [e]),h.marks.keep fun r _ hr2=>yB _ _ _ r (by simp only;omega)⟩
theorem ku.alloc {w1 wr:World} {R0 m:Nat} {f:Nat->Int} {ds:List Deferred} (h:ku w1 wr R0 m f ds) (o:Obj):ku w1 (wr.alloc o) R0 m f ds :=
 ⟨⟨h.grown.os,h.grown.tape,h.grown.output,by simp;have:=h.grown.size;omega,fun k hk hne=>(Hr _ _ k (js hk h.grown.size)).trans (h.grown.block k hk hne)⟩,
  h.row.alloc o,h.marks.keep fun r hr _=>Hr _ _ r (by
   rcases Nat.lt_or_ge r wr.heap.size with h | h
   ·exact h
   ·rw [S8 h] at hr;cases hr)⟩
theorem quiet_left {P:Program} {f:FuncId} {args:Array Value} {w:World} {n:Nat} {v:Value} (h:Calls P f args (w.drewN n) fun e w'=>e=.returned v/\w.drewN n=w') :
  Calls P f args (w.drewN n) fun e w''=>e=.returned v/\∃m,w''=w.drewN m:=h.mono fun _ _ ⟨he,hm⟩=>⟨he,n,hm.symm⟩
theorem Ng (S:Nat->Prop) (w:World) (n:Nat):Kept S w (w.drewN n):=fun _ _ _=>rfl
theorem Tq {a b c:World} {R:Nat} (h:a.grownBy b (some R)) (k:b.grownBy c (some R)):a.grownBy c (some R) :=
 ⟨k.os.trans h.os,k.tape.trans h.tape,k.output.trans h.output,aJ h.size k.size,fun i hi hne=>(k.block i (js hi h.size) hne).trans (h.block i hi hne)⟩
theorem ku.later {w1 w7 W:World} {R0 m:Nat} {f g:Nat->Int} {ds:List Deferred} (h:ku w1 w7 R0 m f ds) (hg:w7.grownBy W (some R0)) (hr:W.rowIs R0 3 m (fun j=>.int .i64 (g j))) (hR:R0<w1.heap.size):ku w1 W R0 m g ds :=
 ⟨Tq h.grown hg,hr,h.marks.keep fun r hr hr2=>hg.block r (by
   rcases Nat.lt_or_ge r w7.heap.size with h | h
   ·exact h
   ·rw [S8 h] at hr;cases hr) (by simp;omega)⟩
theorem own_row {w7:World} {R0 m:Nat} {β:Type} {f:β->Nat->Int} (hR:R0<w7.heap.size) :
  OwnFrom w7.heap.size (fun (pre:β) W=>W.rowIs R0 3 m (fun j=>.int .i64 (f pre j))/\w7.grownBy W (some R0)):=by
 rintro pre W W' row ⟨h1,h2⟩ hg hr;refine ⟨h1.of_block (hg.block _ h1.lt (fun e=>by have:=(hr _ e.symm).1;omega)),hg.os.trans h2.os,hg.tape.trans h2.tape,hg.output.trans h2.output,aJ h2.size hg.size,fun k hk hne=>?_⟩;exact (hg.block k (js hk h2.size) (fun e=>by have:=(hr _ e.symm).1;omega)).trans (h2.block k hk hne)
theorem sum_vals {ps:List Int} {i:Nat} {f:Nat->Int} {A:Int} {B:Nat} (hA:0<=A) (hB:0<=(B:Int)):∀(l:List (Qh ps i)),(∀c:Qh ps i,-1<=f c.1/\f c.1<=A)->l.length<=B -> -(B:Int)<=((vals l).map f).sum/\((vals l).map f).sum<=A*B:=by
 intro l h
 induction l generalizing B with
 | nil=>intro _;simp [vals];exact Int.mul_nonneg hA hB
 | cons c l ih =>
  intro hl;simp only [aT] at hl;obtain ⟨B',rfl⟩:∃B',B=B'+1:=⟨B - 1,by omega⟩;have:=ih (B:=B') (by omega) (by omega);have hc:=h c;have e:A*((B'+1:Nat):Int)=A*B'+A:=by rw [Int.natCast_add,Int.mul_add];simp
  rw [e];simp only [vals,cK,List.sum_cons] at this ⊢;constructor<;>omega
theorem fill_t (w:World) (t:az) (st:List Int) (cs:List (List Int)) (pC pL pS pT pO ob:Nat) (V:Nat->Value) (i:Nat) (hi:i<t.ps.length) (hW:JX w t st cs pC pL pS pT pO ob V (i+1))
  (hn:t.ps.length<=64) (hm:cs.length<=16) (hm0:0<cs.length) (ue:(aD t.ns).length<=st.length) (hrl:∀a,a<cs.length->(gl cs a).length=cs.length) (hcb:∀a k,0<=gi (gl cs a) k/\gi (gl cs a) k<=1000)
  (htb:∀j s,j<t.ps.length -> -1<=gi (bK t st cs j) s/\gi (bK t st cs j) s<=100000) (jv:(aD t.ns).length<=64) :
  Calls Tryz.prog 230 #[.int .i64 i,.pointer (some ⟨pC,0,none⟩),.pointer (some ⟨pL,0,none⟩),.pointer (some ⟨pS,0,none⟩),.pointer (some ⟨pT,0,none⟩),.pointer (some ⟨pO,0,none⟩)] w (FillPost w t st cs ob V i):=by
 obtain ⟨C,hcC,hC⟩:=hW.cC
 obtain ⟨L,Tr,hL⟩:=hW.cL
 obtain ⟨St,hcS,hS⟩:=hW.cS
 obtain ⟨P,N,sI,uL,hP⟩:=hW.cT
 have hcO:=hW.cO
 obtain ⟨fC,LA,Nh⟩:=hC
 obtain ⟨qC,rF,rfl,hcapC,Ni⟩:=ay.open LA
 obtain ⟨qL,capL,rfl,hcapL,gG⟩:=ay.open hL
 obtain ⟨qS,sr,rfl,hcapS,vT⟩:=ay.open hS
 have hb1:Below w.heap.size w ((w.alloc (.cells (madeCells #[.int .i64 0] cs.length) 3)).alloc (.cells #[.slice (some ⟨w.heap.size,0,none⟩) cs.length cs.length] 26)):=((dM _ w).alloc (af _) _).alloc (by simp) _
 have hL1:=ay.keep hL (Kept.below hb1)
 have hix:=Ky (· ≠ ob) _ _ _ (i:Int) hL1 (by omega)
 have vU:=aa hix
 have lC:=eG _ _ hcC
 have lL:=eG _ _ Tr
 have lS:=eG _ _ hcS
 have lP:=eG _ _ sI
 have lO:=eG _ _ hcO
 simp only at lC lL lS lP lO
 have hcC1:=cell_later hb1 hcC
 have hcL1:=cell_later hb1 Tr
 have hcS1:=cell_later hb1 hcS
 have hcP1:=cell_later hb1 sI
 have vA:=cell_later hb1 uL
 have hcO1:=cell_later hb1 hcO
 have hrow1:=(Bo w (.int .i64 0) cs.length 3).alloc (.cells #[.slice (some ⟨w.heap.size,0,none⟩) cs.length cs.length] 26)
 have Ts:((w.alloc (.cells (madeCells #[.int .i64 0] cs.length) 3)).alloc (.cells #[.slice (some ⟨w.heap.size,0,none⟩) cs.length cs.length] 26)).cell? ⟨w.heap.size+1,0,none⟩=some (.slice (some ⟨w.heap.size,0,none⟩) cs.length cs.length):=by simp
 have LB:((w.alloc (.cells (madeCells #[.int .i64 0] cs.length) 3)).alloc (.cells #[.slice (some ⟨w.heap.size,0,none⟩) cs.length cs.length] 26)).heap.size=w.heap.size+2:=by simp
 have HW:=aa hW
 have CR:=aa htb
 have uf:=aa hcb
 have ug:=aa hrl
 have HSTS:=aa vT
 have lK:=aa hb1
 have HROW1:=aa hrow1
 have DL:=aa LB
 have hmk:=fun W=>run_make_row' (P:=Tryz.prog) 26 3 (.int .i64 0) 8 Tryz.underlying26 Tryz.kE rfl .i64 .i64 cs.length (by omega) (by omega) W
 have HPI:=aa hP
 have HCI:Hid (aR (· ≠ ob) w (.slice qC cs.length rF) cs):=⟨fC,LA,Nh⟩
 clear hW htb hcb hrl Ni gG vT LA Nh hL hS hP hb1 hL1 hix hrow1 LB Tr hcS sI uL hcO
 refine (callsIn_wide (n:=9)).1 ?_
 refine callsIn_of_wp_marks Tryz.func230 rfl trivial ?_
 simp only [Tryz.ntmps230,eW,aT,dO,Nat.reduceAdd,Nat.reduceSub,ji,jk,eV,ve,cH,cr]
 gi_wp2_with fail
 refine ⟨trivial,(callsIn_wide.2 vU.out).mono ?_⟩
 rintro e w' ⟨rfl,rfl⟩
 generalize hw1:((w.alloc (.cells (madeCells #[.int .i64 0] cs.length) 3)).alloc (.cells #[.slice (some ⟨w.heap.size,0,none⟩) cs.length cs.length] 26))=w1 at *
 clear hw1 vU hmk
 have hle:kj t.ns i=dI (fun j=>decide ((i:Int)=gi (aD t.ns) j)) (aD t.ns).length:=rfl
 rw [<- hle]
 have hlo:=M7 (fun j=>decide ((i:Int)=gi (aD t.ns) j)) (aD t.ns).length
 rw [<- hle] at hlo
 have how:nh t.ns st i=if 0<=kj t.ns i then gi st (kj t.ns i).toNat else -1:=rfl
 have HOW:=aa how
 generalize hk:kj t.ns i=kl at *
 obtain ⟨hk1,hk2,_⟩:=hlo
 clear hle hk how
 gi_wp2_with fail
 refine wpIn_loop (fun a wr=>∃(s:Nat) (ds:List Deferred) (u6 u9 u10 u11 u12 u13 u14 u15 u16 u17 u18 u19 u22 u23 u24 u25 u26 u27 u28 u29 u30 u31 u32 u33 u34 u35 u36 u37 u38 u39 u40 u41 u42 u43 u44 u45 u46 u47 u48 u49 u50 u51 u52 u53 u54 u55 u56 u57 u58 u59 u60 u61 u62 u63 u64 u65 u66 u67 u68 u69:Value),s<=cs.length/\a={ tmps:=#[.int .i64 i,.pointer (some ⟨pC,0,none⟩),.pointer (some ⟨pL,0,none⟩),.pointer (some ⟨pS,0,none⟩),.pointer (some ⟨pT,0,none⟩),.pointer (some ⟨pO,0,none⟩),u6,.pointer (some ⟨w.heap.size+1,0,none⟩),.int .i64 kl,u9,u10,u11,u12,u13,u14,u15,u16,u17,u18,u19,.int .i64 cs.length,.int .i64 s,u22,u23,u24,u25,u26,u27,u28,u29,u30,u31,u32,u33,u34,u35,u36,u37,u38,u39,u40,u41,u42,u43,u44,u45,u46,u47,u48,u49,u50,u51,u52,u53,u54,u55,u56,u57,u58,u59,u60,u61,u62,u63,u64,u65,u66,u67,u68,u69],defers:=ds }/\ku w1 wr w.heap.size cs.length (fun j=>if j<s then gi (bK t st cs i) j else 0) ds) (fun a _=>cs.length - (intOf (a.tmps.getD 21 undef)).toNat) ?start ?round
 case start =>
  exact ⟨0,[],_,_,_,_,_,_,_,_,_,_,_,_,_,_,_,_,_,_,_,_,_,_,_,_,_,_,_,_,_,_,_,_,_,_,_,_,_,_,_,_,_,_,_,_,_,_,_,_,_,_,_,_,_,_,_,_,_,_,_,_,aL _,rfl,⟨⟨rfl,rfl,rfl,af _,fun _ _ _=>rfl⟩,HROW1.out.congr (fun j _=>by simp),trivial⟩⟩
 case round =>
  rintro a wr ⟨s,ds,u6,u9,u10,u11,u12,u13,u14,u15,u16,u17,u18,u19,u22,u23,u24,u25,u26,u27,u28,u29,u30,u31,u32,u33,u34,u35,u36,u37,u38,u39,u40,u41,u42,u43,u44,u45,u46,u47,u48,u49,u50,u51,u52,u53,u54,u55,u56,u57,u58,u59,u60,u61,u62,u63,u64,u65,u66,u67,u68,u69,hs,rfl,hRW⟩
  have hg:=hRW.grown
  have hcC2:=hg.cell hcC1 (by simp;omega)
  have hcS2:=hg.cell hcS1 (by simp;omega)
  have hcP2:=hg.cell hcP1 (by simp;omega)
  have hcN2:=hg.cell vA (by simp;omega)
  have hcO2:=hg.cell hcO1 (by simp;omega)
  have Qj:=hg.cell Ts (by simp)
  have y7:=aa hRW
  have HCS1:=aa hcS1
  have HCC1:=aa hcC1
  have HCO1:=aa hcO1
  have HCP1:=aa hcP1
  have HCN1:=aa vA
  have Ep:=aa Ts
  have HG:=aa hg
  clear hcC1 hcS1 hcP1 vA hcO1 Ts hRW hg hcL1
  by_cases hlt:s<cs.length
  ·have qG:Below wr.heap.size wr (wr.alloc (.cells #[.int .i64 s] 3)):=(dM _ _).alloc (af _) _
   have h5C:=cell_later qG hcC2
   have h5S:=cell_later qG hcS2
   have h5P:=cell_later qG hcP2
   have h5N:=cell_later qG hcN2
   have h5O:=cell_later qG hcO2
   have h5R:=cell_later qG Qj
   have Qk:(wr.alloc (.cells #[.int .i64 s] 3)).cell? ⟨wr.heap.size,0,none⟩=some (.int .i64 s):=by simp
   have h5rw:=y7.out.alloc (.cells #[.int .i64 s] 3)
   have hsB:w.heap.size+2<=wr.heap.size/\(wr.alloc (.cells #[.int .i64 s] 3)).heap.size=wr.heap.size+1:=⟨by have:=HG.out.size;have:=DL.out;omega,by simp⟩
   have FA:=aa h5rw
   have fu:=aa hsB
   have h5f:=h5rw.row.frozen s
   have h5x:=h5rw.row.cell hlt
   simp only [mU,if_false] at h5x
   clear qG h5rw hsB y7 HG
   gi_wp2_with fail
   clear hcC2 hcS2 hcP2 hcN2 hcO2 Qj
   generalize hw5:(wr.alloc (.cells #[.int .i64 s] 3))=w5 at *
   clear hw5
   generalize mz:wr.heap.size=sB at *
   clear mz
   by_cases gz:0<=kl
   obtain ⟨kn,rfl⟩:=pE gz
   obtain ⟨b,off,rfl,xI⟩:=HSTS.out kn (by omega)
   have hcx2:w5.cell? ⟨b,off+kn,none⟩=some (.int .i64 (gi st kn)):=FA.out.grown.cell (lK.out.cell (p:=⟨b,off+kn,none⟩) (eG _ _ xI) |>.trans xI) (by have:=eG _ _ xI;simp at this ⊢;omega)
   rw [if_pos gz,cZ] at HOW
   have i1:(0:Int)<=(kn:Int):=by omega
   have i2:(kn:Int)<(st.length:Int):=by omega
   clear xI
   generalize hx:gi st kn=x at *
   clear hx
   by_cases hx0:0<=x
   by_cases hxs:x=s
   focus
    have hx1:(x != (s:Int))=false:=by simp [hxs]
    have HX:=aa hxs
    clear hxs
    gi_wp2_with fail
    gi_quiet (fail)
    gi_wp2_with fail
    have H6:Hid (ku w1 (w5.drewN nq) w.heap.size cs.length (fun j=>if j<s then gi (bK t st cs i) j else if j=s then jQ t st i s else 0) ds):=(FA.out.drewN nq).congr fun j _=>by
     rw [show jQ t st i s=0 from by unfold jQ;rw [HOW.out,if_neg (fun h=>h.2 HX.out)]]
     by_cases e1:j<s<;>by_cases e2:j=s<;>simp [e1,e2]
    have h6s:(w5.drewN nq).cell? ⟨sB,0,none⟩=some (.int .i64 s):=Qk
    have h6z:Hid ((w5.drewN nq).heap.size=sB+1):=fu.out.2
    clear h5C h5S h5P h5N h5O h5R Qk h5f h5x FA
    generalize w5.drewN nq=w6 at *

   rotate_left
   focus
    have hx1:(x != (s:Int))=true:=by simpa using hxs
    have HX:=aa hxs
    clear hxs
    gi_wp2_with fail
    gi_quiet (fail)
    gi_wp2_with fail
    have h6f:(w5.drewN nq).frozen? ⟨w.heap.size,s,none⟩=false:=h5f
    have H6:Hid (ku w1 ((w5.drewN nq).setCell ⟨w.heap.size,s,none⟩ (.int .i64 (-1))) w.heap.size cs.length (fun j=>if j<s then gi (bK t st cs i) j else if j=s then jQ t st i s else 0) ds):=((FA.out.drewN nq).set (by have:=DL.out;omega) s (-1)).congr fun j _=>by
     rw [show jQ t st i s = -1 from by unfold jQ;rw [HOW.out,if_pos ⟨hx0,HX.out⟩]]
     by_cases e1:j=s
     ·subst e1;simp
     ·simp [e1]
    have h6s:((w5.drewN nq).setCell ⟨w.heap.size,s,none⟩ (.int .i64 (-1))).cell? ⟨sB,0,none⟩=some (.int .i64 s):=by
     rw [World.cell?_setCell_other _ _ _ _ (by intro e;injection e with e;have:=fu.out;omega)];exact Qk
    have h6z:Hid (((w5.drewN nq).setCell ⟨w.heap.size,s,none⟩ (.int .i64 (-1))).heap.size=sB+1):=by unfold Hid;rw [mW];exact fu.out.2
    clear h5C h5S h5P h5N h5O h5R Qk h5f h5x FA h6f
    generalize (w5.drewN nq).setCell ⟨w.heap.size,s,none⟩ (.int .i64 (-1))=w6 at *

   rotate_left
   focus
    have hx1:decide (0<=x)=false:=by simpa using hx0
    gi_wp2_with fail
    gi_quiet (fail)
    gi_wp2_with fail
    have H6:Hid (ku w1 (w5.drewN nq) w.heap.size cs.length (fun j=>if j<s then gi (bK t st cs i) j else if j=s then jQ t st i s else 0) ds):=(FA.out.drewN nq).congr fun j _=>by
     rw [show jQ t st i s=0 from by unfold jQ;rw [HOW.out,if_neg (fun h=>by omega)]]
     by_cases e1:j<s<;>by_cases e2:j=s<;>simp [e1,e2]
    have h6s:(w5.drewN nq).cell? ⟨sB,0,none⟩=some (.int .i64 s):=Qk
    have h6z:Hid ((w5.drewN nq).heap.size=sB+1):=fu.out.2
    clear h5C h5S h5P h5N h5O h5R Qk h5f h5x FA
    generalize w5.drewN nq=w6 at *

   rotate_left
   focus
    rw [if_neg gz] at HOW
    have hx1:decide (0<=kl)=false:=by simpa using gz
    gi_wp2_with fail
    gi_quiet (fail)
    gi_wp2_with fail
    have H6:Hid (ku w1 (w5.drewN nq) w.heap.size cs.length (fun j=>if j<s then gi (bK t st cs i) j else if j=s then jQ t st i s else 0) ds):=(FA.out.drewN nq).congr fun j _=>by
     rw [show jQ t st i s=0 from by unfold jQ;rw [HOW.out,if_neg (fun h=>by omega)]]
     by_cases e1:j<s<;>by_cases e2:j=s<;>simp [e1,e2]
    have h6s:(w5.drewN nq).cell? ⟨sB,0,none⟩=some (.int .i64 s):=Qk
    have h6z:Hid ((w5.drewN nq).heap.size=sB+1):=fu.out.2
    clear h5C h5S h5P h5N h5O h5R Qk h5f h5x FA
    generalize w5.drewN nq=w6 at *

   rotate_left
   all_goals
    refine ⟨trivial,(callsIn_wide.2 (chil_t w6 _ P N rfl i)).mono ?_⟩
    rintro e w7 ⟨rfl,rfl⟩
    gi_wp2_with fail
    have hb7:Below w6.heap.size w6 ((w6.alloc (.cells #[P,N] 39)).alloc (.cells #[.int .i64 i] 3)):=((dM _ _).alloc (af _) _).alloc (by simp) _
    have h7s:=cell_later hb7 h6s
    have h7n:((w6.alloc (.cells #[P,N] 39)).alloc (.cells #[.int .i64 i] 3)).cell? ⟨w6.heap.size+1,0,none⟩=some (.int .i64 i):=by simp
    have h7p:((w6.alloc (.cells #[P,N] 39)).alloc (.cells #[.int .i64 i] 3)).cell? ⟨w6.heap.size,0,none⟩=some P:=by simp
    have h7z:((w6.alloc (.cells #[P,N] 39)).alloc (.cells #[.int .i64 i] 3)).heap.size=w6.heap.size+2:=by simp
    have h7rw:=(H6.out.alloc (.cells #[P,N] 39)).alloc (.cells #[.int .i64 i] 3)
    have h6e:w6.heap.size=sB+1:=h6z.out
    generalize ((w6.alloc (.cells #[P,N] 39)).alloc (.cells #[.int .i64 i] 3))=w7 at *
    generalize w6.heap.size=z6 at *
    have hz1:=DL.out
    have hsb1:=fu.out.1
    have hold:∀W,w7.grownBy W (some w.heap.size)->∀b,b<w.heap.size->W.heap[b]? = w.heap[b]?:=fun W hg b hb =>
     ((hg.block b (by omega) (by simp;omega)).trans (h7rw.grown.block b (by omega) (by simp;omega))).trans (lK.out.block b hb)
    have h7refl:w7.grownBy w7 (some w.heap.size):=⟨rfl,rfl,rfl,af _,fun _ _ _=>rfl⟩
    have Nj:ah (fun b=>b≠w.heap.size/\b<w7.heap.size) w7 P t.ps:=((HPI.out.sub (T:=fun b=>b<w.heap.size) fun b _ hb=>hb).keep fun b hb _=>hold w7 h7refl b hb).sub fun b hb _=>⟨by omega,by omega⟩
    have DK:∀c,c<t.ps.length -> -1<=qg t st cs s c/\qg t st cs s c<=101000:=fun c hc=>Tc (A:=100000) (by omega) (fun k=>uf.out s k) (fun k=>(CR.out c k hc).2) _
    have HADD:=aa DK
    have HOLD:=aa hold
    have Tt:=aa h7rw
    have H7S:=aa h7s
    have HZ7:=aa h7z
    have HZ1:=aa hz1
    have h7zz:w.heap.size<w7.heap.size:=by omega
    apply wpIn_rangeFunc_ownF (F:=Fence.wide) (n:=9) (P:=Tryz.prog) (ps:=#[47]) (w:=w7) rfl (by omega) (gf:=268) (lb:=#[.pointer (some ⟨z6+1,0,none⟩),.pointer (some ⟨z6,0,none⟩)]) rfl trivial (enters_of Tryz.func268 (by kernel_rfl) rfl)
     (chil_stops 8 (by omega) (z6+1) z6 (fun b=>b≠w.heap.size/\b<w7.heap.size) t.ps i P w7 (fun b hb=>hb.2) h7n h7p Nj ⟨by omega,by omega⟩ ⟨by omega,by omega⟩ hi (by omega))
     (fun h k=>KS.trans h k) (fun W l o o' hl _ _ _=>fun b (hb:b≠w.heap.size/\b<w7.heap.size)=>nT (by have:=hb.2;omega)) (dM _ _) (fun _=>(rfl:(1:Nat)=1))
     (fun pre W=>W.rowIs w.heap.size 3 cs.length (fun j=>.int .i64 (if j<s then gi (bK t st cs i) j else if j=s then jQ t st i s+((vals pre).map (qg t st cs s)).sum else 0))/\w7.grownBy W (some w.heap.size))
     (fun _ _ _=>False) (own_row h7zz) (fun _ _ _ _ _ h _ _=>h)
     ⟨h7rw.row.congr fun j _=>by simp [vals],h7refl⟩
    ·intro l x W K hK
     gi_wp2
     exact hK
    ·rintro l pre x W ⟨hrow,CS⟩ hlen
     have hkeep:=HOLD.out W CS
     have bC:W.cell? ⟨pC,0,none⟩=some (.slice qC cs.length rF):=(eX (hkeep pC lC)).trans hcC
     have bO:W.cell? ⟨pO,0,none⟩=some (.slice (some ⟨ob,0,none⟩) t.ps.length t.ps.length):=(eX (hkeep pO lO)).trans HW.out.cO
     have bs:W.cell? ⟨sB,0,none⟩=some (.int .i64 s):=CS.cell H7S.out (by simp;omega)
     have bR:W.cell? ⟨w.heap.size+1,0,none⟩=some (.slice (some ⟨w.heap.size,0,none⟩) cs.length cs.length):=CS.cell (Tt.out.grown.cell Ep.out (by simp)) (by simp)
     obtain ⟨hx1,hx2,_⟩:=cD.1 x.2
     have bV:W.cell? ⟨ob,x.1,none⟩=some (V x.1):=(eX (hkeep ob HW.out.row.lt)).trans (HW.out.row.cell hx1)
     have hVx:=HW.out.rows x.1 hx2 hx1
     have hVW:ah (fun b=>b<w.heap.size) W (V x.1) (bK t st cs x.1):=(hVx.sub (T:=fun b=>b<w.heap.size) fun b _ hb=>hb).keep fun b hb _=>hkeep b hb
     have hCW:aR (fun b=>b<w.heap.size) W (.slice qC cs.length rF) cs:=(HCI.out.sub (T:=fun b=>b<w.heap.size) fun b _ hb=>hb).keep fun b hb _=>hkeep b hb
     have Nk:=fun k=>best_t _ _ (W.drewN k) _ _ cs (bK t st cs x.1) s (hCW.keep (Ng _ _ _)) (hVW.keep (Ng _ _ _)) hlt (by rw [lV,ug.out s hlt];exact af _) (by rw [lV];omega) (uf.out s) (fun k=>by have:=(CR.out x.1 k hx1).2;omega)
     obtain ⟨qv,cv,ev,_,_⟩:=ay.open hVx
     rw [ev] at bV Nk
     unfold Ia at Nk
     have ha:=HADD.out x.1 hx1
     have hak:(cN (gi (gl cs s)) (gi (bK t st cs x.1)) (bK t st cs x.1).length).1=qg t st cs s x.1:=rfl
     rw [hak] at Nk
     have hrs:=hrow.cell hlt
     have hrf:=hrow.frozen s
     simp only [mU,if_false,if_true] at hrs
     have Bw:jQ t st i s=0\/jQ t st i s = -1:=by unfold jQ;split<;>simp
     have hsm:-64<=((vals pre).map (qg t st cs s)).sum/\((vals pre).map (qg t st cs s)).sum<=101000*64:=by
      have h0:=sum_vals (A:=101000) (B:=64) (f:=qg t st cs s) (by omega) (by omega) pre (fun c=>HADD.out c.1 (cD.1 c.2).1) (by omega)
      constructor<;>omega
     have HBEST:=aa Nk
     have FB:=aa hrow
     have HG7:=aa CS
     have hbs2:-1<=jQ t st i s/\jQ t st i s<=0:=by omega
     have i1:(0:Int)<=(x.1:Int):=by omega
     have i2:(x.1:Int)<(t.ps.length:Int):=by omega
     obtain ⟨ha1,ha2⟩:=ha
     obtain ⟨hsm1,hsm2⟩:=hsm
     obtain ⟨hb1,hb2⟩:=hbs2
     have HPX:Hid (((vals (pre++[x])).map (qg t st cs s)).sum=((vals pre).map (qg t st cs s)).sum+qg t st cs s x.1):=by unfold Hid;rw [Hy];simp
     clear Nk hrow CS hkeep hVW hCW hVx hak Bw HW CR uf ug HOLD Tt H7S Nj
     generalize ((vals pre).map (qg t st cs s)).sum=sm at *
     generalize qg t st cs s x.1=ad at *
     generalize jQ t st i s=bt at *
     generalize (cN (gi (gl cs s)) (gi (bK t st cs x.1)) (bK t st cs x.1).length).2=ow at *
     gi_wp2
     have hf52:Fence.wide.fn 232:=trivial
     have hf52r:(Fence.wide.inRound l).fn 232:=trivial
     refine O5 (l₀:=l) rfl (by kernel_rfl) (by kernel_rfl) (by kernel_rfl) ?_
     repeat (gi_big_quiet_step (fail))
     gi_big_quiet_want
     gi_big_quiet_op
     refine ⟨_,fun k=>CallsIn.inRound l (callsIn_wide.2 (quiet_left (HBEST.out k))),?_⟩
     go_big_quiet_on
     repeat (gi_big_quiet_step (fail))
     refine wpQuietIn_nil ?_
     intro _ hw'
     obtain ⟨nq,hw''⟩:=hw'
     subst hw''
     gi_wp2
     refine ⟨?_,?_,?_,?_⟩
     ·exact ⟨(KeepsOthers.setCell (W.drewN nq) _ _).size,(KeepsOthers.setCell (W.drewN nq) _ _).same⟩
     ·exact fun b hb=>yB (W.drewN nq) _ _ b hb.1
     ·exact ((show (W.drewN nq).rowIs w.heap.size 3 cs.length _ from FB.out).set s _).congr fun j _=>by
       by_cases e:j=s
       ·subst e;simp [HPX.out];omega
       ·simp [e]
     ·exact Tq HG7.out ⟨rfl,rfl,rfl,by rw [mW];exact af _,fun k _ hne=>yB (W.drewN nq) _ _ k (fun e=>hne (by rw [e]))⟩
    ·rintro D xs W hD hS ⟨hrow,CS⟩ hK
     have hT:jQ t st i s+((vals xs).map (qg t st cs s)).sum=gi (bK t st cs i) s:=by rw [hS,ig _ _ _ _ hlt,Yr _ _ _ hi]
     have hRN:=(Tt.out.later CS hrow (by omega)).congr (g:=fun j=>if j<s+1 then gi (bK t st cs i) j else 0) (fun j _=>by
      by_cases e1:j<s
      ·simp [e1,Nat.lt_succ_of_lt e1]
      ·by_cases e2:j=s
       ·subst e2;simp [hT]
       ·have e3:¬j<s+1:=by omega
        simp [e1,e2,e3])
     have hMK:Marks w1.heap.size W ({ target:=.collected D,args:=#[] }::ds):=⟨⟨D,rfl,by have:=Tt.out.grown.size;omega,hK,fun d' hd' e=>by
      obtain ⟨r,hr,hr2⟩:=Tt.out.marks.lt d' hd'
      rw [hr] at e;injection e with e;omega⟩,hRN.marks⟩
     have HRN:=aa hRN
     have HMK:=aa hMK
     clear hT hRN hMK hrow CS hK Nj
     gi_wp2_with fail
     refine ⟨⟨s+1,_,_,_,_,_,_,_,_,_,_,_,_,_,_,_,_,_,_,_,_,_,_,_,_,_,_,_,_,_,_,_,_,_,_,_,_,_,_,_,_,_,_,_,_,_,_,_,_,_,_,_,_,_,_,_,_,_,_,_,_,_,by omega,rfl,⟨HRN.out.grown,HRN.out.row,HMK.out⟩⟩,?_⟩
     simp [intOf];omega
    ·rintro D c pre W _ _ h _
     exact h.elim
  ·obtain rfl:s=cs.length:=by omega
   clear hlt
   have Bz:=HW.out.row.lt
   have hkeep:∀b,b<w.heap.size->wr.heap[b]? = w.heap[b]?:=fun b hb=>(HG.out.block b (by have:=DL.out;omega) (by simp;omega)).trans (lK.out.block b hb)
   have hro:=HW.out.row.of_block (hkeep ob Bz)
   have hx1:=hro.cell hi
   have hx2:=hro.frozen i
   have hle1:w.heap.size+2<=w1.heap.size:=by have:=DL.out;omega
   have HKP:=aa hkeep
   have HRO:=aa hro
   clear hkeep hro
   have HRW2:=y7
   gi_wp2_with fail
   refine Hz (v:=.tuple #[]) (n₀:=w1.heap.size) (fun _=>results_none rfl _ _ _) (HRW2.out.marks.keep fun r _ hr2=>yB _ _ _ r (by simp only;omega)) fun w' hb hs' hc=>⟨rfl,?_,.slice (some ⟨w.heap.size,0,none⟩) cs.length cs.length,?_,?_⟩
   ·refine ⟨hb.os.trans (HG.out.os.trans lK.out.os),hb.tape.trans (HG.out.tape.trans lK.out.tape),hb.output.trans (HG.out.output.trans lK.out.output),?_,fun k hk hne=>?_⟩
    ·have h1:=hb.size;rw [mW] at h1;have h2:=HG.out.size;omega
    ·exact ((hb.block k (by omega)).trans (yB _ _ _ k (fun e=>hne (by rw [e])))).trans (HKP.out k hk)
   ·exact ((HRO.out.set i _).of_block (hb.block ob (by omega)))
   ·have hrow2:=(HRW2.out.row.setOther (a:=⟨ob,i,none⟩) (by simp only;omega) (.slice (some ⟨w.heap.size,0,none⟩) cs.length cs.length)).of_block (hb.block w.heap.size (by omega))
    refine ⟨some ⟨w.heap.size,0,none⟩,cs.length,by rw [lV],by rw [lV];exact af _,.inr ⟨w.heap.size,0,rfl,by omega,fun k hk=>?_⟩⟩
    rw [lV] at hk
    have h1:=hrow2.cell hk
    simp only [hk,if_true] at h1
    rw [mg];exact h1
end
section
open Go.RowKit Go.Deep
theorem Tryz.Tu:(Tryz.prog.info? 26).map (fun i=>(i.zero,i.size,i.bytes))=some (some (.slice none 0 0),1,24):=by kernel_rfl
theorem aS (W:World) (cs:Array Value) (t:TypeId) (k:Nat):(W.alloc (.cells cs t)).cell? ⟨W.heap.size,k,none⟩=cs[k]?:=by
 unfold World.cell?;rw [mV];rfl
theorem sJ (W:World) (v:Value) (t:TypeId):(W.alloc (.cells #[v] t)).cell? ⟨W.heap.size,0,none⟩=some v:=aS W _ t 0
theorem JX.step {w w':World} {t:az} {st:List Int} {cs:List (List Int)} {pC pL pS pT pO ob:Nat} {V:Nat->Value} {j:Nat} {v:Value} (h:JX w t st cs pC pL pS pT pO ob V (j+1))
  (hg:w.grownBy w' (some ob)) (hr:w'.rowIs ob 26 t.ps.length (fun x=>if x=j then v else V x)) (hv:ah (· ≠ ob) w' v (bK t st cs j)):JX w' t st cs pC pL pS pT pO ob (fun x=>if x=j then v else V x) j:=by
 have hk:Kept (· ≠ ob) w w':=fun b hb hl=>hg.block b hl (by simp;exact hb);have hc:∀ {p o:Nat} {x:Value},p≠ob->w.cell? ⟨p,o,none⟩=some x->w'.cell? ⟨p,o,none⟩=some x:=fun hp hx=>hg.cell hx (by simp;exact hp);obtain ⟨n1,n2,n3,n4,n5⟩:=h.ne;obtain ⟨C,a1,a2⟩:=h.cC;obtain ⟨L,b1,b2⟩:=h.cL;obtain ⟨Q,c1,c2⟩:=h.cS;obtain ⟨P,N,d1,d2,d3⟩:=h.cT;refine ⟨⟨C,hc n1 a1,a2.keep hk⟩,⟨L,hc n2 b1,b2.keep hk⟩,⟨Q,hc n3 c1,c2.keep hk⟩,⟨P,N,hc n4 d1,hc n4 d2,d3.keep hk⟩,hc n5 h.cO,hr,fun x h1 h2=>?_,h.ne⟩;by_cases e:x=j
 ·subst e;simp only [if_true];exact hv
 ·simp only [e,if_false];exact (h.rows x (by omega) h2).keep hk
def wT (t:az) (st:List Int) (cs:List (List Int)):List (List Int):=(List.range t.ps.length).map (bK t st cs)
def Nl (w:World) (l:List (List Int)) (e:Ending) (w':World):Prop:=Below w.heap.size w w'/\∃v,e=.returned v/\aR Any w' v l
theorem table_t (S:Nat->Prop) (w:World) (v vs vc:Value) (t:az) (st:List Int) (cs:List (List Int)) (hT:aI S w v t) (hS:ah S w vs st) (hC:aR S w vc cs)
  (he:aH t=0) (Tv:t.ns.length<=64) (hz:∀k,(gs t.ns k).size<=70000)
  (hn:t.ps.length<=64) (hm:cs.length<=16) (hm0:0<cs.length) (ue:(aD t.ns).length<=st.length) (hrl:∀a,a<cs.length->(gl cs a).length=cs.length) (hcb:∀a k,0<=gi (gl cs a) k/\gi (gl cs a) k<=1000)
  (htb:∀j s,j<t.ps.length -> -1<=gi (bK t st cs j) s/\gi (bK t st cs j) s<=100000) (jv:(aD t.ns).length<=64) :
  Calls Tryz.prog 170 #[v,vs,vc] w (Nl w (wT t st cs)):=by
 obtain ⟨P,N,rfl,hP,hN⟩:=hT;obtain ⟨p,cap,rfl,hcap,GJ⟩:=ay.open hP;obtain ⟨qS,sr,rfl,_,_⟩:=ay.open hS;obtain ⟨fC,LA,Nh⟩:=hC;obtain ⟨qC,rF,rfl,_,_⟩:=ay.open LA;have hC:aR S w (.slice qC cs.length rF) cs:=⟨fC,LA,Nh⟩;clear LA Nh;have hmk:=fun W=>run_make_row' (P:=Tryz.prog) 23 26 (.slice none 0 0) 24 Tryz.underlying23 Tryz.Tu rfl .i64 .i64 t.ps.length (by omega) (by omega) W
 have qG:Below w.heap.size w (((((w.alloc (.cells #[.slice p t.ps.length cap,N] 39)).alloc (.cells #[.slice qS st.length sr] 26)).alloc (.cells #[.slice qC cs.length rF] 23)).alloc (.cells (madeCells #[.slice none 0 0] t.ps.length) 26)).alloc (.cells #[.slice (some ⟨w.heap.size+1+1+1,0,none⟩) t.ps.length t.ps.length] 23)):=(((((dM _ w).alloc (af _) _).alloc (by simp) _).alloc (by simp;omega) _).alloc (by simp;omega) _).alloc (by simp;omega) _
 have Ql:aI S (((((w.alloc (.cells #[.slice p t.ps.length cap,N] 39)).alloc (.cells #[.slice qS st.length sr] 26)).alloc (.cells #[.slice qC cs.length rF] 23)).alloc (.cells (madeCells #[.slice none 0 0] t.ps.length) 26)).alloc (.cells #[.slice (some ⟨w.heap.size+1+1+1,0,none⟩) t.ps.length t.ps.length] 23)) (.agg #[.slice p t.ps.length cap,N]) t:=aI.keep ⟨_,_,rfl,hP,hN⟩ (Kept.below qG)
 have Tw:Below (((w.alloc (.cells #[.slice p t.ps.length cap,N] 39)).alloc (.cells #[.slice qS st.length sr] 26)).alloc (.cells #[.slice qC cs.length rF] 23)).heap.size (((w.alloc (.cells #[.slice p t.ps.length cap,N] 39)).alloc (.cells #[.slice qS st.length sr] 26)).alloc (.cells #[.slice qC cs.length rF] 23)) (((((w.alloc (.cells #[.slice p t.ps.length cap,N] 39)).alloc (.cells #[.slice qS st.length sr] 26)).alloc (.cells #[.slice qC cs.length rF] 23)).alloc (.cells (madeCells #[.slice none 0 0] t.ps.length) 26)).alloc (.cells #[.slice (some ⟨w.heap.size+1+1+1,0,none⟩) t.ps.length t.ps.length] 23)):=((dM _ _).alloc (af _) _).alloc (by simp) _
 have hb12:Below (w.alloc (.cells #[.slice p t.ps.length cap,N] 39)).heap.size (w.alloc (.cells #[.slice p t.ps.length cap,N] 39)) (((w.alloc (.cells #[.slice p t.ps.length cap,N] 39)).alloc (.cells #[.slice qS st.length sr] 26)).alloc (.cells #[.slice qC cs.length rF] 23)):=((dM _ _).alloc (af _) _).alloc (by simp) _
 have hb23:Below ((w.alloc (.cells #[.slice p t.ps.length cap,N] 39)).alloc (.cells #[.slice qS st.length sr] 26)).heap.size ((w.alloc (.cells #[.slice p t.ps.length cap,N] 39)).alloc (.cells #[.slice qS st.length sr] 26)) (((w.alloc (.cells #[.slice p t.ps.length cap,N] 39)).alloc (.cells #[.slice qS st.length sr] 26)).alloc (.cells #[.slice qC cs.length rF] 23)):=(dM _ _).alloc (af _) _;have c0:=cell_later Tw (cell_later hb12 (aS w #[.slice p t.ps.length cap,N] 39 0))
 have c1:=cell_later Tw (cell_later hb12 (aS w #[.slice p t.ps.length cap,N] 39 1));have c2:=cell_later Tw (cell_later hb23 (sJ (w.alloc (.cells #[.slice p t.ps.length cap,N] 39)) (.slice qS st.length sr) 26));have c3:=cell_later Tw (sJ ((w.alloc (.cells #[.slice p t.ps.length cap,N] 39)).alloc (.cells #[.slice qS st.length sr] 26)) (.slice qC cs.length rF) 23);simp only [aQ] at c2 c3
 have c4:(((((w.alloc (.cells #[.slice p t.ps.length cap,N] 39)).alloc (.cells #[.slice qS st.length sr] 26)).alloc (.cells #[.slice qC cs.length rF] 23)).alloc (.cells (madeCells #[.slice none 0 0] t.ps.length) 26)).alloc (.cells #[.slice (some ⟨w.heap.size+1+1+1,0,none⟩) t.ps.length t.ps.length] 23)).rowIs (w.heap.size+1+1+1) 26 t.ps.length (fun _=>.slice none 0 0):=by
  have h:=Bo (((w.alloc (.cells #[.slice p t.ps.length cap,N] 39)).alloc (.cells #[.slice qS st.length sr] 26)).alloc (.cells #[.slice qC cs.length rF] 23)) (.slice none 0 0) t.ps.length 26;simp only [aQ] at h;exact h.alloc _
 have c5:(((((w.alloc (.cells #[.slice p t.ps.length cap,N] 39)).alloc (.cells #[.slice qS st.length sr] 26)).alloc (.cells #[.slice qC cs.length rF] 23)).alloc (.cells (madeCells #[.slice none 0 0] t.ps.length) 26)).alloc (.cells #[.slice (some ⟨w.heap.size+1+1+1,0,none⟩) t.ps.length t.ps.length] 23)).cell? ⟨w.heap.size+1+1+1+1,0,none⟩=some (.slice (some ⟨w.heap.size+1+1+1,0,none⟩) t.ps.length t.ps.length):=by
  have h:=(sJ ((((w.alloc (.cells #[.slice p t.ps.length cap,N] 39)).alloc (.cells #[.slice qS st.length sr] 26)).alloc (.cells #[.slice qC cs.length rF] 23)).alloc (.cells (madeCells #[.slice none 0 0] t.ps.length) 26)) (.slice (some ⟨w.heap.size+1+1+1,0,none⟩) t.ps.length t.ps.length) 23);simpa only [aQ] using h
 have z5:(((((w.alloc (.cells #[.slice p t.ps.length cap,N] 39)).alloc (.cells #[.slice qS st.length sr] 26)).alloc (.cells #[.slice qC cs.length rF] 23)).alloc (.cells (madeCells #[.slice none 0 0] t.ps.length) 26)).alloc (.cells #[.slice (some ⟨w.heap.size+1+1+1,0,none⟩) t.ps.length t.ps.length] 23)).heap.size=w.heap.size+5:=by simp
 have hL:=Fz S _ _ t Ql (by omega) (by omega) hz;have HL:=aa hL;have Tx:=aa qG;have C0:=aa c0;have C1:=aa c1;have C2:=aa c2;have C3:=aa c3;have C4:=aa c4;have C5:=aa c5;have Z5:=aa z5;have HC:=aa hC;have HS:=aa hS;have HP:=aa hP;clear GJ Tw hb12 hb23 qG Ql c0 c1 c2 c3 c4 c5 z5 hL hC hS hP hN hz
 go_enter Tryz.func170,Tryz.ntmps170
 go_wp2_with fail;generalize (((((w.alloc (.cells #[.slice p t.ps.length cap,N] 39)).alloc (.cells #[.slice qS st.length sr] 26)).alloc (.cells #[.slice qC cs.length rF] 23)).alloc (.cells (madeCells #[.slice none 0 0] t.ps.length) 26)).alloc (.cells #[.slice (some ⟨w.heap.size+1+1+1,0,none⟩) t.ps.length t.ps.length] 23))=w5 at *;clear hmk;refine HL.out.mono ?_;rintro e w6 ⟨hb6,⟨h1,_⟩ | ⟨_,lv,rfl,hlv⟩⟩
 ·exact absurd he h1
 obtain ⟨lp,lc,rfl,_,_⟩:=ay.open hlv;have hb7:Below w6.heap.size w6 (w6.alloc (.cells #[.slice lp (aD t.ns).length lc] 26)):=(dM _ _).alloc (af _) _;have BA:Below w5.heap.size w5 (w6.alloc (.cells #[.slice lp (aD t.ns).length lc] 26)):=hb6.trans (hb7.mono hb6.size);have d5:=cell_later BA C5.out;have d6:=sJ w6 (.slice lp (aD t.ns).length lc) 26;have hbw7:Below w.heap.size w (w6.alloc (.cells #[.slice lp (aD t.ns).length lc] 26)):=Tx.out.trans (BA.mono Tx.out.size);have z6:w.heap.size+5<=w6.heap.size:=by have:=Z5.out;have:=hb6.size;omega
 have hF:JX (w6.alloc (.cells #[.slice lp (aD t.ns).length lc] 26)) t st cs (w.heap.size+1+1) w6.heap.size (w.heap.size+1) w.heap.size (w.heap.size+1+1+1+1) (w.heap.size+1+1+1) (fun _=>.slice none 0 0) t.ps.length :=
  ⟨⟨_,cell_later BA C3.out,(((HC.out.sub (T:=fun b=>b<w.heap.size) fun b _ hb=>hb).keep (Kept.below Tx.out)).keep (Kept.below BA)).sub fun b hb _=>by omega⟩,
   ⟨_,d6,(hlv.keep (Kept.below hb7)).sub fun b hb _=>by have:=Z5.out;omega⟩,
   ⟨_,cell_later BA C2.out,(((HS.out.sub (T:=fun b=>b<w.heap.size) fun b _ hb=>hb).keep (Kept.below Tx.out)).keep (Kept.below BA)).sub fun b hb _=>by omega⟩,⟨_,_,cell_later BA C0.out,cell_later BA C1.out,(((HP.out.sub (T:=fun b=>b<w.heap.size) fun b _ hb=>hb).keep (Kept.below Tx.out)).keep (Kept.below BA)).sub fun b hb _=>by omega⟩,d5,C4.out.of_block (BA.block _ (by have:=Z5.out;omega)),fun j h1 h2=>by omega,by omega,by omega,by omega,by omega,by omega⟩
 have HF:=aa hF;have HBW:=aa hbw7;clear hb6 hlv hb7 BA d6 hbw7 hF;have CR:=aa htb;have uf:=aa hcb;have ug:=aa hrl;clear htb hcb hrl HL C0 C1 C2 C3 C4 C5 HC HS HP;go_wp2_with fail;generalize (w6.alloc (.cells #[.slice lp (aD t.ns).length lc] 26))=w7 at *;generalize w6.heap.size=pL at *
 go_loopw [11] (fun i wr=>∃(k:Nat) (V:Nat->Value),k<=t.ps.length/\i=.int .i64 ((k:Int) - 1)/\Hid (JX wr t st cs (w.heap.size+1+1) pL (w.heap.size+1) w.heap.size (w.heap.size+1+1+1+1) (w.heap.size+1+1+1) V k)/\Hid (Below w.heap.size w wr)) (fun i _=>(intOf i+1).toNat)
 case atStart=>exact ⟨t.ps.length,_,af _,by go_num,HF,HBW⟩
 case round =>
  obtain ⟨k,V,hk,rfl,hF,hB⟩:=hrel;rcases yY k with rfl | kW
  ·have hcO:=hF.out.cO
   go_wp2_with fail;go_ret;refine ⟨hB.out,_,rfl,V,?_,?_⟩
   ·refine ⟨some ⟨w.heap.size+1+1+1,0,none⟩,t.ps.length,by rw [show (wT t st cs).length=t.ps.length by simp [wT]];rfl,by simp [wT],.inr ⟨_,0,rfl,trivial,fun k hk=>?_⟩⟩
    rw [mg];exact hF.out.row.cell (by simpa [wT] using hk)
   ·intro k hk
    (have hk2:k<t.ps.length:=by simpa [wT] using hk);(have he:gl (wT t st cs) k=bK t st cs k:=by simp [gl,wT,hk2]);rw [he];exact (hF.out.rows k (aL _) hk2).sub fun _ _ _=>trivial
  ·obtain ⟨j,rfl⟩:∃j,k=j+1:=⟨k - 1,by omega⟩
   go_wp2_with fail;refine (fill_t wr t st cs _ _ _ _ _ _ V j (by omega) hF.out hn hm hm0 ue ug.out uf.out CR.out jv).mono ?_;rintro e w8 ⟨rfl,hg,v,hr,hv⟩;have hF2:=aa (hF.out.step hg hr hv);have Yw:=aa (hB.out.grown hg hB.out.size fun k e=>by cases e<;>omega);clear hg hr hv;go_wp2_with fail
   go_roundw
   case rel=>exact ⟨j,_,by omega,by go_num,hF2,Yw⟩
   case measure=>simp [intOf]
def Up (w w':World):Prop:=Below w.heap.size w w'
theorem Up.refl (w:World):Up w w:=dM _ _
theorem Up.trans {a b c:World} (h:Up a b) (k:Up b c):Up a c:=iH h (Below.mono k h.size)
theorem Up.alloc (w:World) (o:Obj):Up w (w.alloc o):=(dM _ _).alloc (af _) _
theorem Up.drewN (w:World) (n:Nat):Up w (w.drewN n):=below_drewN (dM _ _) n
theorem Up.kept {w w':World} (h:Up w w') (S:Nat->Prop):Kept S w w':=Kept.below h
theorem Up.size {w w':World} (h:Up w w'):w.heap.size<=w'.heap.size:=Below.size h
theorem Up.cell {w w':World} (h:Up w w') {p:Addr} {v:Value} (hc:w.cell? p=some v):w'.cell? p=some v:=by
 obtain ⟨b,o,i⟩:=p;have hl:b<w.heap.size:=eG w _ hc;rw [Below.cell h (p:=⟨b,o,i⟩) hl];exact hc
theorem iU (w:World) (P N:Value) (T:TypeId):(w.alloc (.cells #[P,N] T)).cell? ⟨w.heap.size,0,none⟩=some P:=by simp [World.cell?_alloc_new]
theorem iV (w:World) (P N:Value) (T:TypeId):(w.alloc (.cells #[P,N] T)).cell? ⟨w.heap.size,1,none⟩=some N:=by simp [World.cell?_alloc_new]
theorem nW (w:World) (P:Value) (T:TypeId):(w.alloc (.cells #[P] T)).cell? ⟨w.heap.size,0,none⟩=some P:=by simp [World.cell?_alloc_new]
theorem table_v (S:Nat->Prop) (w:World) (v vs vc:Value) (t:az) (st:List Int) (cs:List (List Int)) (hT:aI S w v t) (hS:ah S w vs st) (hC:aR S w vc cs)
  (hz:∀k,(gs t.ns k).size<=70000) (hv:Valid t st cs):Calls Tryz.prog 170 #[v,vs,vc] w (Nl w (wT t st cs)):=by
 obtain ⟨h1,h2,h3,hok,hn⟩:=aF hv.tree;obtain ⟨m1,m2,m3,m4,m5⟩:=yE hv.mat;have hl:=yF t.ns;exact table_t S w v vs vc t st cs hT hS hC hv.tree (by omega) hz h2 m2 m1 (fB hv.len.symm) m3 m4 (fun j s hj=>hv.tb j s hj) (by omega)
theorem dW {S:Nat->Prop} {w:World} {v:Value} {xs:List (List Int)} (h:aR S w v xs):∃p cap,v=.slice p xs.length cap/\xs.length<=cap /\
  ∀k,k<xs.length->∃b off q c,p=some ⟨b,off,none⟩/\w.cell? ⟨b,off+k,none⟩=some (.slice q (gl xs k).length c)/\ah S w (.slice q (gl xs k).length c) (gl xs k):=by
 obtain ⟨f,jf,hr⟩:=h;obtain ⟨p,cap,rfl,hcap,H⟩:=ay.open jf;refine ⟨p,cap,rfl,hcap,fun k hk=>?_⟩;obtain ⟨b,off,rfl,hc⟩:=H k hk;have h1:=hr k hk;obtain ⟨q,c,e,_,_⟩:=ay.open h1;rw [e] at hc h1;exact ⟨b,off,q,c,rfl,hc,h1⟩
theorem dG {S:Nat->Prop} {w:World} {p:Option Addr} {n cap:Nat} {xs:List Int} (h:ah S w (.slice p n cap) xs) {k:Nat} (hk:k<xs.length):∃b off,p=some ⟨b,off,none⟩/\w.cell? ⟨b,off+k,none⟩=some (.int .i64 (gi xs k)):=by
 obtain ⟨q,c,e,_,H⟩:=ay.open h;injection e with e1;subst e1;exact H k hk
theorem dr {S:Nat->Prop} {w:World} {p:Option Addr} {n cap:Nat} {xs:List ByteArray} (h:au S w (.slice p n cap) xs) {k:Nat} (hk:k<xs.length):∃b off,p=some ⟨b,off,none⟩/\w.cell? ⟨b,off+k,none⟩=some (.string (gs xs k)):=by
 obtain ⟨q,c,e,_,H⟩:=ay.open h;injection e with e1;subst e1;exact H k hk
theorem gP {S:Nat->Prop} {w:World} {p:Option Addr} {n cap:Nat} {xs:List (List Int)} (h:aR S w (.slice p n cap) xs) {k:Nat} (hk:k<xs.length) :
  ∃b off q c,p=some ⟨b,off,none⟩/\w.cell? ⟨b,off+k,none⟩=some (.slice q (gl xs k).length c)/\ah S w (.slice q (gl xs k).length c) (gl xs k):=by
 obtain ⟨q,c,e,_,H⟩:=dW h;injection e with e1;subst e1;exact H k hk
theorem gl_tabL (t:az) (st:List Int) (cs:List (List Int)) {k:Nat} (hk:k<t.ps.length):gl (wT t st cs) k=bK t st cs k:=by simp [gl,wT,hk]
theorem Ty (t:az) (st:List Int) (cs:List (List Int)):(wT t st cs).length=t.ps.length:=by simp [wT]
end
end Go.Proofs.YthgabkgmkolobaaGreat
