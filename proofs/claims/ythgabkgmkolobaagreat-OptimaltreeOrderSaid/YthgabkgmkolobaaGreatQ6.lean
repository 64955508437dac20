/- The contract of parsimony.table. The contracts of parsimony.Score and Table. The .. -/
import Derived.Test.YthgabkgmkolobaaGreatRows
import Derived.ProofKit
import Derived.OpenShut
import Derived.ShutString
import Derived.ChangeOld
import Derived.Below
import Derived.Deep.Matrix
import Derived.Lib.SmallJoins
import Derived.Test.YthgabkgmkolobaaGreatQ5
set_option maxRecDepth 100000
set_option maxHeartbeats 800000
namespace Go.Proofs.YthgabkgmkolobaaGreat
section
open Go.RowKit Go.Deep
theorem Tryz.Na:(Tryz.prog.info? 26).map (fun i=>(i.zero,i.size,i.bytes))=some (some (.slice none 0 0),1,24):=by kernel_rfl
theorem aH (W:World) (cs:Array Value) (t:TypeId) (k:Nat):(W.alloc (.cells cs t)).cell? ⟨W.heap.size,k,none⟩=cs[k]?:=by
 unfold World.cell?;rw [qB];rfl
theorem lH (W:World) (v:Value) (t:TypeId):(W.alloc (.cells #[v] t)).cell? ⟨W.heap.size,0,none⟩=some v:=aH W _ t 0
theorem zI.step {w w':World} {t:aF} {st:List Int} {cs:List (List Int)} {pC pL pS pT pO ob:Nat} {V:Nat->Value} {j:Nat} {v:Value} (h:zI w t st cs pC pL pS pT pO ob V (j+1))
  (hg:w.grownBy w' (some ob)) (hr:w'.rowIs ob 26 t.ps.length (fun x=>if x=j then v else V x)) (hv:ay (· ≠ ob) w' v (aW t st cs j)):zI w' t st cs pC pL pS pT pO ob (fun x=>if x=j then v else V x) j:=by
 have hk:Kept (· ≠ ob) w w':=fun b hb hl=>hg.block b hl (by simp;exact hb);have hc:∀ {p o:Nat} {x:Value},p≠ob->w.cell? ⟨p,o,none⟩=some x->w'.cell? ⟨p,o,none⟩=some x:=fun hp hx=>hg.cell hx (by simp;exact hp);obtain ⟨n1,n2,n3,n4,n5⟩:=h.ne;obtain ⟨C,a1,a2⟩:=h.cC;obtain ⟨L,b1,b2⟩:=h.cL;obtain ⟨Q,c1,c2⟩:=h.cS;obtain ⟨P,N,d1,d2,d3⟩:=h.cT;refine ⟨⟨C,hc n1 a1,a2.keep hk⟩,⟨L,hc n2 b1,b2.keep hk⟩,⟨Q,hc n3 c1,c2.keep hk⟩,⟨P,N,hc n4 d1,hc n4 d2,d3.keep hk⟩,hc n5 h.cO,hr,fun x h1 h2=>?_,h.ne⟩;by_cases e:x=j
 ·subst e;simp only [if_true];exact hv
 ·simp only [e,if_false];exact (h.rows x (by omega) h2).keep hk
def oF (t:aF) (st:List Int) (cs:List (List Int)):List (List Int):=(List.range t.ps.length).map (aW t st cs)
def BX (w:World) (l:List (List Int)) (e:Ending) (w':World):Prop:=Below w.heap.size w w'/\∃v,e=.returned v/\bh Any w' v l
theorem TS (S:Nat->Prop) (w:World) (v vs vc:Value) (t:aF) (st:List Int) (cs:List (List Int)) (hT:aC S w v t) (hS:ay S w vs st) (hC:bh S w vc cs)
  (he:aB t=0) (Vt:t.ns.length<=64) (hz:∀k,(gs t.ns k).size<=70000)
  (hn:t.ps.length<=64) (hm:cs.length<=16) (hm0:0<cs.length) (qE:(az t.ns).length<=st.length) (hrl:∀a,a<cs.length->(gl cs a).length=cs.length) (hcb:∀a k,0<=gi (gl cs a) k/\gi (gl cs a) k<=1000)
  (htb:∀j s,j<t.ps.length -> -1<=gi (aW t st cs j) s/\gi (aW t st cs j) s<=100000) (rA:(az t.ns).length<=64) :
  Calls Tryz.prog 170 #[v,vs,vc] w (BX w (oF t st cs)):=by
 obtain ⟨P,N,rfl,hP,hN⟩:=hT;obtain ⟨p,cap,rfl,hcap,xH⟩:=aA.open hP;obtain ⟨qS,lg,rfl,_,_⟩:=aA.open hS;obtain ⟨fC,AQ,BR⟩:=hC;obtain ⟨qC,kL,rfl,_,_⟩:=aA.open AQ;have hC:bh S w (.slice qC cs.length kL) cs:=⟨fC,AQ,BR⟩;clear AQ BR;have hmk:=fun W=>run_make_row' (P:=Tryz.prog) 23 26 (.slice none 0 0) 24 Tryz.underlying23 Tryz.Na rfl .i64 .i64 t.ps.length (by omega) (by omega) W
 have oD:Below w.heap.size w (((((w.alloc (.cells #[.slice p t.ps.length cap,N] 39)).alloc (.cells #[.slice qS st.length lg] 26)).alloc (.cells #[.slice qC cs.length kL] 23)).alloc (.cells (madeCells #[.slice none 0 0] t.ps.length) 26)).alloc (.cells #[.slice (some ⟨w.heap.size+1+1+1,0,none⟩) t.ps.length t.ps.length] 23)):=(((((cN _ w).alloc (ah _) _).alloc (by simp) _).alloc (by simp;omega) _).alloc (by simp;omega) _).alloc (by simp;omega) _
 have DY:aC S (((((w.alloc (.cells #[.slice p t.ps.length cap,N] 39)).alloc (.cells #[.slice qS st.length lg] 26)).alloc (.cells #[.slice qC cs.length kL] 23)).alloc (.cells (madeCells #[.slice none 0 0] t.ps.length) 26)).alloc (.cells #[.slice (some ⟨w.heap.size+1+1+1,0,none⟩) t.ps.length t.ps.length] 23)) (.agg #[.slice p t.ps.length cap,N]) t:=aC.keep ⟨_,_,rfl,hP,hN⟩ (Kept.below oD)
 have FY:Below (((w.alloc (.cells #[.slice p t.ps.length cap,N] 39)).alloc (.cells #[.slice qS st.length lg] 26)).alloc (.cells #[.slice qC cs.length kL] 23)).heap.size (((w.alloc (.cells #[.slice p t.ps.length cap,N] 39)).alloc (.cells #[.slice qS st.length lg] 26)).alloc (.cells #[.slice qC cs.length kL] 23)) (((((w.alloc (.cells #[.slice p t.ps.length cap,N] 39)).alloc (.cells #[.slice qS st.length lg] 26)).alloc (.cells #[.slice qC cs.length kL] 23)).alloc (.cells (madeCells #[.slice none 0 0] t.ps.length) 26)).alloc (.cells #[.slice (some ⟨w.heap.size+1+1+1,0,none⟩) t.ps.length t.ps.length] 23)):=((cN _ _).alloc (ah _) _).alloc (by simp) _
 have Qh:Below (w.alloc (.cells #[.slice p t.ps.length cap,N] 39)).heap.size (w.alloc (.cells #[.slice p t.ps.length cap,N] 39)) (((w.alloc (.cells #[.slice p t.ps.length cap,N] 39)).alloc (.cells #[.slice qS st.length lg] 26)).alloc (.cells #[.slice qC cs.length kL] 23)):=((cN _ _).alloc (ah _) _).alloc (by simp) _
 have Vu:Below ((w.alloc (.cells #[.slice p t.ps.length cap,N] 39)).alloc (.cells #[.slice qS st.length lg] 26)).heap.size ((w.alloc (.cells #[.slice p t.ps.length cap,N] 39)).alloc (.cells #[.slice qS st.length lg] 26)) (((w.alloc (.cells #[.slice p t.ps.length cap,N] 39)).alloc (.cells #[.slice qS st.length lg] 26)).alloc (.cells #[.slice qC cs.length kL] 23)):=(cN _ _).alloc (ah _) _;have c0:=cell_later FY (cell_later Qh (aH w #[.slice p t.ps.length cap,N] 39 0))
 have c1:=cell_later FY (cell_later Qh (aH w #[.slice p t.ps.length cap,N] 39 1));have c2:=cell_later FY (cell_later Vu (lH (w.alloc (.cells #[.slice p t.ps.length cap,N] 39)) (.slice qS st.length lg) 26));have c3:=cell_later FY (lH ((w.alloc (.cells #[.slice p t.ps.length cap,N] 39)).alloc (.cells #[.slice qS st.length lg] 26)) (.slice qC cs.length kL) 23);simp only [aL] at c2 c3
 have c4:(((((w.alloc (.cells #[.slice p t.ps.length cap,N] 39)).alloc (.cells #[.slice qS st.length lg] 26)).alloc (.cells #[.slice qC cs.length kL] 23)).alloc (.cells (madeCells #[.slice none 0 0] t.ps.length) 26)).alloc (.cells #[.slice (some ⟨w.heap.size+1+1+1,0,none⟩) t.ps.length t.ps.length] 23)).rowIs (w.heap.size+1+1+1) 26 t.ps.length (fun _=>.slice none 0 0):=by
  have h:=World.rowIs_made (((w.alloc (.cells #[.slice p t.ps.length cap,N] 39)).alloc (.cells #[.slice qS st.length lg] 26)).alloc (.cells #[.slice qC cs.length kL] 23)) (.slice none 0 0) t.ps.length 26;simp only [aL] at h;exact h.alloc _
 have c5:(((((w.alloc (.cells #[.slice p t.ps.length cap,N] 39)).alloc (.cells #[.slice qS st.length lg] 26)).alloc (.cells #[.slice qC cs.length kL] 23)).alloc (.cells (madeCells #[.slice none 0 0] t.ps.length) 26)).alloc (.cells #[.slice (some ⟨w.heap.size+1+1+1,0,none⟩) t.ps.length t.ps.length] 23)).cell? ⟨w.heap.size+1+1+1+1,0,none⟩=some (.slice (some ⟨w.heap.size+1+1+1,0,none⟩) t.ps.length t.ps.length):=by
  have h:=(lH ((((w.alloc (.cells #[.slice p t.ps.length cap,N] 39)).alloc (.cells #[.slice qS st.length lg] 26)).alloc (.cells #[.slice qC cs.length kL] 23)).alloc (.cells (madeCells #[.slice none 0 0] t.ps.length) 26)) (.slice (some ⟨w.heap.size+1+1+1,0,none⟩) t.ps.length t.ps.length) 23);simpa only [aL] using h
 have z5:(((((w.alloc (.cells #[.slice p t.ps.length cap,N] 39)).alloc (.cells #[.slice qS st.length lg] 26)).alloc (.cells #[.slice qC cs.length kL] 23)).alloc (.cells (madeCells #[.slice none 0 0] t.ps.length) 26)).alloc (.cells #[.slice (some ⟨w.heap.size+1+1+1,0,none⟩) t.ps.length t.ps.length] 23)).heap.size=w.heap.size+5:=by simp
 have hL:=AP S _ _ t DY (by omega) (by omega) hz;have HL:=aa hL;have Nb:=aa oD;have C0:=aa c0;have C1:=aa c1;have C2:=aa c2;have C3:=aa c3;have C4:=aa c4;have C5:=aa c5;have Z5:=aa z5;have HC:=aa hC;have HS:=aa hS;have HP:=aa hP;clear xH FY Qh Vu oD DY c0 c1 c2 c3 c4 c5 z5 hL hC hS hP hN hz
 go_enter Tryz.func170,Tryz.ntmps170
 go_wp2_with fail;generalize (((((w.alloc (.cells #[.slice p t.ps.length cap,N] 39)).alloc (.cells #[.slice qS st.length lg] 26)).alloc (.cells #[.slice qC cs.length kL] 23)).alloc (.cells (madeCells #[.slice none 0 0] t.ps.length) 26)).alloc (.cells #[.slice (some ⟨w.heap.size+1+1+1,0,none⟩) t.ps.length t.ps.length] 23))=w5 at *;clear hmk;refine HL.out.mono ?_;rintro e w6 ⟨SJ,⟨h1,_⟩ | ⟨_,lv,rfl,hlv⟩⟩
 ·exact absurd he h1
 obtain ⟨lp,lc,rfl,_,_⟩:=aA.open hlv;have M8:Below w6.heap.size w6 (w6.alloc (.cells #[.slice lp (az t.ns).length lc] 26)):=(cN _ _).alloc (ah _) _;have sI:Below w5.heap.size w5 (w6.alloc (.cells #[.slice lp (az t.ns).length lc] 26)):=SJ.trans (M8.mono SJ.size);have d5:=cell_later sI C5.out;have d6:=lH w6 (.slice lp (az t.ns).length lc) 26;have Vv:Below w.heap.size w (w6.alloc (.cells #[.slice lp (az t.ns).length lc] 26)):=Nb.out.trans (sI.mono Nb.out.size);have z6:w.heap.size+5<=w6.heap.size:=by have:=Z5.out;have:=SJ.size;omega
 have hF:zI (w6.alloc (.cells #[.slice lp (az t.ns).length lc] 26)) t st cs (w.heap.size+1+1) w6.heap.size (w.heap.size+1) w.heap.size (w.heap.size+1+1+1+1) (w.heap.size+1+1+1) (fun _=>.slice none 0 0) t.ps.length :=
  ⟨⟨_,cell_later sI C3.out,(((HC.out.sub (T:=fun b=>b<w.heap.size) fun b _ hb=>hb).keep (Kept.below Nb.out)).keep (Kept.below sI)).sub fun b hb _=>by omega⟩,
   ⟨_,d6,(hlv.keep (Kept.below M8)).sub fun b hb _=>by have:=Z5.out;omega⟩,
   ⟨_,cell_later sI C2.out,(((HS.out.sub (T:=fun b=>b<w.heap.size) fun b _ hb=>hb).keep (Kept.below Nb.out)).keep (Kept.below sI)).sub fun b hb _=>by omega⟩,⟨_,_,cell_later sI C0.out,cell_later sI C1.out,(((HP.out.sub (T:=fun b=>b<w.heap.size) fun b _ hb=>hb).keep (Kept.below Nb.out)).keep (Kept.below sI)).sub fun b hb _=>by omega⟩,d5,C4.out.of_block (sI.block _ (by have:=Z5.out;omega)),fun j h1 h2=>by omega,by omega,by omega,by omega,by omega,by omega⟩
 have HF:=aa hF;have HBW:=aa Vv;clear SJ hlv M8 sI d6 Vv hF;have BS:=aa htb;have DR:=aa hcb;have o9:=aa hrl;clear htb hcb hrl HL C0 C1 C2 C3 C4 C5 HC HS HP;go_wp2_with fail;generalize (w6.alloc (.cells #[.slice lp (az t.ns).length lc] 26))=w7 at *;generalize w6.heap.size=pL at *
 go_loopw [11] (fun i wr=>∃(k:Nat) (V:Nat->Value),k<=t.ps.length/\i=.int .i64 ((k:Int) - 1)/\Hid (zI wr t st cs (w.heap.size+1+1) pL (w.heap.size+1) w.heap.size (w.heap.size+1+1+1+1) (w.heap.size+1+1+1) V k)/\Hid (Below w.heap.size w wr)) (fun i _=>(intOf i+1).toNat)
 case atStart=>exact ⟨t.ps.length,_,ah _,by go_num,HF,HBW⟩
 case round =>
  obtain ⟨k,V,hk,rfl,hF,hB⟩:=hrel;rcases zG k with rfl | ud
  ·have Sw:=hF.out.cO
   go_wp2_with fail;go_ret;refine ⟨hB.out,_,rfl,V,?_,?_⟩
   ·refine ⟨some ⟨w.heap.size+1+1+1,0,none⟩,t.ps.length,by rw [show (oF t st cs).length=t.ps.length by simp [oF]];rfl,by simp [oF],.inr ⟨_,0,rfl,trivial,fun k hk=>?_⟩⟩
    rw [ij];exact hF.out.row.cell (by simpa [oF] using hk)
   ·intro k hk
    (have hk2:k<t.ps.length:=by simpa [oF] using hk);(have he:gl (oF t st cs) k=aW t st cs k:=by simp [gl,oF,hk2]);rw [he];exact (hF.out.rows k (aI _) hk2).sub fun _ _ _=>trivial
  ·obtain ⟨j,rfl⟩:∃j,k=j+1:=⟨k - 1,by omega⟩
   go_wp2_with fail;refine (Vc wr t st cs _ _ _ _ _ _ V j (by omega) hF.out hn hm hm0 qE o9.out DR.out BS.out rA).mono ?_;rintro e w8 ⟨rfl,hg,v,hr,hv⟩;have hF2:=aa (hF.out.step hg hr hv);have qG:=aa (hB.out.grown hg hB.out.size fun k e=>by cases e<;>omega);clear hg hr hv;go_wp2_with fail
   go_roundw
   case rel=>exact ⟨j,_,by omega,by go_num,hF2,qG⟩
   case measure=>simp [intOf]
def Up (w w':World):Prop:=Below w.heap.size w w'
theorem Up.refl (w:World):Up w w:=cN _ _
theorem Up.trans {a b c:World} (h:Up a b) (k:Up b c):Up a c:=fc h (Below.mono k h.size)
theorem Up.alloc (w:World) (o:Obj):Up w (w.alloc o):=(cN _ _).alloc (ah _) _
theorem Up.drewN (w:World) (n:Nat):Up w (w.drewN n):=below_drewN (cN _ _) n
theorem Up.kept {w w':World} (h:Up w w') (S:Nat->Prop):Kept S w w':=Kept.below h
theorem Up.size {w w':World} (h:Up w w'):w.heap.size<=w'.heap.size:=Below.size h
theorem Up.cell {w w':World} (h:Up w w') {p:Addr} {v:Value} (hc:w.cell? p=some v):w'.cell? p=some v:=by
 obtain ⟨b,o,i⟩:=p;have hl:b<w.heap.size:=dN w _ hc;rw [Below.cell h (p:=⟨b,o,i⟩) hl];exact hc
theorem fO (w:World) (P N:Value) (T:TypeId):(w.alloc (.cells #[P,N] T)).cell? ⟨w.heap.size,0,none⟩=some P:=by simp [World.cell?_alloc_new]
theorem fP (w:World) (P N:Value) (T:TypeId):(w.alloc (.cells #[P,N] T)).cell? ⟨w.heap.size,1,none⟩=some N:=by simp [World.cell?_alloc_new]
theorem yu (w:World) (P:Value) (T:TypeId):(w.alloc (.cells #[P] T)).cell? ⟨w.heap.size,0,none⟩=some P:=by simp [World.cell?_alloc_new]
theorem TT (S:Nat->Prop) (w:World) (v vs vc:Value) (t:aF) (st:List Int) (cs:List (List Int)) (hT:aC S w v t) (hS:ay S w vs st) (hC:bh S w vc cs)
  (hz:∀k,(gs t.ns k).size<=70000) (hv:Valid t st cs):Calls Tryz.prog 170 #[v,vs,vc] w (BX w (oF t st cs)):=by
 obtain ⟨h1,h2,h3,hok,hn⟩:=aM hv.tree;obtain ⟨m1,m2,m3,m4,m5⟩:=uN hv.Sr;have hl:=uP t.ns;exact TS S w v vs vc t st cs hT hS hC hv.tree (by omega) hz h2 m2 m1 (gQ hv.len.symm) m3 m4 (fun j s hj=>hv.tb j s hj) (by omega)
theorem gM {S:Nat->Prop} {w:World} {v:Value} {xs:List (List Int)} (h:bh S w v xs):∃p cap,v=.slice p xs.length cap/\xs.length<=cap /\
  ∀k,k<xs.length->∃b off q c,p=some ⟨b,off,none⟩/\w.cell? ⟨b,off+k,none⟩=some (.slice q (gl xs k).length c)/\ay S w (.slice q (gl xs k).length c) (gl xs k):=by
 obtain ⟨f,iO,hr⟩:=h;obtain ⟨p,cap,rfl,hcap,H⟩:=aA.open iO;refine ⟨p,cap,rfl,hcap,fun k hk=>?_⟩;obtain ⟨b,off,rfl,hc⟩:=H k hk;have h1:=hr k hk;obtain ⟨q,c,e,_,_⟩:=aA.open h1;rw [e] at hc h1;exact ⟨b,off,q,c,rfl,hc,h1⟩
theorem gp {S:Nat->Prop} {w:World} {p:Option Addr} {n cap:Nat} {xs:List Int} (h:ay S w (.slice p n cap) xs) {k:Nat} (hk:k<xs.length):∃b off,p=some ⟨b,off,none⟩/\w.cell? ⟨b,off+k,none⟩=some (.int .i64 (gi xs k)):=by
 obtain ⟨q,c,e,_,H⟩:=aA.open h;injection e with e1;subst e1;exact H k hk
theorem cA {S:Nat->Prop} {w:World} {p:Option Addr} {n cap:Nat} {xs:List ByteArray} (h:av S w (.slice p n cap) xs) {k:Nat} (hk:k<xs.length):∃b off,p=some ⟨b,off,none⟩/\w.cell? ⟨b,off+k,none⟩=some (.string (gs xs k)):=by
 obtain ⟨q,c,e,_,H⟩:=aA.open h;injection e with e1;subst e1;exact H k hk
theorem iP {S:Nat->Prop} {w:World} {p:Option Addr} {n cap:Nat} {xs:List (List Int)} (h:bh S w (.slice p n cap) xs) {k:Nat} (hk:k<xs.length) :
  ∃b off q c,p=some ⟨b,off,none⟩/\w.cell? ⟨b,off+k,none⟩=some (.slice q (gl xs k).length c)/\ay S w (.slice q (gl xs k).length c) (gl xs k):=by
 obtain ⟨q,c,e,_,H⟩:=gM h;injection e with e1;subst e1;exact H k hk
theorem TU (t:aF) (st:List Int) (cs:List (List Int)) {k:Nat} (hk:k<t.ps.length):gl (oF t st cs) k=aW t st cs k:=by simp [gl,oF,hk]
theorem FZ (t:aF) (st:List Int) (cs:List (List Int)):(oF t st cs).length=t.ps.length:=by simp [oF]
end
section
open Go.ChangeShapes Go.WideShapes Go.ChangeAt Go.RowKit Go.Deep
theorem Qi:ownKnob Tryz.prog.godebug=none:=by kernel_rfl
theorem laidOut:laidOutB Tryz.prog=true:=by kernel_rfl
section
variable {H:Type} {enc:TypeId×Value->H} {W:World}
theorem zJ {n:Nat} (h:n<=maxLen):n<=9223372036854775807:=by unfold maxLen at h;exact h
theorem Lu {fuel:Nat} {v:Value} {x:DataW H×List MemPlace} (h:DataW.trod enc Tryz.prog W 0 (fun _=>true) true fuel 22 [v]=some x):∃xs:List ByteArray,av Any W v xs/\xs.length<=9223372036854775807/\∀k,(gs xs k).size<=9223372036854775807:=by
 rcases open_strings Tryz.underlying22 Tryz.underlying9 (by kernel_rfl) h with ⟨hcs,_⟩ | ⟨a,l,c,zs,hcs,_,hl,hm,hz,_,hcell,hwf⟩
 ·obtain rfl:v=.slice none 0 0:=by simpa using hcs
  exact ⟨[],⟨none,0,rfl,ah _,.inl rfl⟩,by simp,fun k=>by simp [gs]⟩
 ·obtain rfl:v=.slice (some a) l c:=by simpa using hcs
  simp only [if_true] at hz;have hlen:(zs.take l).length=l:=by simp;omega
  refine ⟨zs.take l,⟨some a,c,by rw [hlen],by rw [hlen];exact hl,?_⟩,by rw [hlen];exact zJ (aR hl hm),fun k=>?_⟩
  ·by_cases h0:l=0
   ·exact .inl (by rw [hlen];exact h0)
   ·obtain ⟨b,off,spot⟩:=a
    (have hspot:spot=none:=by simpa [Addr.add] using World.cell?_spot (hcell 0 (by omega)));subst hspot;refine .inr ⟨b,off,rfl,trivial,fun k hk=>?_⟩;rw [hlen] at hk;rw [<- add_plain,hcell k (by omega)];(have hk2:k<zs.length:=by omega);simp [gs,hk,hk2]
  ·by_cases hk:k<(zs.take l).length
   ·have hm:gs (zs.take l) k∈zs:=by
     have:gs (zs.take l) k=(zs.take l)[k]:=by unfold gs;rw [fh,gP hk];rfl
     rw [this];exact rJ (lz hk)
    exact zJ (hwf _ hm)
   ·have:gs (zs.take l) k=ByteArray.empty:=by simp [gs,List.getElem?_eq_none (by omega:(zs.take l).length<=k)]
    rw [this];simp
theorem Lv {fuel:Nat} {v:Value} {x:DataW H×List MemPlace} (h:DataW.trod enc Tryz.prog W 0 (fun _=>true) true fuel 23 [v]=some x):∃xs:List (List Int),bh Any W v xs/\xs.length<=9223372036854775807/\∀k,(gl xs k).length<=9223372036854775807:=by
 rcases open_int_rows Tryz.underlying23 Tryz.underlying26 Tryz.underlying3 (by kernel_rfl) (by kernel_rfl) h with ⟨hcs,_⟩ | ⟨a,l,c,A,L,C,Z,hcs,_,hl,hm,_,hr⟩
 ·obtain rfl:v=.slice none 0 0:=by simpa using hcs
  exact ⟨[],⟨fun _=>undef,⟨none,0,rfl,ah _,.inl rfl⟩,fun k hk=>absurd hk (bS _)⟩,by simp,fun k=>by simp [gl]⟩
 ·obtain rfl:v=.slice (some a) l c:=by simpa using hcs
  have hlen:((List.range l).map fun r=>(Z r).take (L r)).length=l:=by simp
  have vz:∀k,k<l->gl ((List.range l).map fun r=>(Z r).take (L r)) k=(Z k).take (L k):=fun k hk=>by simp [gl,hk]
  have BZ:∀k,k<l->((Z k).take (L k)).length=L k:=fun k hk=>by obtain ⟨_,h1,_,h3,_⟩:=hr k (by omega);simp;omega
  refine ⟨(List.range l).map fun r=>(Z r).take (L r),⟨fun k=>.slice (A k) (L k) (C k),⟨some a,c,by rw [hlen],by rw [hlen];exact hl,?_⟩,fun k hk=>?_⟩,by rw [hlen];exact zJ (aR hl hm),fun k=>?_⟩
  ·by_cases h0:l=0
   ·exact .inl (by rw [hlen];exact h0)
   ·obtain ⟨b,off,spot⟩:=a
    (have hspot:spot=none:=by simpa [Addr.add] using World.cell?_spot (hr 0 (by omega)).1);subst hspot;refine .inr ⟨b,off,rfl,trivial,fun k hk=>?_⟩;rw [hlen] at hk;rw [<- add_plain];exact (hr k (by omega)).1
  ·rw [hlen] at hk
   obtain ⟨_,h1,h2,h3,_,h5,h6⟩:=hr k (by omega);rw [vz k hk];refine ⟨A k,C k,by rw [BZ k hk],by rw [BZ k hk];exact h1,?_⟩;by_cases h0:L k=0
   ·exact .inl (by rw [BZ k hk];exact h0)
   ·cases hA:A k with
    | none=>have:=h5 hA;omega
    | some a' =>
     obtain ⟨_,h7⟩:=h6 a' hA;obtain ⟨b,off,rfl,hc⟩:=ints_at (zs:=Z k) (k:=.i64) (fun i hi=>h7 i (by omega)) (by omega);refine .inr ⟨b,off,rfl,trivial,fun j hj=>?_⟩;rw [BZ k hk] at hj;rw [hc j (by omega)];simp [gi,hj]
  ·by_cases hk:k<l
   ·rw [vz k hk,BZ k hk]
    obtain ⟨_,h1,h2,_⟩:=hr k (by omega);exact zJ (aR h1 h2)
   ·have:gl ((List.range l).map fun r=>(Z r).take (L r)) k=[]:=by simp [gl,hk]
    rw [this];simp
theorem F0 {t:TypeId} {v:Value} {d:DataW H} {p:List MemPlace} (h1:v.cells=#[v]) (h:DataW.Trod enc Tryz.prog W 0 (fun _=>true) true t v d p):∃fuel,DataW.trod enc Tryz.prog W 0 (fun _=>true) true fuel t [v]=some (d,p):=by
 obtain ⟨n,hn⟩:=h;rw [h1] at hn;exact ⟨n,hn⟩
theorem Lx {t:TypeId} {v:Value} {d:DataW H} {p:List MemPlace} (h:DataW.Trod enc Tryz.prog W 0 (fun _=>true) true t v d p):∀x∈p,x.block<W.heap.size:=by
 obtain ⟨m,hm⟩:=h;exact DataW.trod_lt m _ _ _ hm
theorem Lz {v:Value} {d:DataW H} {p:List MemPlace} {base:Nat} (hv:Value.okWide Tryz.prog W .any base 23 v) (h:DataW.Trod enc Tryz.prog W 0 (fun _=>true) true 23 v d p):∃xs:List (List Int),bh Any W v xs/\xs.length<=9223372036854775807/\∀k,(gl xs k).length<=9223372036854775807:=by
 obtain ⟨a,l,c,rfl⟩:=okWide_slice Tryz.underlying23 hv;obtain ⟨n,hn⟩:=F0 rfl h;exact Lv hn
end
end
section
open Go.RowKit Go.Deep
theorem Tryz.Nc:(Tryz.prog.info? 4).map (fun i=>(i.zero,i.size,i.bytes))=some (some (.bool false),1,1):=by kernel_rfl
theorem F2 (c:Nat):(97<=c/\c<=122)\/(65<=c/\c<=90)\/(48<=c/\c<=57)\/c=94\/c=126\/c=37\/c=39\/c=32\/c=46\/c=44\/c=59\/c=58\/c=33\/c=63\/c=40\/c=41\/c=45 \/
  ((c<97\/122<c)/\(c<65\/90<c)/\(c<48\/57<c)/\c≠94/\c≠126/\c≠37/\c≠39/\c≠32/\c≠46/\c≠44/\c≠59/\c≠58/\c≠33/\c≠63/\c≠40/\c≠41/\c≠45):=by omega
def sJ (c:Nat) (w:World) (e:Ending) (w':World):Prop:=e=.returned (.int .i64 (dH c))/\w=w'
theorem kp {c:Nat} {n:Int} {w:World} (h:n=dH c):sJ c w (.returned (.int .i64 n)) w:=⟨by rw [h],rfl⟩
theorem dI (c:Nat) (h:c∈[94,126,37,39,32,46,44,59,58,33,63,40,41,45]) (w:World):Calls Tryz.prog 249 #[.int .u8 c] w (sJ c w):=by
 simp only [bX,List.not_mem_nil,or_false] at h;rcases h with rfl | rfl | rfl | rfl | rfl | rfl | rfl | rfl | rfl | rfl | rfl | rfl | rfl | rfl
 all_goals
  go_enter Tryz.func249,Tryz.ntmps249
  go_wp2;go_ret;exact kp rfl
theorem Qj (c:Nat) (HK:Hid (dH c=0)) (hc:c<256) (h:c<48\/(57<c/\c<65)\/(90<c/\c<97)\/122<c) (Vw:((c:Int)==94)=false) (Qk:((c:Int)==126)=false) (Vx:((c:Int)==37)=false) (e39:((c:Int)==39)=false) (ZO:((c:Int)==32)=false) (ZP:((c:Int)==46)=false) (ZQ:((c:Int)==44)=false) (ZR:((c:Int)==59)=false) (ZT:((c:Int)==58)=false) (ZU:((c:Int)==33)=false) (ZV:((c:Int)==63)=false) (ZW:((c:Int)==40)=false) (ZX:((c:Int)==41)=false) (ZY:((c:Int)==45)=false) (w:World):Calls Tryz.prog 249 #[.int .u8 c] w (sJ c w):=by
 rcases h with h1 | ⟨h1,h2⟩ | ⟨h1,h2⟩ | h1
 all_goals
  go_enter Tryz.func249,Tryz.ntmps249
  go_wp2;go_ret;exact kp HK.out.symm
theorem Jy (c:Nat) (hc:c<256) (h1:c<97\/122<c) (h2:c<65\/90<c) (h3:c<48\/57<c) (ZZ:c≠94) (n126:c≠126) (n37:c≠37) (n39:c≠39) (n32:c≠32) (n46:c≠46) (n44:c≠44) (n59:c≠59) (Z0:c≠58) (n33:c≠33) (Z1:c≠63) (n40:c≠40) (n41:c≠41) (n45:c≠45) (w:World):Calls Tryz.prog 249 #[.int .u8 c] w (sJ c w):=by
 have hk:dH c=0:=by unfold dH isLet wJ;rw [if_neg (by simp;omega),if_neg (by omega),if_neg (by omega),if_neg n39,if_neg n32,if_neg (by simp;omega)]
 have Vw:((c:Int)==94)=false:=by rw [beq_eq_false_iff_ne];omega
 have Qk:((c:Int)==126)=false:=by rw [beq_eq_false_iff_ne];omega
 have Vx:((c:Int)==37)=false:=by rw [beq_eq_false_iff_ne];omega
 have e39:((c:Int)==39)=false:=by rw [beq_eq_false_iff_ne];omega
 have ZO:((c:Int)==32)=false:=by rw [beq_eq_false_iff_ne];omega
 have ZP:((c:Int)==46)=false:=by rw [beq_eq_false_iff_ne];omega
 have ZQ:((c:Int)==44)=false:=by rw [beq_eq_false_iff_ne];omega
 have ZR:((c:Int)==59)=false:=by rw [beq_eq_false_iff_ne];omega
 have ZT:((c:Int)==58)=false:=by rw [beq_eq_false_iff_ne];omega
 have ZU:((c:Int)==33)=false:=by rw [beq_eq_false_iff_ne];omega
 have ZV:((c:Int)==63)=false:=by rw [beq_eq_false_iff_ne];omega
 have ZW:((c:Int)==40)=false:=by rw [beq_eq_false_iff_ne];omega
 have ZX:((c:Int)==41)=false:=by rw [beq_eq_false_iff_ne];omega
 have ZY:((c:Int)==45)=false:=by rw [beq_eq_false_iff_ne];omega
 exact Qj c hk hc (by omega) Vw Qk Vx e39 ZO ZP ZQ ZR ZT ZU ZV ZW ZX ZY w
theorem uQ (c:Nat) (hc:c<256) (h:(97<=c/\c<=122)\/(65<=c/\c<=90)\/(48<=c/\c<=57)) (w:World):Calls Tryz.prog 249 #[.int .u8 c] w (sJ c w):=by
 rcases h with ⟨h1,h2⟩ | ⟨h1,h2⟩ | ⟨h1,h2⟩
 ·have hk:dH c=1:=by unfold dH isLet;rw [if_pos (by simp;omega)]
  have HK:=aa hk;clear hk
  go_enter Tryz.func249,Tryz.ntmps249
  go_wp2;go_ret;exact kp HK.out.symm
 ·have hk:dH c=1:=by unfold dH isLet;rw [if_pos (by simp;omega)]
  have HK:=aa hk;clear hk
  go_enter Tryz.func249,Tryz.ntmps249
  go_wp2;go_ret;exact kp HK.out.symm
 ·have hk:dH c=3:=by unfold dH isLet;rw [if_neg (by simp;omega),if_neg (by omega),if_pos (by omega)]
  have HK:=aa hk;clear hk;have Vw:((c:Int)==94)=false:=by rw [beq_eq_false_iff_ne];omega
  have Qk:((c:Int)==126)=false:=by rw [beq_eq_false_iff_ne];omega
  have Vx:((c:Int)==37)=false:=by rw [beq_eq_false_iff_ne];omega
  go_enter Tryz.func249,Tryz.ntmps249
  go_wp2;go_ret;exact kp HK.out.symm
theorem r4 (c:Nat) (hc:c<256) (w:World):Calls Tryz.prog 249 #[.int .u8 c] w fun e w'=>e=.returned (.int .i64 (dH c))/\w=w':=by
 have h:=F2 c;rcases h with h | h | h | h | h | h | h | h | h | h | h | h | h | h | h | h | h | ⟨h1,h2,h3,ZZ,n126,n37,n39,n32,n46,n44,n59,Z0,n33,Z1,n40,n41,n45⟩
 ·exact uQ c hc (.inl h) w
 ·exact uQ c hc (.inr (.inl h)) w
 ·exact uQ c hc (.inr (.inr h)) w
 ·exact dI c (by rw [h];decide) w
 ·exact dI c (by rw [h];decide) w
 ·exact dI c (by rw [h];decide) w
 ·exact dI c (by rw [h];decide) w
 ·exact dI c (by rw [h];decide) w
 ·exact dI c (by rw [h];decide) w
 ·exact dI c (by rw [h];decide) w
 ·exact dI c (by rw [h];decide) w
 ·exact dI c (by rw [h];decide) w
 ·exact dI c (by rw [h];decide) w
 ·exact dI c (by rw [h];decide) w
 ·exact dI c (by rw [h];decide) w
 ·exact dI c (by rw [h];decide) w
 ·exact dI c (by rw [h];decide) w
 ·exact Jy c hc h1 h2 h3 ZZ n126 n37 n39 n32 n46 n44 n59 Z0 n33 Z1 n40 n41 n45 w
theorem LA (s:ByteArray) (hs:s.size<=70000) (w:World):Calls Tryz.prog 200 #[.string s] w fun e w'=>e=.returned (.int .i64 (kJ s.data.toList))/\w=w':=by
 go_enter Tryz.func200,Tryz.ntmps200
 go_wp2
 go_loop [3,4,5] (fun n i _=>∃k:Nat,k<=s.size/\i=.int .i64 k/\n=.int .i64 (kJ (s.data.toList.take k))) (fun _ i _=>s.size - (intOf i).toNat)
 case atStart=>exact ⟨0,aI _,rfl,rfl⟩
 case round =>
  obtain ⟨k,hk,rfl,rfl⟩:=hrel
  have hb:kJ (s.data.toList.take k)<=70000:=aR (CQ _) (by simp;omega)
  by_cases hlt:k<s.size
  ·have hst:=yh s k hlt
   have hk':=sw s[k]
   have hc:s[k].toNat<256:=s[k].toNat_lt
   generalize hm:kJ (s.data.toList.take k)=m at *
   have HS:=aa hst
   have HK:=aa hk'
   clear hst hm hk'
   go_wp2_with (go_at_call 249;refine (r4 _ hc _).mono ?_;rintro e w' ⟨rfl,rfl⟩;generalize dH _=q at *)
   all_goals
    go_round
    case rel=>exact ⟨k+1,by omega,by go_num,by rw [HS.out];first | (rw [if_pos (HK.out.1 (by first | omega | (simp only [beq_iff_eq] at *;omega)))];go_num) | (rw [if_neg (fun h=>by have:=HK.out.2 h;simp only [beq_eq_false_iff_ne,ne_eq] at *;omega)];go_num)⟩
    case measure=>simp [intOf];omega
  ·go_wp2
   go_ret
   exact ⟨aN (by rw [zD (by simp;omega)]),rfl⟩
end
end Go.Proofs.YthgabkgmkolobaaGreat
