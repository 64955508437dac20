/- The contract of parsimony.table. The contracts of parsimony.Score and Table. The .. -/
import Derived.Test.YtfomhlbhcifgbaaGreatDoorRows
import Derived.ProofKit
import Derived.OpenShut
import Derived.ShutString
import Derived.ChangeOld
import Derived.Below
import Derived.Deep.Matrix
import Derived.Lib.SmallJoins
import Derived.Lib.ItoaNum
import Derived.Test.YtfomhlbhcifgbaaGreatDoorQ7
set_option maxRecDepth 100000
set_option maxHeartbeats 800000
namespace Go.Proofs.YtfomhlbhcifgbaaGreatDoor
section
open Go.RowKit Go.Deep
theorem Tryz.MB:(Tryz.prog.info? 27).map (fun i=>(i.zero,i.size,i.bytes))=some (some (.slice none 0 0),1,24):=by kernel_rfl
theorem bE (W:World) (cs:Array Value) (t:TypeId) (k:Nat):(W.alloc (.cells cs t)).cell? ⟨W.heap.size,k,none⟩=cs[k]?:=by
 unfold World.cell?;rw [nP];rfl
theorem kH (W:World) (v:Value) (t:TypeId):(W.alloc (.cells #[v] t)).cell? ⟨W.heap.size,0,none⟩=some v:=bE W _ t 0
theorem yX.step {w w':World} {t:aA} {st:List Int} {cs:List (List Int)} {pC pL pS pT pO ob:Nat} {V:Nat->Value} {j:Nat} {v:Value} (h:yX w t st cs pC pL pS pT pO ob V (j+1))
  (hg:w.grownBy w' (some ob)) (hr:w'.rowIs ob 27 t.ps.length (fun x=>if x=j then v else V x)) (hv:af (· ≠ ob) w' v (aR t st cs j)):yX w' t st cs pC pL pS pT pO ob (fun x=>if x=j then v else V x) j:=by
 have hk:Kept (· ≠ ob) w w':=fun b hb hl=>hg.block b hl (by simp;exact hb);have hc:∀ {p o:Nat} {x:Value},p≠ob->w.cell? ⟨p,o,none⟩=some x->w'.cell? ⟨p,o,none⟩=some x:=fun hp hx=>hg.cell hx (by simp;exact hp);obtain ⟨n1,n2,n3,n4,n5⟩:=h.ne;obtain ⟨C,a1,a2⟩:=h.cC;obtain ⟨L,b1,b2⟩:=h.cL;obtain ⟨Q,c1,c2⟩:=h.cS;obtain ⟨P,N,d1,d2,d3⟩:=h.cT;refine ⟨⟨C,hc n1 a1,a2.keep hk⟩,⟨L,hc n2 b1,b2.keep hk⟩,⟨Q,hc n3 c1,c2.keep hk⟩,⟨P,N,hc n4 d1,hc n4 d2,d3.keep hk⟩,hc n5 h.cO,hr,fun x h1 h2=>?_,h.ne⟩;by_cases e:x=j
 ·subst e;simp only [if_true];exact hv
 ·simp only [e,if_false];exact (h.rows x (by omega) h2).keep hk
def nX (t:aA) (st:List Int) (cs:List (List Int)):List (List Int):=(List.range t.ps.length).map (aR t st cs)
def Bz (w:World) (l:List (List Int)) (e:Ending) (w':World):Prop:=Below w.heap.size w w'/\∃v,e=.returned v/\aS Any w' v l
theorem Ue (S:Nat->Prop) (w:World) (v vs vc:Value) (t:aA) (st:List Int) (cs:List (List Int)) (hT:aJ S w v t) (hS:af S w vs st) (hC:aS S w vc cs)
  (he:aF t=0) (hn1:t.ns.length<=64) (hz:∀k,(gs t.ns k).size<=70000)
  (hn:t.ps.length<=64) (hm:cs.length<=16) (hm0:0<cs.length) (pW:(aq t.ns).length<=st.length) (hrl:∀a,a<cs.length->(gl cs a).length=cs.length) (hcb:∀a k,0<=gi (gl cs a) k/\gi (gl cs a) k<=1000)
  (htb:∀j s,j<t.ps.length -> -1<=gi (aR t st cs j) s/\gi (aR t st cs j) s<=100000) (Bk:(aq t.ns).length<=64) :
  Calls Tryz.prog 81 #[v,vs,vc] w (Bz w (nX t st cs)):=by
 obtain ⟨P,N,rfl,hP,hN⟩:=hT;obtain ⟨p,cap,rfl,hcap,MC⟩:=aB.open hP;obtain ⟨qS,kz,rfl,_,_⟩:=aB.open hS;obtain ⟨fC,Ak,Bp⟩:=hC;obtain ⟨qC,jU,rfl,_,_⟩:=aB.open Ak;have hC:aS S w (.slice qC cs.length jU) cs:=⟨fC,Ak,Bp⟩;clear Ak Bp;have hmk:=fun W=>run_make_row' (P:=Tryz.prog) 23 27 (.slice none 0 0) 24 Tryz.underlying23 Tryz.MB rfl .i64 .i64 t.ps.length (by omega) (by omega) W
 have l8:Below w.heap.size w (((((w.alloc (.cells #[.slice p t.ps.length cap,N] 33)).alloc (.cells #[.slice qS st.length kz] 27)).alloc (.cells #[.slice qC cs.length jU] 23)).alloc (.cells (madeCells #[.slice none 0 0] t.ps.length) 27)).alloc (.cells #[.slice (some ⟨w.heap.size+1+1+1,0,none⟩) t.ps.length t.ps.length] 23)):=(((((b7 _ w).alloc (aj _) _).alloc (by simp) _).alloc (by simp;omega) _).alloc (by simp;omega) _).alloc (by simp;omega) _
 have MD:aJ S (((((w.alloc (.cells #[.slice p t.ps.length cap,N] 33)).alloc (.cells #[.slice qS st.length kz] 27)).alloc (.cells #[.slice qC cs.length jU] 23)).alloc (.cells (madeCells #[.slice none 0 0] t.ps.length) 27)).alloc (.cells #[.slice (some ⟨w.heap.size+1+1+1,0,none⟩) t.ps.length t.ps.length] 23)) (.agg #[.slice p t.ps.length cap,N]) t:=aJ.keep ⟨_,_,rfl,hP,hN⟩ (Kept.below l8)
 have FO:Below (((w.alloc (.cells #[.slice p t.ps.length cap,N] 33)).alloc (.cells #[.slice qS st.length kz] 27)).alloc (.cells #[.slice qC cs.length jU] 23)).heap.size (((w.alloc (.cells #[.slice p t.ps.length cap,N] 33)).alloc (.cells #[.slice qS st.length kz] 27)).alloc (.cells #[.slice qC cs.length jU] 23)) (((((w.alloc (.cells #[.slice p t.ps.length cap,N] 33)).alloc (.cells #[.slice qS st.length kz] 27)).alloc (.cells #[.slice qC cs.length jU] 23)).alloc (.cells (madeCells #[.slice none 0 0] t.ps.length) 27)).alloc (.cells #[.slice (some ⟨w.heap.size+1+1+1,0,none⟩) t.ps.length t.ps.length] 23)):=((b7 _ _).alloc (aj _) _).alloc (by simp) _
 have Qe:Below (w.alloc (.cells #[.slice p t.ps.length cap,N] 33)).heap.size (w.alloc (.cells #[.slice p t.ps.length cap,N] 33)) (((w.alloc (.cells #[.slice p t.ps.length cap,N] 33)).alloc (.cells #[.slice qS st.length kz] 27)).alloc (.cells #[.slice qC cs.length jU] 23)):=((b7 _ _).alloc (aj _) _).alloc (by simp) _
 have VN:Below ((w.alloc (.cells #[.slice p t.ps.length cap,N] 33)).alloc (.cells #[.slice qS st.length kz] 27)).heap.size ((w.alloc (.cells #[.slice p t.ps.length cap,N] 33)).alloc (.cells #[.slice qS st.length kz] 27)) (((w.alloc (.cells #[.slice p t.ps.length cap,N] 33)).alloc (.cells #[.slice qS st.length kz] 27)).alloc (.cells #[.slice qC cs.length jU] 23)):=(b7 _ _).alloc (aj _) _;have c0:=cell_later FO (cell_later Qe (bE w #[.slice p t.ps.length cap,N] 33 0))
 have c1:=cell_later FO (cell_later Qe (bE w #[.slice p t.ps.length cap,N] 33 1));have c2:=cell_later FO (cell_later VN (kH (w.alloc (.cells #[.slice p t.ps.length cap,N] 33)) (.slice qS st.length kz) 27));have c3:=cell_later FO (kH ((w.alloc (.cells #[.slice p t.ps.length cap,N] 33)).alloc (.cells #[.slice qS st.length kz] 27)) (.slice qC cs.length jU) 23);simp only [aN] at c2 c3
 have c4:(((((w.alloc (.cells #[.slice p t.ps.length cap,N] 33)).alloc (.cells #[.slice qS st.length kz] 27)).alloc (.cells #[.slice qC cs.length jU] 23)).alloc (.cells (madeCells #[.slice none 0 0] t.ps.length) 27)).alloc (.cells #[.slice (some ⟨w.heap.size+1+1+1,0,none⟩) t.ps.length t.ps.length] 23)).rowIs (w.heap.size+1+1+1) 27 t.ps.length (fun _=>.slice none 0 0):=by
  have h:=World.rowIs_made (((w.alloc (.cells #[.slice p t.ps.length cap,N] 33)).alloc (.cells #[.slice qS st.length kz] 27)).alloc (.cells #[.slice qC cs.length jU] 23)) (.slice none 0 0) t.ps.length 27;simp only [aN] at h;exact h.alloc _
 have c5:(((((w.alloc (.cells #[.slice p t.ps.length cap,N] 33)).alloc (.cells #[.slice qS st.length kz] 27)).alloc (.cells #[.slice qC cs.length jU] 23)).alloc (.cells (madeCells #[.slice none 0 0] t.ps.length) 27)).alloc (.cells #[.slice (some ⟨w.heap.size+1+1+1,0,none⟩) t.ps.length t.ps.length] 23)).cell? ⟨w.heap.size+1+1+1+1,0,none⟩=some (.slice (some ⟨w.heap.size+1+1+1,0,none⟩) t.ps.length t.ps.length):=by
  have h:=(kH ((((w.alloc (.cells #[.slice p t.ps.length cap,N] 33)).alloc (.cells #[.slice qS st.length kz] 27)).alloc (.cells #[.slice qC cs.length jU] 23)).alloc (.cells (madeCells #[.slice none 0 0] t.ps.length) 27)) (.slice (some ⟨w.heap.size+1+1+1,0,none⟩) t.ps.length t.ps.length) 23);simpa only [aN] using h
 have z5:(((((w.alloc (.cells #[.slice p t.ps.length cap,N] 33)).alloc (.cells #[.slice qS st.length kz] 27)).alloc (.cells #[.slice qC cs.length jU] 23)).alloc (.cells (madeCells #[.slice none 0 0] t.ps.length) 27)).alloc (.cells #[.slice (some ⟨w.heap.size+1+1+1,0,none⟩) t.ps.length t.ps.length] 23)).heap.size=w.heap.size+5:=by simp
 have hL:=Ah S _ _ t MD (by omega) (by omega) hz;have HL:=aa hL;have DG:=aa l8;have C0:=aa c0;have C1:=aa c1;have C2:=aa c2;have C3:=aa c3;have C4:=aa c4;have C5:=aa c5;have Z5:=aa z5;have HC:=aa hC;have HS:=aa hS;have HP:=aa hP;clear MC FO Qe VN l8 MD c0 c1 c2 c3 c4 c5 z5 hL hC hS hP hN hz;go_in;go_wp2_with fail
 generalize (((((w.alloc (.cells #[.slice p t.ps.length cap,N] 33)).alloc (.cells #[.slice qS st.length kz] 27)).alloc (.cells #[.slice qC cs.length jU] 23)).alloc (.cells (madeCells #[.slice none 0 0] t.ps.length) 27)).alloc (.cells #[.slice (some ⟨w.heap.size+1+1+1,0,none⟩) t.ps.length t.ps.length] 23))=w5 at *;clear hmk;refine HL.out.mono ?_;rintro e w6 ⟨SQ,⟨h1,_⟩ | ⟨_,lv,rfl,hlv⟩⟩
 ·exact absurd he h1
 obtain ⟨lp,lc,rfl,_,_⟩:=aB.open hlv;have My:Below w6.heap.size w6 (w6.alloc (.cells #[.slice lp (aq t.ns).length lc] 27)):=(b7 _ _).alloc (aj _) _;have rJ:Below w5.heap.size w5 (w6.alloc (.cells #[.slice lp (aq t.ns).length lc] 27)):=SQ.trans (My.mono SQ.size);have d5:=cell_later rJ C5.out;have d6:=kH w6 (.slice lp (aq t.ns).length lc) 27;have VO:Below w.heap.size w (w6.alloc (.cells #[.slice lp (aq t.ns).length lc] 27)):=DG.out.trans (rJ.mono DG.out.size);have z6:w.heap.size+5<=w6.heap.size:=by have:=Z5.out;have:=SQ.size;omega
 have hF:yX (w6.alloc (.cells #[.slice lp (aq t.ns).length lc] 27)) t st cs (w.heap.size+1+1) w6.heap.size (w.heap.size+1) w.heap.size (w.heap.size+1+1+1+1) (w.heap.size+1+1+1) (fun _=>.slice none 0 0) t.ps.length :=
  ⟨⟨_,cell_later rJ C3.out,(((HC.out.sub (T:=fun b=>b<w.heap.size) fun b _ hb=>hb).keep (Kept.below DG.out)).keep (Kept.below rJ)).sub fun b hb _=>by omega⟩,
   ⟨_,d6,(hlv.keep (Kept.below My)).sub fun b hb _=>by have:=Z5.out;omega⟩,
   ⟨_,cell_later rJ C2.out,(((HS.out.sub (T:=fun b=>b<w.heap.size) fun b _ hb=>hb).keep (Kept.below DG.out)).keep (Kept.below rJ)).sub fun b hb _=>by omega⟩,⟨_,_,cell_later rJ C0.out,cell_later rJ C1.out,(((HP.out.sub (T:=fun b=>b<w.heap.size) fun b _ hb=>hb).keep (Kept.below DG.out)).keep (Kept.below rJ)).sub fun b hb _=>by omega⟩,d5,C4.out.of_block (rJ.block _ (by have:=Z5.out;omega)),fun j h1 h2=>by omega,by omega,by omega,by omega,by omega,by omega⟩
 have HF:=aa hF;have HBW:=aa VO;clear SQ hlv My rJ d6 VO hF;have rI:=aa htb;have rE:=aa hcb;have nW:=aa hrl;clear htb hcb hrl HL C0 C1 C2 C3 C4 C5 HC HS HP;go_wp2_with fail;generalize (w6.alloc (.cells #[.slice lp (aq t.ns).length lc] 27))=w7 at *;generalize w6.heap.size=pL at *
 go_loopw [11] (fun i wr=>∃(k:Nat) (V:Nat->Value),k<=t.ps.length/\i=.int .i64 ((k:Int) - 1)/\Hid (yX wr t st cs (w.heap.size+1+1) pL (w.heap.size+1) w.heap.size (w.heap.size+1+1+1+1) (w.heap.size+1+1+1) V k)/\Hid (Below w.heap.size w wr)) (fun i _=>(intOf i+1).toNat)
 case atStart=>exact ⟨t.ps.length,_,aj _,by go_num,HF,HBW⟩
 case round =>
  obtain ⟨k,V,hk,rfl,hF,hB⟩:=hrel;rcases Nat.eq_zero_or_pos k with rfl | nY
  ·have SD:=hF.out.cO
   go_wp2;go_ret;refine ⟨hB.out,_,rfl,V,?_,?_⟩
   ·refine ⟨some ⟨w.heap.size+1+1+1,0,none⟩,t.ps.length,by rw [show (nX t st cs).length=t.ps.length by simp [nX]];rfl,by simp [nX],.inr ⟨_,0,rfl,trivial,fun k hk=>?_⟩⟩
    rw [jQ];exact hF.out.row.cell (by simpa [nX] using hk)
   ·intro k hk
    (have hk2:k<t.ps.length:=by simpa [nX] using hk);(have he:gl (nX t st cs) k=aR t st cs k:=by simp [gl,nX,hk2]);rw [he];exact (hF.out.rows k (bg _) hk2).sub fun _ _ _=>trivial
  ·obtain ⟨j,rfl⟩:∃j,k=j+1:=⟨k - 1,by omega⟩
   go_wp2_with fail;refine (Vx wr t st cs _ _ _ _ _ _ V j (by omega) hF.out hn hm hm0 pW nW.out rE.out rI.out Bk).mono ?_;rintro e w8 ⟨rfl,hg,v,hr,hv⟩;have hF2:=aa (hF.out.step hg hr hv);have hB2:=aa (hB.out.grown hg hB.out.size fun k e=>by cases e<;>omega);clear hg hr hv;go_wp2
   go_roundw
   case rel=>exact ⟨j,_,by omega,by go_num,hF2,hB2⟩
   case measure=>simp [intOf]
def Up (w w':World):Prop:=Below w.heap.size w w'
theorem Up.refl (w:World):Up w w:=b7 _ _
theorem Up.trans {a b c:World} (h:Up a b) (k:Up b c):Up a c:=dI h (Below.mono k h.size)
theorem Up.alloc (w:World) (o:Obj):Up w (w.alloc o):=(b7 _ _).alloc (aj _) _
theorem Up.drewN (w:World) (n:Nat):Up w (w.drewN n):=below_drewN (b7 _ _) n
theorem Up.kept {w w':World} (h:Up w w') (S:Nat->Prop):Kept S w w':=Kept.below h
theorem Up.size {w w':World} (h:Up w w'):w.heap.size<=w'.heap.size:=Below.size h
theorem Up.cell {w w':World} (h:Up w w') {p:Addr} {v:Value} (hc:w.cell? p=some v):w'.cell? p=some v:=by
 obtain ⟨b,o,i⟩:=p;have hl:b<w.heap.size:=fS w _ hc;rw [Below.cell h (p:=⟨b,o,i⟩) hl];exact hc
theorem mC (w:World) (P N:Value) (T:TypeId):(w.alloc (.cells #[P,N] T)).cell? ⟨w.heap.size,0,none⟩=some P:=by simp [World.cell?_alloc_new]
theorem mD (w:World) (P N:Value) (T:TypeId):(w.alloc (.cells #[P,N] T)).cell? ⟨w.heap.size,1,none⟩=some N:=by simp [World.cell?_alloc_new]
theorem mE (w:World) (P:Value) (T:TypeId):(w.alloc (.cells #[P] T)).cell? ⟨w.heap.size,0,none⟩=some P:=by simp [World.cell?_alloc_new]
theorem Uf (S:Nat->Prop) (w:World) (v vs vc:Value) (t:aA) (st:List Int) (cs:List (List Int)) (hT:aJ S w v t) (hS:af S w vs st) (hC:aS S w vc cs)
  (hz:∀k,(gs t.ns k).size<=70000) (hv:Valid t st cs):Calls Tryz.prog 81 #[v,vs,vc] w (Bz w (nX t st cs)):=by
 obtain ⟨h1,h2,h3,hok,hn⟩:=aG hv.tree;obtain ⟨m1,m2,m3,m4,m5⟩:=tP hv.Sw;have hl:=tR t.ns;exact Ue S w v vs vc t st cs hT hS hC hv.tree (by omega) hz h2 m2 m1 (mQ hv.len.symm) m3 m4 (fun j s hj=>hv.tb j s hj) (by omega)
theorem eE {S:Nat->Prop} {w:World} {v:Value} {xs:List (List Int)} (h:aS S w v xs):∃p cap,v=.slice p xs.length cap/\xs.length<=cap /\
  ∀k,k<xs.length->∃b off q c,p=some ⟨b,off,none⟩/\w.cell? ⟨b,off+k,none⟩=some (.slice q (gl xs k).length c)/\af S w (.slice q (gl xs k).length c) (gl xs k):=by
 obtain ⟨f,ni,hr⟩:=h;obtain ⟨p,cap,rfl,hcap,H⟩:=aB.open ni;refine ⟨p,cap,rfl,hcap,fun k hk=>?_⟩;obtain ⟨b,off,rfl,hc⟩:=H k hk;have h1:=hr k hk;obtain ⟨q,c,e,_,_⟩:=aB.open h1;rw [e] at hc h1;exact ⟨b,off,q,c,rfl,hc,h1⟩
theorem dh {S:Nat->Prop} {w:World} {p:Option Addr} {n cap:Nat} {xs:List Int} (h:af S w (.slice p n cap) xs) {k:Nat} (hk:k<xs.length):∃b off,p=some ⟨b,off,none⟩/\w.cell? ⟨b,off+k,none⟩=some (.int .i64 (gi xs k)):=by
 obtain ⟨q,c,e,_,H⟩:=aB.open h;injection e with e1;subst e1;exact H k hk
theorem fI {S:Nat->Prop} {w:World} {p:Option Addr} {n cap:Nat} {xs:List ByteArray} (h:aC S w (.slice p n cap) xs) {k:Nat} (hk:k<xs.length):∃b off,p=some ⟨b,off,none⟩/\w.cell? ⟨b,off+k,none⟩=some (.string (gs xs k)):=by
 obtain ⟨q,c,e,_,H⟩:=aB.open h;injection e with e1;subst e1;exact H k hk
theorem dV {S:Nat->Prop} {w:World} {p:Option Addr} {n cap:Nat} {xs:List (List Int)} (h:aS S w (.slice p n cap) xs) {k:Nat} (hk:k<xs.length) :
  ∃b off q c,p=some ⟨b,off,none⟩/\w.cell? ⟨b,off+k,none⟩=some (.slice q (gl xs k).length c)/\af S w (.slice q (gl xs k).length c) (gl xs k):=by
 obtain ⟨q,c,e,_,H⟩:=eE h;injection e with e1;subst e1;exact H k hk
theorem xL {S:Nat->Prop} {w:World} {b off:Nat} {n cap:Nat} {xs:List Int} (h:af S w (.slice (some ⟨b,off,none⟩) n cap) xs) {k:Nat} (hk:k<xs.length):w.cell? ⟨b,off+k,none⟩=some (.int .i64 (gi xs k)):=by
 obtain ⟨b',o',e,hc⟩:=dh h hk;injection e with e;injection e with e1 e2;subst e1;subst e2;exact hc
theorem Ug (t:aA) (st:List Int) (cs:List (List Int)) {k:Nat} (hk:k<t.ps.length):gl (nX t st cs) k=aR t st cs k:=by simp [gl,nX,hk]
theorem FP (t:aA) (st:List Int) (cs:List (List Int)):(nX t st cs).length=t.ps.length:=by simp [nX]
end
section
open Go.ChangeShapes Go.WideShapes Go.ChangeAt Go.RowKit Go.Deep
theorem Qf:ownKnob Tryz.prog.godebug=none:=by kernel_rfl
theorem laidOut:laidOutB Tryz.prog=true:=by kernel_rfl
section
variable {H:Type} {enc:TypeId×Value->H} {W:World}
theorem yY {n:Nat} (h:n<=maxLen):n<=9223372036854775807:=by unfold maxLen at h;exact h
theorem K7 {fuel:Nat} {v:Value} {x:DataW H×List MemPlace} (h:DataW.trod enc Tryz.prog W 0 (fun _=>true) true fuel 22 [v]=some x):∃xs:List ByteArray,aC Any W v xs/\xs.length<=9223372036854775807/\∀k,(gs xs k).size<=9223372036854775807:=by
 rcases open_strings Tryz.underlying22 Tryz.underlying9 (by kernel_rfl) h with ⟨hcs,_⟩ | ⟨a,l,c,zs,hcs,_,hl,hm,hz,_,hcell,hwf⟩
 ·obtain rfl:v=.slice none 0 0:=by simpa using hcs
  exact ⟨[],⟨none,0,rfl,aj _,.inl rfl⟩,by simp,fun k=>by simp [gs]⟩
 ·obtain rfl:v=.slice (some a) l c:=by simpa using hcs
  simp only [if_true] at hz;have hlen:(zs.take l).length=l:=by simp;omega
  refine ⟨zs.take l,⟨some a,c,by rw [hlen],by rw [hlen];exact hl,?_⟩,by rw [hlen];exact yY (aV hl hm),fun k=>?_⟩
  ·by_cases h0:l=0
   ·exact .inl (by rw [hlen];exact h0)
   ·obtain ⟨b,off,spot⟩:=a
    (have hspot:spot=none:=by simpa [Addr.add] using World.cell?_spot (hcell 0 (by omega)));subst hspot;refine .inr ⟨b,off,rfl,trivial,fun k hk=>?_⟩;rw [hlen] at hk;rw [<- add_plain,hcell k (by omega)];(have hk2:k<zs.length:=by omega);simp [gs,hk,hk2]
  ·by_cases hk:k<(zs.take l).length
   ·have hm:gs (zs.take l) k∈zs:=by
     have:gs (zs.take l) k=(zs.take l)[k]:=by unfold gs;rw [mN,kB hk];rfl
     rw [this];exact vv (pg hk)
    exact yY (hwf _ hm)
   ·have:gs (zs.take l) k=ByteArray.empty:=by simp [gs,List.getElem?_eq_none (by omega:(zs.take l).length<=k)]
    rw [this];simp
theorem K8 {fuel:Nat} {v:Value} {x:DataW H×List MemPlace} (h:DataW.trod enc Tryz.prog W 0 (fun _=>true) true fuel 23 [v]=some x):∃xs:List (List Int),aS Any W v xs/\xs.length<=9223372036854775807/\∀k,(gl xs k).length<=9223372036854775807:=by
 rcases open_int_rows Tryz.underlying23 Tryz.underlying27 Tryz.underlying3 (by kernel_rfl) (by kernel_rfl) h with ⟨hcs,_⟩ | ⟨a,l,c,A,L,C,Z,hcs,_,hl,hm,_,hr⟩
 ·obtain rfl:v=.slice none 0 0:=by simpa using hcs
  exact ⟨[],⟨fun _=>undef,⟨none,0,rfl,aj _,.inl rfl⟩,fun k hk=>absurd hk (cz _)⟩,by simp,fun k=>by simp [gl]⟩
 ·obtain rfl:v=.slice (some a) l c:=by simpa using hcs
  have hlen:((List.range l).map fun r=>(Z r).take (L r)).length=l:=by simp
  have wM:∀k,k<l->gl ((List.range l).map fun r=>(Z r).take (L r)) k=(Z k).take (L k):=fun k hk=>by simp [gl,hk]
  have BA:∀k,k<l->((Z k).take (L k)).length=L k:=fun k hk=>by obtain ⟨_,h1,_,h3,_⟩:=hr k (by omega);simp;omega
  refine ⟨(List.range l).map fun r=>(Z r).take (L r),⟨fun k=>.slice (A k) (L k) (C k),⟨some a,c,by rw [hlen],by rw [hlen];exact hl,?_⟩,fun k hk=>?_⟩,by rw [hlen];exact yY (aV hl hm),fun k=>?_⟩
  ·by_cases h0:l=0
   ·exact .inl (by rw [hlen];exact h0)
   ·obtain ⟨b,off,spot⟩:=a
    (have hspot:spot=none:=by simpa [Addr.add] using World.cell?_spot (hr 0 (by omega)).1);subst hspot;refine .inr ⟨b,off,rfl,trivial,fun k hk=>?_⟩;rw [hlen] at hk;rw [<- add_plain];exact (hr k (by omega)).1
  ·rw [hlen] at hk
   obtain ⟨_,h1,h2,h3,_,h5,h6⟩:=hr k (by omega);rw [wM k hk];refine ⟨A k,C k,by rw [BA k hk],by rw [BA k hk];exact h1,?_⟩;by_cases h0:L k=0
   ·exact .inl (by rw [BA k hk];exact h0)
   ·cases hA:A k with
    | none=>have:=h5 hA;omega
    | some a' =>
     obtain ⟨_,h7⟩:=h6 a' hA;obtain ⟨b,off,rfl,hc⟩:=ints_at (zs:=Z k) (k:=.i64) (fun i hi=>h7 i (by omega)) (by omega);refine .inr ⟨b,off,rfl,trivial,fun j hj=>?_⟩;rw [BA k hk] at hj;rw [hc j (by omega)];simp [gi,hj]
  ·by_cases hk:k<l
   ·rw [wM k hk,BA k hk]
    obtain ⟨_,h1,h2,_⟩:=hr k (by omega);exact yY (aV h1 h2)
   ·have:gl ((List.range l).map fun r=>(Z r).take (L r)) k=[]:=by simp [gl,hk]
    rw [this];simp
theorem FQ {t:TypeId} {v:Value} {d:DataW H} {p:List MemPlace} (h1:v.cells=#[v]) (h:DataW.Trod enc Tryz.prog W 0 (fun _=>true) true t v d p):∃fuel,DataW.trod enc Tryz.prog W 0 (fun _=>true) true fuel t [v]=some (d,p):=by
 obtain ⟨n,hn⟩:=h;rw [h1] at hn;exact ⟨n,hn⟩
theorem BB {t:TypeId} {v:Value} {d:DataW H} {p:List MemPlace} (h:DataW.Trod enc Tryz.prog W 0 (fun _=>true) true t v d p):∀x∈p,x.block<W.heap.size:=by
 obtain ⟨m,hm⟩:=h;exact DataW.trod_lt m _ _ _ hm
theorem K9 {v:Value} {d:DataW H} {p:List MemPlace} {base:Nat} (hv:Value.okWide Tryz.prog W .any base 23 v) (h:DataW.Trod enc Tryz.prog W 0 (fun _=>true) true 23 v d p):∃xs:List (List Int),aS Any W v xs/\xs.length<=9223372036854775807/\∀k,(gl xs k).length<=9223372036854775807:=by
 obtain ⟨a,l,c,rfl⟩:=okWide_slice Tryz.underlying23 hv;obtain ⟨n,hn⟩:=FQ rfl h;exact K8 hn
end
end
section
open Go.RowKit Go.Deep
def xM (i:Nat):ByteArray:=⟨#[UInt8.ofNat (48+i)]⟩
theorem ZH:∀i,i<10->xM i=(⟨#[48,49,50,51,52,53,54,55,56,57,97,98,99,100,101,102,103,104,105,106,107,108,109,110,111,112,113,114,115,116,117,118,119,120,121,122]⟩:ByteArray).extract i (i+1):=by decide +kernel
theorem ME (i:Nat) (hi:i<10) (w:World):Calls Tryz.prog 127 #[.int .i64 i] w fun e w'=>e=.returned (.string (xM i))/\w=w':=by
 have h1:(i:Int)<10:=by omega
 have h0:(0:Int)<=(i:Int):=by omega
 have HD:=aa (ZH i hi);go_in;go_wp2;go_ret;exact ⟨by rw [HD.out];rfl,rfl⟩
theorem VP (i:Nat) (hi:i<10) (w:World):Calls Tryz.prog 25 #[.int .i64 i] w fun e w'=>e=.returned (.string (xM i))/\w=w':=by
 have h1:(i:Int)<100:=by omega
 have h0:(0:Int)<=(i:Int):=by omega
 have HC:=aa (ME i hi w);have HF:Hid (Calls Tryz.prog 85 #[.int .i64 i,.int .i64 10] w fun e w'=>e=.returned (.string (xM i))/\w=w'):=by show Calls _ _ _ _ _;go_in;go_wp2_with fail;refine HC.out.mono ?_;rintro e w' ⟨rfl,rfl⟩;go_wp2;go_ret;exact ⟨rfl,rfl⟩
 have HI:Hid (Calls Tryz.prog 50 #[.int .i64 i] w fun e w'=>e=.returned (.string (xM i))/\w=w'):=by show Calls _ _ _ _ _;go_in;go_wp2_with fail;refine HF.out.mono ?_;rintro e w' ⟨rfl,rfl⟩;go_wp2;go_ret;exact ⟨rfl,rfl⟩
 go_in;go_wp2_with fail;refine HI.out.mono ?_;rintro e w' ⟨rfl,rfl⟩;go_wp2;go_ret;exact ⟨rfl,rfl⟩
end
end Go.Proofs.YtfomhlbhcifgbaaGreatDoor
