/- The contract of parsimony.table. The contracts of parsimony.Score and Table. The .. -/
import Derived.Test.YthgabkgmkolobaaGreatRows
import Derived.ProofKit
import Derived.OpenShut
import Derived.ShutString
import Derived.ChangeOld
import Derived.Below
import Derived.Deep.Matrix
import Derived.Lib.SmallJoins
import Derived.Laws.CopyOwn
import Derived.Deep.RegionLaw
import Derived.RegionTactic
import Derived.Test.YthgabkgmkolobaaGreatQ8
set_option maxRecDepth 100000
namespace Go.Proofs.YthgabkgmkolobaaGreat
section
open Go.RowKit Go.Deep
theorem Tryz.Eu:(Tryz.prog.info? 26).map (fun i=>(i.zero,i.size,i.bytes))=some (some (.slice none 0 0),1,24):=by kernel_rfl
theorem aK (W:World) (cs:Array Value) (t:TypeId) (k:Nat):(W.alloc (.cells cs t)).cell? ⟨W.heap.size,k,none⟩=cs[k]?:=by
 unfold World.cell?;rw [World.alloc_heap_new];rfl
theorem jO (W:World) (v:Value) (t:TypeId):(W.alloc (.cells #[v] t)).cell? ⟨W.heap.size,0,none⟩=some v:=aK W _ t 0
theorem xV.step {w w':World} {t:aD} {st:List Int} {cs:List (List Int)} {pC pL pS pT pO ob:Nat} {V:Nat→Value} {j:Nat} {v:Value} (h:xV w t st cs pC pL pS pT pO ob V (j+1))
  (hg:w.grownBy w' (some ob)) (hr:w'.rowIs ob 26 t.ps.length (fun x=>if x=j then v else V x)) (hv:aj (· ≠ ob) w' v (aN t st cs j)):xV w' t st cs pC pL pS pT pO ob (fun x=>if x=j then v else V x) j:=by
 have hk:Kept (· ≠ ob) w w':=fun b hb hl=>hg.block b hl (by simp;exact hb);have hc:∀ {p o:Nat} {x:Value},p≠ob→w.cell? ⟨p,o,none⟩=some x→w'.cell? ⟨p,o,none⟩=some x:=fun hp hx=>hg.cell hx (by simp;exact hp);obtain ⟨n1,n2,n3,n4,n5⟩:=h.ne;obtain ⟨C,a1,a2⟩:=h.cC;obtain ⟨L,b1,b2⟩:=h.cL;obtain ⟨Q,c1,c2⟩:=h.cS;obtain ⟨P,N,d1,d2,d3⟩:=h.cT;refine ⟨⟨C,hc n1 a1,a2.keep hk⟩,⟨L,hc n2 b1,b2.keep hk⟩,⟨Q,hc n3 c1,c2.keep hk⟩,⟨P,N,hc n4 d1,hc n4 d2,d3.keep hk⟩,hc n5 h.cO,hr,fun x h1 h2=>?_,h.ne⟩;by_cases e:x=j
 ·subst e;simp only [if_true];exact hv
 ·simp only [e,if_false];exact (h.rows x (by omega) h2).keep hk
def lQ (t:aD) (st:List Int) (cs:List (List Int)):List (List Int):=(List.range t.ps.length).map (aN t st cs)
def wO (w:World) (l:List (List Int)) (e:Ending) (w':World):Prop:=Below w.heap.size w w'∧∃v,e=.returned v∧aQ Any w' v l
set_option maxHeartbeats 800000 in
theorem Ss (S:Nat→Prop) (w:World) (v vs vc:Value) (t:aD) (st:List Int) (cs:List (List Int)) (hT:au S w v t) (hS:aj S w vs st) (hC:aQ S w vc cs)
  (he:aB t=0) (wP:t.ns.length≤64) (hz:∀k,(gs t.ns k).size≤70000)
  (hn:t.ps.length≤64) (hm:cs.length≤16) (hm0:0<cs.length) (kS:(aq t.ns).length≤st.length) (hrl:∀a,a<cs.length→(gl cs a).length=cs.length) (hcb:∀a k,0≤gi (gl cs a) k∧gi (gl cs a) k≤1000)
  (htb:∀j s,j<t.ps.length → -1≤gi (aN t st cs j) s∧gi (aN t st cs j) s≤100000) (pF:(aq t.ns).length≤64) :
  Calls Tryz.prog 170 #[v,vs,vc] w (wO w (lQ t st cs)):=by
 obtain ⟨P,N,rfl,hP,hN⟩:=hT;obtain ⟨p,cap,rfl,hcap,ve⟩:=aC.open hP;obtain ⟨qS,gX,rfl,_,_⟩:=aC.open hS;obtain ⟨fC,y9,zZ⟩:=hC;obtain ⟨qC,fT,rfl,_,_⟩:=aC.open y9;have hC:aQ S w (.slice qC cs.length fT) cs:=⟨fC,y9,zZ⟩;clear y9 zZ;have hmk:=fun W=>run_make_row' (P:=Tryz.prog) 23 26 (.slice none 0 0) 24 Tryz.underlying23 Tryz.Eu rfl .i64 .i64 t.ps.length (by omega) (by omega) W
 have mG:Below w.heap.size w (((((w.alloc (.cells #[.slice p t.ps.length cap,N] 39)).alloc (.cells #[.slice qS st.length gX] 26)).alloc (.cells #[.slice qC cs.length fT] 23)).alloc (.cells (madeCells #[.slice none 0 0] t.ps.length) 26)).alloc (.cells #[.slice (some ⟨w.heap.size+1+1+1,0,none⟩) t.ps.length t.ps.length] 23)):=(((((Below.refl _ w).alloc (Nat.le_refl _) _).alloc (by simp) _).alloc (by simp;omega) _).alloc (by simp;omega) _).alloc (by simp;omega) _
 have Ci:au S (((((w.alloc (.cells #[.slice p t.ps.length cap,N] 39)).alloc (.cells #[.slice qS st.length gX] 26)).alloc (.cells #[.slice qC cs.length fT] 23)).alloc (.cells (madeCells #[.slice none 0 0] t.ps.length) 26)).alloc (.cells #[.slice (some ⟨w.heap.size+1+1+1,0,none⟩) t.ps.length t.ps.length] 23)) (.agg #[.slice p t.ps.length cap,N]) t:=au.keep ⟨_,_,rfl,hP,hN⟩ (Kept.below mG)
 have Ev:Below (((w.alloc (.cells #[.slice p t.ps.length cap,N] 39)).alloc (.cells #[.slice qS st.length gX] 26)).alloc (.cells #[.slice qC cs.length fT] 23)).heap.size (((w.alloc (.cells #[.slice p t.ps.length cap,N] 39)).alloc (.cells #[.slice qS st.length gX] 26)).alloc (.cells #[.slice qC cs.length fT] 23)) (((((w.alloc (.cells #[.slice p t.ps.length cap,N] 39)).alloc (.cells #[.slice qS st.length gX] 26)).alloc (.cells #[.slice qC cs.length fT] 23)).alloc (.cells (madeCells #[.slice none 0 0] t.ps.length) 26)).alloc (.cells #[.slice (some ⟨w.heap.size+1+1+1,0,none⟩) t.ps.length t.ps.length] 23)):=((Below.refl _ _).alloc (Nat.le_refl _) _).alloc (by simp) _
 have OB:Below (w.alloc (.cells #[.slice p t.ps.length cap,N] 39)).heap.size (w.alloc (.cells #[.slice p t.ps.length cap,N] 39)) (((w.alloc (.cells #[.slice p t.ps.length cap,N] 39)).alloc (.cells #[.slice qS st.length gX] 26)).alloc (.cells #[.slice qC cs.length fT] 23)):=((Below.refl _ _).alloc (Nat.le_refl _) _).alloc (by simp) _
 have Ue:Below ((w.alloc (.cells #[.slice p t.ps.length cap,N] 39)).alloc (.cells #[.slice qS st.length gX] 26)).heap.size ((w.alloc (.cells #[.slice p t.ps.length cap,N] 39)).alloc (.cells #[.slice qS st.length gX] 26)) (((w.alloc (.cells #[.slice p t.ps.length cap,N] 39)).alloc (.cells #[.slice qS st.length gX] 26)).alloc (.cells #[.slice qC cs.length fT] 23)):=(Below.refl _ _).alloc (Nat.le_refl _) _;have c0:=cell_later Ev (cell_later OB (aK w #[.slice p t.ps.length cap,N] 39 0))
 have c1:=cell_later Ev (cell_later OB (aK w #[.slice p t.ps.length cap,N] 39 1));have c2:=cell_later Ev (cell_later Ue (jO (w.alloc (.cells #[.slice p t.ps.length cap,N] 39)) (.slice qS st.length gX) 26));have c3:=cell_later Ev (jO ((w.alloc (.cells #[.slice p t.ps.length cap,N] 39)).alloc (.cells #[.slice qS st.length gX] 26)) (.slice qC cs.length fT) 23);simp only [World.size_alloc] at c2 c3
 have c4:(((((w.alloc (.cells #[.slice p t.ps.length cap,N] 39)).alloc (.cells #[.slice qS st.length gX] 26)).alloc (.cells #[.slice qC cs.length fT] 23)).alloc (.cells (madeCells #[.slice none 0 0] t.ps.length) 26)).alloc (.cells #[.slice (some ⟨w.heap.size+1+1+1,0,none⟩) t.ps.length t.ps.length] 23)).rowIs (w.heap.size+1+1+1) 26 t.ps.length (fun _=>.slice none 0 0):=by
  have h:=World.rowIs_made (((w.alloc (.cells #[.slice p t.ps.length cap,N] 39)).alloc (.cells #[.slice qS st.length gX] 26)).alloc (.cells #[.slice qC cs.length fT] 23)) (.slice none 0 0) t.ps.length 26;simp only [World.size_alloc] at h;exact h.alloc _
 have c5:(((((w.alloc (.cells #[.slice p t.ps.length cap,N] 39)).alloc (.cells #[.slice qS st.length gX] 26)).alloc (.cells #[.slice qC cs.length fT] 23)).alloc (.cells (madeCells #[.slice none 0 0] t.ps.length) 26)).alloc (.cells #[.slice (some ⟨w.heap.size+1+1+1,0,none⟩) t.ps.length t.ps.length] 23)).cell? ⟨w.heap.size+1+1+1+1,0,none⟩=some (.slice (some ⟨w.heap.size+1+1+1,0,none⟩) t.ps.length t.ps.length):=by
  have h:=(jO ((((w.alloc (.cells #[.slice p t.ps.length cap,N] 39)).alloc (.cells #[.slice qS st.length gX] 26)).alloc (.cells #[.slice qC cs.length fT] 23)).alloc (.cells (madeCells #[.slice none 0 0] t.ps.length) 26)) (.slice (some ⟨w.heap.size+1+1+1,0,none⟩) t.ps.length t.ps.length) 23);simpa only [World.size_alloc] using h
 have z5:(((((w.alloc (.cells #[.slice p t.ps.length cap,N] 39)).alloc (.cells #[.slice qS st.length gX] 26)).alloc (.cells #[.slice qC cs.length fT] 23)).alloc (.cells (madeCells #[.slice none 0 0] t.ps.length) 26)).alloc (.cells #[.slice (some ⟨w.heap.size+1+1+1,0,none⟩) t.ps.length t.ps.length] 23)).heap.size=w.heap.size+5:=by simp
 have hL:=y8 S _ _ t Ci (by omega) (by omega) hz;have HL:=aa hL;have Lz:=aa mG;have C0:=aa c0;have C1:=aa c1;have C2:=aa c2;have C3:=aa c3;have C4:=aa c4;have C5:=aa c5;have Z5:=aa z5;have HC:=aa hC;have HS:=aa hS;have HP:=aa hP;clear ve Ev OB Ue mG Ci c0 c1 c2 c3 c4 c5 z5 hL hC hS hP hN hz
 go_enter Tryz.func170,Tryz.ntmps170
 go_wp2_with fail;generalize (((((w.alloc (.cells #[.slice p t.ps.length cap,N] 39)).alloc (.cells #[.slice qS st.length gX] 26)).alloc (.cells #[.slice qC cs.length fT] 23)).alloc (.cells (madeCells #[.slice none 0 0] t.ps.length) 26)).alloc (.cells #[.slice (some ⟨w.heap.size+1+1+1,0,none⟩) t.ps.length t.ps.length] 23))=w5 at *;clear hmk;refine HL.out.mono ?_;rintro e w6 ⟨Rf,⟨h1,_⟩ | ⟨_,lv,rfl,hlv⟩⟩
 ·exact absurd he h1
 obtain ⟨lp,lc,rfl,_,_⟩:=aC.open hlv;have Lt:Below w6.heap.size w6 (w6.alloc (.cells #[.slice lp (aq t.ns).length lc] 26)):=(Below.refl _ _).alloc (Nat.le_refl _) _;have qK:Below w5.heap.size w5 (w6.alloc (.cells #[.slice lp (aq t.ns).length lc] 26)):=Rf.trans (Lt.mono Rf.size);have d5:=cell_later qK C5.out;have d6:=jO w6 (.slice lp (aq t.ns).length lc) 26;have Uf:Below w.heap.size w (w6.alloc (.cells #[.slice lp (aq t.ns).length lc] 26)):=Lz.out.trans (qK.mono Lz.out.size);have z6:w.heap.size+5≤w6.heap.size:=by have:=Z5.out;have:=Rf.size;omega
 have hF:xV (w6.alloc (.cells #[.slice lp (aq t.ns).length lc] 26)) t st cs (w.heap.size+1+1) w6.heap.size (w.heap.size+1) w.heap.size (w.heap.size+1+1+1+1) (w.heap.size+1+1+1) (fun _=>.slice none 0 0) t.ps.length :=
  ⟨⟨_,cell_later qK C3.out,(((HC.out.sub (T:=fun b=>b<w.heap.size) fun b _ hb=>hb).keep (Kept.below Lz.out)).keep (Kept.below qK)).sub fun b hb _=>by omega⟩,
   ⟨_,d6,(hlv.keep (Kept.below Lt)).sub fun b hb _=>by have:=Z5.out;omega⟩,
   ⟨_,cell_later qK C2.out,(((HS.out.sub (T:=fun b=>b<w.heap.size) fun b _ hb=>hb).keep (Kept.below Lz.out)).keep (Kept.below qK)).sub fun b hb _=>by omega⟩,⟨_,_,cell_later qK C0.out,cell_later qK C1.out,(((HP.out.sub (T:=fun b=>b<w.heap.size) fun b _ hb=>hb).keep (Kept.below Lz.out)).keep (Kept.below qK)).sub fun b hb _=>by omega⟩,d5,C4.out.of_block (qK.block _ (by have:=Z5.out;omega)),fun j h1 h2=>by omega,by omega,by omega,by omega,by omega,by omega⟩
 have HF:=aa hF;have HBW:=aa Uf;clear Rf hlv Lt qK d6 Uf hF;have wN:=aa htb;have wH:=aa hcb;have j9:=aa hrl;clear htb hcb hrl HL C0 C1 C2 C3 C4 C5 HC HS HP;go_wp2_with fail;generalize (w6.alloc (.cells #[.slice lp (aq t.ns).length lc] 26))=w7 at *;generalize w6.heap.size=pL at *
 go_loopw [11] (fun i wr=>∃(k:Nat) (V:Nat→Value),k≤t.ps.length∧i=.int .i64 ((k:Int) - 1)∧Hid (xV wr t st cs (w.heap.size+1+1) pL (w.heap.size+1) w.heap.size (w.heap.size+1+1+1+1) (w.heap.size+1+1+1) V k)∧Hid (Below w.heap.size w wr)) (fun i _=>(intOf i+1).toNat)
 case atStart=>exact ⟨t.ps.length,_,Nat.le_refl _,by go_num,HF,HBW⟩
 case round =>
  obtain ⟨k,V,hk,rfl,hF,hB⟩:=hrel;rcases Nat.eq_zero_or_pos k with rfl | rN
  ·have QX:=hF.out.cO
   go_wp2_with fail;go_ret;refine ⟨hB.out,_,rfl,V,?_,?_⟩
   ·refine ⟨some ⟨w.heap.size+1+1+1,0,none⟩,t.ps.length,by rw [show (lQ t st cs).length=t.ps.length by simp [lQ]];rfl,by simp [lQ],.inr ⟨_,0,rfl,trivial,fun k hk=>?_⟩⟩
    rw [Nat.zero_add];exact hF.out.row.cell (by simpa [lQ] using hk)
   ·intro k hk
    (have hk2:k<t.ps.length:=by simpa [lQ] using hk);(have he:gl (lQ t st cs) k=aN t st cs k:=by simp [gl,lQ,hk2]);rw [he];exact (hF.out.rows k (Nat.zero_le _) hk2).sub fun _ _ _=>trivial
  ·obtain ⟨j,rfl⟩:∃j,k=j+1:=⟨k - 1,by omega⟩
   go_wp2_with fail;refine (TT wr t st cs _ _ _ _ _ _ V j (by omega) hF.out hn hm hm0 kS j9.out wH.out wN.out pF).mono ?_;rintro e w8 ⟨rfl,hg,v,hr,hv⟩;have hF2:=aa (hF.out.step hg hr hv);have hB2:=aa (hB.out.grown hg hB.out.size fun k e=>by cases e<;>omega);clear hg hr hv;go_wp2_with fail
   go_roundw
   case rel=>exact ⟨j,_,by omega,by go_num,hF2,hB2⟩
   case measure=>simp [intOf]
end
section
open Go.RowKit Go.Deep
def Up (w w':World):Prop:=Below w.heap.size w w'
theorem Up.refl (w:World):Up w w:=Below.refl _ _
theorem Up.trans {a b c:World} (h:Up a b) (k:Up b c):Up a c:=Below.trans h (Below.mono k h.size)
theorem Up.alloc (w:World) (o:Obj):Up w (w.alloc o):=(Below.refl _ _).alloc (Nat.le_refl _) _
theorem Up.drewN (w:World) (n:Nat):Up w (w.drewN n):=below_drewN (Below.refl _ _) n
theorem Up.kept {w w':World} (h:Up w w') (S:Nat→Prop):Kept S w w':=Kept.below h
theorem Up.size {w w':World} (h:Up w w'):w.heap.size≤w'.heap.size:=Below.size h
theorem Up.cell {w w':World} (h:Up w w') {p:Addr} {v:Value} (hc:w.cell? p=some v):w'.cell? p=some v:=by
 obtain ⟨b,o,i⟩:=p;have hl:b<w.heap.size:=World.block_lt_of_cell? w _ hc;rw [Below.cell h (p:=⟨b,o,i⟩) hl];exact hc
theorem dc (w:World) (P N:Value) (T:TypeId):(w.alloc (.cells #[P,N] T)).cell? ⟨w.heap.size,0,none⟩=some P:=by simp [World.cell?_alloc_new]
theorem dz (w:World) (P N:Value) (T:TypeId):(w.alloc (.cells #[P,N] T)).cell? ⟨w.heap.size,1,none⟩=some N:=by simp [World.cell?_alloc_new]
theorem wQ (w:World) (P:Value) (T:TypeId):(w.alloc (.cells #[P] T)).cell? ⟨w.heap.size,0,none⟩=some P:=by simp [World.cell?_alloc_new]
def JQ (t:aD) (st:List Int) (cs:List (List Int)):Prop :=
 t.ps.length≤1000000∧t.ns.length≤1000000∧(∀k,(gs t.ns k).size≤70000)∧st.length≤1000000∧cs.length≤1000000∧∀k,(gl cs k).length≤1000000
theorem Su (S:Nat→Prop) (w:World) (v vs vc:Value) (t:aD) (st:List Int) (cs:List (List Int)) (hT:au S w v t) (hS:aj S w vs st) (hC:aQ S w vc cs)
  (hz:∀k,(gs t.ns k).size≤70000) (hv:Valid t st cs):Calls Tryz.prog 170 #[v,vs,vc] w (wO w (lQ t st cs)):=by
 obtain ⟨h1,h2,h3,hok,hn⟩:=aJ hv.tree;obtain ⟨m1,m2,m3,m4,m5⟩:=od hv.KX;have hl:=jH t.ns;exact Ss S w v vs vc t st cs hT hS hC hv.tree (by omega) hz h2 m2 m1 (Nat.le_of_eq hv.len.symm) m3 m4 (fun j s hj=>hv.tb j s hj) (by omega)
def Ug (w:World) (t:aD) (st:List Int) (cs:List (List Int)) (e:Ending) (w':World):Prop :=
 Up w w'∧e=.returned (.tuple #[.int .i64 (bu t st cs),.int .i64 (cE t st cs)])
theorem bS {S:Nat→Prop} {w:World} {v:Value} {xs:List (List Int)} (h:aQ S w v xs):∃p cap,v=.slice p xs.length cap∧xs.length≤cap ∧
  ∀k,k<xs.length→∃b off q c,p=some ⟨b,off,none⟩∧w.cell? ⟨b,off+k,none⟩=some (.slice q (gl xs k).length c)∧aj S w (.slice q (gl xs k).length c) (gl xs k):=by
 obtain ⟨f,gC,hr⟩:=h;obtain ⟨p,cap,rfl,hcap,H⟩:=aC.open gC;refine ⟨p,cap,rfl,hcap,fun k hk=>?_⟩;obtain ⟨b,off,rfl,hc⟩:=H k hk;have h1:=hr k hk;obtain ⟨q,c,e,_,_⟩:=aC.open h1;rw [e] at hc h1;exact ⟨b,off,q,c,rfl,hc,h1⟩
theorem bQ {S:Nat→Prop} {w:World} {p:Option Addr} {n cap:Nat} {xs:List Int} (h:aj S w (.slice p n cap) xs) {k:Nat} (hk:k<xs.length):∃b off,p=some ⟨b,off,none⟩∧w.cell? ⟨b,off+k,none⟩=some (.int .i64 (gi xs k)):=by
 obtain ⟨q,c,e,_,H⟩:=aC.open h;injection e with e1;subst e1;exact H k hk
theorem bI {S:Nat→Prop} {w:World} {p:Option Addr} {n cap:Nat} {xs:List ByteArray} (h:ah S w (.slice p n cap) xs) {k:Nat} (hk:k<xs.length):∃b off,p=some ⟨b,off,none⟩∧w.cell? ⟨b,off+k,none⟩=some (.string (gs xs k)):=by
 obtain ⟨q,c,e,_,H⟩:=aC.open h;injection e with e1;subst e1;exact H k hk
theorem eM {S:Nat→Prop} {w:World} {p:Option Addr} {n cap:Nat} {xs:List (List Int)} (h:aQ S w (.slice p n cap) xs) {k:Nat} (hk:k<xs.length) :
  ∃b off q c,p=some ⟨b,off,none⟩∧w.cell? ⟨b,off+k,none⟩=some (.slice q (gl xs k).length c)∧aj S w (.slice q (gl xs k).length c) (gl xs k):=by
 obtain ⟨q,c,e,_,H⟩:=bS h;injection e with e1;subst e1;exact H k hk
theorem Iz (t:aD) (st:List Int) (cs:List (List Int)) {k:Nat} (hk:k<t.ps.length):gl (lQ t st cs) k=aN t st cs k:=by simp [gl,lQ,hk]
theorem nH (t:aD) (st:List Int) (cs:List (List Int)):(lQ t st cs).length=t.ps.length:=by simp [lQ]
end
section
open Go.ChangeShapes Go.WideShapes Go.ChangeAt Go.RowKit Go.Deep
theorem OC:ownKnob Tryz.prog.godebug=none:=by kernel_rfl
theorem laidOut:laidOutB Tryz.prog=true:=by kernel_rfl
section
variable {H:Type} {enc:TypeId×Value→H} {W:World}
theorem qj {n:Nat} (h:n≤maxLen):n≤9223372036854775807:=by unfold maxLen at h;exact h
theorem JR {fuel:Nat} {v:Value} {x:DataW H×List MemPlace} (h:DataW.trod enc Tryz.prog W 0 (fun _=>true) true fuel 26 [v]=some x):∃xs:List Int,aj Any W v xs∧xs.length≤9223372036854775807:=by
 rcases open_ints Tryz.underlying26 Tryz.underlying3 (by kernel_rfl) h with ⟨hcs,_⟩ | ⟨a,l,c,zs,hcs,_,hl,hm,hz,_,hcell,_⟩
 ·obtain rfl:v=.slice none 0 0:=by simpa using hcs
  exact ⟨[],⟨none,0,rfl,Nat.le_refl _,.inl rfl⟩,by simp⟩
 ·obtain rfl:v=.slice (some a) l c:=by simpa using hcs
  simp only [if_true] at hz;have hlen:(zs.take l).length=l:=by simp;omega
  refine ⟨zs.take l,⟨some a,c,by rw [hlen],by rw [hlen];exact hl,?_⟩,by rw [hlen];exact qj (Nat.le_trans hl hm)⟩;by_cases h0:l=0
  ·exact .inl (by rw [hlen];exact h0)
  ·obtain ⟨b,off,rfl,hc⟩:=ints_at hcell (by omega)
   refine .inr ⟨b,off,rfl,trivial,fun k hk=>?_⟩;rw [hlen] at hk;rw [hc k (by omega)];simp [gi,hk]
theorem Ab {fuel:Nat} {v:Value} {x:DataW H×List MemPlace} (h:DataW.trod enc Tryz.prog W 0 (fun _=>true) true fuel 22 [v]=some x):∃xs:List ByteArray,ah Any W v xs∧xs.length≤9223372036854775807∧∀k,(gs xs k).size≤9223372036854775807:=by
 rcases open_strings Tryz.underlying22 Tryz.underlying9 (by kernel_rfl) h with ⟨hcs,_⟩ | ⟨a,l,c,zs,hcs,_,hl,hm,hz,_,hcell,hwf⟩
 ·obtain rfl:v=.slice none 0 0:=by simpa using hcs
  exact ⟨[],⟨none,0,rfl,Nat.le_refl _,.inl rfl⟩,by simp,fun k=>by simp [gs]⟩
 ·obtain rfl:v=.slice (some a) l c:=by simpa using hcs
  simp only [if_true] at hz;have hlen:(zs.take l).length=l:=by simp;omega
  refine ⟨zs.take l,⟨some a,c,by rw [hlen],by rw [hlen];exact hl,?_⟩,by rw [hlen];exact qj (Nat.le_trans hl hm),fun k=>?_⟩
  ·by_cases h0:l=0
   ·exact .inl (by rw [hlen];exact h0)
   ·obtain ⟨b,off,spot⟩:=a
    (have hspot:spot=none:=by simpa [Addr.add] using World.cell?_spot (hcell 0 (by omega)));subst hspot;refine .inr ⟨b,off,rfl,trivial,fun k hk=>?_⟩;rw [hlen] at hk;rw [← add_plain,hcell k (by omega)];(have hk2:k<zs.length:=by omega);simp [gs,hk,hk2]
  ·by_cases hk:k<(zs.take l).length
   ·have hm:gs (zs.take l) k∈zs:=by
     have:gs (zs.take l) k=(zs.take l)[k]:=by unfold gs;rw [List.getD_eq_getElem?_getD,List.getElem?_eq_getElem hk];rfl
     rw [this];exact List.mem_of_mem_take (List.getElem_mem hk)
    exact qj (hwf _ hm)
   ·have:gs (zs.take l) k=ByteArray.empty:=by simp [gs,List.getElem?_eq_none (by omega:(zs.take l).length≤k)]
    rw [this];simp
theorem JS {fuel:Nat} {v:Value} {x:DataW H×List MemPlace} (h:DataW.trod enc Tryz.prog W 0 (fun _=>true) true fuel 23 [v]=some x):∃xs:List (List Int),aQ Any W v xs∧xs.length≤9223372036854775807∧∀k,(gl xs k).length≤9223372036854775807:=by
 rcases open_int_rows Tryz.underlying23 Tryz.underlying26 Tryz.underlying3 (by kernel_rfl) (by kernel_rfl) h with ⟨hcs,_⟩ | ⟨a,l,c,A,L,C,Z,hcs,_,hl,hm,_,hr⟩
 ·obtain rfl:v=.slice none 0 0:=by simpa using hcs
  exact ⟨[],⟨fun _=>undef,⟨none,0,rfl,Nat.le_refl _,.inl rfl⟩,fun k hk=>absurd hk (Nat.not_lt_zero _)⟩,by simp,fun k=>by simp [gl]⟩
 ·obtain rfl:v=.slice (some a) l c:=by simpa using hcs
  have hlen:((List.range l).map fun r=>(Z r).take (L r)).length=l:=by simp
  have yA:∀k,k<l→gl ((List.range l).map fun r=>(Z r).take (L r)) k=(Z k).take (L k):=fun k hk=>by simp [gl,hk]
  have Ac:∀k,k<l→((Z k).take (L k)).length=L k:=fun k hk=>by obtain ⟨_,h1,_,h3,_⟩:=hr k (by omega);simp;omega
  refine ⟨(List.range l).map fun r=>(Z r).take (L r),⟨fun k=>.slice (A k) (L k) (C k),⟨some a,c,by rw [hlen],by rw [hlen];exact hl,?_⟩,fun k hk=>?_⟩,by rw [hlen];exact qj (Nat.le_trans hl hm),fun k=>?_⟩
  ·by_cases h0:l=0
   ·exact .inl (by rw [hlen];exact h0)
   ·obtain ⟨b,off,spot⟩:=a
    (have hspot:spot=none:=by simpa [Addr.add] using World.cell?_spot (hr 0 (by omega)).1);subst hspot;refine .inr ⟨b,off,rfl,trivial,fun k hk=>?_⟩;rw [hlen] at hk;rw [← add_plain];exact (hr k (by omega)).1
  ·rw [hlen] at hk
   obtain ⟨_,h1,h2,h3,_,h5,h6⟩:=hr k (by omega);rw [yA k hk];refine ⟨A k,C k,by rw [Ac k hk],by rw [Ac k hk];exact h1,?_⟩;by_cases h0:L k=0
   ·exact .inl (by rw [Ac k hk];exact h0)
   ·cases hA:A k with
    | none=>have:=h5 hA;omega
    | some a' =>
     obtain ⟨_,h7⟩:=h6 a' hA;obtain ⟨b,off,rfl,hc⟩:=ints_at (zs:=Z k) (k:=.i64) (fun i hi=>h7 i (by omega)) (by omega);refine .inr ⟨b,off,rfl,trivial,fun j hj=>?_⟩;rw [Ac k hk] at hj;rw [hc j (by omega)];simp [gi,hj]
  ·by_cases hk:k<l
   ·rw [yA k hk,Ac k hk]
    obtain ⟨_,h1,h2,_⟩:=hr k (by omega);exact qj (Nat.le_trans h1 h2)
   ·have:gl ((List.range l).map fun r=>(Z r).take (L r)) k=[]:=by simp [gl,hk]
    rw [this];simp
theorem Xr {t:TypeId} {v:Value} {d:DataW H} {p:List MemPlace} (h:DataW.Trod enc Tryz.prog W 0 (fun _=>true) true t v d p):∀x∈p,x.block<W.heap.size:=by
 obtain ⟨m,hm⟩:=h;exact DataW.trod_lt m _ _ _ hm
end
end
section
open Go.RowKit Go.Deep
theorem mul_one (N:Nat) (hN:N≤1000) (w:World):Calls Tryz.prog 269 #[.int .u64 1,.int .u64 N] w fun e w'=>e=.returned (.tuple #[.int .u64 0,.int .u64 N])∧w=w':=by
 have h:=Tryz.bits_Mul 1 N (by decide) (by omega) w;rw [Nat.one_mul,Nat.div_eq_of_lt (by omega),Nat.mod_eq_of_lt (by omega)] at h;exact h.mono fun _ _ ⟨a,b⟩=>⟨a,b.symm⟩
def JT (n i:Nat):Value:=if i<n then .int .i64 1 else .int .i64 0
def en (N n:Nat):List Value:=(List.range N).map (JT n)
theorem oC (N n:Nat):(en N n).length=N:=by simp [en]
theorem rP {N n i:Nat} (h:i<N):(en N n)[i]? = some (if i<n then .int .i64 1 else .int .i64 0):=by simp [en,h,JT]
theorem OD {N n m:Nat} (h:n+m≤N):((en N n).toArray.toList.take n++List.replicate m (.int .i64 1)++(en N n).toArray.toList.drop (n+(List.replicate m (Value.int .i64 1)).length))=en N (n+m):=by
 apply List.ext_getElem?;intro i;by_cases hi:i<N
 ·rw [rP hi,List.append_assoc,List.getElem?_append]
  simp only [List.length_take,oC,List.length_replicate];by_cases h1:i<n
  ·rw [if_pos (by omega),List.getElem?_take,if_pos h1,rP hi,if_pos h1,if_pos (by omega)]
  ·rw [if_neg (by omega),List.getElem?_append]
   by_cases h2:i<n+m
   ·rw [if_pos (by rw [List.length_replicate];omega),if_pos h2,List.getElem?_replicate,if_pos (by omega)]
   ·rw [if_neg (by rw [List.length_replicate];omega),if_neg h2,List.getElem?_drop]
    simp only [List.length_replicate];(have e:n+m+(i - min n N - m)=i:=by omega);rw [e,rP hi,if_neg (by omega)]
 ·rw [List.getElem?_eq_none (by simp [oC];omega),List.getElem?_eq_none (by simp [oC];omega)]
theorem Cj (W:World) (g N n m dCap:Nat) (ad:Addr) (sLen sCap dLen:Nat) (hg:W.heap[g]? = some (.cells (en N n).toArray 3 (0,0))) (hm:m=Nat.min sLen dLen) (Iw:n+m≤N)
  (hs:∀j,j<m→W.cell? (ad.add j)=some (.int .i64 1)) :
  Sem.run Tryz.prog (Builtin.copy_ #[26,26] 3 #[.slice (some ⟨g,n,none⟩) dLen dCap,.slice (some ad) sLen sCap]) W=.ok (.int .i64 m) (W.setRow g (en N (n+m)).toArray):=by
 have h:=run_copy_row (P:=Tryz.prog) W 26 26 3 3 g n dLen dCap ad sLen sCap (en N n).toArray 3 (List.replicate m (.int .i64 1)) Tryz.underlying26 (by kernel_rfl) hg (by simpa using hm)
  (fun j v hj=>by
   rw [List.getElem?_replicate] at hj;split at hj
   ·injection hj with hj;subst hj;exact hs j (by assumption)
   ·cases hj) (by simpa [oC] using Iw) (fun v hv=>by rw [List.eq_of_mem_replicate hv];rfl)
 rw [OD Iw,List.length_replicate] at h;exact h
theorem LA (N:Nat):madeCells #[.int .i64 0] N=(en N 0).toArray:=by
 apply Array.ext
 ·simp [oC,madeCells]
 ·intro i h1 h2
  simp [madeCells,en,Nat.mod_one,JT]
theorem rQ {W:World} {g N k:Nat} {T:TypeId} (h:W.heap[g]? = some (.cells (en N k).toArray T (0,0))) {j:Nat} (hj:j<N):W.cell? ⟨g,j,none⟩=some (if j<k then .int .i64 1 else .int .i64 0):=by
 have h2:=rP (n:=k) hj;rw [← h2];simp [World.cell?,h]
def Uh (w:World) (N:Nat) (e:Ending) (w':World):Prop:=∃g,e=.returned (.slice (some ⟨g,0,none⟩) N N)∧w.heap.size≤g∧Up w w'∧w'.heap[g]? = some (.cells (en N N).toArray 3 (0,0))
set_option maxHeartbeats 1000000 in
theorem Ew (w:World) (b off:Nat) (N:Nat) (sY:1≤N) (hN:N≤1000) (hc:w.cell? ⟨b,off,none⟩=some (.int .i64 1)) :
  Calls Tryz.prog 233 #[.slice (some ⟨b,off,none⟩) 1 1,.int .i64 N] w (Uh w N):=by
 have hmk:=fun W=>run_make_row' (P:=Tryz.prog) 26 3 (.int .i64 0) 8 Tryz.underlying26 Tryz.fI rfl .i64 .i64 N (by omega) (by omega) W;have d1:decide ((N:Int)<0)=false:=by simp
 have d2:decide ((9223372036854775807:Int)<(N:Int))=false:=by simp;omega
 have ji:(w.alloc (.cells (madeCells #[.int .i64 0] N) 3)).heap[w.heap.size]? = some (.cells (en N 0).toArray 3 (0,0)):=by rw [blk_alloc_new,LA]
 have kT:=Up.alloc w (.cells (madeCells #[.int .i64 0] N) 3);have hc0:=kT.cell hc;have Ad:=aa ji;have yB:=aa kT;clear ji kT
 have jL:=Cj (w.alloc (.cells (madeCells #[.int .i64 0] N) 3)) w.heap.size N 0 1 N ⟨b,off,none⟩ 1 1 N Ad.out (by show 1=min 1 N;omega) (by omega) (fun j hj=>by
  obtain rfl:j=0:=by omega
  exact hc0)
 have z7:Hid (((w.alloc (.cells (madeCells #[.int .i64 0] N) 3)).setRow w.heap.size (en N (0+1)).toArray).heap[w.heap.size]? = some (.cells (en N (0+1)).toArray 3 (0,0))):=setRow_heap _ _ _ _ _ _ Ad.out;have bH:Hid (Up w ((w.alloc (.cells (madeCells #[.int .i64 0] N) 3)).setRow w.heap.size (en N (0+1)).toArray)):=below_setRow yB.out (Nat.le_refl _) _;clear Ad yB
 go_enter Tryz.func233,Tryz.ntmps233
 go_wp2_with (go_at_call 269;refine (mul_one N hN _).mono ?_;rintro e w' ⟨rfl,rfl⟩);generalize (w.alloc (.cells (madeCells #[.int .i64 0] N) 3)).setRow w.heap.size (en N (0+1)).toArray=w1 at *
 go_loopw [8] (fun n wr=>∃k:Nat,1≤k∧k≤N∧n=.int .i64 k∧Hid (wr.heap[w.heap.size]? = some (.cells (en N k).toArray 3 (0,0)))∧Hid (Up w wr)) (fun n _=>N - (intOf n).toNat)
 case atStart=>exact ⟨1,Nat.le_refl _,sY,rfl,z7,bH⟩
 case round =>
  obtain ⟨k,hk1,hk2,rfl,HR,HU⟩:=hrel;obtain ⟨wo,rfl⟩:∃wo:World,wo=wr:=⟨_,rfl⟩;by_cases hlt:k<N
  ·obtain ⟨m,hm⟩:∃m:Nat,m=Nat.min k (N - k):=⟨_,rfl⟩
   have hm2:m=min k (N - k):=hm;have TQ:Sem.run Tryz.prog (Builtin.copy_ #[26,26] 3 #[.slice (some ⟨w.heap.size,k,none⟩) (N - k) (N - k),.slice (some ⟨w.heap.size,0,none⟩) k N]) wo.drew=.ok (.int .i64 m) (wo.drew.setRow w.heap.size (en N (k+m)).toArray) :=
    Cj wo.drew w.heap.size N k m (N - k) ⟨w.heap.size,0,none⟩ k N (N - k) HR.out hm (by omega) (fun j hj=>by
     have h:=rQ HR.out (j:=j) (by omega);rw [if_pos (by omega)] at h;have e:(⟨w.heap.size,0,none⟩:Addr).add j=⟨w.heap.size,j,none⟩:=by simp [Addr.add];omega
     rw [e];exact h)
   (have hmk:1≤m:=by omega);(have hmN:k+m≤N:=by omega);have wR:Hid ((wo.drew.setRow w.heap.size (en N (k+m)).toArray).heap[w.heap.size]? = some (.cells (en N (k+m)).toArray 3 (0,0))):=setRow_heap _ _ _ _ _ _ (show wo.drew.heap[w.heap.size]? = _ from HR.out);have aP:Hid (Up w (wo.drew.setRow w.heap.size (en N (k+m)).toArray)):=below_setRow (show Up w wo.drew from below_drewN HU.out 1) (Nat.le_refl _) _;clear hm hm2 HR HU;go_wp2_with fail
   go_region
   all_goals
    go_wp2_with fail
    go_roundw
    case rel=>exact ⟨k+m,by omega,by omega,by go_num,wR,aP⟩
    case measure=>simp [intOf];omega
  ·obtain rfl:k=N:=by omega
   go_wp2_with fail;go_ret;exact ⟨_,rfl,Nat.le_refl _,HU.out,HR.out⟩
end
end Go.Proofs.YthgabkgmkolobaaGreat
