/- The plain law of forests in which no node has two parents and no two leaves one name: .. -/
import Derived.Laws.IdiomStrings
import Derived.Shelf.Slices.In.SortNone
import Derived.Shelf.Lays
import Derived.Shelf.Sort.Plain
import Derived.Test.YthgabkgmkolobaaGreatQ21
set_option maxRecDepth 100000
namespace Go.Proofs.YthgabkgmkolobaaGreat
section
theorem iz {F:aU} {n:Nat} {rk:Nat→Nat} (h:Wf F n rk) {i:Nat} (hi:i<n):bM F rk i i=true:=by rw [gy h hi];simp
theorem lU {F:aU} {n:Nat} {rk:Nat→Nat} (h:Wf F n rk) {i k j:Nat} (hi:i<n) (hk:k∈F.kids i) (hj:bM F rk k j=true):bM F rk i j=true:=by
 rw [gy h hi,Bool.or_eq_true];exact .inr (List.any_eq_true.2 ⟨k,hk,hj⟩)
theorem qa {F:aU} {n:Nat} {rk:Nat→Nat} (h:Wf F n rk) {i j:Nat} (hi:i<n) (hj:bM F rk i j=true):j=i∨∃k∈F.kids i,bM F rk k j=true:=by
 rw [gy h hi,Bool.or_eq_true] at hj;rcases hj with h1 | h1
 ·exact .inl (by simpa using h1)
 ·obtain ⟨k,hk,h2⟩:=List.any_eq_true.1 h1
  exact .inr ⟨k,hk,h2⟩
theorem nP {F:aU} {n:Nat} {rk:Nat→Nat} (h:Wf F n rk):∀ {d i j:Nat},i<n→rk i≤d→bM F rk i j=true→j<n:=by
 intro d
 induction d with
 | zero =>
  intro i j hi hd hj;rcases qa h hi hj with rfl | ⟨k,hk,h1⟩
  ·exact hi
  ·have:=(h.kid i hi k hk).2;omega
 | succ d ih =>
  intro i j hi hd hj;rcases qa h hi hj with rfl | ⟨k,hk,h1⟩
  ·exact hi
  ·have:=h.kid i hi k hk
   exact ih this.1 (by omega) h1
structure rV (F:aU) (n:Nat) (rk:Nat→Nat):Prop where
 wf:Wf F n rk
 one:∀p q k,p<n→q<n→k∈F.kids p→k∈F.kids q→p=q
 nodup:∀i,i<n→(F.kids i).Nodup
 names:∀a b,a<n→b<n→F.kids a=[]→F.kids b=[]→F.nm a=F.nm b→a=b
section
variable {F:aU} {n:Nat} {rk:Nat→Nat}
theorem qb (h:Wf F n rk):∀ {d x j:Nat},x<n→rk x≤d→bM F rk x j=true→j≠x→∃p,p<n∧j∈F.kids p∧bM F rk x p=true:=by
 intro d
 induction d with
 | zero =>
  intro x j hx hd hj hne;rcases qa h hx hj with e | ⟨k,hk,h1⟩
  ·exact absurd e hne
  ·have:=(h.kid x hx k hk).2;omega
 | succ d ih =>
  intro x j hx hd hj hne;rcases qa h hx hj with e | ⟨k,hk,h1⟩
  ·exact absurd e hne
  ·have hkk:=h.kid x hx k hk
   by_cases e:j=k
   ·exact ⟨x,hx,by rw [e];exact hk,iz h hx⟩
   ·obtain ⟨p,hp,h2,h3⟩:=ih hkk.1 (by omega) h1 e
    exact ⟨p,hp,h2,lU h hx hk h3⟩
theorem Mo (h:rV F n rk) {R:Nat} (hR:∀i,i<n→rk i≤R):∀ {m j x y:Nat},R - rk j≤m→j<n→x<n→y<n→bM F rk x j=true→bM F rk y j=true→bM F rk x y=true∨bM F rk y x=true:=by
 intro m
 induction m with
 | zero =>
  intro j x y hm hj hx hy h1 h2;by_cases e1:j=x
  ·subst e1;exact .inr h2
  ·obtain ⟨p,hp,hk,_⟩:=qb h.wf hx (Nat.le_refl _) h1 e1
   have:=(h.wf.kid p hp j hk).2;have:=hR p hp;omega
 | succ m ih =>
  intro j x y hm hj hx hy h1 h2;by_cases e1:j=x
  ·subst e1;exact .inr h2
  ·by_cases e2:j=y
   ·subst e2;exact .inl h1
   ·obtain ⟨p,hp,hk,h3⟩:=qb h.wf hx (Nat.le_refl _) h1 e1
    obtain ⟨q,hq,hk2,h4⟩:=qb h.wf hy (Nat.le_refl _) h2 e2;obtain rfl:=h.one p q j hp hq hk hk2;have h5:=(h.wf.kid p hp j hk).2;have h6:=hR p hp;exact ih (by omega) hp hx hy h3 h4
theorem zm (h:rV F n rk) {R:Nat} (hR:∀i,i<n→rk i≤R) {i x y j:Nat} (hi:i<n) (hx:x∈F.kids i) (hy:y∈F.kids i) (h1:bM F rk x j=true) (h2:bM F rk y j=true):x=y:=by
 have mE:=h.wf.kid i hi x hx;have Mp:=h.wf.kid i hi y hy;have hj:=nP h.wf mE.1 (Nat.le_refl _) h1;have key:∀ {a b:Nat},a∈F.kids i→b∈F.kids i→a<n→rk a<rk i→bM F rk a b=true→a=b:=fun {a b} ha hb Mq har hab=>by
  by_cases e:b=a
  ·exact e.symm
  ·obtain ⟨p,hp,hk,h3⟩:=qb h.wf Mq (Nat.le_refl _) hab e
   obtain rfl:=h.one p i b hp hi hk hb;have:=l9 h.wf Mq h3;omega
 rcases Mo h hR (Nat.le_refl _) hj mE.1 Mp.1 h1 h2 with h3 | h3
 ·exact key hx hy mE.1 mE.2 h3
 ·exact (key hy hx Mp.1 Mp.2 h3).symm
theorem IU (h:Wf F n rk):∀ {d i:Nat},i<n→rk i≤d→∃j,j<n∧bM F rk i j=true∧F.kids j=[]∧fc F rk i=F.nm j:=by
 intro d
 induction d with
 | zero =>
  intro i hi hd;have hk:F.kids i=[]:=by
   cases hk:F.kids i with
   | nil=>rfl
   | cons k l=>have:=(h.kid i hi k (by rw [hk];simp)).2;omega
  exact ⟨i,hi,iz h hi,hk,by rw [qP h hi,hk];simp [cn]⟩
 | succ d ih =>
  intro i hi hd;by_cases hk:F.kids i=[]
  ·exact ⟨i,hi,iz h hi,hk,by rw [qP h hi,hk];simp [cn]⟩
  ·obtain ⟨k,l,hs⟩:∃k l,cn (fc F rk) (F.kids i)=k::l:=by
    cases hs:cn (fc F rk) (F.kids i) with
    | nil=>have h1:=(dM (fc F rk) (F.kids i)).length_eq;rw [hs] at h1;exact absurd (List.length_eq_zero_iff.1 h1.symm) hk
    | cons k l=>exact ⟨k,l,rfl⟩
   have hki:k∈F.kids i:=(dM (fc F rk) _).mem_iff.1 (by rw [hs];simp)
   have hkk:=h.kid i hi k hki
   obtain ⟨j,hj,h1,h2,h3⟩:=ih hkk.1 (by omega)
   exact ⟨j,hj,lU h hi hki h1,h2,by rw [qP h hi,hs];exact h3⟩
theorem rV.Pj (h:rV F n rk) (hl:∀i,i<n→(F.kids i).length≤1000) {R:Nat} (hR:∀i,i<n→rk i≤R):zi F n rk:=by
 refine ⟨h.wf,fun i hi x hx y hy e=>?_,h.nodup,hl⟩;have mE:=h.wf.kid i hi x hx;have Mp:=h.wf.kid i hi y hy;obtain ⟨a,ha,h1,h2,h3⟩:=IU h.wf mE.1 (Nat.le_refl _);obtain ⟨b,hb,h4,h5,h6⟩:=IU h.wf Mp.1 (Nat.le_refl _);rw [h3,h6] at e;obtain rfl:=h.names a b ha hb h2 h5 e;exact zm h hR hi hx hy h1 h4
def bK (F:aU) (rk:Nat→Nat) (i:Nat):List Nat:=(dH F rk i none).map (·.1)
theorem IV (h:Wf F n rk):∀ {d i:Nat} (p q:Option Nat),i<n→rk i≤d→(dH F rk i p).map (·.1)=(dH F rk i q).map (·.1):=by
 intro d;cases d with
 | zero=>intro i p q hi hd;rw [fO h hi,fO h hi];rfl
 | succ d=>intro i p q hi hd;rw [fO h hi,fO h hi];rfl
theorem bY (h:Wf F n rk) {i:Nat} (hi:i<n):bK F rk i=i::(F.kids i).flatMap fun k=>bK F rk k:=by
 unfold bK;rw [fO h hi,List.map_cons,List.map_flatMap];congr 1;exact gz fun k hk=>IV h _ _ (h.kid i hi k hk).1 (Nat.le_refl _)
theorem dN (h:Wf F n rk):∀ {d i j:Nat},i<n→rk i≤d→(j∈bK F rk i↔bM F rk i j=true):=by
 intro d
 induction d with
 | zero =>
  intro i j hi hd;rw [bY h hi,gy h hi];have hk:F.kids i=[]:=by
   cases hk:F.kids i with
   | nil=>rfl
   | cons k l=>have:=(h.kid i hi k (by rw [hk];simp)).2;omega
  simp [hk]
 | succ d ih =>
  intro i j hi hd;rw [bY h hi,gy h hi];simp only [List.mem_cons,List.mem_flatMap,Bool.or_eq_true,beq_iff_eq,List.any_eq_true];constructor
  ·rintro (e | ⟨k,hk,h1⟩)
   ·exact .inl e
   ·have:=h.kid i hi k hk
    exact .inr ⟨k,hk,(ih this.1 (by omega)).1 h1⟩
  ·rintro (e | ⟨k,hk,h1⟩)
   ·exact .inl e
   ·have:=h.kid i hi k hk
    exact .inr ⟨k,hk,(ih this.1 (by omega)).2 h1⟩
theorem iY (h:rV F n rk) {R:Nat} (hR:∀i,i<n→rk i≤R):∀ {d i:Nat},i<n→rk i≤d→(bK F rk i).Nodup:=by
 intro d
 induction d with
 | zero =>
  intro i hi hd;rw [bY h.wf hi];have hk:F.kids i=[]:=by
   cases hk:F.kids i with
   | nil=>rfl
   | cons k l=>have:=(h.wf.kid i hi k (by rw [hk];simp)).2;omega
  simp [hk]
 | succ d ih =>
  intro i hi hd;rw [bY h.wf hi,List.nodup_cons];refine ⟨fun hm=>?_,?_⟩
  ·obtain ⟨k,hk,h1⟩:=List.mem_flatMap.1 hm
   have hkk:=h.wf.kid i hi k hk;have:=l9 h.wf hkk.1 ((dN h.wf hkk.1 (Nat.le_refl _)).1 h1);omega
  ·have hsub:∀l:List Nat,l.Nodup→(∀k∈l,k∈F.kids i)→(l.flatMap fun k=>bK F rk k).Nodup:=by
    intro l
    induction l with
    | nil=>intro _ _;simp
    | cons x l ihl =>
     intro hn hin
     obtain ⟨hx,hl⟩:=List.nodup_cons.1 hn
     have YJ:=h.wf.kid i hi x (hin x (by simp))
     rw [List.flatMap_cons,List.nodup_append]
     refine ⟨ih YJ.1 (by omega),ihl hl (fun k hk=>hin k (by simp [hk])),fun a ha b hb e=>?_⟩
     subst e
     obtain ⟨y,hy,h2⟩:=List.mem_flatMap.1 hb
     have hyy:=h.wf.kid i hi y (hin y (by simp [hy]))
     have:=zm h hR hi (hin x (by simp)) (hin y (by simp [hy])) ((dN h.wf YJ.1 (Nat.le_refl _)).1 ha) ((dN h.wf hyy.1 (Nat.le_refl _)).1 h2)
     subst this;exact hx hy
   exact hsub _ (h.nodup i hi) (fun k hk=>hk)
theorem nQ {l:List Nat} {n:Nat} (h:l.Nodup) (hl:∀x∈l,x<n):l.length≤n:=by
 have h1:l ⊆ List.range n:=fun x hx=>List.mem_range.2 (hl x hx);have:=h.length_le_of_subset h1;simpa using this
theorem SK (h:rV F n rk) {R:Nat} (hR:∀i,i<n→rk i≤R) {i:Nat} (hi:i<n) (p:Option Nat):(dH F rk i p).length≤n:=by
 have h1:(dH F rk i p).length=(bK F rk i).length:=by have:=congrArg List.length (IV h.wf p none hi (Nat.le_refl _));simpa [bK] using this
 rw [h1];exact nQ (iY h hR hi (Nat.le_refl _)) (fun x hx=>nP h.wf hi (Nat.le_refl _) ((dN h.wf hi (Nat.le_refl _)).1 hx))
theorem rV.gQ (h:rV F n rk) (p:Nat→Bool):rV (F.gQ rk p) n rk :=
 ⟨⟨fun i hi k hk=>h.wf.kid i hi k ((F.gG rk p i).mem_iff.1 hk)⟩,fun a b k ha hb h1 h2=>h.one a b k ha hb ((F.gG rk p a).mem_iff.1 h1) ((F.gG rk p b).mem_iff.1 h2),fun i hi=>(F.gG rk p i).symm.nodup_iff.1 (h.nodup i hi),
  fun a b ha hb h1 h2 e=>h.names a b ha hb (List.perm_nil.1 (by rw [← h1];exact (F.gG rk p a).symm)) (List.perm_nil.1 (by rw [← h2];exact (F.gG rk p b).symm)) e⟩
end
def cW (t:aD) (i:Nat):Nat:=t.ps.length - i
theorem lV (t:aD) (i:Nat):(fL t).kids i=cu t.ps i:=rfl
theorem dV {t:aD} (h:aB t=0):rV (fL t) t.ps.length (cW t):=by
 obtain ⟨hp,_,hn,hok,he⟩:=aJ h;refine ⟨⟨fun i hi k hk=>?_⟩,fun p q k _ _ h1 h2=>?_,fun i _=>?_,fun a b ha hb h1 h2 e=>?_⟩
 ·obtain ⟨h1,h2,_⟩:=gh.1 hk
  exact ⟨h1,by unfold cW;omega⟩
 ·obtain ⟨_,_,h3⟩:=gh.1 h1
  obtain ⟨_,_,h4⟩:=gh.1 h2;omega
 ·exact List.Pairwise.filter _ List.nodup_range
 ·have leaf:∀i,i<t.ps.length→cu t.ps i=[]→isIn t.ps i=false:=fun i hi hk=>by
   cases hin:isIn t.ps i with
   | false=>rfl
   | true=>exact absurd hk ((l5 hok i).2 hin)
  have e:gs t.ns a=gs t.ns b:=e
  rcases Nat.lt_trichotomy a b with hab | hab | hab
  ·have h3:=(zS h hb (leaf b hb h2)).2
   have:=any_false h3 hab
   simp [e] at this
  ·exact hab
  ·have h3:=(zS h ha (leaf a ha h1)).2
   have:=any_false h3 hab
   simp [e] at this
theorem tC (t:aD) (i:Nat):cW t i≤t.ps.length:=Nat.sub_le _ _
end
section
open Go.RowKit Go.Deep
def jv (t:aD):aU:=(fL t).gQ (cW t) fun j=>false || bM (fL t) (cW t) 0 j
def o5 (t:aD):aD:=fu (jv t) (cW t) 0
theorem mP (t:aD) (i:Nat):((fL t).kids i).length≤t.ps.length:=by rw [lV];exact oz _ _ _
theorem E7 {t:aD} (h:aB t=0):rV (jv t) t.ps.length (cW t):=(dV h).gQ _
theorem DM (t:aD) (i:Nat):((jv t).kids i).length≤t.ps.length:=by
 have h:=((fL t).gG (cW t) (fun j=>false || bM (fL t) (cW t) 0 j) i).length_eq;have h2:=mP t i;unfold jv;omega
theorem ek {w:World} {P N:Value} {T:TypeId}:(w.alloc (.cells #[P,N] T)).heap[w.heap.size]? = some (.cells #[P,N] T (0,0)):=World.alloc_heap_new _ _
set_option maxHeartbeats 2000000 in
theorem Hj (S:Nat→Prop) (w:World) (v:Value) (t:aD) (hT:au S w v t) (he:aB t=0) (hz:∀k,(gs t.ns k).size≤70000):Calls Tryz.prog 129 #[v] w (Mi w (o5 t)):=by
 obtain ⟨mC,xh,hnl,hok,_⟩:=aJ he;obtain ⟨P,N,rfl,hP,hN⟩:=hT;have hu:=(Up.alloc w (.cells #[P,N] 39)).trans (Up.alloc _ (.cells #[.slice none 0 0,.slice none 0 0] 39));have dw:au S ((w.alloc (.cells #[P,N] 39)).alloc (.cells #[.slice none 0 0,.slice none 0 0] 39)) (.agg #[P,N]) t:=au.keep ⟨P,N,rfl,hP,hN⟩ (hu.kept _);have HN:=aa (SA S _ _ t dw (by omega) hnl hok hz);have HU:=aa hu;have hc0:=(Up.alloc _ (.cells #[.slice none 0 0,.slice none 0 0] 39)).cell (dc w P N 39)
 have hc1:=(Up.alloc _ (.cells #[.slice none 0 0,.slice none 0 0] 39)).cell (dz w P N 39);have hrb:=ek (w:=w.alloc (.cells #[P,N] 39)) (P:=.slice none 0 0) (N:=.slice none 0 0) (T:=39);have hsz:((w.alloc (.cells #[P,N] 39)).alloc (.cells #[.slice none 0 0,.slice none 0 0] 39)).heap.size=w.heap.size+2:=by simp
 rw [World.size_alloc] at hrb;have iV:=aa hrb;have cz:=aa hsz;have LD:=aa (dV he);have CL:=aa (E7 he);clear hu dw hP hN hrb hsz hnl hok
 go_enter Tryz.func129,Tryz.ntmps129
 go_wp2_with fail;generalize (w.alloc (.cells #[P,N] 39)).alloc (.cells #[.slice none 0 0,.slice none 0 0] 39)=w1 at *;refine HN.out.mono ?_;rintro e w2 ⟨aG,g,A,kv,rfl,hF,hrow⟩;have gP:=hrow.cell (i:=0) mC;have vD:=aa hF;have aP:=aa aG;have iZ:=aa ((Below.block aG (w.heap.size+1) (by rw [cz.out];omega)).trans iV.out);have hs2:=aG.size;simp only [bg] at gP;have hpos:(0:Int)<(t.ps.length:Int):=by omega
 clear aG hF hrow hc0 hc1 HN;go_wp2_with fail;have U8:bf w1.heap.size t.ps.length A kv ((fL t).gQ (cW t) fun _=>false) w2:=vD.out.congr fun j _=>⟨rfl,rfl,rfl⟩;have xk:=aa (O9 (LD.out.Pj (fun i _=>by have:=mP t i;omega) (fun i _=>tC t i)) (cW t 0) 0 (fun _=>false) w2 mC (Nat.le_refl _) U8);clear gP;refine xk.out.mono ?_;rintro e w3 ⟨rfl,IG,YK⟩;have hb3:Below w1.heap.size w2 w3:=YK.below U8 hs2;have U9:=aa ((hb3.block (w.heap.size+1) (by rw [cz.out];omega)).trans iZ.out);have bW:Hid (Up w1 w3):=Below.trans aP.out hb3
 have Ao:=aa (Mj (F:=jv t) (rk:=cW t) CL.out.wf (fun i _=>by have:=DM t i;omega) w3 0 mC IG (by have:=SK CL.out (fun i _=>tC t i) mC none;omega));clear IG YK hb3 xk vD U8 iZ aP;go_wp2_with fail;refine Ao.out.mono ?_;rintro e w4 ⟨bE,_,rfl,P4,N4,rfl,ey,eC⟩;obtain ⟨pp,pc,rfl,_,_⟩:=aC.open ey;obtain ⟨np,nc,rfl,_,_⟩:=aC.open eC;have ja:=(Below.block bE (w.heap.size+1) (by have:=bW.out.size;rw [cz.out] at this;omega)).trans U9.out;have ji:w4.cell? ⟨w.heap.size+1,0,none⟩=some (.slice none 0 0):=by simp [World.cell?,ja]
 have hr1:w4.cell? ⟨w.heap.size+1,1,none⟩=some (.slice none 0 0):=by simp [World.cell?,ja]
 have IQ:w4.frozen? ⟨w.heap.size+1,0,none⟩=false:=by simp [World.frozen?,ja]
 have nw:w4.frozen? ⟨w.heap.size+1,1,none⟩=false:=by simp [World.frozen?,ja]
 have CJ:=aa ey;have Mr:=aa eC;have jl:=aa bE;have HRB4:=aa ja;clear ey eC bE ja Ao U9;go_wp2_with fail;have cG:∀b,b≠w.heap.size+1→((w4.setCell ⟨w.heap.size+1,0,none⟩ (.slice pp (fu (jv t) (cW t) 0).ps.length pc)).setCell ⟨w.heap.size+1,1,none⟩ (.slice np (fu (jv t) (cW t) 0).ns.length nc)).heap[b]? = w4.heap[b]?:=fun b hb=>by rw [blk_setCell_other _ _ _ _ hb,blk_setCell_other _ _ _ _ hb]
 have hheap:((w4.setCell ⟨w.heap.size+1,0,none⟩ (.slice pp (fu (jv t) (cW t) 0).ps.length pc)).setCell ⟨w.heap.size+1,1,none⟩ (.slice np (fu (jv t) (cW t) 0).ns.length nc)).heap[w.heap.size+1]? = some (Obj.cells #[.slice pp (fu (jv t) (cW t) 0).ps.length pc,.slice np (fu (jv t) (cW t) 0).ns.length nc] 39 (0,0)):=by simp [World.setCell,Array.getElem?_modify,HRB4.out]
 have bE:=HU.out.trans (bW.out.trans jl.out);have fe:Up w ((w4.setCell ⟨w.heap.size+1,0,none⟩ (.slice pp (fu (jv t) (cW t) 0).ps.length pc)).setCell ⟨w.heap.size+1,1,none⟩ (.slice np (fu (jv t) (cW t) 0).ns.length nc)) :=
  ⟨bE.os,bE.tape,bE.output,by simp [World.size_setCell];exact bE.size,fun b hb=>(cG b (by omega)).trans (bE.block b hb)⟩
 have hs3:w.heap.size+2≤w3.heap.size:=by have:=bW.out.size;rw [cz.out] at this;exact this
 generalize (w4.setCell ⟨w.heap.size+1,0,none⟩ (.slice pp (fu (jv t) (cW t) 0).ps.length pc)).setCell ⟨w.heap.size+1,1,none⟩ (.slice np (fu (jv t) (cW t) 0).ns.length nc)=w5 at *;have ji:w5.cell? ⟨w.heap.size+1,0,none⟩=some (.slice pp (fu (jv t) (cW t) 0).ps.length pc):=by simp [World.cell?,hheap]
 have hr1:w5.cell? ⟨w.heap.size+1,1,none⟩=some (.slice np (fu (jv t) (cW t) 0).ns.length nc):=by simp [World.cell?,hheap]
 refine ⟨rfl,.agg #[.slice pp (fu (jv t) (cW t) 0).ps.length pc,.slice np (fu (jv t) (cW t) 0).ns.length nc],by simp [results,Tryz.results129,go_sem,ji,hr1],?_⟩;exact ⟨fe,_,rfl,_,_,rfl,(aj.keep CJ.out fun b hb _=>cG b (by omega)).sub fun b hb _=>by omega,(ah.keep Mr.out fun b hb _=>cG b (by omega)).sub fun b hb _=>by omega⟩
def Va (w:World) (t:aD) (e:Ending) (w':World):Prop :=
 Up w w'∧((aB t≠0∧e=.returned (.tuple #[.agg #[.slice none 0 0,.slice none 0 0],.int .i64 1]))∨(aB t=0∧∃v,e=.returned (.tuple #[v,.int .i64 0])∧au (fun b=>w.heap.size≤b) w' v (o5 t)))
theorem dS {w w4:World} {B:Nat} {x y p q:Value} {T:TypeId} (hb:w4.heap[B]? = some (Obj.cells #[x,y] T (0,0))) (hB:w.heap.size≤B) (hu:Up w w4) :
  Up w ((w4.setCell ⟨B,0,none⟩ p).setCell ⟨B,1,none⟩ q)∧((w4.setCell ⟨B,0,none⟩ p).setCell ⟨B,1,none⟩ q).cell? ⟨B,0,none⟩=some p∧((w4.setCell ⟨B,0,none⟩ p).setCell ⟨B,1,none⟩ q).cell? ⟨B,1,none⟩=some q ∧
   ∀b,b≠B→((w4.setCell ⟨B,0,none⟩ p).setCell ⟨B,1,none⟩ q).heap[b]? = w4.heap[b]?:=by
 have cG:∀b,b≠B→((w4.setCell ⟨B,0,none⟩ p).setCell ⟨B,1,none⟩ q).heap[b]? = w4.heap[b]?:=fun b hb=>by rw [blk_setCell_other _ _ _ _ hb,blk_setCell_other _ _ _ _ hb]
 have hheap:((w4.setCell ⟨B,0,none⟩ p).setCell ⟨B,1,none⟩ q).heap[B]? = some (Obj.cells #[p,q] T (0,0)):=by simp [World.setCell,Array.getElem?_modify,hb]
 exact ⟨⟨hu.os,hu.tape,hu.output,by simp [World.size_setCell];exact hu.size,fun b hb=>(cG b (by omega)).trans (hu.block b hb)⟩,by simp [World.cell?,hheap],by simp [World.cell?,hheap],cG⟩
set_option maxHeartbeats 2000000 in
theorem E8 (S:Nat→Prop) (w:World) (v:Value) (t:aD) (hT:au S w v t) (hp:t.ps.length≤1000000) (hn:t.ns.length≤1000000) (hz:∀k,(gs t.ns k).size≤70000):Calls Tryz.prog 75 #[v] w (Va w t):=by
 obtain ⟨P,N,rfl,hP,hN⟩:=hT;have hu:=(Up.alloc w (.cells #[P,N] 39)).trans (Up.alloc _ (.cells #[.slice none 0 0,.slice none 0 0] 39));have dw:au S ((w.alloc (.cells #[P,N] 39)).alloc (.cells #[.slice none 0 0,.slice none 0 0] 39)) (.agg #[P,N]) t:=au.keep ⟨P,N,rfl,hP,hN⟩ (hu.kept _);have dr:=aa (qi S _ _ t dw hp hn hz);have HT:=aa dw;have HU:=aa hu;have eN:=aa ((Up.alloc _ (.cells #[.slice none 0 0,.slice none 0 0] 39)).cell (dc w P N 39));have jE:=aa ((Up.alloc _ (.cells #[.slice none 0 0,.slice none 0 0] 39)).cell (dz w P N 39))
 have hc0:=eN.out;have hc1:=jE.out;have hrb:=ek (w:=w.alloc (.cells #[P,N] 39)) (P:=.slice none 0 0) (N:=.slice none 0 0) (T:=39);have hsz:((w.alloc (.cells #[P,N] 39)).alloc (.cells #[.slice none 0 0,.slice none 0 0] 39)).heap.size=w.heap.size+2:=by simp
 rw [World.size_alloc] at hrb;have iV:=aa hrb;have cz:=aa hsz;clear hu dw hP hN hrb hsz
 go_enter Tryz.func75,Tryz.ntmps75
 go_wp2_with fail;generalize (w.alloc (.cells #[P,N] 39)).alloc (.cells #[.slice none 0 0,.slice none 0 0] 39)=w1 at *;refine dr.out.mono ?_;rintro e w2 ⟨rfl,hb2⟩;have aG:Up w1 w2:=hb2;have hc0:=aG.cell eN.out;have hc1:=aG.cell jE.out;have iu:=aa (HT.out.keep (aG.kept S));have kr:=(Below.block aG (w.heap.size+1) (by rw [cz.out];omega)).trans iV.out;have aP:=aa (HU.out.trans aG);have dP:Hid (w.heap.size+2≤w2.heap.size):=by unfold Hid;have:=aG.size;rw [cz.out] at this;exact this
 clear hb2 aG dr HT HU eN jE iV;by_cases he:aB t=0
 ·have HE:=aa he
  rw [he];have iZ:=aa kr;have l7:=aa (Hj S w2 _ t iu.out he hz);clear kr he;go_wp2_with fail;refine l7.out.mono ?_;rintro e w4 ⟨bE,_,rfl,P4,N4,rfl,ey,eC⟩;obtain ⟨pp,pc,rfl,_,_⟩:=aC.open ey;obtain ⟨np,nc,rfl,_,_⟩:=aC.open eC;have ja:=(Below.block bE (w.heap.size+1) (by have:=dP.out;omega)).trans iZ.out;have ji:w4.cell? ⟨w.heap.size+1,0,none⟩=some (.slice none 0 0):=by simp [World.cell?,ja]
  have hr1:w4.cell? ⟨w.heap.size+1,1,none⟩=some (.slice none 0 0):=by simp [World.cell?,ja]
  have IQ:w4.frozen? ⟨w.heap.size+1,0,none⟩=false:=by simp [World.frozen?,ja]
  have nw:w4.frozen? ⟨w.heap.size+1,1,none⟩=false:=by simp [World.frozen?,ja]
  have CJ:=aa ey;have Mr:=aa eC;have HST:=aa (dS (w:=w) (p:=.slice pp (o5 t).ps.length pc) (q:=.slice np (o5 t).ns.length nc) ja (by omega) (aP.out.trans bE));clear ey eC bE ja l7 iZ hc0 hc1;go_wp2_with fail;obtain ⟨s1,s2,s3,s4⟩:=HST.out;have hs2:=dP.out;refine ⟨rfl,.tuple #[.agg #[.slice pp (o5 t).ps.length pc,.slice np (o5 t).ns.length nc],.int .i64 0],by simp [results,Tryz.results75,go_sem,s2,s3],?_⟩
  exact ⟨s1,.inr ⟨HE.out,_,rfl,_,_,rfl,(aj.keep CJ.out fun b hb _=>s4 b (by omega)).sub fun b hb _=>by omega,(ah.keep Mr.out fun b hb _=>s4 b (by omega)).sub fun b hb _=>by omega⟩⟩
 ·have rR:(aB t != 0)=true:=by simpa using he
  have ji:w2.cell? ⟨w.heap.size+1,0,none⟩=some (.slice none 0 0):=by simp [World.cell?,kr]
  have hr1:w2.cell? ⟨w.heap.size+1,1,none⟩=some (.slice none 0 0):=by simp [World.cell?,kr]
  have IQ:w2.frozen? ⟨w.heap.size+1,0,none⟩=false:=by simp [World.frozen?,kr]
  have nw:w2.frozen? ⟨w.heap.size+1,1,none⟩=false:=by simp [World.frozen?,kr]
  have HST:=aa (dS (w:=w) (p:=.slice none 0 0) (q:=.slice none 0 0) kr (by omega) aP.out);have HE:=aa he;clear he kr hc0 hc1;generalize aB t=te at rR ⊢;go_wp2_with fail;obtain ⟨s1,s2,s3,s4⟩:=HST.out;refine ⟨rfl,.tuple #[.agg #[.slice none 0 0,.slice none 0 0],.int .i64 1],by simp [results,Tryz.results75,go_sem,s2,s3],?_⟩;exact ⟨s1,.inl ⟨HE.out,rfl⟩⟩
end
section
open Go.RowKit Go.Deep
theorem zn (W:World):au Any W (.agg #[.slice none 0 0,.slice none 0 0]) ⟨[],[]⟩ :=
 ⟨_,_,rfl,⟨none,0,rfl,Nat.le_refl _,.inl rfl⟩,⟨none,0,rfl,Nat.le_refl _,.inl rfl⟩⟩
theorem boxed {W:World} {B:Nat} {P N:Value} (hb:W.heap[B]? = some (Obj.cells #[P,N] 39 (0,0))):W.cell? ⟨B,0,none⟩=some P∧W.cell? ⟨B,1,none⟩=some N∧W.frozen? ⟨B,0,none⟩=false∧W.frozen? ⟨B,1,none⟩=false:=by
 refine ⟨?_,?_,?_,?_⟩<;>simp [World.cell?,World.frozen?,hb]
theorem CM {S:Nat→Prop} {w:World} {b off n cap:Nat} {xs:List ByteArray} (h:ah S w (.slice (some ⟨b,off,none⟩) n cap) xs) {k:Nat} (hk:k≤xs.length):aC S w (.slice (some ⟨b,off,none⟩) k cap) k (fun j=>.string (gs xs j)):=by
 obtain ⟨q,c,e,hn,h⟩:=h;injection e with e1 e2 e3;subst e1;subst e2;subst e3;refine ⟨_,cap,rfl,by omega,?_⟩;rcases h with h | ⟨b',o',e,hS,h⟩
 ·exact .inl (by omega)
 ·exact .inr ⟨b',o',e,hS,fun j hj=>h j (by omega)⟩
end
section
deriving instance DecidableEq for aD
def insB (f:Nat→ByteArray) (a:Nat):List Nat→List Nat
 | []=>[a]
 | b::l=>if l8 f a b then a::b::l else b::insB f a l
def sM (f:Nat→ByteArray):List Nat→List Nat
 | []=>[]
 | a::l=>insB f a (sM f l)
theorem Ap (f:Nat→ByteArray) (a:Nat) (l₂:List Nat) (h2:∀b∈l₂,l8 f a b=true):∀l₁:List Nat,(∀b∈l₁,l8 f a b=false)→insB f a (l₁++l₂)=l₁++a::l₂
 | [],_=>by
  cases l₂ with
  | nil=>rfl
  | cons b l=>simp only [List.nil_append,insB];rw [if_pos (h2 b (by simp))]
 | b::l₁,h1=>by
  simp only [List.cons_append,insB]
  rw [if_neg (by rw [h1 b (by simp)];decide),Ap f a l₂ h2 l₁ fun c hc=>h1 c (by simp [hc])]
theorem zo (f:Nat→ByteArray):∀l,cn f l=sM f l
 | []=>by unfold cn;simp [sM]
 | a::l=>by
  have ih:=zo f l
  obtain ⟨l₁,l₂,h1,h2,h3⟩:=List.mergeSort_cons (Ct f) (Cu f) a l
  have hs:=qO f (a::l)
  unfold cn at hs ih ⊢
  rw [h1] at hs ⊢
  show _=insB f a (sM f l)
  rw [← ih,h2]
  refine (Ap f a l₂ (fun b hb=>?_) l₁ fun b hb=>by simpa using h3 b hb).symm
  have h4:=(List.pairwise_append.1 hs).2.1
  exact (List.pairwise_cons.1 h4).1 b hb
end
section
open Go.RowKit Go.Deep
deriving instance DecidableEq for Rj
end
section
open Go.RowKit Go.Deep
theorem Pk {xs ys:List ByteArray} (hl:xs.length=ys.length) (h:∀j,j<xs.length→gs xs j=gs ys j):xs=ys:=by
 refine List.ext_getElem hl fun i h1 h2=>?_;have:=h i h1;simpa [gs,h1,h2] using this
set_option maxHeartbeats 400000 in
theorem Hl (S T:Nat→Prop) (w:World) (v u:Value) (xs ys:List ByteArray) (h:ah S w v xs) (h2:ah T w u ys) (hn:xs.length≤1000000) (hn2:ys.length≤1000000) :
  Calls Tryz.prog 149 #[v,u] w (LF w (decide (xs=ys))):=by
 obtain ⟨p,cap,rfl,hcap,_⟩:=aC.open h;obtain ⟨q,cr,rfl,mD,_⟩:=aC.open h2;have HX:Hid (ah S w (.slice p xs.length cap) xs):=h;have HY:Hid (ah T w (.slice q ys.length cr) ys):=h2;clear h h2;by_cases hl:xs.length=ys.length
 ·have eU:((xs.length:Int) != ys.length)=false:=by simp [hl]
  have HL:=aa hl;clear hl
  go_enter Tryz.func149,Tryz.ntmps149
  go_wp2_with fail
  go_loopw [5,13] (fun _ i wr=>∃k n:Nat,k≤xs.length∧i=.int .i64 k∧wr=w.drewN n∧Hid (∀j,j<k→gs xs j=gs ys j)) (fun _ i _=>xs.length - (intOf i).toNat)
  case atStart=>exact ⟨0,0,Nat.zero_le _,rfl,rfl,fun j hj=>absurd hj (Nat.not_lt_zero _)⟩
  case round =>
   obtain ⟨k,n,hk,rfl,rfl,hd⟩:=hrel;by_cases hlt:k<xs.length
   ·have hlt2:k<ys.length:=by rw [← HL.out];exact hlt
    obtain ⟨b,off,rfl,hc⟩:=bI HX.out hlt;obtain ⟨b2,off2,rfl,hc2⟩:=bI HY.out hlt2;(have i1:(0:Int)≤(k:Int):=by omega);(have i2:(k:Int)<(xs.length:Int):=by omega);(have i3:(k:Int)<(ys.length:Int):=by omega);generalize hx:gs xs k=x at *;generalize hy:gs ys k=y at *;have Ae:=aa hx;have LG:=aa hy;clear hx hy;by_cases hxy:x=y
    ·have Vb:(x.toList==y.toList)=true:=by simp [hxy]
     (have OL:(x.toList != y.toList)=false:=by simp [hxy]);have qH:=aa hxy;clear hxy;go_wp2_with fail;(go_quiet (fail));go_wp2_with fail
     go_roundw
     case rel=>exact ⟨k+1,n+nq,by omega,by go_num,rfl,fun j hj=>if e:j=k then by subst e;rw [Ae.out,LG.out,qH.out] else hd.out j (by omega)⟩
     case measure=>simp [intOf];omega
    ·have Vb:(x.toList==y.toList)=false:=by
      cases h:(x.toList==y.toList) with
      | false=>rfl
      | true=>exact absurd (xT h) hxy
     have OL:(x.toList != y.toList)=true:=by unfold bne;rw [Vb];rfl
     have qH:=aa hxy
     clear hxy
     go_wp2_with fail
     go_quiet (fail)
     go_wp2_with fail
     go_ret
     refine ⟨aR ?_,n+nq,by rw [World.drewN_drewN]⟩
     rw [eq_comm,decide_eq_false_iff_not]
     rintro rfl
     exact qH.out (by rw [← Ae.out,← LG.out])
   ·obtain rfl:k=xs.length:=by omega
    clear hlt hk;have hex:xs=ys:=Pk HL.out hd.out;have Ez:Hid (decide (xs=ys)=true):=decide_eq_true hex;clear hex;go_wp2_with fail;go_ret;exact ⟨aR (by rw [Ez.out]),n,rfl⟩
 ·have eU:((xs.length:Int) != ys.length)=true:=by simp;omega
  have HL:=aa hl;clear hl
  go_enter Tryz.func149,Tryz.ntmps149
  go_wp2_with fail;go_ret;refine ⟨aR ?_,0,rfl⟩;rw [eq_comm,decide_eq_false_iff_not];rintro rfl;exact HL.out rfl
end
end Go.Proofs.YthgabkgmkolobaaGreat
