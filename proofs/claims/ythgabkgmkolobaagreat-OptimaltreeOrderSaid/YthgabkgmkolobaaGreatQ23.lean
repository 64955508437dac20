/- Which nodes lie below a node of a tree that is numbered depth first. What Consistent .. -/
import Derived.Shelf.SlLaysM
import Derived.Ground.SlgmProg
import Derived.Shelf.SortM.Plain
import Derived.Shelf.SortM.SortNone
import Derived.Sort.OwnSortedInts
import Derived.Laws.IdiomStrings
import Derived.Shelf.Slices.In.SortNone
import Derived.Shelf.Lays
import Derived.Shelf.Sort.Plain
import Derived.Ground.NamesProg
import Derived.Lib.SliceRun
import Derived.Test.YthgabkgmkolobaaGreatQ22
set_option maxRecDepth 100000
namespace Go.Proofs.YthgabkgmkolobaaGreat
section
def mE (ps:List Int) (n:Nat):Nat->Nat->Nat
 | 0,k=>k
 | d+1,k=>if n<k then mE ps n d (gi ps k).toNat else k
def q8 (ps:List Int) (n i:Nat):Bool:=decide (mE ps n i i=n)
theorem xh {ps:List Int} (h:jW ps=true) {k:Nat} (hk:k<ps.length) (h0:0<k):0<=gi ps k/\gi ps k<k:=by
 have h1:=CP h hk;unfold kC at h1;rw [if_neg (by omega)] at h1;simpa using h1
theorem L5 {ps:List Int} (hp:jW ps=true) (n:Nat):∀ {d e k:Nat},k<ps.length->k<=d->k<=e->mE ps n d k=mE ps n e k:=by
 intro d
 induction d with
 | zero =>
  intro e k hl h1 h2;obtain rfl:k=0:=by omega
  cases e with
  | zero=>rfl
  | succ e=>simp [mE]
 | succ d ih =>
  intro e k hl h1 h2;cases e with
  | zero =>
   (obtain rfl:k=0:=by omega);simp [mE]
  | succ e =>
   rw [mE,mE];split
   ·rename_i hnk
    have:=xh hp hl (by omega);exact ih (by omega) (by omega) (by omega)
   ·rfl
theorem L6 {ps:List Int} (hp:jW ps=true) {n k:Nat} (hk:k<ps.length) (hn:n<k):mE ps n k k=mE ps n (gi ps k).toNat (gi ps k).toNat:=by
 have h1:=xh hp hk (by omega);obtain ⟨m,rfl⟩:∃m,k=m+1:=⟨k - 1,by omega⟩;rw [mE,if_pos hn];exact L5 hp n (by omega) (by omega) (ah _)
theorem xk {ps:List Int} {n k:Nat} (hn:¬n<k):mE ps n k k=k:=by
 cases k with
 | zero=>rfl
 | succ k=>rw [mE,if_neg hn]

theorem G0 {ps:List Int} (i:Nat):q8 ps i i=true:=by unfold q8;rw [xk (by omega)];simp
theorem G1 {ps:List Int} (_:jW ps=true) {i:Nat}:∀ {j:Nat},j<ps.length->q8 ps i j=true->i<=j:=by
 intro j
 induction j using Nat.strongRecOn with
 | ind j ih =>
  intro hj h;by_cases e:i<j
  ·omega
  ·unfold q8 at h
   rw [xk e] at h;(have:j=i:=by simpa using h);omega
theorem xm {ps:List Int} (hp:jW ps=true) {i j:Nat} (hj:j<ps.length) (hi:i<j):q8 ps i j=q8 ps i (gi ps j).toNat:=by
 unfold q8;rw [L6 hp hj hi]
theorem Ud {ps:List Int} (hp:jW ps=true) {i:Nat}:∀ {j:Nat},j<ps.length->(q8 ps i j=true↔j=i\/∃c,c<ps.length/\i<c/\gi ps c=(i:Int)/\q8 ps c j=true):=by
 intro j
 induction j using Nat.strongRecOn with
 | ind j ih =>
  intro hj;by_cases e:i<j
  ·have hpar:=xh hp hj (by omega)
   have G2:((gi ps j).toNat:Int)=gi ps j:=Int.toNat_of_nonneg hpar.1;(have hpl:(gi ps j).toNat<j:=by omega);rw [xm hp hj e,ih _ hpl (by omega)];constructor
   ·rintro (h | ⟨c,h1,h2,h3,h4⟩)
    ·exact .inr ⟨j,hj,e,by omega,G0 j⟩
    ·have:=G1 hp (show (gi ps j).toNat<ps.length by omega) h4
     exact .inr ⟨c,h1,h2,h3,by rw [xm hp hj (by omega)];exact h4⟩
   ·rintro (h | ⟨c,h1,h2,h3,h4⟩)
    ·omega
    ·have xG:=G1 hp hj h4
     by_cases ec:c=j
     ·subst ec;left;omega
     ·right
      exact ⟨c,h1,h2,h3,by rw [xm hp hj (by omega)] at h4;exact h4⟩
  ·unfold q8
   rw [xk e];constructor
   ·intro h;left;simpa using h
   ·rintro (h | ⟨c,h1,h2,h3,h4⟩)
    ·simpa using h
    ·have:=G1 hp hj h4;omega
end
section
theorem JG {l:List (ByteArray×Value)} {k j:ByteArray} {v:Value}:(s8 l k v).lookup j=if j=k then some v else l.lookup j:=by
 unfold s8;split
 ·rename_i h
  have h0:l.lookup k=none:=by simpa using h
  rw [List.lookup_append];by_cases e:j=k
  ·subst e;rw [if_pos rfl,h0];simp [List.lookup,p9]
  ·rw [if_neg e]
   (have:List.lookup j [(k,v)]=none:=by simp [List.lookup,rU e]);rw [this];simp
 ·rename_i h
  have h0:(l.lookup k).isSome:=by
   cases hl:l.lookup k with
   | none=>rw [hl] at h;exact absurd rfl h
   | some x=>rfl
  clear h
  induction l with
  | nil=>cases h0
  | cons y l ih =>
   obtain ⟨y1,y2⟩:=y;rw [bI];by_cases e1:y1=k
   ·subst e1
    rw [if_pos rfl,dV];by_cases e:j=y1
    ·subst e;rw [p9,if_pos rfl]
    ·rw [rU e,if_neg e,dV,rU e]
     have hm:∀l:List (ByteArray×Value),List.lookup j (l.map fun x=>if x.1=y1 then (y1,v) else x)=List.lookup j l:=by
      intro l
      induction l with
      | nil=>rfl
      | cons z l ihl =>
       obtain ⟨z1,z2⟩:=z;rw [bI];by_cases ez:z1=y1
       ·subst ez;rw [if_pos rfl,dV,rU e,dV,rU e];exact ihl
       ·rw [if_neg ez,dV,dV,ihl]
     exact hm l
   ·rw [if_neg e1,dV,dV]
    rw [dV,rU (fun h=>e1 h.symm)] at h0;by_cases e:j=y1
    ·subst e;rw [p9,if_neg e1]
    ·rw [rU e];exact ih h0
end
section
open Go.RowKit Go.Shelf Go.Deep
theorem Re (W:World):(zeroValue 3).run Tryz.prog W=.ok (.int .i64 0) W:=by simp [Tryz.zeroValue3]
end
end Go.Proofs.YthgabkgmkolobaaGreat
namespace Go.Proofs
open Go.Shelf
def Tryz.sortZ_ren:Go.Shelf.Ren:=⟨fun | 5=>71 | 8=>127 | 7=>126 | 19=>181 | 20=>182 | 10=>172 | 11=>173 | 12=>174 | 13=>175 | 14=>176 | 15=>177 | 16=>178 | 17=>179 | 18=>180 | 30=>234 | 31=>235 | 32=>236 | 33=>237 | 34=>238 | 35=>131 | 40=>270 | n=>n,fun | 23=>26 | 25=>3 | 3=>3 | 32=>154 | 22=>26 | 0=>0 | 44=>191 | 46=>193 | 4=>4 | 36=>183 | 35=>182 | 41=>188 | 5=>5 | 9=>9 | 53=>238 | 57=>242 | 63=>267 | 64=>177 | n=>n,fun | n=>n⟩
theorem Tryz.sortZ:Go.Proofs.SlLaysM.n5 Tryz.prog Tryz.sortZ_ren:={
 mixed:=by kernel_rfl
 f5:=⟨Tryz.f71.name,by decide,Tryz.func71.trans (congrArg some (by kernel_rfl))⟩
 f7:=⟨Tryz.f126.name,by decide,Tryz.func126.trans (congrArg some (by kernel_rfl))⟩
 f8:=Tryz.func127.trans (congrArg some (by kernel_rfl))
 f10:=⟨Tryz.f172.name,by decide,Tryz.func172.trans (congrArg some (by kernel_rfl))⟩
 f11:=⟨Tryz.f173.name,by decide,Tryz.func173.trans (congrArg some (by kernel_rfl))⟩
 f12:=⟨Tryz.f174.name,by decide,Tryz.func174.trans (congrArg some (by kernel_rfl))⟩
 f13:=⟨Tryz.f175.name,by decide,Tryz.func175.trans (congrArg some (by kernel_rfl))⟩
 f14:=⟨Tryz.f176.name,by decide,Tryz.func176.trans (congrArg some (by kernel_rfl))⟩
 f15:=⟨Tryz.f177.name,by decide,Tryz.func177.trans (congrArg some (by kernel_rfl))⟩
 f16:=⟨Tryz.f178.name,by decide,Tryz.func178.trans (congrArg some (by kernel_rfl))⟩
 f17:=⟨Tryz.f179.name,by decide,Tryz.func179.trans (congrArg some (by kernel_rfl))⟩
 f18:=⟨Tryz.f180.name,by decide,Tryz.func180.trans (congrArg some (by kernel_rfl))⟩
 f19:=Tryz.func181.trans (congrArg some (by kernel_rfl))
 f20:=Tryz.func182.trans (congrArg some (by kernel_rfl))
 f30:=⟨Tryz.f234.name,by decide,Tryz.func234.trans (congrArg some (by kernel_rfl))⟩
 f31:=Tryz.func235.trans (congrArg some (by kernel_rfl))
 f32:=Tryz.func236.trans (congrArg some (by kernel_rfl))
 f33:=⟨Tryz.f237.name,by decide,Tryz.func237.trans (congrArg some (by kernel_rfl))⟩
 f34:=⟨Tryz.f238.name,by decide,Tryz.func238.trans (congrArg some (by kernel_rfl))⟩
 f35:=⟨Tryz.f131.name,by decide,Tryz.func131.trans (congrArg some (by kernel_rfl))⟩
 f40:=⟨Tryz.f270.name,by decide,Tryz.func270.trans (congrArg some (by kernel_rfl))⟩
 t0:=Tryz.underlying0
 a0:=Tryz.isAgg0
 z0:=Tryz.sizeOf0
 v0:=Tryz.zeroValue0
 t3:=Tryz.underlying3
 a3:=Tryz.isAgg3
 z3:=Tryz.sizeOf3
 v3:=Tryz.zeroValue3
 t4:=Tryz.underlying4
 a4:=Tryz.isAgg4
 z4:=Tryz.sizeOf4
 v4:=Tryz.zeroValue4
 t5:=Tryz.underlying5
 a5:=Tryz.isAgg5
 z5:=Tryz.sizeOf5
 v5:=Tryz.zeroValue5
 t9:=Tryz.underlying9
 a9:=Tryz.isAgg9
 z9:=Tryz.sizeOf9
 v9:=Tryz.zeroValue9
 t22:=Tryz.underlying26
 a22:=Tryz.isAgg26
 z22:=Tryz.sizeOf26
 v22:=Tryz.zeroValue26
 t23:=Tryz.underlying26
 a23:=Tryz.isAgg26
 z23:=Tryz.sizeOf26
 v23:=Tryz.zeroValue26
 t25:=Tryz.underlying3
 a25:=Tryz.isAgg3
 z25:=Tryz.sizeOf3
 v25:=Tryz.zeroValue3
 t32:=Tryz.underlying154
 a32:=Tryz.isAgg154
 z32:=Tryz.sizeOf154
 v32:=Tryz.zeroValue154
 t35:=Tryz.underlying182
 a35:=Tryz.isAgg182
 z35:=Tryz.sizeOf182
 v35:=Tryz.zeroValue182
 t36:=Tryz.underlying183
 a36:=Tryz.isAgg183
 z36:=Tryz.sizeOf183
 v36:=Tryz.zeroValue183
 t41:=Tryz.underlying188
 a41:=Tryz.isAgg188
 z41:=Tryz.sizeOf188
 v41:=Tryz.zeroValue188
 t44:=Tryz.underlying191
 a44:=Tryz.isAgg191
 z44:=Tryz.sizeOf191
 v44:=Tryz.zeroValue191
 t46:=Tryz.underlying193
 a46:=Tryz.isAgg193
 z46:=Tryz.sizeOf193
 v46:=Tryz.zeroValue193
 t53:=Tryz.underlying238
 a53:=Tryz.isAgg238
 z53:=Tryz.sizeOf238
 v53:=Tryz.zeroValue238
 t57:=Tryz.underlying242
 a57:=Tryz.isAgg242
 z57:=Tryz.sizeOf242
 v57:=Tryz.zeroValue242
 t63:=Tryz.underlying267
 a63:=Tryz.isAgg267
 z63:=Tryz.sizeOf267
 v63:=Tryz.zeroValue267
 t64:=Tryz.underlying177
 a64:=Tryz.isAgg177
 z64:=Tryz.sizeOf177
 v64:=Tryz.zeroValue177 }
end Go.Proofs
namespace Go.Proofs.YthgabkgmkolobaaGreat
section
open Go.RowKit Go.Shelf Go.Deep Go.Sort
def jU (xs:List Int):List Int:=xs.mergeSort fun x y=>decide (x<=y)
theorem yR (xs:List Int):(jU xs).length=xs.length:=List.length_mergeSort _
theorem WB (w w1:World) (v:Value) (xs:List Int) (hu:Up w w1) (ho:ax w.heap.size 3 w1 v (xs.map (Value.int .i64))) (hlen:xs.length<=1000000) :
  Calls Tryz.prog 71 #[v] w1 fun e w'=>e=.returned (.tuple #[])/\Up w w'/\ax w.heap.size 3 w' v ((jU xs).map (Value.int .i64)):=by
 rcases ho.2 with ⟨rfl,h0⟩ | ⟨g,cap,cur,rfl,hg,hc,hn,hcm,hcs,ht⟩
 ·have hx:xs=[]:=by cases xs with | nil=>rfl | cons _ _=>simp at h0
  subst hx;refine (AnyM.slices_Sort_int_none Tryz.sortZ none 0 w1).mono ?_;rintro e w' ⟨rfl,rfl⟩;exact ⟨rfl,hu,by unfold jU;simpa using ho⟩
 ·simp only [aD] at hn ht ho ⊢
  refine (AnyM.slices_Sort_int Tryz.sortZ g 0 cap xs w1 (holds_of_blockI hc (by simpa using ht)) (fW.1 hc).1 (by omega)).mono ?_;rintro e w' ⟨rfl,n,os,rfl⟩;refine ⟨rfl,Below.grown hu (grownBy_sortedI _) hu.size (fun j hj=>by cases hj;exact hg),?_⟩;have h:=ownsRow_sortedI (n:=n) (os:=os) (ss:=xs) (ts:=jU xs) (yR xs) hg hc hn hcm (by simpa using hcs);unfold ax;rw [aD,yR];exact h
end
section
section
variable {acw:List ByteArray} {l:List SK}
theorem Oo (ns:List ByteArray):(az ns).length=(p7 ns).length:=by
 unfold az;rw [aD];have h:∀k,k<=ns.length->((List.range k).filter fun i=>(gs ns i).size≠0).length=(p7 (ns.take k)).length:=by
  intro k
  induction k with
  | zero=>intro _;rfl
  | succ k ih =>
   intro hk;(have hg:gs ns k=ns[k]:=by simp [gs,show k<ns.length by omega]);rw [zC,wD,bg,ih (by omega),jo (show k<ns.length by omega),GP,bg,<- hg];congr 1;unfold p7;by_cases e:(gs ns k).size≠0
   ·rw [List.filter_cons_of_pos (by simpa using e),List.filter_cons_of_pos (by simpa using e)];rfl
   ·rw [List.filter_cons_of_neg (by simpa using e),List.filter_cons_of_neg (by simpa using e)];rfl
 have:=h ns.length (ah _);rw [eT] at this;exact this
end
end
section
section
variable {F G:aX} {n:Nat} {rk:Nat->Nat}
theorem EI (h:Wf F n rk) {i:Nat} (hi:i<n) (h0:rk i<=0):F.kids i=[]:=by
 cases hk:F.kids i with
 | nil=>rfl
 | cons k l=>have:=(h.kid i hi k (by rw [hk];simp)).2;omega
theorem Rf (hF:Wf F n rk) (hG:Wf G n rk):∀ {d c:Nat},c<n->rk c<=d->(∀z,b8 F rk c z=true->G.kids z=F.kids z)->∀z,b8 G rk c z=b8 F rk c z:=by
 intro d
 induction d with
 | zero =>
  intro c hc hd hz z;rw [iJ hF hc,iJ hG hc,EI hF hc hd,EI hG hc hd];rfl
 | succ d ih =>
  intro c hc hd hz z;rw [iJ hF hc,iJ hG hc,hz c (jt hF hc)];congr 1;rw [nv,eF,eF];have key:∀k∈F.kids c,b8 G rk k z=b8 F rk k z:=fun k hk=>by have hkk:=hF.kid c hc k hk;exact ih hkk.1 (by omega) (fun y hy=>hz y (nI hF hc hk hy)) z
  constructor
  ·rintro ⟨k,hk,e⟩;exact ⟨k,hk,by rw [<- key k hk];exact e⟩
  ·rintro ⟨k,hk,e⟩;exact ⟨k,hk,by rw [key k hk];exact e⟩
end
end
section
open Go.RowKit Go.Deep
section
variable {P:Program} {ops:Array Oper} {rest:List Oper} {o:Oper} {a:Act} {Q:Exit->Act->World->Prop}
theorem jH (W:World) (hgd:o.guard=none) (s x:Operand) (t:TypeId) (ho:o.op=.call { callee:=.builtin .append,args:=#[s,x],argTypes:=#[t,t] })
  (base:Nat) (e:TypeId) (z:Value) (bytes:Nat) (ht:P.underlying t=some (.slice e)) (hinfo:(P.info? e).map (fun i=>(i.zero,i.size,i.bytes))=some (some z,1,bytes))
  (hz1:z.cells.size=1) (gL:bytes<=64) {v:Value} {vs:List Value} (hown:ax base e W v vs) (hs:a.eval s=v) (u:Value)
  (hx:a.eval x=.slice (some ⟨W.heap.size,0,none⟩) 1 1) (h1:u.oneCell'=true) (k:Nat) (xI:vs.length=k) (hn:k<=1000000) (hbase:base<=W.heap.size)
  (h:∀g cap w',ax base e w' (.slice (some ⟨g,0,none⟩) (k+1) cap) (vs++[u])->W.grownBy w' v.ownBlock->(v.ownBlock=some g\/W.heap.size<=g)->wpList P ops Q rest (a.put o.dst (.slice (some ⟨g,0,none⟩) (k+1) cap)) w') :
  wpList P ops Q (o::rest) a (W.alloc (.cells #[u] e)):=by
 subst xI;obtain ⟨i,hi,hzz⟩:=iq.1 hinfo;simp only [iM] at hzz;obtain ⟨hz,hs1,hb⟩:=hzz;refine wpList_append_lies _ hgd s x t ho base e i z 1 bytes ht hi hz hs1 hb hz1 (by omega) v vs.length vs hs (hown.alloc _) ⟨W.heap.size,0,none⟩ 1 1 [u] hx rfl (cell_one_new _ _ _) (by simpa using h1) (by omega)
  (by unfold maxLen;omega) ?_ (by simp;omega) _ rfl fun g cap w' h2 h3 h4 _=>h g cap w' ?_ (jE h3) (h4.imp id fun e=>by rw [e,aL];omega)
 ·have:(vs.length+1)*bytes<=(vs.length+1)*64:=mS _ gL
  omega
 ·unfold ax;rw [bg];exact h2
end
section
variable {n base:Nat} {A:Nat->Nat} {kv:Nat->Value} {F:aX} {w w' w2:World} {P:Nat->Bool} {rk:Nat->Nat}
theorem bB.WC {G:aX} (h:bB base n A kv F w) (e:∀j,j<n->G.nm j=F.nm j/\G.old j=F.old j/\G.kids j=F.kids j):bB base n A kv G w :=
 ⟨fun i hi=>by rw [(e i hi).1,(e i hi).2.1];exact h.node i hi,h.lo,h.inj,fun i hi=>by rw [(e i hi).2.2];exact h.own i hi,h.apart,h.alone,fun i hi=>by rw [(e i hi).2.2];exact h.kid i hi⟩
end
theorem Oq {base:Nat} {e:TypeId} {w:World} {g n cap:Nat} {xs:List Value} (h:ax base e w (.slice (some ⟨g,0,none⟩) n cap) xs) {m:Nat} (hm:m<=n):ax base e w (.slice (some ⟨g,0,none⟩) m cap) (xs.take m):=by
 obtain ⟨h1,h2⟩:=h;rcases h2 with ⟨e1,_⟩ | ⟨g2,eR,cur,e1,hg,hc,hn,hcm,hcs,ht⟩
 ·cases e1
 ·injection e1 with a1 a2 a3
  injection a1 with a1;injection a1 with a1;subst a1;subst a3;have hnx:n=xs.length:=a2;have hl:(xs.take m).length=m:=by rw [dD];omega
  refine ⟨by rw [Nat.mul_one],.inr ⟨g,cap,cur,by rw [hl],hg,hc,by omega,hcm,hcs,?_⟩⟩;rw [hl,Nat.mul_one,<- ht,List.take_take];congr 1;omega
theorem EJ {base:Nat} {e:TypeId} {w:World} {g n cap:Nat} {xs:List Value} (h:ax base e w (.slice (some ⟨g,0,none⟩) n cap) xs) {j:Nat} {u:Value} (hj:xs[j]? = some u):w.cell? ⟨g,j,none⟩=some u/\w.frozen? ⟨g,j,none⟩=false:=by
 have hl:=(mj.1 hj).1;obtain ⟨g2,eR,e1,_,_,hc,hf,_⟩:=h.set hl;injection e1 with a1;injection a1 with a1;injection a1 with a1;subst a1;refine ⟨?_,hf⟩;rw [hc];congr 1;rw [fh,hj];rfl
end
section
section
variable {F:aX} {n:Nat} {rk:Nat->Nat}
theorem yS (h:Wf F n rk) {i z:Nat} (hi:i<n) (hs:b8 F rk i z=true):aV F rk z∈bW (aV F rk i):=by
 rw [uo h hi (ah _)];exact di.2 ⟨z,(eL h hi (ah _)).2 hs,rfl⟩
theorem Cl (h:Wf F n rk):∀(d i:Nat),rk i<=d->i<n->kP (aV F rk i)->(b5 F rk i).Nodup
 | d,i,hd,hi,hg=>by
  rw [cD h hi,gz]
  have hsub:∀k∈F.kids i,aV F rk k∈bW (aV F rk i):=fun k hk=>yS h hi (nI h hi hk (jt h (h.kid i hi k hk).1))
  have DN:∀k∈F.kids i,kP (aV F rk k):=fun k hk=>⟨fun s hs=>hg.Ej s (oV _ (hsub k hk) hs),fun s hs=>hg.lf s (oV _ (hsub k hk) hs),(qM (hsub k hk)).nodup hg.nd⟩
  refine ⟨fun hm=>?_,?_⟩
  ·obtain ⟨k,hk,hm⟩:=gh.1 hm
   have hkk:=h.kid i hi k hk
   have:=nQ h hkk.1 ((eL h hkk.1 (ah _)).1 hm)
   omega
  ·by_cases h0:F.kids i=[]
   ·rw [h0];simp
   ·have gV:=hg.nd
    rw [dY h hi,wZ (by have:=hg.Ej _ (ur _);rw [vJ h hi,yL h hi] at this;exact this (fun e=>h0 (List.map_eq_nil_iff.1 e))),zw,List.nodup_iff_pairwise_ne,List.pairwise_flatMap] at gV
    rw [List.nodup_iff_pairwise_ne,List.pairwise_flatMap]
    refine ⟨fun k hk=>?_,?_⟩
    ·have hkk:=h.kid i hi k hk
     cases d with
     | zero=>omega
     | succ d=>exact Cl h d k (by omega) hkk.1 (DN k hk)
    ·refine gV.2.imp_of_mem ?_
     intro a b ha hb hab x hx y hy e
     subst e
     have hka:=h.kid i hi a ha
     have hkb:=h.kid i hi b hb
     have h1:=yS h hka.1 ((eL h hka.1 (ah _)).1 hx)
     have h2:=yS h hkb.1 ((eL h hkb.1 (ah _)).1 hy)
     have hf:=xe (aV F rk x) fun s hs=>(DN a ha).lf s (oV _ h1 hs)
     exact hab _ ((qM h1).subset hf) _ ((qM h2).subset hf) rfl
end
end
section
section
variable {F:aX} {n:Nat} {rk:Nat->Nat}
theorem Rg (h:Wf F n rk):∀ {d i:Nat} (p:Option Nat) (np:Int) (s:xN),i<n->rk i<=d->(b5 F rk i).Nodup->p≠some i->s.mp.lookup p=some np->(∀j∈b5 F rk i,s.mp.lookup (some j)=none) ->
  Fv s ((eD F rk i p).foldl (oI F) s) (iw (aV F rk i) s.ps.length np) (dr (aV F rk i)) (b5 F rk i):=by
 intro d
 induction d with
 | zero =>
  intro i p np s hi hd WD hp hl hn;have hk:F.kids i=[]:=by
   cases hk:F.kids i with
   | nil=>rfl
   | cons k l=>have:=(h.kid i hi k (by rw [hk];simp)).2;omega
  rw [gW h hi,dY h hi,cD h hi,hk];have hni:=hn i (by rw [cD h hi];simp);refine ⟨?_,?_,fun k hk2=>dZ _ (hk2 i (by simp))⟩
  ·show s.ps++[((lX s.mp (some i) _).lookup p).getD 0]=_
   rw [dZ _ hp,hl];rfl
  ·rfl
 | succ d ih =>
  intro i p np s hi hd WD hp hl hn;rw [gW h hi,dY h hi,cD h hi];have hni:=hn i (by rw [cD h hi];simp);have gV:=WD;rw [cD h hi,gz] at gV;have key:∀(l:List Nat),(∀k∈l,k∈F.kids i)->(l.flatMap fun k=>b5 F rk k).Nodup->(∀k∈l,i∉b5 F rk k)->∀(s2:xN) (own:Nat),s2.mp.lookup (some i)=some (own:Int)->(∀k∈l,∀j∈b5 F rk k,s2.mp.lookup (some j)=none) ->
    Fv s2 ((l.flatMap fun k=>eD F rk k (some i)).foldl (oI F) s2) (eo (l.map (aV F rk)) own s2.ps.length) (dL (l.map (aV F rk))) (l.flatMap fun k=>b5 F rk k):=by
   intro l
   induction l with
   | nil=>intro _ _ _ s2 own _ _;exact ⟨by simp [eo],by simp [dL],fun _ _=>rfl⟩
   | cons c l ihl =>
    intro hin hdl hil s2 own ho hno
    have hcc:=h.kid i hi c (hin c (by simp))
    rw [fZ,List.foldl_append,fZ]
    rw [fZ,gy] at hdl
    have h1:=ih (some i) (own:Int) s2 hcc.1 (by omega) hdl.1 (fun e=>by
     injection e with e
     have:=hcc.2;rw [e] at this;omega) ho (hno c (by simp))
    have h2:=ihl (fun k hk=>hin k (by simp [hk])) hdl.2.1 (fun k hk=>hil k (by simp [hk])) ((eD F rk c (some i)).foldl (oI F) s2) own
     ((h1.old (some i) (fun j hj e=>by injection e with e;subst e;exact hil c (by simp) hj)).trans ho)
     (fun k hk j hj=>(h1.old (some j) (fun j2 hj2 e=>by
      injection e with e;subst e
      exact hdl.2.2 j hj2 j (gh.2 ⟨k,hk,hj⟩) rfl)).trans (hno k (by simp [hk]) j hj))
    refine ⟨?_,?_,fun k hk=>?_⟩
    ·rw [h2.ps,h1.ps,bI,eo,bZ,bg,mC]
    ·rw [h2.ns,h1.ns,bI,dL,bZ]
    ·rw [h2.old k (fun j hj=>hk j (by simp [hj])),h1.old k (fun j hj=>hk j (by simp [hj]))]
  have hin:∀k∈F.kids i,i∉b5 F rk k:=fun k hk hm=>gV.1 (gh.2 ⟨k,hk,hm⟩)
  have h3:=key (F.kids i) (fun k hk=>hk) gV.2 hin (oI F s (i,p)) s.ps.length (um _ hni) (fun k hk j hj=>by
   show (lX s.mp (some i) _).lookup (some j)=none;rw [dZ _ (fun e=>by injection e with e;subst e;exact hin k hk hj)]
   exact hn j (by rw [cD h hi];exact tY _ (gh.2 ⟨k,hk,hj⟩)))
  have hps:(oI F s (i,p)).ps=s.ps++[np]:=by show s.ps++[((lX s.mp (some i) _).lookup p).getD 0]=_;rw [dZ _ hp,hl];rfl
  rw [List.foldl_cons];refine ⟨?_,?_,fun k hk=>?_⟩
  ·rw [h3.ps,hps,iw,bZ,bg];rfl
  ·rw [h3.ns]
   show (s.ns++[F.nm i])++_=_;rw [dr,bZ];rfl
  ·rw [h3.old k (fun j hj=>hk j (by simp [hj]))]
   exact dZ _ (hk i (by simp))
theorem JH (h:Wf F n rk) {i:Nat} (hi:i<n) (gV:(b5 F rk i).Nodup):gG F rk i=flat (aV F rk i):=by
 have h1:=Rg h (d:=rk i) none (-1) C6 hi (ah _) gV (fun e=>by cases e) rfl (fun j _=>rfl);unfold gG flat cZ;rw [h1.ps,h1.ns];rfl
end
end
section
section
variable {F:aX} {n:Nat} {rk:Nat->Nat} {P:Nat->Bool}
theorem Ot (h:Wf F n rk) {i:Nat} (hi:i<n) (hg:kP (aV F rk i)):aK (aV F rk i)<=n:=by
 rw [<- kO,uo h hi (ah _),aD];exact pU (Cl h _ i (ah _) hi hg) fun x hx=>pR h hi (ah _) ((eL h hi (ah _)).1 hx)
end
end
section
section
variable {t:aF}
theorem Df (h:aB t=0):∀(d i j:Nat),t.ps.length - i<=d->i<t.ps.length->j<t.ps.length->b8 (fU t) (dx t) i j=q8 t.ps i j
 | 0,i,_,hd,hi,_=>by omega
 | d+1,i,j,hd,hi,hj=>by
  obtain ⟨_,_,_,hok,_⟩:=aM h
  have hw:=(eM h).wf
  rw [nv,Ud hok hj,iJ hw hi,wu,beq_iff_eq,eF]
  constructor
  ·rintro (e | ⟨c,hc,e⟩)
   ·exact .inl e
   ·rw [kM] at hc
    obtain ⟨h1,h2,h3⟩:=fI.1 hc
    exact .inr ⟨c,h1,h2,h3,by rw [<- Df h d c j (by omega) h1 hj];exact e⟩
  ·rintro (e | ⟨c,h1,h2,h3,e⟩)
   ·exact .inl e
   ·exact .inr ⟨c,by rw [kM];exact fI.2 ⟨h1,h2,h3⟩,by rw [Df h d c j (by omega) h1 hj];exact e⟩
end
end
section
structure WE (t:aF) (leaf:Nat):Prop where
 te:aB t=0
 lt:leaf<t.ps.length
 nm:(gs t.ns leaf).size≠0
section
variable {t:aF} {leaf:Nat}
theorem JI (h:aB t=0) {z:Nat} (hz:z<t.ps.length) (hk:b7 t.ps z=[]):bu (gs t.ns z).data.toList=true:=by
 obtain ⟨_,_,_,hok,_⟩:=aM h;refine (wL h hz ?_).1;cases hin:isIn t.ps z with
 | false=>rfl
 | true=>exact absurd hk ((lV hok z).2 hin)
end
end
end Go.Proofs.YthgabkgmkolobaaGreat
