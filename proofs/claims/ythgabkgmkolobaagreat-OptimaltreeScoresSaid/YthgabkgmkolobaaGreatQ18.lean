/- The contract of the reference's Unit. The contract of phylotree.sorted. -/
import Derived.Test.YthgabkgmkolobaaGreatQ17
set_option maxRecDepth 100000
namespace Go.Proofs.YthgabkgmkolobaaGreat
section
open Go.RowKit Go.Deep
def UK (w:World) (n:Int) (e:Ending) (w':World):Prop :=
 Up w w'∧∃v,e=.returned (.tuple #[v,.int .i64 (sU n)])∧aQ Any w' v (zT n)
theorem Tryz.SC:(Tryz.prog.info? 26).map (fun i=>(i.zero,i.size,i.bytes))=some (some (.slice none 0 0),1,24):=by kernel_rfl
theorem ic.made (w:World) (T:TypeId):ic w.heap.size T (w.alloc (.cells #[] T)) (.slice (some ⟨w.heap.size,0,none⟩) 0 0) []:=⟨[],rfl,aF.made _ _,fun _ hi=>absurd hi (Nat.not_lt_zero _)⟩
set_option maxHeartbeats 1000000 in
theorem SD (w:World) (n:Int) (wP:-9223372036854775808≤n) (hn2:n≤9223372036854775807):Calls Tryz.prog 202 #[.int .i64 n] w (UK w n):=by
 by_cases hb:n<1∨16<n
 ·have Cy:Hid (sU n=2∧zT n=[]):=⟨by unfold sU;rw [if_pos hb],by unfold zT;rw [if_pos hb]⟩
  by_cases h1:n<1
  ·have d1:decide (n<1)=true:=by simpa using h1
   clear hb
   go_enter Tryz.func202,Tryz.ntmps202
   go_wp2_with fail;go_ret2;exact ⟨Up.alloc _ _,_,by rw [Cy.out.1];rfl,by rw [Cy.out.2];exact Cx _ _ _ _⟩
  ·have d1:decide (n<1)=false:=by simpa using h1
   (have d2:decide (16<n)=true:=by simp;omega);clear hb
   go_enter Tryz.func202,Tryz.ntmps202
   go_wp2_with fail;go_ret2;exact ⟨Up.alloc _ _,_,by rw [Cy.out.1];rfl,by rw [Cy.out.2];exact Cx _ _ _ _⟩
 ·have Cy:Hid (sU n=0∧zT n=aS n.toNat):=⟨by unfold sU;rw [if_neg hb],by unfold zT;rw [if_neg hb]⟩
  obtain ⟨N,rfl⟩:∃N:Nat,n=N:=Int.eq_ofNat_of_zero_le (by omega);have sY:1≤N:=by omega
  have eZ:N≤16:=by omega
  have d1:decide ((N:Int)<1)=false:=by simp;omega
  have d2:decide (16<(N:Int))=false:=by simp;omega
  rw [Int.toNat_natCast] at Cy;have EO:=aa (ic.made w 26);have yB:=aa (Up.alloc w (.cells #[] 26));clear hb wP hn2
  go_enter Tryz.func202,Tryz.ntmps202
  go_wp2_with fail
  go_loopw [4,5,6,7] (fun d i _ _ wr=>∃k:Nat,k≤N∧i=.int .i64 k∧Hid (ic w.heap.size 26 wr d ((aS N).take k))∧Hid (Up w wr)) (fun _ i _ _ _=>N - (intOf i).toNat)
  case atStart=>exact ⟨0,Nat.zero_le _,rfl,EO,yB⟩
  case round =>
   obtain ⟨k,hk,rfl,hD,dK⟩:=hrel;obtain ⟨wo,rfl⟩:∃wo:World,wo=wr:=⟨_,rfl⟩;obtain ⟨d,rfl⟩:∃d:Value,d=u4:=⟨_,rfl⟩;by_cases hlt:k<N
   ·have hsz0:=dK.out.size
    have HL0:=aa (aF.made wo 3);have HV0:=aa (Up.alloc wo (.cells #[] 3));go_wp2_with fail
    go_loopw [6,7] (fun l i wr2=>∃m:Nat,m≤N∧i=.int .i64 m∧Hid (aF wo.heap.size 3 wr2 l (((dU N k).take m).map (Value.int .i64)))∧Hid (Up wo wr2)) (fun _ i _=>N - (intOf i).toNat)
    case atStart=>exact ⟨0,Nat.zero_le _,rfl,HL0,HV0⟩
    case round =>
     obtain ⟨m,hm,rfl,hL,lz⟩:=hrel;obtain ⟨wr2,rfl⟩:∃wo:World,wo=wr:=⟨_,rfl⟩;obtain ⟨l,rfl⟩:∃d:Value,d=u6:=⟨_,rfl⟩;by_cases vo:m<N
     ·have hsz:=lz.out.size
      (have fN:Hid (((dU N k).take (m+1)).map (Value.int .i64)=((dU N k).take m).map (Value.int .i64)++[.int .i64 (oB k m)]):=by unfold Hid;rw [ID (by rw [gj];exact vo),List.map_append,zU vo];rfl);(have eO:Hid ((((dU N k).take m).map (Value.int .i64)).length=m):=by unfold Hid;simp [gj];omega);by_cases hkm:k=m
      ·have vz:Hid (oB k m=0):=by unfold Hid oB;rw [if_pos hkm]
       (have d3:((k:Int)==(m:Int))=true:=by simp [hkm]);(have d4:(k==m)=true:=by simp [hkm]);clear hkm;go_wp2_with (at_builtin;refine lu wr2 rfl _ _ 26 rfl wo.heap.size 3 _ 8 Tryz.underlying26 Tryz.fI rfl (by decide) hL.out rfl _ rfl rfl m eO.out (by omega) hsz ?_;intro g cap w8 hown1 hg1 gH);(have td:Hid (aF wo.heap.size 3 w8 (.slice (some ⟨g,0,none⟩) (m+1) cap) (((dU N k).take (m+1)).map (Value.int .i64))):=by unfold Hid;rw [fN.out,vz.out];exact hown1);have gT:Hid (Up wo w8):=Below.trans lz.out gH;clear hown1 hg1 gH
       go_roundw
       case rel=>exact ⟨m+1,by omega,by go_num,td,gT⟩
       case measure=>simp [intOf];omega
      ·have vz:Hid (oB k m=1):=by unfold Hid oB;rw [if_neg hkm]
       (have d3:((k:Int)==(m:Int))=false:=by simp;omega);(have d4:(k==m)=false:=by simp [hkm]);clear hkm;go_wp2_with (at_builtin;refine lu wr2 rfl _ _ 26 rfl wo.heap.size 3 _ 8 Tryz.underlying26 Tryz.fI rfl (by decide) hL.out rfl _ rfl rfl m eO.out (by omega) hsz ?_;intro g cap w8 hown1 hg1 gH);(have td:Hid (aF wo.heap.size 3 w8 (.slice (some ⟨g,0,none⟩) (m+1) cap) (((dU N k).take (m+1)).map (Value.int .i64))):=by unfold Hid;rw [fN.out,vz.out];exact hown1);have gT:Hid (Up wo w8):=Below.trans lz.out gH;clear hown1 hg1 gH
       go_roundw
       case rel=>exact ⟨m+1,by omega,by go_num,td,gT⟩
       case measure=>simp [intOf];omega
     ·obtain rfl:m=N:=by omega
      rw [List.take_of_length_le (by rw [gj];exact Nat.le_refl _)] at hL;obtain ⟨lp,lcap,rfl,_⟩:=hL.out.form (n:=m) (by simp [gj]);(have hne:aj (fun b=>some b≠d.ownBlock) wr2 (.slice lp m lcap) (dU m k):=by obtain ⟨vals,_,ho,_⟩:=hD.out;exact hL.out.ints.sub fun b hb _=>ho.ne hL.out (Nat.le_refl _) hb);have qT:=aa hne;have Mb:=aa (hD.out.kept lz.out);have gT:=aa (dK.out.trans lz.out);have hbz:=gT.out.size;have dm:Hid (((aS m).take k).length=k):=by unfold Hid;simp [iq];omega
      (have fN:Hid ((aS m).take (k+1)=(aS m).take k++[dU m k]):=by unfold Hid;rw [Sy (by rw [iq];exact hlt),y5 hlt]);clear hne vo hm;go_wp2_with (at_builtin;refine DI wr2 rfl _ _ 23 rfl w.heap.size 26 _ 24 Tryz.underlying23 Tryz.SC rfl (by decide) Mb.out rfl _ (dU m k) rfl qT.out rfl k dm.out (by omega) hbz ?_;intro g cap w8 hown1 hg1 gH);(have td:Hid (ic w.heap.size 26 w8 (.slice (some ⟨g,0,none⟩) (k+1) cap) ((aS m).take (k+1))):=by unfold Hid;rw [fN.out];exact hown1);have Cz:Hid (Up w w8):=Below.trans gT.out gH
      clear hown1 hg1 gH
      go_roundw
      case rel=>exact ⟨k+1,by omega,by go_num,td,Cz⟩
      case measure=>simp [intOf];omega
   ·obtain rfl:k=N:=by omega
    rw [List.take_of_length_le (by rw [iq];exact Nat.le_refl _)] at hD;clear hlt hk;go_wp2_with fail;go_ret2;exact ⟨dK.out,d,by rw [Cy.out.1];rfl,by rw [Cy.out.2];exact hD.out.rows⟩
end
section
open Go.RowKit Go.Deep
theorem run_makeMap {P:Program} (T:TypeId) (w:World):(Instr.makeMap T none).run P w=.ok (.map (some w.heap.size)) (w.alloc (.map #[] 0)):=by
 rfl
structure zi (F:aU) (n:Nat) (rk:Nat→Nat):Prop where
 wf:Wf F n rk
 sep:∀i,i<n→Sep (fc F rk) (F.kids i)
 nodup:∀i,i<n→(F.kids i).Nodup
 len:∀i,i<n→(F.kids i).length≤1000
theorem l9 {F:aU} {n:Nat} {rk:Nat→Nat} (h:Wf F n rk):∀ {d i j:Nat},i<n→subD F d i j=true→rk j≤rk i:=by
 intro d
 induction d with
 | zero=>intro i j _ hs;simp [subD] at hs;subst hs;exact Nat.le_refl _
 | succ d ih =>
  intro i j hi hs;simp only [subD,Bool.or_eq_true,beq_iff_eq,List.any_eq_true] at hs;rcases hs with rfl | ⟨k,hk,h1⟩
  ·exact Nat.le_refl _
  ·have:=h.kid i hi k hk
   have:=ih this.1 h1;omega
theorem O8 {F:aU} {n:Nat} {rk:Nat→Nat} (h:Wf F n rk) {i k:Nat} (hi:i<n) (hk:k∈F.kids i):bM F rk k i=false:=by
 cases hs:bM F rk k i with
 | false=>rfl
 | true =>
  have h1:=h.kid i hi k hk;have:=l9 h h1.1 hs;omega
def Mc (n base:Nat) (A:Nat→Nat) (kv:Nat→Value) (F:aU) (rk:Nat→Nat) (p:Nat→Bool) (i:Nat) (w:World) (e:Ending) (w':World):Prop :=
 e=.returned (.string (fc F rk i))∧bf base n A kv (F.gQ rk fun j=>p j || bM F rk i j) w'∧jQ n A kv w w'
def pK (F:aU) (rk:Nat→Nat) (p:Nat→Bool) (L:List Nat) (k j:Nat):Bool:=p j || (L.take k).any fun c=>bM F rk c j
def mK (F:aU) (rk:Nat→Nat) (A:Nat→Nat) (L:List Nat) (k:Nat):List (Option Nat×Value):=(L.take k).map fun j=>(some (A j),.string (fc F rk j))
structure IK (n base:Nat) (A:Nat→Nat) (kv:Nat→Value) (F:aU) (rk:Nat→Nat) (p:Nat→Bool) (L:List Nat) (w wr:World) (m0 bx k:Nat):Prop where
 fr:bf base n A kv (F.gQ rk (pK F rk p L k)) wr
 map:iW wr m0 (mK F rk A L k)
 box:wr.cell? ⟨bx,0,none⟩=some (.map (some m0))
 up:jQ n A kv w wr
theorem SE (F:aU) (rk:Nat→Nat) (p:Nat→Bool) (L:List Nat) {k c:Nat} (hc:L[k]? = some c) (j:Nat):pK F rk p L (k+1) j=(pK F rk p L k j || bM F rk c j):=by
 unfold pK;rw [List.take_add_one,hc];simp [Bool.or_assoc]
theorem SF (F:aU) (rk:Nat→Nat) (A:Nat→Nat) (L:List Nat) {k c:Nat} (hc:L[k]? = some c):mK F rk A L (k+1)=mK F rk A L k++[(some (A c),.string (fc F rk c))]:=by
 unfold mK;rw [List.take_add_one,hc];simp
theorem bf.CA {base n:Nat} {A:Nat→Nat} {kv:Nat→Value} {F:aU} {rk:Nat→Nat} {p q:Nat→Bool} {w:World} (h:bf base n A kv (F.gQ rk p) w) (e:∀j,j<n→q j=p j):bf base n A kv (F.gQ rk q) w :=
 h.congr fun j hj=>⟨rfl,rfl,by show (if q j then _ else _)=(if p j then _ else _);rw [e j hj]⟩
theorem CB {F:aU} {rk:Nat→Nat} {A:Nat→Nat} {n:Nat} (hinj:∀i j,i<n→j<n→A i=A j→i=j):∀ {l:List Nat} {c:Nat},(∀j∈l,j<n)→c<n→c∈l→(l.map fun j=>(some (A j),Value.string (fc F rk j))).lookup (some (A c))=some (.string (fc F rk c)):=by
 intro l
 induction l with
 | nil=>intro c _ _ h;cases h
 | cons x l ih =>
  intro c hl hc h;rw [List.map_cons,List.lookup_cons];by_cases e:x=c
  ·subst e;simp
  ·have hne:(some (A c)==some (A x))=false:=by
    simp only [beq_eq_false_iff_ne,ne_eq,Option.some.injEq]
    exact fun e2=>e (hinj x c (hl x (by simp)) hc e2.symm)
   rw [hne]
   exact ih (fun j hj=>hl j (by simp [hj])) hc (by rcases List.mem_cons.1 h with h | h;exact absurd h.symm e;exact h)
theorem Hh {F:aU} {rk:Nat→Nat} {A:Nat→Nat} {n:Nat} (hinj:∀i j,i<n→j<n→A i=A j→i=j):∀ {l:List Nat} {c:Nat},(∀j∈l,j<n)→c<n→c∉l→(l.map fun j=>(some (A j),Value.string (fc F rk j))).lookup (some (A c))=none:=by
 intro l
 induction l with
 | nil=>intro c _ _ _;rfl
 | cons x l ih =>
  intro c hl hc h;rw [List.map_cons,List.lookup_cons];have hne:(some (A c)==some (A x))=false:=by simp only [beq_eq_false_iff_ne,ne_eq,Option.some.injEq];exact fun e2=>h (by rw [hinj c x hc (hl x (by simp)) e2];simp)
  rw [hne];exact ih (fun j hj=>hl j (by simp [hj])) hc (fun h2=>h (by simp [h2]))
theorem jQ.cell {n base:Nat} {A:Nat→Nat} {kv:Nat→Value} {F:aU} {w a b:World} (h:jQ n A kv a b) (hF:bf base n A kv F w) {p:Addr} {v:Value} (hp:w.heap.size≤p.block) (hc:a.cell? p=some v):b.cell? p=some v:=by
 have hl:p.block<a.heap.size:=World.block_lt_of_cell? a _ hc;rw [World.cell?_of_block (a:=p) (h.block p.block hl (fun i hi e=>by have:=hF.lt hi;omega) (fun i hi e=>by have:=(hF.fU hi e).2;omega))];exact hc
theorem jQ.pmap {n base:Nat} {A:Nat→Nat} {kv:Nat→Value} {F:aU} {w a b:World} (h:jQ n A kv a b) (hF:bf base n A kv F w) {m:Nat} {l:List (Option Nat×Value)} (hp:w.heap.size≤m) (hc:iW a m l):iW b m l :=
 hc.of_block (h.block m hc.lt (fun i hi e=>by have:=hF.lt hi;omega) (fun i hi e=>by have:=(hF.fU hi e).2;omega))
theorem bf.DU {base n:Nat} {A:Nat→Nat} {kv:Nat→Value} {F:aU} {w:World} (h:bf base n A kv F w) {i g cap m j c:Nat} (hi:i<n) (hv:kv i=.slice (some ⟨g,0,none⟩) m cap) (hj:(F.kids i)[j]? = some c):w.cell? ⟨g,j,none⟩=some (.pointer (some ⟨A c,0,none⟩)):=by
 have hown:=h.own i hi;rw [hv] at hown;obtain ⟨q,c',e,_,H⟩:=hown.wA.open;injection e with e1;subst e1;have hl:j<(F.kids i).length:=(List.getElem?_eq_some_iff.1 hj).1;obtain ⟨b,off,e,hc⟩:=H j (by simpa using hl);injection e with e;injection e with e1 e2;subst e1;subst e2;rw [Nat.zero_add] at hc;rw [hc];simp [List.getD_eq_getElem?_getD,hj,bg]
theorem UL {F:aU} {n:Nat} {rk:Nat→Nat} (h:Wf F n rk) {p:Nat→Bool} {i:Nat} {L:List Nat} (hi:i<n) (hL:∀c∈L,c∈F.kids i) (k:Nat):pK F rk p L k i=p i:=by
 unfold pK;have:((L.take k).any fun c=>bM F rk c i)=false:=by rw [List.any_eq_false];intro c hc;rw [O8 h hi (hL c (List.mem_of_mem_take hc))];simp
 rw [this,Bool.or_false]
theorem nO {n:Nat} {F:aU} {rk:Nat→Nat} {p:Nat→Bool} {L:List Nat} {i:Nat} (hS:Wf F n rk) (hi:i<n) (hL:L=(F.gQ rk p).kids i) (k:Nat):(F.gQ rk (pK F rk p L k)).kids i=L:=by
 have hm:∀c∈L,c∈F.kids i:=fun c hc=>by rw [hL] at hc;exact (F.gG rk p i).mem_iff.1 hc
 show (if pK F rk p L k i then _ else _)=L;rw [UL hS hi hm,hL];rfl
theorem bf.drew {base n:Nat} {A:Nat→Nat} {kv:Nat→Value} {F:aU} {w:World} (h:bf base n A kv F w):bf base n A kv F w.drew:=h.same (fun _ _=>rfl) (fun _ _ _ _=>rfl)
theorem jQ.SG {n:Nat} {A:Nat→Nat} {kv:Nat→Value} {a b:World} (h:jQ n A kv a.drew b):jQ n A kv a b:=⟨h.os,h.tape,h.output,h.size,h.block⟩
theorem IK.step {n base:Nat} {A:Nat→Nat} {kv:Nat→Value} {F:aU} {rk:Nat→Nat} {p:Nat→Bool} {L:List Nat} {w wo w2:World} {bx k c:Nat} (h:IK n base A kv F rk p L w wo w.heap.size bx k) (hF:bf base n A kv (F.gQ rk p) w) (k9:w.heap.size<bx)
  (hc:L[k]? = some c) (dQ:c<n) (EY:∀j∈L,j<n) (gI:L.Nodup) (h2:bf base n A kv (F.gQ rk fun j=>pK F rk p L k j || bM F rk c j) w2) (hu:jQ n A kv wo w2) :
  w2.cell? ⟨bx,0,none⟩=some (.map (some w.heap.size))∧∃w3,(Instr.mapUpdate 245 (.map (some w.heap.size)) (.pointer (some ⟨A c,0,none⟩)) (.string (fc F rk c))).run Tryz.prog w2=.ok () w3∧IK n base A kv F rk p L w w3 w.heap.size bx (k+1):=by
 have iX:=hu.cell hF (p:=⟨bx,0,none⟩) (Nat.le_of_lt k9) h.box;have hmap:=hu.pmap hF (Nat.le_refl _) h.map;have hkeys:∀z∈mK F rk A L k,fq w2 z.1:=fun z hz=>by obtain ⟨j,hj,rfl⟩:=List.mem_map.1 hz;exact h2.plain (EY j (List.mem_of_mem_take hj))
 have hno:c∉L.take k:=fun hm=>by
  obtain ⟨j,hj,e⟩:=List.getElem_of_mem hm;rw [List.getElem_take] at e;have hjk:j<k:=by rw [List.length_take] at hj;omega
  have fK:=(List.getElem?_eq_some_iff.1 hc);obtain ⟨fK,e2⟩:=fK;have:=(List.getElem_inj gI).1 (e.trans e2.symm);omega
 obtain ⟨w3,hr,Rm,hs3,wM,ht3,hou3,hb3⟩:=EM (P:=Tryz.prog) Tryz.underlying245 Tryz.underlying119 Tryz.qR hmap (k:=some (A c)) (.string (fc F rk c)) (h2.plain dQ) hkeys (Hh hF.inj (fun j hj=>EY j (List.mem_of_mem_take hj)) dQ hno);refine ⟨iX,w3,hr,?_,?_,?_,?_⟩
 ·have h3:bf base n A kv (F.gQ rk fun j=>pK F rk p L k j || bM F rk c j) w3:=h2.same (fun j hj=>hb3 _ (by have:=hF.lt hj;omega)) (fun j b hj hb=>hb3 _ (by have:=(hF.fU hj hb).2;omega))
  exact h3.CA fun j _=>SE F rk p L hc j
 ·rw [SF F rk A L hc];exact Rm
 ·rw [World.cell?_of_block (a:=⟨bx,0,none⟩) (hb3 bx (by omega))];exact iX
 ·have hk:=h.up.trans hu
  exact ⟨wM.trans hk.os,ht3.trans hk.tape,hou3.trans hk.output,Nat.le_trans hk.size (Nat.le_of_eq hs3.symm),fun b hb h4 h5=>(hb3 b (by omega)).trans (hk.block b hb h4 h5)⟩
set_option maxHeartbeats 800000 in
theorem vA {n base:Nat} {A:Nat→Nat} {kv:Nat→Value} {F:aU} {rk:Nat→Nat} (hS:zi F n rk) {i:Nat} {p:Nat→Bool} {w:World} (hi:i<n) (hF:bf base n A kv (F.gQ rk p) w) (h0:F.kids i=[]) :
  Calls Tryz.prog 184 #[.pointer (some ⟨A i,0,none⟩)] w (Mc n base A kv F rk p i w):=by
 have mJ:=F.gG rk p i;have hL:(F.gQ rk p).kids i=[]:=List.perm_nil.1 (by rw [h0] at mJ;exact mJ);have hown:=hF.own i hi;rw [hL] at hown;obtain ⟨q,cap,hv,_⟩:=hown.form (n:=0) rfl;have hkc:=hF.oZ hi;have hnc:w.cell? ⟨A i,0,none⟩=some (.string (F.nm i)):=hF.name hi;rw [hv] at hkc;have HL:Hid (fc F rk i=F.nm i):=by unfold Hid;rw [qP hS.wf hi,h0];simp [cn]
 have pH:Hid (bf base n A kv (F.gQ rk fun j=>p j || bM F rk i j) w):=hF.congr fun j hj=>by
  refine ⟨rfl,rfl,?_⟩;by_cases e:j=i
  ·subst e;rw [hL];show (if _ then _ else _)=_;rw [h0];split<;>simp [cn]
  ·show (if _ then _ else _)=(if _ then _ else _)
   (have:bM F rk i j=false:=by rw [gy hS.wf hi,h0];simpa using e);simp only [this,Bool.or_false]
 clear hF hS mJ hL hown hv h0;generalize hap:A i=ai at *;generalize F.nm i=nm at *;clear hap
 go_enter Tryz.func184,Tryz.ntmps184
 go_wp2_with fail;go_ret;exact ⟨by rw [HL.out];rfl,pH.out,jQ.refl _ _ _ _⟩
set_option maxHeartbeats 4000000 in
theorem O9 {n base:Nat} {A:Nat→Nat} {kv:Nat→Value} {F:aU} {rk:Nat→Nat} (hS:zi F n rk):∀(d i:Nat) (p:Nat→Bool) (w:World),i<n→rk i≤d→bf base n A kv (F.gQ rk p) w →
  Calls Tryz.prog 184 #[.pointer (some ⟨A i,0,none⟩)] w (Mc n base A kv F rk p i w):=by
 intro d
 induction d with
 | zero =>
  intro i p w hi sV hF;refine vA hS hi hF ?_;cases hk:F.kids i with
  | nil=>rfl
  | cons k l=>have:=(hS.wf.kid i hi k (by rw [hk];simp)).2;omega
 | succ d ih =>
  intro i p w hi sV hF;by_cases h0:F.kids i=[]
  ·exact vA hS hi hF h0
  ·obtain ⟨L,th⟩:∃L,L=(F.gQ rk p).kids i:=⟨_,rfl⟩
   (have mJ:L.Perm (F.kids i):=by rw [th];exact F.gG rk p i);have hlen:L.length=(F.kids i).length:=mJ.length_eq;have eU:=hS.len i hi;(have Ck:0<L.length:=by rw [hlen];exact List.length_pos_iff.2 h0);have hown:=hF.own i hi;rw [← th] at hown;obtain ⟨q,cap,hv,hq⟩:=hown.form (n:=L.length) (by simp);obtain ⟨g,rfl⟩:∃g,q=some ⟨g,0,none⟩:=by
    rcases hq with rfl | h
    ·obtain ⟨_,h | ⟨g,_,_,h,_⟩⟩:=hown
     ·have:=h.2;rw [List.length_map] at this;omega
     ·rw [hv] at h;cases h
    ·exact h
   have hkc:=hF.oZ hi;rw [hv] at hkc;have hsz:=hF.lt hi;have EY:∀c∈L,c<n∧rk c<rk i:=fun c hc=>hS.wf.kid i hi c (mJ.mem_iff.1 hc);have HW:Hid (IK n base A kv F rk p L w ((w.alloc (.map #[] 0)).alloc (.cells #[.map (some w.heap.size)] 245)) w.heap.size (w.heap.size+1) 0):=by
    have hu:Up w ((w.alloc (.map #[] 0)).alloc (.cells #[.map (some w.heap.size)] 245)):=(Up.alloc _ _).trans (Up.alloc _ _);refine ⟨(hF.up hu).CA fun j _=>by simp [pK],⟨#[],0,?_,rfl⟩,?_,jQ.Xw hu⟩
    ·rw [blk_alloc_lt _ _ _ (by simp)];exact blk_alloc_new _ _
    ·have h:=aK (w.alloc (.map #[] 0)) #[.map (some w.heap.size)] 245 0
     rw [World.size_alloc] at h;exact h
   have eO:=aa EY;have yE:=aa mJ;have HLEN:=aa hlen;have HF:=aa hF;have HV:=aa hv;have UM:=aa hkc;have dm:=aa th;have jk:=aa ih;have HS:=aa hS;(have hl2:L.length≤1000:=by omega);have hmm:=run_makeMap (P:=Tryz.prog) 245 w;have d1:((L.length:Int)==0)=false:=beq_eq_false_iff_ne.2 (by omega);clear hown hq hS ih hF EY mJ hlen hv h0 th eU
   go_enter Tryz.func184,Tryz.ntmps184
   go_wp2_with fail;generalize (w.alloc (.map #[] 0)).alloc (.cells #[.map (some w.heap.size)] 245)=w1 at *
   go_loopw [22] (fun i wr=>∃k:Nat,k≤L.length∧i=.int .i64 k∧Hid (IK n base A kv F rk p L w wr w.heap.size (w.heap.size+1) k)) (fun i _=>L.length - (intOf i).toNat)
   case atStart=>exact ⟨0,Nat.zero_le _,rfl,HW⟩
   case round =>
    obtain ⟨k,hk,rfl,hO⟩:=hrel;obtain ⟨wo,rfl⟩:∃wo:World,wo=wr:=⟨_,rfl⟩;by_cases hlt:k<L.length
    ·have hc:L[k]? = some L[k]:=List.getElem?_eq_getElem hlt
     have iX:=hO.out.box;have dQ:=eO.out L[k] (List.getElem_mem hlt);have hrow:=hO.out.fr.DU (j:=k) (c:=L[k]) hi HV.out (by rw [nO HS.out.wf hi dm.out k];exact hc);have fV:=aa (jk.out L[k] (pK F rk p L k) wo.drew dQ.1 (by omega) hO.out.fr.drew)
     have Xy:Hid (∀w2,bf base n A kv (F.gQ rk fun j=>pK F rk p L k j || bM F rk L[k] j) w2→jQ n A kv wo.drew w2→w2.cell? ⟨w.heap.size+1,0,none⟩=some (.map (some w.heap.size))∧∃w3,(Instr.mapUpdate 245 (.map (some w.heap.size)) (.pointer (some ⟨A L[k],0,none⟩)) (.string (fc F rk L[k]))).run Tryz.prog w2=.ok () w3∧IK n base A kv F rk p L w w3 w.heap.size (w.heap.size+1) (k+1)) :=
      fun w2 h2 hu=>hO.out.step HF.out (Nat.lt_succ_self _) hc dQ.1 (fun j hj=>(eO.out j hj).1) (yE.out.symm.nodup_iff.1 (HS.out.nodup i hi)) h2 hu.SG
     clear hc dQ;generalize L[k]=c at *;go_wp2_with fail;refine dG (by kernel_rfl) 5 (fun w'=>w'.cell? ⟨w.heap.size+1,0,none⟩=some (.map (some w.heap.size))) iX (fun hS=>?_);simp only [List.size_toArray,List.length_cons,List.length_nil,Nat.reduceAdd,Array.replicate_succ,Array.replicate_zero,List.push_toArray,List.nil_append,List.cons_append];refine af.tk 0 hS ?_;(try simp only [Act.put,ay,az,aA]);refine af.tk 1 hS ?_;(try simp only [Act.put,ay,az,aA]);refine af.tk 2 hS ?_
     (try simp only [Act.put,ay,az,aA]);refine af.step (i:=3) rfl (by kernel_rfl) (fun K' hK=>?_);go_simp;refine fV.out.mono ?_;rintro e w2 ⟨rfl,hF2,lz⟩;obtain ⟨UN,w3,hrun,hW3⟩:=Xy.out w2 hF2 lz;have YA:=aa hW3;clear hF2 lz hW3;refine hK.out _ _ (fun _=>UN) (fun hS=>?_);replace hS:=hS ⟨4,by decide,rfl⟩;(try simp only [ay,az,aA]);refine af.step (i:=4) rfl (by kernel_rfl) (fun K' hK=>?_);go_simp;refine hK.out _ _ (aM (by kernel_rfl)) (fun hS=>?_)
     refine af.done (by kernel_rfl) ?_;go_wp2_with fail
     go_roundw
     case rel=>exact ⟨k+1,by omega,by go_num,YA⟩
     case measure=>simp [intOf];omega
    ·obtain rfl:k=L.length:=by omega
     have hkc:=hO.out.fr.oZ hi;rw [HV.out] at hkc
     have wI:=aa (Hg hO.out.fr (i:=i) (g:=g) (cap:=cap) (f:=fc F rk) (bx:=w.heap.size+1) (m0:=w.heap.size) (l:=mK F rk A L L.length) hi (by rw [nO HS.out.wf hi dm.out];exact HV.out) (by rw [nO HS.out.wf hi dm.out];intro h;rw [h] at Ck;exact Nat.lt_irrefl _ Ck) (by rw [nO HS.out.wf hi dm.out];omega)
      (by rw [nO HS.out.wf hi dm.out];exact fun x hx y hy=>HS.out.sep i hi x (yE.out.mem_iff.1 hx) y (yE.out.mem_iff.1 hy)) hO.out.box hO.out.map (fun e=>by have:=(HF.out.fU hi (b:=g) (by rw [HV.out];rfl)).2;omega) (fun e=>by have:=(HF.out.fU hi (b:=g) (by rw [HV.out];rfl)).2;omega)
      (by rw [nO HS.out.wf hi dm.out];intro c hc;unfold mK;rw [List.take_length];exact CB HF.out.inj (fun j hj=>(eO.out j hj).1) (eO.out c hc).1 hc)
      (fun z hz=>by
       obtain ⟨j,hj,rfl⟩:=List.mem_map.1 hz
       exact ⟨j,(eO.out j (List.mem_of_mem_take hj)).1,rfl⟩))
     rw [nO HS.out.wf hi dm.out,HV.out] at wI;go_wp2_with fail;refine wI.out.mono ?_;rintro e w2 ⟨rfl,hF2,lz⟩;obtain ⟨k1,l1,hs1⟩:∃k1 l1,cn (fc F rk) L=k1::l1:=by
      cases hs:cn (fc F rk) L with
      | nil=>have h1:=(dM (fc F rk) L).length_eq;rw [hs] at h1;simp at h1;omega
      | cons k l=>exact ⟨k,l,rfl⟩
     have hk1:k1∈L:=(dM (fc F rk) L).mem_iff.1 (by rw [hs1];simp);have hrow2:w2.cell? ⟨g,0,none⟩=some (.pointer (some ⟨A k1,0,none⟩)):=hF2.DU (i:=i) (j:=0) (c:=k1) hi HV.out (by show (upd _ i _ i)[0]? = _;rw [upd_same,hs1];rfl);have hkc2:=hF2.oZ hi;rw [HV.out] at hkc2;have UN:=lz.cell HF.out (p:=⟨w.heap.size+1,0,none⟩) (Nat.le_succ _) hO.out.box;have UO:=lz.pmap HF.out (Nat.le_refl _) hO.out.map;have hlk:∀q,(Instr.lookup 245 (.map (some w.heap.size)) (.pointer (some ⟨A k1,0,none⟩)) false).run Tryz.prog (w2.drewN q)=.ok (.string (fc F rk k1)) (w2.drewN q):=fun q =>
      uo (P:=Tryz.prog) (w:=w2.drewN q) Tryz.underlying245 Tryz.underlying119 Tryz.qR UO (k:=some (A k1)) (hF2.plain (eO.out k1 hk1).1) (fun z hz=>by
       obtain ⟨j,hj,rfl⟩:=List.mem_map.1 hz
       exact hF2.plain (eO.out j (List.mem_of_mem_take hj)).1) (by unfold mK;rw [List.take_length];exact CB HF.out.inj (fun j hj=>(eO.out j hj).1) (eO.out k1 hk1).1 hk1)
     have Md:Hid (fc F rk i=fc F rk k1):=by unfold Hid;rw [qP HS.out.wf hi,← vw yE.out (fun x hx y hy=>HS.out.sep i hi x (yE.out.mem_iff.1 hx) y (yE.out.mem_iff.1 hy)),hs1]
     have pH:Hid (bf base n A kv (F.gQ rk fun j=>p j || bM F rk i j) w2):=hF2.congr fun j hj=>by
      refine ⟨rfl,rfl,?_⟩;show (if (p j || bM F rk i j) then _ else _)=upd _ i _ j;by_cases e:j=i
      ·subst e
       rw [upd_same,if_pos (by rw [gy HS.out.wf hi];simp)];exact (vw yE.out (fun x hx y hy=>HS.out.sep j hi x (yE.out.mem_iff.1 hx) y (yE.out.mem_iff.1 hy))).symm
      ·rw [upd_ne _ _ e]
       (have:pK F rk p L L.length j=(p j || bM F rk i j):=by unfold pK;rw [List.take_length,gy HS.out.wf hi];(have e2:(j==i)=false:=by simpa using e);rw [e2,Bool.false_or,yE.out.any_eq]);(show _=if pK F rk p L L.length j then _ else _);rw [this]
     have vB:=aa (hO.out.up.trans lz);(have i0:(0:Int)<(L.length:Int):=by omega);clear hF2 lz hs1 hk1 UO wI hO;go_wp2_with fail;(go_quiet (fail));go_wp2_with fail;go_ret;exact ⟨by rw [Md.out];rfl,pH.out.same (fun _ _=>rfl) (fun _ _ _ _=>rfl),⟨vB.out.os,vB.out.tape,vB.out.output,vB.out.size,vB.out.block⟩⟩
end
end Go.Proofs.YthgabkgmkolobaaGreat
