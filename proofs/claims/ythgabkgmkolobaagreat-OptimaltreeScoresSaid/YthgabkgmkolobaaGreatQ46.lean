/- A tree in a box of its own. Reference 34: SameTrees. optimaltree.All. optimaltree.same. -/
import Derived.Test.YthgabkgmkolobaaGreatQ44
set_option maxRecDepth 100000
namespace Go.Proofs.YthgabkgmkolobaaGreat
section
open Go.RowKit Go.Deep
structure uV (w:World) (B:Nat) (W:World) (t:aD):Prop where
 up:Up w W
 lo:w.heap.size≤B∧B<W.heap.size
 ex:∃pp pc np nc,W.heap[B]? = some (Obj.cells #[.slice pp t.ps.length pc,.slice np t.ns.length nc] 39 (0,0))∧au (fun b=>b≠B) W (.agg #[.slice pp t.ps.length pc,.slice np t.ns.length nc]) t
theorem Ib {w4:World} {B:Nat} {x y p q:Value} {T:TypeId} (hb:w4.heap[B]? = some (Obj.cells #[x,y] T (0,0))):((w4.setCell ⟨B,0,none⟩ p).setCell ⟨B,1,none⟩ q).heap[B]? = some (Obj.cells #[p,q] T (0,0)):=by
 simp [World.setCell,Array.getElem?_modify,hb]
theorem uV.GL {w w4:World} {B:Nat} {x y:Value} {t:aD} {pp np:Option Addr} {pc nc:Nat} (hb:w4.heap[B]? = some (Obj.cells #[x,y] 39 (0,0))) (hB:w.heap.size≤B) (hu:Up w w4) (hT:au (fun b=>b≠B) w4 (.agg #[.slice pp t.ps.length pc,.slice np t.ns.length nc]) t) :
  uV w B ((w4.setCell ⟨B,0,none⟩ (.slice pp t.ps.length pc)).setCell ⟨B,1,none⟩ (.slice np t.ns.length nc)) t:=by
 obtain ⟨s1,_,_,s4⟩:=dS (p:=.slice pp t.ps.length pc) (q:=.slice np t.ns.length nc) hb hB hu;have hlt:=(Array.getElem?_eq_some_iff.1 hb).1;refine ⟨s1,⟨hB,by simpa using hlt⟩,pp,pc,np,nc,Ib hb,hT.keep fun b hb _=>s4 b hb⟩
theorem uV.QB {w w2:World} {t:aD} {pp np:Option Addr} {pc nc:Nat} (hu:Up w w2) (hT:au Any w2 (.agg #[.slice pp t.ps.length pc,.slice np t.ns.length nc]) t):uV w w2.heap.size (w2.alloc (.cells #[.slice pp t.ps.length pc,.slice np t.ns.length nc] 39)) t:=by
 have aY:=Up.alloc w2 (.cells #[.slice pp t.ps.length pc,.slice np t.ns.length nc] 39);refine ⟨hu.trans aY,⟨hu.size,by rw [World.size_alloc];omega⟩,pp,pc,np,nc,ek,?_⟩;exact ((hT.sub fun b _ hl=>(show b<w2.heap.size from hl)).keep (aY.kept _)).sub fun b hb _=>by omega
theorem Ic {W:World} {B:Nat} {v:Value} {xs:List Int} (h:aj Any W v xs) (hb:W.heap[B]? = some (Obj.cells #[.slice none 0 0,.slice none 0 0] 39 (0,0))):aj (fun b=>b≠B) W v xs:=by
 obtain ⟨p,c,e,hc,h⟩:=h;refine ⟨p,c,e,hc,?_⟩;rcases h with h | ⟨b,off,e2,_,h⟩
 ·exact .inl h
 ·by_cases h0:xs.length=0
  ·exact .inl h0
  ·refine .inr ⟨b,off,e2,fun eb=>?_,h⟩
   subst eb;have h1:=h 0 (by omega);rw [Nat.add_zero] at h1;simp only [World.cell?,hb] at h1
   match off,h1 with
   | 0,h1=>simp at h1
   | 1,h1=>simp at h1
   | off+2,h1=>simp at h1
theorem Ie {W:World} {B:Nat} {v:Value} {xs:List ByteArray} (h:ah Any W v xs) (hb:W.heap[B]? = some (Obj.cells #[.slice none 0 0,.slice none 0 0] 39 (0,0))):ah (fun b=>b≠B) W v xs:=by
 obtain ⟨p,c,e,hc,h⟩:=h;refine ⟨p,c,e,hc,?_⟩;rcases h with h | ⟨b,off,e2,_,h⟩
 ·exact .inl h
 ·by_cases h0:xs.length=0
  ·exact .inl h0
  ·refine .inr ⟨b,off,e2,fun eb=>?_,h⟩
   subst eb;have h1:=h 0 (by omega);rw [Nat.add_zero] at h1;simp only [World.cell?,hb] at h1
   match off,h1 with
   | 0,h1=>simp at h1
   | 1,h1=>simp at h1
   | off+2,h1=>simp at h1
theorem Ig {W:World} {B:Nat} {v:Value} {t:aD} (h:au Any W v t) (hb:W.heap[B]? = some (Obj.cells #[.slice none 0 0,.slice none 0 0] 39 (0,0))):au (fun b=>b≠B) W v t:=by
 obtain ⟨P,N,e,hP,hN⟩:=h;exact ⟨P,N,e,Ic hP hb,Ie hN hb⟩
end
section
open Go.RowKit Go.Deep
theorem Ba {a b:List aD} (hl:a.length=b.length):(a=b)↔∀k,k<a.length→gt a k=gt b k:=by
 constructor
 ·rintro rfl k _;rfl
 ·intro h
  refine List.ext_getElem hl fun i h1 h2=>?_;have:=h i h1;simpa [gt,h1,h2] using this
set_option maxHeartbeats 1000000 in
theorem o9 (S T:Nat→Prop) (w:World) (v u:Value) (a b:List aD) (h:b7 S w v a) (h2:b7 T w u b) (hn:a.length≤1000000) (hz:∀k,(gt a k).ps.length≤1000000∧(gt a k).ns.length≤1000000) :
  Calls Tryz.prog 44 #[v,u] w fun e w'=>e=.returned (.bool (decide (a=b)))∧Up w w':=by
 obtain ⟨p,cap,rfl,hcap⟩:=cU h;obtain ⟨q,cr,rfl,mD⟩:=cU h2;have HX:=aa h;have HY:=aa h2;have HZ:=aa hz;clear h h2 hz;by_cases hl:a.length=b.length
 ·have HS:=aa (Ba hl)
  have eU:((a.length:Int) != (b.length:Int))=false:=by simp [hl]
  have HL:=aa hl;clear hl
  go_enter Tryz.func44,Tryz.ntmps44
  go_wp2_with fail;clear eU
  go_loopw [4,5] (fun _ i wr=>∃k:Nat,k≤a.length∧i=.int .i64 k∧Hid (Up w wr∧∀j,j<k→gt a j=gt b j)) (fun _ i _=>a.length - (intOf i).toNat)
  case atStart=>exact ⟨0,Nat.zero_le _,rfl,Up.refl _,fun j hj=>absurd hj (Nat.not_lt_zero _)⟩
  case round =>
   obtain ⟨k,hk,rfl,hI⟩:=hrel;obtain ⟨wo,rfl⟩:∃wo:World,wo=wr:=⟨_,rfl⟩;by_cases hlt:k<a.length
   ·obtain ⟨ab,ao,pp,pc,np,nc,rfl,c0,c1,hT⟩:=kE (HX.out.keep (hI.out.1.kept S)) hlt
    obtain ⟨bb,bo,oD,oF,oG,oH,rfl,d0,d1,Jt⟩:=kE (HY.out.keep (hI.out.1.kept T)) (k:=k) (by rw [← HL.out];exact hlt);have HST:=aa (AO S T wo _ _ _ _ hT Jt (HZ.out k).1 (HZ.out k).2);(have i1:(0:Int)≤(k:Int):=by omega);(have i2:(k:Int)<(a.length:Int):=by omega);(have i3:(k:Int)<(b.length:Int):=by have:=HL.out;omega);have qT:Hid (gt a k≠gt b k→decide (a=b)=false):=fun hne=>decide_eq_false fun e=>hne (HS.out.1 e k hlt);have vv:Hid (gt a k=gt b k→Up w wo∧∀j,j<k+1→gt a j=gt b j):=fun e=>⟨hI.out.1,fun j hj=>if e2:j=k then by subst e2;exact e else hI.out.2 j (by omega)⟩
    have sj:=aa hI.out.1;replace HST:Hid (Calls Tryz.prog 37 #[.agg #[.slice pp (gt a k).ps.length pc,.slice np (gt a k).ns.length nc],.agg #[.slice oD (gt b k).ps.length oF,.slice oG (gt b k).ns.length oH]] wo.drew fun e w'=>e=.returned (.bool (decide (gt a k=gt b k)))∧Up wo w'):=(AO S T wo.drew _ _ _ _ (hT.keep ((Up.drewN wo 1).kept _)) (Jt.keep ((Up.drewN wo 1).kept _)) (HZ.out k).1 (HZ.out k).2).mono fun e w' ⟨h1,h2⟩=>⟨h1,(Up.drewN wo 1).trans h2⟩;clear hT Jt hI;generalize gt a k=x at *;generalize gt b k=y at *;by_cases e:x=y
    ·have d9:decide (x=y)=true:=decide_eq_true e
     rw [d9] at HST;have WN:=aa (vv.out e);clear e d9 qT vv;go_wp2_with fail;refine dG (by kernel_rfl) 9 (fun w'=>w'.cell? ⟨ab,ao+k*2,none⟩=some (.slice pp x.ps.length pc)∧w'.cell? ⟨ab,ao+k*2+1,none⟩=some (.slice np x.ns.length nc)∧w'.cell? ⟨bb,bo+k*2,none⟩=some (.slice oD y.ps.length oF)∧w'.cell? ⟨bb,bo+k*2+1,none⟩=some (.slice oG y.ns.length oH)) ⟨c0,c1,d0,d1⟩ (fun hS=>?_);simp only [List.size_toArray,List.length_cons,List.length_nil,Nat.reduceAdd,Array.replicate_succ,Array.replicate_zero,List.push_toArray,List.nil_append,List.cons_append];refine af.tk 0 hS ?_
     (try simp only [Act.put,ay,az,aA]);refine af.tk 1 hS ?_;(try simp only [Act.put,ay,az,aA]);refine af.tk 2 hS ?_;(try simp only [Act.put,ay,az,aA]);refine af.tk 3 hS ?_;(try simp only [Act.put,ay,az,aA]);refine af.tk 4 hS ?_;(try simp only [Act.put,ay,az,aA]);refine af.tk 5 hS ?_
     (try simp only [Act.put,ay,az,aA]);refine af.tk 6 hS ?_;(try simp only [Act.put,ay,az,aA]);refine af.tk 7 hS ?_;(try simp only [Act.put,ay,az,aA]);refine af.step (i:=8) rfl (by kernel_rfl) (fun K' hK=>?_);go_simp;refine HST.out.mono ?_;rintro e w2 ⟨rfl,hu⟩;refine hK.out _ _ (aM (by kernel_rfl)) (fun hS=>?_);try simp only [ay,az,aA]
     refine af.step (i:=9) rfl (by kernel_rfl) (fun K' hK=>?_);go_simp;refine hK.out _ _ (aM (by kernel_rfl)) (fun hS=>?_);refine af.done (by kernel_rfl) ?_;have HI2:Hid (Up w w2∧∀j,j<k+1→gt a j=gt b j):=⟨WN.out.1.trans hu,WN.out.2⟩;clear hu;go_wp2_with fail
     go_roundw
     case rel=>exact ⟨k+1,by omega,by go_num,HI2.out⟩
     case measure=>simp [intOf];omega
    ·have d9:decide (x=y)=false:=decide_eq_false e
     rw [d9] at HST;have HF:=aa (qT.out e);clear e d9 qT vv;go_wp2_with fail;refine dG (by kernel_rfl) 9 (fun w'=>w'.cell? ⟨ab,ao+k*2,none⟩=some (.slice pp x.ps.length pc)∧w'.cell? ⟨ab,ao+k*2+1,none⟩=some (.slice np x.ns.length nc)∧w'.cell? ⟨bb,bo+k*2,none⟩=some (.slice oD y.ps.length oF)∧w'.cell? ⟨bb,bo+k*2+1,none⟩=some (.slice oG y.ns.length oH)) ⟨c0,c1,d0,d1⟩ (fun hS=>?_);simp only [List.size_toArray,List.length_cons,List.length_nil,Nat.reduceAdd,Array.replicate_succ,Array.replicate_zero,List.push_toArray,List.nil_append,List.cons_append];refine af.tk 0 hS ?_
     (try simp only [Act.put,ay,az,aA]);refine af.tk 1 hS ?_;(try simp only [Act.put,ay,az,aA]);refine af.tk 2 hS ?_;(try simp only [Act.put,ay,az,aA]);refine af.tk 3 hS ?_;(try simp only [Act.put,ay,az,aA]);refine af.tk 4 hS ?_;(try simp only [Act.put,ay,az,aA]);refine af.tk 5 hS ?_
     (try simp only [Act.put,ay,az,aA]);refine af.tk 6 hS ?_;(try simp only [Act.put,ay,az,aA]);refine af.tk 7 hS ?_;(try simp only [Act.put,ay,az,aA]);refine af.step (i:=8) rfl (by kernel_rfl) (fun K' hK=>?_);go_simp;refine HST.out.mono ?_;rintro e w2 ⟨rfl,hu⟩;refine hK.out _ _ (aM (by kernel_rfl)) (fun hS=>?_);try simp only [ay,az,aA]
     refine af.step (i:=9) rfl (by kernel_rfl) (fun K' hK=>?_);go_simp;refine hK.out _ _ (aM (by kernel_rfl)) (fun hS=>?_);refine af.done (by kernel_rfl) ?_;have aP:=aa (sj.out.trans hu);clear hu;go_wp2_with fail;go_ret;exact ⟨aR HF.out.symm,aP.out⟩
   ·obtain rfl:k=a.length:=by omega
    have HF:Hid (decide (a=b)=true):=decide_eq_true (HS.out.2 hI.out.2);go_wp2_with fail;go_ret;exact ⟨aR HF.out.symm,hI.out.1⟩
 ·have HF:Hid (decide (a=b)=false):=decide_eq_false fun e=>hl (by rw [e])
  have eU:((a.length:Int) != (b.length:Int))=true:=by simp;omega
  clear hl
  go_enter Tryz.func44,Tryz.ntmps44
  go_wp2_with fail;go_ret;exact ⟨aR HF.out.symm,Up.refl _⟩
end
section
open Go.RowKit Go.Deep
theorem NM {w:World} {v:Value} {qs:List RT} (h:tT w v qs):∃g cap,v=.slice (some ⟨g,0,none⟩) qs.length cap:=by
 obtain ⟨g,cap,es,e1,_⟩:=h;exact ⟨g,cap,e1⟩
theorem GM {w:World} {g n cap:Nat} {qs:List RT} (h:tT w (.slice (some ⟨g,0,none⟩) n cap) qs) {k:Nat} (hk:k<qs.length) :
  ∃pp pc np nc,w.cell? ⟨g,k*3,none⟩=some (.slice pp (gt (qs.map flat) k).ps.length pc)∧w.cell? ⟨g,k*3+1,none⟩=some (.slice np (gt (qs.map flat) k).ns.length nc)∧w.cell? ⟨g,k*3+2,none⟩=some (.string (aV (qs.getD k (.node ByteArray.empty []))))∧au Any w (.agg #[.slice pp (gt (qs.map flat) k).ps.length pc,.slice np (gt (qs.map flat) k).ns.length nc]) (gt (qs.map flat) k):=by
 obtain ⟨g',cap',es,e1,e2,h1,h2⟩:=h;injection e1 with e1;injection e1 with e1;injection e1 with e1;subst e1;subst e2;rw [List.length_map] at hk;obtain ⟨c0,c1,c2⟩:=h1 k hk;have hg:gt ((es.map (·.2)).map flat) k=flat (ge es k).2:=by simp [gt,ge,hk]
 have hg2:(es.map (·.2)).getD k (.node ByteArray.empty [])=(ge es k).2:=by simp [ge,hk]
 have h3:=h2 _ (Wq hk);rw [hg,hg2];obtain ⟨P1,N1,e,hP,hN⟩:=h3;injection e with e;have e1:(ge es k).1.1=P1∧(ge es k).1.2=N1:=by simpa using e
 obtain ⟨pp,pc,e2,_,_⟩:=aC.open hP;obtain ⟨np,nc,e3,_,_⟩:=aC.open hN;rw [← e1.1] at e2;rw [← e1.2] at e3;rw [e2] at c0;rw [e3] at c1;refine ⟨pp,pc,np,nc,c0,c1,c2,_,_,rfl,?_,?_⟩
 ·rw [← e2,e1.1];exact hP
 ·rw [← e3,e1.2];exact hN
theorem yg {ts:List aD} {n:Nat} (h:n<ts.length):ts.take (n+1)=ts.take n++[gt ts n]:=by
 rw [List.take_succ_eq_append_getElem h];simp [gt,h]
def ZQ (w:World) (names:List ByteArray) (n:Nat) (out:Value) (wr:World):Prop:=Up w wr∧∃es:List kF,gN w.heap.size wr out es∧es.map (·.2)=(allT names).take n
end
section
open Go.RowKit Go.Deep
set_option maxHeartbeats 1000000 in
theorem QC (S T:Nat→Prop) (w:World) (v u:Value) (t q:aD) (h:au S w v t) (h2:au T w u q) (hp:t.ps.length≤1000000) (hn:t.ns.length≤1000000) (hp2:q.ps.length≤1000000) (hn2:q.ns.length≤1000000) :
  Calls Tryz.prog 107 #[v,u] w fun e w'=>e=.returned (.bool (decide (t=q)))∧Up w w':=by
 obtain ⟨P,N,rfl,hP,hN⟩:=h;obtain ⟨np,nc,rfl,-,-⟩:=aC.open hN;have hN:ah S w (.slice np t.ns.length nc) t.ns:=hN;obtain ⟨pp,pc,rfl,-,-⟩:=aC.open hP;have hP:aj S w (.slice pp t.ps.length pc) t.ps:=hP;obtain ⟨P,N,rfl,fE,eZ⟩:=h2;obtain ⟨nq,nd,rfl,-,-⟩:=aC.open eZ;have eZ:ah T w (.slice nq q.ns.length nd) q.ns:=eZ;obtain ⟨pq,pd,rfl,-,-⟩:=aC.open fE;have fE:aj T w (.slice pq q.ps.length pd) q.ps:=fE;have aO:=(Up.alloc w (.cells #[.slice pp t.ps.length pc,.slice np t.ns.length nc] 39)).trans (Up.alloc _ (.cells #[.slice pq q.ps.length pd,.slice nq q.ns.length nd] 39))
 have HU:=aa aO;have K8:=aa (G8 S T _ _ _ _ _ (aj.keep hP (aO.kept S)) (aj.keep fE (aO.kept T)) hp hp2);have r9:=aa (fun W (hW:Up _ W)=>Hl S T W _ _ _ _ (ah.keep hN ((aO.trans hW).kept S)) (ah.keep eZ ((aO.trans hW).kept T)) hn hn2);have HD:Hid (decide (t=q)=(decide (t.ps=q.ps)&&decide (t.ns=q.ns))):=by
  unfold Hid;obtain ⟨a,b⟩:=t;obtain ⟨c,d⟩:=q;by_cases e:a=c
  ·subst e
   by_cases e2:b=d
   ·subst e2;simp
   ·rw [decide_eq_false fun h=>e2 (congrArg aD.ns h),decide_eq_false e2];simp
  ·rw [decide_eq_false fun h=>e (congrArg aD.ps h),decide_eq_false e];simp
 have hb0:=ek (w:=w) (P:=.slice pp t.ps.length pc) (N:=.slice np t.ns.length nc) (T:=39);have hb1:=ek (w:=w.alloc (.cells #[.slice pp t.ps.length pc,.slice np t.ns.length nc] 39)) (P:=.slice pq q.ps.length pd) (N:=.slice nq q.ns.length nd) (T:=39);obtain ⟨-,q1,-,-⟩:=boxed hb0;obtain ⟨-,r1,-,-⟩:=boxed hb1;replace q1:=(Up.alloc _ (.cells #[.slice pq q.ps.length pd,.slice nq q.ns.length nd] 39)).cell q1;rw [World.size_alloc] at r1;have WO:=aa (And.intro q1 r1);clear hP hN fE eZ aO hb0 hb1 q1 r1
 go_enter Tryz.func107,Tryz.ntmps107
 go_wp2_with fail;generalize (w.alloc (.cells #[.slice pp t.ps.length pc,.slice np t.ns.length nc] 39)).alloc (.cells #[.slice pq q.ps.length pd,.slice nq q.ns.length nd] 39)=w1 at *;refine K8.out.mono ?_;rintro e w2 ⟨rfl,hq⟩;have aG:Up w1 w2:=QD.up hq;have ZR:=aa (r9.out w2 aG);have aP:=aa (HU.out.trans aG);have q1:=aG.cell WO.out.1;have r1:=aG.cell WO.out.2;clear hq aG K8 r9 WO;generalize decide (t.ps=q.ps)=b1 at *;generalize decide (t.ns=q.ns)=b2 at *;cases b1
 ·have HX:Hid (decide (t=q)=false):=by unfold Hid;rw [HD.out];rfl
  go_wp2_with fail;go_ret;exact ⟨aR HX.out.symm,aP.out⟩
 ·have HX:Hid (decide (t=q)=b2):=by unfold Hid;rw [HD.out];rfl
  go_wp2_with fail;refine ZR.out.mono ?_;rintro e w3 ⟨rfl,hq⟩;have bW:=aa (aP.out.trans (QD.up hq));clear hq ZR;go_wp2_with fail;go_ret;exact ⟨aR HX.out.symm,bW.out⟩
end
end Go.Proofs.YthgabkgmkolobaaGreat
