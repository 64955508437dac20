/- The walk of split.Build. -/
import Derived.Test.YthgabkgmkolobaaGreatQ32
set_option maxRecDepth 100000
set_option maxHeartbeats 8000000
namespace Go.Proofs.YthgabkgmkolobaaGreat
open Go.RowKit Go.Deep
def FH (w:World) (amd:List ByteArray) (l:List (List Int)) (e:Ending) (w':World):Prop :=
 Up w w'/\∃v,e=.returned (.tuple #[v,.int .i64 (eR amd l)])/\aG Any w' v (jN amd l)
theorem wO {w W:World} {B:Nat} {amd:List ByteArray} {l:List (List Int)} {c:Int} (hB:w.heap.size<=B) (hu:Up w W) (hb:W.heap[B]? = some (Obj.cells #[.slice none 0 0,.slice none 0 0] 39 (0,0))) (hc:eR amd l=c) (h0:c≠0) :
  ((
   W.setCell ⟨B,0,none⟩ (.slice none 0 0)).setCell ⟨B,1,none⟩ (.slice none 0 0)).cell? ⟨B,0,none⟩=some (.slice none 0 0)/\((W.setCell ⟨B,0,none⟩ (.slice none 0 0)).setCell ⟨B,1,none⟩ (.slice none 0 0)).cell? ⟨B,1,none⟩=some (.slice none 0 0) /\
   FH w amd l (.returned (.tuple #[.agg #[.slice none 0 0,.slice none 0 0],.int .i64 c])) ((W.setCell ⟨B,0,none⟩ (.slice none 0 0)).setCell ⟨B,1,none⟩ (.slice none 0 0)):=by
 obtain ⟨s1,s2,s3,s4⟩:=gz (p:=.slice none 0 0) (q:=.slice none 0 0) hb hB hu;refine ⟨s2,s3,s1,.agg #[.slice none 0 0,.slice none 0 0],by rw [hc],?_⟩;unfold jN;rw [if_neg (by rw [hc];exact h0)];exact zj _
theorem yx {w W:World} {B:Nat} {amd:List ByteArray} {l:List (List Int)} {c:Int} (hu:Up w W) (hb:W.heap[B]? = some (Obj.cells #[.slice none 0 0,.slice none 0 0] 39 (0,0))) (hc:eR amd l=c) (h0:c≠0) :
  W.cell? ⟨B,0,none⟩=some (.slice none 0 0)/\W.cell? ⟨B,1,none⟩=some (.slice none 0 0)/\FH w amd l (.returned (.tuple #[.agg #[.slice none 0 0,.slice none 0 0],.int .i64 c])) W:=by
 refine ⟨by simp [World.cell?,hb],by simp [World.cell?,hb],hu,.agg #[.slice none 0 0,.slice none 0 0],by rw [hc],?_⟩;unfold jN;rw [if_neg (by rw [hc];exact h0)];exact zj _
theorem Rx (amd:List ByteArray) (k:Nat):((List.range k).any fun j=>decide (gs amd k=gs amd j))=cW amd k:=by
 unfold cW;congr 1;funext j;by_cases e:gs amd j=gs amd k
 ·rw [decide_eq_true e,decide_eq_true e.symm]
 ·rw [decide_eq_false e,decide_eq_false fun q=>e q.symm]
theorem LA {W:World} {b:Nat} {x:Int} (h:W.cell? ⟨b,0,none⟩=some (.int .i64 x)):af Any W (.slice (some ⟨b,0,none⟩) 1 1) [x] :=
 ⟨_,1,rfl,ah _,.inr ⟨_,0,rfl,trivial,fun k hk=>by
  have nj:k<1:=hk
  obtain rfl:k=0:=by omega
  exact h⟩⟩
theorem UO {W:World} {b:Nat} {x:ByteArray} (h:W.cell? ⟨b,0,none⟩=some (.string x)):aj Any W (.slice (some ⟨b,0,none⟩) 1 1) [x] :=
 ⟨_,1,rfl,ah _,.inr ⟨_,0,rfl,trivial,fun k hk=>by
  have nj:k<1:=hk
  obtain rfl:k=0:=by omega
  exact h⟩⟩
theorem Zr {base k:Nat} {w:World} {v:Value} {vals:List Value} {l:List (List Int)} (ho:au base 26 w v vals) (hvl:vals.length=l.length) (hrow:∀i,i<l.length->af (fun b=>b<k) w (vals.getD i undef) (gl l i)) (hk:k<=base) :
  ∃ps,sk base w v ps/\ps.map (·.1)=l/\∀p∈ps,af (fun b=>b<k) w p.2 p.1:=by
 have hin:∀p∈(List.range l.length).map (fun i=>(gl l i,vals.getD i undef)),af (fun b=>b<k) w p.2 p.1:=fun p hp=>by obtain ⟨i,hi,rfl⟩:=bI.1 hp;exact hrow i (bu.1 hi)
 refine ⟨(List.range l.length).map fun i=>(gl l i,vals.getD i undef),⟨?_,fun p hp=>?_,fun p hp=>?_⟩,?_,hin⟩
 ·rw [jA]
  have e:(List.range l.length).map ((fun x=>x.2) ∘ fun i=>(gl l i,vals.getD i undef))=vals:=by refine tY (by simp [hvl]) fun i h1 h2=>?_;simp [List.getElem_map,h2]
  rw [e];exact ho
 ·obtain ⟨q,c,e,_,_⟩:=aq.open (hin p hp)
  exact ⟨q,c,e⟩
 ·exact (hin p hp).sub fun b hb _ e=>by have:=(av ho e).1;omega
 ·rw [jA]
  refine tY (by simp) fun i h1 h2=>?_;simp [gl,h2]
theorem Ry {w W6 W8:World} {amd:List ByteArray} {l:List (List Int)} {T:ax} {p n:Value} (hlt:w.heap.size<W6.heap.size) (hb:W8.heap[w.heap.size]? = some (Obj.cells #[.slice none 0 0,.slice none 0 0] 39 (0,0))) (hu:Up w W8) (hP:af (fun b=>W6.heap.size<=b) W8 p T.ps) (hN:aj (fun b=>W6.heap.size<=b) W8 n T.ns) (hX:eR amd l=0) (hT:jN amd l=T) :
  ((
   W8.setCell ⟨w.heap.size,0,none⟩ p).setCell ⟨w.heap.size,1,none⟩ n).cell? ⟨w.heap.size,0,none⟩=some p/\((W8.setCell ⟨w.heap.size,0,none⟩ p).setCell ⟨w.heap.size,1,none⟩ n).cell? ⟨w.heap.size,1,none⟩=some n /\
   FH w amd l (.returned (.tuple #[.agg #[p,n],.int .i64 0])) ((W8.setCell ⟨w.heap.size,0,none⟩ p).setCell ⟨w.heap.size,1,none⟩ n):=by
 obtain ⟨s1,s2,s3,s4⟩:=gz (p:=p) (q:=n) hb (ah _) hu;refine ⟨s2,s3,s1,_,by rw [hX],?_⟩;rw [hT];exact ⟨_,_,rfl,(af.keep hP fun b hb _=>s4 b (by omega)).sub fun _ _ _=>trivial,(aj.keep hN fun b hb _=>s4 b (by omega)).sub fun _ _ _=>trivial⟩
theorem ae3 (S:Nat->Prop) (w:World) (v vl:Value) (amd:List ByteArray) (l:List (List Int)) (h:aj S w v amd) (hL:aT S w vl l) (hn:amd.length<=1000000) (hz:∀k,(gs amd k).size<=70000) (oL:l.length<=1000000) (hr:∀k,(gl l k).length<=1000000) :
  Calls Tryz.prog 19 #[v,vl] w (FH w amd l):=by
 obtain ⟨lp,lc,rfl,-,-⟩:=dy hL;obtain ⟨p,cap,rfl,hcap,_⟩:=aq.open h;have h:aj S w (.slice p amd.length cap) amd:=h;have bK:Up w (w.alloc (.cells #[.slice none 0 0,.slice none 0 0] 39)):=Up.alloc _ _;have hrb:=iN (w:=w) (P:=.slice none 0 0) (N:=.slice none 0 0) (T:=39);obtain ⟨q0,q1,q2,q3⟩:=boxed hrb;have CZ:(w.alloc (.cells #[.slice none 0 0,.slice none 0 0] 39)).heap.size=w.heap.size+1:=by simp
 have o5:=aa (aj.keep h (bK.kept S));have Rz:=aa (aT.keep (hL.sub (T:=fun b=>b<w.heap.size) fun b _ hb=>hb) (bK.kept _));have sA:=aa CZ;have cB:=aa bK;have gY:=aa hrb;have HZ:=aa hz;have HR:=aa hr
 have nI:Hid (eR amd l=if amd.length=0 then 5 else if 32<amd.length\/64<l.length then 4
  else if bf (fI amd) amd.length≠0 then bf (fI amd) amd.length
  else if bf (fun k=>aV amd.length (gl l k)) l.length≠0 then bf (fun k=>aV amd.length (gl l k)) l.length
  else if 0<=iY l then 17 else 0):=rfl
 clear h hL bK hrb CZ hz hr;by_cases c0:amd.length=0
 ·have HST:=aa (yx (c:=5) cB.out gY.out (by rw [nI.out,if_pos c0]) (by decide))
  have d0:((amd.length:Int)==0)=true:=by simp [c0]
  clear c0;go_in;go_wp2_with fail;obtain ⟨s2,s3,hp⟩:=HST.out;exact ⟨rfl,.tuple #[.agg #[.slice none 0 0,.slice none 0 0],.int .i64 5],by simp [results,Tryz.results19,go_sem],hp⟩
 have d0:((amd.length:Int)==0)=false:=by simpa using c0
 by_cases c1:32<amd.length
 ·have HST:=aa (yx (c:=4) cB.out gY.out (by rw [nI.out,if_neg c0,if_pos (.inl c1)]) (by decide))
  have d1:decide ((32:Int)<(amd.length:Int))=true:=by simp;omega
  clear c0;go_in;go_wp2_with fail;obtain ⟨s2,s3,hp⟩:=HST.out;exact ⟨rfl,.tuple #[.agg #[.slice none 0 0,.slice none 0 0],.int .i64 4],by simp [results,Tryz.results19,go_sem],hp⟩
 have d1:decide ((32:Int)<(amd.length:Int))=false:=by simp;omega
 by_cases c2:64<l.length
 ·have HST:=aa (yx (c:=4) cB.out gY.out (by rw [nI.out,if_neg c0,if_pos (.inr c2)]) (by decide))
  have d2:decide ((64:Int)<(l.length:Int))=true:=by simp;omega
  clear c0 c1;go_in;go_wp2_with fail;obtain ⟨s2,s3,hp⟩:=HST.out;exact ⟨rfl,.tuple #[.agg #[.slice none 0 0,.slice none 0 0],.int .i64 4],by simp [results,Tryz.results19,go_sem],hp⟩
 have d2:decide ((64:Int)<(l.length:Int))=false:=by simp;omega
 have IP:Hid (eR amd l=if bf (fI amd) amd.length≠0 then bf (fI amd) amd.length
  else if bf (fun k=>aV amd.length (gl l k)) l.length≠0 then bf (fun k=>aV amd.length (gl l k)) l.length
  else if 0<=iY l then 17 else 0):=by unfold Hid;rw [nI.out,if_neg c0,if_neg (by omega)]
 have Tz:0<amd.length:=by omega
 have IQ:amd.length<=32:=by omega
 have FI:l.length<=64:=by omega
 clear nI c0 c1 c2;have ve:Hid (∀k,k<amd.length->(∀j,j<k->fI amd j=0)->fI amd k≠0->eR amd l=fI amd k):=fun k hk hj h0=>by have h1:=eX hk hj h0;rw [IP.out,h1,if_pos h0]
 go_in;go_wp2_with fail;generalize w.alloc (.cells #[.slice none 0 0,.slice none 0 0] 39)=w1 at *
 go_loop [6,7,42] (fun _ _ i=>∃k:Nat,k<=amd.length/\i=.int .i64 k/\Hid (∀j,j<k->fI amd j=0)) (fun _ _ i=>amd.length - (intOf i).toNat)
 case atStart=>exact ⟨0,aF _,rfl,fun j hj=>absurd hj (aZ _)⟩
 case round =>
  obtain ⟨k,hk,rfl,hd⟩:=hrel;by_cases hlt:k<amd.length
  ·obtain ⟨Ei,no,rfl,hc⟩:=cH o5.out hlt
   have ij:=aa (WB (gs amd k) (HZ.out k) w1);have zh:Hid (Calls Tryz.prog 32 #[.slice (some ⟨Ei,no,none⟩) k cap,.string (gs amd k)] w1 fun e w'=>e=.returned (.bool (cW amd k))/\w1=w'):=by
    have h:=jU S w1 _ k (fun j=>gs amd j) (gs amd k) (E3 o5.out hk) (by omega)
    rwa [Rx] at h
   have zJ:=aa (ve.out k hlt hd.out);have zK:Hid (fI amd k=if bq (gs amd k).data.toList then (if cW amd k then 7 else 0) else 14):=rfl;generalize gs amd k=nm at *;generalize cW amd k=bs at *;generalize bq nm.data.toList=bn at *;cases bn
   ·have HE:Hid (fI amd k=14):=zK.out
    have HST:=aa (wO (c:=14) (ah _) cB.out gY.out ((zJ.out (by rw [HE.out];decide)).trans HE.out) (by decide));go_wp2_with (first | (go_at_call 73;refine ij.out.mono ?_;rintro e w' ⟨rfl,rfl⟩) | (go_at_call 32;refine zh.out.mono ?_;rintro e w' ⟨rfl,rfl⟩));obtain ⟨s2,s3,hp⟩:=HST.out;exact ⟨rfl,.tuple #[.agg #[.slice none 0 0,.slice none 0 0],.int .i64 14],by simp [results,Tryz.results19,go_sem,s2,s3],hp⟩
   ·cases bs
    ·have HE:Hid (fI amd k=0):=zK.out
     go_wp2_with (first | (go_at_call 73;refine ij.out.mono ?_;rintro e w' ⟨rfl,rfl⟩) | (go_at_call 32;refine zh.out.mono ?_;rintro e w' ⟨rfl,rfl⟩))
     go_round
     case rel=>exact ⟨k+1,by omega,by go_num,fun j hj=>if e:j=k then by subst e;exact HE.out else hd.out j (by omega)⟩
     case measure=>simp [intOf];omega
    ·have HE:Hid (fI amd k=7):=zK.out
     have HST:=aa (wO (c:=7) (ah _) cB.out gY.out ((zJ.out (by rw [HE.out];decide)).trans HE.out) (by decide));go_wp2_with (first | (go_at_call 73;refine ij.out.mono ?_;rintro e w' ⟨rfl,rfl⟩) | (go_at_call 32;refine zh.out.mono ?_;rintro e w' ⟨rfl,rfl⟩));obtain ⟨s2,s3,hp⟩:=HST.out;exact ⟨rfl,.tuple #[.agg #[.slice none 0 0,.slice none 0 0],.int .i64 7],by simp [results,Tryz.results19,go_sem,s2,s3],hp⟩
  ·obtain rfl:k=amd.length:=by omega
   have zL:Hid (eR amd l=if bf (fun k=>aV amd.length (gl l k)) l.length≠0 then bf (fun k=>aV amd.length (gl l k)) l.length
     else if 0<=iY l then 17 else 0):=by
    unfold Hid;rw [IP.out,if_neg (by rw [cG hd.out];decide)]
   have ij:Hid (∀j,j<amd.length->fI amd j=0):=hd.out;clear hlt hk hd IP ve;(have kU:Hid (∀k,k<l.length->(∀j,j<k->aV amd.length (gl l j)=0)->aV amd.length (gl l k)≠0->eR amd l=aV amd.length (gl l k)):=fun k hk hj h0=>by have h1:=eX (f:=fun k=>aV amd.length (gl l k)) hk hj h0;rw [zL.out,h1,if_pos h0]);go_wp2
   go_loop [10,11,62] (fun _ _ i=>∃k:Nat,k<=l.length/\i=.int .i64 k/\Hid (∀j,j<k->aV amd.length (gl l j)=0)) (fun _ _ i=>l.length - (intOf i).toNat)
   case atStart=>exact ⟨0,aF _,rfl,fun j hj=>absurd hj (aZ _)⟩
   case round =>
    obtain ⟨k,hk,rfl,hd⟩:=hrel;by_cases hlt:k<l.length
    ·obtain ⟨b,off,q,c,rfl,hc,hi⟩:=eZ Rz.out hlt
     have gw:=aa (DA _ w1 _ (amd.length:Int) (gl l k) hi (HR.out k));have ahj:=aa (kU.out k hlt hd.out);have k1:(0:Int)<=(k:Int):=vP _;(have k2:(k:Int)<(l.length:Int):=by omega);have HEK:Hid (∀z,aV amd.length (gl l k)=z->z=aV amd.length (gl l k)):=fun z e=>e.symm;clear hi;by_cases e0:aV amd.length (gl l k)=0
     ·have HE:=aa e0
      rw [e0] at gw;clear e0 HEK;go_wp2_with (first | (go_at_call 65;refine gw.out.mono ?_;rintro e w' ⟨rfl,rfl⟩))
      go_round
      case rel=>exact ⟨k+1,by omega,by go_num,fun j hj=>if e:j=k then by subst e;exact HE.out else hd.out j (by omega)⟩
      case measure=>simp [intOf];omega
     ·have HST:=aa (wO (c:=aV amd.length (gl l k)) (ah _) cB.out gY.out (ahj.out e0) e0)
      (have g1:(aV amd.length (gl l k) != 0)=true:=by simpa using e0);clear e0 HEK ahj;generalize aV amd.length (gl l k)=gc at *;go_wp2_with (first | (go_at_call 65;refine gw.out.mono ?_;rintro e w' ⟨rfl,rfl⟩));obtain ⟨s2,s3,hp⟩:=HST.out;exact ⟨rfl,.tuple #[.agg #[.slice none 0 0,.slice none 0 0],.int .i64 gc],by simp [results,Tryz.results19,go_sem,s2,s3],hp⟩
    ·obtain rfl:k=l.length:=by omega
     (have acq:Hid (eR amd l=if 0<=iY l then 17 else 0):=by unfold Hid;rw [zL.out,if_neg (by rw [cG hd.out];decide)]);have D1:=aa (ahg _ w1 _ l Rz.out (fun k hk=>(qh.1 (hd.out k hk)).set) (by omega));have zb:Hid (Eg l=decide (iY l<0)):=rfl;clear hlt hk hd zL kU;generalize Eg l=pb at *;cases pb
     ·have HX:Hid (eR amd l=17):=by
       unfold Hid;rw [acq.out,if_pos]
       have:=of_decide_eq_false zb.out.symm;omega
      go_wp2_with fail
      refine D1.out.mono ?_
      rintro e w2 ⟨rfl,aI⟩
      have lG:=(bH aI w.heap.size (by rw [sA.out];omega)).trans gY.out
      obtain ⟨q0,q1,q2,q3⟩:=boxed lG
      have HST:=aa (wO (c:=17) (ah _) (cB.out.trans aI) lG HX.out (by decide))
      clear lG aI
      go_wp2_with fail
      obtain ⟨s2,s3,hp⟩:=HST.out
      exact ⟨rfl,.tuple #[.agg #[.slice none 0 0,.slice none 0 0],.int .i64 17],by simp [results,Tryz.results19,go_sem,s2,s3],hp⟩
     ·have HX:Hid (eR amd l=0):=by
       unfold Hid;rw [acq.out,if_neg]
       have:=of_decide_eq_true zb.out.symm;omega
      have pW:=aa (Fs.1 HX.out)
      clear acq ij zb
      go_wp2_with fail
      refine D1.out.mono ?_
      rintro e w2 ⟨rfl,aI⟩
      have lG:=(bH aI w.heap.size (by rw [sA.out];omega)).trans gY.out
      have b7:=aa (cB.out.trans aI)
      have vu:=aa lG
      have oB:=aa (aj.keep o5.out (aI.kept S))
      have A2:=aa (aT.keep Rz.out (aI.kept _))
      have sH:Hid (w.heap.size<w2.heap.size):=by have h1:=aI.size;rw [sA.out] at h1;exact h1
      clear lG aI cB gY o5 Rz sA D1 q0 q1 q2 q3
      obtain ⟨Ei,no,rfl,hc0⟩:=cH oB.out Tz
      rw [mZ] at hc0
      obtain ⟨q0,q1,q2,q3⟩:=boxed vu.out
      by_cases n1:amd.length=1
      ·have d3:((amd.length:Int)==1)=true:=by simp [n1]
       obtain ⟨t1,t2,t3⟩:=rG w2 (.int .i64 (-1)) (.string (gs amd 0)) 3 9
       have hb3:=(bH t1 w.heap.size sH.out).trans vu.out
       have HST:=aa (gz (w:=w) (p:=.slice (some ⟨w2.heap.size,0,none⟩) 1 1) (q:=.slice (some ⟨w2.heap.size+1,0,none⟩) 1 1) hb3 (ah _) (b7.out.trans t1))
       have H3:=aa (⟨t2,t3⟩:_/\_)
       have hres:jN amd l=⟨[-1],[gs amd 0]⟩:=by unfold jN zG;rw [if_pos HX.out,if_pos n1]
       have DB:=aa hres
       have hq:=t1.cell hc0
       have hq':=(Up.alloc w2 (.cells #[.int .i64 (-1)] 3)).cell hc0
       obtain ⟨q0,q1,q2,q3⟩:=boxed hb3
       have n1':(0:Int)<(amd.length:Int):=by omega
       clear n1 t1 t2 t3 hb3 hres
       go_wp2_with fail
       obtain ⟨s1,s2,s3,s4⟩:=HST.out
       have hsz:=sH.out
       refine ⟨rfl,.tuple #[.agg #[.slice (some ⟨w2.heap.size,0,none⟩) 1 1,.slice (some ⟨w2.heap.size+1,0,none⟩) 1 1],.int .i64 0],by simp [results,Tryz.results19,go_sem,s2,s3],s1,_,by rw [HX.out],?_⟩
       rw [DB.out]
       exact ⟨_,_,rfl,LA ((cU (a:=⟨w2.heap.size,0,none⟩) (s4 w2.heap.size (Nat.ne_of_gt hsz))).trans H3.out.1),UO ((cU (a:=⟨w2.heap.size+1,0,none⟩) (s4 (w2.heap.size+1) (by omega))).trans H3.out.2)⟩
      have d3:((amd.length:Int)==1)=false:=by simp;omega
      have cR:=Up.alloc w2 (.cells #[.slice none 0 0,.slice none 0 0] 39)
      have xE:GS w2.heap.size (w2.heap.size+1) (w2.alloc (.cells #[.slice none 0 0,.slice none 0 0] 39)) (.slice none 0 0) (.slice none 0 0) ⟨[],[]⟩ :=
       ⟨iN,⟨au.nil _ _ _,au.nil _ _ _,fun b hb=>(by cases hb)⟩,by omega,by rw [aQ];exact ah _⟩
      have eW:=aa cR
      have oH:=aa xE
      clear cR xE q0 q1 q2 q3
      go_wp2_with fail
      generalize w2.alloc (.cells #[.slice none 0 0,.slice none 0 0] 39)=w3 at *
      refine (Gh w2.heap.size (w2.heap.size+1) ⟨[],[]⟩ (-1) ByteArray.empty w3 _ _ oH.out rfl (by decide)).mono ?_
      rintro e w4 ⟨rfl,P4,N4,hG4,hK4⟩
      have gU:Up w2 w4:=hK4.UJ oH.out eW.out (ah _)
      have TX:=gU.cell hc0
      have Pk:=aa hG4
      have k7:=aa gU
      clear hG4 hK4 gU oH eW hc0
      go_wp2_with fail
      refine (Gh w2.heap.size (w2.heap.size+1) _ 0 (gs amd 0) w4 _ _ Pk.out rfl (by decide)).mono ?_
      rintro e w5 ⟨rfl,P5,N5,hG5,hK5⟩
      have gJ:Up w2 w5:=hK5.UJ Pk.out k7.out (ah _)
      have UQ:=aa hG5
      have kK:=aa gJ
      clear hG5 hK5 Pk k7 TX
      by_cases n2:amd.length=2
      ·have d4:((amd.length:Int)==2)=true:=by simp [n2]
       have acr:=aa n2
       obtain ⟨nb1,no1,e1,hc1⟩:=cH oB.out (show 1<amd.length by omega)
       injection e1 with e1;injection e1 with e1 e2;subst e1;subst e2
       have hc5:=gJ.cell hc1
       have n2':(1:Int)<(amd.length:Int):=by omega
       clear hc1 gJ n2
       go_wp2_with fail
       refine (Gh w2.heap.size (w2.heap.size+1) _ 0 (gs amd 1) w5 _ _ UQ.out rfl (show 2+1<=1000000 by decide)).mono ?_
       rintro e w6 ⟨he,P6,N6,A3,Zs⟩
       have he:e=.returned (.int .i64 2):=he
       subst he
       have ir:Up w2 w6:=Zs.UJ UQ.out kK.out (ah _)
       obtain ⟨tc0,tc1,_,_⟩:=A3.cells
       have A3:GS w2.heap.size (w2.heap.size+1) w6 P6 N6 ⟨[-1,0,0],[ByteArray.empty,gs amd 0,gs amd 1]⟩:=A3
       have Zt:aG (fun b=>w2.heap.size+1<=b) w6 (.agg #[P6,N6]) ⟨[-1,0,0],[ByteArray.empty,gs amd 0,gs amd 1]⟩:=⟨P6,N6,rfl,A3.tl.cn.ints,A3.tl.cD.strs⟩
       have jD:=aa (y5 _ w6 _ _ Zt (show 3<=1000000 by decide) (show 3<=1000000 by decide) (fun k=>Nmd.gs (Q:=fun s=>s.size<=70000) (by
        intro s hs
        rcases bA.1 hs with rfl | hs
        ·decide
        rcases bA.1 hs with rfl | hs
        ·exact HZ.out 0
        rcases bA.1 hs with rfl | hs
        ·exact HZ.out 1
        ·cases hs) (by decide) k))
       have Dq:=(bH ir w.heap.size sH.out).trans vu.out
       have Lr:=aa Dq
       have uY:=aa ir
       have RA:Hid (w.heap.size<w6.heap.size):=iI sH.out ir.size
       have wE:Hid (aA ⟨[-1,0,0],[ByteArray.empty,gs amd 0,gs amd 1]⟩=0):=((IK pW.out acr.out).Ww IQ).te
       have DB:Hid (jN amd l=kW ⟨[-1,0,0],[ByteArray.empty,gs amd 0,gs amd 1]⟩):=by unfold Hid jN zG;rw [if_pos HX.out,if_neg (by have:=acr.out;omega),if_pos acr.out]
       clear ir A3 Zs Zt Dq UQ kK hc5 n2'
       go_wp2_with fail
       refine jD.out.mono ?_
       rintro e w8 ⟨iH,⟨hte,rfl⟩ | ⟨hte,cv,rfl,P8,N8,rfl,AV,sY⟩⟩
       ·exact absurd wE.out hte
       obtain ⟨p8,c8,rfl,_,_⟩:=aq.open AV
       obtain ⟨n8,d8,rfl,_,_⟩:=aq.open sY
       have IU:=(bH iH w.heap.size RA.out).trans Lr.out
       obtain ⟨q0,q1,q2,q3⟩:=boxed IU
       have iy:=aa (Ry RA.out IU ((b7.out.trans uY.out).trans iH) AV sY HX.out DB.out)
       clear IU iH hte AV sY
       go_wp2_with fail
       obtain ⟨s2,s3,hp⟩:=iy.out
       exact ⟨rfl,.tuple #[.agg #[.slice p8 _ c8,.slice n8 _ d8],.int .i64 0],by simp [results,Tryz.results19,go_sem,s2,s3],hp⟩
      ·have d4:((amd.length:Int)==2)=false:=by simp;omega
       have HN3:Hid (3<=amd.length):=by unfold Hid;omega
       clear n1 n2
       go_wp2_with fail
       refine (Gh w2.heap.size (w2.heap.size+1) _ 0 ByteArray.empty w5 _ _ UQ.out rfl (show 2+1<=1000000 by decide)).mono ?_
       rintro e w6 ⟨he,P6,N6,A3,Zs⟩
       have he:e=.returned (.int .i64 2):=he
       subst he
       have ir:Up w2 w6:=Zs.UJ UQ.out kK.out (ah _)
       have UR:Hid (GS w2.heap.size (w2.heap.size+1) w6 P6 N6 (bQ amd (aJ l) 0 0)):=A3
       have uY:=aa ir
       have G7:=aa (Up.alloc w6 (.cells #[.int .i64 2] 3))
       have oZ:=aa (Fx (fun b=>b<w.heap.size) (w6.alloc (.cells #[.int .i64 2] 3)) _ l (aT.keep A2.out ((ir.trans G7.out).kept _)) oL)
       have Ud:=aa (blk_alloc_new w6 (.cells #[.int .i64 2] 3))
       have HS7:Hid ((w6.alloc (.cells #[.int .i64 2] 3)).heap.size=w6.heap.size+1):=aQ _ _
       clear A3 Zs ir gJ UQ kK
       go_wp2_with fail
       generalize w6.alloc (.cells #[.int .i64 2] 3)=w7 at *
       refine oZ.out.mono ?_
       rintro e w8 ⟨iH,ov,vals,rfl,hvl,wK,hrow⟩
       have iH:Up w7 w8:=iH
       obtain ⟨oq,oc,rfl,_⟩:=wK.form (n:=l.length) hvl
       have qK:=Up.alloc w8 (.cells #[.slice oq l.length oc] 23)
       have l8:=iH.size
       have ajS:Hid (w7.heap.size<=w8.heap.size):=iH.size
       have l78:=HS7.out
       have lg6:=UR.out.lo
       have ajT:=sH.out
       have ahk:=wK.alloc (.cells #[.slice oq l.length oc] 23)
       obtain ⟨ps,hR9,hm9,hI9⟩:=Zr (k:=w.heap.size) ahk hvl (fun i hi=>af.keep (hrow i hi) (qK.kept _)) (by omega)
       have hpl:ps.length=l.length:=by rw [<- hm9,aD]
       have hrl:∀p∈ps,p.1.length<=1000000:=fun p hp=>by
        have h1:p.1∈l:=by rw [<- hm9];exact List.mem_map_of_mem hp
        obtain ⟨k,hk,e⟩:=Ds h1
        rw [<- e];exact HR.out k
       have zm:=Kf (cf:=kO) NB (fun h=>tT h) AY (fun h k=>Kk h k) 78 #[] (enters_of Tryz.func78 (by kernel_rfl) rfl) hR9 (by omega) (fun p hp q hq W' qU=>by
        have hk:∀s∈ps,af Any W' s.2 s.1:=fun s hs=>(aq.keep (hR9.row s hs) fun b hb hbl=>qU.block b hbl fun e=>hb e.symm).sub fun _ _ _=>trivial
        exact ahd Any Any W' p.2 q.2 p.1 q.1 (hk p hp) (hk q hq) (hrl p hp) (hrl q hq))
       have kJ:=aa zm
       have ahl:=aa (blk_alloc_new w8 (.cells #[.slice oq l.length oc] 23))
       have WC:=aa ((G7.out.trans iH).trans qK)
       have acs:=aa ((bH (iH.trans qK) w6.heap.size (by omega)).trans Ud.out)
       have HR9:=aa hR9
       have HM9:=aa hm9
       have HI9:=aa hI9
       have pV:=aa hrl
       have eC:=aa hpl
       have NH:=aa wK
       have HS9:Hid ((w8.alloc (.cells #[.slice oq l.length oc] 23)).heap.size=w8.heap.size+1):=aQ _ _
       clear zm iH qK wK hvl hrow ahk hR9 hm9 hI9 hrl hpl oZ G7 Ud l8 l78 lg6 ajT
       go_wp2_with fail
       generalize w8.alloc (.cells #[.slice oq l.length oc] 23)=w9 at *
       refine kJ.out.mono ?_
       rintro e A4 ⟨rfl,zM,FJ,BK,RB,acu,RD⟩
       have RF:∀g,(Value.slice oq l.length oc).ownBlock=some g->w7.heap.size<=g/\g<w8.heap.size:=fun g hg=>av NH.out hg
       have WD:A4.heap[w8.heap.size]? = some (Obj.cells #[.slice oq l.length oc] 23 (0,0)):=(zM.block _ (by have:=HS9.out;omega) fun e=>by have:=RF _ e.symm;omega).trans ahl.out
       have DT:A4.cell? ⟨w8.heap.size,0,none⟩=some (.slice oq l.length oc):=by simp [World.cell?,WD]
       have hS7:=HS7.out
       have ahm:Up w6 A4:=Below.grown WC.out zM WC.out.size fun k hk=>by have:=RF k hk;omega
       have Gi:=(zM.block w6.heap.size (by have:=WC.out.size;have:=HS9.out;have:=(fq.1 acs.out).1;omega) fun e=>by have:=RF _ e.symm;omega).trans acs.out
       have WE:FJ.length=l.length:=by have:=BK.length_eq;rw [aD,aD,eC.out] at this;exact this
       have TZ:FJ.map (·.1)=Dt l:=Wu (by rw [HM9.out] at BK;exact BK) RB
       have ahn:∀p∈FJ,af (fun b=>b<w.heap.size) A4 p.2 p.1:=fun p hp=>af.keep (HI9.out p (RD p hp)) fun b hb hbl=>zM.block b hbl fun e=>by
        have:=RF _ e.symm;have:=sH.out;have:=UR.out.lo;omega
       have uk:=aa (D6 acu (by omega) (fun p hp=>pV.out p (RD p hp)))
       have WG:=aa WD
       have FK:=aa ahm
       have WH:=aa Gi
       have HSQ:=aa TZ
       have aho:=aa ahn
       have RG:=aa acu
       have al6:=aa WE
       clear zM BK RB acu RD RF WD ahm Gi WE TZ ahn hS7 kJ ahl WC acs HR9 HM9 HI9
       go_wp2_with fail
       refine uk.out.mono ?_
       rintro e fZ ⟨BL,v11,RH,rfl,BM,WI,Zu⟩
       rw [HSQ.out] at BM
       have BM:RH.map (·.1)=aJ l:=BM
       have Zv:(RH.map (·.2)).length=(aJ l).length:=by rw [<- BM];simp
       obtain ⟨UT,c11,rfl,_⟩:=WI.own.form Zv
       have hS7:=HS7.out
       have RI:∀g,(Value.slice oq l.length oc).ownBlock=some g->w7.heap.size<=g/\g<w8.heap.size:=fun g hg=>av NH.out hg
       have ahp:Up w6 fZ:=Below.grown FK.out BL FK.out.size fun k hk=>by have:=RI k hk;omega
       have WJ:fZ.heap[w8.heap.size]? = some (Obj.cells #[.slice oq l.length oc] 23 (0,0)):=(BL.block _ (fq.1 WG.out).1 fun e=>by have:=RI _ e.symm;omega).trans WG.out
       have adY:=(BL.block w6.heap.size (fq.1 WH.out).1 fun e=>by have:=RI _ e.symm;omega).trans WH.out
       have ahq:∀p∈RH,af (fun b=>b<w2.heap.size) fZ p.2 p.1:=fun p hp=>(af.keep (aho.out p (Zu p hp)) fun b hb hbl=>BL.block b hbl fun e=>by
        have:=RI _ e.symm;have:=sH.out;have:=UR.out.lo;omega).sub fun b hb _=>Nat.lt_trans hb sH.out
       have adZ:(Value.slice UT (aJ l).length c11).ownBlock≠some w8.heap.size:=fun e=>by
        obtain ⟨c,h⟩:=au.kL WI.own e
        rw [WJ] at h
        injection h with h;injection h with _ h _
        exact absurd h (by decide)
       have l78:=ajS.out
       obtain ⟨hst,HAX,acv⟩:=AX.start UR.out rfl (by omega) (by omega) ahp adY WJ WI BM ahq adZ
       obtain ⟨b1,b2⟩:=hst
       have HAX:=aa HAX
       have ajU:=aa (UR.out.up acv)
       have ajV:=aa (uY.out.trans acv)
       obtain ⟨_,b4,_,_⟩:=HAX.out.cells
       clear BL BM WI Zu Zv hS7 RI ahp WJ adY ahq adZ l78 acv uk DT WG FK WH HSQ aho RG UR uY
       have Hy:Hid (∀k,k<(aJ l).length->Dn amd.length (gl (aJ l) k)):=fun k hk=>pW.out.own hk
       have Ng:Hid ((aJ l).length<=64):=aB (ab9 l) FI
       have wP:Hid (3+(aJ l).length+(amd.length - 1)<=64):=FE pW.out HN3.out
       have Fc:Hid (aA (bT amd (aJ l))=0):=((Dw pW.out HN3.out wP.out).Ww IQ).te
       have DB:Hid (jN amd l=kW (bT amd (aJ l))):=by unfold Hid jN zG;rw [if_pos HX.out,if_neg (by have:=HN3.out;omega),if_neg (by have:=HN3.out;omega)]
       have ahr:Hid (∀k,(gs (bT amd (aJ l)).ns k).size<=70000):=fun k=>Nmd.gs (Q:=fun s=>s.size<=70000) (by
        intro s hs
        rcases ey.1 hs with hs | hs
        ·rcases bA.1 hs with rfl | hs
         ·decide
         rcases bA.1 hs with rfl | hs
         ·exact HZ.out 0
         rcases bA.1 hs with rfl | hs
         ·decide
         ·cases hs
        ·rcases ey.1 hs with hs | hs
         ·rw [List.eq_of_mem_replicate hs];decide
         ·obtain ⟨b,_,rfl⟩:=bI.1 hs
          exact HZ.out (b+1)) (by decide) k
       have oM:Hid (∀j m,(bQ amd (aJ l) j m).ps.length=3+j+m/\(bQ amd (aJ l) j m).ns.length=3+j+m):=ahf amd (aJ l)
       have HBO:Hid (∀j,(bQ amd (aJ l) j 0).push (fk (aJ l) (gi (gl (aJ l) j) 0) j) ByteArray.empty=bQ amd (aJ l) (j+1) 0):=ahe amd (aJ l)
       have UU:Hid (∀m,(bQ amd (aJ l) (aJ l).length m).push (fk (aJ l) ((m+1:Nat):Int) (aJ l).length) (gs amd (m+1))=bQ amd (aJ l) (aJ l).length (m+1)):=ae2 amd (aJ l) _
       have HBA:Hid (bQ amd (aJ l) (aJ l).length (amd.length - 1)=bT amd (aJ l)):=rfl
       go_wp2_with fail
       generalize (fZ.setCell ⟨w8.heap.size,0,none⟩ (Value.slice UT (aJ l).length c11)).alloc (.cells #[.slice none 0 0] 26)=w13 at *
       generalize aJ l=own at *
       clear b1 b2 b4
       go_loopw [22,23,124] (fun _ _ i wr=>∃(k:Nat) (P N nv:Value),k<=own.length/\i=.int .i64 k/\Hid (GS w2.heap.size (w2.heap.size+1) wr P N (bQ amd own k 0))/\Hid (AX w2.heap.size w6.heap.size w8.heap.size fZ.heap.size wr P N (.slice UT own.length c11) nv own ((List.range k).map fun j=>((3+j:Nat):Int)))/\Hid (Up w2 wr)) (fun _ _ i _=>own.length - (intOf i).toNat)
       case atStart=>exact ⟨0,_,_,_,aF _,rfl,ajU.out,HAX.out,ajV.out⟩
       case round =>
        obtain ⟨k,P,N,nv,hk,rfl,hG,hA,hU⟩:=hrel
        obtain ⟨wo,rfl⟩:=eM wr
        by_cases hlt:k<own.length
        ·obtain ⟨b,off,q,c,rfl,hc,hi⟩:=eZ hA.out.rows hlt
         have hsp:=(Hy.out k hlt).len
         obtain ⟨q',c',e,hn',h0 | ⟨b2,off2,rfl,hT,hcs⟩⟩:=hi
         ·omega
         injection e with e1 _ _
         subst e1
         have hc2:wo.cell? ⟨b2,off2,none⟩=some (.int .i64 (gi (gl own k) 0)):=hcs 0 (by omega)
         have HT:=aa hT
         have lZ:=aa hc2
         have l2:(0:Int)<((gl own k).length:Int):=by omega
         have l3:0<(gl own k).length:=by omega
         have i1:(0:Int)<=(k:Int):=by omega
         have i2:(k:Int)<(own.length:Int):=by omega
         obtain ⟨_,_,hnv,_⟩:=hA.out.cells
         have qE:Hid (∀W P' N',GK w2.heap.size wo W P N P' N'->W.cell? ⟨fZ.heap.size,0,none⟩=some nv/\W.cell? ⟨b2,off2,none⟩=some (.int .i64 (gi (gl own k) 0))):=fun W P' N' hK =>
          ⟨((hA.out.gk hK).cells).2.2.1,(cU (a:=⟨b2,off2,none⟩) (hK.block b2 (dL wo _ lZ.out) HT.out.1 HT.out.2.2.1 HT.out.2.2.2.1)).trans lZ.out⟩
         have Ks:=hA.out.up (jh wo)
         obtain ⟨y1,y2,y3,_⟩:=Ks.cells
         have uT:=aa (NF Any wo.drew w8.heap.size fZ.heap.size w6.heap.size _ nv own ((List.range k).map fun j=>((3+j:Nat):Int)) (gi (gl own k) 0) k y2 (Ks.rows.sub fun _ _ _=>trivial) y3 (Ks.oG.ints.sub fun _ _ _=>trivial) y1 hk (by simp) (fun j hj=>by simp [gi,hj]) (by have:=Ng.out;omega) (fun j=>by
          by_cases hj:j<own.length
          ·have:=(Hy.out j hj).len;have:=IQ;omega
          ·simp [gl,show own.length<=j by omega]))
         have HAD:=aa (Gh w2.heap.size (w2.heap.size+1) (bQ amd own k 0) (fk own (gi (gl own k) 0) k) ByteArray.empty wo.drew P N (hG.out.up (jh wo)) (by rw [(oM.out k 0).1,(oM.out k 0).2]) (by rw [(oM.out k 0).1];have:=Ng.out;omega))
         rw [HBO.out,(oM.out k 0).1,mZ] at HAD
         have aR:=aa hlt
         have GJ:=aa hG.out
         have Zw:=aa hA.out
         have EO:=aa hU.out
         have pX:Hid (k<=64):=by have:=Ng.out;unfold Hid;omega
         clear hsp hn' hT hcs hc2 Ks y1 y2 y3 hG hA hU hk hlt
         generalize gi (gl own k) 0=x at *
         generalize fk own x k=z at *
         go_wp2_with fail
         refine fR (by kernel_rfl) 11 (fun w'=>w'.cell? ⟨fZ.heap.size,0,none⟩=some nv/\w'.cell? ⟨b2,off2,none⟩=some (.int .i64 x)) (qE.out _ _ _ (GK.F7 (jh wo))) (fun hS=>?_)
         simp only [dY,aW,dw,Nat.reduceAdd,iu,iw,dX,di,cm]
         refine az.kG 0 1 2 3 hS ?_
         try simp only [Act.put,aL,aM,aN]
         refine az.xk 4 5 hS ?_
         try simp only [Act.put,aL,aM,aN]
         refine az.tk 6 hS ?_
         try simp only [Act.put,aL,aM,aN]
         refine az.st 7 fun K' hK=>?_
         go_simp
         refine uT.out.mono ?_
         rintro e w3' ⟨rfl,rfl⟩
         refine hK.out _ _ (fun _=>hS) (fun hS=>?_)
         replace hS:=hS ⟨10,by decide,rfl⟩
         try simp only [aL,aM,aN]
         refine az.st 8 fun K' hK=>?_
         go_simp
         refine HAD.out.mono ?_
         rintro e Zx ⟨rfl,P14,N14,RJ,RL⟩
         have NI:GK w2.heap.size wo Zx P N P14 N14:=(GK.F7 (jh wo)).trans RL
         have acw:=aa (Zw.out.gk NI)
         have acy:=aa (NI.UJ GJ.out EO.out (ah _))
         have acz:=aa RJ
         have ahs:=aa NI
         clear RJ RL NI
         refine hK.out _ _ (fun _=>qE.out _ _ _ ahs.out) (fun hS=>?_)
         replace hS:=hS ⟨10,by decide,rfl⟩
         try simp only [aL,aM,aN]
         refine az.st 9 fun K' hK=>?_
         go_simp
         have RM:=Up.alloc Zx (.cells #[.int .i64 ((3+k:Nat):Int)] 3)
         have acA:=aa (acw.out.up RM)
         have ajW:=aa (acz.out.up RM)
         have ajX:=aa (acy.out.trans RM)
         have ajY:=aa (ahs.out.up RM)
         clear RM
         refine hK.out _ _ (fun _=>qE.out _ _ _ ajY.out) (fun hS=>?_)
         replace hS:=hS ⟨10,by decide,rfl⟩
         try simp only [aL,aM,aN]
         refine az.st 10 fun K' hK=>?_
         refine fL (by rfl) _ _ _ (by rfl) (fZ.heap.size+1) 3 _ 8 Tryz.underlying26 Tryz.iD (by rfl) (by decide) (by rfl) acA.out.oG (.int .i64 ((3+k:Nat):Int)) Zx.heap.size (by rfl) (mA _ _ _) (by rfl) (by simp;have:=pX.out;omega) acA.out.lt.2.2.2 ?_
         intro g16 c16 w16 aht ahu ahv _
         obtain ⟨⟨y1,y2⟩,acB,acC,acD⟩:=acA.out.app ajW.out aht ahu (fun b hb=>by
          have hb:some g16=some b:=hb
          injection hb with hb
          rcases ahv with h | h
          ·exact .inl (hb ▸ h)
          ·exact .inr (fD (h.symm.trans hb)))
         simp only [aD,vQ] at acB acC acD
         have ajZ:=aa acB
         have aj0:=aa acC
         have aj1:=aa (acD w2 ajX.out (ah _))
         clear aht ahu ahv acB acC acD
         refine hK.out _ _ (bF ·) (fun _=>?_)
         try simp only [Act.put,aL,aM,aN]
         refine az.st 11 fun K' hK=>?_
         go_simp
         refine hK.out _ _ (bF ·) (fun _=>?_)
         refine az.done (by kernel_rfl) ?_
         have k64:=pX.out
         have al7:=aR.out
         go_wp2
         go_roundw
         case rel=>exact ⟨k+1,_,_,_,Nat.succ_le_of_lt aR.out,by go_num,aj0,(by have h:=ajZ.out;rw [show (List.range (k+1)).map (fun j=>((3+j:Nat):Int))=(List.range k).map (fun j=>((3+j:Nat):Int))++[((3+k:Nat):Int)] by rw [pU,cg];rfl];exact aa h),aj1⟩
         case measure=>have:=aR.out;simp [intOf];omega
        ·obtain rfl:k=own.length:=by omega
         have GJ:=aa hG.out
         have Zw:=aa hA.out
         have EO:=aa hU.out
         clear hG hA hU hlt hk
         go_wp2
         go_loopw [24] (fun i wr=>∃(q m:Nat) (P N:Value),q<=amd.length/\q=m+1/\i=.int .i64 (q:Int)/\Hid (GS w2.heap.size (w2.heap.size+1) wr P N (bQ amd own own.length m))/\Hid (AX w2.heap.size w6.heap.size w8.heap.size fZ.heap.size wr P N (.slice UT own.length c11) nv own ((List.range own.length).map fun j=>((3+j:Nat):Int)))/\Hid (Up w2 wr)) (fun i _=>amd.length - (intOf i).toNat)
         case atStart=>exact ⟨1,0,P,N,Tz,rfl,rfl,GJ.out,Zw.out,EO.out⟩
         case round =>
          obtain ⟨q,m,P',N',hq,hqm,rfl,hG,hA,hU⟩:=hrel
          obtain ⟨wo,rfl⟩:=eM wr
          by_cases hlt:q<amd.length
          ·obtain ⟨nb',no',e1,hc1⟩:=cH oB.out hlt
           injection e1 with e1;injection e1 with e1 e2;subst e1;subst e2
           have hc1:=hU.out.cell hc1
           have Ks:=hA.out.up (jh wo)
           obtain ⟨y1,y2,y3,_⟩:=Ks.cells
           have i1:(0:Int)<=(q:Int):=by omega
           have i2:(q:Int)<(amd.length:Int):=by omega
           have qE:Hid (wo.drew.cell? ⟨w8.heap.size,0,none⟩=some (.slice UT own.length c11)/\wo.drew.cell? ⟨Ei,no+q,none⟩=some (.string (gs amd q))):=⟨y2,(jh wo).cell hc1⟩
           have uT:=aa (NF Any wo.drew w8.heap.size fZ.heap.size w6.heap.size _ nv own ((List.range own.length).map fun j=>((3+j:Nat):Int)) (q:Int) own.length y2 (Ks.rows.sub fun _ _ _=>trivial) y3 (Ks.oG.ints.sub fun _ _ _=>trivial) y1 (ah _) (by simp) (fun j hj=>by simp [gi,hj]) (by have:=Ng.out;omega) (fun j=>by
            by_cases hj:j<own.length
            ·have:=(Hy.out j hj).len;have:=IQ;omega
            ·simp [gl,show own.length<=j by omega]))
           have HAD:=aa (Gh w2.heap.size (w2.heap.size+1) (bQ amd own own.length m) (fk own (q:Int) own.length) (gs amd q) wo.drew P' N' (hG.out.up (jh wo)) (by rw [(oM.out own.length m).1,(oM.out own.length m).2]) (by rw [(oM.out own.length m).1];have:=Ng.out;omega))
           rw [show (bQ amd own own.length m).push (fk own (q:Int) own.length) (gs amd q)=bQ amd own own.length (m+1) by rw [hqm];exact UU.out m] at HAD
           have aR:=aa hlt
           have HQM:=aa hqm
           have GJ:=aa hG.out
           have Zw:=aa hA.out
           have EO:=aa hU.out
           clear hc1 Ks y1 y2 y3 hG hA hU hlt hqm hq
           generalize fk own (q:Int) own.length=z at *
           generalize gs amd q=nm at *
           go_wp2_with fail
           refine fR (by kernel_rfl) 11 (fun w'=>w'.cell? ⟨w8.heap.size,0,none⟩=some (.slice UT own.length c11)/\w'.cell? ⟨Ei,no+q,none⟩=some (.string nm)) qE.out (fun hS=>?_)
           simp only [dY,aW,dw,Nat.reduceAdd,iu,iw,dX,di,cm]
           refine az.kG 0 1 2 3 hS ?_
           try simp only [Act.put,aL,aM,aN]
           refine az.kG 4 6 7 8 hS ?_
           try simp only [Act.put,aL,aM,aN]
           refine az.tk 9 hS ?_
           try simp only [Act.put,aL,aM,aN]
           refine az.st 5 fun K' hK=>?_
           go_simp
           refine uT.out.mono ?_
           rintro e w3' ⟨rfl,rfl⟩
           refine hK.out _ _ (fun _=>hS) (fun hS=>?_)
           replace hS:=hS ⟨10,by decide,rfl⟩
           try simp only [aL,aM,aN]
           refine az.st 10 fun K' hK=>?_
           go_simp
           refine HAD.out.mono ?_
           rintro e Zx ⟨rfl,P14,N14,RJ,RL⟩
           have NI:GK w2.heap.size wo Zx P' N' P14 N14:=(GK.F7 (jh wo)).trans RL
           have acw:=aa (Zw.out.gk NI)
           have acy:=aa (NI.UJ GJ.out EO.out (ah _))
           have acz:=aa RJ
           clear RJ RL NI
           refine hK.out _ _ (bF ·) (fun _=>?_)
           refine az.done (by kernel_rfl) ?_
           go_wp2
           go_roundw
           case rel=>exact ⟨q+1,m+1,_,_,aR.out,by have:=HQM.out;omega,by go_num,acz,acw,acy⟩
           case measure=>have:=aR.out;simp [intOf];omega
          ·obtain rfl:q=amd.length:=by omega
           have e1:m=amd.length - 1:=by omega
           have A3:GS w2.heap.size (w2.heap.size+1) wo P' N' (bT amd own):=by have h:=hG.out;rw [e1,HBA.out] at h;exact h
           obtain ⟨tc0,tc1,_,_⟩:=A3.cells
           have Zt:aG (fun b=>w2.heap.size+1<=b) wo (.agg #[P',N']) (bT amd own):=⟨P',N',rfl,A3.tl.cn.ints,A3.tl.cD.strs⟩
           have jD:=aa (y5 _ wo _ _ Zt (by rw [<- HBA.out,(oM.out _ _).1];have:=wP.out;omega) (by rw [<- HBA.out,(oM.out _ _).2];have:=wP.out;omega) ahr.out)
           have Dq:=(bH hU.out w.heap.size sH.out).trans vu.out
           have Lr:=aa Dq
           have uY:=aa hU.out
           have RA:Hid (w.heap.size<wo.heap.size):=iI sH.out hU.out.size
           clear hG hA hU A3 Zt Dq e1 hqm hlt
           go_wp2_with fail
           refine jD.out.mono ?_
           rintro e w18 ⟨iH,⟨hte,rfl⟩ | ⟨hte,cv,rfl,P8,N8,rfl,AV,sY⟩⟩
           ·exact absurd Fc.out hte
           obtain ⟨p8,c8,rfl,_,_⟩:=aq.open AV
           obtain ⟨n8,d8,rfl,_,_⟩:=aq.open sY
           have IU:=(bH iH w.heap.size RA.out).trans Lr.out
           obtain ⟨q0,q1,q2,q3⟩:=boxed IU
           have iy:=aa (Ry RA.out IU ((b7.out.trans uY.out).trans iH) AV sY HX.out DB.out)
           clear IU iH hte AV sY
           go_wp2_with fail
           obtain ⟨s2,s3,hp⟩:=iy.out
           exact ⟨rfl,.tuple #[.agg #[.slice p8 _ c8,.slice n8 _ d8],.int .i64 0],by simp [results,Tryz.results19,go_sem,s2,s3],hp⟩
end Go.Proofs.YthgabkgmkolobaaGreat
