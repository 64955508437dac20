/- The walk of split.Build. -/
import Derived.Test.YthgabkgmkolobaaGreatQ23
import Derived.Test.YthgabkgmkolobaaGreatQ36
set_option maxRecDepth 100000
set_option maxHeartbeats 8000000
namespace Go.Proofs.YthgabkgmkolobaaGreat
open Go.RowKit Go.Deep
def Jz (w:World) (aac:List ByteArray) (l:List (List Int)) (e:Ending) (w':World):Prop :=
 Up w w'/\∃v,e=.returned (.tuple #[v,.int .i64 (jL aac l)])/\aI Any w' v (iz aac l)
theorem OD {w W : World} {B : Nat} {aac : List ByteArray} {l : List (List Int)} {c : Int} (hB : w.heap.size <= B) (hu : Up w W) (hb : W.heap[B]? = some (Obj.cells #[.slice none 0 0, .slice none 0 0] 39 (0, 0))) (hc : jL aac l = c) (h0 : c ≠ 0) :
    ((W.setCell ⟨B, 0, none⟩ (.slice none 0 0)).setCell ⟨B, 1, none⟩ (.slice none 0 0)).cell? ⟨B, 0, none⟩ = some (.slice none 0 0) /\ ((W.setCell ⟨B, 0, none⟩ (.slice none 0 0)).setCell ⟨B, 1, none⟩ (.slice none 0 0)).cell? ⟨B, 1, none⟩ = some (.slice none 0 0) /\
      Jz w aac l (.returned (.tuple #[.agg #[.slice none 0 0, .slice none 0 0], .int .i64 c])) ((W.setCell ⟨B, 0, none⟩ (.slice none 0 0)).setCell ⟨B, 1, none⟩ (.slice none 0 0)) := by
  obtain ⟨s1, s2, s3, s4⟩ := gq (p := .slice none 0 0) (q := .slice none 0 0) hb hB hu
  refine ⟨s2, s3, s1, .agg #[.slice none 0 0, .slice none 0 0], by rw [hc], ?_⟩
  unfold iz; rw [if_neg (by rw [hc]; exact h0)]; exact x6 _
theorem PI {w W:World} {B:Nat} {aac:List ByteArray} {l:List (List Int)} {c:Int} (hu:Up w W) (hb:W.heap[B]? = some (Obj.cells #[.slice none 0 0,.slice none 0 0] 39 (0,0))) (hc:jL aac l=c) (h0:c≠0) :
  W.cell? ⟨B,0,none⟩=some (.slice none 0 0)/\W.cell? ⟨B,1,none⟩=some (.slice none 0 0)/\Jz w aac l (.returned (.tuple #[.agg #[.slice none 0 0,.slice none 0 0],.int .i64 c])) W:=by
 refine ⟨by simp [World.cell?,hb],by simp [World.cell?,hb],hu,.agg #[.slice none 0 0,.slice none 0 0],by rw [hc],?_⟩;unfold iz;rw [if_neg (by rw [hc];exact h0)];exact x6 _
theorem int_one {W:World} {b:Nat} {x:Int} (h:W.cell? ⟨b,0,none⟩=some (.int .i64 x)):ah Any W (.slice (some ⟨b,0,none⟩) 1 1) [x] :=
 ⟨_,1,rfl,af _,.inr ⟨_,0,rfl,trivial,fun k hk=>by
  have kW:k<1:=hk
  obtain rfl:k=0:=by omega
  exact h⟩⟩
theorem str_one {W:World} {b:Nat} {x:ByteArray} (h:W.cell? ⟨b,0,none⟩=some (.string x)):au Any W (.slice (some ⟨b,0,none⟩) 1 1) [x] :=
 ⟨_,1,rfl,af _,.inr ⟨_,0,rfl,trivial,fun k hk=>by
  have kW:k<1:=hk
  obtain rfl:k=0:=by omega
  exact h⟩⟩
theorem rws_of {base k:Nat} {w:World} {v:Value} {vals:List Value} {l:List (List Int)} (ho:ax base 26 w v vals) (hvl:vals.length=l.length) (hrow:∀i,i<l.length->ah (fun b=>b<k) w (vals.getD i undef) (gl l i)) (hk:k<=base) :
  ∃ps,uu base w v ps/\ps.map (·.1)=l/\∀p∈ps,ah (fun b=>b<k) w p.2 p.1:=by
 have hin:∀p∈(List.range l.length).map (fun i=>(gl l i,vals.getD i undef)),ah (fun b=>b<k) w p.2 p.1:=fun p hp=>by obtain ⟨i,hi,rfl⟩:=cm.1 hp;exact hrow i (bh.1 hi)
 refine ⟨(List.range l.length).map fun i=>(gl l i,vals.getD i undef),⟨?_,fun p hp=>?_,fun p hp=>?_⟩,?_,hin⟩
 ·rw [jO]
  have e:(List.range l.length).map ((fun x=>x.2) ∘ fun i=>(gl l i,vals.getD i undef))=vals:=by refine wM (by simp [hvl]) fun i h1 h2=>?_;simp [List.getElem_map,h2]
  rw [e];exact ho
 ·obtain ⟨q,c,e,_,_⟩:=ay.open (hin p hp)
  exact ⟨q,c,e⟩
 ·exact (hin p hp).sub fun b hb _ e=>by have:=(av ho e).1;omega
 ·rw [jO]
  refine wM (by simp) fun i h1 h2=>?_;simp [gl,h2]
theorem bd_fin {w W6 W8 : World} {aac : List ByteArray} {l : List (List Int)} {T : az} {p n : Value} (hlt : w.heap.size < W6.heap.size) (hb : W8.heap[w.heap.size]? = some (Obj.cells #[.slice none 0 0, .slice none 0 0] 39 (0, 0))) (hu : Up w W8) (hP : ah (fun b => W6.heap.size <= b) W8 p T.ps) (hN : au (fun b => W6.heap.size <= b) W8 n T.ns) (hX : jL aac l = 0) (hT : iz aac l = T) :
    ((W8.setCell ⟨w.heap.size, 0, none⟩ p).setCell ⟨w.heap.size, 1, none⟩ n).cell? ⟨w.heap.size, 0, none⟩ = some p /\ ((W8.setCell ⟨w.heap.size, 0, none⟩ p).setCell ⟨w.heap.size, 1, none⟩ n).cell? ⟨w.heap.size, 1, none⟩ = some n /\
      Jz w aac l (.returned (.tuple #[.agg #[p, n], .int .i64 0])) ((W8.setCell ⟨w.heap.size, 0, none⟩ p).setCell ⟨w.heap.size, 1, none⟩ n) := by
  obtain ⟨s1, s2, s3, s4⟩ := gq (p := p) (q := n) hb (af _) hu
  refine ⟨s2, s3, s1, _, by rw [hX], ?_⟩
  rw [hT]
  exact ⟨_, _, rfl, (ah.keep hP fun b hb _ => s4 b (by omega)).sub fun _ _ _ => trivial, (au.keep hN fun b hb _ => s4 b (by omega)).sub fun _ _ _ => trivial⟩
theorem ZQ (S:Nat->Prop) (w:World) (v vl:Value) (aac:List ByteArray) (l:List (List Int)) (h:au S w v aac) (hL:aR S w vl l) (hn:aac.length<=1000000) (hz:∀k,(gs aac k).size<=70000) (jv:l.length<=1000000) (hr:∀k,(gl l k).length<=1000000) :
  Calls Tryz.prog 19 #[v,vl] w (Jz w aac l):=by
 obtain ⟨lp,lc,rfl,-,-⟩:=dW hL;obtain ⟨p,cap,rfl,hcap,_⟩:=ay.open h;have h:au S w (.slice p aac.length cap) aac:=h;have bA:Up w (w.alloc (.cells #[.slice none 0 0,.slice none 0 0] 39)):=Up.alloc _ _;have hrb:=gp (w:=w) (P:=.slice none 0 0) (N:=.slice none 0 0) (T:=39);obtain ⟨q0,q1,q2,q3⟩:=boxed hrb;have LB:(w.alloc (.cells #[.slice none 0 0,.slice none 0 0] 39)).heap.size=w.heap.size+1:=by simp
 have zv:=aa (au.keep h (bA.kept S));have HL1:=aa (aR.keep (hL.sub (T:=fun b=>b<w.heap.size) fun b _ hb=>hb) (bA.kept _));have DL:=aa LB;have cA:=aa bA;have lJ:=aa hrb;have HZ:=aa hz;have HR:=aa hr
 have wH:Hid (jL aac l=if aac.length=0 then 5 else if 32<aac.length\/64<l.length then 4
  else if bU (nA aac) aac.length≠0 then bU (nA aac) aac.length
  else if bU (fun k=>cM aac.length (gl l k)) l.length≠0 then bU (fun k=>cM aac.length (gl l k)) l.length
  else if 0<=oL l then 17 else 0):=rfl
 clear h hL bA hrb LB hz hr;by_cases c0:aac.length=0
 ·have HST:=aa (PI (c:=5) cA.out lJ.out (by rw [wH.out,if_pos c0]) (by decide))
  have d0:((aac.length:Int)==0)=true:=by simp [c0]
  clear c0
  go_enter Tryz.func19,Tryz.ntmps19
  go_wp2_with fail;obtain ⟨s2,s3,hp⟩:=HST.out;exact ⟨rfl,.tuple #[.agg #[.slice none 0 0,.slice none 0 0],.int .i64 5],by simp [results,Tryz.results19,go_sem],hp⟩
 have d0:((aac.length:Int)==0)=false:=by simpa using c0
 by_cases c1:32<aac.length
 ·have HST:=aa (PI (c:=4) cA.out lJ.out (by rw [wH.out,if_neg c0,if_pos (.inl c1)]) (by decide))
  have d1:decide ((32:Int)<(aac.length:Int))=true:=by simp;omega
  clear c0
  go_enter Tryz.func19,Tryz.ntmps19
  go_wp2_with fail;obtain ⟨s2,s3,hp⟩:=HST.out;exact ⟨rfl,.tuple #[.agg #[.slice none 0 0,.slice none 0 0],.int .i64 4],by simp [results,Tryz.results19,go_sem],hp⟩
 have d1:decide ((32:Int)<(aac.length:Int))=false:=by simp;omega
 by_cases c2:64<l.length
 ·have HST:=aa (PI (c:=4) cA.out lJ.out (by rw [wH.out,if_neg c0,if_pos (.inr c2)]) (by decide))
  have d2:decide ((64:Int)<(l.length:Int))=true:=by simp;omega
  clear c0 c1
  go_enter Tryz.func19,Tryz.ntmps19
  go_wp2_with fail;obtain ⟨s2,s3,hp⟩:=HST.out;exact ⟨rfl,.tuple #[.agg #[.slice none 0 0,.slice none 0 0],.int .i64 4],by simp [results,Tryz.results19,go_sem],hp⟩
 have d2:decide ((64:Int)<(l.length:Int))=false:=by simp;omega
 have HSE1:Hid (jL aac l=if bU (nA aac) aac.length≠0 then bU (nA aac) aac.length
  else if bU (fun k=>cM aac.length (gl l k)) l.length≠0 then bU (fun k=>cM aac.length (gl l k)) l.length
  else if 0<=oL l then 17 else 0):=by unfold Hid;rw [wH.out,if_neg c0,if_neg (by omega)]
 have Yx:0<aac.length:=by omega
 have hn32:aac.length<=32:=by omega
 have hl64:l.length<=64:=by omega
 clear wH c0 c1 c2;have Hf:Hid (∀k,k<aac.length->(∀j,j<k->nA aac j=0)->nA aac k≠0->jL aac l=nA aac k):=fun k hk hj h0=>by have h1:=gm hk hj h0;rw [HSE1.out,h1,if_pos h0]
 go_enter Tryz.func19,Tryz.ntmps19
 go_wp2_with fail;generalize w.alloc (.cells #[.slice none 0 0,.slice none 0 0] 39)=w1 at *
 go_loop [6,7,42] (fun _ _ i=>∃k:Nat,k<=aac.length/\i=.int .i64 k/\Hid (∀j,j<k->nA aac j=0)) (fun _ _ i=>aac.length - (intOf i).toNat)
 case atStart=>exact ⟨0,aL _,rfl,fun j hj=>absurd hj (bG _)⟩
 case round =>
  obtain ⟨k,hk,rfl,hd⟩:=hrel;by_cases hlt:k<aac.length
  ·obtain ⟨Oe,no,rfl,hc⟩:=dr zv.out hlt
   have je:=aa (leafName_t (gs aac k) (HZ.out k) w1);have oU:Hid (Calls Tryz.prog 32 #[.slice (some ⟨Oe,no,none⟩) k cap,.string (gs aac k)] w1 fun e w'=>e=.returned (.bool (fk aac k))/\w1=w'):=by
    have h:=kr S w1 _ k (fun j=>gs aac j) (gs aac k) (IJ zv.out hk) (by omega)
    rwa [Vg] at h
   have Jd:=aa (Hf.out k hlt hd.out);have Je:Hid (nA aac k=if b7 (gs aac k).data.toList then (if fk aac k then 7 else 0) else 14):=rfl;generalize gs aac k=nm at *;generalize fk aac k=bs at *;generalize b7 nm.data.toList=bn at *;cases bn
   ·have HE:Hid (nA aac k=14):=Je.out
    have HST:=aa (OD (c:=14) (af _) cA.out lJ.out ((Jd.out (by rw [HE.out];decide)).trans HE.out) (by decide));go_wp2_with (first | (go_at_call 73;refine je.out.mono ?_;rintro e w' ⟨rfl,rfl⟩) | (go_at_call 32;refine oU.out.mono ?_;rintro e w' ⟨rfl,rfl⟩));obtain ⟨s2,s3,hp⟩:=HST.out;exact ⟨rfl,.tuple #[.agg #[.slice none 0 0,.slice none 0 0],.int .i64 14],by simp [results,Tryz.results19,go_sem,s2,s3],hp⟩
   ·cases bs
    ·have HE:Hid (nA aac k=0):=Je.out
     go_wp2_with (first | (go_at_call 73;refine je.out.mono ?_;rintro e w' ⟨rfl,rfl⟩) | (go_at_call 32;refine oU.out.mono ?_;rintro e w' ⟨rfl,rfl⟩))
     go_round
     case rel=>exact ⟨k+1,by omega,by go_num,fun j hj=>if e:j=k then by subst e;exact HE.out else hd.out j (by omega)⟩
     case measure=>simp [intOf];omega
    ·have HE:Hid (nA aac k=7):=Je.out
     have HST:=aa (OD (c:=7) (af _) cA.out lJ.out ((Jd.out (by rw [HE.out];decide)).trans HE.out) (by decide));go_wp2_with (first | (go_at_call 73;refine je.out.mono ?_;rintro e w' ⟨rfl,rfl⟩) | (go_at_call 32;refine oU.out.mono ?_;rintro e w' ⟨rfl,rfl⟩));obtain ⟨s2,s3,hp⟩:=HST.out;exact ⟨rfl,.tuple #[.agg #[.slice none 0 0,.slice none 0 0],.int .i64 7],by simp [results,Tryz.results19,go_sem,s2,s3],hp⟩
  ·obtain rfl:k=aac.length:=by omega
   have HSE2:Hid (jL aac l=if bU (fun k=>cM aac.length (gl l k)) l.length≠0 then bU (fun k=>cM aac.length (gl l k)) l.length
     else if 0<=oL l then 17 else 0):=by
    unfold Hid;rw [HSE1.out,if_neg (by rw [cR hd.out];decide)]
   have je:Hid (∀j,j<aac.length->nA aac j=0):=hd.out;clear hlt hk hd HSE1 Hf;(have nH:Hid (∀k,k<l.length->(∀j,j<k->cM aac.length (gl l j)=0)->cM aac.length (gl l k)≠0->jL aac l=cM aac.length (gl l k)):=fun k hk hj h0=>by have h1:=gm (f:=fun k=>cM aac.length (gl l k)) hk hj h0;rw [HSE2.out,h1,if_pos h0]);go_wp2_with fail
   go_loop [10,11,62] (fun _ _ i=>∃k:Nat,k<=l.length/\i=.int .i64 k/\Hid (∀j,j<k->cM aac.length (gl l j)=0)) (fun _ _ i=>l.length - (intOf i).toNat)
   case atStart=>exact ⟨0,aL _,rfl,fun j hj=>absurd hj (bG _)⟩
   case round =>
    obtain ⟨k,hk,rfl,hd⟩:=hrel;by_cases hlt:k<l.length
    ·obtain ⟨b,off,q,c,rfl,hc,hi⟩:=gP HL1.out hlt
     have gy:=aa (AL _ w1 _ (aac.length:Int) (gl l k) hi (HR.out k));have HSPK:=aa (nH.out k hlt hd.out);have k1:(0:Int)<=(k:Int):=CG _;(have k2:(k:Int)<(l.length:Int):=by omega);have HEK:Hid (∀z,cM aac.length (gl l k)=z->z=cM aac.length (gl l k)):=fun z e=>e.symm;clear hi;by_cases e0:cM aac.length (gl l k)=0
     ·have HE:=aa e0
      rw [e0] at gy;clear e0 HEK;go_wp2_with (first | (go_at_call 65;refine gy.out.mono ?_;rintro e w' ⟨rfl,rfl⟩))
      go_round
      case rel=>exact ⟨k+1,by omega,by go_num,fun j hj=>if e:j=k then by subst e;exact HE.out else hd.out j (by omega)⟩
      case measure=>simp [intOf];omega
     ·have HST:=aa (OD (c:=cM aac.length (gl l k)) (af _) cA.out lJ.out (HSPK.out e0) e0)
      (have g1:(cM aac.length (gl l k) != 0)=true:=by simpa using e0);clear e0 HEK HSPK;generalize cM aac.length (gl l k)=gc at *;go_wp2_with (first | (go_at_call 65;refine gy.out.mono ?_;rintro e w' ⟨rfl,rfl⟩));obtain ⟨s2,s3,hp⟩:=HST.out;exact ⟨rfl,.tuple #[.agg #[.slice none 0 0,.slice none 0 0],.int .i64 gc],by simp [results,Tryz.results19,go_sem,s2,s3],hp⟩
    ·obtain rfl:k=l.length:=by omega
     (have HSE3:Hid (jL aac l=if 0<=oL l then 17 else 0):=by unfold Hid;rw [HSE2.out,if_neg (by rw [cR hd.out];decide)]);have zV:=aa (pair_t _ w1 _ l HL1.out (fun k hk=>(nJ.1 (hd.out k hk)).set) (by omega));have ED:Hid (DB l=decide (oL l<0)):=rfl;clear hlt hk hd HSE2 nH;generalize DB l=pb at *;cases pb
     ·have HX:Hid (jL aac l=17):=by
       unfold Hid;rw [HSE3.out,if_pos]
       have:=of_decide_eq_false ED.out.symm;omega
      go_wp2_with fail
      refine zV.out.mono ?_
      rintro e w2 ⟨rfl,aK⟩
      have nj:=(bI aK w.heap.size (by rw [DL.out];omega)).trans lJ.out
      obtain ⟨q0,q1,q2,q3⟩:=boxed nj
      have HST:=aa (OD (c:=17) (af _) (cA.out.trans aK) nj HX.out (by decide))
      clear nj aK
      go_wp2_with fail
      obtain ⟨s2,s3,hp⟩:=HST.out
      exact ⟨rfl,.tuple #[.agg #[.slice none 0 0,.slice none 0 0],.int .i64 17],by simp [results,Tryz.results19,go_sem,s2,s3],hp⟩
     ·have HX:Hid (jL aac l=0):=by
       unfold Hid;rw [HSE3.out,if_neg]
       have:=of_decide_eq_true ED.out.symm;omega
      have xK:=aa (Dy.1 HX.out)
      clear HSE3 je ED
      go_wp2_with fail
      refine zV.out.mono ?_
      rintro e w2 ⟨rfl,aK⟩
      have nj:=(bI aK w.heap.size (by rw [DL.out];omega)).trans lJ.out
      have bD:=aa (cA.out.trans aK)
      have mP:=aa nj
      have wC:=aa (au.keep zv.out (aK.kept S))
      have HL2:=aa (aR.keep HL1.out (aK.kept _))
      have D6:Hid (w.heap.size<w2.heap.size):=by have h1:=aK.size;rw [DL.out] at h1;exact h1
      clear nj aK cA lJ zv HL1 DL zV q0 q1 q2 q3
      obtain ⟨Oe,no,rfl,hc0⟩:=dr wC.out Yx
      rw [jZ] at hc0
      obtain ⟨q0,q1,q2,q3⟩:=boxed mP.out
      by_cases n1:aac.length=1
      ·have d3:((aac.length:Int)==1)=true:=by simp [n1]
       obtain ⟨t1,t2,t3⟩:=wI w2 (.int .i64 (-1)) (.string (gs aac 0)) 3 9
       have hb3:=(bI t1 w.heap.size D6.out).trans mP.out
       have HST:=aa (gq (w:=w) (p:=.slice (some ⟨w2.heap.size,0,none⟩) 1 1) (q:=.slice (some ⟨w2.heap.size+1,0,none⟩) 1 1) hb3 (af _) (bD.out.trans t1))
       have H3:=aa (⟨t2,t3⟩:_/\_)
       have hres:iz aac l=⟨[-1],[gs aac 0]⟩:=by unfold iz Jq;rw [if_pos HX.out,if_pos n1]
       have Wa:=aa hres
       have hq:=t1.cell hc0
       have hq':=(Up.alloc w2 (.cells #[.int .i64 (-1)] 3)).cell hc0
       obtain ⟨q0,q1,q2,q3⟩:=boxed hb3
       have n1':(0:Int)<(aac.length:Int):=by omega
       clear n1 t1 t2 t3 hb3 hres
       go_wp2_with fail
       obtain ⟨s1,s2,s3,s4⟩:=HST.out
       have hsz:=D6.out
       refine ⟨rfl,.tuple #[.agg #[.slice (some ⟨w2.heap.size,0,none⟩) 1 1,.slice (some ⟨w2.heap.size+1,0,none⟩) 1 1],.int .i64 0],by simp [results,Tryz.results19,go_sem,s2,s3],s1,_,by rw [HX.out],?_⟩
       rw [Wa.out]
       exact ⟨_,_,rfl,int_one ((eX (a:=⟨w2.heap.size,0,none⟩) (s4 w2.heap.size (Nat.ne_of_gt hsz))).trans H3.out.1),str_one ((eX (a:=⟨w2.heap.size+1,0,none⟩) (s4 (w2.heap.size+1) (by omega))).trans H3.out.2)⟩
      have d3:((aac.length:Int)==1)=false:=by simp;omega
      have dQ:=Up.alloc w2 (.cells #[.slice none 0 0,.slice none 0 0] 39)
      have hG3:GS w2.heap.size (w2.heap.size+1) (w2.alloc (.cells #[.slice none 0 0,.slice none 0 0] 39)) (.slice none 0 0) (.slice none 0 0) ⟨[],[]⟩ :=
       ⟨gp,⟨ax.nil _ _ _,ax.nil _ _ _,fun b hb=>(by cases hb)⟩,by omega,by rw [aQ];exact af _⟩
      have eo:=aa dQ
      have OE:=aa hG3
      clear dQ hG3 q0 q1 q2 q3
      go_wp2_with fail
      generalize w2.alloc (.cells #[.slice none 0 0,.slice none 0 0] 39)=w3 at *
      refine (Kh w2.heap.size (w2.heap.size+1) ⟨[],[]⟩ (-1) ByteArray.empty w3 _ _ OE.out rfl (by decide)).mono ?_
      rintro e w4 ⟨rfl,P4,N4,hG4,hK4⟩
      have di:Up w2 w4:=hK4.ZM OE.out eo.out (af _)
      have hc4:=di.cell hc0
      have Nq:=aa hG4
      have kX:=aa di
      clear hG4 hK4 di OE eo hc0
      go_wp2_with fail
      refine (Kh w2.heap.size (w2.heap.size+1) _ 0 (gs aac 0) w4 _ _ Nq.out rfl (by decide)).mono ?_
      rintro e w5 ⟨rfl,P5,N5,hG5,hK5⟩
      have ey:Up w2 w5:=hK5.ZM Nq.out kX.out (af _)
      have ZR:=aa hG5
      have iw:=aa ey
      clear hG5 hK5 Nq kX hc4
      by_cases n2:aac.length=2
      ·have d4:((aac.length:Int)==2)=true:=by simp [n2]
       have HN2E:=aa n2
       obtain ⟨nb1,no1,e1,hc1⟩:=dr wC.out (show 1<aac.length by omega)
       injection e1 with e1;injection e1 with e1 e2;subst e1;subst e2
       have hc5:=ey.cell hc1
       have n2':(1:Int)<(aac.length:Int):=by omega
       clear hc1 ey n2
       go_wp2_with fail
       refine (Kh w2.heap.size (w2.heap.size+1) _ 0 (gs aac 1) w5 _ _ ZR.out rfl (show 2+1<=1000000 by decide)).mono ?_
       rintro e w6 ⟨he,P6,N6,DC,hK6⟩
       have he:e=.returned (.int .i64 2):=he
       subst he
       have dL:Up w2 w6:=hK6.ZM ZR.out iw.out (af _)
       obtain ⟨tc0,tc1,_,_⟩:=DC.cells
       have DC:GS w2.heap.size (w2.heap.size+1) w6 P6 N6 ⟨[-1,0,0],[ByteArray.empty,gs aac 0,gs aac 1]⟩:=DC
       have hT6:aI (fun b=>w2.heap.size+1<=b) w6 (.agg #[P6,N6]) ⟨[-1,0,0],[ByteArray.empty,gs aac 0,gs aac 1]⟩:=⟨P6,N6,rfl,DC.tl.dJ.ints,DC.tl.eH.strs⟩
       have nV:=aa (BP _ w6 _ _ hT6 (show 3<=1000000 by decide) (show 3<=1000000 by decide) (fun k=>Nmd.gs (Q:=fun s=>s.size<=70000) (by
        intro s hs
        rcases aW.1 hs with rfl | hs
        ·decide
        rcases aW.1 hs with rfl | hs
        ·exact HZ.out 0
        rcases aW.1 hs with rfl | hs
        ·exact HZ.out 1
        ·cases hs) (by decide) k))
       have tB:=(bI dL w.heap.size D6.out).trans mP.out
       have B5:=aa tB
       have rj:=aa dL
       have Wb:Hid (w.heap.size<w6.heap.size):=js D6.out dL.size
       have uj:Hid (aH ⟨[-1,0,0],[ByteArray.empty,gs aac 0,gs aac 1]⟩=0):=((V2 xK.out HN2E.out).ofok0 hn32).te
       have Wa:Hid (iz aac l=o8 ⟨[-1,0,0],[ByteArray.empty,gs aac 0,gs aac 1]⟩):=by unfold Hid iz Jq;rw [if_pos HX.out,if_neg (by have:=HN2E.out;omega),if_pos HN2E.out]
       clear dL DC hK6 hT6 tB ZR iw hc5 n2'
       go_wp2_with fail
       refine nV.out.mono ?_
       rintro e w8 ⟨gK,⟨hte,rfl⟩ | ⟨hte,cv,rfl,P8,N8,rfl,KX,EP⟩⟩
       ·exact absurd uj.out hte
       obtain ⟨p8,c8,rfl,_,_⟩:=ay.open KX
       obtain ⟨n8,d8,rfl,_,_⟩:=ay.open EP
       have Mn:=(bI gK w.heap.size Wb.out).trans B5.out
       obtain ⟨q0,q1,q2,q3⟩:=boxed Mn
       have jr:=aa (bd_fin Wb.out Mn ((bD.out.trans rj.out).trans gK) KX EP HX.out Wa.out)
       clear Mn gK hte KX EP
       go_wp2_with fail
       obtain ⟨s2,s3,hp⟩:=jr.out
       exact ⟨rfl,.tuple #[.agg #[.slice p8 _ c8,.slice n8 _ d8],.int .i64 0],by simp [results,Tryz.results19,go_sem,s2,s3],hp⟩
      ·have d4:((aac.length:Int)==2)=false:=by simp;omega
       have Wc:Hid (3<=aac.length):=by unfold Hid;omega
       clear n1 n2
       go_wp2_with fail
       refine (Kh w2.heap.size (w2.heap.size+1) _ 0 ByteArray.empty w5 _ _ ZR.out rfl (show 2+1<=1000000 by decide)).mono ?_
       rintro e w6 ⟨he,P6,N6,DC,hK6⟩
       have he:e=.returned (.int .i64 2):=he
       subst he
       have dL:Up w2 w6:=hK6.ZM ZR.out iw.out (af _)
       have ZT:Hid (GS w2.heap.size (w2.heap.size+1) w6 P6 N6 (bQ aac (aP l) 0 0)):=DC
       have rj:=aa dL
       have JA:=aa (Up.alloc w6 (.cells #[.int .i64 2] 3))
       have qT:=aa (Jt (fun b=>b<w.heap.size) (w6.alloc (.cells #[.int .i64 2] 3)) _ l (aR.keep HL2.out ((dL.trans JA.out).kept _)) jv)
       have Y3:=aa (blk_alloc_new w6 (.cells #[.int .i64 2] 3))
       have HS7:Hid ((w6.alloc (.cells #[.int .i64 2] 3)).heap.size=w6.heap.size+1):=aQ _ _
       clear DC hK6 dL ey ZR iw
       go_wp2_with fail
       generalize w6.alloc (.cells #[.int .i64 2] 3)=w7 at *
       refine qT.out.mono ?_
       rintro e w8 ⟨gK,ov,vals,rfl,hvl,xx,hrow⟩
       have gK:Up w7 w8:=gK
       obtain ⟨oq,oc,rfl,_⟩:=xx.form (n:=l.length) hvl
       have kN:=Up.alloc w8 (.cells #[.slice oq l.length oc] 23)
       have l8:=gK.size
       have HL78:Hid (w7.heap.size<=w8.heap.size):=gK.size
       have l78:=HS7.out
       have lg6:=ZT.out.lo
       have lsz2:=D6.out
       have how9:=xx.alloc (.cells #[.slice oq l.length oc] 23)
       obtain ⟨ps,hR9,hm9,hI9⟩:=rws_of (k:=w.heap.size) how9 hvl (fun i hi=>ah.keep (hrow i hi) (kN.kept _)) (by omega)
       have hpl:ps.length=l.length:=by rw [<- hm9,aG]
       have hrl:∀p∈ps,p.1.length<=1000000:=fun p hp=>by
        have h1:p.1∈l:=by rw [<- hm9];exact List.mem_map_of_mem hp
        obtain ⟨k,hk,e⟩:=Oy h1
        rw [<- e];exact HR.out k
       have G0:=Ov (cf:=mF) R2 (fun h=>wG h) Dz (fun h k=>Oz h k) 78 #[] (enters_of Tryz.func78 (by kernel_rfl) rfl) hR9 (by omega) (fun p hp q hq W' pM=>by
        have hk:∀s∈ps,ah Any W' s.2 s.1:=fun s hs=>(ay.keep (hR9.row s hs) fun b hb hbl=>pM.block b hbl fun e=>hb e.symm).sub fun _ _ _=>trivial
        exact cmpQ_t Any Any W' p.2 q.2 p.1 q.1 (hk p hp) (hk q hq) (hrl p hp) (hrl q hq))
       have pW:=aa G0
       have HOB9:=aa (blk_alloc_new w8 (.cells #[.slice oq l.length oc] 23))
       have HU69:=aa ((JA.out.trans gK).trans kN)
       have HRB9:=aa ((bI (gK.trans kN) w6.heap.size (by omega)).trans Y3.out)
       have HR9:=aa hR9
       have HM9:=aa hm9
       have HI9:=aa hI9
       have ug:=aa hrl
       have fN:=aa hpl
       have Lg:=aa xx
       have HS9:Hid ((w8.alloc (.cells #[.slice oq l.length oc] 23)).heap.size=w8.heap.size+1):=aQ _ _
       clear G0 gK kN xx hvl hrow how9 hR9 hm9 hI9 hrl hpl qT JA Y3 l8 l78 lg6 lsz2
       go_wp2_with fail
       generalize w8.alloc (.cells #[.slice oq l.length oc] 23)=w9 at *
       refine pW.out.mono ?_
       rintro e Fa ⟨rfl,Cw,JB,D7,Wh,hR10,Wi⟩
       have Wj:∀g,(Value.slice oq l.length oc).ownBlock=some g->w7.heap.size<=g/\g<w8.heap.size:=fun g hg=>av Lg.out hg
       have hob10:Fa.heap[w8.heap.size]? = some (Obj.cells #[.slice oq l.length oc] 23 (0,0)):=(Cw.block _ (by have:=HS9.out;omega) fun e=>by have:=Wj _ e.symm;omega).trans HOB9.out
       have zQ:Fa.cell? ⟨w8.heap.size,0,none⟩=some (.slice oq l.length oc):=by simp [World.cell?,hob10]
       have hS7:=HS7.out
       have hU10:Up w6 Fa:=zA HU69.out Cw HU69.out.size fun k hk=>by have:=Wj k hk;omega
       have hrb10:=(Cw.block w6.heap.size (by have:=HU69.out.size;have:=HS9.out;have:=(fR.1 HRB9.out).1;omega) fun e=>by have:=Wj _ e.symm;omega).trans HRB9.out
       have hl10:JB.length=l.length:=by have:=D7.length_eq;rw [aG,aG,fN.out] at this;exact this
       have hsq:JB.map (·.1)=Gg l:=sortQ_uniq (by rw [HM9.out] at D7;exact D7) Wh
       have hI10:∀p∈JB,ah (fun b=>b<w.heap.size) Fa p.2 p.1:=fun p hp=>ah.keep (HI9.out p (Wi p hp)) fun b hb hbl=>Cw.block b hbl fun e=>by
        have:=Wj _ e.symm;have:=D6.out;have:=ZT.out.lo;omega
       have wU:=aa (Hl hR10 (by omega) (fun p hp=>ug.out p (Wi p hp)))
       have HOB10:=aa hob10
       have JC:=aa hU10
       have HRB10:=aa hrb10
       have HSQ:=aa hsq
       have HI10:=aa hI10
       have Wk:=aa hR10
       have HL10:=aa hl10
       clear Cw D7 Wh hR10 Wi Wj hob10 hU10 hrb10 hl10 hsq hI10 hS7 pW HOB9 HU69 HRB9 HR9 HM9 HI9
       go_wp2_with fail
       refine wU.out.mono ?_
       rintro e jh ⟨D8,v11,Wl,rfl,D9,hR11,hmem11⟩
       rw [HSQ.out] at D9
       have D9:Wl.map (·.1)=aP l:=D9
       have hlen11:(Wl.map (·.2)).length=(aP l).length:=by rw [<- D9];simp
       obtain ⟨ZU,c11,rfl,_⟩:=hR11.own.form hlen11
       have hS7:=HS7.out
       have Wm:∀g,(Value.slice oq l.length oc).ownBlock=some g->w7.heap.size<=g/\g<w8.heap.size:=fun g hg=>av Lg.out hg
       have hU11:Up w6 jh:=zA JC.out D8 JC.out.size fun k hk=>by have:=Wm k hk;omega
       have hob11:jh.heap[w8.heap.size]? = some (Obj.cells #[.slice oq l.length oc] 23 (0,0)):=(D8.block _ (fR.1 HOB10.out).1 fun e=>by have:=Wm _ e.symm;omega).trans HOB10.out
       have hrb11:=(D8.block w6.heap.size (fR.1 HRB10.out).1 fun e=>by have:=Wm _ e.symm;omega).trans HRB10.out
       have hI11:∀p∈Wl,ah (fun b=>b<w2.heap.size) jh p.2 p.1:=fun p hp=>(ah.keep (HI10.out p (hmem11 p hp)) fun b hb hbl=>D8.block b hbl fun e=>by
        have:=Wm _ e.symm;have:=D6.out;have:=ZT.out.lo;omega).sub fun b hb _=>Nat.lt_trans hb D6.out
       have hne11:(Value.slice ZU (aP l).length c11).ownBlock≠some w8.heap.size:=fun e=>by
        obtain ⟨c,h⟩:=ax.mC hR11.own e
        rw [hob11] at h
        injection h with h;injection h with _ h _
        exact absurd h (by decide)
       have l78:=HL78.out
       obtain ⟨hst,HAX,hu13⟩:=AX.start ZT.out rfl (by omega) (by omega) hU11 hrb11 hob11 hR11 D9 hI11 hne11
       obtain ⟨b1,b2⟩:=hst
       have HAX:=aa HAX
       have HG13:=aa (ZT.out.up hu13)
       have HU13:=aa (rj.out.trans hu13)
       obtain ⟨_,b4,_,_⟩:=HAX.out.cells
       clear D8 D9 hR11 hmem11 hlen11 hS7 Wm hU11 hob11 hrb11 hI11 hne11 l78 hu13 wU zQ HOB10 JC HRB10 HSQ HI10 Wk ZT rj
       have FH:Hid (∀k,k<(aP l).length->yP aac.length (gl (aP l) k)):=fun k hk=>xK.out.own hk
       have G3:Hid ((aP l).length<=64):=aJ (ownQ_len l) hl64
       have ZV:Hid (3+(aP l).length+(aac.length - 1)<=64):=R6 xK.out Wc.out
       have I1:Hid (aH (bT aac (aP l))=0):=((Ml xK.out Wc.out ZV.out).ofok0 hn32).te
       have Wa:Hid (iz aac l=o8 (bT aac (aP l))):=by unfold Hid iz Jq;rw [if_pos HX.out,if_neg (by have:=Wc.out;omega),if_neg (by have:=Wc.out;omega)]
       have HNMB:Hid (∀k,(gs (bT aac (aP l)).ns k).size<=70000):=fun k=>Nmd.gs (Q:=fun s=>s.size<=70000) (by
        intro s hs
        rcases dV.1 hs with hs | hs
        ·rcases aW.1 hs with rfl | hs
         ·decide
         rcases aW.1 hs with rfl | hs
         ·exact HZ.out 0
         rcases aW.1 hs with rfl | hs
         ·decide
         ·cases hs
        ·rcases dV.1 hs with hs | hs
         ·rw [List.eq_of_mem_replicate hs];decide
         ·obtain ⟨b,_,rfl⟩:=cm.1 hs
          exact HZ.out (b+1)) (by decide) k
       have nX:Hid (∀j m,(bQ aac (aP l) j m).ps.length=3+j+m/\(bQ aac (aP l) j m).ns.length=3+j+m):=bQ_len aac (aP l)
       have HBO:Hid (∀j,(bQ aac (aP l) j 0).push (gF (aP l) (gi (gl (aP l) j) 0) j) ByteArray.empty=bQ aac (aP l) (j+1) 0):=bQ_own aac (aP l)
       have Fb:Hid (∀m,(bQ aac (aP l) (aP l).length m).push (gF (aP l) ((m+1:Nat):Int) (aP l).length) (gs aac (m+1))=bQ aac (aP l) (aP l).length (m+1)):=bQ_leaf aac (aP l) _
       have HBA:Hid (bQ aac (aP l) (aP l).length (aac.length - 1)=bT aac (aP l)):=rfl
       go_wp2_with fail
       generalize (jh.setCell ⟨w8.heap.size,0,none⟩ (Value.slice ZU (aP l).length c11)).alloc (.cells #[.slice none 0 0] 26)=w13 at *
       generalize aP l=own at *
       clear b1 b2 b4
       go_loopw [22,23,124] (fun _ _ i wr=>∃(k:Nat) (P N nv:Value),k<=own.length/\i=.int .i64 k/\Hid (GS w2.heap.size (w2.heap.size+1) wr P N (bQ aac own k 0))/\Hid (AX w2.heap.size w6.heap.size w8.heap.size jh.heap.size wr P N (.slice ZU own.length c11) nv own ((List.range k).map fun j=>((3+j:Nat):Int)))/\Hid (Up w2 wr)) (fun _ _ i _=>own.length - (intOf i).toNat)
       case atStart=>exact ⟨0,_,_,_,aL _,rfl,HG13.out,HAX.out,HU13.out⟩
       case round =>
        obtain ⟨k,P,N,nv,hk,rfl,hG,hA,hU⟩:=hrel
        obtain ⟨wo,rfl⟩:∃wo:World,wo=wr:=⟨_,rfl⟩
        by_cases hlt:k<own.length
        ·obtain ⟨b,off,q,c,rfl,hc,hi⟩:=gP hA.out.rows hlt
         have hsp:=(FH.out k hlt).len
         obtain ⟨q',c',e,hn',h0 | ⟨b2,off2,rfl,hT,hcs⟩⟩:=hi
         ·omega
         injection e with e1 _ _
         subst e1
         have hc2:wo.cell? ⟨b2,off2,none⟩=some (.int .i64 (gi (gl own k) 0)):=hcs 0 (by omega)
         have HT:=aa hT
         have uT:=aa hc2
         have l2:(0:Int)<((gl own k).length:Int):=by omega
         have l3:0<(gl own k).length:=by omega
         have i1:(0:Int)<=(k:Int):=by omega
         have i2:(k:Int)<(own.length:Int):=by omega
         obtain ⟨_,_,hnv,_⟩:=hA.out.cells
         have sN:Hid (∀W P' N',GK w2.heap.size wo W P N P' N'->W.cell? ⟨jh.heap.size,0,none⟩=some nv/\W.cell? ⟨b2,off2,none⟩=some (.int .i64 (gi (gl own k) 0))):=fun W P' N' hK =>
          ⟨((hA.out.gk hK).cells).2.2.1,(eX (a:=⟨b2,off2,none⟩) (hK.block b2 (eG wo _ uT.out) HT.out.1 HT.out.2.2.1 HT.out.2.2.2.1)).trans uT.out⟩
         have OG:=hA.out.up (kz wo)
         obtain ⟨y1,y2,y3,_⟩:=OG.cells
         have Ev:=aa (R4 Any wo.drew w8.heap.size jh.heap.size w6.heap.size _ nv own ((List.range k).map fun j=>((3+j:Nat):Int)) (gi (gl own k) 0) k y2 (OG.rows.sub fun _ _ _=>trivial) y3 (OG.qW.ints.sub fun _ _ _=>trivial) y1 hk (by simp) (fun j hj=>by simp [gi,hj]) (by have:=G3.out;omega) (fun j=>by
          by_cases hj:j<own.length
          ·have:=(FH.out j hj).len;have:=hn32;omega
          ·simp [gl,show own.length<=j by omega]))
         have HAD:=aa (Kh w2.heap.size (w2.heap.size+1) (bQ aac own k 0) (gF own (gi (gl own k) 0) k) ByteArray.empty wo.drew P N (hG.out.up (kz wo)) (by rw [(nX.out k 0).1,(nX.out k 0).2]) (by rw [(nX.out k 0).1];have:=G3.out;omega))
         rw [HBO.out,(nX.out k 0).1,jZ] at HAD
         have bu:=aa hlt
         have KL:=aa hG.out
         have Vz:=aa hA.out
         have xL:=aa hU.out
         have kK:Hid (k<=64):=by have:=G3.out;unfold Hid;omega
         clear hsp hn' hT hcs hc2 OG y1 y2 y3 hG hA hU hk hlt
         generalize gi (gl own k) 0=x at *
         generalize gF own x k=z at *
         go_wp2_with fail
         refine gQ (by kernel_rfl) 11 (fun w'=>w'.cell? ⟨jh.heap.size,0,none⟩=some nv/\w'.cell? ⟨b2,off2,none⟩=some (.int .i64 x)) (sN.out _ _ _ (GK.JY (kz wo))) (fun hS=>?_)
         simp only [eW,aT,dO,Nat.reduceAdd,ji,jk,eV,cH,cr]
         refine aj.tk 0 hS ?_
         try simp only [Act.put,aA,aB,aC]
         refine aj.tk 1 hS ?_
         try simp only [Act.put,aA,aB,aC]
         refine aj.tk 2 hS ?_
         try simp only [Act.put,aA,aB,aC]
         refine aj.tk 3 hS ?_
         try simp only [Act.put,aA,aB,aC]
         refine aj.tk 4 hS ?_
         try simp only [Act.put,aA,aB,aC]
         refine aj.tk 5 hS ?_
         try simp only [Act.put,aA,aB,aC]
         refine aj.tk 6 hS ?_
         try simp only [Act.put,aA,aB,aC]
         refine aj.step (i:=7) rfl (by kernel_rfl) (fun K' hK=>?_)
         go_simp
         refine Ev.out.mono ?_
         rintro e w3' ⟨rfl,rfl⟩
         refine hK.out _ _ (fun _=>hS) (fun hS=>?_)
         replace hS:=hS ⟨10,by decide,rfl⟩
         try simp only [aA,aB,aC]
         refine aj.step (i:=8) rfl (by kernel_rfl) (fun K' hK=>?_)
         go_simp
         refine HAD.out.mono ?_
         rintro e w14 ⟨rfl,P14,N14,Wn,Wo⟩
         have R7:GK w2.heap.size wo w14 P N P14 N14:=(GK.JY (kz wo)).trans Wo
         have HA14:=aa (Vz.out.gk R7)
         have HU14:=aa (R7.ZM KL.out xL.out (af _))
         have HG14:=aa Wn
         have HK14:=aa R7
         clear Wn Wo R7
         refine hK.out _ _ (fun _=>sN.out _ _ _ HK14.out) (fun hS=>?_)
         replace hS:=hS ⟨10,by decide,rfl⟩
         try simp only [aA,aB,aC]
         refine aj.step (i:=9) rfl (by kernel_rfl) (fun K' hK=>?_)
         go_simp
         have Wp:=Up.alloc w14 (.cells #[.int .i64 ((3+k:Nat):Int)] 3)
         have HA15:=aa (HA14.out.up Wp)
         have HG15:=aa (HG14.out.up Wp)
         have HU15:=aa (HU14.out.trans Wp)
         have HK15:=aa (HK14.out.up Wp)
         clear Wp
         refine hK.out _ _ (fun _=>sN.out _ _ _ HK15.out) (fun hS=>?_)
         replace hS:=hS ⟨10,by decide,rfl⟩
         try simp only [aA,aB,aC]
         refine aj.step (i:=10) rfl (by kernel_rfl) (fun K' hK=>?_)
         refine fF (by rfl) _ _ _ (by rfl) (jh.heap.size+1) 3 _ 8 Tryz.underlying26 Tryz.kE (by rfl) (by decide) (by rfl) HA15.out.qW (.int .i64 ((3+k:Nat):Int)) w14.heap.size (by rfl) (nW _ _ _) (by rfl) (by simp;have:=kK.out;omega) HA15.out.lt.2.2.2 ?_
         intro g16 c16 w16 ho16 hg16 hr16 _
         obtain ⟨⟨y1,y2⟩,hA17,hG17,hU17⟩:=HA15.out.app HG15.out ho16 hg16 (fun b hb=>by
          have hb:some g16=some b:=hb
          injection hb with hb
          rcases hr16 with h | h
          ·exact .inl (hb ▸ h)
          ·exact .inr (fB (h.symm.trans hb)))
         simp only [aG,wP] at hA17 hG17 hU17
         have HA17:=aa hA17
         have HG17:=aa hG17
         have HU17:=aa (hU17 w2 HU15.out (af _))
         clear ho16 hg16 hr16 hA17 hG17 hU17
         refine hK.out _ _ (aO (by kernel_rfl)) (fun _=>?_)
         try simp only [Act.put,aA,aB,aC]
         refine aj.step (i:=11) rfl (by kernel_rfl) (fun K' hK=>?_)
         go_simp
         refine hK.out _ _ (aO (by kernel_rfl)) (fun _=>?_)
         refine aj.done (by kernel_rfl) ?_
         have k64:=kK.out
         have hltk:=bu.out
         go_wp2_with fail
         go_roundw
         case rel=>exact ⟨k+1,_,_,_,Nat.succ_le_of_lt bu.out,by go_num,HG17,(by have h:=HA17.out;rw [show (List.range (k+1)).map (fun j=>((3+j:Nat):Int))=(List.range k).map (fun j=>((3+j:Nat):Int))++[((3+k:Nat):Int)] by rw [rX,cg];rfl];exact aa h),HU17⟩
         case measure=>have:=bu.out;simp [intOf];omega
        ·obtain rfl:k=own.length:=by omega
         have KL:=aa hG.out
         have Vz:=aa hA.out
         have xL:=aa hU.out
         clear hG hA hU hlt hk
         go_wp2_with fail
         go_loopw [24] (fun i wr=>∃(q m:Nat) (P N:Value),q<=aac.length/\q=m+1/\i=.int .i64 (q:Int)/\Hid (GS w2.heap.size (w2.heap.size+1) wr P N (bQ aac own own.length m))/\Hid (AX w2.heap.size w6.heap.size w8.heap.size jh.heap.size wr P N (.slice ZU own.length c11) nv own ((List.range own.length).map fun j=>((3+j:Nat):Int)))/\Hid (Up w2 wr)) (fun i _=>aac.length - (intOf i).toNat)
         case atStart=>exact ⟨1,0,P,N,Yx,rfl,rfl,KL.out,Vz.out,xL.out⟩
         case round =>
          obtain ⟨q,m,P',N',hq,hqm,rfl,hG,hA,hU⟩:=hrel
          obtain ⟨wo,rfl⟩:∃wo:World,wo=wr:=⟨_,rfl⟩
          by_cases hlt:q<aac.length
          ·obtain ⟨nb',no',e1,hc1⟩:=dr wC.out hlt
           injection e1 with e1;injection e1 with e1 e2;subst e1;subst e2
           have hc1:=hU.out.cell hc1
           have OG:=hA.out.up (kz wo)
           obtain ⟨y1,y2,y3,_⟩:=OG.cells
           have i1:(0:Int)<=(q:Int):=by omega
           have i2:(q:Int)<(aac.length:Int):=by omega
           have sN:Hid (wo.drew.cell? ⟨w8.heap.size,0,none⟩=some (.slice ZU own.length c11)/\wo.drew.cell? ⟨Oe,no+q,none⟩=some (.string (gs aac q))):=⟨y2,(kz wo).cell hc1⟩
           have Ev:=aa (R4 Any wo.drew w8.heap.size jh.heap.size w6.heap.size _ nv own ((List.range own.length).map fun j=>((3+j:Nat):Int)) (q:Int) own.length y2 (OG.rows.sub fun _ _ _=>trivial) y3 (OG.qW.ints.sub fun _ _ _=>trivial) y1 (af _) (by simp) (fun j hj=>by simp [gi,hj]) (by have:=G3.out;omega) (fun j=>by
            by_cases hj:j<own.length
            ·have:=(FH.out j hj).len;have:=hn32;omega
            ·simp [gl,show own.length<=j by omega]))
           have HAD:=aa (Kh w2.heap.size (w2.heap.size+1) (bQ aac own own.length m) (gF own (q:Int) own.length) (gs aac q) wo.drew P' N' (hG.out.up (kz wo)) (by rw [(nX.out own.length m).1,(nX.out own.length m).2]) (by rw [(nX.out own.length m).1];have:=G3.out;omega))
           rw [show (bQ aac own own.length m).push (gF own (q:Int) own.length) (gs aac q)=bQ aac own own.length (m+1) by rw [hqm];exact Fb.out m] at HAD
           have bu:=aa hlt
           have HQM:=aa hqm
           have KL:=aa hG.out
           have Vz:=aa hA.out
           have xL:=aa hU.out
           clear hc1 OG y1 y2 y3 hG hA hU hlt hqm hq
           generalize gF own (q:Int) own.length=z at *
           generalize gs aac q=nm at *
           go_wp2_with fail
           refine gQ (by kernel_rfl) 11 (fun w'=>w'.cell? ⟨w8.heap.size,0,none⟩=some (.slice ZU own.length c11)/\w'.cell? ⟨Oe,no+q,none⟩=some (.string nm)) sN.out (fun hS=>?_)
           simp only [eW,aT,dO,Nat.reduceAdd,ji,jk,eV,cH,cr]
           refine aj.tk 0 hS ?_
           try simp only [Act.put,aA,aB,aC]
           refine aj.tk 1 hS ?_
           try simp only [Act.put,aA,aB,aC]
           refine aj.tk 2 hS ?_
           try simp only [Act.put,aA,aB,aC]
           refine aj.tk 3 hS ?_
           try simp only [Act.put,aA,aB,aC]
           refine aj.tk 4 hS ?_
           try simp only [Act.put,aA,aB,aC]
           refine aj.tk 6 hS ?_
           try simp only [Act.put,aA,aB,aC]
           refine aj.tk 7 hS ?_
           try simp only [Act.put,aA,aB,aC]
           refine aj.tk 8 hS ?_
           try simp only [Act.put,aA,aB,aC]
           refine aj.tk 9 hS ?_
           try simp only [Act.put,aA,aB,aC]
           refine aj.step (i:=5) rfl (by kernel_rfl) (fun K' hK=>?_)
           go_simp
           refine Ev.out.mono ?_
           rintro e w3' ⟨rfl,rfl⟩
           refine hK.out _ _ (fun _=>hS) (fun hS=>?_)
           replace hS:=hS ⟨10,by decide,rfl⟩
           try simp only [aA,aB,aC]
           refine aj.step (i:=10) rfl (by kernel_rfl) (fun K' hK=>?_)
           go_simp
           refine HAD.out.mono ?_
           rintro e w14 ⟨rfl,P14,N14,Wn,Wo⟩
           have R7:GK w2.heap.size wo w14 P' N' P14 N14:=(GK.JY (kz wo)).trans Wo
           have HA14:=aa (Vz.out.gk R7)
           have HU14:=aa (R7.ZM KL.out xL.out (af _))
           have HG14:=aa Wn
           clear Wn Wo R7
           refine hK.out _ _ (aO (by kernel_rfl)) (fun _=>?_)
           refine aj.done (by kernel_rfl) ?_
           go_wp2_with fail
           go_roundw
           case rel=>exact ⟨q+1,m+1,_,_,bu.out,by have:=HQM.out;omega,by go_num,HG14,HA14,HU14⟩
           case measure=>have:=bu.out;simp [intOf];omega
          ·obtain rfl:q=aac.length:=by omega
           have e1:m=aac.length - 1:=by omega
           have DC:GS w2.heap.size (w2.heap.size+1) wo P' N' (bT aac own):=by have h:=hG.out;rw [e1,HBA.out] at h;exact h
           obtain ⟨tc0,tc1,_,_⟩:=DC.cells
           have hT6:aI (fun b=>w2.heap.size+1<=b) wo (.agg #[P',N']) (bT aac own):=⟨P',N',rfl,DC.tl.dJ.ints,DC.tl.eH.strs⟩
           have nV:=aa (BP _ wo _ _ hT6 (by rw [<- HBA.out,(nX.out _ _).1];have:=ZV.out;omega) (by rw [<- HBA.out,(nX.out _ _).2];have:=ZV.out;omega) HNMB.out)
           have tB:=(bI hU.out w.heap.size D6.out).trans mP.out
           have B5:=aa tB
           have rj:=aa hU.out
           have Wb:Hid (w.heap.size<wo.heap.size):=js D6.out hU.out.size
           clear hG hA hU DC hT6 tB e1 hqm hlt
           go_wp2_with fail
           refine nV.out.mono ?_
           rintro e w18 ⟨gK,⟨hte,rfl⟩ | ⟨hte,cv,rfl,P8,N8,rfl,KX,EP⟩⟩
           ·exact absurd I1.out hte
           obtain ⟨p8,c8,rfl,_,_⟩:=ay.open KX
           obtain ⟨n8,d8,rfl,_,_⟩:=ay.open EP
           have Mn:=(bI gK w.heap.size Wb.out).trans B5.out
           obtain ⟨q0,q1,q2,q3⟩:=boxed Mn
           have jr:=aa (bd_fin Wb.out Mn ((bD.out.trans rj.out).trans gK) KX EP HX.out Wa.out)
           clear Mn gK hte KX EP
           go_wp2_with fail
           obtain ⟨s2,s3,hp⟩:=jr.out
           exact ⟨rfl,.tuple #[.agg #[.slice p8 _ c8,.slice n8 _ d8],.int .i64 0],by simp [results,Tryz.results19,go_sem,s2,s3],hp⟩
end Go.Proofs.YthgabkgmkolobaaGreat
