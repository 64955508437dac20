/- Reference 34: checkNames. .. -/
import Derived.Test.YthgabkgmkolobaaGreatQ36
import Derived.Test.YthgabkgmkolobaaGreatQ37
set_option maxRecDepth 100000
set_option maxHeartbeats 4000000
namespace Go.Proofs.YthgabkgmkolobaaGreat
section
open Go.RowKit Go.Deep
def ixK (amd:List ByteArray) (k:Nat):Int:=dD (amd.take k) (gs amd k)
theorem afc (amd:List ByteArray) {k:Nat} (hk:k<amd.length):cW amd k=decide (0<=ixK amd k):=by
 unfold ixK;have h1:0<=dD (amd.take k) (gs amd k)↔∃j,j<(amd.take k).length/\gs (amd.take k) j=gs amd k:=Gf;have h2:cW amd k=true↔∃j,j<k/\gs amd j=gs amd k:=by
  unfold cW;rw [dx];constructor
  ·rintro ⟨j,hj,h⟩;exact ⟨j,bu.1 hj,of_decide_eq_true h⟩
  ·rintro ⟨j,hj,h⟩;exact ⟨j,bu.2 hj,decide_eq_true h⟩
 have h3:(∃j,j<(amd.take k).length/\gs (amd.take k) j=gs amd k)↔∃j,j<k/\gs amd j=gs amd k:=by
  have hl:(amd.take k).length=k:=by rw [jl];omega
  rw [hl];constructor
  ·rintro ⟨j,hj,h⟩;exact ⟨j,hj,by rw [<- h];simp [gs,hj]⟩
  ·rintro ⟨j,hj,h⟩;exact ⟨j,hj,by rw [<- h];simp [gs,hj]⟩
 by_cases e:cW amd k=true
 ·rw [e,decide_eq_true (h1.2 (h3.2 (h2.1 e)))]
 ·rw [Bool.not_eq_true] at e
  rw [e,decide_eq_false fun h=>by rw [h2.2 (h3.1 (h1.1 h))] at e;cases e]
theorem KF (S:Nat->Prop) (w:World) (v:Value) (amd:List ByteArray) (h:aj S w v amd) (hn:amd.length<=1000000) (hz:∀k,(gs amd k).size<=70000) :
  Calls Tryz.prog 112 #[v] w fun e w'=>e=.returned (.int .i64 (eL amd))/\Up w w':=by
 obtain ⟨p,cap,rfl,hcap,_⟩:=aq.open h;have h:aj S w (.slice p amd.length cap) amd:=h;have HC:Hid (eL amd=if amd.length<2\/7<amd.length then 4 else bf (gW amd) amd.length):=rfl;have HN:=aa h;have HZ:=aa hz;clear h hz;by_cases h1:amd.length<2
 ·go_in
  go_wp2;go_ret;exact ⟨aC (by rw [HC.out,if_pos (.inl h1)]),Up.refl _⟩
 by_cases h2:7<amd.length
 ·go_in
  go_wp2;go_ret;exact ⟨aC (by rw [HC.out,if_pos (.inr h2)]),Up.refl _⟩
 have HF:Hid (eL amd=bf (gW amd) amd.length):=by unfold Hid;rw [HC.out,if_neg (by omega)]
 clear HC;have ve:Hid (∀k,k<amd.length->(∀j,j<k->gW amd j=0)->gW amd k≠0->eL amd=gW amd k):=fun k hk hj h0=>by rw [HF.out,eX hk hj h0]
 go_in;go_wp2
 go_loopw [3] (fun i wr=>∃k:Nat,k<=amd.length/\i=.int .i64 k/\Hid (Up w wr/\∀j,j<k->gW amd j=0)) (fun i _=>amd.length - (intOf i).toNat)
 case atStart=>exact ⟨0,aF _,rfl,Up.refl _,fun j hj=>absurd hj (aZ _)⟩
 case round =>
  obtain ⟨k,hk,rfl,hd⟩:=hrel;obtain ⟨wo,rfl⟩:=eM wr;by_cases hlt:k<amd.length
  ·have RO:=aj.keep HN.out (hd.out.1.kept S)
   obtain ⟨Ei,no,rfl,hc⟩:=cH RO hlt;have ij:=aa (ZO (gs amd k) (HZ.out k) wo);(have zh:Hid (∀W,Up wo W->∀m,Calls Tryz.prog 143 #[.slice (some ⟨Ei,no,none⟩) k cap,.string (gs amd k)] (W.drewN m) fun e w''=>e=.returned (.int .i64 (ixK amd k))/\∃m',w''=W.drewN m'):=fun W hW m=>by have h1:=E3 (aj.keep RO ((hW.trans (Up.drewN _ m)).kept S)) hk;(have h2:aj S (W.drewN m) (.slice (some ⟨Ei,no,none⟩) k cap) (amd.take k):=by (have hl:(amd.take k).length=k:=by rw [jl];omega);(have h3:=h1.congr (g:=fun j=>.string (gs (amd.take k) j)) fun j hj=>by simp [gs,hj]);unfold aj;rw [hl];exact h3);exact (Ky S (W.drewN m) _ (amd.take k) (gs amd k) h2 (by rw [jl];omega)).mono fun e w' ⟨h4,h5⟩=>⟨h4,m,h5.symm⟩);have qV:=aa (afc amd hlt);have zJ:=aa (ve.out k hlt hd.out.2);have zK:Hid (gW amd k=if bq (gs amd k).data.toList then (if cW amd k then 7 else 0) else 14):=rfl;generalize ixK amd k=ix at *;generalize gs amd k=nm at *;generalize cW amd k=bs at *;generalize bq nm.data.toList=bn at *;clear RO;cases bn
   ·have HE:Hid (gW amd k=14):=zK.out
    go_wp2_with fail;refine ij.out.mono ?_;rintro e w1 ⟨rfl,bK⟩;have cB:=aa (hd.out.1.trans bK);clear bK;go_wp2;go_ret;exact ⟨aC ((zJ.out (by rw [HE.out];decide)).trans HE.out).symm,cB.out⟩
   ·cases bs
    ·have HE:Hid (gW amd k=0):=zK.out
     go_wp2_with fail;refine ij.out.mono ?_;rintro e w1 ⟨rfl,bK⟩;have cB:=aa (hd.out.1.trans bK);have IV:=aa (zh.out w1 bK);have hc1:=(show Up wo w1 from bK).cell hc;(have d9:decide (0<=ix)=false:=by have:=qV.out;simp at this;simp;omega);clear bK;go_wp2;(go_quiet (with_reducible exact IV.out _));go_wp2
     go_roundw
     case rel=>exact ⟨k+1,by omega,by go_num,cB.out.trans (Up.drewN _ _),fun j hj=>if e:j=k then by subst e;exact HE.out else hd.out.2 j (by omega)⟩
     case measure=>simp [intOf];omega
    ·have HE:Hid (gW amd k=7):=zK.out
     go_wp2_with fail;refine ij.out.mono ?_;rintro e w1 ⟨rfl,bK⟩;have cB:=aa (hd.out.1.trans bK);have IV:=aa (zh.out w1 bK);have hc1:=(show Up wo w1 from bK).cell hc;(have d9:decide (0<=ix)=true:=by have:=qV.out;simp at this;simp;omega);clear bK;go_wp2;(go_quiet (with_reducible exact IV.out _));go_wp2;go_ret;exact ⟨aC ((zJ.out (by rw [HE.out];decide)).trans HE.out).symm,cB.out.trans (Up.drewN _ _)⟩
  ·obtain rfl:k=amd.length:=by omega
   (have EH:Hid (eL amd=0):=by unfold Hid;rw [HF.out,cG hd.out.2]);go_wp2;go_ret;exact ⟨aC EH.out.symm,hd.out.1⟩
theorem ZW {w:World} {v:Value} {qs:List RT} (h:CA w v qs):∃g cap,v=.slice (some ⟨g,0,none⟩) qs.length cap:=by
 obtain ⟨g,cap,es,e1,_⟩:=h;exact ⟨g,cap,e1⟩
theorem Sa {w:World} {g n cap:Nat} {qs:List RT} (h:CA w (.slice (some ⟨g,0,none⟩) n cap) qs) {k:Nat} (hk:k<qs.length) :
  ∃pp pc np nc,w.cell? ⟨g,k*3,none⟩=some (.slice pp (gt (qs.map flat) k).ps.length pc)/\w.cell? ⟨g,k*3+1,none⟩=some (.slice np (gt (qs.map flat) k).ns.length nc)/\w.cell? ⟨g,k*3+2,none⟩=some (.string (iU (qs.getD k (.node ByteArray.empty []))))/\aG Any w (.agg #[.slice pp (gt (qs.map flat) k).ps.length pc,.slice np (gt (qs.map flat) k).ns.length nc]) (gt (qs.map flat) k):=by
 obtain ⟨g',cap',es,e1,e2,h1,h2⟩:=h;injection e1 with e1;injection e1 with e1;injection e1 with e1;subst e1;subst e2;rw [aD] at hk;obtain ⟨c0,c1,c2⟩:=h1 k hk;have hg:gt ((es.map (·.2)).map flat) k=flat (ge es k).2:=by simp [gt,ge,hk]
 have hg2:(es.map (·.2)).getD k (.node ByteArray.empty [])=(ge es k).2:=by simp [ge,hk]
 have h3:=h2 _ (ag6 hk);rw [hg,hg2];obtain ⟨P1,N1,e,hP,hN⟩:=h3;injection e with e;have e1:(ge es k).1.1=P1/\(ge es k).1.2=N1:=by simpa using e
 obtain ⟨pp,pc,e2,_,_⟩:=aq.open hP;obtain ⟨np,nc,e3,_,_⟩:=aq.open hN;rw [<- e1.1] at e2;rw [<- e1.2] at e3;rw [e2] at c0;rw [e3] at c1;refine ⟨pp,pc,np,nc,c0,c1,c2,_,_,rfl,?_,?_⟩
 ·rw [<- e2,e1.1];exact hP
 ·rw [<- e3,e1.2];exact hN
theorem afd {ts:List ax} {n:Nat} (h:n<ts.length):ts.take (n+1)=ts.take n++[gt ts n]:=by
 rw [jQ h];simp [gt,h]
theorem Tn {W:World} {B:Nat} {v:Value} {xs:List Int} (h:af Any W v xs) (hb:W.heap[B]? = some (Obj.cells #[.slice none 0 0,.slice none 0 0] 39 (0,0))):af (fun b=>b≠B) W v xs:=by
 obtain ⟨p,c,e,hc,h⟩:=h;refine ⟨p,c,e,hc,?_⟩;rcases h with h | ⟨b,off,e2,_,h⟩
 ·exact .inl h
 ·by_cases h0:xs.length=0
  ·exact .inl h0
  ·refine .inr ⟨b,off,e2,fun eb=>?_,h⟩
   subst eb;have h1:=h 0 (by omega);rw [mZ] at h1;simp only [World.cell?,hb] at h1
   match off,h1 with
   | 0,h1=>simp at h1
   | 1,h1=>simp at h1
   | off+2,h1=>simp at h1
theorem Tp {W:World} {B:Nat} {v:Value} {xs:List ByteArray} (h:aj Any W v xs) (hb:W.heap[B]? = some (Obj.cells #[.slice none 0 0,.slice none 0 0] 39 (0,0))):aj (fun b=>b≠B) W v xs:=by
 obtain ⟨p,c,e,hc,h⟩:=h;refine ⟨p,c,e,hc,?_⟩;rcases h with h | ⟨b,off,e2,_,h⟩
 ·exact .inl h
 ·by_cases h0:xs.length=0
  ·exact .inl h0
  ·refine .inr ⟨b,off,e2,fun eb=>?_,h⟩
   subst eb;have h1:=h 0 (by omega);rw [mZ] at h1;simp only [World.cell?,hb] at h1
   match off,h1 with
   | 0,h1=>simp at h1
   | 1,h1=>simp at h1
   | off+2,h1=>simp at h1
theorem Tq {W:World} {B:Nat} {v:Value} {t:ax} (h:aG Any W v t) (hb:W.heap[B]? = some (Obj.cells #[.slice none 0 0,.slice none 0 0] 39 (0,0))):aG (fun b=>b≠B) W v t:=by
 obtain ⟨P,N,e,hP,hN⟩:=h;exact ⟨P,N,e,Tn hP hb,Tp hN hb⟩
theorem CI {base:Nat} {e:TypeId} {w w':World} {v:Value} {vs:List Value} (h:au base e w v vs) (k:Up w w'):au base e w' v vs:=by
 refine h.eH fun b hb=>?_;obtain ⟨_,h2⟩:=h;rcases h2 with ⟨e1,_⟩ | ⟨g,cap,cur,e1,hg,hc,_⟩
 ·subst e1;cases hb
 ·subst e1
  injection hb with hb;subst hb
  exact bH k _ (by
   rcases Nat.lt_or_ge g w.heap.size with h | h
   ·exact h
   ·rw [OA h] at hc;cases hc)
theorem mH.grow {vs:List Value} {P:Nat->Bool} {base:Nat} {w wr wr':World} {g cap:Nat} {X:List Value} {j:Nat} (h:mH vs P base w wr g cap j X) (k:Up wr wr'):mH vs P base w wr' g cap j X :=
 ⟨CI h.own k,h.len,h.head,h.rest,jw h.up (jZ k _)⟩
theorem mH.aiW {vs:List Value} {P:Nat->Bool} {base:Nat} {w wr:World} {g cap:Nat} {X:List Value} {j:Nat} (h:mH vs P base w wr g cap j X) (hP:P j=true):mH vs P base w wr g cap (j+1) X:=by
 have e:dH P (j+1)=dH P j:=by rw [tF,if_pos hP]
 exact ⟨h.own,h.len,by rw [e];exact h.head,by rw [e];exact h.rest,h.up⟩
theorem NU (g:Nat) (lb:Array Value) (eg:∀args w,(callFunc g args).run Tryz.prog w=.ok (.enter g args) w) (S:Nat->Prop) (w:World) (v:Value) (n:Nat) (f:Nat->Value) (p:Nat->Bool)
  (h:aq S w v n f) (hn:n<=1000000) (hp:∀k w',k<n->Up w w'->Calls Tryz.prog g (#[f k]++lb) w' fun e w''=>e=.returned (.bool (p k))/\Up w' w'') :
  Calls Tryz.prog 88 #[v,.func (.func g) #[] lb] w fun e w'=>e=.returned (.int .i64 (dr p n))/\Up w w':=by
 obtain ⟨q,cap,rfl,hcap,H⟩:=h.open;have HP:=aa hp;have HH:=aa H;clear h hp H;go_in;go_wp2
 go_loopw [5,8] (fun _ i wr=>∃k:Nat,k<=n/\i=.int .i64 k/\Hid (Up w wr)/\Hid (∀j,j<k->p j=false)) (fun _ i _=>n - (intOf i).toNat)
 case atStart=>exact ⟨0,aF _,rfl,Up.refl _,fun j hj=>absurd hj (aZ _)⟩
 case round =>
  obtain ⟨k,hk,rfl,hU,hd⟩:=hrel;obtain ⟨wo,rfl⟩:=eM wr;by_cases hlt:k<n
  ·obtain ⟨b,off,rfl,hc⟩:=HH.out k hlt
   have hc:=hU.out.cell hc;have r8:=aa (HP.out k wo hlt hU.out);cases hv:p k
   ·rw [hv] at r8
    have HV:=aa hv;clear hv;go_wp2_with fail;refine r8.out.mono ?_;rintro e w' ⟨rfl,mC⟩;have b7:=aa (hU.out.trans mC);clear mC;go_wp2
    go_roundw
    case rel=>exact ⟨k+1,by omega,by go_num,b7,fun j hj=>if e:j=k then by subst e;exact HV.out else hd.out j (by omega)⟩
    case measure=>simp [intOf];omega
   ·rw [hv] at r8
    have HV:=aa hv;clear hv;go_wp2_with fail;refine r8.out.mono ?_;rintro e w' ⟨rfl,mC⟩;have b7:=aa (hU.out.trans mC);clear mC;go_wp2;go_ret;exact ⟨aC (gG hlt hd.out HV.out).symm,b7.out⟩
  ·go_wp2
   go_ret;exact ⟨aC (dZ fun j hj=>hd.out j (by omega)).symm,hU.out⟩
theorem ZX {P:Nat->Bool} (g:Nat) (lb:Array Value) (eg:∀args w,(callFunc g args).run Tryz.prog w=.ok (.enter g args) w) {base:Nat} {w:World} {bk cap:Nat} {vs:List Value} (h:au base 26 w (.slice (some ⟨bk,0,none⟩) vs.length cap) vs) (hn:vs.length<=1000000)
  (kF:∀j,j<vs.length->∃q n c,mP vs j=.slice q n c)
  (hp:∀j,j<vs.length->∀W,w.grownBy W (some bk)->Calls Tryz.prog g (#[mP vs j]++lb) W fun e W'=>e=.returned (.bool (P j))/\Up W W') :
  Calls Tryz.prog 109 #[.slice (some ⟨bk,0,none⟩) vs.length cap,.func (.func g) #[] lb] w fun e w'=>∃m,e=.returned (.slice (some ⟨bk,0,none⟩) m cap)/\au base 26 w' (.slice (some ⟨bk,0,none⟩) m cap) ((dH P vs.length).map (mP vs))/\w.grownBy w' (some bk):=by
 have qV:=aa (NU g lb eg (fun b=>base<=b) w _ vs.length (mP vs) P h.uf hn fun k w' hk hu=>hp k hk w' (jZ hu _));have HO:=aa h;have HP:=aa hp;have sN:=aa kF;have hcap:vs.length<=cap:=Qu h;clear h hp kF;rcases Qv P vs.length with hno | ⟨j0,hj0,Uu,hno⟩
 ·have hall:(dH P vs.length).map (mP vs)=vs:=by
   rw [Lt hno]
   apply xL
   intro i
   by_cases hi:i<vs.length
   ·rw [kr,List.getElem?_range hi,vH hi];rfl
   ·rw [xM (by simp;omega),xM (by omega)]
  rw [dZ hno] at qV
  have HA:=aa hall
  clear hno hall hcap
  go_in
  go_wp2_with fail
  refine qV.out.mono ?_
  rintro e w1 ⟨rfl,hu⟩
  have HU:=aa hu
  clear hu
  go_wp2
  go_ret
  exact ⟨vs.length,rfl,by rw [HA.out];exact CI HO.out HU.out,jZ HU.out _⟩
 ·rw [gG hj0 hno Uu] at qV
  have HST:Hid (∀W,Up w W->mH vs P base w W bk cap (j0+1) vs/\(dH P (j0+1)).length=j0):=fun W hW=>by have h:=mH.start HO.out hj0 hno Uu 0;exact ⟨⟨CI HO.out hW,h.1.len,h.1.head,h.1.rest,jZ hW _⟩,h.2⟩
  have hjn:(j0:Int)<(vs.length:Int):=by omega
  have Nn:=aa hj0;have e1:((j0:Int) == -1)=false:=beq_eq_false_iff_ne.2 (by omega);have LI:=aa hcap;clear hno Uu hj0 hcap;go_in;go_wp2_with fail;refine qV.out.mono ?_;rintro e w1 ⟨rfl,bK⟩;obtain ⟨hS1,hS2⟩:=HST.out w1 bK;have lg:=aa hS1;have sg:=aa hS2;clear hS1 hS2 HST bK;go_wp2
  go_loopw [5,6,7] (fun x y _ wr=>∃j:Nat,j0<j/\j<=vs.length/\y=.int .i64 j/\x=.int .i64 ((dH P j).length:Nat)/\Hid (∃X,mH vs P base w wr bk cap j X)/\Hid ((dH P j).length<j)) (fun _ y _ _=>vs.length - (intOf y).toNat)
  case atStart=>exact ⟨j0+1,by omega,Nn.out,by go_num,by rw [sg.out],⟨_,lg.out⟩,by unfold Hid;rw [sg.out];omega⟩
  case round =>
   obtain ⟨j,hj1,hj,rfl,rfl,hX,hK⟩:=hrel;obtain ⟨wo,rfl⟩:=eM wr;obtain ⟨X,hX⟩:=hX.out;by_cases hlt:j<vs.length
   ·have hx:=hX.cells (q:=j) (by have:=hK.out;omega) hlt
    obtain ⟨q3,n3,d3,e3⟩:=sN.out j hlt;(have i1:(0:Int)<=(j:Int):=by omega);(have i2:(j:Int)<(vs.length:Int):=by omega);(have r8:Hid (Calls Tryz.prog g (#[.slice q3 n3 d3]++lb) wo fun e W'=>e=.returned (.bool (P j))/\Up wo W'):=by rw [<- e3];exact HP.out j hlt wo hX.up);have aR:=aa hlt;have EG:=aa hX;have HJ1:=aa hj1;have Kv:=aa e3;rw [e3] at hx;(have n1:(0:Int)<=((dH P j).length:Int):=by omega);(have n2:((dH P j).length:Int)<(vs.length:Int):=by have:=hK.out;omega);clear hX e3;cases hv:P j
    ·rw [hv] at r8
     have Y1:Hid (∀W,Up wo W->(∃x,W.cell? ⟨bk,(dH P j).length,none⟩=some x)/\W.frozen? ⟨bk,(dH P j).length,none⟩=false/\(dH P (j+1)).length=(dH P j).length+1 /\
       ∃X',mH vs P base w (W.setCell ⟨bk,(dH P j).length,none⟩ (.slice q3 n3 d3)) bk cap (j+1) X'):=fun W hW=>by
      have h:=(EG.out.grow hW).push aR.out hv hK.out
      rw [Kv.out] at h;exact h
     clear hv;go_wp2_with fail;refine r8.out.mono ?_;rintro e w2 ⟨rfl,aI⟩;obtain ⟨⟨cx,qx⟩,hff,hl,X',Y2⟩:=Y1.out w2 aI;have HX':=aa Y2;have HL:=aa hl;clear Y2 hl aI;go_wp2
     go_roundw
     case rel=>exact ⟨j+1,by have:=HJ1.out;omega,aR.out,by go_num,by rw [HL.out];go_num,⟨X',HX'.out⟩,by unfold Hid;have:=hK.out;rw [HL.out];omega⟩
     case measure=>have:=aR.out;simp [intOf];omega
    ·rw [hv] at r8
     have HN:Hid (∀W,Up wo W->mH vs P base w W bk cap (j+1) X):=fun W hW=>(EG.out.grow hW).aiW hv;(have HL:Hid ((dH P (j+1)).length=(dH P j).length):=by unfold Hid;rw [tF,if_pos hv]);clear hv;go_wp2_with fail;refine r8.out.mono ?_;rintro e w2 ⟨rfl,aI⟩;have oB:=aa (HN.out w2 aI);clear aI;go_wp2
     go_roundw
     case rel=>exact ⟨j+1,by have:=HJ1.out;omega,aR.out,by go_num,by rw [HL.out],⟨X,oB.out⟩,by unfold Hid;have:=hK.out;rw [HL.out];omega⟩
     case measure=>have:=aR.out;simp [intOf];omega
   ·obtain rfl:j=vs.length:=by omega
    obtain ⟨mm,hmm⟩:∃mm,(dH P vs.length).length=mm:=⟨_,rfl⟩;(have hml:mm<vs.length:=by rw [<- hmm];exact hK.out);obtain ⟨hc,hf,ho,hg⟩:=hX.done hmm hml;have Y3:=aa ho;have HG2:=aa hg;have c1:=LI.out;have D4:=Lib.run_clear_slice (P:=Tryz.prog) wo 23 26 0 (.slice none 0 0) Tryz.underlying23 Tryz.Ut rfl rfl bk mm (vs.length - mm) (cap - mm) (by omega) hc hf;rw [hmm];(have n1:(0:Int)<=(mm:Int):=by omega);(have n2:(mm:Int)<=(vs.length:Int):=by omega);(have n3:(mm:Int)<(vs.length:Int):=by omega);(have c2:mm<=cap:=by omega);(have c3:(mm:Int)<=(cap:Int):=by omega);clear hc hf ho hg hlt hj hX hK hmm;go_wp2;go_ret;exact ⟨mm,rfl,Y3.out,HG2.out⟩
def gR (amd:List ByteArray) (k:Nat):RT:=(gV amd).getD k (.node ByteArray.empty [])
theorem LJ {amd:List ByteArray} {k:Nat} (h:k<(gV amd).length):gt (allT amd) k=flat (gR amd k):=by
 unfold allT gR gt;simp [h]
theorem Sb {amd:List ByteArray} {k:Nat} (h:k<(gV amd).length):gR amd k∈gV amd:=by simp [gR,h]
theorem acU {amd:List ByteArray} (hn:nQ amd) {j k:Nat} (hj:j<(gV amd).length) (hk:k<(gV amd).length) (e:iU (gR amd j)=iU (gR amd k)):gR amd j=gR amd k:=by
 have e1:fu (gR amd j)=fu (gR amd k):=by have:=congrArg (fun b:ByteArray=>b.data.toList) e;simpa [iU] using this
 exact Yw (rY hn (Sb hj)).1.good.oJ (rY hn (Sb hk)).1.good.oJ (List.append_cancel_right e1)
def wS (amd:List ByteArray) (ame:List (List Int)) (k:Nat):Int:=jT (gt (allT amd) k) amd ame
def Hf (amd:List ByteArray) (ame:List (List Int)):Nat->List (ByteArray×Value)
 | 0=>[]
 | n+1=>vC (Hf amd ame n) (iU (gR amd n)) (.int .i64 (wS amd ame n))
theorem Sc (amd:List ByteArray) (ame:List (List Int)):∀n,AD (Hf amd ame n)
 | 0=>by unfold AD Hf;simp
 | n+1=>MZ (Sc amd ame n) _ _
theorem Sd {amd:List ByteArray} (hn:nQ amd) (ame:List (List Int)) {k:Nat} (hk:k<(gV amd).length):∀ {n:Nat},n<=(gV amd).length->k<n->(Hf amd ame n).lookup (iU (gR amd k))=some (.int .i64 (wS amd ame k))
 | 0,_,h=>absurd h (aZ _)
 | n+1,hle,h=>by
  rw [Hf,GQ]
  split
  ·rename_i e
   have e2:=acU hn hk (show n<_ by omega) e
   unfold wS
   rw [LJ hk,LJ (show n<_ by omega),e2]
  ·rename_i e
   have:k≠n:=fun e3=>e (by rw [e3])
   exact Sd hn ame hk (by omega) (by omega)
def wZ (amd:List ByteArray) (ame:List (List Int)) (n:Nat):List ax:=((allT amd).take n).filter fun t=>decide (jT t amd ame=qd amd ame)
theorem ZY {amd:List ByteArray} (ame:List (List Int)) {n:Nat} (h:n<(allT amd).length):wZ amd ame (n+1)=wZ amd ame n++if wS amd ame n=qd amd ame then [gt (allT amd) n] else []:=by
 unfold wZ wS;rw [afd h,rO];congr 1;by_cases e:jT (gt (allT amd) n) amd ame=qd amd ame
 ·rw [if_pos e];simp [e]
 ·rw [if_neg e];simp [e]
theorem acV (amd:List ByteArray) (ame:List (List Int)):wZ amd ame (allT amd).length=Dx amd ame:=by
 unfold wZ Dx;rw [fT]
theorem ZZ {amd:List ByteArray} {ame:List (List Int)} (hc:IL amd ame) {n:Nat} (h:n<(allT amd).length):0<=wS amd ame n/\wS amd ame n<=409600000:=by
 have ho:=(UF hc.nm (Zl h)).1;have h1:=Gk (f:=fun p=>fK (gt (allT amd) n) (pM (gt (allT amd) n) amd ame p) (eE 16)) (n:=(gl ame 0).length) fun p hp=>⟨Ev (Fw hc ho hp),L3 (Fw hc ho hp)⟩;have h2:=(R8 hc.ag).2;unfold wS jT;omega
def zP (amd:List ByteArray) (ame:List (List Int)) (n:Nat):Int:=Ed (wS amd ame) n
theorem Z0 {amd:List ByteArray} {ame:List (List Int)} (hc:IL amd ame):∀ {n:Nat},n<=(allT amd).length -> -1<=zP amd ame n/\zP amd ame n<=409600000
 | 0,_=>by unfold zP Ed;omega
 | n+1,h=>by
  have h1:=Z0 hc (n:=n) (by omega)
  have h2:=ZZ hc (n:=n) h
  unfold zP at h1 ⊢
  rw [ach]
  split<;>omega
theorem acW (amd:List ByteArray) (ame:List (List Int)) (n:Nat):zP amd ame (n+1)=if zP amd ame n<0\/wS amd ame n<zP amd ame n then wS amd ame n else zP amd ame n:=rfl
theorem afe (amd:List ByteArray) (ame:List (List Int)):zP amd ame (allT amd).length=qd amd ame:=rfl
def KG (amd:List ByteArray) (ame:List (List Int)):Int:=if mJ amd ame=0 then qd amd ame else 0
def KH (amd:List ByteArray) (ame:List (List Int)):List ax:=if mJ amd ame=0 then Dx amd ame else []
def IZ (w:World) (amd:List ByteArray) (ame:List (List Int)) (e:Ending) (w':World):Prop :=
 Up w w'/\∃v,e=.returned (.tuple #[v,.int .i64 (KG amd ame),.int .i64 (mJ amd ame)])/\fQ Any w' v (KH amd ame)
def BeI (w:World) (amd:List ByteArray) (ame:List (List Int)) (n:Nat) (wr:World):Prop:=Up w wr/\SMap wr w.heap.size (Hf amd ame n)
def BeJ (w:World) (amd:List ByteArray) (ame:List (List Int)) (n:Nat) (out:Value) (wr:World):Prop:=Up w wr/\∃es:List tH,qM w.heap.size wr out es/\es.map (·.2)=wZ amd ame n
theorem aff {amd:List ByteArray} (hn:nQ amd) {k:Nat} (h:k<(gV amd).length):aA (gt (allT amd) k)=0/\mV (gt (allT amd) k) amd=true/\∀i,(gs (gt (allT amd) k).ns i).size<=70000:=by
 have h2:k<(allT amd).length:=by unfold allT;rw [aD];exact h
 have ho:=(UF hn (Zl h2)).1;refine ⟨ho.te,(Kn hn ho.te).2 ho,?_⟩;rw [LJ h];exact BG (rY hn (Sb h)).1.good
theorem acX (S:Nat->Prop) (w:World) (v vs:Value) (amd:List ByteArray) (ame:List (List Int)) (h:aj S w v amd) (hn:amd.length<=1000000) (hz:∀k,(gs amd k).size<=70000) (hS:aT S w vs ame) (B6:ame.length<=1000000) (hr:∀k,(gl ame k).length<=1000000) (h5:amd.length<=5\/7<amd.length) :
  Calls Tryz.prog 17 #[v,vs] w (IZ w amd ame):=by
 have gw:=aa (Zz S w v vs amd ame h hn hz hS B6 hr);obtain ⟨mp,mc,rfl,-,-⟩:=aq.open h;have h:aj S w (.slice mp amd.length mc) amd:=h;obtain ⟨sp,sc,rfl,-,-⟩:=dy hS;have HN:=aa h;have HS:=aa hS;have uk:Hid (mJ amd ame=0->IL amd ame):=WX h5;clear h hS hz hr h5;go_in;go_wp2_with fail;refine gw.out.mono ?_;rintro e w1 ⟨rfl,bK⟩;by_cases c1:mJ amd ame=0
 ·have hc:=uk.out c1
  have Ri:=aa (Zc S w1 _ amd hc.nm (aj.keep HN.out (bK.kept S)));have HC:=aa hc;have s6:Hid (∀W v,Up w W->fQ Any W v (Dx amd ame)->IZ w amd ame (.returned (.tuple #[v,.int .i64 (qd amd ame),.int .i64 0])) W):=fun W v hu ht=>⟨hu,v,by unfold KG;rw [c1];rfl,by unfold KH;rw [if_pos c1];exact ht⟩;have hl0:(allT amd).length=(gV amd).length:=by unfold allT;rw [aD]
  have jC:(gV amd).length<=15:=by rw [Wc hc.nm];split<;>(try split)<;>(try split)<;>omega
  have HL:=aa (And.intro hl0 jC);have cB:=aa bK;rw [c1];clear c1 hc bK hl0 jC gw uk;go_wp2_with fail;refine Ri.out.mono ?_;rintro e w2 ⟨aI,ev,rfl,hev⟩;obtain ⟨eg,ec,rfl⟩:=ZW hev;have b7:=aa (cB.out.trans aI);have xD:=aa hev;have oB:=aa (aj.keep HN.out (b7.out.kept S));have sg:=aa (aT.keep HS.out (b7.out.kept S));have uK:Hid (BeI w2 amd ame 0 (w2.alloc (.map #[] 0))):=⟨Up.alloc _ _,SMap.made _⟩;have hmm:=fun W=>run_makeMap (P:=Tryz.prog) 94 W;clear aI hev Ri cB;go_wp2_with fail;clear hmm
  go_loopw [4,5,6,11,13,14,15,36] (fun _ _ _ s _ _ _ i wr=>∃n:Nat,n<=(gV amd).length/\i=.int .i64 n/\s=.int .i64 (zP amd ame n)/\Hid (BeI w2 amd ame n wr)) (fun _ _ _ _ _ _ _ i _=>(gV amd).length - (intOf i).toNat)
  case atStart=>exact ⟨0,aF _,rfl,rfl,uK.out⟩
  case round =>
   obtain ⟨n,hn,rfl,rfl,hI⟩:=hrel;obtain ⟨wo,rfl⟩:=eM wr;obtain ⟨uX,hM⟩:=hI.out;by_cases hlt:n<(gV amd).length
   ·obtain ⟨pp,pc,np,nc,c0,c1,c2,hT⟩:=Sa xD.out hlt
    replace c0:=uX.cell c0;replace c1:=uX.cell c1;replace c2:wo.cell? ⟨eg,n*3+2,none⟩=some (.string (iU (gR amd n))):=uX.cell c2;obtain ⟨te,fi,tz⟩:=aff HC.out.nm hlt;have hbd:=ZZ HC.out (n:=n) (by rw [HL.out.1];exact hlt);have hmb:=Z0 HC.out (n:=n) (by rw [HL.out.1];exact hn);have U5:=aa (acW amd ame n);(have hsc:Bc (gt (allT amd) n) amd ame=.tuple #[.int .i64 (wS amd ame n),.int .i64 0]:=by unfold Bc wS;rw [fi];rfl);replace hT:aG Any wo (.agg #[.slice pp (gt (allT amd) n).ps.length pc,.slice np (gt (allT amd) n).ns.length nc]) (gt (allT amd) n):=aG.keep hT (uX.kept _);replace c0:wo.cell? ⟨eg,n*3,none⟩=some (.slice pp (gt (allT amd) n).ps.length pc):=c0;replace c1:wo.cell? ⟨eg,n*3+1,none⟩=some (.slice np (gt (allT amd) n).ns.length nc):=c1;(have HSC:Hid (∀W,Up wo W->Calls Tryz.prog 69 #[.agg #[.slice pp (gt (allT amd) n).ps.length pc,.slice np (gt (allT amd) n).ns.length nc],.slice mp amd.length mc,.slice sp ame.length sc] W fun e w'=>e=.returned (.tuple #[.int .i64 (wS amd ame n),.int .i64 0])/\Up W w'):=fun W hW=>by rw [<- hsc];exact ZU Any W _ _ _ _ amd ame (hT.keep (hW.kept _)) te tz ((aj.keep oB.out ((uX.trans hW).kept S)).sub fun _ _ _=>trivial) ((aT.keep sg.out ((uX.trans hW).kept S)).sub fun _ _ _=>trivial) HC.out);have HMS:Hid (Hf amd ame (n+1)=vC (Hf amd ame n) (iU (gR amd n)) (.int .i64 (wS amd ame n))):=rfl;have HUQ:=aa (Sc amd ame n);have HMo:=aa hM;have lu:=aa uX;have aR:=aa hlt;(have i4:(n:Int)<((gV amd).length:Int):=by omega);(have i5:(n:Int)<16:=by have:=HL.out.2;omega);clear hI uX hM te fi tz hsc hlt;generalize gt (allT amd) n=q at *;generalize iU (gR amd n)=key at *;(have dJ:Hid (Up wo (wo.alloc (.cells #[.slice pp q.ps.length pc,.slice np q.ns.length nc,.string key] 96))/\(wo.alloc (.cells #[.slice pp q.ps.length pc,.slice np q.ns.length nc,.string key] 96)).cell? ⟨wo.heap.size,2,none⟩=some (.string key)/\(wo.alloc (.cells #[.slice pp q.ps.length pc,.slice np q.ns.length nc,.string key] 96)).heap[w2.heap.size]? = wo.heap[w2.heap.size]?):=by refine ⟨Up.alloc _ _,aS wo _ _ 2,bH (Up.alloc wo _) _ HMo.out.lt⟩);have ahR:=aa (HSC.out _ dJ.out.1);generalize wS amd ame n=f at *;generalize zP amd ame n=m at *;go_wp2_with fail;generalize wo.alloc (.cells #[.slice pp q.ps.length pc,.slice np q.ns.length nc,.string key] 96)=w7 at *;refine ahR.out.mono ?_;rintro e w9 ⟨rfl,qK⟩;obtain ⟨nZ,hk7,hm7⟩:=dJ.out;have hk9:=qK.cell hk7;have hM9:SMap w9 w2.heap.size (Hf amd ame n):=HMo.out.same ((bH qK _ (by have:=nZ.size;have:=HMo.out.lt;omega)).trans hm7);have U6:=(lu.out.trans nZ).trans qK;obtain ⟨w5,hrun,ZF,hs5,xx,ZG,RQ,qW⟩:=Qx (P:=Tryz.prog) Tryz.underlying94 Tryz.underlying9 hM9 HUQ.out key (.int .i64 f)
    have HI5:Hid (BeI w2 amd ame (n+1) w5):=⟨⟨xx.trans U6.os,ZG.trans U6.tape,RQ.trans U6.output,by rw [hs5];exact U6.size,fun b hb=>(qW b (by omega)).trans (U6.block b hb)⟩,by rw [HMS.out];exact ZF⟩;clear ZF hs5 xx ZG RQ qW hM9 U6 qK nZ hk7 hm7 dJ HSC ahR hT c0 c1 c2;by_cases e1:m<0
    ·have HE:Hid (zP amd ame (n+1)=f):=by unfold Hid;rw [U5.out,if_pos (.inl e1)]
     (have d1:decide (m<0)=true:=by simp [e1]);clear U5 e1;go_wp2
     go_roundw
     case rel=>exact ⟨n+1,aR.out,by go_num,by rw [HE.out],HI5.out⟩
     case measure=>have:=aR.out;simp [intOf];omega
    ·have d1:decide (m<0)=false:=by simp;omega
     by_cases e2:f<m
     ·have HE:Hid (zP amd ame (n+1)=f):=by unfold Hid;rw [U5.out,if_pos (.inr e2)]
      (have d2:decide (f<m)=true:=by simp [e2]);clear U5 e1 e2;go_wp2
      go_roundw
      case rel=>exact ⟨n+1,aR.out,by go_num,by rw [HE.out],HI5.out⟩
      case measure=>have:=aR.out;simp [intOf];omega
     ·have HE:Hid (zP amd ame (n+1)=m):=by unfold Hid;rw [U5.out,if_neg (by omega)]
      (have d2:decide (f<m)=false:=by simp;omega);clear U5 e1 e2;go_wp2
      go_roundw
      case rel=>exact ⟨n+1,aR.out,by go_num,by rw [HE.out],HI5.out⟩
      case measure=>have:=aR.out;simp [intOf];omega
   ·obtain rfl:n=(gV amd).length:=by omega
    have HMB:=aa hM;have PY:=aa uX;have HEB:=aa (xD.out.keep uX);have Nn:Hid (BeJ wo amd ame 0 (.slice none 0 0) wo):=⟨Up.refl _,[],qM.nil _ _,by simp [wZ]⟩;(have ahS:zP amd ame (gV amd).length=qd amd ame:=by rw [<- HL.out.1];exact afe amd ame);rw [ahS];clear hI uX hM hlt ahS;have akg:=aa (fun W v (hu:Up wo W) ht=>s6.out W v ((b7.out.trans PY.out).trans hu) ht);go_wp2
    go_loopw [16,18,66] (fun out _ i wr=>∃k:Nat,k<=(gV amd).length/\i=.int .i64 k/\Hid (BeJ wo amd ame k out wr)) (fun _ _ i _=>(gV amd).length - (intOf i).toNat)
    case atStart=>exact ⟨0,aF _,rfl,Nn.out⟩
    case round =>
     obtain ⟨k,hk,rfl,hI⟩:=hrel;obtain ⟨wi,rfl⟩:=eM wr;obtain ⟨xG,es,hes,hem⟩:=hI.out;by_cases hlt:k<(gV amd).length
     ·obtain ⟨pp,pc,np,nc,c0,c1,c2,hT⟩:=Sa HEB.out hlt
      replace c0:=xG.cell c0;replace c1:=xG.cell c1;replace c2:wi.cell? ⟨eg,k*3+2,none⟩=some (.string (iU (gR amd k))):=xG.cell c2;(have hlt2:k<(allT amd).length:=by rw [HL.out.1];exact hlt);have Ca:=aa (ZY ame hlt2);have ad3:=Sd HC.out.nm ame hlt (n:=(gV amd).length) (ah _) hlt;replace hT:aG (fun b=>b<wo.heap.size) wi (.agg #[.slice pp (gt (allT amd) k).ps.length pc,.slice np (gt (allT amd) k).ns.length nc]) (gt (allT amd) k):=aG.keep (hT.sub fun b _ hb=>hb) (xG.kept _);replace c0:wi.cell? ⟨eg,k*3,none⟩=some (.slice pp (gt (allT amd) k).ps.length pc):=c0;replace c1:wi.cell? ⟨eg,k*3+1,none⟩=some (.slice np (gt (allT amd) k).ns.length nc):=c1;generalize gt (allT amd) k=q at *;generalize iU (gR amd k)=key at *;have fO:=Up.alloc wi (.cells #[.slice pp q.ps.length pc,.slice np q.ns.length nc,.string key] 96);have hM7:SMap (wi.alloc (.cells #[.slice pp q.ps.length pc,.slice np q.ns.length nc,.string key] 96)) w2.heap.size (Hf amd ame (gV amd).length):=HMB.out.same (bH (xG.trans fO) _ HMB.out.lt);have hlk:=Fa (P:=Tryz.prog) Tryz.underlying94 Tryz.underlying9 (abF _) hM7 key;rw [ad3] at hlk;simp only [Option.getD_some] at hlk;obtain ⟨op,oc,rfl⟩:=hes.form;obtain ⟨m,hm⟩:∃m,es.length=m:=⟨_,rfl⟩;(have hmk:m<=k:=by rw [<- hm];have:=congrArg List.length hem;rw [aD] at this;rw [this];unfold wZ;exact aB (mN _ _) (by rw [jl];omega));rw [hm];(have Nz:Hid (qM wo.heap.size (wi.alloc (.cells #[.slice pp q.ps.length pc,.slice np q.ns.length nc,.string key] 96)) (.slice op m oc) es):=by have h:=hes.up fO;rw [hm] at h;exact h);(have HTU:Hid (aG (fun b=>some b≠(Value.slice op m oc).ownBlock) (wi.alloc (.cells #[.slice pp q.ps.length pc,.slice np q.ns.length nc,.string key] 96)) (.agg #[.slice pp q.ps.length pc,.slice np q.ns.length nc]) q):=by have h2:=hes.1;rw [hm] at h2;exact (hT.keep (fO.kept _)).sub fun b hb _ e=>by have:=(sJ h2 b e.symm).1;omega);have UY:=aa (xG.trans fO);have Zf:=aa hem;have ML:=aa hm;have aR:=aa hlt;(have i4:(k:Int)<((gV amd).length:Int):=by omega);(have i5:(k:Int)<16:=by have:=HL.out.2;omega);(have HMK:Hid (m<=1000000):=by have:=HL.out.2;unfold Hid;omega);clear hI xG hes hem hlt hlt2 hT fO hm ad3 hM7 hmk;generalize wS amd ame k=f at *;generalize qd amd ame=le at *;by_cases e1:f=le
      ·have d1:(f==le)=true:=by simp [e1]
       (have NV:Hid (wZ amd ame (k+1)=wZ amd ame k++[q]):=by unfold Hid;rw [Ca.out,if_pos e1]);subst e1;go_wp2_with (at_builtin;refine Rq _ rfl _ _ 33 rfl wo.heap.size _ 48 Tryz.underlying33 Tryz.infoTree rfl (by decide) Nz.out rfl ((.slice pp q.ps.length pc,.slice np q.ns.length nc),q) (by rw [aQ];rfl) HTU.out m ML.out HMK.out UY.out.size ?_;intro g8 kM w8 gp jr Rj;have Ze:=aa gp;have wN:=aa Rj;clear gp jr Rj)
       go_roundw
       case rel=>exact ⟨k+1,aR.out,by go_num,iz (show Below wo.heap.size wo _ from UY.out) wN.out,_,Ze.out,by rw [NV.out,cg,Zf.out];rfl⟩
       case measure=>have:=aR.out;simp [intOf];omega
      ·have d1:(f==le)=false:=by simp [e1]
       (have NV:Hid (wZ amd ame (k+1)=wZ amd ame k):=by unfold Hid;rw [Ca.out,if_neg e1,eG]);clear e1;go_wp2
       go_roundw
       case rel=>exact ⟨k+1,aR.out,by go_num,UY.out,_,Nz.out,by rw [NV.out,Zf.out]⟩
       case measure=>have:=aR.out;simp [intOf];omega
     ·obtain rfl:k=(gV amd).length:=by omega
      (have Rk:es.map (·.2)=Dx amd ame:=by rw [hem,<- HL.out.1,acV]);obtain ⟨op,oc,rfl⟩:=hes.form;have CB:=aa (akg.out wi _ xG (Rk ▸ hes.trees));clear hI xG hes hem Rk hlt;go_wp2_with fail;exact ⟨rfl,.tuple #[.slice op es.length oc,.int .i64 (qd amd ame),.int .i64 0],by simp [results,Tryz.results17,go_sem],CB.out⟩
 ·have s6:Hid (IZ w amd ame (.returned (.tuple #[.slice none 0 0,.int .i64 0,.int .i64 (mJ amd ame)])) w1):=by
   refine ⟨bK,.slice none 0 0,?_,?_⟩
   ·unfold KG;rw [if_neg c1]
   ·unfold KH;rw [if_neg c1];exact fQ.nil _ _
  generalize mJ amd ame=a at *
  clear bK gw
  go_wp2_with fail
  exact ⟨rfl,.tuple #[.slice none 0 0,.int .i64 0,.int .i64 a],by simp [results,Tryz.results17,go_sem],s6.out⟩
end
end Go.Proofs.YthgabkgmkolobaaGreat
