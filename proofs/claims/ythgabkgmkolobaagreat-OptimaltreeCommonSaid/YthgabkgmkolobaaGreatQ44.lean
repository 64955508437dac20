/- The contract of slices.DeleteFunc at nodes. slices.IndexFunc, slices.DeleteFunc at rows, .. -/
import Derived.Test.YthgabkgmkolobaaGreatQ40
import Derived.Test.YthgabkgmkolobaaGreatQ37
import Derived.Test.YthgabkgmkolobaaGreatQ38
set_option maxRecDepth 100000
set_option maxHeartbeats 4000000
namespace Go.Proofs.YthgabkgmkolobaaGreat
section
open Go.RowKit Go.Deep
theorem WK (p:Nat->Bool):∀n,(∀j,j<n->p j=false)\/∃j,j<n/\p j=true/\∀i,i<j->p i=false
 | 0=>.inl fun j hj=>absurd hj (bG _)
 | n+1=>by
  rcases WK p n with h | ⟨j,h1,h2,h3⟩
  ·cases hp:p n
   ·exact .inl fun j hj=>if e:j=n then by subst e;exact hp else h j (by omega)
   ·exact .inr ⟨n,by omega,hp,h⟩
  ·exact .inr ⟨j,by omega,h2,h3⟩
theorem oG.grow {vs:List Value} {P:Nat->Bool} {base:Nat} {w wr wr':World} {g cap:Nat} {X:List Value} {j:Nat} (h:oG vs P base w wr g cap j X) (k:Up wr wr'):oG vs P base w wr' g cap j X :=
 ⟨yu h.own k,h.len,h.head,h.rest,kO h.up (lG k _)⟩
theorem oG.skipG {vs:List Value} {P:Nat->Bool} {base:Nat} {w wr:World} {g cap:Nat} {X:List Value} {j:Nat} (h:oG vs P base w wr g cap j X) (hP:P j=true):oG vs P base w wr g cap (j+1) X:=by
 have e:eM P (j+1)=eM P j:=by rw [vL,if_pos hP]
 exact ⟨h.own,h.len,by rw [e];exact h.head,by rw [e];exact h.rest,h.up⟩
theorem JK (g:Nat) (lb:Array Value) (eg:∀args w,(callFunc g args).run Tryz.prog w=.ok (.enter g args) w) (S:Nat->Prop) (w:World) (v:Value) (n:Nat) (f:Nat->Value) (p:Nat->Bool)
  (h:ay S w v n f) (hn:n<=1000000) (hp:∀k w',k<n->Up w w'->Calls Tryz.prog g (#[f k]++lb) w' fun e w''=>e=.returned (.bool (p k))/\Up w' w'') :
  Calls Tryz.prog 88 #[v,.func (.func g) #[] lb] w fun e w'=>e=.returned (.int .i64 (dI p n))/\Up w w':=by
 obtain ⟨q,cap,rfl,hcap,H⟩:=h.open;have HP:=aa hp;have HH:=aa H;clear h hp H
 go_enter Tryz.func88,Tryz.ntmps88
 go_wp2_with fail
 go_loopw [5,8] (fun _ i wr=>∃k:Nat,k<=n/\i=.int .i64 k/\Hid (Up w wr)/\Hid (∀j,j<k->p j=false)) (fun _ i _=>n - (intOf i).toNat)
 case atStart=>exact ⟨0,aL _,rfl,Up.refl _,fun j hj=>absurd hj (bG _)⟩
 case round =>
  obtain ⟨k,hk,rfl,hU,hd⟩:=hrel;obtain ⟨wo,rfl⟩:∃wo:World,wo=wr:=⟨_,rfl⟩;by_cases hlt:k<n
  ·obtain ⟨b,off,rfl,hc⟩:=HH.out k hlt
   have hc:=hU.out.cell hc;have pJ:=aa (HP.out k wo hlt hU.out);cases hv:p k
   ·rw [hv] at pJ
    have HV:=aa hv;clear hv;go_wp2_with fail;refine pJ.out.mono ?_;rintro e w' ⟨rfl,kL⟩;have bD:=aa (hU.out.trans kL);clear kL;go_wp2_with fail
    go_roundw
    case rel=>exact ⟨k+1,by omega,by go_num,bD,fun j hj=>if e:j=k then by subst e;exact HV.out else hd.out j (by omega)⟩
    case measure=>simp [intOf];omega
   ·rw [hv] at pJ
    have HV:=aa hv;clear hv;go_wp2_with fail;refine pJ.out.mono ?_;rintro e w' ⟨rfl,kL⟩;have bD:=aa (hU.out.trans kL);clear kL;go_wp2_with fail;go_ret;exact ⟨aM (iK hlt hd.out HV.out).symm,bD.out⟩
  ·go_wp2_with fail
   go_ret;exact ⟨aM (fI fun j hj=>hd.out j (by omega)).symm,hU.out⟩
theorem deleteF_t {P:Nat->Bool} (g:Nat) (lb:Array Value) (eg:∀args w,(callFunc g args).run Tryz.prog w=.ok (.enter g args) w) {base:Nat} {w:World} {bk cap:Nat} {vs:List Value} (h:ax base 26 w (.slice (some ⟨bk,0,none⟩) vs.length cap) vs) (hn:vs.length<=1000000)
  (jf:∀j,j<vs.length->∃q n c,pQ vs j=.slice q n c)
  (hp:∀j,j<vs.length->∀W,w.grownBy W (some bk)->Calls Tryz.prog g (#[pQ vs j]++lb) W fun e W'=>e=.returned (.bool (P j))/\Up W W') :
  Calls Tryz.prog 109 #[.slice (some ⟨bk,0,none⟩) vs.length cap,.func (.func g) #[] lb] w fun e w'=>∃m,e=.returned (.slice (some ⟨bk,0,none⟩) m cap)/\ax base 26 w' (.slice (some ⟨bk,0,none⟩) m cap) ((eM P vs.length).map (pQ vs))/\w.grownBy w' (some bk):=by
 have vU:=aa (JK g lb eg (fun b=>base<=b) w _ vs.length (pQ vs) P h.vz hn fun k w' hk hu=>hp k hk w' (lG hu _));have HO:=aa h;have HP:=aa hp;have gH:=aa jf;have hcap:vs.length<=cap:=VN h;clear h hp jf;rcases WK P vs.length with hno | ⟨j0,hj0,Zs,hno⟩
 ·have hall:(eM P vs.length).map (pQ vs)=vs:=by
   rw [PC hno]
   apply wN
   intro i
   by_cases hi:i<vs.length
   ·rw [jA,List.getElem?_range hi,yj hi];rfl
   ·rw [vh (by simp;omega),vh (by omega)]
  rw [fI hno] at vU
  have HA:=aa hall
  clear hno hall hcap
  go_enter Tryz.func109,Tryz.ntmps109
  go_wp2_with fail
  refine vU.out.mono ?_
  rintro e w1 ⟨rfl,hu⟩
  have HU:=aa hu
  clear hu
  go_wp2_with fail
  go_ret
  exact ⟨vs.length,rfl,by rw [HA.out];exact yu HO.out HU.out,lG HU.out _⟩
 ·rw [iK hj0 hno Zs] at vU
  have HST:Hid (∀W,Up w W->oG vs P base w W bk cap (j0+1) vs/\(eM P (j0+1)).length=j0):=fun W hW=>by have h:=oG.start HO.out hj0 hno Zs 0;exact ⟨⟨yu HO.out hW,h.1.len,h.1.head,h.1.rest,lG hW _⟩,h.2⟩
  have hjn:(j0:Int)<(vs.length:Int):=by omega
  have G5:=aa hj0;have e1:((j0:Int) == -1)=false:=beq_eq_false_iff_ne.2 (by omega);have HCAP:=aa hcap;clear hno Zs hj0 hcap
  go_enter Tryz.func109,Tryz.ntmps109
  go_wp2_with fail;refine vU.out.mono ?_;rintro e w1 ⟨rfl,bA⟩;obtain ⟨hS1,hS2⟩:=HST.out w1 bA;have lN:=aa hS1;have oQ:=aa hS2;clear hS1 hS2 HST bA;go_wp2_with fail
  go_loopw [5,6,7] (fun x y _ wr=>∃j:Nat,j0<j/\j<=vs.length/\y=.int .i64 j/\x=.int .i64 ((eM P j).length:Nat)/\Hid (∃X,oG vs P base w wr bk cap j X)/\Hid ((eM P j).length<j)) (fun _ y _ _=>vs.length - (intOf y).toNat)
  case atStart=>exact ⟨j0+1,by omega,G5.out,by go_num,by rw [oQ.out],⟨_,lN.out⟩,by unfold Hid;rw [oQ.out];omega⟩
  case round =>
   obtain ⟨j,hj1,hj,rfl,rfl,hX,hK⟩:=hrel;obtain ⟨wo,rfl⟩:∃wo:World,wo=wr:=⟨_,rfl⟩;obtain ⟨X,hX⟩:=hX.out;by_cases hlt:j<vs.length
   ·have hx:=hX.cells (q:=j) (by have:=hK.out;omega) hlt
    obtain ⟨q3,n3,d3,e3⟩:=gH.out j hlt;(have i1:(0:Int)<=(j:Int):=by omega);(have i2:(j:Int)<(vs.length:Int):=by omega);(have pJ:Hid (Calls Tryz.prog g (#[.slice q3 n3 d3]++lb) wo fun e W'=>e=.returned (.bool (P j))/\Up wo W'):=by rw [<- e3];exact HP.out j hlt wo hX.up);have bu:=aa hlt;have Nn:=aa hX;have HJ1:=aa hj1;have OI:=aa e3;rw [e3] at hx;(have n1:(0:Int)<=((eM P j).length:Int):=by omega);(have n2:((eM P j).length:Int)<(vs.length:Int):=by have:=hK.out;omega);clear hX e3;cases hv:P j
    ·rw [hv] at pJ
     have K9:Hid (∀W,Up wo W->(∃x,W.cell? ⟨bk,(eM P j).length,none⟩=some x)/\W.frozen? ⟨bk,(eM P j).length,none⟩=false/\(eM P (j+1)).length=(eM P j).length+1 /\
       ∃X',oG vs P base w (W.setCell ⟨bk,(eM P j).length,none⟩ (.slice q3 n3 d3)) bk cap (j+1) X'):=fun W hW=>by
      have h:=(Nn.out.grow hW).push bu.out hv hK.out
      rw [OI.out] at h;exact h
     clear hv;go_wp2_with fail;refine pJ.out.mono ?_;rintro e w2 ⟨rfl,aK⟩;obtain ⟨⟨cx,xI⟩,hff,hl,X',hX'⟩:=K9.out w2 aK;have HX':=aa hX';have HL:=aa hl;clear hX' hl aK;go_wp2_with fail
     go_roundw
     case rel=>exact ⟨j+1,by have:=HJ1.out;omega,bu.out,by go_num,by rw [HL.out];go_num,⟨X',HX'.out⟩,by unfold Hid;have:=hK.out;rw [HL.out];omega⟩
     case measure=>have:=bu.out;simp [intOf];omega
    ·rw [hv] at pJ
     have HN:Hid (∀W,Up wo W->oG vs P base w W bk cap (j+1) X):=fun W hW=>(Nn.out.grow hW).skipG hv;(have HL:Hid ((eM P (j+1)).length=(eM P j).length):=by unfold Hid;rw [vL,if_pos hv]);clear hv;go_wp2_with fail;refine pJ.out.mono ?_;rintro e w2 ⟨rfl,aK⟩;have wC:=aa (HN.out w2 aK);clear aK;go_wp2_with fail
     go_roundw
     case rel=>exact ⟨j+1,by have:=HJ1.out;omega,bu.out,by go_num,by rw [HL.out],⟨X,wC.out⟩,by unfold Hid;have:=hK.out;rw [HL.out];omega⟩
     case measure=>have:=bu.out;simp [intOf];omega
   ·obtain rfl:j=vs.length:=by omega
    obtain ⟨mm,hmm⟩:∃mm,(eM P vs.length).length=mm:=⟨_,rfl⟩;(have hml:mm<vs.length:=by rw [<- hmm];exact hK.out);obtain ⟨hc,hf,ho,hg⟩:=hX.done hmm hml;have HO2:=aa ho;have HG2:=aa hg;have c1:=HCAP.out;have qV:=Lib.run_clear_slice (P:=Tryz.prog) wo 23 26 0 (.slice none 0 0) Tryz.underlying23 Tryz.Zr rfl rfl bk mm (vs.length - mm) (cap - mm) (by omega) hc hf;rw [hmm];(have n1:(0:Int)<=(mm:Int):=by omega);(have n2:(mm:Int)<=(vs.length:Int):=by omega);(have n3:(mm:Int)<(vs.length:Int):=by omega);(have c2:mm<=cap:=by omega);have c3:(mm:Int)<=(cap:Int):=by omega
    clear hc hf ho hg hlt hj hX hK hmm;go_wp2_with fail;go_ret;exact ⟨mm,rfl,HO2.out,HG2.out⟩
theorem csIn_d (S T:Nat->Prop) (w:World) (bx:Nat) (v vs:Value) (x s:List Int) (hb:w.cell? ⟨bx,0,none⟩=some vs) (hs:ah S w vs s) (h:ah T w v x) (hn:x.length<=1000000) (hm:s.length<=1000000) :
  Hj 111 #[.pointer (some ⟨bx,0,none⟩)] #[v] (.bool (decide (x=s))) w:=by
 intro d;show Calls Tryz.prog 111 #[v,.pointer (some ⟨bx,0,none⟩)] (w.drewN d) _;have hd:=Up.drewN w d;have HC:=aa (uU T S (w.drewN d) v vs x s (ah.keep h (hd.kept _)) (ah.keep hs (hd.kept _)) hn hm);have c1:=hd.cell hb;obtain ⟨p,cap,rfl,-,-⟩:=ay.open h;obtain ⟨q,E8,rfl,-,-⟩:=ay.open hs;obtain ⟨W,hW⟩:∃W,W=w.drewN d:=⟨_,rfl⟩;have HW:=aa hW;rw [<- hW] at c1 HC ⊢;clear hd hb h hs hW
 go_enter Tryz.func111,Tryz.ntmps111
 go_wp2_with fail;refine HC.out.mono ?_;rintro e w' ⟨rfl,m,rfl⟩;go_wp2_with fail;go_ret;rw [HW.out];exact ⟨rfl,Gc ⟨d,rfl⟩ ⟨m,rfl⟩⟩
theorem csOut_t (S T:Nat->Prop) (w:World) (bl:Nat) (v vl:Value) (s:List Int) (l:List (List Int)) (hb:w.cell? ⟨bl,0,none⟩=some vl) (hL:aR S w vl l) (h:ah T w v s) (hn:s.length<=1000000) (hl:l.length<=1000000) (hr:∀k,(gl l k).length<=1000000) :
  Calls Tryz.prog 110 #[v,.pointer (some ⟨bl,0,none⟩)] w fun e w'=>e=.returned (.bool (!decide (s∈l)))/\Up w w':=by
 obtain ⟨p,cap,rfl,-,-⟩:=ay.open h;have h:ah T w (.slice p s.length cap) s:=h;obtain ⟨q,E8,rfl,-,-⟩:=dW hL;have hu:=Up.alloc w (.cells #[.slice p s.length cap] 26);have iT:(w.alloc (.cells #[.slice p s.length cap] 26)).cell? ⟨w.heap.size,0,none⟩=some (.slice p s.length cap):=by unfold World.cell?;rw [mV];rfl
 have HAS:Hid (Calls Tryz.prog 22 #[.slice q l.length E8,.func (.func 111) #[] #[.pointer (some ⟨w.heap.size,0,none⟩)]] (w.alloc (.cells #[.slice p s.length cap] 26)) fun e w'=>e=.returned (.bool (decide (s∈l)))/\Up (w.alloc (.cells #[.slice p s.length cap] 26)) w'):=by
  obtain ⟨f,nE,hf2⟩:=hL.keep (hu.kept S);rw [<- Du l s];refine (AE 111 #[.pointer (some ⟨w.heap.size,0,none⟩)] (enters_of Tryz.func111 (by kernel_rfl) rfl) S _ _ l.length f (fun k=>decide (gl l k=s)) nE hl fun k hk=>csIn_d T S _ w.heap.size _ _ (gl l k) s iT (ah.keep h (hu.kept T)) (hf2 k hk) (hr k) hn).mono ?_;rintro e w' ⟨rfl,m,rfl⟩;exact ⟨rfl,Up.drewN _ m⟩
 have c1:=hu.cell hb;have HU:=aa hu;clear hb hL h hr iT hu;generalize decide (s∈l)=r at *
 go_enter Tryz.func110,Tryz.ntmps110
 go_wp2_with fail;refine HAS.out.mono ?_;rintro e w' ⟨rfl,aK⟩;have bD:=aa (HU.out.trans aK);clear aK;go_wp2_with fail;go_ret;exact ⟨aV (by cases r<;>rfl),bD.out⟩
theorem WL (f:Nat) (lb:Array Value) (eg:∀args w,(callFunc f args).run Tryz.prog w=.ok (.enter f args) w) {base:Nat} {w:World} {v:Value} {ps:List (List Int×Value)} (Q:List Int->Bool) (h:uu base w v ps) (hn:ps.length<=1000000)
  (hf:∀p∈ps,∀W,w.grownBy W v.ownBlock->Calls Tryz.prog f (#[p.2]++lb) W fun e W'=>e=.returned (.bool (Q p.1))/\Up W W') :
  Calls Tryz.prog 109 #[v,.func (.func f) #[] lb] w fun e w'=>w.grownBy w' v.ownBlock/\∃v' ps',e=.returned v'/\ps'.map (·.1)=(ps.map (·.1)).filter (fun s=>!Q s)/\uu base w' v' ps'/\v'.ownBlock=v.ownBlock:=by
 have hown:=h.own;obtain ⟨q,cap,hv,_⟩:=hown.form (n:=ps.length) (by simp);obtain ⟨_,⟨h1,h2⟩ | ⟨g,cap',cur,h1,_⟩⟩:=hown
 ·have hp:ps=[]:=by simpa using h2
  subst hp;subst h1;have vU:=aa (JK f lb eg Any w (.slice none 0 0) 0 (fun _=>undef) (fun _=>false) ⟨none,0,rfl,af _,.inl rfl⟩ (by omega) fun k _ hk=>absurd hk (bG _));rw [fI fun j hj=>rfl] at vU
  go_enter Tryz.func109,Tryz.ntmps109
  go_wp2_with fail;refine vU.out.mono ?_;rintro e w1 ⟨rfl,hu⟩;have HU:=aa hu;clear hu;go_wp2_with fail;go_ret;exact ⟨lG HU.out _,.slice none 0 0,[],rfl,rfl,⟨yu h.own HU.out,by simp,by simp⟩,rfl⟩
 rw [hv] at h1;injection h1 with h1 _ _;subst h1;subst hv;have hown:=h.own;have qA:(ps.map (·.2)).length=ps.length:=by simp
 have hat:∀j,j<ps.length->∃p,p∈ps/\pQ (ps.map (·.2)) j=p.2/\gl (ps.map (·.1)) j=p.1:=fun j hj=>⟨ps[j],lg hj,by simp [pQ,hj],by simp [gl,hj]⟩;have hcon:=deleteF_t (P:=fun j=>Q (gl (ps.map (·.1)) j)) f lb eg (base:=base) (w:=w) (bk:=g) (cap:=cap) (vs:=ps.map (·.2)) (by rw [qA];exact hown) (by rw [qA];exact hn)
  (fun j hj=>by
   obtain ⟨p,hp,e,_⟩:=hat j (by simpa using hj);obtain ⟨q,c,e2⟩:=h.shape p hp
   exact ⟨q,_,c,by rw [e,e2]⟩)
  (fun j hj W hW=>by
   obtain ⟨p,hp,e1,e2⟩:=hat j (by simpa using hj);rw [e1];simp only [e2]
   exact hf p hp W hW)
 rw [qA] at hcon;refine hcon.mono ?_;rintro e w' ⟨m,rfl,ho,hg⟩;obtain ⟨K,hK⟩:∃K,eM (fun j=>Q (gl (ps.map (·.1)) j)) ps.length=K:=⟨_,rfl⟩;have hks:∀j∈K,j<ps.length:=fun j hj=>by rw [<- hK] at hj;exact bh.1 (fL.1 hj).1
 rw [hK] at ho;have hkm:∀p∈K.map (fun j=>ps.getD j ([],undef)),p∈ps:=fun p hp=>by obtain ⟨j,hj,rfl⟩:=cm.1 hp;have hj:j<ps.length:=hks j hj;rw [kD,iQ hj];exact lg hj
 refine ⟨hg,_,K.map (fun j=>ps.getD j ([],undef)),rfl,?_,⟨?_,fun p hp=>h.shape p (hkm p hp),fun p hp=>?_⟩,rfl⟩
 ·have e9:ps.map (·.1)=(List.range ps.length).map (gl (ps.map (·.1))):=by
   apply wM
   ·simp
   ·intro i h1 h2
    simp at h1
    simp [gl,h1]
  rw [jO]
  have e8:K.map ((fun x=>x.1) ∘ fun j=>ps.getD j ([],undef))=K.map (gl (ps.map (·.1))):=by
   refine lU fun j hj=>?_
   have:=hks j hj
   simp [gl,this]
  rw [e8]
  conv=>rhs;rw [e9,List.filter_map]
  rw [<- hK];rfl
 ·rw [jO]
  have e:K.map ((fun x=>x.2) ∘ fun j=>ps.getD j ([],undef))=K.map (pQ (ps.map (·.2))):=by refine lU fun j hj=>?_;have:=hks j hj;simp [pQ,this]
  rw [e];exact ho
 ·exact ay.keep (h.row p (hkm p hp)) fun b hb hbl=>hg.block b hbl fun e=>hb e.symm
end
section
open Go.RowKit Go.Deep Go.Shelf
theorem uu.rows {base:Nat} {w:World} {v:Value} {ps:List (List Int×Value)} (h:uu base w v ps):aR Any w v (ps.map (·.1)):=by
 have h1:=h.own.vz;rw [aG] at h1;refine ⟨_,by rw [aG];exact h1.sub fun _ _ _=>trivial,fun k hk=>?_⟩;have hk':k<ps.length:=by simpa using hk
 have h2:=(h.row ps[k] (lg hk')).sub (T:=Any) fun _ _ _=>trivial;have e:gl (ps.map (·.1)) k=ps[k].1:=by simp [gl,hk']
 rw [e];simpa [hk'] using h2
end
section
open Go.RowKit Go.Deep
theorem OS (g:Nat) (lb:Array Value) (eg:∀args w,(callFunc g args).run Tryz.prog w=.ok (.enter g args) w) (S:Nat->Prop) (w:World) (v:Value) (n:Nat) (f:Nat->Value) (p:Nat->Bool)
  (h:ay S w v n f) (hn:n<=1000000) (hp:∀k w',k<n->Up w w'->Calls Tryz.prog g (#[f k]++lb) w' fun e w''=>e=.returned (.bool (p k))/\Up w' w'') :
  Calls Tryz.prog 22 #[v,.func (.func g) #[] lb] w fun e w'=>e=.returned (.bool ((List.range n).any p))/\Up w w':=by
 have HX:=aa (gX p n);have HI:=aa (JK g lb eg S w v n f p h hn hp);obtain ⟨q,cap,rfl,-,-⟩:=ay.open h;clear hp h eg
 go_enter Tryz.func22,Tryz.ntmps22
 go_wp2_with fail;refine HI.out.mono ?_;rintro e w' ⟨rfl,hu⟩;have HU:=aa hu;clear hu;go_wp2_with fail;go_ret;exact ⟨aV (by rw [<- HX.out]),HU.out⟩
end
section
def uA (ts:List az) (aac:List ByteArray) (n:Nat):List (List Int):=(cW (gt ts 0) aac).filter fun s=>(List.range n).all fun k=>decide (s∈cW (gt ts k) aac)
def ir (ts:List az) (aac:List ByteArray):List (List Int):=uA ts aac ts.length
theorem comN_one (ts:List az) (aac:List ByteArray):uA ts aac 1=cW (gt ts 0) aac:=by
 unfold uA;rw [List.filter_eq_self];intro s hs;simp [hs]
theorem comN_succ (ts:List az) (aac:List ByteArray) (n:Nat):uA ts aac (n+1)=(uA ts aac n).filter fun s=>decide (s∈cW (gt ts n) aac):=by
 unfold uA;rw [List.filter_filter];refine List.filter_congr fun s _=>?_;rw [rX,List.all_append];simp [Bool.and_comm]
theorem yx (ts:List az) (aac:List ByteArray) (n:Nat):(uA ts aac n).Sublist (cW (gt ts 0) aac):=List.filter_sublist
def zy (ts:List az) (aac:List ByteArray) (k:Nat):Int:=if aH (gt ts k)≠0 then 1 else if oB (gt ts k) aac then 0 else 9
def tZ (aac:List ByteArray) (ts:List az):Int:=if dm aac≠0 then dm aac else if ts.length=0 then 5 else bU (zy ts aac) ts.length
def WM (aac:List ByteArray) (ts:List az):Int:=if tZ aac ts≠0 then tZ aac ts else jL aac (ir ts aac)
def cnT (aac:List ByteArray) (ts:List az):az:=if tZ aac ts≠0 then ⟨[],[]⟩ else iz aac (ir ts aac)
section
variable {ts:List az} {aac:List ByteArray}
theorem cn_of (hn:gT aac) (h:bU (zy ts aac) ts.length=0):∀k,k<ts.length->dK (gt ts k) aac:=fun k hk=>by
 have h1:=jB h k hk
 unfold zy at h1
 split at h1
 ·cases h1
 ·rename_i h2
  have h2:=Fo.1 h2
  split at h1
  ·rename_i h3;exact (B9 hn h2).1 h3
  ·cases h1
theorem cn_ok (hn:gT aac) (h0:0<ts.length) (h:∀k,k<ts.length->dK (gt ts k) aac):tZ aac ts=0:=by
 unfold tZ;rw [if_neg (by rw [(mQ hn.hi).2 hn];simp),if_neg (by omega)];refine cR fun k hk=>?_;unfold zy;have ho:=h k hk;rw [if_neg (by rw [ho.te];simp),if_pos ((B9 hn ho.te).2 ho)]
theorem cn_bld (h0 : 0 < ts.length) (h : ∀ k, k < ts.length -> dK (gt ts k) aac) : lu aac (ir ts aac) := by
  have ho := h 0 h0
  have hb := of_bld ho
  have hs := yx ts aac ts.length
  refine ⟨hb.pos, hb.le, aJ hs.length_le hb.l64, hb.nm, hb.nd, fun s hs2 => hb.Ct s (hs.mem hs2), fun i k hik hk => ?_⟩
  exact Js ho (hs.mem (oM (show i<(ir ts aac).length by omega))) (hs.mem (oM hk))
theorem ordX_self {l:List (List Int)} (h:l.Pairwise E7):oH l=l:=PE (si l) h fun _=>rU
theorem SP (t:az) (aac:List ByteArray):(cW t aac).Pairwise E7:=by
 unfold cW;split
 ·exact si _
 ·exact List.Pairwise.nil
theorem Yd (ts:List az) (aac:List ByteArray):(ir ts aac).Pairwise E7:=(SP _ _).sublist (yx ts aac ts.length)
end
end
section
open Go.RowKit Go.Deep
def Cz (w:World) (aac:List ByteArray) (ts:List az) (e:Ending) (w':World):Prop :=
 Up w w'/\∃v,e=.returned (.tuple #[v,.int .i64 (WM aac ts)])/\aI Any w' v (cnT aac ts)
theorem cs_err {w W : World} {aac : List ByteArray} {ts : List az} {c : Int} (hu : Up w W) (hb : W.heap[w.heap.size]? = some (Obj.cells #[.slice none 0 0, .slice none 0 0] 39 (0, 0))) (hc : tZ aac ts = c) (h0 : c ≠ 0) :
    ((W.setCell ⟨w.heap.size, 0, none⟩ (.slice none 0 0)).setCell ⟨w.heap.size, 1, none⟩ (.slice none 0 0)).cell? ⟨w.heap.size, 0, none⟩ = some (.slice none 0 0) /\ ((W.setCell ⟨w.heap.size, 0, none⟩ (.slice none 0 0)).setCell ⟨w.heap.size, 1, none⟩ (.slice none 0 0)).cell? ⟨w.heap.size, 1, none⟩ = some (.slice none 0 0) /\
      Cz w aac ts (.returned (.tuple #[.agg #[.slice none 0 0, .slice none 0 0], .int .i64 c])) ((W.setCell ⟨w.heap.size, 0, none⟩ (.slice none 0 0)).setCell ⟨w.heap.size, 1, none⟩ (.slice none 0 0)) := by
  obtain ⟨s1, s2, s3, s4⟩ := gq (p := .slice none 0 0) (q := .slice none 0 0) hb (af _) hu
  have e1 : WM aac ts = c := by unfold WM; rw [if_pos (by rw [hc]; exact h0), hc]
  refine ⟨s2, s3, s1, .agg #[.slice none 0 0, .slice none 0 0], by rw [e1], ?_⟩
  unfold cnT; rw [if_pos (by rw [hc]; exact h0)]; exact x6 _
theorem cs_fin {w W : World} {aac : List ByteArray} {ts : List az} {T : az} {p n : Option Addr} {pc nc : Nat} {c : Int} (hu : Up w W) (hb : W.heap[w.heap.size]? = some (Obj.cells #[.slice none 0 0, .slice none 0 0] 39 (0, 0))) (hT : aI Any W (.agg #[.slice p T.ps.length pc, .slice n T.ns.length nc]) T) (he : WM aac ts = c) (ht : cnT aac ts = T) :
    ((W.setCell ⟨w.heap.size, 0, none⟩ (.slice p T.ps.length pc)).setCell ⟨w.heap.size, 1, none⟩ (.slice n T.ns.length nc)).cell? ⟨w.heap.size, 0, none⟩ = some (.slice p T.ps.length pc) /\ ((W.setCell ⟨w.heap.size, 0, none⟩ (.slice p T.ps.length pc)).setCell ⟨w.heap.size, 1, none⟩ (.slice n T.ns.length nc)).cell? ⟨w.heap.size, 1, none⟩ = some (.slice n T.ns.length nc) /\
      Cz w aac ts (.returned (.tuple #[.agg #[.slice p T.ps.length pc, .slice n T.ns.length nc], .int .i64 c])) ((W.setCell ⟨w.heap.size, 0, none⟩ (.slice p T.ps.length pc)).setCell ⟨w.heap.size, 1, none⟩ (.slice n T.ns.length nc)) := by
  obtain ⟨s1, s2, s3, s4⟩ := gq (p := .slice p T.ps.length pc) (q := .slice n T.ns.length nc) hb (af _) hu
  refine ⟨s2, s3, s1, _, by rw [he], ?_⟩
  rw [ht]
  exact ((K1 hT hb).keep fun b hb _ => s4 b hb).sub fun _ _ _ => trivial
theorem uu.grow34 {base:Nat} {w W:World} {v:Value} {ps:List (List Int×Value)} (h:uu base w v ps) (hu:Up w W):uu base W v ps :=
 ⟨yu h.own hu,h.shape,fun p hp=>ah.keep (h.row p hp) (hu.kept _)⟩
structure CsI (w0:World) (aac:List ByteArray) (ts:List az) (k:Nat) (v:Value) (W:World):Prop where
 up:Up w0 W
 ex:∃ps,uu w0.heap.size W v ps/\ps.map (·.1)=if k=0 then [] else uA ts aac k
theorem CsI.shape {w0 W:World} {aac:List ByteArray} {ts:List az} {k:Nat} {v:Value} (h:CsI w0 aac ts k v W):∃p n c,v=.slice p n c:=by
 obtain ⟨ps,h1,_⟩:=h.ex;obtain ⟨q,cap,e,_⟩:=h1.own.form (n:=ps.length) (by simp);exact ⟨q,_,cap,e⟩
theorem WN (S:Nat->Prop) (w:World) (v vt:Value) (aac:List ByteArray) (ts:List az) (h:au S w v aac) (hn:aac.length<=1000000) (hz:∀k,(gs aac k).size<=70000) (h5:aac.length<=5\/7<aac.length) (hT:fQ S w vt ts) (htn:ts.length<=64)
  (htr:∀k,(gt ts k).ps.length<=1000000/\(gt ts k).ns.length<=1000000/\∀j,(gs (gt ts k).ns j).size<=70000) :
  Calls Tryz.prog 49 #[v,vt] w (Cz w aac ts):=by
 obtain ⟨mp,mc,rfl,-,-⟩:=ay.open h;have h:au S w (.slice mp aac.length mc) aac:=h;obtain ⟨tp,tc,rfl,-⟩:=iM hT;have sU:Up w (w.alloc (.cells #[.slice none 0 0,.slice none 0 0] 39)):=Up.alloc _ _;have hrb:(w.alloc (.cells #[.slice none 0 0,.slice none 0 0] 39)).heap[w.heap.size]? = some (.cells #[.slice none 0 0,.slice none 0 0] 39 (0,0)):=gp;have hsz:w.heap.size<(w.alloc (.cells #[.slice none 0 0,.slice none 0 0] 39)).heap.size:=by simp
 obtain ⟨w0,hw0⟩:∃x,w.alloc (.cells #[.slice none 0 0,.slice none 0 0] 39)=x:=⟨_,rfl⟩;have HW0:=aa hw0;rw [hw0] at sU hrb hsz;clear hw0;have EZ:=aa sU;have lJ:Hid (∀W,Up w0 W->W.heap[w.heap.size]? = some (.cells #[.slice none 0 0,.slice none 0 0] 39 (0,0))):=fun W hW=>(bI hW _ hsz).trans hrb;have WO:Hid (∀W c,Up w0 W->tZ aac ts=c->c≠0->_):=fun W c hW h1 h2=>And.intro (boxed (lJ.out W hW)) (cs_err (c:=c) (EZ.out.trans hW) (lJ.out W hW) h1 h2);have HN:=aa (au.keep h (sU.kept S));have HT:=aa (hT.keep (sU.kept S));have Io:=aa htr
 have nV:=aa (ye S w0 _ aac HN.out hn hz);have xO:Hid (tZ aac ts=if dm aac≠0 then dm aac else if ts.length=0 then 5 else bU (zy ts aac) ts.length):=rfl;have je:Hid (dm aac=0->gT aac):=fun e=>(mQ (Zf h5 e)).1 e;have HBZ:=aa hz;clear h hT hz htr sU hrb hsz
 go_enter Tryz.func49,Tryz.ntmps49
 go_wp2_with fail;rw [HW0.out];refine nV.out.mono ?_;rintro e w1 ⟨rfl,bA⟩;have cA:=aa bA;by_cases e1:dm aac=0
 ·have HM:=aa (je.out e1)
  have uT:Hid (tZ aac ts=if ts.length=0 then 5 else bU (zy ts aac) ts.length):=by unfold Hid;rw [xO.out,if_neg (fun h=>h e1)]
  rw [e1];clear e1 je xO bA nV;by_cases e2:ts.length=0
  ·have hst:=WO.out w1 5 cA.out (by rw [uT.out,if_pos e2]) (by decide)
   obtain ⟨⟨q0,q1,q2,q3⟩,s2,s3,hp⟩:=hst;have HP:=aa hp;(have d1:((ts.length:Int)==0)=true:=by simp [e2]);clear hp e2;go_wp2_with fail;exact ⟨rfl,.tuple #[.agg #[.slice none 0 0,.slice none 0 0],.int .i64 5],by simp [results,Tryz.results49,go_sem,s2,s3],HP.out⟩
  ·have d1:((ts.length:Int)==0)=false:=beq_eq_false_iff_ne.2 (by omega)
   (have VV:Hid (tZ aac ts=bU (zy ts aac) ts.length):=by unfold Hid;rw [uT.out,if_neg e2]);(have Ud:Hid (0<ts.length):=by unfold Hid;omega);clear e2 uT;go_wp2_with fail;clear d1
   go_loopw [8,9,10,28] (fun _ _ _ i wr=>∃k:Nat,k<=ts.length/\i=.int .i64 k/\Hid (Up w0 wr)/\Hid (∀j,j<k->zy ts aac j=0)) (fun _ _ _ i _=>ts.length - (intOf i).toNat)
   case atStart=>exact ⟨0,aL _,rfl,cA.out,fun j hj=>absurd hj (bG _)⟩
   case round =>
    obtain ⟨k,hk,rfl,hU,hd⟩:=hrel;obtain ⟨wo,rfl⟩:∃wo:World,wo=wr:=⟨_,rfl⟩;by_cases hlt:k<ts.length
    ·obtain ⟨tb,toff,pp,pc,np,nc,rfl,c0,c1,CA⟩:=qd (HT.out.keep (hU.out.kept S)) hlt
     (have i1:(0:Int)<=(k:Int):=by omega);(have i2:(k:Int)<(ts.length:Int):=by omega);have dX:=Up.alloc wo (.cells #[.slice pp (gt ts k).ps.length pc,.slice np (gt ts k).ns.length nc] 39);obtain ⟨q0,q1,-,-⟩:=boxed (gp (w:=wo) (P:=.slice pp (gt ts k).ps.length pc) (N:=.slice np (gt ts k).ns.length nc) (T:=39));obtain ⟨z1,z2,z3⟩:=Io.out k;have WQ:=aa (CA.keep (dX.kept S));have gy:=aa (xS S _ _ (gt ts k) WQ.out z1 z2 z3)
     have fN:Hid (∀W,Up (wo.alloc (.cells #[.slice pp (gt ts k).ps.length pc,.slice np (gt ts k).ns.length nc] 39)) W->Calls Tryz.prog 108 #[.agg #[.slice pp (gt ts k).ps.length pc,.slice np (gt ts k).ns.length nc],.slice mp aac.length mc] W (Jf W (gt ts k) aac)):=fun W hW=>Vi S W _ _ (gt ts k) aac (WQ.out.keep (hW.kept S)) z1 z2 z3 (au.keep HN.out (((hU.out.trans dX).trans hW).kept S)) hn;have tH:=aa (hU.out.trans dX);have Y9:Hid (zy ts aac k≠0->tZ aac ts=zy ts aac k):=fun h0=>by rw [VV.out];exact gm hlt hd.out h0
     have Qv:Hid (zy ts aac k=if aH (gt ts k)≠0 then 1 else if oB (gt ts k) aac then 0 else 9):=rfl;(have G2:Hid (zy ts aac k=0->∀j,j<k+1->zy ts aac j=0):=fun h0 j hj=>if e:j=k then by subst e;exact h0 else hd.out j (by omega));have ED:Hid (Dl (gt ts k) aac=(decide (aH (gt ts k)=0)&&oB (gt ts k) aac)):=rfl;clear CA dX hU hd z1 z2 z3;generalize gt ts k=t at *;by_cases g1:aH t=0
     ·have xz:Hid (zy ts aac k=if oB t aac then 0 else 9):=by unfold Hid;rw [Qv.out,if_neg (fun h=>h g1)]
      (have HPB2:Hid (Dl t aac=oB t aac):=by unfold Hid;rw [ED.out,decide_eq_true g1];rfl);rw [g1] at gy;clear g1 Qv ED;unfold Jf at fN;rw [HPB2.out] at fN;clear HPB2;go_wp2_with fail;generalize wo.alloc (.cells #[.slice pp t.ps.length pc,.slice np t.ns.length nc] 39)=wa at *;refine gy.out.mono ?_;rintro e w2 ⟨rfl,hb2⟩;have aK:Up wa w2:=hb2;have HPL2:=aa (fN.out w2 aK);have xM:=aa (tH.out.trans aK);replace q0:=aK.cell q0;replace q1:=aK.cell q1;clear hb2 aK fN gy;go_wp2_with fail;refine HPL2.out.mono ?_;rintro e w3 ⟨dQ,pv,rfl,-⟩
      have Ll:=aa (xM.out.trans dQ);clear dQ HPL2;cases hf:oB t aac
      ·have HE9:Hid (zy ts aac k=9):=by unfold Hid;rw [xz.out,hf];rfl
       have hst:=WO.out w3 9 Ll.out ((Y9.out (by rw [HE9.out];decide)).trans HE9.out) (by decide);obtain ⟨⟨r0,r1,r2,r3⟩,s2,s3,hp⟩:=hst;have HP:=aa hp;clear hp hf xz Y9 G2;go_wp2_with fail;exact ⟨rfl,.tuple #[.agg #[.slice none 0 0,.slice none 0 0],.int .i64 9],by simp [results,Tryz.results49,go_sem,s2,s3],HP.out⟩
      ·have r4:=aa (G2.out (by rw [xz.out,hf];rfl))
       clear hf xz Y9 G2;go_wp2_with fail
       go_roundw
       case rel=>exact ⟨k+1,by omega,by go_num,Ll.out,r4.out⟩
       case measure=>simp [intOf];omega
     ·have d1:(aH t != 0)=true:=by simpa using g1
      (have Na:Hid (zy ts aac k=1):=by unfold Hid;rw [Qv.out,if_pos g1]);clear ED Qv fN G2;go_wp2_with fail;generalize wo.alloc (.cells #[.slice pp t.ps.length pc,.slice np t.ns.length nc] 39)=wa at *;refine gy.out.mono ?_;rintro e w2 ⟨rfl,hb2⟩;have aK:Up wa w2:=hb2;have hst:=WO.out w2 1 (tH.out.trans aK) ((Y9.out (by rw [Na.out];decide)).trans Na.out) (by decide);obtain ⟨⟨r0,r1,r2,r3⟩,s2,s3,hp⟩:=hst;have HP:=aa hp;generalize aH t=te at *;clear hp hb2 aK gy g1;go_wp2_with fail
      exact ⟨rfl,.tuple #[.agg #[.slice none 0 0,.slice none 0 0],.int .i64 1],by simp [results,Tryz.results49,go_sem,s2,s3],HP.out⟩
    ·obtain rfl:k=ts.length:=by omega
     have HZ:Hid (bU (zy ts aac) ts.length=0):=cR hd.out;have oC:=aa (cn_of HM.out HZ.out);have Hi:Hid (tZ aac ts=0):=VV.out.trans HZ.out;have jw:=aa hU.out;clear hU hd hlt hk WO VV HZ;go_wp2_with fail
     go_loopw [11,12,13,14,15,48] (fun u _ _ _ _ i wr=>∃k:Nat,k<=ts.length/\i=.int .i64 k/\Hid (CsI w0 aac ts k u wr)) (fun _ _ _ _ _ i _=>ts.length - (intOf i).toNat)
     case atStart=>exact ⟨0,aL _,rfl,jw.out,[],⟨ax.nil _ _ _,by simp,by simp⟩,rfl⟩
     case round =>
      obtain ⟨k,hk,rfl,hI⟩:=hrel;obtain ⟨wo,rfl⟩:∃wo:World,wo=wr:=⟨_,rfl⟩;obtain ⟨up,un,uc,rfl⟩:=hI.out.shape;by_cases hlt:k<ts.length
      ·obtain ⟨tb,toff,pp,pc,np,nc,rfl,c0,c1,CA⟩:=qd (HT.out.keep (hI.out.up.kept S)) hlt
       (have i1:(0:Int)<=(k:Int):=by omega);(have i2:(k:Int)<(ts.length:Int):=by omega);have dX:=Up.alloc wo (.cells #[.slice pp (gt ts k).ps.length pc,.slice np (gt ts k).ns.length nc] 39);obtain ⟨q0,q1,-,-⟩:=boxed (gp (w:=wo) (P:=.slice pp (gt ts k).ps.length pc) (N:=.slice np (gt ts k).ns.length nc) (T:=39));obtain ⟨z1,z2,z3⟩:=Io.out k;have tF:=oC.out k hlt;have pW:=aa (Mp S _ _ (.slice mp aac.length mc) (gt ts k) aac (CA.keep (dX.kept S)) (au.keep HN.out ((hI.out.up.trans dX).kept S)) z1 z2 z3 hn);unfold Ki at pW;rw [kV.2 tF] at pW
       have gG:Hid ((cW (gt ts k) aac).length<=1000000/\∀j,(gl (cW (gt ts k) aac) j).length<=1000000):=⟨aJ (tG _ aac) z1,fun j=>aJ (vQ _ aac j) (by decide)⟩;have tH:=aa dX;have r4:Hid (uA ts aac (k+1)=(uA ts aac k).filter fun s=>decide (s∈cW (gt ts k) aac)):=comN_succ ts aac k;(have zv:Hid (k=0->uA ts aac (k+1)=cW (gt ts k) aac):=fun e=>by subst e;exact comN_one ts aac);have qT:Hid ((uA ts aac k).length<=1000000):=aJ (yx ts aac k).length_le (aJ (tG _ aac) (Io.out 0).1)
       (have HCR:Hid (∀s∈uA ts aac k,s.length<=1000000):=fun s hs=>by obtain ⟨j,hj,e⟩:=vk ((yx ts aac k).mem hs);have:=vQ (gt ts 0) aac j;rw [show gl (cW (gt ts 0) aac) j=s by simp [gl,hj,e]] at this;omega);clear CA dX z1 z2 z3 tF;generalize gt ts k=t at *;go_wp2_with fail;refine pW.out.mono ?_;rintro e w2 ⟨aK,lv,rfl,lf,kI,hl2⟩;obtain ⟨lp,lc,rfl,-,-⟩:=ay.open kI;generalize hL:cW t aac=L at *;have hb3:=Up.alloc w2 (.cells #[.slice lp L.length lc] 23)
       (have iT:(w2.alloc (.cells #[.slice lp L.length lc] 23)).cell? ⟨w2.heap.size,0,none⟩=some (.slice lp L.length lc):=by unfold World.cell?;rw [mV];rfl);have hs3:(w2.alloc (.cells #[.slice lp L.length lc] 23)).heap.size=w2.heap.size+1:=aQ _ _;have WR:=(tH.out.trans aK).trans hb3;have Ob:=aa WR;have G0:wo.heap.size<=w2.heap.size:=(tH.out.trans aK).size
       have KY:Hid (∃f,ay (fun b=>wo.heap.size<=b) (w2.alloc (.cells #[.slice lp L.length lc] 23)) (.slice lp L.length lc) L.length f/\∀j,j<L.length->ah (wF w2) (w2.alloc (.cells #[.slice lp L.length lc] 23)) (f j) (gl L j)) :=
        ⟨lf,(kI.keep (hb3.kept _)).sub fun b hb _=>aJ tH.out.size hb,fun j hj=>(hl2 j hj).keep (hb3.kept _)⟩
       by_cases k0:k=0
       ·have d1:((k:Int)==0)=true:=by simp [k0]
        (have Uc:Hid (aR (fun b=>b<(w2.alloc (.cells #[.slice lp L.length lc] 23)).heap.size) (w2.alloc (.cells #[.slice lp L.length lc] 23)) (.slice lp L.length lc) L):=by obtain ⟨f,h1,h2⟩:=KY.out;exact ⟨f,h1.sub fun b _ hl=>hl,fun j hj=>(h2 j hj).sub fun b _ hl=>hl⟩);have HCLN:=aa (Jt _ _ _ L Uc.out gG.out.1);unfold ZJ at HCLN;have eo:=aa (hI.out.up.trans WR);have jG:=aa (zv.out k0);clear hb3 WR kI hl2 aK pW KY Uc zv r4 k0 hI;go_wp2_with fail;generalize w2.alloc (.cells #[.slice lp L.length lc] 23)=w3 at *;refine HCLN.out.mono ?_
        rintro e w4 ⟨di,cv,vals,rfl,hvl,YB,K3⟩;(have HNI:Hid (CsI w0 aac ts (k+1) cv w4):=by obtain ⟨ps,hrw,hpe,_⟩:=rws_of YB hvl K3 (af _);exact ⟨eo.out.trans di,ps,⟨hrw.own.y8 eo.out.size,hrw.shape,hrw.row⟩,by rw [if_neg (by omega),jG.out];exact hpe⟩);obtain ⟨xp,xn,xc,rfl⟩:=HNI.out.shape;clear di hvl YB K3 HCLN;go_wp2_with fail
        go_roundw
        case rel=>exact ⟨k+1,by omega,by go_num,HNI.out⟩
        case measure=>simp [intOf];omega
       ·have d1:((k:Int)==0)=false:=beq_eq_false_iff_ne.2 (by omega)
        obtain ⟨ps,hrw,hpe⟩:=hI.out.ex;rw [if_neg k0] at hpe;(have hpl:ps.length<=1000000:=by rw [<- aG (f:=fun x:List Int×Value=>x.1),hpe];exact qT.out);have hw3:=hrw.grow34 WR;have hlt2:∀b,(Value.slice up un uc).ownBlock=some b->b<w2.heap.size/\b<wo.heap.size/\¬wF w2 b:=fun b hb=>by
         have h1:=(av hrw.own hb).2;refine ⟨by omega,h1,fun ⟨c,z,hc⟩=>?_⟩;have h2:=bI (tH.out.trans aK) b h1;obtain ⟨_,⟨h3,_⟩ | ⟨g,cap,cur,h3,_,h4,_⟩⟩:=hrw.own
         ·rw [h3] at hb;cases hb
         ·rw [h3] at hb
          injection hb with hb;subst hb;rw [h2,h4] at hc;injection hc with hc;injection hc with _ hc;exact absurd hc (by decide)
        have hrows:aR (fun b=>(Value.slice up un uc).ownBlock≠some b) (w2.alloc (.cells #[.slice lp L.length lc] 23)) (.slice lp L.length lc) L:=by obtain ⟨f,h1,h2⟩:=KY.out;exact ⟨f,h1.sub fun b hb _ e=>by have:=(hlt2 b e).2.1;omega,fun j hj=>(h2 j hj).sub fun b hb _ e=>(hlt2 b e).2.2 hb⟩
        have HDEL:=aa (WL 110 #[.pointer (some ⟨w2.heap.size,0,none⟩)] (enters_of Tryz.func110 (by kernel_rfl) rfl) (fun s=>!decide (s∈L)) hw3 hpl fun p hp W hW=>by
         refine csOut_t (fun b=>(Value.slice up un uc).ownBlock≠some b) (fun b=>(Value.slice up un uc).ownBlock≠some b) W w2.heap.size p.2 (.slice lp L.length lc) p.1 L ?_ (hrows.keep fun b hb hl=>hW.block b hl fun e=>hb e.symm) (ah.keep (hw3.row p hp) fun b hb hl=>hW.block b hl fun e=>hb e.symm) (HCR.out _ ?_) gG.out.1 gG.out.2
         ·unfold World.cell? at iT ⊢
          rw [hW.block w2.heap.size (by omega) fun e=>by have:=(hlt2 _ e.symm).1;omega];exact iT
         ·rw [<- hpe];exact cm.2 ⟨p,hp,rfl⟩)
        (have tC:Hid (∀w4 v' ps',(w2.alloc (.cells #[.slice lp L.length lc] 23)).grownBy w4 (Value.slice up un uc).ownBlock->ps'.map (·.1)=(ps.map (·.1)).filter (fun s=>!!decide (s∈L))->uu w0.heap.size w4 v' ps'->CsI w0 aac ts (k+1) v' w4):=fun w4 v' ps' hg hp hr=>by refine ⟨iH (hI.out.up.trans WR) (ax.fE hw3.own hg (hI.out.up.trans WR).size),ps',hr,?_⟩;rw [if_neg (by omega),r4.out,hp,hpe];simp);clear hb3 WR kI hl2 aK pW KY zv r4 k0 hI hrw hpe hpl hw3 hlt2 hrows;go_wp2_with fail;generalize w2.alloc (.cells #[.slice lp L.length lc] 23)=w3 at *;refine HDEL.out.mono ?_
        rintro e w4 ⟨hg,v',ps',rfl,hp,hr,-⟩;have HNI:=aa (tC.out w4 v' ps' hg hp hr);obtain ⟨xp,xn,xc,rfl⟩:=HNI.out.shape;clear hg hp hr HDEL tC;go_wp2_with fail
        go_roundw
        case rel=>exact ⟨k+1,by omega,by go_num,HNI.out⟩
        case measure=>simp [intOf];omega
      ·obtain rfl:k=ts.length:=by omega
       obtain ⟨ps,hrw,hpe⟩:=hI.out.ex;rw [if_neg (by have:=Ud.out;omega)] at hpe;have hrows:=hrw.rows;rw [hpe] at hrows
       have kP:=aa (ZQ Any wo (.slice mp aac.length mc) (.slice up un uc) aac (ir ts aac) ((au.keep HN.out (hI.out.up.kept S)).sub fun _ _ _=>trivial) hrows hn HBZ.out (aJ (yx ts aac ts.length).length_le (aJ (tG _ aac) (Io.out 0).1)) fun j=>by
        by_cases hj:j<(ir ts aac).length
        ·obtain ⟨i,hi,e⟩:=vk ((yx ts aac ts.length).mem (oM hj))
         have:=vQ (gt ts 0) aac i;rw [show gl (cW (gt ts 0) aac) i=gl (ir ts aac) j by rw [<- e];simp [gl,hi]] at this;omega
        ·simp [gl,show (ir ts aac).length<=j by omega])
       have HUW2:=aa hI.out.up;clear hI hrw hpe hrows hlt hk;go_wp2_with fail;refine kP.out.mono ?_;rintro e w5 ⟨ey,tv,rfl,P5,N5,rfl,hP5,hN5⟩;obtain ⟨p5,c5,rfl,-,-⟩:=ay.open hP5;obtain ⟨n5,d5,rfl,-,-⟩:=ay.open hN5;have zH:=lJ.out w5 (HUW2.out.trans ey);obtain ⟨r0,r1,r2,r3⟩:=boxed zH;have jr:=aa (cs_fin (aac:=aac) (ts:=ts) (T:=iz aac (ir ts aac)) (c:=jL aac (ir ts aac)) (EZ.out.trans (HUW2.out.trans ey)) zH ⟨_,_,rfl,hP5,hN5⟩ (by unfold WM;rw [if_neg fun h=>h Hi.out]) (by unfold cnT;rw [if_neg fun h=>h Hi.out]));clear zH ey hP5 hN5 kP
       generalize jL aac (ir ts aac)=be at *;generalize iz aac (ir ts aac)=T at *;go_wp2_with fail;obtain ⟨s2,s3,hp⟩:=jr.out;exact ⟨rfl,.tuple #[.agg #[.slice p5 T.ps.length c5,.slice n5 T.ns.length d5],.int .i64 be],by simp [results,Tryz.results49,go_sem,s2,s3],hp⟩
 ·have d1:(dm aac != 0)=true:=by simpa using e1
  have hst:=WO.out w1 (dm aac) bA (by rw [xO.out,if_pos e1]) e1;obtain ⟨⟨q0,q1,q2,q3⟩,s2,s3,hp⟩:=hst;have HP:=aa hp;generalize dm aac=ne at d1 s2 s3 HP ⊢;clear hp bA e1 nV xO je;go_wp2_with fail;exact ⟨rfl,.tuple #[.agg #[.slice none 0 0,.slice none 0 0],.int .i64 ne],by simp [results,Tryz.results49,go_sem,s2,s3],HP.out⟩
end
section
section
variable {ts:List az} {aac:List ByteArray} {aad:List (List Int)}
theorem Gr (hn:gT aac) (h0:0<ts.length) (h:∀k,k<ts.length->gt ts k∈allT aac):tZ aac ts=0/\WM aac ts=0/\cnT aac ts=iz aac (ir ts aac)/\dK (iz aac (ir ts aac)) aac/\cW (iz aac (ir ts aac)) aac=ir ts aac:=by
 have ho:∀k,k<ts.length->dK (gt ts k) aac:=fun k hk=>(mM hn (h k hk)).1;have h1:=cn_ok hn h0 ho;have h2:=Dy.2 (cn_bld h0 ho);obtain ⟨b1,b2,b3⟩:=Wv h2;refine ⟨h1,by unfold WM;rw [if_neg (by rw [h1];simp)];exact h2,by unfold cnT;rw [if_neg (by rw [h1];simp)],kV.1 b1,?_⟩;rw [b2,ordX_self (Yd ts aac)]
end
end
end Go.Proofs.YthgabkgmkolobaaGreat
