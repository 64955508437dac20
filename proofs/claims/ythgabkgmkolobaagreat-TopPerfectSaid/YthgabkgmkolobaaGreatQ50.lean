/- Plain: a matrix of characters of two kinds has a tree without further changes exactly if .. -/
import Derived.Test.YthgabkgmkolobaaGreatQ49
set_option maxRecDepth 100000
set_option maxHeartbeats 4000000
namespace Go.Proofs.YthgabkgmkolobaaGreat
section
theorem ag_lenP {aad:List (List Int)} (h:fo aad=0):aad.length<=32/\(gl aad 0).length<=4096:=by
 unfold fo at h;split at h
 ·cases h
 ·split at h
  ·cases h
  ·rename_i h1;omega
structure uC (aac:List ByteArray) (aad:List (List Int)):Prop where
 cs:mR aac aad
 known:∀p,p<(gl aad 0).length->∀b,b<aac.length->0<=gi (bg aad p) b
 two:∀p,p<(gl aad 0).length->(dd (bg aad p)).length<=2
def jN (aad:List (List Int)):Nat->List (List Int)
 | 0=>[]
 | m+1=>jN aad m++if tJ (bg aad m)=true then [ij (bg aad m) (bg aad m).length] else []
theorem PW (aad:List (List Int)):∀m,(jN aad m).length<=m
 | 0=>af _
 | m+1=>by
  rw [jN,aZ]
  have:=PW aad m
  split<;>simp<;>omega
theorem Bd {aad:List (List Int)} {s:List Int}:∀ {m:Nat},s∈jN aad m↔∃p,p<m/\tJ (bg aad p)=true/\s=ij (bg aad p) (bg aad p).length
 | 0=>by simp [jN]
 | m+1=>by
  rw [jN,dV,Bd (m:=m)]
  constructor
  ·rintro (⟨p,h1,h2⟩ | h)
   ·exact ⟨p,by omega,h2⟩
   ·split at h
    ·rename_i hc;exact ⟨m,by omega,hc,dP.1 h⟩
    ·cases h
  ·rintro ⟨p,h1,h2,h3⟩
   by_cases e:p=m
   ·subst e;right;rw [if_pos h2,dP];exact h3
   ·exact .inl ⟨p,by omega,h2,h3⟩
theorem two_of {st:List Int} (h:(dd st).length<=2) {i j:Nat} (hi:i<st.length) (hj:j<st.length) (h1:gi st i≠gi st 0) (h2:gi st j≠gi st 0):gi st i=gi st j:=by
 refine tK fun hne=>?_;have fe:([gi st 0,gi st i,gi st j]:List Int).Nodup:=by simp only [iR,aW,qD,or_false,not_or,not_false_eq_true,yV,and_true];exact ⟨⟨gj h1,gj h2⟩,hne⟩
 have:=CI fe (l₂:=dd st) fun y hy=>by
  rw [mE];simp only [aW,qD,or_false] at hy;rcases hy with rfl | rfl | rfl
  ·exact mq (by omega)
  ·exact mq hi
  ·exact mq hj
 simp only [aT,dO] at this;omega
theorem leaf_lv {t:az} {aac:List ByteArray} (ho:dK t aac) {b0:Nat} (hb0:b0<aac.length):∃k,k<t.ps.length/\∀b:Nat,b<aac.length->((b:Int)∈cu t aac k↔b=b0):=by
 obtain ⟨_,_,_,hok,_⟩:=aF ho.te;obtain ⟨k,hk,kW,ek⟩:=ym ho hb0;refine ⟨k,hk,fun b hb=>?_⟩;obtain ⟨v,hv,hv0,ev⟩:=ym ho hb;rw [<- Km ho (k:=k) hv hv0 hb (by rw [ev];exact sR ho.nd hb)];constructor
 ·intro hh
  rcases (EM hok hv).1 hh with e | ⟨c,c1,c2,c3,_⟩
  ·have e3:gs aac b=gs aac b0:=by rw [<- ev,<- ek,e]
   rcases rY b b0 with c | c | c
   ·exact absurd e3.symm (ho.nd _ _ c hb0)
   ·exact c
   ·exact absurd e3 (ho.nd _ _ c hb)
  ·exact absurd (uK ho.te c1 c2 c3) kW
 ·intro e
  subst e;have:v=k:=(show eL t k from ⟨ho.te,hk,kW⟩).inj hv hk hv0 (by rw [ev,ek]);rw [this];exact x7 k
section
variable {t:az} {aac:List ByteArray} {aad:List (List Int)} {p:Nat}
theorem uC.err (h:uC aac aad) (hp:p<(gl aad 0).length):mO (bg aad p)=0:=by
 have Fc:=(ag_lenP h.cs.ag).1;refine os_err0 (by rw [gC];exact Fc) fun i hi=>?_;rw [gC] at hi;have:=((yM h.cs.ag).2 i hi).2 p hp;rw [r7 _ _ hi];exact this
theorem uC.Ct (h:uC aac aad) (hp:p<(gl aad 0).length) (hb:tJ (bg aad p)=true):yP aac.length (ij (bg aad p) (bg aad p).length):=by
 have h1:=osO_spl (h.err hp) ((Xd (h.err hp)).1 hb);have e:(bg aad p).length=aac.length:=by rw [gC,h.cs.len]
 rw [e] at h1 ⊢;exact h1
theorem uC.rng (h:uC aac aad) (hp:p<(gl aad 0).length) {b:Nat} (hb:b<aac.length):0<=gi (bg aad p) b/\gi (bg aad p) b<16:=by
 have:=((yM h.cs.ag).2 b (by rw [h.cs.len];exact hb)).2 p hp;refine ⟨h.known p hp b hb,?_⟩;rw [r7 _ _ (by rw [h.cs.len];exact hb)];exact this.2
theorem uC.allk (h:uC aac aad) (hp:p<(gl aad 0).length):eN (bg aad p)=bg aad p:=by
 unfold eN;rw [List.filter_eq_self];intro x hx;obtain ⟨b,hb,rfl⟩:=zl hx;rw [gC,h.cs.len] at hb;exact decide_eq_true (h.known p hp b hb)
theorem uC.ddp (h:uC aac aad) (hp:p<(gl aad 0).length):JF aad p=(dd (bg aad p)).length:=by
 unfold JF;rw [h.allk hp]
theorem pf_col (h:uC aac aad) (ho:dK t aac) (hp:p<(gl aad 0).length) (hs:tJ (bg aad p)=true->ij (bg aad p) (bg aad p).length∈cW t aac):dg t (iN t aac aad p) (bZ 16)<=lH aad p:=by
 have hlo:=h.cs.nm.lo;have hlen:(bg aad p).length=aac.length:=by rw [gC,h.cs.len]
 have zN:=fun b hb=>h.rng hp (b:=b) hb;have hdd:=h.ddp hp;have htwo:=h.two p hp;obtain ⟨st,hst⟩:∃st,st=bg aad p:=⟨_,rfl⟩;have hbk:lH aad p=if (dd st).length=0 then 0 else ((dd st).length:Int) - 1:=by unfold lH;rw [hdd,hst]
 have hown:iN t aac aad p=nu t aac st (aD t.ns).length:=by unfold iN;rw [hst]
 have herr:=h.err hp;rw [<- hst] at hs hlen zN htwo herr;rw [hown,hbk];have hmem:∀i,i<aac.length->gi st i∈dd st:=fun i hi=>mE.2 (mq (by omega));by_cases hc:∀b,b<aac.length->gi st b=gi st 0
 ·have h1:=char_ab (t:=t) (st:=st) ho (k:=t.ps.length) (zN 0 (by omega)) (zN 0 (by omega)) (A:=gi st 0) (B:=gi st 0) fun b hb=>by rw [hc b hb];split<;>rfl
  rw [if_neg (mU _)] at h1;have:0<(dd st).length:=Fv (hmem 0 (by omega));rw [if_neg (by omega)];omega
 ·obtain ⟨x,hx⟩:∃x,¬(x<aac.length->gi st x=gi st 0):=Classical.not_forall.1 hc
  obtain ⟨qF,hxne⟩:x<aac.length/\gi st x≠gi st 0:=Classical.not_imp.1 hx;have h2:2<=(dd st).length:=by
   have fe:([gi st 0,gi st x]:List Int).Nodup:=by simp [Ne.symm hxne]
   have:=CI fe (l₂:=dd st) fun y hy=>by
    simp only [aW,qD,or_false] at hy;rcases hy with rfl | rfl
    ·exact hmem 0 (by omega)
    ·exact hmem x qF
   simpa using this
  rw [if_neg (by omega)];have hv:∀b,b<aac.length->gi st b≠gi st 0->gi st b=gi st x:=fun b hb hne=>two_of htwo (by omega) (by omega) hne hxne
  -- the node
  suffices hk:∃k A B,(0<=A/\A<16)/\(0<=B/\B<16)/\∀b:Nat,b<aac.length->gi st b=if (b:Int)∈cu t aac k then A else B by
   obtain ⟨k,A,B,hA,hB,hk⟩:=hk;have h1:=char_ab (t:=t) (st:=st) ho hA hB hk;(have:(if k<t.ps.length then (1:Int) else 0)<=1:=by split<;>omega);omega
  have hos:∀b:Nat,b<aac.length->((b:Int)∈ij st st.length↔gi st b≠gi st 0):=fun b hb=>by rw [Fk,cZ];exact ⟨fun h=>h.2.2,fun h=>⟨by omega,by omega,h⟩⟩
  by_cases hb:tJ st=true
  ·have hm:=hs hb
   unfold cW at hm;rw [if_pos (kV.2 ho),rU] at hm;unfold Me at hm;obtain ⟨wV,hm2⟩:=fL.1 hm;obtain ⟨k,_,hk2⟩:=cm.1 wV;by_cases hc0:(cu t aac k).contains 0=true
   ·refine ⟨k,gi st 0,gi st x,zN 0 (by omega),zN x qF,fun b hb=>?_⟩
    have mz:=hos b hb;rw [<- hk2] at mz;unfold fc at mz;rw [if_pos hc0,ny] at mz;by_cases c:(b:Int)∈cu t aac k
    ·rw [if_pos c]
     exact tK fun q=>(mz.2 q).2.2 c
    ·rw [if_neg c]
     exact hv b hb (mz.1 ⟨by omega,by omega,c⟩)
   ·refine ⟨k,gi st x,gi st 0,zN x qF,zN 0 (by omega),fun b hb=>?_⟩
    have mz:=hos b hb;rw [<- hk2] at mz;unfold fc at mz;rw [if_neg hc0] at mz;by_cases c:(b:Int)∈cu t aac k
    ·rw [if_pos c];exact hv b hb (mz.1 c)
    ·rw [if_neg c]
     exact tK fun q=>c (mz.2 q)
  ·have hnot:¬(2<=(ij st st.length).length/\(ij st st.length).length+2<=st.length):=fun q=>hb ((Xd herr).2 ⟨fun i hi=>(zN i (by omega)).1,fun i j hi hj h1 h2=>two_of htwo hi hj h1 h2,q.1,q.2⟩)
   (have hosnd:(ij st st.length).Nodup:=by unfold ij iG;refine Fq _ ?_;rw [uD];exact List.Pairwise.imp (fun h e=>h (by omega)) List.nodup_range);by_cases hsm:(ij st st.length).length<2
   ·-- only x differs
    obtain ⟨k,hk,gz⟩:=leaf_lv ho qF;refine ⟨k,gi st x,gi st 0,zN x qF,zN 0 (by omega),fun b hb=>?_⟩;by_cases e:b=x
    ·rw [if_pos ((gz b hb).2 e),e]
    ·rw [if_neg fun q=>e ((gz b hb).1 q)]
     refine tK fun q=>?_;have fe:([(b:Int),(x:Int)]:List Int).Nodup:=by simp;omega
     have:=CI fe (l₂:=ij st st.length) fun y hy=>by
      simp only [aW,qD,or_false] at hy;rcases hy with rfl | rfl
      ·exact (hos b hb).2 q
      ·exact (hos x qF).2 hxne
     simp only [aT,dO] at this;omega
   ·-- all but 0 differ
    obtain ⟨k,hk,gz⟩:=leaf_lv ho (show 0<aac.length by omega);refine ⟨k,gi st 0,gi st x,zN 0 (by omega),zN x qF,fun b hb=>?_⟩;by_cases e:b=0
    ·rw [if_pos ((gz b hb).2 e),e]
    ·rw [if_neg fun q=>e ((gz b hb).1 q)]
     refine hv b hb fun q=>?_
     -- 0 and b are none of the others
     have fe:((0:Int)::(b:Int)::ij st st.length).Nodup:=by
      rw [iR,iR];refine ⟨fun hm=>?_,fun hm=>(hos b hb).1 hm q,hosnd⟩;rcases aW.1 hm with e2 | hm
      ·omega
      ·exact ((hos 0 (by omega)).1 hm) rfl
     have hle:=CI fe (l₂:=(List.range aac.length).map fun (i:Nat)=>(i:Int)) fun y hy=>by
      rcases aW.1 hy with rfl | hy
      ·exact cm.2 ⟨0,bh.2 (by omega),rfl⟩
      ·rcases aW.1 hy with rfl | hy
       ·exact cm.2 ⟨b,bh.2 hb,rfl⟩
       ·obtain ⟨y0,y1,_⟩:=Fk.1 hy
        exact cm.2 ⟨y.toNat,bh.2 (by omega),by omega⟩
     simp only [aT,aG,wP] at hle;omega
theorem pf_score (h:uC aac aad) (ho:dK t aac) (hs:∀s∈jN aad (gl aad 0).length,s∈cW t aac):bz t aac aad<=lI aad:=by
 unfold bz lI;refine ki fun p hp=>pf_col h ho hp fun hb=>hs _ (Bd.2 ⟨p,hp,hb,rfl⟩)
theorem pf_all (h:uC aac aad):jM (aac.length:Int) (jN aad (gl aad 0).length)=0\/64<(jN aad (gl aad 0).length).length:=by
 have hlo:=h.cs.nm.lo;have hhi:=h.cs.nm.hi;by_cases Cn:64<(jN aad (gl aad 0).length).length
 ·exact .inr Cn
 left;unfold jM;rw [if_neg Cn,if_neg (by omega)];refine cR fun k hk=>nJ.2 ?_;obtain ⟨p,hp,hb,e⟩:=Bd.1 (oM hk);rw [e];exact h.Ct hp hb
theorem pf_comp (h:uC aac aad) (Cn:(jN aad (gl aad 0).length).length<=64) (hc:oL (jN aad (gl aad 0).length)<0) :
  jL aac (jN aad (gl aad 0).length)=0/\dK (iz aac (jN aad (gl aad 0).length)) aac/\cW (iz aac (jN aad (gl aad 0).length)) aac=oH (jN aad (gl aad 0).length)/\bz (iz aac (jN aad (gl aad 0).length)) aac aad=cB aac aad/\cB aac aad=lI aad:=by
 have hlo:=h.cs.nm.lo;have hhi:=h.cs.nm.hi;have hok:lu aac (jN aad (gl aad 0).length):=by refine ⟨by omega,by omega,Cn,fun k hk=>gs_ok h.cs.nm hk,h.cs.nm.Ve,fun s hs=>?_,fun i k hik hk=>Dx.1 hc i k hik hk⟩;obtain ⟨p,hp,hb,e⟩:=Bd.1 hs;rw [e];exact h.Ct hp hb
 have he:=Dy.2 hok;obtain ⟨b1,b2,b3⟩:=Wv he;have ho:=kV.1 b1;have h1:=pf_score h ho fun s hs=>by rw [b2,rU];exact hs
 have h2:=least_le h.cs ho;have h3:=Ed h.cs;exact ⟨he,ho,b2,by omega,by omega⟩
theorem pf_back (h:uC aac aad) (he:cB aac aad=lI aad):oL (jN aad (gl aad 0).length)<0:=by
 obtain ⟨_,_,t,ht,es⟩:=sk h.cs;have ho:=(mM h.cs.nm ht).1;have hlo:=h.cs.nm.lo;have hle:∀p,p<(gl aad 0).length->lH aad p<=dg t (iN t aac aad p) (bZ 16):=fun p hp=>by
  have hv:=ru h.cs ho hp;have h1:=OV hv;have h0:=s9 hv;have h2:JF aad p<=(dd (eN (iN t aac aad p))).length:=OU fun x hx=>by obtain ⟨x1,x2⟩:=ua.1 hx;refine ua.2 ⟨?_,x2⟩;obtain ⟨b,hb,e⟩:=zl x1;rw [gC] at hb;rw [r7 _ _ hb] at e;obtain ⟨j,hj,e2⟩:=own_has (p:=p) h.cs ho (b:=b) (by rw [<- h.cs.len];exact hb);rw [<- e,<- e2];exact mq hj
  unfold lH;split<;>omega
 have heq:=Sw (f:=lH aad) (g:=fun p=>dg t (iN t aac aad p) (bZ 16)) (n:=(gl aad 0).length) hle (by
  have e1:bJ (fun p=>dg t (iN t aac aad p) (bZ 16)) (gl aad 0).length=bz t aac aad:=rfl;have e2:bJ (lH aad) (gl aad 0).length=lI aad:=rfl
  omega)
 have hin:∀s∈jN aad (gl aad 0).length,s∈cW t aac:=fun s hs=>by
  obtain ⟨p,hp,hb,e⟩:=Bd.1 hs;have hl:(bg aad p).length=aac.length:=by rw [gC,h.cs.len]
  have hspl:=h.Ct hp hb;have h1:=heq p hp;have hos:=(Xd (h.err hp)).1 hb;have hdd:JF aad p=2:=by
   have h2:=h.two p hp;rw [h.ddp hp];obtain ⟨x,hx⟩:=List.exists_mem_of_length_pos (show 0<(ij (bg aad p) (bg aad p).length).length by have:=hos.many;omega);obtain ⟨x0,x1,x2⟩:=Fk.1 hx;have fe:([gi (bg aad p) 0,gi (bg aad p) x.toNat]:List Int).Nodup:=by simp [Ne.symm x2]
   have:=CI fe (l₂:=dd (bg aad p)) fun y hy=>by
    rw [mE];simp only [aW,qD,or_false] at hy;rcases hy with rfl | rfl
    ·exact mq (by omega)
    ·exact mq (by omega)
   simp only [aT,dO] at this;omega
  have hb1:lH aad p=1:=by unfold lH;rw [hdd];rfl
  rw [hl] at e hspl;rw [e];exact char_back ho (fun b hb=>h.rng hp hb) hl hspl (by rw [hb1] at h1;exact h1.symm)
 exact Dx.2 fun i k hik hk=>Js ho (hin _ (oM (by omega))) (hin _ (oM hk))
end
end
section
open Go.RowKit Go.Deep
section
variable {B:Nat} {W W':World} {s f n:Value} {S F:List Int} {L:List ByteArray} {g cap k:Nat}
theorem Sy {v u:Value} {e:TypeId} {vs:List Value} (ho:ax B e W u vs) (ha:∀b,v.ownBlock=some b->u.ownBlock≠some b) (dD:v.ownBlock=some g\/W.heap.size<=g):∀b,(Value.slice (some ⟨g,0,none⟩) k cap).ownBlock=some b->u.ownBlock≠some b:=fun b hb hb2=>by
 injection hb with hb
 have hb:g=b:=hb
 subst hb
 rcases dD with h1 | h1
 ·exact ha g h1 hb2
 ·have:=(av ho hb2).2;omega
end
theorem bad1_t (w:World) (s:Int):Hj 64 #[] #[.int .i64 s] (.bool (zM s)) w:=by
 intro m;show Calls Tryz.prog 64 #[.int .i64 s] (w.drewN m) _;obtain ⟨W,hW⟩:∃W,W=w.drewN m:=⟨_,rfl⟩;have HW:=aa hW;have HB:Hid (zM s=(decide (s < -1) || decide (16<=s))):=rfl;rw [<- hW];clear hW;generalize zM s=r at *;by_cases h1:s < -1
 ·have d1:decide (s < -1)=true:=decide_eq_true h1
  have HE:Hid (r=true):=by unfold Hid;rw [HB.out,d1];rfl
  clear h1
  go_enter Tryz.func64,Tryz.ntmps64
  go_wp2_with fail;go_ret;exact ⟨aV HE.out.symm,m,HW.out⟩
 ·have d1:decide (s < -1)=false:=decide_eq_false h1
  have HE:Hid (r=decide (16<=s)):=by unfold Hid;rw [HB.out,d1];rfl
  clear h1
  go_enter Tryz.func64,Tryz.ntmps64
  go_wp2_with fail;go_ret;exact ⟨aV HE.out.symm,m,HW.out⟩
theorem Sz (W:World):(zeroValue 3).run Tryz.prog W=.ok (.int .i64 0) W:=by simp [Tryz.zeroValue3]
theorem len_imap {W:World} {b:Nat} {l:List (Int×Value)} (h:xE W b l) (ty:TypeId):(Builtin.len_ #[86] ty #[.map (some b)]).run Tryz.prog W=.ok (goInt l.length) W:=by
 obtain ⟨es,clock,hb,hl⟩:=h;have h1:=run_len_map (P:=Tryz.prog) W 86 ty b es clock (by simp [Program.mapKeyOf,Program.mapElemOf,Tryz.underlying86]) hb;have h2:es.size=l.length:=by have:=congrArg List.length hl;simpa using this
 rw [h1,h2]
theorem osO_succ (st:List Int) (k:Nat):ij st (k+1)=ij st k++if gi st k != gi st 0 then [(k:Int)] else []:=by
 unfold ij;rw [Dq,cZ]
def PX (w:World) (st:List Int) (e:Ending) (w':World):Prop :=
 Up w w'/\∃v,e=.returned (.tuple #[v,.bool (Xe st),.int .i64 (mO st)])/\ah (fun b=>w.heap.size<=b) w' v (osR st)
theorem Bf {w w':World} {st:List Int} (h:¬(mO st=0/\tJ st=true)) (hu:Up w w'):PX w st (.returned (.tuple #[.slice none 0 0,.bool false,.int .i64 (mO st)])) w':=by
 refine ⟨hu,.slice none 0 0,?_,by unfold osR;rw [if_neg h];exact ⟨none,0,rfl,af _,.inl rfl⟩⟩;have:Xe st=false:=by
  unfold Xe;by_cases h0:mO st=0
  ·rw [decide_eq_true h0,Bool.true_and,uZ];exact fun e=>h ⟨h0,e⟩
  ·rw [decide_eq_false h0];rfl
 rw [this]
theorem Yh (S:Nat->Prop) (w:World) (v:Value) (st:List Int) (h:ah S w v st) (hn:st.length<=1000000) :
  Calls Tryz.prog 15 #[v] w (PX w st):=by
 obtain ⟨p,cap,rfl,hcap,_⟩:=ay.open h;have h:ah S w (.slice p st.length cap) st:=h;have HE:Hid (mO st=if 32<st.length then 4 else if (List.range st.length).any (fun j=>zM (gi st j)) then 2 else 0):=rfl;have HX:=aa h;have nM:=aa (Oq 64 #[] (enters_of Tryz.func64 (by kernel_rfl) rfl) S w _ st.length (fun k=>.int .i64 (gi st k)) (fun j=>zM (gi st j)) h hn fun k _=>bad1_t w (gi st k));clear h
 have hosB:tJ st=!(decide (0<rW st (-1) st.length) || decide ((uw st st.length).length≠2) || decide ((ij st st.length).length<2) || decide ((st.length:Int) - 2<((ij st st.length).length:Int))):=rfl;have Lh:=aa hosB;clear hosB;by_cases Fc:32<st.length
 ·have d1:decide ((32:Int)<(st.length:Int))=true:=decide_eq_true (by omega)
  have HZ:Hid (mO st=4):=by unfold Hid;rw [HE.out,if_pos Fc]
  clear Fc
  go_enter Tryz.func15,Tryz.ntmps15
  go_wp2_with fail;exact ⟨rfl,.tuple #[.slice none 0 0,.bool false,.int .i64 4],by simp [results,Tryz.results15,go_sem],by have h:=Bf (w:=w) (w':=w) (st:=st) (by rw [HZ.out];exact fun e=>absurd e.1 (by decide)) (Up.refl _);rwa [HZ.out] at h⟩
 have d1:decide ((32:Int)<(st.length:Int))=false:=decide_eq_false (by omega);have n32:st.length<=32:=by omega
 have qO:Hid (mO st=if (List.range st.length).any (fun j=>zM (gi st j)) then 2 else 0):=by unfold Hid;rw [HE.out,if_neg Fc]
 clear HE Fc;cases hb:(List.range st.length).any (fun j=>zM (gi st j))
 ·have HZ:Hid (mO st=0):=by unfold Hid;rw [qO.out,hb];rfl
  rw [hb] at nM;clear hb qO;have hmm:=fun W=>run_makeMap (P:=Tryz.prog) 86 W
  go_enter Tryz.func15,Tryz.ntmps15
  go_wp2_with fail;refine nM.out.mono ?_;rintro e w2 ⟨rfl,n2,rfl⟩;have bD:=aa (Up.drewN w n2);generalize w.drewN n2=w2 at *;go_wp2_with fail;clear hmm;have C7:=aa (cntS_le st);have qT:=aa (ctK_len st);have G3:=aa (fun k=>rS (fun i=>gi st i.toNat != gi st 0) k)
  go_loopw [6,7,8,19] (fun o _ _ i wr=>∃k:Nat,k<=st.length/\i=.int .i64 k/\Hid (ax (w2.heap.size+1) 3 wr o ((ij st k).map (Value.int .i64)))/\Hid (xE wr w2.heap.size (uw st k))/\Hid (Up w2 wr)) (fun _ _ _ i _=>st.length - (intOf i).toNat)
  case atStart=>exact ⟨0,aL _,rfl,ax.nil _ _ _,xE.made w2,Up.alloc _ _⟩
  case round =>
   obtain ⟨k,hk,rfl,hO,hM,dY⟩:=hrel;obtain ⟨wo,rfl⟩:∃wo:World,wo=wr:=⟨_,rfl⟩;by_cases hlt:k<st.length
   ·obtain ⟨b,off,rfl,hcell⟩:=dG (ah.keep HX.out ((bD.out.trans dY.out).kept _)) hlt
    (have i1:(0:Int)<=(k:Int):=by omega);(have i2:(k:Int)<(st.length:Int):=by omega);(have i3:(k:Int)<64:=by omega);(have i4:(0:Int)<(st.length:Int):=by omega);have Zh:Hid (uw st (k+1)=zL (uw st k) (gi st k) (.int .i64 ((rW st (gi st k) k:Nat)+1:Int))):=rfl;have hlk:=Sv (P:=Tryz.prog) Tryz.underlying86 Tryz.underlying3 (Sz wo) hM.out (gi st k);rw [My] at hlk;have qV:rW st (gi st k) k<=k:=C7.out _ _;have xJ:=aa (osO_succ st k);have ue:(ij st k).length<=k:=G3.out k;have gG:Hid (((ij st k).map (Value.int .i64)).length=(ij st k).length):=aG _
    obtain ⟨w5,hrun,Oh,hs5,xm,zY,Jg,qG⟩:=run_iset (P:=Tryz.prog) Tryz.underlying86 Tryz.underlying3 hM.out (Mx st k) (gi st k) (.int .i64 ((rW st (gi st k) k:Nat)+1:Int));(have HM5:Hid (xE w5 w2.heap.size (uw st (k+1))):=by unfold Hid;rw [Zh.out];exact Oh);have iw:Hid (Up w2 w5):=⟨xm.trans dY.out.os,zY.trans dY.out.tape,Jg.trans dY.out.output,by rw [hs5];exact dY.out.size,fun b hb=>(qG b (by omega)).trans (dY.out.block b hb)⟩;have HO5:=aa (ax.kept hO.out fun b hb _=>qG b (by omega));have hmlt:=Oh.lt;have hsz5:w2.heap.size+1<=w5.heap.size:=by omega
    obtain ⟨b',off',e0,hcell0⟩:=dG (ah.keep HX.out ((bD.out.trans iw.out).kept _)) (show 0<st.length by omega);injection e0 with e0;injection e0 with e1 e2;subst e1;subst e2;rw [jZ] at hcell0;have bu:=aa hlt;clear Oh hs5 xm zY Jg qG hM dY hO hmlt Zh;generalize rW st (gi st k) k=c at *;generalize gi st k=x at *;generalize gi st 0=y at *;(have gu:Hid ((ij st k).length<=1000000):=by unfold Hid;omega);generalize (ij st k).length=ol at *;by_cases hxy:x=y
    ·have VM:(x != y)=false:=by simp [hxy]
     (have HS:Hid (ij st (k+1)=ij st k):=by unfold Hid;rw [xJ.out,VM];simp);clear hxy;go_wp2_with fail
     go_roundw
     case rel=>exact ⟨k+1,bu.out,by go_num,by unfold Hid;rw [HS.out];exact HO5.out,HM5,iw⟩
     case measure=>have:=bu.out;simp [intOf];omega
    ·have VM:(x != y)=true:=by simpa using hxy
     (have HS:Hid (ij st (k+1)=ij st k++[(k:Int)]):=by unfold Hid;rw [xJ.out,VM];rfl);clear hxy;go_wp2_with (at_builtin;refine Lr w5 rfl _ _ 26 rfl (w2.heap.size+1) 3 (.int .i64 0) 8 Tryz.underlying26 Tryz.kE rfl (by decide) HO5.out rfl (.int .i64 k) _ rfl rfl rfl _ gG.out gu.out hsz5 ?_;intro g8 oz w8 hown1 hgr1 o7)
     go_roundw
     case rel=>exact ⟨k+1,bu.out,by go_num,by unfold Hid;rw [HS.out,cg];exact hown1,HM5.out.same (o7.block _ (pI _)),iH iw.out (Below.mono o7 (lz _))⟩
     case measure=>have:=bu.out;simp [intOf];omega
   ·obtain rfl:k=st.length:=by omega
    have hlk:=Sv (P:=Tryz.prog) Tryz.underlying86 Tryz.underlying3 (Sz wo) hM.out (-1);rw [My] at hlk;have hlen:=fun ty=>len_imap hM.out ty;have qV:rW st (-1) st.length<=st.length:=C7.out _ _;have gz:(uw st st.length).length<=st.length:=qT.out _;have ue:(ij st st.length).length<=st.length:=G3.out _;obtain ⟨op,oc,xx,_⟩:=ax.form (n:=(ij st st.length).length) hO.out (aG _);have oV:=aa (bD.out.trans dY.out);have HOO:=aa (ah.sub (ax.ints hO.out) (T:=fun b=>w.heap.size<=b) fun b hb _=>by have:=bD.out.size;omega)
    clear hlt hk hM dY hO C7 qT G3 nM;subst xx;(have HR:Hid (tJ st=true->osR st=ij st st.length):=fun h=>by unfold osR;rw [if_pos ⟨HZ.out,h⟩]);(have HV:Hid (Xe st=tJ st):=by unfold Hid Xe;rw [HZ.out];rfl);generalize rW st (-1) st.length=c at *;generalize (uw st st.length).length=m at *;generalize (ij st st.length).length=ol at *;(have T1:∀z:Int,(c:Int)=z->((0<c)↔(0<z)):=fun z e=>by omega);generalize hci:(c:Int)=ci at *;have T1:=T1 ci rfl;by_cases t1:0<c
    ·have e1:decide ((0:Int)<ci)=true:=decide_eq_true (T1.1 t1)
     (have HN:Hid (tJ st=false):=by unfold Hid;rw [Lh.out,decide_eq_true t1];rfl);clear t1 T1 hci qV;go_wp2_with fail;exact ⟨rfl,.tuple #[.slice none 0 0,.bool false,.int .i64 0],by simp [results,Tryz.results15,go_sem],by have h:=Bf (st:=st) (by rw [HN.out];exact fun e=>absurd e.2 (by decide)) oV.out;rwa [HZ.out] at h⟩
    have e1:decide ((0:Int)<ci)=false:=decide_eq_false (fun e=>t1 (T1.2 e));by_cases t2:m=2
    ·have e2:((m:Int) != 2)=false:=by simp;omega
     by_cases t3:ol<2
     ·have e3:decide ((ol:Int)<2)=true:=decide_eq_true (by omega)
      (have HN:Hid (tJ st=false):=by unfold Hid;rw [Lh.out,decide_eq_true t3];simp);clear t1 t2 t3 T1 hci qV;go_wp2_with fail;exact ⟨rfl,.tuple #[.slice none 0 0,.bool false,.int .i64 0],by simp [results,Tryz.results15,go_sem],by have h:=Bf (st:=st) (by rw [HN.out];exact fun e=>absurd e.2 (by decide)) oV.out;rwa [HZ.out] at h⟩
     have e3:decide ((ol:Int)<2)=false:=decide_eq_false (by omega);by_cases t4:(st.length:Int) - 2<(ol:Int)
     ·have e4:decide ((st.length:Int) - 2<(ol:Int))=true:=decide_eq_true t4
      (have HN:Hid (tJ st=false):=by unfold Hid;rw [Lh.out,e4];simp);clear t1 t2 t3 t4 T1 hci qV;go_wp2_with fail;exact ⟨rfl,.tuple #[.slice none 0 0,.bool false,.int .i64 0],by simp [results,Tryz.results15,go_sem],by have h:=Bf (st:=st) (by rw [HN.out];exact fun e=>absurd e.2 (by decide)) oV.out;rwa [HZ.out] at h⟩
     ·have e4:decide ((st.length:Int) - 2<(ol:Int))=false:=decide_eq_false t4
      (have HN:Hid (tJ st=true):=by unfold Hid;rw [Lh.out,e4,decide_eq_false t1,decide_eq_false t3,decide_eq_false (fun h=>h t2)];rfl);clear t1 t2 t3 t4 T1 hci qV;go_wp2_with fail;exact ⟨rfl,.tuple #[.slice op ol oc,.bool true,.int .i64 0],by simp [results,Tryz.results15,go_sem],oV.out,_,by rw [HV.out,HN.out,HZ.out],by rw [HR.out HN.out];exact HOO.out⟩
    ·have e2:((m:Int) != 2)=true:=by simp;omega
     (have HN:Hid (tJ st=false):=by unfold Hid;rw [Lh.out,decide_eq_true (show m≠2 from t2)];simp);clear t1 t2 T1 hci qV;go_wp2_with fail;exact ⟨rfl,.tuple #[.slice none 0 0,.bool false,.int .i64 0],by simp [results,Tryz.results15,go_sem],by have h:=Bf (st:=st) (by rw [HN.out];exact fun e=>absurd e.2 (by decide)) oV.out;rwa [HZ.out] at h⟩
 ·have HZ:Hid (mO st=2):=by unfold Hid;rw [qO.out,hb];rfl
  rw [hb] at nM;clear hb qO
  go_enter Tryz.func15,Tryz.ntmps15
  go_wp2_with fail;refine nM.out.mono ?_;rintro e w2 ⟨rfl,n2,rfl⟩;go_wp2_with fail;exact ⟨rfl,.tuple #[.slice none 0 0,.bool false,.int .i64 2],by simp [results,Tryz.results15,go_sem],by have h:=Bf (st:=st) (by rw [HZ.out];exact fun e=>absurd e.1 (by decide)) (Up.drewN w n2);rwa [HZ.out] at h⟩
def kF:List Int->List Int:=List.foldl (fun s x=>if x∈s then s else s++[x]) []
theorem GA (l:List Int) (x:Int):kF (l++[x])=if x∈kF l then kF l else kF l++[x]:=by
 unfold kF;rw [List.foldl_append];rfl
theorem OX (P:List Int->Prop) (h0:P []) (h1:∀l y,P l->P (l++[y])) (l:List Int):P l:=by
 have h:∀l:List Int,P l.reverse:=fun l=>by
  induction l with
  | nil=>exact h0
  | cons y l ih=>rw [List.reverse_cons];exact h1 _ _ ih
 have:=h l.reverse
 rwa [List.reverse_reverse] at this
theorem SA {l:List Int} {x:Int}:x∈kF l↔x∈l:=by
 revert x
 refine OX (fun l=>∀ {x:Int},x∈kF l↔x∈l) (by simp [kF]) (fun l y ih=>?_) l
 ·intro x
  rw [GA,dV,dP]
  split
  ·rename_i h
   rw [ih]
   exact ⟨.inl,fun h2=>h2.elim id fun e=>by subst e;exact ih.1 h⟩
  ·rw [dV,dP,ih]
theorem SB (l:List Int):(kF l).length=(dd l).length:=by
 refine OX (fun l=>(kF l).length=(dd l).length) rfl (fun l y ih=>?_) l
 ·show (kF (l++[y])).length=(dd (l++[y])).length
  rw [GA,dd_snoc];by_cases h:y∈l
  ·rw [if_pos (SA.2 h),if_pos h,ih];rfl
  ·rw [if_neg fun e=>h (SA.1 e),if_neg h,aZ,ih];rfl
theorem seenL_le (l:List Int):(kF l).length<=l.length:=by
 rw [SB];exact (vI l).length_le_of_subset fun x hx=>mE.1 hx
theorem SC (l:List Int) (x:Int):((List.range l.length).any fun j=>decide (x=gi l j))=decide (x∈l):=by
 rw [lR,eO,decide_eq_true_eq];constructor
 ·rintro ⟨k,hk,e⟩
  have e:=of_decide_eq_true e;rw [e];exact mq (bh.1 hk)
 ·intro h
  obtain ⟨k,hk,e⟩:=zl h;exact ⟨k,bh.2 hk,decide_eq_true e.symm⟩
structure yz (B:Nat) (W:World) (a b:Value) (xs ys:List Int):Prop where
 oa:ax B 3 W a (xs.map (Value.int .i64))
 ob:ax B 3 W b (ys.map (Value.int .i64))
 ap:∀c,a.ownBlock=some c->b.ownBlock≠some c
section
variable {B:Nat} {W W':World} {a b:Value} {xs ys:List Int} {g cap k:Nat} {x:Int}
theorem yz.start (B:Nat) (W:World):yz B W (.slice none 0 0) (.slice none 0 0) [] []:=⟨ax.nil _ _ _,ax.nil _ _ _,fun c h=>by cases h⟩
theorem yz.appA (h:yz B W a b xs ys) (ho:ax B 3 W' (.slice (some ⟨g,0,none⟩) k cap) (xs.map (Value.int .i64)++[.int .i64 x])) (hg:W.grownBy W' a.ownBlock) (dD:a.ownBlock=some g\/W.heap.size<=g) :
  yz B W' (.slice (some ⟨g,0,none⟩) k cap) b (xs++[x]) ys :=
 ⟨by rw [cg];exact ho,h.ob.fM fun c hc=>hg.block c (av h.ob hc).2 (fun e=>h.ap c e.symm hc),Sy h.ob h.ap dD⟩
theorem yz.appB (h:yz B W a b xs ys) (ho:ax B 3 W' (.slice (some ⟨g,0,none⟩) k cap) (ys.map (Value.int .i64)++[.int .i64 x])) (hg:W.grownBy W' b.ownBlock) (dD:b.ownBlock=some g\/W.heap.size<=g) :
  yz B W' a (.slice (some ⟨g,0,none⟩) k cap) xs (ys++[x]) :=
 ⟨h.oa.fM fun c hc=>hg.block c (av h.oa hc).2 (fun e=>h.ap c hc e.symm),by rw [cg];exact ho,fun c hc hc2=>Sy h.oa (fun c h1 h2=>h.ap c h2 h1) dD c hc2 hc⟩
theorem yz.shape (h:yz B W a b xs ys):(∃p c,a=.slice p xs.length c)/\∃p c,b=.slice p ys.length c:=by
 obtain ⟨q,c,e,_⟩:=h.oa.form (n:=xs.length) (by simp);obtain ⟨q2,c2,e2,_⟩:=h.ob.form (n:=ys.length) (by simp);exact ⟨⟨q,c,e⟩,q2,c2,e2⟩
theorem Lt {v:Value} (h:ax B 3 W v (xs.map (Value.int .i64))):ah (fun b=>B<=b) W v xs:=by
 have h2:=h.vz;rw [aG] at h2;exact h2.congr fun k hk=>by simp [gi,hk]
end
theorem col_err34 {aac:List ByteArray} {aad:List (List Int)} {p:Nat} (h:mR aac aad) (hp:p<(gl aad 0).length):mO (bg aad p)=0:=by
 have Fc:=(ag_lenP h.ag).1;refine os_err0 (by rw [gC];exact Fc) fun i hi=>?_;rw [gC] at hi;have:=((yM h.ag).2 i hi).2 p hp;rw [r7 _ _ hi];exact this
theorem Yi {aac:List ByteArray} {aad:List (List Int)} {p:Nat} (h:mR aac aad) (hp:p<(gl aad 0).length) (hm:(-1:Int)∉bg aad p):∀b,b<aac.length->0<=gi (bg aad p) b:=fun b hb=>by
 have hb2:b<(bg aad p).length:=by rw [gC,h.len];exact hb
 have h1:=((yM h.ag).2 b (by rw [h.len];exact hb)).2 p hp
 rw [<- r7 _ _ (by rw [h.len];exact hb)] at h1
 have h2:=mq hb2
 have h3:gi (bg aad p) b ≠ -1:=fun e=>hm (by rw [<- e];exact h2)
 omega
end
end Go.Proofs.YthgabkgmkolobaaGreat
