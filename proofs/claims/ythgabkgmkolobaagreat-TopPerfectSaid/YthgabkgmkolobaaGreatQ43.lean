/- Plain: scores of trees for named states, errors of names and states, optimal trees. The .. -/
import Derived.Test.YthgabkgmkolobaaGreatQ42
import Derived.Test.YthgabkgmkolobaaGreatQ37
import Derived.Test.YthgabkgmkolobaaGreatQ38
import Derived.Test.YthgabkgmkolobaaGreatQ28
set_option maxRecDepth 100000
set_option maxHeartbeats 4000000
namespace Go.Proofs.YthgabkgmkolobaaGreat
section
def PN (aac:List ByteArray) (st:List Int) (x:ByteArray):Int:=if x.size=0 then -1 else if 0<=iD aac x then gi st (iD aac x).toNat else -1
section
variable {t u:az} {aac:List ByteArray} {aad:List (List Int)}
theorem Z6 (h:dK t aac) {i p:Nat} (hi:i<t.ps.length) (hk:bq t.ps i=[]):PN aac (bg aad p) (gs t.ns i)=nh t.ns (iN t aac aad p) i:=by
 have hl:=leafOk_of h.te hi hk;obtain ⟨_,_,hnl,_,_⟩:=aF h.te;obtain ⟨p1,p2⟩:=Pr hnl hi hl.nm;obtain ⟨b,hb,_,e⟩:=zm h hi hl.nm;have h1:=PK (st:=iN t aac aad p) p1 p2;rw [h1];unfold PN iN;rw [if_neg hl.nm,if_pos (by omega),A7 p1,p2,cZ]
theorem metr16:vR (bZ 16).length (jm (bZ 16)):=by
 have hc:∀a b,a<16->b<16->jm (bZ 16) a b=if a=b then 0 else 1:=fun a b ha hb=>R9 ha hb
 rw [gM];refine ⟨fun a b ha hb=>?_,fun a ha=>?_,fun a b ha hb=>?_,fun a b c ha hb hc2=>?_⟩
 ·rw [hc a b ha hb];split<;>omega
 ·rw [hc a a ha ha];simp
 ·rw [hc a b ha hb,hc b a hb ha]
  by_cases e:a=b
  ·rw [if_pos e,if_pos e.symm]
  ·rw [if_neg e,if_neg (gj e)]
 ·rw [hc a c ha hc2,hc a b ha hb,hc b c hb hc2]
  by_cases e:a=c
  ·rw [if_pos e];split<;>split<;>omega
  ·rw [if_neg e]
   by_cases e2:a=b
   ·subst e2;rw [if_pos rfl,if_neg e];omega
   ·rw [if_neg e2];split<;>omega
theorem score_mono (hc:mR aac aad) (ht:dK t aac) (hu:dK u aac) (h:∀m cost bW,vR m cost->(∀x:ByteArray,x.size=0->bW x<0)->∀s c,fZ m cost bW (iZ t) s c->∃s' c',c'<=c/\fZ m cost bW (iZ u) s' c'):bz u aac aad<=bz t aac aad:=by
 unfold bz;refine ki fun p hp=>?_;obtain ⟨⟨s,h1⟩,_⟩:=Sd (bW:=PN aac (bg aad p)) (ru hc ht hp) fun i hi hk=>Z6 ht hi hk;obtain ⟨_,h2⟩:=Sd (bW:=PN aac (bg aad p)) (ru hc hu hp) fun i hi hk=>Z6 hu hi hk;obtain ⟨s',c',h3,h4⟩:=h _ _ (PN aac (bg aad p)) metr16 (fun x hx=>by unfold PN;rw [if_pos hx];omega) _ _ h1;have:=h2 s' c' h4;omega
theorem least_le (hc:mR aac aad) (ht:dK t aac):cB aac aad<=bz t aac aad:=by
 have h1:(dx (iZ t)).Perm aac:=by
  refine (rN ht.te).trans ?_;have fe:(qK t.ns).Nodup:=(rN ht.te).nodup (ou ht.te).nd;refine Gj fe (fun x hx=>?_) ?_
  ·obtain ⟨j,hj,rfl,hj0⟩:=ES.1 hx
   obtain ⟨_,_,hnl,_,_⟩:=aF ht.te;obtain ⟨b,hb,e⟩:=ht.has j (by omega) hj0;rw [<- e];simp [gs,hb]
  ·rw [<- Dc,ht.len];omega
 obtain ⟨q,hq,h2⟩:=best_ex hc.nm (ou ht.te) h1;have hqt:flat q∈allT aac:=List.mem_map_of_mem hq;have h3:=(sk hc).1 _ hqt;have h4:=score_mono hc ht (mM hc.nm hqt).1 (by rw [vE];exact fun m cost bW M _=>h2 m cost bW M);omega
end
end
section
def jM (n:Int) (l:List (List Int)):Int:=if 64<l.length then 4 else if n<1\/32<n then 2 else bU (fun k=>cM n (gl l k)) l.length
end
section
open Go.RowKit Go.Shelf Go.Deep
def WC (n:Int) (l:List (List Int)):Int:=if jM n l=0 then Le l else 0
def WD (n:Int) (l:List (List Int)):Int:=if jM n l=0 then Lf l else 0
def Z7 (n:Int) (l:List (List Int)):Bool:=decide (jM n l=0)&&DB l
theorem OP {n:Int} {l:List (List Int)} (h:jM n l≠0):WC n l=0/\WD n l=0/\Z7 n l=false:=by
 unfold WC WD Z7;rw [if_neg h,if_neg h,decide_eq_false h];exact ⟨rfl,rfl,rfl⟩
theorem Z8 {n:Int} {l:List (List Int)} (h:jM n l=0):WC n l=Le l/\WD n l=Lf l/\Z7 n l=DB l:=by
 unfold WC WD Z7;rw [if_pos h,if_pos h,decide_eq_true h];exact ⟨rfl,rfl,rfl⟩
theorem all_t (S:Nat->Prop) (w:World) (v:Value) (n:Int) (l:List (List Int)) (h:aR S w v l) (hn:l.length<=1000000) (hr:∀k,(gl l k).length<=1000000) :
  Calls Tryz.prog 16 #[.int .i64 n,v] w fun e w'=>e=.returned (.tuple #[.int .i64 (WC n l),.int .i64 (WD n l),.bool (Z7 n l),.int .i64 (jM n l)])/\Up w w':=by
 have HF:Hid (jM n l=if 64<l.length then 4 else if n<1\/32<n then 2 else bU (fun k=>cM n (gl l k)) l.length):=rfl;obtain ⟨p,cap,rfl,-,-⟩:=dW h;have H:Hid (aR S w (.slice p l.length cap) l):=h;have HR:=aa hr;clear h hr;by_cases h1:64<l.length
 ·have HE:Hid (jM n l=4):=by unfold Hid;rw [HF.out,if_pos h1]
  go_enter Tryz.func16,Tryz.ntmps16
  go_wp2_with fail;exact ⟨rfl,.tuple #[.int .i64 0,.int .i64 0,.bool false,.int .i64 4],by simp [results,Tryz.results16,go_sem],by obtain ⟨y1,y2,y3⟩:=OP (show jM n l≠0 by rw [HE.out];decide);rw [y1,y2,y3,HE.out],Up.refl _⟩
 by_cases h2:n<1
 ·have HE:Hid (jM n l=2):=by unfold Hid;rw [HF.out,if_neg h1,if_pos (.inl h2)]
  go_enter Tryz.func16,Tryz.ntmps16
  go_wp2_with fail;exact ⟨rfl,.tuple #[.int .i64 0,.int .i64 0,.bool false,.int .i64 2],by simp [results,Tryz.results16,go_sem],by obtain ⟨y1,y2,y3⟩:=OP (show jM n l≠0 by rw [HE.out];decide);rw [y1,y2,y3,HE.out],Up.refl _⟩
 by_cases h3:32<n
 ·have HE:Hid (jM n l=2):=by unfold Hid;rw [HF.out,if_neg h1,if_pos (.inr h3)]
  go_enter Tryz.func16,Tryz.ntmps16
  go_wp2_with fail;exact ⟨rfl,.tuple #[.int .i64 0,.int .i64 0,.bool false,.int .i64 2],by simp [results,Tryz.results16,go_sem],by obtain ⟨y1,y2,y3⟩:=OP (show jM n l≠0 by rw [HE.out];decide);rw [y1,y2,y3,HE.out],Up.refl _⟩
 have HE:Hid (jM n l=bU (fun k=>cM n (gl l k)) l.length):=by unfold Hid;rw [HF.out,if_neg h1,if_neg (by omega)]
 have HP:Hid ((∀k,k<l.length->cM n (gl l k)=0)->Calls Tryz.prog 66 #[.slice p l.length cap] w fun e w'=>e=.returned (.tuple #[.int .i64 (Le l),.int .i64 (Lf l),.bool (DB l)])/\Up w w'):=fun ho=>pair_t S w _ l H.out (fun k hk=>(nJ.1 (ho k hk)).set) (by omega);have n64:(l.length:Int)<=64:=by omega
 clear HF
 go_enter Tryz.func16,Tryz.ntmps16
 go_wp2_with fail
 go_loop [9,10,27] (fun _ _ i=>∃k:Nat,k<=l.length/\i=.int .i64 k/\Hid (∀j,j<k->cM n (gl l j)=0)) (fun _ _ i=>l.length - (intOf i).toNat)
 case atStart=>exact ⟨0,aL _,rfl,fun j hj=>absurd hj (bG _)⟩
 case round =>
  obtain ⟨k,hk,rfl,hd⟩:=hrel;by_cases hlt:k<l.length
  ·obtain ⟨b,off,q,c,rfl,hc,hi⟩:=gP H.out hlt
   have HC:=aa (AL S w _ n (gl l k) hi (HR.out k));clear hi;generalize Ho:cM n (gl l k)=se at *;have wH:=aa Ho;clear Ho;by_cases h0:se=0
   ·have HZ:=aa h0
    subst h0;go_wp2_with fail;refine HC.out.mono ?_;rintro e w' ⟨rfl,rfl⟩;go_wp2_with fail
    go_round
    case rel=>exact ⟨k+1,by omega,by go_num,fun j hj=>by
     by_cases e:j=k
     ·subst e;exact wH.out
     ·exact hd.out j (by omega)⟩
    case measure=>simp [intOf];omega
   ·have HZ:=aa h0
    (have d1:(se==0)=false:=by simpa using h0);(have d2:(se != 0)=true:=by simpa using h0);clear h0;go_wp2_with fail;refine HC.out.mono ?_;rintro e w' ⟨rfl,rfl⟩;go_wp2_with fail;(have he:jM n l=se:=by rw [HE.out,gm (f:=fun k=>cM n (gl l k)) hlt hd.out (by rw [wH.out];exact HZ.out)];exact wH.out);exact ⟨rfl,.tuple #[.int .i64 0,.int .i64 0,.bool false,.int .i64 se],by simp [results,Tryz.results16,go_sem],by obtain ⟨y1,y2,y3⟩:=OP (show jM n l≠0 by rw [he];exact HZ.out);rw [y1,y2,y3,he],Up.refl _⟩
  ·obtain rfl:k=l.length:=by omega
   have HQ:=aa (HP.out hd.out);(have HZ:Hid (jM n l=0):=by unfold Hid;rw [HE.out];exact cR hd.out);clear hlt;go_wp2_with fail;refine HQ.out.mono ?_;rintro e w' ⟨rfl,hu⟩;have HU:=aa hu;clear hu;go_wp2_with fail;exact ⟨rfl,.tuple #[.int .i64 (Le l),.int .i64 (Lf l),.bool (DB l),.int .i64 0],by simp [results,Tryz.results16,go_sem],by obtain ⟨y1,y2,y3⟩:=Z8 HZ.out;rw [y1,y2,y3,HZ.out],HU.out⟩
end
section
open Go.RowKit Go.Deep
structure WE (aac:List ByteArray) (aad:List (List Int)):Prop where
 cs:mR aac aad
 wd:(gl aad 0).length<=6
def qf (aac:List ByteArray) (aad:List (List Int)):Bool:=decide (aac.length<=5)&&!oD aac aad&&decide (fo aad=0)&&decide (aad.length=aac.length)&&decide ((gl aad 0).length<=6)&&decide (dm aac=0)
theorem WG {aac:List ByteArray} {aad:List (List Int)} (h:qf aac aad=true):WE aac aad/\Px aac aad:=by
 unfold qf at h;simp only [gD,decide_eq_true_eq,Ag] at h;obtain ⟨⟨⟨⟨⟨h1,h2⟩,h3⟩,h4⟩,h5⟩,h6⟩:=h;exact ⟨⟨⟨(mQ h1).1 h6,h3,h4⟩,h5⟩,E1 h2⟩
theorem Z9 (S T:Nat->Prop) (w:World) (v vs:Value) (aac:List ByteArray) (aad:List (List Int)) (h:au S w v aac) (hS:aR T w vs aad) (hn:aac.length<=9223372036854775807) (hz:∀k,(gs aac k).size<=9223372036854775807) (hm:aad.length<=9223372036854775807) (hr:∀k,(gl aad k).length<=9223372036854775807) :
  Calls Tryz.prog 12 #[v,vs] w fun e w'=>e=.returned (.bool (qf aac aad))/\Up w w':=by
 obtain ⟨p,cap,rfl,hcap,-⟩:=ay.open h;have h:au S w (.slice p aac.length cap) aac:=h;obtain ⟨sp,sc,rfl,-,-⟩:=dW hS;have EI:=aa (RH S T w _ _ aac aad h hS hn hz hm hr);have gy:Hid (oD aac aad=false->Calls Tryz.prog 60 #[.slice sp aad.length sc] w fun e w'=>e=.returned (.int .i64 (fo aad))/\QD w w'):=fun hg=>check30R_t T w _ aad hS (by have:=(E1 hg).m10;omega) (fun k=>by have:=(E1 hg).row k;omega)
 have HB:Hid (qf aac aad=(decide (aac.length<=5)&&!oD aac aad&&decide (fo aad=0)&&decide (aad.length=aac.length)&&decide ((gl aad 0).length<=6)&&decide (dm aac=0))):=rfl;have HS:=aa hS;have HH:=aa h;have EX:Hid (fo aad=0->0<aad.length):=fun h=>(yM h).1;have Sg:Hid (oD aac aad=false->Px aac aad):=E1;clear h hS hz hr;by_cases h5:aac.length<=5
 ·have i5:¬(5:Int)<(aac.length:Int):=by omega
  have d5:decide ((5:Int)<(aac.length:Int))=false:=decide_eq_false i5;rw [decide_eq_true h5] at HB;have H5:=aa h5;clear h5
  go_enter Tryz.func12,Tryz.ntmps12
  go_wp2_with fail;refine EI.out.mono ?_;rintro e w1 ⟨rfl,rfl⟩;cases hg:oD aac aad
  ·have HCK1:=aa (gy.out hg)
   have HG:=aa (Sg.out hg);rw [hg] at HB;clear hg EI gy Sg;go_wp2_with fail;refine HCK1.out.mono ?_;rintro e w3 ⟨rfl,hq⟩;have eo:=aa hq.up;have EW:=aa (aR.keep HS.out (hq.up.kept T));have kM:=aa (VJ S w3 _ aac (au.keep HH.out (hq.up.kept S)) (by have:=H5.out;omega) (fun k=>by have:=HG.out.nm k;omega) (.inl H5.out));clear hq HCK1 HS;by_cases ha:fo aad=0
   ·have h0:=EX.out ha
    obtain ⟨sb,so,s0,s1,rfl,hc0,-⟩:=gP EW.out h0;rw [jZ] at hc0;rw [ha] at HB ⊢;clear ha EX;(have i1:(0:Int)<(aad.length:Int):=by omega);by_cases hl:aad.length=aac.length
    ·have d1:((aad.length:Int) != (aac.length:Int))=false:=by simp [hl]
     rw [decide_eq_true hl] at HB;clear hl;by_cases h6:(gl aad 0).length<=6
     ·have ry:Hid (qf aac aad=decide (dm aac=0)):=by unfold Hid;rw [HB.out,decide_eq_true h6];simp
      (have i6:¬(6:Int)<((gl aad 0).length:Int):=by omega);have d6:decide ((6:Int)<((gl aad 0).length:Int))=false:=decide_eq_false i6;clear HB h6;generalize (gl aad 0).length=m at *;go_wp2_with fail;refine kM.out.mono ?_;rintro e w4 ⟨di,v4,rfl,-⟩;have kX:=aa (eo.out.trans di);clear di kM;generalize dm aac=c at *;go_wp2_with fail;go_ret;exact ⟨aV (by rw [ry.out];first | done | (by_cases e:c=0<;>simp [e])),kX.out⟩
     ·have ry:Hid (qf aac aad=false):=by unfold Hid;rw [HB.out,decide_eq_false h6];simp
      (have i6:(6:Int)<((gl aad 0).length:Int):=by omega);have d6:decide ((6:Int)<((gl aad 0).length:Int))=true:=decide_eq_true i6;clear HB h6;generalize (gl aad 0).length=m at *;go_wp2_with fail
      all_goals (go_ret;exact ⟨aV ry.out.symm,eo.out⟩)
    ·have ry:Hid (qf aac aad=false):=by unfold Hid;rw [HB.out];simp [hl]
     (have d1:((aad.length:Int) != (aac.length:Int))=true:=by simp;omega);clear HB hl;go_wp2_with fail
     all_goals (go_ret;exact ⟨aV ry.out.symm,eo.out⟩)
   ·have ry:Hid (qf aac aad=false):=by unfold Hid;rw [HB.out];simp [ha]
    generalize fo aad=a at *;(have d1:(a != 0)=true:=by simpa using ha);clear HB EX;go_wp2_with fail
    all_goals (go_ret;exact ⟨aV ry.out.symm,eo.out⟩)
  ·have ry:Hid (qf aac aad=false):=by unfold Hid;rw [HB.out,hg];rfl
   clear hg;go_wp2_with fail
   all_goals (go_ret;exact ⟨aV ry.out.symm,Up.refl _⟩)
 ·have i5:(5:Int)<(aac.length:Int):=by omega
  have d5:decide ((5:Int)<(aac.length:Int))=true:=decide_eq_true i5;have ry:Hid (qf aac aad=false):=by unfold Hid;rw [HB.out,decide_eq_false h5];rfl
  clear h5
  go_enter Tryz.func12,Tryz.ntmps12
  go_wp2_with fail
  all_goals (go_ret;exact ⟨aV ry.out.symm,Up.refl _⟩)
def Fg:List (List Int):=[[0,0],[0,1],[1,0],[1,1]]
def Fh:List (List Int):=[[0,0],[0,0],[1,0],[1,1]]
def sp6:List (List Int):=[[2,3],[1,3]]
theorem Bb:gL jK Fg=0/\gL jK Fh=0:=by decide +kernel
theorem aw6_s:bz p9 jK Fg=3/\bz uy jK Fg=4/\bz sw jK Fg=3:=by decide +kernel
theorem aw7_s:bz p9 jK Fh=2/\bz uy jK Fh=3/\bz sw jK Fh=3:=by decide +kernel
theorem Sh:cB jK Fg=3:=by
 obtain ⟨h1,h2,h3⟩:=aw6_s;unfold cB;rw [E0];show sS (fun k=>bz (gt [uy,sw,p9] k) jK Fg) 3=3;have e0:bz (gt [uy,sw,p9] 0) jK Fg=4:=h2;have e1:bz (gt [uy,sw,p9] 1) jK Fg=3:=h3;have e2:bz (gt [uy,sw,p9] 2) jK Fg=3:=h1;simp [sS,e0,e1,e2]
theorem aw6_best:eE jK Fg=[sw,p9]:=by
 obtain ⟨h1,h2,h3⟩:=aw6_s;unfold eE;rw [E0,Sh];simp [h1,h2,h3]
theorem Si:cB jK Fh=2:=by
 obtain ⟨h1,h2,h3⟩:=aw7_s;unfold cB;rw [E0];show sS (fun k=>bz (gt [uy,sw,p9] k) jK Fh) 3=2;have e0:bz (gt [uy,sw,p9] 0) jK Fh=3:=h2;have e1:bz (gt [uy,sw,p9] 1) jK Fh=3:=h3;have e2:bz (gt [uy,sw,p9] 2) jK Fh=2:=h1;simp [sS,e0,e1,e2]
theorem aw7_best:eE jK Fh=[p9]:=by
 obtain ⟨h1,h2,h3⟩:=aw7_s;unfold eE;rw [E0,Si];simp [h1,h2,h3]
theorem aaa:Z7 4 sp6=false/\jM 4 sp6=0:=by decide +kernel
theorem Bc (w:World) (x y:Int):ah Any (w.alloc (.cells #[.int .i64 x,.int .i64 y] 3)) (.slice (some ⟨w.heap.size,0,none⟩) 2 2) [x,y]:=ya w _ _ [x,y] rfl 2 rfl
def Mu (w:World) (x0 y0 x1 y1 x2 y2 x3 y3:Int):World:=((((w.alloc (.cells #[.int .i64 x0,.int .i64 y0] 3)).alloc (.cells #[.int .i64 x1,.int .i64 y1] 3)).alloc (.cells #[.int .i64 x2,.int .i64 y2] 3)).alloc (.cells #[.int .i64 x3,.int .i64 y3] 3))
theorem WH (w:World) (x0 y0 x1 y1 x2 y2 x3 y3:Int):aR Any ((Mu w x0 y0 x1 y1 x2 y2 x3 y3).alloc (.cells #[.slice (some ⟨w.heap.size,0,none⟩) 2 2,.slice (some ⟨w.heap.size+1,0,none⟩) 2 2,.slice (some ⟨w.heap.size+1+1,0,none⟩) 2 2,.slice (some ⟨w.heap.size+1+1+1,0,none⟩) 2 2] 26)) (.slice (some ⟨w.heap.size+1+1+1+1,0,none⟩) 4 4) [[x0,y0],[x1,y1],[x2,y2],[x3,y3]]/\Up w ((Mu w x0 y0 x1 y1 x2 y2 x3 y3).alloc (.cells #[.slice (some ⟨w.heap.size,0,none⟩) 2 2,.slice (some ⟨w.heap.size+1,0,none⟩) 2 2,.slice (some ⟨w.heap.size+1+1,0,none⟩) 2 2,.slice (some ⟨w.heap.size+1+1+1,0,none⟩) 2 2] 26)):=by
 have s0:=Bc w x0 y0;have s1:=Bc (w.alloc (.cells #[.int .i64 x0,.int .i64 y0] 3)) x1 y1;have s2:=Bc ((w.alloc (.cells #[.int .i64 x0,.int .i64 y0] 3)).alloc (.cells #[.int .i64 x1,.int .i64 y1] 3)) x2 y2;have s3:=Bc (((w.alloc (.cells #[.int .i64 x0,.int .i64 y0] 3)).alloc (.cells #[.int .i64 x1,.int .i64 y1] 3)).alloc (.cells #[.int .i64 x2,.int .i64 y2] 3)) x3 y3;simp only [aQ] at s1 s2 s3;have hsz:(Mu w x0 y0 x1 y1 x2 y2 x3 y3).heap.size=w.heap.size+1+1+1+1:=by unfold Mu;simp only [aQ]
 have hL:=Up.alloc (Mu w x0 y0 x1 y1 x2 y2 x3 y3) (.cells #[.slice (some ⟨w.heap.size,0,none⟩) 2 2,.slice (some ⟨w.heap.size+1,0,none⟩) 2 2,.slice (some ⟨w.heap.size+1+1,0,none⟩) 2 2,.slice (some ⟨w.heap.size+1+1+1,0,none⟩) 2 2] 26);have u0:=Up.alloc w (.cells #[.int .i64 x0,.int .i64 y0] 3);have u1:=Up.alloc (w.alloc (.cells #[.int .i64 x0,.int .i64 y0] 3)) (.cells #[.int .i64 x1,.int .i64 y1] 3);have u2:=Up.alloc ((w.alloc (.cells #[.int .i64 x0,.int .i64 y0] 3)).alloc (.cells #[.int .i64 x1,.int .i64 y1] 3)) (.cells #[.int .i64 x2,.int .i64 y2] 3)
 have u3:=Up.alloc (((w.alloc (.cells #[.int .i64 x0,.int .i64 y0] 3)).alloc (.cells #[.int .i64 x1,.int .i64 y1] 3)).alloc (.cells #[.int .i64 x2,.int .i64 y2] 3)) (.cells #[.int .i64 x3,.int .i64 y3] 3);refine ⟨F9 (f:=fun k=>.slice (some ⟨w.heap.size+k,0,none⟩) 2 2) rfl (fun k hk=>?_) (fun k hk=>?_),((((u0.trans u1).trans u2).trans u3).trans hL)⟩
 ·rw [<- hsz,aS]
  match k,hk with
  | 0,_=>rfl
  | 1,_=>rfl
  | 2,_=>rfl
  | 3,_=>rfl
 ·match k,hk with
  | 0,_=>exact ah.keep s0 ((((u1.trans u2).trans u3).trans hL).kept _)
  | 1,_=>exact ah.keep s1 (((u2.trans u3).trans hL).kept _)
  | 2,_=>exact ah.keep s2 ((u3.trans hL).kept _)
  | 3,_=>exact ah.keep s3 (hL.kept _)
def PO (w:World) (x0 y0 x1 y1:Int):World:=((w.alloc (.cells #[.int .i64 x0,.int .i64 y0] 3)).alloc (.cells #[.int .i64 x1,.int .i64 y1] 3))
theorem pr2_rows (w:World) (x0 y0 x1 y1:Int):aR Any ((PO w x0 y0 x1 y1).alloc (.cells #[.slice (some ⟨w.heap.size,0,none⟩) 2 2,.slice (some ⟨w.heap.size+1,0,none⟩) 2 2] 26)) (.slice (some ⟨w.heap.size+1+1,0,none⟩) 2 2) [[x0,y0],[x1,y1]]/\Up w ((PO w x0 y0 x1 y1).alloc (.cells #[.slice (some ⟨w.heap.size,0,none⟩) 2 2,.slice (some ⟨w.heap.size+1,0,none⟩) 2 2] 26)):=by
 have s0:=Bc w x0 y0;have s1:=Bc (w.alloc (.cells #[.int .i64 x0,.int .i64 y0] 3)) x1 y1;simp only [aQ] at s1;have hsz:(PO w x0 y0 x1 y1).heap.size=w.heap.size+1+1:=by unfold PO;simp only [aQ]
 have hL:=Up.alloc (PO w x0 y0 x1 y1) (.cells #[.slice (some ⟨w.heap.size,0,none⟩) 2 2,.slice (some ⟨w.heap.size+1,0,none⟩) 2 2] 26);have u0:=Up.alloc w (.cells #[.int .i64 x0,.int .i64 y0] 3);have u1:=Up.alloc (w.alloc (.cells #[.int .i64 x0,.int .i64 y0] 3)) (.cells #[.int .i64 x1,.int .i64 y1] 3);refine ⟨F9 (f:=fun k=>.slice (some ⟨w.heap.size+k,0,none⟩) 2 2) rfl (fun k hk=>?_) (fun k hk=>?_),((u0.trans u1).trans hL)⟩
 ·rw [<- hsz,aS]
  match k,hk with
  | 0,_=>rfl
  | 1,_=>rfl
 ·match k,hk with
  | 0,_=>exact ah.keep s0 ((u1.trans hL).kept _)
  | 1,_=>exact ah.keep s1 (hL.kept _)
theorem WI (w:World):Calls Tryz.prog 13 #[] w fun e w'=>e=.returned (.bool true)/\Up w w':=by
 have bA:=Up.alloc w (.cells #[.string ⟨#[65]⟩,.string ⟨#[66]⟩,.string ⟨#[67]⟩,.string ⟨#[68]⟩] 9);have Tv:=LP w #[.string ⟨#[65]⟩,.string ⟨#[66]⟩,.string ⟨#[67]⟩,.string ⟨#[68]⟩] 9 jK rfl 4 rfl;have Fi:=aa (WH (w.alloc (.cells #[.string ⟨#[65]⟩,.string ⟨#[66]⟩,.string ⟨#[67]⟩,.string ⟨#[68]⟩] 9)) 0 0 0 1 1 0 1 1);have qb:=aa (yg Any _ _ _ jK Fg (au.keep Tv (Fi.out.2.kept _)) (by decide) Vw Fi.out.1 (by decide) (Cc (by decide)) (.inl (by decide)));have bD:=aa (bA.trans Fi.out.2);have wC:=aa (au.keep Tv (Fi.out.2.kept _))
 simp only [aQ] at qb bD wC;unfold Mu at qb bD wC;clear bA Tv Fi
 go_enter Tryz.func13,Tryz.ntmps13
 go_wp2_with fail;refine qb.out.mono ?_;rintro e w2 ⟨aK,v2,rfl,ht2⟩;have e1:rR jK Fg=3:=by unfold rR;rw [Bb.1,if_pos rfl,Sh]
 have e2:l5 jK Fg=[sw,p9]:=by unfold l5;rw [if_pos Bb.1,aw6_best]
 rw [e2] at ht2;rw [e1,Bb.1];obtain ⟨p2,c2,rfl,-⟩:=iM ht2;have eo:=aa (bD.out.trans aK);have Wc:=aa (au.keep wC.out (aK.kept _));clear aK ht2 e1 e2 qb bD wC;have Sj:=aa (WH w2 0 0 0 0 1 0 1 1);have Fb:=aa (yg Any _ _ _ jK Fh (au.keep Wc.out (Sj.out.2.kept _)) (by decide) Vw Sj.out.1 (by decide) (Cc (by decide)) (.inl (by decide)));have kX:=aa (eo.out.trans Sj.out.2);unfold Mu at Fb kX;clear Sj eo Wc;go_wp2_with fail;refine Fb.out.mono ?_;rintro e w5 ⟨ey,v5,rfl,zY⟩
 have e1:rR jK Fh=2:=by unfold rR;rw [Bb.2,if_pos rfl,Si]
 have e2:l5 jK Fh=[p9]:=by unfold l5;rw [if_pos Bb.2,aw7_best]
 rw [e2] at zY;rw [e1,Bb.2];obtain ⟨p5,c5,rfl,-⟩:=iM zY;have iw:=aa (kX.out.trans ey);clear ey zY e1 e2 Fb kX;have gu:=aa (pr2_rows w5 2 3 1 3);have kM:=aa (all_t Any _ _ 4 sp6 gu.out.1 (by decide) (Cc (by decide)));have rj:=aa (iw.out.trans gu.out.2);rw [aaa.1,aaa.2] at kM;unfold PO at kM rj;clear gu iw;generalize WC 4 sp6=a1 at *;generalize WD 4 sp6=a2 at *;go_wp2_with fail;refine kM.out.mono ?_;rintro e w7 ⟨rfl,qa⟩;have JA:=aa (rj.out.trans qa);clear qa kM rj;go_wp2_with fail;go_ret;exact ⟨rfl,JA.out⟩
def chkE (aac:List ByteArray) (aad:List (List Int)) (ts:List az) (sc:Int):Int:=if gL aac aad≠0 then gL aac aad else if rR aac aad=sc/\l5 aac aad=ts then 0 else 18
theorem WJ {aac:List ByteArray} (hn:gT aac):0<(allT aac).length/\(allT aac).length<=15:=by
 refine ⟨Wx hn,?_⟩;unfold allT;rw [aG,rO hn];split<;>(try split)<;>(try split)<;>omega
theorem OQ {aac:List ByteArray} {aad:List (List Int)} (hc:mR aac aad):0<(eE aac aad).length/\(eE aac aad).length<=15/\0<=cB aac aad/\cB aac aad<=409600000/\(∀k,k<(eE aac aad).length->gt (eE aac aad) k∈allT aac/\bz (gt (eE aac aad) k) aac aad=cB aac aad)/\chkE aac aad (eE aac aad) (cB aac aad)=0/\chkE aac aad (eE aac aad) (cB aac aad+1)=18:=by
 obtain ⟨_,h0,t,ht,e⟩:=sk hc;have hm:t∈eE aac aad:=fL.2 ⟨ht,decide_eq_true e⟩;have hce:=(vJ hc.nm.hi).2 hc;obtain ⟨k,hk,ek⟩:=Jc ht;have hb:=Vu hc hk;unfold xP at hb;rw [ek,e] at hb;have xe:rR aac aad=cB aac aad:=by unfold rR;rw [if_pos hce]
 have hbl:l5 aac aad=eE aac aad:=by unfold l5;rw [if_pos hce]
 refine ⟨Fv hm,aJ (pG _ _) (WJ hc.nm).2,h0,hb.2,fun k hk=>?_,?_,?_⟩
 ·obtain ⟨h1,h2⟩:=fL.1 (pZ hk)
  exact ⟨h1,of_decide_eq_true h2⟩
 ·unfold chkE;rw [if_neg (by rw [hce];simp),xe,hbl,if_pos ⟨rfl,rfl⟩]
 ·unfold chkE;rw [if_neg (by rw [hce];simp),xe,hbl,if_neg fun h=>by omega]
theorem PR {aac:List ByteArray} {aad:List (List Int)} (hc:mR aac aad) {t:az} (ho:dK t aac):mZ t aac aad=0/\zw t aac aad=bz t aac aad/\cB aac aad<=bz t aac aad:=by
 have h1:mZ t aac aad=0:=by unfold mZ;rw [if_neg fun h=>h ((vJ hc.nm.hi).2 hc),if_neg fun h=>h ho.te,if_pos ((B9 hc.nm ho.te).2 ho)]
 exact ⟨h1,by unfold zw;rw [if_pos h1],least_le hc ho⟩
theorem yw {aac:List ByteArray} {t:az} (ho:dK t aac) (hz:∀k,(gs aac k).size<=70000):t.ps.length<=1000000/\t.ns.length<=1000000/\∀k,(gs t.ns k).size<=70000:=by
 obtain ⟨_,Cn,hl,_,_⟩:=aF ho.te;refine ⟨by omega,by omega,fun k=>?_⟩;by_cases hk:k<t.ps.length
 ·by_cases h0:(gs t.ns k).size=0
  ·omega
  ·obtain ⟨b,_,e⟩:=ho.has k hk h0
   rw [<- e];exact hz b
 ·have:gs t.ns k=ByteArray.empty:=by simp [gs,show t.ns.length<=k by omega]
  rw [this];decide
end
end Go.Proofs.YthgabkgmkolobaaGreat
