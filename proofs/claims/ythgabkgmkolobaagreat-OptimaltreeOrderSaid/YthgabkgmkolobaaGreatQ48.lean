/- Layer 34's law: named, fine. The law of OptimaltreeOrder. -/
import Derived.Test.YthgabkgmkolobaaGreatQ47
set_option maxRecDepth 100000
set_option maxHeartbeats 2000000
namespace Go.Proofs.YthgabkgmkolobaaGreat
section
open Go.RowKit Go.Deep
def vh (acw:List ByteArray):Bool:=!jb acw []&&decide (acw.length<=5)&&decide (dK acw=0)
def kB (acw:List ByteArray) (acy:List (List Int)):Bool:=vh acw&&!jb acw acy&&decide (cB acy=0)&&decide (acy.length=acw.length)&&decide ((gl acy 0).length<=6)
theorem YO {acw:List ByteArray} (h:vh acw=true):dU acw:=by
 unfold vh at h;rw [fe,fe,decide_eq_true_iff,decide_eq_true_iff] at h;exact (xy h.1.2).1 h.2
structure PU (acw:List ByteArray) (acy:List (List Int)):Prop where
 cs:qc acw acy
 wd:(gl acy 0).length<=6
theorem PV {acw:List ByteArray} {acy:List (List Int)} (h:kB acw acy=true):PU acw acy:=by
 unfold kB at h;simp only [fe,decide_eq_true_eq] at h;obtain ⟨⟨⟨⟨h1,_⟩,h3⟩,h4⟩,h5⟩:=h;exact ⟨⟨YO h1,h3,h4⟩,h5⟩
theorem PW (S:Nat->Prop) (w:World) (v:Value) (acw:List ByteArray) (h:av S w v acw) (hn:acw.length<=9223372036854775807) (hz:∀k,(gs acw k).size<=9223372036854775807) :
  Calls Tryz.prog 25 #[v] w fun e w'=>e=.returned (.bool (vh acw))/\Up w w':=by
 obtain ⟨p,cap,rfl,hcap,-⟩:=aA.open h;have h:av S w (.slice p acw.length cap) acw:=h;have qK:=aa (Fc S Any w _ _ acw [] h (Qr _ _) hn hz (by decide) (fun k=>by simp [gl]));have HB:Hid (vh acw=(!jb acw []&&decide (acw.length<=5)&&decide (dK acw=0))):=rfl;have HH:=aa h;have HGO:Hid (jb acw []=false->MF acw []):=DB;clear h hz
 go_enter Tryz.func25,Tryz.ntmps25
 go_wp2_with fail;refine qK.out.mono ?_;rintro e w1 ⟨rfl,rfl⟩;cases hg:jb acw []
 ·have HG:=aa (HGO.out hg)
  rw [hg] at HB;clear hg qK HGO;by_cases h5:acw.length<=5
  ·have s5:=aa (Sg S w _ acw HH.out (by omega) (fun k=>by have:=HG.out.nm k;omega) (.inl h5))
   (have mN:Hid (vh acw=decide (dK acw=0)):=by unfold Hid;rw [HB.out];simp [h5]);(have i5:¬(5:Int)<(acw.length:Int):=by omega);(have d5:decide ((5:Int)<(acw.length:Int))=false:=by simp;omega);clear HB;go_wp2_with fail;refine s5.out.mono ?_;rintro e w2 ⟨aJ,v2,rfl,-⟩;have bY:=aa aJ;clear aJ s5;generalize dK acw=c at *;go_wp2_with fail;go_ret;exact ⟨bA (by rw [mN.out];first | done | (by_cases e:c=0<;>simp [e])),bY.out⟩
  ·have mN:Hid (vh acw=false):=by unfold Hid;rw [HB.out];simp [h5]
   (have d5:decide ((5:Int)<(acw.length:Int))=true:=by simp;omega);go_wp2_with fail
   all_goals (go_ret;exact ⟨bA mN.out.symm,Up.refl _⟩)
 ·have mN:Hid (vh acw=false):=by unfold Hid;rw [HB.out,hg];rfl
  clear hg;go_wp2_with fail
  all_goals (go_ret;exact ⟨bA mN.out.symm,Up.refl _⟩)
theorem Sh (S T:Nat->Prop) (w:World) (v vs:Value) (acw:List ByteArray) (acy:List (List Int)) (h:av S w v acw) (hS:bh T w vs acy) (hn:acw.length<=9223372036854775807) (hz:∀k,(gs acw k).size<=9223372036854775807) (hm:acy.length<=9223372036854775807) (hr:∀k,(gl acy k).length<=9223372036854775807) :
  Calls Tryz.prog 38 #[v,vs] w fun e w'=>e=.returned (.bool (kB acw acy))/\Up w w':=by
 obtain ⟨p,cap,rfl,hcap,-⟩:=aA.open h;have h:av S w (.slice p acw.length cap) acw:=h;obtain ⟨sp,sc,rfl,-,-⟩:=gM hS;have jY:=aa (PW S w _ acw h hn hz);have qK:Hid (∀W,Up w W->Calls Tryz.prog 59 #[.slice p acw.length cap,.slice sp acy.length sc] W fun e w'=>e=.returned (.bool (jb acw acy))/\W=w'):=fun W hW=>Fc S T W _ _ acw acy (av.keep h (hW.kept _)) (bh.keep hS (hW.kept _)) hn hz hm hr
 have ir:Hid (jb acw acy=false->∀W,Up w W->Calls Tryz.prog 60 #[.slice sp acy.length sc] W fun e w'=>e=.returned (.int .i64 (cB acy))/\QD W w'):=fun hg W hW=>L4 T W _ acy (bh.keep hS (hW.kept _)) (by have:=(DB hg).m10;omega) (fun k=>by have:=(DB hg).aaW.2.1 k;omega);have HB:Hid (kB acw acy=(vh acw&&!jb acw acy&&decide (cB acy=0)&&decide (acy.length=acw.length)&&decide ((gl acy 0).length<=6))):=rfl;have HS:=aa hS;have vW:Hid (cB acy=0->0<acy.length):=fun h=>(zT h).1;clear h hS hz hr
 go_enter Tryz.func38,Tryz.ntmps38
 go_wp2_with fail;refine jY.out.mono ?_;rintro e w1 ⟨rfl,bw⟩;have b9:=aa bw;have YP:=aa (qK.out w1 bw);have YQ:=aa (fun hg=>ir.out hg w1 bw);have ni:=aa (bh.keep HS.out (bw.kept T));clear bw jY qK ir HS;cases hb:vh acw
 ·have mN:Hid (kB acw acy=false):=by unfold Hid;rw [HB.out,hb];rfl
  clear hb;go_wp2_with fail
  all_goals (go_ret;exact ⟨bA mN.out.symm,b9.out⟩)
 ·rw [hb] at HB
  clear hb;go_wp2_with fail;refine YP.out.mono ?_;rintro e w2 ⟨rfl,rfl⟩;cases hg:jb acw acy
  ·have YS:=aa (YQ.out hg)
   rw [hg] at HB;clear hg YP YQ;go_wp2_with fail;refine YS.out.mono ?_;rintro e w3 ⟨rfl,hq⟩;have ek:=aa (b9.out.trans hq.up);have E2:=aa (bh.keep ni.out (hq.up.kept T));clear hq YS ni;by_cases ha:cB acy=0
   ·have h0:=vW.out ha
    obtain ⟨sb,so,s0,s1,rfl,hc0,-⟩:=iP E2.out h0;rw [nA] at hc0;rw [ha] at HB ⊢;clear ha vW;(have i1:(0:Int)<(acy.length:Int):=by omega);by_cases hl:acy.length=acw.length
    ·have mN:Hid (kB acw acy=decide ((gl acy 0).length<=6)):=by unfold Hid;rw [HB.out];simp [hl]
     (have d1:((acy.length:Int)==(acw.length:Int))=true:=by simp [hl]);clear HB hl;generalize (gl acy 0).length=m at *;go_wp2_with fail
     all_goals (go_ret;exact ⟨bA (by rw [mN.out];first | done | (simp;omega) | (simp;done)),ek.out⟩)
    ·have mN:Hid (kB acw acy=false):=by unfold Hid;rw [HB.out];simp [hl]
     (have d1:((acy.length:Int)==(acw.length:Int))=false:=by simp;omega);clear HB hl;go_wp2_with fail
     all_goals (go_ret;exact ⟨bA mN.out.symm,ek.out⟩)
   ·have mN:Hid (kB acw acy=false):=by unfold Hid;rw [HB.out];simp [ha]
    generalize cB acy=a at *;(have d1:(a==0)=false:=by simp [ha]);clear HB vW;go_wp2_with fail
    all_goals (go_ret;exact ⟨bA mN.out.symm,ek.out⟩)
  ·have mN:Hid (kB acw acy=false):=by unfold Hid;rw [HB.out,hg];rfl
   clear hg;go_wp2_with fail
   all_goals (go_ret;exact ⟨bA mN.out.symm,b9.out⟩)
theorem UT (a b:List ByteArray):pF (fun j=>.string (gs a j)) (fun j=>.string (gs b j)) a.length b.length 2=(a++b).map Value.string:=by
 have h:∀l:List ByteArray,(List.range l.length).map (fun j=>Value.string (gs l j))=l.map Value.string:=fun l=>by
  apply tU
  ·simp
  ·intro i h1 h2
   simp at h1;simp [gs,h1]
 unfold pF;rw [if_neg (by decide),if_neg (by decide),h,h,cm]
theorem UU {S:Nat->Prop} {w:World} {v:Value} {base:Nat} {a b:List (List Int)} {f1 f2:Nat->Value} (h:ax base 26 w v (pF f1 f2 a.length b.length 2)) (h1:∀k,k<a.length->ay S w (f1 k) (gl a k)) (h2:∀k,k<b.length->ay S w (f2 k) (gl b k)):bh Any w v (a++b):=by
 have hs:=h.yl;rw [Dm] at hs;have e:qN a.length b.length 2=(a++b).length:=by rw [bg];rfl
 rw [e] at hs;refine ⟨_,hs.sub fun _ _ _=>trivial,fun k hk=>?_⟩;rw [bg] at hk;have hv:pF f1 f2 a.length b.length 2=(List.range a.length).map f1++(List.range b.length).map f2:=rfl;rw [hv];by_cases hka:k<a.length
 ·have e1:((List.range a.length).map f1++(List.range b.length).map f2).getD k undef=f1 k:=by
   rw [fh,wE (by simpa using hka)];simp [hka]
  have e2:gl (a++b) k=gl a k:=by unfold gl;rw [fh,fh,wE hka]
  rw [e1,e2];exact (h1 k hka).sub fun _ _ _=>trivial
 ·have e1:((List.range a.length).map f1++(List.range b.length).map f2).getD k undef=f2 (k - a.length):=by
   rw [fh,zx (by simp;omega)];simp [show k - a.length<b.length by omega]
  have e2:gl (a++b) k=gl b (k - a.length):=by unfold gl;rw [fh,fh,zx (by omega)]
  rw [e1,e2];exact (h2 _ (by omega)).sub fun _ _ _=>trivial
theorem UW (l:List ByteArray) (k j:Nat):gs (l.drop k) j=gs l (k+j):=by simp [gs,List.getD_eq_getElem?_getD,List.getElem?_drop]
theorem UX {l:List ByteArray} {k j:Nat} (h:j<k):gs (l.take k) j=gs l j:=by simp [gs,List.getD_eq_getElem?_getD,h]
theorem Si (l:List (List Int)) (k j:Nat):gl (l.drop k) j=gl l (k+j):=by simp [gl,List.getD_eq_getElem?_getD,List.getElem?_drop]
theorem Sj {l:List (List Int)} {k j:Nat} (h:j<k):gl (l.take k) j=gl l j:=by simp [gl,List.getD_eq_getElem?_getD,h]
theorem Jn {w:World} {b o n cap k:Nat} {f:Nat->Value} (h:aA Any w (.slice (some ⟨b,o,none⟩) n cap) n f) (hk:k<n):aA Any w (.slice (some ⟨b,o+k,none⟩) (n - k) (cap - k)) (n - k) (fun j=>f (k+j))/\aA Any w (.slice (some ⟨b,o,none⟩) k cap) k f:=by
 obtain ⟨p,c,e,hc,h⟩:=h;cases e;obtain h | ⟨b',o',e,-,h⟩:=h
 ·omega
 cases e;exact ⟨⟨_,_,rfl,by omega,.inr ⟨_,_,rfl,trivial,fun j hj=>by rw [Nat.add_assoc];exact h (k+j) (by omega)⟩⟩,⟨_,_,rfl,by omega,.inr ⟨_,_,rfl,trivial,fun j hj=>h j (by omega)⟩⟩⟩
theorem Sk {w:World} {nb no cap k:Nat} {acw:List ByteArray} (h:av Any w (.slice (some ⟨nb,no,none⟩) acw.length cap) acw) (hk:k<acw.length) (hn:acw.length<=5) (W:World) (B:Nat) (hu:Up w W)
  (h0:W.cell? ⟨B,0,none⟩=some (.slice (some ⟨nb,no+k,none⟩) (acw.length - k) (cap - k))) (h1:W.cell? ⟨B,1,none⟩=some (.slice (some ⟨nb,no,none⟩) k cap)) :
  Calls Tryz.prog 39 #[.slice (some ⟨B,0,none⟩) 2 2] W fun e w'=>Up W w'/\∃v,e=.returned v/\av Any w' v (acw.drop k++acw.take k):=by
 obtain ⟨a1,a2⟩:=Jn (aA.keep h (hu.kept _)) hk;refine (Ie Any W B _ _ (acw.length - k) k _ _ (fun j=>.string (gs (acw.drop k) j)) (fun j=>.string (gs (acw.take k) j)) h0 h1 (a1.congr fun j hj=>by rw [UW]) (a2.congr fun j hj=>by rw [UX hj]) ⟨_,_,rfl⟩ ⟨_,_,rfl⟩ (fun _ _=>rfl) (fun _ _=>rfl) (by omega) (by omega)).mono ?_;rintro e w3 ⟨dg,v,rfl,ho⟩;refine ⟨dg,v,rfl,?_⟩;have q:=UT (acw.drop k) (acw.take k);rw [gw,dD,Nat.min_eq_left (by omega)] at q;rw [q] at ho;exact (ho.strs).sub fun _ _ _=>trivial
theorem Sl {w:World} {sb so sc k:Nat} {acy:List (List Int)} (h:bh Any w (.slice (some ⟨sb,so,none⟩) acy.length sc) acy) (hk:k<acy.length) (hn:acy.length<=5) (W:World) (B:Nat) (hu:Up w W)
  (h0:W.cell? ⟨B,0,none⟩=some (.slice (some ⟨sb,so+k,none⟩) (acy.length - k) (sc - k))) (h1:W.cell? ⟨B,1,none⟩=some (.slice (some ⟨sb,so,none⟩) k sc)) :
  Calls Tryz.prog 40 #[.slice (some ⟨B,0,none⟩) 2 2] W fun e w'=>Up W w'/\∃v,e=.returned v/\bh Any w' v (acy.drop k++acy.take k):=by
 obtain ⟨f,hf,hr⟩:=bh.keep h (hu.kept _);have oc:∀j,j<acy.length->(f j).oneCell'=true:=fun j hj=>by obtain ⟨p,c,e,-⟩:=hr j hj;rw [e];rfl
 obtain ⟨a1,a2⟩:=Jn hf hk;refine (Fl Any W B _ _ (acy.length - k) k _ _ (fun j=>f (k+j)) f h0 h1 a1 a2 ⟨_,_,rfl⟩ ⟨_,_,rfl⟩ (fun j hj=>oc _ (by omega)) (fun j hj=>oc _ (by omega)) (by omega) (by omega)).mono ?_;rintro e w3 ⟨dg,v,rfl,ho⟩;refine ⟨dg,v,rfl,?_⟩;refine UU (S:=Any) (base:=W.heap.size) (a:=acy.drop k) (b:=acy.take k) (f1:=fun j=>f (k+j)) (f2:=f) (by rw [gw,dD,Nat.min_eq_left (by omega)];exact ho) (fun j hj=>?_) (fun j hj=>?_)
 ·rw [gw] at hj
  rw [Si];exact ay.keep (hr _ (by omega)) (dg.kept _)
 ·rw [dD] at hj
  rw [Sj (by omega)];exact ay.keep (hr _ (by omega)) (dg.kept _)
theorem PX {acw names':List ByteArray} {acy cM:List (List Int)} (ht:nt acw names' acy cM) (h5:acw.length<=5) (hz:∀k,(gs names' k).size<=70000) (hr:∀k,(gl cM k).length<=1000000) (hs:cM.length<=5) (W:World) (v u:Value) (hv:av Any W v names') (hu:bh Any W u cM) :
  Calls Tryz.prog 17 #[v,u] W fun e w'=>Up W w'/\∃p c,e=.returned (.tuple #[.slice p (nC acw acy).length c,.int .i64 (eu acw acy),.int .i64 0]):=by
 have hl:names'.length<=5:=by rw [<- ht.perm.length_eq];exact h5
 have hB:=Bv Any W v u names' cM hv (by omega) hz hu (by omega) hr (.inl hl);unfold tH xC xD at hB;rw [(Bo hl).2 ht.ok',if_pos rfl,if_pos rfl] at hB;obtain ⟨e1,e2⟩:=RI ht;refine hB.mono ?_;rintro e w3 ⟨dg,x,rfl,ht3⟩;obtain ⟨p,c,rfl,-⟩:=o6 ht3;exact ⟨dg,p,c,by rw [e1,e2]⟩
theorem Sm {l:List ByteArray} {k:Nat} (h:∀j,(gs l j).size<=70000) (j:Nat):(gs (l.drop k++l.take k) j).size<=70000:=by
 refine iL (fun x hx=>?_) j;have hx:x∈l:=(cu.1 hx).elim BJ rJ;obtain ⟨i,hi,e⟩:=wF hx;have:=h i;rw [show gs l i=x by simp [gs,hi,e]] at this;exact this
theorem Sn {l:List (List Int)} {k:Nat} (h:∀j,(gl l j).length<=1000000) (j:Nat):(gl (l.drop k++l.take k) j).length<=1000000:=by
 obtain hj | hj:=Nat.lt_or_ge j (l.drop k++l.take k).length
 ·have hx:=(cu.1 (Zq hj)).elim BJ rJ
  obtain ⟨i,hi,e⟩:=wF hx;have:=h i;rw [show gl l i=gl (l.drop k++l.take k) j by rw [<- e];simp [gl,hi]] at this;exact this
 ·rw [show gl (l.drop k++l.take k) j=[] by unfold gl;rw [fh,Fs hj];rfl]
  simp
end
end Go.Proofs.YthgabkgmkolobaaGreat
