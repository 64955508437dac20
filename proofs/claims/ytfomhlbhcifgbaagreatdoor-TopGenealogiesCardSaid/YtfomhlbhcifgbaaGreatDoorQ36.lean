/- optimaltree: Count, leaf, checkNames, check. Plain: all assignments in order, their least .. -/
import Derived.Test.YtfomhlbhcifgbaaGreatDoorQ35
set_option maxRecDepth 100000
set_option maxHeartbeats 2000000
namespace Go.Proofs.YtfomhlbhcifgbaaGreatDoor
section
open Go.RowKit Go.Deep
theorem RB (w:World) (s:ByteArray) (hz:s.size<=70000) :
  Calls Tryz.prog 68 #[.string s] w fun e w'=>e=.returned (.bool (bD s.data.toList))/\Up w w':=by
 have hu:=(Up.alloc w (.cells #[.int .i64 (-1)] 3)).trans (Up.alloc _ (.cells #[.string s] 9));have HU:=aa hu
 have HC:=aa (qY Any _ _ (jW s) (Ww w s) (by simp [jW]) (by simp [jW]) (fun k=>by
  unfold jW gs;cases k<;>simp;exact hz))
 have HX:=aa (Ur s);clear hu;go_in;go_wp2_with fail;generalize (w.alloc (.cells #[.int .i64 (-1)] 3)).alloc (.cells #[.string s] 9)=w1 at *;refine HC.out.mono ?_;rintro e w2 ⟨rfl,hb⟩;have bF:=aa (HU.out.trans (show Up w1 w2 from hb));clear hb HC HU;go_wp2;go_ret;exact ⟨bu HX.out,bF.out⟩
theorem Dd (S:Nat->Prop) (w:World) (v:Value) (acF:List ByteArray) (h:aC S w v acF) (hn:acF.length<=1000000) (hz:∀k,(gs acF k).size<=70000) :
  Calls Tryz.prog 40 #[v] w fun e w'=>e=.returned (.int .i64 (js acF))/\Up w w':=by
 obtain ⟨p,cap,rfl,hcap,_⟩:=aB.open h;have h:aC S w (.slice p acF.length cap) acF:=h;have HC:Hid (js acF=if acF.length<2\/7<acF.length then 4 else dP (jI acF) acF.length):=rfl;have HN:=aa h;have HZ:=aa hz;clear h hz;by_cases h1:acF.length<2
 ·go_in
  go_wp2;go_ret;exact ⟨aU (by rw [HC.out,if_pos (.inl h1)]),Up.refl _⟩
 by_cases h2:7<acF.length
 ·go_in
  go_wp2;go_ret;exact ⟨aU (by rw [HC.out,if_pos (.inr h2)]),Up.refl _⟩
 have HF:Hid (js acF=dP (jI acF) acF.length):=by unfold Hid;rw [HC.out,if_neg (by omega)]
 clear HC;have Wj:Hid (∀k,k<acF.length->(∀j,j<k->jI acF j=0)->jI acF k≠0->js acF=jI acF k):=fun k hk hj h0=>by rw [HF.out,iP hk hj h0]
 go_in;go_wp2
 go_loopw [3,4,15] (fun _ _ i wr=>∃k:Nat,k<=acF.length/\i=.int .i64 k/\Hid (Up w wr/\∀j,j<k->jI acF j=0)) (fun _ _ i _=>acF.length - (intOf i).toNat)
 case atStart=>exact ⟨0,bg _,rfl,Up.refl _,fun j hj=>absurd hj (cz _)⟩
 case round =>
  obtain ⟨k,hk,rfl,hd⟩:=hrel;obtain ⟨wo,rfl⟩:=e9 wr;by_cases hlt:k<acF.length
  ·have Yu:=aC.keep HN.out (hd.out.1.kept S)
   obtain ⟨nb0,no,rfl,hc⟩:=fI Yu hlt;have sV:=aa (RB wo (gs acF k) (HZ.out k));have fK:Hid (∀W,Up wo W->Calls Tryz.prog 26 #[.slice (some ⟨nb0,no,none⟩) k cap,.string (gs acF k)] W fun e w'=>e=.returned (.bool (fO acF k))/\W=w'):=fun W hW=>by
    have h:=eT S W _ k (fun j=>gs acF j) (gs acF k) (NJ (aC.keep Yu (hW.kept S)) hk) (by omega)
    rwa [Rw] at h
   have Yv:=aa (Wj.out k hlt hd.out.2);have zD:Hid (jI acF k=if bD (gs acF k).data.toList then (if fO acF k then 7 else 0) else 14):=rfl;generalize gs acF k=nm at *;generalize fO acF k=bs at *;generalize bD nm.data.toList=bn at *;clear Yu;cases bn
   ·have HE:Hid (jI acF k=14):=zD.out
    go_wp2_with fail;refine sV.out.mono ?_;rintro e w1 ⟨rfl,aM⟩;have bU:=aa (hd.out.1.trans aM);clear aM;go_wp2;go_ret;exact ⟨aU ((Yv.out (by rw [HE.out];decide)).trans HE.out).symm,bU.out⟩
   ·cases bs
    ·have HE:Hid (jI acF k=0):=zD.out
     go_wp2_with fail;refine sV.out.mono ?_;rintro e w1 ⟨rfl,aM⟩;have bU:=aa (hd.out.1.trans aM);have RD:=aa (fK.out w1 aM);clear aM;go_wp2_with (go_at_call 26;refine RD.out.mono ?_;rintro e w' ⟨rfl,rfl⟩)
     go_roundw
     case rel=>exact ⟨k+1,by omega,by go_num,bU.out,fun j hj=>if e:j=k then by subst e;exact HE.out else hd.out.2 j (by omega)⟩
     case measure=>simp [intOf];omega
    ·have HE:Hid (jI acF k=7):=zD.out
     go_wp2_with fail;refine sV.out.mono ?_;rintro e w1 ⟨rfl,aM⟩;have bU:=aa (hd.out.1.trans aM);have RD:=aa (fK.out w1 aM);clear aM;go_wp2_with (go_at_call 26;refine RD.out.mono ?_;rintro e w' ⟨rfl,rfl⟩);go_ret;exact ⟨aU ((Yv.out (by rw [HE.out];decide)).trans HE.out).symm,bU.out⟩
  ·obtain rfl:k=acF.length:=by omega
   (have dQ:Hid (js acF=0):=by unfold Hid;rw [HF.out,fT hd.out.2]);go_wp2;go_ret;exact ⟨aU dQ.out.symm,hd.out.1⟩
theorem Ov (S:Nat->Prop) (w:World) (v vs:Value) (acF:List ByteArray) (acG:List (List Int)) (h:aC S w v acF) (hn:acF.length<=1000000) (hz:∀k,(gs acF k).size<=70000) (hS:aS S w vs acG) (FB:acG.length<=1000000) (hr:∀k,(gl acG k).length<=1000000) :
  Calls Tryz.prog 21 #[v,vs] w fun e w'=>e=.returned (.int .i64 (fG acF acG))/\Up w w':=by
 have HC:Hid (fG acF acG=if js acF≠0 then js acF else if eo acG≠0 then 1 else if acG.length≠acF.length then 9 else 0):=rfl;have sV:=aa (Dd S w v acF h hn hz);obtain ⟨p,cap,rfl,hcap,_⟩:=aB.open h;obtain ⟨q,d,rfl,hd,_⟩:=eE hS;have zR:Hid (∀W,Up w W->Calls Tryz.prog 41 #[.slice q acG.length d] W fun e w'=>e=.returned (.int .i64 (eo acG))/\W=w'):=fun W hW=>MK S W _ acG (aS.keep hS (hW.kept S)) FB hr;clear h hS hz hr;go_in;go_wp2_with fail;refine sV.out.mono ?_;rintro e w1 ⟨rfl,aM⟩
 have bU:=aa aM;have aaT:=aa (zR.out w1 aM);clear aM;by_cases c1:js acF=0
 ·have yH:Hid (fG acF acG=if eo acG≠0 then 1 else if acG.length≠acF.length then 9 else 0):=by unfold Hid;rw [HC.out,if_neg (by omega)]
  rw [c1];clear HC c1 sV zR;go_wp2_with fail;refine aaT.out.mono ?_;rintro e w' ⟨rfl,rfl⟩;generalize eo acG=a at *;by_cases c2:a=0
  ·subst c2
   by_cases c3:acG.length=acF.length
   ·have d3:(acG.length:Int)=(acF.length:Int):=by omega
    go_wp2;go_ret;exact ⟨aU (by rw [yH.out,if_neg (by omega),if_neg (by omega)]),bU.out⟩
   ·have d3:¬(acG.length:Int)=(acF.length:Int):=by omega
    go_wp2;go_ret;exact ⟨aU (by rw [yH.out,if_neg (by omega),if_pos c3]),bU.out⟩
  ·go_wp2
   go_ret;exact ⟨aU (by rw [yH.out,if_pos c2]),bU.out⟩
 ·generalize js acF=a at *
  go_wp2;go_ret;exact ⟨aU (by rw [HC.out,if_pos c1]),bU.out⟩
end
section
def bM (st:List Int):List Int:=if bJ st=[] then [0] else Lib.compact (dK (bJ st))
theorem tH {st:List Int} {x:Int}:x∈bJ st↔x∈st/\0<=x:=by unfold bJ;simp
theorem UR {xs:List Int} {x:Int}:x∈Lib.compact (dK xs)↔x∈xs:=by
 unfold Lib.compact;rw [pG,<- xR (xs:=xs)];constructor
 ·rintro ⟨j,hj,e⟩;rw [<- e];exact ur hj
 ·intro h;exact Fu h
theorem AU {st:List Int} {x:Int}:x∈bM st↔Ks st x:=by
 unfold bM Ks;split
 ·rename_i h
  rw [eN];constructor
  ·intro e;exact .inr ⟨fun y hy=>by
    by_cases h0:0<=y
    ·exact absurd (tH.2 ⟨hy,h0⟩) (by rw [h];simp)
    ·omega,e⟩
  ·rintro (⟨h1,h2⟩ | ⟨_,h2⟩)
   ·exact absurd (tH.2 ⟨h1,h2⟩) (by rw [h];simp)
   ·exact h2
 ·rename_i h
  rw [UR,tH];constructor
  ·exact .inl
  ·rintro (h1 | ⟨h1,_⟩)
   ·exact h1
   ·exact absurd (List.eq_nil_iff_forall_not_mem.2 fun y hy=>by have:=tH.1 hy;have:=h1 y this.1;omega) h
theorem Ip (st:List Int):0<(bM st).length:=by
 obtain ⟨x,hx⟩:=Ol st;exact List.length_pos_of_mem (AU.2 hx)
def eR (vals:List Int):List Int->List (List Int)
 | []=>[[]]
 | x::st=>if 0<=x then (eR vals st).map (x::·) else vals.flatMap fun v=>(eR vals st).map (v::·)
theorem AV {vals:List Int} (hv:0<vals.length):∀st:List Int,0<(eR vals st).length
 | []=>by simp [eR]
 | x::st=>by
  have ih:=AV hv st
  unfold eR
  split
  ·rw [aD];exact ih
  ·cases vals with
   | nil=>simp at hv
   | cons v vs=>rw [iI,bG,aD];omega
theorem Iq {vals:List Int}:∀ {st b:List Int},b∈eR vals st↔b.length=st.length/\∀i,i<st.length->(0<=gi st i->gi b i=gi st i)/\(gi st i<0->gi b i∈vals)
 | [],b=>by simp [eR]
 | x::st,b=>by
  have ih:=fun b=>Iq (vals:=vals) (st:=st) (b:=b)
  have hs:∀(y:Int) (l:List Int) (i:Nat),gi (y::l) (i+1)=gi l i:=fun y l i=>by simp [gi]
  have Bh:∀(y:Int) (l:List Int),gi (y::l) 0=y:=fun y l=>by simp [gi]
  unfold eR
  constructor
  ·intro h
   have key:∃v c,b=v::c/\c∈eR vals st/\(0<=x->v=x)/\(x<0->v∈vals):=by
    split at h
    ·rename_i hx
     obtain ⟨c,hc,rfl⟩:=ek.1 h
     exact ⟨x,c,rfl,hc,fun _=>rfl,fun h=>absurd h (by omega)⟩
    ·rename_i hx
     obtain ⟨v,hv,h2⟩:=jo.1 h
     obtain ⟨c,hc,rfl⟩:=ek.1 h2
     exact ⟨v,c,rfl,hc,fun h=>absurd h hx,fun _=>hv⟩
   obtain ⟨v,c,rfl,hc,h1,h2⟩:=key
   obtain ⟨hl,hi⟩:=(ih c).1 hc
   refine ⟨by simp [hl],fun i hlt=>?_⟩
   cases i with
   | zero=>rw [Bh,Bh];exact ⟨h1,h2⟩
   | succ i=>rw [hs,hs];exact hi i (by simpa using hlt)
  ·rintro ⟨hl,hi⟩
   cases b with
   | nil=>simp at hl
   | cons v c =>
    have hc:c∈eR vals st:=(ih c).2 ⟨by simpa using hl,fun i hlt=>by have:=hi (i+1) (by simpa using hlt);rw [hs,hs] at this;exact this⟩
    have h0:=hi 0 (by simp)
    rw [Bh,Bh] at h0
    split
    ·rename_i hx
     rw [h0.1 hx];exact ek.2 ⟨c,hc,rfl⟩
    ·rename_i hx
     exact jo.2 ⟨v,h0.2 (by omega),ek.2 ⟨c,hc,rfl⟩⟩
def AW (P:List (List Int)) (st:List Int) (j:Nat):Int:=dx P (gl (eR (bM st) st) j)
def jK (P:List (List Int)) (st:List Int):Int:=jl (AW P st) (eR (bM st) st).length
theorem ze (P:List (List Int)) (st:List Int) (j:Nat):0<=AW P st j:=wA _ _
theorem RF {l:List (List Int)} {k:Nat} (h:k<l.length):gl l k∈l:=by simp [gl,h]
theorem yI (P:List (List Int)) (st:List Int):nI P st (jK P st):=by
 obtain ⟨k,hk,e⟩:=B7 (ze P st) (AV (Ip st) st);have hok:∀b,b∈eR (bM st) st↔zb st b:=fun b=>by
  rw [Iq];unfold zb;constructor
  ·rintro ⟨h1,h2⟩;exact ⟨h1,fun i hi=>⟨(h2 i hi).1,fun h=>AU.1 ((h2 i hi).2 h)⟩⟩
  ·rintro ⟨h1,h2⟩;exact ⟨h1,fun i hi=>⟨(h2 i hi).1,fun h=>AU.2 ((h2 i hi).2 h)⟩⟩
 refine ⟨⟨_,(hok _).1 (RF hk),e.symm⟩,fun b hb=>?_⟩;obtain ⟨j,hj,e2⟩:=sG ((hok b).2 hb);have:=(B6 (ze P st) (n:=(eR (bM st) st).length) hj).1;unfold jK;have e3:AW P st j=dx P b:=by unfold AW;rw [show gl (eR (bM st) st) j=b by simp [gl,hj,e2]]
 omega
theorem Ir (P:List (List Int)) (st:List Int):0<=jK P st:=by
 obtain ⟨k,hk,e⟩:=B7 (ze P st) (AV (Ip st) st);unfold jK;rw [e];exact ze _ _ _
theorem Iu {f:Nat->Int} (hf:∀k,0<=f k) {k:Nat} (h0:jl f k=0):∀ {n:Nat},k<=n->jl f n=0
 | 0,h=>by obtain rfl:k=0:=(by omega);exact h0
 | n+1,h=>by
  by_cases e:k=n+1
  ·rw [<- e];exact h0
  ·have ih:=Iu hf h0 (n:=n) (by omega)
   rw [je,ih,if_neg]
   have:=hf n;omega
def dF (P:List (List Int)) (aI:List (List Int)):Int:=aY (fun p=>jK P (gl aI p)) aI.length
theorem wD.total {P Q:List (List Int)} (h:wD P Q) (aI:List (List Int)):dF Q aI<=dF P aI:=kV fun p _=>h.least (yI P (gl aI p)) (yI Q (gl aI p))
theorem LR {t:aA} {acF:List ByteArray} {acG:List (List Int)} (hc:lG acF acG) (ho:qy t acF):dF (aH t) ((List.range (gl acG 0).length).map (fJ t acF acG))=dX t acF acG:=by
 unfold dF dX;rw [aD,List.length_range];refine bS fun p hp=>?_;have e:∀n,p<n->gl ((List.range n).map (fJ t acF acG)) p=fJ t acF acG p:=fun n h=>by simp [gl,h]
 rw [e _ hp];exact (yI _ _).uniq (LQ hc ho hp)
end
end Go.Proofs.YtfomhlbhcifgbaaGreatDoor
