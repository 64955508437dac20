/- optimaltree.Best. The example of layer 34: awake. The walk of OptimaltreeTrees. -/
import Derived.Test.YthgabkgmkolobaaGreatQ48
set_option maxRecDepth 100000
namespace Go.Proofs.YthgabkgmkolobaaGreat
section
open Go.RowKit Go.Deep
def kQ (names:List ByteArray) (states:List (List Int)):Int:=if aZ names states=0 then gL names states else 0
def fW (names:List ByteArray) (states:List (List Int)):List aD:=if aZ names states=0 then ox names states else []
def jy (w:World) (names:List ByteArray) (states:List (List Int)) (e:Ending) (w':World):Prop :=
 Up w w'∧∃v,e=.returned (.tuple #[v,.int .i64 (kQ names states),.int .i64 (aZ names states)])∧b7 Any w' v (fW names states)
def WX (w:World) (names:List ByteArray) (states:List (List Int)) (n:Nat) (wr:World):Prop:=Up w wr∧SMap wr w.heap.size (scK names states n)
def Z0 (w:World) (names:List ByteArray) (states:List (List Int)) (n:Nat) (out:Value) (wr:World):Prop:=Up w wr∧∃es:List kF,gN w.heap.size wr out es∧es.map (·.2)=pg names states n
theorem Ju {names:List ByteArray} (hn:gY names) {k:Nat} (h:k<(bG names).length):aB (gt (allT names) k)=0∧iJ (gt (allT names) k) names=true∧∀i,(gs (gt (allT names) k).ns i).size≤70000:=by
 have h2:k<(allT names).length:=by unfold allT;rw [List.length_map];exact h
 have ho:=(yc hn (AX h2)).1;refine ⟨ho.te,(AV hn ho.te).2 ho,?_⟩;rw [BZ h];exact sQ (fB hn (GP h)).1.good
set_option maxHeartbeats 4000000 in
theorem zN (S:Nat→Prop) (w:World) (v vs:Value) (names:List ByteArray) (states:List (List Int)) (h:ah S w v names) (hn:names.length≤1000000) (hz:∀k,(gs names k).size≤70000) (hS:aQ S w vs states) (jA:states.length≤1000000) (hr:∀k,(gl states k).length≤1000000) (h5:names.length≤5∨7<names.length) :
  Calls Tryz.prog 17 #[v,vs] w (jy w names states):=by
 have dr:=aa (Ds S w v vs names states h hn hz hS jA hr);obtain ⟨mp,mc,rfl,-,-⟩:=aC.open h;have h:ah S w (.slice mp names.length mc) names:=h;obtain ⟨sp,sc,rfl,-,-⟩:=bS hS;have HN:=aa h;have HS:=aa hS;have pI:Hid (aZ names states=0→mZ names states):=nh h5;clear h hS hz hr h5
 go_enter Tryz.func17,Tryz.ntmps17
 go_wp2_with fail;refine dr.out.mono ?_;rintro e w1 ⟨rfl,aO⟩;by_cases c1:aZ names states=0
 ·have hc:=pI.out c1
  have GH:=aa (Nz S w1 _ names hc.nm (ah.keep HN.out (aO.kept S)));have HC:=aa hc;have dF:Hid (∀W v,Up w W→b7 Any W v (ox names states)→jy w names states (.returned (.tuple #[v,.int .i64 (gL names states),.int .i64 0])) W):=fun W v hu ht=>⟨hu,v,by unfold kQ;rw [c1];rfl,by unfold fW;rw [if_pos c1];exact ht⟩;have hl0:(allT names).length=(bG names).length:=by unfold allT;rw [List.length_map]
  have eU:(bG names).length≤15:=by rw [uN hc.nm];split<;>(try split)<;>(try split)<;>omega
  have HL:=aa (And.intro hl0 eU);have bH:=aa aO;rw [c1];clear c1 hc aO hl0 eU dr pI;go_wp2_with fail;refine GH.out.mono ?_;rintro e w2 ⟨aG,ev,rfl,WY⟩;obtain ⟨eg,ec,rfl⟩:=NM WY;have aP:=aa (bH.out.trans aG);have r9:=aa WY;have jP:=aa (ah.keep HN.out (aP.out.kept S));have dP:=aa (aQ.keep HS.out (aP.out.kept S));have tW:Hid (WX w2 names states 0 (w2.alloc (.map #[] 0))):=⟨Up.alloc _ _,SMap.made _⟩;have hmm:=fun W=>run_makeMap (P:=Tryz.prog) 94 W;clear aG WY GH bH;go_wp2_with fail;clear hmm
  go_loopw [4,5,6,11,13,14,15,36] (fun _ _ _ s _ _ _ i wr=>∃n:Nat,n≤(bG names).length∧i=.int .i64 n∧s=.int .i64 (eX names states n)∧Hid (WX w2 names states n wr)) (fun _ _ _ _ _ _ _ i _=>(bG names).length - (intOf i).toNat)
  case atStart=>exact ⟨0,Nat.zero_le _,rfl,rfl,tW.out⟩
  case round =>
   obtain ⟨n,hn,rfl,rfl,hI⟩:=hrel;obtain ⟨wo,rfl⟩:∃wo:World,wo=wr:=⟨_,rfl⟩;obtain ⟨fR,hM⟩:=hI.out;by_cases hlt:n<(bG names).length
   ·obtain ⟨pp,pc,np,nc,c0,c1,c2,hT⟩:=GM r9.out hlt
    replace c0:=fR.cell c0;replace c1:=fR.cell c1;replace c2:wo.cell? ⟨eg,n*3+2,none⟩=some (.string (aV (gR names n))):=fR.cell c2;obtain ⟨te,fi,tz⟩:=Ju HC.out.nm hlt;have hbd:=Bb HC.out (n:=n) (by rw [HL.out.1];exact hlt);have hmb:=Bc HC.out (n:=n) (by rw [HL.out.1];exact hn);have ny:=aa (uW names states n);have hsc:oy (gt (allT names) n) names states=.tuple #[.int .i64 (fH names states n),.int .i64 0]:=by unfold oy fH;rw [fi];rfl
    replace hT:au Any wo (.agg #[.slice pp (gt (allT names) n).ps.length pc,.slice np (gt (allT names) n).ns.length nc]) (gt (allT names) n):=au.keep hT (fR.kept _);replace c0:wo.cell? ⟨eg,n*3,none⟩=some (.slice pp (gt (allT names) n).ps.length pc):=c0;replace c1:wo.cell? ⟨eg,n*3+1,none⟩=some (.slice np (gt (allT names) n).ns.length nc):=c1
    have mI:Hid (∀W,Up wo W→Calls Tryz.prog 69 #[.agg #[.slice pp (gt (allT names) n).ps.length pc,.slice np (gt (allT names) n).ns.length nc],.slice mp names.length mc,.slice sp states.length sc] W fun e w'=>e=.returned (.tuple #[.int .i64 (fH names states n),.int .i64 0])∧Up W w'):=fun W hW=>by rw [← hsc];exact Dx Any W _ _ _ _ names states (hT.keep (hW.kept _)) te tz ((ah.keep jP.out ((fR.trans hW).kept S)).sub fun _ _ _=>trivial) ((aQ.keep dP.out ((fR.trans hW).kept S)).sub fun _ _ _=>trivial) HC.out
    have HMS:Hid (scK names states (n+1)=qQ (scK names states n) (aV (gR names n)) (.int .i64 (fH names states n))):=rfl;have HUQ:=aa (GQ names states n);have WZ:=aa hM;have sj:=aa fR;have aW:=aa hlt;(have i4:(n:Int)<((bG names).length:Int):=by omega);(have i5:(n:Int)<16:=by have:=HL.out.2;omega);clear hI fR hM te fi tz hsc hlt;generalize gt (allT names) n=q at *;generalize aV (gR names n)=key at *
    (have eu:Hid (Up wo (wo.alloc (.cells #[.slice pp q.ps.length pc,.slice np q.ns.length nc,.string key] 96))∧(wo.alloc (.cells #[.slice pp q.ps.length pc,.slice np q.ns.length nc,.string key] 96)).cell? ⟨wo.heap.size,2,none⟩=some (.string key)∧(wo.alloc (.cells #[.slice pp q.ps.length pc,.slice np q.ns.length nc,.string key] 96)).heap[w2.heap.size]? = wo.heap[w2.heap.size]?):=by refine ⟨Up.alloc _ _,aK wo _ _ 2,Below.block (Up.alloc wo _) _ WZ.out.lt⟩);have W4:=aa (mI.out _ eu.out.1);generalize fH names states n=f at *;generalize eX names states n=m at *;go_wp2_with fail
    generalize wo.alloc (.cells #[.slice pp q.ps.length pc,.slice np q.ns.length nc,.string key] 96)=w7 at *;refine W4.out.mono ?_;rintro e w9 ⟨rfl,oT⟩;obtain ⟨Jp,Z1,Z2⟩:=eu.out;have W5:=oT.cell Z1;have Z3:SMap w9 w2.heap.size (scK names states n):=WZ.out.same ((Below.block oT _ (by have:=Jp.size;have:=WZ.out.lt;omega)).trans Z2);have Jv:=(sj.out.trans Jp).trans oT;obtain ⟨w5,hrun,Z4,hs5,yM,Jw,W6,mG⟩:=O1 (P:=Tryz.prog) Tryz.underlying94 Tryz.underlying9 Z3 HUQ.out key (.int .i64 f)
    have W8:Hid (WX w2 names states (n+1) w5):=⟨⟨yM.trans Jv.os,Jw.trans Jv.tape,W6.trans Jv.output,by rw [hs5];exact Jv.size,fun b hb=>(mG b (by omega)).trans (Jv.block b hb)⟩,by rw [HMS.out];exact Z4⟩;clear Z4 hs5 yM Jw W6 mG Z3 Jv oT Jp Z1 Z2 eu mI W4 hT c0 c1 c2;by_cases e1:m<0
    ·have HE:Hid (eX names states (n+1)=f):=by unfold Hid;rw [ny.out,if_pos (.inl e1)]
     (have d1:decide (m<0)=true:=by simp [e1]);clear ny e1;go_wp2_with fail
     go_roundw
     case rel=>exact ⟨n+1,aW.out,by go_num,by rw [HE.out],W8.out⟩
     case measure=>have:=aW.out;simp [intOf];omega
    ·have d1:decide (m<0)=false:=by simp;omega
     by_cases e2:f<m
     ·have HE:Hid (eX names states (n+1)=f):=by unfold Hid;rw [ny.out,if_pos (.inr e2)]
      (have d2:decide (f<m)=true:=by simp [e2]);clear ny e1 e2;go_wp2_with fail
      go_roundw
      case rel=>exact ⟨n+1,aW.out,by go_num,by rw [HE.out],W8.out⟩
      case measure=>have:=aW.out;simp [intOf];omega
     ·have HE:Hid (eX names states (n+1)=m):=by unfold Hid;rw [ny.out,if_neg (by omega)]
      (have d2:decide (f<m)=false:=by simp;omega);clear ny e1 e2;go_wp2_with fail
      go_roundw
      case rel=>exact ⟨n+1,aW.out,by go_num,by rw [HE.out],W8.out⟩
      case measure=>have:=aW.out;simp [intOf];omega
   ·obtain rfl:n=(bG names).length:=by omega
    have IC:=aa hM;have xD:=aa fR;have HEB:=aa (r9.out.keep fR);have Nb:Hid (Z0 wo names states 0 (.slice none 0 0) wo):=⟨Up.refl _,[],gN.nil _ _,by simp [pg]⟩;(have W9:eX names states (bG names).length=gL names states:=by rw [← HL.out.1];exact Tt names states);rw [W9];clear hI fR hM hlt W9;have HFX2:=aa (fun W v (hu:Up wo W) ht=>dF.out W v ((aP.out.trans xD.out).trans hu) ht);go_wp2_with fail
    go_loopw [16,18,66] (fun out _ i wr=>∃k:Nat,k≤(bG names).length∧i=.int .i64 k∧Hid (Z0 wo names states k out wr)) (fun _ _ i _=>(bG names).length - (intOf i).toNat)
    case atStart=>exact ⟨0,Nat.zero_le _,rfl,Nb.out⟩
    case round =>
     obtain ⟨k,hk,rfl,hI⟩:=hrel;obtain ⟨wi,rfl⟩:∃wi:World,wi=wr:=⟨_,rfl⟩;obtain ⟨rI,es,hes,hem⟩:=hI.out;by_cases hlt:k<(bG names).length
     ·obtain ⟨pp,pc,np,nc,c0,c1,c2,hT⟩:=GM HEB.out hlt
      replace c0:=rI.cell c0;replace c1:=rI.cell c1;replace c2:wi.cell? ⟨eg,k*3+2,none⟩=some (.string (aV (gR names k))):=rI.cell c2;(have hlt2:k<(allT names).length:=by rw [HL.out.1];exact hlt);have kU:=aa (NR states hlt2);have Sc:=GR HC.out.nm states hlt (n:=(bG names).length) (Nat.le_refl _) hlt;replace hT:au (fun b=>b<wo.heap.size) wi (.agg #[.slice pp (gt (allT names) k).ps.length pc,.slice np (gt (allT names) k).ns.length nc]) (gt (allT names) k):=au.keep (hT.sub fun b _ hb=>hb) (rI.kept _)
      replace c0:wi.cell? ⟨eg,k*3,none⟩=some (.slice pp (gt (allT names) k).ps.length pc):=c0;replace c1:wi.cell? ⟨eg,k*3+1,none⟩=some (.slice np (gt (allT names) k).ns.length nc):=c1;generalize gt (allT names) k=q at *;generalize aV (gR names k)=key at *;have aY:=Up.alloc wi (.cells #[.slice pp q.ps.length pc,.slice np q.ns.length nc,.string key] 96);have Z6:SMap (wi.alloc (.cells #[.slice pp q.ps.length pc,.slice np q.ns.length nc,.string key] 96)) w2.heap.size (scK names states (bG names).length):=IC.out.same (Below.block (rI.trans aY) _ IC.out.lt)
      have hlk:=LZ (P:=Tryz.prog) Tryz.underlying94 Tryz.underlying9 (PA _) Z6 key;rw [Sc] at hlk;simp only [Option.getD_some] at hlk;obtain ⟨op,oc,rfl⟩:=hes.form;obtain ⟨m,hm⟩:∃m,es.length=m:=⟨_,rfl⟩;(have hmk:m≤k:=by rw [← hm];have:=congrArg List.length hem;rw [List.length_map] at this;rw [this];unfold pg;exact Nat.le_trans (List.length_filter_le _ _) (by rw [List.length_take];omega));rw [hm];have pV:Hid (gN wo.heap.size (wi.alloc (.cells #[.slice pp q.ps.length pc,.slice np q.ns.length nc,.string key] 96)) (.slice op m oc) es):=by have h:=hes.up aY;rw [hm] at h;exact h
      (have yV:Hid (au (fun b=>some b≠(Value.slice op m oc).ownBlock) (wi.alloc (.cells #[.slice pp q.ps.length pc,.slice np q.ns.length nc,.string key] 96)) (.agg #[.slice pp q.ps.length pc,.slice np q.ns.length nc]) q):=by have h2:=hes.1;rw [hm] at h2;exact (hT.keep (aY.kept _)).sub fun b hb _ e=>by have:=(World.ownsRow.lt h2 b e.symm).1;omega);have Xa:=aa (rI.trans aY);have A9:=aa hem;have yL:=aa hm;have aW:=aa hlt;(have i4:(k:Int)<((bG names).length:Int):=by omega);have i5:(k:Int)<16:=by have:=HL.out.2;omega
      (have Ub:Hid (m≤1000000):=by have:=HL.out.2;unfold Hid;omega);clear hI rI hes hem hlt hlt2 hT aY hm Sc Z6 hmk;generalize fH names states k=f at *;generalize gL names states=le at *;by_cases e1:f=le
      ·have d1:(f==le)=true:=by simp [e1]
       (have sk:Hid (pg names states (k+1)=pg names states k++[q]):=by unfold Hid;rw [kU.out,if_pos e1]);subst e1;go_wp2_with (at_builtin;refine kH _ rfl _ _ 33 rfl wo.heap.size _ 48 Tryz.underlying33 Tryz.infoTree rfl (by decide) pV.out rfl ((.slice pp q.ps.length pc,.slice np q.ns.length nc),q) (by rw [World.size_alloc];rfl) yV.out m yL.out Ub.out Xa.out.size ?_;intro g8 gZ w8 bJ cD kD;have tY:=aa bJ;have gT:=aa kD;clear bJ cD kD)
       go_roundw
       case rel=>exact ⟨k+1,aW.out,by go_num,Below.trans (show Below wo.heap.size wo _ from Xa.out) gT.out,_,tY.out,by rw [sk.out,List.map_append,A9.out];rfl⟩
       case measure=>have:=aW.out;simp [intOf];omega
      ·have d1:(f==le)=false:=by simp [e1]
       (have sk:Hid (pg names states (k+1)=pg names states k):=by unfold Hid;rw [kU.out,if_neg e1,List.append_nil]);clear e1;go_wp2_with fail
       go_roundw
       case rel=>exact ⟨k+1,aW.out,by go_num,Xa.out,_,pV.out,by rw [sk.out,A9.out]⟩
       case measure=>have:=aW.out;simp [intOf];omega
     ·obtain rfl:k=(bG names).length:=by omega
      (have xS:es.map (·.2)=ox names states:=by rw [hem,← HL.out.1,QG]);obtain ⟨op,oc,rfl⟩:=hes.form;have si:=aa (HFX2.out wi _ rI (xS ▸ hes.trees));clear hI rI hes hem xS hlt;go_wp2_with fail;exact ⟨rfl,.tuple #[.slice op es.length oc,.int .i64 (gL names states),.int .i64 0],by simp [results,Tryz.results17,go_sem],si.out⟩
 ·have dF:Hid (jy w names states (.returned (.tuple #[.slice none 0 0,.int .i64 0,.int .i64 (aZ names states)])) w1):=by
   refine ⟨aO,.slice none 0 0,?_,?_⟩
   ·unfold kQ;rw [if_neg c1]
   ·unfold fW;rw [if_neg c1];exact b7.nil _ _
  generalize aZ names states=a at *
  clear aO dr
  go_wp2_with fail
  exact ⟨rfl,.tuple #[.slice none 0 0,.int .i64 0,.int .i64 a],by simp [results,Tryz.results17,go_sem],dF.out⟩
end
section
open Go.RowKit Go.Deep
theorem GS {w:World} {B n:Nat} {xs:List (List Int)} (hn:n=xs.length) (f:Nat→Value) (hc:∀k,k<n→w.cell? ⟨B,k,none⟩=some (f k)) (hr:∀k,k<n→aj Any w (f k) (gl xs k)):aQ Any w (.slice (some ⟨B,0,none⟩) n n) xs:=by
 subst hn;refine ⟨f,⟨_,_,rfl,Nat.le_refl _,.inr ⟨_,0,rfl,trivial,fun k hk=>?_⟩⟩,fun k hk=>hr k hk⟩;rw [Nat.zero_add];exact hc k hk
theorem yj (w:World) (x:Int) (xs:List Int) (h:xs=[x]):aj Any (w.alloc (.cells #[.int .i64 x] 3)) (.slice (some ⟨w.heap.size,0,none⟩) 1 1) xs:=qM w _ _ xs (by rw [h];rfl) 1 (by rw [h];rfl)
def yl (w:World) (a b c d:Int):World:=(((w.alloc (.cells #[.int .i64 a] 3)).alloc (.cells #[.int .i64 b] 3)).alloc (.cells #[.int .i64 c] 3)).alloc (.cells #[.int .i64 d] 3)
theorem NT (w:World) (a b c d:Int):aQ Any ((yl w a b c d).alloc (.cells #[.slice (some ⟨w.heap.size,0,none⟩) 1 1,.slice (some ⟨w.heap.size+1,0,none⟩) 1 1,.slice (some ⟨w.heap.size+1+1,0,none⟩) 1 1,.slice (some ⟨w.heap.size+1+1+1,0,none⟩) 1 1] 26)) (.slice (some ⟨w.heap.size+1+1+1+1,0,none⟩) 4 4) [[a],[b],[c],[d]]∧Up w ((yl w a b c d).alloc (.cells #[.slice (some ⟨w.heap.size,0,none⟩) 1 1,.slice (some ⟨w.heap.size+1,0,none⟩) 1 1,.slice (some ⟨w.heap.size+1+1,0,none⟩) 1 1,.slice (some ⟨w.heap.size+1+1+1,0,none⟩) 1 1] 26)):=by
 have s0:=yj w a [a] rfl;have s1:=yj (w.alloc (.cells #[.int .i64 a] 3)) b [b] rfl;have s2:=yj ((w.alloc (.cells #[.int .i64 a] 3)).alloc (.cells #[.int .i64 b] 3)) c [c] rfl;have s3:=yj (((w.alloc (.cells #[.int .i64 a] 3)).alloc (.cells #[.int .i64 b] 3)).alloc (.cells #[.int .i64 c] 3)) d [d] rfl;simp only [World.size_alloc] at s1 s2 s3;have hsz:(yl w a b c d).heap.size=w.heap.size+1+1+1+1:=by unfold yl;simp only [World.size_alloc]
 have hL:=Up.alloc (yl w a b c d) (.cells #[.slice (some ⟨w.heap.size,0,none⟩) 1 1,.slice (some ⟨w.heap.size+1,0,none⟩) 1 1,.slice (some ⟨w.heap.size+1+1,0,none⟩) 1 1,.slice (some ⟨w.heap.size+1+1+1,0,none⟩) 1 1] 26);have u3:=Up.alloc (((w.alloc (.cells #[.int .i64 a] 3)).alloc (.cells #[.int .i64 b] 3)).alloc (.cells #[.int .i64 c] 3)) (.cells #[.int .i64 d] 3);have u2:=Up.alloc ((w.alloc (.cells #[.int .i64 a] 3)).alloc (.cells #[.int .i64 b] 3)) (.cells #[.int .i64 c] 3);have u1:=Up.alloc (w.alloc (.cells #[.int .i64 a] 3)) (.cells #[.int .i64 b] 3)
 have u0:=Up.alloc w (.cells #[.int .i64 a] 3);refine ⟨GS (f:=fun k=>.slice (some ⟨w.heap.size+k,0,none⟩) 1 1) rfl (fun k hk=>?_) (fun k hk=>?_),((((u0.trans u1).trans u2).trans u3).trans hL)⟩
 ·rw [← hsz,aK]
  match k,hk with
  | 0,_=>rfl
  | 1,_=>rfl
  | 2,_=>rfl
  | 3,_=>rfl
 ·match k,hk with
  | 0,_=>exact aj.keep s0 ((((u1.trans u2).trans u3).trans hL).kept _)
  | 1,_=>exact aj.keep s1 (((u2.trans u3).trans hL).kept _)
  | 2,_=>exact aj.keep s2 ((u3.trans hL).kept _)
  | 3,_=>exact aj.keep s3 (hL.kept _)
def su (w:World):World:=((w.alloc (.cells #[.int .i64 0,.int .i64 2] 3)).alloc (.cells #[.int .i64 0,.int .i64 (-1)] 3)).alloc (.cells #[.int .i64 1,.int .i64 3] 3)
theorem NU (w:World):aQ Any ((su w).alloc (.cells #[.slice (some ⟨w.heap.size,0,none⟩) 2 2,.slice (some ⟨w.heap.size+1,0,none⟩) 2 2,.slice (some ⟨w.heap.size+1+1,0,none⟩) 2 2] 26)) (.slice (some ⟨w.heap.size+1+1+1,0,none⟩) 3 3) Gl∧Up w ((su w).alloc (.cells #[.slice (some ⟨w.heap.size,0,none⟩) 2 2,.slice (some ⟨w.heap.size+1,0,none⟩) 2 2,.slice (some ⟨w.heap.size+1+1,0,none⟩) 2 2] 26)):=by
 have s0:=qM w #[.int .i64 0,.int .i64 2] 3 [0,2] rfl 2 rfl;have s1:=qM (w.alloc (.cells #[.int .i64 0,.int .i64 2] 3)) #[.int .i64 0,.int .i64 (-1)] 3 [0,-1] rfl 2 rfl;have s2:=qM ((w.alloc (.cells #[.int .i64 0,.int .i64 2] 3)).alloc (.cells #[.int .i64 0,.int .i64 (-1)] 3)) #[.int .i64 1,.int .i64 3] 3 [1,3] rfl 2 rfl;simp only [World.size_alloc] at s1 s2;have hsz:(su w).heap.size=w.heap.size+1+1+1:=by unfold su;simp only [World.size_alloc]
 have hL:=Up.alloc (su w) (.cells #[.slice (some ⟨w.heap.size,0,none⟩) 2 2,.slice (some ⟨w.heap.size+1,0,none⟩) 2 2,.slice (some ⟨w.heap.size+1+1,0,none⟩) 2 2] 26);have u2:=Up.alloc ((w.alloc (.cells #[.int .i64 0,.int .i64 2] 3)).alloc (.cells #[.int .i64 0,.int .i64 (-1)] 3)) (.cells #[.int .i64 1,.int .i64 3] 3);have u1:=Up.alloc (w.alloc (.cells #[.int .i64 0,.int .i64 2] 3)) (.cells #[.int .i64 0,.int .i64 (-1)] 3);have u0:=Up.alloc w (.cells #[.int .i64 0,.int .i64 2] 3)
 refine ⟨GS (f:=fun k=>.slice (some ⟨w.heap.size+k,0,none⟩) 2 2) rfl (fun k hk=>?_) (fun k hk=>?_),(((u0.trans u1).trans u2).trans hL)⟩
 ·rw [← hsz,aK]
  match k,hk with
  | 0,_=>rfl
  | 1,_=>rfl
  | 2,_=>rfl
 ·match k,hk with
  | 0,_=>exact aj.keep s0 (((u1.trans u2).trans hL).kept _)
  | 1,_=>exact aj.keep s1 ((u2.trans hL).kept _)
  | 2,_=>exact aj.keep s2 (hL.kept _)
theorem Xb (k:Nat):(gs pR k).size≤70000:=jd (M:=70000) (by decide) k
theorem GU {l:List (List Int)} (h:∀x∈l,x.length≤1000000) (k:Nat):(gl l k).length≤1000000:=by
 by_cases hk:k<l.length
 ·have:gl l k=l[k]:=by simp [gl,hk]
  rw [this];exact h _ (List.getElem_mem hk)
 ·have:gl l k=[]:=by simp [gl,show l.length≤k by omega]
  rw [this];simp
set_option maxHeartbeats 4000000 in
theorem NV (w:World):Calls Tryz.prog 26 #[] w fun e w'=>e=.returned (.bool true)∧Up w w':=by
 have dQ:KG 7=945∧KF 7=0:=by decide +kernel
 have aO:=Up.alloc w (.cells #[.string ⟨#[65]⟩,.string ⟨#[66]⟩,.string ⟨#[67]⟩,.string ⟨#[68]⟩] 9);have wP:=EA w #[.string ⟨#[65]⟩,.string ⟨#[66]⟩,.string ⟨#[67]⟩,.string ⟨#[68]⟩] 9 pR rfl 4 rfl;have bH:=aa aO;have Dw:=aa wP;clear aO wP
 go_enter Tryz.func26,Tryz.ntmps26
 go_wp2_with fail;refine (Nf 7 (by decide) w).mono ?_;rintro e w0 ⟨rfl,rfl⟩;rw [dQ.1,dQ.2];clear dQ;have EN:=aa (NT (w.alloc (.cells #[.string ⟨#[65]⟩,.string ⟨#[66]⟩,.string ⟨#[67]⟩,.string ⟨#[68]⟩] 9)) 0 0 1 1);have sk:=aa (zN Any _ _ _ pR tQ (ah.keep Dw.out (EN.out.2.kept _)) (by decide) Xb EN.out.1 (by decide) (GU (by decide)) (.inl (by decide)));have aP:=aa (bH.out.trans EN.out.2);simp only [World.size_alloc] at sk aP;unfold yl at sk aP;go_wp2_with fail;refine sk.out.mono ?_;rintro e w2 ⟨aG,v2,rfl,ht2⟩
 have e1:kQ pR tQ=1:=by unfold kQ;rw [Gm,if_pos rfl,Gn]
 have e2:fW pR tQ=[rF]:=by unfold fW;rw [if_pos Gm,Tc]
 rw [e2] at ht2;rw [e1,Gm];obtain ⟨p2,c2,rfl,-⟩:=cU ht2;have bW:=aa (aP.out.trans aG);have iu:Hid (b7 Any w2 (.slice p2 1 c2) [rF]):=ht2;have h1:=qM w2 #[.int .i64 (-1),.int .i64 0,.int .i64 0,.int .i64 2,.int .i64 2,.int .i64 4,.int .i64 4] 3 rF.ps rfl 7 rfl;have h2:=EA (w2.alloc (.cells #[.int .i64 (-1),.int .i64 0,.int .i64 0,.int .i64 2,.int .i64 2,.int .i64 4,.int .i64 4] 3)) #[.string ⟨#[]⟩,.string ⟨#[65]⟩,.string ⟨#[]⟩,.string ⟨#[66]⟩,.string ⟨#[]⟩,.string ⟨#[67]⟩,.string ⟨#[68]⟩] 9 rF.ns rfl 7 rfl
 have u1:=Up.alloc w2 (.cells #[.int .i64 (-1),.int .i64 0,.int .i64 0,.int .i64 2,.int .i64 2,.int .i64 4,.int .i64 4] 3);have u2:=Up.alloc (w2.alloc (.cells #[.int .i64 (-1),.int .i64 0,.int .i64 0,.int .i64 2,.int .i64 2,.int .i64 4,.int .i64 4] 3)) (.cells #[.string ⟨#[]⟩,.string ⟨#[65]⟩,.string ⟨#[]⟩,.string ⟨#[66]⟩,.string ⟨#[]⟩,.string ⟨#[67]⟩,.string ⟨#[68]⟩] 9)
 have u3:=Up.alloc ((w2.alloc (.cells #[.int .i64 (-1),.int .i64 0,.int .i64 0,.int .i64 2,.int .i64 2,.int .i64 4,.int .i64 4] 3)).alloc (.cells #[.string ⟨#[]⟩,.string ⟨#[65]⟩,.string ⟨#[]⟩,.string ⟨#[66]⟩,.string ⟨#[]⟩,.string ⟨#[67]⟩,.string ⟨#[68]⟩] 9)) (.cells #[.slice (some ⟨w2.heap.size,0,none⟩) 7 7,.slice (some ⟨w2.heap.size+1,0,none⟩) 7 7] 39)
 have k0:=dc ((w2.alloc (.cells #[.int .i64 (-1),.int .i64 0,.int .i64 0,.int .i64 2,.int .i64 2,.int .i64 4,.int .i64 4] 3)).alloc (.cells #[.string ⟨#[]⟩,.string ⟨#[65]⟩,.string ⟨#[]⟩,.string ⟨#[66]⟩,.string ⟨#[]⟩,.string ⟨#[67]⟩,.string ⟨#[68]⟩] 9)) (.slice (some ⟨w2.heap.size,0,none⟩) 7 7) (.slice (some ⟨w2.heap.size+1,0,none⟩) 7 7) 39
 have k1:=dz ((w2.alloc (.cells #[.int .i64 (-1),.int .i64 0,.int .i64 0,.int .i64 2,.int .i64 2,.int .i64 4,.int .i64 4] 3)).alloc (.cells #[.string ⟨#[]⟩,.string ⟨#[65]⟩,.string ⟨#[]⟩,.string ⟨#[66]⟩,.string ⟨#[]⟩,.string ⟨#[67]⟩,.string ⟨#[68]⟩] 9)) (.slice (some ⟨w2.heap.size,0,none⟩) 7 7) (.slice (some ⟨w2.heap.size+1,0,none⟩) 7 7) 39;simp only [World.size_alloc] at h2 k0 k1;have Z7:=aa (au.keep (S:=Any) (t:=rF) ⟨_,_,rfl,aj.keep h1 (u2.kept _),h2⟩ (u3.kept _));have Xc:=aa ((u1.trans u2).trans u3);have xB:=aa (And.intro k0 k1)
 have HST:Hid ((((w2.alloc (.cells #[.int .i64 (-1),.int .i64 0,.int .i64 0,.int .i64 2,.int .i64 2,.int .i64 4,.int .i64 4] 3)).alloc (.cells #[.string ⟨#[]⟩,.string ⟨#[65]⟩,.string ⟨#[]⟩,.string ⟨#[66]⟩,.string ⟨#[]⟩,.string ⟨#[67]⟩,.string ⟨#[68]⟩] 9)).alloc (.cells #[.slice (some ⟨w2.heap.size,0,none⟩) 7 7,.slice (some ⟨w2.heap.size+1,0,none⟩) 7 7] 39)).heap.size=w2.heap.size+1+1+1):=by unfold Hid;simp only [World.size_alloc]
 clear aG ht2 e1 e2 sk EN aP Dw bH h1 h2 u1 u2 u3 k0 k1;have Z8:Hid (∀W:World,W.heap.size=w2.heap.size+1+1+1→aQ Any ((su W).alloc (.cells #[.slice (some ⟨w2.heap.size+1+1+1,0,none⟩) 2 2,.slice (some ⟨w2.heap.size+1+1+1+1,0,none⟩) 2 2,.slice (some ⟨w2.heap.size+1+1+1+1+1,0,none⟩) 2 2] 26)) (.slice (some ⟨w2.heap.size+1+1+1+1+1+1,0,none⟩) 3 3) Gl∧Up W ((su W).alloc (.cells #[.slice (some ⟨w2.heap.size+1+1+1,0,none⟩) 2 2,.slice (some ⟨w2.heap.size+1+1+1+1,0,none⟩) 2 2,.slice (some ⟨w2.heap.size+1+1+1+1+1,0,none⟩) 2 2] 26))):=fun W hW=>by have h:=NU W;rw [hW] at h;exact h
 go_wp2_with fail;generalize ((w2.alloc (.cells #[.int .i64 (-1),.int .i64 0,.int .i64 0,.int .i64 2,.int .i64 2,.int .i64 4,.int .i64 4] 3)).alloc (.cells #[.string ⟨#[]⟩,.string ⟨#[65]⟩,.string ⟨#[]⟩,.string ⟨#[66]⟩,.string ⟨#[]⟩,.string ⟨#[67]⟩,.string ⟨#[68]⟩] 9)).alloc (.cells #[.slice (some ⟨w2.heap.size,0,none⟩) 7 7,.slice (some ⟨w2.heap.size+1,0,none⟩) 7 7] 39)=w7 at *;obtain ⟨hr,Xd⟩:=Z8.out w7 HST.out;unfold su at hr Xd;have Z9:=aa Xd;have GC:=aa (Nx Any _ _ Gl hr (by decide) (GU (by decide)));clear hr Xd Z8
 generalize ((((w7.alloc (.cells #[.int .i64 0,.int .i64 2] 3)).alloc (.cells #[.int .i64 0,.int .i64 (-1)] 3)).alloc (.cells #[.int .i64 1,.int .i64 3] 3)).alloc (.cells #[.slice (some ⟨w2.heap.size+1+1+1,0,none⟩) 2 2,.slice (some ⟨w2.heap.size+1+1+1+1,0,none⟩) 2 2,.slice (some ⟨w2.heap.size+1+1+1+1+1,0,none⟩) 2 2] 26))=w8 at *;refine GC.out.mono ?_;rintro e w9 ⟨rfl,oT⟩;have e3:KE Gl=2:=by unfold KE;rw [if_pos zJ.1,zJ.2]
 have e4:KD Gl=0:=by unfold KD;rw [if_pos zJ.1]
 rw [e3,e4];have ud:=Z9.out.trans oT;have k0:=ud.cell xB.out.1;have k1:=ud.cell xB.out.2;have HT9:=aa (iu.out.keep ((Xc.out.trans ud).kept _));have HW9:=aa (Z7.out.keep (ud.kept _));have Cz:=aa (bW.out.trans (Xc.out.trans ud));have aY:=Up.alloc w9 (.cells #[.slice (some ⟨w2.heap.size,0,none⟩) 7 7,.slice (some ⟨w2.heap.size+1,0,none⟩) 7 7] 39);have aW:Hid (b7 Any (w9.alloc (.cells #[.slice (some ⟨w2.heap.size,0,none⟩) 7 7,.slice (some ⟨w2.heap.size+1,0,none⟩) 7 7] 39)) (.slice (some ⟨w9.heap.size,0,none⟩) 1 1) [rF]):=by
  refine ⟨_,_,rfl,Nat.le_refl _,.inr ⟨_,0,rfl,trivial,fun k hk=>?_⟩⟩;obtain rfl:k=0:=by have:k<1:=hk;omega
  exact ⟨_,_,dc w9 _ _ _,dz w9 _ _ _,HW9.out.keep (aY.kept _)⟩
 have vU:=aa (o9 Any Any _ _ _ [rF] [rF] (HT9.out.keep (aY.kept _)) aW.out (by decide) (fun k=>by
  match k with
  | 0=>exact ⟨by decide,by decide⟩
  | k+1=>exact ⟨Nat.zero_le _,Nat.zero_le _⟩))
 have HU10:=aa (Cz.out.trans aY);clear oT ud aY e3 e4 GC xB Z7 iu Z9 Xc HST HT9 HW9 bW Cz aW;go_wp2_with fail;refine vU.out.mono ?_;rintro e w11 ⟨rfl,Xe⟩;have MK:=aa (HU10.out.trans Xe);simp only [decide_true];clear Xe vU;go_wp2_with fail;go_ret;exact ⟨rfl,MK.out⟩
end
section
open Go.RowKit Go.Deep
theorem GV {ts:List aD} (h:∀t∈ts,t.ps.length≤1000000∧t.ns.length≤1000000) (k:Nat):(gt ts k).ps.length≤1000000∧(gt ts k).ns.length≤1000000:=by
 by_cases hk:k<ts.length
 ·exact h _ (AX hk)
 ·have:gt ts k=⟨[],[]⟩:=by simp [gt,hk]
  rw [this];exact ⟨Nat.zero_le _,Nat.zero_le _⟩
end
end Go.Proofs.YthgabkgmkolobaaGreat
