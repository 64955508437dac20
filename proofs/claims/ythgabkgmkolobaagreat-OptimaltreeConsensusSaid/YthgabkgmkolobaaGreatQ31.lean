/- split.leafName; the closure of .. -/
import Derived.Shelf.Slices.SearchI
import Derived.Shelf.Slices.Empties
import Derived.Test.YthgabkgmkolobaaGreatQ30
set_option maxRecDepth 100000
set_option maxHeartbeats 4000000
namespace Go.Proofs.YthgabkgmkolobaaGreat
section
open Go.RowKit Go.Deep
theorem Tj (s:ByteArray) (h:s.size - 1<s.size) (Yk:16<s.size) (DX:((s[s.size - 1].toNat:Int)==42)=true):bq s.data.toList=false:=by
 have hl:=size_data s;have h2:s[s.size - 1]=42:=by
  have h3:(s[s.size - 1].toNat:Int)=42:=by simpa using DX
  have h4:s[s.size - 1].toNat=42:=by omega
  exact UInt8.toNat_inj.1 h4
 unfold bq;rw [Dg s h,h2,if_pos rfl,hl,decide_eq_false (by omega),Bool.and_false]
theorem WB (s:ByteArray) (hs:s.size<=70000) (w:World):Calls Tryz.prog 73 #[.string s] w fun e w'=>e=.returned (.bool (bq s.data.toList))/\w=w':=by
 go_in;go_wp2_with fail
 ·have hf:=aa (xX s (by omega) (by omega) ‹_›)
  refine (yH _ (by simp;omega) _).mono ?_;rintro e w1 ⟨rfl,rfl⟩;rw [<- hf.out];go_wp2;go_ret;exact ⟨rfl,rfl⟩
 ·have hf:=aa (Tj s (by omega) (by omega) ‹_›)
  go_ret;exact ⟨aO hf.out.symm,rfl⟩
 ·have hf:=aa (vV s (by omega) ‹_›)
  refine (yH _ hs _).mono ?_;rintro e w1 ⟨rfl,rfl⟩;rw [<- hf.out];go_wp2;go_ret;exact ⟨rfl,rfl⟩
 ·have hf:=aa (Ay s (by omega))
  refine (yH _ hs _).mono ?_;rintro e w1 ⟨rfl,rfl⟩;rw [<- hf.out];go_wp2;go_ret;exact ⟨rfl,rfl⟩
theorem Gh (tb B0:Nat) (t:ax) (z:Int) (nm:ByteArray) (w:World) (P N:Value) (hG:GS tb B0 w P N t) (B7:t.ns.length=t.ps.length) (hl:t.ps.length+1<=1000000) :
  Calls Tryz.prog 74 #[.int .i64 z,.string nm,.pointer (some ⟨tb,0,none⟩)] w fun e w'=>e=.returned (.int .i64 (t.ps.length:Int))/\∃P' N',GS tb B0 w' P' N' (t.push z nm)/\GK tb w w' P N P' N':=by
 obtain ⟨hc0,hc1,_,_⟩:=hG.cells;obtain ⟨pp,pc,rfl,_⟩:=hG.tl.cn.form (n:=t.ps.length) (by simp);obtain ⟨np,nc,rfl,_⟩:=hG.tl.cD.form (n:=t.ps.length) (by simp [B7]);have HG:=aa hG;have Aj:=aa B7;clear hG B7;go_in;go_wp2_with fail
 go_cut [] from 6 to 17 (fun wx=>∃P' N',GS tb B0 wx P' N' (t.push z nm)/\GK tb w wx (.slice pp t.ps.length pc) (.slice np t.ps.length nc) P' N')
 case first =>
  have hd:=Up.drewN w 1;have Aq:=aa HG.out;have dJ:=aa HG.out.box;have Ar:Hid (RS tb B0 w w.drew (.slice pp t.ps.length pc) (.slice np t.ps.length nc) (.slice pp t.ps.length pc) (.slice np t.ps.length nc) t.ps t.ns):=(RS.start HG.out.tl HG.out.lo).up hd;have eC:Hid (t.ps.length<=1000000/\t.ns.length<=1000000):=⟨by omega,by rw [Aj.out];omega⟩;refine fR (by kernel_rfl) 10 (fun w'=>w'.cell? ⟨tb,0,none⟩=some (.slice pp t.ps.length pc)/\w'.cell? ⟨tb,1,none⟩=some (.slice np t.ps.length nc)) (Ar.out.cells dJ.out) (fun hS=>?_);simp only [dY,aW,dw,Nat.reduceAdd,iu,iw,dX,di,cm];generalize w.drew=Wd at *;refine az.kG 0 1 2 5 hS ?_;try simp only [Act.put,aL,aM,aN]
  refine az.xk 6 7 hS ?_;try simp only [Act.put,aL,aM,aN]
  refine az.C8 (i:=3) (i2:=8) rfl rfl (by kernel_rfl) (fun K' hK=>?_) (fun K' hK=>?_)
  ·go_simp
   have pZ:Hid (RS tb B0 _ (Wd.alloc (.cells #[.int .i64 z] 3)) _ _ _ _ _ _):=Ar.out.up (Up.alloc _ _);refine hK.out _ _ (fun _=>pZ.out.cells dJ.out) (fun _=>?_);(try simp only [aL,aM,aN]);refine az.C8 (i:=4) (i2:=8) rfl rfl (by kernel_rfl) (fun K' hK=>?_) (fun K' hK=>?_)
   ·refine fL (by rfl) _ _ _ (by rfl) B0 3 _ 8 Tryz.underlying26 Tryz.iD (by rfl) (by decide) (by rfl) pZ.out.tl.cn (.int .i64 z) Wd.heap.size (by rfl) (aS Wd #[.int .i64 z] 3 0) (by rfl) (by rw [aD];exact eC.out.1) (aB pZ.out.lo.2 pZ.out.gk.size) ?_
    intro g1 Mx ki qZ kI hrg1 _;have mE:Hid (RS tb B0 _ ki _ _ _ _ _ _):=pZ.out.vo qZ kI (hrg1.imp id (fun e=>fD e.symm));refine hK.out _ _ (fun _=>mE.out.cells dJ.out) (fun _=>?_);(try simp only [Act.put,aL,aM,aN]);refine az.fr 10 (fun _=>mE.out.cells dJ.out) ?_;(try simp only [Act.put,aL,aM,aN]);refine az.st 8 fun K' hK=>?_;go_simp;have jF:Hid (RS tb B0 _ (ki.alloc (.cells #[.string nm] 9)) _ _ _ _ _ _):=mE.out.up (Up.alloc _ _);refine hK.out _ _ (fun _=>jF.out.cells dJ.out) (fun _=>?_);(try simp only [aL,aM,aN]);refine az.st 9 fun K' hK=>?_;refine fL (by rfl) _ _ _ (by rfl) B0 9 _ 16 Tryz.underlying22 Tryz.mD (by rfl) (by decide) (by rfl) jF.out.tl.cD (.string nm) ki.heap.size (by rfl) (aS ki #[.string nm] 9 0) (by rfl) (by rw [aD];exact eC.out.2) (aB jF.out.lo.2 jF.out.gk.size) ?_;intro g2 GF gy pE mU hrg2 _;have iP:Hid (RS tb B0 _ gy _ _ _ _ _ _):=jF.out.ur pE mU (hrg2.imp id (fun e=>fD e.symm));refine hK.out _ _ (fun _=>iP.out.cells dJ.out) (fun _=>?_);(try simp only [Act.put,aL,aM,aN]);obtain ⟨xu,gC⟩:=iP.out.cells dJ.out;have GG:=iP.out.frozen dJ.out 0;have Bv:=iP.out.frozen dJ.out 1;have iy:=aa (iP.out.store Aq.out);refine az.st 11 fun K' hK=>?_;go_simp;refine hK.out _ _ (bF ·) (fun _=>?_);(try simp only [aL,aM,aN]);refine az.fr 12 (bF ·) ?_;(try simp only [Act.put,aL,aM,aN]);refine az.st 13 fun K' hK=>?_;go_simp;refine hK.out _ _ (bF ·) (fun _=>?_);refine az.done (by kernel_rfl) ?_;go_wp2;go_meet
    case rel =>have dK:=iy.out;simp only [aD] at dK;exact ⟨_,_,dK.1,dK.2⟩
   ·go_simp
    have mE:Hid (RS tb B0 _ ((Wd.alloc (.cells #[.int .i64 z] 3)).alloc (.cells #[.string nm] 9)) _ _ _ _ _ _):=pZ.out.up (Up.alloc _ _);refine hK.out _ _ (fun _=>mE.out.cells dJ.out) (fun _=>?_);(try simp only [aL,aM,aN]);have uh:=aS (Wd.alloc (.cells #[.int .i64 z] 3)) #[.string nm] 9 0;have sP:=(Up.alloc (Wd.alloc (.cells #[.int .i64 z] 3)) (.cells #[.string nm] 9)).cell (aS Wd #[.int .i64 z] 3 0);rw [aQ] at uh;refine az.st 4 fun K' hK=>?_;refine fL (by rfl) _ _ _ (by rfl) B0 3 _ 8 Tryz.underlying26 Tryz.iD (by rfl) (by decide) (by rfl) mE.out.tl.cn (.int .i64 z) Wd.heap.size (by rfl) sP (by rfl) (by rw [aD];exact eC.out.1) (aB mE.out.lo.2 mE.out.gk.size) ?_;intro g1 Mx ki qZ kI hrg1 _;have jF:Hid (RS tb B0 _ ki _ _ _ _ _ _):=mE.out.vo qZ kI (hrg1.imp id (fun e=>fD e.symm));(have tA:ki.cell? ⟨Wd.heap.size+1,0,none⟩=some (.string nm):=by rw [kI.cell_far ⟨Wd.heap.size+1,0,none⟩ (by simp) (fun e=>absurd (av Ar.out.tl.cn e.symm).2 (by show ¬(Wd.heap.size+1<Wd.heap.size);omega))];exact uh);refine hK.out _ _ (fun _=>jF.out.cells dJ.out) (fun _=>?_);(try simp only [Act.put,aL,aM,aN]);refine az.fr 10 (fun _=>jF.out.cells dJ.out) ?_;(try simp only [Act.put,aL,aM,aN]);refine az.st 9 fun K' hK=>?_;refine fL (by rfl) _ _ _ (by rfl) B0 9 _ 16 Tryz.underlying22 Tryz.mD (by rfl) (by decide) (by rfl) jF.out.tl.cD (.string nm) (Wd.heap.size+1) (by rfl) tA (by rfl) (by rw [aD];exact eC.out.2) (aB jF.out.lo.2 jF.out.gk.size) ?_;intro g2 GF gy pE mU hrg2 _;have iP:Hid (RS tb B0 _ gy _ _ _ _ _ _):=jF.out.ur pE mU (hrg2.imp id (fun e=>fD e.symm));refine hK.out _ _ (fun _=>iP.out.cells dJ.out) (fun _=>?_);(try simp only [Act.put,aL,aM,aN]);obtain ⟨xu,gC⟩:=iP.out.cells dJ.out;have GG:=iP.out.frozen dJ.out 0;have Bv:=iP.out.frozen dJ.out 1;have iy:=aa (iP.out.store Aq.out);refine az.st 11 fun K' hK=>?_;go_simp;refine hK.out _ _ (bF ·) (fun _=>?_);(try simp only [aL,aM,aN]);refine az.fr 12 (bF ·) ?_;(try simp only [Act.put,aL,aM,aN]);refine az.st 13 fun K' hK=>?_;go_simp;refine hK.out _ _ (bF ·) (fun _=>?_);refine az.done (by kernel_rfl) ?_;go_wp2;go_meet
    case rel =>have dK:=iy.out;simp only [aD] at dK;exact ⟨_,_,dK.1,dK.2⟩
  ·go_simp
   have pZ:Hid (RS tb B0 _ (Wd.alloc (.cells #[.string nm] 9)) _ _ _ _ _ _):=Ar.out.up (Up.alloc _ _);refine hK.out _ _ (fun _=>pZ.out.cells dJ.out) (fun _=>?_);(try simp only [aL,aM,aN]);refine az.st 3 fun K' hK=>?_;go_simp;have mE:Hid (RS tb B0 _ ((Wd.alloc (.cells #[.string nm] 9)).alloc (.cells #[.int .i64 z] 3)) _ _ _ _ _ _):=pZ.out.up (Up.alloc _ _);refine hK.out _ _ (fun _=>mE.out.cells dJ.out) (fun _=>?_);(try simp only [aL,aM,aN]);have sP:=aS (Wd.alloc (.cells #[.string nm] 9)) #[.int .i64 z] 3 0;have uh:=(Up.alloc (Wd.alloc (.cells #[.string nm] 9)) (.cells #[.int .i64 z] 3)).cell (aS Wd #[.string nm] 9 0);rw [aQ] at sP;refine az.st 4 fun K' hK=>?_;refine fL (by rfl) _ _ _ (by rfl) B0 3 _ 8 Tryz.underlying26 Tryz.iD (by rfl) (by decide) (by rfl) mE.out.tl.cn (.int .i64 z) (Wd.heap.size+1) (by rfl) sP (by rfl) (by rw [aD];exact eC.out.1) (aB mE.out.lo.2 mE.out.gk.size) ?_;intro g1 Mx ki qZ kI hrg1 _;have jF:Hid (RS tb B0 _ ki _ _ _ _ _ _):=mE.out.vo qZ kI (hrg1.imp id (fun e=>fD e.symm));(have tA:ki.cell? ⟨Wd.heap.size,0,none⟩=some (.string nm):=by rw [kI.cell_far ⟨Wd.heap.size,0,none⟩ (by simp;omega) (fun e=>absurd (av Ar.out.tl.cn e.symm).2 (by show ¬(Wd.heap.size<Wd.heap.size);omega))];exact uh);refine hK.out _ _ (fun _=>jF.out.cells dJ.out) (fun _=>?_);(try simp only [Act.put,aL,aM,aN]);refine az.fr 10 (fun _=>jF.out.cells dJ.out) ?_;(try simp only [Act.put,aL,aM,aN]);refine az.st 9 fun K' hK=>?_;refine fL (by rfl) _ _ _ (by rfl) B0 9 _ 16 Tryz.underlying22 Tryz.mD (by rfl) (by decide) (by rfl) jF.out.tl.cD (.string nm) Wd.heap.size (by rfl) tA (by rfl) (by rw [aD];exact eC.out.2) (aB jF.out.lo.2 jF.out.gk.size) ?_;intro g2 GF gy pE mU hrg2 _;have iP:Hid (RS tb B0 _ gy _ _ _ _ _ _):=jF.out.ur pE mU (hrg2.imp id (fun e=>fD e.symm));refine hK.out _ _ (fun _=>iP.out.cells dJ.out) (fun _=>?_);(try simp only [Act.put,aL,aM,aN]);obtain ⟨xu,gC⟩:=iP.out.cells dJ.out;have GG:=iP.out.frozen dJ.out 0;have Bv:=iP.out.frozen dJ.out 1;have iy:=aa (iP.out.store Aq.out);refine az.st 11 fun K' hK=>?_;go_simp;refine hK.out _ _ (bF ·) (fun _=>?_);(try simp only [aL,aM,aN]);refine az.fr 12 (bF ·) ?_;(try simp only [Act.put,aL,aM,aN]);refine az.st 13 fun K' hK=>?_;go_simp;refine hK.out _ _ (bF ·) (fun _=>?_);refine az.done (by kernel_rfl) ?_;go_wp2;go_meet
   case rel =>have dK:=iy.out;simp only [aD] at dK;exact ⟨_,_,dK.1,dK.2⟩
 case rest =>
  obtain ⟨P2,N2,hG2,hK2⟩:=hcut;obtain ⟨d0,d1,_,_⟩:=hG2.cells;have e1:(t.push z nm).ps.length=t.ps.length+1:=by simp [ax.push]
  obtain ⟨xB,xC,rfl,_⟩:=hG2.tl.cn.form (n:=t.ps.length+1) (by simp [e1]);have HF:=aa (⟨_,_,hG2,hK2⟩:∃P' N',GS tb B0 wc P' N' (t.push z nm)/\GK tb w wc (.slice pp t.ps.length pc) (.slice np t.ps.length nc) P' N');have i1:wrap64 ((((t.ps.length+1:Nat)):Int) - 1)=(t.ps.length:Int):=by unfold wrap64;omega
  have i2:wrap64 ((t.ps.length:Int)+1 - 1)=(t.ps.length:Int):=by unfold wrap64;omega
  clear hG2 hK2 e1 hc0 hc1;go_wp2;go_ret;exact ⟨aC (by first | rfl | omega | simp),HF.out⟩
theorem NF (S:Nat->Prop) (w:World) (bo bn br:Nat) (ov nv:Value) (own:List (List Int)) (oG:List Int) (x:Int) (m:Nat) (ho:w.cell? ⟨bo,0,none⟩=some ov) (hO:aT S w ov own) (hn:w.cell? ⟨bn,0,none⟩=some nv) (hN:af S w nv oG) (hr:w.cell? ⟨br,0,none⟩=some (.int .i64 2))
  (hm:m<=own.length) (hm2:m<=oG.length) (iF:∀k,k<m->gi oG k=((3+k:Nat):Int)) (Uf:own.length<=1000) (hl:∀k,(gl own k).length<=1000000) :
  Calls Tryz.prog 83 #[.int .i64 x,.int .i64 (m:Int),.pointer (some ⟨bo,0,none⟩),.pointer (some ⟨bn,0,none⟩),.pointer (some ⟨br,0,none⟩)] w fun e w'=>e=.returned (.int .i64 (fk own x m))/\w=w':=by
 obtain ⟨op,oc,rfl,-,-⟩:=dy hO;obtain ⟨np,nc,rfl,-,-⟩:=aq.open hN;have HO:Hid (aT S w (.slice op own.length oc) own):=hO;have HN:Hid (af S w (.slice np oG.length nc) oG):=hN;have xA:=aa iF;have HL:=aa hl;have m1:wrap64 ((m:Int) - 1)=(m:Int) - 1:=by unfold wrap64;omega
 clear hO hN iF hl;go_in;go_wp2_with fail;clear m1
 go_loop [8] (fun i=>∃k:Nat,k<=m/\i=.int .i64 ((k:Int) - 1)/\Hid (fk own x m=fk own x k)) (fun i=>(intOf i+1).toNat)
 case atStart=>exact ⟨m,ah _,rfl,rfl⟩
 case round =>
  obtain ⟨k,hk,rfl,hd⟩:=hrel;cases k with
  | zero =>
   (have i0:¬(0:Int)<=((0:Nat):Int) - 1:=by decide);go_wp2;go_ret;exact ⟨aC hd.out.symm,rfl⟩
  | succ k =>
   obtain ⟨b,off,q,c,rfl,hc,hi⟩:=eZ HO.out (show k<own.length by omega);obtain ⟨b2,off2,rfl,hc2⟩:=bU HN.out (show k<oG.length by omega);rw [xA.out k (by omega)] at hc2;(have zh:Hid (Calls Tryz.prog 14 #[.slice q (gl own k).length c,.int .i64 x] w fun e w'=>e=.returned (.bool ((gl own k).contains x))/\w=w'):=by have h:=Cs S w _ (gl own k) x hi (HL.out k);rw [Fq] at h;exact h);have HQ:Hid (fk own x (k+1)=if (gl own k).contains x then ((3+k:Nat):Int) else fk own x k):=rfl;(have e1:((k+1:Nat):Int) - 1=(k:Int):=by omega);rw [e1];have k1:(0:Int)<=(k:Int):=vP _;(have k2:(k:Int)<(own.length:Int):=by omega);(have k3:(k:Int)<(oG.length:Int):=by omega);(have k4:wrap64 ((k:Int) - 1)=(k:Int) - 1:=by unfold wrap64;omega);clear hi e1;cases hct:(gl own k).contains x
   ·rw [hct] at zh HQ
    (have Zn:Hid (fk own x m=fk own x k):=by unfold Hid;rw [hd.out,HQ.out,if_neg (by decide)]);clear hct;go_wp2_with fail;refine zh.out.mono ?_;rintro e w' ⟨rfl,rfl⟩;go_wp2
    go_round
    case rel=>exact ⟨k,by omega,rfl,Zn⟩
    case measure=>clear k4;simp [intOf]
   ·rw [hct] at zh HQ
    (have Zn:Hid (fk own x m=((3+k:Nat):Int)):=by unfold Hid;rw [hd.out,HQ.out,if_pos rfl]);clear hct k4;go_wp2_with fail;refine zh.out.mono ?_;rintro e w' ⟨rfl,rfl⟩;go_wp2;go_ret;exact ⟨aC (by rw [Zn.out];omega),rfl⟩
theorem Tryz.ae1:(Tryz.prog.info? 26).map (fun i=>(i.zero,i.size,i.bytes))=some (some (.slice none 0 0),1,24):=by kernel_rfl
def UG (S:Nat->Prop) (w:World) (T:TypeId) (xs:List (List Int)) (en:Ending) (w':World):Prop :=
 Up w w'/\∃u vals,en=.returned u/\vals.length=xs.length/\au w.heap.size T w' u vals/\∀i,i<xs.length->af S w' (vals.getD i undef) (gl xs i)
theorem acj {S:Nat->Prop} {w:World} {n cap:Nat} {xs:List (List Int)} (h:aT S w (.slice none n cap) xs):xs=[]:=by
 obtain ⟨f,⟨q,c,e,_,h⟩,_⟩:=h;injection e with e1 e2 e3;rcases h with h | ⟨b,off,h,_⟩
 ·exact od h
 ·rw [<- e1] at h;cases h
theorem Zo {u:Value} (h:∃p n c,u=.slice p n c):u.oneCell'=true:=by obtain ⟨_,_,_,rfl⟩:=h;rfl
theorem Fx (S:Nat->Prop) (w:World) (v:Value) (xs:List (List Int)) (h:aT S w v xs) (hn:xs.length<=1000000) :
  Calls Tryz.prog 76 #[v] w (UG S w 26 xs):=by
 obtain ⟨p,cap,rfl,hcap,_⟩:=dy h;cases p with
 | none =>
  obtain rfl:=acj h;have heq:=fun (w:World)=>Lib.run_eql_slice_nil (P:=Tryz.prog) w 23 26 none 0 cap 0 0 Tryz.underlying23;clear h;go_in;go_wp2;go_ret;exact ⟨Up.refl _,_,[],rfl,rfl,au.nil _ _ _,fun i hi=>absurd hi (aZ _)⟩
 | some p =>
  have heq:=fun (w:World)=>Lib.run_eql_slice_nil (P:=Tryz.prog) w 23 26 (some p) xs.length cap 0 0 Tryz.underlying23;have hu:=Up.alloc w (.cells #[] 26);obtain ⟨f,kF,hr⟩:=h;obtain ⟨q,c,e,_,H⟩:=aq.open (aq.keep kF (hu.kept S));injection e with e1 e2 e3;subst e1;have hnl:((List.range xs.length).map f).length=xs.length:=by simp
  have hnews:∀j u,((List.range xs.length).map f)[j]? = some u->(w.alloc (.cells #[] 26)).cell? (p.add j)=some u:=fun j u hj=>by (have hj2:j<xs.length:=by have:=(o8.1 hj).1;simpa using this);obtain ⟨b,off,e,hc⟩:=H j hj2;injection e with e;subst e;(have Hr:(⟨b,off,none⟩:Addr).add j=⟨b,off+j,none⟩:=by unfold Addr.add;split<;>simp_all);rw [Hr,hc];simp [hj2] at hj;rw [hj]
  have hone:∀u∈(List.range xs.length).map f,u.oneCell'=true:=fun u aI=>by obtain ⟨k,hk,rfl⟩:=bI.1 aI;obtain ⟨p',c',e',_⟩:=hr k (bu.1 hk);exact Zo ⟨_,_,_,e'⟩
  have HU:=aa hu;have HN:=aa hnews;have HO:=aa hone;have ux:=aa hnl;have HR:=aa hr;have HM:=aa (au.made w 26);clear kF hr H hnews hu hone hnl e2 e3;go_in;go_wp2_with (at_builtin;refine SZ _ rfl _ _ 23 rfl w.heap.size 26 (.slice none 0 0) 24 Tryz.underlying23 Tryz.ae1 rfl (by decide) HM.out rfl p cap ((List.range xs.length).map f) (by rw [ux.out];rfl) HN.out HO.out (by rw [ux.out];simp;omega) (by simp) ?_;intro v' w' hown' hgrow ajQ);go_ret;have cQ:Up w w':=iz HU.out ajQ;refine ⟨cQ,_,(List.range xs.length).map f,rfl,ux.out,by simpa using hown',fun i hi=>?_⟩;have e:((List.range xs.length).map f).getD i undef=f i:=by simp [hi]
  rw [e];exact (HR.out i hi).keep (cQ.kept S)
def bQ (amd:List ByteArray) (own:List (List Int)) (j m:Nat):ax :=
 ⟨[-1,0,0]++((List.range j).map (fun k=>fk own (gi (gl own k) 0) k)++(List.range m).map fun b=>fk own ((b+1:Nat):Int) own.length),
  [ByteArray.empty,gs amd 0,ByteArray.empty]++(List.replicate j ByteArray.empty++(List.range m).map fun b=>gs amd (b+1))⟩
theorem ahe (amd:List ByteArray) (own:List (List Int)) (j:Nat):(bQ amd own j 0).push (fk own (gi (gl own j) 0) j) ByteArray.empty=bQ amd own (j+1) 0:=by
 unfold bQ ax.push;simp [List.range_succ,List.replicate_succ']
theorem ae2 (amd:List ByteArray) (own:List (List Int)) (j m:Nat):(bQ amd own j m).push (fk own ((m+1:Nat):Int) own.length) (gs amd (m+1))=bQ amd own j (m+1):=by
 unfold bQ ax.push;simp [List.range_succ]
theorem ahf (amd:List ByteArray) (own:List (List Int)) (j m:Nat):(bQ amd own j m).ps.length=3+j+m/\(bQ amd own j m).ns.length=3+j+m:=by
 unfold bQ;constructor<;>simp<;>omega
structure AX (tb r o n:Nat) (W:World) (P N ov nv:Value) (own:List (List Int)) (oG:List Int):Prop where
 lt:tb<r/\r<o/\o<n/\n<W.heap.size
 Fy:∀b,P.ownBlock=some b->b≠r/\b≠o/\b≠n/\nv.ownBlock≠some b
 Fz:∀b,N.ownBlock=some b->b≠r/\b≠o/\b≠n/\nv.ownBlock≠some b
 rb:W.heap[r]? = some (Obj.cells #[.int .i64 2] 3 (0,0))
 ob:W.heap[o]? = some (Obj.cells #[ov] 23 (0,0))
 nb:W.heap[n]? = some (Obj.cells #[nv] 26 (0,0))
 rows:aT (fun b=>b≠tb/\b≠n/\some b≠P.ownBlock/\some b≠N.ownBlock/\some b≠nv.ownBlock) W ov own
 oG:au (n+1) 3 W nv (oG.map (Value.int .i64))
section
variable {tb r o n:Nat} {W X:World} {P N P' N' ov nv FA:Value} {own:List (List Int)} {oG:List Int}
theorem AX.gk (h:AX tb r o n W P N ov nv own oG) (k:GK tb W X P N P' N'):AX tb r o n X P' N' ov nv own oG:=by
 obtain ⟨l1,l2,l3,l4⟩:=h.lt;have far:∀ {Q Q':Value},(∀b,Q'.ownBlock=some b->Q.ownBlock=some b\/W.heap.size<=b)->(∀b,Q.ownBlock=some b->b≠r/\b≠o/\b≠n/\nv.ownBlock≠some b)->∀b,Q'.ownBlock=some b->b≠r/\b≠o/\b≠n/\nv.ownBlock≠some b:=fun h1 h2 b hb=>by
  rcases h1 b hb with h3 | h3
  ·exact h2 b h3
  ·exact ⟨by omega,by omega,by omega,fun e=>by have:=(av h.oG e).2;omega⟩
 have bl:∀b,b<W.heap.size->b≠tb->(∀c,P.ownBlock=some c->b≠c)->(∀c,N.ownBlock=some c->b≠c)->X.heap[b]? = W.heap[b]?:=fun b hb h1 h2 h3=>k.block b hb h1 (fun e=>h2 b e.symm rfl) (fun e=>h3 b e.symm rfl);refine ⟨⟨l1,l2,l3,iI l4 k.size⟩,far k.jX h.Fy,far k.jY h.Fz,?_,?_,?_,?_,?_⟩
 ·rw [bl r (by omega) (by omega) (fun c hc e=>(h.Fy c hc).1 e.symm) (fun c hc e=>(h.Fz c hc).1 e.symm)];exact h.rb
 ·rw [bl o (by omega) (by omega) (fun c hc e=>(h.Fy c hc).2.1 e.symm) (fun c hc e=>(h.Fz c hc).2.1 e.symm)];exact h.ob
 ·rw [bl n (by omega) (by omega) (fun c hc e=>(h.Fy c hc).2.2.1 e.symm) (fun c hc e=>(h.Fz c hc).2.2.1 e.symm)];exact h.nb
 ·refine ((h.rows.sub (T:=fun b=>(b≠tb/\b≠n/\some b≠P.ownBlock/\some b≠N.ownBlock/\some b≠nv.ownBlock)/\b<W.heap.size) fun b hb hl=>⟨hb,hl⟩).keep fun b hb hl=>k.block b hl hb.1.1 hb.1.2.2.1 hb.1.2.2.2.1).sub fun b hb _=>⟨hb.1.1,hb.1.2.1,fun e=>?_,fun e=>?_,hb.1.2.2.2.2⟩
  ·rcases k.jX b e.symm with h1 | h1
   ·exact hb.1.2.2.1 h1.symm
   ·have:=hb.2;omega
  ·rcases k.jY b e.symm with h1 | h1
   ·exact hb.1.2.2.2.1 h1.symm
   ·have:=hb.2;omega
 ·exact h.oG.eH fun b hb=>bl b (av h.oG hb).2 (by have:=(av h.oG hb).1;omega) (fun c hc e=>(h.Fy c hc).2.2.2 (e ▸ hb)) (fun c hc e=>(h.Fz c hc).2.2.2 (e ▸ hb))
theorem AX.up (h:AX tb r o n W P N ov nv own oG) (k:Up W X):AX tb r o n X P N ov nv own oG:=h.gk (GK.F7 k)
theorem AX.cells (h:AX tb r o n W P N ov nv own oG):W.cell? ⟨r,0,none⟩=some (.int .i64 2)/\W.cell? ⟨o,0,none⟩=some ov/\W.cell? ⟨n,0,none⟩=some nv/\W.frozen? ⟨n,0,none⟩=false:=by
 refine ⟨?_,?_,?_,?_⟩<;>simp [World.cell?,World.frozen?,h.rb,h.ob,h.nb]
theorem AX.app {B0:Nat} {t:ax} {z:Int} (h:AX tb r o n W P N ov nv own oG) (hG:GS tb B0 W P N t) {w8:World} (ho:au (n+1) 3 w8 FA (oG.map (Value.int .i64)++[.int .i64 z])) (hg:W.grownBy w8 nv.ownBlock) (gH:∀b,FA.ownBlock=some b->nv.ownBlock=some b\/W.heap.size<=b) :
  (w8.cell? ⟨n,0,none⟩=some nv/\w8.frozen? ⟨n,0,none⟩=false)/\AX tb r o n (w8.setCell ⟨n,0,none⟩ FA) P N ov FA own (oG++[z])/\GS tb B0 (w8.setCell ⟨n,0,none⟩ FA) P N t/\(∀w0,Up w0 W->w0.heap.size<=tb->Up w0 (w8.setCell ⟨n,0,none⟩ FA)):=by
 obtain ⟨l1,l2,l3,l4⟩:=h.lt;have hnlt:∀b,nv.ownBlock=some b->n<b:=fun b hb=>(av h.oG hb).1;have h8:∀b,b<W.heap.size->nv.ownBlock≠some b->w8.heap[b]? = W.heap[b]?:=fun b hb hne=>hg.block b hb fun e=>hne e.symm;have hx:∀b,b<W.heap.size->b≠n->nv.ownBlock≠some b->(w8.setCell ⟨n,0,none⟩ FA).heap[b]? = W.heap[b]?:=fun b hb hn hne=>(blk_setCell_other _ _ _ _ hn).trans (h8 b hb hne);have hn8:w8.heap[n]? = some (Obj.cells #[nv] 26 (0,0)):=(h8 n l4 fun e=>by have:=hnlt n e;omega).trans h.nb;have hnx:(w8.setCell ⟨n,0,none⟩ FA).heap[n]? = some (Obj.cells #[FA] 26 (0,0)):=by simp [World.setCell,Array.getElem?_modify,hn8]
 have hsz:(w8.setCell ⟨n,0,none⟩ FA).heap.size=w8.heap.size:=nh _ _ _;have hle:=hg.size;have far:∀ {Q:Value},(∀b,Q.ownBlock=some b->b<W.heap.size)->(∀b,Q.ownBlock=some b->b≠r/\b≠o/\b≠n/\nv.ownBlock≠some b)->∀b,Q.ownBlock=some b->b≠r/\b≠o/\b≠n/\FA.ownBlock≠some b:=fun hq h2 b hb=>by
  obtain ⟨h3,h4,h5,h6⟩:=h2 b hb;refine ⟨h3,h4,h5,fun e=>?_⟩;rcases gH b e with h7 | h7
  ·exact h6 h7
  ·have:=hq b hb;omega
 have UH:∀b,P.ownBlock=some b->b<W.heap.size:=fun b hb=>(av hG.tl.cn hb).2;have UI:∀b,N.ownBlock=some b->b<W.heap.size:=fun b hb=>(av hG.tl.cD hb).2;refine ⟨⟨by simp [World.cell?,hn8],by simp [World.frozen?,hn8]⟩,⟨⟨l1,l2,l3,by omega⟩,far UH h.Fy,far UI h.Fz,?_,?_,hnx,?_,?_⟩,⟨?_,⟨?_,?_,hG.tl.apart⟩,hG.lo.1,by have:=hG.lo.2;omega⟩,fun w0 hu hw=>?_⟩
 ·rw [hx r (by omega) (by omega) fun e=>by have:=hnlt r e;omega];exact h.rb
 ·rw [hx o (by omega) (by omega) fun e=>by have:=hnlt o e;omega];exact h.ob
 ·refine ((h.rows.sub (T:=fun b=>(b≠tb/\b≠n/\some b≠P.ownBlock/\some b≠N.ownBlock/\some b≠nv.ownBlock)/\b<W.heap.size) fun b hb hl=>⟨hb,hl⟩).keep fun b hb hl=>hx b hl hb.1.2.1 fun e=>hb.1.2.2.2.2 e.symm).sub fun b hb _=>⟨hb.1.1,hb.1.2.1,hb.1.2.2.1,hb.1.2.2.2.1,fun e=>?_⟩
  rcases gH b e.symm with h7 | h7
  ·exact hb.1.2.2.2.2 h7.symm
  ·have:=hb.2;omega
 ·rw [cg]
  exact ho.kept fun b hb _=>blk_setCell_other _ _ _ _ (show b≠n by omega)
 ·rw [hx tb (by omega) (by omega) fun e=>by have:=hnlt tb e;omega];exact hG.box
 ·exact hG.tl.cn.eH fun b hb=>hx b (UH b hb) (h.Fy b hb).2.2.1 (h.Fy b hb).2.2.2
 ·exact hG.tl.cD.eH fun b hb=>hx b (UI b hb) (h.Fz b hb).2.2.1 (h.Fz b hb).2.2.2
 ·refine ⟨hg.os.trans hu.os,hg.tape.trans hu.tape,hg.output.trans hu.output,by have:=hu.size;omega,fun b hb=>?_⟩
  rw [hx b (by have:=hu.size;omega) (by omega) fun e=>by have:=hnlt b e;omega];exact hu.block b hb
end
theorem GK.UJ {tb:Nat} {w0 W X:World} {P N P' N':Value} {t:ax} {B0:Nat} (h:GK tb W X P N P' N') (hG:GS tb B0 W P N t) (hu:Up w0 W) (hw:w0.heap.size<=tb):Up w0 X :=
 ⟨h.os.trans hu.os,h.tape.trans hu.tape,h.output.trans hu.output,aB hu.size h.size,fun b hb=>by
  have h1:=hG.lo
  rw [h.block b (by omega) (by omega) (fun e=>by have:=(av hG.tl.cn e.symm).1;omega) (fun e=>by have:=(av hG.tl.cD e.symm).1;omega)]
  exact hu.block b hb⟩
theorem au.aiN {base:Nat} {e:TypeId} {w:World} {v:Value} {vs:List Value} (h:au base e w v vs):aq (fun b=>v.ownBlock=some b) w v vs.length (fun k=>vs.getD k undef):=by
 obtain ⟨q,c,hv,hn,h0 | ⟨b,off,hq,hS,hc⟩⟩:=h.uf
 ·exact ⟨q,c,hv,hn,.inl h0⟩
 ·subst hq;subst hv
  exact ⟨_,c,rfl,hn,.inr ⟨b,off,rfl,rfl,hc⟩⟩
theorem AX.start {tb r o B0 base:Nat} {w6 fZ:World} {P N ov v11:Value} {t:ax} {own:List (List Int)} {ps:List (List Int×Value)} (hG:GS tb B0 w6 P N t) (hr:r=w6.heap.size) (hb:r<base) (ho:r<o) (hu:Up w6 fZ) (hrb:fZ.heap[r]? = some (Obj.cells #[.int .i64 2] 3 (0,0))) (Jt:fZ.heap[o]? = some (Obj.cells #[ov] 23 (0,0)))
  (hR:sk base fZ v11 ps) (hm:ps.map (·.1)=own) (hS:∀p∈ps,af (fun b=>b<tb) fZ p.2 p.1) (hne:v11.ownBlock≠some o) :
  (fZ.cell? ⟨o,0,none⟩=some ov/\fZ.frozen? ⟨o,0,none⟩=false) /\
  AX tb r o fZ.heap.size ((fZ.setCell ⟨o,0,none⟩ v11).alloc (.cells #[.slice none 0 0] 26)) P N v11 (.slice none 0 0) own []/\Up w6 ((fZ.setCell ⟨o,0,none⟩ v11).alloc (.cells #[.slice none 0 0] 26)):=by
 have l6:=hu.size;have Uf:o<fZ.heap.size:=(fq.1 Jt).1;have hsz:(fZ.setCell ⟨o,0,none⟩ v11).heap.size=fZ.heap.size:=nh _ _ _;have hx:∀b,b<fZ.heap.size->b≠o->((fZ.setCell ⟨o,0,none⟩ v11).alloc (.cells #[.slice none 0 0] 26)).heap[b]? = fZ.heap[b]?:=fun b hb DT =>
  ((Up.alloc (fZ.setCell ⟨o,0,none⟩ v11) (.cells #[.slice none 0 0] 26)).block b (by rw [hsz];exact hb)).trans (blk_setCell_other _ _ _ _ DT)
 have UH:∀b,P.ownBlock=some b->tb<b/\b<w6.heap.size:=fun b hb=>by have:=av hG.tl.cn hb;have:=hG.lo;omega
 have UI:∀b,N.ownBlock=some b->tb<b/\b<w6.heap.size:=fun b hb=>by have:=av hG.tl.cD hb;have:=hG.lo;omega
 have hvl:∀b,v11.ownBlock=some b->base<=b/\b<fZ.heap.size:=fun b hb=>av hR.own hb;have hlo:=hG.lo;have ho8:(fZ.setCell ⟨o,0,none⟩ v11).heap[o]? = some (Obj.cells #[v11] 23 (0,0)):=by simp [World.setCell,Array.getElem?_modify,Jt]
 refine ⟨⟨by simp [World.cell?,Jt],by simp [World.frozen?,Jt]⟩,⟨⟨by omega,ho,Uf,by rw [aQ,hsz];omega⟩,fun b hb=>?_,fun b hb=>?_,?_,?_,?_,?_,au.nil _ _ _⟩,?_⟩
 ·have:=UH b hb;exact ⟨by omega,by omega,by omega,fun e=>by cases e⟩
 ·have:=UI b hb;exact ⟨by omega,by omega,by omega,fun e=>by cases e⟩
 ·rw [hx r (by omega) (by omega)];exact hrb
 ·exact ((Up.alloc _ _).block o (by rw [hsz];exact Uf)).trans ho8
 ·have h:=blk_alloc_new (fZ.setCell ⟨o,0,none⟩ v11) (.cells #[.slice none 0 0] 26)
  rw [hsz] at h;exact h
 ·subst hm
  refine ⟨fun k=>(ps.map (·.2)).getD k undef,?_,fun k hk=>?_⟩
  ·have h1:=hR.own.aiN
   rw [aD] at h1 ⊢;refine ((h1.sub (T:=fun b=>v11.ownBlock=some b/\b<fZ.heap.size) fun b hb hl=>⟨hb,hl⟩).keep fun b hb hl=>hx b hl fun e=>hne (e ▸ hb.1)).sub fun b hb _=>?_;obtain ⟨hb1,hb2⟩:=hb;have:=hvl b hb1;exact ⟨by omega,by omega,fun e=>by have:=UH b e.symm;omega,fun e=>by have:=UI b e.symm;omega,fun e=>by cases e⟩
  ·have hk':k<ps.length:=by simpa using hk
   have h2:=hS ps[k] (jy hk');(have e:gl (ps.map (·.1)) k=ps[k].1:=by simp [gl,hk']);(have e2:(ps.map (·.2)).getD k undef=ps[k].2:=by simp [hk']);rw [e];show af _ _ ((ps.map (·.2)).getD k undef) _;rw [e2];refine (h2.keep fun b hb hl=>hx b hl (by omega)).sub fun b hb _=>⟨by omega,by omega,fun e=>by have:=UH b e.symm;omega,fun e=>by have:=UI b e.symm;omega,fun e=>by cases e⟩
 ·refine Up.trans (b:=fZ.setCell ⟨o,0,none⟩ v11) ?_ (Up.alloc _ _)
  exact Below.setCell (p:=⟨o,0,none⟩) hu (show w6.heap.size<=o by omega) _
end
end Go.Proofs.YthgabkgmkolobaaGreat
namespace Go.Proofs
open Go.Shelf
def Tryz.bsI_ren:Go.Shelf.Ren:=⟨fun | 25=>194 | 31=>178 | 32=>246 | 37=>131 | n=>n,fun | 22=>26 | 3=>3 | 4=>4 | 40=>154 | 0=>0 | n=>n,fun | n=>n⟩
theorem Tryz.bsI:Go.Proofs.Lays2.n25 Tryz.prog Tryz.bsI_ren:={
 mixed:=by kernel_rfl
 f25:=Tryz.func194.trans (congrArg some (by kernel_rfl))
 f31:=Tryz.func178.trans (congrArg some (by kernel_rfl))
 f32:=Tryz.func246.trans (congrArg some (by kernel_rfl))
 f37:=Tryz.func131.trans (congrArg some (by kernel_rfl))
 t0:=Tryz.underlying0
 a0:=Tryz.isAgg0
 z0:=Tryz.sizeOf0
 v0:=Tryz.zeroValue0
 t3:=Tryz.underlying3
 a3:=Tryz.isAgg3
 z3:=Tryz.sizeOf3
 v3:=Tryz.zeroValue3
 t4:=Tryz.underlying4
 a4:=Tryz.isAgg4
 z4:=Tryz.sizeOf4
 v4:=Tryz.zeroValue4
 t22:=Tryz.underlying26
 a22:=Tryz.isAgg26
 z22:=Tryz.sizeOf26
 v22:=Tryz.zeroValue26
 t40:=Tryz.underlying154
 a40:=Tryz.isAgg154
 z40:=Tryz.sizeOf154
 v40:=Tryz.zeroValue154 }
end Go.Proofs
namespace Go.Proofs.YthgabkgmkolobaaGreat
open Go.RowKit Go.Deep
theorem yg (S:Nat->Prop) (w:World) (v:Value) (l:List Int) (h:af S w v l) (hn:l.length<=1000000) :
  Calls Tryz.prog 118 #[v] w fun e w'=>e=.returned (.int .i64 (gM l))/\w=w':=by
 have HF:Hid (gM l=bf (k9 l) l.length):=rfl;have HB:Hid (∀i,k9 l i=if gi l i<0\/63<gi l i then 2 else if 0<i/\gi l i<=gi l (i - 1) then 10 else 0):=fun _=>rfl;obtain ⟨p,cap,rfl,-,-⟩:=aq.open h;have H:Hid (af S w (.slice p l.length cap) l):=h;clear h;go_in;go_wp2
 go_loop [3,4,7] (fun _ _ i=>∃k:Nat,k<=l.length/\i=.int .i64 k/\Hid (∀j,j<k->k9 l j=0)) (fun _ _ i=>l.length - (intOf i).toNat)
 case atStart=>exact ⟨0,aF _,rfl,fun j hj=>absurd hj (aZ _)⟩
 case round =>
  obtain ⟨k,hk,rfl,hd⟩:=hrel;by_cases hlt:k<l.length
  ·obtain ⟨b,off,rfl,hc⟩:=bU H.out hlt
   have HK:=aa (HB.out k);(have HP:Hid (0<k->w.cell? ⟨b,off+(k - 1),none⟩=some (.int .i64 (gi l (k - 1)))):=fun h0=>by obtain ⟨b2,off2,e,hc2⟩:=bU H.out (k:=k - 1) (by omega);cases e;exact hc2);generalize gi l k=x at *;generalize gi l (k - 1)=y at *;by_cases h1:x<0
   ·go_wp2
    go_ret;(have hr:k9 l k=2:=by rw [HK.out,if_pos (.inl h1)]);exact ⟨aC (by rw [HF.out,eX hlt hd.out (by rw [hr];decide),hr]),rfl⟩
   by_cases h2:63<x
   ·go_wp2
    go_ret;(have hr:k9 l k=2:=by rw [HK.out,if_pos (.inr h2)]);exact ⟨aC (by rw [HF.out,eX hlt hd.out (by rw [hr];decide),hr]),rfl⟩
   (have HX:Hid (¬(x<0\/63<x)):=by unfold Hid;omega);by_cases h0:k=0
   ·subst h0
    rw [mZ] at hc;go_wp2
    go_round
    case rel=>exact ⟨1,by omega,by go_num,fun j hj=>by
     have:j=0:=by omega
     subst this;rw [HK.out,if_neg HX.out,if_neg (by omega)]⟩
    case measure=>simp [intOf];omega
   ·have qw:=HP.out (by omega)
    (have i1:(0:Int)<=(k:Int) - 1:=by omega);(have i2:(k:Int) - 1<(l.length:Int):=by omega);(have i3:((k:Int) - 1).toNat=k - 1:=by omega);(have i4:wrap64 ((k:Int) - 1)=(k:Int) - 1:=by unfold wrap64;omega);(have i5:(0:Int)<(k:Int):=by omega);(have i6:0<k:=by omega);by_cases h3:x<=y
    ·go_wp2
     go_ret;(have hr:k9 l k=10:=by rw [HK.out,if_neg HX.out,if_pos ⟨by omega,h3⟩]);exact ⟨aC (by rw [HF.out,eX hlt hd.out (by rw [hr];decide),hr]),rfl⟩
    ·have HY:=aa h3
     go_wp2
     go_round
     case rel=>exact ⟨k+1,by omega,by clear i4;go_num,fun j hj=>by
      by_cases e:j=k
      ·subst e;rw [HK.out,if_neg HX.out,if_neg (fun q=>HY.out q.2)]
      ·exact hd.out j (by omega)⟩
     case measure=>clear i4;simp [intOf];omega
  ·obtain rfl:k=l.length:=by omega
   clear hlt;go_wp2;go_ret;exact ⟨aC (by rw [HF.out,cG hd.out]),rfl⟩
theorem Rs (S:Nat->Prop) (w:World) (b:Nat) (v:Value) (l:List Int) (k:Int) (hb:w.cell? ⟨b,0,none⟩=some v) (h:af S w v l) (hn:l.length<=1000000) (ha:l.Pairwise (· < ·)) :
  Calls Tryz.prog 193 #[.int .i64 k,.pointer (some ⟨b,0,none⟩)] w fun e w'=>e=.returned (.bool (l.contains k))/\∃q,w'=w.drewN q:=by
 have HB:Hid (Calls Tryz.prog 194 #[v,.int .i64 k] w fun e w'=>(∃c:Int,e=.returned (.tuple #[.int .i64 c,.bool (l.contains k)]))/\∃q,w'=w.drewN q):=by
  obtain ⟨p,cap,rfl,hcap,hc⟩:=aq.open h;by_cases h0:l=[]
  ·subst h0
   refine (Any.slices_BinarySearch_int_empty Tryz.bsI p cap k w).mono ?_;rintro e w' ⟨rfl,rfl⟩;exact ⟨⟨_,rfl⟩,0,rfl⟩
  ·have hl:0<l.length:=z7.2 h0
   obtain ⟨g,off,rfl,_⟩:=hc 0 hl;refine (Any.slices_BinarySearch_int Tryz.bsI g off l.length cap l k w (ah _) (by omega) (fun j hj=>?_) (by rw [fT];exact ha.imp fun h=>Int.le_of_lt h)).mono ?_
   ·obtain ⟨g',off',e,hc'⟩:=hc j hj
    cases e;exact hc'
   ·rintro e w' ⟨rfl,q,rfl⟩
    rw [fT];exact ⟨⟨_,rfl⟩,q,rfl⟩
 obtain ⟨p,cap,rfl,-,-⟩:=aq.open h;clear h ha;go_in;go_wp2_with fail;refine HB.out.mono ?_;rintro e w' ⟨⟨c,rfl⟩,q,rfl⟩;go_wp2;go_ret;exact ⟨aO (by simp),q,rfl⟩
theorem Oy (w:World) (p:Option Addr) (n c:Nat):Calls Tryz.prog 134 #[.slice p n c] w fun e w'=>e=.returned (.func (.func 193) #[] #[.pointer (some ⟨w.heap.size,0,none⟩)])/\w'=w.alloc (.cells #[.slice p n c] 26):=by
 go_in;go_wp2;go_ret;exact ⟨rfl,rfl⟩
theorem DA (S:Nat->Prop) (w:World) (v:Value) (n:Int) (l:List Int) (h:af S w v l) (hn:l.length<=1000000) :
  Calls Tryz.prog 65 #[.int .i64 n,v] w fun e w'=>e=.returned (.int .i64 (aV n l))/\w=w':=by
 have HF:Hid (aV n l=if n<1\/32<n then 2 else if gM l≠0 then gM l else if 0<l.length/\(gi l 0=0\/n<=gi l (l.length - 1)) then 2 else if (l.length:Int)<2\/n - 2<l.length then 8 else 0):=rfl;have HC:=aa (yg S w v l h hn);obtain ⟨p,cap,rfl,-,-⟩:=aq.open h;have H:Hid (af S w (.slice p l.length cap) l):=h;clear h;by_cases h1:n<1
 ·go_in
  go_wp2;go_ret;exact ⟨aC (by rw [HF.out,if_pos (.inl h1)]),rfl⟩
 by_cases h2:32<n
 ·go_in
  go_wp2;go_ret;exact ⟨aC (by rw [HF.out,if_pos (.inr h2)]),rfl⟩
 have HN:Hid (¬(n<1\/32<n)):=by unfold Hid;omega
 generalize UK:gM l=se at *;by_cases h3:se=0
 ·have nI:Hid (¬se≠0):=fun e=>e h3
  subst h3;have hm2:wrap64 (n - 2)=n - 2:=by unfold wrap64;omega
  by_cases h0:l.length=0
  ·have Jl:((l.length:Int)<2):=by omega
   (have h01:¬(0:Int)<(l.length:Int):=by omega);(have h02:¬0<l.length:=by omega);clear h0;go_in;go_wp2_with fail;refine HC.out.mono ?_;rintro e w' ⟨rfl,rfl⟩;go_wp2;go_ret;exact ⟨aC (by rw [HF.out,if_neg HN.out,if_neg nI.out,if_neg (by omega),if_pos (.inl Jl)]),rfl⟩
  ·obtain ⟨b,off,rfl,hc⟩:=bU H.out (show 0<l.length by omega)
   obtain ⟨b2,off2,e2,hd⟩:=bU H.out (show l.length - 1<l.length by omega);cases e2;rw [mZ] at hc;(have i0:0<l.length:=by omega);(have i00:(0:Int)<(l.length:Int):=by omega);(have i1:(0:Int)<=(l.length:Int) - 1:=by omega);(have i2:(l.length:Int) - 1<(l.length:Int):=by omega);(have i3:((l.length:Int) - 1).toNat=l.length - 1:=by omega);(have i4:wrap64 ((l.length:Int) - 1)=(l.length:Int) - 1:=by unfold wrap64;omega);generalize gi l 0=x at *;generalize gi l (l.length - 1)=y at *;by_cases h4:x=0
   ·subst h4
    go_in;go_wp2_with fail;refine HC.out.mono ?_;rintro e w' ⟨rfl,rfl⟩;go_wp2;go_ret;exact ⟨aC (by rw [HF.out,if_neg HN.out,if_neg nI.out,if_pos ⟨i0,.inl (by simp)⟩]),rfl⟩
   (have h4b:(x==0)=false:=by simpa using h4);by_cases h5:n<=y
   ·go_in
    go_wp2_with fail;refine HC.out.mono ?_;rintro e w' ⟨rfl,rfl⟩;go_wp2;go_ret;exact ⟨aC (by rw [HF.out,if_neg HN.out,if_neg nI.out,if_pos ⟨i0,.inr h5⟩]),rfl⟩
   have HQ:Hid (¬(0<l.length/\(x=0\/n<=y))):=fun e=>by
    rcases e.2 with e | e
    ·exact h4 e
    ·exact h5 e
   by_cases h6:(l.length:Int)<2
   ·go_in
    go_wp2_with fail;refine HC.out.mono ?_;rintro e w' ⟨rfl,rfl⟩;go_wp2;go_ret;exact ⟨aC (by rw [HF.out,if_neg HN.out,if_neg nI.out,if_neg HQ.out,if_pos (.inl h6)]),rfl⟩
   by_cases h7:n - 2<(l.length:Int)
   ·go_in
    go_wp2_with fail;refine HC.out.mono ?_;rintro e w' ⟨rfl,rfl⟩;go_wp2;go_ret;exact ⟨aC (by rw [HF.out,if_neg HN.out,if_neg nI.out,if_neg HQ.out,if_pos (.inr h7)]),rfl⟩
   ·go_in
    go_wp2_with fail;refine HC.out.mono ?_;rintro e w' ⟨rfl,rfl⟩;go_wp2;go_ret;exact ⟨aC (by rw [HF.out,if_neg HN.out,if_neg nI.out,if_neg HQ.out,if_neg (by omega)]),rfl⟩
 ·have uS:(se==0)=false:=by simpa using h3
  have hsc:(se != 0)=true:=by simpa using h3
  go_in;go_wp2_with fail;refine HC.out.mono ?_;rintro e w' ⟨rfl,rfl⟩;go_wp2;go_ret;exact ⟨aC (by rw [HF.out,if_neg HN.out,if_pos h3]),rfl⟩
end Go.Proofs.YthgabkgmkolobaaGreat
