/- Reference 34: Great, GreatTrees. Reference 34: rooted, the texts of all rooted binary .. -/
import Derived.Test.YthgabkgmkolobaaGreatQ44
set_option maxRecDepth 100000
namespace Go.Proofs.YthgabkgmkolobaaGreat
section
open Go.RowKit Go.Deep
def NF (names:List ByteArray):Bool:=(List.range names.length).any fun i=>decide (20<(gs names i).size)
def lM (n:Nat):Bool:=(decide (6<n)&&decide (n≤4096)) || decide (4098<n)
def NG (states:List (List Int)):Bool:=(List.range states.length).any fun i=>lM (gl states i).length
def yf (n m:Nat):Bool:=(decide (5<n)&&decide (n≤7)) || decide (10<n) || decide (10<m)
def kI (names:List ByteArray) (states:List (List Int)):Bool:=NF names || NG states || yf names.length states.length
structure Qy (names:List ByteArray) (states:List (List Int)):Prop where
 nm:∀k,(gs names k).size≤20
 row:∀k,(gl states k).length≤6∨(4096<(gl states k).length∧(gl states k).length≤4098)
 n5:names.length≤5∨(7<names.length∧names.length≤10)
 m10:states.length≤10
theorem Tq {names:List ByteArray} {states:List (List Int)} (h:kI names states=false):Qy names states:=by
 unfold kI at h;rw [Bool.or_eq_false_iff,Bool.or_eq_false_iff] at h;obtain ⟨⟨h1,h2⟩,h3⟩:=h;refine ⟨fun k=>?_,fun k=>?_,?_,?_⟩
 ·by_cases hk:k<names.length
  ·have:=of_decide_eq_false (any_false h1 hk)
   omega
  ·have:gs names k=ByteArray.empty:=by simp [gs,hk]
   rw [this];exact Nat.zero_le _
 ·by_cases hk:k<states.length
  ·have:=any_false h2 hk
   unfold lM at this;simp at this;omega
  ·have:gl states k=[]:=by simp [gl,hk]
   rw [this];exact .inl (Nat.zero_le _)
 ·unfold yf at h3
  simp at h3;omega
 ·unfold yf at h3
  simp at h3;omega
theorem Qy.le10 {names:List ByteArray} {states:List (List Int)} (h:Qy names states):names.length≤10∧(∀k,(gl states k).length≤4098)∧(names.length≤5∨7<names.length):=by
 have h1:=h.n5;refine ⟨by omega,fun k=>?_,by omega⟩;have:=h.row k;omega
set_option maxHeartbeats 2000000 in
theorem NH (S T:Nat→Prop) (w:World) (v vs:Value) (names:List ByteArray) (states:List (List Int)) (h:ah S w v names) (hS:aQ T w vs states) (hn:names.length≤9223372036854775807) (hz:∀k,(gs names k).size≤9223372036854775807) (hm:states.length≤9223372036854775807) (hr:∀k,(gl states k).length≤9223372036854775807) :
  Calls Tryz.prog 59 #[v,vs] w fun e w'=>e=.returned (.bool (kI names states))∧w=w':=by
 obtain ⟨p,cap,rfl,hcap,-⟩:=aC.open h;have h:ah S w (.slice p names.length cap) names:=h;obtain ⟨sp,sc,rfl,-,-⟩:=bS hS;have HG:Hid (kI names states=(NF names || NG states || yf names.length states.length)):=rfl;have WK:Hid (NF names=(List.range names.length).any fun i=>decide (20<(gs names i).size)):=rfl;have Fw:Hid (NG states=(List.range states.length).any fun i=>lM (gl states i).length):=rfl;have HN:=aa h;have HS:=aa hS;have HZ:=aa hz;have HR:=aa hr;clear h hS hz hr
 go_enter Tryz.func59,Tryz.ntmps59
 go_wp2_with fail
 go_loop [5] (fun i=>∃k:Nat,k≤names.length∧i=.int .i64 k∧Hid (∀j,j<k→decide (20<(gs names j).size)=false)) (fun i=>names.length - (intOf i).toNat)
 case atStart=>exact ⟨0,Nat.zero_le _,rfl,fun j hj=>absurd hj (Nat.not_lt_zero _)⟩
 case round =>
  obtain ⟨k,hk,rfl,hd⟩:=hrel;by_cases hlt:k<names.length
  ·obtain ⟨b,off,rfl,hc⟩:=bI HN.out hlt
   (have nC:Hid (20<(gs names k).size→NF names=true):=fun h1=>by rw [WK.out];exact ij hlt (decide_eq_true h1));(have HX:Hid (¬20<(gs names k).size→∀j,j<k+1→decide (20<(gs names j).size)=false):=fun h1 j hj=>if e:j=k then by subst e;exact decide_eq_false h1 else hd.out j (by omega));have hsz:=HZ.out k;generalize gs names k=nm at *;by_cases ZG:20<nm.size
   ·have HF:Hid (kI names states=true):=by unfold Hid;rw [HG.out,nC.out ZG];rfl
    go_wp2_with fail;go_ret;exact ⟨aR HF.out.symm,rfl⟩
   ·have tL:=aa (HX.out ZG)
    go_wp2_with fail
    go_round
    case rel=>exact ⟨k+1,by omega,by go_num,tL.out⟩
    case measure=>simp [intOf];omega
  ·obtain rfl:k=names.length:=by omega
   (have ZH:Hid (NF names=false):=by unfold Hid;rw [WK.out];exact any_none hd.out);clear hd hlt hk;go_wp2_with fail
   go_loop [6,7] (fun i _=>∃k:Nat,k≤states.length∧i=.int .i64 k∧Hid (∀j,j<k→lM (gl states j).length=false)) (fun i _=>states.length - (intOf i).toNat)
   case atStart=>exact ⟨0,Nat.zero_le _,rfl,fun j hj=>absurd hj (Nat.not_lt_zero _)⟩
   case round =>
    obtain ⟨k,hk,rfl,hd⟩:=hrel;by_cases hlt:k<states.length
    ·obtain ⟨b,off,r0,r1,rfl,hc,-⟩:=eM HS.out hlt
     (have nC:Hid (lM (gl states k).length=true→NG states=true):=fun h1=>by rw [Fw.out];exact ij hlt h1);(have HX:Hid (lM (gl states k).length=false→∀j,j<k+1→lM (gl states j).length=false):=fun h1 j hj=>if e:j=k then by subst e;exact h1 else hd.out j (by omega));have hsz:=HR.out k;have Jc:Hid (lM (gl states k).length=((decide (6<(gl states k).length)&&decide ((gl states k).length≤4096)) || decide (4098<(gl states k).length))):=rfl;generalize (gl states k).length=m at *
     (have key:(6<m∧m≤4096∧lM m=true)∨(6<m∧4096<m∧4098<m∧lM m=true)∨(6<m∧4096<m∧m≤4098∧lM m=false)∨(m≤6∧lM m=false):=by rw [Jc.out];by_cases q1:6<m<;>by_cases q2:m≤4096<;>by_cases q3:4098<m<;>simp [q1,q2,q3]<;>omega);rcases key with ⟨q1,q2,q⟩ | ⟨q1,q2,q3,q⟩ | ⟨q1,q2,q3,q⟩ | ⟨q1,q⟩
     ·have HF:Hid (kI names states=true):=by unfold Hid;rw [HG.out,nC.out q];simp
      (have d1:decide (6<(m:Int))=true:=by simp;omega);(have d2:decide ((m:Int)≤4096)=true:=by simp;omega);clear nC HX Jc q;go_wp2_with fail
      all_goals (go_ret;exact ⟨aR HF.out.symm,rfl⟩)
     ·have HF:Hid (kI names states=true):=by unfold Hid;rw [HG.out,nC.out q];simp
      (have d1:decide (6<(m:Int))=true:=by simp;omega);(have d2:decide ((m:Int)≤4096)=false:=by simp;omega);(have d3:decide (4098<(m:Int))=true:=by simp;omega);clear nC HX Jc q;go_wp2_with fail
      all_goals (go_ret;exact ⟨aR HF.out.symm,rfl⟩)
     ·have tL:=aa (HX.out q)
      (have d1:decide (6<(m:Int))=true:=by simp;omega);(have d2:decide ((m:Int)≤4096)=false:=by simp;omega);(have d3:decide (4098<(m:Int))=false:=by simp;omega);clear nC HX Jc q;go_wp2_with fail
      go_round
      case rel=>exact ⟨k+1,by omega,by go_num,tL.out⟩
      case measure=>simp [intOf];omega
     ·have tL:=aa (HX.out q)
      (have d1:decide (6<(m:Int))=false:=by simp;omega);(have d3:decide (4098<(m:Int))=false:=by simp;omega);clear nC HX Jc q;go_wp2_with fail
      go_round
      case rel=>exact ⟨k+1,by omega,by go_num,tL.out⟩
      case measure=>simp [intOf];omega
    ·obtain rfl:k=states.length:=by omega
     (have vQ:Hid (NG states=false):=by unfold Hid;rw [Fw.out];exact any_none hd.out);(have HF:Hid (kI names states=yf names.length states.length):=by unfold Hid;rw [HG.out,ZH.out,vQ.out];simp);have HT:Hid (yf names.length states.length=((decide (5<names.length)&&decide (names.length≤7)) || decide (10<names.length) || decide (10<states.length))):=rfl;clear hd hlt hk HG WK Fw ZH vQ HN HS HZ HR;generalize names.length=n at *;generalize states.length=m at *;by_cases q1:5<n
     ·by_cases q2:n≤7
      ·have HB:Hid (kI names states=true):=by unfold Hid;rw [HF.out,HT.out];simp [q1,q2]
       go_wp2_with fail
       all_goals (go_ret;refine ⟨aR ?_,rfl⟩;first | (rw [HB.out];done) | (rw [HB.out];simp;done) | (rw [HB.out];simp;omega))
      ·by_cases q3:10<n
       ·have HB:Hid (kI names states=true):=by unfold Hid;rw [HF.out,HT.out];simp [q3]
        go_wp2_with fail
        all_goals (go_ret;refine ⟨aR ?_,rfl⟩;first | (rw [HB.out];done) | (rw [HB.out];simp;done) | (rw [HB.out];simp;omega))
       ·by_cases q4:10<m
        ·have HB:Hid (kI names states=true):=by unfold Hid;rw [HF.out,HT.out];simp [q4]
         go_wp2_with fail
         all_goals (go_ret;refine ⟨aR ?_,rfl⟩;first | (rw [HB.out];done) | (rw [HB.out];simp;done) | (rw [HB.out];simp;omega))
        ·have HB:Hid (kI names states=false):=by unfold Hid;rw [HF.out,HT.out];simp [q2,q3,q4]
         go_wp2_with fail
         all_goals (go_ret;refine ⟨aR ?_,rfl⟩;first | (rw [HB.out];done) | (rw [HB.out];simp;done) | (rw [HB.out];simp;omega))
     ·have q3:¬10<n:=by omega
      by_cases q4:10<m
      ·have HB:Hid (kI names states=true):=by unfold Hid;rw [HF.out,HT.out];simp [q4]
       go_wp2_with fail
       all_goals (go_ret;refine ⟨aR ?_,rfl⟩;first | (rw [HB.out];done) | (rw [HB.out];simp;done) | (rw [HB.out];simp;omega))
      ·have HB:Hid (kI names states=false):=by unfold Hid;rw [HF.out,HT.out];simp [q1,q3,q4]
       go_wp2_with fail
       all_goals (go_ret;refine ⟨aR ?_,rfl⟩;first | (rw [HB.out];done) | (rw [HB.out];simp;done) | (rw [HB.out];simp;omega))
end
section
open Go.RowKit Go.Deep
theorem aF.Sa (w:World) (e:TypeId) (u:Value):aF w.heap.size e (w.alloc (.cells #[u] e)) (.slice (some ⟨w.heap.size,0,none⟩) 1 1) [u]:=Gf w _ e u (Nat.le_refl _)
theorem NI (w:World) (x:ByteArray):Dup w.heap.size ((w.alloc (.cells #[.string x] 9)).alloc (.cells #[] 9)) (.slice (some ⟨w.heap.size,0,none⟩) 1 1) (.slice (some ⟨w.heap.size+1,0,none⟩) 0 0) [x] []:=by
 have h1:=aF.Sa w 9 (.string x);have h2:=aF.made (w.alloc (.cells #[.string x] 9)) 9;have hs:(w.alloc (.cells #[.string x] 9)).heap.size=w.heap.size+1:=World.size_alloc _ _;rw [hs] at h2;refine ⟨h1.fM fun b hb=>Below.block (Up.alloc _ _) b (aI h1 hb).2,⟨by have:=h2.1;omega,?_⟩,fun b hb hb2=>?_⟩
 ·rcases h2.2 with h | ⟨g,c,cur,e,hg,h⟩
  ·exact .inl h
  ·exact .inr ⟨g,c,cur,e,by omega,h⟩
 ·injection hb with hb
  injection hb2 with hb2;have hb:w.heap.size=b:=hb;have hb2:w.heap.size+1=b:=hb2;omega
def ua (w:World) (names:List ByteArray) (e:Ending) (w':World):Prop:=Up w w'∧∃v,e=.returned v∧aF w.heap.size 9 w' v ((bA names).map Value.string)
def WL (w:World) (names:List ByteArray) (n:Nat) (out:Value) (wr:World):Prop:=Up w wr∧aF w.heap.size 9 wr out ((oU names n).map Value.string)
theorem Tr {n:Nat} (h:n≤4) (h1:1≤n):2 ^ (n - 1)≤8∧1≤2 ^ (n - 1):=by
 have:2 ^ (n - 1)≤2 ^ 3:=Nat.pow_le_pow_right (by decide) (by omega);exact ⟨by omega,Nat.one_le_two_pow⟩
set_option maxHeartbeats 8000000 in
theorem Ia:∀(d:Nat) (names:List ByteArray),names.length≤d→1≤names.length→names.length≤4→(∀x∈names,x.size≤20)→∀(S:Nat→Prop) (w:World) (v:Value),ah S w v names→Calls Tryz.prog 145 #[v] w (ua w names):=by
 intro d
 induction d with
 | zero=>intro names h1 h2;omega
 | succ d ih =>
 intro names hd h1 h4 hz S w v h;obtain ⟨mp,mc,rfl,Ut,-⟩:=aC.open h;have h:ah S w (.slice mp names.length mc) names:=h;obtain ⟨nb,no,rfl,hc0⟩:=bI h (k:=0) (by omega);rw [Nat.add_zero] at hc0;by_cases hone:names.length=1
 ·have d1:((names.length:Int)==1)=true:=by rw [hone];rfl
  have hrt:bA names=[gs names 0]:=by obtain ⟨x,rfl⟩:=List.length_eq_one_iff.1 hone;exact Th x
  have HX:Hid (ua w names (.returned (.slice (some ⟨w.heap.size,0,none⟩) 1 1)) (w.alloc (.cells #[.string (gs names 0)] 9))):=⟨Up.alloc _ _,_,rfl,by rw [hrt];exact aF.Sa _ _ _⟩;have i1:(0:Int)<(names.length:Int):=by omega
  clear h hrt ih hz hd h4
  go_enter Tryz.func145,Tryz.ntmps145
  go_wp2_with fail;go_ret;exact HX.out
 have d1:((names.length:Int)==1)=false:=beq_eq_false_iff_ne.2 (by omega);have h2:2≤names.length:=by omega
 have jk:=aa ih;have HH:=aa h;have HZ:=aa hz;have HD:=aa hd;have eN:=aa hc0;obtain ⟨M,hM⟩:∃M:Nat,M=2 ^ (names.length - 1):=⟨_,rfl⟩;have Na:=Tr h4 h1;rw [← hM] at Na;have HM:=aa hM;have NJ:=aa Na;have hWS:wrap64 ((names.length:Int) - 1)=((names.length - 1:Nat):Int):=by unfold wrap64;omega
 have VT:Hid (WL w names 0 (.slice (some ⟨w.heap.size,0,none⟩) 0 0) (w.alloc (.cells #[] 9))):=⟨Up.alloc _ _,by unfold oU;exact aF.made _ _⟩;have vT:=aa h4;have i0:(0:Int)<(names.length:Int):=by omega
 clear ih h hz hd h1 hone hc0 hM Na
 go_enter Tryz.func145,Tryz.ntmps145
 go_wp2_with fail
 go_loopw [3,4,5,6,7,8,9,10,11] (fun out i _ _ _ _ _ _ _ wr=>∃n:Nat,n≤M - 1∧i=.int .i64 n∧Hid (WL w names n out wr)) (fun _ i _ _ _ _ _ _ _ _=>M - 1 - (intOf i).toNat)
 case atStart=>exact ⟨0,Nat.zero_le _,rfl,VT.out⟩
 case round =>
  obtain ⟨n,hn,rfl,hI⟩:=hrel;obtain ⟨wo,rfl⟩:∃wo:World,wo=wr:=⟨_,rfl⟩;obtain ⟨fR,Sb⟩:=hI.out;have RY:wrap64 ((2:Int) ^ (names.length - 1))=(M:Int):=by (have:((2:Int) ^ (names.length - 1))=(M:Int):=by rw [HM.out];simp);rw [this];unfold wrap64;have:=NJ.out;omega
  have hWN:wrap64 ((M:Int) - 1)=((M - 1:Nat):Int):=by unfold wrap64;have:=NJ.out;omega
  have j0:(0:Int)≤(n:Int):=by omega
  by_cases hlt:n<M - 1
  ·have i1:(n:Int)<((M - 1:Nat):Int):=by omega
   (have i2:(n:Int)<8:=by have:=NJ.out;omega);have hc0:=fR.cell eN.out;(have hlt2:n<2 ^ (names.length - 1) - 1:=by rw [← HM.out];exact hlt);obtain ⟨l1,l2,l3,l4⟩:=e_len h2 hlt2;obtain ⟨m1,m2⟩:=XS (L:=names) (by omega) hlt2;have Gs:∀x∈eA names n,x.size≤20:=fun x hx=>HZ.out x (m1 x hx);have hzb:∀x∈eB names n,x.size≤20:=fun x hx=>HZ.out x (m2 x hx);have tR:Hid (∀S W v,ah S W v (eA names n)→Calls Tryz.prog 145 #[v] W (ua W (eA names n))):=fun S W v hv=>jk.out (eA names n) (by have:=HD.out;omega) l2 (by have:=vT.out;omega) Gs S W v hv
   have cZ:Hid (∀S W v,ah S W v (eB names n)→Calls Tryz.prog 145 #[v] W (ua W (eB names n))):=fun S W v hv=>jk.out (eB names n) (by have:=HD.out;omega) l4 (by have:=vT.out;omega) hzb S W v hv;have xA:Hid ((bA (eA names n)).length≤15∧∀k,(gs (bA (eA names n)) k).size≤100):=⟨nY (by have:=vT.out;omega),jd fun x hx=>zM (by have:=vT.out;omega) Gs hx⟩;have vk:Hid ((bA (eB names n)).length≤15∧∀k,(gs (bA (eB names n)) k).size≤100):=⟨nY (by have:=vT.out;omega),jd fun x hx=>zM (by have:=vT.out;omega) hzb hx⟩
   have ZI:Hid ((eA names n).length≤4∧(eB names n).length≤4):=⟨by have:=vT.out;omega,by have:=vT.out;omega⟩;(have Wp:Hid ((oU names n).length≤8*225):=by have h5:=Tj h2 vT.out (n:=n) (by omega);have:=NJ.out.1;exact Nat.le_trans h5 (Nat.mul_le_mul_right _ (by omega)));have EO:=aa (NI wo (gs names 0));have bH:=aa ((Up.alloc wo (.cells #[.string (gs names 0)] 9)).trans (Up.alloc _ (.cells #[] 9)));have sj:=aa fR;have WM:=aa Sb;have aW:=aa hlt;clear hlt hlt2 l1 l2 l3 l4 m1 m2 Gs hzb hI fR Sb;go_wp2_with fail
   generalize (wo.alloc (.cells #[.string (gs names 0)] 9)).alloc (.cells #[] 9)=w1 at *;clear hWS RY hWN
   go_loopw [5,6,7] (fun a b i wr=>∃m:Nat,m≤names.length - 1∧i=.int .i64 ((m:Int)+1)∧Hid (Dup wo.heap.size wr a b (xP names n m) (xQ names n m))∧Hid (Up wo wr)) (fun _ _ i _=>names.length - (intOf i).toNat)
   case atStart=>exact ⟨0,Nat.zero_le _,rfl,EO.out,bH.out⟩
   case round =>
    obtain ⟨m,hm,rfl,hD,hU⟩:=hrel;obtain ⟨wi,rfl⟩:∃wi:World,wi=wr:=⟨_,rfl⟩;(have k0:(0:Int)≤(m:Int):=by omega);(have kw:wrap64 ((m:Int)+1 - 1)=(m:Int):=by unfold wrap64;have:=vT.out;omega);by_cases hlm:m<names.length - 1
    ·have hcm:=(sj.out.trans hU.out).cell (aC.X9 HH.out (show m+1<names.length by omega))
     (have k1:(m:Int)+1<(names.length:Int):=by omega);(have k2:(m:Int)<4:=by have:=vT.out;omega);(have tP:bits BinOp.and IntKind.i64 ((n:Int) / 2 ^ m) 1=if n.testBit m then 1 else 0:=by (have e:(n:Int) / 2 ^ m=((n / 2 ^ m:Nat):Int):=by simp);have:n / 2 ^ m≤n:=Nat.div_le_self _ _;rw [e,Gi _ (by have:=NJ.out;have:=aW.out;omega),Jl]);obtain ⟨e1,e2⟩:=Qt names n m (by omega);have iN:=aa e1;have bU:=aa e2;have Gt:=aa hlm
     (have eO:Hid (((xP names n m).map Value.string).length≤1000000∧((xQ names n m).map Value.string).length≤1000000):=by have a1:=lZ (fun i=>n.testBit i) names.tail m;have a2:=lZ (fun i=>!n.testBit i) names.tail m;have:=vT.out;unfold Hid xP xQ;rw [List.length_map,List.length_map,List.length_cons];omega);have cz:Hid (wo.heap.size≤wi.heap.size):=hU.out.size;obtain ⟨ap,ac,rfl,-⟩:=hD.out.ao.form rfl;obtain ⟨bp,bc,rfl,-⟩:=hD.out.bo.form rfl;have yU:=aa hD.out;have vB:=aa hU.out;clear hD hU hlm e1 e2;cases hb:n.testBit m
     ·rw [hb] at tP iN bU
      have tP:bits BinOp.and IntKind.i64 ((n:Int) / 2 ^ m) 1=0:=tP;(have Qz:Hid (xP names n (m+1)=xP names n m):=by unfold Hid;rw [iN.out];simp);(have QA:Hid (xQ names n (m+1)=xQ names n m++[gs names (m+1)]):=by unfold Hid;rw [bU.out];simp);clear hb iN bU
      go_wp2_with (at_builtin;refine iF wi rfl _ _ 22 rfl wo.heap.size 9 (.string ⟨#[]⟩) 16 Tryz.underlying22 Tryz.iE rfl (by decide) yU.out.bo rfl (.string (gs names (m+1))) rfl rfl _ rfl eO.out.2 cz.out ?_;intro g8 gZ w8 bJ cD fS;have Gk:=aa (yU.out.Wl bJ cD fS);have mg:=aa (yU.out.bo.dh cD cz.out);clear bJ cD fS)
      go_roundw
      case rel=>exact ⟨m+1,Gt.out,by go_num,by rw [Qz.out,QA.out];have q:=Gk.out;simp only [List.length_map] at q ⊢;exact q,Below.trans (show Below wo.heap.size wo wi from vB.out) mg.out⟩
      case measure=>have:=Gt.out;simp [intOf];omega
     ·rw [hb] at tP iN bU
      have tP:bits BinOp.and IntKind.i64 ((n:Int) / 2 ^ m) 1=1:=tP;(have Qz:Hid (xP names n (m+1)=xP names n m++[gs names (m+1)]):=by unfold Hid;rw [iN.out];simp);(have QA:Hid (xQ names n (m+1)=xQ names n m):=by unfold Hid;rw [bU.out];simp);clear hb iN bU
      go_wp2_with (at_builtin;refine iF wi rfl _ _ 22 rfl wo.heap.size 9 (.string ⟨#[]⟩) 16 Tryz.underlying22 Tryz.iE rfl (by decide) yU.out.ao rfl (.string (gs names (m+1))) rfl rfl _ rfl eO.out.1 cz.out ?_;intro g8 gZ w8 bJ cD fS;have Gk:=aa (yU.out.Wk bJ cD fS);have mg:=aa (yU.out.ao.dh cD cz.out);clear bJ cD fS)
      go_roundw
      case rel=>exact ⟨m+1,Gt.out,by go_num,by rw [Qz.out,QA.out];have q:=Gk.out;simp only [List.length_map] at q ⊢;exact q,Below.trans (show Below wo.heap.size wo wi from vB.out) mg.out⟩
      case measure=>have:=Gt.out;simp [intOf];omega
    ·obtain rfl:m=names.length - 1:=by omega
     rw [(Jq names n).1,(Jq names n).2] at hD;obtain ⟨ap,ac,rfl,-⟩:=hD.out.ao.form (n:=(eA names n).length) (by rw [List.length_map]);obtain ⟨bp,bc,rfl,-⟩:=hD.out.bo.form (n:=(eB names n).length) (by rw [List.length_map]);have ZJ:=aa (tR.out _ wi _ hD.out.ao.strs);have kU:=aa hD.out.bo.strs;have vB:=aa hU.out;(have i9:¬((names.length - 1:Nat):Int)+1<(names.length:Int):=by omega);clear hD hU hlm hm kw;go_wp2_with fail;refine ZJ.out.mono ?_;rintro e W1 ⟨aO,sa,rfl,tF⟩;have cR:=aa (cZ.out _ W1 _ (ah.keep kU.out (aO.kept _)));have Dt:=aa aO
     clear aO ZJ;go_wp2_with fail;refine cR.out.mono ?_;rintro e W2 ⟨aG,sb,rfl,nj⟩;have hz1:=Dt.out.size;have hz2:=aG.size;have hz0:=vB.out.size;obtain ⟨lp,lc,rfl,-⟩:=tF.form (n:=(bA (eA names n)).length) (by rw [List.length_map]);obtain ⟨rp,rc,rfl,-⟩:=nj.form (n:=(bA (eB names n)).length) (by rw [List.length_map]);have iN:Hid (ah (fun b=>wo.heap.size≤b∧b<W2.heap.size) W2 (.slice lp (bA (eA names n)).length lc) (bA (eA names n))):=(ah.keep tF.strs (aG.kept _)).sub fun b hb hl=>⟨by omega,hl⟩
     have bU:Hid (ah (fun b=>wo.heap.size≤b∧b<W2.heap.size) W2 (.slice rp (bA (eB names n)).length rc) (bA (eB names n))):=nj.strs.sub fun b hb hl=>⟨by omega,hl⟩;have ZK:=aa ((vB.out.trans Dt.out).trans aG);have HAT0:Hid (oV wo.heap.size w W2 W2 u3 (oU names n++pU names n 0)):=by (have e0:oU names n++pU names n 0=oU names n:=by unfold pU;simp);rw [e0];have hzw:=sj.out.size;refine ⟨sj.out.trans ZK.out,⟨hzw,by omega,Nat.le_refl _⟩,WM.out.fM fun b hb=>Below.block ZK.out b (aI WM.out hb).2,fun b hb=>.inl (aI WM.out hb).2,fun _ _ _=>rfl⟩
     clear tF nj aG hz0 hz1 hz2 cR kU Dt tR cZ vB;go_wp2_with fail
     go_loopw [3,10,11] (fun o i _ wr=>∃k:Nat,k≤(bA (eA names n)).length∧i=.int .i64 k∧Hid (oV wo.heap.size w W2 wr o (oU names n++pU names n k))) (fun _ i _ _=>(bA (eA names n)).length - (intOf i).toNat)
     case atStart=>exact ⟨0,Nat.zero_le _,rfl,HAT0.out⟩
     case round =>
      obtain ⟨k,hk,rfl,hA⟩:=hrel;obtain ⟨wp,rfl⟩:∃wp:World,wp=wr:=⟨_,rfl⟩;(have k0:(0:Int)≤(k:Int):=by omega);by_cases hlk:k<(bA (eA names n)).length
      ·have k1:(k:Int)<((bA (eA names n)).length:Int):=by omega
       (have k2:(k:Int)<16:=by have:=xA.out.1;omega);have GJ:=aa hlk;have MB:=aa (Qs names n hlk);have HZS:Hid ((gs (bA (eA names n)) k).size≤100):=xA.out.2 k;have ZL:(pU names n k).length≤225:=Tl ZI.out.1 ZI.out.2;have HEK:=aa ZL;have HAA:=aa hA.out;clear hA hlk ZL;go_wp2_with fail
       go_loopw [3,11] (fun o i wr=>∃q:Nat,q≤(bA (eB names n)).length∧i=.int .i64 q∧Hid (oV wo.heap.size w W2 wr o ((oU names n++pU names n k)++((bA (eB names n)).take q).map fun t=>pairT (gs (bA (eA names n)) k) t))) (fun _ i _=>(bA (eB names n)).length - (intOf i).toNat)
       case atStart=>exact ⟨0,Nat.zero_le _,rfl,by rw [List.take_zero,List.map_nil,List.append_nil];exact HAA.out⟩
       case round =>
        obtain ⟨q,hq,rfl,hB⟩:=hrel;obtain ⟨wq,rfl⟩:∃wq:World,wq=wr:=⟨_,rfl⟩;(have q0:(0:Int)≤(q:Int):=by omega);by_cases Js:q<(bA (eB names n)).length
        ·obtain ⟨ab,ao,rfl,hca⟩:=bI (hB.out.strs iN.out) GJ.out
         obtain ⟨bb,bo,rfl,hcb⟩:=bI (hB.out.strs bU.out) Js;(have q1:(q:Int)<((bA (eB names n)).length:Int):=by omega);(have q2:(q:Int)<16:=by have:=vk.out.1;omega);have NK:=aa Js;(have fN:Hid (((bA (eB names n)).take (q+1)).map (fun t=>pairT (gs (bA (eA names n)) k) t)=((bA (eB names n)).take q).map (fun t=>pairT (gs (bA (eA names n)) k) t)++[pairT (gs (bA (eA names n)) k) (gs (bA (eB names n)) q)]):=by unfold Hid;rw [List.take_succ_eq_append_getElem Js,List.map_append];simp [gs,Js]);have z1:(gs (bA (eA names n)) k).size≤100:=HZS.out
         have z2:(gs (bA (eB names n)) q).size≤100:=vk.out.2 q;obtain ⟨T,hT⟩:∃T,T=(oU names n++pU names n k)++((bA (eB names n)).take q).map fun t=>pairT (gs (bA (eA names n)) k) t:=⟨_,rfl⟩;have vH:Hid ((oU names n++pU names n k)++((bA (eB names n)).take (q+1)).map (fun t=>pairT (gs (bA (eA names n)) k) t)=T++[pairT (gs (bA (eA names n)) k) (gs (bA (eB names n)) q)]):=by unfold Hid;rw [fN.out,← List.append_assoc,← hT]
         (have pQ:Hid (T.length≤1000000):=by have a1:=Wp.out;have a2:=HEK.out;have a3:=vk.out.1;unfold Hid;rw [hT];simp only [List.length_append,List.length_map,List.length_take];omega);rw [← hT] at hB;have NL:=aa hB.out;obtain ⟨oq,oc,Gu,-⟩:=hB.out.own.form (n:=T.length) (by rw [List.length_map]);subst Gu;generalize gs (bA (eA names n)) k=sn at *;generalize gs (bA (eB names n)) q=tm at *;clear hB Js hT fN;(have y1:(9223372036854775807<1+sn.size)=False:=by simp;omega);have y2:(9223372036854775807<1+sn.size+1)=False:=by simp;omega
         (have y3:(9223372036854775807<1+sn.size+1+tm.size)=False:=by simp;omega);(have y4:(9223372036854775807<1+sn.size+1+tm.size+1)=False:=by simp;omega);go_wp2_with fail;refine dG (by kernel_rfl) 15 (fun w'=>w'.cell? ⟨ab,ao+k,none⟩=some (.string sn)∧w'.cell? ⟨bb,bo+q,none⟩=some (.string tm)) ⟨hca,hcb⟩ (fun hS=>?_);simp only [List.size_toArray,List.length_cons,List.length_nil,Nat.reduceAdd,Array.replicate_succ,Array.replicate_zero,List.push_toArray,List.nil_append,List.cons_append];refine af.tk 0 hS ?_;try simp only [Act.put,ay,az,aA]
         refine af.tk 1 hS ?_;(try simp only [Act.put,ay,az,aA]);refine af.tk 2 hS ?_;(try simp only [Act.put,ay,az,aA]);refine af.tk 3 hS ?_;(try simp only [Act.put,ay,az,aA]);refine af.tk 4 hS ?_;(try simp only [Act.put,ay,az,aA]);refine af.tk 5 hS ?_;(try simp only [Act.put,ay,az,aA]);refine af.tk 6 hS ?_
         (try simp only [Act.put,ay,az,aA]);refine af.tk 7 hS ?_;(try simp only [Act.put,ay,az,aA]);refine af.tk 8 hS ?_;(try simp only [Act.put,ay,az,aA]);refine af.tk 9 hS ?_;(try simp only [Act.put,ay,az,aA]);refine af.tk 10 hS ?_;(try simp only [Act.put,ay,az,aA]);refine af.tk 11 hS ?_
         (try simp only [Act.put,ay,az,aA]);refine af.tk 12 hS ?_;(try simp only [Act.put,ay,az,aA]);refine af.step (i:=13) rfl (by kernel_rfl) (fun K' hK=>?_);go_simp;have aY:=(Up.alloc wq (.cells #[.string (pairT sn tm)] 9)).trans (Up.drewN _ 1);have ZM:=NL.out.next aY;have HS13:=aa (And.intro (aY.cell hca) (aY.cell hcb));have HC13:=aa (wQ wq (.string (pairT sn tm)) 9);have nC:=aa ZM;clear aY ZM;refine hK.out _ _ (fun _=>HS13.out) (fun hS=>?_)
         replace hS:=hS ⟨14,by decide,rfl⟩;(try simp only [ay,az,aA]);refine af.step (i:=14) rfl (by kernel_rfl) (fun K' hK=>?_);refine eV (by rfl) _ _ _ (by rfl) w.heap.size 9 _ 16 Tryz.underlying22 Tryz.iE (by rfl) (by decide) (by rfl) nC.out.own (.string (pairT sn tm)) wq.heap.size (by rfl) HC13.out (by rfl) (by rw [List.length_map];exact pQ.out) (by obtain ⟨z1,z2,z3⟩:=nC.out.sz;exact Nat.le_trans z1 (Nat.le_trans z2 z3)) ?_;intro g8 c8 w8 ZN ZO ZP _;have yS:=nC.out.app ZN ZO (ZP.imp id fun e=>Nat.le_of_eq e.symm)
         have VW:=aa yS;clear ZN ZO ZP yS;refine hK.out _ _ (aM (by kernel_rfl)) (fun _=>?_);(try simp only [Act.put,ay,az,aA]);refine af.step (i:=15) rfl (by kernel_rfl) (fun K' hK=>?_);go_simp;refine hK.out _ _ (aM (by kernel_rfl)) (fun _=>?_);refine af.done (by kernel_rfl) ?_;go_wp2_with fail
         go_roundw
         case rel=>exact ⟨q+1,NK.out,by go_num,by rw [vH.out];have h:=VW.out;rw [List.length_map] at h;exact h⟩
         case measure=>have:=NK.out;simp [intOf];omega
        ·obtain rfl:q=(bA (eB names n)).length:=by omega
         (have NL:Hid (oV wo.heap.size w W2 wq u3 (oU names n++pU names n (k+1))):=by have h:=hB.out;rw [List.take_length] at h;unfold Hid;rw [MB.out,← List.append_assoc];exact h);clear hB Js;go_wp2_with fail
         go_roundw
         case rel=>exact ⟨k+1,GJ.out,by go_num,NL.out⟩
         case measure=>have:=GJ.out;simp [intOf];omega
      ·obtain rfl:k=(bA (eA names n)).length:=by omega
       (have NL:Hid (WL w names (n+1) u3 wp):=by have h:=hA.out;rw [Tk,← Qr] at h;exact ⟨h.up,h.own⟩);clear hA hlk;go_wp2_with fail
       go_roundw
       case rel=>exact ⟨n+1,aW.out,by go_num,NL.out⟩
       case measure=>have:=aW.out;simp [intOf];omega
  ·obtain rfl:n=M - 1:=by omega
   (have i1:¬((M - 1:Nat):Int)<((M - 1:Nat):Int):=by omega);(have dF:Hid (ua w names (.returned u3) wo):=by refine ⟨fR,_,rfl,?_⟩;(have e:bA names=oU names (M - 1):=by rw [WA h2,HM.out];rfl);rw [e];exact Sb);clear hI fR Sb hlt;go_wp2_with fail;go_ret;exact dF.out
end
end Go.Proofs.YthgabkgmkolobaaGreat
