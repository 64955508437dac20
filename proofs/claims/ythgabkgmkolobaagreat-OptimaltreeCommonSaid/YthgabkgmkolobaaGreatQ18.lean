/- The turned forest: plain. phylotree.nodes again: the row of nodes lies apart from the .. -/
import Derived.Test.YthgabkgmkolobaaGreatQ17
set_option maxRecDepth 100000
set_option maxHeartbeats 4000000
namespace Go.Proofs.YthgabkgmkolobaaGreat
section
def sP (t:az) (leaf z:Nat):Bool:=ew t.ps z leaf
def NM (t:az) (leaf z:Nat):List Nat :=
 if z=t.ps.length then leaf::(if leaf=0 then [] else [(gi t.ps leaf).toNat])
 else if sP t leaf z=true/\z≠leaf then (bq t.ps z).filter (fun k=>!sP t leaf k)++(if z=0 then [] else [(gi t.ps z).toNat])
 else bq t.ps z
def Dd (t:az) (leaf:Nat):ct:=⟨upd (gs t.ns) t.ps.length ByteArray.empty,upd (fun i=>(i:Int)) t.ps.length 0,NM t leaf⟩
def UD (t:az) (leaf z:Nat):Nat:=if z=t.ps.length then 3*t.ps.length+3 else if sP t leaf z=true/\z≠leaf then t.ps.length+1+z else dU t z
structure eL (t:az) (leaf:Nat):Prop where
 te:aH t=0
 lt:leaf<t.ps.length
 nm:(gs t.ns leaf).size≠0
section
variable {t:az} {leaf:Nat}
theorem eL.ok (h:eL t leaf):k8 t.ps=true:=(aF h.te).2.2.2.1
theorem eL.NN (h:eL t leaf):bq t.ps leaf=[]:=by
 cases hk:bq t.ps leaf with
 | nil=>rfl
 | cons k l =>
  obtain ⟨h1,h2,h3⟩:=cD.1 (show k∈bq t.ps leaf by rw [hk];simp);exact absurd (uK h.te h1 h2 h3) h.nm
theorem eL.par (h:eL t leaf) {z:Nat} (hz:z<t.ps.length) (h0:z≠0):∃q:Nat,gi t.ps z=q/\q<z:=by
 have:=jb h.ok hz (by omega);exact ⟨(gi t.ps z).toNat,by omega,by omega⟩
theorem eL.EN (_h:eL t leaf):sP t leaf leaf=true:=x7 leaf
theorem eL.NP (h:eL t leaf) {z:Nat} (hz:sP t leaf z=true):z<=leaf:=uO h.ok h.lt hz
theorem eL.IZ (h:eL t leaf) {z q:Nat} (hz:sP t leaf z=true) (h0:z≠0) (hq:gi t.ps z=q):sP t leaf q=true:=by
 have hzl:=h.NP hz;have YW:z<t.ps.length:=Nat.lt_of_le_of_lt hzl h.lt;obtain ⟨q',h1,h2⟩:=h.par YW h0;obtain rfl:q=q':=by omega
 exact (EM h.ok h.lt).2 (.inr ⟨z,YW,h2,hq,hz⟩)
theorem eL.on_kid (h:eL t leaf) {z:Nat} (hz:sP t leaf z=true) (hne:z≠leaf):∃c,c<t.ps.length/\z<c/\gi t.ps c=z/\sP t leaf c=true:=by
 rcases (EM h.ok h.lt).1 hz with e | ⟨c,h1,h2,h3,h4⟩
 ·exact absurd e.symm hne
 ·exact ⟨c,h1,h2,h3,h4⟩
theorem eL.UE (h:eL t leaf) {x y q:Nat} (hx:sP t leaf x=true) (hy:sP t leaf y=true) (hxy:x<y) (hq:gi t.ps y=q):x<=q:=by
 have QH:y<t.ps.length:=Nat.lt_of_le_of_lt (h.NP hy) h.lt;obtain ⟨q',h1,h2⟩:=h.par QH (by omega);obtain rfl:q=q':=by omega
 have h3:=Rf h.ok (Nat.le_of_lt hxy) leaf leaf (af _) h.lt hx hy;rw [rM h.ok QH hxy,hq] at h3;exact uO h.ok (show q<_ by omega) h3
theorem eL.UF (h:eL t leaf) {x y q:Nat} (hx:sP t leaf x=true) (hy:sP t leaf y=true) (hx0:q<x) (hy0:q<y) (e1:gi t.ps x=q) (e2:gi t.ps y=q):x=y:=by
 rcases rY x y with c | c | c
 ·have:=h.UE hx hy c e2;omega
 ·exact c
 ·have:=h.UE hy hx c e1;omega
theorem rr_mem (h:eL t leaf) {p k:Nat} (hp:p<t.ps.length+1) (hk:k∈(Dd t leaf).kids p) :
  (p=t.ps.length/\k=leaf)\/(p=t.ps.length/\leaf≠0/\gi t.ps leaf=k/\k<leaf)\/(p<t.ps.length/\k<t.ps.length/\p<k/\gi t.ps k=p/\sP t leaf k=false)\/(p<t.ps.length/\sP t leaf p=true/\p≠leaf/\p≠0/\gi t.ps p=k/\k<p):=by
 have hk:k∈NM t leaf p:=hk;unfold NM at hk;split at hk
 ·rename_i e
  rcases aW.1 hk with e2 | e2
  ·exact .inl ⟨e,e2⟩
  ·split at e2
   ·cases e2
   ·rename_i h0
    (have e2:k=(gi t.ps leaf).toNat:=by simpa using e2);obtain ⟨q,h1,h2⟩:=h.par h.lt h0;exact .inr (.inl ⟨e,h0,by omega,by omega⟩)
 ·rename_i e
  split at hk
  ·rename_i hz
   rcases dV.1 hk with h1 | h1
   ·obtain ⟨h1,h2⟩:=fL.1 h1
    obtain ⟨h3,h4,h5⟩:=cD.1 h1;exact .inr (.inr (.inl ⟨by omega,h3,h4,h5,by simpa using h2⟩))
   ·split at h1
    ·cases h1
    ·rename_i h0
     (have h1:k=(gi t.ps p).toNat:=by simpa using h1);obtain ⟨q,h2,h3⟩:=h.par (z:=p) (by omega) h0;exact .inr (.inr (.inr ⟨by omega,hz.1,hz.2,h0,by omega,by omega⟩))
  ·rename_i hz
   obtain ⟨h3,h4,h5⟩:=cD.1 hk;refine .inr (.inr (.inl ⟨by omega,h3,h4,h5,?_⟩));cases hc:sP t leaf k with
   | false=>rfl
   | true =>
    have:=h.IZ hc (by omega) h5;have:p=leaf:=by
     by_cases c:p=leaf
     ·exact c
     ·exact absurd ⟨this,c⟩ hz
    rw [this,h.NN] at hk;cases hk
theorem S1 (_h:eL t leaf) {z:Nat} (hz:z<t.ps.length) (ho:sP t leaf z=true) (hne:z≠leaf):UD t leaf z=t.ps.length+1+z:=by
 unfold UD;rw [if_neg (by omega),if_pos ⟨ho,hne⟩]
theorem UG {z:Nat} (hz:z<t.ps.length) (ho:sP t leaf z=false\/z=leaf):UD t leaf z=t.ps.length - z:=by
 unfold UD;rw [if_neg (by omega),if_neg]
 ·rfl
 ·rintro ⟨h1,h2⟩
  rcases ho with e | e
  ·rw [e] at h1;cases h1
  ·exact h2 e
theorem YZ (h:eL t leaf) {z:Nat} (hz:z<t.ps.length+1) (hk:(Dd t leaf).kids z=[]):z<t.ps.length/\(bq t.ps z=[]\/(z=0/\(gs t.ns 0).size=0)):=by
 have hk:NM t leaf z=[]:=hk;unfold NM at hk;split at hk
 ·cases hk
 ·rename_i e
  refine ⟨by omega,?_⟩;split at hk
  ·rename_i hc
   obtain ⟨c,h1,h2,h3,_⟩:=h.on_kid hc.1 hc.2;by_cases h0:z=0
   ·subst h0;exact .inr ⟨rfl,uK h.te h1 h2 h3⟩
   ·rw [if_neg h0] at hk
    simp at hk
  ·exact .inl hk
theorem uP (h:aH t=0) {z:Nat} (hz:z<t.ps.length) (hk:bq t.ps z=[]):b7 (gs t.ns z).data.toList=true:=by
 obtain ⟨_,_,_,hok,_⟩:=aF h;refine (Fx h hz ?_).1;cases hin:isIn t.ps z with
 | false=>rfl
 | true=>exact absurd hk ((sY hok z).2 hin)
theorem rr_arb (h:eL t leaf):BO (Dd t leaf) (t.ps.length+1) (UD t leaf):=by
 have hlt:=h.lt;refine ⟨⟨fun p hp k hk=>?_⟩,fun p q k hp hq h1 h2=>?_,fun i hi=>?_,fun a b ha hb h1 h2 e=>?_⟩
 ·rcases rr_mem h hp hk with ⟨rfl,rfl⟩ | ⟨rfl,h0,e,hlt2⟩ | ⟨h1,h2,h3,e,ho⟩ | ⟨h1,ho,hne,h0,e,hlt2⟩
  ·refine ⟨by omega,?_⟩
   rw [UG h.lt (.inr rfl)];unfold UD;rw [if_pos rfl];omega
  ·refine ⟨by omega,?_⟩
   rw [S1 h (by omega) (h.IZ h.EN h0 e) (by omega)];unfold UD;rw [if_pos rfl];omega
  ·refine ⟨by omega,?_⟩
   rw [UG h2 (.inl ho)];by_cases c:sP t leaf p=true/\p≠leaf
   ·rw [S1 h h1 c.1 c.2];omega
   ·have:sP t leaf p=false\/p=leaf:=by
     cases hc:sP t leaf p with
     | false=>exact .inl rfl
     | true=>exact .inr (tK fun x=>c ⟨hc,x⟩)
    rw [UG h1 this];omega
  ·refine ⟨by omega,?_⟩
   rw [S1 h h1 ho hne,S1 h (by omega) (h.IZ ho h0 e) (by have:=h.NP ho;omega)];omega
 ·have hon:∀p,p<t.ps.length+1->k∈(Dd t leaf).kids p->(sP t leaf k=false/\p<t.ps.length/\gi t.ps k=p)\/(sP t leaf k=true/\(p=t.ps.length/\(k=leaf\/gi t.ps leaf=k/\k<leaf)\/p<t.ps.length/\sP t leaf p=true/\p≠leaf/\gi t.ps p=k/\k<p)):=fun p hp hk=>by
   rcases rr_mem h hp hk with ⟨rfl,rfl⟩ | ⟨rfl,h0,e,hlt2⟩ | ⟨h1,h2,h3,e,ho⟩ | ⟨h1,ho,hne,h0,e,hlt2⟩
   ·exact .inr ⟨h.EN,.inl ⟨rfl,.inl rfl⟩⟩
   ·exact .inr ⟨h.IZ h.EN h0 e,.inl ⟨rfl,.inr ⟨e,hlt2⟩⟩⟩
   ·exact .inl ⟨ho,h1,e⟩
   ·exact .inr ⟨h.IZ ho h0 e,.inr ⟨h1,ho,hne,e,hlt2⟩⟩
  rcases hon p hp h1 with ⟨a1,a2,a3⟩ | ⟨a1,a2⟩
  ·rcases hon q hq h2 with ⟨_,b2,b3⟩ | ⟨b1,_⟩
   ·omega
   ·rw [a1] at b1;cases b1
  ·rcases hon q hq h2 with ⟨b1,_⟩ | ⟨_,b2⟩
   ·rw [a1] at b1;cases b1
   ·rcases a2 with ⟨a2,a3⟩ | ⟨a2,a3,a4,a5,a6⟩
    ·rcases b2 with ⟨b2,b3⟩ | ⟨b2,b3,b4,b5,b6⟩
     ·omega
     ·exfalso
      have:=h.NP b3
      rcases a3 with e | ⟨e,e2⟩
      ·omega
      ·exact b4 (h.UF b3 h.EN b6 e2 b5 e)
    ·rcases b2 with ⟨b2,b3⟩ | ⟨b2,b3,b4,b5,b6⟩
     ·exfalso
      have:=h.NP a3
      rcases b3 with e | ⟨e,e2⟩
      ·omega
      ·exact a4 (h.UF a3 h.EN a6 e2 a5 e)
     ·exact h.UF a3 b3 a6 b6 a5 b5
 ·show (NM t leaf i).Nodup
  unfold NM;have hkn:(bq t.ps i).Nodup:=Fq _ List.nodup_range;split
  ·split
   ·simp
   ·rename_i h0
    obtain ⟨q,h1,h2⟩:=h.par hlt h0;simp;omega
  ·split
   ·split
    ·rw [gN];exact hkn.filter _
    ·rename_i hi2 _ h0
     obtain ⟨q,h1,h2⟩:=h.par (z:=i) (by omega) h0;rw [nR];refine ⟨hkn.filter _,by simp,fun a ha b hb e=>?_⟩;(have hb:b=(gi t.ps i).toNat:=by simpa using hb);have:=(cD.1 (fL.1 ha).1).2.1;omega
   ·exact hkn
 ·obtain ⟨a1,a2⟩:=YZ h ha h1
  obtain ⟨b1,b2⟩:=YZ h hb h2;have e:gs t.ns a=gs t.ns b:=by have e:upd (gs t.ns) t.ps.length ByteArray.empty a=upd (gs t.ns) t.ps.length ByteArray.empty b:=e;rw [upd_ne _ _ (by omega),upd_ne _ _ (by omega)] at e;exact e
  rcases a2 with a2 | ⟨a2,a3⟩
  ·rcases b2 with b2 | ⟨b2,b3⟩
   ·exact (eu h.te).aac a b a1 b1 a2 b2 e
   ·subst b2
    exact absurd b3 (by rw [<- e];exact jR (uP h.te a1 a2))
  ·rcases b2 with b2 | ⟨b2,b3⟩
   ·subst a2
    exact absurd a3 (by rw [e];exact jR (uP h.te b1 b2))
   ·omega
end
end
section
open Go.RowKit Go.Deep
def NodesPost2 (w:World) (t:az) (e:Ending) (w':World):Prop :=
 Up w w'/\∃g A kv,w.heap.size<=g/\e=.returned (.slice (some ⟨g,0,none⟩) t.ps.length t.ps.length)/\cU (g+1) t.ps.length A kv (fJ t) w'/\w'.rowIs g 119 t.ps.length (cV A)
theorem nodes2_t (S:Nat->Prop) (w:World) (v:Value) (t:az) (hT:aI S w v t) (hp:t.ps.length<=1000) (hn:t.ns.length=t.ps.length) (hok:k8 t.ps=true) (hz:∀k,(gs t.ns k).size<=70000) :
  Calls Tryz.prog 93 #[v] w (NodesPost2 w t):=by
 obtain ⟨P,N,rfl,hP,hN⟩:=hT;obtain ⟨pP,nZ,rfl,hcapP,_⟩:=ay.open hP;have hP:ah S w (.slice pP t.ps.length nZ) t.ps:=hP;obtain ⟨pN,od,rfl,hcapN,_⟩:=ay.open hN;have hN:au S w (.slice pN t.ns.length od) t.ns:=hN;have hmk:=fun W=>run_make_row' (P:=Tryz.prog) 120 119 (.pointer none) 8 Tryz.underlying120 Tryz.BJ rfl .i64 .i64 t.ps.length (by omega) (by omega) W;have hu:=Up.alloc w (.cells #[.slice pP t.ps.length nZ,.slice pN t.ns.length od] 39);have hb0:=iU w (.slice pP t.ps.length nZ) (.slice pN t.ns.length od) 39
 have hb1:=iV w (.slice pP t.ps.length nZ) (.slice pN t.ns.length od) 39;have aK:=Up.alloc (w.alloc (.cells #[.slice pP t.ps.length nZ,.slice pN t.ns.length od] 39)) (.cells (madeCells #[.pointer none] t.ps.length) 119)
 have HW:Hid (KC ((w.alloc (.cells #[.slice pP t.ps.length nZ,.slice pN t.ns.length od] 39)).alloc (.cells (madeCells #[.pointer none] t.ps.length) 119)) ((w.alloc (.cells #[.slice pP t.ps.length nZ,.slice pN t.ns.length od] 39)).alloc (.cells (madeCells #[.pointer none] t.ps.length) 119)) (w.heap.size+1) t.ps.length 0 t):=by refine ⟨dM _ _,fun _=>0,fun _=>.slice none 0 0,cU.empty _ _ _ _ _,?_⟩;have h:=Bo (w.alloc (.cells #[.slice pP t.ps.length nZ,.slice pN t.ns.length od] 39)) (.pointer none) t.ps.length 119;simp only [aQ] at h;exact h
 have jw:=aa (hu.trans aK);have hsz:w.heap.size+1+1=((w.alloc (.cells #[.slice pP t.ps.length nZ,.slice pN t.ns.length od] 39)).alloc (.cells (madeCells #[.pointer none] t.ps.length) 119)).heap.size:=by simp
 have fA:=aa hsz;have mX:=aa (aK.cell hb0);have lK:=aa (aK.cell hb1);have HP:=aa hP;have HN:=aa hN;have Qr:=aa hz;have xK:=aa hok;have gI:=aa hn;have hnl:(t.ps.length:Int)<=(t.ns.length:Int):=by omega
 clear hsz hu hb0 hb1 aK hP hN hz hok hn
 go_enter Tryz.func93,Tryz.ntmps93
 go_wp2_with fail;generalize (w.alloc (.cells #[.slice pP t.ps.length nZ,.slice pN t.ns.length od] 39)).alloc (.cells (madeCells #[.pointer none] t.ps.length) 119)=w1 at *
 go_loopw [13] (fun i wr=>∃k:Nat,k<=t.ps.length/\i=.int .i64 k/\Hid (KC w1 wr (w.heap.size+1) t.ps.length k t)) (fun i _=>t.ps.length - (intOf i).toNat)
 case atStart=>exact ⟨0,aL _,rfl,HW⟩
 case round =>
  obtain ⟨k,hk,rfl,hO⟩:=hrel;obtain ⟨wo,rfl⟩:∃wo:World,wo=wr:=⟨_,rfl⟩;by_cases hlt:k<t.ps.length
  ·obtain ⟨fT,A,kv,hF,hrow⟩:=hO.out
   (have hc0:wo.cell? ⟨w.heap.size,0,none⟩=some (.slice pP t.ps.length nZ):=by rw [fT.cell (p:=⟨w.heap.size,0,none⟩) (pI _)];exact mX.out);(have hc1:wo.cell? ⟨w.heap.size,1,none⟩=some (.slice pN t.ns.length od):=by rw [fT.cell (p:=⟨w.heap.size,1,none⟩) (pI _)];exact lK.out);have TC:Up w wo:=iH jw.out (fT.mono (lz _));obtain ⟨bP,oP,rfl,sI⟩:=dG (ah.keep HP.out (TC.kept S)) hlt;obtain ⟨bN,oN,rfl,uL⟩:=dr (au.keep HN.out (TC.kept S)) (k:=k) (by rw [gI.out];exact hlt);have HX:=aa hO.out.new
   (have YB:(wo.alloc (.cells #[.string (gs t.ns k),.slice none 0 0,.int .i64 k] 122)).cell? ⟨w.heap.size+1,k,none⟩=some (.pointer none):=by have h:=(hrow.alloc (.cells #[.string (gs t.ns k),.slice none 0 0,.int .i64 k] 122)).cell hlt;rw [h,if_neg (mU k)]);have hfo:(wo.alloc (.cells #[.string (gs t.ns k),.slice none 0 0,.int .i64 k] 122)).frozen? ⟨w.heap.size+1,k,none⟩=false:=(hrow.alloc _).frozen k;clear hF hrow fT TC hO;have h0:gi t.ps k<k/\(0<k->0<=gi t.ps k)/\(k=0->gi t.ps k = -1):=uJ xK.out hlt;by_cases jW:0<=gi t.ps k
   ·obtain ⟨p,KD⟩:=pE jW
    (have hpk:p<k:=by omega);rw [KD] at sI;(have d1:decide ((0:Int)<=(p:Int))=true:=by simp);have GJ:=aa KD;clear h0 jW KD;go_wp2_with fail;generalize (wo.alloc (.cells #[.string (gs t.ns k),.slice none 0 0,.int .i64 k] 122)).setCell ⟨w.heap.size+1,k,none⟩ (.pointer (some ⟨wo.heap.size,0,none⟩))=w2 at *;obtain ⟨A,kv,hAk,hX⟩:=HX.out;have hr1:w2.cell? ⟨w.heap.size+1,p,none⟩=some (.pointer (some ⟨A p,0,none⟩)):=by have h:=hX.row.cell (i:=p) (by omega);rw [if_pos (by omega)] at h;exact h
    (have hr2:w2.cell? ⟨w.heap.size+1,k,none⟩=some (.pointer (some ⟨A k,0,none⟩)):=by have h:=hX.row.cell (i:=k) hlt;rw [if_pos (by omega)] at h;exact h);(have HNK:Hid (cV A k=.pointer (some ⟨wo.heap.size,0,none⟩)):=by unfold Hid cV;rw [hAk]);rw [hAk] at hr2;have hkc:=hX.fr.zB (i:=p) (by omega);have hfz:=hX.fr.thaw (i:=p) (by omega) 1;(have FH:Hid (ax (w.heap.size+1+1) 119 w2 (kv p) ((dc t.ps p k).map (cV A))):=by have h:=hX.fr.own p (by omega);rw [xU] at h;exact h);have Nn:=aa hX
    have TD:Hid (A p≠w.heap.size+1/\(kv p).ownBlock≠some (w.heap.size+1)/\(kv p).ownBlock≠some (A p)/\w.heap.size+1<w2.heap.size/\A p<w2.heap.size):=⟨(hX.fr.far (by omega)).1,(hX.fr.far (by omega)).2,hX.fr.apart p p (by omega) (by omega),hX.row.lt,hX.fr.lt (by omega)⟩;(have i0:(0:Int)<=(p:Int):=by omega);(have i1:(p:Int)<(t.ps.length:Int):=by omega);(have i2:(0:Int)<=(k:Int):=by omega);(have i3:(k:Int)<(t.ps.length:Int):=by omega);have kK:Hid (((dc t.ps p k).map (cV A)).length<=1000000):=by unfold Hid;rw [aG];have:=vS t.ps p k;omega
    have Np:Hid (∀g cap w',ax (w.heap.size+1+1) 119 w' (.slice (some ⟨g,0,none⟩) (((dc t.ps p k).map (cV A)).length+1) cap) ((dc t.ps p k).map (cV A)++[.pointer (some ⟨wo.heap.size,0,none⟩)])->w2.grownBy w' (kv p).ownBlock->((kv p).ownBlock=some g\/w2.heap.size<=g)->KC w1 (w'.setCell ⟨A p,1,none⟩ (.slice (some ⟨g,0,none⟩) (((dc t.ps p k).map (cV A)).length+1) cap)) (w.heap.size+1) t.ps.length (k+1) t):=fun g cap w' h1 h2 h3=>hX.push hpk GJ.out (by rw [HNK.out];exact h1) h2 (fun b hb=>by cases hb;exact h3);clear hAk hX HX YB hfo sI uL hc0 hc1;generalize cV A=na at *
    generalize hap:A p=ap at *;generalize wo.heap.size=ak at *;generalize kv p=ov at *;generalize List.map na (dc t.ps p k)=vs at *;have HOW2:Hid (ax (w.heap.size+1+1) 119 (w2.alloc (.cells #[.pointer (some ⟨ak,0,none⟩)] 119)).drew ov vs):=FH.out.alloc _;have nV:Hid ((w2.alloc (.cells #[.pointer (some ⟨ak,0,none⟩)] 119)).drew.cell? ⟨w2.heap.size,0,none⟩=some (.pointer (some ⟨ak,0,none⟩))):=aS _ _ _ 0
    have vW:Hid (w.heap.size+1+1<=(w2.alloc (.cells #[.pointer (some ⟨ak,0,none⟩)] 119)).drew.heap.size):=by have:=TD.out.2.2.2.1;show _<=(w2.alloc _).heap.size;rw [aQ];omega
    have TE:Hid (∀(w':World),(w2.alloc (.cells #[.pointer (some ⟨ak,0,none⟩)] 119)).drew.grownBy w' ov.ownBlock->w'.cell? ⟨w.heap.size+1,p,none⟩=some (.pointer (some ⟨ap,0,none⟩))/\w'.cell? ⟨w.heap.size+1,k,none⟩=some (.pointer (some ⟨ak,0,none⟩))/\w'.cell? ⟨ap,1,none⟩=some ov/\w'.frozen? ⟨ap,1,none⟩=false):=fun w' hg=>by
     obtain ⟨q1,q2,q3,q4,q5⟩:=TD.out;(have hl:∀b,b<w2.heap.size->b<(w2.alloc (.cells #[.pointer (some ⟨ak,0,none⟩)] 119)).drew.heap.size:=fun b hb=>by show b<(w2.alloc _).heap.size;rw [aQ];omega);have hu:=Up.alloc w2 (.cells #[.pointer (some ⟨ak,0,none⟩)] 119);refine ⟨?_,?_,?_,?_⟩
     ·rw [hg.cell_far _ (hl _ q4) (gj q2)];exact hu.cell hr1
     ·rw [hg.cell_far _ (hl _ q4) (gj q2)];exact hu.cell hr2
     ·rw [hg.cell_far _ (hl _ q5) (gj q3)];exact hu.cell hkc
     ·rw [hg.frozen_far _ (hl _ q5) (gj q3)];exact (Below.frozen hu (p:=⟨ap,1,none⟩) q5).trans hfz
    have hr1a:=(Up.alloc w2 (.cells #[.pointer (some ⟨ak,0,none⟩)] 119)).cell hr1;have hr2a:=(Up.alloc w2 (.cells #[.pointer (some ⟨ak,0,none⟩)] 119)).cell hr2;have hkca:=(Up.alloc w2 (.cells #[.pointer (some ⟨ak,0,none⟩)] 119)).cell hkc;clear Nn;refine gQ (by kernel_rfl) 20 (fun w'=>w'.cell? ⟨w.heap.size+1,p,none⟩=some (.pointer (some ⟨ap,0,none⟩))/\w'.cell? ⟨w.heap.size+1,k,none⟩=some (.pointer (some ⟨ak,0,none⟩))/\w'.cell? ⟨ap,1,none⟩=some ov) ⟨hr1,hr2,hkc⟩ (fun hS=>?_)
    simp only [eW,aT,dO,Nat.reduceAdd,ji,jk,eV,cH,cr];refine aj.tk 0 hS ?_;(try simp only [Act.put,aA,aB,aC]);refine aj.tk 1 hS ?_;(try simp only [Act.put,aA,aB,aC]);refine aj.tk 2 hS ?_;(try simp only [Act.put,aA,aB,aC]);refine aj.tk 3 hS ?_
    (try simp only [Act.put,aA,aB,aC]);refine aj.tk 4 hS ?_;(try simp only [Act.put,aA,aB,aC]);refine aj.tk 5 hS ?_;(try simp only [Act.put,aA,aB,aC]);refine aj.tk 6 hS ?_;(try simp only [Act.put,aA,aB,aC]);refine aj.tk 7 hS ?_;(try simp only [Act.put,aA,aB,aC]);refine aj.tk 8 hS ?_
    (try simp only [Act.put,aA,aB,aC]);refine aj.tk 9 hS ?_;(try simp only [Act.put,aA,aB,aC]);refine aj.tk 10 hS ?_;(try simp only [Act.put,aA,aB,aC]);refine aj.tk 11 hS ?_;(try simp only [Act.put,aA,aB,aC]);refine aj.tk 12 hS ?_;(try simp only [Act.put,aA,aB,aC]);refine aj.tk 13 hS ?_
    (try simp only [Act.put,aA,aB,aC]);refine aj.tk 14 hS ?_;(try simp only [Act.put,aA,aB,aC]);refine aj.step (i:=15) rfl (by kernel_rfl) (fun K' hK=>?_);go_simp;refine hK.out _ _ (fun _=>⟨(Up.alloc _ _).cell hr1,(Up.alloc _ _).cell hr2,(Up.alloc _ _).cell hkc⟩) (fun hS=>?_);(try simp only [aA,aB,aC]);refine aj.step (i:=16) rfl (by kernel_rfl) (fun K' hK=>?_)
    refine fF (by rfl) _ _ _ (by rfl) (w.heap.size+1+1) 119 _ 8 Tryz.underlying120 Tryz.BJ (by rfl) (by decide) (by rfl) HOW2.out (.pointer (some ⟨ak,0,none⟩)) w2.heap.size (by rfl) nV.out (by rfl) kK.out vW.out ?_;intro g cap w4 wW hg4 Ig TF;obtain ⟨hr1b,hr2b,hkcb,hfz4⟩:=TE.out w4 hg4;have HOWN4:=aa wW;have Nq:=aa (vC hg4);have HOR4:=aa Ig;clear wW hg4 Ig TF;refine hK.out _ _ (fun _=>⟨hr1b,hr2b,hkcb⟩) (fun hS=>?_);replace hS:=hS ⟨19,by decide,rfl⟩
    (try simp only [Act.put,aA,aB,aC]);refine aj.tk 17 hS ?_;(try simp only [Act.put,aA,aB,aC]);refine aj.tk 18 hS ?_;(try simp only [Act.put,aA,aB,aC]);refine aj.step (i:=19) rfl (by kernel_rfl) (fun K' hK=>?_);go_simp;refine hK.out _ _ (aO (by kernel_rfl)) (fun hS=>?_);refine aj.done (by kernel_rfl) ?_;go_wp2_with fail
    go_roundw
    case rel =>
     refine ⟨k+1,by omega,by go_num,Np.out g cap w4 HOWN4.out Nq.out ?_⟩;rcases HOR4.out with h | h
     ·exact .inl h
     ·refine .inr ?_
      rw [h];exact aJ (lz _) (fB (aQ _ _).symm)
    case measure=>simp [intOf];omega
   ·have GJ:Hid (gi t.ps k<0):=by unfold Hid;omega
    (have d1:decide ((0:Int)<=gi t.ps k)=false:=by simpa using jW);clear h0 jW;go_wp2_with fail
    go_roundw
    case rel =>obtain ⟨A',kv',_,hX⟩:=HX.out;exact ⟨k+1,by omega,by go_num,hX.root GJ.out⟩
    case measure=>simp [intOf];omega
  ·obtain rfl:k=t.ps.length:=by omega
   go_wp2_with fail;go_ret;obtain ⟨fT,A,kv,hF,hrow⟩:=hO.out;exact ⟨iH jw.out (fT.mono (lz _)),_,A,kv,lz _,rfl,hF,hrow.congr fun i hi=>by rw [if_pos hi]⟩
mutual
theorem J5 {M:Nat}:∀r:RT,(∀s∈gJ r,s.size<=M)->(dy r).length+1<=aU r*(M+3)
 | .node nm [],h=>by
  rw [dy,aU,bE]
  have h1:=h nm (by rw [gJ];simp)
  have h2:nm.data.toList.length=nm.size:=by rw [Bh];rfl
  omega
 | .node nm (k::ks),h=>by
  have h1:=J5 k (fun s hs=>h s (by rw [gJ,gZ];simp [hs]))
  have h2:=UH ks (fun s hs=>h s (by rw [gJ,gZ];simp [hs]))
  rw [dy,aU,bE]
  simp only [aT,aZ,dO]
  rw [Nat.add_mul,Nat.add_mul]
  omega
theorem UH {M:Nat}:∀rs:List RT,(∀s∈gZ rs,s.size<=M)->(fK rs).length<=bE rs*(M+3)
 | [],_=>by rw [fK];exact aL _
 | r::rs,h=>by
  have h1:=J5 r (fun s hs=>h s (by rw [gZ];simp [hs]))
  have h2:=UH rs (fun s hs=>h s (by rw [gZ];simp [hs]))
  rw [fK,bE]
  simp only [aT,aZ]
  rw [Nat.add_mul]
  omega
end
theorem UI {F:ct} {n:Nat} {rk:Nat->Nat} (h:Wf F n rk) {i:Nat} (hi:i<n):gJ (bB F rk i)=(dw F rk i).map F.nm:=by
 rw [wk,CY h hi (af _),jO];refine lU fun z hz=>?_;exact A2 h (vZ h hi (af _) ((gO h hi (af _)).1 hz))
theorem Y0 {t:az} (h:aH t=0) {M:Nat} (hz:∀k,(gs t.ns k).size<=M):(dy (iZ t)).length+1<=64*(M+3):=by
 obtain ⟨hp,DR,_⟩:=aF h
 have h1:=J5 (M:=M) (iZ t) (fun s hs=>by
  unfold iZ at hs;rw [UI (eu h).wf hp] at hs;obtain ⟨z,_,rfl⟩:=cm.1 hs
  exact hz z)
 have h2:aU (iZ t)<=t.ps.length:=good_size (eu h).wf hp (ou h);exact aJ h1 (yZ _ (by omega))
def G1 (t:az):Int:=if aH t≠0 then 1 else 0
def De (t:az):List UInt8:=if aH t≠0 then [] else dy (iZ t)++[59]
def NQ (w:World) (t:az) (e:Ending) (w':World):Prop:=Up w w'/\e=.returned (.tuple #[.string ⟨(De t).toArray⟩,.int .i64 (G1 t)])
theorem print_t (S:Nat->Prop) (w:World) (v:Value) (t:az) (hT:aI S w v t) (hp:t.ps.length<=1000000) (hn:t.ns.length<=1000000) (hz:∀k,(gs t.ns k).size<=70000) :
  Calls Tryz.prog 29 #[v] w (NQ w t):=by
 obtain ⟨P,N,rfl,hP,hN⟩:=hT;obtain ⟨pp,pc,rfl,_,_⟩:=ay.open hP;obtain ⟨pn,pm,rfl,_,_⟩:=ay.open hN;have hP:ah S w (.slice pp t.ps.length pc) t.ps:=hP;have hN:au S w (.slice pn t.ns.length pm) t.ns:=hN;have ha:=Up.alloc w (.cells #[.slice pp t.ps.length pc,.slice pn t.ns.length pm] 39);have jx:=aa (iU w (.slice pp t.ps.length pc) (.slice pn t.ns.length pm) 39);have jG:=aa (iV w (.slice pp t.ps.length pc) (.slice pn t.ns.length pm) 39);have hsz:(w.alloc (.cells #[.slice pp t.ps.length pc,.slice pn t.ns.length pm] 39)).heap.size=w.heap.size+1:=by simp
 have HU:=aa ha;have QU:Hid (aI S _ _ t):=aI.keep ⟨_,_,rfl,hP,hN⟩ (ha.kept S);have fA:=aa hsz;have HZ:=aa hz;have hc0:=jx.out;have hc1:=jG.out;have gy:=aa (xS S _ _ t QU.out hp hn hz);have Y1:Hid (G1 t=if aH t≠0 then 1 else 0):=rfl;have Rh:Hid (De t=if aH t≠0 then [] else dy (iZ t)++[59]):=rfl;clear ha hP hN hsz hz
 go_enter Tryz.func29,Tryz.ntmps29
 go_wp2_with fail;generalize w.alloc (.cells #[.slice pp t.ps.length pc,.slice pn t.ns.length pm] 39)=w1 at *;refine gy.out.mono ?_;rintro e w2 ⟨rfl,aK⟩;have aK:Up w1 w2:=aK;have bD:=aa aK;have jw:=aa (HU.out.trans aK);have hc0:=aK.cell jx.out;have hc1:=aK.cell jG.out;clear aK gy;by_cases he:aH t=0
 ·obtain ⟨jW,DR,hnl,hok,_⟩:=aF he
  have I1:=aa he;rw [he];have uj:=aa (aI.keep QU.out (bD.out.kept S));clear he hnl hok;go_wp2_with fail;have hb:=blk_alloc_new w2 (.cells #[.pointer none,.slice none 0 0] 117);have dQ:=Up.alloc w2 (.cells #[.pointer none,.slice none 0 0] 117);have hs3:(w2.alloc (.cells #[.pointer none,.slice none 0 0] 117)).heap.size=w2.heap.size+1:=aQ _ _;have Da:=blk_alloc_new (w2.alloc (.cells #[.pointer none,.slice none 0 0] 117)) (.cells #[.func (.func 90) #[] #[.pointer (some ⟨w2.heap.size,0,none⟩),.pointer (some ⟨w2.heap.size+1,0,none⟩)]] 118)
  have di:=Up.alloc (w2.alloc (.cells #[.pointer none,.slice none 0 0] 117)) (.cells #[.func (.func 90) #[] #[.pointer (some ⟨w2.heap.size,0,none⟩),.pointer (some ⟨w2.heap.size+1,0,none⟩)]] 118);have hs4:((w2.alloc (.cells #[.pointer none,.slice none 0 0] 117)).alloc (.cells #[.func (.func 90) #[] #[.pointer (some ⟨w2.heap.size,0,none⟩),.pointer (some ⟨w2.heap.size+1,0,none⟩)]] 118)).heap.size=w2.heap.size+2:=by rw [aQ,hs3]
  have hb4:=(blk_alloc_lt (w2.alloc (.cells #[.pointer none,.slice none 0 0] 117)) (.cells #[.func (.func 90) #[] #[.pointer (some ⟨w2.heap.size,0,none⟩),.pointer (some ⟨w2.heap.size+1,0,none⟩)]] 118) w2.heap.size (by omega)).trans hb;rw [hs3] at Da;have hc04:=(dQ.trans di).cell hc0;have hc14:=(dQ.trans di).cell hc1;have kX:=aa (dQ.trans di);clear hb dQ di hs3 hc0 hc1;generalize (w2.alloc (.cells #[.pointer none,.slice none 0 0] 117)).alloc (.cells #[.func (.func 90) #[] #[.pointer (some ⟨w2.heap.size,0,none⟩),.pointer (some ⟨w2.heap.size+1,0,none⟩)]] 118)=w4 at *
  have dz:Hid (C9 w2.heap.size (w2.heap.size+1) w4):=Da;have IV:=dz.out.cell;have HB4:=aa hb4;have Q1:=aa hs4;clear hs4 hb4 Da;refine gQ (by kernel_rfl) 6 (fun w'=>w'.cell? ⟨w2.heap.size+1,0,none⟩=some (.func (.func 90) #[] #[.pointer (some ⟨w2.heap.size,0,none⟩),.pointer (some ⟨w2.heap.size+1,0,none⟩)])/\w'.cell? ⟨w.heap.size,0,none⟩=some (.slice pp t.ps.length pc)/\w'.cell? ⟨w.heap.size,1,none⟩=some (.slice pn t.ns.length pm)) ⟨IV,hc04,hc14⟩ (fun hS=>?_)
  simp only [eW,aT,dO,Nat.reduceAdd,ji,jk,eV,cH,cr];refine aj.tk 0 hS ?_;try simp only [Act.put,aA,aB,aC]
  refine aj.tk 1 hS ?_;try simp only [Act.put,aA,aB,aC]
  refine aj.step (i:=2) rfl (by kernel_rfl) (fun K' hK=>?_);go_simp;have HUD:Hid (Up w4 w4.drew):=Up.drewN w4 1;obtain ⟨_,_,hnl,hok,_⟩:=aF I1.out;have G2:=aa (nodes2_t S w4.drew _ t (aI.keep uj.out ((kX.out.trans HUD.out).kept S)) (by omega) hnl hok HZ.out);refine G2.out.mono ?_;rintro e w5 ⟨ey,g,A,kv,CT,rfl,hF,hrow⟩;have sH:=hrow.cell (i:=0) jW;simp only [cV] at sH;have iw:=aa (HUD.out.trans ey);have hpos:(0:Int)<(t.ps.length:Int):=by omega
  refine hK.out _ _ (fun _=>⟨iw.out.cell IV,iw.out.cell hc04,iw.out.cell hc14⟩) (fun hS=>?_);try simp only [aA,aB,aC]
  have HF:=aa hF;have Y2:=aa CT;have oT:Hid (G1 t=0):=by rw [Hid,Y1.out,if_neg (by simp [I1.out])]
  have zh:Hid (De t=dy (iZ t)++[59]):=by rw [Hid,Rh.out,if_neg (by simp [I1.out])]
  have gI:=aa (Y0 I1.out HZ.out);have nX:Hid (Lib.IsBuilderF 117 5 w2.heap.size w2.heap.size (Lib.byteCells []) w5):=.inl ⟨af _,_,(bI iw.out _ (by rw [Q1.out];omega)).trans HB4.out,⟨rfl,.inl ⟨rfl,rfl⟩⟩,fun e=>by cases e⟩;have HBX5:Hid (C9 w2.heap.size (w2.heap.size+1) w5):=(bI iw.out _ (by rw [Q1.out];omega)).trans dz.out;have fu:Hid (w2.heap.size+2<=w5.heap.size):=by have:=iw.out.size;rw [Q1.out] at this;exact this
  have HP1:=aa (print1_t (base:=g+1) (n:=t.ps.length) (B:=w2.heap.size) (b:=w2.heap.size) (fb:=w2.heap.size+1) (eu I1.out).wf (fun z _=>by have:=wZ t z;omega) (by have:=Q1.out;have h2:w4.heap.size<=g:=CT;omega) (by omega) (dU t 0) 0 [] w5 jW (af _) hF HBX5.out nX.out (by
   have:=gI.out;show 0+(dy (iZ t)).length<=_
   omega) (by have:=fu.out;omega))
  clear hnl hok hF CT hrow G2 ey;refine aj.step (i:=3) rfl (by kernel_rfl) (fun K' hK=>?_);go_simp;refine hK.out _ _ (fun _=>⟨iw.out.cell IV,iw.out.cell hc04,iw.out.cell hc14⟩) (fun hS=>?_);try simp only [aA,aB,aC]
  refine aj.step (i:=4) rfl (by kernel_rfl) (fun K' hK=>?_);go_simp;refine hK.out _ _ (fun _=>⟨iw.out.cell IV,iw.out.cell hc04,iw.out.cell hc14⟩) (fun hS=>?_);try simp only [aA,aB,aC]
  refine aj.step (i:=5) rfl (by kernel_rfl) (fun K' hK=>?_);go_simp;refine HP1.out.mono ?_;rintro e w6 ⟨rfl,h6⟩;refine hK.out _ _ (aO (by kernel_rfl)) (fun hS=>?_);refine aj.done (by kernel_rfl) ?_;have HX3:Hid (bB (fJ t) (dU t) 0=iZ t):=rfl;rw [cH,HX3.out] at h6;have HB6:=aa h6;have HWB:=aa (Ph w2.heap.size w2.heap.size (Lib.byteCells (dy (iZ t))) 59 w6 h6.bl (by rw [Lib.byteCells_length];have:=gI.out;omega) (h6.size (by have:=fu.out;omega)));clear h6 HP1 hS hK;go_wp2_with fail;refine HWB.out.mono ?_;rintro e w7 ⟨rfl,h1,h2,h3⟩
  have Y3:=aa (HB6.out.byte (x:=59) rfl h1 h2 h3);have HST:=aa (bstr_t w2.heap.size w2.heap.size (dy (iZ t)++[59]) w7 Y3.out.bl (Y3.out.size (by have:=fu.out;omega)));clear h1 h2 h3;go_wp2_with fail;refine HST.out.mono ?_;rintro e w8 ⟨rfl,_,h2,_⟩;have HB8:Hid (Up w2 w8):=iH (kX.out.trans iw.out) (Y3.out.up.trans h2);clear h2;go_wp2_with fail;go_ret2;exact ⟨jw.out.trans HB8.out,by rw [oT.out,zh.out];rfl⟩
 ·have Nu:(aH t != 0)=true:=by simpa using he
  have oT:Hid (G1 t=1):=by rw [Hid,Y1.out,if_pos he]
  have zh:Hid (De t=[]):=by rw [Hid,Rh.out,if_pos he]
  clear he;generalize aH t=te at *;go_wp2_with fail;go_ret2;exact ⟨jw.out,by rw [oT.out,zh.out];rfl⟩
end
section
theorem aln_sp {c:UInt8} (h:zO c=true):c∉dS:=fun hm=>by
 simp only [dS,aW,qD,or_false] at hm
 rcases hm with rfl | rfl | rfl | rfl<;>exact absurd h (by decide)
theorem named_sp {s:ByteArray} (h:b7 s.data.toList=true):s.data.toList≠[]/\∀c∈s.data.toList,c∉dS:=by
 generalize s.data.toList=l at h ⊢;unfold b7 at h;have key:∀l:List UInt8,jl l=true->l≠[]/\∀c∈l,c∉dS:=fun l h=>by unfold jl at h;simp only [gD,decide_eq_true_eq,wL] at h;exact ⟨fun e=>by rw [e] at h;simp at h,fun c hc=>aln_sp (h.2 c hc)⟩
 by_cases e:l.getLast? = some 42
 ·rw [if_pos e] at h
  simp only [gD] at h;obtain ⟨h1,h2⟩:=key _ h.1;have hl:l≠[]:=fun e2=>by subst e2;cases e
  refine ⟨hl,fun c hc=>?_⟩;rw [<- List.dropLast_concat_getLast hl,dV,dP] at hc;rcases hc with hc | hc
  ·exact h2 c hc
  ·rw [List.getLast?_eq_some_getLast hl] at e
   have e:=Option.some.inj e;rw [hc,e];decide
 ·rw [if_neg e] at h;exact key l h
theorem iq.qq {r:RT} (h:iq r):tu r:=fun s hs=>⟨h.wm s hs,fun hk=>named_sp (h.lf s hs hk)⟩
section
variable {t:az}
theorem txT_eq (h:aH t=0):De t=dy (iZ t)++[59]:=by unfold De;rw [if_neg (by simp [h])]
theorem LO (h:aH t=0):∀(d j:Nat),j<=d->j<t.ps.length->ew t.ps 0 j=true
 | d,j,hd,hj=>by
  by_cases h0:j=0
  ·subst h0;exact x7 0
  ·obtain ⟨_,_,_,hok,_⟩:=aF h
   have hp:=jb hok hj (by omega)
   rw [rM hok hj (by omega)]
   cases d with
   | zero=>omega
   | succ d=>exact LO h d _ (by omega) (by omega)
theorem tS (h:aH t=0):(dw (fJ t) (dU t) 0).Perm (List.range t.ps.length):=by
 have h0:=(aF h).1;refine (List.perm_ext_iff_of_nodup (qI (eu h) (fun i _=>EB t i) h0 (af _)) List.nodup_range).2 fun j=>?_;rw [bh];constructor
 ·exact jH h
 ·intro hj
  refine (gO (eu h).wf h0 (af _)).2 ?_;rw [A5 h _ 0 j (af _) h0 hj];exact LO h j j (af _) hj
theorem ns_perm (h:aH t=0):(gJ (iZ t)).Perm t.ns:=by
 rw [YK h];have hl:=(aF h).2.2.1;have h1:=(tS h).map (gs t.ns);rw [<- hl,range_gs] at h1;exact h1
theorem rN (h:aH t=0):(dx (iZ t)).Perm (qK t.ns):=(ns_perm h).filter _
theorem F0 {nm:ByteArray} (h:nm.size≠0):dx (.node nm [])=[nm]:=by
 unfold dx;rw [gJ,gZ];exact List.filter_eq_self.2 fun x hx=>decide_eq_true (by rw [dP.1 hx];exact h)
theorem Y4:∀a b:List UInt8,Lib.compareBytes a b<=0↔a<=b
 | [],b=>by
  cases b with
  | nil=>simp [Lib.compareBytes]
  | cons y b=>simp [Lib.compareBytes]
 | x::a,[]=>by simp [Lib.compareBytes]
 | x::a,y::b=>by
  rw [Lib.compareBytes,List.cons_le_cons_iff]
  have ih:=Y4 a b
  by_cases h1:x<y
  ·simp [h1]
  ·by_cases h2:y<x
   ·have:x≠y:=by rintro rfl;exact h1 h2
    simp [h1,h2,this]
   ·have:x=y:=by
     apply UInt8.toNat.inj
     rw [Bl] at h1 h2;omega
    subst this
    simp [ih]
end
end
section
section
variable {t:az} {leaf:Nat}
theorem rr_inner (h:eL t leaf) {z:Nat} (hz:z<t.ps.length+1) (hk:(Dd t leaf).kids z≠[]):((Dd t leaf).nm z).size=0:=by
 by_cases e:z=t.ps.length
 ·subst e
  show (upd (gs t.ns) _ _ _).size=0;rw [upd_same];rfl
 ·show (upd (gs t.ns) _ _ z).size=0
  rw [upd_ne _ _ e];by_cases c:bq t.ps z=[]
  ·exfalso
   refine hk ?_;show NM t leaf z=[];unfold NM;rw [if_neg e,c,if_neg];rintro ⟨h1,h2⟩;obtain ⟨k,h3,h4,h5,_⟩:=h.on_kid h1 h2;have:k∈bq t.ps z:=cD.2 ⟨h3,h4,h5⟩;rw [c] at this;cases this
  ·obtain ⟨k,hk⟩:=Fs _ c
   obtain ⟨h3,h4,h5⟩:=cD.1 hk;exact uK h.te h3 h4 h5
theorem rr_names (h:eL t leaf):∀a b,a<t.ps.length+1->b<t.ps.length+1->((Dd t leaf).nm a).size≠0->(Dd t leaf).nm a=(Dd t leaf).nm b->a=b:=fun a b ha hb h0 e=>by
 have key:∀c,c<t.ps.length+1->((Dd t leaf).nm c).size≠0->(Dd t leaf).kids c=[]:=fun c hc hn=>by
  by_cases x:(Dd t leaf).kids c=[]
  ·exact x
  ·exact absurd (rr_inner h hc x) hn
 exact (rr_arb h).aac a b ha hb (key a ha h0) (key b hb (by rw [<- e];exact h0)) e
end
end
section
section
variable {t:az} {leaf:Nat}
theorem eL.inj (h:eL t leaf) {a b:Nat} (ha:a<t.ps.length) (hb:b<t.ps.length) (h0:(gs t.ns a).size≠0) (e:gs t.ns a=gs t.ns b):a=b:=by
 have ea:(Dd t leaf).nm a=gs t.ns a:=upd_ne _ _ (by omega);have eb:(Dd t leaf).nm b=gs t.ns b:=upd_ne _ _ (by omega);exact rr_names h a b (by omega) (by omega) (by rw [ea];exact h0) (by rw [ea,eb];exact e)
end
end
section
open Go.RowKit Go.Deep
theorem ya (w:World) (cs:Array Value) (T:TypeId) (xs:List Int) (hcs:cs.toList=xs.map (Value.int .i64)) (n:Nat) (hn:n=xs.length):ah Any (w.alloc (.cells cs T)) (.slice (some ⟨w.heap.size,0,none⟩) n n) xs:=by
 subst hn;refine ⟨_,_,rfl,af _,.inr ⟨_,0,rfl,trivial,fun k hk=>?_⟩⟩;rw [mg,aS,<- oW,hcs];simp [gi,hk]
theorem LP (w:World) (cs:Array Value) (T:TypeId) (xs:List ByteArray) (hcs:cs.toList=xs.map Value.string) (n:Nat) (hn:n=xs.length):au Any (w.alloc (.cells cs T)) (.slice (some ⟨w.heap.size,0,none⟩) n n) xs:=by
 subst hn;refine ⟨_,_,rfl,af _,.inr ⟨_,0,rfl,trivial,fun k hk=>?_⟩⟩;rw [mg,aS,<- oW,hcs];simp [gs,hk]
end
section
open Go.RowKit Go.Deep
deriving instance DecidableEq for Yy
end
section
open Go.RowKit Go.Deep
section
variable {P:Program} {ops:Array Oper} {rest:List Oper} {o:Oper} {a:Act} {Q:Exit->Act->World->Prop}
theorem I2 (W:World) (hgd:o.guard=none) (s x:Operand) (t:TypeId) (ho:o.op=.call { callee:=.builtin .append,args:=#[s,x],argTypes:=#[t,t] })
  (base:Nat) (e:TypeId) (z:Value) (bytes:Nat) (ht:P.underlying t=some (.slice e)) (hinfo:(P.info? e).map (fun i=>(i.zero,i.size,i.bytes))=some (some z,1,bytes))
  (hz1:z.cells.size=1) (qE:bytes<=64) {v:Value} {vs:List Value} (hown:ax base e W v vs) (hs:a.eval s=v) (u:Value) (m:Nat) (hm:W.heap.size=m)
  (hx:a.eval x=.slice (some ⟨m,0,none⟩) 1 1) (h1:u.oneCell'=true) (k:Nat) (uM:vs.length=k) (hn:k<=1000000) (hbase:base<=W.heap.size)
  (h:∀g cap w',ax base e w' (.slice (some ⟨g,0,none⟩) (k+1) cap) (vs++[u])->W.grownBy w' v.ownBlock->(v.ownBlock=some g\/W.heap.size<=g)->wpList P ops Q rest (a.put o.dst (.slice (some ⟨g,0,none⟩) (k+1) cap)) w') :
  wpList P ops Q (o::rest) a (W.alloc (.cells #[u] e)):=by
 subst hm;exact jI W hgd s x t ho base e z bytes ht hinfo hz1 qE hown hs u hx h1 k uM hn hbase h
end
end
end Go.Proofs.YthgabkgmkolobaaGreat
