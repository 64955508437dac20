/- Reference 34: Count, leaf, index. optimaltree.places. Lists of trees with their texts, in .. -/
import Derived.Test.YthgabkgmkolobaaGreatQ40
set_option maxRecDepth 100000
namespace Go.Proofs.YthgabkgmkolobaaGreat
section
open Go.RowKit Go.Deep
set_option maxHeartbeats 400000 in
theorem Nh (s:ByteArray) (hs:s.size≤70000) (w:World):Calls Tryz.prog 150 #[.string s] w fun e w'=>e=.returned (.bool (aX s.data.toList))∧Below w.heap.size w w':=by
 go_enter Tryz.func150,Tryz.ntmps150
 go_wp2_with fail
 ·have hf:=aa (zW s (by omega) (by omega) ‹_›)
  refine (jY _ (by simp;omega) _).mono ?_
  rintro e w1 ⟨rfl,hb⟩
  rw [← hf.out]
  go_wp2_with fail
  go_ret
  exact ⟨rfl,hb⟩
 ·have hf:=aa (DN s (by omega) (by omega) ‹_›)
  go_ret
  exact ⟨aR (by rw [hf.out]),Below.refl _ _⟩
 ·have hf:=aa (yx s (by omega) ‹_›)
  refine (jY _ hs _).mono ?_
  rintro e w1 ⟨rfl,hb⟩
  rw [← hf.out]
  go_wp2_with fail
  go_ret
  exact ⟨rfl,hb⟩
 ·have hf:=aa (B9 s (by omega))
  refine (jY _ hs _).mono ?_
  rintro e w1 ⟨rfl,hb⟩
  rw [← hf.out]
  go_wp2_with fail
  go_ret
  exact ⟨rfl,hb⟩
set_option maxHeartbeats 400000 in
theorem uS (S:Nat→Prop) (w:World) (v:Value) (names:List ByteArray) (s:ByteArray) (h:ah S w v names) (hn:names.length≤1000000) :
  Calls Tryz.prog 143 #[v,.string s] w fun e w'=>e=.returned (.int .i64 (fh names s))∧w=w':=by
 obtain ⟨p,cap,rfl,hcap,-⟩:=aC.open h;have h:ah S w (.slice p names.length cap) names:=h;have HF:Hid (fh names s=b5 (fun j=>decide (s=gs names j)) names.length):=rfl;have HN:=aa h;clear h
 go_enter Tryz.func143,Tryz.ntmps143
 go_wp2_with fail
 go_loop [4,5] (fun _ i=>∃k:Nat,k≤names.length∧i=.int .i64 k∧Hid (∀j,j<k→decide (s=gs names j)=false)) (fun _ i=>names.length - (intOf i).toNat)
 case atStart=>exact ⟨0,Nat.zero_le _,rfl,fun j hj=>absurd hj (Nat.not_lt_zero _)⟩
 case round =>
  obtain ⟨k,hk,rfl,hd⟩:=hrel;by_cases hlt:k<names.length
  ·obtain ⟨b,off,rfl,hc⟩:=bI HN.out hlt
   (have nC:Hid (decide (s=gs names k)=true→(k:Int)=fh names s):=fun h1=>by rw [HF.out];exact (kK (p:=fun j=>decide (s=gs names j)) hlt hd.out h1).symm);have HX:Hid (∀j,j<k+1→¬j=k→decide (s=gs names j)=false):=fun j hj h1=>hd.out j (by omega);(have HK:Hid (∀j,j<k+1→decide (s=gs names k)=false→decide (s=gs names j)=false):=fun j hj h1=>if e:j=k then by subst e;exact h1 else HX.out j hj e);generalize gs names k=nm at *;go_wp2_with fail
   ·have hx:=xT ‹(nm.toList==s.toList)=true›
    go_ret;exact ⟨aH (nC.out (by simpa using hx.symm)),rfl⟩
   ·have hx:=Ee ‹(nm.toList==s.toList)=false›
    go_round
    case rel=>exact ⟨k+1,by omega,by go_num,fun j hj=>HK.out j hj (by simpa using fun e=>hx e.symm)⟩
    case measure=>simp [intOf];omega
  ·obtain rfl:k=names.length:=by omega
   (have HE:Hid (fh names s = -1):=by unfold Hid;rw [HF.out];exact iR hd.out);go_wp2_with fail;go_ret;exact ⟨aH HE.out.symm,rfl⟩
end
section
open Go.RowKit Go.Deep
def sg (t:aD) (names:List ByteArray) (n:Nat):List Int:=(List.range n).map fun j=>fh names (gs t.ns (gi (aq t.ns) j).toNat)
theorem tS (t:aD) (names:List ByteArray) (n:Nat):(sg t names n).length=n:=by simp [sg]
theorem Qm (t:aD) (names:List ByteArray) (n:Nat):sg t names (n+1)=sg t names n++[fh names (gs t.ns (gi (aq t.ns) n).toNat)]:=by simp [sg,List.range_succ]
theorem Ni {t:aD} {names:List ByteArray} {n j:Nat} (h:j<n):gi (sg t names n) j=fh names (gs t.ns (gi (aq t.ns) j).toNat):=by simp [sg,gi,h]
def vP (t:aD) (names:List ByteArray):Bool:=decide (aB t=0)&&iJ t names
def Gw (w:World) (t:aD) (names:List ByteArray) (e:Ending) (w':World):Prop :=
 Up w w'∧∃v,e=.returned (.tuple #[v,.bool (vP t names)])∧(vP t names=true→aj (fun b=>w.heap.size≤b) w' v (sg t names (aq t.ns).length))
theorem KH {w W:World} {t:aD} {names:List ByteArray} {v:Value} (h:vP t names=false) (hu:Up w W):Gw w t names (.returned (.tuple #[v,.bool false])) W :=
 ⟨hu,v,by rw [h],fun e=>by rw [h] at e;cases e⟩
set_option maxHeartbeats 4000000 in
theorem Qn (S:Nat→Prop) (w:World) (v vn:Value) (t:aD) (names:List ByteArray) (hT:au S w v t) (hp:t.ps.length≤1000000) (hn:t.ns.length≤1000000) (hz:∀k,(gs t.ns k).size≤70000) (h:ah S w vn names) (hnn:names.length≤1000000) :
  Calls Tryz.prog 108 #[v,vn] w (Gw w t names):=by
 obtain ⟨P,N,rfl,hP,hN⟩:=hT;obtain ⟨np,nc,rfl,hncap,-⟩:=aC.open hN;have hN:ah S w (.slice np t.ns.length nc) t.ns:=hN;obtain ⟨pp,pc,rfl,Xv,-⟩:=aC.open hP;have hP:aj S w (.slice pp t.ps.length pc) t.ps:=hP;obtain ⟨mp,mc,rfl,hmcap,-⟩:=aC.open h;have h:ah S w (.slice mp names.length mc) names:=h;have aO:Up w (w.alloc (.cells #[.slice pp t.ps.length pc,.slice np t.ns.length nc] 39)):=Up.alloc _ _;have hrb:=ek (w:=w) (P:=.slice pp t.ps.length pc) (N:=.slice np t.ns.length nc) (T:=39)
 have hsz:w.heap.size<(w.alloc (.cells #[.slice pp t.ps.length pc,.slice np t.ns.length nc] 39)).heap.size:=by simp
 obtain ⟨q0,q1,-,-⟩:=boxed hrb;have oI:=aa (y8 S (w.alloc (.cells #[.slice pp t.ps.length pc,.slice np t.ns.length nc] 39)) (.agg #[.slice pp t.ps.length pc,.slice np t.ns.length nc]) t ⟨_,_,rfl,aj.keep hP (aO.kept S),ah.keep hN (aO.kept S)⟩ hp hn hz);have HN:=aa (ah.keep hN (aO.kept S));have HM:=aa (ah.keep h (aO.kept S));have bH:=aa aO;have cz:=aa hsz;have HB:Hid (vP t names=(decide (aB t=0)&&(decide ((aq t.ns).length=names.length)&&!o8 t names))):=rfl
 have lD:Hid (∀n,n<(aq t.ns).length→∃k:Nat,gi (aq t.ns) n=k∧k<t.ns.length):=fun n hn=>by obtain ⟨k,h1,h2,_⟩:=lN hn;exact ⟨k,h1,h2⟩
 have dm:Hid ((aq t.ns).length≤1000000):=Nat.le_trans (jH _) hn;have R2:Hid (∀n,n<(aq t.ns).length→fh names (gs t.ns (gi (aq t.ns) n).toNat)<0→o8 t names=true):=fun n hn h0=>List.any_eq_true.2 ⟨n,List.mem_range.2 hn,decide_eq_true h0⟩;have HON:Hid ((∀n,n<(aq t.ns).length→¬fh names (gs t.ns (gi (aq t.ns) n).toNat)<0)→o8 t names=false):=fun hh=>any_none fun j hj=>decide_eq_false (hh j hj);clear hP hN h aO hrb hsz hz
 go_enter Tryz.func108,Tryz.ntmps108
 go_wp2_with fail;generalize w.alloc (.cells #[.slice pp t.ps.length pc,.slice np t.ns.length nc] 39)=w1 at *;refine oI.out.mono ?_;rintro e w2 ⟨hb,⟨h1,rfl⟩ | ⟨h1,lv,rfl,hlv⟩⟩
 ·have dF:Hid (vP t names=false):=by unfold Hid;rw [HB.out,decide_eq_false h1];rfl
  have aP:=aa (bH.out.trans (show Up w1 w2 from hb));have AY:=aa (KH (v:=.slice none 0 0) dF.out aP.out);clear hb h1 oI;go_wp2_with fail;go_ret2;exact AY.out
 obtain ⟨lp,lc,rfl,-,-⟩:=aC.open hlv;replace hlv:aj (fun b=>w1.heap.size≤b) w2 (.slice lp (aq t.ns).length lc) (aq t.ns):=hlv;have aG:Up w1 w2:=hb;have aP:=aa (bH.out.trans aG);have AZ:Hid (vP t names=(decide ((aq t.ns).length=names.length)&&!o8 t names)):=by unfold Hid;rw [HB.out,decide_eq_true h1];rfl
 by_cases hl:(aq t.ns).length=names.length
 ·have HLV2:=aa hlv
  have jP:=aa (ah.keep HN.out (aG.kept _));have yL:=aa (ah.keep HM.out (aG.kept _));have yT:Hid (vP t names=!o8 t names):=by unfold Hid;rw [AZ.out,decide_eq_true hl];rfl
  have HQ:=aa (And.intro (aG.cell q0) (aG.cell q1));have d1:(((aq t.ns).length:Int) != (names.length:Int))=false:=by simp [hl]
  have HL:=aa hl;clear hb h1 hlv aG oI q0 q1 bH HB AZ hl;go_wp2_with fail;have nu:Hid (w.heap.size≤w2.heap.size):=aP.out.size;clear d1
  go_loopw [8,10,11,28] (fun a _ _ i wr=>∃k:Nat,k≤(aq t.ns).length∧i=.int .i64 k∧Hid (aF w2.heap.size 3 wr a ((sg t names k).map (Value.int .i64))∧Up w2 wr∧∀n,n<k→¬fh names (gs t.ns (gi (aq t.ns) n).toNat)<0)) (fun _ _ _ i _=>(aq t.ns).length - (intOf i).toNat)
  case atStart=>exact ⟨0,Nat.zero_le _,rfl,aF.nil _ _ _,Up.refl _,fun n hn=>absurd hn (Nat.not_lt_zero _)⟩
  case round =>
   obtain ⟨k,hk,rfl,hI⟩:=hrel;obtain ⟨wo,rfl⟩:∃wo:World,wo=wr:=⟨_,rfl⟩;obtain ⟨hA,dK,hd⟩:=hI.out;by_cases hlt:k<(aq t.ns).length
   ·obtain ⟨xb,xo,rfl,kR⟩:=bQ (aj.keep HLV2.out (dK.kept _)) hlt
    obtain ⟨x,hx1,hx2⟩:=lD.out k hlt;obtain ⟨nb,no,rfl,dQ⟩:=bI (ah.keep jP.out (dK.kept _)) hx2;have s5:Hid (Calls Tryz.prog 95 #[.slice mp names.length mc,.string (gs t.ns x)] wo fun e w'=>e=.returned (.int .i64 (fh names (gs t.ns x)))∧wo=w'):=yt _ wo _ names.length (fun j=>gs names j) (gs t.ns x) (ah.keep yL.out (dK.kept _)) hnn;have fN:Hid ((sg t names (k+1)).map (Value.int .i64)=(sg t names k).map (Value.int .i64)++[.int .i64 (fh names (gs t.ns x))]):=by unfold Hid;rw [Qm,List.map_append,hx1,Int.toNat_natCast];rfl
    (have eO:Hid (((sg t names k).map (Value.int .i64)).length=k):=by unfold Hid;rw [List.length_map,tS]);have Qo:=aa (R2.out k hlt);have q0:=dK.cell HQ.out.1;have q1:=dK.cell HQ.out.2;rw [hx1] at kR;have jT:=aa hx1;have HA:=aa hA;have Jo:=aa dK;have HD:=aa hd;(have i1:(0:Int)≤(k:Int):=by omega);(have i2:(k:Int)<((aq t.ns).length:Int):=by omega);(have i3:(k:Int)<1000000:=by have:=dm.out;omega);(have i4:(0:Int)≤(x:Int):=by omega);(have i5:(x:Int)<(t.ns.length:Int):=by omega);have hsz:=dK.size;clear hI hA dK hd hx1;by_cases hf:fh names (gs t.ns x)<0
    ·have dF:Hid (vP t names=false):=by unfold Hid;rw [yT.out,Qo.out (by rw [jT.out,Int.toNat_natCast];exact hf)];rfl
     have AY:=aa (KH (v:=.slice none 0 0) dF.out (aP.out.trans Jo.out));generalize fh names (gs t.ns x)=fx at *;generalize gs t.ns x=nm at *;clear fN Qo jT;go_wp2_with fail;refine s5.out.mono ?_;rintro e w' ⟨rfl,rfl⟩;go_wp2_with fail;go_ret2;exact AY.out
    ·have HF:=aa hf
     (have HFG:Hid (fh names (gs t.ns (gi (aq t.ns) k).toNat)=fh names (gs t.ns x)):=by unfold Hid;rw [jT.out,Int.toNat_natCast]);generalize fh names (gs t.ns x)=fx at *;generalize gs t.ns x=nm at *;have h9:(0:Int)≤fx:=Int.not_lt.1 hf;obtain ⟨y,rfl⟩:∃y:Nat,fx=y:=⟨fx.toNat,by omega⟩;clear Qo jT hf h9;obtain ⟨ap,ac,rfl,-⟩:=HA.out.form eO.out;(have d9:decide ((y:Int)<0)=false:=by simp);go_wp2_with fail;refine s5.out.mono ?_;rintro e w' ⟨rfl,rfl⟩
     go_wp2_with (at_builtin;refine lu wo rfl _ _ 26 rfl w2.heap.size 3 _ 8 Tryz.underlying26 Tryz.fI rfl (by decide) HA.out rfl _ rfl rfl k eO.out (by omega) hsz ?_;intro g cap w8 hown1 hg1 gH);(have td:Hid (aF w2.heap.size 3 w8 (.slice (some ⟨g,0,none⟩) (k+1) cap) ((sg t names (k+1)).map (Value.int .i64))):=by unfold Hid;rw [fN.out];exact hown1);have gT:Hid (Up w2 w8):=Below.trans Jo.out gH;clear hown1 hg1 gH
     go_roundw
     case rel=>exact ⟨k+1,by omega,by go_num,td.out,gT.out,fun n hn=>if e:n=k then by subst e;rw [HFG.out];exact Int.not_lt.2 HF.out else Int.not_lt.2 (HD.out n (by omega))⟩
     case measure=>simp [intOf];omega
   ·obtain rfl:k=(aq t.ns).length:=by omega
    (have dF:Hid (vP t names=true):=by unfold Hid;rw [yT.out,HON.out fun n hn=>Int.not_lt.1 (hd n hn)];rfl);obtain ⟨ap,ac,rfl,-⟩:=hA.form (n:=(aq t.ns).length) (by rw [List.length_map,tS]);have hi:=hA.ints;have si:Hid (Gw w t names (.returned (.tuple #[.slice ap (aq t.ns).length ac,.bool true])) wo):=⟨aP.out.trans dK,_,by rw [dF.out],fun _=>hi.sub fun b hb _=>Nat.le_trans nu.out hb⟩;clear hI hA dK hd hi;go_wp2_with fail;go_ret2;exact si.out
 ·have dF:Hid (vP t names=false):=by unfold Hid;rw [AZ.out,decide_eq_false hl];rfl
  have d1:¬((aq t.ns).length:Int)=(names.length:Int):=by omega
  have AY:=aa (KH (v:=.slice none 0 0) dF.out aP.out);clear hb h1 oI;go_wp2_with fail;go_ret2;exact AY.out
end
section
open Go.RowKit Go.Deep Go.Sort Go.Shelf Go.Lib
abbrev lG:=(Value×Value)×RT
def aV (r:RT):ByteArray:=⟨(bT r).toArray⟩
def gM (x:lG):List Value:=[x.1.1,x.1.2,.string (aV x.2)]
def eY (es:List lG):List Value:=es.flatMap gM
def ge (es:List lG) (k:Nat):lG:=es.getD k ((undef,undef),.node ByteArray.empty [])
theorem Hy (es:List lG) (x:lG):eY (es++[x])=eY es++gM x:=by unfold eY;rw [List.flatMap_append];simp
theorem Du:∀(es:List lG) (k:Nat),k<es.length→(eY es)[k*3]? = some (ge es k).1.1∧(eY es)[k*3+1]? = some (ge es k).1.2∧(eY es)[k*3+2]? = some (.string (aV (ge es k).2))
 | [],k,h=>absurd h (Nat.not_lt_zero _)
 | x::es,0,_=>by simp [eY,gM,ge]
 | x::es,k+1,h=>by
  have ih:=Du es k (by simpa using h)
  have e:(k+1)*3=k*3+1+1+1:=by omega
  have e2:ge (x::es) (k+1)=ge es k:=by simp [ge]
  have e3:eY (x::es)=x.1.1::x.1.2::.string (aV x.2)::eY es:=by simp [eY,gM]
  rw [e2,e3,e]
  simp only [List.getElem?_cons_succ]
  exact ih
def iB (base:Nat) (w:World) (v:Value) (es:List lG):Prop :=
 w.ownsRow base 96 3 v es.length (eY es)∧∀x∈es,au (fun b=>some b≠v.ownBlock) w (.agg #[x.1.1,x.1.2]) (flat x.2)
theorem iB.nil (base:Nat) (w:World):iB base w (.slice none 0 0) []:=⟨World.ownsRow_nil _ _ _ _,fun _ h=>by cases h⟩
def tT (w:World) (v:Value) (qs:List RT):Prop :=
 ∃g cap,∃es:List lG,v=.slice (some ⟨g,0,none⟩) qs.length cap∧es.map (·.2)=qs∧(∀k,k<es.length→w.cell? ⟨g,k*3,none⟩=some (ge es k).1.1∧w.cell? ⟨g,k*3+1,none⟩=some (ge es k).1.2∧w.cell? ⟨g,k*3+2,none⟩=some (.string (aV (ge es k).2)))∧∀x∈es,au Any w (.agg #[x.1.1,x.1.2]) (flat x.2)
theorem Wq {es:List lG} {k:Nat} (h:k<es.length):ge es k∈es:=by simp [ge,h]
theorem tT.keep {w w':World} {v:Value} {qs:List RT} (h:tT w v qs) (hu:Up w w'):tT w' v qs:=by
 obtain ⟨g,cap,es,e1,e2,h1,h2⟩:=h;exact ⟨g,cap,es,e1,e2,fun k hk=>⟨hu.cell (h1 k hk).1,hu.cell (h1 k hk).2.1,hu.cell (h1 k hk).2.2⟩,fun x hx=>(h2 x hx).keep (hu.kept _)⟩
section
variable {P:Program} {ops:Array Oper} {rest:List Oper} {o:Oper} {a:Act} {Q:Exit→Act→World→Prop}
theorem DO (W:World) (hgd:o.guard=none) (s x:Operand) (t:TypeId) (ho:o.op=.call { callee:=.builtin .append,args:=#[s,x],argTypes:=#[t,t] })
  (base:Nat) (z:Value) (bytes:Nat) (ht:P.underlying t=some (.slice 96)) (hinfo:(P.info? 96).map (fun i=>(i.zero,i.size,i.bytes))=some (some z,3,bytes))
  (hz1:z.cells.size=3) (k8:bytes≤64) {v:Value} {es:List lG} (hown:iB base W v es) (hs:a.eval s=v) (G:lG)
  (hx:a.eval x=.slice (some ⟨W.heap.size,0,none⟩) 1 1) (hu:au (fun b=>some b≠v.ownBlock) W (.agg #[G.1.1,G.1.2]) (flat G.2)) (n:Nat) (mE:es.length=n) (hn:n≤1000000) (hbase:base≤W.heap.size)
  (h:∀g cap w',iB base w' (.slice (some ⟨g,0,none⟩) (n+1) cap) (es++[G])→W.grownBy w' v.ownBlock→Below base W w'→wpList P ops Q rest (a.put o.dst (.slice (some ⟨g,0,none⟩) (n+1) cap)) w') :
  wpList P ops Q (o::rest) a (W.alloc (.cells #[G.1.1,G.1.2,.string (aV G.2)] 96)):=by
 subst mE;obtain ⟨i,hi,hzz⟩:=Option.map_eq_some_iff.1 hinfo;simp only [Prod.mk.injEq] at hzz;obtain ⟨hz,hs1,hb⟩:=hzz;obtain ⟨hown,hrows⟩:=hown;have h1:G.1.1.oneCell'=true∧G.1.2.oneCell'=true:=by
  obtain ⟨P1,N1,e,hP,hN⟩:=hu;injection e with e;have e1:G.1.1=P1∧G.1.2=N1:=by simpa using e
  obtain ⟨p,c,e2,_⟩:=aC.open hP;obtain ⟨q,d,e3,_⟩:=aC.open hN;rw [e1.1,e1.2,e2,e3];exact ⟨rfl,rfl⟩
 refine wpList_append_lies _ hgd s x t ho base 96 i z 3 bytes ht hi hz hs1 hb hz1 (by omega) v es.length (eY es) hs (hown.alloc _) ⟨W.heap.size,0,none⟩ 1 1 (gM G) hx rfl ?_ (fun q hq=>by
  unfold gM at hq;rcases List.mem_cons.1 hq with e | hq
  ·subst e;exact h1.1
  ·rcases List.mem_cons.1 hq with e | hq
   ·subst e;exact h1.2
   ·rw [List.mem_singleton.1 hq];rfl) (by omega)
  (by unfold maxLen;omega) ?_ (by simp;omega) _ rfl fun g cap w' h2 h3 h4 _=>?_
 ·intro j u' hj
  match j with
  | 0 =>
   (obtain rfl:G.1.1=u':=by simpa [gM] using hj);exact aK W _ _ 0
  | 1 =>
   (obtain rfl:G.1.2=u':=by simpa [gM] using hj);exact aK W _ _ 1
  | 2 =>
   (obtain rfl:Value.string (aV G.2)=u':=by simpa [gM] using hj);exact aK W _ _ 2
  | j+3=>simp [gM] at hj
 ·have:(es.length+1)*bytes≤(es.length+1)*64:=Nat.mul_le_mul_left _ k8
  omega
 ·have hg:=gm h3
  have zb:∀b:Nat,some b≠v.ownBlock→b<W.heap.size→some b≠(Value.slice (some ⟨g,0,none⟩) (es.length+1) cap).ownBlock:=fun b hb hlt e=>by
   simp only [Value.ownBlock,Option.some.injEq] at e;rcases h4 with h4 | h4
   ·exact hb (by rw [h4,e])
   ·rw [World.size_alloc] at h4;omega
  have hkeep:∀ {u':Value} {y':aD},au (fun b=>some b≠v.ownBlock) W u' y'→au (fun b=>some b≠(Value.slice (some ⟨g,0,none⟩) (es.length+1) cap).ownBlock) w' u' y':=fun hi'=>by obtain ⟨P1,N1,e,hP,hN⟩:=hi';have k:Kept (fun b=>some b≠v.ownBlock∧b<W.heap.size) W w':=fun b hb hlt=>hg.block b hlt hb.1;exact ⟨P1,N1,e,(aj.keep (hP.sub fun b hb hlt=>⟨hb,hlt⟩) k).sub fun b hb _=>zb b hb.1 hb.2,(ah.keep (hN.sub fun b hb hlt=>⟨hb,hlt⟩) k).sub fun b hb _=>zb b hb.1 hb.2⟩
  refine h g cap w' ⟨by rw [List.length_append,Hy];exact h2,fun x hx=>?_⟩ hg (Below.grown (Below.refl _ _) hg hbase fun k hk=>(World.ownsRow.lt hown k hk).1);rcases List.mem_append.1 hx with hx | hx
  ·exact hkeep (hrows x hx)
  ·rw [List.mem_singleton.1 hx];exact hkeep hu
end
def A2 (x y:lG):Int:=if Lib.compareBytes (bT x.2) (bT y.2)<0 then -1 else if 0<Lib.compareBytes (bT x.2) (bT y.2) then 1 else 0
theorem A3 (x y:lG):ltOf A2 x y=decide (Lib.compareBytes (bT x.2) (bT y.2)<0):=by
 unfold ltOf A2;split
 ·rename_i h;simp [h]
 ·rename_i h
  split<;>simp [h]
theorem KI:SWO (ltOf A2) where
 irrefl x:=by rw [A3,um];simp
 trans x y z h1 h2:=by
  rw [A3] at *
  simp only [decide_eq_true_eq] at *
  exact rU h1 h2
 ntrans x y z h1 h2:=by
  rw [A3] at *
  simp only [decide_eq_false_iff_not] at *
  intro h3
  by_cases e:Lib.compareBytes (bT x.2) (bT y.2)=0
  ·rw [nJ e] at h3;exact h2 h3
  ·have h4:=lT (bT x.2) (bT y.2)
   exact h2 (rU (show Lib.compareBytes (bT y.2) (bT x.2)<0 by omega) h3)
set_option maxHeartbeats 400000 in
theorem Qp (x y:lG) (W:World) :
  Calls Tryz.prog 123 #[.agg (gM x).toArray,.agg (gM y).toArray] W fun e w'=>e=.returned (.int .i64 (A2 x y))∧∃q os,w'=grow (W.drewN q) os:=by
 have HC:Hid (A2 x y=if Lib.compareBytes (bT x.2) (bT y.2)<0 then -1 else if 0<Lib.compareBytes (bT x.2) (bT y.2) then 1 else 0):=rfl;have hkx:(aV x.2).toList=bT x.2:=by rw [toList_data];rfl
 have Ws:(aV y.2).toList=bT y.2:=by rw [toList_data];rfl
 have HL:Hid (Op.bytesLess (aV x.2).toList (aV y.2).toList=decide (Lib.compareBytes (bT x.2) (bT y.2)<0)):=by unfold Hid;rw [hkx,Ws];exact uJ _ _
 have HQ:Hid (((aV x.2).toList==(aV y.2).toList)=decide (Lib.compareBytes (bT x.2) (bT y.2)=0)):=by
  unfold Hid;rw [hkx,Ws];by_cases e:bT x.2=bT y.2
  ·rw [e,um];simp
  ·rw [beq_eq_false_iff_ne.2 e,decide_eq_false fun q=>e (nJ q)]
 have HW:Hid (∃q os,(W.alloc (.cells #[x.1.1,x.1.2,.string (aV x.2)] 96)).alloc (.cells #[y.1.1,y.1.2,.string (aV y.2)] 96)=grow (W.drewN q) os):=⟨0,_,by rw [alloc_eq_grow,alloc_eq_grow,grow_grow];rfl⟩;clear hkx Ws;unfold gM;generalize Lib.compareBytes (bT x.2) (bT y.2)=cb at *;generalize A2 x y=c at *
 go_enter Tryz.func123,Tryz.ntmps123
 go_wp2_with fail
 ·rename_i hb
  rw [HL.out] at hb;have hb:=of_decide_eq_true hb;go_ret;exact ⟨aH (by rw [HC.out,if_pos hb]),HW.out⟩
 ·rename_i hb hc
  rw [HL.out] at hb;have hb:=of_decide_eq_false hb;have hc:((aV x.2).toList==(aV y.2).toList)=false:=by simpa using hc
  rw [HQ.out] at hc;have hc:=of_decide_eq_false hc;go_ret;exact ⟨aH (by rw [HC.out,if_neg hb,if_pos (by omega)]),HW.out⟩
 ·rename_i hb hc
  rw [HL.out] at hb;have hb:=of_decide_eq_false hb;have hc:((aV x.2).toList==(aV y.2).toList)=true:=by simpa using hc
  rw [HQ.out] at hc;have hc:=of_decide_eq_true hc;go_ret;exact ⟨aH (by rw [HC.out,if_neg hb,if_neg (by omega)]),HW.out⟩
theorem Te {S:Nat→Prop} {w:World} {x:lG} (h:au S w (.agg #[x.1.1,x.1.2]) (flat x.2)):x.1.1.oneCell'=true∧x.1.2.oneCell'=true:=by
 obtain ⟨P1,N1,e,hP,hN⟩:=h;injection e with e;have e1:x.1.1=P1∧x.1.2=N1:=by simpa using e
 obtain ⟨p,c,e2,_⟩:=aC.open hP;obtain ⟨q,d,e3,_⟩:=aC.open hN;rw [e1.1,e1.2,e2,e3];exact ⟨rfl,rfl⟩
theorem Nj {base:Nat} {w:World} {v:Value} {es:List lG} (h:iB base w v es) (hne:es≠[]) (hn:es.length≤1000000) :
  Calls Tryz.prog 122 #[v,.func (.func 123) #[] #[]] w fun e w'=>e=.returned (.tuple #[])∧w.grownBy w' v.ownBlock∧∃es':List lG,es'.Perm es∧(es'.map (·.2)).Pairwise eW ∧
   ∃g cap,v=.slice (some ⟨g,0,none⟩) es'.length cap∧∀k,k<es'.length→w'.cell? ⟨g,k*3,none⟩=some (ge es' k).1.1∧w'.cell? ⟨g,k*3+1,none⟩=some (ge es' k).1.2∧w'.cell? ⟨g,k*3+2,none⟩=some (.string (aV (ge es' k).2)):=by
 obtain ⟨ho,hT⟩:=h;obtain ⟨x0,hx0⟩:∃x,x∈es:=List.exists_mem_of_ne_nil _ hne;have hl0:0<es.length:=List.length_pos_iff.2 hne;letI:Inhabited {x // x∈es}:=⟨⟨x0,hx0⟩⟩;obtain ⟨blk,cap,hv⟩:∃blk cap,v=.slice (some ⟨blk,0,none⟩) es.length cap:=by
  rcases ho.2 with ⟨_,h0⟩ | ⟨g,cap,cur,e,_⟩
  ·exfalso
   have:=h0;omega
  ·exact ⟨g,cap,e⟩
 subst hv;have hblk:blk<w.heap.size:=(World.ownsRow.lt ho blk rfl).2;have hsize:(es.attach.toArray).size=es.length:=by simp
 have hget:∀i,i<es.length→((es.attach.toArray)[i]!).1=ge es i:=fun i hi=>by rw [getElem!_pos _ _ (by simpa using hi)];simp [ge,hi]
 have hfz:∀j,w.frozen? ⟨blk,j,none⟩=false:=fun j=>by
  rcases ho.2 with ⟨e,_⟩ | ⟨g',cap',cur,hs',_,hc',_⟩
  ·cases e
  ·injection hs' with hs1
   injection hs1 with hs1;injection hs1 with hs1;subst hs1;simp [World.frozen?,hc']
 have hH:HoldsK (fun x:{x // x∈es}=>gM x.1) 3 w blk 0 es.attach.toArray:=by
  intro j hj;rw [size_flatK,hsize] at hj;refine ⟨?_,by rw [Nat.zero_add];exact hfz j⟩;rw [get_flatK _ _ _ _ (by rw [hsize];exact hj),Nat.zero_add,ho.cellAt j hj];have hi:j / 3<es.length:=by omega
  obtain ⟨c1,c2,c3⟩:=Du es (j / 3) hi;show _=some ((gM ((es.attach.toArray)[j / 3]!).1)[j % 3]!);rw [hget _ hi];have h3:j % 3=0∨j % 3=1∨j % 3=2:=by omega
  rcases h3 with h3 | h3 | h3
  ·rw [h3,show (eY es)[j]? = (eY es)[j / 3*3]? by congr 1;omega,c1];simp [gM]
  ·rw [h3,show (eY es)[j]? = (eY es)[j / 3*3+1]? by congr 1;omega,c2];simp [gM]
  ·rw [h3,show (eY es)[j]? = (eY es)[j / 3*3+2]? by congr 1;omega,c3];simp [gM]
 have hgb:∀(m:Nat) (os:Array Obj) (dk:Array {x // x∈es}),w.grownBy (sortWorldK (fun x:{x // x∈es}=>gM x.1) 3 w blk 0 m dk os) (some blk):=fun m os dk=>⟨rfl,rfl,rfl,size_sortWorldK_c _ _ _ _ _ _ _ _,fun b hb hne=>dR (enc:=id) (fun e=>hne (by rw [e])) hb⟩;have hcmp:CmpLays Tryz.prog 123 #[] (fun x:{x // x∈es}=>gM x.1) 3 (fun x y=>A2 x.1 y.1) blk 0 es.attach.toArray.size w:=fun m os dk _ x y=>Qp x.1 y.1 _
 have hcon:=AnyQ.slices_SortFunc Tryz.sortEnt 3 Tryz.isAgg96 Tryz.sizeOf96 (fun x:{x // x∈es}=>gM x.1) (fun _=>rfl) (fun x u hu=>by
   obtain ⟨o1,o2⟩:=Te (hT x.1 x.2);unfold gM at hu;rcases List.mem_cons.1 hu with e | hu
   ·subst e;exact o1
   ·rcases List.mem_cons.1 hu with e | hu
    ·subst e;exact o2
    ·rw [List.mem_singleton.1 hu];rfl) (fun x y=>A2 x.1 y.1) ⟨fun x=>KI.irrefl x.1,fun x y z=>KI.trans x.1 y.1 z.1,fun x y z=>KI.ntrans x.1 y.1 z.1⟩ 123 #[] blk 0 cap es.attach.toArray w (enters_of Tryz.func123 (by kernel_rfl) rfl) hcmp hH hblk (by rw [hsize];omega)
 rw [hsize] at hcon;refine hcon.mono fun e w' ⟨he,d',m,os,R3,Vz,hw⟩=>⟨he,by rw [hw];exact hgb m os d',d'.toList.map (·.1),?_,?_,blk,cap,?_,?_⟩
 ·obtain ⟨hsz,_,mJ⟩:=R3
  have e1:d'.extract 0 es.length=d':=by rw [← hsize,← hsz];exact Array.extract_size
  have e2:es.attach.toArray.extract 0 es.length=es.attach.toArray:=by rw [← hsize];exact Array.extract_size
  rw [e1,e2] at mJ;have h2:=mJ.map (fun (x:{x // x∈es})=>x.1);rw [List.toList_toArray,List.attach_map_subtype_val] at h2;exact h2
 ·obtain ⟨hsz,_,_⟩:=R3
  rw [hsize] at hsz;rw [List.map_map,List.pairwise_map,List.pairwise_iff_getElem];intro i j hi hj hij;have hi':i<d'.size:=by simpa using hi
  have hj':j<d'.size:=by simpa using hj
  have h3:=Vz i j (Nat.zero_le _) hij (by omega);rw [getElem!_pos d' j hj',getElem!_pos d' i hi'] at h3;have h4:ltOf A2 (d'[j]'hj').1 (d'[i]'hi').1=false:=h3;rw [A3,decide_eq_false_iff_not] at h4;show Lib.compareBytes (bT (d'.toList[i]'(by simpa using hi)).1.2) (bT (d'.toList[j]'(by simpa using hj)).1.2)≤0;rw [Array.getElem_toList,Array.getElem_toList];have:=lT (bT (d'[j]'hj').1.2) (bT (d'[i]'hi').1.2);omega
 ·have:d'.size=es.length:=by rw [R3.1,hsize]
  simp [this]
 ·intro k hk
  have hk':k<d'.size:=by simpa using hk
  have Wt:=holdsK_sortWorldK_c (fun x:{x // x∈es}=>gM x.1) 3 w blk 0 es.attach.toArray d' m os hH hblk R3.1;have hge:ge (d'.toList.map (·.1)) k=(d'[k]!).1:=by rw [getElem!_pos d' k hk'];simp [ge,hk']
  have c0:=(Wt.cell (i:=k) (c:=0) hk' (by decide)).1;have c1:=(Wt.cell (i:=k) (c:=1) hk' (by decide)).1;have c2:=(Wt.cell (i:=k) (c:=2) hk' (by decide)).1;rw [Nat.zero_add] at c0 c1 c2;rw [hge,hw];exact ⟨c0,c1,c2⟩
end
end Go.Proofs.YthgabkgmkolobaaGreat
