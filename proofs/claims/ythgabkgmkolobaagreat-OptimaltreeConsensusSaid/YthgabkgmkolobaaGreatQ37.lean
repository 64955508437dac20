/- optimaltree.places. The contracts of .. -/
import Derived.Deep.RegionWith
import Derived.Shelf.Bits.Mul64
import Derived.Laws.CopyOwn
import Derived.Deep.RegionLaw
import Derived.RegionTactic
import Derived.Test.YthgabkgmkolobaaGreatQ34
set_option maxRecDepth 100000
set_option maxHeartbeats 4000000
namespace Go.Proofs.YthgabkgmkolobaaGreat
section
open Go.RowKit Go.Deep
def A7 (t:ax) (amd:List ByteArray) (n:Nat):List Int:=(List.range n).map fun j=>dD amd (gs t.ns (gi (ay t.ns) j).toNat)
theorem CH (t:ax) (amd:List ByteArray) (n:Nat):(A7 t amd n).length=n:=by simp [A7]
theorem acQ (t:ax) (amd:List ByteArray) (n:Nat):A7 t amd (n+1)=A7 t amd n++[dD amd (gs t.ns (gi (ay t.ns) n).toNat)]:=by simp [A7,List.range_succ]
theorem ZQ {t:ax} {amd:List ByteArray} {n j:Nat} (h:j<n):gi (A7 t amd n) j=dD amd (gs t.ns (gi (ay t.ns) j).toNat):=by simp [A7,gi,h]
def A9 (t:ax) (amd:List ByteArray):Bool:=decide (aA t=0)&&mV t amd
def FP (w:World) (t:ax) (amd:List ByteArray) (e:Ending) (w':World):Prop :=
 Up w w'/\∃v,e=.returned (.tuple #[v,.bool (A9 t amd)])/\(A9 t amd=true->af (fun b=>w.heap.size<=b) w' v (A7 t amd (ay t.ns).length))
theorem WV {w W:World} {t:ax} {amd:List ByteArray} {v:Value} (h:A9 t amd=false) (hu:Up w W):FP w t amd (.returned (.tuple #[v,.bool false])) W :=
 ⟨hu,v,by rw [h],fun e=>by rw [h] at e;cases e⟩
theorem R2 (S:Nat->Prop) (w:World) (v vn:Value) (t:ax) (amd:List ByteArray) (hT:aG S w v t) (hp:t.ps.length<=1000000) (hn:t.ns.length<=1000000) (hz:∀k,(gs t.ns k).size<=70000) (h:aj S w vn amd) (hnn:amd.length<=1000000) :
  Calls Tryz.prog 108 #[v,vn] w (FP w t amd):=by
 obtain ⟨P,N,rfl,hP,hN⟩:=hT;obtain ⟨np,nc,rfl,ali,-⟩:=aq.open hN;have hN:aj S w (.slice np t.ns.length nc) t.ns:=hN;obtain ⟨pp,pc,rfl,alj,-⟩:=aq.open hP;have hP:af S w (.slice pp t.ps.length pc) t.ps:=hP;obtain ⟨mp,mc,rfl,alk,-⟩:=aq.open h;have h:aj S w (.slice mp amd.length mc) amd:=h;have bK:Up w (w.alloc (.cells #[.slice pp t.ps.length pc,.slice np t.ns.length nc] 39)):=Up.alloc _ _;have hrb:=iN (w:=w) (P:=.slice pp t.ps.length pc) (N:=.slice np t.ns.length nc) (T:=39);have hsz:w.heap.size<(w.alloc (.cells #[.slice pp t.ps.length pc,.slice np t.ns.length nc] 39)).heap.size:=by simp
 obtain ⟨q0,q1,-,-⟩:=boxed hrb;have A5:=aa (CY S (w.alloc (.cells #[.slice pp t.ps.length pc,.slice np t.ns.length nc] 39)) (.agg #[.slice pp t.ps.length pc,.slice np t.ns.length nc]) t ⟨_,_,rfl,af.keep hP (bK.kept S),aj.keep hN (bK.kept S)⟩ hp hn hz);have HN:=aa (aj.keep hN (bK.kept S));have HM:=aa (aj.keep h (bK.kept S));have cB:=aa bK;have dM:=aa hsz;have HB:Hid (A9 t amd=(decide (aA t=0)&&(decide ((ay t.ns).length=amd.length)&&!kN t amd))):=rfl;have ux:Hid (∀n,n<(ay t.ns).length->∃k:Nat,gi (ay t.ns) n=k/\k<t.ns.length):=fun n hn=>by obtain ⟨k,h1,h2,_⟩:=vg hn;exact ⟨k,h1,h2⟩
 have dG:Hid ((ay t.ns).length<=1000000):=aB (sK _) hn;have jk:Hid (∀n,n<(ay t.ns).length->dD amd (gs t.ns (gi (ay t.ns) n).toNat)<0->kN t amd=true):=fun n hn h0=>dx.2 ⟨n,bu.2 hn,decide_eq_true h0⟩;have R3:Hid ((∀n,n<(ay t.ns).length->¬dD amd (gs t.ns (gi (ay t.ns) n).toNat)<0)->kN t amd=false):=fun hh=>any_none fun j hj=>decide_eq_false (hh j hj);clear hP hN h bK hrb hsz hz;go_in;go_wp2_with fail;generalize w.alloc (.cells #[.slice pp t.ps.length pc,.slice np t.ns.length nc] 39)=w1 at *;refine A5.out.mono ?_;rintro e w2 ⟨hb,⟨h1,rfl⟩ | ⟨h1,lv,rfl,hlv⟩⟩
 ·have s6:Hid (A9 t amd=false):=by unfold Hid;rw [HB.out,decide_eq_false h1];rfl
  have b7:=aa (cB.out.trans (show Up w1 w2 from hb));have xF:=aa (WV (v:=.slice none 0 0) s6.out b7.out);clear hb h1 A5;go_wp2;go_ret2;exact xF.out
 obtain ⟨lp,lc,rfl,-,-⟩:=aq.open hlv;replace hlv:af (fun b=>w1.heap.size<=b) w2 (.slice lp (ay t.ns).length lc) (ay t.ns):=hlv;have aI:Up w1 w2:=hb;have b7:=aa (cB.out.trans aI);have FC:Hid (A9 t amd=(decide ((ay t.ns).length=amd.length)&&!kN t amd)):=by unfold Hid;rw [HB.out,decide_eq_true h1];rfl
 by_cases hl:(ay t.ns).length=amd.length
 ·have ake:=aa hlv
  have oB:=aa (aj.keep HN.out (aI.kept _));have ML:=aa (aj.keep HM.out (aI.kept _));have HB3:Hid (A9 t amd=!kN t amd):=by unfold Hid;rw [FC.out,decide_eq_true hl];rfl
  have HQ:=aa (And.intro (aI.cell q0) (aI.cell q1));have d1:(((ay t.ns).length:Int) != (amd.length:Int))=false:=by simp [hl]
  have HL:=aa hl;clear hb h1 hlv aI A5 q0 q1 cB HB FC hl;go_wp2_with fail;have xh:Hid (w.heap.size<=w2.heap.size):=b7.out.size;clear d1
  go_loopw [8,10,11,28] (fun a _ _ i wr=>∃k:Nat,k<=(ay t.ns).length/\i=.int .i64 k/\Hid (au w2.heap.size 3 wr a ((A7 t amd k).map (Value.int .i64))/\Up w2 wr/\∀n,n<k->¬dD amd (gs t.ns (gi (ay t.ns) n).toNat)<0)) (fun _ _ _ i _=>(ay t.ns).length - (intOf i).toNat)
  case atStart=>exact ⟨0,aF _,rfl,au.nil _ _ _,Up.refl _,fun n hn=>absurd hn (aZ _)⟩
  case round =>
   obtain ⟨k,hk,rfl,hI⟩:=hrel;obtain ⟨wo,rfl⟩:=eM wr;obtain ⟨hA,cz,hd⟩:=hI.out;by_cases hlt:k<(ay t.ns).length
   ·obtain ⟨xb,xo,rfl,qx⟩:=bU (af.keep ake.out (cz.kept _)) hlt
    obtain ⟨x,hx1,hx2⟩:=ux.out k hlt;obtain ⟨nb,no,rfl,fG⟩:=cH (aj.keep oB.out (cz.kept _)) hx2;have qV:Hid (Calls Tryz.prog 95 #[.slice mp amd.length mc,.string (gs t.ns x)] wo fun e w'=>e=.returned (.int .i64 (dD amd (gs t.ns x)))/\wo=w'):=Bl _ wo _ amd.length (fun j=>gs amd j) (gs t.ns x) (aj.keep ML.out (cz.kept _)) hnn;(have sV:Hid ((A7 t amd (k+1)).map (Value.int .i64)=(A7 t amd k).map (Value.int .i64)++[.int .i64 (dD amd (gs t.ns x))]):=by unfold Hid;rw [acQ,cg,hx1,fc];rfl);(have kH:Hid (((A7 t amd k).map (Value.int .i64)).length=k):=by unfold Hid;rw [aD,CH]);have acR:=aa (jk.out k hlt);have q0:=cz.cell HQ.out.1;have q1:=cz.cell HQ.out.2;rw [hx1] at qx;have k8:=aa hx1;have HA:=aa hA;have KC:=aa cz;have HD:=aa hd;(have i1:(0:Int)<=(k:Int):=by omega);(have i2:(k:Int)<((ay t.ns).length:Int):=by omega);(have i3:(k:Int)<1000000:=by have:=dG.out;omega);(have i4:(0:Int)<=(x:Int):=by omega);(have i5:(x:Int)<(t.ns.length:Int):=by omega);have hsz:=cz.size;clear hI hA cz hd hx1;by_cases hf:dD amd (gs t.ns x)<0
    ·have s6:Hid (A9 t amd=false):=by unfold Hid;rw [HB3.out,acR.out (by rw [k8.out,fc];exact hf)];rfl
     have xF:=aa (WV (v:=.slice none 0 0) s6.out (b7.out.trans KC.out));generalize dD amd (gs t.ns x)=fx at *;generalize gs t.ns x=nm at *;clear sV acR k8;go_wp2_with fail;refine qV.out.mono ?_;rintro e w' ⟨rfl,rfl⟩;go_wp2;go_ret2;exact xF.out
    ·have HF:=aa hf
     (have HFG:Hid (dD amd (gs t.ns (gi (ay t.ns) k).toNat)=dD amd (gs t.ns x)):=by unfold Hid;rw [k8.out,fc]);generalize dD amd (gs t.ns x)=fx at *;generalize gs t.ns x=nm at *;have h9:(0:Int)<=fx:=Int.not_lt.1 hf;obtain ⟨y,rfl⟩:∃y:Nat,fx=y:=⟨fx.toNat,by omega⟩;clear acR k8 hf h9;obtain ⟨ap,ac,rfl,-⟩:=HA.out.form kH.out;(have d9:decide ((y:Int)<0)=false:=by simp);go_wp2_with fail;refine qV.out.mono ?_;rintro e w' ⟨rfl,rfl⟩;go_wp2_with (at_builtin;refine Bp wo rfl _ _ 26 rfl w2.heap.size 3 _ 8 Tryz.underlying26 Tryz.iD rfl (by decide) HA.out rfl _ rfl rfl k kH.out (by omega) hsz ?_;intro g cap w8 hown1 hg1 gC);(have R4:Hid (au w2.heap.size 3 w8 (.slice (some ⟨g,0,none⟩) (k+1) cap) ((A7 t amd (k+1)).map (Value.int .i64))):=by unfold Hid;rw [sV.out];exact hown1);have wN:Hid (Up w2 w8):=iz KC.out gC;clear hown1 hg1 gC
     go_roundw
     case rel=>exact ⟨k+1,by omega,by go_num,R4.out,wN.out,fun n hn=>if e:n=k then by subst e;rw [HFG.out];exact Int.not_lt.2 HF.out else Int.not_lt.2 (HD.out n (by omega))⟩
     case measure=>simp [intOf];omega
   ·obtain rfl:k=(ay t.ns).length:=by omega
    (have s6:Hid (A9 t amd=true):=by unfold Hid;rw [HB3.out,R3.out fun n hn=>Int.not_lt.1 (hd n hn)];rfl);obtain ⟨ap,ac,rfl,-⟩:=hA.form (n:=(ay t.ns).length) (by rw [aD,CH]);have hi:=hA.ints;have CB:Hid (FP w t amd (.returned (.tuple #[.slice ap (ay t.ns).length ac,.bool true])) wo):=⟨b7.out.trans cz,_,by rw [s6.out],fun _=>hi.sub fun b hb _=>aB xh.out hb⟩;clear hI hA cz hd hi;go_wp2;go_ret2;exact CB.out
 ·have s6:Hid (A9 t amd=false):=by unfold Hid;rw [FC.out,decide_eq_false hl];rfl
  have d1:¬((ay t.ns).length:Int)=(amd.length:Int):=by omega
  have xF:=aa (WV (v:=.slice none 0 0) s6.out b7.out);clear hb h1 A5;go_wp2;go_ret2;exact xF.out
def U2 (w:World) (t:ax) (st:List Int) (cs:List (List Int)) (e:Ending) (w':World):Prop :=
 ∃tb tof ahL rq rc,e=.returned (.slice (some ⟨tb,tof,none⟩) t.ps.length ahL)/\w'.cell? ⟨tb,tof,none⟩=some (.slice rq cs.length rc)/\af Any w' (.slice rq cs.length rc) (bZ t st cs 0)/\Up w w'
theorem tb1 {w w':World} {t:ax} {st:List Int} {cs:List (List Int)} {e:Ending} (hv:Valid t st cs) (h:Ju w (uj t st cs) e w'):U2 w t st cs e w':=by
 obtain ⟨hb,v,rfl,hr⟩:=h;have hp:=(aH hv.tree).1;obtain ⟨p,cap,rfl,_,H⟩:=dy hr;obtain ⟨b,off,q,c,rfl,hc,hi⟩:=H 0 (by rw [O9];exact hp);rw [aeh _ _ _ hp] at hc hi;rw [lD] at hc hi;rw [O9];exact ⟨b,off,cap,q,c,rfl,by rw [mZ] at hc;exact hc,hi,hb⟩
theorem kR.made (w:World) (T:TypeId):kR w.heap.size T (w.alloc (.cells #[] T)) (.slice (some ⟨w.heap.size,0,none⟩) 0 0) []:=⟨[],rfl,au.made _ _,fun _ hi=>absurd hi (aZ _)⟩
end
end Go.Proofs.YthgabkgmkolobaaGreat
namespace Go.Proofs
open Go.Shelf
def Tryz.lays212_ren:Go.Shelf.Ren:=⟨fun | 212=>269 | 263=>279 | 264=>280 | n=>n,fun | 46=>154 | 51=>191 | 53=>193 | 146=>275 | 148=>277 | n=>n,fun | n=>n⟩
theorem Tryz.lays212:Go.Proofs.Lays.n212 Tryz.prog Tryz.lays212_ren:={
 mixed:=by kernel_rfl
 f212:=Tryz.func269.trans (congrArg some (by kernel_rfl))
 f263:=Tryz.func279.trans (congrArg some (by kernel_rfl))
 f264:=Tryz.func280.trans (congrArg some (by kernel_rfl))
 t46:=Tryz.underlying154
 a46:=Tryz.isAgg154
 z46:=Tryz.sizeOf154
 v46:=Tryz.zeroValue154
 t51:=Tryz.underlying191
 a51:=Tryz.isAgg191
 z51:=Tryz.sizeOf191
 v51:=Tryz.zeroValue191
 t53:=Tryz.underlying193
 a53:=Tryz.isAgg193
 z53:=Tryz.sizeOf193
 v53:=Tryz.zeroValue193
 t146:=Tryz.underlying275
 a146:=Tryz.isAgg275
 z146:=Tryz.sizeOf275
 v146:=Tryz.zeroValue275
 t148:=Tryz.underlying277
 a148:=Tryz.isAgg277
 z148:=Tryz.sizeOf277
 v148:=Tryz.zeroValue277 }
theorem Tryz.bits_Mul (x y:Nat) (hx:x<18446744073709551616) (hy:y<18446744073709551616) (w:World) :
  Calls Tryz.prog 269 #[.int .u64 x,.int .u64 y] w fun e w'=>e=.returned (.tuple #[.int .u64 ((x*y / 18446744073709551616:Nat):Int),.int .u64 ((x*y % 18446744073709551616:Nat):Int)])/\w'=w:=Any.bits_Mul Tryz.lays212 x y hx hy w
end Go.Proofs
namespace Go.Proofs.YthgabkgmkolobaaGreat
section
open Go.RowKit Go.Deep
theorem mul_one (N:Nat) (hN:N<=1000) (w:World):Calls Tryz.prog 269 #[.int .u64 1,.int .u64 N] w fun e w'=>e=.returned (.tuple #[.int .u64 0,.int .u64 N])/\w=w':=by
 have h:=Tryz.bits_Mul 1 N (by decide) (by omega) w;rw [Nat.one_mul,Nat.div_eq_of_lt (by omega),Nat.mod_eq_of_lt (by omega)] at h;exact h.mono fun _ _ ⟨a,b⟩=>⟨a,b.symm⟩
def WW (n i:Nat):Value:=if i<n then .int .i64 1 else .int .i64 0
def ja (N n:Nat):List Value:=(List.range N).map (WW n)
theorem wR (N n:Nat):(ja N n).length=N:=by simp [ja]
theorem Ba {N n i:Nat} (h:i<N):(ja N n)[i]? = some (if i<n then .int .i64 1 else .int .i64 0):=by simp [ja,h,WW]
theorem acS {N n m:Nat} (h:n+m<=N):((ja N n).toArray.toList.take n++List.replicate m (.int .i64 1)++(ja N n).toArray.toList.drop (n+(List.replicate m (Value.int .i64 1)).length))=ja N (n+m):=by
 apply xL;intro i;by_cases hi:i<N
 ·rw [Ba hi,dS,adE]
  simp only [jl,wR,Jd];by_cases h1:i<n
  ·rw [if_pos (by omega),List.getElem?_take,if_pos h1,Ba hi,if_pos h1,if_pos (by omega)]
  ·rw [if_neg (by omega),adE]
   by_cases h2:i<n+m
   ·rw [if_pos (by rw [Jd];omega),if_pos h2,List.getElem?_replicate,if_pos (by omega)]
   ·rw [if_neg (by rw [Jd];omega),if_neg h2,List.getElem?_drop]
    simp only [Jd];(have e:n+m+(i - min n N - m)=i:=by omega);rw [e,Ba hi,if_neg (by omega)]
 ·rw [xM (by simp [wR];omega),xM (by simp [wR];omega)]
theorem NR (W:World) (g N n m dCap:Nat) (ad:Addr) (sLen sCap dLen:Nat) (hg:W.heap[g]? = some (.cells (ja N n).toArray 3 (0,0))) (hm:m=Nat.min sLen dLen) (XL:n+m<=N)
  (hs:∀j,j<m->W.cell? (ad.add j)=some (.int .i64 1)) :
  Sem.run Tryz.prog (Builtin.copy_ #[26,26] 3 #[.slice (some ⟨g,n,none⟩) dLen dCap,.slice (some ad) sLen sCap]) W=.ok (.int .i64 m) (W.setRow g (ja N (n+m)).toArray):=by
 have h:=run_copy_row (P:=Tryz.prog) W 26 26 3 3 g n dLen dCap ad sLen sCap (ja N n).toArray 3 (List.replicate m (.int .i64 1)) Tryz.underlying26 (by kernel_rfl) hg (by simpa using hm)
  (fun j v hj=>by
   rw [List.getElem?_replicate] at hj;split at hj
   ·injection hj with hj;subst hj;exact hs j (by assumption)
   ·cases hj) (by simpa [wR] using XL) (fun v hv=>by rw [List.eq_of_mem_replicate hv];rfl)
 rw [acS XL,Jd] at h;exact h
theorem ZR (N:Nat):madeCells #[.int .i64 0] N=(ja N 0).toArray:=by
 apply Array.ext
 ·simp [wR,madeCells]
 ·intro i h1 h2
  simp [madeCells,ja,Nat.mod_one,WW]
theorem Bb {W:World} {g N k:Nat} {T:TypeId} (h:W.heap[g]? = some (.cells (ja N k).toArray T (0,0))) {j:Nat} (hj:j<N):W.cell? ⟨g,j,none⟩=some (if j<k then .int .i64 1 else .int .i64 0):=by
 have h2:=Ba (n:=k) hj;rw [<- h2];simp [World.cell?,h]
def ahM (w:World) (N:Nat) (e:Ending) (w':World):Prop:=∃g,e=.returned (.slice (some ⟨g,0,none⟩) N N)/\w.heap.size<=g/\Up w w'/\w'.heap[g]? = some (.cells (ja N N).toArray 3 (0,0))
theorem R5 (w:World) (b off:Nat) (N:Nat) (Jm:1<=N) (hN:N<=1000) (hc:w.cell? ⟨b,off,none⟩=some (.int .i64 1)) :
  Calls Tryz.prog 233 #[.slice (some ⟨b,off,none⟩) 1 1,.int .i64 N] w (ahM w N):=by
 have hmk:=fun W=>run_make_row' (P:=Tryz.prog) 26 3 (.int .i64 0) 8 Tryz.underlying26 Tryz.iD rfl .i64 .i64 N (by omega) (by omega) W;have d1:decide ((N:Int)<0)=false:=by simp
 have d2:decide ((9223372036854775807:Int)<(N:Int))=false:=by simp;omega
 have nV:(w.alloc (.cells (madeCells #[.int .i64 0] N) 3)).heap[w.heap.size]? = some (.cells (ja N 0).toArray 3 (0,0)):=by rw [blk_alloc_new,ZR]
 have uZ:=Up.alloc w (.cells (madeCells #[.int .i64 0] N) 3);have hc0:=uZ.cell hc;have UC:=aa nV;have Ef:=aa uZ;clear nV uZ
 have qw:=NR (w.alloc (.cells (madeCells #[.int .i64 0] N) 3)) w.heap.size N 0 1 N ⟨b,off,none⟩ 1 1 N UC.out (by show 1=min 1 N;omega) (by omega) (fun j hj=>by
  obtain rfl:j=0:=by omega
  exact hc0)
 have Jr:Hid (((w.alloc (.cells (madeCells #[.int .i64 0] N) 3)).setRow w.heap.size (ja N (0+1)).toArray).heap[w.heap.size]? = some (.cells (ja N (0+1)).toArray 3 (0,0))):=setRow_heap _ _ _ _ _ _ UC.out;have cB:Hid (Up w ((w.alloc (.cells (madeCells #[.int .i64 0] N) 3)).setRow w.heap.size (ja N (0+1)).toArray)):=below_setRow Ef.out (ah _) _;clear UC Ef;go_in;go_wp2_with (go_at_call 269;refine (mul_one N hN _).mono ?_;rintro e w' ⟨rfl,rfl⟩);generalize (w.alloc (.cells (madeCells #[.int .i64 0] N) 3)).setRow w.heap.size (ja N (0+1)).toArray=w1 at *
 go_loopw [8] (fun n wr=>∃k:Nat,1<=k/\k<=N/\n=.int .i64 k/\Hid (wr.heap[w.heap.size]? = some (.cells (ja N k).toArray 3 (0,0)))/\Hid (Up w wr)) (fun n _=>N - (intOf n).toNat)
 case atStart=>exact ⟨1,ah _,Jm,rfl,Jr,cB⟩
 case round =>
  obtain ⟨k,hk1,hk2,rfl,HR,HU⟩:=hrel;obtain ⟨wo,rfl⟩:=eM wr;by_cases hlt:k<N
  ·obtain ⟨m,hm⟩:∃m:Nat,m=Nat.min k (N - k):=⟨_,rfl⟩
   have hm2:m=min k (N - k):=hm;have agm:Sem.run Tryz.prog (Builtin.copy_ #[26,26] 3 #[.slice (some ⟨w.heap.size,k,none⟩) (N - k) (N - k),.slice (some ⟨w.heap.size,0,none⟩) k N]) wo.drew=.ok (.int .i64 m) (wo.drew.setRow w.heap.size (ja N (k+m)).toArray) :=
    NR wo.drew w.heap.size N k m (N - k) ⟨w.heap.size,0,none⟩ k N (N - k) HR.out hm (by omega) (fun j hj=>by
     have h:=Bb HR.out (j:=j) (by omega);rw [if_pos (by omega)] at h;have e:(⟨w.heap.size,0,none⟩:Addr).add j=⟨w.heap.size,j,none⟩:=by simp [Addr.add];omega
     rw [e];exact h)
   (have hmk:1<=m:=by omega);(have hmN:k+m<=N:=by omega);have G2:Hid ((wo.drew.setRow w.heap.size (ja N (k+m)).toArray).heap[w.heap.size]? = some (.cells (ja N (k+m)).toArray 3 (0,0))):=setRow_heap _ _ _ _ _ _ (show wo.drew.heap[w.heap.size]? = _ from HR.out);have b7:Hid (Up w (wo.drew.setRow w.heap.size (ja N (k+m)).toArray)):=below_setRow (show Up w wo.drew from below_drewN HU.out 1) (ah _) _;clear hm hm2 HR HU;go_wp2
   go_region
   all_goals
    go_wp2
    go_roundw
    case rel=>exact ⟨k+m,by omega,by omega,by go_num,G2,b7⟩
    case measure=>simp [intOf];omega
  ·obtain rfl:k=N:=by omega
   go_wp2;go_ret;exact ⟨_,rfl,ah _,HU.out,HR.out⟩
def R6 (w wr:World) (g0 N k:Nat):Prop:=Up w wr/\∃f,wr.rowIs g0 26 N f/\∀i,i<k->af (fun b=>b≠g0) wr (f i) (r5 N i)
theorem R7 {N k j:Nat} (hj:j<N):(if j=k then Value.int .i64 0 else if j<N then .int .i64 1 else .int .i64 0)=.int .i64 (gi (r5 N k) j):=by
 rw [Wy hj];unfold Ro;by_cases h:j=k
 ·rw [if_pos h,if_pos h.symm]
 ·rw [if_neg h,if_pos hj,if_neg (fun e=>h e.symm)]
theorem R6.step {w wr w8:World} {g0 g N k:Nat} (h:R6 w wr g0 N k) (hk:k<N) (hu:Up wr w8) (hg:wr.heap.size<=g) (hr:w8.heap[g]? = some (.cells (ja N N).toArray 3 (0,0))) (hw0:w.heap.size<=g0) :
  R6 w ((w8.setCell ⟨g0,k,none⟩ (.slice (some ⟨g,0,none⟩) N N)).setCell ⟨g,k,none⟩ (.int .i64 0)) g0 N (k+1):=by
 obtain ⟨cQ,f,hrow,hin⟩:=h;have hg0:=hrow.lt;have hne:g0≠g:=by omega
 have KD:w8.rowIs g0 26 N f:=hrow.of_block (bH hu g0 hg0);have aiT:=(KD.set k (.slice (some ⟨g,0,none⟩) N N)).setOther (a:=⟨g,k,none⟩) hne (.int .i64 0);have hwg:w.heap.size<=g:=aB cQ.size hg;refine ⟨((cQ.trans hu).setCell (p:=⟨g0,k,none⟩) hw0 _).setCell (p:=⟨g,k,none⟩) hwg _,_,aiT,fun i hi=>?_⟩;by_cases hik:i=k
 ·subst hik
  simp only [if_true];refine ⟨_,_,by rw [BI],by rw [BI];exact ah _,.inr ⟨g,0,rfl,fun e=>hne e.symm,fun j hj=>?_⟩⟩;rw [BI] at hj;show _=some (Value.int .i64 (gi (r5 N i) j));rw [je,<- R7 hj];have hb:(w8.setCell ⟨g0,i,none⟩ (.slice (some ⟨g,0,none⟩) N N)).cell? ⟨g,j,none⟩=some (if j<N then .int .i64 1 else .int .i64 0):=by rw [B9 (by simpa using hne)];exact Bb hr hj
  have hb2:(w8.setCell ⟨g0,i,none⟩ (.slice (some ⟨g,0,none⟩) N N)).cell? ⟨g,i,none⟩=some (if i<N then .int .i64 1 else .int .i64 0):=by rw [B9 (by simpa using hne)];exact Bb hr hk
  by_cases e:j=i
  ·subst e;rw [if_pos rfl];exact Oi ⟨_,hb⟩
  ·rw [if_neg e]
   exact (World.cell?_setCell_other _ ⟨g,i,none⟩ ⟨g,j,none⟩ _ (fun h=>e (by injection h with _ h2;exact h2.symm))).trans hb
 ·simp only [hik,if_false]
  refine af.keep (hin i (by omega)) (w:=wr) fun b hb hl=>?_;have h1:w8.heap[b]? = wr.heap[b]?:=bH hu b hl;rw [<- h1];exact (blk_setCell_other _ _ _ _ (by simp;omega)).trans (blk_setCell_other _ _ _ _ (by simpa using hb))
theorem ahN (w:World) (N:Nat) (Jm:1<=N) (hN:N<=16):Calls Tryz.prog 171 #[.int .i64 N] w (Ju w (eE N)):=by
 have hmk:=fun W=>run_make_row' (P:=Tryz.prog) 23 26 (.slice none 0 0) 24 Tryz.underlying23 Tryz.O6 rfl .i64 .i64 N (by omega) (by omega) W;have HO:Hid (R6 w (w.alloc (.cells (madeCells #[.slice none 0 0] N) 26)) w.heap.size N 0):=⟨Up.alloc _ _,_,World.rowIs_made w (.slice none 0 0) N 26,fun _ hi=>absurd hi (aZ _)⟩;go_in;go_wp2_with fail;generalize w.alloc (.cells (madeCells #[.slice none 0 0] N) 26)=w1 at *
 go_loopw [9] (fun i wr=>∃k:Nat,k<=N/\i=.int .i64 k/\Hid (R6 w wr w.heap.size N k)) (fun i _=>N - (intOf i).toNat)
 case atStart=>exact ⟨0,aF _,rfl,HO⟩
 case round =>
  obtain ⟨k,hk,rfl,hO⟩:=hrel;obtain ⟨wo,rfl⟩:=eM wr;by_cases hlt:k<N
  ·obtain ⟨cQ,f,hrow,_⟩:=hO.out
   have hg0:=hrow.lt;have ED:=aa hrow;have HRP:=aa (R5 (wo.alloc (.cells #[.int .i64 1] 3)) wo.heap.size 0 N Jm (by omega) (aS _ _ _ 0));clear cQ hrow;go_wp2_with fail;refine HRP.out.mono ?_;rintro e w8 ⟨g,rfl,hg,hu,hr⟩;rw [aQ] at hg;have iH:Up wo w8:=(Up.alloc _ _).trans hu;have hst:=hO.out.step hlt iH (by omega) hr (ah _);have KD:=ED.out.of_block (bH iH _ hg0);have hcell:w8.cell? ⟨w.heap.size,k,none⟩=some (f k):=KD.cell hlt;have hfz:w8.frozen? ⟨w.heap.size,k,none⟩=false:=KD.frozen k;(have hcg:w8.cell? ⟨g,k,none⟩=some (.int .i64 1):=by have h:=Bb hr hlt;rw [if_pos hlt] at h;exact h);(have hfg:w8.frozen? ⟨g,k,none⟩=false:=by simp [World.frozen?,hr]);(have hne:w.heap.size≠g:=by omega);(have Bk:g≠w.heap.size:=by omega);have HST:=aa hst;clear hst KD hr hu iH ED HRP hO;go_wp2
   go_roundw
   case rel=>exact ⟨k+1,by omega,by go_num,HST⟩
   case measure=>simp [intOf];omega
  ·obtain rfl:k=N:=by omega
   go_wp2;go_ret;obtain ⟨cQ,f,hrow,hin⟩:=hO.out;refine ⟨cQ,.slice (some ⟨w.heap.size,0,none⟩) k k,rfl,f,⟨_,_,by rw [tU],by rw [tU];exact ah _,.inr ⟨_,0,rfl,trivial,fun i hi=>?_⟩⟩,fun i hi=>?_⟩
   ·rw [tU] at hi
    rw [je];exact hrow.cell hi
   ·rw [tU] at hi
    rw [acg hi];exact (hin i hi).sub fun _ _ _=>trivial
def ZT (w:World) (t:ax) (st:List Int) (e:Ending) (w':World):Prop :=
 Up w w'/\e=.returned (.tuple #[.int .i64 (fK t st (eE 16)),.int .i64 (mh t st (eE 16))])
theorem aiU:ud (eE 16)=0:=by decide +kernel
theorem Oz:(eE 16).length=16:=tU 16
theorem aiV {t:ax} (h:aA t=0) (st:List Int):mh t st (eE 16)=tr st (ay t.ns).length (-1) 16:=by
 unfold mh;rw [if_neg (fun e=>e h),if_neg (fun e=>e aiU),Oz];rfl
theorem U3 {t:ax} {st:List Int} {cs:List (List Int)} (h:mh t st cs≠0):fK t st cs=0:=by unfold fK;rw [if_neg h]
theorem acT (T:Nat->Prop) (w:World) (vr:Value) (row:List Int) (hR:af T w vr row) (hrn:row.length<=1000) :
  Calls Tryz.prog 169 #[vr] w fun e w'=>e=.returned (.tuple #[.int .i64 (dg (fun _=>0) (gi row) row.length).1,.int .i64 (dg (fun _=>0) (gi row) row.length).2])/\w=w':=aed T w vr row hR hrn
theorem afb (S:Nat->Prop) (w:World) (v vs:Value) (t:ax) (st:List Int) (hT:aG S w v t) (hS:af S w vs st) (hp:t.ps.length<=1000000) (hn:t.ns.length<=1000000) (hz:∀k,(gs t.ns k).size<=70000) (hst:st.length<=1000000) :
  Calls Tryz.prog 124 #[v,vs] w (ZT w t st):=by
 obtain ⟨P,N,rfl,hP,hN⟩:=hT;have hu:=Up.alloc w (.cells #[P,N] 39);have nt:aG S (w.alloc (.cells #[P,N] 39)) (.agg #[P,N]) t:=aG.keep ⟨P,N,rfl,hP,hN⟩ (hu.kept S);have HK:=aa (CY S _ _ t nt hp hn hz);have HU:=aa hu;have mz:=aa (iq w P N 39);have mO:=aa (jg w P N 39);have HT:=aa nt;have HS:=aa (af.keep hS (hu.kept S));have Aj:=aa hz;clear hu nt hS hP hN hz;go_in;go_wp2_with fail;generalize w.alloc (.cells #[P,N] 39)=w1 at *;refine HK.out.mono ?_;rintro e w2 ⟨hb,⟨he,rfl⟩ | ⟨he,vl,rfl,hl⟩⟩
 ·have b7:=aa (HU.out.trans (show Up w1 w2 from hb))
  have HE:=aa he;clear hb he HK;go_wp2;go_ret2;have hpe:mh t st (eE 16)=1:=by unfold mh;rw [if_pos HE.out]
  exact ⟨b7.out,by rw [U3 (by rw [hpe];decide),hpe];rfl⟩
 ·have aI:Up w1 w2:=hb
  have hc0:=aI.cell mz.out;have hc1:=aI.cell mO.out;have b7:=aa (HU.out.trans aI);have wE:=aa (HT.out.keep (aI.kept S));have sg:=aa (af.keep HS.out (aI.kept S));obtain ⟨ql,al8,rfl,_,_⟩:=aq.open hl;have HE:=aa he;have Ke:=aa (aec S w2 vs st (ay t.ns).length (-1) 16 sg.out hst);have HPE:=aa (aiV he st);clear hb he HK aI hl HU mz mO HT HS;go_wp2_with fail;refine Ke.out.mono ?_;rintro e w3 ⟨rfl,hb3⟩;have cR:Up w2 w3:=hb3;have hc0:=cR.cell hc0;have hc1:=cR.cell hc1;have eW:=aa (b7.out.trans cR);have HT3:=aa (wE.out.keep (cR.kept S));have Fo:=aa (af.keep sg.out (cR.kept S));clear hb3 cR Ke;rw [<- HPE.out];by_cases hpe:mh t st (eE 16)=0
  ·rw [hpe]
   have hv:=OL hpe;(have HF:Hid (fK t st (eE 16)=(dg (fun _=>0) (gi (bZ t st (eE 16) 0)) (eE 16).length).1):=by unfold Hid fK;rw [if_pos hpe]);have HP:=aa hpe;have EC:Hid (∀W vc,Up w3 W->aT Any W vc (eE 16)->Calls Tryz.prog 170 #[.agg #[P,N],vs,vc] W (U2 W t st (eE 16))):=fun W vc hW hR =>
    (aeg Any W _ _ _ t st (eE 16) ((HT3.out.keep (hW.kept _)).sub fun _ _ _=>trivial) (af.sub (af.keep Fo.out (hW.kept _)) fun _ _ _=>trivial) hR Aj.out hv).mono fun _ _ h=>tb1 hv h
   (have hml:(bZ t st (eE 16) 0).length<=1000:=by rw [lD,Oz];omega);(have alm:(0:Int)<(t.ps.length:Int):=by have:=(aH HE.out).1;omega);have xw:=aa hml;have HW3:=aa (Up.refl w3);have cQ:Hid (Up w3 (w3.drewN 1)):=Up.drewN w3 1;clear hpe hv hml;go_wp2_with fail
   go_region_with (first
    | (go_at_call 171;refine (ahN _ 16 (by decide) (by decide)).mono ?_;rintro e w5 ⟨qW,vc,rfl,DW⟩;have hR5:=aa DW;have hc0:=(cQ.out.trans (show Up _ w5 from qW)).cell hc0;have hc1:=(cQ.out.trans (show Up _ w5 from qW)).cell hc1;have cQ:Hid (Up w3 w5):=cQ.out.trans (show Up _ w5 from qW);clear qW DW)
    | (go_at_call 170;refine (EC.out _ _ cQ.out hR5.out).mono ?_;rintro e w6 ⟨tb,tof,ahL,rq,rc,rfl,hcell,hrow,ahO⟩;have hR6:=aa hrow;have cQ:Hid (Up w3 w6):=cQ.out.trans ahO;clear ahO hrow)
    | (go_at_call 169;refine (acT Any _ _ _ hR6.out xw.out).mono ?_;rintro e w7 ⟨rfl,rfl⟩))
   all_goals
    go_wp2;go_ret2;exact ⟨eW.out.trans cQ.out,by rw [HF.out,HP.out,Oz,lD,Oz];rfl⟩
  ·have Mz:(mh t st (eE 16) != 0)=true:=by simpa using hpe
   have HP:=aa hpe;clear hpe;have HSC:Hid (fK t st (eE 16)=0):=U3 HP.out;go_wp2;go_ret2;exact ⟨eW.out,by rw [HSC.out];rfl⟩
def Bc (t:ax) (amd:List ByteArray) (ame:List (List Int)):Value:=.tuple #[.int .i64 (if mV t amd then jT t amd ame else 0),.int .i64 (if mV t amd then 0 else 9)]
theorem Gk {f:Nat->Int}:∀ {n:Nat},(∀p,p<n->0<=f p/\f p<=100000)->0<=eA f n/\eA f n<=100000*n
 | 0,_=>⟨qm _,qm _⟩
 | n+1,h=>by
  have h1:=Gk (f:=f) (n:=n) fun p hp=>h p (by omega)
  have h2:=h n (by omega)
  rw [jJ]
  omega
theorem R8 {ame:List (List Int)} (h:kz ame=0):ame.length<=32/\(gl ame 0).length<=4096:=by
 unfold kz at h;split at h
 ·cases h
 ·split at h
  ·cases h
  ·rename_i h1;omega
theorem ZU (S:Nat->Prop) (w:World) (v vn vs:Value) (t:ax) (amd:List ByteArray) (ame:List (List Int)) (hT:aG S w v t) (ht:aA t=0) (hz:∀k,(gs t.ns k).size<=70000) (h:aj S w vn amd) (hS:aT S w vs ame) (hc:IL amd ame) :
  Calls Tryz.prog 69 #[v,vn,vs] w fun e w'=>e=.returned (Bc t amd ame)/\Up w w':=by
 obtain ⟨hp1,K3,hnl,hok,-⟩:=aH ht;have hlv:=sK t.ns;obtain ⟨P,N,rfl,hP,hN⟩:=hT;obtain ⟨np,nc,rfl,-,-⟩:=aq.open hN;have hN:aj S w (.slice np t.ns.length nc) t.ns:=hN;obtain ⟨pp,pc,rfl,-,-⟩:=aq.open hP;have hP:af S w (.slice pp t.ps.length pc) t.ps:=hP;obtain ⟨mp,mc,rfl,-,-⟩:=aq.open h;have h:aj S w (.slice mp amd.length mc) amd:=h;obtain ⟨sp,sc,rfl,-,-⟩:=dy hS;obtain ⟨ag0,agr⟩:=Wz hc.ag;obtain ⟨ahP,ag4⟩:=R8 hc.ag;have bK:Up w (w.alloc (.cells #[.slice pp t.ps.length pc,.slice np t.ns.length nc] 39)):=Up.alloc _ _;have hrb:=iN (w:=w) (P:=.slice pp t.ps.length pc) (N:=.slice np t.ns.length nc) (T:=39);obtain ⟨q0,q1,-,-⟩:=boxed hrb;have nt:aG S (w.alloc (.cells #[.slice pp t.ps.length pc,.slice np t.ns.length nc] 39)) (.agg #[.slice pp t.ps.length pc,.slice np t.ns.length nc]) t:=⟨_,_,rfl,af.keep hP (bK.kept S),aj.keep hN (bK.kept S)⟩;have eC:=aa (R2 S (w.alloc (.cells #[.slice pp t.ps.length pc,.slice np t.ns.length nc] 39)) _ _ t amd nt (by omega) (by omega) hz (aj.keep h (bK.kept S)) (by have:=hc.nm.hi;omega));have Cq:=aa nt;have lg:=aa (aT.keep hS (bK.kept S));have cB:=aa bK;have HB:Hid (A9 t amd=mV t amd):=by unfold Hid A9;rw [decide_eq_true ht];rfl
 have CB:Hid (∀W v u st,aG S W v t->af Any W u st->st.length<=64->Calls Tryz.prog 124 #[v,u] W (ZT W t st)):=fun W v u st h1 h2 h3=>afb Any W v u t st (h1.sub fun _ _ _=>trivial) h2 (by omega) (by omega) hz (by omega);have Kt:=aa agr;have UB:=aa (And.intro ag0 (And.intro ahP ag4));have A5:Hid ((ay t.ns).length<=64):=by unfold Hid;omega
 have oZ:=aa hc.len;have HST:Hid (Bc t amd ame=.tuple #[.int .i64 (if mV t amd then jT t amd ame else 0),.int .i64 (if mV t amd then 0 else 9)]):=rfl;have HVA:Hid (mV t amd=true->∀p,p<(gl ame 0).length->fK t (pM t amd ame p) (eE 16)<=100000/\0<=fK t (pM t amd ame p) (eE 16)/\mh t (pM t amd ame p) (eE 16)=0):=fun hf p hp=>by have hv:=Fw hc ((Kn hc.nm ht).1 hf) hp;exact ⟨L3 hv,Ev hv,hv.par⟩
 have ZV:Hid (mV t amd=true->∀j,j<(ay t.ns).length->∃b:Nat,gi (A7 t amd (ay t.ns).length) j=b/\b<amd.length):=fun hf j hj=>by have ho:=(Kn hc.nm ht).1 hf;obtain ⟨v,hv,tJ,hv0⟩:=vg hj;obtain ⟨b,hb,_,e⟩:=Zk ho (show v<t.ps.length by omega) hv0;exact ⟨b,by rw [ZQ hj,hv,fc,e],hb⟩
 clear hP hN h hS bK hrb hz nt hc ht agr ag0 ahP ag4 hok hp1 K3 hnl hlv;go_in;go_wp2_with fail;generalize w.alloc (.cells #[.slice pp t.ps.length pc,.slice np t.ns.length nc] 39)=w1 at *;refine eC.out.mono ?_;rintro e w2 ⟨aI,pv,rfl,hpv⟩;rw [HB.out] at hpv ⊢;cases hfit:mV t amd
 ·have xF:Hid (Bc t amd ame=.tuple #[.int .i64 0,.int .i64 9]):=by unfold Hid;rw [HST.out,hfit];rfl
  have s6:Hid (Ending.returned (.tuple #[.int .i64 0,.int .i64 9])=Ending.returned (Bc t amd ame)/\Up w w2):=⟨by rw [xF.out],cB.out.trans aI⟩;clear hpv aI eC;go_wp2;go_ret2;exact s6.out
 ·have hpi:=hpv hfit
  obtain ⟨rp,rc,rfl,-,-⟩:=aq.open hpi;rw [CH] at hpi;rw [CH];have O4:=aa hpi;have xF:Hid (Bc t amd ame=.tuple #[.int .i64 (jT t amd ame),.int .i64 0]):=by unfold Hid;rw [HST.out,hfit];rfl
  have ahQ:=aa (HVA.out hfit);have akf:=aa (ZV.out hfit);have b7:=aa (cB.out.trans aI);have wE:=aa (Cq.out.keep (aI.kept S));have sg:=aa (lg.out.keep (aI.kept S));have HQ:=aa (And.intro (aI.cell q0) (aI.cell q1));obtain ⟨sb,so,s0,s1,rfl,hc0,gO⟩:=eZ sg.out UB.out.1;rw [mZ] at hc0;have i1:(0:Int)<(ame.length:Int):=by have:=UB.out.1;omega
  clear hpv hpi aI eC Cq lg HST HVA ZV q0 q1 gO cB;go_wp2_with fail;have R9:Hid (∀n:Nat,n<=(gl ame 0).length->0<=eA (fun p=>fK t (pM t amd ame p) (eE 16)) n/\eA (fun p=>fK t (pM t amd ame p) (eE 16)) n<=100000*n):=fun n hn=>Gk fun p hp=>by obtain ⟨h1,h2,_⟩:=ahQ.out p (by omega);exact ⟨h2,h1⟩
  have xh:Hid (∀n:Nat,eA (fun p=>fK t (pM t amd ame p) (eE 16)) (n+1)=eA (fun p=>fK t (pM t amd ame p) (eE 16)) n+fK t (pM t amd ame n) (eE 16)):=fun n=>rfl;have HSX:Hid (jT t amd ame=eA (fun p=>fK t (pM t amd ame p) (eE 16)) (gl ame 0).length):=rfl;generalize hF:(fun n=>eA (fun p=>fK t (pM t amd ame p) (eE 16)) n)=F at *;have U4:∀n,eA (fun p=>fK t (pM t amd ame p) (eE 16)) n=F n:=fun n=>by rw [<- hF]
  have HF0:Hid (F 0=0):=by unfold Hid;rw [<- U4];rfl
  have R9:Hid (∀n:Nat,n<=(gl ame 0).length->0<=F n/\F n<=100000*n):=fun n hn=>by rw [<- U4];exact R9.out n hn
  have xh:Hid (∀n:Nat,F (n+1)=F n+fK t (pM t amd ame n) (eE 16)):=fun n=>by rw [<- U4,<- U4];exact xh.out n
  have HSX:Hid (jT t amd ame=F (gl ame 0).length):=by unfold Hid;rw [<- U4];exact HSX.out
  clear hF U4
  go_loopw [10,11,12,14,15,16,29] (fun s _ _ _ _ _ i wr=>∃n:Nat,n<=(gl ame 0).length/\i=.int .i64 n/\s=.int .i64 (F n)/\Hid (Up w2 wr)) (fun _ _ _ _ _ _ i _=>(gl ame 0).length - (intOf i).toNat)
  case atStart=>exact ⟨0,aF _,rfl,by rw [HF0.out],Up.refl _⟩
  case round =>
   obtain ⟨n,hn,rfl,rfl,hU⟩:=hrel;obtain ⟨wo,rfl⟩:=eM wr;by_cases hlt:n<(gl ame 0).length
   ·have i2:(n:Int)<((gl ame 0).length:Int):=by omega
    (have i3:(n:Int)<4096:=by have:=UB.out.2.2;omega);(have i4:(0:Int)<=(n:Int):=by omega);have sQ:=R9.out n hn;have hf2:=R9.out (n+1) hlt;rw [xh.out n] at hf2;obtain ⟨hv1,hv2,hv3⟩:=ahQ.out n hlt;have HV:=aa (And.intro sQ (And.intro hf2 (And.intro hv1 (And.intro hv2 hv3))));have uK:Hid (au wo.heap.size 3 wo (.slice none 0 0) ((uM t amd (fW ame n) 0).map (Value.int .i64))/\Up wo wo):=⟨au.nil _ _ _,Up.refl _⟩;clear sQ hf2 hv1 hv2 hv3;go_wp2
    go_loopw [12,14,34] (fun o _ i wr=>∃j:Nat,j<=(ay t.ns).length/\i=.int .i64 j/\Hid (au wo.heap.size 3 wr o ((uM t amd (fW ame n) j).map (Value.int .i64))/\Up wo wr)) (fun _ _ i _=>(ay t.ns).length - (intOf i).toNat)
    case atStart=>exact ⟨0,aF _,rfl,uK.out⟩
    case round =>
     obtain ⟨j,hj,rfl,hI⟩:=hrel;obtain ⟨wi,rfl⟩:=eM wr;obtain ⟨hA,cz⟩:=hI.out;by_cases hlj:j<(ay t.ns).length
     ·obtain ⟨b,hb1,hb2⟩:=akf.out j hlj
      obtain ⟨xb,xo,rfl,qx⟩:=bU (af.keep O4.out ((hU.out.trans cz).kept _)) (k:=j) (by rw [CH];exact hlj);rw [hb1] at qx;(have yJ:b<ame.length:=by rw [oZ.out];exact hb2);obtain ⟨rb,ro,r0,r1,er,KE,hir⟩:=eZ (aT.keep sg.out ((hU.out.trans cz).kept S)) yJ;injection er with er;injection er with er1 er2;subst er1;subst er2;rw [(Kt.out b yJ).1] at KE;obtain ⟨yb,yo,rfl,hcy⟩:=bU hir (k:=n) (by rw [(Kt.out b yJ).1];exact hlt);(have sV:Hid ((uM t amd (fW ame n) (j+1)).map (Value.int .i64)=(uM t amd (fW ame n) j).map (Value.int .i64)++[.int .i64 (gi (gl ame b) n)]):=by unfold Hid;(have e2:dD amd (gs t.ns (gi (ay t.ns) j).toNat)=b:=by rw [<- ZQ hlj];exact hb1);rw [Zj,cg,e2,fc,Rp _ _ yJ];rfl);(have kH:Hid (((uM t amd (fW ame n) j).map (Value.int .i64)).length=j):=by unfold Hid;rw [aD,zI]);have HA:=aa hA;have KC:=aa cz;have hsz:=cz.size;(have k1:(0:Int)<=(j:Int):=by omega);(have k2:(j:Int)<((ay t.ns).length:Int):=by omega);(have k3:(j:Int)<64:=by have:=A5.out;omega);(have k4:(0:Int)<=(b:Int):=by omega);(have k5:(b:Int)<(ame.length:Int):=by omega);generalize gi (gl ame b) n=y at *;clear hI hA cz hlj hir hb1 hb2 yJ;go_wp2_with (at_builtin;refine Bp wi rfl _ _ 26 rfl wo.heap.size 3 _ 8 Tryz.underlying26 Tryz.iD rfl (by decide) HA.out rfl _ rfl rfl j kH.out (by omega) hsz ?_;intro g cap w8 hown1 hg1 gC);(have R4:Hid (au wo.heap.size 3 w8 (.slice (some ⟨g,0,none⟩) (j+1) cap) ((uM t amd (fW ame n) (j+1)).map (Value.int .i64))):=by unfold Hid;rw [sV.out];exact hown1);have wN:Hid (Up wo w8):=iz KC.out gC;clear hown1 hg1 gC
      go_roundw
      case rel=>exact ⟨j+1,by omega,by go_num,R4.out,wN.out⟩
      case measure=>simp [intOf];omega
     ·obtain rfl:j=(ay t.ns).length:=by omega
      obtain ⟨op,oc,rfl,-⟩:=hA.form (n:=(ay t.ns).length) (by rw [aD,zI]);have su:=aa (CB.out wi _ (.slice op (ay t.ns).length oc) (pM t amd ame n) (wE.out.keep ((hU.out.trans cz).kept S)) (hA.ints.sub fun _ _ _=>trivial) (by unfold pM;rw [zI];exact A5.out));have q0:=(hU.out.trans cz).cell HQ.out.1;have q1:=(hU.out.trans cz).cell HQ.out.2;have He:=aa (hU.out.trans cz);have JA:=aa (xh.out n);clear hI hA cz hlj hj;obtain ⟨sQ,hf2,hv1,hv2,hv3⟩:=HV.out;have HV3:=aa hv3;clear hv3;generalize F n=fn at *;go_wp2_with fail;refine su.out.mono ?_;rintro e w9 ⟨qK,rfl⟩;have NT:=aa (He.out.trans qK);rw [HV3.out];clear qK su;generalize fK t (pM t amd ame n) (eE 16)=z at *;(have FD:fn+z<=409600000/\0<=fn+z:=by constructor<;>omega);go_wp2
      go_roundw
      case rel=>exact ⟨n+1,by omega,by go_num,by rw [JA.out],NT.out⟩
      case measure=>simp [intOf];omega
   ·obtain rfl:n=(gl ame 0).length:=by omega
    have s6:Hid (Ending.returned (.tuple #[.int .i64 (F (gl ame 0).length),.int .i64 0])=Ending.returned (Bc t amd ame)/\Up w wo):=⟨by rw [xF.out,HSX.out],b7.out.trans hU.out⟩;clear hlt;go_wp2;go_ret2;exact s6.out
theorem LH {amd:List ByteArray} (h5:amd.length<=5\/7<amd.length) (h0:eL amd=0):amd.length<=5:=by
 rcases h5 with h5 | h5
 ·exact h5
 ·unfold eL at h0;rw [if_pos (.inr h5)] at h0;cases h0
theorem WX {amd:List ByteArray} {ame:List (List Int)} (h5:amd.length<=5\/7<amd.length) (h0:mJ amd ame=0):IL amd ame:=by
 have h1:eL amd=0:=by
  unfold mJ at h0;split at h0
  ·rename_i h;exact absurd h0 h
  ·rename_i h;omega
 exact (aci (LH h5 h1)).1 h0
end
end Go.Proofs.YthgabkgmkolobaaGreat
