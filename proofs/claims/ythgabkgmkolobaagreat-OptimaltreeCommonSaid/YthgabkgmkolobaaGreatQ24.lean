/- optimaltree.places. The contracts of the reference's Table and Score. Contracts of the .. -/
import Derived.Deep.RegionWith
import Derived.Shelf.Bits.Mul64
import Derived.Laws.CopyOwn
import Derived.Deep.RegionLaw
import Derived.RegionTactic
import Derived.Test.YthgabkgmkolobaaGreatQ23
set_option maxRecDepth 100000
set_option maxHeartbeats 4000000
namespace Go.Proofs.YthgabkgmkolobaaGreat
section
open Go.RowKit Go.Deep
def Dk (t:az) (aac:List ByteArray) (n:Nat):List Int:=(List.range n).map fun j=>iD aac (gs t.ns (gi (aD t.ns) j).toNat)
theorem EY (t:az) (aac:List ByteArray) (n:Nat):(Dk t aac n).length=n:=by simp [Dk]
theorem plK_succ (t:az) (aac:List ByteArray) (n:Nat):Dk t aac (n+1)=Dk t aac n++[iD aac (gs t.ns (gi (aD t.ns) n).toNat)]:=by simp [Dk,List.range_succ]
theorem plK_gi {t:az} {aac:List ByteArray} {n j:Nat} (h:j<n):gi (Dk t aac n) j=iD aac (gs t.ns (gi (aD t.ns) j).toNat):=by simp [Dk,gi,h]
def Dl (t:az) (aac:List ByteArray):Bool:=decide (aH t=0)&&oB t aac
def Jf (w:World) (t:az) (aac:List ByteArray) (e:Ending) (w':World):Prop :=
 Up w w'/\∃v,e=.returned (.tuple #[v,.bool (Dl t aac)])/\(Dl t aac=true->ah (fun b=>w.heap.size<=b) w' v (Dk t aac (aD t.ns).length))
theorem pl_no {w W:World} {t:az} {aac:List ByteArray} {v:Value} (h:Dl t aac=false) (hu:Up w W):Jf w t aac (.returned (.tuple #[v,.bool false])) W :=
 ⟨hu,v,by rw [h],fun e=>by rw [h] at e;cases e⟩
theorem Vi (S:Nat->Prop) (w:World) (v vn:Value) (t:az) (aac:List ByteArray) (hT:aI S w v t) (hp:t.ps.length<=1000000) (hn:t.ns.length<=1000000) (hz:∀k,(gs t.ns k).size<=70000) (h:au S w vn aac) (hnn:aac.length<=1000000) :
  Calls Tryz.prog 108 #[v,vn] w (Jf w t aac):=by
 obtain ⟨P,N,rfl,hP,hN⟩:=hT;obtain ⟨np,nc,rfl,hncap,-⟩:=ay.open hN;have hN:au S w (.slice np t.ns.length nc) t.ns:=hN;obtain ⟨pp,pc,rfl,hpcap,-⟩:=ay.open hP;have hP:ah S w (.slice pp t.ps.length pc) t.ps:=hP;obtain ⟨mp,mc,rfl,hmcap,-⟩:=ay.open h;have h:au S w (.slice mp aac.length mc) aac:=h;have bA:Up w (w.alloc (.cells #[.slice pp t.ps.length pc,.slice np t.ns.length nc] 39)):=Up.alloc _ _;have hrb:=gp (w:=w) (P:=.slice pp t.ps.length pc) (N:=.slice np t.ns.length nc) (T:=39)
 have hsz:w.heap.size<(w.alloc (.cells #[.slice pp t.ps.length pc,.slice np t.ns.length nc] 39)).heap.size:=by simp
 obtain ⟨q0,q1,-,-⟩:=boxed hrb;have K2:=aa (Fz S (w.alloc (.cells #[.slice pp t.ps.length pc,.slice np t.ns.length nc] 39)) (.agg #[.slice pp t.ps.length pc,.slice np t.ns.length nc]) t ⟨_,_,rfl,ah.keep hP (bA.kept S),au.keep hN (bA.kept S)⟩ hp hn hz);have HN:=aa (au.keep hN (bA.kept S));have HM:=aa (au.keep h (bA.kept S));have cA:=aa bA;have fA:=aa hsz;have HB:Hid (Dl t aac=(decide (aH t=0)&&(decide ((aD t.ns).length=aac.length)&&!xA t aac))):=rfl
 have iu:Hid (∀n,n<(aD t.ns).length->∃k:Nat,gi (aD t.ns) n=k/\k<t.ns.length):=fun n hn=>by obtain ⟨k,h1,h2,_⟩:=qi hn;exact ⟨k,h1,h2⟩
 have gG:Hid ((aD t.ns).length<=1000000):=aJ (yF _) hn;have oC:Hid (∀n,n<(aD t.ns).length->iD aac (gs t.ns (gi (aD t.ns) n).toNat)<0->xA t aac=true):=fun n hn h0=>eO.2 ⟨n,bh.2 hn,decide_eq_true h0⟩;have HON:Hid ((∀n,n<(aD t.ns).length->¬iD aac (gs t.ns (gi (aD t.ns) n).toNat)<0)->xA t aac=false):=fun hh=>any_none fun j hj=>decide_eq_false (hh j hj);clear hP hN h bA hrb hsz hz
 go_enter Tryz.func108,Tryz.ntmps108
 go_wp2_with fail;generalize w.alloc (.cells #[.slice pp t.ps.length pc,.slice np t.ns.length nc] 39)=w1 at *;refine K2.out.mono ?_;rintro e w2 ⟨hb,⟨h1,rfl⟩ | ⟨h1,lv,rfl,hlv⟩⟩
 ·have kA:Hid (Dl t aac=false):=by unfold Hid;rw [HB.out,decide_eq_false h1];rfl
  have bD:=aa (cA.out.trans (show Up w1 w2 from hb));have xB:=aa (pl_no (v:=.slice none 0 0) kA.out bD.out);clear hb h1 K2;go_wp2_with fail;go_ret2;exact xB.out
 obtain ⟨lp,lc,rfl,-,-⟩:=ay.open hlv;replace hlv:ah (fun b=>w1.heap.size<=b) w2 (.slice lp (aD t.ns).length lc) (aD t.ns):=hlv;have aK:Up w1 w2:=hb;have bD:=aa (cA.out.trans aK);have ry:Hid (Dl t aac=(decide ((aD t.ns).length=aac.length)&&!xA t aac)):=by unfold Hid;rw [HB.out,decide_eq_true h1];rfl
 by_cases hl:(aD t.ns).length=aac.length
 ·have HLV2:=aa hlv
  have wC:=aa (au.keep HN.out (aK.kept _));have YT:=aa (au.keep HM.out (aK.kept _));have KZ:Hid (Dl t aac=!xA t aac):=by unfold Hid;rw [ry.out,decide_eq_true hl];rfl
  have HQ:=aa (And.intro (aK.cell q0) (aK.cell q1));have d1:(((aD t.ns).length:Int) != (aac.length:Int))=false:=by simp [hl]
  have HL:=aa hl;clear hb h1 hlv aK K2 q0 q1 cA HB ry hl;go_wp2_with fail;have vT:Hid (w.heap.size<=w2.heap.size):=bD.out.size;clear d1
  go_loopw [8,10,11,28] (fun a _ _ i wr=>∃k:Nat,k<=(aD t.ns).length/\i=.int .i64 k/\Hid (ax w2.heap.size 3 wr a ((Dk t aac k).map (Value.int .i64))/\Up w2 wr/\∀n,n<k->¬iD aac (gs t.ns (gi (aD t.ns) n).toNat)<0)) (fun _ _ _ i _=>(aD t.ns).length - (intOf i).toNat)
  case atStart=>exact ⟨0,aL _,rfl,ax.nil _ _ _,Up.refl _,fun n hn=>absurd hn (bG _)⟩
  case round =>
   obtain ⟨k,hk,rfl,hI⟩:=hrel;obtain ⟨wo,rfl⟩:∃wo:World,wo=wr:=⟨_,rfl⟩;obtain ⟨hA,dY,hd⟩:=hI.out;by_cases hlt:k<(aD t.ns).length
   ·obtain ⟨xb,xo,rfl,xI⟩:=dG (ah.keep HLV2.out (dY.kept _)) hlt
    obtain ⟨x,hx1,hx2⟩:=iu.out k hlt;obtain ⟨nb,no,rfl,jt⟩:=dr (au.keep wC.out (dY.kept _)) hx2;have vU:Hid (Calls Tryz.prog 95 #[.slice mp aac.length mc,.string (gs t.ns x)] wo fun e w'=>e=.returned (.int .i64 (iD aac (gs t.ns x)))/\wo=w'):=DJ _ wo _ aac.length (fun j=>gs aac j) (gs t.ns x) (au.keep YT.out (dY.kept _)) hnn;have oy:Hid ((Dk t aac (k+1)).map (Value.int .i64)=(Dk t aac k).map (Value.int .i64)++[.int .i64 (iD aac (gs t.ns x))]):=by unfold Hid;rw [plK_succ,cg,hx1,cZ];rfl
    (have gI:Hid (((Dk t aac k).map (Value.int .i64)).length=k):=by unfold Hid;rw [aG,EY]);have HOFk:=aa (oC.out k hlt);have q0:=dY.cell HQ.out.1;have q1:=dY.cell HQ.out.2;rw [hx1] at xI;have oT:=aa hx1;have HA:=aa hA;have Vj:=aa dY;have HD:=aa hd;(have i1:(0:Int)<=(k:Int):=by omega);(have i2:(k:Int)<((aD t.ns).length:Int):=by omega);(have i3:(k:Int)<1000000:=by have:=gG.out;omega);(have i4:(0:Int)<=(x:Int):=by omega);(have i5:(x:Int)<(t.ns.length:Int):=by omega);have hsz:=dY.size;clear hI hA dY hd hx1;by_cases hf:iD aac (gs t.ns x)<0
    ·have kA:Hid (Dl t aac=false):=by unfold Hid;rw [KZ.out,HOFk.out (by rw [oT.out,cZ];exact hf)];rfl
     have xB:=aa (pl_no (v:=.slice none 0 0) kA.out (bD.out.trans Vj.out));generalize iD aac (gs t.ns x)=fx at *;generalize gs t.ns x=nm at *;clear oy HOFk oT;go_wp2_with fail;refine vU.out.mono ?_;rintro e w' ⟨rfl,rfl⟩;go_wp2_with fail;go_ret2;exact xB.out
    ·have HF:=aa hf
     (have HFG:Hid (iD aac (gs t.ns (gi (aD t.ns) k).toNat)=iD aac (gs t.ns x)):=by unfold Hid;rw [oT.out,cZ]);generalize iD aac (gs t.ns x)=fx at *;generalize gs t.ns x=nm at *;have h9:(0:Int)<=fx:=Int.not_lt.1 hf;obtain ⟨y,rfl⟩:∃y:Nat,fx=y:=⟨fx.toNat,by omega⟩;clear HOFk oT hf h9;obtain ⟨ap,ac,rfl,-⟩:=HA.out.form gI.out;(have d9:decide ((y:Int)<0)=false:=by simp);go_wp2_with fail;refine vU.out.mono ?_;rintro e w' ⟨rfl,rfl⟩
     go_wp2_with (at_builtin;refine DN wo rfl _ _ 26 rfl w2.heap.size 3 _ 8 Tryz.underlying26 Tryz.kE rfl (by decide) HA.out rfl _ rfl rfl k gI.out (by omega) hsz ?_;intro g cap w8 hown1 hg1 o7);(have Vk:Hid (ax w2.heap.size 3 w8 (.slice (some ⟨g,0,none⟩) (k+1) cap) ((Dk t aac (k+1)).map (Value.int .i64))):=by unfold Hid;rw [oy.out];exact hown1);have qQ:Hid (Up w2 w8):=iH Vj.out o7;clear hown1 hg1 o7
     go_roundw
     case rel=>exact ⟨k+1,by omega,by go_num,Vk.out,qQ.out,fun n hn=>if e:n=k then by subst e;rw [HFG.out];exact Int.not_lt.2 HF.out else Int.not_lt.2 (HD.out n (by omega))⟩
     case measure=>simp [intOf];omega
   ·obtain rfl:k=(aD t.ns).length:=by omega
    (have kA:Hid (Dl t aac=true):=by unfold Hid;rw [KZ.out,HON.out fun n hn=>Int.not_lt.1 (hd n hn)];rfl);obtain ⟨ap,ac,rfl,-⟩:=hA.form (n:=(aD t.ns).length) (by rw [aG,EY]);have hi:=hA.ints;have tC:Hid (Jf w t aac (.returned (.tuple #[.slice ap (aD t.ns).length ac,.bool true])) wo):=⟨bD.out.trans dY,_,by rw [kA.out],fun _=>hi.sub fun b hb _=>aJ vT.out hb⟩;clear hI hA dY hd hi;go_wp2_with fail;go_ret2;exact tC.out
 ·have kA:Hid (Dl t aac=false):=by unfold Hid;rw [ry.out,decide_eq_false hl];rfl
  have d1:¬((aD t.ns).length:Int)=(aac.length:Int):=by omega
  have xB:=aa (pl_no (v:=.slice none 0 0) kA.out bD.out);clear hb h1 K2;go_wp2_with fail;go_ret2;exact xB.out
def Zb (w:World) (t:az) (st:List Int) (cs:List (List Int)) (e:Ending) (w':World):Prop :=
 ∃tb tof tcap rq rc,e=.returned (.slice (some ⟨tb,tof,none⟩) t.ps.length tcap)/\w'.cell? ⟨tb,tof,none⟩=some (.slice rq cs.length rc)/\ah Any w' (.slice rq cs.length rc) (bK t st cs 0)/\Up w w'
theorem tb1 {w w':World} {t:az} {st:List Int} {cs:List (List Int)} {e:Ending} (hv:Valid t st cs) (h:Nl w (wT t st cs) e w'):Zb w t st cs e w':=by
 obtain ⟨hb,v,rfl,hr⟩:=h;have hp:=(aF hv.tree).1;obtain ⟨p,cap,rfl,_,H⟩:=dW hr;obtain ⟨b,off,q,c,rfl,hc,hi⟩:=H 0 (by rw [Ty];exact hp);rw [gl_tabL _ _ _ hp] at hc hi;rw [lV] at hc hi;rw [Ty];exact ⟨b,off,cap,q,c,rfl,by rw [jZ] at hc;exact hc,hi,hb⟩
end
end Go.Proofs.YthgabkgmkolobaaGreat
namespace Go.Proofs
open Go.Shelf
def Tryz.lays212_ren:Go.Shelf.Ren:=⟨fun | 212=>269 | 263=>279 | 264=>280 | n=>n,fun | 46=>154 | 51=>191 | 53=>193 | 146=>275 | 148=>277 | n=>n,fun | n=>n⟩
theorem Tryz.lays212:Go.Proofs.Lays.n212 Tryz.prog Tryz.lays212_ren:={
 mixed:=by kernel_rfl
 f212:=Tryz.func269.trans (congrArg some (by kernel_rfl))
 f263:=Tryz.func279.trans (congrArg some (by kernel_rfl))
 f264:=Tryz.func280.trans (congrArg some (by kernel_rfl))
 t46:=Tryz.underlying154
 a46:=Tryz.isAgg154
 z46:=Tryz.sizeOf154
 v46:=Tryz.zeroValue154
 t51:=Tryz.underlying191
 a51:=Tryz.isAgg191
 z51:=Tryz.sizeOf191
 v51:=Tryz.zeroValue191
 t53:=Tryz.underlying193
 a53:=Tryz.isAgg193
 z53:=Tryz.sizeOf193
 v53:=Tryz.zeroValue193
 t146:=Tryz.underlying275
 a146:=Tryz.isAgg275
 z146:=Tryz.sizeOf275
 v146:=Tryz.zeroValue275
 t148:=Tryz.underlying277
 a148:=Tryz.isAgg277
 z148:=Tryz.sizeOf277
 v148:=Tryz.zeroValue277 }
theorem Tryz.bits_Mul (x y:Nat) (hx:x<18446744073709551616) (hy:y<18446744073709551616) (w:World) :
  Calls Tryz.prog 269 #[.int .u64 x,.int .u64 y] w fun e w'=>e=.returned (.tuple #[.int .u64 ((x*y / 18446744073709551616:Nat):Int),.int .u64 ((x*y % 18446744073709551616:Nat):Int)])/\w'=w:=Any.bits_Mul Tryz.lays212 x y hx hy w
end Go.Proofs
namespace Go.Proofs.YthgabkgmkolobaaGreat
section
open Go.RowKit Go.Deep
theorem mul_one (N:Nat) (hN:N<=1000) (w:World):Calls Tryz.prog 269 #[.int .u64 1,.int .u64 N] w fun e w'=>e=.returned (.tuple #[.int .u64 0,.int .u64 N])/\w=w':=by
 have h:=Tryz.bits_Mul 1 N (by decide) (by omega) w;rw [Nat.one_mul,Nat.div_eq_of_lt (by omega),Nat.mod_eq_of_lt (by omega)] at h;exact h.mono fun _ _ ⟨a,b⟩=>⟨a,b.symm⟩
def oneAt (n i:Nat):Value:=if i<n then .int .i64 1 else .int .i64 0
def jV (N n:Nat):List Value:=(List.range N).map (oneAt n)
theorem zn (N n:Nat):(jV N n).length=N:=by simp [jV]
theorem Dm {N n i:Nat} (h:i<N):(jV N n)[i]? = some (if i<n then .int .i64 1 else .int .i64 0):=by simp [jV,h,oneAt]
theorem put_ones {N n m:Nat} (h:n+m<=N):((jV N n).toArray.toList.take n++List.replicate m (.int .i64 1)++(jV N n).toArray.toList.drop (n+(List.replicate m (Value.int .i64 1)).length))=jV N (n+m):=by
 apply wN;intro i;by_cases hi:i<N
 ·rw [Dm hi,dN,zq53Q]
  simp only [gV,zn,M4];by_cases h1:i<n
  ·rw [if_pos (by omega),List.getElem?_take,if_pos h1,Dm hi,if_pos h1,if_pos (by omega)]
  ·rw [if_neg (by omega),zq53Q]
   by_cases h2:i<n+m
   ·rw [if_pos (by rw [M4];omega),if_pos h2,List.getElem?_replicate,if_pos (by omega)]
   ·rw [if_neg (by rw [M4];omega),if_neg h2,List.getElem?_drop]
    simp only [M4];(have e:n+m+(i - min n N - m)=i:=by omega);rw [e,Dm hi,if_neg (by omega)]
 ·rw [vh (by simp [zn];omega),vh (by simp [zn];omega)]
theorem RB (W:World) (g N n m dCap:Nat) (ad:Addr) (sLen sCap dLen:Nat) (hg:W.heap[g]? = some (.cells (jV N n).toArray 3 (0,0))) (hm:m=Nat.min sLen dLen) (wV:n+m<=N)
  (hs:∀j,j<m->W.cell? (ad.add j)=some (.int .i64 1)) :
  Sem.run Tryz.prog (Builtin.copy_ #[26,26] 3 #[.slice (some ⟨g,n,none⟩) dLen dCap,.slice (some ad) sLen sCap]) W=.ok (.int .i64 m) (W.setRow g (jV N (n+m)).toArray):=by
 have h:=run_copy_row (P:=Tryz.prog) W 26 26 3 3 g n dLen dCap ad sLen sCap (jV N n).toArray 3 (List.replicate m (.int .i64 1)) Tryz.underlying26 (by kernel_rfl) hg (by simpa using hm)
  (fun j v hj=>by
   rw [List.getElem?_replicate] at hj;split at hj
   ·injection hj with hj;subst hj;exact hs j (by assumption)
   ·cases hj) (by simpa [zn] using wV) (fun v hv=>by rw [List.eq_of_mem_replicate hv];rfl)
 rw [put_ones wV,M4] at h;exact h
theorem made_ones (N:Nat):madeCells #[.int .i64 0] N=(jV N 0).toArray:=by
 apply Array.ext
 ·simp [zn,madeCells]
 ·intro i h1 h2
  simp [madeCells,jV,Nat.mod_one,oneAt]
theorem Dn {W:World} {g N k:Nat} {T:TypeId} (h:W.heap[g]? = some (.cells (jV N k).toArray T (0,0))) {j:Nat} (hj:j<N):W.cell? ⟨g,j,none⟩=some (if j<k then .int .i64 1 else .int .i64 0):=by
 have h2:=Dm (n:=k) hj;rw [<- h2];simp [World.cell?,h]
def RpPost (w:World) (N:Nat) (e:Ending) (w':World):Prop:=∃g,e=.returned (.slice (some ⟨g,0,none⟩) N N)/\w.heap.size<=g/\Up w w'/\w'.heap[g]? = some (.cells (jV N N).toArray 3 (0,0))
theorem Vl (w:World) (b off:Nat) (N:Nat) (Yv:1<=N) (hN:N<=1000) (hc:w.cell? ⟨b,off,none⟩=some (.int .i64 1)) :
  Calls Tryz.prog 233 #[.slice (some ⟨b,off,none⟩) 1 1,.int .i64 N] w (RpPost w N):=by
 have hmk:=fun W=>run_make_row' (P:=Tryz.prog) 26 3 (.int .i64 0) 8 Tryz.underlying26 Tryz.kE rfl .i64 .i64 N (by omega) (by omega) W;have d1:decide ((N:Int)<0)=false:=by simp
 have d2:decide ((9223372036854775807:Int)<(N:Int))=false:=by simp;omega
 have sH:(w.alloc (.cells (madeCells #[.int .i64 0] N) 3)).heap[w.heap.size]? = some (.cells (jV N 0).toArray 3 (0,0)):=by rw [blk_alloc_new,made_ones]
 have sU:=Up.alloc w (.cells (madeCells #[.int .i64 0] N) 3);have hc0:=sU.cell hc;have G8:=aa sH;have EZ:=aa sU;clear sH sU
 have qX:=RB (w.alloc (.cells (madeCells #[.int .i64 0] N) 3)) w.heap.size N 0 1 N ⟨b,off,none⟩ 1 1 N G8.out (by show 1=min 1 N;omega) (by omega) (fun j hj=>by
  obtain rfl:j=0:=by omega
  exact hc0)
 have Ep:Hid (((w.alloc (.cells (madeCells #[.int .i64 0] N) 3)).setRow w.heap.size (jV N (0+1)).toArray).heap[w.heap.size]? = some (.cells (jV N (0+1)).toArray 3 (0,0))):=setRow_heap _ _ _ _ _ _ G8.out;have cA:Hid (Up w ((w.alloc (.cells (madeCells #[.int .i64 0] N) 3)).setRow w.heap.size (jV N (0+1)).toArray)):=below_setRow EZ.out (af _) _;clear G8 EZ
 go_enter Tryz.func233,Tryz.ntmps233
 go_wp2_with (go_at_call 269;refine (mul_one N hN _).mono ?_;rintro e w' ⟨rfl,rfl⟩);generalize (w.alloc (.cells (madeCells #[.int .i64 0] N) 3)).setRow w.heap.size (jV N (0+1)).toArray=w1 at *
 go_loopw [8] (fun n wr=>∃k:Nat,1<=k/\k<=N/\n=.int .i64 k/\Hid (wr.heap[w.heap.size]? = some (.cells (jV N k).toArray 3 (0,0)))/\Hid (Up w wr)) (fun n _=>N - (intOf n).toNat)
 case atStart=>exact ⟨1,af _,Yv,rfl,Ep,cA⟩
 case round =>
  obtain ⟨k,hk1,hk2,rfl,HR,HU⟩:=hrel;obtain ⟨wo,rfl⟩:∃wo:World,wo=wr:=⟨_,rfl⟩;by_cases hlt:k<N
  ·obtain ⟨m,hm⟩:∃m:Nat,m=Nat.min k (N - k):=⟨_,rfl⟩
   have hm2:m=min k (N - k):=hm;have hcp2:Sem.run Tryz.prog (Builtin.copy_ #[26,26] 3 #[.slice (some ⟨w.heap.size,k,none⟩) (N - k) (N - k),.slice (some ⟨w.heap.size,0,none⟩) k N]) wo.drew=.ok (.int .i64 m) (wo.drew.setRow w.heap.size (jV N (k+m)).toArray) :=
    RB wo.drew w.heap.size N k m (N - k) ⟨w.heap.size,0,none⟩ k N (N - k) HR.out hm (by omega) (fun j hj=>by
     have h:=Dn HR.out (j:=j) (by omega);rw [if_pos (by omega)] at h;have e:(⟨w.heap.size,0,none⟩:Addr).add j=⟨w.heap.size,j,none⟩:=by simp [Addr.add];omega
     rw [e];exact h)
   (have hmk:1<=m:=by omega);(have hmN:k+m<=N:=by omega);have Rt:Hid ((wo.drew.setRow w.heap.size (jV N (k+m)).toArray).heap[w.heap.size]? = some (.cells (jV N (k+m)).toArray 3 (0,0))):=setRow_heap _ _ _ _ _ _ (show wo.drew.heap[w.heap.size]? = _ from HR.out);have bD:Hid (Up w (wo.drew.setRow w.heap.size (jV N (k+m)).toArray)):=below_setRow (show Up w wo.drew from below_drewN HU.out 1) (af _) _;clear hm hm2 HR HU;go_wp2_with fail
   go_region
   all_goals
    go_wp2_with fail
    go_roundw
    case rel=>exact ⟨k+m,by omega,by omega,by go_num,Rt,bD⟩
    case measure=>simp [intOf];omega
  ·obtain rfl:k=N:=by omega
   go_wp2_with fail;go_ret;exact ⟨_,rfl,af _,HU.out,HR.out⟩
def Vm (w wr:World) (g0 N k:Nat):Prop:=Up w wr/\∃f,wr.rowIs g0 26 N f/\∀i,i<k->ah (fun b=>b≠g0) wr (f i) (tU N i)
theorem Vn {N k j:Nat} (hj:j<N):(if j=k then Value.int .i64 0 else if j<N then .int .i64 1 else .int .i64 0)=.int .i64 (gi (tU N k) j):=by
 rw [Od hj];unfold Vb;by_cases h:j=k
 ·rw [if_pos h,if_pos h.symm]
 ·rw [if_neg h,if_pos hj,if_neg (fun e=>h e.symm)]
theorem Vm.step {w wr w8:World} {g0 g N k:Nat} (h:Vm w wr g0 N k) (hk:k<N) (hu:Up wr w8) (hg:wr.heap.size<=g) (hr:w8.heap[g]? = some (.cells (jV N N).toArray 3 (0,0))) (hw0:w.heap.size<=g0) :
  Vm w ((w8.setCell ⟨g0,k,none⟩ (.slice (some ⟨g,0,none⟩) N N)).setCell ⟨g,k,none⟩ (.int .i64 0)) g0 N (k+1):=by
 obtain ⟨fT,f,hrow,hin⟩:=h;have hg0:=hrow.lt;have hne:g0≠g:=by omega
 have Og:w8.rowIs g0 26 N f:=hrow.of_block (bI hu g0 hg0);have hrow9:=(Og.set k (.slice (some ⟨g,0,none⟩) N N)).setOther (a:=⟨g,k,none⟩) hne (.int .i64 0);have hwg:w.heap.size<=g:=aJ fT.size hg;refine ⟨((fT.trans hu).setCell (p:=⟨g0,k,none⟩) hw0 _).setCell (p:=⟨g,k,none⟩) hwg _,_,hrow9,fun i hi=>?_⟩;by_cases hik:i=k
 ·subst hik
  simp only [if_true];refine ⟨_,_,by rw [D1],by rw [D1];exact af _,.inr ⟨g,0,rfl,fun e=>hne e.symm,fun j hj=>?_⟩⟩;rw [D1] at hj;show _=some (Value.int .i64 (gi (tU N i) j));rw [mg,<- Vn hj];have hb:(w8.setCell ⟨g0,i,none⟩ (.slice (some ⟨g,0,none⟩) N N)).cell? ⟨g,j,none⟩=some (if j<N then .int .i64 1 else .int .i64 0):=by rw [Et (by simpa using hne)];exact Dn hr hj
  have hb2:(w8.setCell ⟨g0,i,none⟩ (.slice (some ⟨g,0,none⟩) N N)).cell? ⟨g,i,none⟩=some (if i<N then .int .i64 1 else .int .i64 0):=by rw [Et (by simpa using hne)];exact Dn hr hk
  by_cases e:j=i
  ·subst e;rw [if_pos rfl];exact SJ ⟨_,hb⟩
  ·rw [if_neg e]
   exact (World.cell?_setCell_other _ ⟨g,i,none⟩ ⟨g,j,none⟩ _ (fun h=>e (by injection h with _ h2;exact h2.symm))).trans hb
 ·simp only [hik,if_false]
  refine ah.keep (hin i (by omega)) (w:=wr) fun b hb hl=>?_;have h1:w8.heap[b]? = wr.heap[b]?:=bI hu b hl;rw [<- h1];exact (blk_setCell_other _ _ _ _ (by simp;omega)).trans (blk_setCell_other _ _ _ _ (by simpa using hb))
theorem unit_t (w:World) (N:Nat) (Yv:1<=N) (hN:N<=16):Calls Tryz.prog 171 #[.int .i64 N] w (Nl w (bZ N)):=by
 have hmk:=fun W=>run_make_row' (P:=Tryz.prog) 23 26 (.slice none 0 0) 24 Tryz.underlying23 Tryz.Tu rfl .i64 .i64 N (by omega) (by omega) W;have HO:Hid (Vm w (w.alloc (.cells (madeCells #[.slice none 0 0] N) 26)) w.heap.size N 0):=⟨Up.alloc _ _,_,Bo w (.slice none 0 0) N 26,fun _ hi=>absurd hi (bG _)⟩
 go_enter Tryz.func171,Tryz.ntmps171
 go_wp2_with fail;generalize w.alloc (.cells (madeCells #[.slice none 0 0] N) 26)=w1 at *
 go_loopw [9] (fun i wr=>∃k:Nat,k<=N/\i=.int .i64 k/\Hid (Vm w wr w.heap.size N k)) (fun i _=>N - (intOf i).toNat)
 case atStart=>exact ⟨0,aL _,rfl,HO⟩
 case round =>
  obtain ⟨k,hk,rfl,hO⟩:=hrel;obtain ⟨wo,rfl⟩:∃wo:World,wo=wr:=⟨_,rfl⟩;by_cases hlt:k<N
  ·obtain ⟨fT,f,hrow,_⟩:=hO.out
   have hg0:=hrow.lt;have FB:=aa hrow;have HRP:=aa (Vl (wo.alloc (.cells #[.int .i64 1] 3)) wo.heap.size 0 N Yv (by omega) (aS _ _ _ 0));clear fT hrow;go_wp2_with fail;refine HRP.out.mono ?_;rintro e w8 ⟨g,rfl,hg,hu,hr⟩;rw [aQ] at hg;have gK:Up wo w8:=(Up.alloc _ _).trans hu;have hst:=hO.out.step hlt gK (by omega) hr (af _);have Og:=FB.out.of_block (bI gK _ hg0);have hcell:w8.cell? ⟨w.heap.size,k,none⟩=some (f k):=Og.cell hlt;have hfz:w8.frozen? ⟨w.heap.size,k,none⟩=false:=Og.frozen k
   (have hcg:w8.cell? ⟨g,k,none⟩=some (.int .i64 1):=by have h:=Dn hr hlt;rw [if_pos hlt] at h;exact h);(have hfg:w8.frozen? ⟨g,k,none⟩=false:=by simp [World.frozen?,hr]);(have hne:w.heap.size≠g:=by omega);(have O3:g≠w.heap.size:=by omega);have HST:=aa hst;clear hst Og hr hu gK FB HRP hO;go_wp2_with fail
   go_roundw
   case rel=>exact ⟨k+1,by omega,by go_num,HST⟩
   case measure=>simp [intOf];omega
  ·obtain rfl:k=N:=by omega
   go_wp2_with fail;go_ret;obtain ⟨fT,f,hrow,hin⟩:=hO.out;refine ⟨fT,.slice (some ⟨w.heap.size,0,none⟩) k k,rfl,f,⟨_,_,by rw [gM],by rw [gM];exact af _,.inr ⟨_,0,rfl,trivial,fun i hi=>?_⟩⟩,fun i hi=>?_⟩
   ·rw [gM] at hi
    rw [mg];exact hrow.cell hi
   ·rw [gM] at hi
    rw [Vc hi];exact (hin i hi).sub fun _ _ _=>trivial
def FiPost (w:World) (t:az) (st:List Int) (e:Ending) (w':World):Prop :=
 Up w w'/\e=.returned (.tuple #[.int .i64 (dg t st (bZ 16)),.int .i64 (nU t st (bZ 16))])
theorem mat16:uE (bZ 16)=0:=by decide +kernel
theorem S2:(bZ 16).length=16:=gM 16
theorem par16 {t:az} (h:aH t=0) (st:List Int):nU t st (bZ 16)=vv st (aD t.ns).length (-1) 16:=by
 unfold nU;rw [if_neg (fun e=>e h),if_neg (fun e=>e mat16),S2];rfl
theorem Zc {t:az} {st:List Int} {cs:List (List Int)} (h:nU t st cs≠0):dg t st cs=0:=by unfold dg;rw [if_neg h]
theorem least2_t (T:Nat->Prop) (w:World) (vr:Value) (row:List Int) (hR:ah T w vr row) (hrn:row.length<=1000) :
  Calls Tryz.prog 169 #[vr] w fun e w'=>e=.returned (.tuple #[.int .i64 (cN (fun _=>0) (gi row) row.length).1,.int .i64 (cN (fun _=>0) (gi row) row.length).2])/\w=w':=least_t T w vr row hR hrn
theorem fitch_t (S:Nat->Prop) (w:World) (v vs:Value) (t:az) (st:List Int) (hT:aI S w v t) (hS:ah S w vs st) (hp:t.ps.length<=1000000) (hn:t.ns.length<=1000000) (hz:∀k,(gs t.ns k).size<=70000) (hst:st.length<=1000000) :
  Calls Tryz.prog 124 #[v,vs] w (FiPost w t st):=by
 obtain ⟨P,N,rfl,hP,hN⟩:=hT;have hu:=Up.alloc w (.cells #[P,N] 39);have kY:aI S (w.alloc (.cells #[P,N] 39)) (.agg #[P,N]) t:=aI.keep ⟨P,N,rfl,hP,hN⟩ (hu.kept S);have HK:=aa (Fz S _ _ t kY hp hn hz);have HU:=aa hu;have mX:=aa (iU w P N 39);have lK:=aa (iV w P N 39);have HT:=aa kY;have HS:=aa (ah.keep hS (hu.kept S));have Qr:=aa hz;clear hu kY hS hP hN hz
 go_enter Tryz.func124,Tryz.ntmps124
 go_wp2_with fail;generalize w.alloc (.cells #[P,N] 39)=w1 at *;refine HK.out.mono ?_;rintro e w2 ⟨hb,⟨he,rfl⟩ | ⟨he,vl,rfl,hl⟩⟩
 ·have bD:=aa (HU.out.trans (show Up w1 w2 from hb))
  have HE:=aa he;clear hb he HK;go_wp2_with fail;go_ret2;have hpe:nU t st (bZ 16)=1:=by unfold nU;rw [if_pos HE.out]
  exact ⟨bD.out,by rw [Zc (by rw [hpe];decide),hpe];rfl⟩
 ·have aK:Up w1 w2:=hb
  have hc0:=aK.cell mX.out;have hc1:=aK.cell lK.out;have bD:=aa (HU.out.trans aK);have uj:=aa (HT.out.keep (aK.kept S));have oQ:=aa (ah.keep HS.out (aK.kept S));obtain ⟨ql,capl,rfl,_,_⟩:=ay.open hl;have HE:=aa he;have HKN:=aa (known_t S w2 vs st (aD t.ns).length (-1) 16 oQ.out hst);have I7:=aa (par16 he st);clear hb he HK aK hl HU mX lK HT HS;go_wp2_with fail;refine HKN.out.mono ?_;rintro e w3 ⟨rfl,hb3⟩;have dQ:Up w2 w3:=hb3;have hc0:=dQ.cell hc0;have hc1:=dQ.cell hc1;have eo:=aa (bD.out.trans dQ)
  have HT3:=aa (uj.out.keep (dQ.kept S));have EW:=aa (ah.keep oQ.out (dQ.kept S));clear hb3 dQ HKN;rw [<- I7.out];by_cases hpe:nU t st (bZ 16)=0
  ·rw [hpe]
   have hv:=Td hpe;(have HF:Hid (dg t st (bZ 16)=(cN (fun _=>0) (gi (bK t st (bZ 16) 0)) (bZ 16).length).1):=by unfold Hid dg;rw [if_pos hpe]);have HP:=aa hpe;have CR:Hid (∀W vc,Up w3 W->aR Any W vc (bZ 16)->Calls Tryz.prog 170 #[.agg #[P,N],vs,vc] W (Zb W t st (bZ 16))):=fun W vc hW hR =>
    (table_v Any W _ _ _ t st (bZ 16) ((HT3.out.keep (hW.kept _)).sub fun _ _ _=>trivial) (ah.sub (ah.keep EW.out (hW.kept _)) fun _ _ _=>trivial) hR Qr.out hv).mono fun _ _ h=>tb1 hv h
   (have hml:(bK t st (bZ 16) 0).length<=1000:=by rw [lV,S2];omega);(have hpos0:(0:Int)<(t.ps.length:Int):=by have:=(aF HE.out).1;omega);have zT:=aa hml;have HW3:=aa (Up.refl w3);have fT:Hid (Up w3 (w3.drewN 1)):=Up.drewN w3 1;clear hpe hv hml;go_wp2_with fail
   go_region_with (first
    | (go_at_call 171;refine (unit_t _ 16 (by decide) (by decide)).mono ?_;rintro e w5 ⟨qG,vc,rfl,Q0⟩;have hR5:=aa Q0;have hc0:=(fT.out.trans (show Up _ w5 from qG)).cell hc0;have hc1:=(fT.out.trans (show Up _ w5 from qG)).cell hc1;have fT:Hid (Up w3 w5):=fT.out.trans (show Up _ w5 from qG);clear qG Q0)
    | (go_at_call 170;refine (CR.out _ _ fT.out hR5.out).mono ?_;rintro e w6 ⟨tb,tof,tcap,rq,rc,rfl,hcell,hrow,hup6⟩;have hR6:=aa hrow;have fT:Hid (Up w3 w6):=fT.out.trans hup6;clear hup6 hrow)
    | (go_at_call 169;refine (least2_t Any _ _ _ hR6.out zT.out).mono ?_;rintro e w7 ⟨rfl,rfl⟩))
   all_goals
    go_wp2_with fail;go_ret2;exact ⟨eo.out.trans fT.out,by rw [HF.out,HP.out,S2,lV,S2];rfl⟩
  ·have Nu:(nU t st (bZ 16) != 0)=true:=by simpa using hpe
   have HP:=aa hpe;clear hpe;have xC:Hid (dg t st (bZ 16)=0):=Zc HP.out;go_wp2_with fail;go_ret2;exact ⟨eo.out,by rw [xC.out];rfl⟩
def yN (t:az) (aac:List ByteArray) (aad:List (List Int)):Value:=.tuple #[.int .i64 (if oB t aac then bz t aac aad else 0),.int .i64 (if oB t aac then 0 else 9)]
theorem J9 {f:Nat->Int}:∀ {n:Nat},(∀p,p<n->0<=f p/\f p<=100000)->0<=bJ f n/\bJ f n<=100000*n
 | 0,_=>⟨lT _,lT _⟩
 | n+1,h=>by
  have h1:=J9 (f:=f) (n:=n) fun p hp=>h p (by omega)
  have h2:=h n (by omega)
  rw [fD]
  omega
theorem Vo {aad:List (List Int)} (h:fo aad=0):aad.length<=32/\(gl aad 0).length<=4096:=by
 unfold fo at h;split at h
 ·cases h
 ·split at h
  ·cases h
  ·rename_i h1;omega
theorem RD (S:Nat->Prop) (w:World) (v vn vs:Value) (t:az) (aac:List ByteArray) (aad:List (List Int)) (hT:aI S w v t) (ht:aH t=0) (hz:∀k,(gs t.ns k).size<=70000) (h:au S w vn aac) (hS:aR S w vs aad) (hc:mR aac aad) :
  Calls Tryz.prog 69 #[v,vn,vs] w fun e w'=>e=.returned (yN t aac aad)/\Up w w':=by
 obtain ⟨hp1,DR,hnl,hok,-⟩:=aF ht;have hlv:=yF t.ns;obtain ⟨P,N,rfl,hP,hN⟩:=hT;obtain ⟨np,nc,rfl,-,-⟩:=ay.open hN;have hN:au S w (.slice np t.ns.length nc) t.ns:=hN;obtain ⟨pp,pc,rfl,-,-⟩:=ay.open hP;have hP:ah S w (.slice pp t.ps.length pc) t.ps:=hP;obtain ⟨mp,mc,rfl,-,-⟩:=ay.open h;have h:au S w (.slice mp aac.length mc) aac:=h;obtain ⟨sp,sc,rfl,-,-⟩:=dW hS;obtain ⟨ag0,agr⟩:=yM hc.ag;obtain ⟨ag32,ag4⟩:=Vo hc.ag;have bA:Up w (w.alloc (.cells #[.slice pp t.ps.length pc,.slice np t.ns.length nc] 39)):=Up.alloc _ _
 have hrb:=gp (w:=w) (P:=.slice pp t.ps.length pc) (N:=.slice np t.ns.length nc) (T:=39);obtain ⟨q0,q1,-,-⟩:=boxed hrb;have kY:aI S (w.alloc (.cells #[.slice pp t.ps.length pc,.slice np t.ns.length nc] 39)) (.agg #[.slice pp t.ps.length pc,.slice np t.ns.length nc]) t:=⟨_,_,rfl,ah.keep hP (bA.kept S),au.keep hN (bA.kept S)⟩;have fN:=aa (Vi S (w.alloc (.cells #[.slice pp t.ps.length pc,.slice np t.ns.length nc] 39)) _ _ t aac kY (by omega) (by omega) hz (au.keep h (bA.kept S)) (by have:=hc.nm.hi;omega));have QU:=aa kY
 have lN:=aa (aR.keep hS (bA.kept S));have cA:=aa bA;have HB:Hid (Dl t aac=oB t aac):=by unfold Hid Dl;rw [decide_eq_true ht];rfl
 have tC:Hid (∀W v u st,aI S W v t->ah Any W u st->st.length<=64->Calls Tryz.prog 124 #[v,u] W (FiPost W t st)):=fun W v u st h1 h2 h3=>fitch_t Any W v u t st (h1.sub fun _ _ _=>trivial) h2 (by omega) (by omega) hz (by omega);have EX:=aa agr;have N3:=aa (And.intro ag0 (And.intro ag32 ag4));have K2:Hid ((aD t.ns).length<=64):=by unfold Hid;omega
 have qT:=aa hc.len;have HST:Hid (yN t aac aad=.tuple #[.int .i64 (if oB t aac then bz t aac aad else 0),.int .i64 (if oB t aac then 0 else 9)]):=rfl;have HVA:Hid (oB t aac=true->∀p,p<(gl aad 0).length->dg t (iN t aac aad p) (bZ 16)<=100000/\0<=dg t (iN t aac aad p) (bZ 16)/\nU t (iN t aac aad p) (bZ 16)=0):=fun hf p hp=>by have hv:=ru hc ((B9 hc.nm ht).1 hf) hp;exact ⟨Qe hv,s9 hv,hv.par⟩
 have HFD:Hid (oB t aac=true->∀j,j<(aD t.ns).length->∃b:Nat,gi (Dk t aac (aD t.ns).length) j=b/\b<aac.length):=fun hf j hj=>by have ho:=(B9 hc.nm ht).1 hf;obtain ⟨v,hv,uM,hv0⟩:=qi hj;obtain ⟨b,hb,_,e⟩:=zm ho (show v<t.ps.length by omega) hv0;exact ⟨b,by rw [plK_gi hj,hv,cZ,e],hb⟩
 clear hP hN h hS bA hrb hz kY hc ht agr ag0 ag32 ag4 hok hp1 DR hnl hlv
 go_enter Tryz.func69,Tryz.ntmps69
 go_wp2_with fail;generalize w.alloc (.cells #[.slice pp t.ps.length pc,.slice np t.ns.length nc] 39)=w1 at *;refine fN.out.mono ?_;rintro e w2 ⟨aK,pv,rfl,hpv⟩;rw [HB.out] at hpv ⊢;cases hfit:oB t aac
 ·have xB:Hid (yN t aac aad=.tuple #[.int .i64 0,.int .i64 9]):=by unfold Hid;rw [HST.out,hfit];rfl
  have kA:Hid (Ending.returned (.tuple #[.int .i64 0,.int .i64 9])=Ending.returned (yN t aac aad)/\Up w w2):=⟨by rw [xB.out],cA.out.trans aK⟩;clear hpv aK fN;go_wp2_with fail;go_ret2;exact kA.out
 ·have hpi:=hpv hfit
  obtain ⟨rp,rc,rfl,-,-⟩:=ay.open hpi;rw [EY] at hpi;rw [EY];have HPI:=aa hpi;have xB:Hid (yN t aac aad=.tuple #[.int .i64 (bz t aac aad),.int .i64 0]):=by unfold Hid;rw [HST.out,hfit];rfl
  have HVA2:=aa (HVA.out hfit);have HFD2:=aa (HFD.out hfit);have bD:=aa (cA.out.trans aK);have uj:=aa (QU.out.keep (aK.kept S));have oQ:=aa (lN.out.keep (aK.kept S));have HQ:=aa (And.intro (aK.cell q0) (aK.cell q1));obtain ⟨sb,so,s0,s1,rfl,hc0,jg⟩:=gP oQ.out N3.out.1;rw [jZ] at hc0;have i1:(0:Int)<(aad.length:Int):=by have:=N3.out.1;omega
  clear hpv hpi aK fN QU lN HST HVA HFD q0 q1 jg cA;go_wp2_with fail;have Vp:Hid (∀n:Nat,n<=(gl aad 0).length->0<=bJ (fun p=>dg t (iN t aac aad p) (bZ 16)) n/\bJ (fun p=>dg t (iN t aac aad p) (bZ 16)) n<=100000*n):=fun n hn=>J9 fun p hp=>by obtain ⟨h1,h2,_⟩:=HVA2.out p (by omega);exact ⟨h2,h1⟩
  have vT:Hid (∀n:Nat,bJ (fun p=>dg t (iN t aac aad p) (bZ 16)) (n+1)=bJ (fun p=>dg t (iN t aac aad p) (bZ 16)) n+dg t (iN t aac aad n) (bZ 16)):=fun n=>rfl;have HSX:Hid (bz t aac aad=bJ (fun p=>dg t (iN t aac aad p) (bZ 16)) (gl aad 0).length):=rfl;generalize hF:(fun n=>bJ (fun p=>dg t (iN t aac aad p) (bZ 16)) n)=F at *;have Zd:∀n,bJ (fun p=>dg t (iN t aac aad p) (bZ 16)) n=F n:=fun n=>by rw [<- hF]
  have HF0:Hid (F 0=0):=by unfold Hid;rw [<- Zd];rfl
  have Vp:Hid (∀n:Nat,n<=(gl aad 0).length->0<=F n/\F n<=100000*n):=fun n hn=>by rw [<- Zd];exact Vp.out n hn
  have vT:Hid (∀n:Nat,F (n+1)=F n+dg t (iN t aac aad n) (bZ 16)):=fun n=>by rw [<- Zd,<- Zd];exact vT.out n
  have HSX:Hid (bz t aac aad=F (gl aad 0).length):=by unfold Hid;rw [<- Zd];exact HSX.out
  clear hF Zd
  go_loopw [10,11,12,14,15,16,29] (fun s _ _ _ _ _ i wr=>∃n:Nat,n<=(gl aad 0).length/\i=.int .i64 n/\s=.int .i64 (F n)/\Hid (Up w2 wr)) (fun _ _ _ _ _ _ i _=>(gl aad 0).length - (intOf i).toNat)
  case atStart=>exact ⟨0,aL _,rfl,by rw [HF0.out],Up.refl _⟩
  case round =>
   obtain ⟨n,hn,rfl,rfl,hU⟩:=hrel;obtain ⟨wo,rfl⟩:∃wo:World,wo=wr:=⟨_,rfl⟩;by_cases hlt:n<(gl aad 0).length
   ·have i2:(n:Int)<((gl aad 0).length:Int):=by omega
    (have i3:(n:Int)<4096:=by have:=N3.out.2.2;omega);(have i4:(0:Int)<=(n:Int):=by omega);have nE:=Vp.out n hn;have hf2:=Vp.out (n+1) hlt;rw [vT.out n] at hf2;obtain ⟨hv1,hv2,hv3⟩:=HVA2.out n hlt;have HV:=aa (And.intro nE (And.intro hf2 (And.intro hv1 (And.intro hv2 hv3))));have qP:Hid (ax wo.heap.size 3 wo (.slice none 0 0) ((nu t aac (bg aad n) 0).map (Value.int .i64))/\Up wo wo):=⟨ax.nil _ _ _,Up.refl _⟩;clear nE hf2 hv1 hv2 hv3;go_wp2_with fail
    go_loopw [12,14,34] (fun o _ i wr=>∃j:Nat,j<=(aD t.ns).length/\i=.int .i64 j/\Hid (ax wo.heap.size 3 wr o ((nu t aac (bg aad n) j).map (Value.int .i64))/\Up wo wr)) (fun _ _ i _=>(aD t.ns).length - (intOf i).toNat)
    case atStart=>exact ⟨0,aL _,rfl,qP.out⟩
    case round =>
     obtain ⟨j,hj,rfl,hI⟩:=hrel;obtain ⟨wi,rfl⟩:∃wi:World,wi=wr:=⟨_,rfl⟩;obtain ⟨hA,dY⟩:=hI.out;by_cases hlj:j<(aD t.ns).length
     ·obtain ⟨b,hb1,hb2⟩:=HFD2.out j hlj
      obtain ⟨xb,xo,rfl,xI⟩:=dG (ah.keep HPI.out ((hU.out.trans dY).kept _)) (k:=j) (by rw [EY];exact hlj);rw [hb1] at xI;(have Bw:b<aad.length:=by rw [qT.out];exact hb2);obtain ⟨rb,ro,r0,r1,er,K3,hir⟩:=gP (aR.keep oQ.out ((hU.out.trans dY).kept S)) Bw;injection er with er;injection er with er1 er2;subst er1;subst er2;rw [(EX.out b Bw).1] at K3;obtain ⟨yb,yo,rfl,hcy⟩:=dG hir (k:=n) (by rw [(EX.out b Bw).1];exact hlt)
      (have oy:Hid ((nu t aac (bg aad n) (j+1)).map (Value.int .i64)=(nu t aac (bg aad n) j).map (Value.int .i64)++[.int .i64 (gi (gl aad b) n)]):=by unfold Hid;(have e2:iD aac (gs t.ns (gi (aD t.ns) j).toNat)=b:=by rw [<- plK_gi hlj];exact hb1);rw [ownP_succ,cg,e2,cZ,r7 _ _ Bw];rfl);(have gI:Hid (((nu t aac (bg aad n) j).map (Value.int .i64)).length=j):=by unfold Hid;rw [aG,qp]);have HA:=aa hA;have Vj:=aa dY;have hsz:=dY.size;have k1:(0:Int)<=(j:Int):=by omega
      (have k2:(j:Int)<((aD t.ns).length:Int):=by omega);(have k3:(j:Int)<64:=by have:=K2.out;omega);(have k4:(0:Int)<=(b:Int):=by omega);(have k5:(b:Int)<(aad.length:Int):=by omega);generalize gi (gl aad b) n=y at *;clear hI hA dY hlj hir hb1 hb2 Bw;go_wp2_with (at_builtin;refine DN wi rfl _ _ 26 rfl wo.heap.size 3 _ 8 Tryz.underlying26 Tryz.kE rfl (by decide) HA.out rfl _ rfl rfl j gI.out (by omega) hsz ?_;intro g cap w8 hown1 hg1 o7)
      (have Vk:Hid (ax wo.heap.size 3 w8 (.slice (some ⟨g,0,none⟩) (j+1) cap) ((nu t aac (bg aad n) (j+1)).map (Value.int .i64))):=by unfold Hid;rw [oy.out];exact hown1);have qQ:Hid (Up wo w8):=iH Vj.out o7;clear hown1 hg1 o7
      go_roundw
      case rel=>exact ⟨j+1,by omega,by go_num,Vk.out,qQ.out⟩
      case measure=>simp [intOf];omega
     ·obtain rfl:j=(aD t.ns).length:=by omega
      obtain ⟨op,oc,rfl,-⟩:=hA.form (n:=(aD t.ns).length) (by rw [aG,qp]);have HFT:=aa (tC.out wi _ (.slice op (aD t.ns).length oc) (iN t aac aad n) (uj.out.keep ((hU.out.trans dY).kept S)) (hA.ints.sub fun _ _ _=>trivial) (by unfold iN;rw [qp];exact K2.out));have q0:=(hU.out.trans dY).cell HQ.out.1;have q1:=(hU.out.trans dY).cell HQ.out.2;have Ze:=aa (hU.out.trans dY);have GN:=aa (vT.out n);clear hI hA dY hlj hj;obtain ⟨nE,hf2,hv1,hv2,hv3⟩:=HV.out;have HV3:=aa hv3;clear hv3;generalize F n=fn at *;go_wp2_with fail
      refine HFT.out.mono ?_;rintro e w9 ⟨kN,rfl⟩;have zX:=aa (Ze.out.trans kN);rw [HV3.out];clear kN HFT;generalize dg t (iN t aac aad n) (bZ 16)=z at *;(have Vq:fn+z<=409600000/\0<=fn+z:=by constructor<;>omega);go_wp2_with fail
      go_roundw
      case rel=>exact ⟨n+1,by omega,by go_num,by rw [GN.out],zX.out⟩
      case measure=>simp [intOf];omega
   ·obtain rfl:n=(gl aad 0).length:=by omega
    have kA:Hid (Ending.returned (.tuple #[.int .i64 (F (gl aad 0).length),.int .i64 0])=Ending.returned (yN t aac aad)/\Up w wo):=⟨by rw [xB.out,HSX.out],bD.out.trans hU.out⟩;clear hlt;go_wp2_with fail;go_ret2;exact kA.out
theorem Zf {aac:List ByteArray} (h5:aac.length<=5\/7<aac.length) (h0:dm aac=0):aac.length<=5:=by
 rcases h5 with h5 | h5
 ·exact h5
 ·unfold dm at h0;rw [if_pos (.inr h5)] at h0;cases h0
theorem F8 {aac:List ByteArray} {aad:List (List Int)} (h5:aac.length<=5\/7<aac.length) (h0:gL aac aad=0):mR aac aad:=by
 have h1:dm aac=0:=by
  unfold gL at h0;split at h0
  ·rename_i h;exact absurd h0 h
  ·rename_i h;omega
 exact (vJ (Zf h5 h1)).1 h0
end
section
def jK:List ByteArray:=[⟨#[65]⟩,⟨#[66]⟩,⟨#[67]⟩,⟨#[68]⟩]
def p9:az:=⟨[-1,0,0,2,2,4,4],[⟨#[]⟩,⟨#[65]⟩,⟨#[]⟩,⟨#[66]⟩,⟨#[]⟩,⟨#[67]⟩,⟨#[68]⟩]⟩
def uy:az:=⟨[-1,0,0,2,3,3,2],[⟨#[]⟩,⟨#[65]⟩,⟨#[]⟩,⟨#[]⟩,⟨#[66]⟩,⟨#[67]⟩,⟨#[68]⟩]⟩
def sw:az:=⟨[-1,0,0,2,3,3,2],[⟨#[]⟩,⟨#[65]⟩,⟨#[]⟩,⟨#[]⟩,⟨#[66]⟩,⟨#[68]⟩,⟨#[67]⟩]⟩
theorem E0:allT jK=[uy,sw,p9]:=by decide +kernel
end
section
open Go.RowKit Go.Deep
def tV (w:World) (aac:List ByteArray) (e:Ending) (w':World):Prop :=
 Up w w'/\∃v,e=.returned (.tuple #[v,.int .i64 (dm aac)])/\fQ Any w' v (if dm aac=0 then allT aac else [])
theorem RF {w:World} {v:Value} {qs:List RT} (h:ET w v qs):∃g cap,v=.slice (some ⟨g,0,none⟩) qs.length cap:=by
 obtain ⟨g,cap,es,e1,_⟩:=h;exact ⟨g,cap,e1⟩
theorem LZ {w:World} {g n cap:Nat} {qs:List RT} (h:ET w (.slice (some ⟨g,0,none⟩) n cap) qs) {k:Nat} (hk:k<qs.length) :
  ∃pp pc np nc,w.cell? ⟨g,k*3,none⟩=some (.slice pp (gt (qs.map flat) k).ps.length pc)/\w.cell? ⟨g,k*3+1,none⟩=some (.slice np (gt (qs.map flat) k).ns.length nc)/\w.cell? ⟨g,k*3+2,none⟩=some (.string (cz (qs.getD k (.node ByteArray.empty []))))/\aI Any w (.agg #[.slice pp (gt (qs.map flat) k).ps.length pc,.slice np (gt (qs.map flat) k).ns.length nc]) (gt (qs.map flat) k):=by
 obtain ⟨g',cap',es,e1,e2,h1,h2⟩:=h;injection e1 with e1;injection e1 with e1;injection e1 with e1;subst e1;subst e2;rw [aG] at hk;obtain ⟨c0,c1,c2⟩:=h1 k hk;have hg:gt ((es.map (·.2)).map flat) k=flat (ge es k).2:=by simp [gt,ge,hk]
 have hg2:(es.map (·.2)).getD k (.node ByteArray.empty [])=(ge es k).2:=by simp [ge,hk]
 have h3:=h2 _ (ge_mem hk);rw [hg,hg2];obtain ⟨P1,N1,e,hP,hN⟩:=h3;injection e with e;have e1:(ge es k).1.1=P1/\(ge es k).1.2=N1:=by simpa using e
 obtain ⟨pp,pc,e2,_,_⟩:=ay.open hP;obtain ⟨np,nc,e3,_,_⟩:=ay.open hN;rw [<- e1.1] at e2;rw [<- e1.2] at e3;rw [e2] at c0;rw [e3] at c1;refine ⟨pp,pc,np,nc,c0,c1,c2,_,_,rfl,?_,?_⟩
 ·rw [<- e2,e1.1];exact hP
 ·rw [<- e3,e1.2];exact hN
theorem Pt {ts:List az} {n:Nat} (h:n<ts.length):ts.take (n+1)=ts.take n++[gt ts n]:=by
 rw [jY h];simp [gt,h]
def AlI (w:World) (aac:List ByteArray) (n:Nat) (out:Value) (wr:World):Prop:=Up w wr/\∃es:List rP,nw w.heap.size wr out es/\es.map (·.2)=(allT aac).take n
end
end Go.Proofs.YthgabkgmkolobaaGreat
