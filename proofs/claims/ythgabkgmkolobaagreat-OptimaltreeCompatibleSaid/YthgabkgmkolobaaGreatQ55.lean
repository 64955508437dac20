/- Rows that each grow, in a list; the law of OptimaltreeCompatible. -/
import Derived.Test.YthgabkgmkolobaaGreatQ54
set_option maxRecDepth 100000
set_option maxHeartbeats 16000000
namespace Go.Proofs.YthgabkgmkolobaaGreat
open Go.RowKit Go.Deep
structure Rg (B n:Nat) (W:World) (f:Nat->Value) (xs:Nat->List Int):Prop where
 row:W.rowIs B 26 n f
 own:∀i,i<n->ax (B+1) 3 W (f i) ((xs i).map (Value.int .i64))
 ap:∀i j,i<n->j<n->i≠j->∀b,(f i).ownBlock=some b->(f j).ownBlock≠some b
section
variable {B n:Nat} {W W':World} {f:Nat->Value} {xs ys:Nat->List Int}
theorem Rg.up (h:Rg B n W f xs) (hu:Up W W'):Rg B n W' f xs:=⟨h.row.of_block (bI hu B h.row.lt),fun i hi=>yu (h.own i hi) hu,h.ap⟩
theorem Rg.made (w:World) (n:Nat):Rg w.heap.size n (w.alloc (.cells (madeCells #[.slice none 0 0] n) 26)) (fun _=>.slice none 0 0) (fun _=>[]) :=
 ⟨Bo _ _ _ _,fun _ _=>ax.nil _ _ _,fun i j _ _ _ b h=>(by cases h)⟩
theorem Rg.congr (h:Rg B n W f xs) (e:∀i,i<n->xs i=ys i):Rg B n W f ys:=⟨h.row,fun i hi=>by rw [<- e i hi];exact h.own i hi,h.ap⟩
theorem Rg.app (h:Rg B n W f xs) {i:Nat} (hi:i<n) {g k cap:Nat} {x:Int} (ho:ax (B+1) 3 W' (.slice (some ⟨g,0,none⟩) k cap) ((xs i).map (Value.int .i64)++[.int .i64 x])) (hg:W.grownBy W' (f i).ownBlock) (dD:(f i).ownBlock=some g\/W.heap.size<=g) :
  (W'.cell? ⟨B,i,none⟩=some (f i)/\W'.frozen? ⟨B,i,none⟩=false)/\Rg B n (W'.setCell ⟨B,i,none⟩ (.slice (some ⟨g,0,none⟩) k cap)) (fun j=>if j=i then .slice (some ⟨g,0,none⟩) k cap else f j) (fun j=>if j=i then xs i++[x] else xs j):=by
 have hlt:=fun j hj b hb=>av (h.own j hj) (b:=b) hb;have hr:W'.rowIs B 26 n f:=h.row.of_block (hg.block B h.row.lt fun e=>by have:=(hlt i hi B e.symm).1;omega);refine ⟨⟨hr.cell hi,hr.frozen i⟩,hr.set i _,fun j hj=>?_,fun a b ha hb hab c hc=>?_⟩
 ·by_cases e:j=i
  ·subst e
   rw [if_pos rfl,if_pos rfl,cg];exact ho.fM fun b hb=>yB _ _ _ _ (by show b≠B;have:=(av ho hb).1;omega)
  ·rw [if_neg e,if_neg e]
   exact (h.own j hj).fM fun b hb=>(yB _ _ _ _ (by show b≠B;have:=(hlt j hj b hb).1;omega)).trans (hg.block b (hlt j hj b hb).2 fun q=>h.ap i j hi hj (fun z=>e z.symm) b q.symm hb)
 ·by_cases e1:a=i
  ·subst e1
   rw [if_pos rfl] at hc;rw [if_neg (fun z=>hab z.symm)];injection hc with hc;have hc:g=c:=hc;subst hc;rcases dD with q | q
   ·exact h.ap a b ha hb hab g q
   ·intro z;have:=(hlt b hb g z).2;omega
  ·rw [if_neg e1] at hc
   by_cases e2:b=i
   ·subst e2
    rw [if_pos rfl];intro z;injection z with z;have z:g=c:=z;subst z;rcases dD with q | q
    ·exact h.ap b a hb ha (fun z=>e1 z.symm) g q hc
    ·have:=(hlt a ha g hc).2;omega
   ·rw [if_neg e2];exact h.ap a b ha hb hab c hc
theorem Rg.rows (h:Rg B n W f xs) {L:List (List Int)} (hl:L.length=n) (hx:∀i,i<n->gl L i=xs i):aR Any W (.slice (some ⟨B,0,none⟩) n n) L:=by
 subst hl;refine ⟨f,⟨some ⟨B,0,none⟩,L.length,rfl,af _,.inr ⟨B,0,rfl,trivial,fun k hk=>by rw [mg];exact h.row.cell hk⟩⟩,fun k hk=>?_⟩;rw [hx k hk];exact (h.own k hk).ints.sub fun _ _ _=>trivial
end
theorem cpR_succ {t:az} {aac:List ByteArray} {bits m:Nat} (h:0<m/\bits.testBit (m % 16)=true) (i:Nat):rC t aac bits (m+1) i=rC t aac bits m i++[CE t aac i m]:=by
 unfold rC;rw [MA,if_pos h,cg];rfl
theorem cpR_same {t:az} {aac:List ByteArray} {bits m:Nat} (h:¬(0<m/\bits.testBit (m % 16)=true)) (i:Nat):rC t aac bits (m+1) i=rC t aac bits m i:=by
 unfold rC;rw [MA,if_neg h,gN]
theorem Hq {aac:List ByteArray} {aad:List (List Int)} (h5:aac.length<=5\/7<aac.length):(l5 aac aad).length<=63/\∀k,(gt (l5 aac aad) k).ps.length<=1000000/\(gt (l5 aac aad) k).ns.length<=1000000:=by
 unfold l5;split
 ·rename_i h0
  have hc:=F8 h5 h0;have cE:(allT aac).length<=15:=by unfold allT;rw [aG,rO hc.nm];split<;>(try split)<;>(try split)<;>omega
  refine ⟨aJ (pG _ _) (by omega),Xn fun t ht=>?_⟩;have ht2:=(fL.1 ht).1;obtain ⟨ho,_⟩:=mM hc.nm ht2;obtain ⟨_,Cn,hl,_,_⟩:=aF ho.te;omega
 ·exact ⟨aL _,Xn fun t h=>by cases h⟩
theorem u16_and_nat (a b:Nat) (ha:a<65536) (hb:b<65536):Go.bits BinOp.and IntKind.u16 (a:Int) (b:Int)=((a &&& b:Nat):Int):=by
 have hx:a &&& b<2 ^ 16:=Nat.and_lt_two_pow _ (by omega);show IntKind.u16.wrap ((BitVec.ofInt 16 (a:Int) &&& BitVec.ofInt 16 (b:Int)).toNat:Int)=_;have e:∀x:Nat,x<65536->(BitVec.ofInt 16 (x:Int)).toNat=x:=fun x hx=>by rw [BitVec.ofInt_natCast,BitVec.toNat_ofNat];exact Nat.mod_eq_of_lt (by omega)
 rw [BitVec.toNat_and,e a ha,e b hb];show ((a &&& b:Nat):Int) % 65536=_;omega
theorem O1 {b:Nat} (hb:b<65536) (s:Nat):(Go.bits BinOp.and IntKind.u16 ((b:Int) / 2 ^ s) 1==0)=!b.testBit s:=by
 have e:((b:Int) / 2 ^ s)=((b / 2 ^ s:Nat):Int):=by rw [Int.natCast_ediv];simp
 have h1:b / 2 ^ s<65536:=Nat.lt_of_le_of_lt (Nat.div_le_self _ _) hb;have h2:=u16_and_nat (b / 2 ^ s) 1 h1 (by decide);rw [e,show (1:Int)=((1:Nat):Int) from rfl,h2,Nat.and_one_is_mod,Nat.testBit_eq_decide_div_mod_eq,lR];simp only [beq_iff_eq,Ag,decide_eq_false_iff_not];omega
theorem str_any (l:List ByteArray) (s:ByteArray):((List.range l.length).any fun j=>decide (s=gs l j))=decide (s∈l):=by
 rw [lR,eO,decide_eq_true_eq];constructor
 ·rintro ⟨k,hk,e⟩
  have hk:=bh.1 hk;rw [of_decide_eq_true e];simp [gs,hk]
 ·intro h
  obtain ⟨k,hk,e⟩:=vk h;exact ⟨k,bh.2 hk,decide_eq_true (by simp [gs,hk,e])⟩
@[go_sem high] theorem run_max3q (w:World) (ts:Array TypeId) (t:TypeId) (k:IntKind):(Builtin.max_ ts t #[.int k 0,.int k 0,.int k 0]).run Tryz.prog w=.ok (.int k 0) w:=by
 simp [Builtin.max_,Builtin.max2]
def Xo (w4 wo w5:World) (B n:Nat) (xs:Nat->List Int) (wr:World):Prop:=Up w4 wr/\w5.heap.size<=wr.heap.size/\(∀b,wo.heap.size<=b->b<w5.heap.size->wr.heap[b]? = w5.heap[b]?)/\∃f,Rg B n wr f xs/\∀j,j<n->∀b,(f j).ownBlock=some b->b<wo.heap.size\/w5.heap.size<=b
theorem Xo.app {w4 wo w5 wi W':World} {B n i:Nat} {xs:Nat->List Int} (hj:Xo w4 wo w5 B n xs wi) (hB4:w4.heap.size<=B) (YP:B<wo.heap.size) {f:Nat->Value} (h:Rg B n wi f xs) (hf:∀j,j<n->∀b,(f j).ownBlock=some b->b<wo.heap.size\/w5.heap.size<=b) (hi:i<n) {g k cap:Nat} {x:Int}
  (ho:ax (B+1) 3 W' (.slice (some ⟨g,0,none⟩) k cap) ((xs i).map (Value.int .i64)++[.int .i64 x])) (hg:wi.grownBy W' (f i).ownBlock) (dD:(f i).ownBlock=some g\/wi.heap.size<=g) :
  Xo w4 wo w5 B n (fun j=>if j=i then xs i++[x] else xs j) (W'.setCell ⟨B,i,none⟩ (.slice (some ⟨g,0,none⟩) k cap)):=by
 obtain ⟨hu,hs,hk,_⟩:=hj;have ha:=h.app hi ho hg dD;have fT:Below w4.heap.size w4 W':=zA hu hg hu.size fun k hk2=>by have:=(av (h.own i hi) hk2).1;omega
 refine ⟨yC fT (by show w4.heap.size<=B;exact hB4) _,aJ hs (by simp [World.size_setCell];exact hg.size),fun b h1 h2=>?_,_,ha.2,fun j hj b hb=>?_⟩
 ·rw [yB _ _ _ _ (by show b≠B;omega),hg.block b (by omega) fun e=>by rcases hf i hi b e.symm with q | q<;>omega]
  exact hk b h1 h2
 ·by_cases e:j=i
  ·rw [if_pos e] at hb
   injection hb with hb;have hb:g=b:=hb;subst hb;rcases dD with q | q
   ·exact hf i hi g q
   ·exact .inr (by omega)
  ·rw [if_neg e] at hb
   exact hf j hj b hb
theorem Yn (l:List az) (t:az):((List.range l.length).any fun k=>decide (gt l k=t))=decide (t∈l):=by
 rw [lR,eO,decide_eq_true_eq];constructor
 ·rintro ⟨k,hk,e⟩
  have e:=of_decide_eq_true e;rw [<- e];exact pZ (bh.1 hk)
 ·intro h
  obtain ⟨k,hk,e⟩:=Jc h;exact ⟨k,bh.2 hk,decide_eq_true e⟩
def CpI (w3:World) (B n:Nat) (t:az) (aac:List ByteArray) (bits m:Nat) (wr:World):Prop:=Up w3 wr/\∃f,Rg B n wr f (rC t aac bits m)
theorem Xp (w:World) (v:Value) (aac:List ByteArray) (c bits:Nat) (h:au Any w v aac) (hn:aac.length<=9223372036854775807) (hz:∀k,(gs aac k).size<=9223372036854775807) (hc:c<256) (zW:bits<65536) :
  Calls Tryz.prog 5 #[v,.int .u8 c,.int .u16 bits] w fun e w'=>e=.returned (.bool true)/\Up w w':=by
 obtain ⟨p,cap,rfl,hcap,-⟩:=ay.open h;have h:au Any w (.slice p aac.length cap) aac:=h;have je:=aa (Sq Any w _ aac h hn hz);have Aa:Hid (∀W,Calls Tryz.prog 26 #[] W fun e w'=>e=.returned (.bool true)/\Up W w'):=Sm;have rz:Hid (zK aac=true->gT aac):=nmd_ok;have HH:=aa h;clear h hz hn
 go_enter Tryz.func5,Tryz.ntmps5
 go_wp2_with fail;refine je.out.mono ?_;rintro e w1 ⟨rfl,bA⟩;have cA:=aa bA;clear je;cases hf:zK aac
 ·clear hf rz bA
  go_wp2_with fail;refine (Aa.out _).mono ?_;rintro e w' ⟨rfl,dX⟩;go_wp2_with fail;go_ret;exact ⟨rfl,cA.out.trans dX⟩
 have hnm:=rz.out hf;have uv:=hnm.hi;have hnl:=hnm.lo;have HN:=aa hnm;have HZ:Hid (∀k,(gs aac k).size<=70000):=fun k=>aJ (lF (M:=20) (fun x hx=>tT (hnm.nm x hx)) k) (by decide);have kM:=aa (PL Any w1 _ aac (au.keep HH.out (bA.kept _)) (by omega) HZ.out (.inl uv));unfold tV at kM;rw [(mQ uv).2 hnm,if_pos rfl] at kM;have cE:0<(allT aac).length/\(allT aac).length<=15:=by unfold allT;rw [aG,rO hnm];split<;>(try split)<;>(try split)<;>omega
 obtain ⟨k,hk⟩:∃k,k=c % (allT aac).length:=⟨_,rfl⟩;have gz:k<(allT aac).length:=by rw [hk];exact Nat.mod_lt _ cE.1
 have Ho:(c:Int).tmod ((allT aac).length:Int)=(k:Int):=by rw [Int.tmod_eq_emod_of_nonneg (by omega),hk];push_cast;rfl
 have hse2:(c:Int) % ((allT aac).length:Int)=(k:Int):=by rw [hk];push_cast;rfl
 have hkk:(k:Int)<((allT aac).length:Int):=by omega
 have hk16:(k:Int)<16:=by omega
 have kW:(0:Int)<=(k:Int):=by omega
 have hc256:(c:Int)<256:=by omega
 have hc0:(0:Int)<=(c:Int):=by omega
 have hwd:IntKind.i64.wrap (c:Int)=(c:Int):=IntWalk.i64_in _ (by omega);have hl0:((allT aac).length:Int)≠0:=by omega
 have d0:(((allT aac).length:Int)==0)=false:=beq_eq_false_iff_ne.2 hl0;have OO:=pZ gz;have ho:=(mM hnm OO).1;obtain ⟨jW,Cn,FM,hok,_⟩:=aF ho.te;have htz:=(Pw hnm (k:=k) (by have h:=gz;unfold allT at h;rwa [aG] at h)).2.2;have HPLAW:=aa (O0 hnm OO bits);have um:=aa (And.intro jW (And.intro Cn (And.intro FM hok)));have HTZ:=aa htz;have HO:=aa ho;have iu:=aa (And.intro hnl uv);have Sr:Hid (bits<65536):=zW
 have HB15:Hid (∀j,(gt (eE aac (Ad (gt (allT aac) k) aac bits (gt (allT aac) k).ps.length)) j).ps.length<=1000000/\(gt (eE aac (Ad (gt (allT aac) k) aac bits (gt (allT aac) k).ps.length)) j).ns.length<=1000000):=fun j=>by have h5:aac.length<=5\/7<aac.length:=.inl uv;have h:=(Hq (aad:=Ad (gt (allT aac) k) aac bits (gt (allT aac) k).ps.length) h5).2 j;unfold l5 at h;rw [if_pos ((vJ uv).2 (O0 hnm OO bits).1)] at h;exact h
 have kK:=aa gz;clear hf rz bA hnm uv hnl cE hk OO ho jW Cn FM hok htz zW hc;go_wp2_with fail;refine kM.out.mono ?_;rintro e w2 ⟨aK,v2,rfl,ht2⟩;obtain ⟨p2,c2,rfl,-⟩:=iM ht2;obtain ⟨tb,to',pp,pc,np,nc,rfl,q0,q1,hT⟩:=qd ht2 kK.out;have bD:=aa (cA.out.trans aK);generalize gt (allT aac) k=t at *;have iT:=Up.alloc w2 (.cells #[.slice pp t.ps.length pc,.slice np t.ns.length nc] 39);have HT:=aa (aI.keep hT (iT.kept _));obtain ⟨r0,r1,-,-⟩:=boxed (gp (w:=w2) (P:=.slice pp t.ps.length pc) (N:=.slice np t.ns.length nc) (T:=39))
 have eo:=aa (bD.out.trans iT);have gy:=aa (BW Any _ _ t HT.out (by have:=um.out;omega) (by have:=um.out;omega) HTZ.out);rw [HO.out.te] at gy;clear ht2 aK hT iT kM bD;go_wp2_with fail;clear Ho hse2 hkk hk16 kW hc256 hc0 hwd hl0 d0 q0 q1;generalize w2.alloc (.cells #[.slice pp t.ps.length pc,.slice np t.ns.length nc] 39)=w3 at *;obtain ⟨tbx,htbx⟩:∃tbx,w2.heap.size=tbx:=⟨_,rfl⟩;rw [htbx] at r0 r1 ⊢;clear htbx;refine gy.out.mono ?_;rintro e w4 ⟨rfl,hb4⟩;have di:Up w3 w4:=hb4;replace r0:=di.cell r0;replace r1:=di.cell r1;have HR:=aa (And.intro r0 r1)
 have KG:=aa (HT.out.keep (di.kept _));have kX:=aa (eo.out.trans di);have hmk:=fun W=>run_make_row' (P:=Tryz.prog) 23 26 (.slice none 0 0) 24 Tryz.underlying23 Tryz.Tu rfl .i64 .i64 aac.length (by have:=iu.out;omega) (by have:=iu.out;omega) W;have hI0:=Rg.made w4 aac.length;obtain ⟨B,hB⟩:∃B,w4.heap.size=B:=⟨_,rfl⟩;rw [hB] at hI0;have qP:Hid (CpI w4 B aac.length t aac bits 1 (w4.alloc (.cells (madeCells #[.slice none 0 0] aac.length) 26))):=⟨Up.alloc _ _,_,hI0.congr fun i _=>by simp [rC,lQ]⟩;have vW:=aa hB;clear hb4 di gy hI0 HT eo;go_wp2_with fail
 clear hmk hB
 go_loopw [11,12,13,14,15,16,72] (fun ch nd _ _ _ _ _ wr=>∃m:Nat,1<=m/\m<=t.ps.length/\nd=.int .i64 m/\ch=.int .i64 ((lQ bits m).length:Nat)/\Hid (CpI w4 B aac.length t aac bits m wr)) (fun _ nd _ _ _ _ _ _=>t.ps.length - (intOf nd).toNat)
 case atStart=>exact ⟨1,af _,um.out.1,rfl,by simp [lQ],qP.out⟩
 case round =>
  obtain ⟨m,wV,hml,rfl,rfl,hI⟩:=hrel;obtain ⟨wo,rfl⟩:∃wo:World,wo=wr:=⟨_,rfl⟩;obtain ⟨hU,f,hG⟩:=hI.out;have r0:=hU.cell HR.out.1;have r1:=hU.cell HR.out.2;by_cases hlt:m<t.ps.length
  ·have i1:(0:Int)<=(m:Int):=by omega
   (have i2:(m:Int)<(t.ps.length:Int):=by omega);(have i3:(m:Int)<64:=by have:=um.out.2.1;omega);have HG:=aa hG;have oV:=aa hU;have bu:=aa hlt;have HM1:=aa wV;have qT:=aa (Qc bits m);have qV:=qT.out;(have i4:((lQ bits m).length:Int)<64:=by omega);(have i5:(0:Int)<=((lQ bits m).length:Int):=by omega);have nV:=aa (MA bits m);cases hb:bits.testBit (m % 16)
   ·have dB:(Go.bits BinOp.and IntKind.u16 ((bits:Int) / 2 ^ (m % 16)) 1==0)=true:=by rw [O1 Sr.out,hb];rfl
    (have lN:Hid (lQ bits (m+1)=lQ bits m):=by unfold Hid;rw [nV.out,if_neg (by rw [hb];simp),gN]);have Ep:Hid (∀i,rC t aac bits (m+1) i=rC t aac bits m i):=cpR_same (by rw [hb];simp);clear hb hI hU hG wV hml hlt qV r1;obtain ⟨cl,qV⟩:∃cl,(lQ bits m).length=cl:=⟨_,rfl⟩;rw [qV] at i4 i5 ⊢;have xO:=aa qV;clear qV;go_wp2_with fail
    go_roundw
    case rel=>exact ⟨m+1,by omega,bu.out,by go_num,by rw [lN.out,xO.out],oV.out,f,HG.out.congr fun i _=>(Ep.out i).symm⟩
    case measure=>have:=bu.out;simp [intOf];omega
   ·have dB:(Go.bits BinOp.and IntKind.u16 ((bits:Int) / 2 ^ (m % 16)) 1==0)=false:=by rw [O1 Sr.out,hb];rfl
    (have lN:Hid (lQ bits (m+1)=lQ bits m++[m]):=by unfold Hid;rw [nV.out,if_pos ⟨by omega,hb⟩]);have Ep:Hid (∀i,rC t aac bits (m+1) i=rC t aac bits m i++[CE t aac i m]):=cpR_succ ⟨by omega,hb⟩;have nX:=aa (below34_t Any wo (.agg #[.slice pp t.ps.length pc,.slice np t.ns.length nc]) t m (KG.out.keep (hU.kept _)) um.out.2.2.2 um.out.2.2.1 (by have:=um.out;omega) um.out.2.1);unfold Xm at nX;have VI:=aa (yA t aac bits m);clear hb hI hU hG wV hml hlt qV;obtain ⟨cl,qV⟩:∃cl,(lQ bits m).length=cl:=⟨_,rfl⟩;rw [qV] at i4 i5 ⊢;have xO:=aa qV;clear qV
    go_wp2_with fail;refine nX.out.mono ?_;rintro e w5 ⟨ey,bv,rfl,zQ⟩;obtain ⟨bp,bc,rfl,-⟩:=zQ.form (n:=(mG t m t.ns.length).length) (by rw [aG]);have HBO:Hid (au (fun b=>wo.heap.size<=b/\b<w5.heap.size) w5 (.slice bp (mG t m t.ns.length).length bc) (mG t m t.ns.length)):=zQ.strs.sub fun b hb hl=>⟨hb,hl⟩;have iw:=aa (oV.out.trans ey);have hG5:=HG.out.up ey
    have G5:Hid (Xo w4 wo w5 B aac.length (fun j=>if j<0 then rC t aac bits (m+1) j else rC t aac bits m j) w5):=⟨oV.out.trans ey,af _,fun _ _ _=>rfl,f,hG5.congr fun i _=>by rw [if_neg (bG _)],fun j hj b hb=>.inl (av (HG.out.own j hj) hb).2⟩;have HBo:Hid (B<wo.heap.size):=HG.out.row.lt;(have HBLL:Hid ((mG t m t.ns.length).length<=1000000):=by have:=Qb t m t.ns.length;have:=um.out;unfold Hid;omega);clear ey zQ hG5 nX r0 r1;go_wp2_with fail;clear i4 i5
    go_loopw [14,15,16,72] (fun _ _ _ i wr=>∃n:Nat,n<=aac.length/\i=.int .i64 n/\Hid (Xo w4 wo w5 B aac.length (fun j=>if j<n then rC t aac bits (m+1) j else rC t aac bits m j) wr)) (fun _ _ _ i _=>aac.length - (intOf i).toNat)
    case atStart=>exact ⟨0,aL _,rfl,G5.out⟩
    case round =>
     obtain ⟨n,hn,rfl,hJ⟩:=hrel;obtain ⟨wi,rfl⟩:∃wi:World,wi=wr:=⟨_,rfl⟩;obtain ⟨wD,hsi,hki,g,SG,hgb⟩:=hJ.out;by_cases jv:n<aac.length
     ·obtain ⟨xb,xo,rfl,jt⟩:=dr (au.keep HH.out ((kX.out.trans wD).kept _)) jv
      have hct:=kr _ wi (.slice bp (mG t m t.ns.length).length bc) (mG t m t.ns.length).length (gs (mG t m t.ns.length)) (gs aac n) (au.keep HBO.out fun b hb _=>hki b hb.1 hb.2) HBLL.out;rw [str_any] at hct;have oU:=aa hct;have HX:Hid (CE t aac n m=if gs aac n∈mG t m t.ns.length then 1 else 0):=rfl;have hgo:=SG.own n jv;rw [if_neg (mU _)] at hgo;obtain ⟨V,hV⟩:∃V,(rC t aac bits m n).map (Value.int .i64)=V:=⟨_,rfl⟩;rw [hV] at hgo;(have hvl:V.length=cl:=by rw [<- hV,aG,VI.out];exact xO.out);obtain ⟨rp,rc,hge,-⟩:=hgo.form (n:=cl) hvl
      have hcg:=SG.row.cell jv;rw [hge] at hcg hgo;have Sg:=aa hgo;have QV:=aa hvl
      have HAPP:Hid (∀(W':World) (g0 k0 Xq:Nat) (x:Int),ax (B+1) 3 W' (.slice (some ⟨g0,0,none⟩) k0 Xq) (V++[.int .i64 x])->wi.grownBy W' (Value.slice rp cl rc).ownBlock->((Value.slice rp cl rc).ownBlock=some g0\/wi.heap.size<=g0)->CE t aac n m=x ->
        (W'.cell? ⟨B,n,none⟩=some (.slice rp cl rc)/\W'.frozen? ⟨B,n,none⟩=false)/\Xo w4 wo w5 B aac.length (fun j=>if j<n+1 then rC t aac bits (m+1) j else rC t aac bits m j) (W'.setCell ⟨B,n,none⟩ (.slice (some ⟨g0,0,none⟩) k0 Xq))):=fun W' g0 k0 Xq x ho hg dD hx=>by
       rw [<- hge] at hg dD
       rw [<- hV] at ho
       have ha:=(SG.app (W':=W') jv (g:=g0) (k:=k0) (cap:=Xq) (x:=x) (by rw [if_neg (mU _)];exact ho) hg dD).1
       have hb:=Xo.app (W':=W') hJ.out (fB vW.out) HBo.out SG hgb jv (g:=g0) (k:=k0) (cap:=Xq) (x:=x) (by rw [if_neg (mU _)];exact ho) hg dD
       rw [hge] at ha
       refine ⟨ha,hb.1,hb.2.1,hb.2.2.1,?_⟩
       obtain ⟨f9,h91,h92⟩:=hb.2.2.2
       refine ⟨f9,h91.congr fun i hi=>?_,h92⟩
       rw [if_neg (mU _)]
       by_cases e:i=n
       ·subst e
        rw [if_pos rfl,if_pos (by omega),Ep.out,hx]
       ·rw [if_neg e]
        by_cases e2:i<n
        ·rw [if_pos e2,if_pos (by omega)]
        ·rw [if_neg e2,if_neg (by omega)]
      have gI:=aa jv;have HBW:Hid (B+1<=wi.heap.size):=SG.row.lt;(have hcl6:cl<=64:=by have:=qT.out;have:=xO.out;have:=um.out;omega);(have j1:(0:Int)<=(n:Int):=by omega);(have j2:(n:Int)<(aac.length:Int):=by omega);(have j3:(n:Int)<64:=by have:=iu.out;omega);clear hct hJ wD hsi hki SG hgb hgo hV hvl jv hn hge;by_cases hin:gs aac n∈mG t m t.ns.length
      ·have oT:Hid (CE t aac n m=1):=by unfold Hid;rw [HX.out,if_pos hin]
       rw [decide_eq_true hin] at oU;clear hin HX;generalize gs aac n=nm at *;go_wp2_with fail;refine oU.out.mono ?_;rintro e w7 ⟨rfl,rfl⟩;go_wp2_with (at_builtin;refine jI wi rfl _ _ 26 rfl (B+1) 3 _ 8 Tryz.underlying26 Tryz.kE rfl (by decide) Sg.out rfl (.int .i64 1) rfl rfl cl QV.out (by omega) HBW.out ?_;intro g0 c9 w8 K7 RJ jJ;obtain ⟨⟨hx0,hx1⟩,hx2⟩:=HAPP.out w8 g0 _ c9 1 K7 RJ jJ oT.out;have zh:=aa hx2;clear hx2 K7 RJ jJ)
       go_roundw
       case rel=>exact ⟨n+1,gI.out,by go_num,zh.out⟩
       case measure=>have:=gI.out;simp [intOf];omega
      ·have oT:Hid (CE t aac n m=0):=by unfold Hid;rw [HX.out,if_neg hin]
       rw [decide_eq_false hin] at oU;clear hin HX;generalize gs aac n=nm at *;go_wp2_with fail;refine oU.out.mono ?_;rintro e w7 ⟨rfl,rfl⟩;go_wp2_with (at_builtin;refine jI wi rfl _ _ 26 rfl (B+1) 3 _ 8 Tryz.underlying26 Tryz.kE rfl (by decide) Sg.out rfl (.int .i64 0) rfl rfl cl QV.out (by omega) HBW.out ?_;intro g0 c9 w8 K7 RJ jJ;obtain ⟨⟨hx0,hx1⟩,hx2⟩:=HAPP.out w8 g0 _ c9 0 K7 RJ jJ oT.out;have zh:=aa hx2;clear hx2 K7 RJ jJ)
       go_roundw
       case rel=>exact ⟨n+1,gI.out,by go_num,zh.out⟩
       case measure=>have:=gI.out;simp [intOf];omega
     ·obtain rfl:n=aac.length:=by omega
      have HI1:Hid (CpI w4 B aac.length t aac bits (m+1) wi):=⟨wD,g,SG.congr fun i hi=>by rw [if_pos hi]⟩;(have hcl6:cl<=64:=by have:=qT.out;have:=xO.out;have:=um.out;omega);(have i4:(cl:Int)<65:=by omega);(have i5:(0:Int)<=(cl:Int):=by omega);clear hJ wD hsi hki SG hgb jv hn;go_wp2_with fail
      go_roundw
      case rel=>exact ⟨m+1,by omega,bu.out,by go_num,by rw [lN.out,aZ,xO.out];go_num,HI1.out⟩
      case measure=>have:=bu.out;simp [intOf];omega
  ·obtain rfl:m=t.ps.length:=by omega
   obtain ⟨S,hS⟩:∃S,Ad t aac bits t.ps.length=S:=⟨_,rfl⟩;obtain ⟨hcs,hbd,hsc,hls,hmb⟩:=HPLAW.out;rw [hS] at hcs hbd hsc hls hmb;(have hrows:aR Any wo (.slice (some ⟨B,0,none⟩) aac.length aac.length) S:=hG.rows (by rw [<- hS,Kt]) fun i hi=>by rw [<- hS,Fl hi]);have jf:S.length=aac.length:=by rw [<- hS,Kt]
   have hrl:∀i,(gl S i).length<=1000000:=fun i=>by
    by_cases hi:i<aac.length
    ·rw [<- hS,Fl hi,yA]
     have:=Qc bits t.ps.length;have:=um.out;omega
    ·simp [gl,show S.length<=i by omega]
   (have ud:S.length<=1000000:=by have:=iu.out;omega);(have ZW:aac.length<=1000000:=by have:=iu.out;omega);have hce:=(vJ iu.out.2).2 hcs;have hwu:=kX.out.trans hU;have qb:=aa (yg Any wo _ _ aac S (au.keep HH.out (hwu.kept _)) ZW HZ.out hrows ud hrl (.inl iu.out.2));unfold yf rR l5 at qb;rw [hce,if_pos rfl,if_pos rfl,hls] at qb
   have xC:Hid (∀W,Up wo W->Calls Tryz.prog 21 #[.agg #[.slice pp t.ps.length pc,.slice np t.ns.length nc],.slice p aac.length cap,.slice (some ⟨B,0,none⟩) aac.length aac.length] W fun e w'=>Up W w'/\e=.returned (.tuple #[.int .i64 ((lQ bits t.ps.length).length:Nat),.int .i64 0])):=fun W hW=>by
    have h:=Gk Any W _ _ _ t aac S (KG.out.keep ((hU.trans hW).kept _)) (by have:=um.out;omega) (by have:=um.out;omega) HTZ.out (au.keep HH.out ((hwu.trans hW).kept _)) ZW HZ.out (hrows.keep (hW.kept _)) ud hrl (.inl iu.out.2);(have h1:mZ t aac S=0:=by unfold mZ;rw [if_neg fun h=>h hce,if_neg fun h=>h HO.out.te,if_pos ((B9 HN.out HO.out.te).2 HO.out)]);unfold tI zw at h;rw [h1,if_pos rfl,hsc] at h;exact h
   (have Fe:Hid (∀W,Up wo W->Calls Tryz.prog 18 #[.slice (some ⟨B,0,none⟩) aac.length aac.length] W fun e w'=>e=.returned (.tuple #[.int .i64 ((lQ bits t.ps.length).length:Nat),.int .i64 0])/\Up W w'):=fun W hW=>by have h:=JH Any W _ S (hrows.keep (hW.kept _)) ud hrl;unfold JG Ms Mr at h;rw [hcs.ag,if_pos rfl,if_pos rfl,hbd] at h;exact h);have HMB:=aa hmb;have RI:Hid (∀j,(gt (eE aac S) j).ps.length<=1000000/\(gt (eE aac S) j).ns.length<=1000000):=by rw [<- hS];exact HB15.out
   (have HBL2:Hid ((eE aac S).length<=63):=by have h:=(Hq (aac:=aac) (aad:=S) (.inl iu.out.2)).1;unfold l5 at h;rw [if_pos hce] at h;exact h);have jw:=aa hwu;have oV:=aa hU;clear hI hU hG hcs hbd hsc hls hmb hrows jf hrl ud ZW hce hwu hS hlt hml wV HB15 HPLAW;generalize eE aac S=BL at *;obtain ⟨cl,qV⟩:∃cl,(lQ bits t.ps.length).length=cl:=⟨_,rfl⟩;rw [qV] at qb xC Fe ⊢;clear qV;go_wp2_with fail;refine qb.out.mono ?_;rintro e w5 ⟨ey,v5,rfl,zY⟩;obtain ⟨p5,c5,rfl,-⟩:=iM zY;have uQ:=aa zY;have iw:=aa ey
   have xy:=aa (xC.out w5 ey);replace r0:=ey.cell r0;replace r1:=ey.cell r1;clear ey zY qb xC;go_wp2_with fail;refine xy.out.mono ?_;rintro e w6 ⟨dL,rfl⟩;have rj:=aa (iw.out.trans dL);have Dg:=aa (uQ.out.keep (dL.kept _));have HB6:=aa (Fe.out w6 (iw.out.trans dL));replace r0:=dL.cell r0;replace r1:=dL.cell r1;clear dL xy Fe uQ iw;go_wp2_with fail;refine HB6.out.mono ?_;rintro e w7 ⟨rfl,qa⟩;have HT7:=aa (Dg.out.keep (qa.kept _))
   have sD:Hid (Calls Tryz.prog 35 #[.slice p5 BL.length c5,.func (.func 36) #[] #[.pointer (some ⟨tbx,0,none⟩)]] w7 fun e w'=>e=.returned (.bool true)/\Up w7 w'):=by have h:=Lm 36 #[.pointer (some ⟨tbx,0,none⟩)] (enters_of Tryz.func36 (by kernel_rfl) rfl) Any w7 _ BL (fun j=>decide (gt BL j=t)) HT7.out HBL2.out fun j W v hj hW hv=>cpSame_t Any Any W tbx v _ _ (gt BL j) t (hW.cell (qa.cell r0)) (hW.cell (qa.cell r1)) (KG.out.keep ((((oV.out.trans rj.out).trans qa).trans hW).kept _)) hv (RI.out j).1 (RI.out j).2;rw [Yn,decide_eq_true HMB.out] at h;exact h
   have IG:=aa ((jw.out.trans rj.out).trans qa);(have e1:((cl:Int)==(cl:Int))=true:=by simp);clear qa HB6 Dg r0 r1;go_wp2_with fail;refine sD.out.mono ?_;rintro e w8 ⟨rfl,gK⟩;have qQ:=aa (IG.out.trans gK);clear gK sD;go_wp2_with fail;refine (Aa.out _).mono ?_;rintro e w9 ⟨rfl,kN⟩;go_wp2_with fail;go_ret;exact ⟨rfl,qQ.out.trans kN⟩
theorem SU (w:World) (v:Value) (aac:List ByteArray) (x y:Int) (h:au Any w v aac) (hn:aac.length<=9223372036854775807) (hz:∀k,(gs aac k).size<=9223372036854775807) (hx:0<=x/\x<=255) (hy:0<=y/\y<=65535) :
  Calls Tryz.prog 5 #[v,.int .u8 x,.int .u16 y] w fun e w'=>e=.returned (.bool true)/\Up w w':=by
 obtain ⟨c,rfl⟩:=pE hx.1;obtain ⟨b,rfl⟩:=pE hy.1;exact Xp w v aac c b h hn hz (by omega) (by omega)
end Go.Proofs.YthgabkgmkolobaaGreat
