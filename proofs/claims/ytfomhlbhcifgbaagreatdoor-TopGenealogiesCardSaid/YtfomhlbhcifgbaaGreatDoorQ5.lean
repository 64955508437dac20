/- The contracts of parsimony.best, least. The contracts of parsimony.known, matrix, Check. .. -/
import Derived.RangeFuncNested
import Derived.RangeFuncBound
import Derived.RangeFuncCalls
import Derived.RangeFuncLeaves
import Derived.Shelf.RegionOpen
import Derived.OwnWalkIn
import Derived.TacticsInMore
import Derived.LoopNIn
import Derived.LoopIn
import Derived.Sort.QuietIn
import Derived.Stop.RegionWithIn
import Derived.Test.YtfomhlbhcifgbaaGreatDoorQ4
set_option maxRecDepth 100000
set_option maxHeartbeats 1000000
namespace Go.Proofs.YtfomhlbhcifgbaaGreatDoor
section
open Go.RowKit Go.Deep
def xE (x:Int×Int):Value:=.tuple #[.int .i64 x.1,.int .i64 x.2]
theorem Vt (S T:Nat->Prop) (w:World) (vc vr:Value) (cs:List (List Int)) (row:List Int) (st:Nat) (hC:aS S w vc cs) (hR:af T w vr row) (hst:st<cs.length)
  (hrl:row.length<=(gl cs st).length) (Vu:row.length<=1000) (hcb:∀k,0<=gi (gl cs st) k/\gi (gl cs st) k<=1000) (hrb:∀k,gi row k<=1000000000) :
  Calls Tryz.prog 124 #[vc,.int .i64 st,vr] w fun e w'=>e=.returned (xE (bw (gi (gl cs st)) (gi row) row.length))/\w=w':=by
 obtain ⟨f,ni,hrow⟩:=hC;obtain ⟨p,cap,rfl,hcap,H⟩:=aB.open ni;obtain ⟨q,ij,rfl,E3,HR⟩:=aB.open hR;obtain ⟨b,off,rfl,hc0⟩:=H st hst;obtain ⟨q2,abY,e3,abA,HC⟩:=aB.open (hrow st hst);rw [e3] at hc0;have hbd:=Fc (c:=gi (gl cs st)) (row:=gi row) (A:=1000000000) (by omega) hcb hrb;have Mr:=aa HR;have HHC:=aa HC;have JL:=aa hbd;have rE:=aa hcb;have wK:=aa hrb;have jq:=lR (gi (gl cs st)) (gi row);have rD:=aa jq;clear HR HC ni hrow H hR e3 hbd hcb hrb jq;generalize gl cs st=Vv at *;unfold xE
 go_in;go_wp2
 go_loop [8,9,10,11,12,15] (fun l o _ _ _ i=>∃k:Nat,∃x y:Int,k<=row.length/\i=.int .i64 k/\l=.int .i64 x/\o=.int .i64 y /\ -1<=x/\x<=1000001000/\Hid (bw (gi Vv) (gi row) k=(x,y))) (fun _ _ _ _ _ i=>row.length - (intOf i).toNat)
 case atStart=>exact ⟨0,-1,0,by omega,rfl,rfl,rfl,by omega,by omega,rfl⟩
 case round =>
  obtain ⟨k,x,y,hk,rfl,rfl,rfl,ki,hl2,hx⟩:=hrel;by_cases hlt:k<row.length
  ·obtain ⟨rb,ro,rfl,h1⟩:=Mr.out k hlt
   obtain ⟨cb,co,rfl,h2⟩:=HHC.out k (by omega);have hb1:=rE.out k;have hb2:=wK.out k;have hs:=rD.out k;have HS:=aa hs;clear Mr HHC JL rE wK rD hs;generalize gi Vv k=c at *;generalize gi row k=r at *;obtain ⟨hb1,hb3⟩:=hb1;by_cases k6:r<0
   ·go_wp2
    go_round
    case rel=>exact ⟨k+1,x,y,by omega,by go_num,rfl,rfl,ki,hl2,by unfold Hid;rw [HS.out,if_pos k6,hx.out]⟩
    case measure=>simp [intOf];omega
   ·by_cases hx0:x<0
    ·go_wp2
     go_round
     case rel=>exact ⟨k+1,c+r,k,by omega,by go_num,rfl,rfl,by omega,by omega,by unfold Hid;rw [HS.out,if_neg k6,hx.out,if_pos (.inl hx0)]⟩
     case measure=>simp [intOf];omega
    ·by_cases hlt2:c+r<x
     ·go_wp2
      go_round
      case rel=>exact ⟨k+1,c+r,k,by omega,by go_num,rfl,rfl,by omega,by omega,by unfold Hid;rw [HS.out,if_neg k6,hx.out,if_pos (.inr hlt2)]⟩
      case measure=>simp [intOf];omega
     ·go_wp2
      go_round
      case rel=>exact ⟨k+1,x,y,by omega,by go_num,rfl,rfl,ki,hl2,by unfold Hid;rw [HS.out,if_neg k6,hx.out,if_neg (by simp;omega)]⟩
      case measure=>simp [intOf];omega
  ·obtain rfl:k=row.length:=by omega
   clear hlt;go_wp2;go_ret2;exact ⟨by rw [hx.out];rfl,rfl⟩
theorem Ub (T:Nat->Prop) (w:World) (vr:Value) (row:List Int) (hR:af T w vr row) (Vu:row.length<=1000) :
  Calls Tryz.prog 80 #[vr] w fun e w'=>e=.returned (xE (bw (fun _=>0) (gi row) row.length))/\w=w':=by
 obtain ⟨q,ij,rfl,E3,HR⟩:=aB.open hR;have Mr:=aa HR;have jq:=lR (fun _=>0) (gi row);have rD:=aa jq;clear HR hR jq;unfold xE;go_in;go_wp2
 go_loop [4,5,6,7,10] (fun l o _ _ i=>∃k:Nat,∃x y:Int,k<=row.length/\i=.int .i64 k/\l=.int .i64 x/\o=.int .i64 y/\Hid (bw (fun _=>0) (gi row) k=(x,y))) (fun _ _ _ _ i=>row.length - (intOf i).toNat)
 case atStart=>exact ⟨0,-1,0,by omega,rfl,rfl,rfl,rfl⟩
 case round =>
  obtain ⟨k,x,y,hk,rfl,rfl,rfl,hx⟩:=hrel;by_cases hlt:k<row.length
  ·obtain ⟨rb,ro,rfl,h1⟩:=Mr.out k hlt
   have hs:=rD.out k;have HS:=aa hs;clear Mr rD hs;generalize gi row k=r at *;by_cases k6:r<0
   ·go_wp2
    go_round
    case rel=>exact ⟨k+1,x,y,by omega,by go_num,rfl,rfl,by unfold Hid;rw [HS.out,if_pos k6,hx.out]⟩
    case measure=>simp [intOf];omega
   ·by_cases hx0:x<0
    ·go_wp2
     go_round
     case rel=>exact ⟨k+1,r,k,by omega,by go_num,rfl,rfl,by unfold Hid;rw [HS.out,if_neg k6,hx.out,if_pos (.inl hx0),Int.zero_add]⟩
     case measure=>simp [intOf];omega
    ·by_cases hlt2:r<x
     ·go_wp2
      go_round
      case rel=>exact ⟨k+1,r,k,by omega,by go_num,rfl,rfl,by unfold Hid;rw [HS.out,if_neg k6,hx.out,if_pos (.inr (by omega)),Int.zero_add]⟩
      case measure=>simp [intOf];omega
     ·go_wp2
      go_round
      case rel=>exact ⟨k+1,x,y,by omega,by go_num,rfl,rfl,by unfold Hid;rw [HS.out,if_neg k6,hx.out,if_neg (by simp;omega)]⟩
      case measure=>simp [intOf];omega
  ·obtain rfl:k=row.length:=by omega
   clear hlt;go_wp2;go_ret2;exact ⟨by rw [hx.out];rfl,rfl⟩
def StI (e:Ending) (w':World) (w:World) (n:Int):Prop:=e=.returned (.int .i64 n)/\Below w.heap.size w w'
theorem PV (w:World) (b1 b2:Nat) (x lo hi:Int) (h1:w.cell? ⟨b1,0,none⟩=some (.int .i64 lo)) (h2:w.cell? ⟨b2,0,none⟩=some (.int .i64 hi)) :
  rC 121 #[.pointer (some ⟨b1,0,none⟩),.pointer (some ⟨b2,0,none⟩)] #[.int .i64 x] (.bool (decide (x<lo) || decide (hi<=x))) w:=by
 unfold rC;go_in;by_cases hx:x<lo
 ·go_wp2
  go_ret;exact ⟨bu (by simp [hx]),rfl⟩
 ·go_wp2
  go_ret;exact ⟨bu (by simp;omega),rfl⟩
theorem Uc (S:Nat->Prop) (w:World) (v:Value) (st:List Int) (n:Nat) (lo hi:Int) (h:af S w v st) (hn:st.length<=1000000) :
  Calls Tryz.prog 79 #[v,.int .i64 n,.int .i64 lo,.int .i64 hi] w fun e w'=>StI e w' w (mV st n lo hi):=by
 have jv:mV st n lo hi=if st.length≠n then 9 else if iQ st lo hi then 2 else 0:=rfl
 have HF:=aa jv;have hb:Below w.heap.size w ((w.alloc (.cells #[.int .i64 lo] 3)).alloc (.cells #[.int .i64 hi] 3)):=((b7 _ _).alloc (aj _) _).alloc (by simp) _;have hI:=aB.keep h (Kept.below hb);obtain ⟨p,cap,rfl,hcap,H⟩:=aB.open h;have hc1:((w.alloc (.cells #[.int .i64 lo] 3)).alloc (.cells #[.int .i64 hi] 3)).cell? ⟨w.heap.size,0,none⟩=some (.int .i64 lo):=by simp
 have hc2:((w.alloc (.cells #[.int .i64 lo] 3)).alloc (.cells #[.int .i64 hi] 3)).cell? ⟨w.heap.size+1,0,none⟩=some (.int .i64 hi):=by simp
 have hC:=qO 121 #[.pointer (some ⟨w.heap.size,0,none⟩),.pointer (some ⟨w.heap.size+1,0,none⟩)] (enters_of Tryz.func121 (by kernel_rfl) rfl) S _ _ st.length (fun k=>.int .i64 (gi st k)) (fun k=>decide (gi st k<lo) || decide (hi<=gi st k)) hI hn
  (fun k _=>PV _ _ _ (gi st k) lo hi hc1 hc2)
 have HC:=aa hC;have HB:=aa hb;clear jv hI H hc1 hc2 hC hb h;by_cases hl:st.length=n
 ·have ki:((st.length:Int) != n)=false:=by simp [hl]
  have HL:=aa hl;clear hl;have eG:iQ st lo hi=(List.range st.length).any fun k=>decide (gi st k<lo) || decide (hi<=gi st k):=rfl;have cg:=aa eG;clear eG;go_in;go_wp2_with fail;refine HC.out.mono ?_;rintro e w' ⟨rfl,rfl⟩;rw [<- cg.out];go_wp2_with fail
  ·go_ret
   exact ⟨aU (by rw [HF.out,if_neg (by rw [HL.out];simp),if_pos ‹_›]),HB.out⟩
  ·go_ret
   exact ⟨aU (by rw [HF.out,if_neg (by rw [HL.out];simp),if_neg (by rw [‹iQ st lo hi=false›];simp)]),HB.out⟩
 ·have ki:((st.length:Int) != n)=true:=by simp;omega
  go_in;go_wp2;go_ret;exact ⟨aU (by rw [HF.out,if_pos hl]),HB.out⟩
end
section
open Go.RowKit Go.Shelf Go.Deep
attribute [local go_sem] vz
theorem KV (w:World) (row:Option Nat):w.grownBy w.drew row:=⟨rfl,rfl,rfl,aj _,fun _ _ _=>rfl⟩
abbrev Dy (ps:List Int) (node:Nat):={ x:Nat // x∈eX ps node }
def vals {ps:List Int} {node:Nat} (l:List (Dy ps node)):List Nat:=l.map Subtype.val
theorem xF {ps:List Int} {node:Nat} (l:List (Dy ps node)) (x:Dy ps node):vals (l++[x])=vals l++[x.1]:=by simp [vals]
theorem FC (ps:List Int) (n k:Nat) (h:k<=ps.length):dR ps n k <+: eX ps n:=by
 unfold eX;obtain ⟨d,hd⟩:∃d,ps.length=k+d:=⟨ps.length - k,by omega⟩;rw [hd];clear hd h
 induction d with
 | zero=>exact List.prefix_rfl
 | succ d ih=>rw [<- Nat.add_assoc,lQ];exact ih.trans (List.prefix_append _ _)
theorem PW {e:Ending} {A B:Prop} (h:(e=.returned (.bool true)/\A)\/(e=.returned (.bool false)/\B)):∃bb,e=.returned (.bool bb)/\Hid ((bb=true/\A)\/(bb=false/\B)):=by
 rcases h with ⟨h1,h2⟩ | ⟨h1,h2⟩
 ·exact ⟨true,h1,.inl ⟨rfl,h2⟩⟩
 ·exact ⟨false,h1,.inr ⟨rfl,h2⟩⟩
def KS (T:Nat->Prop) (w w':World):Prop:=∀b,T b->w'.heap[b]? = w.heap[b]?
theorem KS.refl (T:Nat->Prop) (w:World):KS T w w:=fun _ _=>rfl
theorem KS.trans {T:Nat->Prop} {a b c:World} (h:KS T a b) (k:KS T b c):KS T a c:=fun i hi=>(k i hi).trans (h i hi)
theorem KS.cell {T:Nat->Prop} {a b:World} (h:KS T a b) {p:Addr} (hp:T p.block):b.cell? p=a.cell? p:=cW (h p.block hp)
theorem KS.drew {T:Nat->Prop} {a b:World} (h:KS T a b):KS T a b.drew:=h
theorem KS.drewN {T:Nat->Prop} {a b:World} (h:KS T a b) (n:Nat):KS T a (b.drewN n):=h
theorem PX (n l Bn Bt:Nat) (T:Nat->Prop) (hn:1<=n) (ps:List Int) (node:Nat) (P:Value) (J Jx:List (Dy ps node)->World->Prop)
  (hY:∀pre x W,J pre W->pre.length<ps.length->YieldAt Fence.wide (n - 1) Tryz.prog l #[.int .i64 (x.1:Int)] W fun e W' =>
   (e=.returned (.bool true)/\J (pre++[x]) W'/\KS T W W')\/(e=.returned (.bool false)/\Jx (pre++[x]) W'))
  (W:World) (Ms:AbidesFrom W.heap.size J) (dZ:W.cell? ⟨Bn,0,none⟩=some (.int .i64 node)) (jw:W.cell? ⟨Bt,0,none⟩=some P) (hP:af T W P ps) (SA:T Bn) (SB:T Bt)
  (SC:node<ps.length) (hlen:ps.length<=1000000) (h0:J [] W) :
  CallsIn Fence.wide n Tryz.prog 147 #[.func (.yield l) #[] #[],.pointer (some ⟨Bn,0,none⟩),.pointer (some ⟨Bt,0,none⟩)] W fun e W'=>(∃v,e=.returned v) /\
   ((∃xs,vals xs=eX ps node/\J xs W')\/(∃pre,vals pre <+: eX ps node/\Jx pre W')):=by
 obtain ⟨q,cap,rfl,hcap,ni⟩:=hP;have zl:=aa ni;have HJA:=aa Ms;have k7:=aa dZ;have Dw:=aa jw;have HY:=aa hY;clear ni Ms hY;refine callsIn_of_wp Tryz.func147 rfl trivial ?_ rfl;simp only [Tryz.ntmps147,gI,bB,eW,Nat.reduceAdd,Nat.reduceSub,jL,jM,gH,qI,dz,cw];gi_wp2;clear dZ jw
 gi_loopw [4] (fun i wr=>∃(k:Nat) (pre:List (Dy ps node)),node+1<=k/\k<=ps.length/\i=.int .i64 k/\vals pre=dR ps node k/\J pre wr/\KS T W wr) (fun i _=>ps.length - (intOf i).toNat)
 case atStart=>exact ⟨node+1,[],aj _,by omega,by go_num,(I9 _ _).symm,h0,KS.refl _ _⟩
 case round =>
  obtain ⟨k,pre,hk1,hk,rfl,hpre,hJ,hbr⟩:=hrel;have dZ:wr.cell? ⟨Bn,0,none⟩=some (.int .i64 node):=(hbr.cell (p:=⟨Bn,0,none⟩) SA).trans k7.out;have jw:wr.cell? ⟨Bt,0,none⟩=some (.slice q ps.length cap):=(hbr.cell (p:=⟨Bt,0,none⟩) SB).trans Dw.out;have FD:=aa hpre;clear hpre;by_cases hlt:k<ps.length
  ·have aab:=zl.out
   rcases aab with h | ⟨b,off,rfl,hb,hcell⟩
   ·omega
   ·have hc:wr.cell? ⟨b,off+k,none⟩=some (.int .i64 (gi ps k)):=(hbr.cell (p:=⟨b,off+k,none⟩) hb).trans (hcell k hlt)
    have jq:=lQ ps node k;(have ZE:pre.length<ps.length:=by have h1:=xw ps node k;have h2:=congrArg List.length FD.out;unfold vals at h2;rw [aD] at h2;omega);have hmem:gi ps k=node->k∈eX ps node:=fun h=>gP.2 ⟨hlt,by omega,h⟩;have Ai:=aa hmem;have rD:=aa jq;clear hcell jq hmem;(have i1:(0:Int)<=(k:Int):=by omega);(have i2:(k:Int)<(ps.length:Int):=by omega);generalize hx:gi ps k=x at *;clear hx;by_cases nV:x=node
    ·have hx1:(x==(node:Int))=true:=by simp [nV]
     have HX:=aa nV;clear nV;have hJ':J pre wr.drew:=HJA.out pre wr wr.drew none hJ (KV _ _) (fun r e=>by cases e);obtain ⟨fn,tmps,assign,body,hy,hR⟩:=HY.out pre ⟨k,Ai.out HX.out⟩ wr.drew hJ' ZE;dsimp only at hy;clear hJ';gi_wp2
     gi_region_with (refine hR.mono ?_;rintro e W3 dr;obtain ⟨bb,rfl,hq⟩:=PW dr)
     all_goals
      gi_wp2
      ·have hbb:=‹(!bb)=true›
       have xG:bb=false/\Jx (pre++[⟨k,Ai.out HX.out⟩]) W3:=by
        rcases hq.out with ⟨h1,_⟩ | h2
        ·rw [h1] at hbb;cases hbb
        ·exact h2
       refine bodyPost_ret (results_none rfl _ _ _) rfl ?_
       exact ⟨⟨_,rfl⟩,.inr ⟨pre++[⟨k,Ai.out HX.out⟩],by
        rw [xF,FD.out];have h3:=FC ps node (k+1) hlt
        rw [rD.out,if_pos ⟨by omega,HX.out⟩] at h3;exact h3,xG.2⟩⟩
      ·have hbb:=‹(!bb)=false›
       have xG:bb=true/\J (pre++[⟨k,Ai.out HX.out⟩]) W3/\KS T wr.drew W3:=by
        rcases hq.out with h2 | ⟨h1,_⟩
        ·exact h2
        ·rw [h1] at hbb;cases hbb
       go_roundw
       case rel=>exact ⟨k+1,pre++[⟨k,Ai.out HX.out⟩],by omega,by omega,by go_num,by rw [xF,FD.out,rD.out,if_pos ⟨by omega,HX.out⟩],xG.2.1,hbr.drew.trans xG.2.2⟩
       case measure=>simp [intOf];omega
    ·have hx1:(x==(node:Int))=false:=by simpa using nV
     have HX:=aa nV;clear nV;gi_wp2;refine wpIn_region_quiet_lit rfl (by kernel_rfl) (by kernel_rfl) ?_
     repeat (gi_big_quiet_step (fail))
     refine BigFrame.wpQuietIn_skip (fun _ _ _ _=>trivial) rfl ?_;simp only [Act.put,av,ay,ax]
     repeat (gi_big_quiet_step (fail))
     refine wpQuietIn_nil ?_;intro _ hw';obtain ⟨nq,hw''⟩:=hw';subst hw'';gi_wp2
     go_roundw
     case rel=>exact ⟨k+1,pre,by omega,by omega,by go_num,by rw [FD.out,rD.out,if_neg (fun h=>HX.out h.2),gm],HJA.out pre wr _ none hJ ⟨rfl,rfl,rfl,aj _,fun _ _ _=>rfl⟩ (fun r e=>by cases e),hbr.drewN _⟩
     case measure=>simp [intOf];omega
  ·gi_wp2
   go_end0
   (obtain rfl:k=ps.length:=by omega);exact ⟨⟨_,rfl⟩,.inl ⟨pre,FD.out,hJ⟩⟩
theorem Vw (w:World) (v:Value) (P N:Value) (hv:v=.agg #[P,N]) (node:Nat) :
  Calls Tryz.prog 123 #[v,.int .i64 node] w fun e w'=>e=.returned (.func (.func 147) #[] #[.pointer (some ⟨w.heap.size+1,0,none⟩),.pointer (some ⟨w.heap.size,0,none⟩)])/\w'=(w.alloc (.cells #[P,N] 33)).alloc (.cells #[.int .i64 node] 3):=by
 subst hv;go_in;go_wp2;go_ret;exact ⟨rfl,rfl⟩
theorem KW (n:Nat) (hn:1<=n) (Bn Bt:Nat) (T:Nat->Prop) (ps:List Int) (node:Nat) (P:Value) (w:World) (hT:∀b,T b->b<w.heap.size)
  (dZ:w.cell? ⟨Bn,0,none⟩=some (.int .i64 node)) (jw:w.cell? ⟨Bt,0,none⟩=some P) (hP:af T w P ps) (SA:T Bn) (SB:T Bt) (SC:node<ps.length) (hlen:ps.length<=1000000) :
  SeqStopsK Fence.wide n Tryz.prog 147 #[.pointer (some ⟨Bn,0,none⟩),.pointer (some ⟨Bt,0,none⟩)] (fun x:Dy ps node=>#[Value.int .i64 (x.1:Int)]) (KS T)
   (fun xs=>vals xs=eX ps node) (fun pre=>vals pre <+: eX ps node) ps.length w:=fun l J Jx W hW hJ _ hY h0 =>
 PX n l Bn Bt T hn ps node P J Jx hY W hJ ((hW.cell (p:=⟨Bn,0,none⟩) (hT _ SA)).trans dZ) ((hW.cell (p:=⟨Bt,0,none⟩) (hT _ SB)).trans jw)
  (hP.keep fun b hb _=>hW.block b (hT b hb)) SA SB SC hlen h0
end
section
open Go.RowKit Go.Shelf Go.Deep
def Marks (n₀:Nat) (w:World):List Deferred->Prop
 | []=>True
 | d::ds=>(∃r,d={ target:=.collected r,args:=#[] }/\n₀<=r/\w.heap[r]? = some (.deferred (some []))/\(∀d'∈ds,d'.target≠.collected r))/\Marks n₀ w ds
theorem Marks.keep {n₀:Nat} {w w':World} (h:∀r,w.heap[r]? = some (.deferred (some []))->n₀<=r->w'.heap[r]? = w.heap[r]?):∀ {ds:List Deferred},Marks n₀ w ds->Marks n₀ w' ds
 | [],_=>trivial
 | _::_,⟨⟨r,e,hr,hk,hne⟩,ht⟩=>⟨⟨r,e,hr,(h r hk hr).trans hk,hne⟩,ht.keep h⟩
theorem Marks.lt {n₀:Nat} {w:World}:∀ {ds:List Deferred},Marks n₀ w ds->∀d∈ds,∃r,d.target=.collected r/\r<w.heap.size
 | _::_,⟨⟨r,e,_,hk,_⟩,ht⟩,d,hd=>by
  rcases bQ.1 hd with rfl | hd
  ·refine ⟨r,by rw [e],?_⟩
   rcases Nat.lt_or_ge r w.heap.size with h | h
   ·exact h
   ·rw [KO h] at hk;cases hk
  ·exact ht.lt d hd
theorem Marks.keep' {n₀ r:Nat} {w w':World} (h:∀k,k≠r->w'.heap[k]? = w.heap[k]?):∀ {ds:List Deferred},(∀d'∈ds,d'.target≠.collected r)->Marks n₀ w ds->Marks n₀ w' ds
 | [],_,_=>trivial
 | _::_,hne,⟨⟨s,e,hs,hk,Mt⟩,ht⟩=>⟨⟨s,e,hs,(h s (by rintro rfl;exact hne _ sI (by rw [e]))).trans hk,Mt⟩,Marks.keep' h (fun d hd=>hne d (yR _ hd)) ht⟩
theorem xH {fn:Func} {tmps:Array Value} {R:Ending->World->Prop} {n n₀:Nat} {v:Value} (hres:∀w,(results fn tmps).run Tryz.prog w=.ok v w) :
  ∀ {ds:List Deferred} {w:World},Marks n₀ w ds->(∀w',Below n₀ w w'->w'.heap.size=w.heap.size->(∀b:Nat,(∃c t z,w.heap[b]? = some (Obj.cells c t z))->w'.heap[b]? = w.heap[b]?)->R (.returned v) w') ->
  LeavesInM Fence.wide n Tryz.prog fn tmps R ds .returning w
 | [],w,_,hR=>⟨v,hres w,hR w (b7 _ _) rfl fun _ _=>rfl⟩
 | d::ds,w,⟨⟨r,e,hr,hk,hne⟩,ht⟩,hR=>by
  refine ⟨by simp,.inl ⟨r,_,by rw [e],run_takeDeferred hk,?_⟩⟩
  have KX:∀k,k≠r->(w.putObj r (.deferred none)).heap[k]? = w.heap[k]?:=fun k hk2=>eA hk2
  refine xH hres (Marks.keep' KX hne ht) fun w' hb hs hc=>hR w' ?_ (hs.trans (by simp)) fun b ⟨c,t,z,hbk⟩=>?_
  ·exact (show Below n₀ w (w.putObj r (.deferred none)) from ⟨rfl,rfl,rfl,by simp,fun k hk2=>KX k (by omega)⟩).trans hb
  ·have hbr:b≠r:=by rintro rfl;rw [hk] at hbk;cases hbk
   rw [hc b ⟨c,t,z,by rw [KX b hbr];exact hbk⟩,KX b hbr]
section
variable {F:Fence} {n:Nat} {P:Program} {ops:Array Oper} {C:World->Prop}
theorem KY {o:Oper} {a:Act} {K:Act->Prop} {K':Act->World->Prop} {Q':Exit->Act->World->Prop} {w:World} (hs:∀ρ,Oper.semAt F.round ρ o=execOp ρ o) (hw:C w)
  (h:∀a w',C w'->K a->K' a w') (ha:o.askedIn F P a C) (hh:o.quietIn F n P a C K):o.wpIn F n P a w K' Q':=by
 obtain ⟨v,hv,hk⟩:=hh;have hv:=hv w hw;refine ⟨ha w hw,?_⟩;rw [hs];unfold Oper.quietAtIn at hv;cases hr:(execOp a.eval o).run P w with
 | halt x w'=>rw [hr] at hv;exact hv.elim
 | ok x w' =>
  rw [hr] at hv;cases x with
  | value u=>obtain ⟨rfl,rfl⟩:=hv;exact h _ _ hw hk
  | skip=>obtain ⟨rfl,rfl⟩:=hv;exact h _ _ hw hk
  | enter f args=>obtain ⟨rfl,hd,hc⟩:=hv;exact ⟨hd,hc.mono fun e w'' ⟨he,hw2⟩=>by subst he;exact h _ _ hw2 hk⟩
  | _=>exact hv.elim
theorem KZ {i:Nat} {a:Act} {K:Act->Prop} {K':Act->World->Prop} {Q':Exit->Act->World->Prop} {w:World} (hs:∀o:Oper,ops[i]? = some o->∀ρ,Oper.semAt F.round ρ o=execOp ρ o) (hC:C w)
  (h:∀a w',C w'->K a->K' a w') (hh:qOpIn F n P ops C i K a):wpOpIn F n P ops Q' i K' a w:=by
 cases ho:ops[i]? with
 | none=>simp only [qOpIn,wpOpIn,ho] at hh ⊢;exact h _ _ hC hh
 | some o =>
  simp only [qOpIn,wpOpIn,ho] at hh ⊢;by_cases hg:Region.wanted o (yielded ops a.tmps)=true
  ·rw [if_pos hg] at hh ⊢;exact KY (hs o ho) hC h hh.1 hh.2
  ·rw [if_neg hg] at hh ⊢;exact ⟨hh.1 w hC,h _ _ hC hh.2⟩
theorem Je {Q:Act->Prop} {Q':Exit->Act->World->Prop} {md:Region.Mode} (hs:∀(i:Nat) (o:Oper),ops[i]? = some o->∀ρ,Oper.semAt F.round ρ o=execOp ρ o) (hQ:∀a w,C w->Q a->Q' .normal a w) (fuel:Nat) :
  ∀(listed:Array Bool) (a:Act) (w:World),C w->wpAnyQIn F n P md ops C Q fuel listed a->wpAnyIn F n P md ops Q' fuel listed a w:=by
 induction fuel with
 | zero=>intro _ a w hw h;exact ⟨h.1,hQ a w hw h.2⟩
 | succ k ih=>intro _ a w hw h;exact ⟨fun h0=>hQ a w hw (h.1 h0),fun i hi=>KZ (hs i) hw (fun a' w' hw'=>ih _ a' w' hw') (h.2 i hi)⟩
theorem Cw {id l₀:Nat} {Q:Exit->Act->World->Prop} {a:Act} {w:World} {l:List Oper} (hro:F.round=some l₀) (hm:P.follows .mixedOrders=true) (hB:Region.lexB .any l.toArray=true)
  (hd:l.all (fun o=>match o.op with | .defer _=>false | _=>true)=true)
  (h:wpQuietIn F n P l.toArray (fun w'=>∃n,w'=w.drewN n) (fun a'=>∀w',(∃n,w'=w.drewN n)->Q .normal a' w') l a):(Code.region id l.toArray true).wpIn F n P Q a w:=by
 have hs:∀(i:Nat) o,l.toArray[i]? = some o->∀ρ,Oper.semAt F.round ρ o=execOp ρ o:=fun i o ho ρ=>by rw [hro];refine vz l₀ ρ o fun c e=>?_;have h1:=sF.1 hd o (A4 (by simpa using ho));rw [e] at h1;cases h1
 simp only [Region.lexB,fN] at hB;refine wpIn_region_any hm (Je (C:=fun w'=>∃n,w'=w.drewN n) (Q:=fun a'=>∀w',(∃n,w'=w.drewN n)->Q .normal a' w') hs (fun _ w' hw' h=>h w' hw') _ _ _ _ ⟨1,rfl⟩ ?_);have h2:=wpAnyQIn_lex (F:=F) (n:=n) (C:=fun w'=>∃n,w'=w.drewN n) (md:=.any) hB.1 l.toArray.toList 0 (Array.replicate l.toArray.size false) a (by simp) (by simpa using hB.2) (by simpa using h);simpa using h2
end
end
end Go.Proofs.YtfomhlbhcifgbaaGreatDoor
