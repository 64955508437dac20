/- Package intset: the iterator members; .. -/
import Derived.Test.YthgabkgmkolobaaGreatQ31
set_option maxRecDepth 100000
set_option maxHeartbeats 2000000
namespace Go.Proofs.YthgabkgmkolobaaGreat
section
open Go.RowKit Go.Shelf Go.Deep
attribute [local go_sem] yB
theorem IM (p:Int->Bool) (k:Nat):∀ {N:Nat},k<=N->iT p k <+: iT p N
 | 0,h=>by rw [show k=0 by omega];exact BS _
 | N+1,h=>by
  by_cases e:k=N+1
  ·rw [e];exact BS _
  ·refine (IM p k (N:=N) (by omega)).trans ?_
   rw [wJ];exact List.prefix_append _ _
theorem Tk (n l B1 B2:Nat) (T:Nat->Prop) (N:Nat) (hN:N<=64) (p:Int->Bool) (gf:Nat) (UL:Array Value) (eg:∀args w,(callFunc gf args).run Tryz.prog w=.ok (.enter gf args) w) (J Jx:List Int->World->Prop)
  (hY:∀pre x W,J pre W->pre.length<(iT p N).length->YieldAt Fence.wide (n - 1) Tryz.prog l #[.int .i64 x] W fun e W' =>
   (e=.returned (.bool true)/\J (pre++[x]) W'/\KS T W W')\/(e=.returned (.bool false)/\Jx (pre++[x]) W'))
  (W:World) (Ma:AbidesFrom W.heap.size J) (hc1:W.cell? ⟨B1,0,none⟩=some (.int .i64 (N:Int))) (hc2:W.cell? ⟨B2,0,none⟩=some (.func (.func gf) #[] UL)) (_:T B1) (Rt:T B2)
  (hIs:∀k:Nat,k<N->∀W',KS T W W'->CallsIn Fence.wide (n - 1) Tryz.prog gf (#[.int .i64 k]++UL) W' fun e w'=>e=.returned (.bool (p k))/\∃q,w'=W'.drewN q) (h0:J [] W) :
  CallsIn Fence.wide n Tryz.prog 196 #[.func (.yield l) #[] #[],.pointer (some ⟨B1,0,none⟩),.pointer (some ⟨B2,0,none⟩)] W fun e W'=>(∃v,e=.returned v)/\(J (iT p N) W'\/∃pre,pre <+: iT p N/\Jx pre W'):=by
 have HJA:=aa Ma;have HY:=aa hY;have HIS:=aa hIs;have lZ:=aa hc2;clear Ma hY hIs;refine callsIn_of_wp Tryz.func196 rfl trivial ?_ rfl;simp only [Tryz.ntmps196,dY,aW,dw,Nat.reduceAdd,Nat.reduceSub,iu,iw,dX,s9,di,cm];gi_wp2;clear hc1 hc2
 gi_loopw [4,6] (fun _ i wr=>∃(k:Nat),k<=N/\i=.int .i64 k/\Hid (J (iT p k) wr)/\Hid (KS T W wr)) (fun _ i _=>N - (intOf i).toNat)
 case atStart=>exact ⟨0,aF _,rfl,h0,KS.refl _ _⟩
 case round =>
  obtain ⟨k,hk,rfl,hJ,hbr⟩:=hrel;by_cases hlt:k<N
  ·have hc2:=(hbr.out.cell (p:=⟨B2,0,none⟩) Rt).trans lZ.out
   have gQ:=aa (HIS.out k hlt wr hbr.out);have HS:=aa (wJ p k);(have eC:Hid (p k=true->(iT p k).length<(iT p N).length):=fun e=>by have h1:=(IM p (k+1) (N:=N) (by omega)).length_le;rw [wJ,if_pos e,bg] at h1;simp at h1;omega);have hfn:Fence.wide.fn gf:=trivial;(have k1:(k:Int)<64:=by omega);gi_wp2;refine ⟨fun h=>(by cases h),?_⟩;refine gQ.out.mono ?_;rintro e W2 ⟨rfl,q,rfl⟩;have hJ2:Hid (J (iT p k) (wr.drewN q)):=HJA.out _ wr _ none hJ.out ⟨rfl,rfl,rfl,ah _,fun _ _ _=>rfl⟩ (fun r e=>by cases e);have hb2:Hid (KS T W (wr.drewN q)):=hbr.out.drewN q;clear hc2 gQ;cases hp:p k
   ·have sg:Hid (iT p (k+1)=iT p k):=by unfold Hid;rw [HS.out,hp];simp
    clear hp;gi_wp2;rename_i hkk _ _ _ _;refine ⟨fun f h=>(by cases h),hkk _ _ ?_⟩;gi_wp2
    go_roundw
    case rel=>exact ⟨k+1,hlt,by go_num,by rw [sg.out];exact hJ2,hb2⟩
    case measure=>simp [intOf];omega
   ·have sg:Hid (iT p (k+1)=iT p k++[(k:Int)]):=by unfold Hid;rw [HS.out,hp];simp
    obtain ⟨fn,tmps,assign,body,hy,hR⟩:=HY.out (iT p k) k (wr.drewN q) hJ2.out (eC.out hp);clear hp;gi_wp2;refine ⟨fun h=>(by cases h),?_⟩;refine hR.mono ?_;rintro e W3 gH;obtain ⟨bb,rfl,hq⟩:=OZ gH;cases bb
    ·have j8:Jx (iT p k++[(k:Int)]) W3:=by
      rcases hq.out with ⟨h1,_⟩ | h2
      ·cases h1
      ·exact h2.2
     gi_wp2
     refine bodyPost_ret (results_none rfl _ _ _) rfl ?_
     exact ⟨⟨_,rfl⟩,.inr ⟨_,by rw [<- sg.out];exact IM p (k+1) (by omega),j8⟩⟩
    ·have j8:J (iT p k++[(k:Int)]) W3/\KS T (wr.drewN q) W3:=by
      rcases hq.out with h2 | ⟨h1,_⟩
      ·exact h2.2
      ·cases h1
     gi_wp2
     go_roundw
     case rel=>exact ⟨k+1,hlt,by go_num,by rw [sg.out];exact j8.1,hb2.out.trans j8.2⟩
     case measure=>simp [intOf];omega
  ·gi_wp2
   go_end0
   (obtain rfl:k=N:=by omega);exact ⟨⟨_,rfl⟩,.inl hJ.out⟩
end
section
open Go.RowKit Go.Shelf Go.Deep
theorem Ru (w:World) (g:Nat) (lb:Array Value) (eg:∀args w,(callFunc g args).run Tryz.prog w=.ok (.enter g args) w) (xs:List Int)
 (hseq:∀w6,Up w w6->SeqStopsK Fence.wide 8 Tryz.prog g lb (fun x:Int=>#[Value.int .i64 x]) (KS (· < w.heap.size)) (fun l=>l=xs) (fun pre=>pre <+: xs) xs.length w6) (hlen:xs.length<=1000000) :
 Calls Tryz.prog 195 #[.slice none 0 0,.func (.func g) #[] lb] w (Cz w xs):=by
 refine (callsIn_wide (n:=9)).1 ?_;refine callsIn_of_wp_marks Tryz.func195 rfl trivial ?_;simp only [Tryz.ntmps195,dY,aW,dw,Nat.reduceAdd,Nat.reduceSub,iu,iw,dX,s9,di,cm];gi_wp2_with fail;have ir:Up w (w.alloc (.cells #[.slice none 0 0] 26)):=Up.alloc _ _;have X0:(w.alloc (.cells #[.slice none 0 0] 26)).heap.size=w.heap.size+1:=by simp
 have hx6:=ng w (.cells #[.slice none 0 0] 26);generalize w.alloc (.cells #[.slice none 0 0] 26)=w6 at *;apply wpIn_rangeFunc_ownG (F:=Fence.wide) (n:=9) (P:=Tryz.prog) (ps:=#[7]) (w:=w6) rfl (by omega) (gf:=g) (lb:=lb) rfl trivial eg
  (hseq w6 ir)
  (fun h k=>KS.trans h k) (fun W l o o' hl ho hc _=>fun b (hb:b<w.heap.size)=>l9 (by omega)) (cM _ _) (fun _=>(rfl:(1:Nat)=1))
  (Nc w) (fun _ _ _=>False)
 ·exact Nc.own w (by omega)
 ·exact fun _ _ _ _ _ h _ _=>h
 ·exact ⟨ir,by omega,_,hx6,au.nil _ _ _⟩
 ·intro l x W K hK
  gi_wp2_with (rw [gF _ _ _ (fun c h=>by cases h)];go_simp;try go_bits);exact hK
 ·rintro l pre x W ⟨iE,hsz,v,iM,hown⟩ hpl
  have hb0:W.cell? ⟨w.heap.size,0,none⟩=some v:=by simp [World.cell?,iM]
  have Ch:∀w',KS (· < w.heap.size+1) W w'->w'.cell? ⟨w.heap.size,0,none⟩=some v/\∀o,w'.frozen? ⟨w.heap.size,o,none⟩=false:=fun w' hS=>by have h1:=(hS w.heap.size (wu _)).trans iM;exact ⟨by simp [World.cell?,h1],fun o=>by simp [World.frozen?,h1]⟩
  have VP:pre.length<=1000000:=by omega
  clear hx6;have HF0:=aa Ch;have nB:Hid (∀We v',au (w.heap.size+1) 3 We v' (pre.map (Value.int .i64)++[.int .i64 x])->(W.alloc (.cells #[.int .i64 x] 3)).grownBy We v.ownBlock->KeepsFrom (w.heap.size+1) W (We.setCell ⟨w.heap.size,0,none⟩ v')/\KS (· < w.heap.size) W (We.setCell ⟨w.heap.size,0,none⟩ v')/\Nc w (pre++[x]) (We.setCell ⟨w.heap.size,0,none⟩ v')) :=
   fun We v'=>Nc.next iE hsz iM hown
  have Zp:Hid (∀We,(W.alloc (.cells #[.int .i64 x] 3)).grownBy We v.ownBlock->KS (· < w.heap.size+1) W We):=fun We hg b (hb:b<w.heap.size+1)=>(hg.block b (by rw [aQ];show b<W.heap.size+1;omega) (fun e=>by have:=(av hown e.symm).1;omega)).trans (En W _ b (by show b<W.heap.size;omega));obtain ⟨i0,hi,hz0,hz1,hz2⟩:=info_parts Tryz.iD;have zD:W.ownsRow (w.heap.size+1) 3 1 v pre.length (pre.map (Value.int .i64)):=by have h:=hown;unfold au at h;rwa [aD] at h
  obtain ⟨q1,q2⟩:=Ch W (KS.refl _ _);clear Ch iE iM hown hb0
  gi_wp2_with (first
   | (
    gi_at_builtin;refine wpListIn_append_own _ rfl _ _ 26 rfl (w.heap.size+1) 3 i0 (.int .i64 0) 1 8 Tryz.underlying26 hi hz0 hz1 hz2 rfl (by decide) _ _ _ rfl (zD.alloc _) ⟨W.heap.size,0,none⟩ 1 1 [.int .i64 x] rfl rfl (cell_one_new _ _ _) (by simp [Value.oneCell']) (by unfold maxLen;omega) (by omega) (by rw [aQ];omega) ?_;intro v' w3 hown' hg3 hnil3
    (have ack:au (w.heap.size+1) 3 w3 v' (pre.map (Value.int .i64)++[.int .i64 x]):=by unfold au;rw [bg,aD];exact hown');obtain ⟨vp,vc,rfl,_⟩:=ack.form (n:=pre.length+1) (by simp);have iy:=aa (nB.out w3 _ ack hg3);obtain ⟨q3,q4⟩:=HF0.out w3 (Zp.out w3 hg3)
    clear hown' hg3 hnil3 ack q1 q2 nB Zp HF0 zD)
   | (rw [gF _ _ _ (fun c h=>by cases h)];go_simp;try go_bits))
  have dK:=iy.out;rw [X0];exact dK
 ·rintro D ys W hD rfl ⟨iE,hsz,v,iM,hown⟩ hK
  have hb0:W.cell? ⟨w.heap.size,0,none⟩=some v:=by simp [World.cell?,iM]
  gi_wp2_with fail;have hq:∀b,b≠D->(W.putObj D (.deferred none)).heap[b]? = W.heap[b]?:=fun b hb=>l9 hb;refine ⟨by simp,.inl ⟨_,_,rfl,run_takeDeferred hK,?_⟩⟩;refine ⟨v,by simp [results,Tryz.results195,go_sem],⟨iE.os,iE.tape,iE.output,by have h:=iE.size;simpa using h,fun b hb=>(hq b (by omega)).trans (iE.block b hb)⟩,v,rfl,?_⟩;refine au.Wi (hown.yc fun b hb=>hq b (fun e=>?_)) (oh _);obtain ⟨c,hc⟩:=hown.kL hb;subst e;rw [hK] at hc;cases hc
 ·rintro D c pre W _ _ h _
  exact h.elim
theorem FB (w:World) (n:Int) (g:Nat) (lb:Array Value) :
  Calls Tryz.prog 136 #[.int .i64 n,.func (.func g) #[] lb] w fun e w'=>e=.returned (.func (.func 196) #[] #[.pointer (some ⟨w.heap.size,0,none⟩),.pointer (some ⟨w.heap.size+1,0,none⟩)])/\w'=(w.alloc (.cells #[.int .i64 n] 3)).alloc (.cells #[.func (.func g) #[] lb] 85):=by
 go_in;go_wp2;go_ret;exact ⟨by simp,rfl⟩
theorem Ko (w:World) (B1 B2 N:Nat) (hN:N<=64) (p:Int->Bool) (gf:Nat) (UL:Array Value) (eg:∀args w,(callFunc gf args).run Tryz.prog w=.ok (.enter gf args) w)
  (hc1:w.cell? ⟨B1,0,none⟩=some (.int .i64 (N:Int))) (hc2:w.cell? ⟨B2,0,none⟩=some (.func (.func gf) #[] UL))
  (hIs:∀k:Nat,k<N->∀W',KS (· < w.heap.size) w W'->Calls Tryz.prog gf (#[.int .i64 k]++UL) W' fun e w'=>e=.returned (.bool (p k))/\∃q,w'=W'.drewN q) :
  Calls Tryz.prog 135 #[.func (.func 196) #[] #[.pointer (some ⟨B1,0,none⟩),.pointer (some ⟨B2,0,none⟩)]] w (Cz w (iT p N)):=by
 have hB1:B1<w.heap.size:=dL w _ hc1;have hB2:B2<w.heap.size:=dL w _ hc2
 have HA:=aa (Ru w 196 #[.pointer (some ⟨B1,0,none⟩),.pointer (some ⟨B2,0,none⟩)] (enters_of Tryz.func196 (by kernel_rfl) rfl) (iT p N) (fun w6 ir l J Jx W hW hJ _ hY h0=>by
  have hks:KS (· < w.heap.size) w W:=fun b hb=>(hW.block b (by have:=ir.size;have:b<w.heap.size:=hb;omega)).trans (bH ir b hb)
  exact (Tk 8 l B1 B2 (· < w.heap.size) N hN p gf UL eg J Jx hY W hJ ((hks.cell (p:=⟨B1,0,none⟩) hB1).trans hc1) ((hks.cell (p:=⟨B2,0,none⟩) hB2).trans hc2) hB1 hB2 (fun k hk W' qU=>callsIn_wide.2 (hIs k hk W' (hks.trans qU))) h0).mono fun _ _ ⟨h1,h2⟩=>⟨h1,h2.imp (fun h=>⟨_,rfl,h⟩) id⟩) (by have:=nR p N;omega))
 go_in;go_wp2_with fail;refine HA.out.mono ?_;rintro e w1 ⟨hu,v,rfl,ho⟩;go_wp2;go_ret;exact ⟨hu,v,rfl,ho⟩
theorem acm (S:Nat->Prop) (w:World) (b6 b1:Nat) (v:Value) (l:List Int) (k:Int) (h6:w.cell? ⟨b6,0,none⟩=some (.func (.func 193) #[] #[.pointer (some ⟨b1,0,none⟩)])) (hb:w.cell? ⟨b1,0,none⟩=some v) (h:af S w v l) (hn:l.length<=1000000) (ha:l.Pairwise (· < ·)) :
  Calls Tryz.prog 137 #[.int .i64 k,.pointer (some ⟨b6,0,none⟩)] w fun e w'=>e=.returned (.bool (!l.contains k))/\∃q,w'=w.drewN q:=by
 have HC:=aa (Rs S w b1 v l k hb h hn ha);clear hb h ha;go_in;go_wp2_with fail;refine HC.out.mono ?_;rintro e w' ⟨rfl,q,rfl⟩;go_wp2;go_ret;exact ⟨aO (by simp),q,rfl⟩
theorem acn (S:Nat->Prop) (w:World) (b5 b8 b9 c1 c2:Nat) (v u:Value) (l m:List Int) (k:Int) (h5:w.cell? ⟨b5,0,none⟩=some (.func (.func 214) #[] #[])) (h8:w.cell? ⟨b8,0,none⟩=some (.func (.func 193) #[] #[.pointer (some ⟨c1,0,none⟩)])) (h9:w.cell? ⟨b9,0,none⟩=some (.func (.func 193) #[] #[.pointer (some ⟨c2,0,none⟩)]))
  (hb:w.cell? ⟨c1,0,none⟩=some v) (h:af S w v l) (hn:l.length<=1000000) (ha:l.Pairwise (· < ·)) (hb2:w.cell? ⟨c2,0,none⟩=some u) (h2:af S w u m) (hn2:m.length<=1000000) (ha2:m.Pairwise (· < ·)) :
  Calls Tryz.prog 258 #[.int .i64 k,.pointer (some ⟨b5,0,none⟩),.pointer (some ⟨b8,0,none⟩),.pointer (some ⟨b9,0,none⟩)] w fun e w'=>e=.returned (.bool (l.contains k&&m.contains k))/\∃q,w'=w.drewN q:=by
 have HC:Hid (∀n,Calls Tryz.prog 193 #[.int .i64 k,.pointer (some ⟨c1,0,none⟩)] (w.drewN n) fun e w'=>e=.returned (.bool (l.contains k))/\∃q,w'=w.drewN q):=fun n=>by have hu:=Up.drewN w n;refine (Rs S _ c1 v l k (hu.cell hb) (af.keep h (hu.kept _)) hn ha).mono ?_;rintro e w' ⟨rfl,q,rfl⟩;exact ⟨rfl,n+q,by rw [kY]⟩
 have HD:Hid (∀n,Calls Tryz.prog 193 #[.int .i64 k,.pointer (some ⟨c2,0,none⟩)] (w.drewN n) fun e w'=>e=.returned (.bool (m.contains k))/\∃q,w'=w.drewN q):=fun n=>by have hu:=Up.drewN w n;refine (Rs S _ c2 u m k (hu.cell hb2) (af.keep h2 (hu.kept _)) hn2 ha2).mono ?_;rintro e w' ⟨rfl,q,rfl⟩;exact ⟨rfl,n+q,by rw [kY]⟩
 have HE:Hid (∀x y n,Calls Tryz.prog 214 #[.bool x,.bool y] (w.drewN n) fun e w'=>e=.returned (.bool (x&&y))/\∃q,w'=w.drewN q):=fun x y n=>by
  cases x
  ·go_in
   go_wp2;go_ret;exact ⟨rfl,n,rfl⟩
  ·go_in
   go_wp2;go_ret;exact ⟨rfl,n,rfl⟩
 clear hb h ha hb2 h2 ha2;generalize l.contains k=x at *;generalize m.contains k=y at *;go_in;go_wp2_with fail;go_big_quiet (first | with_reducible exact HC.out _ | with_reducible exact HD.out _ | with_reducible exact HE.out _ _ _)
 go_wp2;go_ret;exact ⟨rfl,_,rfl⟩
theorem rG (w:World) (x y:Value) (T U:TypeId):Up w ((w.alloc (.cells #[x] T)).alloc (.cells #[y] U))/\((w.alloc (.cells #[x] T)).alloc (.cells #[y] U)).cell? ⟨w.heap.size,0,none⟩=some x/\((w.alloc (.cells #[x] T)).alloc (.cells #[y] U)).cell? ⟨w.heap.size+1,0,none⟩=some y:=by
 have bK:=Up.alloc w (.cells #[x] T);have h1:=mA w x T;have hs:(w.alloc (.cells #[x] T)).heap.size=w.heap.size+1:=by simp
 have aI:=Up.alloc (w.alloc (.cells #[x] T)) (.cells #[y] U);have h2:=mA (w.alloc (.cells #[x] T)) y U;rw [hs] at h2;exact ⟨bK.trans aI,aI.cell h1,h2⟩
theorem Rv (S:Nat->Prop) (w:World) (v:Value) (N:Nat) (a:List Int) (hN:N<=64) (h:af S w v a) (ha:eD a) (hb:∀x∈a,x<(N:Int)) (hl:a.length<=1000000) :
  Calls Tryz.prog 86 #[.int .i64 (N:Int),v] w fun e w'=>Up w w'/\∃u,e=.returned (.tuple #[u,.int .i64 0])/\au w.heap.size 3 w' u ((bG N a).map (Value.int .i64)):=by
 have HC:=aa (yg S w v a h hl);rw [jx.2 ha] at HC;have oZ:Hid (bG N a=iT (fun x=>!a.contains x) N):=by unfold Hid bG;rw [fc]
 obtain ⟨p,cap,rfl,-,-⟩:=aq.open h;have H:Hid (af S w (.slice p a.length cap) a):=h;have HA:=aa ha;have n0:¬(N:Int)<0:=by omega
 have n1:¬(64:Int)<(N:Int):=by omega
 have bK:=Up.alloc w (.cells #[.slice p a.length cap] 26);have hb1:=mA w (.slice p a.length cap) 26;have hw1:(w.alloc (.cells #[.slice p a.length cap] 26)).heap.size=w.heap.size+1:=by simp
 have Q7:=aa (⟨bK,hb1,hw1⟩:Up w (w.alloc (.cells #[.slice p a.length cap] 26))/\(w.alloc (.cells #[.slice p a.length cap] 26)).cell? ⟨w.heap.size,0,none⟩=some (.slice p a.length cap)/\(w.alloc (.cells #[.slice p a.length cap] 26)).heap.size=w.heap.size+1);clear h ha bK hb1 hw1;have HB:Hid (a.length=0\/0<a.length/\∃b off,p=some ⟨b,off,none⟩/\w.cell? ⟨b,off+(a.length - 1),none⟩=some (.int .i64 (gi a (a.length - 1)))/\gi a (a.length - 1)<N):=by
  by_cases h0:a.length=0
  ·exact .inl h0
  ·obtain ⟨b,off,e,hc⟩:=bU H.out (show a.length - 1<a.length by omega)
   exact .inr ⟨by omega,b,off,e,hc,hb _ (gi_in (by omega))⟩
 clear hb
 have REST:Hid (∀w3 B1 B2 b6,Up w w3->w3.cell? ⟨B1,0,none⟩=some (.int .i64 (N:Int))->w3.cell? ⟨B2,0,none⟩=some (.func (.func 137) #[] #[.pointer (some ⟨b6,0,none⟩)])->w3.cell? ⟨b6,0,none⟩=some (.func (.func 193) #[] #[.pointer (some ⟨w.heap.size,0,none⟩)])->w3.cell? ⟨w.heap.size,0,none⟩=some (.slice p a.length cap) ->
   Calls Tryz.prog 135 #[.func (.func 196) #[] #[.pointer (some ⟨B1,0,none⟩),.pointer (some ⟨B2,0,none⟩)]] w3 (Cz w3 (bG N a))):=fun w3 B1 B2 b6 hu c1 c2 c6 cw=>by
  rw [oZ.out]
  have hks:∀W',KS (· < w3.heap.size) w3 W'->∀b o x,w3.cell? ⟨b,o,none⟩=some x->W'.cell? ⟨b,o,none⟩=some x:=fun W' hW b o x hc=>(hW.cell (p:=⟨b,o,none⟩) (dL w3 _ hc)).trans hc
  refine Ko w3 B1 B2 N hN (fun x=>!a.contains x) 137 _ (enters_of Tryz.func137 (by kernel_rfl) rfl) c1 c2 fun k hk W' qU=>?_
  refine acm (· < w3.heap.size) W' b6 w.heap.size _ a k (hks W' qU _ _ _ c6) (hks W' qU _ _ _ cw) ?_ hl HA.out.jM
  exact aq.keep (af.sub (af.keep H.out (hu.kept _)) fun b _ hb=>hb) fun b hb _=>qU b hb
 have FIN:Hid (∀w3 e w',Up w w3->Cz w3 (bG N a) e w'->∃u,e=.returned u/\Up w w'/\au w.heap.size 3 w' u ((bG N a).map (Value.int .i64))):=fun w3 e w' hu ⟨h1,u,he,h2⟩=>⟨u,he,hu.trans h1,by
  obtain ⟨hl,h | ⟨g,cap,cur,hv,hg,hc,hr⟩⟩:=h2
  ·exact ⟨hl,.inl h⟩
  ·exact ⟨hl,.inr ⟨g,cap,cur,hv,aB hu.size hg,hc,hr⟩⟩⟩
 have K:Hid (∀w1 b1,b1=w.heap.size->w1=w.alloc (.cells #[.slice p a.length cap] 26)->Up w (w1.alloc (.cells #[.func (.func 193) #[] #[.pointer (some ⟨b1,0,none⟩)]] 85)) /\
   (w1.alloc (.cells #[.func (.func 193) #[] #[.pointer (some ⟨b1,0,none⟩)]] 85)).cell? ⟨w1.heap.size,0,none⟩=some (.func (.func 193) #[] #[.pointer (some ⟨w.heap.size,0,none⟩)]) /\
   (w1.alloc (.cells #[.func (.func 193) #[] #[.pointer (some ⟨b1,0,none⟩)]] 85)).cell? ⟨w.heap.size,0,none⟩=some (.slice p a.length cap)):=fun w1 b1 e1 e2=>by
  subst e1
  subst e2
  obtain ⟨k1,k2,k3⟩:=Q7.out
  have q1:=Up.alloc (w.alloc (.cells #[.slice p a.length cap] 26)) (.cells #[.func (.func 193) #[] #[.pointer (some ⟨w.heap.size,0,none⟩)]] 85)
  have q2:=mA (w.alloc (.cells #[.slice p a.length cap] 26)) (.func (.func 193) #[] #[.pointer (some ⟨w.heap.size,0,none⟩)]) 85
  exact ⟨k1.trans q1,q2,q1.cell k2⟩
 rcases HB.out with h0 | ⟨i01,b,off,rfl,hc,hlt⟩
 ·have h01:¬(0:Int)<(a.length:Int):=by omega
  have h02:¬0<a.length:=by omega
  clear h0;go_in;go_wp2_with fail;refine HC.out.mono ?_;rintro e w' ⟨rfl,rfl⟩;go_wp2_with fail;refine (Oy _ _ _ _).mono ?_;rintro e w1 ⟨rfl,hw1⟩;obtain ⟨k1,k2,k3⟩:=K.out w1 _ rfl hw1;have EP:=aa k1;have uI:=aa k2;have JB:=aa k3;clear hw1 k1 k2 k3 K;go_wp2_with fail;generalize w1.alloc (.cells #[.func (.func 193) #[] #[.pointer (some ⟨w.heap.size,0,none⟩)]] 85)=w2 at *;refine (FB _ _ _ _).mono ?_;rintro e w3 ⟨rfl,hw3⟩;obtain ⟨m1,m2,m3⟩:=rG w2 (.int .i64 (N:Int)) (.func (.func 137) #[] #[.pointer (some ⟨w1.heap.size,0,none⟩)]) 3 85;rw [<- hw3] at m1 m2 m3;have eW:Hid (Up w w3):=EP.out.trans m1;have HR:=aa (REST.out w3 _ _ _ eW.out m2 m3 (m1.cell uI.out) (m1.cell JB.out));clear hw3 m1 m2 m3 EP uI JB;go_wp2_with fail;refine HR.out.mono ?_;rintro e w4 hp;obtain ⟨u,rfl,h4,h5⟩:=FIN.out w3 e w4 eW.out hp;have H4:=aa h4;have H5:=aa h5;clear hp h4 h5;go_wp2_with fail;exact ⟨rfl,.tuple #[_,_],by simp [results,Tryz.results86,go_sem],H4.out,_,rfl,H5.out⟩
 ·have i0:(0:Int)<(a.length:Int):=by omega
  have i1:(0:Int)<=(a.length:Int) - 1:=by omega
  have i2:(a.length:Int) - 1<(a.length:Int):=by omega
  have i3:((a.length:Int) - 1).toNat=a.length - 1:=by omega
  have i4:wrap64 ((a.length:Int) - 1)=(a.length:Int) - 1:=by unfold wrap64;omega
  have i5:¬(N:Int)<=gi a (a.length - 1):=by omega
  clear hlt;generalize gi a (a.length - 1)=y at *;go_in;go_wp2_with fail;refine HC.out.mono ?_;rintro e w' ⟨rfl,rfl⟩;go_wp2_with fail;refine (Oy _ _ _ _).mono ?_;rintro e w1 ⟨rfl,hw1⟩;obtain ⟨k1,k2,k3⟩:=K.out w1 _ rfl hw1;have EP:=aa k1;have uI:=aa k2;have JB:=aa k3;clear hw1 k1 k2 k3 K;go_wp2_with fail;generalize w1.alloc (.cells #[.func (.func 193) #[] #[.pointer (some ⟨w.heap.size,0,none⟩)]] 85)=w2 at *;refine (FB _ _ _ _).mono ?_;rintro e w3 ⟨rfl,hw3⟩;obtain ⟨m1,m2,m3⟩:=rG w2 (.int .i64 (N:Int)) (.func (.func 137) #[] #[.pointer (some ⟨w1.heap.size,0,none⟩)]) 3 85;rw [<- hw3] at m1 m2 m3;have eW:Hid (Up w w3):=EP.out.trans m1;have HR:=aa (REST.out w3 _ _ _ eW.out m2 m3 (m1.cell uI.out) (m1.cell JB.out));clear hw3 m1 m2 m3 EP uI JB;go_wp2_with fail;refine HR.out.mono ?_;rintro e w4 hp;obtain ⟨u,rfl,h4,h5⟩:=FIN.out w3 e w4 eW.out hp;have H4:=aa h4;have H5:=aa h5;clear hp h4 h5;go_wp2_with fail;exact ⟨rfl,.tuple #[_,_],by simp [results,Tryz.results86,go_sem],H4.out,_,rfl,H5.out⟩
end
section
def gh (n:Int) (l:List (List Int)):Int:=if 64<l.length then 4 else if n<1\/32<n then 2 else bf (fun k=>aV n (gl l k)) l.length
end
section
open Go.RowKit Go.Shelf Go.Deep
theorem Zq (S:Nat->Prop) (w:World) (v u:Value) (a b:List Int) (h:af S w v a) (h2:af S w u b) (ha:eD a) (hb:eD b) (hl:a.length<=1000000) (hl2:b.length<=1000000) :
  Calls Tryz.prog 213 #[v,u,.func (.func 214) #[] #[]] w fun e w'=>Up w w'/\∃u,e=.returned (.tuple #[u,.int .i64 0])/\au w.heap.size 3 w' u ((ji a b).map (Value.int .i64)):=by
 have uZ:=Up.alloc w (.cells #[.func (.func 214) #[] #[]] 218);have hb0:=mA w (.func (.func 214) #[] #[]) 218;obtain ⟨p,cap,rfl,-,-⟩:=aq.open h;obtain ⟨p2,dF,rfl,-,-⟩:=aq.open h2;have H:Hid (af S w (.slice p a.length cap) a):=h;have H2:Hid (af S w (.slice p2 b.length dF) b):=h2;have HA:=aa ha;have HB:=aa hb;have Ef:=aa uZ;have mz:=aa hb0;have gA:Hid (∀W,Up w W->Calls Tryz.prog 118 #[.slice p a.length cap] W fun e w'=>e=.returned (.int .i64 0)/\W=w'):=fun W hW=>by have h:=yg S W _ a (af.keep H.out (hW.kept _)) hl;rw [jx.2 ha] at h;exact h
 have lZ:Hid (∀W,Up w W->Calls Tryz.prog 118 #[.slice p2 b.length dF] W fun e w'=>e=.returned (.int .i64 0)/\W=w'):=fun W hW=>by have h:=yg S W _ b (af.keep H2.out (hW.kept _)) hl2;rw [jx.2 hb] at h;exact h
 have REST:Hid (∀w3 B1 B2 b5 b8 b9 c1 c2,Up w w3->w3.cell? ⟨B1,0,none⟩=some (.int .i64 64)->w3.cell? ⟨B2,0,none⟩=some (.func (.func 258) #[] #[.pointer (some ⟨b5,0,none⟩),.pointer (some ⟨b8,0,none⟩),.pointer (some ⟨b9,0,none⟩)])->w3.cell? ⟨b5,0,none⟩=some (.func (.func 214) #[] #[]) ->
   w3.cell? ⟨b8,0,none⟩=some (.func (.func 193) #[] #[.pointer (some ⟨c1,0,none⟩)])->w3.cell? ⟨b9,0,none⟩=some (.func (.func 193) #[] #[.pointer (some ⟨c2,0,none⟩)])->w3.cell? ⟨c1,0,none⟩=some (.slice p a.length cap)->w3.cell? ⟨c2,0,none⟩=some (.slice p2 b.length dF) ->
   Calls Tryz.prog 135 #[.func (.func 196) #[] #[.pointer (some ⟨B1,0,none⟩),.pointer (some ⟨B2,0,none⟩)]] w3 (Cz w3 (ji a b))):=fun w3 B1 B2 b5 b8 b9 c1 c2 hu q1 q2 q5 q8 q9 r1 r2=>by
  have hks:∀W',KS (· < w3.heap.size) w3 W'->∀b o x,w3.cell? ⟨b,o,none⟩=some x->W'.cell? ⟨b,o,none⟩=some x:=fun W' hW b o x hc=>(hW.cell (p:=⟨b,o,none⟩) (dL w3 _ hc)).trans hc
  refine Ko w3 B1 B2 64 (ah _) (fun x=>a.contains x&&b.contains x) 258 _ (enters_of Tryz.func258 (by kernel_rfl) rfl) q1 q2 fun k hk W' qU=>?_
  exact acn (· < w3.heap.size) W' b5 b8 b9 c1 c2 _ _ a b k (hks W' qU _ _ _ q5) (hks W' qU _ _ _ q8) (hks W' qU _ _ _ q9) (hks W' qU _ _ _ r1) (aq.keep (af.sub (af.keep H.out (hu.kept _)) fun b _ hb=>hb) fun b hb _=>qU b hb) hl HA.out.jM (hks W' qU _ _ _ r2) (aq.keep (af.sub (af.keep H2.out (hu.kept _)) fun b _ hb=>hb) fun b hb _=>qU b hb) hl2 HB.out.jM
 have FIN:Hid (∀w3 e w',Up w w3->Cz w3 (ji a b) e w'->∃u,e=.returned u/\Up w w'/\au w.heap.size 3 w' u ((ji a b).map (Value.int .i64))):=fun w3 e w' hu ⟨h1,u,he,h2⟩=>⟨u,he,hu.trans h1,by
  obtain ⟨hl,h | ⟨g,cap,cur,hv,hg,hc,hr⟩⟩:=h2
  ·exact ⟨hl,.inl h⟩
  ·exact ⟨hl,.inr ⟨g,cap,cur,hv,aB hu.size hg,hc,hr⟩⟩⟩
 clear h h2 ha hb uZ hb0;go_in;go_wp2_with fail;generalize w.alloc (.cells #[.func (.func 214) #[] #[]] 218)=w0 at *;refine (gA.out w0 Ef.out).mono ?_;rintro e w0' ⟨rfl,rfl⟩;go_wp2_with fail;refine (lZ.out w0 Ef.out).mono ?_;rintro e w0' ⟨rfl,rfl⟩;go_wp2_with fail;refine (Oy _ _ _ _).mono ?_;rintro e w1 ⟨rfl,hw1⟩;have bK:=Up.alloc w0 (.cells #[.slice p a.length cap] 26);have hb1:=mA w0 (.slice p a.length cap) 26;rw [<- hw1] at bK hb1;have cB:=aa bK;have mO:=aa hb1;clear hw1 bK hb1;go_wp2_with fail;refine (Oy _ _ _ _).mono ?_;rintro e w2 ⟨rfl,hw2⟩;have aI:=Up.alloc w1 (.cells #[.slice p2 b.length dF] 26);have hb2:=mA w1 (.slice p2 b.length dF) 26;rw [<- hw2] at aI hb2;have b7:=aa aI;have FC:=aa hb2;clear hw2 aI hb2;go_wp2_with fail;obtain ⟨t1,t2,t3⟩:=rG w2 (.func (.func 193) #[] #[.pointer (some ⟨w0.heap.size,0,none⟩)]) (.func (.func 193) #[] #[.pointer (some ⟨w1.heap.size,0,none⟩)]) 85 85;generalize (w2.alloc (.cells #[.func (.func 193) #[] #[.pointer (some ⟨w0.heap.size,0,none⟩)]] 85)).alloc (.cells #[.func (.func 193) #[] #[.pointer (some ⟨w1.heap.size,0,none⟩)]] 85)=w3 at *;refine (FB _ _ _ _).mono ?_;rintro e w4 ⟨rfl,hw4⟩;obtain ⟨m1,m2,m3⟩:=rG w3 (.int .i64 64) (.func (.func 258) #[] #[.pointer (some ⟨w.heap.size,0,none⟩),.pointer (some ⟨w2.heap.size,0,none⟩),.pointer (some ⟨w2.heap.size+1,0,none⟩)]) 3 85;rw [<- hw4] at m1 m2 m3;have h24:=t1.trans m1;have h14:=b7.out.trans h24;have h04:=cB.out.trans h14;have k7:Hid (Up w w4):=Ef.out.trans h04;have HR:=aa (REST.out w4 _ _ _ _ _ _ _ k7.out m2 m3 (h04.cell mz.out) (m1.cell t2) (m1.cell t3) (h14.cell mO.out) (h24.cell FC.out));clear hw4 m1 m2 m3 t1 t2 t3 h24 h14 h04;go_wp2_with fail;refine HR.out.mono ?_;rintro e w5 hp;obtain ⟨u,rfl,h4,h5⟩:=FIN.out w4 e w5 k7.out hp;have H4:=aa h4;have H5:=aa h5;clear hp h4 h5;go_wp2_with fail;exact ⟨rfl,.tuple #[_,_],by simp [results,Tryz.results213,go_sem],H4.out,_,rfl,H5.out⟩
theorem Tl (S:Nat->Prop) (w:World) (v u:Value) (a b:List Int) (h:af S w v a) (h2:af S w u b) (ha:eD a) (hb:eD b) (hl:a.length<=1000000) (hl2:b.length<=1000000) :
  Calls Tryz.prog 163 #[v,u] w fun e w'=>Up w w'/\∃u,e=.returned (.tuple #[u,.int .i64 0])/\au w.heap.size 3 w' u ((ji a b).map (Value.int .i64)):=by
 have HC:=aa (Zq S w v u a b h h2 ha hb hl hl2);obtain ⟨p,cap,rfl,-,-⟩:=aq.open h;obtain ⟨p2,dF,rfl,-,-⟩:=aq.open h2;clear h h2;go_in;go_wp2_with fail;refine HC.out.mono ?_;rintro e w' ⟨h1,u,rfl,h2⟩;have H1:=aa h1;have H2:=aa h2;clear h1 h2;go_wp2_with fail;exact ⟨rfl,.tuple #[_,_],by simp [results,Tryz.results163,go_sem],H1.out,_,rfl,H2.out⟩
theorem aco (S:Nat->Prop) (w:World) (v u:Value) (a b:List Int) (h:af S w v a) (h2:af S w u b) (ha:eD a) (hb:eD b) (hl:a.length<=1000000) (hl2:b.length<=1000000) :
  Calls Tryz.prog 119 #[v,u] w fun e w'=>e=.returned (.bool (jo a b))/\Up w w':=by
 have HC:=aa (Tl S w v u a b h h2 ha hb hl hl2);have HF:Hid (jo a b=(decide ((ji a b).length=0) || decide ((ji a b).length=a.length) || decide ((ji a b).length=b.length))):=rfl;obtain ⟨p,cap,rfl,-,-⟩:=aq.open h;obtain ⟨p2,dF,rfl,-,-⟩:=aq.open h2;have HM:Hid ((ji a b).length<=64):=nR _ _;clear h h2;go_in;go_wp2_with fail;refine HC.out.mono ?_;rintro e w' ⟨h1,u,rfl,h2⟩;obtain ⟨q,c,rfl,_⟩:=h2.form (n:=(ji a b).length) (by rw [aD]);have H1:=aa h1;clear h1 h2;generalize (ji a b).length=m at *;generalize a.length=x at *;generalize b.length=y at *;by_cases e0:m=0
 ·have d:((m:Int)==0)=true:=by simpa using e0
  have HE:=aa e0;clear e0;go_wp2;go_ret;exact ⟨aO (by rw [HF.out,decide_eq_true HE.out];rfl),H1.out⟩
 have d0:((m:Int)==0)=false:=beq_eq_false_iff_ne.2 (by omega);have NG:=aa e0;clear e0;by_cases e1:m=x
 ·have d1:((m:Int)==(x:Int))=true:=by subst e1;simp
  have HE:=aa e1;clear e1;go_wp2;go_ret;exact ⟨aO (by rw [HF.out,decide_eq_true HE.out];simp),H1.out⟩
 have d1:((m:Int)==(x:Int))=false:=beq_eq_false_iff_ne.2 (by omega);have Ji:=aa e1;clear e1;by_cases e2:m=y
 ·have d2:((m:Int)==(y:Int))=true:=by subst e2;simp
  have HE:=aa e2;clear e2;go_wp2;go_ret;exact ⟨aO (by rw [HF.out,decide_eq_true HE.out];simp),H1.out⟩
 ·have d2:((m:Int)==(y:Int))=false:=beq_eq_false_iff_ne.2 (by omega)
  have xD:=aa e2;clear e2;go_wp2;go_ret;exact ⟨aO (by rw [HF.out,decide_eq_false NG.out,decide_eq_false Ji.out,decide_eq_false xD.out];rfl),H1.out⟩
theorem rH {s:List Int} (h:eD s):s.length<=64:=by
 have h1:=gu h.jM (nS (fun _=>true) 64) (fun x hx=>Dp.2 (by have:=h.bd x hx;exact ⟨by omega,by omega,rfl⟩));have h2:=nR (fun _=>true) 64;omega
def G5 (l:List (List Int)):Int:=if iY l<0 then 0 else iY l
def G6 (l:List (List Int)):Int:=if iY l<0 then 0 else J6 l
def Eg (l:List (List Int)):Bool:=decide (iY l<0)
theorem ahg (S:Nat->Prop) (w:World) (v:Value) (l:List (List Int)) (h:aT S w v l) (ho:∀k,k<l.length->eD (gl l k)) (hn:l.length<=1000) :
  Calls Tryz.prog 66 #[v] w fun e w'=>e=.returned (.tuple #[.int .i64 (G5 l),.int .i64 (G6 l),.bool (Eg l)])/\Up w w':=by
 obtain ⟨p,cap,rfl,-,-⟩:=dy h;have H:Hid (aT S w (.slice p l.length cap) l):=h;have HO:=aa ho;have u7:Hid ((∀a,a<l.length->decide (0<=ig l a)=false)->G5 l=0/\G6 l=0/\Eg l=true):=fun hno=>by have h1:iY l = -1:=dZ hno;unfold G5 G6 Eg;rw [h1];exact ⟨rfl,rfl,rfl⟩
 have acp:Hid (∀i k,i<l.length->k<l.length->(∀a,a<i->decide (0<=ig l a)=false)->(∀b,b<k->(decide (i<b)&&!jo (gl l i) (gl l b))=false)->i<k->jo (gl l i) (gl l k)=false->G5 l=i/\G6 l=k/\Eg l=false):=fun i k hi hk h1 h2 hik hc=>by
  have r:ig l i=k:=gG hk h2 (by rw [decide_eq_true hik,hc];rfl);have q:iY l=i:=gG hi h1 (by rw [r];exact decide_eq_true (by omega));have q2:J6 l=k:=by unfold J6;rw [q,fc];exact r
  unfold G5 G6 Eg;rw [q,q2,if_neg (by omega),if_neg (by omega)];exact ⟨rfl,rfl,decide_eq_false (by omega)⟩
 have ED:Hid (∀i,(∀b,b<l.length->(decide (i<b)&&!jo (gl l i) (gl l b))=false)->decide (0<=ig l i)=false):=fun i hno=>by have h1:ig l i = -1:=dZ hno;rw [h1];rfl
 have n3:(l.length:Int)<=1000:=by omega
 clear h ho;go_in;go_wp2
 go_loopw [5,6,9] (fun _ _ i wr=>∃k:Nat,k<=l.length/\i=.int .i64 k/\Hid (∀a,a<k->decide (0<=ig l a)=false)/\Hid (Up w wr)) (fun _ _ i _=>l.length - (intOf i).toNat)
 case atStart=>exact ⟨0,aF _,rfl,fun j hj=>absurd hj (aZ _),Up.refl _⟩
 case round =>
  obtain ⟨i,hi,rfl,hd,hU⟩:=hrel;obtain ⟨wo,rfl⟩:=eM wr;by_cases hlt:i<l.length
  ·have i1:(0:Int)<=(i:Int):=vP _
   have i2:(i:Int)<(l.length:Int):=tX.2 hlt;(have i3:(i:Int)<1000:=by omega);go_wp2
   go_loopw [6] (fun i2 wr=>∃k:Nat,i+1<=k/\k<=l.length/\i2=.int .i64 k/\Hid (∀b,b<k->(decide (i<b)&&!jo (gl l i) (gl l b))=false)/\Hid (Up w wr)) (fun i2 _=>l.length - (intOf i2).toNat)
   case atStart=>exact ⟨i+1,ah _,by omega,by go_num,fun b hb=>by rw [decide_eq_false (by omega)];rfl,hU⟩
   case round =>
    obtain ⟨k,nj,hk,rfl,hd2,mC⟩:=hrel;obtain ⟨wq,rfl⟩:=eM wr;by_cases BJ:k<l.length
    ·obtain ⟨b,off,q,c,rfl,hc,hr⟩:=eZ H.out hlt
     obtain ⟨b2,off2,q2,c2,e2,hc2,hr2⟩:=eZ H.out BJ;cases e2;have gA:=aa (mC.out.cell hc);have lZ:=aa (mC.out.cell hc2);have k1:(0:Int)<=(k:Int):=vP _;have k2:(k:Int)<(l.length:Int):=tX.2 BJ;have k3:(k:Int)<1000:=by omega
     have uk:Hid (∀W,Up wq W->Calls Tryz.prog 119 #[.slice q (gl l i).length c,.slice q2 (gl l k).length c2] W fun e w'=>e=.returned (.bool (jo (gl l i) (gl l k)))/\Up W w'):=fun W hW =>
      aco S W _ _ _ _ (af.keep hr ((mC.out.trans hW).kept _)) (af.keep hr2 ((mC.out.trans hW).kept _)) (HO.out i hlt) (HO.out k BJ) (by have:=rH (HO.out i hlt);omega) (by have:=rH (HO.out k BJ);omega)
     (have aR:Hid (i<k):=by unfold Hid;omega);clear hc hc2 hr hr2;have cQ:Hid (Up wq (wq.drewN 1)):=Up.drewN wq 1;generalize hcb:jo (gl l i) (gl l k)=cb at *;have sO:=aa hcb;clear hcb;generalize (gl l i).length=x at *;generalize (gl l k).length=y at *;go_wp2_with fail
     go_region_held3 (fun w'=>Hid (Up wq w')/\w'.cell? ⟨b,off+i,none⟩=some (.slice q x c)/\w'.cell? ⟨b,off+k,none⟩=some (.slice q2 y c2)) (exact ⟨cQ,cQ.out.cell gA.out,cQ.out.cell lZ.out⟩) (first
      | (go_at_call 119;refine (uk.out _ cQ.out).mono ?_;rintro e w9 ⟨rfl,FD⟩;have cQ:Hid (Up wq w9):=cQ.out.trans FD;clear FD))
     have eW:Hid (Up w _):=mC.out.trans cQ.out;clear cQ uk gA lZ;cases cb
     ·go_wp2_with fail
      obtain ⟨y1,y2,y3⟩:=acp.out i k hlt BJ hd.out hd2.out aR.out sO.out;exact ⟨rfl,.tuple #[.int .i64 (i:Int),.int .i64 (k:Int),.bool false],by simp [results,Tryz.results66,go_sem],by rw [y1,y2,y3],eW.out⟩
     ·go_wp2
      go_roundw
      case rel=>exact ⟨k+1,by omega,by omega,by go_num,fun b' hb'=>by
       by_cases e:b'=k
       ·subst e;rw [sO.out];simp
       ·exact hd2.out b' (by omega),eW⟩
      case measure=>simp [intOf];omega
    ·obtain rfl:k=l.length:=by omega
     have HR:=aa (ED.out i hd2.out);go_wp2
     go_roundw
     case rel=>exact ⟨i+1,by omega,by go_num,fun a ha=>by
      by_cases e:a=i
      ·subst e;exact HR.out
      ·exact hd.out a (by omega),mC⟩
     case measure=>simp [intOf];omega
  ·obtain rfl:i=l.length:=by omega
   obtain ⟨y1,y2,y3⟩:=u7.out hd.out;have HY:Hid (G5 l=0/\G6 l=0/\Eg l=true):=⟨y1,y2,y3⟩;clear y1 y2 y3;go_wp2_with fail;exact ⟨rfl,.tuple #[.int .i64 0,.int .i64 0,.bool true],by simp [results,Tryz.results66,go_sem],by rw [HY.out.1,HY.out.2.1,HY.out.2.2],hU.out⟩
def Kq (n:Int) (l:List (List Int)):Int:=if gh n l=0 then G5 l else 0
def Kr (n:Int) (l:List (List Int)):Int:=if gh n l=0 then G6 l else 0
def Eh (n:Int) (l:List (List Int)):Bool:=decide (gh n l=0)&&Eg l
theorem ahh {n:Int} {l:List (List Int)} (h:gh n l≠0):Kq n l=0/\Kr n l=0/\Eh n l=false:=by
 unfold Kq Kr Eh;rw [if_neg h,if_neg h,decide_eq_false h];exact ⟨rfl,rfl,rfl⟩
theorem UM {n:Int} {l:List (List Int)} (h:gh n l=0):Kq n l=G5 l/\Kr n l=G6 l/\Eh n l=Eg l:=by
 unfold Kq Kr Eh;rw [if_pos h,if_pos h,decide_eq_true h];exact ⟨rfl,rfl,rfl⟩
end
section
theorem ahi {L:List Int} {y z:Int} (h1:y∈L) (h2:z∈L) (hne:y≠z):2<=L.length:=by
 match L,h1,h2 with
 | [a],h1,h2=>exact absurd ((cN.1 h1).trans (cN.1 h2).symm) hne
 | _::_::_,_,_=>simp
def ajR (a b:List Int):Prop:=((∀x∈a,x∉b)\/∀x∈a,x∈b)/\¬∀x,x∈a↔x∈b
theorem UN:∀(F:List (List Int)) (U:List Int),U≠[]->U.Nodup->(∀s∈F,s.Nodup/\2<=s.length/\∀x∈s,x∈U)->F.Pairwise ajR->F.length+1<=U.length
 | [],U,hU,_,_,_=>by
  have:=z7.2 hU
  show 0+1<=U.length
  omega
 | S::F,U,hU,hN,hF,hP=>by
  obtain ⟨hSn,hS2,hSU⟩:=hF S (by simp)
  obtain ⟨x,y,r,rfl⟩:∃x y r,S=x::y::r:=by
   match S,hS2 with
   | a::b::r,_=>exact ⟨a,b,r,rfl⟩
  have hxy:x≠y:=fun e=>(qu.1 hSn).1 (by rw [e];simp)
  have hxU:=hSU x (by simp)
  have hyU:=hSU y (by simp)
  rw [iB] at hP
  obtain ⟨TS,uD⟩:=hP
  have hlen:=List.length_erase_of_mem hxU
  have hpos:=List.length_pos_of_mem hxU
  have hin:∀T∈F,(x∈T↔y∈T):=fun T hT=>by
   rcases (TS T hT).1 with h | h
   ·exact ⟨fun e=>absurd e (h x (by simp)),fun e=>absurd e (h y (by simp))⟩
   ·exact ⟨fun _=>h y (by simp),fun _=>h x (by simp)⟩
  have ih:=UN (F.map (·.erase x)) (U.erase x) (fun e=>by
    have:y∈U.erase x:=(CN hN).2 ⟨fun e=>hxy e.symm,hyU⟩
    rw [e] at this;cases this) (hN.erase x) (fun s hs=>by
    obtain ⟨T,hT,rfl⟩:=bI.1 hs
    obtain ⟨Rw,Rt,hTU⟩:=hF T (mX _ hT)
    refine ⟨Rw.erase x,?_,fun z hz=>?_⟩
    ·rcases (TS T hT).1 with h | h
     ·rw [List.erase_of_not_mem (h x (by simp))];exact Rt
     ·obtain ⟨z,hz1,hz2⟩:∃z,z∈T/\z∉x::y::r:=by
       refine Classical.byContradiction fun hno=>(TS T hT).2 fun z=>⟨h z,fun hz=>?_⟩
       exact Classical.byContradiction fun hz2=>hno ⟨z,hz,hz2⟩
      refine ahi (y:=y) (z:=z) ((CN Rw).2 ⟨fun e=>hxy e.symm,h y (by simp)⟩) ((CN Rw).2 ⟨fun e=>hz2 (by rw [e];simp),hz1⟩) (fun e=>hz2 (by rw [<- e];simp))
    ·obtain ⟨h1,h2⟩:=(CN Rw).1 hz
     exact (CN hN).2 ⟨h1,hTU z h2⟩) (by
    rw [sI]
    refine uD.imp_of_mem fun {a b} ha hb hab=>?_
    have Px:=(hF a (mX _ ha)).1
    have Cm:=(hF b (mX _ hb)).1
    have ma:∀z,z∈a.erase x↔z≠x/\z∈a:=fun z=>CN Px
    have mb:∀z,z∈b.erase x↔z≠x/\z∈b:=fun z=>CN Cm
    refine ⟨?_,fun hall=>hab.2 fun z=>?_⟩
    ·rcases hab.1 with h | h
     ·exact .inl fun z hz hz2=>h z ((ma z).1 hz).2 ((mb z).1 hz2).2
     ·exact .inr fun z hz=>(mb z).2 ⟨((ma z).1 hz).1,h z ((ma z).1 hz).2⟩
    ·have adX:∀z,z≠x->(z∈a↔z∈b):=fun z hz=>by
      have h:=hall z
      rw [ma,mb] at h
      exact ⟨fun e=>(h.1 ⟨hz,e⟩).2,fun e=>(h.2 ⟨hz,e⟩).2⟩
     by_cases e:z=x
     ·rw [e,hin a ha,hin b hb];exact adX y fun e=>hxy e.symm
     ·exact adX z e)
  rw [aD] at ih
  simp only [aW]
  omega
termination_by F=>F.length
decreasing_by simp
theorem FE {amd:List ByteArray} {l:List (List Int)} (h:iZ amd l) (h3:3<=amd.length):3+(aJ l).length+(amd.length - 1)<=64:=by
 have hr:=rE (n:=amd.length) (by omega);have hle:=h.le;have iF:(bG amd.length [0]).Nodup:=((Du _).filter _).imp fun h e=>by omega
 have key:=UN (aJ l).reverse (bG amd.length [0]) (fun e=>by rw [e] at hr;simp at hr;omega) iF (fun s hs=>by
  have hs:=rD.1 (List.mem_reverse.1 hs);have ho:=h.AW s hs
  exact ⟨ho.set.jM.imp fun h e=>by omega,ho.len.1,fun x hx=>jH.2 (ho.bd x hx)⟩) (by
  rw [List.pairwise_reverse,mY];intro i k hi hk hik;have ei:gl (aJ l) i=(aJ l)[i]:=by simp [gl,hi]
  have ek:gl (aJ l) k=(aJ l)[k]:=by simp [gl,hk]
  rw [<- ei,<- ek];refine ⟨?_,fun hall=>?_⟩
  ·by_cases hc:∃x,x∈gl (aJ l) k/\x∈gl (aJ l) i
   ·obtain ⟨x,h1,h2⟩:=hc
    exact .inr (h.down hik hk h2 h1)
   ·exact .inl fun x h1 h2=>hc ⟨x,h1,h2⟩
  ·have:=h.up (i:=k) (k:=i) hk hi (by omega) fun x hx=>(hall x).2 hx
   omega)
 rw [List.length_reverse] at key;omega
end
end Go.Proofs.YthgabkgmkolobaaGreat
