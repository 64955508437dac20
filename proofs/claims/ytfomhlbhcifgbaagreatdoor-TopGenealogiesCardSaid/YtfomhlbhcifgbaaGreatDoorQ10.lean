/- The contract of slices.Repeat of a list of one number 1. slices.IndexFunc and .. -/
import Derived.Laws.CopyOwn
import Derived.Deep.RegionLaw
import Derived.RegionTactic
import Derived.RangeFuncWrites
import Derived.Test.YtfomhlbhcifgbaaGreatDoorQ9
set_option maxRecDepth 100000
set_option maxHeartbeats 1000000
namespace Go.Proofs.YtfomhlbhcifgbaaGreatDoor
section
open Go.RowKit Go.Deep
theorem mul_one (N:Nat) (hN:N<=1000) (w:World):Calls Tryz.prog 27 #[.int .u64 1,.int .u64 N] w fun e w'=>e=.returned (.tuple #[.int .u64 0,.int .u64 N])/\w=w':=by
 have h:=Tryz.bits_Mul 1 N (by decide) (by omega) w;rw [Nat.one_mul,Nat.div_eq_of_lt (by omega),Nat.mod_eq_of_lt (by omega)] at h;exact h.mono fun _ _ ⟨a,b⟩=>⟨a,b.symm⟩
def La (n i:Nat):Value:=if i<n then .int .i64 1 else .int .i64 0
def eO (N n:Nat):List Value:=(List.range N).map (La n)
theorem pX (N n:Nat):(eO N n).length=N:=by simp [eO]
theorem sY {N n i:Nat} (h:i<N):(eO N n)[i]? = some (if i<n then .int .i64 1 else .int .i64 0):=by simp [eO,h,La]
theorem Qg {N n m:Nat} (h:n+m<=N):((eO N n).toArray.toList.take n++List.replicate m (.int .i64 1)++(eO N n).toArray.toList.drop (n+(List.replicate m (Value.int .i64 1)).length))=eO N (n+m):=by
 apply vh;intro i;by_cases hi:i<N
 ·rw [sY hi,cU,EZ]
  simp only [iy,pX,pq];by_cases h1:i<n
  ·rw [if_pos (by omega),List.getElem?_take,if_pos h1,sY hi,if_pos h1,if_pos (by omega)]
  ·rw [if_neg (by omega),EZ]
   by_cases h2:i<n+m
   ·rw [if_pos (by rw [pq];omega),if_pos h2,List.getElem?_replicate,if_pos (by omega)]
   ·rw [if_neg (by rw [pq];omega),if_neg h2,List.getElem?_drop]
    simp only [pq];(have e:n+m+(i - min n N - m)=i:=by omega);rw [e,sY hi,if_neg (by omega)]
 ·rw [vq (by simp [pX];omega),vq (by simp [pX];omega)]
theorem DI (W:World) (g N n m dCap:Nat) (ad:Addr) (sLen sCap dLen:Nat) (hg:W.heap[g]? = some (.cells (eO N n).toArray 3 (0,0))) (hm:m=Nat.min sLen dLen) (Bi:n+m<=N)
  (hs:∀j,j<m->W.cell? (ad.add j)=some (.int .i64 1)) :
  Sem.run Tryz.prog (Builtin.copy_ #[27,27] 3 #[.slice (some ⟨g,n,none⟩) dLen dCap,.slice (some ad) sLen sCap]) W=.ok (.int .i64 m) (W.setRow g (eO N (n+m)).toArray):=by
 have h:=run_copy_row (P:=Tryz.prog) W 27 27 3 3 g n dLen dCap ad sLen sCap (eO N n).toArray 3 (List.replicate m (.int .i64 1)) Tryz.underlying27 (by kernel_rfl) hg (by simpa using hm)
  (fun j v hj=>by
   rw [List.getElem?_replicate] at hj;split at hj
   ·injection hj with hj;subst hj;exact hs j (by assumption)
   ·cases hj) (by simpa [pX] using Bi) (fun v hv=>by rw [List.eq_of_mem_replicate hv];rfl)
 rw [Qg Bi,pq] at h;exact h
theorem MF (N:Nat):madeCells #[.int .i64 0] N=(eO N 0).toArray:=by
 apply Array.ext
 ·simp [pX,madeCells]
 ·intro i h1 h2
  simp [madeCells,eO,Nat.mod_one,La]
theorem sZ {W:World} {g N k:Nat} {T:TypeId} (h:W.heap[g]? = some (.cells (eO N k).toArray T (0,0))) {j:Nat} (hj:j<N):W.cell? ⟨g,j,none⟩=some (if j<k then .int .i64 1 else .int .i64 0):=by
 have h2:=sY (n:=k) hj;rw [<- h2];simp [World.cell?,h]
def VQ (w:World) (N:Nat) (e:Ending) (w':World):Prop:=∃g,e=.returned (.slice (some ⟨g,0,none⟩) N N)/\w.heap.size<=g/\Up w w'/\w'.heap[g]? = some (.cells (eO N N).toArray 3 (0,0))
theorem FR (w:World) (b off:Nat) (N:Nat) (sX:1<=N) (hN:N<=1000) (hc:w.cell? ⟨b,off,none⟩=some (.int .i64 1)) :
  Calls Tryz.prog 9 #[.slice (some ⟨b,off,none⟩) 1 1,.int .i64 N] w (VQ w N):=by
 have hmk:=fun W=>run_make_row' (P:=Tryz.prog) 27 3 (.int .i64 0) 8 Tryz.underlying27 Tryz.pF rfl .i64 .i64 N (by omega) (by omega) W;have d1:decide ((N:Int)<0)=false:=by simp
 have d2:decide ((9223372036854775807:Int)<(N:Int))=false:=by simp;omega
 have k6:(w.alloc (.cells (madeCells #[.int .i64 0] N) 3)).heap[w.heap.size]? = some (.cells (eO N 0).toArray 3 (0,0)):=by rw [blk_alloc_new,MF]
 have FT:=Up.alloc w (.cells (madeCells #[.int .i64 0] N) 3);have hc0:=FT.cell hc;have zn:=aa k6;have MG:=aa FT;clear k6 FT
 have jw:=DI (w.alloc (.cells (madeCells #[.int .i64 0] N) 3)) w.heap.size N 0 1 N ⟨b,off,none⟩ 1 1 N zn.out (by show 1=min 1 N;omega) (by omega) (fun j hj=>by
  obtain rfl:j=0:=by omega
  exact hc0)
 have xK:Hid (((w.alloc (.cells (madeCells #[.int .i64 0] N) 3)).setRow w.heap.size (eO N (0+1)).toArray).heap[w.heap.size]? = some (.cells (eO N (0+1)).toArray 3 (0,0))):=setRow_heap _ _ _ _ _ _ zn.out;have bU:Hid (Up w ((w.alloc (.cells (madeCells #[.int .i64 0] N) 3)).setRow w.heap.size (eO N (0+1)).toArray)):=below_setRow MG.out (aj _) _;clear zn MG;go_in;go_wp2_with (go_at_call 27;refine (mul_one N hN _).mono ?_;rintro e w' ⟨rfl,rfl⟩)
 generalize (w.alloc (.cells (madeCells #[.int .i64 0] N) 3)).setRow w.heap.size (eO N (0+1)).toArray=w1 at *
 go_loopw [8] (fun n wr=>∃k:Nat,1<=k/\k<=N/\n=.int .i64 k/\Hid (wr.heap[w.heap.size]? = some (.cells (eO N k).toArray 3 (0,0)))/\Hid (Up w wr)) (fun n _=>N - (intOf n).toNat)
 case atStart=>exact ⟨1,aj _,sX,rfl,xK,bU⟩
 case round =>
  obtain ⟨k,hk1,hk2,rfl,HR,HU⟩:=hrel;obtain ⟨wo,rfl⟩:=e9 wr;by_cases hlt:k<N
  ·obtain ⟨m,hm⟩:∃m:Nat,m=Nat.min k (N - k):=⟨_,rfl⟩
   have hm2:m=min k (N - k):=hm;have Cy:Sem.run Tryz.prog (Builtin.copy_ #[27,27] 3 #[.slice (some ⟨w.heap.size,k,none⟩) (N - k) (N - k),.slice (some ⟨w.heap.size,0,none⟩) k N]) wo.drew=.ok (.int .i64 m) (wo.drew.setRow w.heap.size (eO N (k+m)).toArray) :=
    DI wo.drew w.heap.size N k m (N - k) ⟨w.heap.size,0,none⟩ k N (N - k) HR.out hm (by omega) (fun j hj=>by
     have h:=sZ HR.out (j:=j) (by omega);rw [if_pos (by omega)] at h;have e:(⟨w.heap.size,0,none⟩:Addr).add j=⟨w.heap.size,j,none⟩:=by simp [Addr.add];omega
     rw [e];exact h)
   (have hmk:1<=m:=by omega);(have hmN:k+m<=N:=by omega);have zo:Hid ((wo.drew.setRow w.heap.size (eO N (k+m)).toArray).heap[w.heap.size]? = some (.cells (eO N (k+m)).toArray 3 (0,0))):=setRow_heap _ _ _ _ _ _ (show wo.drew.heap[w.heap.size]? = _ from HR.out);have bF:Hid (Up w (wo.drew.setRow w.heap.size (eO N (k+m)).toArray)):=below_setRow (show Up w wo.drew from below_drewN HU.out 1) (aj _) _;clear hm hm2 HR HU;go_wp2
   go_region
   all_goals
    go_wp2
    go_roundw
    case rel=>exact ⟨k+m,by omega,by omega,by go_num,zo,bF⟩
    case measure=>simp [intOf];omega
  ·obtain rfl:k=N:=by omega
   go_wp2;go_ret;exact ⟨_,rfl,aj _,HU.out,HR.out⟩
def VR (g:Nat) (lb args:Array Value) (res:Value) (w:World):Prop:=∀m,Calls Tryz.prog g (args++lb) (w.drewN m) fun e w'=>e=.returned res/\∃q,w'=w.drewN q
theorem MH (g:Nat) (lb:Array Value) (eg:∀args w,(callFunc g args).run Tryz.prog w=.ok (.enter g args) w) (S:Nat->Prop) (w:World) (v:Value) (n:Nat) (f:Nat->Value) (p:Nat->Bool)
  (h:aB S w v n f) (hn:n<=1000000) (hp:∀k,k<n->VR g lb #[f k] (.bool (p k)) w) :
  Calls Tryz.prog 86 #[v,.func (.func g) #[] lb] w fun e w'=>e=.returned (.int .i64 (bZ p n))/\∃q,w'=w.drewN q:=by
 obtain ⟨q,cap,rfl,hcap,H⟩:=h.open;have HP:=aa hp;clear h hp;go_in;go_wp2
 go_loopw [5,8] (fun _ i wr=>∃k:Nat,k<=n/\i=.int .i64 k/\Hid (∀j,j<k->p j=false)/\Hid (∃m,wr=w.drewN m)) (fun _ i _=>n - (intOf i).toNat)
 case atStart=>exact ⟨0,bg _,rfl,fun j hj=>absurd hj (cz _),0,rfl⟩
 case round =>
  obtain ⟨k,hk,rfl,hd,hm⟩:=hrel;obtain ⟨m,rfl⟩:=hm.out;clear hm;by_cases hlt:k<n
  ·obtain ⟨b,off,rfl,hc⟩:=H k hlt
   have hc:=(Up.drewN w m).cell hc;clear H;have hpk:=HP.out k hlt;unfold VR at hpk;have sU:=aa (hpk m);clear hpk HP;generalize hv:p k=pk at *;have HV:=aa hv;clear hv;cases pk
   ·go_wp2_with fail
    refine sU.out.mono ?_;rintro e w' ⟨rfl,m2,rfl⟩;go_wp2
    go_roundw
    case rel=>exact ⟨k+1,by omega,by go_num,fun j hj=>if e:j=k then by subst e;exact HV.out else hd.out j (by omega),m2,rfl⟩
    case measure=>simp [intOf];omega
   ·go_wp2_with fail
    refine sU.out.mono ?_;rintro e w' ⟨rfl,m2,rfl⟩;go_wp2;go_ret;exact ⟨aU (jR hlt hd.out HV.out).symm,m2,rfl⟩
  ·clear H
   go_wp2;go_ret;exact ⟨aU (gY fun j hj=>hd.out j (by omega)).symm,m,rfl⟩
def MI (l:List Bool) (k:Nat):Bool:=l.getD k false
def BC (S:Nat->Prop) (w:World) (v:Value) (xs:List Bool):Prop:=aB S w v xs.length (fun k=>.bool (MI xs k))
structure kI where
 ns:List ByteArray
 bs:List Bool
 P:List (List Int)
def aP (S:Nat->Prop) (w:World) (v:Value) (s:kI):Prop:=∃a b c,v=.agg #[a,b,c]/\aC S w a s.ns/\BC S w b s.bs/\aS S w c s.P
theorem aP.keep {S:Nat->Prop} {w w':World} {v:Value} {s:kI} (h:aP S w v s) (k:Kept S w w'):aP S w' v s:=by
 obtain ⟨a,b,c,rfl,h1,h2,h3⟩:=h;exact ⟨a,b,c,rfl,aC.keep h1 k,aB.keep h2 k,aS.keep h3 k⟩
theorem aP.sub {S T:Nat->Prop} {w:World} {v:Value} {s:kI} (h:aP S w v s) (k:∀b,S b->b<w.heap.size->T b):aP T w v s:=by
 obtain ⟨a,b,c,rfl,h1,h2,h3⟩:=h;exact ⟨a,b,c,rfl,aC.sub h1 k,aB.sub h2 k,aS.sub h3 k⟩
theorem aP.open {S:Nat->Prop} {w:World} {v:Value} {s:kI} (h:aP S w v s):∃np nc bp bc pp pc,v=.agg #[.slice np s.ns.length nc,.slice bp s.bs.length bc,.slice pp s.P.length pc]/\aC S w (.slice np s.ns.length nc) s.ns/\BC S w (.slice bp s.bs.length bc) s.bs/\aS S w (.slice pp s.P.length pc) s.P:=by
 obtain ⟨a,b,c,rfl,h1,h2,h3⟩:=h;obtain ⟨np,nc,rfl,-,-⟩:=aB.open h1;obtain ⟨bp,bc,rfl,-,-⟩:=aB.open h2;obtain ⟨pp,pc,rfl,-,-⟩:=eE h3;exact ⟨np,nc,bp,bc,pp,pc,rfl,h1,h2,h3⟩
end
section
open Go Go.RowKit Go.Deep
structure Cz (L L':Nat->Prop) (W W':World):Prop where
 os:W'.os=W.os
 tape:W'.tape=W.tape
 output:W'.output=W.output
 size:W.heap.size<=W'.heap.size
 block:∀b,b<W.heap.size->¬L b->W'.heap[b]? = W.heap[b]?
 more:∀b,L' b->(L b/\b<W.heap.size)\/(W.heap.size<=b/\b<W'.heap.size)
def DJ {α:Type} (J:List α->(Nat->Prop)->World->Prop):Prop:=∀s L L' W W',J s L W->Cz L L' W W'->J s L' W'
def VS {α:Type} (F:Fence) (n:Nat) (P:Program) (g:Nat) (lb:Array Value) (encs:α->Array Value) (Gv:α->(Nat->Prop)->World->Prop) (Gb:α->Nat->Prop) (S:List α->Prop) (N:Nat) (w w9:World) (L0:Nat->Prop):Prop :=
 ∀(l:Nat) (J:List α->(Nat->Prop)->World->Prop) (W:World),Below w.heap.size w W->(∀b,L0 b->b<w9.heap.size/\W.heap[b]? = w9.heap[b]?)->w9.heap.size<=W.heap.size->DJ J ->
  (∀pre x L W1,J pre L W1->Gv x L W1->Below w.heap.size w W1->(∀b,L b->w.heap.size<=b/\b<W1.heap.size)->pre.length<N->YieldAt F (n - 1) P l (encs x) W1 fun e W' =>
   e=.returned (.bool true)/\J (pre++[x]) L W'/\Below w.heap.size w W'/\W1.heap.size<=W'.heap.size/\∀b,(L b\/Gb x b)->W'.heap[b]? = W1.heap[b]?) ->
  J [] L0 W ->
  CallsIn F n P g (#[.func (.yield l) #[] #[]]++lb) W fun e W'=>(∃v,e=.returned v)/\∃xs L,S xs/\J xs L W'
def Qh {α:Type} (B:Nat) (w0:World) (I:List α->(Nat->Prop)->World->Prop) (xs:List α) (L Lk:Nat->Prop) (W:World):Exit->Act->World->Prop
 | .normal,_,W'=>KeepsFrom B W W'/\Below w0.heap.size w0 W'/\(∀b,Lk b->W'.heap[b]? = W.heap[b]?)/\I xs L W'
 | _,_,_=>False
theorem Jf {α:Type} {F:Fence} {n:Nat} {P:Program} {w:World} {g:Operand} {ps:Array Tmp} {assign body:Code} {Q:Exit->Act->World->Prop} {a:Act}
  (hro:F.round=none) (h1:1<=n) {gf:Nat} {lb:Array Value} (hg:a.eval g=.func (.func gf) #[] lb) (hFg:F.fn gf) (eg:∀args w,(callFunc gf args).run P w=.ok (.enter gf args) w)
  {encs:α->Array Value} {Gv:α->(Nat->Prop)->World->Prop} {Gb:α->Nat->Prop} {S:List α->Prop} {N:Nat} {w0:World} {L0:Nat->Prop} (hseq:VS F (n - 1) P gf lb encs Gv Gb S N w0 w L0) (ux:∀b,L0 b->b<w.heap.size) (hGb:∀x L W b,Gv x L W->Gb x b->∃o,W.heap[b]? = some o/\o.isCells=true) (hb0:Below w0.heap.size w0 w) (hps:∀x,(encs x).size=ps.size)
  (VT:∀x L,OwnFrom w.heap.size (fun (_:Unit) W=>Gv x L W))
  (I:List α->(Nat->Prop)->World->Prop) (hA:DJ I) (hI:∀L,OwnFrom w.heap.size (fun s W=>I s L W)) (h0:I [] L0 w) (a₁:α->Act)
  (hassign:∀(l:Nat) (x:α) (W:World) (K:Act->World->Prop),K (a₁ x) W ->
   assign.wpIn (F.inRound l) (n - 1 - 1) P (Exit.then K (fun _ _ _=>False)) { tmps:=(ps.zip (encs x)).foldl (fun t (p,v)=>t.setIfInBounds p v) a.tmps,defers:=[] } W)
  (hbody:∀(l:Nat) (pre:List α) (x:α) (L:Nat->Prop) (W:World),I pre L W->Gv x L W->Below w0.heap.size w0 W->(∀b,L b->w0.heap.size<=b/\b<W.heap.size)->pre.length<N->body.wpIn (F.inRound l) (n - 1 - 1) P (Qh w.heap.size w0 I (pre++[x]) L (fun b=>L b\/Gb x b) W) (a₁ x) W)
  (hdone:∀(D:Nat) (xs:List α) (L:Nat->Prop) (W:World),w.heap.size<=D->S xs->I xs L W->W.heap[D]? = some (.deferred (some []))->Q .normal { a with defers:={ target:=.collected D,args:=#[] }::a.defers } W) :
  (Code.rangeFunc g ps assign body).wpIn F n P Q a w:=by
 refine wpIn_rangeFunc ?_;intro fn hfn;rw [hro];obtain ⟨rec,jb⟩:∃rec:LoopState->Option Code->Loop,rec=fun st pe=>{ state:=st,pending:=pe,fn,tmps:=a.tmps,params:=ps,assign,body,defers:=w.heap.size }:=⟨_,rfl⟩;obtain ⟨D,hD⟩:∃D,D=w.heap.size:=⟨_,rfl⟩;obtain ⟨W1,hW1⟩:∃W1,(w.alloc (.deferred (some []))).alloc (.loop (rec .ready none))=W1:=⟨_,rfl⟩;have hsz:W1.heap.size=D+2:=by rw [<- hW1,hD];simp
 have JM:W1.heap[D+1]? = some (.loop (rec .ready none)):=by rw [<- hW1,hD];have:=nP (w.alloc (.deferred (some []))) (.loop (rec .ready none));rwa [aN] at this
 have VU:W1.heap[D]? = some (.deferred (some [])):=by rw [<- hW1,hD];exact (uZ _ _ _ (by simp)).trans (nP w _)
 have FU:I [] L0 W1:=by rw [<- hW1];exact (hI _).alloc _ ((hI _).alloc _ h0)
 have hb1:Below w0.heap.size w0 W1:=by rw [<- hW1];exact hb0.trans ((((b7 _ w).alloc (aj _) _).alloc (by simp) _).mono hb0.size)
 have aag:=hb0.size;have FV:∀ {W:World} (l:Nat) (o:Obj),D<=l->Below w0.heap.size w0 W->Below w0.heap.size w0 (W.putObj l o):=fun {W} l o hl hb =>
  ⟨hb.os,hb.tape,hb.output,by have:=hb.size;simpa using this,fun b hbb=>(eA (by omega)).trans (hb.block b hbb)⟩
 refine ⟨D+1,[{ target:=.collected D,args:=#[] }],W1,{ target:=.fn (.func gf) lb,args:=#[.func (.yield (D+1)) #[] #[]] },W1,gf,
  #[.func (.yield (D+1)) #[] #[]]++lb,W1,?_,?_,?_,?_,fun _=>h1,?_⟩
 ·rw [<- hW1,jb,hD];exact run_enterLoop_outer _ _ _ _ _
 ·simp only [resolve,hg]
  simp [go_sem]
 ·intro f' hf';simp [Target.leads] at hf';subst hf';exact hFg
 ·simp [invoke,go_sem,eg]
 ·refine (hseq (D+1) (fun pre L W=>I pre L W/\W.heap[D+1]? = some (.loop (rec .ready none))/\W.heap[D]? = some (.deferred (some []))/\∀b,L b->b≠D/\b≠D+1) W1 hb1 (fun b hb=>⟨ux b hb,by rw [<- hW1];exact (uZ _ _ _ (by have:=ux b hb;simp;omega)).trans (uZ _ _ _ (ux b hb))⟩) (by rw [hsz,<- hD];omega) ?_ ?_ ⟨FU,JM,VU,fun b h=>by have:=ux b h;omega⟩).mono ?_
  ·rintro s L L' A B ⟨h1,h2,h3,h4⟩ hs
   have hlt:=(bq.1 h2).1;refine ⟨hA s L L' A B h1 hs,(hs.block _ hlt fun e=>?_).trans h2,(hs.block _ (by omega) fun e=>?_).trans h3,fun b hb=>?_⟩
   ·have:=h4 _ e;omega
   ·have:=h4 _ e;omega
   ·rcases hs.more b hb with e | e
    ·exact h4 b e.1
    ·omega
  ·rintro pre x L W ⟨hi,hl,hk,uy⟩ FW jh VV hlen
   have hlt:D+1<W.heap.size:=(bq.1 hl).1;have hy:=run_yield (P:=P) (args:=encs x) hl (by rw [jb];exact hps x);rw [jb] at hy;refine ⟨fn,_,assign,body,hy,roundIn_of_wpIn hfn (hassign _ x W _ ⟨_,run_beginRound hl (by rw [jb]),?_⟩)⟩;obtain ⟨W2,hW2⟩:∃W2,W.putObj (D+1) (.loop { rec .ready none with state:=.busy })=W2:=⟨_,rfl⟩;(have hl2:W2.heap[D+1]? = some (.loop { rec .ready none with state:=.busy }):=by rw [<- hW2];exact xm hlt);have hk2:W2.heap[D]? = some (.deferred (some [])):=by rw [<- hW2];exact (eA (by omega)).trans hk
   (have hi2:I pre L W2:=by rw [<- hW2];exact (hI L).putObj _ hi (by omega) hl rfl);(have hg2:Gv x L W2:=by rw [<- hW2];exact (VT x L).putObj (s:=()) _ FW (by omega) hl rfl);(have hs2:W2.heap.size=W.heap.size:=by rw [<- hW2];simp);(have JN:∀b,b≠D+1->W2.heap[b]? = W.heap[b]?:=fun b hb=>by rw [<- hW2];exact eA (by omega));(have Qi:Below w0.heap.size w0 W2:=by rw [<- hW2];exact FV _ _ (by omega) jh);rw [hW2];refine wpIn_mono (hbody _ pre x L W2 hi2 hg2 Qi (fun b hb=>by rw [hs2];exact VV b hb) hlen) ?_;rintro e a3 W3 hp;cases e with
   | normal =>
    obtain ⟨hk3,hb3,hL3,DK⟩:=hp;have nt:=hk3.same _ _ (by omega) hl2 rfl;have hk4:=hk3.same _ _ (by omega) hk2 rfl;have hend:=run_endRound (P:=P) none nt;rw [jb] at hend;refine ⟨_,_,hend,rfl,⟨?_,?_,?_,uy⟩,FV _ _ (by omega) hb3,?_,fun b hb=>?_⟩
    ·exact (hI L).putObj _ DK (by omega) nt rfl
    ·rw [jb];exact xm (bq.1 nt).1
    ·exact (eA (by omega)).trans hk4
    ·have:=hk3.size;simp;omega
    ·have hne:b≠D+1:=by
      rcases hb with hb | hb
      ·have:=uy b hb;omega
      ·rintro rfl
       obtain ⟨o,h1,h2⟩:=hGb _ _ _ _ FW hb
       rw [hl] at h1;injection h1 with h1;subst h1;cases h2
     exact (eA (by omega)).trans ((hL3 b hb).trans (JN b (by omega)))
   | ret=>exact hp.elim
   | exit id=>exact hp.elim
   | goto t=>exact hp.elim
   | panic ch=>exact hp.elim
   | outgrown=>exact hp.elim
  ·rintro e W2 ⟨⟨v,rfl⟩,xs,L,hS,hi,hl,hk,uy⟩
   exact ⟨none,_,by have:=run_endLoop (P:=P) hl (by rw [jb];simp);rw [jb] at this;exact this,hdone D xs L _ (by omega) hS ((hI L).putObj _ hi (by omega) hl rfl) ((eA (by omega)).trans hk)⟩
end
end Go.Proofs.YtfomhlbhcifgbaaGreatDoor
