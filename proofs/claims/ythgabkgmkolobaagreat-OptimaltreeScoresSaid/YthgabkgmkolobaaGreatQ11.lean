/- A range over a function whose iterator owns blocks: between two yields it may write what .. -/
import Derived.RangeFuncWrites
import Derived.StillTailTactics
import Derived.Test.YthgabkgmkolobaaGreatQ10
set_option maxRecDepth 100000
namespace Go.Proofs.YthgabkgmkolobaaGreat
section
open Go Go.RowKit Go.Deep
structure Sv (L L':Nat→Prop) (W W':World):Prop where
 os:W'.os=W.os
 tape:W'.tape=W.tape
 output:W'.output=W.output
 size:W.heap.size≤W'.heap.size
 block:∀b,b<W.heap.size→¬L b→W'.heap[b]? = W.heap[b]?
 more:∀b,L' b→(L b∧b<W.heap.size)∨(W.heap.size≤b∧b<W'.heap.size)
def Ui {α:Type} (J:List α→(Nat→Prop)→World→Prop):Prop:=∀s L L' W W',J s L W→Sv L L' W W'→J s L' W'
def Uj {α:Type} (F:Fence) (n:Nat) (P:Program) (g:Nat) (lb:Array Value) (encs:α→Array Value) (Gv:α→(Nat→Prop)→World→Prop) (Gb:α→Nat→Prop) (S:List α→Prop) (N:Nat) (w w9:World) (L0:Nat→Prop):Prop :=
 ∀(l:Nat) (J:List α→(Nat→Prop)→World→Prop) (W:World),Below w.heap.size w W→(∀b,L0 b→b<w9.heap.size∧W.heap[b]? = w9.heap[b]?)→w9.heap.size≤W.heap.size→Ui J →
  (∀pre x L W1,J pre L W1→Gv x L W1→Below w.heap.size w W1→(∀b,L b→w.heap.size≤b∧b<W1.heap.size)→pre.length<N→YieldAt F (n - 1) P l (encs x) W1 fun e W' =>
   e=.returned (.bool true)∧J (pre++[x]) L W'∧Below w.heap.size w W'∧W1.heap.size≤W'.heap.size∧∀b,(L b∨Gb x b)→W'.heap[b]? = W1.heap[b]?) →
  J [] L0 W →
  CallsIn F n P g (#[.func (.yield l) #[] #[]]++lb) W fun e W'=>(∃v,e=.returned v)∧∃xs L,S xs∧J xs L W'
def OE {α:Type} (B:Nat) (w0:World) (I:List α→(Nat→Prop)→World→Prop) (xs:List α) (L Lk:Nat→Prop) (W:World):Exit→Act→World→Prop
 | .normal,_,W'=>KeepsFrom B W W'∧Below w0.heap.size w0 W'∧(∀b,Lk b→W'.heap[b]? = W.heap[b]?)∧I xs L W'
 | _,_,_=>False
theorem G7 {α:Type} {F:Fence} {n:Nat} {P:Program} {w:World} {g:Operand} {ps:Array Tmp} {assign body:Code} {Q:Exit→Act→World→Prop} {a:Act}
  (hro:F.round=none) (h1:1≤n) {gf:Nat} {lb:Array Value} (hg:a.eval g=.func (.func gf) #[] lb) (hFg:F.fn gf) (eg:∀args w,(callFunc gf args).run P w=.ok (.enter gf args) w)
  {encs:α→Array Value} {Gv:α→(Nat→Prop)→World→Prop} {Gb:α→Nat→Prop} {S:List α→Prop} {N:Nat} {w0:World} {L0:Nat→Prop} (hseq:Uj F (n - 1) P gf lb encs Gv Gb S N w0 w L0) (Ck:∀b,L0 b→b<w.heap.size) (hGb:∀x L W b,Gv x L W→Gb x b→∃o,W.heap[b]? = some o∧o.isCells=true) (hb0:Below w0.heap.size w0 w) (hps:∀x,(encs x).size=ps.size)
  (hGv:∀x L,OwnFrom w.heap.size (fun (_:Unit) W=>Gv x L W))
  (I:List α→(Nat→Prop)→World→Prop) (hA:Ui I) (hI:∀L,OwnFrom w.heap.size (fun s W=>I s L W)) (h0:I [] L0 w) (a₁:α→Act)
  (hassign:∀(l:Nat) (x:α) (W:World) (K:Act→World→Prop),K (a₁ x) W →
   assign.wpIn (F.inRound l) (n - 1 - 1) P (Exit.then K (fun _ _ _=>False)) { tmps:=(ps.zip (encs x)).foldl (fun t (p,v)=>t.setIfInBounds p v) a.tmps,defers:=[] } W)
  (hbody:∀(l:Nat) (pre:List α) (x:α) (L:Nat→Prop) (W:World),I pre L W→Gv x L W→Below w0.heap.size w0 W→(∀b,L b→w0.heap.size≤b∧b<W.heap.size)→pre.length<N→body.wpIn (F.inRound l) (n - 1 - 1) P (OE w.heap.size w0 I (pre++[x]) L (fun b=>L b∨Gb x b) W) (a₁ x) W)
  (hdone:∀(D:Nat) (xs:List α) (L:Nat→Prop) (W:World),w.heap.size≤D→S xs→I xs L W→W.heap[D]? = some (.deferred (some []))→Q .normal { a with defers:={ target:=.collected D,args:=#[] }::a.defers } W) :
  (Code.rangeFunc g ps assign body).wpIn F n P Q a w:=by
 refine wpIn_rangeFunc ?_;intro fn hfn;rw [hro];obtain ⟨rec,wS⟩:∃rec:LoopState→Option Code→Loop,rec=fun st pe=>{ state:=st,pending:=pe,fn,tmps:=a.tmps,params:=ps,assign,body,defers:=w.heap.size }:=⟨_,rfl⟩;obtain ⟨D,hD⟩:∃D,D=w.heap.size:=⟨_,rfl⟩;obtain ⟨W1,hW1⟩:∃W1,(w.alloc (.deferred (some []))).alloc (.loop (rec .ready none))=W1:=⟨_,rfl⟩;have hsz:W1.heap.size=D+2:=by rw [← hW1,hD];simp
 have QZ:W1.heap[D+1]? = some (.loop (rec .ready none)):=by rw [← hW1,hD];have:=World.alloc_heap_new (w.alloc (.deferred (some []))) (.loop (rec .ready none));rwa [World.size_alloc] at this
 have Rg:W1.heap[D]? = some (.deferred (some [])):=by rw [← hW1,hD];exact (Below.heap_alloc _ _ _ (by simp)).trans (World.alloc_heap_new w _)
 have hI1:I [] L0 W1:=by rw [← hW1];exact (hI _).alloc _ ((hI _).alloc _ h0)
 have hb1:Below w0.heap.size w0 W1:=by rw [← hW1];exact hb0.trans ((((Below.refl _ w).alloc (Nat.le_refl _) _).alloc (by simp) _).mono hb0.size)
 have hb0s:=hb0.size;have Uk:∀ {W:World} (l:Nat) (o:Obj),D≤l→Below w0.heap.size w0 W→Below w0.heap.size w0 (W.putObj l o):=fun {W} l o hl hb =>
  ⟨hb.os,hb.tape,hb.output,by have:=hb.size;simpa using this,fun b hbb=>(World.putObj_heap_other (by omega)).trans (hb.block b hbb)⟩
 refine ⟨D+1,[{ target:=.collected D,args:=#[] }],W1,{ target:=.fn (.func gf) lb,args:=#[.func (.yield (D+1)) #[] #[]] },W1,gf,
  #[.func (.yield (D+1)) #[] #[]]++lb,W1,?_,?_,?_,?_,fun _=>h1,?_⟩
 ·rw [← hW1,wS,hD];exact run_enterLoop_outer _ _ _ _ _
 ·simp only [resolve,hg]
  simp [go_sem]
 ·intro f' hf';simp [Target.leads] at hf';subst hf';exact hFg
 ·simp [invoke,go_sem,eg]
 ·refine (hseq (D+1) (fun pre L W=>I pre L W∧W.heap[D+1]? = some (.loop (rec .ready none))∧W.heap[D]? = some (.deferred (some []))∧∀b,L b→b≠D∧b≠D+1) W1 hb1 (fun b hb=>⟨Ck b hb,by rw [← hW1];exact (Below.heap_alloc _ _ _ (by have:=Ck b hb;simp;omega)).trans (Below.heap_alloc _ _ _ (Ck b hb))⟩) (by rw [hsz,← hD];omega) ?_ ?_ ⟨hI1,QZ,Rg,fun b h=>by have:=Ck b h;omega⟩).mono ?_
  ·rintro s L L' A B ⟨h1,h2,h3,h4⟩ hs
   have hlt:=(Array.getElem?_eq_some_iff.1 h2).1;refine ⟨hA s L L' A B h1 hs,(hs.block _ hlt fun e=>?_).trans h2,(hs.block _ (by omega) fun e=>?_).trans h3,fun b hb=>?_⟩
   ·have:=h4 _ e;omega
   ·have:=h4 _ e;omega
   ·rcases hs.more b hb with e | e
    ·exact h4 b e.1
    ·omega
  ·rintro pre x L W ⟨hi,hl,hk,IA⟩ LB gp hLw hlen
   have hlt:D+1<W.heap.size:=(Array.getElem?_eq_some_iff.1 hl).1;have hy:=run_yield (P:=P) (args:=encs x) hl (by rw [wS];exact hps x);rw [wS] at hy;refine ⟨fn,_,assign,body,hy,roundIn_of_wpIn hfn (hassign _ x W _ ⟨_,run_beginRound hl (by rw [wS]),?_⟩)⟩;obtain ⟨W2,hW2⟩:∃W2,W.putObj (D+1) (.loop { rec .ready none with state:=.busy })=W2:=⟨_,rfl⟩;(have hl2:W2.heap[D+1]? = some (.loop { rec .ready none with state:=.busy }):=by rw [← hW2];exact World.putObj_heap_same hlt);have hk2:W2.heap[D]? = some (.deferred (some [])):=by rw [← hW2];exact (World.putObj_heap_other (by omega)).trans hk
   (have hi2:I pre L W2:=by rw [← hW2];exact (hI L).putObj _ hi (by omega) hl rfl);(have hg2:Gv x L W2:=by rw [← hW2];exact (hGv x L).putObj (s:=()) _ LB (by omega) hl rfl);(have hs2:W2.heap.size=W.heap.size:=by rw [← hW2];simp);(have ho2:∀b,b≠D+1→W2.heap[b]? = W.heap[b]?:=fun b hb=>by rw [← hW2];exact World.putObj_heap_other (by omega));(have Ek:Below w0.heap.size w0 W2:=by rw [← hW2];exact Uk _ _ (by omega) gp);rw [hW2];refine wpIn_mono (hbody _ pre x L W2 hi2 hg2 Ek (fun b hb=>by rw [hs2];exact hLw b hb) hlen) ?_;rintro e a3 W3 hp;cases e with
   | normal =>
    obtain ⟨hk3,hb3,hL3,Rh⟩:=hp;have Cl:=hk3.same _ _ (by omega) hl2 rfl;have hk4:=hk3.same _ _ (by omega) hk2 rfl;have hend:=run_endRound (P:=P) none Cl;rw [wS] at hend;refine ⟨_,_,hend,rfl,⟨?_,?_,?_,IA⟩,Uk _ _ (by omega) hb3,?_,fun b hb=>?_⟩
    ·exact (hI L).putObj _ Rh (by omega) Cl rfl
    ·rw [wS];exact World.putObj_heap_same (Array.getElem?_eq_some_iff.1 Cl).1
    ·exact (World.putObj_heap_other (by omega)).trans hk4
    ·have:=hk3.size;simp;omega
    ·have hne:b≠D+1:=by
      rcases hb with hb | hb
      ·have:=IA b hb;omega
      ·rintro rfl
       obtain ⟨o,h1,h2⟩:=hGb _ _ _ _ LB hb
       rw [hl] at h1;injection h1 with h1;subst h1;cases h2
     exact (World.putObj_heap_other (by omega)).trans ((hL3 b hb).trans (ho2 b (by omega)))
   | ret=>exact hp.elim
   | exit id=>exact hp.elim
   | goto t=>exact hp.elim
   | panic ch=>exact hp.elim
   | outgrown=>exact hp.elim
  ·rintro e W2 ⟨⟨v,rfl⟩,xs,L,hS,hi,hl,hk,IA⟩
   exact ⟨none,_,by have:=run_endLoop (P:=P) hl (by rw [wS];simp);rw [wS] at this;exact this,hdone D xs L _ (by omega) hS ((hI L).putObj _ hi (by omega) hl rfl) ((World.putObj_heap_other (by omega)).trans hk)⟩
end
section
open Go.RowKit Go.Deep
theorem Ex:(Tryz.prog.info? 117).map (·.size)=some 2:=by kernel_rfl
theorem OG:liesAt Tryz.prog Tryz.prog.depth 117 (2 / Tryz.prog.cellsOf 117) 0 117 1=true:=by kernel_rfl
theorem Ey:(Tryz.prog.info? 5).map (fun i=>(i.zero,i.size,i.bytes))=some (some (.int .u8 0),1,1):=by kernel_rfl
theorem LC:(117:TypeId)≠5:=by decide
set_option maxHeartbeats 1000000 in
theorem Sw (b:Nat) (w:World) (h0:w.cell? ⟨b,0,none⟩=some (.pointer (some ⟨b,0,none⟩))) :
  Calls Tryz.prog 140 #[.pointer (some ⟨b,0,none⟩)] w fun e w'=>e=.returned (.tuple #[])∧w'=w:=by
 obtain ⟨j,hj,_⟩:=Option.map_eq_some_iff.1 Ex
 go_enter Tryz.func140,Tryz.ntmps140
 go_wp2_with fail;rw [Lib.run_neq_ptr_same w _ Tryz.underlying115 hj];go_wp2_with fail
 go_end0
 exact ⟨rfl,rfl⟩
set_option maxHeartbeats 1000000 in
theorem OH (b:Nat) (w:World) (h0:w.cell? ⟨b,0,none⟩=some (.pointer none)) (hsh:w.shape? b=some (117,2)) (hfz:w.frozen? ⟨b,0,none⟩=false) :
  Calls Tryz.prog 140 #[.pointer (some ⟨b,0,none⟩)] w fun e w'=>e=.returned (.tuple #[])∧w'=w.setCell ⟨b,0,none⟩ (.pointer (some ⟨b,0,none⟩)):=by
 obtain ⟨j,hj,hjs⟩:=Option.map_eq_some_iff.1 Ex
 go_enter Tryz.func140,Tryz.ntmps140
 go_wp2_with fail;rw [Lib.run_to_unsafe w ⟨b,0,none⟩ Tryz.underlying115 Tryz.underlying205 hj (by rw [hjs];decide) hsh (Nat.zero_lt_succ 1)];simp only [Result.andThen];rw [Oper.upon_value];go_wp2_with fail;rw [run_callFunc_extern Tryz.func198 (by kernel_rfl) (by kernel_rfl) (by kernel_rfl) (e:=Extern.AbiNoEscape.same) (by kernel_rfl)];rw [Lib.run_noEscape];simp only [Result.andThen];rw [Oper.upon_value];go_wp2_with fail;rw [Lib.run_from_unsafe w ⟨b,0,none⟩ Tryz.underlying205 Tryz.underlying115 hj hsh OG];simp only [Result.andThen];rw [Oper.upon_value];go_wp2_with fail
 go_end0
 exact ⟨rfl,rfl⟩
theorem Ul (B b:Nat) (bs:List Value) (w:World) (h:Lib.IsBuilderF 117 5 B b bs w) :
  Calls Tryz.prog 140 #[.pointer (some ⟨b,0,none⟩)] w fun e w'=>e=.returned (.tuple #[])∧(Lib.BuilderAtF 117 5 B b (.pointer (some ⟨b,0,none⟩)) bs w'∧Below B w w'∧Lib.OthersKept 5 (some b) w w'):=by
 rcases h with h | h
 ·refine (OH b w h.cell0 h.shape h.frozen0).mono ?_
  rintro e w' ⟨rfl,rfl⟩;exact ⟨rfl,h.used _,(Below.refl B w).setCell (p:=⟨b,0,none⟩) h.1 _,(Lib.OthersKept.refl _ _ w).setCell ⟨b,0,none⟩ rfl _⟩
 ·refine (Sw b w h.cell0).mono ?_
  rintro e w' ⟨rfl,rfl⟩;exact ⟨rfl,h,Below.refl B _,Lib.OthersKept.refl _ _ _⟩
set_option maxHeartbeats 2000000 in
theorem Br (B b:Nat) (bs:List Value) (c:Int) (w:World) (h:Lib.IsBuilderF 117 5 B b bs w) (hlen:bs.length+1≤140737488355328) (hBw:B≤w.heap.size) :
  Calls Tryz.prog 92 #[.pointer (some ⟨b,0,none⟩),.int .u8 c] w fun e w'=>e=.returned .nilIface∧(Lib.BuilderAtF 117 5 B b (.pointer (some ⟨b,0,none⟩)) (bs++[.int .u8 c]) w'∧Below B w w'∧Lib.OthersKept 5 (some b) w w'):=by
 obtain ⟨i0,hi,hzz⟩:=Option.map_eq_some_iff.1 Ey;simp only [Prod.mk.injEq] at hzz;obtain ⟨hz0,hz1,hz2⟩:=hzz;have Lm:=aa (Ul B b bs w h);clear h
 go_enter Tryz.func92,Tryz.ntmps92
 go_wp2_with fail;refine Lm.out.mono ?_;rintro e w1 ⟨rfl,h1,hb1,hk1⟩;obtain ⟨hB,v,hbk,hown,hne⟩:=h1;have c0:w1.cell? ⟨b,0,none⟩=some (.pointer (some ⟨b,0,none⟩)):=by rw [Lib.cell_of_heap hbk];rfl
 have c1:w1.cell? ⟨b,1,none⟩=some v:=by rw [Lib.cell_of_heap hbk];rfl
 go_wp2_with (at_builtin;refine wpList_append_ownF _ rfl _ _ 77 rfl B 5 i0 (.int .u8 0) 1 1 Tryz.underlying77 hi hz0 hz1 hz2 rfl (by decide) _ _ _ rfl (hown.alloc _) ⟨w1.heap.size,0,none⟩ 1 1 [.int .u8 c] rfl rfl ?c1 ?c2 ?c3 ?c4 ?c5 ?_)
 case c1 =>
  intro j u hj
  match j,hj with
  | 0,hj=>simp at hj;subst hj;simp [Addr.add]
 case c2=>intro u hu;simp at hu;subst hu;rfl
 case c3=>unfold maxLen;omega
 case c4=>omega
 case c5=>have:=hb1.size;simp;omega
 intro v' w2 hown' hgrow _;have hlt:b<w1.heap.size:=by
  rcases Nat.lt_or_ge b w1.heap.size with h' | h'
  ·exact h'
  ·simp [Array.getElem?_eq_none h'] at hbk
 have hb2:w2.heap[b]? = some (.cells #[.pointer (some ⟨b,0,none⟩),v] 117 (0,0)):=by rw [hgrow.block b (by simp;omega) (fun e=>hne e.symm),Lib.alloc_old w1 _ b hlt];exact hbk
 have d0:w2.cell? ⟨b,0,none⟩=some (.pointer (some ⟨b,0,none⟩)):=by rw [Lib.cell_of_heap hb2];rfl
 have d1:w2.cell? ⟨b,1,none⟩=some v:=by rw [Lib.cell_of_heap hb2];rfl
 have f1:w2.frozen? ⟨b,1,none⟩=false:=Lib.frozen_of_heap hb2 1;obtain ⟨g,cap,rfl⟩:∃g cap,v'=.slice (some ⟨g,0,none⟩) (bs.length+1) cap:=by
  rcases hown'.2 with ⟨_,h0⟩ | ⟨g,cap,cur,fz,hv,_⟩
  ·omega
  ·exact ⟨g,cap,hv⟩
 go_wp2_with fail;go_ret;refine ⟨rfl,?_,?_,((hk1.alloc _).grown hgrow (Lib.ownsRowF_kind (hown.alloc _))).setCell ⟨b,1,none⟩ rfl _⟩
 ·exact Lib.BuilderAtF.put (T:=117) (e:=5) hB hb2 (bs':=bs++[.int .u8 c]) (by simpa using hown') LC
 ·exact ((hb1.alloc (by have:=hb1.size;omega) _).grown hgrow (by have:=hb1.size;simp;omega) (fun k hk=>(hown.lt k hk).1)).setCell (p:=⟨b,1,none⟩) hB _
set_option maxHeartbeats 2000000 in
theorem Um (B b:Nat) (bs:List Value) (s:ByteArray) (w:World) (h:Lib.IsBuilderF 117 5 B b bs w) (hlen:bs.length+s.size≤140737488355328) (hBw:B≤w.heap.size) :
  Calls Tryz.prog 91 #[.pointer (some ⟨b,0,none⟩),.string s] w fun e w'=>e=.returned (.tuple #[.int .i64 s.size,.nilIface])∧(Lib.BuilderAtF 117 5 B b (.pointer (some ⟨b,0,none⟩)) (bs++Lib.strCells s) w'∧Below B w w'∧Lib.OthersKept 5 (some b) w w'):=by
 obtain ⟨i0,hi,hzz⟩:=Option.map_eq_some_iff.1 Ey;simp only [Prod.mk.injEq] at hzz;obtain ⟨hz0,hz1,hz2⟩:=hzz;have Lm:=aa (Ul B b bs w h);clear h
 go_enter Tryz.func91,Tryz.ntmps91
 go_wp2_with fail;refine Lm.out.mono ?_;rintro e w1 ⟨rfl,h1,hb1,hk1⟩;obtain ⟨hB,v,hbk,hown,hne⟩:=h1;have c0:w1.cell? ⟨b,0,none⟩=some (.pointer (some ⟨b,0,none⟩)):=by rw [Lib.cell_of_heap hbk];rfl
 have c1:w1.cell? ⟨b,1,none⟩=some v:=by rw [Lib.cell_of_heap hbk];rfl
 go_wp2_with (at_builtin;refine Lib.wpList_append_own_stringF _ rfl _ _ 77 9 rfl B 5 i0 Tryz.underlying77 Tryz.underlying9 hi hz0 hz1 hz2 _ _ _ rfl hown s rfl ?c3 ?c4 ?c5 ?_)
 case c3=>unfold maxLen;omega
 case c4=>omega
 case c5=>have:=hb1.size;omega
 intro v' w2 hown' hgrow _;have hlt:b<w1.heap.size:=by
  rcases Nat.lt_or_ge b w1.heap.size with h' | h'
  ·exact h'
  ·simp [Array.getElem?_eq_none h'] at hbk
 have hb2:w2.heap[b]? = some (.cells #[.pointer (some ⟨b,0,none⟩),v] 117 (0,0)):=by rw [hgrow.block b hlt (fun e=>hne e.symm)];exact hbk
 have d0:w2.cell? ⟨b,0,none⟩=some (.pointer (some ⟨b,0,none⟩)):=by rw [Lib.cell_of_heap hb2];rfl
 have d1:w2.cell? ⟨b,1,none⟩=some v:=by rw [Lib.cell_of_heap hb2];rfl
 have f1:w2.frozen? ⟨b,1,none⟩=false:=Lib.frozen_of_heap hb2 1;obtain ⟨ao,n',cap,rfl⟩:∃ao n' cap,v'=.slice ao n' cap:=by
  rcases hown'.2 with ⟨hv,_⟩ | ⟨g,cap,cur,fz,hv,_⟩
  ·exact ⟨_,_,_,hv⟩
  ·exact ⟨_,_,_,hv⟩
 go_wp2_with fail;go_ret2;refine ⟨rfl,?_,?_,(hk1.grown hgrow (Lib.ownsRowF_kind hown)).setCell ⟨b,1,none⟩ rfl _⟩
 ·exact Lib.BuilderAtF.put (T:=117) (e:=5) hB hb2 (bs':=bs++Lib.strCells s) (by simpa [Lib.strCells_length] using hown') LC
 ·exact (hb1.grown hgrow (by have:=hb1.size;omega) (fun k hk=>(hown.lt k hk).1)).setCell (p:=⟨b,1,none⟩) hB _
theorem Un (B b:Nat) (l:List UInt8) (w:World) (h:Lib.IsBuilderF 117 5 B b (Lib.byteCells l) w) (hBw:B≤w.heap.size) :
  Calls Tryz.prog 94 #[.pointer (some ⟨b,0,none⟩)] w fun e w'=>e=.returned (.string ⟨l.toArray⟩)∧(Lib.IsBuilderF 117 5 B b (Lib.byteCells l) w'∧Below B w w'∧Lib.OthersKept 5 (some b) w w') :=
 Any.Builder_String_any_k Tryz.bldG ⟨⟨by kernel_rfl,by kernel_rfl⟩,Tryz.underlying5,Tryz.isAgg5,Tryz.sizeOf5,Tryz.zeroValue5,by kernel_rfl,by kernel_rfl,by kernel_rfl,by decide⟩ B b l w h hBw
end
section
open Go.RowKit Go.Deep
def iO (xs:List (List Int)) (k:Nat):Int:=if (gl xs k).length≠(gl xs 0).length then 9 else if fo (gl xs k) (-1) 16 then 2 else 0
def cw (xs:List (List Int)):Int:=if xs.length=0 then 5 else if 32<xs.length∨4096<(gl xs 0).length then 4 else firstNZ (iO xs) xs.length
set_option maxHeartbeats 400000 in
theorem JU (w:World) (x:Int):y6 125 #[] #[.int .i64 x] (.bool (decide (x < -1) || decide (16≤x))) w:=by
 unfold y6
 go_enter Tryz.func125,Tryz.ntmps125
 by_cases hx:x < -1
 ·go_wp2_with fail
  go_ret;exact ⟨aR (by simp [hx]),rfl⟩
 ·go_wp2_with fail
  go_ret;exact ⟨aR (by simp;omega),rfl⟩
set_option maxHeartbeats 1000000 in
theorem Cm (S:Nat→Prop) (w:World) (v:Value) (xs:List (List Int)) (h:aQ S w v xs) (hn:xs.length≤1000000) (hr:∀k,(gl xs k).length≤1000000) :
  Calls Tryz.prog 70 #[v] w fun e w'=>e=.returned (.int .i64 (cw xs))∧w=w':=by
 have b8:cw xs=if xs.length=0 then 5 else if 32<xs.length∨4096<(gl xs 0).length then 4 else firstNZ (iO xs) xs.length:=rfl
 have HF:=aa b8;obtain ⟨p,cap,rfl,hcap,_⟩:=bS h;have H:=aa h;clear b8 h;by_cases h0:xs.length=0
 ·have HX:Hid (xs.length=0):=h0
  have h0':((xs.length:Int)==0)=true:=by simp [h0]
  clear h0
  go_enter Tryz.func70,Tryz.ntmps70
  go_wp2_with fail;go_ret;exact ⟨aH (by rw [HF.out,if_pos HX.out]),rfl⟩
 have h0':((xs.length:Int)==0)=false:=by simpa using h0
 have Uo:0<xs.length:=by omega
 by_cases h1:32<xs.length
 ·go_enter Tryz.func70,Tryz.ntmps70
  go_wp2_with fail;go_ret;exact ⟨aH (by rw [HF.out,if_neg h0,if_pos (.inl h1)]),rfl⟩
 obtain ⟨b,off,q0,c0,rfl,hc0,gP⟩:=eM H.out Uo;have OI:w.cell? ⟨b,off,none⟩=some (.slice q0 (gl xs 0).length c0):=by simpa using hc0
 have JV:=hr 0;clear hc0 gP;by_cases h2:4096<(gl xs 0).length
 ·go_enter Tryz.func70,Tryz.ntmps70
  go_wp2_with fail;go_ret;exact ⟨aH (by rw [HF.out,if_neg h0,if_pos (.inr h2)]),rfl⟩
 have pH:Hid (cw xs=firstNZ (iO xs) xs.length):=by unfold Hid;rw [HF.out,if_neg h0,if_neg (by omega)]
 have HR:=aa hr;have LD:Hid (∀k,iO xs k=if (gl xs k).length≠(gl xs 0).length then 9 else if fo (gl xs k) (-1) 16 then 2 else 0):=fun _=>rfl;clear HF hr;generalize (gl xs 0).length=l0 at *
 go_enter Tryz.func70,Tryz.ntmps70
 go_wp2_with fail
 go_loop [4,22] (fun _ i=>∃k:Nat,k≤xs.length∧i=.int .i64 k∧Hid (∀j,j<k→iO xs j=0)) (fun _ i=>xs.length - (intOf i).toNat)
 case atStart=>exact ⟨0,Nat.zero_le _,rfl,fun j hj=>absurd hj (Nat.not_lt_zero _)⟩
 case round =>
  obtain ⟨k,hk,rfl,hd⟩:=hrel;by_cases hlt:k<xs.length
  ·obtain ⟨b',off',qk,ck,e1,ni,hik⟩:=eM H.out hlt
   injection e1 with e1;injection e1 with e1 e2;subst e1;subst e2;have pI:=aa (zV 125 #[] (enters_of Tryz.func125 (by kernel_rfl) rfl) S w _ (gl xs k).length _ (fun j=>decide (gi (gl xs k) j < -1) || decide (16≤gi (gl xs k) j)) hik (HR.out k) (fun j _=>JU w (gi (gl xs k) j)));have bU:Hid (fo (gl xs k) (-1) 16=(List.range (gl xs k).length).any fun j=>decide (gi (gl xs k) j < -1) || decide (16≤gi (gl xs k) j)):=rfl;have HK:=aa (LD.out k);clear hik;by_cases kS:(gl xs k).length=l0
   ·have eU:(((gl xs k).length:Int) != (l0:Int))=false:=by simp [kS]
    have dm:=aa kS;clear kS;go_wp2_with fail;refine pI.out.mono ?_;rintro e w' ⟨rfl,rfl⟩;rw [← bU.out];by_cases nj:fo (gl xs k) (-1) 16=true
    ·have nu:=aa nj
     rw [nj];clear nj;go_wp2_with fail;go_ret;(have sV:iO xs k=2:=by rw [HK.out,if_neg (fun e=>e dm.out),if_pos nu.out]);exact ⟨aH (by rw [pH.out,fk hlt hd.out (by rw [sV];decide),sV]),rfl⟩
    ·have Uq:fo (gl xs k) (-1) 16=false:=by simpa using nj
     have nu:=aa nj;rw [Uq];clear nj Uq;go_wp2_with fail
     go_round
     case rel=>exact ⟨k+1,by omega,by go_num,fun j hj=>if e:j=k then by subst e;rw [HK.out,if_neg (fun e=>e dm.out),if_neg nu.out] else hd.out j (by omega)⟩
     case measure=>simp [intOf];omega
   ·have eU:(((gl xs k).length:Int) != (l0:Int))=true:=by simp;omega
    have dm:=aa kS;clear kS;go_wp2_with fail;go_ret;(have sV:iO xs k=9:=by rw [HK.out,if_pos dm.out]);exact ⟨aH (by rw [pH.out,fk hlt hd.out (by rw [sV];decide),sV]),rfl⟩
  ·obtain rfl:k=xs.length:=by omega
   clear hlt;go_wp2_with fail;go_ret;exact ⟨aH (by rw [pH.out,dW hd.out]),rfl⟩
end
section
open Go.RowKit Go.Deep
theorem wT {S:Nat→Prop} {w w':World} (h:Kept S w w') {b o:Nat} {v:Value} (hS:S b) (hc:w.cell? ⟨b,o,none⟩=some v):w'.cell? ⟨b,o,none⟩=some v:=by
 rw [World.cell?_of_block (a:=⟨b,o,none⟩) (h b hS (World.block_lt_of_cell? w _ hc))];exact hc
end
section
open Go.RowKit Go.Deep
theorem OJ {xs ys:List Int} (hl:xs.length=ys.length) (h:∀j,j<xs.length→gi xs j=gi ys j):xs=ys:=by
 refine List.ext_getElem hl fun i h1 h2=>?_;have:=h i h1;simpa [gi,h1,h2] using this
def LF (w:World) (b:Bool) (e:Ending) (w':World):Prop:=e=.returned (.bool b)∧∃n,w'=w.drewN n
set_option maxHeartbeats 400000 in
theorem G8 (S T:Nat→Prop) (w:World) (v u:Value) (xs ys:List Int) (h:aj S w v xs) (h2:aj T w u ys) (hn:xs.length≤1000000) (hn2:ys.length≤1000000) :
  Calls Tryz.prog 24 #[v,u] w (LF w (decide (xs=ys))):=by
 obtain ⟨p,cap,rfl,hcap,_⟩:=aC.open h;obtain ⟨q,cr,rfl,mD,_⟩:=aC.open h2;have HX:Hid (aj S w (.slice p xs.length cap) xs):=h;have HY:Hid (aj T w (.slice q ys.length cr) ys):=h2;clear h h2;by_cases hl:xs.length=ys.length
 ·have eU:((xs.length:Int) != ys.length)=false:=by simp [hl]
  have HL:=aa hl;clear hl
  go_enter Tryz.func24,Tryz.ntmps24
  go_wp2_with fail
  go_loopw [5,13] (fun _ i wr=>∃k n:Nat,k≤xs.length∧i=.int .i64 k∧wr=w.drewN n∧Hid (∀j,j<k→gi xs j=gi ys j)) (fun _ i _=>xs.length - (intOf i).toNat)
  case atStart=>exact ⟨0,0,Nat.zero_le _,rfl,rfl,fun j hj=>absurd hj (Nat.not_lt_zero _)⟩
  case round =>
   obtain ⟨k,n,hk,rfl,rfl,hd⟩:=hrel;by_cases hlt:k<xs.length
   ·have hlt2:k<ys.length:=by rw [← HL.out];exact hlt
    obtain ⟨b,off,rfl,hc⟩:=bQ HX.out hlt;obtain ⟨b2,off2,rfl,hc2⟩:=bQ HY.out hlt2;(have i1:(0:Int)≤(k:Int):=by omega);(have i2:(k:Int)<(xs.length:Int):=by omega);(have i3:(k:Int)<(ys.length:Int):=by omega);generalize hx:gi xs k=x at *;generalize hy:gi ys k=y at *;have Ae:=aa hx;have LG:=aa hy;clear hx hy;by_cases hxy:x=y
    ·have OL:(x != y)=false:=by simp [hxy]
     have qH:=aa hxy;clear hxy;go_wp2_with fail;(go_quiet (fail));go_wp2_with fail
     go_roundw
     case rel=>exact ⟨k+1,n+nq,by omega,by go_num,rfl,fun j hj=>if e:j=k then by subst e;rw [Ae.out,LG.out,qH.out] else hd.out j (by omega)⟩
     case measure=>simp [intOf];omega
    ·have OL:(x != y)=true:=by simpa using hxy
     have qH:=aa hxy;clear hxy;go_wp2_with fail;(go_quiet (fail));go_wp2_with fail;go_ret;refine ⟨aR ?_,n+nq,by rw [World.drewN_drewN]⟩;rw [eq_comm,decide_eq_false_iff_not];rintro rfl;exact qH.out (by rw [← Ae.out,← LG.out])
   ·obtain rfl:k=xs.length:=by omega
    clear hlt hk;have hex:xs=ys:=OJ HL.out hd.out;have Ez:Hid (decide (xs=ys)=true):=decide_eq_true hex;clear hex;go_wp2_with fail;go_ret;exact ⟨aR (by rw [Ez.out]),n,rfl⟩
 ·have eU:((xs.length:Int) != ys.length)=true:=by simp;omega
  have HL:=aa hl;clear hl
  go_enter Tryz.func24,Tryz.ntmps24
  go_wp2_with fail;go_ret;refine ⟨aR ?_,0,rfl⟩;rw [eq_comm,decide_eq_false_iff_not];rintro rfl;exact HL.out rfl
end
end Go.Proofs.YthgabkgmkolobaaGreat
