/- The contracts of parsimony.unit and Unit. The contract of phylotree.below: an iterator .. -/
import Derived.RangeFuncKeeps
import Derived.Test.YthgabkgmkolobaaGreatQ18
set_option maxRecDepth 100000
namespace Go.Proofs.YthgabkgmkolobaaGreat
section
open Go.RowKit Go.Deep
def EZ (w wr:World) (g0 N k:Nat):Prop:=Up w wr∧∃f,wr.rowIs g0 26 N f∧∀i,i<k→aj (fun b=>b≠g0) wr (f i) (dU N i)
theorem E0 {N k j:Nat} (hj:j<N):(if j=k then Value.int .i64 0 else if j<N then .int .i64 1 else .int .i64 0)=.int .i64 (gi (dU N k) j):=by
 rw [zU hj];unfold oB;by_cases h:j=k
 ·rw [if_pos h,if_pos h.symm]
 ·rw [if_neg h,if_pos hj,if_neg (fun e=>h e.symm)]
theorem EZ.step {w wr w8:World} {g0 g N k:Nat} (h:EZ w wr g0 N k) (hk:k<N) (hu:Up wr w8) (hg:wr.heap.size≤g) (hr:w8.heap[g]? = some (.cells (en N N).toArray 3 (0,0))) (hw0:w.heap.size≤g0) :
  EZ w ((w8.setCell ⟨g0,k,none⟩ (.slice (some ⟨g,0,none⟩) N N)).setCell ⟨g,k,none⟩ (.int .i64 0)) g0 N (k+1):=by
 obtain ⟨b9,f,hrow,hin⟩:=h;have hg0:=hrow.lt;have hne:g0≠g:=by omega
 have Ai:w8.rowIs g0 26 N f:=hrow.of_block (Below.block hu g0 hg0);have Xz:=(Ai.set k (.slice (some ⟨g,0,none⟩) N N)).setOther (a:=⟨g,k,none⟩) hne (.int .i64 0);have hwg:w.heap.size≤g:=Nat.le_trans b9.size hg;refine ⟨((b9.trans hu).setCell (p:=⟨g0,k,none⟩) hw0 _).setCell (p:=⟨g,k,none⟩) hwg _,_,Xz,fun i hi=>?_⟩;by_cases hik:i=k
 ·subst hik
  simp only [if_true];refine ⟨_,_,by rw [gj],by rw [gj];exact Nat.le_refl _,.inr ⟨g,0,rfl,fun e=>hne e.symm,fun j hj=>?_⟩⟩;rw [gj] at hj;show _=some (Value.int .i64 (gi (dU N i) j));rw [Nat.zero_add,← E0 hj];have hb:(w8.setCell ⟨g0,i,none⟩ (.slice (some ⟨g,0,none⟩) N N)).cell? ⟨g,j,none⟩=some (if j<N then .int .i64 1 else .int .i64 0):=by rw [s9 (by simpa using hne)];exact rQ hr hj
  have hb2:(w8.setCell ⟨g0,i,none⟩ (.slice (some ⟨g,0,none⟩) N N)).cell? ⟨g,i,none⟩=some (if i<N then .int .i64 1 else .int .i64 0):=by rw [s9 (by simpa using hne)];exact rQ hr hk
  by_cases e:j=i
  ·subst e;rw [if_pos rfl];exact DJ ⟨_,hb⟩
  ·rw [if_neg e]
   exact (World.cell?_setCell_other _ ⟨g,i,none⟩ ⟨g,j,none⟩ _ (fun h=>e (by injection h with _ h2;exact h2.symm))).trans hb
 ·simp only [hik,if_false]
  refine aj.keep (hin i (by omega)) (w:=wr) fun b hb hl=>?_;have h1:w8.heap[b]? = wr.heap[b]?:=Below.block hu b hl;rw [← h1];exact (blk_setCell_other _ _ _ _ (by simp;omega)).trans (blk_setCell_other _ _ _ _ (by simpa using hb))
set_option maxHeartbeats 1000000 in
theorem UQ (w:World) (N:Nat) (sY:1≤N) (hN:N≤16):Calls Tryz.prog 171 #[.int .i64 N] w (wO w (aS N)):=by
 have hmk:=fun W=>run_make_row' (P:=Tryz.prog) 23 26 (.slice none 0 0) 24 Tryz.underlying23 Tryz.Eu rfl .i64 .i64 N (by omega) (by omega) W;have HO:Hid (EZ w (w.alloc (.cells (madeCells #[.slice none 0 0] N) 26)) w.heap.size N 0):=⟨Up.alloc _ _,_,World.rowIs_made w (.slice none 0 0) N 26,fun _ hi=>absurd hi (Nat.not_lt_zero _)⟩
 go_enter Tryz.func171,Tryz.ntmps171
 go_wp2_with fail;generalize w.alloc (.cells (madeCells #[.slice none 0 0] N) 26)=w1 at *
 go_loopw [9] (fun i wr=>∃k:Nat,k≤N∧i=.int .i64 k∧Hid (EZ w wr w.heap.size N k)) (fun i _=>N - (intOf i).toNat)
 case atStart=>exact ⟨0,Nat.zero_le _,rfl,HO⟩
 case round =>
  obtain ⟨k,hk,rfl,hO⟩:=hrel;obtain ⟨wo,rfl⟩:∃wo:World,wo=wr:=⟨_,rfl⟩;by_cases hlt:k<N
  ·obtain ⟨b9,f,hrow,_⟩:=hO.out
   have hg0:=hrow.lt;have JP:=aa hrow;have YB:=aa (Ew (wo.alloc (.cells #[.int .i64 1] 3)) wo.heap.size 0 N sY (by omega) (aK _ _ _ 0));clear b9 hrow;go_wp2_with fail;refine YB.out.mono ?_;rintro e w8 ⟨g,rfl,hg,hu,hr⟩;rw [World.size_alloc] at hg;have mg:Up wo w8:=(Up.alloc _ _).trans hu;have hst:=hO.out.step hlt mg (by omega) hr (Nat.le_refl _);have Ai:=JP.out.of_block (Below.block mg _ hg0);have hcell:w8.cell? ⟨w.heap.size,k,none⟩=some (f k):=Ai.cell hlt;have hfz:w8.frozen? ⟨w.heap.size,k,none⟩=false:=Ai.frozen k
   (have hcg:w8.cell? ⟨g,k,none⟩=some (.int .i64 1):=by have h:=rQ hr hlt;rw [if_pos hlt] at h;exact h);(have hfg:w8.frozen? ⟨g,k,none⟩=false:=by simp [World.frozen?,hr]);(have hne:w.heap.size≠g:=by omega);(have Bk:g≠w.heap.size:=by omega);have HST:=aa hst;clear hst Ai hr hu mg JP YB hO;go_wp2_with fail
   go_roundw
   case rel=>exact ⟨k+1,by omega,by go_num,HST⟩
   case measure=>simp [intOf];omega
  ·obtain rfl:k=N:=by omega
   go_wp2_with fail;go_ret;obtain ⟨b9,f,hrow,hin⟩:=hO.out;refine ⟨b9,.slice (some ⟨w.heap.size,0,none⟩) k k,rfl,f,⟨_,_,by rw [iq],by rw [iq];exact Nat.le_refl _,.inr ⟨_,0,rfl,trivial,fun i hi=>?_⟩⟩,fun i hi=>?_⟩
   ·rw [iq] at hi
    rw [Nat.zero_add];exact hrow.cell hi
   ·rw [iq] at hi
    rw [y5 hi];exact (hin i hi).sub fun _ _ _=>trivial
end
section
open Go.RowKit Go.Shelf Go.Deep
attribute [local go_sem] Oper.semAt_some
def seqD (F:aU):Nat→Nat→Option Nat→List (Nat×Option Nat)
 | 0,i,p=>[(i,p)]
 | d+1,i,p=>(i,p)::(F.kids i).flatMap fun k=>seqD F d k (some i)
def dH (F:aU) (rk:Nat→Nat) (i:Nat) (p:Option Nat):List (Nat×Option Nat):=seqD F (rk i) i p
theorem gz {α β:Type} {f g:α→List β}:∀ {l:List α},(∀x∈l,f x=g x)→l.flatMap f=l.flatMap g
 | [],_=>rfl
 | x::l,h=>by rw [List.flatMap_cons,List.flatMap_cons,h x (by simp),gz fun y hy=>h y (by simp [hy])]
theorem CC {F:aU} {n:Nat} {rk:Nat→Nat} (h:Wf F n rk):∀ {d e i:Nat} {p:Option Nat},i<n→rk i≤d→rk i≤e→seqD F d i p=seqD F e i p:=by
 intro d
 induction d with
 | zero =>
  intro e i p hi hd he;have hk:F.kids i=[]:=by
   cases hk:F.kids i with
   | nil=>rfl
   | cons k l=>have:=(h.kid i hi k (by rw [hk];simp)).2;omega
  cases e with
  | zero=>rfl
  | succ e=>simp [seqD,hk]
 | succ d ih =>
  intro e i p hi hd he;cases e with
  | zero =>
   have hk:F.kids i=[]:=by
    cases hk:F.kids i with
    | nil=>rfl
    | cons k l=>have:=(h.kid i hi k (by rw [hk];simp)).2;omega
   simp [seqD,hk]
  | succ e =>
   simp only [seqD];congr 1;exact gz fun k hk=>by have:=h.kid i hi k hk;exact ih this.1 (by omega) (by omega)
theorem fO {F:aU} {n:Nat} {rk:Nat→Nat} (h:Wf F n rk) {i:Nat} (hi:i<n) (p:Option Nat):dH F rk i p=(i,p)::(F.kids i).flatMap fun k=>dH F rk k (some i):=by
 have h1:dH F rk i p=seqD F (rk i+1) i p:=CC h hi (Nat.le_refl _) (Nat.le_succ _);rw [h1];simp only [seqD];congr 1;exact gz fun k hk=>by have:=h.kid i hi k hk;exact CC h this.1 (by omega) (Nat.le_refl _)
abbrev kV (n:Nat):={ x:Nat×Option Nat // x.1<n∧∀p,x.2=some p→p<n }
def cA {n:Nat} (l:List (kV n)):List (Nat×Option Nat):=l.map Subtype.val
theorem tj {n:Nat} (l m:List (kV n)):cA (l++m)=cA l++cA m:=by simp [cA]
def optr (A:Nat→Nat):Option Nat→Value
 | none=>.pointer none
 | some p=>.pointer (some ⟨A p,0,none⟩)
def Bw (A:Nat→Nat) {n:Nat} (x:kV n):Array Value:=#[.pointer (some ⟨A x.1.1,0,none⟩),optr A x.1.2]
def KN (T:Nat→Prop) (w w':World):Prop:=KS T w w'∧∀(b:Nat) (c:Array Value) (z:Nat×Nat),w.heap[b]? = some (Obj.cells c 258 z)→w'.heap[b]? = w.heap[b]?
theorem KN.trans {T:Nat→Prop} {a b c:World} (h:KN T a b) (k:KN T b c):KN T a c:=⟨h.1.trans k.1,fun i x z hi=>(k.2 i x z ((h.2 i x z hi).trans hi)).trans (h.2 i x z hi)⟩
def mL (w:World) (b:Nat) (v:Value):Prop:=w.heap[b]? = some (Obj.cells #[v] 258 (0,0))
theorem mL.keep {T:Nat→Prop} {w w':World} {b:Nat} {v:Value} (h:mL w b v) (k:KN T w w'):mL w' b v:=(k.2 b _ _ h).trans h
theorem mL.cell {w:World} {b:Nat} {v:Value} (h:mL w b v):w.cell? ⟨b,0,none⟩=some v:=by
 have h:w.heap[b]? = _:=h;simp [World.cell?,h]
theorem bf.UR {base n:Nat} {A:Nat→Nat} {kv:Nat→Value} {F:aU} {T:Nat→Prop} {w w':World} (h:bf base n A kv F w) (k:KN T w w') (hA:∀i,i<n→T (A i)) (hk:∀i b,i<n→(kv i).ownBlock=some b→T b):bf base n A kv F w' :=
 h.same (fun i hi=>k.1 _ (hA i hi)) (fun i b hi hb=>k.1 b (hk i b hi hb))
section
variable {n base:Nat} {A:Nat→Nat} {kv:Nat→Value} {F:aU} {rk:Nat→Nat} {T:Nat→Prop}
def Pa (T:Nat→Prop) (J Jx:List (kV n)→World→Prop) (pre:List (kV n)) (full:List (Nat×Option Nat)) (W:World) (e:Ending) (W':World):Prop :=
 (e=.returned (.bool true)∧∃xs,cA xs=full∧J (pre++xs) W'∧KN T W W')∨(e=.returned (.bool false)∧∃q,cA q <+: full∧Jx (pre++q) W')
theorem DL {α β:Type} (f:α→List β) (l:List α) {k:Nat} {c:α} (h:l[k]? = some c):((l.take k).flatMap f).length+(f c).length≤(l.flatMap f).length:=by
 have h1:l=l.take (k+1)++l.drop (k+1):=(List.take_append_drop _ _).symm;have h2:(l.flatMap f).length=((l.take (k+1)).flatMap f).length+((l.drop (k+1)).flatMap f).length:=by
  conv=>lhs;rw [h1]
  rw [List.flatMap_append,List.length_append]
 rw [h2,List.take_add_one,h,List.flatMap_append,List.length_append];simp
theorem CD {α β:Type} (f:α→List β) (l:List α) {k:Nat} {c:α} (h:l[k]? = some c):(l.take (k+1)).flatMap f=(l.take k).flatMap f++f c:=by
 rw [List.take_add_one,h,List.flatMap_append];simp
theorem zj {α β:Type} (f:α→List β) (l:List α) {k:Nat} {c:α} (h:l[k]? = some c) {q:List β} (hq:q <+: f c):(l.take k).flatMap f++q <+: l.flatMap f:=by
 have h1:l=l.take (k+1)++l.drop (k+1):=(List.take_append_drop _ _).symm;have h2:l.flatMap f=(l.take (k+1)).flatMap f++(l.drop (k+1)).flatMap f:=by
  conv=>lhs;rw [h1]
  rw [List.flatMap_append]
 rw [h2,CD f l h,List.append_assoc];exact (List.prefix_append_right_inj _).2 (hq.trans (List.prefix_append _ _))
theorem uu {e:Ending} {X Y:Prop} (h:(e=.returned (.bool true)∧X)∨(e=.returned (.bool false)∧Y)):∃bb,e=.returned (.bool bb)∧Hid ((bb=true∧X)∨(bb=false∧Y)):=by
 rcases h with ⟨h1,h2⟩ | ⟨h1,h2⟩
 ·exact ⟨true,h1,.inl ⟨rfl,h2⟩⟩
 ·exact ⟨false,h1,.inr ⟨rfl,h2⟩⟩
def E1 (n base:Nat) (A:Nat→Nat) (kv:Nat→Value) (F:aU) (rk:Nat→Nat) (T:Nat→Prop) (l Bq Be N:Nat) (J Jx:List (kV n)→World→Prop) (i:Nat):Prop :=
 ∀(par:Option Nat) (m:Nat) (pre:List (kV n)) (W:World),(∀p,par=some p→p<n)→bf base n A kv F W→mL W Bq (.func (.yield l) #[] #[])→mL W Be (.func (.func 260) #[] #[.pointer (some ⟨Bq,0,none⟩),.pointer (some ⟨Be,0,none⟩)]) →
   J pre W→pre.length+(dH F rk i par).length≤N →
   CallsIn Fence.wide m Tryz.prog 260 #[.pointer (some ⟨A i,0,none⟩),optr A par,.pointer (some ⟨Bq,0,none⟩),.pointer (some ⟨Be,0,none⟩)] W (Pa T J Jx pre (dH F rk i par) W)
set_option maxHeartbeats 2000000 in
theorem CE (hwf:Wf F n rk) (hlen:∀i,i<n→(F.kids i).length≤1000) (hA:∀i,i<n→T (A i)) (hk:∀i b,i<n→(kv i).ownBlock=some b→T b) (l Bq Be N:Nat) (J Jx:List (kV n)→World→Prop)
  (hY:∀m pre x W,J pre W→pre.length<N→YieldAt Fence.wide m Tryz.prog l (Bw A x) W fun e W'=>(e=.returned (.bool true)∧J (pre++[x]) W'∧KN T W W')∨(e=.returned (.bool false)∧Jx (pre++[x]) W'))
  {i:Nat} (hi:i<n) (ih:∀c∈F.kids i,E1 n base A kv F rk T l Bq Be N J Jx c):E1 n base A kv F rk T l Bq Be N J Jx i:=by
 intro par m pre W hpar hF hq he hJ hN;obtain ⟨fn,tmps,assign,body,hy,hR⟩:=hY (m - 1) pre ⟨(i,par),hi,hpar⟩ W hJ (by rw [fO hwf hi] at hN;simp at hN;omega);simp only [Bw] at hy;have hqc:=hq.cell;have HQ:=aa hq;have HE:=aa he;have HF:=aa hF;have HN:=aa hN;have jk:=aa ih;have E2:=aa hwf;have kS:=hlen i hi;have Rp:Hid (∀W',KN T W W'→bf base n A kv F W'):=fun W' k=>hF.UR k hA hk;clear hJ hq he hF hN ih hwf hlen hA hk;refine callsIn_of_wp Tryz.func260 rfl trivial ?_ rfl
 simp only [Tryz.ntmps260,List.size_toArray,List.length_cons,List.length_nil,Nat.reduceAdd,Nat.reduceSub,Array.replicate_succ,Array.replicate_zero,List.push_toArray,List.append_toArray,List.nil_append,List.cons_append];gi_wp2;refine ⟨fun h=>(by cases h),?_⟩;refine hR.mono ?_;rintro e W1 dY;obtain ⟨bb,rfl,hq⟩:=uu dY;clear dY hR;cases bb
 ·gi_wp2
  go_ret;have h2:Jx (pre++[⟨(i,par),hi,hpar⟩]) W1:=by
   rcases hq.out with ⟨h1,_⟩ | ⟨_,h2⟩
   ·cases h1
   ·exact h2
  exact .inr ⟨rfl,[⟨(i,par),hi,hpar⟩],⟨_,by rw [fO E2.out hi];rfl⟩,h2⟩
 ·have zX:J (pre++[⟨(i,par),hi,hpar⟩]) W1∧KN T W W1:=by
   rcases hq.out with ⟨_,h2⟩ | ⟨h1,_⟩
   ·exact h2
   ·cases h1
  obtain ⟨YC,hk1⟩:=zX
  have CF:=Rp.out W1 hk1
  have hown:=CF.own i hi
  obtain ⟨q,cap,hv,UT⟩:=hown.form (n:=(F.kids i).length) (by simp)
  have hkc:=CF.oZ hi
  rw [hv] at hkc
  have HV:=aa hv
  have HQQ:=aa UT
  have EH:Hid ((F.kids i).length=0∨∃g,q=some ⟨g,0,none⟩):=by
   rcases UT with rfl | h
   ·obtain ⟨_,h | ⟨g,_,_,h,_⟩⟩:=hown
    ·left;have:=h.2;rw [List.length_map] at this;exact this
    ·rw [hv] at h;cases h
   ·exact .inr h
  have HJ1:=aa YC
  have yF:=aa hk1
  clear hqc hq CF hown hv UT YC hk1
  gi_wp2
  gi_loopw [19] (fun i' wr=>∃(k:Nat) (done:List (kV n)),k≤(F.kids i).length∧i'=.int .i64 k∧Hid (cA done=((F.kids i).take k).flatMap fun c=>dH F rk c (some i))∧Hid (J (pre++[⟨(i,par),hi,hpar⟩]++done) wr)∧Hid (KN T W wr)) (fun i' _=>(F.kids i).length - (intOf i').toNat)
  case atStart=>exact ⟨0,[],Nat.zero_le _,rfl,rfl,by unfold Hid;rw [List.append_nil];exact HJ1.out,yF⟩
  case round =>
   obtain ⟨k,done,hk,rfl,hD,YD,hKr⟩:=hrel
   by_cases hlt:k<(F.kids i).length
   ·obtain ⟨g,rfl⟩:∃g,q=some ⟨g,0,none⟩:=by
     rcases EH.out with h | h
     ·omega
     ·exact h
    have hc:(F.kids i)[k]? = some (F.kids i)[k]:=List.getElem?_eq_getElem hlt
    have UU:=Rp.out wr hKr.out
    have hrow:=UU.DU (j:=k) (c:=(F.kids i)[k]) hi HV.out hc
    have heb:=(HE.out.keep hKr.out).cell
    have hdl:done.length=(((F.kids i).take k).flatMap fun c=>dH F rk c (some i)).length:=by rw [← hD.out];simp [cA]
    have uv:=jk.out (F.kids i)[k] (List.getElem_mem hlt) (some i) (m - 1) (pre++[⟨(i,par),hi,hpar⟩]++done) wr (fun p hp=>by cases hp;exact hi) UU (HQ.out.keep hKr.out) (HE.out.keep hKr.out) YD.out (by
     have h1:=DL (fun c=>dH F rk c (some i)) (F.kids i) hc
     have h2:=HN.out
     rw [fO E2.out hi] at h2
     simp only [List.length_append,List.length_cons,List.length_nil] at h2 ⊢
     omega)
    simp only [optr] at uv
    have fV:=aa uv
    have HC:=aa hc
    have dQ:Hid ((F.kids i)[k]<n):=(E2.out.kid i hi _ (List.getElem_mem hlt)).1
    clear hc UU uv hdl
    generalize (F.kids i)[k]=c at *
    gi_wp2
    refine ⟨trivial,fun h=>(by cases h),?_⟩
    refine fV.out.mono ?_
    rintro e W3 dY
    obtain ⟨bb,rfl,hq⟩:=uu dY
    clear dY fV
    cases bb
    ·gi_wp2
     go_ret
     obtain ⟨qs,UW,hx⟩:∃qs,cA qs <+: dH F rk c (some i)∧Jx (pre++[⟨(i,par),hi,hpar⟩]++done++qs) W3:=by
      rcases hq.out with ⟨h1,_⟩ | ⟨_,h2⟩
      ·cases h1
      ·exact h2
     refine .inr ⟨rfl,⟨(i,par),hi,hpar⟩::(done++qs),?_,by simpa using hx⟩
     rw [fO E2.out hi,show cA (⟨(i,par),hi,hpar⟩::(done++qs))=(i,par)::cA (done++qs) from rfl,tj,hD.out]
     exact (List.prefix_cons_inj _).2 (zj _ _ HC.out UW)
    ·obtain ⟨xs,hxs,hJ3,hK3⟩:∃xs,cA xs=dH F rk c (some i)∧J (pre++[⟨(i,par),hi,hpar⟩]++done++xs) W3∧KN T wr W3:=by
      rcases hq.out with ⟨_,h2⟩ | ⟨h1,_⟩
      ·exact h2
      ·cases h1
     have HJ3:Hid (J (pre++[⟨(i,par),hi,hpar⟩]++(done++xs)) W3):=by unfold Hid;rw [← List.append_assoc];exact hJ3
     have HD3:Hid (cA (done++xs)=((F.kids i).take (k+1)).flatMap fun c=>dH F rk c (some i)):=by unfold Hid;rw [tj,hD.out,hxs,CD _ _ HC.out]
     have HK3:Hid (KN T W W3):=hKr.out.trans hK3
     clear hq hxs hJ3 hK3
     gi_wp2
     go_roundw
     case rel=>exact ⟨k+1,done++xs,by omega,by go_num,HD3,HJ3,HK3⟩
     case measure=>simp [intOf];omega
   ·gi_wp2
    go_ret
    obtain rfl:k=(F.kids i).length:=by omega
    refine .inl ⟨rfl,⟨(i,par),hi,hpar⟩::done,?_,by simpa using YD.out,hKr.out⟩
    rw [fO E2.out hi,show cA (⟨(i,par),hi,hpar⟩::done)=(i,par)::cA done from rfl,hD.out,List.take_length]
theorem SH (hwf:Wf F n rk) (hlen:∀i,i<n→(F.kids i).length≤1000) (hA:∀i,i<n→T (A i)) (hk:∀i b,i<n→(kv i).ownBlock=some b→T b) (l Bq Be N:Nat) (J Jx:List (kV n)→World→Prop)
  (hY:∀m pre x W,J pre W→pre.length<N→YieldAt Fence.wide m Tryz.prog l (Bw A x) W fun e W'=>(e=.returned (.bool true)∧J (pre++[x]) W'∧KN T W W')∨(e=.returned (.bool false)∧Jx (pre++[x]) W')) :
  ∀(d i:Nat),i<n→rk i≤d→E1 n base A kv F rk T l Bq Be N J Jx i:=by
 intro d
 induction d with
 | zero=>exact fun i hi sV=>CE hwf hlen hA hk l Bq Be N J Jx hY hi fun c hc=>absurd (hwf.kid i hi c hc).2 (by omega)
 | succ d ih=>exact fun i hi sV=>CE hwf hlen hA hk l Bq Be N J Jx hY hi fun c hc=>ih c (hwf.kid i hi c hc).1 (by have:=(hwf.kid i hi c hc).2;omega)
theorem E3 {F:Fence} (hd:F.depth=none) (k:Nat):F.room k:=fun d h=>by rw [hd] at h;cases h
theorem YieldAt.Pb {F:Fence} (hd:F.depth=none) {m:Nat} (m':Nat) {P:Program} {l:Nat} {args:Array Value} {W:World} {R:Ending→World→Prop} (h:YieldAt F m P l args W R):YieldAt F m' P l args W R:=by
 obtain ⟨fn,tmps,assign,body,hy,hR⟩:=h;exact ⟨fn,tmps,assign,body,hy,hR.1,fun c cs _=>hR.2 c cs (E3 hd _)⟩
set_option maxHeartbeats 1000000 in
theorem Me (hwf:Wf F n rk) (hlen:∀i,i<n→(F.kids i).length≤1000) (hA:∀i,i<n→T (A i)) (hk:∀i b,i<n→(kv i).ownBlock=some b→T b) (m l Bx i:Nat) (hi:i<n) (J Jx:List (kV n)→World→Prop)
  (hY:∀pre x W,J pre W→pre.length<(dH F rk i none).length→YieldAt Fence.wide (m - 1) Tryz.prog l (Bw A x) W fun e W'=>(e=.returned (.bool true)∧J (pre++[x]) W'∧KN T W W')∨(e=.returned (.bool false)∧Jx (pre++[x]) W'))
  (W:World) (Li:AbidesFrom W.heap.size J) (hF:bf base n A kv F W) (hx:W.cell? ⟨Bx,0,none⟩=some (.pointer (some ⟨A i,0,none⟩))) (hJ:J [] W) :
  CallsIn Fence.wide m Tryz.prog 259 #[.func (.yield l) #[] #[],.pointer (some ⟨Bx,0,none⟩)] W fun e W'=>(∃v,e=.returned v) ∧
   ((∃xs,cA xs=dH F rk i none∧J xs W')∨(∃q,cA q <+: dH F rk i none∧Jx q W')):=by
 have aG:Up W ((W.alloc (.cells #[.func (.yield l) #[] #[]] 258)).alloc (.cells #[.nilFunc] 258)):=(Up.alloc _ _).trans (Up.alloc _ _);have hnew:=blk_alloc_new (W.alloc (.cells #[.func (.yield l) #[] #[]] 258)) (.cells #[.nilFunc] 258);rw [World.size_alloc] at hnew;have zX:((W.alloc (.cells #[.func (.yield l) #[] #[]] 258)).alloc (.cells #[.nilFunc] 258)).heap[W.heap.size]? = some (.cells #[.func (.yield l) #[] #[]] 258 (0,0)):=by rw [blk_alloc_lt _ _ _ (by simp)];exact blk_alloc_new _ _
 have hxc:=aG.cell hx;generalize hW2:(W.alloc (.cells #[.func (.yield l) #[] #[]] 258)).alloc (.cells #[.nilFunc] 258)=W2 at *;have dQ:W2.cell? ⟨W.heap.size+1,0,none⟩=some .nilFunc:=by simp [World.cell?,hnew]
 have hfn:W2.frozen? ⟨W.heap.size+1,0,none⟩=false:=by simp [World.frozen?,hnew]
 have bz:Up W (W2.setCell ⟨W.heap.size+1,0,none⟩ (.func (.func 260) #[] #[.pointer (some ⟨W.heap.size,0,none⟩),.pointer (some ⟨W.heap.size+1,0,none⟩)])):=Below.setCell aG (p:=⟨W.heap.size+1,0,none⟩) (Nat.le_succ _) _;have hJ2:=Li [] W _ none hJ (⟨bz.os,bz.tape,bz.output,bz.size,fun j hj _=>Below.block bz j hj⟩:W.grownBy _ none) (fun r e=>by cases e)
 have hq:mL (W2.setCell ⟨W.heap.size+1,0,none⟩ (.func (.func 260) #[] #[.pointer (some ⟨W.heap.size,0,none⟩),.pointer (some ⟨W.heap.size+1,0,none⟩)])) W.heap.size (.func (.yield l) #[] #[]):=by unfold mL;rw [blk_setCell_other _ _ _ _ (by show W.heap.size≠W.heap.size+1;omega)];exact zX
 have he:mL (W2.setCell ⟨W.heap.size+1,0,none⟩ (.func (.func 260) #[] #[.pointer (some ⟨W.heap.size,0,none⟩),.pointer (some ⟨W.heap.size+1,0,none⟩)])) (W.heap.size+1) (.func (.func 260) #[] #[.pointer (some ⟨W.heap.size,0,none⟩),.pointer (some ⟨W.heap.size+1,0,none⟩)]):=by unfold mL;simp [World.setCell,Array.getElem?_modify,hnew]
 have uv:=SH (base:=base) (A:=A) (kv:=kv) (T:=T) hwf hlen hA hk l W.heap.size (W.heap.size+1) (dH F rk i none).length J Jx (fun m' pre x W' h1 h2=>YieldAt.Pb rfl m' (hY pre x W' h1 h2)) (rk i) i hi (Nat.le_refl _) none (m - 1) [] _ (fun p hp=>by cases hp) (hF.up bz) hq he hJ2 (by simp);simp only [optr] at uv;have hec:=he.cell;have hxc3:(W2.setCell ⟨W.heap.size+1,0,none⟩ (.func (.func 260) #[] #[.pointer (some ⟨W.heap.size,0,none⟩),.pointer (some ⟨W.heap.size+1,0,none⟩)])).cell? ⟨Bx,0,none⟩=some (.pointer (some ⟨A i,0,none⟩)):=bz.cell hx;have fV:=aa uv
 clear uv hJ2 hq he Li hF hJ bz aG hY hnew zX;refine callsIn_of_wp Tryz.func259 rfl trivial ?_ rfl;simp only [Tryz.ntmps259,List.size_toArray,List.length_cons,List.length_nil,Nat.reduceAdd,Nat.reduceSub,Array.replicate_succ,Array.replicate_zero,List.push_toArray,List.append_toArray,List.nil_append,List.cons_append];gi_wp2;refine ⟨trivial,fun h=>(by cases h),?_⟩;refine fV.out.mono ?_;rintro e W3 dY;obtain ⟨bb,rfl,hq⟩:=uu dY;gi_wp2
 go_end0
 refine ⟨⟨_,rfl⟩,?_⟩;rcases hq.out with ⟨_,xs,h1,h2,_⟩ | ⟨_,q,h1,h2⟩
 ·exact .inl ⟨xs,h1,by simpa using h2⟩
 ·exact .inr ⟨q,h1,by simpa using h2⟩
set_option maxHeartbeats 400000 in
theorem SI (w:World) (p:Option Addr):Calls Tryz.prog 216 #[.pointer p] w fun e w'=>e=.returned (.func (.func 259) #[] #[.pointer (some ⟨w.heap.size,0,none⟩)])∧w'=w.alloc (.cells #[.pointer p] 119):=by
 go_enter Tryz.func216,Tryz.ntmps216
 go_wp2_with fail
 go_ret
 exact ⟨rfl,rfl⟩
theorem Hi (hwf:Wf F n rk) (hlen:∀i,i<n→(F.kids i).length≤1000) (hA:∀i,i<n→T (A i)) (hk:∀i b,i<n→(kv i).ownBlock=some b→T b) (m Bx i:Nat) (hi:i<n) (w:World) (hT:∀b,T b→b<w.heap.size)
  (hBx:T Bx) (hF:bf base n A kv F w) (hx:w.cell? ⟨Bx,0,none⟩=some (.pointer (some ⟨A i,0,none⟩))) :
  SeqStopsK Fence.wide m Tryz.prog 259 #[.pointer (some ⟨Bx,0,none⟩)] (fun x:kV n=>Bw A x) (KN T)
   (fun xs=>cA xs=dH F rk i none) (fun pre=>cA pre <+: dH F rk i none) (dH F rk i none).length w:=fun l J Jx W hW hJ _ hY h0 =>
 Me hwf hlen hA hk m l Bx i hi J Jx hY W hJ (hF.same (fun j hj=>hW.block _ (hT _ (hA j hj))) (fun j b hj hb=>hW.block b (hT b (hk j b hj hb)))) ((hW.cell (p:=⟨Bx,0,none⟩) (hT _ hBx)).trans hx) h0
end
end
end Go.Proofs.YthgabkgmkolobaaGreat
