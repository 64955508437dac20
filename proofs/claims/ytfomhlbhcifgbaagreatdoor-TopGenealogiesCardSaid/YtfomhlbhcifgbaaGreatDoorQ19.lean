/- Children sorted: slices.SortFunc with the closure of phylotree.sorted. Three lists that .. -/
import Derived.Sort.OwnSorted
import Derived.Test.YtfomhlbhcifgbaaGreatDoorQ18
set_option maxRecDepth 100000
set_option maxHeartbeats 800000
namespace Go.Proofs.YtfomhlbhcifgbaaGreatDoor
section
open Go.RowKit Go.Deep Go.Sort Go.Shelf Go.Lib
section
variable {α:Type} [Inhabited α] {enc:α->Value}
theorem QB (cur:Array Value) (ts:List α) (h:ts.length<=cur.size):(putCells enc 0 ts.toArray cur).toList.take ts.length=ts.map enc:=by
 apply vh;intro j;by_cases hj:j<ts.length
 ·rw [List.getElem?_take_of_lt hj,iZ]
  simp [putCells,hj,show j<cur.size by omega]
 ·rw [List.getElem?_take_eq_none (by omega),vq (by simp;omega)]
theorem CC (w:World) (g n:Nat) (d:Array α) (os:Array Obj):w.heap.size<=(sortWorld enc w g 0 n d os).heap.size:=by
 simp [sortWorld,grow,putRow,mapBlock,Sort.ahead]
theorem eF {w:World} {g n:Nat} {d:Array α} {os:Array Obj} {b:Nat} (h:b≠g) (hl:b<w.heap.size):(sortWorld enc w g 0 n d os).heap[b]? = w.heap[b]?:=by
 unfold sortWorld;rw [heap_grow_old _ _ (by simpa [putRow,mapBlock,Sort.ahead] using hl)];simp [putRow,mapBlock,Sort.ahead,Array.getElem?_modify,Ne.symm h]
theorem ES {w:World} {g n:Nat} {d:Array α} {os:Array Obj} {cur:Array Value} {e:TypeId} {fr:Nat×Nat} (hb:w.heap[g]? = some (.cells cur e fr)) :
  (sortWorld enc w g 0 n d os).heap[g]? = some (.cells (putCells enc 0 d cur) e fr):=by
 have hg:g<w.heap.size:=(bq.1 hb).1;unfold sortWorld;rw [heap_grow_old _ _ (by simpa [putRow,mapBlock,Sort.ahead] using hg)];simp [putRow,mapBlock,Sort.ahead,Array.getElem?_modify,hb,onCells]
end
theorem au.sorted {α:Type} [Inhabited α] {enc:α->Value} {base g cap n:Nat} {e:TypeId} {w:World} {os:Array Obj} {vs:List Value} {ts:List α} (h:au base e w (.slice (some ⟨g,0,none⟩) vs.length cap) vs) (hl:ts.length=vs.length) :
  au base e (sortWorld enc w g 0 n ts.toArray os) (.slice (some ⟨g,0,none⟩) vs.length cap) (ts.map enc):=by
 obtain ⟨_,⟨h1,_⟩ | ⟨g',cap',cur,hs,hg,hc,hn,hcm,hcs,ht⟩⟩:=h
 ·cases h1
 ·injection hs with hs1 hs2 hs3
  injection hs1 with hs1;injection hs1 with hs1;subst hs1;subst hs3;refine ⟨by simp,.inr ⟨g,cap,putCells enc 0 ts.toArray cur,by simp [hl],hg,ES hc,by simp [hl];exact hn,hcm,by simpa [putCells] using hcs,?_⟩⟩;rw [aD,Nat.mul_one];exact QB cur ts (by omega)
theorem QC (f:Nat->ByteArray) {L:List Nat}:SWO (ltOf fun (x y:{k // k∈L})=>gL (f x.1) (f y.1)) where
 irrefl x:=by simp [ltOf,MZ]
 trans x y z h1 h2:=by
  simp only [ltOf,decide_eq_true_eq] at *
  exact vI h1 h2
 ntrans x y z h1 h2:=by
  simp only [ltOf,decide_eq_false_iff_not] at *
  intro h3
  by_cases e:gL (f x.1) (f y.1)=0
  ·rw [p5 e] at h3;exact h2 h3
  ·have h4:gL (f y.1) (f x.1)<0:=by have:=nu (f x.1) (f y.1);omega
   exact h2 (vI h4 h3)
def Wx (n base:Nat) (A:Nat->Nat) (kv:Nat->Value) (F:aW) (w:World) (i:Nat) (l:List Nat) (e:Ending) (w':World):Prop :=
 e=.returned (.tuple #[])/\bz base n A kv { F with kids:=upd F.kids i l } w'/\kJ n A kv w w'
theorem bz.plain {base n:Nat} {A:Nat->Nat} {kv:Nat->Value} {F:aW} {w:World} (h:bz base n A kv F w) {i:Nat} (hi:i<n):Plain w (A i):=⟨_,_,h.node i hi,by simp⟩
theorem Plain.of_block {w w':World} {b:Nat} (h:Plain w b) (e:w'.heap[b]? = w.heap[b]?):Plain w' b:=by
 obtain ⟨c,t,h1,h2⟩:=h;exact ⟨c,t,by rw [e];exact h1,h2⟩
theorem jy.of_block {w w':World} {b:Nat} {l:List (Option Nat×Value)} (h:jy w b l) (e:w'.heap[b]? = w.heap[b]?):jy w' b l:=by
 obtain ⟨es,c,h1,h2⟩:=h;exact ⟨es,c,by rw [e];exact h1,h2⟩
theorem jy.lt {w:World} {b:Nat} {l:List (Option Nat×Value)} (h:jy w b l):b<w.heap.size:=by
 obtain ⟨es,c,h1,h2⟩:=h;exact (bq.1 h1).1
theorem Jj {base n:Nat} {A:Nat->Nat} {kv:Nat->Value} {F:aW} {w:World} (hF:bz base n A kv F w) {i g cap:Nat} (hi:i<n) (hv:kv i=.slice (some ⟨g,0,none⟩) (F.kids i).length cap) (h0:F.kids i≠[]) (hlen:(F.kids i).length<=1000000)
  (f:Nat->ByteArray) (hs:Sep f (F.kids i)) {bx m0:Nat} {l:List (Option Nat×Value)} (nU:w.cell? ⟨bx,0,none⟩=some (.map (some m0))) (hm:jy w m0 l) (hgb:g≠bx) (hgm:g≠m0)
  (hl:∀k∈F.kids i,l.lookup (some (A k))=some (.string (f k))) (hok:∀z∈l,∃k,k<n/\z.1=some (A k)) :
  Calls Tryz.prog 140 #[kv i,.func (.func 141) #[] #[.pointer (some ⟨bx,0,none⟩)]] w (Wx n base A kv F w i (cF f (F.kids i))):=by
 obtain ⟨k0,nY⟩:∃k,k∈F.kids i:=List.exists_mem_of_ne_nil _ h0;letI:Inhabited {k // k∈F.kids i}:=⟨⟨k0,nY⟩⟩;have hown:=hF.own i hi;rw [hv] at hown;have hgo:(kv i).ownBlock=some g:=by rw [hv];rfl
 have wM:=(hF.gK hi hgo).2;have Nl:∀j,j<n->A j≠g:=fun j hj e=>hF.apart i j hi hj (by rw [hgo,e]);have eg:∀args w,(callFunc 141 args).run Tryz.prog w=.ok (.enter 141 args) w:=enters_of Tryz.func141 (by kernel_rfl) rfl;have hsize:((F.kids i).attach.toArray).size=(F.kids i).length:=by simp
 have Lj:((F.kids i).map (bL A)).length=(F.kids i).length:=by simp
 have hH:Holds (fun (x:{k // k∈F.kids i})=>bL A x.1) w g 0 (F.kids i).attach.toArray:=by
  intro j hj;rw [hsize] at hj;obtain ⟨p,c,e,_,H⟩:=hown.xC.open;injection e with e1;subst e1;obtain ⟨b,off,e,hc⟩:=H j (by rw [Lj];exact hj);injection e with e;injection e with e1 e2;subst e1;subst e2;refine ⟨?_,?_⟩
  ·rw [hc,getElem!_pos _ _ (by simpa using hj)];simp [hj]
  ·obtain ⟨_,⟨h1,_⟩ | ⟨g',cap',cur,hs',_,hc',_⟩⟩:=hown
   ·cases h1
   ·injection hs' with hs1
    injection hs1 with hs1;injection hs1 with hs1;subst hs1;simp [World.frozen?,hc']
 have hcmp:CmpLays1 Tryz.prog 141 #[.pointer (some ⟨bx,0,none⟩)] (fun (x:{k // k∈F.kids i})=>bL A x.1) (fun x y=>gL (f x.1) (f y.1)) g 0 (F.kids i).attach.toArray.size w:=by
  intro m os dk hdk x y;have hx:=hF.kid i hi x.1 x.2;have hy:=hF.kid i hi y.1 y.2;have hbl:bx<w.heap.size:=fS w _ nU;have h1:(sortWorld (fun (x:{k // k∈F.kids i})=>bL A x.1) w g 0 m dk os).cell? ⟨bx,0,none⟩=some (.map (some m0)):=by rw [cW (a:=⟨bx,0,none⟩) (eF (fe hgb) hbl)];exact nU
  refine (Nd _ bx m0 (A x.1) (A y.1) l (f x.1) (f y.1) h1 (hm.of_block (eF (fe hgm) hm.lt)) (fun z hz=>?_)
   ((hF.plain hx).of_block (eF (Nl _ hx) (hF.lt hx))) ((hF.plain hy).of_block (eF (Nl _ hy) (hF.lt hy))) (hl x.1 x.2) (hl y.1 y.2)).mono fun e w' ⟨he,hw⟩=>⟨he,0,#[],by rw [<- hw,grow_empty];rfl⟩
  obtain ⟨k,hk,e⟩:=hok z hz;rw [e];exact (hF.plain hk).of_block (eF (Nl _ hk) (hF.lt hk))
 have hcon:=Any.slices_SortFunc_total Tryz.sortNode (fun (x:{k // k∈F.kids i})=>bL A x.1) (fun _=>rfl) (fun x y=>gL (f x.1) (f y.1)) (QC f) 141 #[.pointer (some ⟨bx,0,none⟩)] g 0 cap (F.kids i).attach.toArray w eg hcmp hH wM (by rw [hsize];omega)
  (fun x y h1 h2=>by
   simp only [ltOf,decide_eq_false_iff_not] at h1 h2;have h3:gL (f x.1) (f y.1)=0:=by have:=nu (f x.1) (f y.1);omega
   exact Subtype.ext (hs x.1 x.2 y.1 y.2 (p5 h3)))
 rw [hsize,<- hv] at hcon;refine hcon.mono fun e w' ⟨he,m,os,hw⟩=>⟨he,?_,?_⟩
 ·have aar:(((F.kids i).attach.toArray.toList.mergeSort fun x y=>!(ltOf fun (x y:{k // k∈F.kids i})=>gL (f x.1) (f y.1)) y x).map fun x=>x.1)=cF f (F.kids i):=by
   have h:=List.map_mergeSort (f:=fun (x:{k // k∈F.kids i})=>x.1) (r:=fun x y=>!(ltOf fun (x y:{k // k∈F.kids i})=>gL (f x.1) (f y.1)) y x) (s:=nv f) (l:=(F.kids i).attach) (fun a _ b _=>by
    simp only [ltOf,nv]
    have:=nu (f a.1) (f b.1)
    by_cases h:gL (f a.1) (f b.1)<=0
    ·rw [decide_eq_true h];simp;omega
    ·rw [decide_eq_false h];simp;omega)
   rw [List.toList_toArray]
   rw [h,List.attach_map_subtype_val]
   rfl
  have ho:au base 78 w' (kv i) ((cF f (F.kids i)).map (bL A)):=by
   rw [hv,hw,<- aar,jO]
   have h:=au.sorted (enc:=fun (x:{k // k∈F.kids i})=>bL A x.1) (n:=m) (os:=os) (ts:=((F.kids i).attach.toArray.toList.mergeSort fun x y=>!(ltOf fun (x y:{k // k∈F.kids i})=>gL (f x.1) (f y.1)) y x)) (vs:=(F.kids i).map (bL A)) (by rw [Lj];exact hown) (by simp)
   rw [Lj] at h
   exact h
  have hsame:∀b,b≠g->b<w.heap.size->w'.heap[b]? = w.heap[b]?:=fun b hb hbl=>by rw [hw];exact eF hb hbl
  have h2:=hF.put (w':=w') (k:=i) (v:=kv i) (ks:=cF f (F.kids i)) hi (fun j hj _=>hsame _ (Nl j hj) (hF.lt hj)) (by rw [hsame _ (Nl i hi) (hF.lt hi)];exact hF.node i hi) ho
   (fun j b hj hji hb=>hsame b (fun e=>hji (hF.alone j i b hj hi hb (by rw [hgo,e]))) (hF.gK hj hb).2) (fun b hb=>.inl hb) (fun j hj=>hF.kid i hi j ((eu _ _).mem_iff.1 hj))
  have hkv:upd kv i (kv i)=kv:=by
   funext j;by_cases e:j=i
   ·subst e;exact upd_same _ _ _
   ·exact upd_ne _ _ e
  rw [hkv] at h2
  exact h2
 ·rw [hw]
  exact ⟨rfl,rfl,rfl,CC _ _ _ _ _,fun b hb _ h2=>eF (fun e=>h2 i hi (by rw [hgo,e])) hb⟩
end
section
open Go.RowKit Go.Deep
section
variable {P:Program} {ops:Array Oper} {md:Region.Mode} {Q:Exit->Act->World->Prop} {S:World->Prop} {t:Nat}
theorem ah.S6 (i i2 i3:Nat) {oi nj S7:Oper} {n:Nat} {l:Array Bool} {a:Act} {w:World}
  (h:∀K':Act->World->Prop,Shut (∀a w,(dU t (l.setIfInBounds i true)->S w)->((dU t (l.setIfInBounds i true)->S w)->ah P md ops Q S t n (l.setIfInBounds i true) a w)->K' a w)->if Region.wanted oi (yielded ops a.tmps)=true then Oper.wp P oi a w K' Q else K' (a.put oi.dst undef) w)
  (h2:∀K':Act->World->Prop,Shut (∀a w,(dU t (l.setIfInBounds i2 true)->S w)->((dU t (l.setIfInBounds i2 true)->S w)->ah P md ops Q S t n (l.setIfInBounds i2 true) a w)->K' a w)->if Region.wanted nj (yielded ops a.tmps)=true then Oper.wp P nj a w K' Q else K' (a.put nj.dst undef) w)
  (h3:∀K':Act->World->Prop,Shut (∀a w,(dU t (l.setIfInBounds i3 true)->S w)->((dU t (l.setIfInBounds i3 true)->S w)->ah P md ops Q S t n (l.setIfInBounds i3 true) a w)->K' a w)->if Region.wanted S7 (yielded ops a.tmps)=true then Oper.wp P S7 a w K' Q else K' (a.put S7.dst undef) w)
  (gT:ops.toList[i]? = some oi:=by rfl) (Aj:ops.toList[i2]? = some nj:=by rfl) (aas:ops.toList[i3]? = some S7:=by rfl) (hr:Region.ready md ops l=[i,i2,i3]:=by kernel_rfl) :
  ah P md ops Q S t (n+1) l a w :=
 ⟨fun h0=>absurd (h0.symm.trans hr) (by simp),fun j hj=>by
  rw [hr] at hj
  rcases bQ.1 hj with rfl | hj
  ·exact wpOp_step (by rw [<- iZ];exact gT) fun K' hK=>h K' fun a w hS hW=>hK a w ⟨hS,hW hS⟩
  ·rcases bQ.1 hj with rfl | hj
   ·exact wpOp_step (by rw [<- iZ];exact Aj) fun K' hK=>h2 K' fun a w hS hW=>hK a w ⟨hS,hW hS⟩
   ·obtain rfl:j=i3:=by simpa using hj
    exact wpOp_step (by rw [<- iZ];exact aas) fun K' hK=>h3 K' fun a w hS hW=>hK a w ⟨hS,hW hS⟩⟩
theorem ah.st2 (i i2:Nat) {oi nj:Oper} {n:Nat} {l:Array Bool} {a:Act} {w:World}
  (h:∀K':Act->World->Prop,Shut (∀a w,(dU t (l.setIfInBounds i true)->S w)->((dU t (l.setIfInBounds i true)->S w)->ah P md ops Q S t n (l.setIfInBounds i true) a w)->K' a w)->if Region.wanted oi (yielded ops a.tmps)=true then Oper.wp P oi a w K' Q else K' (a.put oi.dst undef) w)
  (h2:∀K':Act->World->Prop,Shut (∀a w,(dU t (l.setIfInBounds i2 true)->S w)->((dU t (l.setIfInBounds i2 true)->S w)->ah P md ops Q S t n (l.setIfInBounds i2 true) a w)->K' a w)->if Region.wanted nj (yielded ops a.tmps)=true then Oper.wp P nj a w K' Q else K' (a.put nj.dst undef) w)
  (gT:ops.toList[i]? = some oi:=by rfl) (Aj:ops.toList[i2]? = some nj:=by rfl) (hr:Region.ready md ops l=[i,i2]:=by kernel_rfl):ah P md ops Q S t (n+1) l a w:=ah.step2 gT Aj hr h h2
end
def Av (a b c:Value) (y:Nat):Prop:=a.ownBlock≠some y/\b.ownBlock≠some y/\c.ownBlock≠some y
structure F3 (tb:Nat) (w W:World) (a b c:Value) (A B C:List Value) (R:List (Value×List Int)) (E:List (Nat×Value)):Prop where
 lq:Below (tb+1) w W
 lo:tb+1<=w.heap.size
 ao:au (tb+1) 9 W a A
 bo:au (tb+1) 4 W b B
 co:au (tb+1) 27 W c C
 ab:∀x,a.ownBlock=some x->b.ownBlock≠some x
 ac:∀x,a.ownBlock=some x->c.ownBlock≠some x
 bc:∀x,b.ownBlock=some x->c.ownBlock≠some x
 ro:∀x∈R,af (fun y=>Av a b c y/\tb<y) W x.1 x.2
 ex:∀x∈E,(x.1<W.heap.size/\Av a b c x.1)/\W.cell? ⟨x.1,0,none⟩=some x.2
section
variable {tb:Nat} {w W W' w0:World} {a b c a0 b0 c0:Value} {A B C:List Value} {R:List (Value×List Int)} {E:List (Nat×Value)}
theorem F3.lt (h:F3 tb w W a b c A B C R E):tb+1<=W.heap.size:=aV h.lo h.lq.size
theorem F3.up (h:F3 tb w W a b c A B C R E) (hu:Up W W'):F3 tb w W' a b c A B C R E :=
 ⟨dI h.lq (Below.mono hu h.lt),h.lo,h.ao.fE fun x hx=>aO hu x (az h.ao hx).2,h.bo.fE fun x hx=>aO hu x (az h.bo hx).2,h.co.fE fun x hx=>aO hu x (az h.co hx).2,h.ab,h.ac,h.bc,
  fun x hx=>(h.ro x hx).keep (hu.kept _),fun x hx=>⟨⟨lM (h.ex x hx).1.1 hu.size,(h.ex x hx).1.2⟩,hu.cell (h.ex x hx).2⟩⟩
theorem F3.away (h:F3 tb w W a b c A B C R E) {y:Nat} (hy:W.heap.size<=y):Av a b c y :=
 ⟨fun e=>by have:=(az h.ao e).2;omega,fun e=>by have:=(az h.bo e).2;omega,fun e=>by have:=(az h.co e).2;omega⟩
theorem F3.alloc (h:F3 tb w W a b c A B C R E) (v:Value) (T:TypeId):F3 tb w (W.alloc (.cells #[v] T)) a b c A B C R ((W.heap.size,v)::E):=by
 have h1:=h.up (Up.alloc W (.cells #[v] T));refine ⟨h1.lq,h1.lo,h1.ao,h1.bo,h1.co,h1.ab,h1.ac,h1.bc,h1.ro,fun x hx=>?_⟩;rcases bQ.1 hx with rfl | hx
 ·exact ⟨⟨by rw [aN];exact kC _,h.away (aj _)⟩,bE W _ _ 0⟩
 ·exact h1.ex x hx
theorem iH {v:Value} {g k cap x y:Nat} (dr:v.ownBlock=some g\/g=W.heap.size) (hx:x<W.heap.size) (hv:v.ownBlock≠some x) (e:(Value.slice (some ⟨g,0,none⟩) k cap).ownBlock=some y) (hxy:y=x):False:=by
 have e:some g=some y:=e;injection e with e;subst e;subst hxy;rcases dr with h | h
 ·exact hv h
 ·omega
theorem F3.oO (h:F3 tb w W a b c A B C R E) {g cap k:Nat} {u:Value} (ho:au (tb+1) 9 W' (.slice (some ⟨g,0,none⟩) k cap) (A++[u])) (hg:W.grownBy W' a.ownBlock) (dr:a.ownBlock=some g\/g=W.heap.size) :
  F3 tb w W' (.slice (some ⟨g,0,none⟩) k cap) b c (A++[u]) B C R E:=by
 have nb:∀z,b.ownBlock=some z->a.ownBlock≠some z:=fun z hz e=>h.ab z e hz;have mb:∀z,b.ownBlock=some z->(Value.slice (some ⟨g,0,none⟩) k cap).ownBlock≠some z:=fun z hz e=>iH dr (az h.bo hz).2 (nb z hz) e rfl;have nc:∀z,c.ownBlock=some z->a.ownBlock≠some z:=fun z hz e=>h.ac z e hz;have mc:∀z,c.ownBlock=some z->(Value.slice (some ⟨g,0,none⟩) k cap).ownBlock≠some z:=fun z hz e=>iH dr (az h.co hz).2 (nc z hz) e rfl
 refine ⟨dI h.lq (h.ao.cQ hg h.lt),h.lo,ho,h.bo.fE fun z hz=>hg.block z (az h.bo hz).2 fun e=>nb z hz e.symm,h.co.fE fun z hz=>hg.block z (az h.co hz).2 fun e=>nc z hz e.symm,fun z e hz=>mb z hz e,fun z e hz=>mc z hz e,h.bc,fun x hx=>?_,fun x hx=>?_⟩
 ·have h1:=(h.ro x hx).sub (T:=fun y=>(Av a b c y/\tb<y)/\y<W.heap.size) fun y hy hl=>⟨hy,hl⟩
  exact (af.keep h1 fun y hy hl=>hg.block y hl fun e=>hy.1.1.1 e.symm).sub fun y hy _=>⟨⟨fun e=>iH dr hy.2 hy.1.1.1 e rfl,hy.1.1.2.1,hy.1.1.2.2⟩,hy.1.2⟩
 ·obtain ⟨⟨h1,h2⟩,h3⟩:=h.ex x hx
  exact ⟨⟨lM h1 hg.size,⟨fun e=>iH dr h1 h2.1 e rfl,h2.2.1,h2.2.2⟩⟩,by rw [hg.cell_far ⟨x.1,0,none⟩ h1 fun e=>h2.1 e.symm];exact h3⟩
theorem F3.lu (h:F3 tb w W a b c A B C R E) {g cap k:Nat} {u:Value} (ho:au (tb+1) 4 W' (.slice (some ⟨g,0,none⟩) k cap) (B++[u])) (hg:W.grownBy W' b.ownBlock) (dr:b.ownBlock=some g\/g=W.heap.size) :
  F3 tb w W' a (.slice (some ⟨g,0,none⟩) k cap) c A (B++[u]) C R E:=by
 have na:∀z,a.ownBlock=some z->b.ownBlock≠some z:=fun z hz e=>h.ab z hz e;have ma:∀z,a.ownBlock=some z->(Value.slice (some ⟨g,0,none⟩) k cap).ownBlock≠some z:=fun z hz e=>iH dr (az h.ao hz).2 (na z hz) e rfl;have nc:∀z,c.ownBlock=some z->b.ownBlock≠some z:=fun z hz e=>h.bc z e hz;have mc:∀z,c.ownBlock=some z->(Value.slice (some ⟨g,0,none⟩) k cap).ownBlock≠some z:=fun z hz e=>iH dr (az h.co hz).2 (nc z hz) e rfl
 refine ⟨dI h.lq (h.bo.cQ hg h.lt),h.lo,h.ao.fE fun z hz=>hg.block z (az h.ao hz).2 fun e=>na z hz e.symm,ho,h.co.fE fun z hz=>hg.block z (az h.co hz).2 fun e=>nc z hz e.symm,fun z hz e=>ma z hz e,h.ac,fun z e hz=>mc z hz e,fun x hx=>?_,fun x hx=>?_⟩
 ·have h1:=(h.ro x hx).sub (T:=fun y=>(Av a b c y/\tb<y)/\y<W.heap.size) fun y hy hl=>⟨hy,hl⟩
  exact (af.keep h1 fun y hy hl=>hg.block y hl fun e=>hy.1.1.2.1 e.symm).sub fun y hy _=>⟨⟨hy.1.1.1,fun e=>iH dr hy.2 hy.1.1.2.1 e rfl,hy.1.1.2.2⟩,hy.1.2⟩
 ·obtain ⟨⟨h1,h2⟩,h3⟩:=h.ex x hx
  exact ⟨⟨lM h1 hg.size,⟨h2.1,fun e=>iH dr h1 h2.2.1 e rfl,h2.2.2⟩⟩,by rw [hg.cell_far ⟨x.1,0,none⟩ h1 fun e=>h2.2.1 e.symm];exact h3⟩
theorem F3.mZ (h:F3 tb w W a b c A B C R E) {g cap k:Nat} {u:Value} (ho:au (tb+1) 27 W' (.slice (some ⟨g,0,none⟩) k cap) (C++[u])) (hg:W.grownBy W' c.ownBlock) (dr:c.ownBlock=some g\/g=W.heap.size) :
  F3 tb w W' a b (.slice (some ⟨g,0,none⟩) k cap) A B (C++[u]) R E:=by
 have na:∀z,a.ownBlock=some z->c.ownBlock≠some z:=fun z hz e=>h.ac z hz e;have ma:∀z,a.ownBlock=some z->(Value.slice (some ⟨g,0,none⟩) k cap).ownBlock≠some z:=fun z hz e=>iH dr (az h.ao hz).2 (na z hz) e rfl;have nb:∀z,b.ownBlock=some z->c.ownBlock≠some z:=fun z hz e=>h.bc z hz e;have mb:∀z,b.ownBlock=some z->(Value.slice (some ⟨g,0,none⟩) k cap).ownBlock≠some z:=fun z hz e=>iH dr (az h.bo hz).2 (nb z hz) e rfl
 refine ⟨dI h.lq (h.co.cQ hg h.lt),h.lo,h.ao.fE fun z hz=>hg.block z (az h.ao hz).2 fun e=>na z hz e.symm,h.bo.fE fun z hz=>hg.block z (az h.bo hz).2 fun e=>nb z hz e.symm,ho,h.ab,fun z hz e=>ma z hz e,fun z hz e=>mb z hz e,fun x hx=>?_,fun x hx=>?_⟩
 ·have h1:=(h.ro x hx).sub (T:=fun y=>(Av a b c y/\tb<y)/\y<W.heap.size) fun y hy hl=>⟨hy,hl⟩
  exact (af.keep h1 fun y hy hl=>hg.block y hl fun e=>hy.1.1.2.2 e.symm).sub fun y hy _=>⟨⟨hy.1.1.1,hy.1.1.2.1,fun e=>iH dr hy.2 hy.1.1.2.2 e rfl⟩,hy.1.2⟩
 ·obtain ⟨⟨h1,h2⟩,h3⟩:=h.ex x hx
  exact ⟨⟨lM h1 hg.size,⟨h2.1,h2.2.1,fun e=>iH dr h1 h2.2.2 e rfl⟩⟩,by rw [hg.cell_far ⟨x.1,0,none⟩ h1 fun e=>h2.2.2 e.symm];exact h3⟩
theorem F3.cells (h:F3 tb w W a b c A B C R E) (hb:w.heap[tb]? = some (Obj.cells #[a0,b0,c0] 36 (0,0))):W.cell? ⟨tb,0,none⟩=some a0/\W.cell? ⟨tb,1,none⟩=some b0/\W.cell? ⟨tb,2,none⟩=some c0:=by
 obtain ⟨h0,h1,h2,-,-,-⟩:=aQ ((h.lq.block tb (kC _)).trans hb);exact ⟨h0,h1,h2⟩
theorem F3.aat (h:F3 tb w W a b c A B C R E) (hb:w.heap[tb]? = some (Obj.cells #[a0,b0,c0] 36 (0,0))):W.frozen? ⟨tb,0,none⟩=false/\W.frozen? ⟨tb,1,none⟩=false/\W.frozen? ⟨tb,2,none⟩=false:=by
 obtain ⟨-,-,-,h0,h1,h2⟩:=aQ ((h.lq.block tb (kC _)).trans hb);exact ⟨h0,h1,h2⟩
structure G3 (tb:Nat) (w0 W:World) (a b c:Value) (A B C:List Value) (R:List (Value×List Int)):Prop where
 box:W.heap[tb]? = some (Obj.cells #[a,b,c] 36 (0,0))
 lq:Below tb w0 W
 f:F3 tb W W a b c A B C R []
theorem G3.new (w0:World):G3 w0.heap.size w0 (w0.alloc (.cells #[.slice none 0 0,.slice none 0 0,.slice none 0 0] 36)) (.slice none 0 0) (.slice none 0 0) (.slice none 0 0) [] [] [] [] :=
 ⟨fQ _ _ _ _ _,(b7 _ _).alloc (aj _) _,⟨b7 _ _,by rw [aN];exact aj _,au.nil _ _ _,au.nil _ _ _,au.nil _ _ _,(fun _ e=>by cases e),(fun _ e=>by cases e),(fun _ e=>by cases e),(fun x hx=>by cases hx),(fun x hx=>by cases hx)⟩⟩
theorem F3.self (h:F3 tb w W a b c A B C R E):F3 tb W W a b c A B C R []:=⟨b7 _ _,h.lt,h.ao,h.bo,h.co,h.ab,h.ac,h.bc,h.ro,fun x hx=>by cases hx⟩
theorem G3.up (h:G3 tb w0 W a b c A B C R) (hu:Up W W'):G3 tb w0 W' a b c A B C R :=
 ⟨(aO hu tb (by have:=h.f.lo;omega)).trans h.box,dI h.lq (Below.mono hu (by have:=h.f.lo;omega)),(h.f.up hu).self⟩
theorem G3.row (h:G3 tb w0 W a b c A B C R) {v:Value} {l:List Int} (hl:af (fun y=>Av a b c y/\tb<y) W v l):G3 tb w0 W a b c A B C (R++[(v,l)]) :=
 ⟨h.box,h.lq,⟨h.f.lq,h.f.lo,h.f.ao,h.f.bo,h.f.co,h.f.ab,h.f.ac,h.f.bc,fun x hx=>(eD.1 hx).elim (h.f.ro x) (fun e=>by rw [eN.1 e];exact hl),h.f.ex⟩⟩
theorem F3.store {a' b' c':Value} {A' B' C':List Value} {R':List (Value×List Int)} (h0:G3 tb w0 w a b c A B C R) (h:F3 tb w W a' b' c' A' B' C' R' E) :
  G3 tb w0 (((W.setCell ⟨tb,0,none⟩ a').setCell ⟨tb,1,none⟩ b').setCell ⟨tb,2,none⟩ c') a' b' c' A' B' C' R':=by
 have h1:=(h.lq.block tb (kC _)).trans h0.box;have cZ:∀x,x≠tb->(((W.setCell ⟨tb,0,none⟩ a').setCell ⟨tb,1,none⟩ b').setCell ⟨tb,2,none⟩ c').heap[x]? = W.heap[x]?:=fun x hx=>by rw [blk_setCell_other _ _ _ _ hx,blk_setCell_other _ _ _ _ hx,blk_setCell_other _ _ _ _ hx]
 have hsz:(((W.setCell ⟨tb,0,none⟩ a').setCell ⟨tb,1,none⟩ b').setCell ⟨tb,2,none⟩ c').heap.size=W.heap.size:=by simp [World.size_setCell]
 refine ⟨vM h1,jm (jm (jm (dI h0.lq (Below.mono h.lq (jP _))) (p:=⟨tb,0,none⟩) (aj _) _) (p:=⟨tb,1,none⟩) (aj _) _) (p:=⟨tb,2,none⟩) (aj _) _,
  ⟨b7 _ _,by rw [hsz];exact h.lt,h.ao.fE fun x hx=>cZ x (by have:=(az h.ao hx).1;omega),h.bo.fE fun x hx=>cZ x (by have:=(az h.bo hx).1;omega),h.co.fE fun x hx=>cZ x (by have:=(az h.co hx).1;omega),h.ab,h.ac,h.bc,fun x hx=>af.keep (h.ro x hx) fun y hy _=>cZ y (by have:=hy.2;omega),(fun x hx=>by cases hx)⟩⟩
end
end
end Go.Proofs.YtfomhlbhcifgbaaGreatDoor
