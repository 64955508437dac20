/- contamination.best, Score. -/
import Derived.Test.YtfomhlbhcifgbaaGreatDoorQ43
import Derived.Test.YtfomhlbhcifgbaaGreatDoorQ44
set_option maxRecDepth 100000
set_option maxHeartbeats 8000000
namespace Go.Proofs.YtfomhlbhcifgbaaGreatDoor
open Go.RowKit Go.Shelf Go.Deep Go.Sort
def oH (P:List (List Int)) (l:List (List Int)):Int:=jl (fun j=>dx P (gl l j)) l.length
theorem uj {f g:Nat->Int}:∀ {n:Nat},(∀k,k<n->f k=g k)->jl f n=jl g n
 | 0,_=>rfl
 | n+1,h=>by rw [je,je,uj (n:=n) fun k hk=>h k (by omega),h n (by omega)]
theorem R5 (P l:List (List Int)) (x:List Int):oH P (l++[x])=if oH P l<0\/dx P x<oH P l then dx P x else oH P l:=by
 unfold oH;rw [bG,List.length_singleton,je];have e1:jl (fun j=>dx P (gl (l++[x]) j)) l.length=jl (fun j=>dx P (gl l j)) l.length:=uj fun k hk=>by show dx P (gl (l++[x]) k)=dx P (gl l k);congr 1;simp [gl,hk,List.getElem?_append_left hk]
 have e2:gl (l++[x]) l.length=x:=by simp [gl]
 rw [e1,e2]
theorem Kz (P:List (List Int)) (st:List Int):oH P (eR (bM st) st)=jK P st:=rfl
theorem U4 {P:List (List Int)} {st:List Int} {q:List (List Int)} (hq:q <+: eR (bM st) st) (h0:oH P q=0):jK P st=0:=by
 obtain ⟨r,hr⟩:=hq;have h1:jl (AW P st) q.length=0:=by rw [<- h0];refine uj fun k hk=>?_;show dx P (gl (eR (bM st) st) k)=dx P (gl q k);rw [<- hr];congr 1;simp [gl,hk,List.getElem?_append_left hk]
 exact Iu (fun k=>wA _ _) h1 (by rw [<- hr,bG];omega)
theorem O6 (P:List (List Int)) {B:Int} (hB:0<=B) (hb:∀all,dx P all<=B) (l:List (List Int)):-1<=oH P l/\oH P l<=B:=by
 unfold oH;generalize l.length=n
 induction n with
 | zero=>simp [jl];omega
 | succ n ih =>
  rw [je];have h1:=hb (gl l n);have h2:=wA P (gl l n);split<;>omega
theorem AX {P:List (List Int)} (all:List Int):dx P all<=P.length:=by
 rw [<- II];have h1:=(Di P all (lZ P)).2;have h2:=Dh P P.length;have h3:(lZ P).length<=P.length:=h2;omega
structure lI (wc:World) (P:List (List Int)) (fv:Value) (pre:List Ev) (L:Nat->Prop) (W:World):Prop where
 up:Up wc W
 sz:wc.heap.size+3<=W.heap.size
 lo:∀b,L b->wc.heap.size+3<=b
 c8:W.heap[wc.heap.size]? = some (Obj.cells #[fv] 42 (0,0))
 c9:∃p n c,W.heap[wc.heap.size+1]? = some (Obj.cells #[.slice p n c] 27 (0,0))
 c10:W.heap[wc.heap.size+1+1]? = some (Obj.cells #[.int .i64 (oH P (pre.map (·.2)))] 3 (0,0))
section
variable {wc:World} {P:List (List Int)} {fv:Value}
theorem lI.same {pre:List Ev} {L:Nat->Prop} {W W':World} (h:lI wc P fv pre L W) (hu:Up wc W') (hs:W.heap.size<=W'.heap.size) (hk:∀b,b<wc.heap.size+3->W'.heap[b]? = W.heap[b]?):lI wc P fv pre L W':=by
 obtain ⟨p,n,c,h9⟩:=h.c9;exact ⟨hu,aV h.sz hs,h.lo,(hk _ (by omega)).trans h.c8,⟨p,n,c,(hk _ (by omega)).trans h9⟩,(hk _ (by omega)).trans h.c10⟩
theorem lI.ab:DJ (lI wc P fv):=by
 rintro s L L' W W' h hs;have hsz:=h.sz;have hk:∀b,b<wc.heap.size+3->W'.heap[b]? = W.heap[b]?:=fun b hb=>hs.block b (by omega) fun e=>by have:=h.lo b e;omega
 have h1:=h.same ⟨hs.os.trans h.up.os,hs.tape.trans h.up.tape,hs.output.trans h.up.output,aV h.up.size hs.size,fun b hb=>(hk b (by omega)).trans (aO h.up b hb)⟩ hs.size hk;refine ⟨h1.up,h1.sz,fun b hb=>?_,h1.c8,h1.c9,h1.c10⟩;rcases hs.more b hb with e | e
 ·exact h.lo b e.1
 ·omega
theorem lI.own {B:Nat} (hB:wc.heap.size+3<=B) (L:Nat->Prop):OwnFrom B (fun s W=>lI wc P fv s L W):=by
 intro s X Y row h hg hr;have hsz:=h.sz;have hk:∀b,b<wc.heap.size+3->Y.heap[b]? = X.heap[b]?:=fun b hb=>hg.block b (by omega) fun e=>by have:=(hr b e.symm).1;omega
 exact h.same ⟨hg.os.trans h.up.os,hg.tape.trans h.up.tape,hg.output.trans h.up.output,aV h.up.size hg.size,fun b hb=>(hk b (by omega)).trans (aO h.up b hb)⟩ hg.size hk
theorem lI.cells {pre:List Ev} {L:Nat->Prop} {W:World} (h:lI wc P fv pre L W):W.cell? ⟨wc.heap.size,0,none⟩=some fv/\(∃p n c,W.cell? ⟨wc.heap.size+1,0,none⟩=some (.slice p n c))/\W.cell? ⟨wc.heap.size+1+1,0,none⟩=some (.int .i64 (oH P (pre.map (·.2))))/\W.frozen? ⟨wc.heap.size+1,0,none⟩=false/\W.frozen? ⟨wc.heap.size+1+1,0,none⟩=false:=by
 obtain ⟨p,n,c,h9⟩:=h.c9;refine ⟨?_,⟨p,n,c,?_⟩,?_,?_,?_⟩<;>simp [World.cell?,World.frozen?,h.c8,h9,h.c10]
theorem lI.set {pre pre':List Ev} {L:Nat->Prop} {W:World} (h:lI wc P fv pre L W) {p:Option Addr} {n c:Nat} {x:Int} (hx:x=oH P (pre'.map (·.2))):lI wc P fv pre' L ((W.setCell ⟨wc.heap.size+1,0,none⟩ (.slice p n c)).setCell ⟨wc.heap.size+1+1,0,none⟩ (.int .i64 x)):=by
 obtain ⟨p0,n0,c0,h9⟩:=h.c9;have hk:∀b,b≠wc.heap.size+1->b≠wc.heap.size+1+1->((W.setCell ⟨wc.heap.size+1,0,none⟩ (.slice p n c)).setCell ⟨wc.heap.size+1+1,0,none⟩ (.int .i64 x)).heap[b]? = W.heap[b]?:=fun b h1 h2=>by rw [blk_setCell_other _ _ _ _ h2,blk_setCell_other _ _ _ _ h1]
 refine ⟨jm (jm h.up (p:=⟨wc.heap.size+1,0,none⟩) (jP _) _) (p:=⟨wc.heap.size+1+1,0,none⟩) (by show wc.heap.size<=wc.heap.size+1+1;omega) _,by rw [gX,gX];exact h.sz,h.lo,(hk _ (by omega) (by omega)).trans h.c8,⟨p,n,c,?_⟩,?_⟩
 ·rw [blk_setCell_other _ _ _ _ (show wc.heap.size+1≠wc.heap.size+1+1 by omega)];simp [World.setCell,Array.getElem?_modify,h9]
 ·have h1:(W.setCell ⟨wc.heap.size+1,0,none⟩ (.slice p n c)).heap[wc.heap.size+1+1]? = _:=(blk_setCell_other _ _ _ _ (show wc.heap.size+1+1≠wc.heap.size+1 by omega)).trans h.c10
  rw [<- hx];simp [World.setCell,Array.getElem?_modify] at h1 ⊢;simp [h1]
theorem lI.none {pre:List Ev} {L:Nat->Prop} {W:World} (h:lI wc P fv pre L W):lI wc P fv pre (fun _=>False) W:=⟨h.up,h.sz,fun _ h=>h.elim,h.c8,h.c9,h.c10⟩
theorem KA {W W':World} {L:Nat->Prop} {B:Nat} (hB:wc.heap.size+3<=B) (hlo:∀b,L b->wc.heap.size+3<=b/\b<W.heap.size) (hs:W.heap.size<=W'.heap.size) (hk:∀b,b<W.heap.size->b≠wc.heap.size+1->b≠wc.heap.size+1+1->W'.heap[b]? = W.heap[b]?):KeepsFrom B W W'/\∀b,L b->W'.heap[b]? = W.heap[b]? :=
 ⟨⟨hs,fun k o h1 h2 _=>(hk k (bq.1 h2).1 (by omega) (by omega)).trans h2⟩,fun b hb=>by have:=hlo b hb;exact hk b (by omega) (by omega) (by omega)⟩
end
theorem U5 {st:List Int} {B:Nat} (x:Ev) (L:Nat->Prop):OwnFrom B (fun (_:Unit) W=>OO st x L W):=by
 intro s X Y row h hg hr;exact ⟨aB.grown h.1 hg fun r e=>(hr r e).2,h.2⟩
theorem U6 (S:Nat->Prop) (w:World) (v vs:Value) (s:kI) (st:List Int) (h:aP S w v s) (hs:fD s.ns s.P) (hb:s.bs.length=s.ns.length) (hI:af S w vs st) (hp:IA s.ns.length st) :
  Calls Tryz.prog 39 #[v,vs] w fun e w'=>Up w w'/\∃p n c,e=.returned (.tuple #[.slice p n c,.int .i64 (jK s.P st),.int .i64 0]):=by
 obtain ⟨np,nc,bp,bc,pp,pc,rfl,hN,hB,hP⟩:=aP.open h;obtain ⟨ip,ic,rfl,-,-⟩:=aB.open hI;have hI:af S w (.slice ip st.length ic) st:=hI;have hl:=hs.len;have DV:s.ns.length<=7:=hs.le;have hpos:0<s.ns.length:=hs.pos;have ni:=hp.len;have h2:=hp.two;have fo:=fun W (hW:Up w W)=>LV S W _ _ s st (h.keep (hW.kept S)) hs hb (af.keep hI (hW.kept S)) hp;have TN:=fun W (hW:Up w W)=>OC S W _ st (af.keep hI (hW.kept S)) (by omega) h2;have fK:=fun W (hW:Up w W)=>OZ S W _ s (h.keep (hW.kept S)) hs
 have aM:=Up.alloc w (.cells #[.slice np s.ns.length nc,.slice bp s.bs.length bc,.slice pp s.P.length pc] 36);have hx:=fQ w (.slice np s.ns.length nc) (.slice bp s.bs.length bc) (.slice pp s.P.length pc) 36;obtain ⟨x0,x1,x2,-,-,-⟩:=aQ hx;have YX:=aa (fo _ aM);have TN:=aa TN;have fK:=aa fK;have bU:=aa aM;have HX:=aa hx;have HI:=aa hI;have HS:=aa hs;have zl:=aa ni;have xV:=aa (Ir s.P st);have EM:Hid (s.ns.length<=7/\0<s.ns.length/\(bM st).length<=2/\s.P.length=s.ns.length):=⟨DV,hpos,h2,hl⟩
 clear h hN hB hP hI hs hb hp hl DV hpos ni h2 fo aM hx;refine (callsIn_wide (n:=9)).1 ?_;refine callsIn_of_wp_marks Tryz.func39 rfl trivial ?_;simp only [Tryz.ntmps39,gI,bB,eW,Nat.reduceAdd,Nat.reduceSub,jL,jM,gH,qI,dz,cw];gi_wp2_with fail;generalize w.alloc (.cells #[.slice np s.ns.length nc,.slice bp s.bs.length bc,.slice pp s.P.length pc] 36)=w1 at *;refine ⟨trivial,(callsIn_wide.2 YX.out).mono ?_⟩;rintro e w2 ⟨rfl,aK⟩
 have bF:=aa (bU.out.trans aK);have ko:=aa ((aO aK _ (bq.1 HX.out).1).trans HX.out);clear aK YX bU HX x0 x1 x2;gi_wp2_with fail;refine ⟨trivial,(callsIn_wide.2 (TN.out w2 bF.out)).mono ?_⟩;rintro e w3 ⟨rfl,ct⟩;have jA:=aa (bF.out.trans ct);have hx3:=(aO ct _ (bq.1 ko.out).1).trans ko.out;obtain ⟨x0,x1,x2,-,-,-⟩:=aQ hx3;clear ct TN bF ko hx3;gi_wp2_with fail;refine ⟨trivial,(callsIn_wide.2 (fK.out w3 jA.out)).mono ?_⟩;rintro e wc ⟨eB,cb,sb,rfl,hcb,eG,hct⟩
 have gF:=aa (jA.out.trans eB);have HCW:=aa hct;have bf:Hid (cb<wc.heap.size/\sb<wc.heap.size):=⟨hcb,eG⟩;clear eB hct hcb eG fK jA x0 x1 x2;gi_wp2_with fail;obtain ⟨fv,hfv⟩:∃fv,fv=Value.func (.func 106) #[] #[.pointer (some ⟨cb,0,none⟩),.pointer (some ⟨sb,0,none⟩)]:=⟨_,rfl⟩;obtain ⟨w5,Br⟩:∃w5,w5=((wc.alloc (.cells #[fv] 42)).alloc (.cells #[.slice none 0 0] 27)).alloc (.cells #[.int .i64 (-1)] 3):=⟨_,rfl⟩;have mG:Up wc w5:=by rw [Br];exact ((Up.alloc _ _).trans (Up.alloc _ _)).trans (Up.alloc _ _)
 have hs5:w5.heap.size=wc.heap.size+3:=by rw [Br];simp
 have hI5:lI wc s.P fv [] (fun _=>False) w5:=by
  refine ⟨mG,by omega,fun _ h=>h.elim,?_,⟨none,0,0,?_⟩,?_⟩
  ·rw [Br,blk_alloc_lt _ _ _ (by rw [aN,aN];omega),blk_alloc_lt _ _ _ (by rw [aN];omega)];exact blk_alloc_new _ _
  ·rw [Br,blk_alloc_lt _ _ _ (by simp)]
   have:=blk_alloc_new (wc.alloc (.cells #[fv] 42)) (.cells #[.slice none 0 0] 27)
   rwa [aN] at this
  ·have:=blk_alloc_new ((wc.alloc (.cells #[fv] 42)).alloc (.cells #[.slice none 0 0] 27)) (.cells #[.int .i64 (-1)] 3)
   rw [aN,aN] at this;rw [Br];exact this
 have KB:=aa hI5;have xX:=aa hs5;rw [<- hfv,<- Br];clear Br mG hI5 hs5;refine ⟨trivial,(callsIn_wide.2 (U1 w5 _ _ _)).mono ?_⟩;rintro e w9 ⟨rfl,Cb⟩;have zS:w9.heap.size=w5.heap.size+1:=by rw [Cb];simp
 have jD:Up w5 w9:=by rw [Cb];exact Up.alloc _ _
 have zT:=mE w5 (.slice ip st.length ic) 27;rw [<- Cb] at zT;have hst:af Any wc (.slice ip st.length ic) st:=(af.keep HI.out (gF.out.kept _)).sub fun _ _ _=>trivial;have hseq:=OY (w0:=wc) (w9:=w9) (Bs:=w5.heap.size) (N:=(eR (bM st) st).length) 8 (st:=st) (by have:=zl.out;have:=EM.out.2.1;omega) (by have:=zl.out;have:=EM.out.1;omega) EM.out.2.2.1 (by rw [xX.out];omega) zT hst (aj _)
 have O7:lI wc s.P fv [] (fun b=>b=w5.heap.size) w9:=by have h1:=KB.out.same (KB.out.up.trans jD) jD.size fun b hb=>aO jD b (by rw [xX.out];omega);exact ⟨h1.up,h1.sz,fun b hb=>by rw [hb,xX.out];exact aj _,h1.c8,h1.c9,h1.c10⟩
 have IQ:Hid (wc.heap.size+3<=w9.heap.size):=by unfold Hid;rw [zS,xX.out];omega
 have H99:Hid (w9.heap.size=w5.heap.size+1):=zS;clear zS jD zT hst Cb;gi_wp2_with fail;apply F2 (F:=Fence.wide) (n:=9) (P:=Tryz.prog) (ps:=#[25]) (w:=w9) rfl (by omega) (gf:=108) (lb:=#[.pointer (some ⟨w5.heap.size,0,none⟩)]) rfl trivial (enters_of Tryz.func108 (by kernel_rfl) rfl)
  hseq (fun b hb=>by rw [hb];have:=IQ.out;have h5:=xX.out;rw [H99.out];exact kC _) O7.up (fun _=>rfl) (fun x L=>U5 x L)
  (lI wc s.P fv) lI.ab (lI.own IQ.out) (fun id pre W=>id=0/\lI wc s.P fv pre (fun _=>False) W/\oH s.P (pre.map (·.2))=0) (fun _=>by
   intro q X Y row h hg hr
   exact ⟨h.1,lI.own IQ.out _ q X Y row h.2.1 hg hr,h.2.2⟩) O7
 ·intro l x W K hK
  gi_wp2_with (rw [iM _ _ _ (fun c h=>by cases h)];go_simp;try go_bits);exact hK
 ·rintro l pre ⟨va,all⟩ L W hI hG jh uy hlen
  obtain ⟨IU,hal⟩:=hG;dsimp only at IU hal;obtain ⟨ap,ac,rfl,-,-⟩:=aB.open IU;have IU:af L W (.slice ap all.length ac) all:=IU;have k7:=aa (LY _ L W _ cb sb s all (HCW.out.up hI.up) HS.out IU (by rw [hal,zl.out]));have YY:Hid (∀W1,Up W W1->Calls Tryz.prog 33 #[.slice ap all.length ac] W1 (xO W1 3 (all.map (Value.int .i64)))):=fun W1 hu=>tV L W1 _ all (af.keep IU (hu.kept _)) (by have:=zl.out;have:=EM.out.1;omega);unfold xO at YY;have TP:Hid (∀b,L b->wc.heap.size+3<=b/\b<W.heap.size):=fun b hb=>⟨hI.lo b hb,(uy b hb).2⟩
  have qa:=aa (R5 s.P (pre.map (·.2)) all);have Ot:=aa (O6 s.P (B:=7) (by decide) (fun al=>by have:=AX (P:=s.P) al;have:=EM.out.1;have:=EM.out.2.2.2;omega) (pre.map (·.2)));have rE:Hid (0<=dx s.P all/\dx s.P all<=7):=⟨wA _ _,by have:=AX (P:=s.P) all;have:=EM.out.1;have:=EM.out.2.2.2;omega⟩;obtain ⟨b8,b9,EN,f9,f10⟩:=hI.cells;have HI:=aa hI;rw [hfv] at b8;clear hI IU jh uy hlen hal b9 f9 f10 EN O7 hseq;dsimp only;gi_wp2_with (rw [iM _ _ _ (fun c h=>by cases h)];go_simp;try go_bits)
  refine ⟨trivial,(callsIn_wide.2 k7.out).mono ?_⟩;rintro e W1 ⟨rfl,aM⟩;have hW0:=HI.out.sz;have FU:=HI.out.same (HI.out.up.trans aM) aM.size fun b hb=>aO aM b (by omega);obtain ⟨-,⟨p9,n9,c9,b9⟩,EN,f9,f10⟩:=FU.cells;have Co:=aa FU;have qF:=aa aM;have tq:Hid ((pre++[((.slice ap all.length ac:Value),all)]).map (·.2)=pre.map (·.2)++[all]):=by unfold Hid;simp
  obtain ⟨Bi,hm2⟩:=Ot.out;obtain ⟨hc1,hc2⟩:=rE.out;clear FU aM k7 hW0 b8;generalize hmv:oH s.P (pre.map (·.2))=mv at *;have HMV:=aa hmv;clear hmv;generalize dx s.P all=cv at *;by_cases e1:mv<0
  case' neg =>
   (have d1:decide (mv<0)=false:=by simp;omega);by_cases e2:cv<mv
   case' neg =>
    (have d2:decide (cv<mv)=false:=by simp;omega);(have yM:Hid (oH s.P ((pre++[((.slice ap all.length ac:Value),all)]).map (·.2))=mv):=by unfold Hid;rw [tq.out,qa.out,if_neg (by omega)]);have IV:Hid (lI wc s.P fv (pre++[((.slice ap all.length ac:Value),all)]) L W1):=⟨Co.out.up,Co.out.sz,Co.out.lo,Co.out.c8,Co.out.c9,by rw [yM.out];have h:=Co.out.c10;rw [HMV.out] at h;exact h⟩;have Bw:=aa (KA (W:=W) (W':=W1) (L:=L) IQ.out TP.out qF.out.size fun b hb _ _=>aO qF.out b hb);clear e1 e2 qa;by_cases hz:mv=0
    ·have d3:(mv==0)=true:=by simp [hz]
     have HZ:=aa hz;clear hz;gi_wp2_with (rw [iM _ _ _ (fun c h=>by cases h)];go_simp;try go_bits);exact ⟨Bw.out.1,rfl,IV.out.none,yM.out.trans HZ.out⟩
    ·have d3:(mv==0)=false:=by simpa using hz
     clear hz;gi_wp2_with (rw [iM _ _ _ (fun c h=>by cases h)];go_simp;try go_bits);exact ⟨Bw.out.1,IV.out.up,Bw.out.2,IV.out⟩
   case' pos =>
    (have d2:decide (cv<mv)=true:=by simp [e2]);(have yM:Hid (oH s.P ((pre++[((.slice ap all.length ac:Value),all)]).map (·.2))=cv):=by unfold Hid;rw [tq.out,qa.out,if_pos (.inr e2)]);clear e1 e2 qa;gi_wp2_with (rw [iM _ _ _ (fun c h=>by cases h)];go_simp;try go_bits)
  case' pos =>
   (have d1:decide (mv<0)=true:=by simp [e1]);(have yM:Hid (oH s.P ((pre++[((.slice ap all.length ac:Value),all)]).map (·.2))=cv):=by unfold Hid;rw [tq.out,qa.out,if_pos (.inl e1)]);clear e1 qa;gi_wp2_with (rw [iM _ _ _ (fun c h=>by cases h)];go_simp;try go_bits)
  all_goals
   refine ⟨trivial,(callsIn_wide.2 (YY.out W1 qF.out)).mono ?_⟩;rintro e W2 ⟨aK,ov,rfl,hown⟩;obtain ⟨og,oc,rfl,-⟩:=hown.form (n:=all.length) (by simp);have hW1:=Co.out.sz;have YZ:=Co.out.same (Co.out.up.trans aK) aK.size fun b hb=>aO aK b (by omega);have cZ:=YZ.set (p:=og) (n:=all.length) (c:=oc) yM.out.symm;have IV:=aa cZ;have bF:Hid (Up W W2):=qF.out.trans aK
   have Bw:=aa (KA (W:=W) (W':=(W2.setCell ⟨wc.heap.size+1,0,none⟩ (.slice og all.length oc)).setCell ⟨wc.heap.size+1+1,0,none⟩ (.int .i64 cv)) (L:=L) IQ.out TP.out (by rw [gX,gX];exact bF.out.size) fun b hb h1 h2=>by rw [blk_setCell_other _ _ _ _ h2,blk_setCell_other _ _ _ _ h1];exact aO bF.out b hb);clear b9 EN f9 f10;obtain ⟨-,⟨p9',n9',c9',b9⟩,EN,f9,f10⟩:=YZ.cells;obtain ⟨-,-,aaX,-,-⟩:=cZ.cells;rw [yM.out] at aaX;clear hown YZ cZ aK hW1;by_cases hz:cv=0
   ·have d3:(cv==0)=true:=by simp [hz]
    have HZ:=aa hz;clear hz;gi_wp2_with (rw [iM _ _ _ (fun c h=>by cases h)];go_simp;try go_bits);exact ⟨Bw.out.1,rfl,IV.out.none,yM.out.trans HZ.out⟩
   ·have d3:(cv==0)=false:=by simpa using hz
    clear hz;gi_wp2_with (rw [iM _ _ _ (fun c h=>by cases h)];go_simp;try go_bits);exact ⟨Bw.out.1,IV.out.up,Bw.out.2,IV.out⟩
 ·intro D xs L W hD hS hI hK
  obtain ⟨-,⟨p9,n9,c9,b9⟩,EN,f9,f10⟩:=hI.cells;rw [hS,Kz] at EN;have HI:=aa hI;have HK:=aa hK;have hsc:=xV.out;have hmx:max (jK s.P st) 0=jK s.P st:=by omega
  clear hI hS hK hseq O7 f9 f10;gi_wp2_with fail;gi_quiet (fail)
  have dy:Up w (W.drewN nq):=(gF.out.trans HI.out.up).trans (Up.drewN W nq);have hkx:(W.drewN nq).heap[D]? = some (.deferred (some [])):=HK.out;generalize W.drewN nq=X at *;gi_wp2_with fail;have hq:∀b,b≠D->(X.putObj D (.deferred none)).heap[b]? = X.heap[b]?:=fun b hb=>eA hb;have hwD:w.heap.size<=D:=by have h1:=gF.out.size;have h2:=IQ.out;omega
  refine ⟨by simp,.inl ⟨_,_,rfl,run_takeDeferred hkx,?_⟩⟩;exact ⟨.tuple #[.slice p9 n9 c9,.int .i64 (jK s.P st),.int .i64 0],by simp [results,Tryz.results39,go_sem],⟨dy.os,dy.tape,dy.output,by have h:=dy.size;simpa using h,fun b hb=>(hq b (by omega)).trans (dy.block b hb)⟩,_,_,_,rfl⟩
 ·intro D id pre W hD SV hI hK
  obtain ⟨rfl,hI,hz⟩:=hI;have hsz:=U4 SV hz;obtain ⟨-,⟨p9,n9,c9,b9⟩,EN,f9,f10⟩:=hI.cells;rw [hz] at EN;have HI:=aa hI;have HK:=aa hK;have fW:=aa hsz;clear hI SV hz hsz hK hseq O7 f9 f10;gi_wp2_with fail;gi_quiet (fail)
  have dy:Up w (W.drewN nq):=(gF.out.trans HI.out.up).trans (Up.drewN W nq);have hkx:(W.drewN nq).heap[D]? = some (.deferred (some [])):=HK.out;generalize W.drewN nq=X at *;gi_wp2_with fail;have hq:∀b,b≠D->(X.putObj D (.deferred none)).heap[b]? = X.heap[b]?:=fun b hb=>eA hb;have hwD:w.heap.size<=D:=by have h1:=gF.out.size;have h2:=IQ.out;omega
  refine ⟨by simp,.inl ⟨_,_,rfl,run_takeDeferred hkx,?_⟩⟩;exact ⟨.tuple #[.slice p9 n9 c9,.int .i64 0,.int .i64 0],by simp [results,Tryz.results39,go_sem],⟨dy.os,dy.tape,dy.output,by have h:=dy.size;simpa using h,fun b hb=>(hq b (by omega)).trans (dy.block b hb)⟩,_,_,_,by rw [fW.out]⟩
theorem AY (S:Nat->Prop) (w:World) (v vs:Value) (s:kI) (st:List Int) (h:aP S w v s) (hs:fD s.ns s.P) (hb:s.bs.length=s.ns.length) (hI:af S w vs st) (hp:IA s.ns.length st) :
  Calls Tryz.prog 20 #[v,vs] w fun e w'=>e=.returned (.tuple #[.int .i64 (jK s.P st),.int .i64 0])/\Up w w':=by
 obtain ⟨np,nc,bp,bc,pp,pc,rfl,hN,hB,hP⟩:=aP.open h;obtain ⟨ip,ic,rfl,-,-⟩:=aB.open hI;have aM:=Up.alloc w (.cells #[.slice np s.ns.length nc,.slice bp s.bs.length bc,.slice pp s.P.length pc] 36);obtain ⟨x0,x1,x2,-,-,-⟩:=aQ (fQ w (.slice np s.ns.length nc) (.slice bp s.bs.length bc) (.slice pp s.P.length pc) 36);have HC:=aa (U6 S _ _ _ s st (h.keep (aM.kept S)) hs hb (af.keep hI (aM.kept S)) hp);have bU:=aa aM;clear h hN hB hP hI aM hs hb hp;generalize s.ns.length=n at *;generalize s.bs.length=nb at *;generalize s.P.length=ji at *
 go_in;go_wp2_with fail;generalize w.alloc (.cells #[.slice np n nc,.slice bp nb bc,.slice pp ji pc] 36)=w1 at *;refine HC.out.mono ?_;rintro e w2 ⟨aK,p,q,c,rfl⟩;have bF:=aa (bU.out.trans aK);clear aK HC;go_wp2;go_ret2;exact ⟨rfl,bF.out⟩
end Go.Proofs.YtfomhlbhcifgbaaGreatDoor
