/- Plain: the root of binary trees moved; the sources in another order. Plain: with the .. -/
import Derived.Test.YthgabkgmkolobaaGreatQ32
import Derived.Test.YthgabkgmkolobaaGreatQ30
set_option maxRecDepth 100000
namespace Go.Proofs.YthgabkgmkolobaaGreat
section
instance aaN (x:ByteArray) (l:List ByteArray):Decidable (x∈l):=decidable_of_iff (l.any (fun y=>decide (y=x))=true) (by simp)
def eO (x:ByteArray):BT ByteArray->BT ByteArray->BT ByteArray
 | .leaf _,B=>B
 | .node a1 a2,B=>if x∈a1.aP then eO x a1 (.node a2 B) else eO x a2 (.node a1 B)
def iF (x:ByteArray) (A B:BT ByteArray):BT ByteArray:=if x∈A.aP then eO x A B else eO x B A
theorem nZ {x:ByteArray}:∀(A:BT ByteArray) {B B':BT ByteArray},B.bU B'->(eO x A B).bU (eO x A B')
 | .leaf _,_,_,h=>h
 | .node a1 a2,B,B',h=>by
  rw [eO,eO]
  split
  ·exact nZ a1 (.node (bU.refl _) h)
  ·exact nZ a2 (.node (bU.refl _) h)
theorem rW {x:ByteArray}:∀(A B:BT ByteArray),x∈A.aP->(x::(eO x A B).aP).Perm (A.aP++B.aP)
 | .leaf y,B,h=>by
  have:x=y:=by simpa [BT.aP] using h
  subst this;exact jP _
 | .node a1 a2,B,h=>by
  rw [eO]
  split
  ·rename_i h1
   refine (rW a1 (.node a2 B) h1).trans ?_
   rw [BT.aP,BT.aP,bZ]
  ·rename_i h1
   have h2:x∈a2.aP:=(cu.1 h).resolve_left h1
   refine (rW a2 (.node a1 B) h2).trans ?_
   rw [BT.aP,BT.aP,<- bZ]
   exact oo.append_right _
theorem rX {x:ByteArray}:∀(A B:BT ByteArray),x∈A.aP->∀m cost b6,Bk m cost->∀c,uZ m cost b6 (dy A) (dy B) c↔uZ m cost b6 (.node x []) (dy (eO x A B)) c
 | .leaf y,B,h,m,cost,b6,M,c=>by
  have:x=y:=by simpa [BT.aP] using h
  subst this;exact Iff.rfl
 | .node a1 a2,B,h,m,cost,b6,M,c=>by
  rw [eO]
  split
  ·rename_i h1
   exact (Il M (Xw:=ByteArray.empty) (K:=[dy a2]) (jP _) c).trans (rX a1 (.node a2 B) h1 m cost b6 M c)
  ·rename_i h1
   have h2:x∈a2.aP:=(cu.1 h).resolve_left h1
   exact (Il M (Xw:=ByteArray.empty) (K:=[dy a1]) (List.Perm.swap _ _ _) c).trans (rX a2 (.node a1 B) h2 m cost b6 M c)
theorem Mn {y:ByteArray} {a1 a2 B:BT ByteArray} (hn:(a1.aP++a2.aP++B.aP).Nodup) (hy:y∈a1.aP++a2.aP++B.aP):(iF y (.node a1 a2) B).bU (iF y a1 (.node a2 B))/\(iF y (.node a1 a2) B).bU (iF y a2 (.node a1 B)):=by
 obtain ⟨n1,n2,n3⟩:=gy.1 hn;obtain ⟨m1,m2,m3⟩:=gy.1 n1;unfold iF;have hl:∀a b:BT ByteArray,(BT.node a b).aP=a.aP++b.aP:=fun _ _=>rfl;have hb:∀z,z∈B.aP->z∉a1.aP/\z∉a2.aP:=fun z hz=>⟨fun h=>n3 z (zy _ h) z hz rfl,fun h=>n3 z (zA _ h) z hz rfl⟩;rcases cu.1 hy with h | h
 ·rw [if_pos (show y∈(BT.node a1 a2).aP from h),eO]
  rcases cu.1 h with h1 | h1
  ·have h2:y∉a2.aP:=fun e=>m3 y h1 y e rfl
   rw [if_pos h1,if_pos h1,if_neg h2,eO,if_pos h1];exact ⟨bU.refl _,nZ a1 (.swap (bU.refl _) (bU.refl _))⟩
  ·have h2:y∉a1.aP:=fun e=>m3 y e y h1 rfl
   rw [if_neg h2,if_neg h2,if_pos h1,eO,if_pos h1];exact ⟨nZ a2 (.swap (bU.refl _) (bU.refl _)),bU.refl _⟩
 ·obtain ⟨b1,b2⟩:=hb y h
  rw [if_neg (show ¬y∈(BT.node a1 a2).aP from fun e=>(cu.1 (hl a1 a2 ▸ e)).elim b1 b2),if_neg b1,if_neg b2,eO,eO,if_neg b2,if_neg b1];exact ⟨nZ B (.swap (bU.refl _) (bU.refl _)),nZ B (bU.refl _)⟩
theorem bU.trans:∀ {a b c:BT ByteArray},a.bU b->b.bU c->a.bU c
 | _,_,_,.leaf x,h=>h
 | _,_,_,.node h1 h2,.node h3 h4=>.node (bU.trans h1 h3) (bU.trans h2 h4)
 | _,_,_,.node h1 h2,.swap h3 h4=>.swap (bU.trans h1 h3) (bU.trans h2 h4)
 | _,_,_,.swap h1 h2,.node h3 h4=>.swap (bU.trans h1 h4) (bU.trans h2 h3)
 | _,_,_,.swap h1 h2,.swap h3 h4=>.node (bU.trans h1 h4) (bU.trans h2 h3)
theorem rY {x y:ByteArray}:∀(A B:BT ByteArray),(A.aP++B.aP).Nodup->x∈A.aP->y∈A.aP++B.aP->(iF y A B).bU (iF y (.leaf x) (eO x A B))
 | .leaf z,B,_,h,_=>by
  have:x=z:=by simpa [BT.aP] using h
  subst this;exact bU.refl _
 | .node a1 a2,B,hn,h,hy=>by
  rw [BT.aP] at hn hy
  obtain ⟨s1,s2⟩:=Mn hn hy
  rw [eO]
  split
  ·rename_i h1
   refine bU.trans s1 (rY a1 (.node a2 B) ?_ h1 ?_)
   ·rw [BT.aP,<- bZ];exact hn
   ·rw [BT.aP,<- bZ];exact hy
  ·rename_i h1
   have h2:x∈a2.aP:=(cu.1 h).resolve_left h1
   have hp:(a1.aP++a2.aP++B.aP).Perm (a2.aP++(BT.node a1 B).aP):=by
    rw [BT.aP,<- bZ]
    exact oo.append_right _
   refine bU.trans s2 (rY a2 (.node a1 B) (hp.nodup hn) h2 (hp.mem_iff.1 hy))
theorem OY {x:ByteArray} {A A' B B':BT ByteArray} (h1:A.bU A') (h2:B.bU B') (hx:x∈A.aP++B.aP) (hn:(A.aP++B.aP).Nodup):(iF x A B).bU (iF x A' B'):=by
 have key:∀ {A A':BT ByteArray},A.bU A'->∀ {B B':BT ByteArray},B.bU B'->A.aP.Nodup->x∈A.aP->(eO x A B).bU (eO x A' B'):=by
  intro A A' h
  induction h with
  | leaf z=>intro B B' h2 _ _;exact h2
  | @node a a' b b' g1 g2 i1 i2 =>
   intro B B' h2 hn hx;obtain ⟨n1,n2,n3⟩:=gy.1 hn;rw [eO,eO];have hiff:x∈a.aP↔x∈a'.aP:=(bU.perm g1).mem_iff;by_cases e:x∈a.aP
   ·rw [if_pos e,if_pos (hiff.1 e)];exact i1 (.node g2 h2) n1 e
   ·rw [if_neg e,if_neg (fun q=>e (hiff.2 q))];exact i2 (.node g1 h2) n2 ((cu.1 hx).resolve_left e)
  | @swap a a' b b' g1 g2 i1 i2 =>
   intro B B' h2 hn hx;obtain ⟨n1,n2,n3⟩:=gy.1 hn;rw [eO,eO];have hiff:x∈a.aP↔x∈a'.aP:=(bU.perm g1).mem_iff;have Ti:x∈b.aP↔x∈b'.aP:=(bU.perm g2).mem_iff;by_cases e:x∈a.aP
   ·rw [if_pos e,if_neg (fun q=>n3 x e x (Ti.2 q) rfl)];exact i1 (.node g2 h2) n1 e
   ·have e2:=(cu.1 hx).resolve_left e
    rw [if_neg e,if_pos (Ti.1 e2)];exact i2 (.node g1 h2) n2 e2
 obtain ⟨n1,n2,n3⟩:=gy.1 hn;unfold iF;have hiff:x∈A.aP↔x∈A'.aP:=(bU.perm h1).mem_iff;by_cases e:x∈A.aP
 ·rw [if_pos e,if_pos (hiff.1 e)];exact key h1 h2 n1 e
 ·rw [if_neg e,if_neg (fun q=>e (hiff.2 q))];exact key h2 h1 n2 ((cu.1 hx).resolve_left e)
def jf (acw:List ByteArray) (x:ByteArray) (r:BT ByteArray):BT ByteArray:=iF x (.leaf (gs acw 0)) r
section
variable {acw names':List ByteArray} {r s:BT ByteArray}
theorem zg (h:dU acw) (hp:acw.Perm names') (h':dU names') (hr:r.aP.Perm acw.tail):(jf acw (gs names' 0) r).aP.Perm names'.tail:=by
 have h1:=(mF h hr).trans hp;have hm:gs names' 0∈(BT.leaf (gs acw 0)).aP++r.aP:=h1.mem_iff.2 (by rw [<- h'.cons];simp [gs]);refine (List.perm_cons (gs names' 0)).1 (List.Perm.trans ?_ (h1.trans (List.Perm.of_eq h'.cons.symm)));unfold jf iF;split
 ·rename_i e;exact rW _ _ e
 ·rename_i e
  exact (rW _ _ ((cu.1 hm).resolve_left e)).trans oo
theorem EX (h:dU acw) (hp:acw.Perm names') (h':dU names') (hr:r.aP.Perm acw.tail):(jf names' (gs acw 0) (jf acw (gs names' 0) r)).bU r:=by
 have h1:=(mF h hr).trans hp;have hm:gs names' 0∈(BT.leaf (gs acw 0)).aP++r.aP:=h1.mem_iff.2 (by rw [<- h'.cons];simp [gs]);have hn:((BT.leaf (gs acw 0)).aP++r.aP).Nodup:=h1.symm.nodup h'.nd;have h0:gs acw 0∈(BT.leaf (gs acw 0)).aP++r.aP:=by simp [BT.aP]
 have hb:iF (gs acw 0) (.leaf (gs acw 0)) r=r:=by unfold iF;rw [if_pos (by simp [BT.aP])];rfl
 unfold jf;by_cases e:gs names' 0∈(BT.leaf (gs acw 0)).aP
 ·have h2:=rY (y:=gs acw 0) _ _ hn e h0
  rw [hb] at h2;have h3:iF (gs names' 0) (.leaf (gs acw 0)) r=eO (gs names' 0) (.leaf (gs acw 0)) r:=if_pos e;rw [h3];exact bU.symm h2
 ·have e2:=(cu.1 hm).resolve_left e
  have hc:(r.aP++(BT.leaf (gs acw 0)).aP).Nodup:=oo.nodup hn;have h2:=rY (x:=gs names' 0) (y:=gs acw 0) _ _ hc e2 (by simp [BT.aP]);have h3:iF (gs names' 0) (.leaf (gs acw 0)) r=eO (gs names' 0) r (.leaf (gs acw 0)):=if_neg e;have h4:iF (gs acw 0) r (.leaf (gs acw 0))=r:=by unfold iF;rw [if_neg fun q=>(gy.1 hn).2.2 _ (by simp [BT.aP]) _ q rfl];rfl
  rw [h4] at h2;rw [h3];exact bU.symm h2
theorem Un (h:dU acw) (hp:acw.Perm names') (h':dU names') (hr:r∈rt acw.length acw.tail):∃s∈rt names'.length names'.tail,(jf acw (gs names' 0) r).bU s :=
 Ii names'.length names'.tail _ (by simp) h'.Dr (zg h hp h' (iX _ _ _ hr))
def Mo (acw names':List ByteArray) (f:BT ByteArray->BT ByteArray):Prop:=∀r∈rt acw.length acw.tail,f r∈rt names'.length names'.tail/\(jf acw (gs names' 0) r).bU (f r)
theorem KP (h:dU acw) (hp:acw.Perm names') (h':dU names'):∃f,Mo acw names' f:=by
 have h1:∀r:BT ByteArray,∃s,r∈rt acw.length acw.tail->s∈rt names'.length names'.tail/\(jf acw (gs names' 0) r).bU s:=fun r=>by
  by_cases e:r∈rt acw.length acw.tail
  ·obtain ⟨s,h1,h2⟩:=Un h hp h' e
   exact ⟨s,fun _=>⟨h1,h2⟩⟩
  ·exact ⟨r,fun q=>absurd q e⟩
 obtain ⟨f,hf⟩:=Classical.axiomOfChoice h1;exact ⟨f,fun r hr=>hf r hr⟩
theorem RH {f:BT ByteArray->BT ByteArray} (hf:Mo acw names' f) (h:dU acw) (hp:acw.Perm names') (h':dU names') (hr:r∈rt acw.length acw.tail) (hs:s∈rt acw.length acw.tail) (e:f r=f s):r=s:=by
 obtain ⟨_,r1⟩:=hf _ hr;obtain ⟨_,s1⟩:=hf _ hs;rw [e] at r1;have Vp:(jf acw (gs names' 0) r).bU (jf acw (gs names' 0) s):=bU.trans r1 (bU.symm s1);have hlr:=iX _ _ _ hr;have hls:=iX _ _ _ hs;have t1:=EX h hp h' hlr;have t2:=EX h hp h' hls;have mY:=zg h hp h' hlr;have hu:((BT.leaf (gs names' 0)).aP++(jf acw (gs names' 0) r).aP).Perm acw:=(mF h' mY).trans hp.symm;have h3:(jf names' (gs acw 0) (jf acw (gs names' 0) r)).bU (jf names' (gs acw 0) (jf acw (gs names' 0) s)) :=
  OY (bU.refl _) Vp (hu.mem_iff.2 (by rw [<- h.cons];simp [gs])) (hu.symm.nodup h.nd)
 exact Ik _ _ _ _ h.Dr hr hs (bU.trans (bU.symm t1) (bU.trans h3 t2))
theorem OZ {f:BT ByteArray->BT ByteArray} (hf:Mo acw names' f) (h:dU acw) (hp:acw.Perm names') (h':dU names') (hr:r∈rt acw.length acw.tail):∀m cost b6,Bk m cost->(∀s c,iE m cost b6 (uR acw r) s c->∃s' c',c'<=c/\iE m cost b6 (uR names' (f r)) s' c')/\(∀s c,iE m cost b6 (uR names' (f r)) s c->∃s' c',c'<=c/\iE m cost b6 (uR acw r) s' c'):=by
 intro m cost b6 M;obtain ⟨m1,m2⟩:=hf _ hr;have hlr:=iX _ _ _ hr;have mY:=zg h hp h' hlr;have ho:=Ml h' mY;have e:aY (dy (uB names' (jf acw (gs names' 0) r)))=uR names' (f r):=Xv (BT.bU.node (.leaf _) m2) ho;have h1:=(mF h hlr).trans hp;have hm:gs names' 0∈(BT.leaf (gs acw 0)).aP++r.aP:=h1.mem_iff.2 (by rw [<- h'.cons];simp [gs]);have hv:∀c,uZ m cost b6 (.node (gs acw 0) []) (dy r) c↔uZ m cost b6 (.node (gs names' 0) []) (dy (jf acw (gs names' 0) r)) c:=fun c=>by
  unfold jf iF;split
  ·rename_i e;exact rX _ _ e m cost b6 M c
  ·rename_i e
   have e2:=(cu.1 hm).resolve_left e;refine Iff.trans ?_ (rX _ _ e2 m cost b6 M c);(have hsw:∀A B:RT,uZ m cost b6 A B c->uZ m cost b6 B A c:=fun A B=>by rintro ⟨s,u,a,b,q1,q2,rfl⟩;exact ⟨u,s,b,a,q2,q1,by have:=M.sym s u (gY q1) (gY q2);omega⟩);exact ⟨hsw _ _,hsw _ _⟩
 rw [<- e];unfold uR;constructor
 ·intro s c hc
  obtain ⟨c',q1,q2⟩:=Io M ((qb _ _ _).1 hc);obtain ⟨s',q3⟩:=Im M (nm:=ByteArray.empty) ((hv c').1 q1);exact ⟨s',c',q2,(qb _ _ _).2 q3⟩
 ·intro s c hc
  obtain ⟨c',q1,q2⟩:=Io M ((qb _ _ _).1 hc);obtain ⟨s',q3⟩:=Im M (nm:=ByteArray.empty) ((hv c').2 q1);exact ⟨s',c',q2,(qb _ _ _).2 q3⟩
end
end
section
section
variable {t u:aF} {acw names':List ByteArray} {acy cM:List (List Int)}
structure nt (acw names':List ByteArray) (acy cM:List (List Int)):Prop where
 ok:qc acw acy
 ok':qc names' cM
 perm:acw.Perm names'
 wd:(gl cM 0).length=(gl acy 0).length
 b6:∀p,p<(gl acy 0).length->rj acw (cI acy p)=rj names' (cI cM p)
theorem nt.symm (h:nt acw names' acy cM):nt names' acw cM acy:=⟨h.ok',h.ok,h.perm.symm,h.wd.symm,fun p hp=>(h.b6 p (by rw [<- h.wd];exact hp)).symm⟩
theorem AB (h:nt acw names' acy cM) (ht:xw t acw) (hu:xw u names') (hc:∀m cost b6,Bk m cost->(∀x:ByteArray,x.size=0->b6 x<0)->∀s c,iE m cost b6 (iy t) s c->∃s' c',c'<=c/\iE m cost b6 (iy u) s' c'):cE u names' cM<=cE t acw acy:=by
 unfold cE;rw [h.wd];refine tZ fun p hp=>?_;obtain ⟨⟨s,h1⟩,_⟩:=EW (b6:=rj acw (cI acy p)) (nY h.ok ht hp) fun i hi hk=>KO ht hi hk;obtain ⟨_,h2⟩:=EW (b6:=rj names' (cI cM p)) (nY h.ok' hu (by rw [h.wd];exact hp)) fun i hi hk=>KO hu hi hk;rw [<- h.b6 p hp] at h2;obtain ⟨s',c',h3,h4⟩:=hc _ _ (rj acw (cI acy p)) Xz (fun x hx=>by unfold rj;rw [if_pos hx];omega) _ _ h1;have:=h2 s' c' h4;omega
theorem Cz {f:BT ByteArray->BT ByteArray} (hf:Mo acw names' f) (h:nt acw names' acy cM) {r:BT ByteArray} (hr:r∈rt acw.length acw.tail):cE (flat (uR names' (f r))) names' cM=cE (flat (uR acw r)) acw acy:=by
 have h1:=OZ hf h.ok.nm h.perm h.ok'.nm hr;have h2:=(hf _ hr).1;have o1:=(r9 h.ok.nm (List.mem_map_of_mem (qa.2 ⟨r,hr,rfl⟩))).1;have o2:=(r9 h.ok'.nm (List.mem_map_of_mem (qa.2 ⟨_,h2,rfl⟩))).1;refine Int.le_antisymm ?_ ?_
 ·exact AB h o1 o2 (by rw [l5,l5];exact fun m cost b6 M _=>(h1 m cost b6 M).1)
 ·exact AB h.symm o2 o1 (by rw [l5,l5];exact fun m cost b6 M _=>(h1 m cost b6 M).2)
theorem EY {α:Type} [DecidableEq α]:∀ {l m:List α},l.Nodup->(∀x∈l,x∈m)->l.length<=m.length
 | [],_,_,_=>aI _
 | a::l,m,hn,h=>by
  obtain ⟨h1,h2⟩:=gz.1 hn
  have ha:=h a (by simp)
  have h3:=EY (m:=m.erase a) h2 fun x hx=>(List.mem_erase_of_ne (fun e=>h1 (by rw [<- e];exact hx))).2 (h x (by simp [hx]))
  rw [List.length_erase_of_mem ha] at h3
  have:=List.length_pos_of_mem ha
  simp only [aO]
  omega
def Ds (acw:List ByteArray) (acy:List (List Int)):List (BT ByteArray):=(rt acw.length acw.tail).filter fun r=>decide (cE (flat (uR acw r)) acw acy=eu acw acy)
theorem Iy (acw:List ByteArray) (acy:List (List Int)):(nC acw acy).length=(Ds acw acy).length:=by
 unfold nC allT bQ Ds;rw [List.filter_map,aD,((kF _).filter _).length_eq,List.filter_map,aD];rfl
theorem rZ (h:nt acw names' acy cM):eu names' cM<=eu acw acy:=by
 obtain ⟨f,hf⟩:=KP h.ok.nm h.perm h.ok'.nm;obtain ⟨_,_,t,ht,e⟩:=AA h.ok;obtain ⟨_,q,hq,rfl⟩:=r9 h.ok.nm ht;obtain ⟨r,hr,rfl⟩:=qa.1 hq;rw [<- e,<- Cz hf h hr];exact (AA h.ok').1 _ (List.mem_map_of_mem (qa.2 ⟨_,(hf _ hr).1,rfl⟩))
theorem Iz (h:nt acw names' acy cM):(Ds acw acy).length<=(Ds names' cM).length:=by
 classical
 obtain ⟨f,hf⟩:=KP h.ok.nm h.perm h.ok'.nm;have hl:eu names' cM=eu acw acy:=Int.le_antisymm (rZ h) (rZ h.symm);have hn:((Ds acw acy).map f).Nodup:=by show List.Pairwise _ _;rw [List.pairwise_map];refine List.Pairwise.imp_of_mem ?_ ((Bi _ _ h.ok.nm.Dr).filter _);intro a b ha hb hab e;exact hab (RH hf h.ok.nm h.perm h.ok'.nm (ny.1 ha).1 (ny.1 hb).1 e)
 have:=EY hn (m:=Ds names' cM) fun x hx=>by obtain ⟨r,hr,rfl⟩:=di.1 hx;obtain ⟨r1,r2⟩:=ny.1 hr;have r2:=of_decide_eq_true r2;refine ny.2 ⟨(hf _ r1).1,decide_eq_true ?_⟩;rw [Cz hf h r1,r2,hl]
 rwa [aD] at this
theorem RI (h:nt acw names' acy cM):eu names' cM=eu acw acy/\(nC names' cM).length=(nC acw acy).length:=by
 refine ⟨Int.le_antisymm (rZ h) (rZ h.symm),?_⟩;rw [Iy,Iy];exact Nat.le_antisymm (Iz h.symm) (Iz h)
theorem Dt {st:List Int} (hn:∀j k,j<k->k<acw.length->gs acw k≠gs acw j) {x:ByteArray} (h0:x.size≠0):(∃i,i<acw.length/\gs acw i=x/\rj acw st x=gi st i)\/((∀i,i<acw.length->gs acw i≠x)/\rj acw st x = -1):=by
 unfold rj;rw [if_neg h0];by_cases e:0<=iW acw x
 ·rw [if_pos e]
  obtain ⟨i,hi,rfl⟩:=zR.1 e;exact .inl ⟨i,hi,rfl,by rw [Tf hn hi,jd]⟩
 ·rw [if_neg e]
  exact .inr ⟨fun i hi e2=>e (zR.2 ⟨i,hi,e2⟩),rfl⟩
theorem Mp (h:qc acw acy) {k:Nat} (hk:k<acw.length):nt acw (acw.drop k++acw.take k) acy (acy.drop k++acy.take k):=by
 have hp:acw.Perm (acw.drop k++acw.take k):=by
  have:=oo (l₁:=acw.take k) (l₂:=acw.drop k)
  rwa [qm] at this
 have hnm:dU (acw.drop k++acw.take k):=⟨by rw [<- hp.length_eq];exact h.nm.lo,by rw [<- hp.length_eq];exact h.nm.hi,fun x hx=>h.nm.nm x (hp.mem_iff.2 hx),hp.nodup h.nm.nd⟩;have hl:=h.len;have O0:=h.ag;obtain ⟨a0,a1⟩:=zT h.ag;have vz:∀i,i<acy.length->gl (acy.drop k++acy.take k) i=gl acy (if i<acy.length - k then k+i else i - (acy.length - k)):=fun i hi=>by
  unfold gl;rw [fh,fh];congr 1;split
  ·rename_i h1
   rw [wE (by rw [gw];omega),Fq]
  ·rename_i h1
   rw [zx (by rw [gw];omega),gw,List.getElem?_take_of_lt (by omega)]
 have NY:∀i,i<acw.length->gs (acw.drop k++acw.take k) i=gs acw (if i<acw.length - k then k+i else i - (acw.length - k)):=fun i hi=>by
  unfold gs;rw [fh,fh];congr 1;split
  ·rename_i h1
   rw [wE (by rw [gw];omega),Fq]
  ·rename_i h1
   rw [zx (by rw [gw];omega),gw,List.getElem?_take_of_lt (by omega)]
 have hrow:∀i,i<acy.length->(gl (acy.drop k++acy.take k) i).length=(gl acy 0).length/\∀p,p<(gl acy 0).length -> -1<=gi (gl (acy.drop k++acy.take k) i) p/\gi (gl (acy.drop k++acy.take k) i) p<16:=fun i hi=>by rw [vz i hi];exact a1 _ (by split<;>omega)
 have hlen:(acy.drop k++acy.take k).length=acy.length:=by rw [bg,gw,dD];omega
 have hwd:=(hrow 0 a0).1;have aaO:cB (acy.drop k++acy.take k)=0:=by
  unfold cB at O0 ⊢;rw [hlen,hwd];split at O0
  ·cases O0
  ·rename_i q1
   split at O0
   ·cases O0
   ·rename_i q2
    rw [if_neg q1,if_neg q2];refine ey fun i hi=>?_;unfold jr;rw [hwd,if_neg (by rw [(hrow i hi).1];simp),if_neg];rw [Bool.not_eq_true];unfold je;refine any_none fun p hp=>?_;rw [(hrow i hi).1] at hp;have:=(hrow i hi).2 p hp;rw [Bool.or_eq_false_iff,decide_eq_false_iff_not,decide_eq_false_iff_not];omega
 refine ⟨h,⟨hnm,aaO,by rw [hlen,hl,hp.length_eq]⟩,hp,hwd,fun p _=>?_⟩;funext x;by_cases h0:x.size=0
 ·unfold rj;rw [if_pos h0,if_pos h0]
 rcases Dt (st:=cI acy p) h.nm.Bl h0 with ⟨i,hi,e1,e2⟩ | ⟨e1,e2⟩
 ·rcases Dt (st:=cI (acy.drop k++acy.take k) p) hnm.Bl h0 with ⟨j,hj,f1,f2⟩ | ⟨f1,f2⟩
  ·rw [<- hp.length_eq] at hj
   rw [e2,f2,ze _ _ (by omega),ze _ _ (by omega),vz j (by omega)];rw [NY j hj] at f1;have:i=if j<acw.length - k then k+j else j - (acw.length - k):=by
    (have hlt:(if j<acw.length - k then k+j else j - (acw.length - k))<acw.length:=by split<;>omega);rcases vk i (if j<acw.length - k then k+j else j - (acw.length - k)) with g | g | g
    ·exact absurd (f1.trans e1.symm) (h.nm.Bl _ _ g hlt)
    ·exact g
    ·exact absurd (e1.trans f1.symm) (h.nm.Bl _ _ g hi)
   rw [this,hl]
  ·exfalso
   refine f1 (if i<k then acw.length - k+i else i - k) (by rw [<- hp.length_eq];split<;>omega) ?_;rw [NY _ (by split<;>omega),<- e1];congr 1;split<;>split<;>omega
 ·rcases Dt (st:=cI (acy.drop k++acy.take k) p) hnm.Bl h0 with ⟨j,hj,f1,f2⟩ | ⟨f1,f2⟩
  ·exfalso
   rw [<- hp.length_eq] at hj;rw [NY j hj] at f1;exact e1 _ (by split<;>omega) f1
  ·rw [e2,f2]
end
end
section
open Go.RowKit Go.Deep
def kT (s:ByteArray):aF:=⟨[-1],[s]⟩
theorem XB (w:World) (s:ByteArray):aC Any ((w.alloc (.cells #[.int .i64 (-1)] 3)).alloc (.cells #[.string s] 9)) (.agg #[.slice (some ⟨w.heap.size,0,none⟩) 1 1,.slice (some ⟨w.heap.size+1,0,none⟩) 1 1]) (kT s):=by
 refine ⟨_,_,rfl,⟨_,1,rfl,ah _,.inr ⟨_,0,rfl,trivial,fun k hk=>?_⟩⟩,⟨_,1,rfl,ah _,.inr ⟨_,0,rfl,trivial,fun k hk=>?_⟩⟩⟩
 ·obtain rfl:k=0:=by have:(kT s).ps.length=1:=rfl;omega
  refine (Up.alloc (w.alloc (.cells #[.int .i64 (-1)] 3)) _).cell ?_;have h:=qB w (Obj.cells #[.int .i64 (-1)] 3);simp only [World.cell?,h];rfl
 ·obtain rfl:k=0:=by have:(kT s).ns.length=1:=rfl;omega
  have h:=qB (w.alloc (.cells #[.int .i64 (-1)] 3)) (Obj.cells #[.string s] 9);rw [aL] at h;simp only [World.cell?,h];rfl
theorem Uo (s:ByteArray):(aB (kT s)==0)=bu s.data.toList:=by
 have h1:isIn (kT s).ps 0=false:=by unfold isIn DI kT;simp
 have h2:dW (kT s).ns 0=false:=by unfold dW;simp
 have h3:jW (kT s).ps=true:=by unfold jW kT;simp [kC,gi]
 have h4:gs (kT s).ns 0=s:=rfl;unfold aB;rw [if_neg (by simp [kT]),if_neg (by simp [kT]),if_neg (by simp [kT]),if_pos h3];show (dF (jC (kT s).ps (kT s).ns) 1==0)=_;simp only [dF,if_true];unfold jC;rw [h1,h2,h4];cases bu s.data.toList<;>simp
theorem RJ (acw:List ByteArray) (k:Nat):((List.range k).any fun j=>decide (gs acw k=gs acw j))=dW acw k:=by
 unfold dW;congr 1;funext j;by_cases e:gs acw j=gs acw k
 ·rw [decide_eq_true e,decide_eq_true e.symm]
 ·rw [decide_eq_false e,decide_eq_false fun q=>e q.symm]
end
end Go.Proofs.YthgabkgmkolobaaGreat
