/- The arguments of a law, opened; the frame of a law's proof. The closures of .. -/
import Derived.Test.YthgabkgmkolobaaGreatQ44
import Derived.Test.YthgabkgmkolobaaGreatQ47
set_option maxRecDepth 100000
set_option maxHeartbeats 1000000
namespace Go.Proofs.YthgabkgmkolobaaGreat
section
open Go.ChangeShapes Go.WideShapes Go.ChangeAt Go.RowKit Go.Deep
section
variable {H:Type} {enc:TypeId×Value->H} {W:World}
theorem Yk {v:Value} {d:DataW H} {p:List MemPlace} {base:Nat} (hv:Value.okWide Tryz.prog W .any base 77 v) (h:DataW.Trod enc Tryz.prog W 0 (fun _=>true) true 77 v d p) :
  ∃xs:List Int,ay Any W v xs.length (fun k=>.int .u8 (gi xs k))/\xs.length<=9223372036854775807/\∀k,0<=gi xs k/\gi xs k<=255:=by
 obtain ⟨a,l,c,rfl⟩:=okWide_slice Tryz.underlying77 hv;obtain ⟨n,hn⟩:=LD rfl h;rcases open_ints Tryz.underlying77 Tryz.underlying5 (by kernel_rfl) hn with ⟨hcs,_⟩ | ⟨a',l',c',zs,hcs,_,hl,hm,hz,_,hcell,hwf⟩
 ·simp at hcs
  obtain ⟨rfl,rfl,rfl⟩:=hcs;exact ⟨[],⟨none,0,rfl,af _,.inl rfl⟩,by simp,fun k=>by simp [gi]⟩
 ·simp at hcs
  obtain ⟨rfl,rfl,rfl⟩:=hcs;simp only [if_true] at hz;have hlen:(zs.take l).length=l:=by simp;omega
  refine ⟨zs.take l,⟨some a',c,by rw [hlen],by rw [hlen];exact hl,?_⟩,by rw [hlen];exact Er (aJ hl hm),fun k=>?_⟩
  ·by_cases h0:l=0
   ·exact .inl (by rw [hlen];exact h0)
   ·obtain ⟨b,off,rfl,hc⟩:=ints_at hcell (by omega)
    refine .inr ⟨b,off,rfl,trivial,fun k hk=>?_⟩;rw [hlen] at hk;rw [hc k (by omega)];simp [gi,hk]
  ·by_cases hk:k<(zs.take l).length
   ·have hm:gi (zs.take l) k∈zs:=by
     have:gi (zs.take l) k=(zs.take l)[k]:=by unfold gi;rw [kD,iQ hk];rfl
     rw [this];exact CP (lg hk)
    exact bounds_u8 (hwf _ hm)
   ·have:gi (zs.take l) k=0:=by unfold gi;rw [kD,vh (by omega)];rfl
    rw [this];omega
end
end
section
open Go.RowKit Go.Deep
theorem cmIn_d (S T:Nat->Prop) (w:World) (bx:Nat) (v vs:Value) (x s:List Int) (hb:w.cell? ⟨bx,0,none⟩=some vs) (hs:ah S w vs s) (h:ah T w v x) (hn:x.length<=1000000) (hm:s.length<=1000000) :
  Hj 54 #[.pointer (some ⟨bx,0,none⟩)] #[v] (.bool (decide (x=s))) w:=by
 intro d;show Calls Tryz.prog 54 #[v,.pointer (some ⟨bx,0,none⟩)] (w.drewN d) _;have hd:=Up.drewN w d;have HC:=aa (uU T S (w.drewN d) v vs x s (ah.keep h (hd.kept _)) (ah.keep hs (hd.kept _)) hn hm);have c1:=hd.cell hb;obtain ⟨p,cap,rfl,-,-⟩:=ay.open h;obtain ⟨q,E8,rfl,-,-⟩:=ay.open hs;obtain ⟨W,hW⟩:∃W,W=w.drewN d:=⟨_,rfl⟩;have HW:=aa hW;rw [<- hW] at c1 HC ⊢;clear hd hb h hs hW
 go_enter Tryz.func54,Tryz.ntmps54
 go_wp2_with fail;refine HC.out.mono ?_;rintro e w' ⟨rfl,m,rfl⟩;go_wp2_with fail;go_ret;rw [HW.out];exact ⟨rfl,Gc ⟨d,rfl⟩ ⟨m,rfl⟩⟩
theorem cmMid_d (S T:Nat->Prop) (w:World) (bx:Nat) (v vs:Value) (s:List Int) (l:List (List Int)) (hb:w.cell? ⟨bx,0,none⟩=some vs) (hL:aR S w v l) (h:ah T w vs s) (hn:s.length<=1000000) (hl:l.length<=1000000) (hr:∀k,(gl l k).length<=1000000) :
  Calls Tryz.prog 53 #[v,.pointer (some ⟨bx,0,none⟩)] w fun e w'=>e=.returned (.bool (!decide (s∈l)))/\∃m,w'=w.drewN m:=by
 obtain ⟨q,E8,rfl,-,-⟩:=dW hL;have HAS:Hid (Calls Tryz.prog 22 #[.slice q l.length E8,.func (.func 54) #[] #[.pointer (some ⟨bx,0,none⟩)]] w fun e w'=>e=.returned (.bool (decide (s∈l)))/\∃m,w'=w.drewN m):=by obtain ⟨f,nE,hf2⟩:=hL;rw [<- Du l s];exact AE 54 #[.pointer (some ⟨bx,0,none⟩)] (enters_of Tryz.func54 (by kernel_rfl) rfl) S _ _ l.length f (fun k=>decide (gl l k=s)) nE hl fun k hk=>cmIn_d T S _ bx _ _ (gl l k) s hb h (hf2 k hk) (hr k) hn
 clear hb hL h hr;generalize decide (s∈l)=r at *
 go_enter Tryz.func53,Tryz.ntmps53
 go_wp2_with fail;refine HAS.out.mono ?_;rintro e w' ⟨rfl,m,rfl⟩;go_wp2_with fail;go_ret;exact ⟨aV (by cases r<;>rfl),m,rfl⟩
theorem lists_ix_g (g:Nat) (lb:Array Value) (eg:∀args w,(callFunc g args).run Tryz.prog w=.ok (.enter g args) w) (S:Nat->Prop) (w:World) (v:Value) (n:Nat) (f:Nat->Value) (p:Nat->Bool)
  (h:ay S w v n f) (hn:n<=1000000) (hp:∀k w',k<n->Up w w'->Calls Tryz.prog g (#[f k]++lb) w' fun e w''=>e=.returned (.bool (p k))/\Up w' w'') :
  Calls Tryz.prog 116 #[v,.func (.func g) #[] lb] w fun e w'=>e=.returned (.int .i64 (dI p n))/\Up w w':=by
 obtain ⟨q,cap,rfl,hcap,H⟩:=h.open;have HP:=aa hp;have HH:=aa H;clear h hp H
 go_enter Tryz.func116,Tryz.ntmps116
 go_wp2_with fail
 go_loopw [5,8] (fun _ i wr=>∃k:Nat,k<=n/\i=.int .i64 k/\Hid (Up w wr)/\Hid (∀j,j<k->p j=false)) (fun _ i _=>n - (intOf i).toNat)
 case atStart=>exact ⟨0,aL _,rfl,Up.refl _,fun j hj=>absurd hj (bG _)⟩
 case round =>
  obtain ⟨k,hk,rfl,hU,hd⟩:=hrel;obtain ⟨wo,rfl⟩:∃wo:World,wo=wr:=⟨_,rfl⟩;by_cases hlt:k<n
  ·obtain ⟨b,off,rfl,hc⟩:=HH.out k hlt
   have hc:=hU.out.cell hc;have pJ:=aa (HP.out k wo hlt hU.out);cases hv:p k
   ·rw [hv] at pJ
    have HV:=aa hv;clear hv;go_wp2_with fail;refine pJ.out.mono ?_;rintro e w' ⟨rfl,kL⟩;have bD:=aa (hU.out.trans kL);clear kL;go_wp2_with fail
    go_roundw
    case rel=>exact ⟨k+1,by omega,by go_num,bD,fun j hj=>if e:j=k then by subst e;exact HV.out else hd.out j (by omega)⟩
    case measure=>simp [intOf];omega
   ·rw [hv] at pJ
    have HV:=aa hv;clear hv;go_wp2_with fail;refine pJ.out.mono ?_;rintro e w' ⟨rfl,kL⟩;have bD:=aa (hU.out.trans kL);clear kL;go_wp2_with fail;go_ret;exact ⟨aM (iK hlt hd.out HV.out).symm,bD.out⟩
  ·go_wp2_with fail
   go_ret;exact ⟨aM (fI fun j hj=>hd.out j (by omega)).symm,hU.out⟩
theorem Yl (g:Nat) (lb:Array Value) (eg:∀args w,(callFunc g args).run Tryz.prog w=.ok (.enter g args) w) (S:Nat->Prop) (w:World) (v:Value) (n:Nat) (f:Nat->Value) (p:Nat->Bool)
  (h:ay S w v n f) (hn:n<=1000000) (hp:∀k w',k<n->Up w w'->Calls Tryz.prog g (#[f k]++lb) w' fun e w''=>e=.returned (.bool (p k))/\Up w' w'') :
  Calls Tryz.prog 52 #[v,.func (.func g) #[] lb] w fun e w'=>e=.returned (.bool ((List.range n).any p))/\Up w w':=by
 have HX:=aa (gX p n);have HI:=aa (lists_ix_g g lb eg S w v n f p h hn hp);obtain ⟨q,cap,rfl,-,-⟩:=ay.open h;clear hp h eg
 go_enter Tryz.func52,Tryz.ntmps52
 go_wp2_with fail;refine HI.out.mono ?_;rintro e w' ⟨rfl,hu⟩;have HU:=aa hu;clear hu;go_wp2_with fail;go_ret;exact ⟨aV (by rw [<- HX.out]),HU.out⟩
def k7 (ls:List (List (List Int))) (k:Nat):List (List Int):=ls.getD k []
def PY (S:Nat->Prop) (w:World) (v:Value) (ls:List (List (List Int))):Prop:=∃f,ay S w v ls.length f/\∀k,k<ls.length->aR S w (f k) (k7 ls k)
theorem PY.keep {S:Nat->Prop} {w w':World} {v:Value} {ls:List (List (List Int))} (h:PY S w v ls) (k:Kept S w w'):PY S w' v ls:=by
 obtain ⟨f,h1,h2⟩:=h;exact ⟨f,h1.keep k,fun j hj=>(h2 j hj).keep k⟩
def CC (ls:List (List (List Int))) (s:List Int):Bool:=!((List.range ls.length).any fun k=>!decide (s∈k7 ls k))
theorem cmOut_t (S T:Nat->Prop) (w:World) (bl:Nat) (v vl:Value) (s:List Int) (ls:List (List (List Int))) (hb:w.cell? ⟨bl,0,none⟩=some vl) (hL:PY S w vl ls) (h:ah T w v s) (hn:s.length<=1000000) (hl:ls.length<=1000000) (hr:∀k,(k7 ls k).length<=1000000/\∀j,(gl (k7 ls k) j).length<=1000000) :
  Calls Tryz.prog 51 #[v,.pointer (some ⟨bl,0,none⟩)] w fun e w'=>e=.returned (.bool (CC ls s))/\Up w w':=by
 obtain ⟨p,cap,rfl,-,-⟩:=ay.open h;have h:ah T w (.slice p s.length cap) s:=h;have hu:=Up.alloc w (.cells #[.slice p s.length cap] 26);have iT:(w.alloc (.cells #[.slice p s.length cap] 26)).cell? ⟨w.heap.size,0,none⟩=some (.slice p s.length cap):=by unfold World.cell?;rw [mV];rfl
 have c1:=hu.cell hb;obtain ⟨f,nE,hf2⟩:=hL.keep (hu.kept S);have HAS:=aa (Yl 53 #[.pointer (some ⟨w.heap.size,0,none⟩)] (enters_of Tryz.func53 (by kernel_rfl) rfl) S _ vl ls.length f (fun k=>!decide (s∈k7 ls k)) nE hl fun k W hk hW=>(cmMid_d S T W w.heap.size (f k) _ s (k7 ls k) (hW.cell iT) ((hf2 k hk).keep (hW.kept _)) (ah.keep h ((hu.trans hW).kept _)) hn (hr k).1 (hr k).2).mono fun e w' ⟨h1,m,h2⟩=>⟨h1,by rw [h2];exact Up.drewN W m⟩);obtain ⟨q,E8,rfl,-,-⟩:=ay.open nE;have HU:=aa hu
 have HB:Hid (CC ls s=!((List.range ls.length).any fun k=>!decide (s∈k7 ls k))):=rfl;clear hb hL h hr iT hu nE hf2;generalize ((List.range ls.length).any fun k=>!decide (s∈k7 ls k))=r at *;generalize CC ls s=cb at *
 go_enter Tryz.func51,Tryz.ntmps51
 go_wp2_with fail;refine HAS.out.mono ?_;rintro e w' ⟨rfl,aK⟩;have bD:=aa (HU.out.trans aK);clear aK;go_wp2_with fail;go_ret;exact ⟨aV (by rw [HB.out]),bD.out⟩
theorem cmNot_t (S T:Nat->Prop) (w:World) (bf bl:Nat) (v vl:Value) (s:List Int) (ls:List (List (List Int))) (hf:w.cell? ⟨bf,0,none⟩=some (.func (.func 51) #[] #[.pointer (some ⟨bl,0,none⟩)])) (hb:w.cell? ⟨bl,0,none⟩=some vl) (hL:PY S w vl ls) (h:ah T w v s) (hn:s.length<=1000000) (hl:ls.length<=1000000) (hr:∀k,(k7 ls k).length<=1000000/\∀j,(gl (k7 ls k) j).length<=1000000) :
  Calls Tryz.prog 55 #[v,.pointer (some ⟨bf,0,none⟩)] w fun e w'=>e=.returned (.bool (!CC ls s))/\Up w w':=by
 have HC:=aa (cmOut_t S T w bl v vl s ls hb hL h hn hl hr);obtain ⟨p,cap,rfl,-,-⟩:=ay.open h;clear hb hL h hr;generalize CC ls s=r at *
 go_enter Tryz.func55,Tryz.ntmps55
 go_wp2_with fail;refine HC.out.mono ?_;rintro e w' ⟨rfl,hu⟩;have HU:=aa hu;clear hu;go_wp2_with fail;go_ret;exact ⟨aV (by cases r<;>rfl),HU.out⟩
section
variable {P:Program} {ops:Array Oper} {o:Oper} {a:Act} {w:World} {K:Act->World->Prop} {Q:Exit->Act->World->Prop} {E:Prop}
theorem GC (hgd : o.guard = none) (s x : Operand) (t : TypeId) (ho : o.op = .call { callee := .builtin .append, args := #[s, x], argTypes := #[t, t] })
    (base : Nat) (e : TypeId) (z : Value) (bytes : Nat) (ht : P.underlying t = some (.slice e)) (hinfo : (P.info? e).map (fun i => (i.zero, i.size, i.bytes)) = some (some z, 2, bytes))
    (hz1 : z.cells.size = 2) (qE : bytes <= 64) {v : Value} {n : Nat} {cs : List Value} (hs : a.eval s = v) (hown : w.ownsRow base e 2 v n cs) (u1 u2 : Value) (B : Nat)
    (hx : a.eval x = .slice (some ⟨B, 0, none⟩) 1 1) (hB : w.cell? ⟨B, 0, none⟩ = some u1) (Yw : w.cell? ⟨B, 1, none⟩ = some u2) (h1 : u1.oneCell' = true) (h2 : u2.oneCell' = true) (hn : n <= 1000000) (hbase : base <= w.heap.size)
    (h : ∀ g cap w', w'.ownsRow base e 2 (.slice (some ⟨g, 0, none⟩) (n + 1) cap) (n + 1) (cs ++ [u1, u2]) -> w.grownBy w' v.ownBlock -> (v.ownBlock = some g \/ g = w.heap.size) -> K (a.put o.dst (.slice (some ⟨g, 0, none⟩) (n + 1) cap)) w') :
    if Region.wanted o (yielded ops a.tmps) = true then Oper.wp P o a w K Q else E := by
  obtain ⟨i, hi, hzz⟩ := mh.1 hinfo
  simp only [mj] at hzz
  obtain ⟨hz, hs1, hb⟩ := hzz
  refine step_append_lies w hgd s x t ho base e i z 2 bytes ht hi hz hs1 hb hz1 (by omega) v n cs hs hown ⟨B, 0, none⟩ 1 1 [u1, u2] hx rfl ?_ (fun q hq => by
    rcases aW.1 hq with e | hq
    · subst e; exact h1
    · rw [dP.1 hq]; exact h2) (by omega)
    (by unfold maxLen; omega) ?_ hbase _ rfl fun g cap w' g2 g3 g4 _ => h g cap w' g2 g3 g4
  · intro j u' hj
    match j with
    | 0 => obtain rfl : u1 = u' := by simpa using hj
           simpa [Addr.add] using hB
    | 1 => obtain rfl : u2 = u' := by simpa using hj
           simpa [Addr.add] using Yw
    | j + 2 => simp at hj
  · have : (n + 1) * bytes <= (n + 1) * 64 := sW _ qE
    omega
end
def qz (bx:Nat) (tv sv:Value) (b:Nat):Prop:=b≠bx/\tv.ownBlock≠some b/\sv.ownBlock≠some b
structure Cm (bx:Nat) (W:World) (bv tv sv:Value) (es:List rP) (vals:List Value) (ls:List (List (List Int))):Prop where
 box:W.heap[bx]? = some (Obj.cells #[bv] 78 (0,0))
 tr:W.ownsRow (bx+1) 39 2 tv es.length (qR es)
 so:ax (bx+1) 23 W sv vals
 ln:vals.length=ls.length
 ap:∀b,tv.ownBlock=some b->sv.ownBlock≠some b
 rt:∀x∈es,aI (qz bx tv sv) W (.agg #[x.1.1,x.1.2]) x.2
 rs:∀i,i<ls.length->aR (qz bx tv sv) W (vals.getD i undef) (k7 ls i)
section
variable {bx:Nat} {W W':World} {bv tv sv:Value} {es:List rP} {vals:List Value} {ls:List (List (List Int))} {g cap k:Nat}
theorem Cm.lt (h:Cm bx W bv tv sv es vals ls):bx<W.heap.size:=(fR.1 h.box).1
theorem Cm.cell (h:Cm bx W bv tv sv es vals ls):W.cell? ⟨bx,0,none⟩=some bv/\W.frozen? ⟨bx,0,none⟩=false:=by
 constructor<;>simp [World.cell?,World.frozen?,h.box]
theorem Cm.start (w:World):Cm w.heap.size (w.alloc (.cells #[.slice none 0 0] 78)) (.slice none 0 0) (.slice none 0 0) (.slice none 0 0) [] [] [] :=
 ⟨mV _ _,World.ownsRow_nil _ _ _ _,ax.nil _ _ _,rfl,fun b h=>(by cases h),fun x h=>(by cases h),fun i h=>absurd h (bG _)⟩
theorem Cm.up (h:Cm bx W bv tv sv es vals ls) (hu:Up W W'):Cm bx W' bv tv sv es vals ls :=
 ⟨(bI hu bx h.lt).trans h.box,zk h.tr fun b hb=>bI hu b (j8 h.tr b hb).2,yu h.so hu,h.ln,h.ap,fun x hx=>(h.rt x hx).keep (hu.kept _),fun i hi=>(h.rs i hi).keep (hu.kept _)⟩
theorem glL_snoc (ls:List (List (List Int))) (l:List (List Int)) (i:Nat):k7 (ls++[l]) i=if i<ls.length then k7 ls i else if i=ls.length then l else []:=by
 unfold k7;rw [kD,kD];by_cases h:i<ls.length
 ·rw [if_pos h,M3 h]
 ·rw [if_neg h,SV (by omega)]
  by_cases h2:i=ls.length
  ·subst h2;simp
  ·rw [if_neg h2,vh (by simp;omega)];rfl
theorem getD_snoc (vs:List Value) (v:Value) (i:Nat) (hi:i<vs.length+1):(vs++[v]).getD i undef=if i<vs.length then vs.getD i undef else v:=by
 rw [kD,kD];by_cases h:i<vs.length
 ·rw [if_pos h,M3 h]
 ·rw [if_neg h,SV (by omega),show i - vs.length=0 by omega];rfl
theorem Cm.tree (h:Cm bx W bv tv sv es vals ls) {G:rP} (ho:W'.ownsRow (bx+1) 39 2 (.slice (some ⟨g,0,none⟩) k cap) (es.length+1) (qR es++[G.1.1,G.1.2])) (hg:W.grownBy W' tv.ownBlock) (dD:tv.ownBlock=some g\/g=W.heap.size)
  (ht:aI (qz bx tv sv) W (.agg #[G.1.1,G.1.2]) G.2):Cm bx W' bv (.slice (some ⟨g,0,none⟩) k cap) sv (es++[G]) vals ls:=by
 have hlt:=fun b hb=>j8 h.tr b hb;have hk:Kept (qz bx tv sv) W W':=fun b hb hl=>hg.block b hl fun e=>hb.2.1 e.symm
 have hsub:∀b,qz bx tv sv b->b<W.heap.size->qz bx (.slice (some ⟨g,0,none⟩) k cap) sv b:=fun b hb hl=>⟨hb.1,fun e=>by
  injection e with e;have e:g=b:=e;subst e;rcases dD with q | q
  ·exact hb.2.1 q
  ·omega,hb.2.2⟩
 have hmv:∀ {P:Value} {t:az},aI (qz bx tv sv) W P t->aI (qz bx (.slice (some ⟨g,0,none⟩) k cap) sv) W' P t:=fun hP=>((hP.sub fun b hb hl=>And.intro hb hl).keep (S:=fun b=>qz bx tv sv b/\b<W.heap.size) fun b hb hl=>hk b hb.1 hl).sub fun b hb _=>hsub b hb.1 hb.2;have hmr:∀ {P:Value} {t:List (List Int)},aR (qz bx tv sv) W P t->aR (qz bx (.slice (some ⟨g,0,none⟩) k cap) sv) W' P t:=fun hP=>((hP.sub fun b hb hl=>And.intro hb hl).keep (S:=fun b=>qz bx tv sv b/\b<W.heap.size) fun b hb hl=>hk b hb.1 hl).sub fun b hb _=>hsub b hb.1 hb.2
 refine ⟨(hg.block bx h.lt fun e=>by have:=(hlt bx e.symm).1;omega).trans h.box,by rw [aZ,K0];exact ho,h.so.fM fun b hb=>hg.block b (av h.so hb).2 fun e=>h.ap b e.symm hb,h.ln,fun b hb hb2=>?_,fun x hx=>?_,fun i hi=>hmr (h.rs i hi)⟩
 ·injection hb with hb
  have hb:g=b:=hb;subst hb;rcases dD with q | q
  ·exact h.ap g q hb2
  ·have:=(av h.so hb2).2;omega
 ·rcases dV.1 hx with hx | hx
  ·exact hmv (h.rt x hx)
  ·rw [dP.1 hx];exact hmv ht
theorem Cm.rows (h:Cm bx W bv tv sv es vals ls) {u:Value} {l:List (List Int)} (ho:ax (bx+1) 23 W' (.slice (some ⟨g,0,none⟩) k cap) (vals++[u])) (hg:W.grownBy W' sv.ownBlock) (dD:sv.ownBlock=some g\/g=W.heap.size)
  (ht:aR (qz bx tv sv) W u l):Cm bx W' bv tv (.slice (some ⟨g,0,none⟩) k cap) es (vals++[u]) (ls++[l]):=by
 have hlt:=fun b hb=>av h.so (b:=b) hb;have hk:Kept (qz bx tv sv) W W':=fun b hb hl=>hg.block b hl fun e=>hb.2.2 e.symm
 have hsub:∀b,qz bx tv sv b->b<W.heap.size->qz bx tv (.slice (some ⟨g,0,none⟩) k cap) b:=fun b hb hl=>⟨hb.1,hb.2.1,fun e=>by
  injection e with e;have e:g=b:=e;subst e;rcases dD with q | q
  ·exact hb.2.2 q
  ·omega⟩
 have hmv:∀ {P:Value} {t:az},aI (qz bx tv sv) W P t->aI (qz bx tv (.slice (some ⟨g,0,none⟩) k cap)) W' P t:=fun hP=>((hP.sub fun b hb hl=>And.intro hb hl).keep (S:=fun b=>qz bx tv sv b/\b<W.heap.size) fun b hb hl=>hk b hb.1 hl).sub fun b hb _=>hsub b hb.1 hb.2;have hmr:∀ {P:Value} {t:List (List Int)},aR (qz bx tv sv) W P t->aR (qz bx tv (.slice (some ⟨g,0,none⟩) k cap)) W' P t:=fun hP=>((hP.sub fun b hb hl=>And.intro hb hl).keep (S:=fun b=>qz bx tv sv b/\b<W.heap.size) fun b hb hl=>hk b hb.1 hl).sub fun b hb _=>hsub b hb.1 hb.2
 refine ⟨(hg.block bx h.lt fun e=>by have:=(hlt bx e.symm).1;omega).trans h.box,zk h.tr fun b hb=>hg.block b (j8 h.tr b hb).2 fun e=>h.ap b hb e.symm,ho,by rw [aZ,aZ,h.ln];rfl,fun b hb hb2=>?_,fun x hx=>hmv (h.rt x hx),fun i hi=>?_⟩
 ·injection hb2 with hb2
  have hb2:g=b:=hb2;subst hb2;rcases dD with q | q
  ·exact h.ap g hb q
  ·have:=(j8 h.tr g hb).2;omega
 ·rw [aZ] at hi
  rw [glL_snoc,getD_snoc _ _ _ (by rw [h.ln];exact hi),h.ln];by_cases e:i<ls.length
  ·rw [if_pos e,if_pos e];exact hmr (h.rs i e)
  ·rw [if_neg e,if_neg e,if_pos (by simp at hi;omega)];exact hmr ht
theorem Cm.store (h:Cm bx W bv tv sv es vals ls) (nv:Value):Cm bx (W.setCell ⟨bx,0,none⟩ nv) nv tv sv es vals ls:=by
 have dR:∀b,b≠bx->(W.setCell ⟨bx,0,none⟩ nv).heap[b]? = W.heap[b]?:=fun b hb=>yB _ _ _ _ hb;refine ⟨?_,zk h.tr fun b hb=>dR b (by have:=(j8 h.tr b hb).1;omega),h.so.fM fun b hb=>dR b (by have:=(av h.so hb).1;omega),h.ln,h.ap,fun x hx=>(h.rt x hx).keep fun b hb _=>dR b hb.1,fun i hi=>(h.rs i hi).keep fun b hb _=>dR b hb.1⟩;have:=h.box;simp [World.setCell,Array.getElem?_modify,this]
theorem Cm.trees (h:Cm bx W bv tv sv es vals ls):fQ Any W tv (es.map (·.2)):=nw.trees (base:=bx+1) ⟨h.tr,fun x hx=>(h.rt x hx).sub fun _ hb _ e=>hb.2.1 e.symm⟩
theorem Cm.lists (h:Cm bx W bv tv sv es vals ls):PY Any W sv ls:=by
 have h1:=h.so.vz;rw [h.ln] at h1;exact ⟨_,h1.sub fun _ _ _=>trivial,fun i hi=>(h.rs i hi).sub fun _ _ _=>trivial⟩
theorem Cm.form (h:Cm bx W bv tv sv es vals ls):(∃p c,tv=.slice p es.length c)/\∃p c,sv=.slice p ls.length c:=by
 constructor
 ·rcases h.tr.2 with ⟨e,h0⟩ | ⟨g,cap,cur,e,_⟩
  ·exact ⟨none,0,by rw [e,h0]⟩
  ·exact ⟨_,cap,e⟩
 ·obtain ⟨p,c,e,_⟩:=h.so.form h.ln
  exact ⟨p,c,e⟩
end
theorem Tryz.Xf:(Tryz.prog.info? 23).map (fun i=>(i.zero,i.size,i.bytes))=some (some (.slice none 0 0),1,24):=by kernel_rfl
end
end Go.Proofs.YthgabkgmkolobaaGreat
