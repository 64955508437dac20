/- Names, as layer 1's and layer 31's references have them: IsName, named. Lists of lists .. -/
import Derived.StillTail
import Derived.MapKept
import Derived.Laws.Pointers
import Derived.Test.YthgabkgmkolobaaGreatQ6
set_option maxRecDepth 100000
set_option maxHeartbeats 1000000
namespace Go.Proofs.YthgabkgmkolobaaGreat
section
open Go.RowKit Go.Deep
def Vy (w:World) (n:Nat) (e:Ending) (w':World):Prop:=Below w.heap.size w w'/\∃v,∃bs:List Bool,e=.returned v/\bs.length=n/\aA Any w' v n (fun k=>.bool (gb bs k))
theorem ax.bools {base:Nat} {e:TypeId} {w:World} {v:Value} {xs:List Bool} (h:ax base e w v (xs.map Value.bool)):aA (fun b=>base<=b) w v xs.length (fun k=>.bool (gb xs k)):=by
 have:=h.yl;rw [aD] at this;exact this.congr fun k hk=>by simp [gb,hk]
theorem aA.Z2 {S:Nat->Prop} {w:World} {b n cap:Nat} {f:Nat->Value} {o:Nat} (h:aA S w (.slice (some ⟨b,o,none⟩) n cap) n f) {k:Nat} (hk:k<n):w.cell? ⟨b,o+k,none⟩=some (f k):=by
 obtain ⟨p,c,e,_,H⟩:=h.open;cases e;obtain ⟨b',o',e',hc⟩:=H k hk;cases e';exact hc
theorem ax.form {base:Nat} {e:TypeId} {w:World} {v:Value} {vs:List Value} {n:Nat} (h:ax base e w v vs) (hn:vs.length=n):∃p cap,v=.slice p n cap/\(p=none\/∃g,p=some ⟨g,0,none⟩):=by
 subst hn;rcases h.2 with ⟨rfl,h0⟩ | ⟨g,cap,cur,rfl,_⟩
 ·exact ⟨none,0,by rw [h0],.inl rfl⟩
 ·exact ⟨_,cap,rfl,.inr ⟨g,rfl⟩⟩
theorem ax.made (w:World) (e:TypeId):ax w.heap.size e (w.alloc (.cells #[] e)) (.slice (some ⟨w.heap.size,0,none⟩) 0 0) []:=World.ownsRow_made w #[] 0 (ah _) (by unfold maxLen;omega) (by simp)
theorem TV (s:ByteArray) (hs:s.size<=1000) (w:World):Calls Tryz.prog 275 #[.string s] w (Vy w s.size):=by
 go_enter Tryz.func275,Tryz.ntmps275
 go_wp2
 go_loopw [3,4] (fun v i wr=>∃k:Nat,∃bs:List Bool,k<=s.size/\i=.int .i64 k/\bs.length=k/\ax w.heap.size 4 wr v (bs.map .bool)/\Below w.heap.size w wr) (fun _ i _=>s.size - (intOf i).toNat)
 case atStart=>exact ⟨0,[],aI _,rfl,rfl,ax.made _ _,(cN _ _).alloc (ah _) _⟩
 case round =>
  obtain ⟨k,bs,hk,rfl,hbl,hown,hbr⟩:=hrel
  have hsz:=hbr.size
  have yw:=aa hbl
  by_cases hlt:k<s.size
  ·have fN:Hid ((bs.map Value.bool).length<=1000000):=by unfold Hid;rw [aD];omega
   clear hbl
   rcases zG k with rfl | ud
   ·go_wp2_with (first | (go_at_call 249;refine (r4 _ (UInt8.toNat_lt _) _).mono ?_;rintro e w' ⟨rfl,rfl⟩;generalize dH _=q at *) | (at_builtin;refine mW wr rfl _ _ 163 rfl w.heap.size 4 _ 1 Tryz.underlying163 Tryz.Nc rfl (by decide) hown rfl _ rfl rfl fN.out hsz ?_;intro g cap w2 hown1 hg1 hb1))
    all_goals
     go_roundw
     case rel=>exact ⟨1,bs++[_],by omega,by go_num,by rw [bg,yw.out];rfl,by rw [cm];rw [aD] at hown1;exact hown1,hbr.trans hb1⟩
     case measure=>simp [intOf];omega
   ·have iO:=hown.bools
    obtain ⟨p,cap,rfl,hp⟩:=hown.form (n:=k) (by rw [aD];exact yw.out)
    rw [yw.out] at iO
    obtain ⟨p',cap',e',abz,H⟩:=iO.open
    cases e'
    obtain ⟨b,off,rfl,hc⟩:=H (k - 1) (by have:=yw.out;omega)
    clear H iO hp
    go_wp2_with (first | (go_at_call 249;refine (r4 _ (UInt8.toNat_lt _) _).mono ?_;rintro e w' ⟨rfl,rfl⟩;generalize dH _=q at *) | (at_builtin;refine mW wr rfl _ _ 163 rfl w.heap.size 4 _ 1 Tryz.underlying163 Tryz.Nc rfl (by decide) hown rfl _ rfl rfl fN.out hsz ?_;intro g cap w2 hown1 hg1 hb1))
    all_goals
     go_roundw
     case rel=>exact ⟨k+1,bs++[_],by omega,by go_num,by rw [bg,yw.out];rfl,by rw [cm];rw [aD] at hown1;exact hown1,hbr.trans hb1⟩
     case measure=>simp [intOf];omega
  ·obtain rfl:k=s.size:=by omega
   clear hlt hk hbl
   go_wp2
   go_ret
   exact ⟨hbr,_,bs,rfl,yw.out,(by rw [<- yw.out];exact hown.bools.sub fun _ _ _=>trivial)⟩
theorem ax.set {base:Nat} {e:TypeId} {w:World} {v:Value} {vs:List Value} (h:ax base e w v vs) {j:Nat} (hj:j<vs.length) :
  ∃g cap,v=.slice (some ⟨g,0,none⟩) vs.length cap/\base<=g/\g<w.heap.size/\w.cell? ⟨g,j,none⟩=some (vs.getD j undef)/\w.frozen? ⟨g,j,none⟩=false/\∀x,ax base e (w.setCell ⟨g,j,none⟩ x) v (vs.set j x):=by
 obtain ⟨hl,h | ⟨g,cap,cur,rfl,hg,hc,hn,hcm,hcs,ht⟩⟩:=h
 ·omega
 ·have vz:g<w.heap.size:=(fW.1 hc).1
  have ht1:cur.toList.take vs.length=vs:=by rw [Nat.mul_one] at ht;exact ht
  have hj2:j<cur.size:=by omega
  have hcell:cur[j]? = some (vs.getD j undef):=by (have h1:vs[j]? = some (vs.getD j undef):=by simp [hj]);rw [<- h1];have h2:=congrArg (·[j]?) ht1;simp only [List.getElem?_take,hj,if_true] at h2;rw [<- h2];simp
  refine ⟨g,cap,rfl,hg,vz,by simp [World.cell?,hc,hcell],by simp [World.frozen?,hc],fun x=>⟨by simp,.inr ⟨g,cap,cur.setIfInBounds j x,by simp,hg,?_,by simpa using hn,hcm,by simpa using hcs,?_⟩⟩⟩
  ·simp [World.setCell,Array.getElem?_modify,hc]
  ·rw [List.length_set,Nat.mul_one,Array.toList_setIfInBounds,List.take_set,ht1]
theorem aG {base:Nat} {e:TypeId} {w:World} {v:Value} {vs:List Value} (h:ax base e w v vs) {b:Nat} (hb:v.ownBlock=some b):base<=b/\b<w.heap.size:=lT h b hb
theorem TW {l:List Int} {m:Nat} (h:m<l.length):l.take (m+1)=l.take m++[gi l m]:=by
 rw [jo h];simp [gi,h]
section
variable {P:Program} {ops:Array Oper} {rest:List Oper} {o:Oper} {a:Act} {Q:Exit->Act->World->Prop}
theorem uS (W:World) (hgd:o.guard=none) (s x:Operand) (t:TypeId) (ho:o.op=.call { callee:=.builtin .append,args:=#[s,x],argTypes:=#[t,t] })
  (base:Nat) (e:TypeId) (z:Value) (bytes:Nat) (ht:P.underlying t=some (.slice e)) (hinfo:(P.info? e).map (fun i=>(i.zero,i.size,i.bytes))=some (some z,1,bytes))
  (hz1:z.cells.size=1) (gL:bytes<=64) {v:Value} {vs:List Value} (hown:ax base e W v vs) (hs:a.eval s=v) (u:Value)
  (hx:a.eval x=.slice (some ⟨W.heap.size,0,none⟩) 1 1) (h1:u.oneCell'=true) (n:Nat) (xI:vs.length=n) (hn:n<=1000000) (hbase:base<=W.heap.size)
  (h:∀g cap w',ax base e w' (.slice (some ⟨g,0,none⟩) (n+1) cap) (vs++[u])->W.grownBy w' v.ownBlock->Below base W w'->wpList P ops Q rest (a.put o.dst (.slice (some ⟨g,0,none⟩) (n+1) cap)) w') :
  wpList P ops Q (o::rest) a (W.alloc (.cells #[u] e)):=by
 subst xI;exact mW W hgd s x t ho base e z bytes ht hinfo hz1 gL hown hs u hx h1 hn hbase h
end
def QD (w w':World):Prop:=∃n,w'=w.drewN n
theorem QD.refl (w:World):QD w w:=⟨0,rfl⟩
theorem QD.drewN {w w':World} (h:QD w w') (n:Nat):QD w (w'.drewN n):=by
 obtain ⟨m,rfl⟩:=h;exact ⟨m+n,by rw [World.drewN_drewN]⟩
theorem QD.kept {w w':World} (h:QD w w') (S:Nat->Prop):Kept S w w':=by
 obtain ⟨m,rfl⟩:=h;exact fun _ _ _=>rfl
theorem QD.up {w w':World} (h:QD w w'):Up w w':=by
 obtain ⟨m,rfl⟩:=h;exact Up.drewN w m
def jr (xs:List (List Int)) (k:Nat):Int:=if (gl xs k).length≠(gl xs 0).length then 9 else if je (gl xs k) (-1) 16 then 2 else 0
def cB (xs:List (List Int)):Int:=if xs.length=0 then 5 else if 32<xs.length\/4096<(gl xs 0).length then 4 else dF (jr xs) xs.length
theorem LB (w:World) (x:Int):AO 125 #[] #[.int .i64 x] (.bool (decide (x < -1) || decide (16<=x))) w:=by
 unfold AO
 go_enter Tryz.func125,Tryz.ntmps125
 by_cases hx:x < -1
 ·go_wp2_with fail
  go_ret;exact ⟨bA (by simp [hx]),rfl⟩
 ·go_wp2_with fail
  go_ret;exact ⟨bA (by simp;omega),rfl⟩
theorem DZ (S:Nat->Prop) (w:World) (v:Value) (xs:List (List Int)) (h:bh S w v xs) (hn:xs.length<=1000000) (hr:∀k,(gl xs k).length<=1000000) :
  Calls Tryz.prog 70 #[v] w fun e w'=>e=.returned (.int .i64 (cB xs))/\w=w':=by
 have dR:cB xs=if xs.length=0 then 5 else if 32<xs.length\/4096<(gl xs 0).length then 4 else dF (jr xs) xs.length:=rfl
 have HF:=aa dR;obtain ⟨p,cap,rfl,hcap,_⟩:=gM h;have H:=aa h;clear dR h;by_cases h0:xs.length=0
 ·have HX:Hid (xs.length=0):=h0
  have h0':((xs.length:Int)==0)=true:=by simp [h0]
  clear h0
  go_enter Tryz.func70,Tryz.ntmps70
  go_wp2_with fail;go_ret;exact ⟨aN (by rw [HF.out,if_pos HX.out]),rfl⟩
 have h0':((xs.length:Int)==0)=false:=by simpa using h0
 have Vz:0<xs.length:=by omega
 by_cases h1:32<xs.length
 ·go_enter Tryz.func70,Tryz.ntmps70
  go_wp2_with fail;go_ret;exact ⟨aN (by rw [HF.out,if_neg h0,if_pos (.inl h1)]),rfl⟩
 obtain ⟨b,off,q0,c0,rfl,hc0,jL⟩:=iP H.out Vz;have Ql:w.cell? ⟨b,off,none⟩=some (.slice q0 (gl xs 0).length c0):=by simpa using hc0
 have Y4:=hr 0;clear hc0 jL;by_cases h2:4096<(gl xs 0).length
 ·go_enter Tryz.func70,Tryz.ntmps70
  go_wp2_with fail;go_ret;exact ⟨aN (by rw [HF.out,if_neg h0,if_pos (.inr h2)]),rfl⟩
 have rC:Hid (cB xs=dF (jr xs) xs.length):=by unfold Hid;rw [HF.out,if_neg h0,if_neg (by omega)]
 have HR:=aa hr;have Nd:Hid (∀k,jr xs k=if (gl xs k).length≠(gl xs 0).length then 9 else if je (gl xs k) (-1) 16 then 2 else 0):=fun _=>rfl;clear HF hr;generalize (gl xs 0).length=l0 at *
 go_enter Tryz.func70,Tryz.ntmps70
 go_wp2_with fail
 go_loop [4,22] (fun _ i=>∃k:Nat,k<=xs.length/\i=.int .i64 k/\Hid (∀j,j<k->jr xs j=0)) (fun _ i=>xs.length - (intOf i).toNat)
 case atStart=>exact ⟨0,aI _,rfl,fun j hj=>absurd hj (bS _)⟩
 case round =>
  obtain ⟨k,hk,rfl,hd⟩:=hrel;by_cases hlt:k<xs.length
  ·obtain ⟨b',off',qk,ck,e1,yc,hik⟩:=iP H.out hlt
   injection e1 with e1;injection e1 with e1 e2;subst e1;subst e2;have F3:=aa (BN 125 #[] (enters_of Tryz.func125 (by kernel_rfl) rfl) S w _ (gl xs k).length _ (fun j=>decide (gi (gl xs k) j < -1) || decide (16<=gi (gl xs k) j)) hik (HR.out k) (fun j _=>LB w (gi (gl xs k) j)));have ct:Hid (je (gl xs k) (-1) 16=(List.range (gl xs k).length).any fun j=>decide (gi (gl xs k) j < -1) || decide (16<=gi (gl xs k) j)):=rfl;have HK:=aa (Nd.out k);clear hik;by_cases qE:(gl xs k).length=l0
   ·have jg:(((gl xs k).length:Int) != (l0:Int))=false:=by simp [qE]
    have fN:=aa qE;clear qE;go_wp2_with fail;refine F3.out.mono ?_;rintro e w' ⟨rfl,rfl⟩;rw [<- ct.out];by_cases o8:je (gl xs k) (-1) 16=true
    ·have vw:=aa o8
     rw [o8];clear o8;go_wp2_with fail;go_ret;(have Ae:jr xs k=2:=by rw [HK.out,if_neg (fun e=>e fN.out),if_pos vw.out]);exact ⟨aN (by rw [rC.out,gA hlt hd.out (by rw [Ae];decide),Ae]),rfl⟩
    ·have VA:je (gl xs k) (-1) 16=false:=by simpa using o8
     have vw:=aa o8;rw [VA];clear o8 VA;go_wp2_with fail
     go_round
     case rel=>exact ⟨k+1,by omega,by go_num,fun j hj=>if e:j=k then by subst e;rw [HK.out,if_neg (fun e=>e fN.out),if_neg vw.out] else hd.out j (by omega)⟩
     case measure=>simp [intOf];omega
   ·have jg:(((gl xs k).length:Int) != (l0:Int))=true:=by simp;omega
    have fN:=aa qE;clear qE;go_wp2_with fail;go_ret;(have Ae:jr xs k=9:=by rw [HK.out,if_pos fN.out]);exact ⟨aN (by rw [rC.out,gA hlt hd.out (by rw [Ae];decide),Ae]),rfl⟩
  ·obtain rfl:k=xs.length:=by omega
   clear hlt;go_wp2_with fail;go_ret;exact ⟨aN (by rw [rC.out,ey hd.out]),rfl⟩
structure SK where
 un:Int
 st:Int
 src:List Int
end
section
open Go.ChangeShapes Go.WideShapes Go.ChangeAt Go.RowKit Go.Deep
instance:Inhabited SK:=⟨⟨0,0,[]⟩⟩
section
variable {H:Type} {enc:TypeId×Value->H} {W:World}
theorem LC {v:Value} {d:DataW H} {p:List MemPlace} {base:Nat} (hv:Value.okWide Tryz.prog W .any base 22 v) (h:DataW.Trod enc Tryz.prog W 0 (fun _=>true) true 22 v d p):∃xs:List ByteArray,av Any W v xs/\xs.length<=9223372036854775807/\∀k,(gs xs k).size<=9223372036854775807:=by
 obtain ⟨a,l,c,rfl⟩:=okWide_slice Tryz.underlying22 hv;obtain ⟨n,hn⟩:=F0 rfl h;exact Lu hn
end
end
section
open Go.RowKit Go.Deep
structure aX where
 nm:Nat->ByteArray
 old:Nat->Int
 kids:Nat->List Nat
def bD (A:Nat->Nat) (k:Nat):Value:=.pointer (some ⟨A k,0,none⟩)
def upd {α:Type} (f:Nat->α) (k:Nat) (x:α) (i:Nat):α:=if i=k then x else f i
theorem upd_same {α:Type} (f:Nat->α) (k:Nat) (x:α):upd f k x k=x:=by simp [upd]
theorem upd_ne {α:Type} (f:Nat->α) {k i:Nat} (x:α) (h:i≠k):upd f k x i=f i:=by simp [upd,h]
structure bB (base n:Nat) (A:Nat->Nat) (kv:Nat->Value) (F:aX) (w:World):Prop where
 node:∀i,i<n->w.heap[A i]? = some (.cells #[.string (F.nm i),kv i,.int .i64 (F.old i)] 122 (0,0))
 lo:∀i,i<n->base<=A i
 inj:∀i j,i<n->j<n->A i=A j->i=j
 own:∀i,i<n->ax base 119 w (kv i) ((F.kids i).map (bD A))
 apart:∀i j,i<n->j<n->(kv i).ownBlock≠some (A j)
 alone:∀i j b,i<n->j<n->(kv i).ownBlock=some b->(kv j).ownBlock=some b->i=j
 kid:∀i,i<n->∀k∈F.kids i,k<n
theorem ax.same {base:Nat} {e:TypeId} {w w':World} {v:Value} {vs:List Value} (h:ax base e w v vs) (k:∀b,v.ownBlock=some b->w'.heap[b]? = w.heap[b]?):ax base e w' v vs:=by
 obtain ⟨hl,h | ⟨g,cap,cur,rfl,hg,hc,hr⟩⟩:=h
 ·exact ⟨hl,.inl h⟩
 ·exact ⟨hl,.inr ⟨g,cap,cur,rfl,hg,by rw [k g rfl];exact hc,hr⟩⟩
theorem ax.yx {base base':Nat} {e:TypeId} {w:World} {v:Value} {vs:List Value} (h:ax base e w v vs) (hb:base'<=base):ax base' e w v vs:=by
 obtain ⟨hl,h | ⟨g,cap,cur,rfl,hg,hc,hr⟩⟩:=h
 ·exact ⟨hl,.inl h⟩
 ·exact ⟨hl,.inr ⟨g,cap,cur,rfl,aR hb hg,hc,hr⟩⟩
section
variable {base n:Nat} {A:Nat->Nat} {kv:Nat->Value} {F:aX} {w w':World}
theorem bB.lt (h:bB base n A kv F w) {i:Nat} (hi:i<n):A i<w.heap.size:=(fW.1 (h.node i hi)).1
theorem bB.iA (h:bB base n A kv F w) {i b:Nat} (hi:i<n) (hb:(kv i).ownBlock=some b):base<=b/\b<w.heap.size:=aG (h.own i hi) hb
theorem bB.name (h:bB base n A kv F w) {i:Nat} (hi:i<n):w.cell? ⟨A i,0,none⟩=some (.string (F.nm i)):=by simp [World.cell?,h.node i hi]
theorem bB.qV (h:bB base n A kv F w) {i:Nat} (hi:i<n):w.cell? ⟨A i,1,none⟩=some (kv i):=by simp [World.cell?,h.node i hi]
theorem bB.thaw (h:bB base n A kv F w) {i:Nat} (hi:i<n) (o:Nat):w.frozen? ⟨A i,o,none⟩=false:=by simp [World.frozen?,h.node i hi]
theorem bB.same (h:bB base n A kv F w) (ha:∀i,i<n->w'.heap[A i]? = w.heap[A i]?) (hk:∀i b,i<n->(kv i).ownBlock=some b->w'.heap[b]? = w.heap[b]?):bB base n A kv F w' :=
 ⟨fun i hi=>by rw [ha i hi];exact h.node i hi,h.lo,h.inj,fun i hi=>(h.own i hi).same fun b hb=>hk i b hi hb,h.apart,h.alone,h.kid⟩
theorem bB.kept (h:bB base n A kv F w) (k:∀b,base<=b->b<w.heap.size->w'.heap[b]? = w.heap[b]?):bB base n A kv F w' :=
 h.same (fun i hi=>k _ (h.lo i hi) (h.lt hi)) (fun _ _ hi hb=>k _ (h.iA hi hb).1 (h.iA hi hb).2)
theorem bB.up (h:bB base n A kv F w) (k:Up w w'):bB base n A kv F w':=h.kept fun b _ hb=>bH k b hb
theorem bB.put (h:bB base n A kv F w) {k:Nat} (hk:k<n) {v:Value} {ks:List Nat}
  (ha:∀i,i<n->i≠k->w'.heap[A i]? = w.heap[A i]?) (hn:w'.heap[A k]? = some (.cells #[.string (F.nm k),v,.int .i64 (F.old k)] 122 (0,0)))
  (hv:ax base 119 w' v (ks.map (bD A))) (ho:∀i b,i<n->i≠k->(kv i).ownBlock=some b->w'.heap[b]? = w.heap[b]?)
  (hb:∀b,v.ownBlock=some b->(kv k).ownBlock=some b\/w.heap.size<=b) (hks:∀j∈ks,j<n):bB base n A (upd kv k v) { F with kids:=upd F.kids k ks } w':=by
 refine ⟨fun i hi=>?_,h.lo,h.inj,fun i hi=>?_,fun i j hi hj=>?_,fun i j b hi hj h1 h2=>?_,fun i hi=>?_⟩
 ·by_cases e:i=k
  ·subst e;rw [upd_same];exact hn
  ·rw [upd_ne _ _ e,ha i hi e];exact h.node i hi
 ·by_cases e:i=k
  ·subst e;simp only [upd_same];exact hv
  ·simp only [upd_ne _ _ e];exact (h.own i hi).same fun b hb=>ho i b hi e hb
 ·by_cases e:i=k
  ·subst e;rw [upd_same];intro h3
   rcases hb _ h3 with h4 | h4
   ·exact h.apart i j hi hj h4
   ·exact absurd (h.lt hj) (by omega)
  ·rw [upd_ne _ _ e];exact h.apart i j hi hj
 ·by_cases e1:i=k
  ·by_cases e2:j=k
   ·rw [e1,e2]
   ·subst e1
    rw [upd_same] at h1;rw [upd_ne _ _ e2] at h2;rcases hb _ h1 with h4 | h4
    ·exact h.alone i j b hi hj h4 h2
    ·exact absurd (h.iA hj h2).2 (by omega)
  ·by_cases e2:j=k
   ·subst e2
    rw [upd_same] at h2;rw [upd_ne _ _ e1] at h1;rcases hb _ h2 with h4 | h4
    ·exact h.alone i j b hi hj h1 h4
    ·exact absurd (h.iA hi h1).2 (by omega)
   ·rw [upd_ne _ _ e1] at h1
    rw [upd_ne _ _ e2] at h2;exact h.alone i j b hi hj h1 h2
 ·by_cases e:i=k
  ·subst e;simp only [upd_same];exact hks
  ·simp only [upd_ne _ _ e];exact h.kid i hi
theorem bB.AR (h:bB base n A kv F w) (hb:base<=w.heap.size) (nm:ByteArray) (old:Int) :
  bB base (n+1) (upd A n w.heap.size) (upd kv n (.slice none 0 0)) ⟨upd F.nm n nm,upd F.old n old,upd F.kids n []⟩ (w.alloc (.cells #[.string nm,.slice none 0 0,.int .i64 old] 122)):=by
 have hne:∀i,i<n->i≠n:=fun i hi=>by omega
 have hmap:∀i,i<n->(F.kids i).map (bD (upd A n w.heap.size))=(F.kids i).map (bD A):=fun i hi=>by refine jR fun k hk=>?_;unfold bD;rw [upd_ne _ _ (hne k (h.kid i hi k hk))]
 have gU:∀i,i<n+1->i<n\/i=n:=fun i hi=>by omega
 refine ⟨fun i hi=>?_,fun i hi=>?_,fun i j hi hj e=>?_,fun i hi=>?_,fun i j hi hj=>?_,fun i j b hi hj h1 h2=>?_,fun i hi=>?_⟩
 ·rcases gU i hi with hi | rfl
  ·simp only [upd_ne _ _ (hne i hi)];rw [blk_alloc_lt _ _ _ (h.lt hi)];exact h.node i hi
  ·simp only [upd_same];exact blk_alloc_new _ _
 ·rcases gU i hi with hi | rfl
  ·rw [upd_ne _ _ (hne i hi)];exact h.lo i hi
  ·rw [upd_same];exact hb
 ·rcases gU i hi with hi | rfl<;>rcases gU j hj with hj | rfl
  ·rw [upd_ne _ _ (hne i hi),upd_ne _ _ (hne j hj)] at e;exact h.inj i j hi hj e
  ·rw [upd_ne _ _ (hne i hi),upd_same] at e;have:=h.lt hi;omega
  ·rw [upd_same,upd_ne _ _ (hne j hj)] at e;have:=h.lt hj;omega
  ·rfl
 ·rcases gU i hi with hi | rfl
  ·simp only [upd_ne _ _ (hne i hi)];rw [hmap i hi];exact (h.own i hi).alloc _
  ·simp only [upd_same];exact ax.nil _ _ _
 ·rcases gU i hi with hi | rfl
  ·rw [upd_ne _ _ (hne i hi)]
   rcases gU j hj with hj | rfl
   ·rw [upd_ne _ _ (hne j hj)];exact h.apart i j hi hj
   ·rw [upd_same];intro e;have:=(h.iA hi e).2;omega
  ·rw [upd_same];intro e;cases e
 ·rcases gU i hi with hi | rfl<;>rcases gU j hj with hj | rfl
  ·rw [upd_ne _ _ (hne i hi)] at h1;rw [upd_ne _ _ (hne j hj)] at h2;exact h.alone i j b hi hj h1 h2
  ·rw [upd_same] at h2;cases h2
  ·rw [upd_same] at h1;cases h1
  ·rfl
 ·rcases gU i hi with hi | rfl
  ·simp only [upd_ne _ _ (hne i hi)];intro k hk;have:=h.kid i hi k hk;omega
  ·simp only [upd_same];intro k hk;cases hk
theorem bB.empty (base:Nat) (A:Nat->Nat) (kv:Nat->Value) (F:aX) (w:World):bB base 0 A kv F w :=
 ⟨fun _ h=>absurd h (bS _),fun _ h=>absurd h (bS _),fun _ _ h=>absurd h (bS _),fun _ h=>absurd h (bS _),fun _ _ h=>absurd h (bS _),fun _ _ _ h=>absurd h (bS _),fun _ h=>absurd h (bS _)⟩
theorem bB.push (h:bB base n A kv F w) {k c:Nat} (hk:k<n) (hc:c<n) {v:Value} (hv:ax base 119 w' v ((F.kids k++[c]).map (bD A))) (hg:w.grownBy w' (kv k).ownBlock)
  (hb:∀b,v.ownBlock=some b->(kv k).ownBlock=some b\/w.heap.size<=b):bB base n A (upd kv k v) { F with kids:=upd F.kids k (F.kids k++[c]) } (w'.setCell ⟨A k,1,none⟩ v):=by
 have hold:∀i,i<n->w'.heap[A i]? = w.heap[A i]?:=fun i hi=>hg.block (A i) (h.lt hi) (fun e=>h.apart k i hk hi e.symm);have hnA:∀b,v.ownBlock=some b->b≠A k:=fun b hv2 e=>by
  rcases hb b hv2 with h4 | h4
  ·exact h.apart k k hk hk (by rw [h4,e])
  ·have:=h.lt hk;omega
 refine h.put hk (fun i hi e=>?_) ?_ (hv.same fun b hv2=>blk_setCell_other _ _ _ _ (hnA b hv2)) (fun i b hi e hb2=>?_) hb ?_
 ·rw [blk_setCell_other _ _ _ _ (fun e2=>e (h.inj i k hi hk e2))];exact hold i hi
 ·have hn:=hold k hk
  rw [h.node k hk] at hn;simp [World.setCell,Array.getElem?_modify,hn]
 ·have hne:b≠A k:=fun e2=>h.apart i k hi hk (by rw [hb2,e2])
  rw [blk_setCell_other _ _ _ _ hne];exact hg.block b (h.iA hi hb2).2 (fun e2=>e (h.alone i k b hi hk hb2 e2.symm))
 ·intro j hj
  rcases cu.1 hj with h1 | h1
  ·exact h.kid k hk j h1
  ·have:j=c:=by simpa using h1
   omega
end
def Plain (w:World) (b:Nat):Prop:=∃c t,w.heap[b]? = some (.cells c t (0,0))/\0<c.size
section
variable {P:Program} {w:World}
theorem F4 {a b:Nat} (ha:Plain w a) (hb:Plain w b):(sameAddr ⟨a,0,none⟩ ⟨b,0,none⟩).run P w=.ok (decide (a=b)) w:=by
 obtain ⟨ca,ta,ha,hca⟩:=ha;obtain ⟨cb,tb,hb,hcb⟩:=hb;by_cases h:a=b
 ·subst h;simp [sameAddr]
 ·have h1:(a==b)=false:=by simp [h]
  simp [sameAddr,h1,h,World.frozen?,ha,hb,noView,viewAt,mayBeOne,stringish,World.shape?,getObj,Sem.run,shape,frozen]
def pk:Option Nat->Value
 | none=>.pointer none
 | some b=>.pointer (some ⟨b,0,none⟩)
def gF (w:World):Option Nat->Prop
 | none=>True
 | some b=>Plain w b
theorem Qm {t e:TypeId} (ht:P.underlying t=some (.pointer e)) (he:∀w,(sizeOf e).run P w=.ok 3 w) {x y:Option Nat} (hx:gF w x) (hy:gF w y) (d:Nat):(Op.equalIn (d+1) t (pk x) (pk y)).run P w=.ok (decide (x=y)) w:=by
 have hu:=run_underlying (w:=w) ht;unfold Op.equalIn;cases x with
 | none=>cases y<;>simp [hu,pk]
 | some a =>
  cases y with
  | none=>simp [hu,pk]
  | some b =>
   have h:=F4 (P:=P) hx hy;simp [hu,pk,he,h]
theorem Ka {t e:TypeId} (ht:P.underlying t=some (.pointer e)) (he:∀w,(sizeOf e).run P w=.ok 3 w) {x y:Option Nat} (hx:gF w x) (hy:gF w y):(Op.equal t (pk x) (pk y)).run P w=.ok (decide (x=y)) w :=
 Qm ht he hx hy 9999
theorem LD {t e:TypeId} (ht:P.underlying t=some (.pointer e)) (he:∀w,(sizeOf e).run P w=.ok 3 w) {k:Option Nat} (hk:gF w k):∀(es:List MapEntry) (l:List (Option Nat×Value)) (i:Nat),
  es.map (fun x=>(x.key,x.val))=l.map (fun x=>(pk x.1,x.2))->(∀x∈l,gF w x.1) ->
   (l.lookup k=none/\(Instr.findAsking t (pk k) es i).run P w=.ok none w)\/∃j v,l.lookup k=some v/\(Instr.findAsking t (pk k) es i).run P w=.ok (some (j,v)) w:=by
 intro es
 induction es with
 | nil =>
  intro l i hl _;cases l with
  | nil=>exact .inl ⟨rfl,by simp [Instr.findAsking]⟩
  | cons=>cases hl
 | cons x es ih =>
  intro l i hl hok;cases l with
  | nil=>cases hl
  | cons y l =>
   simp only [bI,List.cons.injEq,iM] at hl;obtain ⟨⟨h1,h2⟩,h3⟩:=hl;have heq:=Ka (w:=w) ht he hk (hok y (by simp));rw [<- h1] at heq;by_cases h:k=y.1
   ·subst h
    refine .inr ⟨i,y.2,?_,?_⟩
    ·obtain ⟨y1,y2⟩:=y;simp
    ·simp [Instr.findAsking,heq,h2]
   ·have hb:(k==y.1)=false:=by simpa using h
    rcases ih l (i+1) h3 (fun z hz=>hok z (by simp [hz])) with ⟨h4,h5⟩ | ⟨j,v,h4,h5⟩
    ·refine .inl ⟨?_,by simp [Instr.findAsking,heq,h,h5]⟩
     obtain ⟨y1,y2⟩:=y;rw [dV,hb];exact h4
    ·refine .inr ⟨j,v,?_,by simp [Instr.findAsking,heq,h,h5]⟩
     obtain ⟨y1,y2⟩:=y;rw [dV,hb];exact h4
def jZ (w:World) (b:Nat) (l:List (Option Nat×Value)):Prop:=∃es clock,w.heap[b]? = some (.map es clock)/\es.toList.map (fun x=>(x.key,x.val))=l.map (fun x=>(pk x.1,x.2))
theorem run_findKey {t e:TypeId} (ht:P.underlying t=some (.pointer e)) (he:∀w,(sizeOf e).run P w=.ok 3 w) {k:Option Nat} (hk:gF w k) (es:List MapEntry) (l:List (Option Nat×Value))
  (hl:es.map (fun x=>(x.key,x.val))=l.map (fun x=>(pk x.1,x.2))) (hok:∀x∈l,gF w x.1) :
   (l.lookup k=none/\(Instr.findKey t (pk k) es).run P w=.ok none w)\/∃j v,l.lookup k=some v/\(Instr.findKey t (pk k) es).run P w=.ok (some (j,v)) w:=by
 have hu:=run_underlying (w:=w) ht;have h:=LD ht he hk es l 0 hl hok;cases es with
 | nil =>
  cases l with
  | nil=>exact .inl ⟨rfl,by simp [Instr.findKey,hu,Instr.findNow]⟩
  | cons=>cases hl
 | cons x es =>
  have hn:Instr.findNow (.pointer e) (pk k) (x::es) 0=none:=by simp [Instr.findNow,Instr.sameNow]
  rcases h with ⟨h1,h2⟩ | ⟨j,v,h1,h2⟩
  ·exact .inl ⟨h1,by simp [Instr.findKey,hu,hn,h2]⟩
  ·exact .inr ⟨j,v,h1,by simp [Instr.findKey,hu,hn,h2]⟩
theorem run_checkKey {t e:TypeId} (ht:P.underlying t=some (.pointer e)) (em:Bool) (k:Option Nat):(Instr.checkKey em 10000 t (pk k)).run P w=.ok () w:=by
 have hu:=run_underlying (w:=w) ht;show (Instr.checkKey em (9999+1) t (pk k)).run P w=_;unfold Instr.checkKey;cases k<;>simp [hu,pk]
theorem wO {mt t e el:TypeId} (hm:P.underlying mt=some (.map t el)) (ht:P.underlying t=some (.pointer e)) (he:∀w,(sizeOf e).run P w=.ok 3 w) {b:Nat} {l:List (Option Nat×Value)} (h:jZ w b l) {k:Option Nat} {v:Value}
  (hk:gF w k) (hok:∀x∈l,gF w x.1) (hv:l.lookup k=some v):(Instr.lookup mt (.map (some b)) (pk k) false).run P w=.ok v w:=by
 obtain ⟨es,clock,hb,hl⟩:=h;have hu:=run_underlying (w:=w) hm;have hg:=zF (P:=P) hb;rcases run_findKey ht he hk es.toList l hl hok with ⟨h1,h2⟩ | ⟨j,v',h1,h2⟩
 ·rw [h1] at hv;cases hv
 ·rw [h1] at hv;injection hv with hv;subst hv
  simp [Instr.lookup,hu,hg,run_checkKey ht,h2]
theorem F5 {mt t e el:TypeId} (hm:P.underlying mt=some (.map t el)) (ht:P.underlying t=some (.pointer e)) (he:∀w,(sizeOf e).run P w=.ok 3 w) {b:Nat} {l:List (Option Nat×Value)} (h:jZ w b l) {k:Option Nat} (v:Value)
  (hk:gF w k) (hok:∀x∈l,gF w x.1) (hv:l.lookup k=none) :
  ∃w',(Instr.mapUpdate mt (.map (some b)) (pk k) v).run P w=.ok () w'/\jZ w' b (l++[(k,v)])/\w'.heap.size=w.heap.size/\w'.os=w.os/\w'.tape=w.tape/\w'.output=w.output/\∀j,j≠b->w'.heap[j]? = w.heap[j]?:=by
 obtain ⟨es,clock,hb,hl⟩:=h;have hu:=run_underlying (w:=w) hm;have hg:=zF (P:=P) hb;rcases run_findKey ht he hk es.toList l hl hok with ⟨h1,h2⟩ | ⟨j,v',h1,h2⟩
 ·have hs:=MapKept.run_setObj_map (P:=P) (.map (es.push { key:=pk k,val:=v,born:=clock }) (clock+1)) hb
  refine ⟨{ w with heap:=w.heap.setIfInBounds b (.map (es.push { key:=pk k,val:=v,born:=clock }) (clock+1)) },by simp [Instr.mapUpdate,hu,hg,run_checkKey ht,h2,hs],⟨es.push { key:=pk k,val:=v,born:=clock },clock+1,?_,by simp [hl]⟩,by simp,rfl,rfl,rfl,fun j hj=>?_⟩
  ·have:=(fW.1 hb).1
   simp [this]
  ·simp [Ne.symm hj]
 ·rw [h1] at hv;cases hv
end
end
end Go.Proofs.YthgabkgmkolobaaGreat
