/- strings.IndexAny at the four signs, for strings of any bytes. PhylotreeRerooted, plain. .. -/
import Derived.Lib.OthersKept
import Derived.Maps.OwnIn
import Derived.Test.YthgabkgmkolobaaGreatQ20
set_option maxRecDepth 100000
set_option maxHeartbeats 8000000
namespace Go.Proofs.YthgabkgmkolobaaGreat
section
open Go.RowKit Go.Deep
theorem get_of (s:ByteArray) (k:Nat) (h:k<s.size):s.get! k=s[k]'h:=by
 simp [ByteArray.get!,getElem!_pos,h];rfl
theorem XP (s : ByteArray) (pos : Nat) (h : pos < s.size) (ha : 128 <= (s[pos]'h).toNat) : 1 <= (Utf8.decode s pos).2 /\ pos + (Utf8.decode s pos).2 <= s.size /\ ∀ j, (hj : j < (Utf8.decode s pos).2) -> ∀ hl : pos + j < s.size, 128 <= (s[pos + j]'hl).toNat := by
  have key : ∀ w : Nat, 1 <= w -> w <= 4 -> (∀ j, 1 <= j -> j < w -> pos + j < s.size /\ (s.get! (pos + j)).toNat / 64 = 2) -> 1 <= w /\ pos + w <= s.size /\ ∀ j, (hj : j < w) -> ∀ hl : pos + j < s.size, 128 <= (s[pos + j]'hl).toNat := fun w h1 _ hc => by
    refine ⟨h1, ?_, fun j hj hl => ?_⟩
    · by_cases e : w = 1
      · omega
      · have := (hc (w - 1) (by omega) (by omega)).1; omega
    · by_cases e : j = 0
      · subst e; exact ha
      · have h2 := (hc j (by omega) hj).2
        rw [get_of s _ hl] at h2
        omega
  have one := key 1 (af _) (by omega) (fun j a b => by omega)
  have cont : ∀ k, (decide (pos + k < s.size) && (s.get! (pos + k)).toNat / 64 == 2) = true -> pos + k < s.size /\ (s.get! (pos + k)).toNat / 64 = 2 := fun k hk => by
    simp only [gD, decide_eq_true_eq, beq_iff_eq] at hk; exact hk
  have hn : ¬ (s[pos]'h).toNat < 128 := by omega
  unfold Utf8.decode
  simp only [get_at s pos h, hn, if_false]
  split
  · rename_i hb
    rw [gD] at hb
    split
    · exact key 2 (by omega) (by omega) fun j h1 h2 => by obtain rfl : j = 1 := by omega
                                                          exact cont 1 hb.2
    · exact one
  · split
    · rename_i hb
      rw [gD, gD] at hb
      split
      · exact key 3 (by omega) (by omega) fun j h1 h2 => by
          by_cases e : j = 1
          · subst e; exact cont 1 hb.1.2
          · obtain rfl : j = 2 := by omega
            exact cont 2 hb.2
      · exact one
    · split
      · rename_i hb
        rw [gD, gD, gD] at hb
        split
        · exact key 4 (by omega) (by omega) fun j h1 h2 => by
            by_cases e : j = 1
            · subst e; exact cont 1 hb.1.1.2
            · by_cases e2 : j = 2
              · subst e2; exact cont 2 hb.1.2
              · obtain rfl : j = 3 := by omega
                exact cont 3 hb.2
        · exact one
      · exact one
theorem noany_skip {s:ByteArray} {i d:Nat} (h:Lib.NoAny s.data.toList dS i) (hs:i+d<=s.size) (hb:∀j,(hj:j<d)->∀hl:i+j<s.size,128<=(s[i+j]'hl).toNat):Lib.NoAny s.data.toList dS (i+d):=fun j b hj hx=>by
 by_cases e:j<i
 ·exact h j b e hx
 ·obtain ⟨d2,rfl⟩:∃d2,j=i+d2:=⟨j - i,by omega⟩
  have hl:i+d2<s.size:=by omega
  have h1:=hb d2 (by omega) hl
  rw [Lib.data_getElem? s (i+d2) hl] at hx
  injection hx with hx
  have h3:128<=b.toNat:=by rw [<- hx];exact h1
  cases hc:dS.contains b with
  | false=>rfl
  | true =>
   have hm:=iP.1 hc
   simp only [dS,aW,qD,or_false] at hm
   rcases hm with rfl | rfl | rfl | rfl<;>exact absurd h3 (by decide)
theorem XQ (s:ByteArray) (w:World) (hs:s.size<=1000):Calls Tryz.prog 166 #[.string s,.string sQ] w fun e w'=>e=.returned (.int .i64 (Lib.indexAny s.data.toList dS))/\Up w w':=by
 by_cases h8:8<s.size
 ·have h:=Go.Proofs.Any.strings_IndexAny_long (ρ:=Tryz.idxA_ren) Tryz.idxA (zero_of_info (P:=Tryz.prog) (t:=225) (v:=.agg (Array.replicate 256 (.bool false))) (n:=256) (by kernel_rfl)).1 (zero_of_info (P:=Tryz.prog) (t:=225) (v:=.agg (Array.replicate 256 (.bool false))) (n:=256) (by kernel_rfl)).2 s sQ w (by decide) h8 (by omega) (by decide) (by
   intro j b hb
   have hm:=M5 hb
   have hall:∀x∈sQ.data.toList,x.toNat<128:=by decide +kernel
   exact hall b hm)
  refine h.mono ?_
  rintro e w' ⟨rfl,rfl⟩
  exact ⟨rfl,(Up.alloc _ _).trans (Up.alloc _ _)⟩
 ·have h8z:decide ((8:Int)<(s.size:Int))=false:=decide_eq_false (by omega)
  have qy:=aa (fun W=>Go.Proofs.Any.strings_shouldUseASCIISet (ρ:=Tryz.idxA_ren) { Tryz.idxA with } (s.size:Int) W);rw [h8z] at qy;have qu:=aa UZ;have HIL:=aa (fun (x:UInt8) (h:x.toNat<128) W=>Go.Proofs.Any.strings_IndexRune_ascii (ρ:=Tryz.idxA_ren) { Tryz.idxA with } sQ (x.toNat:Int) W (by omega) (by omega));have LB:((sQ.size:Int)==1)=false:=rfl;have hemp:(sQ.toList==[])=false:=by decide +kernel
  clear h8
  go_enter Tryz.func166,Tryz.ntmps166
  go_wp2_with fail;refine (qy.out _).mono ?_;rintro e w2 ⟨rfl,rfl⟩;go_wp2_with fail
  go_loopg [9,10] s.size (fun g _ _ wx=>∃i:Nat,i+g=s.size/\wx.heap[w2.heap.size]? = some (.stringIter s i)/\Hid (Up w2 wx)/\Hid (Lib.NoAny s.data.toList dS i))
  case atStart=>exact ⟨0,by omega,World.iter_heap _ _ _,Up.alloc _ _,Lib.NoAny.zero _ _⟩
  case round =>
   obtain ⟨i,hig,hit,fT,hno⟩:=hrel;obtain ⟨wo,rfl⟩:∃wo:World,wo=wr:=⟨_,rfl⟩;by_cases hi:i<s.size
   ·have hnx:=fun ty=>Lib.run_next_any_at (P:=Tryz.prog) wo w2.heap.size s i ty hit hi
    have hit2:=Lib.iterAt_heap wo w2.heap.size s i (i+(Utf8.decode s i).2) hit;have HIT:=aa hit2;have bD:Hid (Up w2 (wo.iterAt w2.heap.size s (i+(Utf8.decode s i).2))):=Lib.below_iterAt fT.out (af _) _ _;have HDL:=aa (decode_le s i);obtain ⟨x,hx⟩:∃x:UInt8,s[i]'hi=x:=⟨_,rfl⟩;(have hxl:s.data.toList[i]? = some x:=by rw [<- hx];exact Lib.data_getElem? s i hi);have HXL:=aa hxl;have HG:=aa hig;have HI:=aa hi;by_cases ha:128<=x.toNat
    ·obtain ⟨k1,k2,k3⟩:=XP s i hi (by rw [hx];exact ha)
     have h1:=(decode_high s i hi (by rw [hx];exact ha)).1;have r4:=aa (noany_skip hno.out k2 k3);have HK:=aa k1;have xz:=aa k2;have HC:=aa (qu.out (wo.iterAt w2.heap.size s (i+(Utf8.decode s i).2)) ((Utf8.decode s i).1:Int) (by omega) (by have:=HDL.out;omega));clear hit hit2 fT hno hxl hx hi hig k1 k2 k3 ha h1;generalize (Utf8.decode s i).1=rn at *;generalize (Utf8.decode s i).2=wd at *;go_wp2_with fail;refine HC.out.mono ?_;rintro e w5 ⟨rfl,ey⟩;have iw:Hid (Up w2 w5):=bD.out.trans ey
     have HIT5:Hid (w5.heap[w2.heap.size]? = some (.stringIter s (i+wd))):=(bI ey w2.heap.size (fR.1 HIT.out).1).trans HIT.out;clear ey;go_wp2_with fail
     go_roundg (s.size - (i+wd))
     case measure=>have:=HG.out;have:=HK.out;have:=xz.out;omega
     case rel=>exact ⟨i+wd,by have:=xz.out;omega,HIT5.out,iw.out,r4.out⟩
    ·have h1:Utf8.decode s i=(x.toNat,1):=by rw [decode_ascii s i hi (by rw [hx];omega),hx]
     rw [h1] at hnx HIT bD;have HC:=aa (HIL.out x (by omega) (wo.iterAt w2.heap.size s (i+1)));(have hback:((x.toNat:Int)).toNat.toUInt8=x:=by simp);rw [hback] at HC;have hcon:=Lib.contains_iff_indexByte dS x;cases hin:dS.contains x
     ·have hlt:decide ((0:Int)<=Lib.indexByte sQ.data.toList x)=false:=by rw [hin] at hcon;exact hcon.symm
      have r4:=aa (hno.out.succ hxl hin);clear hit hit2 fT hno hxl hx hi hig ha h1 hcon;generalize Lib.indexByte sQ.data.toList x=ib at *;go_wp2_with fail;refine HC.out.mono ?_;rintro e w5 ⟨rfl,rfl⟩;go_wp2_with fail
      go_roundg (s.size - (i+1))
      case measure=>have:=HG.out;have:=HI.out;omega
      case rel=>exact ⟨i+1,by have:=HI.out;omega,HIT.out,bD.out,r4.out⟩
     ·have hlt:decide ((0:Int)<=Lib.indexByte sQ.data.toList x)=true:=by rw [hin] at hcon;exact hcon.symm
      have HR:Hid (Lib.indexAny s.data.toList dS=(i:Int)):=Lib.indexAny_hit hno.out hxl hin;clear hit hit2 fT hno hxl hx hi hig ha h1 hcon;generalize Lib.indexByte sQ.data.toList x=ib at *;go_wp2_with fail;refine HC.out.mono ?_;rintro e w5 ⟨rfl,rfl⟩;go_wp2_with fail;go_ret;exact ⟨by rw [HR.out];rfl,bD.out⟩
   ·have hnx:=fun ty=>Lib.run_next_end_at (P:=Tryz.prog) wo w2.heap.size s i ty hit hi
    (have hisz:i=s.size:=by omega);have HR:Hid (Lib.indexAny s.data.toList dS = -1):=Lib.indexAny_none (by rw [<- Lib.size_eq,<- hisz];exact hno.out);have HUP:=aa fT.out;clear hit fT hno hi hig hisz;go_wp2_with fail;go_ret;exact ⟨by rw [HR.out];rfl,HUP.out⟩
theorem ia_ok (s:ByteArray) (hs:s.size<=1000):IaOk s:=fun i W hi=>by
 have h:=XQ (s.extract i s.size) W (by rw [ByteArray.size_extract];omega)
 have e:(s.extract i s.size).data.toList=s.data.toList.drop i:=by
  rw [Fm,Array.toList_extract]
  exact Bj (by rw [wO,Bh];exact af _)
 rw [e] at h
 exact h
end
section
section
variable {t:az}
def iD (ns:List ByteArray) (a:ByteArray):Int:=dI (fun j=>decide (a=gs ns j)) ns.length
theorem ES {ns:List ByteArray} {a:ByteArray}:a∈qK ns↔∃j,j<ns.length/\gs ns j=a/\a.size≠0:=by
 unfold qK;rw [fL];constructor
 ·rintro ⟨h1,h2⟩
  obtain ⟨j,hj,e⟩:=CO.1 h1;exact ⟨j,hj,by rw [<- e];simp [gs,hj],of_decide_eq_true h2⟩
 ·rintro ⟨j,hj,e,h2⟩
  refine ⟨?_,decide_eq_true h2⟩;have:gs ns j=ns[j]:=by simp [gs,hj]
  rw [<- e,this];exact lg hj
end
end
section
def cu (t:az) (aac:List ByteArray) (k:Nat):List Int:=iG (fun b=>(List.range t.ps.length).any fun j=>ew t.ps k j&&decide ((gs t.ns j).size≠0)&&decide (iD aac (gs t.ns j)=b)) aac.length
def xA (t:az) (aac:List ByteArray):Bool:=(List.range (aD t.ns).length).any fun j=>decide (iD aac (gs t.ns (gi (aD t.ns) j).toNat)<0)
structure dK (t:az) (aac:List ByteArray):Prop where
 te:aH t=0
 le:aac.length<=32
 nd:∀j k,j<k->k<aac.length->gs aac k≠gs aac j
 len:(aD t.ns).length=aac.length
 has:∀j,j<t.ps.length->(gs t.ns j).size≠0->∃b:Nat,b<aac.length/\gs aac b=gs t.ns j
theorem J8 {aac:List ByteArray} {a:ByteArray}:0<=iD aac a↔∃b,b<aac.length/\gs aac b=a:=by
 constructor
 ·intro h
  obtain ⟨k,hk⟩:=pE h;obtain ⟨h1,h2,_⟩:=Bp hk;exact ⟨k,h1,(of_decide_eq_true h2).symm⟩
 ·rintro ⟨b,hb,e⟩
  have hany:(List.range aac.length).any (fun j=>decide (a=gs aac j))=true:=eO.2 ⟨b,bh.2 hb,decide_eq_true e.symm⟩;rw [<- gX] at hany;exact of_decide_eq_true hany
theorem U0 {aac:List ByteArray} (h:∀j k,j<k->k<aac.length->gs aac k≠gs aac j) {a b:Nat} (ha:a<aac.length) (hb:b<aac.length) (e:gs aac a=gs aac b):a=b:=by
 rcases rY a b with c | c | c
 ·exact absurd e.symm (h a b c hb)
 ·exact c
 ·exact absurd e (h b a c ha)
theorem sR {aac:List ByteArray} (h:∀j k,j<k->k<aac.length->gs aac k≠gs aac j) {b:Nat} (hb:b<aac.length):iD aac (gs aac b)=(b:Int):=by
 have h1:0<=iD aac (gs aac b):=J8.2 ⟨b,hb,rfl⟩;obtain ⟨k,hk⟩:=pE h1;obtain ⟨h2,h3,_⟩:=Bp hk;have h3:=of_decide_eq_true h3;rw [hk];have:=U0 h h2 hb h3.symm;rw [this]
section
variable {t:az} {aac:List ByteArray}
theorem nP {k:Nat} {x:Int}:x∈cu t aac k↔0<=x/\x<(aac.length:Int)/\∃j,j<t.ps.length/\ew t.ps k j=true/\(gs t.ns j).size≠0/\iD aac (gs t.ns j)=x:=by
 unfold cu;rw [vF,eO];constructor
 ·rintro ⟨h1,h2,j,hj,h3⟩
  simp only [gD,decide_eq_true_eq] at h3;exact ⟨h1,h2,j,bh.1 hj,h3.1.1,h3.1.2,h3.2⟩
 ·rintro ⟨h1,h2,j,hj,h3,h4,h5⟩
  refine ⟨h1,h2,j,bh.2 hj,?_⟩;simp only [gD,decide_eq_true_eq];exact ⟨⟨h3,h4⟩,h5⟩
end
end
section
open Go.RowKit Go.Shelf Go.Deep Go.Sort
abbrev El:=Nat×Value
section
variable (w0:World) (t:az) (aac:List ByteArray) (l Bt Be Bn Bq N:Nat) (J:List El->(Nat->Prop)->World->Prop)
variable {w0 t aac l Bt Be Bn Bq N J}
theorem LW (W:World) (base:Nat) (e:TypeId) (u:Value) (h:base<=W.heap.size):ax base e (W.alloc (.cells #[u] e)) (.slice (some ⟨W.heap.size,0,none⟩) 1 1) [u] :=
 ⟨rfl,.inr ⟨W.heap.size,1,#[u],rfl,h,blk_alloc_new W _,af _,by decide,rfl,rfl⟩⟩
end
end
section
open Go Go.RowKit Go.Deep
theorem zI {F:Fence} {nF:Nat} {P:Program} {ops:Array Oper} {rest:List Oper} {o:Oper} {a:Act} {Q:Exit->Act->World->Prop} (W:World) (hgd:o.guard=none) (s x:Operand) (t:TypeId) (ho:o.op=.call { callee:=.builtin .append,args:=#[s,x],argTypes:=#[t,t] })
  (base:Nat) (e:TypeId) (z:Value) (bytes:Nat) (ht:P.underlying t=some (.slice e)) (hinfo:(P.info? e).map (fun i=>(i.zero,i.size,i.bytes))=some (some z,1,bytes))
  (hz1:z.cells.size=1) (qE:bytes<=64) {v:Value} {vs:List Value} (hown:ax base e W v vs) (hs:a.eval s=v) (u:Value)
  (hx:a.eval x=.slice (some ⟨W.heap.size,0,none⟩) 1 1) (h1:u.oneCell'=true) (k:Nat) (uM:vs.length=k) (hn:k<=1000000) (hbase:base<=W.heap.size)
  (h:∀g cap w',ax base e w' (.slice (some ⟨g,0,none⟩) (k+1) cap) (vs++[u])->W.grownBy w' v.ownBlock->(v.ownBlock=some g\/W.heap.size<=g)->wpListIn F nF P ops Q rest (a.put o.dst (.slice (some ⟨g,0,none⟩) (k+1) cap)) w') :
  wpListIn F nF P ops Q (o::rest) a (W.alloc (.cells #[u] e)):=by
 subst uM;obtain ⟨i,hi,hzz⟩:=mh.1 hinfo;simp only [mj] at hzz;obtain ⟨hz,hs1,hb⟩:=hzz;refine wpListIn_plain hgd fun K hK'=>?_;obtain ⟨g,cap,w',hr,h2,h3,h4,h5⟩:=run_append_lies (P:=P) (W.alloc (.cells #[u] e)) t o.type base e i z 1 bytes ht hi hz hs1 hb hz1 (by omega) v vs.length vs (hown.alloc _) ⟨W.heap.size,0,none⟩ 1 1 [u] rfl (cell_one_new _ _ _) (by simpa using h1) (by omega)
  (by unfold maxLen;omega) (by have:(vs.length+1)*bytes<=(vs.length+1)*64:=sW _ qE;omega) (by simp;omega) _ rfl
 unfold Oper.wpIn;refine ⟨by simp [Oper.about,ho,resolve,Target.leads,Sem.run_pure],?_⟩;rw [Oper.semAt_plain F _ _ (by rw [ho];intro c hc';cases hc')];simp [execOp,ho,resolve,invoke,builtin,hs,hx,hr,Result.andThen];exact hK' _ _ (h g cap w' (by unfold ax;rw [aZ];exact h2) (nB h3) (h4.imp id fun e=>by rw [e,aQ];omega))
end
section
open Go.RowKit Go.Deep Go.Shelf
theorem ay.grown {S:Nat->Prop} {X Y:World} {v:Value} {n:Nat} {f:Nat->Value} {row:Option Nat} (h:ay S X v n f) (hg:X.grownBy Y row) (hr:∀r,row=some r->∃o,X.heap[r]? = some o/\o.isCells=false):ay S Y v n f:=by
 obtain ⟨p,cap,rfl,hn,h⟩:=h;refine ⟨p,cap,rfl,hn,?_⟩;by_cases h0:n=0
 ·exact .inl h0
 ·rcases h with h | ⟨g,off,rfl,hS,hc⟩
  ·exact absurd h h0
  ·refine .inr ⟨g,off,rfl,hS,fun k hk=>?_⟩
   have h1:=hc k hk;have hl:=eG X _ h1;refine (eX (a:=⟨g,off+k,none⟩) (hg.block g hl fun e=>?_)).trans h1;obtain ⟨o,h2,h3⟩:=hr g e.symm;simp only [World.cell?] at h1;rw [h2] at h1;cases o<;>simp [Obj.isCells] at h3<;>simp at h1
end
section
open Go.RowKit Go.Shelf Go.Deep Go.Sort
theorem XR (w:World) (mp:Option Addr) (n c:Nat):Calls Tryz.prog 164 #[.slice mp n c] w fun e w'=>e=.returned (.func (.func 215) #[] #[.pointer (some ⟨w.heap.size,0,none⟩)])/\w'=w.alloc (.cells #[.slice mp n c] 22):=by
 go_enter Tryz.func164,Tryz.ntmps164
 go_wp2_with fail
 go_ret
 exact ⟨by simp,rfl⟩
abbrev Dv:=Nat×Value×Value
def GvD (aac:List ByteArray) (x:Dv) (L:Nat->Prop) (W:World):Prop:=(1<=x.1/\x.1<2 ^ (aac.length - 1))/\au L W x.2.1 (dA aac x.1)/\au L W x.2.2 (dB aac x.1)
theorem gvD_own {aac:List ByteArray} {B:Nat} (x:Dv) (L:Nat->Prop):OwnFrom B (fun (_:Unit) W=>GvD aac x L W):=by
 intro s X Y row h hg hr;obtain ⟨h1,h2,h3⟩:=h;exact ⟨h1,ay.grown h2 hg fun r e=>(hr r e).2,ay.grown h3 hg fun r e=>(hr r e).2⟩
theorem U1:∀q:Nat,q<8->bits BinOp.and IntKind.i64 ((q:Nat):Int) 1=((q:Nat):Int) % 2:=by decide +kernel
theorem Y6 (k i:Nat):(((k / 2 ^ i:Nat):Int)) % 2=if k.testBit i then 1 else 0:=by
 rw [Nat.testBit_eq_decide_div_mod_eq];generalize k / 2 ^ i=q;by_cases h:q % 2=1
 ·rw [decide_eq_true h,if_pos rfl];omega
 ·rw [decide_eq_false h,if_neg (by decide)];omega
structure Dup (B:Nat) (W:World) (a b:Value) (A C:List ByteArray):Prop where
 ao:ax B 9 W a (A.map Value.string)
 bo:ax B 9 W b (C.map Value.string)
 ap:∀g,a.ownBlock=some g->b.ownBlock≠some g
theorem Dup.appA {B:Nat} {W W':World} {a b:Value} {A C:List ByteArray} {g cap k:Nat} {s:ByteArray} (h:Dup B W a b A C) (ho:ax B 9 W' (.slice (some ⟨g,0,none⟩) k cap) (A.map Value.string++[.string s])) (hg:W.grownBy W' a.ownBlock) (dD:a.ownBlock=some g\/W.heap.size<=g):Dup B W' (.slice (some ⟨g,0,none⟩) k cap) b (A++[s]) C:=by
 refine ⟨by rw [cg];exact ho,h.bo.fM fun x hx=>hg.block x (av h.bo hx).2 fun e=>h.ap x e.symm hx,fun x hx hx2=>?_⟩;have hx:some g=some x:=hx;injection hx with hx;subst hx;rcases dD with e | e
 ·exact h.ap g e hx2
 ·have:=(av h.bo hx2).2;omega
theorem Dup.appB {B:Nat} {W W':World} {a b:Value} {A C:List ByteArray} {g cap k:Nat} {s:ByteArray} (h:Dup B W a b A C) (ho:ax B 9 W' (.slice (some ⟨g,0,none⟩) k cap) (C.map Value.string++[.string s])) (hg:W.grownBy W' b.ownBlock) (dD:b.ownBlock=some g\/W.heap.size<=g):Dup B W' a (.slice (some ⟨g,0,none⟩) k cap) A (C++[s]):=by
 refine ⟨h.ao.fM fun x hx=>hg.block x (av h.ao hx).2 fun e=>h.ap x hx e.symm,by rw [cg];exact ho,fun x hx hx2=>?_⟩;have hx2:some g=some x:=hx2;injection hx2 with hx2;subst hx2;rcases dD with e | e
 ·exact h.ap g hx e
 ·have:=(av h.ao hx).2;omega
section
variable {w0 w9:World} {aac:List ByteArray} {Bt N:Nat}
theorem div_seqL (m:Nat) {mp:Option Addr} {mc:Nat} (h2:2<=aac.length) (h4:aac.length<=4) (hB:w0.heap.size<=Bt)
  (hb:w9.cell? ⟨Bt,0,none⟩=some (.slice mp aac.length mc)) (Dh:au Any w0 (.slice mp aac.length mc) aac) (hN:2 ^ (aac.length - 1) - 1<=N) :
  SeqL Fence.wide m Tryz.prog 215 #[.pointer (some ⟨Bt,0,none⟩)] (fun x:Dv=>#[x.2.1,x.2.2]) (GvD aac) (fun _ _=>False) (fun xs=>xs.map (·.1)=List.range' 1 (2 ^ (aac.length - 1) - 1)) N w0 w9 (fun b=>b=Bt):=by
 intro l J W hW Y7 hW9 hA hY hJ;obtain ⟨I8,kt1⟩:=Y7 Bt rfl;have wB:=(eX (a:=⟨Bt,0,none⟩) kt1).trans hb;obtain ⟨nb,no,rfl,hc0⟩:=dr Dh (k:=0) (by omega);obtain ⟨M,hM⟩:∃M,M=2 ^ (aac.length - 1):=⟨_,rfl⟩;have hM8:M<=8:=by rw [hM];exact Nat.pow_le_pow_right (n:=2) (by decide) (show aac.length - 1<=3 by omega)
 have hM1:1<=M:=by rw [hM];exact Nat.one_le_two_pow
 have hWM:wrap64 ((2:Int) ^ (aac.length - 1))=(M:Int):=by
  have:(2:Int) ^ (aac.length - 1)=((2 ^ (aac.length - 1):Nat):Int):=by simp
  rw [this,<- hM];unfold wrap64;omega
 have hmc:aac.length<=mc:=by obtain ⟨_,_,e,h,_⟩:=ay.open Dh;injection e with e1 e2 e3;omega
 have nV:Hid (∀i,i<aac.length->∀W,Up w0 W->W.cell? ⟨nb,no+i,none⟩=some (.string (gs aac i))):=fun i hi W hW=>hW.cell (ay.pQ Dh hi);rw [<- hM] at hN;have G5:Hid (J [] (fun b=>b=Bt) W):=hJ;have HY:=aa hY;have HA:=aa hA;have HW:=aa hW;have HWB:=aa wB;have HL:Hid (Bt<W.heap.size):=js I8 hW9;have HM:=aa hM;have HN:=aa hN;have HB:=aa hB;have HMB:Hid (M<=8):=hM8;clear hW Y7 hW9 hA hY hJ kt1 I8 Dh hc0 hb hM hN hB;refine callsIn_of_wp Tryz.func215 rfl trivial ?_ rfl
 simp only [Tryz.ntmps215,eW,aT,dO,Nat.reduceAdd,Nat.reduceSub,ji,jk,eV,ve,cH,cr];gi_wp2
 gi_loopw [3,4,5,6,7] (fun i _ _ _ _ wr=>∃(k:Nat) (ys:List Dv) (L':Nat->Prop),1<=k/\k<=M/\i=.int .i64 k/\Hid (ys.map (·.1)=List.range' 1 (k - 1))/\Hid (J ys L' wr)/\Hid (Below w0.heap.size w0 wr)/\Hid (∀b,L' b->w0.heap.size<=b/\b<wr.heap.size)/\Hid (L' Bt)/\Hid (wr.cell? ⟨Bt,0,none⟩=some (.slice (some ⟨nb,no,none⟩) aac.length mc))) (fun i _ _ _ _ _=>M - (intOf i).toNat)
 case atStart=>exact ⟨1,[],_,af _,hM1,rfl,rfl,G5.out,HW.out,fun b hb=>by rw [hb];exact ⟨HB.out,HL.out⟩,rfl,HWB.out⟩
 case round =>
  obtain ⟨k,ys,L',hk1,hk,rfl,hys,hJk,hUk,NZ,hLB,hcB⟩:=hrel;obtain ⟨wo,rfl⟩:∃wo:World,wo=wr:=⟨_,rfl⟩;have hcb:=hcB.out;have hn0:=nV.out 0 (by omega) wo hUk.out;rw [jZ] at hn0;have i0:(0:Int)<=(k:Int):=by omega
  by_cases hlt:k<M
  ·have i1:(k:Int)<(M:Int):=by omega
   (have i2:(k:Int)<8:=by omega);(have i3:0<aac.length:=by omega);(have i4:(0:Int)<(aac.length:Int):=by omega);(have i5:(1:Int)<=(aac.length:Int):=by omega);(have i6:1<=aac.length:=by omega);(have i7:¬mc=1:=by omega);have i8:aac.length<=mc:=hmc;have bA:=Up.alloc wo (.cells #[.string (gs aac 0)] 9);have hD0:Dup wo.heap.size (wo.alloc (.cells #[.string (gs aac 0)] 9)) (.slice (some ⟨wo.heap.size,0,none⟩) 1 1) (.slice none 0 0) [gs aac 0] []:=⟨LW wo _ _ _ (af _),ax.nil _ _ _,fun g _ e=>by cases e⟩;have HD0:=aa hD0;have cA:=aa bA;have hcb1:=bA.cell hcb
   clear hD0 bA;gi_wp2;generalize wo.alloc (.cells #[.string (gs aac 0)] 9)=w1 at *;simp only [hWM];clear hWM
   gi_loopw [4,5,6,7,23] (fun a b _ _ i wr=>∃j:Nat,j<=aac.length - 1/\i=.int .i64 j/\Hid (Dup wo.heap.size wr a b (gs aac 0::cG (fun i=>!k.testBit i) aac.tail j) (cG (fun i=>k.testBit i) aac.tail j))/\Hid (Up wo wr)) (fun _ _ _ _ i _=>aac.length - 1 - (intOf i).toNat)
   case atStart=>exact ⟨0,aL _,rfl,HD0.out,cA.out⟩
   case round =>
    obtain ⟨j,hj,rfl,hD,hU⟩:=hrel;obtain ⟨wi,rfl⟩:∃wi:World,wi=wr:=⟨_,rfl⟩;(have j0:(0:Int)<=(j:Int):=by omega);by_cases hlj:j<aac.length - 1
    ·have GH:=nV.out (j+1) (by omega) wi (hUk.out.trans (hU.out.mono hUk.out.size))
     rw [show no+(j+1)=no+1+j by omega] at GH;(have j1:(j:Int)<((aac.length - 1:Nat):Int):=by omega);(have j2:(j:Int)<4:=by omega);(have zW:bits BinOp.and IntKind.i64 ((k:Int) / 2 ^ j) 1=if k.testBit j then 1 else 0:=by (have e:(k:Int) / 2 ^ j=((k / 2 ^ j:Nat):Int):=by simp);have:k / 2 ^ j<=k:=Nat.div_le_self _ _;rw [e,U1 _ (by omega),Y6]);have qy:=aa (pX (fun i=>!k.testBit i) aac.tail j);have fu:=aa (pX (fun i=>k.testBit i) aac.tail j);have zi:Hid (aac.tail.getD j default=gs aac (j+1)):=by
      unfold Hid gs;cases aac with
      | nil=>simp at hlj
      | cons a l=>rfl
     have Di:=aa hlj;(have ID:Hid (((gs aac 0::cG (fun i=>!k.testBit i) aac.tail j).map Value.string).length<=1000000/\((cG (fun i=>k.testBit i) aac.tail j).map Value.string).length<=1000000):=by have a1:=qY (fun i=>!k.testBit i) aac.tail j;have a2:=qY (fun i=>k.testBit i) aac.tail j;unfold Hid;rw [aG,aG,aT];omega);have fA:Hid (wo.heap.size<=wi.heap.size):=hU.out.size;obtain ⟨ap,ac,rfl,-⟩:=hD.out.ao.form rfl;obtain ⟨bp,bc,rfl,-⟩:=hD.out.bo.form rfl;rw [zi.out] at qy fu;clear hlj;cases hb:k.testBit j
     ·rw [hb] at zW qy fu
      have zW:bits BinOp.and IntKind.i64 ((k:Int) / 2 ^ j) 1=0:=zW;have qy:Hid (cG (fun i=>!k.testBit i) aac.tail (j+1)=cG (fun i=>!k.testBit i) aac.tail j++[gs aac (j+1)]):=qy.out;(have fu:Hid (cG (fun i=>k.testBit i) aac.tail (j+1)=cG (fun i=>k.testBit i) aac.tail j):=by unfold Hid;rw [fu.out];simp);clear hb
      gi_wp2_with (gi_at_builtin;refine zI wi rfl _ _ 22 rfl wo.heap.size 9 (.string ⟨#[]⟩) 16 Tryz.underlying22 Tryz.kR rfl (by decide) hD.out.ao rfl (.string (gs aac (j+1))) rfl rfl _ rfl ID.out.1 fA.out ?_;intro g8 oz w8 fH ic jJ;have U2:=aa (hD.out.appA fH ic jJ);have gK:=aa (hD.out.ao.fE ic fA.out);clear fH ic jJ)
      go_roundw
      case rel=>exact ⟨j+1,by have:=Di.out;omega,by go_num,by rw [qy.out,fu.out];have q:=U2.out;simp only [aG,aT] at q;exact q,iH (show Below wo.heap.size wo wi from hU.out) gK.out⟩
      case measure=>have:=Di.out;simp [intOf];omega
     ·rw [hb] at zW qy fu
      have zW:bits BinOp.and IntKind.i64 ((k:Int) / 2 ^ j) 1=1:=zW;(have qy:Hid (cG (fun i=>!k.testBit i) aac.tail (j+1)=cG (fun i=>!k.testBit i) aac.tail j):=by unfold Hid;rw [qy.out];simp);have fu:Hid (cG (fun i=>k.testBit i) aac.tail (j+1)=cG (fun i=>k.testBit i) aac.tail j++[gs aac (j+1)]):=fu.out;clear hb
      gi_wp2_with (gi_at_builtin;refine zI wi rfl _ _ 22 rfl wo.heap.size 9 (.string ⟨#[]⟩) 16 Tryz.underlying22 Tryz.kR rfl (by decide) hD.out.bo rfl (.string (gs aac (j+1))) rfl rfl _ rfl ID.out.2 fA.out ?_;intro g8 oz w8 fH ic jJ;have U2:=aa (hD.out.appB fH ic jJ);have gK:=aa (hD.out.bo.fE ic fA.out);clear fH ic jJ)
      go_roundw
      case rel=>exact ⟨j+1,by have:=Di.out;omega,by go_num,by rw [qy.out,fu.out];have q:=U2.out;simp only [aG,aT] at q;exact q,iH (show Below wo.heap.size wo wi from hU.out) gK.out⟩
      case measure=>have:=Di.out;simp [intOf];omega
    ·obtain rfl:j=aac.length - 1:=by omega
     obtain ⟨ap,ac,hae,-⟩:=hD.out.ao.form rfl;obtain ⟨bp,bc,zP,-⟩:=hD.out.bo.form rfl;subst hae;subst zP;obtain ⟨va,hva⟩:∃va,va=Value.slice ap ((gs aac 0::cG (fun i=>!k.testBit i) aac.tail (aac.length - 1)).map Value.string).length ac:=⟨_,rfl⟩;obtain ⟨vb,hvb⟩:∃vb,vb=Value.slice bp ((cG (fun i=>k.testBit i) aac.tail (aac.length - 1)).map Value.string).length bc:=⟨_,rfl⟩;rw [<- hva,<- hvb] at hD
     have Rm:J ys (fun b=>L' b\/(wo.heap.size<=b/\b<wi.heap.size)) wi:=HA.out ys L' _ wo wi hJk.out ⟨hU.out.os,hU.out.tape,hU.out.output,hU.out.size,fun b hb _=>bI hU.out b hb,fun b hb=>hb.imp (fun e=>⟨e,(NZ.out b e).2⟩) id⟩;have I5:GvD aac (k,va,vb) (fun b=>L' b\/(wo.heap.size<=b/\b<wi.heap.size)) wi:=⟨⟨hk1,by rw [<- HM.out];exact hlt⟩,hD.out.ao.strs.sub fun b hb hl=>.inr ⟨hb,hl⟩,hD.out.bo.strs.sub fun b hb hl=>.inr ⟨hb,hl⟩⟩;have hys2:=congrArg List.length hys.out;rw [aG,List.length_range'] at hys2;have hwi:=hU.out.size;have U3:=hUk.out.size
     obtain ⟨fn,tmps,assign,body,hy,hR⟩:=HY.out ys (k,va,vb) _ wi Rm I5 (hUk.out.trans (hU.out.mono U3)) (fun b hb=>by
      rcases hb with hb | hb
      ·have:=NZ.out b hb;omega
      ·omega) (by have:=HN.out;omega)
     have HYS:Hid ((ys++[(k,va,vb)]).map (·.1)=List.range' 1 k):=by
      unfold Hid;rw [cg,hys.out];have:k=(k - 1)+1:=by omega
      conv=>rhs;rw [this,List.range'_concat]
      simp;omega
     have nX:Hid (∀b,(L' b\/(wo.heap.size<=b/\b<wi.heap.size))->w0.heap.size<=b/\b<wi.heap.size):=fun b hb=>by
      rcases hb with hb | hb
      ·have:=NZ.out b hb;omega
      ·omega
     have hcb2:=hU.out.cell hcb;have HCB2:=aa hcb2;have bu:=aa hlt;simp only at hy;clear Rm I5 hys2 hD hwi U3 HD0;rw [<- hva,<- hvb];clear hva hvb;gi_wp2
     first | refine ⟨trivial,fun h=>(by cases h),?_⟩ | refine ⟨fun h=>(by cases h),?_⟩
     refine hR.mono ?_;rintro e W7 ⟨rfl,Rn,gK,Ro,Rp⟩;have H8:=aa (⟨Rn,gK,Ro,Rp⟩:_/\_/\_/\_);clear Rn gK Ro Rp hR;gi_wp2
     go_roundw
     case rel=>exact ⟨k+1,ys++[(k,va,vb)],_,by omega,bu.out,by go_num,HYS.out,H8.out.1,H8.out.2.1,fun b hb=>by have h1:=nX.out b hb;have h2:=H8.out.2.2.1;omega,.inl hLB.out,(eX (a:=⟨Bt,0,none⟩) (H8.out.2.2.2 Bt (.inl (.inl hLB.out)))).trans HCB2.out⟩
     case measure=>have:=bu.out;simp [intOf];omega
  ·obtain rfl:k=M:=by omega
   gi_wp2
   go_end0
   exact ⟨⟨_,rfl⟩,ys,L',by rw [hys.out,HM.out],hJk.out⟩
end
end
end Go.Proofs.YthgabkgmkolobaaGreat
