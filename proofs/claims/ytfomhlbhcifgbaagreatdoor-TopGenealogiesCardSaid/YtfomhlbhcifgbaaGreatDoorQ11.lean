/- strings.Builder: copyCheck, WriteByte, WriteString, String, with the frame that keeps the .. -/
import Derived.StillTail
import Derived.Test.YtfomhlbhcifgbaaGreatDoorQ9
set_option maxRecDepth 100000
set_option maxHeartbeats 2000000
namespace Go.Proofs.YtfomhlbhcifgbaaGreatDoor
section
open Go.RowKit Go.Deep
theorem FX:(Tryz.prog.info? 130).map (·.size)=some 2:=by kernel_rfl
theorem Qj:liesAt Tryz.prog Tryz.prog.depth 130 (2 / Tryz.prog.cellsOf 130) 0 130 1=true:=by kernel_rfl
theorem FY:(Tryz.prog.info? 5).map (fun i=>(i.zero,i.size,i.bytes))=some (some (.int .u8 0),1,1):=by kernel_rfl
theorem MJ:(130:TypeId)≠5:=by decide
theorem Uh (b:Nat) (w:World) (h0:w.cell? ⟨b,0,none⟩=some (.pointer (some ⟨b,0,none⟩))) :
  Calls Tryz.prog 112 #[.pointer (some ⟨b,0,none⟩)] w fun e w'=>e=.returned (.tuple #[])/\w'=w:=by
 obtain ⟨j,hj,_⟩:=iN.1 FX;go_in;go_wp2_with fail;rw [Lib.run_neq_ptr_same w _ Tryz.underlying127 hj];go_wp2_with fail
 go_end0
 exact ⟨rfl,rfl⟩
theorem Qk (b:Nat) (w:World) (h0:w.cell? ⟨b,0,none⟩=some (.pointer none)) (hsh:w.shape? b=some (130,2)) (hfz:w.frozen? ⟨b,0,none⟩=false) :
  Calls Tryz.prog 112 #[.pointer (some ⟨b,0,none⟩)] w fun e w'=>e=.returned (.tuple #[])/\w'=w.setCell ⟨b,0,none⟩ (.pointer (some ⟨b,0,none⟩)):=by
 obtain ⟨j,hj,hjs⟩:=iN.1 FX;go_in;go_wp2_with fail;rw [Lib.run_to_unsafe w ⟨b,0,none⟩ Tryz.underlying127 Tryz.underlying194 hj (by rw [hjs];decide) hsh (Nat.zero_lt_succ 1)];simp only [Result.andThen];rw [Oper.upon_value];go_wp2_with fail;rw [run_callFunc_extern Tryz.func143 (by kernel_rfl) (by kernel_rfl) (by kernel_rfl) (e:=Extern.AbiNoEscape.same) (by kernel_rfl)];rw [Lib.run_noEscape];simp only [Result.andThen];rw [Oper.upon_value];go_wp2_with fail
 rw [Lib.run_from_unsafe w ⟨b,0,none⟩ Tryz.underlying194 Tryz.underlying127 hj hsh Qj];simp only [Result.andThen];rw [Oper.upon_value];go_wp2_with fail
 go_end0
 exact ⟨rfl,rfl⟩
theorem VW (B b:Nat) (bs:List Value) (w:World) (h:Lib.IsBuilderF 130 5 B b bs w) :
  Calls Tryz.prog 112 #[.pointer (some ⟨b,0,none⟩)] w fun e w'=>e=.returned (.tuple #[])/\(Lib.BuilderAtF 130 5 B b (.pointer (some ⟨b,0,none⟩)) bs w'/\Below B w w'/\Lib.OthersKept 5 (some b) w w'):=by
 rcases h with h | h
 ·refine (Qk b w h.cell0 h.shape h.frozen0).mono ?_
  rintro e w' ⟨rfl,rfl⟩;exact ⟨rfl,h.used _,(b7 B w).setCell (p:=⟨b,0,none⟩) h.1 _,(Lib.OthersKept.refl _ _ w).setCell ⟨b,0,none⟩ rfl _⟩
 ·refine (Uh b w h.cell0).mono ?_
  rintro e w' ⟨rfl,rfl⟩;exact ⟨rfl,h,b7 B _,Lib.OthersKept.refl _ _ _⟩
theorem CA (B b:Nat) (bs:List Value) (c:Int) (w:World) (h:Lib.IsBuilderF 130 5 B b bs w) (hlen:bs.length+1<=140737488355328) (hBw:B<=w.heap.size) :
  Calls Tryz.prog 74 #[.pointer (some ⟨b,0,none⟩),.int .u8 c] w fun e w'=>e=.returned .nilIface/\(Lib.BuilderAtF 130 5 B b (.pointer (some ⟨b,0,none⟩)) (bs++[.int .u8 c]) w'/\Below B w w'/\Lib.OthersKept 5 (some b) w w'):=by
 obtain ⟨i0,hi,hzz⟩:=iN.1 FY;simp only [iO] at hzz;obtain ⟨hz0,hz1,hz2⟩:=hzz;have FJ:=aa (VW B b bs w h);clear h;go_in;go_wp2_with fail;refine FJ.out.mono ?_;rintro e w1 ⟨rfl,h1,hb1,hk1⟩;obtain ⟨hB,v,hbk,hown,hne⟩:=h1;have c0:w1.cell? ⟨b,0,none⟩=some (.pointer (some ⟨b,0,none⟩)):=by rw [sD hbk];rfl
 have c1:w1.cell? ⟨b,1,none⟩=some v:=by rw [sD hbk];rfl
 go_wp2_with (at_builtin;refine wpList_append_ownF _ rfl _ _ 128 rfl B 5 i0 (.int .u8 0) 1 1 Tryz.underlying128 hi hz0 hz1 hz2 rfl (by decide) _ _ _ rfl (hown.alloc _) ⟨w1.heap.size,0,none⟩ 1 1 [.int .u8 c] rfl rfl ?c1 ?c2 ?c3 ?c4 ?c5 ?_)
 case c1 =>
  intro j u hj
  match j,hj with
  | 0,hj=>simp at hj;subst hj;simp [Addr.add]
 case c2=>intro u hu;simp at hu;subst hu;rfl
 case c3=>unfold maxLen;omega
 case c4=>omega
 case c5=>have:=hb1.size;simp;omega
 intro v' w2 hown' hgrow _;have hlt:b<w1.heap.size:=by
  rcases Nat.lt_or_ge b w1.heap.size with h' | h'
  ·exact h'
  ·simp [Array.getElem?_eq_none h'] at hbk
 have hb2:w2.heap[b]? = some (.cells #[.pointer (some ⟨b,0,none⟩),v] 130 (0,0)):=by rw [hgrow.block b (by simp;omega) (fun e=>hne e.symm),Lib.alloc_old w1 _ b hlt];exact hbk
 have d0:w2.cell? ⟨b,0,none⟩=some (.pointer (some ⟨b,0,none⟩)):=by rw [sD hb2];rfl
 have d1:w2.cell? ⟨b,1,none⟩=some v:=by rw [sD hb2];rfl
 have f1:w2.frozen? ⟨b,1,none⟩=false:=Lib.frozen_of_heap hb2 1;obtain ⟨g,cap,rfl⟩:∃g cap,v'=.slice (some ⟨g,0,none⟩) (bs.length+1) cap:=by
  rcases hown'.2 with ⟨_,h0⟩ | ⟨g,cap,cur,fz,hv,_⟩
  ·omega
  ·exact ⟨g,cap,hv⟩
 go_wp2;go_ret;refine ⟨rfl,?_,?_,((hk1.alloc _).grown hgrow (Lib.ownsRowF_kind (hown.alloc _))).setCell ⟨b,1,none⟩ rfl _⟩
 ·exact Lib.BuilderAtF.put (T:=130) (e:=5) hB hb2 (bs':=bs++[.int .u8 c]) (by simpa using hown') MJ
 ·exact ((hb1.alloc (by have:=hb1.size;omega) _).grown hgrow (by have:=hb1.size;simp;omega) (fun k hk=>(hown.lt k hk).1)).setCell (p:=⟨b,1,none⟩) hB _
theorem VX (B b:Nat) (bs:List Value) (s:ByteArray) (w:World) (h:Lib.IsBuilderF 130 5 B b bs w) (hlen:bs.length+s.size<=140737488355328) (hBw:B<=w.heap.size) :
  Calls Tryz.prog 73 #[.pointer (some ⟨b,0,none⟩),.string s] w fun e w'=>e=.returned (.tuple #[.int .i64 s.size,.nilIface])/\(Lib.BuilderAtF 130 5 B b (.pointer (some ⟨b,0,none⟩)) (bs++Lib.strCells s) w'/\Below B w w'/\Lib.OthersKept 5 (some b) w w'):=by
 obtain ⟨i0,hi,hzz⟩:=iN.1 FY;simp only [iO] at hzz;obtain ⟨hz0,hz1,hz2⟩:=hzz;have FJ:=aa (VW B b bs w h);clear h;go_in;go_wp2_with fail;refine FJ.out.mono ?_;rintro e w1 ⟨rfl,h1,hb1,hk1⟩;obtain ⟨hB,v,hbk,hown,hne⟩:=h1;have c0:w1.cell? ⟨b,0,none⟩=some (.pointer (some ⟨b,0,none⟩)):=by rw [sD hbk];rfl
 have c1:w1.cell? ⟨b,1,none⟩=some v:=by rw [sD hbk];rfl
 go_wp2_with (at_builtin;refine Lib.wpList_append_own_stringF _ rfl _ _ 128 9 rfl B 5 i0 Tryz.underlying128 Tryz.underlying9 hi hz0 hz1 hz2 _ _ _ rfl hown s rfl ?c3 ?c4 ?c5 ?_)
 case c3=>unfold maxLen;omega
 case c4=>omega
 case c5=>have:=hb1.size;omega
 intro v' w2 hown' hgrow _;have hlt:b<w1.heap.size:=by
  rcases Nat.lt_or_ge b w1.heap.size with h' | h'
  ·exact h'
  ·simp [Array.getElem?_eq_none h'] at hbk
 have hb2:w2.heap[b]? = some (.cells #[.pointer (some ⟨b,0,none⟩),v] 130 (0,0)):=by rw [hgrow.block b hlt (fun e=>hne e.symm)];exact hbk
 have d0:w2.cell? ⟨b,0,none⟩=some (.pointer (some ⟨b,0,none⟩)):=by rw [sD hb2];rfl
 have d1:w2.cell? ⟨b,1,none⟩=some v:=by rw [sD hb2];rfl
 have f1:w2.frozen? ⟨b,1,none⟩=false:=Lib.frozen_of_heap hb2 1;obtain ⟨ao,n',cap,rfl⟩:∃ao n' cap,v'=.slice ao n' cap:=by
  rcases hown'.2 with ⟨hv,_⟩ | ⟨g,cap,cur,fz,hv,_⟩
  ·exact ⟨_,_,_,hv⟩
  ·exact ⟨_,_,_,hv⟩
 go_wp2;go_ret2;refine ⟨rfl,?_,?_,(hk1.grown hgrow (Lib.ownsRowF_kind hown)).setCell ⟨b,1,none⟩ rfl _⟩
 ·exact Lib.BuilderAtF.put (T:=130) (e:=5) hB hb2 (bs':=bs++Lib.strCells s) (by simpa [Lib.strCells_length] using hown') MJ
 ·exact (hb1.grown hgrow (by have:=hb1.size;omega) (fun k hk=>(hown.lt k hk).1)).setCell (p:=⟨b,1,none⟩) hB _
theorem VY (B b:Nat) (l:List UInt8) (w:World) (h:Lib.IsBuilderF 130 5 B b (Lib.byteCells l) w) (hBw:B<=w.heap.size) :
  Calls Tryz.prog 76 #[.pointer (some ⟨b,0,none⟩)] w fun e w'=>e=.returned (.string ⟨l.toArray⟩)/\(Lib.IsBuilderF 130 5 B b (Lib.byteCells l) w'/\Below B w w'/\Lib.OthersKept 5 (some b) w w') :=
 Any.Builder_String_any_k Tryz.bldG ⟨⟨by kernel_rfl,by kernel_rfl⟩,Tryz.underlying5,Tryz.isAgg5,Tryz.sizeOf5,Tryz.zeroValue5,by kernel_rfl,by kernel_rfl,by kernel_rfl,by decide⟩ B b l w h hBw
theorem uz (S:Nat->Prop) (w:World) (v:Value) (xs:List Int) (x:Int) (h:af S w v xs) (hn:xs.length<=1000000) :
  Calls Tryz.prog 29 #[v,.int .i64 x] w fun e w'=>e=.returned (.bool ((List.range xs.length).any fun j=>decide (x=gi xs j)))/\w=w':=by
 have hx:=gO (fun j=>decide (x=gi xs j)) xs.length;have HX:=aa hx;have HI:=aa (zm S w v xs x h hn);clear hx h;go_in;go_wp2_with fail;refine HI.out.mono ?_;rintro e w' ⟨rfl,rfl⟩;go_wp2;go_ret;exact ⟨bu (by rw [<- HX.out]),rfl⟩
def jr (xs:List (List Int)) (k:Nat):Int:=if (gl xs k).length≠(gl xs 0).length then 9 else if iQ (gl xs k) (-1) 16 then 2 else 0
def eo (xs:List (List Int)):Int:=if xs.length=0 then 5 else if 32<xs.length\/4096<(gl xs 0).length then 4 else dP (jr xs) xs.length
theorem Lb (w:World) (x:Int):rC 69 #[] #[.int .i64 x] (.bool (decide (x < -1) || decide (16<=x))) w:=by
 unfold rC;go_in;by_cases hx:x < -1
 ·go_wp2
  go_ret;exact ⟨bu (by simp [hx]),rfl⟩
 ·go_wp2
  go_ret;exact ⟨bu (by simp;omega),rfl⟩
theorem MK (S:Nat->Prop) (w:World) (v:Value) (xs:List (List Int)) (h:aS S w v xs) (hn:xs.length<=1000000) (hr:∀k,(gl xs k).length<=1000000) :
  Calls Tryz.prog 41 #[v] w fun e w'=>e=.returned (.int .i64 (eo xs))/\w=w':=by
 have jv:eo xs=if xs.length=0 then 5 else if 32<xs.length\/4096<(gl xs 0).length then 4 else dP (jr xs) xs.length:=rfl
 have HF:=aa jv;obtain ⟨p,cap,rfl,hcap,_⟩:=eE h;have H:=aa h;clear jv h;by_cases h0:xs.length=0
 ·have HX:Hid (xs.length=0):=h0
  have h0':((xs.length:Int)==0)=true:=by simp [h0]
  clear h0;go_in;go_wp2;go_ret;exact ⟨aU (by rw [HF.out,if_pos HX.out]),rfl⟩
 have h0':((xs.length:Int)==0)=false:=by simpa using h0
 have VZ:0<xs.length:=by omega
 by_cases h1:32<xs.length
 ·go_in
  go_wp2;go_ret;exact ⟨aU (by rw [HF.out,if_neg h0,if_pos (.inl h1)]),rfl⟩
 obtain ⟨b,off,q0,c0,rfl,hc0,gT⟩:=dV H.out VZ;have Ql:w.cell? ⟨b,off,none⟩=some (.slice q0 (gl xs 0).length c0):=by simpa using hc0
 have ZI:=hr 0;clear hc0 gT;by_cases h2:4096<(gl xs 0).length
 ·go_in
  go_wp2;go_ret;exact ⟨aU (by rw [HF.out,if_neg h0,if_pos (.inr h2)]),rfl⟩
 have dQ:Hid (eo xs=dP (jr xs) xs.length):=by unfold Hid;rw [HF.out,if_neg h0,if_neg (by omega)]
 have HR:=aa hr;have ML:Hid (∀k,jr xs k=if (gl xs k).length≠(gl xs 0).length then 9 else if iQ (gl xs k) (-1) 16 then 2 else 0):=fun _=>rfl;clear HF hr;generalize (gl xs 0).length=l0 at *;go_in;go_wp2
 go_loop [4,22] (fun _ i=>∃k:Nat,k<=xs.length/\i=.int .i64 k/\Hid (∀j,j<k->jr xs j=0)) (fun _ i=>xs.length - (intOf i).toNat)
 case atStart=>exact ⟨0,bg _,rfl,fun j hj=>absurd hj (cz _)⟩
 case round =>
  obtain ⟨k,hk,rfl,hd⟩:=hrel;by_cases hlt:k<xs.length
  ·obtain ⟨b',off',qk,ck,e1,sP,hik⟩:=dV H.out hlt
   injection e1 with e1;injection e1 with e1 e2;subst e1;subst e2;have xN:=aa (qO 69 #[] (enters_of Tryz.func69 (by kernel_rfl) rfl) S w _ (gl xs k).length _ (fun j=>decide (gi (gl xs k) j < -1) || decide (16<=gi (gl xs k) j)) hik (HR.out k) (fun j _=>Lb w (gi (gl xs k) j)));have cg:Hid (iQ (gl xs k) (-1) 16=(List.range (gl xs k).length).any fun j=>decide (gi (gl xs k) j < -1) || decide (16<=gi (gl xs k) j)):=rfl;have HK:=aa (ML.out k);clear hik;by_cases pW:(gl xs k).length=l0
   ·have ki:(((gl xs k).length:Int) != (l0:Int))=false:=by simp [pW]
    have kZ:=aa pW;clear pW;go_wp2_with fail;refine xN.out.mono ?_;rintro e w' ⟨rfl,rfl⟩;rw [<- cg.out];by_cases eG:iQ (gl xs k) (-1) 16=true
    ·have uw:=aa eG
     rw [eG];clear eG;go_wp2;go_ret;(have zq:jr xs k=2:=by rw [HK.out,if_neg (fun e=>e kZ.out),if_pos uw.out]);exact ⟨aU (by rw [dQ.out,iP hlt hd.out (by rw [zq];decide),zq]),rfl⟩
    ·have SR:iQ (gl xs k) (-1) 16=false:=by simpa using eG
     have uw:=aa eG;rw [SR];clear eG SR;go_wp2
     go_round
     case rel=>exact ⟨k+1,by omega,by go_num,fun j hj=>if e:j=k then by subst e;rw [HK.out,if_neg (fun e=>e kZ.out),if_neg uw.out] else hd.out j (by omega)⟩
     case measure=>simp [intOf];omega
   ·have ki:(((gl xs k).length:Int) != (l0:Int))=true:=by simp;omega
    have kZ:=aa pW;clear pW;go_wp2;go_ret;(have zq:jr xs k=9:=by rw [HK.out,if_pos kZ.out]);exact ⟨aU (by rw [dQ.out,iP hlt hd.out (by rw [zq];decide),zq]),rfl⟩
  ·obtain rfl:k=xs.length:=by omega
   clear hlt;go_wp2;go_ret;exact ⟨aU (by rw [dQ.out,fT hd.out]),rfl⟩
def xO (w:World) (e:TypeId) (vs:List Value) (en:Ending) (w':World):Prop:=Up w w'/\∃v,en=.returned v/\au w.heap.size e w' v vs
section
variable {P:Program} {ops:Array Oper} {rest:List Oper} {o:Oper} {a:Act} {Q:Exit->Act->World->Prop}
theorem zu (W:World) (hgd:o.guard=none) (s x:Operand) (t:TypeId) (ho:o.op=.call { callee:=.builtin .append,args:=#[s,x],argTypes:=#[t,t] })
  (base:Nat) (e:TypeId) (z:Value) (bytes:Nat) (ht:P.underlying t=some (.slice e)) (hinfo:(P.info? e).map (fun i=>(i.zero,i.size,i.bytes))=some (some z,1,bytes))
  (hz1:z.cells.size=1) (mB:bytes<=64) {v:Value} {vs:List Value} (hown:au base e W v vs) (hs:a.eval s=v) (ad:Addr) (c:Nat) (news:List Value)
  (hx:a.eval x=.slice (some ad) news.length c) (hnews:∀j u,news[j]? = some u->W.cell? (ad.add j)=some u) (h1:∀u∈news,u.oneCell'=true) (hn:vs.length+news.length<=1000000) (hbase:base<=W.heap.size)
  (h:∀v' w',au base e w' v' (vs++news)->W.grownBy w' v.ownBlock->Below base W w'->wpList P ops Q rest (a.put o.dst v') w') :
  wpList P ops Q (o::rest) a W:=by
 obtain ⟨i,hi,hzz⟩:=iN.1 hinfo;simp only [iO] at hzz;obtain ⟨hz,hs1,hb⟩:=hzz;refine wpList_append_own _ hgd s x t ho base e i z 1 bytes ht hi hz hs1 hb hz1 (by omega) v vs.length vs hs hown ad news.length c news hx (by omega) hnews h1
  (by unfold maxLen;omega) ?_ hbase fun v' w' h2 h3 _=>h v' w' ?_ h3 (hown.cQ h3 hbase)
 ·have:(vs.length+news.length)*bytes<=(vs.length+news.length)*64:=qK _ mB
  omega
 ·unfold au;rw [bG];exact h2
end
theorem MM {S:Nat->Prop} {w:World} {b off n cap:Nat} {xs:List Int} (h:af S w (.slice (some ⟨b,off,none⟩) n cap) xs):∀j u,(xs.map (Value.int .i64))[j]? = some u->w.cell? ((⟨b,off,none⟩:Addr).add j)=some u:=by
 intro j u hj;have Af:(⟨b,off,none⟩:Addr).add j=⟨b,off+j,none⟩:=by unfold Addr.add;split<;>simp_all
 rw [iJ] at hj;obtain ⟨x,hx,rfl⟩:=iN.1 hj;have hk:j<xs.length:=(mO.1 hx).1;rw [Af,xL h hk];simp [gi,hx]
theorem Qm {S:Nat->Prop} {w:World} {n cap:Nat} {xs:List Int} (h:af S w (.slice none n cap) xs):xs=[]/\n=0:=by
 obtain ⟨q,c,e,_,h⟩:=h;injection e with e1 e2 e3;rcases h with h | ⟨b,off,h,_⟩
 ·exact ⟨nN h,by omega⟩
 ·rw [<- e1] at h;cases h
theorem tV (S:Nat->Prop) (w:World) (v:Value) (xs:List Int) (h:af S w v xs) (hn:xs.length<=1000000) :
  Calls Tryz.prog 33 #[v] w (xO w 3 (xs.map (Value.int .i64))):=by
 obtain ⟨p,cap,rfl,hcap,_⟩:=aB.open h;have h:af S w (.slice p xs.length cap) xs:=h;cases p with
 | none =>
  obtain ⟨rfl,_⟩:=Qm h;have heq:=fun (w:World)=>Lib.run_eql_slice_nil (P:=Tryz.prog) w 27 3 none 0 cap 0 0 Tryz.underlying27;clear h;go_in;go_wp2;go_ret;exact ⟨Up.refl _,_,rfl,au.nil _ _ _⟩
 | some p =>
  have heq:=fun (w:World)=>Lib.run_eql_slice_nil (P:=Tryz.prog) w 27 3 (some p) xs.length cap 0 0 Tryz.underlying27;have hu:=Up.alloc w (.cells #[] 3);have hnews:∀j u,(xs.map (Value.int .i64))[j]? = some u->(w.alloc (.cells #[] 3)).cell? (p.add j)=some u:=fun j u hj=>by (have hj2:j<xs.length:=by have:=(mO.1 hj).1;simpa using this);obtain ⟨b,off,e,_⟩:=dh h hj2;injection e with e;subst e;exact MM (af.keep h (hu.kept S)) j u hj
  have HU:=aa hu;have HN:=aa hnews;have HM:=aa (au.made w 3);clear h hnews hu;go_in;go_wp2_with (at_builtin;refine zu _ rfl _ _ 27 rfl w.heap.size 3 (.int .i64 0) 8 Tryz.underlying27 Tryz.pF rfl (by decide) HM.out rfl p cap (xs.map (Value.int .i64)) (by rw [aD];rfl) HN.out (by simp [Value.oneCell']) (by simp;omega) (by simp) ?_;intro v' w' hown' hgrow Qn);go_ret;exact ⟨dI HU.out Qn,_,rfl,hown'⟩
theorem Qo {xs ys:List Int} (hl:xs.length=ys.length) (h:∀j,j<xs.length->gi xs j=gi ys j):xs=ys:=by
 refine qJ hl fun i h1 h2=>?_;have:=h i h1;simpa [gi,h1,h2] using this
def V0 (w:World) (b:Bool) (e:Ending) (w':World):Prop:=e=.returned (.bool b)/\∃n,w'=w.drewN n
theorem Jg (S T:Nat->Prop) (w:World) (v u:Value) (xs ys:List Int) (h:af S w v xs) (h2:af T w u ys) (hn:xs.length<=1000000) (hn2:ys.length<=1000000) :
  Calls Tryz.prog 18 #[v,u] w (V0 w (decide (xs=ys))):=by
 obtain ⟨p,cap,rfl,hcap,_⟩:=aB.open h;obtain ⟨q,ij,rfl,E3,_⟩:=aB.open h2;have HX:Hid (af S w (.slice p xs.length cap) xs):=h;have HY:Hid (af T w (.slice q ys.length ij) ys):=h2;clear h h2;by_cases hl:xs.length=ys.length
 ·have ki:((xs.length:Int) != ys.length)=false:=by simp [hl]
  have HL:=aa hl;clear hl;go_in;go_wp2
  go_loopw [5,13] (fun _ i wr=>∃k n:Nat,k<=xs.length/\i=.int .i64 k/\wr=w.drewN n/\Hid (∀j,j<k->gi xs j=gi ys j)) (fun _ i _=>xs.length - (intOf i).toNat)
  case atStart=>exact ⟨0,0,bg _,rfl,rfl,fun j hj=>absurd hj (cz _)⟩
  case round =>
   obtain ⟨k,n,hk,rfl,rfl,hd⟩:=hrel;by_cases hlt:k<xs.length
   ·have hlt2:k<ys.length:=by rw [<- HL.out];exact hlt
    obtain ⟨b,off,rfl,hc⟩:=dh HX.out hlt;obtain ⟨b2,off2,rfl,hc2⟩:=dh HY.out hlt2;(have i1:(0:Int)<=(k:Int):=by omega);(have i2:(k:Int)<(xs.length:Int):=by omega);(have i3:(k:Int)<(ys.length:Int):=by omega);generalize hx:gi xs k=x at *;generalize hy:gi ys k=y at *;have SS:=aa hx;have HYY:=aa hy;clear hx hy;by_cases hxy:x=y
    ·have aah:(x != y)=false:=by simp [hxy]
     have FE:=aa hxy;clear hxy;go_wp2;(go_quiet (fail));go_wp2
     go_roundw
     case rel=>exact ⟨k+1,n+nq,by omega,by go_num,rfl,fun j hj=>if e:j=k then by subst e;rw [SS.out,HYY.out,FE.out] else hd.out j (by omega)⟩
     case measure=>simp [intOf];omega
    ·have aah:(x != y)=true:=by simpa using hxy
     have FE:=aa hxy;clear hxy;go_wp2;(go_quiet (fail));go_wp2;go_ret;refine ⟨bu ?_,n+nq,by rw [World.drewN_drewN]⟩;rw [eq_comm,decide_eq_false_iff_not];rintro rfl;exact FE.out (by rw [<- SS.out,<- HYY.out])
   ·obtain rfl:k=xs.length:=by omega
    clear hlt hk;have hex:xs=ys:=Qo HL.out hd.out;have zv:Hid (decide (xs=ys)=true):=decide_eq_true hex;clear hex;go_wp2;go_ret;exact ⟨bu (by rw [zv.out]),n,rfl⟩
 ·have ki:((xs.length:Int) != ys.length)=true:=by simp;omega
  have HL:=aa hl;clear hl;go_in;go_wp2;go_ret;refine ⟨bu ?_,0,rfl⟩;rw [eq_comm,decide_eq_false_iff_not];rintro rfl;exact HL.out rfl
end
end Go.Proofs.YtfomhlbhcifgbaaGreatDoor
