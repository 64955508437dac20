/- Names, as layer 1's and layer 31's references have them: Check, IsWord, IsName, named. .. -/
import Derived.Test.YthgabkgmkolobaaGreatQ4
set_option maxRecDepth 100000
namespace Go.Proofs.YthgabkgmkolobaaGreat
section
open Go.RowKit Go.Deep
def Sm (w:World) (s:ByteArray) (e:Ending) (w':World):Prop:=Below w.heap.size w w'∧∃r,e=.returned (.int .i64 r)∧(s.data.toList.all pE=true→r=0)
theorem Eh {s:ByteArray} (h:s.data.toList.all pE=true) {k:Nat} (hk:k<s.size):pE s[k]=true :=
 List.all_eq_true.1 h _ (by rw [Array.mem_toList_iff];exact Array.getElem_mem _)
set_option maxHeartbeats 400000 in
theorem Xn (s:ByteArray) (hs:s.size≤1000) (w:World):Calls Tryz.prog 248 #[.string s] w (Sm w s):=by
 go_enter Tryz.func248,Tryz.ntmps248
 go_wp2_with fail
 refine (Sl s hs _).mono ?_
 rintro e w1 ⟨hb,v,bs,rfl,hbl,gC⟩
 obtain ⟨p,cap,rfl,hcap,H⟩:=gC.open
 have HH:=aa H
 clear H gC hbl
 go_wp2_with fail
 go_loop [4,5] (fun i _=>∃k:Nat,k≤s.size∧i=.int .i64 k) (fun i _=>s.size - (intOf i).toNat)
 case atStart=>exact ⟨0,Nat.zero_le _,rfl⟩
 case round =>
  obtain ⟨k,hk,rfl⟩:=hrel
  by_cases hlt:k<s.size
  ·obtain ⟨b,off,rfl,hc⟩:=HH.out k hlt
   have hka:s.data.toList.all pE=true→cK s[k].toNat=1∨cK s[k].toNat=3:=fun h=>(qB s[k]).2 (Eh h hlt)
   have TG:=aa hka
   clear HH hka
   go_wp2_with (go_at_call 249;refine (qh _ (UInt8.toNat_lt _) _).mono ?_;rintro e w' ⟨rfl,rfl⟩;generalize cK _=q at *)
   all_goals first | (go_round;(case rel=>exact ⟨k+1,by omega,by go_num⟩);(case measure=>simp [intOf];omega)) | (go_ret;exact ⟨hb,_,rfl,fun h=>by have:=TG.out h;simp at *;omega⟩)
  ·clear HH
   go_wp2_with fail
   go_ret
   exact ⟨hb,_,rfl,fun _=>rfl⟩
def TH (w:World) (s:ByteArray) (e:Ending) (w':World):Prop:=Below w.heap.size w w'∧∃b,e=.returned (.bool b)∧(s.data.toList.all pE=true→1≤s.size→b=true)∧(s.size=0→b=false)
set_option maxHeartbeats 400000 in
theorem Lf (s:ByteArray) (hs:s.size≤16) (w:World):Calls Tryz.prog 199 #[.string s] w (TH w s):=by
 by_cases h0:s.size<1
 ·go_enter Tryz.func199,Tryz.ntmps199
  go_wp2_with fail;go_ret;exact ⟨Below.refl _ _,_,rfl,fun _ h=>by omega,fun _=>rfl⟩
 ·have h0':((0:Nat)<s.size):=by omega
  have hka:s.data.toList.all pE=true→cK s[0].toNat=1∨cK s[0].toNat=3:=fun h=>(qB s[0]).2 (Eh h h0');have TG:=aa hka;clear hka
  go_enter Tryz.func199,Tryz.ntmps199
  go_wp2_with fail;refine (Xn s (by omega) _).mono ?_;rintro e w1 ⟨hb,r,rfl,hr⟩;have HR:=aa hr;clear hr;go_wp2_with (go_at_call 249;refine (qh _ (UInt8.toNat_lt _) _).mono ?_;rintro e w' ⟨rfl,rfl⟩;generalize cK _=q at *)
  all_goals first
   | (go_ret;exact ⟨hb,_,rfl,fun h _=>(by exfalso;have h1:=TG.out h;have h2:=HR.out h;subst h2;simp at *;omega),fun _=>rfl⟩)
   | skip
  all_goals
   clear HR
   go_loop [4] (fun i=>∃k:Nat,k≤s.size∧i=.int .i64 k) (fun i=>s.size - (intOf i).toNat)
   case atStart=>exact ⟨0,Nat.zero_le _,rfl⟩
   case round =>
    obtain ⟨k,hk,rfl⟩:=hrel;by_cases hlt:k<s.size
    ·have hka:s.data.toList.all pE=true→cK s[k].toNat=1∨cK s[k].toNat=3:=fun h=>(qB s[k]).2 (Eh h hlt)
     have HKB:=aa hka;clear hka;go_wp2_with (go_at_call 249;refine (qh _ (UInt8.toNat_lt _) _).mono ?_;rintro e w' ⟨rfl,rfl⟩;generalize cK s[k].toNat=y at *)
     all_goals first | (go_round;(case rel=>exact ⟨k+1,by omega,by go_num⟩);(case measure=>simp [intOf];omega)) | (go_ret;exact ⟨hb,_,rfl,fun h _=>(by exfalso;have h1:=HKB.out h;omega),fun _=>rfl⟩)
    ·go_wp2_with fail
     go_ret;exact ⟨hb,_,rfl,fun _ _=>rfl,fun h=>by omega⟩
set_option maxHeartbeats 400000 in
theorem jY (s:ByteArray) (hs:s.size≤70000) (w:World):Calls Tryz.prog 141 #[.string s] w fun e w'=>e=.returned (.bool (dL s.data.toList))∧Below w.heap.size w w':=by
 have hl:=size_data s;have hA:=D9 s.data.toList;have b8:dL s.data.toList=decide (1≤s.size∧s.size≤16∧jo s.data.toList=s.size):=by unfold dL;rw [hl] at hA ⊢;rw [Bool.eq_iff_iff];simp only [Bool.and_eq_true,decide_eq_true_eq];rw [← hA,and_assoc]
 rw [hl] at hA;have HF:=aa b8;have HA:=aa hA;clear b8 hl hA;by_cases QS:s.size≤16
 ·go_enter Tryz.func141,Tryz.ntmps141
  go_wp2_with fail;refine (Lf s QS _).mono ?_;rintro e w1 ⟨hb,b,rfl,h1,h2⟩;have H1:=aa h1;have H2:=aa h2;clear h1 h2;cases b
  ·go_wp2_with fail
   go_ret;refine ⟨aR ?_,hb⟩;rw [HF.out,eq_comm,decide_eq_false_iff_not];rintro ⟨a1,a2,a3⟩;have:=H1.out (HA.out.1 a3) a1;cases this
  ·go_wp2_with (go_at_call 200;refine (JE s hs _).mono ?_;rintro e w' ⟨rfl,rfl⟩)
   go_ret;refine ⟨aR ?_,hb⟩;(have h0:s.size≠0:=fun e=>by have:=H2.out e;cases this);rw [HF.out,Bool.eq_iff_iff];simp;omega
 ·go_enter Tryz.func141,Tryz.ntmps141
  go_wp2_with fail;go_ret;refine ⟨aR ?_,Below.refl _ _⟩;rw [HF.out,eq_comm,decide_eq_false_iff_not];omega
theorem y7 (s:ByteArray) (h:s.size - 1<s.size):s.data.toList.getLast? = some s[s.size - 1]:=by
 have hl:=size_data s;rw [List.getLast?_eq_getElem?,hl,List.getElem?_eq_getElem (by rw [hl];exact h)];rfl
theorem zW (s:ByteArray) (h:s.size - 1<s.size) (QS:s.size≤16) (yw:((s[s.size - 1].toNat:Int)==42)=true):aX s.data.toList=dL (s.extract 0 (s.size - 1)).data.toList:=by
 have hl:=size_data s;have h2:s[s.size - 1]=42:=by
  have h3:(s[s.size - 1].toNat:Int)=42:=by simpa using yw
  have h4:s[s.size - 1].toNat=42:=by omega
  exact UInt8.toNat_inj.1 h4
 unfold aX;rw [y7 s h,h2,if_pos rfl,Ec,hl];simp [QS]
theorem yx (s:ByteArray) (h:s.size - 1<s.size) (yw:((s[s.size - 1].toNat:Int)==42)=false):aX s.data.toList=dL s.data.toList:=by
 unfold aX;rw [y7 s h,if_neg];intro e;injection e with e;rw [e] at yw;simp at yw
theorem Lg (s:ByteArray) (h:16<s.size):aX s.data.toList=dL s.data.toList:=by
 have hl:=size_data s;unfold aX;split
 ·rename_i yw
  rw [wD s.data.toList yw,hl,decide_eq_false (by omega),Bool.and_false]
 ·rfl
theorem B9 (s:ByteArray) (h:s.size≤1):aX s.data.toList=dL s.data.toList:=by
 have hl:=size_data s;unfold aX;split
 ·rename_i yw
  rw [wD s.data.toList yw];have:s.data.toList.dropLast=[]:=by rw [← List.length_eq_zero_iff,List.length_dropLast];omega
  rw [this];rfl
 ·rfl
set_option maxHeartbeats 400000 in
theorem Od (s:ByteArray) (hs:s.size≤70000) (w:World):Calls Tryz.prog 97 #[.string s] w fun e w'=>e=.returned (.bool (aX s.data.toList))∧Below w.heap.size w w':=by
 go_enter Tryz.func97,Tryz.ntmps97
 go_wp2_with fail
 ·have hf:=aa (zW s (by omega) (by omega) ‹_›)
  refine (jY _ (by simp;omega) _).mono ?_
  rintro e w1 ⟨rfl,hb⟩
  rw [← hf.out]
  go_wp2_with fail
  go_ret
  exact ⟨rfl,hb⟩
 ·have hf:=aa (yx s (by omega) ‹_›)
  refine (jY _ hs _).mono ?_
  rintro e w1 ⟨rfl,hb⟩
  rw [← hf.out]
  go_wp2_with fail
  go_ret
  exact ⟨rfl,hb⟩
 ·have hf:=aa (Lg s (by omega))
  refine (jY _ hs _).mono ?_
  rintro e w1 ⟨rfl,hb⟩
  rw [← hf.out]
  go_wp2_with fail
  go_ret
  exact ⟨rfl,hb⟩
 ·have hf:=aa (B9 s (by omega))
  refine (jY _ hs _).mono ?_
  rintro e w1 ⟨rfl,hb⟩
  rw [← hf.out]
  go_wp2_with fail
  go_ret
  exact ⟨rfl,hb⟩
end
section
open Go.RowKit Go.Deep
theorem Tryz.fI:(Tryz.prog.info? 3).map (fun i=>(i.zero,i.size,i.bytes))=some (some (.int .i64 0),1,8):=by kernel_rfl
def Ei (w:World) (t:aD) (e:Ending) (w':World):Prop :=
 Below w.heap.size w w'∧((aB t≠0∧e=.returned (.tuple #[.slice none 0 0,.int .i64 1])) ∨
  (aB t=0∧∃v,e=.returned (.tuple #[v,.int .i64 0])∧aj (fun b=>w.heap.size≤b) w' v (aq t.ns)))
set_option maxHeartbeats 800000 in
theorem y8 (S:Nat→Prop) (w:World) (v:Value) (t:aD) (h:au S w v t) (hp:t.ps.length≤1000000) (hn:t.ns.length≤1000000) (hz:∀k,(gs t.ns k).size≤70000) :
  Calls Tryz.prog 30 #[v] w (Ei w t):=by
 obtain ⟨P,N,rfl,hP,hN⟩:=h;have Ca:au S (w.alloc (.cells #[P,N] 39)) (.agg #[P,N]) t:=au.keep ⟨P,N,rfl,hP,hN⟩ (Kept.below ((Below.refl _ w).alloc (Nat.le_refl _) _));have hb0:Below w.heap.size w (w.alloc (.cells #[P,N] 39)):=(Below.refl _ _).alloc (Nat.le_refl _) _;have jh:(w.alloc (.cells #[P,N] 39)).cell? ⟨w.heap.size,1,none⟩=some N:=by simp [World.cell?_alloc_new]
 have ni:=qi S (w.alloc (.cells #[P,N] 39)) _ t Ca hp hn hz;rw [World.size_alloc] at ni;have dr:=aa ni;have uZ:=aa jh;have cZ:=aa hb0;have HN:=aa hN;clear ni jh hb0 Ca hP hN;by_cases he:aB t=0
 ·go_enter Tryz.func30,Tryz.ntmps30
  go_wp2_with fail;refine dr.out.mono ?_;rintro e w1 ⟨rfl,hb1⟩;have gp:Below w.heap.size w w1:=cZ.out.trans (hb1.mono (by omega));have sY:=HN.out.keep (Kept.below gp);have jh:w1.cell? ⟨w.heap.size,1,none⟩=some N:=(hb1.cell (p:=⟨w.heap.size,1,none⟩) (by simp)).trans uZ.out;obtain ⟨q,cr,rfl,mD,yy⟩:=aC.open sY;have wF:=aa yy;have Cb:w.heap.size≤w1.heap.size:=gp.size;have HE:=aa he;rw [he];clear yy sY dr uZ cZ HN hb1 he;go_wp2_with fail
  go_loopw [4,5,6,13] (fun v _ _ i wr=>∃k:Nat,k≤t.ns.length∧i=.int .i64 k∧aF w1.heap.size 3 wr v ((iT t.ns k).map (Value.int .i64))∧Below w1.heap.size w1 wr) (fun _ _ _ i _=>t.ns.length - (intOf i).toNat)
  case atStart=>exact ⟨0,Nat.zero_le _,rfl,aF.nil _ _ _,Below.refl _ _⟩
  case round =>
   obtain ⟨k,hk,rfl,hown,hbr⟩:=hrel;by_cases hlt:k<t.ns.length
   ·obtain ⟨b,off,rfl,hc0⟩:=wF.out k hlt
    (have hc:wr.cell? ⟨b,off+k,none⟩=some (.string (gs t.ns k)):=by rw [hbr.cell (p:=⟨b,off+k,none⟩) (World.block_lt_of_cell? _ _ hc0)];exact hc0);have hsz:=hbr.size;have eL:=qx t.ns k;have kS:=sA t.ns k;have hnil:=toList_nil (gs t.ns k);have js:=aa hnil;have jN:=aa eL;(have dm:Hid (((iT t.ns k).map (Value.int .i64)).length≤1000000):=by unfold Hid;rw [List.length_map];omega);clear hc0 hnil eL kS wF hz;generalize u7:gs t.ns k=g at *;clear u7;by_cases hg0:g.size=0
    ·have hg1:g.toList=[]:=js.out.2 hg0
     have lg:=aa hg0;clear hg0;go_wp2
     go_roundw
     case rel=>exact ⟨k+1,by omega,by go_num,by rw [jN.out,if_pos lg.out,List.append_nil];exact hown,hbr⟩
     case measure=>simp [intOf];omega
    ·have hg1:(g.toList==[])=false:=by
      rw [Bool.eq_false_iff];intro e;exact hg0 (js.out.1 (by simpa using e))
     have hg2:(g.toList != [])=true:=by
      rw [bne_iff_ne];intro e;exact hg0 (js.out.1 (by simpa using e))
     have lg:=aa hg0
     clear hg0
     go_wp2_with (at_builtin;refine iD wr rfl _ _ 26 rfl w1.heap.size 3 _ 8 Tryz.underlying26 Tryz.fI rfl (by decide) hown rfl _ rfl rfl dm.out hsz ?_;intro g cap w2 hown1 hg1 hb1)
     go_roundw
     case rel=>exact ⟨k+1,by omega,by go_num,by rw [jN.out,if_neg lg.out,List.map_append];rw [List.length_map] at hown1;exact hown1,hbr.trans hb1⟩
     case measure=>simp [intOf];omega
   ·obtain rfl:k=t.ns.length:=by omega
    clear hlt hk wF;go_wp2;go_ret2;exact ⟨gp.trans (hbr.mono Cb),.inr ⟨HE.out,_,rfl,hown.ints.sub fun b hb _=>Nat.le_trans Cb hb⟩⟩
 ·have he':(aB t != 0)=true:=by simpa using he
  have HE:=aa he;clear he
  go_enter Tryz.func30,Tryz.ntmps30
  go_wp2_with fail;refine dr.out.mono ?_;rintro e w1 ⟨rfl,hb1⟩;go_wp2_with fail;go_ret2;exact ⟨cZ.out.trans (hb1.mono (by omega)),.inl ⟨HE.out,rfl⟩⟩
end
section
open Go.RowKit Go.Deep
def TI (w:World) (l:List Nat) (e:Ending) (w':World):Prop:=Below w.heap.size w w'∧∃v,e=.returned v∧aj (fun b=>w.heap.size≤b) w' v (dX l)
set_option maxHeartbeats 800000 in
theorem Ir (S:Nat→Prop) (w:World) (v:Value) (t:aD) (n:Nat) (h:au S w v t) (hp:t.ps.length≤1000000) (hn:n<t.ps.length) :
  Calls Tryz.prog 96 #[v,.int .i64 n] w (TI w (cu t.ps n)):=by
 obtain ⟨P,N,rfl,hP,hN⟩:=h;have hb0:Below w.heap.size w (w.alloc (.cells #[P,N] 39)):=(Below.refl _ _).alloc (Nat.le_refl _) _;have Yb:=hP.keep (Kept.below hb0);have jL:(w.alloc (.cells #[P,N] 39)).cell? ⟨w.heap.size,0,none⟩=some P:=by simp [World.cell?_alloc_new]
 obtain ⟨ps,ns⟩:=t;simp only at *;obtain ⟨p,cap,rfl,hcap,HP⟩:=aC.open Yb;have hsz:(w.alloc (.cells #[.slice p ps.length cap,N] 39)).heap.size=w.heap.size+1:=by simp
 have HS:=aa hsz;have cZ:=aa hb0;have Iq:=aa jL;have ve:=aa HP;clear HP Yb hP hN hb0 jL hsz
 go_enter Tryz.func96,Tryz.ntmps96
 go_wp2_with fail;generalize hw0:w.alloc (.cells #[.slice p ps.length cap,N] 39)=w0 at *;clear hw0
 go_loopw [5,6] (fun v i wr=>∃k:Nat,n+1≤k∧k≤ps.length∧i=.int .i64 k∧aF (w.heap.size+1) 3 wr v ((dX (cg ps n k)).map (Value.int .i64))∧Below (w.heap.size+1) w0 wr) (fun _ i _=>ps.length - (intOf i).toNat)
 case atStart=>exact ⟨n+1,Nat.le_refl _,by omega,by go_num,by rw [ym];exact aF.nil _ _ _,Below.refl _ _⟩
 case round =>
  obtain ⟨k,hk1,hk,rfl,hown,hbr⟩:=hrel;have jL:wr.cell? ⟨w.heap.size,0,none⟩=some (.slice p ps.length cap):=(hbr.cell (p:=⟨w.heap.size,0,none⟩) (by simp)).trans Iq.out;by_cases hlt:k<ps.length
  ·obtain ⟨b,off,rfl,hc0⟩:=ve.out k hlt
   (have hc:wr.cell? ⟨b,off+k,none⟩=some (.int .i64 (gi ps k)):=by rw [hbr.cell (p:=⟨b,off+k,none⟩) (by have:=World.block_lt_of_cell? _ _ hc0;have:=HS.out;simp at *;omega)];exact hc0);(have hsz:w.heap.size+1≤wr.heap.size:=by have:=hbr.size;have:=HS.out;omega);have eL:=jq ps n k;have jN:=aa eL;(have dm:Hid (((dX (cg ps n k)).map (Value.int .i64)).length≤1000000):=by have:=oz ps n k;unfold Hid dX;rw [List.length_map,List.length_map];omega);clear hc0 eL ve;generalize u7:gi ps k=x at *;clear u7;by_cases hx:x=n
   ·have hx1:(x==(n:Int))=true:=by simp [hx]
    have HX:Hid (n<k∧x=n):=⟨by omega,hx⟩;clear hx;go_wp2_with (at_builtin;refine iD wr rfl _ _ 26 rfl (w.heap.size+1) 3 _ 8 Tryz.underlying26 Tryz.fI rfl (by decide) hown rfl _ rfl rfl dm.out hsz ?_;intro g cap w2 hown1 hg1 hb1)
    go_roundw
    case rel=>exact ⟨k+1,by omega,by omega,by go_num,by rw [jN.out,if_pos HX.out,DF,List.map_append];rw [List.length_map] at hown1;exact hown1,hbr.trans hb1⟩
    case measure=>simp [intOf];omega
   ·have hx1:(x==(n:Int))=false:=by simpa using hx
    have HX:Hid ¬(n<k∧x=n):=fun h=>hx h.2;clear hx;go_wp2_with fail
    go_roundw
    case rel=>exact ⟨k+1,by omega,by omega,by go_num,by rw [jN.out,if_neg HX.out,List.append_nil];exact hown,hbr⟩
    case measure=>simp [intOf];omega
  ·obtain rfl:k=ps.length:=by omega
   clear hlt hk;go_wp2_with fail;go_ret;exact ⟨cZ.out.trans (hbr.mono (by omega)),_,rfl,hown.ints.sub fun b hb _=>by omega⟩
end
section
open Go.RowKit Go.Deep
def wG (x:Int×Int):Value:=.tuple #[.int .i64 x.1,.int .i64 x.2]
set_option maxHeartbeats 800000 in
theorem TJ (S T:Nat→Prop) (w:World) (vc vr:Value) (cs:List (List Int)) (row:List Int) (st:Nat) (hC:aQ S w vc cs) (hR:aj T w vr row) (hst:st<cs.length)
  (hrl:row.length≤(gl cs st).length) (TK:row.length≤1000) (hcb:∀k,0≤gi (gl cs st) k∧gi (gl cs st) k≤1000) (hrb:∀k,gi row k≤1000000000) :
  Calls Tryz.prog 232 #[vc,.int .i64 st,vr] w fun e w'=>e=.returned (wG (bq (gi (gl cs st)) (gi row) row.length))∧w=w':=by
 obtain ⟨f,gC,hrow⟩:=hC;obtain ⟨p,cap,rfl,hcap,H⟩:=aC.open gC;obtain ⟨q,cr,rfl,mD,HR⟩:=aC.open hR;obtain ⟨b,off,rfl,hc0⟩:=H st hst;obtain ⟨q2,cap3,e3,hcap3,HC⟩:=aC.open (hrow st hst);rw [e3] at hc0;have hbd:=D4 (c:=gi (gl cs st)) (row:=gi row) (A:=1000000000) (by omega) hcb hrb;have Lh:=aa HR;have Yc:=aa HC;have gO:=aa hbd;have wH:=aa hcb;have iV:=aa hrb;have eL:=jr (gi (gl cs st)) (gi row);have jN:=aa eL;clear HR HC gC hrow H hR e3 hbd hcb hrb eL;generalize gl cs st=TM at *;unfold wG
 go_enter Tryz.func232,Tryz.ntmps232
 go_wp2_with fail
 go_loop [8,9,10,11,12,15] (fun l o _ _ _ i=>∃k:Nat,∃x y:Int,k≤row.length∧i=.int .i64 k∧l=.int .i64 x∧o=.int .i64 y ∧ -1≤x∧x≤1000001000∧Hid (bq (gi TM) (gi row) k=(x,y))) (fun _ _ _ _ _ i=>row.length - (intOf i).toNat)
 case atStart=>exact ⟨0,-1,0,by omega,rfl,rfl,rfl,by omega,by omega,rfl⟩
 case round =>
  obtain ⟨k,x,y,hk,rfl,rfl,rfl,eU,hl2,hx⟩:=hrel;by_cases hlt:k<row.length
  ·obtain ⟨rb,ro,rfl,h1⟩:=Lh.out k hlt
   obtain ⟨cb,co,rfl,h2⟩:=Yc.out k (by omega);have hb1:=wH.out k;have hb2:=iV.out k;have hs:=jN.out k;have HS:=aa hs;clear Lh Yc gO wH iV jN hs;generalize gi TM k=c at *;generalize gi row k=r at *;obtain ⟨hb1,hb3⟩:=hb1;by_cases ji:r<0
   ·go_wp2_with fail
    go_round
    case rel=>exact ⟨k+1,x,y,by omega,by go_num,rfl,rfl,eU,hl2,by unfold Hid;rw [HS.out,if_pos ji,hx.out]⟩
    case measure=>simp [intOf];omega
   ·by_cases hx0:x<0
    ·go_wp2_with fail
     go_round
     case rel=>exact ⟨k+1,c+r,k,by omega,by go_num,rfl,rfl,by omega,by omega,by unfold Hid;rw [HS.out,if_neg ji,hx.out,if_pos (.inl hx0)]⟩
     case measure=>simp [intOf];omega
    ·by_cases hlt2:c+r<x
     ·go_wp2_with fail
      go_round
      case rel=>exact ⟨k+1,c+r,k,by omega,by go_num,rfl,rfl,by omega,by omega,by unfold Hid;rw [HS.out,if_neg ji,hx.out,if_pos (.inr hlt2)]⟩
      case measure=>simp [intOf];omega
     ·go_wp2_with fail
      go_round
      case rel=>exact ⟨k+1,x,y,by omega,by go_num,rfl,rfl,eU,hl2,by unfold Hid;rw [HS.out,if_neg ji,hx.out,if_neg (by simp;omega)]⟩
      case measure=>simp [intOf];omega
  ·obtain rfl:k=row.length:=by omega
   clear hlt;go_wp2_with fail;go_ret2;exact ⟨by rw [hx.out];rfl,rfl⟩
set_option maxHeartbeats 800000 in
theorem Sn (T:Nat→Prop) (w:World) (vr:Value) (row:List Int) (hR:aj T w vr row) (TK:row.length≤1000) :
  Calls Tryz.prog 169 #[vr] w fun e w'=>e=.returned (wG (bq (fun _=>0) (gi row) row.length))∧w=w':=by
 obtain ⟨q,cr,rfl,mD,HR⟩:=aC.open hR;have Lh:=aa HR;have eL:=jr (fun _=>0) (gi row);have jN:=aa eL;clear HR hR eL;unfold wG
 go_enter Tryz.func169,Tryz.ntmps169
 go_wp2_with fail
 go_loop [4,5,6,7,10] (fun l o _ _ i=>∃k:Nat,∃x y:Int,k≤row.length∧i=.int .i64 k∧l=.int .i64 x∧o=.int .i64 y∧Hid (bq (fun _=>0) (gi row) k=(x,y))) (fun _ _ _ _ i=>row.length - (intOf i).toNat)
 case atStart=>exact ⟨0,-1,0,by omega,rfl,rfl,rfl,rfl⟩
 case round =>
  obtain ⟨k,x,y,hk,rfl,rfl,rfl,hx⟩:=hrel;by_cases hlt:k<row.length
  ·obtain ⟨rb,ro,rfl,h1⟩:=Lh.out k hlt
   have hs:=jN.out k;have HS:=aa hs;clear Lh jN hs;generalize gi row k=r at *;by_cases ji:r<0
   ·go_wp2_with fail
    go_round
    case rel=>exact ⟨k+1,x,y,by omega,by go_num,rfl,rfl,by unfold Hid;rw [HS.out,if_pos ji,hx.out]⟩
    case measure=>simp [intOf];omega
   ·by_cases hx0:x<0
    ·go_wp2_with fail
     go_round
     case rel=>exact ⟨k+1,r,k,by omega,by go_num,rfl,rfl,by unfold Hid;rw [HS.out,if_neg ji,hx.out,if_pos (.inl hx0),Int.zero_add]⟩
     case measure=>simp [intOf];omega
    ·by_cases hlt2:r<x
     ·go_wp2_with fail
      go_round
      case rel=>exact ⟨k+1,r,k,by omega,by go_num,rfl,rfl,by unfold Hid;rw [HS.out,if_neg ji,hx.out,if_pos (.inr (by omega)),Int.zero_add]⟩
      case measure=>simp [intOf];omega
     ·go_wp2_with fail
      go_round
      case rel=>exact ⟨k+1,x,y,by omega,by go_num,rfl,rfl,by unfold Hid;rw [HS.out,if_neg ji,hx.out,if_neg (by simp;omega)]⟩
      case measure=>simp [intOf];omega
  ·obtain rfl:k=row.length:=by omega
   clear hlt;go_wp2_with fail;go_ret2;exact ⟨by rw [hx.out];rfl,rfl⟩
end
section
open Go.RowKit Go.Deep
def QT (e:Ending) (w':World) (w:World) (n:Int):Prop:=e=.returned (.int .i64 n)∧Below w.heap.size w w'
set_option maxHeartbeats 400000 in
theorem Oe (w:World) (b1 b2:Nat) (x lo hi:Int) (h1:w.cell? ⟨b1,0,none⟩=some (.int .i64 lo)) (h2:w.cell? ⟨b2,0,none⟩=some (.int .i64 hi)) :
  y6 229 #[.pointer (some ⟨b1,0,none⟩),.pointer (some ⟨b2,0,none⟩)] #[.int .i64 x] (.bool (decide (x<lo) || decide (hi≤x))) w:=by
 unfold y6
 go_enter Tryz.func229,Tryz.ntmps229
 by_cases hx:x<lo
 ·go_wp2_with fail
  go_ret;exact ⟨aR (by simp [hx]),rfl⟩
 ·go_wp2_with fail
  go_ret;exact ⟨aR (by simp;omega),rfl⟩
set_option maxHeartbeats 400000 in
theorem Sq (S:Nat→Prop) (w:World) (v:Value) (st:List Int) (n:Nat) (lo hi:Int) (h:aj S w v st) (hn:st.length≤1000000) :
  Calls Tryz.prog 168 #[v,.int .i64 n,.int .i64 lo,.int .i64 hi] w fun e w'=>QT e w' w (gA st n lo hi):=by
 have b8:gA st n lo hi=if st.length≠n then 9 else if fo st lo hi then 2 else 0:=rfl
 have HF:=aa b8;have hb:Below w.heap.size w ((w.alloc (.cells #[.int .i64 lo] 3)).alloc (.cells #[.int .i64 hi] 3)):=((Below.refl _ _).alloc (Nat.le_refl _) _).alloc (by simp) _;have hI:=aC.keep h (Kept.below hb);obtain ⟨p,cap,rfl,hcap,H⟩:=aC.open h;have hc1:((w.alloc (.cells #[.int .i64 lo] 3)).alloc (.cells #[.int .i64 hi] 3)).cell? ⟨w.heap.size,0,none⟩=some (.int .i64 lo):=by simp
 have hc2:((w.alloc (.cells #[.int .i64 lo] 3)).alloc (.cells #[.int .i64 hi] 3)).cell? ⟨w.heap.size+1,0,none⟩=some (.int .i64 hi):=by simp
 have hC:=zV 229 #[.pointer (some ⟨w.heap.size,0,none⟩),.pointer (some ⟨w.heap.size+1,0,none⟩)] (enters_of Tryz.func229 (by kernel_rfl) rfl) S _ _ st.length (fun k=>.int .i64 (gi st k)) (fun k=>decide (gi st k<lo) || decide (hi≤gi st k)) hI hn
  (fun k _=>Oe _ _ _ (gi st k) lo hi hc1 hc2)
 have HC:=aa hC;have HB:=aa hb;clear b8 hI H hc1 hc2 hC hb h;by_cases hl:st.length=n
 ·have eU:((st.length:Int) != n)=false:=by simp [hl]
  have HL:=aa hl;clear hl;have nj:fo st lo hi=(List.range st.length).any fun k=>decide (gi st k<lo) || decide (hi≤gi st k):=rfl;have bU:=aa nj;clear nj
  go_enter Tryz.func168,Tryz.ntmps168
  go_wp2_with fail;refine HC.out.mono ?_;rintro e w' ⟨rfl,rfl⟩;rw [← bU.out];go_wp2_with fail
  ·go_ret
   exact ⟨aH (by rw [HF.out,if_neg (by rw [HL.out];simp),if_pos ‹_›]),HB.out⟩
  ·go_ret
   exact ⟨aH (by rw [HF.out,if_neg (by rw [HL.out];simp),if_neg (by rw [‹fo st lo hi=false›];simp)]),HB.out⟩
 ·have eU:((st.length:Int) != n)=true:=by simp;omega
  go_enter Tryz.func168,Tryz.ntmps168
  go_wp2_with fail;go_ret;exact ⟨aH (by rw [HF.out,if_pos hl]),HB.out⟩
end
end Go.Proofs.YthgabkgmkolobaaGreat
