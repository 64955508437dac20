/- Names, as layer 1's and layer 31's references have them. Contracts: slices.Index and .. -/
import Derived.Shelf.Abstract
import Derived.Test.YthgabkgmkolobaaGreatQ3
set_option maxRecDepth 100000
namespace Go.Proofs.YthgabkgmkolobaaGreat
section
open Go.RowKit Go.Deep
theorem Tryz.K9:(Tryz.prog.info? 4).map (fun i=>(i.zero,i.size,i.bytes))=some (some (.bool false),1,1):=by kernel_rfl
theorem Ed (c:Nat):(97≤c∧c≤122)∨(65≤c∧c≤90)∨(48≤c∧c≤57)∨c=94∨c=126∨c=37∨c=39∨c=32∨c=46∨c=44∨c=59∨c=58∨c=33∨c=63∨c=40∨c=41∨c=45 ∨
  ((c<97∨122<c)∧(c<65∨90<c)∧(c<48∨57<c)∧c≠94∧c≠126∧c≠37∧c≠39∧c≠32∧c≠46∧c≠44∧c≠59∧c≠58∧c≠33∧c≠63∧c≠40∧c≠41∧c≠45):=by omega
def qD (c:Nat) (w:World) (e:Ending) (w':World):Prop:=e=.returned (.int .i64 (cK c))∧w=w'
theorem kp {c:Nat} {n:Int} {w:World} (h:n=cK c):qD c w (.returned (.int .i64 n)) w:=⟨by rw [h],rfl⟩
set_option maxHeartbeats 400000 in
theorem cM (c:Nat) (h:c∈[94,126,37,39,32,46,44,59,58,33,63,40,41,45]) (w:World):Calls Tryz.prog 249 #[.int .u8 c] w (qD c w):=by
 simp only [List.mem_cons,List.not_mem_nil,or_false] at h;rcases h with rfl | rfl | rfl | rfl | rfl | rfl | rfl | rfl | rfl | rfl | rfl | rfl | rfl | rfl
 all_goals
  go_enter Tryz.func249,Tryz.ntmps249
  go_wp2;go_ret;exact kp rfl
set_option maxHeartbeats 400000 in
theorem Ob (c:Nat) (HK:Hid (cK c=0)) (hc:c<256) (h:c<48∨(57<c∧c<65)∨(90<c∧c<97)∨122<c) (TD:((c:Int)==94)=false) (Oc:((c:Int)==126)=false) (TE:((c:Int)==37)=false) (e39:((c:Int)==39)=false) (XU:((c:Int)==32)=false) (XV:((c:Int)==46)=false) (XW:((c:Int)==44)=false) (XX:((c:Int)==59)=false) (XY:((c:Int)==58)=false) (XZ:((c:Int)==33)=false) (X0:((c:Int)==63)=false) (X3:((c:Int)==40)=false) (X4:((c:Int)==41)=false) (X5:((c:Int)==45)=false) (w:World):Calls Tryz.prog 249 #[.int .u8 c] w (qD c w):=by
 rcases h with h1 | ⟨h1,h2⟩ | ⟨h1,h2⟩ | h1
 all_goals
  go_enter Tryz.func249,Tryz.ntmps249
  go_wp2;go_ret;exact kp HK.out.symm
theorem G3 (c:Nat) (hc:c<256) (h1:c<97∨122<c) (h2:c<65∨90<c) (h3:c<48∨57<c) (X6:c≠94) (n126:c≠126) (n37:c≠37) (n39:c≠39) (n32:c≠32) (n46:c≠46) (n44:c≠44) (n59:c≠59) (X7:c≠58) (n33:c≠33) (X8:c≠63) (n40:c≠40) (n41:c≠41) (n45:c≠45) (w:World):Calls Tryz.prog 249 #[.int .u8 c] w (qD c w):=by
 have hk:cK c=0:=by unfold cK isLet uf;rw [if_neg (by simp;omega),if_neg (by omega),if_neg (by omega),if_neg n39,if_neg n32,if_neg (by simp;omega)]
 have TD:((c:Int)==94)=false:=by rw [beq_eq_false_iff_ne];omega
 have Oc:((c:Int)==126)=false:=by rw [beq_eq_false_iff_ne];omega
 have TE:((c:Int)==37)=false:=by rw [beq_eq_false_iff_ne];omega
 have e39:((c:Int)==39)=false:=by rw [beq_eq_false_iff_ne];omega
 have XU:((c:Int)==32)=false:=by rw [beq_eq_false_iff_ne];omega
 have XV:((c:Int)==46)=false:=by rw [beq_eq_false_iff_ne];omega
 have XW:((c:Int)==44)=false:=by rw [beq_eq_false_iff_ne];omega
 have XX:((c:Int)==59)=false:=by rw [beq_eq_false_iff_ne];omega
 have XY:((c:Int)==58)=false:=by rw [beq_eq_false_iff_ne];omega
 have XZ:((c:Int)==33)=false:=by rw [beq_eq_false_iff_ne];omega
 have X0:((c:Int)==63)=false:=by rw [beq_eq_false_iff_ne];omega
 have X3:((c:Int)==40)=false:=by rw [beq_eq_false_iff_ne];omega
 have X4:((c:Int)==41)=false:=by rw [beq_eq_false_iff_ne];omega
 have X5:((c:Int)==45)=false:=by rw [beq_eq_false_iff_ne];omega
 exact Ob c hk hc (by omega) TD Oc TE e39 XU XV XW XX XY XZ X0 X3 X4 X5 w
set_option maxHeartbeats 400000 in
theorem sH (c:Nat) (hc:c<256) (h:(97≤c∧c≤122)∨(65≤c∧c≤90)∨(48≤c∧c≤57)) (w:World):Calls Tryz.prog 249 #[.int .u8 c] w (qD c w):=by
 rcases h with ⟨h1,h2⟩ | ⟨h1,h2⟩ | ⟨h1,h2⟩
 ·have hk:cK c=1:=by unfold cK isLet;rw [if_pos (by simp;omega)]
  have HK:=aa hk;clear hk
  go_enter Tryz.func249,Tryz.ntmps249
  go_wp2;go_ret;exact kp HK.out.symm
 ·have hk:cK c=1:=by unfold cK isLet;rw [if_pos (by simp;omega)]
  have HK:=aa hk;clear hk
  go_enter Tryz.func249,Tryz.ntmps249
  go_wp2;go_ret;exact kp HK.out.symm
 ·have hk:cK c=3:=by unfold cK isLet;rw [if_neg (by simp;omega),if_neg (by omega),if_pos (by omega)]
  have HK:=aa hk;clear hk;have TD:((c:Int)==94)=false:=by rw [beq_eq_false_iff_ne];omega
  have Oc:((c:Int)==126)=false:=by rw [beq_eq_false_iff_ne];omega
  have TE:((c:Int)==37)=false:=by rw [beq_eq_false_iff_ne];omega
  go_enter Tryz.func249,Tryz.ntmps249
  go_wp2;go_ret;exact kp HK.out.symm
theorem qh (c:Nat) (hc:c<256) (w:World):Calls Tryz.prog 249 #[.int .u8 c] w fun e w'=>e=.returned (.int .i64 (cK c))∧w=w':=by
 have h:=Ed c;rcases h with h | h | h | h | h | h | h | h | h | h | h | h | h | h | h | h | h | ⟨h1,h2,h3,X6,n126,n37,n39,n32,n46,n44,n59,X7,n33,X8,n40,n41,n45⟩
 ·exact sH c hc (.inl h) w
 ·exact sH c hc (.inr (.inl h)) w
 ·exact sH c hc (.inr (.inr h)) w
 ·exact cM c (by rw [h];decide) w
 ·exact cM c (by rw [h];decide) w
 ·exact cM c (by rw [h];decide) w
 ·exact cM c (by rw [h];decide) w
 ·exact cM c (by rw [h];decide) w
 ·exact cM c (by rw [h];decide) w
 ·exact cM c (by rw [h];decide) w
 ·exact cM c (by rw [h];decide) w
 ·exact cM c (by rw [h];decide) w
 ·exact cM c (by rw [h];decide) w
 ·exact cM c (by rw [h];decide) w
 ·exact cM c (by rw [h];decide) w
 ·exact cM c (by rw [h];decide) w
 ·exact cM c (by rw [h];decide) w
 ·exact G3 c hc h1 h2 h3 X6 n126 n37 n39 n32 n46 n44 n59 X7 n33 X8 n40 n41 n45 w
set_option maxHeartbeats 400000 in
theorem JE (s:ByteArray) (hs:s.size≤70000) (w:World):Calls Tryz.prog 200 #[.string s] w fun e w'=>e=.returned (.int .i64 (jo s.data.toList))∧w=w':=by
 go_enter Tryz.func200,Tryz.ntmps200
 go_wp2
 go_loop [3,4,5] (fun n i _=>∃k:Nat,k≤s.size∧i=.int .i64 k∧n=.int .i64 (jo (s.data.toList.take k))) (fun _ i _=>s.size - (intOf i).toNat)
 case atStart=>exact ⟨0,Nat.zero_le _,rfl,rfl⟩
 case round =>
  obtain ⟨k,hk,rfl,rfl⟩:=hrel
  have hb:jo (s.data.toList.take k)≤70000:=Nat.le_trans (Bj _) (by simp;omega)
  by_cases hlt:k<s.size
  ·have hst:=wC s k hlt
   have hk':=qB s[k]
   have hc:s[k].toNat<256:=s[k].toNat_lt
   generalize hm:jo (s.data.toList.take k)=m at *
   have HS:=aa hst
   have HK:=aa hk'
   clear hst hm hk'
   go_wp2_with (go_at_call 249;refine (qh _ hc _).mono ?_;rintro e w' ⟨rfl,rfl⟩;generalize cK _=q at *)
   all_goals
    go_round
    case rel=>exact ⟨k+1,by omega,by go_num,by rw [HS.out];first | (rw [if_pos (HK.out.1 (by first | omega | (simp only [beq_iff_eq] at *;omega)))];go_num) | (rw [if_neg (fun h=>by have:=HK.out.2 h;simp only [beq_eq_false_iff_ne,ne_eq] at *;omega)];go_num)⟩
    case measure=>simp [intOf];omega
  ·go_wp2
   go_ret
   exact ⟨aH (by rw [List.take_of_length_le (by simp;omega)]),rfl⟩
end
section
open Go.RowKit Go.Deep
theorem xT {x y:ByteArray} (h:(x.toList==y.toList)=true):x=y:=by
 rw [beq_iff_eq,toList_data,toList_data] at h;exact eD h
theorem Ee {x y:ByteArray} (h:(x.toList==y.toList)=false):¬x=y:=by
 rintro rfl;simp at h
set_option maxHeartbeats 400000 in
theorem yt (S:Nat→Prop) (w:World) (v:Value) (n:Nat) (f:Nat→ByteArray) (x:ByteArray) (h:aC S w v n (fun k=>.string (f k))) (hn:n≤1000000) :
  Calls Tryz.prog 95 #[v,.string x] w fun e w'=>e=.returned (.int .i64 (b5 (fun j=>decide (x=f j)) n))∧w=w':=by
 obtain ⟨p,cap,rfl,hcap,H⟩:=h.open;clear h
 go_enter Tryz.func95,Tryz.ntmps95
 go_wp2
 go_loop [5,8] (fun _ i=>∃k:Nat,k≤n∧i=.int .i64 k∧Hid (∀j,j<k→decide (x=f j)=false)) (fun _ i=>n - (intOf i).toNat)
 case atStart=>exact ⟨0,Nat.zero_le _,rfl,fun j hj=>absurd hj (Nat.not_lt_zero _)⟩
 case round =>
  obtain ⟨k,hk,rfl,hd⟩:=hrel;by_cases hlt:k<n
  ·obtain ⟨b,off,rfl,hc⟩:=H k hlt
   clear H;go_wp2
   ·have hx:=xT ‹(x.toList==(f k).toList)=true›
    go_ret;exact ⟨aH (kK (p:=fun j=>decide (x=f j)) hlt hd.out (by simpa using hx)).symm,rfl⟩
   ·have hx:=Ee ‹(x.toList==(f k).toList)=false›
    go_round
    case rel=>exact ⟨k+1,by omega,by go_num,fun j hj=>if e:j=k then by subst e;simpa using hx else hd.out j (by omega)⟩
    case measure=>simp [intOf];omega
  ·clear H
   go_wp2;go_ret;exact ⟨aH (iR fun j hj=>hd.out j (by omega)).symm,rfl⟩
set_option maxHeartbeats 400000 in
theorem gw (S:Nat→Prop) (w:World) (v:Value) (n:Nat) (f:Nat→ByteArray) (x:ByteArray) (h:aC S w v n (fun k=>.string (f k))) (hn:n≤1000000) :
  Calls Tryz.prog 32 #[v,.string x] w fun e w'=>e=.returned (.bool ((List.range n).any fun j=>decide (x=f j)))∧w=w':=by
 have hx:=kY (fun j=>decide (x=f j)) n;have HX:=aa hx;clear hx
 go_enter Tryz.func32,Tryz.ntmps32
 go_wp2_with (go_at_call 95;refine (yt S w v n f x h hn).mono ?_;rintro e w' ⟨rfl,rfl⟩);go_ret;exact ⟨aR (by rw [← HX.out]),rfl⟩
end
section
open Go.RowKit Go.Deep
def TF (w:World) (n:Nat) (e:Ending) (w':World):Prop:=Below w.heap.size w w'∧∃v,∃bs:List Bool,e=.returned v∧bs.length=n∧aC Any w' v n (fun k=>.bool (gb bs k))
theorem aF.bools {base:Nat} {e:TypeId} {w:World} {v:Value} {xs:List Bool} (h:aF base e w v (xs.map Value.bool)):aC (fun b=>base≤b) w v xs.length (fun k=>.bool (gb xs k)):=by
 have:=h.wA;rw [List.length_map] at this;exact this.congr fun k hk=>by simp [gb,hk]
theorem aC.X9 {S:Nat→Prop} {w:World} {b n cap:Nat} {f:Nat→Value} {o:Nat} (h:aC S w (.slice (some ⟨b,o,none⟩) n cap) n f) {k:Nat} (hk:k<n):w.cell? ⟨b,o+k,none⟩=some (f k):=by
 obtain ⟨p,c,e,_,H⟩:=h.open;cases e;obtain ⟨b',o',e',hc⟩:=H k hk;cases e';exact hc
theorem aF.form {base:Nat} {e:TypeId} {w:World} {v:Value} {vs:List Value} {n:Nat} (h:aF base e w v vs) (hn:vs.length=n):∃p cap,v=.slice p n cap∧(p=none∨∃g,p=some ⟨g,0,none⟩):=by
 subst hn;rcases h.2 with ⟨rfl,h0⟩ | ⟨g,cap,cur,rfl,_⟩
 ·exact ⟨none,0,by rw [h0],.inl rfl⟩
 ·exact ⟨_,cap,rfl,.inr ⟨g,rfl⟩⟩
theorem aF.made (w:World) (e:TypeId):aF w.heap.size e (w.alloc (.cells #[] e)) (.slice (some ⟨w.heap.size,0,none⟩) 0 0) []:=World.ownsRow_made w #[] 0 (Nat.le_refl _) (by unfold maxLen;omega) (by simp)
set_option maxHeartbeats 400000 in
theorem Sl (s:ByteArray) (hs:s.size≤1000) (w:World):Calls Tryz.prog 275 #[.string s] w (TF w s.size):=by
 go_enter Tryz.func275,Tryz.ntmps275
 go_wp2
 go_loopw [3,4] (fun v i wr=>∃k:Nat,∃bs:List Bool,k≤s.size∧i=.int .i64 k∧bs.length=k∧aF w.heap.size 4 wr v (bs.map .bool)∧Below w.heap.size w wr) (fun _ i _=>s.size - (intOf i).toNat)
 case atStart=>exact ⟨0,[],Nat.zero_le _,rfl,rfl,aF.made _ _,(Below.refl _ _).alloc (Nat.le_refl _) _⟩
 case round =>
  obtain ⟨k,bs,hk,rfl,hbl,hown,hbr⟩:=hrel
  have hsz:=hbr.size
  have wE:=aa hbl
  by_cases hlt:k<s.size
  ·have dm:Hid ((bs.map Value.bool).length≤1000000):=by unfold Hid;rw [List.length_map];omega
   clear hbl
   rcases Nat.eq_zero_or_pos k with rfl | rN
   ·go_wp2_with (first | (go_at_call 249;refine (qh _ (UInt8.toNat_lt _) _).mono ?_;rintro e w' ⟨rfl,rfl⟩;generalize cK _=q at *) | (at_builtin;refine iD wr rfl _ _ 163 rfl w.heap.size 4 _ 1 Tryz.underlying163 Tryz.K9 rfl (by decide) hown rfl _ rfl rfl dm.out hsz ?_;intro g cap w2 hown1 hg1 hb1))
    all_goals
     go_roundw
     case rel=>exact ⟨1,bs++[_],by omega,by go_num,by rw [List.length_append,wE.out];rfl,by rw [List.map_append];rw [List.length_map] at hown1;exact hown1,hbr.trans hb1⟩
     case measure=>simp [intOf];omega
   ·have gC:=hown.bools
    obtain ⟨p,cap,rfl,hp⟩:=hown.form (n:=k) (by rw [List.length_map];exact wE.out)
    rw [wE.out] at gC
    obtain ⟨p',cap',e',hcap',H⟩:=gC.open
    cases e'
    obtain ⟨b,off,rfl,hc⟩:=H (k - 1) (by have:=wE.out;omega)
    clear H gC hp
    go_wp2_with (first | (go_at_call 249;refine (qh _ (UInt8.toNat_lt _) _).mono ?_;rintro e w' ⟨rfl,rfl⟩;generalize cK _=q at *) | (at_builtin;refine iD wr rfl _ _ 163 rfl w.heap.size 4 _ 1 Tryz.underlying163 Tryz.K9 rfl (by decide) hown rfl _ rfl rfl dm.out hsz ?_;intro g cap w2 hown1 hg1 hb1))
    all_goals
     go_roundw
     case rel=>exact ⟨k+1,bs++[_],by omega,by go_num,by rw [List.length_append,wE.out];rfl,by rw [List.map_append];rw [List.length_map] at hown1;exact hown1,hbr.trans hb1⟩
     case measure=>simp [intOf];omega
  ·obtain rfl:k=s.size:=by omega
   clear hlt hk hbl
   go_wp2
   go_ret
   exact ⟨hbr,_,bs,rfl,wE.out,(by rw [← wE.out];exact hown.bools.sub fun _ _ _=>trivial)⟩
end
section
open Go.RowKit Go.Deep
def y6 (g:Nat) (lb args:Array Value) (res:Value) (w:World):Prop:=Calls Tryz.prog g (args++lb) w fun e w'=>e=.returned res∧w=w'
set_option maxHeartbeats 400000 in
theorem La (g:Nat) (lb:Array Value) (eg:∀args w,(callFunc g args).run Tryz.prog w=.ok (.enter g args) w) (S:Nat→Prop) (w:World) (v:Value) (n:Nat) (f:Nat→Value) (p:Nat→Bool)
  (h:aC S w v n f) (hn:n≤1000000) (hp:∀k,k<n→y6 g lb #[f k] (.bool (p k)) w) :
  Calls Tryz.prog 117 #[v,.func (.func g) #[] lb] w fun e w'=>e=.returned (.int .i64 (b5 p n))∧w=w':=by
 obtain ⟨q,cap,rfl,hcap,H⟩:=h.open;have HP:=aa hp;clear h hp
 go_enter Tryz.func117,Tryz.ntmps117
 go_wp2_with fail
 go_loop [5,8] (fun _ i=>∃k:Nat,k≤n∧i=.int .i64 k∧Hid (∀j,j<k→p j=false)) (fun _ i=>n - (intOf i).toNat)
 case atStart=>exact ⟨0,Nat.zero_le _,rfl,fun j hj=>absurd hj (Nat.not_lt_zero _)⟩
 case round =>
  obtain ⟨k,hk,rfl,hd⟩:=hrel;by_cases hlt:k<n
  ·obtain ⟨b,off,rfl,hc⟩:=H k hlt
   clear H;have hpk:=HP.out k hlt;unfold y6 at hpk;have Ya:=aa hpk;clear hpk HP;generalize hv:p k=pk at *;have HV:=aa hv;clear hv;cases pk
   ·go_wp2_with fail
    refine Ya.out.mono ?_;rintro e w' ⟨rfl,rfl⟩;go_wp2_with fail
    go_round
    case rel=>exact ⟨k+1,by omega,by go_num,fun j hj=>if e:j=k then by subst e;exact HV.out else hd.out j (by omega)⟩
    case measure=>simp [intOf];omega
   ·go_wp2_with fail
    refine Ya.out.mono ?_;rintro e w' ⟨rfl,rfl⟩;go_wp2_with fail;go_ret;exact ⟨aH (kK hlt hd.out HV.out).symm,rfl⟩
  ·clear H
   go_wp2_with fail;go_ret;exact ⟨aH (iR fun j hj=>hd.out j (by omega)).symm,rfl⟩
set_option maxHeartbeats 400000 in
theorem zV (g:Nat) (lb:Array Value) (eg:∀args w,(callFunc g args).run Tryz.prog w=.ok (.enter g args) w) (S:Nat→Prop) (w:World) (v:Value) (n:Nat) (f:Nat→Value) (p:Nat→Bool)
  (h:aC S w v n f) (hn:n≤1000000) (hp:∀k,k<n→y6 g lb #[f k] (.bool (p k)) w) :
  Calls Tryz.prog 63 #[v,.func (.func g) #[] lb] w fun e w'=>e=.returned (.bool ((List.range n).any p))∧w=w':=by
 have hx:=kY p n;have HX:=aa hx;have HI:=aa (La g lb eg S w v n f p h hn hp);clear hx hp h eg
 go_enter Tryz.func63,Tryz.ntmps63
 go_wp2_with fail;refine HI.out.mono ?_;rintro e w' ⟨rfl,rfl⟩;go_wp2_with fail;go_ret;exact ⟨aR (by rw [← HX.out]),rfl⟩
end
section
open Go.RowKit Go.Deep
theorem Tryz.Xm:(Tryz.prog.info? 4).map (fun i=>(i.zero,i.size,i.bytes))=some (some (.bool false),1,1):=by kernel_rfl
structure yu (w0 wr:World) (B n:Nat) (f:Nat→Bool):Prop where
 below:Below B w0 wr
 row:wr.rowIs B 4 n (fun j=>.bool (f j))
 size:wr.heap.size=B+1
theorem yu.start (w0:World) (n:Nat) (f:Nat→Bool) (hf:∀j,f j=false):yu w0 (w0.alloc (.cells (madeCells #[.bool false] n) 4)) w0.heap.size n f :=
 ⟨(Below.refl _ _).alloc (Nat.le_refl _) _,(World.rowIs_made w0 _ n _).congr fun i _=>by simp [hf],by simp⟩
theorem yu.set {w0 wr:World} {B n q:Nat} {f g:Nat→Bool} (h:yu w0 wr B n f) (hg:∀j,g j=(f j || decide (j=q))) :
  yu w0 (wr.setCell ⟨B,q,none⟩ (.bool true)) B n g :=
 ⟨h.below.setCell (p:=⟨B,q,none⟩) (Nat.le_refl _) _,(h.row.set q _).congr fun i _=>by
  by_cases e:i=q
  ·simp [e,hg]
  ·simp [e,hg],by simp [h.size]⟩
theorem yu.congr {w0 wr:World} {B n:Nat} {f g:Nat→Bool} (h:yu w0 wr B n f) (hg:∀j,g j=f j):yu w0 wr B n g :=
 ⟨h.below,h.row.congr fun i _=>by simp [hg],h.size⟩
set_option maxHeartbeats 800000 in
theorem qi (S : Nat → Prop) (w : World) (v : Value) (t : aD) (h : au S w v t) (hp : t.ps.length ≤ 1000000) (hn : t.ns.length ≤ 1000000) (hz : ∀ k, (gs t.ns k).size ≤ 70000) :
    Calls Tryz.prog 87 #[v] w fun e w' => e = .returned (.int .i64 (aB t)) ∧ Below w.heap.size w w' := by
  obtain ⟨P, N, rfl, hP, hN⟩ := h
  obtain ⟨ps, ns⟩ := t
  simp only at *
  have b8 : aB ⟨ps, ns⟩ = if ps.length = 0 then 5 else if 64 < ps.length then 4 else if ns.length ≠ ps.length then 9 else if iQ ps then firstNZ (iC ps ns) ps.length else 2 := rfl
  have HF := aa b8
  clear b8
  have Lb := hP.keep (Kept.below ((Below.refl _ w).alloc (Nat.le_refl _) (.cells #[P, N] 39)))
  have Lc := hN.keep (Kept.below ((Below.refl _ w).alloc (Nat.le_refl _) (.cells #[P, N] 39)))
  clear hP hN
  obtain ⟨p, cap, rfl, hcap, HP⟩ := aC.open Lb
  obtain ⟨q, cr, rfl, mD, HN⟩ := aC.open Lc
  have k9 : Below w.heap.size w (w.alloc (.cells #[.slice p ps.length cap, .slice q ns.length cr] 39)) := (Below.refl _ _).alloc (Nat.le_refl _) _
  have Ip := aa HP
  have Ef := aa HN
  clear Lb Lc HP HN
  by_cases h0 : ps.length = 0
  · have HX : Hid (ps.length = 0) := h0
    have h0' : ((ps.length : Int) == 0) = true := by simp [h0]
    clear h0
    go_enter Tryz.func87, Tryz.ntmps87
    go_wp2
    go_ret
    exact ⟨aH (by rw [HF.out, if_pos HX.out]), k9⟩
  have h0' : ((ps.length : Int) == 0) = false := by simpa using h0
  by_cases h1 : 64 < ps.length
  · go_enter Tryz.func87, Tryz.ntmps87
    go_wp2
    go_ret
    exact ⟨aH (by rw [HF.out, if_neg h0, if_pos h1]), k9⟩
  by_cases h2 : ns.length = ps.length
  · have B7 : ((ns.length : Int) != ps.length) = false := by simp [h2]
    have H2 := aa h2
    clear h2
    have hmk := fun W => run_make_row' (P := Tryz.prog) 163 4 (.bool false) 1 Tryz.underlying163 Tryz.Xm rfl .i64 .i64 ps.length (by omega) (by omega) W
    go_enter Tryz.func87, Tryz.ntmps87
    go_wp2
    clear hmk k9
    have hstart := yu.start (w.alloc (.cells #[.slice p ps.length cap, .slice q ns.length cr] 39)) ps.length (fun j => B3 ps 0 j) (fun j => rfl)
    rw [World.size_alloc] at hstart
    have jL : (w.alloc (.cells #[.slice p ps.length cap, .slice q ns.length cr] 39)).cell? ⟨w.heap.size, 0, none⟩ = some (.slice p ps.length cap) := by simp [World.cell?_alloc_new]
    have jh : (w.alloc (.cells #[.slice p ps.length cap, .slice q ns.length cr] 39)).cell? ⟨w.heap.size, 1, none⟩ = some (.slice q ns.length cr) := by simp [World.cell?_alloc_new]
    have hb0 : Below w.heap.size w (w.alloc (.cells #[.slice p ps.length cap, .slice q ns.length cr] 39)) := (Below.refl _ _).alloc (Nat.le_refl _) _
    have hsz : (w.alloc (.cells #[.slice p ps.length cap, .slice q ns.length cr] 39)).heap.size = w.heap.size + 1 := by simp
    generalize hw0 : w.alloc (.cells #[.slice p ps.length cap, .slice q ns.length cr] 39) = w0 at *
    clear hw0
    have HS := aa hsz
    have Iq := aa jL
    have uZ := aa jh
    clear hsz jL jh
    go_loopw [4, 5, 33] (fun _ _ i wr => ∃ k : Nat, k ≤ ps.length ∧ i = .int .i64 k ∧ Hid (∀ j, j < k → jg j (gi ps j) = true) ∧ yu w0 wr (w.heap.size + 1) ps.length (fun j => B3 ps k j)) (fun _ _ i _ => ps.length - (intOf i).toNat)
    case atStart => exact ⟨0, Nat.zero_le _, rfl, fun j hj => absurd hj (Nat.not_lt_zero _), hstart⟩
    case round =>
      obtain ⟨k, hk, rfl, hd, hW⟩ := hrel
      clear hstart
      by_cases hlt : k < ps.length
      · obtain ⟨b, off, rfl, hc0⟩ := Ip.out k hlt
        have hc : wr.cell? ⟨b, off + k, none⟩ = some (.int .i64 (gi ps k)) := by
          rw [hW.below.cell (p := ⟨b, off + k, none⟩) (by have := World.block_lt_of_cell? _ _ hc0; have := HS.out; simp at *; omega)]; exact hc0
        clear hc0
        generalize hpk : gi ps k = x at *
        have HX := aa hpk
        clear hpk
        by_cases hg : 0 < k ∧ 0 ≤ x ∧ x < k
        · obtain ⟨g1, g2, g3⟩ := hg
          obtain ⟨y, rfl⟩ := Int.eq_ofNat_of_zero_le g2
          have hi1 := hW.row.cell (i := y) (by omega)
          have hi2 := hW.row.frozen y
          go_wp2
          go_roundw
          case rel => exact ⟨k + 1, by omega, by go_num, fun j hj => if e : j = k then by subst e; rw [HX.out]; unfold jg; rw [if_neg (by omega)]; simp; omega else hd.out j (by omega), hW.set (q := y) fun j => by rw [D1, HX.out]; simp only [g1, decide_true, Bool.true_and]; congr 1; rw [Bool.eq_iff_iff]; simp; omega⟩
          case measure => simp [intOf]; omega
        · by_cases Eg : k = 0 ∧ x = -1
          · obtain ⟨rfl, rfl⟩ := Eg
            have hc' : wr.cell? ⟨b, off, none⟩ = some (.int .i64 (-1)) := by simpa using hc
            go_wp2
            go_roundw
            case rel => exact ⟨1, by omega, by go_num, fun j hj => by obtain rfl : j = 0 := by omega
                                                                      rw [HX.out]; rfl, hW.congr fun j => by rw [D1]; simp⟩
            case measure => simp [intOf]; omega
          · have mB : jg k x = false := by
              unfold jg; split
              · rename_i e; simp; exact fun e2 => Eg ⟨e, e2⟩
              · simp; intro; omega
            rw [← HX.out] at mB
            have HB := aa (D2 hlt mB)
            clear mB
            go_wp2
            all_goals go_ret
            all_goals exact ⟨aH (by rw [HF.out, if_neg h0, if_neg h1, if_neg (by rw [H2.out]; simp), HB.out]; simp), hb0.trans (hW.below.mono (by omega))⟩
      · obtain rfl : k = ps.length := by omega
        have hok := aa (yY hd.out)
        have kR : wr.cell? ⟨w.heap.size, 1, none⟩ = some (.slice q ns.length cr) := by
          rw [hW.below.cell (p := ⟨w.heap.size, 1, none⟩) (by simp)]; exact uZ.out
        clear hlt hk hd Ip hcap
        go_wp2
        go_loop [6, 7, 66] (fun _ _ i => ∃ k : Nat, k ≤ ps.length ∧ i = .int .i64 k ∧ Hid (∀ j, j < k → iC ps ns j = 0)) (fun _ _ i => ps.length - (intOf i).toNat)
        case atStart => exact ⟨0, Nat.zero_le _, rfl, fun j hj => absurd hj (Nat.not_lt_zero _)⟩
        case round =>
          obtain ⟨k, hk, rfl, hd⟩ := hrel
          have hlen : ns.length ≤ ps.length ∧ ps.length ≤ ns.length := by have := H2.out; omega
          obtain ⟨eU, hl2⟩ := hlen
          by_cases hlt : k < ps.length
          · obtain ⟨b, off, rfl, hc0⟩ := Ef.out k (by have := H2.out; omega)
            have hpre : aC Any wr (.slice (some ⟨b, off, none⟩) k cr) k (fun j => .string (gs ns j)) := by
              refine ⟨_, _, rfl, by omega, .inr ⟨b, off, rfl, trivial, fun j hj => ?_⟩⟩
              obtain ⟨b', off', e, rO⟩ := Ef.out j (by omega)
              cases e
              rw [hW.below.cell (p := ⟨b, off + j, none⟩) (by have := World.block_lt_of_cell? _ _ rO; have := HS.out; simp at *; omega)]; exact rO
            have hc : wr.cell? ⟨b, off + k, none⟩ = some (.string (gs ns k)) := by
              rw [hW.below.cell (p := ⟨b, off + k, none⟩) (by have := World.block_lt_of_cell? _ _ hc0; have := HS.out; simp at *; omega)]; exact hc0
            clear hc0
            have hi1 := hW.row.cell (i := k) (by omega)
            have hsk : (List.range k).any (fun j => decide (gs ns k = gs ns j)) = dg ns k := by
              unfold dg; congr 1; funext j; exact decide_eq_decide.2 eq_comm
            have Ld := aa hsk
            clear hsk
            have B8 := hz k
            have hne : iC ps ns k = if isIn ps k then (if (gs ns k).size = 0 then 0 else 14) else if aX (gs ns k).data.toList then (if dg ns k then 7 else 0) else 14 := rfl
            have hnil := toList_nil (gs ns k)
            have hend : iC ps ns k ≠ 0 → aB ⟨ps, ns⟩ = iC ps ns k := fun hn0 => by
              rw [HF.out, if_neg h0, if_neg h1, if_neg (by rw [H2.out]; simp), hok.out, if_pos rfl]; exact fk hlt hd.out hn0
            have HE := aa hne
            have gV := aa hend
            have js := aa hnil
            have Le := aa hW
            clear hne hend hnil Ef hz hW
            have hi2 : B3 ps ps.length k = isIn ps k := rfl
            rw [hi2] at hi1
            clear hi2
            generalize hin : isIn ps k = bi at *
            generalize hnm : aX (gs ns k).data.toList = bn at *
            generalize jA : dg ns k = bs at *
            generalize u7 : gs ns k = g at *
            have jM := aa hnm
            clear hin hnm jA u7
            cases bi
            · cases bn
              · go_wp2_with (first | (go_at_call 138; refine (sX _ B8 _).mono ?_; rintro e w' ⟨rfl, rfl⟩; rw [jM.out]) | (go_at_call 32; refine (gw Any _ _ k (fun j => gs ns j) _ hpre (by omega)).mono ?_; rintro e w' ⟨rfl, rfl⟩; rw [Ld.out]))
                go_ret
                exact ⟨aH (by rw [gV.out (by rw [HE.out]; simp), HE.out]; simp), hb0.trans (Le.out.below.mono (by omega))⟩
              · cases bs
                · go_wp2_with (first | (go_at_call 138; refine (sX _ B8 _).mono ?_; rintro e w' ⟨rfl, rfl⟩; rw [jM.out]) | (go_at_call 32; refine (gw Any _ _ k (fun j => gs ns j) _ hpre (by omega)).mono ?_; rintro e w' ⟨rfl, rfl⟩; rw [Ld.out]))
                  go_round
                  case rel => exact ⟨k + 1, by omega, by go_num, fun j hj => if e : j = k then by subst e; rw [HE.out]; simp else hd.out j (by omega)⟩
                  case measure => simp [intOf]; omega
                · go_wp2_with (first | (go_at_call 138; refine (sX _ B8 _).mono ?_; rintro e w' ⟨rfl, rfl⟩; rw [jM.out]) | (go_at_call 32; refine (gw Any _ _ k (fun j => gs ns j) _ hpre (by omega)).mono ?_; rintro e w' ⟨rfl, rfl⟩; rw [Ld.out]))
                  go_ret
                  exact ⟨aH (by rw [gV.out (by rw [HE.out]; simp), HE.out]; simp), hb0.trans (Le.out.below.mono (by omega))⟩
            · by_cases hg0 : g.size = 0
              · have hg1 : g.toList = [] := js.out.2 hg0
                have hg2 : (!g.toList.isEmpty) = false := by simp [hg1]
                have lg := aa hg0
                clear hg0
                go_wp2_with (first | (go_at_call 138; refine (sX _ B8 _).mono ?_; rintro e w' ⟨rfl, rfl⟩; rw [jM.out]) | (go_at_call 32; refine (gw Any _ _ k (fun j => gs ns j) _ hpre (by omega)).mono ?_; rintro e w' ⟨rfl, rfl⟩; rw [Ld.out]))
                go_round
                case rel => exact ⟨k + 1, by omega, by go_num, fun j hj => if e : j = k then by subst e; rw [HE.out]; simp [lg.out] else hd.out j (by omega)⟩
                case measure => simp [intOf]; omega
              · have hg1 : (g.toList == []) = false := by
                  rw [Bool.eq_false_iff]; intro e; exact hg0 (js.out.1 (by simpa using e))
                have hg2 : g.toList.isEmpty = false := by
                  rw [Bool.eq_false_iff]; intro e; exact hg0 (js.out.1 (by simpa using e))
                go_wp2_with (first | (go_at_call 138; refine (sX _ B8 _).mono ?_; rintro e w' ⟨rfl, rfl⟩; rw [jM.out]) | (go_at_call 32; refine (gw Any _ _ k (fun j => gs ns j) _ hpre (by omega)).mono ?_; rintro e w' ⟨rfl, rfl⟩; rw [Ld.out]))
                go_ret
                exact ⟨aH (by rw [gV.out (by rw [HE.out]; simp [hg0]), HE.out]; simp [hg0]), hb0.trans (Le.out.below.mono (by omega))⟩
          · have hk2 : k = ps.length := by omega
            clear hlt
            go_wp2
            go_ret
            exact ⟨aH (by rw [HF.out, if_neg h0, if_neg h1, if_neg (by rw [H2.out]; simp), hok.out, if_pos rfl, dW fun j hj => hd.out j (by omega)]), hb0.trans (hW.below.mono (by omega))⟩
  · have B7 : ((ns.length : Int) != ps.length) = true := by simp; omega
    go_enter Tryz.func87, Tryz.ntmps87
    go_wp2
    go_ret
    exact ⟨aH (by rw [HF.out, if_neg h0, if_neg h1, if_pos h2]), k9⟩
end
end Go.Proofs.YthgabkgmkolobaaGreat
