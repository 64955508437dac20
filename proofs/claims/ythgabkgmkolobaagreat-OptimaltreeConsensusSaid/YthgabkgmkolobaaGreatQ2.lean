/- Names: Letters, IsName, the names of .. -/
import Derived.Shelf.Abstract
import Derived.Maps.AppendAt
import Derived.Deep.AppendLies
import Derived.Test.YthgabkgmkolobaaGreatQ1
set_option maxRecDepth 100000
set_option maxHeartbeats 800000
namespace Go.Proofs.YthgabkgmkolobaaGreat
section
open Go.RowKit Go.Deep
theorem yG (c:UInt8):(fE c.toNat=1\/fE c.toNat=3)↔xe c=true:=by
 unfold fE xe isLet;simp only [s7,eF,decide_eq_true_eq]
 repeat' split
 all_goals simp at *
 all_goals omega
theorem KU (l:List UInt8):o9 l<=l.length:=List.countP_le_length
theorem Xm (l:List UInt8) (c:UInt8):o9 (l++[c])=o9 l+if xe c then 1 else 0:=by
 simp [o9,List.countP_append,List.countP_cons]
theorem Xn (s:ByteArray) (k:Nat) (h:k<s.size):s.data.toList.take (k+1)=s.data.toList.take k++[s[k]]:=by
 rw [jQ (by simpa using h)];rfl
theorem OP (l:List UInt8):o9 l=l.length↔l.all xe=true:=by
 simp [o9,List.countP_eq_length]
theorem Ew (s:ByteArray) (k:Nat) (h:k<s.size):o9 (s.data.toList.take (k+1))=o9 (s.data.toList.take k)+if xe s[k] then 1 else 0:=by
 rw [Xn s k h,Xm]
theorem Xo (s:ByteArray) (hs:s.size<=70000) (w:World):Calls Tryz.prog 183 #[.string s] w fun e w'=>e=.returned (.int .i64 (o9 s.data.toList))/\w=w':=by
 go_in;go_wp2
 go_loop [3,4,5,8] (fun n _ _ i=>∃k:Nat,k<=s.size/\i=.int .i64 k/\n=.int .i64 (o9 (s.data.toList.take k))) (fun _ _ _ i=>s.size - (intOf i).toNat)
 case atStart=>exact ⟨0,aF _,rfl,rfl⟩
 case round =>
  obtain ⟨k,hk,rfl,rfl⟩:=hrel;have hb:o9 (s.data.toList.take k)<=70000:=aB (KU _) (by simp;omega);by_cases hlt:k<s.size
  ·have hst:=Ew s k hlt
   have hk':=yG s[k];have hc:s[k].toNat<256:=s[k].toNat_lt;generalize hm:o9 (s.data.toList.take k)=m at *;have HS:=aa hst;have HK:=aa hk';clear hst hm hk';go_wp2_with (go_at_call 239;refine (afH _ hc _).mono ?_;rintro e w' ⟨rfl,rfl⟩;generalize fE _=q at *)
   all_goals
    go_round
    case rel=>exact ⟨k+1,by omega,by go_num,by rw [HS.out];first | (rw [if_pos (HK.out.1 (by first | omega | (simp only [beq_iff_eq] at *;omega)))];go_num) | (rw [if_neg (fun h=>by have:=HK.out.2 h;simp only [beq_eq_false_iff_ne,ne_eq] at *;omega)];go_num)⟩
    case measure=>simp [intOf];omega
  ·go_wp2
   go_ret;exact ⟨aC (by rw [BW (by simp;omega)]),rfl⟩
theorem yH (s:ByteArray) (hs:s.size<=70000) (w:World):Calls Tryz.prog 128 #[.string s] w fun e w'=>e=.returned (.bool (gN s.data.toList))/\w=w':=by
 have hl:s.data.toList.length=s.size:=by simp
 have ha:=OP s.data.toList;have hle:=KU s.data.toList;have he:s.data.toList=[]↔s.size=0:=by rw [<- xO,hl]
 rw [hl] at ha hle;have HA:=aa ha;have HL:=aa hl;have HE:=aa he;clear ha hl he;have hE1:=toList_nil s;have dK:gN s.data.toList=decide (1<=s.size/\s.size<=16/\o9 s.data.toList=s.size):=by unfold gN;rw [HL.out,mW];simp only [eF,decide_eq_true_eq];rw [<- HA.out,and_assoc]
 have HF:=aa dK;have Ji:=aa hE1;clear dK hE1 HA HL HE;generalize hm:o9 s.data.toList=m at *;have HM:=aa hm;clear hm;go_in;go_wp2_with (go_at_call 183;refine (Xo _ hs _).mono ?_;rintro e w' ⟨rfl,rfl⟩;rw [HM.out])
 all_goals go_ret
 all_goals refine ⟨aO ?_,rfl⟩
 all_goals rw [HF.out]
 ·have:=Ji.out.1 ‹_›;simp;omega
 ·have hne:¬s.size=0:=fun h=>‹¬s.toList=[]› (Ji.out.2 h)
  have Bk:s.toList.isEmpty=false:=by simpa using ‹¬s.toList=[]›
  rw [mW];simp [Bk];omega
 ·simp;omega

theorem aau:xe 42=false:=by decide
theorem Ex (l:List UInt8) (h:l.getLast? = some 42):gN l=false:=by
 obtain ⟨a,rfl⟩:=List.getLast?_eq_some_iff.1 h;simp [gN,aau]
theorem OQ (s:ByteArray) (h1:1<=s.size):(s.extract (s.size - 1) s.size).toList=[42]↔s.data.toList.getLast? = some 42:=by
 have hl:=size_data s;rw [toList_data,Ja,Array.toList_extract,List.extract_eq_take_drop];generalize s.data.toList=l at *;have hne:l≠[]:=by intro e;rw [e] at hl;simp at hl;omega
 rw [<- hl];clear hl h1;obtain ⟨a,x,rfl⟩:∃a x,l=a++[x]:=⟨l.dropLast,l.getLast hne,(List.dropLast_concat_getLast hne).symm⟩;simp
theorem OS (s:ByteArray):(s.extract 0 (s.size - 1)).data.toList=s.data.toList.dropLast:=by
 have hl:=size_data s;rw [Ja,Array.toList_extract,List.extract_eq_take_drop,List.dropLast_eq_take,hl];simp
def aeb (s:ByteArray) (e:Ending):Prop:=(s.data.toList.getLast? = some 42/\∃r:ByteArray,r.size<=s.size/\r.data.toList=s.data.toList.dropLast/\e=.returned (.tuple #[.string r,.bool true]))\/(s.data.toList.getLast? ≠ some 42/\e=.returned (.tuple #[.string s,.bool false]))
theorem aav (s:ByteArray) (hs:s.size<=70000) (w:World):Calls Tryz.prog 197 #[.string s,.string ⟨#[42]⟩] w fun e w'=>aeb s e/\w=w':=by
 by_cases h0:s.size=0
 ·have hc:s.data.toList=[]:=by rw [<- toList_data];exact (toList_nil s).2 h0
  have HC:=aa hc;clear hc;go_in;go_wp2;go_ret2;exact ⟨.inr ⟨by rw [HC.out];simp,rfl⟩,rfl⟩
 ·have h1:1<=s.size:=by omega
  clear h0;go_in;go_wp2
  ·go_ret2
   refine ⟨.inr ⟨fun e=>?_,rfl⟩,rfl⟩;have:=(OQ s h1).2 e;simp_all
  ·go_ret2
   have h2:=‹(!(s.extract (s.size - 1) s.size).toList==[42])=false›;exact ⟨.inl ⟨(OQ s h1).1 (by simpa using h2),s.extract 0 (s.size - 1),by simp,OS s,rfl⟩,rfl⟩
theorem B4 (s:ByteArray) (hs:s.size<=70000) (w:World):Calls Tryz.prog 138 #[.string s] w fun e w'=>e=.returned (.bool (bq s.data.toList))/\w=w':=by
 have hl:=size_data s;have HL:=aa hl;clear hl;go_in;go_wp2_with fail;refine (aav s hs _).mono ?_;rintro e w' ⟨⟨h1,r,hr,hd,rfl⟩ | ⟨h1,rfl⟩,rfl⟩
 ·have hf:bq s.data.toList=(decide (s.size<=16)&&gN r.data.toList):=by
   unfold bq;rw [if_pos h1,hd,HL.out,Bool.and_comm]
  have HF:=aa hf
  clear hf hd h1
  go_wp2_with (go_at_call 128;refine (yH r (by omega) _).mono ?_;rintro e w' ⟨rfl,rfl⟩)
  all_goals
   go_ret
   refine ⟨aO ?_,rfl⟩
   rw [HF.out,mW]
   simp at *
   try omega
 ·have hf:bq s.data.toList=gN s.data.toList:=by unfold bq;rw [if_neg h1]
  have HF:=aa hf;clear hf h1;go_wp2_with (go_at_call 128;refine (yH s hs _).mono ?_;rintro e w' ⟨rfl,rfl⟩);go_ret;exact ⟨aO (by rw [HF.out]),rfl⟩
theorem KV {x y:ByteArray} (h:(x.toList==y.toList)=true):x=y:=by
 rw [beq_iff_eq,toList_data,toList_data] at h;exact yD h
theorem OT {x y:ByteArray} (h:(x.toList==y.toList)=false):¬x=y:=by
 rintro rfl;simp at h
theorem Bl (S:Nat->Prop) (w:World) (v:Value) (n:Nat) (f:Nat->ByteArray) (x:ByteArray) (h:aq S w v n (fun k=>.string (f k))) (hn:n<=1000000) :
  Calls Tryz.prog 95 #[v,.string x] w fun e w'=>e=.returned (.int .i64 (dr (fun j=>decide (x=f j)) n))/\w=w':=by
 obtain ⟨p,cap,rfl,hcap,H⟩:=h.open;clear h;go_in;go_wp2
 go_loop [5,8] (fun _ i=>∃k:Nat,k<=n/\i=.int .i64 k/\Hid (∀j,j<k->decide (x=f j)=false)) (fun _ i=>n - (intOf i).toNat)
 case atStart=>exact ⟨0,aF _,rfl,fun j hj=>absurd hj (aZ _)⟩
 case round =>
  obtain ⟨k,hk,rfl,hd⟩:=hrel;by_cases hlt:k<n
  ·obtain ⟨b,off,rfl,hc⟩:=H k hlt
   clear H;go_wp2
   ·have hx:=KV ‹(x.toList==(f k).toList)=true›
    go_ret;exact ⟨aC (gG (p:=fun j=>decide (x=f j)) hlt hd.out (by simpa using hx)).symm,rfl⟩
   ·have hx:=OT ‹(x.toList==(f k).toList)=false›
    go_round
    case rel=>exact ⟨k+1,by omega,by go_num,fun j hj=>if e:j=k then by subst e;simpa using hx else hd.out j (by omega)⟩
    case measure=>simp [intOf];omega
  ·clear H
   go_wp2;go_ret;exact ⟨aC (dZ fun j hj=>hd.out j (by omega)).symm,rfl⟩
theorem jU (S:Nat->Prop) (w:World) (v:Value) (n:Nat) (f:Nat->ByteArray) (x:ByteArray) (h:aq S w v n (fun k=>.string (f k))) (hn:n<=1000000) :
  Calls Tryz.prog 32 #[v,.string x] w fun e w'=>e=.returned (.bool ((List.range n).any fun j=>decide (x=f j)))/\w=w':=by
 have hx:=iK (fun j=>decide (x=f j)) n;have HX:=aa hx;clear hx;go_in;go_wp2_with (go_at_call 95;refine (Bl S w v n f x h hn).mono ?_;rintro e w' ⟨rfl,rfl⟩);go_ret;exact ⟨aO (by rw [<- HX.out]),rfl⟩
def Hp (g:Nat) (lb args:Array Value) (res:Value) (w:World):Prop:=Calls Tryz.prog g (args++lb) w fun e w'=>e=.returned res/\w=w'
theorem Xp (g:Nat) (lb:Array Value) (eg:∀args w,(callFunc g args).run Tryz.prog w=.ok (.enter g args) w) (S:Nat->Prop) (w:World) (v:Value) (n:Nat) (f:Nat->Value) (p:Nat->Bool)
  (h:aq S w v n f) (hn:n<=1000000) (hp:∀k,k<n->Hp g lb #[f k] (.bool (p k)) w) :
  Calls Tryz.prog 117 #[v,.func (.func g) #[] lb] w fun e w'=>e=.returned (.int .i64 (dr p n))/\w=w':=by
 obtain ⟨q,cap,rfl,hcap,H⟩:=h.open;have HP:=aa hp;clear h hp;go_in;go_wp2
 go_loop [5,8] (fun _ i=>∃k:Nat,k<=n/\i=.int .i64 k/\Hid (∀j,j<k->p j=false)) (fun _ i=>n - (intOf i).toNat)
 case atStart=>exact ⟨0,aF _,rfl,fun j hj=>absurd hj (aZ _)⟩
 case round =>
  obtain ⟨k,hk,rfl,hd⟩:=hrel;by_cases hlt:k<n
  ·obtain ⟨b,off,rfl,hc⟩:=H k hlt
   clear H;have hpk:=HP.out k hlt;unfold Hp at hpk;have r8:=aa hpk;clear hpk HP;generalize hv:p k=pk at *;have HV:=aa hv;clear hv;cases pk
   ·go_wp2_with fail
    refine r8.out.mono ?_;rintro e w' ⟨rfl,rfl⟩;go_wp2
    go_round
    case rel=>exact ⟨k+1,by omega,by go_num,fun j hj=>if e:j=k then by subst e;exact HV.out else hd.out j (by omega)⟩
    case measure=>simp [intOf];omega
   ·go_wp2_with fail
    refine r8.out.mono ?_;rintro e w' ⟨rfl,rfl⟩;go_wp2;go_ret;exact ⟨aC (gG hlt hd.out HV.out).symm,rfl⟩
  ·clear H
   go_wp2;go_ret;exact ⟨aC (dZ fun j hj=>hd.out j (by omega)).symm,rfl⟩
theorem Jj (g:Nat) (lb:Array Value) (eg:∀args w,(callFunc g args).run Tryz.prog w=.ok (.enter g args) w) (S:Nat->Prop) (w:World) (v:Value) (n:Nat) (f:Nat->Value) (p:Nat->Bool)
  (h:aq S w v n f) (hn:n<=1000000) (hp:∀k,k<n->Hp g lb #[f k] (.bool (p k)) w) :
  Calls Tryz.prog 63 #[v,.func (.func g) #[] lb] w fun e w'=>e=.returned (.bool ((List.range n).any p))/\w=w':=by
 have hx:=iK p n;have HX:=aa hx;have HI:=aa (Xp g lb eg S w v n f p h hn hp);clear hx hp h eg;go_in;go_wp2_with fail;refine HI.out.mono ?_;rintro e w' ⟨rfl,rfl⟩;go_wp2;go_ret;exact ⟨aO (by rw [<- HX.out]),rfl⟩
theorem Tryz.aik:(Tryz.prog.info? 4).map (fun i=>(i.zero,i.size,i.bytes))=some (some (.bool false),1,1):=by kernel_rfl
structure Gt (w0 wr:World) (B n:Nat) (f:Nat->Bool):Prop where
 below:Below B w0 wr
 row:wr.rowIs B 4 n (fun j=>.bool (f j))
 size:wr.heap.size=B+1
theorem Gt.start (w0:World) (n:Nat) (f:Nat->Bool) (hf:∀j,f j=false):Gt w0 (w0.alloc (.cells (madeCells #[.bool false] n) 4)) w0.heap.size n f :=
 ⟨(cM _ _).alloc (ah _) _,(World.rowIs_made w0 _ n _).congr fun i _=>by simp [hf],by simp⟩
theorem Gt.set {w0 wr:World} {B n q:Nat} {f g:Nat->Bool} (h:Gt w0 wr B n f) (hg:∀j,g j=(f j || decide (j=q))) :
  Gt w0 (wr.setCell ⟨B,q,none⟩ (.bool true)) B n g :=
 ⟨h.below.setCell (p:=⟨B,q,none⟩) (ah _) _,(h.row.set q _).congr fun i _=>by
  by_cases e:i=q
  ·simp [e,hg]
  ·simp [e,hg],by simp [h.size]⟩
theorem Gt.congr {w0 wr:World} {B n:Nat} {f g:Nat->Bool} (h:Gt w0 wr B n f) (hg:∀j,g j=f j):Gt w0 wr B n g :=
 ⟨h.below,h.row.congr fun i _=>by simp [hg],h.size⟩
theorem yj (S:Nat->Prop) (w:World) (v:Value) (t:ax) (h:aG S w v t) (hp:t.ps.length<=1000000) (hn:t.ns.length<=1000000) (hz:∀k,(gs t.ns k).size<=70000) :
  Calls Tryz.prog 87 #[v] w fun e w'=>e=.returned (.int .i64 (aA t))/\Below w.heap.size w w':=by
 obtain ⟨P,N,rfl,hP,hN⟩:=h;obtain ⟨ps,ns⟩:=t;simp only at *;have dK:aA ⟨ps,ns⟩=if ps.length=0 then 5 else if 64<ps.length then 4 else if ns.length≠ps.length then 9 else if jB ps then bf (mg ps ns) ps.length else 2:=rfl
 have HF:=aa dK;clear dK;have Xq:=hP.keep (Kept.below ((cM _ w).alloc (ah _) (.cells #[P,N] 39)));have Xr:=hN.keep (Kept.below ((cM _ w).alloc (ah _) (.cells #[P,N] 39)));clear hP hN;obtain ⟨p,cap,rfl,hcap,HP⟩:=aq.open Xq;obtain ⟨q,dF,rfl,xP,HN⟩:=aq.open Xr;have gX:Below w.heap.size w (w.alloc (.cells #[.slice p ps.length cap,.slice q ns.length dF] 39)):=(cM _ _).alloc (ah _) _;have Ty:=aa HP;have OU:=aa HN;clear Xq Xr HP HN;by_cases h0:ps.length=0
 ·have HX:Hid (ps.length=0):=h0
  have h0':((ps.length:Int)==0)=true:=by simp [h0]
  clear h0;go_in;go_wp2;go_ret;exact ⟨aC (by rw [HF.out,if_pos HX.out]),gX⟩
 have h0':((ps.length:Int)==0)=false:=by simpa using h0
 by_cases h1:64<ps.length
 ·go_in
  go_wp2;go_ret;exact ⟨aC (by rw [HF.out,if_neg h0,if_pos h1]),gX⟩
 by_cases h2:ns.length=ps.length
 ·have Xt:((ns.length:Int) != ps.length)=false:=by simp [h2]
  have H2:=aa h2;clear h2;have hmk:=fun W=>run_make_row' (P:=Tryz.prog) 163 4 (.bool false) 1 Tryz.underlying163 Tryz.aik rfl .i64 .i64 ps.length (by omega) (by omega) W;go_in;go_wp2;clear hmk gX;have hstart:=Gt.start (w.alloc (.cells #[.slice p ps.length cap,.slice q ns.length dF] 39)) ps.length (fun j=>Gq ps 0 j) (fun j=>rfl);rw [aQ] at hstart;have qw:(w.alloc (.cells #[.slice p ps.length cap,.slice q ns.length dF] 39)).cell? ⟨w.heap.size,0,none⟩=some (.slice p ps.length cap):=by simp [World.cell?_alloc_new]
  have tI:(w.alloc (.cells #[.slice p ps.length cap,.slice q ns.length dF] 39)).cell? ⟨w.heap.size,1,none⟩=some (.slice q ns.length dF):=by simp [World.cell?_alloc_new]
  have hb0:Below w.heap.size w (w.alloc (.cells #[.slice p ps.length cap,.slice q ns.length dF] 39)):=(cM _ _).alloc (ah _) _;have hsz:(w.alloc (.cells #[.slice p ps.length cap,.slice q ns.length dF] 39)).heap.size=w.heap.size+1:=by simp
  generalize hw0:w.alloc (.cells #[.slice p ps.length cap,.slice q ns.length dF] 39)=w0 at *;clear hw0;have HS:=aa hsz;have Ey:=aa qw;have Jk:=aa tI;clear hsz qw tI
  go_loopw [4,5,33] (fun _ _ i wr=>∃k:Nat,k<=ps.length/\i=.int .i64 k/\Hid (∀j,j<k->oJ j (gi ps j)=true)/\Gt w0 wr (w.heap.size+1) ps.length (fun j=>Gq ps k j)) (fun _ _ i _=>ps.length - (intOf i).toNat)
  case atStart=>exact ⟨0,aF _,rfl,fun j hj=>absurd hj (aZ _),hstart⟩
  case round =>
   obtain ⟨k,hk,rfl,hd,hW⟩:=hrel;clear hstart;by_cases hlt:k<ps.length
   ·obtain ⟨b,off,rfl,hc0⟩:=Ty.out k hlt
    (have hc:wr.cell? ⟨b,off+k,none⟩=some (.int .i64 (gi ps k)):=by rw [hW.below.cell (p:=⟨b,off+k,none⟩) (by have:=dL _ _ hc0;have:=HS.out;simp at *;omega)];exact hc0);clear hc0;generalize hpk:gi ps k=x at *;have HX:=aa hpk;clear hpk;by_cases hg:0<k/\0<=x/\x<k
    ·obtain ⟨g1,g2,g3⟩:=hg
     obtain ⟨y,rfl⟩:=oa g2;have hi1:=hW.row.cell (i:=y) (by omega);have hi2:=hW.row.frozen y;go_wp2
     go_roundw
     case rel=>exact ⟨k+1,by omega,by go_num,fun j hj=>if e:j=k then by subst e;rw [HX.out];unfold oJ;rw [if_neg (by omega)];simp;omega else hd.out j (by omega),hW.set (q:=y) fun j=>by rw [OB,HX.out];simp only [g1,decide_true,Bool.true_and];congr 1;rw [mW];simp;omega⟩
     case measure=>simp [intOf];omega
    ·by_cases Jl:k=0/\x = -1
     ·obtain ⟨rfl,rfl⟩:=Jl
      (have hc':wr.cell? ⟨b,off,none⟩=some (.int .i64 (-1)):=by simpa using hc);go_wp2
      go_roundw
      case rel=>exact ⟨1,by omega,by go_num,fun j hj=>by obtain rfl:j=0:=(by omega);rw [HX.out];rfl,hW.congr fun j=>by rw [OB];simp⟩
      case measure=>simp [intOf];omega
     ·have qT:oJ k x=false:=by
       unfold oJ;split
       ·rename_i e;simp;exact fun e2=>Jl ⟨e,e2⟩
       ·simp;intro;omega
      rw [<- HX.out] at qT
      have HB:=aa (OC hlt qT)
      clear qT
      go_wp2
      all_goals go_ret
      all_goals exact ⟨aC (by rw [HF.out,if_neg h0,if_neg h1,if_neg (by rw [H2.out];simp),HB.out];simp),hb0.trans (hW.below.mono (by omega))⟩
   ·obtain rfl:k=ps.length:=by omega
    have hok:=aa (Hj hd.out);(have qx:wr.cell? ⟨w.heap.size,1,none⟩=some (.slice q ns.length dF):=by rw [hW.below.cell (p:=⟨w.heap.size,1,none⟩) (by simp)];exact Jk.out);clear hlt hk hd Ty hcap;go_wp2
    go_loop [6,7,66] (fun _ _ i=>∃k:Nat,k<=ps.length/\i=.int .i64 k/\Hid (∀j,j<k->mg ps ns j=0)) (fun _ _ i=>ps.length - (intOf i).toNat)
    case atStart=>exact ⟨0,aF _,rfl,fun j hj=>absurd hj (aZ _)⟩
    case round =>
     obtain ⟨k,hk,rfl,hd⟩:=hrel;(have hlen:ns.length<=ps.length/\ps.length<=ns.length:=by have:=H2.out;omega);obtain ⟨jC,hl2⟩:=hlen;by_cases hlt:k<ps.length
     ·obtain ⟨b,off,rfl,hc0⟩:=OU.out k (by have:=H2.out;omega)
      (have hpre:aq Any wr (.slice (some ⟨b,off,none⟩) k dF) k (fun j=>.string (gs ns j)):=by refine ⟨_,_,rfl,by omega,.inr ⟨b,off,rfl,trivial,fun j hj=>?_⟩⟩;obtain ⟨b',off',e,B5⟩:=OU.out j (by omega);cases e;rw [hW.below.cell (p:=⟨b,off+j,none⟩) (by have:=dL _ _ B5;have:=HS.out;simp at *;omega)];exact B5);(have hc:wr.cell? ⟨b,off+k,none⟩=some (.string (gs ns k)):=by rw [hW.below.cell (p:=⟨b,off+k,none⟩) (by have:=dL _ _ hc0;have:=HS.out;simp at *;omega)];exact hc0);clear hc0;have hi1:=hW.row.cell (i:=k) (by omega);(have hsk:(List.range k).any (fun j=>decide (gs ns k=gs ns j))=cW ns k:=by unfold cW;congr 1;funext j;exact decide_eq_decide.2 eq_comm);have Ac:=aa hsk;clear hsk;have L8:=hz k;(have hne:mg ps ns k=if isIn ps k then (if (gs ns k).size=0 then 0 else 14) else if bq (gs ns k).data.toList then (if cW ns k then 7 else 0) else 14:=rfl);have hnil:=toList_nil (gs ns k);(have hend:mg ps ns k≠0->aA ⟨ps,ns⟩=mg ps ns k:=fun hn0=>by rw [HF.out,if_neg h0,if_neg h1,if_neg (by rw [H2.out];simp),hok.out,if_pos rfl];exact eX hlt hd.out hn0);have HE:=aa hne;have Hq:=aa hend;have tu:=aa hnil;have qU:=aa hW;clear hne hend hnil OU hz hW;have hi2:Gq ps ps.length k=isIn ps k:=rfl;rw [hi2] at hi1;clear hi2;generalize hin:isIn ps k=bi at *;generalize hnm:bq (gs ns k).data.toList=bn at *;generalize B6:cW ns k=bs at *;generalize Gu:gs ns k=g at *;have ij:=aa hnm;clear hin hnm B6 Gu;cases bi
      ·cases bn
       ·go_wp2_with (first | (go_at_call 138;refine (B4 _ L8 _).mono ?_;rintro e w' ⟨rfl,rfl⟩;rw [ij.out]) | (go_at_call 32;refine (jU Any _ _ k (fun j=>gs ns j) _ hpre (by omega)).mono ?_;rintro e w' ⟨rfl,rfl⟩;rw [Ac.out]))
        go_ret;exact ⟨aC (by rw [Hq.out (by rw [HE.out];simp),HE.out];simp),hb0.trans (qU.out.below.mono (by omega))⟩
       ·cases bs
        ·go_wp2_with (first | (go_at_call 138;refine (B4 _ L8 _).mono ?_;rintro e w' ⟨rfl,rfl⟩;rw [ij.out]) | (go_at_call 32;refine (jU Any _ _ k (fun j=>gs ns j) _ hpre (by omega)).mono ?_;rintro e w' ⟨rfl,rfl⟩;rw [Ac.out]))
         go_round
         case rel=>exact ⟨k+1,by omega,by go_num,fun j hj=>if e:j=k then by subst e;rw [HE.out];simp else hd.out j (by omega)⟩
         case measure=>simp [intOf];omega
        ·go_wp2_with (first | (go_at_call 138;refine (B4 _ L8 _).mono ?_;rintro e w' ⟨rfl,rfl⟩;rw [ij.out]) | (go_at_call 32;refine (jU Any _ _ k (fun j=>gs ns j) _ hpre (by omega)).mono ?_;rintro e w' ⟨rfl,rfl⟩;rw [Ac.out]))
         go_ret;exact ⟨aC (by rw [Hq.out (by rw [HE.out];simp),HE.out];simp),hb0.trans (qU.out.below.mono (by omega))⟩
      ·by_cases hg0:g.size=0
       ·have hg1:g.toList=[]:=tu.out.2 hg0
        (have hg2:(!g.toList.isEmpty)=false:=by simp [hg1]);have ue:=aa hg0;clear hg0;go_wp2_with (first | (go_at_call 138;refine (B4 _ L8 _).mono ?_;rintro e w' ⟨rfl,rfl⟩;rw [ij.out]) | (go_at_call 32;refine (jU Any _ _ k (fun j=>gs ns j) _ hpre (by omega)).mono ?_;rintro e w' ⟨rfl,rfl⟩;rw [Ac.out]))
        go_round
        case rel=>exact ⟨k+1,by omega,by go_num,fun j hj=>if e:j=k then by subst e;rw [HE.out];simp [ue.out] else hd.out j (by omega)⟩
        case measure=>simp [intOf];omega
       ·have hg1:(g.toList==[])=false:=by
         rw [rN];intro e;exact hg0 (tu.out.1 (by simpa using e))
        have hg2:g.toList.isEmpty=false:=by
         rw [rN];intro e;exact hg0 (tu.out.1 (by simpa using e))
        go_wp2_with (first | (go_at_call 138;refine (B4 _ L8 _).mono ?_;rintro e w' ⟨rfl,rfl⟩;rw [ij.out]) | (go_at_call 32;refine (jU Any _ _ k (fun j=>gs ns j) _ hpre (by omega)).mono ?_;rintro e w' ⟨rfl,rfl⟩;rw [Ac.out]))
        go_ret
        exact ⟨aC (by rw [Hq.out (by rw [HE.out];simp [hg0]),HE.out];simp [hg0]),hb0.trans (qU.out.below.mono (by omega))⟩
     ·have hk2:k=ps.length:=by omega
      clear hlt;go_wp2;go_ret;exact ⟨aC (by rw [HF.out,if_neg h0,if_neg h1,if_neg (by rw [H2.out];simp),hok.out,if_pos rfl,cG fun j hj=>hd.out j (by omega)]),hb0.trans (hW.below.mono (by omega))⟩
 ·have Xt:((ns.length:Int) != ps.length)=true:=by simp;omega
  go_in;go_wp2;go_ret;exact ⟨aC (by rw [HF.out,if_neg h0,if_neg h1,if_pos h2]),gX⟩
def au (base:Nat) (e:TypeId) (w:World) (v:Value) (vs:List Value):Prop:=w.ownsRow base e 1 v vs.length vs
theorem au.nil (base:Nat) (e:TypeId) (w:World):au base e w (.slice none 0 0) []:=World.ownsRow_nil _ _ _ _
theorem aq.congr {S:Nat->Prop} {w:World} {v:Value} {n:Nat} {f g:Nat->Value} (h:aq S w v n f) (e:∀k,k<n->f k=g k):aq S w v n g:=by
 obtain ⟨p,cap,rfl,hn,h⟩:=h;refine ⟨p,cap,rfl,hn,?_⟩;rcases h with h | ⟨b,off,rfl,hS,h⟩
 ·exact .inl h
 ·exact .inr ⟨b,off,rfl,hS,fun k hk=>by rw [<- e k hk];exact h k hk⟩
theorem au.uf {base:Nat} {e:TypeId} {w:World} {v:Value} {vs:List Value} (h:au base e w v vs):aq (fun b=>base<=b) w v vs.length (fun k=>vs.getD k undef):=by
 rcases h.2 with ⟨rfl,h0⟩ | ⟨g,cap,cur,rfl,hg,hc,hn,_,_,ht⟩
 ·exact ⟨none,0,by rw [h0],by omega,.inl h0⟩
 ·refine ⟨_,cap,rfl,hn,.inr ⟨g,0,rfl,hg,fun k hk=>?_⟩⟩
  have:=World.ownsRow.cells h (g:=g) rfl k vs[k] (by simp [hk]);have Hr:(⟨g,0,none⟩:Addr).add k=⟨g,0+k,none⟩:=by unfold Addr.add;split<;>simp_all
  rw [Hr] at this;rw [this];simp [hk]
theorem au.ints {base:Nat} {e:TypeId} {w:World} {v:Value} {xs:List Int} (h:au base e w v (xs.map (Value.int .i64))):af (fun b=>base<=b) w v xs:=by
 have:=h.uf;rw [aD] at this;exact this.congr fun k hk=>by simp [gi,hk]
theorem au.strs {base:Nat} {e:TypeId} {w:World} {v:Value} {xs:List ByteArray} (h:au base e w v (xs.map Value.string)):aj (fun b=>base<=b) w v xs:=by
 have:=h.uf;rw [aD] at this;exact this.congr fun k hk=>by simp [gs,hk]
theorem au.kept {base:Nat} {e:TypeId} {w w':World} {v:Value} {vs:List Value} (h:au base e w v vs) (k:∀b,base<=b->b<w.heap.size->w'.heap[b]? = w.heap[b]?):au base e w' v vs:=by
 refine ⟨h.1,?_⟩;rcases h.2 with h0 | ⟨g,cap,cur,rfl,hg,hc,hr⟩
 ·exact .inl h0
 ·have hlt:g<w.heap.size:=by
   rcases Nat.lt_or_ge g w.heap.size with h1 | h1
   ·exact h1
   ·rw [OA h1] at hc;cases hc
  exact .inr ⟨g,cap,cur,rfl,hg,(k g hg hlt).trans hc,hr⟩
theorem au.alloc {base:Nat} {e:TypeId} {w:World} {v:Value} {vs:List Value} (h:au base e w v vs) (o:Obj):au base e (w.alloc o) v vs:=World.ownsRow.alloc h o
theorem lM {w w':World} {o:Obj} {row:Option Nat} (h:(w.alloc o).grownBy w' row):w.grownBy w' row :=
 ⟨h.os,h.tape,h.output,aB (by simp) h.size,fun k hk hne=>(h.block k (by simp;omega) hne).trans (En w o k hk)⟩
theorem au.fF {base:Nat} {e:TypeId} {w w':World} {v:Value} {vs:List Value} (h:au base e w v vs) (hg:w.grownBy w' v.ownBlock) (hb:base<=w.heap.size):Below base w w' :=
 (cM base w).grown hg hb fun k hk=>(sJ h k hk).1
section
variable {P:Program} {ops:Array Oper} {rest:List Oper} {o:Oper} {a:Act} {Q:Exit->Act->World->Prop}
theorem nK (W:World) (hgd:o.guard=none) (s x:Operand) (t:TypeId) (ho:o.op=.call { callee:=.builtin .append,args:=#[s,x],argTypes:=#[t,t] })
  (base:Nat) (e:TypeId) (z:Value) (bytes:Nat) (ht:P.underlying t=some (.slice e)) (hinfo:(P.info? e).map (fun i=>(i.zero,i.size,i.bytes))=some (some z,1,bytes))
  (hz1:z.cells.size=1) (lN:bytes<=64) {v:Value} {vs:List Value} (hown:au base e W v vs) (hs:a.eval s=v) (u:Value)
  (hx:a.eval x=.slice (some ⟨W.heap.size,0,none⟩) 1 1) (h1:u.oneCell'=true) (hn:vs.length<=1000000) (hbase:base<=W.heap.size)
  (h:∀g cap w',au base e w' (.slice (some ⟨g,0,none⟩) (vs.length+1) cap) (vs++[u])->W.grownBy w' v.ownBlock->Below base W w'->wpList P ops Q rest (a.put o.dst (.slice (some ⟨g,0,none⟩) (vs.length+1) cap)) w') :
  wpList P ops Q (o::rest) a (W.alloc (.cells #[u] e)):=by
 obtain ⟨i,hi,hzz⟩:=jR.1 hinfo;simp only [kX] at hzz;obtain ⟨hz,hs1,hb⟩:=hzz;refine wpList_append_lies _ hgd s x t ho base e i z 1 bytes ht hi hz hs1 hb hz1 (by omega) v vs.length vs hs (hown.alloc _) ⟨W.heap.size,0,none⟩ 1 1 [u] hx rfl (cell_one_new _ _ _) (by simpa using h1) (by omega)
  (by unfold maxLen;omega) ?_ (by simp;omega) _ rfl fun g cap w' h2 h3 _ _=>h g cap w' ?_ (lM h3) (hown.fF (lM h3) hbase)
 ·have:(vs.length+1)*bytes<=(vs.length+1)*64:=qO _ lN
  omega
 ·unfold au;rw [bg];exact h2
end
theorem Tryz.iD:(Tryz.prog.info? 3).map (fun i=>(i.zero,i.size,i.bytes))=some (some (.int .i64 0),1,8):=by kernel_rfl
def OV (w:World) (t:ax) (e:Ending) (w':World):Prop :=
 Below w.heap.size w w'/\((aA t≠0/\e=.returned (.tuple #[.slice none 0 0,.int .i64 1])) \/
  (aA t=0/\∃v,e=.returned (.tuple #[v,.int .i64 0])/\af (fun b=>w.heap.size<=b) w' v (ay t.ns)))
theorem CY (S:Nat->Prop) (w:World) (v:Value) (t:ax) (h:aG S w v t) (hp:t.ps.length<=1000000) (hn:t.ns.length<=1000000) (hz:∀k,(gs t.ns k).size<=70000) :
  Calls Tryz.prog 30 #[v] w (OV w t):=by
 obtain ⟨P,N,rfl,hP,hN⟩:=h;have Ad:aG S (w.alloc (.cells #[P,N] 39)) (.agg #[P,N]) t:=aG.keep ⟨P,N,rfl,hP,hN⟩ (Kept.below ((cM _ w).alloc (ah _) _));have hb0:Below w.heap.size w (w.alloc (.cells #[P,N] 39)):=(cM _ _).alloc (ah _) _;have tI:(w.alloc (.cells #[P,N] 39)).cell? ⟨w.heap.size,1,none⟩=some N:=by simp [World.cell?_alloc_new]
 have Es:=yj S (w.alloc (.cells #[P,N] 39)) _ t Ad hp hn hz;rw [aQ] at Es;have gw:=aa Es;have Jk:=aa tI;have mz:=aa hb0;have HN:=aa hN;clear Es tI hb0 Ad hP hN;by_cases he:aA t=0
 ·go_in
  go_wp2_with fail;refine gw.out.mono ?_;rintro e w1 ⟨rfl,hb1⟩;have iE:Below w.heap.size w w1:=mz.out.trans (hb1.mono (by omega));have Jm:=HN.out.keep (Kept.below iE);have tI:w1.cell? ⟨w.heap.size,1,none⟩=some N:=(hb1.cell (p:=⟨w.heap.size,1,none⟩) (by simp)).trans Jk.out;obtain ⟨q,dF,rfl,xP,OW⟩:=aq.open Jm;have OX:=aa OW;have Xu:w.heap.size<=w1.heap.size:=iE.size;have HE:=aa he;rw [he];clear OW Jm gw Jk mz HN hb1 he;go_wp2
  go_loopw [4,5,6,13] (fun v _ _ i wr=>∃k:Nat,k<=t.ns.length/\i=.int .i64 k/\au w1.heap.size 3 wr v ((jI t.ns k).map (Value.int .i64))/\Below w1.heap.size w1 wr) (fun _ _ _ i _=>t.ns.length - (intOf i).toNat)
  case atStart=>exact ⟨0,aF _,rfl,au.nil _ _ _,cM _ _⟩
  case round =>
   obtain ⟨k,hk,rfl,hown,hbr⟩:=hrel;by_cases hlt:k<t.ns.length
   ·obtain ⟨b,off,rfl,hc0⟩:=OX.out k hlt
    (have hc:wr.cell? ⟨b,off+k,none⟩=some (.string (gs t.ns k)):=by rw [hbr.cell (p:=⟨b,off+k,none⟩) (dL _ _ hc0)];exact hc0);have hsz:=hbr.size;have ni:=yE t.ns k;have uQ:=Bi t.ns k;have hnil:=toList_nil (gs t.ns k);have tu:=aa hnil;have sM:=aa ni;(have dG:Hid (((jI t.ns k).map (Value.int .i64)).length<=1000000):=by unfold Hid;rw [aD];omega);clear hc0 hnil ni uQ OX hz;generalize Gu:gs t.ns k=g at *;clear Gu;by_cases hg0:g.size=0
    ·have hg1:g.toList=[]:=tu.out.2 hg0
     have ue:=aa hg0;clear hg0;go_wp2
     go_roundw
     case rel=>exact ⟨k+1,by omega,by go_num,by rw [sM.out,if_pos ue.out,eG];exact hown,hbr⟩
     case measure=>simp [intOf];omega
    ·have hg1:(g.toList==[])=false:=by
      rw [rN];intro e;exact hg0 (tu.out.1 (by simpa using e))
     have hg2:(g.toList != [])=true:=by
      rw [bne_iff_ne];intro e;exact hg0 (tu.out.1 (by simpa using e))
     have ue:=aa hg0
     clear hg0
     go_wp2_with (at_builtin;refine nK wr rfl _ _ 26 rfl w1.heap.size 3 _ 8 Tryz.underlying26 Tryz.iD rfl (by decide) hown rfl _ rfl rfl dG.out hsz ?_;intro g cap w2 hown1 hg1 hb1)
     go_roundw
     case rel=>exact ⟨k+1,by omega,by go_num,by rw [sM.out,if_neg ue.out,cg];rw [aD] at hown1;exact hown1,hbr.trans hb1⟩
     case measure=>simp [intOf];omega
   ·obtain rfl:k=t.ns.length:=by omega
    clear hlt hk OX;go_wp2;go_ret2;exact ⟨iE.trans (hbr.mono Xu),.inr ⟨HE.out,_,rfl,hown.ints.sub fun b hb _=>aB Xu hb⟩⟩
 ·have he':(aA t != 0)=true:=by simpa using he
  have HE:=aa he;clear he;go_in;go_wp2_with fail;refine gw.out.mono ?_;rintro e w1 ⟨rfl,hb1⟩;go_wp2;go_ret2;exact ⟨mz.out.trans (hb1.mono (by omega)),.inl ⟨HE.out,rfl⟩⟩
def StI (e:Ending) (w':World) (w:World) (n:Int):Prop:=e=.returned (.int .i64 n)/\Below w.heap.size w w'
theorem aaw (w:World) (b1 b2:Nat) (x lo hi:Int) (h1:w.cell? ⟨b1,0,none⟩=some (.int .i64 lo)) (h2:w.cell? ⟨b2,0,none⟩=some (.int .i64 hi)) :
  Hp 229 #[.pointer (some ⟨b1,0,none⟩),.pointer (some ⟨b2,0,none⟩)] #[.int .i64 x] (.bool (decide (x<lo) || decide (hi<=x))) w:=by
 unfold Hp;go_in;by_cases hx:x<lo
 ·go_wp2
  go_ret;exact ⟨aO (by simp [hx]),rfl⟩
 ·go_wp2
  go_ret;exact ⟨aO (by simp;omega),rfl⟩
theorem aec (S:Nat->Prop) (w:World) (v:Value) (st:List Int) (n:Nat) (lo hi:Int) (h:af S w v st) (hn:st.length<=1000000) :
  Calls Tryz.prog 168 #[v,.int .i64 n,.int .i64 lo,.int .i64 hi] w fun e w'=>StI e w' w (tr st n lo hi):=by
 have dK:tr st n lo hi=if st.length≠n then 9 else if rR st lo hi then 2 else 0:=rfl
 have HF:=aa dK;have hb:Below w.heap.size w ((w.alloc (.cells #[.int .i64 lo] 3)).alloc (.cells #[.int .i64 hi] 3)):=((cM _ _).alloc (ah _) _).alloc (by simp) _;have hI:=aq.keep h (Kept.below hb);obtain ⟨p,cap,rfl,hcap,H⟩:=aq.open h;have hc1:((w.alloc (.cells #[.int .i64 lo] 3)).alloc (.cells #[.int .i64 hi] 3)).cell? ⟨w.heap.size,0,none⟩=some (.int .i64 lo):=by simp
 have hc2:((w.alloc (.cells #[.int .i64 lo] 3)).alloc (.cells #[.int .i64 hi] 3)).cell? ⟨w.heap.size+1,0,none⟩=some (.int .i64 hi):=by simp
 have hC:=Jj 229 #[.pointer (some ⟨w.heap.size,0,none⟩),.pointer (some ⟨w.heap.size+1,0,none⟩)] (enters_of Tryz.func229 (by kernel_rfl) rfl) S _ _ st.length (fun k=>.int .i64 (gi st k)) (fun k=>decide (gi st k<lo) || decide (hi<=gi st k)) hI hn
  (fun k _=>aaw _ _ _ (gi st k) lo hi hc1 hc2)
 have HC:=aa hC;have HB:=aa hb;clear dK hI H hc1 hc2 hC hb h;by_cases hl:st.length=n
 ·have jC:((st.length:Int) != n)=false:=by simp [hl]
  have HL:=aa hl;clear hl;have uS:rR st lo hi=(List.range st.length).any fun k=>decide (gi st k<lo) || decide (hi<=gi st k):=rfl;have fo:=aa uS;clear uS;go_in;go_wp2_with fail;refine HC.out.mono ?_;rintro e w' ⟨rfl,rfl⟩;rw [<- fo.out];go_wp2_with fail
  ·go_ret
   exact ⟨aC (by rw [HF.out,if_neg (by rw [HL.out];simp),if_pos ‹_›]),HB.out⟩
  ·go_ret
   exact ⟨aC (by rw [HF.out,if_neg (by rw [HL.out];simp),if_neg (by rw [‹rR st lo hi=false›];simp)]),HB.out⟩
 ·have jC:((st.length:Int) != n)=true:=by simp;omega
  go_in;go_wp2;go_ret;exact ⟨aC (by rw [HF.out,if_pos hl]),HB.out⟩
end
end Go.Proofs.YthgabkgmkolobaaGreat
