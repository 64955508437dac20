/- Ways in which lists lie in memory, and what keeps them: for the walks of this seat. .. -/
import Derived.WalkKit
import Derived.WalkSpells
import Derived.WalkLawsBesides
import Derived.Deep.OwnRows
import Derived.Deep.QuietTactic
import Derived.BigQuiet
import Derived.Lib.Hide
import Derived.Shelf.Small.Strs
import Derived.Test.YthgabkgmkolobaaGreatProg
import Derived.Shelf.Abstract
import Derived.Test.YthgabkgmkolobaaGreatQ1
set_option maxRecDepth 100000
set_option maxHeartbeats 400000
namespace Go.Proofs.YthgabkgmkolobaaGreat
open Go.RowKit Go.Deep

def aA (S:Nat->Prop) (w:World) (v:Value) (n:Nat) (f:Nat->Value):Prop :=
 ∃p cap,v=.slice p n cap/\n<=cap/\(n=0\/∃b off,p=some ⟨b,off,none⟩/\S b/\∀k,k<n->w.cell? ⟨b,off+k,none⟩=some (f k))
def ay (S:Nat->Prop) (w:World) (v:Value) (xs:List Int):Prop:=aA S w v xs.length (fun k=>.int .i64 (gi xs k))
def av (S:Nat->Prop) (w:World) (v:Value) (xs:List ByteArray):Prop:=aA S w v xs.length (fun k=>.string (gs xs k))
def bh (S:Nat->Prop) (w:World) (v:Value) (xs:List (List Int)):Prop:=∃f,aA S w v xs.length f/\∀k,k<xs.length->ay S w (f k) (gl xs k)
def aC (S:Nat->Prop) (w:World) (v:Value) (t:aF):Prop:=∃P N,v=.agg #[P,N]/\ay S w P t.ps/\av S w N t.ns

def Kept (S:Nat->Prop) (w w':World):Prop:=∀b,S b->b<w.heap.size->w'.heap[b]? = w.heap[b]?
def Any (_:Nat):Prop:=True

theorem aA.keep {S:Nat->Prop} {w w':World} {v:Value} {n:Nat} {f:Nat->Value} (h:aA S w v n f) (k:Kept S w w'):aA S w' v n f:=by
 obtain ⟨p,cap,rfl,hn,h⟩:=h;refine ⟨p,cap,rfl,hn,?_⟩;rcases h with h | ⟨b,off,rfl,hS,h⟩
 ·exact .inl h
 ·refine .inr ⟨b,off,rfl,hS,fun i hi=>?_⟩
  have hlt:b<w.heap.size:=dN w _ (h i hi);rw [fG (a:=⟨b,off+i,none⟩) (k b hS hlt)];exact h i hi
theorem ay.keep {S:Nat->Prop} {w w':World} {v:Value} {xs:List Int} (h:ay S w v xs) (k:Kept S w w'):ay S w' v xs:=aA.keep h k
theorem av.keep {S:Nat->Prop} {w w':World} {v:Value} {xs:List ByteArray} (h:av S w v xs) (k:Kept S w w'):av S w' v xs:=aA.keep h k
theorem bh.keep {S:Nat->Prop} {w w':World} {v:Value} {xs:List (List Int)} (h:bh S w v xs) (k:Kept S w w'):bh S w' v xs:=by
 obtain ⟨f,h,hr⟩:=h;exact ⟨f,h.keep k,fun i hi=>(hr i hi).keep k⟩
theorem aC.keep {S:Nat->Prop} {w w':World} {v:Value} {t:aF} (h:aC S w v t) (k:Kept S w w'):aC S w' v t:=by
 obtain ⟨P,N,rfl,h1,h2⟩:=h;exact ⟨P,N,rfl,h1.keep k,h2.keep k⟩
theorem aA.sub {S T:Nat->Prop} {w:World} {v:Value} {n:Nat} {f:Nat->Value} (h:aA S w v n f) (k:∀b,S b->b<w.heap.size->T b):aA T w v n f:=by
 obtain ⟨p,cap,rfl,hn,h⟩:=h;refine ⟨p,cap,rfl,hn,?_⟩;rcases h with h | ⟨b,off,rfl,hS,h⟩
 ·exact .inl h
 ·by_cases hn0:n=0
  ·exact .inl hn0
  ·exact .inr ⟨b,off,rfl,k b hS (dN w _ (h 0 (by omega))),h⟩
theorem ay.sub {S T:Nat->Prop} {w:World} {v:Value} {xs:List Int} (h:ay S w v xs) (k:∀b,S b->b<w.heap.size->T b):ay T w v xs:=aA.sub h k
theorem av.sub {S T:Nat->Prop} {w:World} {v:Value} {xs:List ByteArray} (h:av S w v xs) (k:∀b,S b->b<w.heap.size->T b):av T w v xs:=aA.sub h k
theorem bh.sub {S T:Nat->Prop} {w:World} {v:Value} {xs:List (List Int)} (h:bh S w v xs) (k:∀b,S b->b<w.heap.size->T b):bh T w v xs:=by
 obtain ⟨f,h,hr⟩:=h;exact ⟨f,h.sub k,fun i hi=>(hr i hi).sub k⟩
theorem aC.sub {S T:Nat->Prop} {w:World} {v:Value} {t:aF} (h:aC S w v t) (k:∀b,S b->b<w.heap.size->T b):aC T w v t:=by
 obtain ⟨P,N,rfl,h1,h2⟩:=h;exact ⟨P,N,rfl,h1.sub k,h2.sub k⟩
theorem Kept.below {S:Nat->Prop} {a b:World} (h:Below a.heap.size a b):Kept S a b:=fun i _ hl=>h.block i hl
theorem aA.open {S:Nat->Prop} {w:World} {v:Value} {n:Nat} {f:Nat->Value} (h:aA S w v n f) :
  ∃p cap,v=.slice p n cap/\n<=cap/\∀k,k<n->∃b off,p=some ⟨b,off,none⟩/\w.cell? ⟨b,off+k,none⟩=some (f k):=by
 obtain ⟨p,cap,rfl,hn,h⟩:=h;refine ⟨p,cap,rfl,hn,fun k hk=>?_⟩;rcases h with h | ⟨b,off,rfl,_,h⟩
 ·omega
 ·exact ⟨b,off,rfl,h k hk⟩
theorem below_drewN {B:Nat} {a w:World} (h:Below B a w) (n:Nat):Below B a (w.drewN n):=⟨h.os,h.tape,h.output,h.size,h.block⟩
theorem aN {k:IntKind} {a b:Int} (h:a=b):Ending.returned (.int k a)=.returned (.int k b):=by rw [h]
theorem bA {a b:Bool} (h:a=b):Ending.returned (.bool a)=.returned (.bool b):=by rw [h]
end Go.Proofs.YthgabkgmkolobaaGreat
namespace Go.Proofs
open Go.Shelf
def Tryz.lays106_ren:Go.Shelf.Ren:=⟨fun | 106=>242 | 213=>272 | 265=>289 | n=>n,fun | 9=>9 | 3=>3 | n=>n,fun | n=>n⟩
theorem Tryz.lays106:Go.Proofs.Lays.n106 Tryz.prog Tryz.lays106_ren:={
 mixed:=by kernel_rfl
 f106:=Tryz.func242.trans (congrArg some (by kernel_rfl))
 f213:=Tryz.func272.trans (congrArg some (by kernel_rfl))
 f265:=Tryz.func289.trans (congrArg some (by kernel_rfl))
 t3:=Tryz.underlying3
 a3:=Tryz.isAgg3
 z3:=Tryz.sizeOf3
 v3:=Tryz.zeroValue3
 t9:=Tryz.underlying9
 a9:=Tryz.isAgg9
 z9:=Tryz.sizeOf9
 v9:=Tryz.zeroValue9 }
open Go.RowKit in
theorem Tryz.strings_Compare (a b:ByteArray) (w:World) :
  Calls Tryz.prog 242 #[.string a,.string b] w fun e w'=>e=.returned (.int .i64 (Lib.compareBytes a.data.toList b.data.toList))/\w'=w:=Any.strings_Compare Tryz.lays106 a b w
def Tryz.lays137_ren:Go.Shelf.Ren:=⟨fun | 137=>261 | 217=>277 | 266=>290 | n=>n,fun | 9=>9 | 5=>5 | 3=>3 | n=>n,fun | n=>n⟩
theorem Tryz.lays137:Go.Proofs.Lays.n137 Tryz.prog Tryz.lays137_ren:={
 mixed:=by kernel_rfl
 f137:=Tryz.func261.trans (congrArg some (by kernel_rfl))
 f217:=Tryz.func277.trans (congrArg some (by kernel_rfl))
 f266:=Tryz.func290.trans (congrArg some (by kernel_rfl))
 t3:=Tryz.underlying3
 a3:=Tryz.isAgg3
 z3:=Tryz.sizeOf3
 v3:=Tryz.zeroValue3
 t5:=Tryz.underlying5
 a5:=Tryz.isAgg5
 z5:=Tryz.sizeOf5
 v5:=Tryz.zeroValue5
 t9:=Tryz.underlying9
 a9:=Tryz.isAgg9
 z9:=Tryz.sizeOf9
 v9:=Tryz.zeroValue9 }
open Go.RowKit in
theorem Tryz.strings_IndexByte (s:ByteArray) (c:Int) (w:World) :
  Calls Tryz.prog 261 #[.string s,.int .u8 c] w fun e w'=>e=.returned (.int .i64 (Lib.indexByte s.data.toList c.toNat.toUInt8))/\w'=w:=Any.strings_IndexByte Tryz.lays137 s c w
end Go.Proofs
namespace Go.Proofs.YthgabkgmkolobaaGreat
section
open Go.RowKit Go.Deep
def U2:ByteArray:=⟨#[46,44,59,58,33,63,40,41,45]⟩
theorem U3:∀c,c<256->(decide (0<=Lib.indexByte U2.data.toList c.toUInt8))=wJ c:=by
 decide +kernel
theorem ofk {a b:Int} (h:a=b) {w w':World} (hw:w=w'):Ending.returned (.int .i64 a)=.returned (.int .i64 b)/\w=w':=⟨by rw [h],hw⟩
theorem TM {c:Nat} {x:Int} (hc:c<256) (hx:Lib.indexByte [46,44,59,58,33,63,40,41,45] ((c:Int).toNat).toUInt8=x):0<=x↔wJ c=true:=by
 have h:=U3 c hc;rw [<- h,<- hx];simp [U2]
theorem U4 (c:Nat) (hc:c<256) (w:World):Calls Tryz.prog 239 #[.int .u8 c] w fun e w'=>e=.returned (.int .i64 (dH c))/\w=w':=by
 go_enter Tryz.func239,Tryz.ntmps239
 go_wp2_with (go_at_call 261;refine (Tryz.strings_IndexByte _ _ _).mono ?_;rintro e w' ⟨rfl,rfl⟩;generalize hx:Lib.indexByte _ _=x)
 all_goals (try go_ret)
 all_goals (refine ofk ?_ rfl)
 all_goals (first | (have h5:=TM hc ‹Lib.indexByte _ _=_›;unfold dH isLet;by_cases hp:wJ c=true<;>simp only [hp] at*<;> simp at*<;> omega) | (simp [dH,isLet,wJ] at *;done) | (simp [dH,isLet,wJ] at *;omega))
theorem sw (c:UInt8):(dH c.toNat=1\/dH c.toNat=3)↔rz c=true:=by
 unfold dH rz isLet;simp only [wu,fe,decide_eq_true_eq]
 repeat' split
 all_goals simp at *
 all_goals omega
theorem CQ (l:List UInt8):kJ l<=l.length:=List.countP_le_length
theorem MR (l:List UInt8) (c:UInt8):kJ (l++[c])=kJ l+if rz c then 1 else 0:=by
 simp [kJ,List.countP_append,List.countP_cons]
theorem MS (s:ByteArray) (k:Nat) (h:k<s.size):s.data.toList.take (k+1)=s.data.toList.take k++[s[k]]:=by
 rw [jo (by simpa using h)];rfl
theorem FH (l:List UInt8):kJ l=l.length↔l.all rz=true:=by
 simp [kJ,List.countP_eq_length]
theorem yh (s:ByteArray) (k:Nat) (h:k<s.size):kJ (s.data.toList.take (k+1))=kJ (s.data.toList.take k)+if rz s[k] then 1 else 0:=by
 rw [MS s k h,MR]
theorem MT (s:ByteArray) (hs:s.size<=70000) (w:World):Calls Tryz.prog 183 #[.string s] w fun e w'=>e=.returned (.int .i64 (kJ s.data.toList))/\w=w':=by
 go_enter Tryz.func183,Tryz.ntmps183
 go_wp2
 go_loop [3,4,5,8] (fun n _ _ i=>∃k:Nat,k<=s.size/\i=.int .i64 k/\n=.int .i64 (kJ (s.data.toList.take k))) (fun _ _ _ i=>s.size - (intOf i).toNat)
 case atStart=>exact ⟨0,aI _,rfl,rfl⟩
 case round =>
  obtain ⟨k,hk,rfl,rfl⟩:=hrel
  have hb:kJ (s.data.toList.take k)<=70000:=aR (CQ _) (by simp;omega)
  by_cases hlt:k<s.size
  ·have hst:=yh s k hlt
   have hk':=sw s[k]
   have hc:s[k].toNat<256:=s[k].toNat_lt
   generalize hm:kJ (s.data.toList.take k)=m at *
   have HS:=aa hst
   have HK:=aa hk'
   clear hst hm hk'
   go_wp2_with (go_at_call 239;refine (U4 _ hc _).mono ?_;rintro e w' ⟨rfl,rfl⟩;generalize dH _=q at *)
   all_goals
    go_round
    case rel=>exact ⟨k+1,by omega,by go_num,by rw [HS.out];first | (rw [if_pos (HK.out.1 (by first | omega | (simp only [beq_iff_eq] at *;omega)))];go_num) | (rw [if_neg (fun h=>by have:=HK.out.2 h;simp only [beq_eq_false_iff_ne,ne_eq] at *;omega)];go_num)⟩
    case measure=>simp [intOf];omega
  ·go_wp2
   go_ret
   exact ⟨aN (by rw [zD (by simp;omega)]),rfl⟩
theorem FI (s:ByteArray) (hs:s.size<=70000) (w:World):Calls Tryz.prog 128 #[.string s] w fun e w'=>e=.returned (.bool (eG s.data.toList))/\w=w':=by
 have hl:s.data.toList.length=s.size:=by simp
 have ha:=FH s.data.toList;have hle:=CQ s.data.toList;have he:s.data.toList=[]↔s.size=0:=by rw [<- List.length_eq_zero_iff,hl]
 rw [hl] at ha hle;have HA:=aa ha;have HL:=aa hl;have HE:=aa he;clear ha hl he;have Zx:=toList_nil s;have dR:eG s.data.toList=decide (1<=s.size/\s.size<=16/\kJ s.data.toList=s.size):=by unfold eG;rw [HL.out,nv];simp only [fe,decide_eq_true_eq];rw [<- HA.out,and_assoc]
 have HF:=aa dR;have Zy:=aa Zx;clear dR Zx HA HL HE;generalize hm:kJ s.data.toList=m at *;have HM:=aa hm;clear hm
 go_enter Tryz.func128,Tryz.ntmps128
 go_wp2_with (go_at_call 183;refine (MT _ hs _).mono ?_;rintro e w' ⟨rfl,rfl⟩;rw [HM.out])
 all_goals go_ret
 all_goals refine ⟨bA ?_,rfl⟩
 all_goals rw [HF.out]
 ·have:=Zy.out.1 ‹_›;simp;omega
 ·have hne:¬s.size=0:=fun h=>‹¬s.toList=[]› (Zy.out.2 h)
  have CR:s.toList.isEmpty=false:=by simpa using ‹¬s.toList=[]›
  rw [nv];simp [CR];omega
 ·simp;omega

theorem PZ:rz 42=false:=by decide
theorem yj (l:List UInt8) (h:l.getLast? = some 42):eG l=false:=by
 obtain ⟨a,rfl⟩:=List.getLast?_eq_some_iff.1 h;simp [eG,PZ]
theorem FJ (s:ByteArray) (h1:1<=s.size):(s.extract (s.size - 1) s.size).toList=[42]↔s.data.toList.getLast? = some 42:=by
 have hl:=size_data s;rw [toList_data,wA,Array.toList_extract,List.extract_eq_take_drop];generalize s.data.toList=l at *;have hne:l≠[]:=by intro e;rw [e] at hl;simp at hl;omega
 rw [<- hl];clear hl h1;obtain ⟨a,x,rfl⟩:∃a x,l=a++[x]:=⟨l.dropLast,l.getLast hne,(List.dropLast_concat_getLast hne).symm⟩;simp
theorem FK (s:ByteArray):(s.extract 0 (s.size - 1)).data.toList=s.data.toList.dropLast:=by
 have hl:=size_data s;rw [wA,Array.toList_extract,List.extract_eq_take_drop,List.dropLast_eq_take,hl];simp
def TN (s:ByteArray) (e:Ending):Prop:=(s.data.toList.getLast? = some 42/\∃r:ByteArray,r.size<=s.size/\r.data.toList=s.data.toList.dropLast/\e=.returned (.tuple #[.string r,.bool true]))\/(s.data.toList.getLast? ≠ some 42/\e=.returned (.tuple #[.string s,.bool false]))
theorem P3 (s:ByteArray) (hs:s.size<=70000) (w:World):Calls Tryz.prog 197 #[.string s,.string ⟨#[42]⟩] w fun e w'=>TN s e/\w=w':=by
 by_cases h0:s.size=0
 ·have hc:s.data.toList=[]:=by rw [<- toList_data];exact (toList_nil s).2 h0
  have HC:=aa hc;clear hc
  go_enter Tryz.func197,Tryz.ntmps197
  go_wp2;go_ret2;exact ⟨.inr ⟨by rw [HC.out];simp,rfl⟩,rfl⟩
 ·have h1:1<=s.size:=by omega
  clear h0
  go_enter Tryz.func197,Tryz.ntmps197
  go_wp2
  ·go_ret2
   refine ⟨.inr ⟨fun e=>?_,rfl⟩,rfl⟩;have:=(FJ s h1).2 e;simp_all
  ·go_ret2
   have h2:=‹(!(s.extract (s.size - 1) s.size).toList==[42])=false›;exact ⟨.inl ⟨(FJ s h1).1 (by simpa using h2),s.extract 0 (s.size - 1),by simp,FK s,rfl⟩,rfl⟩
theorem vp (s:ByteArray) (hs:s.size<=70000) (w:World):Calls Tryz.prog 138 #[.string s] w fun e w'=>e=.returned (.bool (bu s.data.toList))/\w=w':=by
 have hl:=size_data s;have HL:=aa hl;clear hl
 go_enter Tryz.func138,Tryz.ntmps138
 go_wp2_with fail;refine (P3 s hs _).mono ?_;rintro e w' ⟨⟨h1,r,hr,hd,rfl⟩ | ⟨h1,rfl⟩,rfl⟩
 ·have hf:bu s.data.toList=(decide (s.size<=16)&&eG r.data.toList):=by
   unfold bu;rw [if_pos h1,hd,HL.out,Bool.and_comm]
  have HF:=aa hf
  clear hf hd h1
  go_wp2_with (go_at_call 128;refine (FI r (by omega) _).mono ?_;rintro e w' ⟨rfl,rfl⟩)
  all_goals
   go_ret
   refine ⟨bA ?_,rfl⟩
   rw [HF.out,nv]
   simp at *
   try omega
 ·have hf:bu s.data.toList=eG s.data.toList:=by unfold bu;rw [if_neg h1]
  have HF:=aa hf;clear hf h1;go_wp2_with (go_at_call 128;refine (FI s hs _).mono ?_;rintro e w' ⟨rfl,rfl⟩);go_ret;exact ⟨bA (by rw [HF.out]),rfl⟩
theorem CS {x y:ByteArray} (h:(x.toList==y.toList)=true):x=y:=by
 rw [beq_iff_eq,toList_data,toList_data] at h;exact fH h
theorem FL {x y:ByteArray} (h:(x.toList==y.toList)=false):¬x=y:=by
 rintro rfl;simp at h
theorem Ac (S:Nat->Prop) (w:World) (v:Value) (n:Nat) (f:Nat->ByteArray) (x:ByteArray) (h:aA S w v n (fun k=>.string (f k))) (hn:n<=1000000) :
  Calls Tryz.prog 95 #[v,.string x] w fun e w'=>e=.returned (.int .i64 (cF (fun j=>decide (x=f j)) n))/\w=w':=by
 obtain ⟨p,cap,rfl,hcap,H⟩:=h.open;clear h
 go_enter Tryz.func95,Tryz.ntmps95
 go_wp2
 go_loop [5,8] (fun _ i=>∃k:Nat,k<=n/\i=.int .i64 k/\Hid (∀j,j<k->decide (x=f j)=false)) (fun _ i=>n - (intOf i).toNat)
 case atStart=>exact ⟨0,aI _,rfl,fun j hj=>absurd hj (bS _)⟩
 case round =>
  obtain ⟨k,hk,rfl,hd⟩:=hrel;by_cases hlt:k<n
  ·obtain ⟨b,off,rfl,hc⟩:=H k hlt
   clear H;go_wp2
   ·have hx:=CS ‹(x.toList==(f k).toList)=true›
    go_ret;exact ⟨aN (mq (p:=fun j=>decide (x=f j)) hlt hd.out (by simpa using hx)).symm,rfl⟩
   ·have hx:=FL ‹(x.toList==(f k).toList)=false›
    go_round
    case rel=>exact ⟨k+1,by omega,by go_num,fun j hj=>if e:j=k then by subst e;simpa using hx else hd.out j (by omega)⟩
    case measure=>simp [intOf];omega
  ·clear H
   go_wp2;go_ret;exact ⟨aN (jX fun j hj=>hd.out j (by omega)).symm,rfl⟩
theorem iI (S:Nat->Prop) (w:World) (v:Value) (n:Nat) (f:Nat->ByteArray) (x:ByteArray) (h:aA S w v n (fun k=>.string (f k))) (hn:n<=1000000) :
  Calls Tryz.prog 32 #[v,.string x] w fun e w'=>e=.returned (.bool ((List.range n).any fun j=>decide (x=f j)))/\w=w':=by
 have hx:=mU (fun j=>decide (x=f j)) n;have HX:=aa hx;clear hx
 go_enter Tryz.func32,Tryz.ntmps32
 go_wp2_with (go_at_call 95;refine (Ac S w v n f x h hn).mono ?_;rintro e w' ⟨rfl,rfl⟩);go_ret;exact ⟨bA (by rw [<- HX.out]),rfl⟩
def AO (g:Nat) (lb args:Array Value) (res:Value) (w:World):Prop:=Calls Tryz.prog g (args++lb) w fun e w'=>e=.returned res/\w=w'
theorem MU (g:Nat) (lb:Array Value) (eg:∀args w,(callFunc g args).run Tryz.prog w=.ok (.enter g args) w) (S:Nat->Prop) (w:World) (v:Value) (n:Nat) (f:Nat->Value) (p:Nat->Bool)
  (h:aA S w v n f) (hn:n<=1000000) (hp:∀k,k<n->AO g lb #[f k] (.bool (p k)) w) :
  Calls Tryz.prog 117 #[v,.func (.func g) #[] lb] w fun e w'=>e=.returned (.int .i64 (cF p n))/\w=w':=by
 obtain ⟨q,cap,rfl,hcap,H⟩:=h.open;have HP:=aa hp;clear h hp
 go_enter Tryz.func117,Tryz.ntmps117
 go_wp2_with fail
 go_loop [5,8] (fun _ i=>∃k:Nat,k<=n/\i=.int .i64 k/\Hid (∀j,j<k->p j=false)) (fun _ i=>n - (intOf i).toNat)
 case atStart=>exact ⟨0,aI _,rfl,fun j hj=>absurd hj (bS _)⟩
 case round =>
  obtain ⟨k,hk,rfl,hd⟩:=hrel;by_cases hlt:k<n
  ·obtain ⟨b,off,rfl,hc⟩:=H k hlt
   clear H;have hpk:=HP.out k hlt;unfold AO at hpk;have Zz:=aa hpk;clear hpk HP;generalize hv:p k=pk at *;have HV:=aa hv;clear hv;cases pk
   ·go_wp2_with fail
    refine Zz.out.mono ?_;rintro e w' ⟨rfl,rfl⟩;go_wp2_with fail
    go_round
    case rel=>exact ⟨k+1,by omega,by go_num,fun j hj=>if e:j=k then by subst e;exact HV.out else hd.out j (by omega)⟩
    case measure=>simp [intOf];omega
   ·go_wp2_with fail
    refine Zz.out.mono ?_;rintro e w' ⟨rfl,rfl⟩;go_wp2_with fail;go_ret;exact ⟨aN (mq hlt hd.out HV.out).symm,rfl⟩
  ·clear H
   go_wp2_with fail;go_ret;exact ⟨aN (jX fun j hj=>hd.out j (by omega)).symm,rfl⟩
theorem BN (g:Nat) (lb:Array Value) (eg:∀args w,(callFunc g args).run Tryz.prog w=.ok (.enter g args) w) (S:Nat->Prop) (w:World) (v:Value) (n:Nat) (f:Nat->Value) (p:Nat->Bool)
  (h:aA S w v n f) (hn:n<=1000000) (hp:∀k,k<n->AO g lb #[f k] (.bool (p k)) w) :
  Calls Tryz.prog 63 #[v,.func (.func g) #[] lb] w fun e w'=>e=.returned (.bool ((List.range n).any p))/\w=w':=by
 have hx:=mU p n;have HX:=aa hx;have HI:=aa (MU g lb eg S w v n f p h hn hp);clear hx hp h eg
 go_enter Tryz.func63,Tryz.ntmps63
 go_wp2_with fail;refine HI.out.mono ?_;rintro e w' ⟨rfl,rfl⟩;go_wp2_with fail;go_ret;exact ⟨bA (by rw [<- HX.out]),rfl⟩
end
end Go.Proofs.YthgabkgmkolobaaGreat
