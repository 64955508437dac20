/- Contracts: slices.Index and Contains of strings, phylotree.Check. Names, as layer 1's and .. -/
import Derived.Shelf.Abstract
import Derived.Test.YtfomhlbhcifgbaaGreatDoorQ3
set_option maxRecDepth 100000
set_option maxHeartbeats 800000
namespace Go.Proofs.YtfomhlbhcifgbaaGreatDoor
section
open Go.RowKit Go.Deep
theorem Ua {x y:ByteArray} (h:(x.toList==y.toList)=true):x=y:=by
 rw [beq_iff_eq,toList_data,toList_data] at h;exact A7 h
theorem Vp {x y:ByteArray} (h:(x.toList==y.toList)=false):¬x=y:=by
 rintro rfl;simp at h
theorem tU (S:Nat->Prop) (w:World) (v:Value) (n:Nat) (f:Nat->ByteArray) (x:ByteArray) (h:aB S w v n (fun k=>.string (f k))) (hn:n<=1000000) :
  Calls Tryz.prog 10 #[v,.string x] w fun e w'=>e=.returned (.int .i64 (bZ (fun j=>decide (x=f j)) n))/\w=w':=by
 obtain ⟨p,cap,rfl,hcap,H⟩:=h.open;clear h;go_in;go_wp2
 go_loop [5,8] (fun _ i=>∃k:Nat,k<=n/\i=.int .i64 k/\Hid (∀j,j<k->decide (x=f j)=false)) (fun _ i=>n - (intOf i).toNat)
 case atStart=>exact ⟨0,bg _,rfl,fun j hj=>absurd hj (cz _)⟩
 case round =>
  obtain ⟨k,hk,rfl,hd⟩:=hrel;by_cases hlt:k<n
  ·obtain ⟨b,off,rfl,hc⟩:=H k hlt
   clear H;go_wp2
   ·have hx:=Ua ‹(x.toList==(f k).toList)=true›
    go_ret;exact ⟨aU (jR (p:=fun j=>decide (x=f j)) hlt hd.out (by simpa using hx)).symm,rfl⟩
   ·have hx:=Vp ‹(x.toList==(f k).toList)=false›
    go_round
    case rel=>exact ⟨k+1,by omega,by go_num,fun j hj=>if e:j=k then by subst e;simpa using hx else hd.out j (by omega)⟩
    case measure=>simp [intOf];omega
  ·clear H
   go_wp2;go_ret;exact ⟨aU (gY fun j hj=>hd.out j (by omega)).symm,rfl⟩
theorem eT (S:Nat->Prop) (w:World) (v:Value) (n:Nat) (f:Nat->ByteArray) (x:ByteArray) (h:aB S w v n (fun k=>.string (f k))) (hn:n<=1000000) :
  Calls Tryz.prog 26 #[v,.string x] w fun e w'=>e=.returned (.bool ((List.range n).any fun j=>decide (x=f j)))/\w=w':=by
 have hx:=gO (fun j=>decide (x=f j)) n;have HX:=aa hx;clear hx;go_in;go_wp2_with (go_at_call 10;refine (tU S w v n f x h hn).mono ?_;rintro e w' ⟨rfl,rfl⟩);go_ret;exact ⟨bu (by rw [<- HX.out]),rfl⟩
theorem Fz (s:ByteArray) (h:s.size - 1<s.size):s.data.toList.getLast? = some s[s.size - 1]:=by
 have hl:=size_data s;rw [List.getLast?_eq_getElem?,hl,kB (by rw [hl];exact h)];rfl
theorem Jd (s:ByteArray) (h:s.size - 1<s.size) (JJ:((s[s.size - 1].toNat:Int)==42)=false):bD s.data.toList=fA s.data.toList:=by
 unfold bD;rw [Fz s h,if_neg];intro e;injection e with e;rw [e] at JJ;simp at JJ
theorem Mm (s:ByteArray) (h:s.size<=1):bD s.data.toList=fA s.data.toList:=by
 have hl:=size_data s;unfold bD;split
 ·rename_i JJ
  rw [Fw s.data.toList JJ];have:s.data.toList.dropLast=[]:=by rw [<- A3,List.length_dropLast];omega
  rw [this];rfl
 ·rfl
def rC (g:Nat) (lb args:Array Value) (res:Value) (w:World):Prop:=Calls Tryz.prog g (args++lb) w fun e w'=>e=.returned res/\w=w'
theorem Mn (g:Nat) (lb:Array Value) (eg:∀args w,(callFunc g args).run Tryz.prog w=.ok (.enter g args) w) (S:Nat->Prop) (w:World) (v:Value) (n:Nat) (f:Nat->Value) (p:Nat->Bool)
  (h:aB S w v n f) (hn:n<=1000000) (hp:∀k,k<n->rC g lb #[f k] (.bool (p k)) w) :
  Calls Tryz.prog 86 #[v,.func (.func g) #[] lb] w fun e w'=>e=.returned (.int .i64 (bZ p n))/\w=w':=by
 obtain ⟨q,cap,rfl,hcap,H⟩:=h.open;have HP:=aa hp;clear h hp;go_in;go_wp2
 go_loop [5,8] (fun _ i=>∃k:Nat,k<=n/\i=.int .i64 k/\Hid (∀j,j<k->p j=false)) (fun _ i=>n - (intOf i).toNat)
 case atStart=>exact ⟨0,bg _,rfl,fun j hj=>absurd hj (cz _)⟩
 case round =>
  obtain ⟨k,hk,rfl,hd⟩:=hrel;by_cases hlt:k<n
  ·obtain ⟨b,off,rfl,hc⟩:=H k hlt
   clear H;have hpk:=HP.out k hlt;unfold rC at hpk;have sU:=aa hpk;clear hpk HP;generalize hv:p k=pk at *;have HV:=aa hv;clear hv;cases pk
   ·go_wp2_with fail
    refine sU.out.mono ?_;rintro e w' ⟨rfl,rfl⟩;go_wp2
    go_round
    case rel=>exact ⟨k+1,by omega,by go_num,fun j hj=>if e:j=k then by subst e;exact HV.out else hd.out j (by omega)⟩
    case measure=>simp [intOf];omega
   ·go_wp2_with fail
    refine sU.out.mono ?_;rintro e w' ⟨rfl,rfl⟩;go_wp2;go_ret;exact ⟨aU (jR hlt hd.out HV.out).symm,rfl⟩
  ·clear H
   go_wp2;go_ret;exact ⟨aU (gY fun j hj=>hd.out j (by omega)).symm,rfl⟩
theorem qO (g:Nat) (lb:Array Value) (eg:∀args w,(callFunc g args).run Tryz.prog w=.ok (.enter g args) w) (S:Nat->Prop) (w:World) (v:Value) (n:Nat) (f:Nat->Value) (p:Nat->Bool)
  (h:aB S w v n f) (hn:n<=1000000) (hp:∀k,k<n->rC g lb #[f k] (.bool (p k)) w) :
  Calls Tryz.prog 55 #[v,.func (.func g) #[] lb] w fun e w'=>e=.returned (.bool ((List.range n).any p))/\w=w':=by
 have hx:=gO p n;have HX:=aa hx;have HI:=aa (Mn g lb eg S w v n f p h hn hp);clear hx hp h eg;go_in;go_wp2_with fail;refine HI.out.mono ?_;rintro e w' ⟨rfl,rfl⟩;go_wp2;go_ret;exact ⟨bu (by rw [<- HX.out]),rfl⟩
theorem Tryz.ZC:(Tryz.prog.info? 4).map (fun i=>(i.zero,i.size,i.bytes))=some (some (.bool false),1,1):=by kernel_rfl
structure zk (w0 wr:World) (B n:Nat) (f:Nat->Bool):Prop where
 below:Below B w0 wr
 row:wr.rowIs B 4 n (fun j=>.bool (f j))
 size:wr.heap.size=B+1
theorem zk.start (w0:World) (n:Nat) (f:Nat->Bool) (hf:∀j,f j=false):zk w0 (w0.alloc (.cells (madeCells #[.bool false] n) 4)) w0.heap.size n f :=
 ⟨(b7 _ _).alloc (aj _) _,(World.rowIs_made w0 _ n _).congr fun i _=>by simp [hf],by simp⟩
theorem zk.set {w0 wr:World} {B n q:Nat} {f g:Nat->Bool} (h:zk w0 wr B n f) (hg:∀j,g j=(f j || decide (j=q))) :
  zk w0 (wr.setCell ⟨B,q,none⟩ (.bool true)) B n g :=
 ⟨h.below.setCell (p:=⟨B,q,none⟩) (aj _) _,(h.row.set q _).congr fun i _=>by
  by_cases e:i=q
  ·simp [e,hg]
  ·simp [e,hg],by simp [h.size]⟩
theorem zk.congr {w0 wr:World} {B n:Nat} {f g:Nat->Bool} (h:zk w0 wr B n f) (hg:∀j,g j=f j):zk w0 wr B n g :=
 ⟨h.below,h.row.congr fun i _=>by simp [hg],h.size⟩
theorem qY (S:Nat->Prop) (w:World) (v:Value) (t:aA) (h:aJ S w v t) (hp:t.ps.length<=1000000) (hn:t.ns.length<=1000000) (hz:∀k,(gs t.ns k).size<=70000) :
  Calls Tryz.prog 24 #[v] w fun e w'=>e=.returned (.int .i64 (aF t))/\Below w.heap.size w w':=by
 obtain ⟨P,N,rfl,hP,hN⟩:=h;obtain ⟨ps,ns⟩:=t;simp only at *;have jv:aF ⟨ps,ns⟩=if ps.length=0 then 5 else if 64<ps.length then 4 else if ns.length≠ps.length then 9 else if jt ps then dP (mj ps ns) ps.length else 2:=rfl
 have HF:=aa jv;clear jv;have hP':=hP.keep (Kept.below ((b7 _ w).alloc (aj _) (.cells #[P,N] 33)));have hN':=hN.keep (Kept.below ((b7 _ w).alloc (aj _) (.cells #[P,N] 33)));clear hP hN;obtain ⟨p,cap,rfl,hcap,HP⟩:=aB.open hP';obtain ⟨q,ij,rfl,E3,HN⟩:=aB.open hN';have nU:Below w.heap.size w (w.alloc (.cells #[.slice p ps.length cap,.slice q ns.length ij] 33)):=(b7 _ _).alloc (aj _) _;have HPh:=aa HP;have Vq:=aa HN;clear hP' hN' HP HN;by_cases h0:ps.length=0
 ·have HX:Hid (ps.length=0):=h0
  have h0':((ps.length:Int)==0)=true:=by simp [h0]
  clear h0;go_in;go_wp2;go_ret;exact ⟨aU (by rw [HF.out,if_pos HX.out]),nU⟩
 have h0':((ps.length:Int)==0)=false:=by simpa using h0
 by_cases h1:64<ps.length
 ·go_in
  go_wp2;go_ret;exact ⟨aU (by rw [HF.out,if_neg h0,if_pos h1]),nU⟩
 by_cases h2:ns.length=ps.length
 ·have h2':((ns.length:Int) != ps.length)=false:=by simp [h2]
  have H2:=aa h2;clear h2;have hmk:=fun W=>run_make_row' (P:=Tryz.prog) 34 4 (.bool false) 1 Tryz.underlying34 Tryz.ZC rfl .i64 .i64 ps.length (by omega) (by omega) W;go_in;go_wp2;clear hmk nU;have hstart:=zk.start (w.alloc (.cells #[.slice p ps.length cap,.slice q ns.length ij] 33)) ps.length (fun j=>Dp ps 0 j) (fun j=>rfl);rw [aN] at hstart;have jw:(w.alloc (.cells #[.slice p ps.length cap,.slice q ns.length ij] 33)).cell? ⟨w.heap.size,0,none⟩=some (.slice p ps.length cap):=by simp [World.cell?_alloc_new]
  have Du:(w.alloc (.cells #[.slice p ps.length cap,.slice q ns.length ij] 33)).cell? ⟨w.heap.size,1,none⟩=some (.slice q ns.length ij):=by simp [World.cell?_alloc_new]
  have hb0:Below w.heap.size w (w.alloc (.cells #[.slice p ps.length cap,.slice q ns.length ij] 33)):=(b7 _ _).alloc (aj _) _;have hsz:(w.alloc (.cells #[.slice p ps.length cap,.slice q ns.length ij] 33)).heap.size=w.heap.size+1:=by simp
  generalize hw0:w.alloc (.cells #[.slice p ps.length cap,.slice q ns.length ij] 33)=w0 at *;clear hw0;have HS:=aa hsz;have Dw:=aa jw;have Sz:=aa Du;clear hsz jw Du
  go_loopw [4,5,33] (fun _ _ i wr=>∃k:Nat,k<=ps.length/\i=.int .i64 k/\Hid (∀j,j<k->nR j (gi ps j)=true)/\zk w0 wr (w.heap.size+1) ps.length (fun j=>Dp ps k j)) (fun _ _ i _=>ps.length - (intOf i).toNat)
  case atStart=>exact ⟨0,bg _,rfl,fun j hj=>absurd hj (cz _),hstart⟩
  case round =>
   obtain ⟨k,hk,rfl,hd,hW⟩:=hrel;clear hstart;by_cases hlt:k<ps.length
   ·obtain ⟨b,off,rfl,hc0⟩:=HPh.out k hlt
    (have hc:wr.cell? ⟨b,off+k,none⟩=some (.int .i64 (gi ps k)):=by rw [hW.below.cell (p:=⟨b,off+k,none⟩) (by have:=fS _ _ hc0;have:=HS.out;simp at *;omega)];exact hc0);clear hc0;generalize hpk:gi ps k=x at *;have HX:=aa hpk;clear hpk;by_cases hg:0<k/\0<=x/\x<k
    ·obtain ⟨g1,g2,g3⟩:=hg
     obtain ⟨y,rfl⟩:=o7 g2;have hi1:=hW.row.cell (i:=y) (by omega);have hi2:=hW.row.frozen y;go_wp2
     go_roundw
     case rel=>exact ⟨k+1,by omega,by go_num,fun j hj=>if e:j=k then by subst e;rw [HX.out];unfold nR;rw [if_neg (by omega)];simp;omega else hd.out j (by omega),hW.set (q:=y) fun j=>by rw [E9,HX.out];simp only [g1,decide_true,Bool.true_and];congr 1;rw [nM];simp;omega⟩
     case measure=>simp [intOf];omega
    ·by_cases Bh:k=0/\x = -1
     ·obtain ⟨rfl,rfl⟩:=Bh
      (have hc':wr.cell? ⟨b,off,none⟩=some (.int .i64 (-1)):=by simpa using hc);go_wp2
      go_roundw
      case rel=>exact ⟨1,by omega,by go_num,fun j hj=>by obtain rfl:j=0:=(by omega);rw [HX.out];rfl,hW.congr fun j=>by rw [E9];simp⟩
      case measure=>simp [intOf];omega
     ·have xz:nR k x=false:=by
       unfold nR;split
       ·rename_i e;simp;exact fun e2=>Bh ⟨e,e2⟩
       ·simp;intro;omega
      rw [<- HX.out] at xz
      have HB:=aa (PD hlt xz)
      clear xz
      go_wp2
      all_goals go_ret
      all_goals exact ⟨aU (by rw [HF.out,if_neg h0,if_neg h1,if_neg (by rw [H2.out];simp),HB.out];simp),hb0.trans (hW.below.mono (by omega))⟩
   ·obtain rfl:k=ps.length:=by omega
    have hok:=aa (Fa hd.out);(have qD:wr.cell? ⟨w.heap.size,1,none⟩=some (.slice q ns.length ij):=by rw [hW.below.cell (p:=⟨w.heap.size,1,none⟩) (by simp)];exact Sz.out);clear hlt hk hd HPh hcap;go_wp2
    go_loop [6,7,66] (fun _ _ i=>∃k:Nat,k<=ps.length/\i=.int .i64 k/\Hid (∀j,j<k->mj ps ns j=0)) (fun _ _ i=>ps.length - (intOf i).toNat)
    case atStart=>exact ⟨0,bg _,rfl,fun j hj=>absurd hj (cz _)⟩
    case round =>
     obtain ⟨k,hk,rfl,hd⟩:=hrel;(have hlen:ns.length<=ps.length/\ps.length<=ns.length:=by have:=H2.out;omega);obtain ⟨ki,hl2⟩:=hlen;by_cases hlt:k<ps.length
     ·obtain ⟨b,off,rfl,hc0⟩:=Vq.out k (by have:=H2.out;omega)
      (have hpre:aB Any wr (.slice (some ⟨b,off,none⟩) k ij) k (fun j=>.string (gs ns j)):=by refine ⟨_,_,rfl,by omega,.inr ⟨b,off,rfl,trivial,fun j hj=>?_⟩⟩;obtain ⟨b',off',e,Mo⟩:=Vq.out j (by omega);cases e;rw [hW.below.cell (p:=⟨b,off+j,none⟩) (by have:=fS _ _ Mo;have:=HS.out;simp at *;omega)];exact Mo);(have hc:wr.cell? ⟨b,off+k,none⟩=some (.string (gs ns k)):=by rw [hW.below.cell (p:=⟨b,off+k,none⟩) (by have:=fS _ _ hc0;have:=HS.out;simp at *;omega)];exact hc0);clear hc0;have hi1:=hW.row.cell (i:=k) (by omega)
      (have hsk:(List.range k).any (fun j=>decide (gs ns k=gs ns j))=fO ns k:=by unfold fO;congr 1;funext j;exact decide_eq_decide.2 eq_comm);have FA:=aa hsk;clear hsk;have Mp:=hz k;(have hne:mj ps ns k=if isIn ps k then (if (gs ns k).size=0 then 0 else 14) else if bD (gs ns k).data.toList then (if fO ns k then 7 else 0) else 14:=rfl);have hnil:=toList_nil (gs ns k);(have hend:mj ps ns k≠0->aF ⟨ps,ns⟩=mj ps ns k:=fun hn0=>by rw [HF.out,if_neg h0,if_neg h1,if_neg (by rw [H2.out];simp),hok.out,if_pos rfl];exact iP hlt hd.out hn0);have HE:=aa hne
      have PU:=aa hend;have Ag:=aa hnil;have Mq:=aa hW;clear hne hend hnil Vq hz hW;have hi2:Dp ps ps.length k=isIn ps k:=rfl;rw [hi2] at hi1;clear hi2;generalize hin:isIn ps k=bi at *;generalize hnm:bD (gs ns k).data.toList=bn at *;generalize FB:fO ns k=bs at *;generalize JK:gs ns k=g at *;have sV:=aa hnm;clear hin hnm FB JK;cases bi
      ·cases bn
       ·go_wp2_with (first | (go_at_call 49;refine (uu _ Mp _).mono ?_;rintro e w' ⟨rfl,rfl⟩;rw [sV.out]) | (go_at_call 26;refine (eT Any _ _ k (fun j=>gs ns j) _ hpre (by omega)).mono ?_;rintro e w' ⟨rfl,rfl⟩;rw [FA.out]))
        go_ret;exact ⟨aU (by rw [PU.out (by rw [HE.out];simp),HE.out];simp),hb0.trans (Mq.out.below.mono (by omega))⟩
       ·cases bs
        ·go_wp2_with (first | (go_at_call 49;refine (uu _ Mp _).mono ?_;rintro e w' ⟨rfl,rfl⟩;rw [sV.out]) | (go_at_call 26;refine (eT Any _ _ k (fun j=>gs ns j) _ hpre (by omega)).mono ?_;rintro e w' ⟨rfl,rfl⟩;rw [FA.out]))
         go_round
         case rel=>exact ⟨k+1,by omega,by go_num,fun j hj=>if e:j=k then by subst e;rw [HE.out];simp else hd.out j (by omega)⟩
         case measure=>simp [intOf];omega
        ·go_wp2_with (first | (go_at_call 49;refine (uu _ Mp _).mono ?_;rintro e w' ⟨rfl,rfl⟩;rw [sV.out]) | (go_at_call 26;refine (eT Any _ _ k (fun j=>gs ns j) _ hpre (by omega)).mono ?_;rintro e w' ⟨rfl,rfl⟩;rw [FA.out]))
         go_ret;exact ⟨aU (by rw [PU.out (by rw [HE.out];simp),HE.out];simp),hb0.trans (Mq.out.below.mono (by omega))⟩
      ·by_cases hg0:g.size=0
       ·have hg1:g.toList=[]:=Ag.out.2 hg0
        (have hg2:(!g.toList.isEmpty)=false:=by simp [hg1]);have Dx:=aa hg0;clear hg0;go_wp2_with (first | (go_at_call 49;refine (uu _ Mp _).mono ?_;rintro e w' ⟨rfl,rfl⟩;rw [sV.out]) | (go_at_call 26;refine (eT Any _ _ k (fun j=>gs ns j) _ hpre (by omega)).mono ?_;rintro e w' ⟨rfl,rfl⟩;rw [FA.out]))
        go_round
        case rel=>exact ⟨k+1,by omega,by go_num,fun j hj=>if e:j=k then by subst e;rw [HE.out];simp [Dx.out] else hd.out j (by omega)⟩
        case measure=>simp [intOf];omega
       ·have hg1:(g.toList==[])=false:=by
         rw [ve];intro e;exact hg0 (Ag.out.1 (by simpa using e))
        have hg2:g.toList.isEmpty=false:=by
         rw [ve];intro e;exact hg0 (Ag.out.1 (by simpa using e))
        go_wp2_with (first | (go_at_call 49;refine (uu _ Mp _).mono ?_;rintro e w' ⟨rfl,rfl⟩;rw [sV.out]) | (go_at_call 26;refine (eT Any _ _ k (fun j=>gs ns j) _ hpre (by omega)).mono ?_;rintro e w' ⟨rfl,rfl⟩;rw [FA.out]))
        go_ret
        exact ⟨aU (by rw [PU.out (by rw [HE.out];simp [hg0]),HE.out];simp [hg0]),hb0.trans (Mq.out.below.mono (by omega))⟩
     ·have hk2:k=ps.length:=by omega
      clear hlt;go_wp2;go_ret;exact ⟨aU (by rw [HF.out,if_neg h0,if_neg h1,if_neg (by rw [H2.out];simp),hok.out,if_pos rfl,fT fun j hj=>hd.out j (by omega)]),hb0.trans (hW.below.mono (by omega))⟩
 ·have h2':((ns.length:Int) != ps.length)=true:=by simp;omega
  go_in;go_wp2;go_ret;exact ⟨aU (by rw [HF.out,if_neg h0,if_neg h1,if_pos h2]),nU⟩
theorem Tryz.pF:(Tryz.prog.info? 3).map (fun i=>(i.zero,i.size,i.bytes))=some (some (.int .i64 0),1,8):=by kernel_rfl
def Vr (w:World) (t:aA) (e:Ending) (w':World):Prop :=
 Below w.heap.size w w'/\((aF t≠0/\e=.returned (.tuple #[.slice none 0 0,.int .i64 1])) \/
  (aF t=0/\∃v,e=.returned (.tuple #[v,.int .i64 0])/\af (fun b=>w.heap.size<=b) w' v (aq t.ns)))
theorem Ah (S:Nat->Prop) (w:World) (v:Value) (t:aA) (h:aJ S w v t) (hp:t.ps.length<=1000000) (hn:t.ns.length<=1000000) (hz:∀k,(gs t.ns k).size<=70000) :
  Calls Tryz.prog 78 #[v] w (Vr w t):=by
 obtain ⟨P,N,rfl,hP,hN⟩:=h;have ht0:aJ S (w.alloc (.cells #[P,N] 33)) (.agg #[P,N]) t:=aJ.keep ⟨P,N,rfl,hP,hN⟩ (Kept.below ((b7 _ w).alloc (aj _) _));have hb0:Below w.heap.size w (w.alloc (.cells #[P,N] 33)):=(b7 _ _).alloc (aj _) _;have Du:(w.alloc (.cells #[P,N] 33)).cell? ⟨w.heap.size,1,none⟩=some N:=by simp [World.cell?_alloc_new]
 have sP:=qY S (w.alloc (.cells #[P,N] 33)) _ t ht0 hp hn hz;rw [aN] at sP;have fo:=aa sP;have Sz:=aa Du;have sW:=aa hb0;have HN:=aa hN;clear sP Du hb0 ht0 hP hN;by_cases he:aF t=0
 ·go_in
  go_wp2_with fail;refine fo.out.mono ?_;rintro e w1 ⟨rfl,hb1⟩;have jh:Below w.heap.size w w1:=sW.out.trans (hb1.mono (by omega));have sX:=HN.out.keep (Kept.below jh);have Du:w1.cell? ⟨w.heap.size,1,none⟩=some N:=(hb1.cell (p:=⟨w.heap.size,1,none⟩) (by simp)).trans Sz.out;obtain ⟨q,ij,rfl,E3,kF⟩:=aB.open sX;have Vs:=aa kF;have hwz:w.heap.size<=w1.heap.size:=jh.size;have HE:=aa he;rw [he];clear kF sX fo Sz sW HN hb1 he;go_wp2
  go_loopw [4,5,6,13] (fun v _ _ i wr=>∃k:Nat,k<=t.ns.length/\i=.int .i64 k/\au w1.heap.size 3 wr v ((oJ t.ns k).map (Value.int .i64))/\Below w1.heap.size w1 wr) (fun _ _ _ i _=>t.ns.length - (intOf i).toNat)
  case atStart=>exact ⟨0,bg _,rfl,au.nil _ _ _,b7 _ _⟩
  case round =>
   obtain ⟨k,hk,rfl,hown,hbr⟩:=hrel;by_cases hlt:k<t.ns.length
   ·obtain ⟨b,off,rfl,hc0⟩:=Vs.out k hlt
    (have hc:wr.cell? ⟨b,off+k,none⟩=some (.string (gs t.ns k)):=by rw [hbr.cell (p:=⟨b,off+k,none⟩) (fS _ _ hc0)];exact hc0);have hsz:=hbr.size;have jq:=Fb t.ns k;have pW:=I8 t.ns k;have hnil:=toList_nil (gs t.ns k);have Ag:=aa hnil;have rD:=aa jq;(have kZ:Hid (((oJ t.ns k).map (Value.int .i64)).length<=1000000):=by unfold Hid;rw [aD];omega);clear hc0 hnil jq pW Vs hz;generalize JK:gs t.ns k=g at *;clear JK;by_cases hg0:g.size=0
    ·have hg1:g.toList=[]:=Ag.out.2 hg0
     have Dx:=aa hg0;clear hg0;go_wp2
     go_roundw
     case rel=>exact ⟨k+1,by omega,by go_num,by rw [rD.out,if_pos Dx.out,gm];exact hown,hbr⟩
     case measure=>simp [intOf];omega
    ·have hg1:(g.toList==[])=false:=by
      rw [ve];intro e;exact hg0 (Ag.out.1 (by simpa using e))
     have hg2:(g.toList != [])=true:=by
      rw [bne_iff_ne];intro e;exact hg0 (Ag.out.1 (by simpa using e))
     have Dx:=aa hg0
     clear hg0
     go_wp2_with (at_builtin;refine ja wr rfl _ _ 27 rfl w1.heap.size 3 _ 8 Tryz.underlying27 Tryz.pF rfl (by decide) hown rfl _ rfl rfl kZ.out hsz ?_;intro g cap w2 hown1 hg1 hb1)
     go_roundw
     case rel=>exact ⟨k+1,by omega,by go_num,by rw [rD.out,if_neg Dx.out,cm];rw [aD] at hown1;exact hown1,hbr.trans hb1⟩
     case measure=>simp [intOf];omega
   ·obtain rfl:k=t.ns.length:=by omega
    clear hlt hk Vs;go_wp2;go_ret2;exact ⟨jh.trans (hbr.mono hwz),.inr ⟨HE.out,_,rfl,hown.ints.sub fun b hb _=>aV hwz hb⟩⟩
 ·have he':(aF t != 0)=true:=by simpa using he
  have HE:=aa he;clear he;go_in;go_wp2_with fail;refine fo.out.mono ?_;rintro e w1 ⟨rfl,hb1⟩;go_wp2;go_ret2;exact ⟨sW.out.trans (hb1.mono (by omega)),.inl ⟨HE.out,rfl⟩⟩
end
end Go.Proofs.YtfomhlbhcifgbaaGreatDoor
