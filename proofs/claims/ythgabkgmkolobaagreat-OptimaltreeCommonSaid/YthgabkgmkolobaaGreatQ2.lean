/- Names: Letters, IsName, the names of leaves. Contracts: slices.Index and Contains of .. -/
import Derived.Shelf.Abstract
import Derived.Maps.AppendAt
import Derived.Deep.AppendLies
import Derived.Test.YthgabkgmkolobaaGreatQ1
set_option maxRecDepth 100000
set_option maxHeartbeats 800000
namespace Go.Proofs.YthgabkgmkolobaaGreat
section
open Go.RowKit Go.Deep
theorem Br (c:UInt8):(gW c.toNat=1\/gW c.toNat=3)↔zO c=true:=by
 unfold gW zO isLet;simp only [Ah,gD,decide_eq_true_eq]
 repeat' split
 all_goals simp at *
 all_goals omega
theorem O2 (l:List UInt8):rD l<=l.length:=List.countP_le_length
theorem cntA_snoc (l:List UInt8) (c:UInt8):rD (l++[c])=rD l+if zO c then 1 else 0:=by
 simp [rD,List.countP_append,List.countP_cons]
theorem take_snoc (s:ByteArray) (k:Nat) (h:k<s.size):s.data.toList.take (k+1)=s.data.toList.take k++[s[k]]:=by
 rw [jY (by simpa using h)];rfl
theorem Te (l:List UInt8):rD l=l.length↔l.all zO=true:=by
 simp [rD,List.countP_eq_length]
theorem Hw (s:ByteArray) (k:Nat) (h:k<s.size):rD (s.data.toList.take (k+1))=rD (s.data.toList.take k)+if zO s[k] then 1 else 0:=by
 rw [take_snoc s k h,cntA_snoc]
theorem letters_t (s:ByteArray) (hs:s.size<=70000) (w:World):Calls Tryz.prog 183 #[.string s] w fun e w'=>e=.returned (.int .i64 (rD s.data.toList))/\w=w':=by
 go_enter Tryz.func183,Tryz.ntmps183
 go_wp2
 go_loop [3,4,5,8] (fun n _ _ i=>∃k:Nat,k<=s.size/\i=.int .i64 k/\n=.int .i64 (rD (s.data.toList.take k))) (fun _ _ _ i=>s.size - (intOf i).toNat)
 case atStart=>exact ⟨0,aL _,rfl,rfl⟩
 case round =>
  obtain ⟨k,hk,rfl,rfl⟩:=hrel
  have hb:rD (s.data.toList.take k)<=70000:=aJ (O2 _) (by simp;omega)
  by_cases hlt:k<s.size
  ·have hst:=Hw s k hlt
   have hk':=Br s[k]
   have hc:s[k].toNat<256:=s[k].toNat_lt
   generalize hm:rD (s.data.toList.take k)=m at *
   have HS:=aa hst
   have HK:=aa hk'
   clear hst hm hk'
   go_wp2_with (go_at_call 239;refine (kind_t _ hc _).mono ?_;rintro e w' ⟨rfl,rfl⟩;generalize gW _=q at *)
   all_goals
    go_round
    case rel=>exact ⟨k+1,by omega,by go_num,by rw [HS.out];first | (rw [if_pos (HK.out.1 (by first | omega | (simp only [beq_iff_eq] at *;omega)))];go_num) | (rw [if_neg (fun h=>by have:=HK.out.2 h;simp only [beq_eq_false_iff_ne,ne_eq] at *;omega)];go_num)⟩
    case measure=>simp [intOf];omega
  ·go_wp2
   go_ret
   exact ⟨aM (by rw [Bj (by simp;omega)]),rfl⟩
theorem Bu (s:ByteArray) (hs:s.size<=70000) (w:World):Calls Tryz.prog 128 #[.string s] w fun e w'=>e=.returned (.bool (jl s.data.toList))/\w=w':=by
 have hl:s.data.toList.length=s.size:=by simp
 have ha:=Te s.data.toList;have hle:=O2 s.data.toList;have he:s.data.toList=[]↔s.size=0:=by rw [<- CL,hl]
 rw [hl] at ha hle;have HA:=aa ha;have HL:=aa hl;have HE:=aa he;clear ha hl he;have hE1:=toList_nil s;have eU:jl s.data.toList=decide (1<=s.size/\s.size<=16/\rD s.data.toList=s.size):=by unfold jl;rw [HL.out,lR];simp only [gD,decide_eq_true_eq];rw [<- HA.out,and_assoc]
 have HF:=aa eU;have Na:=aa hE1;clear eU hE1 HA HL HE;generalize hm:rD s.data.toList=m at *;have HM:=aa hm;clear hm
 go_enter Tryz.func128,Tryz.ntmps128
 go_wp2_with (go_at_call 183;refine (letters_t _ hs _).mono ?_;rintro e w' ⟨rfl,rfl⟩;rw [HM.out])
 all_goals go_ret
 all_goals refine ⟨aV ?_,rfl⟩
 all_goals rw [HF.out]
 ·have:=Na.out.1 ‹_›;simp;omega
 ·have hne:¬s.size=0:=fun h=>‹¬s.toList=[]› (Na.out.2 h)
  have O3:s.toList.isEmpty=false:=by simpa using ‹¬s.toList=[]›
  rw [lR];simp [O3];omega
 ·simp;omega

theorem aln_star:zO 42=false:=by decide
theorem Hx (l:List UInt8) (h:l.getLast? = some 42):jl l=false:=by
 obtain ⟨a,rfl⟩:=List.getLast?_eq_some_iff.1 h;simp [jl,aln_star]
theorem Tf (s:ByteArray) (h1:1<=s.size):(s.extract (s.size - 1) s.size).toList=[42]↔s.data.toList.getLast? = some 42:=by
 have hl:=size_data s;rw [toList_data,Fm,Array.toList_extract,List.extract_eq_take_drop];generalize s.data.toList=l at *;have hne:l≠[]:=by intro e;rw [e] at hl;simp at hl;omega
 rw [<- hl];clear hl h1;obtain ⟨a,x,rfl⟩:∃a x,l=a++[x]:=⟨l.dropLast,l.getLast hne,(List.dropLast_concat_getLast hne).symm⟩;simp
theorem Tg (s:ByteArray):(s.extract 0 (s.size - 1)).data.toList=s.data.toList.dropLast:=by
 have hl:=size_data s;rw [Fm,Array.toList_extract,List.extract_eq_take_drop,List.dropLast_eq_take,hl];simp
def CutPost (s:ByteArray) (e:Ending):Prop:=(s.data.toList.getLast? = some 42/\∃r:ByteArray,r.size<=s.size/\r.data.toList=s.data.toList.dropLast/\e=.returned (.tuple #[.string r,.bool true]))\/(s.data.toList.getLast? ≠ some 42/\e=.returned (.tuple #[.string s,.bool false]))
theorem suffix_t (s:ByteArray) (hs:s.size<=70000) (w:World):Calls Tryz.prog 197 #[.string s,.string ⟨#[42]⟩] w fun e w'=>CutPost s e/\w=w':=by
 by_cases h0:s.size=0
 ·have hc:s.data.toList=[]:=by rw [<- toList_data];exact (toList_nil s).2 h0
  have HC:=aa hc;clear hc
  go_enter Tryz.func197,Tryz.ntmps197
  go_wp2;go_ret2;exact ⟨.inr ⟨by rw [HC.out];simp,rfl⟩,rfl⟩
 ·have h1:1<=s.size:=by omega
  clear h0
  go_enter Tryz.func197,Tryz.ntmps197
  go_wp2
  ·go_ret2
   refine ⟨.inr ⟨fun e=>?_,rfl⟩,rfl⟩;have:=(Tf s h1).2 e;simp_all
  ·go_ret2
   have h2:=‹(!(s.extract (s.size - 1) s.size).toList==[42])=false›;exact ⟨.inl ⟨(Tf s h1).1 (by simpa using h2),s.extract 0 (s.size - 1),by simp,Tg s,rfl⟩,rfl⟩
theorem Em (s:ByteArray) (hs:s.size<=70000) (w:World):Calls Tryz.prog 138 #[.string s] w fun e w'=>e=.returned (.bool (b7 s.data.toList))/\w=w':=by
 have hl:=size_data s;have HL:=aa hl;clear hl
 go_enter Tryz.func138,Tryz.ntmps138
 go_wp2_with fail;refine (suffix_t s hs _).mono ?_;rintro e w' ⟨⟨h1,r,hr,hd,rfl⟩ | ⟨h1,rfl⟩,rfl⟩
 ·have hf:b7 s.data.toList=(decide (s.size<=16)&&jl r.data.toList):=by
   unfold b7;rw [if_pos h1,hd,HL.out,Bool.and_comm]
  have HF:=aa hf
  clear hf hd h1
  go_wp2_with (go_at_call 128;refine (Bu r (by omega) _).mono ?_;rintro e w' ⟨rfl,rfl⟩)
  all_goals
   go_ret
   refine ⟨aV ?_,rfl⟩
   rw [HF.out,lR]
   simp at *
   try omega
 ·have hf:b7 s.data.toList=jl s.data.toList:=by unfold b7;rw [if_neg h1]
  have HF:=aa hf;clear hf h1;go_wp2_with (go_at_call 128;refine (Bu s hs _).mono ?_;rintro e w' ⟨rfl,rfl⟩);go_ret;exact ⟨aV (by rw [HF.out]),rfl⟩
theorem O4 {x y:ByteArray} (h:(x.toList==y.toList)=true):x=y:=by
 rw [beq_iff_eq,toList_data,toList_data] at h;exact j9 h
theorem Th {x y:ByteArray} (h:(x.toList==y.toList)=false):¬x=y:=by
 rintro rfl;simp at h
theorem DJ (S:Nat->Prop) (w:World) (v:Value) (n:Nat) (f:Nat->ByteArray) (x:ByteArray) (h:ay S w v n (fun k=>.string (f k))) (hn:n<=1000000) :
  Calls Tryz.prog 95 #[v,.string x] w fun e w'=>e=.returned (.int .i64 (dI (fun j=>decide (x=f j)) n))/\w=w':=by
 obtain ⟨p,cap,rfl,hcap,H⟩:=h.open;clear h
 go_enter Tryz.func95,Tryz.ntmps95
 go_wp2
 go_loop [5,8] (fun _ i=>∃k:Nat,k<=n/\i=.int .i64 k/\Hid (∀j,j<k->decide (x=f j)=false)) (fun _ i=>n - (intOf i).toNat)
 case atStart=>exact ⟨0,aL _,rfl,fun j hj=>absurd hj (bG _)⟩
 case round =>
  obtain ⟨k,hk,rfl,hd⟩:=hrel;by_cases hlt:k<n
  ·obtain ⟨b,off,rfl,hc⟩:=H k hlt
   clear H;go_wp2
   ·have hx:=O4 ‹(x.toList==(f k).toList)=true›
    go_ret;exact ⟨aM (iK (p:=fun j=>decide (x=f j)) hlt hd.out (by simpa using hx)).symm,rfl⟩
   ·have hx:=Th ‹(x.toList==(f k).toList)=false›
    go_round
    case rel=>exact ⟨k+1,by omega,by go_num,fun j hj=>if e:j=k then by subst e;simpa using hx else hd.out j (by omega)⟩
    case measure=>simp [intOf];omega
  ·clear H
   go_wp2;go_ret;exact ⟨aM (fI fun j hj=>hd.out j (by omega)).symm,rfl⟩
theorem kr (S:Nat->Prop) (w:World) (v:Value) (n:Nat) (f:Nat->ByteArray) (x:ByteArray) (h:ay S w v n (fun k=>.string (f k))) (hn:n<=1000000) :
  Calls Tryz.prog 32 #[v,.string x] w fun e w'=>e=.returned (.bool ((List.range n).any fun j=>decide (x=f j)))/\w=w':=by
 have hx:=gX (fun j=>decide (x=f j)) n;have HX:=aa hx;clear hx
 go_enter Tryz.func32,Tryz.ntmps32
 go_wp2_with (go_at_call 95;refine (DJ S w v n f x h hn).mono ?_;rintro e w' ⟨rfl,rfl⟩);go_ret;exact ⟨aV (by rw [<- HX.out]),rfl⟩
def Lz (g:Nat) (lb args:Array Value) (res:Value) (w:World):Prop:=Calls Tryz.prog g (args++lb) w fun e w'=>e=.returned res/\w=w'
theorem ints_ix_t (g:Nat) (lb:Array Value) (eg:∀args w,(callFunc g args).run Tryz.prog w=.ok (.enter g args) w) (S:Nat->Prop) (w:World) (v:Value) (n:Nat) (f:Nat->Value) (p:Nat->Bool)
  (h:ay S w v n f) (hn:n<=1000000) (hp:∀k,k<n->Lz g lb #[f k] (.bool (p k)) w) :
  Calls Tryz.prog 117 #[v,.func (.func g) #[] lb] w fun e w'=>e=.returned (.int .i64 (dI p n))/\w=w':=by
 obtain ⟨q,cap,rfl,hcap,H⟩:=h.open;have HP:=aa hp;clear h hp
 go_enter Tryz.func117,Tryz.ntmps117
 go_wp2_with fail
 go_loop [5,8] (fun _ i=>∃k:Nat,k<=n/\i=.int .i64 k/\Hid (∀j,j<k->p j=false)) (fun _ i=>n - (intOf i).toNat)
 case atStart=>exact ⟨0,aL _,rfl,fun j hj=>absurd hj (bG _)⟩
 case round =>
  obtain ⟨k,hk,rfl,hd⟩:=hrel;by_cases hlt:k<n
  ·obtain ⟨b,off,rfl,hc⟩:=H k hlt
   clear H;have hpk:=HP.out k hlt;unfold Lz at hpk;have pJ:=aa hpk;clear hpk HP;generalize hv:p k=pk at *;have HV:=aa hv;clear hv;cases pk
   ·go_wp2_with fail
    refine pJ.out.mono ?_;rintro e w' ⟨rfl,rfl⟩;go_wp2_with fail
    go_round
    case rel=>exact ⟨k+1,by omega,by go_num,fun j hj=>if e:j=k then by subst e;exact HV.out else hd.out j (by omega)⟩
    case measure=>simp [intOf];omega
   ·go_wp2_with fail
    refine pJ.out.mono ?_;rintro e w' ⟨rfl,rfl⟩;go_wp2_with fail;go_ret;exact ⟨aM (iK hlt hd.out HV.out).symm,rfl⟩
  ·clear H
   go_wp2_with fail;go_ret;exact ⟨aM (fI fun j hj=>hd.out j (by omega)).symm,rfl⟩
theorem Nb (g:Nat) (lb:Array Value) (eg:∀args w,(callFunc g args).run Tryz.prog w=.ok (.enter g args) w) (S:Nat->Prop) (w:World) (v:Value) (n:Nat) (f:Nat->Value) (p:Nat->Bool)
  (h:ay S w v n f) (hn:n<=1000000) (hp:∀k,k<n->Lz g lb #[f k] (.bool (p k)) w) :
  Calls Tryz.prog 63 #[v,.func (.func g) #[] lb] w fun e w'=>e=.returned (.bool ((List.range n).any p))/\w=w':=by
 have hx:=gX p n;have HX:=aa hx;have HI:=aa (ints_ix_t g lb eg S w v n f p h hn hp);clear hx hp h eg
 go_enter Tryz.func63,Tryz.ntmps63
 go_wp2_with fail;refine HI.out.mono ?_;rintro e w' ⟨rfl,rfl⟩;go_wp2_with fail;go_ret;exact ⟨aV (by rw [<- HX.out]),rfl⟩
theorem Tryz.infoB:(Tryz.prog.info? 4).map (fun i=>(i.zero,i.size,i.bytes))=some (some (.bool false),1,1):=by kernel_rfl
structure Kw (w0 wr:World) (B n:Nat) (f:Nat->Bool):Prop where
 below:Below B w0 wr
 row:wr.rowIs B 4 n (fun j=>.bool (f j))
 size:wr.heap.size=B+1
theorem Kw.start (w0:World) (n:Nat) (f:Nat->Bool) (hf:∀j,f j=false):Kw w0 (w0.alloc (.cells (madeCells #[.bool false] n) 4)) w0.heap.size n f :=
 ⟨(dM _ _).alloc (af _) _,(Bo w0 _ n _).congr fun i _=>by simp [hf],by simp⟩
theorem Kw.set {w0 wr:World} {B n q:Nat} {f g:Nat->Bool} (h:Kw w0 wr B n f) (hg:∀j,g j=(f j || decide (j=q))) :
  Kw w0 (wr.setCell ⟨B,q,none⟩ (.bool true)) B n g :=
 ⟨h.below.setCell (p:=⟨B,q,none⟩) (af _) _,(h.row.set q _).congr fun i _=>by
  by_cases e:i=q
  ·simp [e,hg]
  ·simp [e,hg],by simp [h.size]⟩
theorem Kw.congr {w0 wr:World} {B n:Nat} {f g:Nat->Bool} (h:Kw w0 wr B n f) (hg:∀j,g j=f j):Kw w0 wr B n g :=
 ⟨h.below,h.row.congr fun i _=>by simp [hg],h.size⟩
theorem xS (S : Nat -> Prop) (w : World) (v : Value) (t : az) (h : aI S w v t) (hp : t.ps.length <= 1000000) (hn : t.ns.length <= 1000000) (hz : ∀ k, (gs t.ns k).size <= 70000) :
    Calls Tryz.prog 87 #[v] w fun e w' => e = .returned (.int .i64 (aH t)) /\ Below w.heap.size w w' := by
  obtain ⟨P, N, rfl, hP, hN⟩ := h
  obtain ⟨ps, ns⟩ := t
  simp only at *
  have eU : aH ⟨ps, ns⟩ = if ps.length = 0 then 5 else if 64 < ps.length then 4 else if ns.length ≠ ps.length then 9 else if k8 ps then bU (oZ ps ns) ps.length else 2 := rfl
  have HF := aa eU
  clear eU
  have hP' := hP.keep (Kept.below ((dM _ w).alloc (af _) (.cells #[P, N] 39)))
  have hN' := hN.keep (Kept.below ((dM _ w).alloc (af _) (.cells #[P, N] 39)))
  clear hP hN
  obtain ⟨p, cap, rfl, hcap, HP⟩ := ay.open hP'
  obtain ⟨q, fS, rfl, JW, HN⟩ := ay.open hN'
  have iT : Below w.heap.size w (w.alloc (.cells #[.slice p ps.length cap, .slice q ns.length fS] 39)) := (dM _ _).alloc (af _) _
  have Yt := aa HP
  have Ti := aa HN
  clear hP' hN' HP HN
  by_cases h0 : ps.length = 0
  · have HX : Hid (ps.length = 0) := h0
    have h0' : ((ps.length : Int) == 0) = true := by simp [h0]
    clear h0
    go_enter Tryz.func87, Tryz.ntmps87
    go_wp2
    go_ret
    exact ⟨aM (by rw [HF.out, if_pos HX.out]), iT⟩
  have h0' : ((ps.length : Int) == 0) = false := by simpa using h0
  by_cases h1 : 64 < ps.length
  · go_enter Tryz.func87, Tryz.ntmps87
    go_wp2
    go_ret
    exact ⟨aM (by rw [HF.out, if_neg h0, if_pos h1]), iT⟩
  by_cases h2 : ns.length = ps.length
  · have Qf : ((ns.length : Int) != ps.length) = false := by simp [h2]
    have H2 := aa h2
    clear h2
    have hmk := fun W => run_make_row' (P := Tryz.prog) 163 4 (.bool false) 1 Tryz.underlying163 Tryz.infoB rfl .i64 .i64 ps.length (by omega) (by omega) W
    go_enter Tryz.func87, Tryz.ntmps87
    go_wp2
    clear hmk iT
    have hstart := Kw.start (w.alloc (.cells #[.slice p ps.length cap, .slice q ns.length fS] 39)) ps.length (fun j => Ht ps 0 j) (fun j => rfl)
    rw [aQ] at hstart
    have qX : (w.alloc (.cells #[.slice p ps.length cap, .slice q ns.length fS] 39)).cell? ⟨w.heap.size, 0, none⟩ = some (.slice p ps.length cap) := by simp [World.cell?_alloc_new]
    have En : (w.alloc (.cells #[.slice p ps.length cap, .slice q ns.length fS] 39)).cell? ⟨w.heap.size, 1, none⟩ = some (.slice q ns.length fS) := by simp [World.cell?_alloc_new]
    have hb0 : Below w.heap.size w (w.alloc (.cells #[.slice p ps.length cap, .slice q ns.length fS] 39)) := (dM _ _).alloc (af _) _
    have hsz : (w.alloc (.cells #[.slice p ps.length cap, .slice q ns.length fS] 39)).heap.size = w.heap.size + 1 := by simp
    generalize hw0 : w.alloc (.cells #[.slice p ps.length cap, .slice q ns.length fS] 39) = w0 at *
    clear hw0
    have HS := aa hsz
    have GG := aa qX
    have Yu := aa En
    clear hsz qX En
    go_loopw [4, 5, 33] (fun _ _ i wr => ∃ k : Nat, k <= ps.length /\ i = .int .i64 k /\ Hid (∀ j, j < k -> qq j (gi ps j) = true) /\ Kw w0 wr (w.heap.size + 1) ps.length (fun j => Ht ps k j)) (fun _ _ i _ => ps.length - (intOf i).toNat)
    case atStart => exact ⟨0, aL _, rfl, fun j hj => absurd hj (bG _), hstart⟩
    case round =>
      obtain ⟨k, hk, rfl, hd, hW⟩ := hrel
      clear hstart
      by_cases hlt : k < ps.length
      · obtain ⟨b, off, rfl, hc0⟩ := Yt.out k hlt
        have hc : wr.cell? ⟨b, off + k, none⟩ = some (.int .i64 (gi ps k)) := by
          rw [hW.below.cell (p := ⟨b, off + k, none⟩) (by have := eG _ _ hc0; have := HS.out; simp at *; omega)]; exact hc0
        clear hc0
        generalize hpk : gi ps k = x at *
        have HX := aa hpk
        clear hpk
        by_cases hg : 0 < k /\ 0 <= x /\ x < k
        · obtain ⟨g1, g2, g3⟩ := hg
          obtain ⟨y, rfl⟩ := pE g2
          have hi1 := hW.row.cell (i := y) (by omega)
          have hi2 := hW.row.frozen y
          go_wp2
          go_roundw
          case rel => exact ⟨k + 1, by omega, by go_num, fun j hj => if e : j = k then by subst e; rw [HX.out]; unfold qq; rw [if_neg (by omega)]; simp; omega else hd.out j (by omega), hW.set (q := y) fun j => by rw [S9, HX.out]; simp only [g1, decide_true, Bool.true_and]; congr 1; rw [lR]; simp; omega⟩
          case measure => simp [intOf]; omega
        · by_cases Nc : k = 0 /\ x = -1
          · obtain ⟨rfl, rfl⟩ := Nc
            have hc' : wr.cell? ⟨b, off, none⟩ = some (.int .i64 (-1)) := by simpa using hc
            go_wp2
            go_roundw
            case rel => exact ⟨1, by omega, by go_num, fun j hj => by obtain rfl : j = 0 := by omega
                                                                      rw [HX.out]; rfl, hW.congr fun j => by rw [S9]; simp⟩
            case measure => simp [intOf]; omega
          · have rE : qq k x = false := by
              unfold qq; split
              · rename_i e; simp; exact fun e2 => Nc ⟨e, e2⟩
              · simp; intro; omega
            rw [<- HX.out] at rE
            have HB := aa (Ta hlt rE)
            clear rE
            go_wp2
            all_goals go_ret
            all_goals exact ⟨aM (by rw [HF.out, if_neg h0, if_neg h1, if_neg (by rw [H2.out]; simp), HB.out]; simp), hb0.trans (hW.below.mono (by omega))⟩
      · obtain rfl : k = ps.length := by omega
        have hok := aa (Lx hd.out)
        have xI : wr.cell? ⟨w.heap.size, 1, none⟩ = some (.slice q ns.length fS) := by
          rw [hW.below.cell (p := ⟨w.heap.size, 1, none⟩) (by simp)]; exact Yu.out
        clear hlt hk hd Yt hcap
        go_wp2
        go_loop [6, 7, 66] (fun _ _ i => ∃ k : Nat, k <= ps.length /\ i = .int .i64 k /\ Hid (∀ j, j < k -> oZ ps ns j = 0)) (fun _ _ i => ps.length - (intOf i).toNat)
        case atStart => exact ⟨0, aL _, rfl, fun j hj => absurd hj (bG _)⟩
        case round =>
          obtain ⟨k, hk, rfl, hd⟩ := hrel
          have hlen : ns.length <= ps.length /\ ps.length <= ns.length := by have := H2.out; omega
          obtain ⟨kI, hl2⟩ := hlen
          by_cases hlt : k < ps.length
          · obtain ⟨b, off, rfl, hc0⟩ := Ti.out k (by have := H2.out; omega)
            have hpre : ay Any wr (.slice (some ⟨b, off, none⟩) k fS) k (fun j => .string (gs ns j)) := by
              refine ⟨_, _, rfl, by omega, .inr ⟨b, off, rfl, trivial, fun j hj => ?_⟩⟩
              obtain ⟨b', off', e, GH⟩ := Ti.out j (by omega)
              cases e
              rw [hW.below.cell (p := ⟨b, off + j, none⟩) (by have := eG _ _ GH; have := HS.out; simp at *; omega)]; exact GH
            have hc : wr.cell? ⟨b, off + k, none⟩ = some (.string (gs ns k)) := by
              rw [hW.below.cell (p := ⟨b, off + k, none⟩) (by have := eG _ _ hc0; have := HS.out; simp at *; omega)]; exact hc0
            clear hc0
            have hi1 := hW.row.cell (i := k) (by omega)
            have hsk : (List.range k).any (fun j => decide (gs ns k = gs ns j)) = fk ns k := by
              unfold fk; congr 1; funext j; exact decide_eq_decide.2 eq_comm
            have GI := aa hsk
            clear hsk
            have Tj := hz k
            have hne : oZ ps ns k = if isIn ps k then (if (gs ns k).size = 0 then 0 else 14) else if b7 (gs ns k).data.toList then (if fk ns k then 7 else 0) else 14 := rfl
            have hnil := toList_nil (gs ns k)
            have hend : oZ ps ns k ≠ 0 -> aH ⟨ps, ns⟩ = oZ ps ns k := fun hn0 => by
              rw [HF.out, if_neg h0, if_neg h1, if_neg (by rw [H2.out]; simp), hok.out, if_pos rfl]; exact gm hlt hd.out hn0
            have HE := aa hne
            have o5 := aa hend
            have Bv := aa hnil
            have pM := aa hW
            clear hne hend hnil Ti hz hW
            have hi2 : Ht ps ps.length k = isIn ps k := rfl
            rw [hi2] at hi1
            clear hi2
            generalize hin : isIn ps k = bi at *
            generalize hnm : b7 (gs ns k).data.toList = bn at *
            generalize ud : fk ns k = bs at *
            generalize Qg : gs ns k = g at *
            have je := aa hnm
            clear hin hnm ud Qg
            cases bi
            · cases bn
              · go_wp2_with (first | (go_at_call 138; refine (Em _ Tj _).mono ?_; rintro e w' ⟨rfl, rfl⟩; rw [je.out]) | (go_at_call 32; refine (kr Any _ _ k (fun j => gs ns j) _ hpre (by omega)).mono ?_; rintro e w' ⟨rfl, rfl⟩; rw [GI.out]))
                go_ret
                exact ⟨aM (by rw [o5.out (by rw [HE.out]; simp), HE.out]; simp), hb0.trans (pM.out.below.mono (by omega))⟩
              · cases bs
                · go_wp2_with (first | (go_at_call 138; refine (Em _ Tj _).mono ?_; rintro e w' ⟨rfl, rfl⟩; rw [je.out]) | (go_at_call 32; refine (kr Any _ _ k (fun j => gs ns j) _ hpre (by omega)).mono ?_; rintro e w' ⟨rfl, rfl⟩; rw [GI.out]))
                  go_round
                  case rel => exact ⟨k + 1, by omega, by go_num, fun j hj => if e : j = k then by subst e; rw [HE.out]; simp else hd.out j (by omega)⟩
                  case measure => simp [intOf]; omega
                · go_wp2_with (first | (go_at_call 138; refine (Em _ Tj _).mono ?_; rintro e w' ⟨rfl, rfl⟩; rw [je.out]) | (go_at_call 32; refine (kr Any _ _ k (fun j => gs ns j) _ hpre (by omega)).mono ?_; rintro e w' ⟨rfl, rfl⟩; rw [GI.out]))
                  go_ret
                  exact ⟨aM (by rw [o5.out (by rw [HE.out]; simp), HE.out]; simp), hb0.trans (pM.out.below.mono (by omega))⟩
            · by_cases hg0 : g.size = 0
              · have hg1 : g.toList = [] := Bv.out.2 hg0
                have hg2 : (!g.toList.isEmpty) = false := by simp [hg1]
                have Eo := aa hg0
                clear hg0
                go_wp2_with (first | (go_at_call 138; refine (Em _ Tj _).mono ?_; rintro e w' ⟨rfl, rfl⟩; rw [je.out]) | (go_at_call 32; refine (kr Any _ _ k (fun j => gs ns j) _ hpre (by omega)).mono ?_; rintro e w' ⟨rfl, rfl⟩; rw [GI.out]))
                go_round
                case rel => exact ⟨k + 1, by omega, by go_num, fun j hj => if e : j = k then by subst e; rw [HE.out]; simp [Eo.out] else hd.out j (by omega)⟩
                case measure => simp [intOf]; omega
              · have hg1 : (g.toList == []) = false := by
                  rw [uZ]; intro e; exact hg0 (Bv.out.1 (by simpa using e))
                have hg2 : g.toList.isEmpty = false := by
                  rw [uZ]; intro e; exact hg0 (Bv.out.1 (by simpa using e))
                go_wp2_with (first | (go_at_call 138; refine (Em _ Tj _).mono ?_; rintro e w' ⟨rfl, rfl⟩; rw [je.out]) | (go_at_call 32; refine (kr Any _ _ k (fun j => gs ns j) _ hpre (by omega)).mono ?_; rintro e w' ⟨rfl, rfl⟩; rw [GI.out]))
                go_ret
                exact ⟨aM (by rw [o5.out (by rw [HE.out]; simp [hg0]), HE.out]; simp [hg0]), hb0.trans (pM.out.below.mono (by omega))⟩
          · have hk2 : k = ps.length := by omega
            clear hlt
            go_wp2
            go_ret
            exact ⟨aM (by rw [HF.out, if_neg h0, if_neg h1, if_neg (by rw [H2.out]; simp), hok.out, if_pos rfl, cR fun j hj => hd.out j (by omega)]), hb0.trans (hW.below.mono (by omega))⟩
  · have Qf : ((ns.length : Int) != ps.length) = true := by simp; omega
    go_enter Tryz.func87, Tryz.ntmps87
    go_wp2
    go_ret
    exact ⟨aM (by rw [HF.out, if_neg h0, if_neg h1, if_pos h2]), iT⟩
def ax (base:Nat) (e:TypeId) (w:World) (v:Value) (vs:List Value):Prop:=w.ownsRow base e 1 v vs.length vs
theorem ax.nil (base:Nat) (e:TypeId) (w:World):ax base e w (.slice none 0 0) []:=World.ownsRow_nil _ _ _ _
theorem ay.congr {S:Nat->Prop} {w:World} {v:Value} {n:Nat} {f g:Nat->Value} (h:ay S w v n f) (e:∀k,k<n->f k=g k):ay S w v n g:=by
 obtain ⟨p,cap,rfl,hn,h⟩:=h;refine ⟨p,cap,rfl,hn,?_⟩;rcases h with h | ⟨b,off,rfl,hS,h⟩
 ·exact .inl h
 ·exact .inr ⟨b,off,rfl,hS,fun k hk=>by rw [<- e k hk];exact h k hk⟩
theorem ax.vz {base:Nat} {e:TypeId} {w:World} {v:Value} {vs:List Value} (h:ax base e w v vs):ay (fun b=>base<=b) w v vs.length (fun k=>vs.getD k undef):=by
 rcases h.2 with ⟨rfl,h0⟩ | ⟨g,cap,cur,rfl,hg,hc,hn,_,_,ht⟩
 ·exact ⟨none,0,by rw [h0],by omega,.inl h0⟩
 ·refine ⟨_,cap,rfl,hn,.inr ⟨g,0,rfl,hg,fun k hk=>?_⟩⟩
  have:=World.ownsRow.cells h (g:=g) rfl k vs[k] (by simp [hk]);have DK:(⟨g,0,none⟩:Addr).add k=⟨g,0+k,none⟩:=by unfold Addr.add;split<;>simp_all
  rw [DK] at this;rw [this];simp [hk]
theorem ax.ints {base:Nat} {e:TypeId} {w:World} {v:Value} {xs:List Int} (h:ax base e w v (xs.map (Value.int .i64))):ah (fun b=>base<=b) w v xs:=by
 have:=h.vz;rw [aG] at this;exact this.congr fun k hk=>by simp [gi,hk]
theorem ax.strs {base:Nat} {e:TypeId} {w:World} {v:Value} {xs:List ByteArray} (h:ax base e w v (xs.map Value.string)):au (fun b=>base<=b) w v xs:=by
 have:=h.vz;rw [aG] at this;exact this.congr fun k hk=>by simp [gs,hk]
theorem ax.kept {base:Nat} {e:TypeId} {w w':World} {v:Value} {vs:List Value} (h:ax base e w v vs) (k:∀b,base<=b->b<w.heap.size->w'.heap[b]? = w.heap[b]?):ax base e w' v vs:=by
 refine ⟨h.1,?_⟩;rcases h.2 with h0 | ⟨g,cap,cur,rfl,hg,hc,hr⟩
 ·exact .inl h0
 ·have hlt:g<w.heap.size:=by
   rcases Nat.lt_or_ge g w.heap.size with h1 | h1
   ·exact h1
   ·rw [S8 h1] at hc;cases hc
  exact .inr ⟨g,cap,cur,rfl,hg,(k g hg hlt).trans hc,hr⟩
theorem ax.alloc {base:Nat} {e:TypeId} {w:World} {v:Value} {vs:List Value} (h:ax base e w v vs) (o:Obj):ax base e (w.alloc o) v vs:=World.ownsRow.alloc h o
theorem nB {w w':World} {o:Obj} {row:Option Nat} (h:(w.alloc o).grownBy w' row):w.grownBy w' row :=
 ⟨h.os,h.tape,h.output,aJ (by simp) h.size,fun k hk hne=>(h.block k (by simp;omega) hne).trans (Hr w o k hk)⟩
theorem ax.fE {base:Nat} {e:TypeId} {w w':World} {v:Value} {vs:List Value} (h:ax base e w v vs) (hg:w.grownBy w' v.ownBlock) (hb:base<=w.heap.size):Below base w w' :=
 (dM base w).grown hg hb fun k hk=>(j8 h k hk).1
section
variable {P:Program} {ops:Array Oper} {rest:List Oper} {o:Oper} {a:Act} {Q:Exit->Act->World->Prop}
theorem r9 (W:World) (hgd:o.guard=none) (s x:Operand) (t:TypeId) (ho:o.op=.call { callee:=.builtin .append,args:=#[s,x],argTypes:=#[t,t] })
  (base:Nat) (e:TypeId) (z:Value) (bytes:Nat) (ht:P.underlying t=some (.slice e)) (hinfo:(P.info? e).map (fun i=>(i.zero,i.size,i.bytes))=some (some z,1,bytes))
  (hz1:z.cells.size=1) (qE:bytes<=64) {v:Value} {vs:List Value} (hown:ax base e W v vs) (hs:a.eval s=v) (u:Value)
  (hx:a.eval x=.slice (some ⟨W.heap.size,0,none⟩) 1 1) (h1:u.oneCell'=true) (hn:vs.length<=1000000) (hbase:base<=W.heap.size)
  (h:∀g cap w',ax base e w' (.slice (some ⟨g,0,none⟩) (vs.length+1) cap) (vs++[u])->W.grownBy w' v.ownBlock->Below base W w'->wpList P ops Q rest (a.put o.dst (.slice (some ⟨g,0,none⟩) (vs.length+1) cap)) w') :
  wpList P ops Q (o::rest) a (W.alloc (.cells #[u] e)):=by
 obtain ⟨i,hi,hzz⟩:=mh.1 hinfo;simp only [mj] at hzz;obtain ⟨hz,hs1,hb⟩:=hzz;refine wpList_append_lies _ hgd s x t ho base e i z 1 bytes ht hi hz hs1 hb hz1 (by omega) v vs.length vs hs (hown.alloc _) ⟨W.heap.size,0,none⟩ 1 1 [u] hx rfl (cell_one_new _ _ _) (by simpa using h1) (by omega)
  (by unfold maxLen;omega) ?_ (by simp;omega) _ rfl fun g cap w' h2 h3 _ _=>h g cap w' ?_ (nB h3) (hown.fE (nB h3) hbase)
 ·have:(vs.length+1)*bytes<=(vs.length+1)*64:=sW _ qE
  omega
 ·unfold ax;rw [aZ];exact h2
end
theorem Tryz.kE:(Tryz.prog.info? 3).map (fun i=>(i.zero,i.size,i.bytes))=some (some (.int .i64 0),1,8):=by kernel_rfl
def LvPost (w:World) (t:az) (e:Ending) (w':World):Prop :=
 Below w.heap.size w w'/\((aH t≠0/\e=.returned (.tuple #[.slice none 0 0,.int .i64 1])) \/
  (aH t=0/\∃v,e=.returned (.tuple #[v,.int .i64 0])/\ah (fun b=>w.heap.size<=b) w' v (aD t.ns)))
theorem Fz (S:Nat->Prop) (w:World) (v:Value) (t:az) (h:aI S w v t) (hp:t.ps.length<=1000000) (hn:t.ns.length<=1000000) (hz:∀k,(gs t.ns k).size<=70000) :
  Calls Tryz.prog 30 #[v] w (LvPost w t):=by
 obtain ⟨P,N,rfl,hP,hN⟩:=h;have ht0:aI S (w.alloc (.cells #[P,N] 39)) (.agg #[P,N]) t:=aI.keep ⟨P,N,rfl,hP,hN⟩ (Kept.below ((dM _ w).alloc (af _) _));have hb0:Below w.heap.size w (w.alloc (.cells #[P,N] 39)):=(dM _ _).alloc (af _) _;have En:(w.alloc (.cells #[P,N] 39)).cell? ⟨w.heap.size,1,none⟩=some N:=by simp [World.cell?_alloc_new]
 have uI:=xS S (w.alloc (.cells #[P,N] 39)) _ t ht0 hp hn hz;rw [aQ] at uI;have gy:=aa uI;have Yu:=aa En;have mX:=aa hb0;have HN:=aa hN;clear uI En hb0 ht0 hP hN;by_cases he:aH t=0
 ·go_enter Tryz.func30,Tryz.ntmps30
  go_wp2_with fail;refine gy.out.mono ?_;rintro e w1 ⟨rfl,hb1⟩;have kJ:Below w.heap.size w w1:=mX.out.trans (hb1.mono (by omega));have Yv:=HN.out.keep (Kept.below kJ);have En:w1.cell? ⟨w.heap.size,1,none⟩=some N:=(hb1.cell (p:=⟨w.heap.size,1,none⟩) (by simp)).trans Yu.out;obtain ⟨q,fS,rfl,JW,HNN⟩:=ay.open Yv;have hHN:=aa HNN;have hwz:w.heap.size<=w1.heap.size:=kJ.size;have HE:=aa he;rw [he];clear HNN Yv gy Yu mX HN hb1 he;go_wp2_with fail
  go_loopw [4,5,6,13] (fun v _ _ i wr=>∃k:Nat,k<=t.ns.length/\i=.int .i64 k/\ax w1.heap.size 3 wr v ((xR t.ns k).map (Value.int .i64))/\Below w1.heap.size w1 wr) (fun _ _ _ i _=>t.ns.length - (intOf i).toNat)
  case atStart=>exact ⟨0,aL _,rfl,ax.nil _ _ _,dM _ _⟩
  case round =>
   obtain ⟨k,hk,rfl,hown,hbr⟩:=hrel;by_cases hlt:k<t.ns.length
   ·obtain ⟨b,off,rfl,hc0⟩:=hHN.out k hlt
    (have hc:wr.cell? ⟨b,off+k,none⟩=some (.string (gs t.ns k)):=by rw [hbr.cell (p:=⟨b,off+k,none⟩) (eG _ _ hc0)];exact hc0);have hsz:=hbr.size;have sG:=Tb t.ns k;have ue:=XD t.ns k;have hnil:=toList_nil (gs t.ns k);have Bv:=aa hnil;have xJ:=aa sG;(have gG:Hid (((xR t.ns k).map (Value.int .i64)).length<=1000000):=by unfold Hid;rw [aG];omega);clear hc0 hnil sG ue hHN hz;generalize Qg:gs t.ns k=g at *;clear Qg;by_cases hg0:g.size=0
    ·have hg1:g.toList=[]:=Bv.out.2 hg0
     have Eo:=aa hg0;clear hg0;go_wp2
     go_roundw
     case rel=>exact ⟨k+1,by omega,by go_num,by rw [xJ.out,if_pos Eo.out,gN];exact hown,hbr⟩
     case measure=>simp [intOf];omega
    ·have hg1:(g.toList==[])=false:=by
      rw [uZ];intro e;exact hg0 (Bv.out.1 (by simpa using e))
     have hg2:(g.toList != [])=true:=by
      rw [bne_iff_ne];intro e;exact hg0 (Bv.out.1 (by simpa using e))
     have Eo:=aa hg0
     clear hg0
     go_wp2_with (at_builtin;refine r9 wr rfl _ _ 26 rfl w1.heap.size 3 _ 8 Tryz.underlying26 Tryz.kE rfl (by decide) hown rfl _ rfl rfl gG.out hsz ?_;intro g cap w2 hown1 hg1 hb1)
     go_roundw
     case rel=>exact ⟨k+1,by omega,by go_num,by rw [xJ.out,if_neg Eo.out,cg];rw [aG] at hown1;exact hown1,hbr.trans hb1⟩
     case measure=>simp [intOf];omega
   ·obtain rfl:k=t.ns.length:=by omega
    clear hlt hk hHN;go_wp2;go_ret2;exact ⟨kJ.trans (hbr.mono hwz),.inr ⟨HE.out,_,rfl,hown.ints.sub fun b hb _=>aJ hwz hb⟩⟩
 ·have he':(aH t != 0)=true:=by simpa using he
  have HE:=aa he;clear he
  go_enter Tryz.func30,Tryz.ntmps30
  go_wp2_with fail;refine gy.out.mono ?_;rintro e w1 ⟨rfl,hb1⟩;go_wp2_with fail;go_ret2;exact ⟨mX.out.trans (hb1.mono (by omega)),.inl ⟨HE.out,rfl⟩⟩
def StI (e:Ending) (w':World) (w:World) (n:Int):Prop:=e=.returned (.int .i64 n)/\Below w.heap.size w w'
theorem known1_t (w:World) (b1 b2:Nat) (x lo hi:Int) (h1:w.cell? ⟨b1,0,none⟩=some (.int .i64 lo)) (h2:w.cell? ⟨b2,0,none⟩=some (.int .i64 hi)) :
  Lz 229 #[.pointer (some ⟨b1,0,none⟩),.pointer (some ⟨b2,0,none⟩)] #[.int .i64 x] (.bool (decide (x<lo) || decide (hi<=x))) w:=by
 unfold Lz
 go_enter Tryz.func229,Tryz.ntmps229
 by_cases hx:x<lo
 ·go_wp2_with fail
  go_ret;exact ⟨aV (by simp [hx]),rfl⟩
 ·go_wp2_with fail
  go_ret;exact ⟨aV (by simp;omega),rfl⟩
theorem known_t (S:Nat->Prop) (w:World) (v:Value) (st:List Int) (n:Nat) (lo hi:Int) (h:ah S w v st) (hn:st.length<=1000000) :
  Calls Tryz.prog 168 #[v,.int .i64 n,.int .i64 lo,.int .i64 hi] w fun e w'=>StI e w' w (vv st n lo hi):=by
 have eU:vv st n lo hi=if st.length≠n then 9 else if mH st lo hi then 2 else 0:=rfl
 have HF:=aa eU;have hb:Below w.heap.size w ((w.alloc (.cells #[.int .i64 lo] 3)).alloc (.cells #[.int .i64 hi] 3)):=((dM _ _).alloc (af _) _).alloc (by simp) _;have hI:=ay.keep h (Kept.below hb);obtain ⟨p,cap,rfl,hcap,H⟩:=ay.open h;have hc1:((w.alloc (.cells #[.int .i64 lo] 3)).alloc (.cells #[.int .i64 hi] 3)).cell? ⟨w.heap.size,0,none⟩=some (.int .i64 lo):=by simp
 have hc2:((w.alloc (.cells #[.int .i64 lo] 3)).alloc (.cells #[.int .i64 hi] 3)).cell? ⟨w.heap.size+1,0,none⟩=some (.int .i64 hi):=by simp
 have hC:=Nb 229 #[.pointer (some ⟨w.heap.size,0,none⟩),.pointer (some ⟨w.heap.size+1,0,none⟩)] (enters_of Tryz.func229 (by kernel_rfl) rfl) S _ _ st.length (fun k=>.int .i64 (gi st k)) (fun k=>decide (gi st k<lo) || decide (hi<=gi st k)) hI hn
  (fun k _=>known1_t _ _ _ (gi st k) lo hi hc1 hc2)
 have HC:=aa hC;have HB:=aa hb;clear eU hI H hc1 hc2 hC hb h;by_cases hl:st.length=n
 ·have kI:((st.length:Int) != n)=false:=by simp [hl]
  have HL:=aa hl;clear hl;have mz:mH st lo hi=(List.range st.length).any fun k=>decide (gi st k<lo) || decide (hi<=gi st k):=rfl;have fu:=aa mz;clear mz
  go_enter Tryz.func168,Tryz.ntmps168
  go_wp2_with fail;refine HC.out.mono ?_;rintro e w' ⟨rfl,rfl⟩;rw [<- fu.out];go_wp2_with fail
  ·go_ret
   exact ⟨aM (by rw [HF.out,if_neg (by rw [HL.out];simp),if_pos ‹_›]),HB.out⟩
  ·go_ret
   exact ⟨aM (by rw [HF.out,if_neg (by rw [HL.out];simp),if_neg (by rw [‹mH st lo hi=false›];simp)]),HB.out⟩
 ·have kI:((st.length:Int) != n)=true:=by simp;omega
  go_enter Tryz.func168,Tryz.ntmps168
  go_wp2_with fail;go_ret;exact ⟨aM (by rw [HF.out,if_pos hl]),HB.out⟩
end
end Go.Proofs.YthgabkgmkolobaaGreat
