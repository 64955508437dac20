/- The arguments of a law, opened; the frame of a law's proof. Names, as layer 1's and layer .. -/
import Derived.Test.YthgabkgmkolobaaGreatRows
import Derived.ProofKit
import Derived.OpenShut
import Derived.ShutString
import Derived.ChangeOld
import Derived.Below
import Derived.Deep.Matrix
import Derived.Lib.SmallJoins
import Derived.StillTail
import Derived.Lib.Bytealg
import Derived.Sort.Statements
import Derived.Test.YthgabkgmkolobaaGreatQ4
set_option maxRecDepth 100000
set_option maxHeartbeats 1000000
namespace Go.Proofs.YthgabkgmkolobaaGreat
section
open Go.ChangeShapes Go.WideShapes Go.ChangeAt Go.RowKit Go.Deep
theorem FC:ownKnob Tryz.prog.godebug=none:=by kernel_rfl
theorem laidOut:laidOutB Tryz.prog=true:=by kernel_rfl
section
variable {H:Type} {enc:TypeId×Value->H} {W:World}
theorem Er {n:Nat} (h:n<=maxLen):n<=9223372036854775807:=by unfold maxLen at h;exact h
theorem open_strs1 {fuel:Nat} {v:Value} {x:DataW H×List MemPlace} (h:DataW.trod enc Tryz.prog W 0 (fun _=>true) true fuel 22 [v]=some x):∃xs:List ByteArray,au Any W v xs/\xs.length<=9223372036854775807/\∀k,(gs xs k).size<=9223372036854775807:=by
 rcases open_strings Tryz.underlying22 Tryz.underlying9 (by kernel_rfl) h with ⟨hcs,_⟩ | ⟨a,l,c,zs,hcs,_,hl,hm,hz,_,hcell,hwf⟩
 ·obtain rfl:v=.slice none 0 0:=by simpa using hcs
  exact ⟨[],⟨none,0,rfl,af _,.inl rfl⟩,by simp,fun k=>by simp [gs]⟩
 ·obtain rfl:v=.slice (some a) l c:=by simpa using hcs
  simp only [if_true] at hz;have hlen:(zs.take l).length=l:=by simp;omega
  refine ⟨zs.take l,⟨some a,c,by rw [hlen],by rw [hlen];exact hl,?_⟩,by rw [hlen];exact Er (aJ hl hm),fun k=>?_⟩
  ·by_cases h0:l=0
   ·exact .inl (by rw [hlen];exact h0)
   ·obtain ⟨b,off,spot⟩:=a
    (have hspot:spot=none:=by simpa [Addr.add] using World.cell?_spot (hcell 0 (by omega)));subst hspot;refine .inr ⟨b,off,rfl,trivial,fun k hk=>?_⟩;rw [hlen] at hk;rw [<- add_plain,hcell k (by omega)];(have hk2:k<zs.length:=by omega);simp [gs,hk,hk2]
  ·by_cases hk:k<(zs.take l).length
   ·have hm:gs (zs.take l) k∈zs:=by
     have:gs (zs.take l) k=(zs.take l)[k]:=by unfold gs;rw [kD,iQ hk];rfl
     rw [this];exact CP (lg hk)
    exact Er (hwf _ hm)
   ·have:gs (zs.take l) k=ByteArray.empty:=by simp [gs,List.getElem?_eq_none (by omega:(zs.take l).length<=k)]
    rw [this];simp
theorem LD {t:TypeId} {v:Value} {d:DataW H} {p:List MemPlace} (h1:v.cells=#[v]) (h:DataW.Trod enc Tryz.prog W 0 (fun _=>true) true t v d p):∃fuel,DataW.trod enc Tryz.prog W 0 (fun _=>true) true fuel t [v]=some (d,p):=by
 obtain ⟨n,hn⟩:=h;rw [h1] at hn;exact ⟨n,hn⟩
theorem Am {t:TypeId} {v:Value} {d:DataW H} {p:List MemPlace} (h:DataW.Trod enc Tryz.prog W 0 (fun _=>true) true t v d p):∀x∈p,x.block<W.heap.size:=by
 obtain ⟨m,hm⟩:=h;exact DataW.trod_lt m _ _ _ hm
end
end
section
open Go.RowKit Go.Deep
theorem Tryz.infoBo:(Tryz.prog.info? 4).map (fun i=>(i.zero,i.size,i.bytes))=some (some (.bool false),1,1):=by kernel_rfl
theorem Tz (c:Nat):(97<=c/\c<=122)\/(65<=c/\c<=90)\/(48<=c/\c<=57)\/c=94\/c=126\/c=37\/c=39\/c=32\/c=46\/c=44\/c=59\/c=58\/c=33\/c=63\/c=40\/c=41\/c=45 \/
  ((c<97\/122<c)/\(c<65\/90<c)/\(c<48\/57<c)/\c≠94/\c≠126/\c≠37/\c≠39/\c≠32/\c≠46/\c≠44/\c≠59/\c≠58/\c≠33/\c≠63/\c≠40/\c≠41/\c≠45):=by omega
def BB (c:Nat) (w:World) (e:Ending) (w':World):Prop:=e=.returned (.int .i64 (gW c))/\w=w'
theorem kp {c:Nat} {n:Int} {w:World} (h:n=gW c):BB c w (.returned (.int .i64 n)) w:=⟨by rw [h],rfl⟩
theorem gY (c:Nat) (h:c∈[94,126,37,39,32,46,44,59,58,33,63,40,41,45]) (w:World):Calls Tryz.prog 249 #[.int .u8 c] w (BB c w):=by
 simp only [aW,qD,or_false] at h;rcases h with rfl | rfl | rfl | rfl | rfl | rfl | rfl | rfl | rfl | rfl | rfl | rfl | rfl | rfl
 all_goals
  go_enter Tryz.func249,Tryz.ntmps249
  go_wp2;go_ret;exact kp rfl
theorem kindR_o1 (c:Nat) (HK:Hid (gW c=0)) (hc:c<256) (h:c<48\/(57<c/\c<65)\/(90<c/\c<97)\/122<c) (e94:((c:Int)==94)=false) (e126:((c:Int)==126)=false) (e37:((c:Int)==37)=false) (e39:((c:Int)==39)=false) (e32:((c:Int)==32)=false) (e46:((c:Int)==46)=false) (e44:((c:Int)==44)=false) (e59:((c:Int)==59)=false) (e58:((c:Int)==58)=false) (e33:((c:Int)==33)=false) (e63:((c:Int)==63)=false) (e40:((c:Int)==40)=false) (e41:((c:Int)==41)=false) (e45:((c:Int)==45)=false) (w:World):Calls Tryz.prog 249 #[.int .u8 c] w (BB c w):=by
 rcases h with h1 | ⟨h1,h2⟩ | ⟨h1,h2⟩ | h1
 all_goals
  go_enter Tryz.func249,Tryz.ntmps249
  go_wp2;go_ret;exact kp HK.out.symm
theorem XG (c:Nat) (hc:c<256) (h1:c<97\/122<c) (h2:c<65\/90<c) (h3:c<48\/57<c) (n94:c≠94) (n126:c≠126) (n37:c≠37) (n39:c≠39) (n32:c≠32) (n46:c≠46) (n44:c≠44) (n59:c≠59) (n58:c≠58) (n33:c≠33) (n63:c≠63) (n40:c≠40) (n41:c≠41) (n45:c≠45) (w:World):Calls Tryz.prog 249 #[.int .u8 c] w (BB c w):=by
 have hk:gW c=0:=by unfold gW isLet Fw;rw [if_neg (by simp;omega),if_neg (by omega),if_neg (by omega),if_neg n39,if_neg n32,if_neg (by simp;omega)]
 have e94:((c:Int)==94)=false:=by rw [beq_eq_false_iff_ne];omega
 have e126:((c:Int)==126)=false:=by rw [beq_eq_false_iff_ne];omega
 have e37:((c:Int)==37)=false:=by rw [beq_eq_false_iff_ne];omega
 have e39:((c:Int)==39)=false:=by rw [beq_eq_false_iff_ne];omega
 have e32:((c:Int)==32)=false:=by rw [beq_eq_false_iff_ne];omega
 have e46:((c:Int)==46)=false:=by rw [beq_eq_false_iff_ne];omega
 have e44:((c:Int)==44)=false:=by rw [beq_eq_false_iff_ne];omega
 have e59:((c:Int)==59)=false:=by rw [beq_eq_false_iff_ne];omega
 have e58:((c:Int)==58)=false:=by rw [beq_eq_false_iff_ne];omega
 have e33:((c:Int)==33)=false:=by rw [beq_eq_false_iff_ne];omega
 have e63:((c:Int)==63)=false:=by rw [beq_eq_false_iff_ne];omega
 have e40:((c:Int)==40)=false:=by rw [beq_eq_false_iff_ne];omega
 have e41:((c:Int)==41)=false:=by rw [beq_eq_false_iff_ne];omega
 have e45:((c:Int)==45)=false:=by rw [beq_eq_false_iff_ne];omega
 exact kindR_o1 c hk hc (by omega) e94 e126 e37 e39 e32 e46 e44 e59 e58 e33 e63 e40 e41 e45 w
theorem DM (c:Nat) (hc:c<256) (h:(97<=c/\c<=122)\/(65<=c/\c<=90)\/(48<=c/\c<=57)) (w:World):Calls Tryz.prog 249 #[.int .u8 c] w (BB c w):=by
 rcases h with ⟨h1,h2⟩ | ⟨h1,h2⟩ | ⟨h1,h2⟩
 ·have hk:gW c=1:=by unfold gW isLet;rw [if_pos (by simp;omega)]
  have HK:=aa hk;clear hk
  go_enter Tryz.func249,Tryz.ntmps249
  go_wp2;go_ret;exact kp HK.out.symm
 ·have hk:gW c=1:=by unfold gW isLet;rw [if_pos (by simp;omega)]
  have HK:=aa hk;clear hk
  go_enter Tryz.func249,Tryz.ntmps249
  go_wp2;go_ret;exact kp HK.out.symm
 ·have hk:gW c=3:=by unfold gW isLet;rw [if_neg (by simp;omega),if_neg (by omega),if_pos (by omega)]
  have HK:=aa hk;clear hk;have e94:((c:Int)==94)=false:=by rw [beq_eq_false_iff_ne];omega
  have e126:((c:Int)==126)=false:=by rw [beq_eq_false_iff_ne];omega
  have e37:((c:Int)==37)=false:=by rw [beq_eq_false_iff_ne];omega
  go_enter Tryz.func249,Tryz.ntmps249
  go_wp2;go_ret;exact kp HK.out.symm
theorem AW (c:Nat) (hc:c<256) (w:World):Calls Tryz.prog 249 #[.int .u8 c] w fun e w'=>e=.returned (.int .i64 (gW c))/\w=w':=by
 have h:=Tz c;rcases h with h | h | h | h | h | h | h | h | h | h | h | h | h | h | h | h | h | ⟨h1,h2,h3,n94,n126,n37,n39,n32,n46,n44,n59,n58,n33,n63,n40,n41,n45⟩
 ·exact DM c hc (.inl h) w
 ·exact DM c hc (.inr (.inl h)) w
 ·exact DM c hc (.inr (.inr h)) w
 ·exact gY c (by rw [h];decide) w
 ·exact gY c (by rw [h];decide) w
 ·exact gY c (by rw [h];decide) w
 ·exact gY c (by rw [h];decide) w
 ·exact gY c (by rw [h];decide) w
 ·exact gY c (by rw [h];decide) w
 ·exact gY c (by rw [h];decide) w
 ·exact gY c (by rw [h];decide) w
 ·exact gY c (by rw [h];decide) w
 ·exact gY c (by rw [h];decide) w
 ·exact gY c (by rw [h];decide) w
 ·exact gY c (by rw [h];decide) w
 ·exact gY c (by rw [h];decide) w
 ·exact gY c (by rw [h];decide) w
 ·exact XG c hc h1 h2 h3 n94 n126 n37 n39 n32 n46 n44 n59 n58 n33 n63 n40 n41 n45 w
theorem lettersR_t (s:ByteArray) (hs:s.size<=70000) (w:World):Calls Tryz.prog 200 #[.string s] w fun e w'=>e=.returned (.int .i64 (rD s.data.toList))/\w=w':=by
 go_enter Tryz.func200,Tryz.ntmps200
 go_wp2
 go_loop [3,4,5] (fun n i _=>∃k:Nat,k<=s.size/\i=.int .i64 k/\n=.int .i64 (rD (s.data.toList.take k))) (fun _ i _=>s.size - (intOf i).toNat)
 case atStart=>exact ⟨0,aL _,rfl,rfl⟩
 case round =>
  obtain ⟨k,hk,rfl,rfl⟩:=hrel
  have hb:rD (s.data.toList.take k)<=70000:=aJ (O2 _) (by simp;omega)
  by_cases hlt:k<s.size
  ·have hst:=Hw s k hlt
   have hk':=Br s[k]
   have hc:s[k].toNat<256:=s[k].toNat_lt
   generalize hm:rD (s.data.toList.take k)=m at *
   have HS:=aa hst
   have HK:=aa hk'
   clear hst hm hk'
   go_wp2_with (go_at_call 249;refine (AW _ hc _).mono ?_;rintro e w' ⟨rfl,rfl⟩;generalize gW _=q at *)
   all_goals
    go_round
    case rel=>exact ⟨k+1,by omega,by go_num,by rw [HS.out];first | (rw [if_pos (HK.out.1 (by first | omega | (simp only [beq_iff_eq] at *;omega)))];go_num) | (rw [if_neg (fun h=>by have:=HK.out.2 h;simp only [beq_eq_false_iff_ne,ne_eq] at *;omega)];go_num)⟩
    case measure=>simp [intOf];omega
  ·go_wp2
   go_ret
   exact ⟨aM (by rw [Bj (by simp;omega)]),rfl⟩
def RtPost (w:World) (n:Nat) (e:Ending) (w':World):Prop:=Below w.heap.size w w'/\∃v,∃bs:List Bool,e=.returned v/\bs.length=n/\ay Any w' v n (fun k=>.bool (gb bs k))
theorem ax.bools {base:Nat} {e:TypeId} {w:World} {v:Value} {xs:List Bool} (h:ax base e w v (xs.map Value.bool)):ay (fun b=>base<=b) w v xs.length (fun k=>.bool (gb xs k)):=by
 have:=h.vz;rw [aG] at this;exact this.congr fun k hk=>by simp [gb,hk]
theorem ay.pQ {S:Nat->Prop} {w:World} {b n cap:Nat} {f:Nat->Value} {o:Nat} (h:ay S w (.slice (some ⟨b,o,none⟩) n cap) n f) {k:Nat} (hk:k<n):w.cell? ⟨b,o+k,none⟩=some (f k):=by
 obtain ⟨p,c,e,_,H⟩:=h.open;cases e;obtain ⟨b',o',e',hc⟩:=H k hk;cases e';exact hc
theorem ax.form {base:Nat} {e:TypeId} {w:World} {v:Value} {vs:List Value} {n:Nat} (h:ax base e w v vs) (hn:vs.length=n):∃p cap,v=.slice p n cap/\(p=none\/∃g,p=some ⟨g,0,none⟩):=by
 subst hn;rcases h.2 with ⟨rfl,h0⟩ | ⟨g,cap,cur,rfl,_⟩
 ·exact ⟨none,0,by rw [h0],.inl rfl⟩
 ·exact ⟨_,cap,rfl,.inr ⟨g,rfl⟩⟩
theorem ax.made (w:World) (e:TypeId):ax w.heap.size e (w.alloc (.cells #[] e)) (.slice (some ⟨w.heap.size,0,none⟩) 0 0) []:=World.ownsRow_made w #[] 0 (af _) (by unfold maxLen;omega) (by simp)
theorem right_t (s:ByteArray) (hs:s.size<=1000) (w:World):Calls Tryz.prog 275 #[.string s] w (RtPost w s.size):=by
 go_enter Tryz.func275,Tryz.ntmps275
 go_wp2
 go_loopw [3,4] (fun v i wr=>∃k:Nat,∃bs:List Bool,k<=s.size/\i=.int .i64 k/\bs.length=k/\ax w.heap.size 4 wr v (bs.map .bool)/\Below w.heap.size w wr) (fun _ i _=>s.size - (intOf i).toNat)
 case atStart=>exact ⟨0,[],aL _,rfl,rfl,ax.made _ _,(dM _ _).alloc (af _) _⟩
 case round =>
  obtain ⟨k,bs,hk,rfl,hbl,hown,hbr⟩:=hrel
  have hsz:=hbr.size
  have nX:=aa hbl
  by_cases hlt:k<s.size
  ·have gG:Hid ((bs.map Value.bool).length<=1000000):=by unfold Hid;rw [aG];omega
   clear hbl
   rcases yY k with rfl | kW
   ·go_wp2_with (first | (go_at_call 249;refine (AW _ (UInt8.toNat_lt _) _).mono ?_;rintro e w' ⟨rfl,rfl⟩;generalize gW _=q at *) | (at_builtin;refine r9 wr rfl _ _ 163 rfl w.heap.size 4 _ 1 Tryz.underlying163 Tryz.infoBo rfl (by decide) hown rfl _ rfl rfl gG.out hsz ?_;intro g cap w2 hown1 hg1 hb1))
    all_goals
     go_roundw
     case rel=>exact ⟨1,bs++[_],by omega,by go_num,by rw [aZ,nX.out];rfl,by rw [cg];rw [aG] at hown1;exact hown1,hbr.trans hb1⟩
     case measure=>simp [intOf];omega
   ·have jf:=hown.bools
    obtain ⟨p,cap,rfl,hp⟩:=hown.form (n:=k) (by rw [aG];exact nX.out)
    rw [nX.out] at jf
    obtain ⟨p',cap',e',hcap',H⟩:=jf.open
    cases e'
    obtain ⟨b,off,rfl,hc⟩:=H (k - 1) (by have:=nX.out;omega)
    clear H jf hp
    go_wp2_with (first | (go_at_call 249;refine (AW _ (UInt8.toNat_lt _) _).mono ?_;rintro e w' ⟨rfl,rfl⟩;generalize gW _=q at *) | (at_builtin;refine r9 wr rfl _ _ 163 rfl w.heap.size 4 _ 1 Tryz.underlying163 Tryz.infoBo rfl (by decide) hown rfl _ rfl rfl gG.out hsz ?_;intro g cap w2 hown1 hg1 hb1))
    all_goals
     go_roundw
     case rel=>exact ⟨k+1,bs++[_],by omega,by go_num,by rw [aZ,nX.out];rfl,by rw [cg];rw [aG] at hown1;exact hown1,hbr.trans hb1⟩
     case measure=>simp [intOf];omega
  ·obtain rfl:k=s.size:=by omega
   clear hlt hk hbl
   go_wp2
   go_ret
   exact ⟨hbr,_,bs,rfl,nX.out,(by rw [<- nX.out];exact hown.bools.sub fun _ _ _=>trivial)⟩
theorem ax.set {base:Nat} {e:TypeId} {w:World} {v:Value} {vs:List Value} (h:ax base e w v vs) {j:Nat} (hj:j<vs.length) :
  ∃g cap,v=.slice (some ⟨g,0,none⟩) vs.length cap/\base<=g/\g<w.heap.size/\w.cell? ⟨g,j,none⟩=some (vs.getD j undef)/\w.frozen? ⟨g,j,none⟩=false/\∀x,ax base e (w.setCell ⟨g,j,none⟩ x) v (vs.set j x):=by
 obtain ⟨hl,h | ⟨g,cap,cur,rfl,hg,hc,hn,hcm,hcs,ht⟩⟩:=h
 ·omega
 ·have CT:g<w.heap.size:=(fR.1 hc).1
  have ht1:cur.toList.take vs.length=vs:=by rw [Nat.mul_one] at ht;exact ht
  have hj2:j<cur.size:=by omega
  have hcell:cur[j]? = some (vs.getD j undef):=by (have h1:vs[j]? = some (vs.getD j undef):=by simp [hj]);rw [<- h1];have h2:=congrArg (·[j]?) ht1;simp only [List.getElem?_take,hj,if_true] at h2;rw [<- h2];simp
  refine ⟨g,cap,rfl,hg,CT,by simp [World.cell?,hc,hcell],by simp [World.frozen?,hc],fun x=>⟨by simp,.inr ⟨g,cap,cur.setIfInBounds j x,by simp,hg,?_,by simpa using hn,hcm,by simpa using hcs,?_⟩⟩⟩
  ·simp [World.setCell,Array.getElem?_modify,hc]
  ·rw [List.length_set,Nat.mul_one,Array.toList_setIfInBounds,List.take_set,ht1]
theorem av {base:Nat} {e:TypeId} {w:World} {v:Value} {vs:List Value} (h:ax base e w v vs) {b:Nat} (hb:v.ownBlock=some b):base<=b/\b<w.heap.size:=j8 h b hb
section
variable {P:Program} {ops:Array Oper} {rest:List Oper} {o:Oper} {a:Act} {Q:Exit->Act->World->Prop}
theorem DN (W:World) (hgd:o.guard=none) (s x:Operand) (t:TypeId) (ho:o.op=.call { callee:=.builtin .append,args:=#[s,x],argTypes:=#[t,t] })
  (base:Nat) (e:TypeId) (z:Value) (bytes:Nat) (ht:P.underlying t=some (.slice e)) (hinfo:(P.info? e).map (fun i=>(i.zero,i.size,i.bytes))=some (some z,1,bytes))
  (hz1:z.cells.size=1) (qE:bytes<=64) {v:Value} {vs:List Value} (hown:ax base e W v vs) (hs:a.eval s=v) (u:Value)
  (hx:a.eval x=.slice (some ⟨W.heap.size,0,none⟩) 1 1) (h1:u.oneCell'=true) (n:Nat) (uM:vs.length=n) (hn:n<=1000000) (hbase:base<=W.heap.size)
  (h:∀g cap w',ax base e w' (.slice (some ⟨g,0,none⟩) (n+1) cap) (vs++[u])->W.grownBy w' v.ownBlock->Below base W w'->wpList P ops Q rest (a.put o.dst (.slice (some ⟨g,0,none⟩) (n+1) cap)) w') :
  wpList P ops Q (o::rest) a (W.alloc (.cells #[u] e)):=by
 subst uM;exact r9 W hgd s x t ho base e z bytes ht hinfo hz1 qE hown hs u hx h1 hn hbase h
end
def QD (w w':World):Prop:=∃n,w'=w.drewN n
theorem QD.refl (w:World):QD w w:=⟨0,rfl⟩
theorem QD.drewN {w w':World} (h:QD w w') (n:Nat):QD w (w'.drewN n):=by
 obtain ⟨m,rfl⟩:=h;exact ⟨m+n,by rw [wS]⟩
theorem QD.kept {w w':World} (h:QD w w') (S:Nat->Prop):Kept S w w':=by
 obtain ⟨m,rfl⟩:=h;exact fun _ _ _=>rfl
theorem QD.up {w w':World} (h:QD w w'):Up w w':=by
 obtain ⟨m,rfl⟩:=h;exact Up.drewN w m
def pR (xs:List (List Int)) (k:Nat):Int:=if (gl xs k).length≠(gl xs 0).length then 9 else if mH (gl xs k) (-1) 16 then 2 else 0
def fo (xs:List (List Int)):Int:=if xs.length=0 then 5 else if 32<xs.length\/4096<(gl xs 0).length then 4 else bU (pR xs) xs.length
theorem agcheck1_t (w:World) (x:Int):Lz 125 #[] #[.int .i64 x] (.bool (decide (x < -1) || decide (16<=x))) w:=by
 unfold Lz
 go_enter Tryz.func125,Tryz.ntmps125
 by_cases hx:x < -1
 ·go_wp2_with fail
  go_ret;exact ⟨aV (by simp [hx]),rfl⟩
 ·go_wp2_with fail
  go_ret;exact ⟨aV (by simp;omega),rfl⟩
theorem Qm (S:Nat->Prop) (w:World) (v:Value) (xs:List (List Int)) (h:aR S w v xs) (hn:xs.length<=1000000) (hr:∀k,(gl xs k).length<=1000000) :
  Calls Tryz.prog 70 #[v] w fun e w'=>e=.returned (.int .i64 (fo xs))/\w=w':=by
 have eU:fo xs=if xs.length=0 then 5 else if 32<xs.length\/4096<(gl xs 0).length then 4 else bU (pR xs) xs.length:=rfl
 have HF:=aa eU;obtain ⟨p,cap,rfl,hcap,_⟩:=dW h;have H:=aa h;clear eU h;by_cases h0:xs.length=0
 ·have HX:Hid (xs.length=0):=h0
  have h0':((xs.length:Int)==0)=true:=by simp [h0]
  clear h0
  go_enter Tryz.func70,Tryz.ntmps70
  go_wp2_with fail;go_ret;exact ⟨aM (by rw [HF.out,if_pos HX.out]),rfl⟩
 have h0':((xs.length:Int)==0)=false:=by simpa using h0
 have Yx:0<xs.length:=by omega
 by_cases h1:32<xs.length
 ·go_enter Tryz.func70,Tryz.ntmps70
  go_wp2_with fail;go_ret;exact ⟨aM (by rw [HF.out,if_neg h0,if_pos (.inl h1)]),rfl⟩
 obtain ⟨b,off,q0,c0,rfl,hc0,jg⟩:=gP H.out Yx;have hc00:w.cell? ⟨b,off,none⟩=some (.slice q0 (gl xs 0).length c0):=by simpa using hc0
 have hlen0:=hr 0;clear hc0 jg;by_cases h2:4096<(gl xs 0).length
 ·go_enter Tryz.func70,Tryz.ntmps70
  go_wp2_with fail;go_ret;exact ⟨aM (by rw [HF.out,if_neg h0,if_pos (.inr h2)]),rfl⟩
 have sK:Hid (fo xs=bU (pR xs) xs.length):=by unfold Hid;rw [HF.out,if_neg h0,if_neg (by omega)]
 have HR:=aa hr;have HAR:Hid (∀k,pR xs k=if (gl xs k).length≠(gl xs 0).length then 9 else if mH (gl xs k) (-1) 16 then 2 else 0):=fun _=>rfl;clear HF hr;generalize (gl xs 0).length=l0 at *
 go_enter Tryz.func70,Tryz.ntmps70
 go_wp2_with fail
 go_loop [4,22] (fun _ i=>∃k:Nat,k<=xs.length/\i=.int .i64 k/\Hid (∀j,j<k->pR xs j=0)) (fun _ i=>xs.length - (intOf i).toNat)
 case atStart=>exact ⟨0,aL _,rfl,fun j hj=>absurd hj (bG _)⟩
 case round =>
  obtain ⟨k,hk,rfl,hd⟩:=hrel;by_cases hlt:k<xs.length
  ·obtain ⟨b',off',qk,ck,e1,uI,hik⟩:=gP H.out hlt
   injection e1 with e1;injection e1 with e1 e2;subst e1;subst e2;have wU:=aa (Nb 125 #[] (enters_of Tryz.func125 (by kernel_rfl) rfl) S w _ (gl xs k).length _ (fun j=>decide (gi (gl xs k) j < -1) || decide (16<=gi (gl xs k) j)) hik (HR.out k) (fun j _=>agcheck1_t w (gi (gl xs k) j)));have fu:Hid (mH (gl xs k) (-1) 16=(List.range (gl xs k).length).any fun j=>decide (gi (gl xs k) j < -1) || decide (16<=gi (gl xs k) j)):=rfl;have HK:=aa (HAR.out k);clear hik;by_cases ue:(gl xs k).length=l0
   ·have kI:(((gl xs k).length:Int) != (l0:Int))=false:=by simp [ue]
    have gG:=aa ue;clear ue;go_wp2_with fail;refine wU.out.mono ?_;rintro e w' ⟨rfl,rfl⟩;rw [<- fu.out];by_cases mz:mH (gl xs k) (-1) 16=true
    ·have vT:=aa mz
     rw [mz];clear mz;go_wp2_with fail;go_ret;(have Kz:pR xs k=2:=by rw [HK.out,if_neg (fun e=>e gG.out),if_pos vT.out]);exact ⟨aM (by rw [sK.out,gm hlt hd.out (by rw [Kz];decide),Kz]),rfl⟩
    ·have hsf:mH (gl xs k) (-1) 16=false:=by simpa using mz
     have vT:=aa mz;rw [hsf];clear mz hsf;go_wp2_with fail
     go_round
     case rel=>exact ⟨k+1,by omega,by go_num,fun j hj=>if e:j=k then by subst e;rw [HK.out,if_neg (fun e=>e gG.out),if_neg vT.out] else hd.out j (by omega)⟩
     case measure=>simp [intOf];omega
   ·have kI:(((gl xs k).length:Int) != (l0:Int))=true:=by simp;omega
    have gG:=aa ue;clear ue;go_wp2_with fail;go_ret;(have Kz:pR xs k=9:=by rw [HK.out,if_pos gG.out]);exact ⟨aM (by rw [sK.out,gm hlt hd.out (by rw [Kz];decide),Kz]),rfl⟩
  ·obtain rfl:k=xs.length:=by omega
   clear hlt;go_wp2_with fail;go_ret;exact ⟨aM (by rw [sK.out,cR hd.out]),rfl⟩
structure Yy where
 un:Int
 st:Int
 src:List Int
end
section
open Go.ChangeShapes Go.WideShapes Go.ChangeAt Go.RowKit Go.Deep
instance:Inhabited Yy:=⟨⟨0,0,[]⟩⟩
section
variable {H:Type} {enc:TypeId×Value->H} {W:World}
theorem Ao {v:Value} {d:DataW H} {p:List MemPlace} {base:Nat} (hv:Value.okWide Tryz.prog W .any base 22 v) (h:DataW.Trod enc Tryz.prog W 0 (fun _=>true) true 22 v d p):∃xs:List ByteArray,au Any W v xs/\xs.length<=9223372036854775807/\∀k,(gs xs k).size<=9223372036854775807:=by
 obtain ⟨a,l,c,rfl⟩:=okWide_slice Tryz.underlying22 hv;obtain ⟨n,hn⟩:=LD rfl h;exact open_strs1 hn
end
end
section
open Go.RowKit Go.Deep
structure ct where
 nm:Nat->ByteArray
 old:Nat->Int
 kids:Nat->List Nat
def cV (A:Nat->Nat) (k:Nat):Value:=.pointer (some ⟨A k,0,none⟩)
def upd {α:Type} (f:Nat->α) (k:Nat) (x:α) (i:Nat):α:=if i=k then x else f i
theorem upd_same {α:Type} (f:Nat->α) (k:Nat) (x:α):upd f k x k=x:=by simp [upd]
theorem upd_ne {α:Type} (f:Nat->α) {k i:Nat} (x:α) (h:i≠k):upd f k x i=f i:=by simp [upd,h]
structure cU (base n:Nat) (A:Nat->Nat) (kv:Nat->Value) (F:ct) (w:World):Prop where
 node:∀i,i<n->w.heap[A i]? = some (.cells #[.string (F.nm i),kv i,.int .i64 (F.old i)] 122 (0,0))
 lo:∀i,i<n->base<=A i
 inj:∀i j,i<n->j<n->A i=A j->i=j
 own:∀i,i<n->ax base 119 w (kv i) ((F.kids i).map (cV A))
 apart:∀i j,i<n->j<n->(kv i).ownBlock≠some (A j)
 alone:∀i j b,i<n->j<n->(kv i).ownBlock=some b->(kv j).ownBlock=some b->i=j
 kid:∀i,i<n->∀k∈F.kids i,k<n
theorem ax.same {base:Nat} {e:TypeId} {w w':World} {v:Value} {vs:List Value} (h:ax base e w v vs) (k:∀b,v.ownBlock=some b->w'.heap[b]? = w.heap[b]?):ax base e w' v vs:=by
 obtain ⟨hl,h | ⟨g,cap,cur,rfl,hg,hc,hr⟩⟩:=h
 ·exact ⟨hl,.inl h⟩
 ·exact ⟨hl,.inr ⟨g,cap,cur,rfl,hg,by rw [k g rfl];exact hc,hr⟩⟩
theorem ax.y8 {base base':Nat} {e:TypeId} {w:World} {v:Value} {vs:List Value} (h:ax base e w v vs) (hb:base'<=base):ax base' e w v vs:=by
 obtain ⟨hl,h | ⟨g,cap,cur,rfl,hg,hc,hr⟩⟩:=h
 ·exact ⟨hl,.inl h⟩
 ·exact ⟨hl,.inr ⟨g,cap,cur,rfl,aJ hb hg,hc,hr⟩⟩
section
variable {base n:Nat} {A:Nat->Nat} {kv:Nat->Value} {F:ct} {w w':World}
theorem cU.lt (h:cU base n A kv F w) {i:Nat} (hi:i<n):A i<w.heap.size:=(fR.1 (h.node i hi)).1
theorem cU.ni (h:cU base n A kv F w) {i b:Nat} (hi:i<n) (hb:(kv i).ownBlock=some b):base<=b/\b<w.heap.size:=av (h.own i hi) hb
theorem cU.name (h:cU base n A kv F w) {i:Nat} (hi:i<n):w.cell? ⟨A i,0,none⟩=some (.string (F.nm i)):=by simp [World.cell?,h.node i hi]
theorem cU.zB (h:cU base n A kv F w) {i:Nat} (hi:i<n):w.cell? ⟨A i,1,none⟩=some (kv i):=by simp [World.cell?,h.node i hi]
theorem cU.thaw (h:cU base n A kv F w) {i:Nat} (hi:i<n) (o:Nat):w.frozen? ⟨A i,o,none⟩=false:=by simp [World.frozen?,h.node i hi]
theorem cU.same (h:cU base n A kv F w) (ha:∀i,i<n->w'.heap[A i]? = w.heap[A i]?) (hk:∀i b,i<n->(kv i).ownBlock=some b->w'.heap[b]? = w.heap[b]?):cU base n A kv F w' :=
 ⟨fun i hi=>by rw [ha i hi];exact h.node i hi,h.lo,h.inj,fun i hi=>(h.own i hi).same fun b hb=>hk i b hi hb,h.apart,h.alone,h.kid⟩
theorem cU.kept (h:cU base n A kv F w) (k:∀b,base<=b->b<w.heap.size->w'.heap[b]? = w.heap[b]?):cU base n A kv F w' :=
 h.same (fun i hi=>k _ (h.lo i hi) (h.lt hi)) (fun _ _ hi hb=>k _ (h.ni hi hb).1 (h.ni hi hb).2)
theorem cU.up (h:cU base n A kv F w) (k:Up w w'):cU base n A kv F w':=h.kept fun b _ hb=>bI k b hb
theorem cU.put (h:cU base n A kv F w) {k:Nat} (hk:k<n) {v:Value} {ks:List Nat}
  (ha:∀i,i<n->i≠k->w'.heap[A i]? = w.heap[A i]?) (hn:w'.heap[A k]? = some (.cells #[.string (F.nm k),v,.int .i64 (F.old k)] 122 (0,0)))
  (hv:ax base 119 w' v (ks.map (cV A))) (ho:∀i b,i<n->i≠k->(kv i).ownBlock=some b->w'.heap[b]? = w.heap[b]?)
  (hb:∀b,v.ownBlock=some b->(kv k).ownBlock=some b\/w.heap.size<=b) (hks:∀j∈ks,j<n):cU base n A (upd kv k v) { F with kids:=upd F.kids k ks } w':=by
 refine ⟨fun i hi=>?_,h.lo,h.inj,fun i hi=>?_,fun i j hi hj=>?_,fun i j b hi hj h1 h2=>?_,fun i hi=>?_⟩
 ·by_cases e:i=k
  ·subst e;rw [upd_same];exact hn
  ·rw [upd_ne _ _ e,ha i hi e];exact h.node i hi
 ·by_cases e:i=k
  ·subst e;simp only [upd_same];exact hv
  ·simp only [upd_ne _ _ e];exact (h.own i hi).same fun b hb=>ho i b hi e hb
 ·by_cases e:i=k
  ·subst e;rw [upd_same];intro h3
   rcases hb _ h3 with h4 | h4
   ·exact h.apart i j hi hj h4
   ·exact absurd (h.lt hj) (by omega)
  ·rw [upd_ne _ _ e];exact h.apart i j hi hj
 ·by_cases e1:i=k
  ·by_cases e2:j=k
   ·rw [e1,e2]
   ·subst e1
    rw [upd_same] at h1;rw [upd_ne _ _ e2] at h2;rcases hb _ h1 with h4 | h4
    ·exact h.alone i j b hi hj h4 h2
    ·exact absurd (h.ni hj h2).2 (by omega)
  ·by_cases e2:j=k
   ·subst e2
    rw [upd_same] at h2;rw [upd_ne _ _ e1] at h1;rcases hb _ h2 with h4 | h4
    ·exact h.alone i j b hi hj h1 h4
    ·exact absurd (h.ni hi h1).2 (by omega)
   ·rw [upd_ne _ _ e1] at h1
    rw [upd_ne _ _ e2] at h2;exact h.alone i j b hi hj h1 h2
 ·by_cases e:i=k
  ·subst e;simp only [upd_same];exact hks
  ·simp only [upd_ne _ _ e];exact h.kid i hi
theorem cU.LF (h:cU base n A kv F w) (hb:base<=w.heap.size) (nm:ByteArray) (old:Int) :
  cU base (n+1) (upd A n w.heap.size) (upd kv n (.slice none 0 0)) ⟨upd F.nm n nm,upd F.old n old,upd F.kids n []⟩ (w.alloc (.cells #[.string nm,.slice none 0 0,.int .i64 old] 122)):=by
 have hne:∀i,i<n->i≠n:=fun i hi=>by omega
 have hmap:∀i,i<n->(F.kids i).map (cV (upd A n w.heap.size))=(F.kids i).map (cV A):=fun i hi=>by refine lU fun k hk=>?_;unfold cV;rw [upd_ne _ _ (hne k (h.kid i hi k hk))]
 have vo:∀i,i<n+1->i<n\/i=n:=fun i hi=>by omega
 refine ⟨fun i hi=>?_,fun i hi=>?_,fun i j hi hj e=>?_,fun i hi=>?_,fun i j hi hj=>?_,fun i j b hi hj h1 h2=>?_,fun i hi=>?_⟩
 ·rcases vo i hi with hi | rfl
  ·simp only [upd_ne _ _ (hne i hi)];rw [blk_alloc_lt _ _ _ (h.lt hi)];exact h.node i hi
  ·simp only [upd_same];exact blk_alloc_new _ _
 ·rcases vo i hi with hi | rfl
  ·rw [upd_ne _ _ (hne i hi)];exact h.lo i hi
  ·rw [upd_same];exact hb
 ·rcases vo i hi with hi | rfl<;>rcases vo j hj with hj | rfl
  ·rw [upd_ne _ _ (hne i hi),upd_ne _ _ (hne j hj)] at e;exact h.inj i j hi hj e
  ·rw [upd_ne _ _ (hne i hi),upd_same] at e;have:=h.lt hi;omega
  ·rw [upd_same,upd_ne _ _ (hne j hj)] at e;have:=h.lt hj;omega
  ·rfl
 ·rcases vo i hi with hi | rfl
  ·simp only [upd_ne _ _ (hne i hi)];rw [hmap i hi];exact (h.own i hi).alloc _
  ·simp only [upd_same];exact ax.nil _ _ _
 ·rcases vo i hi with hi | rfl
  ·rw [upd_ne _ _ (hne i hi)]
   rcases vo j hj with hj | rfl
   ·rw [upd_ne _ _ (hne j hj)];exact h.apart i j hi hj
   ·rw [upd_same];intro e;have:=(h.ni hi e).2;omega
  ·rw [upd_same];intro e;cases e
 ·rcases vo i hi with hi | rfl<;>rcases vo j hj with hj | rfl
  ·rw [upd_ne _ _ (hne i hi)] at h1;rw [upd_ne _ _ (hne j hj)] at h2;exact h.alone i j b hi hj h1 h2
  ·rw [upd_same] at h2;cases h2
  ·rw [upd_same] at h1;cases h1
  ·rfl
 ·rcases vo i hi with hi | rfl
  ·simp only [upd_ne _ _ (hne i hi)];intro k hk;have:=h.kid i hi k hk;omega
  ·simp only [upd_same];intro k hk;cases hk
theorem cU.empty (base:Nat) (A:Nat->Nat) (kv:Nat->Value) (F:ct) (w:World):cU base 0 A kv F w :=
 ⟨fun _ h=>absurd h (bG _),fun _ h=>absurd h (bG _),fun _ _ h=>absurd h (bG _),fun _ h=>absurd h (bG _),fun _ _ h=>absurd h (bG _),fun _ _ _ h=>absurd h (bG _),fun _ h=>absurd h (bG _)⟩
theorem cU.push (h:cU base n A kv F w) {k c:Nat} (hk:k<n) (hc:c<n) {v:Value} (hv:ax base 119 w' v ((F.kids k++[c]).map (cV A))) (hg:w.grownBy w' (kv k).ownBlock)
  (hb:∀b,v.ownBlock=some b->(kv k).ownBlock=some b\/w.heap.size<=b):cU base n A (upd kv k v) { F with kids:=upd F.kids k (F.kids k++[c]) } (w'.setCell ⟨A k,1,none⟩ v):=by
 have hold:∀i,i<n->w'.heap[A i]? = w.heap[A i]?:=fun i hi=>hg.block (A i) (h.lt hi) (fun e=>h.apart k i hk hi e.symm);have hnA:∀b,v.ownBlock=some b->b≠A k:=fun b hv2 e=>by
  rcases hb b hv2 with h4 | h4
  ·exact h.apart k k hk hk (by rw [h4,e])
  ·have:=h.lt hk;omega
 refine h.put hk (fun i hi e=>?_) ?_ (hv.same fun b hv2=>blk_setCell_other _ _ _ _ (hnA b hv2)) (fun i b hi e hb2=>?_) hb ?_
 ·rw [blk_setCell_other _ _ _ _ (fun e2=>e (h.inj i k hi hk e2))];exact hold i hi
 ·have hn:=hold k hk
  rw [h.node k hk] at hn;simp [World.setCell,Array.getElem?_modify,hn]
 ·have hne:b≠A k:=fun e2=>h.apart i k hi hk (by rw [hb2,e2])
  rw [blk_setCell_other _ _ _ _ hne];exact hg.block b (h.ni hi hb2).2 (fun e2=>e (h.alone i k b hi hk hb2 e2.symm))
 ·intro j hj
  rcases dV.1 hj with h1 | h1
  ·exact h.kid k hk j h1
  ·have:j=c:=by simpa using h1
   omega
end
end
section
open Go.Sort
theorem vB:∀a b:List UInt8,Lib.compareBytes b a = - Lib.compareBytes a b
 | [],[]=>rfl
 | [],_::_=>rfl
 | _::_,[]=>rfl
 | a::u,b::v=>by
  unfold Lib.compareBytes
  by_cases h1:a<b
  ·have h2:¬b<a:=by rw [Bl] at *;omega
   simp [h1,h2]
  ·by_cases h2:b<a
   ·simp [h1,h2]
   ·simp only [h1,h2,if_false];exact vB u v
theorem xT:∀ {a b:List UInt8},Lib.compareBytes a b=0->a=b
 | [],[],_=>rfl
 | [],_::_,h=>by cases h
 | _::_,[],h=>by cases h
 | a::u,b::v,h=>by
  unfold Lib.compareBytes at h
  split at h
  ·cases h
  ·split at h
   ·cases h
   ·rename_i h1 h2
    have e:a=b:=by
     apply UInt8.toNat.inj
     rw [Bl] at h1 h2;omega
    rw [e,xT h]
theorem FD (a:List UInt8):Lib.compareBytes a a=0:=by have:=vB a a;omega
theorem CU:∀ {a b c:List UInt8},Lib.compareBytes a b<0->Lib.compareBytes b c<0->Lib.compareBytes a c<0
 | [],[],_,h,_=>by cases h
 | [],_::_,[],_,h=>by cases h
 | [],_::_,_::_,_,_=>Int.negSucc_lt_zero 0
 | _::_,[],_,h,_=>by cases h
 | _::_,_::_,[],_,h=>by cases h
 | a::u,b::v,c::x,h,h'=>by
  unfold Lib.compareBytes at *
  by_cases h1:a<b
  ·by_cases h2:b<c
   ·have h3:a<c:=by rw [Bl] at *;omega
    rw [if_pos h3];decide
   ·rw [if_neg h2] at h'
    by_cases h3:c<b
    ·rw [if_pos h3] at h';cases h'
    ·have h4:a<c:=by rw [Bl] at *;omega
     rw [if_pos h4];decide
  ·rw [if_neg h1] at h
   by_cases h2:b<a
   ·rw [if_pos h2] at h;cases h
   ·rw [if_neg h2] at h
    have e:a=b:=by
     apply UInt8.toNat.inj
     rw [Bl] at h1 h2;omega
    subst e
    by_cases h3:a<c
    ·rw [if_pos h3];decide
    ·rw [if_neg h3] at h' ⊢
     by_cases h4:c<a
     ·rw [if_pos h4] at h';cases h'
     ·rw [if_neg h4] at h' ⊢;exact CU h h'
def fG (a b:ByteArray):Int:=Lib.compareBytes a.data.toList b.data.toList
theorem nC (a b:ByteArray):fG b a = - fG a b:=vB _ _
theorem nD {a b:ByteArray} (h:fG a b=0):a=b:=j9 (xT h)
theorem Ap {a b c:ByteArray} (h:fG a b<0) (h':fG b c<0):fG a c<0:=CU h h'
theorem Qn (a:ByteArray):fG a a=0:=FD _
def vV (f:Nat->ByteArray) (x y:Nat):Bool:=decide (fG (f x) (f y)<=0)
def fV (f:Nat->ByteArray) (l:List Nat):List Nat:=l.mergeSort (vV f)
theorem Qo (f:Nat->ByteArray) (a b c:Nat) (h:vV f a b=true) (h':vV f b c=true):vV f a c=true:=by
 unfold vV at *;simp only [decide_eq_true_eq] at *;by_cases h1:fG (f a) (f b)=0
 ·rw [nD h1];exact h'
 ·by_cases h2:fG (f b) (f c)=0
  ·rw [<- nD h2];exact h
  ·have:=Ap (a:=f a) (b:=f b) (c:=f c) (by omega) (by omega);omega
theorem Qp (f:Nat->ByteArray) (a b:Nat):(vV f a b || vV f b a)=true:=by
 unfold vV;have:=nC (f a) (f b);simp only [Ah,decide_eq_true_eq];omega
theorem jo (f:Nat->ByteArray) (l:List Nat):(fV f l).Perm l:=Ee _ _
theorem BC (f:Nat->ByteArray) (l:List Nat):(fV f l).Pairwise (fun a b=>vV f a b=true):=List.pairwise_mergeSort (Qo f) (Qp f) l
theorem KA {f g:Nat->ByteArray} {l:List Nat} (h:∀x∈l,f x=g x):fV f l=fV g l:=by
 have:=List.map_mergeSort (f:=id) (r:=vV f) (s:=vV g) (l:=l) (fun a ha b hb=>by simp only [vV,id];rw [h a ha,h b hb]);simpa [fV] using this
def Sep (f:Nat->ByteArray) (l:List Nat):Prop:=∀x∈l,∀y∈l,f x=f y->x=y
theorem GL {f:Nat->ByteArray} {l l':List Nat} (hp:l.Perm l') (hs:Sep f l):fV f l=fV f l':=by
 refine List.Perm.eq_of_pairwise (le:=fun a b=>vV f a b=true) ?_ (BC f l) (BC f l') (((jo f l).trans hp).trans (jo f l').symm);intro a b ha hb h1 h2;refine hs a ((jo f l).mem_iff.1 ha) b (hp.mem_iff.2 ((jo f l').mem_iff.1 hb)) (nD ?_);unfold vV at h1 h2;simp only [decide_eq_true_eq] at h1 h2;have:=nC (f a) (f b);omega
structure Wf (F:ct) (n:Nat) (rk:Nat->Nat):Prop where
 kid:∀i,i<n->∀k∈F.kids i,k<n/\rk k<rk i
def CV (F:ct):Nat->Nat->ByteArray
 | 0,i=>F.nm i
 | d+1,i=>match fV (CV F d) (F.kids i) with | []=>F.nm i | k::_=>CV F d k
theorem LG {F:ct} {n:Nat} {rk:Nat->Nat} (h:Wf F n rk):∀ {d e i:Nat},i<n->rk i<=d->rk i<=e->CV F d i=CV F e i:=by
 intro d
 induction d with
 | zero =>
  intro e i hi hd he;have hk:F.kids i=[]:=by
   cases hk:F.kids i with
   | nil=>rfl
   | cons k l=>have:=(h.kid i hi k (by rw [hk];simp)).2;omega
  cases e with
  | zero=>rfl
  | succ e=>simp [CV,hk,fV]
 | succ d ih =>
  intro e i hi hd he;have hsame:∀e',rk i<=e'+1->fV (CV F d) (F.kids i)=fV (CV F e') (F.kids i):=fun e' he'=>KA fun k hk=>by have:=h.kid i hi k hk;exact ih this.1 (by omega) (by omega)
  cases e with
  | zero =>
   have hk:F.kids i=[]:=by
    cases hk:F.kids i with
    | nil=>rfl
    | cons k l=>have:=(h.kid i hi k (by rw [hk];simp)).2;omega
   simp [CV,hk,fV]
  | succ e =>
   simp only [CV];rw [hsame e (by omega)];cases hc:fV (CV F e) (F.kids i) with
   | nil=>rfl
   | cons k l =>
    have hk:k∈F.kids i:=(jo _ _).mem_iff.1 (by rw [hc];simp);have:=h.kid i hi k hk;exact ih this.1 (by omega) (by omega)
def lM (F:ct) (rk:Nat->Nat) (i:Nat):ByteArray:=CV F (rk i) i
theorem BD {F:ct} {n:Nat} {rk:Nat->Nat} (h:Wf F n rk) {i:Nat} (hi:i<n):lM F rk i=match fV (lM F rk) (F.kids i) with | []=>F.nm i | k::_=>lM F rk k:=by
 have h1:lM F rk i=CV F (rk i+1) i:=LG h hi (af _) (lz _);rw [h1];simp only [CV];have hs:fV (CV F (rk i)) (F.kids i)=fV (lM F rk) (F.kids i):=KA fun k hk=>by have:=h.kid i hi k hk;exact LG h this.1 (by omega) (af _)
 rw [hs];cases hc:fV (lM F rk) (F.kids i) with
 | nil=>rfl
 | cons k l =>
  have hk:k∈F.kids i:=(jo _ _).mem_iff.1 (by rw [hc];simp);have:=h.kid i hi k hk;exact LG h this.1 (by omega) (af _)
def zC (F:ct):Nat->Nat->Nat->Bool
 | 0,i,j=>j==i
 | d+1,i,j=>(j==i) || (F.kids i).any fun k=>zC F d k j
def ep (F:ct) (rk:Nat->Nat) (i j:Nat):Bool:=zC F (rk i) i j
theorem Ib {F:ct} {n:Nat} {rk:Nat->Nat} (h:Wf F n rk):∀ {d e i j:Nat},i<n->rk i<=d->rk i<=e->zC F d i j=zC F e i j:=by
 intro d
 induction d with
 | zero =>
  intro e i j hi hd he;have hk:F.kids i=[]:=by
   cases hk:F.kids i with
   | nil=>rfl
   | cons k l=>have:=(h.kid i hi k (by rw [hk];simp)).2;omega
  cases e with
  | zero=>rfl
  | succ e=>simp [zC,hk]
 | succ d ih =>
  intro e i j hi hd he;cases e with
  | zero =>
   have hk:F.kids i=[]:=by
    cases hk:F.kids i with
    | nil=>rfl
    | cons k l=>have:=(h.kid i hi k (by rw [hk];simp)).2;omega
   simp [zC,hk]
  | succ e =>
   simp only [zC];congr 1;rw [lR,eO,eO];constructor
   ·rintro ⟨k,hk,h1⟩
    have:=h.kid i hi k hk;exact ⟨k,hk,by rw [<- ih (e:=e) this.1 (by omega) (by omega)];exact h1⟩
   ·rintro ⟨k,hk,h1⟩
    have:=h.kid i hi k hk;exact ⟨k,hk,by rw [ih (e:=e) this.1 (by omega) (by omega)];exact h1⟩
theorem nN {F:ct} {n:Nat} {rk:Nat->Nat} (h:Wf F n rk) {i:Nat} (hi:i<n) (j:Nat):ep F rk i j=((j==i) || (F.kids i).any fun k=>ep F rk k j):=by
 have h1:ep F rk i j=zC F (rk i+1) i j:=Ib h hi (af _) (lz _);rw [h1];simp only [zC];congr 1;rw [lR,eO,eO];constructor
 ·rintro ⟨k,hk,h1⟩
  have:=h.kid i hi k hk;exact ⟨k,hk,by unfold ep;rw [<- Ib h this.1 (d:=rk i) (by omega) (af _)];exact h1⟩
 ·rintro ⟨k,hk,h1⟩
  have:=h.kid i hi k hk;exact ⟨k,hk,by rw [Ib h this.1 (e:=rk k) (by omega) (af _)];exact h1⟩
def ct.oO (F:ct) (rk:Nat->Nat) (p:Nat->Bool):ct:={ F with kids:=fun i=>if p i then fV (lM F rk) (F.kids i) else F.kids i }
theorem ct.nY (F:ct) (rk:Nat->Nat) (p:Nat->Bool) (i:Nat):((F.oO rk p).kids i).Perm (F.kids i):=by
 show (if p i then _ else _:List Nat).Perm _;split
 ·exact jo _ _
 ·exact k9 _
end
end Go.Proofs.YthgabkgmkolobaaGreat
