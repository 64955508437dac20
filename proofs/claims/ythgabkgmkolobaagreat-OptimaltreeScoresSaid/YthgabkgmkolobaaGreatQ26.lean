/- The text of a tree: phylotree.Print$1. slices.IndexFunc, slices.DeleteFunc at nodes. The .. -/
import Derived.Lib.MinMax
import Derived.Lib.SliceRun
import Derived.Test.YthgabkgmkolobaaGreatQ24
set_option maxRecDepth 100000
namespace Go.Proofs.YthgabkgmkolobaaGreat
section
open Go.RowKit Go.Deep
mutual
def txR:RT→List UInt8
 | .node nm []=>nm.data.toList
 | .node _ (k::ks)=>40::(txR k++txRs ks++[41])
def txRs:List RT→List UInt8
 | []=>[]
 | r::rs=>44::(txR r++txRs rs)
end
def fP:List RT→List UInt8
 | []=>[]
 | k::ks=>40::(txR k++txRs ks)
theorem Py (l:List RT) (c:RT):txRs (l++[c])=txRs l++44::txR c:=by
 induction l with
 | nil=>simp [txRs]
 | cons a l ih=>rw [List.cons_append,txRs,txRs,ih];simp
theorem xY (l:List RT) (c:RT):fP (l++[c])=fP l++(if l.length=0 then 40 else 44)::txR c:=by
 cases l with
 | nil=>simp [fP,txRs]
 | cons a l=>rw [List.cons_append,fP,fP,Py,if_neg (by simp)];simp
theorem qZ (nm:ByteArray) {ks:List RT} (h:ks≠[]):txR (.node nm ks)=fP ks++[41]:=by
 cases ks with
 | nil=>exact absurd rfl h
 | cons k ks=>rw [txR,fP];simp
theorem uH (nm:ByteArray):txR (.node nm [])=nm.data.toList:=by rw [txR]
theorem Fv (l m:List RT):(txRs (l++m)).length=(txRs l).length+(txRs m).length:=by
 induction l with
 | nil=>simp [txRs]
 | cons a l ih=>rw [List.cons_append,txRs,txRs];simp [ih];omega
theorem xy (l:List RT) (k:Nat):(fP (l.take k)).length≤(fP l).length:=by
 cases l with
 | nil=>simp [fP]
 | cons a l =>
  cases k with
  | zero=>simp [fP]
  | succ k =>
   rw [List.take_succ_cons,fP,fP];have:=Fv (l.take k) (l.drop k);rw [List.take_append_drop] at this;simp only [List.length_cons,List.length_append];omega
structure jx (B b:Nat) (pre:List UInt8) (w wr:World):Prop where
 bl:Lib.IsBuilderF 117 5 B b (Lib.byteCells pre) wr
 up:Below B w wr
 ot:Lib.OthersKept 5 (some b) w wr
theorem jx.size {B b:Nat} {pre:List UInt8} {w wr:World} (h:jx B b pre w wr) (hB:B≤w.heap.size):B≤wr.heap.size:=Nat.le_trans hB h.up.size
theorem jx.byte {B b:Nat} {pre:List UInt8} {w wr w2:World} {x:UInt8} {c:Int} (h:jx B b pre w wr) (hc:c=x.toNat) (h1:Lib.BuilderAtF 117 5 B b (.pointer (some ⟨b,0,none⟩)) (Lib.byteCells pre++[.int .u8 c]) w2) (h2:Below B wr w2) (h3:Lib.OthersKept 5 (some b) wr w2):jx B b (pre++[x]) w w2:=by
 subst hc;exact ⟨.inr (by rw [show Lib.byteCells (pre++[x])=Lib.byteCells pre++[.int .u8 x.toNat] from List.map_append];exact h1),h.up.trans h2,h.ot.trans h3⟩
theorem jx.next {B b:Nat} {pre Vg:List UInt8} {w wr w2:World} (h:jx B b pre w wr) (k:jx B b Vg wr w2):jx B b Vg w w2:=⟨k.bl,h.up.trans k.up,h.ot.trans k.ot⟩
theorem bf.others {base n b:Nat} {A:Nat→Nat} {kv:Nat→Value} {F:aU} {w w':World} (h:bf base n A kv F w) (hb:b<base) (k:Lib.OthersKept 5 (some b) w w'):bf base n A kv F w':=by
 refine h.same (fun i hi=>?_) fun i g hi hg=>?_
 ·have h1:=h.node i hi
  rw [h1];refine k _ _ h1 (fun e=>by have:=h.lo i hi;cases e;omega) (fun c fz e=>?_);injection e with _ e2 _;exact absurd e2 (by decide)
 ·have hlo:=(h.fU hi hg).1
  obtain ⟨_,h1 | ⟨g2,cap,cur,h1,_,hc,_⟩⟩:=h.own i hi
  ·rw [h1.1] at hg;cases hg
  ·rw [h1] at hg
   have hg:some g2=some g:=hg;injection hg with hg;subst hg;rw [hc];refine k _ _ hc (fun e=>by cases e;omega) (fun c fz e=>?_);injection e with _ e2 _;exact absurd e2 (by decide)
def rZ (b fb:Nat) (w:World):Prop:=w.heap[fb]? = some (Obj.cells #[.func (.func 90) #[] #[.pointer (some ⟨b,0,none⟩),.pointer (some ⟨fb,0,none⟩)]] 118 (0,0))
theorem rZ.cell {b fb:Nat} {w:World} (h:rZ b fb w):w.cell? ⟨fb,0,none⟩=some (.func (.func 90) #[] #[.pointer (some ⟨b,0,none⟩),.pointer (some ⟨fb,0,none⟩)]):=by
 have h:w.heap[fb]? = _:=h;simp [World.cell?,h]
theorem rZ.others {b fb:Nat} {w w':World} (h:rZ b fb w) (hne:fb≠b) (k:Lib.OthersKept 5 (some b) w w'):rZ b fb w':=by
 have h:w.heap[fb]? = _:=h;refine k _ _ h (fun e=>by cases e;exact hne rfl) (fun c fz e=>?_);injection e with _ e2 _;exact absurd e2 (by decide)
def Vh (B b:Nat) (pre:List UInt8) (w:World) (e:Ending) (w':World):Prop:=e=.returned (.tuple #[])∧jx B b pre w w'
set_option maxHeartbeats 4000000 in
theorem Pz {base n B b fb:Nat} {A:Nat→Nat} {kv:Nat→Value} {F:aU} {rk:Nat→Nat} (hw:Wf F n rk) (hl:∀z,z<n→(F.kids z).length≤1000) (hbb:b<base) (CW:fb≠b):∀(d i:Nat) (pre:List UInt8) (w:World),i<n→rk i≤d→bf base n A kv F w→rZ b fb w →
  Lib.IsBuilderF 117 5 B b (Lib.byteCells pre) w→pre.length+(txR (aT F rk i)).length≤140737488355328→B≤w.heap.size →
  Calls Tryz.prog 90 (#[.pointer (some ⟨A i,0,none⟩)]++#[.pointer (some ⟨b,0,none⟩),.pointer (some ⟨fb,0,none⟩)]) w (Vh B b (pre++txR (aT F rk i)) w):=by
 intro d
 induction d using Nat.strongRecOn with
 | ind d ih =>
  intro i pre w hi hd hF k9 hbl hlen hB;have eP:∀args w,(callFunc 90 args).run Tryz.prog w=.ok (.enter 90 args) w:=enters_of Tryz.func90 (by kernel_rfl) rfl;have hown:=hF.own i hi;obtain ⟨q,cap,hv,hq⟩:=hown.form (n:=(F.kids i).length) (by simp);have hkc:=hF.oZ hi;rw [hv] at hkc;have hnm:=hF.name hi;by_cases h0:F.kids i=[]
  ·have CX:txR (aT F rk i)=(F.nm i).data.toList:=by rw [dD hw hi,h0];exact uH _
   rw [CX] at hlen ⊢;(have d1:(((F.kids i).length:Int)==0)=true:=by rw [h0];rfl);have HW:=aa (Um B b (Lib.byteCells pre) (F.nm i) w hbl (by rw [Lib.byteCells_length];exact hlen) hB);have HE:Hid (∀w',Lib.BuilderAtF 117 5 B b (.pointer (some ⟨b,0,none⟩)) (Lib.byteCells pre++Lib.strCells (F.nm i)) w'→Below B w w'→Lib.OthersKept 5 (some b) w w'→jx B b (pre++(F.nm i).data.toList) w w'):=fun w' h1 h2 h3 =>
    ⟨.inr (by rw [Lib.strCells_eq,← show Lib.byteCells (pre++(F.nm i).data.toList)=Lib.byteCells pre++Lib.byteCells (F.nm i).data.toList from List.map_append] at h1;exact h1),h2,h3⟩
   clear hown hq hv ih hF k9 hbl hlen h0 CX;generalize F.nm i=nm at *
   go_enter Tryz.func90,Tryz.ntmps90
   go_wp2_with fail;refine HW.out.mono ?_;rintro e w' ⟨rfl,h1,h2,h3⟩;have HN:=aa (HE.out w' h1 h2 h3);clear h1 h2 h3;go_wp2_with fail
   go_end0
   exact ⟨rfl,HN.out⟩
  ·obtain ⟨L,th⟩:∃L,L=F.kids i:=⟨_,rfl⟩
   (have Ck:0<L.length:=by rw [th];exact List.length_pos_iff.2 h0);(have eU:L.length≤1000:=by rw [th];exact hl i hi);rw [← th] at hown hv hkc;(have CX:txR (aT F rk i)=fP (L.map (aT F rk))++[41]:=by rw [dD hw hi,← th];exact qZ _ (by rw [th];simpa using h0));rw [CX] at hlen ⊢;have d1:((L.length:Int)==0)=false:=beq_eq_false_iff_ne.2 (by omega);obtain ⟨gk,rfl⟩:∃g,q=some ⟨g,0,none⟩:=by
    rcases hq with rfl | h
    ·obtain ⟨_,h | ⟨g,_,_,h,_⟩⟩:=hown
     ·have:=h.2;rw [List.length_map] at this;omega
     ·rw [hv] at h;cases h
    ·exact h
   (have HLEN:Hid (∀k,pre.length+(fP ((L.take k).map (aT F rk))).length+1≤140737488355328):=fun k=>by have:=xy (L.map (aT F rk)) k;rw [← List.map_take] at this;simp only [List.length_append,List.length_cons,List.length_nil] at hlen;omega);(have HST:Hid (jx B b (pre++fP ((L.take 0).map (aT F rk))) w w):=by rw [Hid,List.take_zero,List.map_nil,fP,List.append_nil];exact ⟨hbl,Below.refl _ _,Lib.OthersKept.refl _ _ _⟩);have HF:=aa hF;have eu:=aa k9;have dm:=aa th;have jk:=aa ih;have HV:=aa hv
   have eO:Hid (∀c∈L,c<n∧rk c<rk i):=fun c hc=>hw.kid i hi c (by rw [← th];exact hc);clear hown hq hv ih hF k9 hbl hlen h0 CX th hnm
   go_enter Tryz.func90,Tryz.ntmps90
   go_wp2_with fail
   go_loopw [4,5,22] (fun _ _ x wr=>∃k:Nat,k≤L.length∧x=.int .i64 k∧Hid (jx B b (pre++fP ((L.take k).map (aT F rk))) w wr)) (fun _ _ x _=>L.length - (intOf x).toNat)
   case atStart=>exact ⟨0,Nat.zero_le _,rfl,HST.out⟩
   case round =>
    obtain ⟨k,hk,rfl,hO⟩:=hrel;obtain ⟨wo,rfl⟩:∃wo:World,wo=wr:=⟨_,rfl⟩;by_cases hlt:k<L.length
    ·have Er:L[k]? = some L[k]:=List.getElem?_eq_getElem hlt
     have YP:=HF.out.others hbb hO.out.ot;have hrow:=YP.DU (i:=i) (j:=k) (c:=L[k]) hi HV.out (by rw [← dm.out];exact Er);have dQ:=eO.out L[k] (List.getElem_mem hlt);(have iw:Hid (((L.take k).map (aT F rk)).length=k):=by rw [Hid,List.length_map,List.length_take];omega);have mz:Hid (fP ((L.take (k+1)).map (aT F rk))=fP ((L.take k).map (aT F rk))++((if k=0 then 40 else 44)::txR (aT F rk L[k]))):=by rw [Hid,List.take_add_one,Er,List.map_append];show fP (_++[aT F rk L[k]])=_;rw [xY,iw.out]
     have jE:=aa (fun c:Int=>Br B b (Lib.byteCells (pre++fP ((L.take k).map (aT F rk)))) c wo hO.out.bl (by rw [Lib.byteCells_length,List.length_append];exact HLEN.out k) (hO.out.size hB));have HO:=aa hO.out;have aW:=aa hlt;have l7:=aa dQ;obtain ⟨mn,hmn,lJ⟩:∃mn:Int,min (k:Int) 1=mn∧((k=0∧mn=0)∨(k≠0∧mn=1)):=⟨_,rfl,by omega⟩;(have i1:(0:Int)≤(k:Int):=by omega);(have i2:(k:Int)<(L.length:Int):=by omega);clear Er YP dQ hO;generalize L[k]=c at *;rcases lJ with ⟨rN,rfl⟩ | ⟨rN,rfl⟩
     ·rw [if_pos rN] at mz
      clear rN;go_wp2_with fail;refine (jE.out _).mono ?_;rintro e w2 ⟨rfl,h1,h2,h3⟩;have HS:=aa (HO.out.byte (x:=40) rfl h1 h2 h3);clear h1 h2 h3;have I2:=(eu.out.others CW HS.out.ot).cell
      have fV:=aa (jk.out (rk c) (by have:=l7.out.2;omega) c (pre++fP ((L.take k).map (aT F rk))++[40]) w2 l7.out.1 (Nat.le_refl _) (HF.out.others hbb HS.out.ot) (eu.out.others CW HS.out.ot) HS.out.bl (by
       have:=HLEN.out (k+1);rw [mz.out] at this;simp only [List.length_append,List.length_cons,List.length_nil] at this ⊢
       omega) (HS.out.size hB))
      go_wp2_with fail;refine fV.out.mono ?_;rintro e w3 ⟨rfl,h4⟩;(have HN:Hid (jx B b (pre++fP ((L.take (k+1)).map (aT F rk))) w w3):=by have:=HS.out.next h4;rw [Hid,mz.out];simpa [List.append_assoc] using this);clear h4 fV HS;go_wp2_with fail
      go_roundw
      case rel=>exact ⟨k+1,aW.out,by go_num,HN.out⟩
      case measure=>have:=aW.out;simp [intOf];omega
     ·rw [if_neg rN] at mz
      clear rN;go_wp2_with fail;refine (jE.out _).mono ?_;rintro e w2 ⟨rfl,h1,h2,h3⟩;have HS:=aa (HO.out.byte (x:=44) rfl h1 h2 h3);clear h1 h2 h3;have I2:=(eu.out.others CW HS.out.ot).cell
      have fV:=aa (jk.out (rk c) (by have:=l7.out.2;omega) c (pre++fP ((L.take k).map (aT F rk))++[44]) w2 l7.out.1 (Nat.le_refl _) (HF.out.others hbb HS.out.ot) (eu.out.others CW HS.out.ot) HS.out.bl (by
       have:=HLEN.out (k+1);rw [mz.out] at this;simp only [List.length_append,List.length_cons,List.length_nil] at this ⊢
       omega) (HS.out.size hB))
      go_wp2_with fail;refine fV.out.mono ?_;rintro e w3 ⟨rfl,h4⟩;(have HN:Hid (jx B b (pre++fP ((L.take (k+1)).map (aT F rk))) w w3):=by have:=HS.out.next h4;rw [Hid,mz.out];simpa [List.append_assoc] using this);clear h4 fV HS;go_wp2_with fail
      go_roundw
      case rel=>exact ⟨k+1,aW.out,by go_num,HN.out⟩
      case measure=>have:=aW.out;simp [intOf];omega
    ·obtain rfl:k=L.length:=by omega
     have hO:=hO.out;rw [List.take_length] at hO;have HO:=aa hO;have jE:=aa (Br B b (Lib.byteCells (pre++fP (L.map (aT F rk)))) 41 wo hO.bl (by rw [Lib.byteCells_length,List.length_append];have:=HLEN.out L.length;rw [List.take_length] at this;exact this) (hO.size hB));clear hO;go_wp2_with fail;refine jE.out.mono ?_;rintro e w2 ⟨rfl,h1,h2,h3⟩;have HS:=aa (HO.out.byte (x:=41) rfl h1 h2 h3);clear h1 h2 h3;go_wp2_with fail
     go_end0
     exact ⟨rfl,by rw [← List.append_assoc];exact HS.out⟩
end
section
open Go.RowKit Go.Deep
theorem My {base:Nat} {e:TypeId} {w:World} {g n cap:Nat} {xs:List Value} (h:aF base e w (.slice (some ⟨g,0,none⟩) n cap) xs) {m:Nat} (hm:m≤n):aF base e w (.slice (some ⟨g,0,none⟩) m cap) (xs.take m):=by
 obtain ⟨h1,h2⟩:=h;rcases h2 with ⟨e1,_⟩ | ⟨g2,cr,cur,e1,hg,hc,hn,hcm,hcs,ht⟩
 ·cases e1
 ·injection e1 with a1 a2 a3
  injection a1 with a1;injection a1 with a1;subst a1;subst a3;have hnx:n=xs.length:=a2;have hl:(xs.take m).length=m:=by rw [List.length_take];omega
  refine ⟨by rw [Nat.mul_one],.inr ⟨g,cap,cur,by rw [hl],hg,hc,by omega,hcm,hcs,?_⟩⟩;rw [hl,Nat.mul_one,← ht,List.take_take];congr 1;omega
theorem CY {base:Nat} {e:TypeId} {w:World} {g n cap:Nat} {xs:List Value} (h:aF base e w (.slice (some ⟨g,0,none⟩) n cap) xs) {j:Nat} {u:Value} (hj:xs[j]? = some u):w.cell? ⟨g,j,none⟩=some u∧w.frozen? ⟨g,j,none⟩=false:=by
 have hl:=(List.getElem?_eq_some_iff.1 hj).1;obtain ⟨g2,cr,e1,_,_,hc,hf,_⟩:=h.set hl;injection e1 with a1;injection a1 with a1;injection a1 with a1;subst a1;refine ⟨?_,hf⟩;rw [hc];congr 1;rw [List.getD_eq_getElem?_getD,hj];rfl
end
section
open Go.RowKit Go.Shelf Go.Deep
theorem PA (W:World):(zeroValue 3).run Tryz.prog W=.ok (.int .i64 0) W:=by simp [Tryz.zeroValue3]
end
section
section
variable {names:List ByteArray} {l:List Rj}
theorem PB (names:List ByteArray):(List.range names.length).map (gs names)=names:=by
 refine List.ext_getElem (by simp) fun i h1 h2=>?_;simp [gs,h2]
end
end
end Go.Proofs.YthgabkgmkolobaaGreat
