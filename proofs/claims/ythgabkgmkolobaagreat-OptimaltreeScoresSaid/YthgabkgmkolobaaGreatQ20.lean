/- The contracts of parsimony.Fitch and of the reference's Fitch. -/
import Derived.Test.YthgabkgmkolobaaGreatQ19
set_option maxRecDepth 100000
namespace Go.Proofs.YthgabkgmkolobaaGreat
open Go.RowKit Go.Deep
def Aj (w:World) (t:aD) (st:List Int) (e:Ending) (w':World):Prop :=
 Up w w'∧e=.returned (.tuple #[.int .i64 (bu t st (aS 16)),.int .i64 (cE t st (aS 16))])
theorem XA:eG (aS 16)=0:=by decide +kernel
theorem Ak:(aS 16).length=16:=iq 16
theorem Rq {t:aD} (h:aB t=0) (st:List Int):cE t st (aS 16)=gA st (aq t.ns).length (-1) 16:=by
 unfold cE;rw [if_neg (fun e=>e h),if_neg (fun e=>e XA),Ak];rfl
theorem xW {t:aD} {st:List Int} {cs:List (List Int)} (h:cE t st cs≠0):bu t st cs=0:=by unfold bu;rw [if_neg h]
theorem Pc (T:Nat→Prop) (w:World) (vr:Value) (row:List Int) (hR:aj T w vr row) (TK:row.length≤1000) :
  Calls Tryz.prog 169 #[vr] w fun e w'=>e=.returned (.tuple #[.int .i64 (bq (fun _=>0) (gi row) row.length).1,.int .i64 (bq (fun _=>0) (gi row) row.length).2])∧w=w':=Sn T w vr row hR TK
theorem E4 (n k:Nat):(gl (aS n) k).length≤n:=by
 by_cases h:k<n
 ·rw [y5 h,gj];exact Nat.le_refl _
 ·simp [gl,aS,h]
set_option maxHeartbeats 2000000 in
theorem SJ (S:Nat→Prop) (w:World) (v vs:Value) (t:aD) (st:List Int) (hT:au S w v t) (hS:aj S w vs st) (hp:t.ps.length≤1000000) (hn:t.ns.length≤1000000) (hz:∀k,(gs t.ns k).size≤70000) (hst:st.length≤1000000) :
  Calls Tryz.prog 124 #[v,vs] w (Aj w t st):=by
 obtain ⟨P,N,rfl,hP,hN⟩:=hT;have hu:=Up.alloc w (.cells #[P,N] 39);have dw:au S (w.alloc (.cells #[P,N] 39)) (.agg #[P,N]) t:=au.keep ⟨P,N,rfl,hP,hN⟩ (hu.kept S);have HK:=aa (y8 S _ _ t dw hp hn hz);have HU:=aa hu;have cZ:=aa (dc w P N 39);have cR:=aa (dz w P N 39);have HT:=aa dw;have HS:=aa (aj.keep hS (hu.kept S));have EE:=aa hz;clear hu dw hS hP hN hz
 go_enter Tryz.func124,Tryz.ntmps124
 go_wp2_with fail;generalize w.alloc (.cells #[P,N] 39)=w1 at *;refine HK.out.mono ?_;rintro e w2 ⟨hb,⟨he,rfl⟩ | ⟨he,vl,rfl,hl⟩⟩
 ·have aP:=aa (HU.out.trans (show Up w1 w2 from hb))
  have HE:=aa he;clear hb he HK;go_wp2_with fail;go_ret2;have hpe:cE t st (aS 16)=1:=by unfold cE;rw [if_pos HE.out]
  exact ⟨aP.out,by rw [xW (by rw [hpe];decide),hpe];rfl⟩
 ·have aG:Up w1 w2:=hb
  have hc0:=aG.cell cZ.out;have hc1:=aG.cell cR.out;have aP:=aa (HU.out.trans aG);have iu:=aa (HT.out.keep (aG.kept S));have dP:=aa (aj.keep HS.out (aG.kept S));obtain ⟨ql,capl,rfl,_,_⟩:=aC.open hl;have HE:=aa he;have ER:=aa (Sq S w2 vs st (aq t.ns).length (-1) 16 dP.out hst);have tq:=aa (Rq he st);clear hb he HK aG hl HU cZ cR HT HS;go_wp2_with fail;refine ER.out.mono ?_;rintro e w3 ⟨rfl,hb3⟩;have bz:Up w2 w3:=hb3;have hc0:=bz.cell hc0;have hc1:=bz.cell hc1;have bW:=aa (aP.out.trans bz)
  have Mf:=aa (iu.out.keep (bz.kept S));have wZ:=aa (aj.keep dP.out (bz.kept S));clear hb3 bz ER;rw [← tq.out];by_cases hpe:cE t st (aS 16)=0
  ·rw [hpe]
   have hv:=wk hpe;(have HF:Hid (bu t st (aS 16)=(bq (fun _=>0) (gi (aN t st (aS 16) 0)) (aS 16).length).1):=by unfold Hid bu;rw [if_pos hpe]);have HP:=aa hpe;have wN:Hid (∀W vc,Up w3 W→aQ Any W vc (aS 16)→Calls Tryz.prog 170 #[.agg #[P,N],vs,vc] W (Bu W t st (aS 16))):=fun W vc hW hR =>
    (Su Any W _ _ _ t st (aS 16) ((Mf.out.keep (hW.kept _)).sub fun _ _ _=>trivial) (aj.sub (aj.keep wZ.out (hW.kept _)) fun _ _ _=>trivial) hR EE.out hv).mono fun _ _ h=>Yz hv h
   (have hml:(aN t st (aS 16) 0).length≤1000:=by rw [bX,Ak];omega);(have Xx:(0:Int)<(t.ps.length:Int):=by have:=(aJ HE.out).1;omega);have tr:=aa hml;have YA:=aa (Up.refl w3);have b9:Hid (Up w3 (w3.drewN 1)):=Up.drewN w3 1;clear hpe hv hml;go_wp2_with fail
   go_region_with (first
    | (go_at_call 171;refine (UQ _ 16 (by decide) (by decide)).mono ?_;rintro e w5 ⟨mG,vc,rfl,CG⟩;have hR5:=aa CG;have hc0:=(b9.out.trans (show Up _ w5 from mG)).cell hc0;have hc1:=(b9.out.trans (show Up _ w5 from mG)).cell hc1;have b9:Hid (Up w3 w5):=b9.out.trans (show Up _ w5 from mG);clear mG CG)
    | (go_at_call 170;refine (wN.out _ _ b9.out hR5.out).mono ?_;rintro e w6 ⟨tb,L9,O3,rq,rc,rfl,hcell,hrow,UX⟩;have hR6:=aa hrow;have b9:Hid (Up w3 w6):=b9.out.trans UX;clear UX hrow)
    | (go_at_call 169;refine (Pc Any _ _ _ hR6.out tr.out).mono ?_;rintro e w7 ⟨rfl,rfl⟩))
   all_goals
    go_wp2_with fail;go_ret2;exact ⟨bW.out.trans b9.out,by rw [HF.out,HP.out,Ak,bX,Ak];rfl⟩
  ·have rR:(cE t st (aS 16) != 0)=true:=by simpa using hpe
   have HP:=aa hpe;clear hpe;have mI:Hid (bu t st (aS 16)=0):=xW HP.out;go_wp2_with fail;go_ret2;exact ⟨bW.out,by rw [mI.out];rfl⟩
set_option maxHeartbeats 1000000 in
theorem Pd (S:Nat→Prop) (w:World) (v vs:Value) (t:aD) (st:List Int) (hT:au S w v t) (hS:aj S w vs st) (hp:t.ps.length≤1000000) (hn:t.ns.length≤1000000) (hz:∀k,(gs t.ns k).size≤70000) (hst:st.length≤1000000) :
  Calls Tryz.prog 144 #[v,vs] w (Aj w t st):=by
 obtain ⟨P,N,rfl,hP,hN⟩:=hT;have hu:=Up.alloc w (.cells #[P,N] 39);have dw:au S (w.alloc (.cells #[P,N] 39)) (.agg #[P,N]) t:=au.keep ⟨P,N,rfl,hP,hN⟩ (hu.kept S);have HK:=aa (jZ S _ _ t dw hp hn hz);have HU:=aa hu;have cZ:=aa (dc w P N 39);have cR:=aa (dz w P N 39);have HT:=aa dw;have HS:=aa (aj.keep hS (hu.kept S));have EE:=aa hz;have cz:Hid (JQ t st (aS 16)):=⟨hp,hn,hz,hst,by rw [Ak];decide,fun k=>Nat.le_trans (E4 16 k) (by decide)⟩;clear hu dw hS hP hN hz
 go_enter Tryz.func144,Tryz.ntmps144
 go_wp2_with fail;generalize w.alloc (.cells #[P,N] 39)=w1 at *;refine HK.out.mono ?_;rintro e w2 ⟨rfl,hb⟩;have aG:Up w1 w2:=hb;have hc0:=aG.cell cZ.out;have hc1:=aG.cell cR.out;have aP:=aa (HU.out.trans aG);have iu:=aa (HT.out.keep (aG.kept S));have dP:=aa (aj.keep HS.out (aG.kept S));clear hb aG HK HU cZ cR HT HS;by_cases he:aB t=0
 ·have d1:(aB t != 0)=false:=by simpa using he
  have ER:=aa (Co S w2 _ vs t st 16 iu.out dP.out he hp hn EE.out hst);have tq:=aa (Rq he st);clear he;go_wp2_with fail;refine ER.out.mono ?_;rintro e w3 ⟨rfl,hb3⟩;have bz:Up w2 w3:=hb3;have hc0:=bz.cell hc0;have hc1:=bz.cell hc1;have bW:=aa (aP.out.trans bz);have Mf:=aa (iu.out.keep (bz.kept S));have wZ:=aa (aj.keep dP.out (bz.kept S));clear hb3 bz ER;rw [← tq.out];by_cases hpe:cE t st (aS 16)=0
  ·rw [hpe]
   clear hpe;go_wp2_with fail;refine (SD w3 16 (by decide) (by decide)).mono ?_;rintro e w4 ⟨bE,vu,rfl,hr4⟩;have hc0:=bE.cell hc0;have hc1:=bE.cell hc1;have Mg:=aa (O4 Any w4 _ vs vu t st (aS 16) ((Mf.out.keep (bE.kept S)).sub fun _ _ _=>trivial) ((aj.keep wZ.out (bE.kept S)).sub fun _ _ _=>trivial) hr4 cz.out);have jl:=aa (bW.out.trans bE);clear bE hr4;go_wp2_with fail;refine Mg.out.mono ?_;rintro e w5 ⟨fe,rfl⟩;have gU:=aa (jl.out.trans fe);clear fe;go_wp2_with fail;go_ret2;exact ⟨gU.out,rfl⟩
  ·have rR:(cE t st (aS 16) != 0)=true:=by simpa using hpe
   have HP:=aa hpe;clear hpe;have mI:Hid (bu t st (aS 16)=0):=xW HP.out;go_wp2_with fail;go_ret2;exact ⟨bW.out,by rw [mI.out];rfl⟩
 ·have d1:(aB t != 0)=true:=by simpa using he
  have HE:=aa he;clear he;go_wp2_with fail;go_ret2;have hpe:cE t st (aS 16)=1:=by unfold cE;rw [if_pos HE.out]
  exact ⟨aP.out,by rw [xW (by rw [hpe];decide),hpe];rfl⟩
end Go.Proofs.YthgabkgmkolobaaGreat
