/- slices.ContainsFunc at trees and at rows with a function that grows the heap; the .. -/
import Derived.Test.YthgabkgmkolobaaGreatQ40
import Derived.Test.YthgabkgmkolobaaGreatQ39
set_option maxRecDepth 100000
set_option maxHeartbeats 1000000
namespace Go.Proofs.YthgabkgmkolobaaGreat
open Go.RowKit Go.Deep
theorem trees_ix_g (g:Nat) (lb:Array Value) (eg:∀args w,(callFunc g args).run Tryz.prog w=.ok (.enter g args) w) (S:Nat->Prop) (w:World) (v:Value) (ts:List az) (p:Nat->Bool)
  (h:fQ S w v ts) (hn:ts.length<=63) (hp:∀k w' v,k<ts.length->Up w w'->aI S w' v (gt ts k)->Calls Tryz.prog g (#[v]++lb) w' fun e w''=>e=.returned (.bool (p k))/\Up w' w'') :
  Calls Tryz.prog 98 #[v,.func (.func g) #[] lb] w fun e w'=>e=.returned (.int .i64 (dI p ts.length))/\Up w w':=by
 obtain ⟨q,cap,rfl,-⟩:=iM h;have HP:=aa hp;have HX:=aa h;clear h hp
 go_enter Tryz.func98,Tryz.ntmps98
 go_wp2_with fail
 go_loopw [5,8] (fun _ i wr=>∃k:Nat,k<=ts.length/\i=.int .i64 k/\Hid (Up w wr)/\Hid (∀j,j<k->p j=false)) (fun _ i _=>ts.length - (intOf i).toNat)
 case atStart=>exact ⟨0,aL _,rfl,Up.refl _,fun j hj=>absurd hj (bG _)⟩
 case round =>
  obtain ⟨k,hk,rfl,hU,hd⟩:=hrel;obtain ⟨wo,rfl⟩:∃wo:World,wo=wr:=⟨_,rfl⟩;by_cases hlt:k<ts.length
  ·obtain ⟨b,off,pp,pc,np,nc,rfl,c0,c1,hT⟩:=qd (HX.out.keep (hU.out.kept S)) hlt
   have pJ:=aa (HP.out k wo _ hlt hU.out hT);(have i1:(0:Int)<=(k:Int):=by omega);(have i2:(k:Int)<(ts.length:Int):=by omega);clear hT;generalize gt ts k=t at *;cases hv:p k
   ·rw [hv] at pJ
    have HV:=aa hv;clear hv;go_wp2_with fail;refine pJ.out.mono ?_;rintro e w' ⟨rfl,kL⟩;have bD:=aa (hU.out.trans kL);clear kL;go_wp2_with fail
    go_roundw
    case rel=>exact ⟨k+1,by omega,by go_num,bD,fun j hj=>if e:j=k then by subst e;exact HV.out else hd.out j (by omega)⟩
    case measure=>simp [intOf];omega
   ·rw [hv] at pJ
    have HV:=aa hv;clear hv;go_wp2_with fail;refine pJ.out.mono ?_;rintro e w' ⟨rfl,kL⟩;have bD:=aa (hU.out.trans kL);clear kL;go_wp2_with fail;go_ret;exact ⟨aM (iK hlt hd.out HV.out).symm,bD.out⟩
  ·go_wp2_with fail
   go_ret;exact ⟨aM (fI fun j hj=>hd.out j (by omega)).symm,hU.out⟩
theorem Lm (g:Nat) (lb:Array Value) (eg:∀args w,(callFunc g args).run Tryz.prog w=.ok (.enter g args) w) (S:Nat->Prop) (w:World) (v:Value) (ts:List az) (p:Nat->Bool)
  (h:fQ S w v ts) (hn:ts.length<=63) (hp:∀k w' v,k<ts.length->Up w w'->aI S w' v (gt ts k)->Calls Tryz.prog g (#[v]++lb) w' fun e w''=>e=.returned (.bool (p k))/\Up w' w'') :
  Calls Tryz.prog 35 #[v,.func (.func g) #[] lb] w fun e w'=>e=.returned (.bool ((List.range ts.length).any p))/\Up w w':=by
 have HX:=aa (gX p ts.length);have HI:=aa (trees_ix_g g lb eg S w v ts p h hn hp);obtain ⟨q,cap,rfl,-⟩:=iM h;clear hp h eg
 go_enter Tryz.func35,Tryz.ntmps35
 go_wp2_with fail;refine HI.out.mono ?_;rintro e w' ⟨rfl,hu⟩;have HU:=aa hu;clear hu;go_wp2_with fail;go_ret;exact ⟨aV (by rw [<- HX.out]),HU.out⟩
end Go.Proofs.YthgabkgmkolobaaGreat
