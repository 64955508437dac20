/- The contract of phylotree.Check. A slice that a call grows by one element at a time. The .. -/
import Derived.Maps.AppendAt
import Derived.Deep.AppendLies
import Derived.Test.YthgabkgmkolobaaGreatQ2
set_option maxRecDepth 100000
set_option maxHeartbeats 800000
namespace Go.Proofs.YthgabkgmkolobaaGreat
section
open Go.RowKit Go.Deep
theorem Tryz.Y0:(Tryz.prog.info? 4).map (fun i=>(i.zero,i.size,i.bytes))=some (some (.bool false),1,1):=by kernel_rfl
structure Ad (w0 wr:World) (B n:Nat) (f:Nat->Bool):Prop where
 below:Below B w0 wr
 row:wr.rowIs B 4 n (fun j=>.bool (f j))
 size:wr.heap.size=B+1
theorem Ad.start (w0:World) (n:Nat) (f:Nat->Bool) (hf:∀j,f j=false):Ad w0 (w0.alloc (.cells (madeCells #[.bool false] n) 4)) w0.heap.size n f :=
 ⟨(cN _ _).alloc (ah _) _,(World.rowIs_made w0 _ n _).congr fun i _=>by simp [hf],by simp⟩
theorem Ad.set {w0 wr:World} {B n q:Nat} {f g:Nat->Bool} (h:Ad w0 wr B n f) (hg:∀j,g j=(f j || decide (j=q))) :
  Ad w0 (wr.setCell ⟨B,q,none⟩ (.bool true)) B n g :=
 ⟨h.below.setCell (p:=⟨B,q,none⟩) (ah _) _,(h.row.set q _).congr fun i _=>by
  by_cases e:i=q
  ·simp [e,hg]
  ·simp [e,hg],by simp [h.size]⟩
theorem Ad.congr {w0 wr:World} {B n:Nat} {f g:Nat->Bool} (h:Ad w0 wr B n f) (hg:∀j,g j=f j):Ad w0 wr B n g :=
 ⟨h.below,h.row.congr fun i _=>by simp [hg],h.size⟩
theorem vq (S : Nat -> Prop) (w : World) (v : Value) (t : aF) (h : aC S w v t) (hp : t.ps.length <= 1000000) (hn : t.ns.length <= 1000000) (hz : ∀ k, (gs t.ns k).size <= 70000) :
    Calls Tryz.prog 87 #[v] w fun e w' => e = .returned (.int .i64 (aB t)) /\ Below w.heap.size w w' := by
  obtain ⟨P, N, rfl, hP, hN⟩ := h
  obtain ⟨ps, ns⟩ := t
  simp only at *
  have dR : aB ⟨ps, ns⟩ = if ps.length = 0 then 5 else if 64 < ps.length then 4 else if ns.length ≠ ps.length then 9 else if jW ps then dF (jC ps ns) ps.length else 2 := rfl
  have HF := aa dR
  clear dR
  have MV := hP.keep (Kept.below ((cN _ w).alloc (ah _) (.cells #[P, N] 39)))
  have MW := hN.keep (Kept.below ((cN _ w).alloc (ah _) (.cells #[P, N] 39)))
  clear hP hN
  obtain ⟨p, cap, rfl, hcap, HP⟩ := aA.open MV
  obtain ⟨q, eR, rfl, BO, HN⟩ := aA.open MW
  have mV : Below w.heap.size w (w.alloc (.cells #[.slice p ps.length cap, .slice q ns.length eR] 39)) := (cN _ _).alloc (ah _) _
  have J6 := aa HP
  have FM := aa HN
  clear MV MW HP HN
  by_cases h0 : ps.length = 0
  · have HX : Hid (ps.length = 0) := h0
    have h0' : ((ps.length : Int) == 0) = true := by simp [h0]
    clear h0
    go_enter Tryz.func87, Tryz.ntmps87
    go_wp2
    go_ret
    exact ⟨aN (by rw [HF.out, if_pos HX.out]), mV⟩
  have h0' : ((ps.length : Int) == 0) = false := by simpa using h0
  by_cases h1 : 64 < ps.length
  · go_enter Tryz.func87, Tryz.ntmps87
    go_wp2
    go_ret
    exact ⟨aN (by rw [HF.out, if_neg h0, if_pos h1]), mV⟩
  by_cases h2 : ns.length = ps.length
  · have DM : ((ns.length : Int) != ps.length) = false := by simp [h2]
    have H2 := aa h2
    clear h2
    have hmk := fun W => run_make_row' (P := Tryz.prog) 163 4 (.bool false) 1 Tryz.underlying163 Tryz.Y0 rfl .i64 .i64 ps.length (by omega) (by omega) W
    go_enter Tryz.func87, Tryz.ntmps87
    go_wp2
    clear hmk mV
    have hstart := Ad.start (w.alloc (.cells #[.slice p ps.length cap, .slice q ns.length eR] 39)) ps.length (fun j => DI ps 0 j) (fun j => rfl)
    rw [aL] at hstart
    have nN : (w.alloc (.cells #[.slice p ps.length cap, .slice q ns.length eR] 39)).cell? ⟨w.heap.size, 0, none⟩ = some (.slice p ps.length cap) := by simp [World.cell?_alloc_new]
    have vt : (w.alloc (.cells #[.slice p ps.length cap, .slice q ns.length eR] 39)).cell? ⟨w.heap.size, 1, none⟩ = some (.slice q ns.length eR) := by simp [World.cell?_alloc_new]
    have hb0 : Below w.heap.size w (w.alloc (.cells #[.slice p ps.length cap, .slice q ns.length eR] 39)) := (cN _ _).alloc (ah _) _
    have hsz : (w.alloc (.cells #[.slice p ps.length cap, .slice q ns.length eR] 39)).heap.size = w.heap.size + 1 := by simp
    generalize hw0 : w.alloc (.cells #[.slice p ps.length cap, .slice q ns.length eR] 39) = w0 at *
    clear hw0
    have HS := aa hsz
    have J7 := aa nN
    have J8 := aa vt
    clear hsz nN vt
    go_loopw [4, 5, 33] (fun _ _ i wr => ∃ k : Nat, k <= ps.length /\ i = .int .i64 k /\ Hid (∀ j, j < k -> kC j (gi ps j) = true) /\ Ad w0 wr (w.heap.size + 1) ps.length (fun j => DI ps k j)) (fun _ _ i _ => ps.length - (intOf i).toNat)
    case atStart => exact ⟨0, aI _, rfl, fun j hj => absurd hj (bS _), hstart⟩
    case round =>
      obtain ⟨k, hk, rfl, hd, hW⟩ := hrel
      clear hstart
      by_cases hlt : k < ps.length
      · obtain ⟨b, off, rfl, hc0⟩ := J6.out k hlt
        have hc : wr.cell? ⟨b, off + k, none⟩ = some (.int .i64 (gi ps k)) := by
          rw [hW.below.cell (p := ⟨b, off + k, none⟩) (by have := dN _ _ hc0; have := HS.out; simp at *; omega)]; exact hc0
        clear hc0
        generalize hpk : gi ps k = x at *
        have HX := aa hpk
        clear hpk
        by_cases hg : 0 < k /\ 0 <= x /\ x < k
        · obtain ⟨g1, g2, g3⟩ := hg
          obtain ⟨y, rfl⟩ := tR g2
          have hi1 := hW.row.cell (i := y) (by omega)
          have hi2 := hW.row.frozen y
          go_wp2
          go_roundw
          case rel => exact ⟨k + 1, by omega, by go_num, fun j hj => if e : j = k then by subst e; rw [HX.out]; unfold kC; rw [if_neg (by omega)]; simp; omega else hd.out j (by omega), hW.set (q := y) fun j => by rw [Fx, HX.out]; simp only [g1, decide_true, Bool.true_and]; congr 1; rw [nv]; simp; omega⟩
          case measure => simp [intOf]; omega
        · by_cases FN : k = 0 /\ x = -1
          · obtain ⟨rfl, rfl⟩ := FN
            have hc' : wr.cell? ⟨b, off, none⟩ = some (.int .i64 (-1)) := by simpa using hc
            go_wp2
            go_roundw
            case rel => exact ⟨1, by omega, by go_num, fun j hj => by obtain rfl : j = 0 := by omega
                                                                      rw [HX.out]; rfl, hW.congr fun j => by rw [Fx]; simp⟩
            case measure => simp [intOf]; omega
          · have oA : kC k x = false := by
              unfold kC; split
              · rename_i e; simp; exact fun e2 => FN ⟨e, e2⟩
              · simp; intro; omega
            rw [<- HX.out] at oA
            have HB := aa (Fy hlt oA)
            clear oA
            go_wp2
            all_goals go_ret
            all_goals exact ⟨aN (by rw [HF.out, if_neg h0, if_neg h1, if_neg (by rw [H2.out]; simp), HB.out]; simp), hb0.trans (hW.below.mono (by omega))⟩
      · obtain rfl : k = ps.length := by omega
        have hok := aa (AK hd.out)
        have sA : wr.cell? ⟨w.heap.size, 1, none⟩ = some (.slice q ns.length eR) := by
          rw [hW.below.cell (p := ⟨w.heap.size, 1, none⟩) (by simp)]; exact J8.out
        clear hlt hk hd J6 hcap
        go_wp2
        go_loop [6, 7, 66] (fun _ _ i => ∃ k : Nat, k <= ps.length /\ i = .int .i64 k /\ Hid (∀ j, j < k -> jC ps ns j = 0)) (fun _ _ i => ps.length - (intOf i).toNat)
        case atStart => exact ⟨0, aI _, rfl, fun j hj => absurd hj (bS _)⟩
        case round =>
          obtain ⟨k, hk, rfl, hd⟩ := hrel
          have hlen : ns.length <= ps.length /\ ps.length <= ns.length := by have := H2.out; omega
          obtain ⟨jg, hl2⟩ := hlen
          by_cases hlt : k < ps.length
          · obtain ⟨b, off, rfl, hc0⟩ := FM.out k (by have := H2.out; omega)
            have hpre : aA Any wr (.slice (some ⟨b, off, none⟩) k eR) k (fun j => .string (gs ns j)) := by
              refine ⟨_, _, rfl, by omega, .inr ⟨b, off, rfl, trivial, fun j hj => ?_⟩⟩
              obtain ⟨b', off', e, xG⟩ := FM.out j (by omega)
              cases e
              rw [hW.below.cell (p := ⟨b, off + j, none⟩) (by have := dN _ _ xG; have := HS.out; simp at *; omega)]; exact xG
            have hc : wr.cell? ⟨b, off + k, none⟩ = some (.string (gs ns k)) := by
              rw [hW.below.cell (p := ⟨b, off + k, none⟩) (by have := dN _ _ hc0; have := HS.out; simp at *; omega)]; exact hc0
            clear hc0
            have hi1 := hW.row.cell (i := k) (by omega)
            have hsk : (List.range k).any (fun j => decide (gs ns k = gs ns j)) = dW ns k := by
              unfold dW; congr 1; funext j; exact decide_eq_decide.2 eq_comm
            have MX := aa hsk
            clear hsk
            have FO := hz k
            have hne : jC ps ns k = if isIn ps k then (if (gs ns k).size = 0 then 0 else 14) else if bu (gs ns k).data.toList then (if dW ns k then 7 else 0) else 14 := rfl
            have hnil := toList_nil (gs ns k)
            have hend : jC ps ns k ≠ 0 -> aB ⟨ps, ns⟩ = jC ps ns k := fun hn0 => by
              rw [HF.out, if_neg h0, if_neg h1, if_neg (by rw [H2.out]; simp), hok.out, if_pos rfl]; exact gA hlt hd.out hn0
            have HE := aa hne
            have ji := aa hend
            have sD := aa hnil
            have MZ := aa hW
            clear hne hend hnil FM hz hW
            have hi2 : DI ps ps.length k = isIn ps k := rfl
            rw [hi2] at hi1
            clear hi2
            generalize hin : isIn ps k = bi at *
            generalize hnm : bu (gs ns k).data.toList = bn at *
            generalize vu : dW ns k = bs at *
            generalize DN : gs ns k = g at *
            have jY := aa hnm
            clear hin hnm vu DN
            cases bi
            · cases bn
              · go_wp2_with (first | (go_at_call 138; refine (vp _ FO _).mono ?_; rintro e w' ⟨rfl, rfl⟩; rw [jY.out]) | (go_at_call 32; refine (iI Any _ _ k (fun j => gs ns j) _ hpre (by omega)).mono ?_; rintro e w' ⟨rfl, rfl⟩; rw [MX.out]))
                go_ret
                exact ⟨aN (by rw [ji.out (by rw [HE.out]; simp), HE.out]; simp), hb0.trans (MZ.out.below.mono (by omega))⟩
              · cases bs
                · go_wp2_with (first | (go_at_call 138; refine (vp _ FO _).mono ?_; rintro e w' ⟨rfl, rfl⟩; rw [jY.out]) | (go_at_call 32; refine (iI Any _ _ k (fun j => gs ns j) _ hpre (by omega)).mono ?_; rintro e w' ⟨rfl, rfl⟩; rw [MX.out]))
                  go_round
                  case rel => exact ⟨k + 1, by omega, by go_num, fun j hj => if e : j = k then by subst e; rw [HE.out]; simp else hd.out j (by omega)⟩
                  case measure => simp [intOf]; omega
                · go_wp2_with (first | (go_at_call 138; refine (vp _ FO _).mono ?_; rintro e w' ⟨rfl, rfl⟩; rw [jY.out]) | (go_at_call 32; refine (iI Any _ _ k (fun j => gs ns j) _ hpre (by omega)).mono ?_; rintro e w' ⟨rfl, rfl⟩; rw [MX.out]))
                  go_ret
                  exact ⟨aN (by rw [ji.out (by rw [HE.out]; simp), HE.out]; simp), hb0.trans (MZ.out.below.mono (by omega))⟩
            · by_cases hg0 : g.size = 0
              · have hg1 : g.toList = [] := sD.out.2 hg0
                have hg2 : (!g.toList.isEmpty) = false := by simp [hg1]
                have vv := aa hg0
                clear hg0
                go_wp2_with (first | (go_at_call 138; refine (vp _ FO _).mono ?_; rintro e w' ⟨rfl, rfl⟩; rw [jY.out]) | (go_at_call 32; refine (iI Any _ _ k (fun j => gs ns j) _ hpre (by omega)).mono ?_; rintro e w' ⟨rfl, rfl⟩; rw [MX.out]))
                go_round
                case rel => exact ⟨k + 1, by omega, by go_num, fun j hj => if e : j = k then by subst e; rw [HE.out]; simp [vv.out] else hd.out j (by omega)⟩
                case measure => simp [intOf]; omega
              · have hg1 : (g.toList == []) = false := by
                  rw [oh]; intro e; exact hg0 (sD.out.1 (by simpa using e))
                have hg2 : g.toList.isEmpty = false := by
                  rw [oh]; intro e; exact hg0 (sD.out.1 (by simpa using e))
                go_wp2_with (first | (go_at_call 138; refine (vp _ FO _).mono ?_; rintro e w' ⟨rfl, rfl⟩; rw [jY.out]) | (go_at_call 32; refine (iI Any _ _ k (fun j => gs ns j) _ hpre (by omega)).mono ?_; rintro e w' ⟨rfl, rfl⟩; rw [MX.out]))
                go_ret
                exact ⟨aN (by rw [ji.out (by rw [HE.out]; simp [hg0]), HE.out]; simp [hg0]), hb0.trans (MZ.out.below.mono (by omega))⟩
          · have hk2 : k = ps.length := by omega
            clear hlt
            go_wp2
            go_ret
            exact ⟨aN (by rw [HF.out, if_neg h0, if_neg h1, if_neg (by rw [H2.out]; simp), hok.out, if_pos rfl, ey fun j hj => hd.out j (by omega)]), hb0.trans (hW.below.mono (by omega))⟩
  · have DM : ((ns.length : Int) != ps.length) = true := by simp; omega
    go_enter Tryz.func87, Tryz.ntmps87
    go_wp2
    go_ret
    exact ⟨aN (by rw [HF.out, if_neg h0, if_neg h1, if_pos h2]), mV⟩
def ax (base:Nat) (e:TypeId) (w:World) (v:Value) (vs:List Value):Prop:=w.ownsRow base e 1 v vs.length vs
theorem ax.nil (base:Nat) (e:TypeId) (w:World):ax base e w (.slice none 0 0) []:=World.ownsRow_nil _ _ _ _
theorem aA.congr {S:Nat->Prop} {w:World} {v:Value} {n:Nat} {f g:Nat->Value} (h:aA S w v n f) (e:∀k,k<n->f k=g k):aA S w v n g:=by
 obtain ⟨p,cap,rfl,hn,h⟩:=h;refine ⟨p,cap,rfl,hn,?_⟩;rcases h with h | ⟨b,off,rfl,hS,h⟩
 ·exact .inl h
 ·exact .inr ⟨b,off,rfl,hS,fun k hk=>by rw [<- e k hk];exact h k hk⟩
theorem ax.yl {base:Nat} {e:TypeId} {w:World} {v:Value} {vs:List Value} (h:ax base e w v vs):aA (fun b=>base<=b) w v vs.length (fun k=>vs.getD k undef):=by
 rcases h.2 with ⟨rfl,h0⟩ | ⟨g,cap,cur,rfl,hg,hc,hn,_,_,ht⟩
 ·exact ⟨none,0,by rw [h0],by omega,.inl h0⟩
 ·refine ⟨_,cap,rfl,hn,.inr ⟨g,0,rfl,hg,fun k hk=>?_⟩⟩
  have:=World.ownsRow.cells h (g:=g) rfl k vs[k] (by simp [hk]);have CT:(⟨g,0,none⟩:Addr).add k=⟨g,0+k,none⟩:=by unfold Addr.add;split<;>simp_all
  rw [CT] at this;rw [this];simp [hk]
theorem ax.ints {base:Nat} {e:TypeId} {w:World} {v:Value} {xs:List Int} (h:ax base e w v (xs.map (Value.int .i64))):ay (fun b=>base<=b) w v xs:=by
 have:=h.yl;rw [aD] at this;exact this.congr fun k hk=>by simp [gi,hk]
theorem ax.strs {base:Nat} {e:TypeId} {w:World} {v:Value} {xs:List ByteArray} (h:ax base e w v (xs.map Value.string)):av (fun b=>base<=b) w v xs:=by
 have:=h.yl;rw [aD] at this;exact this.congr fun k hk=>by simp [gs,hk]
theorem ax.kept {base:Nat} {e:TypeId} {w w':World} {v:Value} {vs:List Value} (h:ax base e w v vs) (k:∀b,base<=b->b<w.heap.size->w'.heap[b]? = w.heap[b]?):ax base e w' v vs:=by
 refine ⟨h.1,?_⟩;rcases h.2 with h0 | ⟨g,cap,cur,rfl,hg,hc,hr⟩
 ·exact .inl h0
 ·have hlt:g<w.heap.size:=by
   rcases Nat.lt_or_ge g w.heap.size with h1 | h1
   ·exact h1
   ·rw [Ld h1] at hc;cases hc
  exact .inr ⟨g,cap,cur,rfl,hg,(k g hg hlt).trans hc,hr⟩
theorem ax.alloc {base:Nat} {e:TypeId} {w:World} {v:Value} {vs:List Value} (h:ax base e w v vs) (o:Obj):ax base e (w.alloc o) v vs:=World.ownsRow.alloc h o
theorem jE {w w':World} {o:Obj} {row:Option Nat} (h:(w.alloc o).grownBy w' row):w.grownBy w' row :=
 ⟨h.os,h.tape,h.output,aR (by simp) h.size,fun k hk hne=>(h.block k (by simp;omega) hne).trans (Below.heap_alloc w o k hk)⟩
theorem ax.dX {base:Nat} {e:TypeId} {w w':World} {v:Value} {vs:List Value} (h:ax base e w v vs) (hg:w.grownBy w' v.ownBlock) (hb:base<=w.heap.size):Below base w w' :=
 (cN base w).grown hg hb fun k hk=>(lT h k hk).1
section
variable {P:Program} {ops:Array Oper} {rest:List Oper} {o:Oper} {a:Act} {Q:Exit->Act->World->Prop}
theorem mW (W:World) (hgd:o.guard=none) (s x:Operand) (t:TypeId) (ho:o.op=.call { callee:=.builtin .append,args:=#[s,x],argTypes:=#[t,t] })
  (base:Nat) (e:TypeId) (z:Value) (bytes:Nat) (ht:P.underlying t=some (.slice e)) (hinfo:(P.info? e).map (fun i=>(i.zero,i.size,i.bytes))=some (some z,1,bytes))
  (hz1:z.cells.size=1) (gL:bytes<=64) {v:Value} {vs:List Value} (hown:ax base e W v vs) (hs:a.eval s=v) (u:Value)
  (hx:a.eval x=.slice (some ⟨W.heap.size,0,none⟩) 1 1) (h1:u.oneCell'=true) (hn:vs.length<=1000000) (hbase:base<=W.heap.size)
  (h:∀g cap w',ax base e w' (.slice (some ⟨g,0,none⟩) (vs.length+1) cap) (vs++[u])->W.grownBy w' v.ownBlock->Below base W w'->wpList P ops Q rest (a.put o.dst (.slice (some ⟨g,0,none⟩) (vs.length+1) cap)) w') :
  wpList P ops Q (o::rest) a (W.alloc (.cells #[u] e)):=by
 obtain ⟨i,hi,hzz⟩:=iq.1 hinfo;simp only [iM] at hzz;obtain ⟨hz,hs1,hb⟩:=hzz;refine wpList_append_lies _ hgd s x t ho base e i z 1 bytes ht hi hz hs1 hb hz1 (by omega) v vs.length vs hs (hown.alloc _) ⟨W.heap.size,0,none⟩ 1 1 [u] hx rfl (cell_one_new _ _ _) (by simpa using h1) (by omega)
  (by unfold maxLen;omega) ?_ (by simp;omega) _ rfl fun g cap w' h2 h3 _ _=>h g cap w' ?_ (jE h3) (hown.dX (jE h3) hbase)
 ·have:(vs.length+1)*bytes<=(vs.length+1)*64:=mS _ gL
  omega
 ·unfold ax;rw [bg];exact h2
end
theorem Tryz.mA:(Tryz.prog.info? 3).map (fun i=>(i.zero,i.size,i.bytes))=some (some (.int .i64 0),1,8):=by kernel_rfl
def U5 (w:World) (t:aF) (e:Ending) (w':World):Prop :=
 Below w.heap.size w w'/\((aB t≠0/\e=.returned (.tuple #[.slice none 0 0,.int .i64 1])) \/
  (aB t=0/\∃v,e=.returned (.tuple #[v,.int .i64 0])/\ay (fun b=>w.heap.size<=b) w' v (az t.ns)))
theorem AP (S:Nat->Prop) (w:World) (v:Value) (t:aF) (h:aC S w v t) (hp:t.ps.length<=1000000) (hn:t.ns.length<=1000000) (hz:∀k,(gs t.ns k).size<=70000) :
  Calls Tryz.prog 30 #[v] w (U5 w t):=by
 obtain ⟨P,N,rfl,hP,hN⟩:=h;have ZA:aC S (w.alloc (.cells #[P,N] 39)) (.agg #[P,N]) t:=aC.keep ⟨P,N,rfl,hP,hN⟩ (Kept.below ((cN _ w).alloc (ah _) _));have hb0:Below w.heap.size w (w.alloc (.cells #[P,N] 39)):=(cN _ _).alloc (ah _) _;have vt:(w.alloc (.cells #[P,N] 39)).cell? ⟨w.heap.size,1,none⟩=some N:=by simp [World.cell?_alloc_new]
 have yc:=vq S (w.alloc (.cells #[P,N] 39)) _ t ZA hp hn hz;rw [aL] at yc;have ir:=aa yc;have J8:=aa vt;have jK:=aa hb0;have HN:=aa hN;clear yc vt hb0 ZA hP hN;by_cases he:aB t=0
 ·go_enter Tryz.func30,Tryz.ntmps30
  go_wp2_with fail;refine ir.out.mono ?_;rintro e w1 ⟨rfl,hb1⟩;have lD:Below w.heap.size w w1:=jK.out.trans (hb1.mono (by omega));have J9:=HN.out.keep (Kept.below lD);have vt:w1.cell? ⟨w.heap.size,1,none⟩=some N:=(hb1.cell (p:=⟨w.heap.size,1,none⟩) (by simp)).trans J8.out;obtain ⟨q,eR,rfl,BO,ZB⟩:=aA.open J9;have U6:=aa ZB;have ZC:w.heap.size<=w1.heap.size:=lD.size;have HE:=aa he;rw [he];clear ZB J9 ir J8 jK HN hb1 he;go_wp2_with fail
  go_loopw [4,5,6,13] (fun v _ _ i wr=>∃k:Nat,k<=t.ns.length/\i=.int .i64 k/\ax w1.heap.size 3 wr v ((pH t.ns k).map (Value.int .i64))/\Below w1.heap.size w1 wr) (fun _ _ _ i _=>t.ns.length - (intOf i).toNat)
  case atStart=>exact ⟨0,aI _,rfl,ax.nil _ _ _,cN _ _⟩
  case round =>
   obtain ⟨k,hk,rfl,hown,hbr⟩:=hrel;by_cases hlt:k<t.ns.length
   ·obtain ⟨b,off,rfl,hc0⟩:=U6.out k hlt
    (have hc:wr.cell? ⟨b,off+k,none⟩=some (.string (gs t.ns k)):=by rw [hbr.cell (p:=⟨b,off+k,none⟩) (dN _ _ hc0)];exact hc0);have hsz:=hbr.size;have lF:=Fz t.ns k;have qE:=Js t.ns k;have hnil:=toList_nil (gs t.ns k);have sD:=aa hnil;have sF:=aa lF;(have fN:Hid (((pH t.ns k).map (Value.int .i64)).length<=1000000):=by unfold Hid;rw [aD];omega);clear hc0 hnil lF qE U6 hz;generalize DN:gs t.ns k=g at *;clear DN;by_cases hg0:g.size=0
    ·have hg1:g.toList=[]:=sD.out.2 hg0
     have vv:=aa hg0;clear hg0;go_wp2
     go_roundw
     case rel=>exact ⟨k+1,by omega,by go_num,by rw [sF.out,if_pos vv.out,fM];exact hown,hbr⟩
     case measure=>simp [intOf];omega
    ·have hg1:(g.toList==[])=false:=by
      rw [oh];intro e;exact hg0 (sD.out.1 (by simpa using e))
     have hg2:(g.toList != [])=true:=by
      rw [bne_iff_ne];intro e;exact hg0 (sD.out.1 (by simpa using e))
     have vv:=aa hg0
     clear hg0
     go_wp2_with (at_builtin;refine mW wr rfl _ _ 26 rfl w1.heap.size 3 _ 8 Tryz.underlying26 Tryz.mA rfl (by decide) hown rfl _ rfl rfl fN.out hsz ?_;intro g cap w2 hown1 hg1 hb1)
     go_roundw
     case rel=>exact ⟨k+1,by omega,by go_num,by rw [sF.out,if_neg vv.out,cm];rw [aD] at hown1;exact hown1,hbr.trans hb1⟩
     case measure=>simp [intOf];omega
   ·obtain rfl:k=t.ns.length:=by omega
    clear hlt hk U6;go_wp2;go_ret2;exact ⟨lD.trans (hbr.mono ZC),.inr ⟨HE.out,_,rfl,hown.ints.sub fun b hb _=>aR ZC hb⟩⟩
 ·have he':(aB t != 0)=true:=by simpa using he
  have HE:=aa he;clear he
  go_enter Tryz.func30,Tryz.ntmps30
  go_wp2_with fail;refine ir.out.mono ?_;rintro e w1 ⟨rfl,hb1⟩;go_wp2_with fail;go_ret2;exact ⟨jK.out.trans (hb1.mono (by omega)),.inl ⟨HE.out,rfl⟩⟩
def StI (e:Ending) (w':World) (w:World) (n:Int):Prop:=e=.returned (.int .i64 n)/\Below w.heap.size w w'
theorem P5 (w:World) (b1 b2:Nat) (x lo hi:Int) (h1:w.cell? ⟨b1,0,none⟩=some (.int .i64 lo)) (h2:w.cell? ⟨b2,0,none⟩=some (.int .i64 hi)) :
  AO 229 #[.pointer (some ⟨b1,0,none⟩),.pointer (some ⟨b2,0,none⟩)] #[.int .i64 x] (.bool (decide (x<lo) || decide (hi<=x))) w:=by
 unfold AO
 go_enter Tryz.func229,Tryz.ntmps229
 by_cases hx:x<lo
 ·go_wp2_with fail
  go_ret;exact ⟨bA (by simp [hx]),rfl⟩
 ·go_wp2_with fail
  go_ret;exact ⟨bA (by simp;omega),rfl⟩
theorem TP (S:Nat->Prop) (w:World) (v:Value) (st:List Int) (n:Nat) (lo hi:Int) (h:ay S w v st) (hn:st.length<=1000000) :
  Calls Tryz.prog 168 #[v,.int .i64 n,.int .i64 lo,.int .i64 hi] w fun e w'=>StI e w' w (nE st n lo hi):=by
 have dR:nE st n lo hi=if st.length≠n then 9 else if je st lo hi then 2 else 0:=rfl
 have HF:=aa dR;have hb:Below w.heap.size w ((w.alloc (.cells #[.int .i64 lo] 3)).alloc (.cells #[.int .i64 hi] 3)):=((cN _ _).alloc (ah _) _).alloc (by simp) _;have hI:=aA.keep h (Kept.below hb);obtain ⟨p,cap,rfl,hcap,H⟩:=aA.open h;have hc1:((w.alloc (.cells #[.int .i64 lo] 3)).alloc (.cells #[.int .i64 hi] 3)).cell? ⟨w.heap.size,0,none⟩=some (.int .i64 lo):=by simp
 have hc2:((w.alloc (.cells #[.int .i64 lo] 3)).alloc (.cells #[.int .i64 hi] 3)).cell? ⟨w.heap.size+1,0,none⟩=some (.int .i64 hi):=by simp
 have hC:=BN 229 #[.pointer (some ⟨w.heap.size,0,none⟩),.pointer (some ⟨w.heap.size+1,0,none⟩)] (enters_of Tryz.func229 (by kernel_rfl) rfl) S _ _ st.length (fun k=>.int .i64 (gi st k)) (fun k=>decide (gi st k<lo) || decide (hi<=gi st k)) hI hn
  (fun k _=>P5 _ _ _ (gi st k) lo hi hc1 hc2)
 have HC:=aa hC;have HB:=aa hb;clear dR hI H hc1 hc2 hC hb h;by_cases hl:st.length=n
 ·have jg:((st.length:Int) != n)=false:=by simp [hl]
  have HL:=aa hl;clear hl;have o8:je st lo hi=(List.range st.length).any fun k=>decide (gi st k<lo) || decide (hi<=gi st k):=rfl;have ct:=aa o8;clear o8
  go_enter Tryz.func168,Tryz.ntmps168
  go_wp2_with fail;refine HC.out.mono ?_;rintro e w' ⟨rfl,rfl⟩;rw [<- ct.out];go_wp2_with fail
  ·go_ret
   exact ⟨aN (by rw [HF.out,if_neg (by rw [HL.out];simp),if_pos ‹_›]),HB.out⟩
  ·go_ret
   exact ⟨aN (by rw [HF.out,if_neg (by rw [HL.out];simp),if_neg (by rw [‹je st lo hi=false›];simp)]),HB.out⟩
 ·have jg:((st.length:Int) != n)=true:=by simp;omega
  go_enter Tryz.func168,Tryz.ntmps168
  go_wp2_with fail;go_ret;exact ⟨aN (by rw [HF.out,if_pos hl]),HB.out⟩
end
end Go.Proofs.YthgabkgmkolobaaGreat
