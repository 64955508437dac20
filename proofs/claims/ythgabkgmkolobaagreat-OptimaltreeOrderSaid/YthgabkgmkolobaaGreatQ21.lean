/- Names, as layer 1's and layer 31's references have them: Check, IsWord, IsName, named. .. -/
import Derived.Laws.Bits64b
import Derived.Laws.BitsAllLaws
import Derived.Test.YthgabkgmkolobaaGreatQ20
set_option maxRecDepth 100000
set_option maxHeartbeats 2000000
namespace Go.Proofs.YthgabkgmkolobaaGreat
section
open Go.RowKit Go.Deep
def Uc (w:World) (s:ByteArray) (e:Ending) (w':World):Prop:=Below w.heap.size w w'/\∃r,e=.returned (.int .i64 r)/\(s.data.toList.all rz=true->r=0)
theorem GL {s:ByteArray} (h:s.data.toList.all rz=true) {k:Nat} (hk:k<s.size):rz s[k]=true :=
 tT.1 h _ (by rw [Array.mem_toList_iff];exact Array.getElem_mem _)
theorem Zj (s:ByteArray) (hs:s.size<=1000) (w:World):Calls Tryz.prog 248 #[.string s] w (Uc w s):=by
 go_enter Tryz.func248,Tryz.ntmps248
 go_wp2_with fail
 refine (TV s hs _).mono ?_
 rintro e w1 ⟨hb,v,bs,rfl,hbl,iO⟩
 obtain ⟨p,cap,rfl,hcap,H⟩:=iO.open
 have HH:=aa H
 clear H iO hbl
 go_wp2_with fail
 go_loop [4,5] (fun i _=>∃k:Nat,k<=s.size/\i=.int .i64 k) (fun i _=>s.size - (intOf i).toNat)
 case atStart=>exact ⟨0,aI _,rfl⟩
 case round =>
  obtain ⟨k,hk,rfl⟩:=hrel
  by_cases hlt:k<s.size
  ·obtain ⟨b,off,rfl,hc⟩:=HH.out k hlt
   have hka:s.data.toList.all rz=true->dH s[k].toNat=1\/dH s[k].toNat=3:=fun h=>(sw s[k]).2 (GL h hlt)
   have Wq:=aa hka
   clear HH hka
   go_wp2_with (go_at_call 249;refine (r4 _ (UInt8.toNat_lt _) _).mono ?_;rintro e w' ⟨rfl,rfl⟩;generalize dH _=q at *)
   all_goals first | (go_round;(case rel=>exact ⟨k+1,by omega,by go_num⟩);(case measure=>simp [intOf];omega)) | (go_ret;exact ⟨hb,_,rfl,fun h=>by have:=Wq.out h;simp at *;omega⟩)
  ·clear HH
   go_wp2_with fail
   go_ret
   exact ⟨hb,_,rfl,fun _=>rfl⟩
def Ws (w:World) (s:ByteArray) (e:Ending) (w':World):Prop:=Below w.heap.size w w'/\∃b,e=.returned (.bool b)/\(s.data.toList.all rz=true->1<=s.size->b=true)/\(s.size=0->b=false)
theorem Ob (s:ByteArray) (hs:s.size<=16) (w:World):Calls Tryz.prog 199 #[.string s] w (Ws w s):=by
 by_cases h0:s.size<1
 ·go_enter Tryz.func199,Tryz.ntmps199
  go_wp2_with fail;go_ret;exact ⟨cN _ _,_,rfl,fun _ h=>by omega,fun _=>rfl⟩
 ·have h0':((0:Nat)<s.size):=by omega
  have hka:s.data.toList.all rz=true->dH s[0].toNat=1\/dH s[0].toNat=3:=fun h=>(sw s[0]).2 (GL h h0');have Wq:=aa hka;clear hka
  go_enter Tryz.func199,Tryz.ntmps199
  go_wp2_with fail;refine (Zj s (by omega) _).mono ?_;rintro e w1 ⟨hb,r,rfl,hr⟩;have HR:=aa hr;clear hr;go_wp2_with (go_at_call 249;refine (r4 _ (UInt8.toNat_lt _) _).mono ?_;rintro e w' ⟨rfl,rfl⟩;generalize dH _=q at *)
  all_goals first
   | (go_ret;exact ⟨hb,_,rfl,fun h _=>(by exfalso;have h1:=Wq.out h;have h2:=HR.out h;subst h2;simp at *;omega),fun _=>rfl⟩)
   | skip
  all_goals
   clear HR
   go_loop [4] (fun i=>∃k:Nat,k<=s.size/\i=.int .i64 k) (fun i=>s.size - (intOf i).toNat)
   case atStart=>exact ⟨0,aI _,rfl⟩
   case round =>
    obtain ⟨k,hk,rfl⟩:=hrel;by_cases hlt:k<s.size
    ·have hka:s.data.toList.all rz=true->dH s[k].toNat=1\/dH s[k].toNat=3:=fun h=>(sw s[k]).2 (GL h hlt)
     have HKB:=aa hka;clear hka;go_wp2_with (go_at_call 249;refine (r4 _ (UInt8.toNat_lt _) _).mono ?_;rintro e w' ⟨rfl,rfl⟩;generalize dH s[k].toNat=y at *)
     all_goals first | (go_round;(case rel=>exact ⟨k+1,by omega,by go_num⟩);(case measure=>simp [intOf];omega)) | (go_ret;exact ⟨hb,_,rfl,fun h _=>(by exfalso;have h1:=HKB.out h;omega),fun _=>rfl⟩)
    ·go_wp2_with fail
     go_ret;exact ⟨hb,_,rfl,fun _ _=>rfl,fun h=>by omega⟩
theorem l7 (s:ByteArray) (hs:s.size<=70000) (w:World):Calls Tryz.prog 141 #[.string s] w fun e w'=>e=.returned (.bool (eG s.data.toList))/\Below w.heap.size w w':=by
 have hl:=size_data s;have hA:=FH s.data.toList;have dR:eG s.data.toList=decide (1<=s.size/\s.size<=16/\kJ s.data.toList=s.size):=by unfold eG;rw [hl] at hA ⊢;rw [nv];simp only [fe,decide_eq_true_eq];rw [<- hA,and_assoc]
 rw [hl] at hA;have HF:=aa dR;have HA:=aa hA;clear dR hl hA;by_cases S1:s.size<=16
 ·go_enter Tryz.func141,Tryz.ntmps141
  go_wp2_with fail;refine (Ob s S1 _).mono ?_;rintro e w1 ⟨hb,b,rfl,h1,h2⟩;have H1:=aa h1;have H2:=aa h2;clear h1 h2;cases b
  ·go_wp2_with fail
   go_ret;refine ⟨bA ?_,hb⟩;rw [HF.out,eq_comm,decide_eq_false_iff_not];rintro ⟨a1,a2,a3⟩;have:=H1.out (HA.out.1 a3) a1;cases this
  ·go_wp2_with (go_at_call 200;refine (LA s hs _).mono ?_;rintro e w' ⟨rfl,rfl⟩)
   go_ret;refine ⟨bA ?_,hb⟩;(have h0:s.size≠0:=fun e=>by have:=H2.out e;cases this);rw [HF.out,nv];simp;omega
 ·go_enter Tryz.func141,Tryz.ntmps141
  go_wp2_with fail;go_ret;refine ⟨bA ?_,cN _ _⟩;rw [HF.out,eq_comm,decide_eq_false_iff_not];omega
theorem Ba (s:ByteArray) (h:s.size - 1<s.size):s.data.toList.getLast? = some s[s.size - 1]:=by
 have hl:=size_data s;rw [List.getLast?_eq_getElem?,hl,gP (by rw [hl];exact h)];rfl
theorem Ck (s:ByteArray) (h:s.size - 1<s.size) (S1:s.size<=16) (Aq:((s[s.size - 1].toNat:Int)==42)=true):bu s.data.toList=eG (s.extract 0 (s.size - 1)).data.toList:=by
 have hl:=size_data s;have h2:s[s.size - 1]=42:=by
  have h3:(s[s.size - 1].toNat:Int)=42:=by simpa using Aq
  have h4:s[s.size - 1].toNat=42:=by omega
  exact UInt8.toNat_inj.1 h4
 unfold bu;rw [Ba s h,h2,if_pos rfl,FK,hl];simp [S1]
theorem Ar (s:ByteArray) (h:s.size - 1<s.size) (Aq:((s[s.size - 1].toNat:Int)==42)=false):bu s.data.toList=eG s.data.toList:=by
 unfold bu;rw [Ba s h,if_neg];intro e;injection e with e;rw [e] at Aq;simp at Aq
theorem Oc (s:ByteArray) (h:16<s.size):bu s.data.toList=eG s.data.toList:=by
 have hl:=size_data s;unfold bu;split
 ·rename_i Aq
  rw [yj s.data.toList Aq,hl,decide_eq_false (by omega),Bool.and_false]
 ·rfl
theorem Ey (s:ByteArray) (h:s.size<=1):bu s.data.toList=eG s.data.toList:=by
 have hl:=size_data s;unfold bu;split
 ·rename_i Aq
  rw [yj s.data.toList Aq];have:s.data.toList.dropLast=[]:=by rw [<- List.length_eq_zero_iff,List.length_dropLast];omega
  rw [this];rfl
 ·rfl
theorem Q5 (s:ByteArray) (hs:s.size<=70000) (w:World):Calls Tryz.prog 97 #[.string s] w fun e w'=>e=.returned (.bool (bu s.data.toList))/\Below w.heap.size w w':=by
 go_enter Tryz.func97,Tryz.ntmps97
 go_wp2_with fail
 ·have hf:=aa (Ck s (by omega) (by omega) ‹_›)
  refine (l7 _ (by simp;omega) _).mono ?_
  rintro e w1 ⟨rfl,hb⟩
  rw [<- hf.out]
  go_wp2_with fail
  go_ret
  exact ⟨rfl,hb⟩
 ·have hf:=aa (Ar s (by omega) ‹_›)
  refine (l7 _ hs _).mono ?_
  rintro e w1 ⟨rfl,hb⟩
  rw [<- hf.out]
  go_wp2_with fail
  go_ret
  exact ⟨rfl,hb⟩
 ·have hf:=aa (Oc s (by omega))
  refine (l7 _ hs _).mono ?_
  rintro e w1 ⟨rfl,hb⟩
  rw [<- hf.out]
  go_wp2_with fail
  go_ret
  exact ⟨rfl,hb⟩
 ·have hf:=aa (Ey s (by omega))
  refine (l7 _ hs _).mono ?_
  rintro e w1 ⟨rfl,hb⟩
  rw [<- hf.out]
  go_wp2_with fail
  go_ret
  exact ⟨rfl,hb⟩
theorem wY (S : Nat -> Prop) (w : World) (v : Value) (t : aF) (h : aC S w v t) (hp : t.ps.length <= 1000000) (hn : t.ns.length <= 1000000) (hz : ∀ k, (gs t.ns k).size <= 70000) :
    Calls Tryz.prog 33 #[v] w fun e w' => e = .returned (.int .i64 (aB t)) /\ Below w.heap.size w w' := by
  obtain ⟨P, N, rfl, hP, hN⟩ := h
  obtain ⟨ps, ns⟩ := t
  simp only at *
  have dR : aB ⟨ps, ns⟩ = if ps.length = 0 then 5 else if 64 < ps.length then 4 else if ns.length ≠ ps.length then 9 else if jW ps then dF (jC ps ns) ps.length else 2 := rfl
  have HF := aa dR
  clear dR
  have mV : Below w.heap.size w (w.alloc (.cells #[P, N] 39)) := (cN _ _).alloc (ah _) _
  have hT0 : aC S (w.alloc (.cells #[P, N] 39)) (.agg #[P, N]) ⟨ps, ns⟩ := aC.keep ⟨P, N, rfl, hP, hN⟩ (Kept.below mV)
  have MV := hP.keep (Kept.below mV)
  have MW := hN.keep (Kept.below mV)
  clear hP hN
  obtain ⟨p, cap, rfl, hcap, HP⟩ := aA.open MV
  obtain ⟨q, eR, rfl, BO, HN⟩ := aA.open MW
  have J6 := aa HP
  have FM := aa HN
  have GG := aa hT0
  have fF := aa mV
  clear MV MW HP HN hT0 mV
  by_cases h0 : ps.length = 0
  · have HX : Hid (ps.length = 0) := h0
    have h0' : ((ps.length : Int) == 0) = true := by simp [h0]
    clear h0
    go_enter Tryz.func33, Tryz.ntmps33
    go_wp2_with fail
    go_ret
    exact ⟨aN (by rw [HF.out, if_pos HX.out]), fF.out⟩
  have h0' : ((ps.length : Int) == 0) = false := by simpa using h0
  by_cases h1 : 64 < ps.length
  · go_enter Tryz.func33, Tryz.ntmps33
    go_wp2_with fail
    go_ret
    exact ⟨aN (by rw [HF.out, if_neg h0, if_pos h1]), fF.out⟩
  by_cases h2 : ns.length = ps.length
  · have DM : ((ns.length : Int) != ps.length) = false := by simp [h2]
    have H2 := aa h2
    clear h2
    have nN : (w.alloc (.cells #[.slice p ps.length cap, .slice q ns.length eR] 39)).cell? ⟨w.heap.size, 0, none⟩ = some (.slice p ps.length cap) := by simp [World.cell?_alloc_new]
    have vt : (w.alloc (.cells #[.slice p ps.length cap, .slice q ns.length eR] 39)).cell? ⟨w.heap.size, 1, none⟩ = some (.slice q ns.length eR) := by simp [World.cell?_alloc_new]
    have hct : (w.alloc (.cells #[.slice p ps.length cap, .slice q ns.length eR] 39)).rowIs w.heap.size 39 2 (fun i => if i = 0 then .slice p ps.length cap else .slice q ns.length eR) :=
      World.rowIs_alloc w _ _ _ (fun i hi => by match i, hi with | 0, _ => rfl | 1, _ => rfl)
    have hsz : (w.alloc (.cells #[.slice p ps.length cap, .slice q ns.length eR] 39)).heap.size = w.heap.size + 1 := by simp
    have HS := aa hsz
    have J7 := aa nN
    have J8 := aa vt
    have Ku := aa hct
    clear hsz vt hct
    go_enter Tryz.func33, Tryz.ntmps33
    go_wp2_with fail
    generalize hw0 : w.alloc (.cells #[.slice p ps.length cap, .slice q ns.length eR] 39) = w0 at *
    clear hw0
    go_loop [3] (fun i => ∃ k : Nat, k <= ps.length /\ i = .int .i64 k /\ Hid (∀ j, j < k -> kC j (gi ps j) = true)) (fun i => ps.length - (intOf i).toNat)
    case atStart => exact ⟨0, aI _, rfl, fun j hj => absurd hj (bS _)⟩
    case round =>
      obtain ⟨k, hk, rfl, hd⟩ := hrel
      by_cases hlt : k < ps.length
      · obtain ⟨b, off, rfl, hc⟩ := J6.out k hlt
        clear J6 FM GG
        generalize hpk : gi ps k = x at *
        have HX := aa hpk
        clear hpk
        by_cases hg : 0 < k /\ 0 <= x /\ x < k
        · obtain ⟨g1, g2, g3⟩ := hg
          go_wp2_with fail
          go_round
          case rel => exact ⟨k + 1, by omega, by go_num, fun j hj => if e : j = k then by subst e; rw [HX.out]; unfold kC; rw [if_neg (by omega)]; simp; omega else hd.out j (by omega)⟩
          case measure => simp [intOf]; omega
        · by_cases FN : k = 0 /\ x = -1
          · obtain ⟨rfl, rfl⟩ := FN
            have hc' : w0.cell? ⟨b, off, none⟩ = some (.int .i64 (-1)) := by simpa using hc
            go_wp2_with fail
            go_round
            case rel => exact ⟨1, by omega, by go_num, fun j hj => by obtain rfl : j = 0 := by omega
                                                                      rw [HX.out]; rfl⟩
            case measure => simp [intOf]; omega
          · have oA : kC k x = false := by
              unfold kC; split
              · rename_i e; simp; exact fun e2 => FN ⟨e, e2⟩
              · simp; intro; omega
            rw [<- HX.out] at oA
            have HB := aa (Fy hlt oA)
            clear oA
            have hc' : k = 0 -> w0.cell? ⟨b, off, none⟩ = some (.int .i64 x) := fun e => by subst e; simpa using hc
            rcases zG k with rfl | ud
            · have hc2 := hc' rfl
              clear hc' hc
              go_wp2_with fail
              all_goals go_ret
              all_goals exact ⟨aN (by rw [HF.out, if_neg h0, if_neg h1, if_neg (by rw [H2.out]; simp), HB.out]; simp), fF.out⟩
            · clear hc'
              go_wp2_with fail
              all_goals go_ret
              all_goals exact ⟨aN (by rw [HF.out, if_neg h0, if_neg h1, if_neg (by rw [H2.out]; simp), HB.out]; simp), fF.out⟩
      · obtain rfl : k = ps.length := by omega
        have Wt := AK hd.out
        have hok := aa Wt
        clear hlt hk hd J6 hcap Wt
        go_wp2_with fail
        go_loopw [4, 5] (fun i _ wr => ∃ k : Nat, k <= ps.length /\ i = .int .i64 k /\ Hid (∀ j, j < k -> jC ps ns j = 0) /\ Below w0.heap.size w0 wr) (fun i _ _ => ps.length - (intOf i).toNat)
        case atStart => exact ⟨0, aI _, rfl, fun j hj => absurd hj (bS _), cN _ _⟩
        case round =>
          obtain ⟨k, hk, rfl, hd, hbr⟩ := hrel
          clear nN
          have nN : wr.cell? ⟨w.heap.size, 0, none⟩ = some (.slice p ps.length cap) := (hbr.cell (p := ⟨w.heap.size, 0, none⟩) (by have := HS.out; simp; omega)).trans J7.out
          have vt : wr.cell? ⟨w.heap.size, 1, none⟩ = some (.slice q ns.length eR) := (hbr.cell (p := ⟨w.heap.size, 1, none⟩) (by have := HS.out; simp; omega)).trans J8.out
          by_cases hlt : k < ps.length
          · have hlen : ns.length <= ps.length /\ ps.length <= ns.length := by have := H2.out; omega
            obtain ⟨jg, hl2⟩ := hlen
            have hT := GG.out.keep (Kept.below hbr)
            have Wu := Kq S wr _ ⟨ps, ns⟩ k hT hp hlt
            have pE := aa Wu
            have hne : jC ps ns k = if isIn ps k then (if (gs ns k).size = 0 then 0 else 14) else if bu (gs ns k).data.toList then (if dW ns k then 7 else 0) else 14 := rfl
            have hki := lV hok.out k
            have hend : jC ps ns k ≠ 0 -> aB ⟨ps, ns⟩ = jC ps ns k := fun hn0 => by
              rw [HF.out, if_neg h0, if_neg h1, if_neg (by rw [H2.out]; simp), hok.out, if_pos rfl]; exact gA hlt hd.out hn0
            have HE := aa hne
            have ji := aa hend
            have HKI := aa hki
            clear hT Wu hne hend hki
            go_wp2_with fail
            refine pE.out.mono ?_
            rintro e w2 ⟨hb2, v2, rfl, hv2⟩
            obtain ⟨p2, c2, rfl, _, _⟩ := aA.open hv2
            clear hv2
            have Wv : w2.cell? ⟨w.heap.size, 0, none⟩ = some (.slice p ps.length cap) := (hb2.cell (p := ⟨w.heap.size, 0, none⟩) (dN _ _ nN)).trans nN
            have Q6 : w2.cell? ⟨w.heap.size, 1, none⟩ = some (.slice q ns.length eR) := (hb2.cell (p := ⟨w.heap.size, 1, none⟩) (dN _ _ vt)).trans vt
            have GM : Below w0.heap.size w0 w2 := hbr.trans (hb2.mono hbr.size)
            clear nN vt pE hb2
            have FO := hz k
            have hnil := toList_nil (gs ns k)
            have sD := aa hnil
            have De := aa GM
            obtain ⟨b, off, rfl, hc0⟩ := FM.out k (by omega)
            have hc2 : w2.cell? ⟨b, off + k, none⟩ = some (.string (gs ns k)) := (GM.cell (p := ⟨b, off + k, none⟩) (dN _ _ hc0)).trans hc0
            clear hc0 GM hnil hz
            cases hin : isIn ps k
            · have ud : (eX (b7 ps k)).length = 0 := by
                rcases h : b7 ps k with _ | ⟨a, l⟩
                · rfl
                · have h2 := HKI.out.1 (by rw [h]; simp); rw [hin] at h2; cases h2
              rw [ud]
              have vO := aa hin
              clear ud hin
              have hnm := Q5 (gs ns k) FO w2
              have jY := aa hnm
              clear hnm
              cases hnb : bu (gs ns k).data.toList
              · have nV := aa hnb
                rw [hnb] at jY
                clear hnb
                go_wp2_with fail
                refine jY.out.mono ?_
                rintro e w3 ⟨rfl, hb3⟩
                go_wp2_with fail
                go_ret
                exact ⟨aN (by rw [ji.out (by rw [HE.out, vO.out, nV.out]; simp), HE.out, vO.out, nV.out]; simp), fF.out.trans ((De.out.mono (by have := HS.out; omega)).trans (hb3.mono (by have := HS.out; have := De.out.size; omega)))⟩
              · have nV := aa hnb
                rw [hnb] at jY
                clear hnb
                go_wp2_with fail
                refine jY.out.mono ?_
                rintro e w3 ⟨rfl, hb3⟩
                have Ww : Below w0.heap.size w0 w3 := De.out.trans (hb3.mono De.out.size)
                have ach : w3.cell? ⟨w.heap.size, 1, none⟩ = some (.slice (some ⟨b, off, none⟩) ns.length eR) := (hb3.cell (p := ⟨w.heap.size, 1, none⟩) (dN _ _ Q6)).trans Q6
                have hc3 : w3.cell? ⟨b, off + k, none⟩ = some (.string (gs ns k)) := (hb3.cell (p := ⟨b, off + k, none⟩) (dN _ _ hc2)).trans hc2
                have Q7 := aa Ww
                clear Wv Q6 hc2 hb3 Ww
                go_wp2_with fail
                go_loopw [5] (fun i wq => ∃ j a : Nat, j <= k /\ i = .int .i64 j /\ Hid (∀ m, m < j -> decide (gs ns m = gs ns k) = false) /\ wq = w3.drewN a) (fun i _ => k - (intOf i).toNat)
                case atStart => exact ⟨0, 0, aI _, rfl, fun j hj => absurd hj (bS _), rfl⟩
                case round =>
                  obtain ⟨j, a, hj, rfl, hd2, rfl⟩ := hrel
                  by_cases hjk : j < k
                  · obtain ⟨b', off', eb, xG⟩ := FM.out j (by omega)
                    cases eb
                    have hc4 : w3.cell? ⟨b, off + j, none⟩ = some (.string (gs ns j)) := (Q7.out.cell (p := ⟨b, off + j, none⟩) (dN _ _ xG)).trans xG
                    clear xG
                    have i1 : (0 : Int) <= (j : Int) := by omega
                    have i2 : (j : Int) < (ns.length : Int) := by omega
                    have i3 : (0 : Int) <= (k : Int) := by omega
                    have i4 : (k : Int) < (ns.length : Int) := by omega
                    have aci := aa (toList_data (gs ns j))
                    go_wp2_with fail
                    go_quiet (fail)
                    go_wp2_with fail
                    · have hs : dW ns k = true := eF.2 ⟨j, cU.2 hjk, by simpa using CS ‹_›⟩
                      go_ret
                      exact ⟨aN (by rw [ji.out (by rw [HE.out, vO.out, nV.out, hs]; simp), HE.out, vO.out, nV.out, hs]; simp), fF.out.trans (Below.mono (B := w0.heap.size) (below_drewN (below_drewN Q7.out _) _) (by have := HS.out; omega))⟩
                    · have hs := FL ‹((gs ns j).toList == (gs ns k).toList) = false›
                      go_roundw
                      case rel => exact ⟨j + 1, _, by omega, by go_num, fun m hm => if e : m = j then by subst e; simpa using hs else hd2.out m (by omega), rfl⟩
                      case measure => simp [intOf]; omega
                  · have hs : dW ns k = false := by
                      rw [oh]; intro e
                      obtain ⟨m, hm, h2⟩ := eF.1 e
                      have h3 := hd2.out m (by have := cU.1 hm; omega)
                      rw [h3] at h2; cases h2
                    have B2 := aa hs
                    clear hs
                    go_wp2_with fail
                    go_roundw
                    case rel => exact ⟨k + 1, by omega, by go_num, fun m hm => if e : m = k then by subst e; rw [HE.out, vO.out, nV.out, B2.out]; simp else hd.out m (by omega), below_drewN Q7.out _⟩
                    case measure => simp [intOf]; omega
            · have ud : 0 < (eX (b7 ps k)).length := by
                have h2 := HKI.out.2 hin
                unfold eX; rw [aD]; exact wG.2 h2
              generalize (eX (b7 ps k)).length = m at *
              have vO := aa hin
              clear hin
              by_cases hg0 : (gs ns k).size = 0
              · have hg1 : (gs ns k).toList = [] := sD.out.2 hg0
                have vv := aa hg0
                clear hg0
                go_wp2_with fail
                go_roundw
                case rel => exact ⟨k + 1, by omega, by go_num, fun j hj => if e : j = k then by subst e; rw [HE.out, vO.out, vv.out]; simp else hd.out j (by omega), De.out⟩
                case measure => simp [intOf]; omega
              · have hg1 : ((gs ns k).toList == []) = false := by
                  rw [oh]; intro e; exact hg0 (sD.out.1 (by simpa using e))
                have hg2 : ((gs ns k).toList != []) = true := by
                  rw [bne_iff_ne]; intro e; exact hg0 (sD.out.1 (by simpa using e))
                have vv := aa hg0
                clear hg0
                go_wp2_with fail
                go_ret
                exact ⟨aN (by rw [ji.out (by rw [HE.out, vO.out, if_pos rfl, if_neg vv.out]; simp), HE.out, vO.out, if_pos rfl, if_neg vv.out]), fF.out.trans (De.out.mono (by have := HS.out; omega))⟩
          · have hk2 : k = ps.length := by omega
            clear hlt
            go_wp2_with fail
            go_ret
            exact ⟨aN (by rw [HF.out, if_neg h0, if_neg h1, if_neg (by rw [H2.out]; simp), hok.out, if_pos rfl, ey fun j hj => hd.out j (by omega)]), fF.out.trans (hbr.mono (by have := HS.out; omega))⟩
  · have DM : ((ns.length : Int) != ps.length) = true := by simp; omega
    go_enter Tryz.func33, Tryz.ntmps33
    go_wp2_with fail
    go_ret
    exact ⟨aN (by rw [HF.out, if_neg h0, if_neg h1, if_pos h2]), fF.out⟩
def uV (t:aF):aF:=flat (qZ (iy t))
def Wx (w:World) (t:aF) (e:Ending) (w':World):Prop :=
 Up w w'/\((aB t≠0/\e=.returned (.tuple #[.agg #[.slice none 0 0,.slice none 0 0],.int .i64 1]))\/(aB t=0/\∃v,e=.returned (.tuple #[v,.int .i64 0])/\aC (fun b=>w.heap.size<=b) w' v (uV t)))
theorem Q8 (S:Nat->Prop) (w:World) (v:Value) (t:aF) (hT:aC S w v t) (hp:t.ps.length<=1000000) (hn:t.ns.length<=1000000) (hz:∀k,(gs t.ns k).size<=70000):Calls Tryz.prog 147 #[v] w (Wx w t):=by
 obtain ⟨P,N,rfl,hP,hN⟩:=hT;have hu:=(Up.alloc w (.cells #[P,N] 39)).trans (Up.alloc _ (.cells #[.slice none 0 0,.slice none 0 0] 39));have kY:aC S ((w.alloc (.cells #[P,N] 39)).alloc (.cells #[.slice none 0 0,.slice none 0 0] 39)) (.agg #[P,N]) t:=aC.keep ⟨P,N,rfl,hP,hN⟩ (hu.kept _);have ir:=aa (wY S _ _ t kY hp hn hz);have HT:=aa kY;have HU:=aa hu;have gj:=aa ((Up.alloc _ (.cells #[.slice none 0 0,.slice none 0 0] 39)).cell (fO w P N 39));have kr:=aa ((Up.alloc _ (.cells #[.slice none 0 0,.slice none 0 0] 39)).cell (fP w P N 39))
 have hc0:=gj.out;have hc1:=kr.out;have hrb:=jv (w:=w.alloc (.cells #[P,N] 39)) (P:=.slice none 0 0) (N:=.slice none 0 0) (T:=39);have hsz:((w.alloc (.cells #[P,N] 39)).alloc (.cells #[.slice none 0 0,.slice none 0 0] 39)).heap.size=w.heap.size+2:=by simp
 rw [aL] at hrb;have mI:=aa hrb;have dm:=aa hsz;clear hu kY hP hN hrb hsz
 go_enter Tryz.func147,Tryz.ntmps147
 go_wp2_with fail;generalize (w.alloc (.cells #[P,N] 39)).alloc (.cells #[.slice none 0 0,.slice none 0 0] 39)=w1 at *;refine ir.out.mono ?_;rintro e w2 ⟨rfl,hb2⟩;have aJ:Up w1 w2:=hb2;have hc0:=aJ.cell gj.out;have hc1:=aJ.cell kr.out;have uk:=aa (HT.out.keep (aJ.kept S));have lY:=(bH aJ (w.heap.size+1) (by rw [dm.out];omega)).trans mI.out;have bY:=aa (HU.out.trans aJ);have mM:Hid (w.heap.size+2<=w2.heap.size):=by unfold Hid;have:=aJ.size;rw [dm.out] at this;exact this
 clear hb2 aJ ir HT HU gj kr mI;by_cases he:aB t=0
 ·have HE:=aa he
  rw [he];have ki:=aa lY;have qK:=aa (Kr S t he (dx t 0) 0 (ah _) (aM he).1 w2 _ uk.out);have hsize:=Ek he;have Wy:=Ev (iy t);have S2:=aa (And.intro hsize Wy);clear lY he hsize Wy;go_wp2_with fail;refine qK.out.mono ?_;rintro e w3 ⟨dg,v3,rfl,hr3⟩;have ek:=aa dg;have HOD:=aa (N9 _ 64 (iy t) S2.out.1 (by omega) w3 _ hr3);clear dg hr3 qK;go_wp2_with fail;refine HOD.out.mono ?_;rintro e w4 ⟨dQ,v4,rfl,hr4⟩;have kX:=aa (ek.out.trans dQ)
  have nV:=aa (A9 _ w4 _ (qZ (iy t)) hr4 (by have:=S2.out;omega));have Kv:Hid (w.heap.size+2<=w4.heap.size):=by unfold Hid;have:=kX.out.size;have:=mM.out;omega
  clear dQ hr4 HOD ek;go_wp2_with fail;refine nV.out.mono ?_;rintro e w5 ⟨mL,_,rfl,P4,N4,rfl,fD,fE⟩;have fD:ay (fun b=>w4.heap.size<=b) w5 P4 (uV t).ps:=fD;have fE:av (fun b=>w4.heap.size<=b) w5 N4 (uV t).ns:=fE;obtain ⟨pp,pc,rfl,_,_⟩:=aA.open fD;obtain ⟨np,nc,rfl,_,_⟩:=aA.open fE;have kj:=(bH (kX.out.trans mL) (w.heap.size+1) (by have:=mM.out;omega)).trans ki.out;have lG:w5.cell? ⟨w.heap.size+1,0,none⟩=some (.slice none 0 0):=by simp [World.cell?,kj]
  have hr1:w5.cell? ⟨w.heap.size+1,1,none⟩=some (.slice none 0 0):=by simp [World.cell?,kj]
  have Kh:w5.frozen? ⟨w.heap.size+1,0,none⟩=false:=by simp [World.frozen?,kj]
  have vG:w5.frozen? ⟨w.heap.size+1,1,none⟩=false:=by simp [World.frozen?,kj]
  have Ed:=aa fD;have NL:=aa fE;have HST:=aa (eW (w:=w) (p:=.slice pp (uV t).ps.length pc) (q:=.slice np (uV t).ns.length nc) kj (by omega) (bY.out.trans (kX.out.trans mL)));clear fD fE mL kj nV ki hc0 hc1;go_wp2_with fail;obtain ⟨s1,s2,s3,s4⟩:=HST.out;have hs2:=mM.out;have hs4:=Kv.out;refine ⟨rfl,.tuple #[.agg #[.slice pp (uV t).ps.length pc,.slice np (uV t).ns.length nc],.int .i64 0],by simp [results,Tryz.results147,go_sem,s2,s3],?_⟩
  exact ⟨s1,.inr ⟨HE.out,_,rfl,_,_,rfl,(ay.keep Ed.out fun b hb _=>s4 b (by omega)).sub fun b hb _=>by omega,(av.keep NL.out fun b hb _=>s4 b (by omega)).sub fun b hb _=>by omega⟩⟩
 ·have B5:(aB t != 0)=true:=by simpa using he
  have lG:w2.cell? ⟨w.heap.size+1,0,none⟩=some (.slice none 0 0):=by simp [World.cell?,lY]
  have hr1:w2.cell? ⟨w.heap.size+1,1,none⟩=some (.slice none 0 0):=by simp [World.cell?,lY]
  have Kh:w2.frozen? ⟨w.heap.size+1,0,none⟩=false:=by simp [World.frozen?,lY]
  have vG:w2.frozen? ⟨w.heap.size+1,1,none⟩=false:=by simp [World.frozen?,lY]
  have HST:=aa (eW (w:=w) (p:=.slice none 0 0) (q:=.slice none 0 0) lY (by omega) bY.out);have HE:=aa he;clear he lY hc0 hc1;generalize aB t=te at B5 ⊢;go_wp2_with fail;obtain ⟨s1,s2,s3,s4⟩:=HST.out;refine ⟨rfl,.tuple #[.agg #[.slice none 0 0,.slice none 0 0],.int .i64 1],by simp [results,Tryz.results147,go_sem,s2,s3],?_⟩;exact ⟨s1,.inl ⟨HE.out,rfl⟩⟩
def Small (l:List Int):Prop:=∀k,k<l.length->0<=gi l k/\gi l k<32
theorem Bb (W:World):aC Any W (.agg #[.slice none 0 0,.slice none 0 0]) ⟨[],[]⟩ :=
 ⟨_,_,rfl,⟨none,0,rfl,ah _,.inl rfl⟩,⟨none,0,rfl,ah _,.inl rfl⟩⟩
theorem boxed {W:World} {B:Nat} {P N:Value} (hb:W.heap[B]? = some (Obj.cells #[P,N] 39 (0,0))):W.cell? ⟨B,0,none⟩=some P/\W.cell? ⟨B,1,none⟩=some N/\W.frozen? ⟨B,0,none⟩=false/\W.frozen? ⟨B,1,none⟩=false:=by
 refine ⟨?_,?_,?_,?_⟩<;>simp [World.cell?,World.frozen?,hb]
theorem Ez {S:Nat->Prop} {w:World} {b off n cap:Nat} {xs:List ByteArray} (h:av S w (.slice (some ⟨b,off,none⟩) n cap) xs) {k:Nat} (hk:k<=xs.length):aA S w (.slice (some ⟨b,off,none⟩) k cap) k (fun j=>.string (gs xs j)):=by
 obtain ⟨q,c,e,hn,h⟩:=h;injection e with e1 e2 e3;subst e1;subst e2;subst e3;refine ⟨_,cap,rfl,by omega,?_⟩;rcases h with h | ⟨b',o',e,hS,h⟩
 ·exact .inl (by omega)
 ·exact .inr ⟨b',o',e,hS,fun j hj=>h j (by omega)⟩
end
section
def GN (s:RT):Prop:=(s.kids≠[]->s.nm.size=0)/\(s.kids=[]->bu s.nm.data.toList=true)/\s.kids.length≠1
def p7 (l:List ByteArray):List ByteArray:=l.filter fun s=>decide (s.size≠0)
theorem GP (a b:List ByteArray):p7 (a++b)=p7 a++p7 b:=wD _ _
theorem wZ {nm:ByteArray} {ks:List RT} (h:nm.size=0):gH (.node nm ks)=ks.flatMap gH:=by
 have key:∀ks:List RT,p7 (dL ks)=ks.flatMap gH:=by
  intro ks
  induction ks with
  | nil=>rfl
  | cons r rs ih=>rw [dL,GP,ih,fZ];rfl
 show p7 (dr _)=_;rw [dr,<- key];unfold p7;rw [List.filter_cons_of_neg (by simp [h])]
theorem LZ {nm:ByteArray} (h:nm.size≠0):gH (.node nm [])=[nm]:=by
 show List.filter _ (dr _)=_;rw [dr,dL,List.filter_cons_of_pos (by simpa using h)];rfl
end
end Go.Proofs.YthgabkgmkolobaaGreat
