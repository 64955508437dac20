/- The contract of phylotree.Print. The turns of Reroot in memory. Check, for names of any .. -/
import Derived.Test.YtpnmblnahjjmhaaGreatQ1
import Derived.Test.YtpnmblnahjjmhaaGreatQ22
import Derived.Test.YtpnmblnahjjmhaaGreatQ23
import Derived.Test.YtpnmblnahjjmhaaGreatQ20
import Derived.Test.YtpnmblnahjjmhaaGreatQ21
import Derived.Test.YtpnmblnahjjmhaaGreatQ2
import Derived.Test.YtpnmblnahjjmhaaGreatQ19
import Derived.Shelf.SlGeneric
import Derived.Shelf.Strings.IndexAnyAll
import Derived.Ground.NamesProg
import Derived.Ground.Names2Prog
import Derived.Test.YtpnmblnahjjmhaaGreatProg
set_option maxRecDepth 100000
namespace Go.Proofs.YtpnmblnahjjmhaaGreat
section
open Go.RowKit Go.Deep
mutual
theorem CS {M : Nat} : ∀ r : RT, (∀ s ∈ cm r, s.size ≤ M) → (txR r).length + 1 ≤ aK r * (M + 3)
 | .node nm [], h => by
  rw [txR, aK, sizeRs]
  have h1 := h nm (by rw [cm]; simp)
  have h2 : nm.data.toList.length = nm.size := by rw [Array.length_toList]; rfl
  omega
 | .node nm (k :: ks), h => by
  have h1 := CS k (fun s hs => h s (by rw [cm, b7]; simp [hs]))
  have h2 := GX ks (fun s hs => h s (by rw [cm, b7]; simp [hs]))
  rw [txR, aK, sizeRs]
  simp only [List.length_cons, List.length_append, List.length_nil]
  rw [Nat.add_mul, Nat.add_mul]
  omega
theorem GX {M : Nat} : ∀ rs : List RT, (∀ s ∈ b7 rs, s.size ≤ M) → (txRs rs).length ≤ sizeRs rs * (M + 3)
 | [], _ => by rw [txRs]; exact Nat.zero_le _
 | r :: rs, h => by
  have h1 := CS r (fun s hs => h s (by rw [b7]; simp [hs]))
  have h2 := GX rs (fun s hs => h s (by rw [b7]; simp [hs]))
  rw [txRs, sizeRs]
  simp only [List.length_cons, List.length_append]
  rw [Nat.add_mul]
  omega
end
theorem GY {F : aT} {n : Nat} {rk : Nat → Nat} (h : Wf F n rk) {i : Nat} (hi : i < n) : cm (aR F rk i) = (bE F rk i).map F.nm := by
 rw [qM, sO h hi (Nat.le_refl _), List.map_map]
 refine List.map_congr_left fun z hz => ?_
 exact qN h (mQ h hi (Nat.le_refl _) ((cU h hi (Nat.le_refl _)).1 hz))
theorem VL {t : aA} (h : aB t = 0) {M : Nat} (hz : ∀ k, (gs t.ns k).size ≤ M) : (txR (fC t)).length + 1 ≤ 64 * (M + 3) := by
 obtain ⟨hp, LZ, _⟩ := aH h
 have h1 := CS (M := M) (fC t) (fun s hs => by
  unfold fC at hs
  rw [GY (cg h).wf hp] at hs
  obtain ⟨z, _, rfl⟩ := List.mem_map.1 hs
  exact hz z)
 have h2 : aK (fC t) ≤ t.ps.length := O3 (cg h).wf hp (kE h)
 exact Nat.le_trans h1 (Nat.mul_le_mul_right _ (by omega))
def Ph (t : aA) : Int := if aB t ≠ 0 then 1 else 0
def KB (t : aA) : List UInt8 := if aB t ≠ 0 then [] else txR (fC t) ++ [59]
def Yc (w : World) (t : aA) (e : Ending) (w' : World) : Prop := Up w w' ∧ e = .returned (.tuple #[.string ⟨(KB t).toArray⟩, .int .i64 (Ph t)])
set_option maxHeartbeats 4000000 in
theorem VM (S : Nat → Prop) (w : World) (v : Value) (t : aA) (hT : aG S w v t) (hp : t.ps.length ≤ 1000000) (hn : t.ns.length ≤ 1000000) (hz : ∀ k, (gs t.ns k).size ≤ 70000) :
  Calls Tryz.prog 48 #[v] w (Yc w t) := by
 obtain ⟨P, N, rfl, hP, hN⟩ := hT
 obtain ⟨pp, pc, rfl, _, _⟩ := av.open hP
 obtain ⟨pn, pm, rfl, _, _⟩ := av.open hN
 have hP : af S w (.slice pp t.ps.length pc) t.ps := hP
 have hN : ay S w (.slice pn t.ns.length pm) t.ns := hN
 have ha := Up.alloc w (.cells #[.slice pp t.ps.length pc, .slice pn t.ns.length pm] 39)
 have iE := aa (cB w (.slice pp t.ps.length pc) (.slice pn t.ns.length pm) 39)
 have dM := aa (cI w (.slice pp t.ps.length pc) (.slice pn t.ns.length pm) 39)
 have hsz : (w.alloc (.cells #[.slice pp t.ps.length pc, .slice pn t.ns.length pm] 39)).heap.size = w.heap.size + 1 := by simp
 have HU := aa ha
 have zx : Hid (aG S _ _ t) := aG.keep ⟨_, _, rfl, hP, hN⟩ (ha.kept S)
 have cO := aa hsz
 have HZ := aa hz
 have hc0 := iE.out
 have hc1 := dM.out
 have e9 := aa (yH S _ _ t zx.out hp hn hz)
 have KC : Hid (Ph t = if aB t ≠ 0 then 1 else 0) := rfl
 have Ei : Hid (KB t = if aB t ≠ 0 then [] else txR (fC t) ++ [59]) := rfl
 clear ha hP hN hsz hz
 go_enter Tryz.func48, Tryz.ntmps48
 go_wp2_with fail
 generalize w.alloc (.cells #[.slice pp t.ps.length pc, .slice pn t.ns.length pm] 39) = w1 at *
 refine e9.out.mono ?_
 rintro e w2 ⟨rfl, aC⟩
 have aC : Up w1 w2 := aC
 have bU := aa aC
 have gR := aa (HU.out.trans aC)
 have hc0 := aC.cell iE.out
 have hc1 := aC.cell dM.out
 clear aC e9
 by_cases he : aB t = 0
 ·obtain ⟨nj, LZ, hnl, hok, _⟩ := aH he
  have BV := aa he
  rw [he]
  have zv := aa (aG.keep zx.out (bU.out.kept S))
  clear he hnl hok
  go_wp2_with fail
  have hb := blk_alloc_new w2 (.cells #[.pointer none, .slice none 0 0] 135)
  have bR := Up.alloc w2 (.cells #[.pointer none, .slice none 0 0] 135)
  have hs3 : (w2.alloc (.cells #[.pointer none, .slice none 0 0] 135)).heap.size = w2.heap.size + 1 := World.size_alloc _ _
  have Eh := blk_alloc_new (w2.alloc (.cells #[.pointer none, .slice none 0 0] 135)) (.cells #[.func (.func 126) #[] #[.pointer (some ⟨w2.heap.size, 0, none⟩), .pointer (some ⟨w2.heap.size + 1, 0, none⟩)]] 136)
  have dL := Up.alloc (w2.alloc (.cells #[.pointer none, .slice none 0 0] 135)) (.cells #[.func (.func 126) #[] #[.pointer (some ⟨w2.heap.size, 0, none⟩), .pointer (some ⟨w2.heap.size + 1, 0, none⟩)]] 136)
  have hs4 : ((w2.alloc (.cells #[.pointer none, .slice none 0 0] 135)).alloc (.cells #[.func (.func 126) #[] #[.pointer (some ⟨w2.heap.size, 0, none⟩), .pointer (some ⟨w2.heap.size + 1, 0, none⟩)]] 136)).heap.size = w2.heap.size + 2 := by rw [World.size_alloc, hs3]
  have hb4 := (blk_alloc_lt (w2.alloc (.cells #[.pointer none, .slice none 0 0] 135)) (.cells #[.func (.func 126) #[] #[.pointer (some ⟨w2.heap.size, 0, none⟩), .pointer (some ⟨w2.heap.size + 1, 0, none⟩)]] 136) w2.heap.size (by omega)).trans hb
  rw [hs3] at Eh
  have Mq := (bR.trans dL).cell hc0
  have Mr := (bR.trans dL).cell hc1
  have fB := aa (bR.trans dL)
  clear hb bR dL hs3 hc0 hc1
  generalize (w2.alloc (.cells #[.pointer none, .slice none 0 0] 135)).alloc (.cells #[.func (.func 126) #[] #[.pointer (some ⟨w2.heap.size, 0, none⟩), .pointer (some ⟨w2.heap.size + 1, 0, none⟩)]] 136) = w4 at *
  have cn : Hid (sY w2.heap.size (w2.heap.size + 1) w4) := Eh
  have Kw := cn.out.cell
  have HB4 := aa hb4
  have rO := aa hs4
  clear hs4 hb4 Eh
  refine dK (by kernel_rfl) 6 (fun w' => w'.cell? ⟨w2.heap.size + 1, 0, none⟩ = some (.func (.func 126) #[] #[.pointer (some ⟨w2.heap.size, 0, none⟩), .pointer (some ⟨w2.heap.size + 1, 0, none⟩)]) ∧ w'.cell? ⟨w.heap.size, 0, none⟩ = some (.slice pp t.ps.length pc) ∧ w'.cell? ⟨w.heap.size, 1, none⟩ = some (.slice pn t.ns.length pm)) ⟨Kw, Mq, Mr⟩ (fun hS => ?_)
  simp only [List.size_toArray, List.length_cons, List.length_nil, Nat.reduceAdd, Array.replicate_succ, Array.replicate_zero, List.push_toArray, List.nil_append, List.cons_append]
  refine ag.take (i := 0) (v := ?yL) rfl (by kernel_rfl) (fun _ _ _ h => h) (by rfl) (fun w hSw => ?kY) hS ?yM
  case kY =>
   (try dsimp only at hSw)
   go_simp
   try with_reducible rfl
  try simp only [Act.put, aj, aq, au]
  refine ag.take (i := 1) (v := ?yN) rfl (by kernel_rfl) (fun _ _ _ h => h) (by rfl) (fun w hSw => ?kZ) hS ?yO
  case kZ =>
   (try dsimp only at hSw)
   go_simp
   try with_reducible rfl
  try simp only [Act.put, aj, aq, au]
  refine ag.step (i := 2) rfl (by kernel_rfl) (fun K' hK => ?_)
  go_simp
  have HUD : Hid (Up w4 w4.drew) := Up.drewN w4 1
  obtain ⟨_, _, hnl, hok, _⟩ := aH BV.out
  have GZ := aa (Sq S w4.drew _ t (aG.keep zv.out ((fB.out.trans HUD.out).kept S)) (by omega) hnl hok HZ.out)
  refine GZ.out.mono ?_
  rintro e w5 ⟨fh, g, A, kv, sK, rfl, hF, hrow⟩
  have rF := hrow.cell (i := 0) nj
  simp only [bC] at rF
  have gH := aa (HUD.out.trans fh)
  have hpos : (0 : Int) < (t.ps.length : Int) := by omega
  refine hK.out _ _ (fun _ => ⟨gH.out.cell Kw, gH.out.cell Mq, gH.out.cell Mr⟩) (fun hS => ?_)
  try simp only [aj, aq, au]
  have HF := aa hF
  have HGL := aa sK
  have jN : Hid (Ph t = 0) := by rw [Hid, KC.out, if_neg (by simp [BV.out])]
  have mU : Hid (KB t = txR (fC t) ++ [59]) := by rw [Hid, Ei.out, if_neg (by simp [BV.out])]
  have iD := aa (VL BV.out HZ.out)
  have jS : Hid (Lib.IsBuilderF 135 5 w2.heap.size w2.heap.size (Lib.byteCells []) w5) := .inl ⟨Nat.le_refl _, _, (Below.block gH.out _ (by rw [rO.out]; omega)).trans HB4.out, ⟨rfl, .inl ⟨rfl, rfl⟩⟩, fun e => by cases e⟩
  have HBX5 : Hid (sY w2.heap.size (w2.heap.size + 1) w5) := (Below.block gH.out _ (by rw [rO.out]; omega)).trans cn.out
  have iy : Hid (w2.heap.size + 2 ≤ w5.heap.size) := by have := gH.out.size; rw [rO.out] at this; exact this
  have G0 := aa (Sn (base := g + 1) (n := t.ps.length) (B := w2.heap.size) (b := w2.heap.size) (fb := w2.heap.size + 1) (cg BV.out).wf (fun z _ => by have := nB t z; omega) (by have := rO.out; have h2 : w4.heap.size ≤ g := sK; omega) (by omega) (bM t 0) 0 [] w5 nj (Nat.le_refl _) hF HBX5.out jS.out (by
   have := iD.out
   show 0 + (txR (fC t)).length ≤ _
   omega) (by have := iy.out; omega))
  clear hnl hok hF sK hrow GZ fh
  refine ag.step (i := 3) rfl (by kernel_rfl) (fun K' hK => ?_)
  go_simp
  refine hK.out _ _ (fun _ => ⟨gH.out.cell Kw, gH.out.cell Mq, gH.out.cell Mr⟩) (fun hS => ?_)
  try simp only [aj, aq, au]
  refine ag.step (i := 4) rfl (by kernel_rfl) (fun K' hK => ?_)
  go_simp
  refine hK.out _ _ (fun _ => ⟨gH.out.cell Kw, gH.out.cell Mq, gH.out.cell Mr⟩) (fun hS => ?_)
  try simp only [aj, aq, au]
  refine ag.step (i := 5) rfl (by kernel_rfl) (fun K' hK => ?_)
  go_simp
  refine G0.out.mono ?_
  rintro e w6 ⟨rfl, h6⟩
  refine hK.out _ _ (aP (by kernel_rfl)) (fun hS => ?_)
  refine ag.done (by kernel_rfl) ?_
  have KD : Hid (aR (cF t) (bM t) 0 = fC t) := rfl
  rw [List.nil_append, KD.out] at h6
  have HB6 := aa h6
  have HWB := aa (CP w2.heap.size w2.heap.size (Lib.byteCells (txR (fC t))) 59 w6 h6.bl (by rw [Lib.byteCells_length]; have := iD.out; omega) (h6.size (by have := iy.out; omega)))
  clear h6 G0 hS hK
  go_wp2_with fail
  refine HWB.out.mono ?_
  rintro e w7 ⟨rfl, h1, h2, h3⟩
  have KE := aa (HB6.out.byte (x := 59) rfl h1 h2 h3)
  have HST := aa (X6 w2.heap.size w2.heap.size (txR (fC t) ++ [59]) w7 KE.out.bl (KE.out.size (by have := iy.out; omega)))
  clear h1 h2 h3
  go_wp2_with fail
  refine HST.out.mono ?_
  rintro e w8 ⟨rfl, _, h2, _⟩
  have Yd : Hid (Up w2 w8) := Below.trans (fB.out.trans gH.out) (KE.out.up.trans h2)
  clear h2
  go_wp2_with fail
  go_ret2
  exact ⟨gR.out.trans Yd.out, by rw [jN.out, mU.out]; rfl⟩
 ·have FW : (aB t != 0) = true := by simpa using he
  have jN : Hid (Ph t = 1) := by rw [Hid, KC.out, if_pos he]
  have mU : Hid (KB t = []) := by rw [Hid, Ei.out, if_pos he]
  clear he
  generalize aB t = te at *
  go_wp2_with fail
  go_ret2
  exact ⟨gR.out, by rw [jN.out, mU.out]; rfl⟩
end
section
open Go.RowKit Go.Deep
section
variable {g n fb : Nat} {A : Nat → Nat} {kv : Nat → Value} {F : aT} {w3 wr w' : World} {f : Int}
end
end
section
open Go.RowKit Go.Deep
theorem Ms {t : aA} (h : aB t = 0) : ∀ k, (gs t.ns k).size ≤ 70000 := fun k => by
 obtain ⟨_, _, hl, _, hne⟩ := aH h
 by_cases hk : k < t.ps.length
 ·have h1 := hne k hk
  unfold iR at h1
  split at h1
  ·split at h1
   ·omega
   ·cases h1
  ·split at h1
   ·rename_i hn
    have hsz : (gs t.ns k).data.toList.length = (gs t.ns k).size := by simp
    rw [← hsz]
    unfold bq at hn
    split at hn
    ·simp only [Bool.and_eq_true, decide_eq_true_eq] at hn
     omega
    ·unfold eG at hn
     simp only [Bool.and_eq_true, decide_eq_true_eq] at hn
     omega
   ·cases h1
 ·have : gs t.ns k = ByteArray.empty := by unfold gs; rw [List.getD_eq_getElem?_getD, List.getElem?_eq_none (by omega)]; rfl
  rw [this]; exact Nat.zero_le _
end
section
open Go.RowKit Go.Deep
section
variable {P : Program} {ops : Array Oper} {rest : List Oper} {o : Oper} {a : Act} {Q : Exit → Act → World → Prop}
theorem xT (W : World) (hgd : o.guard = none) (s x : Operand) (t : TypeId) (ho : o.op = .call { callee := .builtin .append, args := #[s, x], argTypes := #[t, t] })
  (base : Nat) (e : TypeId) (z : Value) (bytes : Nat) (ht : P.underlying t = some (.slice e)) (hinfo : (P.info? e).map (fun i => (i.zero, i.size, i.bytes)) = some (some z, 1, bytes))
  (hz1 : z.cells.size = 1) (jJ : bytes ≤ 64) {v : Value} {vs : List Value} (hown : ah base e W v vs) (hs : a.eval s = v) (u : Value) (m : Nat) (hm : W.heap.size = m)
  (hx : a.eval x = .slice (some ⟨m, 0, none⟩) 1 1) (h1 : u.oneCell' = true) (k : Nat) (uD : vs.length = k) (hn : k ≤ 1000000) (hbase : base ≤ W.heap.size)
  (h : ∀ g cap w', ah base e w' (.slice (some ⟨g, 0, none⟩) (k + 1) cap) (vs ++ [u]) → W.grownBy w' v.ownBlock → (v.ownBlock = some g ∨ W.heap.size ≤ g) → wpList P ops Q rest (a.put o.dst (.slice (some ⟨g, 0, none⟩) (k + 1) cap)) w') :
  wpList P ops Q (o :: rest) a (W.alloc (.cells #[u] e)) := by
 subst hm
 exact oZ W hgd s x t ho base e z bytes ht hinfo hz1 jJ hown hs u hx h1 k uD hn hbase h
end
section
variable {w2 wr wx w' : World} {tb : Nat} {pv nv v : Value} {xs : List ByteArray}
end
section
variable {w3 wr wx w' : World} {d a : Value} {gs : List DF} {svs : List Value} {xs : List Int}
end
end
end Go.Proofs.YtpnmblnahjjmhaaGreat
namespace Go.Proofs
open Go.Shelf
def Tryz.idxA_ren : Go.Shelf.Ren := ⟨fun | 153 => 176 | 152 => 232 | 226 => 233 | 227 => 234 | 228 => 235 | 137 => 281 | 119 => 282 | 224 => 283 | 225 => 284 | 217 => 301 | 266 => 316 | n => n, fun | 9 => 9 | 3 => 3 | 4 => 4 | 5 => 5 | 21 => 21 | 117 => 231 | 116 => 230 | 0 => 0 | 46 => 171 | 124 => 274 | n => n, fun | n => n⟩
theorem Tryz.idxA : Go.Proofs.Lays.n153 Tryz.prog Tryz.idxA_ren := {
 mixed := by kernel_rfl
 f119 := Tryz.func282.trans (congrArg some (by kernel_rfl))
 f137 := Tryz.func281.trans (congrArg some (by kernel_rfl))
 f152 := Tryz.func232.trans (congrArg some (by kernel_rfl))
 f153 := Tryz.func176.trans (congrArg some (by kernel_rfl))
 f217 := Tryz.func301.trans (congrArg some (by kernel_rfl))
 f224 := Tryz.func283.trans (congrArg some (by kernel_rfl))
 f225 := Tryz.func284.trans (congrArg some (by kernel_rfl))
 f226 := Tryz.func233.trans (congrArg some (by kernel_rfl))
 f227 := Tryz.func234.trans (congrArg some (by kernel_rfl))
 f228 := Tryz.func235.trans (congrArg some (by kernel_rfl))
 f266 := Tryz.func316.trans (congrArg some (by kernel_rfl))
 t0 := Tryz.underlying0
 a0 := Tryz.isAgg0
 z0 := Tryz.sizeOf0
 v0 := Tryz.zeroValue0
 t3 := Tryz.underlying3
 a3 := Tryz.isAgg3
 z3 := Tryz.sizeOf3
 v3 := Tryz.zeroValue3
 t4 := Tryz.underlying4
 a4 := Tryz.isAgg4
 z4 := Tryz.sizeOf4
 v4 := Tryz.zeroValue4
 t5 := Tryz.underlying5
 a5 := Tryz.isAgg5
 z5 := Tryz.sizeOf5
 v5 := Tryz.zeroValue5
 t9 := Tryz.underlying9
 a9 := Tryz.isAgg9
 z9 := Tryz.sizeOf9
 v9 := Tryz.zeroValue9
 t21 := Tryz.underlying21
 a21 := Tryz.isAgg21
 z21 := Tryz.sizeOf21
 v21 := Tryz.zeroValue21
 t46 := Tryz.underlying171
 a46 := Tryz.isAgg171
 z46 := Tryz.sizeOf171
 v46 := Tryz.zeroValue171
 t116 := Tryz.underlying230
 a116 := Tryz.isAgg230
 z116 := Tryz.sizeOf230
 t117 := Tryz.underlying231
 a117 := Tryz.isAgg231
 z117 := Tryz.sizeOf231
 v117 := Tryz.zeroValue231
 t124 := Tryz.underlying274
 a124 := Tryz.isAgg274
 z124 := Tryz.sizeOf274
 v124 := Tryz.zeroValue274 }
end Go.Proofs
namespace Go.Proofs.YtpnmblnahjjmhaaGreat
section
section
variable {t : aA}
theorem Ak (h : aB t = 0) : ∀ (d j : Nat), j ≤ d → j < t.ps.length → dm t.ps 0 j = true
 | d, j, hd, hj => by
  by_cases h0 : j = 0
  ·subst h0; exact vt 0
  ·obtain ⟨_, _, _, hok, _⟩ := aH h
   have hp := kJ hok hj (by omega)
   rw [mC hok hj (by omega)]
   cases d with
   | zero => omega
   | succ d => exact Ak h d _ (by omega) (by omega)
theorem nQ (h : aB t = 0) : (bE (cF t) (bM t) 0).Perm (List.range t.ps.length) := by
 have h0 := (aH h).1
 refine (List.perm_ext_iff_of_nodup (jh (cg h) (fun i _ => uw t i) h0 (Nat.le_refl _)) List.nodup_range).2 fun j => ?_
 rw [List.mem_range]
 constructor
 ·exact eu h
 ·intro hj
  refine (cU (cg h).wf h0 (Nat.le_refl _)).2 ?_
  rw [qO h _ 0 j (Nat.le_refl _) h0 hj]
  exact Ak h j j (Nat.le_refl _) hj
theorem VN (h : aB t = 0) : (cm (fC t)).Perm t.ns := by
 rw [Ki h]
 have hl := (aH h).2.2.1
 have h1 := (nQ h).map (gs t.ns)
 rw [← hl, R5] at h1
 exact h1
theorem vv (h : aB t = 0) : (aZ (fC t)).Perm (mB t.ns) := (VN h).filter _
theorem Pj (h : aB t = 0) : (mB (gM t).ns).Perm (mB t.ns) := by
 rw [mR h]
 exact (qu (fC t)).trans (vv h)
theorem Mt {nm : ByteArray} (h : nm.size ≠ 0) : aZ (.node nm []) = [nm] := by
 unfold aZ
 rw [cm, b7]
 exact List.filter_eq_self.2 fun x hx => decide_eq_true (by rw [List.mem_singleton.1 hx]; exact h)
theorem Ej : ∀ (r : RT), (∀ s ∈ subR r, s.kids ≠ [] → s.nm.size = 0) → (∀ s ∈ subR r, s.kids = [] → s.nm.size ≠ 0) → ∃ l, aZ r = firstR r :: l
 | .node nm [], _, h2 => ⟨[], by
  have h := h2 (.node nm []) (by rw [subR]; exact List.mem_cons_self) rfl
  rw [Mt (nm := nm) h, firstR]⟩
 | .node nm (k :: ks), h1, h2 => by
  have h0 : nm.size = 0 := h1 (.node nm (k :: ks)) (by rw [subR]; exact List.mem_cons_self) (by simp [RT.kids])
  have hk : ∀ s ∈ subR k, s ∈ subR (.node nm (k :: ks)) := fun s hs => by rw [subR, subRs]; simp [hs]
  obtain ⟨l, hl⟩ := Ej k (fun s hs => h1 s (hk s hs)) (fun s hs => h2 s (hk s hs))
  rw [fo h0, List.flatMap_cons, hl, firstR]
  exact ⟨_, rfl⟩
theorem gC.head {r : RT} (h : gC r) : ∃ l, aZ r = firstR r :: l := Ej r h.uz fun s hs hk => dS (h.lf s hs hk)
end
end
section
open Go.RowKit Go.Deep
end
section
def paE (s : ByteArray) : Int := match pO s.data.toList with
 | none => 3
 | some r => aB (flat r)
def Ek (s : ByteArray) : aA := match pO s.data.toList with
 | none => ⟨[], []⟩
 | some r => if aB (flat r) ≠ 0 then ⟨[], []⟩ else flat r
end
end Go.Proofs.YtpnmblnahjjmhaaGreat
