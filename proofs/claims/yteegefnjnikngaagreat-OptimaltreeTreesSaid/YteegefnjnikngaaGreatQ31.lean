/- The contract of phylotree.Print. The turns of Reroot in memory. Check, for names of any .. -/
import Derived.Test.YteegefnjnikngaaGreatQ1
import Derived.Test.YteegefnjnikngaaGreatQ28
import Derived.Test.YteegefnjnikngaaGreatQ29
import Derived.Test.YteegefnjnikngaaGreatQ27
import Derived.Test.YteegefnjnikngaaGreatQ3
import Derived.Test.YteegefnjnikngaaGreatQ25
import Derived.Shelf.SlGeneric
import Derived.Shelf.Strings.IndexAnyAll
import Derived.Ground.NamesProg
import Derived.Ground.Names2Prog
import Derived.Test.YteegefnjnikngaaGreatProg
import Derived.Test.YteegefnjnikngaaGreatQ30
import Derived.Test.YteegefnjnikngaaGreatQ26
set_option maxRecDepth 100000
namespace Go.Proofs.YteegefnjnikngaaGreat
section
open Go.RowKit Go.Deep
mutual
theorem vQ {M : Nat} : ∀ r : RT, (∀ s ∈ b7 r, s.size ≤ M) → (txR r).length + 1 ≤ aG r * (M + 3)
 | .node nm [], h => by
  rw [txR, aG, sizeRs]
  have h1 := h nm (by rw [b7]; simp)
  have h2 : nm.data.toList.length = nm.size := by rw [Array.length_toList]; rfl
  omega
 | .node nm (k :: ks), h => by
  have h1 := vQ k (fun s hs => h s (by rw [b7, cu]; simp [hs]))
  have h2 := En ks (fun s hs => h s (by rw [b7, cu]; simp [hs]))
  rw [txR, aG, sizeRs]
  simp only [List.length_cons, List.length_append, List.length_nil]
  rw [Nat.add_mul, Nat.add_mul]
  omega
theorem En {M : Nat} : ∀ rs : List RT, (∀ s ∈ cu rs, s.size ≤ M) → (txRs rs).length ≤ sizeRs rs * (M + 3)
 | [], _ => by rw [txRs]; exact Nat.zero_le _
 | r :: rs, h => by
  have h1 := vQ r (fun s hs => h s (by rw [cu]; simp [hs]))
  have h2 := En rs (fun s hs => h s (by rw [cu]; simp [hs]))
  rw [txRs, sizeRs]
  simp only [List.length_cons, List.length_append]
  rw [Nat.add_mul]
  omega
end
theorem N3 {F : aL} {n : Nat} {rk : Nat → Nat} (h : Wf F n rk) {i : Nat} (hi : i < n) : b7 (aM F rk i) = (bz F rk i).map F.nm := by
 rw [kN, qj h hi (Nat.le_refl _), List.map_map]
 refine List.map_congr_left fun z hz => ?_
 exact rG h (l9 h hi (Nat.le_refl _) ((cV h hi (Nat.le_refl _)).1 hz))
theorem GJ {t : av} (h : aB t = 0) {M : Nat} (hz : ∀ k, (gs t.ns k).size ≤ M) : (txR (fZ t)).length + 1 ≤ 64 * (M + 3) := by
 obtain ⟨hp, zL, _⟩ := aI h
 have h1 := vQ (M := M) (fZ t) (fun s hs => by
  unfold fZ at hs
  rw [N3 (dh h).wf hp] at hs
  obtain ⟨z, _, rfl⟩ := List.mem_map.1 hs
  exact hz z)
 have h2 : aG (fZ t) ≤ t.ps.length := Lc (dh h).wf hp (DF h)
 exact Nat.le_trans h1 (Nat.mul_le_mul_right _ (by omega))
def tF (t : av) : Int := if aB t ≠ 0 then 1 else 0
def qq (t : av) : List UInt8 := if aB t ≠ 0 then [] else txR (fZ t) ++ [59]
def yV (w : World) (t : av) (e : Ending) (w' : World) : Prop := Up w w' ∧ e = .returned (.tuple #[.string ⟨(qq t).toArray⟩, .int .i64 (tF t)])
set_option maxHeartbeats 4000000 in
theorem Q6 (S : Nat → Prop) (w : World) (v : Value) (t : av) (hT : ay S w v t) (hp : t.ps.length ≤ 1000000) (hn : t.ns.length ≤ 1000000) (hz : ∀ k, (gs t.ns k).size ≤ 70000) :
  Calls Tryz.prog 36 #[v] w (yV w t) := by
 obtain ⟨P, N, rfl, hP, hN⟩ := hT
 obtain ⟨pp, pc, rfl, _, _⟩ := aA.open hP
 obtain ⟨pn, pm, rfl, _, _⟩ := aA.open hN
 have hP : ax S w (.slice pp t.ps.length pc) t.ps := hP
 have hN : au S w (.slice pn t.ns.length pm) t.ns := hN
 have ha := Up.alloc w (.cells #[.slice pp t.ps.length pc, .slice pn t.ns.length pm] 39)
 have dR := aa (dO w (.slice pp t.ps.length pc) (.slice pn t.ns.length pm) 39)
 have iu := aa (dP w (.slice pp t.ps.length pc) (.slice pn t.ns.length pm) 39)
 have hsz : (w.alloc (.cells #[.slice pp t.ps.length pc, .slice pn t.ns.length pm] 39)).heap.size = w.heap.size + 1 := by simp
 have HU := aa ha
 have uI : Hid (ay S _ _ t) := ay.keep ⟨_, _, rfl, hP, hN⟩ (ha.kept S)
 have b5 := aa hsz
 have HZ := aa hz
 have hc0 := dR.out
 have hc1 := iu.out
 have fN := aa (q8 S _ _ t uI.out hp hn hz)
 have GL : Hid (tF t = if aB t ≠ 0 then 1 else 0) := rfl
 have Zx : Hid (qq t = if aB t ≠ 0 then [] else txR (fZ t) ++ [59]) := rfl
 clear ha hP hN hsz hz
 go_enter Tryz.func36, Tryz.ntmps36
 go_wp2_with fail
 generalize w.alloc (.cells #[.slice pp t.ps.length pc, .slice pn t.ns.length pm] 39) = w1 at *
 refine fN.out.mono ?_
 rintro e w2 ⟨rfl, aF⟩
 have aF : Up w1 w2 := aF
 have bE := aa aF
 have jU := aa (HU.out.trans aF)
 have hc0 := aF.cell dR.out
 have hc1 := aF.cell iu.out
 clear aF fN
 by_cases he : aB t = 0
 ·obtain ⟨kW, zL, hnl, hok, _⟩ := aI he
  have yX := aa he
  rw [he]
  have mP := aa (ay.keep uI.out (bE.out.kept S))
  clear he hnl hok
  go_wp2_with fail
  have hb := blk_alloc_new w2 (.cells #[.pointer none, .slice none 0 0] 122)
  have b9 := Up.alloc w2 (.cells #[.pointer none, .slice none 0 0] 122)
  have hs3 : (w2.alloc (.cells #[.pointer none, .slice none 0 0] 122)).heap.size = w2.heap.size + 1 := World.size_alloc _ _
  have BJ := blk_alloc_new (w2.alloc (.cells #[.pointer none, .slice none 0 0] 122)) (.cells #[.func (.func 97) #[] #[.pointer (some ⟨w2.heap.size, 0, none⟩), .pointer (some ⟨w2.heap.size + 1, 0, none⟩)]] 123)
  have b6 := Up.alloc (w2.alloc (.cells #[.pointer none, .slice none 0 0] 122)) (.cells #[.func (.func 97) #[] #[.pointer (some ⟨w2.heap.size, 0, none⟩), .pointer (some ⟨w2.heap.size + 1, 0, none⟩)]] 123)
  have hs4 : ((w2.alloc (.cells #[.pointer none, .slice none 0 0] 122)).alloc (.cells #[.func (.func 97) #[] #[.pointer (some ⟨w2.heap.size, 0, none⟩), .pointer (some ⟨w2.heap.size + 1, 0, none⟩)]] 123)).heap.size = w2.heap.size + 2 := by rw [World.size_alloc, hs3]
  have hb4 := (blk_alloc_lt (w2.alloc (.cells #[.pointer none, .slice none 0 0] 122)) (.cells #[.func (.func 97) #[] #[.pointer (some ⟨w2.heap.size, 0, none⟩), .pointer (some ⟨w2.heap.size + 1, 0, none⟩)]] 123) w2.heap.size (by omega)).trans hb
  rw [hs3] at BJ
  have IV := (b9.trans b6).cell hc0
  have IW := (b9.trans b6).cell hc1
  have jV := aa (b9.trans b6)
  clear hb b9 b6 hs3 hc0 hc1
  generalize (w2.alloc (.cells #[.pointer none, .slice none 0 0] 122)).alloc (.cells #[.func (.func 97) #[] #[.pointer (some ⟨w2.heap.size, 0, none⟩), .pointer (some ⟨w2.heap.size + 1, 0, none⟩)]] 123) = w4 at *
  have dG : Hid (qp w2.heap.size (w2.heap.size + 1) w4) := BJ
  have GG := dG.out.cell
  have UG := aa hb4
  have GC := aa hs4
  clear hs4 hb4 BJ
  refine cZ (by kernel_rfl) 6 (fun w' => w'.cell? ⟨w2.heap.size + 1, 0, none⟩ = some (.func (.func 97) #[] #[.pointer (some ⟨w2.heap.size, 0, none⟩), .pointer (some ⟨w2.heap.size + 1, 0, none⟩)]) ∧ w'.cell? ⟨w.heap.size, 0, none⟩ = some (.slice pp t.ps.length pc) ∧ w'.cell? ⟨w.heap.size, 1, none⟩ = some (.slice pn t.ns.length pm)) ⟨GG, IV, IW⟩ (fun hS => ?_)
  simp only [List.size_toArray, List.length_cons, List.length_nil, Nat.reduceAdd, Array.replicate_succ, Array.replicate_zero, List.push_toArray, List.nil_append, List.cons_append]
  refine af.take (i := 0) (v := ?sH) rfl (by kernel_rfl) (fun _ _ _ h => h) (by rfl) (fun w hSw => ?iD) hS ?sI
  case iD =>
   (try dsimp only at hSw)
   go_simp
   try with_reducible rfl
  try simp only [Act.put, ah, aj, aq]
  refine af.take (i := 1) (v := ?sJ) rfl (by kernel_rfl) (fun _ _ _ h => h) (by rfl) (fun w hSw => ?iE) hS ?sK
  case iE =>
   (try dsimp only at hSw)
   go_simp
   try with_reducible rfl
  try simp only [Act.put, ah, aj, aq]
  refine af.step (i := 2) rfl (by kernel_rfl) (fun K' hK => ?_)
  go_simp
  have Zy : Hid (Up w4 w4.drew) := Up.drewN w4 1
  obtain ⟨_, _, hnl, hok, _⟩ := aI yX.out
  have Lj := aa (NW S w4.drew _ t (ay.keep mP.out ((jV.out.trans Zy.out).kept S)) (by omega) hnl hok HZ.out)
  refine Lj.out.mono ?_
  rintro e w5 ⟨iN, g, A, kv, wD, rfl, hF, hrow⟩
  have iX := hrow.cell (i := 0) kW
  simp only [aT] at iX
  have jq := aa (Zy.out.trans iN)
  have hpos : (0 : Int) < (t.ps.length : Int) := by omega
  refine hK.out _ _ (fun _ => ⟨jq.out.cell GG, jq.out.cell IV, jq.out.cell IW⟩) (fun hS => ?_)
  try simp only [ah, aj, aq]
  have HF := aa hF
  have GM := aa wD
  have jc : Hid (tF t = 0) := by rw [Hid, GL.out, if_neg (by simp [yX.out])]
  have rN : Hid (qq t = txR (fZ t) ++ [59]) := by rw [Hid, Zx.out, if_neg (by simp [yX.out])]
  have dW := aa (GJ yX.out HZ.out)
  have uj : Hid (Lib.IsBuilderF 122 5 w2.heap.size w2.heap.size (Lib.byteCells []) w5) := .inl ⟨Nat.le_refl _, _, (Below.block jq.out _ (by rw [GC.out]; omega)).trans UG.out, ⟨rfl, .inl ⟨rfl, rfl⟩⟩, fun e => by cases e⟩
  have HBX5 : Hid (qp w2.heap.size (w2.heap.size + 1) w5) := (Below.block jq.out _ (by rw [GC.out]; omega)).trans dG.out
  have bH : Hid (w2.heap.size + 2 ≤ w5.heap.size) := by have := jq.out.size; rw [GC.out] at this; exact this
  have Zz := aa (NV (base := g + 1) (n := t.ps.length) (B := w2.heap.size) (b := w2.heap.size) (fb := w2.heap.size + 1) (dh yX.out).wf (fun z _ => by have := lB t z; omega) (by have := GC.out; have h2 : w4.heap.size ≤ g := wD; omega) (by omega) (cB t 0) 0 [] w5 kW (Nat.le_refl _) hF HBX5.out uj.out (by
   have := dW.out
   show 0 + (txR (fZ t)).length ≤ _
   omega) (by have := bH.out; omega))
  clear hnl hok hF wD hrow Lj iN
  refine af.step (i := 3) rfl (by kernel_rfl) (fun K' hK => ?_)
  go_simp
  refine hK.out _ _ (fun _ => ⟨jq.out.cell GG, jq.out.cell IV, jq.out.cell IW⟩) (fun hS => ?_)
  try simp only [ah, aj, aq]
  refine af.step (i := 4) rfl (by kernel_rfl) (fun K' hK => ?_)
  go_simp
  refine hK.out _ _ (fun _ => ⟨jq.out.cell GG, jq.out.cell IV, jq.out.cell IW⟩) (fun hS => ?_)
  try simp only [ah, aj, aq]
  refine af.step (i := 5) rfl (by kernel_rfl) (fun K' hK => ?_)
  go_simp
  refine Zz.out.mono ?_
  rintro e w6 ⟨rfl, h6⟩
  refine hK.out _ _ (aJ (by kernel_rfl)) (fun hS => ?_)
  refine af.done (by kernel_rfl) ?_
  have HX3 : Hid (aM (eG t) (cB t) 0 = fZ t) := rfl
  rw [List.nil_append, HX3.out] at h6
  have HB6 := aa h6
  have UH := aa (zT w2.heap.size w2.heap.size (Lib.byteCells (txR (fZ t))) 59 w6 h6.bl (by rw [Lib.byteCells_length]; have := dW.out; omega) (h6.size (by have := bH.out; omega)))
  clear h6 Zz hS hK
  go_wp2_with fail
  refine UH.out.mono ?_
  rintro e w7 ⟨rfl, h1, h2, h3⟩
  have UI := aa (HB6.out.byte (x := 59) rfl h1 h2 h3)
  have HST := aa (UA w2.heap.size w2.heap.size (txR (fZ t) ++ [59]) w7 UI.out.bl (UI.out.size (by have := bH.out; omega)))
  clear h1 h2 h3
  go_wp2_with fail
  refine HST.out.mono ?_
  rintro e w8 ⟨rfl, _, h2, _⟩
  have HB8 : Hid (Up w2 w8) := Below.trans (jV.out.trans jq.out) (UI.out.up.trans h2)
  clear h2
  go_wp2_with fail
  go_ret2
  exact ⟨jU.out.trans HB8.out, by rw [jc.out, rN.out]; rfl⟩
 ·have yD : (aB t != 0) = true := by simpa using he
  have jc : Hid (tF t = 1) := by rw [Hid, GL.out, if_pos he]
  have rN : Hid (qq t = []) := by rw [Hid, Zx.out, if_pos he]
  clear he
  generalize aB t = te at *
  go_wp2_with fail
  go_ret2
  exact ⟨jU.out, by rw [jc.out, rN.out]; rfl⟩
end
section
open Go.RowKit Go.Deep
section
variable {g n fb : Nat} {A : Nat → Nat} {kv : Nat → Value} {F : aL} {w3 wr w' : World} {f : Int}
end
end
section
open Go.RowKit Go.Deep
end
section
open Go.RowKit Go.Deep
section
variable {P : Program} {ops : Array Oper} {rest : List Oper} {o : Oper} {a : Act} {Q : Exit → Act → World → Prop}
theorem uU (W : World) (hgd : o.guard = none) (s x : Operand) (t : TypeId) (ho : o.op = .call { callee := .builtin .append, args := #[s, x], argTypes := #[t, t] })
  (base : Nat) (e : TypeId) (z : Value) (bytes : Nat) (ht : P.underlying t = some (.slice e)) (hinfo : (P.info? e).map (fun i => (i.zero, i.size, i.bytes)) = some (some z, 1, bytes))
  (hz1 : z.cells.size = 1) (kY : bytes ≤ 64) {v : Value} {vs : List Value} (hown : az base e W v vs) (hs : a.eval s = v) (u : Value) (m : Nat) (hm : W.heap.size = m)
  (hx : a.eval x = .slice (some ⟨m, 0, none⟩) 1 1) (h1 : u.oneCell' = true) (k : Nat) (wE : vs.length = k) (hn : k ≤ 1000000) (hbase : base ≤ W.heap.size)
  (h : ∀ g cap w', az base e w' (.slice (some ⟨g, 0, none⟩) (k + 1) cap) (vs ++ [u]) → W.grownBy w' v.ownBlock → (v.ownBlock = some g ∨ W.heap.size ≤ g) → wpList P ops Q rest (a.put o.dst (.slice (some ⟨g, 0, none⟩) (k + 1) cap)) w') :
  wpList P ops Q (o :: rest) a (W.alloc (.cells #[u] e)) := by
 subst hm
 exact gA W hgd s x t ho base e z bytes ht hinfo hz1 kY hown hs u hx h1 k wE hn hbase h
end
section
variable {w2 wr wx w' : World} {tb : Nat} {pv nv v : Value} {xs : List ByteArray}
end
section
variable {w3 wr wx w' : World} {d a : Value} {gs : List AV} {svs : List Value} {xs : List Int}
end
end
end Go.Proofs.YteegefnjnikngaaGreat
namespace Go.Proofs
open Go.Shelf
def Tryz.idxA_ren : Go.Shelf.Ren := ⟨fun | 153 => 179 | 152 => 232 | 226 => 233 | 227 => 234 | 228 => 235 | 137 => 275 | 119 => 276 | 224 => 277 | 225 => 278 | 217 => 298 | 266 => 305 | n => n, fun | 9 => 9 | 3 => 3 | 4 => 4 | 5 => 5 | 21 => 21 | 117 => 238 | 116 => 237 | 0 => 0 | 46 => 162 | 124 => 272 | n => n, fun | n => n⟩
theorem Tryz.idxA : Go.Proofs.Lays.n153 Tryz.prog Tryz.idxA_ren := {
 mixed := by kernel_rfl
 f119 := Tryz.func276.trans (congrArg some (by kernel_rfl))
 f137 := Tryz.func275.trans (congrArg some (by kernel_rfl))
 f152 := Tryz.func232.trans (congrArg some (by kernel_rfl))
 f153 := Tryz.func179.trans (congrArg some (by kernel_rfl))
 f217 := Tryz.func298.trans (congrArg some (by kernel_rfl))
 f224 := Tryz.func277.trans (congrArg some (by kernel_rfl))
 f225 := Tryz.func278.trans (congrArg some (by kernel_rfl))
 f226 := Tryz.func233.trans (congrArg some (by kernel_rfl))
 f227 := Tryz.func234.trans (congrArg some (by kernel_rfl))
 f228 := Tryz.func235.trans (congrArg some (by kernel_rfl))
 f266 := Tryz.func305.trans (congrArg some (by kernel_rfl))
 t0 := Tryz.underlying0
 a0 := Tryz.isAgg0
 z0 := Tryz.sizeOf0
 v0 := Tryz.zeroValue0
 t3 := Tryz.underlying3
 a3 := Tryz.isAgg3
 z3 := Tryz.sizeOf3
 v3 := Tryz.zeroValue3
 t4 := Tryz.underlying4
 a4 := Tryz.isAgg4
 z4 := Tryz.sizeOf4
 v4 := Tryz.zeroValue4
 t5 := Tryz.underlying5
 a5 := Tryz.isAgg5
 z5 := Tryz.sizeOf5
 v5 := Tryz.zeroValue5
 t9 := Tryz.underlying9
 a9 := Tryz.isAgg9
 z9 := Tryz.sizeOf9
 v9 := Tryz.zeroValue9
 t21 := Tryz.underlying21
 a21 := Tryz.isAgg21
 z21 := Tryz.sizeOf21
 v21 := Tryz.zeroValue21
 t46 := Tryz.underlying162
 a46 := Tryz.isAgg162
 z46 := Tryz.sizeOf162
 v46 := Tryz.zeroValue162
 t116 := Tryz.underlying237
 a116 := Tryz.isAgg237
 z116 := Tryz.sizeOf237
 t117 := Tryz.underlying238
 a117 := Tryz.isAgg238
 z117 := Tryz.sizeOf238
 v117 := Tryz.zeroValue238
 t124 := Tryz.underlying272
 a124 := Tryz.isAgg272
 z124 := Tryz.sizeOf272
 v124 := Tryz.zeroValue272 }
end Go.Proofs
namespace Go.Proofs.YteegefnjnikngaaGreat
section
theorem UJ {c : UInt8} (h : nD c = true) : c ∉ bu := fun hm => by
 simp only [bu, List.mem_cons, List.not_mem_nil, or_false] at hm
 rcases hm with rfl | rfl | rfl | rfl <;> exact absurd h (by decide)
theorem N5 {s : ByteArray} (h : aP s.data.toList = true) : s.data.toList ≠ [] ∧ ∀ c ∈ s.data.toList, c ∉ bu := by
 generalize s.data.toList = l at h ⊢
 unfold aP at h
 have key : ∀ l : List UInt8, cR l = true → l ≠ [] ∧ ∀ c ∈ l, c ∉ bu := fun l h => by
  unfold cR at h
  simp only [Bool.and_eq_true, decide_eq_true_eq, List.all_eq_true] at h
  exact ⟨fun e => by rw [e] at h; simp at h, fun c hc => UJ (h.2 c hc)⟩
 by_cases e : l.getLast? = some 42
 ·rw [if_pos e] at h
  simp only [Bool.and_eq_true] at h
  obtain ⟨h1, h2⟩ := key _ h.1
  have hl : l ≠ [] := fun e2 => by subst e2; cases e
  refine ⟨hl, fun c hc => ?_⟩
  rw [← List.dropLast_concat_getLast hl, List.mem_append, List.mem_singleton] at hc
  rcases hc with hc | hc
  ·exact h2 c hc
  ·rw [List.getLast?_eq_some_getLast hl] at e
   have e := Option.some.inj e
   rw [hc, e]; decide
 ·rw [if_neg e] at h; exact key l h
theorem ja.ig {r : RT} (h : ja r) : jr r := fun s hs => ⟨h.A5 s hs, fun hk => N5 (h.lf s hs hk)⟩
section
variable {t : av}
theorem UK (h : aB t = 0) : qq t = txR (fZ t) ++ [59] := by unfold qq; rw [if_neg (by simp [h])]
theorem Eo (h : aB t = 0) : ∀ (d j : Nat), j ≤ d → j < t.ps.length → nw t.ps 0 j = true
 | d, j, hd, hj => by
  by_cases h0 : j = 0
  ·subst h0; exact DX 0
  ·obtain ⟨_, _, _, hok, _⟩ := aI h
   have hp := sP hok hj (by omega)
   rw [sR hok hj (by omega)]
   cases d with
   | zero => omega
   | succ d => exact Eo h d _ (by omega) (by omega)
theorem IX (h : aB t = 0) : (bz (eG t) (cB t) 0).Perm (List.range t.ps.length) := by
 have h0 := (aI h).1
 refine (List.perm_ext_iff_of_nodup (gU (dh h) (fun i _ => rE t i) h0 (Nat.le_refl _)) List.nodup_range).2 fun j => ?_
 rw [List.mem_range]
 constructor
 ·exact fG h
 ·intro hj
  refine (cV (dh h).wf h0 (Nat.le_refl _)).2 ?_
  rw [zS h _ 0 j (Nat.le_refl _) h0 hj]
  exact Eo h j j (Nat.le_refl _) hj
theorem Q7 (h : aB t = 0) : (b7 (fZ t)).Perm t.ns := by
 rw [Gu h]
 have hl := (aI h).2.2.1
 have h1 := (IX h).map (gs t.ns)
 rw [← hl, NK] at h1
 exact h1
theorem IY (h : aB t = 0) : (ey (fZ t)).Perm (mA t.ns) := (Q7 h).filter _
theorem IZ {nm : ByteArray} (h : nm.size ≠ 0) : ey (.node nm []) = [nm] := by
 unfold ey
 rw [b7, cu]
 exact List.filter_eq_self.2 fun x hx => decide_eq_true (by rw [List.mem_singleton.1 hx]; exact h)
theorem GN : ∀ a b : List UInt8, Lib.compareBytes a b ≤ 0 ↔ a ≤ b
 | [], b => by
  cases b with
  | nil => simp [Lib.compareBytes]
  | cons y b => simp [Lib.compareBytes]
 | x :: a, [] => by simp [Lib.compareBytes]
 | x :: a, y :: b => by
  rw [Lib.compareBytes, List.cons_le_cons_iff]
  have ih := GN a b
  by_cases h1 : x < y
  ·simp [h1]
  ·by_cases h2 : y < x
   ·have : x ≠ y := by rintro rfl; exact h1 h2
    simp [h1, h2, this]
   ·have : x = y := by
     apply UInt8.toNat.inj
     rw [UInt8.lt_iff_toNat_lt] at h1 h2; omega
    subst this
    simp [ih]
end
end
section
open Go.RowKit Go.Deep
end
section
def qu (s : ByteArray) : Int := match gH s.data.toList with
 | none => 3
 | some r => aB (flat r)
def nI (s : ByteArray) : av := match gH s.data.toList with
 | none => ⟨[], []⟩
 | some r => if aB (flat r) ≠ 0 then ⟨[], []⟩ else flat r
end
end Go.Proofs.YteegefnjnikngaaGreat
