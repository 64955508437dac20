/- The contract of phylotree.Print. The turns of Reroot in memory. Check, for names of any size. SharederrorClades: what its loops keep in memory. strings.IndexAny: laid Valid trees and their texts, plain: what the statements on texts, equal trees and canonical trees say. The contract of phylotree.Reroot. What Parse answers. Parse: what its loop keeps in memory. The last common ancestor of two nodes, plain. The example of chapter 31, plain: what its functions answer. -/
import Derived.Test.YtpnmblnahjjmhaaGreatQ1
import Derived.Test.YtpnmblnahjjmhaaGreatQ22
import Derived.Test.YtpnmblnahjjmhaaGreatQ23
import Derived.Test.YtpnmblnahjjmhaaGreatQ20
import Derived.Test.YtpnmblnahjjmhaaGreatQ21
import Derived.Test.YtpnmblnahjjmhaaGreatQ2
import Derived.Test.YtpnmblnahjjmhaaGreatQ19
import Derived.Shelf.SlGeneric
import Derived.Shelf.Strings.IndexAnyAll
import Derived.Ground.NamesProg
import Derived.Ground.Names2Prog
import Derived.Test.YtpnmblnahjjmhaaGreatProg
import Derived.Test.YtpnmblnahjjmhaaGreatQ10
namespace Go.Proofs.YtpnmblnahjjmhaaGreat
set_option maxRecDepth 100000
section
open Go.RowKit Go.Deep
mutual
theorem C2 {M : Nat} : ∀ r : RT, (∀ s ∈ cT r, s.size ≤ M) → (txR r).length + 1 ≤ aS r * (M + 3)
 | .node nm [], h => by
  rw [txR, aS, sizeRs]
  have h1 := h nm (by rw [cT]; simp)
  have h2 : nm.data.toList.length = nm.size := by rw [Array.length_toList]; rfl
  omega
 | .node nm (k :: ks), h => by
  have h1 := C2 k (fun s hs => h s (by rw [cT, cR]; simp [hs]))
  have h2 := GZ ks (fun s hs => h s (by rw [cT, cR]; simp [hs]))
  rw [txR, aS, sizeRs]
  simp only [List.length_cons, List.length_append, List.length_nil]
  rw [Nat.add_mul, Nat.add_mul]
  omega
theorem GZ {M : Nat} : ∀ rs : List RT, (∀ s ∈ cR rs, s.size ≤ M) → (txRs rs).length ≤ sizeRs rs * (M + 3)
 | [], _ => by rw [txRs]; exact Nat.zero_le _
 | r :: rs, h => by
  have h1 := C2 r (fun s hs => h s (by rw [cR]; simp [hs]))
  have h2 := GZ rs (fun s hs => h s (by rw [cR]; simp [hs]))
  rw [txRs, sizeRs]
  simp only [List.length_cons, List.length_append]
  rw [Nat.add_mul]
  omega
end
theorem G0 {F : bA} {n : Nat} {rk : Nat → Nat} (h : Wf F n rk) {i : Nat} (hi : i < n) : cT (bu F rk i) = (cm F rk i).map F.nm := by
 rw [rJ, tr h hi (Nat.le_refl _), List.map_map]
 refine List.map_congr_left fun z hz => ?_
 exact rK h (nO h hi (Nat.le_refl _) ((dL h hi (Nat.le_refl _)).1 hz))
theorem VK {t : aJ} (h : aK t = 0) {M : Nat} (hz : ∀ k, (gs t.ns k).size ≤ M) : (txR (gh t)).length + 1 ≤ 64 * (M + 3) := by
 obtain ⟨hp, L8, _⟩ := aP h
 have h1 := C2 (M := M) (gh t) (fun s hs => by
  unfold gh at hs
  rw [G0 (cS h).wf hp] at hs
  obtain ⟨z, _, rfl⟩ := List.mem_map.1 hs
  exact hz z)
 have h2 : aS (gh t) ≤ t.ps.length := O5 (cS h).wf hp (lD h)
 exact Nat.le_trans h1 (Nat.mul_le_mul_right _ (by omega))
def Pk (t : aJ) : Int := if aK t ≠ 0 then 1 else 0
def KC (t : aJ) : List UInt8 := if aK t ≠ 0 then [] else txR (gh t) ++ [59]
def X9 (w : World) (t : aJ) (e : Ending) (w' : World) : Prop := Up w w' ∧ e = .returned (.tuple #[.string ⟨(KC t).toArray⟩, .int .i64 (Pk t)])
set_option maxHeartbeats 4000000 in
theorem VL (S : Nat → Prop) (w : World) (v : Value) (t : aJ) (hT : aO S w v t) (hp : t.ps.length ≤ 1000000) (hn : t.ns.length ≤ 1000000) (hz : ∀ k, (gs t.ns k).size ≤ 70000) :
  Calls Tryz.prog 48 #[v] w (X9 w t) := by
 obtain ⟨P, N, rfl, hP, hN⟩ := hT
 obtain ⟨pp, pc, rfl, _, _⟩ := aC.open hP
 obtain ⟨pn, pm, rfl, _, _⟩ := aC.open hN
 have hP : an S w (.slice pp t.ps.length pc) t.ps := hP
 have hN : aG S w (.slice pn t.ns.length pm) t.ns := hN
 have ha := Up.alloc w (.cells #[.slice pp t.ps.length pc, .slice pn t.ns.length pm] 39)
 have iZ := ag (dg w (.slice pp t.ps.length pc) (.slice pn t.ns.length pm) 39)
 have eH := ag (dy w (.slice pp t.ps.length pc) (.slice pn t.ns.length pm) 39)
 have hsz : (w.alloc (.cells #[.slice pp t.ps.length pc, .slice pn t.ns.length pm] 39)).heap.size = w.heap.size + 1 := by simp
 have HU := ag ha
 have zO : Hid (aO S _ _ t) := aO.keep ⟨_, _, rfl, hP, hN⟩ (ha.kept S)
 have dG := ag hsz
 have HZ := ag hz
 have hc0 := iZ.out
 have hc1 := eH.out
 have fO := ag (yX S _ _ t zO.out hp hn hz)
 have KD : Hid (Pk t = if aK t ≠ 0 then 1 else 0) := rfl
 have Eo : Hid (KC t = if aK t ≠ 0 then [] else txR (gh t) ++ [59]) := rfl
 clear ha hP hN hsz hz
 aq Tryz.func48, Tryz.ntmps48
 aa fail
 generalize w.alloc (.cells #[.slice pp t.ps.length pc, .slice pn t.ns.length pm] 39) = w1 at *
 refine fO.out.mono ?_
 rintro e w2 ⟨rfl, aL⟩
 have aL : Up w1 w2 := aL
 have cM := ag aL
 have iD := ag (HU.out.trans aL)
 have hc0 := aL.cell iZ.out
 have hc1 := aL.cell eH.out
 clear aL fO
 by_cases he : aK t = 0
 ·obtain ⟨od, L8, hnl, hok, _⟩ := aP he
  have B9 := ag he
  rw [he]
  have zM := ag (aO.keep zO.out (cM.out.kept S))
  clear he hnl hok
  aa fail
  have hb := blk_alloc_new w2 (.cells #[.pointer none, .slice none 0 0] 135)
  have cL := Up.alloc w2 (.cells #[.pointer none, .slice none 0 0] 135)
  have qO : (w2.alloc (.cells #[.pointer none, .slice none 0 0] 135)).heap.size = w2.heap.size + 1 := World.size_alloc _ _
  have En := blk_alloc_new (w2.alloc (.cells #[.pointer none, .slice none 0 0] 135)) (.cells #[.func (.func 126) #[] #[.pointer (some ⟨w2.heap.size, 0, none⟩), .pointer (some ⟨w2.heap.size + 1, 0, none⟩)]] 136)
  have eG := Up.alloc (w2.alloc (.cells #[.pointer none, .slice none 0 0] 135)) (.cells #[.func (.func 126) #[] #[.pointer (some ⟨w2.heap.size, 0, none⟩), .pointer (some ⟨w2.heap.size + 1, 0, none⟩)]] 136)
  have hs4 : ((w2.alloc (.cells #[.pointer none, .slice none 0 0] 135)).alloc (.cells #[.func (.func 126) #[] #[.pointer (some ⟨w2.heap.size, 0, none⟩), .pointer (some ⟨w2.heap.size + 1, 0, none⟩)]] 136)).heap.size = w2.heap.size + 2 := by rw [World.size_alloc, qO]
  have hb4 := (blk_alloc_lt (w2.alloc (.cells #[.pointer none, .slice none 0 0] 135)) (.cells #[.func (.func 126) #[] #[.pointer (some ⟨w2.heap.size, 0, none⟩), .pointer (some ⟨w2.heap.size + 1, 0, none⟩)]] 136) w2.heap.size (by omega)).trans hb
  rw [qO] at En
  have Ms := (cL.trans eG).cell hc0
  have Mt := (cL.trans eG).cell hc1
  have gd := ag (cL.trans eG)
  clear hb cL eG qO hc0 hc1
  generalize (w2.alloc (.cells #[.pointer none, .slice none 0 0] 135)).alloc (.cells #[.func (.func 126) #[] #[.pointer (some ⟨w2.heap.size, 0, none⟩), .pointer (some ⟨w2.heap.size + 1, 0, none⟩)]] 136) = w4 at *
  have cU : Hid (tG w2.heap.size (w2.heap.size + 1) w4) := En
  have Ky := cU.out.cell
  have HB4 := ag hb4
  have sC := ag hs4
  clear hs4 hb4 En
  refine eE (by af) 6 (fun w' => w'.cell? ⟨w2.heap.size + 1, 0, none⟩ = some (.func (.func 126) #[] #[.pointer (some ⟨w2.heap.size, 0, none⟩), .pointer (some ⟨w2.heap.size + 1, 0, none⟩)]) ∧ w'.cell? ⟨w.heap.size, 0, none⟩ = some (.slice pp t.ps.length pc) ∧ w'.cell? ⟨w.heap.size, 1, none⟩ = some (.slice pn t.ns.length pm)) ⟨Ky, Ms, Mt⟩ (fun hS => ?_)
  simp only [List.size_toArray, List.length_cons, List.length_nil, Nat.reduceAdd, Array.replicate_succ, Array.replicate_zero, List.push_toArray, List.nil_append, List.cons_append]
  refine au.take (i := 0) (v := ?y6) rfl (by af) (fun _ _ _ h => h) (by rfl) (fun w av => ?l7) hS ?y7
  case l7 =>
   (try dsimp only at av)
   aj
   try ah rfl
  try simp only [Act.put, az, aA, aB]
  refine au.take (i := 1) (v := ?y8) rfl (by af) (fun _ _ _ h => h) (by rfl) (fun w av => ?l9) hS ?y9
  case l9 =>
   (try dsimp only at av)
   aj
   try ah rfl
  try simp only [Act.put, az, aA, aB]
  refine au.step (i := 2) rfl (by af) (fun K' hK => ?_)
  aj
  have HUD : Hid (Up w4 w4.drew) := Up.drewN w4 1
  obtain ⟨_, _, hnl, hok, _⟩ := aP B9.out
  have G1 := ag (Sm S w4.drew _ t (aO.keep zM.out ((gd.out.trans HUD.out).kept S)) (by omega) hnl hok HZ.out)
  refine G1.out.mono ?_
  rintro e w5 ⟨fS, g, A, kv, th, rfl, hF, hrow⟩
  have sg := hrow.cell (i := 0) od
  simp only [b7] at sg
  have ij := ag (HUD.out.trans fS)
  have hpos : (0 : Int) < (t.ps.length : Int) := by omega
  refine hK.out _ _ (fun _ => ⟨ij.out.cell Ky, ij.out.cell Ms, ij.out.cell Mt⟩) (fun hS => ?_)
  try simp only [az, aA, aB]
  have HF := ag hF
  have HGL := ag th
  have kF : Hid (Pk t = 0) := by rw [Hid, KD.out, if_neg (by simp [B9.out])]
  have nR : Hid (KC t = txR (gh t) ++ [59]) := by rw [Hid, Eo.out, if_neg (by simp [B9.out])]
  have iY := ag (VK B9.out HZ.out)
  have kM : Hid (Lib.IsBuilderF 135 5 w2.heap.size w2.heap.size (Lib.byteCells []) w5) := .inl ⟨Nat.le_refl _, _, (Below.block ij.out _ (by rw [sC.out]; omega)).trans HB4.out, ⟨rfl, .inl ⟨rfl, rfl⟩⟩, fun e => by cases e⟩
  have HBX5 : Hid (tG w2.heap.size (w2.heap.size + 1) w5) := (Below.block ij.out _ (by rw [sC.out]; omega)).trans cU.out
  have iT : Hid (w2.heap.size + 2 ≤ w5.heap.size) := by have := ij.out.size; rw [sC.out] at this; exact this
  have G2 := ag (Sl (base := g + 1) (n := t.ps.length) (B := w2.heap.size) (b := w2.heap.size) (fb := w2.heap.size + 1) (cS B9.out).wf (fun z _ => by have := ox t z; omega) (by have := sC.out; have h2 : w4.heap.size ≤ g := th; omega) (by omega) (cI t 0) 0 [] w5 od (Nat.le_refl _) hF HBX5.out kM.out (by
   have := iY.out
   show 0 + (txR (gh t)).length ≤ _
   omega) (by have := iT.out; omega))
  clear hnl hok hF th hrow G1 fS
  refine au.step (i := 3) rfl (by af) (fun K' hK => ?_)
  aj
  refine hK.out _ _ (fun _ => ⟨ij.out.cell Ky, ij.out.cell Ms, ij.out.cell Mt⟩) (fun hS => ?_)
  try simp only [az, aA, aB]
  refine au.step (i := 4) rfl (by af) (fun K' hK => ?_)
  aj
  refine hK.out _ _ (fun _ => ⟨ij.out.cell Ky, ij.out.cell Ms, ij.out.cell Mt⟩) (fun hS => ?_)
  try simp only [az, aA, aB]
  refine au.step (i := 5) rfl (by af) (fun K' hK => ?_)
  aj
  refine G2.out.mono ?_
  rintro e w6 ⟨rfl, h6⟩
  refine hK.out _ _ (bh (by af)) (fun hS => ?_)
  refine au.done (by af) ?_
  have KE : Hid (bu (dr t) (cI t) 0 = gh t) := rfl
  rw [List.nil_append, KE.out] at h6
  have HB6 := ag h6
  have HWB := ag (CZ w2.heap.size w2.heap.size (Lib.byteCells (txR (gh t))) 59 w6 h6.bl (by rw [Lib.byteCells_length]; have := iY.out; omega) (h6.size (by have := iT.out; omega)))
  clear h6 G2 hS hK
  aa fail
  refine HWB.out.mono ?_
  rintro e w7 ⟨rfl, h1, h2, h3⟩
  have KF := ag (HB6.out.byte (x := 59) rfl h1 h2 h3)
  have cu := ag (X3 w2.heap.size w2.heap.size (txR (gh t) ++ [59]) w7 KF.out.bl (KF.out.size (by have := iT.out; omega)))
  clear h1 h2 h3
  aa fail
  refine cu.out.mono ?_
  rintro e w8 ⟨rfl, _, h2, _⟩
  have Ya : Hid (Up w2 w8) := Below.trans (gd.out.trans ij.out) (KF.out.up.trans h2)
  clear h2
  aa fail
  pE
  exact ⟨iD.out.trans Ya.out, by rw [kF.out, nR.out]; rfl⟩
 ·have F0 : (aK t != 0) = true := by simpa using he
  have kF : Hid (Pk t = 1) := by rw [Hid, KD.out, if_pos he]
  have nR : Hid (KC t = []) := by rw [Hid, Eo.out, if_pos he]
  clear he
  generalize aK t = te at *
  aa fail
  pE
  exact ⟨iD.out, by rw [kF.out, nR.out]; rfl⟩
end
section
open Go.RowKit Go.Deep
section
variable {g n fb : Nat} {A : Nat → Nat} {kv : Nat → Value} {F : bA} {w3 wr w' : World} {f : Int}
end
end
section
open Go.RowKit Go.Deep
theorem Mu {t : aJ} (h : aK t = 0) : ∀ k, (gs t.ns k).size ≤ 70000 := fun k => by
 obtain ⟨_, _, hl, _, hne⟩ := aP h
 by_cases hk : k < t.ps.length
 ·have h1 := hne k hk
  unfold jv at h1
  split at h1
  ·split at h1
   ·omega
   ·cases h1
  ·split at h1
   ·rename_i hn
    have hsz : (gs t.ns k).data.toList.length = (gs t.ns k).size := by simp
    rw [← hsz]
    unfold bM at hn
    split at hn
    ·simp only [Bool.and_eq_true, decide_eq_true_eq] at hn
     omega
    ·unfold fA at hn
     simp only [Bool.and_eq_true, decide_eq_true_eq] at hn
     omega
   ·cases h1
 ·have : gs t.ns k = ByteArray.empty := by unfold gs; rw [List.getD_eq_getElem?_getD, List.getElem?_eq_none (by omega)]; rfl
  rw [this]; exact Nat.zero_le _
end
section
open Go.RowKit Go.Deep
section
variable {P : Program} {ops : Array Oper} {rest : List Oper} {o : Oper} {a : Act} {Q : Exit → Act → World → Prop}
theorem yh (W : World) (hgd : o.guard = none) (s x : Operand) (t : TypeId) (ho : o.op = .call { callee := .builtin .append, args := #[s, x], argTypes := #[t, t] })
  (base : Nat) (e : TypeId) (z : Value) (bytes : Nat) (ht : P.underlying t = some (.slice e)) (hinfo : (P.info? e).map (fun i => (i.zero, i.size, i.bytes)) = some (some z, 1, bytes))
  (hz1 : z.cells.size = 1) (kB : bytes ≤ 64) {v : Value} {vs : List Value} (hown : ay base e W v vs) (hs : a.eval s = v) (u : Value) (m : Nat) (hm : W.heap.size = m)
  (hx : a.eval x = .slice (some ⟨m, 0, none⟩) 1 1) (h1 : u.oneCell' = true) (k : Nat) (uZ : vs.length = k) (hn : k ≤ 1000000) (hbase : base ≤ W.heap.size)
  (h : ∀ g cap w', ay base e w' (.slice (some ⟨g, 0, none⟩) (k + 1) cap) (vs ++ [u]) → W.grownBy w' v.ownBlock → (v.ownBlock = some g ∨ W.heap.size ≤ g) → wpList P ops Q rest (a.put o.dst (.slice (some ⟨g, 0, none⟩) (k + 1) cap)) w') :
  wpList P ops Q (o :: rest) a (W.alloc (.cells #[u] e)) := by
 subst hm
 exact qa W hgd s x t ho base e z bytes ht hinfo hz1 kB hown hs u hx h1 k uZ hn hbase h
end
section
variable {w2 wr wx w' : World} {tb : Nat} {pv nv v : Value} {xs : List ByteArray}
end
section
variable {w3 wr wx w' : World} {d a : Value} {gs : List DO} {svs : List Value} {xs : List Int}
end
end Go.Proofs.YtpnmblnahjjmhaaGreat
namespace Go.Proofs
open Go.Shelf
end Go.Proofs
namespace Go.Proofs.YtpnmblnahjjmhaaGreat
section
variable {t : aJ}
theorem AG (h : aK t = 0) : ∀ (d j : Nat), j ≤ d → j < t.ps.length → dU t.ps 0 j = true
 | d, j, hd, hj => by
  by_cases h0 : j = 0
  ·subst h0; exact vL 0
  ·obtain ⟨_, _, _, hok, _⟩ := aP h
   have hp := lI hok hj (by omega)
   rw [ny hok hj (by omega)]
   cases d with
   | zero => omega
   | succ d => exact AG h d _ (by omega) (by omega)
theorem oK (h : aK t = 0) : (cm (dr t) (cI t) 0).Perm (List.range t.ps.length) := by
 have h0 := (aP h).1
 refine (List.perm_ext_iff_of_nodup (jM (cS h) (fun i _ => uR t i) h0 (Nat.le_refl _)) List.nodup_range).2 fun j => ?_
 rw [List.mem_range]
 constructor
 ·exact fc h
 ·intro hj
  refine (dL (cS h).wf h0 (Nat.le_refl _)).2 ?_
  rw [rL h _ 0 j (Nat.le_refl _) h0 hj]
  exact AG h j j (Nat.le_refl _) hj
theorem VM (h : aK t = 0) : (cT (gh t)).Perm t.ns := by
 rw [Kj h]
 have hl := (aP h).2.2.1
 have h1 := (oK h).map (gs t.ns)
 rw [← hl, R5] at h1
 exact h1
theorem vO (h : aK t = 0) : (bH (gh t)).Perm (nw t.ns) := (VM h).filter _
theorem Pm (h : aK t = 0) : (nw (iy t).ns).Perm (nw t.ns) := by
 rw [nP h]
 exact (qW (gh t)).trans (vO h)
theorem Mv {nm : ByteArray} (h : nm.size ≠ 0) : bH (.node nm []) = [nm] := by
 unfold bH
 rw [cT, cR]
 exact List.filter_eq_self.2 fun x hx => decide_eq_true (by rw [List.mem_singleton.1 hx]; exact h)
theorem Ep : ∀ (r : RT), (∀ s ∈ subR r, s.kids ≠ [] → s.nm.size = 0) → (∀ s ∈ subR r, s.kids = [] → s.nm.size ≠ 0) → ∃ l, bH r = firstR r :: l
 | .node nm [], _, h2 => ⟨[], by
  have h := h2 (.node nm []) (by rw [subR]; exact List.mem_cons_self) rfl
  rw [Mv (nm := nm) h, firstR]⟩
 | .node nm (k :: ks), h1, h2 => by
  have h0 : nm.size = 0 := h1 (.node nm (k :: ks)) (by rw [subR]; exact List.mem_cons_self) (by simp [RT.kids])
  have hk : ∀ s ∈ subR k, s ∈ subR (.node nm (k :: ks)) := fun s hs => by rw [subR, subRs]; simp [hs]
  obtain ⟨l, hl⟩ := Ep k (fun s hs => h1 s (hk s hs)) (fun s hs => h2 s (hk s hs))
  rw [fU h0, List.flatMap_cons, hl, firstR]
  exact ⟨_, rfl⟩
theorem gX.head {r : RT} (h : gX r) : ∃ l, bH r = firstR r :: l := Ep r h.uU fun s hs hk => eS (h.lf s hs hk)
end
end
section
open Go.RowKit Go.Deep
end
section
def paE (s : ByteArray) : Int := match qx s.data.toList with
 | none => 3
 | some r => aK (flat r)
def Er (s : ByteArray) : aJ := match qx s.data.toList with
 | none => ⟨[], []⟩
 | some r => if aK (flat r) ≠ 0 then ⟨[], []⟩ else flat r
end
section
open Go.RowKit Go.Deep
structure jP (base : Nat) (s : ByteArray) (R : Option RT) (w0 : World) (top k : Nat) (b : Bool) (ov : Value) (wr : World) (n : Nat) (A : Nat → Nat) (kv : Nat → Value) (F : bA) (o : Nat) (os : List Nat) (Z : List RT) (st : List (List RT)) (f : Nat) : Prop where
 fr : bZ base n A kv F wr
 a0 : A 0 = top
 zf : kQ F n (o :: os) (Z :: st)
 own : ay base 137 wr ov ((o :: os).reverse.map (b7 A))
 um : ∀ g, ov.ownBlock = some g → ∀ j, j < n → g ≠ A j
 sG : ∀ g, ov.ownBlock = some g → ∀ j, j < n → (kv j).ownBlock ≠ some g
 last : (o :: os).getLast? = some 0
 nk : n ≤ k + 1
 ol : os.length ≤ k
 Yb : b = true → Z ≠ []
 run : pz f (s.data.toList.drop k) (Z :: st) b = R
 fuel : s.size < f + k
 up : Below base w0 wr
def Ca (base : Nat) (s : ByteArray) (R : Option RT) (w0 : World) (top k : Nat) (b : Bool) (ov : Value) (wr : World) : Prop :=
 ∃ n A kv F o os Z st f, jP base s R w0 top k b ov wr n A kv F o os Z st f
section
variable {base : Nat} {s : ByteArray} {R : Option RT} {w0 wr w' : World} {top k n f o : Nat} {b : Bool} {ov : Value} {A : Nat → Nat} {kv : Nat → Value} {F : bA} {os : List Nat} {Z : List RT} {st : List (List RT)}
theorem jP.Uv (h : jP base s R w0 top k b ov wr n A kv F o os Z st f) {g : Nat} (hg : ov.ownBlock = some g) : base ≤ g ∧ g < wr.heap.size := aD h.own hg
theorem jP.row (h : jP base s R w0 top k b ov wr n A kv F o os Z st f) : ∃ g cap, ov = .slice (some ⟨g, 0, none⟩) (os.length + 1) cap ∧ os.length + 1 ≤ cap ∧ wr.cell? ⟨g, os.length, none⟩ = some (.pointer (some ⟨A o, 0, none⟩)) := by
 obtain ⟨q, cap, hv, hq⟩ := h.own.form (n := os.length + 1) (by simp)
 obtain ⟨g, rfl⟩ : ∃ g, q = some ⟨g, 0, none⟩ := by
  rcases hq with rfl | h2
  ·obtain ⟨_, h3 | ⟨g, _, _, h3, _⟩⟩ := h.own
   ·have := h3.2; simp at this
   ·rw [hv] at h3; cases h3
  ·exact h2
 have ho := h.own
 rw [hv] at ho
 have hcm : os.length + 1 ≤ cap := by
  rcases ho.2 with ⟨e, _⟩ | ⟨g2, cF, cur, e, _, _, hn, _⟩
  ·cases e
  ·have e3 : cap = cF := (Value.slice.inj e).2.2
   rw [e3]; simpa using hn
 refine ⟨g, cap, hv, hcm, (nQ ho ?_).1⟩
 rw [List.getElem?_map, List.reverse_cons, List.getElem?_append_right (by simp)]
 simp [b7]
structure Uw (base : Nat) (w0 : World) (top : Nat) (ov : Value) (n : Nat) (A' : Nat → Nat) (kv' : Nat → Value) (G : bA) (ol : List Nat) (W : World) : Prop where
 fr : bZ base (n + 1) A' kv' G W
 a0 : A' 0 = top
 own : ay base 137 W ov (ol.reverse.map (b7 A'))
 um : ∀ g, ov.ownBlock = some g → ∀ j, j < n + 1 → g ≠ A' j
 sG : ∀ g, ov.ownBlock = some g → ∀ j, j < n + 1 → (kv' j).ownBlock ≠ some g
 up : Below base w0 W
theorem jP.node (h : jP base s R w0 top k b ov wr n A kv F o os Z st f) (nm : ByteArray) {g m cap : Nat} (Gi : base ≤ wr.heap.size)
  (hv : ay base 137 w' (.slice (some ⟨g, 0, none⟩) m cap) ((F.kids o).map (b7 A) ++ [.pointer (some ⟨wr.heap.size, 0, none⟩)]))
  (hg : (wr.alloc (.cells #[.string nm, .slice none 0 0, .int .i64 0] 140)).grownBy w' (kv o).ownBlock) (hr : (kv o).ownBlock = some g ∨ wr.heap.size + 1 ≤ g) :
  ∃ A' kv', A' n = wr.heap.size ∧ Uw base w0 top ov n A' kv' (jC F n o nm) (o :: os) (w'.setCell ⟨A o, 1, none⟩ (.slice (some ⟨g, 0, none⟩) m cap)) := by
 have ho := h.zf.on
 have hon : o ≠ n := by omega
 have h1 := h.fr.Aj Gi nm 0
 have hAo : dQ A n wr.heap.size o = A o := bU _ _ hon
 have Yc : dQ kv n (.slice none 0 0) o = kv o := bU _ _ hon
 have hmap : ∀ l : List Nat, (∀ k ∈ l, k < n) → l.map (b7 (dQ A n wr.heap.size)) = l.map (b7 A) := fun l hl => by
  refine List.map_congr_left fun k hk => ?_
  have := hl k hk
  unfold b7; rw [bU _ _ (by omega)]
 have hsz : (wr.alloc (.cells #[.string nm, .slice none 0 0, .int .i64 0] 140)).heap.size = wr.heap.size + 1 := World.size_alloc _ _
 have h2 := h1.push (k := o) (c := n) (v := .slice (some ⟨g, 0, none⟩) m cap) (by omega) (by omega)
  (by
   show ay _ _ _ _ ((dQ F.kids n [] o ++ [n]).map _)
   rw [bU _ _ hon, List.map_append, hmap _ (h.fr.bF o ho)]
   show ay _ _ _ _ (_ ++ [b7 (dQ A n wr.heap.size) n])
   unfold b7; rw [bB]; exact hv) (by rw [Yc]; exact hg) (fun b2 bK => by cases bK; rw [Yc, hsz]; exact hr)
 rw [hAo] at h2
 have h0n : 0 < n := by omega
 have hovb : ∀ g2, ov.ownBlock = some g2 → w'.heap[g2]? = wr.heap[g2]? := fun g2 hg2 => by
  have hl := (h.Uv hg2).2
  rw [hg.block g2 (by rw [hsz]; omega) (fun e => h.sG g2 hg2 o ho e.symm)]
  exact blk_alloc_lt _ _ _ hl
 refine ⟨_, _, bB _ _ _, h2.XS fun j hj => ⟨rfl, rfl, ?_⟩, by rw [bU _ _ (by omega)]; exact h.a0, ?_, fun g2 hg2 j hj => ?_, fun g2 hg2 j hj => ?_, ?_⟩
 ·show dQ (dQ F.kids n []) o (F.kids o ++ [n]) j = dQ (dQ F.kids n []) o (dQ F.kids n [] o ++ [n]) j
  rw [bU F.kids _ hon]
 ·rw [hmap _ (fun k hk => h.zf.Kw k (List.mem_reverse.1 hk))]
  refine h.own.same fun g2 hg2 => ?_
  rw [blk_setCell_other _ _ _ _ (h.um g2 hg2 o ho)]
  exact hovb g2 hg2
 ·by_cases e : j = n
  ·subst e; rw [bB]; have := (h.Uv hg2).2; omega
  ·rw [bU _ _ e]; exact h.um g2 hg2 j (by omega)
 ·by_cases e : j = o
  ·subst e; rw [bB]
   intro e2
   have e2 : g = g2 := by cases e2; rfl
   rcases hr with h3 | h3
   ·exact h.sG g2 hg2 j ho (by rw [h3, e2])
   ·have := (h.Uv hg2).2; omega
  ·rw [bU _ _ e]
   by_cases e2 : j = n
   ·subst e2; rw [bB]; intro e3; cases e3
   ·rw [bU _ _ e2]; exact h.sG g2 hg2 j (by omega)
 ·have ha : Below base wr (wr.alloc (.cells #[.string nm, .slice none 0 0, .int .i64 0] 140)) := (Below.refl _ _).alloc Gi _
  have bK : Below base (wr.alloc (.cells #[.string nm, .slice none 0 0, .int .i64 0] 140)) w' := ((h.fr.own o ho).alloc _).fK hg (by rw [hsz]; omega)
  exact ((h.up.trans ha).trans bK).setCell (p := ⟨A o, 1, none⟩) (h.fr.lo o ho) _
theorem jP.store (h : jP base s R w0 top k b ov wr n A kv F o os Z st f) {ob : Obj} (hg : (wr.alloc ob).grownBy w' (kv o).ownBlock) :
  w'.cell? ⟨A o, 1, none⟩ = some (kv o) ∧ w'.frozen? ⟨A o, 1, none⟩ = false := by
 have ho := h.zf.on
 have hlt := h.fr.lt ho
 have h1 : w'.heap[A o]? = wr.heap[A o]? := by
  rw [hg.block _ (by rw [World.size_alloc]; omega) (fun e => h.fr.apart o o ho ho e.symm)]
  exact blk_alloc_lt _ _ _ hlt
 constructor
 ·simp only [World.cell?, h1]; exact h.fr.qG ho
 ·simp only [World.frozen?, h1]; exact h.fr.Fz ho 1
theorem jP.Yd (h : jP base s R w0 top k b ov wr n A kv F o os Z st f) : ((F.kids o).map (b7 A)).length = (F.kids o).length ∧ (F.kids o).length ≤ 1000000 := by
 refine ⟨List.length_map _, ?_⟩
 have := pJ (h.zf.nd o h.zf.on) (fun x hx => (h.zf.bF o h.zf.on x hx).2)
 have := h.zf.zU
 omega
theorem jP.leaf (h : jP base s R w0 top k b ov wr n A kv F o os Z st f) (hb : n < 2000) {W : World} {A' : Nat → Nat} {kv' : Nat → Value} {nm : ByteArray} {k' f' : Nat} (hk : k + 1 ≤ k') (hN : Uw base w0 top ov n A' kv' (jC F n o nm) (o :: os) W)
  (hrun : pz f' (s.data.toList.drop k') ((Z ++ [.node nm []]) :: st) true = R) (hf : s.size < f' + k') : Ca base s R w0 top k' true ov W :=
 ⟨_, _, _, _, _, _, _, _, _, ⟨hN.fr, hN.a0, h.zf.leaf nm hb, hN.own, hN.um, hN.sG, h.last, (by have := h.nk; omega), (by have := h.ol; omega), (fun _ => by simp), hrun, hf, hN.up⟩⟩
theorem jP.opened (h : jP base s R w0 top k b ov wr n A kv F o os Z st f) (hb : n < 2000) {W : World} {A' : Nat → Nat} {kv' : Nat → Value} {f' g m cap : Nat} (hN : Uw base w0 top ov n A' kv' (jC F n o ByteArray.empty) (o :: os) W) (Gi : base ≤ W.heap.size)
  (hv : ay base 137 w' (.slice (some ⟨g, 0, none⟩) m cap) ((o :: os).reverse.map (b7 A') ++ [b7 A' n])) (hg : W.grownBy w' ov.ownBlock) (hr : ov.ownBlock = some g ∨ W.heap.size ≤ g)
  (hrun : pz f' (s.data.toList.drop (k + 1)) ([] :: Z :: st) false = R) (hf : s.size < f' + (k + 1)) : Ca base s R w0 top (k + 1) false (.slice (some ⟨g, 0, none⟩) m cap) w' := by
 have hold : ∀ b2, b2 < W.heap.size → (∀ g2, ov.ownBlock = some g2 → b2 ≠ g2) → w'.heap[b2]? = W.heap[b2]? := fun b2 bK hne => hg.block b2 bK fun e => hne b2 e.symm rfl
 refine ⟨_, _, _, _, _, _, _, _, _, ⟨hN.fr.same (fun i hi => hold _ (hN.fr.lt hi) fun g2 hg2 e => hN.um g2 hg2 i hi e.symm) (fun i b2 hi bK => hold _ (hN.fr.iw hi bK).2 fun g2 hg2 e => hN.sG g2 hg2 i hi (by rw [bK, e])), hN.a0, h.zf.open hb, ?_, fun g2 hg2 j hj => ?_, fun g2 hg2 j hj => ?_, ?_, (by have := h.nk; omega), (by have := h.ol; simp; omega), (fun e => by cases e), hrun, hf, hN.up.trans (hN.own.fK hg Gi)⟩⟩
 ·rw [List.reverse_cons, List.map_append]; exact hv
 ·have hg2 : some g = some g2 := hg2
  injection hg2 with hg2; subst hg2
  rcases hr with h1 | h1
  ·exact hN.um g h1 j hj
  ·have := hN.fr.lt hj; omega
 ·have hg2 : some g = some g2 := hg2
  injection hg2 with hg2; subst hg2
  intro e
  rcases hr with h1 | h1
  ·exact hN.sG g h1 j hj e
  ·have := (hN.fr.iw hj e).2; omega
 ·rw [List.getLast?_cons_cons]; exact h.last
theorem jP.Ye {q : Nat} {Y : List RT} {st2 : List (List RT)} {vb : List Nat} (h : jP base s R w0 top k b ov wr n A kv F o (q :: vb) Z (Y :: st2) f) {g cap f' : Nat} (qz : ov = .slice (some ⟨g, 0, none⟩) (vb.length + 2) cap)
  (hrun : pz f' (s.data.toList.drop (k + 1)) ((Y ++ [.node ByteArray.empty Z]) :: st2) true = R) (hf : s.size < f' + (k + 1)) : Ca base s R w0 top (k + 1) true (.slice (some ⟨g, 0, none⟩) (vb.length + 1) cap) wr := by
 subst qz
 refine ⟨_, _, _, _, _, _, _, _, _, ⟨h.fr, h.a0, h.zf.pop, ?_, h.um, h.sG, ?_, (by have := h.nk; omega), (by have := h.ol; simp at this; omega), (fun _ => by simp), hrun, hf, h.up⟩⟩
 ·have h1 := Eh h.own (m := vb.length + 1) (by omega)
  have e : ((o :: q :: vb).reverse.map (b7 A)).take (vb.length + 1) = (q :: vb).reverse.map (b7 A) := by
   rw [List.reverse_cons, List.map_append, List.take_append_of_le_length (by simp)]
   rw [List.take_of_length_le (by simp)]
  rw [e] at h1; exact h1
 ·have := h.last
  rw [List.getLast?_cons_cons] at this; exact this
theorem jP.comma (h : jP base s R w0 top k b ov wr n A kv F o os Z st f) {f' : Nat} (hrun : pz f' (s.data.toList.drop (k + 1)) (Z :: st) false = R) (hf : s.size < f' + (k + 1)) : Ca base s R w0 top (k + 1) false ov wr :=
 ⟨_, _, _, _, _, _, _, _, _, ⟨h.fr, h.a0, h.zf, h.own, h.um, h.sG, h.last, (by have := h.nk; omega), (by have := h.ol; omega), (fun e => by cases e), hrun, hf, h.up⟩⟩
theorem jP.drew (h : jP base s R w0 top k b ov wr n A kv F o os Z st f) : jP base s R w0 top k b ov wr.drew n A kv F o os Z st f :=
 ⟨h.fr.up (Up.drewN wr 1), h.a0, h.zf, h.own.same fun _ _ => rfl, h.um, h.sG, h.last, h.nk, h.ol, h.Yb, h.run, h.fuel, h.up.drew⟩
theorem jP.Yf (h : jP base s R w0 top k b ov wr n A kv F o os Z st f) (hu : Up wr w') : jP base s R w0 top k b ov w' n A kv F o os Z st f :=
 ⟨h.fr.up hu, h.a0, h.zf, h.own.same fun _ hg => Below.block hu _ (h.Uv hg).2, h.um, h.sG, h.last, h.nk, h.ol, h.Yb, h.run, h.fuel, h.up.trans (hu.mono (Nat.le_trans (h.fr.lo 0 (by have := h.zf.on; omega)) (Nat.le_of_lt (h.fr.lt (i := 0) (by have := h.zf.on; omega)))))⟩
theorem jP.step (h : jP base s R w0 top k b ov wr n A kv F o os Z st f) (hk : k < s.size) : ∃ f' ch, f = f' + 1 ∧ s.size < f' + (k + 1) ∧ s.data.toList.drop k = ch :: s.data.toList.drop (k + 1) ∧ s[k] = ch := by
 have hf := h.fuel
 refine ⟨f - 1, s[k], by omega, by omega, ?_, rfl⟩
 have hl : k < s.data.toList.length := by rw [Array.length_toList]; exact hk
 rw [List.drop_eq_getElem_cons hl]
 congr 1
end
theorem Ss (w1 : World) (s : ByteArray) : Ca w1.heap.size s (qx s.data.toList) w1 w1.heap.size 0 false (.slice (some ⟨w1.heap.size + 1, 0, none⟩) 1 1)
  ((w1.alloc (.cells #[.string ⟨#[]⟩, .slice none 0 0, .int .i64 0] 140)).alloc (.cells #[.pointer (some ⟨w1.heap.size, 0, none⟩)] 137)) := by
 have hs1 : (w1.alloc (.cells #[.string ⟨#[]⟩, .slice none 0 0, .int .i64 0] 140)).heap.size = w1.heap.size + 1 := World.size_alloc _ _
 have h1 := ((bZ.empty w1.heap.size (fun _ => w1.heap.size) (fun _ => .slice none 0 0) ⟨fun _ => ⟨#[]⟩, fun _ => 0, fun _ => []⟩ w1).Aj (Nat.le_refl _) ⟨#[]⟩ 0).up (Up.alloc _ (.cells #[.pointer (some ⟨w1.heap.size, 0, none⟩)] 137))
 have h0 : ∀ j, j < 1 → j = 0 := fun j hj => by omega
 have hA : ∀ j, j < 0 + 1 → dQ (fun _ => w1.heap.size) 0 w1.heap.size j = w1.heap.size := fun j hj => by rw [h0 j hj, bB]
 have hown : ay w1.heap.size 137 ((w1.alloc (.cells #[.string ⟨#[]⟩, .slice none 0 0, .int .i64 0] 140)).alloc (.cells #[.pointer (some ⟨w1.heap.size, 0, none⟩)] 137)) (.slice (some ⟨w1.heap.size + 1, 0, none⟩) 1 1) (([0] : List Nat).reverse.map (b7 (dQ (fun _ => w1.heap.size) 0 w1.heap.size))) := by
  have hb := blk_alloc_new (w1.alloc (.cells #[.string ⟨#[]⟩, .slice none 0 0, .int .i64 0] 140)) (.cells #[.pointer (some ⟨w1.heap.size, 0, none⟩)] 137)
  rw [hs1] at hb
  exact ⟨rfl, .inr ⟨w1.heap.size + 1, 1, _, rfl, by omega, hb, ⟨by simp, by unfold maxLen; omega, rfl, by simp [b7, bB]⟩⟩⟩
 refine ⟨0 + 1, _, _, _, 0, [], [], [], s.data.toList.length + 1, ⟨h1, bB _ _ _, ?_, hown, fun g hg j hj => ?_, fun g hg j hj => ?_, rfl, Nat.le_refl _, Nat.zero_le _, (fun e => by cases e), rfl, ?_, ((Up.alloc w1 _).trans (Up.alloc _ _))⟩⟩
 ·refine ⟨by omega, fun i hi k hk => ?_, fun p q k hp hq _ _ => by omega, fun i hi => ?_, ⟨?_, ⟨[], ?_, rfl⟩, trivial⟩, fun o ho => by simp at ho; omega, by simp⟩
  ·rw [h0 i hi] at hk
   have hk : k ∈ dQ (fun _ => ([] : List Nat)) 0 [] 0 := hk
   rw [bB] at hk; cases hk
  ·rw [h0 i hi]
   show (dQ (fun _ => ([] : List Nat)) 0 [] 0).Nodup
   rw [bB]; exact List.nodup_nil
  ·show (dQ (fun _ => (⟨#[]⟩ : ByteArray)) 0 ⟨#[]⟩ 0).size = 0
   rw [bB]; rfl
  ·show dQ (fun _ => ([] : List Nat)) 0 [] 0 = _
   rw [bB]; rfl
 ·have hg : some (w1.heap.size + 1) = some g := hg
  injection hg with hg
  rw [hA j hj]; omega
 ·rw [h0 j hj, bB]; intro e; cases e
 ·rw [Array.length_toList]
  show s.data.size < _
  omega
end
section
section
variable {ps : List Int}
theorem Pn (hp : gx ps = true) (h : 0 < ps.length) : gi ps 0 = -1 := by
 unfold gx at hp
 have h1 := List.all_eq_true.1 hp 0 (List.mem_range.2 h)
 unfold nE at h1
 simpa using h1
end
end
section
end
end Go.Proofs.YtpnmblnahjjmhaaGreat
