/- The contract of slices.Sort at ints: the laying. The contract of layer 31's reference's .. -/
import Derived.Shelf.SlGeneric
import Derived.Shelf.SlLaysM
import Derived.Ground.SlgmProg
import Derived.Test.YtpnmblnahjjmhaaGreatProg
import Derived.Test.YtpnmblnahjjmhaaGreatQ17
import Derived.Test.YtpnmblnahjjmhaaGreatQ18
import Derived.Test.YtpnmblnahjjmhaaGreatQ13
import Derived.Test.YtpnmblnahjjmhaaGreatQ14
import Derived.Test.YtpnmblnahjjmhaaGreatQ3
import Derived.Test.YtpnmblnahjjmhaaGreatQ1
import Derived.Shelf.SortM.Plain
import Derived.Shelf.SortM.SortNone
import Derived.Sort.OwnSortedInts
import Derived.Test.YtpnmblnahjjmhaaGreatQ9
import Derived.Test.YtpnmblnahjjmhaaGreatQ16
set_option maxRecDepth 100000
namespace Go.Proofs
open Go.Shelf
def Tryz.sortZ_ren : Go.Shelf.Ren := ⟨fun | 5 => 87 | 8 => 163 | 7 => 162 | 19 => 215 | 20 => 216 | 10 => 206 | 11 => 207 | 12 => 208 | 13 => 209 | 14 => 210 | 15 => 211 | 16 => 212 | 17 => 213 | 18 => 214 | 30 => 268 | 31 => 269 | 32 => 270 | 33 => 271 | 34 => 272 | 35 => 167 | 40 => 298 | n => n, fun | 23 => 26 | 25 => 3 | 3 => 3 | 32 => 171 | 22 => 26 | 0 => 0 | 44 => 211 | 46 => 213 | 4 => 4 | 36 => 203 | 35 => 202 | 41 => 208 | 5 => 5 | 9 => 9 | 53 => 261 | 57 => 265 | 63 => 282 | 64 => 197 | n => n, fun | n => n⟩
theorem Tryz.sortZ : Go.Proofs.SlLaysM.n5 Tryz.prog Tryz.sortZ_ren := {
 mixed := by kernel_rfl
 f5 := ⟨Tryz.f87.name, by decide, Tryz.func87.trans (congrArg some (by kernel_rfl))⟩
 f7 := ⟨Tryz.f162.name, by decide, Tryz.func162.trans (congrArg some (by kernel_rfl))⟩
 f8 := Tryz.func163.trans (congrArg some (by kernel_rfl))
 f10 := ⟨Tryz.f206.name, by decide, Tryz.func206.trans (congrArg some (by kernel_rfl))⟩
 f11 := ⟨Tryz.f207.name, by decide, Tryz.func207.trans (congrArg some (by kernel_rfl))⟩
 f12 := ⟨Tryz.f208.name, by decide, Tryz.func208.trans (congrArg some (by kernel_rfl))⟩
 f13 := ⟨Tryz.f209.name, by decide, Tryz.func209.trans (congrArg some (by kernel_rfl))⟩
 f14 := ⟨Tryz.f210.name, by decide, Tryz.func210.trans (congrArg some (by kernel_rfl))⟩
 f15 := ⟨Tryz.f211.name, by decide, Tryz.func211.trans (congrArg some (by kernel_rfl))⟩
 f16 := ⟨Tryz.f212.name, by decide, Tryz.func212.trans (congrArg some (by kernel_rfl))⟩
 f17 := ⟨Tryz.f213.name, by decide, Tryz.func213.trans (congrArg some (by kernel_rfl))⟩
 f18 := ⟨Tryz.f214.name, by decide, Tryz.func214.trans (congrArg some (by kernel_rfl))⟩
 f19 := Tryz.func215.trans (congrArg some (by kernel_rfl))
 f20 := Tryz.func216.trans (congrArg some (by kernel_rfl))
 f30 := ⟨Tryz.f268.name, by decide, Tryz.func268.trans (congrArg some (by kernel_rfl))⟩
 f31 := Tryz.func269.trans (congrArg some (by kernel_rfl))
 f32 := Tryz.func270.trans (congrArg some (by kernel_rfl))
 f33 := ⟨Tryz.f271.name, by decide, Tryz.func271.trans (congrArg some (by kernel_rfl))⟩
 f34 := ⟨Tryz.f272.name, by decide, Tryz.func272.trans (congrArg some (by kernel_rfl))⟩
 f35 := ⟨Tryz.f167.name, by decide, Tryz.func167.trans (congrArg some (by kernel_rfl))⟩
 f40 := ⟨Tryz.f298.name, by decide, Tryz.func298.trans (congrArg some (by kernel_rfl))⟩
 t0 := Tryz.underlying0
 a0 := Tryz.isAgg0
 z0 := Tryz.sizeOf0
 v0 := Tryz.zeroValue0
 t3 := Tryz.underlying3
 a3 := Tryz.isAgg3
 z3 := Tryz.sizeOf3
 v3 := Tryz.zeroValue3
 t4 := Tryz.underlying4
 a4 := Tryz.isAgg4
 z4 := Tryz.sizeOf4
 v4 := Tryz.zeroValue4
 t5 := Tryz.underlying5
 a5 := Tryz.isAgg5
 z5 := Tryz.sizeOf5
 v5 := Tryz.zeroValue5
 t9 := Tryz.underlying9
 a9 := Tryz.isAgg9
 z9 := Tryz.sizeOf9
 v9 := Tryz.zeroValue9
 t22 := Tryz.underlying26
 a22 := Tryz.isAgg26
 z22 := Tryz.sizeOf26
 v22 := Tryz.zeroValue26
 t23 := Tryz.underlying26
 a23 := Tryz.isAgg26
 z23 := Tryz.sizeOf26
 v23 := Tryz.zeroValue26
 t25 := Tryz.underlying3
 a25 := Tryz.isAgg3
 z25 := Tryz.sizeOf3
 v25 := Tryz.zeroValue3
 t32 := Tryz.underlying171
 a32 := Tryz.isAgg171
 z32 := Tryz.sizeOf171
 v32 := Tryz.zeroValue171
 t35 := Tryz.underlying202
 a35 := Tryz.isAgg202
 z35 := Tryz.sizeOf202
 v35 := Tryz.zeroValue202
 t36 := Tryz.underlying203
 a36 := Tryz.isAgg203
 z36 := Tryz.sizeOf203
 v36 := Tryz.zeroValue203
 t41 := Tryz.underlying208
 a41 := Tryz.isAgg208
 z41 := Tryz.sizeOf208
 v41 := Tryz.zeroValue208
 t44 := Tryz.underlying211
 a44 := Tryz.isAgg211
 z44 := Tryz.sizeOf211
 v44 := Tryz.zeroValue211
 t46 := Tryz.underlying213
 a46 := Tryz.isAgg213
 z46 := Tryz.sizeOf213
 v46 := Tryz.zeroValue213
 t53 := Tryz.underlying261
 a53 := Tryz.isAgg261
 z53 := Tryz.sizeOf261
 v53 := Tryz.zeroValue261
 t57 := Tryz.underlying265
 a57 := Tryz.isAgg265
 z57 := Tryz.sizeOf265
 v57 := Tryz.zeroValue265
 t63 := Tryz.underlying282
 a63 := Tryz.isAgg282
 z63 := Tryz.sizeOf282
 v63 := Tryz.zeroValue282
 t64 := Tryz.underlying197
 a64 := Tryz.isAgg197
 z64 := Tryz.sizeOf197
 v64 := Tryz.zeroValue197 }
end Go.Proofs
namespace Go.Proofs.YtpnmblnahjjmhaaGreat
section
open Go.RowKit Go.Deep
def rN (t : aA) : aA := flat (ordR (fC t))
def XT (w : World) (t : aA) (e : Ending) (w' : World) : Prop :=
 Up w w' ∧ ((aB t ≠ 0 ∧ e = .returned (.tuple #[.agg #[.slice none 0 0, .slice none 0 0], .int .i64 1])) ∨ (aB t = 0 ∧ ∃ v, e = .returned (.tuple #[v, .int .i64 0]) ∧ aG (fun b => w.heap.size ≤ b) w' v (rN t)))
set_option maxHeartbeats 2000000 in
theorem R4 (S : Nat → Prop) (w : World) (v : Value) (t : aA) (hT : aG S w v t) (hp : t.ps.length ≤ 1000000) (hn : t.ns.length ≤ 1000000) (hz : ∀ k, (gs t.ns k).size ≤ 70000) : Calls Tryz.prog 119 #[v] w (XT w t) := by
 obtain ⟨P, N, rfl, hP, hN⟩ := hT
 have hu := (Up.alloc w (.cells #[P, N] 39)).trans (Up.alloc _ (.cells #[.slice none 0 0, .slice none 0 0] 39))
 have oh : aG S ((w.alloc (.cells #[P, N] 39)).alloc (.cells #[.slice none 0 0, .slice none 0 0] 39)) (.agg #[P, N]) t := aG.keep ⟨P, N, rfl, hP, hN⟩ (hu.kept _)
 have e9 := aa (Gm S _ _ t oh hp hn hz)
 have HT := aa oh
 have HU := aa hu
 have iE := aa ((Up.alloc _ (.cells #[.slice none 0 0, .slice none 0 0] 39)).cell (cB w P N 39))
 have dM := aa ((Up.alloc _ (.cells #[.slice none 0 0, .slice none 0 0] 39)).cell (cI w P N 39))
 have hc0 := iE.out
 have hc1 := dM.out
 have hrb := kA (w := w.alloc (.cells #[P, N] 39)) (P := .slice none 0 0) (N := .slice none 0 0) (T := 39)
 have hsz : ((w.alloc (.cells #[P, N] 39)).alloc (.cells #[.slice none 0 0, .slice none 0 0] 39)).heap.size = w.heap.size + 2 := by simp
 rw [World.size_alloc] at hrb
 have gu := aa hrb
 have cO := aa hsz
 clear hu oh hP hN hrb hsz
 go_enter Tryz.func119, Tryz.ntmps119
 go_wp2_with fail
 generalize (w.alloc (.cells #[P, N] 39)).alloc (.cells #[.slice none 0 0, .slice none 0 0] 39) = w1 at *
 refine e9.out.mono ?_
 rintro e w2 ⟨rfl, hb2⟩
 have aC : Up w1 w2 := hb2
 have hc0 := aC.cell iE.out
 have hc1 := aC.cell dM.out
 have zv := aa (HT.out.keep (aC.kept S))
 have gN := (Below.block aC (w.heap.size + 1) (by rw [cO.out]; omega)).trans gu.out
 have bU := aa (HU.out.trans aC)
 have xC : Hid (w.heap.size + 2 ≤ w2.heap.size) := by unfold Hid; have := aC.size; rw [cO.out] at this; exact this
 clear hb2 aC e9 HT HU iE dM gu
 by_cases he : aB t = 0
 ·have HE := aa he
  rw [he]
  have oF := aa gN
  have Ut := aa (VH S t he (bM t 0) 0 (Nat.le_refl _) (aH he).1 w2 _ zv.out)
  have hsize := DT he
  have XU := DZ (fC t)
  have HSI := aa (And.intro hsize XU)
  clear gN he hsize XU
  go_wp2_with fail
  refine Ut.out.mono ?_
  rintro e w3 ⟨bR, v3, rfl, hr3⟩
  have cR := aa bR
  have HOD := aa (OQ _ 64 (fC t) HSI.out.1 (by omega) w3 _ hr3)
  clear bR hr3 Ut
  go_wp2_with fail
  refine HOD.out.mono ?_
  rintro e w4 ⟨dL, v4, rfl, hr4⟩
  have fB := aa (cR.out.trans dL)
  have lQ := aa (RP _ w4 _ (ordR (fC t)) hr4 (by have := HSI.out; omega))
  have rO : Hid (w.heap.size + 2 ≤ w4.heap.size) := by unfold Hid; have := fB.out.size; have := xC.out; omega
  clear dL hr4 HOD cR
  go_wp2_with fail
  refine lQ.out.mono ?_
  rintro e w5 ⟨fh, _, rfl, P4, N4, rfl, nD, nE⟩
  have nD : af (fun b => w4.heap.size ≤ b) w5 P4 (rN t).ps := nD
  have nE : ay (fun b => w4.heap.size ≤ b) w5 N4 (rN t).ns := nE
  obtain ⟨pp, pc, rfl, _, _⟩ := av.open nD
  obtain ⟨np, nc, rfl, _, _⟩ := av.open nE
  have ji := (Below.block (fB.out.trans fh) (w.heap.size + 1) (by have := xC.out; omega)).trans oF.out
  have rF : w5.cell? ⟨w.heap.size + 1, 0, none⟩ = some (.slice none 0 0) := by simp [World.cell?, ji]
  have hr1 : w5.cell? ⟨w.heap.size + 1, 1, none⟩ = some (.slice none 0 0) := by simp [World.cell?, ji]
  have uv : w5.frozen? ⟨w.heap.size + 1, 0, none⟩ = false := by simp [World.frozen?, ji]
  have lB : w5.frozen? ⟨w.heap.size + 1, 1, none⟩ = false := by simp [World.frozen?, ji]
  have DJ := aa nD
  have Ow := aa nE
  have HST := aa (eM (w := w) (p := .slice pp (rN t).ps.length pc) (q := .slice np (rN t).ns.length nc) ji (by omega) (bU.out.trans (fB.out.trans fh)))
  clear nD nE fh ji lQ oF hc0 hc1
  go_wp2_with fail
  obtain ⟨s1, s2, s3, s4⟩ := HST.out
  have hs2 := xC.out
  have hs4 := rO.out
  refine ⟨rfl, .tuple #[.agg #[.slice pp (rN t).ps.length pc, .slice np (rN t).ns.length nc], .int .i64 0], by simp [results, Tryz.results119, go_sem, s2, s3], ?_⟩
  exact ⟨s1, .inr ⟨HE.out, _, rfl, _, _, rfl, (af.keep DJ.out fun b hb _ => s4 b (by omega)).sub fun b hb _ => by omega, (ay.keep Ow.out fun b hb _ => s4 b (by omega)).sub fun b hb _ => by omega⟩⟩
 ·have FW : (aB t != 0) = true := by simpa using he
  have rF : w2.cell? ⟨w.heap.size + 1, 0, none⟩ = some (.slice none 0 0) := by simp [World.cell?, gN]
  have hr1 : w2.cell? ⟨w.heap.size + 1, 1, none⟩ = some (.slice none 0 0) := by simp [World.cell?, gN]
  have uv : w2.frozen? ⟨w.heap.size + 1, 0, none⟩ = false := by simp [World.frozen?, gN]
  have lB : w2.frozen? ⟨w.heap.size + 1, 1, none⟩ = false := by simp [World.frozen?, gN]
  have HST := aa (eM (w := w) (p := .slice none 0 0) (q := .slice none 0 0) gN (by omega) bU.out)
  have HE := aa he
  clear he gN hc0 hc1
  generalize aB t = te at FW ⊢
  go_wp2_with fail
  obtain ⟨s1, s2, s3, s4⟩ := HST.out
  refine ⟨rfl, .tuple #[.agg #[.slice none 0 0, .slice none 0 0], .int .i64 1], by simp [results, Tryz.results119, go_sem, s2, s3], ?_⟩
  exact ⟨s1, .inl ⟨HE.out, rfl⟩⟩
end
section
section
variable {names : List ByteArray} {l : List DF}
theorem R5 (names : List ByteArray) : (List.range names.length).map (gs names) = names := by
 refine List.ext_getElem (by simp) fun i h1 h2 => ?_
 simp [gs, h2]
end
end
section
open Go.RowKit Go.Deep
section
variable {P : Program} {ops : Array Oper} {rest : List Oper} {o : Oper} {a : Act} {Q : Exit → Act → World → Prop}
end
end
section
theorem JG {l : List (ByteArray × Value)} {k j : ByteArray} {v : Value} : (rM l k v).lookup j = if j = k then some v else l.lookup j := by
 unfold rM
 split
 ·rename_i h
  have h0 : l.lookup k = none := by simpa using h
  rw [List.lookup_append]
  by_cases e : j = k
  ·subst e; rw [if_pos rfl, h0]; simp [List.lookup, oH]
  ·rw [if_neg e]
   have : List.lookup j [(k, v)] = none := by simp [List.lookup, qz e]
   rw [this]; simp
 ·rename_i h
  have h0 : (l.lookup k).isSome := by
   cases hl : l.lookup k with
   | none => rw [hl] at h; exact absurd rfl h
   | some x => rfl
  clear h
  induction l with
  | nil => cases h0
  | cons y l ih =>
   obtain ⟨y1, y2⟩ := y
   rw [List.map_cons]
   by_cases e1 : y1 = k
   ·subst e1
    rw [if_pos rfl, List.lookup_cons]
    by_cases e : j = y1
    ·subst e; rw [oH, if_pos rfl]
    ·rw [qz e, if_neg e, List.lookup_cons, qz e]
     have hm : ∀ l : List (ByteArray × Value), List.lookup j (l.map fun x => if x.1 = y1 then (y1, v) else x) = List.lookup j l := by
      intro l
      induction l with
      | nil => rfl
      | cons z l ihl =>
       obtain ⟨z1, z2⟩ := z
       rw [List.map_cons]
       by_cases ez : z1 = y1
       ·subst ez; rw [if_pos rfl, List.lookup_cons, qz e, List.lookup_cons, qz e]; exact ihl
       ·rw [if_neg ez, List.lookup_cons, List.lookup_cons, ihl]
     exact hm l
   ·rw [if_neg e1, List.lookup_cons, List.lookup_cons]
    rw [List.lookup_cons, qz (fun h => e1 h.symm)] at h0
    by_cases e : j = y1
    ·subst e; rw [oH, if_neg e1]
    ·rw [qz e]; exact ih h0
end
section
open Go.RowKit Go.Deep
end
section
open Go.RowKit Go.Shelf Go.Deep
section
variable {P : Program} {C : World → Prop}
end
end
section
open Go.RowKit Go.Shelf Go.Deep Go.Sort
def nP (xs : List Int) : List Int := xs.mergeSort fun x y => decide (x ≤ y)
theorem pM (xs : List Int) : (nP xs).length = xs.length := List.length_mergeSort _
end
section
section
variable {F G : aT} {n : Nat} {rk : Nat → Nat}
theorem D4 (h : Wf F n rk) {i : Nat} (hi : i < n) (h0 : rk i ≤ 0) : F.kids i = [] := by
 cases hk : F.kids i with
 | nil => rfl
 | cons k l => have := (h.kid i hi k (by rw [hk]; simp)).2; omega
theorem R6 (hF : Wf F n rk) (hG : Wf G n rk) : ∀ {d c : Nat}, c < n → rk c ≤ d → (∀ z, bK F rk c z = true → G.kids z = F.kids z) → ∀ z, bK G rk c z = bK F rk c z := by
 intro d
 induction d with
 | zero =>
  intro c hc hd hz z
  rw [gX hF hc, gX hG hc, D4 hF hc hd, D4 hG hc hd]; rfl
 | succ d ih =>
  intro c hc hd hz z
  rw [gX hF hc, gX hG hc, hz c (iK hF hc)]
  congr 1
  rw [Bool.eq_iff_iff, List.any_eq_true, List.any_eq_true]
  have key : ∀ k ∈ F.kids c, bK G rk k z = bK F rk k z := fun k hk => by
   have hkk := hF.kid c hc k hk
   exact ih hkk.1 (by omega) (fun y hy => hz y (mA hF hc hk hy)) z
  constructor
  ·rintro ⟨k, hk, e⟩; exact ⟨k, hk, by rw [← key k hk]; exact e⟩
  ·rintro ⟨k, hk, e⟩; exact ⟨k, hk, by rw [key k hk]; exact e⟩
end
end
section
open Go.RowKit Go.Deep
theorem Gu : ∀ a b : List UInt8, Op.bytesLess a b = decide (Lib.compareBytes a b < 0)
 | [], [] => rfl
 | [], _ :: _ => rfl
 | _ :: _, [] => rfl
 | a :: x, b :: y => by
  rw [Op.bytesLess, Lib.compareBytes, Gu x y]
  by_cases h : a < b
  ·simp [h]
  ·by_cases h2 : b < a
   ·have : a ≠ b := by rintro rfl; exact h h2
    simp [h, h2, this]
   ·have : a = b := by
     apply UInt8.toNat.inj
     rw [UInt8.lt_iff_toNat_lt] at h h2; omega
    subst this
    simp [h]
theorem Kq (a b : ByteArray) : xF a b = decide (cu a b < 0) := by
 unfold xF cu; rw [Gu, Lib.toList_data, Lib.toList_data]
theorem mD (a b : ByteArray) : iX a b = if cu a b ≤ 0 then a else b := by
 unfold iX
 rw [Kq]
 by_cases h : a.toList = b.toList
 ·have e : a = b := ua (by rw [← Lib.toList_data, ← Lib.toList_data, h])
  subst e
  simp [Dm]
 ·have e : cu a b ≠ 0 := fun q => h (by rw [gQ q])
  by_cases h1 : cu a b ≤ 0
  ·rw [if_pos h1, if_pos]; simp; left; omega
  ·rw [if_neg h1, if_neg]; simp [h]; omega
theorem l9 {a b c : ByteArray} (h : cu a b ≤ 0) (h' : cu b c ≤ 0) : cu a c ≤ 0 := by
 by_cases h1 : cu a b = 0
 ·rw [gQ h1]; exact h'
 ·by_cases h2 : cu b c = 0
  ·rw [← gQ h2]; exact h
  ·have := qj (a := a) (b := b) (c := c) (by omega) (by omega); omega
theorem Gw {s a b : ByteArray} (h : cu a b ≤ 0) : iX (iX s a) b = iX s a := by
 rw [mD s a]
 split
 ·rename_i h1; rw [mD, if_pos (l9 h1 h)]
 ·rw [mD, if_pos h]
theorem Gx {s a b : ByteArray} (h : ¬ cu a b ≤ 0) : iX (iX s a) b = iX s b := by
 have hb := gP a b
 rw [mD s a]
 split
 ·rfl
 ·rename_i h1
  rw [mD a b, if_neg h, mD s b, if_neg]
  intro q
  exact h1 (l9 q (by omega))
def hdMin (s : ByteArray) : List RT → ByteArray
 | [] => s
 | b :: _ => iX s (firstR b)
theorem OY (s : ByteArray) (a : RT) : ∀ l, hdMin s (insR a l) = hdMin (iX s (firstR a)) l
 | [] => rfl
 | b :: l => by
  rw [insR]
  split
  ·rename_i h; show iX s _ = iX (iX s _) _; rw [Gw h]
  ·rename_i h; show iX s _ = iX (iX s _) _; rw [Gx h]
mutual
theorem qB : ∀ r : RT, lstR r = firstR (sortR r)
 | .node nm [] => by rw [lstR, sortR, dw, firstR]
 | .node nm (k :: ks) => by
  rw [lstR, zB ks, qB k, sortR, dw]
  cases h : dw ks with
  | nil => rfl
  | cons b l =>
   rw [insR]
   show iX _ _ = _
   rw [mD]
   split
   ·rw [firstR]
   ·rw [firstR]
theorem zB : ∀ (rs : List RT) (s : ByteArray), lstRs s rs = hdMin s (dw rs)
 | [], s => by rw [lstRs, dw]; rfl
 | r :: rs, s => by rw [lstRs, zB rs, qB r, dw, OY]
end
theorem Gy {s : ByteArray} {o : RT} (hs : s = firstR o) : ∀ {l : List RT}, (∀ b ∈ l, lstR b = firstR b) → oG s o l = insR o l
 | [], _ => rfl
 | b :: l, h => by
  have hb := h b (by simp)
  have ha := gP (firstR b) (firstR o)
  have ih := Gy hs (l := l) fun q hq => h q (by simp [hq])
  unfold oG at ih ⊢
  rw [posK, insR, hb, Kq, hs]
  by_cases e : cu (firstR o) (firstR b) ≤ 0
  ·rw [if_pos e, if_neg (by simp; omega)]; rfl
  ·rw [if_neg e, if_pos (by simp; omega), List.take_succ_cons, List.drop_succ_cons, List.cons_append, ← hs, ih]
theorem xO {a b : RT} (h : firstR a ≠ firstR b) : ∀ l, insR a (insR b l) = insR b (insR a l)
 | [] => by
  have h1 := gP (firstR a) (firstR b)
  have h2 : cu (firstR a) (firstR b) ≠ 0 := fun q => h (gQ q)
  simp only [insR]
  by_cases e : cu (firstR a) (firstR b) ≤ 0
  ·rw [if_pos e, if_neg (by omega)]
  ·rw [if_neg e, if_pos (by omega)]
 | c :: l => by
  have h1 := gP (firstR a) (firstR b)
  have h2 : cu (firstR a) (firstR b) ≠ 0 := fun q => h (gQ q)
  by_cases ea : cu (firstR a) (firstR c) ≤ 0
  ·by_cases eb : cu (firstR b) (firstR c) ≤ 0
   ·by_cases e : cu (firstR a) (firstR b) ≤ 0
    ·have e' : ¬ cu (firstR b) (firstR a) ≤ 0 := by omega
     simp only [insR, ea, eb, e, e', if_true, if_false]
    ·have e' : cu (firstR b) (firstR a) ≤ 0 := by omega
     simp only [insR, ea, eb, e, e', if_true, if_false]
   ·have e' : ¬ cu (firstR b) (firstR a) ≤ 0 := fun q => eb (l9 q ea)
    simp only [insR, ea, eb, e', if_true, if_false]
  ·by_cases eb : cu (firstR b) (firstR c) ≤ 0
   ·have e' : ¬ cu (firstR a) (firstR b) ≤ 0 := fun q => ea (l9 q eb)
    simp only [insR, ea, eb, e', if_true, if_false]
   ·simp only [insR, ea, eb, if_false]
    rw [xO h l]
theorem Gz {a x : RT} : ∀ {l : List RT}, x ∈ insR a l ↔ x = a ∨ x ∈ l
 | [] => by simp [insR]
 | b :: l => by
  rw [insR]
  split
  ·simp
  ·rw [List.mem_cons, Gz (l := l), List.mem_cons]
   constructor
   ·rintro (h | h | h) <;> simp [h]
   ·rintro (h | h | h) <;> simp [h]
def Dst (r : RT) : Prop := ∀ s ∈ subR r, (s.kids.map fun k => firstR (sortR k)).Nodup
def foldI (acc : List RT) : List RT → List RT
 | [] => acc
 | c :: cs => insR (sortR c) (foldI acc cs)
theorem D5 {a : RT} : ∀ (cs acc : List RT), (∀ c ∈ cs, firstR a ≠ firstR (sortR c)) → foldI (insR a acc) cs = insR a (foldI acc cs)
 | [], _, _ => rfl
 | c :: cs, acc, h => by
  rw [foldI, foldI, D5 cs acc (fun q hq => h q (by simp [hq])), xO (h c (by simp))]
theorem D6 : ∀ cs : List RT, foldI [] cs = dw cs
 | [] => by rw [foldI, dw]
 | c :: cs => by rw [foldI, dw, D6 cs]
mutual
theorem GA : ∀ r : RT, Dst r → ordR r = sortR r
 | .node nm ks, h => by
  have h0 := h (.node nm ks) (by rw [subR]; simp)
  rw [ordR, sortR, D7 ks [] (fun s hs => h s (by rw [subR]; simp [hs])) h0 (by simp), D6]
theorem D7 : ∀ (cs acc : List RT), (∀ s ∈ subRs cs, (s.kids.map fun k => firstR (sortR k)).Nodup) → (cs.map fun k => firstR (sortR k)).Nodup → (∀ b ∈ acc, lstR b = firstR b) → eB acc cs = foldI acc cs
 | [], acc, _, _, _ => by rw [eB, foldI]
 | c :: cs, acc, h, hn, ha => by
  have hc := GA c (fun s hs => h s (by rw [subRs]; simp [hs]))
  have hl : lstR (sortR c) = firstR (sortR c) := by rw [qB, Bl]
  rw [List.map_cons, List.nodup_cons] at hn
  rw [eB, hc, Gy (qB c) ha, D7 cs _ (fun s hs => h s (by rw [subRs]; simp [hs])) hn.2 (fun b hb => by
   rcases Gz.1 hb with rfl | hb
   ·exact hl
   ·exact ha b hb), foldI, D5 cs acc]
  intro q hq e
  exact hn.1 (List.mem_map.2 ⟨q, hq, e.symm⟩)
end
mutual
theorem GC : ∀ (r s : RT), s ∈ subR r → (cm s).Sublist (cm r)
 | .node nm ks, s, h => by
  rw [subR, List.mem_cons] at h
  rcases h with rfl | h
  ·exact List.Sublist.refl _
  ·rw [cm]; exact (D8 ks s h).trans (List.sublist_cons_self _ _)
theorem D8 : ∀ (rs : List RT) (s : RT), s ∈ subRs rs → (cm s).Sublist (b7 rs)
 | [], s, h => by simp [subRs] at h
 | r :: rs, s, h => by
  rw [subRs, List.mem_append] at h
  rw [b7]
  rcases h with h | h
  ·exact (GC r s h).trans (List.sublist_append_left _ _)
  ·exact (D8 rs s h).trans (List.sublist_append_right _ _)
end
theorem bZ {r s : RT} (h : s ∈ subR r) : (aZ s).Sublist (aZ r) := (GC r s h).filter _
theorem bI (r : RT) : r ∈ subR r := by cases r; rw [subR]; simp
theorem qC : ∀ r : RT, (∀ s ∈ subR r, s.kids = [] → bq s.nm.data.toList = true) → firstR r ∈ aZ r
 | .node nm [], h => by
  have h1 : bq nm.data.toList = true := h (.node nm []) (bI _) rfl
  rw [iM (dS h1), firstR]; simp
 | .node nm (k :: ks), h => by
  have hk : ∀ s ∈ subR k, s ∈ subR (.node nm (k :: ks)) := fun s hs => by rw [subR, subRs]; simp [hs]
  rw [firstR]
  exact (bZ (hk k (bI k))).subset (qC k fun s hs => h s (hk s hs))
theorem xP {k : RT} : ∀ {ks : List RT}, k ∈ ks → ∀ s ∈ subR k, s ∈ subRs ks
 | b :: ks, h, s, hs => by
  rw [subRs, List.mem_append]
  rcases List.mem_cons.1 h with rfl | h
  ·exact .inl hs
  ·exact .inr (xP h s hs)
mutual
theorem fZ : ∀ (r : RT) {s u : RT}, s ∈ subR r → u ∈ subR s → u ∈ subR r
 | .node nm ks, s, u, h, hu => by
  rw [subR, List.mem_cons] at h
  rcases h with rfl | h
  ·exact hu
  ·rw [subR]; exact List.mem_cons_of_mem _ (zC ks h hu)
theorem zC : ∀ (rs : List RT) {s u : RT}, s ∈ subRs rs → u ∈ subR s → u ∈ subRs rs
 | [], s, u, h, _ => by simp [subRs] at h
 | r :: rs, s, u, h, hu => by
  rw [subRs, List.mem_append] at h ⊢
  rcases h with h | h
  ·exact .inl (fZ r h hu)
  ·exact .inr (zC rs h hu)
end
theorem Ag {r : RT} (h : gC r) : Dst r := by
 intro s hs
 have dZ : (aZ s).Nodup := (bZ hs).nodup h.nd
 obtain ⟨nm, ks⟩ := s
 show (ks.map _).Nodup
 by_cases hk : ks = []
 ·subst hk; simp
 ·rw [fo (nm := nm) (ks := ks) (h.uz (.node nm ks) hs hk)] at dZ
  have hmem : ∀ k ∈ ks, firstR (sortR k) ∈ aZ k := fun k hk => (qu k).mem_iff.1 (qC _ fun q hq Uu => by
   obtain ⟨x, hx, rfl⟩ := List.mem_map.1 ((jx k).mem_iff.1 hq)
   rw [u6] at Uu
   rw [u7]
   exact h.lf x (fZ r hs (by rw [subR]; exact List.mem_cons_of_mem _ (xP hk x hx))) (ve.1 Uu))
  clear hs hk
  induction ks with
  | nil => simp
  | cons k ks ih =>
   rw [List.flatMap_cons, List.nodup_append] at dZ
   rw [List.map_cons, List.nodup_cons]
   refine ⟨fun hm => ?_, ih dZ.2.1 fun q hq => hmem q (by simp [hq])⟩
   obtain ⟨q, hq, e⟩ := List.mem_map.1 hm
   exact dZ.2.2 _ (hmem k (by simp)) _ (List.mem_flatMap.2 ⟨q, hq, hmem q (by simp [hq])⟩) e.symm
theorem OZ {t : aA} (h : aB t = 0) : rN t = gM t := by
 unfold rN
 rw [GA _ (Ag (kE h)), mR h]
end
section
open Go.RowKit Go.Deep
end
section
end
section
section
variable {names : List ByteArray} {l : List DF}
end
end
section
open Go.RowKit Go.Shelf Go.Deep
end
section
open Go.RowKit Go.Deep
end
section
open Go.RowKit Go.Deep
section
variable {P : Program} {ops : Array Oper} {rest : List Oper} {o : Oper} {a : Act} {Q : Exit → Act → World → Prop}
theorem oZ (W : World) (hgd : o.guard = none) (s x : Operand) (t : TypeId) (ho : o.op = .call { callee := .builtin .append, args := #[s, x], argTypes := #[t, t] })
  (base : Nat) (e : TypeId) (z : Value) (bytes : Nat) (ht : P.underlying t = some (.slice e)) (hinfo : (P.info? e).map (fun i => (i.zero, i.size, i.bytes)) = some (some z, 1, bytes))
  (hz1 : z.cells.size = 1) (jJ : bytes ≤ 64) {v : Value} {vs : List Value} (hown : ah base e W v vs) (hs : a.eval s = v) (u : Value)
  (hx : a.eval x = .slice (some ⟨W.heap.size, 0, none⟩) 1 1) (h1 : u.oneCell' = true) (k : Nat) (uD : vs.length = k) (hn : k ≤ 1000000) (hbase : base ≤ W.heap.size)
  (h : ∀ g cap w', ah base e w' (.slice (some ⟨g, 0, none⟩) (k + 1) cap) (vs ++ [u]) → W.grownBy w' v.ownBlock → (v.ownBlock = some g ∨ W.heap.size ≤ g) → wpList P ops Q rest (a.put o.dst (.slice (some ⟨g, 0, none⟩) (k + 1) cap)) w') :
  wpList P ops Q (o :: rest) a (W.alloc (.cells #[u] e)) := by
 subst uD
 obtain ⟨i, hi, hzz⟩ := Option.map_eq_some_iff.1 hinfo
 simp only [Prod.mk.injEq] at hzz
 obtain ⟨hz, hs1, hb⟩ := hzz
 refine wpList_append_lies _ hgd s x t ho base e i z 1 bytes ht hi hz hs1 hb hz1 (by omega) v vs.length vs hs (hown.alloc _) ⟨W.heap.size, 0, none⟩ 1 1 [u] hx rfl (cell_one_new _ _ _) (by simpa using h1) (by omega)
  (by unfold maxLen; omega) ?_ (by simp; omega) _ rfl fun g cap w' h2 h3 h4 _ => h g cap w' ?_ (oU h3) (h4.imp id fun e => by rw [e, World.size_alloc]; omega)
 ·have : (vs.length + 1) * bytes ≤ (vs.length + 1) * 64 := Nat.mul_le_mul_left _ jJ
  omega
 ·unfold ah; rw [List.length_append]; exact h2
end
section
variable {n base : Nat} {A : Nat → Nat} {kv : Nat → Value} {F : aT} {w w' w2 : World} {P : Nat → Bool} {rk : Nat → Nat}
theorem bB.XV {G : aT} (h : bB base n A kv F w) (e : ∀ j, j < n → G.nm j = F.nm j ∧ G.old j = F.old j ∧ G.kids j = F.kids j) : bB base n A kv G w :=
 ⟨fun i hi => by rw [(e i hi).1, (e i hi).2.1]; exact h.node i hi, h.lo, h.inj, fun i hi => by rw [(e i hi).2.2]; exact h.own i hi, h.apart, h.alone, fun i hi => by rw [(e i hi).2.2]; exact h.kid i hi⟩
end
end
end Go.Proofs.YtpnmblnahjjmhaaGreat
