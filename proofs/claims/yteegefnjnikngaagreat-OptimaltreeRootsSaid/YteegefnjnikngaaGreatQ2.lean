/- Contracts of the library that the kit lays: strings.Compare, strings.IndexByte. Plain: .. -/
import Derived.Shelf.Small.Strs
import Derived.Test.YteegefnjnikngaaGreatProg
import Derived.Shelf.SlGeneric
import Derived.Shelf.SlSortCmp.NoneTotal
import Derived.Shelf.Strings.BuilderK
import Derived.Ground.NamesProg
import Derived.Ground.Names2Prog
import Derived.Shelf.Lays
import Derived.Shelf.Sort.Plain
import Derived.Shelf.SlLaysM
import Derived.Ground.SlgmProg
import Derived.Shelf.Strings.IndexAnyAll
import Derived.Shelf.Slices.SearchI
import Derived.Shelf.Bits.Mul64
import Derived.Shelf.SlSortCmp.WholeK
import Derived.Ground.SlsfProg
import Derived.Test.YteegefnjnikngaaGreatQ1
import Derived.WalkKit
import Derived.WalkSpells
import Derived.WalkLawsBesides
import Derived.Deep.OwnRows
import Derived.Deep.QuietTactic
import Derived.BigQuiet
import Derived.Lib.Hide
set_option maxRecDepth 100000
namespace Go.Proofs
open Go.Shelf
def Tryz.lays106_ren : Go.Shelf.Ren := ⟨fun | 106 => 223 | 213 => 268 | 265 => 297 | n => n, fun | 9 => 9 | 3 => 3 | n => n, fun | n => n⟩
theorem Tryz.lays106 : Go.Proofs.Lays.n106 Tryz.prog Tryz.lays106_ren := {
 mixed := by kernel_rfl
 f106 := Tryz.func223.trans (congrArg some (by kernel_rfl))
 f213 := Tryz.func268.trans (congrArg some (by kernel_rfl))
 f265 := Tryz.func297.trans (congrArg some (by kernel_rfl))
 t3 := Tryz.underlying3
 a3 := Tryz.isAgg3
 z3 := Tryz.sizeOf3
 v3 := Tryz.zeroValue3
 t9 := Tryz.underlying9
 a9 := Tryz.isAgg9
 z9 := Tryz.sizeOf9
 v9 := Tryz.zeroValue9 }
open Go.RowKit in
theorem Tryz.strings_Compare (a b : ByteArray) (w : World) :
  Calls Tryz.prog 223 #[.string a, .string b] w fun e w' => e = .returned (.int .i64 (Lib.compareBytes a.data.toList b.data.toList)) ∧ w' = w := Any.strings_Compare Tryz.lays106 a b w
def Tryz.lays137_ren : Go.Shelf.Ren := ⟨fun | 137 => 275 | 217 => 298 | 266 => 305 | n => n, fun | 9 => 9 | 5 => 5 | 3 => 3 | n => n, fun | n => n⟩
theorem Tryz.lays137 : Go.Proofs.Lays.n137 Tryz.prog Tryz.lays137_ren := {
 mixed := by kernel_rfl
 f137 := Tryz.func275.trans (congrArg some (by kernel_rfl))
 f217 := Tryz.func298.trans (congrArg some (by kernel_rfl))
 f266 := Tryz.func305.trans (congrArg some (by kernel_rfl))
 t3 := Tryz.underlying3
 a3 := Tryz.isAgg3
 z3 := Tryz.sizeOf3
 v3 := Tryz.zeroValue3
 t5 := Tryz.underlying5
 a5 := Tryz.isAgg5
 z5 := Tryz.sizeOf5
 v5 := Tryz.zeroValue5
 t9 := Tryz.underlying9
 a9 := Tryz.isAgg9
 z9 := Tryz.sizeOf9
 v9 := Tryz.zeroValue9 }
open Go.RowKit in
theorem Tryz.strings_IndexByte (s : ByteArray) (c : Int) (w : World) :
  Calls Tryz.prog 275 #[.string s, .int .u8 c] w fun e w' => e = .returned (.int .i64 (Lib.indexByte s.data.toList c.toNat.toUInt8)) ∧ w' = w := Any.strings_IndexByte Tryz.lays137 s c w
end Go.Proofs
namespace Go.Proofs.YteegefnjnikngaaGreat
inductive BT (α : Type) where
 | leaf (x : α)
 | node (a b : BT α)
namespace BT
def map {α β : Type} (f : α → β) : BT α → BT β
 | leaf x => leaf (f x)
 | node a b => node (map f a) (map f b)
def gT {α : Type} : BT α → List α
 | leaf x => [x]
 | node a b => gT a ++ gT b
inductive Gj {α : Type} : BT α → BT α → Prop
 | leaf (x : α) : Gj (leaf x) (leaf x)
 | node {a a' b b' : BT α} : Gj a a' → Gj b b' → Gj (node a b) (node a' b')
 | swap {a a' b b' : BT α} : Gj a a' → Gj b b' → Gj (node a b) (node b' a')
end BT
section
variable {α β : Type} [Inhabited α] [Inhabited β]
def bB (p : Nat → Bool) (L : List α) (n : Nat) : List α := ((List.range n).filter p).map fun i => L.getD i default
theorem iQ (p : Nat → Bool) (L : List α) (n : Nat) : bB p L (n + 1) = bB p L n ++ if p n then [L.getD n default] else [] := by
 unfold bB
 rw [List.range_succ, List.filter_append, List.map_append]
 congr 1
 cases h : p n <;> simp [h]
theorem x5 (f : α → β) (p : Nat → Bool) (L : List α) : ∀ {n : Nat}, n ≤ L.length → bB p (L.map f) n = (bB p L n).map f
 | 0, _ => rfl
 | n + 1, h => by
  rw [iQ, iQ, List.map_append, x5 f p L (by omega)]
  congr 1
  split
  ·have : n < L.length := h
   simp [this]
  ·rfl
theorem uy (p : Nat → Bool) (L : List α) : ∀ {n : Nat}, n ≤ L.length → (bB p L n ++ bB (fun i => !p i) L n).Perm (L.take n)
 | 0, _ => by simp [bB]
 | n + 1, h => by
  have hn : n < L.length := h
  have ih := uy p L (n := n) (by omega)
  rw [iQ, iQ, List.take_succ_eq_append_getElem hn]
  have hg : L.getD n default = L[n] := by simp [hn]
  rw [hg]
  cases hp : p n
  ·simp only [Bool.false_eq_true, if_false, List.append_nil, Bool.not_false, if_true]
   rw [← List.append_assoc]
   exact ih.append_right _
  ·simp only [if_true, Bool.not_true, Bool.false_eq_true, if_false, List.append_nil]
   refine List.Perm.trans ?_ (ih.append_right _)
   rw [List.append_assoc, List.append_assoc]
   exact List.Perm.append_left _ List.perm_append_comm
theorem Eb {p : Nat → Bool} {L : List α} {n : Nat} {x : α} : x ∈ bB p L n ↔ ∃ i, i < n ∧ p i = true ∧ L.getD i default = x := by
 unfold bB
 rw [List.mem_map]
 constructor
 ·rintro ⟨i, hi, h⟩
  rw [List.mem_filter, List.mem_range] at hi
  exact ⟨i, hi.1, hi.2, h⟩
 ·rintro ⟨i, h1, h2, h3⟩
  exact ⟨i, List.mem_filter.2 ⟨List.mem_range.2 h1, h2⟩, h3⟩
theorem qb {p q : Nat → Bool} {L : List α} {n : Nat} (h : ∀ i, i < n → p i = q i) : bB p L n = bB q L n := by
 unfold bB
 congr 1
 exact List.filter_congr fun i hi => h i (List.mem_range.1 hi)
theorem nj (p : Nat → Bool) (L : List α) (n : Nat) : (bB p L n).length ≤ n := by
 unfold bB
 rw [List.length_map]
 exact Nat.le_trans (List.length_filter_le _ _) (by simp)
def rt : Nat → List α → List (BT α)
 | 0, _ => []
 | _ + 1, [] => []
 | _ + 1, [x] => [.leaf x]
 | d + 1, x :: y :: L => (List.range' 1 (2 ^ (y :: L).length - 1)).flatMap fun bits =>
   (rt d (x :: bB (fun i => !bits.testBit i) (y :: L) (y :: L).length)).flatMap fun a =>
    (rt d (bB (fun i => bits.testBit i) (y :: L) (y :: L).length)).map fun b => .node a b
def rf : Nat → List α → List (BT α)
 | 0, _ => []
 | _ + 1, [] => []
 | _ + 1, [x] => [.leaf x]
 | d + 1, x :: y :: L => (List.range (2 ^ (y :: L).length - 1)).flatMap fun bits =>
   (rf d (x :: bB (fun i => bits.testBit i) (y :: L) (y :: L).length)).flatMap fun a =>
    (rf d (bB (fun i => !bits.testBit i) (y :: L) (y :: L).length)).map fun b => .node a b
theorem qR {γ δ : Type} {f g : γ → List δ} : ∀ {l : List γ}, (∀ a ∈ l, (f a).Perm (g a)) → (l.flatMap f).Perm (l.flatMap g)
 | [], _ => by simp
 | a :: l, h => by
  rw [List.flatMap_cons, List.flatMap_cons]
  exact (h a (by simp)).append (qR fun b hb => h b (by simp [hb]))
theorem xu {γ δ : Type} {f : γ → List δ} {l l' : List γ} (h : l.Perm l') : (l.flatMap f).Perm (l'.flatMap f) := by
 induction h with
 | nil => exact List.Perm.refl _
 | cons x _ ih => rw [List.flatMap_cons, List.flatMap_cons]; exact ih.append_left _
 | swap x y l =>
  simp only [List.flatMap_cons]
  rw [← List.append_assoc, ← List.append_assoc]
  exact List.perm_append_comm.append_right _
 | trans _ _ h1 h2 => exact h1.trans h2
theorem Og (m : Nat) : (List.range' 1 (m - 1)).Perm ((List.range (m - 1)).map fun k => m - 1 - k) := by
 have h : (List.range' 1 (m - 1)) = ((List.range (m - 1)).map fun k => m - 1 - k).reverse := by
  apply List.ext_getElem
  ·simp
  ·intro i h1 h2
   simp at h1
   simp
   omega
 rw [h]
 exact List.reverse_perm _
theorem Mx : ∀ (d : Nat) (L : List α), (rt d L).Perm (rf d L)
 | 0, _ => List.Perm.refl _
 | _ + 1, [] => List.Perm.refl _
 | _ + 1, [x] => List.Perm.refl _
 | d + 1, x :: y :: L => by
  rw [rt, rf]
  refine List.Perm.trans (xu (Og _)) ?_
  rw [List.flatMap_map]
  refine qR fun k hk => ?_
  have hk := List.mem_range.1 hk
  generalize hn : (y :: L).length = n at *
  have e1 : ∀ i, i < n → (2 ^ n - 1 - k).testBit i = !k.testBit i := fun i hi => by
   have := Nat.testBit_two_pow_sub_succ (x := k) (n := n) (by omega) i
   rw [show 2 ^ n - 1 - k = 2 ^ n - (k + 1) by omega, this]
   simp [hi]
  rw [qb (p := fun i => !(2 ^ n - 1 - k).testBit i) (q := fun i => k.testBit i) fun i hi => by rw [e1 i hi, Bool.not_not], qb (p := fun i => (2 ^ n - 1 - k).testBit i) (q := fun i => !k.testBit i) e1]
  refine List.Perm.trans (xu (Mx d _)) (qR fun a _ => (Mx d _).map _)
theorem BI (f : α → β) : ∀ (d : Nat) (L : List α), rt d (L.map f) = (rt d L).map (BT.map f)
 | 0, _ => rfl
 | _ + 1, [] => rfl
 | _ + 1, [x] => rfl
 | d + 1, x :: y :: L => by
  rw [List.map_cons, List.map_cons, rt, rt, List.map_flatMap]
  have hl : (f y :: L.map f).length = (y :: L).length := by simp
  rw [hl]
  congr 1
  funext bits
  have e : f y :: L.map f = (y :: L).map f := rfl
  rw [e, x5 f _ _ (Nat.le_refl _), x5 f _ _ (Nat.le_refl _), ← List.map_cons, BI f d, BI f d, List.map_flatMap, List.flatMap_map]
  congr 1
  funext a
  rw [List.map_map, List.map_map]
  rfl
theorem x6 : ∀ (d : Nat) (L : List α), ∀ r ∈ rt d L, r.gT.Perm L
 | 0, _ => fun r h => by cases h
 | _ + 1, [] => fun r h => by cases h
 | _ + 1, [x] => fun r h => by rw [rt, List.mem_singleton] at h; rw [h]; exact List.Perm.refl _
 | d + 1, x :: y :: L => fun r h => by
  rw [rt, List.mem_flatMap] at h
  obtain ⟨bits, hb, h⟩ := h
  rw [List.mem_flatMap] at h
  obtain ⟨a, ha, h⟩ := h
  obtain ⟨b, hb2, rfl⟩ := List.mem_map.1 h
  have h1 := x6 d _ a ha
  have h2 := x6 d _ b hb2
  have h3 := uy (fun i => bits.testBit i) (y :: L) (Nat.le_refl _)
  rw [List.take_length] at h3
  rw [BT.gT]
  refine (h1.append h2).trans ?_
  rw [List.cons_append]
  exact (List.perm_append_comm.trans h3).cons _
end
section
variable {α β : Type}
end
section
variable {α : Type} [Inhabited α]
end
end Go.Proofs.YteegefnjnikngaaGreat
namespace Go.Proofs
open Go.Shelf
def Tryz.sortNode_ren : Go.Shelf.Ren := ⟨fun | 6 => 221 | 15 => 137 | 14 => 267 | 28 => 194 | 29 => 195 | 20 => 289 | 21 => 290 | 22 => 291 | 23 => 292 | 24 => 293 | 25 => 294 | 26 => 295 | 27 => 296 | 46 => 302 | 47 => 250 | 48 => 251 | 49 => 303 | 50 => 304 | 57 => 306 | n => n, fun | 22 => 125 | 24 => 124 | 25 => 228 | 3 => 3 | 39 => 162 | 0 => 0 | 53 => 201 | 55 => 203 | 4 => 4 | 46 => 193 | 45 => 192 | 50 => 198 | 5 => 5 | 9 => 9 | 66 => 250 | 70 => 254 | 76 => 277 | 77 => 187 | n => n, fun | n => n⟩
theorem Tryz.sortNode : Go.Proofs.SlLaysF.n6 Tryz.prog Tryz.sortNode_ren := {
 mixed := by kernel_rfl
 f6 := ⟨Tryz.f221.name, by decide, Tryz.func221.trans (congrArg some (by kernel_rfl))⟩
 f14 := ⟨Tryz.f267.name, by decide, Tryz.func267.trans (congrArg some (by kernel_rfl))⟩
 f15 := Tryz.func137.trans (congrArg some (by kernel_rfl))
 f20 := ⟨Tryz.f289.name, by decide, Tryz.func289.trans (congrArg some (by kernel_rfl))⟩
 f21 := ⟨Tryz.f290.name, by decide, Tryz.func290.trans (congrArg some (by kernel_rfl))⟩
 f22 := ⟨Tryz.f291.name, by decide, Tryz.func291.trans (congrArg some (by kernel_rfl))⟩
 f23 := ⟨Tryz.f292.name, by decide, Tryz.func292.trans (congrArg some (by kernel_rfl))⟩
 f24 := ⟨Tryz.f293.name, by decide, Tryz.func293.trans (congrArg some (by kernel_rfl))⟩
 f25 := ⟨Tryz.f294.name, by decide, Tryz.func294.trans (congrArg some (by kernel_rfl))⟩
 f26 := ⟨Tryz.f295.name, by decide, Tryz.func295.trans (congrArg some (by kernel_rfl))⟩
 f27 := ⟨Tryz.f296.name, by decide, Tryz.func296.trans (congrArg some (by kernel_rfl))⟩
 f28 := Tryz.func194.trans (congrArg some (by kernel_rfl))
 f29 := Tryz.func195.trans (congrArg some (by kernel_rfl))
 f46 := ⟨Tryz.f302.name, by decide, Tryz.func302.trans (congrArg some (by kernel_rfl))⟩
 f47 := Tryz.func250.trans (congrArg some (by kernel_rfl))
 f48 := Tryz.func251.trans (congrArg some (by kernel_rfl))
 f49 := ⟨Tryz.f303.name, by decide, Tryz.func303.trans (congrArg some (by kernel_rfl))⟩
 f50 := ⟨Tryz.f304.name, by decide, Tryz.func304.trans (congrArg some (by kernel_rfl))⟩
 f57 := ⟨Tryz.f306.name, by decide, Tryz.func306.trans (congrArg some (by kernel_rfl))⟩
 t0 := Tryz.underlying0
 a0 := Tryz.isAgg0
 z0 := Tryz.sizeOf0
 v0 := Tryz.zeroValue0
 t3 := Tryz.underlying3
 a3 := Tryz.isAgg3
 z3 := Tryz.sizeOf3
 v3 := Tryz.zeroValue3
 t4 := Tryz.underlying4
 a4 := Tryz.isAgg4
 z4 := Tryz.sizeOf4
 v4 := Tryz.zeroValue4
 t5 := Tryz.underlying5
 a5 := Tryz.isAgg5
 z5 := Tryz.sizeOf5
 v5 := Tryz.zeroValue5
 t9 := Tryz.underlying9
 a9 := Tryz.isAgg9
 z9 := Tryz.sizeOf9
 v9 := Tryz.zeroValue9
 t22 := Tryz.underlying125
 a22 := Tryz.isAgg125
 z22 := Tryz.sizeOf125
 v22 := Tryz.zeroValue125
 a24 := Tryz.isAgg124
 z24 := Tryz.sizeOf124
 t25 := Tryz.underlying228
 a25 := Tryz.isAgg228
 z25 := Tryz.sizeOf228
 v25 := Tryz.zeroValue228
 t39 := Tryz.underlying162
 a39 := Tryz.isAgg162
 z39 := Tryz.sizeOf162
 v39 := Tryz.zeroValue162
 t45 := Tryz.underlying192
 a45 := Tryz.isAgg192
 z45 := Tryz.sizeOf192
 v45 := Tryz.zeroValue192
 t46 := Tryz.underlying193
 a46 := Tryz.isAgg193
 z46 := Tryz.sizeOf193
 v46 := Tryz.zeroValue193
 t50 := Tryz.underlying198
 a50 := Tryz.isAgg198
 z50 := Tryz.sizeOf198
 v50 := Tryz.zeroValue198
 t53 := Tryz.underlying201
 a53 := Tryz.isAgg201
 z53 := Tryz.sizeOf201
 v53 := Tryz.zeroValue201
 t55 := Tryz.underlying203
 a55 := Tryz.isAgg203
 z55 := Tryz.sizeOf203
 v55 := Tryz.zeroValue203
 t66 := Tryz.underlying250
 a66 := Tryz.isAgg250
 z66 := Tryz.sizeOf250
 v66 := Tryz.zeroValue250
 t70 := Tryz.underlying254
 a70 := Tryz.isAgg254
 z70 := Tryz.sizeOf254
 v70 := Tryz.zeroValue254
 t76 := Tryz.underlying277
 a76 := Tryz.isAgg277
 z76 := Tryz.sizeOf277
 v76 := Tryz.zeroValue277
 t77 := Tryz.underlying187
 a77 := Tryz.isAgg187
 z77 := Tryz.sizeOf187
 v77 := Tryz.zeroValue187 }
end Go.Proofs
namespace Go.Proofs
open Go.Shelf
def Tryz.bldG_ren : Go.Shelf.Ren := ⟨fun | 169 => 101 | n => n, fun | 70 => 120 | 9 => 9 | 0 => 0 | 72 => 122 | 37 => 80 | 127 => 171 | 3 => 3 | 5 => 5 | n => n, fun | n => n⟩
theorem Tryz.bldG : Go.Proofs.Lays.n169 Tryz.prog Tryz.bldG_ren := {
 mixed := by kernel_rfl
 f169 := Tryz.func101.trans (congrArg some (by kernel_rfl))
 t0 := Tryz.underlying0
 a0 := Tryz.isAgg0
 z0 := Tryz.sizeOf0
 v0 := Tryz.zeroValue0
 t3 := Tryz.underlying3
 a3 := Tryz.isAgg3
 z3 := Tryz.sizeOf3
 v3 := Tryz.zeroValue3
 t9 := Tryz.underlying9
 a9 := Tryz.isAgg9
 z9 := Tryz.sizeOf9
 v9 := Tryz.zeroValue9
 t37 := Tryz.underlying80
 a37 := Tryz.isAgg80
 z37 := Tryz.sizeOf80
 v37 := Tryz.zeroValue80
 t70 := Tryz.underlying120
 a70 := Tryz.isAgg120
 z70 := Tryz.sizeOf120
 v70 := Tryz.zeroValue120
 t72 := Tryz.underlying122
 a72 := Tryz.isAgg122
 z72 := Tryz.sizeOf122
 v72 := Tryz.zeroValue122
 t127 := Tryz.underlying171
 a127 := Tryz.isAgg171
 z127 := Tryz.sizeOf171
 v127 := Tryz.zeroValue171 }
end Go.Proofs
namespace Go.Proofs
open Go.Shelf
end Go.Proofs
namespace Go.Proofs
open Go.Shelf
def Tryz.sortZ_ren : Go.Shelf.Ren := ⟨fun | 5 => 76 | 8 => 137 | 7 => 136 | 19 => 194 | 20 => 195 | 10 => 185 | 11 => 186 | 12 => 187 | 13 => 188 | 14 => 189 | 15 => 190 | 16 => 191 | 17 => 192 | 18 => 193 | 30 => 249 | 31 => 250 | 32 => 251 | 33 => 252 | 34 => 253 | 35 => 141 | 40 => 284 | n => n, fun | 23 => 26 | 25 => 3 | 3 => 3 | 32 => 162 | 22 => 26 | 0 => 0 | 44 => 201 | 46 => 203 | 4 => 4 | 36 => 193 | 35 => 192 | 41 => 198 | 5 => 5 | 9 => 9 | 53 => 250 | 57 => 254 | 63 => 277 | 64 => 187 | n => n, fun | n => n⟩
theorem Tryz.sortZ : Go.Proofs.SlLaysM.n5 Tryz.prog Tryz.sortZ_ren := {
 mixed := by kernel_rfl
 f5 := ⟨Tryz.f76.name, by decide, Tryz.func76.trans (congrArg some (by kernel_rfl))⟩
 f7 := ⟨Tryz.f136.name, by decide, Tryz.func136.trans (congrArg some (by kernel_rfl))⟩
 f8 := Tryz.func137.trans (congrArg some (by kernel_rfl))
 f10 := ⟨Tryz.f185.name, by decide, Tryz.func185.trans (congrArg some (by kernel_rfl))⟩
 f11 := ⟨Tryz.f186.name, by decide, Tryz.func186.trans (congrArg some (by kernel_rfl))⟩
 f12 := ⟨Tryz.f187.name, by decide, Tryz.func187.trans (congrArg some (by kernel_rfl))⟩
 f13 := ⟨Tryz.f188.name, by decide, Tryz.func188.trans (congrArg some (by kernel_rfl))⟩
 f14 := ⟨Tryz.f189.name, by decide, Tryz.func189.trans (congrArg some (by kernel_rfl))⟩
 f15 := ⟨Tryz.f190.name, by decide, Tryz.func190.trans (congrArg some (by kernel_rfl))⟩
 f16 := ⟨Tryz.f191.name, by decide, Tryz.func191.trans (congrArg some (by kernel_rfl))⟩
 f17 := ⟨Tryz.f192.name, by decide, Tryz.func192.trans (congrArg some (by kernel_rfl))⟩
 f18 := ⟨Tryz.f193.name, by decide, Tryz.func193.trans (congrArg some (by kernel_rfl))⟩
 f19 := Tryz.func194.trans (congrArg some (by kernel_rfl))
 f20 := Tryz.func195.trans (congrArg some (by kernel_rfl))
 f30 := ⟨Tryz.f249.name, by decide, Tryz.func249.trans (congrArg some (by kernel_rfl))⟩
 f31 := Tryz.func250.trans (congrArg some (by kernel_rfl))
 f32 := Tryz.func251.trans (congrArg some (by kernel_rfl))
 f33 := ⟨Tryz.f252.name, by decide, Tryz.func252.trans (congrArg some (by kernel_rfl))⟩
 f34 := ⟨Tryz.f253.name, by decide, Tryz.func253.trans (congrArg some (by kernel_rfl))⟩
 f35 := ⟨Tryz.f141.name, by decide, Tryz.func141.trans (congrArg some (by kernel_rfl))⟩
 f40 := ⟨Tryz.f284.name, by decide, Tryz.func284.trans (congrArg some (by kernel_rfl))⟩
 t0 := Tryz.underlying0
 a0 := Tryz.isAgg0
 z0 := Tryz.sizeOf0
 v0 := Tryz.zeroValue0
 t3 := Tryz.underlying3
 a3 := Tryz.isAgg3
 z3 := Tryz.sizeOf3
 v3 := Tryz.zeroValue3
 t4 := Tryz.underlying4
 a4 := Tryz.isAgg4
 z4 := Tryz.sizeOf4
 v4 := Tryz.zeroValue4
 t5 := Tryz.underlying5
 a5 := Tryz.isAgg5
 z5 := Tryz.sizeOf5
 v5 := Tryz.zeroValue5
 t9 := Tryz.underlying9
 a9 := Tryz.isAgg9
 z9 := Tryz.sizeOf9
 v9 := Tryz.zeroValue9
 t22 := Tryz.underlying26
 a22 := Tryz.isAgg26
 z22 := Tryz.sizeOf26
 v22 := Tryz.zeroValue26
 t23 := Tryz.underlying26
 a23 := Tryz.isAgg26
 z23 := Tryz.sizeOf26
 v23 := Tryz.zeroValue26
 t25 := Tryz.underlying3
 a25 := Tryz.isAgg3
 z25 := Tryz.sizeOf3
 v25 := Tryz.zeroValue3
 t32 := Tryz.underlying162
 a32 := Tryz.isAgg162
 z32 := Tryz.sizeOf162
 v32 := Tryz.zeroValue162
 t35 := Tryz.underlying192
 a35 := Tryz.isAgg192
 z35 := Tryz.sizeOf192
 v35 := Tryz.zeroValue192
 t36 := Tryz.underlying193
 a36 := Tryz.isAgg193
 z36 := Tryz.sizeOf193
 v36 := Tryz.zeroValue193
 t41 := Tryz.underlying198
 a41 := Tryz.isAgg198
 z41 := Tryz.sizeOf198
 v41 := Tryz.zeroValue198
 t44 := Tryz.underlying201
 a44 := Tryz.isAgg201
 z44 := Tryz.sizeOf201
 v44 := Tryz.zeroValue201
 t46 := Tryz.underlying203
 a46 := Tryz.isAgg203
 z46 := Tryz.sizeOf203
 v46 := Tryz.zeroValue203
 t53 := Tryz.underlying250
 a53 := Tryz.isAgg250
 z53 := Tryz.sizeOf250
 v53 := Tryz.zeroValue250
 t57 := Tryz.underlying254
 a57 := Tryz.isAgg254
 z57 := Tryz.sizeOf254
 v57 := Tryz.zeroValue254
 t63 := Tryz.underlying277
 a63 := Tryz.isAgg277
 z63 := Tryz.sizeOf277
 v63 := Tryz.zeroValue277
 t64 := Tryz.underlying187
 a64 := Tryz.isAgg187
 z64 := Tryz.sizeOf187
 v64 := Tryz.zeroValue187 }
end Go.Proofs
namespace Go.Proofs
open Go.Shelf
def Tryz.idxA_ren : Go.Shelf.Ren := ⟨fun | 153 => 179 | 152 => 232 | 226 => 233 | 227 => 234 | 228 => 235 | 137 => 275 | 119 => 276 | 224 => 277 | 225 => 278 | 217 => 298 | 266 => 305 | n => n, fun | 9 => 9 | 3 => 3 | 4 => 4 | 5 => 5 | 21 => 21 | 117 => 238 | 116 => 237 | 0 => 0 | 46 => 162 | 124 => 272 | n => n, fun | n => n⟩
theorem Tryz.idxA : Go.Proofs.Lays.n153 Tryz.prog Tryz.idxA_ren := {
 mixed := by kernel_rfl
 f119 := Tryz.func276.trans (congrArg some (by kernel_rfl))
 f137 := Tryz.func275.trans (congrArg some (by kernel_rfl))
 f152 := Tryz.func232.trans (congrArg some (by kernel_rfl))
 f153 := Tryz.func179.trans (congrArg some (by kernel_rfl))
 f217 := Tryz.func298.trans (congrArg some (by kernel_rfl))
 f224 := Tryz.func277.trans (congrArg some (by kernel_rfl))
 f225 := Tryz.func278.trans (congrArg some (by kernel_rfl))
 f226 := Tryz.func233.trans (congrArg some (by kernel_rfl))
 f227 := Tryz.func234.trans (congrArg some (by kernel_rfl))
 f228 := Tryz.func235.trans (congrArg some (by kernel_rfl))
 f266 := Tryz.func305.trans (congrArg some (by kernel_rfl))
 t0 := Tryz.underlying0
 a0 := Tryz.isAgg0
 z0 := Tryz.sizeOf0
 v0 := Tryz.zeroValue0
 t3 := Tryz.underlying3
 a3 := Tryz.isAgg3
 z3 := Tryz.sizeOf3
 v3 := Tryz.zeroValue3
 t4 := Tryz.underlying4
 a4 := Tryz.isAgg4
 z4 := Tryz.sizeOf4
 v4 := Tryz.zeroValue4
 t5 := Tryz.underlying5
 a5 := Tryz.isAgg5
 z5 := Tryz.sizeOf5
 v5 := Tryz.zeroValue5
 t9 := Tryz.underlying9
 a9 := Tryz.isAgg9
 z9 := Tryz.sizeOf9
 v9 := Tryz.zeroValue9
 t21 := Tryz.underlying21
 a21 := Tryz.isAgg21
 z21 := Tryz.sizeOf21
 v21 := Tryz.zeroValue21
 t46 := Tryz.underlying162
 a46 := Tryz.isAgg162
 z46 := Tryz.sizeOf162
 v46 := Tryz.zeroValue162
 t116 := Tryz.underlying237
 a116 := Tryz.isAgg237
 z116 := Tryz.sizeOf237
 t117 := Tryz.underlying238
 a117 := Tryz.isAgg238
 z117 := Tryz.sizeOf238
 v117 := Tryz.zeroValue238
 t124 := Tryz.underlying272
 a124 := Tryz.isAgg272
 z124 := Tryz.sizeOf272
 v124 := Tryz.zeroValue272 }
end Go.Proofs
namespace Go.Proofs
open Go.Shelf
end Go.Proofs
namespace Go.Proofs
open Go.Shelf
end Go.Proofs
namespace Go.Proofs
open Go.Shelf
def Tryz.lays212_ren : Go.Shelf.Ren := ⟨fun | 212 => 283 | 263 => 300 | 264 => 301 | n => n, fun | 46 => 162 | 51 => 201 | 53 => 203 | 146 => 289 | 148 => 291 | n => n, fun | n => n⟩
theorem Tryz.lays212 : Go.Proofs.Lays.n212 Tryz.prog Tryz.lays212_ren := {
 mixed := by kernel_rfl
 f212 := Tryz.func283.trans (congrArg some (by kernel_rfl))
 f263 := Tryz.func300.trans (congrArg some (by kernel_rfl))
 f264 := Tryz.func301.trans (congrArg some (by kernel_rfl))
 t46 := Tryz.underlying162
 a46 := Tryz.isAgg162
 z46 := Tryz.sizeOf162
 v46 := Tryz.zeroValue162
 t51 := Tryz.underlying201
 a51 := Tryz.isAgg201
 z51 := Tryz.sizeOf201
 v51 := Tryz.zeroValue201
 t53 := Tryz.underlying203
 a53 := Tryz.isAgg203
 z53 := Tryz.sizeOf203
 v53 := Tryz.zeroValue203
 t146 := Tryz.underlying289
 a146 := Tryz.isAgg289
 z146 := Tryz.sizeOf289
 v146 := Tryz.zeroValue289
 t148 := Tryz.underlying291
 a148 := Tryz.isAgg291
 z148 := Tryz.sizeOf291
 v148 := Tryz.zeroValue291 }
theorem Tryz.bits_Mul (x y : Nat) (hx : x < 18446744073709551616) (hy : y < 18446744073709551616) (w : World) :
  Calls Tryz.prog 283 #[.int .u64 x, .int .u64 y] w fun e w' => e = .returned (.tuple #[.int .u64 ((x * y / 18446744073709551616 : Nat) : Int), .int .u64 ((x * y % 18446744073709551616 : Nat) : Int)]) ∧ w' = w := Any.bits_Mul Tryz.lays212 x y hx hy w
end Go.Proofs
namespace Go.Proofs
open Go.Shelf
def Tryz.sortEnt_ren : Go.Shelf.Ren := ⟨fun | 6 => 132 | 15 => 137 | 14 => 180 | 28 => 194 | 29 => 195 | 20 => 236 | 21 => 237 | 22 => 238 | 23 => 239 | 24 => 240 | 25 => 241 | 26 => 242 | 27 => 243 | 46 => 279 | 47 => 250 | 48 => 251 | 49 => 280 | 50 => 281 | 57 => 299 | n => n, fun | 22 => 94 | 24 => 99 | 25 => 158 | 3 => 3 | 39 => 162 | 0 => 0 | 53 => 201 | 55 => 203 | 4 => 4 | 46 => 193 | 45 => 192 | 50 => 198 | 5 => 5 | 9 => 9 | 66 => 250 | 70 => 254 | 76 => 277 | 77 => 187 | n => n, fun | n => n⟩
theorem Tryz.sortEnt : Go.Proofs.SlLaysF0.n6 Tryz.prog Tryz.sortEnt_ren := {
 mixed := by kernel_rfl
 f6 := ⟨Tryz.f132.name, by decide, Tryz.func132.trans (congrArg some (by kernel_rfl))⟩
 f14 := ⟨Tryz.f180.name, by decide, Tryz.func180.trans (congrArg some (by kernel_rfl))⟩
 f15 := Tryz.func137.trans (congrArg some (by kernel_rfl))
 f20 := ⟨Tryz.f236.name, by decide, Tryz.func236.trans (congrArg some (by kernel_rfl))⟩
 f21 := ⟨Tryz.f237.name, by decide, Tryz.func237.trans (congrArg some (by kernel_rfl))⟩
 f22 := ⟨Tryz.f238.name, by decide, Tryz.func238.trans (congrArg some (by kernel_rfl))⟩
 f23 := ⟨Tryz.f239.name, by decide, Tryz.func239.trans (congrArg some (by kernel_rfl))⟩
 f24 := ⟨Tryz.f240.name, by decide, Tryz.func240.trans (congrArg some (by kernel_rfl))⟩
 f25 := ⟨Tryz.f241.name, by decide, Tryz.func241.trans (congrArg some (by kernel_rfl))⟩
 f26 := ⟨Tryz.f242.name, by decide, Tryz.func242.trans (congrArg some (by kernel_rfl))⟩
 f27 := ⟨Tryz.f243.name, by decide, Tryz.func243.trans (congrArg some (by kernel_rfl))⟩
 f28 := Tryz.func194.trans (congrArg some (by kernel_rfl))
 f29 := Tryz.func195.trans (congrArg some (by kernel_rfl))
 f46 := ⟨Tryz.f279.name, by decide, Tryz.func279.trans (congrArg some (by kernel_rfl))⟩
 f47 := Tryz.func250.trans (congrArg some (by kernel_rfl))
 f48 := Tryz.func251.trans (congrArg some (by kernel_rfl))
 f49 := ⟨Tryz.f280.name, by decide, Tryz.func280.trans (congrArg some (by kernel_rfl))⟩
 f50 := ⟨Tryz.f281.name, by decide, Tryz.func281.trans (congrArg some (by kernel_rfl))⟩
 f57 := ⟨Tryz.f299.name, by decide, Tryz.func299.trans (congrArg some (by kernel_rfl))⟩
 t0 := Tryz.underlying0
 a0 := Tryz.isAgg0
 z0 := Tryz.sizeOf0
 v0 := Tryz.zeroValue0
 t3 := Tryz.underlying3
 a3 := Tryz.isAgg3
 z3 := Tryz.sizeOf3
 v3 := Tryz.zeroValue3
 t4 := Tryz.underlying4
 a4 := Tryz.isAgg4
 z4 := Tryz.sizeOf4
 v4 := Tryz.zeroValue4
 t5 := Tryz.underlying5
 a5 := Tryz.isAgg5
 z5 := Tryz.sizeOf5
 v5 := Tryz.zeroValue5
 t9 := Tryz.underlying9
 a9 := Tryz.isAgg9
 z9 := Tryz.sizeOf9
 v9 := Tryz.zeroValue9
 t22 := Tryz.underlying94
 a22 := Tryz.isAgg94
 z22 := Tryz.sizeOf94
 v22 := Tryz.zeroValue94
 t25 := Tryz.underlying158
 a25 := Tryz.isAgg158
 z25 := Tryz.sizeOf158
 v25 := Tryz.zeroValue158
 t39 := Tryz.underlying162
 a39 := Tryz.isAgg162
 z39 := Tryz.sizeOf162
 v39 := Tryz.zeroValue162
 t45 := Tryz.underlying192
 a45 := Tryz.isAgg192
 z45 := Tryz.sizeOf192
 v45 := Tryz.zeroValue192
 t46 := Tryz.underlying193
 a46 := Tryz.isAgg193
 z46 := Tryz.sizeOf193
 v46 := Tryz.zeroValue193
 t50 := Tryz.underlying198
 a50 := Tryz.isAgg198
 z50 := Tryz.sizeOf198
 v50 := Tryz.zeroValue198
 t53 := Tryz.underlying201
 a53 := Tryz.isAgg201
 z53 := Tryz.sizeOf201
 v53 := Tryz.zeroValue201
 t55 := Tryz.underlying203
 a55 := Tryz.isAgg203
 z55 := Tryz.sizeOf203
 v55 := Tryz.zeroValue203
 t66 := Tryz.underlying250
 a66 := Tryz.isAgg250
 z66 := Tryz.sizeOf250
 v66 := Tryz.zeroValue250
 t70 := Tryz.underlying254
 a70 := Tryz.isAgg254
 z70 := Tryz.sizeOf254
 v70 := Tryz.zeroValue254
 t76 := Tryz.underlying277
 a76 := Tryz.isAgg277
 z76 := Tryz.sizeOf277
 v76 := Tryz.zeroValue277
 t77 := Tryz.underlying187
 a77 := Tryz.isAgg187
 z77 := Tryz.sizeOf187
 v77 := Tryz.zeroValue187 }
end Go.Proofs
namespace Go.Proofs.YteegefnjnikngaaGreat
section
open Go.RowKit Go.Deep

def aD (S : Nat → Prop) (w : World) (v : Value) (n : Nat) (f : Nat → Value) : Prop :=
 ∃ p cap, v = .slice p n cap ∧ n ≤ cap ∧ (n = 0 ∨ ∃ b off, p = some ⟨b, off, none⟩ ∧ S b ∧ ∀ k, k < n → w.cell? ⟨b, off + k, none⟩ = some (f k))
def aB (S : Nat → Prop) (w : World) (v : Value) (xs : List Int) : Prop := aD S w v xs.length (fun k => .int .i64 (gi xs k))
def av (S : Nat → Prop) (w : World) (v : Value) (xs : List ByteArray) : Prop := aD S w v xs.length (fun k => .string (gs xs k))
def bh (S : Nat → Prop) (w : World) (v : Value) (xs : List (List Int)) : Prop := ∃ f, aD S w v xs.length f ∧ ∀ k, k < xs.length → aB S w (f k) (gl xs k)
def aC (S : Nat → Prop) (w : World) (v : Value) (t : ax) : Prop := ∃ P N, v = .agg #[P, N] ∧ aB S w P t.ps ∧ av S w N t.ns

def Kept (S : Nat → Prop) (w w' : World) : Prop := ∀ b, S b → b < w.heap.size → w'.heap[b]? = w.heap[b]?
def Any (_ : Nat) : Prop := True

theorem aD.keep {S : Nat → Prop} {w w' : World} {v : Value} {n : Nat} {f : Nat → Value} (h : aD S w v n f) (k : Kept S w w') : aD S w' v n f := by
 obtain ⟨p, cap, rfl, hn, h⟩ := h
 refine ⟨p, cap, rfl, hn, ?_⟩
 rcases h with h | ⟨b, off, rfl, hS, h⟩
 ·exact .inl h
 ·refine .inr ⟨b, off, rfl, hS, fun i hi => ?_⟩
  have hlt : b < w.heap.size := World.block_lt_of_cell? w _ (h i hi)
  rw [World.cell?_of_block (a := ⟨b, off + i, none⟩) (k b hS hlt)]
  exact h i hi
theorem aB.keep {S : Nat → Prop} {w w' : World} {v : Value} {xs : List Int} (h : aB S w v xs) (k : Kept S w w') : aB S w' v xs := aD.keep h k
theorem av.keep {S : Nat → Prop} {w w' : World} {v : Value} {xs : List ByteArray} (h : av S w v xs) (k : Kept S w w') : av S w' v xs := aD.keep h k
theorem bh.keep {S : Nat → Prop} {w w' : World} {v : Value} {xs : List (List Int)} (h : bh S w v xs) (k : Kept S w w') : bh S w' v xs := by
 obtain ⟨f, h, hr⟩ := h
 exact ⟨f, h.keep k, fun i hi => (hr i hi).keep k⟩
theorem aC.keep {S : Nat → Prop} {w w' : World} {v : Value} {t : ax} (h : aC S w v t) (k : Kept S w w') : aC S w' v t := by
 obtain ⟨P, N, rfl, h1, h2⟩ := h
 exact ⟨P, N, rfl, h1.keep k, h2.keep k⟩
theorem aD.sub {S T : Nat → Prop} {w : World} {v : Value} {n : Nat} {f : Nat → Value} (h : aD S w v n f) (k : ∀ b, S b → b < w.heap.size → T b) : aD T w v n f := by
 obtain ⟨p, cap, rfl, hn, h⟩ := h
 refine ⟨p, cap, rfl, hn, ?_⟩
 rcases h with h | ⟨b, off, rfl, hS, h⟩
 ·exact .inl h
 ·by_cases hn0 : n = 0
  ·exact .inl hn0
  ·exact .inr ⟨b, off, rfl, k b hS (World.block_lt_of_cell? w _ (h 0 (by omega))), h⟩
theorem aB.sub {S T : Nat → Prop} {w : World} {v : Value} {xs : List Int} (h : aB S w v xs) (k : ∀ b, S b → b < w.heap.size → T b) : aB T w v xs := aD.sub h k
theorem av.sub {S T : Nat → Prop} {w : World} {v : Value} {xs : List ByteArray} (h : av S w v xs) (k : ∀ b, S b → b < w.heap.size → T b) : av T w v xs := aD.sub h k
theorem bh.sub {S T : Nat → Prop} {w : World} {v : Value} {xs : List (List Int)} (h : bh S w v xs) (k : ∀ b, S b → b < w.heap.size → T b) : bh T w v xs := by
 obtain ⟨f, h, hr⟩ := h
 exact ⟨f, h.sub k, fun i hi => (hr i hi).sub k⟩
theorem aC.sub {S T : Nat → Prop} {w : World} {v : Value} {t : ax} (h : aC S w v t) (k : ∀ b, S b → b < w.heap.size → T b) : aC T w v t := by
 obtain ⟨P, N, rfl, h1, h2⟩ := h
 exact ⟨P, N, rfl, h1.sub k, h2.sub k⟩
theorem Kept.below {S : Nat → Prop} {a b : World} (h : Below a.heap.size a b) : Kept S a b := fun i _ hl => h.block i hl
theorem aD.open {S : Nat → Prop} {w : World} {v : Value} {n : Nat} {f : Nat → Value} (h : aD S w v n f) :
  ∃ p cap, v = .slice p n cap ∧ n ≤ cap ∧ ∀ k, k < n → ∃ b off, p = some ⟨b, off, none⟩ ∧ w.cell? ⟨b, off + k, none⟩ = some (f k) := by
 obtain ⟨p, cap, rfl, hn, h⟩ := h
 refine ⟨p, cap, rfl, hn, fun k hk => ?_⟩
 rcases h with h | ⟨b, off, rfl, _, h⟩
 ·omega
 ·exact ⟨b, off, rfl, h k hk⟩
theorem below_drewN {B : Nat} {a w : World} (h : Below B a w) (n : Nat) : Below B a (w.drewN n) := ⟨h.os, h.tape, h.output, h.size, h.block⟩
theorem aO {k : IntKind} {a b : Int} (h : a = b) : Ending.returned (.int k a) = .returned (.int k b) := by rw [h]
theorem bw {a b : Bool} (h : a = b) : Ending.returned (.bool a) = .returned (.bool b) := by rw [h]
end
section
end
section
def Gk (a b : Nat) : Int := if a = b then 0 else 1
def lJ (n a : Nat) : List Int := (List.range n).map (Gk a)
def bU (n : Nat) : List (List Int) := (List.range n).map (lJ n)
theorem uz (n a : Nat) : (lJ n a).length = n := by simp [lJ]
theorem kZ (n : Nat) : (bU n).length = n := by simp [bU]
theorem BJ {n a b : Nat} (h : b < n) : gi (lJ n a) b = Gk a b := by simp [gi, lJ, h]
theorem Gl {n a : Nat} (h : a < n) : gl (bU n) a = lJ n a := by simp [gl, bU, h]
end
section
def part (t : ax) (st : List Int) (cs : List (List Int)) (k r s : Nat) : Int := eG t st r s + b7 (fun c => if k ≤ c ∧ r < c ∧ gi t.ps c = r then iK t st cs s c else 0) t.ps.length
section
variable {t : ax} {st : List Int} {cs : List (List Int)}
end
end
section
open Go.RowKit Go.Deep
def Xt : ByteArray := ⟨#[46, 44, 59, 58, 33, 63, 40, 41, 45]⟩
theorem Xu : ∀ c, c < 256 → (decide (0 ≤ Lib.indexByte Xt.data.toList c.toUInt8)) = vU c := by
 decide +kernel
theorem ofk {a b : Int} (h : a = b) {w w' : World} (hw : w = w') : Ending.returned (.int .i64 a) = .returned (.int .i64 b) ∧ w = w' := ⟨by rw [h], hw⟩
theorem VT {c : Nat} {x : Int} (hc : c < 256) (hx : Lib.indexByte [46, 44, 59, 58, 33, 63, 40, 41, 45] ((c : Int).toNat).toUInt8 = x) : 0 ≤ x ↔ vU c = true := by
 have h := Xu c hc
 rw [← h, ← hx]; simp [Xt]
set_option maxHeartbeats 400000 in
theorem Xv (c : Nat) (hc : c < 256) (w : World) : Calls Tryz.prog 254 #[.int .u8 c] w fun e w' => e = .returned (.int .i64 (dg c)) ∧ w = w' := by
 go_enter Tryz.func254, Tryz.ntmps254
 go_wp2_with (go_at_call 275; refine (Tryz.strings_IndexByte _ _ _).mono ?_; rintro e w' ⟨rfl, rfl⟩; generalize hx : Lib.indexByte _ _ = x)
 all_goals (try go_ret)
 all_goals (refine ofk ?_ rfl)
 all_goals (first | (have h5 := VT hc ‹Lib.indexByte _ _ = _›; unfold dg isLet; by_cases hp : vU c = true <;> simp only [hp] at * <;> simp at * <;> omega) | (simp [dg, isLet, vU] at *; done) | (simp [dg, isLet, vU] at *; omega))
end
end Go.Proofs.YteegefnjnikngaaGreat
