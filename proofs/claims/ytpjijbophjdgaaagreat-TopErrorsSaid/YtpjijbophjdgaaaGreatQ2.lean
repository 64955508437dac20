/- The contract of slices.Sort at ints: the laying. strings.Builder: WriteByte, WriteString, String: laid strings.IndexAny: laid The contract of slices.BinarySearch at ints: the laying. The contract of slices.SortFunc at lists of ints: the laying. Contracts of the library that the kit lays: math/bits.Mul. Ways in which lists lie in memory, and what keeps them: for the walks of this seat. -/
import Derived.Shelf.SlGeneric
import Derived.Shelf.SlLaysM
import Derived.Ground.SlgmProg
import Derived.Test.YtpjijbophjdgaaaGreatProg
import Derived.Shelf.Strings.BuilderK
import Derived.Ground.NamesProg
import Derived.Ground.Names2Prog
import Derived.Shelf.Strings.IndexAnyAll
import Derived.Shelf.Slices.SearchI
import Derived.Shelf.SlSortCmp.NoneTotal
import Derived.Shelf.Bits.Mul64
import Derived.Test.YtpjijbophjdgaaaGreatQ1
import Derived.WalkKit
import Derived.WalkSpells
import Derived.WalkLawsBesides
import Derived.Deep.OwnRows
import Derived.Deep.QuietTactic
import Derived.BigQuiet
import Derived.Lib.Hide
namespace Go.Proofs
open Go.Shelf
def Tryz.sortZ_ren : Go.Shelf.Ren := ⟨fun | 5 => 153 | 8 => 89 | 7 => 192 | 19 => 168 | 20 => 169 | 10 => 220 | 11 => 221 | 12 => 222 | 13 => 223 | 14 => 224 | 15 => 225 | 16 => 226 | 17 => 227 | 18 => 228 | 30 => 236 | 31 => 198 | 32 => 199 | 33 => 237 | 34 => 238 | 35 => 159 | 40 => 250 | n => n, fun | 23 => 26 | 25 => 3 | 3 => 3 | 32 => 106 | 22 => 26 | 0 => 0 | 44 => 187 | 46 => 81 | 4 => 4 | 36 => 180 | 35 => 179 | 41 => 184 | 5 => 5 | 9 => 9 | 53 => 211 | 57 => 215 | 63 => 236 | 64 => 237 | n => n, fun | n => n⟩
theorem Tryz.sortZ : Go.Proofs.SlLaysM.n5 Tryz.prog Tryz.sortZ_ren := {
  mixed := by kernel_rfl
  f5 := ⟨Tryz.f153.name, by decide, Tryz.func153.trans (congrArg some (by kernel_rfl))⟩
  f7 := ⟨Tryz.f192.name, by decide, Tryz.func192.trans (congrArg some (by kernel_rfl))⟩
  f8 := Tryz.func89.trans (congrArg some (by kernel_rfl))
  f10 := ⟨Tryz.f220.name, by decide, Tryz.func220.trans (congrArg some (by kernel_rfl))⟩
  f11 := ⟨Tryz.f221.name, by decide, Tryz.func221.trans (congrArg some (by kernel_rfl))⟩
  f12 := ⟨Tryz.f222.name, by decide, Tryz.func222.trans (congrArg some (by kernel_rfl))⟩
  f13 := ⟨Tryz.f223.name, by decide, Tryz.func223.trans (congrArg some (by kernel_rfl))⟩
  f14 := ⟨Tryz.f224.name, by decide, Tryz.func224.trans (congrArg some (by kernel_rfl))⟩
  f15 := ⟨Tryz.f225.name, by decide, Tryz.func225.trans (congrArg some (by kernel_rfl))⟩
  f16 := ⟨Tryz.f226.name, by decide, Tryz.func226.trans (congrArg some (by kernel_rfl))⟩
  f17 := ⟨Tryz.f227.name, by decide, Tryz.func227.trans (congrArg some (by kernel_rfl))⟩
  f18 := ⟨Tryz.f228.name, by decide, Tryz.func228.trans (congrArg some (by kernel_rfl))⟩
  f19 := Tryz.func168.trans (congrArg some (by kernel_rfl))
  f20 := Tryz.func169.trans (congrArg some (by kernel_rfl))
  f30 := ⟨Tryz.f236.name, by decide, Tryz.func236.trans (congrArg some (by kernel_rfl))⟩
  f31 := Tryz.func198.trans (congrArg some (by kernel_rfl))
  f32 := Tryz.func199.trans (congrArg some (by kernel_rfl))
  f33 := ⟨Tryz.f237.name, by decide, Tryz.func237.trans (congrArg some (by kernel_rfl))⟩
  f34 := ⟨Tryz.f238.name, by decide, Tryz.func238.trans (congrArg some (by kernel_rfl))⟩
  f35 := ⟨Tryz.f159.name, by decide, Tryz.func159.trans (congrArg some (by kernel_rfl))⟩
  f40 := ⟨Tryz.f250.name, by decide, Tryz.func250.trans (congrArg some (by kernel_rfl))⟩
  t0 := Tryz.underlying0
  a0 := Tryz.isAgg0
  z0 := Tryz.sizeOf0
  v0 := Tryz.zeroValue0
  t3 := Tryz.underlying3
  a3 := Tryz.isAgg3
  z3 := Tryz.sizeOf3
  v3 := Tryz.zeroValue3
  t4 := Tryz.underlying4
  a4 := Tryz.isAgg4
  z4 := Tryz.sizeOf4
  v4 := Tryz.zeroValue4
  t5 := Tryz.underlying5
  a5 := Tryz.isAgg5
  z5 := Tryz.sizeOf5
  v5 := Tryz.zeroValue5
  t9 := Tryz.underlying9
  a9 := Tryz.isAgg9
  z9 := Tryz.sizeOf9
  v9 := Tryz.zeroValue9
  t22 := Tryz.underlying26
  a22 := Tryz.isAgg26
  z22 := Tryz.sizeOf26
  v22 := Tryz.zeroValue26
  t23 := Tryz.underlying26
  a23 := Tryz.isAgg26
  z23 := Tryz.sizeOf26
  v23 := Tryz.zeroValue26
  t25 := Tryz.underlying3
  a25 := Tryz.isAgg3
  z25 := Tryz.sizeOf3
  v25 := Tryz.zeroValue3
  t32 := Tryz.underlying106
  a32 := Tryz.isAgg106
  z32 := Tryz.sizeOf106
  v32 := Tryz.zeroValue106
  t35 := Tryz.underlying179
  a35 := Tryz.isAgg179
  z35 := Tryz.sizeOf179
  v35 := Tryz.zeroValue179
  t36 := Tryz.underlying180
  a36 := Tryz.isAgg180
  z36 := Tryz.sizeOf180
  v36 := Tryz.zeroValue180
  t41 := Tryz.underlying184
  a41 := Tryz.isAgg184
  z41 := Tryz.sizeOf184
  v41 := Tryz.zeroValue184
  t44 := Tryz.underlying187
  a44 := Tryz.isAgg187
  z44 := Tryz.sizeOf187
  v44 := Tryz.zeroValue187
  t46 := Tryz.underlying81
  a46 := Tryz.isAgg81
  z46 := Tryz.sizeOf81
  v46 := Tryz.zeroValue81
  t53 := Tryz.underlying211
  a53 := Tryz.isAgg211
  z53 := Tryz.sizeOf211
  v53 := Tryz.zeroValue211
  t57 := Tryz.underlying215
  a57 := Tryz.isAgg215
  z57 := Tryz.sizeOf215
  v57 := Tryz.zeroValue215
  t63 := Tryz.underlying236
  a63 := Tryz.isAgg236
  z63 := Tryz.sizeOf236
  v63 := Tryz.zeroValue236
  t64 := Tryz.underlying237
  a64 := Tryz.isAgg237
  z64 := Tryz.sizeOf237
  v64 := Tryz.zeroValue237 }
end Go.Proofs
namespace Go.Proofs
open Go.Shelf
end Go.Proofs
namespace Go.Proofs
open Go.Shelf
end Go.Proofs
namespace Go.Proofs
open Go.Shelf
def Tryz.bsI_ren : Go.Shelf.Ren := ⟨fun | 25 => 194 | 31 => 226 | 32 => 229 | 37 => 159 | n => n, fun | 22 => 26 | 3 => 3 | 4 => 4 | 40 => 106 | 0 => 0 | n => n, fun | n => n⟩
theorem Tryz.bsI : Go.Proofs.Lays2.n25 Tryz.prog Tryz.bsI_ren := {
  mixed := by kernel_rfl
  f25 := Tryz.func194.trans (congrArg some (by kernel_rfl))
  f31 := Tryz.func226.trans (congrArg some (by kernel_rfl))
  f32 := Tryz.func229.trans (congrArg some (by kernel_rfl))
  f37 := Tryz.func159.trans (congrArg some (by kernel_rfl))
  t0 := Tryz.underlying0
  a0 := Tryz.isAgg0
  z0 := Tryz.sizeOf0
  v0 := Tryz.zeroValue0
  t3 := Tryz.underlying3
  a3 := Tryz.isAgg3
  z3 := Tryz.sizeOf3
  v3 := Tryz.zeroValue3
  t4 := Tryz.underlying4
  a4 := Tryz.isAgg4
  z4 := Tryz.sizeOf4
  v4 := Tryz.zeroValue4
  t22 := Tryz.underlying26
  a22 := Tryz.isAgg26
  z22 := Tryz.sizeOf26
  v22 := Tryz.zeroValue26
  t40 := Tryz.underlying106
  a40 := Tryz.isAgg106
  z40 := Tryz.sizeOf106
  v40 := Tryz.zeroValue106 }
end Go.Proofs
namespace Go.Proofs
open Go.Shelf
def Tryz.sortRow_ren : Go.Shelf.Ren := ⟨fun | 6 => 26 | 15 => 89 | 14 => 88 | 28 => 168 | 29 => 169 | 20 => 160 | 21 => 161 | 22 => 162 | 23 => 163 | 24 => 164 | 25 => 165 | 26 => 166 | 27 => 167 | 46 => 197 | 47 => 198 | 48 => 199 | 49 => 200 | 50 => 201 | 57 => 230 | n => n, fun | 22 => 22 | 24 => 26 | 25 => 50 | 3 => 3 | 39 => 106 | 0 => 0 | 53 => 187 | 55 => 81 | 4 => 4 | 46 => 180 | 45 => 179 | 50 => 184 | 5 => 5 | 9 => 9 | 66 => 211 | 70 => 215 | 76 => 236 | 77 => 237 | n => n, fun | n => n⟩
theorem Tryz.sortRow : Go.Proofs.SlLaysF.n6 Tryz.prog Tryz.sortRow_ren := {
  mixed := by kernel_rfl
  f6 := ⟨Tryz.f26.name, by decide, Tryz.func26.trans (congrArg some (by kernel_rfl))⟩
  f14 := ⟨Tryz.f88.name, by decide, Tryz.func88.trans (congrArg some (by kernel_rfl))⟩
  f15 := Tryz.func89.trans (congrArg some (by kernel_rfl))
  f20 := ⟨Tryz.f160.name, by decide, Tryz.func160.trans (congrArg some (by kernel_rfl))⟩
  f21 := ⟨Tryz.f161.name, by decide, Tryz.func161.trans (congrArg some (by kernel_rfl))⟩
  f22 := ⟨Tryz.f162.name, by decide, Tryz.func162.trans (congrArg some (by kernel_rfl))⟩
  f23 := ⟨Tryz.f163.name, by decide, Tryz.func163.trans (congrArg some (by kernel_rfl))⟩
  f24 := ⟨Tryz.f164.name, by decide, Tryz.func164.trans (congrArg some (by kernel_rfl))⟩
  f25 := ⟨Tryz.f165.name, by decide, Tryz.func165.trans (congrArg some (by kernel_rfl))⟩
  f26 := ⟨Tryz.f166.name, by decide, Tryz.func166.trans (congrArg some (by kernel_rfl))⟩
  f27 := ⟨Tryz.f167.name, by decide, Tryz.func167.trans (congrArg some (by kernel_rfl))⟩
  f28 := Tryz.func168.trans (congrArg some (by kernel_rfl))
  f29 := Tryz.func169.trans (congrArg some (by kernel_rfl))
  f46 := ⟨Tryz.f197.name, by decide, Tryz.func197.trans (congrArg some (by kernel_rfl))⟩
  f47 := Tryz.func198.trans (congrArg some (by kernel_rfl))
  f48 := Tryz.func199.trans (congrArg some (by kernel_rfl))
  f49 := ⟨Tryz.f200.name, by decide, Tryz.func200.trans (congrArg some (by kernel_rfl))⟩
  f50 := ⟨Tryz.f201.name, by decide, Tryz.func201.trans (congrArg some (by kernel_rfl))⟩
  f57 := ⟨Tryz.f230.name, by decide, Tryz.func230.trans (congrArg some (by kernel_rfl))⟩
  t0 := Tryz.underlying0
  a0 := Tryz.isAgg0
  z0 := Tryz.sizeOf0
  v0 := Tryz.zeroValue0
  t3 := Tryz.underlying3
  a3 := Tryz.isAgg3
  z3 := Tryz.sizeOf3
  v3 := Tryz.zeroValue3
  t4 := Tryz.underlying4
  a4 := Tryz.isAgg4
  z4 := Tryz.sizeOf4
  v4 := Tryz.zeroValue4
  t5 := Tryz.underlying5
  a5 := Tryz.isAgg5
  z5 := Tryz.sizeOf5
  v5 := Tryz.zeroValue5
  t9 := Tryz.underlying9
  a9 := Tryz.isAgg9
  z9 := Tryz.sizeOf9
  v9 := Tryz.zeroValue9
  t22 := Tryz.underlying22
  a22 := Tryz.isAgg22
  z22 := Tryz.sizeOf22
  v22 := Tryz.zeroValue22
  a24 := Tryz.isAgg26
  z24 := Tryz.sizeOf26
  t25 := Tryz.underlying50
  a25 := Tryz.isAgg50
  z25 := Tryz.sizeOf50
  v25 := Tryz.zeroValue50
  t39 := Tryz.underlying106
  a39 := Tryz.isAgg106
  z39 := Tryz.sizeOf106
  v39 := Tryz.zeroValue106
  t45 := Tryz.underlying179
  a45 := Tryz.isAgg179
  z45 := Tryz.sizeOf179
  v45 := Tryz.zeroValue179
  t46 := Tryz.underlying180
  a46 := Tryz.isAgg180
  z46 := Tryz.sizeOf180
  v46 := Tryz.zeroValue180
  t50 := Tryz.underlying184
  a50 := Tryz.isAgg184
  z50 := Tryz.sizeOf184
  v50 := Tryz.zeroValue184
  t53 := Tryz.underlying187
  a53 := Tryz.isAgg187
  z53 := Tryz.sizeOf187
  v53 := Tryz.zeroValue187
  t55 := Tryz.underlying81
  a55 := Tryz.isAgg81
  z55 := Tryz.sizeOf81
  v55 := Tryz.zeroValue81
  t66 := Tryz.underlying211
  a66 := Tryz.isAgg211
  z66 := Tryz.sizeOf211
  v66 := Tryz.zeroValue211
  t70 := Tryz.underlying215
  a70 := Tryz.isAgg215
  z70 := Tryz.sizeOf215
  v70 := Tryz.zeroValue215
  t76 := Tryz.underlying236
  a76 := Tryz.isAgg236
  z76 := Tryz.sizeOf236
  v76 := Tryz.zeroValue236
  t77 := Tryz.underlying237
  a77 := Tryz.isAgg237
  z77 := Tryz.sizeOf237
  v77 := Tryz.zeroValue237 }
end Go.Proofs
namespace Go.Proofs
open Go.Shelf
end Go.Proofs
namespace Go.Proofs.YtpjijbophjdgaaaGreat
open Go.RowKit Go.Deep

def SlAt (S : Nat → Prop) (w : World) (v : Value) (n : Nat) (f : Nat → Value) : Prop :=
  ∃ p cap, v = .slice p n cap ∧ n ≤ cap ∧ (n = 0 ∨ ∃ b off, p = some ⟨b, off, none⟩ ∧ S b ∧ ∀ k, k < n → w.cell? ⟨b, off + k, none⟩ = some (f k))
def IntsAt (S : Nat → Prop) (w : World) (v : Value) (xs : List Int) : Prop := SlAt S w v xs.length (fun k => .int .i64 (gi xs k))
def StrsAt (S : Nat → Prop) (w : World) (v : Value) (xs : List ByteArray) : Prop := SlAt S w v xs.length (fun k => .string (gs xs k))
def RowsAt (S : Nat → Prop) (w : World) (v : Value) (xs : List (List Int)) : Prop := ∃ f, SlAt S w v xs.length f ∧ ∀ k, k < xs.length → IntsAt S w (f k) (gl xs k)
def TreeAt (S : Nat → Prop) (w : World) (v : Value) (t : Tre) : Prop := ∃ P N, v = .agg #[P, N] ∧ IntsAt S w P t.ps ∧ StrsAt S w N t.ns

def Kept (S : Nat → Prop) (w w' : World) : Prop := ∀ b, S b → b < w.heap.size → w'.heap[b]? = w.heap[b]?
def Any (_ : Nat) : Prop := True

theorem SlAt.keep {S : Nat → Prop} {w w' : World} {v : Value} {n : Nat} {f : Nat → Value} (h : SlAt S w v n f) (k : Kept S w w') : SlAt S w' v n f := by
  obtain ⟨p, cap, rfl, hn, h⟩ := h
  refine ⟨p, cap, rfl, hn, ?_⟩
  rcases h with h | ⟨b, off, rfl, hS, h⟩
  · exact .inl h
  · refine .inr ⟨b, off, rfl, hS, fun i hi => ?_⟩
    have hlt : b < w.heap.size := World.block_lt_of_cell? w _ (h i hi)
    rw [World.cell?_of_block (a := ⟨b, off + i, none⟩) (k b hS hlt)]
    exact h i hi
theorem IntsAt.keep {S : Nat → Prop} {w w' : World} {v : Value} {xs : List Int} (h : IntsAt S w v xs) (k : Kept S w w') : IntsAt S w' v xs := SlAt.keep h k
theorem StrsAt.keep {S : Nat → Prop} {w w' : World} {v : Value} {xs : List ByteArray} (h : StrsAt S w v xs) (k : Kept S w w') : StrsAt S w' v xs := SlAt.keep h k
theorem RowsAt.keep {S : Nat → Prop} {w w' : World} {v : Value} {xs : List (List Int)} (h : RowsAt S w v xs) (k : Kept S w w') : RowsAt S w' v xs := by
  obtain ⟨f, h, hr⟩ := h
  exact ⟨f, h.keep k, fun i hi => (hr i hi).keep k⟩
theorem TreeAt.keep {S : Nat → Prop} {w w' : World} {v : Value} {t : Tre} (h : TreeAt S w v t) (k : Kept S w w') : TreeAt S w' v t := by
  obtain ⟨P, N, rfl, h1, h2⟩ := h
  exact ⟨P, N, rfl, h1.keep k, h2.keep k⟩
theorem SlAt.sub {S T : Nat → Prop} {w : World} {v : Value} {n : Nat} {f : Nat → Value} (h : SlAt S w v n f) (k : ∀ b, S b → b < w.heap.size → T b) : SlAt T w v n f := by
  obtain ⟨p, cap, rfl, hn, h⟩ := h
  refine ⟨p, cap, rfl, hn, ?_⟩
  rcases h with h | ⟨b, off, rfl, hS, h⟩
  · exact .inl h
  · by_cases hn0 : n = 0
    · exact .inl hn0
    · exact .inr ⟨b, off, rfl, k b hS (World.block_lt_of_cell? w _ (h 0 (by omega))), h⟩
theorem IntsAt.sub {S T : Nat → Prop} {w : World} {v : Value} {xs : List Int} (h : IntsAt S w v xs) (k : ∀ b, S b → b < w.heap.size → T b) : IntsAt T w v xs := SlAt.sub h k
theorem StrsAt.sub {S T : Nat → Prop} {w : World} {v : Value} {xs : List ByteArray} (h : StrsAt S w v xs) (k : ∀ b, S b → b < w.heap.size → T b) : StrsAt T w v xs := SlAt.sub h k
theorem Kept.below {S : Nat → Prop} {a b : World} (h : Below a.heap.size a b) : Kept S a b := fun i _ hl => h.block i hl
theorem SlAt.open {S : Nat → Prop} {w : World} {v : Value} {n : Nat} {f : Nat → Value} (h : SlAt S w v n f) :
    ∃ p cap, v = .slice p n cap ∧ n ≤ cap ∧ ∀ k, k < n → ∃ b off, p = some ⟨b, off, none⟩ ∧ w.cell? ⟨b, off + k, none⟩ = some (f k) := by
  obtain ⟨p, cap, rfl, hn, h⟩ := h
  refine ⟨p, cap, rfl, hn, fun k hk => ?_⟩
  rcases h with h | ⟨b, off, rfl, _, h⟩
  · omega
  · exact ⟨b, off, rfl, h k hk⟩
theorem below_drewN {B : Nat} {a w : World} (h : Below B a w) (n : Nat) : Below B a (w.drewN n) := ⟨h.os, h.tape, h.output, h.size, h.block⟩
theorem ret_int {k : IntKind} {a b : Int} (h : a = b) : Ending.returned (.int k a) = .returned (.int k b) := by rw [h]
theorem ret_bool {a b : Bool} (h : a = b) : Ending.returned (.bool a) = .returned (.bool b) := by rw [h]
end Go.Proofs.YtpjijbophjdgaaaGreat
