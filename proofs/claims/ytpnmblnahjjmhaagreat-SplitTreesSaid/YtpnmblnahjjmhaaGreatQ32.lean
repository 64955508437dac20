/- The contract of slices.SortFunc at lists of ints: the laying. Package intset: Complement .. -/
import Derived.Test.YtpnmblnahjjmhaaGreatQ1
import Derived.Shelf.SlGeneric
import Derived.Shelf.SlSortCmp.NoneTotal
import Derived.Test.YtpnmblnahjjmhaaGreatProg
import Derived.Test.YtpnmblnahjjmhaaGreatQ30
import Derived.Test.YtpnmblnahjjmhaaGreatQ4
set_option maxRecDepth 100000
namespace Go.Proofs
open Go.Shelf
def Tryz.sortRow_ren : Go.Shelf.Ren := ⟨fun | 6 => 93 | 15 => 163 | 14 => 166 | 28 => 215 | 29 => 216 | 20 => 218 | 21 => 219 | 22 => 220 | 23 => 221 | 24 => 222 | 25 => 223 | 26 => 224 | 27 => 225 | 46 => 274 | 47 => 269 | 48 => 270 | 49 => 275 | 50 => 276 | 57 => 299 | n => n, fun | 22 => 23 | 24 => 26 | 25 => 112 | 3 => 3 | 39 => 171 | 0 => 0 | 53 => 211 | 55 => 213 | 4 => 4 | 46 => 203 | 45 => 202 | 50 => 208 | 5 => 5 | 9 => 9 | 66 => 261 | 70 => 265 | 76 => 282 | 77 => 197 | n => n, fun | n => n⟩
theorem Tryz.sortRow : Go.Proofs.SlLaysF.n6 Tryz.prog Tryz.sortRow_ren := {
 mixed := by kernel_rfl
 f6 := ⟨Tryz.f93.name, by decide, Tryz.func93.trans (congrArg some (by kernel_rfl))⟩
 f14 := ⟨Tryz.f166.name, by decide, Tryz.func166.trans (congrArg some (by kernel_rfl))⟩
 f15 := Tryz.func163.trans (congrArg some (by kernel_rfl))
 f20 := ⟨Tryz.f218.name, by decide, Tryz.func218.trans (congrArg some (by kernel_rfl))⟩
 f21 := ⟨Tryz.f219.name, by decide, Tryz.func219.trans (congrArg some (by kernel_rfl))⟩
 f22 := ⟨Tryz.f220.name, by decide, Tryz.func220.trans (congrArg some (by kernel_rfl))⟩
 f23 := ⟨Tryz.f221.name, by decide, Tryz.func221.trans (congrArg some (by kernel_rfl))⟩
 f24 := ⟨Tryz.f222.name, by decide, Tryz.func222.trans (congrArg some (by kernel_rfl))⟩
 f25 := ⟨Tryz.f223.name, by decide, Tryz.func223.trans (congrArg some (by kernel_rfl))⟩
 f26 := ⟨Tryz.f224.name, by decide, Tryz.func224.trans (congrArg some (by kernel_rfl))⟩
 f27 := ⟨Tryz.f225.name, by decide, Tryz.func225.trans (congrArg some (by kernel_rfl))⟩
 f28 := Tryz.func215.trans (congrArg some (by kernel_rfl))
 f29 := Tryz.func216.trans (congrArg some (by kernel_rfl))
 f46 := ⟨Tryz.f274.name, by decide, Tryz.func274.trans (congrArg some (by kernel_rfl))⟩
 f47 := Tryz.func269.trans (congrArg some (by kernel_rfl))
 f48 := Tryz.func270.trans (congrArg some (by kernel_rfl))
 f49 := ⟨Tryz.f275.name, by decide, Tryz.func275.trans (congrArg some (by kernel_rfl))⟩
 f50 := ⟨Tryz.f276.name, by decide, Tryz.func276.trans (congrArg some (by kernel_rfl))⟩
 f57 := ⟨Tryz.f299.name, by decide, Tryz.func299.trans (congrArg some (by kernel_rfl))⟩
 t0 := Tryz.underlying0
 a0 := Tryz.isAgg0
 z0 := Tryz.sizeOf0
 v0 := Tryz.zeroValue0
 t3 := Tryz.underlying3
 a3 := Tryz.isAgg3
 z3 := Tryz.sizeOf3
 v3 := Tryz.zeroValue3
 t4 := Tryz.underlying4
 a4 := Tryz.isAgg4
 z4 := Tryz.sizeOf4
 v4 := Tryz.zeroValue4
 t5 := Tryz.underlying5
 a5 := Tryz.isAgg5
 z5 := Tryz.sizeOf5
 v5 := Tryz.zeroValue5
 t9 := Tryz.underlying9
 a9 := Tryz.isAgg9
 z9 := Tryz.sizeOf9
 v9 := Tryz.zeroValue9
 t22 := Tryz.underlying23
 a22 := Tryz.isAgg23
 z22 := Tryz.sizeOf23
 v22 := Tryz.zeroValue23
 a24 := Tryz.isAgg26
 z24 := Tryz.sizeOf26
 t25 := Tryz.underlying112
 a25 := Tryz.isAgg112
 z25 := Tryz.sizeOf112
 v25 := Tryz.zeroValue112
 t39 := Tryz.underlying171
 a39 := Tryz.isAgg171
 z39 := Tryz.sizeOf171
 v39 := Tryz.zeroValue171
 t45 := Tryz.underlying202
 a45 := Tryz.isAgg202
 z45 := Tryz.sizeOf202
 v45 := Tryz.zeroValue202
 t46 := Tryz.underlying203
 a46 := Tryz.isAgg203
 z46 := Tryz.sizeOf203
 v46 := Tryz.zeroValue203
 t50 := Tryz.underlying208
 a50 := Tryz.isAgg208
 z50 := Tryz.sizeOf208
 v50 := Tryz.zeroValue208
 t53 := Tryz.underlying211
 a53 := Tryz.isAgg211
 z53 := Tryz.sizeOf211
 v53 := Tryz.zeroValue211
 t55 := Tryz.underlying213
 a55 := Tryz.isAgg213
 z55 := Tryz.sizeOf213
 v55 := Tryz.zeroValue213
 t66 := Tryz.underlying261
 a66 := Tryz.isAgg261
 z66 := Tryz.sizeOf261
 v66 := Tryz.zeroValue261
 t70 := Tryz.underlying265
 a70 := Tryz.isAgg265
 z70 := Tryz.sizeOf265
 v70 := Tryz.zeroValue265
 t76 := Tryz.underlying282
 a76 := Tryz.isAgg282
 z76 := Tryz.sizeOf282
 v76 := Tryz.zeroValue282
 t77 := Tryz.underlying197
 a77 := Tryz.isAgg197
 z77 := Tryz.sizeOf197
 v77 := Tryz.zeroValue197 }
end Go.Proofs
namespace Go.Proofs.YtpnmblnahjjmhaaGreat
section
open Go.RowKit Go.Shelf Go.Deep
theorem x5 (w : World) (n : Int) (g : Nat) (lb : Array Value) :
  Calls Tryz.prog 172 #[.int .i64 n, .func (.func g) #[] lb] w fun e w' => e = .returned (.func (.func 229) #[] #[.pointer (some ⟨w.heap.size, 0, none⟩), .pointer (some ⟨w.heap.size + 1, 0, none⟩)]) ∧ w' = (w.alloc (.cells #[.int .i64 n] 3)).alloc (.cells #[.func (.func g) #[] lb] 91) := by
 go_enter Tryz.func172, Tryz.ntmps172
 go_wp2_with fail
 go_ret
 exact ⟨by simp, rfl⟩
theorem Ca (w : World) (B1 B2 N : Nat) (hN : N ≤ 64) (p : Int → Bool) (gf : Nat) (KJ : Array Value) (eg : ∀ args w, (callFunc gf args).run Tryz.prog w = .ok (.enter gf args) w)
  (hc1 : w.cell? ⟨B1, 0, none⟩ = some (.int .i64 (N : Int))) (hc2 : w.cell? ⟨B2, 0, none⟩ = some (.func (.func gf) #[] KJ))
  (UI : ∀ k : Nat, k < N → ∀ W', KS (· < w.heap.size) w W' → Calls Tryz.prog gf (#[.int .i64 k] ++ KJ) W' fun e w' => e = .returned (.bool (p k)) ∧ ∃ q, w' = W'.drewN q) :
  Calls Tryz.prog 171 #[.func (.func 229) #[] #[.pointer (some ⟨B1, 0, none⟩), .pointer (some ⟨B2, 0, none⟩)]] w (uI w (ey p N)) := by
 have hB1 : B1 < w.heap.size := World.block_lt_of_cell? w _ hc1
 have hB2 : B2 < w.heap.size := World.block_lt_of_cell? w _ hc2
 have HA := aa (Hl w 229 #[.pointer (some ⟨B1, 0, none⟩), .pointer (some ⟨B2, 0, none⟩)] (enters_of Tryz.func229 (by kernel_rfl) rfl) (ey p N) (fun w6 gp l J Jx W hW hJ _ hY h0 => by
  have hks : KS (· < w.heap.size) w W := fun b hb => (hW.block b (by have := gp.size; have : b < w.heap.size := hb; omega)).trans (Below.block gp b hb)
  exact (JL 8 l B1 B2 (· < w.heap.size) N hN p gf KJ eg J Jx hY W hJ ((hks.cell (p := ⟨B1, 0, none⟩) hB1).trans hc1) ((hks.cell (p := ⟨B2, 0, none⟩) hB2).trans hc2) hB1 hB2 (fun k hk W' ki => callsIn_wide.2 (UI k hk W' (hks.trans ki))) h0).mono fun _ _ ⟨h1, h2⟩ => ⟨h1, h2.imp (fun h => ⟨_, rfl, h⟩) id⟩) (by have := ja p N; omega))
 go_enter Tryz.func171, Tryz.ntmps171
 go_wp2_with fail
 refine HA.out.mono ?_
 rintro e w1 ⟨hu, v, rfl, ho⟩
 go_wp2_with fail
 go_ret
 exact ⟨hu, v, rfl, ho⟩
set_option maxHeartbeats 400000 in
theorem SK (S : Nat → Prop) (w : World) (b6 b1 : Nat) (v : Value) (l : List Int) (k : Int) (h6 : w.cell? ⟨b6, 0, none⟩ = some (.func (.func 226) #[] #[.pointer (some ⟨b1, 0, none⟩)])) (hb : w.cell? ⟨b1, 0, none⟩ = some v) (h : af S w v l) (hn : l.length ≤ 1000000) (ha : l.Pairwise (· < ·)) :
  Calls Tryz.prog 173 #[.int .i64 k, .pointer (some ⟨b6, 0, none⟩)] w fun e w' => e = .returned (.bool (!l.contains k)) ∧ ∃ q, w' = w.drewN q := by
 have HC := aa (Hj S w b1 v l k hb h hn ha)
 clear hb h ha
 go_enter Tryz.func173, Tryz.ntmps173
 go_wp2_with fail
 refine HC.out.mono ?_
 rintro e w' ⟨rfl, q, rfl⟩
 go_wp2_with fail
 go_ret
 exact ⟨aO (by simp), q, rfl⟩
set_option maxHeartbeats 400000 in
theorem SL (S : Nat → Prop) (w : World) (b5 b8 b9 c1 c2 : Nat) (v u : Value) (l m : List Int) (k : Int) (h5 : w.cell? ⟨b5, 0, none⟩ = some (.func (.func 253) #[] #[])) (h8 : w.cell? ⟨b8, 0, none⟩ = some (.func (.func 226) #[] #[.pointer (some ⟨c1, 0, none⟩)])) (h9 : w.cell? ⟨b9, 0, none⟩ = some (.func (.func 226) #[] #[.pointer (some ⟨c2, 0, none⟩)]))
  (hb : w.cell? ⟨c1, 0, none⟩ = some v) (h : af S w v l) (hn : l.length ≤ 1000000) (ha : l.Pairwise (· < ·)) (hb2 : w.cell? ⟨c2, 0, none⟩ = some u) (h2 : af S w u m) (hn2 : m.length ≤ 1000000) (ha2 : m.Pairwise (· < ·)) :
  Calls Tryz.prog 292 #[.int .i64 k, .pointer (some ⟨b5, 0, none⟩), .pointer (some ⟨b8, 0, none⟩), .pointer (some ⟨b9, 0, none⟩)] w fun e w' => e = .returned (.bool (l.contains k && m.contains k)) ∧ ∃ q, w' = w.drewN q := by
 have HC : Hid (∀ n, Calls Tryz.prog 226 #[.int .i64 k, .pointer (some ⟨c1, 0, none⟩)] (w.drewN n) fun e w' => e = .returned (.bool (l.contains k)) ∧ ∃ q, w' = w.drewN q) := fun n => by
  have hu := Up.drewN w n
  refine (Hj S _ c1 v l k (hu.cell hb) (af.keep h (hu.kept _)) hn ha).mono ?_
  rintro e w' ⟨rfl, q, rfl⟩
  exact ⟨rfl, n + q, by rw [World.drewN_drewN]⟩
 have HD : Hid (∀ n, Calls Tryz.prog 226 #[.int .i64 k, .pointer (some ⟨c2, 0, none⟩)] (w.drewN n) fun e w' => e = .returned (.bool (m.contains k)) ∧ ∃ q, w' = w.drewN q) := fun n => by
  have hu := Up.drewN w n
  refine (Hj S _ c2 u m k (hu.cell hb2) (af.keep h2 (hu.kept _)) hn2 ha2).mono ?_
  rintro e w' ⟨rfl, q, rfl⟩
  exact ⟨rfl, n + q, by rw [World.drewN_drewN]⟩
 have HE : Hid (∀ x y n, Calls Tryz.prog 253 #[.bool x, .bool y] (w.drewN n) fun e w' => e = .returned (.bool (x && y)) ∧ ∃ q, w' = w.drewN q) := fun x y n => by
  cases x
  ·go_enter Tryz.func253, Tryz.ntmps253
   go_wp2_with fail
   go_ret
   exact ⟨rfl, n, rfl⟩
  ·go_enter Tryz.func253, Tryz.ntmps253
   go_wp2_with fail
   go_ret
   exact ⟨rfl, n, rfl⟩
 clear hb h ha hb2 h2 ha2
 generalize l.contains k = x at *
 generalize m.contains k = y at *
 go_enter Tryz.func292, Tryz.ntmps292
 go_wp2_with fail
 go_big_quiet (first | with_reducible exact HC.out _ | with_reducible exact HD.out _ | with_reducible exact HE.out _ _ _)
 go_wp2_with fail
 go_ret
 exact ⟨rfl, _, rfl⟩
end
section
open Go.RowKit Go.Deep
section
variable {P : Program} {w : World}
end
end
section
def dF (n : Int) (l : List (List Int)) : Int := if 64 < l.length then 4 else if n < 1 ∨ 32 < n then 2 else firstNZ (fun k => aF n (gl l k)) l.length
def r8 (b : List (List Int)) (s : List Int) : Bool := (List.range b.length).any fun j => decide (s = gl b j)
theorem SM {b : List (List Int)} {s : List Int} : r8 b s = true ↔ s ∈ b := by
 unfold r8
 rw [List.any_eq_true]
 constructor
 ·rintro ⟨j, hj, e⟩
  rw [of_decide_eq_true e]; exact iC (List.mem_range.1 hj)
 ·intro h
  obtain ⟨k, hk, e⟩ := th h
  exact ⟨k, List.mem_range.2 hk, decide_eq_true e.symm⟩
def onlyK (a b : List (List Int)) : Nat → Nat
 | 0 => 0
 | k + 1 => onlyK a b k + if r8 b (gl a k) then 0 else 1
def dA (a b : List (List Int)) : Nat := onlyK a b a.length
def distN (a b : List (List Int)) : Nat := dA a b + dA b a
theorem r9 (a b : List (List Int)) : ∀ k, onlyK a b k ≤ k
 | 0 => Nat.le_refl _
 | k + 1 => by
  have := r9 a b k
  rw [onlyK]; split <;> omega
theorem yU (a b : List (List Int)) : dA a b ≤ a.length := r9 a b _
end
end Go.Proofs.YtpnmblnahjjmhaaGreat
