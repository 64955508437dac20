/- Package intset: Complement and Intersect at sets. Maps whose keys are numbers. The first pair that is not compatible; how many splits are of one tree only: plain. -/
import Derived.Test.YtpnmblnahjjmhaaGreatQ1
import Derived.Test.YtpnmblnahjjmhaaGreatQ29
import Derived.Test.YtpnmblnahjjmhaaGreatQ4
namespace Go.Proofs.YtpnmblnahjjmhaaGreat
set_option maxRecDepth 100000
section
open Go.RowKit Go.Shelf Go.Deep
theorem yx (w : World) (n : Int) (g : Nat) (lb : Array Value) :
  Calls Tryz.prog 172 #[.int .i64 n, .func (.func g) #[] lb] w fun e w' => e = .returned (.func (.func 229) #[] #[.pointer (some ⟨w.heap.size, 0, none⟩), .pointer (some ⟨w.heap.size + 1, 0, none⟩)]) ∧ w' = (w.alloc (.cells #[.int .i64 n] 3)).alloc (.cells #[.func (.func g) #[] lb] 91) := by
 aq Tryz.func172, Tryz.ntmps172
 aa fail
 ax
 exact ⟨by simp, rfl⟩
theorem Cl (w : World) (B1 B2 N : Nat) (hN : N ≤ 64) (p : Int → Bool) (gf : Nat) (KL : Array Value) (eg : ∀ args w, (callFunc gf args).run Tryz.prog w = .ok (.enter gf args) w)
  (hc1 : w.cell? ⟨B1, 0, none⟩ = some (.int .i64 (N : Int))) (fJ : w.cell? ⟨B2, 0, none⟩ = some (.func (.func gf) #[] KL))
  (UG : ∀ k : Nat, k < N → ∀ W', KS (· < w.heap.size) w W' → Calls Tryz.prog gf (#[.int .i64 k] ++ KL) W' fun e w' => e = .returned (.bool (p k)) ∧ ∃ q, w' = W'.drewN q) :
  Calls Tryz.prog 171 #[.func (.func 229) #[] #[.pointer (some ⟨B1, 0, none⟩), .pointer (some ⟨B2, 0, none⟩)]] w (ve w (ff p N)) := by
 have hB1 : B1 < w.heap.size := World.block_lt_of_cell? w _ hc1
 have hB2 : B2 < w.heap.size := World.block_lt_of_cell? w _ fJ
 have HA := ag (Hp w 229 #[.pointer (some ⟨B1, 0, none⟩), .pointer (some ⟨B2, 0, none⟩)] (enters_of Tryz.func229 (by af) rfl) (ff p N) (fun w6 gO l J Jx W hW hJ _ hY h0 => by
  have hks : KS (· < w.heap.size) w W := fun b hb => (hW.block b (by have := gO.size; have : b < w.heap.size := hb; omega)).trans (Below.block gO b hb)
  exact (JK 8 l B1 B2 (· < w.heap.size) N hN p gf KL eg J Jx hY W hJ ((hks.cell (p := ⟨B1, 0, none⟩) hB1).trans hc1) ((hks.cell (p := ⟨B2, 0, none⟩) hB2).trans fJ) hB1 hB2 (fun k hk W' kX => callsIn_wide.2 (UG k hk W' (hks.trans kX))) h0).mono fun _ _ ⟨h1, h2⟩ => ⟨h1, h2.imp (fun h => ⟨_, rfl, h⟩) id⟩) (by have := jE p N; omega))
 aq Tryz.func171, Tryz.ntmps171
 aa fail
 refine HA.out.mono ?_
 rintro e w1 ⟨hu, v, rfl, ho⟩
 aa fail
 ax
 exact ⟨hu, v, rfl, ho⟩
set_option maxHeartbeats 400000 in
theorem SJ (S : Nat → Prop) (w : World) (b6 b1 : Nat) (v : Value) (l : List Int) (k : Int) (h6 : w.cell? ⟨b6, 0, none⟩ = some (.func (.func 226) #[] #[.pointer (some ⟨b1, 0, none⟩)])) (hb : w.cell? ⟨b1, 0, none⟩ = some v) (h : an S w v l) (hn : l.length ≤ 1000000) (ha : l.Pairwise (· < ·)) :
  Calls Tryz.prog 173 #[.int .i64 k, .pointer (some ⟨b6, 0, none⟩)] w fun e w' => e = .returned (.bool (!l.contains k)) ∧ ∃ q, w' = w.drewN q := by
 have HC := ag (Ho S w b1 v l k hb h hn ha)
 clear hb h ha
 aq Tryz.func173, Tryz.ntmps173
 aa fail
 refine HC.out.mono ?_
 rintro e w' ⟨rfl, q, rfl⟩
 aa fail
 ax
 exact ⟨aZ (by simp), q, rfl⟩
set_option maxHeartbeats 400000 in
theorem SK (S : Nat → Prop) (w : World) (b5 b8 b9 c1 c2 : Nat) (v u : Value) (l m : List Int) (k : Int) (h5 : w.cell? ⟨b5, 0, none⟩ = some (.func (.func 253) #[] #[])) (h8 : w.cell? ⟨b8, 0, none⟩ = some (.func (.func 226) #[] #[.pointer (some ⟨c1, 0, none⟩)])) (h9 : w.cell? ⟨b9, 0, none⟩ = some (.func (.func 226) #[] #[.pointer (some ⟨c2, 0, none⟩)]))
  (hb : w.cell? ⟨c1, 0, none⟩ = some v) (h : an S w v l) (hn : l.length ≤ 1000000) (ha : l.Pairwise (· < ·)) (bK : w.cell? ⟨c2, 0, none⟩ = some u) (h2 : an S w u m) (hn2 : m.length ≤ 1000000) (ha2 : m.Pairwise (· < ·)) :
  Calls Tryz.prog 292 #[.int .i64 k, .pointer (some ⟨b5, 0, none⟩), .pointer (some ⟨b8, 0, none⟩), .pointer (some ⟨b9, 0, none⟩)] w fun e w' => e = .returned (.bool (l.contains k && m.contains k)) ∧ ∃ q, w' = w.drewN q := by
 have HC : Hid (∀ n, Calls Tryz.prog 226 #[.int .i64 k, .pointer (some ⟨c1, 0, none⟩)] (w.drewN n) fun e w' => e = .returned (.bool (l.contains k)) ∧ ∃ q, w' = w.drewN q) := fun n => by
  have hu := Up.drewN w n
  refine (Ho S _ c1 v l k (hu.cell hb) (an.keep h (hu.kept _)) hn ha).mono ?_
  rintro e w' ⟨rfl, q, rfl⟩
  exact ⟨rfl, n + q, by rw [World.drewN_drewN]⟩
 have HD : Hid (∀ n, Calls Tryz.prog 226 #[.int .i64 k, .pointer (some ⟨c2, 0, none⟩)] (w.drewN n) fun e w' => e = .returned (.bool (m.contains k)) ∧ ∃ q, w' = w.drewN q) := fun n => by
  have hu := Up.drewN w n
  refine (Ho S _ c2 u m k (hu.cell bK) (an.keep h2 (hu.kept _)) hn2 ha2).mono ?_
  rintro e w' ⟨rfl, q, rfl⟩
  exact ⟨rfl, n + q, by rw [World.drewN_drewN]⟩
 have HE : Hid (∀ x y n, Calls Tryz.prog 253 #[.bool x, .bool y] (w.drewN n) fun e w' => e = .returned (.bool (x && y)) ∧ ∃ q, w' = w.drewN q) := fun x y n => by
  cases x
  ·aq Tryz.func253, Tryz.ntmps253
   aa fail
   ax
   exact ⟨rfl, n, rfl⟩
  ·aq Tryz.func253, Tryz.ntmps253
   aa fail
   ax
   exact ⟨rfl, n, rfl⟩
 clear hb h ha bK h2 ha2
 generalize l.contains k = x at *
 generalize m.contains k = y at *
 aq Tryz.func292, Tryz.ntmps292
 aa fail
 cn (first | ah exact HC.out _ | ah exact HD.out _ | ah exact HE.out _ _ _)
 aa fail
 ax
 exact ⟨rfl, _, rfl⟩
end
section
open Go.RowKit Go.Deep
section
variable {P : Program} {w : World}
end
end
section
def ey (n : Int) (l : List (List Int)) : Int := if 64 < l.length then 4 else if n < 1 ∨ 32 < n then 2 else firstNZ (fun k => aN n (gl l k)) l.length
def sS (b : List (List Int)) (s : List Int) : Bool := (List.range b.length).any fun j => decide (s = gl b j)
theorem SL {b : List (List Int)} {s : List Int} : sS b s = true ↔ s ∈ b := by
 unfold sS
 rw [List.any_eq_true]
 constructor
 ·rintro ⟨j, hj, e⟩
  rw [of_decide_eq_true e]; exact iX (List.mem_range.1 hj)
 ·intro h
  obtain ⟨k, hk, e⟩ := tO h
  exact ⟨k, List.mem_range.2 hk, decide_eq_true e.symm⟩
def onlyK (a b : List (List Int)) : Nat → Nat
 | 0 => 0
 | k + 1 => onlyK a b k + if sS b (gl a k) then 0 else 1
def er (a b : List (List Int)) : Nat := onlyK a b a.length
def distN (a b : List (List Int)) : Nat := er a b + er b a
theorem sU (a b : List (List Int)) : ∀ k, onlyK a b k ≤ k
 | 0 => Nat.le_refl _
 | k + 1 => by
  have := sU a b k
  rw [onlyK]; split <;> omega
theorem zh (a b : List (List Int)) : er a b ≤ a.length := sU a b _
end
end Go.Proofs.YtpnmblnahjjmhaaGreat
