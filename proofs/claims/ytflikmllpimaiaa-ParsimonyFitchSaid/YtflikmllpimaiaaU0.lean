/- Plain: unit costs. -/
import Derived.Test.YtflikmllpimaiaaS
namespace Go.Proofs.Ytflikmllpimaiaa
def unitAt (a b : Nat) : Int := if a = b then 0 else 1
def unitRow (n a : Nat) : List Int := (List.range n).map (unitAt a)
def unitL (n : Nat) : List (List Int) := (List.range n).map (unitRow n)
def unitErr (n : Int) : Int := if n < 1 ∨ 16 < n then 2 else 0
def unitN (n : Int) : List (List Int) := if n < 1 ∨ 16 < n then [] else unitL n.toNat
theorem unitRow_len (n a : Nat) : (unitRow n a).length = n := by simp [unitRow]
theorem unitL_len (n : Nat) : (unitL n).length = n := by simp [unitL]
theorem gi_unitRow {n a b : Nat} (h : b < n) : gi (unitRow n a) b = unitAt a b := by simp [gi, unitRow, h]
theorem gl_unitL {n a : Nat} (h : a < n) : gl (unitL n) a = unitRow n a := by simp [gl, unitL, h]
end Go.Proofs.Ytflikmllpimaiaa
