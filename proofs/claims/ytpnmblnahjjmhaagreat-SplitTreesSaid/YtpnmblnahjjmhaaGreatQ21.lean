/- The walk of SharederrorSupport. The walk of SharederrorLeaves. The contract of phylotree.pruned. The contract of phylotree.made. Reroot: what its loop does to the forest. SharederrorClades, plain: the tree whose leaves are renamed, the lists of the leaves below its nodes. strings.Builder: WriteByte, WriteString, String: laid The walk of SharederrorNested. The contract of phylotree.Restrict. The turned forest: plain. strings.Builder: copyCheck, WriteByte, WriteString, String, with the frame that keeps the other blocks. SharederrorClades, plain: the groups of the nodes have no conflict; their tree is the tree without nodes that have one child. The walk of phylotree.Restrict. The turned forest: what the loop gives; what pruned leaves of it. Plain. -/
import Derived.Test.YtpnmblnahjjmhaaGreatQ1
import Derived.Test.YtpnmblnahjjmhaaGreatQ20
import Derived.Test.YtpnmblnahjjmhaaGreatQ14
import Derived.Test.YtpnmblnahjjmhaaGreatQ19
import Derived.Test.YtpnmblnahjjmhaaGreatQ13
import Derived.Shelf.SlGeneric
import Derived.Shelf.Strings.BuilderK
import Derived.Ground.NamesProg
import Derived.Ground.Names2Prog
import Derived.Test.YtpnmblnahjjmhaaGreatProg
import Derived.Test.YtpnmblnahjjmhaaGreatQ12
import Derived.Test.YtpnmblnahjjmhaaGreatQ3
import Derived.Test.YtpnmblnahjjmhaaGreatQ16
namespace Go.Proofs.YtpnmblnahjjmhaaGreat
set_option maxRecDepth 100000
section
open Go.RowKit Go.Deep
end
section
open Go.RowKit Go.Deep
end
section
open Go.RowKit Go.Deep
end
section
open Go.RowKit Go.Deep
end
section
open Go.RowKit Go.Deep
section
variable {base n : Nat} {A : Nat → Nat} {kv : Nat → Value} {F : bA} {w w' : World}
end
end
section
section
variable {t : aJ}
theorem rL (h : aK t = 0) : ∀ (d i j : Nat), t.ps.length - i ≤ d → i < t.ps.length → j < t.ps.length → cG (dr t) (cI t) i j = dU t.ps i j
 | 0, i, _, hd, hi, _ => by omega
 | d + 1, i, j, hd, hi, hj => by
  obtain ⟨_, _, _, hok, _⟩ := aP h
  have hw := (cS h).wf
  rw [Bool.eq_iff_iff, CY hok hj, iI hw hi, Bool.or_eq_true, beq_iff_eq, List.any_eq_true]
  constructor
  ·rintro (e | ⟨c, hc, e⟩)
   ·exact .inl e
   ·rw [gz] at hc
    obtain ⟨h1, h2, h3⟩ := cC.1 hc
    exact .inr ⟨c, h1, h2, h3, by rw [← rL h d c j (by omega) h1 hj]; exact e⟩
  ·rintro (e | ⟨c, h1, h2, h3, e⟩)
   ·exact .inl e
   ·exact .inr ⟨c, by rw [gz]; exact cC.2 ⟨h1, h2, h3⟩, by rw [rL h d c j (by omega) h1 hj]; exact e⟩
theorem Ei {ps : List Int} (hp : gx ps = true) {i k : Nat} (hik : i ≤ k) : ∀ (d j : Nat), j ≤ d → j < ps.length → dU ps i j = true → dU ps k j = true → dU ps i k = true
 | d, j, hd, hj, h1, h2 => by
  have hkj := oI hp hj h2
  by_cases e : j = k
  ·subst e; exact h1
  ·obtain ⟨p0, pj⟩ := lI hp hj (by omega)
   rw [ny hp hj (by omega)] at h1 h2
   cases d with
   | zero => omega
   | succ d => exact Ei hp hik d (gi ps j).toNat (by omega) (by omega) h1 h2
end
end Go.Proofs.YtpnmblnahjjmhaaGreat
namespace Go.Proofs
open Go.Shelf
end Go.Proofs
namespace Go.Proofs.YtpnmblnahjjmhaaGreat
open Go.RowKit Go.Deep
end
section
open Go.RowKit Go.Deep
end
section
def kP (t : aJ) (leaf z : Nat) : Bool := dU t.ps z leaf
def B5 (t : aJ) (leaf z : Nat) : List Nat :=
 if z = t.ps.length then leaf :: (if leaf = 0 then [] else [(gi t.ps leaf).toNat])
 else if kP t leaf z = true ∧ z ≠ leaf then (bO t.ps z).filter (fun k => !kP t leaf k) ++ (if z = 0 then [] else [(gi t.ps z).toNat])
 else bO t.ps z
def tD (t : aJ) (leaf : Nat) : bA := ⟨dQ (gs t.ns) t.ps.length ByteArray.empty, dQ (fun i => (i : Int)) t.ps.length 0, B5 t leaf⟩
def GI (t : aJ) (leaf z : Nat) : Nat := if z = t.ps.length then 3 * t.ps.length + 3 else if kP t leaf z = true ∧ z ≠ leaf then t.ps.length + 1 + z else cI t z
structure dz (t : aJ) (leaf : Nat) : Prop where
 te : aK t = 0
 lt : leaf < t.ps.length
 nm : (gs t.ns leaf).size ≠ 0
section
variable {t : aJ} {leaf : Nat}
theorem dz.ok (h : dz t leaf) : gx t.ps = true := (aP h.te).2.2.2.1
theorem dz.B6 (h : dz t leaf) : bO t.ps leaf = [] := by
 cases hk : bO t.ps leaf with
 | nil => rfl
 | cons k l =>
  obtain ⟨h1, h2, h3⟩ := cC.1 (show k ∈ bO t.ps leaf by rw [hk]; simp)
  exact absurd (ud h.te h1 h2 h3) h.nm
theorem dz.par (h : dz t leaf) {z : Nat} (hz : z < t.ps.length) (h0 : z ≠ 0) : ∃ q : Nat, gi t.ps z = q ∧ q < z := by
 have := lI h.ok hz (by omega)
 exact ⟨(gi t.ps z).toNat, by omega, by omega⟩
theorem dz.u7 (_h : dz t leaf) : kP t leaf leaf = true := vL leaf
theorem dz.B7 (h : dz t leaf) {z : Nat} (hz : kP t leaf z = true) : z ≤ leaf := oI h.ok h.lt hz
theorem dz.yg (h : dz t leaf) {z q : Nat} (hz : kP t leaf z = true) (h0 : z ≠ 0) (hq : gi t.ps z = q) : kP t leaf q = true := by
 have hzl := h.B7 hz
 have Ku : z < t.ps.length := Nat.lt_of_le_of_lt hzl h.lt
 obtain ⟨q', h1, h2⟩ := h.par Ku h0
 obtain rfl : q = q' := by omega
 exact (CY h.ok h.lt).2 (.inr ⟨z, Ku, h2, hq, hz⟩)
theorem dz.O6 (h : dz t leaf) {z : Nat} (hz : kP t leaf z = true) (hne : z ≠ leaf) : ∃ c, c < t.ps.length ∧ z < c ∧ gi t.ps c = z ∧ kP t leaf c = true := by
 rcases (CY h.ok h.lt).1 hz with e | ⟨c, h1, h2, h3, h4⟩
 ·exact absurd e.symm hne
 ·exact ⟨c, h1, h2, h3, h4⟩
theorem dz.GJ (h : dz t leaf) {x y q : Nat} (hx : kP t leaf x = true) (hy : kP t leaf y = true) (hxy : x < y) (hq : gi t.ps y = q) : x ≤ q := by
 have DV : y < t.ps.length := Nat.lt_of_le_of_lt (h.B7 hy) h.lt
 obtain ⟨q', h1, h2⟩ := h.par DV (by omega)
 obtain rfl : q = q' := by omega
 have h3 := Ei h.ok (Nat.le_of_lt hxy) leaf leaf (Nat.le_refl _) h.lt hx hy
 rw [ny h.ok DV hxy, hq] at h3
 exact oI h.ok (show q < _ by omega) h3
theorem dz.GL (h : dz t leaf) {x y q : Nat} (hx : kP t leaf x = true) (hy : kP t leaf y = true) (hx0 : q < x) (hy0 : q < y) (e1 : gi t.ps x = q) (e2 : gi t.ps y = q) : x = y := by
 rcases Nat.lt_trichotomy x y with c | c | c
 ·have := h.GJ hx hy c e2; omega
 ·exact c
 ·have := h.GJ hy hx c e1; omega
theorem O7 (h : dz t leaf) {p k : Nat} (hp : p < t.ps.length + 1) (hk : k ∈ (tD t leaf).kids p) :
  (p = t.ps.length ∧ k = leaf) ∨ (p = t.ps.length ∧ leaf ≠ 0 ∧ gi t.ps leaf = k ∧ k < leaf) ∨ (p < t.ps.length ∧ k < t.ps.length ∧ p < k ∧ gi t.ps k = p ∧ kP t leaf k = false) ∨ (p < t.ps.length ∧ kP t leaf p = true ∧ p ≠ leaf ∧ p ≠ 0 ∧ gi t.ps p = k ∧ k < p) := by
 have hk : k ∈ B5 t leaf p := hk
 unfold B5 at hk
 split at hk
 ·rename_i e
  rcases List.mem_cons.1 hk with e2 | e2
  ·exact .inl ⟨e, e2⟩
  ·split at e2
   ·cases e2
   ·rename_i h0
    have e2 : k = (gi t.ps leaf).toNat := by simpa using e2
    obtain ⟨q, h1, h2⟩ := h.par h.lt h0
    exact .inr (.inl ⟨e, h0, by omega, by omega⟩)
 ·rename_i e
  split at hk
  ·rename_i hz
   rcases List.mem_append.1 hk with h1 | h1
   ·obtain ⟨h1, h2⟩ := List.mem_filter.1 h1
    obtain ⟨h3, h4, h5⟩ := cC.1 h1
    exact .inr (.inr (.inl ⟨by omega, h3, h4, h5, by simpa using h2⟩))
   ·split at h1
    ·cases h1
    ·rename_i h0
     have h1 : k = (gi t.ps p).toNat := by simpa using h1
     obtain ⟨q, h2, h3⟩ := h.par (z := p) (by omega) h0
     exact .inr (.inr (.inr ⟨by omega, hz.1, hz.2, h0, by omega, by omega⟩))
  ·rename_i hz
   obtain ⟨h3, h4, h5⟩ := cC.1 hk
   refine .inr (.inr (.inl ⟨by omega, h3, h4, h5, ?_⟩))
   cases hc : kP t leaf k with
   | false => rfl
   | true =>
    have := h.yg hc (by omega) h5
    have : p = leaf := by
     by_cases c : p = leaf
     ·exact c
     ·exact absurd ⟨this, c⟩ hz
    rw [this, h.B6] at hk; cases hk
theorem Fj (_h : dz t leaf) {z : Nat} (hz : z < t.ps.length) (ho : kP t leaf z = true) (hne : z ≠ leaf) : GI t leaf z = t.ps.length + 1 + z := by
 unfold GI; rw [if_neg (by omega), if_pos ⟨ho, hne⟩]
theorem GM {z : Nat} (hz : z < t.ps.length) (ho : kP t leaf z = false ∨ z = leaf) : GI t leaf z = t.ps.length - z := by
 unfold GI; rw [if_neg (by omega), if_neg]
 ·rfl
 ·rintro ⟨h1, h2⟩
  rcases ho with e | e
  ·rw [e] at h1; cases h1
  ·exact h2 e
theorem Kv (h : dz t leaf) {z : Nat} (hz : z < t.ps.length + 1) (hk : (tD t leaf).kids z = []) : z < t.ps.length ∧ (bO t.ps z = [] ∨ (z = 0 ∧ (gs t.ns 0).size = 0)) := by
 have hk : B5 t leaf z = [] := hk
 unfold B5 at hk
 split at hk
 ·cases hk
 ·rename_i e
  refine ⟨by omega, ?_⟩
  split at hk
  ·rename_i hc
   obtain ⟨c, h1, h2, h3, _⟩ := h.O6 hc.1 hc.2
   by_cases h0 : z = 0
   ·subst h0; exact .inr ⟨rfl, ud h.te h1 h2 h3⟩
   ·rw [if_neg h0] at hk
    simp at hk
  ·exact .inl hk
theorem qd (h : aK t = 0) {z : Nat} (hz : z < t.ps.length) (hk : bO t.ps z = []) : bM (gs t.ns z).data.toList = true := by
 obtain ⟨_, _, _, hok, _⟩ := aP h
 refine (vq h hz ?_).1
 cases hin : isIn t.ps z with
 | false => rfl
 | true => exact absurd hk ((kW hok z).2 hin)
theorem X0 (h : dz t leaf) : si (tD t leaf) (t.ps.length + 1) (GI t leaf) := by
 have hlt := h.lt
 refine ⟨⟨fun p hp k hk => ?_⟩, fun p q k hp hq h1 h2 => ?_, fun i hi => ?_, fun a b ha hb h1 h2 e => ?_⟩
 ·rcases O7 h hp hk with ⟨rfl, rfl⟩ | ⟨rfl, h0, e, jw⟩ | ⟨h1, h2, h3, e, ho⟩ | ⟨h1, ho, hne, h0, e, jw⟩
  ·refine ⟨by omega, ?_⟩
   rw [GM h.lt (.inr rfl)]
   unfold GI; rw [if_pos rfl]; omega
  ·refine ⟨by omega, ?_⟩
   rw [Fj h (by omega) (h.yg h.u7 h0 e) (by omega)]
   unfold GI; rw [if_pos rfl]; omega
  ·refine ⟨by omega, ?_⟩
   rw [GM h2 (.inl ho)]
   by_cases c : kP t leaf p = true ∧ p ≠ leaf
   ·rw [Fj h h1 c.1 c.2]; omega
   ·have : kP t leaf p = false ∨ p = leaf := by
     cases hc : kP t leaf p with
     | false => exact .inl rfl
     | true => exact .inr (Classical.byContradiction fun x => c ⟨hc, x⟩)
    rw [GM h1 this]; omega
  ·refine ⟨by omega, ?_⟩
   rw [Fj h h1 ho hne, Fj h (by omega) (h.yg ho h0 e) (by have := h.B7 ho; omega)]; omega
 ·have hon : ∀ p, p < t.ps.length + 1 → k ∈ (tD t leaf).kids p → (kP t leaf k = false ∧ p < t.ps.length ∧ gi t.ps k = p) ∨ (kP t leaf k = true ∧ (p = t.ps.length ∧ (k = leaf ∨ gi t.ps leaf = k ∧ k < leaf) ∨ p < t.ps.length ∧ kP t leaf p = true ∧ p ≠ leaf ∧ gi t.ps p = k ∧ k < p)) := fun p hp hk => by
   rcases O7 h hp hk with ⟨rfl, rfl⟩ | ⟨rfl, h0, e, jw⟩ | ⟨h1, h2, h3, e, ho⟩ | ⟨h1, ho, hne, h0, e, jw⟩
   ·exact .inr ⟨h.u7, .inl ⟨rfl, .inl rfl⟩⟩
   ·exact .inr ⟨h.yg h.u7 h0 e, .inl ⟨rfl, .inr ⟨e, jw⟩⟩⟩
   ·exact .inl ⟨ho, h1, e⟩
   ·exact .inr ⟨h.yg ho h0 e, .inr ⟨h1, ho, hne, e, jw⟩⟩
  rcases hon p hp h1 with ⟨a1, a2, a3⟩ | ⟨a1, a2⟩
  ·rcases hon q hq h2 with ⟨_, b2, b3⟩ | ⟨b1, _⟩
   ·omega
   ·rw [a1] at b1; cases b1
  ·rcases hon q hq h2 with ⟨b1, _⟩ | ⟨_, b2⟩
   ·rw [a1] at b1; cases b1
   ·rcases a2 with ⟨a2, a3⟩ | ⟨a2, a3, a4, a5, a6⟩
    ·rcases b2 with ⟨b2, b3⟩ | ⟨b2, b3, b4, b5, b6⟩
     ·omega
     ·exfalso
      have := h.B7 b3
      rcases a3 with e | ⟨e, e2⟩
      ·omega
      ·exact b4 (h.GL b3 h.u7 b6 e2 b5 e)
    ·rcases b2 with ⟨b2, b3⟩ | ⟨b2, b3, b4, b5, b6⟩
     ·exfalso
      have := h.B7 a3
      rcases b3 with e | ⟨e, e2⟩
      ·omega
      ·exact a4 (h.GL a3 h.u7 a6 e2 a5 e)
     ·exact h.GL a3 b3 a6 b6 a5 b5
 ·show (B5 t leaf i).Nodup
  unfold B5
  have hkn : (bO t.ps i).Nodup := List.Pairwise.filter _ List.nodup_range
  split
  ·split
   ·simp
   ·rename_i h0
    obtain ⟨q, h1, h2⟩ := h.par hlt h0
    simp; omega
  ·split
   ·split
    ·rw [List.append_nil]; exact hkn.filter _
    ·rename_i hi2 _ h0
     obtain ⟨q, h1, h2⟩ := h.par (z := i) (by omega) h0
     rw [List.nodup_append]
     refine ⟨hkn.filter _, by simp, fun a ha b hb e => ?_⟩
     have hb : b = (gi t.ps i).toNat := by simpa using hb
     have := (cC.1 (List.mem_filter.1 ha).1).2.1
     omega
   ·exact hkn
 ·obtain ⟨a1, a2⟩ := Kv h ha h1
  obtain ⟨b1, b2⟩ := Kv h hb h2
  have e : gs t.ns a = gs t.ns b := by
   have e : dQ (gs t.ns) t.ps.length ByteArray.empty a = dQ (gs t.ns) t.ps.length ByteArray.empty b := e
   rw [bU _ _ (by omega), bU _ _ (by omega)] at e; exact e
  rcases a2 with a2 | ⟨a2, a3⟩
  ·rcases b2 with b2 | ⟨b2, b3⟩
   ·exact (cS h.te).names a b a1 b1 a2 b2 e
   ·subst b2
    exact absurd b3 (by rw [← e]; exact eS (qd h.te a1 a2))
  ·rcases b2 with b2 | ⟨b2, b3⟩
   ·subst a2
    exact absurd a3 (by rw [e]; exact eS (qd h.te b1 b2))
   ·omega
end
end
section
open Go.RowKit Go.Deep
theorem GN : (Tryz.prog.info? 135).map (·.size) = some 2 := by af
theorem Se : liesAt Tryz.prog Tryz.prog.depth 135 (2 / Tryz.prog.cellsOf 135) 0 135 1 = true := by af
theorem GO : (Tryz.prog.info? 5).map (fun i => (i.zero, i.size, i.bytes)) = some (some (.int .u8 0), 1, 1) := by af
theorem O8 : (135 : TypeId) ≠ 5 := by decide
set_option maxHeartbeats 1000000 in
theorem VJ (b : Nat) (w : World) (h0 : w.cell? ⟨b, 0, none⟩ = some (.pointer (some ⟨b, 0, none⟩))) :
  Calls Tryz.prog 191 #[.pointer (some ⟨b, 0, none⟩)] w fun e w' => e = .returned (.tuple #[]) ∧ w' = w := by
 obtain ⟨j, hj, _⟩ := Option.map_eq_some_iff.1 GN
 aq Tryz.func191, Tryz.ntmps191
 aa fail
 rw [Lib.run_neq_ptr_same w _ Tryz.underlying133 hj]
 aa fail
 rH
 exact ⟨rfl, rfl⟩
set_option maxHeartbeats 1000000 in
theorem Sf (b : Nat) (w : World) (h0 : w.cell? ⟨b, 0, none⟩ = some (.pointer none)) (hsh : w.shape? b = some (135, 2)) (hfz : w.frozen? ⟨b, 0, none⟩ = false) :
  Calls Tryz.prog 191 #[.pointer (some ⟨b, 0, none⟩)] w fun e w' => e = .returned (.tuple #[]) ∧ w' = w.setCell ⟨b, 0, none⟩ (.pointer (some ⟨b, 0, none⟩)) := by
 obtain ⟨j, hj, hjs⟩ := Option.map_eq_some_iff.1 GN
 aq Tryz.func191, Tryz.ntmps191
 aa fail
 rw [Lib.run_to_unsafe w ⟨b, 0, none⟩ Tryz.underlying133 Tryz.underlying242 hj (by rw [hjs]; decide) hsh (Nat.zero_lt_succ 1)]
 simp only [Result.andThen]
 rw [Oper.upon_value]
 aa fail
 rw [run_callFunc_extern Tryz.func245 (by af) (by af) (by af) (e := Extern.AbiNoEscape.same) (by af)]
 rw [Lib.run_noEscape]
 simp only [Result.andThen]
 rw [Oper.upon_value]
 aa fail
 rw [Lib.run_from_unsafe w ⟨b, 0, none⟩ Tryz.underlying242 Tryz.underlying133 hj hsh Se]
 simp only [Result.andThen]
 rw [Oper.upon_value]
 aa fail
 rH
 exact ⟨rfl, rfl⟩
theorem X1 (B b : Nat) (bs : List Value) (w : World) (h : Lib.IsBuilderF 135 5 B b bs w) :
  Calls Tryz.prog 191 #[.pointer (some ⟨b, 0, none⟩)] w fun e w' => e = .returned (.tuple #[]) ∧ (Lib.BuilderAtF 135 5 B b (.pointer (some ⟨b, 0, none⟩)) bs w' ∧ Below B w w' ∧ Lib.OthersKept 5 (some b) w w') := by
 rcases h with h | h
 ·refine (Sf b w h.cell0 h.shape h.frozen0).mono ?_
  rintro e w' ⟨rfl, rfl⟩
  exact ⟨rfl, h.used _, (Below.refl B w).setCell (p := ⟨b, 0, none⟩) h.1 _, (Lib.OthersKept.refl _ _ w).setCell ⟨b, 0, none⟩ rfl _⟩
 ·refine (VJ b w h.cell0).mono ?_
  rintro e w' ⟨rfl, rfl⟩
  exact ⟨rfl, h, Below.refl B _, Lib.OthersKept.refl _ _ _⟩
set_option maxHeartbeats 2000000 in
theorem CZ (B b : Nat) (bs : List Value) (c : Int) (w : World) (h : Lib.IsBuilderF 135 5 B b bs w) (hlen : bs.length + 1 ≤ 140737488355328) (hBw : B ≤ w.heap.size) :
  Calls Tryz.prog 128 #[.pointer (some ⟨b, 0, none⟩), .int .u8 c] w fun e w' => e = .returned .nilIface ∧ (Lib.BuilderAtF 135 5 B b (.pointer (some ⟨b, 0, none⟩)) (bs ++ [.int .u8 c]) w' ∧ Below B w w' ∧ Lib.OthersKept 5 (some b) w w') := by
 obtain ⟨i0, hi, je⟩ := Option.map_eq_some_iff.1 GO
 simp only [Prod.mk.injEq] at je
 obtain ⟨tE, hz1, iR⟩ := je
 have GP := ag (X1 B b bs w h)
 clear h
 aq Tryz.func128, Tryz.ntmps128
 aa fail
 refine GP.out.mono ?_
 rintro e w1 ⟨rfl, h1, cB, iE⟩
 obtain ⟨hB, v, hbk, hown, hne⟩ := h1
 have c0 : w1.cell? ⟨b, 0, none⟩ = some (.pointer (some ⟨b, 0, none⟩)) := by rw [Lib.cell_of_heap hbk]; rfl
 have c1 : w1.cell? ⟨b, 1, none⟩ = some v := by rw [Lib.cell_of_heap hbk]; rfl
 aa (bR; refine wpList_append_ownF _ rfl _ _ 83 rfl B 5 i0 (.int .u8 0) 1 1 Tryz.underlying83 hi tE hz1 iR rfl (by decide) _ _ _ rfl (hown.alloc _) ⟨w1.heap.size, 0, none⟩ 1 1 [.int .u8 c] rfl rfl ?c1 ?c2 ?c3 ?c4 ?c5 ?_)
 case c1 =>
  intro j u hj
  match j, hj with
  | 0, hj => simp at hj; subst hj; simp [Addr.add]
 case c2 => intro u hu; simp at hu; subst hu; rfl
 case c3 => unfold maxLen; omega
 case c4 => omega
 case c5 => have := cB.size; simp; omega
 intro v' w2 hown' hgrow _
 have hlt : b < w1.heap.size := by
  rcases Nat.lt_or_ge b w1.heap.size with h' | h'
  ·exact h'
  ·simp [Array.getElem?_eq_none h'] at hbk
 have bK : w2.heap[b]? = some (.cells #[.pointer (some ⟨b, 0, none⟩), v] 135 (0, 0)) := by
  rw [hgrow.block b (by simp; omega) (fun e => hne e.symm), Lib.alloc_old w1 _ b hlt]
  exact hbk
 have d0 : w2.cell? ⟨b, 0, none⟩ = some (.pointer (some ⟨b, 0, none⟩)) := by rw [Lib.cell_of_heap bK]; rfl
 have d1 : w2.cell? ⟨b, 1, none⟩ = some v := by rw [Lib.cell_of_heap bK]; rfl
 have f1 : w2.frozen? ⟨b, 1, none⟩ = false := Lib.frozen_of_heap bK 1
 obtain ⟨g, cap, rfl⟩ : ∃ g cap, v' = .slice (some ⟨g, 0, none⟩) (bs.length + 1) cap := by
  rcases hown'.2 with ⟨_, h0⟩ | ⟨g, cap, cur, fz, hv, _⟩
  ·omega
  ·exact ⟨g, cap, hv⟩
 aa fail
 ax
 refine ⟨rfl, ?_, ?_, ((iE.alloc _).grown hgrow (Lib.ownsRowF_kind (hown.alloc _))).setCell ⟨b, 1, none⟩ rfl _⟩
 ·exact Lib.BuilderAtF.put (T := 135) (e := 5) hB bK (bs' := bs ++ [.int .u8 c]) (by simpa using hown') O8
 ·exact ((cB.alloc (by have := cB.size; omega) _).grown hgrow (by have := cB.size; simp; omega) (fun k hk => (hown.lt k hk).1)).setCell (p := ⟨b, 1, none⟩) hB _
set_option maxHeartbeats 2000000 in
theorem X2 (B b : Nat) (bs : List Value) (s : ByteArray) (w : World) (h : Lib.IsBuilderF 135 5 B b bs w) (hlen : bs.length + s.size ≤ 140737488355328) (hBw : B ≤ w.heap.size) :
  Calls Tryz.prog 127 #[.pointer (some ⟨b, 0, none⟩), .string s] w fun e w' => e = .returned (.tuple #[.int .i64 s.size, .nilIface]) ∧ (Lib.BuilderAtF 135 5 B b (.pointer (some ⟨b, 0, none⟩)) (bs ++ Lib.strCells s) w' ∧ Below B w w' ∧ Lib.OthersKept 5 (some b) w w') := by
 obtain ⟨i0, hi, je⟩ := Option.map_eq_some_iff.1 GO
 simp only [Prod.mk.injEq] at je
 obtain ⟨tE, hz1, iR⟩ := je
 have GP := ag (X1 B b bs w h)
 clear h
 aq Tryz.func127, Tryz.ntmps127
 aa fail
 refine GP.out.mono ?_
 rintro e w1 ⟨rfl, h1, cB, iE⟩
 obtain ⟨hB, v, hbk, hown, hne⟩ := h1
 have c0 : w1.cell? ⟨b, 0, none⟩ = some (.pointer (some ⟨b, 0, none⟩)) := by rw [Lib.cell_of_heap hbk]; rfl
 have c1 : w1.cell? ⟨b, 1, none⟩ = some v := by rw [Lib.cell_of_heap hbk]; rfl
 aa (bR; refine Lib.wpList_append_own_stringF _ rfl _ _ 83 9 rfl B 5 i0 Tryz.underlying83 Tryz.underlying9 hi tE hz1 iR _ _ _ rfl hown s rfl ?c3 ?c4 ?c5 ?_)
 case c3 => unfold maxLen; omega
 case c4 => omega
 case c5 => have := cB.size; omega
 intro v' w2 hown' hgrow _
 have hlt : b < w1.heap.size := by
  rcases Nat.lt_or_ge b w1.heap.size with h' | h'
  ·exact h'
  ·simp [Array.getElem?_eq_none h'] at hbk
 have bK : w2.heap[b]? = some (.cells #[.pointer (some ⟨b, 0, none⟩), v] 135 (0, 0)) := by
  rw [hgrow.block b hlt (fun e => hne e.symm)]
  exact hbk
 have d0 : w2.cell? ⟨b, 0, none⟩ = some (.pointer (some ⟨b, 0, none⟩)) := by rw [Lib.cell_of_heap bK]; rfl
 have d1 : w2.cell? ⟨b, 1, none⟩ = some v := by rw [Lib.cell_of_heap bK]; rfl
 have f1 : w2.frozen? ⟨b, 1, none⟩ = false := Lib.frozen_of_heap bK 1
 obtain ⟨ao, n', cap, rfl⟩ : ∃ ao n' cap, v' = .slice ao n' cap := by
  rcases hown'.2 with ⟨hv, _⟩ | ⟨g, cap, cur, fz, hv, _⟩
  ·exact ⟨_, _, _, hv⟩
  ·exact ⟨_, _, _, hv⟩
 aa fail
 pE
 refine ⟨rfl, ?_, ?_, (iE.grown hgrow (Lib.ownsRowF_kind hown)).setCell ⟨b, 1, none⟩ rfl _⟩
 ·exact Lib.BuilderAtF.put (T := 135) (e := 5) hB bK (bs' := bs ++ Lib.strCells s) (by simpa [Lib.strCells_length] using hown') O8
 ·exact (cB.grown hgrow (by have := cB.size; omega) (fun k hk => (hown.lt k hk).1)).setCell (p := ⟨b, 1, none⟩) hB _
theorem X3 (B b : Nat) (l : List UInt8) (w : World) (h : Lib.IsBuilderF 135 5 B b (Lib.byteCells l) w) (hBw : B ≤ w.heap.size) :
  Calls Tryz.prog 130 #[.pointer (some ⟨b, 0, none⟩)] w fun e w' => e = .returned (.string ⟨l.toArray⟩) ∧ (Lib.IsBuilderF 135 5 B b (Lib.byteCells l) w' ∧ Below B w w' ∧ Lib.OthersKept 5 (some b) w w') :=
 Any.Builder_String_any_k Tryz.bldG ⟨⟨by af, by af⟩, Tryz.underlying5, Tryz.isAgg5, Tryz.sizeOf5, Tryz.zeroValue5, by af, by af, by af, by decide⟩ B b l w h hBw
end
section
section
variable {t : aJ}
end
section
variable {t : aJ}
end
end
section
open Go.RowKit Go.Deep
end
section
section
variable {t : aJ} {leaf : Nat}
end
section
variable {F : bA} {n : Nat} {rk : Nat → Nat} {P : Nat → Bool}
end
section
variable {t : aJ} {leaf : Nat}
theorem Sg (h : dz t leaf) {z : Nat} (hz : z < t.ps.length + 1) (hk : (tD t leaf).kids z ≠ []) : ((tD t leaf).nm z).size = 0 := by
 by_cases e : z = t.ps.length
 ·subst e
  show (dQ (gs t.ns) _ _ _).size = 0
  rw [bB]; rfl
 ·show (dQ (gs t.ns) _ _ z).size = 0
  rw [bU _ _ e]
  by_cases c : bO t.ps z = []
  ·exfalso
   refine hk ?_
   show B5 t leaf z = []
   unfold B5
   rw [if_neg e, c, if_neg]
   rintro ⟨h1, h2⟩
   obtain ⟨k, h3, h4, h5, _⟩ := h.O6 h1 h2
   have : k ∈ bO t.ps z := cC.2 ⟨h3, h4, h5⟩
   rw [c] at this; cases this
  ·obtain ⟨k, hk⟩ := List.exists_mem_of_ne_nil _ c
   obtain ⟨h3, h4, h5⟩ := cC.1 hk
   exact ud h.te h3 h4 h5
theorem Sh (h : dz t leaf) : ∀ a b, a < t.ps.length + 1 → b < t.ps.length + 1 → ((tD t leaf).nm a).size ≠ 0 → (tD t leaf).nm a = (tD t leaf).nm b → a = b := fun a b ha hb h0 e => by
 have key : ∀ c, c < t.ps.length + 1 → ((tD t leaf).nm c).size ≠ 0 → (tD t leaf).kids c = [] := fun c hc hn => by
  by_cases x : (tD t leaf).kids c = []
  ·exact x
  ·exact absurd (Sg h hc x) hn
 exact (X0 h).names a b ha hb (key a ha h0) (key b hb (by rw [← e]; exact h0)) e
end
end
end Go.Proofs.YtpnmblnahjjmhaaGreat
