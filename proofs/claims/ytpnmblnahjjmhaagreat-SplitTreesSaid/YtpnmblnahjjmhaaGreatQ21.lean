/- The walk of SharederrorSupport. The walk of SharederrorLeaves. The contract of .. -/
import Derived.Test.YtpnmblnahjjmhaaGreatQ1
import Derived.Test.YtpnmblnahjjmhaaGreatQ20
import Derived.Test.YtpnmblnahjjmhaaGreatQ14
import Derived.Test.YtpnmblnahjjmhaaGreatQ19
import Derived.Test.YtpnmblnahjjmhaaGreatQ13
import Derived.Shelf.SlGeneric
import Derived.Shelf.Strings.BuilderK
import Derived.Ground.NamesProg
import Derived.Ground.Names2Prog
import Derived.Test.YtpnmblnahjjmhaaGreatProg
import Derived.Test.YtpnmblnahjjmhaaGreatQ12
import Derived.Test.YtpnmblnahjjmhaaGreatQ3
import Derived.Test.YtpnmblnahjjmhaaGreatQ16
set_option maxRecDepth 100000
namespace Go.Proofs.YtpnmblnahjjmhaaGreat
section
open Go.RowKit Go.Deep
end
section
open Go.RowKit Go.Deep
end
section
open Go.RowKit Go.Deep
end
section
open Go.RowKit Go.Deep
end
section
open Go.RowKit Go.Deep
section
variable {base n : Nat} {A : Nat → Nat} {kv : Nat → Value} {F : aT} {w w' : World}
end
end
section
section
variable {t : aA}
theorem qO (h : aB t = 0) : ∀ (d i j : Nat), t.ps.length - i ≤ d → i < t.ps.length → j < t.ps.length → bK (cF t) (bM t) i j = dm t.ps i j
 | 0, i, _, hd, hi, _ => by omega
 | d + 1, i, j, hd, hi, hj => by
  obtain ⟨_, _, _, hok, _⟩ := aH h
  have hw := (cg h).wf
  rw [Bool.eq_iff_iff, CO hok hj, gX hw hi, Bool.or_eq_true, beq_iff_eq, List.any_eq_true]
  constructor
  ·rintro (e | ⟨c, hc, e⟩)
   ·exact .inl e
   ·rw [fM] at hc
    obtain ⟨h1, h2, h3⟩ := bH.1 hc
    exact .inr ⟨c, h1, h2, h3, by rw [← qO h d c j (by omega) h1 hj]; exact e⟩
  ·rintro (e | ⟨c, h1, h2, h3, e⟩)
   ·exact .inl e
   ·exact .inr ⟨c, by rw [fM]; exact bH.2 ⟨h1, h2, h3⟩, by rw [qO h d c j (by omega) h1 hj]; exact e⟩
theorem Ed {ps : List Int} (hp : fK ps = true) {i k : Nat} (hik : i ≤ k) : ∀ (d j : Nat), j ≤ d → j < ps.length → dm ps i j = true → dm ps k j = true → dm ps i k = true
 | d, j, hd, hj, h1, h2 => by
  have hkj := nO hp hj h2
  by_cases e : j = k
  ·subst e; exact h1
  ·obtain ⟨p0, pj⟩ := kJ hp hj (by omega)
   rw [mC hp hj (by omega)] at h1 h2
   cases d with
   | zero => omega
   | succ d => exact Ed hp hik d (gi ps j).toNat (by omega) (by omega) h1 h2
end
end
end Go.Proofs.YtpnmblnahjjmhaaGreat
namespace Go.Proofs
open Go.Shelf
def Tryz.bldG_ren : Go.Shelf.Ren := ⟨fun | 169 => 130 | n => n, fun | 70 => 133 | 9 => 9 | 0 => 0 | 72 => 135 | 37 => 83 | 127 => 187 | 3 => 3 | 5 => 5 | n => n, fun | n => n⟩
theorem Tryz.bldG : Go.Proofs.Lays.n169 Tryz.prog Tryz.bldG_ren := {
 mixed := by kernel_rfl
 f169 := Tryz.func130.trans (congrArg some (by kernel_rfl))
 t0 := Tryz.underlying0
 a0 := Tryz.isAgg0
 z0 := Tryz.sizeOf0
 v0 := Tryz.zeroValue0
 t3 := Tryz.underlying3
 a3 := Tryz.isAgg3
 z3 := Tryz.sizeOf3
 v3 := Tryz.zeroValue3
 t9 := Tryz.underlying9
 a9 := Tryz.isAgg9
 z9 := Tryz.sizeOf9
 v9 := Tryz.zeroValue9
 t37 := Tryz.underlying83
 a37 := Tryz.isAgg83
 z37 := Tryz.sizeOf83
 v37 := Tryz.zeroValue83
 t70 := Tryz.underlying133
 a70 := Tryz.isAgg133
 z70 := Tryz.sizeOf133
 v70 := Tryz.zeroValue133
 t72 := Tryz.underlying135
 a72 := Tryz.isAgg135
 z72 := Tryz.sizeOf135
 v72 := Tryz.zeroValue135
 t127 := Tryz.underlying187
 a127 := Tryz.isAgg187
 z127 := Tryz.sizeOf187
 v127 := Tryz.zeroValue187 }
end Go.Proofs
namespace Go.Proofs.YtpnmblnahjjmhaaGreat
section
open Go.RowKit Go.Deep
end
section
open Go.RowKit Go.Deep
end
section
def jV (t : aA) (leaf z : Nat) : Bool := dm t.ps z leaf
def BQ (t : aA) (leaf z : Nat) : List Nat :=
 if z = t.ps.length then leaf :: (if leaf = 0 then [] else [(gi t.ps leaf).toNat])
 else if jV t leaf z = true ∧ z ≠ leaf then (bu t.ps z).filter (fun k => !jV t leaf k) ++ (if z = 0 then [] else [(gi t.ps z).toNat])
 else bu t.ps z
def sW (t : aA) (leaf : Nat) : aT := ⟨upd (gs t.ns) t.ps.length ByteArray.empty, upd (fun i => (i : Int)) t.ps.length 0, BQ t leaf⟩
def GF (t : aA) (leaf z : Nat) : Nat := if z = t.ps.length then 3 * t.ps.length + 3 else if jV t leaf z = true ∧ z ≠ leaf then t.ps.length + 1 + z else bM t z
structure cK (t : aA) (leaf : Nat) : Prop where
 te : aB t = 0
 lt : leaf < t.ps.length
 nm : (gs t.ns leaf).size ≠ 0
section
variable {t : aA} {leaf : Nat}
theorem cK.ok (h : cK t leaf) : fK t.ps = true := (aH h.te).2.2.2.1
theorem cK.BR (h : cK t leaf) : bu t.ps leaf = [] := by
 cases hk : bu t.ps leaf with
 | nil => rfl
 | cons k l =>
  obtain ⟨h1, h2, h3⟩ := bH.1 (show k ∈ bu t.ps leaf by rw [hk]; simp)
  exact absurd (tG h.te h1 h2 h3) h.nm
theorem cK.par (h : cK t leaf) {z : Nat} (hz : z < t.ps.length) (h0 : z ≠ 0) : ∃ q : Nat, gi t.ps z = q ∧ q < z := by
 have := kJ h.ok hz (by omega)
 exact ⟨(gi t.ps z).toNat, by omega, by omega⟩
theorem cK.uG (_h : cK t leaf) : jV t leaf leaf = true := vt leaf
theorem cK.BS (h : cK t leaf) {z : Nat} (hz : jV t leaf z = true) : z ≤ leaf := nO h.ok h.lt hz
theorem cK.xS (h : cK t leaf) {z q : Nat} (hz : jV t leaf z = true) (h0 : z ≠ 0) (hq : gi t.ps z = q) : jV t leaf q = true := by
 have hzl := h.BS hz
 have Kt : z < t.ps.length := Nat.lt_of_le_of_lt hzl h.lt
 obtain ⟨q', h1, h2⟩ := h.par Kt h0
 obtain rfl : q = q' := by omega
 exact (CO h.ok h.lt).2 (.inr ⟨z, Kt, h2, hq, hz⟩)
theorem cK.O4 (h : cK t leaf) {z : Nat} (hz : jV t leaf z = true) (hne : z ≠ leaf) : ∃ c, c < t.ps.length ∧ z < c ∧ gi t.ps c = z ∧ jV t leaf c = true := by
 rcases (CO h.ok h.lt).1 hz with e | ⟨c, h1, h2, h3, h4⟩
 ·exact absurd e.symm hne
 ·exact ⟨c, h1, h2, h3, h4⟩
theorem cK.GG (h : cK t leaf) {x y q : Nat} (hx : jV t leaf x = true) (hy : jV t leaf y = true) (hxy : x < y) (hq : gi t.ps y = q) : x ≤ q := by
 have DM : y < t.ps.length := Nat.lt_of_le_of_lt (h.BS hy) h.lt
 obtain ⟨q', h1, h2⟩ := h.par DM (by omega)
 obtain rfl : q = q' := by omega
 have h3 := Ed h.ok (Nat.le_of_lt hxy) leaf leaf (Nat.le_refl _) h.lt hx hy
 rw [mC h.ok DM hxy, hq] at h3
 exact nO h.ok (show q < _ by omega) h3
theorem cK.GH (h : cK t leaf) {x y q : Nat} (hx : jV t leaf x = true) (hy : jV t leaf y = true) (hx0 : q < x) (hy0 : q < y) (e1 : gi t.ps x = q) (e2 : gi t.ps y = q) : x = y := by
 rcases Nat.lt_trichotomy x y with c | c | c
 ·have := h.GG hx hy c e2; omega
 ·exact c
 ·have := h.GG hy hx c e1; omega
theorem O5 (h : cK t leaf) {p k : Nat} (hp : p < t.ps.length + 1) (hk : k ∈ (sW t leaf).kids p) :
  (p = t.ps.length ∧ k = leaf) ∨ (p = t.ps.length ∧ leaf ≠ 0 ∧ gi t.ps leaf = k ∧ k < leaf) ∨ (p < t.ps.length ∧ k < t.ps.length ∧ p < k ∧ gi t.ps k = p ∧ jV t leaf k = false) ∨ (p < t.ps.length ∧ jV t leaf p = true ∧ p ≠ leaf ∧ p ≠ 0 ∧ gi t.ps p = k ∧ k < p) := by
 have hk : k ∈ BQ t leaf p := hk
 unfold BQ at hk
 split at hk
 ·rename_i e
  rcases List.mem_cons.1 hk with e2 | e2
  ·exact .inl ⟨e, e2⟩
  ·split at e2
   ·cases e2
   ·rename_i h0
    have e2 : k = (gi t.ps leaf).toNat := by simpa using e2
    obtain ⟨q, h1, h2⟩ := h.par h.lt h0
    exact .inr (.inl ⟨e, h0, by omega, by omega⟩)
 ·rename_i e
  split at hk
  ·rename_i hz
   rcases List.mem_append.1 hk with h1 | h1
   ·obtain ⟨h1, h2⟩ := List.mem_filter.1 h1
    obtain ⟨h3, h4, h5⟩ := bH.1 h1
    exact .inr (.inr (.inl ⟨by omega, h3, h4, h5, by simpa using h2⟩))
   ·split at h1
    ·cases h1
    ·rename_i h0
     have h1 : k = (gi t.ps p).toNat := by simpa using h1
     obtain ⟨q, h2, h3⟩ := h.par (z := p) (by omega) h0
     exact .inr (.inr (.inr ⟨by omega, hz.1, hz.2, h0, by omega, by omega⟩))
  ·rename_i hz
   obtain ⟨h3, h4, h5⟩ := bH.1 hk
   refine .inr (.inr (.inl ⟨by omega, h3, h4, h5, ?_⟩))
   cases hc : jV t leaf k with
   | false => rfl
   | true =>
    have := h.xS hc (by omega) h5
    have : p = leaf := by
     by_cases c : p = leaf
     ·exact c
     ·exact absurd ⟨this, c⟩ hz
    rw [this, h.BR] at hk; cases hk
theorem Fe (_h : cK t leaf) {z : Nat} (hz : z < t.ps.length) (ho : jV t leaf z = true) (hne : z ≠ leaf) : GF t leaf z = t.ps.length + 1 + z := by
 unfold GF; rw [if_neg (by omega), if_pos ⟨ho, hne⟩]
theorem GI {z : Nat} (hz : z < t.ps.length) (ho : jV t leaf z = false ∨ z = leaf) : GF t leaf z = t.ps.length - z := by
 unfold GF; rw [if_neg (by omega), if_neg]
 ·rfl
 ·rintro ⟨h1, h2⟩
  rcases ho with e | e
  ·rw [e] at h1; cases h1
  ·exact h2 e
theorem Ku (h : cK t leaf) {z : Nat} (hz : z < t.ps.length + 1) (hk : (sW t leaf).kids z = []) : z < t.ps.length ∧ (bu t.ps z = [] ∨ (z = 0 ∧ (gs t.ns 0).size = 0)) := by
 have hk : BQ t leaf z = [] := hk
 unfold BQ at hk
 split at hk
 ·cases hk
 ·rename_i e
  refine ⟨by omega, ?_⟩
  split at hk
  ·rename_i hc
   obtain ⟨c, h1, h2, h3, _⟩ := h.O4 hc.1 hc.2
   by_cases h0 : z = 0
   ·subst h0; exact .inr ⟨rfl, tG h.te h1 h2 h3⟩
   ·rw [if_neg h0] at hk
    simp at hk
  ·exact .inl hk
theorem o5 (h : aB t = 0) {z : Nat} (hz : z < t.ps.length) (hk : bu t.ps z = []) : bq (gs t.ns z).data.toList = true := by
 obtain ⟨_, _, _, hok, _⟩ := aH h
 refine (uR h hz ?_).1
 cases hin : isIn t.ps z with
 | false => rfl
 | true => exact absurd hk ((j9 hok z).2 hin)
theorem X3 (h : cK t leaf) : rG (sW t leaf) (t.ps.length + 1) (GF t leaf) := by
 have hlt := h.lt
 refine ⟨⟨fun p hp k hk => ?_⟩, fun p q k hp hq h1 h2 => ?_, fun i hi => ?_, fun a b ha hb h1 h2 e => ?_⟩
 ·rcases O5 h hp hk with ⟨rfl, rfl⟩ | ⟨rfl, h0, e, iT⟩ | ⟨h1, h2, h3, e, ho⟩ | ⟨h1, ho, hne, h0, e, iT⟩
  ·refine ⟨by omega, ?_⟩
   rw [GI h.lt (.inr rfl)]
   unfold GF; rw [if_pos rfl]; omega
  ·refine ⟨by omega, ?_⟩
   rw [Fe h (by omega) (h.xS h.uG h0 e) (by omega)]
   unfold GF; rw [if_pos rfl]; omega
  ·refine ⟨by omega, ?_⟩
   rw [GI h2 (.inl ho)]
   by_cases c : jV t leaf p = true ∧ p ≠ leaf
   ·rw [Fe h h1 c.1 c.2]; omega
   ·have : jV t leaf p = false ∨ p = leaf := by
     cases hc : jV t leaf p with
     | false => exact .inl rfl
     | true => exact .inr (Classical.byContradiction fun x => c ⟨hc, x⟩)
    rw [GI h1 this]; omega
  ·refine ⟨by omega, ?_⟩
   rw [Fe h h1 ho hne, Fe h (by omega) (h.xS ho h0 e) (by have := h.BS ho; omega)]; omega
 ·have hon : ∀ p, p < t.ps.length + 1 → k ∈ (sW t leaf).kids p → (jV t leaf k = false ∧ p < t.ps.length ∧ gi t.ps k = p) ∨ (jV t leaf k = true ∧ (p = t.ps.length ∧ (k = leaf ∨ gi t.ps leaf = k ∧ k < leaf) ∨ p < t.ps.length ∧ jV t leaf p = true ∧ p ≠ leaf ∧ gi t.ps p = k ∧ k < p)) := fun p hp hk => by
   rcases O5 h hp hk with ⟨rfl, rfl⟩ | ⟨rfl, h0, e, iT⟩ | ⟨h1, h2, h3, e, ho⟩ | ⟨h1, ho, hne, h0, e, iT⟩
   ·exact .inr ⟨h.uG, .inl ⟨rfl, .inl rfl⟩⟩
   ·exact .inr ⟨h.xS h.uG h0 e, .inl ⟨rfl, .inr ⟨e, iT⟩⟩⟩
   ·exact .inl ⟨ho, h1, e⟩
   ·exact .inr ⟨h.xS ho h0 e, .inr ⟨h1, ho, hne, e, iT⟩⟩
  rcases hon p hp h1 with ⟨a1, a2, a3⟩ | ⟨a1, a2⟩
  ·rcases hon q hq h2 with ⟨_, b2, b3⟩ | ⟨b1, _⟩
   ·omega
   ·rw [a1] at b1; cases b1
  ·rcases hon q hq h2 with ⟨b1, _⟩ | ⟨_, b2⟩
   ·rw [a1] at b1; cases b1
   ·rcases a2 with ⟨a2, a3⟩ | ⟨a2, a3, a4, a5, a6⟩
    ·rcases b2 with ⟨b2, b3⟩ | ⟨b2, b3, b4, b5, b6⟩
     ·omega
     ·exfalso
      have := h.BS b3
      rcases a3 with e | ⟨e, e2⟩
      ·omega
      ·exact b4 (h.GH b3 h.uG b6 e2 b5 e)
    ·rcases b2 with ⟨b2, b3⟩ | ⟨b2, b3, b4, b5, b6⟩
     ·exfalso
      have := h.BS a3
      rcases b3 with e | ⟨e, e2⟩
      ·omega
      ·exact a4 (h.GH a3 h.uG a6 e2 a5 e)
     ·exact h.GH a3 b3 a6 b6 a5 b5
 ·show (BQ t leaf i).Nodup
  unfold BQ
  have hkn : (bu t.ps i).Nodup := List.Pairwise.filter _ List.nodup_range
  split
  ·split
   ·simp
   ·rename_i h0
    obtain ⟨q, h1, h2⟩ := h.par hlt h0
    simp; omega
  ·split
   ·split
    ·rw [List.append_nil]; exact hkn.filter _
    ·rename_i hi2 _ h0
     obtain ⟨q, h1, h2⟩ := h.par (z := i) (by omega) h0
     rw [List.nodup_append]
     refine ⟨hkn.filter _, by simp, fun a ha b hb e => ?_⟩
     have hb : b = (gi t.ps i).toNat := by simpa using hb
     have := (bH.1 (List.mem_filter.1 ha).1).2.1
     omega
   ·exact hkn
 ·obtain ⟨a1, a2⟩ := Ku h ha h1
  obtain ⟨b1, b2⟩ := Ku h hb h2
  have e : gs t.ns a = gs t.ns b := by
   have e : upd (gs t.ns) t.ps.length ByteArray.empty a = upd (gs t.ns) t.ps.length ByteArray.empty b := e
   rw [upd_ne _ _ (by omega), upd_ne _ _ (by omega)] at e; exact e
  rcases a2 with a2 | ⟨a2, a3⟩
  ·rcases b2 with b2 | ⟨b2, b3⟩
   ·exact (cg h.te).names a b a1 b1 a2 b2 e
   ·subst b2
    exact absurd b3 (by rw [← e]; exact dS (o5 h.te a1 a2))
  ·rcases b2 with b2 | ⟨b2, b3⟩
   ·subst a2
    exact absurd a3 (by rw [e]; exact dS (o5 h.te b1 b2))
   ·omega
end
end
section
open Go.RowKit Go.Deep
theorem GJ : (Tryz.prog.info? 135).map (·.size) = some 2 := by kernel_rfl
theorem Sg : liesAt Tryz.prog Tryz.prog.depth 135 (2 / Tryz.prog.cellsOf 135) 0 135 1 = true := by kernel_rfl
theorem GL : (Tryz.prog.info? 5).map (fun i => (i.zero, i.size, i.bytes)) = some (some (.int .u8 0), 1, 1) := by kernel_rfl
theorem O6 : (135 : TypeId) ≠ 5 := by decide
set_option maxHeartbeats 1000000 in
theorem VK (b : Nat) (w : World) (h0 : w.cell? ⟨b, 0, none⟩ = some (.pointer (some ⟨b, 0, none⟩))) :
  Calls Tryz.prog 191 #[.pointer (some ⟨b, 0, none⟩)] w fun e w' => e = .returned (.tuple #[]) ∧ w' = w := by
 obtain ⟨j, hj, _⟩ := Option.map_eq_some_iff.1 GJ
 go_enter Tryz.func191, Tryz.ntmps191
 go_wp2_with fail
 rw [Lib.run_neq_ptr_same w _ Tryz.underlying133 hj]
 go_wp2_with fail
 go_end0
 exact ⟨rfl, rfl⟩
set_option maxHeartbeats 1000000 in
theorem Sh (b : Nat) (w : World) (h0 : w.cell? ⟨b, 0, none⟩ = some (.pointer none)) (hsh : w.shape? b = some (135, 2)) (hfz : w.frozen? ⟨b, 0, none⟩ = false) :
  Calls Tryz.prog 191 #[.pointer (some ⟨b, 0, none⟩)] w fun e w' => e = .returned (.tuple #[]) ∧ w' = w.setCell ⟨b, 0, none⟩ (.pointer (some ⟨b, 0, none⟩)) := by
 obtain ⟨j, hj, hjs⟩ := Option.map_eq_some_iff.1 GJ
 go_enter Tryz.func191, Tryz.ntmps191
 go_wp2_with fail
 rw [Lib.run_to_unsafe w ⟨b, 0, none⟩ Tryz.underlying133 Tryz.underlying242 hj (by rw [hjs]; decide) hsh (Nat.zero_lt_succ 1)]
 simp only [Result.andThen]
 rw [Oper.upon_value]
 go_wp2_with fail
 rw [run_callFunc_extern Tryz.func245 (by kernel_rfl) (by kernel_rfl) (by kernel_rfl) (e := Extern.AbiNoEscape.same) (by kernel_rfl)]
 rw [Lib.run_noEscape]
 simp only [Result.andThen]
 rw [Oper.upon_value]
 go_wp2_with fail
 rw [Lib.run_from_unsafe w ⟨b, 0, none⟩ Tryz.underlying242 Tryz.underlying133 hj hsh Sg]
 simp only [Result.andThen]
 rw [Oper.upon_value]
 go_wp2_with fail
 go_end0
 exact ⟨rfl, rfl⟩
theorem X4 (B b : Nat) (bs : List Value) (w : World) (h : Lib.IsBuilderF 135 5 B b bs w) :
  Calls Tryz.prog 191 #[.pointer (some ⟨b, 0, none⟩)] w fun e w' => e = .returned (.tuple #[]) ∧ (Lib.BuilderAtF 135 5 B b (.pointer (some ⟨b, 0, none⟩)) bs w' ∧ Below B w w' ∧ Lib.OthersKept 5 (some b) w w') := by
 rcases h with h | h
 ·refine (Sh b w h.cell0 h.shape h.frozen0).mono ?_
  rintro e w' ⟨rfl, rfl⟩
  exact ⟨rfl, h.used _, (Below.refl B w).setCell (p := ⟨b, 0, none⟩) h.1 _, (Lib.OthersKept.refl _ _ w).setCell ⟨b, 0, none⟩ rfl _⟩
 ·refine (VK b w h.cell0).mono ?_
  rintro e w' ⟨rfl, rfl⟩
  exact ⟨rfl, h, Below.refl B _, Lib.OthersKept.refl _ _ _⟩
set_option maxHeartbeats 2000000 in
theorem CP (B b : Nat) (bs : List Value) (c : Int) (w : World) (h : Lib.IsBuilderF 135 5 B b bs w) (hlen : bs.length + 1 ≤ 140737488355328) (hBw : B ≤ w.heap.size) :
  Calls Tryz.prog 128 #[.pointer (some ⟨b, 0, none⟩), .int .u8 c] w fun e w' => e = .returned .nilIface ∧ (Lib.BuilderAtF 135 5 B b (.pointer (some ⟨b, 0, none⟩)) (bs ++ [.int .u8 c]) w' ∧ Below B w w' ∧ Lib.OthersKept 5 (some b) w w') := by
 obtain ⟨i0, hi, hzz⟩ := Option.map_eq_some_iff.1 GL
 simp only [Prod.mk.injEq] at hzz
 obtain ⟨hz0, hz1, hz2⟩ := hzz
 have GM := aa (X4 B b bs w h)
 clear h
 go_enter Tryz.func128, Tryz.ntmps128
 go_wp2_with fail
 refine GM.out.mono ?_
 rintro e w1 ⟨rfl, h1, hb1, gT⟩
 obtain ⟨hB, v, hbk, hown, hne⟩ := h1
 have c0 : w1.cell? ⟨b, 0, none⟩ = some (.pointer (some ⟨b, 0, none⟩)) := by rw [Lib.cell_of_heap hbk]; rfl
 have c1 : w1.cell? ⟨b, 1, none⟩ = some v := by rw [Lib.cell_of_heap hbk]; rfl
 go_wp2_with (at_builtin; refine wpList_append_ownF _ rfl _ _ 83 rfl B 5 i0 (.int .u8 0) 1 1 Tryz.underlying83 hi hz0 hz1 hz2 rfl (by decide) _ _ _ rfl (hown.alloc _) ⟨w1.heap.size, 0, none⟩ 1 1 [.int .u8 c] rfl rfl ?c1 ?c2 ?c3 ?c4 ?c5 ?_)
 case c1 =>
  intro j u hj
  match j, hj with
  | 0, hj => simp at hj; subst hj; simp [Addr.add]
 case c2 => intro u hu; simp at hu; subst hu; rfl
 case c3 => unfold maxLen; omega
 case c4 => omega
 case c5 => have := hb1.size; simp; omega
 intro v' w2 hown' hgrow _
 have hlt : b < w1.heap.size := by
  rcases Nat.lt_or_ge b w1.heap.size with h' | h'
  ·exact h'
  ·simp [Array.getElem?_eq_none h'] at hbk
 have hb2 : w2.heap[b]? = some (.cells #[.pointer (some ⟨b, 0, none⟩), v] 135 (0, 0)) := by
  rw [hgrow.block b (by simp; omega) (fun e => hne e.symm), Lib.alloc_old w1 _ b hlt]
  exact hbk
 have d0 : w2.cell? ⟨b, 0, none⟩ = some (.pointer (some ⟨b, 0, none⟩)) := by rw [Lib.cell_of_heap hb2]; rfl
 have d1 : w2.cell? ⟨b, 1, none⟩ = some v := by rw [Lib.cell_of_heap hb2]; rfl
 have f1 : w2.frozen? ⟨b, 1, none⟩ = false := Lib.frozen_of_heap hb2 1
 obtain ⟨g, cap, rfl⟩ : ∃ g cap, v' = .slice (some ⟨g, 0, none⟩) (bs.length + 1) cap := by
  rcases hown'.2 with ⟨_, h0⟩ | ⟨g, cap, cur, fz, hv, _⟩
  ·omega
  ·exact ⟨g, cap, hv⟩
 go_wp2_with fail
 go_ret
 refine ⟨rfl, ?_, ?_, ((gT.alloc _).grown hgrow (Lib.ownsRowF_kind (hown.alloc _))).setCell ⟨b, 1, none⟩ rfl _⟩
 ·exact Lib.BuilderAtF.put (T := 135) (e := 5) hB hb2 (bs' := bs ++ [.int .u8 c]) (by simpa using hown') O6
 ·exact ((hb1.alloc (by have := hb1.size; omega) _).grown hgrow (by have := hb1.size; simp; omega) (fun k hk => (hown.lt k hk).1)).setCell (p := ⟨b, 1, none⟩) hB _
set_option maxHeartbeats 2000000 in
theorem X5 (B b : Nat) (bs : List Value) (s : ByteArray) (w : World) (h : Lib.IsBuilderF 135 5 B b bs w) (hlen : bs.length + s.size ≤ 140737488355328) (hBw : B ≤ w.heap.size) :
  Calls Tryz.prog 127 #[.pointer (some ⟨b, 0, none⟩), .string s] w fun e w' => e = .returned (.tuple #[.int .i64 s.size, .nilIface]) ∧ (Lib.BuilderAtF 135 5 B b (.pointer (some ⟨b, 0, none⟩)) (bs ++ Lib.strCells s) w' ∧ Below B w w' ∧ Lib.OthersKept 5 (some b) w w') := by
 obtain ⟨i0, hi, hzz⟩ := Option.map_eq_some_iff.1 GL
 simp only [Prod.mk.injEq] at hzz
 obtain ⟨hz0, hz1, hz2⟩ := hzz
 have GM := aa (X4 B b bs w h)
 clear h
 go_enter Tryz.func127, Tryz.ntmps127
 go_wp2_with fail
 refine GM.out.mono ?_
 rintro e w1 ⟨rfl, h1, hb1, gT⟩
 obtain ⟨hB, v, hbk, hown, hne⟩ := h1
 have c0 : w1.cell? ⟨b, 0, none⟩ = some (.pointer (some ⟨b, 0, none⟩)) := by rw [Lib.cell_of_heap hbk]; rfl
 have c1 : w1.cell? ⟨b, 1, none⟩ = some v := by rw [Lib.cell_of_heap hbk]; rfl
 go_wp2_with (at_builtin; refine Lib.wpList_append_own_stringF _ rfl _ _ 83 9 rfl B 5 i0 Tryz.underlying83 Tryz.underlying9 hi hz0 hz1 hz2 _ _ _ rfl hown s rfl ?c3 ?c4 ?c5 ?_)
 case c3 => unfold maxLen; omega
 case c4 => omega
 case c5 => have := hb1.size; omega
 intro v' w2 hown' hgrow _
 have hlt : b < w1.heap.size := by
  rcases Nat.lt_or_ge b w1.heap.size with h' | h'
  ·exact h'
  ·simp [Array.getElem?_eq_none h'] at hbk
 have hb2 : w2.heap[b]? = some (.cells #[.pointer (some ⟨b, 0, none⟩), v] 135 (0, 0)) := by
  rw [hgrow.block b hlt (fun e => hne e.symm)]
  exact hbk
 have d0 : w2.cell? ⟨b, 0, none⟩ = some (.pointer (some ⟨b, 0, none⟩)) := by rw [Lib.cell_of_heap hb2]; rfl
 have d1 : w2.cell? ⟨b, 1, none⟩ = some v := by rw [Lib.cell_of_heap hb2]; rfl
 have f1 : w2.frozen? ⟨b, 1, none⟩ = false := Lib.frozen_of_heap hb2 1
 obtain ⟨ao, n', cap, rfl⟩ : ∃ ao n' cap, v' = .slice ao n' cap := by
  rcases hown'.2 with ⟨hv, _⟩ | ⟨g, cap, cur, fz, hv, _⟩
  ·exact ⟨_, _, _, hv⟩
  ·exact ⟨_, _, _, hv⟩
 go_wp2_with fail
 go_ret2
 refine ⟨rfl, ?_, ?_, (gT.grown hgrow (Lib.ownsRowF_kind hown)).setCell ⟨b, 1, none⟩ rfl _⟩
 ·exact Lib.BuilderAtF.put (T := 135) (e := 5) hB hb2 (bs' := bs ++ Lib.strCells s) (by simpa [Lib.strCells_length] using hown') O6
 ·exact (hb1.grown hgrow (by have := hb1.size; omega) (fun k hk => (hown.lt k hk).1)).setCell (p := ⟨b, 1, none⟩) hB _
theorem X6 (B b : Nat) (l : List UInt8) (w : World) (h : Lib.IsBuilderF 135 5 B b (Lib.byteCells l) w) (hBw : B ≤ w.heap.size) :
  Calls Tryz.prog 130 #[.pointer (some ⟨b, 0, none⟩)] w fun e w' => e = .returned (.string ⟨l.toArray⟩) ∧ (Lib.IsBuilderF 135 5 B b (Lib.byteCells l) w' ∧ Below B w w' ∧ Lib.OthersKept 5 (some b) w w') :=
 Any.Builder_String_any_k Tryz.bldG ⟨⟨by kernel_rfl, by kernel_rfl⟩, Tryz.underlying5, Tryz.isAgg5, Tryz.sizeOf5, Tryz.zeroValue5, by kernel_rfl, by kernel_rfl, by kernel_rfl, by decide⟩ B b l w h hBw
end
section
section
variable {t : aA}
end
section
variable {t : aA}
end
end
section
open Go.RowKit Go.Deep
end
section
section
variable {t : aA} {leaf : Nat}
end
section
variable {F : aT} {n : Nat} {rk : Nat → Nat} {P : Nat → Bool}
end
section
variable {t : aA} {leaf : Nat}
theorem Si (h : cK t leaf) {z : Nat} (hz : z < t.ps.length + 1) (hk : (sW t leaf).kids z ≠ []) : ((sW t leaf).nm z).size = 0 := by
 by_cases e : z = t.ps.length
 ·subst e
  show (upd (gs t.ns) _ _ _).size = 0
  rw [upd_same]; rfl
 ·show (upd (gs t.ns) _ _ z).size = 0
  rw [upd_ne _ _ e]
  by_cases c : bu t.ps z = []
  ·exfalso
   refine hk ?_
   show BQ t leaf z = []
   unfold BQ
   rw [if_neg e, c, if_neg]
   rintro ⟨h1, h2⟩
   obtain ⟨k, h3, h4, h5, _⟩ := h.O4 h1 h2
   have : k ∈ bu t.ps z := bH.2 ⟨h3, h4, h5⟩
   rw [c] at this; cases this
  ·obtain ⟨k, hk⟩ := List.exists_mem_of_ne_nil _ c
   obtain ⟨h3, h4, h5⟩ := bH.1 hk
   exact tG h.te h3 h4 h5
theorem Sj (h : cK t leaf) : ∀ a b, a < t.ps.length + 1 → b < t.ps.length + 1 → ((sW t leaf).nm a).size ≠ 0 → (sW t leaf).nm a = (sW t leaf).nm b → a = b := fun a b ha hb h0 e => by
 have key : ∀ c, c < t.ps.length + 1 → ((sW t leaf).nm c).size ≠ 0 → (sW t leaf).kids c = [] := fun c hc hn => by
  by_cases x : (sW t leaf).kids c = []
  ·exact x
  ·exact absurd (Si h hc x) hn
 exact (X3 h).names a b ha hb (key a ha h0) (key b hb (by rw [← e]; exact h0)) e
end
end
end Go.Proofs.YtpnmblnahjjmhaaGreat
