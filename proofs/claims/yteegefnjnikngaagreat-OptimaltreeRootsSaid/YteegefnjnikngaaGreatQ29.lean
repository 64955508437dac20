/- The contract of phylotree.Print. The contract of phylotree.Restrict. What Parse answers. .. -/
import Derived.Test.YteegefnjnikngaaGreatQ1
import Derived.Test.YteegefnjnikngaaGreatQ24
import Derived.Test.YteegefnjnikngaaGreatQ13
import Derived.Test.YteegefnjnikngaaGreatQ27
import Derived.Test.YteegefnjnikngaaGreatQ23
import Derived.Test.YteegefnjnikngaaGreatQ8
import Derived.Test.YteegefnjnikngaaGreatQ28
import Derived.Test.YteegefnjnikngaaGreatQ26
import Derived.Test.YteegefnjnikngaaGreatQ18
set_option maxRecDepth 100000
namespace Go.Proofs.YteegefnjnikngaaGreat
section
open Go.RowKit Go.Deep
mutual
theorem zA {M : Nat} : ∀ r : RT, (∀ s ∈ cQ r, s.size ≤ M) → (txR r).length + 1 ≤ aI r * (M + 3)
 | .node nm [], h => by
  rw [txR, aI, sizeRs]
  have h1 := h nm (by rw [cQ]; simp)
  have h2 : nm.data.toList.length = nm.size := by rw [Array.length_toList]; rfl
  omega
 | .node nm (k :: ks), h => by
  have h1 := zA k (fun s hs => h s (by rw [cQ, dr]; simp [hs]))
  have h2 := Jc ks (fun s hs => h s (by rw [cQ, dr]; simp [hs]))
  rw [txR, aI, sizeRs]
  simp only [List.length_cons, List.length_append, List.length_nil]
  rw [Nat.add_mul, Nat.add_mul]
  omega
theorem Jc {M : Nat} : ∀ rs : List RT, (∀ s ∈ dr rs, s.size ≤ M) → (txRs rs).length ≤ sizeRs rs * (M + 3)
 | [], _ => by rw [txRs]; exact Nat.zero_le _
 | r :: rs, h => by
  have h1 := zA r (fun s hs => h s (by rw [dr]; simp [hs]))
  have h2 := Jc rs (fun s hs => h s (by rw [dr]; simp [hs]))
  rw [txRs, sizeRs]
  simp only [List.length_cons, List.length_append]
  rw [Nat.add_mul]
  omega
end
theorem Jd {F : aP} {n : Nat} {rk : Nat → Nat} (h : Wf F n rk) {i : Nat} (hi : i < n) : cQ (aG F rk i) = (bF F rk i).map F.nm := by
 rw [lR, jO h hi (Nat.le_refl _), List.map_map]
 refine List.map_congr_left fun z hz => ?_
 exact nI h (iM h hi (Nat.le_refl _) ((bX h hi (Nat.le_refl _)).1 hz))
theorem LN {t : ax} (h : az t = 0) {M : Nat} (hz : ∀ k, (gs t.ns k).size ≤ M) : (txR (dU t)).length + 1 ≤ 64 * (M + 3) := by
 obtain ⟨hp, AZ, _⟩ := aH h
 have h1 := zA (M := M) (dU t) (fun s hs => by
  unfold dU at hs
  rw [Jd (cK h).wf hp] at hs
  obtain ⟨z, _, rfl⟩ := List.mem_map.1 hs
  exact hz z)
 have h2 : aI (dU t) ≤ t.ps.length := yP (cK h).wf hp (wK h)
 exact Nat.le_trans h1 (Nat.mul_le_mul_right _ (by omega))
def xL (t : ax) : Int := if az t ≠ 0 then 1 else 0
def ug (t : ax) : List UInt8 := if az t ≠ 0 then [] else txR (dU t) ++ [59]
def Cz (w : World) (t : ax) (e : Ending) (w' : World) : Prop := Up w w' ∧ e = .returned (.tuple #[.string ⟨(ug t).toArray⟩, .int .i64 (xL t)])
set_option maxHeartbeats 4000000 in
theorem Ww (S : Nat → Prop) (w : World) (v : Value) (t : ax) (hT : aC S w v t) (hp : t.ps.length ≤ 1000000) (hn : t.ns.length ≤ 1000000) (hz : ∀ k, (gs t.ns k).size ≤ 70000) :
  Calls Tryz.prog 36 #[v] w (Cz w t) := by
 obtain ⟨P, N, rfl, hP, hN⟩ := hT
 obtain ⟨pp, pc, rfl, _, _⟩ := aD.open hP
 obtain ⟨pn, pm, rfl, _, _⟩ := aD.open hN
 have hP : aB S w (.slice pp t.ps.length pc) t.ps := hP
 have hN : av S w (.slice pn t.ns.length pm) t.ns := hN
 have ha := Up.alloc w (.cells #[.slice pp t.ps.length pc, .slice pn t.ns.length pm] 39)
 have fB := aa (ew w (.slice pp t.ps.length pc) (.slice pn t.ns.length pm) 39)
 have jN := aa (ey w (.slice pp t.ps.length pc) (.slice pn t.ns.length pm) 39)
 have hsz : (w.alloc (.cells #[.slice pp t.ps.length pc, .slice pn t.ns.length pm] 39)).heap.size = w.heap.size + 1 := by simp
 have HU := aa ha
 have xI : Hid (aC S _ _ t) := aC.keep ⟨_, _, rfl, hP, hN⟩ (ha.kept S)
 have bQ := aa hsz
 have HZ := aa hz
 have hc0 := fB.out
 have hc1 := jN.out
 have fA := aa (oV S _ _ t xI.out hp hn hz)
 have LO : Hid (xL t = if az t ≠ 0 then 1 else 0) := rfl
 have HXT : Hid (ug t = if az t ≠ 0 then [] else txR (dU t) ++ [59]) := rfl
 clear ha hP hN hsz hz
 go_enter Tryz.func36, Tryz.ntmps36
 go_wp2_with fail
 generalize w.alloc (.cells #[.slice pp t.ps.length pc, .slice pn t.ns.length pm] 39) = w1 at *
 refine fA.out.mono ?_
 rintro e w2 ⟨rfl, aK⟩
 have aK : Up w1 w2 := aK
 have bH := aa aK
 have jC := aa (HU.out.trans aK)
 have hc0 := aK.cell fB.out
 have hc1 := aK.cell jN.out
 clear aK fA
 by_cases he : az t = 0
 ·obtain ⟨ni, AZ, hnl, hok, _⟩ := aH he
  have qI := aa he
  rw [he]
  have q9 := aa (aC.keep xI.out (bH.out.kept S))
  clear he hnl hok
  go_wp2_with fail
  have hb := blk_alloc_new w2 (.cells #[.pointer none, .slice none 0 0] 122)
  have cF := Up.alloc w2 (.cells #[.pointer none, .slice none 0 0] 122)
  have hs3 : (w2.alloc (.cells #[.pointer none, .slice none 0 0] 122)).heap.size = w2.heap.size + 1 := World.size_alloc _ _
  have E5 := blk_alloc_new (w2.alloc (.cells #[.pointer none, .slice none 0 0] 122)) (.cells #[.func (.func 97) #[] #[.pointer (some ⟨w2.heap.size, 0, none⟩), .pointer (some ⟨w2.heap.size + 1, 0, none⟩)]] 123)
  have b9 := Up.alloc (w2.alloc (.cells #[.pointer none, .slice none 0 0] 122)) (.cells #[.func (.func 97) #[] #[.pointer (some ⟨w2.heap.size, 0, none⟩), .pointer (some ⟨w2.heap.size + 1, 0, none⟩)]] 123)
  have hs4 : ((w2.alloc (.cells #[.pointer none, .slice none 0 0] 122)).alloc (.cells #[.func (.func 97) #[] #[.pointer (some ⟨w2.heap.size, 0, none⟩), .pointer (some ⟨w2.heap.size + 1, 0, none⟩)]] 123)).heap.size = w2.heap.size + 2 := by rw [World.size_alloc, hs3]
  have hb4 := (blk_alloc_lt (w2.alloc (.cells #[.pointer none, .slice none 0 0] 122)) (.cells #[.func (.func 97) #[] #[.pointer (some ⟨w2.heap.size, 0, none⟩), .pointer (some ⟨w2.heap.size + 1, 0, none⟩)]] 123) w2.heap.size (by omega)).trans hb
  rw [hs3] at E5
  have Nk := (cF.trans b9).cell hc0
  have Nl := (cF.trans b9).cell hc1
  have mD := aa (cF.trans b9)
  clear hb cF b9 hs3 hc0 hc1
  generalize (w2.alloc (.cells #[.pointer none, .slice none 0 0] 122)).alloc (.cells #[.func (.func 97) #[] #[.pointer (some ⟨w2.heap.size, 0, none⟩), .pointer (some ⟨w2.heap.size + 1, 0, none⟩)]] 123) = w4 at *
  have dX : Hid (tY w2.heap.size (w2.heap.size + 1) w4) := E5
  have Lz := dX.out.cell
  have HB4 := aa hb4
  have LD := aa hs4
  clear hs4 hb4 E5
  refine cU (by kernel_rfl) 6 (fun w' => w'.cell? ⟨w2.heap.size + 1, 0, none⟩ = some (.func (.func 97) #[] #[.pointer (some ⟨w2.heap.size, 0, none⟩), .pointer (some ⟨w2.heap.size + 1, 0, none⟩)]) ∧ w'.cell? ⟨w.heap.size, 0, none⟩ = some (.slice pp t.ps.length pc) ∧ w'.cell? ⟨w.heap.size, 1, none⟩ = some (.slice pn t.ns.length pm)) ⟨Lz, Nk, Nl⟩ (fun hS => ?_)
  simp only [List.size_toArray, List.length_cons, List.length_nil, Nat.reduceAdd, Array.replicate_succ, Array.replicate_zero, List.push_toArray, List.nil_append, List.cons_append]
  refine af.take (i := 0) (v := ?qc) rfl (by kernel_rfl) (fun _ _ _ h => h) (by rfl) (fun w hSw => ?gp) hS ?qd
  case gp =>
   (try dsimp only at hSw)
   go_simp
   try with_reducible rfl
  try simp only [Act.put, aq, ah, au]
  refine af.take (i := 1) (v := ?qf) rfl (by kernel_rfl) (fun _ _ _ h => h) (by rfl) (fun w hSw => ?gq) hS ?qg
  case gq =>
   (try dsimp only at hSw)
   go_simp
   try with_reducible rfl
  try simp only [Act.put, aq, ah, au]
  refine af.step (i := 2) rfl (by kernel_rfl) (fun K' hK => ?_)
  go_simp
  have HUD : Hid (Up w4 w4.drew) := Up.drewN w4 1
  obtain ⟨_, _, hnl, hok, _⟩ := aH qI.out
  have Fo := aa (Hl S w4.drew _ t (aC.keep q9.out ((mD.out.trans HUD.out).kept S)) (by omega) hnl hok HZ.out)
  refine Fo.out.mono ?_
  rintro e w5 ⟨eX, g, A, kv, tN, rfl, hF, hrow⟩
  have kN := hrow.cell (i := 0) ni
  simp only [aL] at kN
  have jQ := aa (HUD.out.trans eX)
  have hpos : (0 : Int) < (t.ps.length : Int) := by omega
  refine hK.out _ _ (fun _ => ⟨jQ.out.cell Lz, jQ.out.cell Nk, jQ.out.cell Nl⟩) (fun hS => ?_)
  try simp only [aq, ah, au]
  have HF := aa hF
  have Ar := aa tN
  have kU : Hid (xL t = 0) := by rw [Hid, LO.out, if_neg (by simp [qI.out])]
  have vD : Hid (ug t = txR (dU t) ++ [59]) := by rw [Hid, HXT.out, if_neg (by simp [qI.out])]
  have eT := aa (LN qI.out HZ.out)
  have uQ : Hid (Lib.IsBuilderF 122 5 w2.heap.size w2.heap.size (Lib.byteCells []) w5) := .inl ⟨Nat.le_refl _, _, (Below.block jQ.out _ (by rw [LD.out]; omega)).trans HB4.out, ⟨rfl, .inl ⟨rfl, rfl⟩⟩, fun e => by cases e⟩
  have HBX5 : Hid (tY w2.heap.size (w2.heap.size + 1) w5) := (Below.block jQ.out _ (by rw [LD.out]; omega)).trans dX.out
  have ct : Hid (w2.heap.size + 2 ≤ w5.heap.size) := by have := jQ.out.size; rw [LD.out] at this; exact this
  have Qj := aa (SN (base := g + 1) (n := t.ps.length) (B := w2.heap.size) (b := w2.heap.size) (fb := w2.heap.size + 1) (cK qI.out).wf (fun z _ => by have := jE t z; omega) (by have := LD.out; have h2 : w4.heap.size ≤ g := tN; omega) (by omega) (bY t 0) 0 [] w5 ni (Nat.le_refl _) hF HBX5.out uQ.out (by
   have := eT.out
   show 0 + (txR (dU t)).length ≤ _
   omega) (by have := ct.out; omega))
  clear hnl hok hF tN hrow Fo eX
  refine af.step (i := 3) rfl (by kernel_rfl) (fun K' hK => ?_)
  go_simp
  refine hK.out _ _ (fun _ => ⟨jQ.out.cell Lz, jQ.out.cell Nk, jQ.out.cell Nl⟩) (fun hS => ?_)
  try simp only [aq, ah, au]
  refine af.step (i := 4) rfl (by kernel_rfl) (fun K' hK => ?_)
  go_simp
  refine hK.out _ _ (fun _ => ⟨jQ.out.cell Lz, jQ.out.cell Nk, jQ.out.cell Nl⟩) (fun hS => ?_)
  try simp only [aq, ah, au]
  refine af.step (i := 5) rfl (by kernel_rfl) (fun K' hK => ?_)
  go_simp
  refine Qj.out.mono ?_
  rintro e w6 ⟨rfl, h6⟩
  refine hK.out _ _ (aJ (by kernel_rfl)) (fun hS => ?_)
  refine af.done (by kernel_rfl) ?_
  have HX3 : Hid (aG (dy t) (bY t) 0 = dU t) := rfl
  rw [List.nil_append, HX3.out] at h6
  have HB6 := aa h6
  have HWB := aa (Dq w2.heap.size w2.heap.size (Lib.byteCells (txR (dU t))) 59 w6 h6.bl (by rw [Lib.byteCells_length]; have := eT.out; omega) (h6.size (by have := ct.out; omega)))
  clear h6 Qj hS hK
  go_wp2_with fail
  refine HWB.out.mono ?_
  rintro e w7 ⟨rfl, h1, h2, h3⟩
  have HB7 := aa (HB6.out.byte (x := 59) rfl h1 h2 h3)
  have HST := aa (Yd w2.heap.size w2.heap.size (txR (dU t) ++ [59]) w7 HB7.out.bl (HB7.out.size (by have := ct.out; omega)))
  clear h1 h2 h3
  go_wp2_with fail
  refine HST.out.mono ?_
  rintro e w8 ⟨rfl, _, h2, _⟩
  have HB8 : Hid (Up w2 w8) := Below.trans (mD.out.trans jQ.out) (HB7.out.up.trans h2)
  clear h2
  go_wp2_with fail
  go_ret2
  exact ⟨jC.out.trans HB8.out, by rw [kU.out, vD.out]; rfl⟩
 ·have Ae : (az t != 0) = true := by simpa using he
  have kU : Hid (xL t = 1) := by rw [Hid, LO.out, if_pos he]
  have vD : Hid (ug t = []) := by rw [Hid, HXT.out, if_pos he]
  clear he
  generalize az t = te at *
  go_wp2_with fail
  go_ret2
  exact ⟨jC.out, by rw [kU.out, vD.out]; rfl⟩
end
section
open Go.RowKit Go.Deep
end
section
def uh (s : ByteArray) : Int := match jr s.data.toList with
 | none => 3
 | some r => az (flat r)
def ri (s : ByteArray) : ax := match jr s.data.toList with
 | none => ⟨[], []⟩
 | some r => if az (flat r) ≠ 0 then ⟨[], []⟩ else flat r
end
section
def cg (t : ax) (leaf z : Nat) : Bool := eY t.ps z leaf
def iA (t : ax) (leaf z : Nat) : List Nat :=
 if z = t.ps.length then leaf :: (if leaf = 0 then [] else [(gi t.ps leaf).toNat])
 else if cg t leaf z = true ∧ z ≠ leaf then (aQ t.ps z).filter (fun k => !cg t leaf k) ++ (if z = 0 then [] else [(gi t.ps z).toNat])
 else aQ t.ps z
def bI (t : ax) (leaf : Nat) : aP := ⟨upd (gs t.ns) t.ps.length ByteArray.empty, upd (fun i => (i : Int)) t.ps.length 0, iA t leaf⟩
def eM (t : ax) (leaf z : Nat) : Nat := if z = t.ps.length then 3 * t.ps.length + 3 else if cg t leaf z = true ∧ z ≠ leaf then t.ps.length + 1 + z else bY t z
structure aR (t : ax) (leaf : Nat) : Prop where
 te : az t = 0
 lt : leaf < t.ps.length
 nm : (gs t.ns leaf).size ≠ 0
section
variable {t : ax} {leaf : Nat}
theorem aR.ok (h : aR t leaf) : iJ t.ps = true := (aH h.te).2.2.2.1
theorem aR.pos (h : aR t leaf) : 0 < t.ps.length := (aH h.te).1
theorem aR.CA (h : aR t leaf) : aQ t.ps leaf = [] := by
 cases hk : aQ t.ps leaf with
 | nil => rfl
 | cons k l =>
  obtain ⟨h1, h2, h3⟩ := bf.1 (show k ∈ aQ t.ps leaf by rw [hk]; simp)
  exact absurd (kG h.te h1 h2 h3) h.nm
theorem aR.par (h : aR t leaf) {z : Nat} (hz : z < t.ps.length) (h0 : z ≠ 0) : ∃ q : Nat, gi t.ps z = q ∧ q < z := by
 have := mR h.ok hz (by omega)
 exact ⟨(gi t.ps z).toNat, by omega, by omega⟩
theorem aR.pV (_h : aR t leaf) : cg t leaf leaf = true := pJ leaf
theorem aR.oD (h : aR t leaf) {z : Nat} (hz : cg t leaf z = true) : z ≤ leaf := ou h.ok h.lt hz
theorem aR.mH (h : aR t leaf) {z q : Nat} (hz : cg t leaf z = true) (h0 : z ≠ 0) (hq : gi t.ps z = q) : cg t leaf q = true := by
 have hzl := h.oD hz
 have dP : z < t.ps.length := Nat.lt_of_le_of_lt hzl h.lt
 obtain ⟨q', h1, h2⟩ := h.par dP h0
 obtain rfl : q = q' := by omega
 exact (nK h.ok h.lt).2 (.inr ⟨z, dP, h2, hq, hz⟩)
theorem aR.yS (h : aR t leaf) {z : Nat} (hz : cg t leaf z = true) (hne : z ≠ leaf) : ∃ c, c < t.ps.length ∧ z < c ∧ gi t.ps c = z ∧ cg t leaf c = true := by
 rcases (nK h.ok h.lt).1 hz with e | ⟨c, h1, h2, h3, h4⟩
 ·exact absurd e.symm hne
 ·exact ⟨c, h1, h2, h3, h4⟩
theorem aR.Bd (h : aR t leaf) {x y q : Nat} (hx : cg t leaf x = true) (hy : cg t leaf y = true) (hxy : x < y) (hq : gi t.ps y = q) : x ≤ q := by
 have EL : y < t.ps.length := Nat.lt_of_le_of_lt (h.oD hy) h.lt
 obtain ⟨q', h1, h2⟩ := h.par EL (by omega)
 obtain rfl : q = q' := by omega
 have h3 := uf h.ok (Nat.le_of_lt hxy) leaf leaf (Nat.le_refl _) h.lt hx hy
 rw [jZ h.ok EL hxy, hq] at h3
 exact ou h.ok (show q < _ by omega) h3
theorem aR.vE (h : aR t leaf) {x y q : Nat} (hx : cg t leaf x = true) (hy : cg t leaf y = true) (hx0 : q < x) (hy0 : q < y) (e1 : gi t.ps x = q) (e2 : gi t.ps y = q) : x = y := by
 rcases Nat.lt_trichotomy x y with c | c | c
 ·have := h.Bd hx hy c e2; omega
 ·exact c
 ·have := h.Bd hy hx c e1; omega
theorem aR.LP (h : aR t leaf) : cg t leaf 0 = true := by
  have key : ∀ d z, z ≤ d → z < t.ps.length → eY t.ps 0 z = true := by
    intro d
    induction d with
    | zero => intro z hz _; obtain rfl : z = 0 := by omega
              exact pJ 0
    | succ d ih =>
      intro z hz hn
      by_cases h0 : z = 0
      · subst h0; exact pJ 0
      · obtain ⟨q, h1, h2⟩ := h.par hn h0
        rw [jZ h.ok hn (by omega), h1]
        exact ih q (by omega) (by omega)
  exact key leaf leaf (Nat.le_refl _) h.lt
theorem Qk (h : aR t leaf) {p k : Nat} (hp : p < t.ps.length + 1) (hk : k ∈ (bI t leaf).kids p) :
  (p = t.ps.length ∧ k = leaf) ∨ (p = t.ps.length ∧ leaf ≠ 0 ∧ gi t.ps leaf = k ∧ k < leaf) ∨ (p < t.ps.length ∧ k < t.ps.length ∧ p < k ∧ gi t.ps k = p ∧ cg t leaf k = false) ∨ (p < t.ps.length ∧ cg t leaf p = true ∧ p ≠ leaf ∧ p ≠ 0 ∧ gi t.ps p = k ∧ k < p) := by
 have hk : k ∈ iA t leaf p := hk
 unfold iA at hk
 split at hk
 ·rename_i e
  rcases List.mem_cons.1 hk with e2 | e2
  ·exact .inl ⟨e, e2⟩
  ·split at e2
   ·cases e2
   ·rename_i h0
    have e2 : k = (gi t.ps leaf).toNat := by simpa using e2
    obtain ⟨q, h1, h2⟩ := h.par h.lt h0
    exact .inr (.inl ⟨e, h0, by omega, by omega⟩)
 ·rename_i e
  split at hk
  ·rename_i hz
   rcases List.mem_append.1 hk with h1 | h1
   ·obtain ⟨h1, h2⟩ := List.mem_filter.1 h1
    obtain ⟨h3, h4, h5⟩ := bf.1 h1
    exact .inr (.inr (.inl ⟨by omega, h3, h4, h5, by simpa using h2⟩))
   ·split at h1
    ·cases h1
    ·rename_i h0
     have h1 : k = (gi t.ps p).toNat := by simpa using h1
     obtain ⟨q, h2, h3⟩ := h.par (z := p) (by omega) h0
     exact .inr (.inr (.inr ⟨by omega, hz.1, hz.2, h0, by omega, by omega⟩))
  ·rename_i hz
   obtain ⟨h3, h4, h5⟩ := bf.1 hk
   refine .inr (.inr (.inl ⟨by omega, h3, h4, h5, ?_⟩))
   cases hc : cg t leaf k with
   | false => rfl
   | true =>
    have := h.mH hc (by omega) h5
    have : p = leaf := by
     by_cases c : p = leaf
     ·exact c
     ·exact absurd ⟨this, c⟩ hz
    rw [this, h.CA] at hk; cases hk
theorem F8 (_h : aR t leaf) {z : Nat} (hz : z < t.ps.length) (ho : cg t leaf z = true) (hne : z ≠ leaf) : eM t leaf z = t.ps.length + 1 + z := by
 unfold eM; rw [if_neg (by omega), if_pos ⟨ho, hne⟩]
theorem Je {z : Nat} (hz : z < t.ps.length) (ho : cg t leaf z = false ∨ z = leaf) : eM t leaf z = t.ps.length - z := by
 unfold eM; rw [if_neg (by omega), if_neg]
 ·rfl
 ·rintro ⟨h1, h2⟩
  rcases ho with e | e
  ·rw [e] at h1; cases h1
  ·exact h2 e
theorem Nn (z : Nat) : z < t.ps.length + 1 → eM t leaf z ≤ 3 * t.ps.length + 3 := fun hz => by
 unfold eM bY
 split
 ·omega
 ·split <;> omega
theorem yT (h : aR t leaf) : (bI t leaf).kids leaf = [] := by
 show iA t leaf leaf = []
 unfold iA
 rw [if_neg (by have := h.lt; omega), if_neg (fun c => c.2 rfl)]
 exact h.CA
theorem DG (h : aR t leaf) {z : Nat} (hz : z < t.ps.length + 1) (hk : (bI t leaf).kids z = []) : z < t.ps.length ∧ (aQ t.ps z = [] ∨ (z = 0 ∧ (gs t.ns 0).size = 0)) := by
 have hk : iA t leaf z = [] := hk
 unfold iA at hk
 split at hk
 ·cases hk
 ·rename_i e
  refine ⟨by omega, ?_⟩
  split at hk
  ·rename_i hc
   obtain ⟨c, h1, h2, h3, _⟩ := h.yS hc.1 hc.2
   by_cases h0 : z = 0
   ·subst h0; exact .inr ⟨rfl, kG h.te h1 h2 h3⟩
   ·rw [if_neg h0] at hk
    simp at hk
  ·exact .inl hk
theorem qm (h : az t = 0) {z : Nat} (hz : z < t.ps.length) (hk : aQ t.ps z = []) : aZ (gs t.ns z).data.toList = true := by
 obtain ⟨_, _, _, hok, _⟩ := aH h
 refine (vW h hz ?_).1
 cases hin : isIn t.ps z with
 | false => rfl
 | true => exact absurd hk ((kY hok z).2 hin)
theorem fR (h : aR t leaf) : oK (bI t leaf) (t.ps.length + 1) (eM t leaf) := by
 have hlt := h.lt
 refine ⟨⟨fun p hp k hk => ?_⟩, fun p q k hp hq h1 h2 => ?_, fun i hi => ?_, fun a b ha hb h1 h2 e => ?_⟩
 ·rcases Qk h hp hk with ⟨rfl, rfl⟩ | ⟨rfl, h0, e, hlt2⟩ | ⟨h1, h2, h3, e, ho⟩ | ⟨h1, ho, hne, h0, e, hlt2⟩
  ·refine ⟨by omega, ?_⟩
   rw [Je h.lt (.inr rfl)]
   unfold eM; rw [if_pos rfl]; omega
  ·refine ⟨by omega, ?_⟩
   rw [F8 h (by omega) (h.mH h.pV h0 e) (by omega)]
   unfold eM; rw [if_pos rfl]; omega
  ·refine ⟨by omega, ?_⟩
   rw [Je h2 (.inl ho)]
   by_cases c : cg t leaf p = true ∧ p ≠ leaf
   ·rw [F8 h h1 c.1 c.2]; omega
   ·have : cg t leaf p = false ∨ p = leaf := by
     cases hc : cg t leaf p with
     | false => exact .inl rfl
     | true => exact .inr (Classical.byContradiction fun x => c ⟨hc, x⟩)
    rw [Je h1 this]; omega
  ·refine ⟨by omega, ?_⟩
   rw [F8 h h1 ho hne, F8 h (by omega) (h.mH ho h0 e) (by have := h.oD ho; omega)]; omega
 ·have hon : ∀ p, p < t.ps.length + 1 → k ∈ (bI t leaf).kids p → (cg t leaf k = false ∧ p < t.ps.length ∧ gi t.ps k = p) ∨ (cg t leaf k = true ∧ (p = t.ps.length ∧ (k = leaf ∨ gi t.ps leaf = k ∧ k < leaf) ∨ p < t.ps.length ∧ cg t leaf p = true ∧ p ≠ leaf ∧ gi t.ps p = k ∧ k < p)) := fun p hp hk => by
   rcases Qk h hp hk with ⟨rfl, rfl⟩ | ⟨rfl, h0, e, hlt2⟩ | ⟨h1, h2, h3, e, ho⟩ | ⟨h1, ho, hne, h0, e, hlt2⟩
   ·exact .inr ⟨h.pV, .inl ⟨rfl, .inl rfl⟩⟩
   ·exact .inr ⟨h.mH h.pV h0 e, .inl ⟨rfl, .inr ⟨e, hlt2⟩⟩⟩
   ·exact .inl ⟨ho, h1, e⟩
   ·exact .inr ⟨h.mH ho h0 e, .inr ⟨h1, ho, hne, e, hlt2⟩⟩
  rcases hon p hp h1 with ⟨a1, a2, a3⟩ | ⟨a1, a2⟩
  ·rcases hon q hq h2 with ⟨_, b2, b3⟩ | ⟨b1, _⟩
   ·omega
   ·rw [a1] at b1; cases b1
  ·rcases hon q hq h2 with ⟨b1, _⟩ | ⟨_, b2⟩
   ·rw [a1] at b1; cases b1
   ·rcases a2 with ⟨a2, a3⟩ | ⟨a2, a3, a4, a5, a6⟩
    ·rcases b2 with ⟨b2, b3⟩ | ⟨b2, b3, b4, b5, b6⟩
     ·omega
     ·exfalso
      have := h.oD b3
      rcases a3 with e | ⟨e, e2⟩
      ·omega
      ·exact b4 (h.vE b3 h.pV b6 e2 b5 e)
    ·rcases b2 with ⟨b2, b3⟩ | ⟨b2, b3, b4, b5, b6⟩
     ·exfalso
      have := h.oD a3
      rcases b3 with e | ⟨e, e2⟩
      ·omega
      ·exact a4 (h.vE a3 h.pV a6 e2 a5 e)
     ·exact h.vE a3 b3 a6 b6 a5 b5
 ·show (iA t leaf i).Nodup
  unfold iA
  have hkn : (aQ t.ps i).Nodup := List.Pairwise.filter _ List.nodup_range
  split
  ·split
   ·simp
   ·rename_i h0
    obtain ⟨q, h1, h2⟩ := h.par hlt h0
    simp; omega
  ·split
   ·split
    ·rw [List.append_nil]; exact hkn.filter _
    ·rename_i hi2 _ h0
     obtain ⟨q, h1, h2⟩ := h.par (z := i) (by omega) h0
     rw [List.nodup_append]
     refine ⟨hkn.filter _, by simp, fun a ha b hb e => ?_⟩
     have hb : b = (gi t.ps i).toNat := by simpa using hb
     have := (bf.1 (List.mem_filter.1 ha).1).2.1
     omega
   ·exact hkn
 ·obtain ⟨a1, a2⟩ := DG h ha h1
  obtain ⟨b1, b2⟩ := DG h hb h2
  have e : gs t.ns a = gs t.ns b := by
   have e : upd (gs t.ns) t.ps.length ByteArray.empty a = upd (gs t.ns) t.ps.length ByteArray.empty b := e
   rw [upd_ne _ _ (by omega), upd_ne _ _ (by omega)] at e; exact e
  rcases a2 with a2 | ⟨a2, a3⟩
  ·rcases b2 with b2 | ⟨b2, b3⟩
   ·exact (cK h.te).names a b a1 b1 a2 b2 e
   ·subst b2
    exact absurd b3 (by rw [← e]; exact lU (qm h.te a1 a2))
  ·rcases b2 with b2 | ⟨b2, b3⟩
   ·subst a2
    exact absurd a3 (by rw [e]; exact lU (qm h.te b1 b2))
   ·omega
theorem rr_len (h : aR t leaf) (z : Nat) (hz : z < t.ps.length + 1) : ((bI t leaf).kids z).length ≤ 1000 := by
 have LK := (aH h.te).2.1
 have := mQ ((fR h).nodup z hz) (fun k hk => ((fR h).wf.kid z hz k hk).1)
 omega
theorem s8 (h : aR t leaf) : ∀ z, z < t.ps.length + 1 → aM (bI t leaf) (eM t leaf) t.ps.length z = true := by
 have hw := (fR h).wf
 have hn : t.ps.length < t.ps.length + 1 := Nat.lt_succ_self _
 have step : ∀ {p z : Nat}, p < t.ps.length + 1 → z ∈ (bI t leaf).kids p → aM (bI t leaf) (eM t leaf) t.ps.length p = true → aM (bI t leaf) (eM t leaf) t.ps.length z = true := fun {p z} hp hz hs =>
  dV hw hn (Nat.le_refl _) hs (bz hw hp hz (aN hw (hw.kid p hp z hz).1))
 have hon : ∀ d z, leaf - z ≤ d → cg t leaf z = true → aM (bI t leaf) (eM t leaf) t.ps.length z = true := by
  intro d
  induction d with
  | zero =>
   intro z hd ho
   have := h.oD ho
   obtain rfl : z = leaf := by omega
   refine step hn ?_ (aN hw hn)
   show z ∈ iA t z t.ps.length
   unfold iA; rw [if_pos rfl]; simp
  | succ d ih =>
   intro z hd ho
   by_cases hne : z = leaf
   ·exact ih z (by omega) ho
   ·obtain ⟨c, h1, h2, h3, h4⟩ := h.yS ho hne
    by_cases hc : c = leaf
    ·subst hc
     refine step hn ?_ (aN hw hn)
     show z ∈ iA t c t.ps.length
     unfold iA; rw [if_pos rfl, if_neg (by omega), h3]; simp
    ·refine step (p := c) (by omega) ?_ (ih c (by omega) h4)
     show z ∈ iA t leaf c
     unfold iA; rw [if_neg (by omega), if_pos ⟨h4, hc⟩, if_neg (by omega), h3]; simp
 have hall : ∀ d z, z ≤ d → z < t.ps.length → aM (bI t leaf) (eM t leaf) t.ps.length z = true := by
  intro d
  induction d with
  | zero =>
   intro z hd hz
   obtain rfl : z = 0 := by omega
   exact hon leaf 0 (by omega) h.LP
  | succ d ih =>
   intro z hd hz
   cases ho : cg t leaf z with
   | true => exact hon leaf z (by omega) ho
   | false =>
    have h0 : z ≠ 0 := fun e => by subst e; rw [h.LP] at ho; cases ho
    obtain ⟨q, h1, h2⟩ := h.par hz h0
    refine step (p := q) (by omega) ?_ (ih q (by omega) (by omega))
    have hm : z ∈ aQ t.ps q := bf.2 ⟨hz, h2, h1⟩
    show z ∈ iA t leaf q
    unfold iA
    rw [if_neg (by omega)]
    split
    ·exact List.mem_append_left _ (List.mem_filter.2 ⟨hm, by simp [ho]⟩)
    ·exact hm
 intro z hz
 by_cases e : z = t.ps.length
 ·subst e; exact aN hw hz
 ·exact hall z z (Nat.le_refl _) (by omega)
end
end
section
section
variable {t : ax}
end
theorem Fp : ∀ (d : Nat) (r u : RT), aI r ≤ d → u ∈ subR r → contrR u ∈ subR (contrR r)
 | 0, r, _, hd, _ => by have := gW r; omega
 | d + 1, .node nm ks, u, hd, h => by
  rw [subR, List.mem_cons] at h
  rcases h with rfl | h
  ·exact jR _
  ·obtain ⟨k, hk, hs⟩ := yM h
   have ih := Fp d k u (by have := lu (nm := nm) hk; omega) hs
   by_cases h1 : ks.length = 1
   ·obtain ⟨q, rfl⟩ := List.length_eq_one_iff.1 h1
    have : k = q := by simpa using hk
    subst this
    rw [nN]; exact ih
   ·rw [j9 h1]
    exact fH _ (zv (List.mem_map.2 ⟨k, hk, rfl⟩)) ih
section
variable {t : ax}
end
end
section
open Go.RowKit Go.Deep
end
section
section
variable {ps : List Int}
end
end
end Go.Proofs.YteegefnjnikngaaGreat
