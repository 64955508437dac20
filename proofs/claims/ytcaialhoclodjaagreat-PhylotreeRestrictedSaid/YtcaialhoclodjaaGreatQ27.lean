/- The helpers of the statements on layer 31: below, find, names, example. strings.IndexAny: laid Parse: what its loop keeps in memory. -/
import Derived.Test.YtcaialhoclodjaaGreatQ26
import Derived.Test.YtcaialhoclodjaaGreatQ2
import Derived.Test.YtcaialhoclodjaaGreatQ3
import Derived.Test.YtcaialhoclodjaaGreatQ22
import Derived.Test.YtcaialhoclodjaaGreatQ15
import Derived.Test.YtcaialhoclodjaaGreatQ17
import Derived.Shelf.SlGeneric
import Derived.Shelf.Strings.IndexAnyAll
import Derived.Ground.NamesProg
import Derived.Ground.Names2Prog
import Derived.Test.YtcaialhoclodjaaGreatProg
import Derived.Test.YtcaialhoclodjaaGreatQ20
import Derived.Test.YtcaialhoclodjaaGreatQ25
import Derived.Test.YtcaialhoclodjaaGreatQ10
import Derived.Test.YtcaialhoclodjaaGreatQ13
namespace Go.Proofs.YtcaialhoclodjaaGreat
open Go.RowKit Go.Deep
@[go_sem high] theorem run_max0_4 (w : World) (ts : Array TypeId) (t : TypeId) (k : IntKind) : (Builtin.max_ ts t #[.int k 0, .int k 0, .int k 0, .int k 0]).run Tryz.prog w = .ok (.int k 0) w := by
  simp [Builtin.max_, Builtin.max2]
@[go_sem high] theorem run_max0_5 (w : World) (ts : Array TypeId) (t : TypeId) (k : IntKind) : (Builtin.max_ ts t #[.int k 0, .int k 0, .int k 0, .int k 0, .int k 0]).run Tryz.prog w = .ok (.int k 0) w := by
  simp [Builtin.max_, Builtin.max2]
@[go_sem high] theorem run_max0_6 (w : World) (ts : Array TypeId) (t : TypeId) (k : IntKind) : (Builtin.max_ ts t #[.int k 0, .int k 0, .int k 0, .int k 0, .int k 0, .int k 0]).run Tryz.prog w = .ok (.int k 0) w := by
  simp [Builtin.max_, Builtin.max2]
@[go_sem high] theorem run_max0_7 (w : World) (ts : Array TypeId) (t : TypeId) (k : IntKind) : (Builtin.max_ ts t #[.int k 0, .int k 0, .int k 0, .int k 0, .int k 0, .int k 0, .int k 0]).run Tryz.prog w = .ok (.int k 0) w := by
  simp [Builtin.max_, Builtin.max2]
theorem flt_take31 {ns : List ByteArray} {k : Nat} (hk : k < ns.length) : fltN (ns.take (k + 1)) = fltN (ns.take k) ++ if (gs ns k).size = 0 then [] else [gs ns k] := by
  have hg : gs ns k = ns[k] := by simp [gs, hk]
  rw [List.take_succ_eq_append_getElem hk, fltN_app, ← hg]
  congr 1
  unfold fltN
  by_cases h : (gs ns k).size = 0
  · rw [if_pos h, List.filter_cons_of_neg (by simp [h])]; rfl
  · rw [if_neg h, List.filter_cons_of_pos (by simpa using h)]; rfl
set_option maxRecDepth 100000 in
set_option maxHeartbeats 2000000 in
theorem find31_t (S : Nat → Prop) (w : World) (v : Value) (t : Tre) (x : ByteArray) (hT : TreeAt S w v t) (hn : t.ns.length ≤ 1000000) :
    Calls Tryz.prog 32 #[v, .string x] w fun e w' => e = .returned (.int .i64 (firstIx (fun j => decide (x = gs t.ns j)) t.ns.length)) ∧ Up w w' := by
  obtain ⟨P, N, rfl, hP, hN⟩ := hT
  obtain ⟨np, nc, rfl, _, _⟩ := SlAt.open hN
  have hN : StrsAt S w (.slice np t.ns.length nc) t.ns := hN
  have hu := Up.alloc w (.cells #[P, .slice np t.ns.length nc] 25)
  have hc1 := box2_1 w P (.slice np t.ns.length nc) 25
  have HI := Lib.hid (index_str_t S _ _ t.ns.length (gs t.ns) x (StrsAt.keep hN (hu.kept S)) hn)
  have HU := Lib.hid hu
  clear hu hP hN
  go_enter Tryz.func32, Tryz.ntmps32
  go_wp2_with fail
  refine HI.out.mono ?_
  rintro e w2 ⟨rfl, rfl⟩
  go_wp2_with fail
  go_ret
  exact ⟨rfl, HU.out⟩
def NmPost31 (w : World) (t : Tre) (e : Ending) (w' : World) : Prop := Up w w' ∧ ∃ v, e = .returned v ∧ Owns w.heap.size 9 w' v ((sortS (fltN t.ns)).map Value.string)
set_option maxRecDepth 100000 in
set_option maxHeartbeats 2000000 in
theorem names31_t (S : Nat → Prop) (w : World) (v : Value) (t : Tre) (hT : TreeAt S w v t) (hn : t.ns.length ≤ 1000) :
    Calls Tryz.prog 31 #[v] w (NmPost31 w t) := by
  obtain ⟨P, N, rfl, hP, hN⟩ := hT
  obtain ⟨np, nc, rfl, _, _⟩ := SlAt.open hN
  have hN : StrsAt S w (.slice np t.ns.length nc) t.ns := hN
  have hu := Up.alloc w (.cells #[P, .slice np t.ns.length nc] 25)
  have b1 := box2_1 w P (.slice np t.ns.length nc) 25
  have HN1 := Lib.hid (StrsAt.keep hN (hu.kept S))
  have HU := Lib.hid hu
  have HSZ := Lib.hid hn
  clear hu hP hN
  go_enter Tryz.func31, Tryz.ntmps31
  go_wp2_with fail
  clear b1
  generalize w.alloc (.cells #[P, .slice np t.ns.length nc] 25) = w7 at *
  go_loopw [3, 5, 9] (fun d _ i wr => ∃ k : Nat, k ≤ t.ns.length ∧ i = .int .i64 k ∧ Hid (Owns w7.heap.size 9 wr d ((fltN (t.ns.take k)).map Value.string)) ∧ Hid (Up w7 wr)) (fun _ _ i _ => t.ns.length - (intOf i).toNat)
  case atStart => exact ⟨0, Nat.zero_le _, rfl, Owns.nil _ _ _, Up.refl _⟩
  case round =>
    obtain ⟨k, hk, rfl, hD, hUr⟩ := hrel
    obtain ⟨wo, rfl⟩ : ∃ wo : World, wo = wr := ⟨_, rfl⟩
    obtain ⟨d, rfl⟩ : ∃ d : Value, d = u3 := ⟨_, rfl⟩
    by_cases hlt : k < t.ns.length
    · obtain ⟨b, off, rfl, hcell⟩ := strs_get (StrsAt.keep HN1.out (hUr.out.kept _)) hlt
      have i1 : (0 : Int) ≤ (k : Int) := by omega
      have i2 : (k : Int) < (t.ns.length : Int) := by omega
      have i3 : (k : Int) < 1000 := by have := HSZ.out; omega
      have HTK := Lib.hid (flt_take31 hlt)
      have HNIL := Lib.hid (toList_nil (gs t.ns k))
      have HLN : Hid ((fltN (t.ns.take k)).length ≤ 1000) := by
        have h1 : (fltN (t.ns.take k)).length ≤ (t.ns.take k).length := List.length_filter_le _ _
        rw [List.length_take] at h1
        have := HSZ.out; unfold Hid; omega
      have HUA := Lib.hid hUr.out
      have HDA := Lib.hid hD.out
      have hsz := hUr.out.size
      have HLT := Lib.hid hlt
      clear hUr hD hk
      generalize gs t.ns k = s at *
      by_cases hs0 : s.size = 0
      · have hs1 : s.toList = [] := HNIL.out.2 hs0
        have HF : Hid (fltN (t.ns.take (k + 1)) = fltN (t.ns.take k)) := by unfold Hid; rw [HTK.out, if_pos hs0, List.append_nil]
        clear hs0
        go_wp2_with fail
        go_roundw
        case rel => exact ⟨k + 1, HLT.out, by have := HLT.out; have := HSZ.out; go_num, by rw [HF.out]; exact HDA.out, HUA.out⟩
        case measure => have := HLT.out; have := HSZ.out; simp [intOf]; omega
      · have hs1 : (s.toList == []) = false := by
          rw [Bool.eq_false_iff]; intro e; exact hs0 (HNIL.out.1 (by simpa using e))
        have hs2 : (s.toList != []) = true := by
          rw [bne_iff_ne]; intro e; exact hs0 (HNIL.out.1 (by simpa using e))
        have HF : Hid (fltN (t.ns.take (k + 1)) = fltN (t.ns.take k) ++ [s]) := by unfold Hid; rw [HTK.out, if_neg hs0]
        have HLM : Hid (((fltN (t.ns.take k)).map Value.string).length = (fltN (t.ns.take k)).length) := List.length_map _
        have HL6 : Hid ((fltN (t.ns.take k)).length ≤ 1000000) := by have := HLN.out; unfold Hid; omega
        clear hs0
        go_wp2_with (at_builtin; refine wpList_appM wo rfl _ _ 23 rfl w7.heap.size 9 (.string ⟨#[]⟩) 16 Tryz.underlying23 Tryz.infoStr2 rfl (by decide) HDA.out rfl (.string s) _ rfl rfl rfl _ HLM.out HL6.out hsz ?_; intro g8 cap8 w8 hown1 hgr1 hbe1)
        go_roundw
        case rel => exact ⟨k + 1, HLT.out, by have := HLT.out; have := HSZ.out; go_num, by unfold Hid; rw [HF.out, List.map_append]; exact hown1, Below.trans HUA.out hbe1⟩
        case measure => have := HLT.out; have := HSZ.out; simp [intOf]; omega
    · obtain rfl : k = t.ns.length := by omega
      have hD2 := hD.out
      rw [List.take_length] at hD2
      have hUW := hUr.out
      have hsz1 := HU.out.size
      clear hlt hk hD hUr
      have hfl : (fltN t.ns).length ≤ 1000 := by
        have h1 : (fltN t.ns).length ≤ t.ns.length := List.length_filter_le _ _
        have := HSZ.out; omega
      obtain ⟨g, cap2, hdv⟩ : ∃ g c, d = .slice g (fltN t.ns).length c := by
        obtain ⟨h1, h2 | ⟨g, c, _, h2, _⟩⟩ := hD2
        · exact ⟨none, 0, by rw [h2.1]; simp at h2; simp [h2]⟩
        · exact ⟨_, _, by rw [h2, List.length_map]⟩
      have HSO := Lib.hid (sort_str_t w7 wo d (fltN t.ns) hUW hD2 (by omega))
      clear hD2 hUW hfl
      subst hdv
      go_wp2_with fail
      refine HSO.out.mono ?_
      rintro e w9 ⟨rfl, hu9, ho9⟩
      have HR : Hid (NmPost31 w t (.returned (.slice g (fltN t.ns).length cap2)) w9) := ⟨HU.out.trans hu9, _, rfl, ho9.mono_base HU.out.size⟩
      clear hu9 ho9 HSO
      go_wp2_with fail
      go_ret
      exact HR.out
def ExPost (w : World) (e : Ending) (w' : World) : Prop := Up w w' ∧ ∃ v, e = .returned v ∧ TreeAt Any w' v exT
set_option maxRecDepth 100000 in
set_option maxHeartbeats 2000000 in
theorem example31_t (w : World) : Calls Tryz.prog 35 #[] w (ExPost w) := by
  have h1 := lit_ints (w.alloc (.cells #[.slice (some ⟨w.heap.size + 1, 0, none⟩) 5 5, .slice (some ⟨w.heap.size + 1 + 1, 0, none⟩) 5 5] 25)) #[.int .i64 (-1), .int .i64 0, .int .i64 1, .int .i64 1, .int .i64 0] 3 exT.ps rfl 5 rfl
  have h2 := lit_strs ((w.alloc (.cells #[.slice (some ⟨w.heap.size + 1, 0, none⟩) 5 5, .slice (some ⟨w.heap.size + 1 + 1, 0, none⟩) 5 5] 25)).alloc (.cells #[.int .i64 (-1), .int .i64 0, .int .i64 1, .int .i64 1, .int .i64 0] 3)) #[.string ⟨#[]⟩, .string ⟨#[]⟩, .string ⟨#[65]⟩, .string ⟨#[66]⟩, .string ⟨#[67]⟩] 9 exT.ns rfl 5 rfl
  have hu1 := Up.alloc w (.cells #[.slice (some ⟨w.heap.size + 1, 0, none⟩) 5 5, .slice (some ⟨w.heap.size + 1 + 1, 0, none⟩) 5 5] 25)
  have hu2 := Up.alloc (w.alloc (.cells #[.slice (some ⟨w.heap.size + 1, 0, none⟩) 5 5, .slice (some ⟨w.heap.size + 1 + 1, 0, none⟩) 5 5] 25)) (.cells #[.int .i64 (-1), .int .i64 0, .int .i64 1, .int .i64 1, .int .i64 0] 3)
  have hu3 := Up.alloc ((w.alloc (.cells #[.slice (some ⟨w.heap.size + 1, 0, none⟩) 5 5, .slice (some ⟨w.heap.size + 1 + 1, 0, none⟩) 5 5] 25)).alloc (.cells #[.int .i64 (-1), .int .i64 0, .int .i64 1, .int .i64 1, .int .i64 0] 3)) (.cells #[.string ⟨#[]⟩, .string ⟨#[]⟩, .string ⟨#[65]⟩, .string ⟨#[66]⟩, .string ⟨#[67]⟩] 9)
  have c0 := (hu2.trans hu3).cell (box2_0 w (.slice (some ⟨w.heap.size + 1, 0, none⟩) 5 5) (.slice (some ⟨w.heap.size + 1 + 1, 0, none⟩) 5 5) 25)
  have c1 := (hu2.trans hu3).cell (box2_1 w (.slice (some ⟨w.heap.size + 1, 0, none⟩) 5 5) (.slice (some ⟨w.heap.size + 1 + 1, 0, none⟩) 5 5) 25)
  simp only [World.size_alloc] at h1 h2
  have H1 := Lib.hid (IntsAt.keep h1 (hu3.kept _))
  have H2 := Lib.hid h2
  have HU3 := Lib.hid (hu1.trans (hu2.trans hu3))
  have C0 := Lib.hid c0
  have C1 := Lib.hid c1
  clear h1 h2 hu1 hu2 hu3 c0 c1
  go_enter Tryz.func35, Tryz.ntmps35
  go_wp2_with fail
  have c0 := C0.out
  have c1 := C1.out
  exact ⟨rfl, .agg #[.slice (some ⟨w.heap.size + 1, 0, none⟩) 5 5, .slice (some ⟨w.heap.size + 1 + 1, 0, none⟩) 5 5], by simp [results, Tryz.results35, go_sem, c0, c1], HU3.out, _, rfl, _, _, rfl, H1.out, H2.out⟩
end Go.Proofs.YtcaialhoclodjaaGreat
namespace Go.Proofs
open Go.Shelf
def Tryz.idxA_ren : Go.Shelf.Ren := ⟨fun | 153 => 58 | 152 => 77 | 226 => 78 | 227 => 79 | 228 => 80 | 137 => 110 | 119 => 111 | 224 => 112 | 225 => 113 | 217 => 130 | 266 => 146 | n => n, fun | 9 => 9 | 3 => 3 | 4 => 4 | 5 => 5 | 21 => 21 | 117 => 118 | 116 => 117 | 0 => 0 | 46 => 101 | 124 => 151 | n => n, fun | n => n⟩
theorem Tryz.idxA : Go.Proofs.Lays.n153 Tryz.prog Tryz.idxA_ren := {
  mixed := by kernel_rfl
  f119 := Tryz.func111.trans (congrArg some (by kernel_rfl))
  f137 := Tryz.func110.trans (congrArg some (by kernel_rfl))
  f152 := Tryz.func77.trans (congrArg some (by kernel_rfl))
  f153 := Tryz.func58.trans (congrArg some (by kernel_rfl))
  f217 := Tryz.func130.trans (congrArg some (by kernel_rfl))
  f224 := Tryz.func112.trans (congrArg some (by kernel_rfl))
  f225 := Tryz.func113.trans (congrArg some (by kernel_rfl))
  f226 := Tryz.func78.trans (congrArg some (by kernel_rfl))
  f227 := Tryz.func79.trans (congrArg some (by kernel_rfl))
  f228 := Tryz.func80.trans (congrArg some (by kernel_rfl))
  f266 := Tryz.func146.trans (congrArg some (by kernel_rfl))
  t0 := Tryz.underlying0
  a0 := Tryz.isAgg0
  z0 := Tryz.sizeOf0
  v0 := Tryz.zeroValue0
  t3 := Tryz.underlying3
  a3 := Tryz.isAgg3
  z3 := Tryz.sizeOf3
  v3 := Tryz.zeroValue3
  t4 := Tryz.underlying4
  a4 := Tryz.isAgg4
  z4 := Tryz.sizeOf4
  v4 := Tryz.zeroValue4
  t5 := Tryz.underlying5
  a5 := Tryz.isAgg5
  z5 := Tryz.sizeOf5
  v5 := Tryz.zeroValue5
  t9 := Tryz.underlying9
  a9 := Tryz.isAgg9
  z9 := Tryz.sizeOf9
  v9 := Tryz.zeroValue9
  t21 := Tryz.underlying21
  a21 := Tryz.isAgg21
  z21 := Tryz.sizeOf21
  v21 := Tryz.zeroValue21
  t46 := Tryz.underlying101
  a46 := Tryz.isAgg101
  z46 := Tryz.sizeOf101
  v46 := Tryz.zeroValue101
  t116 := Tryz.underlying117
  a116 := Tryz.isAgg117
  z116 := Tryz.sizeOf117
  t117 := Tryz.underlying118
  a117 := Tryz.isAgg118
  z117 := Tryz.sizeOf118
  v117 := Tryz.zeroValue118
  t124 := Tryz.underlying151
  a124 := Tryz.isAgg151
  z124 := Tryz.sizeOf151
  v124 := Tryz.zeroValue151 }
end Go.Proofs
namespace Go.Proofs.YtcaialhoclodjaaGreat
open Go.RowKit Go.Deep
/-- The machine in memory: the forest, the list of open nodes, what is still to be read. -/
structure PaM (base : Nat) (s : ByteArray) (R : Option RT) (w0 : World) (top k : Nat) (b : Bool) (ov : Value) (wr : World) (n : Nat) (A : Nat → Nat) (kv : Nat → Value) (F : Frs) (o : Nat) (os : List Nat) (Z : List RT) (st : List (List RT)) (f : Nat) : Prop where
  fr : FAt base n A kv F wr
  a0 : A 0 = top
  zf : PzF F n (o :: os) (Z :: st)
  own : Owns base 59 wr ov ((o :: os).reverse.map (nptr A))
  farA : ∀ g, ov.ownBlock = some g → ∀ j, j < n → g ≠ A j
  farK : ∀ g, ov.ownBlock = some g → ∀ j, j < n → (kv j).ownBlock ≠ some g
  last : (o :: os).getLast? = some 0
  nk : n ≤ k + 1
  ol : os.length ≤ k
  dnz : b = true → Z ≠ []
  run : pz f (s.data.toList.drop k) (Z :: st) b = R
  fuel : s.size < f + k
  up : Below base w0 wr
def PaS (base : Nat) (s : ByteArray) (R : Option RT) (w0 : World) (top k : Nat) (b : Bool) (ov : Value) (wr : World) : Prop :=
  ∃ n A kv F o os Z st f, PaM base s R w0 top k b ov wr n A kv F o os Z st f
section
variable {base : Nat} {s : ByteArray} {R : Option RT} {w0 wr w' : World} {top k n f o : Nat} {b : Bool} {ov : Value} {A : Nat → Nat} {kv : Nat → Value} {F : Frs} {os : List Nat} {Z : List RT} {st : List (List RT)}
theorem PaM.ovl (h : PaM base s R w0 top k b ov wr n A kv F o os Z st f) {g : Nat} (hg : ov.ownBlock = some g) : base ≤ g ∧ g < wr.heap.size := ownBlock_lt h.own hg
/-- The list of open nodes. -/
theorem PaM.row (h : PaM base s R w0 top k b ov wr n A kv F o os Z st f) : ∃ g cap, ov = .slice (some ⟨g, 0, none⟩) (os.length + 1) cap ∧ os.length + 1 ≤ cap ∧ wr.cell? ⟨g, os.length, none⟩ = some (.pointer (some ⟨A o, 0, none⟩)) := by
  obtain ⟨q, cap, hv, hq⟩ := h.own.form (n := os.length + 1) (by simp)
  obtain ⟨g, rfl⟩ : ∃ g, q = some ⟨g, 0, none⟩ := by
    rcases hq with rfl | h2
    · obtain ⟨_, h3 | ⟨g, _, _, h3, _⟩⟩ := h.own
      · have := h3.2; simp at this
      · rw [hv] at h3; cases h3
    · exact h2
  have ho := h.own
  rw [hv] at ho
  have hcm : os.length + 1 ≤ cap := by
    rcases ho.2 with ⟨e, _⟩ | ⟨g2, cap2, cur, e, _, _, hn, _⟩
    · cases e
    · have e3 : cap = cap2 := (Value.slice.inj e).2.2
      rw [e3]; simpa using hn
  refine ⟨g, cap, hv, hcm, (owns_cell ho ?_).1⟩
  rw [List.getElem?_map, List.reverse_cons, List.getElem?_append_right (by simp)]
  simp [nptr]
/-- A node is laid and hung below the innermost open one. -/
structure PaN (base : Nat) (w0 : World) (top : Nat) (ov : Value) (n : Nat) (A' : Nat → Nat) (kv' : Nat → Value) (G : Frs) (ol : List Nat) (W : World) : Prop where
  fr : FAt base (n + 1) A' kv' G W
  a0 : A' 0 = top
  own : Owns base 59 W ov (ol.reverse.map (nptr A'))
  farA : ∀ g, ov.ownBlock = some g → ∀ j, j < n + 1 → g ≠ A' j
  farK : ∀ g, ov.ownBlock = some g → ∀ j, j < n + 1 → (kv' j).ownBlock ≠ some g
  up : Below base w0 W
theorem PaM.node (h : PaM base s R w0 top k b ov wr n A kv F o os Z st f) (nm : ByteArray) {g m cap : Nat} (hbs : base ≤ wr.heap.size)
    (hv : Owns base 59 w' (.slice (some ⟨g, 0, none⟩) m cap) ((F.kids o).map (nptr A) ++ [.pointer (some ⟨wr.heap.size, 0, none⟩)]))
    (hg : (wr.alloc (.cells #[.string nm, .slice none 0 0, .int .i64 0] 61)).grownBy w' (kv o).ownBlock) (hr : (kv o).ownBlock = some g ∨ wr.heap.size + 1 ≤ g) :
    ∃ A' kv', A' n = wr.heap.size ∧ PaN base w0 top ov n A' kv' (addF F n o nm) (o :: os) (w'.setCell ⟨A o, 1, none⟩ (.slice (some ⟨g, 0, none⟩) m cap)) := by
  have ho := h.zf.on
  have hon : o ≠ n := by omega
  have h1 := h.fr.node_new hbs nm 0
  have hAo : upd A n wr.heap.size o = A o := upd_ne _ _ hon
  have hkvo : upd kv n (.slice none 0 0) o = kv o := upd_ne _ _ hon
  have hmap : ∀ l : List Nat, (∀ k ∈ l, k < n) → l.map (nptr (upd A n wr.heap.size)) = l.map (nptr A) := fun l hl => by
    refine List.map_congr_left fun k hk => ?_
    have := hl k hk
    unfold nptr; rw [upd_ne _ _ (by omega)]
  have hsz : (wr.alloc (.cells #[.string nm, .slice none 0 0, .int .i64 0] 61)).heap.size = wr.heap.size + 1 := World.size_alloc _ _
  have h2 := h1.push (k := o) (c := n) (v := .slice (some ⟨g, 0, none⟩) m cap) (by omega) (by omega)
    (by
      show Owns _ _ _ _ ((upd F.kids n [] o ++ [n]).map _)
      rw [upd_ne _ _ hon, List.map_append, hmap _ (h.fr.kid o ho)]
      show Owns _ _ _ _ (_ ++ [nptr (upd A n wr.heap.size) n])
      unfold nptr; rw [upd_same]; exact hv) (by rw [hkvo]; exact hg) (fun b2 hb2 => by cases hb2; rw [hkvo, hsz]; exact hr)
  rw [hAo] at h2
  have h0n : 0 < n := by omega
  have hovb : ∀ g2, ov.ownBlock = some g2 → w'.heap[g2]? = wr.heap[g2]? := fun g2 hg2 => by
    have hl := (h.ovl hg2).2
    rw [hg.block g2 (by rw [hsz]; omega) (fun e => h.farK g2 hg2 o ho e.symm)]
    exact blk_alloc_lt _ _ _ hl
  refine ⟨_, _, upd_same _ _ _, h2.congr2 fun j hj => ⟨rfl, rfl, ?_⟩, by rw [upd_ne _ _ (by omega)]; exact h.a0, ?_, fun g2 hg2 j hj => ?_, fun g2 hg2 j hj => ?_, ?_⟩
  · show upd (upd F.kids n []) o (F.kids o ++ [n]) j = upd (upd F.kids n []) o (upd F.kids n [] o ++ [n]) j
    rw [upd_ne F.kids _ hon]
  · rw [hmap _ (fun k hk => h.zf.opn k (List.mem_reverse.1 hk))]
    refine h.own.same fun g2 hg2 => ?_
    rw [blk_setCell_other _ _ _ _ (h.farA g2 hg2 o ho)]
    exact hovb g2 hg2
  · by_cases e : j = n
    · subst e; rw [upd_same]; have := (h.ovl hg2).2; omega
    · rw [upd_ne _ _ e]; exact h.farA g2 hg2 j (by omega)
  · by_cases e : j = o
    · subst e; rw [upd_same]
      intro e2
      have e2 : g = g2 := by cases e2; rfl
      rcases hr with h3 | h3
      · exact h.farK g2 hg2 j ho (by rw [h3, e2])
      · have := (h.ovl hg2).2; omega
    · rw [upd_ne _ _ e]
      by_cases e2 : j = n
      · subst e2; rw [upd_same]; intro e3; cases e3
      · rw [upd_ne _ _ e2]; exact h.farK g2 hg2 j (by omega)
  · have ha : Below base wr (wr.alloc (.cells #[.string nm, .slice none 0 0, .int .i64 0] 61)) := (Below.refl _ _).alloc hbs _
    have hb2 : Below base (wr.alloc (.cells #[.string nm, .slice none 0 0, .int .i64 0] 61)) w' := ((h.fr.own o ho).alloc _).grown_below hg (by rw [hsz]; omega)
    exact ((h.up.trans ha).trans hb2).setCell (p := ⟨A o, 1, none⟩) (h.fr.lo o ho) _
theorem PaM.store (h : PaM base s R w0 top k b ov wr n A kv F o os Z st f) {ob : Obj} (hg : (wr.alloc ob).grownBy w' (kv o).ownBlock) :
    w'.cell? ⟨A o, 1, none⟩ = some (kv o) ∧ w'.frozen? ⟨A o, 1, none⟩ = false := by
  have ho := h.zf.on
  have hlt := h.fr.lt ho
  have h1 : w'.heap[A o]? = wr.heap[A o]? := by
    rw [hg.block _ (by rw [World.size_alloc]; omega) (fun e => h.fr.apart o o ho ho e.symm)]
    exact blk_alloc_lt _ _ _ hlt
  constructor
  · simp only [World.cell?, h1]; exact h.fr.kidv ho
  · simp only [World.frozen?, h1]; exact h.fr.thaw ho 1
theorem PaM.klen (h : PaM base s R w0 top k b ov wr n A kv F o os Z st f) : ((F.kids o).map (nptr A)).length = (F.kids o).length ∧ (F.kids o).length ≤ 1000000 := by
  refine ⟨List.length_map _, ?_⟩
  have := nodup_le (h.zf.nd o h.zf.on) (fun x hx => (h.zf.kid o h.zf.on x hx).2)
  have := h.zf.big
  omega
/-- A leaf has been read. -/
theorem PaM.leaf (h : PaM base s R w0 top k b ov wr n A kv F o os Z st f) (hb : n < 2000) {W : World} {A' : Nat → Nat} {kv' : Nat → Value} {nm : ByteArray} {k' f' : Nat} (hk : k + 1 ≤ k') (hN : PaN base w0 top ov n A' kv' (addF F n o nm) (o :: os) W)
    (hrun : pz f' (s.data.toList.drop k') ((Z ++ [.node nm []]) :: st) true = R) (hf : s.size < f' + k') : PaS base s R w0 top k' true ov W :=
  ⟨_, _, _, _, _, _, _, _, _, ⟨hN.fr, hN.a0, h.zf.leaf nm hb, hN.own, hN.farA, hN.farK, h.last, (by have := h.nk; omega), (by have := h.ol; omega), (fun _ => by simp), hrun, hf, hN.up⟩⟩
/-- A node has been opened. -/
theorem PaM.opened (h : PaM base s R w0 top k b ov wr n A kv F o os Z st f) (hb : n < 2000) {W : World} {A' : Nat → Nat} {kv' : Nat → Value} {f' g m cap : Nat} (hN : PaN base w0 top ov n A' kv' (addF F n o ByteArray.empty) (o :: os) W) (hbs : base ≤ W.heap.size)
    (hv : Owns base 59 w' (.slice (some ⟨g, 0, none⟩) m cap) ((o :: os).reverse.map (nptr A') ++ [nptr A' n])) (hg : W.grownBy w' ov.ownBlock) (hr : ov.ownBlock = some g ∨ W.heap.size ≤ g)
    (hrun : pz f' (s.data.toList.drop (k + 1)) ([] :: Z :: st) false = R) (hf : s.size < f' + (k + 1)) : PaS base s R w0 top (k + 1) false (.slice (some ⟨g, 0, none⟩) m cap) w' := by
  have hold : ∀ b2, b2 < W.heap.size → (∀ g2, ov.ownBlock = some g2 → b2 ≠ g2) → w'.heap[b2]? = W.heap[b2]? := fun b2 hb2 hne => hg.block b2 hb2 fun e => hne b2 e.symm rfl
  refine ⟨_, _, _, _, _, _, _, _, _, ⟨hN.fr.same (fun i hi => hold _ (hN.fr.lt hi) fun g2 hg2 e => hN.farA g2 hg2 i hi e.symm) (fun i b2 hi hb2 => hold _ (hN.fr.ownlt hi hb2).2 fun g2 hg2 e => hN.farK g2 hg2 i hi (by rw [hb2, e])), hN.a0, h.zf.open hb, ?_, fun g2 hg2 j hj => ?_, fun g2 hg2 j hj => ?_, ?_, (by have := h.nk; omega), (by have := h.ol; simp; omega), (fun e => by cases e), hrun, hf, hN.up.trans (hN.own.grown_below hg hbs)⟩⟩
  · rw [List.reverse_cons, List.map_append]; exact hv
  · have hg2 : some g = some g2 := hg2
    injection hg2 with hg2; subst hg2
    rcases hr with h1 | h1
    · exact hN.farA g h1 j hj
    · have := hN.fr.lt hj; omega
  · have hg2 : some g = some g2 := hg2
    injection hg2 with hg2; subst hg2
    intro e
    rcases hr with h1 | h1
    · exact hN.farK g h1 j hj e
    · have := (hN.fr.ownlt hj e).2; omega
  · rw [List.getLast?_cons_cons]; exact h.last
/-- A node has been closed. -/
theorem PaM.popped {q : Nat} {Y : List RT} {st2 : List (List RT)} {os2 : List Nat} (h : PaM base s R w0 top k b ov wr n A kv F o (q :: os2) Z (Y :: st2) f) {g cap f' : Nat} (hov : ov = .slice (some ⟨g, 0, none⟩) (os2.length + 2) cap)
    (hrun : pz f' (s.data.toList.drop (k + 1)) ((Y ++ [.node ByteArray.empty Z]) :: st2) true = R) (hf : s.size < f' + (k + 1)) : PaS base s R w0 top (k + 1) true (.slice (some ⟨g, 0, none⟩) (os2.length + 1) cap) wr := by
  subst hov
  refine ⟨_, _, _, _, _, _, _, _, _, ⟨h.fr, h.a0, h.zf.pop, ?_, h.farA, h.farK, ?_, (by have := h.nk; omega), (by have := h.ol; simp at this; omega), (fun _ => by simp), hrun, hf, h.up⟩⟩
  · have h1 := owns_take h.own (m := os2.length + 1) (by omega)
    have e : ((o :: q :: os2).reverse.map (nptr A)).take (os2.length + 1) = (q :: os2).reverse.map (nptr A) := by
      rw [List.reverse_cons, List.map_append, List.take_append_of_le_length (by simp)]
      rw [List.take_of_length_le (by simp)]
    rw [e] at h1; exact h1
  · have := h.last
    rw [List.getLast?_cons_cons] at this; exact this
theorem PaM.comma (h : PaM base s R w0 top k b ov wr n A kv F o os Z st f) {f' : Nat} (hrun : pz f' (s.data.toList.drop (k + 1)) (Z :: st) false = R) (hf : s.size < f' + (k + 1)) : PaS base s R w0 top (k + 1) false ov wr :=
  ⟨_, _, _, _, _, _, _, _, _, ⟨h.fr, h.a0, h.zf, h.own, h.farA, h.farK, h.last, (by have := h.nk; omega), (by have := h.ol; omega), (fun e => by cases e), hrun, hf, h.up⟩⟩
theorem PaM.drew (h : PaM base s R w0 top k b ov wr n A kv F o os Z st f) : PaM base s R w0 top k b ov wr.drew n A kv F o os Z st f :=
  ⟨h.fr.up (Up.drewN wr 1), h.a0, h.zf, h.own.same fun _ _ => rfl, h.farA, h.farK, h.last, h.nk, h.ol, h.dnz, h.run, h.fuel, h.up.drew⟩
theorem PaM.keepUp (h : PaM base s R w0 top k b ov wr n A kv F o os Z st f) (hu : Up wr w') : PaM base s R w0 top k b ov w' n A kv F o os Z st f :=
  ⟨h.fr.up hu, h.a0, h.zf, h.own.same fun _ hg => Below.block hu _ (h.ovl hg).2, h.farA, h.farK, h.last, h.nk, h.ol, h.dnz, h.run, h.fuel, h.up.trans (hu.mono (Nat.le_trans (h.fr.lo 0 (by have := h.zf.on; omega)) (Nat.le_of_lt (h.fr.lt (i := 0) (by have := h.zf.on; omega)))))⟩
/-- The machine's step, at a character. -/
theorem PaM.step (h : PaM base s R w0 top k b ov wr n A kv F o os Z st f) (hk : k < s.size) : ∃ f' ch, f = f' + 1 ∧ s.size < f' + (k + 1) ∧ s.data.toList.drop k = ch :: s.data.toList.drop (k + 1) ∧ s[k] = ch := by
  have hf := h.fuel
  refine ⟨f - 1, s[k], by omega, by omega, ?_, rfl⟩
  have hl : k < s.data.toList.length := by rw [Array.length_toList]; exact hk
  rw [List.drop_eq_getElem_cons hl]
  congr 1
end
theorem pa_start (w1 : World) (s : ByteArray) : PaS w1.heap.size s (paR s.data.toList) w1 w1.heap.size 0 false (.slice (some ⟨w1.heap.size + 1, 0, none⟩) 1 1)
    ((w1.alloc (.cells #[.string ⟨#[]⟩, .slice none 0 0, .int .i64 0] 61)).alloc (.cells #[.pointer (some ⟨w1.heap.size, 0, none⟩)] 59)) := by
  have hs1 : (w1.alloc (.cells #[.string ⟨#[]⟩, .slice none 0 0, .int .i64 0] 61)).heap.size = w1.heap.size + 1 := World.size_alloc _ _
  have h1 := ((FAt.empty w1.heap.size (fun _ => w1.heap.size) (fun _ => .slice none 0 0) ⟨fun _ => ⟨#[]⟩, fun _ => 0, fun _ => []⟩ w1).node_new (Nat.le_refl _) ⟨#[]⟩ 0).up (Up.alloc _ (.cells #[.pointer (some ⟨w1.heap.size, 0, none⟩)] 59))
  have h0 : ∀ j, j < 1 → j = 0 := fun j hj => by omega
  have hA : ∀ j, j < 0 + 1 → upd (fun _ => w1.heap.size) 0 w1.heap.size j = w1.heap.size := fun j hj => by rw [h0 j hj, upd_same]
  have hown : Owns w1.heap.size 59 ((w1.alloc (.cells #[.string ⟨#[]⟩, .slice none 0 0, .int .i64 0] 61)).alloc (.cells #[.pointer (some ⟨w1.heap.size, 0, none⟩)] 59)) (.slice (some ⟨w1.heap.size + 1, 0, none⟩) 1 1) (([0] : List Nat).reverse.map (nptr (upd (fun _ => w1.heap.size) 0 w1.heap.size))) := by
    have hb := blk_alloc_new (w1.alloc (.cells #[.string ⟨#[]⟩, .slice none 0 0, .int .i64 0] 61)) (.cells #[.pointer (some ⟨w1.heap.size, 0, none⟩)] 59)
    rw [hs1] at hb
    exact ⟨rfl, .inr ⟨w1.heap.size + 1, 1, _, rfl, by omega, hb, ⟨by simp, by unfold maxLen; omega, rfl, by simp [nptr, upd_same]⟩⟩⟩
  refine ⟨0 + 1, _, _, _, 0, [], [], [], s.data.toList.length + 1, ⟨h1, upd_same _ _ _, ?_, hown, fun g hg j hj => ?_, fun g hg j hj => ?_, rfl, Nat.le_refl _, Nat.zero_le _, (fun e => by cases e), rfl, ?_, ((Up.alloc w1 _).trans (Up.alloc _ _))⟩⟩
  · refine ⟨by omega, fun i hi k hk => ?_, fun p q k hp hq _ _ => by omega, fun i hi => ?_, ⟨?_, ⟨[], ?_, rfl⟩, trivial⟩, fun o ho => by simp at ho; omega, by simp⟩
    · rw [h0 i hi] at hk
      have hk : k ∈ upd (fun _ => ([] : List Nat)) 0 [] 0 := hk
      rw [upd_same] at hk; cases hk
    · rw [h0 i hi]
      show (upd (fun _ => ([] : List Nat)) 0 [] 0).Nodup
      rw [upd_same]; exact List.nodup_nil
    · show (upd (fun _ => (⟨#[]⟩ : ByteArray)) 0 ⟨#[]⟩ 0).size = 0
      rw [upd_same]; rfl
    · show upd (fun _ => ([] : List Nat)) 0 [] 0 = _
      rw [upd_same]; rfl
  · have hg : some (w1.heap.size + 1) = some g := hg
    injection hg with hg
    rw [hA j hj]; omega
  · rw [h0 j hj, upd_same]; intro e; cases e
  · rw [Array.length_toList]
    show s.data.size < _
    omega
end Go.Proofs.YtcaialhoclodjaaGreat
