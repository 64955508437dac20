/- The contract of layer 35's reference's below: the names of the leaves below a node. Maps whose keys are strings. What Consistent computes: plain. Rose trees appended to a tree that is numbered depth first. The tree that grow makes is a rose tree, numbered depth first. -/
import Derived.Test.YtgjcfkadioblfaaGreatQ14
import Derived.Test.YtgjcfkadioblfaaGreatQ22
import Derived.Test.YtgjcfkadioblfaaGreatQ19
import Derived.Test.YtgjcfkadioblfaaGreatQ10
import Derived.Test.YtgjcfkadioblfaaGreatQ20
import Derived.Test.YtgjcfkadioblfaaGreatQ13
namespace Go.Proofs.YtgjcfkadioblfaaGreat
open Go.RowKit Go.Deep
def bwOne (t : Tre) (n i : Nat) : List ByteArray := if hitB t.ps n i && decide ((gs t.ns i).size ≠ 0) then [gs t.ns i] else []
def bwK (t : Tre) (n : Nat) : Nat → List ByteArray
  | 0 => []
  | m + 1 => bwK t n m ++ bwOne t n (n + m)
theorem bwK_len (t : Tre) (n : Nat) : ∀ m, (bwK t n m).length ≤ m
  | 0 => Nat.le_refl _
  | m + 1 => by
    rw [bwK, List.length_append]
    have := bwK_len t n m
    unfold bwOne
    split <;> simp <;> omega
def bwL (t : Tre) (n : Nat) : List ByteArray := bwK t n (t.ps.length - n)
def BwPost (w : World) (t : Tre) (n : Nat) (e : Ending) (w' : World) : Prop := Up w w' ∧ ∃ v, e = .returned v ∧ Owns w.heap.size 9 w' v ((bwL t n).map Value.string)
set_option maxRecDepth 100000 in
set_option maxHeartbeats 2000000 in
theorem belowR_t (S : Nat → Prop) (w : World) (v : Value) (t : Tre) (n : Nat) (h : TreeAt S w v t) (hp : pOkB t.ps = true) (hl : t.ns.length = t.ps.length) (hn : n ≤ t.ps.length) (hz : t.ps.length ≤ 1000000) (hs : ∀ k, (gs t.ns k).size ≤ 70000) :
    Calls Tryz.prog 69 #[v, .int .i64 n] w (BwPost w t n) := by
  obtain ⟨P, N, rfl, hP, hN⟩ := h
  obtain ⟨pp, pc, rfl, _, _⟩ := SlAt.open hP
  obtain ⟨np, nc, rfl, _, _⟩ := SlAt.open hN
  have hP : IntsAt S w (.slice pp t.ps.length pc) t.ps := hP
  have hN : StrsAt S w (.slice np t.ns.length nc) t.ns := hN
  have hu := Up.alloc w (.cells #[.slice pp t.ps.length pc, .slice np t.ns.length nc] 25)
  have a0 := box2_0 w (.slice pp t.ps.length pc) (.slice np t.ns.length nc) 25
  have a1 := box2_1 w (.slice pp t.ps.length pc) (.slice np t.ns.length nc) 25
  have HP := Lib.hid (IntsAt.keep hP (hu.kept S))
  have HN := Lib.hid (StrsAt.keep hN (hu.kept S))
  have HU := Lib.hid hu
  have A0 := Lib.hid a0
  have A1 := Lib.hid a1
  have HNL := Lib.hid hl
  have HPO := Lib.hid hp
  have HSZ := Lib.hid hs
  have i0 : (0 : Int) ≤ (n : Int) := by omega
  clear hP hN hu hl hp hs
  go_enter Tryz.func69, Tryz.ntmps69
  go_wp2_with fail
  clear a0 a1
  generalize w.alloc (.cells #[.slice pp t.ps.length pc, .slice np t.ns.length nc] 25) = w1 at *
  go_loopw [5, 6, 7] (fun d i _ wr => ∃ m : Nat, n + m ≤ t.ps.length ∧ i = .int .i64 (n + m : Nat) ∧ Hid (Owns w1.heap.size 9 wr d ((bwK t n m).map Value.string)) ∧ Hid (Up w1 wr)) (fun _ i _ _ => t.ps.length - (intOf i).toNat)
  case atStart => exact ⟨0, by omega, rfl, Owns.nil _ _ _, Up.refl _⟩
  case round =>
    obtain ⟨m, hm, rfl, hD, hUr⟩ := hrel
    obtain ⟨wo, rfl⟩ : ∃ wo : World, wo = wr := ⟨_, rfl⟩
    obtain ⟨d, rfl⟩ : ∃ d : Value, d = u5 := ⟨_, rfl⟩
    have a0 := hUr.out.cell A0.out
    have a1 := hUr.out.cell A1.out
    by_cases hlt : n + m < t.ps.length
    · obtain ⟨i, hi⟩ : ∃ i, i = n + m := ⟨_, rfl⟩
      have hK : bwK t n (m + 1) = bwK t n m ++ bwOne t n i := by rw [bwK, hi]
      rw [← hi] at hlt ⊢
      have j1 : (0 : Int) ≤ (i : Int) := by omega
      have j2 : (i : Int) < (t.ps.length : Int) := by omega
      have HK := Lib.hid hK
      have HI := Lib.hid hi
      have HLT := Lib.hid hlt
      have HUW := Lib.hid hUr.out
      have HDW := Lib.hid hD.out
      have HLEN := Lib.hid (bwK_len t n m)
      clear hK hi hm hlt hUr hD a1
      go_wp2_with fail
      go_loop [7] (fun q => ∃ k : Nat, k ≤ i ∧ q = .int .i64 k ∧ Hid (climb t.ps n k k = climb t.ps n i i)) (fun q => (intOf q).toNat)
      case atStart => exact ⟨i, Nat.le_refl _, rfl, rfl⟩
      case round =>
        obtain ⟨k, hk, rfl, hc⟩ := hrel
        by_cases hnk : n < k
        · have hkl : k < t.ps.length := by have := HLT.out; omega
          have hpar := pOkB_par HPO.out hkl (by omega)
          have hst := climb_step HPO.out hkl hnk
          obtain ⟨b, off, rfl, hcell⟩ := ints_get (IntsAt.keep HP.out (HUW.out.kept S)) hkl
          have d1 : decide ((n : Int) < (k : Int)) = true := by simp; omega
          have d2 : decide ((k : Int) < (t.ps.length : Int)) = true := by simp; omega
          have j3 : (0 : Int) ≤ (k : Int) := by omega
          have j4 : (k : Int) < (t.ps.length : Int) := by omega
          obtain ⟨p, hp⟩ : ∃ p : Nat, gi t.ps k = p := ⟨(gi t.ps k).toNat, (Int.toNat_of_nonneg hpar.1).symm⟩
          rw [hp] at hcell hpar hst
          have HST : Hid (climb t.ps n p p = climb t.ps n i i) := by unfold Hid; rw [← hc.out, hst]; rfl
          have hpk : p < k := by omega
          clear hpar hst hp hc
          go_wp2_with fail
          go_round
          case rel => exact ⟨p, by omega, rfl, HST⟩
          case measure => simp [intOf]; omega
        · have d1 : decide ((n : Int) < (k : Int)) = false := by simp; omega
          have hck := hc.out
          rw [climb_stop hnk] at hck
          have HCK := Lib.hid hck
          have hsl : i < t.ns.length := by rw [HNL.out]; exact HLT.out
          obtain ⟨b, off, rfl, hcell⟩ := strs_get (StrsAt.keep HN.out (HUW.out.kept S)) hsl
          have a1 := HUW.out.cell A1.out
          have j3 : (i : Int) < (t.ns.length : Int) := by omega
          have hLO : bwOne t n i = if (decide (k = n) && decide ((gs t.ns i).size ≠ 0)) = true then [gs t.ns i] else [] := by unfold bwOne hitB; rw [← hck]
          have HLO := Lib.hid hLO
          clear hc hck hLO
          have hll : ((bwK t n m).map Value.string).length = (bwK t n m).length := List.length_map _
          have hl6 : (bwK t n m).length ≤ 1000000 := by have := HLEN.out; have := HLT.out; have := HI.out; omega
          have hwz := HUW.out.size
          have HLL := Lib.hid hll
          have HL6 := Lib.hid hl6
          clear hll hl6
          by_cases e1 : k = n
          · have d3 : ((k : Int) == (n : Int)) = true := by simp [e1]
            have HE := Lib.hid e1
            clear e1
            generalize gs t.ns i = s at *
            by_cases e2 : s.size ≠ 0
            · have d5 : ¬ s.toList = [] := fun q => e2 ((toList_nil s).1 q)
              have d4 : (s.toList == []) = false := by simpa using d5
              have HN1 : Hid (bwK t n (m + 1) = bwK t n m ++ [s]) := by unfold Hid; rw [HK.out, HLO.out, HE.out]; simp [e2]
              clear e2 d5
              go_wp2_with (at_builtin; refine wpList_appM wo rfl _ _ 23 rfl w1.heap.size 9 (.string ⟨#[]⟩) 16 Tryz.underlying23 Tryz.infoStr2 rfl (by decide) HDW.out rfl (.string s) _ rfl rfl rfl _ HLL.out HL6.out hwz ?_; intro g8 cap8 w8 hown1 hgr1 hbe1)
              go_roundw
              case rel => exact ⟨m + 1, by have := HLT.out; have := HI.out; omega, by have := HI.out; go_num, by unfold Hid; rw [HN1.out, List.map_append, List.map_cons, List.map_nil]; exact hown1, Below.trans HUW.out hbe1⟩
              case measure => have := HLT.out; simp [intOf]; omega
            · have d5 : s.toList = [] := (toList_nil s).2 (by simpa using e2)
              have d4 : (s.toList == []) = true := by rw [d5]; rfl
              have HN1 : Hid (bwK t n (m + 1) = bwK t n m) := by unfold Hid; rw [HK.out, HLO.out]; simp [e2]
              clear e2 d5
              go_wp2_with fail
              go_roundw
              case rel => exact ⟨m + 1, by have := HLT.out; have := HI.out; omega, by have := HI.out; go_num, by unfold Hid; rw [HN1.out]; exact HDW.out, HUW.out⟩
              case measure => have := HLT.out; simp [intOf]; omega
          · have d3 : ((k : Int) == (n : Int)) = false := by simp; omega
            have HN1 : Hid (bwK t n (m + 1) = bwK t n m) := by unfold Hid; rw [HK.out, HLO.out]; simp [e1]
            clear e1
            go_wp2_with fail
            go_roundw
            case rel => exact ⟨m + 1, by have := HLT.out; have := HI.out; omega, by have := HI.out; go_num, by unfold Hid; rw [HN1.out]; exact HDW.out, HUW.out⟩
            case measure => have := HLT.out; simp [intOf]; omega
    · have hmn : n + m = t.ps.length := by omega
      have hLL : bwL t n = bwK t n m := by unfold bwL; rw [show t.ps.length - n = m by omega]
      have HDW := Lib.hid hD.out
      have HUW := Lib.hid hUr.out
      have HLL := Lib.hid hLL
      clear hD hUr a1 hLL
      go_wp2_with fail
      go_ret
      exact ⟨HU.out.trans HUW.out, _, rfl, by rw [HLL.out]; exact HDW.out.mono_base HU.out.size⟩
end Go.Proofs.YtgjcfkadioblfaaGreat
namespace Go.Proofs.YtgjcfkadioblfaaGreat
open Go.RowKit Go.Deep
/-- The entries behind 'm[k] = v'. -/
def putS (l : List (ByteArray × Value)) (k : ByteArray) (v : Value) : List (ByteArray × Value) := if (l.lookup k).isNone then l ++ [(k, v)] else l.map fun x => if x.1 = k then (k, v) else x
/-- The map at block b holds the entries l. -/
def SMap (w : World) (b : Nat) (l : List (ByteArray × Value)) : Prop := ∃ es clock, w.heap[b]? = some (.map es clock) ∧ es.toList.map (fun x => (x.key, x.val)) = l.map (fun x => (Value.string x.1, x.2))
def UniqS (l : List (ByteArray × Value)) : Prop := (l.map (·.1)).Nodup
theorem ba_beq (a b : ByteArray) : (a == b) = decide (a = b) := by
  obtain ⟨a⟩ := a
  obtain ⟨b⟩ := b
  have : ((⟨a⟩ : ByteArray) == ⟨b⟩) = (a == b) := rfl
  rw [this]
  by_cases h : a = b
  · subst h; simp
  · have h2 : ¬ (⟨a⟩ : ByteArray) = ⟨b⟩ := fun e => h (ByteArray.mk.inj e)
    rw [decide_eq_false h2]; simpa using h
theorem ba_self (a : ByteArray) : (a == a) = true := by rw [ba_beq]; simp
theorem ba_ne {a b : ByteArray} (h : ¬ a = b) : (a == b) = false := by rw [ba_beq]; simpa using h
section
variable {P : Program} {w : World}
theorem findNow_s (k : ByteArray) : ∀ (es : List MapEntry) (l : List (ByteArray × Value)) (i : Nat),
    es.map (fun x => (x.key, x.val)) = l.map (fun x => (Value.string x.1, x.2)) →
      (l.lookup k = none ∧ Instr.findNow .string (.string k) es i = some none) ∨ ∃ j v, l.lookup k = some v ∧ (l[j]?).map (·.1) = some k ∧ Instr.findNow .string (.string k) es i = some (some (i + j, v)) := by
  intro es
  induction es with
  | nil =>
    intro l i hl
    cases l with
    | nil => exact .inl ⟨rfl, rfl⟩
    | cons => cases hl
  | cons x es ih =>
    intro l i hl
    cases l with
    | nil => cases hl
    | cons y l =>
      simp only [List.map_cons, List.cons.injEq, Prod.mk.injEq] at hl
      obtain ⟨⟨h1, h2⟩, h3⟩ := hl
      obtain ⟨y1, y2⟩ := y
      have h1 : x.key = .string y1 := h1
      have h2 : x.val = y2 := h2
      by_cases h : k = y1
      · subst h
        refine .inr ⟨0, y2, by rw [List.lookup_cons, ba_self], rfl, ?_⟩
        simp [Instr.findNow, Instr.sameNow, h1, h2, ba_self]
      · have hb : (k == y1) = false := ba_ne h
        rcases ih l (i + 1) h3 with ⟨h4, h5⟩ | ⟨j, v, h4, h5, h6⟩
        · refine .inl ⟨by rw [List.lookup_cons, hb]; exact h4, ?_⟩
          simp [Instr.findNow, Instr.sameNow, h1, hb, h5]
        · refine .inr ⟨j + 1, v, by rw [List.lookup_cons, hb]; exact h4, by simpa using h5, ?_⟩
          simp [Instr.findNow, Instr.sameNow, h1, hb, h6]; omega
theorem run_findS {t : TypeId} (ht : P.underlying t = some .string) (k : ByteArray) (es : List MapEntry) (l : List (ByteArray × Value)) (hl : es.map (fun x => (x.key, x.val)) = l.map (fun x => (Value.string x.1, x.2))) :
    (l.lookup k = none ∧ (Instr.findKey t (.string k) es).run P w = .ok none w) ∨ ∃ j v, l.lookup k = some v ∧ (l[j]?).map (·.1) = some k ∧ (Instr.findKey t (.string k) es).run P w = .ok (some (j, v)) w := by
  have hu := run_underlying (w := w) ht
  rcases findNow_s k es l 0 hl with ⟨h1, h2⟩ | ⟨j, v, h1, h2, h3⟩
  · exact .inl ⟨h1, by simp [Instr.findKey, hu, h2]⟩
  · exact .inr ⟨j, v, h1, h2, by simp [Instr.findKey, hu, h3]⟩
theorem run_checkS {t : TypeId} (ht : P.underlying t = some .string) (em : Bool) (k : ByteArray) : (Instr.checkKey em 10000 t (.string k)).run P w = .ok () w := by
  have hu := run_underlying (w := w) ht
  show (Instr.checkKey em (9999 + 1) t (.string k)).run P w = _
  unfold Instr.checkKey
  simp [hu]
theorem lookupS_none {l : List (ByteArray × Value)} {k : ByteArray} : l.lookup k = none ↔ k ∉ l.map (·.1) := by
  induction l with
  | nil => simp
  | cons y l ih =>
    obtain ⟨y1, y2⟩ := y
    rw [List.lookup_cons]
    by_cases h : k = y1
    · subst h; simp [ba_self]
    · have hb : (k == y1) = false := ba_ne h
      rw [hb]; simp only [List.map_cons, List.mem_cons, not_or]
      exact ⟨fun h2 => ⟨h, ih.1 h2⟩, fun h2 => ih.2 h2.2⟩
theorem putS_keys (l : List (ByteArray × Value)) (k : ByteArray) (v : Value) : (putS l k v).map (·.1) = if (l.lookup k).isNone then l.map (·.1) ++ [k] else l.map (·.1) := by
  unfold putS
  split
  · simp
  · rw [List.map_map]
    refine List.map_congr_left fun x _ => ?_
    show (if x.1 = k then (k, v) else x).1 = x.1
    split
    · rename_i h; exact h.symm
    · rfl
theorem putS_uniq {l : List (ByteArray × Value)} (h : UniqS l) (k : ByteArray) (v : Value) : UniqS (putS l k v) := by
  unfold UniqS
  rw [putS_keys]
  split
  · rename_i h2
    have h3 : k ∉ l.map (·.1) := lookupS_none.1 (by simpa using h2)
    rw [List.nodup_append]
    refine ⟨h, by simp, fun a ha b hb => ?_⟩
    have : b = k := by simpa using hb
    subst this
    exact fun e => h3 (by rw [← e]; exact ha)
  · exact h
theorem modS_uniq {l : List (ByteArray × Value)} (h : UniqS l) {k : ByteArray} (v : Value) {j : Nat} (hj : (l[j]?).map (·.1) = some k) : (l.map fun x => if x.1 = k then (k, v) else x) = l.set j (k, v) := by
  apply List.ext_getElem?
  intro m
  have hjl : j < l.length := by
    cases hlj : l[j]? with
    | none => rw [hlj] at hj; cases hj
    | some y => exact (List.getElem?_eq_some_iff.1 hlj).1
  rw [List.getElem?_map, List.getElem?_set]
  by_cases e : j = m
  · subst e
    rw [if_pos rfl, if_pos hjl]
    rw [List.getElem?_eq_getElem hjl] at hj ⊢
    have h3 : (l[j]).1 = k := by simpa using hj
    simp [h3]
  · rw [if_neg e]
    cases hm : l[m]? with
    | none => rfl
    | some y =>
      have hml := (List.getElem?_eq_some_iff.1 hm).1
      have hne : y.1 ≠ k := fun h4 => by
        have h5 : (l.map (·.1))[m]? = (l.map (·.1))[j]? := by rw [List.getElem?_map, List.getElem?_map, hm, hj]; simp [h4]
        have h6 : m < (l.map (·.1)).length := by simpa using hml
        have h7 : j < (l.map (·.1)).length := by simpa using hjl
        rw [List.getElem?_eq_getElem h6, List.getElem?_eq_getElem h7] at h5
        injection h5 with h5
        exact e ((List.getElem_inj h).1 h5).symm
      simp [hne]
theorem SMap.made (w : World) : SMap (w.alloc (.map #[] 0)) w.heap.size [] := ⟨#[], 0, (MapKept.heap_alloc w _).1, rfl⟩
theorem SMap.same {w' : World} {b : Nat} {l : List (ByteArray × Value)} (h : SMap w b l) (hb : w'.heap[b]? = w.heap[b]?) : SMap w' b l := by
  obtain ⟨es, clock, h1, h2⟩ := h
  exact ⟨es, clock, hb.trans h1, h2⟩
theorem SMap.lt {b : Nat} {l : List (ByteArray × Value)} (h : SMap w b l) : b < w.heap.size := by
  obtain ⟨es, clock, h1, _⟩ := h
  exact (Array.getElem?_eq_some_iff.1 h1).1
/-- 'm[k] = v'. -/
theorem run_sset {mt t el : TypeId} (hm : P.underlying mt = some (.map t el)) (ht : P.underlying t = some .string) {b : Nat} {l : List (ByteArray × Value)} (h : SMap w b l) (hq : UniqS l) (k : ByteArray) (v : Value) :
    ∃ w', (Instr.mapUpdate mt (.map (some b)) (.string k) v).run P w = .ok () w' ∧ SMap w' b (putS l k v) ∧ w'.heap.size = w.heap.size ∧ w'.os = w.os ∧ w'.tape = w.tape ∧ w'.output = w.output ∧ ∀ j, j ≠ b → w'.heap[j]? = w.heap[j]? := by
  obtain ⟨es, clock, hb, hl⟩ := h
  have hu := run_underlying (w := w) hm
  have hg := MapKept.run_getObj_map (P := P) hb
  have hbl := (Array.getElem?_eq_some_iff.1 hb).1
  rcases run_findS (w := w) ht k es.toList l hl with ⟨h1, h2⟩ | ⟨j, v', h1, h5, h2⟩
  · have hs := MapKept.run_setObj_map (P := P) (.map (es.push { key := .string k, val := v, born := clock }) (clock + 1)) hb
    refine ⟨{ w with heap := w.heap.setIfInBounds b (.map (es.push { key := .string k, val := v, born := clock }) (clock + 1)) }, by simp [Instr.mapUpdate, hu, hg, run_checkS ht, h2, hs], ⟨es.push { key := .string k, val := v, born := clock }, clock + 1, by simp [hbl], ?_⟩, by simp, rfl, rfl, rfl, fun j hj => by simp [Ne.symm hj]⟩
    unfold putS; rw [h1]; simp [hl]
  · have hkey : ((es[j]?).map (·.key)) = some (.string k) := by
      have h8 := congrArg (fun q => (q[j]?).map (·.1)) hl
      simp only [List.getElem?_map, Option.map_map] at h8
      have h9 : (l[j]?).map (fun x => Value.string x.1) = some (.string k) := by
        cases hlj : l[j]? with
        | none => rw [hlj] at h5; cases h5
        | some y => rw [hlj] at h5; simp at h5; simp [h5]
      have h10 : (es.toList[j]?).map (·.key) = (l[j]?).map (fun x => Value.string x.1) := h8
      rw [← Array.getElem?_toList, h10, h9]
    have hst : (Instr.keyThatStays (((es[j]?).map (·.key)).getD (.string k)) (.string k)).run P w = .ok (.string k) w := by
      rw [hkey]
      have h0 : Instr.sameBits 10000 (.string k) (.string k) = true := by simp [Instr.sameBits, ba_self]
      show (Instr.keyThatStays (.string k) (.string k)).run P w = _
      unfold Instr.keyThatStays
      rw [if_pos h0]; rfl
    have hs := MapKept.run_setObj_map (P := P) (.map (es.modify j fun e => { e with key := .string k, val := v }) clock) hb
    refine ⟨{ w with heap := w.heap.setIfInBounds b (.map (es.modify j fun e => { e with key := .string k, val := v }) clock) }, by simp [Instr.mapUpdate, hu, hg, run_checkS ht, h2, hst, hs], ⟨es.modify j fun e => { e with key := .string k, val := v }, clock, by simp [hbl], ?_⟩, by simp, rfl, rfl, rfl, fun m hm => by simp [Ne.symm hm]⟩
    have hpl : putS l k v = l.set j (k, v) := by
      unfold putS; rw [h1]
      exact modS_uniq hq v h5
    rw [hpl]
    apply List.ext_getElem?
    intro m
    have h8 := congrArg (fun q => q[m]?) hl
    simp only [List.getElem?_map] at h8
    rw [List.getElem?_map, List.getElem?_map, Array.getElem?_toList, Array.getElem?_modify, List.getElem?_set]
    have hjl : j < l.length := by
      cases hlj : l[j]? with
      | none => rw [hlj] at h5; cases h5
      | some y => exact (List.getElem?_eq_some_iff.1 hlj).1
    have hje : j < es.size := by have := congrArg List.length hl; simp at this; omega
    by_cases e : j = m
    · subst e
      rw [if_pos rfl, if_pos rfl, if_pos hjl, Array.getElem?_eq_getElem hje]
      rfl
    · rw [if_neg e, if_neg e, ← Array.getElem?_toList]; exact h8
/-- 'm[k]'. -/
theorem run_slook {mt t el : TypeId} (hm : P.underlying mt = some (.map t el)) (ht : P.underlying t = some .string) {z : Value} (hz : (zeroValue el).run P w = .ok z w) {b : Nat} {l : List (ByteArray × Value)} (h : SMap w b l) (k : ByteArray) :
    (Instr.lookup mt (.map (some b)) (.string k) false).run P w = .ok ((l.lookup k).getD z) w := by
  obtain ⟨es, clock, hb, hl⟩ := h
  have hu := run_underlying (w := w) hm
  have hg := MapKept.run_getObj_map (P := P) hb
  rcases run_findS (w := w) ht k es.toList l hl with ⟨h1, h2⟩ | ⟨j, v', h1, _, h2⟩
  · simp [Instr.lookup, hu, hg, run_checkS ht, h2, hz, h1]
  · simp [Instr.lookup, hu, hg, run_checkS ht, h2, h1]
/-- 'v, ok := m[k]'. -/
theorem run_slook2 {mt t el : TypeId} (hm : P.underlying mt = some (.map t el)) (ht : P.underlying t = some .string) {z : Value} (hz : (zeroValue el).run P w = .ok z w) {b : Nat} {l : List (ByteArray × Value)} (h : SMap w b l) (k : ByteArray) :
    (Instr.lookup mt (.map (some b)) (.string k) true).run P w = .ok (.tuple #[(l.lookup k).getD z, .bool (l.lookup k).isSome]) w := by
  obtain ⟨es, clock, hb, hl⟩ := h
  have hu := run_underlying (w := w) hm
  have hg := MapKept.run_getObj_map (P := P) hb
  rcases run_findS (w := w) ht k es.toList l hl with ⟨h1, h2⟩ | ⟨j, v', h1, _, h2⟩
  · simp [Instr.lookup, hu, hg, run_checkS ht, h2, hz, h1]
  · simp [Instr.lookup, hu, hg, run_checkS ht, h2, h1]
end
end Go.Proofs.YtgjcfkadioblfaaGreat
namespace Go.Proofs.YtgjcfkadioblfaaGreat
/-- The map of the first k names. -/
def mpK (names : List ByteArray) : Nat → List (ByteArray × Value)
  | 0 => []
  | k + 1 => putS (mpK names k) (gs names k) (.int .i64 k)
def mpL (names : List ByteArray) : List (ByteArray × Value) := mpK names names.length
theorem mpK_uniq (names : List ByteArray) : ∀ k, UniqS (mpK names k)
  | 0 => List.nodup_nil
  | k + 1 => putS_uniq (mpK_uniq names k) _ _
theorem lookup_putS {l : List (ByteArray × Value)} {k j : ByteArray} {v : Value} : (putS l k v).lookup j = if j = k then some v else l.lookup j := by
  unfold putS
  split
  · rename_i h
    have h0 : l.lookup k = none := by simpa using h
    rw [List.lookup_append]
    by_cases e : j = k
    · subst e; rw [if_pos rfl, h0]; simp [List.lookup, ba_self]
    · rw [if_neg e]
      have : List.lookup j [(k, v)] = none := by simp [List.lookup, ba_ne e]
      rw [this]; simp
  · rename_i h
    have h0 : (l.lookup k).isSome := by
      cases hl : l.lookup k with
      | none => rw [hl] at h; exact absurd rfl h
      | some x => rfl
    clear h
    induction l with
    | nil => cases h0
    | cons y l ih =>
      obtain ⟨y1, y2⟩ := y
      rw [List.map_cons]
      by_cases e1 : y1 = k
      · subst e1
        rw [if_pos rfl, List.lookup_cons]
        by_cases e : j = y1
        · subst e; rw [ba_self, if_pos rfl]
        · rw [ba_ne e, if_neg e, List.lookup_cons, ba_ne e]
          have hm : ∀ l : List (ByteArray × Value), List.lookup j (l.map fun x => if x.1 = y1 then (y1, v) else x) = List.lookup j l := by
            intro l
            induction l with
            | nil => rfl
            | cons z l ihl =>
              obtain ⟨z1, z2⟩ := z
              rw [List.map_cons]
              by_cases ez : z1 = y1
              · subst ez; rw [if_pos rfl, List.lookup_cons, ba_ne e, List.lookup_cons, ba_ne e]; exact ihl
              · rw [if_neg ez, List.lookup_cons, List.lookup_cons, ihl]
          exact hm l
      · rw [if_neg e1, List.lookup_cons, List.lookup_cons]
        rw [List.lookup_cons, ba_ne (fun h => e1 h.symm)] at h0
        by_cases e : j = y1
        · subst e; rw [ba_self, if_neg e1]
        · rw [ba_ne e]; exact ih h0
theorem mpK_len (names : List ByteArray) : ∀ k, (mpK names k).length ≤ k
  | 0 => Nat.le_refl _
  | k + 1 => by
    have h := mpK_len names k
    rw [mpK]; unfold putS
    split
    · simp; omega
    · simp; omega
/-- What the map says of a name. -/
theorem mpK_val {names : List ByteArray} {s : ByteArray} {v : Value} : ∀ {k : Nat}, (mpK names k).lookup s = some v → ∃ q, q < k ∧ v = .int .i64 (q : Nat) ∧ gs names q = s ∧ ∀ j, q < j → j < k → gs names j ≠ s
  | 0, h => by cases h
  | k + 1, h => by
    rw [mpK, lookup_putS] at h
    by_cases e : s = gs names k
    · rw [if_pos e] at h
      injection h with h
      exact ⟨k, by omega, h.symm, e.symm, fun j h1 h2 => by omega⟩
    · rw [if_neg e] at h
      obtain ⟨q, h1, h2, h3, h4⟩ := mpK_val h
      exact ⟨q, by omega, h2, h3, fun j h5 h6 => if ej : j = k then by subst ej; exact fun e2 => e e2.symm else h4 j h5 (by omega)⟩
theorem mpK_some {names : List ByteArray} {s : ByteArray} : ∀ {k : Nat}, ((mpK names k).lookup s).isSome = true ↔ ∃ q, q < k ∧ gs names q = s
  | 0 => by simp [mpK]
  | k + 1 => by
    rw [mpK, lookup_putS]
    by_cases e : s = gs names k
    · rw [if_pos e]; simp only [Option.isSome_some, true_iff]; exact ⟨k, by omega, e.symm⟩
    · rw [if_neg e, mpK_some]
      constructor
      · rintro ⟨q, h1, h2⟩; exact ⟨q, by omega, h2⟩
      · rintro ⟨q, h1, h2⟩
        exact ⟨q, by rcases Nat.lt_or_ge q k with h | h
                     · exact h
                     · obtain rfl : q = k := by omega
                       exact absurd h2.symm e, h2⟩
/-- The map has as many entries as there are names exactly if no name stands twice. -/
theorem mpK_nodup {names : List ByteArray} : ∀ {k : Nat}, (mpK names k).length = k ↔ ∀ i j, i < j → j < k → gs names i ≠ gs names j
  | 0 => by simp [mpK]
  | k + 1 => by
    have hl := mpK_len names k
    have ih := mpK_nodup (names := names) (k := k)
    rw [mpK]; unfold putS
    cases hlk : (mpK names k).lookup (gs names k) with
    | none =>
      have hno : ∀ q, q < k → gs names q ≠ gs names k := fun q hq e => by
        have := (mpK_some (names := names) (s := gs names k) (k := k)).2 ⟨q, hq, e⟩
        rw [hlk] at this; cases this
      simp only [Option.isNone_none, if_true, List.length_append, List.length_cons, List.length_nil]
      constructor
      · intro h i j h1 h2
        by_cases ej : j = k
        · subst ej; exact hno i h1
        · exact ih.1 (by omega) i j h1 (by omega)
      · intro h
        rw [ih.2 (fun i j h1 h2 => h i j h1 (by omega))]
    | some x =>
      obtain ⟨q, h1, _, h3, _⟩ := mpK_val hlk
      simp only [Option.isNone_some, Bool.false_eq_true, if_false, List.length_map]
      constructor
      · intro h; omega
      · intro h; exact absurd h3 (h q k h1 (by omega))
/-- A leaf's name is no name, or a name stands twice. -/
def csBad (t : Tre) (names : List ByteArray) (j : Nat) : Bool := !((mpL names).lookup (gs t.ns (gi (leavesL t.ns) j).toNat)).isSome || decide ((mpL names).length ≠ names.length)
def conErr (t : Tre) (names : List ByteArray) (l : List Grp) : Int :=
  if treeErr t ≠ 0 then 1 else if (leavesL t.ns).length ≠ names.length then 9 else if (List.range (leavesL t.ns).length).any (csBad t names) then 9
  else if gcErr l ≠ 0 then gcErr l else if farB l names.length then 2 else 0
/-- The number of a name. -/
def nmIx (names : List ByteArray) (s : ByteArray) : Nat := match (mpL names).lookup s with
  | some (.int _ q) => q.toNat
  | _ => 0
/-- The sets behind node n's round. -/
def ownStep (t : Tre) (num : ByteArray → Nat) (n : Nat) (o : List Nat) : List Nat :=
  if 0 ≤ gi t.ps n then
    (if (gs t.ns n).size ≠ 0 then o.set n (gn o n ||| 2 ^ num (gs t.ns n)) else o).set (gi t.ps n).toNat
      (gn (if (gs t.ns n).size ≠ 0 then o.set n (gn o n ||| 2 ^ num (gs t.ns n)) else o) (gi t.ps n).toNat ||| gn (if (gs t.ns n).size ≠ 0 then o.set n (gn o n ||| 2 ^ num (gs t.ns n)) else o) n)
  else if (gs t.ns n).size ≠ 0 then o.set n (gn o n ||| 2 ^ num (gs t.ns n)) else o
def ownD (t : Tre) (num : ByteArray → Nat) : Nat → List Nat → List Nat
  | 0, o => o
  | n + 1, o => ownD t num n (ownStep t num n o)
/-- The sets of leaves below all nodes. -/
def ownF (t : Tre) (names : List ByteArray) : List Nat := ownD t (nmIx names) t.ps.length (List.replicate t.ps.length 0)
def conOne (t : Tre) (names : List ByteArray) (l : List Grp) (k : Nat) : List Int := if ofS (gg l k).src ∈ ownF t names then [] else [(k : Int)]
def conK (t : Tre) (names : List ByteArray) (l : List Grp) : Nat → List Int
  | 0 => []
  | k + 1 => conK t names l k ++ conOne t names l k
def conL (t : Tre) (names : List ByteArray) (l : List Grp) : List Int := if conErr t names l ≠ 0 then [] else conK t names l l.length
theorem conK_len (t : Tre) (names : List ByteArray) (l : List Grp) : ∀ k, (conK t names l k).length ≤ k
  | 0 => Nat.le_refl _
  | k + 1 => by
    have h := conK_len t names l k
    rw [conK, List.length_append]; unfold conOne; split <;> simp <;> omega
theorem ownStep_len (t : Tre) (num : ByteArray → Nat) (n : Nat) (o : List Nat) : (ownStep t num n o).length = o.length := by
  unfold ownStep
  split
  · rw [List.length_set]; split
    · rw [List.length_set]
    · rfl
  · split
    · rw [List.length_set]
    · rfl
theorem ownD_len (t : Tre) (num : ByteArray → Nat) : ∀ (n : Nat) (o : List Nat), (ownD t num n o).length = o.length
  | 0, _ => rfl
  | n + 1, o => by rw [ownD, ownD_len t num n, ownStep_len]
/-- What an accepted list of names has. -/
theorem conErr_zero {t : Tre} {names : List ByteArray} {l : List Grp} (h : conErr t names l = 0) : treeErr t = 0 ∧ (leavesL t.ns).length = names.length ∧ (∀ j, j < (leavesL t.ns).length → csBad t names j = false) ∧ gcErr l = 0 ∧ farB l names.length = false := by
  unfold conErr at h
  split at h
  · cases h
  · rename_i h1
    split at h
    · cases h
    · rename_i h2
      split at h
      · cases h
      · rename_i h3
        split at h
        · rename_i h4; exact absurd h h4
        · rename_i h4
          split at h
          · cases h
          · rename_i h5
            have h3 : ((List.range (leavesL t.ns).length).any (csBad t names)) = false := by simpa using h3
            exact ⟨Classical.not_not.1 h1, Classical.not_not.1 h2, fun j hj => any_false h3 hj, Classical.not_not.1 h4, by simpa using h5⟩
theorem nmIx_at {names : List ByteArray} {s : ByteArray} (h : ((mpL names).lookup s).isSome = true) : (mpL names).lookup s = some (.int .i64 (nmIx names s : Nat)) ∧ nmIx names s < names.length ∧ gs names (nmIx names s) = s := by
  cases hl : (mpL names).lookup s with
  | none => rw [hl] at h; cases h
  | some v =>
    obtain ⟨q, h1, h2, h3, _⟩ := mpK_val hl
    subst h2
    have : nmIx names s = q := by unfold nmIx; rw [hl]; simp
    rw [this]; exact ⟨rfl, h1, h3⟩
end Go.Proofs.YtgjcfkadioblfaaGreat
namespace Go.Proofs.YtgjcfkadioblfaaGreat
def Tre.app (t : Tre) (r : RT) (p : Int) : Tre := ⟨t.ps ++ psR r t.ps.length p, t.ns ++ nsR r⟩
def Tre.apps (t : Tre) (rs : List RT) (own : Nat) : Tre := ⟨t.ps ++ psRs rs own t.ps.length, t.ns ++ nsRs rs⟩
theorem psRs_app : ∀ (a b : List RT) (own n : Nat), psRs (a ++ b) own n = psRs a own n ++ psRs b own (n + sizeRs a)
  | [], _, _, _ => rfl
  | r :: a, b, own, n => by rw [List.cons_append, psRs, psRs, psRs_app a b own (n + sizeR r), sizeRs, List.append_assoc, Nat.add_assoc]
theorem nsRs_app : ∀ (a b : List RT), nsRs (a ++ b) = nsRs a ++ nsRs b
  | [], _ => rfl
  | r :: a, b => by rw [List.cons_append, nsRs, nsRs, nsRs_app a b, List.append_assoc]
theorem apps_nil (t : Tre) (own : Nat) : t.apps [] own = t := by simp [Tre.apps, psRs, nsRs]
theorem apps_apps (t : Tre) (a b : List RT) (own : Nat) : (t.apps a own).apps b own = t.apps (a ++ b) own := by
  unfold Tre.apps
  rw [psRs_app, nsRs_app, List.append_assoc, List.append_assoc, List.length_append, psRs_len]
theorem apps_app (t : Tre) (a : List RT) (r : RT) (own : Nat) : (t.apps a own).app r (own : Int) = t.apps (a ++ [r]) own := by
  rw [← apps_apps]
  simp [Tre.apps, Tre.app, psRs, nsRs]
end Go.Proofs.YtgjcfkadioblfaaGreat
namespace Go.Proofs.YtgjcfkadioblfaaGreat
def leafN (names : List ByteArray) (s : Nat) : RT := .node (gs names s) []
def leavesN (names : List ByteArray) (left k : Nat) : List RT := ((List.range k).filter fun s => left.testBit s).map (leafN names)
theorem leafK_eq (names : List ByteArray) (left own : Nat) (t : Tre) : ∀ s, leafK names left (own : Int) s t = t.apps (leavesN names left s) own
  | 0 => (apps_nil t own).symm
  | s + 1 => by
    rw [leafK, leafK_eq names left own t s]
    unfold leavesN
    rw [List.range_succ, List.filter_append, List.map_append]
    by_cases h : left.testBit s = true
    · rw [if_pos h, List.filter_cons_of_pos h, List.filter_nil, List.map_cons, List.map_nil, ← apps_app]
      simp [Tre.push, Tre.app, leafN, psR, psRs, nsR, nsRs]
    · rw [if_neg h, List.filter_cons_of_neg h, List.filter_nil, List.map_nil, List.append_nil]
def kidsI (inner : List Nat) (x k : Nat) : List Nat := (inner.take k).filter (isKid inner x)
theorem kidF_eq {g : Nat → Int → Tre → Tre} {gr : Nat → RT} (inner : List Nat) (x : Nat) (hg : ∀ y ∈ inner, isKid inner x y = true → ∀ (p : Int) (t : Tre), g y p t = t.app (gr y) p) (own : Nat) (t : Tre) :
    ∀ k, k ≤ inner.length → kidF g inner x (own : Int) k (x, t) = ((kidsI inner x k).foldl minus x, t.apps ((kidsI inner x k).map gr) own)
  | 0, _ => by rw [kidF]; simp [kidsI, apps_nil]
  | k + 1, hk => by
    have ih := kidF_eq inner x hg own t k (by omega)
    have hgn : gn inner k = inner[k]'(by omega) := by simp [gn, show k < inner.length by omega]
    have hki : kidsI inner x (k + 1) = kidsI inner x k ++ (if isKid inner x (gn inner k) then [gn inner k] else []) := by
      unfold kidsI
      rw [List.take_succ_eq_append_getElem (show k < inner.length by omega), List.filter_append, ← hgn]
      congr 1
      by_cases h : isKid inner x (gn inner k) = true
      · rw [if_pos h, List.filter_cons_of_pos h, List.filter_nil]
      · rw [if_neg h, List.filter_cons_of_neg h, List.filter_nil]
    rw [kidF, ih, hki]
    by_cases h : isKid inner x (gn inner k) = true
    · rw [if_pos h, if_pos h, hg _ (by rw [hgn]; exact List.getElem_mem _) h, apps_app, List.foldl_append, List.map_append]; rfl
    · rw [if_neg h, if_neg h, List.append_nil]
def kidsX (inner : List Nat) (x : Nat) : List Nat := inner.filter (isKid inner x)
def leftX (inner : List Nat) (x : Nat) : Nat := (kidsX inner x).foldl minus x
/-- The rose tree that grow makes. -/
def growR (names : List ByteArray) (inner : List Nat) : Nat → Nat → RT
  | 0, _ => .node ByteArray.empty []
  | d + 1, x => .node ByteArray.empty ((kidsX inner x).map (growR names inner d) ++ leavesN names (leftX inner x) names.length)
theorem isKid_lt {inner : List Nat} {x y : Nat} (hx : U64 x) (hy : U64 y) (h : isKid inner x y = true) : y < x := by
  unfold isKid at h
  simp only [Bool.and_eq_true, decide_eq_true_eq] at h
  have := within_le hy hx h.1.2
  have := h.1.1
  omega
theorem growF_eq (names : List ByteArray) (inner : List Nat) (hi : ∀ y ∈ inner, U64 y) : ∀ (d x : Nat) (p : Int) (t : Tre), x < d → U64 x → growF names inner d x p t = t.app (growR names inner d x) p
  | 0, _, _, _, h, _ => by omega
  | d + 1, x, p, t, h, hx => by
    have hg : ∀ y ∈ inner, isKid inner x y = true → ∀ (p : Int) (t : Tre), growF names inner d y p t = t.app (growR names inner d y) p := fun y hy hk p t => by
      have := isKid_lt hx (hi y hy) hk
      exact growF_eq names inner hi d y p t (by omega) (hi y hy)
    rw [growF, kidF_eq inner x hg t.ps.length (t.push p ByteArray.empty) inner.length (Nat.le_refl _)]
    show leafK names _ _ _ _ = _
    rw [leafK_eq, apps_apps, growR]
    unfold kidsI
    rw [List.take_length]
    simp [Tre.apps, Tre.app, Tre.push, psR, nsR, kidsX, leftX]
/-- The tree that Tree puts into canonical form. -/
theorem rawT_flat (names : List ByteArray) (l : List Grp) (hn : names.length ≤ 32) (hc : gcErr l = 0) : rawT names l = flat (growR names (innL l (allN names.length)) (allN names.length + 1) (allN names.length)) := by
  have hall : U64 (allN names.length) := by
    unfold U64 allN
    have : 2 ^ names.length ≤ 2 ^ 32 := Nat.pow_le_pow_right (by decide) hn
    omega
  unfold rawT
  rw [growF_eq names _ (fun y hy => by
    obtain ⟨j, hj, e⟩ := List.getElem_of_mem hy
    have := inn_u64 hc (allN names.length) l.length j (Nat.le_refl _)
    unfold innL at hj e
    simp only [gn, List.getD_eq_getElem?_getD, List.getElem?_eq_getElem hj, Option.getD_some] at this
    rw [e] at this; exact this) _ _ _ _ (by omega) hall]
  rfl
end Go.Proofs.YtgjcfkadioblfaaGreat
