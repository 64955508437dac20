/- SharederrorClades: what its loops keep in memory. Check, for names of any size. -/
import Derived.Test.YtgjcfkadioblfaaGreatQ36
import Derived.Test.YtgjcfkadioblfaaGreatQ26
import Derived.Test.YtgjcfkadioblfaaGreatQ2
namespace Go.Proofs.YtgjcfkadioblfaaGreat
open Go.RowKit Go.Deep
section
variable {P : Program} {ops : Array Oper} {rest : List Oper} {o : Oper} {a : Act} {Q : Exit → Act → World → Prop}
/-- 'out = append(out, g)', g of three cells: all that is known. -/
theorem wpList_app3 (W : World) (hgd : o.guard = none) (s x : Operand) (t : TypeId) (ho : o.op = .call { callee := .builtin .append, args := #[s, x], argTypes := #[t, t] })
    (base : Nat) (e : TypeId) (z : Value) (bytes : Nat) (ht : P.underlying t = some (.slice e)) (hinfo : (P.info? e).map (fun i => (i.zero, i.size, i.bytes)) = some (some z, 3, bytes))
    (hz1 : z.cells.size = 3) (hb8 : bytes ≤ 64) {v : Value} {n : Nat} {cs : List Value} (hown : W.ownsRow base e 3 v n cs) (hs : a.eval s = v) (u1 u2 u3 : Value)
    (hx : a.eval x = .slice (some ⟨W.heap.size, 0, none⟩) 1 1) (h1 : u1.oneCell' = true) (h2 : u2.oneCell' = true) (h3 : u3.oneCell' = true) (hn : n ≤ 1000000) (hbase : base ≤ W.heap.size)
    (h : ∀ g cap w', w'.ownsRow base e 3 (.slice (some ⟨g, 0, none⟩) (n + 1) cap) (n + 1) (cs ++ [u1, u2, u3]) → W.grownBy w' v.ownBlock → (v.ownBlock = some g ∨ W.heap.size ≤ g) → wpList P ops Q rest (a.put o.dst (.slice (some ⟨g, 0, none⟩) (n + 1) cap)) w') :
    wpList P ops Q (o :: rest) a (W.alloc (.cells #[u1, u2, u3] e)) := by
  obtain ⟨i, hi, hzz⟩ := Option.map_eq_some_iff.1 hinfo
  simp only [Prod.mk.injEq] at hzz
  obtain ⟨hz, hs1, hb⟩ := hzz
  refine wpList_append_lies _ hgd s x t ho base e i z 3 bytes ht hi hz hs1 hb hz1 (by omega) v n cs hs (hown.alloc _) ⟨W.heap.size, 0, none⟩ 1 1 [u1, u2, u3] hx rfl ?_ (fun q hq => by
    rcases List.mem_cons.1 hq with e | hq
    · subst e; exact h1
    · rcases List.mem_cons.1 hq with e | hq
      · subst e; exact h2
      · rw [List.mem_singleton.1 hq]; exact h3) (by omega)
    (by unfold maxLen; omega) ?_ (by simp; omega) _ rfl fun g cap w' g2 g3 g4 _ => h g cap w' g2 (grown_alloc g3) (g4.imp id fun e => by rw [e, World.size_alloc]; omega)
  · intro j u' hj
    match j with
    | 0 => obtain rfl : u1 = u' := by simpa using hj
           exact cell_at_new W _ e 0
    | 1 => obtain rfl : u2 = u' := by simpa using hj
           exact cell_at_new W _ e 1
    | 2 => obtain rfl : u3 = u' := by simpa using hj
           exact cell_at_new W _ e 2
    | j + 3 => simp at hj
  · have : (n + 1) * bytes ≤ (n + 1) * 64 := Nat.mul_le_mul_left _ hb8
    omega
/-- 'out = append(out, u)', the world's size said. -/
theorem wpList_appGM (W : World) (hgd : o.guard = none) (s x : Operand) (t : TypeId) (ho : o.op = .call { callee := .builtin .append, args := #[s, x], argTypes := #[t, t] })
    (base : Nat) (e : TypeId) (z : Value) (bytes : Nat) (ht : P.underlying t = some (.slice e)) (hinfo : (P.info? e).map (fun i => (i.zero, i.size, i.bytes)) = some (some z, 1, bytes))
    (hz1 : z.cells.size = 1) (hb8 : bytes ≤ 64) {v : Value} {vs : List Value} (hown : Owns base e W v vs) (hs : a.eval s = v) (u : Value) (m : Nat) (hm : W.heap.size = m)
    (hx : a.eval x = .slice (some ⟨m, 0, none⟩) 1 1) (h1 : u.oneCell' = true) (k : Nat) (hvn : vs.length = k) (hn : k ≤ 1000000) (hbase : base ≤ W.heap.size)
    (h : ∀ g cap w', Owns base e w' (.slice (some ⟨g, 0, none⟩) (k + 1) cap) (vs ++ [u]) → W.grownBy w' v.ownBlock → (v.ownBlock = some g ∨ W.heap.size ≤ g) → wpList P ops Q rest (a.put o.dst (.slice (some ⟨g, 0, none⟩) (k + 1) cap)) w') :
    wpList P ops Q (o :: rest) a (W.alloc (.cells #[u] e)) := by
  subst hm
  exact wpList_appG W hgd s x t ho base e z bytes ht hinfo hz1 hb8 hown hs u hx h1 k hvn hn hbase h
end
/-- The tree under way: its parents given, its names grow in its cell. -/
structure ClW (w2 wr : World) (tb : Nat) (pv nv : Value) (xs : List ByteArray) : Prop where
  box : wr.heap[tb]? = some (Obj.cells #[pv, nv] 25 (0, 0))
  own : Owns (tb + 1) 9 wr nv (xs.map Value.string)
  up : Up w2 wr
  lo : tb = w2.heap.size ∧ tb + 1 ≤ wr.heap.size
section
variable {w2 wr wx w' : World} {tb : Nat} {pv nv v : Value} {xs : List ByteArray}
theorem ClW.start (w2 : World) (pv : Value) : ClW w2 (w2.alloc (.cells #[pv, .slice none 0 0] 25)) w2.heap.size pv (.slice none 0 0) [] :=
  ⟨blk_alloc_new _ _, Owns.nil _ _ _, Up.alloc _ _, rfl, by rw [World.size_alloc]; exact Nat.le_refl _⟩
theorem ClW.upw (h : ClW w2 wr tb pv nv xs) (hu : Up wr wx) : ClW w2 wx tb pv nv xs :=
  ⟨(Below.block hu tb (by have := h.lo; omega)).trans h.box, h.own.same2 fun b hb => Below.block hu b (ownBlock_lt h.own hb).2, h.up.trans hu, h.lo.1, Nat.le_trans h.lo.2 hu.size⟩
theorem ClW.cells (h : ClW w2 wr tb pv nv xs) : wr.cell? ⟨tb, 0, none⟩ = some pv ∧ wr.cell? ⟨tb, 1, none⟩ = some nv ∧ wr.frozen? ⟨tb, 0, none⟩ = false ∧ wr.frozen? ⟨tb, 1, none⟩ = false := by
  refine ⟨?_, ?_, ?_, ?_⟩ <;> simp [World.cell?, World.frozen?, h.box]
theorem ClW.grown (h : ClW w2 wr tb pv nv xs) (hg : wr.grownBy w' nv.ownBlock) : w'.heap[tb]? = some (Obj.cells #[pv, nv] 25 (0, 0)) :=
  (hg.block tb (by have := h.lo; omega) fun e => by have := (ownBlock_lt h.own e.symm).1; omega).trans h.box
theorem ClW.push {s : ByteArray} (h : ClW w2 wr tb pv nv xs) (ho : Owns (tb + 1) 9 w' v (xs.map Value.string ++ [.string s])) (hg : wr.grownBy w' nv.ownBlock) :
    (w'.cell? ⟨tb, 1, none⟩ = some nv ∧ w'.frozen? ⟨tb, 1, none⟩ = false) ∧ ClW w2 (w'.setCell ⟨tb, 1, none⟩ v) tb pv v (xs ++ [s]) := by
  have hb := h.grown hg
  refine ⟨⟨by simp [World.cell?, hb], by simp [World.frozen?, hb]⟩, ?_, ?_, ?_, h.lo.1, by rw [World.size_setCell]; exact Nat.le_trans h.lo.2 hg.size⟩
  · simp [World.setCell, Array.getElem?_modify, hb]
  · rw [List.map_append]
    exact ho.same2 fun b hb2 => blk_setCell_other _ _ _ _ (show b ≠ tb by have := (ownBlock_lt ho hb2).1; omega)
  · refine ⟨hg.os.trans h.up.os, hg.tape.trans h.up.tape, hg.output.trans h.up.output, by rw [World.size_setCell]; exact Nat.le_trans h.up.size hg.size, fun b hb2 => ?_⟩
    rw [blk_setCell_other _ _ _ _ (show b ≠ tb by have := h.lo.1; omega)]
    refine (hg.block b (Nat.lt_of_lt_of_le hb2 h.up.size) fun e => ?_).trans (Below.block h.up b hb2)
    have := (ownBlock_lt h.own e.symm).1
    have := h.lo.1
    omega
end
/-- The groups and the numbers of the leaves, two lists that grow. -/
structure ClG (w3 wr : World) (d a : Value) (gs : List Grp) (svs : List Value) (xs : List Int) : Prop where
  row : wr.ownsRow w3.heap.size 61 3 d gs.length (cellsG gs svs)
  len : svs.length = gs.length
  src : ∀ i, i < gs.length → IntsAt (fun b => some b ≠ d.ownBlock ∧ some b ≠ a.ownBlock) wr (svs.getD i undef) (gg gs i).src
  all : Owns w3.heap.size 3 wr a (xs.map (Value.int .i64))
  apart : ∀ b, d.ownBlock = some b → a.ownBlock ≠ some b
  up : Up w3 wr
section
variable {w3 wr wx w' : World} {d a : Value} {gs : List Grp} {svs : List Value} {xs : List Int}
theorem ClG.start (w3 : World) : ClG w3 w3 (.slice none 0 0) (.slice none 0 0) [] [] [] :=
  ⟨World.ownsRow_nil _ _ _ _, rfl, fun _ h => absurd h (Nat.not_lt_zero _), Owns.nil _ _ _, fun _ h => (by cases h), Up.refl _⟩
theorem ClG.dlt (h : ClG w3 wr d a gs svs xs) {b : Nat} (hb : d.ownBlock = some b) : w3.heap.size ≤ b ∧ b < wr.heap.size := World.ownsRow.lt h.row b hb
theorem ClG.alt (h : ClG w3 wr d a gs svs xs) {b : Nat} (hb : a.ownBlock = some b) : w3.heap.size ≤ b ∧ b < wr.heap.size := ownBlock_lt h.all hb
theorem ownsRow_same {base sz n : Nat} {e : TypeId} {w w' : World} {v : Value} {cs : List Value} (h : w.ownsRow base e sz v n cs) (k : ∀ b, v.ownBlock = some b → w'.heap[b]? = w.heap[b]?) : w'.ownsRow base e sz v n cs := by
  refine ⟨h.1, ?_⟩
  rcases h.2 with h0 | ⟨g, cap, cur, rfl, hg, hc, hr⟩
  · exact .inl h0
  · exact .inr ⟨g, cap, cur, rfl, hg, (k g rfl).trans hc, hr⟩
theorem ClG.upw (h : ClG w3 wr d a gs svs xs) (hu : Up wr wx) : ClG w3 wx d a gs svs xs :=
  ⟨ownsRow_same h.row fun b hb => Below.block hu b (h.dlt hb).2, h.len, fun i hi => (h.src i hi).keep (hu.kept _), h.all.same2 fun b hb => Below.block hu b (h.alt hb).2, h.apart, h.up.trans hu⟩
theorem ClG.grps (h : ClG w3 wr d a gs svs xs) : GrpsAt Any wr d gs :=
  GrpsOwn.grps ⟨svs, h.len, h.row, fun i hi => (h.src i hi).sub fun _ hb _ => hb.1⟩
theorem ClG.up_of (h : ClG w3 wr d a gs svs xs) {c : Option Nat} (hg : wr.grownBy w' c) (hc : ∀ b, c = some b → w3.heap.size ≤ b) : Up w3 w' :=
  ⟨hg.os.trans h.up.os, hg.tape.trans h.up.tape, hg.output.trans h.up.output, Nat.le_trans h.up.size hg.size, fun b hb => (hg.block b (Nat.lt_of_lt_of_le hb h.up.size) fun e => by have := hc b e.symm; omega).trans (Below.block h.up b hb)⟩
/-- A group is appended. -/
theorem ClG.pushG {G : Grp} {u : Value} {g n cap : Nat} (h : ClG w3 wr d a gs svs xs) (hn : gs.length = n) (hu : IntsAt (fun b => some b ≠ d.ownBlock ∧ some b ≠ a.ownBlock) wr u G.src)
    (ho : w'.ownsRow w3.heap.size 61 3 (.slice (some ⟨g, 0, none⟩) (n + 1) cap) (n + 1) (cellsG gs svs ++ [.int .i64 G.un, .int .i64 G.st, u])) (hg : wr.grownBy w' d.ownBlock) (hr : d.ownBlock = some g ∨ wr.heap.size ≤ g) :
    ClG w3 w' (.slice (some ⟨g, 0, none⟩) (n + 1) cap) a (gs ++ [G]) (svs ++ [u]) xs := by
  subst hn
  have hga : a.ownBlock ≠ some g := fun e => by
    rcases hr with h4 | h4
    · exact h.apart g h4 e
    · have := (h.alt e).2; omega
  have hkeep : ∀ {u' : Value} {y' : List Int}, IntsAt (fun b => some b ≠ d.ownBlock ∧ some b ≠ a.ownBlock) wr u' y' → IntsAt (fun b => some b ≠ (Value.slice (some ⟨g, 0, none⟩) (gs.length + 1) cap).ownBlock ∧ some b ≠ a.ownBlock) w' u' y' := fun hi' =>
    ((hi'.sub (T := fun b => (some b ≠ d.ownBlock ∧ some b ≠ a.ownBlock) ∧ b < wr.heap.size) fun b hb hlt => ⟨hb, hlt⟩).keep fun b hb hlt => hg.block b hlt hb.1.1).sub fun b hb _ => ⟨fun e => by
      have e : b = g := by injection e
      subst e
      rcases hr with h4 | h4
      · exact hb.1.1 h4.symm
      · have := hb.2; omega, hb.1.2⟩
  refine ⟨by rw [List.length_append, cellsG_snoc G u gs svs h.len]; exact ho, by simp [h.len], fun i hi => ?_, h.all.same2 fun b hb => hg.block b (h.alt hb).2 fun e => h.apart b e.symm hb, fun b hb => ?_, h.up_of hg fun b hb => (h.dlt hb).1⟩
  · rw [List.length_append] at hi
    by_cases hi2 : i < gs.length
    · have e1 : (svs ++ [u]).getD i undef = svs.getD i undef := by simp [List.getElem?_append, h.len, hi2]
      have e2 : gg (gs ++ [G]) i = gg gs i := by simp [gg, List.getElem?_append, hi2]
      rw [e1, e2]; exact hkeep (h.src i hi2)
    · obtain rfl : i = gs.length := by simp at hi; omega
      have e1 : (svs ++ [u]).getD gs.length undef = u := by simp [← h.len]
      have e2 : gg (gs ++ [G]) gs.length = G := by simp [gg]
      rw [e1, e2]; exact hkeep hu
  · have e : g = b := by injection hb
    subst e; exact hga
/-- A number is appended. -/
theorem ClG.pushA {x : Int} {g m cap : Nat} (h : ClG w3 wr d a gs svs xs) (ho : Owns w3.heap.size 3 w' (.slice (some ⟨g, 0, none⟩) m cap) (xs.map (Value.int .i64) ++ [.int .i64 x])) (hg : wr.grownBy w' a.ownBlock) (hr : a.ownBlock = some g ∨ wr.heap.size ≤ g) :
    ClG w3 w' d (.slice (some ⟨g, 0, none⟩) m cap) gs svs (xs ++ [x]) := by
  have hgd : d.ownBlock ≠ some g := fun e => by
    rcases hr with h4 | h4
    · exact h.apart g e h4
    · have := (h.dlt e).2; omega
  refine ⟨ownsRow_same h.row fun b hb => hg.block b (h.dlt hb).2 fun e => h.apart b hb e.symm, h.len, fun i hi => ?_, by rw [List.map_append]; exact ho, fun b hb e => ?_, h.up_of hg fun b hb => (h.alt hb).1⟩
  · refine (((h.src i hi).sub (T := fun b => (some b ≠ d.ownBlock ∧ some b ≠ a.ownBlock) ∧ b < wr.heap.size) fun b hb hlt => ⟨hb, hlt⟩).keep fun b hb hlt => hg.block b hlt hb.1.2).sub fun b hb _ => ⟨hb.1.1, fun e => ?_⟩
    have e : b = g := by injection e
    subst e
    rcases hr with h4 | h4
    · exact hb.1.2 h4.symm
    · have := hb.2; omega
  · have e : g = b := by injection e
    subst e; exact hgd hb
end
/-- The first k names. -/
def uK (ns : List ByteArray) (k : Nat) : List ByteArray := (List.range k).map (uN ns)
theorem uK_succ (ns : List ByteArray) (k : Nat) : uK ns (k + 1) = uK ns k ++ [uN ns k] := by unfold uK; rw [List.range_succ, List.map_append]; rfl
theorem uK_len (ns : List ByteArray) (k : Nat) : (uK ns k).length = k := by simp [uK]
def clK (t : Tre) (k : Nat) : List Grp := (List.range k).map fun (i : Nat) => ⟨(i : Int), 0, lvL (uT t) i⟩
theorem clK_succ (t : Tre) (k : Nat) : clK t (k + 1) = clK t k ++ [⟨(k : Int), 0, lvL (uT t) k⟩] := by unfold clK; rw [List.range_succ, List.map_append]; rfl
theorem clK_len (t : Tre) (k : Nat) : (clK t k).length = k := by simp [clK]
def alK (ns : List ByteArray) : Nat → List Int
  | 0 => []
  | k + 1 => if (gs ns k).size ≠ 0 then alK ns k ++ [(k : Int)] else alK ns k
theorem alK_len (ns : List ByteArray) : ∀ k, (alK ns k).length ≤ k
  | 0 => Nat.le_refl _
  | k + 1 => by
    have := alK_len ns k
    rw [alK]; split
    · rw [List.length_append, List.length_singleton]; omega
    · omega
theorem alK_eq (ns : List ByteArray) : ∀ k, alK ns k = ((List.range k).filter fun i => decide ((gs ns i).size ≠ 0)).map fun (i : Nat) => (i : Int)
  | 0 => rfl
  | k + 1 => by
    rw [alK, List.range_succ, List.filter_append, List.map_append, alK_eq ns k]
    by_cases c : (gs ns k).size ≠ 0
    · rw [if_pos c, List.filter_cons_of_pos (by simpa using c)]; rfl
    · rw [if_neg c, List.filter_cons_of_neg (by simpa using c)]; simp
theorem alK_all (ns : List ByteArray) : alK ns ns.length = leavesL ns := by rw [alK_eq]; unfold leavesL; rfl
end Go.Proofs.YtgjcfkadioblfaaGreat
namespace Go.Proofs.YtgjcfkadioblfaaGreat
open Go.RowKit Go.Deep
set_option maxHeartbeats 400000 in
theorem letters9_t (s : ByteArray) (hs : s.size ≤ 9223372036854775807) (w : World) : Calls Tryz.prog 152 #[.string s] w fun e w' => e = .returned (.int .i64 (cntA s.data.toList)) ∧ w = w' := by
  go_enter Tryz.func152, Tryz.ntmps152
  go_wp2
  go_loop [3, 4, 5, 8] (fun n _ _ i => ∃ k : Nat, k ≤ s.size ∧ i = .int .i64 k ∧ n = .int .i64 (cntA (s.data.toList.take k))) (fun _ _ _ i => s.size - (intOf i).toNat)
  case atStart => exact ⟨0, Nat.zero_le _, rfl, rfl⟩
  case round =>
    obtain ⟨k, hk, rfl, rfl⟩ := hrel
    have hb : cntA (s.data.toList.take k) ≤ k := Nat.le_trans (cntA_le _) (by simp; omega)
    by_cases hlt : k < s.size
    · have hst := letters_step s k hlt
      have hk' := kind_aln s[k]
      have hc : s[k].toNat < 256 := s[k].toNat_lt
      generalize hm : cntA (s.data.toList.take k) = m at *
      have HS := Lib.hid hst
      have HK := Lib.hid hk'
      clear hst hm hk'
      go_wp2_with (go_at_call 177; refine (kind_t _ hc _).mono ?_; rintro e w' ⟨rfl, rfl⟩; generalize kindL _ = q at *)
      all_goals
        go_round
        case rel => exact ⟨k + 1, by omega, by go_num, by rw [HS.out]; first | (rw [if_pos (HK.out.1 (by first | omega | (simp only [beq_iff_eq] at *; omega)))]; go_num) | (rw [if_neg (fun h => by have := HK.out.2 h; simp only [beq_eq_false_iff_ne, ne_eq] at *; omega)]; go_num)⟩
        case measure => simp [intOf]; omega
    · go_wp2
      go_ret
      exact ⟨ret_int (by rw [List.take_of_length_le (by simp; omega)]), rfl⟩
set_option maxHeartbeats 400000 in
theorem isName9_t (s : ByteArray) (hs : s.size ≤ 9223372036854775807) (w : World) : Calls Tryz.prog 108 #[.string s] w fun e w' => e = .returned (.bool (isNameB s.data.toList)) ∧ w = w' := by
  have hl : s.data.toList.length = s.size := by simp
  have ha := cntA_all s.data.toList
  have hle := cntA_le s.data.toList
  have he : s.data.toList = [] ↔ s.size = 0 := by rw [← List.length_eq_zero_iff, hl]
  rw [hl] at ha hle
  have HA := Lib.hid ha
  have HL := Lib.hid hl
  have HE := Lib.hid he
  clear ha hl he
  have hE1 := toList_nil s
  have hfin : isNameB s.data.toList = decide (1 ≤ s.size ∧ s.size ≤ 16 ∧ cntA s.data.toList = s.size) := by
    unfold isNameB; rw [HL.out, Bool.eq_iff_iff]; simp only [Bool.and_eq_true, decide_eq_true_eq]; rw [← HA.out, and_assoc]
  have HF := Lib.hid hfin
  have HE1 := Lib.hid hE1
  clear hfin hE1 HA HL HE
  generalize hm : cntA s.data.toList = m at *
  have HM := Lib.hid hm
  clear hm
  go_enter Tryz.func108, Tryz.ntmps108
  go_wp2_with (go_at_call 152; refine (letters9_t _ hs _).mono ?_; rintro e w' ⟨rfl, rfl⟩; rw [HM.out])
  all_goals go_ret
  all_goals refine ⟨ret_bool ?_, rfl⟩
  all_goals rw [HF.out]
  · have := HE1.out.1 ‹_›; simp; omega
  · have hne : ¬ s.size = 0 := fun h => ‹¬ s.toList = []› (HE1.out.2 h)
    have hne2 : s.toList.isEmpty = false := by simpa using ‹¬ s.toList = []›
    rw [Bool.eq_iff_iff]; simp [hne2]; omega
  · simp; omega

set_option maxHeartbeats 400000 in
theorem suffix9_t (s : ByteArray) (hs : s.size ≤ 9223372036854775807) (w : World) : Calls Tryz.prog 107 #[.string s, .string ⟨#[42]⟩] w fun e w' => CutPost s e ∧ w = w' := by
  by_cases h0 : s.size = 0
  · have hc : s.data.toList = [] := by rw [← toList_data]; exact (toList_nil s).2 h0
    have HC := Lib.hid hc
    clear hc
    go_enter Tryz.func107, Tryz.ntmps107
    go_wp2
    go_ret2
    exact ⟨.inr ⟨by rw [HC.out]; simp, rfl⟩, rfl⟩
  · have h1 : 1 ≤ s.size := by omega
    clear h0
    go_enter Tryz.func107, Tryz.ntmps107
    go_wp2
    · go_ret2
      refine ⟨.inr ⟨fun e => ?_, rfl⟩, rfl⟩
      have := (star_iff s h1).2 e
      simp_all
    · go_ret2
      have h2 := ‹(!(s.extract (s.size - 1) s.size).toList == [42]) = false›
      exact ⟨.inl ⟨(star_iff s h1).1 (by simpa using h2), s.extract 0 (s.size - 1), by simp, cut_star s, rfl⟩, rfl⟩
set_option maxHeartbeats 400000 in
theorem named9_t (s : ByteArray) (hs : s.size ≤ 9223372036854775807) (w : World) : Calls Tryz.prog 95 #[.string s] w fun e w' => e = .returned (.bool (namedB s.data.toList)) ∧ w = w' := by
  have hl := size_data s
  have HL := Lib.hid hl
  clear hl
  go_enter Tryz.func95, Tryz.ntmps95
  go_wp2_with fail
  refine (suffix9_t s hs _).mono ?_
  rintro e w' ⟨⟨h1, r, hr, hd, rfl⟩ | ⟨h1, rfl⟩, rfl⟩
  · have hf : namedB s.data.toList = (decide (s.size ≤ 16) && isNameB r.data.toList) := by
      unfold namedB; rw [if_pos h1, hd, HL.out, Bool.and_comm]
    have HF := Lib.hid hf
    clear hf hd h1
    go_wp2_with (go_at_call 108; refine (isName9_t r (by omega) _).mono ?_; rintro e w' ⟨rfl, rfl⟩)
    all_goals
      go_ret
      refine ⟨ret_bool ?_, rfl⟩
      rw [HF.out, Bool.eq_iff_iff]
      simp at *
      try omega
  · have hf : namedB s.data.toList = isNameB s.data.toList := by unfold namedB; rw [if_neg h1]
    have HF := Lib.hid hf
    clear hf h1
    go_wp2_with (go_at_call 108; refine (isName9_t s hs _).mono ?_; rintro e w' ⟨rfl, rfl⟩)
    go_ret
    exact ⟨ret_bool (by rw [HF.out]), rfl⟩
set_option maxRecDepth 100000 in
set_option maxHeartbeats 800000 in
theorem check9_t (S : Nat → Prop) (w : World) (v : Value) (t : Tre) (h : TreeAt S w v t) (hp : t.ps.length ≤ 1000000) (hn : t.ns.length ≤ 9223372036854775807) (hz : ∀ k, (gs t.ns k).size ≤ 9223372036854775807) :
    Calls Tryz.prog 39 #[v] w fun e w' => e = .returned (.int .i64 (treeErr t)) ∧ Below w.heap.size w w' := by
  obtain ⟨P, N, rfl, hP, hN⟩ := h
  obtain ⟨ps, ns⟩ := t
  simp only at *
  have hfin : treeErr ⟨ps, ns⟩ = if ps.length = 0 then 5 else if 64 < ps.length then 4 else if ns.length ≠ ps.length then 9 else if pOkB ps then firstNZ (nErr ps ns) ps.length else 2 := rfl
  have HF := Lib.hid hfin
  clear hfin
  have hP' := hP.keep (Kept.below ((Below.refl _ w).alloc (Nat.le_refl _) (.cells #[P, N] 25)))
  have hN' := hN.keep (Kept.below ((Below.refl _ w).alloc (Nat.le_refl _) (.cells #[P, N] 25)))
  clear hP hN
  obtain ⟨p, cap, rfl, hcap, HP⟩ := SlAt.open hP'
  obtain ⟨q, cap2, rfl, hcap2, HN⟩ := SlAt.open hN'
  have hbx : Below w.heap.size w (w.alloc (.cells #[.slice p ps.length cap, .slice q ns.length cap2] 25)) := (Below.refl _ _).alloc (Nat.le_refl _) _
  have HPh := Lib.hid HP
  have HNh := Lib.hid HN
  clear hP' hN' HP HN
  by_cases h0 : ps.length = 0
  · have HX : Hid (ps.length = 0) := h0
    have h0' : ((ps.length : Int) == 0) = true := by simp [h0]
    clear h0
    go_enter Tryz.func39, Tryz.ntmps39
    go_wp2
    go_ret
    exact ⟨ret_int (by rw [HF.out, if_pos HX.out]), hbx⟩
  have h0' : ((ps.length : Int) == 0) = false := by simpa using h0
  by_cases h1 : 64 < ps.length
  · go_enter Tryz.func39, Tryz.ntmps39
    go_wp2
    go_ret
    exact ⟨ret_int (by rw [HF.out, if_neg h0, if_pos h1]), hbx⟩
  by_cases h2 : ns.length = ps.length
  · have h2' : ((ns.length : Int) != ps.length) = false := by simp [h2]
    have H2 := Lib.hid h2
    clear h2
    have hmk := fun W => run_make_row' (P := Tryz.prog) 130 4 (.bool false) 1 Tryz.underlying130 Tryz.infoB rfl .i64 .i64 ps.length (by omega) (by omega) W
    go_enter Tryz.func39, Tryz.ntmps39
    go_wp2
    clear hmk hbx
    have hstart := CkW.start (w.alloc (.cells #[.slice p ps.length cap, .slice q ns.length cap2] 25)) ps.length (fun j => inK ps 0 j) (fun j => rfl)
    rw [World.size_alloc] at hstart
    have hcp : (w.alloc (.cells #[.slice p ps.length cap, .slice q ns.length cap2] 25)).cell? ⟨w.heap.size, 0, none⟩ = some (.slice p ps.length cap) := by simp [World.cell?_alloc_new]
    have hcq : (w.alloc (.cells #[.slice p ps.length cap, .slice q ns.length cap2] 25)).cell? ⟨w.heap.size, 1, none⟩ = some (.slice q ns.length cap2) := by simp [World.cell?_alloc_new]
    have hb0 : Below w.heap.size w (w.alloc (.cells #[.slice p ps.length cap, .slice q ns.length cap2] 25)) := (Below.refl _ _).alloc (Nat.le_refl _) _
    have hsz : (w.alloc (.cells #[.slice p ps.length cap, .slice q ns.length cap2] 25)).heap.size = w.heap.size + 1 := by simp
    generalize hw0 : w.alloc (.cells #[.slice p ps.length cap, .slice q ns.length cap2] 25) = w0 at *
    clear hw0
    have HS := Lib.hid hsz
    have HCP := Lib.hid hcp
    have HCQ := Lib.hid hcq
    clear hsz hcp hcq
    go_loopw [4, 5, 33] (fun _ _ i wr => ∃ k : Nat, k ≤ ps.length ∧ i = .int .i64 k ∧ Hid (∀ j, j < k → okp j (gi ps j) = true) ∧ CkW w0 wr (w.heap.size + 1) ps.length (fun j => inK ps k j)) (fun _ _ i _ => ps.length - (intOf i).toNat)
    case atStart => exact ⟨0, Nat.zero_le _, rfl, fun j hj => absurd hj (Nat.not_lt_zero _), hstart⟩
    case round =>
      obtain ⟨k, hk, rfl, hd, hW⟩ := hrel
      clear hstart
      by_cases hlt : k < ps.length
      · obtain ⟨b, off, rfl, hc0⟩ := HPh.out k hlt
        have hc : wr.cell? ⟨b, off + k, none⟩ = some (.int .i64 (gi ps k)) := by
          rw [hW.below.cell (p := ⟨b, off + k, none⟩) (by have := World.block_lt_of_cell? _ _ hc0; have := HS.out; simp at *; omega)]; exact hc0
        clear hc0
        generalize hpk : gi ps k = x at *
        have HX := Lib.hid hpk
        clear hpk
        by_cases hg : 0 < k ∧ 0 ≤ x ∧ x < k
        · obtain ⟨g1, g2, g3⟩ := hg
          obtain ⟨y, rfl⟩ := Int.eq_ofNat_of_zero_le g2
          have hi1 := hW.row.cell (i := y) (by omega)
          have hi2 := hW.row.frozen y
          go_wp2
          go_roundw
          case rel => exact ⟨k + 1, by omega, by go_num, fun j hj => if e : j = k then by subst e; rw [HX.out]; unfold okp; rw [if_neg (by omega)]; simp; omega else hd.out j (by omega), hW.set (q := y) fun j => by rw [inK_succ, HX.out]; simp only [g1, decide_true, Bool.true_and]; congr 1; rw [Bool.eq_iff_iff]; simp; omega⟩
          case measure => simp [intOf]; omega
        · by_cases h00 : k = 0 ∧ x = -1
          · obtain ⟨rfl, rfl⟩ := h00
            have hc' : wr.cell? ⟨b, off, none⟩ = some (.int .i64 (-1)) := by simpa using hc
            go_wp2
            go_roundw
            case rel => exact ⟨1, by omega, by go_num, fun j hj => by obtain rfl : j = 0 := by omega
                                                                      rw [HX.out]; rfl, hW.congr fun j => by rw [inK_succ]; simp⟩
            case measure => simp [intOf]; omega
          · have hbad : okp k x = false := by
              unfold okp; split
              · rename_i e; simp; exact fun e2 => h00 ⟨e, e2⟩
              · simp; intro; omega
            rw [← HX.out] at hbad
            have HB := Lib.hid (pOkB_bad hlt hbad)
            clear hbad
            go_wp2
            all_goals go_ret
            all_goals exact ⟨ret_int (by rw [HF.out, if_neg h0, if_neg h1, if_neg (by rw [H2.out]; simp), HB.out]; simp), hb0.trans (hW.below.mono (by omega))⟩
      · obtain rfl : k = ps.length := by omega
        have hok := Lib.hid (pOkB_all hd.out)
        have hcx : wr.cell? ⟨w.heap.size, 1, none⟩ = some (.slice q ns.length cap2) := by
          rw [hW.below.cell (p := ⟨w.heap.size, 1, none⟩) (by simp)]; exact HCQ.out
        clear hlt hk hd HPh hcap
        go_wp2
        go_loop [6, 7, 66] (fun _ _ i => ∃ k : Nat, k ≤ ps.length ∧ i = .int .i64 k ∧ Hid (∀ j, j < k → nErr ps ns j = 0)) (fun _ _ i => ps.length - (intOf i).toNat)
        case atStart => exact ⟨0, Nat.zero_le _, rfl, fun j hj => absurd hj (Nat.not_lt_zero _)⟩
        case round =>
          obtain ⟨k, hk, rfl, hd⟩ := hrel
          have hlen : ns.length ≤ ps.length ∧ ps.length ≤ ns.length := by have := H2.out; omega
          obtain ⟨hl1, hl2⟩ := hlen
          by_cases hlt : k < ps.length
          · obtain ⟨b, off, rfl, hc0⟩ := HNh.out k (by have := H2.out; omega)
            have hpre : SlAt Any wr (.slice (some ⟨b, off, none⟩) k cap2) k (fun j => .string (gs ns j)) := by
              refine ⟨_, _, rfl, by omega, .inr ⟨b, off, rfl, trivial, fun j hj => ?_⟩⟩
              obtain ⟨b', off', e, hcj⟩ := HNh.out j (by omega)
              cases e
              rw [hW.below.cell (p := ⟨b, off + j, none⟩) (by have := World.block_lt_of_cell? _ _ hcj; have := HS.out; simp at *; omega)]; exact hcj
            have hc : wr.cell? ⟨b, off + k, none⟩ = some (.string (gs ns k)) := by
              rw [hW.below.cell (p := ⟨b, off + k, none⟩) (by have := World.block_lt_of_cell? _ _ hc0; have := HS.out; simp at *; omega)]; exact hc0
            clear hc0
            have hi1 := hW.row.cell (i := k) (by omega)
            have hsk : (List.range k).any (fun j => decide (gs ns k = gs ns j)) = seenK ns k := by
              unfold seenK; congr 1; funext j; exact decide_eq_decide.2 eq_comm
            have HSK := Lib.hid hsk
            clear hsk
            have hzk := hz k
            have hne : nErr ps ns k = if isIn ps k then (if (gs ns k).size = 0 then 0 else 14) else if namedB (gs ns k).data.toList then (if seenK ns k then 7 else 0) else 14 := rfl
            have hnil := toList_nil (gs ns k)
            have hend : nErr ps ns k ≠ 0 → treeErr ⟨ps, ns⟩ = nErr ps ns k := fun hn0 => by
              rw [HF.out, if_neg h0, if_neg h1, if_neg (by rw [H2.out]; simp), hok.out, if_pos rfl]; exact firstNZ_at hlt hd.out hn0
            have HE := Lib.hid hne
            have HEND := Lib.hid hend
            have HNIL := Lib.hid hnil
            have hW' := Lib.hid hW
            clear hne hend hnil HNh hz hW
            have hi2 : inK ps ps.length k = isIn ps k := rfl
            rw [hi2] at hi1
            clear hi2
            generalize hin : isIn ps k = bi at *
            generalize hnm : namedB (gs ns k).data.toList = bn at *
            generalize hsn : seenK ns k = bs at *
            generalize hgk : gs ns k = g at *
            have HNM := Lib.hid hnm
            clear hin hnm hsn hgk
            cases bi
            · cases bn
              · go_wp2_with (first | (go_at_call 95; refine (named9_t _ hzk _).mono ?_; rintro e w' ⟨rfl, rfl⟩; rw [HNM.out]) | (go_at_call 57; refine (contains_str_t Any _ _ k (fun j => gs ns j) _ hpre (by omega)).mono ?_; rintro e w' ⟨rfl, rfl⟩; rw [HSK.out]))
                go_ret
                exact ⟨ret_int (by rw [HEND.out (by rw [HE.out]; simp), HE.out]; simp), hb0.trans (hW'.out.below.mono (by omega))⟩
              · cases bs
                · go_wp2_with (first | (go_at_call 95; refine (named9_t _ hzk _).mono ?_; rintro e w' ⟨rfl, rfl⟩; rw [HNM.out]) | (go_at_call 57; refine (contains_str_t Any _ _ k (fun j => gs ns j) _ hpre (by omega)).mono ?_; rintro e w' ⟨rfl, rfl⟩; rw [HSK.out]))
                  go_round
                  case rel => exact ⟨k + 1, by omega, by go_num, fun j hj => if e : j = k then by subst e; rw [HE.out]; simp else hd.out j (by omega)⟩
                  case measure => simp [intOf]; omega
                · go_wp2_with (first | (go_at_call 95; refine (named9_t _ hzk _).mono ?_; rintro e w' ⟨rfl, rfl⟩; rw [HNM.out]) | (go_at_call 57; refine (contains_str_t Any _ _ k (fun j => gs ns j) _ hpre (by omega)).mono ?_; rintro e w' ⟨rfl, rfl⟩; rw [HSK.out]))
                  go_ret
                  exact ⟨ret_int (by rw [HEND.out (by rw [HE.out]; simp), HE.out]; simp), hb0.trans (hW'.out.below.mono (by omega))⟩
            · by_cases hg0 : g.size = 0
              · have hg1 : g.toList = [] := HNIL.out.2 hg0
                have hg2 : (!g.toList.isEmpty) = false := by simp [hg1]
                have HG0 := Lib.hid hg0
                clear hg0
                go_wp2_with (first | (go_at_call 95; refine (named9_t _ hzk _).mono ?_; rintro e w' ⟨rfl, rfl⟩; rw [HNM.out]) | (go_at_call 57; refine (contains_str_t Any _ _ k (fun j => gs ns j) _ hpre (by omega)).mono ?_; rintro e w' ⟨rfl, rfl⟩; rw [HSK.out]))
                go_round
                case rel => exact ⟨k + 1, by omega, by go_num, fun j hj => if e : j = k then by subst e; rw [HE.out]; simp [HG0.out] else hd.out j (by omega)⟩
                case measure => simp [intOf]; omega
              · have hg1 : (g.toList == []) = false := by
                  rw [Bool.eq_false_iff]; intro e; exact hg0 (HNIL.out.1 (by simpa using e))
                have hg2 : g.toList.isEmpty = false := by
                  rw [Bool.eq_false_iff]; intro e; exact hg0 (HNIL.out.1 (by simpa using e))
                go_wp2_with (first | (go_at_call 95; refine (named9_t _ hzk _).mono ?_; rintro e w' ⟨rfl, rfl⟩; rw [HNM.out]) | (go_at_call 57; refine (contains_str_t Any _ _ k (fun j => gs ns j) _ hpre (by omega)).mono ?_; rintro e w' ⟨rfl, rfl⟩; rw [HSK.out]))
                go_ret
                exact ⟨ret_int (by rw [HEND.out (by rw [HE.out]; simp [hg0]), HE.out]; simp [hg0]), hb0.trans (hW'.out.below.mono (by omega))⟩
          · have hk2 : k = ps.length := by omega
            clear hlt
            go_wp2
            go_ret
            exact ⟨ret_int (by rw [HF.out, if_neg h0, if_neg h1, if_neg (by rw [H2.out]; simp), hok.out, if_pos rfl, firstNZ_zero fun j hj => hd.out j (by omega)]), hb0.trans (hW.below.mono (by omega))⟩
  · have h2' : ((ns.length : Int) != ps.length) = true := by simp; omega
    go_enter Tryz.func39, Tryz.ntmps39
    go_wp2
    go_ret
    exact ⟨ret_int (by rw [HF.out, if_neg h0, if_neg h1, if_pos h2]), hbx⟩
theorem tree_small {t : Tre} (h : treeErr t = 0) : ∀ k, (gs t.ns k).size ≤ 70000 := fun k => by
  obtain ⟨_, _, hl, _, hne⟩ := treeErr_zero h
  by_cases hk : k < t.ps.length
  · have h1 := hne k hk
    unfold nErr at h1
    split at h1
    · split at h1
      · omega
      · cases h1
    · split at h1
      · rename_i hn
        have hsz : (gs t.ns k).data.toList.length = (gs t.ns k).size := by simp
        rw [← hsz]
        unfold namedB at hn
        split at hn
        · simp only [Bool.and_eq_true, decide_eq_true_eq] at hn
          omega
        · unfold isNameB at hn
          simp only [Bool.and_eq_true, decide_eq_true_eq] at hn
          omega
      · cases h1
  · have : gs t.ns k = ByteArray.empty := by unfold gs; rw [List.getD_eq_getElem?_getD, List.getElem?_eq_none (by omega)]; rfl
    rw [this]; exact Nat.zero_le _
end Go.Proofs.YtgjcfkadioblfaaGreat
