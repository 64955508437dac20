/- A slice that a call grows by one element at a time. Lists of splits: ordered, each once. .. -/
import Derived.Test.YteegefnjnikngaaGreatQ2
import Derived.Maps.AppendAt
import Derived.Deep.AppendLies
import Derived.Test.YteegefnjnikngaaGreatQ1
import Derived.Shelf.Abstract
set_option maxRecDepth 100000
namespace Go.Proofs.YteegefnjnikngaaGreat
section
open Go.RowKit Go.Deep
def aA (base : Nat) (e : TypeId) (w : World) (v : Value) (vs : List Value) : Prop := w.ownsRow base e 1 v vs.length vs
theorem aA.nil (base : Nat) (e : TypeId) (w : World) : aA base e w (.slice none 0 0) [] := World.ownsRow_nil _ _ _ _
theorem aD.congr {S : Nat → Prop} {w : World} {v : Value} {n : Nat} {f g : Nat → Value} (h : aD S w v n f) (e : ∀ k, k < n → f k = g k) : aD S w v n g := by
 obtain ⟨p, cap, rfl, hn, h⟩ := h
 refine ⟨p, cap, rfl, hn, ?_⟩
 rcases h with h | ⟨b, off, rfl, hS, h⟩
 ·exact .inl h
 ·exact .inr ⟨b, off, rfl, hS, fun k hk => by rw [← e k hk]; exact h k hk⟩
theorem aA.AJ {base : Nat} {e : TypeId} {w : World} {v : Value} {vs : List Value} (h : aA base e w v vs) : aD (fun b => base ≤ b) w v vs.length (fun k => vs.getD k undef) := by
 rcases h.2 with ⟨rfl, h0⟩ | ⟨g, cap, cur, rfl, hg, hc, hn, _, _, ht⟩
 ·exact ⟨none, 0, by rw [h0], by omega, .inl h0⟩
 ·refine ⟨_, cap, rfl, hn, .inr ⟨g, 0, rfl, hg, fun k hk => ?_⟩⟩
  have := World.ownsRow.cells h (g := g) rfl k vs[k] (by simp [hk])
  have Dg : (⟨g, 0, none⟩ : Addr).add k = ⟨g, 0 + k, none⟩ := by unfold Addr.add; split <;> simp_all
  rw [Dg] at this
  rw [this]; simp [hk]
theorem aA.ints {base : Nat} {e : TypeId} {w : World} {v : Value} {xs : List Int} (h : aA base e w v (xs.map (Value.int .i64))) : aB (fun b => base ≤ b) w v xs := by
 have := h.AJ
 rw [List.length_map] at this
 exact this.congr fun k hk => by simp [gi, hk]
theorem aA.strs {base : Nat} {e : TypeId} {w : World} {v : Value} {xs : List ByteArray} (h : aA base e w v (xs.map Value.string)) : av (fun b => base ≤ b) w v xs := by
 have := h.AJ
 rw [List.length_map] at this
 exact this.congr fun k hk => by simp [gs, hk]
theorem aA.kept {base : Nat} {e : TypeId} {w w' : World} {v : Value} {vs : List Value} (h : aA base e w v vs) (k : ∀ b, base ≤ b → b < w.heap.size → w'.heap[b]? = w.heap[b]?) : aA base e w' v vs := by
 refine ⟨h.1, ?_⟩
 rcases h.2 with h0 | ⟨g, cap, cur, rfl, hg, hc, hr⟩
 ·exact .inl h0
 ·have hlt : g < w.heap.size := by
   rcases Nat.lt_or_ge g w.heap.size with h1 | h1
   ·exact h1
   ·rw [Array.getElem?_eq_none h1] at hc; cases hc
  exact .inr ⟨g, cap, cur, rfl, hg, (k g hg hlt).trans hc, hr⟩
theorem aA.alloc {base : Nat} {e : TypeId} {w : World} {v : Value} {vs : List Value} (h : aA base e w v vs) (o : Obj) : aA base e (w.alloc o) v vs := World.ownsRow.alloc h o
theorem jb {w w' : World} {o : Obj} {row : Option Nat} (h : (w.alloc o).grownBy w' row) : w.grownBy w' row :=
 ⟨h.os, h.tape, h.output, Nat.le_trans (by simp) h.size, fun k hk hne => (h.block k (by simp; omega) hne).trans (Below.heap_alloc w o k hk)⟩
theorem aA.dJ {base : Nat} {e : TypeId} {w w' : World} {v : Value} {vs : List Value} (h : aA base e w v vs) (hg : w.grownBy w' v.ownBlock) (hb : base ≤ w.heap.size) : Below base w w' :=
 (Below.refl base w).grown hg hb fun k hk => (World.ownsRow.lt h k hk).1
section
variable {P : Program} {ops : Array Oper} {rest : List Oper} {o : Oper} {a : Act} {Q : Exit → Act → World → Prop}
theorem mB (W : World) (hgd : o.guard = none) (s x : Operand) (t : TypeId) (ho : o.op = .call { callee := .builtin .append, args := #[s, x], argTypes := #[t, t] })
  (base : Nat) (e : TypeId) (z : Value) (bytes : Nat) (ht : P.underlying t = some (.slice e)) (hinfo : (P.info? e).map (fun i => (i.zero, i.size, i.bytes)) = some (some z, 1, bytes))
  (hz1 : z.cells.size = 1) (nU : bytes ≤ 64) {v : Value} {vs : List Value} (hown : aA base e W v vs) (hs : a.eval s = v) (u : Value)
  (hx : a.eval x = .slice (some ⟨W.heap.size, 0, none⟩) 1 1) (h1 : u.oneCell' = true) (hn : vs.length ≤ 1000000) (hbase : base ≤ W.heap.size)
  (h : ∀ g cap w', aA base e w' (.slice (some ⟨g, 0, none⟩) (vs.length + 1) cap) (vs ++ [u]) → W.grownBy w' v.ownBlock → Below base W w' → wpList P ops Q rest (a.put o.dst (.slice (some ⟨g, 0, none⟩) (vs.length + 1) cap)) w') :
  wpList P ops Q (o :: rest) a (W.alloc (.cells #[u] e)) := by
 obtain ⟨i, hi, hzz⟩ := Option.map_eq_some_iff.1 hinfo
 simp only [Prod.mk.injEq] at hzz
 obtain ⟨hz, hs1, hb⟩ := hzz
 refine wpList_append_lies _ hgd s x t ho base e i z 1 bytes ht hi hz hs1 hb hz1 (by omega) v vs.length vs hs (hown.alloc _) ⟨W.heap.size, 0, none⟩ 1 1 [u] hx rfl (cell_one_new _ _ _) (by simpa using h1) (by omega)
  (by unfold maxLen; omega) ?_ (by simp; omega) _ rfl fun g cap w' h2 h3 _ _ => h g cap w' ?_ (jb h3) (hown.dJ (jb h3) hbase)
 ·have : (vs.length + 1) * bytes ≤ (vs.length + 1) * 64 := Nat.mul_le_mul_left _ nU
  omega
 ·unfold aA; rw [List.length_append]; exact h2
end
end
section
end
section
def dd : List Int → List Int
 | [] => []
 | x :: l => if x ∈ dd l then dd l else x :: dd l
theorem uM {x : Int} : ∀ {l : List Int}, x ∈ dd l ↔ x ∈ l
 | [] => Iff.rfl
 | y :: l => by
  unfold dd
  split
  ·rename_i h
   rw [uM (l := l), List.mem_cons]
   exact ⟨.inr, fun h2 => h2.elim (fun e => by rw [e]; exact uM.1 h) id⟩
  ·rw [List.mem_cons, List.mem_cons, uM (l := l)]
theorem sg : ∀ l : List Int, (dd l).Nodup
 | [] => List.nodup_nil
 | y :: l => by
  unfold dd
  split
  ·exact sg l
  ·rename_i h; exact List.nodup_cons.2 ⟨h, sg l⟩
theorem Oh {n a b : Nat} (ha : a < n) (hb : b < n) : gM (bU n) a b = if a = b then 0 else 1 := by
 unfold gM; rw [Gl ha, BJ hb]; rfl
end
section
theorem Xw : nS (bU 16) = 0 := by decide +kernel
theorem st_bd {st : List Int} {m : Int} (h : iP st (-1) m = false) {k : Nat} (hk : k < st.length) : -1 ≤ gi st k ∧ gi st k < m := by
 have := any_false h hk
 simp at this; omega
theorem Oi {l : List Int} {x : Int} (h : x ∈ l) : ∃ k, k < l.length ∧ gi l k = x := by
 obtain ⟨k, hk, e⟩ := List.mem_iff_getElem.1 h
 exact ⟨k, hk, by simp [gi, hk, e]⟩
section
variable {t : ax} {st : List Int}
def dx (st : List Int) : List Int := st.filter fun s => decide (0 ≤ s)
end
end
section
open Go.RowKit Go.Deep
theorem si (c : UInt8) : (dg c.toNat = 1 ∨ dg c.toNat = 3) ↔ qW c = true := by
 unfold dg qW isLet; simp only [Bool.or_eq_true, Bool.and_eq_true, decide_eq_true_eq]
 repeat' split
 all_goals simp at *
 all_goals omega
theorem Dh (l : List UInt8) : jT l ≤ l.length := List.countP_le_length
theorem Oj (l : List UInt8) (c : UInt8) : jT (l ++ [c]) = jT l + if qW c then 1 else 0 := by
 simp [jT, List.countP_append, List.countP_cons]
theorem Ol (s : ByteArray) (k : Nat) (h : k < s.size) : s.data.toList.take (k + 1) = s.data.toList.take k ++ [s[k]] := by
 rw [List.take_succ_eq_append_getElem (by simpa using h)]; rfl
theorem Gm (l : List UInt8) : jT l = l.length ↔ l.all qW = true := by
 simp [jT, List.countP_eq_length]
theorem x7 (s : ByteArray) (k : Nat) (h : k < s.size) : jT (s.data.toList.take (k + 1)) = jT (s.data.toList.take k) + if qW s[k] then 1 else 0 := by
 rw [Ol s k h, Oj]
set_option maxHeartbeats 400000 in
theorem Om (s : ByteArray) (hs : s.size ≤ 70000) (w : World) : Calls Tryz.prog 196 #[.string s] w fun e w' => e = .returned (.int .i64 (jT s.data.toList)) ∧ w = w' := by
 go_enter Tryz.func196, Tryz.ntmps196
 go_wp2
 go_loop [3, 4, 5, 8] (fun n _ _ i => ∃ k : Nat, k ≤ s.size ∧ i = .int .i64 k ∧ n = .int .i64 (jT (s.data.toList.take k))) (fun _ _ _ i => s.size - (intOf i).toNat)
 case atStart => exact ⟨0, Nat.zero_le _, rfl, rfl⟩
 case round =>
  obtain ⟨k, hk, rfl, rfl⟩ := hrel
  have hb : jT (s.data.toList.take k) ≤ 70000 := Nat.le_trans (Dh _) (by simp; omega)
  by_cases hlt : k < s.size
  ·have hst := x7 s k hlt
   have hk' := si s[k]
   have hc : s[k].toNat < 256 := s[k].toNat_lt
   generalize hm : jT (s.data.toList.take k) = m at *
   have HS := aa hst
   have HK := aa hk'
   clear hst hm hk'
   go_wp2_with (go_at_call 254; refine (Xv _ hc _).mono ?_; rintro e w' ⟨rfl, rfl⟩; generalize dg _ = q at *)
   all_goals
    go_round
    case rel => exact ⟨k + 1, by omega, by go_num, by rw [HS.out]; first | (rw [if_pos (HK.out.1 (by first | omega | (simp only [beq_iff_eq] at *; omega)))]; go_num) | (rw [if_neg (fun h => by have := HK.out.2 h; simp only [beq_eq_false_iff_ne, ne_eq] at *; omega)]; go_num)⟩
    case measure => simp [intOf]; omega
  ·go_wp2
   go_ret
   exact ⟨aO (by rw [List.take_of_length_le (by simp; omega)]), rfl⟩
set_option maxHeartbeats 400000 in
theorem Gn (s : ByteArray) (hs : s.size ≤ 70000) (w : World) : Calls Tryz.prog 138 #[.string s] w fun e w' => e = .returned (.bool (eo s.data.toList)) ∧ w = w' := by
 have hl : s.data.toList.length = s.size := by simp
 have ha := Gm s.data.toList
 have hle := Dh s.data.toList
 have he : s.data.toList = [] ↔ s.size = 0 := by rw [← List.length_eq_zero_iff, hl]
 rw [hl] at ha hle
 have HA := aa ha
 have HL := aa hl
 have HE := aa he
 clear ha hl he
 have hE1 := toList_nil s
 have dG : eo s.data.toList = decide (1 ≤ s.size ∧ s.size ≤ 16 ∧ jT s.data.toList = s.size) := by
  unfold eo; rw [HL.out, Bool.eq_iff_iff]; simp only [Bool.and_eq_true, decide_eq_true_eq]; rw [← HA.out, and_assoc]
 have HF := aa dG
 have HE1 := aa hE1
 clear dG hE1 HA HL HE
 generalize hm : jT s.data.toList = m at *
 have HM := aa hm
 clear hm
 go_enter Tryz.func138, Tryz.ntmps138
 go_wp2_with (go_at_call 196; refine (Om _ hs _).mono ?_; rintro e w' ⟨rfl, rfl⟩; rw [HM.out])
 all_goals go_ret
 all_goals refine ⟨bw ?_, rfl⟩
 all_goals rw [HF.out]
 ·have := HE1.out.1 ‹_›; simp; omega
 ·have hne : ¬ s.size = 0 := fun h => ‹¬ s.toList = []› (HE1.out.2 h)
  have Di : s.toList.isEmpty = false := by simpa using ‹¬ s.toList = []›
  rw [Bool.eq_iff_iff]; simp [Di]; omega
 ·simp; omega

theorem Rs : qW 42 = false := by decide
theorem x8 (l : List UInt8) (h : l.getLast? = some 42) : eo l = false := by
 obtain ⟨a, rfl⟩ := List.getLast?_eq_some_iff.1 h
 simp [eo, Rs]
theorem Gp (s : ByteArray) (h1 : 1 ≤ s.size) : (s.extract (s.size - 1) s.size).toList = [42] ↔ s.data.toList.getLast? = some 42 := by
 have hl := size_data s
 rw [toList_data, ByteArray.data_extract, Array.toList_extract, List.extract_eq_take_drop]
 generalize s.data.toList = l at *
 have hne : l ≠ [] := by intro e; rw [e] at hl; simp at hl; omega
 rw [← hl]
 clear hl h1
 obtain ⟨a, x, rfl⟩ : ∃ a x, l = a ++ [x] := ⟨l.dropLast, l.getLast hne, (List.dropLast_concat_getLast hne).symm⟩
 simp
theorem Gq (s : ByteArray) : (s.extract 0 (s.size - 1)).data.toList = s.data.toList.dropLast := by
 have hl := size_data s
 rw [ByteArray.data_extract, Array.toList_extract, List.extract_eq_take_drop, List.dropLast_eq_take, hl]
 simp
def VU (s : ByteArray) (e : Ending) : Prop := (s.data.toList.getLast? = some 42 ∧ ∃ r : ByteArray, r.size ≤ s.size ∧ r.data.toList = s.data.toList.dropLast ∧ e = .returned (.tuple #[.string r, .bool true])) ∨ (s.data.toList.getLast? ≠ some 42 ∧ e = .returned (.tuple #[.string s, .bool false]))
set_option maxHeartbeats 400000 in
theorem Rt (s : ByteArray) (hs : s.size ≤ 70000) (w : World) : Calls Tryz.prog 209 #[.string s, .string ⟨#[42]⟩] w fun e w' => VU s e ∧ w = w' := by
 by_cases h0 : s.size = 0
 ·have hc : s.data.toList = [] := by rw [← toList_data]; exact (toList_nil s).2 h0
  have HC := aa hc
  clear hc
  go_enter Tryz.func209, Tryz.ntmps209
  go_wp2
  go_ret2
  exact ⟨.inr ⟨by rw [HC.out]; simp, rfl⟩, rfl⟩
 ·have h1 : 1 ≤ s.size := by omega
  clear h0
  go_enter Tryz.func209, Tryz.ntmps209
  go_wp2
  ·go_ret2
   refine ⟨.inr ⟨fun e => ?_, rfl⟩, rfl⟩
   have := (Gp s h1).2 e
   simp_all
  ·go_ret2
   have h2 := ‹(!(s.extract (s.size - 1) s.size).toList == [42]) = false›
   exact ⟨.inl ⟨(Gp s h1).1 (by simpa using h2), s.extract 0 (s.size - 1), by simp, Gq s, rfl⟩, rfl⟩
set_option maxHeartbeats 400000 in
theorem uN (s : ByteArray) (hs : s.size ≤ 70000) (w : World) : Calls Tryz.prog 148 #[.string s] w fun e w' => e = .returned (.bool (aZ s.data.toList)) ∧ w = w' := by
 have hl := size_data s
 have HL := aa hl
 clear hl
 go_enter Tryz.func148, Tryz.ntmps148
 go_wp2_with fail
 refine (Rt s hs _).mono ?_
 rintro e w' ⟨⟨h1, r, hr, hd, rfl⟩ | ⟨h1, rfl⟩, rfl⟩
 ·have hf : aZ s.data.toList = (decide (s.size ≤ 16) && eo r.data.toList) := by
   unfold aZ; rw [if_pos h1, hd, HL.out, Bool.and_comm]
  have HF := aa hf
  clear hf hd h1
  go_wp2_with (go_at_call 138; refine (Gn r (by omega) _).mono ?_; rintro e w' ⟨rfl, rfl⟩)
  all_goals
   go_ret
   refine ⟨bw ?_, rfl⟩
   rw [HF.out, Bool.eq_iff_iff]
   simp at *
   try omega
 ·have hf : aZ s.data.toList = eo s.data.toList := by unfold aZ; rw [if_neg h1]
  have HF := aa hf
  clear hf h1
  go_wp2_with (go_at_call 138; refine (Gn s hs _).mono ?_; rintro e w' ⟨rfl, rfl⟩)
  go_ret
  exact ⟨bw (by rw [HF.out]), rfl⟩
end
section
open Go.RowKit Go.Deep
theorem Dj {x y : ByteArray} (h : (x.toList == y.toList) = true) : x = y := by
 rw [beq_iff_eq, toList_data, toList_data] at h; exact fc h
theorem Gr {x y : ByteArray} (h : (x.toList == y.toList) = false) : ¬ x = y := by
 rintro rfl; simp at h
set_option maxHeartbeats 400000 in
theorem zO (S : Nat → Prop) (w : World) (v : Value) (n : Nat) (f : Nat → ByteArray) (x : ByteArray) (h : aD S w v n (fun k => .string (f k))) (hn : n ≤ 1000000) :
  Calls Tryz.prog 102 #[v, .string x] w fun e w' => e = .returned (.int .i64 (bW (fun j => decide (x = f j)) n)) ∧ w = w' := by
 obtain ⟨p, cap, rfl, hcap, H⟩ := h.open
 clear h
 go_enter Tryz.func102, Tryz.ntmps102
 go_wp2
 go_loop [5, 8] (fun _ i => ∃ k : Nat, k ≤ n ∧ i = .int .i64 k ∧ Hid (∀ j, j < k → decide (x = f j) = false)) (fun _ i => n - (intOf i).toNat)
 case atStart => exact ⟨0, Nat.zero_le _, rfl, fun j hj => absurd hj (Nat.not_lt_zero _)⟩
 case round =>
  obtain ⟨k, hk, rfl, hd⟩ := hrel
  by_cases hlt : k < n
  ·obtain ⟨b, off, rfl, hc⟩ := H k hlt
   clear H
   go_wp2
   ·have hx := Dj ‹(x.toList == (f k).toList) = true›
    go_ret
    exact ⟨aO (iO (p := fun j => decide (x = f j)) hlt hd.out (by simpa using hx)).symm, rfl⟩
   ·have hx := Gr ‹(x.toList == (f k).toList) = false›
    go_round
    case rel => exact ⟨k + 1, by omega, by go_num, fun j hj => if e : j = k then by subst e; simpa using hx else hd.out j (by omega)⟩
    case measure => simp [intOf]; omega
  ·clear H
   go_wp2
   go_ret
   exact ⟨aO (gu fun j hj => hd.out j (by omega)).symm, rfl⟩
set_option maxHeartbeats 400000 in
theorem gZ (S : Nat → Prop) (w : World) (v : Value) (n : Nat) (f : Nat → ByteArray) (x : ByteArray) (h : aD S w v n (fun k => .string (f k))) (hn : n ≤ 1000000) :
  Calls Tryz.prog 39 #[v, .string x] w fun e w' => e = .returned (.bool ((List.range n).any fun j => decide (x = f j))) ∧ w = w' := by
 have hx := mA (fun j => decide (x = f j)) n
 have HX := aa hx
 clear hx
 go_enter Tryz.func39, Tryz.ntmps39
 go_wp2_with (go_at_call 102; refine (zO S w v n f x h hn).mono ?_; rintro e w' ⟨rfl, rfl⟩)
 go_ret
 exact ⟨bw (by rw [← HX.out]), rfl⟩
end
section
open Go.RowKit Go.Deep
theorem Tryz.Oo : (Tryz.prog.info? 4).map (fun i => (i.zero, i.size, i.bytes)) = some (some (.bool false), 1, 1) := by kernel_rfl
theorem Gs (c : Nat) : (97 ≤ c ∧ c ≤ 122) ∨ (65 ≤ c ∧ c ≤ 90) ∨ (48 ≤ c ∧ c ≤ 57) ∨ c = 94 ∨ c = 126 ∨ c = 37 ∨ c = 39 ∨ c = 32 ∨ c = 46 ∨ c = 44 ∨ c = 59 ∨ c = 58 ∨ c = 33 ∨ c = 63 ∨ c = 40 ∨ c = 41 ∨ c = 45 ∨
  ((c < 97 ∨ 122 < c) ∧ (c < 65 ∨ 90 < c) ∧ (c < 48 ∨ 57 < c) ∧ c ≠ 94 ∧ c ≠ 126 ∧ c ≠ 37 ∧ c ≠ 39 ∧ c ≠ 32 ∧ c ≠ 46 ∧ c ≠ 44 ∧ c ≠ 59 ∧ c ≠ 58 ∧ c ≠ 33 ∧ c ≠ 63 ∧ c ≠ 40 ∧ c ≠ 41 ∧ c ≠ 45) := by omega
def sj (c : Nat) (w : World) (e : Ending) (w' : World) : Prop := e = .returned (.int .i64 (dg c)) ∧ w = w'
theorem kp {c : Nat} {n : Int} {w : World} (h : n = dg c) : sj c w (.returned (.int .i64 n)) w := ⟨by rw [h], rfl⟩
set_option maxHeartbeats 400000 in
theorem dh (c : Nat) (h : c ∈ [94, 126, 37, 39, 32, 46, 44, 59, 58, 33, 63, 40, 41, 45]) (w : World) : Calls Tryz.prog 263 #[.int .u8 c] w (sj c w) := by
 simp only [List.mem_cons, List.not_mem_nil, or_false] at h
 rcases h with rfl | rfl | rfl | rfl | rfl | rfl | rfl | rfl | rfl | rfl | rfl | rfl | rfl | rfl
 all_goals
  go_enter Tryz.func263, Tryz.ntmps263
  go_wp2
  go_ret
  exact kp rfl
set_option maxHeartbeats 400000 in
theorem Ru (c : Nat) (HK : Hid (dg c = 0)) (hc : c < 256) (h : c < 48 ∨ (57 < c ∧ c < 65) ∨ (90 < c ∧ c < 97) ∨ 122 < c) (Xx : ((c : Int) == 94) = false) (Rv : ((c : Int) == 126) = false) (Xy : ((c : Int) == 37) = false) (e39 : ((c : Int) == 39) = false) (e32 : ((c : Int) == 32) = false) (e46 : ((c : Int) == 46) = false) (e44 : ((c : Int) == 44) = false) (e59 : ((c : Int) == 59) = false) (e58 : ((c : Int) == 58) = false) (e33 : ((c : Int) == 33) = false) (e63 : ((c : Int) == 63) = false) (e40 : ((c : Int) == 40) = false) (e41 : ((c : Int) == 41) = false) (e45 : ((c : Int) == 45) = false) (w : World) : Calls Tryz.prog 263 #[.int .u8 c] w (sj c w) := by
 rcases h with h1 | ⟨h1, h2⟩ | ⟨h1, h2⟩ | h1
 all_goals
  go_enter Tryz.func263, Tryz.ntmps263
  go_wp2
  go_ret
  exact kp HK.out.symm
theorem Kr (c : Nat) (hc : c < 256) (h1 : c < 97 ∨ 122 < c) (h2 : c < 65 ∨ 90 < c) (h3 : c < 48 ∨ 57 < c) (n94 : c ≠ 94) (n126 : c ≠ 126) (n37 : c ≠ 37) (n39 : c ≠ 39) (n32 : c ≠ 32) (n46 : c ≠ 46) (n44 : c ≠ 44) (n59 : c ≠ 59) (n58 : c ≠ 58) (n33 : c ≠ 33) (n63 : c ≠ 63) (n40 : c ≠ 40) (n41 : c ≠ 41) (n45 : c ≠ 45) (w : World) : Calls Tryz.prog 263 #[.int .u8 c] w (sj c w) := by
 have hk : dg c = 0 := by
  unfold dg isLet vU
  rw [if_neg (by simp; omega), if_neg (by omega), if_neg (by omega), if_neg n39, if_neg n32, if_neg (by simp; omega)]
 have Xx : ((c : Int) == 94) = false := by rw [beq_eq_false_iff_ne]; omega
 have Rv : ((c : Int) == 126) = false := by rw [beq_eq_false_iff_ne]; omega
 have Xy : ((c : Int) == 37) = false := by rw [beq_eq_false_iff_ne]; omega
 have e39 : ((c : Int) == 39) = false := by rw [beq_eq_false_iff_ne]; omega
 have e32 : ((c : Int) == 32) = false := by rw [beq_eq_false_iff_ne]; omega
 have e46 : ((c : Int) == 46) = false := by rw [beq_eq_false_iff_ne]; omega
 have e44 : ((c : Int) == 44) = false := by rw [beq_eq_false_iff_ne]; omega
 have e59 : ((c : Int) == 59) = false := by rw [beq_eq_false_iff_ne]; omega
 have e58 : ((c : Int) == 58) = false := by rw [beq_eq_false_iff_ne]; omega
 have e33 : ((c : Int) == 33) = false := by rw [beq_eq_false_iff_ne]; omega
 have e63 : ((c : Int) == 63) = false := by rw [beq_eq_false_iff_ne]; omega
 have e40 : ((c : Int) == 40) = false := by rw [beq_eq_false_iff_ne]; omega
 have e41 : ((c : Int) == 41) = false := by rw [beq_eq_false_iff_ne]; omega
 have e45 : ((c : Int) == 45) = false := by rw [beq_eq_false_iff_ne]; omega
 exact Ru c hk hc (by omega) Xx Rv Xy e39 e32 e46 e44 e59 e58 e33 e63 e40 e41 e45 w
set_option maxHeartbeats 400000 in
theorem uA (c : Nat) (hc : c < 256) (h : (97 ≤ c ∧ c ≤ 122) ∨ (65 ≤ c ∧ c ≤ 90) ∨ (48 ≤ c ∧ c ≤ 57)) (w : World) : Calls Tryz.prog 263 #[.int .u8 c] w (sj c w) := by
 rcases h with ⟨h1, h2⟩ | ⟨h1, h2⟩ | ⟨h1, h2⟩
 ·have hk : dg c = 1 := by unfold dg isLet; rw [if_pos (by simp; omega)]
  have HK := aa hk
  clear hk
  go_enter Tryz.func263, Tryz.ntmps263
  go_wp2
  go_ret
  exact kp HK.out.symm
 ·have hk : dg c = 1 := by unfold dg isLet; rw [if_pos (by simp; omega)]
  have HK := aa hk
  clear hk
  go_enter Tryz.func263, Tryz.ntmps263
  go_wp2
  go_ret
  exact kp HK.out.symm
 ·have hk : dg c = 3 := by unfold dg isLet; rw [if_neg (by simp; omega), if_neg (by omega), if_pos (by omega)]
  have HK := aa hk
  clear hk
  have Xx : ((c : Int) == 94) = false := by rw [beq_eq_false_iff_ne]; omega
  have Rv : ((c : Int) == 126) = false := by rw [beq_eq_false_iff_ne]; omega
  have Xy : ((c : Int) == 37) = false := by rw [beq_eq_false_iff_ne]; omega
  go_enter Tryz.func263, Tryz.ntmps263
  go_wp2
  go_ret
  exact kp HK.out.symm
theorem rU (c : Nat) (hc : c < 256) (w : World) : Calls Tryz.prog 263 #[.int .u8 c] w fun e w' => e = .returned (.int .i64 (dg c)) ∧ w = w' := by
 have h := Gs c
 rcases h with h | h | h | h | h | h | h | h | h | h | h | h | h | h | h | h | h | ⟨h1, h2, h3, n94, n126, n37, n39, n32, n46, n44, n59, n58, n33, n63, n40, n41, n45⟩
 ·exact uA c hc (.inl h) w
 ·exact uA c hc (.inr (.inl h)) w
 ·exact uA c hc (.inr (.inr h)) w
 ·exact dh c (by rw [h]; decide) w
 ·exact dh c (by rw [h]; decide) w
 ·exact dh c (by rw [h]; decide) w
 ·exact dh c (by rw [h]; decide) w
 ·exact dh c (by rw [h]; decide) w
 ·exact dh c (by rw [h]; decide) w
 ·exact dh c (by rw [h]; decide) w
 ·exact dh c (by rw [h]; decide) w
 ·exact dh c (by rw [h]; decide) w
 ·exact dh c (by rw [h]; decide) w
 ·exact dh c (by rw [h]; decide) w
 ·exact dh c (by rw [h]; decide) w
 ·exact dh c (by rw [h]; decide) w
 ·exact dh c (by rw [h]; decide) w
 ·exact Kr c hc h1 h2 h3 n94 n126 n37 n39 n32 n46 n44 n59 n58 n33 n63 n40 n41 n45 w
set_option maxHeartbeats 400000 in
theorem My (s : ByteArray) (hs : s.size ≤ 70000) (w : World) : Calls Tryz.prog 217 #[.string s] w fun e w' => e = .returned (.int .i64 (jT s.data.toList)) ∧ w = w' := by
 go_enter Tryz.func217, Tryz.ntmps217
 go_wp2
 go_loop [3, 4, 5] (fun n i _ => ∃ k : Nat, k ≤ s.size ∧ i = .int .i64 k ∧ n = .int .i64 (jT (s.data.toList.take k))) (fun _ i _ => s.size - (intOf i).toNat)
 case atStart => exact ⟨0, Nat.zero_le _, rfl, rfl⟩
 case round =>
  obtain ⟨k, hk, rfl, rfl⟩ := hrel
  have hb : jT (s.data.toList.take k) ≤ 70000 := Nat.le_trans (Dh _) (by simp; omega)
  by_cases hlt : k < s.size
  ·have hst := x7 s k hlt
   have hk' := si s[k]
   have hc : s[k].toNat < 256 := s[k].toNat_lt
   generalize hm : jT (s.data.toList.take k) = m at *
   have HS := aa hst
   have HK := aa hk'
   clear hst hm hk'
   go_wp2_with (go_at_call 263; refine (rU _ hc _).mono ?_; rintro e w' ⟨rfl, rfl⟩; generalize dg _ = q at *)
   all_goals
    go_round
    case rel => exact ⟨k + 1, by omega, by go_num, by rw [HS.out]; first | (rw [if_pos (HK.out.1 (by first | omega | (simp only [beq_iff_eq] at *; omega)))]; go_num) | (rw [if_neg (fun h => by have := HK.out.2 h; simp only [beq_eq_false_iff_ne, ne_eq] at *; omega)]; go_num)⟩
    case measure => simp [intOf]; omega
  ·go_wp2
   go_ret
   exact ⟨aO (by rw [List.take_of_length_le (by simp; omega)]), rfl⟩
end
section
open Go.RowKit Go.Deep
def AK (g : Nat) (lb args : Array Value) (res : Value) (w : World) : Prop := Calls Tryz.prog g (args ++ lb) w fun e w' => e = .returned res ∧ w = w'
set_option maxHeartbeats 400000 in
theorem Oq (g : Nat) (lb : Array Value) (eg : ∀ args w, (callFunc g args).run Tryz.prog w = .ok (.enter g args) w) (S : Nat → Prop) (w : World) (v : Value) (n : Nat) (f : Nat → Value) (p : Nat → Bool)
  (h : aD S w v n f) (hn : n ≤ 1000000) (hp : ∀ k, k < n → AK g lb #[f k] (.bool (p k)) w) :
  Calls Tryz.prog 127 #[v, .func (.func g) #[] lb] w fun e w' => e = .returned (.int .i64 (bW p n)) ∧ w = w' := by
 obtain ⟨q, cap, rfl, hcap, H⟩ := h.open
 have HP := aa hp
 clear h hp
 go_enter Tryz.func127, Tryz.ntmps127
 go_wp2_with fail
 go_loop [5, 8] (fun _ i => ∃ k : Nat, k ≤ n ∧ i = .int .i64 k ∧ Hid (∀ j, j < k → p j = false)) (fun _ i => n - (intOf i).toNat)
 case atStart => exact ⟨0, Nat.zero_le _, rfl, fun j hj => absurd hj (Nat.not_lt_zero _)⟩
 case round =>
  obtain ⟨k, hk, rfl, hd⟩ := hrel
  by_cases hlt : k < n
  ·obtain ⟨b, off, rfl, hc⟩ := H k hlt
   clear H
   have hpk := HP.out k hlt
   unfold AK at hpk
   have xw := aa hpk
   clear hpk HP
   generalize hv : p k = pk at *
   have HV := aa hv
   clear hv
   cases pk
   ·go_wp2_with fail
    refine xw.out.mono ?_
    rintro e w' ⟨rfl, rfl⟩
    go_wp2_with fail
    go_round
    case rel => exact ⟨k + 1, by omega, by go_num, fun j hj => if e : j = k then by subst e; exact HV.out else hd.out j (by omega)⟩
    case measure => simp [intOf]; omega
   ·go_wp2_with fail
    refine xw.out.mono ?_
    rintro e w' ⟨rfl, rfl⟩
    go_wp2_with fail
    go_ret
    exact ⟨aO (iO hlt hd.out HV.out).symm, rfl⟩
  ·clear H
   go_wp2_with fail
   go_ret
   exact ⟨aO (gu fun j hj => hd.out j (by omega)).symm, rfl⟩
set_option maxHeartbeats 400000 in
theorem BK (g : Nat) (lb : Array Value) (eg : ∀ args w, (callFunc g args).run Tryz.prog w = .ok (.enter g args) w) (S : Nat → Prop) (w : World) (v : Value) (n : Nat) (f : Nat → Value) (p : Nat → Bool)
  (h : aD S w v n f) (hn : n ≤ 1000000) (hp : ∀ k, k < n → AK g lb #[f k] (.bool (p k)) w) :
  Calls Tryz.prog 68 #[v, .func (.func g) #[] lb] w fun e w' => e = .returned (.bool ((List.range n).any p)) ∧ w = w' := by
 have hx := mA p n
 have HX := aa hx
 have HI := aa (Oq g lb eg S w v n f p h hn hp)
 clear hx hp h eg
 go_enter Tryz.func68, Tryz.ntmps68
 go_wp2_with fail
 refine HI.out.mono ?_
 rintro e w' ⟨rfl, rfl⟩
 go_wp2_with fail
 go_ret
 exact ⟨bw (by rw [← HX.out]), rfl⟩
end
end Go.Proofs.YteegefnjnikngaaGreat
