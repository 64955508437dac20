/- Lists of lists that a call grows; a store into a list of the call's own. The contract of agreement.Check. Groups of sources in memory; what Groups computes, plain. A list of groups of the call's own; a group appended. The contract of layer 31's reference's children. The contract of sharederror.Groups. -/
import Derived.Test.YtkfndaebmbnmaaaQ4
import Derived.Test.YtkfndaebmbnmaaaQ2
import Derived.Test.YtkfndaebmbnmaaaQ3
import Derived.Test.YtkfndaebmbnmaaaQ1
namespace Go.Proofs.Ytkfndaebmbnmaaa
open Go.RowKit Go.Deep
theorem Owns.set {base : Nat} {e : TypeId} {w : World} {v : Value} {vs : List Value} (h : Owns base e w v vs) {j : Nat} (hj : j < vs.length) :
    ∃ g cap, v = .slice (some ⟨g, 0, none⟩) vs.length cap ∧ base ≤ g ∧ g < w.heap.size ∧ w.cell? ⟨g, j, none⟩ = some (vs.getD j undef) ∧ w.frozen? ⟨g, j, none⟩ = false ∧ ∀ x, Owns base e (w.setCell ⟨g, j, none⟩ x) v (vs.set j x) := by
  obtain ⟨hl, h | ⟨g, cap, cur, rfl, hg, hc, hn, hcm, hcs, ht⟩⟩ := h
  · omega
  · have hgl : g < w.heap.size := (Array.getElem?_eq_some_iff.1 hc).1
    have ht1 : cur.toList.take vs.length = vs := by rw [Nat.mul_one] at ht; exact ht
    have hj2 : j < cur.size := by omega
    have hcell : cur[j]? = some (vs.getD j undef) := by
      have h1 : vs[j]? = some (vs.getD j undef) := by simp [hj]
      rw [← h1]
      have h2 := congrArg (·[j]?) ht1
      simp only [List.getElem?_take, hj, if_true] at h2
      rw [← h2]; simp
    refine ⟨g, cap, rfl, hg, hgl, by simp [World.cell?, hc, hcell], by simp [World.frozen?, hc], fun x => ⟨by simp, .inr ⟨g, cap, cur.setIfInBounds j x, by simp, hg, ?_, by simpa using hn, hcm, by simpa using hcs, ?_⟩⟩⟩
    · simp [World.setCell, Array.getElem?_modify, hc]
    · rw [List.length_set, Nat.mul_one, Array.toList_setIfInBounds, List.take_set, ht1]
theorem gi_set' (l : List Int) (j : Nat) (x : Int) : (l.map (Value.int .i64)).set j (.int .i64 x) = (l.set j x).map (Value.int .i64) := by
  rw [List.map_set]
/-- d is a list of lists that the call owns; the lists in it lie elsewhere. -/
def RowsOwn (base : Nat) (T : TypeId) (w : World) (d : Value) (xs : List (List Int)) : Prop :=
  ∃ vals : List Value, vals.length = xs.length ∧ Owns base T w d vals ∧ ∀ i, i < xs.length → IntsAt (fun b => some b ≠ d.ownBlock) w (vals.getD i undef) (gl xs i)
theorem ownBlock_lt {base : Nat} {e : TypeId} {w : World} {v : Value} {vs : List Value} (h : Owns base e w v vs) {b : Nat} (hb : v.ownBlock = some b) : base ≤ b ∧ b < w.heap.size := World.ownsRow.lt h b hb
theorem take_gi {l : List Int} {m : Nat} (h : m < l.length) : l.take (m + 1) = l.take m ++ [gi l m] := by
  rw [List.take_succ_eq_append_getElem h]; simp [gi, h]
theorem take_gl {l : List (List Int)} {m : Nat} (h : m < l.length) : l.take (m + 1) = l.take m ++ [gl l m] := by
  rw [List.take_succ_eq_append_getElem h]; simp [gl, h]
theorem Owns.ne {base base' : Nat} {e e' : TypeId} {w w' : World} {v u : Value} {vs us : List Value} (h : Owns base e w v vs) (_ : Owns base' e' w' u us) (hb : w.heap.size ≤ base') {b : Nat} (hb' : base' ≤ b) : some b ≠ v.ownBlock := fun e2 => by
  have := (ownBlock_lt h e2.symm).2; omega
theorem RowsOwn.nil (base : Nat) (T : TypeId) (w : World) : RowsOwn base T w (.slice none 0 0) [] := ⟨[], rfl, Owns.nil _ _ _, fun _ hi => absurd hi (Nat.not_lt_zero _)⟩
theorem RowsOwn.rows {base : Nat} {T : TypeId} {w : World} {d : Value} {xs : List (List Int)} (h : RowsOwn base T w d xs) : RowsAt Any w d xs := by
  obtain ⟨vals, hl, ho, hr⟩ := h
  have h1 := ho.slAt
  rw [hl] at h1
  exact ⟨_, h1.sub fun _ _ _ => trivial, fun k hk => (hr k hk).sub fun _ _ _ => trivial⟩
theorem RowsOwn.kept {base : Nat} {T : TypeId} {w w' : World} {d : Value} {xs : List (List Int)} (h : RowsOwn base T w d xs) (k : Up w w') : RowsOwn base T w' d xs := by
  obtain ⟨vals, hl, ho, hr⟩ := h
  exact ⟨vals, hl, ho.kept fun b _ hb => Below.block k b hb, fun i hi => (hr i hi).keep (k.kept _)⟩
section
variable {P : Program} {ops : Array Oper} {rest : List Oper} {o : Oper} {a : Act} {Q : Exit → Act → World → Prop}
/-- 'out = append(out, u)', the length said. -/
theorem wpList_appN (W : World) (hgd : o.guard = none) (s x : Operand) (t : TypeId) (ho : o.op = .call { callee := .builtin .append, args := #[s, x], argTypes := #[t, t] })
    (base : Nat) (e : TypeId) (z : Value) (bytes : Nat) (ht : P.underlying t = some (.slice e)) (hinfo : (P.info? e).map (fun i => (i.zero, i.size, i.bytes)) = some (some z, 1, bytes))
    (hz1 : z.cells.size = 1) (hb8 : bytes ≤ 64) {v : Value} {vs : List Value} (hown : Owns base e W v vs) (hs : a.eval s = v) (u : Value)
    (hx : a.eval x = .slice (some ⟨W.heap.size, 0, none⟩) 1 1) (h1 : u.oneCell' = true) (n : Nat) (hvn : vs.length = n) (hn : n ≤ 1000000) (hbase : base ≤ W.heap.size)
    (h : ∀ g cap w', Owns base e w' (.slice (some ⟨g, 0, none⟩) (n + 1) cap) (vs ++ [u]) → W.grownBy w' v.ownBlock → Below base W w' → wpList P ops Q rest (a.put o.dst (.slice (some ⟨g, 0, none⟩) (n + 1) cap)) w') :
    wpList P ops Q (o :: rest) a (W.alloc (.cells #[u] e)) := by
  subst hvn
  exact wpList_app1 W hgd s x t ho base e z bytes ht hinfo hz1 hb8 hown hs u hx h1 hn hbase h
/-- 'out = append(out, u)', u a list. -/
theorem wpList_appRow (W : World) (hgd : o.guard = none) (s x : Operand) (t : TypeId) (ho : o.op = .call { callee := .builtin .append, args := #[s, x], argTypes := #[t, t] })
    (base : Nat) (e : TypeId) (z : Value) (bytes : Nat) (ht : P.underlying t = some (.slice e)) (hinfo : (P.info? e).map (fun i => (i.zero, i.size, i.bytes)) = some (some z, 1, bytes))
    (hz1 : z.cells.size = 1) (hb8 : bytes ≤ 64) {v : Value} {xs : List (List Int)} (hown : RowsOwn base e W v xs) (hs : a.eval s = v) (u : Value) (y : List Int)
    (hx : a.eval x = .slice (some ⟨W.heap.size, 0, none⟩) 1 1) (hu : IntsAt (fun b => some b ≠ v.ownBlock) W u y) (h1 : u.oneCell' = true) (n : Nat) (hxn : xs.length = n) (hn : n ≤ 1000000) (hbase : base ≤ W.heap.size)
    (h : ∀ g cap w', RowsOwn base e w' (.slice (some ⟨g, 0, none⟩) (n + 1) cap) (xs ++ [y]) → W.grownBy w' v.ownBlock → Below base W w' → wpList P ops Q rest (a.put o.dst (.slice (some ⟨g, 0, none⟩) (n + 1) cap)) w') :
    wpList P ops Q (o :: rest) a (W.alloc (.cells #[u] e)) := by
  subst hxn
  obtain ⟨i, hi, hzz⟩ := Option.map_eq_some_iff.1 hinfo
  simp only [Prod.mk.injEq] at hzz
  obtain ⟨hz, hs1, hb⟩ := hzz
  obtain ⟨vals, hl, hown, hrows⟩ := hown
  refine wpList_append_lies _ hgd s x t ho base e i z 1 bytes ht hi hz hs1 hb hz1 (by omega) v vals.length vals hs (hown.alloc _) ⟨W.heap.size, 0, none⟩ 1 1 [u] hx rfl (cell_one_new _ _ _) (by simpa using h1) (by omega)
    (by unfold maxLen; omega) ?_ (by simp; omega) _ rfl fun g cap w' h2 h3 h4 _ => ?_
  · have : (vals.length + 1) * bytes ≤ (vals.length + 1) * 64 := Nat.mul_le_mul_left _ hb8
    omega
  · have hg := grown_alloc h3
    rw [hl] at h2 ⊢
    have hgne : ∀ b : Nat, some b ≠ v.ownBlock → b < W.heap.size → some b ≠ (Value.slice (some ⟨g, 0, none⟩) (xs.length + 1) cap).ownBlock := fun b hb hlt e => by
      simp only [Value.ownBlock, Option.some.injEq] at e
      rcases h4 with h4 | h4
      · exact hb (by rw [h4, e])
      · rw [World.size_alloc] at h4; omega
    have hkeep : ∀ {u' : Value} {y' : List Int}, IntsAt (fun b => some b ≠ v.ownBlock) W u' y' → IntsAt (fun b => some b ≠ (Value.slice (some ⟨g, 0, none⟩) (xs.length + 1) cap).ownBlock) w' u' y' := fun hi' =>
      ((hi'.sub (T := fun b => some b ≠ v.ownBlock ∧ b < W.heap.size) fun b hb hlt => ⟨hb, hlt⟩).keep fun b hb hlt => hg.block b hlt hb.1).sub fun b hb _ => hgne b hb.1 hb.2
    refine h g cap w' ⟨vals ++ [u], by simp [hl], ?_, fun i hi => ?_⟩ hg (hown.grown_below hg hbase)
    · unfold Owns; rw [List.length_append, hl]; exact h2
    · rw [List.length_append] at hi
      by_cases hi2 : i < xs.length
      · have e1 : (vals ++ [u]).getD i undef = vals.getD i undef := by simp [List.getElem?_append, hl, hi2]
        have e2 : gl (xs ++ [y]) i = gl xs i := by simp [gl, List.getElem?_append, hi2]
        rw [e1, e2]; exact hkeep (hrows i hi2)
      · obtain rfl : i = xs.length := by simp at hi; omega
        have e1 : (vals ++ [u]).getD xs.length undef = u := by simp [← hl]
        have e2 : gl (xs ++ [y]) xs.length = y := by simp [gl]
        rw [e1, e2]; exact hkeep hu
end
end Go.Proofs.Ytkfndaebmbnmaaa
namespace Go.Proofs.Ytkfndaebmbnmaaa
open Go.RowKit Go.Deep
def agRow (xs : List (List Int)) (k : Nat) : Int := if (gl xs k).length ≠ (gl xs 0).length then 9 else if stBad (gl xs k) (-1) 16 then 2 else 0
def agErr (xs : List (List Int)) : Int := if xs.length = 0 then 5 else if 32 < xs.length ∨ 4096 < (gl xs 0).length then 4 else firstNZ (agRow xs) xs.length
set_option maxHeartbeats 400000 in
theorem agcheck1_t (w : World) (x : Int) : FnIs 45 #[] #[.int .i64 x] (.bool (decide (x < -1) || decide (16 ≤ x))) w := by
  unfold FnIs
  go_enter Try.func45, Try.ntmps45
  by_cases hx : x < -1
  · go_wp2_with fail
    go_ret
    exact ⟨ret_bool (by simp [hx]), rfl⟩
  · go_wp2_with fail
    go_ret
    exact ⟨ret_bool (by simp; omega), rfl⟩
set_option maxRecDepth 100000 in
set_option maxHeartbeats 1000000 in
theorem agcheck_t (S : Nat → Prop) (w : World) (v : Value) (xs : List (List Int)) (h : RowsAt S w v xs) (hn : xs.length ≤ 1000000) (hr : ∀ k, (gl xs k).length ≤ 1000000) :
    Calls Try.prog 11 #[v] w fun e w' => e = .returned (.int .i64 (agErr xs)) ∧ w = w' := by
  have hfin : agErr xs = if xs.length = 0 then 5 else if 32 < xs.length ∨ 4096 < (gl xs 0).length then 4 else firstNZ (agRow xs) xs.length := rfl
  have HF := Lib.hid hfin
  obtain ⟨p, cap, rfl, hcap, _⟩ := rows_open h
  have H := Lib.hid h
  clear hfin h
  by_cases h0 : xs.length = 0
  · have HX : Hid (xs.length = 0) := h0
    have h0' : ((xs.length : Int) == 0) = true := by simp [h0]
    clear h0
    go_enter Try.func11, Try.ntmps11
    go_wp2_with fail
    go_ret
    exact ⟨ret_int (by rw [HF.out, if_pos HX.out]), rfl⟩
  have h0' : ((xs.length : Int) == 0) = false := by simpa using h0
  have h0p : 0 < xs.length := by omega
  by_cases h1 : 32 < xs.length
  · go_enter Try.func11, Try.ntmps11
    go_wp2_with fail
    go_ret
    exact ⟨ret_int (by rw [HF.out, if_neg h0, if_pos (.inl h1)]), rfl⟩
  obtain ⟨b, off, q0, c0, rfl, hc0, hi0⟩ := rows_get H.out h0p
  have hc00 : w.cell? ⟨b, off, none⟩ = some (.slice q0 (gl xs 0).length c0) := by simpa using hc0
  have hlen0 := hr 0
  clear hc0 hi0
  by_cases h2 : 4096 < (gl xs 0).length
  · go_enter Try.func11, Try.ntmps11
    go_wp2_with fail
    go_ret
    exact ⟨ret_int (by rw [HF.out, if_neg h0, if_pos (.inr h2)]), rfl⟩
  have HFF : Hid (agErr xs = firstNZ (agRow xs) xs.length) := by unfold Hid; rw [HF.out, if_neg h0, if_neg (by omega)]
  have HR := Lib.hid hr
  have HAR : Hid (∀ k, agRow xs k = if (gl xs k).length ≠ (gl xs 0).length then 9 else if stBad (gl xs k) (-1) 16 then 2 else 0) := fun _ => rfl
  clear HF hr
  generalize (gl xs 0).length = l0 at *
  go_enter Try.func11, Try.ntmps11
  go_wp2_with fail
  go_loop [4, 22] (fun _ i => ∃ k : Nat, k ≤ xs.length ∧ i = .int .i64 k ∧ Hid (∀ j, j < k → agRow xs j = 0)) (fun _ i => xs.length - (intOf i).toNat)
  case atStart => exact ⟨0, Nat.zero_le _, rfl, fun j hj => absurd hj (Nat.not_lt_zero _)⟩
  case round =>
    obtain ⟨k, hk, rfl, hd⟩ := hrel
    by_cases hlt : k < xs.length
    · obtain ⟨b', off', qk, ck, e1, hck, hik⟩ := rows_get H.out hlt
      injection e1 with e1
      injection e1 with e1 e2
      subst e1; subst e2
      have HCO := Lib.hid (ints_has_t 45 #[] (enters_of Try.func45 (by kernel_rfl) rfl) S w _ (gl xs k).length _ (fun j => decide (gi (gl xs k) j < -1) || decide (16 ≤ gi (gl xs k) j)) hik (HR.out k) (fun j _ => agcheck1_t w (gi (gl xs k) j)))
      have HSB : Hid (stBad (gl xs k) (-1) 16 = (List.range (gl xs k).length).any fun j => decide (gi (gl xs k) j < -1) || decide (16 ≤ gi (gl xs k) j)) := rfl
      have HK := Lib.hid (HAR.out k)
      clear hik
      by_cases hll : (gl xs k).length = l0
      · have hl1 : (((gl xs k).length : Int) != (l0 : Int)) = false := by simp [hll]
        have HLL := Lib.hid hll
        clear hll
        go_wp2_with fail
        refine HCO.out.mono ?_
        rintro e w' ⟨rfl, rfl⟩
        rw [← HSB.out]
        by_cases hsb : stBad (gl xs k) (-1) 16 = true
        · have HSS := Lib.hid hsb
          rw [hsb]
          clear hsb
          go_wp2_with fail
          go_ret
          have hrk : agRow xs k = 2 := by rw [HK.out, if_neg (fun e => e HLL.out), if_pos HSS.out]
          exact ⟨ret_int (by rw [HFF.out, firstNZ_at hlt hd.out (by rw [hrk]; decide), hrk]), rfl⟩
        · have hsf : stBad (gl xs k) (-1) 16 = false := by simpa using hsb
          have HSS := Lib.hid hsb
          rw [hsf]
          clear hsb hsf
          go_wp2_with fail
          go_round
          case rel => exact ⟨k + 1, by omega, by go_num, fun j hj => if e : j = k then by subst e; rw [HK.out, if_neg (fun e => e HLL.out), if_neg HSS.out] else hd.out j (by omega)⟩
          case measure => simp [intOf]; omega
      · have hl1 : (((gl xs k).length : Int) != (l0 : Int)) = true := by simp; omega
        have HLL := Lib.hid hll
        clear hll
        go_wp2_with fail
        go_ret
        have hrk : agRow xs k = 9 := by rw [HK.out, if_pos HLL.out]
        exact ⟨ret_int (by rw [HFF.out, firstNZ_at hlt hd.out (by rw [hrk]; decide), hrk]), rfl⟩
    · obtain rfl : k = xs.length := by omega
      clear hlt
      go_wp2_with fail
      go_ret
      exact ⟨ret_int (by rw [HFF.out, firstNZ_zero hd.out]), rfl⟩
end Go.Proofs.Ytkfndaebmbnmaaa
namespace Go.Proofs.Ytkfndaebmbnmaaa
open Go.RowKit Go.Deep
structure Grp where
  un : Int
  st : Int
  src : List Int
def gg (l : List Grp) (k : Nat) : Grp := l.getD k ⟨0, 0, []⟩
/-- v is a slice of groups: three cells each, the third a list of sources. -/
def GrpsAt (S : Nat → Prop) (w : World) (v : Value) (gs : List Grp) : Prop :=
  ∃ p cap, v = .slice p gs.length cap ∧ gs.length ≤ cap ∧ (gs.length = 0 ∨ ∃ b off, p = some ⟨b, off, none⟩ ∧ S b ∧ ∀ k, k < gs.length → ∃ sv, w.cell? ⟨b, off + k * 3, none⟩ = some (.int .i64 (gg gs k).un) ∧ w.cell? ⟨b, off + k * 3 + 1, none⟩ = some (.int .i64 (gg gs k).st) ∧ w.cell? ⟨b, off + k * 3 + 2, none⟩ = some sv ∧ IntsAt S w sv (gg gs k).src)
theorem GrpsAt.keep {S : Nat → Prop} {w w' : World} {v : Value} {gs : List Grp} (h : GrpsAt S w v gs) (k : Kept S w w') : GrpsAt S w' v gs := by
  obtain ⟨p, cap, rfl, hn, h⟩ := h
  refine ⟨p, cap, rfl, hn, ?_⟩
  rcases h with h | ⟨b, off, rfl, hS, h⟩
  · exact .inl h
  · refine .inr ⟨b, off, rfl, hS, fun i hi => ?_⟩
    obtain ⟨sv, h1, h2, h3, h4⟩ := h i hi
    have hlt : b < w.heap.size := World.block_lt_of_cell? w _ h1
    have hc : ∀ o, w'.cell? ⟨b, o, none⟩ = w.cell? ⟨b, o, none⟩ := fun o => World.cell?_of_block (a := ⟨b, o, none⟩) (k b hS hlt)
    exact ⟨sv, (hc _).trans h1, (hc _).trans h2, (hc _).trans h3, h4.keep k⟩
theorem GrpsAt.sub {S T : Nat → Prop} {w : World} {v : Value} {gs : List Grp} (h : GrpsAt S w v gs) (hST : ∀ b, S b → b < w.heap.size → T b) : GrpsAt T w v gs := by
  obtain ⟨p, cap, rfl, hn, h⟩ := h
  refine ⟨p, cap, rfl, hn, ?_⟩
  rcases h with h | ⟨b, off, rfl, hS, h⟩
  · exact .inl h
  · by_cases h0 : gs.length = 0
    · exact .inl h0
    · obtain ⟨_, h1, _⟩ := h 0 (by omega)
      refine .inr ⟨b, off, rfl, hST b hS (World.block_lt_of_cell? w _ h1), fun i hi => ?_⟩
      obtain ⟨sv, h1, h2, h3, h4⟩ := h i hi
      exact ⟨sv, h1, h2, h3, h4.sub hST⟩
/-- The sources, of the first k, that have state s at place u. -/
def srcK (xs : List (List Int)) (u : Nat) (s : Int) (k : Nat) : List Int := ((List.range k).filter fun i => gi (gl xs i) u == s).map fun (i : Nat) => (i : Int)
theorem srcK_succ (xs : List (List Int)) (u : Nat) (s : Int) (k : Nat) : srcK xs u s (k + 1) = srcK xs u s k ++ (if gi (gl xs k) u = s then [(k : Int)] else []) := by
  unfold srcK
  rw [List.range_succ, List.filter_append, List.map_append]
  congr 1
  by_cases h : gi (gl xs k) u = s
  · simp [h]
  · simp [h]
theorem srcK_len (xs : List (List Int)) (u : Nat) (s : Int) (k : Nat) : (srcK xs u s k).length ≤ k := by
  unfold srcK
  rw [List.length_map]
  exact Nat.le_trans (List.length_filter_le _ _) (by simp)
/-- The group of a state at a place, where there is one. -/
def grp1 (xs : List (List Int)) (og : List Int) (u s : Nat) : List Grp := if (s : Int) ≠ gi og u ∧ srcK xs u s xs.length ≠ [] then [⟨u, s, srcK xs u s xs.length⟩] else []
def stK (xs : List (List Int)) (og : List Int) (u s : Nat) : List Grp := (List.range s).flatMap (grp1 xs og u)
def unG (xs : List (List Int)) (og : List Int) (u : Nat) : List Grp := if gi og u < 0 then [] else stK xs og u 16
def unK (xs : List (List Int)) (og : List Int) (k : Nat) : List Grp := (List.range k).flatMap (unG xs og)
theorem stK_succ (xs : List (List Int)) (og : List Int) (u s : Nat) : stK xs og u (s + 1) = stK xs og u s ++ grp1 xs og u s := by
  unfold stK; rw [List.range_succ, List.flatMap_append]; simp
theorem unK_succ (xs : List (List Int)) (og : List Int) (k : Nat) : unK xs og (k + 1) = unK xs og k ++ unG xs og k := by
  unfold unK; rw [List.range_succ, List.flatMap_append]; simp
def plN (xs : List (List Int)) : Nat := (gl xs 0).length
def grErr (xs : List (List Int)) (og : List Int) : Int := if agErr xs ≠ 0 then agErr xs else if og.length ≠ plN xs then 9 else if stBad og (-1) 16 then 2 else 0
def groupsN (xs : List (List Int)) (og : List Int) : List Grp := if grErr xs og = 0 then unK xs og og.length else []
end Go.Proofs.Ytkfndaebmbnmaaa
namespace Go.Proofs.Ytkfndaebmbnmaaa
open Go.RowKit Go.Deep
def cellsG : List Grp → List Value → List Value
  | g :: gs, s :: ss => .int .i64 g.un :: .int .i64 g.st :: s :: cellsG gs ss
  | _, _ => []
theorem cellsG_snoc (g : Grp) (s : Value) : ∀ (gs : List Grp) (ss : List Value), ss.length = gs.length → cellsG (gs ++ [g]) (ss ++ [s]) = cellsG gs ss ++ [.int .i64 g.un, .int .i64 g.st, s]
  | [], [], _ => rfl
  | [], _ :: _, h => by simp at h
  | _ :: _, [], h => by simp at h
  | x :: gs, y :: ss, h => by
    simp only [List.cons_append, cellsG]
    rw [cellsG_snoc g s gs ss (by simpa using h)]
theorem cellsG_at : ∀ (gs : List Grp) (ss : List Value), ss.length = gs.length → ∀ k, k < gs.length → (cellsG gs ss)[k * 3]? = some (.int .i64 (gg gs k).un) ∧ (cellsG gs ss)[k * 3 + 1]? = some (.int .i64 (gg gs k).st) ∧ (cellsG gs ss)[k * 3 + 2]? = some (ss.getD k undef)
  | [], _, _, k, hk => absurd hk (Nat.not_lt_zero _)
  | _ :: _, [], h, _, _ => by simp at h
  | x :: gs, y :: ss, h, 0, _ => by simp [cellsG, gg]
  | x :: gs, y :: ss, h, k + 1, hk => by
    have ih := cellsG_at gs ss (by simpa using h) k (by simpa using hk)
    have e : (k + 1) * 3 = k * 3 + 1 + 1 + 1 := by omega
    simp only [cellsG, e, List.getElem?_cons_succ]
    have e2 : gg (x :: gs) (k + 1) = gg gs k := by simp [gg]
    have e3 : (y :: ss).getD (k + 1) undef = ss.getD k undef := by simp
    rw [e2, e3]
    refine ⟨ih.1, ?_, ?_⟩
    · have h1 := ih.2.1; rwa [show k * 3 + 1 = k * 3 + 1 from rfl] at h1
    · exact ih.2.2
theorem cellsG_len : ∀ (gs : List Grp) (ss : List Value), ss.length = gs.length → (cellsG gs ss).length = gs.length * 3
  | [], [], _ => rfl
  | [], _ :: _, h => by simp at h
  | _ :: _, [], h => by simp at h
  | x :: gs, y :: ss, h => by simp only [cellsG, List.length_cons]; rw [cellsG_len gs ss (by simpa using h)]; omega
def GrpsOwn (base : Nat) (T : TypeId) (w : World) (v : Value) (gs : List Grp) : Prop :=
  ∃ svs : List Value, svs.length = gs.length ∧ w.ownsRow base T 3 v gs.length (cellsG gs svs) ∧ ∀ i, i < gs.length → IntsAt (fun b => some b ≠ v.ownBlock) w (svs.getD i undef) (gg gs i).src
theorem GrpsOwn.nil (base : Nat) (T : TypeId) (w : World) : GrpsOwn base T w (.slice none 0 0) [] := ⟨[], rfl, World.ownsRow_nil _ _ _ _, fun _ hi => absurd hi (Nat.not_lt_zero _)⟩
theorem GrpsOwn.grps {base : Nat} {T : TypeId} {w : World} {v : Value} {gs : List Grp} (h : GrpsOwn base T w v gs) : GrpsAt Any w v gs := by
  obtain ⟨svs, hl, ho, hr⟩ := h
  rcases ho.2 with ⟨rfl, h0⟩ | ⟨g, cap, cur, rfl, hg, hc, hn, hcm, hcs, ht⟩
  · have : gs = [] := by cases gs with | nil => rfl | cons _ _ => simp at h0
    subst this
    exact ⟨none, 0, rfl, Nat.le_refl _, .inl rfl⟩
  · refine ⟨_, cap, rfl, hn, .inr ⟨g, 0, rfl, trivial, fun k hk => ?_⟩⟩
    obtain ⟨c1, c2, c3⟩ := cellsG_at gs svs hl k hk
    refine ⟨svs.getD k undef, ?_, ?_, ?_, (hr k hk).sub fun _ _ _ => trivial⟩
    · rw [Nat.zero_add, ho.cellAt (k * 3) (by omega)]; exact c1
    · rw [Nat.zero_add, ho.cellAt (k * 3 + 1) (by omega)]; exact c2
    · rw [Nat.zero_add, ho.cellAt (k * 3 + 2) (by omega)]; exact c3
section
variable {P : Program} {ops : Array Oper} {rest : List Oper} {o : Oper} {a : Act} {Q : Exit → Act → World → Prop}
/-- 'out = append(out, g)', g a group. -/
theorem wpList_appGrp (W : World) (hgd : o.guard = none) (s x : Operand) (t : TypeId) (ho : o.op = .call { callee := .builtin .append, args := #[s, x], argTypes := #[t, t] })
    (base : Nat) (e : TypeId) (z : Value) (bytes : Nat) (ht : P.underlying t = some (.slice e)) (hinfo : (P.info? e).map (fun i => (i.zero, i.size, i.bytes)) = some (some z, 3, bytes))
    (hz1 : z.cells.size = 3) (hb8 : bytes ≤ 64) {v : Value} {gs : List Grp} (hown : GrpsOwn base e W v gs) (hs : a.eval s = v) (G : Grp) (u : Value)
    (hx : a.eval x = .slice (some ⟨W.heap.size, 0, none⟩) 1 1) (hu : IntsAt (fun b => some b ≠ v.ownBlock) W u G.src) (h1 : u.oneCell' = true) (n : Nat) (hxn : gs.length = n) (hn : n ≤ 1000000) (hbase : base ≤ W.heap.size)
    (h : ∀ g cap w', GrpsOwn base e w' (.slice (some ⟨g, 0, none⟩) (n + 1) cap) (gs ++ [G]) → W.grownBy w' v.ownBlock → Below base W w' → wpList P ops Q rest (a.put o.dst (.slice (some ⟨g, 0, none⟩) (n + 1) cap)) w') :
    wpList P ops Q (o :: rest) a (W.alloc (.cells #[.int .i64 G.un, .int .i64 G.st, u] e)) := by
  subst hxn
  obtain ⟨i, hi, hzz⟩ := Option.map_eq_some_iff.1 hinfo
  simp only [Prod.mk.injEq] at hzz
  obtain ⟨hz, hs1, hb⟩ := hzz
  obtain ⟨svs, hl, hown, hrows⟩ := hown
  refine wpList_append_lies _ hgd s x t ho base e i z 3 bytes ht hi hz hs1 hb hz1 (by omega) v gs.length (cellsG gs svs) hs (hown.alloc _) ⟨W.heap.size, 0, none⟩ 1 1 [.int .i64 G.un, .int .i64 G.st, u] hx rfl ?_ (fun q hq => by
    rcases List.mem_cons.1 hq with e | hq
    · subst e; rfl
    · rcases List.mem_cons.1 hq with e | hq
      · subst e; rfl
      · rw [List.mem_singleton.1 hq]; exact h1) (by omega)
    (by unfold maxLen; omega) ?_ (by simp; omega) _ rfl fun g cap w' h2 h3 h4 _ => ?_
  · intro j u' hj
    match j with
    | 0 => obtain rfl : Value.int .i64 G.un = u' := by simpa using hj
           exact cell_at_new W _ e 0
    | 1 => obtain rfl : Value.int .i64 G.st = u' := by simpa using hj
           exact cell_at_new W _ e 1
    | 2 => obtain rfl : u = u' := by simpa using hj
           exact cell_at_new W _ e 2
    | j + 3 => simp at hj
  · have : (gs.length + 1) * bytes ≤ (gs.length + 1) * 64 := Nat.mul_le_mul_left _ hb8
    omega
  · have hg := grown_alloc h3
    have hgne : ∀ b : Nat, some b ≠ v.ownBlock → b < W.heap.size → some b ≠ (Value.slice (some ⟨g, 0, none⟩) (gs.length + 1) cap).ownBlock := fun b hb hlt e => by
      simp only [Value.ownBlock, Option.some.injEq] at e
      rcases h4 with h4 | h4
      · exact hb (by rw [h4, e])
      · rw [World.size_alloc] at h4; omega
    have hkeep : ∀ {u' : Value} {y' : List Int}, IntsAt (fun b => some b ≠ v.ownBlock) W u' y' → IntsAt (fun b => some b ≠ (Value.slice (some ⟨g, 0, none⟩) (gs.length + 1) cap).ownBlock) w' u' y' := fun hi' =>
      ((hi'.sub (T := fun b => some b ≠ v.ownBlock ∧ b < W.heap.size) fun b hb hlt => ⟨hb, hlt⟩).keep fun b hb hlt => hg.block b hlt hb.1).sub fun b hb _ => hgne b hb.1 hb.2
    refine h g cap w' ⟨svs ++ [u], by simp [hl], ?_, fun i hi => ?_⟩ hg (Below.grown (Below.refl _ _) hg hbase fun k hk => (World.ownsRow.lt hown k hk).1)
    · rw [List.length_append, cellsG_snoc G u gs svs hl]; exact h2
    · rw [List.length_append] at hi
      by_cases hi2 : i < gs.length
      · have e1 : (svs ++ [u]).getD i undef = svs.getD i undef := by simp [List.getElem?_append, hl, hi2]
        have e2 : gg (gs ++ [G]) i = gg gs i := by simp [gg, List.getElem?_append, hi2]
        rw [e1, e2]; exact hkeep (hrows i hi2)
      · obtain rfl : i = gs.length := by simp at hi; omega
        have e1 : (svs ++ [u]).getD gs.length undef = u := by simp [← hl]
        have e2 : gg (gs ++ [G]) gs.length = G := by simp [gg]
        rw [e1, e2]; exact hkeep hu
end
end Go.Proofs.Ytkfndaebmbnmaaa
namespace Go.Proofs.Ytkfndaebmbnmaaa
open Go.RowKit Go.Deep
def KdPost (w : World) (l : List Nat) (e : Ending) (w' : World) : Prop := Below w.heap.size w w' ∧ ∃ v, e = .returned v ∧ IntsAt (fun b => w.heap.size ≤ b) w' v (ofNats l)
end Go.Proofs.Ytkfndaebmbnmaaa
namespace Go.Proofs.Ytkfndaebmbnmaaa
open Go.RowKit Go.Deep
theorem Try.infoEG : (Try.prog.info? 32).map (fun i => (i.zero, i.size, i.bytes)) = some (some (.agg #[.int .i64 0, .int .i64 0, .slice none 0 0]), 3, 40) := by kernel_rfl
theorem GrpsOwn.kept {base : Nat} {T : TypeId} {w w' : World} {v : Value} {gs : List Grp} (h : GrpsOwn base T w v gs) (k : Up w w') : GrpsOwn base T w' v gs := by
  obtain ⟨svs, hl, ho, hr⟩ := h
  refine ⟨svs, hl, ⟨ho.1, ?_⟩, fun i hi => (hr i hi).keep (k.kept _)⟩
  rcases ho.2 with h1 | ⟨g, cap, cur, e, hg, hc, h2⟩
  · exact .inl h1
  · exact .inr ⟨g, cap, cur, e, hg, (Below.block k g (Array.getElem?_eq_some_iff.1 hc).1).trans hc, h2⟩
theorem GrpsOwn.lt {base : Nat} {T : TypeId} {w : World} {v : Value} {gs : List Grp} (h : GrpsOwn base T w v gs) {b : Nat} (hb : v.ownBlock = some b) : base ≤ b ∧ b < w.heap.size := by
  obtain ⟨svs, _, ho, _⟩ := h
  exact World.ownsRow.lt ho b hb
set_option maxHeartbeats 400000 in
theorem groups1_t (w : World) (x : Int) : FnIs 46 #[] #[.int .i64 x] (.bool (decide (x < -1) || decide (16 ≤ x))) w := by
  unfold FnIs
  go_enter Try.func46, Try.ntmps46
  by_cases hx : x < -1
  · go_wp2_with fail
    go_ret
    exact ⟨ret_bool (by simp [hx]), rfl⟩
  · go_wp2_with fail
    go_ret
    exact ⟨ret_bool (by simp; omega), rfl⟩
end Go.Proofs.Ytkfndaebmbnmaaa
