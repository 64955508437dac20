/- The walk of sharederror.Tree. -/
import Derived.Test.YtpjijbophjdgaaaGreatQ30
namespace Go.Proofs.YtpjijbophjdgaaaGreat
open Go.RowKit Go.Deep
def StPost (w : World) (names : List ByteArray) (l : List Grp) (e : Ending) (w' : World) : Prop :=
  Up w w' ∧ ∃ v, e = .returned (.tuple #[v, .int .i64 (shRes names l)]) ∧ TreeAt Any w' v (shTree names l)
theorem nil_tree (W : World) : TreeAt Any W (.agg #[.slice none 0 0, .slice none 0 0]) ⟨[], []⟩ :=
  ⟨_, _, rfl, ⟨none, 0, rfl, Nat.le_refl _, .inl rfl⟩, ⟨none, 0, rfl, Nat.le_refl _, .inl rfl⟩⟩
theorem st_err {w W : World} {B : Nat} {names : List ByteArray} {l : List Grp} {c : Int} (hB : B = w.heap.size + 1) (hu : Up w W) (hb : W.heap[B]? = some (Obj.cells #[.slice none 0 0, .slice none 0 0] 45 (0, 0))) (hc : shErr names l = c) (h0 : c ≠ 0) :
    ((W.setCell ⟨B, 0, none⟩ (.slice none 0 0)).setCell ⟨B, 1, none⟩ (.slice none 0 0)).cell? ⟨B, 0, none⟩ = some (.slice none 0 0) ∧ ((W.setCell ⟨B, 0, none⟩ (.slice none 0 0)).setCell ⟨B, 1, none⟩ (.slice none 0 0)).cell? ⟨B, 1, none⟩ = some (.slice none 0 0) ∧
      StPost w names l (.returned (.tuple #[.agg #[.slice none 0 0, .slice none 0 0], .int .i64 c])) ((W.setCell ⟨B, 0, none⟩ (.slice none 0 0)).setCell ⟨B, 1, none⟩ (.slice none 0 0)) := by
  obtain ⟨s1, s2, s3, s4⟩ := store_two (p := .slice none 0 0) (q := .slice none 0 0) hb (by omega) hu
  refine ⟨s2, s3, s1, .agg #[.slice none 0 0, .slice none 0 0], ?_, ?_⟩
  · unfold shRes; rw [if_pos (by rw [hc]; exact h0), hc]
  · unfold shTree; rw [if_pos (by rw [hc]; exact h0)]; exact nil_tree _
theorem st_err0 {w W : World} {B : Nat} {names : List ByteArray} {l : List Grp} {c : Int} (hu : Up w W) (hb : W.heap[B]? = some (Obj.cells #[.slice none 0 0, .slice none 0 0] 45 (0, 0))) (hc : shErr names l = c) (h0 : c ≠ 0) :
    W.cell? ⟨B, 0, none⟩ = some (.slice none 0 0) ∧ W.cell? ⟨B, 1, none⟩ = some (.slice none 0 0) ∧ StPost w names l (.returned (.tuple #[.agg #[.slice none 0 0, .slice none 0 0], .int .i64 c])) W := by
  refine ⟨by simp [World.cell?, hb], by simp [World.cell?, hb], hu, .agg #[.slice none 0 0, .slice none 0 0], ?_, ?_⟩
  · unfold shRes; rw [if_pos (by rw [hc]; exact h0), hc]
  · unfold shTree; rw [if_pos (by rw [hc]; exact h0)]; exact nil_tree _
theorem boxed {W : World} {B : Nat} {P N : Value} (hb : W.heap[B]? = some (Obj.cells #[P, N] 45 (0, 0))) : W.cell? ⟨B, 0, none⟩ = some P ∧ W.cell? ⟨B, 1, none⟩ = some N ∧ W.frozen? ⟨B, 0, none⟩ = false ∧ W.frozen? ⟨B, 1, none⟩ = false := by
  refine ⟨?_, ?_, ?_, ?_⟩ <;> simp [World.cell?, World.frozen?, hb]
theorem strs_take {S : Nat → Prop} {w : World} {b off n cap : Nat} {xs : List ByteArray} (h : StrsAt S w (.slice (some ⟨b, off, none⟩) n cap) xs) {k : Nat} (hk : k ≤ xs.length) : SlAt S w (.slice (some ⟨b, off, none⟩) k cap) k (fun j => .string (gs xs j)) := by
  obtain ⟨q, c, e, hn, h⟩ := h
  injection e with e1 e2 e3
  subst e1; subst e2; subst e3
  refine ⟨_, cap, rfl, by omega, ?_⟩
  rcases h with h | ⟨b', o', e, hS, h⟩
  · exact .inl (by omega)
  · exact .inr ⟨b', o', e, hS, fun j hj => h j (by omega)⟩
theorem all_form {n : Nat} (hn : n ≤ 32) : IntKind.u64.wrap (IntKind.u64.wrap ((2 : Int) ^ n) - 1) = ((allN n : Nat) : Int) := by
  have h : 2 ^ n ≤ 2 ^ 32 := Nat.pow_le_pow_right (by decide) hn
  have h1 : 0 < 2 ^ n := Nat.two_pow_pos n
  rw [IntKind.wrap_u64, IntKind.wrap_u64, show ((2 : Int) ^ n) = ((2 ^ n : Nat) : Int) by simp]
  unfold allN
  generalize 2 ^ n = z at h h1 ⊢
  omega
theorem all_lt {n : Nat} (hn : n ≤ 32) : allN n < 4294967296 := by
  have h : 2 ^ n ≤ 2 ^ 32 := Nat.pow_le_pow_right (by decide) hn
  have h1 : 0 < 2 ^ n := Nat.two_pow_pos n
  unfold allN
  generalize 2 ^ n = z at h h1 ⊢
  omega
theorem any_mem (x : Nat) (xs : List Nat) : ((List.range xs.length).any fun j => decide (x = gn xs j)) = decide (x ∈ xs) := by
  rw [Bool.eq_iff_iff, List.any_eq_true, decide_eq_true_eq]
  constructor
  · rintro ⟨j, hj, h⟩
    rw [of_decide_eq_true h]; exact gn_mem (List.mem_range.1 hj)
  · intro h
    obtain ⟨j, hj, e⟩ := List.getElem_of_mem h
    exact ⟨j, List.mem_range.2 hj, by simp [gn, hj, e]⟩
section
variable {P : Program} {ops : Array Oper} {rest : List Oper} {o : Oper} {a : Act} {Q : Exit → Act → World → Prop}
theorem wpList_appM (W : World) (hgd : o.guard = none) (s x : Operand) (t : TypeId) (ho : o.op = .call { callee := .builtin .append, args := #[s, x], argTypes := #[t, t] })
    (base : Nat) (e : TypeId) (z : Value) (bytes : Nat) (ht : P.underlying t = some (.slice e)) (hinfo : (P.info? e).map (fun i => (i.zero, i.size, i.bytes)) = some (some z, 1, bytes))
    (hz1 : z.cells.size = 1) (hb8 : bytes ≤ 64) {v : Value} {vs : List Value} (hown : Owns base e W v vs) (hs : a.eval s = v) (u : Value) (m : Nat) (hm : W.heap.size = m)
    (hx : a.eval x = .slice (some ⟨m, 0, none⟩) 1 1) (h1 : u.oneCell' = true) (n : Nat) (hvn : vs.length = n) (hn : n ≤ 1000000) (hbase : base ≤ W.heap.size)
    (h : ∀ g cap w', Owns base e w' (.slice (some ⟨g, 0, none⟩) (n + 1) cap) (vs ++ [u]) → W.grownBy w' v.ownBlock → Below base W w' → wpList P ops Q rest (a.put o.dst (.slice (some ⟨g, 0, none⟩) (n + 1) cap)) w') :
    wpList P ops Q (o :: rest) a (W.alloc (.cells #[u] e)) := by
  subst hvn; subst hm
  exact wpList_app1 W hgd s x t ho base e z bytes ht hinfo hz1 hb8 hown hs u hx h1 hn hbase h
end
def InW (w3 wr : World) (xs : List Nat) : Prop :=
  Up w3 wr ∧ ∃ sv, wr.heap[w3.heap.size]? = some (Obj.cells #[sv] 90 (0, 0)) ∧ Owns (w3.heap.size + 1) 82 wr sv (xs.map fun (x : Nat) => Value.int .u64 x) ∧ w3.heap.size + 1 ≤ wr.heap.size
theorem InW.start (w3 : World) : InW w3 (w3.alloc (.cells #[.slice none 0 0] 90)) [] :=
  ⟨Up.alloc _ _, .slice none 0 0, World.alloc_heap_new _ _, Owns.nil _ _ _, by rw [World.size_alloc]; exact Nat.le_refl _⟩
theorem InW.up {w3 wr wx : World} {xs : List Nat} (h : InW w3 wr xs) (hu : Up wr wx) : InW w3 wx xs := by
  obtain ⟨h1, sv, h2, h3, h4⟩ := h
  exact ⟨h1.trans hu, sv, (Below.block hu _ (by omega)).trans h2, h3.kept fun b _ hb => Below.block hu b hb, Nat.le_trans h4 hu.size⟩
theorem Owns.sets {base : Nat} {e : TypeId} {w : World} {v : Value} {xs : List Nat} (h : Owns base e w v (xs.map fun (x : Nat) => Value.int .u64 x)) : SetsAt (fun b => base ≤ b) w v xs := by
  have := h.slAt
  rw [List.length_map] at this
  exact this.congr fun k hk => by simp [gn, hk]
theorem InW.cell {w3 wr : World} {xs : List Nat} (h : InW w3 wr xs) : ∃ q c, wr.cell? ⟨w3.heap.size, 0, none⟩ = some (.slice q xs.length c) ∧ Owns (w3.heap.size + 1) 82 wr (.slice q xs.length c) (xs.map fun (x : Nat) => Value.int .u64 x) ∧ SetsAt Any wr (.slice q xs.length c) xs := by
  obtain ⟨_, sv, h2, h3, _⟩ := h
  obtain ⟨q, c, rfl, _⟩ := h3.form (n := xs.length) (by simp)
  exact ⟨q, c, by simp [World.cell?, h2], h3, h3.sets.sub fun _ _ _ => trivial⟩
theorem InW.app {w3 wr w8 : World} {xs : List Nat} {x : Nat} (h : InW w3 wr xs) {v : Value} (ho : Owns (w3.heap.size + 1) 82 w8 v ((xs.map fun (x : Nat) => Value.int .u64 x) ++ [.int .u64 x])) (hb : Below (w3.heap.size + 1) wr w8) :
    (∃ c, w8.cell? ⟨w3.heap.size, 0, none⟩ = some c) ∧ w8.frozen? ⟨w3.heap.size, 0, none⟩ = false ∧ InW w3 (w8.setCell ⟨w3.heap.size, 0, none⟩ v) (xs ++ [x]) := by
  obtain ⟨hu, sv, hc, _, hs⟩ := h
  have hc8 : w8.heap[w3.heap.size]? = some (Obj.cells #[sv] 90 (0, 0)) := (hb.block _ (Nat.lt_succ_self _)).trans hc
  refine ⟨⟨sv, by simp [World.cell?, hc8]⟩, by simp [World.frozen?, hc8], ?_, v, ?_, ?_, ?_⟩
  · exact Below.setCell (p := ⟨w3.heap.size, 0, none⟩) (Below.trans hu (Below.mono hb (Nat.le_succ _))) (Nat.le_refl _) _
  · simp [World.setCell, Array.getElem?_modify, hc8]
  · rw [List.map_append]
    exact ho.kept fun b hb2 _ => Below.heap_setCell w8 _ _ b (by simp only; omega)
  · rw [World.size_setCell]; exact Nat.le_trans hs hb.size
theorem Tryz.infoSet : (Tryz.prog.info? 82).map (fun i => (i.zero, i.size, i.bytes)) = some (some (.int .u64 0), 1, 8) := by kernel_rfl
set_option maxRecDepth 100000 in
set_option maxHeartbeats 8000000 in
theorem shTree_t (S : Nat → Prop) (w : World) (v vl : Value) (names : List ByteArray) (l : List Grp) (h : StrsAt S w v names) (hL : GrpsAt S w vl l) (hn : names.length ≤ 1000000) (hz : ∀ k, (gs names k).size ≤ 70000) (hln : l.length ≤ 1000000) (hr : ∀ k, (gg l k).src.length ≤ 1000000)
    (hsm : shErr names l = 0 → (rawT names l).ps.length ≤ 1000000) : Calls Tryz.prog 20 #[v, vl] w (StPost w names l) := by
  obtain ⟨gp, gc, rfl, hgcap⟩ := grps_open hL
  obtain ⟨p, cap, rfl, hcap, _⟩ := SlAt.open h
  have h : StrsAt S w (.slice p names.length cap) names := h
  have hu1 : Up w ((w.alloc (.cells #[.slice p names.length cap] 43)).alloc (.cells #[.slice none 0 0, .slice none 0 0] 45)) := (Up.alloc _ _).trans (Up.alloc _ _)
  have hnc := (Up.alloc (w.alloc (.cells #[.slice p names.length cap] 43)) (.cells #[.slice none 0 0, .slice none 0 0] 45)).cell (box1_0 w (.slice p names.length cap) 43)
  have hrb := box_at (w := w.alloc (.cells #[.slice p names.length cap] 43)) (P := .slice none 0 0) (N := .slice none 0 0) (T := 45)
  rw [World.size_alloc] at hrb
  obtain ⟨q0, q1, q2, q3⟩ := boxed hrb
  have hsz1 : ((w.alloc (.cells #[.slice p names.length cap] 43)).alloc (.cells #[.slice none 0 0, .slice none 0 0] 45)).heap.size = w.heap.size + 2 := by simp
  have HN1 := Lib.hid (StrsAt.keep h (hu1.kept S))
  have HL1 := Lib.hid (hL.keep (hu1.kept S))
  have HSZ1 := Lib.hid hsz1
  have HU1 := Lib.hid hu1
  have HRB := Lib.hid hrb
  have HZ := Lib.hid hz
  have HR := Lib.hid hr
  have HSM := Lib.hid hsm
  have HSE : Hid (shErr names l = if names.length = 0 then 5 else if 32 < names.length then 4 else if firstNZ (nmErr names) names.length ≠ 0 then firstNZ (nmErr names) names.length
    else if gcErr l ≠ 0 then gcErr l else if farB l names.length then 2 else if cfL l ≠ [] then 17 else 0) := rfl
  clear h hL hu1 hrb hsz1 hz hr hsm
  by_cases c0 : names.length = 0
  · have HST := Lib.hid (st_err0 (c := 5) HU1.out HRB.out (by rw [HSE.out, if_pos c0]) (by decide))
    have d0 : ((names.length : Int) == 0) = true := by simp [c0]
    clear c0
    go_enter Tryz.func20, Tryz.ntmps20
    go_wp2_with fail
    obtain ⟨s2, s3, hp⟩ := HST.out
    exact ⟨rfl, .tuple #[.agg #[.slice none 0 0, .slice none 0 0], .int .i64 5], by simp [results, Tryz.results20, go_sem], hp⟩
  have d0 : ((names.length : Int) == 0) = false := by simpa using c0
  by_cases c1 : 32 < names.length
  · have HST := Lib.hid (st_err0 (c := 4) HU1.out HRB.out (by rw [HSE.out, if_neg c0, if_pos c1]) (by decide))
    have d1 : decide ((32 : Int) < (names.length : Int)) = true := by simp; omega
    clear c0
    go_enter Tryz.func20, Tryz.ntmps20
    go_wp2_with fail
    obtain ⟨s2, s3, hp⟩ := HST.out
    exact ⟨rfl, .tuple #[.agg #[.slice none 0 0, .slice none 0 0], .int .i64 4], by simp [results, Tryz.results20, go_sem], hp⟩
  have d1 : decide ((32 : Int) < (names.length : Int)) = false := by simp; omega
  have HSE1 : Hid (shErr names l = if firstNZ (nmErr names) names.length ≠ 0 then firstNZ (nmErr names) names.length
    else if gcErr l ≠ 0 then gcErr l else if farB l names.length then 2 else if cfL l ≠ [] then 17 else 0) := by unfold Hid; rw [HSE.out, if_neg c0, if_neg c1]
  have h0p : 0 < names.length := by omega
  have hn32 : names.length ≤ 32 := by omega
  clear HSE c0 c1
  have HNE : Hid (∀ k, k < names.length → (∀ j, j < k → nmErr names j = 0) → nmErr names k ≠ 0 → shErr names l = nmErr names k) := fun k hk hj h0 => by
    have h1 := firstNZ_at hk hj h0
    rw [HSE1.out, h1, if_pos h0]
  go_enter Tryz.func20, Tryz.ntmps20
  go_wp2_with fail
  generalize (w.alloc (.cells #[.slice p names.length cap] 43)).alloc (.cells #[.slice none 0 0, .slice none 0 0] 45) = w1 at *
  go_loop [6, 7, 27] (fun _ _ i => ∃ k : Nat, k ≤ names.length ∧ i = .int .i64 k ∧ Hid (∀ j, j < k → nmErr names j = 0)) (fun _ _ i => names.length - (intOf i).toNat)
  case atStart => exact ⟨0, Nat.zero_le _, rfl, fun j hj => absurd hj (Nat.not_lt_zero _)⟩
  case round =>
    obtain ⟨k, hk, rfl, hd⟩ := hrel
    by_cases hlt : k < names.length
    · obtain ⟨nb0, no, rfl, hc⟩ := strs_get HN1.out hlt
      have HNM := Lib.hid (snamed_t (gs names k) (HZ.out k) w1)
      have HCT := Lib.hid (contains_str_t S w1 _ k (fun j => gs names j) (gs names k) (strs_take HN1.out hk) (by omega))
      have HNEK := Lib.hid (HNE.out k hlt hd.out)
      have HK0 : Hid (nmErr names k = if namedB (gs names k).data.toList = false then 14 else if (List.range k).any fun j => decide (gs names k = gs names j) then 7 else 0) := rfl
      generalize gs names k = nm at *
      generalize (List.range k).any (fun j => decide (nm = gs names j)) = bs at *
      generalize namedB nm.data.toList = bn at *
      cases bn
      · have HE : Hid (nmErr names k = 14) := HK0.out
        have HST := Lib.hid (st_err (c := 14) rfl HU1.out HRB.out ((HNEK.out (by rw [HE.out]; decide)).trans HE.out) (by decide))
        go_wp2_with (first | (go_at_call 73; refine HNM.out.mono ?_; rintro e w' ⟨rfl, rfl⟩) | (go_at_call 74; refine HCT.out.mono ?_; rintro e w' ⟨rfl, rfl⟩))
        obtain ⟨s2, s3, hp⟩ := HST.out
        exact ⟨rfl, .tuple #[.agg #[.slice none 0 0, .slice none 0 0], .int .i64 14], by simp [results, Tryz.results20, go_sem, s2, s3], hp⟩
      · cases bs
        · have HE : Hid (nmErr names k = 0) := HK0.out
          go_wp2_with (first | (go_at_call 73; refine HNM.out.mono ?_; rintro e w' ⟨rfl, rfl⟩) | (go_at_call 74; refine HCT.out.mono ?_; rintro e w' ⟨rfl, rfl⟩))
          go_round
          case rel => exact ⟨k + 1, by omega, by go_num, fun j hj => if e : j = k then by subst e; exact HE.out else hd.out j (by omega)⟩
          case measure => simp [intOf]; omega
        · have HE : Hid (nmErr names k = 7) := HK0.out
          have HST := Lib.hid (st_err (c := 7) rfl HU1.out HRB.out ((HNEK.out (by rw [HE.out]; decide)).trans HE.out) (by decide))
          go_wp2_with (first | (go_at_call 73; refine HNM.out.mono ?_; rintro e w' ⟨rfl, rfl⟩) | (go_at_call 74; refine HCT.out.mono ?_; rintro e w' ⟨rfl, rfl⟩))
          obtain ⟨s2, s3, hp⟩ := HST.out
          exact ⟨rfl, .tuple #[.agg #[.slice none 0 0, .slice none 0 0], .int .i64 7], by simp [results, Tryz.results20, go_sem, s2, s3], hp⟩
    · obtain rfl : k = names.length := by omega
      have HSE2 : Hid (shErr names l = if gcErr l ≠ 0 then gcErr l else if farB l names.length then 2 else if cfL l ≠ [] then 17 else 0) := by
        unfold Hid; rw [HSE1.out, if_neg (by rw [firstNZ_zero hd.out]; decide)]
      have HNM : Hid (∀ j, j < names.length → nmErr names j = 0) := hd.out
      clear hlt hk hd HSE1 HNE
      have HCF := Lib.hid (conflicts_t S w1 _ l HL1.out hln HR.out)
      go_wp2_with fail
      refine HCF.out.mono ?_
      rintro e w2 ⟨hu2, cv, rfl, hcr⟩
      obtain ⟨cq, cc, rfl, _, _⟩ := rows_open hcr
      have hrb2 := (Below.block hu2 (w.heap.size + 1) (by rw [HSZ1.out]; omega)).trans HRB.out
      obtain ⟨q0, q1, q2, q3⟩ := boxed hrb2
      have hnc2 := hu2.cell hnc
      have HU2 := Lib.hid (HU1.out.trans hu2)
      have HUB2 := Lib.hid hu2
      have HRB2 := Lib.hid hrb2
      clear hcr hrb2 hu2 HCF hnc HRB HU1
      by_cases g0 : gcErr l = 0
      · have HSE3 : Hid (shErr names l = if farB l names.length then 2 else if cfL l ≠ [] then 17 else 0) := by
          unfold Hid; rw [HSE2.out, if_neg (fun e => e g0)]
        have HGC := Lib.hid g0
        obtain ⟨_, hgr⟩ := gcErr_zero g0
        have HFA := Lib.hid (far_t S w2 _ l names.length (HL1.out.keep (HUB2.out.kept S)) hln (fun k hk => (srcOk_small (hgr k hk).2.2.2).2.1) HR.out)
        rw [g0]
        clear HSE2 hgr g0
        generalize farB l names.length = fb at *
        cases fb
        · have hrest : ∃ HX : Hid (shErr names l = if cfL l ≠ [] then 17 else 0), True := ⟨by unfold Hid; rw [HSE3.out]; rfl, trivial⟩
          obtain ⟨HX, _⟩ := hrest
          clear HSE3
          go_wp2_with fail
          refine HFA.out.mono ?_
          rintro e w3 ⟨rfl, hu3⟩
          have hnc3 := hu3.cell hnc2
          have hrb3 := (Below.block hu3 (w.heap.size + 1) (by have := HU2.out.size; have := HUB2.out.size; rw [HSZ1.out] at this; omega)).trans HRB2.out
          obtain ⟨q0, q1, q2, q3⟩ := boxed hrb3
          have HU3 := Lib.hid (HU2.out.trans hu3)
          have HUB3 := Lib.hid (HUB2.out.trans hu3)
          have HRB3 := Lib.hid hrb3
          clear hrb3 hu3 HFA hnc2 HU2 HUB2 HRB2
          by_cases e0 : cfL l = []
          · have HS0 : Hid (shErr names l = 0) := by unfold Hid; rw [HX.out, if_neg (fun e => e e0)]
            rw [e0]
            have hall := all_form hn32
            have hl256 := (gcErr_zero HGC.out).1
            have HGR := Lib.hid (gcErr_zero HGC.out).2
            have HIU : Hid (∀ k j, k ≤ l.length → U64 (gn (innK l (allN names.length) k) j)) := fun k j hk => inn_u64 HGC.out _ k j hk
            clear e0 HX
            go_wp2_with fail
            go_loopw [13, 14, 70] (fun _ _ i wr => ∃ k : Nat, k ≤ l.length ∧ i = .int .i64 k ∧ Hid (InW w3 wr (innK l (allN names.length) k))) (fun _ _ i _ => l.length - (intOf i).toNat)
            case atStart => exact ⟨0, Nat.zero_le _, rfl, InW.start _⟩
            case round =>
              obtain ⟨k, hk, rfl, hI⟩ := hrel
              obtain ⟨wo, rfl⟩ : ∃ wo : World, wo = wr := ⟨_, rfl⟩
              by_cases hlt : k < l.length
              · obtain ⟨gb0, go0, rq, rc, rfl, hc0, hc1, hc2, hri⟩ := grps_get (HL1.out.keep ((HUB3.out.trans hI.out.1).kept S)) hlt
                have i1 : (0 : Int) ≤ (k : Int) := by omega
                have i2 : (k : Int) < (l.length : Int) := by omega
                have hal := Up.alloc wo (.cells #[.int .i64 (gg l k).un, .int .i64 (gg l k).st, .slice rq (gg l k).src.length rc] 37)
                obtain ⟨hb0, hb1, hb2⟩ := box3 wo (.int .i64 (gg l k).un) (.int .i64 (gg l k).st) (.slice rq (gg l k).src.length rc) 37
                have hsm := (srcOk_small (HGR.out k hlt).2.2.2).1
                have HOF := Lib.hid (of_t S _ _ _ (IntsAt.keep hri (hal.kept S)) hsm (HR.out k))
                have HI2 := Lib.hid (hI.out.up hal)
                obtain ⟨iq, icp, hic, hio, his⟩ := HI2.out.cell
                have HIO := Lib.hid hio
                have hil : (innK l (allN names.length) k).length ≤ 1000000 := by have := innK_len l (allN names.length) k; omega
                have HCT := Lib.hid (contains_set_t Any _ _ (innK l (allN names.length) k) (ofS (gg l k).src) his hil)
                rw [any_mem] at HCT
                have HST : Hid (innK l (allN names.length) (k + 1) = if 1 < (gg l k).src.length ∧ ofS (gg l k).src ≠ allN names.length ∧ ofS (gg l k).src ∉ innK l (allN names.length) k then innK l (allN names.length) k ++ [ofS (gg l k).src] else innK l (allN names.length) k) := rfl
                clear hri hal hsm hI his hio
                generalize (gg l k).src.length = sn at *
                generalize (gg l k).un = un at *
                generalize (gg l k).st = sx at *
                generalize ofS (gg l k).src = x at *
                generalize innK l (allN names.length) k = xs at *
                by_cases f1 : 1 < sn
                · have g1 : decide ((1 : Int) < (sn : Int)) = true := by simp; omega
                  have g2 : decide (1 < sn) = true := by simp; omega
                  by_cases f2 : x = allN names.length
                  · have g3 : ((x : Int) != ((allN names.length : Nat) : Int)) = false := by rw [f2]; simp
                    have HN : Hid (InW w3 (wo.alloc (.cells #[.int .i64 un, .int .i64 sx, .slice rq sn rc] 37)) (innK l (allN names.length) (k + 1))) := by unfold Hid; rw [HST.out, if_neg (fun e => e.2.1 f2)]; exact HI2.out
                    clear f2
                    go_wp2_with (first | (go_at_call 68; refine HOF.out.mono ?_; rintro e w' ⟨rfl, rfl⟩) | (go_at_call 76; refine HCT.out.mono ?_; rintro e w' ⟨rfl, rfl⟩))
                    go_roundw
                    case rel => exact ⟨k + 1, by omega, by go_num, HN⟩
                    case measure => simp [intOf]; omega
                  · have g3 : ((x : Int) != ((allN names.length : Nat) : Int)) = true := by simp; omega
                    by_cases f3 : x ∈ xs
                    · rw [decide_eq_true f3] at HCT
                      have HN : Hid (InW w3 (wo.alloc (.cells #[.int .i64 un, .int .i64 sx, .slice rq sn rc] 37)) (innK l (allN names.length) (k + 1))) := by unfold Hid; rw [HST.out, if_neg (fun e => e.2.2 f3)]; exact HI2.out
                      go_wp2_with (first | (go_at_call 68; refine HOF.out.mono ?_; rintro e w' ⟨rfl, rfl⟩) | (go_at_call 76; refine HCT.out.mono ?_; rintro e w' ⟨rfl, rfl⟩))
                      go_roundw
                      case rel => exact ⟨k + 1, by omega, by go_num, HN⟩
                      case measure => simp [intOf]; omega
                    · rw [decide_eq_false f3] at HCT
                      have HSN : Hid (innK l (allN names.length) (k + 1) = xs ++ [x]) := by unfold Hid; rw [HST.out, if_pos ⟨f1, f2, f3⟩]
                      have HLN : Hid ((xs.map fun (x : Nat) => Value.int .u64 x).length = xs.length) := List.length_map _
                      have hbz : w3.heap.size + 1 ≤ (wo.alloc (.cells #[.int .i64 un, .int .i64 sx, .slice rq sn rc] 37)).heap.size := by
                        obtain ⟨_, _, _, _, h4⟩ := HI2.out; exact h4
                      have HAPP := Lib.hid (fun (w8 : World) (v : Value) => HI2.out.app (w8 := w8) (x := x) (v := v))
                      have hszw : (wo.alloc (.cells #[.int .i64 un, .int .i64 sx, .slice rq sn rc] 37)).heap.size = wo.heap.size + 1 := World.size_alloc _ _
                      go_wp2_with (first | (go_at_call 68; refine HOF.out.mono ?_; rintro e w' ⟨rfl, rfl⟩) | (go_at_call 76; refine HCT.out.mono ?_; rintro e w' ⟨rfl, rfl⟩) | (at_builtin; refine wpList_appM (wo.alloc (.cells #[.int .i64 un, .int .i64 sx, .slice rq sn rc] 37)) rfl _ _ 90 rfl (w3.heap.size + 1) 82 _ 8 Tryz.underlying90 Tryz.infoSet rfl (by decide) HIO.out rfl _ _ hszw rfl rfl _ HLN.out hil hbz ?_; intro g8 cap8 w8 hown1 hgr1 hbe1; obtain ⟨⟨c8, hc8⟩, hf8, hW8⟩ := HAPP.out w8 _ hown1 hbe1; have HW8 := Lib.hid hW8; clear hW8 hown1 hgr1 hbe1))
                      go_roundw
                      case rel => exact ⟨k + 1, by omega, by go_num, by unfold Hid; rw [HSN.out]; exact HW8.out⟩
                      case measure => simp [intOf]; omega
                · have g1 : decide ((1 : Int) < (sn : Int)) = false := by simp; omega
                  have g2 : decide (1 < sn) = false := by simp; omega
                  have HN : Hid (InW w3 (wo.alloc (.cells #[.int .i64 un, .int .i64 sx, .slice rq sn rc] 37)) (innK l (allN names.length) (k + 1))) := by unfold Hid; rw [HST.out, if_neg (fun e => f1 e.1)]; exact HI2.out
                  go_wp2_with (first | (go_at_call 68; refine HOF.out.mono ?_; rintro e w' ⟨rfl, rfl⟩) | (go_at_call 76; refine HCT.out.mono ?_; rintro e w' ⟨rfl, rfl⟩))
                  go_roundw
                  case rel => exact ⟨k + 1, by omega, by go_num, HN⟩
                  case measure => simp [intOf]; omega
              · obtain rfl : k = l.length := by omega
                have HIN : Hid (InW w3 wo (innL l (allN names.length))) := hI.out
                clear hlt hk hI
                have HW := Lib.hid (HU3.out.trans HIN.out.1)
                have hu6 : Up wo ((wo.alloc (.cells #[.slice none 0 0, .slice none 0 0] 45)).alloc (.cells #[.func (.func 77) #[] #[.pointer (some ⟨wo.heap.size, 0, none⟩), .pointer (some ⟨w3.heap.size, 0, none⟩), .pointer (some ⟨wo.heap.size + 1, 0, none⟩), .pointer (some ⟨w.heap.size, 0, none⟩)]] 92)) := (Up.alloc _ _).trans (Up.alloc _ _)
                have hnc6 := hu6.cell (HIN.out.1.cell hnc3)
                have HU6 := Lib.hid (HW.out.trans hu6)
                have hsw : w.heap.size + 2 ≤ wo.heap.size := by
                  have h1 := HUB3.out.size; have h2 := HIN.out.1.size; rw [HSZ1.out] at h1; omega
                have HN6 := Lib.hid (StrsAt.keep HN1.out (((HUB3.out.trans HIN.out.1).trans hu6).kept S))
                have hsz6 : (((wo.alloc (.cells #[.slice none 0 0, .slice none 0 0] 45)).alloc (.cells #[.func (.func 77) #[] #[.pointer (some ⟨wo.heap.size, 0, none⟩), .pointer (some ⟨w3.heap.size, 0, none⟩), .pointer (some ⟨wo.heap.size + 1, 0, none⟩), .pointer (some ⟨w.heap.size, 0, none⟩)]] 92))).heap.size = wo.heap.size + 2 := by simp
                have hrb6 := (Below.block ((HIN.out.1).trans hu6) (w.heap.size + 1) (by have h1 := HUB3.out.size; rw [HSZ1.out] at h1; omega)).trans HRB3.out
                have HRB6 := Lib.hid hrb6
                have HSZ6 := Lib.hid hsz6
                have HHH := Lib.hid hu6
                clear hrb6 hu6 hsz6
                by_cases n1 : names.length = 1
                · have d2 : ((names.length : Int) == 1) = true := by simp [n1]
                  have hu7 := Up.alloc ((wo.alloc (.cells #[.slice none 0 0, .slice none 0 0] 45)).alloc (.cells #[.func (.func 77) #[] #[.pointer (some ⟨wo.heap.size, 0, none⟩), .pointer (some ⟨w3.heap.size, 0, none⟩), .pointer (some ⟨wo.heap.size + 1, 0, none⟩), .pointer (some ⟨w.heap.size, 0, none⟩)]] 92)) (.cells #[.int .i64 (-1)] 3)
                  have hnc7 := hu7.cell hnc6
                  have HCL := Lib.hid (clone_str_t S _ _ names (StrsAt.keep HN6.out (hu7.kept S)) hn)
                  have HONE : Hid (IntsAt (fun b => b = wo.heap.size + 1 + 1) (((wo.alloc (.cells #[.slice none 0 0, .slice none 0 0] 45)).alloc (.cells #[.func (.func 77) #[] #[.pointer (some ⟨wo.heap.size, 0, none⟩), .pointer (some ⟨w3.heap.size, 0, none⟩), .pointer (some ⟨wo.heap.size + 1, 0, none⟩), .pointer (some ⟨w.heap.size, 0, none⟩)]] 92)).alloc (.cells #[.int .i64 (-1)] 3)) (.slice (some ⟨wo.heap.size + 1 + 1, 0, none⟩) 1 1) [-1]) := by
                    refine ⟨_, 1, rfl, Nat.le_refl _, .inr ⟨_, 0, rfl, rfl, fun k hk => ?_⟩⟩
                    obtain rfl : k = 0 := by simpa using hk
                    have h1 := cell_at_new ((wo.alloc (.cells #[.slice none 0 0, .slice none 0 0] 45)).alloc (.cells #[.func (.func 77) #[] #[.pointer (some ⟨wo.heap.size, 0, none⟩), .pointer (some ⟨w3.heap.size, 0, none⟩), .pointer (some ⟨wo.heap.size + 1, 0, none⟩), .pointer (some ⟨w.heap.size, 0, none⟩)]] 92)) #[.int .i64 (-1)] 3 0
                    rw [HSZ6.out] at h1
                    exact h1
                  have HU7 := Lib.hid (HU6.out.trans hu7)
                  have hrb7 := (Below.block hu7 (w.heap.size + 1) (by rw [HSZ6.out]; omega)).trans HRB6.out
                  have HRB7 := Lib.hid hrb7
                  have HSZ7 := Lib.hid hu7.size
                  have hres : shTree names l = ⟨[-1], names⟩ ∧ shRes names l = 0 :=
                    ⟨by unfold shTree; rw [if_neg (by rw [HS0.out]; decide), if_pos n1], by unfold shRes; rw [if_neg (by rw [HS0.out]; decide), if_pos n1]⟩
                  have HRES := Lib.hid hres
                  clear n1 hu7 hrb7 hres
                  go_wp2_with fail
                  generalize ((wo.alloc (.cells #[.slice none 0 0, .slice none 0 0] 45)).alloc (.cells #[.func (.func 77) #[] #[.pointer (some ⟨wo.heap.size, 0, none⟩), .pointer (some ⟨w3.heap.size, 0, none⟩), .pointer (some ⟨wo.heap.size + 1, 0, none⟩), .pointer (some ⟨w.heap.size, 0, none⟩)]] 92)).alloc (.cells #[.int .i64 (-1)] 3) = w7 at *
                  refine HCL.out.mono ?_
                  rintro e w8 ⟨hu8, nv, rfl, hno⟩
                  obtain ⟨nq, ncp, rfl, _⟩ := hno.form (n := names.length) (by simp)
                  have hrb8 := (Below.block hu8 (w.heap.size + 1) (by have := HSZ7.out; rw [HSZ6.out] at this; omega)).trans HRB7.out
                  obtain ⟨q0, q1, q2, q3⟩ := boxed hrb8
                  have HST := Lib.hid (store_two (w := w) (p := .slice (some ⟨wo.heap.size + 1 + 1, 0, none⟩) 1 1) (q := .slice nq names.length ncp) hrb8 (by omega) (HU7.out.trans hu8))
                  have HP := Lib.hid (IntsAt.keep HONE.out (hu8.kept _))
                  have HNS := Lib.hid hno
                  have HS7 := HSZ7.out
                  clear hno hrb8 hu8
                  go_wp2_with fail
                  obtain ⟨s1, s2, s3, s4⟩ := HST.out
                  refine ⟨rfl, .tuple #[.agg #[.slice (some ⟨wo.heap.size + 1 + 1, 0, none⟩) 1 1, .slice nq names.length ncp], .int .i64 0], by simp [results, Tryz.results20, go_sem, s2, s3], s1, _, by rw [HRES.out.2], ?_⟩
                  rw [HRES.out.1]
                  refine ⟨_, _, rfl, ?_, ?_⟩
                  · refine ((HP.out.sub (T := fun b => b ≠ w.heap.size + 1) fun b hb _ => ?_).keep fun b hb _ => s4 b hb).sub fun _ _ _ => trivial
                    omega
                  · exact ((HNS.out.strs.sub (T := fun b => b ≠ w.heap.size + 1) fun b hb _ => by rw [HSZ6.out] at HS7; omega).keep fun b hb _ => s4 b hb).sub fun _ _ _ => trivial
                · have d2 : ((names.length : Int) == 1) = false := by simp; omega
                  have hres : shTree names l = (if treeErr (rawT names l) = 0 then canT (rawT names l) else ⟨[], []⟩) ∧ shRes names l = (if treeErr (rawT names l) = 0 then 0 else 1) :=
                    ⟨by unfold shTree; rw [if_neg (by rw [HS0.out]; decide), if_neg n1], by unfold shRes; rw [if_neg (by rw [HS0.out]; decide), if_neg n1]⟩
                  have HRES := Lib.hid hres
                  have htb6 : (((wo.alloc (.cells #[.slice none 0 0, .slice none 0 0] 45)).alloc (.cells #[.func (.func 77) #[] #[.pointer (some ⟨wo.heap.size, 0, none⟩), .pointer (some ⟨w3.heap.size, 0, none⟩), .pointer (some ⟨wo.heap.size + 1, 0, none⟩), .pointer (some ⟨w.heap.size, 0, none⟩)]] 92))).heap[wo.heap.size]? = some (Obj.cells #[.slice none 0 0, .slice none 0 0] 45 (0, 0)) := by
                    rw [blk_alloc_lt _ _ _ (by simp)]; exact blk_alloc_new _ _
                  have hfc6 := cell_at_new (wo.alloc (.cells #[.slice none 0 0, .slice none 0 0] 45)) #[.func (.func 77) #[] #[.pointer (some ⟨wo.heap.size, 0, none⟩), .pointer (some ⟨w3.heap.size, 0, none⟩), .pointer (some ⟨wo.heap.size + 1, 0, none⟩), .pointer (some ⟨w.heap.size, 0, none⟩)]] 92 0
                  rw [World.size_alloc] at hfc6
                  have hls := HUB3.out.size
                  rw [HSZ1.out] at hls
                  have hlw := HIN.out.1.size
                  obtain ⟨iq, icp, hic, hio, his⟩ := (HIN.out.up HHH.out).cell
                  obtain ⟨_, _, _, hio0, _⟩ := HIN.out.cell
                  have hENV : Env names (innL l (allN names.length)) wo.heap.size (wo.heap.size + 2) w3.heap.size (wo.heap.size + 1) w.heap.size ((wo.alloc (.cells #[.slice none 0 0, .slice none 0 0] 45)).alloc (.cells #[.func (.func 77) #[] #[.pointer (some ⟨wo.heap.size, 0, none⟩), .pointer (some ⟨w3.heap.size, 0, none⟩), .pointer (some ⟨wo.heap.size + 1, 0, none⟩), .pointer (some ⟨w.heap.size, 0, none⟩)]] 92)) := by
                    obtain ⟨iq0, icp0, hic0, hio0, his0⟩ := HIN.out.cell
                    refine ⟨⟨.slice iq0 (innL l (allN names.length)).length icp0, HHH.out.cell hic0, ?_⟩, hfc6, ⟨_, hnc6, ?_⟩, ⟨by have := HIN.out.2; obtain ⟨_, _, _, h4⟩ := this; omega, by obtain ⟨_, _, _, h4⟩ := HIN.out.2; omega⟩, ⟨by omega, by omega⟩, ⟨by omega, by omega⟩⟩
                    · exact ((hio0.sets.sub (T := fun b => b < wo.heap.size) fun b _ hl => hl).sub (T := fun b => b < wo.heap.size + 2 ∧ b ≠ wo.heap.size) fun b hb _ => ⟨by omega, by omega⟩).keep (HHH.out.kept _)
                    · exact ((StrsAt.sub HN1.out (T := fun b => b < wo.heap.size + 2 ∧ b ≠ wo.heap.size) fun b _ hl => (by rw [HSZ1.out] at hl; exact ⟨by omega, by omega⟩))).keep (((HUB3.out.trans HIN.out.1).trans HHH.out).kept _)
                  have hGS : GS wo.heap.size (wo.heap.size + 2) ((wo.alloc (.cells #[.slice none 0 0, .slice none 0 0] 45)).alloc (.cells #[.func (.func 77) #[] #[.pointer (some ⟨wo.heap.size, 0, none⟩), .pointer (some ⟨w3.heap.size, 0, none⟩), .pointer (some ⟨wo.heap.size + 1, 0, none⟩), .pointer (some ⟨w.heap.size, 0, none⟩)]] 92)) (.slice none 0 0) (.slice none 0 0) ⟨[], []⟩ :=
                    ⟨htb6, ⟨Owns.nil _ _ _, Owns.nil _ _ _, fun b hb => (by cases hb)⟩, by omega, by rw [HSZ6.out]; exact Nat.le_refl _⟩
                  have hin0 : (innL l (allN names.length)).length ≤ 1000000 := Nat.le_trans (innK_len l _ _) (by omega)
                  have HCALL := Lib.hid (grow_t names (innL l (allN names.length)) wo.heap.size (wo.heap.size + 2) w3.heap.size (wo.heap.size + 1) w.heap.size (fun j => HIU.out l.length j (Nat.le_refl _)) hin0 hn32 (allN names.length + 1) (allN names.length) (-1) ⟨[], []⟩ ((wo.alloc (.cells #[.slice none 0 0, .slice none 0 0] 45)).alloc (.cells #[.func (.func 77) #[] #[.pointer (some ⟨wo.heap.size, 0, none⟩), .pointer (some ⟨w3.heap.size, 0, none⟩), .pointer (some ⟨wo.heap.size + 1, 0, none⟩), .pointer (some ⟨w.heap.size, 0, none⟩)]] 92)) (.slice none 0 0) (.slice none 0 0)
                    (Nat.lt_succ_self _) (Nat.lt_trans (all_lt hn32) (by decide)) rfl (HSM.out HS0.out) hENV hGS)
                  have HRAW : Hid (growF names (innL l (allN names.length)) (allN names.length + 1) (allN names.length) (-1) ⟨[], []⟩ = rawT names l) := rfl
                  have HNMD : Hid (∀ k, (gs (rawT names l).ns k).size ≤ 70000) := fun k => Nmd.gs (Q := fun s => s.size ≤ 70000) (growF_nmd HZ.out (by decide) _ _ _ _ _ (fun s hs => by cases hs)) (by decide) k
                  have HRN : Hid ((rawT names l).ns.length = (rawT names l).ps.length) := growF_ns _ _ _ _ _ _ rfl
                  have HRL := Lib.hid (HSM.out HS0.out)
                  clear n1 hres htb6 hic hio his hio0 hENV hGS hin0
                  go_wp2_with fail
                  rw [HRAW.out] at HCALL
                  generalize ((wo.alloc (.cells #[.slice none 0 0, .slice none 0 0] 45)).alloc (.cells #[.func (.func 77) #[] #[.pointer (some ⟨wo.heap.size, 0, none⟩), .pointer (some ⟨w3.heap.size, 0, none⟩), .pointer (some ⟨wo.heap.size + 1, 0, none⟩), .pointer (some ⟨w.heap.size, 0, none⟩)]] 92)) = w6 at *
                  refine HCALL.out.mono ?_
                  rintro e w7 ⟨rfl, P7, N7, hG7, hK7⟩
                  obtain ⟨tc0, tc1, _, _⟩ := hG7.cells
                  have hT7 : TreeAt (fun b => wo.heap.size + 2 ≤ b) w7 (.agg #[P7, N7]) (rawT names l) := ⟨P7, N7, rfl, hG7.tl.pown.ints, hG7.tl.nown.strs⟩
                  have HCN := Lib.hid (pcanonical_t _ w7 _ _ hT7 HRL.out (by rw [HRN.out]; exact HRL.out) HNMD.out)
                  have hu7 : Up w w7 := ⟨hK7.os.trans HU6.out.os, hK7.tape.trans HU6.out.tape, hK7.output.trans HU6.out.output, Nat.le_trans HU6.out.size hK7.size, fun b hb => (hK7.block b (by have := HU6.out.size; omega) (by omega) (fun e => by cases e) (fun e => by cases e)).trans (Below.block HU6.out b hb)⟩
                  have hrb7 := (hK7.block (w.heap.size + 1) (by rw [HSZ6.out]; omega) (by omega) (fun e => by cases e) (fun e => by cases e)).trans HRB6.out
                  have HU7 := Lib.hid hu7
                  have HRB7 := Lib.hid hrb7
                  have hs7 : wo.heap.size + 2 ≤ w7.heap.size := by have := hK7.size; rw [HSZ6.out] at this; exact this
                  clear hu7 hrb7 hT7 hG7 hK7 HCALL
                  go_wp2_with fail
                  refine HCN.out.mono ?_
                  rintro e w8 ⟨hu8, ⟨hte, rfl⟩ | ⟨hte, cv, rfl, P8, N8, rfl, hP8, hN8⟩⟩
                  · have hrb8 := (Below.block hu8 (w.heap.size + 1) (by omega)).trans HRB7.out
                    obtain ⟨q0, q1, q2, q3⟩ := boxed hrb8
                    have HST := Lib.hid (store_two (w := w) (p := .slice none 0 0) (q := .slice none 0 0) hrb8 (by omega) (HU7.out.trans hu8))
                    rw [if_neg hte, if_neg hte] at HRES
                    clear hrb8 hu8 hte
                    go_wp2_with fail
                    obtain ⟨s1, s2, s3, s4⟩ := HST.out
                    refine ⟨rfl, .tuple #[.agg #[.slice none 0 0, .slice none 0 0], .int .i64 1], by simp [results, Tryz.results20, go_sem, s2, s3], s1, _, by rw [HRES.out.2], ?_⟩
                    rw [HRES.out.1]
                    exact nil_tree _
                  · obtain ⟨p8, c8, rfl, _, _⟩ := SlAt.open hP8
                    obtain ⟨n8, d8, rfl, _, _⟩ := SlAt.open hN8
                    have hrb8 := (Below.block hu8 (w.heap.size + 1) (by omega)).trans HRB7.out
                    obtain ⟨q0, q1, q2, q3⟩ := boxed hrb8
                    have HST := Lib.hid (store_two (w := w) (p := .slice p8 (canT (rawT names l)).ps.length c8) (q := .slice n8 (canT (rawT names l)).ns.length d8) hrb8 (by omega) (HU7.out.trans hu8))
                    rw [if_pos hte, if_pos hte] at HRES
                    have HP8 := Lib.hid hP8
                    have HN8 := Lib.hid hN8
                    clear hrb8 hu8 hte hP8 hN8
                    go_wp2_with fail
                    obtain ⟨s1, s2, s3, s4⟩ := HST.out
                    refine ⟨rfl, .tuple #[.agg #[.slice p8 (canT (rawT names l)).ps.length c8, .slice n8 (canT (rawT names l)).ns.length d8], .int .i64 0], by simp [results, Tryz.results20, go_sem, s2, s3], s1, _, by rw [HRES.out.2], ?_⟩
                    rw [HRES.out.1]
                    exact ⟨_, _, rfl, (IntsAt.keep HP8.out fun b hb _ => s4 b (by omega)).sub fun _ _ _ => trivial, (StrsAt.keep HN8.out fun b hb _ => s4 b (by omega)).sub fun _ _ _ => trivial⟩
          · have HST := Lib.hid (st_err (c := 17) rfl HU3.out HRB3.out (by rw [HX.out, if_pos e0]) (by decide))
            have e1 : 0 < (cfL l).length := List.length_pos_iff.2 e0
            have e2 : decide ((0 : Int) < ((cfL l).length : Int)) = true := by simp; omega
            have e3 : decide (0 < (cfL l).length) = true := by simp; omega
            clear e0 HX
            generalize (cfL l).length = cn at *
            go_wp2_with fail
            obtain ⟨s2, s3, hp⟩ := HST.out
            exact ⟨rfl, .tuple #[.agg #[.slice none 0 0, .slice none 0 0], .int .i64 17], by simp [results, Tryz.results20, go_sem, s2, s3], hp⟩
        · have HX : Hid (shErr names l = 2) := by unfold Hid; rw [HSE3.out]; rfl
          go_wp2_with fail
          refine HFA.out.mono ?_
          rintro e w3 ⟨rfl, hu3⟩
          have hrb3 := (Below.block hu3 (w.heap.size + 1) (by have := HU2.out.size; have := HUB2.out.size; rw [HSZ1.out] at this; omega)).trans HRB2.out
          obtain ⟨q0, q1, q2, q3⟩ := boxed hrb3
          have HST := Lib.hid (st_err (c := 2) rfl (HU2.out.trans hu3) hrb3 HX.out (by decide))
          clear hrb3
          go_wp2_with fail
          obtain ⟨s2, s3, hp⟩ := HST.out
          exact ⟨rfl, .tuple #[.agg #[.slice none 0 0, .slice none 0 0], .int .i64 2], by simp [results, Tryz.results20, go_sem, s2, s3], hp⟩
      · have HST := Lib.hid (st_err (c := gcErr l) rfl HU2.out HRB2.out (by rw [HSE2.out, if_pos g0]) g0)
        have g1 : (gcErr l != 0) = true := by simpa using g0
        clear g0
        generalize gcErr l = gc at *
        go_wp2_with fail
        obtain ⟨s2, s3, hp⟩ := HST.out
        exact ⟨rfl, .tuple #[.agg #[.slice none 0 0, .slice none 0 0], .int .i64 gc], by simp [results, Tryz.results20, go_sem, s2, s3], hp⟩
end Go.Proofs.YtpjijbophjdgaaaGreat
