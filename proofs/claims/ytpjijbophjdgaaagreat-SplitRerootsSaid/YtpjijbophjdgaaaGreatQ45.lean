/- split.below: the iterator as a whole. cmp.Compare at ints, slices.Compare at lists of ints. -/
import Derived.Test.YtpjijbophjdgaaaGreatQ44
import Derived.Test.YtpjijbophjdgaaaGreatQ2
import Derived.Test.YtpjijbophjdgaaaGreatQ3
import Derived.Test.YtpjijbophjdgaaaGreatQ32
namespace Go.Proofs.YtpjijbophjdgaaaGreat
open Go.RowKit Go.Shelf Go.Deep Go.Sort
set_option maxHeartbeats 400000 in
theorem sbelow_t (w : World) (P N : Value) (mp : Option Addr) (n c : Nat) : Calls Tryz.prog 83 #[.agg #[P, N], .slice mp n c] w fun e w' => e = .returned (.func (.func 151) #[] #[.pointer (some ⟨w.heap.size, 0, none⟩), .pointer (some ⟨w.heap.size + 1, 0, none⟩)]) ∧ w' = (w.alloc (.cells #[P, N] 45)).alloc (.cells #[.slice mp n c] 43) := by
  go_enter Tryz.func83, Tryz.ntmps83
  go_wp2_with fail
  go_ret
  exact ⟨by simp, rfl⟩
section
variable {w0 : World} {t : Tre} {names : List ByteArray} {l Bt Be Bn Bq N : Nat} {J : List El → (Nat → Prop) → World → Prop}
theorem walk_all (hof : OfOk t names) (hA : AbL J)
    (hY : ∀ m pre x L W1, J pre L W1 → GvB t names x L W1 → Up w0 W1 → (∀ b, L b → w0.heap.size ≤ b ∧ b < W1.heap.size) → pre.length < N → YieldAt Fence.wide m Tryz.prog l #[x.2] W1 fun e W' =>
      e = .returned (.bool true) ∧ J (pre ++ [x]) L W' ∧ Up w0 W' ∧ W1.heap.size ≤ W'.heap.size ∧ ∀ b, (L b ∨ x.2.ownBlock = some b) → W'.heap[b]? = W1.heap[b]?) :
    ∀ (d i : Nat), t.ps.length - i ≤ d → i < t.ps.length → WalkAt w0 t names l Bt Be Bn Bq N J i
  | 0, i, hd, hi => by omega
  | d + 1, i, hd, hi => walk_step hof hA hY hi fun c hc => by
    obtain ⟨c1, c2, _⟩ := mem_kidsL.1 hc
    exact walk_all hof hA hY d c (by omega) c1
set_option maxRecDepth 100000 in
set_option maxHeartbeats 1000000 in
theorem below_seqL (m : Nat) (hof : OfOk t names) {w9 : World} {pp np mp : Option Addr} {pc nc mc : Nat} (h0t : w0.heap.size ≤ Bt) (h0n : w0.heap.size ≤ Bn)
    (hT0 : w9.cell? ⟨Bt, 0, none⟩ = some (.slice pp t.ps.length pc)) (hT1 : w9.cell? ⟨Bt, 1, none⟩ = some (.slice np t.ns.length nc)) (hBn : w9.cell? ⟨Bn, 0, none⟩ = some (.slice mp names.length mc))
    (hP : IntsAt Any w0 (.slice pp t.ps.length pc) t.ps) (hNs : StrsAt Any w0 (.slice np t.ns.length nc) t.ns) (hNm : StrsAt Any w0 (.slice mp names.length mc) names) :
    SeqL Fence.wide m Tryz.prog 151 #[.pointer (some ⟨Bt, 0, none⟩), .pointer (some ⟨Bn, 0, none⟩)] (fun x : El => #[x.2]) (GvB t names) (fun x b => x.2.ownBlock = some b) (fun xs => xs.map (·.1) = posF t 0) t.ps.length w0 w9 (fun b => b = Bt ∨ b = Bn) := by
  intro l J W hW hL9 hW9 hA hY hJ
  obtain ⟨lt1, kt1⟩ := hL9 Bt (.inl rfl)
  obtain ⟨lt2, kt2⟩ := hL9 Bn (.inr rfl)
  have wT0 := (World.cell?_of_block (a := ⟨Bt, 0, none⟩) kt1).trans hT0
  have wT1 := (World.cell?_of_block (a := ⟨Bt, 1, none⟩) kt1).trans hT1
  have wBn := (World.cell?_of_block (a := ⟨Bn, 0, none⟩) kt2).trans hBn
  have ht0 := (treeErr_zero hof.te).1
  have hu2 : Up W ((W.alloc (.cells #[.func (.yield l) #[] #[]] 39)).alloc (.cells #[.nilFunc] 169)) := (Up.alloc _ _).trans (Up.alloc _ _)
  have hnew := blk_alloc_new (W.alloc (.cells #[.func (.yield l) #[] #[]] 39)) (.cells #[.nilFunc] 169)
  rw [World.size_alloc] at hnew
  have hq2 : ((W.alloc (.cells #[.func (.yield l) #[] #[]] 39)).alloc (.cells #[.nilFunc] 169)).heap[W.heap.size]? = some (.cells #[.func (.yield l) #[] #[]] 39 (0, 0)) := by
    rw [blk_alloc_lt _ _ _ (by simp)]; exact blk_alloc_new _ _
  have hsz : ((W.alloc (.cells #[.func (.yield l) #[] #[]] 39)).alloc (.cells #[.nilFunc] 169)).heap.size = W.heap.size + 2 := by simp
  generalize hW2 : (W.alloc (.cells #[.func (.yield l) #[] #[]] 39)).alloc (.cells #[.nilFunc] 169) = W2 at *
  have hcn : W2.cell? ⟨W.heap.size + 1, 0, none⟩ = some .nilFunc := by simp [World.cell?, hnew]
  have hfn : W2.frozen? ⟨W.heap.size + 1, 0, none⟩ = false := by simp [World.frozen?, hnew]
  have hu3 : Up W (W2.setCell ⟨W.heap.size + 1, 0, none⟩ (.func (.func 152) #[] #[.pointer (some ⟨Bt, 0, none⟩), .pointer (some ⟨W.heap.size + 1, 0, none⟩), .pointer (some ⟨Bn, 0, none⟩), .pointer (some ⟨W.heap.size, 0, none⟩)])) := Below.setCell hu2 (p := ⟨W.heap.size + 1, 0, none⟩) (Nat.le_succ _) _
  have hs3 : (W2.setCell ⟨W.heap.size + 1, 0, none⟩ (.func (.func 152) #[] #[.pointer (some ⟨Bt, 0, none⟩), .pointer (some ⟨W.heap.size + 1, 0, none⟩), .pointer (some ⟨Bn, 0, none⟩), .pointer (some ⟨W.heap.size, 0, none⟩)])).heap.size = W.heap.size + 2 := by rw [World.size_setCell]; exact hsz
  have hq : (W2.setCell ⟨W.heap.size + 1, 0, none⟩ (.func (.func 152) #[] #[.pointer (some ⟨Bt, 0, none⟩), .pointer (some ⟨W.heap.size + 1, 0, none⟩), .pointer (some ⟨Bn, 0, none⟩), .pointer (some ⟨W.heap.size, 0, none⟩)])).cell? ⟨W.heap.size, 0, none⟩ = some (.func (.yield l) #[] #[]) := by
    have : (W2.setCell ⟨W.heap.size + 1, 0, none⟩ (.func (.func 152) #[] #[.pointer (some ⟨Bt, 0, none⟩), .pointer (some ⟨W.heap.size + 1, 0, none⟩), .pointer (some ⟨Bn, 0, none⟩), .pointer (some ⟨W.heap.size, 0, none⟩)])).heap[W.heap.size]? = _ := (blk_setCell_other _ _ _ _ (by show W.heap.size ≠ W.heap.size + 1; omega)).trans hq2
    simp [World.cell?, this]
  have he : (W2.setCell ⟨W.heap.size + 1, 0, none⟩ (.func (.func 152) #[] #[.pointer (some ⟨Bt, 0, none⟩), .pointer (some ⟨W.heap.size + 1, 0, none⟩), .pointer (some ⟨Bn, 0, none⟩), .pointer (some ⟨W.heap.size, 0, none⟩)])).cell? ⟨W.heap.size + 1, 0, none⟩ = some (.func (.func 152) #[] #[.pointer (some ⟨Bt, 0, none⟩), .pointer (some ⟨W.heap.size + 1, 0, none⟩), .pointer (some ⟨Bn, 0, none⟩), .pointer (some ⟨W.heap.size, 0, none⟩)]) := by
    have : (W2.setCell ⟨W.heap.size + 1, 0, none⟩ (.func (.func 152) #[] #[.pointer (some ⟨Bt, 0, none⟩), .pointer (some ⟨W.heap.size + 1, 0, none⟩), .pointer (some ⟨Bn, 0, none⟩), .pointer (some ⟨W.heap.size, 0, none⟩)])).heap[W.heap.size + 1]? = some (.cells #[.func (.func 152) #[] #[.pointer (some ⟨Bt, 0, none⟩), .pointer (some ⟨W.heap.size + 1, 0, none⟩), .pointer (some ⟨Bn, 0, none⟩), .pointer (some ⟨W.heap.size, 0, none⟩)]] 169 (0, 0)) := by
      simp [World.setCell, Array.getElem?_modify, hnew]
    simp [World.cell?, this]
  have hws := hW.size
  have hJ3 := hA [] _ (fun b => (b = Bt ∨ b = Bn) ∨ b = W.heap.size ∨ b = W.heap.size + 1) W _ hJ ⟨hu3.os, hu3.tape, hu3.output, hu3.size, fun b hb _ => Below.block hu3 b hb, fun b hb => hb.imp (fun e => ⟨e, by rcases e with rfl | rfl <;> omega⟩) (fun e => by rw [hs3]; omega)⟩
  have hCALL := walk_all (N := t.ps.length) (Be := W.heap.size + 1) (Bq := W.heap.size) hof hA (fun m' pre x L W1 h1 h2 h3 h4 h5 => YieldAt.anyDepth rfl m' (hY pre x L W1 h1 h2 h3 h4 h5)) _ 0 (Nat.le_refl _) ht0 (m - 1) [] _ _ hJ3 (hW.trans (hu3.mono hws)) (fun b hb => by rw [hs3]; rcases hb with (rfl | rfl) | hb <;> omega) (.inr (.inl rfl)) (.inr (.inr rfl)) (.inl (.inl rfl)) (.inl (.inr rfl)) ⟨_, _, _, _, _, _, hu3.cell wT0, hu3.cell wT1, hu3.cell wBn, hP, hNs, hNm⟩ hq he (by have := pos_len hof.te; simpa using this)
  have HCALL := Lib.hid hCALL
  have hec := he
  clear hCALL hJ3 hq he hJ hu3 hu2 hY hnew hq2 hs3 hsz hA hW hws hL9 hW9
  refine callsIn_of_wp Tryz.func151 rfl trivial ?_ rfl
  simp only [Tryz.ntmps151, List.size_toArray, List.length_cons, List.length_nil, Nat.reduceAdd, Nat.reduceSub, Array.replicate_succ, Array.replicate_zero, List.push_toArray, List.append_toArray, List.nil_append, List.cons_append]
  gi_wp2
  refine ⟨trivial, fun h => (by cases h), ?_⟩
  refine HCALL.out.mono ?_
  rintro e W3 ⟨v, ys, L', rfl, h1, h2, _⟩
  gi_wp2
  go_end0
  exact ⟨⟨_, rfl⟩, ys, L', h1, by simpa using h2⟩
end
end Go.Proofs.YtpjijbophjdgaaaGreat
namespace Go.Proofs.YtpjijbophjdgaaaGreat
open Go.RowKit Go.Deep
def cmpI (x y : Int) : Int := if x < y then -1 else if y < x then 1 else 0
set_option maxHeartbeats 400000 in
theorem nan_t (x : Int) (w : World) : Calls Tryz.prog 159 #[.int .i64 x] w fun e w' => e = .returned (.bool false) ∧ w = w' := by
  go_enter Tryz.func159, Tryz.ntmps159
  go_wp2_with fail
  go_ret
  exact ⟨ret_bool (by simp), rfl⟩
set_option maxHeartbeats 400000 in
theorem cmpI_t (x y : Int) (w : World) : Calls Tryz.prog 87 #[.int .i64 x, .int .i64 y] w fun e w' => e = .returned (.int .i64 (cmpI x y)) ∧ w = w' := by
  have HX := Lib.hid (nan_t x w)
  have HY := Lib.hid (nan_t y w)
  have HC : Hid (cmpI x y = if x < y then -1 else if y < x then 1 else 0) := rfl
  by_cases h1 : x < y
  · have h2 : ¬ y < x := by omega
    go_enter Tryz.func87, Tryz.ntmps87
    go_wp2_with fail
    refine HX.out.mono ?_
    rintro e w' ⟨rfl, rfl⟩
    go_wp2_with fail
    refine HY.out.mono ?_
    rintro e w' ⟨rfl, rfl⟩
    go_wp2_with fail
    go_ret
    exact ⟨ret_int (by rw [HC.out, if_pos h1]), rfl⟩
  by_cases h2 : y < x
  · go_enter Tryz.func87, Tryz.ntmps87
    go_wp2_with fail
    refine HX.out.mono ?_
    rintro e w' ⟨rfl, rfl⟩
    go_wp2_with fail
    refine HY.out.mono ?_
    rintro e w' ⟨rfl, rfl⟩
    go_wp2_with fail
    go_ret
    exact ⟨ret_int (by rw [HC.out, if_neg (by omega), if_pos h2]), rfl⟩
  · go_enter Tryz.func87, Tryz.ntmps87
    go_wp2_with fail
    refine HX.out.mono ?_
    rintro e w' ⟨rfl, rfl⟩
    go_wp2_with fail
    refine HY.out.mono ?_
    rintro e w' ⟨rfl, rfl⟩
    go_wp2_with fail
    go_ret
    exact ⟨ret_int (by rw [HC.out, if_neg (by omega), if_neg (by omega)]), rfl⟩
theorem cmpL_nil (b : List Int) : cmpL [] b = if b.length = 0 then 0 else -1 := by cases b <;> simp [cmpL]
theorem cmpL_drop {a b : List Int} : ∀ {k : Nat}, k ≤ a.length → k ≤ b.length → (∀ j, j < k → gi a j = gi b j) → cmpL a b = cmpL (a.drop k) (b.drop k)
  | 0, _, _, _ => by simp
  | k + 1, ha, hb, h => by
    rw [cmpL_drop (k := k) (by omega) (by omega) fun j hj => h j (by omega)]
    rw [List.drop_eq_getElem_cons (show k < a.length by omega), List.drop_eq_getElem_cons (show k < b.length by omega)]
    have e := h k (by omega)
    simp only [gi, List.getD_eq_getElem?_getD, List.getElem?_eq_getElem (show k < a.length by omega), List.getElem?_eq_getElem (show k < b.length by omega), Option.getD_some] at e
    rw [cmpL, if_neg (by omega), if_neg (by omega)]
theorem cmpL_at {a b : List Int} {k : Nat} (ha : k < a.length) (hb : k < b.length) (h : ∀ j, j < k → gi a j = gi b j) (hne : cmpI (gi a k) (gi b k) ≠ 0) : cmpL a b = cmpI (gi a k) (gi b k) := by
  rw [cmpL_drop (by omega) (by omega) h, List.drop_eq_getElem_cons ha, List.drop_eq_getElem_cons hb]
  have e1 : gi a k = a[k] := by simp [gi, ha]
  have e2 : gi b k = b[k] := by simp [gi, hb]
  rw [e1, e2] at hne ⊢
  unfold cmpI at hne ⊢
  rw [cmpL]
  split
  · rfl
  · rename_i h1
    rw [if_neg h1] at hne
    split
    · rfl
    · rename_i h2; rw [if_neg h2] at hne; exact absurd rfl hne
set_option maxRecDepth 100000 in
set_option maxHeartbeats 1000000 in
theorem cmpL_t (S T : Nat → Prop) (w : World) (v u : Value) (a b : List Int) (h : IntsAt S w v a) (h2 : IntsAt T w u b) (hn : a.length ≤ 1000000) (_ : b.length ≤ 1000000) :
    Calls Tryz.prog 24 #[v, u] w fun e w' => e = .returned (.int .i64 (cmpL a b)) ∧ w = w' := by
  obtain ⟨p, cap, rfl, -, -⟩ := SlAt.open h
  obtain ⟨q, caq, rfl, -, -⟩ := SlAt.open h2
  have H : Hid (IntsAt S w (.slice p a.length cap) a) := h
  have H2 : Hid (IntsAt T w (.slice q b.length caq) b) := h2
  clear h h2
  go_enter Tryz.func24, Tryz.ntmps24
  go_wp2_with fail
  go_loop [5, 6, 7, 8, 11] (fun _ _ _ _ i => ∃ k : Nat, k ≤ a.length ∧ k ≤ b.length ∧ i = .int .i64 k ∧ Hid (∀ j, j < k → gi a j = gi b j)) (fun _ _ _ _ i => a.length - (intOf i).toNat)
  case atStart => exact ⟨0, Nat.zero_le _, Nat.zero_le _, rfl, fun j hj => absurd hj (Nat.not_lt_zero _)⟩
  case round =>
    obtain ⟨k, hk, hk2, rfl, hd⟩ := hrel
    by_cases hlt : k < a.length
    · obtain ⟨b1, o1, rfl, hc⟩ := ints_get H.out hlt
      have k1 : (0 : Int) ≤ (k : Int) := Int.natCast_nonneg _
      have k2 : (k : Int) < (a.length : Int) := Int.ofNat_lt.2 hlt
      by_cases hlt2 : k < b.length
      · obtain ⟨b2, o2, rfl, hc2⟩ := ints_get H2.out hlt2
        have k3 : (k : Int) < (b.length : Int) := Int.ofNat_lt.2 hlt2
        have k4 : ¬ (b.length : Int) ≤ (k : Int) := by omega
        have HAT : Hid (cmpI (gi a k) (gi b k) ≠ 0 → cmpL a b = cmpI (gi a k) (gi b k)) := cmpL_at hlt hlt2 hd.out
        have HEQ : Hid (cmpI (gi a k) (gi b k) = 0 → gi a k = gi b k) := fun e => by
          unfold cmpI at e
          split at e
          · cases e
          · split at e
            · cases e
            · omega
        have HC := Lib.hid (cmpI_t (gi a k) (gi b k) w)
        generalize hgx : gi a k = x at *
        generalize hgy : gi b k = y at *
        have HGX := Lib.hid hgx
        have HGY := Lib.hid hgy
        clear hgx hgy
        generalize cmpI x y = c at *
        by_cases h0 : c = 0
        · have HE := Lib.hid (HEQ.out h0)
          subst h0
          go_wp2_with fail
          refine HC.out.mono ?_
          rintro e w' ⟨rfl, rfl⟩
          go_wp2_with fail
          go_round
          case rel => exact ⟨k + 1, by omega, by omega, by go_num, fun j hj => by
            by_cases e : j = k
            · subst e; rw [HGX.out, HGY.out]; exact HE.out
            · exact hd.out j (by omega)⟩
          case measure => simp [intOf]; omega
        · have HZ := Lib.hid h0
          have d1 : (c == 0) = false := by simpa using h0
          have d2 : (c != 0) = true := by simpa using h0
          clear h0
          go_wp2_with fail
          refine HC.out.mono ?_
          rintro e w' ⟨rfl, rfl⟩
          go_wp2_with fail
          go_ret
          exact ⟨ret_int (HAT.out HZ.out).symm, rfl⟩
      · obtain rfl : k = b.length := by omega
        have k4 : (b.length : Int) ≤ (b.length : Int) := Int.le_refl _
        have HL := Lib.hid hlt
        go_wp2_with fail
        go_ret
        exact ⟨ret_int (by rw [cmpL_drop hk (Nat.le_refl _) hd.out, List.drop_length, List.drop_eq_getElem_cons HL.out]; rfl), rfl⟩
    · obtain rfl : k = a.length := by omega
      have HR : Hid (cmpL a b = if b.length - a.length = 0 then 0 else -1) := by unfold Hid; rw [cmpL_drop (Nat.le_refl _) hk2 hd.out, List.drop_length, cmpL_nil, List.length_drop]
      by_cases hl : a.length < b.length
      · have hl2 : (a.length : Int) < (b.length : Int) := Int.ofNat_lt.2 hl
        go_wp2_with fail
        go_ret
        exact ⟨ret_int (by rw [HR.out, if_neg (by omega)]), rfl⟩
      · have hl2 : ¬ (a.length : Int) < (b.length : Int) := by omega
        have HL := Lib.hid hl
        go_wp2_with fail
        go_ret
        exact ⟨ret_int (by rw [HR.out, if_pos (by have := HL.out; omega)]), rfl⟩
end Go.Proofs.YtpjijbophjdgaaaGreat
