/- Package intset: the iterator members; slices.AppendSeq and Collect over any iterator of ints. Package intset: Complement and Intersect at sets. Package intset: Complement and Intersect at sets: the contracts. -/
import Derived.RangeFuncWrites
import Derived.Laws.EntriesVeiled
import Derived.Test.YtcbmbhghmfehpaaGreatQ32
namespace Go.Proofs.YtcbmbhghmfehpaaGreat
open Go.RowKit Go.Shelf Go.Deep
attribute [local go_sem] Oper.semAt_some
theorem memK_pre (p : Int → Bool) (k : Nat) : ∀ {N : Nat}, k ≤ N → memK p k <+: memK p N
  | 0, h => by rw [show k = 0 by omega]; exact List.prefix_refl _
  | N + 1, h => by
    by_cases e : k = N + 1
    · rw [e]; exact List.prefix_refl _
    · refine (memK_pre p k (N := N) (by omega)).trans ?_
      rw [memK_succ]; exact List.prefix_append _ _
set_option maxRecDepth 100000 in
set_option maxHeartbeats 1000000 in
theorem members1_in (n l B1 B2 : Nat) (T : Nat → Prop) (N : Nat) (hN : N ≤ 64) (p : Int → Bool) (gf : Nat) (lbf : Array Value) (eg : ∀ args w, (callFunc gf args).run Tryz.prog w = .ok (.enter gf args) w) (J Jx : List Int → World → Prop)
    (hY : ∀ pre x W, J pre W → pre.length < (memK p N).length → YieldAt Fence.wide (n - 1) Tryz.prog l #[.int .i64 x] W fun e W' =>
      (e = .returned (.bool true) ∧ J (pre ++ [x]) W' ∧ KS T W W') ∨ (e = .returned (.bool false) ∧ Jx (pre ++ [x]) W'))
    (W : World) (hJa : AbidesFrom W.heap.size J) (hc1 : W.cell? ⟨B1, 0, none⟩ = some (.int .i64 (N : Int))) (hc2 : W.cell? ⟨B2, 0, none⟩ = some (.func (.func gf) #[] lbf)) (_ : T B1) (hT2 : T B2)
    (hIs : ∀ k : Nat, k < N → ∀ W', KS T W W' → CallsIn Fence.wide (n - 1) Tryz.prog gf (#[.int .i64 k] ++ lbf) W' fun e w' => e = .returned (.bool (p k)) ∧ ∃ q, w' = W'.drewN q) (h0 : J [] W) :
    CallsIn Fence.wide n Tryz.prog 197 #[.func (.yield l) #[] #[], .pointer (some ⟨B1, 0, none⟩), .pointer (some ⟨B2, 0, none⟩)] W fun e W' => (∃ v, e = .returned v) ∧ (J (memK p N) W' ∨ ∃ pre, pre <+: memK p N ∧ Jx pre W') := by
  have HJA := Lib.hid hJa
  have HY := Lib.hid hY
  have HIS := Lib.hid hIs
  have HC2 := Lib.hid hc2
  clear hJa hY hIs
  refine callsIn_of_wp Tryz.func197 rfl trivial ?_ rfl
  simp only [Tryz.ntmps197, List.size_toArray, List.length_cons, List.length_nil, Nat.reduceAdd, Nat.reduceSub, Array.replicate_succ, Array.replicate_zero, List.push_toArray, List.append_toArray, List.nil_append, List.cons_append]
  gi_wp2
  clear hc1 hc2
  gi_loopw [4, 6] (fun _ i wr => ∃ (k : Nat), k ≤ N ∧ i = .int .i64 k ∧ Hid (J (memK p k) wr) ∧ Hid (KS T W wr)) (fun _ i _ => N - (intOf i).toNat)
  case atStart => exact ⟨0, Nat.zero_le _, rfl, h0, KS.refl _ _⟩
  case round =>
    obtain ⟨k, hk, rfl, hJ, hbr⟩ := hrel
    by_cases hlt : k < N
    · have hc2 := (hbr.out.cell (p := ⟨B2, 0, none⟩) hT2).trans HC2.out
      have HCALL := Lib.hid (HIS.out k hlt wr hbr.out)
      have HS := Lib.hid (memK_succ p k)
      have HPL : Hid (p k = true → (memK p k).length < (memK p N).length) := fun e => by
        have h1 := (memK_pre p (k + 1) (N := N) (by omega)).length_le
        rw [memK_succ, if_pos e, List.length_append] at h1
        simp at h1; omega
      have hfn : Fence.wide.fn gf := trivial
      have k1 : (k : Int) < 64 := by omega
      gi_wp2
      refine ⟨fun h => (by cases h), ?_⟩
      refine HCALL.out.mono ?_
      rintro e W2 ⟨rfl, q, rfl⟩
      have hJ2 : Hid (J (memK p k) (wr.drewN q)) := HJA.out _ wr _ none hJ.out ⟨rfl, rfl, rfl, Nat.le_refl _, fun _ _ _ => rfl⟩ (fun r e => by cases e)
      have hb2 : Hid (KS T W (wr.drewN q)) := hbr.out.drewN q
      clear hc2 HCALL
      cases hp : p k
      · have HS2 : Hid (memK p (k + 1) = memK p k) := by unfold Hid; rw [HS.out, hp]; simp
        clear hp
        gi_wp2
        rename_i hkk _ _ _ _
        refine ⟨fun f h => (by cases h), hkk _ _ ?_⟩
        gi_wp2
        go_roundw
        case rel => exact ⟨k + 1, hlt, by go_num, by rw [HS2.out]; exact hJ2, hb2⟩
        case measure => simp [intOf]; omega
      · have HS2 : Hid (memK p (k + 1) = memK p k ++ [(k : Int)]) := by unfold Hid; rw [HS.out, hp]; simp
        obtain ⟨fn, tmps, assign, body, hy, hR⟩ := HY.out (memK p k) k (wr.drewN q) hJ2.out (HPL.out hp)
        clear hp
        gi_wp2
        refine ⟨fun h => (by cases h), ?_⟩
        refine hR.mono ?_
        rintro e W3 hor
        obtain ⟨bb, rfl, hq⟩ := round_or hor
        cases bb
        · have hq2 : Jx (memK p k ++ [(k : Int)]) W3 := by
            rcases hq.out with ⟨h1, _⟩ | h2
            · cases h1
            · exact h2.2
          gi_wp2
          refine bodyPost_ret (results_none rfl _ _ _) rfl ?_
          exact ⟨⟨_, rfl⟩, .inr ⟨_, by rw [← HS2.out]; exact memK_pre p (k + 1) (by omega), hq2⟩⟩
        · have hq2 : J (memK p k ++ [(k : Int)]) W3 ∧ KS T (wr.drewN q) W3 := by
            rcases hq.out with h2 | ⟨h1, _⟩
            · exact h2.2
            · cases h1
          gi_wp2
          go_roundw
          case rel => exact ⟨k + 1, hlt, by go_num, by rw [HS2.out]; exact hq2.1, hb2.out.trans hq2.2⟩
          case measure => simp [intOf]; omega
    · gi_wp2
      go_end0
      obtain rfl : k = N := by omega
      exact ⟨⟨_, rfl⟩, .inl hJ.out⟩
end Go.Proofs.YtcbmbhghmfehpaaGreat
namespace Go.Proofs.YtcbmbhghmfehpaaGreat
open Go.RowKit Go.Shelf Go.Deep
set_option maxRecDepth 100000 in
set_option maxHeartbeats 2000000 in
theorem appendSeqG_t (w : World) (g : Nat) (lb : Array Value) (eg : ∀ args w, (callFunc g args).run Tryz.prog w = .ok (.enter g args) w) (xs : List Int)
    (hseq : ∀ w6, Up w w6 → SeqStopsK Fence.wide 8 Tryz.prog g lb (fun x : Int => #[Value.int .i64 x]) (KS (· < w.heap.size)) (fun l => l = xs) (fun pre => pre <+: xs) xs.length w6) (hlen : xs.length ≤ 1000000) :
    Calls Tryz.prog 196 #[.slice none 0 0, .func (.func g) #[] lb] w (AqPost w xs) := by
  refine (callsIn_wide (n := 9)).1 ?_
  refine callsIn_of_wp_marks Tryz.func196 rfl trivial ?_
  simp only [Tryz.ntmps196, List.size_toArray, List.length_cons, List.length_nil, Nat.reduceAdd, Nat.reduceSub, Array.replicate_succ, Array.replicate_zero, List.push_toArray, List.append_toArray, List.nil_append, List.cons_append]
  gi_wp2_with fail
  have hu6 : Up w (w.alloc (.cells #[.slice none 0 0] 26)) := Up.alloc _ _
  have hz6 : (w.alloc (.cells #[.slice none 0 0] 26)).heap.size = w.heap.size + 1 := by simp
  have hx6 := World.alloc_heap_new w (.cells #[.slice none 0 0] 26)
  generalize w.alloc (.cells #[.slice none 0 0] 26) = w6 at *
  apply wpIn_rangeFunc_ownG (F := Fence.wide) (n := 9) (P := Tryz.prog) (ps := #[7]) (w := w6) rfl (by omega) (gf := g) (lb := lb) rfl trivial eg
    (hseq w6 hu6)
    (fun h k => KS.trans h k) (fun W l o o' hl ho hc _ => fun b (hb : b < w.heap.size) => World.putObj_heap_other (by omega)) (Below.refl _ _) (fun _ => (rfl : (1 : Nat) = 1))
    (AqI w) (fun _ _ _ => False)
  · exact AqI.own w (by omega)
  · exact fun _ _ _ _ _ h _ _ => h
  · exact ⟨hu6, by omega, _, hx6, Owns.nil _ _ _⟩
  · intro l x W K hK
    gi_wp2_with (rw [Oper.semAt_eq _ _ _ (fun c h => by cases h)]; go_simp; try go_bits)
    exact hK
  · rintro l pre x W ⟨hbw, hsz, v, hbox, hown⟩ hpl
    have hb0 : W.cell? ⟨w.heap.size, 0, none⟩ = some v := by simp [World.cell?, hbox]
    have hf0 : ∀ w', KS (· < w.heap.size + 1) W w' → w'.cell? ⟨w.heap.size, 0, none⟩ = some v ∧ ∀ o, w'.frozen? ⟨w.heap.size, o, none⟩ = false := fun w' hS => by
      have h1 := (hS w.heap.size (Nat.lt_succ_self _)).trans hbox
      exact ⟨by simp [World.cell?, h1], fun o => by simp [World.frozen?, h1]⟩
    have hpl2 : pre.length ≤ 1000000 := by omega
    clear hx6
    have HF0 := Lib.hid hf0
    have HNX : Hid (∀ We v', Owns (w.heap.size + 1) 3 We v' (pre.map (Value.int .i64) ++ [.int .i64 x]) → (W.alloc (.cells #[.int .i64 x] 3)).grownBy We v.ownBlock → KeepsFrom (w.heap.size + 1) W (We.setCell ⟨w.heap.size, 0, none⟩ v') ∧ KS (· < w.heap.size) W (We.setCell ⟨w.heap.size, 0, none⟩ v') ∧ AqI w (pre ++ [x]) (We.setCell ⟨w.heap.size, 0, none⟩ v')) :=
      fun We v' => AqI.next hbw hsz hbox hown
    have HLO : Hid (∀ We, (W.alloc (.cells #[.int .i64 x] 3)).grownBy We v.ownBlock → KS (· < w.heap.size + 1) W We) := fun We hg b (hb : b < w.heap.size + 1) => (hg.block b (by rw [World.size_alloc]; show b < W.heap.size + 1; omega) (fun e => by have := (ownBlock_lt hown e.symm).1; omega)).trans (Below.heap_alloc W _ b (by show b < W.heap.size; omega))
    obtain ⟨i0, hi, hz0, hz1, hz2⟩ := info_parts Tryz.infoI
    have how1 : W.ownsRow (w.heap.size + 1) 3 1 v pre.length (pre.map (Value.int .i64)) := by have h := hown; unfold Owns at h; rwa [List.length_map] at h
    obtain ⟨q1, q2⟩ := hf0 W (KS.refl _ _)
    clear hf0 hbw hbox hown hb0
    gi_wp2_with (first
      | (gi_at_builtin; refine wpListIn_append_own _ rfl _ _ 26 rfl (w.heap.size + 1) 3 i0 (.int .i64 0) 1 8 Tryz.underlying26 hi hz0 hz1 hz2 rfl (by decide) _ _ _ rfl (how1.alloc _) ⟨W.heap.size, 0, none⟩ 1 1 [.int .i64 x] rfl rfl (cell_one_new _ _ _) (by simp [Value.oneCell']) (by unfold maxLen; omega) (by omega) (by rw [World.size_alloc]; omega) ?_; intro v' w3 hown' hg3 hnil3
         have how3 : Owns (w.heap.size + 1) 3 w3 v' (pre.map (Value.int .i64) ++ [.int .i64 x]) := by unfold Owns; rw [List.length_append, List.length_map]; exact hown'
         obtain ⟨vp, vc, rfl, _⟩ := how3.form (n := pre.length + 1) (by simp)
         have HFIN := Lib.hid (HNX.out w3 _ how3 hg3)
         obtain ⟨q3, q4⟩ := HF0.out w3 (HLO.out w3 hg3)
         clear hown' hg3 hnil3 how3 q1 q2 HNX HLO HF0 how1)
      | (rw [Oper.semAt_eq _ _ _ (fun c h => by cases h)]; go_simp; try go_bits))
    have hfin := HFIN.out
    rw [hz6]
    exact hfin
  · rintro D ys W hD rfl ⟨hbw, hsz, v, hbox, hown⟩ hK
    have hb0 : W.cell? ⟨w.heap.size, 0, none⟩ = some v := by simp [World.cell?, hbox]
    gi_wp2_with fail
    have hq : ∀ b, b ≠ D → (W.putObj D (.deferred none)).heap[b]? = W.heap[b]? := fun b hb => World.putObj_heap_other hb
    refine ⟨by simp, .inl ⟨_, _, rfl, run_takeDeferred hK, ?_⟩⟩
    refine ⟨v, by simp [results, Tryz.results196, go_sem], ⟨hbw.os, hbw.tape, hbw.output, by have h := hbw.size; simpa using h, fun b hb => (hq b (by omega)).trans (hbw.block b hb)⟩, v, rfl, ?_⟩
    refine Owns.mono_baseZ (hown.sameZ fun b hb => hq b (fun e => ?_)) (Nat.le_succ _)
    obtain ⟨c, hc⟩ := hown.typedV hb
    subst e; rw [hK] at hc; cases hc
  · rintro D c pre W _ _ h _
    exact h.elim
end Go.Proofs.YtcbmbhghmfehpaaGreat
namespace Go.Proofs.YtcbmbhghmfehpaaGreat
open Go.RowKit Go.Shelf Go.Deep
theorem members_t (w : World) (n : Int) (g : Nat) (lb : Array Value) :
    Calls Tryz.prog 154 #[.int .i64 n, .func (.func g) #[] lb] w fun e w' => e = .returned (.func (.func 197) #[] #[.pointer (some ⟨w.heap.size, 0, none⟩), .pointer (some ⟨w.heap.size + 1, 0, none⟩)]) ∧ w' = (w.alloc (.cells #[.int .i64 n] 3)).alloc (.cells #[.func (.func g) #[] lb] 93) := by
  go_enter Tryz.func154, Tryz.ntmps154
  go_wp2_with fail
  go_ret
  exact ⟨by simp, rfl⟩
set_option maxRecDepth 100000 in
theorem collectM_t (w : World) (B1 B2 N : Nat) (hN : N ≤ 64) (p : Int → Bool) (gf : Nat) (lbf : Array Value) (eg : ∀ args w, (callFunc gf args).run Tryz.prog w = .ok (.enter gf args) w)
    (hc1 : w.cell? ⟨B1, 0, none⟩ = some (.int .i64 (N : Int))) (hc2 : w.cell? ⟨B2, 0, none⟩ = some (.func (.func gf) #[] lbf))
    (hIs : ∀ k : Nat, k < N → ∀ W', KS (· < w.heap.size) w W' → Calls Tryz.prog gf (#[.int .i64 k] ++ lbf) W' fun e w' => e = .returned (.bool (p k)) ∧ ∃ q, w' = W'.drewN q) :
    Calls Tryz.prog 153 #[.func (.func 197) #[] #[.pointer (some ⟨B1, 0, none⟩), .pointer (some ⟨B2, 0, none⟩)]] w (AqPost w (memK p N)) := by
  have hB1 : B1 < w.heap.size := World.block_lt_of_cell? w _ hc1
  have hB2 : B2 < w.heap.size := World.block_lt_of_cell? w _ hc2
  have HA := Lib.hid (appendSeqG_t w 197 #[.pointer (some ⟨B1, 0, none⟩), .pointer (some ⟨B2, 0, none⟩)] (enters_of Tryz.func197 (by kernel_rfl) rfl) (memK p N) (fun w6 hu6 l J Jx W hW hJ _ hY h0 => by
    have hks : KS (· < w.heap.size) w W := fun b hb => (hW.block b (by have := hu6.size; have : b < w.heap.size := hb; omega)).trans (Below.block hu6 b hb)
    exact (members1_in 8 l B1 B2 (· < w.heap.size) N hN p gf lbf eg J Jx hY W hJ ((hks.cell (p := ⟨B1, 0, none⟩) hB1).trans hc1) ((hks.cell (p := ⟨B2, 0, none⟩) hB2).trans hc2) hB1 hB2 (fun k hk W' hW' => callsIn_wide.2 (hIs k hk W' (hks.trans hW'))) h0).mono fun _ _ ⟨h1, h2⟩ => ⟨h1, h2.imp (fun h => ⟨_, rfl, h⟩) id⟩) (by have := memK_len p N; omega))
  go_enter Tryz.func153, Tryz.ntmps153
  go_wp2_with fail
  refine HA.out.mono ?_
  rintro e w1 ⟨hu, v, rfl, ho⟩
  go_wp2_with fail
  go_ret
  exact ⟨hu, v, rfl, ho⟩
set_option maxHeartbeats 400000 in
theorem compl1_t (S : Nat → Prop) (w : World) (b6 b1 : Nat) (v : Value) (l : List Int) (k : Int) (h6 : w.cell? ⟨b6, 0, none⟩ = some (.func (.func 194) #[] #[.pointer (some ⟨b1, 0, none⟩)])) (hb : w.cell? ⟨b1, 0, none⟩ = some v) (h : IntsAt S w v l) (hn : l.length ≤ 1000000) (ha : l.Pairwise (· < ·)) :
    Calls Tryz.prog 155 #[.int .i64 k, .pointer (some ⟨b6, 0, none⟩)] w fun e w' => e = .returned (.bool (!l.contains k)) ∧ ∃ q, w' = w.drewN q := by
  have HC := Lib.hid (has1_t S w b1 v l k hb h hn ha)
  clear hb h ha
  go_enter Tryz.func155, Tryz.ntmps155
  go_wp2_with fail
  refine HC.out.mono ?_
  rintro e w' ⟨rfl, q, rfl⟩
  go_wp2_with fail
  go_ret
  exact ⟨ret_bool (by simp), q, rfl⟩
set_option maxHeartbeats 400000 in
theorem inter1_t (S : Nat → Prop) (w : World) (b5 b8 b9 c1 c2 : Nat) (v u : Value) (l m : List Int) (k : Int) (h5 : w.cell? ⟨b5, 0, none⟩ = some (.func (.func 189) #[] #[])) (h8 : w.cell? ⟨b8, 0, none⟩ = some (.func (.func 194) #[] #[.pointer (some ⟨c1, 0, none⟩)])) (h9 : w.cell? ⟨b9, 0, none⟩ = some (.func (.func 194) #[] #[.pointer (some ⟨c2, 0, none⟩)]))
    (hb : w.cell? ⟨c1, 0, none⟩ = some v) (h : IntsAt S w v l) (hn : l.length ≤ 1000000) (ha : l.Pairwise (· < ·)) (hb2 : w.cell? ⟨c2, 0, none⟩ = some u) (h2 : IntsAt S w u m) (hn2 : m.length ≤ 1000000) (ha2 : m.Pairwise (· < ·)) :
    Calls Tryz.prog 220 #[.int .i64 k, .pointer (some ⟨b5, 0, none⟩), .pointer (some ⟨b8, 0, none⟩), .pointer (some ⟨b9, 0, none⟩)] w fun e w' => e = .returned (.bool (l.contains k && m.contains k)) ∧ ∃ q, w' = w.drewN q := by
  have HC : Hid (∀ n, Calls Tryz.prog 194 #[.int .i64 k, .pointer (some ⟨c1, 0, none⟩)] (w.drewN n) fun e w' => e = .returned (.bool (l.contains k)) ∧ ∃ q, w' = w.drewN q) := fun n => by
    have hu := Up.drewN w n
    refine (has1_t S _ c1 v l k (hu.cell hb) (IntsAt.keep h (hu.kept _)) hn ha).mono ?_
    rintro e w' ⟨rfl, q, rfl⟩
    exact ⟨rfl, n + q, by rw [World.drewN_drewN]⟩
  have HD : Hid (∀ n, Calls Tryz.prog 194 #[.int .i64 k, .pointer (some ⟨c2, 0, none⟩)] (w.drewN n) fun e w' => e = .returned (.bool (m.contains k)) ∧ ∃ q, w' = w.drewN q) := fun n => by
    have hu := Up.drewN w n
    refine (has1_t S _ c2 u m k (hu.cell hb2) (IntsAt.keep h2 (hu.kept _)) hn2 ha2).mono ?_
    rintro e w' ⟨rfl, q, rfl⟩
    exact ⟨rfl, n + q, by rw [World.drewN_drewN]⟩
  have HE : Hid (∀ x y n, Calls Tryz.prog 189 #[.bool x, .bool y] (w.drewN n) fun e w' => e = .returned (.bool (x && y)) ∧ ∃ q, w' = w.drewN q) := fun x y n => by
    cases x
    · go_enter Tryz.func189, Tryz.ntmps189
      go_wp2_with fail
      go_ret
      exact ⟨rfl, n, rfl⟩
    · go_enter Tryz.func189, Tryz.ntmps189
      go_wp2_with fail
      go_ret
      exact ⟨rfl, n, rfl⟩
  clear hb h ha hb2 h2 ha2
  generalize l.contains k = x at *
  generalize m.contains k = y at *
  go_enter Tryz.func220, Tryz.ntmps220
  go_wp2_with fail
  go_big_quiet (first | with_reducible exact HC.out _ | with_reducible exact HD.out _ | with_reducible exact HE.out _ _ _)
  go_wp2_with fail
  go_ret
  exact ⟨rfl, _, rfl⟩
end Go.Proofs.YtcbmbhghmfehpaaGreat
namespace Go.Proofs.YtcbmbhghmfehpaaGreat
open Go.RowKit Go.Shelf Go.Deep
theorem two_boxes (w : World) (x y : Value) (T U : TypeId) : Up w ((w.alloc (.cells #[x] T)).alloc (.cells #[y] U)) ∧ ((w.alloc (.cells #[x] T)).alloc (.cells #[y] U)).cell? ⟨w.heap.size, 0, none⟩ = some x ∧ ((w.alloc (.cells #[x] T)).alloc (.cells #[y] U)).cell? ⟨w.heap.size + 1, 0, none⟩ = some y := by
  have hu1 := Up.alloc w (.cells #[x] T)
  have h1 := box1_0 w x T
  have hs : (w.alloc (.cells #[x] T)).heap.size = w.heap.size + 1 := by simp
  have hu2 := Up.alloc (w.alloc (.cells #[x] T)) (.cells #[y] U)
  have h2 := box1_0 (w.alloc (.cells #[x] T)) y U
  rw [hs] at h2
  exact ⟨hu1.trans hu2, hu2.cell h1, h2⟩
set_option maxRecDepth 100000 in
set_option maxHeartbeats 1000000 in
theorem complement_t (S : Nat → Prop) (w : World) (v : Value) (N : Nat) (a : List Int) (hN : N ≤ 64) (h : IntsAt S w v a) (ha : SetOk a) (hb : ∀ x ∈ a, x < (N : Int)) (hl : a.length ≤ 1000000) :
    Calls Tryz.prog 91 #[.int .i64 (N : Int), v] w fun e w' => Up w w' ∧ ∃ u, e = .returned (.tuple #[u, .int .i64 0]) ∧ Owns w.heap.size 3 w' u ((complL N a).map (Value.int .i64)) := by
  have HC := Lib.hid (setCheck_t S w v a h hl)
  rw [setErr_zero.2 ha] at HC
  have HCL : Hid (complL N a = memK (fun x => !a.contains x) N) := by unfold Hid complL; rw [Int.toNat_natCast]
  obtain ⟨p, cap, rfl, -, -⟩ := SlAt.open h
  have H : Hid (IntsAt S w (.slice p a.length cap) a) := h
  have HA := Lib.hid ha
  have n0 : ¬ (N : Int) < 0 := by omega
  have n1 : ¬ (64 : Int) < (N : Int) := by omega
  have hu1 := Up.alloc w (.cells #[.slice p a.length cap] 26)
  have hb1 := box1_0 w (.slice p a.length cap) 26
  have hw1 : (w.alloc (.cells #[.slice p a.length cap] 26)).heap.size = w.heap.size + 1 := by simp
  have HW1 := Lib.hid (⟨hu1, hb1, hw1⟩ : Up w (w.alloc (.cells #[.slice p a.length cap] 26)) ∧ (w.alloc (.cells #[.slice p a.length cap] 26)).cell? ⟨w.heap.size, 0, none⟩ = some (.slice p a.length cap) ∧ (w.alloc (.cells #[.slice p a.length cap] 26)).heap.size = w.heap.size + 1)
  clear h ha hu1 hb1 hw1
  have HB : Hid (a.length = 0 ∨ 0 < a.length ∧ ∃ b off, p = some ⟨b, off, none⟩ ∧ w.cell? ⟨b, off + (a.length - 1), none⟩ = some (.int .i64 (gi a (a.length - 1))) ∧ gi a (a.length - 1) < N) := by
    by_cases h0 : a.length = 0
    · exact .inl h0
    · obtain ⟨b, off, e, hc⟩ := ints_get H.out (show a.length - 1 < a.length by omega)
      exact .inr ⟨by omega, b, off, e, hc, hb _ (gi_in (by omega))⟩
  clear hb
  have REST : Hid (∀ w3 B1 B2 b6, Up w w3 → w3.cell? ⟨B1, 0, none⟩ = some (.int .i64 (N : Int)) → w3.cell? ⟨B2, 0, none⟩ = some (.func (.func 155) #[] #[.pointer (some ⟨b6, 0, none⟩)]) → w3.cell? ⟨b6, 0, none⟩ = some (.func (.func 194) #[] #[.pointer (some ⟨w.heap.size, 0, none⟩)]) → w3.cell? ⟨w.heap.size, 0, none⟩ = some (.slice p a.length cap) →
      Calls Tryz.prog 153 #[.func (.func 197) #[] #[.pointer (some ⟨B1, 0, none⟩), .pointer (some ⟨B2, 0, none⟩)]] w3 (AqPost w3 (complL N a))) := fun w3 B1 B2 b6 hu c1 c2 c6 cw => by
    rw [HCL.out]
    have hks : ∀ W', KS (· < w3.heap.size) w3 W' → ∀ b o x, w3.cell? ⟨b, o, none⟩ = some x → W'.cell? ⟨b, o, none⟩ = some x := fun W' hW b o x hc => (hW.cell (p := ⟨b, o, none⟩) (World.block_lt_of_cell? w3 _ hc)).trans hc
    refine collectM_t w3 B1 B2 N hN (fun x => !a.contains x) 155 _ (enters_of Tryz.func155 (by kernel_rfl) rfl) c1 c2 fun k hk W' hW' => ?_
    refine compl1_t (· < w3.heap.size) W' b6 w.heap.size _ a k (hks W' hW' _ _ _ c6) (hks W' hW' _ _ _ cw) ?_ hl HA.out.asc
    exact SlAt.keep (IntsAt.sub (IntsAt.keep H.out (hu.kept _)) fun b _ hb => hb) fun b hb _ => hW' b hb
  have FIN : Hid (∀ w3 e w', Up w w3 → AqPost w3 (complL N a) e w' → ∃ u, e = .returned u ∧ Up w w' ∧ Owns w.heap.size 3 w' u ((complL N a).map (Value.int .i64))) := fun w3 e w' hu ⟨h1, u, he, h2⟩ => ⟨u, he, hu.trans h1, by
    obtain ⟨hl, h | ⟨g, cap, cur, hv, hg, hc, hr⟩⟩ := h2
    · exact ⟨hl, .inl h⟩
    · exact ⟨hl, .inr ⟨g, cap, cur, hv, Nat.le_trans hu.size hg, hc, hr⟩⟩⟩
  have K : Hid (∀ w1 b1, b1 = w.heap.size → w1 = w.alloc (.cells #[.slice p a.length cap] 26) → Up w (w1.alloc (.cells #[.func (.func 194) #[] #[.pointer (some ⟨b1, 0, none⟩)]] 93)) ∧
      (w1.alloc (.cells #[.func (.func 194) #[] #[.pointer (some ⟨b1, 0, none⟩)]] 93)).cell? ⟨w1.heap.size, 0, none⟩ = some (.func (.func 194) #[] #[.pointer (some ⟨w.heap.size, 0, none⟩)]) ∧
      (w1.alloc (.cells #[.func (.func 194) #[] #[.pointer (some ⟨b1, 0, none⟩)]] 93)).cell? ⟨w.heap.size, 0, none⟩ = some (.slice p a.length cap)) := fun w1 b1 e1 e2 => by
    subst e1
    subst e2
    obtain ⟨k1, k2, k3⟩ := HW1.out
    have q1 := Up.alloc (w.alloc (.cells #[.slice p a.length cap] 26)) (.cells #[.func (.func 194) #[] #[.pointer (some ⟨w.heap.size, 0, none⟩)]] 93)
    have q2 := box1_0 (w.alloc (.cells #[.slice p a.length cap] 26)) (.func (.func 194) #[] #[.pointer (some ⟨w.heap.size, 0, none⟩)]) 93
    exact ⟨k1.trans q1, q2, q1.cell k2⟩
  rcases HB.out with h0 | ⟨i01, b, off, rfl, hc, hlt⟩
  · have h01 : ¬ (0 : Int) < (a.length : Int) := by omega
    have h02 : ¬ 0 < a.length := by omega
    clear h0
    go_enter Tryz.func91, Tryz.ntmps91
    go_wp2_with fail
    refine HC.out.mono ?_
    rintro e w' ⟨rfl, rfl⟩
    go_wp2_with fail
    refine (has_t _ _ _ _).mono ?_
    rintro e w1 ⟨rfl, hw1⟩
    obtain ⟨k1, k2, k3⟩ := K.out w1 _ rfl hw1
    have HK1 := Lib.hid k1
    have HK2 := Lib.hid k2
    have HK3 := Lib.hid k3
    clear hw1 k1 k2 k3 K
    go_wp2_with fail
    generalize w1.alloc (.cells #[.func (.func 194) #[] #[.pointer (some ⟨w.heap.size, 0, none⟩)]] 93) = w2 at *
    refine (members_t _ _ _ _).mono ?_
    rintro e w3 ⟨rfl, hw3⟩
    obtain ⟨m1, m2, m3⟩ := two_boxes w2 (.int .i64 (N : Int)) (.func (.func 155) #[] #[.pointer (some ⟨w1.heap.size, 0, none⟩)]) 3 93
    rw [← hw3] at m1 m2 m3
    have HU3 : Hid (Up w w3) := HK1.out.trans m1
    have HR := Lib.hid (REST.out w3 _ _ _ HU3.out m2 m3 (m1.cell HK2.out) (m1.cell HK3.out))
    clear hw3 m1 m2 m3 HK1 HK2 HK3
    go_wp2_with fail
    refine HR.out.mono ?_
    rintro e w4 hp
    obtain ⟨u, rfl, h4, h5⟩ := FIN.out w3 e w4 HU3.out hp
    have H4 := Lib.hid h4
    have H5 := Lib.hid h5
    clear hp h4 h5
    go_wp2_with fail
    exact ⟨rfl, .tuple #[_, _], by simp [results, Tryz.results91, go_sem], H4.out, _, rfl, H5.out⟩
  · have i0 : (0 : Int) < (a.length : Int) := by omega
    have i1 : (0 : Int) ≤ (a.length : Int) - 1 := by omega
    have i2 : (a.length : Int) - 1 < (a.length : Int) := by omega
    have i3 : ((a.length : Int) - 1).toNat = a.length - 1 := by omega
    have i4 : wrap64 ((a.length : Int) - 1) = (a.length : Int) - 1 := by unfold wrap64; omega
    have i5 : ¬ (N : Int) ≤ gi a (a.length - 1) := by omega
    clear hlt
    generalize gi a (a.length - 1) = y at *
    go_enter Tryz.func91, Tryz.ntmps91
    go_wp2_with fail
    refine HC.out.mono ?_
    rintro e w' ⟨rfl, rfl⟩
    go_wp2_with fail
    refine (has_t _ _ _ _).mono ?_
    rintro e w1 ⟨rfl, hw1⟩
    obtain ⟨k1, k2, k3⟩ := K.out w1 _ rfl hw1
    have HK1 := Lib.hid k1
    have HK2 := Lib.hid k2
    have HK3 := Lib.hid k3
    clear hw1 k1 k2 k3 K
    go_wp2_with fail
    generalize w1.alloc (.cells #[.func (.func 194) #[] #[.pointer (some ⟨w.heap.size, 0, none⟩)]] 93) = w2 at *
    refine (members_t _ _ _ _).mono ?_
    rintro e w3 ⟨rfl, hw3⟩
    obtain ⟨m1, m2, m3⟩ := two_boxes w2 (.int .i64 (N : Int)) (.func (.func 155) #[] #[.pointer (some ⟨w1.heap.size, 0, none⟩)]) 3 93
    rw [← hw3] at m1 m2 m3
    have HU3 : Hid (Up w w3) := HK1.out.trans m1
    have HR := Lib.hid (REST.out w3 _ _ _ HU3.out m2 m3 (m1.cell HK2.out) (m1.cell HK3.out))
    clear hw3 m1 m2 m3 HK1 HK2 HK3
    go_wp2_with fail
    refine HR.out.mono ?_
    rintro e w4 hp
    obtain ⟨u, rfl, h4, h5⟩ := FIN.out w3 e w4 HU3.out hp
    have H4 := Lib.hid h4
    have H5 := Lib.hid h5
    clear hp h4 h5
    go_wp2_with fail
    exact ⟨rfl, .tuple #[_, _], by simp [results, Tryz.results91, go_sem], H4.out, _, rfl, H5.out⟩
end Go.Proofs.YtcbmbhghmfehpaaGreat
