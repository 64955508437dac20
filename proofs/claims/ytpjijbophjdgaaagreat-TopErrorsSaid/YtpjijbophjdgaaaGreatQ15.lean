/- The contract of the reference's SameGroups, at groups that are the same. The contract of sharederror.Groups. The contract of layer 31's reference's SameTree, at trees that are the same. Package intset: the iterator members; slices.AppendSeq and Collect over any iterator of ints. Contracts: equal lists of lists. The contract of the reference's least. The contracts of the reference's checkCosts, checkStates, Check. intset.Check and split.Check of lists of any size. The closure that compares children: its contract. The world outside a forest. -/
import Derived.Test.YtpjijbophjdgaaaGreatQ11
import Derived.Test.YtpjijbophjdgaaaGreatQ10
import Derived.Test.YtpjijbophjdgaaaGreatQ12
import Derived.Test.YtpjijbophjdgaaaGreatQ5
import Derived.RangeFuncWrites
import Derived.Laws.EntriesVeiled
import Derived.Test.YtpjijbophjdgaaaGreatQ8
import Derived.Test.YtpjijbophjdgaaaGreatQ13
import Derived.Test.YtpjijbophjdgaaaGreatQ1
namespace Go.Proofs.YtpjijbophjdgaaaGreat
open Go.RowKit Go.Deep
theorem grps_open {S : Nat → Prop} {w : World} {v : Value} {gs : List Grp} (h : GrpsAt S w v gs) : ∃ p cap, v = .slice p gs.length cap ∧ gs.length ≤ cap := by
  obtain ⟨p, cap, e, hn, _⟩ := h
  exact ⟨p, cap, e, hn⟩
theorem grps_get {S : Nat → Prop} {w : World} {p : Option Addr} {n cap : Nat} {gs : List Grp} (h : GrpsAt S w (.slice p n cap) gs) {k : Nat} (hk : k < gs.length) :
    ∃ b off rq rc, p = some ⟨b, off, none⟩ ∧ w.cell? ⟨b, off + k * 3, none⟩ = some (.int .i64 (gg gs k).un) ∧ w.cell? ⟨b, off + k * 3 + 1, none⟩ = some (.int .i64 (gg gs k).st) ∧ w.cell? ⟨b, off + k * 3 + 2, none⟩ = some (.slice rq (gg gs k).src.length rc) ∧ IntsAt S w (.slice rq (gg gs k).src.length rc) (gg gs k).src := by
  obtain ⟨q, c, e, _, h⟩ := h
  injection e with e1
  subst e1
  rcases h with h | ⟨b, off, rfl, _, h⟩
  · omega
  · obtain ⟨sv, h1, h2, h3, h4⟩ := h k hk
    obtain ⟨rq, rc, rfl, _, _⟩ := SlAt.open h4
    exact ⟨b, off, rq, rc, rfl, h1, h2, h3, h4⟩
end Go.Proofs.YtpjijbophjdgaaaGreat
namespace Go.Proofs.YtpjijbophjdgaaaGreat
open Go.RowKit Go.Deep
theorem Tryz.infoEG : (Tryz.prog.info? 37).map (fun i => (i.zero, i.size, i.bytes)) = some (some (.agg #[.int .i64 0, .int .i64 0, .slice none 0 0]), 3, 40) := by kernel_rfl
theorem GrpsOwn.kept {base : Nat} {T : TypeId} {w w' : World} {v : Value} {gs : List Grp} (h : GrpsOwn base T w v gs) (k : Up w w') : GrpsOwn base T w' v gs := by
  obtain ⟨svs, hl, ho, hr⟩ := h
  refine ⟨svs, hl, ⟨ho.1, ?_⟩, fun i hi => (hr i hi).keep (k.kept _)⟩
  rcases ho.2 with h1 | ⟨g, cap, cur, e, hg, hc, h2⟩
  · exact .inl h1
  · exact .inr ⟨g, cap, cur, e, hg, (Below.block k g (Array.getElem?_eq_some_iff.1 hc).1).trans hc, h2⟩
theorem GrpsOwn.lt {base : Nat} {T : TypeId} {w : World} {v : Value} {gs : List Grp} (h : GrpsOwn base T w v gs) {b : Nat} (hb : v.ownBlock = some b) : base ≤ b ∧ b < w.heap.size := by
  obtain ⟨svs, _, ho, _⟩ := h
  exact World.ownsRow.lt ho b hb
set_option maxHeartbeats 400000 in
theorem groups1_t (w : World) (x : Int) : FnIs 66 #[] #[.int .i64 x] (.bool (decide (x < -1) || decide (16 ≤ x))) w := by
  unfold FnIs
  go_enter Tryz.func66, Tryz.ntmps66
  by_cases hx : x < -1
  · go_wp2_with fail
    go_ret
    exact ⟨ret_bool (by simp [hx]), rfl⟩
  · go_wp2_with fail
    go_ret
    exact ⟨ret_bool (by simp; omega), rfl⟩
end Go.Proofs.YtpjijbophjdgaaaGreat
namespace Go.Proofs.YtpjijbophjdgaaaGreat
open Go.RowKit Go.Deep
end Go.Proofs.YtpjijbophjdgaaaGreat
namespace Go.Proofs.YtpjijbophjdgaaaGreat
open Go.RowKit Go.Shelf Go.Deep
attribute [local go_sem] Oper.semAt_some
theorem memK_pre (p : Int → Bool) (k : Nat) : ∀ {N : Nat}, k ≤ N → memK p k <+: memK p N
  | 0, h => by rw [show k = 0 by omega]; exact List.prefix_refl _
  | N + 1, h => by
    by_cases e : k = N + 1
    · rw [e]; exact List.prefix_refl _
    · refine (memK_pre p k (N := N) (by omega)).trans ?_
      rw [memK_succ]; exact List.prefix_append _ _
set_option maxRecDepth 100000 in
set_option maxHeartbeats 1000000 in
theorem members1_in (n l B1 B2 : Nat) (T : Nat → Prop) (N : Nat) (hN : N ≤ 64) (p : Int → Bool) (gf : Nat) (lbf : Array Value) (eg : ∀ args w, (callFunc gf args).run Tryz.prog w = .ok (.enter gf args) w) (J Jx : List Int → World → Prop)
    (hY : ∀ pre x W, J pre W → pre.length < (memK p N).length → YieldAt Fence.wide (n - 1) Tryz.prog l #[.int .i64 x] W fun e W' =>
      (e = .returned (.bool true) ∧ J (pre ++ [x]) W' ∧ KS T W W') ∨ (e = .returned (.bool false) ∧ Jx (pre ++ [x]) W'))
    (W : World) (hJa : AbidesFrom W.heap.size J) (hc1 : W.cell? ⟨B1, 0, none⟩ = some (.int .i64 (N : Int))) (hc2 : W.cell? ⟨B2, 0, none⟩ = some (.func (.func gf) #[] lbf)) (_ : T B1) (hT2 : T B2)
    (hIs : ∀ k : Nat, k < N → ∀ W', KS T W W' → CallsIn Fence.wide (n - 1) Tryz.prog gf (#[.int .i64 k] ++ lbf) W' fun e w' => e = .returned (.bool (p k)) ∧ ∃ q, w' = W'.drewN q) (h0 : J [] W) :
    CallsIn Fence.wide n Tryz.prog 196 #[.func (.yield l) #[] #[], .pointer (some ⟨B1, 0, none⟩), .pointer (some ⟨B2, 0, none⟩)] W fun e W' => (∃ v, e = .returned v) ∧ (J (memK p N) W' ∨ ∃ pre, pre <+: memK p N ∧ Jx pre W') := by
  have HJA := Lib.hid hJa
  have HY := Lib.hid hY
  have HIS := Lib.hid hIs
  have HC2 := Lib.hid hc2
  clear hJa hY hIs
  refine callsIn_of_wp Tryz.func196 rfl trivial ?_ rfl
  simp only [Tryz.ntmps196, List.size_toArray, List.length_cons, List.length_nil, Nat.reduceAdd, Nat.reduceSub, Array.replicate_succ, Array.replicate_zero, List.push_toArray, List.append_toArray, List.nil_append, List.cons_append]
  gi_wp2
  clear hc1 hc2
  gi_loopw [4, 6] (fun _ i wr => ∃ (k : Nat), k ≤ N ∧ i = .int .i64 k ∧ Hid (J (memK p k) wr) ∧ Hid (KS T W wr)) (fun _ i _ => N - (intOf i).toNat)
  case atStart => exact ⟨0, Nat.zero_le _, rfl, h0, KS.refl _ _⟩
  case round =>
    obtain ⟨k, hk, rfl, hJ, hbr⟩ := hrel
    by_cases hlt : k < N
    · have hc2 := (hbr.out.cell (p := ⟨B2, 0, none⟩) hT2).trans HC2.out
      have HCALL := Lib.hid (HIS.out k hlt wr hbr.out)
      have HS := Lib.hid (memK_succ p k)
      have HPL : Hid (p k = true → (memK p k).length < (memK p N).length) := fun e => by
        have h1 := (memK_pre p (k + 1) (N := N) (by omega)).length_le
        rw [memK_succ, if_pos e, List.length_append] at h1
        simp at h1; omega
      have hfn : Fence.wide.fn gf := trivial
      have k1 : (k : Int) < 64 := by omega
      gi_wp2
      refine ⟨fun h => (by cases h), ?_⟩
      refine HCALL.out.mono ?_
      rintro e W2 ⟨rfl, q, rfl⟩
      have hJ2 : Hid (J (memK p k) (wr.drewN q)) := HJA.out _ wr _ none hJ.out ⟨rfl, rfl, rfl, Nat.le_refl _, fun _ _ _ => rfl⟩ (fun r e => by cases e)
      have hb2 : Hid (KS T W (wr.drewN q)) := hbr.out.drewN q
      clear hc2 HCALL
      cases hp : p k
      · have HS2 : Hid (memK p (k + 1) = memK p k) := by unfold Hid; rw [HS.out, hp]; simp
        clear hp
        gi_wp2
        rename_i hkk _ _ _ _
        refine ⟨fun f h => (by cases h), hkk _ _ ?_⟩
        gi_wp2
        go_roundw
        case rel => exact ⟨k + 1, hlt, by go_num, by rw [HS2.out]; exact hJ2, hb2⟩
        case measure => simp [intOf]; omega
      · have HS2 : Hid (memK p (k + 1) = memK p k ++ [(k : Int)]) := by unfold Hid; rw [HS.out, hp]; simp
        obtain ⟨fn, tmps, assign, body, hy, hR⟩ := HY.out (memK p k) k (wr.drewN q) hJ2.out (HPL.out hp)
        clear hp
        gi_wp2
        refine ⟨fun h => (by cases h), ?_⟩
        refine hR.mono ?_
        rintro e W3 hor
        obtain ⟨bb, rfl, hq⟩ := round_or hor
        cases bb
        · have hq2 : Jx (memK p k ++ [(k : Int)]) W3 := by
            rcases hq.out with ⟨h1, _⟩ | h2
            · cases h1
            · exact h2.2
          gi_wp2
          refine bodyPost_ret (results_none rfl _ _ _) rfl ?_
          exact ⟨⟨_, rfl⟩, .inr ⟨_, by rw [← HS2.out]; exact memK_pre p (k + 1) (by omega), hq2⟩⟩
        · have hq2 : J (memK p k ++ [(k : Int)]) W3 ∧ KS T (wr.drewN q) W3 := by
            rcases hq.out with h2 | ⟨h1, _⟩
            · exact h2.2
            · cases h1
          gi_wp2
          go_roundw
          case rel => exact ⟨k + 1, hlt, by go_num, by rw [HS2.out]; exact hq2.1, hb2.out.trans hq2.2⟩
          case measure => simp [intOf]; omega
    · gi_wp2
      go_end0
      obtain rfl : k = N := by omega
      exact ⟨⟨_, rfl⟩, .inl hJ.out⟩
end Go.Proofs.YtpjijbophjdgaaaGreat
namespace Go.Proofs.YtpjijbophjdgaaaGreat
open Go.RowKit Go.Shelf Go.Deep
set_option maxRecDepth 100000 in
set_option maxHeartbeats 2000000 in
theorem appendSeqG_t (w : World) (g : Nat) (lb : Array Value) (eg : ∀ args w, (callFunc g args).run Tryz.prog w = .ok (.enter g args) w) (xs : List Int)
    (hseq : ∀ w6, Up w w6 → SeqStopsK Fence.wide 8 Tryz.prog g lb (fun x : Int => #[Value.int .i64 x]) (KS (· < w.heap.size)) (fun l => l = xs) (fun pre => pre <+: xs) xs.length w6) (hlen : xs.length ≤ 1000000) :
    Calls Tryz.prog 195 #[.slice none 0 0, .func (.func g) #[] lb] w (AqPost w xs) := by
  refine (callsIn_wide (n := 9)).1 ?_
  refine callsIn_of_wp_marks Tryz.func195 rfl trivial ?_
  simp only [Tryz.ntmps195, List.size_toArray, List.length_cons, List.length_nil, Nat.reduceAdd, Nat.reduceSub, Array.replicate_succ, Array.replicate_zero, List.push_toArray, List.append_toArray, List.nil_append, List.cons_append]
  gi_wp2_with fail
  have hu6 : Up w (w.alloc (.cells #[.slice none 0 0] 26)) := Up.alloc _ _
  have hz6 : (w.alloc (.cells #[.slice none 0 0] 26)).heap.size = w.heap.size + 1 := by simp
  have hx6 := World.alloc_heap_new w (.cells #[.slice none 0 0] 26)
  generalize w.alloc (.cells #[.slice none 0 0] 26) = w6 at *
  apply wpIn_rangeFunc_ownG (F := Fence.wide) (n := 9) (P := Tryz.prog) (ps := #[7]) (w := w6) rfl (by omega) (gf := g) (lb := lb) rfl trivial eg
    (hseq w6 hu6)
    (fun h k => KS.trans h k) (fun W l o o' hl ho hc _ => fun b (hb : b < w.heap.size) => World.putObj_heap_other (by omega)) (Below.refl _ _) (fun _ => (rfl : (1 : Nat) = 1))
    (AqI w) (fun _ _ _ => False)
  · exact AqI.own w (by omega)
  · exact fun _ _ _ _ _ h _ _ => h
  · exact ⟨hu6, by omega, _, hx6, Owns.nil _ _ _⟩
  · intro l x W K hK
    gi_wp2_with (rw [Oper.semAt_eq _ _ _ (fun c h => by cases h)]; go_simp; try go_bits)
    exact hK
  · rintro l pre x W ⟨hbw, hsz, v, hbox, hown⟩ hpl
    have hb0 : W.cell? ⟨w.heap.size, 0, none⟩ = some v := by simp [World.cell?, hbox]
    have hf0 : ∀ w', KS (· < w.heap.size + 1) W w' → w'.cell? ⟨w.heap.size, 0, none⟩ = some v ∧ ∀ o, w'.frozen? ⟨w.heap.size, o, none⟩ = false := fun w' hS => by
      have h1 := (hS w.heap.size (Nat.lt_succ_self _)).trans hbox
      exact ⟨by simp [World.cell?, h1], fun o => by simp [World.frozen?, h1]⟩
    have hpl2 : pre.length ≤ 1000000 := by omega
    clear hx6
    have HF0 := Lib.hid hf0
    have HNX : Hid (∀ We v', Owns (w.heap.size + 1) 3 We v' (pre.map (Value.int .i64) ++ [.int .i64 x]) → (W.alloc (.cells #[.int .i64 x] 3)).grownBy We v.ownBlock → KeepsFrom (w.heap.size + 1) W (We.setCell ⟨w.heap.size, 0, none⟩ v') ∧ KS (· < w.heap.size) W (We.setCell ⟨w.heap.size, 0, none⟩ v') ∧ AqI w (pre ++ [x]) (We.setCell ⟨w.heap.size, 0, none⟩ v')) :=
      fun We v' => AqI.next hbw hsz hbox hown
    have HLO : Hid (∀ We, (W.alloc (.cells #[.int .i64 x] 3)).grownBy We v.ownBlock → KS (· < w.heap.size + 1) W We) := fun We hg b (hb : b < w.heap.size + 1) => (hg.block b (by rw [World.size_alloc]; show b < W.heap.size + 1; omega) (fun e => by have := (ownBlock_lt hown e.symm).1; omega)).trans (Below.heap_alloc W _ b (by show b < W.heap.size; omega))
    obtain ⟨i0, hi, hz0, hz1, hz2⟩ := info_parts Tryz.infoI
    have how1 : W.ownsRow (w.heap.size + 1) 3 1 v pre.length (pre.map (Value.int .i64)) := by have h := hown; unfold Owns at h; rwa [List.length_map] at h
    obtain ⟨q1, q2⟩ := hf0 W (KS.refl _ _)
    clear hf0 hbw hbox hown hb0
    gi_wp2_with (first
      | (gi_at_builtin; refine wpListIn_append_own _ rfl _ _ 26 rfl (w.heap.size + 1) 3 i0 (.int .i64 0) 1 8 Tryz.underlying26 hi hz0 hz1 hz2 rfl (by decide) _ _ _ rfl (how1.alloc _) ⟨W.heap.size, 0, none⟩ 1 1 [.int .i64 x] rfl rfl (cell_one_new _ _ _) (by simp [Value.oneCell']) (by unfold maxLen; omega) (by omega) (by rw [World.size_alloc]; omega) ?_; intro v' w3 hown' hg3 hnil3
         have how3 : Owns (w.heap.size + 1) 3 w3 v' (pre.map (Value.int .i64) ++ [.int .i64 x]) := by unfold Owns; rw [List.length_append, List.length_map]; exact hown'
         obtain ⟨vp, vc, rfl, _⟩ := how3.form (n := pre.length + 1) (by simp)
         have HFIN := Lib.hid (HNX.out w3 _ how3 hg3)
         obtain ⟨q3, q4⟩ := HF0.out w3 (HLO.out w3 hg3)
         clear hown' hg3 hnil3 how3 q1 q2 HNX HLO HF0 how1)
      | (rw [Oper.semAt_eq _ _ _ (fun c h => by cases h)]; go_simp; try go_bits))
    have hfin := HFIN.out
    rw [hz6]
    exact hfin
  · rintro D ys W hD rfl ⟨hbw, hsz, v, hbox, hown⟩ hK
    have hb0 : W.cell? ⟨w.heap.size, 0, none⟩ = some v := by simp [World.cell?, hbox]
    gi_wp2_with fail
    have hq : ∀ b, b ≠ D → (W.putObj D (.deferred none)).heap[b]? = W.heap[b]? := fun b hb => World.putObj_heap_other hb
    refine ⟨by simp, .inl ⟨_, _, rfl, run_takeDeferred hK, ?_⟩⟩
    refine ⟨v, by simp [results, Tryz.results195, go_sem], ⟨hbw.os, hbw.tape, hbw.output, by have h := hbw.size; simpa using h, fun b hb => (hq b (by omega)).trans (hbw.block b hb)⟩, v, rfl, ?_⟩
    refine Owns.mono_baseZ (hown.sameZ fun b hb => hq b (fun e => ?_)) (Nat.le_succ _)
    obtain ⟨c, hc⟩ := hown.typedV hb
    subst e; rw [hK] at hc; cases hc
  · rintro D c pre W _ _ h _
    exact h.elim
end Go.Proofs.YtpjijbophjdgaaaGreat
namespace Go.Proofs.YtpjijbophjdgaaaGreat
open Go.RowKit Go.Deep
end Go.Proofs.YtpjijbophjdgaaaGreat
namespace Go.Proofs.YtpjijbophjdgaaaGreat
open Go.RowKit Go.Deep
end Go.Proofs.YtpjijbophjdgaaaGreat
namespace Go.Proofs.YtpjijbophjdgaaaGreat
open Go.RowKit Go.Deep
end Go.Proofs.YtpjijbophjdgaaaGreat
namespace Go.Proofs.YtpjijbophjdgaaaGreat
open Go.RowKit Go.Deep
end Go.Proofs.YtpjijbophjdgaaaGreat
namespace Go.Proofs.YtpjijbophjdgaaaGreat
open Go.RowKit Go.Deep
theorem Tryz.sizeNd : ∀ w, (Go.sizeOf 115).run Tryz.prog w = .ok 3 w := Tryz.sizeOf115
structure FUp (n : Nat) (A : Nat → Nat) (kv : Nat → Value) (w w' : World) : Prop where
  os : w'.os = w.os
  tape : w'.tape = w.tape
  output : w'.output = w.output
  size : w.heap.size ≤ w'.heap.size
  block : ∀ b, b < w.heap.size → (∀ i, i < n → b ≠ A i) → (∀ i, i < n → (kv i).ownBlock ≠ some b) → w'.heap[b]? = w.heap[b]?
section
variable {n base : Nat} {A : Nat → Nat} {kv : Nat → Value} {F : Frs} {a b c : World}
theorem FUp.refl (n : Nat) (A : Nat → Nat) (kv : Nat → Value) (w : World) : FUp n A kv w w := ⟨rfl, rfl, rfl, Nat.le_refl _, fun _ _ _ _ => rfl⟩
theorem FUp.trans (h : FUp n A kv a b) (k : FUp n A kv b c) : FUp n A kv a c :=
  ⟨k.os.trans h.os, k.tape.trans h.tape, k.output.trans h.output, Nat.le_trans h.size k.size, fun j hj h1 h2 => (k.block j (Nat.lt_of_lt_of_le hj h.size) h1 h2).trans (h.block j hj h1 h2)⟩
theorem FUp.of_up (h : Up a b) : FUp n A kv a b := ⟨h.os, h.tape, h.output, h.size, fun j hj _ _ => Below.block h j hj⟩
theorem FUp.below (h : FUp n A kv a b) (hF : FAt base n A kv F a) (hb : base ≤ a.heap.size) : Below base a b :=
  ⟨h.os, h.tape, h.output, h.size, fun j hj => h.block j (by omega) (fun i hi e => by have := hF.lo i hi; omega) (fun i hi e => by have := (hF.ownlt hi e).1; omega)⟩
end
set_option maxRecDepth 100000 in
set_option maxHeartbeats 400000 in
theorem sorted1_t (w : World) (bx m0 x y : Nat) (l : List (Option Nat × Value)) (sx sy : ByteArray) (hbx : w.cell? ⟨bx, 0, none⟩ = some (.map (some m0))) (hm : PMap w m0 l) (hok : ∀ z ∈ l, okKey w z.1) (hx : Plain w x) (hy : Plain w y)
    (h1 : l.lookup (some x) = some (.string sx)) (h2 : l.lookup (some y) = some (.string sy)) :
    Calls Tryz.prog 203 #[.pointer (some ⟨x, 0, none⟩), .pointer (some ⟨y, 0, none⟩), .pointer (some ⟨bx, 0, none⟩)] w fun e w' => e = .returned (.int .i64 (cmpS sx sy)) ∧ w = w' := by
  have g1 := run_pget (P := Tryz.prog) Tryz.underlying217 Tryz.underlying113 Tryz.sizeNd hm (k := some x) hx hok h1
  have g2 := run_pget (P := Tryz.prog) Tryz.underlying217 Tryz.underlying113 Tryz.sizeNd hm (k := some y) hy hok h2
  simp only [pk] at g1 g2
  clear hm hok hx hy h1 h2
  go_enter Tryz.func203, Tryz.ntmps203
  go_wp2_with (go_at_call 204; refine (Tryz.strings_Compare sx sy _).mono ?_; rintro e w' ⟨rfl, rfl⟩)
  go_ret
  exact ⟨rfl, rfl⟩
end Go.Proofs.YtpjijbophjdgaaaGreat
