/- The tree of splits: its nodes stand for nested sets; its splits; plain. The order in which split.Build takes the splits: its closure. Package intset: Intersect at sets; split.compatible, Compatible, pair, All. split.below: the iterator as a whole. The splits of the tree of splits are these splits, each once, in order: plain. split.pair, All, Compatible. -/
import Derived.Test.YtpjijbophjdgaaaGreatQ40
import Derived.Test.YtpjijbophjdgaaaGreatQ38
import Derived.Test.YtpjijbophjdgaaaGreatQ21
import Derived.Test.YtpjijbophjdgaaaGreatQ41
import Derived.Test.YtpjijbophjdgaaaGreatQ42
import Derived.Test.YtpjijbophjdgaaaGreatQ20
namespace Go.Proofs.YtpjijbophjdgaaaGreat
section
variable {names : List ByteArray} {l : List (List Int)}
end
end Go.Proofs.YtpjijbophjdgaaaGreat
namespace Go.Proofs.YtpjijbophjdgaaaGreat
open Go.RowKit Go.Deep Go.Sort
end Go.Proofs.YtpjijbophjdgaaaGreat
namespace Go.Proofs.YtpjijbophjdgaaaGreat
open Go.RowKit Go.Shelf Go.Deep
set_option maxRecDepth 100000 in
set_option maxHeartbeats 1000000 in
theorem combine_t (S : Nat → Prop) (w : World) (v u : Value) (a b : List Int) (h : IntsAt S w v a) (h2 : IntsAt S w u b) (ha : SetOk a) (hb : SetOk b) (hl : a.length ≤ 1000000) (hl2 : b.length ≤ 1000000) :
    Calls Tryz.prog 187 #[v, u, .func (.func 188) #[] #[]] w fun e w' => Up w w' ∧ ∃ u, e = .returned (.tuple #[u, .int .i64 0]) ∧ Owns w.heap.size 3 w' u ((interL a b).map (Value.int .i64)) := by
  have hu0 := Up.alloc w (.cells #[.func (.func 188) #[] #[]] 205)
  have hb0 := box1_0 w (.func (.func 188) #[] #[]) 205
  obtain ⟨p, cap, rfl, -, -⟩ := SlAt.open h
  obtain ⟨p2, cap2, rfl, -, -⟩ := SlAt.open h2
  have H : Hid (IntsAt S w (.slice p a.length cap) a) := h
  have H2 : Hid (IntsAt S w (.slice p2 b.length cap2) b) := h2
  have HA := Lib.hid ha
  have HB := Lib.hid hb
  have HU0 := Lib.hid hu0
  have HB0 := Lib.hid hb0
  have HC1 : Hid (∀ W, Up w W → Calls Tryz.prog 142 #[.slice p a.length cap] W fun e w' => e = .returned (.int .i64 0) ∧ W = w') := fun W hW => by
    have h := setCheck_t S W _ a (IntsAt.keep H.out (hW.kept _)) hl
    rw [setErr_zero.2 ha] at h; exact h
  have HC2 : Hid (∀ W, Up w W → Calls Tryz.prog 142 #[.slice p2 b.length cap2] W fun e w' => e = .returned (.int .i64 0) ∧ W = w') := fun W hW => by
    have h := setCheck_t S W _ b (IntsAt.keep H2.out (hW.kept _)) hl2
    rw [setErr_zero.2 hb] at h; exact h
  have REST : Hid (∀ w3 B1 B2 b5 b8 b9 c1 c2, Up w w3 → w3.cell? ⟨B1, 0, none⟩ = some (.int .i64 64) → w3.cell? ⟨B2, 0, none⟩ = some (.func (.func 217) #[] #[.pointer (some ⟨b5, 0, none⟩), .pointer (some ⟨b8, 0, none⟩), .pointer (some ⟨b9, 0, none⟩)]) → w3.cell? ⟨b5, 0, none⟩ = some (.func (.func 188) #[] #[]) →
      w3.cell? ⟨b8, 0, none⟩ = some (.func (.func 193) #[] #[.pointer (some ⟨c1, 0, none⟩)]) → w3.cell? ⟨b9, 0, none⟩ = some (.func (.func 193) #[] #[.pointer (some ⟨c2, 0, none⟩)]) → w3.cell? ⟨c1, 0, none⟩ = some (.slice p a.length cap) → w3.cell? ⟨c2, 0, none⟩ = some (.slice p2 b.length cap2) →
      Calls Tryz.prog 156 #[.func (.func 196) #[] #[.pointer (some ⟨B1, 0, none⟩), .pointer (some ⟨B2, 0, none⟩)]] w3 (AqPost w3 (interL a b))) := fun w3 B1 B2 b5 b8 b9 c1 c2 hu q1 q2 q5 q8 q9 r1 r2 => by
    have hks : ∀ W', KS (· < w3.heap.size) w3 W' → ∀ b o x, w3.cell? ⟨b, o, none⟩ = some x → W'.cell? ⟨b, o, none⟩ = some x := fun W' hW b o x hc => (hW.cell (p := ⟨b, o, none⟩) (World.block_lt_of_cell? w3 _ hc)).trans hc
    refine collectM_t w3 B1 B2 64 (Nat.le_refl _) (fun x => a.contains x && b.contains x) 217 _ (enters_of Tryz.func217 (by kernel_rfl) rfl) q1 q2 fun k hk W' hW' => ?_
    exact inter1_t (· < w3.heap.size) W' b5 b8 b9 c1 c2 _ _ a b k (hks W' hW' _ _ _ q5) (hks W' hW' _ _ _ q8) (hks W' hW' _ _ _ q9) (hks W' hW' _ _ _ r1) (SlAt.keep (IntsAt.sub (IntsAt.keep H.out (hu.kept _)) fun b _ hb => hb) fun b hb _ => hW' b hb) hl HA.out.asc (hks W' hW' _ _ _ r2) (SlAt.keep (IntsAt.sub (IntsAt.keep H2.out (hu.kept _)) fun b _ hb => hb) fun b hb _ => hW' b hb) hl2 HB.out.asc
  have FIN : Hid (∀ w3 e w', Up w w3 → AqPost w3 (interL a b) e w' → ∃ u, e = .returned u ∧ Up w w' ∧ Owns w.heap.size 3 w' u ((interL a b).map (Value.int .i64))) := fun w3 e w' hu ⟨h1, u, he, h2⟩ => ⟨u, he, hu.trans h1, by
    obtain ⟨hl, h | ⟨g, cap, cur, hv, hg, hc, hr⟩⟩ := h2
    · exact ⟨hl, .inl h⟩
    · exact ⟨hl, .inr ⟨g, cap, cur, hv, Nat.le_trans hu.size hg, hc, hr⟩⟩⟩
  clear h h2 ha hb hu0 hb0
  go_enter Tryz.func187, Tryz.ntmps187
  go_wp2_with fail
  generalize w.alloc (.cells #[.func (.func 188) #[] #[]] 205) = w0 at *
  refine (HC1.out w0 HU0.out).mono ?_
  rintro e w0' ⟨rfl, rfl⟩
  go_wp2_with fail
  refine (HC2.out w0 HU0.out).mono ?_
  rintro e w0' ⟨rfl, rfl⟩
  go_wp2_with fail
  refine (has_t _ _ _ _).mono ?_
  rintro e w1 ⟨rfl, hw1⟩
  have hu1 := Up.alloc w0 (.cells #[.slice p a.length cap] 26)
  have hb1 := box1_0 w0 (.slice p a.length cap) 26
  rw [← hw1] at hu1 hb1
  have HU1 := Lib.hid hu1
  have HB1 := Lib.hid hb1
  clear hw1 hu1 hb1
  go_wp2_with fail
  refine (has_t _ _ _ _).mono ?_
  rintro e w2 ⟨rfl, hw2⟩
  have hu2 := Up.alloc w1 (.cells #[.slice p2 b.length cap2] 26)
  have hb2 := box1_0 w1 (.slice p2 b.length cap2) 26
  rw [← hw2] at hu2 hb2
  have HU2 := Lib.hid hu2
  have HB2 := Lib.hid hb2
  clear hw2 hu2 hb2
  go_wp2_with fail
  obtain ⟨t1, t2, t3⟩ := two_boxes w2 (.func (.func 193) #[] #[.pointer (some ⟨w0.heap.size, 0, none⟩)]) (.func (.func 193) #[] #[.pointer (some ⟨w1.heap.size, 0, none⟩)]) 78 78
  generalize (w2.alloc (.cells #[.func (.func 193) #[] #[.pointer (some ⟨w0.heap.size, 0, none⟩)]] 78)).alloc (.cells #[.func (.func 193) #[] #[.pointer (some ⟨w1.heap.size, 0, none⟩)]] 78) = w3 at *
  refine (members_t _ _ _ _).mono ?_
  rintro e w4 ⟨rfl, hw4⟩
  obtain ⟨m1, m2, m3⟩ := two_boxes w3 (.int .i64 64) (.func (.func 217) #[] #[.pointer (some ⟨w.heap.size, 0, none⟩), .pointer (some ⟨w2.heap.size, 0, none⟩), .pointer (some ⟨w2.heap.size + 1, 0, none⟩)]) 3 78
  rw [← hw4] at m1 m2 m3
  have h24 := t1.trans m1
  have h14 := HU2.out.trans h24
  have h04 := HU1.out.trans h14
  have HU4 : Hid (Up w w4) := HU0.out.trans h04
  have HR := Lib.hid (REST.out w4 _ _ _ _ _ _ _ HU4.out m2 m3 (h04.cell HB0.out) (m1.cell t2) (m1.cell t3) (h14.cell HB1.out) (h24.cell HB2.out))
  clear hw4 m1 m2 m3 t1 t2 t3 h24 h14 h04
  go_wp2_with fail
  refine HR.out.mono ?_
  rintro e w5 hp
  obtain ⟨u, rfl, h4, h5⟩ := FIN.out w4 e w5 HU4.out hp
  have H4 := Lib.hid h4
  have H5 := Lib.hid h5
  clear hp h4 h5
  go_wp2_with fail
  exact ⟨rfl, .tuple #[_, _], by simp [results, Tryz.results187, go_sem], H4.out, _, rfl, H5.out⟩
set_option maxHeartbeats 400000 in
theorem intersect_t (S : Nat → Prop) (w : World) (v u : Value) (a b : List Int) (h : IntsAt S w v a) (h2 : IntsAt S w u b) (ha : SetOk a) (hb : SetOk b) (hl : a.length ≤ 1000000) (hl2 : b.length ≤ 1000000) :
    Calls Tryz.prog 143 #[v, u] w fun e w' => Up w w' ∧ ∃ u, e = .returned (.tuple #[u, .int .i64 0]) ∧ Owns w.heap.size 3 w' u ((interL a b).map (Value.int .i64)) := by
  have HC := Lib.hid (combine_t S w v u a b h h2 ha hb hl hl2)
  obtain ⟨p, cap, rfl, -, -⟩ := SlAt.open h
  obtain ⟨p2, cap2, rfl, -, -⟩ := SlAt.open h2
  clear h h2
  go_enter Tryz.func143, Tryz.ntmps143
  go_wp2_with fail
  refine HC.out.mono ?_
  rintro e w' ⟨h1, u, rfl, h2⟩
  have H1 := Lib.hid h1
  have H2 := Lib.hid h2
  clear h1 h2
  go_wp2_with fail
  exact ⟨rfl, .tuple #[_, _], by simp [results, Tryz.results143, go_sem], H1.out, _, rfl, H2.out⟩
set_option maxRecDepth 100000 in
set_option maxHeartbeats 1000000 in
theorem compat_t (S : Nat → Prop) (w : World) (v u : Value) (a b : List Int) (h : IntsAt S w v a) (h2 : IntsAt S w u b) (ha : SetOk a) (hb : SetOk b) (hl : a.length ≤ 1000000) (hl2 : b.length ≤ 1000000) :
    Calls Tryz.prog 72 #[v, u] w fun e w' => e = .returned (.bool (compB a b)) ∧ Up w w' := by
  have HC := Lib.hid (intersect_t S w v u a b h h2 ha hb hl hl2)
  have HF : Hid (compB a b = (decide ((interL a b).length = 0) || decide ((interL a b).length = a.length) || decide ((interL a b).length = b.length))) := rfl
  obtain ⟨p, cap, rfl, -, -⟩ := SlAt.open h
  obtain ⟨p2, cap2, rfl, -, -⟩ := SlAt.open h2
  have HM : Hid ((interL a b).length ≤ 64) := memK_len _ _
  clear h h2
  go_enter Tryz.func72, Tryz.ntmps72
  go_wp2_with fail
  refine HC.out.mono ?_
  rintro e w' ⟨h1, u, rfl, h2⟩
  obtain ⟨q, c, rfl, _⟩ := h2.form (n := (interL a b).length) (by rw [List.length_map])
  have H1 := Lib.hid h1
  clear h1 h2
  generalize (interL a b).length = m at *
  generalize a.length = x at *
  generalize b.length = y at *
  by_cases e0 : m = 0
  · have d : ((m : Int) == 0) = true := by simpa using e0
    have HE := Lib.hid e0
    clear e0
    go_wp2_with fail
    go_ret
    exact ⟨ret_bool (by rw [HF.out, decide_eq_true HE.out]; rfl), H1.out⟩
  have d0 : ((m : Int) == 0) = false := beq_eq_false_iff_ne.2 (by omega)
  have HE0 := Lib.hid e0
  clear e0
  by_cases e1 : m = x
  · have d1 : ((m : Int) == (x : Int)) = true := by subst e1; simp
    have HE := Lib.hid e1
    clear e1
    go_wp2_with fail
    go_ret
    exact ⟨ret_bool (by rw [HF.out, decide_eq_true HE.out]; simp), H1.out⟩
  have d1 : ((m : Int) == (x : Int)) = false := beq_eq_false_iff_ne.2 (by omega)
  have HE1 := Lib.hid e1
  clear e1
  by_cases e2 : m = y
  · have d2 : ((m : Int) == (y : Int)) = true := by subst e2; simp
    have HE := Lib.hid e2
    clear e2
    go_wp2_with fail
    go_ret
    exact ⟨ret_bool (by rw [HF.out, decide_eq_true HE.out]; simp), H1.out⟩
  · have d2 : ((m : Int) == (y : Int)) = false := beq_eq_false_iff_ne.2 (by omega)
    have HE2 := Lib.hid e2
    clear e2
    go_wp2_with fail
    go_ret
    exact ⟨ret_bool (by rw [HF.out, decide_eq_false HE0.out, decide_eq_false HE1.out, decide_eq_false HE2.out]; rfl), H1.out⟩
end Go.Proofs.YtpjijbophjdgaaaGreat
namespace Go.Proofs.YtpjijbophjdgaaaGreat
open Go.RowKit Go.Shelf Go.Deep Go.Sort
set_option maxHeartbeats 400000 in
theorem sbelow_t (w : World) (P N : Value) (mp : Option Addr) (n c : Nat) : Calls Tryz.prog 83 #[.agg #[P, N], .slice mp n c] w fun e w' => e = .returned (.func (.func 151) #[] #[.pointer (some ⟨w.heap.size, 0, none⟩), .pointer (some ⟨w.heap.size + 1, 0, none⟩)]) ∧ w' = (w.alloc (.cells #[P, N] 45)).alloc (.cells #[.slice mp n c] 43) := by
  go_enter Tryz.func83, Tryz.ntmps83
  go_wp2_with fail
  go_ret
  exact ⟨by simp, rfl⟩
section
variable {w0 : World} {t : Tre} {names : List ByteArray} {l Bt Be Bn Bq N : Nat} {J : List El → (Nat → Prop) → World → Prop}
theorem walk_all (hof : OfOk t names) (hA : AbL J)
    (hY : ∀ m pre x L W1, J pre L W1 → GvB t names x L W1 → Up w0 W1 → (∀ b, L b → w0.heap.size ≤ b ∧ b < W1.heap.size) → pre.length < N → YieldAt Fence.wide m Tryz.prog l #[x.2] W1 fun e W' =>
      e = .returned (.bool true) ∧ J (pre ++ [x]) L W' ∧ Up w0 W' ∧ W1.heap.size ≤ W'.heap.size ∧ ∀ b, (L b ∨ x.2.ownBlock = some b) → W'.heap[b]? = W1.heap[b]?) :
    ∀ (d i : Nat), t.ps.length - i ≤ d → i < t.ps.length → WalkAt w0 t names l Bt Be Bn Bq N J i
  | 0, i, hd, hi => by omega
  | d + 1, i, hd, hi => walk_step hof hA hY hi fun c hc => by
    obtain ⟨c1, c2, _⟩ := mem_kidsL.1 hc
    exact walk_all hof hA hY d c (by omega) c1
set_option maxRecDepth 100000 in
set_option maxHeartbeats 1000000 in
theorem below_seqL (m : Nat) (hof : OfOk t names) {w9 : World} {pp np mp : Option Addr} {pc nc mc : Nat} (h0t : w0.heap.size ≤ Bt) (h0n : w0.heap.size ≤ Bn)
    (hT0 : w9.cell? ⟨Bt, 0, none⟩ = some (.slice pp t.ps.length pc)) (hT1 : w9.cell? ⟨Bt, 1, none⟩ = some (.slice np t.ns.length nc)) (hBn : w9.cell? ⟨Bn, 0, none⟩ = some (.slice mp names.length mc))
    (hP : IntsAt Any w0 (.slice pp t.ps.length pc) t.ps) (hNs : StrsAt Any w0 (.slice np t.ns.length nc) t.ns) (hNm : StrsAt Any w0 (.slice mp names.length mc) names) :
    SeqL Fence.wide m Tryz.prog 151 #[.pointer (some ⟨Bt, 0, none⟩), .pointer (some ⟨Bn, 0, none⟩)] (fun x : El => #[x.2]) (GvB t names) (fun x b => x.2.ownBlock = some b) (fun xs => xs.map (·.1) = posF t 0) t.ps.length w0 w9 (fun b => b = Bt ∨ b = Bn) := by
  intro l J W hW hL9 hW9 hA hY hJ
  obtain ⟨lt1, kt1⟩ := hL9 Bt (.inl rfl)
  obtain ⟨lt2, kt2⟩ := hL9 Bn (.inr rfl)
  have wT0 := (World.cell?_of_block (a := ⟨Bt, 0, none⟩) kt1).trans hT0
  have wT1 := (World.cell?_of_block (a := ⟨Bt, 1, none⟩) kt1).trans hT1
  have wBn := (World.cell?_of_block (a := ⟨Bn, 0, none⟩) kt2).trans hBn
  have ht0 := (treeErr_zero hof.te).1
  have hu2 : Up W ((W.alloc (.cells #[.func (.yield l) #[] #[]] 39)).alloc (.cells #[.nilFunc] 169)) := (Up.alloc _ _).trans (Up.alloc _ _)
  have hnew := blk_alloc_new (W.alloc (.cells #[.func (.yield l) #[] #[]] 39)) (.cells #[.nilFunc] 169)
  rw [World.size_alloc] at hnew
  have hq2 : ((W.alloc (.cells #[.func (.yield l) #[] #[]] 39)).alloc (.cells #[.nilFunc] 169)).heap[W.heap.size]? = some (.cells #[.func (.yield l) #[] #[]] 39 (0, 0)) := by
    rw [blk_alloc_lt _ _ _ (by simp)]; exact blk_alloc_new _ _
  have hsz : ((W.alloc (.cells #[.func (.yield l) #[] #[]] 39)).alloc (.cells #[.nilFunc] 169)).heap.size = W.heap.size + 2 := by simp
  generalize hW2 : (W.alloc (.cells #[.func (.yield l) #[] #[]] 39)).alloc (.cells #[.nilFunc] 169) = W2 at *
  have hcn : W2.cell? ⟨W.heap.size + 1, 0, none⟩ = some .nilFunc := by simp [World.cell?, hnew]
  have hfn : W2.frozen? ⟨W.heap.size + 1, 0, none⟩ = false := by simp [World.frozen?, hnew]
  have hu3 : Up W (W2.setCell ⟨W.heap.size + 1, 0, none⟩ (.func (.func 152) #[] #[.pointer (some ⟨Bt, 0, none⟩), .pointer (some ⟨W.heap.size + 1, 0, none⟩), .pointer (some ⟨Bn, 0, none⟩), .pointer (some ⟨W.heap.size, 0, none⟩)])) := Below.setCell hu2 (p := ⟨W.heap.size + 1, 0, none⟩) (Nat.le_succ _) _
  have hs3 : (W2.setCell ⟨W.heap.size + 1, 0, none⟩ (.func (.func 152) #[] #[.pointer (some ⟨Bt, 0, none⟩), .pointer (some ⟨W.heap.size + 1, 0, none⟩), .pointer (some ⟨Bn, 0, none⟩), .pointer (some ⟨W.heap.size, 0, none⟩)])).heap.size = W.heap.size + 2 := by rw [World.size_setCell]; exact hsz
  have hq : (W2.setCell ⟨W.heap.size + 1, 0, none⟩ (.func (.func 152) #[] #[.pointer (some ⟨Bt, 0, none⟩), .pointer (some ⟨W.heap.size + 1, 0, none⟩), .pointer (some ⟨Bn, 0, none⟩), .pointer (some ⟨W.heap.size, 0, none⟩)])).cell? ⟨W.heap.size, 0, none⟩ = some (.func (.yield l) #[] #[]) := by
    have : (W2.setCell ⟨W.heap.size + 1, 0, none⟩ (.func (.func 152) #[] #[.pointer (some ⟨Bt, 0, none⟩), .pointer (some ⟨W.heap.size + 1, 0, none⟩), .pointer (some ⟨Bn, 0, none⟩), .pointer (some ⟨W.heap.size, 0, none⟩)])).heap[W.heap.size]? = _ := (blk_setCell_other _ _ _ _ (by show W.heap.size ≠ W.heap.size + 1; omega)).trans hq2
    simp [World.cell?, this]
  have he : (W2.setCell ⟨W.heap.size + 1, 0, none⟩ (.func (.func 152) #[] #[.pointer (some ⟨Bt, 0, none⟩), .pointer (some ⟨W.heap.size + 1, 0, none⟩), .pointer (some ⟨Bn, 0, none⟩), .pointer (some ⟨W.heap.size, 0, none⟩)])).cell? ⟨W.heap.size + 1, 0, none⟩ = some (.func (.func 152) #[] #[.pointer (some ⟨Bt, 0, none⟩), .pointer (some ⟨W.heap.size + 1, 0, none⟩), .pointer (some ⟨Bn, 0, none⟩), .pointer (some ⟨W.heap.size, 0, none⟩)]) := by
    have : (W2.setCell ⟨W.heap.size + 1, 0, none⟩ (.func (.func 152) #[] #[.pointer (some ⟨Bt, 0, none⟩), .pointer (some ⟨W.heap.size + 1, 0, none⟩), .pointer (some ⟨Bn, 0, none⟩), .pointer (some ⟨W.heap.size, 0, none⟩)])).heap[W.heap.size + 1]? = some (.cells #[.func (.func 152) #[] #[.pointer (some ⟨Bt, 0, none⟩), .pointer (some ⟨W.heap.size + 1, 0, none⟩), .pointer (some ⟨Bn, 0, none⟩), .pointer (some ⟨W.heap.size, 0, none⟩)]] 169 (0, 0)) := by
      simp [World.setCell, Array.getElem?_modify, hnew]
    simp [World.cell?, this]
  have hws := hW.size
  have hJ3 := hA [] _ (fun b => (b = Bt ∨ b = Bn) ∨ b = W.heap.size ∨ b = W.heap.size + 1) W _ hJ ⟨hu3.os, hu3.tape, hu3.output, hu3.size, fun b hb _ => Below.block hu3 b hb, fun b hb => hb.imp (fun e => ⟨e, by rcases e with rfl | rfl <;> omega⟩) (fun e => by rw [hs3]; omega)⟩
  have hCALL := walk_all (N := t.ps.length) (Be := W.heap.size + 1) (Bq := W.heap.size) hof hA (fun m' pre x L W1 h1 h2 h3 h4 h5 => YieldAt.anyDepth rfl m' (hY pre x L W1 h1 h2 h3 h4 h5)) _ 0 (Nat.le_refl _) ht0 (m - 1) [] _ _ hJ3 (hW.trans (hu3.mono hws)) (fun b hb => by rw [hs3]; rcases hb with (rfl | rfl) | hb <;> omega) (.inr (.inl rfl)) (.inr (.inr rfl)) (.inl (.inl rfl)) (.inl (.inr rfl)) ⟨_, _, _, _, _, _, hu3.cell wT0, hu3.cell wT1, hu3.cell wBn, hP, hNs, hNm⟩ hq he (by have := pos_len hof.te; simpa using this)
  have HCALL := Lib.hid hCALL
  have hec := he
  clear hCALL hJ3 hq he hJ hu3 hu2 hY hnew hq2 hs3 hsz hA hW hws hL9 hW9
  refine callsIn_of_wp Tryz.func151 rfl trivial ?_ rfl
  simp only [Tryz.ntmps151, List.size_toArray, List.length_cons, List.length_nil, Nat.reduceAdd, Nat.reduceSub, Array.replicate_succ, Array.replicate_zero, List.push_toArray, List.append_toArray, List.nil_append, List.cons_append]
  gi_wp2
  refine ⟨trivial, fun h => (by cases h), ?_⟩
  refine HCALL.out.mono ?_
  rintro e W3 ⟨v, ys, L', rfl, h1, h2, _⟩
  gi_wp2
  go_end0
  exact ⟨⟨_, rfl⟩, ys, L', h1, by simpa using h2⟩
end
end Go.Proofs.YtpjijbophjdgaaaGreat
namespace Go.Proofs.YtpjijbophjdgaaaGreat
section
variable {names : List ByteArray} {t : Tre} {S : Nat → List Int} {l : List (List Int)}
end
end Go.Proofs.YtpjijbophjdgaaaGreat
namespace Go.Proofs.YtpjijbophjdgaaaGreat
open Go.RowKit Go.Shelf Go.Deep
def cpErr (n : Int) (a b : List Int) : Int := if splErr n a ≠ 0 then splErr n a else splErr n b
def cpB (n : Int) (a b : List Int) : Bool := decide (cpErr n a b = 0) && compB a b
set_option maxRecDepth 100000 in
set_option maxHeartbeats 1000000 in
theorem compatible_t (S : Nat → Prop) (w : World) (v u : Value) (n : Int) (a b : List Int) (h : IntsAt S w v a) (h2 : IntsAt S w u b) (hl : a.length ≤ 1000000) (hl2 : b.length ≤ 1000000) :
    Calls Tryz.prog 19 #[.int .i64 n, v, u] w fun e w' => e = .returned (.tuple #[.bool (cpB n a b), .int .i64 (cpErr n a b)]) ∧ Up w w' := by
  have HF : Hid (cpErr n a b = if splErr n a ≠ 0 then splErr n a else splErr n b) := rfl
  obtain ⟨p, cap, rfl, -, -⟩ := SlAt.open h
  obtain ⟨p2, cap2, rfl, -, -⟩ := SlAt.open h2
  have HC1 : Hid (∀ W, Up w W → Calls Tryz.prog 71 #[.int .i64 n, .slice p a.length cap] W fun e w' => e = .returned (.int .i64 (splErr n a)) ∧ W = w') := fun W hW => splCheck_t S W _ n a (IntsAt.keep h (hW.kept _)) hl
  have HC2 : Hid (∀ W, Up w W → Calls Tryz.prog 71 #[.int .i64 n, .slice p2 b.length cap2] W fun e w' => e = .returned (.int .i64 (splErr n b)) ∧ W = w') := fun W hW => splCheck_t S W _ n b (IntsAt.keep h2 (hW.kept _)) hl2
  have HCO : Hid (splErr n a = 0 → splErr n b = 0 → ∀ W, Up w W → Calls Tryz.prog 72 #[.slice p a.length cap, .slice p2 b.length cap2] W fun e w' => e = .returned (.bool (compB a b)) ∧ Up W w') := fun e1 e2 W hW => compat_t S W _ _ a b (IntsAt.keep h (hW.kept _)) (IntsAt.keep h2 (hW.kept _)) (splErr_zero.1 e1).set (splErr_zero.1 e2).set hl hl2
  have hu := Up.alloc w (.cells #[.slice p a.length cap, .slice p2 b.length cap2] 26)
  have b0 := box2_0 w (.slice p a.length cap) (.slice p2 b.length cap2) 26
  have b1 := box2_1 w (.slice p a.length cap) (.slice p2 b.length cap2) 26
  have HU := Lib.hid hu
  have HB0 := Lib.hid b0
  have HB1 := Lib.hid b1
  clear h h2 hu b0 b1
  go_enter Tryz.func19, Tryz.ntmps19
  go_wp2_with fail
  generalize w.alloc (.cells #[.slice p a.length cap, .slice p2 b.length cap2] 26) = w1 at *
  go_loop [9, 10, 15] (fun _ _ i => ∃ k : Nat, k ≤ 2 ∧ i = .int .i64 k ∧ Hid (0 < k → splErr n a = 0) ∧ Hid (1 < k → splErr n b = 0)) (fun _ _ i => 2 - (intOf i).toNat)
  case atStart => exact ⟨0, Nat.zero_le _, rfl, fun h => absurd h (Nat.lt_irrefl _), fun h => absurd h (by omega)⟩
  case round =>
    obtain ⟨k, hk, rfl, hd, hd2⟩ := hrel
    have c0 := HB0.out
    have c1 := HB1.out
    by_cases k0 : k = 0
    · subst k0
      have HC := Lib.hid (HC1.out w1 HU.out)
      clear HC1 HC2 HCO
      generalize hse : splErr n a = se at *
      by_cases h0 : se = 0
      · have HZ := Lib.hid h0
        subst h0
        go_wp2_with fail
        refine HC.out.mono ?_
        rintro e w' ⟨rfl, rfl⟩
        go_wp2_with fail
        go_round
        case rel => exact ⟨1, by omega, by go_num, fun _ => (by first | rfl | trivial), fun h => absurd h (by omega)⟩
        case measure => simp [intOf]
      · have HZ := Lib.hid h0
        have d1 : (se == 0) = false := by simpa using h0
        have d2 : (se != 0) = true := by simpa using h0
        clear h0
        go_wp2_with fail
        refine HC.out.mono ?_
        rintro e w' ⟨rfl, rfl⟩
        go_wp2_with fail
        have he : cpErr n a b = se := by rw [HF.out, if_pos HZ.out]
        exact ⟨rfl, .tuple #[.bool false, .int .i64 se], by simp [results, Tryz.results19, go_sem], by rw [show cpB n a b = false by unfold cpB; rw [decide_eq_false (by rw [he]; exact HZ.out)]; rfl, he], HU.out⟩
    by_cases k1 : k = 1
    · subst k1
      have HC := Lib.hid (HC2.out w1 HU.out)
      have HA := Lib.hid (hd.out (by omega))
      clear HC1 HC2 HCO
      generalize hse : splErr n b = se at *
      by_cases h0 : se = 0
      · have HZ := Lib.hid h0
        subst h0
        go_wp2_with fail
        refine HC.out.mono ?_
        rintro e w' ⟨rfl, rfl⟩
        go_wp2_with fail
        go_round
        case rel => exact ⟨2, by omega, by go_num, fun _ => HA.out, fun _ => (by first | rfl | trivial)⟩
        case measure => simp [intOf]
      · have HZ := Lib.hid h0
        have d1 : (se == 0) = false := by simpa using h0
        have d2 : (se != 0) = true := by simpa using h0
        clear h0
        go_wp2_with fail
        refine HC.out.mono ?_
        rintro e w' ⟨rfl, rfl⟩
        go_wp2_with fail
        have he : cpErr n a b = se := by rw [HF.out, if_neg (fun e => e HA.out)]
        exact ⟨rfl, .tuple #[.bool false, .int .i64 se], by simp [results, Tryz.results19, go_sem], by rw [show cpB n a b = false by unfold cpB; rw [decide_eq_false (by rw [he]; exact HZ.out)]; rfl, he], HU.out⟩
    · obtain rfl : k = 2 := by omega
      have e1 := hd.out (by omega)
      have e2 := hd2.out (by omega)
      have HE : Hid (cpErr n a b = 0) := by unfold Hid; rw [HF.out, if_neg (fun e => e e1)]; exact e2
      have HQ := Lib.hid (HCO.out e1 e2 w1 HU.out)
      clear e1 e2 c0 c1
      generalize hcb : compB a b = cb at *
      have HCB := Lib.hid hcb
      clear hcb
      go_wp2_with fail
      refine HQ.out.mono ?_
      rintro e w' ⟨rfl, hu⟩
      have HU2 := Lib.hid (HU.out.trans hu)
      clear hu
      go_wp2_with fail
      exact ⟨rfl, .tuple #[.bool cb, .int .i64 0], by simp [results, Tryz.results19, go_sem], by rw [show cpB n a b = cb by unfold cpB; rw [decide_eq_true HE.out, HCB.out]; rfl, HE.out], HU2.out⟩
end Go.Proofs.YtpjijbophjdgaaaGreat
