/- TopParsimonySum: plain. Three lists under way: two of ints, one of strings. Two lists of rows that grow side by side. slices.IndexFunc and ContainsFunc at lists with a function that draws. split.Of: the map of names, the closure that asks it. -/
import Derived.Test.YtcbmbhghmfehpaaGreatQ31
import Derived.Test.YtcbmbhghmfehpaaGreatQ34
import Derived.Test.YtcbmbhghmfehpaaGreatQ22
import Derived.Test.YtcbmbhghmfehpaaGreatQ24
import Derived.Test.YtcbmbhghmfehpaaGreatQ9
import Derived.Test.YtcbmbhghmfehpaaGreatQ7
import Derived.Test.YtcbmbhghmfehpaaGreatQ23
import Derived.Test.YtcbmbhghmfehpaaGreatQ27
namespace Go.Proofs.YtcbmbhghmfehpaaGreat
def names6 : List ByteArray := [⟨#[65]⟩, ⟨#[66]⟩, ⟨#[67]⟩, ⟨#[68]⟩, ⟨#[69]⟩, ⟨#[70]⟩]
def stC (rows : List (List Int)) (k : Nat) : List Int := rows.map fun r => gi r k % 2
theorem stC_len (rows : List (List Int)) (k : Nat) : (stC rows k).length = rows.length := List.length_map _
theorem stC_gi {rows : List (List Int)} {k i : Nat} (hi : i < rows.length) : gi (stC rows k) i = gi (gl rows i) k % 2 := by simp [stC, gi, gl, hi]
theorem stC_01 {rows : List (List Int)} {k i : Nat} (hi : i < rows.length) : gi (stC rows k) i = 0 ∨ gi (stC rows k) i = 1 := by rw [stC_gi hi]; omega
theorem stC_err {rows : List (List Int)} {k : Nat} (h : rows.length ≤ 32) : osErr (stC rows k) = 0 := os_err0 (by rw [stC_len]; exact h) fun i hi => by
  rw [stC_len] at hi
  have := stC_01 (rows := rows) (k := k) hi; omega
def chK (rows : List (List Int)) : Nat → List (List Int)
  | 0 => []
  | k + 1 => if osB (stC rows k) then chK rows k ++ [stC rows k] else chK rows k
def spK (rows : List (List Int)) : Nat → List (List Int)
  | 0 => []
  | k + 1 => if osB (stC rows k) then spK rows k ++ [osO (stC rows k) (stC rows k).length] else spK rows k
theorem chK_len (rows : List (List Int)) : ∀ k, (chK rows k).length ≤ k ∧ (spK rows k).length = (chK rows k).length
  | 0 => ⟨Nat.le_refl _, rfl⟩
  | k + 1 => by
    obtain ⟨h1, h2⟩ := chK_len rows k
    rw [chK, spK]
    split
    · simp [h2]; omega
    · exact ⟨by omega, h2⟩
theorem mem_chK {rows : List (List Int)} {x : List Int} : ∀ {k}, x ∈ chK rows k → ∃ j, j < k ∧ x = stC rows j ∧ osB (stC rows j) = true ∧ osO (stC rows j) (stC rows j).length ∈ spK rows k
  | 0, h => by cases h
  | k + 1, h => by
    rw [chK] at h
    rw [spK]
    by_cases c : osB (stC rows k) = true
    · rw [if_pos c] at h ⊢
      rcases List.mem_append.1 h with h | h
      · obtain ⟨j, h1, h2, h3, h4⟩ := mem_chK h
        exact ⟨j, by omega, h2, h3, List.mem_append_left _ h4⟩
      · have := List.mem_singleton.1 h
        exact ⟨k, by omega, this, c, by simp⟩
    · rw [if_neg c] at h ⊢
      obtain ⟨j, h1, h2, h3, h4⟩ := mem_chK h
      exact ⟨j, by omega, h2, h3, h4⟩
theorem spK_ok {rows : List (List Int)} (h32 : rows.length ≤ 32) {s : List Int} : ∀ {k}, s ∈ spK rows k → SplOk rows.length s
  | 0, h => by cases h
  | k + 1, h => by
    rw [spK] at h
    by_cases c : osB (stC rows k) = true
    · rw [if_pos c] at h
      rcases List.mem_append.1 h with h | h
      · exact spK_ok h32 h
      · have e := List.mem_singleton.1 h
        have := osO_spl (stC_err h32) ((os_iff (stC_err h32)).1 c)
        rw [stC_len] at this
        rw [e, stC_len]; exact this
    · rw [if_neg c] at h
      exact spK_ok h32 h
theorem nm6_ok {n : Nat} (h4 : 4 ≤ n) (h6 : n ≤ 6) : firstNZ (bnErr (names6.take n)) (names6.take n).length = 0 := by
  have : n = 4 ∨ n = 5 ∨ n = 6 := by omega
  rcases this with rfl | rfl | rfl <;> decide +kernel
theorem nm6_len {n : Nat} (h6 : n ≤ 6) : (names6.take n).length = n := by rw [List.length_take]; show min n 6 = n; omega
theorem sum_bld {rows : List (List Int)} (h4 : 4 ≤ rows.length) (h6 : rows.length ≤ 6) {k : Nat} (hk : k ≤ 6) :
    bldErr (names6.take rows.length) (spK rows k) = (if 0 ≤ pairI (spK rows k) then 17 else 0) ∧ allErr (rows.length : Int) (spK rows k) = 0 := by
  have hl := chK_len rows k
  have hs : firstNZ (fun j => splErr (rows.length : Int) (gl (spK rows k) j)) (spK rows k).length = 0 := firstNZ_zero fun j hj => splErr_zero.2 (spK_ok (by omega) (gl_in hj))
  constructor
  · unfold bldErr
    rw [nm6_len h6, if_neg (by omega), if_neg (by omega)]
    have h1 := nm6_ok h4 h6
    rw [nm6_len h6] at h1
    rw [if_neg (by rw [h1]; decide), if_neg (by rw [hs]; decide)]
  · unfold allErr
    rw [if_neg (by omega), if_neg (by omega)]; exact hs
theorem sum_law {rows : List (List Int)} (h6 : rows.length ≤ 6) {k : Nat} (h : bldErr (names6.take rows.length) (spK rows k) = 0) :
    OfOk (bldR (names6.take rows.length) (spK rows k)) (names6.take rows.length) ∧ treeErr (bldR (names6.take rows.length) (spK rows k)) = 0 ∧
      ∀ st ∈ chK rows k, st.length = rows.length ∧ parErr (bldR (names6.take rows.length) (spK rows k)) (ownP (bldR (names6.take rows.length) (spK rows k)) (names6.take rows.length) st (leavesL (bldR (names6.take rows.length) (spK rows k)).ns).length) (unitL 16) = 0 ∧
        scoreN (bldR (names6.take rows.length) (spK rows k)) (ownP (bldR (names6.take rows.length) (spK rows k)) (names6.take rows.length) st (leavesL (bldR (names6.take rows.length) (spK rows k)).ns).length) (unitL 16) = 1 := by
  obtain ⟨b1, b2, b3⟩ := back_law h
  have ho := splO_ok.1 b1
  refine ⟨ho, b3, fun st hst => ?_⟩
  obtain ⟨j, _, rfl, hb, hm⟩ := mem_chK hst
  refine ⟨stC_len _ _, char_one ho (fun b hb => ?_) ?_⟩
  · rw [nm6_len h6] at hb
    exact stC_01 hb
  · rw [b2, mem_ordX, nm6_len h6]
    rw [stC_len] at hm; exact hm
end Go.Proofs.YtcbmbhghmfehpaaGreat
namespace Go.Proofs.YtcbmbhghmfehpaaGreat
open Go.RowKit Go.Deep
section
variable {B : Nat} {W W' : World} {s f n : Value} {S F : List Int} {L : List ByteArray} {g cap k : Nat}
theorem new_apart {v u : Value} {e : TypeId} {vs : List Value} (ho : Owns B e W u vs) (ha : ∀ b, v.ownBlock = some b → u.ownBlock ≠ some b) (hor : v.ownBlock = some g ∨ W.heap.size ≤ g) : ∀ b, (Value.slice (some ⟨g, 0, none⟩) k cap).ownBlock = some b → u.ownBlock ≠ some b := fun b hb hb2 => by
  injection hb with hb
  have hb : g = b := hb
  subst hb
  rcases hor with h1 | h1
  · exact ha g h1 hb2
  · have := (ownBlock_lt ho hb2).2; omega
end
end Go.Proofs.YtcbmbhghmfehpaaGreat
namespace Go.Proofs.YtcbmbhghmfehpaaGreat
open Go.RowKit Go.Deep
structure Ch2 (B : Nat) (W : World) (c s : Value) (cv sv : List Value) (C S : List (List Int)) : Prop where
  co : Owns B 26 W c cv
  so : Owns B 26 W s sv
  lc : cv.length = C.length
  ls : sv.length = S.length
  ap : ∀ b, c.ownBlock = some b → s.ownBlock ≠ some b
  rc : ∀ i, i < C.length → IntsAt (fun b => c.ownBlock ≠ some b ∧ s.ownBlock ≠ some b) W (cv.getD i undef) (gl C i)
  rs : ∀ i, i < S.length → IntsAt (fun b => c.ownBlock ≠ some b ∧ s.ownBlock ≠ some b) W (sv.getD i undef) (gl S i)
section
variable {B : Nat} {W W' : World} {c s : Value} {cv sv : List Value} {C S : List (List Int)} {g cap k : Nat}
theorem Ch2.start (B : Nat) (W : World) : Ch2 B W (.slice none 0 0) (.slice none 0 0) [] [] [] [] :=
  ⟨Owns.nil _ _ _, Owns.nil _ _ _, rfl, rfl, fun b h => (by cases h), fun i h => absurd h (Nat.not_lt_zero _), fun i h => absurd h (Nat.not_lt_zero _)⟩
theorem Ch2.up (h : Ch2 B W c s cv sv C S) (hu : Up W W') : Ch2 B W' c s cv sv C S :=
  ⟨h.co.same2 fun b hb => Below.block hu b (ownBlock_lt h.co hb).2, h.so.same2 fun b hb => Below.block hu b (ownBlock_lt h.so hb).2, h.lc, h.ls, h.ap, fun i hi => IntsAt.keep (h.rc i hi) (hu.kept _), fun i hi => IntsAt.keep (h.rs i hi) (hu.kept _)⟩
theorem row_growC {u : Value} {row : List Int} (h : IntsAt (fun b => c.ownBlock ≠ some b ∧ s.ownBlock ≠ some b) W u row) (hg : W.grownBy W' c.ownBlock) (hor : c.ownBlock = some g ∨ W.heap.size ≤ g) :
    IntsAt (fun b => (Value.slice (some ⟨g, 0, none⟩) k cap).ownBlock ≠ some b ∧ s.ownBlock ≠ some b) W' u row := by
  have h1 : IntsAt (fun b => c.ownBlock ≠ some b ∧ s.ownBlock ≠ some b ∧ g ≠ b) W u row := h.sub fun b hb hl => ⟨hb.1, hb.2, fun e => by
    subst e
    rcases hor with q | q
    · exact hb.1 q
    · omega⟩
  refine (IntsAt.keep h1 fun b hb hl => hg.block b hl fun e => hb.1 e.symm).sub fun b hb _ => ⟨fun e => ?_, hb.2.1⟩
  have e : (some g : Option Nat) = some b := e
  injection e with e
  exact hb.2.2 e
theorem row_growS {u : Value} {row : List Int} (h : IntsAt (fun b => c.ownBlock ≠ some b ∧ s.ownBlock ≠ some b) W u row) (hg : W.grownBy W' s.ownBlock) (hor : s.ownBlock = some g ∨ W.heap.size ≤ g) :
    IntsAt (fun b => c.ownBlock ≠ some b ∧ (Value.slice (some ⟨g, 0, none⟩) k cap).ownBlock ≠ some b) W' u row := by
  have h1 : IntsAt (fun b => c.ownBlock ≠ some b ∧ s.ownBlock ≠ some b ∧ g ≠ b) W u row := h.sub fun b hb hl => ⟨hb.1, hb.2, fun e => by
    subst e
    rcases hor with q | q
    · exact hb.2 q
    · omega⟩
  refine (IntsAt.keep h1 fun b hb hl => hg.block b hl fun e => hb.2.1 e.symm).sub fun b hb _ => ⟨hb.1, fun e => ?_⟩
  have e : (some g : Option Nat) = some b := e
  injection e with e
  exact hb.2.2 e
theorem getD_app {l : List Value} {u : Value} {i : Nat} (hi : i < l.length) : (l ++ [u]).getD i undef = l.getD i undef := by
  simp [List.getD_eq_getElem?_getD, List.getElem?_append_left hi]
theorem getD_end {l : List Value} {u : Value} {n : Nat} (hn : n = l.length) : (l ++ [u]).getD n undef = u := by
  subst hn; simp [List.getD_eq_getElem?_getD]
theorem gl_app {l : List (List Int)} {r : List Int} {i : Nat} (hi : i < l.length) : gl (l ++ [r]) i = gl l i := by
  simp [gl, List.getD_eq_getElem?_getD, List.getElem?_append_left hi]
theorem gl_end {l : List (List Int)} {r : List Int} : gl (l ++ [r]) l.length = r := by simp [gl, List.getD_eq_getElem?_getD]
theorem Ch2.appC (h : Ch2 B W c s cv sv C S) {u : Value} {row : List Int} (hr : IntsAt (fun b => c.ownBlock ≠ some b ∧ s.ownBlock ≠ some b) W u row)
    (ho : Owns B 26 W' (.slice (some ⟨g, 0, none⟩) k cap) (cv ++ [u])) (hg : W.grownBy W' c.ownBlock) (hor : c.ownBlock = some g ∨ W.heap.size ≤ g) :
    Ch2 B W' (.slice (some ⟨g, 0, none⟩) k cap) s (cv ++ [u]) sv (C ++ [row]) S :=
  ⟨ho, h.so.same2 fun b hb => hg.block b (ownBlock_lt h.so hb).2 (fun e => h.ap b e.symm hb), by rw [List.length_append, List.length_append, h.lc]; rfl, h.ls, new_apart h.so h.ap hor,
    fun i hi => by
      rw [List.length_append] at hi
      by_cases e : i < C.length
      · rw [getD_app (by rw [h.lc]; exact e), gl_app e]; exact row_growC (h.rc i e) hg hor
      · have : i = C.length := by simp at hi; omega
        subst this
        rw [getD_end h.lc.symm, gl_end]; exact row_growC hr hg hor,
    fun i hi => row_growC (h.rs i hi) hg hor⟩
theorem Ch2.appS (h : Ch2 B W c s cv sv C S) {u : Value} {row : List Int} (hr : IntsAt (fun b => c.ownBlock ≠ some b ∧ s.ownBlock ≠ some b) W u row)
    (ho : Owns B 26 W' (.slice (some ⟨g, 0, none⟩) k cap) (sv ++ [u])) (hg : W.grownBy W' s.ownBlock) (hor : s.ownBlock = some g ∨ W.heap.size ≤ g) :
    Ch2 B W' c (.slice (some ⟨g, 0, none⟩) k cap) cv (sv ++ [u]) C (S ++ [row]) :=
  ⟨h.co.same2 fun b hb => hg.block b (ownBlock_lt h.co hb).2 (fun e => h.ap b hb e.symm), ho, h.lc, by rw [List.length_append, List.length_append, h.ls]; rfl, fun b hb hb2 => new_apart h.co (fun b h1 h2 => h.ap b h2 h1) hor b hb2 hb,
    fun i hi => row_growS (h.rc i hi) hg hor,
    fun i hi => by
      rw [List.length_append] at hi
      by_cases e : i < S.length
      · rw [getD_app (by rw [h.ls]; exact e), gl_app e]; exact row_growS (h.rs i e) hg hor
      · have : i = S.length := by simp at hi; omega
        subst this
        rw [getD_end h.ls.symm, gl_end]; exact row_growS hr hg hor⟩
theorem Ch2.rowsC (h : Ch2 B W c s cv sv C S) : RowsAt Any W c C := ⟨fun i => cv.getD i undef, by
  have := h.co.slAt
  rw [h.lc] at this
  exact this.sub fun _ _ _ => trivial, fun i hi => (h.rc i hi).sub fun _ _ _ => trivial⟩
theorem Ch2.rowsS (h : Ch2 B W c s cv sv C S) : RowsAt Any W s S := ⟨fun i => sv.getD i undef, by
  have := h.so.slAt
  rw [h.ls] at this
  exact this.sub fun _ _ _ => trivial, fun i hi => (h.rs i hi).sub fun _ _ _ => trivial⟩
end
end Go.Proofs.YtcbmbhghmfehpaaGreat
namespace Go.Proofs.YtcbmbhghmfehpaaGreat
open Go.RowKit Go.Deep
end Go.Proofs.YtcbmbhghmfehpaaGreat
namespace Go.Proofs.YtcbmbhghmfehpaaGreat
open Go.RowKit Go.Deep
def smK (names : List ByteArray) : Nat → List (ByteArray × Value)
  | 0 => []
  | k + 1 => putS (smK names k) (gs names k) (.bool true)
def inNm (names : List ByteArray) (k : Nat) (s : ByteArray) : Bool := (List.range k).any fun j => decide (gs names j = s)
theorem smK_uniq (names : List ByteArray) : ∀ k, UniqS (smK names k)
  | 0 => List.nodup_nil
  | k + 1 => putS_uniq (smK_uniq names k) _ _
theorem smK_look (names : List ByteArray) (s : ByteArray) : ∀ k, ((smK names k).lookup s).getD (.bool false) = .bool (inNm names k s)
  | 0 => rfl
  | k + 1 => by
    rw [smK, lookup_putS]
    have e : inNm names (k + 1) s = (inNm names k s || decide (gs names k = s)) := by unfold inNm; rw [List.range_succ, List.any_append]; simp
    rw [e]
    by_cases h : s = gs names k
    · rw [if_pos h, decide_eq_true h.symm]; simp
    · rw [if_neg h, smK_look names s k, decide_eq_false (fun q => h q.symm)]; simp
theorem inNm_fd (names : List ByteArray) (s : ByteArray) : inNm names names.length s = !decide (fdN names s < 0) := by
  have h1 : decide (0 ≤ fdN names s) = (List.range names.length).any fun j => decide (s = gs names j) := firstIx_any _ _
  have h2 : inNm names names.length s = (List.range names.length).any fun j => decide (s = gs names j) := by
    unfold inNm
    congr 1
    funext j
    by_cases e : gs names j = s
    · rw [decide_eq_true e, decide_eq_true e.symm]
    · rw [decide_eq_false e, decide_eq_false fun q => e q.symm]
  rw [h2, ← h1]
  by_cases h : fdN names s < 0
  · rw [decide_eq_true h, decide_eq_false (by omega)]; rfl
  · rw [decide_eq_false h, decide_eq_true (by omega)]; rfl
theorem zero_bool (w : World) : (zeroValue 4).run Tryz.prog w = .ok (.bool false) w := by simp [Tryz.zeroValue4]
set_option maxRecDepth 100000 in
set_option maxHeartbeats 1000000 in
theorem of1_t (w : World) (S : Nat → Prop) (b8 bt mb : Nat) (np : Option Addr) (nc : Nat) (ns names : List ByteArray) (k : Nat) (h8 : w.cell? ⟨b8, 0, none⟩ = some (.map (some mb))) (hm : SMap w mb (smK names names.length)) (ht : w.cell? ⟨bt, 1, none⟩ = some (.slice np ns.length nc)) (hN : StrsAt S w (.slice np ns.length nc) ns) (hk : k < ns.length) :
    FnD 89 #[.pointer (some ⟨b8, 0, none⟩), .pointer (some ⟨bt, 0, none⟩)] #[.int .i64 (k : Int)] (.bool (decide (fdN names (gs ns k) < 0))) w := by
  intro m
  show Calls Tryz.prog 89 #[.int .i64 (k : Int), .pointer (some ⟨b8, 0, none⟩), .pointer (some ⟨bt, 0, none⟩)] (w.drewN m) _
  have hd := Up.drewN w m
  obtain ⟨nb, no, rfl, c4⟩ := strs_get hN hk
  have c1 := hd.cell h8
  have c2 := hd.cell ht
  have c4 := hd.cell c4
  have k1 : (0 : Int) ≤ (k : Int) := Int.natCast_nonneg _
  have k2 : (k : Int) < (ns.length : Int) := Int.ofNat_lt.2 hk
  have hlk : ∀ n, (Instr.lookup 110 (.map (some mb)) (.string (gs ns k)) false).run Tryz.prog ((w.drewN m).drewN n) = .ok (.bool (!decide (fdN names (gs ns k) < 0))) ((w.drewN m).drewN n) := fun n => by
    have hm2 : SMap ((w.drewN m).drewN n) mb (smK names names.length) := hm.same rfl
    have h := run_slook (P := Tryz.prog) Tryz.underlying110 Tryz.underlying9 (zero_bool _) hm2 (gs ns k)
    rw [smK_look, inNm_fd] at h
    exact h
  obtain ⟨W, hW⟩ : ∃ W, W = w.drewN m := ⟨_, rfl⟩
  have HW := Lib.hid hW
  rw [← hW] at c1 c2 c4 hlk ⊢
  clear hd h8 hm ht hN hk hW
  generalize gs ns k = s at *
  generalize decide (fdN names s < 0) = b at *
  go_enter Tryz.func89, Tryz.ntmps89
  go_wp2_with fail
  go_big_quiet (fail)
  go_wp2_with fail
  go_ret
  exact ⟨by cases b <;> rfl, m + nq, by rw [HW.out, World.drewN_drewN]⟩
end Go.Proofs.YtcbmbhghmfehpaaGreat
