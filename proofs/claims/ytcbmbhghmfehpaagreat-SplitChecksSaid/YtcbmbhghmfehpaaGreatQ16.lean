/- Texts of rose trees, plain: what the machine reads is the text of the result, and the other way round. phylotree.nodes again: the row of nodes lies apart from the forest. -/
import Derived.Test.YtcbmbhghmfehpaaGreatQ15
import Derived.Test.YtcbmbhghmfehpaaGreatQ6
namespace Go.Proofs.YtcbmbhghmfehpaaGreat
theorem ia_pos {c : UInt8} {s : List UInt8} (h : c ∉ sp4) : Lib.indexAny (c :: s) sp4 < 0 ∨ 1 ≤ Lib.indexAny (c :: s) sp4 := by
  have hc : sp4.contains c = false := by
    cases e : sp4.contains c with
    | false => rfl
    | true => exact absurd (List.contains_iff_mem.1 e) h
  rw [Lib.indexAny, hc]
  have := Lib.indexAny_ge sp4 s
  by_cases e : Lib.indexAny s sp4 = -1
  · left; simp [e]
  · right; rw [if_neg (by simp), if_neg (by simpa using e)]; omega
theorem not_sp4 {c : UInt8} (h1 : c ≠ 40) (h2 : c ≠ 41) (h3 : c ≠ 44) (h4 : c ≠ 59) : c ∉ sp4 := by simp [sp4, h1, h2, h3, h4]
def OkP (r : RT) : Prop := ∀ s ∈ subR r, (s.kids ≠ [] → s.nm.size = 0) ∧ (s.kids = [] → s.nm.data.toList ≠ [] ∧ ∀ c ∈ s.nm.data.toList, c ∉ sp4)
theorem okp_kid {nm : ByteArray} {ks : List RT} (h : OkP (.node nm ks)) {k : RT} (hk : k ∈ ks) : OkP k := fun s hs =>
  h s (by rw [subR, subRs_flat]; exact List.mem_cons_of_mem _ (List.mem_flatMap.2 ⟨k, hk, hs⟩))
theorem okp_node {nm : ByteArray} {ks : List RT} (h0 : nm.size = 0) (h1 : ks ≠ []) (h : ∀ k ∈ ks, OkP k) : OkP (.node nm ks) := fun s hs => by
  rw [subR, subRs_flat, List.mem_cons, List.mem_flatMap] at hs
  rcases hs with rfl | ⟨k, hk, hs⟩
  · exact ⟨fun _ => h0, fun e => absurd e h1⟩
  · exact h k hk s hs
theorem okp_leaf {nm : ByteArray} (h1 : nm.data.toList ≠ []) (h : ∀ c ∈ nm.data.toList, c ∉ sp4) : OkP (.node nm []) := fun s hs => by
  rw [subR, subRs, List.mem_singleton] at hs; subst hs
  exact ⟨fun e => absurd rfl e, fun _ => ⟨h1, h⟩⟩
mutual
theorem tx_size : ∀ (r : RT), OkP r → sizeR r ≤ (txR r).length ∧ ∀ s ∈ nsR r, s.size ≤ (txR r).length
  | .node nm [], h => by
    obtain ⟨_, h1⟩ := h _ (by rw [subR]; exact List.mem_cons_self)
    have h1 : nm.data.toList ≠ [] := (h1 rfl).1
    have hl : 0 < nm.data.toList.length := List.length_pos_iff.2 h1
    rw [sizeR, sizeRs, txR, nsR, nsRs]
    refine ⟨by omega, fun s hs => ?_⟩
    rw [List.mem_singleton.1 hs, size_data]; exact Nat.le_refl _
  | .node nm (k :: ks), h => by
    obtain ⟨h1, _⟩ := h _ (by rw [subR]; exact List.mem_cons_self)
    have h1 : nm.size = 0 := h1 (by simp [RT.kids])
    obtain ⟨a1, a2⟩ := tx_size k (okp_kid h (by simp))
    obtain ⟨b1, b2⟩ := tx_sizes ks (fun q hq => okp_kid h (by simp [hq]))
    rw [sizeR, sizeRs, txR, nsR, nsRs, List.length_cons, List.length_append, List.length_append]
    refine ⟨by simp; omega, fun s hs => ?_⟩
    rcases List.mem_cons.1 hs with rfl | hs
    · omega
    · rcases List.mem_append.1 hs with hs | hs
      · have := a2 s hs; omega
      · have := b2 s hs; omega
theorem tx_sizes : ∀ (ks : List RT), (∀ k ∈ ks, OkP k) → sizeRs ks ≤ (txRs ks).length ∧ ∀ s ∈ nsRs ks, s.size ≤ (txRs ks).length
  | [], _ => ⟨by rw [sizeRs]; exact Nat.zero_le _, fun s hs => by rw [nsRs] at hs; cases hs⟩
  | k :: ks, h => by
    obtain ⟨a1, a2⟩ := tx_size k (h k (by simp))
    obtain ⟨b1, b2⟩ := tx_sizes ks (fun q hq => h q (by simp [hq]))
    rw [sizeRs, txRs, nsRs, List.length_cons, List.length_append]
    refine ⟨by omega, fun s hs => ?_⟩
    rcases List.mem_append.1 hs with hs | hs
    · have := a2 s hs; omega
    · have := b2 s hs; omega
end
def pT : List (List RT) → Bool → List UInt8
  | [], _ => []
  | [Z], _ => match Z with
    | [] => []
    | r :: _ => txR r
  | Z :: Y :: st, b => pT (Y :: st) false ++ (if Z = [] then [40] else txK Z ++ (if b then [] else [44]))
def PInv (st : List (List RT)) (b : Bool) : Prop := (∀ Z ∈ st, ∀ r ∈ Z, OkP r) ∧ st ≠ [] ∧ (b = true → ∀ Z, st.head? = some Z → Z ≠ []) ∧ (∀ Z, st.getLast? = some Z → Z.length ≤ 1 ∧ ((st.length ≠ 1 ∨ b = false) → Z = []))
theorem pT_close {Z Y : List RT} {st : List (List RT)} (h0 : Z ≠ []) (hl : st = [] → Y = []) : pT ((Y ++ [.node ByteArray.empty Z]) :: st) true = pT (Z :: Y :: st) true ++ [41] := by
  cases st with
  | nil =>
    rw [hl rfl]
    simp only [pT, List.nil_append, if_neg h0]
    rw [txR_node _ h0]; simp
  | cons X st =>
    have hne : Y ++ [RT.node ByteArray.empty Z] ≠ [] := by simp
    simp only [pT, if_neg h0, if_neg hne, if_true, txK_app, txR_node _ h0]
    by_cases hY : Y = []
    · subst hY; simp [txK]
    · have : Y.length ≠ 0 := by simpa using hY
      simp [hY]
theorem ia_take : ∀ (s : List UInt8) (n : Nat), Lib.indexAny s sp4 = (n : Int) → ∀ x ∈ s.take n, x ∉ sp4
  | [], n, h, x, hx => by simp at hx
  | c :: s, 0, _, x, hx => by simp at hx
  | c :: s, n + 1, h, x, hx => by
    rw [Lib.indexAny] at h
    cases hc : sp4.contains c with
    | true => rw [hc, if_pos rfl] at h; omega
    | false =>
      rw [hc, if_neg (by simp)] at h
      by_cases e : Lib.indexAny s sp4 = -1
      · rw [e] at h; simp at h; omega
      · rw [if_neg (by simpa using e)] at h
        rw [List.take_succ_cons, List.mem_cons] at hx
        rcases hx with rfl | hx
        · intro hm; rw [List.contains_iff_mem.2 hm] at hc; cases hc
        · exact ia_take s n (by omega) x hx
theorem ia_lt : ∀ (s : List UInt8) (n : Nat), Lib.indexAny s sp4 = (n : Int) → n < s.length
  | [], n, h => by rw [Lib.indexAny] at h; omega
  | c :: s, 0, _ => by simp
  | c :: s, n + 1, h => by
    rw [Lib.indexAny] at h
    cases hc : sp4.contains c with
    | true => rw [hc, if_pos rfl] at h; omega
    | false =>
      rw [hc, if_neg (by simp)] at h
      by_cases e : Lib.indexAny s sp4 = -1
      · rw [e] at h; simp at h; omega
      · rw [if_neg (by simpa using e)] at h
        have := ia_lt s n (by omega)
        rw [List.length_cons]; omega
theorem ba_extract (s : ByteArray) (k n : Nat) : (⟨((s.data.toList.drop k).take n).toArray⟩ : ByteArray) = s.extract k (k + n) := by
  apply ba_ext
  rw [ByteArray.data_extract]
  simp [Nat.add_sub_cancel_left]
theorem read_tx : ∀ (f : Nat) (s : List UInt8) (st : List (List RT)) (b : Bool) (r : RT), s.length < f → PInv st b → pz f s st b = some r → pT st b ++ s = txR r ++ [59] ∧ OkP r
  | 0, _, _, _, _, h, _, _ => by omega
  | f + 1, [], st, b, r, _, _, e => by cases e
  | f + 1, c :: s, st, b, r, hf, hI, e => by
    rw [List.length_cons] at hf
    obtain ⟨i1, i2, i3, i4⟩ := hI
    rw [pz] at e
    by_cases c1 : c = 40
    · rw [if_pos c1] at e
      cases b with
      | true => rw [if_pos rfl] at e; cases e
      | false =>
        rw [if_neg (by simp)] at e
        obtain ⟨h1, h2⟩ := read_tx f s ([] :: st) false r (by omega) ⟨fun Z hZ => by
          rcases List.mem_cons.1 hZ with rfl | h
          · intro r hr; cases hr
          · exact i1 Z h, by simp, (fun h => by cases h), fun Z hZ => by
            cases st with
            | nil => exact absurd rfl i2
            | cons Y st =>
              rw [List.getLast?_cons_cons] at hZ
              have := i4 Z hZ
              exact ⟨this.1, fun _ => this.2 (.inr rfl)⟩⟩ e
        refine ⟨?_, h2⟩
        rw [← h1, c1]
        cases st with
        | nil => exact absurd rfl i2
        | cons Y st => simp [pT]
    rw [if_neg c1] at e
    by_cases c2 : c = 41
    · rw [if_pos c2] at e
      by_cases hb : b = false ∨ st.length = 1
      · rw [if_pos hb] at e; cases e
      · rw [if_neg hb] at e
        have hb1 : b = true := by cases b <;> simp at hb ⊢
        subst hb1
        match st, i2, hb with
        | [], h, _ => exact absurd rfl h
        | [Z], _, h => exact absurd (.inr rfl) h
        | Z :: Y :: st, _, _ =>
          have hZ : Z ≠ [] := i3 rfl Z rfl
          have hY : st = [] → Y = [] := fun h => by subst h; exact (i4 Y rfl).2 (.inl (by simp))
          rw [show popZ (Z :: Y :: st) = (Y ++ [.node ByteArray.empty Z]) :: st from rfl] at e
          obtain ⟨h1, h2⟩ := read_tx f s ((Y ++ [.node ByteArray.empty Z]) :: st) true r (by omega) ⟨fun X hX r hr => by
            rcases List.mem_cons.1 hX with rfl | h
            · rcases List.mem_append.1 hr with h | h
              · exact i1 Y (by simp) r h
              · rw [List.mem_singleton.1 h]; exact okp_node rfl hZ fun k hk => i1 Z (by simp) k hk
            · exact i1 X (by simp [h]) r hr, by simp, (fun _ X hX => by cases hX; simp), fun X hX => by
              cases st with
              | nil =>
                cases hX; rw [hY rfl]
                exact ⟨by simp, fun h => by simp at h⟩
              | cons W st =>
                rw [List.getLast?_cons_cons] at hX
                have := i4 X (by rw [List.getLast?_cons_cons, List.getLast?_cons_cons]; exact hX)
                exact ⟨this.1, fun _ => this.2 (.inl (by simp))⟩⟩ e
          refine ⟨?_, h2⟩
          rw [← h1, pT_close hZ hY, c2]; simp
    rw [if_neg c2] at e
    by_cases c3 : c = 44
    · rw [if_pos c3] at e
      by_cases hb : b = false ∨ st.length = 1
      · rw [if_pos hb] at e; cases e
      · rw [if_neg hb] at e
        have hb1 : b = true := by cases b <;> simp at hb ⊢
        subst hb1
        match st, i2, hb with
        | [], h, _ => exact absurd rfl h
        | [Z], _, h => exact absurd (.inr rfl) h
        | Z :: Y :: st, _, _ =>
          have hZ : Z ≠ [] := i3 rfl Z rfl
          obtain ⟨h1, h2⟩ := read_tx f s (Z :: Y :: st) false r (by omega) ⟨i1, by simp, (fun h => by cases h), fun X hX => ⟨(i4 X hX).1, fun _ => (i4 X hX).2 (.inl (by simp))⟩⟩ e
          refine ⟨?_, h2⟩
          rw [← h1, c3]
          simp [pT, hZ]
    rw [if_neg c3] at e
    by_cases c4 : c = 59
    · rw [if_pos c4] at e
      by_cases hb : b = false ∨ st.length ≠ 1 ∨ s ≠ []
      · rw [if_pos hb] at e; cases e
      · rw [if_neg hb] at e
        have hb1 : b = true := by cases b <;> simp at hb ⊢
        have hs : s = [] := by simp at hb; exact hb.2.2
        have hl : st.length = 1 := by simp at hb; exact hb.2.1
        subst hb1; subst hs
        match st, hl with
        | [Z], _ =>
          have hZ : Z ≠ [] := i3 rfl Z rfl
          cases Z with
          | nil => exact absurd rfl hZ
          | cons q Z =>
            cases e
            rw [c4]
            exact ⟨rfl, i1 (q :: Z) List.mem_cons_self q List.mem_cons_self⟩
    rw [if_neg c4] at e
    by_cases c5 : b = true
    · rw [if_pos c5] at e; cases e
    rw [if_neg c5] at e
    have hb : b = false := by cases b <;> simp at c5 ⊢
    subst hb
    by_cases c6 : Lib.indexAny (c :: s) sp4 < 0
    · rw [if_pos c6] at e; cases e
    rw [if_neg c6] at e
    have hn := (ia_pos (s := s) (not_sp4 c1 c2 c3 c4)).resolve_left c6
    obtain ⟨n, hn2⟩ : ∃ n : Nat, Lib.indexAny (c :: s) sp4 = (n : Int) := ⟨(Lib.indexAny (c :: s) sp4).toNat, by omega⟩
    rw [hn2, Int.toNat_natCast] at e
    have hno : ∀ x ∈ (c :: s).take n, x ∉ sp4 := ia_take _ n hn2
    match st, i2 with
    | Z :: st, _ =>
      have hne : (c :: s).take n ≠ [] := by
        cases n with
        | zero => omega
        | succ n => simp
      rw [show ∀ q, addZ q (Z :: st) = (Z ++ [q]) :: st from fun _ => rfl] at e
      obtain ⟨h1, h2⟩ := read_tx f ((c :: s).drop n) ((Z ++ [.node ⟨((c :: s).take n).toArray⟩ []]) :: st) true r (by rw [List.length_drop, List.length_cons]; omega) ⟨fun X hX r hr => by
          rcases List.mem_cons.1 hX with rfl | h
          · rcases List.mem_append.1 hr with h | h
            · exact i1 Z (by simp) r h
            · rw [List.mem_singleton.1 h]; exact okp_leaf (by simpa using hne) (by simpa using hno)
          · exact i1 X (by simp [h]) r hr, by simp, (fun _ X hX => by cases hX; simp), fun X hX => by
            cases st with
            | nil =>
              cases hX; rw [(i4 Z rfl).2 (.inr rfl)]
              exact ⟨by simp, fun h => by simp at h⟩
            | cons W st =>
              rw [List.getLast?_cons_cons] at hX
              have := i4 X (by rw [List.getLast?_cons_cons]; exact hX)
              exact ⟨this.1, fun _ => this.2 (.inr rfl)⟩⟩ e
      refine ⟨?_, h2⟩
      rw [← h1]
      have ht : c :: s = (c :: s).take n ++ (c :: s).drop n := (List.take_append_drop _ _).symm
      cases st with
      | nil =>
        rw [(i4 Z rfl).2 (.inr rfl)]
        simp only [pT, List.nil_append, txR]
        exact ht
      | cons W st =>
        have hne2 : Z ++ [RT.node ⟨((c :: s).take n).toArray⟩ []] ≠ [] := by simp
        simp only [pT, if_neg hne2, if_true, txK_app, txR, List.append_nil]
        by_cases hZ : Z = []
        · subst hZ; simp [txK]
        · have hz : Z.length ≠ 0 := by simpa using hZ
          simp [hZ]
theorem read_text {s : List UInt8} {r : RT} (h : paR s = some r) : s = txR r ++ [59] ∧ OkP r := by
  obtain ⟨h1, h2⟩ := read_tx _ s [[]] false r (Nat.lt_succ_self _) ⟨(fun Z hZ r hr => by simp at hZ; subst hZ; cases hr), by simp, (fun h => by cases h), fun Z hZ => by cases hZ; simp⟩ h
  exact ⟨h1, h2⟩
theorem read_size {s : List UInt8} {r : RT} (h : paR s = some r) : (flat r).ps.length ≤ s.length ∧ (flat r).ns.length ≤ s.length ∧ ∀ k, (gs (flat r).ns k).size ≤ s.length := by
  obtain ⟨h1, h2⟩ := read_text h
  obtain ⟨h3, h4⟩ := tx_size r h2
  have hl : s.length = (txR r).length + 1 := by rw [h1]; simp
  refine ⟨by rw [flat_ps]; omega, by rw [flat_ns]; omega, fun k => ?_⟩
  by_cases hk : k < (nsR r).length
  · have hm : gs (nsR r) k ∈ nsR r := by simp [gs, hk]
    have := h4 _ hm
    show (gs (nsR r) k).size ≤ _
    omega
  · have : gs (flat r).ns k = ByteArray.empty := by
      show (nsR r).getD k ByteArray.empty = _
      simp [show (nsR r).length ≤ k by omega]
    rw [this]; exact Nat.zero_le _
end Go.Proofs.YtcbmbhghmfehpaaGreat
namespace Go.Proofs.YtcbmbhghmfehpaaGreat
open Go.RowKit Go.Deep
def NodesPost2 (w : World) (t : Tre) (e : Ending) (w' : World) : Prop :=
  Up w w' ∧ ∃ g A kv, w.heap.size ≤ g ∧ e = .returned (.slice (some ⟨g, 0, none⟩) t.ps.length t.ps.length) ∧ FAt (g + 1) t.ps.length A kv (frT t) w' ∧ w'.rowIs g 145 t.ps.length (nptr A)
set_option maxRecDepth 100000 in
set_option maxHeartbeats 2000000 in
theorem nodes2_t (S : Nat → Prop) (w : World) (v : Value) (t : Tre) (hT : TreeAt S w v t) (hp : t.ps.length ≤ 1000) (hn : t.ns.length = t.ps.length) (hok : pOkB t.ps = true) (hz : ∀ k, (gs t.ns k).size ≤ 70000) :
    Calls Tryz.prog 131 #[v] w (NodesPost2 w t) := by
  obtain ⟨P, N, rfl, hP, hN⟩ := hT
  obtain ⟨pP, capP, rfl, hcapP, _⟩ := SlAt.open hP
  have hP : IntsAt S w (.slice pP t.ps.length capP) t.ps := hP
  obtain ⟨pN, capN, rfl, hcapN, _⟩ := SlAt.open hN
  have hN : StrsAt S w (.slice pN t.ns.length capN) t.ns := hN
  have hmk := fun W => run_make_row' (P := Tryz.prog) 143 145 (.pointer none) 8 Tryz.underlying143 Tryz.infoNP rfl .i64 .i64 t.ps.length (by omega) (by omega) W
  have hu := Up.alloc w (.cells #[.slice pP t.ps.length capP, .slice pN t.ns.length capN] 45)
  have hb0 := box2_0 w (.slice pP t.ps.length capP) (.slice pN t.ns.length capN) 45
  have hb1 := box2_1 w (.slice pP t.ps.length capP) (.slice pN t.ns.length capN) 45
  have hu2 := Up.alloc (w.alloc (.cells #[.slice pP t.ps.length capP, .slice pN t.ns.length capN] 45)) (.cells (madeCells #[.pointer none] t.ps.length) 145)
  have HW : Hid (NdW ((w.alloc (.cells #[.slice pP t.ps.length capP, .slice pN t.ns.length capN] 45)).alloc (.cells (madeCells #[.pointer none] t.ps.length) 145)) ((w.alloc (.cells #[.slice pP t.ps.length capP, .slice pN t.ns.length capN] 45)).alloc (.cells (madeCells #[.pointer none] t.ps.length) 145)) (w.heap.size + 1) t.ps.length 0 t) := by
    refine ⟨Below.refl _ _, fun _ => 0, fun _ => .slice none 0 0, FAt.empty _ _ _ _ _, ?_⟩
    have h := World.rowIs_made (w.alloc (.cells #[.slice pP t.ps.length capP, .slice pN t.ns.length capN] 45)) (.pointer none) t.ps.length 145
    simp only [World.size_alloc] at h
    exact h
  have HUW := Lib.hid (hu.trans hu2)
  have hsz : w.heap.size + 1 + 1 = ((w.alloc (.cells #[.slice pP t.ps.length capP, .slice pN t.ns.length capN] 45)).alloc (.cells (madeCells #[.pointer none] t.ps.length) 145)).heap.size := by simp
  have HSZ := Lib.hid hsz
  have HB0 := Lib.hid (hu2.cell hb0)
  have HB1 := Lib.hid (hu2.cell hb1)
  have HP := Lib.hid hP
  have HN := Lib.hid hN
  have HNS := Lib.hid hz
  have HOK := Lib.hid hok
  have HLN := Lib.hid hn
  have hnl : (t.ps.length : Int) ≤ (t.ns.length : Int) := by omega
  clear hsz hu hb0 hb1 hu2 hP hN hz hok hn
  go_enter Tryz.func131, Tryz.ntmps131
  go_wp2_with fail
  generalize (w.alloc (.cells #[.slice pP t.ps.length capP, .slice pN t.ns.length capN] 45)).alloc (.cells (madeCells #[.pointer none] t.ps.length) 145) = w1 at *
  go_loopw [13] (fun i wr => ∃ k : Nat, k ≤ t.ps.length ∧ i = .int .i64 k ∧ Hid (NdW w1 wr (w.heap.size + 1) t.ps.length k t)) (fun i _ => t.ps.length - (intOf i).toNat)
  case atStart => exact ⟨0, Nat.zero_le _, rfl, HW⟩
  case round =>
    obtain ⟨k, hk, rfl, hO⟩ := hrel
    obtain ⟨wo, rfl⟩ : ∃ wo : World, wo = wr := ⟨_, rfl⟩
    by_cases hlt : k < t.ps.length
    · obtain ⟨hup, A, kv, hF, hrow⟩ := hO.out
      have hc0 : wo.cell? ⟨w.heap.size, 0, none⟩ = some (.slice pP t.ps.length capP) := by rw [hup.cell (p := ⟨w.heap.size, 0, none⟩) (Nat.lt_succ_self _)]; exact HB0.out
      have hc1 : wo.cell? ⟨w.heap.size, 1, none⟩ = some (.slice pN t.ns.length capN) := by rw [hup.cell (p := ⟨w.heap.size, 1, none⟩) (Nat.lt_succ_self _)]; exact HB1.out
      have hUp : Up w wo := Below.trans HUW.out (hup.mono (Nat.le_succ _))
      obtain ⟨bP, oP, rfl, hcP⟩ := ints_get (IntsAt.keep HP.out (hUp.kept S)) hlt
      obtain ⟨bN, oN, rfl, hcN⟩ := strs_get (StrsAt.keep HN.out (hUp.kept S)) (k := k) (by rw [HLN.out]; exact hlt)
      have HX := Lib.hid hO.out.new
      have hco : (wo.alloc (.cells #[.string (gs t.ns k), .slice none 0 0, .int .i64 k] 147)).cell? ⟨w.heap.size + 1, k, none⟩ = some (.pointer none) := by
        have h := (hrow.alloc (.cells #[.string (gs t.ns k), .slice none 0 0, .int .i64 k] 147)).cell hlt
        rw [h, if_neg (Nat.lt_irrefl k)]
      have hfo : (wo.alloc (.cells #[.string (gs t.ns k), .slice none 0 0, .int .i64 k] 147)).frozen? ⟨w.heap.size + 1, k, none⟩ = false := (hrow.alloc _).frozen k
      clear hF hrow hup hUp hO
      have h0 : gi t.ps k < k ∧ (0 < k → 0 ≤ gi t.ps k) ∧ (k = 0 → gi t.ps k = -1) := par_ok HOK.out hlt
      by_cases hp0 : 0 ≤ gi t.ps k
      · obtain ⟨p, hpp⟩ := Int.eq_ofNat_of_zero_le hp0
        have hpk : p < k := by omega
        rw [hpp] at hcP
        have d1 : decide ((0 : Int) ≤ (p : Int)) = true := by simp
        have HPP := Lib.hid hpp
        clear h0 hp0 hpp
        go_wp2_with fail
        generalize (wo.alloc (.cells #[.string (gs t.ns k), .slice none 0 0, .int .i64 k] 147)).setCell ⟨w.heap.size + 1, k, none⟩ (.pointer (some ⟨wo.heap.size, 0, none⟩)) = w2 at *
        obtain ⟨A, kv, hAk, hX⟩ := HX.out
        have hr1 : w2.cell? ⟨w.heap.size + 1, p, none⟩ = some (.pointer (some ⟨A p, 0, none⟩)) := by
          have h := hX.row.cell (i := p) (by omega)
          rw [if_pos (by omega)] at h; exact h
        have hr2 : w2.cell? ⟨w.heap.size + 1, k, none⟩ = some (.pointer (some ⟨A k, 0, none⟩)) := by
          have h := hX.row.cell (i := k) hlt
          rw [if_pos (by omega)] at h; exact h
        have HNK : Hid (nptr A k = .pointer (some ⟨wo.heap.size, 0, none⟩)) := by unfold Hid nptr; rw [hAk]
        rw [hAk] at hr2
        have hkc := hX.fr.kidv (i := p) (by omega)
        have hfz := hX.fr.thaw (i := p) (by omega) 1
        have HOWN : Hid (Owns (w.heap.size + 1 + 1) 145 w2 (kv p) ((kidsK t.ps p k).map (nptr A))) := by have h := hX.fr.own p (by omega); rw [frX_kids] at h; exact h
        have HXX := Lib.hid hX
        have HAP : Hid (A p ≠ w.heap.size + 1 ∧ (kv p).ownBlock ≠ some (w.heap.size + 1) ∧ (kv p).ownBlock ≠ some (A p) ∧ w.heap.size + 1 < w2.heap.size ∧ A p < w2.heap.size) := ⟨(hX.fr.far (by omega)).1, (hX.fr.far (by omega)).2, hX.fr.apart p p (by omega) (by omega), hX.row.lt, hX.fr.lt (by omega)⟩
        have i0 : (0 : Int) ≤ (p : Int) := by omega
        have i1 : (p : Int) < (t.ps.length : Int) := by omega
        have i2 : (0 : Int) ≤ (k : Int) := by omega
        have i3 : (k : Int) < (t.ps.length : Int) := by omega
        have HKL : Hid (((kidsK t.ps p k).map (nptr A)).length ≤ 1000000) := by unfold Hid; rw [List.length_map]; have := kidsK_len t.ps p k; omega
        have HPUSH : Hid (∀ g cap w', Owns (w.heap.size + 1 + 1) 145 w' (.slice (some ⟨g, 0, none⟩) (((kidsK t.ps p k).map (nptr A)).length + 1) cap) ((kidsK t.ps p k).map (nptr A) ++ [.pointer (some ⟨wo.heap.size, 0, none⟩)]) → w2.grownBy w' (kv p).ownBlock → ((kv p).ownBlock = some g ∨ w2.heap.size ≤ g) → NdW w1 (w'.setCell ⟨A p, 1, none⟩ (.slice (some ⟨g, 0, none⟩) (((kidsK t.ps p k).map (nptr A)).length + 1) cap)) (w.heap.size + 1) t.ps.length (k + 1) t) := fun g cap w' h1 h2 h3 => hX.push hpk HPP.out (by rw [HNK.out]; exact h1) h2 (fun b hb => by cases hb; exact h3)
        clear hAk hX HX hco hfo hcP hcN hc0 hc1
        generalize nptr A = na at *
        generalize hap : A p = ap at *
        generalize wo.heap.size = ak at *
        generalize kv p = ov at *
        generalize List.map na (kidsK t.ps p k) = vs at *
        have HOW2 : Hid (Owns (w.heap.size + 1 + 1) 145 (w2.alloc (.cells #[.pointer (some ⟨ak, 0, none⟩)] 145)).drew ov vs) := HOWN.out.alloc _
        have HCN : Hid ((w2.alloc (.cells #[.pointer (some ⟨ak, 0, none⟩)] 145)).drew.cell? ⟨w2.heap.size, 0, none⟩ = some (.pointer (some ⟨ak, 0, none⟩))) := cell_at_new _ _ _ 0
        have HBS : Hid (w.heap.size + 1 + 1 ≤ (w2.alloc (.cells #[.pointer (some ⟨ak, 0, none⟩)] 145)).drew.heap.size) := by
          have := HAP.out.2.2.2.1
          show _ ≤ (w2.alloc _).heap.size
          rw [World.size_alloc]; omega
        have HFAR : Hid (∀ (w' : World), (w2.alloc (.cells #[.pointer (some ⟨ak, 0, none⟩)] 145)).drew.grownBy w' ov.ownBlock → w'.cell? ⟨w.heap.size + 1, p, none⟩ = some (.pointer (some ⟨ap, 0, none⟩)) ∧ w'.cell? ⟨w.heap.size + 1, k, none⟩ = some (.pointer (some ⟨ak, 0, none⟩)) ∧ w'.cell? ⟨ap, 1, none⟩ = some ov ∧ w'.frozen? ⟨ap, 1, none⟩ = false) := fun w' hg => by
          obtain ⟨q1, q2, q3, q4, q5⟩ := HAP.out
          have hl : ∀ b, b < w2.heap.size → b < (w2.alloc (.cells #[.pointer (some ⟨ak, 0, none⟩)] 145)).drew.heap.size := fun b hb => by show b < (w2.alloc _).heap.size; rw [World.size_alloc]; omega
          have hu := Up.alloc w2 (.cells #[.pointer (some ⟨ak, 0, none⟩)] 145)
          refine ⟨?_, ?_, ?_, ?_⟩
          · rw [hg.cell_far _ (hl _ q4) (Ne.symm q2)]; exact hu.cell hr1
          · rw [hg.cell_far _ (hl _ q4) (Ne.symm q2)]; exact hu.cell hr2
          · rw [hg.cell_far _ (hl _ q5) (Ne.symm q3)]; exact hu.cell hkc
          · rw [hg.frozen_far _ (hl _ q5) (Ne.symm q3)]; exact (Below.frozen hu (p := ⟨ap, 1, none⟩) q5).trans hfz
        have hr1a := (Up.alloc w2 (.cells #[.pointer (some ⟨ak, 0, none⟩)] 145)).cell hr1
        have hr2a := (Up.alloc w2 (.cells #[.pointer (some ⟨ak, 0, none⟩)] 145)).cell hr2
        have hkca := (Up.alloc w2 (.cells #[.pointer (some ⟨ak, 0, none⟩)] 145)).cell hkc
        clear HXX
        refine region_T (by kernel_rfl) 20 (fun w' => w'.cell? ⟨w.heap.size + 1, p, none⟩ = some (.pointer (some ⟨ap, 0, none⟩)) ∧ w'.cell? ⟨w.heap.size + 1, k, none⟩ = some (.pointer (some ⟨ak, 0, none⟩)) ∧ w'.cell? ⟨ap, 1, none⟩ = some ov) ⟨hr1, hr2, hkc⟩ (fun hS => ?_)
        simp only [List.size_toArray, List.length_cons, List.length_nil, Nat.reduceAdd, Array.replicate_succ, Array.replicate_zero, List.push_toArray, List.nil_append, List.cons_append]
        refine anyT.take (i := 0) (v := ?gv0) rfl (by kernel_rfl) (fun _ _ _ h => h) (by rfl) (fun w hSw => ?gy0) hS ?gr0
        case gy0 =>
          (try dsimp only at hSw)
          go_simp
          try with_reducible rfl
        try simp only [Act.put, List.setIfInBounds_toArray, List.set_cons_zero, List.set_cons_succ]
        refine anyT.take (i := 1) (v := ?gv1) rfl (by kernel_rfl) (fun _ _ _ h => h) (by rfl) (fun w hSw => ?gy1) hS ?gr1
        case gy1 =>
          (try dsimp only at hSw)
          go_simp
          try with_reducible rfl
        try simp only [Act.put, List.setIfInBounds_toArray, List.set_cons_zero, List.set_cons_succ]
        refine anyT.take (i := 2) (v := ?gv2) rfl (by kernel_rfl) (fun _ _ _ h => h) (by rfl) (fun w hSw => ?gy2) hS ?gr2
        case gy2 =>
          (try dsimp only at hSw)
          go_simp
          try with_reducible rfl
        try simp only [Act.put, List.setIfInBounds_toArray, List.set_cons_zero, List.set_cons_succ]
        refine anyT.take (i := 3) (v := ?gv3) rfl (by kernel_rfl) (fun _ _ _ h => h) (by rfl) (fun w hSw => ?gy3) hS ?gr3
        case gy3 =>
          (try dsimp only at hSw)
          go_simp
          try with_reducible rfl
        try simp only [Act.put, List.setIfInBounds_toArray, List.set_cons_zero, List.set_cons_succ]
        refine anyT.take (i := 4) (v := ?gv4) rfl (by kernel_rfl) (fun _ _ _ h => h) (by rfl) (fun w hSw => ?gy4) hS ?gr4
        case gy4 =>
          (try dsimp only at hSw)
          go_simp
          try with_reducible rfl
        try simp only [Act.put, List.setIfInBounds_toArray, List.set_cons_zero, List.set_cons_succ]
        refine anyT.take (i := 5) (v := ?gv5) rfl (by kernel_rfl) (fun _ _ _ h => h) (by rfl) (fun w hSw => ?gy5) hS ?gr5
        case gy5 =>
          (try dsimp only at hSw)
          go_simp
          try with_reducible rfl
        try simp only [Act.put, List.setIfInBounds_toArray, List.set_cons_zero, List.set_cons_succ]
        refine anyT.take (i := 6) (v := ?gv6) rfl (by kernel_rfl) (fun _ _ _ h => h) (by rfl) (fun w hSw => ?gy6) hS ?gr6
        case gy6 =>
          (try dsimp only at hSw)
          go_simp
          try with_reducible rfl
        try simp only [Act.put, List.setIfInBounds_toArray, List.set_cons_zero, List.set_cons_succ]
        refine anyT.take (i := 7) (v := ?gv7) rfl (by kernel_rfl) (fun _ _ _ h => h) (by rfl) (fun w hSw => ?gy7) hS ?gr7
        case gy7 =>
          (try dsimp only at hSw)
          go_simp
          try with_reducible rfl
        try simp only [Act.put, List.setIfInBounds_toArray, List.set_cons_zero, List.set_cons_succ]
        refine anyT.take (i := 8) (v := ?gv8) rfl (by kernel_rfl) (fun _ _ _ h => h) (by rfl) (fun w hSw => ?gy8) hS ?gr8
        case gy8 =>
          (try dsimp only at hSw)
          go_simp
          try with_reducible rfl
        try simp only [Act.put, List.setIfInBounds_toArray, List.set_cons_zero, List.set_cons_succ]
        refine anyT.take (i := 9) (v := ?gv9) rfl (by kernel_rfl) (fun _ _ _ h => h) (by rfl) (fun w hSw => ?gy9) hS ?gr9
        case gy9 =>
          (try dsimp only at hSw)
          go_simp
          try with_reducible rfl
        try simp only [Act.put, List.setIfInBounds_toArray, List.set_cons_zero, List.set_cons_succ]
        refine anyT.take (i := 10) (v := ?gv10) rfl (by kernel_rfl) (fun _ _ _ h => h) (by rfl) (fun w hSw => ?gy10) hS ?gr10
        case gy10 =>
          (try dsimp only at hSw)
          go_simp
          try with_reducible rfl
        try simp only [Act.put, List.setIfInBounds_toArray, List.set_cons_zero, List.set_cons_succ]
        refine anyT.take (i := 11) (v := ?gv11) rfl (by kernel_rfl) (fun _ _ _ h => h) (by rfl) (fun w hSw => ?gy11) hS ?gr11
        case gy11 =>
          (try dsimp only at hSw)
          go_simp
          try with_reducible rfl
        try simp only [Act.put, List.setIfInBounds_toArray, List.set_cons_zero, List.set_cons_succ]
        refine anyT.take (i := 12) (v := ?gv12) rfl (by kernel_rfl) (fun _ _ _ h => h) (by rfl) (fun w hSw => ?gy12) hS ?gr12
        case gy12 =>
          (try dsimp only at hSw)
          go_simp
          try with_reducible rfl
        try simp only [Act.put, List.setIfInBounds_toArray, List.set_cons_zero, List.set_cons_succ]
        refine anyT.take (i := 13) (v := ?gv13) rfl (by kernel_rfl) (fun _ _ _ h => h) (by rfl) (fun w hSw => ?gy13) hS ?gr13
        case gy13 =>
          (try dsimp only at hSw)
          go_simp
          try with_reducible rfl
        try simp only [Act.put, List.setIfInBounds_toArray, List.set_cons_zero, List.set_cons_succ]
        refine anyT.take (i := 14) (v := ?gv14) rfl (by kernel_rfl) (fun _ _ _ h => h) (by rfl) (fun w hSw => ?gy14) hS ?gr14
        case gy14 =>
          (try dsimp only at hSw)
          go_simp
          try with_reducible rfl
        try simp only [Act.put, List.setIfInBounds_toArray, List.set_cons_zero, List.set_cons_succ]
        refine anyT.step (i := 15) rfl (by kernel_rfl) (fun K' hK => ?_)
        go_simp
        refine hK.out _ _ (fun _ => ⟨(Up.alloc _ _).cell hr1, (Up.alloc _ _).cell hr2, (Up.alloc _ _).cell hkc⟩) (fun hS => ?_)
        try simp only [List.setIfInBounds_toArray, List.set_cons_zero, List.set_cons_succ]
        refine anyT.step (i := 16) rfl (by kernel_rfl) (fun K' hK => ?_)
        refine step_app1 (by rfl) _ _ _ (by rfl) (w.heap.size + 1 + 1) 145 _ 8 Tryz.underlying143 Tryz.infoNP (by rfl) (by decide) (by rfl) HOW2.out (.pointer (some ⟨ak, 0, none⟩)) w2.heap.size (by rfl) HCN.out (by rfl) HKL.out HBS.out ?_
        intro g cap w4 hown4 hg4 hor4 hbe4
        obtain ⟨hr1b, hr2b, hkcb, hfz4⟩ := HFAR.out w4 hg4
        have HOWN4 := Lib.hid hown4
        have HG4 := Lib.hid (grown_alloc_drew hg4)
        have HOR4 := Lib.hid hor4
        clear hown4 hg4 hor4 hbe4
        refine hK.out _ _ (fun _ => ⟨hr1b, hr2b, hkcb⟩) (fun hS => ?_)
        replace hS := hS ⟨19, by decide, rfl⟩
        try simp only [Act.put, List.setIfInBounds_toArray, List.set_cons_zero, List.set_cons_succ]
        refine anyT.take (i := 17) (v := ?gv17) rfl (by kernel_rfl) (fun _ _ _ h => h) (by rfl) (fun w hSw => ?gy17) hS ?gr17
        case gy17 =>
          (try dsimp only at hSw)
          go_simp
          try with_reducible rfl
        try simp only [Act.put, List.setIfInBounds_toArray, List.set_cons_zero, List.set_cons_succ]
        refine anyT.take (i := 18) (v := ?gv18) rfl (by kernel_rfl) (fun _ _ _ h => h) (by rfl) (fun w hSw => ?gy18) hS ?gr18
        case gy18 =>
          (try dsimp only at hSw)
          go_simp
          try with_reducible rfl
        try simp only [Act.put, List.setIfInBounds_toArray, List.set_cons_zero, List.set_cons_succ]
        refine anyT.step (i := 19) rfl (by kernel_rfl) (fun K' hK => ?_)
        go_simp
        refine hK.out _ _ (not_more (by kernel_rfl)) (fun hS => ?_)
        refine anyT.done (by kernel_rfl) ?_
        go_wp2_with fail
        go_roundw
        case rel =>
          refine ⟨k + 1, by omega, by go_num, HPUSH.out g cap w4 HOWN4.out HG4.out ?_⟩
          rcases HOR4.out with h | h
          · exact .inl h
          · refine .inr ?_
            rw [h]; exact Nat.le_trans (Nat.le_succ _) (Nat.le_of_eq (World.size_alloc _ _).symm)
        case measure => simp [intOf]; omega
      · have HPP : Hid (gi t.ps k < 0) := by unfold Hid; omega
        have d1 : decide ((0 : Int) ≤ gi t.ps k) = false := by simpa using hp0
        clear h0 hp0
        go_wp2_with fail
        go_roundw
        case rel =>
          obtain ⟨A', kv', _, hX⟩ := HX.out
          exact ⟨k + 1, by omega, by go_num, hX.root HPP.out⟩
        case measure => simp [intOf]; omega
    · obtain rfl : k = t.ps.length := by omega
      go_wp2_with fail
      go_ret
      obtain ⟨hup, A, kv, hF, hrow⟩ := hO.out
      exact ⟨Below.trans HUW.out (hup.mono (Nat.le_succ _)), _, A, kv, Nat.le_succ _, rfl, hF, hrow.congr fun i hi => by rw [if_pos hi]⟩
end Go.Proofs.YtcbmbhghmfehpaaGreat
