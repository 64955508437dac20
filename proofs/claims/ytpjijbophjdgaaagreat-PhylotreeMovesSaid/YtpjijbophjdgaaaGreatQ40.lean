/- Texts of rose trees, plain: what the machine reads is the text of the result, and the other way round. -/
import Derived.Test.YtpjijbophjdgaaaGreatQ38
import Derived.Test.YtpjijbophjdgaaaGreatQ39
namespace Go.Proofs.YtpjijbophjdgaaaGreat
theorem ia_pos {c : UInt8} {s : List UInt8} (h : c ∉ sp4) : Lib.indexAny (c :: s) sp4 < 0 ∨ 1 ≤ Lib.indexAny (c :: s) sp4 := by
  have hc : sp4.contains c = false := by
    cases e : sp4.contains c with
    | false => rfl
    | true => exact absurd (List.contains_iff_mem.1 e) h
  rw [Lib.indexAny, hc]
  have := Lib.indexAny_ge sp4 s
  by_cases e : Lib.indexAny s sp4 = -1
  · left; simp [e]
  · right; rw [if_neg (by simp), if_neg (by simpa using e)]; omega
theorem not_sp4 {c : UInt8} (h1 : c ≠ 40) (h2 : c ≠ 41) (h3 : c ≠ 44) (h4 : c ≠ 59) : c ∉ sp4 := by simp [sp4, h1, h2, h3, h4]
def OkP (r : RT) : Prop := ∀ s ∈ subR r, (s.kids ≠ [] → s.nm.size = 0) ∧ (s.kids = [] → s.nm.data.toList ≠ [] ∧ ∀ c ∈ s.nm.data.toList, c ∉ sp4)
theorem okp_kid {nm : ByteArray} {ks : List RT} (h : OkP (.node nm ks)) {k : RT} (hk : k ∈ ks) : OkP k := fun s hs =>
  h s (by rw [subR, subRs_flat]; exact List.mem_cons_of_mem _ (List.mem_flatMap.2 ⟨k, hk, hs⟩))
theorem okp_node {nm : ByteArray} {ks : List RT} (h0 : nm.size = 0) (h1 : ks ≠ []) (h : ∀ k ∈ ks, OkP k) : OkP (.node nm ks) := fun s hs => by
  rw [subR, subRs_flat, List.mem_cons, List.mem_flatMap] at hs
  rcases hs with rfl | ⟨k, hk, hs⟩
  · exact ⟨fun _ => h0, fun e => absurd e h1⟩
  · exact h k hk s hs
theorem okp_leaf {nm : ByteArray} (h1 : nm.data.toList ≠ []) (h : ∀ c ∈ nm.data.toList, c ∉ sp4) : OkP (.node nm []) := fun s hs => by
  rw [subR, subRs, List.mem_singleton] at hs; subst hs
  exact ⟨fun e => absurd rfl e, fun _ => ⟨h1, h⟩⟩
mutual
theorem tx_size : ∀ (r : RT), OkP r → sizeR r ≤ (txR r).length ∧ ∀ s ∈ nsR r, s.size ≤ (txR r).length
  | .node nm [], h => by
    obtain ⟨_, h1⟩ := h _ (by rw [subR]; exact List.mem_cons_self)
    have h1 : nm.data.toList ≠ [] := (h1 rfl).1
    have hl : 0 < nm.data.toList.length := List.length_pos_iff.2 h1
    rw [sizeR, sizeRs, txR, nsR, nsRs]
    refine ⟨by omega, fun s hs => ?_⟩
    rw [List.mem_singleton.1 hs, size_data]; exact Nat.le_refl _
  | .node nm (k :: ks), h => by
    obtain ⟨h1, _⟩ := h _ (by rw [subR]; exact List.mem_cons_self)
    have h1 : nm.size = 0 := h1 (by simp [RT.kids])
    obtain ⟨a1, a2⟩ := tx_size k (okp_kid h (by simp))
    obtain ⟨b1, b2⟩ := tx_sizes ks (fun q hq => okp_kid h (by simp [hq]))
    rw [sizeR, sizeRs, txR, nsR, nsRs, List.length_cons, List.length_append, List.length_append]
    refine ⟨by simp; omega, fun s hs => ?_⟩
    rcases List.mem_cons.1 hs with rfl | hs
    · omega
    · rcases List.mem_append.1 hs with hs | hs
      · have := a2 s hs; omega
      · have := b2 s hs; omega
theorem tx_sizes : ∀ (ks : List RT), (∀ k ∈ ks, OkP k) → sizeRs ks ≤ (txRs ks).length ∧ ∀ s ∈ nsRs ks, s.size ≤ (txRs ks).length
  | [], _ => ⟨by rw [sizeRs]; exact Nat.zero_le _, fun s hs => by rw [nsRs] at hs; cases hs⟩
  | k :: ks, h => by
    obtain ⟨a1, a2⟩ := tx_size k (h k (by simp))
    obtain ⟨b1, b2⟩ := tx_sizes ks (fun q hq => h q (by simp [hq]))
    rw [sizeRs, txRs, nsRs, List.length_cons, List.length_append]
    refine ⟨by omega, fun s hs => ?_⟩
    rcases List.mem_append.1 hs with hs | hs
    · have := a2 s hs; omega
    · have := b2 s hs; omega
end
def pT : List (List RT) → Bool → List UInt8
  | [], _ => []
  | [Z], _ => match Z with
    | [] => []
    | r :: _ => txR r
  | Z :: Y :: st, b => pT (Y :: st) false ++ (if Z = [] then [40] else txK Z ++ (if b then [] else [44]))
def PInv (st : List (List RT)) (b : Bool) : Prop := (∀ Z ∈ st, ∀ r ∈ Z, OkP r) ∧ st ≠ [] ∧ (b = true → ∀ Z, st.head? = some Z → Z ≠ []) ∧ (∀ Z, st.getLast? = some Z → Z.length ≤ 1 ∧ ((st.length ≠ 1 ∨ b = false) → Z = []))
theorem pT_close {Z Y : List RT} {st : List (List RT)} (h0 : Z ≠ []) (hl : st = [] → Y = []) : pT ((Y ++ [.node ByteArray.empty Z]) :: st) true = pT (Z :: Y :: st) true ++ [41] := by
  cases st with
  | nil =>
    rw [hl rfl]
    simp only [pT, List.nil_append, if_neg h0]
    rw [txR_node _ h0]; simp
  | cons X st =>
    have hne : Y ++ [RT.node ByteArray.empty Z] ≠ [] := by simp
    simp only [pT, if_neg h0, if_neg hne, if_true, txK_app, txR_node _ h0]
    by_cases hY : Y = []
    · subst hY; simp [txK]
    · have : Y.length ≠ 0 := by simpa using hY
      simp [hY]
theorem ia_take : ∀ (s : List UInt8) (n : Nat), Lib.indexAny s sp4 = (n : Int) → ∀ x ∈ s.take n, x ∉ sp4
  | [], n, h, x, hx => by simp at hx
  | c :: s, 0, _, x, hx => by simp at hx
  | c :: s, n + 1, h, x, hx => by
    rw [Lib.indexAny] at h
    cases hc : sp4.contains c with
    | true => rw [hc, if_pos rfl] at h; omega
    | false =>
      rw [hc, if_neg (by simp)] at h
      by_cases e : Lib.indexAny s sp4 = -1
      · rw [e] at h; simp at h; omega
      · rw [if_neg (by simpa using e)] at h
        rw [List.take_succ_cons, List.mem_cons] at hx
        rcases hx with rfl | hx
        · intro hm; rw [List.contains_iff_mem.2 hm] at hc; cases hc
        · exact ia_take s n (by omega) x hx
theorem ia_lt : ∀ (s : List UInt8) (n : Nat), Lib.indexAny s sp4 = (n : Int) → n < s.length
  | [], n, h => by rw [Lib.indexAny] at h; omega
  | c :: s, 0, _ => by simp
  | c :: s, n + 1, h => by
    rw [Lib.indexAny] at h
    cases hc : sp4.contains c with
    | true => rw [hc, if_pos rfl] at h; omega
    | false =>
      rw [hc, if_neg (by simp)] at h
      by_cases e : Lib.indexAny s sp4 = -1
      · rw [e] at h; simp at h; omega
      · rw [if_neg (by simpa using e)] at h
        have := ia_lt s n (by omega)
        rw [List.length_cons]; omega
theorem ba_extract (s : ByteArray) (k n : Nat) : (⟨((s.data.toList.drop k).take n).toArray⟩ : ByteArray) = s.extract k (k + n) := by
  apply ba_ext
  rw [ByteArray.data_extract]
  simp [Nat.add_sub_cancel_left]
theorem read_tx : ∀ (f : Nat) (s : List UInt8) (st : List (List RT)) (b : Bool) (r : RT), s.length < f → PInv st b → pz f s st b = some r → pT st b ++ s = txR r ++ [59] ∧ OkP r
  | 0, _, _, _, _, h, _, _ => by omega
  | f + 1, [], st, b, r, _, _, e => by cases e
  | f + 1, c :: s, st, b, r, hf, hI, e => by
    rw [List.length_cons] at hf
    obtain ⟨i1, i2, i3, i4⟩ := hI
    rw [pz] at e
    by_cases c1 : c = 40
    · rw [if_pos c1] at e
      cases b with
      | true => rw [if_pos rfl] at e; cases e
      | false =>
        rw [if_neg (by simp)] at e
        obtain ⟨h1, h2⟩ := read_tx f s ([] :: st) false r (by omega) ⟨fun Z hZ => by
          rcases List.mem_cons.1 hZ with rfl | h
          · intro r hr; cases hr
          · exact i1 Z h, by simp, (fun h => by cases h), fun Z hZ => by
            cases st with
            | nil => exact absurd rfl i2
            | cons Y st =>
              rw [List.getLast?_cons_cons] at hZ
              have := i4 Z hZ
              exact ⟨this.1, fun _ => this.2 (.inr rfl)⟩⟩ e
        refine ⟨?_, h2⟩
        rw [← h1, c1]
        cases st with
        | nil => exact absurd rfl i2
        | cons Y st => simp [pT]
    rw [if_neg c1] at e
    by_cases c2 : c = 41
    · rw [if_pos c2] at e
      by_cases hb : b = false ∨ st.length = 1
      · rw [if_pos hb] at e; cases e
      · rw [if_neg hb] at e
        have hb1 : b = true := by cases b <;> simp at hb ⊢
        subst hb1
        match st, i2, hb with
        | [], h, _ => exact absurd rfl h
        | [Z], _, h => exact absurd (.inr rfl) h
        | Z :: Y :: st, _, _ =>
          have hZ : Z ≠ [] := i3 rfl Z rfl
          have hY : st = [] → Y = [] := fun h => by subst h; exact (i4 Y rfl).2 (.inl (by simp))
          rw [show popZ (Z :: Y :: st) = (Y ++ [.node ByteArray.empty Z]) :: st from rfl] at e
          obtain ⟨h1, h2⟩ := read_tx f s ((Y ++ [.node ByteArray.empty Z]) :: st) true r (by omega) ⟨fun X hX r hr => by
            rcases List.mem_cons.1 hX with rfl | h
            · rcases List.mem_append.1 hr with h | h
              · exact i1 Y (by simp) r h
              · rw [List.mem_singleton.1 h]; exact okp_node rfl hZ fun k hk => i1 Z (by simp) k hk
            · exact i1 X (by simp [h]) r hr, by simp, (fun _ X hX => by cases hX; simp), fun X hX => by
              cases st with
              | nil =>
                cases hX; rw [hY rfl]
                exact ⟨by simp, fun h => by simp at h⟩
              | cons W st =>
                rw [List.getLast?_cons_cons] at hX
                have := i4 X (by rw [List.getLast?_cons_cons, List.getLast?_cons_cons]; exact hX)
                exact ⟨this.1, fun _ => this.2 (.inl (by simp))⟩⟩ e
          refine ⟨?_, h2⟩
          rw [← h1, pT_close hZ hY, c2]; simp
    rw [if_neg c2] at e
    by_cases c3 : c = 44
    · rw [if_pos c3] at e
      by_cases hb : b = false ∨ st.length = 1
      · rw [if_pos hb] at e; cases e
      · rw [if_neg hb] at e
        have hb1 : b = true := by cases b <;> simp at hb ⊢
        subst hb1
        match st, i2, hb with
        | [], h, _ => exact absurd rfl h
        | [Z], _, h => exact absurd (.inr rfl) h
        | Z :: Y :: st, _, _ =>
          have hZ : Z ≠ [] := i3 rfl Z rfl
          obtain ⟨h1, h2⟩ := read_tx f s (Z :: Y :: st) false r (by omega) ⟨i1, by simp, (fun h => by cases h), fun X hX => ⟨(i4 X hX).1, fun _ => (i4 X hX).2 (.inl (by simp))⟩⟩ e
          refine ⟨?_, h2⟩
          rw [← h1, c3]
          simp [pT, hZ]
    rw [if_neg c3] at e
    by_cases c4 : c = 59
    · rw [if_pos c4] at e
      by_cases hb : b = false ∨ st.length ≠ 1 ∨ s ≠ []
      · rw [if_pos hb] at e; cases e
      · rw [if_neg hb] at e
        have hb1 : b = true := by cases b <;> simp at hb ⊢
        have hs : s = [] := by simp at hb; exact hb.2.2
        have hl : st.length = 1 := by simp at hb; exact hb.2.1
        subst hb1; subst hs
        match st, hl with
        | [Z], _ =>
          have hZ : Z ≠ [] := i3 rfl Z rfl
          cases Z with
          | nil => exact absurd rfl hZ
          | cons q Z =>
            cases e
            rw [c4]
            exact ⟨rfl, i1 (q :: Z) List.mem_cons_self q List.mem_cons_self⟩
    rw [if_neg c4] at e
    by_cases c5 : b = true
    · rw [if_pos c5] at e; cases e
    rw [if_neg c5] at e
    have hb : b = false := by cases b <;> simp at c5 ⊢
    subst hb
    by_cases c6 : Lib.indexAny (c :: s) sp4 < 0
    · rw [if_pos c6] at e; cases e
    rw [if_neg c6] at e
    have hn := (ia_pos (s := s) (not_sp4 c1 c2 c3 c4)).resolve_left c6
    obtain ⟨n, hn2⟩ : ∃ n : Nat, Lib.indexAny (c :: s) sp4 = (n : Int) := ⟨(Lib.indexAny (c :: s) sp4).toNat, by omega⟩
    rw [hn2, Int.toNat_natCast] at e
    have hno : ∀ x ∈ (c :: s).take n, x ∉ sp4 := ia_take _ n hn2
    match st, i2 with
    | Z :: st, _ =>
      have hne : (c :: s).take n ≠ [] := by
        cases n with
        | zero => omega
        | succ n => simp
      rw [show ∀ q, addZ q (Z :: st) = (Z ++ [q]) :: st from fun _ => rfl] at e
      obtain ⟨h1, h2⟩ := read_tx f ((c :: s).drop n) ((Z ++ [.node ⟨((c :: s).take n).toArray⟩ []]) :: st) true r (by rw [List.length_drop, List.length_cons]; omega) ⟨fun X hX r hr => by
          rcases List.mem_cons.1 hX with rfl | h
          · rcases List.mem_append.1 hr with h | h
            · exact i1 Z (by simp) r h
            · rw [List.mem_singleton.1 h]; exact okp_leaf (by simpa using hne) (by simpa using hno)
          · exact i1 X (by simp [h]) r hr, by simp, (fun _ X hX => by cases hX; simp), fun X hX => by
            cases st with
            | nil =>
              cases hX; rw [(i4 Z rfl).2 (.inr rfl)]
              exact ⟨by simp, fun h => by simp at h⟩
            | cons W st =>
              rw [List.getLast?_cons_cons] at hX
              have := i4 X (by rw [List.getLast?_cons_cons]; exact hX)
              exact ⟨this.1, fun _ => this.2 (.inr rfl)⟩⟩ e
      refine ⟨?_, h2⟩
      rw [← h1]
      have ht : c :: s = (c :: s).take n ++ (c :: s).drop n := (List.take_append_drop _ _).symm
      cases st with
      | nil =>
        rw [(i4 Z rfl).2 (.inr rfl)]
        simp only [pT, List.nil_append, txR]
        exact ht
      | cons W st =>
        have hne2 : Z ++ [RT.node ⟨((c :: s).take n).toArray⟩ []] ≠ [] := by simp
        simp only [pT, if_neg hne2, if_true, txK_app, txR, List.append_nil]
        by_cases hZ : Z = []
        · subst hZ; simp [txK]
        · have hz : Z.length ≠ 0 := by simpa using hZ
          simp [hZ]
theorem read_text {s : List UInt8} {r : RT} (h : paR s = some r) : s = txR r ++ [59] ∧ OkP r := by
  obtain ⟨h1, h2⟩ := read_tx _ s [[]] false r (Nat.lt_succ_self _) ⟨(fun Z hZ r hr => by simp at hZ; subst hZ; cases hr), by simp, (fun h => by cases h), fun Z hZ => by cases hZ; simp⟩ h
  exact ⟨h1, h2⟩
theorem read_size {s : List UInt8} {r : RT} (h : paR s = some r) : (flat r).ps.length ≤ s.length ∧ (flat r).ns.length ≤ s.length ∧ ∀ k, (gs (flat r).ns k).size ≤ s.length := by
  obtain ⟨h1, h2⟩ := read_text h
  obtain ⟨h3, h4⟩ := tx_size r h2
  have hl : s.length = (txR r).length + 1 := by rw [h1]; simp
  refine ⟨by rw [flat_ps]; omega, by rw [flat_ns]; omega, fun k => ?_⟩
  by_cases hk : k < (nsR r).length
  · have hm : gs (nsR r) k ∈ nsR r := by simp [gs, hk]
    have := h4 _ hm
    show (gs (nsR r) k).size ≤ _
    omega
  · have : gs (flat r).ns k = ByteArray.empty := by
      show (nsR r).getD k ByteArray.empty = _
      simp [show (nsR r).length ≤ k by omega]
    rw [this]; exact Nat.zero_le _
end Go.Proofs.YtpjijbophjdgaaaGreat
