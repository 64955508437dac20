/- Texts of rose trees, plain: what the machine reads is the text of the result, and the other way round. The contract of phylotree.Print. Valid trees and their texts, plain: what the statements on texts, equal trees and canonical trees say. What Parse answers. The example of chapter 31, plain: what its functions answer. -/
import Derived.Test.YtcaialhoclodjaaQ24
import Derived.Test.YtcaialhoclodjaaQ21
import Derived.Test.YtcaialhoclodjaaQ17
import Derived.Test.YtcaialhoclodjaaQ18
import Derived.Test.YtcaialhoclodjaaQ14
import Derived.Test.YtcaialhoclodjaaQ23
import Derived.Test.YtcaialhoclodjaaQ20
namespace Go.Proofs.Ytcaialhoclodjaa
theorem ia_pos {c : UInt8} {s : List UInt8} (h : c ∉ sp4) : Lib.indexAny (c :: s) sp4 < 0 ∨ 1 ≤ Lib.indexAny (c :: s) sp4 := by
  have hc : sp4.contains c = false := by
    cases e : sp4.contains c with
    | false => rfl
    | true => exact absurd (List.contains_iff_mem.1 e) h
  rw [Lib.indexAny, hc]
  have := Lib.indexAny_ge sp4 s
  by_cases e : Lib.indexAny s sp4 = -1
  · left; simp [e]
  · right; rw [if_neg (by simp), if_neg (by simpa using e)]; omega
theorem not_sp4 {c : UInt8} (h1 : c ≠ 40) (h2 : c ≠ 41) (h3 : c ≠ 44) (h4 : c ≠ 59) : c ∉ sp4 := by simp [sp4, h1, h2, h3, h4]
theorem pz_fuel : ∀ (f g : Nat) (s : List UInt8) (st : List (List RT)) (b : Bool), s.length < f → s.length < g → pz f s st b = pz g s st b
  | 0, _, s, _, _, h, _ => by omega
  | _, 0, s, _, _, _, h => by omega
  | f + 1, g + 1, [], st, b, _, _ => rfl
  | f + 1, g + 1, c :: s, st, b, hf, hg => by
    rw [List.length_cons] at hf hg
    have key : ∀ (s' : List UInt8) (st' : List (List RT)) (b' : Bool), s'.length < f → s'.length < g → pz f s' st' b' = pz g s' st' b' := fun s' st' b' h1 h2 => pz_fuel f g s' st' b' h1 h2
    rw [pz, pz]
    by_cases c1 : c = 40
    · rw [if_pos c1, if_pos c1, key s _ _ (by omega) (by omega)]
    rw [if_neg c1, if_neg c1]
    by_cases c2 : c = 41
    · rw [if_pos c2, if_pos c2, key s _ _ (by omega) (by omega)]
    rw [if_neg c2, if_neg c2]
    by_cases c3 : c = 44
    · rw [if_pos c3, if_pos c3, key s _ _ (by omega) (by omega)]
    rw [if_neg c3, if_neg c3]
    by_cases c4 : c = 59
    · rw [if_pos c4, if_pos c4]
    rw [if_neg c4, if_neg c4]
    by_cases c5 : b = true
    · rw [if_pos c5, if_pos c5]
    rw [if_neg c5, if_neg c5]
    rcases ia_pos (s := s) (not_sp4 c1 c2 c3 c4) with h | h
    · rw [if_pos h, if_pos h]
    · rw [if_neg (by omega), if_neg (by omega)]
      have hd : ((c :: s).drop (Lib.indexAny (c :: s) sp4).toNat).length ≤ s.length := by
        rw [List.length_drop, List.length_cons]; omega
      exact key _ _ _ (by omega) (by omega)
/-- The machine with fuel enough. -/
def pzr (s : List UInt8) (st : List (List RT)) (b : Bool) : Option RT := pz (s.length + 1) s st b
theorem paR_pzr (s : List UInt8) : paR s = pzr s [[]] false := rfl
theorem pzr_open (s : List UInt8) (st : List (List RT)) : pzr (40 :: s) st false = pzr s ([] :: st) false := by
  unfold pzr; rw [pz, if_pos rfl, if_neg (by simp)]; exact pz_fuel _ _ _ _ _ (by simp) (by simp)
theorem pzr_close (s : List UInt8) (Z Y : List RT) (st : List (List RT)) : pzr (41 :: s) (Z :: Y :: st) true = pzr s ((Y ++ [.node ByteArray.empty Z]) :: st) true := by
  unfold pzr; rw [pz, if_neg (by decide), if_pos rfl, if_neg (by simp)]; exact pz_fuel _ _ _ _ _ (by simp) (by simp)
theorem pzr_comma (s : List UInt8) (Z Y : List RT) (st : List (List RT)) : pzr (44 :: s) (Z :: Y :: st) true = pzr s (Z :: Y :: st) false := by
  unfold pzr; rw [pz, if_neg (by decide), if_neg (by decide), if_pos rfl, if_neg (by simp)]; exact pz_fuel _ _ _ _ _ (by simp) (by simp)
theorem pzr_end (r : RT) (Z : List RT) : pzr [59] [r :: Z] true = some r := by
  unfold pzr; rw [pz, if_neg (by decide), if_neg (by decide), if_neg (by decide), if_pos rfl, if_neg (by simp)]; rfl
theorem pzr_name {n s : List UInt8} {d : UInt8} (h0 : n ≠ []) (h : ∀ c ∈ n, c ∉ sp4) (hd : d ∈ sp4) (Z : List RT) (st : List (List RT)) : pzr (n ++ d :: s) (Z :: st) false = pzr (d :: s) ((Z ++ [.node ⟨n.toArray⟩ []]) :: st) true := by
  have hi : Lib.indexAny (n ++ d :: s) sp4 = (n.length : Nat) := by
    refine Lib.indexAny_hit (x := d) (fun j b hj hb => ?_) (by simp) (List.contains_iff_mem.2 hd)
    rw [List.getElem?_append_left hj] at hb
    have hm := List.mem_of_getElem? hb
    cases e : sp4.contains b with
    | false => rfl
    | true => exact absurd (List.contains_iff_mem.1 e) (h b hm)
  cases n with
  | nil => exact absurd rfl h0
  | cons c n =>
    have hc := h c (by simp)
    simp only [sp4, List.mem_cons, List.not_mem_nil, or_false, not_or] at hc
    unfold pzr
    rw [List.cons_append] at hi ⊢
    rw [pz, if_neg hc.1, if_neg hc.2.1, if_neg hc.2.2.1, if_neg hc.2.2.2, if_neg (by simp), if_neg (by rw [hi]; omega), hi]
    have e1 : ((c :: (n ++ d :: s)).drop ((((c :: n).length : Nat) : Int)).toNat) = d :: s := by
      rw [Int.toNat_natCast, ← List.cons_append, List.drop_left]
    have e2 : ((c :: (n ++ d :: s)).take ((((c :: n).length : Nat) : Int)).toNat) = c :: n := by
      rw [Int.toNat_natCast, ← List.cons_append, List.take_left]
    rw [e1, e2]
    exact pz_fuel _ _ _ _ _ (by simp; omega) (by simp)
/-- Names that a text can have: leaves have one, without signs; the others have none. -/
def OkP (r : RT) : Prop := ∀ s ∈ subR r, (s.kids ≠ [] → s.nm.size = 0) ∧ (s.kids = [] → s.nm.data.toList ≠ [] ∧ ∀ c ∈ s.nm.data.toList, c ∉ sp4)
theorem okp_kid {nm : ByteArray} {ks : List RT} (h : OkP (.node nm ks)) {k : RT} (hk : k ∈ ks) : OkP k := fun s hs =>
  h s (by rw [subR, subRs_flat]; exact List.mem_cons_of_mem _ (List.mem_flatMap.2 ⟨k, hk, hs⟩))
theorem okp_node {nm : ByteArray} {ks : List RT} (h0 : nm.size = 0) (h1 : ks ≠ []) (h : ∀ k ∈ ks, OkP k) : OkP (.node nm ks) := fun s hs => by
  rw [subR, subRs_flat, List.mem_cons, List.mem_flatMap] at hs
  rcases hs with rfl | ⟨k, hk, hs⟩
  · exact ⟨fun _ => h0, fun e => absurd e h1⟩
  · exact h k hk s hs
theorem okp_leaf {nm : ByteArray} (h1 : nm.data.toList ≠ []) (h : ∀ c ∈ nm.data.toList, c ∉ sp4) : OkP (.node nm []) := fun s hs => by
  rw [subR, subRs, List.mem_singleton] at hs; subst hs
  exact ⟨fun e => absurd rfl e, fun _ => ⟨h1, h⟩⟩
theorem nm_empty {nm : ByteArray} (h : nm.size = 0) : nm = ByteArray.empty := size0_eq h rfl
mutual
/-- The machine reads a text. -/
theorem run_tx : ∀ (r : RT), OkP r → ∀ (d : UInt8) (s : List UInt8) (Z : List RT) (st : List (List RT)), d ∈ sp4 → pzr (txR r ++ d :: s) (Z :: st) false = pzr (d :: s) ((Z ++ [r]) :: st) true
  | .node nm [], h, d, s, Z, st, hd => by
    obtain ⟨_, h1⟩ := h _ (by rw [subR]; exact List.mem_cons_self)
    obtain ⟨h1, h2⟩ := h1 rfl
    have h1 : nm.data.toList ≠ [] := h1
    have h2 : ∀ c ∈ nm.data.toList, c ∉ sp4 := h2
    rw [txR, pzr_name h1 h2 hd]
  | .node nm (k :: ks), h, d, s, Z, st, hd => by
    obtain ⟨h1, _⟩ := h _ (by rw [subR]; exact List.mem_cons_self)
    have h1 := nm_empty (h1 (by simp [RT.kids]))
    have h1 : nm = ByteArray.empty := h1
    rw [txR, List.cons_append, pzr_open, List.append_assoc, List.append_assoc]
    cases hks : ks with
    | nil =>
      rw [txRs, List.nil_append, List.cons_append, List.nil_append, run_tx k (okp_kid h (by simp)) 41 _ _ _ (by decide), pzr_close, h1]; rfl
    | cons k2 ks2 =>
      rw [← hks]
      have e : ∀ X : List UInt8, txRs ks ++ X = 44 :: (txR k2 ++ txRs ks2 ++ X) := fun X => by rw [hks, txRs, List.cons_append]
      rw [e, run_tx k (okp_kid h (by simp)) 44 _ _ _ (by decide), ← e, List.nil_append, List.singleton_append, run_txs ks (fun q hq => okp_kid h (by simp [hq])) 41 _ _ _ _ (by decide), pzr_close, h1, List.singleton_append]
theorem run_txs : ∀ (ks : List RT), (∀ k ∈ ks, OkP k) → ∀ (d : UInt8) (s : List UInt8) (Z Y : List RT) (st : List (List RT)), d ∈ sp4 → pzr (txRs ks ++ d :: s) (Z :: Y :: st) true = pzr (d :: s) ((Z ++ ks) :: Y :: st) true
  | [], _, d, s, Z, Y, st, _ => by rw [txRs, List.nil_append, List.append_nil]
  | k :: ks, h, d, s, Z, Y, st, hd => by
    rw [txRs, List.cons_append, pzr_comma, List.append_assoc]
    have hk := h k (by simp)
    have ih := run_txs ks (fun q hq => h q (by simp [hq])) d s (Z ++ [k]) Y st hd
    rw [List.append_assoc, List.singleton_append] at ih
    rw [← ih]
    cases ks with
    | nil => rw [txRs, List.nil_append, run_tx k hk d _ _ _ hd]
    | cons k2 ks2 => rw [txRs, List.cons_append, run_tx k hk 44 _ _ _ (by decide)]
end
mutual
/-- How large a tree with a text can be. -/
theorem tx_size : ∀ (r : RT), OkP r → sizeR r ≤ (txR r).length ∧ ∀ s ∈ nsR r, s.size ≤ (txR r).length
  | .node nm [], h => by
    obtain ⟨_, h1⟩ := h _ (by rw [subR]; exact List.mem_cons_self)
    have h1 : nm.data.toList ≠ [] := (h1 rfl).1
    have hl : 0 < nm.data.toList.length := List.length_pos_iff.2 h1
    rw [sizeR, sizeRs, txR, nsR, nsRs]
    refine ⟨by omega, fun s hs => ?_⟩
    rw [List.mem_singleton.1 hs, size_data]; exact Nat.le_refl _
  | .node nm (k :: ks), h => by
    obtain ⟨h1, _⟩ := h _ (by rw [subR]; exact List.mem_cons_self)
    have h1 : nm.size = 0 := h1 (by simp [RT.kids])
    obtain ⟨a1, a2⟩ := tx_size k (okp_kid h (by simp))
    obtain ⟨b1, b2⟩ := tx_sizes ks (fun q hq => okp_kid h (by simp [hq]))
    rw [sizeR, sizeRs, txR, nsR, nsRs, List.length_cons, List.length_append, List.length_append]
    refine ⟨by simp; omega, fun s hs => ?_⟩
    rcases List.mem_cons.1 hs with rfl | hs
    · omega
    · rcases List.mem_append.1 hs with hs | hs
      · have := a2 s hs; omega
      · have := b2 s hs; omega
theorem tx_sizes : ∀ (ks : List RT), (∀ k ∈ ks, OkP k) → sizeRs ks ≤ (txRs ks).length ∧ ∀ s ∈ nsRs ks, s.size ≤ (txRs ks).length
  | [], _ => ⟨by rw [sizeRs]; exact Nat.zero_le _, fun s hs => by rw [nsRs] at hs; cases hs⟩
  | k :: ks, h => by
    obtain ⟨a1, a2⟩ := tx_size k (h k (by simp))
    obtain ⟨b1, b2⟩ := tx_sizes ks (fun q hq => h q (by simp [hq]))
    rw [sizeRs, txRs, nsRs, List.length_cons, List.length_append]
    refine ⟨by omega, fun s hs => ?_⟩
    rcases List.mem_append.1 hs with hs | hs
    · have := a2 s hs; omega
    · have := b2 s hs; omega
end
theorem paR_tx {r : RT} (h : OkP r) : paR (txR r ++ [59]) = some r := by
  rw [paR_pzr, run_tx r h 59 [] [] [] (by decide), List.nil_append, pzr_end]
theorem tx_inj {r q : RT} (hr : OkP r) (hq : OkP q) (e : txR r = txR q) : r = q := by
  have h := paR_tx hr
  rw [e, paR_tx hq] at h
  exact (Option.some.inj h).symm
/-- What has been read. -/
def pT : List (List RT) → Bool → List UInt8
  | [], _ => []
  | [Z], _ => match Z with
    | [] => []
    | r :: _ => txR r
  | Z :: Y :: st, b => pT (Y :: st) false ++ (if Z = [] then [40] else txK Z ++ (if b then [] else [44]))
def PInv (st : List (List RT)) (b : Bool) : Prop := (∀ Z ∈ st, ∀ r ∈ Z, OkP r) ∧ st ≠ [] ∧ (b = true → ∀ Z, st.head? = some Z → Z ≠ []) ∧ (∀ Z, st.getLast? = some Z → Z.length ≤ 1 ∧ ((st.length ≠ 1 ∨ b = false) → Z = []))
theorem pT_close {Z Y : List RT} {st : List (List RT)} (h0 : Z ≠ []) (hl : st = [] → Y = []) : pT ((Y ++ [.node ByteArray.empty Z]) :: st) true = pT (Z :: Y :: st) true ++ [41] := by
  cases st with
  | nil =>
    rw [hl rfl]
    simp only [pT, List.nil_append, if_neg h0]
    rw [txR_node _ h0]; simp
  | cons X st =>
    have hne : Y ++ [RT.node ByteArray.empty Z] ≠ [] := by simp
    simp only [pT, if_neg h0, if_neg hne, if_true, txK_app, txR_node _ h0]
    by_cases hY : Y = []
    · subst hY; simp [txK]
    · have : Y.length ≠ 0 := by simpa using hY
      simp [hY]
theorem ia_take : ∀ (s : List UInt8) (n : Nat), Lib.indexAny s sp4 = (n : Int) → ∀ x ∈ s.take n, x ∉ sp4
  | [], n, h, x, hx => by simp at hx
  | c :: s, 0, _, x, hx => by simp at hx
  | c :: s, n + 1, h, x, hx => by
    rw [Lib.indexAny] at h
    cases hc : sp4.contains c with
    | true => rw [hc, if_pos rfl] at h; omega
    | false =>
      rw [hc, if_neg (by simp)] at h
      by_cases e : Lib.indexAny s sp4 = -1
      · rw [e] at h; simp at h; omega
      · rw [if_neg (by simpa using e)] at h
        rw [List.take_succ_cons, List.mem_cons] at hx
        rcases hx with rfl | hx
        · intro hm; rw [List.contains_iff_mem.2 hm] at hc; cases hc
        · exact ia_take s n (by omega) x hx
theorem ia_lt : ∀ (s : List UInt8) (n : Nat), Lib.indexAny s sp4 = (n : Int) → n < s.length
  | [], n, h => by rw [Lib.indexAny] at h; omega
  | c :: s, 0, _ => by simp
  | c :: s, n + 1, h => by
    rw [Lib.indexAny] at h
    cases hc : sp4.contains c with
    | true => rw [hc, if_pos rfl] at h; omega
    | false =>
      rw [hc, if_neg (by simp)] at h
      by_cases e : Lib.indexAny s sp4 = -1
      · rw [e] at h; simp at h; omega
      · rw [if_neg (by simpa using e)] at h
        have := ia_lt s n (by omega)
        rw [List.length_cons]; omega
theorem ba_extract (s : ByteArray) (k n : Nat) : (⟨((s.data.toList.drop k).take n).toArray⟩ : ByteArray) = s.extract k (k + n) := by
  apply ba_ext
  rw [ByteArray.data_extract]
  simp [Nat.add_sub_cancel_left]
theorem read_tx : ∀ (f : Nat) (s : List UInt8) (st : List (List RT)) (b : Bool) (r : RT), s.length < f → PInv st b → pz f s st b = some r → pT st b ++ s = txR r ++ [59] ∧ OkP r
  | 0, _, _, _, _, h, _, _ => by omega
  | f + 1, [], st, b, r, _, _, e => by cases e
  | f + 1, c :: s, st, b, r, hf, hI, e => by
    rw [List.length_cons] at hf
    obtain ⟨i1, i2, i3, i4⟩ := hI
    rw [pz] at e
    by_cases c1 : c = 40
    · rw [if_pos c1] at e
      cases b with
      | true => rw [if_pos rfl] at e; cases e
      | false =>
        rw [if_neg (by simp)] at e
        obtain ⟨h1, h2⟩ := read_tx f s ([] :: st) false r (by omega) ⟨fun Z hZ => by
          rcases List.mem_cons.1 hZ with rfl | h
          · intro r hr; cases hr
          · exact i1 Z h, by simp, (fun h => by cases h), fun Z hZ => by
            cases st with
            | nil => exact absurd rfl i2
            | cons Y st =>
              rw [List.getLast?_cons_cons] at hZ
              have := i4 Z hZ
              exact ⟨this.1, fun _ => this.2 (.inr rfl)⟩⟩ e
        refine ⟨?_, h2⟩
        rw [← h1, c1]
        cases st with
        | nil => exact absurd rfl i2
        | cons Y st => simp [pT]
    rw [if_neg c1] at e
    by_cases c2 : c = 41
    · rw [if_pos c2] at e
      by_cases hb : b = false ∨ st.length = 1
      · rw [if_pos hb] at e; cases e
      · rw [if_neg hb] at e
        have hb1 : b = true := by cases b <;> simp at hb ⊢
        subst hb1
        match st, i2, hb with
        | [], h, _ => exact absurd rfl h
        | [Z], _, h => exact absurd (.inr rfl) h
        | Z :: Y :: st, _, _ =>
          have hZ : Z ≠ [] := i3 rfl Z rfl
          have hY : st = [] → Y = [] := fun h => by subst h; exact (i4 Y rfl).2 (.inl (by simp))
          rw [show popZ (Z :: Y :: st) = (Y ++ [.node ByteArray.empty Z]) :: st from rfl] at e
          obtain ⟨h1, h2⟩ := read_tx f s ((Y ++ [.node ByteArray.empty Z]) :: st) true r (by omega) ⟨fun X hX r hr => by
            rcases List.mem_cons.1 hX with rfl | h
            · rcases List.mem_append.1 hr with h | h
              · exact i1 Y (by simp) r h
              · rw [List.mem_singleton.1 h]; exact okp_node rfl hZ fun k hk => i1 Z (by simp) k hk
            · exact i1 X (by simp [h]) r hr, by simp, (fun _ X hX => by cases hX; simp), fun X hX => by
              cases st with
              | nil =>
                cases hX; rw [hY rfl]
                exact ⟨by simp, fun h => by simp at h⟩
              | cons W st =>
                rw [List.getLast?_cons_cons] at hX
                have := i4 X (by rw [List.getLast?_cons_cons, List.getLast?_cons_cons]; exact hX)
                exact ⟨this.1, fun _ => this.2 (.inl (by simp))⟩⟩ e
          refine ⟨?_, h2⟩
          rw [← h1, pT_close hZ hY, c2]; simp
    rw [if_neg c2] at e
    by_cases c3 : c = 44
    · rw [if_pos c3] at e
      by_cases hb : b = false ∨ st.length = 1
      · rw [if_pos hb] at e; cases e
      · rw [if_neg hb] at e
        have hb1 : b = true := by cases b <;> simp at hb ⊢
        subst hb1
        match st, i2, hb with
        | [], h, _ => exact absurd rfl h
        | [Z], _, h => exact absurd (.inr rfl) h
        | Z :: Y :: st, _, _ =>
          have hZ : Z ≠ [] := i3 rfl Z rfl
          obtain ⟨h1, h2⟩ := read_tx f s (Z :: Y :: st) false r (by omega) ⟨i1, by simp, (fun h => by cases h), fun X hX => ⟨(i4 X hX).1, fun _ => (i4 X hX).2 (.inl (by simp))⟩⟩ e
          refine ⟨?_, h2⟩
          rw [← h1, c3]
          simp [pT, hZ]
    rw [if_neg c3] at e
    by_cases c4 : c = 59
    · rw [if_pos c4] at e
      by_cases hb : b = false ∨ st.length ≠ 1 ∨ s ≠ []
      · rw [if_pos hb] at e; cases e
      · rw [if_neg hb] at e
        have hb1 : b = true := by cases b <;> simp at hb ⊢
        have hs : s = [] := by simp at hb; exact hb.2.2
        have hl : st.length = 1 := by simp at hb; exact hb.2.1
        subst hb1; subst hs
        match st, hl with
        | [Z], _ =>
          have hZ : Z ≠ [] := i3 rfl Z rfl
          cases Z with
          | nil => exact absurd rfl hZ
          | cons q Z =>
            cases e
            rw [c4]
            exact ⟨rfl, i1 (q :: Z) List.mem_cons_self q List.mem_cons_self⟩
    rw [if_neg c4] at e
    by_cases c5 : b = true
    · rw [if_pos c5] at e; cases e
    rw [if_neg c5] at e
    have hb : b = false := by cases b <;> simp at c5 ⊢
    subst hb
    by_cases c6 : Lib.indexAny (c :: s) sp4 < 0
    · rw [if_pos c6] at e; cases e
    rw [if_neg c6] at e
    have hn := (ia_pos (s := s) (not_sp4 c1 c2 c3 c4)).resolve_left c6
    obtain ⟨n, hn2⟩ : ∃ n : Nat, Lib.indexAny (c :: s) sp4 = (n : Int) := ⟨(Lib.indexAny (c :: s) sp4).toNat, by omega⟩
    rw [hn2, Int.toNat_natCast] at e
    have hno : ∀ x ∈ (c :: s).take n, x ∉ sp4 := ia_take _ n hn2
    match st, i2 with
    | Z :: st, _ =>
      have hne : (c :: s).take n ≠ [] := by
        cases n with
        | zero => omega
        | succ n => simp
      rw [show ∀ q, addZ q (Z :: st) = (Z ++ [q]) :: st from fun _ => rfl] at e
      obtain ⟨h1, h2⟩ := read_tx f ((c :: s).drop n) ((Z ++ [.node ⟨((c :: s).take n).toArray⟩ []]) :: st) true r (by rw [List.length_drop, List.length_cons]; omega) ⟨fun X hX r hr => by
          rcases List.mem_cons.1 hX with rfl | h
          · rcases List.mem_append.1 hr with h | h
            · exact i1 Z (by simp) r h
            · rw [List.mem_singleton.1 h]; exact okp_leaf (by simpa using hne) (by simpa using hno)
          · exact i1 X (by simp [h]) r hr, by simp, (fun _ X hX => by cases hX; simp), fun X hX => by
            cases st with
            | nil =>
              cases hX; rw [(i4 Z rfl).2 (.inr rfl)]
              exact ⟨by simp, fun h => by simp at h⟩
            | cons W st =>
              rw [List.getLast?_cons_cons] at hX
              have := i4 X (by rw [List.getLast?_cons_cons]; exact hX)
              exact ⟨this.1, fun _ => this.2 (.inr rfl)⟩⟩ e
      refine ⟨?_, h2⟩
      rw [← h1]
      have ht : c :: s = (c :: s).take n ++ (c :: s).drop n := (List.take_append_drop _ _).symm
      cases st with
      | nil =>
        rw [(i4 Z rfl).2 (.inr rfl)]
        simp only [pT, List.nil_append, txR]
        exact ht
      | cons W st =>
        have hne2 : Z ++ [RT.node ⟨((c :: s).take n).toArray⟩ []] ≠ [] := by simp
        simp only [pT, if_neg hne2, if_true, txK_app, txR, List.append_nil]
        by_cases hZ : Z = []
        · subst hZ; simp [txK]
        · have hz : Z.length ≠ 0 := by simpa using hZ
          simp [hZ]
theorem read_text {s : List UInt8} {r : RT} (h : paR s = some r) : s = txR r ++ [59] ∧ OkP r := by
  obtain ⟨h1, h2⟩ := read_tx _ s [[]] false r (Nat.lt_succ_self _) ⟨(fun Z hZ r hr => by simp at hZ; subst hZ; cases hr), by simp, (fun h => by cases h), fun Z hZ => by cases hZ; simp⟩ h
  exact ⟨h1, h2⟩
/-- How large the tree of a text is. -/
theorem read_size {s : List UInt8} {r : RT} (h : paR s = some r) : (flat r).ps.length ≤ s.length ∧ (flat r).ns.length ≤ s.length ∧ ∀ k, (gs (flat r).ns k).size ≤ s.length := by
  obtain ⟨h1, h2⟩ := read_text h
  obtain ⟨h3, h4⟩ := tx_size r h2
  have hl : s.length = (txR r).length + 1 := by rw [h1]; simp
  refine ⟨by rw [flat_ps]; omega, by rw [flat_ns]; omega, fun k => ?_⟩
  by_cases hk : k < (nsR r).length
  · have hm : gs (nsR r) k ∈ nsR r := by simp [gs, hk]
    have := h4 _ hm
    show (gs (nsR r) k).size ≤ _
    omega
  · have : gs (flat r).ns k = ByteArray.empty := by
      show (nsR r).getD k ByteArray.empty = _
      simp [show (nsR r).length ≤ k by omega]
    rw [this]; exact Nat.zero_le _
end Go.Proofs.Ytcaialhoclodjaa
namespace Go.Proofs.Ytcaialhoclodjaa
open Go.RowKit Go.Deep
mutual
theorem txR_len {M : Nat} : ∀ r : RT, (∀ s ∈ nsR r, s.size ≤ M) → (txR r).length + 1 ≤ sizeR r * (M + 3)
  | .node nm [], h => by
    rw [txR, sizeR, sizeRs]
    have h1 := h nm (by rw [nsR]; simp)
    have h2 : nm.data.toList.length = nm.size := by rw [Array.length_toList]; rfl
    omega
  | .node nm (k :: ks), h => by
    have h1 := txR_len k (fun s hs => h s (by rw [nsR, nsRs]; simp [hs]))
    have h2 := txRs_len ks (fun s hs => h s (by rw [nsR, nsRs]; simp [hs]))
    rw [txR, sizeR, sizeRs]
    simp only [List.length_cons, List.length_append, List.length_nil]
    rw [Nat.add_mul, Nat.add_mul]
    omega
theorem txRs_len {M : Nat} : ∀ rs : List RT, (∀ s ∈ nsRs rs, s.size ≤ M) → (txRs rs).length ≤ sizeRs rs * (M + 3)
  | [], _ => by rw [txRs]; exact Nat.zero_le _
  | r :: rs, h => by
    have h1 := txR_len r (fun s hs => h s (by rw [nsRs]; simp [hs]))
    have h2 := txRs_len rs (fun s hs => h s (by rw [nsRs]; simp [hs]))
    rw [txRs, sizeRs]
    simp only [List.length_cons, List.length_append]
    rw [Nat.add_mul]
    omega
end
theorem nsR_toRF {F : Frs} {n : Nat} {rk : Nat → Nat} (h : Wf F n rk) {i : Nat} (hi : i < n) : nsR (toRF F rk i) = (nodesF F rk i).map F.nm := by
  rw [nsR_sub, subR_toRF h hi (Nat.le_refl _), List.map_map]
  refine List.map_congr_left fun z hz => ?_
  exact toRF_nm h (subF_lt h hi (Nat.le_refl _) ((mem_nodesF h hi (Nat.le_refl _)).1 hz))
theorem txT_len {t : Tre} (h : treeErr t = 0) {M : Nat} (hz : ∀ k, (gs t.ns k).size ≤ M) : (txR (toR t)).length + 1 ≤ 64 * (M + 3) := by
  obtain ⟨hp, hp64, _⟩ := treeErr_zero h
  have h1 := txR_len (M := M) (toR t) (fun s hs => by
    unfold toR at hs
    rw [nsR_toRF (frT_arb h).wf hp] at hs
    obtain ⟨z, _, rfl⟩ := List.mem_map.1 hs
    exact hz z)
  have h2 : sizeR (toR t) ≤ t.ps.length := good_size (frT_arb h).wf hp (good_toR h)
  exact Nat.le_trans h1 (Nat.mul_le_mul_right _ (by omega))
def txE (t : Tre) : Int := if treeErr t ≠ 0 then 1 else 0
def txT (t : Tre) : List UInt8 := if treeErr t ≠ 0 then [] else txR (toR t) ++ [59]
def TxPost (w : World) (t : Tre) (e : Ending) (w' : World) : Prop := Up w w' ∧ e = .returned (.tuple #[.string ⟨(txT t).toArray⟩, .int .i64 (txE t)])
set_option maxRecDepth 100000 in
set_option maxHeartbeats 4000000 in
theorem print_t (S : Nat → Prop) (w : World) (v : Value) (t : Tre) (hT : TreeAt S w v t) (hp : t.ps.length ≤ 1000000) (hn : t.ns.length ≤ 1000000) (hz : ∀ k, (gs t.ns k).size ≤ 70000) :
    Calls Try.prog 23 #[v] w (TxPost w t) := by
  obtain ⟨P, N, rfl, hP, hN⟩ := hT
  obtain ⟨pp, pc, rfl, _, _⟩ := SlAt.open hP
  obtain ⟨pn, pm, rfl, _, _⟩ := SlAt.open hN
  have hP : IntsAt S w (.slice pp t.ps.length pc) t.ps := hP
  have hN : StrsAt S w (.slice pn t.ns.length pm) t.ns := hN
  have ha := Up.alloc w (.cells #[.slice pp t.ps.length pc, .slice pn t.ns.length pm] 25)
  have HC0 := Lib.hid (box2_0 w (.slice pp t.ps.length pc) (.slice pn t.ns.length pm) 25)
  have HC1 := Lib.hid (box2_1 w (.slice pp t.ps.length pc) (.slice pn t.ns.length pm) 25)
  have hsz : (w.alloc (.cells #[.slice pp t.ps.length pc, .slice pn t.ns.length pm] 25)).heap.size = w.heap.size + 1 := by simp
  have HU := Lib.hid ha
  have HT1 : Hid (TreeAt S _ _ t) := TreeAt.keep ⟨_, _, rfl, hP, hN⟩ (ha.kept S)
  have HSZ := Lib.hid hsz
  have HZ := Lib.hid hz
  have hc0 := HC0.out
  have hc1 := HC1.out
  have HCK := Lib.hid (check_t S _ _ t HT1.out hp hn hz)
  have HXE : Hid (txE t = if treeErr t ≠ 0 then 1 else 0) := rfl
  have HXT : Hid (txT t = if treeErr t ≠ 0 then [] else txR (toR t) ++ [59]) := rfl
  clear ha hP hN hsz hz
  go_enter Try.func23, Try.ntmps23
  go_wp2_with fail
  generalize w.alloc (.cells #[.slice pp t.ps.length pc, .slice pn t.ns.length pm] 25) = w1 at *
  refine HCK.out.mono ?_
  rintro e w2 ⟨rfl, hu2⟩
  have hu2 : Up w1 w2 := hu2
  have HU2 := Lib.hid hu2
  have HUW := Lib.hid (HU.out.trans hu2)
  have hc0 := hu2.cell HC0.out
  have hc1 := hu2.cell HC1.out
  clear hu2 HCK
  by_cases he : treeErr t = 0
  · obtain ⟨hp0, hp64, hnl, hok, _⟩ := treeErr_zero he
    have HTE := Lib.hid he
    rw [he]
    have HT2 := Lib.hid (TreeAt.keep HT1.out (HU2.out.kept S))
    clear he hnl hok
    go_wp2_with fail
    have hb := blk_alloc_new w2 (.cells #[.pointer none, .slice none 0 0] 80)
    have hu3 := Up.alloc w2 (.cells #[.pointer none, .slice none 0 0] 80)
    have hs3 : (w2.alloc (.cells #[.pointer none, .slice none 0 0] 80)).heap.size = w2.heap.size + 1 := World.size_alloc _ _
    have hfb := blk_alloc_new (w2.alloc (.cells #[.pointer none, .slice none 0 0] 80)) (.cells #[.func (.func 51) #[] #[.pointer (some ⟨w2.heap.size, 0, none⟩), .pointer (some ⟨w2.heap.size + 1, 0, none⟩)]] 81)
    have hu4 := Up.alloc (w2.alloc (.cells #[.pointer none, .slice none 0 0] 80)) (.cells #[.func (.func 51) #[] #[.pointer (some ⟨w2.heap.size, 0, none⟩), .pointer (some ⟨w2.heap.size + 1, 0, none⟩)]] 81)
    have hs4 : ((w2.alloc (.cells #[.pointer none, .slice none 0 0] 80)).alloc (.cells #[.func (.func 51) #[] #[.pointer (some ⟨w2.heap.size, 0, none⟩), .pointer (some ⟨w2.heap.size + 1, 0, none⟩)]] 81)).heap.size = w2.heap.size + 2 := by rw [World.size_alloc, hs3]
    have hb4 := (blk_alloc_lt (w2.alloc (.cells #[.pointer none, .slice none 0 0] 80)) (.cells #[.func (.func 51) #[] #[.pointer (some ⟨w2.heap.size, 0, none⟩), .pointer (some ⟨w2.heap.size + 1, 0, none⟩)]] 81) w2.heap.size (by omega)).trans hb
    rw [hs3] at hfb
    have hc04 := (hu3.trans hu4).cell hc0
    have hc14 := (hu3.trans hu4).cell hc1
    have HU4 := Lib.hid (hu3.trans hu4)
    clear hb hu3 hu4 hs3 hc0 hc1
    generalize (w2.alloc (.cells #[.pointer none, .slice none 0 0] 80)).alloc (.cells #[.func (.func 51) #[] #[.pointer (some ⟨w2.heap.size, 0, none⟩), .pointer (some ⟨w2.heap.size + 1, 0, none⟩)]] 81) = w4 at *
    have HBX : Hid (PrBox w2.heap.size (w2.heap.size + 1) w4) := hfb
    have hfc := HBX.out.cell
    have HB4 := Lib.hid hb4
    have HS4 := Lib.hid hs4
    clear hs4 hb4 hfb
    refine region_T (by kernel_rfl) 6 (fun w' => w'.cell? ⟨w2.heap.size + 1, 0, none⟩ = some (.func (.func 51) #[] #[.pointer (some ⟨w2.heap.size, 0, none⟩), .pointer (some ⟨w2.heap.size + 1, 0, none⟩)]) ∧ w'.cell? ⟨w.heap.size, 0, none⟩ = some (.slice pp t.ps.length pc) ∧ w'.cell? ⟨w.heap.size, 1, none⟩ = some (.slice pn t.ns.length pm)) ⟨hfc, hc04, hc14⟩ (fun hS => ?_)
    simp only [List.size_toArray, List.length_cons, List.length_nil, Nat.reduceAdd, Array.replicate_succ, Array.replicate_zero, List.push_toArray, List.nil_append, List.cons_append]
    refine anyT.take (i := 0) (v := ?gv0k1) rfl (by kernel_rfl) (fun _ _ _ h => h) (by rfl) (fun w hSw => ?gy0k1) hS ?gr0k1
    case gy0k1 =>
      (try dsimp only at hSw)
      go_simp
      try with_reducible rfl
    try simp only [Act.put, List.setIfInBounds_toArray, List.set_cons_zero, List.set_cons_succ]
    refine anyT.take (i := 1) (v := ?gv1k1) rfl (by kernel_rfl) (fun _ _ _ h => h) (by rfl) (fun w hSw => ?gy1k1) hS ?gr1k1
    case gy1k1 =>
      (try dsimp only at hSw)
      go_simp
      try with_reducible rfl
    try simp only [Act.put, List.setIfInBounds_toArray, List.set_cons_zero, List.set_cons_succ]
    refine anyT.step (i := 2) rfl (by kernel_rfl) (fun K' hK => ?_)
    go_simp
    have HUD : Hid (Up w4 w4.drew) := Up.drewN w4 1
    obtain ⟨_, _, hnl, hok, _⟩ := treeErr_zero HTE.out
    have HND := Lib.hid (nodes2_t S w4.drew _ t (TreeAt.keep HT2.out ((HU4.out.trans HUD.out).kept S)) (by omega) hnl hok HZ.out)
    refine HND.out.mono ?_
    rintro e w5 ⟨hu5, g, A, kv, hgl, rfl, hF, hrow⟩
    have hr0 := hrow.cell (i := 0) hp0
    simp only [nptr] at hr0
    have HU5 := Lib.hid (HUD.out.trans hu5)
    have hpos : (0 : Int) < (t.ps.length : Int) := by omega
    refine hK.out _ _ (fun _ => ⟨HU5.out.cell hfc, HU5.out.cell hc04, HU5.out.cell hc14⟩) (fun hS => ?_)
    try simp only [List.setIfInBounds_toArray, List.set_cons_zero, List.set_cons_succ]
    have HF := Lib.hid hF
    have HGL := Lib.hid hgl
    have HX1 : Hid (txE t = 0) := by rw [Hid, HXE.out, if_neg (by simp [HTE.out])]
    have HX2 : Hid (txT t = txR (toR t) ++ [59]) := by rw [Hid, HXT.out, if_neg (by simp [HTE.out])]
    have HLN := Lib.hid (txT_len HTE.out HZ.out)
    have HBL : Hid (Lib.IsBuilderF 80 5 w2.heap.size w2.heap.size (Lib.byteCells []) w5) := .inl ⟨Nat.le_refl _, _, (Below.block HU5.out _ (by rw [HS4.out]; omega)).trans HB4.out, ⟨rfl, .inl ⟨rfl, rfl⟩⟩, fun e => by cases e⟩
    have HBX5 : Hid (PrBox w2.heap.size (w2.heap.size + 1) w5) := (Below.block HU5.out _ (by rw [HS4.out]; omega)).trans HBX.out
    have HSB : Hid (w2.heap.size + 2 ≤ w5.heap.size) := by have := HU5.out.size; rw [HS4.out] at this; exact this
    have HP1 := Lib.hid (print1_t (base := g + 1) (n := t.ps.length) (B := w2.heap.size) (b := w2.heap.size) (fb := w2.heap.size + 1) (frT_arb HTE.out).wf (fun z _ => by have := frT_kids_len t z; omega) (by have := HS4.out; have h2 : w4.heap.size ≤ g := hgl; omega) (by omega) (rkT t 0) 0 [] w5 hp0 (Nat.le_refl _) hF HBX5.out HBL.out (by
      have := HLN.out
      show 0 + (txR (toR t)).length ≤ _
      omega) (by have := HSB.out; omega))
    clear hnl hok hF hgl hrow HND hu5
    refine anyT.step (i := 3) rfl (by kernel_rfl) (fun K' hK => ?_)
    go_simp
    refine hK.out _ _ (fun _ => ⟨HU5.out.cell hfc, HU5.out.cell hc04, HU5.out.cell hc14⟩) (fun hS => ?_)
    try simp only [List.setIfInBounds_toArray, List.set_cons_zero, List.set_cons_succ]
    refine anyT.step (i := 4) rfl (by kernel_rfl) (fun K' hK => ?_)
    go_simp
    refine hK.out _ _ (fun _ => ⟨HU5.out.cell hfc, HU5.out.cell hc04, HU5.out.cell hc14⟩) (fun hS => ?_)
    try simp only [List.setIfInBounds_toArray, List.set_cons_zero, List.set_cons_succ]
    refine anyT.step (i := 5) rfl (by kernel_rfl) (fun K' hK => ?_)
    go_simp
    refine HP1.out.mono ?_
    rintro e w6 ⟨rfl, h6⟩
    refine hK.out _ _ (not_more (by kernel_rfl)) (fun hS => ?_)
    refine anyT.done (by kernel_rfl) ?_
    have HX3 : Hid (toRF (frT t) (rkT t) 0 = toR t) := rfl
    rw [List.nil_append, HX3.out] at h6
    have HB6 := Lib.hid h6
    have HWB := Lib.hid (wbyte_t w2.heap.size w2.heap.size (Lib.byteCells (txR (toR t))) 59 w6 h6.bl (by rw [Lib.byteCells_length]; have := HLN.out; omega) (h6.size (by have := HSB.out; omega)))
    clear h6 HP1 hS hK
    go_wp2_with fail
    refine HWB.out.mono ?_
    rintro e w7 ⟨rfl, h1, h2, h3⟩
    have HB7 := Lib.hid (HB6.out.byte (x := 59) rfl h1 h2 h3)
    have HST := Lib.hid (bstr_t w2.heap.size w2.heap.size (txR (toR t) ++ [59]) w7 HB7.out.bl (HB7.out.size (by have := HSB.out; omega)))
    clear h1 h2 h3
    go_wp2_with fail
    refine HST.out.mono ?_
    rintro e w8 ⟨rfl, _, h2, _⟩
    have HB8 : Hid (Up w2 w8) := Below.trans (HU4.out.trans HU5.out) (HB7.out.up.trans h2)
    clear h2
    go_wp2_with fail
    go_ret2
    exact ⟨HUW.out.trans HB8.out, by rw [HX1.out, HX2.out]; rfl⟩
  · have he1 : (treeErr t != 0) = true := by simpa using he
    have HX1 : Hid (txE t = 1) := by rw [Hid, HXE.out, if_pos he]
    have HX2 : Hid (txT t = []) := by rw [Hid, HXT.out, if_pos he]
    clear he
    generalize treeErr t = te at *
    go_wp2_with fail
    go_ret2
    exact ⟨HUW.out, by rw [HX1.out, HX2.out]; rfl⟩
end Go.Proofs.Ytcaialhoclodjaa
namespace Go.Proofs.Ytcaialhoclodjaa
theorem aln_sp {c : UInt8} (h : aln c = true) : c ∉ sp4 := fun hm => by
  simp only [sp4, List.mem_cons, List.not_mem_nil, or_false] at hm
  rcases hm with rfl | rfl | rfl | rfl <;> exact absurd h (by decide)
theorem named_sp {s : ByteArray} (h : namedB s.data.toList = true) : s.data.toList ≠ [] ∧ ∀ c ∈ s.data.toList, c ∉ sp4 := by
  generalize s.data.toList = l at h ⊢
  unfold namedB at h
  have key : ∀ l : List UInt8, isNameB l = true → l ≠ [] ∧ ∀ c ∈ l, c ∉ sp4 := fun l h => by
    unfold isNameB at h
    simp only [Bool.and_eq_true, decide_eq_true_eq, List.all_eq_true] at h
    exact ⟨fun e => by rw [e] at h; simp at h, fun c hc => aln_sp (h.2 c hc)⟩
  by_cases e : l.getLast? = some 42
  · rw [if_pos e] at h
    simp only [Bool.and_eq_true] at h
    obtain ⟨h1, h2⟩ := key _ h.1
    have hl : l ≠ [] := fun e2 => by subst e2; cases e
    refine ⟨hl, fun c hc => ?_⟩
    rw [← List.dropLast_concat_getLast hl, List.mem_append, List.mem_singleton] at hc
    rcases hc with hc | hc
    · exact h2 c hc
    · rw [List.getLast?_eq_some_getLast hl] at e
      have e := Option.some.inj e
      rw [hc, e]; decide
  · rw [if_neg e] at h; exact key l h
theorem GoodR.okp {r : RT} (h : GoodR r) : OkP r := fun s hs => ⟨h.inn s hs, fun hk => named_sp (h.lf s hs hk)⟩
section
variable {t : Tre}
theorem txT_eq (h : treeErr t = 0) : txT t = txR (toR t) ++ [59] := by unfold txT; rw [if_neg (by simp [h])]
/-- Equal canonical trees: equal texts. -/
theorem can_text {u : Tre} (ht : treeErr t = 0) (hu : treeErr u = 0) : canT t = canT u ↔ txT (canT t) = txT (canT u) := by
  constructor
  · intro e; rw [e]
  · intro e
    rw [txT_eq (canT_ok ht), txT_eq (canT_ok hu), toR_canT ht, toR_canT hu] at e
    have e := List.append_cancel_right e
    have := tx_inj (good_toR ht).sort.okp (good_toR hu).sort.okp e
    rw [canT_flat ht, canT_flat hu, this]
theorem leaf_one31 {nm : ByteArray} (h : nm.size ≠ 0) : leafR (.node nm []) = [nm] := by
  unfold leafR
  rw [nsR, nsRs]
  exact List.filter_eq_self.2 fun x hx => decide_eq_true (by rw [List.mem_singleton.1 hx]; exact h)
/-- The leaf that is met first. -/
theorem leaf_head : ∀ (r : RT), (∀ s ∈ subR r, s.kids ≠ [] → s.nm.size = 0) → (∀ s ∈ subR r, s.kids = [] → s.nm.size ≠ 0) → ∃ l, leafR r = firstR r :: l
  | .node nm [], _, h2 => ⟨[], by
    have h := h2 (.node nm []) (by rw [subR]; exact List.mem_cons_self) rfl
    rw [leaf_one31 (nm := nm) h, firstR]⟩
  | .node nm (k :: ks), h1, h2 => by
    have h0 : nm.size = 0 := h1 (.node nm (k :: ks)) (by rw [subR]; exact List.mem_cons_self) (by simp [RT.kids])
    have hk : ∀ s ∈ subR k, s ∈ subR (.node nm (k :: ks)) := fun s hs => by rw [subR, subRs]; simp [hs]
    obtain ⟨l, hl⟩ := leaf_head k (fun s hs => h1 s (hk s hs)) (fun s hs => h2 s (hk s hs))
    rw [leafR_node h0, List.flatMap_cons, hl, firstR]
    exact ⟨_, rfl⟩
theorem GoodR.head {r : RT} (h : GoodR r) : ∃ l, leafR r = firstR r :: l := leaf_head r h.inn fun s hs hk => named_size (h.lf s hs hk)
/-- The sorted tree does not depend on the order of the children. -/
theorem sort_perm {nm : ByteArray} {ks ls : List RT} (h : (ks.map sortR).Perm (ls.map sortR)) (hg : GoodR (.node nm ks)) : sortR (.node nm ks) = sortR (.node nm ls) := by
  rw [sortR, sortR]
  congr 1
  rw [sortRs_fold, sortRs_fold]
  refine ins_perm h ?_
  rw [List.map_map]
  exact good_dst hg _ (subR_self _)
end
mutual
/-- Children in the opposite order, everywhere. -/
def mirR : RT → RT
  | .node nm ks => .node nm (mirRs ks)
def mirRs : List RT → List RT
  | [] => []
  | r :: rs => mirRs rs ++ [mirR r]
end
theorem mirRs_map : ∀ ks : List RT, mirRs ks = (ks.map mirR).reverse
  | [] => rfl
  | k :: ks => by rw [mirRs, mirRs_map ks, List.map_cons, List.reverse_cons]
theorem GoodR.kid {nm : ByteArray} {ks : List RT} (h : GoodR (.node nm ks)) {k : RT} (hk : k ∈ ks) : GoodR k := by
  have hs : ∀ s ∈ subR k, s ∈ subR (.node nm ks) := fun s hs => by rw [subR, subRs_flat]; exact List.mem_cons_of_mem _ (List.mem_flatMap.2 ⟨k, hk, hs⟩)
  exact ⟨fun s h1 => h.inn s (hs s h1), fun s h1 => h.lf s (hs s h1), (leafR_sub (hs k (subR_self k))).nodup h.nd⟩
theorem mir_sort : ∀ (d : Nat) (r : RT), sizeR r ≤ d → GoodR r → sortR (mirR r) = sortR r
  | 0, r, hd, _ => by have := sizeR_pos r; omega
  | d + 1, .node nm ks, hd, hg => by
    rw [mirR, mirRs_map]
    refine (sort_perm ?_ hg).symm
    rw [List.map_reverse, List.map_map]
    have e : ks.map (sortR ∘ mirR) = ks.map sortR := List.map_congr_left fun k hk => mir_sort d k (by have := size_kid (nm := nm) hk; omega) (hg.kid hk)
    rw [e]
    exact (List.reverse_perm _).symm
end Go.Proofs.Ytcaialhoclodjaa
namespace Go.Proofs.Ytcaialhoclodjaa
def paE (s : ByteArray) : Int := match paR s.data.toList with
  | none => 3
  | some r => treeErr (flat r)
def paT (s : ByteArray) : Tre := match paR s.data.toList with
  | none => ⟨[], []⟩
  | some r => if treeErr (flat r) ≠ 0 then ⟨[], []⟩ else flat r
end Go.Proofs.Ytcaialhoclodjaa
namespace Go.Proofs.Ytcaialhoclodjaa
def exT : Tre := ⟨[-1, 0, 1, 1, 0], [⟨#[]⟩, ⟨#[]⟩, ⟨#[65]⟩, ⟨#[66]⟩, ⟨#[67]⟩]⟩
def exS : ByteArray := ⟨#[40, 40, 65, 44, 66, 41, 44, 67, 41, 59]⟩
def exX : Tre := ⟨[-1, 0, 1, 1, 0], [⟨#[]⟩, ⟨#[]⟩, ⟨#[65]⟩, ⟨#[67]⟩, ⟨#[66]⟩]⟩
def exR : Tre := ⟨[-1, 0, 0], [⟨#[]⟩, ⟨#[65]⟩, ⟨#[67]⟩]⟩
theorem ex_par : paE exS = 0 ∧ paT exS = exT := by decide +kernel
theorem ex_rr : rrCode exT 3 = 0 ∧ rrRes exT 3 = exX := by decide +kernel
theorem ex_tx : txE exX = 0 ∧ txT exX = [40, 40, 65, 44, 67, 41, 44, 66, 41, 59] := by decide +kernel
theorem ex_rs : rsErr exT [2, 4] = 0 ∧ rsT exT [2, 4] = exR := by decide +kernel
theorem ex_tr : txE exR = 0 ∧ txT exR = [40, 65, 44, 67, 41, 59] := by decide +kernel
end Go.Proofs.Ytcaialhoclodjaa
