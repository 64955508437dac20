/- Texts of rose trees, plain: what the machine reads is the text of the result, and the .. -/
import Derived.Test.YteegefnjnikngaaGreatQ1
import Derived.Test.YteegefnjnikngaaGreatQ28
set_option maxRecDepth 100000
namespace Go.Proofs.YteegefnjnikngaaGreat
theorem Eh {c : UInt8} {s : List UInt8} (h : c ∉ bu) : Lib.indexAny (c :: s) bu < 0 ∨ 1 ≤ Lib.indexAny (c :: s) bu := by
 have hc : bu.contains c = false := by
  cases e : bu.contains c with
  | false => rfl
  | true => exact absurd (List.contains_iff_mem.1 e) h
 rw [Lib.indexAny, hc]
 have := Lib.indexAny_ge bu s
 by_cases e : Lib.indexAny s bu = -1
 ·left; simp [e]
 ·right; rw [if_neg (by simp), if_neg (by simpa using e)]; omega
theorem zU {c : UInt8} (h1 : c ≠ 40) (h2 : c ≠ 41) (h3 : c ≠ 44) (h4 : c ≠ 59) : c ∉ bu := by simp [bu, h1, h2, h3, h4]
theorem rK : ∀ (f g : Nat) (s : List UInt8) (st : List (List RT)) (b : Bool), s.length < f → s.length < g → pz f s st b = pz g s st b
 | 0, _, s, _, _, h, _ => by omega
 | _, 0, s, _, _, _, h => by omega
 | f + 1, g + 1, [], st, b, _, _ => rfl
 | f + 1, g + 1, c :: s, st, b, hf, hg => by
  rw [List.length_cons] at hf hg
  have key : ∀ (s' : List UInt8) (st' : List (List RT)) (b' : Bool), s'.length < f → s'.length < g → pz f s' st' b' = pz g s' st' b' := fun s' st' b' h1 h2 => rK f g s' st' b' h1 h2
  rw [pz, pz]
  by_cases c1 : c = 40
  ·rw [if_pos c1, if_pos c1, key s _ _ (by omega) (by omega)]
  rw [if_neg c1, if_neg c1]
  by_cases c2 : c = 41
  ·rw [if_pos c2, if_pos c2, key s _ _ (by omega) (by omega)]
  rw [if_neg c2, if_neg c2]
  by_cases c3 : c = 44
  ·rw [if_pos c3, if_pos c3, key s _ _ (by omega) (by omega)]
  rw [if_neg c3, if_neg c3]
  by_cases c4 : c = 59
  ·rw [if_pos c4, if_pos c4]
  rw [if_neg c4, if_neg c4]
  by_cases c5 : b = true
  ·rw [if_pos c5, if_pos c5]
  rw [if_neg c5, if_neg c5]
  rcases Eh (s := s) (zU c1 c2 c3 c4) with h | h
  ·rw [if_pos h, if_pos h]
  ·rw [if_neg (by omega), if_neg (by omega)]
   have hd : ((c :: s).drop (Lib.indexAny (c :: s) bu).toNat).length ≤ s.length := by
    rw [List.length_drop, List.length_cons]; omega
   exact key _ _ _ (by omega) (by omega)
def lN (s : List UInt8) (st : List (List RT)) (b : Bool) : Option RT := pz (s.length + 1) s st b
theorem Q4 (s : List UInt8) : gH s = lN s [[]] false := rfl
theorem NX (s : List UInt8) (st : List (List RT)) : lN (40 :: s) st false = lN s ([] :: st) false := by
 unfold lN; rw [pz, if_pos rfl, if_neg (by simp)]; exact rK _ _ _ _ _ (by simp) (by simp)
theorem BL (s : List UInt8) (Z Y : List RT) (st : List (List RT)) : lN (41 :: s) (Z :: Y :: st) true = lN s ((Y ++ [.node ByteArray.empty Z]) :: st) true := by
 unfold lN; rw [pz, if_neg (by decide), if_pos rfl, if_neg (by simp)]; exact rK _ _ _ _ _ (by simp) (by simp)
theorem Lh (s : List UInt8) (Z Y : List RT) (st : List (List RT)) : lN (44 :: s) (Z :: Y :: st) true = lN s (Z :: Y :: st) false := by
 unfold lN; rw [pz, if_neg (by decide), if_neg (by decide), if_pos rfl, if_neg (by simp)]; exact rK _ _ _ _ _ (by simp) (by simp)
theorem Q5 (r : RT) (Z : List RT) : lN [59] [r :: Z] true = some r := by
 unfold lN; rw [pz, if_neg (by decide), if_neg (by decide), if_neg (by decide), if_pos rfl, if_neg (by simp)]; rfl
theorem NY {n s : List UInt8} {d : UInt8} (h0 : n ≠ []) (h : ∀ c ∈ n, c ∉ bu) (hd : d ∈ bu) (Z : List RT) (st : List (List RT)) : lN (n ++ d :: s) (Z :: st) false = lN (d :: s) ((Z ++ [.node ⟨n.toArray⟩ []]) :: st) true := by
 have hi : Lib.indexAny (n ++ d :: s) bu = (n.length : Nat) := by
  refine Lib.indexAny_hit (x := d) (fun j b hj hb => ?_) (by simp) (List.contains_iff_mem.2 hd)
  rw [List.getElem?_append_left hj] at hb
  have hm := List.mem_of_getElem? hb
  cases e : bu.contains b with
  | false => rfl
  | true => exact absurd (List.contains_iff_mem.1 e) (h b hm)
 cases n with
 | nil => exact absurd rfl h0
 | cons c n =>
  have hc := h c (by simp)
  simp only [bu, List.mem_cons, List.not_mem_nil, or_false, not_or] at hc
  unfold lN
  rw [List.cons_append] at hi ⊢
  rw [pz, if_neg hc.1, if_neg hc.2.1, if_neg hc.2.2.1, if_neg hc.2.2.2, if_neg (by simp), if_neg (by rw [hi]; omega), hi]
  have e1 : ((c :: (n ++ d :: s)).drop ((((c :: n).length : Nat) : Int)).toNat) = d :: s := by
   rw [Int.toNat_natCast, ← List.cons_append, List.drop_left]
  have e2 : ((c :: (n ++ d :: s)).take ((((c :: n).length : Nat) : Int)).toNat) = c :: n := by
   rw [Int.toNat_natCast, ← List.cons_append, List.take_left]
  rw [e1, e2]
  exact rK _ _ _ _ _ (by simp; omega) (by simp)
def jr (r : RT) : Prop := ∀ s ∈ subR r, (s.kids ≠ [] → s.nm.size = 0) ∧ (s.kids = [] → s.nm.data.toList ≠ [] ∧ ∀ c ∈ s.nm.data.toList, c ∉ bu)
theorem og {nm : ByteArray} {ks : List RT} (h : jr (.node nm ks)) {k : RT} (hk : k ∈ ks) : jr k := fun s hs =>
 h s (by rw [subR, lD]; exact List.mem_cons_of_mem _ (List.mem_flatMap.2 ⟨k, hk, hs⟩))
theorem Ei {nm : ByteArray} {ks : List RT} (h0 : nm.size = 0) (h1 : ks ≠ []) (h : ∀ k ∈ ks, jr k) : jr (.node nm ks) := fun s hs => by
 rw [subR, lD, List.mem_cons, List.mem_flatMap] at hs
 rcases hs with rfl | ⟨k, hk, hs⟩
 ·exact ⟨fun _ => h0, fun e => absurd e h1⟩
 ·exact h k hk s hs
theorem Ej {nm : ByteArray} (h1 : nm.data.toList ≠ []) (h : ∀ c ∈ nm.data.toList, c ∉ bu) : jr (.node nm []) := fun s hs => by
 rw [subR, subRs, List.mem_singleton] at hs; subst hs
 exact ⟨fun e => absurd rfl e, fun _ => ⟨h1, h⟩⟩
theorem Ek {nm : ByteArray} (h : nm.size = 0) : nm = ByteArray.empty := NN h rfl
mutual
theorem uS : ∀ (r : RT), jr r → ∀ (d : UInt8) (s : List UInt8) (Z : List RT) (st : List (List RT)), d ∈ bu → lN (txR r ++ d :: s) (Z :: st) false = lN (d :: s) ((Z ++ [r]) :: st) true
 | .node nm [], h, d, s, Z, st, hd => by
  obtain ⟨_, h1⟩ := h _ (by rw [subR]; exact List.mem_cons_self)
  obtain ⟨h1, h2⟩ := h1 rfl
  have h1 : nm.data.toList ≠ [] := h1
  have h2 : ∀ c ∈ nm.data.toList, c ∉ bu := h2
  rw [txR, NY h1 h2 hd]
 | .node nm (k :: ks), h, d, s, Z, st, hd => by
  obtain ⟨h1, _⟩ := h _ (by rw [subR]; exact List.mem_cons_self)
  have h1 := Ek (h1 (by simp [RT.kids]))
  have h1 : nm = ByteArray.empty := h1
  rw [txR, List.cons_append, NX, List.append_assoc, List.append_assoc]
  cases hks : ks with
  | nil =>
   rw [txRs, List.nil_append, List.cons_append, List.nil_append, uS k (og h (by simp)) 41 _ _ _ (by decide), BL, h1]; rfl
  | cons k2 uP =>
   rw [← hks]
   have e : ∀ X : List UInt8, txRs ks ++ X = 44 :: (txR k2 ++ txRs uP ++ X) := fun X => by rw [hks, txRs, List.cons_append]
   rw [e, uS k (og h (by simp)) 44 _ _ _ (by decide), ← e, List.nil_append, List.singleton_append, GH ks (fun q hq => og h (by simp [hq])) 41 _ _ _ _ (by decide), BL, h1, List.singleton_append]
theorem GH : ∀ (ks : List RT), (∀ k ∈ ks, jr k) → ∀ (d : UInt8) (s : List UInt8) (Z Y : List RT) (st : List (List RT)), d ∈ bu → lN (txRs ks ++ d :: s) (Z :: Y :: st) true = lN (d :: s) ((Z ++ ks) :: Y :: st) true
 | [], _, d, s, Z, Y, st, _ => by rw [txRs, List.nil_append, List.append_nil]
 | k :: ks, h, d, s, Z, Y, st, hd => by
  rw [txRs, List.cons_append, Lh, List.append_assoc]
  have hk := h k (by simp)
  have ih := GH ks (fun q hq => h q (by simp [hq])) d s (Z ++ [k]) Y st hd
  rw [List.append_assoc, List.singleton_append] at ih
  rw [← ih]
  cases ks with
  | nil => rw [txRs, List.nil_append, uS k hk d _ _ _ hd]
  | cons k2 uP => rw [txRs, List.cons_append, uS k hk 44 _ _ _ (by decide)]
end
mutual
theorem vP : ∀ (r : RT), jr r → aG r ≤ (txR r).length ∧ ∀ s ∈ b7 r, s.size ≤ (txR r).length
 | .node nm [], h => by
  obtain ⟨_, h1⟩ := h _ (by rw [subR]; exact List.mem_cons_self)
  have h1 : nm.data.toList ≠ [] := (h1 rfl).1
  have hl : 0 < nm.data.toList.length := List.length_pos_iff.2 h1
  rw [aG, sizeRs, txR, b7, cu]
  refine ⟨by omega, fun s hs => ?_⟩
  rw [List.mem_singleton.1 hs, size_data]; exact Nat.le_refl _
 | .node nm (k :: ks), h => by
  obtain ⟨h1, _⟩ := h _ (by rw [subR]; exact List.mem_cons_self)
  have h1 : nm.size = 0 := h1 (by simp [RT.kids])
  obtain ⟨a1, a2⟩ := vP k (og h (by simp))
  obtain ⟨b1, b2⟩ := Em ks (fun q hq => og h (by simp [hq]))
  rw [aG, sizeRs, txR, b7, cu, List.length_cons, List.length_append, List.length_append]
  refine ⟨by simp; omega, fun s hs => ?_⟩
  rcases List.mem_cons.1 hs with rfl | hs
  ·omega
  ·rcases List.mem_append.1 hs with hs | hs
   ·have := a2 s hs; omega
   ·have := b2 s hs; omega
theorem Em : ∀ (ks : List RT), (∀ k ∈ ks, jr k) → sizeRs ks ≤ (txRs ks).length ∧ ∀ s ∈ cu ks, s.size ≤ (txRs ks).length
 | [], _ => ⟨by rw [sizeRs]; exact Nat.zero_le _, fun s hs => by rw [cu] at hs; cases hs⟩
 | k :: ks, h => by
  obtain ⟨a1, a2⟩ := vP k (h k (by simp))
  obtain ⟨b1, b2⟩ := Em ks (fun q hq => h q (by simp [hq]))
  rw [sizeRs, txRs, cu, List.length_cons, List.length_append]
  refine ⟨by omega, fun s hs => ?_⟩
  rcases List.mem_append.1 hs with hs | hs
  ·have := a2 s hs; omega
  ·have := b2 s hs; omega
end
theorem rL {r : RT} (h : jr r) : gH (txR r ++ [59]) = some r := by
 rw [Q4, uS r h 59 [] [] [] (by decide), List.nil_append, Q5]
theorem Li {r q : RT} (hr : jr r) (hq : jr q) (e : txR r = txR q) : r = q := by
 have h := rL hr
 rw [e, rL hq] at h
 exact (Option.some.inj h).symm
def pT : List (List RT) → Bool → List UInt8
 | [], _ => []
 | [Z], _ => match Z with
  | [] => []
  | r :: _ => txR r
 | Z :: Y :: st, b => pT (Y :: st) false ++ (if Z = [] then [40] else eL Z ++ (if b then [] else [44]))
def PInv (st : List (List RT)) (b : Bool) : Prop := (∀ Z ∈ st, ∀ r ∈ Z, jr r) ∧ st ≠ [] ∧ (b = true → ∀ Z, st.head? = some Z → Z ≠ []) ∧ (∀ Z, st.getLast? = some Z → Z.length ≤ 1 ∧ ((st.length ≠ 1 ∨ b = false) → Z = []))
theorem NZ {Z Y : List RT} {st : List (List RT)} (h0 : Z ≠ []) (hl : st = [] → Y = []) : pT ((Y ++ [.node ByteArray.empty Z]) :: st) true = pT (Z :: Y :: st) true ++ [41] := by
 cases st with
 | nil =>
  rw [hl rfl]
  simp only [pT, List.nil_append, if_neg h0]
  rw [pG _ h0]; simp
 | cons X st =>
  have hne : Y ++ [RT.node ByteArray.empty Z] ≠ [] := by simp
  simp only [pT, if_neg h0, if_neg hne, if_true, vO, pG _ h0]
  by_cases hY : Y = []
  ·subst hY; simp [eL]
  ·have : Y.length ≠ 0 := by simpa using hY
   simp [hY]
theorem GI : ∀ (s : List UInt8) (n : Nat), Lib.indexAny s bu = (n : Int) → ∀ x ∈ s.take n, x ∉ bu
 | [], n, h, x, hx => by simp at hx
 | c :: s, 0, _, x, hx => by simp at hx
 | c :: s, n + 1, h, x, hx => by
  rw [Lib.indexAny] at h
  cases hc : bu.contains c with
  | true => rw [hc, if_pos rfl] at h; omega
  | false =>
   rw [hc, if_neg (by simp)] at h
   by_cases e : Lib.indexAny s bu = -1
   ·rw [e] at h; simp at h; omega
   ·rw [if_neg (by simpa using e)] at h
    rw [List.take_succ_cons, List.mem_cons] at hx
    rcases hx with rfl | hx
    ·intro hm; rw [List.contains_iff_mem.2 hm] at hc; cases hc
    ·exact GI s n (by omega) x hx
theorem PK : ∀ (s : List UInt8) (n : Nat), Lib.indexAny s bu = (n : Int) → n < s.length
 | [], n, h => by rw [Lib.indexAny] at h; omega
 | c :: s, 0, _ => by simp
 | c :: s, n + 1, h => by
  rw [Lib.indexAny] at h
  cases hc : bu.contains c with
  | true => rw [hc, if_pos rfl] at h; omega
  | false =>
   rw [hc, if_neg (by simp)] at h
   by_cases e : Lib.indexAny s bu = -1
   ·rw [e] at h; simp at h; omega
   ·rw [if_neg (by simpa using e)] at h
    have := PK s n (by omega)
    rw [List.length_cons]; omega
theorem IU (s : ByteArray) (k n : Nat) : (⟨((s.data.toList.drop k).take n).toArray⟩ : ByteArray) = s.extract k (k + n) := by
 apply dH
 rw [ByteArray.data_extract]
 simp [Nat.add_sub_cancel_left]
theorem rM : ∀ (f : Nat) (s : List UInt8) (st : List (List RT)) (b : Bool) (r : RT), s.length < f → PInv st b → pz f s st b = some r → pT st b ++ s = txR r ++ [59] ∧ jr r
 | 0, _, _, _, _, h, _, _ => by omega
 | f + 1, [], st, b, r, _, _, e => by cases e
 | f + 1, c :: s, st, b, r, hf, hI, e => by
  rw [List.length_cons] at hf
  obtain ⟨i1, i2, i3, i4⟩ := hI
  rw [pz] at e
  by_cases c1 : c = 40
  ·rw [if_pos c1] at e
   cases b with
   | true => rw [if_pos rfl] at e; cases e
   | false =>
    rw [if_neg (by simp)] at e
    obtain ⟨h1, h2⟩ := rM f s ([] :: st) false r (by omega) ⟨fun Z hZ => by
     rcases List.mem_cons.1 hZ with rfl | h
     ·intro r hr; cases hr
     ·exact i1 Z h, by simp, (fun h => by cases h), fun Z hZ => by
      cases st with
      | nil => exact absurd rfl i2
      | cons Y st =>
       rw [List.getLast?_cons_cons] at hZ
       have := i4 Z hZ
       exact ⟨this.1, fun _ => this.2 (.inr rfl)⟩⟩ e
    refine ⟨?_, h2⟩
    rw [← h1, c1]
    cases st with
    | nil => exact absurd rfl i2
    | cons Y st => simp [pT]
  rw [if_neg c1] at e
  by_cases c2 : c = 41
  ·rw [if_pos c2] at e
   by_cases hb : b = false ∨ st.length = 1
   ·rw [if_pos hb] at e; cases e
   ·rw [if_neg hb] at e
    have hb1 : b = true := by cases b <;> simp at hb ⊢
    subst hb1
    match st, i2, hb with
    | [], h, _ => exact absurd rfl h
    | [Z], _, h => exact absurd (.inr rfl) h
    | Z :: Y :: st, _, _ =>
     have hZ : Z ≠ [] := i3 rfl Z rfl
     have hY : st = [] → Y = [] := fun h => by subst h; exact (i4 Y rfl).2 (.inl (by simp))
     rw [show popZ (Z :: Y :: st) = (Y ++ [.node ByteArray.empty Z]) :: st from rfl] at e
     obtain ⟨h1, h2⟩ := rM f s ((Y ++ [.node ByteArray.empty Z]) :: st) true r (by omega) ⟨fun X hX r hr => by
      rcases List.mem_cons.1 hX with rfl | h
      ·rcases List.mem_append.1 hr with h | h
       ·exact i1 Y (by simp) r h
       ·rw [List.mem_singleton.1 h]; exact Ei rfl hZ fun k hk => i1 Z (by simp) k hk
      ·exact i1 X (by simp [h]) r hr, by simp, (fun _ X hX => by cases hX; simp), fun X hX => by
       cases st with
       | nil =>
        cases hX; rw [hY rfl]
        exact ⟨by simp, fun h => by simp at h⟩
       | cons W st =>
        rw [List.getLast?_cons_cons] at hX
        have := i4 X (by rw [List.getLast?_cons_cons, List.getLast?_cons_cons]; exact hX)
        exact ⟨this.1, fun _ => this.2 (.inl (by simp))⟩⟩ e
     refine ⟨?_, h2⟩
     rw [← h1, NZ hZ hY, c2]; simp
  rw [if_neg c2] at e
  by_cases c3 : c = 44
  ·rw [if_pos c3] at e
   by_cases hb : b = false ∨ st.length = 1
   ·rw [if_pos hb] at e; cases e
   ·rw [if_neg hb] at e
    have hb1 : b = true := by cases b <;> simp at hb ⊢
    subst hb1
    match st, i2, hb with
    | [], h, _ => exact absurd rfl h
    | [Z], _, h => exact absurd (.inr rfl) h
    | Z :: Y :: st, _, _ =>
     have hZ : Z ≠ [] := i3 rfl Z rfl
     obtain ⟨h1, h2⟩ := rM f s (Z :: Y :: st) false r (by omega) ⟨i1, by simp, (fun h => by cases h), fun X hX => ⟨(i4 X hX).1, fun _ => (i4 X hX).2 (.inl (by simp))⟩⟩ e
     refine ⟨?_, h2⟩
     rw [← h1, c3]
     simp [pT, hZ]
  rw [if_neg c3] at e
  by_cases c4 : c = 59
  ·rw [if_pos c4] at e
   by_cases hb : b = false ∨ st.length ≠ 1 ∨ s ≠ []
   ·rw [if_pos hb] at e; cases e
   ·rw [if_neg hb] at e
    have hb1 : b = true := by cases b <;> simp at hb ⊢
    have hs : s = [] := by simp at hb; exact hb.2.2
    have hl : st.length = 1 := by simp at hb; exact hb.2.1
    subst hb1; subst hs
    match st, hl with
    | [Z], _ =>
     have hZ : Z ≠ [] := i3 rfl Z rfl
     cases Z with
     | nil => exact absurd rfl hZ
     | cons q Z =>
      cases e
      rw [c4]
      exact ⟨rfl, i1 (q :: Z) List.mem_cons_self q List.mem_cons_self⟩
  rw [if_neg c4] at e
  by_cases c5 : b = true
  ·rw [if_pos c5] at e; cases e
  rw [if_neg c5] at e
  have hb : b = false := by cases b <;> simp at c5 ⊢
  subst hb
  by_cases c6 : Lib.indexAny (c :: s) bu < 0
  ·rw [if_pos c6] at e; cases e
  rw [if_neg c6] at e
  have hn := (Eh (s := s) (zU c1 c2 c3 c4)).resolve_left c6
  obtain ⟨n, hn2⟩ : ∃ n : Nat, Lib.indexAny (c :: s) bu = (n : Int) := ⟨(Lib.indexAny (c :: s) bu).toNat, by omega⟩
  rw [hn2, Int.toNat_natCast] at e
  have hno : ∀ x ∈ (c :: s).take n, x ∉ bu := GI _ n hn2
  match st, i2 with
  | Z :: st, _ =>
   have hne : (c :: s).take n ≠ [] := by
    cases n with
    | zero => omega
    | succ n => simp
   rw [show ∀ q, UB q (Z :: st) = (Z ++ [q]) :: st from fun _ => rfl] at e
   obtain ⟨h1, h2⟩ := rM f ((c :: s).drop n) ((Z ++ [.node ⟨((c :: s).take n).toArray⟩ []]) :: st) true r (by rw [List.length_drop, List.length_cons]; omega) ⟨fun X hX r hr => by
     rcases List.mem_cons.1 hX with rfl | h
     ·rcases List.mem_append.1 hr with h | h
      ·exact i1 Z (by simp) r h
      ·rw [List.mem_singleton.1 h]; exact Ej (by simpa using hne) (by simpa using hno)
     ·exact i1 X (by simp [h]) r hr, by simp, (fun _ X hX => by cases hX; simp), fun X hX => by
      cases st with
      | nil =>
       cases hX; rw [(i4 Z rfl).2 (.inr rfl)]
       exact ⟨by simp, fun h => by simp at h⟩
      | cons W st =>
       rw [List.getLast?_cons_cons] at hX
       have := i4 X (by rw [List.getLast?_cons_cons]; exact hX)
       exact ⟨this.1, fun _ => this.2 (.inr rfl)⟩⟩ e
   refine ⟨?_, h2⟩
   rw [← h1]
   have ht : c :: s = (c :: s).take n ++ (c :: s).drop n := (List.take_append_drop _ _).symm
   cases st with
   | nil =>
    rw [(i4 Z rfl).2 (.inr rfl)]
    simp only [pT, List.nil_append, txR]
    exact ht
   | cons W st =>
    have zB : Z ++ [RT.node ⟨((c :: s).take n).toArray⟩ []] ≠ [] := by simp
    simp only [pT, if_neg zB, if_true, vO, txR, List.append_nil]
    by_cases hZ : Z = []
    ·subst hZ; simp [eL]
    ·have hz : Z.length ≠ 0 := by simpa using hZ
     simp [hZ]
theorem BM {s : List UInt8} {r : RT} (h : gH s = some r) : s = txR r ++ [59] ∧ jr r := by
 obtain ⟨h1, h2⟩ := rM _ s [[]] false r (Nat.lt_succ_self _) ⟨(fun Z hZ r hr => by simp at hZ; subst hZ; cases hr), by simp, (fun h => by cases h), fun Z hZ => by cases hZ; simp⟩ h
 exact ⟨h1, h2⟩
theorem uT {s : List UInt8} {r : RT} (h : gH s = some r) : (flat r).ps.length ≤ s.length ∧ (flat r).ns.length ≤ s.length ∧ ∀ k, (gs (flat r).ns k).size ≤ s.length := by
 obtain ⟨h1, h2⟩ := BM h
 obtain ⟨h3, h4⟩ := vP r h2
 have hl : s.length = (txR r).length + 1 := by rw [h1]; simp
 refine ⟨by rw [kM]; omega, by rw [oa]; omega, fun k => ?_⟩
 by_cases hk : k < (b7 r).length
 ·have hm : gs (b7 r) k ∈ b7 r := by simp [gs, hk]
  have := h4 _ hm
  show (gs (b7 r) k).size ≤ _
  omega
 ·have : gs (flat r).ns k = ByteArray.empty := by
   show (b7 r).getD k ByteArray.empty = _
   simp [show (b7 r).length ≤ k by omega]
  rw [this]; exact Nat.zero_le _
end Go.Proofs.YteegefnjnikngaaGreat
