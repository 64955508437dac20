/- Trees whose nodes stand for nested sets of names: valid, without one-child nodes; their .. -/
import Derived.Test.YteegefnjnikngaaGreatQ1
import Derived.Test.YteegefnjnikngaaGreatQ26
import Derived.Test.YteegefnjnikngaaGreatQ27
import Derived.Test.YteegefnjnikngaaGreatQ24
import Derived.Test.YteegefnjnikngaaGreatQ21
set_option maxRecDepth 100000
namespace Go.Proofs.YteegefnjnikngaaGreat
section
section
variable {names : List ByteArray} {t : ax} {S : Nat → List Int}
end
end
section
theorem I6 {c : UInt8} {s : List UInt8} (h : c ∉ bM) : Lib.indexAny (c :: s) bM < 0 ∨ 1 ≤ Lib.indexAny (c :: s) bM := by
 have hc : bM.contains c = false := by
  cases e : bM.contains c with
  | false => rfl
  | true => exact absurd (List.contains_iff_mem.1 e) h
 rw [Lib.indexAny, hc]
 have := Lib.indexAny_ge bM s
 by_cases e : Lib.indexAny s bM = -1
 ·left; simp [e]
 ·right; rw [if_neg (by simp), if_neg (by simpa using e)]; omega
theorem DF {c : UInt8} (h1 : c ≠ 40) (h2 : c ≠ 41) (h3 : c ≠ 44) (h4 : c ≠ 59) : c ∉ bM := by simp [bM, h1, h2, h3, h4]
theorem vz : ∀ (f g : Nat) (s : List UInt8) (st : List (List RT)) (b : Bool), s.length < f → s.length < g → pz f s st b = pz g s st b
 | 0, _, s, _, _, h, _ => by omega
 | _, 0, s, _, _, _, h => by omega
 | f + 1, g + 1, [], st, b, _, _ => rfl
 | f + 1, g + 1, c :: s, st, b, hf, hg => by
  rw [List.length_cons] at hf hg
  have key : ∀ (s' : List UInt8) (st' : List (List RT)) (b' : Bool), s'.length < f → s'.length < g → pz f s' st' b' = pz g s' st' b' := fun s' st' b' h1 h2 => vz f g s' st' b' h1 h2
  rw [pz, pz]
  by_cases c1 : c = 40
  ·rw [if_pos c1, if_pos c1, key s _ _ (by omega) (by omega)]
  rw [if_neg c1, if_neg c1]
  by_cases c2 : c = 41
  ·rw [if_pos c2, if_pos c2, key s _ _ (by omega) (by omega)]
  rw [if_neg c2, if_neg c2]
  by_cases c3 : c = 44
  ·rw [if_pos c3, if_pos c3, key s _ _ (by omega) (by omega)]
  rw [if_neg c3, if_neg c3]
  by_cases c4 : c = 59
  ·rw [if_pos c4, if_pos c4]
  rw [if_neg c4, if_neg c4]
  by_cases c5 : b = true
  ·rw [if_pos c5, if_pos c5]
  rw [if_neg c5, if_neg c5]
  rcases I6 (s := s) (DF c1 c2 c3 c4) with h | h
  ·rw [if_pos h, if_pos h]
  ·rw [if_neg (by omega), if_neg (by omega)]
   have hd : ((c :: s).drop (Lib.indexAny (c :: s) bM).toNat).length ≤ s.length := by
    rw [List.length_drop, List.length_cons]; omega
   exact key _ _ _ (by omega) (by omega)
def oC (s : List UInt8) (st : List (List RT)) (b : Bool) : Option RT := pz (s.length + 1) s st b
theorem Wt (s : List UInt8) : jr s = oC s [[]] false := rfl
theorem S8 (s : List UInt8) (st : List (List RT)) : oC (40 :: s) st false = oC s ([] :: st) false := by
 unfold oC; rw [pz, if_pos rfl, if_neg (by simp)]; exact vz _ _ _ _ _ (by simp) (by simp)
theorem Fl (s : List UInt8) (Z Y : List RT) (st : List (List RT)) : oC (41 :: s) (Z :: Y :: st) true = oC s ((Y ++ [.node ByteArray.empty Z]) :: st) true := by
 unfold oC; rw [pz, if_neg (by decide), if_pos rfl, if_neg (by simp)]; exact vz _ _ _ _ _ (by simp) (by simp)
theorem Qf (s : List UInt8) (Z Y : List RT) (st : List (List RT)) : oC (44 :: s) (Z :: Y :: st) true = oC s (Z :: Y :: st) false := by
 unfold oC; rw [pz, if_neg (by decide), if_neg (by decide), if_pos rfl, if_neg (by simp)]; exact vz _ _ _ _ _ (by simp) (by simp)
theorem Wu (r : RT) (Z : List RT) : oC [59] [r :: Z] true = some r := by
 unfold oC; rw [pz, if_neg (by decide), if_neg (by decide), if_neg (by decide), if_pos rfl, if_neg (by simp)]; rfl
theorem S9 {n s : List UInt8} {d : UInt8} (h0 : n ≠ []) (h : ∀ c ∈ n, c ∉ bM) (hd : d ∈ bM) (Z : List RT) (st : List (List RT)) : oC (n ++ d :: s) (Z :: st) false = oC (d :: s) ((Z ++ [.node ⟨n.toArray⟩ []]) :: st) true := by
 have hi : Lib.indexAny (n ++ d :: s) bM = (n.length : Nat) := by
  refine Lib.indexAny_hit (x := d) (fun j b hj hb => ?_) (by simp) (List.contains_iff_mem.2 hd)
  rw [List.getElem?_append_left hj] at hb
  have hm := List.mem_of_getElem? hb
  cases e : bM.contains b with
  | false => rfl
  | true => exact absurd (List.contains_iff_mem.1 e) (h b hm)
 cases n with
 | nil => exact absurd rfl h0
 | cons c n =>
  have hc := h c (by simp)
  simp only [bM, List.mem_cons, List.not_mem_nil, or_false, not_or] at hc
  unfold oC
  rw [List.cons_append] at hi ⊢
  rw [pz, if_neg hc.1, if_neg hc.2.1, if_neg hc.2.2.1, if_neg hc.2.2.2, if_neg (by simp), if_neg (by rw [hi]; omega), hi]
  have e1 : ((c :: (n ++ d :: s)).drop ((((c :: n).length : Nat) : Int)).toNat) = d :: s := by
   rw [Int.toNat_natCast, ← List.cons_append, List.drop_left]
  have e2 : ((c :: (n ++ d :: s)).take ((((c :: n).length : Nat) : Int)).toNat) = c :: n := by
   rw [Int.toNat_natCast, ← List.cons_append, List.take_left]
  rw [e1, e2]
  exact vz _ _ _ _ _ (by simp; omega) (by simp)
def lz (r : RT) : Prop := ∀ s ∈ subR r, (s.kids ≠ [] → s.nm.size = 0) ∧ (s.kids = [] → s.nm.data.toList ≠ [] ∧ ∀ c ∈ s.nm.data.toList, c ∉ bM)
theorem rY {nm : ByteArray} {ks : List RT} (h : lz (.node nm ks)) {k : RT} (hk : k ∈ ks) : lz k := fun s hs =>
 h s (by rw [subR, lT]; exact List.mem_cons_of_mem _ (List.mem_flatMap.2 ⟨k, hk, hs⟩))
theorem I7 {nm : ByteArray} {ks : List RT} (h0 : nm.size = 0) (h1 : ks ≠ []) (h : ∀ k ∈ ks, lz k) : lz (.node nm ks) := fun s hs => by
 rw [subR, lT, List.mem_cons, List.mem_flatMap] at hs
 rcases hs with rfl | ⟨k, hk, hs⟩
 ·exact ⟨fun _ => h0, fun e => absurd e h1⟩
 ·exact h k hk s hs
theorem I8 {nm : ByteArray} (h1 : nm.data.toList ≠ []) (h : ∀ c ∈ nm.data.toList, c ∉ bM) : lz (.node nm []) := fun s hs => by
 rw [subR, subRs, List.mem_singleton] at hs; subst hs
 exact ⟨fun e => absurd rfl e, fun _ => ⟨h1, h⟩⟩
theorem I9 {nm : ByteArray} (h : nm.size = 0) : nm = ByteArray.empty := S0 h rfl
mutual
theorem yQ : ∀ (r : RT), lz r → ∀ (d : UInt8) (s : List UInt8) (Z : List RT) (st : List (List RT)), d ∈ bM → oC (txR r ++ d :: s) (Z :: st) false = oC (d :: s) ((Z ++ [r]) :: st) true
 | .node nm [], h, d, s, Z, st, hd => by
  obtain ⟨_, h1⟩ := h _ (by rw [subR]; exact List.mem_cons_self)
  obtain ⟨h1, h2⟩ := h1 rfl
  have h1 : nm.data.toList ≠ [] := h1
  have h2 : ∀ c ∈ nm.data.toList, c ∉ bM := h2
  rw [txR, S9 h1 h2 hd]
 | .node nm (k :: ks), h, d, s, Z, st, hd => by
  obtain ⟨h1, _⟩ := h _ (by rw [subR]; exact List.mem_cons_self)
  have h1 := I9 (h1 (by simp [RT.kids]))
  have h1 : nm = ByteArray.empty := h1
  rw [txR, List.cons_append, S8, List.append_assoc, List.append_assoc]
  cases hks : ks with
  | nil =>
   rw [txRs, List.nil_append, List.cons_append, List.nil_append, yQ k (rY h (by simp)) 41 _ _ _ (by decide), Fl, h1]; rfl
  | cons k2 yO =>
   rw [← hks]
   have e : ∀ X : List UInt8, txRs ks ++ X = 44 :: (txR k2 ++ txRs yO ++ X) := fun X => by rw [hks, txRs, List.cons_append]
   rw [e, yQ k (rY h (by simp)) 44 _ _ _ (by decide), ← e, List.nil_append, List.singleton_append, LL ks (fun q hq => rY h (by simp [hq])) 41 _ _ _ _ (by decide), Fl, h1, List.singleton_append]
theorem LL : ∀ (ks : List RT), (∀ k ∈ ks, lz k) → ∀ (d : UInt8) (s : List UInt8) (Z Y : List RT) (st : List (List RT)), d ∈ bM → oC (txRs ks ++ d :: s) (Z :: Y :: st) true = oC (d :: s) ((Z ++ ks) :: Y :: st) true
 | [], _, d, s, Z, Y, st, _ => by rw [txRs, List.nil_append, List.append_nil]
 | k :: ks, h, d, s, Z, Y, st, hd => by
  rw [txRs, List.cons_append, Qf, List.append_assoc]
  have hk := h k (by simp)
  have ih := LL ks (fun q hq => h q (by simp [hq])) d s (Z ++ [k]) Y st hd
  rw [List.append_assoc, List.singleton_append] at ih
  rw [← ih]
  cases ks with
  | nil => rw [txRs, List.nil_append, yQ k hk d _ _ _ hd]
  | cons k2 yO => rw [txRs, List.cons_append, yQ k hk 44 _ _ _ (by decide)]
end
mutual
theorem zy : ∀ (r : RT), lz r → aI r ≤ (txR r).length ∧ ∀ s ∈ cQ r, s.size ≤ (txR r).length
 | .node nm [], h => by
  obtain ⟨_, h1⟩ := h _ (by rw [subR]; exact List.mem_cons_self)
  have h1 : nm.data.toList ≠ [] := (h1 rfl).1
  have hl : 0 < nm.data.toList.length := List.length_pos_iff.2 h1
  rw [aI, sizeRs, txR, cQ, dr]
  refine ⟨by omega, fun s hs => ?_⟩
  rw [List.mem_singleton.1 hs, size_data]; exact Nat.le_refl _
 | .node nm (k :: ks), h => by
  obtain ⟨h1, _⟩ := h _ (by rw [subR]; exact List.mem_cons_self)
  have h1 : nm.size = 0 := h1 (by simp [RT.kids])
  obtain ⟨a1, a2⟩ := zy k (rY h (by simp))
  obtain ⟨b1, b2⟩ := Ja ks (fun q hq => rY h (by simp [hq]))
  rw [aI, sizeRs, txR, cQ, dr, List.length_cons, List.length_append, List.length_append]
  refine ⟨by simp; omega, fun s hs => ?_⟩
  rcases List.mem_cons.1 hs with rfl | hs
  ·omega
  ·rcases List.mem_append.1 hs with hs | hs
   ·have := a2 s hs; omega
   ·have := b2 s hs; omega
theorem Ja : ∀ (ks : List RT), (∀ k ∈ ks, lz k) → sizeRs ks ≤ (txRs ks).length ∧ ∀ s ∈ dr ks, s.size ≤ (txRs ks).length
 | [], _ => ⟨by rw [sizeRs]; exact Nat.zero_le _, fun s hs => by rw [dr] at hs; cases hs⟩
 | k :: ks, h => by
  obtain ⟨a1, a2⟩ := zy k (h k (by simp))
  obtain ⟨b1, b2⟩ := Ja ks (fun q hq => h q (by simp [hq]))
  rw [sizeRs, txRs, dr, List.length_cons, List.length_append]
  refine ⟨by omega, fun s hs => ?_⟩
  rcases List.mem_append.1 hs with hs | hs
  ·have := a2 s hs; omega
  ·have := b2 s hs; omega
end
theorem vA {r : RT} (h : lz r) : jr (txR r ++ [59]) = some r := by
 rw [Wt, yQ r h 59 [] [] [] (by decide), List.nil_append, Wu]
theorem Qg {r q : RT} (hr : lz r) (hq : lz q) (e : txR r = txR q) : r = q := by
 have h := vA hr
 rw [e, vA hq] at h
 exact (Option.some.inj h).symm
def pT : List (List RT) → Bool → List UInt8
 | [], _ => []
 | [Z], _ => match Z with
  | [] => []
  | r :: _ => txR r
 | Z :: Y :: st, b => pT (Y :: st) false ++ (if Z = [] then [40] else gF Z ++ (if b then [] else [44]))
def PInv (st : List (List RT)) (b : Bool) : Prop := (∀ Z ∈ st, ∀ r ∈ Z, lz r) ∧ st ≠ [] ∧ (b = true → ∀ Z, st.head? = some Z → Z ≠ []) ∧ (∀ Z, st.getLast? = some Z → Z.length ≤ 1 ∧ ((st.length ≠ 1 ∨ b = false) → Z = []))
theorem Ta {Z Y : List RT} {st : List (List RT)} (h0 : Z ≠ []) (hl : st = [] → Y = []) : pT ((Y ++ [.node ByteArray.empty Z]) :: st) true = pT (Z :: Y :: st) true ++ [41] := by
 cases st with
 | nil =>
  rw [hl rfl]
  simp only [pT, List.nil_append, if_neg h0]
  rw [sY _ h0]; simp
 | cons X st =>
  have hne : Y ++ [RT.node ByteArray.empty Z] ≠ [] := by simp
  simp only [pT, if_neg h0, if_neg hne, if_true, zu, sY _ h0]
  by_cases hY : Y = []
  ·subst hY; simp [gF]
  ·have : Y.length ≠ 0 := by simpa using hY
   simp [hY]
theorem LM : ∀ (s : List UInt8) (n : Nat), Lib.indexAny s bM = (n : Int) → ∀ x ∈ s.take n, x ∉ bM
 | [], n, h, x, hx => by simp at hx
 | c :: s, 0, _, x, hx => by simp at hx
 | c :: s, n + 1, h, x, hx => by
  rw [Lib.indexAny] at h
  cases hc : bM.contains c with
  | true => rw [hc, if_pos rfl] at h; omega
  | false =>
   rw [hc, if_neg (by simp)] at h
   by_cases e : Lib.indexAny s bM = -1
   ·rw [e] at h; simp at h; omega
   ·rw [if_neg (by simpa using e)] at h
    rw [List.take_succ_cons, List.mem_cons] at hx
    rcases hx with rfl | hx
    ·intro hm; rw [List.contains_iff_mem.2 hm] at hc; cases hc
    ·exact LM s n (by omega) x hx
theorem UY : ∀ (s : List UInt8) (n : Nat), Lib.indexAny s bM = (n : Int) → n < s.length
 | [], n, h => by rw [Lib.indexAny] at h; omega
 | c :: s, 0, _ => by simp
 | c :: s, n + 1, h => by
  rw [Lib.indexAny] at h
  cases hc : bM.contains c with
  | true => rw [hc, if_pos rfl] at h; omega
  | false =>
   rw [hc, if_neg (by simp)] at h
   by_cases e : Lib.indexAny s bM = -1
   ·rw [e] at h; simp at h; omega
   ·rw [if_neg (by simpa using e)] at h
    have := UY s n (by omega)
    rw [List.length_cons]; omega
theorem Nj (s : ByteArray) (k n : Nat) : (⟨((s.data.toList.drop k).take n).toArray⟩ : ByteArray) = s.extract k (k + n) := by
 apply fc
 rw [ByteArray.data_extract]
 simp [Nat.add_sub_cancel_left]
theorem vB : ∀ (f : Nat) (s : List UInt8) (st : List (List RT)) (b : Bool) (r : RT), s.length < f → PInv st b → pz f s st b = some r → pT st b ++ s = txR r ++ [59] ∧ lz r
 | 0, _, _, _, _, h, _, _ => by omega
 | f + 1, [], st, b, r, _, _, e => by cases e
 | f + 1, c :: s, st, b, r, hf, hI, e => by
  rw [List.length_cons] at hf
  obtain ⟨i1, i2, i3, i4⟩ := hI
  rw [pz] at e
  by_cases c1 : c = 40
  ·rw [if_pos c1] at e
   cases b with
   | true => rw [if_pos rfl] at e; cases e
   | false =>
    rw [if_neg (by simp)] at e
    obtain ⟨h1, h2⟩ := vB f s ([] :: st) false r (by omega) ⟨fun Z hZ => by
     rcases List.mem_cons.1 hZ with rfl | h
     ·intro r hr; cases hr
     ·exact i1 Z h, by simp, (fun h => by cases h), fun Z hZ => by
      cases st with
      | nil => exact absurd rfl i2
      | cons Y st =>
       rw [List.getLast?_cons_cons] at hZ
       have := i4 Z hZ
       exact ⟨this.1, fun _ => this.2 (.inr rfl)⟩⟩ e
    refine ⟨?_, h2⟩
    rw [← h1, c1]
    cases st with
    | nil => exact absurd rfl i2
    | cons Y st => simp [pT]
  rw [if_neg c1] at e
  by_cases c2 : c = 41
  ·rw [if_pos c2] at e
   by_cases hb : b = false ∨ st.length = 1
   ·rw [if_pos hb] at e; cases e
   ·rw [if_neg hb] at e
    have hb1 : b = true := by cases b <;> simp at hb ⊢
    subst hb1
    match st, i2, hb with
    | [], h, _ => exact absurd rfl h
    | [Z], _, h => exact absurd (.inr rfl) h
    | Z :: Y :: st, _, _ =>
     have hZ : Z ≠ [] := i3 rfl Z rfl
     have hY : st = [] → Y = [] := fun h => by subst h; exact (i4 Y rfl).2 (.inl (by simp))
     rw [show popZ (Z :: Y :: st) = (Y ++ [.node ByteArray.empty Z]) :: st from rfl] at e
     obtain ⟨h1, h2⟩ := vB f s ((Y ++ [.node ByteArray.empty Z]) :: st) true r (by omega) ⟨fun X hX r hr => by
      rcases List.mem_cons.1 hX with rfl | h
      ·rcases List.mem_append.1 hr with h | h
       ·exact i1 Y (by simp) r h
       ·rw [List.mem_singleton.1 h]; exact I7 rfl hZ fun k hk => i1 Z (by simp) k hk
      ·exact i1 X (by simp [h]) r hr, by simp, (fun _ X hX => by cases hX; simp), fun X hX => by
       cases st with
       | nil =>
        cases hX; rw [hY rfl]
        exact ⟨by simp, fun h => by simp at h⟩
       | cons W st =>
        rw [List.getLast?_cons_cons] at hX
        have := i4 X (by rw [List.getLast?_cons_cons, List.getLast?_cons_cons]; exact hX)
        exact ⟨this.1, fun _ => this.2 (.inl (by simp))⟩⟩ e
     refine ⟨?_, h2⟩
     rw [← h1, Ta hZ hY, c2]; simp
  rw [if_neg c2] at e
  by_cases c3 : c = 44
  ·rw [if_pos c3] at e
   by_cases hb : b = false ∨ st.length = 1
   ·rw [if_pos hb] at e; cases e
   ·rw [if_neg hb] at e
    have hb1 : b = true := by cases b <;> simp at hb ⊢
    subst hb1
    match st, i2, hb with
    | [], h, _ => exact absurd rfl h
    | [Z], _, h => exact absurd (.inr rfl) h
    | Z :: Y :: st, _, _ =>
     have hZ : Z ≠ [] := i3 rfl Z rfl
     obtain ⟨h1, h2⟩ := vB f s (Z :: Y :: st) false r (by omega) ⟨i1, by simp, (fun h => by cases h), fun X hX => ⟨(i4 X hX).1, fun _ => (i4 X hX).2 (.inl (by simp))⟩⟩ e
     refine ⟨?_, h2⟩
     rw [← h1, c3]
     simp [pT, hZ]
  rw [if_neg c3] at e
  by_cases c4 : c = 59
  ·rw [if_pos c4] at e
   by_cases hb : b = false ∨ st.length ≠ 1 ∨ s ≠ []
   ·rw [if_pos hb] at e; cases e
   ·rw [if_neg hb] at e
    have hb1 : b = true := by cases b <;> simp at hb ⊢
    have hs : s = [] := by simp at hb; exact hb.2.2
    have hl : st.length = 1 := by simp at hb; exact hb.2.1
    subst hb1; subst hs
    match st, hl with
    | [Z], _ =>
     have hZ : Z ≠ [] := i3 rfl Z rfl
     cases Z with
     | nil => exact absurd rfl hZ
     | cons q Z =>
      cases e
      rw [c4]
      exact ⟨rfl, i1 (q :: Z) List.mem_cons_self q List.mem_cons_self⟩
  rw [if_neg c4] at e
  by_cases c5 : b = true
  ·rw [if_pos c5] at e; cases e
  rw [if_neg c5] at e
  have hb : b = false := by cases b <;> simp at c5 ⊢
  subst hb
  by_cases c6 : Lib.indexAny (c :: s) bM < 0
  ·rw [if_pos c6] at e; cases e
  rw [if_neg c6] at e
  have hn := (I6 (s := s) (DF c1 c2 c3 c4)).resolve_left c6
  obtain ⟨n, hn2⟩ : ∃ n : Nat, Lib.indexAny (c :: s) bM = (n : Int) := ⟨(Lib.indexAny (c :: s) bM).toNat, by omega⟩
  rw [hn2, Int.toNat_natCast] at e
  have hno : ∀ x ∈ (c :: s).take n, x ∉ bM := LM _ n hn2
  match st, i2 with
  | Z :: st, _ =>
   have hne : (c :: s).take n ≠ [] := by
    cases n with
    | zero => omega
    | succ n => simp
   rw [show ∀ q, Z6 q (Z :: st) = (Z ++ [q]) :: st from fun _ => rfl] at e
   obtain ⟨h1, h2⟩ := vB f ((c :: s).drop n) ((Z ++ [.node ⟨((c :: s).take n).toArray⟩ []]) :: st) true r (by rw [List.length_drop, List.length_cons]; omega) ⟨fun X hX r hr => by
     rcases List.mem_cons.1 hX with rfl | h
     ·rcases List.mem_append.1 hr with h | h
      ·exact i1 Z (by simp) r h
      ·rw [List.mem_singleton.1 h]; exact I8 (by simpa using hne) (by simpa using hno)
     ·exact i1 X (by simp [h]) r hr, by simp, (fun _ X hX => by cases hX; simp), fun X hX => by
      cases st with
      | nil =>
       cases hX; rw [(i4 Z rfl).2 (.inr rfl)]
       exact ⟨by simp, fun h => by simp at h⟩
      | cons W st =>
       rw [List.getLast?_cons_cons] at hX
       have := i4 X (by rw [List.getLast?_cons_cons]; exact hX)
       exact ⟨this.1, fun _ => this.2 (.inr rfl)⟩⟩ e
   refine ⟨?_, h2⟩
   rw [← h1]
   have ht : c :: s = (c :: s).take n ++ (c :: s).drop n := (List.take_append_drop _ _).symm
   cases st with
   | nil =>
    rw [(i4 Z rfl).2 (.inr rfl)]
    simp only [pT, List.nil_append, txR]
    exact ht
   | cons W st =>
    have Di : Z ++ [RT.node ⟨((c :: s).take n).toArray⟩ []] ≠ [] := by simp
    simp only [pT, if_neg Di, if_true, zu, txR, List.append_nil]
    by_cases hZ : Z = []
    ·subst hZ; simp [gF]
    ·have hz : Z.length ≠ 0 := by simpa using hZ
     simp [hZ]
theorem Fm {s : List UInt8} {r : RT} (h : jr s = some r) : s = txR r ++ [59] ∧ lz r := by
 obtain ⟨h1, h2⟩ := vB _ s [[]] false r (Nat.lt_succ_self _) ⟨(fun Z hZ r hr => by simp at hZ; subst hZ; cases hr), by simp, (fun h => by cases h), fun Z hZ => by cases hZ; simp⟩ h
 exact ⟨h1, h2⟩
theorem yR {s : List UInt8} {r : RT} (h : jr s = some r) : (flat r).ps.length ≤ s.length ∧ (flat r).ns.length ≤ s.length ∧ ∀ k, (gs (flat r).ns k).size ≤ s.length := by
 obtain ⟨h1, h2⟩ := Fm h
 obtain ⟨h3, h4⟩ := zy r h2
 have hl : s.length = (txR r).length + 1 := by rw [h1]; simp
 refine ⟨by rw [jG]; omega, by rw [pF]; omega, fun k => ?_⟩
 by_cases hk : k < (cQ r).length
 ·have hm : gs (cQ r) k ∈ cQ r := by simp [gs, hk]
  have := h4 _ hm
  show (gs (cQ r) k).size ≤ _
  omega
 ·have : gs (flat r).ns k = ByteArray.empty := by
   show (cQ r).getD k ByteArray.empty = _
   simp [show (cQ r).length ≤ k by omega]
  rw [this]; exact Nat.zero_le _
end
section
open Go.RowKit Go.Deep
section
variable {base n : Nat} {A : Nat → Nat} {kv : Nat → Value} {F : aP} {w w' : World}
theorem aS.Qh (h : aS base n A kv F w) (hb : base ≤ w.heap.size) {v : Value} {ks : List Nat} (nm : ByteArray) (old : Int) (hv : aA base 124 w v (ks.map (aL A)))
  (hA : ∀ b, v.ownBlock = some b → ∀ i, i < n → b ≠ A i) (hkv : ∀ b, v.ownBlock = some b → ∀ i, i < n → (kv i).ownBlock ≠ some b) (hks : ∀ j ∈ ks, j < n) :
  aS base (n + 1) (upd A n w.heap.size) (upd kv n v) ⟨upd F.nm n nm, upd F.old n old, upd F.kids n ks⟩ (w.alloc (.cells #[.string nm, v, .int .i64 old] 127)) := by
 have hne : ∀ i, i < n → i ≠ n := fun i hi => by omega
 have hmap : ∀ l : List Nat, (∀ k ∈ l, k < n) → l.map (aL (upd A n w.heap.size)) = l.map (aL A) := fun l hl => by
  refine List.map_congr_left fun k hk => ?_
  unfold aL; rw [upd_ne _ _ (hne k (hl k hk))]
 have fq : ∀ i, i < n + 1 → i < n ∨ i = n := fun i hi => by omega
 refine ⟨fun i hi => ?_, fun i hi => ?_, fun i j hi hj e => ?_, fun i hi => ?_, fun i j hi hj => ?_, fun i j b hi hj h1 h2 => ?_, fun i hi => ?_⟩
 ·rcases fq i hi with hi | rfl
  ·simp only [upd_ne _ _ (hne i hi)]; rw [blk_alloc_lt _ _ _ (h.lt hi)]; exact h.node i hi
  ·simp only [upd_same]; exact blk_alloc_new _ _
 ·rcases fq i hi with hi | rfl
  ·rw [upd_ne _ _ (hne i hi)]; exact h.lo i hi
  ·rw [upd_same]; exact hb
 ·rcases fq i hi with hi | rfl <;> rcases fq j hj with hj | rfl
  ·rw [upd_ne _ _ (hne i hi), upd_ne _ _ (hne j hj)] at e; exact h.inj i j hi hj e
  ·rw [upd_ne _ _ (hne i hi), upd_same] at e; have := h.lt hi; omega
  ·rw [upd_same, upd_ne _ _ (hne j hj)] at e; have := h.lt hj; omega
  ·rfl
 ·rcases fq i hi with hi | rfl
  ·simp only [upd_ne _ _ (hne i hi)]; rw [hmap _ (h.kid i hi)]; exact (h.own i hi).alloc _
  ·simp only [upd_same]; rw [hmap _ hks]; exact hv.alloc _
 ·rcases fq i hi with hi | rfl
  ·rw [upd_ne _ _ (hne i hi)]
   rcases fq j hj with hj | rfl
   ·rw [upd_ne _ _ (hne j hj)]; exact h.apart i j hi hj
   ·rw [upd_same]; intro e; have := (h.ep hi e).2; omega
  ·rw [upd_same]
   intro e
   rcases fq j hj with hj | rfl
   ·rw [upd_ne _ _ (hne j hj)] at e; exact hA _ e j hj rfl
   ·rw [upd_same] at e; have := (aF hv e).2; omega
 ·rcases fq i hi with hi | rfl <;> rcases fq j hj with hj | rfl
  ·rw [upd_ne _ _ (hne i hi)] at h1; rw [upd_ne _ _ (hne j hj)] at h2; exact h.alone i j b hi hj h1 h2
  ·rw [upd_ne _ _ (hne i hi)] at h1; rw [upd_same] at h2; exact absurd h1 (hkv b h2 i hi)
  ·rw [upd_same] at h1; rw [upd_ne _ _ (hne j hj)] at h2; exact absurd h2 (hkv b h1 j hj)
  ·rfl
 ·rcases fq i hi with hi | rfl
  ·simp only [upd_ne _ _ (hne i hi)]; intro k hk; have := h.kid i hi k hk; omega
  ·simp only [upd_same]; intro k hk; have := hks k hk; omega
theorem aS.del (h : aS base n A kv F w) {x g m cap : Nat} {ks : List Nat} (hx : x < n) (hg : (kv x).ownBlock = some g) (hw : w.grownBy w' (some g)) (hv : aA base 124 w' (.slice (some ⟨g, 0, none⟩) m cap) (ks.map (aL A))) (hks : ∀ j ∈ ks, j < n) :
  aS base n A (upd kv x (.slice (some ⟨g, 0, none⟩) m cap)) { F with kids := upd F.kids x ks } (w'.setCell ⟨A x, 1, none⟩ (.slice (some ⟨g, 0, none⟩) m cap)) := by
 have hold : ∀ i, i < n → w'.heap[A i]? = w.heap[A i]? := fun i hi => hw.block (A i) (h.lt hi) (fun e => h.apart x i hx hi (by rw [hg, e]))
 have hgA : g ≠ A x := fun e => h.apart x x hx hx (by rw [hg, e])
 refine h.put hx (fun i hi e => ?_) ?_ (hv.same fun b hb => blk_setCell_other _ _ _ _ (by have hb : some g = some b := hb; injection hb with hb; subst hb; exact hgA)) (fun i b hi e hb2 => ?_) (fun b hb => .inl (by rw [hg]; exact hb)) hks
 ·rw [blk_setCell_other _ _ _ _ (fun e2 => e (h.inj i x hi hx e2))]; exact hold i hi
 ·have hn := hold x hx
  rw [h.node x hx] at hn
  simp [World.setCell, Array.getElem?_modify, hn]
 ·have hne : b ≠ A x := fun e2 => h.apart i x hi hx (by rw [hb2, e2])
  rw [blk_setCell_other _ _ _ _ hne]
  exact hw.block b (h.ep hi hb2).2 (fun e2 => e (h.alone i x b hi hx hb2 (by rw [hg, e2])))
end
def Qi (F : aP) (h fW x : Nat) : aP := ⟨F.nm, F.old, upd (upd F.kids x ((F.kids x).filter fun k => !decide (F.old k = (fW : Int)))) h (upd F.kids x ((F.kids x).filter fun k => !decide (F.old k = (fW : Int))) h ++ [x])⟩
structure RrS where
 fr : aP
 hang : Nat
 fW : Nat
 cur : Int
def rrK (t : ax) (leaf : Nat) : Nat → RrS
 | 0 => ⟨⟨upd (dy t).nm t.ps.length ByteArray.empty, upd (dy t).old t.ps.length 0, upd (dy t).kids t.ps.length [leaf]⟩, t.ps.length, leaf, gi t.ps leaf⟩
 | i + 1 => if (rrK t leaf i).cur < 0 then rrK t leaf i else ⟨Qi (rrK t leaf i).fr (rrK t leaf i).hang (rrK t leaf i).fW (rrK t leaf i).cur.toNat, (rrK t leaf i).cur.toNat, (rrK t leaf i).cur.toNat, gi t.ps (rrK t leaf i).cur.toNat⟩
theorem Jb {t : ax} {leaf i : Nat} (h : ¬ (rrK t leaf i).cur < 0) : rrK t leaf (i + 1) = ⟨Qi (rrK t leaf i).fr (rrK t leaf i).hang (rrK t leaf i).fW (rrK t leaf i).cur.toNat, (rrK t leaf i).cur.toNat, (rrK t leaf i).cur.toNat, gi t.ps (rrK t leaf i).cur.toNat⟩ := by rw [rrK, if_neg h]
theorem Wv {t : ax} (ht : az t = 0) {leaf : Nat} (hl : leaf < t.ps.length) : ∀ i, (rrK t leaf i).fW < t.ps.length ∧ (rrK t leaf i).hang < t.ps.length + 1 ∧ (rrK t leaf i).cur = gi t.ps (rrK t leaf i).fW ∧ (rrK t leaf i).cur < (rrK t leaf i).fW ∧ ((rrK t leaf i).hang = t.ps.length ∨ (rrK t leaf i).hang = (rrK t leaf i).fW) ∧ -1 ≤ (rrK t leaf i).cur := by
 obtain ⟨hp, _, _, hok, _⟩ := aH ht
 have hpar : ∀ k, k < t.ps.length → -1 ≤ gi t.ps k ∧ gi t.ps k < (k : Int) := fun k hk => by
  by_cases h0 : k = 0
  ·subst h0
   have := uK hok hp
   unfold jm at this
   rw [if_pos rfl, beq_iff_eq] at this
   rw [this]; omega
  ·have := mR hok hk (by omega); omega
 intro i
 induction i with
 | zero => exact ⟨hl, by show t.ps.length < _; omega, rfl, (hpar leaf hl).2, .inl rfl, (hpar leaf hl).1⟩
 | succ i ih =>
  by_cases hc : (rrK t leaf i).cur < 0
  ·rw [rrK, if_pos hc]; exact ih
  ·rw [Jb hc]
   have hx : (rrK t leaf i).cur.toNat < t.ps.length := by omega
   exact ⟨hx, by show (rrK t leaf i).cur.toNat < _; omega, rfl, (hpar _ hx).2, .inr rfl, (hpar _ hx).1⟩
end
section
section
variable {t : ax}
theorem vC (h : az t = 0) : ∀ (d i j : Nat), t.ps.length - i ≤ d → i < t.ps.length → j < t.ps.length → aM (dy t) (bY t) i j = eY t.ps i j
 | 0, i, _, hd, hi, _ => by omega
 | d + 1, i, j, hd, hi, hj => by
  obtain ⟨_, _, _, hok, _⟩ := aH h
  have hw := (cK h).wf
  rw [Bool.eq_iff_iff, nK hok hj, fh hw hi, Bool.or_eq_true, beq_iff_eq, List.any_eq_true]
  constructor
  ·rintro (e | ⟨c, hc, e⟩)
   ·exact .inl e
   ·rw [gJ] at hc
    obtain ⟨h1, h2, h3⟩ := bf.1 hc
    exact .inr ⟨c, h1, h2, h3, by rw [← vC h d c j (by omega) h1 hj]; exact e⟩
  ·rintro (e | ⟨c, h1, h2, h3, e⟩)
   ·exact .inl e
   ·exact .inr ⟨c, by rw [gJ]; exact bf.2 ⟨h1, h2, h3⟩, by rw [vC h d c j (by omega) h1 hj]; exact e⟩
theorem uf {ps : List Int} (hp : iJ ps = true) {i k : Nat} (hik : i ≤ k) : ∀ (d j : Nat), j ≤ d → j < ps.length → eY ps i j = true → eY ps k j = true → eY ps i k = true
 | d, j, hd, hj, h1, h2 => by
  have hkj := ou hp hj h2
  by_cases e : j = k
  ·subst e; exact h1
  ·obtain ⟨p0, pj⟩ := mR hp hj (by omega)
   rw [jZ hp hj (by omega)] at h1 h2
   cases d with
   | zero => omega
   | succ d => exact uf hp hik d (gi ps j).toNat (by omega) (by omega) h1 h2
end
end
end Go.Proofs.YteegefnjnikngaaGreat
