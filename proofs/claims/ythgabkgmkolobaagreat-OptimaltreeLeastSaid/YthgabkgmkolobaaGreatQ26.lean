/- Texts of rose trees, plain: what the machine reads is the text of the result, and the .. -/
import Derived.Test.YthgabkgmkolobaaGreatQ1
import Derived.Test.YthgabkgmkolobaaGreatQ24
import Derived.Test.YthgabkgmkolobaaGreatQ23
import Derived.Test.YthgabkgmkolobaaGreatQ25
set_option maxRecDepth 100000
namespace Go.Proofs.YthgabkgmkolobaaGreat
section
theorem Hx {c : UInt8} {s : List UInt8} (h : c ∉ bF) : Lib.indexAny (c :: s) bF < 0 ∨ 1 ≤ Lib.indexAny (c :: s) bF := by
 have hc : bF.contains c = false := by
  cases e : bF.contains c with
  | false => rfl
  | true => exact absurd (List.contains_iff_mem.1 e) h
 rw [Lib.indexAny, hc]
 have := Lib.indexAny_ge bF s
 by_cases e : Lib.indexAny s bF = -1
 ·left; simp [e]
 ·right; rw [if_neg (by simp), if_neg (by simpa using e)]; omega
theorem Dd {c : UInt8} (h1 : c ≠ 40) (h2 : c ≠ 41) (h3 : c ≠ 44) (h4 : c ≠ 59) : c ∉ bF := by simp [bF, h1, h2, h3, h4]
theorem uO : ∀ (f g : Nat) (s : List UInt8) (st : List (List RT)) (b : Bool), s.length < f → s.length < g → pz f s st b = pz g s st b
 | 0, _, s, _, _, h, _ => by omega
 | _, 0, s, _, _, _, h => by omega
 | f + 1, g + 1, [], st, b, _, _ => rfl
 | f + 1, g + 1, c :: s, st, b, hf, hg => by
  rw [List.length_cons] at hf hg
  have key : ∀ (s' : List UInt8) (st' : List (List RT)) (b' : Bool), s'.length < f → s'.length < g → pz f s' st' b' = pz g s' st' b' := fun s' st' b' h1 h2 => uO f g s' st' b' h1 h2
  rw [pz, pz]
  by_cases c1 : c = 40
  ·rw [if_pos c1, if_pos c1, key s _ _ (by omega) (by omega)]
  rw [if_neg c1, if_neg c1]
  by_cases c2 : c = 41
  ·rw [if_pos c2, if_pos c2, key s _ _ (by omega) (by omega)]
  rw [if_neg c2, if_neg c2]
  by_cases c3 : c = 44
  ·rw [if_pos c3, if_pos c3, key s _ _ (by omega) (by omega)]
  rw [if_neg c3, if_neg c3]
  by_cases c4 : c = 59
  ·rw [if_pos c4, if_pos c4]
  rw [if_neg c4, if_neg c4]
  by_cases c5 : b = true
  ·rw [if_pos c5, if_pos c5]
  rw [if_neg c5, if_neg c5]
  rcases Hx (s := s) (Dd c1 c2 c3 c4) with h | h
  ·rw [if_pos h, if_pos h]
  ·rw [if_neg (by omega), if_neg (by omega)]
   have hd : ((c :: s).drop (Lib.indexAny (c :: s) bF).toNat).length ≤ s.length := by
    rw [List.length_drop, List.length_cons]; omega
   exact key _ _ _ (by omega) (by omega)
def nV (s : List UInt8) (st : List (List RT)) (b : Bool) : Option RT := pz (s.length + 1) s st b
theorem V7 (s : List UInt8) : iU s = nV s [[]] false := rfl
theorem SC (s : List UInt8) (st : List (List RT)) : nV (40 :: s) st false = nV s ([] :: st) false := by
 unfold nV; rw [pz, if_pos rfl, if_neg (by simp)]; exact uO _ _ _ _ _ (by simp) (by simp)
theorem EN (s : List UInt8) (Z Y : List RT) (st : List (List RT)) : nV (41 :: s) (Z :: Y :: st) true = nV s ((Y ++ [.node ByteArray.empty Z]) :: st) true := by
 unfold nV; rw [pz, if_neg (by decide), if_pos rfl, if_neg (by simp)]; exact uO _ _ _ _ _ (by simp) (by simp)
theorem Pz (s : List UInt8) (Z Y : List RT) (st : List (List RT)) : nV (44 :: s) (Z :: Y :: st) true = nV s (Z :: Y :: st) false := by
 unfold nV; rw [pz, if_neg (by decide), if_neg (by decide), if_pos rfl, if_neg (by simp)]; exact uO _ _ _ _ _ (by simp) (by simp)
theorem V8 (r : RT) (Z : List RT) : nV [59] [r :: Z] true = some r := by
 unfold nV; rw [pz, if_neg (by decide), if_neg (by decide), if_neg (by decide), if_pos rfl, if_neg (by simp)]; rfl
theorem SD {n s : List UInt8} {d : UInt8} (h0 : n ≠ []) (h : ∀ c ∈ n, c ∉ bF) (hd : d ∈ bF) (Z : List RT) (st : List (List RT)) : nV (n ++ d :: s) (Z :: st) false = nV (d :: s) ((Z ++ [.node ⟨n.toArray⟩ []]) :: st) true := by
 have hi : Lib.indexAny (n ++ d :: s) bF = (n.length : Nat) := by
  refine Lib.indexAny_hit (x := d) (fun j b hj hb => ?_) (by simp) (List.contains_iff_mem.2 hd)
  rw [List.getElem?_append_left hj] at hb
  have hm := List.mem_of_getElem? hb
  cases e : bF.contains b with
  | false => rfl
  | true => exact absurd (List.contains_iff_mem.1 e) (h b hm)
 cases n with
 | nil => exact absurd rfl h0
 | cons c n =>
  have hc := h c (by simp)
  simp only [bF, List.mem_cons, List.not_mem_nil, or_false, not_or] at hc
  unfold nV
  rw [List.cons_append] at hi ⊢
  rw [pz, if_neg hc.1, if_neg hc.2.1, if_neg hc.2.2.1, if_neg hc.2.2.2, if_neg (by simp), if_neg (by rw [hi]; omega), hi]
  have e1 : ((c :: (n ++ d :: s)).drop ((((c :: n).length : Nat) : Int)).toNat) = d :: s := by
   rw [Int.toNat_natCast, ← List.cons_append, List.drop_left]
  have e2 : ((c :: (n ++ d :: s)).take ((((c :: n).length : Nat) : Int)).toNat) = c :: n := by
   rw [Int.toNat_natCast, ← List.cons_append, List.take_left]
  rw [e1, e2]
  exact uO _ _ _ _ _ (by simp; omega) (by simp)
def kG (r : RT) : Prop := ∀ s ∈ subR r, (s.kids ≠ [] → s.nm.size = 0) ∧ (s.kids = [] → s.nm.data.toList ≠ [] ∧ ∀ c ∈ s.nm.data.toList, c ∉ bF)
theorem ru {nm : ByteArray} {ks : List RT} (h : kG (.node nm ks)) {k : RT} (hk : k ∈ ks) : kG k := fun s hs =>
 h s (by rw [subR, lI]; exact List.mem_cons_of_mem _ (List.mem_flatMap.2 ⟨k, hk, hs⟩))
theorem Hy {nm : ByteArray} {ks : List RT} (h0 : nm.size = 0) (h1 : ks ≠ []) (h : ∀ k ∈ ks, kG k) : kG (.node nm ks) := fun s hs => by
 rw [subR, lI, List.mem_cons, List.mem_flatMap] at hs
 rcases hs with rfl | ⟨k, hk, hs⟩
 ·exact ⟨fun _ => h0, fun e => absurd e h1⟩
 ·exact h k hk s hs
theorem Hz {nm : ByteArray} (h1 : nm.data.toList ≠ []) (h : ∀ c ∈ nm.data.toList, c ∉ bF) : kG (.node nm []) := fun s hs => by
 rw [subR, subRs, List.mem_singleton] at hs; subst hs
 exact ⟨fun e => absurd rfl e, fun _ => ⟨h1, h⟩⟩
theorem H7 {nm : ByteArray} (h : nm.size = 0) : nm = ByteArray.empty := Sq h rfl
mutual
theorem yC : ∀ (r : RT), kG r → ∀ (d : UInt8) (s : List UInt8) (Z : List RT) (st : List (List RT)), d ∈ bF → nV (txR r ++ d :: s) (Z :: st) false = nV (d :: s) ((Z ++ [r]) :: st) true
 | .node nm [], h, d, s, Z, st, hd => by
  obtain ⟨_, h1⟩ := h _ (by rw [subR]; exact List.mem_cons_self)
  obtain ⟨h1, h2⟩ := h1 rfl
  have h1 : nm.data.toList ≠ [] := h1
  have h2 : ∀ c ∈ nm.data.toList, c ∉ bF := h2
  rw [txR, SD h1 h2 hd]
 | .node nm (k :: ks), h, d, s, Z, st, hd => by
  obtain ⟨h1, _⟩ := h _ (by rw [subR]; exact List.mem_cons_self)
  have h1 := H7 (h1 (by simp [RT.kids]))
  have h1 : nm = ByteArray.empty := h1
  rw [txR, List.cons_append, SC, List.append_assoc, List.append_assoc]
  cases hks : ks with
  | nil =>
   rw [txRs, List.nil_append, List.cons_append, List.nil_append, yC k (ru h (by simp)) 41 _ _ _ (by decide), EN, h1]; rfl
  | cons k2 yz =>
   rw [← hks]
   have e : ∀ X : List UInt8, txRs ks ++ X = 44 :: (txR k2 ++ txRs yz ++ X) := fun X => by rw [hks, txRs, List.cons_append]
   rw [e, yC k (ru h (by simp)) 44 _ _ _ (by decide), ← e, List.nil_append, List.singleton_append, Lh ks (fun q hq => ru h (by simp [hq])) 41 _ _ _ _ (by decide), EN, h1, List.singleton_append]
theorem Lh : ∀ (ks : List RT), (∀ k ∈ ks, kG k) → ∀ (d : UInt8) (s : List UInt8) (Z Y : List RT) (st : List (List RT)), d ∈ bF → nV (txRs ks ++ d :: s) (Z :: Y :: st) true = nV (d :: s) ((Z ++ ks) :: Y :: st) true
 | [], _, d, s, Z, Y, st, _ => by rw [txRs, List.nil_append, List.append_nil]
 | k :: ks, h, d, s, Z, Y, st, hd => by
  rw [txRs, List.cons_append, Pz, List.append_assoc]
  have hk := h k (by simp)
  have ih := Lh ks (fun q hq => h q (by simp [hq])) d s (Z ++ [k]) Y st hd
  rw [List.append_assoc, List.singleton_append] at ih
  rw [← ih]
  cases ks with
  | nil => rw [txRs, List.nil_append, yC k hk d _ _ _ hd]
  | cons k2 yz => rw [txRs, List.cons_append, yC k hk 44 _ _ _ (by decide)]
end
mutual
theorem zn : ∀ (r : RT), kG r → aH r ≤ (txR r).length ∧ ∀ s ∈ cM r, s.size ≤ (txR r).length
 | .node nm [], h => by
  obtain ⟨_, h1⟩ := h _ (by rw [subR]; exact List.mem_cons_self)
  have h1 : nm.data.toList ≠ [] := (h1 rfl).1
  have hl : 0 < nm.data.toList.length := List.length_pos_iff.2 h1
  rw [aH, sizeRs, txR, cM, dg]
  refine ⟨by omega, fun s hs => ?_⟩
  rw [List.mem_singleton.1 hs, size_data]; exact Nat.le_refl _
 | .node nm (k :: ks), h => by
  obtain ⟨h1, _⟩ := h _ (by rw [subR]; exact List.mem_cons_self)
  have h1 : nm.size = 0 := h1 (by simp [RT.kids])
  obtain ⟨a1, a2⟩ := zn k (ru h (by simp))
  obtain ⟨b1, b2⟩ := Ia ks (fun q hq => ru h (by simp [hq]))
  rw [aH, sizeRs, txR, cM, dg, List.length_cons, List.length_append, List.length_append]
  refine ⟨by simp; omega, fun s hs => ?_⟩
  rcases List.mem_cons.1 hs with rfl | hs
  ·omega
  ·rcases List.mem_append.1 hs with hs | hs
   ·have := a2 s hs; omega
   ·have := b2 s hs; omega
theorem Ia : ∀ (ks : List RT), (∀ k ∈ ks, kG k) → sizeRs ks ≤ (txRs ks).length ∧ ∀ s ∈ dg ks, s.size ≤ (txRs ks).length
 | [], _ => ⟨by rw [sizeRs]; exact Nat.zero_le _, fun s hs => by rw [dg] at hs; cases hs⟩
 | k :: ks, h => by
  obtain ⟨a1, a2⟩ := zn k (h k (by simp))
  obtain ⟨b1, b2⟩ := Ia ks (fun q hq => h q (by simp [hq]))
  rw [sizeRs, txRs, dg, List.length_cons, List.length_append]
  refine ⟨by omega, fun s hs => ?_⟩
  rcases List.mem_append.1 hs with hs | hs
  ·have := a2 s hs; omega
  ·have := b2 s hs; omega
end
theorem uP {r : RT} (h : kG r) : iU (txR r ++ [59]) = some r := by
 rw [V7, yC r h 59 [] [] [] (by decide), List.nil_append, V8]
theorem PA {r q : RT} (hr : kG r) (hq : kG q) (e : txR r = txR q) : r = q := by
 have h := uP hr
 rw [e, uP hq] at h
 exact (Option.some.inj h).symm
def pT : List (List RT) → Bool → List UInt8
 | [], _ => []
 | [Z], _ => match Z with
  | [] => []
  | r :: _ => txR r
 | Z :: Y :: st, b => pT (Y :: st) false ++ (if Z = [] then [40] else fV Z ++ (if b then [] else [44]))
def PInv (st : List (List RT)) (b : Bool) : Prop := (∀ Z ∈ st, ∀ r ∈ Z, kG r) ∧ st ≠ [] ∧ (b = true → ∀ Z, st.head? = some Z → Z ≠ []) ∧ (∀ Z, st.getLast? = some Z → Z.length ≤ 1 ∧ ((st.length ≠ 1 ∨ b = false) → Z = []))
theorem SE {Z Y : List RT} {st : List (List RT)} (h0 : Z ≠ []) (hl : st = [] → Y = []) : pT ((Y ++ [.node ByteArray.empty Z]) :: st) true = pT (Z :: Y :: st) true ++ [41] := by
 cases st with
 | nil =>
  rw [hl rfl]
  simp only [pT, List.nil_append, if_neg h0]
  rw [sg _ h0]; simp
 | cons X st =>
  have hne : Y ++ [RT.node ByteArray.empty Z] ≠ [] := by simp
  simp only [pT, if_neg h0, if_neg hne, if_true, zm, sg _ h0]
  by_cases hY : Y = []
  ·subst hY; simp [fV]
  ·have : Y.length ≠ 0 := by simpa using hY
   simp [hY]
theorem Li : ∀ (s : List UInt8) (n : Nat), Lib.indexAny s bF = (n : Int) → ∀ x ∈ s.take n, x ∉ bF
 | [], n, h, x, hx => by simp at hx
 | c :: s, 0, _, x, hx => by simp at hx
 | c :: s, n + 1, h, x, hx => by
  rw [Lib.indexAny] at h
  cases hc : bF.contains c with
  | true => rw [hc, if_pos rfl] at h; omega
  | false =>
   rw [hc, if_neg (by simp)] at h
   by_cases e : Lib.indexAny s bF = -1
   ·rw [e] at h; simp at h; omega
   ·rw [if_neg (by simpa using e)] at h
    rw [List.take_succ_cons, List.mem_cons] at hx
    rcases hx with rfl | hx
    ·intro hm; rw [List.contains_iff_mem.2 hm] at hc; cases hc
    ·exact Li s n (by omega) x hx
theorem U4 : ∀ (s : List UInt8) (n : Nat), Lib.indexAny s bF = (n : Int) → n < s.length
 | [], n, h => by rw [Lib.indexAny] at h; omega
 | c :: s, 0, _ => by simp
 | c :: s, n + 1, h => by
  rw [Lib.indexAny] at h
  cases hc : bF.contains c with
  | true => rw [hc, if_pos rfl] at h; omega
  | false =>
   rw [hc, if_neg (by simp)] at h
   by_cases e : Lib.indexAny s bF = -1
   ·rw [e] at h; simp at h; omega
   ·rw [if_neg (by simpa using e)] at h
    have := U4 s n (by omega)
    rw [List.length_cons]; omega
theorem MN (s : ByteArray) (k n : Nat) : (⟨((s.data.toList.drop k).take n).toArray⟩ : ByteArray) = s.extract k (k + n) := by
 apply eL
 rw [ByteArray.data_extract]
 simp [Nat.add_sub_cancel_left]
theorem uQ : ∀ (f : Nat) (s : List UInt8) (st : List (List RT)) (b : Bool) (r : RT), s.length < f → PInv st b → pz f s st b = some r → pT st b ++ s = txR r ++ [59] ∧ kG r
 | 0, _, _, _, _, h, _, _ => by omega
 | f + 1, [], st, b, r, _, _, e => by cases e
 | f + 1, c :: s, st, b, r, hf, hI, e => by
  rw [List.length_cons] at hf
  obtain ⟨i1, i2, i3, i4⟩ := hI
  rw [pz] at e
  by_cases c1 : c = 40
  ·rw [if_pos c1] at e
   cases b with
   | true => rw [if_pos rfl] at e; cases e
   | false =>
    rw [if_neg (by simp)] at e
    obtain ⟨h1, h2⟩ := uQ f s ([] :: st) false r (by omega) ⟨fun Z hZ => by
     rcases List.mem_cons.1 hZ with rfl | h
     ·intro r hr; cases hr
     ·exact i1 Z h, by simp, (fun h => by cases h), fun Z hZ => by
      cases st with
      | nil => exact absurd rfl i2
      | cons Y st =>
       rw [List.getLast?_cons_cons] at hZ
       have := i4 Z hZ
       exact ⟨this.1, fun _ => this.2 (.inr rfl)⟩⟩ e
    refine ⟨?_, h2⟩
    rw [← h1, c1]
    cases st with
    | nil => exact absurd rfl i2
    | cons Y st => simp [pT]
  rw [if_neg c1] at e
  by_cases c2 : c = 41
  ·rw [if_pos c2] at e
   by_cases hb : b = false ∨ st.length = 1
   ·rw [if_pos hb] at e; cases e
   ·rw [if_neg hb] at e
    have hb1 : b = true := by cases b <;> simp at hb ⊢
    subst hb1
    match st, i2, hb with
    | [], h, _ => exact absurd rfl h
    | [Z], _, h => exact absurd (.inr rfl) h
    | Z :: Y :: st, _, _ =>
     have hZ : Z ≠ [] := i3 rfl Z rfl
     have hY : st = [] → Y = [] := fun h => by subst h; exact (i4 Y rfl).2 (.inl (by simp))
     rw [show popZ (Z :: Y :: st) = (Y ++ [.node ByteArray.empty Z]) :: st from rfl] at e
     obtain ⟨h1, h2⟩ := uQ f s ((Y ++ [.node ByteArray.empty Z]) :: st) true r (by omega) ⟨fun X hX r hr => by
      rcases List.mem_cons.1 hX with rfl | h
      ·rcases List.mem_append.1 hr with h | h
       ·exact i1 Y (by simp) r h
       ·rw [List.mem_singleton.1 h]; exact Hy rfl hZ fun k hk => i1 Z (by simp) k hk
      ·exact i1 X (by simp [h]) r hr, by simp, (fun _ X hX => by cases hX; simp), fun X hX => by
       cases st with
       | nil =>
        cases hX; rw [hY rfl]
        exact ⟨by simp, fun h => by simp at h⟩
       | cons W st =>
        rw [List.getLast?_cons_cons] at hX
        have := i4 X (by rw [List.getLast?_cons_cons, List.getLast?_cons_cons]; exact hX)
        exact ⟨this.1, fun _ => this.2 (.inl (by simp))⟩⟩ e
     refine ⟨?_, h2⟩
     rw [← h1, SE hZ hY, c2]; simp
  rw [if_neg c2] at e
  by_cases c3 : c = 44
  ·rw [if_pos c3] at e
   by_cases hb : b = false ∨ st.length = 1
   ·rw [if_pos hb] at e; cases e
   ·rw [if_neg hb] at e
    have hb1 : b = true := by cases b <;> simp at hb ⊢
    subst hb1
    match st, i2, hb with
    | [], h, _ => exact absurd rfl h
    | [Z], _, h => exact absurd (.inr rfl) h
    | Z :: Y :: st, _, _ =>
     have hZ : Z ≠ [] := i3 rfl Z rfl
     obtain ⟨h1, h2⟩ := uQ f s (Z :: Y :: st) false r (by omega) ⟨i1, by simp, (fun h => by cases h), fun X hX => ⟨(i4 X hX).1, fun _ => (i4 X hX).2 (.inl (by simp))⟩⟩ e
     refine ⟨?_, h2⟩
     rw [← h1, c3]
     simp [pT, hZ]
  rw [if_neg c3] at e
  by_cases c4 : c = 59
  ·rw [if_pos c4] at e
   by_cases hb : b = false ∨ st.length ≠ 1 ∨ s ≠ []
   ·rw [if_pos hb] at e; cases e
   ·rw [if_neg hb] at e
    have hb1 : b = true := by cases b <;> simp at hb ⊢
    have hs : s = [] := by simp at hb; exact hb.2.2
    have hl : st.length = 1 := by simp at hb; exact hb.2.1
    subst hb1; subst hs
    match st, hl with
    | [Z], _ =>
     have hZ : Z ≠ [] := i3 rfl Z rfl
     cases Z with
     | nil => exact absurd rfl hZ
     | cons q Z =>
      cases e
      rw [c4]
      exact ⟨rfl, i1 (q :: Z) List.mem_cons_self q List.mem_cons_self⟩
  rw [if_neg c4] at e
  by_cases c5 : b = true
  ·rw [if_pos c5] at e; cases e
  rw [if_neg c5] at e
  have hb : b = false := by cases b <;> simp at c5 ⊢
  subst hb
  by_cases c6 : Lib.indexAny (c :: s) bF < 0
  ·rw [if_pos c6] at e; cases e
  rw [if_neg c6] at e
  have hn := (Hx (s := s) (Dd c1 c2 c3 c4)).resolve_left c6
  obtain ⟨n, hn2⟩ : ∃ n : Nat, Lib.indexAny (c :: s) bF = (n : Int) := ⟨(Lib.indexAny (c :: s) bF).toNat, by omega⟩
  rw [hn2, Int.toNat_natCast] at e
  have hno : ∀ x ∈ (c :: s).take n, x ∉ bF := Li _ n hn2
  match st, i2 with
  | Z :: st, _ =>
   have hne : (c :: s).take n ≠ [] := by
    cases n with
    | zero => omega
    | succ n => simp
   rw [show ∀ q, Zt q (Z :: st) = (Z ++ [q]) :: st from fun _ => rfl] at e
   obtain ⟨h1, h2⟩ := uQ f ((c :: s).drop n) ((Z ++ [.node ⟨((c :: s).take n).toArray⟩ []]) :: st) true r (by rw [List.length_drop, List.length_cons]; omega) ⟨fun X hX r hr => by
     rcases List.mem_cons.1 hX with rfl | h
     ·rcases List.mem_append.1 hr with h | h
      ·exact i1 Z (by simp) r h
      ·rw [List.mem_singleton.1 h]; exact Hz (by simpa using hne) (by simpa using hno)
     ·exact i1 X (by simp [h]) r hr, by simp, (fun _ X hX => by cases hX; simp), fun X hX => by
      cases st with
      | nil =>
       cases hX; rw [(i4 Z rfl).2 (.inr rfl)]
       exact ⟨by simp, fun h => by simp at h⟩
      | cons W st =>
       rw [List.getLast?_cons_cons] at hX
       have := i4 X (by rw [List.getLast?_cons_cons]; exact hX)
       exact ⟨this.1, fun _ => this.2 (.inr rfl)⟩⟩ e
   refine ⟨?_, h2⟩
   rw [← h1]
   have ht : c :: s = (c :: s).take n ++ (c :: s).drop n := (List.take_append_drop _ _).symm
   cases st with
   | nil =>
    rw [(i4 Z rfl).2 (.inr rfl)]
    simp only [pT, List.nil_append, txR]
    exact ht
   | cons W st =>
    have CP : Z ++ [RT.node ⟨((c :: s).take n).toArray⟩ []] ≠ [] := by simp
    simp only [pT, if_neg CP, if_true, zm, txR, List.append_nil]
    by_cases hZ : Z = []
    ·subst hZ; simp [fV]
    ·have hz : Z.length ≠ 0 := by simpa using hZ
     simp [hZ]
theorem EO {s : List UInt8} {r : RT} (h : iU s = some r) : s = txR r ++ [59] ∧ kG r := by
 obtain ⟨h1, h2⟩ := uQ _ s [[]] false r (Nat.lt_succ_self _) ⟨(fun Z hZ r hr => by simp at hZ; subst hZ; cases hr), by simp, (fun h => by cases h), fun Z hZ => by cases hZ; simp⟩ h
 exact ⟨h1, h2⟩
theorem yD {s : List UInt8} {r : RT} (h : iU s = some r) : (flat r).ps.length ≤ s.length ∧ (flat r).ns.length ≤ s.length ∧ ∀ k, (gs (flat r).ns k).size ≤ s.length := by
 obtain ⟨h1, h2⟩ := EO h
 obtain ⟨h3, h4⟩ := zn r h2
 have hl : s.length = (txR r).length + 1 := by rw [h1]; simp
 refine ⟨by rw [lH]; omega, by rw [ri]; omega, fun k => ?_⟩
 by_cases hk : k < (cM r).length
 ·have hm : gs (cM r) k ∈ cM r := by simp [gs, hk]
  have := h4 _ hm
  show (gs (cM r) k).size ≤ _
  omega
 ·have : gs (flat r).ns k = ByteArray.empty := by
   show (cM r).getD k ByteArray.empty = _
   simp [show (cM r).length ≤ k by omega]
  rw [this]; exact Nat.zero_le _
end
section
structure cV (t : ay) (leaf : Nat) : Prop where
 te : az t = 0
 lt : leaf < t.ps.length
 nm : (gs t.ns leaf).size ≠ 0
section
variable {t : ay} {leaf : Nat}
theorem tX (h : az t = 0) {z : Nat} (hz : z < t.ps.length) (hk : aS t.ps z = []) : aY (gs t.ns z).data.toList = true := by
 obtain ⟨_, _, _, hok, _⟩ := aD h
 refine (vD h hz ?_).1
 cases hin : isIn t.ps z with
 | false => rfl
 | true => exact absurd hk ((kK hok z).2 hin)
end
end
section
open Go.RowKit Go.Deep
mutual
theorem zo {M : Nat} : ∀ r : RT, (∀ s ∈ cM r, s.size ≤ M) → (txR r).length + 1 ≤ aH r * (M + 3)
 | .node nm [], h => by
  rw [txR, aH, sizeRs]
  have h1 := h nm (by rw [cM]; simp)
  have h2 : nm.data.toList.length = nm.size := by rw [Array.length_toList]; rfl
  omega
 | .node nm (k :: ks), h => by
  have h1 := zo k (fun s hs => h s (by rw [cM, dg]; simp [hs]))
  have h2 := Ib ks (fun s hs => h s (by rw [cM, dg]; simp [hs]))
  rw [txR, aH, sizeRs]
  simp only [List.length_cons, List.length_append, List.length_nil]
  rw [Nat.add_mul, Nat.add_mul]
  omega
theorem Ib {M : Nat} : ∀ rs : List RT, (∀ s ∈ dg rs, s.size ≤ M) → (txRs rs).length ≤ sizeRs rs * (M + 3)
 | [], _ => by rw [txRs]; exact Nat.zero_le _
 | r :: rs, h => by
  have h1 := zo r (fun s hs => h s (by rw [dg]; simp [hs]))
  have h2 := Ib rs (fun s hs => h s (by rw [dg]; simp [hs]))
  rw [txRs, sizeRs]
  simp only [List.length_cons, List.length_append]
  rw [Nat.add_mul]
  omega
end
theorem SF {F : aT} {n : Nat} {rk : Nat → Nat} (h : Wf F n rk) {i : Nat} (hi : i < n) : cM (aN F rk i) = (bK F rk i).map F.nm := by
 rw [mU, th h hi (Nat.le_refl _), List.map_map]
 refine List.map_congr_left fun z hz => ?_
 exact uG h (oH h hi (Nat.le_refl _) ((dV h hi (Nat.le_refl _)).1 hz))
theorem Lj {t : ay} (h : az t = 0) {M : Nat} (hz : ∀ k, (gs t.ns k).size ≤ M) : (txR (fO t)).length + 1 ≤ 64 * (M + 3) := by
 obtain ⟨hp, CX, _⟩ := aD h
 have h1 := zo (M := M) (fO t) (fun s hs => by
  unfold fO at hs
  rw [SF (dz h).wf hp] at hs
  obtain ⟨z, _, rfl⟩ := List.mem_map.1 hs
  exact hz z)
 have h2 : aH (fO t) ≤ t.ps.length := Pq (dz h).wf hp (rY h)
 exact Nat.le_trans h1 (Nat.mul_le_mul_right _ (by omega))
def tE (t : ay) : Int := if az t ≠ 0 then 1 else 0
def si (t : ay) : List UInt8 := if az t ≠ 0 then [] else txR (fO t) ++ [59]
def yE (w : World) (t : ay) (e : Ending) (w' : World) : Prop := Up w w' ∧ e = .returned (.tuple #[.string ⟨(si t).toArray⟩, .int .i64 (tE t)])
set_option maxHeartbeats 4000000 in
theorem Ll (S : Nat → Prop) (w : World) (v : Value) (t : ay) (hT : aA S w v t) (hp : t.ps.length ≤ 1000000) (hn : t.ns.length ≤ 1000000) (hz : ∀ k, (gs t.ns k).size ≤ 70000) :
  Calls Tryz.prog 29 #[v] w (yE w t) := by
 obtain ⟨P, N, rfl, hP, hN⟩ := hT
 obtain ⟨pp, pc, rfl, _, _⟩ := aB.open hP
 obtain ⟨pn, pm, rfl, _, _⟩ := aB.open hN
 have hP : aq S w (.slice pp t.ps.length pc) t.ps := hP
 have hN : ah S w (.slice pn t.ns.length pm) t.ns := hN
 have ha := Up.alloc w (.cells #[.slice pp t.ps.length pc, .slice pn t.ns.length pm] 39)
 have eH := aa (dW w (.slice pp t.ps.length pc) (.slice pn t.ns.length pm) 39)
 have kQ := aa (eu w (.slice pp t.ps.length pc) (.slice pn t.ns.length pm) 39)
 have hsz : (w.alloc (.cells #[.slice pp t.ps.length pc, .slice pn t.ns.length pm] 39)).heap.size = w.heap.size + 1 := by simp
 have HU := aa ha
 have Es : Hid (aA S _ _ t) := aA.keep ⟨_, _, rfl, hP, hN⟩ (ha.kept S)
 have ct := aa hsz
 have HZ := aa hz
 have hc0 := eH.out
 have hc1 := kQ.out
 have eY := aa (qZ S _ _ t Es.out hp hn hz)
 have Lm : Hid (tE t = if az t ≠ 0 then 1 else 0) := rfl
 have HXT : Hid (si t = if az t ≠ 0 then [] else txR (fO t) ++ [59]) := rfl
 clear ha hP hN hsz hz
 go_enter Tryz.func29, Tryz.ntmps29
 go_wp2_with fail
 generalize w.alloc (.cells #[.slice pp t.ps.length pc, .slice pn t.ns.length pm] 39) = w1 at *
 refine eY.out.mono ?_
 rintro e w2 ⟨rfl, aG⟩
 have aG : Up w1 w2 := aG
 have bw := aa aG
 have kC := aa (HU.out.trans aG)
 have hc0 := aG.cell eH.out
 have hc1 := aG.cell kQ.out
 clear aG eY
 by_cases he : az t = 0
 ·obtain ⟨ig, CX, hnl, hok, _⟩ := aD he
  have sj := aa he
  rw [he]
  have qD := aa (aA.keep Es.out (bw.out.kept S))
  clear he hnl hok
  go_wp2_with fail
  have hb := blk_alloc_new w2 (.cells #[.pointer none, .slice none 0 0] 117)
  have bX := Up.alloc w2 (.cells #[.pointer none, .slice none 0 0] 117)
  have hs3 : (w2.alloc (.cells #[.pointer none, .slice none 0 0] 117)).heap.size = w2.heap.size + 1 := World.size_alloc _ _
  have EK := blk_alloc_new (w2.alloc (.cells #[.pointer none, .slice none 0 0] 117)) (.cells #[.func (.func 90) #[] #[.pointer (some ⟨w2.heap.size, 0, none⟩), .pointer (some ⟨w2.heap.size + 1, 0, none⟩)]] 118)
  have cF := Up.alloc (w2.alloc (.cells #[.pointer none, .slice none 0 0] 117)) (.cells #[.func (.func 90) #[] #[.pointer (some ⟨w2.heap.size, 0, none⟩), .pointer (some ⟨w2.heap.size + 1, 0, none⟩)]] 118)
  have hs4 : ((w2.alloc (.cells #[.pointer none, .slice none 0 0] 117)).alloc (.cells #[.func (.func 90) #[] #[.pointer (some ⟨w2.heap.size, 0, none⟩), .pointer (some ⟨w2.heap.size + 1, 0, none⟩)]] 118)).heap.size = w2.heap.size + 2 := by rw [World.size_alloc, hs3]
  have hb4 := (blk_alloc_lt (w2.alloc (.cells #[.pointer none, .slice none 0 0] 117)) (.cells #[.func (.func 90) #[] #[.pointer (some ⟨w2.heap.size, 0, none⟩), .pointer (some ⟨w2.heap.size + 1, 0, none⟩)]] 118) w2.heap.size (by omega)).trans hb
  rw [hs3] at EK
  have MO := (bX.trans cF).cell hc0
  have MP := (bX.trans cF).cell hc1
  have jQ := aa (bX.trans cF)
  clear hb bX cF hs3 hc0 hc1
  generalize (w2.alloc (.cells #[.pointer none, .slice none 0 0] 117)).alloc (.cells #[.func (.func 90) #[] #[.pointer (some ⟨w2.heap.size, 0, none⟩), .pointer (some ⟨w2.heap.size + 1, 0, none⟩)]] 118) = w4 at *
  have dR : Hid (tD w2.heap.size (w2.heap.size + 1) w4) := EK
  have Lg := dR.out.cell
  have Zy := aa hb4
  have Lc := aa hs4
  clear hs4 hb4 EK
  refine dM (by kernel_rfl) 6 (fun w' => w'.cell? ⟨w2.heap.size + 1, 0, none⟩ = some (.func (.func 90) #[] #[.pointer (some ⟨w2.heap.size, 0, none⟩), .pointer (some ⟨w2.heap.size + 1, 0, none⟩)]) ∧ w'.cell? ⟨w.heap.size, 0, none⟩ = some (.slice pp t.ps.length pc) ∧ w'.cell? ⟨w.heap.size, 1, none⟩ = some (.slice pn t.ns.length pm)) ⟨Lg, MO, MP⟩ (fun hS => ?_)
  simp only [List.size_toArray, List.length_cons, List.length_nil, Nat.reduceAdd, Array.replicate_succ, Array.replicate_zero, List.push_toArray, List.nil_append, List.cons_append]
  refine af.take (i := 0) (v := ?tq) rfl (by kernel_rfl) (fun _ _ _ h => h) (by rfl) (fun w hSw => ?iE) hS ?tr
  case iE =>
   (try dsimp only at hSw)
   go_simp
   try with_reducible rfl
  try simp only [Act.put, au, av, ax]
  refine af.take (i := 1) (v := ?tu) rfl (by kernel_rfl) (fun _ _ _ h => h) (by rfl) (fun w hSw => ?iF) hS ?tA
  case iF =>
   (try dsimp only at hSw)
   go_simp
   try with_reducible rfl
  try simp only [Act.put, au, av, ax]
  refine af.step (i := 2) rfl (by kernel_rfl) (fun K' hK => ?_)
  go_simp
  have HUD : Hid (Up w4 w4.drew) := Up.drewN w4 1
  obtain ⟨_, _, hnl, hok, _⟩ := aD sj.out
  have PB := aa (SB S w4.drew _ t (aA.keep qD.out ((jQ.out.trans HUD.out).kept S)) (by omega) hnl hok HZ.out)
  refine PB.out.mono ?_
  rintro e w5 ⟨gp, g, A, kv, zM, rfl, hF, hrow⟩
  have ku := hrow.cell (i := 0) ig
  simp only [bu] at ku
  have iT := aa (HUD.out.trans gp)
  have hpos : (0 : Int) < (t.ps.length : Int) := by omega
  refine hK.out _ _ (fun _ => ⟨iT.out.cell Lg, iT.out.cell MO, iT.out.cell MP⟩) (fun hS => ?_)
  try simp only [au, av, ax]
  have HF := aa hF
  have Lp := aa zM
  have kE : Hid (tE t = 0) := by rw [Hid, Lm.out, if_neg (by simp [sj.out])]
  have uS : Hid (si t = txR (fO t) ++ [59]) := by rw [Hid, HXT.out, if_neg (by simp [sj.out])]
  have dG := aa (Lj sj.out HZ.out)
  have xQ : Hid (Lib.IsBuilderF 117 5 w2.heap.size w2.heap.size (Lib.byteCells []) w5) := .inl ⟨Nat.le_refl _, _, (Below.block iT.out _ (by rw [Lc.out]; omega)).trans Zy.out, ⟨rfl, .inl ⟨rfl, rfl⟩⟩, fun e => by cases e⟩
  have HBX5 : Hid (tD w2.heap.size (w2.heap.size + 1) w5) := (Below.block iT.out _ (by rw [Lc.out]; omega)).trans dR.out
  have bY : Hid (w2.heap.size + 2 ≤ w5.heap.size) := by have := iT.out.size; rw [Lc.out] at this; exact this
  have HP1 := aa (SA (base := g + 1) (n := t.ps.length) (B := w2.heap.size) (b := w2.heap.size) (fb := w2.heap.size + 1) (dz sj.out).wf (fun z _ => by have := nK t z; omega) (by have := Lc.out; have h2 : w4.heap.size ≤ g := zM; omega) (by omega) (cu t 0) 0 [] w5 ig (Nat.le_refl _) hF HBX5.out xQ.out (by
   have := dG.out
   show 0 + (txR (fO t)).length ≤ _
   omega) (by have := bY.out; omega))
  clear hnl hok hF zM hrow PB gp
  refine af.step (i := 3) rfl (by kernel_rfl) (fun K' hK => ?_)
  go_simp
  refine hK.out _ _ (fun _ => ⟨iT.out.cell Lg, iT.out.cell MO, iT.out.cell MP⟩) (fun hS => ?_)
  try simp only [au, av, ax]
  refine af.step (i := 4) rfl (by kernel_rfl) (fun K' hK => ?_)
  go_simp
  refine hK.out _ _ (fun _ => ⟨iT.out.cell Lg, iT.out.cell MO, iT.out.cell MP⟩) (fun hS => ?_)
  try simp only [au, av, ax]
  refine af.step (i := 5) rfl (by kernel_rfl) (fun K' hK => ?_)
  go_simp
  refine HP1.out.mono ?_
  rintro e w6 ⟨rfl, h6⟩
  refine hK.out _ _ (aJ (by kernel_rfl)) (fun hS => ?_)
  refine af.done (by kernel_rfl) ?_
  have HX3 : Hid (aN (ew t) (cu t) 0 = fO t) := rfl
  rw [List.nil_append, HX3.out] at h6
  have HB6 := aa h6
  have Zz := aa (Db w2.heap.size w2.heap.size (Lib.byteCells (txR (fO t))) 59 w6 h6.bl (by rw [Lib.byteCells_length]; have := dG.out; omega) (h6.size (by have := bY.out; omega)))
  clear h6 HP1 hS hK
  go_wp2_with fail
  refine Zz.out.mono ?_
  rintro e w7 ⟨rfl, h1, h2, h3⟩
  have ZA := aa (HB6.out.byte (x := 59) rfl h1 h2 h3)
  have HST := aa (Zs w2.heap.size w2.heap.size (txR (fO t) ++ [59]) w7 ZA.out.bl (ZA.out.size (by have := bY.out; omega)))
  clear h1 h2 h3
  go_wp2_with fail
  refine HST.out.mono ?_
  rintro e w8 ⟨rfl, _, h2, _⟩
  have xe : Hid (Up w2 w8) := Below.trans (jQ.out.trans iT.out) (ZA.out.up.trans h2)
  clear h2
  go_wp2_with fail
  go_ret2
  exact ⟨kC.out.trans xe.out, by rw [kE.out, uS.out]; rfl⟩
 ·have BK : (az t != 0) = true := by simpa using he
  have kE : Hid (tE t = 1) := by rw [Hid, Lm.out, if_pos he]
  have uS : Hid (si t = []) := by rw [Hid, HXT.out, if_pos he]
  clear he
  generalize az t = te at *
  go_wp2_with fail
  go_ret2
  exact ⟨kC.out, by rw [kE.out, uS.out]; rfl⟩
end
section
def tF (s : ByteArray) : Int := match iU s.data.toList with
 | none => 3
 | some r => az (flat r)
def qF (s : ByteArray) : ay := match iU s.data.toList with
 | none => ⟨[], []⟩
 | some r => if az (flat r) ≠ 0 then ⟨[], []⟩ else flat r
end
end Go.Proofs.YthgabkgmkolobaaGreat
