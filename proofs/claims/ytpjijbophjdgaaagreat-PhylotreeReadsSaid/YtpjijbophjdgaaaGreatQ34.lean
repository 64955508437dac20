/- Parse, plain: the machine over a stack of lists of rose trees; the forest that grows. -/
import Derived.Test.YtpjijbophjdgaaaGreatQ28
import Derived.Test.YtpjijbophjdgaaaGreatQ26
import Derived.Lib.IndexAny
namespace Go.Proofs.YtpjijbophjdgaaaGreat
def sp4 : List UInt8 := [40, 41, 44, 59]
def popZ : List (List RT) → List (List RT)
  | Z :: Y :: st => (Y ++ [.node ByteArray.empty Z]) :: st
  | st => st
def addZ (r : RT) : List (List RT) → List (List RT)
  | Z :: st => (Z ++ [r]) :: st
  | [] => []
def firstZ : List (List RT) → RT
  | (r :: _) :: _ => r
  | _ => .node ByteArray.empty []
def pz : Nat → List UInt8 → List (List RT) → Bool → Option RT
  | 0, _, _, _ => none
  | _ + 1, [], _, _ => none
  | f + 1, c :: s, st, dn =>
    if c = 40 then (if dn = true then none else pz f s ([] :: st) false)
    else if c = 41 then (if dn = false ∨ st.length = 1 then none else pz f s (popZ st) true)
    else if c = 44 then (if dn = false ∨ st.length = 1 then none else pz f s st false)
    else if c = 59 then (if dn = false ∨ st.length ≠ 1 ∨ s ≠ [] then none else some (firstZ st))
    else if dn = true then none
    else if Lib.indexAny (c :: s) sp4 < 0 then none
    else pz f ((c :: s).drop (Lib.indexAny (c :: s) sp4).toNat) (addZ (.node ⟨((c :: s).take (Lib.indexAny (c :: s) sp4).toNat).toArray⟩ []) st) true
def paR (s : List UInt8) : Option RT := pz (s.length + 1) s [[]] false
section
variable {F G : Frs} {n m : Nat} {rk : Nat → Nat}
theorem toRF_local (hF : Wf F n rk) (hG : Wf G m rk) : ∀ (d c : Nat), rk c ≤ d → c < n → c < m → (∀ z, subF F rk c z = true → G.kids z = F.kids z ∧ G.nm z = F.nm z) → toRF G rk c = toRF F rk c
  | d, c, hd, hc, hm, hz => by
    obtain ⟨h1, h2⟩ := hz c (subF_self hF hc)
    rw [toRF_eq hF hc, toRF_eq hG hm, h1, h2]
    congr 1
    refine List.map_congr_left fun k hk => ?_
    have hkk := hF.kid c hc k hk
    have hkm := (hG.kid c hm k (by rw [h1]; exact hk)).1
    cases d with
    | zero => omega
    | succ d => exact toRF_local hF hG d k (by omega) hkk.1 hkm fun z hs => hz z (subF_kid hF hc hk hs)
def uqF (F : Frs) : Frs := ⟨fun i => ⟨Array.replicate i 0⟩, F.old, F.kids⟩
theorem uq_arb (hF : Wf F n rk) (one : ∀ p q k, p < n → q < n → k ∈ F.kids p → k ∈ F.kids q → p = q) (nd : ∀ i, i < n → (F.kids i).Nodup) : Arb (uqF F) n rk :=
  ⟨⟨fun i hi k hk => hF.kid i hi k hk⟩, one, nd, fun a b _ _ _ _ e => by
    have e : (⟨Array.replicate a 0⟩ : ByteArray) = ⟨Array.replicate b 0⟩ := e
    have := congrArg (fun s : ByteArray => s.data.size) e
    simpa using this⟩
theorem uq_sub (hF : Wf F n rk) {c : Nat} (hc : c < n) (z : Nat) : subF (uqF F) rk c z = subF F rk c z :=
  sub_cong (G := uqF F) hF ⟨fun i hi k hk => hF.kid i hi k hk⟩ hc (Nat.le_refl _) (fun _ _ => rfl) z
theorem uq_nodes (hF : Wf F n rk) : ∀ (d c : Nat), rk c ≤ d → c < n → nodesF (uqF F) rk c = nodesF F rk c
  | d, c, hd, hc => by
    have hU : Wf (uqF F) n rk := ⟨fun i hi k hk => hF.kid i hi k hk⟩
    rw [nodesF_eq hF hc, nodesF_eq hU hc]
    congr 1
    refine flatMap_congr' fun k hk => ?_
    have hkk := hF.kid c hc k hk
    cases d with
    | zero => omega
    | succ d => exact uq_nodes hF d k (by omega) hkk.1
theorem one_kids (hF : Wf F n rk) (one : ∀ p q k, p < n → q < n → k ∈ F.kids p → k ∈ F.kids q → p = q) (nd : ∀ i, i < n → (F.kids i).Nodup) {R : Nat} (hR : ∀ i, i < n → rk i ≤ R) {i x y j : Nat} (hi : i < n) (hx : x ∈ F.kids i) (hy : y ∈ F.kids i) (h1 : subF F rk x j = true) (h2 : subF F rk y j = true) : x = y :=
  sub_kids (uq_arb hF one nd) hR hi hx hy (by rw [uq_sub hF (hF.kid i hi x hx).1]; exact h1) (by rw [uq_sub hF (hF.kid i hi y hy).1]; exact h2)
theorem one_nodes (hF : Wf F n rk) (one : ∀ p q k, p < n → q < n → k ∈ F.kids p → k ∈ F.kids q → p = q) (nd : ∀ i, i < n → (F.kids i).Nodup) {R : Nat} (hR : ∀ i, i < n → rk i ≤ R) {i : Nat} (hi : i < n) : (nodesF F rk i).Nodup := by
  rw [← uq_nodes hF (rk i) i (Nat.le_refl _) hi]
  exact nodesF_nodup (uq_arb hF one nd) hR hi (Nat.le_refl _)
end
def rkN (z : Nat) : Nat := 2000 - z
def ZipAt (F : Frs) : Option Nat → List Nat → List (List RT) → Prop
  | nx, o :: os, Z :: st => (F.nm o).size = 0 ∧ (∃ ks, F.kids o = ks ++ nx.toList ∧ ks.map (toRF F rkN) = Z) ∧ ZipAt F (some o) os st
  | _, [], [] => True
  | _, _, _ => False
structure PzF (F : Frs) (n : Nat) (op : List Nat) (st : List (List RT)) : Prop where
  big : n ≤ 2000
  kid : ∀ i, i < n → ∀ k ∈ F.kids i, i < k ∧ k < n
  one : ∀ p q k, p < n → q < n → k ∈ F.kids p → k ∈ F.kids q → p = q
  nd : ∀ i, i < n → (F.kids i).Nodup
  zip : ZipAt F none op st
  opn : ∀ o ∈ op, o < n
  ne : op ≠ []
section
variable {F : Frs} {n : Nat} {op : List Nat} {st : List (List RT)}
theorem PzF.wf (h : PzF F n op st) : Wf F n rkN := ⟨fun i hi k hk => by obtain ⟨h1, h2⟩ := h.kid i hi k hk; have := h.big; exact ⟨h2, by unfold rkN; omega⟩⟩
theorem rkN_le (i : Nat) : rkN i ≤ 2000 := Nat.sub_le _ _
theorem ZipAt.len {F : Frs} : ∀ {nx : Option Nat} {op : List Nat} {st : List (List RT)}, ZipAt F nx op st → op.length = st.length
  | _, [], [], _ => rfl
  | _, _ :: os, _ :: st, h => by rw [List.length_cons, List.length_cons, h.2.2.len]
  | _, [], _ :: _, h => h.elim
  | _, _ :: _, [], h => h.elim
def addF (F : Frs) (n o : Nat) (nm : ByteArray) : Frs := ⟨upd F.nm n nm, upd F.old n 0, upd (upd F.kids n []) o (F.kids o ++ [n])⟩
theorem addF_kids_o {F : Frs} {n o : Nat} {nm : ByteArray} : (addF F n o nm).kids o = F.kids o ++ [n] := upd_same _ _ _
theorem addF_kids_n {F : Frs} {n o : Nat} {nm : ByteArray} (h : o < n) : (addF F n o nm).kids n = [] := by
  show upd _ o _ n = []
  rw [upd_ne _ _ (by omega), upd_same]
theorem addF_kids {F : Frs} {n o : Nat} {nm : ByteArray} {z : Nat} (h : z ≠ o) (h2 : z ≠ n) : (addF F n o nm).kids z = F.kids z := by
  show upd _ o _ z = _
  rw [upd_ne _ _ h, upd_ne _ _ h2]
theorem addF_nm {F : Frs} {n o : Nat} {nm : ByteArray} {z : Nat} (h2 : z ≠ n) : (addF F n o nm).nm z = F.nm z := upd_ne _ _ h2
theorem addF_fwd {F : Frs} {n o : Nat} {nm : ByteArray} (hk : ∀ i, i < n → ∀ k ∈ F.kids i, i < k ∧ k < n) (ho : o < n) {i k : Nat} (hi : i < n + 1) (hm : k ∈ (addF F n o nm).kids i) : (i < n ∧ k ∈ F.kids i) ∨ (i = o ∧ k = n) := by
  by_cases e : i = o
  · subst e
    rw [addF_kids_o] at hm
    rcases List.mem_append.1 hm with h1 | h1
    · exact .inl ⟨ho, h1⟩
    · exact .inr ⟨rfl, by simpa using h1⟩
  · by_cases e2 : i = n
    · subst e2; rw [addF_kids_n ho] at hm; cases hm
    · rw [addF_kids e e2] at hm; exact .inl ⟨by omega, hm⟩
theorem addF_wf (h : PzF F n op st) {o : Nat} (ho : o < n) (nm : ByteArray) (hb : n < 2000) : Wf (addF F n o nm) (n + 1) rkN := ⟨fun i hi k hm => by
  unfold rkN
  rcases addF_fwd h.kid ho hi hm with ⟨h1, h2⟩ | ⟨h1, h2⟩
  · have := h.kid i h1 k h2; omega
  · omega⟩
theorem addF_part (h : PzF F n op st) {o : Nat} (ho : o < n) (nm : ByteArray) (hb : n < 2000) {c : Nat} (hc : c < n) (hs : subF F rkN c o = false) : toRF (addF F n o nm) rkN c = toRF F rkN c :=
  toRF_local h.wf (addF_wf h ho nm hb) _ c (Nat.le_refl _) hc (by omega) fun z hz => by
    have hzn := subF_lt h.wf hc (Nat.le_refl _) hz
    have hne : z ≠ o := fun e => by rw [e, hs] at hz; cases hz
    exact ⟨addF_kids hne (by omega), addF_nm (by omega)⟩
theorem addF_zip (h : PzF F n op st) {o : Nat} (ho : o < n) (nm : ByteArray) (hb : n < 2000) : ∀ {y : Nat} {os : List Nat} {zs : List (List RT)}, (∀ p ∈ os, p < n) → y < n → subF F rkN y o = true → ZipAt F (some y) os zs → ZipAt (addF F n o nm) (some y) os zs
  | _, [], [], _, _, _, _ => trivial
  | y, p :: os, Z :: zs, hp, hy, hs, hz => by
    obtain ⟨h1, ⟨ks, h2, h3⟩, h4⟩ := hz
    have hpn := hp p (by simp)
    have hyk : y ∈ F.kids p := by rw [h2]; simp
    have hpy := (h.kid p hpn y hyk).1
    have hso := subF_kid h.wf hpn hyk hs
    have hne : p ≠ o := fun e => by
      subst e
      have := subD_rank h.wf hy hs
      have hb2 := h.big
      unfold rkN at this
      omega
    refine ⟨by rw [addF_nm (by omega)]; exact h1, ⟨ks, by rw [addF_kids hne (by omega)]; exact h2, ?_⟩, addF_zip h ho nm hb (fun q hq => hp q (by simp [hq])) hpn hso h4⟩
    rw [← h3]
    refine List.map_congr_left fun c hc => ?_
    have hck : c ∈ F.kids p := by rw [h2]; simp [hc]
    have hcn := (h.kid p hpn c hck).2
    refine addF_part h ho nm hb hcn ?_
    cases hsc : subF F rkN c o with
    | false => rfl
    | true =>
      exfalso
      have e := one_kids h.wf h.one h.nd (fun i _ => rkN_le i) hpn hck hyk hsc hs
      subst e
      have hnd := h.nd p hpn
      rw [h2] at hnd
      have := (List.nodup_append.1 hnd).2.2 c hc c (by simp)
      exact this rfl
  | _, [], _ :: _, _, _, _, hz => hz.elim
  | _, _ :: _, [], _, _, _, hz => hz.elim
end
section
variable {F : Frs} {n : Nat} {o : Nat} {os : List Nat} {Z : List RT} {st : List (List RT)}
theorem PzF.on (h : PzF F n (o :: os) st) : o < n := h.opn o (by simp)
theorem PzF.size (h : PzF F n (o :: os) (Z :: st)) : (F.nm o).size = 0 ∧ (F.kids o).map (toRF F rkN) = Z := by
  obtain ⟨h1, ⟨ks, h2, h3⟩, _⟩ := h.zip
  refine ⟨h1, ?_⟩
  rw [h2]; simpa using h3
theorem addF_base (h : PzF F n (o :: os) (Z :: st)) (nm : ByteArray) (hb : n < 2000) :
    (∀ i, i < n + 1 → ∀ k ∈ (addF F n o nm).kids i, i < k ∧ k < n + 1) ∧ (∀ p q k, p < n + 1 → q < n + 1 → k ∈ (addF F n o nm).kids p → k ∈ (addF F n o nm).kids q → p = q) ∧ (∀ i, i < n + 1 → ((addF F n o nm).kids i).Nodup) ∧
    ZipAt (addF F n o nm) (some o) os st ∧ (∀ c ∈ F.kids o, toRF (addF F n o nm) rkN c = toRF F rkN c) ∧ toRF (addF F n o nm) rkN n = .node nm [] := by
  have ho := h.on
  refine ⟨fun i hi k hk => ?_, fun p q k hp hq h1 h2 => ?_, fun i hi => ?_, addF_zip h ho nm hb (fun p hp => h.opn p (by simp [hp])) ho (subF_self h.wf ho) h.zip.2.2, fun c hc => ?_, ?_⟩
  · rcases addF_fwd h.kid ho hi hk with ⟨h1, h2⟩ | ⟨h1, h2⟩
    · have := h.kid i h1 k h2; omega
    · omega
  · rcases addF_fwd h.kid ho hp h1 with ⟨a1, a2⟩ | ⟨a1, a2⟩
    · rcases addF_fwd h.kid ho hq h2 with ⟨b1, b2⟩ | ⟨b1, b2⟩
      · exact h.one p q k a1 b1 a2 b2
      · have := (h.kid p a1 k a2).2; omega
    · rcases addF_fwd h.kid ho hq h2 with ⟨b1, b2⟩ | ⟨b1, b2⟩
      · have := (h.kid q b1 k b2).2; omega
      · omega
  · by_cases e : i = o
    · subst e
      rw [addF_kids_o, List.nodup_append]
      refine ⟨h.nd i ho, by simp, fun a ha b hb e => ?_⟩
      have hb : b = n := by simpa using hb
      have := (h.kid i ho a ha).2; omega
    · by_cases e2 : i = n
      · subst e2; rw [addF_kids_n ho]; exact List.nodup_nil
      · rw [addF_kids e e2]; exact h.nd i (by omega)
  · have hcn := h.kid o ho c hc
    refine addF_part h ho nm hb hcn.2 ?_
    cases hs : subF F rkN c o with
    | false => rfl
    | true =>
      have := subD_rank h.wf hcn.2 hs
      have hb2 := h.big
      unfold rkN at this
      omega
  · rw [toRF_eq (addF_wf h ho nm hb) (Nat.lt_succ_self n), addF_kids_n ho]
    show RT.node (upd F.nm n nm n) [] = _
    rw [upd_same]
theorem PzF.leaf (h : PzF F n (o :: os) (Z :: st)) (nm : ByteArray) (hb : n < 2000) : PzF (addF F n o nm) (n + 1) (o :: os) ((Z ++ [.node nm []]) :: st) := by
  obtain ⟨a1, a2, a3, a4, a5, a6⟩ := addF_base h nm hb
  have ho := h.on
  refine ⟨by omega, a1, a2, a3, ⟨by rw [addF_nm (by omega)]; exact h.size.1, ⟨_, (List.append_nil _).symm, ?_⟩, a4⟩, fun p hp => by have := h.opn p hp; omega, by simp⟩
  rw [addF_kids_o, List.map_append, List.map_cons, List.map_nil, a6]
  congr 1
  rw [← h.size.2]
  exact List.map_congr_left a5
theorem PzF.open (h : PzF F n (o :: os) (Z :: st)) (hb : n < 2000) : PzF (addF F n o ByteArray.empty) (n + 1) (n :: o :: os) ([] :: Z :: st) := by
  obtain ⟨a1, a2, a3, a4, a5, a6⟩ := addF_base h ByteArray.empty hb
  have ho := h.on
  refine ⟨by omega, a1, a2, a3, ⟨?_, ⟨[], by rw [addF_kids_n ho]; rfl, rfl⟩, by rw [addF_nm (by omega)]; exact h.size.1, ⟨F.kids o, addF_kids_o, ?_⟩, a4⟩, fun p hp => ?_, by simp⟩
  · show (upd F.nm n ByteArray.empty n).size = 0
    rw [upd_same]; rfl
  · rw [← h.size.2]
    exact List.map_congr_left a5
  · rcases List.mem_cons.1 hp with e | e
    · omega
    · have := h.opn p e; omega
theorem PzF.pop {q : Nat} {Y : List RT} (h : PzF F n (o :: q :: os) (Z :: Y :: st)) : PzF F n (q :: os) ((Y ++ [.node ByteArray.empty Z]) :: st) := by
  obtain ⟨h1, ⟨ks, h2, h3⟩, h4, ⟨ks2, h5, h6⟩, h7⟩ := h.zip
  have ho := h.on
  refine ⟨h.big, h.kid, h.one, h.nd, ⟨h4, ⟨ks2 ++ [o], by rw [h5]; simp, ?_⟩, h7⟩, fun p hp => h.opn p (by simp at hp ⊢; rcases hp with e | e <;> simp [e]), by simp⟩
  rw [List.map_append, h6, List.map_cons, List.map_nil, toRF_eq h.wf ho]
  have hn : F.nm o = ByteArray.empty := ByteArray.ext (Array.eq_empty_of_size_eq_zero h1)
  rw [hn, h.size.2]
theorem PzF.done {r : RT} {Y : List RT} (h : PzF F n [o] [r :: Y]) : ∃ c ks, F.kids o = c :: ks ∧ c < n ∧ treeF F rkN c = flat r := by
  obtain ⟨_, h2⟩ := h.size
  have ho := h.on
  cases hk : F.kids o with
  | nil => rw [hk] at h2; cases h2
  | cons c ks =>
    rw [hk, List.map_cons] at h2
    injection h2 with h2 h3
    have hcn := (h.kid o ho c (by rw [hk]; simp)).2
    exact ⟨c, ks, rfl, hcn, by rw [treeF_flat2 h.wf hcn (one_nodes h.wf h.one h.nd (fun i _ => rkN_le i) hcn), h2]⟩
theorem PzF.len (h : PzF F n (o :: os) (Z :: st)) : (o :: os).length = st.length + 1 := by rw [h.zip.len]; rfl
end
end Go.Proofs.YtpjijbophjdgaaaGreat
