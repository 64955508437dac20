/- Parse, plain: the machine over a stack of lists of rose trees; the forest that grows. strings.Builder: WriteByte, WriteString, String: laid strings.Builder: copyCheck, WriteByte, WriteString, String, with the frame that keeps the other blocks. -/
import Derived.Test.YtpjijbophjdgaaaGreatQ28
import Derived.Test.YtpjijbophjdgaaaGreatQ26
import Derived.Lib.IndexAny
import Derived.Shelf.SlGeneric
import Derived.Shelf.Strings.BuilderK
import Derived.Ground.NamesProg
import Derived.Ground.Names2Prog
import Derived.Test.YtpjijbophjdgaaaGreatProg
import Derived.Test.YtpjijbophjdgaaaGreatQ3
namespace Go.Proofs.YtpjijbophjdgaaaGreat
def sp4 : List UInt8 := [40, 41, 44, 59]
def popZ : List (List RT) → List (List RT)
  | Z :: Y :: st => (Y ++ [.node ByteArray.empty Z]) :: st
  | st => st
def addZ (r : RT) : List (List RT) → List (List RT)
  | Z :: st => (Z ++ [r]) :: st
  | [] => []
def firstZ : List (List RT) → RT
  | (r :: _) :: _ => r
  | _ => .node ByteArray.empty []
def pz : Nat → List UInt8 → List (List RT) → Bool → Option RT
  | 0, _, _, _ => none
  | _ + 1, [], _, _ => none
  | f + 1, c :: s, st, dn =>
    if c = 40 then (if dn = true then none else pz f s ([] :: st) false)
    else if c = 41 then (if dn = false ∨ st.length = 1 then none else pz f s (popZ st) true)
    else if c = 44 then (if dn = false ∨ st.length = 1 then none else pz f s st false)
    else if c = 59 then (if dn = false ∨ st.length ≠ 1 ∨ s ≠ [] then none else some (firstZ st))
    else if dn = true then none
    else if Lib.indexAny (c :: s) sp4 < 0 then none
    else pz f ((c :: s).drop (Lib.indexAny (c :: s) sp4).toNat) (addZ (.node ⟨((c :: s).take (Lib.indexAny (c :: s) sp4).toNat).toArray⟩ []) st) true
def paR (s : List UInt8) : Option RT := pz (s.length + 1) s [[]] false
section
variable {F G : Frs} {n m : Nat} {rk : Nat → Nat}
theorem toRF_local (hF : Wf F n rk) (hG : Wf G m rk) : ∀ (d c : Nat), rk c ≤ d → c < n → c < m → (∀ z, subF F rk c z = true → G.kids z = F.kids z ∧ G.nm z = F.nm z) → toRF G rk c = toRF F rk c
  | d, c, hd, hc, hm, hz => by
    obtain ⟨h1, h2⟩ := hz c (subF_self hF hc)
    rw [toRF_eq hF hc, toRF_eq hG hm, h1, h2]
    congr 1
    refine List.map_congr_left fun k hk => ?_
    have hkk := hF.kid c hc k hk
    have hkm := (hG.kid c hm k (by rw [h1]; exact hk)).1
    cases d with
    | zero => omega
    | succ d => exact toRF_local hF hG d k (by omega) hkk.1 hkm fun z hs => hz z (subF_kid hF hc hk hs)
def uqF (F : Frs) : Frs := ⟨fun i => ⟨Array.replicate i 0⟩, F.old, F.kids⟩
theorem uq_arb (hF : Wf F n rk) (one : ∀ p q k, p < n → q < n → k ∈ F.kids p → k ∈ F.kids q → p = q) (nd : ∀ i, i < n → (F.kids i).Nodup) : Arb (uqF F) n rk :=
  ⟨⟨fun i hi k hk => hF.kid i hi k hk⟩, one, nd, fun a b _ _ _ _ e => by
    have e : (⟨Array.replicate a 0⟩ : ByteArray) = ⟨Array.replicate b 0⟩ := e
    have := congrArg (fun s : ByteArray => s.data.size) e
    simpa using this⟩
theorem uq_sub (hF : Wf F n rk) {c : Nat} (hc : c < n) (z : Nat) : subF (uqF F) rk c z = subF F rk c z :=
  sub_cong (G := uqF F) hF ⟨fun i hi k hk => hF.kid i hi k hk⟩ hc (Nat.le_refl _) (fun _ _ => rfl) z
theorem uq_nodes (hF : Wf F n rk) : ∀ (d c : Nat), rk c ≤ d → c < n → nodesF (uqF F) rk c = nodesF F rk c
  | d, c, hd, hc => by
    have hU : Wf (uqF F) n rk := ⟨fun i hi k hk => hF.kid i hi k hk⟩
    rw [nodesF_eq hF hc, nodesF_eq hU hc]
    congr 1
    refine flatMap_congr' fun k hk => ?_
    have hkk := hF.kid c hc k hk
    cases d with
    | zero => omega
    | succ d => exact uq_nodes hF d k (by omega) hkk.1
theorem one_kids (hF : Wf F n rk) (one : ∀ p q k, p < n → q < n → k ∈ F.kids p → k ∈ F.kids q → p = q) (nd : ∀ i, i < n → (F.kids i).Nodup) {R : Nat} (hR : ∀ i, i < n → rk i ≤ R) {i x y j : Nat} (hi : i < n) (hx : x ∈ F.kids i) (hy : y ∈ F.kids i) (h1 : subF F rk x j = true) (h2 : subF F rk y j = true) : x = y :=
  sub_kids (uq_arb hF one nd) hR hi hx hy (by rw [uq_sub hF (hF.kid i hi x hx).1]; exact h1) (by rw [uq_sub hF (hF.kid i hi y hy).1]; exact h2)
theorem one_nodes (hF : Wf F n rk) (one : ∀ p q k, p < n → q < n → k ∈ F.kids p → k ∈ F.kids q → p = q) (nd : ∀ i, i < n → (F.kids i).Nodup) {R : Nat} (hR : ∀ i, i < n → rk i ≤ R) {i : Nat} (hi : i < n) : (nodesF F rk i).Nodup := by
  rw [← uq_nodes hF (rk i) i (Nat.le_refl _) hi]
  exact nodesF_nodup (uq_arb hF one nd) hR hi (Nat.le_refl _)
end
def rkN (z : Nat) : Nat := 2000 - z
def ZipAt (F : Frs) : Option Nat → List Nat → List (List RT) → Prop
  | nx, o :: os, Z :: st => (F.nm o).size = 0 ∧ (∃ ks, F.kids o = ks ++ nx.toList ∧ ks.map (toRF F rkN) = Z) ∧ ZipAt F (some o) os st
  | _, [], [] => True
  | _, _, _ => False
structure PzF (F : Frs) (n : Nat) (op : List Nat) (st : List (List RT)) : Prop where
  big : n ≤ 2000
  kid : ∀ i, i < n → ∀ k ∈ F.kids i, i < k ∧ k < n
  one : ∀ p q k, p < n → q < n → k ∈ F.kids p → k ∈ F.kids q → p = q
  nd : ∀ i, i < n → (F.kids i).Nodup
  zip : ZipAt F none op st
  opn : ∀ o ∈ op, o < n
  ne : op ≠ []
section
variable {F : Frs} {n : Nat} {op : List Nat} {st : List (List RT)}
theorem PzF.wf (h : PzF F n op st) : Wf F n rkN := ⟨fun i hi k hk => by obtain ⟨h1, h2⟩ := h.kid i hi k hk; have := h.big; exact ⟨h2, by unfold rkN; omega⟩⟩
theorem rkN_le (i : Nat) : rkN i ≤ 2000 := Nat.sub_le _ _
theorem ZipAt.len {F : Frs} : ∀ {nx : Option Nat} {op : List Nat} {st : List (List RT)}, ZipAt F nx op st → op.length = st.length
  | _, [], [], _ => rfl
  | _, _ :: os, _ :: st, h => by rw [List.length_cons, List.length_cons, h.2.2.len]
  | _, [], _ :: _, h => h.elim
  | _, _ :: _, [], h => h.elim
def addF (F : Frs) (n o : Nat) (nm : ByteArray) : Frs := ⟨upd F.nm n nm, upd F.old n 0, upd (upd F.kids n []) o (F.kids o ++ [n])⟩
theorem addF_kids_o {F : Frs} {n o : Nat} {nm : ByteArray} : (addF F n o nm).kids o = F.kids o ++ [n] := upd_same _ _ _
theorem addF_kids_n {F : Frs} {n o : Nat} {nm : ByteArray} (h : o < n) : (addF F n o nm).kids n = [] := by
  show upd _ o _ n = []
  rw [upd_ne _ _ (by omega), upd_same]
theorem addF_kids {F : Frs} {n o : Nat} {nm : ByteArray} {z : Nat} (h : z ≠ o) (h2 : z ≠ n) : (addF F n o nm).kids z = F.kids z := by
  show upd _ o _ z = _
  rw [upd_ne _ _ h, upd_ne _ _ h2]
theorem addF_nm {F : Frs} {n o : Nat} {nm : ByteArray} {z : Nat} (h2 : z ≠ n) : (addF F n o nm).nm z = F.nm z := upd_ne _ _ h2
theorem addF_fwd {F : Frs} {n o : Nat} {nm : ByteArray} (hk : ∀ i, i < n → ∀ k ∈ F.kids i, i < k ∧ k < n) (ho : o < n) {i k : Nat} (hi : i < n + 1) (hm : k ∈ (addF F n o nm).kids i) : (i < n ∧ k ∈ F.kids i) ∨ (i = o ∧ k = n) := by
  by_cases e : i = o
  · subst e
    rw [addF_kids_o] at hm
    rcases List.mem_append.1 hm with h1 | h1
    · exact .inl ⟨ho, h1⟩
    · exact .inr ⟨rfl, by simpa using h1⟩
  · by_cases e2 : i = n
    · subst e2; rw [addF_kids_n ho] at hm; cases hm
    · rw [addF_kids e e2] at hm; exact .inl ⟨by omega, hm⟩
theorem addF_wf (h : PzF F n op st) {o : Nat} (ho : o < n) (nm : ByteArray) (hb : n < 2000) : Wf (addF F n o nm) (n + 1) rkN := ⟨fun i hi k hm => by
  unfold rkN
  rcases addF_fwd h.kid ho hi hm with ⟨h1, h2⟩ | ⟨h1, h2⟩
  · have := h.kid i h1 k h2; omega
  · omega⟩
theorem addF_part (h : PzF F n op st) {o : Nat} (ho : o < n) (nm : ByteArray) (hb : n < 2000) {c : Nat} (hc : c < n) (hs : subF F rkN c o = false) : toRF (addF F n o nm) rkN c = toRF F rkN c :=
  toRF_local h.wf (addF_wf h ho nm hb) _ c (Nat.le_refl _) hc (by omega) fun z hz => by
    have hzn := subF_lt h.wf hc (Nat.le_refl _) hz
    have hne : z ≠ o := fun e => by rw [e, hs] at hz; cases hz
    exact ⟨addF_kids hne (by omega), addF_nm (by omega)⟩
theorem addF_zip (h : PzF F n op st) {o : Nat} (ho : o < n) (nm : ByteArray) (hb : n < 2000) : ∀ {y : Nat} {os : List Nat} {zs : List (List RT)}, (∀ p ∈ os, p < n) → y < n → subF F rkN y o = true → ZipAt F (some y) os zs → ZipAt (addF F n o nm) (some y) os zs
  | _, [], [], _, _, _, _ => trivial
  | y, p :: os, Z :: zs, hp, hy, hs, hz => by
    obtain ⟨h1, ⟨ks, h2, h3⟩, h4⟩ := hz
    have hpn := hp p (by simp)
    have hyk : y ∈ F.kids p := by rw [h2]; simp
    have hpy := (h.kid p hpn y hyk).1
    have hso := subF_kid h.wf hpn hyk hs
    have hne : p ≠ o := fun e => by
      subst e
      have := subD_rank h.wf hy hs
      have hb2 := h.big
      unfold rkN at this
      omega
    refine ⟨by rw [addF_nm (by omega)]; exact h1, ⟨ks, by rw [addF_kids hne (by omega)]; exact h2, ?_⟩, addF_zip h ho nm hb (fun q hq => hp q (by simp [hq])) hpn hso h4⟩
    rw [← h3]
    refine List.map_congr_left fun c hc => ?_
    have hck : c ∈ F.kids p := by rw [h2]; simp [hc]
    have hcn := (h.kid p hpn c hck).2
    refine addF_part h ho nm hb hcn ?_
    cases hsc : subF F rkN c o with
    | false => rfl
    | true =>
      exfalso
      have e := one_kids h.wf h.one h.nd (fun i _ => rkN_le i) hpn hck hyk hsc hs
      subst e
      have hnd := h.nd p hpn
      rw [h2] at hnd
      have := (List.nodup_append.1 hnd).2.2 c hc c (by simp)
      exact this rfl
  | _, [], _ :: _, _, _, _, hz => hz.elim
  | _, _ :: _, [], _, _, _, hz => hz.elim
end
section
variable {F : Frs} {n : Nat} {o : Nat} {os : List Nat} {Z : List RT} {st : List (List RT)}
theorem PzF.on (h : PzF F n (o :: os) st) : o < n := h.opn o (by simp)
theorem PzF.size (h : PzF F n (o :: os) (Z :: st)) : (F.nm o).size = 0 ∧ (F.kids o).map (toRF F rkN) = Z := by
  obtain ⟨h1, ⟨ks, h2, h3⟩, _⟩ := h.zip
  refine ⟨h1, ?_⟩
  rw [h2]; simpa using h3
theorem addF_base (h : PzF F n (o :: os) (Z :: st)) (nm : ByteArray) (hb : n < 2000) :
    (∀ i, i < n + 1 → ∀ k ∈ (addF F n o nm).kids i, i < k ∧ k < n + 1) ∧ (∀ p q k, p < n + 1 → q < n + 1 → k ∈ (addF F n o nm).kids p → k ∈ (addF F n o nm).kids q → p = q) ∧ (∀ i, i < n + 1 → ((addF F n o nm).kids i).Nodup) ∧
    ZipAt (addF F n o nm) (some o) os st ∧ (∀ c ∈ F.kids o, toRF (addF F n o nm) rkN c = toRF F rkN c) ∧ toRF (addF F n o nm) rkN n = .node nm [] := by
  have ho := h.on
  refine ⟨fun i hi k hk => ?_, fun p q k hp hq h1 h2 => ?_, fun i hi => ?_, addF_zip h ho nm hb (fun p hp => h.opn p (by simp [hp])) ho (subF_self h.wf ho) h.zip.2.2, fun c hc => ?_, ?_⟩
  · rcases addF_fwd h.kid ho hi hk with ⟨h1, h2⟩ | ⟨h1, h2⟩
    · have := h.kid i h1 k h2; omega
    · omega
  · rcases addF_fwd h.kid ho hp h1 with ⟨a1, a2⟩ | ⟨a1, a2⟩
    · rcases addF_fwd h.kid ho hq h2 with ⟨b1, b2⟩ | ⟨b1, b2⟩
      · exact h.one p q k a1 b1 a2 b2
      · have := (h.kid p a1 k a2).2; omega
    · rcases addF_fwd h.kid ho hq h2 with ⟨b1, b2⟩ | ⟨b1, b2⟩
      · have := (h.kid q b1 k b2).2; omega
      · omega
  · by_cases e : i = o
    · subst e
      rw [addF_kids_o, List.nodup_append]
      refine ⟨h.nd i ho, by simp, fun a ha b hb e => ?_⟩
      have hb : b = n := by simpa using hb
      have := (h.kid i ho a ha).2; omega
    · by_cases e2 : i = n
      · subst e2; rw [addF_kids_n ho]; exact List.nodup_nil
      · rw [addF_kids e e2]; exact h.nd i (by omega)
  · have hcn := h.kid o ho c hc
    refine addF_part h ho nm hb hcn.2 ?_
    cases hs : subF F rkN c o with
    | false => rfl
    | true =>
      have := subD_rank h.wf hcn.2 hs
      have hb2 := h.big
      unfold rkN at this
      omega
  · rw [toRF_eq (addF_wf h ho nm hb) (Nat.lt_succ_self n), addF_kids_n ho]
    show RT.node (upd F.nm n nm n) [] = _
    rw [upd_same]
theorem PzF.leaf (h : PzF F n (o :: os) (Z :: st)) (nm : ByteArray) (hb : n < 2000) : PzF (addF F n o nm) (n + 1) (o :: os) ((Z ++ [.node nm []]) :: st) := by
  obtain ⟨a1, a2, a3, a4, a5, a6⟩ := addF_base h nm hb
  have ho := h.on
  refine ⟨by omega, a1, a2, a3, ⟨by rw [addF_nm (by omega)]; exact h.size.1, ⟨_, (List.append_nil _).symm, ?_⟩, a4⟩, fun p hp => by have := h.opn p hp; omega, by simp⟩
  rw [addF_kids_o, List.map_append, List.map_cons, List.map_nil, a6]
  congr 1
  rw [← h.size.2]
  exact List.map_congr_left a5
theorem PzF.open (h : PzF F n (o :: os) (Z :: st)) (hb : n < 2000) : PzF (addF F n o ByteArray.empty) (n + 1) (n :: o :: os) ([] :: Z :: st) := by
  obtain ⟨a1, a2, a3, a4, a5, a6⟩ := addF_base h ByteArray.empty hb
  have ho := h.on
  refine ⟨by omega, a1, a2, a3, ⟨?_, ⟨[], by rw [addF_kids_n ho]; rfl, rfl⟩, by rw [addF_nm (by omega)]; exact h.size.1, ⟨F.kids o, addF_kids_o, ?_⟩, a4⟩, fun p hp => ?_, by simp⟩
  · show (upd F.nm n ByteArray.empty n).size = 0
    rw [upd_same]; rfl
  · rw [← h.size.2]
    exact List.map_congr_left a5
  · rcases List.mem_cons.1 hp with e | e
    · omega
    · have := h.opn p e; omega
theorem PzF.pop {q : Nat} {Y : List RT} (h : PzF F n (o :: q :: os) (Z :: Y :: st)) : PzF F n (q :: os) ((Y ++ [.node ByteArray.empty Z]) :: st) := by
  obtain ⟨h1, ⟨ks, h2, h3⟩, h4, ⟨ks2, h5, h6⟩, h7⟩ := h.zip
  have ho := h.on
  refine ⟨h.big, h.kid, h.one, h.nd, ⟨h4, ⟨ks2 ++ [o], by rw [h5]; simp, ?_⟩, h7⟩, fun p hp => h.opn p (by simp at hp ⊢; rcases hp with e | e <;> simp [e]), by simp⟩
  rw [List.map_append, h6, List.map_cons, List.map_nil, toRF_eq h.wf ho]
  have hn : F.nm o = ByteArray.empty := ByteArray.ext (Array.eq_empty_of_size_eq_zero h1)
  rw [hn, h.size.2]
theorem PzF.done {r : RT} {Y : List RT} (h : PzF F n [o] [r :: Y]) : ∃ c ks, F.kids o = c :: ks ∧ c < n ∧ treeF F rkN c = flat r := by
  obtain ⟨_, h2⟩ := h.size
  have ho := h.on
  cases hk : F.kids o with
  | nil => rw [hk] at h2; cases h2
  | cons c ks =>
    rw [hk, List.map_cons] at h2
    injection h2 with h2 h3
    have hcn := (h.kid o ho c (by rw [hk]; simp)).2
    exact ⟨c, ks, rfl, hcn, by rw [treeF_flat2 h.wf hcn (one_nodes h.wf h.one h.nd (fun i _ => rkN_le i) hcn), h2]⟩
theorem PzF.len (h : PzF F n (o :: os) (Z :: st)) : (o :: os).length = st.length + 1 := by rw [h.zip.len]; rfl
end
end Go.Proofs.YtpjijbophjdgaaaGreat
namespace Go.Proofs
open Go.Shelf
def Tryz.bldG_ren : Go.Shelf.Ren := ⟨fun | 169 => 108 | n => n, fun | 70 => 128 | 9 => 9 | 0 => 0 | 72 => 130 | 37 => 95 | 127 => 192 | 3 => 3 | 5 => 5 | n => n, fun | n => n⟩
theorem Tryz.bldG : Go.Proofs.Lays.n169 Tryz.prog Tryz.bldG_ren := {
  mixed := by kernel_rfl
  f169 := Tryz.func108.trans (congrArg some (by kernel_rfl))
  t0 := Tryz.underlying0
  a0 := Tryz.isAgg0
  z0 := Tryz.sizeOf0
  v0 := Tryz.zeroValue0
  t3 := Tryz.underlying3
  a3 := Tryz.isAgg3
  z3 := Tryz.sizeOf3
  v3 := Tryz.zeroValue3
  t9 := Tryz.underlying9
  a9 := Tryz.isAgg9
  z9 := Tryz.sizeOf9
  v9 := Tryz.zeroValue9
  t37 := Tryz.underlying95
  a37 := Tryz.isAgg95
  z37 := Tryz.sizeOf95
  v37 := Tryz.zeroValue95
  t70 := Tryz.underlying128
  a70 := Tryz.isAgg128
  z70 := Tryz.sizeOf128
  v70 := Tryz.zeroValue128
  t72 := Tryz.underlying130
  a72 := Tryz.isAgg130
  z72 := Tryz.sizeOf130
  v72 := Tryz.zeroValue130
  t127 := Tryz.underlying192
  a127 := Tryz.isAgg192
  z127 := Tryz.sizeOf192
  v127 := Tryz.zeroValue192 }
end Go.Proofs
namespace Go.Proofs.YtpjijbophjdgaaaGreat
open Go.RowKit Go.Deep
theorem bld_size : (Tryz.prog.info? 130).map (·.size) = some 2 := by kernel_rfl
theorem bld_lies : liesAt Tryz.prog Tryz.prog.depth 130 (2 / Tryz.prog.cellsOf 130) 0 130 1 = true := by kernel_rfl
theorem bld_byte : (Tryz.prog.info? 5).map (fun i => (i.zero, i.size, i.bytes)) = some (some (.int .u8 0), 1, 1) := by kernel_rfl
theorem bld_ne : (130 : TypeId) ≠ 5 := by decide
set_option maxRecDepth 100000 in
set_option maxHeartbeats 1000000 in
theorem cc_used (b : Nat) (w : World) (h0 : w.cell? ⟨b, 0, none⟩ = some (.pointer (some ⟨b, 0, none⟩))) :
    Calls Tryz.prog 174 #[.pointer (some ⟨b, 0, none⟩)] w fun e w' => e = .returned (.tuple #[]) ∧ w' = w := by
  obtain ⟨j, hj, _⟩ := Option.map_eq_some_iff.1 bld_size
  go_enter Tryz.func174, Tryz.ntmps174
  go_wp2_with fail
  rw [Lib.run_neq_ptr_same w _ Tryz.underlying128 hj]
  go_wp2_with fail
  go_end0
  exact ⟨rfl, rfl⟩
set_option maxRecDepth 100000 in
set_option maxHeartbeats 1000000 in
theorem cc_fresh (b : Nat) (w : World) (h0 : w.cell? ⟨b, 0, none⟩ = some (.pointer none)) (hsh : w.shape? b = some (130, 2)) (hfz : w.frozen? ⟨b, 0, none⟩ = false) :
    Calls Tryz.prog 174 #[.pointer (some ⟨b, 0, none⟩)] w fun e w' => e = .returned (.tuple #[]) ∧ w' = w.setCell ⟨b, 0, none⟩ (.pointer (some ⟨b, 0, none⟩)) := by
  obtain ⟨j, hj, hjs⟩ := Option.map_eq_some_iff.1 bld_size
  go_enter Tryz.func174, Tryz.ntmps174
  go_wp2_with fail
  rw [Lib.run_to_unsafe w ⟨b, 0, none⟩ Tryz.underlying128 Tryz.underlying220 hj (by rw [hjs]; decide) hsh (Nat.zero_lt_succ 1)]
  simp only [Result.andThen]
  rw [Oper.upon_value]
  go_wp2_with fail
  rw [run_callFunc_extern Tryz.func205 (by kernel_rfl) (by kernel_rfl) (by kernel_rfl) (e := Extern.AbiNoEscape.same) (by kernel_rfl)]
  rw [Lib.run_noEscape]
  simp only [Result.andThen]
  rw [Oper.upon_value]
  go_wp2_with fail
  rw [Lib.run_from_unsafe w ⟨b, 0, none⟩ Tryz.underlying220 Tryz.underlying128 hj hsh bld_lies]
  simp only [Result.andThen]
  rw [Oper.upon_value]
  go_wp2_with fail
  go_end0
  exact ⟨rfl, rfl⟩
theorem cc_t (B b : Nat) (bs : List Value) (w : World) (h : Lib.IsBuilderF 130 5 B b bs w) :
    Calls Tryz.prog 174 #[.pointer (some ⟨b, 0, none⟩)] w fun e w' => e = .returned (.tuple #[]) ∧ (Lib.BuilderAtF 130 5 B b (.pointer (some ⟨b, 0, none⟩)) bs w' ∧ Below B w w' ∧ Lib.OthersKept 5 (some b) w w') := by
  rcases h with h | h
  · refine (cc_fresh b w h.cell0 h.shape h.frozen0).mono ?_
    rintro e w' ⟨rfl, rfl⟩
    exact ⟨rfl, h.used _, (Below.refl B w).setCell (p := ⟨b, 0, none⟩) h.1 _, (Lib.OthersKept.refl _ _ w).setCell ⟨b, 0, none⟩ rfl _⟩
  · refine (cc_used b w h.cell0).mono ?_
    rintro e w' ⟨rfl, rfl⟩
    exact ⟨rfl, h, Below.refl B _, Lib.OthersKept.refl _ _ _⟩
set_option maxRecDepth 100000 in
set_option maxHeartbeats 2000000 in
theorem wbyte_t (B b : Nat) (bs : List Value) (c : Int) (w : World) (h : Lib.IsBuilderF 130 5 B b bs w) (hlen : bs.length + 1 ≤ 140737488355328) (hBw : B ≤ w.heap.size) :
    Calls Tryz.prog 107 #[.pointer (some ⟨b, 0, none⟩), .int .u8 c] w fun e w' => e = .returned .nilIface ∧ (Lib.BuilderAtF 130 5 B b (.pointer (some ⟨b, 0, none⟩)) (bs ++ [.int .u8 c]) w' ∧ Below B w w' ∧ Lib.OthersKept 5 (some b) w w') := by
  obtain ⟨i0, hi, hzz⟩ := Option.map_eq_some_iff.1 bld_byte
  simp only [Prod.mk.injEq] at hzz
  obtain ⟨hz0, hz1, hz2⟩ := hzz
  have HCC := Lib.hid (cc_t B b bs w h)
  clear h
  go_enter Tryz.func107, Tryz.ntmps107
  go_wp2_with fail
  refine HCC.out.mono ?_
  rintro e w1 ⟨rfl, h1, hb1, hk1⟩
  obtain ⟨hB, v, hbk, hown, hne⟩ := h1
  have c0 : w1.cell? ⟨b, 0, none⟩ = some (.pointer (some ⟨b, 0, none⟩)) := by rw [Lib.cell_of_heap hbk]; rfl
  have c1 : w1.cell? ⟨b, 1, none⟩ = some v := by rw [Lib.cell_of_heap hbk]; rfl
  go_wp2_with (at_builtin; refine wpList_append_ownF _ rfl _ _ 95 rfl B 5 i0 (.int .u8 0) 1 1 Tryz.underlying95 hi hz0 hz1 hz2 rfl (by decide) _ _ _ rfl (hown.alloc _) ⟨w1.heap.size, 0, none⟩ 1 1 [.int .u8 c] rfl rfl ?c1 ?c2 ?c3 ?c4 ?c5 ?_)
  case c1 =>
    intro j u hj
    match j, hj with
    | 0, hj => simp at hj; subst hj; simp [Addr.add]
  case c2 => intro u hu; simp at hu; subst hu; rfl
  case c3 => unfold maxLen; omega
  case c4 => omega
  case c5 => have := hb1.size; simp; omega
  intro v' w2 hown' hgrow _
  have hlt : b < w1.heap.size := by
    rcases Nat.lt_or_ge b w1.heap.size with h' | h'
    · exact h'
    · simp [Array.getElem?_eq_none h'] at hbk
  have hb2 : w2.heap[b]? = some (.cells #[.pointer (some ⟨b, 0, none⟩), v] 130 (0, 0)) := by
    rw [hgrow.block b (by simp; omega) (fun e => hne e.symm), Lib.alloc_old w1 _ b hlt]
    exact hbk
  have d0 : w2.cell? ⟨b, 0, none⟩ = some (.pointer (some ⟨b, 0, none⟩)) := by rw [Lib.cell_of_heap hb2]; rfl
  have d1 : w2.cell? ⟨b, 1, none⟩ = some v := by rw [Lib.cell_of_heap hb2]; rfl
  have f1 : w2.frozen? ⟨b, 1, none⟩ = false := Lib.frozen_of_heap hb2 1
  obtain ⟨g, cap, rfl⟩ : ∃ g cap, v' = .slice (some ⟨g, 0, none⟩) (bs.length + 1) cap := by
    rcases hown'.2 with ⟨_, h0⟩ | ⟨g, cap, cur, fz, hv, _⟩
    · omega
    · exact ⟨g, cap, hv⟩
  go_wp2_with fail
  go_ret
  refine ⟨rfl, ?_, ?_, ((hk1.alloc _).grown hgrow (Lib.ownsRowF_kind (hown.alloc _))).setCell ⟨b, 1, none⟩ rfl _⟩
  · exact Lib.BuilderAtF.put (T := 130) (e := 5) hB hb2 (bs' := bs ++ [.int .u8 c]) (by simpa using hown') bld_ne
  · exact ((hb1.alloc (by have := hb1.size; omega) _).grown hgrow (by have := hb1.size; simp; omega) (fun k hk => (hown.lt k hk).1)).setCell (p := ⟨b, 1, none⟩) hB _
set_option maxRecDepth 100000 in
set_option maxHeartbeats 2000000 in
theorem wstr_t (B b : Nat) (bs : List Value) (s : ByteArray) (w : World) (h : Lib.IsBuilderF 130 5 B b bs w) (hlen : bs.length + s.size ≤ 140737488355328) (hBw : B ≤ w.heap.size) :
    Calls Tryz.prog 106 #[.pointer (some ⟨b, 0, none⟩), .string s] w fun e w' => e = .returned (.tuple #[.int .i64 s.size, .nilIface]) ∧ (Lib.BuilderAtF 130 5 B b (.pointer (some ⟨b, 0, none⟩)) (bs ++ Lib.strCells s) w' ∧ Below B w w' ∧ Lib.OthersKept 5 (some b) w w') := by
  obtain ⟨i0, hi, hzz⟩ := Option.map_eq_some_iff.1 bld_byte
  simp only [Prod.mk.injEq] at hzz
  obtain ⟨hz0, hz1, hz2⟩ := hzz
  have HCC := Lib.hid (cc_t B b bs w h)
  clear h
  go_enter Tryz.func106, Tryz.ntmps106
  go_wp2_with fail
  refine HCC.out.mono ?_
  rintro e w1 ⟨rfl, h1, hb1, hk1⟩
  obtain ⟨hB, v, hbk, hown, hne⟩ := h1
  have c0 : w1.cell? ⟨b, 0, none⟩ = some (.pointer (some ⟨b, 0, none⟩)) := by rw [Lib.cell_of_heap hbk]; rfl
  have c1 : w1.cell? ⟨b, 1, none⟩ = some v := by rw [Lib.cell_of_heap hbk]; rfl
  go_wp2_with (at_builtin; refine Lib.wpList_append_own_stringF _ rfl _ _ 95 9 rfl B 5 i0 Tryz.underlying95 Tryz.underlying9 hi hz0 hz1 hz2 _ _ _ rfl hown s rfl ?c3 ?c4 ?c5 ?_)
  case c3 => unfold maxLen; omega
  case c4 => omega
  case c5 => have := hb1.size; omega
  intro v' w2 hown' hgrow _
  have hlt : b < w1.heap.size := by
    rcases Nat.lt_or_ge b w1.heap.size with h' | h'
    · exact h'
    · simp [Array.getElem?_eq_none h'] at hbk
  have hb2 : w2.heap[b]? = some (.cells #[.pointer (some ⟨b, 0, none⟩), v] 130 (0, 0)) := by
    rw [hgrow.block b hlt (fun e => hne e.symm)]
    exact hbk
  have d0 : w2.cell? ⟨b, 0, none⟩ = some (.pointer (some ⟨b, 0, none⟩)) := by rw [Lib.cell_of_heap hb2]; rfl
  have d1 : w2.cell? ⟨b, 1, none⟩ = some v := by rw [Lib.cell_of_heap hb2]; rfl
  have f1 : w2.frozen? ⟨b, 1, none⟩ = false := Lib.frozen_of_heap hb2 1
  obtain ⟨ao, n', cap, rfl⟩ : ∃ ao n' cap, v' = .slice ao n' cap := by
    rcases hown'.2 with ⟨hv, _⟩ | ⟨g, cap, cur, fz, hv, _⟩
    · exact ⟨_, _, _, hv⟩
    · exact ⟨_, _, _, hv⟩
  go_wp2_with fail
  go_ret2
  refine ⟨rfl, ?_, ?_, (hk1.grown hgrow (Lib.ownsRowF_kind hown)).setCell ⟨b, 1, none⟩ rfl _⟩
  · exact Lib.BuilderAtF.put (T := 130) (e := 5) hB hb2 (bs' := bs ++ Lib.strCells s) (by simpa [Lib.strCells_length] using hown') bld_ne
  · exact (hb1.grown hgrow (by have := hb1.size; omega) (fun k hk => (hown.lt k hk).1)).setCell (p := ⟨b, 1, none⟩) hB _
theorem bstr_t (B b : Nat) (l : List UInt8) (w : World) (h : Lib.IsBuilderF 130 5 B b (Lib.byteCells l) w) (hBw : B ≤ w.heap.size) :
    Calls Tryz.prog 108 #[.pointer (some ⟨b, 0, none⟩)] w fun e w' => e = .returned (.string ⟨l.toArray⟩) ∧ (Lib.IsBuilderF 130 5 B b (Lib.byteCells l) w' ∧ Below B w w' ∧ Lib.OthersKept 5 (some b) w w') :=
  Any.Builder_String_any_k Tryz.bldG ⟨⟨by kernel_rfl, by kernel_rfl⟩, Tryz.underlying5, Tryz.isAgg5, Tryz.sizeOf5, Tryz.zeroValue5, by kernel_rfl, by kernel_rfl, by kernel_rfl, by decide⟩ B b l w h hBw
end Go.Proofs.YtpjijbophjdgaaaGreat
