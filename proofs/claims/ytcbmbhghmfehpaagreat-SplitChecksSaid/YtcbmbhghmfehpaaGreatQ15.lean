/- Parse, plain: the machine over a stack of lists of rose trees; the forest that grows. strings.Builder: WriteByte, WriteString, String: laid strings.Builder: copyCheck, WriteByte, WriteString, String, with the frame that keeps the other blocks. The text of a tree: phylotree.Print$1. -/
import Derived.Test.YtcbmbhghmfehpaaGreatQ14
import Derived.Test.YtcbmbhghmfehpaaGreatQ13
import Derived.Lib.IndexAny
import Derived.Shelf.SlGeneric
import Derived.Shelf.Strings.BuilderK
import Derived.Ground.NamesProg
import Derived.Ground.Names2Prog
import Derived.Test.YtcbmbhghmfehpaaGreatProg
import Derived.Test.YtcbmbhghmfehpaaGreatQ2
import Derived.Test.YtcbmbhghmfehpaaGreatQ4
import Derived.Test.YtcbmbhghmfehpaaGreatQ11
import Derived.Lib.MinMax
namespace Go.Proofs.YtcbmbhghmfehpaaGreat
def sp4 : List UInt8 := [40, 41, 44, 59]
def popZ : List (List RT) → List (List RT)
  | Z :: Y :: st => (Y ++ [.node ByteArray.empty Z]) :: st
  | st => st
def addZ (r : RT) : List (List RT) → List (List RT)
  | Z :: st => (Z ++ [r]) :: st
  | [] => []
def firstZ : List (List RT) → RT
  | (r :: _) :: _ => r
  | _ => .node ByteArray.empty []
def pz : Nat → List UInt8 → List (List RT) → Bool → Option RT
  | 0, _, _, _ => none
  | _ + 1, [], _, _ => none
  | f + 1, c :: s, st, dn =>
    if c = 40 then (if dn = true then none else pz f s ([] :: st) false)
    else if c = 41 then (if dn = false ∨ st.length = 1 then none else pz f s (popZ st) true)
    else if c = 44 then (if dn = false ∨ st.length = 1 then none else pz f s st false)
    else if c = 59 then (if dn = false ∨ st.length ≠ 1 ∨ s ≠ [] then none else some (firstZ st))
    else if dn = true then none
    else if Lib.indexAny (c :: s) sp4 < 0 then none
    else pz f ((c :: s).drop (Lib.indexAny (c :: s) sp4).toNat) (addZ (.node ⟨((c :: s).take (Lib.indexAny (c :: s) sp4).toNat).toArray⟩ []) st) true
def paR (s : List UInt8) : Option RT := pz (s.length + 1) s [[]] false
section
variable {F G : Frs} {n m : Nat} {rk : Nat → Nat}
theorem toRF_local (hF : Wf F n rk) (hG : Wf G m rk) : ∀ (d c : Nat), rk c ≤ d → c < n → c < m → (∀ z, subF F rk c z = true → G.kids z = F.kids z ∧ G.nm z = F.nm z) → toRF G rk c = toRF F rk c
  | d, c, hd, hc, hm, hz => by
    obtain ⟨h1, h2⟩ := hz c (subF_self hF hc)
    rw [toRF_eq hF hc, toRF_eq hG hm, h1, h2]
    congr 1
    refine List.map_congr_left fun k hk => ?_
    have hkk := hF.kid c hc k hk
    have hkm := (hG.kid c hm k (by rw [h1]; exact hk)).1
    cases d with
    | zero => omega
    | succ d => exact toRF_local hF hG d k (by omega) hkk.1 hkm fun z hs => hz z (subF_kid hF hc hk hs)
def uqF (F : Frs) : Frs := ⟨fun i => ⟨Array.replicate i 0⟩, F.old, F.kids⟩
theorem uq_arb (hF : Wf F n rk) (one : ∀ p q k, p < n → q < n → k ∈ F.kids p → k ∈ F.kids q → p = q) (nd : ∀ i, i < n → (F.kids i).Nodup) : Arb (uqF F) n rk :=
  ⟨⟨fun i hi k hk => hF.kid i hi k hk⟩, one, nd, fun a b _ _ _ _ e => by
    have e : (⟨Array.replicate a 0⟩ : ByteArray) = ⟨Array.replicate b 0⟩ := e
    have := congrArg (fun s : ByteArray => s.data.size) e
    simpa using this⟩
theorem uq_sub (hF : Wf F n rk) {c : Nat} (hc : c < n) (z : Nat) : subF (uqF F) rk c z = subF F rk c z :=
  sub_cong (G := uqF F) hF ⟨fun i hi k hk => hF.kid i hi k hk⟩ hc (Nat.le_refl _) (fun _ _ => rfl) z
theorem uq_nodes (hF : Wf F n rk) : ∀ (d c : Nat), rk c ≤ d → c < n → nodesF (uqF F) rk c = nodesF F rk c
  | d, c, hd, hc => by
    have hU : Wf (uqF F) n rk := ⟨fun i hi k hk => hF.kid i hi k hk⟩
    rw [nodesF_eq hF hc, nodesF_eq hU hc]
    congr 1
    refine flatMap_congr' fun k hk => ?_
    have hkk := hF.kid c hc k hk
    cases d with
    | zero => omega
    | succ d => exact uq_nodes hF d k (by omega) hkk.1
theorem one_kids (hF : Wf F n rk) (one : ∀ p q k, p < n → q < n → k ∈ F.kids p → k ∈ F.kids q → p = q) (nd : ∀ i, i < n → (F.kids i).Nodup) {R : Nat} (hR : ∀ i, i < n → rk i ≤ R) {i x y j : Nat} (hi : i < n) (hx : x ∈ F.kids i) (hy : y ∈ F.kids i) (h1 : subF F rk x j = true) (h2 : subF F rk y j = true) : x = y :=
  sub_kids (uq_arb hF one nd) hR hi hx hy (by rw [uq_sub hF (hF.kid i hi x hx).1]; exact h1) (by rw [uq_sub hF (hF.kid i hi y hy).1]; exact h2)
theorem one_nodes (hF : Wf F n rk) (one : ∀ p q k, p < n → q < n → k ∈ F.kids p → k ∈ F.kids q → p = q) (nd : ∀ i, i < n → (F.kids i).Nodup) {R : Nat} (hR : ∀ i, i < n → rk i ≤ R) {i : Nat} (hi : i < n) : (nodesF F rk i).Nodup := by
  rw [← uq_nodes hF (rk i) i (Nat.le_refl _) hi]
  exact nodesF_nodup (uq_arb hF one nd) hR hi (Nat.le_refl _)
end
def rkN (z : Nat) : Nat := 2000 - z
def ZipAt (F : Frs) : Option Nat → List Nat → List (List RT) → Prop
  | nx, o :: os, Z :: st => (F.nm o).size = 0 ∧ (∃ ks, F.kids o = ks ++ nx.toList ∧ ks.map (toRF F rkN) = Z) ∧ ZipAt F (some o) os st
  | _, [], [] => True
  | _, _, _ => False
structure PzF (F : Frs) (n : Nat) (op : List Nat) (st : List (List RT)) : Prop where
  big : n ≤ 2000
  kid : ∀ i, i < n → ∀ k ∈ F.kids i, i < k ∧ k < n
  one : ∀ p q k, p < n → q < n → k ∈ F.kids p → k ∈ F.kids q → p = q
  nd : ∀ i, i < n → (F.kids i).Nodup
  zip : ZipAt F none op st
  opn : ∀ o ∈ op, o < n
  ne : op ≠ []
section
variable {F : Frs} {n : Nat} {op : List Nat} {st : List (List RT)}
theorem PzF.wf (h : PzF F n op st) : Wf F n rkN := ⟨fun i hi k hk => by obtain ⟨h1, h2⟩ := h.kid i hi k hk; have := h.big; exact ⟨h2, by unfold rkN; omega⟩⟩
theorem rkN_le (i : Nat) : rkN i ≤ 2000 := Nat.sub_le _ _
theorem ZipAt.len {F : Frs} : ∀ {nx : Option Nat} {op : List Nat} {st : List (List RT)}, ZipAt F nx op st → op.length = st.length
  | _, [], [], _ => rfl
  | _, _ :: os, _ :: st, h => by rw [List.length_cons, List.length_cons, h.2.2.len]
  | _, [], _ :: _, h => h.elim
  | _, _ :: _, [], h => h.elim
def addF (F : Frs) (n o : Nat) (nm : ByteArray) : Frs := ⟨upd F.nm n nm, upd F.old n 0, upd (upd F.kids n []) o (F.kids o ++ [n])⟩
theorem addF_kids_o {F : Frs} {n o : Nat} {nm : ByteArray} : (addF F n o nm).kids o = F.kids o ++ [n] := upd_same _ _ _
theorem addF_kids_n {F : Frs} {n o : Nat} {nm : ByteArray} (h : o < n) : (addF F n o nm).kids n = [] := by
  show upd _ o _ n = []
  rw [upd_ne _ _ (by omega), upd_same]
theorem addF_kids {F : Frs} {n o : Nat} {nm : ByteArray} {z : Nat} (h : z ≠ o) (h2 : z ≠ n) : (addF F n o nm).kids z = F.kids z := by
  show upd _ o _ z = _
  rw [upd_ne _ _ h, upd_ne _ _ h2]
theorem addF_nm {F : Frs} {n o : Nat} {nm : ByteArray} {z : Nat} (h2 : z ≠ n) : (addF F n o nm).nm z = F.nm z := upd_ne _ _ h2
theorem addF_fwd {F : Frs} {n o : Nat} {nm : ByteArray} (hk : ∀ i, i < n → ∀ k ∈ F.kids i, i < k ∧ k < n) (ho : o < n) {i k : Nat} (hi : i < n + 1) (hm : k ∈ (addF F n o nm).kids i) : (i < n ∧ k ∈ F.kids i) ∨ (i = o ∧ k = n) := by
  by_cases e : i = o
  · subst e
    rw [addF_kids_o] at hm
    rcases List.mem_append.1 hm with h1 | h1
    · exact .inl ⟨ho, h1⟩
    · exact .inr ⟨rfl, by simpa using h1⟩
  · by_cases e2 : i = n
    · subst e2; rw [addF_kids_n ho] at hm; cases hm
    · rw [addF_kids e e2] at hm; exact .inl ⟨by omega, hm⟩
theorem addF_wf (h : PzF F n op st) {o : Nat} (ho : o < n) (nm : ByteArray) (hb : n < 2000) : Wf (addF F n o nm) (n + 1) rkN := ⟨fun i hi k hm => by
  unfold rkN
  rcases addF_fwd h.kid ho hi hm with ⟨h1, h2⟩ | ⟨h1, h2⟩
  · have := h.kid i h1 k h2; omega
  · omega⟩
theorem addF_part (h : PzF F n op st) {o : Nat} (ho : o < n) (nm : ByteArray) (hb : n < 2000) {c : Nat} (hc : c < n) (hs : subF F rkN c o = false) : toRF (addF F n o nm) rkN c = toRF F rkN c :=
  toRF_local h.wf (addF_wf h ho nm hb) _ c (Nat.le_refl _) hc (by omega) fun z hz => by
    have hzn := subF_lt h.wf hc (Nat.le_refl _) hz
    have hne : z ≠ o := fun e => by rw [e, hs] at hz; cases hz
    exact ⟨addF_kids hne (by omega), addF_nm (by omega)⟩
theorem addF_zip (h : PzF F n op st) {o : Nat} (ho : o < n) (nm : ByteArray) (hb : n < 2000) : ∀ {y : Nat} {os : List Nat} {zs : List (List RT)}, (∀ p ∈ os, p < n) → y < n → subF F rkN y o = true → ZipAt F (some y) os zs → ZipAt (addF F n o nm) (some y) os zs
  | _, [], [], _, _, _, _ => trivial
  | y, p :: os, Z :: zs, hp, hy, hs, hz => by
    obtain ⟨h1, ⟨ks, h2, h3⟩, h4⟩ := hz
    have hpn := hp p (by simp)
    have hyk : y ∈ F.kids p := by rw [h2]; simp
    have hpy := (h.kid p hpn y hyk).1
    have hso := subF_kid h.wf hpn hyk hs
    have hne : p ≠ o := fun e => by
      subst e
      have := subD_rank h.wf hy hs
      have hb2 := h.big
      unfold rkN at this
      omega
    refine ⟨by rw [addF_nm (by omega)]; exact h1, ⟨ks, by rw [addF_kids hne (by omega)]; exact h2, ?_⟩, addF_zip h ho nm hb (fun q hq => hp q (by simp [hq])) hpn hso h4⟩
    rw [← h3]
    refine List.map_congr_left fun c hc => ?_
    have hck : c ∈ F.kids p := by rw [h2]; simp [hc]
    have hcn := (h.kid p hpn c hck).2
    refine addF_part h ho nm hb hcn ?_
    cases hsc : subF F rkN c o with
    | false => rfl
    | true =>
      exfalso
      have e := one_kids h.wf h.one h.nd (fun i _ => rkN_le i) hpn hck hyk hsc hs
      subst e
      have hnd := h.nd p hpn
      rw [h2] at hnd
      have := (List.nodup_append.1 hnd).2.2 c hc c (by simp)
      exact this rfl
  | _, [], _ :: _, _, _, _, hz => hz.elim
  | _, _ :: _, [], _, _, _, hz => hz.elim
end
section
variable {F : Frs} {n : Nat} {o : Nat} {os : List Nat} {Z : List RT} {st : List (List RT)}
theorem PzF.on (h : PzF F n (o :: os) st) : o < n := h.opn o (by simp)
theorem PzF.size (h : PzF F n (o :: os) (Z :: st)) : (F.nm o).size = 0 ∧ (F.kids o).map (toRF F rkN) = Z := by
  obtain ⟨h1, ⟨ks, h2, h3⟩, _⟩ := h.zip
  refine ⟨h1, ?_⟩
  rw [h2]; simpa using h3
theorem addF_base (h : PzF F n (o :: os) (Z :: st)) (nm : ByteArray) (hb : n < 2000) :
    (∀ i, i < n + 1 → ∀ k ∈ (addF F n o nm).kids i, i < k ∧ k < n + 1) ∧ (∀ p q k, p < n + 1 → q < n + 1 → k ∈ (addF F n o nm).kids p → k ∈ (addF F n o nm).kids q → p = q) ∧ (∀ i, i < n + 1 → ((addF F n o nm).kids i).Nodup) ∧
    ZipAt (addF F n o nm) (some o) os st ∧ (∀ c ∈ F.kids o, toRF (addF F n o nm) rkN c = toRF F rkN c) ∧ toRF (addF F n o nm) rkN n = .node nm [] := by
  have ho := h.on
  refine ⟨fun i hi k hk => ?_, fun p q k hp hq h1 h2 => ?_, fun i hi => ?_, addF_zip h ho nm hb (fun p hp => h.opn p (by simp [hp])) ho (subF_self h.wf ho) h.zip.2.2, fun c hc => ?_, ?_⟩
  · rcases addF_fwd h.kid ho hi hk with ⟨h1, h2⟩ | ⟨h1, h2⟩
    · have := h.kid i h1 k h2; omega
    · omega
  · rcases addF_fwd h.kid ho hp h1 with ⟨a1, a2⟩ | ⟨a1, a2⟩
    · rcases addF_fwd h.kid ho hq h2 with ⟨b1, b2⟩ | ⟨b1, b2⟩
      · exact h.one p q k a1 b1 a2 b2
      · have := (h.kid p a1 k a2).2; omega
    · rcases addF_fwd h.kid ho hq h2 with ⟨b1, b2⟩ | ⟨b1, b2⟩
      · have := (h.kid q b1 k b2).2; omega
      · omega
  · by_cases e : i = o
    · subst e
      rw [addF_kids_o, List.nodup_append]
      refine ⟨h.nd i ho, by simp, fun a ha b hb e => ?_⟩
      have hb : b = n := by simpa using hb
      have := (h.kid i ho a ha).2; omega
    · by_cases e2 : i = n
      · subst e2; rw [addF_kids_n ho]; exact List.nodup_nil
      · rw [addF_kids e e2]; exact h.nd i (by omega)
  · have hcn := h.kid o ho c hc
    refine addF_part h ho nm hb hcn.2 ?_
    cases hs : subF F rkN c o with
    | false => rfl
    | true =>
      have := subD_rank h.wf hcn.2 hs
      have hb2 := h.big
      unfold rkN at this
      omega
  · rw [toRF_eq (addF_wf h ho nm hb) (Nat.lt_succ_self n), addF_kids_n ho]
    show RT.node (upd F.nm n nm n) [] = _
    rw [upd_same]
theorem PzF.leaf (h : PzF F n (o :: os) (Z :: st)) (nm : ByteArray) (hb : n < 2000) : PzF (addF F n o nm) (n + 1) (o :: os) ((Z ++ [.node nm []]) :: st) := by
  obtain ⟨a1, a2, a3, a4, a5, a6⟩ := addF_base h nm hb
  have ho := h.on
  refine ⟨by omega, a1, a2, a3, ⟨by rw [addF_nm (by omega)]; exact h.size.1, ⟨_, (List.append_nil _).symm, ?_⟩, a4⟩, fun p hp => by have := h.opn p hp; omega, by simp⟩
  rw [addF_kids_o, List.map_append, List.map_cons, List.map_nil, a6]
  congr 1
  rw [← h.size.2]
  exact List.map_congr_left a5
theorem PzF.open (h : PzF F n (o :: os) (Z :: st)) (hb : n < 2000) : PzF (addF F n o ByteArray.empty) (n + 1) (n :: o :: os) ([] :: Z :: st) := by
  obtain ⟨a1, a2, a3, a4, a5, a6⟩ := addF_base h ByteArray.empty hb
  have ho := h.on
  refine ⟨by omega, a1, a2, a3, ⟨?_, ⟨[], by rw [addF_kids_n ho]; rfl, rfl⟩, by rw [addF_nm (by omega)]; exact h.size.1, ⟨F.kids o, addF_kids_o, ?_⟩, a4⟩, fun p hp => ?_, by simp⟩
  · show (upd F.nm n ByteArray.empty n).size = 0
    rw [upd_same]; rfl
  · rw [← h.size.2]
    exact List.map_congr_left a5
  · rcases List.mem_cons.1 hp with e | e
    · omega
    · have := h.opn p e; omega
theorem PzF.pop {q : Nat} {Y : List RT} (h : PzF F n (o :: q :: os) (Z :: Y :: st)) : PzF F n (q :: os) ((Y ++ [.node ByteArray.empty Z]) :: st) := by
  obtain ⟨h1, ⟨ks, h2, h3⟩, h4, ⟨ks2, h5, h6⟩, h7⟩ := h.zip
  have ho := h.on
  refine ⟨h.big, h.kid, h.one, h.nd, ⟨h4, ⟨ks2 ++ [o], by rw [h5]; simp, ?_⟩, h7⟩, fun p hp => h.opn p (by simp at hp ⊢; rcases hp with e | e <;> simp [e]), by simp⟩
  rw [List.map_append, h6, List.map_cons, List.map_nil, toRF_eq h.wf ho]
  have hn : F.nm o = ByteArray.empty := ByteArray.ext (Array.eq_empty_of_size_eq_zero h1)
  rw [hn, h.size.2]
theorem PzF.done {r : RT} {Y : List RT} (h : PzF F n [o] [r :: Y]) : ∃ c ks, F.kids o = c :: ks ∧ c < n ∧ treeF F rkN c = flat r := by
  obtain ⟨_, h2⟩ := h.size
  have ho := h.on
  cases hk : F.kids o with
  | nil => rw [hk] at h2; cases h2
  | cons c ks =>
    rw [hk, List.map_cons] at h2
    injection h2 with h2 h3
    have hcn := (h.kid o ho c (by rw [hk]; simp)).2
    exact ⟨c, ks, rfl, hcn, by rw [treeF_flat2 h.wf hcn (one_nodes h.wf h.one h.nd (fun i _ => rkN_le i) hcn), h2]⟩
theorem PzF.len (h : PzF F n (o :: os) (Z :: st)) : (o :: os).length = st.length + 1 := by rw [h.zip.len]; rfl
end
end Go.Proofs.YtcbmbhghmfehpaaGreat
namespace Go.Proofs
open Go.Shelf
def Tryz.bldG_ren : Go.Shelf.Ren := ⟨fun | 169 => 177 | n => n, fun | 70 => 188 | 9 => 9 | 0 => 0 | 72 => 190 | 37 => 55 | 127 => 230 | 3 => 3 | 5 => 5 | n => n, fun | n => n⟩
theorem Tryz.bldG : Go.Proofs.Lays.n169 Tryz.prog Tryz.bldG_ren := {
  mixed := by kernel_rfl
  f169 := Tryz.func177.trans (congrArg some (by kernel_rfl))
  t0 := Tryz.underlying0
  a0 := Tryz.isAgg0
  z0 := Tryz.sizeOf0
  v0 := Tryz.zeroValue0
  t3 := Tryz.underlying3
  a3 := Tryz.isAgg3
  z3 := Tryz.sizeOf3
  v3 := Tryz.zeroValue3
  t9 := Tryz.underlying9
  a9 := Tryz.isAgg9
  z9 := Tryz.sizeOf9
  v9 := Tryz.zeroValue9
  t37 := Tryz.underlying55
  a37 := Tryz.isAgg55
  z37 := Tryz.sizeOf55
  v37 := Tryz.zeroValue55
  t70 := Tryz.underlying188
  a70 := Tryz.isAgg188
  z70 := Tryz.sizeOf188
  v70 := Tryz.zeroValue188
  t72 := Tryz.underlying190
  a72 := Tryz.isAgg190
  z72 := Tryz.sizeOf190
  v72 := Tryz.zeroValue190
  t127 := Tryz.underlying230
  a127 := Tryz.isAgg230
  z127 := Tryz.sizeOf230
  v127 := Tryz.zeroValue230 }
end Go.Proofs
namespace Go.Proofs.YtcbmbhghmfehpaaGreat
open Go.RowKit Go.Deep
theorem bld_size : (Tryz.prog.info? 190).map (·.size) = some 2 := by kernel_rfl
theorem bld_lies : liesAt Tryz.prog Tryz.prog.depth 190 (2 / Tryz.prog.cellsOf 190) 0 190 1 = true := by kernel_rfl
theorem bld_byte : (Tryz.prog.info? 5).map (fun i => (i.zero, i.size, i.bytes)) = some (some (.int .u8 0), 1, 1) := by kernel_rfl
theorem bld_ne : (190 : TypeId) ≠ 5 := by decide
set_option maxRecDepth 100000 in
set_option maxHeartbeats 1000000 in
theorem cc_used (b : Nat) (w : World) (h0 : w.cell? ⟨b, 0, none⟩ = some (.pointer (some ⟨b, 0, none⟩))) :
    Calls Tryz.prog 210 #[.pointer (some ⟨b, 0, none⟩)] w fun e w' => e = .returned (.tuple #[]) ∧ w' = w := by
  obtain ⟨j, hj, _⟩ := Option.map_eq_some_iff.1 bld_size
  go_enter Tryz.func210, Tryz.ntmps210
  go_wp2_with fail
  rw [Lib.run_neq_ptr_same w _ Tryz.underlying188 hj]
  go_wp2_with fail
  go_end0
  exact ⟨rfl, rfl⟩
set_option maxRecDepth 100000 in
set_option maxHeartbeats 1000000 in
theorem cc_fresh (b : Nat) (w : World) (h0 : w.cell? ⟨b, 0, none⟩ = some (.pointer none)) (hsh : w.shape? b = some (190, 2)) (hfz : w.frozen? ⟨b, 0, none⟩ = false) :
    Calls Tryz.prog 210 #[.pointer (some ⟨b, 0, none⟩)] w fun e w' => e = .returned (.tuple #[]) ∧ w' = w.setCell ⟨b, 0, none⟩ (.pointer (some ⟨b, 0, none⟩)) := by
  obtain ⟨j, hj, hjs⟩ := Option.map_eq_some_iff.1 bld_size
  go_enter Tryz.func210, Tryz.ntmps210
  go_wp2_with fail
  rw [Lib.run_to_unsafe w ⟨b, 0, none⟩ Tryz.underlying188 Tryz.underlying259 hj (by rw [hjs]; decide) hsh (Nat.zero_lt_succ 1)]
  simp only [Result.andThen]
  rw [Oper.upon_value]
  go_wp2_with fail
  rw [run_callFunc_extern Tryz.func242 (by kernel_rfl) (by kernel_rfl) (by kernel_rfl) (e := Extern.AbiNoEscape.same) (by kernel_rfl)]
  rw [Lib.run_noEscape]
  simp only [Result.andThen]
  rw [Oper.upon_value]
  go_wp2_with fail
  rw [Lib.run_from_unsafe w ⟨b, 0, none⟩ Tryz.underlying259 Tryz.underlying188 hj hsh bld_lies]
  simp only [Result.andThen]
  rw [Oper.upon_value]
  go_wp2_with fail
  go_end0
  exact ⟨rfl, rfl⟩
theorem cc_t (B b : Nat) (bs : List Value) (w : World) (h : Lib.IsBuilderF 190 5 B b bs w) :
    Calls Tryz.prog 210 #[.pointer (some ⟨b, 0, none⟩)] w fun e w' => e = .returned (.tuple #[]) ∧ (Lib.BuilderAtF 190 5 B b (.pointer (some ⟨b, 0, none⟩)) bs w' ∧ Below B w w' ∧ Lib.OthersKept 5 (some b) w w') := by
  rcases h with h | h
  · refine (cc_fresh b w h.cell0 h.shape h.frozen0).mono ?_
    rintro e w' ⟨rfl, rfl⟩
    exact ⟨rfl, h.used _, (Below.refl B w).setCell (p := ⟨b, 0, none⟩) h.1 _, (Lib.OthersKept.refl _ _ w).setCell ⟨b, 0, none⟩ rfl _⟩
  · refine (cc_used b w h.cell0).mono ?_
    rintro e w' ⟨rfl, rfl⟩
    exact ⟨rfl, h, Below.refl B _, Lib.OthersKept.refl _ _ _⟩
set_option maxRecDepth 100000 in
set_option maxHeartbeats 2000000 in
theorem wbyte_t (B b : Nat) (bs : List Value) (c : Int) (w : World) (h : Lib.IsBuilderF 190 5 B b bs w) (hlen : bs.length + 1 ≤ 140737488355328) (hBw : B ≤ w.heap.size) :
    Calls Tryz.prog 176 #[.pointer (some ⟨b, 0, none⟩), .int .u8 c] w fun e w' => e = .returned .nilIface ∧ (Lib.BuilderAtF 190 5 B b (.pointer (some ⟨b, 0, none⟩)) (bs ++ [.int .u8 c]) w' ∧ Below B w w' ∧ Lib.OthersKept 5 (some b) w w') := by
  obtain ⟨i0, hi, hzz⟩ := Option.map_eq_some_iff.1 bld_byte
  simp only [Prod.mk.injEq] at hzz
  obtain ⟨hz0, hz1, hz2⟩ := hzz
  have HCC := Lib.hid (cc_t B b bs w h)
  clear h
  go_enter Tryz.func176, Tryz.ntmps176
  go_wp2_with fail
  refine HCC.out.mono ?_
  rintro e w1 ⟨rfl, h1, hb1, hk1⟩
  obtain ⟨hB, v, hbk, hown, hne⟩ := h1
  have c0 : w1.cell? ⟨b, 0, none⟩ = some (.pointer (some ⟨b, 0, none⟩)) := by rw [Lib.cell_of_heap hbk]; rfl
  have c1 : w1.cell? ⟨b, 1, none⟩ = some v := by rw [Lib.cell_of_heap hbk]; rfl
  go_wp2_with (at_builtin; refine wpList_append_ownF _ rfl _ _ 55 rfl B 5 i0 (.int .u8 0) 1 1 Tryz.underlying55 hi hz0 hz1 hz2 rfl (by decide) _ _ _ rfl (hown.alloc _) ⟨w1.heap.size, 0, none⟩ 1 1 [.int .u8 c] rfl rfl ?c1 ?c2 ?c3 ?c4 ?c5 ?_)
  case c1 =>
    intro j u hj
    match j, hj with
    | 0, hj => simp at hj; subst hj; simp [Addr.add]
  case c2 => intro u hu; simp at hu; subst hu; rfl
  case c3 => unfold maxLen; omega
  case c4 => omega
  case c5 => have := hb1.size; simp; omega
  intro v' w2 hown' hgrow _
  have hlt : b < w1.heap.size := by
    rcases Nat.lt_or_ge b w1.heap.size with h' | h'
    · exact h'
    · simp [Array.getElem?_eq_none h'] at hbk
  have hb2 : w2.heap[b]? = some (.cells #[.pointer (some ⟨b, 0, none⟩), v] 190 (0, 0)) := by
    rw [hgrow.block b (by simp; omega) (fun e => hne e.symm), Lib.alloc_old w1 _ b hlt]
    exact hbk
  have d0 : w2.cell? ⟨b, 0, none⟩ = some (.pointer (some ⟨b, 0, none⟩)) := by rw [Lib.cell_of_heap hb2]; rfl
  have d1 : w2.cell? ⟨b, 1, none⟩ = some v := by rw [Lib.cell_of_heap hb2]; rfl
  have f1 : w2.frozen? ⟨b, 1, none⟩ = false := Lib.frozen_of_heap hb2 1
  obtain ⟨g, cap, rfl⟩ : ∃ g cap, v' = .slice (some ⟨g, 0, none⟩) (bs.length + 1) cap := by
    rcases hown'.2 with ⟨_, h0⟩ | ⟨g, cap, cur, fz, hv, _⟩
    · omega
    · exact ⟨g, cap, hv⟩
  go_wp2_with fail
  go_ret
  refine ⟨rfl, ?_, ?_, ((hk1.alloc _).grown hgrow (Lib.ownsRowF_kind (hown.alloc _))).setCell ⟨b, 1, none⟩ rfl _⟩
  · exact Lib.BuilderAtF.put (T := 190) (e := 5) hB hb2 (bs' := bs ++ [.int .u8 c]) (by simpa using hown') bld_ne
  · exact ((hb1.alloc (by have := hb1.size; omega) _).grown hgrow (by have := hb1.size; simp; omega) (fun k hk => (hown.lt k hk).1)).setCell (p := ⟨b, 1, none⟩) hB _
set_option maxRecDepth 100000 in
set_option maxHeartbeats 2000000 in
theorem wstr_t (B b : Nat) (bs : List Value) (s : ByteArray) (w : World) (h : Lib.IsBuilderF 190 5 B b bs w) (hlen : bs.length + s.size ≤ 140737488355328) (hBw : B ≤ w.heap.size) :
    Calls Tryz.prog 175 #[.pointer (some ⟨b, 0, none⟩), .string s] w fun e w' => e = .returned (.tuple #[.int .i64 s.size, .nilIface]) ∧ (Lib.BuilderAtF 190 5 B b (.pointer (some ⟨b, 0, none⟩)) (bs ++ Lib.strCells s) w' ∧ Below B w w' ∧ Lib.OthersKept 5 (some b) w w') := by
  obtain ⟨i0, hi, hzz⟩ := Option.map_eq_some_iff.1 bld_byte
  simp only [Prod.mk.injEq] at hzz
  obtain ⟨hz0, hz1, hz2⟩ := hzz
  have HCC := Lib.hid (cc_t B b bs w h)
  clear h
  go_enter Tryz.func175, Tryz.ntmps175
  go_wp2_with fail
  refine HCC.out.mono ?_
  rintro e w1 ⟨rfl, h1, hb1, hk1⟩
  obtain ⟨hB, v, hbk, hown, hne⟩ := h1
  have c0 : w1.cell? ⟨b, 0, none⟩ = some (.pointer (some ⟨b, 0, none⟩)) := by rw [Lib.cell_of_heap hbk]; rfl
  have c1 : w1.cell? ⟨b, 1, none⟩ = some v := by rw [Lib.cell_of_heap hbk]; rfl
  go_wp2_with (at_builtin; refine Lib.wpList_append_own_stringF _ rfl _ _ 55 9 rfl B 5 i0 Tryz.underlying55 Tryz.underlying9 hi hz0 hz1 hz2 _ _ _ rfl hown s rfl ?c3 ?c4 ?c5 ?_)
  case c3 => unfold maxLen; omega
  case c4 => omega
  case c5 => have := hb1.size; omega
  intro v' w2 hown' hgrow _
  have hlt : b < w1.heap.size := by
    rcases Nat.lt_or_ge b w1.heap.size with h' | h'
    · exact h'
    · simp [Array.getElem?_eq_none h'] at hbk
  have hb2 : w2.heap[b]? = some (.cells #[.pointer (some ⟨b, 0, none⟩), v] 190 (0, 0)) := by
    rw [hgrow.block b hlt (fun e => hne e.symm)]
    exact hbk
  have d0 : w2.cell? ⟨b, 0, none⟩ = some (.pointer (some ⟨b, 0, none⟩)) := by rw [Lib.cell_of_heap hb2]; rfl
  have d1 : w2.cell? ⟨b, 1, none⟩ = some v := by rw [Lib.cell_of_heap hb2]; rfl
  have f1 : w2.frozen? ⟨b, 1, none⟩ = false := Lib.frozen_of_heap hb2 1
  obtain ⟨ao, n', cap, rfl⟩ : ∃ ao n' cap, v' = .slice ao n' cap := by
    rcases hown'.2 with ⟨hv, _⟩ | ⟨g, cap, cur, fz, hv, _⟩
    · exact ⟨_, _, _, hv⟩
    · exact ⟨_, _, _, hv⟩
  go_wp2_with fail
  go_ret2
  refine ⟨rfl, ?_, ?_, (hk1.grown hgrow (Lib.ownsRowF_kind hown)).setCell ⟨b, 1, none⟩ rfl _⟩
  · exact Lib.BuilderAtF.put (T := 190) (e := 5) hB hb2 (bs' := bs ++ Lib.strCells s) (by simpa [Lib.strCells_length] using hown') bld_ne
  · exact (hb1.grown hgrow (by have := hb1.size; omega) (fun k hk => (hown.lt k hk).1)).setCell (p := ⟨b, 1, none⟩) hB _
theorem bstr_t (B b : Nat) (l : List UInt8) (w : World) (h : Lib.IsBuilderF 190 5 B b (Lib.byteCells l) w) (hBw : B ≤ w.heap.size) :
    Calls Tryz.prog 177 #[.pointer (some ⟨b, 0, none⟩)] w fun e w' => e = .returned (.string ⟨l.toArray⟩) ∧ (Lib.IsBuilderF 190 5 B b (Lib.byteCells l) w' ∧ Below B w w' ∧ Lib.OthersKept 5 (some b) w w') :=
  Any.Builder_String_any_k Tryz.bldG ⟨⟨by kernel_rfl, by kernel_rfl⟩, Tryz.underlying5, Tryz.isAgg5, Tryz.sizeOf5, Tryz.zeroValue5, by kernel_rfl, by kernel_rfl, by kernel_rfl, by decide⟩ B b l w h hBw
end Go.Proofs.YtcbmbhghmfehpaaGreat
namespace Go.Proofs.YtcbmbhghmfehpaaGreat
open Go.RowKit Go.Deep
mutual
def txR : RT → List UInt8
  | .node nm [] => nm.data.toList
  | .node _ (k :: ks) => 40 :: (txR k ++ txRs ks ++ [41])
def txRs : List RT → List UInt8
  | [] => []
  | r :: rs => 44 :: (txR r ++ txRs rs)
end
def txK : List RT → List UInt8
  | [] => []
  | k :: ks => 40 :: (txR k ++ txRs ks)
theorem txRs_app (l : List RT) (c : RT) : txRs (l ++ [c]) = txRs l ++ 44 :: txR c := by
  induction l with
  | nil => simp [txRs]
  | cons a l ih => rw [List.cons_append, txRs, txRs, ih]; simp
theorem txK_app (l : List RT) (c : RT) : txK (l ++ [c]) = txK l ++ (if l.length = 0 then 40 else 44) :: txR c := by
  cases l with
  | nil => simp [txK, txRs]
  | cons a l => rw [List.cons_append, txK, txK, txRs_app, if_neg (by simp)]; simp
theorem txR_node (nm : ByteArray) {ks : List RT} (h : ks ≠ []) : txR (.node nm ks) = txK ks ++ [41] := by
  cases ks with
  | nil => exact absurd rfl h
  | cons k ks => rw [txR, txK]; simp
theorem txR_leaf (nm : ByteArray) : txR (.node nm []) = nm.data.toList := by rw [txR]
theorem txRs_len_app (l m : List RT) : (txRs (l ++ m)).length = (txRs l).length + (txRs m).length := by
  induction l with
  | nil => simp [txRs]
  | cons a l ih => rw [List.cons_append, txRs, txRs]; simp [ih]; omega
theorem txK_len_take (l : List RT) (k : Nat) : (txK (l.take k)).length ≤ (txK l).length := by
  cases l with
  | nil => simp [txK]
  | cons a l =>
    cases k with
    | zero => simp [txK]
    | succ k =>
      rw [List.take_succ_cons, txK, txK]
      have := txRs_len_app (l.take k) (l.drop k)
      rw [List.take_append_drop] at this
      simp only [List.length_cons, List.length_append]; omega
structure BldAt (B b : Nat) (pre : List UInt8) (w wr : World) : Prop where
  bl : Lib.IsBuilderF 190 5 B b (Lib.byteCells pre) wr
  up : Below B w wr
  ot : Lib.OthersKept 5 (some b) w wr
theorem BldAt.size {B b : Nat} {pre : List UInt8} {w wr : World} (h : BldAt B b pre w wr) (hB : B ≤ w.heap.size) : B ≤ wr.heap.size := Nat.le_trans hB h.up.size
theorem BldAt.byte {B b : Nat} {pre : List UInt8} {w wr w2 : World} {x : UInt8} {c : Int} (h : BldAt B b pre w wr) (hc : c = x.toNat) (h1 : Lib.BuilderAtF 190 5 B b (.pointer (some ⟨b, 0, none⟩)) (Lib.byteCells pre ++ [.int .u8 c]) w2) (h2 : Below B wr w2) (h3 : Lib.OthersKept 5 (some b) wr w2) : BldAt B b (pre ++ [x]) w w2 := by
  subst hc
  exact ⟨.inr (by rw [show Lib.byteCells (pre ++ [x]) = Lib.byteCells pre ++ [.int .u8 x.toNat] from List.map_append]; exact h1), h.up.trans h2, h.ot.trans h3⟩
theorem BldAt.next {B b : Nat} {pre pre2 : List UInt8} {w wr w2 : World} (h : BldAt B b pre w wr) (k : BldAt B b pre2 wr w2) : BldAt B b pre2 w w2 := ⟨k.bl, h.up.trans k.up, h.ot.trans k.ot⟩
theorem FAt.others {base n b : Nat} {A : Nat → Nat} {kv : Nat → Value} {F : Frs} {w w' : World} (h : FAt base n A kv F w) (hb : b < base) (k : Lib.OthersKept 5 (some b) w w') : FAt base n A kv F w' := by
  refine h.same (fun i hi => ?_) fun i g hi hg => ?_
  · have h1 := h.node i hi
    rw [h1]
    refine k _ _ h1 (fun e => by have := h.lo i hi; cases e; omega) (fun c fz e => ?_)
    injection e with _ e2 _
    exact absurd e2 (by decide)
  · have hlo := (h.ownlt hi hg).1
    obtain ⟨_, h1 | ⟨g2, cap, cur, h1, _, hc, _⟩⟩ := h.own i hi
    · rw [h1.1] at hg; cases hg
    · rw [h1] at hg
      have hg : some g2 = some g := hg
      injection hg with hg; subst hg
      rw [hc]
      refine k _ _ hc (fun e => by cases e; omega) (fun c fz e => ?_)
      injection e with _ e2 _
      exact absurd e2 (by decide)
def PrBox (b fb : Nat) (w : World) : Prop := w.heap[fb]? = some (Obj.cells #[.func (.func 174) #[] #[.pointer (some ⟨b, 0, none⟩), .pointer (some ⟨fb, 0, none⟩)]] 191 (0, 0))
theorem PrBox.cell {b fb : Nat} {w : World} (h : PrBox b fb w) : w.cell? ⟨fb, 0, none⟩ = some (.func (.func 174) #[] #[.pointer (some ⟨b, 0, none⟩), .pointer (some ⟨fb, 0, none⟩)]) := by
  have h : w.heap[fb]? = _ := h
  simp [World.cell?, h]
theorem PrBox.others {b fb : Nat} {w w' : World} (h : PrBox b fb w) (hne : fb ≠ b) (k : Lib.OthersKept 5 (some b) w w') : PrBox b fb w' := by
  have h : w.heap[fb]? = _ := h
  refine k _ _ h (fun e => by cases e; exact hne rfl) (fun c fz e => ?_)
  injection e with _ e2 _
  exact absurd e2 (by decide)
def PtPost (B b : Nat) (pre : List UInt8) (w : World) (e : Ending) (w' : World) : Prop := e = .returned (.tuple #[]) ∧ BldAt B b pre w w'
set_option maxRecDepth 100000 in
set_option maxHeartbeats 4000000 in
theorem print1_t {base n B b fb : Nat} {A : Nat → Nat} {kv : Nat → Value} {F : Frs} {rk : Nat → Nat} (hw : Wf F n rk) (hl : ∀ z, z < n → (F.kids z).length ≤ 1000) (hbb : b < base) (hfb : fb ≠ b) : ∀ (d i : Nat) (pre : List UInt8) (w : World), i < n → rk i ≤ d → FAt base n A kv F w → PrBox b fb w →
    Lib.IsBuilderF 190 5 B b (Lib.byteCells pre) w → pre.length + (txR (toRF F rk i)).length ≤ 140737488355328 → B ≤ w.heap.size →
    Calls Tryz.prog 174 (#[.pointer (some ⟨A i, 0, none⟩)] ++ #[.pointer (some ⟨b, 0, none⟩), .pointer (some ⟨fb, 0, none⟩)]) w (PtPost B b (pre ++ txR (toRF F rk i)) w) := by
  intro d
  induction d using Nat.strongRecOn with
  | ind d ih =>
    intro i pre w hi hd hF hbx hbl hlen hB
    have eP : ∀ args w, (callFunc 174 args).run Tryz.prog w = .ok (.enter 174 args) w := enters_of Tryz.func174 (by kernel_rfl) rfl
    have hown := hF.own i hi
    obtain ⟨q, cap, hv, hq⟩ := hown.form (n := (F.kids i).length) (by simp)
    have hkc := hF.kidv hi
    rw [hv] at hkc
    have hnm := hF.name hi
    by_cases h0 : F.kids i = []
    · have htx : txR (toRF F rk i) = (F.nm i).data.toList := by rw [toRF_eq hw hi, h0]; exact txR_leaf _
      rw [htx] at hlen ⊢
      have d1 : (((F.kids i).length : Int) == 0) = true := by rw [h0]; rfl
      have HW := Lib.hid (wstr_t B b (Lib.byteCells pre) (F.nm i) w hbl (by rw [Lib.byteCells_length]; exact hlen) hB)
      have HE : Hid (∀ w', Lib.BuilderAtF 190 5 B b (.pointer (some ⟨b, 0, none⟩)) (Lib.byteCells pre ++ Lib.strCells (F.nm i)) w' → Below B w w' → Lib.OthersKept 5 (some b) w w' → BldAt B b (pre ++ (F.nm i).data.toList) w w') := fun w' h1 h2 h3 =>
        ⟨.inr (by rw [Lib.strCells_eq, ← show Lib.byteCells (pre ++ (F.nm i).data.toList) = Lib.byteCells pre ++ Lib.byteCells (F.nm i).data.toList from List.map_append] at h1; exact h1), h2, h3⟩
      clear hown hq hv ih hF hbx hbl hlen h0 htx
      generalize F.nm i = nm at *
      go_enter Tryz.func174, Tryz.ntmps174
      go_wp2_with fail
      refine HW.out.mono ?_
      rintro e w' ⟨rfl, h1, h2, h3⟩
      have HN := Lib.hid (HE.out w' h1 h2 h3)
      clear h1 h2 h3
      go_wp2_with fail
      go_end0
      exact ⟨rfl, HN.out⟩
    · obtain ⟨L, hLL⟩ : ∃ L, L = F.kids i := ⟨_, rfl⟩
      have hL0 : 0 < L.length := by rw [hLL]; exact List.length_pos_iff.2 h0
      have hl1 : L.length ≤ 1000 := by rw [hLL]; exact hl i hi
      rw [← hLL] at hown hv hkc
      have htx : txR (toRF F rk i) = txK (L.map (toRF F rk)) ++ [41] := by rw [toRF_eq hw hi, ← hLL]; exact txR_node _ (by rw [hLL]; simpa using h0)
      rw [htx] at hlen ⊢
      have d1 : ((L.length : Int) == 0) = false := beq_eq_false_iff_ne.2 (by omega)
      obtain ⟨gk, rfl⟩ : ∃ g, q = some ⟨g, 0, none⟩ := by
        rcases hq with rfl | h
        · obtain ⟨_, h | ⟨g, _, _, h, _⟩⟩ := hown
          · have := h.2; rw [List.length_map] at this; omega
          · rw [hv] at h; cases h
        · exact h
      have HLEN : Hid (∀ k, pre.length + (txK ((L.take k).map (toRF F rk))).length + 1 ≤ 140737488355328) := fun k => by
        have := txK_len_take (L.map (toRF F rk)) k
        rw [← List.map_take] at this
        simp only [List.length_append, List.length_cons, List.length_nil] at hlen
        omega
      have HST : Hid (BldAt B b (pre ++ txK ((L.take 0).map (toRF F rk))) w w) := by
        rw [Hid, List.take_zero, List.map_nil, txK, List.append_nil]; exact ⟨hbl, Below.refl _ _, Lib.OthersKept.refl _ _ _⟩
      have HF := Lib.hid hF
      have HBX := Lib.hid hbx
      have HLL := Lib.hid hLL
      have HIH := Lib.hid ih
      have HV := Lib.hid hv
      have HLN : Hid (∀ c ∈ L, c < n ∧ rk c < rk i) := fun c hc => hw.kid i hi c (by rw [← hLL]; exact hc)
      clear hown hq hv ih hF hbx hbl hlen h0 htx hLL hnm
      go_enter Tryz.func174, Tryz.ntmps174
      go_wp2_with fail
      go_loopw [4, 5, 22] (fun _ _ x wr => ∃ k : Nat, k ≤ L.length ∧ x = .int .i64 k ∧ Hid (BldAt B b (pre ++ txK ((L.take k).map (toRF F rk))) w wr)) (fun _ _ x _ => L.length - (intOf x).toNat)
      case atStart => exact ⟨0, Nat.zero_le _, rfl, HST.out⟩
      case round =>
        obtain ⟨k, hk, rfl, hO⟩ := hrel
        obtain ⟨wo, rfl⟩ : ∃ wo : World, wo = wr := ⟨_, rfl⟩
        by_cases hlt : k < L.length
        · have hcL : L[k]? = some L[k] := List.getElem?_eq_getElem hlt
          have hFo := HF.out.others hbb hO.out.ot
          have hrow := hFo.kcell (i := i) (j := k) (c := L[k]) hi HV.out (by rw [← HLL.out]; exact hcL)
          have hcn := HLN.out L[k] (List.getElem_mem hlt)
          have HKL : Hid (((L.take k).map (toRF F rk)).length = k) := by rw [Hid, List.length_map, List.length_take]; omega
          have HNX : Hid (txK ((L.take (k + 1)).map (toRF F rk)) = txK ((L.take k).map (toRF F rk)) ++ ((if k = 0 then 40 else 44) :: txR (toRF F rk L[k]))) := by
            rw [Hid, List.take_add_one, hcL, List.map_append]
            show txK (_ ++ [toRF F rk L[k]]) = _
            rw [txK_app, HKL.out]
          have HC1 := Lib.hid (fun c : Int => wbyte_t B b (Lib.byteCells (pre ++ txK ((L.take k).map (toRF F rk)))) c wo hO.out.bl (by rw [Lib.byteCells_length, List.length_append]; exact HLEN.out k) (hO.out.size hB))
          have HO := Lib.hid hO.out
          have HLT := Lib.hid hlt
          have HCN := Lib.hid hcn
          obtain ⟨mn, hmn, hcase⟩ : ∃ mn : Int, min (k : Int) 1 = mn ∧ ((k = 0 ∧ mn = 0) ∨ (k ≠ 0 ∧ mn = 1)) := ⟨_, rfl, by omega⟩
          have i1 : (0 : Int) ≤ (k : Int) := by omega
          have i2 : (k : Int) < (L.length : Int) := by omega
          clear hcL hFo hcn hO
          generalize L[k] = c at *
          rcases hcase with ⟨hk0, rfl⟩ | ⟨hk0, rfl⟩
          · rw [if_pos hk0] at HNX
            clear hk0
            go_wp2_with fail
            refine (HC1.out _).mono ?_
            rintro e w2 ⟨rfl, h1, h2, h3⟩
            have HS := Lib.hid (HO.out.byte (x := 40) rfl h1 h2 h3)
            clear h1 h2 h3
            have hfc := (HBX.out.others hfb HS.out.ot).cell
            have HCALL := Lib.hid (HIH.out (rk c) (by have := HCN.out.2; omega) c (pre ++ txK ((L.take k).map (toRF F rk)) ++ [40]) w2 HCN.out.1 (Nat.le_refl _) (HF.out.others hbb HS.out.ot) (HBX.out.others hfb HS.out.ot) HS.out.bl (by
              have := HLEN.out (k + 1)
              rw [HNX.out] at this
              simp only [List.length_append, List.length_cons, List.length_nil] at this ⊢
              omega) (HS.out.size hB))
            go_wp2_with fail
            refine HCALL.out.mono ?_
            rintro e w3 ⟨rfl, h4⟩
            have HN : Hid (BldAt B b (pre ++ txK ((L.take (k + 1)).map (toRF F rk))) w w3) := by
              have := HS.out.next h4
              rw [Hid, HNX.out]
              simpa [List.append_assoc] using this
            clear h4 HCALL HS
            go_wp2_with fail
            go_roundw
            case rel => exact ⟨k + 1, HLT.out, by go_num, HN.out⟩
            case measure => have := HLT.out; simp [intOf]; omega
          · rw [if_neg hk0] at HNX
            clear hk0
            go_wp2_with fail
            refine (HC1.out _).mono ?_
            rintro e w2 ⟨rfl, h1, h2, h3⟩
            have HS := Lib.hid (HO.out.byte (x := 44) rfl h1 h2 h3)
            clear h1 h2 h3
            have hfc := (HBX.out.others hfb HS.out.ot).cell
            have HCALL := Lib.hid (HIH.out (rk c) (by have := HCN.out.2; omega) c (pre ++ txK ((L.take k).map (toRF F rk)) ++ [44]) w2 HCN.out.1 (Nat.le_refl _) (HF.out.others hbb HS.out.ot) (HBX.out.others hfb HS.out.ot) HS.out.bl (by
              have := HLEN.out (k + 1)
              rw [HNX.out] at this
              simp only [List.length_append, List.length_cons, List.length_nil] at this ⊢
              omega) (HS.out.size hB))
            go_wp2_with fail
            refine HCALL.out.mono ?_
            rintro e w3 ⟨rfl, h4⟩
            have HN : Hid (BldAt B b (pre ++ txK ((L.take (k + 1)).map (toRF F rk))) w w3) := by
              have := HS.out.next h4
              rw [Hid, HNX.out]
              simpa [List.append_assoc] using this
            clear h4 HCALL HS
            go_wp2_with fail
            go_roundw
            case rel => exact ⟨k + 1, HLT.out, by go_num, HN.out⟩
            case measure => have := HLT.out; simp [intOf]; omega
        · obtain rfl : k = L.length := by omega
          have hO := hO.out
          rw [List.take_length] at hO
          have HO := Lib.hid hO
          have HC1 := Lib.hid (wbyte_t B b (Lib.byteCells (pre ++ txK (L.map (toRF F rk)))) 41 wo hO.bl (by rw [Lib.byteCells_length, List.length_append]; have := HLEN.out L.length; rw [List.take_length] at this; exact this) (hO.size hB))
          clear hO
          go_wp2_with fail
          refine HC1.out.mono ?_
          rintro e w2 ⟨rfl, h1, h2, h3⟩
          have HS := Lib.hid (HO.out.byte (x := 41) rfl h1 h2 h3)
          clear h1 h2 h3
          go_wp2_with fail
          go_end0
          exact ⟨rfl, by rw [← List.append_assoc]; exact HS.out⟩
end Go.Proofs.YtcbmbhghmfehpaaGreat
