/- Parse, plain: the machine over a stack of lists of rose trees; the forest that grows. strings.Builder: WriteByte, WriteString, String: laid strings.Builder: copyCheck, WriteByte, WriteString, String, with the frame that keeps the other blocks. The text of a tree: phylotree.Print$1. Texts of rose trees, plain: what the machine reads is the text of the result, and the other way round. phylotree.nodes again: the row of nodes lies apart from the forest. The contract of phylotree.Print. -/
import Derived.Test.YtcaialhoclodjaaQ19
import Derived.Test.YtcaialhoclodjaaQ15
import Derived.Lib.IndexAny
import Derived.Shelf.SlGeneric
import Derived.Shelf.Strings.BuilderK
import Derived.Ground.NamesProg
import Derived.Ground.Names2Prog
import Derived.Test.YtcaialhoclodjaaProg
import Derived.Test.YtcaialhoclodjaaQ6
import Derived.Test.YtcaialhoclodjaaQ7
import Derived.Test.YtcaialhoclodjaaQ16
import Derived.Test.YtcaialhoclodjaaQ14
import Derived.Lib.MinMax
import Derived.Test.YtcaialhoclodjaaQ9
import Derived.Test.YtcaialhoclodjaaQ20
namespace Go.Proofs.Ytcaialhoclodjaa
def sp4 : List UInt8 := [40, 41, 44, 59]
def popZ : List (List RT) → List (List RT)
  | Z :: Y :: st => (Y ++ [.node ByteArray.empty Z]) :: st
  | st => st
def addZ (r : RT) : List (List RT) → List (List RT)
  | Z :: st => (Z ++ [r]) :: st
  | [] => []
def firstZ : List (List RT) → RT
  | (r :: _) :: _ => r
  | _ => .node ByteArray.empty []
def pz : Nat → List UInt8 → List (List RT) → Bool → Option RT
  | 0, _, _, _ => none
  | _ + 1, [], _, _ => none
  | f + 1, c :: s, st, dn =>
    if c = 40 then (if dn = true then none else pz f s ([] :: st) false)
    else if c = 41 then (if dn = false ∨ st.length = 1 then none else pz f s (popZ st) true)
    else if c = 44 then (if dn = false ∨ st.length = 1 then none else pz f s st false)
    else if c = 59 then (if dn = false ∨ st.length ≠ 1 ∨ s ≠ [] then none else some (firstZ st))
    else if dn = true then none
    else if Lib.indexAny (c :: s) sp4 < 0 then none
    else pz f ((c :: s).drop (Lib.indexAny (c :: s) sp4).toNat) (addZ (.node ⟨((c :: s).take (Lib.indexAny (c :: s) sp4).toNat).toArray⟩ []) st) true
section
variable {F G : Frs} {n m : Nat} {rk : Nat → Nat}
/-- A part of a forest in which nothing has changed. -/
theorem toRF_local (hF : Wf F n rk) (hG : Wf G m rk) : ∀ (d c : Nat), rk c ≤ d → c < n → c < m → (∀ z, subF F rk c z = true → G.kids z = F.kids z ∧ G.nm z = F.nm z) → toRF G rk c = toRF F rk c
  | d, c, hd, hc, hm, hz => by
    obtain ⟨h1, h2⟩ := hz c (subF_self hF hc)
    rw [toRF_eq hF hc, toRF_eq hG hm, h1, h2]
    congr 1
    refine List.map_congr_left fun k hk => ?_
    have hkk := hF.kid c hc k hk
    have hkm := (hG.kid c hm k (by rw [h1]; exact hk)).1
    cases d with
    | zero => omega
    | succ d => exact toRF_local hF hG d k (by omega) hkk.1 hkm fun z hs => hz z (subF_kid hF hc hk hs)
/-- The forest with names of its own: of the kind Arb. -/
def uqF (F : Frs) : Frs := ⟨fun i => ⟨Array.replicate i 0⟩, F.old, F.kids⟩
theorem uq_arb (hF : Wf F n rk) (one : ∀ p q k, p < n → q < n → k ∈ F.kids p → k ∈ F.kids q → p = q) (nd : ∀ i, i < n → (F.kids i).Nodup) : Arb (uqF F) n rk :=
  ⟨⟨fun i hi k hk => hF.kid i hi k hk⟩, one, nd, fun a b _ _ _ _ e => by
    have e : (⟨Array.replicate a 0⟩ : ByteArray) = ⟨Array.replicate b 0⟩ := e
    have := congrArg (fun s : ByteArray => s.data.size) e
    simpa using this⟩
theorem uq_sub (hF : Wf F n rk) {c : Nat} (hc : c < n) (z : Nat) : subF (uqF F) rk c z = subF F rk c z :=
  sub_cong (G := uqF F) hF ⟨fun i hi k hk => hF.kid i hi k hk⟩ hc (Nat.le_refl _) (fun _ _ => rfl) z
theorem uq_nodes (hF : Wf F n rk) : ∀ (d c : Nat), rk c ≤ d → c < n → nodesF (uqF F) rk c = nodesF F rk c
  | d, c, hd, hc => by
    have hU : Wf (uqF F) n rk := ⟨fun i hi k hk => hF.kid i hi k hk⟩
    rw [nodesF_eq hF hc, nodesF_eq hU hc]
    congr 1
    refine flatMap_congr' fun k hk => ?_
    have hkk := hF.kid c hc k hk
    cases d with
    | zero => omega
    | succ d => exact uq_nodes hF d k (by omega) hkk.1
theorem one_kids (hF : Wf F n rk) (one : ∀ p q k, p < n → q < n → k ∈ F.kids p → k ∈ F.kids q → p = q) (nd : ∀ i, i < n → (F.kids i).Nodup) {R : Nat} (hR : ∀ i, i < n → rk i ≤ R) {i x y j : Nat} (hi : i < n) (hx : x ∈ F.kids i) (hy : y ∈ F.kids i) (h1 : subF F rk x j = true) (h2 : subF F rk y j = true) : x = y :=
  sub_kids (uq_arb hF one nd) hR hi hx hy (by rw [uq_sub hF (hF.kid i hi x hx).1]; exact h1) (by rw [uq_sub hF (hF.kid i hi y hy).1]; exact h2)
theorem one_nodes (hF : Wf F n rk) (one : ∀ p q k, p < n → q < n → k ∈ F.kids p → k ∈ F.kids q → p = q) (nd : ∀ i, i < n → (F.kids i).Nodup) {R : Nat} (hR : ∀ i, i < n → rk i ≤ R) {i : Nat} (hi : i < n) : (nodesF F rk i).Nodup := by
  rw [← uq_nodes hF (rk i) i (Nat.le_refl _) hi]
  exact nodesF_nodup (uq_arb hF one nd) hR hi (Nat.le_refl _)
end
def rkN (z : Nat) : Nat := 2000 - z
/-- The open nodes, innermost first, against the stack: the last child of each but the innermost is the next. -/
def ZipAt (F : Frs) : Option Nat → List Nat → List (List RT) → Prop
  | nx, o :: os, Z :: st => (F.nm o).size = 0 ∧ (∃ ks, F.kids o = ks ++ nx.toList ∧ ks.map (toRF F rkN) = Z) ∧ ZipAt F (some o) os st
  | _, [], [] => True
  | _, _, _ => False
structure PzF (F : Frs) (n : Nat) (op : List Nat) (st : List (List RT)) : Prop where
  big : n ≤ 2000
  kid : ∀ i, i < n → ∀ k ∈ F.kids i, i < k ∧ k < n
  one : ∀ p q k, p < n → q < n → k ∈ F.kids p → k ∈ F.kids q → p = q
  nd : ∀ i, i < n → (F.kids i).Nodup
  zip : ZipAt F none op st
  opn : ∀ o ∈ op, o < n
  ne : op ≠ []
section
variable {F : Frs} {n : Nat} {op : List Nat} {st : List (List RT)}
theorem PzF.wf (h : PzF F n op st) : Wf F n rkN := ⟨fun i hi k hk => by obtain ⟨h1, h2⟩ := h.kid i hi k hk; have := h.big; exact ⟨h2, by unfold rkN; omega⟩⟩
theorem rkN_le (i : Nat) : rkN i ≤ 2000 := Nat.sub_le _ _
theorem ZipAt.len {F : Frs} : ∀ {nx : Option Nat} {op : List Nat} {st : List (List RT)}, ZipAt F nx op st → op.length = st.length
  | _, [], [], _ => rfl
  | _, _ :: os, _ :: st, h => by rw [List.length_cons, List.length_cons, h.2.2.len]
  | _, [], _ :: _, h => h.elim
  | _, _ :: _, [], h => h.elim
/-- What the new forest is: node n is the last child of o. -/
def addF (F : Frs) (n o : Nat) (nm : ByteArray) : Frs := ⟨upd F.nm n nm, upd F.old n 0, upd (upd F.kids n []) o (F.kids o ++ [n])⟩
theorem addF_kids_o {F : Frs} {n o : Nat} {nm : ByteArray} : (addF F n o nm).kids o = F.kids o ++ [n] := upd_same _ _ _
theorem addF_kids_n {F : Frs} {n o : Nat} {nm : ByteArray} (h : o < n) : (addF F n o nm).kids n = [] := by
  show upd _ o _ n = []
  rw [upd_ne _ _ (by omega), upd_same]
theorem addF_kids {F : Frs} {n o : Nat} {nm : ByteArray} {z : Nat} (h : z ≠ o) (h2 : z ≠ n) : (addF F n o nm).kids z = F.kids z := by
  show upd _ o _ z = _
  rw [upd_ne _ _ h, upd_ne _ _ h2]
theorem addF_nm {F : Frs} {n o : Nat} {nm : ByteArray} {z : Nat} (h2 : z ≠ n) : (addF F n o nm).nm z = F.nm z := upd_ne _ _ h2
theorem addF_fwd {F : Frs} {n o : Nat} {nm : ByteArray} (hk : ∀ i, i < n → ∀ k ∈ F.kids i, i < k ∧ k < n) (ho : o < n) {i k : Nat} (hi : i < n + 1) (hm : k ∈ (addF F n o nm).kids i) : (i < n ∧ k ∈ F.kids i) ∨ (i = o ∧ k = n) := by
  by_cases e : i = o
  · subst e
    rw [addF_kids_o] at hm
    rcases List.mem_append.1 hm with h1 | h1
    · exact .inl ⟨ho, h1⟩
    · exact .inr ⟨rfl, by simpa using h1⟩
  · by_cases e2 : i = n
    · subst e2; rw [addF_kids_n ho] at hm; cases hm
    · rw [addF_kids e e2] at hm; exact .inl ⟨by omega, hm⟩
theorem addF_wf (h : PzF F n op st) {o : Nat} (ho : o < n) (nm : ByteArray) (hb : n < 2000) : Wf (addF F n o nm) (n + 1) rkN := ⟨fun i hi k hm => by
  unfold rkN
  rcases addF_fwd h.kid ho hi hm with ⟨h1, h2⟩ | ⟨h1, h2⟩
  · have := h.kid i h1 k h2; omega
  · omega⟩
/-- Closed parts stay. -/
theorem addF_part (h : PzF F n op st) {o : Nat} (ho : o < n) (nm : ByteArray) (hb : n < 2000) {c : Nat} (hc : c < n) (hs : subF F rkN c o = false) : toRF (addF F n o nm) rkN c = toRF F rkN c :=
  toRF_local h.wf (addF_wf h ho nm hb) _ c (Nat.le_refl _) hc (by omega) fun z hz => by
    have hzn := subF_lt h.wf hc (Nat.le_refl _) hz
    have hne : z ≠ o := fun e => by rw [e, hs] at hz; cases hz
    exact ⟨addF_kids hne (by omega), addF_nm (by omega)⟩
theorem addF_zip (h : PzF F n op st) {o : Nat} (ho : o < n) (nm : ByteArray) (hb : n < 2000) : ∀ {y : Nat} {os : List Nat} {zs : List (List RT)}, (∀ p ∈ os, p < n) → y < n → subF F rkN y o = true → ZipAt F (some y) os zs → ZipAt (addF F n o nm) (some y) os zs
  | _, [], [], _, _, _, _ => trivial
  | y, p :: os, Z :: zs, hp, hy, hs, hz => by
    obtain ⟨h1, ⟨ks, h2, h3⟩, h4⟩ := hz
    have hpn := hp p (by simp)
    have hyk : y ∈ F.kids p := by rw [h2]; simp
    have hpy := (h.kid p hpn y hyk).1
    have hso := subF_kid h.wf hpn hyk hs
    have hne : p ≠ o := fun e => by
      subst e
      have := subD_rank h.wf hy hs
      have hb2 := h.big
      unfold rkN at this
      omega
    refine ⟨by rw [addF_nm (by omega)]; exact h1, ⟨ks, by rw [addF_kids hne (by omega)]; exact h2, ?_⟩, addF_zip h ho nm hb (fun q hq => hp q (by simp [hq])) hpn hso h4⟩
    rw [← h3]
    refine List.map_congr_left fun c hc => ?_
    have hck : c ∈ F.kids p := by rw [h2]; simp [hc]
    have hcn := (h.kid p hpn c hck).2
    refine addF_part h ho nm hb hcn ?_
    cases hsc : subF F rkN c o with
    | false => rfl
    | true =>
      exfalso
      have e := one_kids h.wf h.one h.nd (fun i _ => rkN_le i) hpn hck hyk hsc hs
      subst e
      have hnd := h.nd p hpn
      rw [h2] at hnd
      have := (List.nodup_append.1 hnd).2.2 c hc c (by simp)
      exact this rfl
  | _, [], _ :: _, _, _, _, hz => hz.elim
  | _, _ :: _, [], _, _, _, hz => hz.elim
end
section
variable {F : Frs} {n : Nat} {o : Nat} {os : List Nat} {Z : List RT} {st : List (List RT)}
theorem PzF.on (h : PzF F n (o :: os) st) : o < n := h.opn o (by simp)
theorem PzF.size (h : PzF F n (o :: os) (Z :: st)) : (F.nm o).size = 0 ∧ (F.kids o).map (toRF F rkN) = Z := by
  obtain ⟨h1, ⟨ks, h2, h3⟩, _⟩ := h.zip
  refine ⟨h1, ?_⟩
  rw [h2]; simpa using h3
theorem addF_base (h : PzF F n (o :: os) (Z :: st)) (nm : ByteArray) (hb : n < 2000) :
    (∀ i, i < n + 1 → ∀ k ∈ (addF F n o nm).kids i, i < k ∧ k < n + 1) ∧ (∀ p q k, p < n + 1 → q < n + 1 → k ∈ (addF F n o nm).kids p → k ∈ (addF F n o nm).kids q → p = q) ∧ (∀ i, i < n + 1 → ((addF F n o nm).kids i).Nodup) ∧
    ZipAt (addF F n o nm) (some o) os st ∧ (∀ c ∈ F.kids o, toRF (addF F n o nm) rkN c = toRF F rkN c) ∧ toRF (addF F n o nm) rkN n = .node nm [] := by
  have ho := h.on
  refine ⟨fun i hi k hk => ?_, fun p q k hp hq h1 h2 => ?_, fun i hi => ?_, addF_zip h ho nm hb (fun p hp => h.opn p (by simp [hp])) ho (subF_self h.wf ho) h.zip.2.2, fun c hc => ?_, ?_⟩
  · rcases addF_fwd h.kid ho hi hk with ⟨h1, h2⟩ | ⟨h1, h2⟩
    · have := h.kid i h1 k h2; omega
    · omega
  · rcases addF_fwd h.kid ho hp h1 with ⟨a1, a2⟩ | ⟨a1, a2⟩
    · rcases addF_fwd h.kid ho hq h2 with ⟨b1, b2⟩ | ⟨b1, b2⟩
      · exact h.one p q k a1 b1 a2 b2
      · have := (h.kid p a1 k a2).2; omega
    · rcases addF_fwd h.kid ho hq h2 with ⟨b1, b2⟩ | ⟨b1, b2⟩
      · have := (h.kid q b1 k b2).2; omega
      · omega
  · by_cases e : i = o
    · subst e
      rw [addF_kids_o, List.nodup_append]
      refine ⟨h.nd i ho, by simp, fun a ha b hb e => ?_⟩
      have hb : b = n := by simpa using hb
      have := (h.kid i ho a ha).2; omega
    · by_cases e2 : i = n
      · subst e2; rw [addF_kids_n ho]; exact List.nodup_nil
      · rw [addF_kids e e2]; exact h.nd i (by omega)
  · have hcn := h.kid o ho c hc
    refine addF_part h ho nm hb hcn.2 ?_
    cases hs : subF F rkN c o with
    | false => rfl
    | true =>
      have := subD_rank h.wf hcn.2 hs
      have hb2 := h.big
      unfold rkN at this
      omega
  · rw [toRF_eq (addF_wf h ho nm hb) (Nat.lt_succ_self n), addF_kids_n ho]
    show RT.node (upd F.nm n nm n) [] = _
    rw [upd_same]
/-- A leaf is read. -/
theorem PzF.leaf (h : PzF F n (o :: os) (Z :: st)) (nm : ByteArray) (hb : n < 2000) : PzF (addF F n o nm) (n + 1) (o :: os) ((Z ++ [.node nm []]) :: st) := by
  obtain ⟨a1, a2, a3, a4, a5, a6⟩ := addF_base h nm hb
  have ho := h.on
  refine ⟨by omega, a1, a2, a3, ⟨by rw [addF_nm (by omega)]; exact h.size.1, ⟨_, (List.append_nil _).symm, ?_⟩, a4⟩, fun p hp => by have := h.opn p hp; omega, by simp⟩
  rw [addF_kids_o, List.map_append, List.map_cons, List.map_nil, a6]
  congr 1
  rw [← h.size.2]
  exact List.map_congr_left a5
/-- A node is opened. -/
theorem PzF.open (h : PzF F n (o :: os) (Z :: st)) (hb : n < 2000) : PzF (addF F n o ByteArray.empty) (n + 1) (n :: o :: os) ([] :: Z :: st) := by
  obtain ⟨a1, a2, a3, a4, a5, a6⟩ := addF_base h ByteArray.empty hb
  have ho := h.on
  refine ⟨by omega, a1, a2, a3, ⟨?_, ⟨[], by rw [addF_kids_n ho]; rfl, rfl⟩, by rw [addF_nm (by omega)]; exact h.size.1, ⟨F.kids o, addF_kids_o, ?_⟩, a4⟩, fun p hp => ?_, by simp⟩
  · show (upd F.nm n ByteArray.empty n).size = 0
    rw [upd_same]; rfl
  · rw [← h.size.2]
    exact List.map_congr_left a5
  · rcases List.mem_cons.1 hp with e | e
    · omega
    · have := h.opn p e; omega
/-- All is read. -/
theorem PzF.done {r : RT} {Y : List RT} (h : PzF F n [o] [r :: Y]) : ∃ c ks, F.kids o = c :: ks ∧ c < n ∧ treeF F rkN c = flat r := by
  obtain ⟨_, h2⟩ := h.size
  have ho := h.on
  cases hk : F.kids o with
  | nil => rw [hk] at h2; cases h2
  | cons c ks =>
    rw [hk, List.map_cons] at h2
    injection h2 with h2 h3
    have hcn := (h.kid o ho c (by rw [hk]; simp)).2
    exact ⟨c, ks, rfl, hcn, by rw [treeF_flat2 h.wf hcn (one_nodes h.wf h.one h.nd (fun i _ => rkN_le i) hcn), h2]⟩
theorem PzF.len (h : PzF F n (o :: os) (Z :: st)) : (o :: os).length = st.length + 1 := by rw [h.zip.len]; rfl
end
end Go.Proofs.Ytcaialhoclodjaa
namespace Go.Proofs
open Go.Shelf
end Go.Proofs
namespace Go.Proofs.Ytcaialhoclodjaa
open Go.RowKit Go.Deep
end Go.Proofs.Ytcaialhoclodjaa
namespace Go.Proofs.Ytcaialhoclodjaa
open Go.RowKit Go.Deep
mutual
def txR : RT → List UInt8
  | .node nm [] => nm.data.toList
  | .node _ (k :: ks) => 40 :: (txR k ++ txRs ks ++ [41])
def txRs : List RT → List UInt8
  | [] => []
  | r :: rs => 44 :: (txR r ++ txRs rs)
end
/-- The text of the first children. -/
def txK : List RT → List UInt8
  | [] => []
  | k :: ks => 40 :: (txR k ++ txRs ks)
/-- The builder holds these bytes; nothing else has changed. -/
structure BldAt (B b : Nat) (pre : List UInt8) (w wr : World) : Prop where
  bl : Lib.IsBuilderF 80 5 B b (Lib.byteCells pre) wr
  up : Below B w wr
  ot : Lib.OthersKept 5 (some b) w wr
theorem BldAt.size {B b : Nat} {pre : List UInt8} {w wr : World} (h : BldAt B b pre w wr) (hB : B ≤ w.heap.size) : B ≤ wr.heap.size := Nat.le_trans hB h.up.size
theorem BldAt.next {B b : Nat} {pre pre2 : List UInt8} {w wr w2 : World} (h : BldAt B b pre w wr) (k : BldAt B b pre2 wr w2) : BldAt B b pre2 w w2 := ⟨k.bl, h.up.trans k.up, h.ot.trans k.ot⟩
theorem FAt.others {base n b : Nat} {A : Nat → Nat} {kv : Nat → Value} {F : Frs} {w w' : World} (h : FAt base n A kv F w) (hb : b < base) (k : Lib.OthersKept 5 (some b) w w') : FAt base n A kv F w' := by
  refine h.same (fun i hi => ?_) fun i g hi hg => ?_
  · have h1 := h.node i hi
    rw [h1]
    refine k _ _ h1 (fun e => by have := h.lo i hi; cases e; omega) (fun c fz e => ?_)
    injection e with _ e2 _
    exact absurd e2 (by decide)
  · have hlo := (h.ownlt hi hg).1
    obtain ⟨_, h1 | ⟨g2, cap, cur, h1, _, hc, _⟩⟩ := h.own i hi
    · rw [h1.1] at hg; cases hg
    · rw [h1] at hg
      have hg : some g2 = some g := hg
      injection hg with hg; subst hg
      rw [hc]
      refine k _ _ hc (fun e => by cases e; omega) (fun c fz e => ?_)
      injection e with _ e2 _
      exact absurd e2 (by decide)
/-- The box of the function that calls itself. -/
def PrBox (b fb : Nat) (w : World) : Prop := w.heap[fb]? = some (Obj.cells #[.func (.func 51) #[] #[.pointer (some ⟨b, 0, none⟩), .pointer (some ⟨fb, 0, none⟩)]] 81 (0, 0))
theorem PrBox.cell {b fb : Nat} {w : World} (h : PrBox b fb w) : w.cell? ⟨fb, 0, none⟩ = some (.func (.func 51) #[] #[.pointer (some ⟨b, 0, none⟩), .pointer (some ⟨fb, 0, none⟩)]) := by
  have h : w.heap[fb]? = _ := h
  simp [World.cell?, h]
theorem PrBox.others {b fb : Nat} {w w' : World} (h : PrBox b fb w) (hne : fb ≠ b) (k : Lib.OthersKept 5 (some b) w w') : PrBox b fb w' := by
  have h : w.heap[fb]? = _ := h
  refine k _ _ h (fun e => by cases e; exact hne rfl) (fun c fz e => ?_)
  injection e with _ e2 _
  exact absurd e2 (by decide)
end Go.Proofs.Ytcaialhoclodjaa
namespace Go.Proofs.Ytcaialhoclodjaa
/-- Names that a text can have: leaves have one, without signs; the others have none. -/
def OkP (r : RT) : Prop := ∀ s ∈ subR r, (s.kids ≠ [] → s.nm.size = 0) ∧ (s.kids = [] → s.nm.data.toList ≠ [] ∧ ∀ c ∈ s.nm.data.toList, c ∉ sp4)
/-- What has been read. -/
def pT : List (List RT) → Bool → List UInt8
  | [], _ => []
  | [Z], _ => match Z with
    | [] => []
    | r :: _ => txR r
  | Z :: Y :: st, b => pT (Y :: st) false ++ (if Z = [] then [40] else txK Z ++ (if b then [] else [44]))
end Go.Proofs.Ytcaialhoclodjaa
namespace Go.Proofs.Ytcaialhoclodjaa
open Go.RowKit Go.Deep
def NodesPost2 (w : World) (t : Tre) (e : Ending) (w' : World) : Prop :=
  Up w w' ∧ ∃ g A kv, w.heap.size ≤ g ∧ e = .returned (.slice (some ⟨g, 0, none⟩) t.ps.length t.ps.length) ∧ FAt (g + 1) t.ps.length A kv (frT t) w' ∧ w'.rowIs g 66 t.ps.length (nptr A)
set_option maxRecDepth 100000 in
set_option maxHeartbeats 2000000 in
theorem nodes2_t (S : Nat → Prop) (w : World) (v : Value) (t : Tre) (hT : TreeAt S w v t) (hp : t.ps.length ≤ 1000) (hn : t.ns.length = t.ps.length) (hok : pOkB t.ps = true) (hz : ∀ k, (gs t.ns k).size ≤ 70000) :
    Calls Try.prog 39 #[v] w (NodesPost2 w t) := by
  obtain ⟨P, N, rfl, hP, hN⟩ := hT
  obtain ⟨pP, capP, rfl, hcapP, _⟩ := SlAt.open hP
  have hP : IntsAt S w (.slice pP t.ps.length capP) t.ps := hP
  obtain ⟨pN, capN, rfl, hcapN, _⟩ := SlAt.open hN
  have hN : StrsAt S w (.slice pN t.ns.length capN) t.ns := hN
  have hmk := fun W => run_make_row' (P := Try.prog) 64 66 (.pointer none) 8 Try.underlying64 Try.infoNP rfl .i64 .i64 t.ps.length (by omega) (by omega) W
  have hu := Up.alloc w (.cells #[.slice pP t.ps.length capP, .slice pN t.ns.length capN] 25)
  have hb0 := box2_0 w (.slice pP t.ps.length capP) (.slice pN t.ns.length capN) 25
  have hb1 := box2_1 w (.slice pP t.ps.length capP) (.slice pN t.ns.length capN) 25
  have hu2 := Up.alloc (w.alloc (.cells #[.slice pP t.ps.length capP, .slice pN t.ns.length capN] 25)) (.cells (madeCells #[.pointer none] t.ps.length) 66)
  have HW : Hid (NdW ((w.alloc (.cells #[.slice pP t.ps.length capP, .slice pN t.ns.length capN] 25)).alloc (.cells (madeCells #[.pointer none] t.ps.length) 66)) ((w.alloc (.cells #[.slice pP t.ps.length capP, .slice pN t.ns.length capN] 25)).alloc (.cells (madeCells #[.pointer none] t.ps.length) 66)) (w.heap.size + 1) t.ps.length 0 t) := by
    refine ⟨Below.refl _ _, fun _ => 0, fun _ => .slice none 0 0, FAt.empty _ _ _ _ _, ?_⟩
    have h := World.rowIs_made (w.alloc (.cells #[.slice pP t.ps.length capP, .slice pN t.ns.length capN] 25)) (.pointer none) t.ps.length 66
    simp only [World.size_alloc] at h
    exact h
  have HUW := Lib.hid (hu.trans hu2)
  have hsz : w.heap.size + 1 + 1 = ((w.alloc (.cells #[.slice pP t.ps.length capP, .slice pN t.ns.length capN] 25)).alloc (.cells (madeCells #[.pointer none] t.ps.length) 66)).heap.size := by simp
  have HSZ := Lib.hid hsz
  have HB0 := Lib.hid (hu2.cell hb0)
  have HB1 := Lib.hid (hu2.cell hb1)
  have HP := Lib.hid hP
  have HN := Lib.hid hN
  have HNS := Lib.hid hz
  have HOK := Lib.hid hok
  have HLN := Lib.hid hn
  have hnl : (t.ps.length : Int) ≤ (t.ns.length : Int) := by omega
  clear hsz hu hb0 hb1 hu2 hP hN hz hok hn
  go_enter Try.func39, Try.ntmps39
  go_wp2_with fail
  generalize (w.alloc (.cells #[.slice pP t.ps.length capP, .slice pN t.ns.length capN] 25)).alloc (.cells (madeCells #[.pointer none] t.ps.length) 66) = w1 at *
  go_loopw [13] (fun i wr => ∃ k : Nat, k ≤ t.ps.length ∧ i = .int .i64 k ∧ Hid (NdW w1 wr (w.heap.size + 1) t.ps.length k t)) (fun i _ => t.ps.length - (intOf i).toNat)
  case atStart => exact ⟨0, Nat.zero_le _, rfl, HW⟩
  case round =>
    obtain ⟨k, hk, rfl, hO⟩ := hrel
    obtain ⟨wo, rfl⟩ : ∃ wo : World, wo = wr := ⟨_, rfl⟩
    by_cases hlt : k < t.ps.length
    · obtain ⟨hup, A, kv, hF, hrow⟩ := hO.out
      have hc0 : wo.cell? ⟨w.heap.size, 0, none⟩ = some (.slice pP t.ps.length capP) := by rw [hup.cell (p := ⟨w.heap.size, 0, none⟩) (Nat.lt_succ_self _)]; exact HB0.out
      have hc1 : wo.cell? ⟨w.heap.size, 1, none⟩ = some (.slice pN t.ns.length capN) := by rw [hup.cell (p := ⟨w.heap.size, 1, none⟩) (Nat.lt_succ_self _)]; exact HB1.out
      have hUp : Up w wo := Below.trans HUW.out (hup.mono (Nat.le_succ _))
      obtain ⟨bP, oP, rfl, hcP⟩ := ints_get (IntsAt.keep HP.out (hUp.kept S)) hlt
      obtain ⟨bN, oN, rfl, hcN⟩ := strs_get (StrsAt.keep HN.out (hUp.kept S)) (k := k) (by rw [HLN.out]; exact hlt)
      have HX := Lib.hid hO.out.new
      have hco : (wo.alloc (.cells #[.string (gs t.ns k), .slice none 0 0, .int .i64 k] 68)).cell? ⟨w.heap.size + 1, k, none⟩ = some (.pointer none) := by
        have h := (hrow.alloc (.cells #[.string (gs t.ns k), .slice none 0 0, .int .i64 k] 68)).cell hlt
        rw [h, if_neg (Nat.lt_irrefl k)]
      have hfo : (wo.alloc (.cells #[.string (gs t.ns k), .slice none 0 0, .int .i64 k] 68)).frozen? ⟨w.heap.size + 1, k, none⟩ = false := (hrow.alloc _).frozen k
      clear hF hrow hup hUp hO
      have h0 : gi t.ps k < k ∧ (0 < k → 0 ≤ gi t.ps k) ∧ (k = 0 → gi t.ps k = -1) := par_ok HOK.out hlt
      by_cases hp0 : 0 ≤ gi t.ps k
      · obtain ⟨p, hpp⟩ := Int.eq_ofNat_of_zero_le hp0
        have hpk : p < k := by omega
        rw [hpp] at hcP
        have d1 : decide ((0 : Int) ≤ (p : Int)) = true := by simp
        have HPP := Lib.hid hpp
        clear h0 hp0 hpp
        go_wp2_with fail
        generalize (wo.alloc (.cells #[.string (gs t.ns k), .slice none 0 0, .int .i64 k] 68)).setCell ⟨w.heap.size + 1, k, none⟩ (.pointer (some ⟨wo.heap.size, 0, none⟩)) = w2 at *
        obtain ⟨A, kv, hAk, hX⟩ := HX.out
        have hr1 : w2.cell? ⟨w.heap.size + 1, p, none⟩ = some (.pointer (some ⟨A p, 0, none⟩)) := by
          have h := hX.row.cell (i := p) (by omega)
          rw [if_pos (by omega)] at h; exact h
        have hr2 : w2.cell? ⟨w.heap.size + 1, k, none⟩ = some (.pointer (some ⟨A k, 0, none⟩)) := by
          have h := hX.row.cell (i := k) hlt
          rw [if_pos (by omega)] at h; exact h
        have HNK : Hid (nptr A k = .pointer (some ⟨wo.heap.size, 0, none⟩)) := by unfold Hid nptr; rw [hAk]
        rw [hAk] at hr2
        have hkc := hX.fr.kidv (i := p) (by omega)
        have hfz := hX.fr.thaw (i := p) (by omega) 1
        have HOWN : Hid (Owns (w.heap.size + 1 + 1) 66 w2 (kv p) ((kidsK t.ps p k).map (nptr A))) := by have h := hX.fr.own p (by omega); rw [frX_kids] at h; exact h
        have HXX := Lib.hid hX
        have HAP : Hid (A p ≠ w.heap.size + 1 ∧ (kv p).ownBlock ≠ some (w.heap.size + 1) ∧ (kv p).ownBlock ≠ some (A p) ∧ w.heap.size + 1 < w2.heap.size ∧ A p < w2.heap.size) := ⟨(hX.fr.far (by omega)).1, (hX.fr.far (by omega)).2, hX.fr.apart p p (by omega) (by omega), hX.row.lt, hX.fr.lt (by omega)⟩
        have i0 : (0 : Int) ≤ (p : Int) := by omega
        have i1 : (p : Int) < (t.ps.length : Int) := by omega
        have i2 : (0 : Int) ≤ (k : Int) := by omega
        have i3 : (k : Int) < (t.ps.length : Int) := by omega
        have HKL : Hid (((kidsK t.ps p k).map (nptr A)).length ≤ 1000000) := by unfold Hid; rw [List.length_map]; have := kidsK_len t.ps p k; omega
        have HPUSH : Hid (∀ g cap w', Owns (w.heap.size + 1 + 1) 66 w' (.slice (some ⟨g, 0, none⟩) (((kidsK t.ps p k).map (nptr A)).length + 1) cap) ((kidsK t.ps p k).map (nptr A) ++ [.pointer (some ⟨wo.heap.size, 0, none⟩)]) → w2.grownBy w' (kv p).ownBlock → ((kv p).ownBlock = some g ∨ w2.heap.size ≤ g) → NdW w1 (w'.setCell ⟨A p, 1, none⟩ (.slice (some ⟨g, 0, none⟩) (((kidsK t.ps p k).map (nptr A)).length + 1) cap)) (w.heap.size + 1) t.ps.length (k + 1) t) := fun g cap w' h1 h2 h3 => hX.push hpk HPP.out (by rw [HNK.out]; exact h1) h2 (fun b hb => by cases hb; exact h3)
        clear hAk hX HX hco hfo hcP hcN hc0 hc1
        generalize nptr A = na at *
        generalize hap : A p = ap at *
        generalize wo.heap.size = ak at *
        generalize kv p = ov at *
        generalize List.map na (kidsK t.ps p k) = vs at *
        have HOW2 : Hid (Owns (w.heap.size + 1 + 1) 66 (w2.alloc (.cells #[.pointer (some ⟨ak, 0, none⟩)] 66)).drew ov vs) := HOWN.out.alloc _
        have HCN : Hid ((w2.alloc (.cells #[.pointer (some ⟨ak, 0, none⟩)] 66)).drew.cell? ⟨w2.heap.size, 0, none⟩ = some (.pointer (some ⟨ak, 0, none⟩))) := cell_at_new _ _ _ 0
        have HBS : Hid (w.heap.size + 1 + 1 ≤ (w2.alloc (.cells #[.pointer (some ⟨ak, 0, none⟩)] 66)).drew.heap.size) := by
          have := HAP.out.2.2.2.1
          show _ ≤ (w2.alloc _).heap.size
          rw [World.size_alloc]; omega
        have HFAR : Hid (∀ (w' : World), (w2.alloc (.cells #[.pointer (some ⟨ak, 0, none⟩)] 66)).drew.grownBy w' ov.ownBlock → w'.cell? ⟨w.heap.size + 1, p, none⟩ = some (.pointer (some ⟨ap, 0, none⟩)) ∧ w'.cell? ⟨w.heap.size + 1, k, none⟩ = some (.pointer (some ⟨ak, 0, none⟩)) ∧ w'.cell? ⟨ap, 1, none⟩ = some ov ∧ w'.frozen? ⟨ap, 1, none⟩ = false) := fun w' hg => by
          obtain ⟨q1, q2, q3, q4, q5⟩ := HAP.out
          have hl : ∀ b, b < w2.heap.size → b < (w2.alloc (.cells #[.pointer (some ⟨ak, 0, none⟩)] 66)).drew.heap.size := fun b hb => by show b < (w2.alloc _).heap.size; rw [World.size_alloc]; omega
          have hu := Up.alloc w2 (.cells #[.pointer (some ⟨ak, 0, none⟩)] 66)
          refine ⟨?_, ?_, ?_, ?_⟩
          · rw [hg.cell_far _ (hl _ q4) (Ne.symm q2)]; exact hu.cell hr1
          · rw [hg.cell_far _ (hl _ q4) (Ne.symm q2)]; exact hu.cell hr2
          · rw [hg.cell_far _ (hl _ q5) (Ne.symm q3)]; exact hu.cell hkc
          · rw [hg.frozen_far _ (hl _ q5) (Ne.symm q3)]; exact (Below.frozen hu (p := ⟨ap, 1, none⟩) q5).trans hfz
        have hr1a := (Up.alloc w2 (.cells #[.pointer (some ⟨ak, 0, none⟩)] 66)).cell hr1
        have hr2a := (Up.alloc w2 (.cells #[.pointer (some ⟨ak, 0, none⟩)] 66)).cell hr2
        have hkca := (Up.alloc w2 (.cells #[.pointer (some ⟨ak, 0, none⟩)] 66)).cell hkc
        clear HXX
        refine region_T (by kernel_rfl) 20 (fun w' => w'.cell? ⟨w.heap.size + 1, p, none⟩ = some (.pointer (some ⟨ap, 0, none⟩)) ∧ w'.cell? ⟨w.heap.size + 1, k, none⟩ = some (.pointer (some ⟨ak, 0, none⟩)) ∧ w'.cell? ⟨ap, 1, none⟩ = some ov) ⟨hr1, hr2, hkc⟩ (fun hS => ?_)
        simp only [List.size_toArray, List.length_cons, List.length_nil, Nat.reduceAdd, Array.replicate_succ, Array.replicate_zero, List.push_toArray, List.nil_append, List.cons_append]
        refine anyT.take (i := 0) (v := ?gv0) rfl (by kernel_rfl) (fun _ _ _ h => h) (by rfl) (fun w hSw => ?gy0) hS ?gr0
        case gy0 =>
          (try dsimp only at hSw)
          go_simp
          try with_reducible rfl
        try simp only [Act.put, List.setIfInBounds_toArray, List.set_cons_zero, List.set_cons_succ]
        refine anyT.take (i := 1) (v := ?gv1) rfl (by kernel_rfl) (fun _ _ _ h => h) (by rfl) (fun w hSw => ?gy1) hS ?gr1
        case gy1 =>
          (try dsimp only at hSw)
          go_simp
          try with_reducible rfl
        try simp only [Act.put, List.setIfInBounds_toArray, List.set_cons_zero, List.set_cons_succ]
        refine anyT.take (i := 2) (v := ?gv2) rfl (by kernel_rfl) (fun _ _ _ h => h) (by rfl) (fun w hSw => ?gy2) hS ?gr2
        case gy2 =>
          (try dsimp only at hSw)
          go_simp
          try with_reducible rfl
        try simp only [Act.put, List.setIfInBounds_toArray, List.set_cons_zero, List.set_cons_succ]
        refine anyT.take (i := 3) (v := ?gv3) rfl (by kernel_rfl) (fun _ _ _ h => h) (by rfl) (fun w hSw => ?gy3) hS ?gr3
        case gy3 =>
          (try dsimp only at hSw)
          go_simp
          try with_reducible rfl
        try simp only [Act.put, List.setIfInBounds_toArray, List.set_cons_zero, List.set_cons_succ]
        refine anyT.take (i := 4) (v := ?gv4) rfl (by kernel_rfl) (fun _ _ _ h => h) (by rfl) (fun w hSw => ?gy4) hS ?gr4
        case gy4 =>
          (try dsimp only at hSw)
          go_simp
          try with_reducible rfl
        try simp only [Act.put, List.setIfInBounds_toArray, List.set_cons_zero, List.set_cons_succ]
        refine anyT.take (i := 5) (v := ?gv5) rfl (by kernel_rfl) (fun _ _ _ h => h) (by rfl) (fun w hSw => ?gy5) hS ?gr5
        case gy5 =>
          (try dsimp only at hSw)
          go_simp
          try with_reducible rfl
        try simp only [Act.put, List.setIfInBounds_toArray, List.set_cons_zero, List.set_cons_succ]
        refine anyT.take (i := 6) (v := ?gv6) rfl (by kernel_rfl) (fun _ _ _ h => h) (by rfl) (fun w hSw => ?gy6) hS ?gr6
        case gy6 =>
          (try dsimp only at hSw)
          go_simp
          try with_reducible rfl
        try simp only [Act.put, List.setIfInBounds_toArray, List.set_cons_zero, List.set_cons_succ]
        refine anyT.take (i := 7) (v := ?gv7) rfl (by kernel_rfl) (fun _ _ _ h => h) (by rfl) (fun w hSw => ?gy7) hS ?gr7
        case gy7 =>
          (try dsimp only at hSw)
          go_simp
          try with_reducible rfl
        try simp only [Act.put, List.setIfInBounds_toArray, List.set_cons_zero, List.set_cons_succ]
        refine anyT.take (i := 8) (v := ?gv8) rfl (by kernel_rfl) (fun _ _ _ h => h) (by rfl) (fun w hSw => ?gy8) hS ?gr8
        case gy8 =>
          (try dsimp only at hSw)
          go_simp
          try with_reducible rfl
        try simp only [Act.put, List.setIfInBounds_toArray, List.set_cons_zero, List.set_cons_succ]
        refine anyT.take (i := 9) (v := ?gv9) rfl (by kernel_rfl) (fun _ _ _ h => h) (by rfl) (fun w hSw => ?gy9) hS ?gr9
        case gy9 =>
          (try dsimp only at hSw)
          go_simp
          try with_reducible rfl
        try simp only [Act.put, List.setIfInBounds_toArray, List.set_cons_zero, List.set_cons_succ]
        refine anyT.take (i := 10) (v := ?gv10) rfl (by kernel_rfl) (fun _ _ _ h => h) (by rfl) (fun w hSw => ?gy10) hS ?gr10
        case gy10 =>
          (try dsimp only at hSw)
          go_simp
          try with_reducible rfl
        try simp only [Act.put, List.setIfInBounds_toArray, List.set_cons_zero, List.set_cons_succ]
        refine anyT.take (i := 11) (v := ?gv11) rfl (by kernel_rfl) (fun _ _ _ h => h) (by rfl) (fun w hSw => ?gy11) hS ?gr11
        case gy11 =>
          (try dsimp only at hSw)
          go_simp
          try with_reducible rfl
        try simp only [Act.put, List.setIfInBounds_toArray, List.set_cons_zero, List.set_cons_succ]
        refine anyT.take (i := 12) (v := ?gv12) rfl (by kernel_rfl) (fun _ _ _ h => h) (by rfl) (fun w hSw => ?gy12) hS ?gr12
        case gy12 =>
          (try dsimp only at hSw)
          go_simp
          try with_reducible rfl
        try simp only [Act.put, List.setIfInBounds_toArray, List.set_cons_zero, List.set_cons_succ]
        refine anyT.take (i := 13) (v := ?gv13) rfl (by kernel_rfl) (fun _ _ _ h => h) (by rfl) (fun w hSw => ?gy13) hS ?gr13
        case gy13 =>
          (try dsimp only at hSw)
          go_simp
          try with_reducible rfl
        try simp only [Act.put, List.setIfInBounds_toArray, List.set_cons_zero, List.set_cons_succ]
        refine anyT.take (i := 14) (v := ?gv14) rfl (by kernel_rfl) (fun _ _ _ h => h) (by rfl) (fun w hSw => ?gy14) hS ?gr14
        case gy14 =>
          (try dsimp only at hSw)
          go_simp
          try with_reducible rfl
        try simp only [Act.put, List.setIfInBounds_toArray, List.set_cons_zero, List.set_cons_succ]
        refine anyT.step (i := 15) rfl (by kernel_rfl) (fun K' hK => ?_)
        go_simp
        refine hK.out _ _ (fun _ => ⟨(Up.alloc _ _).cell hr1, (Up.alloc _ _).cell hr2, (Up.alloc _ _).cell hkc⟩) (fun hS => ?_)
        try simp only [List.setIfInBounds_toArray, List.set_cons_zero, List.set_cons_succ]
        refine anyT.step (i := 16) rfl (by kernel_rfl) (fun K' hK => ?_)
        refine step_app1 (by rfl) _ _ _ (by rfl) (w.heap.size + 1 + 1) 66 _ 8 Try.underlying64 Try.infoNP (by rfl) (by decide) (by rfl) HOW2.out (.pointer (some ⟨ak, 0, none⟩)) w2.heap.size (by rfl) HCN.out (by rfl) HKL.out HBS.out ?_
        intro g cap w4 hown4 hg4 hor4 hbe4
        obtain ⟨hr1b, hr2b, hkcb, hfz4⟩ := HFAR.out w4 hg4
        have HOWN4 := Lib.hid hown4
        have HG4 := Lib.hid (grown_alloc_drew hg4)
        have HOR4 := Lib.hid hor4
        clear hown4 hg4 hor4 hbe4
        refine hK.out _ _ (fun _ => ⟨hr1b, hr2b, hkcb⟩) (fun hS => ?_)
        replace hS := hS ⟨19, by decide, rfl⟩
        try simp only [Act.put, List.setIfInBounds_toArray, List.set_cons_zero, List.set_cons_succ]
        refine anyT.take (i := 17) (v := ?gv17) rfl (by kernel_rfl) (fun _ _ _ h => h) (by rfl) (fun w hSw => ?gy17) hS ?gr17
        case gy17 =>
          (try dsimp only at hSw)
          go_simp
          try with_reducible rfl
        try simp only [Act.put, List.setIfInBounds_toArray, List.set_cons_zero, List.set_cons_succ]
        refine anyT.take (i := 18) (v := ?gv18) rfl (by kernel_rfl) (fun _ _ _ h => h) (by rfl) (fun w hSw => ?gy18) hS ?gr18
        case gy18 =>
          (try dsimp only at hSw)
          go_simp
          try with_reducible rfl
        try simp only [Act.put, List.setIfInBounds_toArray, List.set_cons_zero, List.set_cons_succ]
        refine anyT.step (i := 19) rfl (by kernel_rfl) (fun K' hK => ?_)
        go_simp
        refine hK.out _ _ (not_more (by kernel_rfl)) (fun hS => ?_)
        refine anyT.done (by kernel_rfl) ?_
        go_wp2_with fail
        go_roundw
        case rel =>
          refine ⟨k + 1, by omega, by go_num, HPUSH.out g cap w4 HOWN4.out HG4.out ?_⟩
          rcases HOR4.out with h | h
          · exact .inl h
          · refine .inr ?_
            rw [h]; exact Nat.le_trans (Nat.le_succ _) (Nat.le_of_eq (World.size_alloc _ _).symm)
        case measure => simp [intOf]; omega
      · have HPP : Hid (gi t.ps k < 0) := by unfold Hid; omega
        have d1 : decide ((0 : Int) ≤ gi t.ps k) = false := by simpa using hp0
        clear h0 hp0
        go_wp2_with fail
        go_roundw
        case rel =>
          obtain ⟨A', kv', _, hX⟩ := HX.out
          exact ⟨k + 1, by omega, by go_num, hX.root HPP.out⟩
        case measure => simp [intOf]; omega
    · obtain rfl : k = t.ps.length := by omega
      go_wp2_with fail
      go_ret
      obtain ⟨hup, A, kv, hF, hrow⟩ := hO.out
      exact ⟨Below.trans HUW.out (hup.mono (Nat.le_succ _)), _, A, kv, Nat.le_succ _, rfl, hF, hrow.congr fun i hi => by rw [if_pos hi]⟩
end Go.Proofs.Ytcaialhoclodjaa
namespace Go.Proofs.Ytcaialhoclodjaa
open Go.RowKit Go.Deep
theorem nsR_toRF {F : Frs} {n : Nat} {rk : Nat → Nat} (h : Wf F n rk) {i : Nat} (hi : i < n) : nsR (toRF F rk i) = (nodesF F rk i).map F.nm := by
  rw [nsR_sub, subR_toRF h hi (Nat.le_refl _), List.map_map]
  refine List.map_congr_left fun z hz => ?_
  exact toRF_nm h (subF_lt h hi (Nat.le_refl _) ((mem_nodesF h hi (Nat.le_refl _)).1 hz))
end Go.Proofs.Ytcaialhoclodjaa
