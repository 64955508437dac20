/- What sharederror.Tree computes, plain; slices.Clone of strings. -/
import Derived.Test.YtgjcfkadioblfaaGreatQ21
import Derived.Test.YtgjcfkadioblfaaGreatQ12
namespace Go.Proofs.YtgjcfkadioblfaaGreat
open Go.RowKit Go.Deep
theorem strs_get' {S : Nat → Prop} {w : World} {b off : Nat} {n cap : Nat} {xs : List ByteArray} (h : StrsAt S w (.slice (some ⟨b, off, none⟩) n cap) xs) {k : Nat} (hk : k < xs.length) : w.cell? ⟨b, off + k, none⟩ = some (.string (gs xs k)) := by
  obtain ⟨b', o', e, hc⟩ := strs_get h hk
  injection e with e
  injection e with e1 e2
  subst e1; subst e2; exact hc
theorem news_strs {S : Nat → Prop} {w : World} {b off n cap : Nat} {xs : List ByteArray} (h : StrsAt S w (.slice (some ⟨b, off, none⟩) n cap) xs) : ∀ j u, (xs.map Value.string)[j]? = some u → w.cell? ((⟨b, off, none⟩ : Addr).add j) = some u := by
  intro j u hj
  have hadd : (⟨b, off, none⟩ : Addr).add j = ⟨b, off + j, none⟩ := by unfold Addr.add; split <;> simp_all
  rw [List.getElem?_map] at hj
  obtain ⟨x, hx, rfl⟩ := Option.map_eq_some_iff.1 hj
  have hk : j < xs.length := (List.getElem?_eq_some_iff.1 hx).1
  rw [hadd, strs_get' h hk]
  simp [gs, hx]
theorem nil_strs {S : Nat → Prop} {w : World} {n cap : Nat} {xs : List ByteArray} (h : StrsAt S w (.slice none n cap) xs) : xs = [] ∧ n = 0 := by
  obtain ⟨q, c, e, _, h⟩ := h
  injection e with e1 e2 e3
  rcases h with h | ⟨b, off, h, _⟩
  · exact ⟨List.eq_nil_of_length_eq_zero h, by omega⟩
  · rw [← e1] at h; cases h
set_option maxRecDepth 100000 in
set_option maxHeartbeats 400000 in
theorem clone_str_t (S : Nat → Prop) (w : World) (v : Value) (xs : List ByteArray) (h : StrsAt S w v xs) (hn : xs.length ≤ 1000000) :
    Calls Tryz.prog 64 #[v] w (ClPost w 9 (xs.map Value.string)) := by
  obtain ⟨p, cap, rfl, hcap, _⟩ := SlAt.open h
  have h : StrsAt S w (.slice p xs.length cap) xs := h
  cases p with
  | none =>
    obtain ⟨rfl, _⟩ := nil_strs h
    have heq := fun (w : World) => Lib.run_eql_slice_nil (P := Tryz.prog) w 23 9 none 0 cap 0 0 Tryz.underlying23
    clear h
    go_enter Tryz.func64, Tryz.ntmps64
    go_wp2_with fail
    go_ret
    exact ⟨Up.refl _, _, rfl, Owns.nil _ _ _⟩
  | some p =>
    have heq := fun (w : World) => Lib.run_eql_slice_nil (P := Tryz.prog) w 23 9 (some p) xs.length cap 0 0 Tryz.underlying23
    have hu := Up.alloc w (.cells #[] 9)
    have hnews : ∀ j u, (xs.map Value.string)[j]? = some u → (w.alloc (.cells #[] 9)).cell? (p.add j) = some u := fun j u hj => by
      have hj2 : j < xs.length := by
        have := (List.getElem?_eq_some_iff.1 hj).1
        simpa using this
      obtain ⟨b, off, e, _⟩ := strs_get h hj2
      injection e with e
      subst e
      exact news_strs (StrsAt.keep h (hu.kept S)) j u hj
    have HU := Lib.hid hu
    have HN := Lib.hid hnews
    have HM := Lib.hid (Owns.made w 9)
    clear h hnews hu
    go_enter Tryz.func64, Tryz.ntmps64
    go_wp2_with (at_builtin; refine wpList_appS _ rfl _ _ 23 rfl w.heap.size 9 (.string ⟨#[]⟩) 16 Tryz.underlying23 Tryz.infoStr2 rfl (by decide) HM.out rfl p cap (xs.map Value.string) (by rw [List.length_map]; rfl) HN.out (by simp [Value.oneCell']) (by simp; omega) (by simp) ?_; intro v' w' hown' hgrow hbel)
    go_ret
    exact ⟨Below.trans HU.out hbel, _, rfl, hown'⟩
/-- Why a name is refused. -/
def nmErr (names : List ByteArray) (k : Nat) : Int := if namedB (gs names k).data.toList = false then 14 else if (List.range k).any fun j => decide (gs names k = gs names j) then 7 else 0
def shErr (names : List ByteArray) (l : List Grp) : Int :=
  if names.length = 0 then 5 else if 32 < names.length then 4 else if firstNZ (nmErr names) names.length ≠ 0 then firstNZ (nmErr names) names.length
  else if gcErr l ≠ 0 then gcErr l else if farB l names.length then 2 else if cfL l ≠ [] then 17 else 0
def allN (n : Nat) : Nat := 2 ^ n - 1
/-- The sets of the inner nodes, of the first k groups. -/
def innK (l : List Grp) (all : Nat) : Nat → List Nat
  | 0 => []
  | k + 1 => if 1 < (gg l k).src.length ∧ ofS (gg l k).src ≠ all ∧ ofS (gg l k).src ∉ innK l all k then innK l all k ++ [ofS (gg l k).src] else innK l all k
def innL (l : List Grp) (all : Nat) : List Nat := innK l all l.length
/-- The tree that grow makes. -/
def rawT (names : List ByteArray) (l : List Grp) : Tre := growF names (innL l (allN names.length)) (allN names.length + 1) (allN names.length) (-1) ⟨[], []⟩
def shTree (names : List ByteArray) (l : List Grp) : Tre :=
  if shErr names l ≠ 0 then ⟨[], []⟩ else if names.length = 1 then ⟨[-1], names⟩ else if treeErr (rawT names l) = 0 then canT (rawT names l) else ⟨[], []⟩
/-- The error of Tree. -/
def shRes (names : List ByteArray) (l : List Grp) : Int :=
  if shErr names l ≠ 0 then shErr names l else if names.length = 1 then 0 else if treeErr (rawT names l) = 0 then 0 else 1
theorem innK_len (l : List Grp) (all : Nat) : ∀ k, (innK l all k).length ≤ k
  | 0 => Nat.le_refl _
  | k + 1 => by
    have ih := innK_len l all k
    unfold innK
    split
    · rw [List.length_append]; simp; omega
    · omega
theorem gn_mem {l : List Nat} {k : Nat} (h : k < l.length) : gn l k ∈ l := by simp [gn, h]
theorem innK_mem {l : List Grp} {all x : Nat} : ∀ {k : Nat}, x ∈ innK l all k → ∃ j, j < k ∧ x = ofS (gg l j).src ∧ 1 < (gg l j).src.length ∧ x ≠ all
  | 0, h => by cases h
  | k + 1, h => by
    unfold innK at h
    split at h
    · rename_i hc
      rcases List.mem_append.1 h with h | h
      · obtain ⟨j, h1, h2⟩ := innK_mem h; exact ⟨j, by omega, h2⟩
      · obtain rfl : x = ofS (gg l k).src := by simpa using h
        exact ⟨k, by omega, rfl, hc.1, hc.2.1⟩
    · obtain ⟨j, h1, h2⟩ := innK_mem h; exact ⟨j, by omega, h2⟩
theorem gn_zero {l : List Nat} {k : Nat} (h : l.length ≤ k) : gn l k = 0 := by simp [gn, h]
theorem inn_u64 {l : List Grp} (h : gcErr l = 0) (all : Nat) (k j : Nat) (hk : k ≤ l.length) : U64 (gn (innK l all k) j) := by
  by_cases hj : j < (innK l all k).length
  · obtain ⟨i, h1, h2, _⟩ := innK_mem (gn_mem hj)
    rw [h2]
    exact Nat.lt_trans (ofS_lt (srcOk_small ((gcErr_zero h).2 i (by omega)).2.2.2).1) (by decide)
  · rw [gn_zero (by omega)]; unfold U64; omega
/-- Names of the tree are names of leaves, or empty. -/
def Nmd (Q : ByteArray → Prop) (t : Tre) : Prop := ∀ s ∈ t.ns, Q s
theorem leafK_nmd {Q : ByteArray → Prop} {names : List ByteArray} (hn : ∀ k, Q (gs names k)) {left : Nat} {own : Int} {t : Tre} (h : Nmd Q t) : ∀ s, Nmd Q (leafK names left own s t)
  | 0 => h
  | s + 1 => by
    unfold leafK
    split
    · intro x hx
      rcases List.mem_append.1 hx with hx | hx
      · exact leafK_nmd hn h s x hx
      · obtain rfl : x = gs names s := by simpa using hx
        exact hn s
    · exact leafK_nmd hn h s
theorem kidF_nmd {Q : ByteArray → Prop} {g : Nat → Int → Tre → Tre} (hg : ∀ x p t, Nmd Q t → Nmd Q (g x p t)) (inner : List Nat) (x : Nat) (own : Int) {r : Nat × Tre} (h : Nmd Q r.2) : ∀ k, Nmd Q (kidF g inner x own k r).2
  | 0 => h
  | k + 1 => by
    show Nmd Q (if isKid inner x (gn inner k) then _ else _ : Nat × Tre).2
    split
    · exact hg _ _ _ (kidF_nmd hg inner x own h k)
    · exact kidF_nmd hg inner x own h k
theorem growF_nmd {Q : ByteArray → Prop} {names : List ByteArray} (hn : ∀ k, Q (gs names k)) (h0 : Q ByteArray.empty) (inner : List Nat) : ∀ (d x : Nat) (p : Int) (t : Tre), Nmd Q t → Nmd Q (growF names inner d x p t)
  | 0, _, _, _, h => h
  | d + 1, x, p, t, h => leafK_nmd hn (kidF_nmd (growF_nmd hn h0 inner d) inner x _ (r := (x, t.push p ByteArray.empty)) (fun s hs => by
      rcases List.mem_append.1 hs with hs | hs
      · exact h s hs
      · obtain rfl : s = ByteArray.empty := by simpa using hs
        exact h0) inner.length) names.length
theorem Nmd.gs {Q : ByteArray → Prop} {t : Tre} (h : Nmd Q t) (h0 : Q ByteArray.empty) (k : Nat) : Q (gs t.ns k) := by
  by_cases hk : k < t.ns.length
  · exact h _ (by simp [YtgjcfkadioblfaaGreat.gs, hk])
  · have : YtgjcfkadioblfaaGreat.gs t.ns k = ByteArray.empty := by simp [YtgjcfkadioblfaaGreat.gs, show t.ns.length ≤ k by omega]
    rw [this]; exact h0
end Go.Proofs.YtgjcfkadioblfaaGreat
