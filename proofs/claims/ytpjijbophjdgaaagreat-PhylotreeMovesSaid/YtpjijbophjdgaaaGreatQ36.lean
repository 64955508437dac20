/- The turns of Reroot in memory. Check, for names of any size. The example of chapter 35: awake. The plain law of SharederrorSupport: the supports of the different sets. The walk of SharederrorSupport. The walk of SharederrorLeaves. The walk of SharederrorNested. SharederrorClades, plain: the groups of the nodes have no conflict; their tree is the tree without nodes that have one child. SharederrorClades, plain: Restrict keeps the whole tree, Consistent finds every group. SharederrorClades: what its loops keep in memory. -/
import Derived.Test.YtpjijbophjdgaaaGreatQ32
import Derived.Test.YtpjijbophjdgaaaGreatQ34
import Derived.Test.YtpjijbophjdgaaaGreatQ35
import Derived.Test.YtpjijbophjdgaaaGreatQ2
import Derived.Test.YtpjijbophjdgaaaGreatQ24
import Derived.Test.YtpjijbophjdgaaaGreatQ4
import Derived.Test.YtpjijbophjdgaaaGreatQ14
import Derived.Test.YtpjijbophjdgaaaGreatQ29
import Derived.Test.YtpjijbophjdgaaaGreatQ25
import Derived.Test.YtpjijbophjdgaaaGreatQ26
import Derived.Test.YtpjijbophjdgaaaGreatQ33
namespace Go.Proofs.YtpjijbophjdgaaaGreat
open Go.RowKit Go.Deep
structure TurnAt (g n : Nat) (A : Nat → Nat) (kv : Nat → Value) (F : Frs) (w3 wr : World) (fb : Nat) (f : Int) : Prop where
  fr : FAt (g + 1) n A kv F wr
  box : wr.heap[fb]? = some (.cells #[.int .i64 f] 3 (0, 0))
  lo : g < fb
  farA : ∀ j, j < n → A j ≠ fb
  farK : ∀ j, j < n → (kv j).ownBlock ≠ some fb
  up : Below (g + 1) w3 wr
section
variable {g n fb : Nat} {A : Nat → Nat} {kv : Nat → Value} {F : Frs} {w3 wr w' : World} {f : Int}
theorem TurnAt.fbl (h : TurnAt g n A kv F w3 wr fb f) : fb < wr.heap.size := (Array.getElem?_eq_some_iff.1 h.box).1
theorem TurnAt.cell (h : TurnAt g n A kv F w3 wr fb f) : wr.cell? ⟨fb, 0, none⟩ = some (.int .i64 f) := by simp [World.cell?, h.box]
theorem TurnAt.size (h : TurnAt g n A kv F w3 wr fb f) : g + 1 ≤ wr.heap.size := by have := h.lo; have := h.fbl; omega
theorem TurnAt.grown (h : TurnAt g n A kv F w3 wr fb f) {x : Nat} (hx : x < n) {row : Option Nat} (hr : row = (kv x).ownBlock) (hw : wr.grownBy w' row) :
    w'.heap[fb]? = some (.cells #[.int .i64 f] 3 (0, 0)) ∧ (∀ j, j < n → w'.heap[A j]? = wr.heap[A j]?) ∧ Below (g + 1) w3 w' := by
  subst hr
  exact ⟨by rw [hw.block fb h.fbl fun e => h.farK x hx e.symm]; exact h.box, fun j hj => hw.block _ (h.fr.lt hj) fun e => h.fr.apart x j hx hj e.symm, h.up.trans ((h.fr.own x hx).grown_below hw h.size)⟩
theorem TurnAt.store (h : TurnAt g n A kv F w3 wr fb f) {x : Nat} (hx : x < n) {row : Option Nat} (hr : row = (kv x).ownBlock) (hw : wr.grownBy w' row) :
    w'.cell? ⟨A x, 1, none⟩ = some (kv x) ∧ w'.frozen? ⟨A x, 1, none⟩ = false := by
  have h1 := (h.grown hx hr hw).2.1 x hx
  constructor
  · simp only [World.cell?, h1]; exact h.fr.kidv hx
  · simp only [World.frozen?, h1]; exact h.fr.thaw hx 1
theorem TurnAt.del (h : TurnAt g n A kv F w3 wr fb f) {x b m cap : Nat} {ks : List Nat} (hx : x < n) (hg : (kv x).ownBlock = some b) (hw : wr.grownBy w' (some b)) (hv : Owns (g + 1) 113 w' (.slice (some ⟨b, 0, none⟩) m cap) (ks.map (nptr A))) (hks : ∀ j ∈ ks, j < n) :
    TurnAt g n A (upd kv x (.slice (some ⟨b, 0, none⟩) m cap)) { F with kids := upd F.kids x ks } w3 (w'.setCell ⟨A x, 1, none⟩ (.slice (some ⟨b, 0, none⟩) m cap)) fb f := by
  obtain ⟨h1, h2, h3⟩ := h.grown hx hg.symm hw
  refine ⟨h.fr.del hx hg hw hv hks, ?_, h.lo, h.farA, fun j hj => ?_, h3.setCell (p := ⟨A x, 1, none⟩) (h.fr.lo x hx) _⟩
  · rw [blk_setCell_other _ _ _ _ (fun e => h.farA x hx e.symm)]; exact h1
  · by_cases e : j = x
    · subst e; rw [upd_same]; intro e2; exact h.farK j hj (hg.trans e2)
    · rw [upd_ne _ _ e]; exact h.farK j hj
theorem TurnAt.push (h : TurnAt g n A kv F w3 wr fb f) {k c : Nat} (hk : k < n) (hc : c < n) {b m cap : Nat} (hv : Owns (g + 1) 113 w' (.slice (some ⟨b, 0, none⟩) m cap) ((F.kids k).map (nptr A) ++ [nptr A c])) (hg : wr.grownBy w' (kv k).ownBlock)
    (hb : (kv k).ownBlock = some b ∨ wr.heap.size ≤ b) : TurnAt g n A (upd kv k (.slice (some ⟨b, 0, none⟩) m cap)) { F with kids := upd F.kids k (F.kids k ++ [c]) } w3 (w'.setCell ⟨A k, 1, none⟩ (.slice (some ⟨b, 0, none⟩) m cap)) fb f := by
  obtain ⟨h1, h2, h3⟩ := h.grown hk rfl hg
  refine ⟨h.fr.push hk hc (by rw [List.map_append]; exact hv) hg (fun b2 hb2 => by cases hb2; exact hb), ?_, h.lo, h.farA, fun j hj => ?_, h3.setCell (p := ⟨A k, 1, none⟩) (h.fr.lo k hk) _⟩
  · rw [blk_setCell_other _ _ _ _ (fun e => h.farA k hk e.symm)]; exact h1
  · by_cases e : j = k
    · subst e; rw [upd_same]
      intro e2
      have e2 : b = fb := by cases e2; rfl
      rcases hb with h4 | h4
      · exact h.farK j hj (by rw [h4, e2])
      · have := h.fbl; omega
    · rw [upd_ne _ _ e]; exact h.farK j hj
theorem TurnAt.rebox (h : TurnAt g n A kv F w3 wr fb f) (f' : Int) :
    TurnAt g n A kv F w3 (wr.alloc (.cells #[.int .i64 f'] 3)) wr.heap.size f' := by
  have hs := h.size
  have hA : ∀ j, j < n → A j ≠ wr.heap.size := fun j hj e => by have := h.fr.lt hj; omega
  have hK : ∀ j, j < n → (kv j).ownBlock ≠ some wr.heap.size := fun j hj e => by have := (h.fr.ownlt hj e).2; omega
  exact ⟨h.fr.up (Up.alloc _ _), blk_alloc_new _ _, by omega, hA, hK, h.up.alloc (by omega) _⟩
theorem TurnAt.drew (h : TurnAt g n A kv F w3 wr fb f) : TurnAt g n A kv F w3 wr.drew fb f :=
  ⟨h.fr.up (Up.drewN wr 1), h.box, h.lo, h.farA, h.farK, h.up.trans ((Up.drewN wr 1 : Up wr wr.drew).mono h.size)⟩
theorem TurnAt.congr (h : TurnAt g n A kv F w3 wr fb f) {G : Frs} (e : ∀ j, j < n → G.nm j = F.nm j ∧ G.old j = F.old j ∧ G.kids j = F.kids j) : TurnAt g n A kv G w3 wr fb f :=
  ⟨h.fr.congr2 e, h.box, h.lo, h.farA, h.farK, h.up⟩
theorem turn_start (hF : FAt (g + 1) n A kv F w3) (hg : g < w3.heap.size) {l : Nat} (hl : l < n) (nm : ByteArray) (old : Int) (f : Int) :
    TurnAt g (n + 1) (upd A n (w3.heap.size + 1)) (upd kv n (.slice (some ⟨w3.heap.size, 0, none⟩) 1 1)) ⟨upd F.nm n nm, upd F.old n old, upd F.kids n [l]⟩ w3
      (((w3.alloc (.cells #[nptr A l] 113)).alloc (.cells #[.string nm, .slice (some ⟨w3.heap.size, 0, none⟩) 1 1, .int .i64 old] 115)).alloc (.cells #[.int .i64 f] 3)).drew (w3.heap.size + 1 + 1) f := by
  have hu := Up.alloc w3 (.cells #[nptr A l] 113)
  have hs1 : (w3.alloc (.cells #[nptr A l] 113)).heap.size = w3.heap.size + 1 := World.size_alloc _ _
  have hown : Owns (g + 1) 113 (w3.alloc (.cells #[nptr A l] 113)) (.slice (some ⟨w3.heap.size, 0, none⟩) 1 1) ([l].map (nptr A)) :=
    ⟨rfl, .inr ⟨w3.heap.size, 1, #[nptr A l], rfl, by omega, blk_alloc_new _ _, ⟨by simp, by unfold maxLen; omega, rfl, rfl⟩⟩⟩
  have hob : ∀ b, (Value.slice (some ⟨w3.heap.size, 0, none⟩) 1 1).ownBlock = some b → b = w3.heap.size := fun b hb => by
    have hb : some w3.heap.size = some b := hb
    injection hb with hb; exact hb.symm
  have h1 := (hF.up hu).node_kids (by rw [hs1]; omega) (v := .slice (some ⟨w3.heap.size, 0, none⟩) 1 1) (ks := [l]) nm old hown
    (fun b hb i hi e => by have := hob b hb; have := hF.lt hi; omega) (fun b hb i hi e => by have := hob b hb; have := (hF.ownlt hi e).2; omega) (by simpa using hl)
  rw [hs1] at h1
  have hs2 : ((w3.alloc (.cells #[nptr A l] 113)).alloc (.cells #[.string nm, .slice (some ⟨w3.heap.size, 0, none⟩) 1 1, .int .i64 old] 115)).heap.size = w3.heap.size + 1 + 1 := by rw [World.size_alloc, World.size_alloc]
  have hup : Below (g + 1) w3 ((w3.alloc (.cells #[nptr A l] 113)).alloc (.cells #[.string nm, .slice (some ⟨w3.heap.size, 0, none⟩) 1 1, .int .i64 old] 115)) := (hu.trans (Up.alloc _ _)).mono (by omega)
  generalize (w3.alloc (.cells #[nptr A l] 113)).alloc (.cells #[.string nm, .slice (some ⟨w3.heap.size, 0, none⟩) 1 1, .int .i64 old] 115) = W at *
  rw [← hs2]
  have hA : ∀ j, j < n + 1 → (upd A n (w3.heap.size + 1)) j ≠ W.heap.size := fun j hj e => by have := h1.lt hj; omega
  have hK : ∀ j, j < n + 1 → ((upd kv n (.slice (some ⟨w3.heap.size, 0, none⟩) 1 1)) j).ownBlock ≠ some W.heap.size := fun j hj e => by have := (h1.ownlt hj e).2; omega
  have h2 : TurnAt g (n + 1) (upd A n (w3.heap.size + 1)) (upd kv n (.slice (some ⟨w3.heap.size, 0, none⟩) 1 1)) ⟨upd F.nm n nm, upd F.old n old, upd F.kids n [l]⟩ w3 (W.alloc (.cells #[.int .i64 f] 3)) W.heap.size f :=
    ⟨h1.up (Up.alloc _ _), blk_alloc_new _ _, by omega, hA, hK, hup.alloc (by omega) _⟩
  exact h2.drew
end
end Go.Proofs.YtpjijbophjdgaaaGreat
namespace Go.Proofs.YtpjijbophjdgaaaGreat
open Go.RowKit Go.Deep
end Go.Proofs.YtpjijbophjdgaaaGreat
namespace Go.Proofs.YtpjijbophjdgaaaGreat
open Go.RowKit Go.Deep
deriving instance DecidableEq for Grp
end Go.Proofs.YtpjijbophjdgaaaGreat
namespace Go.Proofs.YtpjijbophjdgaaaGreat
open Go.RowKit Go.Deep
end Go.Proofs.YtpjijbophjdgaaaGreat
namespace Go.Proofs.YtpjijbophjdgaaaGreat
open Go.RowKit Go.Deep
end Go.Proofs.YtpjijbophjdgaaaGreat
namespace Go.Proofs.YtpjijbophjdgaaaGreat
open Go.RowKit Go.Deep
end Go.Proofs.YtpjijbophjdgaaaGreat
namespace Go.Proofs.YtpjijbophjdgaaaGreat
open Go.RowKit Go.Deep
end Go.Proofs.YtpjijbophjdgaaaGreat
namespace Go.Proofs.YtpjijbophjdgaaaGreat
section
variable {t : Tre}
end
section
variable {t : Tre}
end
end Go.Proofs.YtpjijbophjdgaaaGreat
namespace Go.Proofs.YtpjijbophjdgaaaGreat
section
variable {t : Tre}
end
end Go.Proofs.YtpjijbophjdgaaaGreat
namespace Go.Proofs.YtpjijbophjdgaaaGreat
open Go.RowKit Go.Deep
section
variable {P : Program} {ops : Array Oper} {rest : List Oper} {o : Oper} {a : Act} {Q : Exit → Act → World → Prop}
theorem wpList_appGM (W : World) (hgd : o.guard = none) (s x : Operand) (t : TypeId) (ho : o.op = .call { callee := .builtin .append, args := #[s, x], argTypes := #[t, t] })
    (base : Nat) (e : TypeId) (z : Value) (bytes : Nat) (ht : P.underlying t = some (.slice e)) (hinfo : (P.info? e).map (fun i => (i.zero, i.size, i.bytes)) = some (some z, 1, bytes))
    (hz1 : z.cells.size = 1) (hb8 : bytes ≤ 64) {v : Value} {vs : List Value} (hown : Owns base e W v vs) (hs : a.eval s = v) (u : Value) (m : Nat) (hm : W.heap.size = m)
    (hx : a.eval x = .slice (some ⟨m, 0, none⟩) 1 1) (h1 : u.oneCell' = true) (k : Nat) (hvn : vs.length = k) (hn : k ≤ 1000000) (hbase : base ≤ W.heap.size)
    (h : ∀ g cap w', Owns base e w' (.slice (some ⟨g, 0, none⟩) (k + 1) cap) (vs ++ [u]) → W.grownBy w' v.ownBlock → (v.ownBlock = some g ∨ W.heap.size ≤ g) → wpList P ops Q rest (a.put o.dst (.slice (some ⟨g, 0, none⟩) (k + 1) cap)) w') :
    wpList P ops Q (o :: rest) a (W.alloc (.cells #[u] e)) := by
  subst hm
  exact wpList_appG W hgd s x t ho base e z bytes ht hinfo hz1 hb8 hown hs u hx h1 k hvn hn hbase h
end
section
variable {w2 wr wx w' : World} {tb : Nat} {pv nv v : Value} {xs : List ByteArray}
end
section
variable {w3 wr wx w' : World} {d a : Value} {gs : List Grp} {svs : List Value} {xs : List Int}
end
end Go.Proofs.YtpjijbophjdgaaaGreat
