/- An append onto a slice without room, inside a region that draws its order; a node whose list of children is laid anew. Slices of a list of children. -/
import Derived.Test.YtpjijbophjdgaaaGreatQ20
import Derived.ArgAppend
namespace Go.Proofs.YtpjijbophjdgaaaGreat
open Go.RowKit Go.Deep
section
variable {P : Program} {ops : Array Oper} {o : Oper} {a : Act} {w : World} {K : Act → World → Prop} {Q : Exit → Act → World → Prop} {E : Prop}
theorem step_appF (hgd : o.guard = none) (s x : Operand) (t : TypeId) (ho : o.op = .call { callee := .builtin .append, args := #[s, x], argTypes := #[t, t] })
    (e : TypeId) (z : Value) (bytes : Nat) (ht : P.underlying t = some (.slice e)) (hinfo : (P.info? e).map (fun i => (i.zero, i.size, i.bytes)) = some (some z, 1, bytes))
    (hz1 : z.cells.size = 1) (hb8 : bytes ≤ 64) {ao : Option Addr} {n : Nat} {olds : List Value} (hs : a.eval s = .slice ao n n) (hnone : ao = none → n = 0) (hlo : olds.length = n) (holds : ∀ b, ao = some b → ∀ j u, olds[j]? = some u → w.cell? (b.add j) = some u)
    {ad : Addr} {m c : Nat} {news : List Value} (hx : a.eval x = .slice (some ad) m c) (hl : news.length = m) (hnews : ∀ j u, news[j]? = some u → w.cell? (ad.add j) = some u) (h1 : ∀ u ∈ news, u.oneCell' = true) (hm : 0 < m) (hn : n + m ≤ 1000000)
    (h : ∀ g cap w', Owns w.heap.size e w' (.slice (some ⟨g, 0, none⟩) (n + m) cap) (olds ++ news) → Up w w' → K (a.put o.dst (.slice (some ⟨g, 0, none⟩) (n + m) cap)) w') :
    if Region.wanted o (yielded ops a.tmps) = true then Oper.wp P o a w K Q else E := by
  have hw : Region.wanted o (yielded ops a.tmps) = true := by simp [Region.wanted, hgd]
  rw [if_pos hw]
  obtain ⟨i, hi, hzz⟩ := Option.map_eq_some_iff.1 hinfo
  simp only [Prod.mk.injEq] at hzz
  obtain ⟨hz, hs1, hb⟩ := hzz
  have hb1 : n + m ≤ maxLen := by unfold maxLen; omega
  have hb2 : (n + m) * bytes ≤ 140737488355328 := by
    have : (n + m) * bytes ≤ (n + m) * 64 := Nat.mul_le_mul_left _ hb8
    omega
  have fin : ∀ v' w', w'.ownsRow w.heap.size e 1 v' (n + m) (olds ++ news) → w.grownBy w' none → K (a.put o.dst v') w' := fun v' w' r1 r2 => by
    have hlen : (olds ++ news).length = n + m := by rw [List.length_append, hlo, hl]
    have hown : Owns w.heap.size e w' v' (olds ++ news) := by unfold Owns; rw [hlen]; exact r1
    have hup : Up w w' := ⟨r2.os, r2.tape, r2.output, r2.size, fun b hb => r2.block b hb (fun e => by cases e)⟩
    obtain ⟨h2, h3 | ⟨g, c', cur, h3, _⟩⟩ := hown
    · omega
    · rw [hlen] at h3
      subst h3
      exact h g c' w' (by unfold Owns; rw [hlen]; exact r1) hup
  cases ao with
  | some b =>
    obtain ⟨v', w', hrun, r1, r2⟩ := run_append_arg_grows (P := P) w t o.type e i z 1 bytes ht hi hz hs1 hb hz1 (by omega) b n n olds (by omega) (holds b rfl) ad m c news (by omega) hnews (by omega) hb1 hb2
    unfold Oper.wp
    simp [execOp, ho, resolve, invoke, builtin, hs, hx, hrun, Result.andThen]
    exact fin v' w' r1 r2
  | none =>
    obtain rfl := hnone rfl
    obtain rfl : olds = [] := List.eq_nil_of_length_eq_zero hlo
    obtain ⟨v', w', hrun, r1, r2, _⟩ := run_append_own (P := P) w w.heap.size t o.type e i z 1 bytes ht hi hz hs1 hb hz1 (by omega) (.slice none 0 0) 0 [] (World.ownsRow_nil w _ e 1) ad m c news (by omega) hnews h1 hb1 hb2 (Nat.le_refl _)
    unfold Oper.wp
    simp [execOp, ho, resolve, invoke, builtin, hs, hx, hrun, Result.andThen]
    exact fin v' w' r1 r2
theorem step_app0 (hgd : o.guard = none) (s x : Operand) (t : TypeId) (ho : o.op = .call { callee := .builtin .append, args := #[s, x], argTypes := #[t, t] })
    (e : TypeId) (z : Value) (bytes : Nat) (ht : P.underlying t = some (.slice e)) (hinfo : (P.info? e).map (fun i => (i.zero, i.size, i.bytes)) = some (some z, 1, bytes))
    {ao : Option Addr} {n c : Nat} (hs : a.eval s = .slice ao n c) (hle : n ≤ c) {ad : Option Addr} {c2 : Nat} (hx : a.eval x = .slice ad 0 c2)
    (h : K (a.put o.dst (.slice ao n c)) w) : if Region.wanted o (yielded ops a.tmps) = true then Oper.wp P o a w K Q else E := by
  have hw : Region.wanted o (yielded ops a.tmps) = true := by simp [Region.wanted, hgd]
  rw [if_pos hw]
  obtain ⟨i, hi, hzz⟩ := Option.map_eq_some_iff.1 hinfo
  have hrun : (Builtin.append_ #[t, t] o.type #[.slice ao n c, .slice ad 0 c2]).run P w = .ok (.slice ao n c) w := by
    cases ao <;> cases ad <;> simp [Builtin.append_, run_underlying ht, sizeOf, typeInfo, hi, Builtin.lenOf, hle, Builtin.firstCells, storeCells, loadCells, loadCellsFrom]
  unfold Oper.wp
  simp [execOp, ho, resolve, invoke, builtin, hs, hx, hrun, Result.andThen]
  exact h
end
theorem RsAt.app2 {S : Nat → Prop} {w : World} : ∀ (a b : List RT) {vs us : List Value}, RsAt S w a vs → RsAt S w b us → RsAt S w (a ++ b) (vs ++ us)
  | [], b, vs, us, h, h2 => by unfold RsAt at h; subst h; exact h2
  | r :: a, b, vs, us, h, h2 => by
    unfold RsAt at h
    obtain ⟨u, q, rfl, h3, h4⟩ := h
    show RsAt S w (r :: (a ++ b)) (u :: (q ++ us))
    unfold RsAt
    exact ⟨u, q ++ us, rfl, h3, RsAt.app2 a b h4 h2⟩
theorem RsAt.takeR {S : Nat → Prop} {w : World} : ∀ (a : List RT) (k : Nat) {vs : List Value}, RsAt S w a vs → RsAt S w (a.take k) (vs.take k)
  | [], k, vs, h => by unfold RsAt at h; subst h; simp [RsAt]
  | r :: a, 0, vs, h => by simp [RsAt]
  | r :: a, k + 1, vs, h => by
    unfold RsAt at h
    obtain ⟨u, q, rfl, h3, h4⟩ := h
    rw [List.take_succ_cons, List.take_succ_cons]
    unfold RsAt
    exact ⟨u, _, rfl, h3, RsAt.takeR a k h4⟩
theorem RsAt.dropR {S : Nat → Prop} {w : World} : ∀ (a : List RT) (k : Nat) {vs : List Value}, RsAt S w a vs → RsAt S w (a.drop k) (vs.drop k)
  | [], k, vs, h => by unfold RsAt at h; subst h; simp [RsAt]
  | r :: a, 0, vs, h => h
  | r :: a, k + 1, vs, h => by
    unfold RsAt at h
    obtain ⟨u, q, rfl, h3, h4⟩ := h
    rw [List.drop_succ_cons, List.drop_succ_cons]
    exact RsAt.dropR a k h4
theorem Wip.lay {base B X : Nat} {w W : World} {nm : ByteArray} {kv kv' : Value} {acc : List RT} {avs : List Value} {o : RT} {u : Value} (h : Wip base B w nm kv acc) (hra : RsAt (fun b => base ≤ b ∧ b ≠ B ∧ kv.ownBlock ≠ some b) w acc avs) (hu : Up w W) (hX : w.heap.size ≤ X)
    (hkb : ∀ b, kv'.ownBlock = some b → X ≤ b) (hr : RAt (fun b => w.heap.size ≤ b ∧ b < X) W o u) (k : Nat) (ho : Owns (B + 1) 120 W kv' (avs.take k ++ u :: avs.drop k)) :
    Wip base B (W.setCell ⟨B, 1, none⟩ kv') nm kv' (acc.take k ++ o :: acc.drop k) := by
  have hBl := h.lt
  have hset : ∀ b, b ≠ B → (W.setCell ⟨B, 1, none⟩ kv').heap[b]? = W.heap[b]? := fun b hb => blk_setCell_other _ _ _ _ hb
  have hn := (Below.block hu B hBl).trans h.node
  have hlo := h.lo
  refine ⟨by simp [World.setCell, Array.getElem?_modify, hn], h.lo, _, ho.same2 fun b hb => hset b (by have := hkb b hb; omega), ?_⟩
  have k1 : Kept (fun b => base ≤ b ∧ b ≠ B ∧ kv'.ownBlock ≠ some b) w (W.setCell ⟨B, 1, none⟩ kv') := fun b hb hl => (hset b hb.2.1).trans (Below.block hu b hl)
  have a1 : RsAt (fun b => base ≤ b ∧ b ≠ B ∧ kv'.ownBlock ≠ some b) (W.setCell ⟨B, 1, none⟩ kv') acc avs :=
    RsAt.keep k1 acc (RsAt.sub (fun b hb hl => ⟨hb.1, hb.2.1, fun e => by have := hkb b e; omega⟩) acc hra)
  have k2 : Kept (fun b => base ≤ b ∧ b ≠ B ∧ kv'.ownBlock ≠ some b) W (W.setCell ⟨B, 1, none⟩ kv') := fun b hb _ => hset b hb.2.1
  have a2 : RAt (fun b => base ≤ b ∧ b ≠ B ∧ kv'.ownBlock ≠ some b) (W.setCell ⟨B, 1, none⟩ kv') o u :=
    RAt.keep k2 o (RAt.sub (fun b hb _ => ⟨by have := hb.1; omega, by have := hb.1; omega, fun e => by have := hkb b e; have := hb.2; omega⟩) o hr)
  refine RsAt.app2 _ _ (RsAt.takeR acc k a1) ?_
  unfold RsAt
  exact ⟨u, avs.drop k, rfl, a2, RsAt.dropR acc k a1⟩
end Go.Proofs.YtpjijbophjdgaaaGreat
namespace Go.Proofs.YtpjijbophjdgaaaGreat
open Go.RowKit Go.Deep
def sEnd (a : Option Addr) (n c : Nat) : Option Addr := if c = n then a else Option.map (fun x => x.add n) a
theorem all_none {S : Nat → Prop} {w : World} {n c : Nat} {f : Nat → Value} {a : Option Addr} (h : SlAt S w (.slice a n c) n f) (e : a = none) : n = 0 := by
  subst e
  by_cases hn : n = 0
  · exact hn
  · obtain ⟨q, c', e, _, H⟩ := SlAt.open h
    injection e with e
    subst e
    obtain ⟨b, off, e2, _⟩ := H 0 (by omega)
    cases e2
theorem all_cells {S : Nat → Prop} {w : World} {n c : Nat} {vs : List Value} {a : Option Addr} (h : SlAt S w (.slice a n c) n (vN vs)) (hl : vs.length = n) (b : Addr) (e : a = some b) (i : Nat) (q : Value) (hq : vs[i]? = some q) : w.cell? (b.add i) = some q := by
  have hki : i < n := by rw [← hl]; exact (List.getElem?_eq_some_iff.1 hq).1
  obtain ⟨b', o', e2, hc⟩ := vN_get h hki
  rw [e] at e2
  injection e2 with e2
  subst e2
  have hv : vN vs i = q := by unfold vN; rw [List.getD_eq_getElem?_getD, hq]; rfl
  rw [hv] at hc
  rw [Addr.add_lit]; exact hc
end Go.Proofs.YtpjijbophjdgaaaGreat
