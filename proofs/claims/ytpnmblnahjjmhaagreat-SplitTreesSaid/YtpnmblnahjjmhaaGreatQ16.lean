/- An append onto a slice without room, inside a region that draws its order; a node whose list of children is laid anew. The walk of sharederror.Tree. The plain law of SharederrorPairs: sets as lists; the closures of the law. The contract of slices.Sort at strings: the laying. Names, as layer 1's and layer 31's references have them: Check, IsWord, IsName, named. The contract of layer 31's reference's number. Slices of a list of children. The tree that grow makes is a rose tree, numbered depth first. slices.Sort at strings that the call has built. -/
import Derived.Test.YtpnmblnahjjmhaaGreatQ14
import Derived.ArgAppend
import Derived.Test.YtpnmblnahjjmhaaGreatQ13
import Derived.Shelf.SlGeneric
import Derived.Shelf.Lays
import Derived.Shelf.Sort.Plain
import Derived.Ground.NamesProg
import Derived.Test.YtpnmblnahjjmhaaGreatProg
import Derived.Test.YtpnmblnahjjmhaaGreatQ3
import Derived.Test.YtpnmblnahjjmhaaGreatQ15
import Derived.Test.YtpnmblnahjjmhaaGreatQ1
import Derived.Sort.OwnSorted
import Derived.Shelf.Slices.In.SortNone
namespace Go.Proofs.YtpnmblnahjjmhaaGreat
set_option maxRecDepth 100000
section
open Go.RowKit Go.Deep
section
variable {P : Program} {ops : Array Oper} {o : Oper} {a : Act} {w : World} {K : Act → World → Prop} {Q : Exit → Act → World → Prop} {E : Prop}
theorem x6 (hgd : o.guard = none) (s x : Operand) (t : TypeId) (ho : o.op = .call { callee := .builtin .append, args := #[s, x], argTypes := #[t, t] })
  (e : TypeId) (z : Value) (bytes : Nat) (ht : P.underlying t = some (.slice e)) (hinfo : (P.info? e).map (fun i => (i.zero, i.size, i.bytes)) = some (some z, 1, bytes))
  (hz1 : z.cells.size = 1) (kB : bytes ≤ 64) {ao : Option Addr} {n : Nat} {olds : List Value} (hs : a.eval s = .slice ao n n) (hnone : ao = none → n = 0) (hlo : olds.length = n) (holds : ∀ b, ao = some b → ∀ j u, olds[j]? = some u → w.cell? (b.add j) = some u)
  {ad : Addr} {m c : Nat} {news : List Value} (hx : a.eval x = .slice (some ad) m c) (hl : news.length = m) (hnews : ∀ j u, news[j]? = some u → w.cell? (ad.add j) = some u) (h1 : ∀ u ∈ news, u.oneCell' = true) (hm : 0 < m) (hn : n + m ≤ 1000000)
  (h : ∀ g cap w', ay w.heap.size e w' (.slice (some ⟨g, 0, none⟩) (n + m) cap) (olds ++ news) → Up w w' → K (a.put o.dst (.slice (some ⟨g, 0, none⟩) (n + m) cap)) w') :
  if Region.wanted o (yielded ops a.tmps) = true then Oper.wp P o a w K Q else E := by
 have hw : Region.wanted o (yielded ops a.tmps) = true := by simp [Region.wanted, hgd]
 rw [if_pos hw]
 obtain ⟨i, hi, je⟩ := Option.map_eq_some_iff.1 hinfo
 simp only [Prod.mk.injEq] at je
 obtain ⟨hz, hs1, hb⟩ := je
 have cB : n + m ≤ maxLen := by unfold maxLen; omega
 have bK : (n + m) * bytes ≤ 140737488355328 := by
  have : (n + m) * bytes ≤ (n + m) * 64 := Nat.mul_le_mul_left _ kB
  omega
 have fin : ∀ v' w', w'.ownsRow w.heap.size e 1 v' (n + m) (olds ++ news) → w.grownBy w' none → K (a.put o.dst v') w' := fun v' w' r1 r2 => by
  have hlen : (olds ++ news).length = n + m := by rw [List.length_append, hlo, hl]
  have hown : ay w.heap.size e w' v' (olds ++ news) := by unfold ay; rw [hlen]; exact r1
  have bG : Up w w' := ⟨r2.os, r2.tape, r2.output, r2.size, fun b hb => r2.block b hb (fun e => by cases e)⟩
  obtain ⟨h2, h3 | ⟨g, c', cur, h3, _⟩⟩ := hown
  ·omega
  ·rw [hlen] at h3
   subst h3
   exact h g c' w' (by unfold ay; rw [hlen]; exact r1) bG
 cases ao with
 | some b =>
  obtain ⟨v', w', hrun, r1, r2⟩ := run_append_arg_grows (P := P) w t o.type e i z 1 bytes ht hi hz hs1 hb hz1 (by omega) b n n olds (by omega) (holds b rfl) ad m c news (by omega) hnews (by omega) cB bK
  unfold Oper.wp
  simp [execOp, ho, resolve, invoke, builtin, hs, hx, hrun, Result.andThen]
  exact fin v' w' r1 r2
 | none =>
  obtain rfl := hnone rfl
  obtain rfl : olds = [] := List.eq_nil_of_length_eq_zero hlo
  obtain ⟨v', w', hrun, r1, r2, _⟩ := run_append_own (P := P) w w.heap.size t o.type e i z 1 bytes ht hi hz hs1 hb hz1 (by omega) (.slice none 0 0) 0 [] (World.ownsRow_nil w _ e 1) ad m c news (by omega) hnews h1 cB bK (Nat.le_refl _)
  unfold Oper.wp
  simp [execOp, ho, resolve, invoke, builtin, hs, hx, hrun, Result.andThen]
  exact fin v' w' r1 r2
theorem OM (hgd : o.guard = none) (s x : Operand) (t : TypeId) (ho : o.op = .call { callee := .builtin .append, args := #[s, x], argTypes := #[t, t] })
  (e : TypeId) (z : Value) (bytes : Nat) (ht : P.underlying t = some (.slice e)) (hinfo : (P.info? e).map (fun i => (i.zero, i.size, i.bytes)) = some (some z, 1, bytes))
  {ao : Option Addr} {n c : Nat} (hs : a.eval s = .slice ao n c) (hle : n ≤ c) {ad : Option Addr} {c2 : Nat} (hx : a.eval x = .slice ad 0 c2)
  (h : K (a.put o.dst (.slice ao n c)) w) : if Region.wanted o (yielded ops a.tmps) = true then Oper.wp P o a w K Q else E := by
 have hw : Region.wanted o (yielded ops a.tmps) = true := by simp [Region.wanted, hgd]
 rw [if_pos hw]
 obtain ⟨i, hi, je⟩ := Option.map_eq_some_iff.1 hinfo
 have hrun : (Builtin.append_ #[t, t] o.type #[.slice ao n c, .slice ad 0 c2]).run P w = .ok (.slice ao n c) w := by
  cases ao <;> cases ad <;> simp [Builtin.append_, run_underlying ht, sizeOf, typeInfo, hi, Builtin.lenOf, hle, Builtin.firstCells, storeCells, loadCells, loadCellsFrom]
 unfold Oper.wp
 simp [execOp, ho, resolve, invoke, builtin, hs, hx, hrun, Result.andThen]
 exact h
end
theorem RsAt.Xh {S : Nat → Prop} {w : World} : ∀ (a b : List RT) {vs us : List Value}, RsAt S w a vs → RsAt S w b us → RsAt S w (a ++ b) (vs ++ us)
 | [], b, vs, us, h, h2 => by unfold RsAt at h; subst h; exact h2
 | r :: a, b, vs, us, h, h2 => by
  unfold RsAt at h
  obtain ⟨u, q, rfl, h3, h4⟩ := h
  show RsAt S w (r :: (a ++ b)) (u :: (q ++ us))
  unfold RsAt
  exact ⟨u, q ++ us, rfl, h3, RsAt.Xh a b h4 h2⟩
theorem RsAt.Uk {S : Nat → Prop} {w : World} : ∀ (a : List RT) (k : Nat) {vs : List Value}, RsAt S w a vs → RsAt S w (a.take k) (vs.take k)
 | [], k, vs, h => by unfold RsAt at h; subst h; simp [RsAt]
 | r :: a, 0, vs, h => by simp [RsAt]
 | r :: a, k + 1, vs, h => by
  unfold RsAt at h
  obtain ⟨u, q, rfl, h3, h4⟩ := h
  rw [List.take_succ_cons, List.take_succ_cons]
  unfold RsAt
  exact ⟨u, _, rfl, h3, RsAt.Uk a k h4⟩
theorem RsAt.Ul {S : Nat → Prop} {w : World} : ∀ (a : List RT) (k : Nat) {vs : List Value}, RsAt S w a vs → RsAt S w (a.drop k) (vs.drop k)
 | [], k, vs, h => by unfold RsAt at h; subst h; simp [RsAt]
 | r :: a, 0, vs, h => h
 | r :: a, k + 1, vs, h => by
  unfold RsAt at h
  obtain ⟨u, q, rfl, h3, h4⟩ := h
  rw [List.drop_succ_cons, List.drop_succ_cons]
  exact RsAt.Ul a k h4
theorem mN.lay {base B X : Nat} {w W : World} {nm : ByteArray} {kv kv' : Value} {acc : List RT} {sw : List Value} {o : RT} {u : Value} (h : mN base B w nm kv acc) (oC : RsAt (fun b => base ≤ b ∧ b ≠ B ∧ kv.ownBlock ≠ some b) w acc sw) (hu : Up w W) (hX : w.heap.size ≤ X)
  (hkb : ∀ b, kv'.ownBlock = some b → X ≤ b) (hr : RAt (fun b => w.heap.size ≤ b ∧ b < X) W o u) (k : Nat) (ho : ay (B + 1) 184 W kv' (sw.take k ++ u :: sw.drop k)) :
  mN base B (W.setCell ⟨B, 1, none⟩ kv') nm kv' (acc.take k ++ o :: acc.drop k) := by
 have Gc := h.lt
 have cg : ∀ b, b ≠ B → (W.setCell ⟨B, 1, none⟩ kv').heap[b]? = W.heap[b]? := fun b hb => blk_setCell_other _ _ _ _ hb
 have hn := (Below.block hu B Gc).trans h.node
 have hlo := h.lo
 refine ⟨by simp [World.setCell, Array.getElem?_modify, hn], h.lo, _, ho.ef fun b hb => cg b (by have := hkb b hb; omega), ?_⟩
 have k1 : Kept (fun b => base ≤ b ∧ b ≠ B ∧ kv'.ownBlock ≠ some b) w (W.setCell ⟨B, 1, none⟩ kv') := fun b hb hl => (cg b hb.2.1).trans (Below.block hu b hl)
 have a1 : RsAt (fun b => base ≤ b ∧ b ≠ B ∧ kv'.ownBlock ≠ some b) (W.setCell ⟨B, 1, none⟩ kv') acc sw :=
  RsAt.keep k1 acc (RsAt.sub (fun b hb hl => ⟨hb.1, hb.2.1, fun e => by have := hkb b e; omega⟩) acc oC)
 have k2 : Kept (fun b => base ≤ b ∧ b ≠ B ∧ kv'.ownBlock ≠ some b) W (W.setCell ⟨B, 1, none⟩ kv') := fun b hb _ => cg b hb.2.1
 have a2 : RAt (fun b => base ≤ b ∧ b ≠ B ∧ kv'.ownBlock ≠ some b) (W.setCell ⟨B, 1, none⟩ kv') o u :=
  RAt.keep k2 o (RAt.sub (fun b hb _ => ⟨by have := hb.1; omega, by have := hb.1; omega, fun e => by have := hkb b e; have := hb.2; omega⟩) o hr)
 refine RsAt.Xh _ _ (RsAt.Uk acc k a1) ?_
 unfold RsAt
 exact ⟨u, sw.drop k, rfl, a2, RsAt.Ul acc k a1⟩
end
section
open Go.RowKit Go.Deep
theorem vG (W : World) : aO Any W (.agg #[.slice none 0 0, .slice none 0 0]) ⟨[], []⟩ :=
 ⟨_, _, rfl, ⟨none, 0, rfl, Nat.le_refl _, .inl rfl⟩, ⟨none, 0, rfl, Nat.le_refl _, .inl rfl⟩⟩
theorem boxed {W : World} {B : Nat} {P N : Value} (hb : W.heap[B]? = some (Obj.cells #[P, N] 39 (0, 0))) : W.cell? ⟨B, 0, none⟩ = some P ∧ W.cell? ⟨B, 1, none⟩ = some N ∧ W.frozen? ⟨B, 0, none⟩ = false ∧ W.frozen? ⟨B, 1, none⟩ = false := by
 refine ⟨?_, ?_, ?_, ?_⟩ <;> simp [World.cell?, World.frozen?, hb]
theorem ON {S : Nat → Prop} {w : World} {b off n cap : Nat} {xs : List ByteArray} (h : aG S w (.slice (some ⟨b, off, none⟩) n cap) xs) {k : Nat} (hk : k ≤ xs.length) : aC S w (.slice (some ⟨b, off, none⟩) k cap) k (fun j => .string (gs xs j)) := by
 obtain ⟨q, c, e, hn, h⟩ := h
 injection e with e1 e2 e3
 subst e1; subst e2; subst e3
 refine ⟨_, cap, rfl, by omega, ?_⟩
 rcases h with h | ⟨b', o', e, hS, h⟩
 ·exact .inl (by omega)
 ·exact .inr ⟨b', o', e, hS, fun j hj => h j (by omega)⟩
section
variable {P : Program} {ops : Array Oper} {rest : List Oper} {o : Oper} {a : Act} {Q : Exit → Act → World → Prop}
theorem gJ (W : World) (hgd : o.guard = none) (s x : Operand) (t : TypeId) (ho : o.op = .call { callee := .builtin .append, args := #[s, x], argTypes := #[t, t] })
  (base : Nat) (e : TypeId) (z : Value) (bytes : Nat) (ht : P.underlying t = some (.slice e)) (hinfo : (P.info? e).map (fun i => (i.zero, i.size, i.bytes)) = some (some z, 1, bytes))
  (hz1 : z.cells.size = 1) (kB : bytes ≤ 64) {v : Value} {vs : List Value} (hown : ay base e W v vs) (hs : a.eval s = v) (u : Value) (m : Nat) (hm : W.heap.size = m)
  (hx : a.eval x = .slice (some ⟨m, 0, none⟩) 1 1) (h1 : u.oneCell' = true) (n : Nat) (uZ : vs.length = n) (hn : n ≤ 1000000) (hbase : base ≤ W.heap.size)
  (h : ∀ g cap w', ay base e w' (.slice (some ⟨g, 0, none⟩) (n + 1) cap) (vs ++ [u]) → W.grownBy w' v.ownBlock → Below base W w' → wpList P ops Q rest (a.put o.dst (.slice (some ⟨g, 0, none⟩) (n + 1) cap)) w') :
  wpList P ops Q (o :: rest) a (W.alloc (.cells #[u] e)) := by
 subst uZ; subst hm
 exact mM W hgd s x t ho base e z bytes ht hinfo hz1 kB hown hs u hx h1 hn hbase h
end
end
section
open Go.RowKit Go.Deep
end Go.Proofs.YtpnmblnahjjmhaaGreat
namespace Go.Proofs
open Go.Shelf
end Go.Proofs
namespace Go.Proofs.YtpnmblnahjjmhaaGreat
open Go.RowKit Go.Deep
def VH (w : World) (s : ByteArray) (e : Ending) (w' : World) : Prop := Below w.heap.size w w' ∧ ∃ r, e = .returned (.int .i64 r) ∧ (s.data.toList.all rQ = true → r = 0)
theorem Gn {s : ByteArray} (h : s.data.toList.all rQ = true) {k : Nat} (hk : k < s.size) : rQ s[k] = true :=
 List.all_eq_true.1 h _ (by rw [Array.mem_toList_iff]; exact Array.getElem_mem _)
set_option maxHeartbeats 400000 in
theorem ckR_t (s : ByteArray) (hs : s.size ≤ 1000) (w : World) : Calls Tryz.prog 285 #[.string s] w (VH w s) := by
 aq Tryz.func285, Tryz.ntmps285
 aa fail
 refine (Vr s hs _).mono ?_
 rintro e w1 ⟨hb, v, bs, rfl, fZ, jV⟩
 obtain ⟨p, cap, rfl, hcap, H⟩ := jV.open
 have HH := ag H
 clear H jV fZ
 aa fail
 dD [4, 5] (fun i _ => ∃ k : Nat, k ≤ s.size ∧ i = .int .i64 k) (fun i _ => s.size - (intOf i).toNat)
 case atStart => exact ⟨0, Nat.zero_le _, rfl⟩
 case round =>
  obtain ⟨k, hk, rfl⟩ := bE
  by_cases hlt : k < s.size
  ·obtain ⟨b, off, rfl, hc⟩ := HH.out k hlt
   have hka : s.data.toList.all rQ = true → dN s[k].toNat = 1 ∨ dN s[k].toNat = 3 := fun h => (rR s[k]).2 (Gn h hlt)
   have OO := ag hka
   clear HH hka
   aa (bg 286; refine (rG _ (UInt8.toNat_lt _) _).mono ?_; rintro e w' ⟨rfl, rfl⟩; generalize dN _ = q at *)
   all_goals first | (cz; (case rel => exact ⟨k + 1, by omega, by aH⟩); (case measure => simp [intOf]; omega)) | (ax; exact ⟨hb, _, rfl, fun h => by have := OO.out h; simp at *; omega⟩)
  ·clear HH
   aa fail
   ax
   exact ⟨hb, _, rfl, fun _ => rfl⟩
def Xi (w : World) (s : ByteArray) (e : Ending) (w' : World) : Prop := Below w.heap.size w w' ∧ ∃ b, e = .returned (.bool b) ∧ (s.data.toList.all rQ = true → 1 ≤ s.size → b = true) ∧ (s.size = 0 → b = false)
set_option maxHeartbeats 400000 in
theorem OP (s : ByteArray) (hs : s.size ≤ 16) (w : World) : Calls Tryz.prog 236 #[.string s] w (Xi w s) := by
 by_cases h0 : s.size < 1
 ·aq Tryz.func236, Tryz.ntmps236
  aa fail
  ax
  exact ⟨Below.refl _ _, _, rfl, fun _ h => by omega, fun _ => rfl⟩
 ·have h0' : ((0 : Nat) < s.size) := by omega
  have hka : s.data.toList.all rQ = true → dN s[0].toNat = 1 ∨ dN s[0].toNat = 3 := fun h => (rR s[0]).2 (Gn h h0')
  have OO := ag hka
  clear hka
  aq Tryz.func236, Tryz.ntmps236
  aa fail
  refine (ckR_t s (by omega) _).mono ?_
  rintro e w1 ⟨hb, r, rfl, hr⟩
  have HR := ag hr
  clear hr
  aa (bg 286; refine (rG _ (UInt8.toNat_lt _) _).mono ?_; rintro e w' ⟨rfl, rfl⟩; generalize dN _ = q at *)
  all_goals first
   | (ax; exact ⟨hb, _, rfl, fun h _ => (by exfalso; have h1 := OO.out h; have h2 := HR.out h; subst h2; simp at *; omega), fun _ => rfl⟩)
   | skip
  all_goals
   clear HR
   dD [4] (fun i => ∃ k : Nat, k ≤ s.size ∧ i = .int .i64 k) (fun i => s.size - (intOf i).toNat)
   case atStart => exact ⟨0, Nat.zero_le _, rfl⟩
   case round =>
    obtain ⟨k, hk, rfl⟩ := bE
    by_cases hlt : k < s.size
    ·have hka : s.data.toList.all rQ = true → dN s[k].toNat = 1 ∨ dN s[k].toNat = 3 := fun h => (rR s[k]).2 (Gn h hlt)
     have HKB := ag hka
     clear hka
     aa (bg 286; refine (rG _ (UInt8.toNat_lt _) _).mono ?_; rintro e w' ⟨rfl, rfl⟩; generalize dN s[k].toNat = y at *)
     all_goals first | (cz; (case rel => exact ⟨k + 1, by omega, by aH⟩); (case measure => simp [intOf]; omega)) | (ax; exact ⟨hb, _, rfl, fun h _ => (by exfalso; have h1 := HKB.out h; omega), fun _ => rfl⟩)
    ·aa fail
     ax
     exact ⟨hb, _, rfl, fun _ _ => rfl, fun h => by omega⟩
set_option maxHeartbeats 400000 in
theorem lG (s : ByteArray) (hs : s.size ≤ 70000) (w : World) : Calls Tryz.prog 178 #[.string s] w fun e w' => e = .returned (.bool (fA s.data.toList)) ∧ Below w.heap.size w w' := by
 have hl := size_data s
 have hA := Fq s.data.toList
 have dx : fA s.data.toList = decide (1 ≤ s.size ∧ s.size ≤ 16 ∧ j9 s.data.toList = s.size) := by
  unfold fA; rw [hl] at hA ⊢; rw [Bool.eq_iff_iff]; simp only [Bool.and_eq_true, decide_eq_true_eq]; rw [← hA, and_assoc]
 rw [hl] at hA
 have HF := ag dx
 have HA := ag hA
 clear dx hl hA
 by_cases BQ : s.size ≤ 16
 ·aq Tryz.func178, Tryz.ntmps178
  aa fail
  refine (OP s BQ _).mono ?_
  rintro e w1 ⟨hb, b, rfl, h1, h2⟩
  have H1 := ag h1
  have H2 := ag h2
  clear h1 h2
  cases b
  ·aa fail
   ax
   refine ⟨aZ ?_, hb⟩
   rw [HF.out, eq_comm, decide_eq_false_iff_not]
   rintro ⟨a1, a2, a3⟩
   have := H1.out (HA.out.1 a3) a1
   cases this
  ·aa (bg 237; refine (LN s hs _).mono ?_; rintro e w' ⟨rfl, rfl⟩)
   ax
   refine ⟨aZ ?_, hb⟩
   have h0 : s.size ≠ 0 := fun e => by have := H2.out e; cases this
   rw [HF.out, Bool.eq_iff_iff]
   simp
   omega
 ·aq Tryz.func178, Tryz.ntmps178
  aa fail
  ax
  refine ⟨aZ ?_, Below.refl _ _⟩
  rw [HF.out, eq_comm, decide_eq_false_iff_not]; omega
theorem vH (s : ByteArray) (h : s.size - 1 < s.size) : s.data.toList.getLast? = some s[s.size - 1] := by
 have hl := size_data s
 rw [List.getLast?_eq_getElem?, hl, List.getElem?_eq_getElem (by rw [hl]; exact h)]; rfl
theorem vI (s : ByteArray) (h : s.size - 1 < s.size) (BQ : s.size ≤ 16) (wN : ((s[s.size - 1].toNat : Int) == 42) = true) : bM s.data.toList = fA (s.extract 0 (s.size - 1)).data.toList := by
 have hl := size_data s
 have h2 : s[s.size - 1] = 42 := by
  have h3 : (s[s.size - 1].toNat : Int) = 42 := by simpa using wN
  have h4 : s[s.size - 1].toNat = 42 := by omega
  exact UInt8.toNat_inj.1 h4
 unfold bM; rw [vH s h, h2, if_pos rfl, Ft, hl]; simp [BQ]
theorem uj (s : ByteArray) (h : s.size - 1 < s.size) (wN : ((s[s.size - 1].toNat : Int) == 42) = false) : bM s.data.toList = fA s.data.toList := by
 unfold bM; rw [vH s h, if_neg]
 intro e; injection e with e; rw [e] at wN; simp at wN
theorem OQ (s : ByteArray) (h : 16 < s.size) : bM s.data.toList = fA s.data.toList := by
 have hl := size_data s
 unfold bM; split
 ·rename_i wN
  rw [xw s.data.toList wN, hl, decide_eq_false (by omega), Bool.and_false]
 ·rfl
theorem x7 (s : ByteArray) (h : s.size ≤ 1) : bM s.data.toList = fA s.data.toList := by
 have hl := size_data s
 unfold bM; split
 ·rename_i wN
  rw [xw s.data.toList wN]
  have : s.data.toList.dropLast = [] := by rw [← List.length_eq_zero_iff, List.length_dropLast]; omega
  rw [this]; rfl
 ·rfl
set_option maxHeartbeats 400000 in
theorem RO (s : ByteArray) (hs : s.size ≤ 70000) (w : World) : Calls Tryz.prog 133 #[.string s] w fun e w' => e = .returned (.bool (bM s.data.toList)) ∧ Below w.heap.size w w' := by
 aq Tryz.func133, Tryz.ntmps133
 aa fail
 ·have hf := ag (vI s (by omega) (by omega) ‹_›)
  refine (lG _ (by simp; omega) _).mono ?_
  rintro e w1 ⟨rfl, hb⟩
  rw [← hf.out]
  aa fail
  ax
  exact ⟨rfl, hb⟩
 ·have hf := ag (uj s (by omega) ‹_›)
  refine (lG _ hs _).mono ?_
  rintro e w1 ⟨rfl, hb⟩
  rw [← hf.out]
  aa fail
  ax
  exact ⟨rfl, hb⟩
 ·have hf := ag (OQ s (by omega))
  refine (lG _ hs _).mono ?_
  rintro e w1 ⟨rfl, hb⟩
  rw [← hf.out]
  aa fail
  ax
  exact ⟨rfl, hb⟩
 ·have hf := ag (x7 s (by omega))
  refine (lG _ hs _).mono ?_
  rintro e w1 ⟨rfl, hb⟩
  rw [← hf.out]
  aa fail
  ax
  exact ⟨rfl, hb⟩
end
section
open Go.RowKit Go.Deep
def Xj (w : World) (r : RT) (e : Ending) (w' : World) : Prop := Up w w' ∧ ∃ v, e = .returned v ∧ aO (fun b => w.heap.size ≤ b) w' v (flat r)
theorem VI (r : RT) (p : Int) : (⟨[], []⟩ : aJ).app r p = ⟨psR r 0 p, cT r⟩ := by simp [aJ.app]
set_option maxHeartbeats 1000000 in
theorem RP (S : Nat → Prop) (w : World) (v : Value) (r : RT) (h : RAt S w r v) (hs : aS r ≤ 90000) : Calls Tryz.prog 182 #[v] w (Xj w r) := by
 have dY := Up.alloc w (.cells #[.slice none 0 0, .slice none 0 0] 39)
 have hsz : (w.alloc (.cells #[.slice none 0 0, .slice none 0 0] 39)).heap.size = w.heap.size + 1 := World.size_alloc _ _
 have hrb := lu (w := w) (P := .slice none 0 0) (N := .slice none 0 0) (T := 39)
 have hx : RAt (fun b => (Value.slice none 0 0).ownBlock ≠ some b ∧ (Value.slice none 0 0).ownBlock ≠ some b) (w.alloc (.cells #[.slice none 0 0, .slice none 0 0] 39)) r v := RAt.sub (fun b _ _ => ⟨fun e => (by cases e), fun e => (by cases e)⟩) r (RAt.keep (dY.kept S) r h)
 have HW := ag (Xe (w.heap.size + 1) (aS r) r (Nat.le_refl _) (w.alloc (.cells #[.slice none 0 0, .slice none 0 0] 39)) (.slice none 0 0) (.slice none 0 0) v ⟨[], []⟩ (-1) ⟨ay.nil _ _ _, ay.nil _ _ _, fun b hb => by cases hb⟩ (by omega) rfl (by simp; omega) hx)
 have HU := ag dY
 have gQ := ag hrb
 have dG := ag hsz
 clear dY hrb hsz h hx
 aq Tryz.func182, Tryz.ntmps182
 aa fail
 generalize w.alloc (.cells #[.slice none 0 0, .slice none 0 0] 39) = w1 at *
 refine HW.out.mono ?_
 rintro e w2 ⟨P2, N2, rfl, hT, hK⟩
 rw [VI] at hT
 obtain ⟨p2, c2, rfl, _, _⟩ := aC.open hT.bJ.ints
 obtain ⟨q2, e2, rfl, _, _⟩ := aC.open hT.bW.strs
 have hu : Up w1 w2 := ⟨hK.os, hK.tape, hK.output, hK.size, fun b hb => hK.block b hb (by omega) (fun e => by cases e) (fun e => by cases e)⟩
 have bK := (Below.block hu w.heap.size (by rw [dG.out]; omega)).trans gQ.out
 obtain ⟨r0, r1, r2, r3⟩ : w2.cell? ⟨w.heap.size, 0, none⟩ = some (.slice none 0 0) ∧ w2.cell? ⟨w.heap.size, 1, none⟩ = some (.slice none 0 0) ∧ w2.frozen? ⟨w.heap.size, 0, none⟩ = false ∧ w2.frozen? ⟨w.heap.size, 1, none⟩ = false := by
  refine ⟨?_, ?_, ?_, ?_⟩ <;> simp [World.cell?, World.frozen?, bK]
 have cu := ag (fD (w := w) (p := .slice p2 (psR r 0 (-1)).length c2) (q := .slice q2 (cT r).length e2) bK (Nat.le_refl _) (HU.out.trans hu))
 have HP := ag hT.bJ.ints
 have HN := ag hT.bW.strs
 clear hT hK hu bK
 aa fail
 obtain ⟨s1, s2, s3, s4⟩ := cu.out
 refine ⟨rfl, .agg #[.slice p2 (psR r 0 (-1)).length c2, .slice q2 (cT r).length e2], by simp [results, Tryz.results182, go_sem, s2, s3], ?_⟩
 exact ⟨s1, _, rfl, _, _, rfl, (an.keep HP.out fun b hb _ => s4 b (by have : w.heap.size + 1 ≤ b := hb; omega)).sub fun b hb _ => by have : w.heap.size + 1 ≤ b := hb; omega, (aG.keep HN.out fun b hb _ => s4 b (by have : w.heap.size + 1 ≤ b := hb; omega)).sub fun b hb _ => by have : w.heap.size + 1 ≤ b := hb; omega⟩
end
section
open Go.RowKit Go.Deep
def RQ (a : Option Addr) (n c : Nat) : Option Addr := if c = n then a else Option.map (fun x => x.add n) a
theorem all_none {S : Nat → Prop} {w : World} {n c : Nat} {f : Nat → Value} {a : Option Addr} (h : aC S w (.slice a n c) n f) (e : a = none) : n = 0 := by
 subst e
 by_cases hn : n = 0
 ·exact hn
 ·obtain ⟨q, c', e, _, H⟩ := aC.open h
  injection e with e
  subst e
  obtain ⟨b, off, e2, _⟩ := H 0 (by omega)
  cases e2
theorem OR {S : Nat → Prop} {w : World} {n c : Nat} {vs : List Value} {a : Option Addr} (h : aC S w (.slice a n c) n (vN vs)) (hl : vs.length = n) (b : Addr) (e : a = some b) (i : Nat) (q : Value) (hq : vs[i]? = some q) : w.cell? (b.add i) = some q := by
 have hki : i < n := by rw [← hl]; exact (List.getElem?_eq_some_iff.1 hq).1
 obtain ⟨b', o', e2, hc⟩ := qt h hki
 rw [e] at e2
 injection e2 with e2
 subst e2
 have hv : vN vs i = q := by unfold vN; rw [List.getD_eq_getElem?_getD, hq]; rfl
 rw [hv] at hc
 rw [Addr.add_lit]; exact hc
end
section
end
section
open Go.RowKit Go.Sort Go.Shelf Go.Deep
end
end Go.Proofs.YtpnmblnahjjmhaaGreat
