/- Two lists that grow in place: for 't.Parents, t.Names = append(..), append(..)' in a .. -/
import Derived.Test.YtpnmblnahjjmhaaGreatQ1
import Derived.Test.YtpnmblnahjjmhaaGreatQ6
import Derived.Test.YtpnmblnahjjmhaaGreatQ9
import Derived.Test.YtpnmblnahjjmhaaGreatQ12
import Derived.Test.YtpnmblnahjjmhaaGreatQ3
import Derived.Test.YtpnmblnahjjmhaaGreatQ11
import Derived.Deep.CutRange
import Derived.Test.YtpnmblnahjjmhaaGreatQ2
set_option maxRecDepth 100000
namespace Go.Proofs.YtpnmblnahjjmhaaGreat
section
open Go.RowKit Go.Deep
theorem Tryz.kD : (Tryz.prog.info? 9).map (fun i => (i.zero, i.size, i.bytes)) = some (some (.string ⟨#[]⟩), 1, 16) := by kernel_rfl
structure GK (tb : Nat) (w W : World) (P N P' N' : Value) : Prop where
 os : W.os = w.os
 tape : W.tape = w.tape
 output : W.output = w.output
 size : w.heap.size ≤ W.heap.size
 block : ∀ b, b < w.heap.size → b ≠ tb → some b ≠ P.ownBlock → some b ≠ N.ownBlock → W.heap[b]? = w.heap[b]?
 fN : ∀ b, P'.ownBlock = some b → P.ownBlock = some b ∨ w.heap.size ≤ b
 fO : ∀ b, N'.ownBlock = some b → N.ownBlock = some b ∨ w.heap.size ≤ b
theorem GK.refl (tb : Nat) (w : World) (P N : Value) : GK tb w w P N P N := ⟨rfl, rfl, rfl, Nat.le_refl _, fun _ _ _ _ _ => rfl, fun _ h => .inl h, fun _ h => .inl h⟩
theorem GK.trans {tb : Nat} {w W X : World} {P N P' N' P2 N2 : Value} (h : GK tb w W P N P' N') (k : GK tb W X P' N' P2 N2) : GK tb w X P N P2 N2 :=
 ⟨k.os.trans h.os, k.tape.trans h.tape, k.output.trans h.output, Nat.le_trans h.size k.size, fun b hb h1 h2 h3 => by
  rw [← h.block b hb h1 h2 h3]
  refine k.block b (Nat.lt_of_lt_of_le hb h.size) h1 (fun e => ?_) (fun e => ?_)
  ·rcases h.fN b e.symm with h4 | h4
   ·exact h2 h4.symm
   ·omega
  ·rcases h.fO b e.symm with h4 | h4
   ·exact h3 h4.symm
   ·omega,
  fun b hb => by
   rcases k.fN b hb with h4 | h4
   ·exact h.fN b h4
   ·exact .inr (Nat.le_trans h.size h4),
  fun b hb => by
   rcases k.fO b hb with h4 | h4
   ·exact h.fO b h4
   ·exact .inr (Nat.le_trans h.size h4)⟩
theorem GK.up {tb : Nat} {w W X : World} {P N P' N' : Value} (h : GK tb w W P N P' N') (k : Up W X) : GK tb w X P N P' N' :=
 ⟨k.os.trans h.os, k.tape.trans h.tape, k.output.trans h.output, Nat.le_trans h.size k.size, fun b hb h1 h2 h3 => (Below.block k b (Nat.lt_of_lt_of_le hb h.size)).trans (h.block b hb h1 h2 h3), h.fN, h.fO⟩
theorem GK.yI {tb : Nat} {w W : World} {P N : Value} (k : Up w W) : GK tb w W P N P N := (GK.refl tb w P N).up k
structure TL (B0 : Nat) (W : World) (P N : Value) (ps : List Int) (ns : List ByteArray) : Prop where
 bg : ah B0 3 W P (ps.map (Value.int .i64))
 bA : ah B0 9 W N (ns.map Value.string)
 apart : ∀ b, P.ownBlock = some b → N.ownBlock ≠ some b
theorem ah.dz {base : Nat} {e : TypeId} {w w' : World} {v : Value} {vs : List Value} (h : ah base e w v vs) (k : ∀ b, v.ownBlock = some b → w'.heap[b]? = w.heap[b]?) : ah base e w' v vs := by
 refine ⟨h.1, ?_⟩
 rcases h.2 with h0 | ⟨g, cap, cur, rfl, hg, hc, hr⟩
 ·exact .inl h0
 ·exact .inr ⟨g, cap, cur, rfl, hg, (k g rfl).trans hc, hr⟩
structure RS (tb B0 : Nat) (w W : World) (P N Pv Nv : Value) (ps : List Int) (ns : List ByteArray) : Prop where
 gk : GK tb w W P N Pv Nv
 tl : TL B0 W Pv Nv ps ns
 same : W.heap[tb]? = w.heap[tb]?
 lo : tb < B0 ∧ B0 ≤ w.heap.size
section
variable {tb B0 : Nat} {w W W' : World} {P N Pv Nv : Value} {ps : List Int} {ns : List ByteArray}
theorem RS.start (h : TL B0 w P N ps ns) (hl : tb < B0 ∧ B0 ≤ w.heap.size) : RS tb B0 w w P N P N ps ns := ⟨GK.refl _ _ _ _, h, rfl, hl⟩
theorem TL.up (h : TL B0 W Pv Nv ps ns) (hu : Up W W') : TL B0 W' Pv Nv ps ns :=
 ⟨h.bg.dz fun b hb => Below.block hu b (ax h.bg hb).2, h.bA.dz fun b hb => Below.block hu b (ax h.bA hb).2, h.apart⟩
theorem RS.up (h : RS tb B0 w W P N Pv Nv ps ns) (hu : Up W W') : RS tb B0 w W' P N Pv Nv ps ns :=
 ⟨h.gk.up hu, h.tl.up hu, (Below.block hu tb (by have := h.gk.size; have := h.lo; omega)).trans h.same, h.lo⟩
theorem RS.oC (h : RS tb B0 w W P N Pv Nv ps ns) {g cap k : Nat} {u : Int} (ho : ah B0 3 W' (.slice (some ⟨g, 0, none⟩) k cap) (ps.map (Value.int .i64) ++ [.int .i64 u])) (hg : W.grownBy W' Pv.ownBlock) (eL : Pv.ownBlock = some g ∨ W.heap.size ≤ g) :
  RS tb B0 w W' P N (.slice (some ⟨g, 0, none⟩) k cap) Nv (ps ++ [u]) ns := by
 have hlo := h.lo
 have hsz := h.gk.size
 refine ⟨⟨hg.os.trans h.gk.os, hg.tape.trans h.gk.tape, hg.output.trans h.gk.output, Nat.le_trans hsz hg.size, fun b hb h1 h2 h3 => ?_, fun b hb => ?_, h.gk.fO⟩, ⟨by rw [List.map_append]; exact ho, h.tl.bA.dz fun b hb => hg.block b (ax h.tl.bA hb).2 (fun e => h.tl.apart b e.symm hb), fun b hb hb2 => ?_⟩, (hg.block tb (by omega) (fun e => by have := (ax h.tl.bg e.symm).1; omega)).trans h.same, hlo⟩
 ·rw [← h.gk.block b hb h1 h2 h3]
  refine hg.block b (by omega) fun e => ?_
  rcases h.gk.fN b e.symm with h4 | h4
  ·exact h2 h4.symm
  ·omega
 ·injection hb with hb
  have hb : g = b := hb
  subst hb
  rcases eL with h4 | h4
  ·exact h.gk.fN g h4
  ·exact .inr (by omega)
 ·injection hb with hb
  have hb : g = b := hb
  subst hb
  rcases eL with h1 | h1
  ·exact h.tl.apart g h1 hb2
  ·have := (ax h.tl.bA hb2).2; omega
theorem RS.nA (h : RS tb B0 w W P N Pv Nv ps ns) {g cap k : Nat} {u : ByteArray} (ho : ah B0 9 W' (.slice (some ⟨g, 0, none⟩) k cap) (ns.map Value.string ++ [.string u])) (hg : W.grownBy W' Nv.ownBlock) (eL : Nv.ownBlock = some g ∨ W.heap.size ≤ g) :
  RS tb B0 w W' P N Pv (.slice (some ⟨g, 0, none⟩) k cap) ps (ns ++ [u]) := by
 have hlo := h.lo
 have hsz := h.gk.size
 refine ⟨⟨hg.os.trans h.gk.os, hg.tape.trans h.gk.tape, hg.output.trans h.gk.output, Nat.le_trans hsz hg.size, fun b hb h1 h2 h3 => ?_, h.gk.fN, fun b hb => ?_⟩, ⟨h.tl.bg.dz fun b hb => hg.block b (ax h.tl.bg hb).2 (fun e => h.tl.apart b hb e.symm), by rw [List.map_append]; exact ho, fun b hb hb2 => ?_⟩, (hg.block tb (by omega) (fun e => by have := (ax h.tl.bA e.symm).1; omega)).trans h.same, hlo⟩
 ·rw [← h.gk.block b hb h1 h2 h3]
  refine hg.block b (by omega) fun e => ?_
  rcases h.gk.fO b e.symm with h4 | h4
  ·exact h3 h4.symm
  ·omega
 ·injection hb with hb
  have hb : g = b := hb
  subst hb
  rcases eL with h4 | h4
  ·exact h.gk.fO g h4
  ·exact .inr (by omega)
 ·injection hb2 with hb2
  have hb2 : g = b := hb2
  subst hb2
  rcases eL with h1 | h1
  ·exact h.tl.apart g hb h1
  ·have := (ax h.tl.bg hb).2; omega
end
structure GS (tb B0 : Nat) (W : World) (P N : Value) (t : aA) : Prop where
 box : W.heap[tb]? = some (Obj.cells #[P, N] 39 (0, 0))
 tl : TL B0 W P N t.ps t.ns
 lo : tb < B0 ∧ B0 ≤ W.heap.size
theorem GS.cells {tb B0 : Nat} {W : World} {P N : Value} {t : aA} (h : GS tb B0 W P N t) : W.cell? ⟨tb, 0, none⟩ = some P ∧ W.cell? ⟨tb, 1, none⟩ = some N ∧ W.frozen? ⟨tb, 0, none⟩ = false ∧ W.frozen? ⟨tb, 1, none⟩ = false := by
 refine ⟨?_, ?_, ?_, ?_⟩ <;> simp [World.cell?, World.frozen?, h.box]
theorem GS.up {tb B0 : Nat} {W W' : World} {P N : Value} {t : aA} (h : GS tb B0 W P N t) (hu : Up W W') : GS tb B0 W' P N t :=
 ⟨(Below.block hu tb (by have := h.lo; omega)).trans h.box, h.tl.up hu, ⟨h.lo.1, Nat.le_trans h.lo.2 hu.size⟩⟩
def aA.push (t : aA) (p : Int) (s : ByteArray) : aA := ⟨t.ps ++ [p], t.ns ++ [s]⟩
theorem RS.cells {tb B0 : Nat} {w W : World} {P N Pv Nv P0 N0 : Value} {ps : List Int} {ns : List ByteArray} (h : RS tb B0 w W P N Pv Nv ps ns) (hb : w.heap[tb]? = some (Obj.cells #[P0, N0] 39 (0, 0))) :
  W.cell? ⟨tb, 0, none⟩ = some P0 ∧ W.cell? ⟨tb, 1, none⟩ = some N0 := by
 have h1 := h.same.trans hb
 exact ⟨by simp [World.cell?, h1], by simp [World.cell?, h1]⟩
theorem RS.frozen {tb B0 : Nat} {w W : World} {P N Pv Nv P0 N0 : Value} {ps : List Int} {ns : List ByteArray} (h : RS tb B0 w W P N Pv Nv ps ns) (hb : w.heap[tb]? = some (Obj.cells #[P0, N0] 39 (0, 0))) (o : Nat) :
  W.frozen? ⟨tb, o, none⟩ = false := by
 have h1 := h.same.trans hb
 simp [World.frozen?, h1]
theorem RS.store {tb B0 : Nat} {w W : World} {P N Pv Nv : Value} {t : aA} {z : Int} {nm : ByteArray} (h0 : GS tb B0 w P N t) (h : RS tb B0 w W P N Pv Nv (t.ps ++ [z]) (t.ns ++ [nm])) :
  GS tb B0 ((W.setCell ⟨tb, 0, none⟩ Pv).setCell ⟨tb, 1, none⟩ Nv) Pv Nv (t.push z nm) ∧ GK tb w ((W.setCell ⟨tb, 0, none⟩ Pv).setCell ⟨tb, 1, none⟩ Nv) P N Pv Nv := by
 have h1 := h.same.trans h0.box
 have bD : ∀ b, b ≠ tb → ((W.setCell ⟨tb, 0, none⟩ Pv).setCell ⟨tb, 1, none⟩ Nv).heap[b]? = W.heap[b]? := fun b hb => by rw [blk_setCell_other _ _ _ _ hb, blk_setCell_other _ _ _ _ hb]
 have hsz : ((W.setCell ⟨tb, 0, none⟩ Pv).setCell ⟨tb, 1, none⟩ Nv).heap.size = W.heap.size := by simp [World.size_setCell]
 refine ⟨⟨by simp [World.setCell, Array.getElem?_modify, h1], ⟨h.tl.bg.dz fun b hb => bD b ?_, h.tl.bA.dz fun b hb => bD b ?_, h.tl.apart⟩, h.lo.1, by rw [hsz]; exact Nat.le_trans h.lo.2 h.gk.size⟩, h.gk.os, h.gk.tape, h.gk.output, by rw [hsz]; exact h.gk.size, fun b hb h2 h3 h4 => (bD b h2).trans (h.gk.block b hb h2 h3 h4), h.gk.fN, h.gk.fO⟩
 ·have := (ax h.tl.bg hb).1; have := h.lo.1; omega
 ·have := (ax h.tl.bA hb).1; have := h.lo.1; omega
end
section
open Go.RowKit Go.Shelf Go.Deep
end
section
open Go.RowKit Go.Deep
section
variable {P : Program} {ops : Array Oper} {rest : List Oper} {o : Oper} {a : Act} {Q : Exit → Act → World → Prop}
end
end
section
theorem DR (a : RT) : ∀ l, (insR a l).Perm (a :: l)
 | [] => List.Perm.refl _
 | b :: l => by
  rw [insR]
  split
  ·exact List.Perm.refl _
  ·exact ((DR a l).cons b).trans (List.Perm.swap a b l)
theorem oW : ∀ l : List RT, (dw l).Perm (l.map sortR)
 | [] => List.Perm.refl _
 | r :: rs => by
  rw [dw, List.map_cons]
  exact (DR _ _).trans ((oW rs).cons _)
theorem u6 (r : RT) : (sortR r).kids = dw r.kids := by cases r; rfl
theorem u7 (r : RT) : (sortR r).nm = r.nm := by cases r; rfl
theorem ve {l : List RT} : dw l = [] ↔ l = [] := by
 constructor
 ·intro h
  have := (oW l).length_eq
  rw [h, List.length_map] at this
  exact List.eq_nil_of_length_eq_zero this.symm
 ·rintro rfl; rfl
theorem Ma {l l' : List RT} (h : l.Perm l') : (subRs l).Perm (subRs l') := by
 rw [jF, jF]
 exact h.flatMap_right _
mutual
theorem jx : ∀ r : RT, (subR (sortR r)).Perm ((subR r).map sortR)
 | .node nm ks => by
  rw [sortR, subR, subR, List.map_cons]
  refine List.Perm.cons _ ?_
  exact (Ma (oW ks)).trans (Bi ks)
theorem Bi : ∀ rs : List RT, (subRs (rs.map sortR)).Perm ((subRs rs).map sortR)
 | [] => List.Perm.refl _
 | r :: rs => by
  rw [List.map_cons, subRs, subRs, List.map_append]
  exact (jx r).append (Bi rs)
end
theorem Mb (r : RT) : aK (sortR r) = aK r := by
 have := (jx r).length_eq
 rw [List.length_map, jE, jE] at this; exact this
theorem RI (r : RT) : (cm (sortR r)).Perm (cm r) := by
 rw [qM, qM]
 refine ((jx r).map RT.nm).trans ?_
 rw [List.map_map]
 have : (RT.nm ∘ sortR) = RT.nm := funext u7
 rw [this]
theorem qu (r : RT) : (aZ (sortR r)).Perm (aZ r) := (RI r).filter _
theorem gC.sort {r : RT} (h : gC r) : gC (sortR r) := by
 refine ⟨fun s hs hk => ?_, fun s hs hk => ?_, (qu r).nodup_iff.2 h.nd⟩
 ·obtain ⟨q, hq, rfl⟩ := List.mem_map.1 ((jx r).mem_iff.1 hs)
  rw [u6] at hk
  rw [u7]
  exact h.uz q hq (fun e => hk (ve.2 e))
 ·obtain ⟨q, hq, rfl⟩ := List.mem_map.1 ((jx r).mem_iff.1 hs)
  rw [u6] at hk
  rw [u7]
  exact h.lf q hq (ve.1 hk)
def vg : List RT → Prop
 | [] => True
 | [_] => True
 | a :: b :: l => cu (firstR a) (firstR b) ≤ 0 ∧ vg (b :: l)
theorem vg.tail {a : RT} {l : List RT} (h : vg (a :: l)) : vg l := by
 cases l with
 | nil => trivial
 | cons b l => exact h.2
theorem OA (a : RT) (l : List RT) : ∃ c l', insR a l = c :: l' ∧ (c = a ∨ ∃ t, l = c :: t) := by
 cases l with
 | nil => exact ⟨a, [], rfl, .inl rfl⟩
 | cons b l =>
  rw [insR]
  split
  ·exact ⟨a, b :: l, rfl, .inl rfl⟩
  ·exact ⟨b, insR a l, rfl, .inr ⟨l, rfl⟩⟩
theorem F6 (a : RT) : ∀ l, vg l → vg (insR a l)
 | [], _ => trivial
 | b :: l, h => by
  rw [insR]
  split
  ·rename_i h1; exact ⟨h1, h⟩
  ·rename_i h1
   have h2 := F6 a l h.tail
   obtain ⟨c, l', e, hc⟩ := OA a l
   rw [e] at h2 ⊢
   refine ⟨?_, h2⟩
   rcases hc with rfl | ⟨t, rfl⟩
   ·have := gP (firstR c) (firstR b); omega
   ·exact h.1
theorem Bj : ∀ l, vg (dw l)
 | [] => trivial
 | r :: rs => by rw [dw]; exact F6 _ _ (Bj rs)
theorem VF {a : RT} {l : List RT} (h : vg (a :: l)) : insR a l = a :: l := by
 cases l with
 | nil => rfl
 | cons b l => rw [insR, if_pos h.1]
theorem Bk : ∀ l : List RT, vg l → (∀ r ∈ l, sortR r = r) → dw l = l
 | [], _, _ => rfl
 | r :: rs, h, hf => by rw [dw, Bk rs h.tail (fun q hq => hf q (by simp [hq])), hf r (by simp)]; exact VF h
mutual
theorem Bl : ∀ r : RT, sortR (sortR r) = sortR r
 | .node nm ks => by
  rw [sortR, sortR]
  congr 1
  refine Bk _ (Bj ks) (fun q hq => ?_)
  obtain ⟨s, hs, rfl⟩ := List.mem_map.1 ((oW ks).mem_iff.1 hq)
  exact zw ks s hs
theorem zw : ∀ (rs : List RT) (s : RT), s ∈ rs → sortR (sortR s) = sortR s
 | [], _, h => by cases h
 | r :: rs, s, h => by
  by_cases e : s = r
  ·rw [e]; exact Bl r
  ·exact zw rs s (by
    rcases List.mem_cons.1 h with h | h
    ·exact absurd h e
    ·exact h)
end
section
variable {F : aT} {n : Nat} {rk : Nat → Nat}
theorem sO (h : Wf F n rk) : ∀ {d i : Nat}, i < n → rk i ≤ d → subR (aR F rk i) = (bE F rk i).map (aR F rk) := by
 intro d
 induction d with
 | zero =>
  intro i hi hd
  have hk : F.kids i = [] := by
   cases hk : F.kids i with
   | nil => rfl
   | cons k l => have := (h.kid i hi k (by rw [hk]; simp)).2; omega
  rw [bW h hi, hk]
  have e : aR F rk i = .node (F.nm i) [] := by rw [cQ h hi, hk]; rfl
  rw [e, subR, List.flatMap_nil, List.map_cons, e]; rfl
 | succ d ih =>
  intro i hi hd
  rw [bW h hi, List.map_cons, List.map_flatMap]
  have e := cQ h hi
  conv => lhs; rw [e, subR, jF, List.flatMap_map]
  rw [← e]
  congr 1
  refine fL fun k hk => ?_
  have := h.kid i hi k hk
  exact ih this.1 (by omega)
theorem qN (h : Wf F n rk) {i : Nat} (hi : i < n) : (aR F rk i).nm = F.nm i := by rw [cQ h hi]; rfl
theorem sP (h : Wf F n rk) {i : Nat} (hi : i < n) : (aR F rk i).kids = (F.kids i).map (aR F rk) := by rw [cQ h hi]; rfl
end
theorem eu {t : aA} (h : aB t = 0) {j : Nat} (hj : j ∈ bE (cF t) (bM t) 0) : j < t.ps.length :=
 mQ (cg h).wf (aH h).1 (Nat.le_refl _) ((cU (cg h).wf (aH h).1 (Nat.le_refl _)).1 hj)
theorem iW {t : aA} (h : aB t = 0) : subR (fC t) = (bE (cF t) (bM t) 0).map (aR (cF t) (bM t)) := sO (cg h).wf (aH h).1 (Nat.le_refl _)
theorem DT {t : aA} (h : aB t = 0) : aK (fC t) ≤ 64 := by
 rw [← jE, iW h, List.length_map]
 have h1 := oD (jh (cg h) (R := t.ps.length) (fun i _ => uw t i) (aH h).1 (Nat.le_refl _)) (fun x hx => eu h hx)
 have := (aH h).2.1; omega
theorem Ki {t : aA} (h : aB t = 0) : cm (fC t) = (bE (cF t) (bM t) 0).map (gs t.ns) := by
 rw [qM, iW h, List.map_map]
 refine List.map_congr_left fun j hj => ?_
 exact qN (cg h).wf (eu h hj)
theorem F7 {ps : List Int} {ns : List ByteArray} {i : Nat} (h : iR ps ns i = 0) (hi : isIn ps i = true) : (gs ns i).size = 0 := by
 unfold iR at h
 rw [if_pos hi] at h
 split at h
 ·assumption
 ·cases h
theorem OB {ps : List Int} {ns : List ByteArray} {i : Nat} (h : iR ps ns i = 0) (hi : isIn ps i = false) : bq (gs ns i).data.toList = true ∧ cZ ns i = false := by
 unfold iR at h
 rw [hi, if_neg (by simp)] at h
 split at h
 ·rename_i h1
  refine ⟨h1, ?_⟩
  cases hs : cZ ns i with
  | false => rfl
  | true => rw [hs] at h; cases h
 ·cases h
theorem kE {t : aA} (h : aB t = 0) : gC (fC t) := by
 obtain ⟨hp, hl, hn, hok, he⟩ := aH h
 have hwf := (cg h).wf
 refine ⟨fun s hs hk => ?_, fun s hs hk => ?_, ?_⟩
 ·rw [iW h] at hs
  obtain ⟨j, hj, rfl⟩ := List.mem_map.1 hs
  have hjn := eu h hj
  rw [sP hwf hjn] at hk
  rw [qN hwf hjn]
  have : isIn t.ps j = true := (j9 hok j).1 (fun e => hk (by rw [fM, e]; rfl))
  exact F7 (he j hjn) this
 ·rw [iW h] at hs
  obtain ⟨j, hj, rfl⟩ := List.mem_map.1 hs
  have hjn := eu h hj
  rw [sP hwf hjn] at hk
  rw [qN hwf hjn]
  have : isIn t.ps j = false := by
   cases hb : isIn t.ps j with
   | false => rfl
   | true => exact absurd (List.map_eq_nil_iff.1 hk) ((j9 hok j).2 hb)
  exact (OB (he j hjn) this).1
 ·unfold aZ
  rw [Ki h, List.filter_map]
  have dZ := jh (cg h) (R := t.ps.length) (fun i _ => uw t i) hp (Nat.le_refl _)
  refine List.pairwise_map.2 (List.Pairwise.imp_of_mem ?_ (List.Pairwise.filter _ dZ))
  intro a b ha hb hne e
  have ha' := List.mem_filter.1 ha
  have hb' := List.mem_filter.1 hb
  have FU := eu h ha'.1
  have xE := eu h hb'.1
  have leaf : ∀ i, i < t.ps.length → (gs t.ns i).size ≠ 0 → (cF t).kids i = [] := fun i hi hs => by
   rw [fM]
   cases hk : bu t.ps i with
   | nil => rfl
   | cons x l => exact absurd (F7 (he i hi) ((j9 hok i).1 (by rw [hk]; simp))) hs
  exact hne ((cg h).names a b FU xE (leaf a FU (by simpa using ha'.2)) (leaf b xE (by simpa using hb'.2)) e)
theorem VG {t : aA} (h : aB t = 0) : aB (gM t) = 0 := by
 rw [mR h]
 exact xD (kE h).sort (by rw [Mb]; exact DT h)
theorem RJ {t : aA} (h : aB t = 0) : fC (gM t) = sortR (fC t) := by rw [mR h, F0]
end
section
open Go.RowKit Go.Shelf Go.Deep
end
section
open Go.RowKit Go.Deep
end
section
open Go.RowKit Go.Deep
def vN (vs : List Value) (k : Nat) : Value := vs.getD k undef
mutual
def RAt (S : Nat → Prop) (w : World) : RT → Value → Prop
 | .node nm ks, v => ∃ b kv vs, v = .pointer (some ⟨b, 0, none⟩) ∧ S b ∧ w.heap[b]? = some (.cells #[.string nm, kv] 238 (0, 0)) ∧ av S w kv ks.length (vN vs) ∧ RsAt S w ks vs
def RsAt (S : Nat → Prop) (w : World) : List RT → List Value → Prop
 | [], vs => vs = []
 | r :: rs, vs => ∃ u us, vs = u :: us ∧ RAt S w r u ∧ RsAt S w rs us
end
mutual
theorem RAt.keep {S : Nat → Prop} {w w' : World} (k : Kept S w w') : ∀ (r : RT) {v : Value}, RAt S w r v → RAt S w' r v
 | .node nm ks, v, h => by
  unfold RAt at h ⊢
  obtain ⟨b, kv, vs, rfl, hS, hb, hk, hs⟩ := h
  exact ⟨b, kv, vs, rfl, hS, (k b hS (Array.getElem?_eq_some_iff.1 hb).1).trans hb, hk.keep k, RsAt.keep k ks hs⟩
theorem RsAt.keep {S : Nat → Prop} {w w' : World} (k : Kept S w w') : ∀ (rs : List RT) {vs : List Value}, RsAt S w rs vs → RsAt S w' rs vs
 | [], _, h => by unfold RsAt at h ⊢; exact h
 | r :: rs, vs, h => by
  unfold RsAt at h ⊢
  obtain ⟨u, us, rfl, h1, h2⟩ := h
  exact ⟨u, us, rfl, RAt.keep k r h1, RsAt.keep k rs h2⟩
end
mutual
theorem RAt.sub {S T : Nat → Prop} {w : World} (k : ∀ b, S b → b < w.heap.size → T b) : ∀ (r : RT) {v : Value}, RAt S w r v → RAt T w r v
 | .node nm ks, v, h => by
  unfold RAt at h ⊢
  obtain ⟨b, kv, vs, rfl, hS, hb, hk, hs⟩ := h
  exact ⟨b, kv, vs, rfl, k b hS (Array.getElem?_eq_some_iff.1 hb).1, hb, hk.sub k, RsAt.sub k ks hs⟩
theorem RsAt.sub {S T : Nat → Prop} {w : World} (k : ∀ b, S b → b < w.heap.size → T b) : ∀ (rs : List RT) {vs : List Value}, RsAt S w rs vs → RsAt T w rs vs
 | [], _, h => by unfold RsAt at h ⊢; exact h
 | r :: rs, vs, h => by
  unfold RsAt at h ⊢
  obtain ⟨u, us, rfl, h1, h2⟩ := h
  exact ⟨u, us, rfl, RAt.sub k r h1, RsAt.sub k rs h2⟩
end
theorem RsAt.len {S : Nat → Prop} {w : World} : ∀ (rs : List RT) {vs : List Value}, RsAt S w rs vs → vs.length = rs.length
 | [], _, h => by unfold RsAt at h; subst h; rfl
 | r :: rs, vs, h => by
  unfold RsAt at h
  obtain ⟨u, us, rfl, _, h2⟩ := h
  rw [List.length_cons, List.length_cons, RsAt.len rs h2]
def gr (rs : List RT) (k : Nat) : RT := rs.getD k (.node ByteArray.empty [])
theorem RsAt.get {S : Nat → Prop} {w : World} : ∀ (rs : List RT) {vs : List Value}, RsAt S w rs vs → ∀ k, k < rs.length → RAt S w (gr rs k) (vN vs k)
 | [], _, _, k, hk => absurd hk (Nat.not_lt_zero _)
 | r :: rs, vs, h, k, hk => by
  unfold RsAt at h
  obtain ⟨u, us, rfl, h1, h2⟩ := h
  cases k with
  | zero => exact h1
  | succ k => exact RsAt.get rs h2 k (by simpa using hk)
theorem RsAt.app {S : Nat → Prop} {w : World} {r : RT} {u : Value} (hr : RAt S w r u) : ∀ (rs : List RT) {vs : List Value}, RsAt S w rs vs → RsAt S w (rs ++ [r]) (vs ++ [u])
 | [], vs, h => by
  unfold RsAt at h; subst h
  show RsAt S w [r] [u]
  unfold RsAt
  exact ⟨u, [], rfl, hr, by unfold RsAt; rfl⟩
 | q :: rs, vs, h => by
  unfold RsAt at h
  obtain ⟨x, us, rfl, h1, h2⟩ := h
  show RsAt S w (q :: (rs ++ [r])) (x :: (us ++ [u]))
  unfold RsAt
  exact ⟨x, us ++ [u], rfl, h1, RsAt.app hr rs h2⟩
theorem RAt.open {S : Nat → Prop} {w : World} {r : RT} {v : Value} (h : RAt S w r v) : ∃ b kp kc vs, v = .pointer (some ⟨b, 0, none⟩) ∧ S b ∧ w.cell? ⟨b, 0, none⟩ = some (.string r.nm) ∧ w.cell? ⟨b, 1, none⟩ = some (.slice kp r.kids.length kc) ∧ av S w (.slice kp r.kids.length kc) r.kids.length (vN vs) ∧ RsAt S w r.kids vs := by
 cases r with
 | node nm ks =>
  unfold RAt at h
  obtain ⟨b, kv, vs, rfl, hS, hb, hk, hs⟩ := h
  obtain ⟨kp, kc, rfl, _, _⟩ := av.open hk
  exact ⟨b, kp, kc, vs, rfl, hS, by simp [World.cell?, hb, RT.nm], by simp [World.cell?, hb, RT.kids], hk, hs⟩
theorem pI {p : Option Addr} {n cap : Nat} {S : Nat → Prop} {w : World} {vs : List Value} (h : av S w (.slice p n cap) n (vN vs)) {k : Nat} (hk : k < n) : ∃ b off, p = some ⟨b, off, none⟩ ∧ w.cell? ⟨b, off + k, none⟩ = some (vN vs k) := by
 obtain ⟨q, c, e, _, H⟩ := av.open h
 injection e with e1
 subst e1
 exact H k hk
structure lN (base B : Nat) (w : World) (nm : ByteArray) (kv : Value) (rs : List RT) : Prop where
 node : w.heap[B]? = some (.cells #[.string nm, kv] 238 (0, 0))
 lo : base ≤ B
 kids : ∃ vs, ah (B + 1) 184 w kv vs ∧ RsAt (fun b => base ≤ b ∧ b ≠ B ∧ kv.ownBlock ≠ some b) w rs vs
theorem lN.lt {base B : Nat} {w : World} {nm : ByteArray} {kv : Value} {rs : List RT} (h : lN base B w nm kv rs) : B < w.heap.size := (Array.getElem?_eq_some_iff.1 h.node).1
theorem lN.cells {base B : Nat} {w : World} {nm : ByteArray} {kv : Value} {rs : List RT} (h : lN base B w nm kv rs) : w.cell? ⟨B, 0, none⟩ = some (.string nm) ∧ w.cell? ⟨B, 1, none⟩ = some kv ∧ w.frozen? ⟨B, 0, none⟩ = false ∧ w.frozen? ⟨B, 1, none⟩ = false := by
 refine ⟨?_, ?_, ?_, ?_⟩ <;> simp [World.cell?, World.frozen?, h.node]
theorem lN.start (w : World) {base : Nat} (hb : base ≤ w.heap.size) (nm : ByteArray) : lN base w.heap.size (w.alloc (.cells #[.string nm, .slice none 0 0] 238)) nm (.slice none 0 0) [] :=
 ⟨World.alloc_heap_new _ _, hb, [], ah.nil _ _ _, by unfold RsAt; rfl⟩
theorem lN.up {base B : Nat} {w w' : World} {nm : ByteArray} {kv : Value} {rs : List RT} (h : lN base B w nm kv rs) (hu : Up w w') : lN base B w' nm kv rs := by
 obtain ⟨vs, ho, hr⟩ := h.kids
 exact ⟨(Below.block hu B h.lt).trans h.node, h.lo, vs, ho.kept fun b _ hb => Below.block hu b hb, RsAt.keep (hu.kept _) rs hr⟩
theorem lN.done {base B : Nat} {w : World} {nm : ByteArray} {kv : Value} {rs : List RT} (h : lN base B w nm kv rs) : RAt (fun b => base ≤ b) w (.node nm rs) (.pointer (some ⟨B, 0, none⟩)) := by
 obtain ⟨vs, ho, hr⟩ := h.kids
 have hlen := RsAt.len rs hr
 unfold RAt
 have h1 := ho.qZ
 rw [hlen] at h1
 exact ⟨B, kv, vs, rfl, h.lo, h.node, h1.sub fun b hb _ => by have := h.lo; omega, RsAt.sub (fun b hb _ => hb.1) rs hr⟩
theorem lN.push {base B : Nat} {w W : World} {nm : ByteArray} {kv kv' : Value} {rs : List RT} {r : RT} {u : Value} {lim : Nat} (h : lN base B w nm kv rs) (hr : RAt (fun b => lim ≤ b) w r u) (pE : base ≤ lim) (hl2 : B < lim) (Bo : ∀ b, kv.ownBlock = some b → b < lim)
  {vs : List Value} (hv : RsAt (fun b => base ≤ b ∧ b ≠ B ∧ kv.ownBlock ≠ some b) w rs vs) (ho : ah (B + 1) 184 W kv' (vs ++ [u])) (hg : w.grownBy W kv.ownBlock) (eL : ∀ b, kv'.ownBlock = some b → kv.ownBlock = some b ∨ w.heap.size ≤ b) :
  lN base B (W.setCell ⟨B, 1, none⟩ kv') nm kv' (rs ++ [r]) := by
 have hBl := h.lt
 have hBk : kv.ownBlock ≠ some B := fun e => by
  obtain ⟨vs0, Kj, _⟩ := h.kids
  have := (ax Kj e).1; omega
 have hBk' : kv'.ownBlock ≠ some B := fun e => by
  rcases eL B e with h1 | h1
  ·exact hBk h1
  ·omega
 have bD : ∀ b, b ≠ B → (W.setCell ⟨B, 1, none⟩ kv').heap[b]? = W.heap[b]? := fun b hb => blk_setCell_other _ _ _ _ hb
 have hB : W.heap[B]? = w.heap[B]? := hg.block B hBl (fun e => hBk e.symm)
 have hkeep : ∀ b, b ≠ B → kv.ownBlock ≠ some b → b < w.heap.size → (W.setCell ⟨B, 1, none⟩ kv').heap[b]? = w.heap[b]? := fun b h1 h2 h3 => (bD b h1).trans (hg.block b h3 fun e => h2 e.symm)
 refine ⟨?_, h.lo, vs ++ [u], ho.dz fun b hb => bD b (fun e => hBk' (by rw [hb, e])), ?_⟩
 ·have hn := hB.trans h.node
  simp [World.setCell, Array.getElem?_modify, hn]
 ·have k1 : Kept (fun b => base ≤ b ∧ b ≠ B ∧ kv.ownBlock ≠ some b) w (W.setCell ⟨B, 1, none⟩ kv') := fun b hb hl => hkeep b hb.2.1 hb.2.2 hl
  have k2 : Kept (fun b => lim ≤ b) w (W.setCell ⟨B, 1, none⟩ kv') := fun b hb hl => hkeep b (by have : lim ≤ b := hb; omega) (fun e => by have := Bo b e; have : lim ≤ b := hb; omega) hl
  have hsz : (W.setCell ⟨B, 1, none⟩ kv').heap.size = W.heap.size := by simp [World.size_setCell]
  have hold : ∀ b, b < w.heap.size → kv.ownBlock ≠ some b → kv'.ownBlock ≠ some b := fun b h1 h2 e => by
   rcases eL b e with h3 | h3
   ·exact h2 h3
   ·omega
  have h1 : RsAt (fun b => base ≤ b ∧ b ≠ B ∧ kv'.ownBlock ≠ some b) w rs vs := RsAt.sub (fun b hb hl => ⟨hb.1, hb.2.1, hold b hl hb.2.2⟩) rs hv
  have h2 : RAt (fun b => base ≤ b ∧ b ≠ B ∧ kv'.ownBlock ≠ some b) w r u := RAt.sub (fun b hb hl => ⟨by have : lim ≤ b := hb; omega, by have : lim ≤ b := hb; omega, hold b hl fun e => by have := Bo b e; have : lim ≤ b := hb; omega⟩) r hr
  have k3 : Kept (fun b => base ≤ b ∧ b ≠ B ∧ kv'.ownBlock ≠ some b ∧ kv.ownBlock ≠ some b) w (W.setCell ⟨B, 1, none⟩ kv') := fun b hb hl => hkeep b hb.2.1 hb.2.2.2 hl
  have h1' : RsAt (fun b => base ≤ b ∧ b ≠ B ∧ kv'.ownBlock ≠ some b ∧ kv.ownBlock ≠ some b) w rs vs := RsAt.sub (fun b hb hl => ⟨hb.1, hb.2.1, hold b hl hb.2.2, hb.2.2⟩) rs hv
  have NF : RAt (fun b => base ≤ b ∧ b ≠ B ∧ kv'.ownBlock ≠ some b ∧ kv.ownBlock ≠ some b) w r u := RAt.sub (fun b hb hl => ⟨by have : lim ≤ b := hb; omega, by have : lim ≤ b := hb; omega, hold b hl fun e => by have := Bo b e; have : lim ≤ b := hb; omega, fun e => by have := Bo b e; have : lim ≤ b := hb; omega⟩) r hr
  exact RsAt.sub (fun b hb _ => ⟨hb.1, hb.2.1, hb.2.2.1⟩) _ (RsAt.app (RAt.keep k3 r NF) rs (RsAt.keep k3 rs h1'))
end
section
open Go.RowKit Go.Deep
end
section
open Go.RowKit Go.Deep
end
section
open Go.RowKit Go.Deep
theorem uA (S : Nat → Prop) (w : World) (v : Value) (xs : List Int) (x : Int) (h : af S w v xs) (hn : xs.length ≤ 1000000) :
  Calls Tryz.prog 17 #[v, .int .i64 x] w fun e w' => e = .returned (.bool ((List.range xs.length).any fun j => decide (x = gi xs j))) ∧ w = w' := by
 have hx := fT (fun j => decide (x = gi xs j)) xs.length
 have HX := aa hx
 have HI := aa (Jv S w v xs x h hn)
 clear hx h
 go_enter Tryz.func17, Tryz.ntmps17
 go_wp2_with fail
 refine HI.out.mono ?_
 rintro e w' ⟨rfl, rfl⟩
 go_wp2_with fail
 go_ret
 exact ⟨aO (by rw [← HX.out]), rfl⟩
end
end Go.Proofs.YtpnmblnahjjmhaaGreat
