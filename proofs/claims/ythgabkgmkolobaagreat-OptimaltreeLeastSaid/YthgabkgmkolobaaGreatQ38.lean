/- Lists of trees in memory: reading and appending. optimaltree.score, Score. Lists of texts .. -/
import Derived.Test.YthgabkgmkolobaaGreatQ1
import Derived.Test.YthgabkgmkolobaaGreatQ35
import Derived.Test.YthgabkgmkolobaaGreatQ33
import Derived.Test.YthgabkgmkolobaaGreatQ36
import Derived.Test.YthgabkgmkolobaaGreatQ16
import Derived.Test.YthgabkgmkolobaaGreatQ22
import Derived.Test.YthgabkgmkolobaaGreatQ32
import Derived.Test.YthgabkgmkolobaaGreatQ6
set_option maxRecDepth 100000
namespace Go.Proofs.YthgabkgmkolobaaGreat
section
open Go.RowKit Go.Deep
def cD (S : Nat → Prop) (w : World) (v : Value) (ts : List ay) : Prop :=
 ∃ p cap, v = .slice p ts.length cap ∧ ts.length ≤ cap ∧ (ts.length = 0 ∨ ∃ b off, p = some ⟨b, off, none⟩ ∧ S b ∧ ∀ k, k < ts.length → ∃ P N, w.cell? ⟨b, off + k * 2, none⟩ = some P ∧ w.cell? ⟨b, off + k * 2 + 1, none⟩ = some N ∧ aA S w (.agg #[P, N]) (gt ts k))
theorem cD.keep {S : Nat → Prop} {w w' : World} {v : Value} {ts : List ay} (h : cD S w v ts) (k : Kept S w w') : cD S w' v ts := by
 obtain ⟨p, cap, rfl, hn, h⟩ := h
 refine ⟨p, cap, rfl, hn, ?_⟩
 rcases h with h | ⟨b, off, rfl, hS, h⟩
 ·exact .inl h
 ·refine .inr ⟨b, off, rfl, hS, fun i hi => ?_⟩
  obtain ⟨P, N, h1, h2, h3⟩ := h i hi
  have hlt : b < w.heap.size := World.block_lt_of_cell? w _ h1
  have hc : ∀ o, w'.cell? ⟨b, o, none⟩ = w.cell? ⟨b, o, none⟩ := fun o => World.cell?_of_block (a := ⟨b, o, none⟩) (k b hS hlt)
  exact ⟨P, N, (hc _).trans h1, (hc _).trans h2, h3.keep k⟩
theorem gz {S : Nat → Prop} {w : World} {v : Value} {ts : List ay} (h : cD S w v ts) : ∃ p cap, v = .slice p ts.length cap ∧ ts.length ≤ cap := by
 obtain ⟨p, cap, e, hn, _⟩ := h
 exact ⟨p, cap, e, hn⟩
theorem cD.nil (S : Nat → Prop) (w : World) : cD S w (.slice none 0 0) [] := ⟨none, 0, rfl, Nat.le_refl _, .inl rfl⟩
theorem mY {S : Nat → Prop} {w : World} {p : Option Addr} {n cap : Nat} {ts : List ay} (h : cD S w (.slice p n cap) ts) {k : Nat} (hk : k < ts.length) :
  ∃ b off pp pc np nc, p = some ⟨b, off, none⟩ ∧ w.cell? ⟨b, off + k * 2, none⟩ = some (.slice pp (gt ts k).ps.length pc) ∧ w.cell? ⟨b, off + k * 2 + 1, none⟩ = some (.slice np (gt ts k).ns.length nc) ∧ aA S w (.agg #[.slice pp (gt ts k).ps.length pc, .slice np (gt ts k).ns.length nc]) (gt ts k) := by
 obtain ⟨q, c, e, _, h⟩ := h
 injection e with e1
 subst e1
 rcases h with h | ⟨b, off, rfl, _, h⟩
 ·omega
 ·obtain ⟨P, N, h1, h2, h3⟩ := h k hk
  obtain ⟨P1, N1, e, hP, hN⟩ := h3
  injection e with e
  have e1 : P = P1 ∧ N = N1 := by simpa using e
  obtain ⟨rfl, rfl⟩ := e1
  obtain ⟨pp, pc, rfl, _, _⟩ := aB.open hP
  obtain ⟨np, nc, rfl, _, _⟩ := aB.open hN
  exact ⟨b, off, pp, pc, np, nc, rfl, h1, h2, _, _, rfl, hP, hN⟩
abbrev l6 := (Value × Value) × ay
def wC (x : l6) : List Value := [x.1.1, x.1.2]
def lq (es : List l6) : List Value := es.flatMap wC
def xz (es : List l6) (k : Nat) : l6 := es.getD k ((undef, undef), ⟨[], []⟩)
theorem Km (es : List l6) (x : l6) : lq (es ++ [x]) = lq es ++ wC x := by unfold lq; rw [List.flatMap_append]; simp
theorem E6 : ∀ (es : List l6) (k : Nat), k < es.length → (lq es)[k * 2]? = some (xz es k).1.1 ∧ (lq es)[k * 2 + 1]? = some (xz es k).1.2
 | [], k, h => absurd h (Nat.not_lt_zero _)
 | x :: es, 0, _ => by simp [lq, wC, xz]
 | x :: es, k + 1, h => by
  have ih := E6 es k (by simpa using h)
  have e : (k + 1) * 2 = k * 2 + 1 + 1 := by omega
  have e2 : xz (x :: es) (k + 1) = xz es k := by simp [xz]
  have e3 : lq (x :: es) = x.1.1 :: x.1.2 :: lq es := by simp [lq, wC]
  rw [e2, e3, e]
  simp only [List.getElem?_cons_succ]
  exact ih
def ic (base : Nat) (w : World) (v : Value) (es : List l6) : Prop :=
 w.ownsRow base 39 2 v es.length (lq es) ∧ ∀ x ∈ es, aA (fun b => some b ≠ v.ownBlock) w (.agg #[x.1.1, x.1.2]) x.2
theorem ic.nil (base : Nat) (w : World) : ic base w (.slice none 0 0) [] := ⟨World.ownsRow_nil _ _ _ _, fun _ h => by cases h⟩
theorem ic.up {base : Nat} {w w' : World} {v : Value} {es : List l6} (h : ic base w v es) (hu : Up w w') : ic base w' v es :=
 ⟨EX h.1 fun b hb => Below.block hu b (World.ownsRow.lt h.1 b hb).2, fun x hx => (h.2 x hx).keep (hu.kept _)⟩
theorem ic.form {base : Nat} {w : World} {v : Value} {es : List l6} (h : ic base w v es) : ∃ p c, v = .slice p es.length c := by
 rcases h.1.2 with ⟨e, h0⟩ | ⟨g, cap, cur, e, _⟩
 ·exact ⟨none, 0, by rw [e, h0]⟩
 ·exact ⟨_, _, e⟩
theorem Wy {es : List l6} {k : Nat} (h : k < es.length) : xz es k ∈ es := by simp [xz, h]
theorem ic.trees {base : Nat} {w : World} {v : Value} {es : List l6} (h : ic base w v es) : cD Any w v (es.map (·.2)) := by
 obtain ⟨ho, hT⟩ := h
 have hgt : ∀ k, k < es.length → gt (es.map (·.2)) k = (xz es k).2 := fun k hk => by simp [gt, xz, hk]
 rcases ho.2 with ⟨e, h0⟩ | ⟨g, cap, cur, e, hg, hc, hn, hcm, hcs, ht⟩
 ·have F3 : es.length = 0 := h0
  have : es = [] := List.eq_nil_of_length_eq_zero F3
  subst this
  subst e
  exact cD.nil _ _
 ·subst e
  refine ⟨_, cap, by rw [List.length_map], by rw [List.length_map]; exact hn, .inr ⟨g, 0, rfl, trivial, fun k hk => ?_⟩⟩
  rw [List.length_map] at hk
  rw [hgt k hk]
  obtain ⟨c0, c1⟩ := E6 es k hk
  refine ⟨(xz es k).1.1, (xz es k).1.2, ?_, ?_, (hT _ (Wy hk)).sub fun _ _ _ => trivial⟩
  ·rw [Nat.zero_add, ho.cellAt (k * 2) (by omega)]; exact c0
  ·rw [Nat.zero_add, ho.cellAt (k * 2 + 1) (by omega)]; exact c1
section
variable {P : Program} {ops : Array Oper} {rest : List Oper} {o : Oper} {a : Act} {Q : Exit → Act → World → Prop}
theorem sO (W : World) (hgd : o.guard = none) (s x : Operand) (t : TypeId) (ho : o.op = .call { callee := .builtin .append, args := #[s, x], argTypes := #[t, t] })
  (base : Nat) (z : Value) (bytes : Nat) (ht : P.underlying t = some (.slice 39)) (hinfo : (P.info? 39).map (fun i => (i.zero, i.size, i.bytes)) = some (some z, 2, bytes))
  (hz1 : z.cells.size = 2) (mg : bytes ≤ 64) {v : Value} {es : List l6} (hown : ic base W v es) (hs : a.eval s = v) (G : l6)
  (hx : a.eval x = .slice (some ⟨W.heap.size, 0, none⟩) 1 1) (hu : aA (fun b => some b ≠ v.ownBlock) W (.agg #[G.1.1, G.1.2]) G.2) (n : Nat) (pZ : es.length = n) (hn : n ≤ 1000000) (hbase : base ≤ W.heap.size)
  (h : ∀ g cap w', ic base w' (.slice (some ⟨g, 0, none⟩) (n + 1) cap) (es ++ [G]) → W.grownBy w' v.ownBlock → Below base W w' → wpList P ops Q rest (a.put o.dst (.slice (some ⟨g, 0, none⟩) (n + 1) cap)) w') :
  wpList P ops Q (o :: rest) a (W.alloc (.cells #[G.1.1, G.1.2] 39)) := by
 subst pZ
 obtain ⟨i, hi, hzz⟩ := Option.map_eq_some_iff.1 hinfo
 simp only [Prod.mk.injEq] at hzz
 obtain ⟨hz, hs1, hb⟩ := hzz
 obtain ⟨hown, hrows⟩ := hown
 have h1 : G.1.1.oneCell' = true ∧ G.1.2.oneCell' = true := by
  obtain ⟨P1, N1, e, hP, hN⟩ := hu
  injection e with e
  have e1 : G.1.1 = P1 ∧ G.1.2 = N1 := by simpa using e
  obtain ⟨p, c, e2, _⟩ := aB.open hP
  obtain ⟨q, d, e3, _⟩ := aB.open hN
  rw [e1.1, e1.2, e2, e3]; exact ⟨rfl, rfl⟩
 refine wpList_append_lies _ hgd s x t ho base 39 i z 2 bytes ht hi hz hs1 hb hz1 (by omega) v es.length (lq es) hs (hown.alloc _) ⟨W.heap.size, 0, none⟩ 1 1 (wC G) hx rfl ?_ (fun q hq => by
  unfold wC at hq
  rcases List.mem_cons.1 hq with e | hq
  ·subst e; exact h1.1
  ·rw [List.mem_singleton.1 hq]; exact h1.2) (by omega)
  (by unfold maxLen; omega) ?_ (by simp; omega) _ rfl fun g cap w' h2 h3 h4 _ => ?_
 ·intro j u' hj
  match j with
  | 0 =>
   obtain rfl : G.1.1 = u' := by simpa [wC] using hj
   exact aO W _ _ 0
  | 1 =>
   obtain rfl : G.1.2 = u' := by simpa [wC] using hj
   exact aO W _ _ 1
  | j + 2 => simp [wC] at hj
 ·have : (es.length + 1) * bytes ≤ (es.length + 1) * 64 := Nat.mul_le_mul_left _ mg
  omega
 ·have hg := iK h3
  have IP : ∀ b : Nat, some b ≠ v.ownBlock → b < W.heap.size → some b ≠ (Value.slice (some ⟨g, 0, none⟩) (es.length + 1) cap).ownBlock := fun b hb hlt e => by
   simp only [Value.ownBlock, Option.some.injEq] at e
   rcases h4 with h4 | h4
   ·exact hb (by rw [h4, e])
   ·rw [World.size_alloc] at h4; omega
  have hkeep : ∀ {u' : Value} {y' : ay}, aA (fun b => some b ≠ v.ownBlock) W u' y' → aA (fun b => some b ≠ (Value.slice (some ⟨g, 0, none⟩) (es.length + 1) cap).ownBlock) w' u' y' := fun hi' => by
   obtain ⟨P1, N1, e, hP, hN⟩ := hi'
   have k : Kept (fun b => some b ≠ v.ownBlock ∧ b < W.heap.size) W w' := fun b hb hlt => hg.block b hlt hb.1
   exact ⟨P1, N1, e, (aq.keep (hP.sub fun b hb hlt => ⟨hb, hlt⟩) k).sub fun b hb _ => IP b hb.1 hb.2, (ah.keep (hN.sub fun b hb hlt => ⟨hb, hlt⟩) k).sub fun b hb _ => IP b hb.1 hb.2⟩
  refine h g cap w' ⟨by rw [List.length_append, Km]; exact h2, fun x hx => ?_⟩ hg (Below.grown (Below.refl _ _) hg hbase fun k hk => (World.ownsRow.lt hown k hk).1)
  rcases List.mem_append.1 hx with hx | hx
  ·exact hkeep (hrows x hx)
  ·rw [List.mem_singleton.1 hx]; exact hkeep hu
end
theorem Tryz.infoTree : (Tryz.prog.info? 39).map (fun i => (i.zero, i.size, i.bytes)) = some (some (.agg #[.slice none 0 0, .slice none 0 0]), 2, 48) := by kernel_rfl
end
section
open Go.RowKit Go.Deep
def pU (t : ay) (names : List ByteArray) (states : List (List Int)) : Value := .tuple #[.int .i64 (if kZ t names then bG t names states else 0), .int .i64 (if kZ t names then 0 else 9)]
theorem zA {f : Nat → Int} : ∀ {n : Nat}, (∀ p, p < n → 0 ≤ f p ∧ f p ≤ 100000) → 0 ≤ aZ f n ∧ aZ f n ≤ 100000 * n
 | 0, _ => ⟨Int.le_refl _, Int.le_refl _⟩
 | n + 1, h => by
  have h1 := zA (f := f) (n := n) fun p hp => h p (by omega)
  have h2 := h n (by omega)
  rw [dK]
  omega
theorem Jf {states : List (List Int)} (h : cn states = 0) : states.length ≤ 32 ∧ (gl states 0).length ≤ 4096 := by
 unfold cn at h
 split at h
 ·cases h
 ·split at h
  ·cases h
  ·rename_i h1; omega
set_option maxHeartbeats 800000 in
theorem E7 (S : Nat → Prop) (w : World) (v vn vs : Value) (t : ay) (names : List ByteArray) (states : List (List Int)) (hT : aA S w v t) (ht : az t = 0) (hz : ∀ k, (gs t.ns k).size ≤ 70000) (h : ah S w vn names) (hS : aU S w vs states) (hc : k6 names states) :
  Calls Tryz.prog 69 #[v, vn, vs] w fun e w' => e = .returned (pU t names states) ∧ Up w w' := by
 obtain ⟨hp1, CX, hnl, hok, -⟩ := aD ht
 have hlv := tR t.ns
 obtain ⟨P, N, rfl, hP, hN⟩ := hT
 obtain ⟨np, nc, rfl, -, -⟩ := aB.open hN
 have hN : ah S w (.slice np t.ns.length nc) t.ns := hN
 obtain ⟨pp, pc, rfl, -, -⟩ := aB.open hP
 have hP : aq S w (.slice pp t.ps.length pc) t.ps := hP
 obtain ⟨mp, mc, rfl, -, -⟩ := aB.open h
 have h : ah S w (.slice mp names.length mc) names := h
 obtain ⟨sp, sc, rfl, -, -⟩ := eR hS
 obtain ⟨ag0, agr⟩ := Cl hc.ag
 obtain ⟨ag32, ag4⟩ := Jf hc.ag
 have aR : Up w (w.alloc (.cells #[.slice pp t.ps.length pc, .slice np t.ns.length nc] 39)) := Up.alloc _ _
 have hrb := fh (w := w) (P := .slice pp t.ps.length pc) (N := .slice np t.ns.length nc) (T := 39)
 obtain ⟨q0, q1, -, -⟩ := boxed hrb
 have jR : aA S (w.alloc (.cells #[.slice pp t.ps.length pc, .slice np t.ns.length nc] 39)) (.agg #[.slice pp t.ps.length pc, .slice np t.ns.length nc]) t := ⟨_, _, rfl, aq.keep hP (aR.kept S), ah.keep hN (aR.kept S)⟩
 have mR := aa (S4 S (w.alloc (.cells #[.slice pp t.ps.length pc, .slice np t.ns.length nc] 39)) _ _ t names jR (by omega) (by omega) hz (ah.keep h (aR.kept S)) (by have := hc.nm.hi; omega))
 have Es := aa jR
 have jT := aa (aU.keep hS (aR.kept S))
 have bH := aa aR
 have HB : Hid (xx t names = kZ t names) := by unfold Hid xx; rw [decide_eq_true ht]; rfl
 have qf : Hid (∀ W v u st, aA S W v t → aq Any W u st → st.length ≤ 64 → Calls Tryz.prog 124 #[v, u] W (Qc W t st)) := fun W v u st h1 h2 h3 => Ws Any W v u t st (h1.sub fun _ _ _ => trivial) h2 (by omega) (by omega) hz (by omega)
 have uY := aa agr
 have Ci := aa (And.intro ag0 (And.intro ag32 ag4))
 have xy : Hid ((aj t.ns).length ≤ 64) := by unfold Hid; omega
 have Cu := aa hc.len
 have HST : Hid (pU t names states = .tuple #[.int .i64 (if kZ t names then bG t names states else 0), .int .i64 (if kZ t names then 0 else 9)]) := rfl
 have HVA : Hid (kZ t names = true → ∀ p, p < (gl states 0).length → bZ t (fu t names states p) (bE 16) ≤ 100000 ∧ 0 ≤ bZ t (fu t names states p) (bE 16) ∧ gJ t (fu t names states p) (bE 16) = 0) := fun hf p hp => by
  have hv := lg hc ((Ck hc.nm ht).1 hf) hp
  exact ⟨DK hv, ny hv, hv.par⟩
 have HFD : Hid (kZ t names = true → ∀ j, j < (aj t.ns).length → ∃ b : Nat, gi (tM t names (aj t.ns).length) j = b ∧ b < names.length) := fun hf j hj => by
  have ho := (Ck hc.nm ht).1 hf
  obtain ⟨v, hv, zN, hv0⟩ := oB hj
  obtain ⟨b, hb, _, e⟩ := IG ho (show v < t.ps.length by omega) hv0
  exact ⟨b, by rw [Qa hj, hv, Int.toNat_natCast, e], hb⟩
 clear hP hN h hS aR hrb hz jR hc ht agr ag0 ag32 ag4 hok hp1 CX hnl hlv
 go_enter Tryz.func69, Tryz.ntmps69
 go_wp2_with fail
 generalize w.alloc (.cells #[.slice pp t.ps.length pc, .slice np t.ns.length nc] 39) = w1 at *
 refine mR.out.mono ?_
 rintro e w2 ⟨aG, pv, rfl, hpv⟩
 rw [HB.out] at hpv ⊢
 cases hfit : kZ t names
 ·have Cs : Hid (pU t names states = .tuple #[.int .i64 0, .int .i64 9]) := by unfold Hid; rw [HST.out, hfit]; rfl
  have ey : Hid (Ending.returned (.tuple #[.int .i64 0, .int .i64 9]) = Ending.returned (pU t names states) ∧ Up w w2) := ⟨by rw [Cs.out], bH.out.trans aG⟩
  clear hpv aG mR
  go_wp2_with fail
  go_ret2
  exact ey.out
 ·have hpi := hpv hfit
  obtain ⟨rp, rc, rfl, -, -⟩ := aB.open hpi
  rw [ve] at hpi
  rw [ve]
  have Xt := aa hpi
  have Cs : Hid (pU t names states = .tuple #[.int .i64 (bG t names states), .int .i64 0]) := by unfold Hid; rw [HST.out, hfit]; rfl
  have HVA2 := aa (HVA.out hfit)
  have HFD2 := aa (HFD.out hfit)
  have bw := aa (bH.out.trans aG)
  have qD := aa (Es.out.keep (aG.kept S))
  have lW := aa (jT.out.keep (aG.kept S))
  have HQ := aa (And.intro (aG.cell q0) (aG.cell q1))
  obtain ⟨sb, so, s0, s1, rfl, hc0, kB⟩ := iL lW.out Ci.out.1
  rw [Nat.add_zero] at hc0
  have i1 : (0 : Int) < (states.length : Int) := by have := Ci.out.1; omega
  clear hpv hpi aG mR Es jT HST HVA HFD q0 q1 kB bH
  go_wp2_with fail
  have Cv : Hid (∀ n : Nat, n ≤ (gl states 0).length → 0 ≤ aZ (fun p => bZ t (fu t names states p) (bE 16)) n ∧ aZ (fun p => bZ t (fu t names states p) (bE 16)) n ≤ 100000 * n) := fun n hn => zA fun p hp => by
   obtain ⟨h1, h2, _⟩ := HVA2.out p (by omega)
   exact ⟨h2, h1⟩
  have ur : Hid (∀ n : Nat, aZ (fun p => bZ t (fu t names states p) (bE 16)) (n + 1) = aZ (fun p => bZ t (fu t names states p) (bE 16)) n + bZ t (fu t names states n) (bE 16)) := fun n => rfl
  have HSX : Hid (bG t names states = aZ (fun p => bZ t (fu t names states p) (bE 16)) (gl states 0).length) := rfl
  generalize hF : (fun n => aZ (fun p => bZ t (fu t names states p) (bE 16)) n) = F at *
  have LM : ∀ n, aZ (fun p => bZ t (fu t names states p) (bE 16)) n = F n := fun n => by rw [← hF]
  have HF0 : Hid (F 0 = 0) := by unfold Hid; rw [← LM]; rfl
  have Cv : Hid (∀ n : Nat, n ≤ (gl states 0).length → 0 ≤ F n ∧ F n ≤ 100000 * n) := fun n hn => by rw [← LM]; exact Cv.out n hn
  have ur : Hid (∀ n : Nat, F (n + 1) = F n + bZ t (fu t names states n) (bE 16)) := fun n => by rw [← LM, ← LM]; exact ur.out n
  have HSX : Hid (bG t names states = F (gl states 0).length) := by unfold Hid; rw [← LM]; exact HSX.out
  clear hF LM
  go_loopw [10, 11, 12, 14, 15, 16, 29] (fun s _ _ _ _ _ i wr => ∃ n : Nat, n ≤ (gl states 0).length ∧ i = .int .i64 n ∧ s = .int .i64 (F n) ∧ Hid (Up w2 wr)) (fun _ _ _ _ _ _ i _ => (gl states 0).length - (intOf i).toNat)
  case atStart => exact ⟨0, Nat.zero_le _, rfl, by rw [HF0.out], Up.refl _⟩
  case round =>
   obtain ⟨n, hn, rfl, rfl, hU⟩ := hrel
   obtain ⟨wo, rfl⟩ : ∃ wo : World, wo = wr := ⟨_, rfl⟩
   by_cases hlt : n < (gl states 0).length
   ·have i2 : (n : Int) < ((gl states 0).length : Int) := by omega
    have i3 : (n : Int) < 4096 := by have := Ci.out.2.2; omega
    have i4 : (0 : Int) ≤ (n : Int) := by omega
    have uC := Cv.out n hn
    have hf2 := Cv.out (n + 1) hlt
    rw [ur.out n] at hf2
    obtain ⟨hv1, hv2, hv3⟩ := HVA2.out n hlt
    have HV := aa (And.intro uC (And.intro hf2 (And.intro hv1 (And.intro hv2 hv3))))
    have sG : Hid (aC wo.heap.size 3 wo (.slice none 0 0) ((nX t names (cN states n) 0).map (Value.int .i64)) ∧ Up wo wo) := ⟨aC.nil _ _ _, Up.refl _⟩
    clear uC hf2 hv1 hv2 hv3
    go_wp2_with fail
    go_loopw [12, 14, 34] (fun o _ i wr => ∃ j : Nat, j ≤ (aj t.ns).length ∧ i = .int .i64 j ∧ Hid (aC wo.heap.size 3 wr o ((nX t names (cN states n) j).map (Value.int .i64)) ∧ Up wo wr)) (fun _ _ i _ => (aj t.ns).length - (intOf i).toNat)
    case atStart => exact ⟨0, Nat.zero_le _, rfl, sG.out⟩
    case round =>
     obtain ⟨j, hj, rfl, hI⟩ := hrel
     obtain ⟨wi, rfl⟩ : ∃ wi : World, wi = wr := ⟨_, rfl⟩
     obtain ⟨hA, fE⟩ := hI.out
     by_cases hlj : j < (aj t.ns).length
     ·obtain ⟨b, hb1, hb2⟩ := HFD2.out j hlj
      obtain ⟨xb, xo, rfl, gM⟩ := cK (aq.keep Xt.out ((hU.out.trans fE).kept _)) (k := j) (by rw [ve]; exact hlj)
      rw [hb1] at gM
      have rI : b < states.length := by rw [Cu.out]; exact hb2
      obtain ⟨rb, ro, r0, r1, er, LN, hir⟩ := iL (aU.keep lW.out ((hU.out.trans fE).kept S)) rI
      injection er with er
      injection er with er1 er2
      subst er1; subst er2
      rw [(uY.out b rI).1] at LN
      obtain ⟨yb, yo, rfl, hcy⟩ := cK hir (k := n) (by rw [(uY.out b rI).1]; exact hlt)
      have gV : Hid ((nX t names (cN states n) (j + 1)).map (Value.int .i64) = (nX t names (cN states n) j).map (Value.int .i64) ++ [.int .i64 (gi (gl states b) n)]) := by
       unfold Hid
       have e2 : ir names (gs t.ns (gi (aj t.ns) j).toNat) = b := by rw [← Qa hlj]; exact hb1
       rw [PW, List.map_append, e2, Int.toNat_natCast, yO _ _ rI]; rfl
      have dG : Hid (((nX t names (cN states n) j).map (Value.int .i64)).length = j) := by unfold Hid; rw [List.length_map, o5]
      have HA := aa hA
      have Vm := aa fE
      have hsz := fE.size
      have k1 : (0 : Int) ≤ (j : Int) := by omega
      have k2 : (j : Int) < ((aj t.ns).length : Int) := by omega
      have k3 : (j : Int) < 64 := by have := xy.out; omega
      have k4 : (0 : Int) ≤ (b : Int) := by omega
      have k5 : (b : Int) < (states.length : Int) := by omega
      generalize gi (gl states b) n = y at *
      clear hI hA fE hlj hir hb1 hb2 rI
      go_wp2_with (at_builtin; refine tT wi rfl _ _ 26 rfl wo.heap.size 3 _ 8 Tryz.underlying26 Tryz.ki rfl (by decide) HA.out rfl _ rfl rfl j dG.out (by omega) hsz ?_; intro g cap w8 hown1 hg1 nI)
      have Jb : Hid (aC wo.heap.size 3 w8 (.slice (some ⟨g, 0, none⟩) (j + 1) cap) ((nX t names (cN states n) (j + 1)).map (Value.int .i64))) := by unfold Hid; rw [gV.out]; exact hown1
      have iX : Hid (Up wo w8) := Below.trans Vm.out nI
      clear hown1 hg1 nI
      go_roundw
      case rel => exact ⟨j + 1, by omega, by go_num, Jb.out, iX.out⟩
      case measure => simp [intOf]; omega
     ·obtain rfl : j = (aj t.ns).length := by omega
      obtain ⟨op, oc, rfl, -⟩ := hA.form (n := (aj t.ns).length) (by rw [List.length_map, o5])
      have HFT := aa (qf.out wi _ (.slice op (aj t.ns).length oc) (fu t names states n) (qD.out.keep ((hU.out.trans fE).kept S)) (hA.ints.sub fun _ _ _ => trivial) (by unfold fu; rw [o5]; exact xy.out))
      have q0 := (hU.out.trans fE).cell HQ.out.1
      have q1 := (hU.out.trans fE).cell HQ.out.2
      have HUi := aa (hU.out.trans fE)
      have BI := aa (ur.out n)
      clear hI hA fE hlj hj
      obtain ⟨uC, hf2, hv1, hv2, hv3⟩ := HV.out
      have HV3 := aa hv3
      clear hv3
      generalize F n = fn at *
      go_wp2_with fail
      refine HFT.out.mono ?_
      rintro e w9 ⟨iH, rfl⟩
      have ox := aa (HUi.out.trans iH)
      rw [HV3.out]
      clear iH HFT
      generalize bZ t (fu t names states n) (bE 16) = z at *
      have hb9 : fn + z ≤ 409600000 ∧ 0 ≤ fn + z := by constructor <;> omega
      go_wp2_with fail
      go_roundw
      case rel => exact ⟨n + 1, by omega, by go_num, by rw [BI.out], ox.out⟩
      case measure => simp [intOf]; omega
   ·obtain rfl : n = (gl states 0).length := by omega
    have ey : Hid (Ending.returned (.tuple #[.int .i64 (F (gl states 0).length), .int .i64 0]) = Ending.returned (pU t names states) ∧ Up w wo) := ⟨by rw [Cs.out, HSX.out], bw.out.trans hU.out⟩
    clear hlt
    go_wp2_with fail
    go_ret2
    exact ey.out
end
section
open Go.RowKit Go.Deep
structure qi (lo : Nat) (w w2 wr : World) (tv : Value) (L : List ByteArray) : Prop where
 up : Up w wr
 sz : w.heap.size ≤ lo ∧ lo ≤ w2.heap.size ∧ w2.heap.size ≤ wr.heap.size
 own : aC w.heap.size 9 wr tv (L.map Value.string)
 blk : ∀ b, tv.ownBlock = some b → b < lo ∨ w2.heap.size ≤ b
 keep : ∀ b, lo ≤ b → b < w2.heap.size → wr.heap[b]? = w2.heap[b]?
section
variable {lo : Nat} {w w2 wr W : World} {tv : Value} {L : List ByteArray} {s : ByteArray} {g cap k j : Nat}
theorem qi.next (h : qi lo w w2 wr tv L) (hu : Up wr W) : qi lo w w2 W tv L := by
 obtain ⟨z1, z2, z3⟩ := h.sz
 exact ⟨h.up.trans hu, ⟨z1, z2, Nat.le_trans z3 hu.size⟩, h.own.eD fun b hb => Below.block hu b (aF h.own hb).2, h.blk, fun b h1 h2 => (Below.block hu b (by omega)).trans (h.keep b h1 h2)⟩
theorem qi.app (h : qi lo w w2 wr tv L) (ho : aC w.heap.size 9 W (.slice (some ⟨g, 0, none⟩) k cap) (L.map Value.string ++ [.string s])) (hg : wr.grownBy W tv.ownBlock) (ep : tv.ownBlock = some g ∨ wr.heap.size ≤ g) : qi lo w w2 W (.slice (some ⟨g, 0, none⟩) k cap) (L ++ [s]) := by
 have hlo := fun b hb => (aF h.own (b := b) hb)
 obtain ⟨z1, z2, z3⟩ := h.sz
 refine ⟨⟨hg.os.trans h.up.os, hg.tape.trans h.up.tape, hg.output.trans h.up.output, Nat.le_trans h.up.size hg.size, fun b hb => ?_⟩, ⟨z1, z2, Nat.le_trans z3 hg.size⟩, by rw [List.map_append]; exact ho, fun b hb => ?_, fun b h1 h2 => ?_⟩
 ·have := h.up.size
  exact (hg.block b (by omega) fun e => by have := (hlo b e.symm).1; omega).trans (h.up.block b hb)
 ·have hb : some g = some b := hb
  injection hb with hb
  subst hb
  rcases ep with e | e
  ·exact h.blk g e
  ·exact .inr (Nat.le_trans z3 e)
 ·refine (hg.block b (by omega) fun e => ?_).trans (h.keep b h1 h2)
  rcases h.blk b e.symm with e | e <;> omega
theorem qi.set (h : qi lo w w2 wr tv L) (hj : j < L.length) : ∃ g cap, tv = .slice (some ⟨g, 0, none⟩) L.length cap ∧ wr.cell? ⟨g, j, none⟩ = some (.string (gs L j)) ∧ wr.frozen? ⟨g, j, none⟩ = false ∧ ∀ x, qi lo w w2 (wr.setCell ⟨g, j, none⟩ (.string x)) tv (L.set j x) := by
 obtain ⟨g, cap, e, h1, h2, h3, h4, h5⟩ := h.own.set (j := j) (by rw [List.length_map]; exact hj)
 have hgd : (L.map Value.string).getD j undef = .string (gs L j) := by simp [gs, hj]
 rw [hgd] at h3
 rw [List.length_map] at e
 refine ⟨g, cap, e, h3, h4, fun x => ?_⟩
 have cw : ∀ b, b ≠ g → (wr.setCell ⟨g, j, none⟩ (.string x)).heap[b]? = wr.heap[b]? := fun b hb => blk_setCell_other _ _ _ _ hb
 have hbk : g < lo ∨ w2.heap.size ≤ g := h.blk g (by rw [e]; rfl)
 obtain ⟨z1, z2, z3⟩ := h.sz
 refine ⟨Below.setCell (p := ⟨g, j, none⟩) h.up h1 _, ⟨z1, z2, by rw [World.size_setCell]; exact z3⟩, ?_, h.blk, fun b q1 q2 => (cw b (by omega)).trans (h.keep b q1 q2)⟩
 have h6 := h5 (.string x)
 rw [← List.map_set] at h6
 exact h6
theorem qi.strs {v : Value} {T : List ByteArray} (h : qi lo w w2 wr tv L) (hT : ah (fun b => lo ≤ b ∧ b < w2.heap.size) w2 v T) : ah (fun b => lo ≤ b ∧ b < w2.heap.size) wr v T := ah.keep hT fun b hb _ => h.keep b hb.1 hb.2
end
def sP (xs : List ByteArray) (k : Nat) (j : ByteArray) : List ByteArray := xs.take k ++ j :: xs.drop k
theorem Jg {xs : List ByteArray} {k : Nat} {j : ByteArray} : (sP xs k j).length = xs.length + 1 := by
 unfold sP
 rw [List.length_append, List.length_cons, List.length_take, List.length_drop]
 omega
theorem Ta (xs : List ByteArray) (s : ByteArray) : xs ++ [s] = sP xs xs.length s := by unfold sP; simp
theorem Wz {xs : List ByteArray} {k : Nat} {j : ByteArray} (h0 : 0 < k) (hk : k ≤ xs.length) : gs (sP xs k j) (k - 1) = gs xs (k - 1) := by
 unfold sP gs
 rw [List.getD_eq_getElem?_getD, List.getD_eq_getElem?_getD, List.getElem?_append_left (by rw [List.length_take]; omega), List.getElem?_take_of_lt (by omega)]
theorem Qf {xs : List ByteArray} {k : Nat} {j s : ByteArray} (hk : k ≤ xs.length) : (sP xs k j).set k s = sP xs k s := by
 unfold sP
 rw [List.set_append, if_neg (by rw [List.length_take]; omega)]
 have : k - (xs.take k).length = 0 := by rw [List.length_take]; omega
 rw [this]; rfl
theorem Tb {xs : List ByteArray} {k : Nat} {j : ByteArray} (h0 : 0 < k) (hk : k ≤ xs.length) : (sP xs k j).set k (gs xs (k - 1)) = sP xs (k - 1) (gs xs (k - 1)) := by
 rw [Qf hk]
 unfold sP
 obtain ⟨m, rfl⟩ : ∃ m, k = m + 1 := ⟨k - 1, by omega⟩
 have hg : gs xs (m + 1 - 1) = xs[m] := by simp [gs, show m < xs.length by omega]
 have hd : xs.drop m = xs[m] :: xs.drop (m + 1) := List.drop_eq_getElem_cons (by omega)
 rw [hg, Nat.add_sub_cancel, List.take_succ_eq_append_getElem (by omega), List.append_assoc, ← hd]; rfl
end
end Go.Proofs.YthgabkgmkolobaaGreat
