/- The reference's reader of texts, plain: it reads what the machine of Parse reads. .. -/
import Derived.Test.YteegefnjnikngaaGreatQ1
import Derived.Test.YteegefnjnikngaaGreatQ30
import Derived.Test.YteegefnjnikngaaGreatQ41
set_option maxRecDepth 100000
namespace Go.Proofs.YteegefnjnikngaaGreat
section
def nmLen : List UInt8 → Nat
 | [] => 0
 | c :: s => if c ∈ bu then 0 else nmLen s + 1
theorem xV : ∀ s : List UInt8, nmLen s ≤ s.length
 | [] => Nat.le_refl _
 | c :: s => by
  rw [nmLen, List.length_cons]
  have := xV s
  split <;> omega
theorem zn : ∀ (s : List UInt8), ∀ c ∈ s.take (nmLen s), c ∉ bu
 | [], c, h => by simp at h
 | d :: s, c, h => by
  rw [nmLen] at h
  split at h
  ·simp at h
  ·rw [List.take_succ_cons, List.mem_cons] at h
   rcases h with rfl | h
   ·assumption
   ·exact zn s c h
theorem B6 : ∀ (n : List UInt8) (d : UInt8) (s : List UInt8), (∀ c ∈ n, c ∉ bu) → d ∈ bu → nmLen (n ++ d :: s) = n.length
 | [], d, s, _, hd => by rw [List.nil_append, nmLen, if_pos hd]; rfl
 | c :: n, d, s, h, hd => by
  rw [List.cons_append, nmLen, if_neg (h c (by simp)), B6 n d s (fun x hx => h x (by simp [hx])) hd]; rfl
mutual
def rdN : Nat → List UInt8 → Option (RT × List UInt8)
 | 0, _ => none
 | _ + 1, [] => none
 | f + 1, c :: s => if c = 40 then rdK f [] s else if nmLen (c :: s) = 0 then none else some (.node ⟨((c :: s).take (nmLen (c :: s))).toArray⟩ [], (c :: s).drop (nmLen (c :: s)))
def rdK : Nat → List RT → List UInt8 → Option (RT × List UInt8)
 | 0, _, _ => none
 | f + 1, ks, s => match rdN f s with
  | none => none
  | some (_, []) => none
  | some (k, d :: s2) => if d = 41 then some (.node ByteArray.empty (ks ++ [k]), s2) else if d = 44 then rdK f (ks ++ [k]) s2 else none
end
mutual
theorem vU : ∀ (f : Nat) (s : List UInt8) (r : RT) (l : List UInt8), rdN f s = some (r, l) → l.length < s.length
 | 0, s, r, l, h => by rw [rdN] at h; cases h
 | f + 1, [], r, l, h => by rw [rdN] at h; cases h
 | f + 1, c :: s, r, l, h => by
  rw [rdN] at h
  split at h
  ·have := G7 f [] s r l h
   rw [List.length_cons]; omega
  ·split at h
   ·cases h
   ·injection h with h
    injection h with h1 h2
    subst h2
    rw [List.length_drop]
    have := xV (c :: s)
    rw [List.length_cons] at this ⊢
    omega
theorem G7 : ∀ (f : Nat) (ks : List RT) (s : List UInt8) (r : RT) (l : List UInt8), rdK f ks s = some (r, l) → l.length < s.length
 | 0, ks, s, r, l, h => by rw [rdK] at h; cases h
 | f + 1, ks, s, r, l, h => by
  rw [rdK] at h
  split at h
  ·cases h
  ·cases h
  ·rename_i k d s2 e
   have h1 := vU f s k (d :: s2) e
   rw [List.length_cons] at h1
   split at h
   ·injection h with h
    injection h with _ h
    subst h; omega
   ·split at h
    ·have := G7 f _ s2 r l h
     omega
    ·cases h
end
theorem Ab : ∀ (f g : Nat), (∀ s : List UInt8, 2 * s.length < f → 2 * s.length < g → rdN f s = rdN g s) ∧ (∀ (ks : List RT) (s : List UInt8), 2 * s.length + 1 < f → 2 * s.length + 1 < g → rdK f ks s = rdK g ks s)
 | 0, _ => ⟨fun s h => by omega, fun ks s h => by omega⟩
 | f + 1, 0 => ⟨fun s _ h => by omega, fun ks s _ h => by omega⟩
 | f + 1, g + 1 => by
  obtain ⟨h1, h2⟩ := Ab f g
  refine ⟨fun s a b => ?_, fun ks s a b => ?_⟩
  ·cases s with
   | nil => rw [rdN, rdN]
   | cons c s =>
    rw [List.length_cons] at a b
    rw [rdN, rdN]
    split
    ·exact h2 [] s (by omega) (by omega)
    ·rfl
  ·rw [rdK, rdK, h1 s (by omega) (by omega)]
   cases e : rdN g s with
   | none => rfl
   | some q =>
    obtain ⟨k, l⟩ := q
    cases l with
    | nil => rfl
    | cons d s2 =>
     have := vU g s k _ e
     rw [List.length_cons] at this
     show (if d = 41 then _ else if d = 44 then _ else _) = (if d = 41 then _ else if d = 44 then _ else _)
     split
     ·rfl
     ·split
      ·exact h2 _ _ (by omega) (by omega)
      ·rfl
def eN (s : List UInt8) : Option (RT × List UInt8) := rdN (2 * s.length + 1) s
def pU (ks : List RT) (s : List UInt8) : Option (RT × List UInt8) := rdK (2 * s.length + 2) ks s
theorem E6 (s : List UInt8) : eN (40 :: s) = pU [] s := by
 unfold eN pU
 rw [rdN, if_pos rfl]
 exact (Ab _ _).2 _ _ (by simp; omega) (by simp)
theorem fL {c : UInt8} (s : List UInt8) (h : c ≠ 40) : eN (c :: s) = if nmLen (c :: s) = 0 then none else some (.node ⟨((c :: s).take (nmLen (c :: s))).toArray⟩ [], (c :: s).drop (nmLen (c :: s))) := by
 unfold eN
 rw [rdN, if_neg h]
theorem E7 (ks : List RT) (s : List UInt8) : pU ks s = match eN s with
  | none => none
  | some (_, []) => none
  | some (k, d :: s2) => if d = 41 then some (.node ByteArray.empty (ks ++ [k]), s2) else if d = 44 then pU (ks ++ [k]) s2 else none := by
 unfold pU eN
 rw [rdK]
 cases e : rdN (2 * s.length + 1) s with
 | none => rfl
 | some q =>
  obtain ⟨k, l⟩ := q
  cases l with
  | nil => rfl
  | cons d s2 =>
   have := vU _ s k _ e
   rw [List.length_cons] at this
   show (if d = 41 then _ else if d = 44 then _ else _) = (if d = 41 then _ else if d = 44 then _ else _)
   split
   ·rfl
   ·split
    ·exact (Ab _ _).2 _ _ (by omega) (by omega)
    ·rfl
theorem Ac : ∀ (f : Nat), (∀ (s : List UInt8) (r : RT) (l : List UInt8), rdN f s = some (r, l) → s = txR r ++ l ∧ jr r) ∧ (∀ (ks : List RT) (s : List UInt8) (r : RT) (l : List UInt8), rdK f ks s = some (r, l) → ∃ k uP, r = .node ByteArray.empty (ks ++ k :: uP) ∧ s = txR k ++ txRs uP ++ 41 :: l ∧ ∀ q ∈ k :: uP, jr q)
 | 0 => ⟨fun s r l h => (by rw [rdN] at h; cases h), fun ks s r l h => (by rw [rdK] at h; cases h)⟩
 | f + 1 => by
  obtain ⟨h1, h2⟩ := Ac f
  refine ⟨fun s r l h => ?_, fun ks s r l h => ?_⟩
  ·cases s with
   | nil => rw [rdN] at h; cases h
   | cons c s =>
    rw [rdN] at h
    split at h
    ·rename_i hc
     obtain ⟨k, uP, rfl, h4, h5⟩ := h2 [] s r l h
     refine ⟨?_, Ei rfl (by simp) (by simpa using h5)⟩
     rw [List.nil_append, txR, hc, h4]; simp
    ·split at h
     ·cases h
     ·rename_i hc hn
      injection h with h
      injection h with h3 h4
      subst h3; subst h4
      refine ⟨by rw [txR, List.take_append_drop], Ej ?_ (by simpa using zn (c :: s))⟩
      show List.take _ _ ≠ []
      intro e
      have := congrArg List.length e
      rw [List.length_take] at this
      have h5 := xV (c :: s)
      simp only [List.length_nil] at this
      omega
  ·rw [rdK] at h
   split at h
   ·cases h
   ·cases h
   ·rename_i k d s2 e
    obtain ⟨h3, h4⟩ := h1 s k _ e
    split at h
    ·rename_i hd
     injection h with h
     injection h with h5 h6
     subst h5; subst h6
     exact ⟨k, [], rfl, by rw [h3, hd, txRs]; simp, by simpa using h4⟩
    ·split at h
     ·rename_i _ hd
      obtain ⟨k2, uP, rfl, h6, h7⟩ := h2 _ _ _ _ h
      refine ⟨k, k2 :: uP, by simp, ?_, fun q hq => ?_⟩
      ·rw [h3, hd, h6, txRs]; simp
      ·rcases List.mem_cons.1 hq with rfl | hq
       ·exact h4
       ·exact h7 q hq
     ·cases h
mutual
theorem E8 : ∀ (r : RT), jr r → ∀ (d : UInt8) (s : List UInt8), d ∈ bu → eN (txR r ++ d :: s) = some (r, d :: s)
 | .node nm [], h, d, s, hd => by
  obtain ⟨_, h1⟩ := h _ (by rw [subR]; exact List.mem_cons_self)
  obtain ⟨h1, h2⟩ := h1 rfl
  have h1 : nm.data.toList ≠ [] := h1
  have h2 : ∀ c ∈ nm.data.toList, c ∉ bu := h2
  rw [txR]
  cases hn : nm.data.toList with
  | nil => exact absurd hn h1
  | cons c n =>
   rw [hn] at h2
   have hc : c ≠ 40 := fun e => h2 c (by simp) (by rw [e]; decide)
   have hl := B6 (c :: n) d s h2 hd
   rw [List.cons_append] at hl ⊢
   rw [fL _ hc, hl, if_neg (by simp), ← List.cons_append, List.take_left, List.drop_left]
   have e : (⟨(c :: n).toArray⟩ : ByteArray) = nm := dH (by rw [hn])
   rw [e]
 | .node nm (k :: ks), h, d, s, hd => by
  obtain ⟨h1, _⟩ := h _ (by rw [subR]; exact List.mem_cons_self)
  have h1 : nm = ByteArray.empty := Ek (h1 (by simp [RT.kids]))
  have e : txR k ++ txRs ks ++ [41] ++ d :: s = (txR k ++ txRs ks) ++ 41 :: (d :: s) := by simp
  rw [txR, List.cons_append, E6, e, h1]
  exact LS (k :: ks) (by simp) (fun q hq => og h hq) [] (d :: s)
theorem LS : ∀ (qs : List RT), qs ≠ [] → (∀ q ∈ qs, jr q) → ∀ (Z : List RT) (s : List UInt8), pU Z ((match qs with | [] => [] | k :: ks => txR k ++ txRs ks) ++ 41 :: s) = some (.node ByteArray.empty (Z ++ qs), s)
 | [], h, _, _, _ => absurd rfl h
 | [k], _, h, Z, s => by
  show pU Z ((txR k ++ txRs []) ++ 41 :: s) = _
  rw [E7, txRs, List.append_nil, E8 k (h k (by simp)) 41 s (by decide)]
  rfl
 | k :: k2 :: ks, _, h, Z, s => by
  have e : (txR k ++ txRs (k2 :: ks)) ++ 41 :: s = txR k ++ 44 :: (txR k2 ++ txRs ks ++ 41 :: s) := by rw [txRs]; simp
  have ih := LS (k2 :: ks) (by simp) (fun q hq => h q (by simp [hq])) (Z ++ [k]) s
  show pU Z ((txR k ++ txRs (k2 :: ks)) ++ 41 :: s) = _
  rw [e, E7, E8 k (h k (by simp)) 44 _ (by decide)]
  show (if (44 : UInt8) = 41 then _ else if (44 : UInt8) = 44 then pU (Z ++ [k]) (txR k2 ++ txRs ks ++ 41 :: s) else none) = _
  rw [if_neg (by decide), if_pos rfl]
  have ih : pU (Z ++ [k]) (txR k2 ++ txRs ks ++ 41 :: s) = _ := ih
  rw [ih]; simp
end
theorem Ad {s : List UInt8} {r : RT} : eN s = some (r, [59]) ↔ gH s = some r := by
 constructor
 ·intro h
  obtain ⟨h1, h2⟩ := (Ac _).1 s r [59] h
  rw [h1]; exact rL h2
 ·intro h
  obtain ⟨h1, h2⟩ := BM h
  rw [h1]; exact E8 r h2 59 [] (by decide)
theorem E9 {s : List UInt8} {r : RT} {l : List UInt8} (h : eN s = some (r, l)) : aG r ≤ s.length := by
 obtain ⟨h1, h2⟩ := (Ac _).1 s r l h
 have := (vP r h2).1
 rw [h1, List.length_append]; omega
end
section
open Go.RowKit Go.Deep
def qE (t : av) (names : List ByteArray) (states : List (List Int)) : Value := .tuple #[.int .i64 (if nB t names then dY t names states else 0), .int .i64 (if nB t names then 0 else 9)]
theorem rX {f : Nat → Int} : ∀ {n : Nat}, (∀ p, p < n → 0 ≤ f p ∧ f p ≤ 100000) → 0 ≤ bw f n ∧ bw f n ≤ 100000 * n
 | 0, _ => ⟨Int.le_refl _, Int.le_refl _⟩
 | n + 1, h => by
  have h1 := rX (f := f) (n := n) fun p hp => h p (by omega)
  have h2 := h n (by omega)
  rw [dV]
  omega
theorem zo {states : List (List Int)} (h : bU states = 0) : states.length ≤ 32 ∧ (gl states 0).length ≤ 4096 := by
 unfold bU at h
 split at h
 ·cases h
 ·split at h
  ·cases h
  ·rename_i h1; omega
set_option maxHeartbeats 800000 in
theorem LU (S : Nat → Prop) (w : World) (v vn vs : Value) (t : av) (names : List ByteArray) (states : List (List Int)) (hT : ay S w v t) (ht : aB t = 0) (hz : ∀ k, (gs t.ns k).size ≤ 70000) (h : au S w vn names) (hS : aX S w vs states) (hc : xT names states) :
  Calls Tryz.prog 74 #[v, vn, vs] w fun e w' => e = .returned (qE t names states) ∧ Up w w' := by
 obtain ⟨hp1, zL, hnl, hok, -⟩ := aI ht
 have hlv := qK t.ns
 obtain ⟨P, N, rfl, hP, hN⟩ := hT
 obtain ⟨np, nc, rfl, -, -⟩ := aA.open hN
 have hN : au S w (.slice np t.ns.length nc) t.ns := hN
 obtain ⟨pp, pc, rfl, -, -⟩ := aA.open hP
 have hP : ax S w (.slice pp t.ps.length pc) t.ps := hP
 obtain ⟨mp, mc, rfl, -, -⟩ := aA.open h
 have h : au S w (.slice mp names.length mc) names := h
 obtain ⟨sp, sc, rfl, -, -⟩ := eD hS
 obtain ⟨Z6, Z7⟩ := Cu hc.ag
 obtain ⟨VI, Z8⟩ := zo hc.ag
 have aS : Up w (w.alloc (.cells #[.slice pp t.ps.length pc, .slice np t.ns.length nc] 39)) := Up.alloc _ _
 have hrb := fW (w := w) (P := .slice pp t.ps.length pc) (N := .slice np t.ns.length nc) (T := 39)
 obtain ⟨q0, q1, -, -⟩ := boxed hrb
 have iL : ay S (w.alloc (.cells #[.slice pp t.ps.length pc, .slice np t.ns.length nc] 39)) (.agg #[.slice pp t.ps.length pc, .slice np t.ns.length nc]) t := ⟨_, _, rfl, ax.keep hP (aS.kept S), au.keep hN (aS.kept S)⟩
 have kK := aa (Oy S (w.alloc (.cells #[.slice pp t.ps.length pc, .slice np t.ns.length nc] 39)) _ _ t names iL (by omega) (by omega) hz (au.keep h (aS.kept S)) (by have := hc.nm.hi; omega))
 have uI := aa iL
 have jY := aa (aX.keep hS (aS.kept S))
 have bF := aa aS
 have HB : Hid (tL t names = nB t names) := by unfold Hid tL; rw [decide_eq_true ht]; rfl
 have ng : Hid (∀ W v u st, ay S W v t → ax Any W u st → st.length ≤ 64 → Calls Tryz.prog 134 #[v, u] W (LO W t st)) := fun W v u st h1 h2 h3 => Rm Any W v u t st (h1.sub fun _ _ _ => trivial) h2 (by omega) (by omega) hz (by omega)
 have rS := aa Z7
 have zb := aa (And.intro Z6 (And.intro VI Z8))
 have E1 : Hid ((aC t.ns).length ≤ 64) := by unfold Hid; omega
 have G8 := aa hc.len
 have HST : Hid (qE t names states = .tuple #[.int .i64 (if nB t names then dY t names states else 0), .int .i64 (if nB t names then 0 else 9)]) := rfl
 have Z9 : Hid (nB t names = true → ∀ p, p < (gl states 0).length → cw t (iH t names states p) (bM 16) ≤ 100000 ∧ 0 ≤ cw t (iH t names states p) (bM 16) ∧ fo t (iH t names states p) (bM 16) = 0) := fun hf p hp => by
  have hv := vh hc ((EP hc.nm ht).1 hf) hp
  exact ⟨Ap hv, tZ hv, hv.par⟩
 have HFD : Hid (nB t names = true → ∀ j, j < (aC t.ns).length → ∃ b : Nat, gi (qB t names (aC t.ns).length) j = b ∧ b < names.length) := fun hf j hj => by
  have ho := (EP hc.nm ht).1 hf
  obtain ⟨v, hv, wE, hv0⟩ := r9 hj
  obtain ⟨b, hb, _, e⟩ := LI ho (show v < t.ps.length by omega) hv0
  exact ⟨b, by rw [LN hj, hv, Int.toNat_natCast, e], hb⟩
 clear hP hN h hS aS hrb hz iL hc ht Z7 Z6 VI Z8 hok hp1 zL hnl hlv
 go_enter Tryz.func74, Tryz.ntmps74
 go_wp2_with fail
 generalize w.alloc (.cells #[.slice pp t.ps.length pc, .slice np t.ns.length nc] 39) = w1 at *
 refine kK.out.mono ?_
 rintro e w2 ⟨aF, pv, rfl, hpv⟩
 rw [HB.out] at hpv ⊢
 cases hfit : nB t names
 ·have zm : Hid (qE t names states = .tuple #[.int .i64 0, .int .i64 9]) := by unfold Hid; rw [HST.out, hfit]; rfl
  have dS : Hid (Ending.returned (.tuple #[.int .i64 0, .int .i64 9]) = Ending.returned (qE t names states) ∧ Up w w2) := ⟨by rw [zm.out], bF.out.trans aF⟩
  clear hpv aF kK
  go_wp2_with fail
  go_ret2
  exact dS.out
 ·have hpi := hpv hfit
  obtain ⟨rp, rc, rfl, -, -⟩ := aA.open hpi
  rw [rU] at hpi
  rw [rU]
  have Si := aa hpi
  have zm : Hid (qE t names states = .tuple #[.int .i64 (dY t names states), .int .i64 0]) := by unfold Hid; rw [HST.out, hfit]; rfl
  have VJ := aa (Z9.out hfit)
  have HFD2 := aa (HFD.out hfit)
  have bE := aa (bF.out.trans aF)
  have mP := aa (uI.out.keep (aF.kept S))
  have jM := aa (jY.out.keep (aF.kept S))
  have HQ := aa (And.intro (aF.cell q0) (aF.cell q1))
  obtain ⟨sb, so, s0, s1, rfl, hc0, iq⟩ := fA jM.out zb.out.1
  rw [Nat.add_zero] at hc0
  have i1 : (0 : Int) < (states.length : Int) := by have := zb.out.1; omega
  clear hpv hpi aF kK uI jY HST Z9 HFD q0 q1 iq bF
  go_wp2_with fail
  have Fa : Hid (∀ n : Nat, n ≤ (gl states 0).length → 0 ≤ bw (fun p => cw t (iH t names states p) (bM 16)) n ∧ bw (fun p => cw t (iH t names states p) (bM 16)) n ≤ 100000 * n) := fun n hn => rX fun p hp => by
   obtain ⟨h1, h2, _⟩ := VJ.out p (by omega)
   exact ⟨h2, h1⟩
  have rj : Hid (∀ n : Nat, bw (fun p => cw t (iH t names states p) (bM 16)) (n + 1) = bw (fun p => cw t (iH t names states p) (bM 16)) n + cw t (iH t names states n) (bM 16)) := fun n => rfl
  have VK : Hid (dY t names states = bw (fun p => cw t (iH t names states p) (bM 16)) (gl states 0).length) := rfl
  generalize hF : (fun n => bw (fun p => cw t (iH t names states p) (bM 16)) n) = F at *
  have G9 : ∀ n, bw (fun p => cw t (iH t names states p) (bM 16)) n = F n := fun n => by rw [← hF]
  have HF0 : Hid (F 0 = 0) := by unfold Hid; rw [← G9]; rfl
  have Fa : Hid (∀ n : Nat, n ≤ (gl states 0).length → 0 ≤ F n ∧ F n ≤ 100000 * n) := fun n hn => by rw [← G9]; exact Fa.out n hn
  have rj : Hid (∀ n : Nat, F (n + 1) = F n + cw t (iH t names states n) (bM 16)) := fun n => by rw [← G9, ← G9]; exact rj.out n
  have VK : Hid (dY t names states = F (gl states 0).length) := by unfold Hid; rw [← G9]; exact VK.out
  clear hF G9
  go_loopw [10, 11, 12, 14, 15, 16, 29] (fun s _ _ _ _ _ i wr => ∃ n : Nat, n ≤ (gl states 0).length ∧ i = .int .i64 n ∧ s = .int .i64 (F n) ∧ Hid (Up w2 wr)) (fun _ _ _ _ _ _ i _ => (gl states 0).length - (intOf i).toNat)
  case atStart => exact ⟨0, Nat.zero_le _, rfl, by rw [HF0.out], Up.refl _⟩
  case round =>
   obtain ⟨n, hn, rfl, rfl, hU⟩ := hrel
   obtain ⟨wo, rfl⟩ : ∃ wo : World, wo = wr := ⟨_, rfl⟩
   by_cases hlt : n < (gl states 0).length
   ·have i2 : (n : Int) < ((gl states 0).length : Int) := by omega
    have i3 : (n : Int) < 4096 := by have := zb.out.2.2; omega
    have i4 : (0 : Int) ≤ (n : Int) := by omega
    have rD := Fa.out n hn
    have hf2 := Fa.out (n + 1) hlt
    rw [rj.out n] at hf2
    obtain ⟨VL, hv2, hv3⟩ := VJ.out n hlt
    have HV := aa (And.intro rD (And.intro hf2 (And.intro VL (And.intro hv2 hv3))))
    have vq : Hid (az wo.heap.size 3 wo (.slice none 0 0) ((lQ t names (bh states n) 0).map (Value.int .i64)) ∧ Up wo wo) := ⟨az.nil _ _ _, Up.refl _⟩
    clear rD hf2 VL hv2 hv3
    go_wp2_with fail
    go_loopw [12, 14, 34] (fun o _ i wr => ∃ j : Nat, j ≤ (aC t.ns).length ∧ i = .int .i64 j ∧ Hid (az wo.heap.size 3 wr o ((lQ t names (bh states n) j).map (Value.int .i64)) ∧ Up wo wr)) (fun _ _ i _ => (aC t.ns).length - (intOf i).toNat)
    case atStart => exact ⟨0, Nat.zero_le _, rfl, vq.out⟩
    case round =>
     obtain ⟨j, hj, rfl, hI⟩ := hrel
     obtain ⟨wi, rfl⟩ : ∃ wi : World, wi = wr := ⟨_, rfl⟩
     obtain ⟨hA, en⟩ := hI.out
     by_cases hlj : j < (aC t.ns).length
     ·obtain ⟨b, hb1, hb2⟩ := HFD2.out j hlj
      obtain ⟨xb, xo, rfl, lT⟩ := dQ (ax.keep Si.out ((hU.out.trans en).kept _)) (k := j) (by rw [rU]; exact hlj)
      rw [hb1] at lT
      have oC : b < states.length := by rw [G8.out]; exact hb2
      obtain ⟨rb, ro, r0, r1, er, LV, hir⟩ := fA (aX.keep jM.out ((hU.out.trans en).kept S)) oC
      injection er with er
      injection er with LW LX
      subst LW; subst LX
      rw [(rS.out b oC).1] at LV
      obtain ⟨yb, yo, rfl, hcy⟩ := dQ hir (k := n) (by rw [(rS.out b oC).1]; exact hlt)
      have fH : Hid ((lQ t names (bh states n) (j + 1)).map (Value.int .i64) = (lQ t names (bh states n) j).map (Value.int .i64) ++ [.int .i64 (gi (gl states b) n)]) := by
       unfold Hid
       have e2 : gJ names (gs t.ns (gi (aC t.ns) j).toNat) = b := by rw [← LN hlj]; exact hb1
       rw [LH, List.map_append, e2, Int.toNat_natCast, zg _ _ oC]; rfl
      have dW : Hid (((lQ t names (bh states n) j).map (Value.int .i64)).length = j) := by unfold Hid; rw [List.length_map, pM]
      have HA := aa hA
      have Qh := aa en
      have hsz := en.size
      have k1 : (0 : Int) ≤ (j : Int) := by omega
      have k2 : (j : Int) < ((aC t.ns).length : Int) := by omega
      have k3 : (j : Int) < 64 := by have := E1.out; omega
      have k4 : (0 : Int) ≤ (b : Int) := by omega
      have k5 : (b : Int) < (states.length : Int) := by omega
      generalize gi (gl states b) n = y at *
      clear hI hA en hlj hir hb1 hb2 oC
      go_wp2_with (at_builtin; refine qN wi rfl _ _ 26 rfl wo.heap.size 3 _ 8 Tryz.underlying26 Tryz.jx rfl (by decide) HA.out rfl _ rfl rfl j dW.out (by omega) hsz ?_; intro g cap w8 hown1 hg1 lu)
      have wX : Hid (az wo.heap.size 3 w8 (.slice (some ⟨g, 0, none⟩) (j + 1) cap) ((lQ t names (bh states n) (j + 1)).map (Value.int .i64))) := by unfold Hid; rw [fH.out]; exact hown1
      have mZ : Hid (Up wo w8) := Below.trans Qh.out lu
      clear hown1 hg1 lu
      go_roundw
      case rel => exact ⟨j + 1, by omega, by go_num, wX.out, mZ.out⟩
      case measure => simp [intOf]; omega
     ·obtain rfl : j = (aC t.ns).length := by omega
      obtain ⟨op, oc, rfl, -⟩ := hA.form (n := (aC t.ns).length) (by rw [List.length_map, pM])
      have HFT := aa (ng.out wi _ (.slice op (aC t.ns).length oc) (iH t names states n) (mP.out.keep ((hU.out.trans en).kept S)) (hA.ints.sub fun _ _ _ => trivial) (by unfold iH; rw [pM]; exact E1.out))
      have q0 := (hU.out.trans en).cell HQ.out.1
      have q1 := (hU.out.trans en).cell HQ.out.2
      have VM := aa (hU.out.trans en)
      have ux := aa (rj.out n)
      clear hI hA en hlj hj
      obtain ⟨rD, hf2, VL, hv2, hv3⟩ := HV.out
      have HV3 := aa hv3
      clear hv3
      generalize F n = fn at *
      go_wp2_with fail
      refine HFT.out.mono ?_
      rintro e w9 ⟨qy, rfl⟩
      have Qk := aa (VM.out.trans qy)
      rw [HV3.out]
      clear qy HFT
      generalize cw t (iH t names states n) (bM 16) = z at *
      have hb9 : fn + z ≤ 409600000 ∧ 0 ≤ fn + z := by constructor <;> omega
      go_wp2_with fail
      go_roundw
      case rel => exact ⟨n + 1, by omega, by go_num, by rw [ux.out], Qk.out⟩
      case measure => simp [intOf]; omega
   ·obtain rfl : n = (gl states 0).length := by omega
    have dS : Hid (Ending.returned (.tuple #[.int .i64 (F (gl states 0).length), .int .i64 0]) = Ending.returned (qE t names states) ∧ Up w wo) := ⟨by rw [zm.out, VK.out], bE.out.trans hU.out⟩
    clear hlt
    go_wp2_with fail
    go_ret2
    exact dS.out
end
end Go.Proofs.YteegefnjnikngaaGreat
