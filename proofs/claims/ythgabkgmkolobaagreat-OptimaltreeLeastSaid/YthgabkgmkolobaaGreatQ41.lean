/- The contract of layer 31's reference's Parse where the text is a tree's: the tree lies in .. -/
import Derived.Test.YthgabkgmkolobaaGreatQ39
import Derived.Test.YthgabkgmkolobaaGreatQ14
import Derived.Test.YthgabkgmkolobaaGreatQ38
import Derived.Test.YthgabkgmkolobaaGreatQ33
import Derived.Test.YthgabkgmkolobaaGreatQ31
import Derived.Test.YthgabkgmkolobaaGreatQ22
import Derived.StillTail
import Derived.Laws.IdiomStrings
import Derived.Sort.OwnSorted
import Derived.Shelf.Slices.In.SortNone
import Derived.Shelf.SlGeneric
import Derived.Shelf.Lays
import Derived.Shelf.Sort.Plain
import Derived.Ground.NamesProg
import Derived.Test.YthgabkgmkolobaaGreatProg
import Derived.Test.YthgabkgmkolobaaGreatQ23
import Derived.Test.YthgabkgmkolobaaGreatQ21
import Derived.Test.YthgabkgmkolobaaGreatQ8
import Derived.Test.YthgabkgmkolobaaGreatQ6
import Derived.Test.YthgabkgmkolobaaGreatQ3
import Derived.Test.YthgabkgmkolobaaGreatQ1
import Derived.Test.YthgabkgmkolobaaGreatQ2
import Derived.Test.YthgabkgmkolobaaGreatQ29
import Derived.Shelf.Lays2
import Derived.Shelf.Slices.CompactI
import Derived.Ground.Names2Prog
set_option maxRecDepth 100000
namespace Go.Proofs.YthgabkgmkolobaaGreat
section
open Go.RowKit Go.Deep
set_option maxHeartbeats 4000000 in
theorem Ko (w : World) (s : ByteArray) (hs : s.size ≤ 1000) {r : RT} (hpr0 : iU s.data.toList = some r) (he0 : az (flat r) = 0) : Calls Tryz.prog 146 #[.string s] w fun e w' => Up w w' ∧ ∃ v, e = .returned (.tuple #[v, .int .i64 0]) ∧ aA (fun b => w.heap.size ≤ b) w' v (flat r) := by
 have HE0 := aa he0
 have HPR0 := aa hpr0
 clear he0 hpr0
 have hrb := fh (w := w) (P := .slice none 0 0) (N := .slice none 0 0) (T := 39)
 have hu := Up.alloc w (.cells #[.slice none 0 0, .slice none 0 0] 39)
 have hsz : (w.alloc (.cells #[.slice none 0 0, .slice none 0 0] 39)).heap.size = w.heap.size + 1 := World.size_alloc _ _
 have HU := aa hu
 have ct := aa hsz
 have lT := aa hrb
 have jO := aa hs
 have d1 : decide ((65536 : Int) < (s.size : Int)) = false := decide_eq_false (by omega)
 have Ls : ¬ 65536 < s.size := by omega
 have Qg := aa (fun W => E5 s.size s rfl hs W 0 (by omega))
 clear hrb hu hsz hs
 go_enter Tryz.func146, Tryz.ntmps146
 go_wp2_with fail
 clear d1 Ls
 generalize w.alloc (.cells #[.slice none 0 0, .slice none 0 0] 39) = w1 at *
 refine (Qg.out w1).mono ?_
 rintro e w2 ⟨aG, hm⟩
 have bw := aa (HU.out.trans aG)
 have jh := aa ((Below.block aG w.heap.size (by rw [ct.out]; omega)).trans lT.out)
 have lW : Hid (w.heap.size + 1 ≤ w2.heap.size) := by have := aG.size; rw [ct.out] at this; exact this
 clear aG Qg HU ct lT
 have hr : fW s.data.toList = some (r, [59]) := Ds.2 HPR0.out
 rw [hr] at hm
 obtain ⟨v2, rfl, hr2⟩ := hm
 obtain ⟨b2, rfl⟩ := oO hr2
 have p6 : iU s.data.toList = some r := HPR0.out
 have gN : s.data.toList.length = s.size := by rw [Array.length_toList]; rfl
 obtain ⟨B9, Ca, EP⟩ := yD p6
 have Qh := I7 hr
 rw [gN] at B9 Ca Qh
 have Ik : Hid ((flat r).ps.length ≤ 1000000) := by unfold Hid; have := jO.out; omega
 have Il : Hid ((flat r).ns.length ≤ 1000000) := by unfold Hid; have := jO.out; omega
 have Im : Hid (∀ k, (gs (flat r).ns k).size ≤ 70000) := fun j => by have := EP j; rw [gN] at this; have := jO.out; omega
 have mV := aa (AU _ w2 _ r hr2 (by have := jO.out; omega))
 have qb := aa p6
 have t1 : (bL [59]).toList = [59] := by rw [toList_data]; rfl
 have t2 : ((bL [59]).toList == [59]) = true := by rw [t1]; rfl
 generalize bL [59] = ub at *
 obtain ⟨q0, q1, q2, q3⟩ := boxed jh.out
 clear B9 Ca EP Qh gN p6 hr hr2
 go_wp2_with fail
 refine mV.out.mono ?_
 rintro e w4 ⟨cF, _, rfl, P4, N4, rfl, dY, eG⟩
 obtain ⟨pp, pc, rfl, -, -⟩ := aB.open dY
 obtain ⟨np, nc, rfl, -, -⟩ := aB.open eG
 have dY : aq _ w4 (.slice pp (flat r).ps.length pc) (flat r).ps := dY
 have eG : ah _ w4 (.slice np (flat r).ns.length nc) (flat r).ns := eG
 have bf := Up.alloc w4 (.cells #[.slice pp (flat r).ps.length pc, .slice np (flat r).ns.length nc] 39)
 have b0 := dW w4 (.slice pp (flat r).ps.length pc) (.slice np (flat r).ns.length nc) 39
 have b1 := eu w4 (.slice pp (flat r).ps.length pc) (.slice np (flat r).ns.length nc) 39
 have gj := aa b0
 have gm := aa b1
 have yG := (Below.block (cF.trans bf) w.heap.size (by have := lW.out; omega)).trans jh.out
 have Ip := aa yG
 have Iq := aa (bw.out.trans (cF.trans bf))
 have oo : Hid (aA (fun b => w2.heap.size ≤ b) (w4.alloc (.cells #[.slice pp (flat r).ps.length pc, .slice np (flat r).ns.length nc] 39)) (.agg #[.slice pp (flat r).ps.length pc, .slice np (flat r).ns.length nc]) (flat r)) := aA.keep ⟨_, _, rfl, dY, eG⟩ (bf.kept _)
 have eY := aa (r5 _ _ _ (flat r) oo.out Ik.out Il.out Im.out)
 have PK : Hid (w2.heap.size ≤ (w4.alloc (.cells #[.slice pp (flat r).ps.length pc, .slice np (flat r).ns.length nc] 39)).heap.size) := (cF.trans bf).size
 clear cF dY eG bf mV yG jh bw q0 q1 q2 q3 t1 t2
 go_wp2_with fail
 generalize w4.alloc (.cells #[.slice pp (flat r).ps.length pc, .slice np (flat r).ns.length nc] 39) = w5 at *
 refine eY.out.mono ?_
 rintro e w6 ⟨rfl, cU⟩
 have cU : Up w5 w6 := cU
 have b0 := cU.cell gj.out
 have b1 := cU.cell gm.out
 have sr := (Below.block cU w.heap.size (by have := lW.out; have := PK.out; omega)).trans Ip.out
 have AY := aa sr
 have AZ := aa (Iq.out.trans cU)
 have su := aa (oo.out.keep (cU.kept _))
 obtain ⟨q0, q1, q2, q3⟩ := boxed sr
 clear cU sr eY
 rw [HE0.out]
 have HST := aa (dZ (w := w) (p := .slice pp (flat r).ps.length pc) (q := .slice np (flat r).ns.length nc) AY.out (Nat.le_refl _) AZ.out)
 go_wp2_with fail
 obtain ⟨s1, s2, s3, s4⟩ := HST.out
 obtain ⟨P7, N7, e7, Bz, PL⟩ := su.out
 have e8 : P7 = .slice pp (flat r).ps.length pc ∧ N7 = .slice np (flat r).ns.length nc := by
  injection e7 with e7
  have := congrArg Array.toList e7
  simp at this
  exact ⟨this.1.symm, this.2.symm⟩
 obtain ⟨rfl, rfl⟩ := e8
 have hsw := lW.out
 refine ⟨rfl, .tuple #[.agg #[.slice pp (flat r).ps.length pc, .slice np (flat r).ns.length nc], .int .i64 0], by simp [results, Tryz.results146, go_sem, s2, s3], ?_⟩
 refine ⟨s1, _, rfl, ?_⟩
 exact ⟨_, _, rfl, (aq.keep Bz fun b hb _ => s4 b (by have : w2.heap.size ≤ b := hb; omega)).sub fun b hb _ => by have : w2.heap.size ≤ b := hb; omega, (ah.keep PL fun b hb _ => s4 b (by have : w2.heap.size ≤ b := hb; omega)).sub fun b hb _ => by have : w2.heap.size ≤ b := hb; omega⟩
end
section
open Go.RowKit Go.Deep
structure wE (w : World) (B : Nat) (W : World) (t : ay) : Prop where
 up : Up w W
 lo : w.heap.size ≤ B ∧ B < W.heap.size
 ex : ∃ pp pc np nc, W.heap[B]? = some (Obj.cells #[.slice pp t.ps.length pc, .slice np t.ns.length nc] 39 (0, 0)) ∧ aA (fun b => b ≠ B) W (.agg #[.slice pp t.ps.length pc, .slice np t.ns.length nc]) t
theorem Kq {w4 : World} {B : Nat} {x y p q : Value} {T : TypeId} (hb : w4.heap[B]? = some (Obj.cells #[x, y] T (0, 0))) : ((w4.setCell ⟨B, 0, none⟩ p).setCell ⟨B, 1, none⟩ q).heap[B]? = some (Obj.cells #[p, q] T (0, 0)) := by
 simp [World.setCell, Array.getElem?_modify, hb]
theorem wE.Jj {w w4 : World} {B : Nat} {x y : Value} {t : ay} {pp np : Option Addr} {pc nc : Nat} (hb : w4.heap[B]? = some (Obj.cells #[x, y] 39 (0, 0))) (hB : w.heap.size ≤ B) (hu : Up w w4) (hT : aA (fun b => b ≠ B) w4 (.agg #[.slice pp t.ps.length pc, .slice np t.ns.length nc]) t) :
  wE w B ((w4.setCell ⟨B, 0, none⟩ (.slice pp t.ps.length pc)).setCell ⟨B, 1, none⟩ (.slice np t.ns.length nc)) t := by
 obtain ⟨s1, _, _, s4⟩ := dZ (p := .slice pp t.ps.length pc) (q := .slice np t.ns.length nc) hb hB hu
 have hlt := (Array.getElem?_eq_some_iff.1 hb).1
 refine ⟨s1, ⟨hB, by simpa using hlt⟩, pp, pc, np, nc, Kq hb, hT.keep fun b hb _ => s4 b hb⟩
theorem wE.Te {w w2 : World} {t : ay} {pp np : Option Addr} {pc nc : Nat} (hu : Up w w2) (hT : aA Any w2 (.agg #[.slice pp t.ps.length pc, .slice np t.ns.length nc]) t) : wE w w2.heap.size (w2.alloc (.cells #[.slice pp t.ps.length pc, .slice np t.ns.length nc] 39)) t := by
 have bf := Up.alloc w2 (.cells #[.slice pp t.ps.length pc, .slice np t.ns.length nc] 39)
 refine ⟨hu.trans bf, ⟨hu.size, by rw [World.size_alloc]; omega⟩, pp, pc, np, nc, fh, ?_⟩
 exact ((hT.sub fun b _ hl => (show b < w2.heap.size from hl)).keep (bf.kept _)).sub fun b hb _ => by omega
theorem Kr {W : World} {B : Nat} {v : Value} {xs : List Int} (h : aq Any W v xs) (hb : W.heap[B]? = some (Obj.cells #[.slice none 0 0, .slice none 0 0] 39 (0, 0))) : aq (fun b => b ≠ B) W v xs := by
 obtain ⟨p, c, e, hc, h⟩ := h
 refine ⟨p, c, e, hc, ?_⟩
 rcases h with h | ⟨b, off, e2, _, h⟩
 ·exact .inl h
 ·by_cases h0 : xs.length = 0
  ·exact .inl h0
  ·refine .inr ⟨b, off, e2, fun eb => ?_, h⟩
   subst eb
   have h1 := h 0 (by omega)
   rw [Nat.add_zero] at h1
   simp only [World.cell?, hb] at h1
   match off, h1 with
   | 0, h1 => simp at h1
   | 1, h1 => simp at h1
   | off + 2, h1 => simp at h1
theorem Ks {W : World} {B : Nat} {v : Value} {xs : List ByteArray} (h : ah Any W v xs) (hb : W.heap[B]? = some (Obj.cells #[.slice none 0 0, .slice none 0 0] 39 (0, 0))) : ah (fun b => b ≠ B) W v xs := by
 obtain ⟨p, c, e, hc, h⟩ := h
 refine ⟨p, c, e, hc, ?_⟩
 rcases h with h | ⟨b, off, e2, _, h⟩
 ·exact .inl h
 ·by_cases h0 : xs.length = 0
  ·exact .inl h0
  ·refine .inr ⟨b, off, e2, fun eb => ?_, h⟩
   subst eb
   have h1 := h 0 (by omega)
   rw [Nat.add_zero] at h1
   simp only [World.cell?, hb] at h1
   match off, h1 with
   | 0, h1 => simp at h1
   | 1, h1 => simp at h1
   | off + 2, h1 => simp at h1
theorem Kt {W : World} {B : Nat} {v : Value} {t : ay} (h : aA Any W v t) (hb : W.heap[B]? = some (Obj.cells #[.slice none 0 0, .slice none 0 0] 39 (0, 0))) : aA (fun b => b ≠ B) W v t := by
 obtain ⟨P, N, e, hP, hN⟩ := h
 exact ⟨P, N, e, Kr hP hb, Ks hN hb⟩
end
section
def Qm (states : List (List Int)) (p : Nat) : Nat := (dd (cm (cN states p))).length
def mM (states : List (List Int)) (p : Nat) : Int := if Qm states p = 0 then 0 else (Qm states p : Int) - 1
def qw (states : List (List Int)) : Int := aZ (mM states) (gl states 0).length
def Dw (states : List (List Int)) : Int := if cn states = 0 then 0 else 1
def Dx (states : List (List Int)) : Int := if cn states = 0 then qw states else 0
theorem sQ (states : List (List Int)) (p : Nat) : (cN states p).length = states.length := by unfold cN; rw [List.length_map]
theorem ddP_le (states : List (List Int)) (p : Nat) : Qm states p ≤ states.length := by
 unfold Qm
 have h1 : (dd (cm (cN states p))).length ≤ (cm (cN states p)).length := (oZ _).length_le_of_subset fun x hx => mm.1 hx
 have h2 : (cm (cN states p)).length ≤ (cN states p).length := List.length_filter_le _ _
 rw [sQ] at h2
 omega
theorem LP (states : List (List Int)) (p : Nat) : 0 ≤ mM states p ∧ mM states p ≤ states.length := by
 have := ddP_le states p
 unfold mM
 split <;> omega
end
section
open Go.RowKit Go.Deep
def gR (names : List ByteArray) (k : Nat) : RT := (aM names).getD k (.node ByteArray.empty [])
theorem Dy {names : List ByteArray} {k : Nat} (h : k < (aM names).length) : gt (allT names) k = flat (gR names k) := by
 unfold allT gR gt
 simp [h]
theorem Jk {names : List ByteArray} {k : Nat} (h : k < (aM names).length) : gR names k ∈ aM names := by simp [gR, h]
theorem Tf {names : List ByteArray} (hn : cH names) {j k : Nat} (hj : j < (aM names).length) (hk : k < (aM names).length) (e : aK (gR names j) = aK (gR names k)) : gR names j = gR names k := by
 have e1 : bJ (gR names j) = bJ (gR names k) := by
  have := congrArg (fun b : ByteArray => b.data.toList) e
  simpa [aK] using this
 exact PA (cQ hn (Jk hj)).1.good.jb (cQ hn (Jk hk)).1.good.jb (List.append_cancel_right e1)
def oy (names : List ByteArray) (states : List (List Int)) (k : Nat) : Int := bG (gt (allT names) k) names states
def scK (names : List ByteArray) (states : List (List Int)) : Nat → List (ByteArray × Value)
 | 0 => []
 | n + 1 => r7 (scK names states n) (aK (gR names n)) (.int .i64 (oy names states n))
theorem Jl (names : List ByteArray) (states : List (List Int)) : ∀ n, vZ (scK names states n)
 | 0 => by unfold vZ scK; simp
 | n + 1 => Pn (Jl names states n) _ _
theorem Jm {names : List ByteArray} (hn : cH names) (states : List (List Int)) {k : Nat} (hk : k < (aM names).length) : ∀ {n : Nat}, n ≤ (aM names).length → k < n → (scK names states n).lookup (aK (gR names k)) = some (.int .i64 (oy names states k))
 | 0, _, h => absurd h (Nat.not_lt_zero _)
 | n + 1, hle, h => by
  rw [scK, Ke]
  split
  ·rename_i e
   have e2 := Tf hn hk (show n < _ by omega) e
   unfold oy
   rw [Dy hk, Dy (show n < _ by omega), e2]
  ·rename_i e
   have : k ≠ n := fun e3 => e (by rw [e3])
   exact Jm hn states hk (by omega) (by omega)
def qx (names : List ByteArray) (states : List (List Int)) (n : Nat) : List ay := ((allT names).take n).filter fun t => decide (bG t names states = bT names states)
theorem Qn {names : List ByteArray} (states : List (List Int)) {n : Nat} (h : n < (allT names).length) : qx names states (n + 1) = qx names states n ++ if oy names states n = bT names states then [gt (allT names) n] else [] := by
 unfold qx oy
 rw [Du h, List.filter_append]
 congr 1
 by_cases e : bG (gt (allT names) n) names states = bT names states
 ·rw [if_pos e]; simp [e]
 ·rw [if_neg e]; simp [e]
theorem Tg (names : List ByteArray) (states : List (List Int)) : qx names states (allT names).length = dI names states := by
 unfold qx dI; rw [List.take_length]
theorem Jn {names : List ByteArray} {states : List (List Int)} (hc : k6 names states) {n : Nat} (h : n < (allT names).length) : 0 ≤ oy names states n ∧ oy names states n ≤ 409600000 := by
 have ho := (o6 hc.nm (sD h)).1
 have h1 := zA (f := fun p => bZ (gt (allT names) n) (fu (gt (allT names) n) names states p) (bE 16)) (n := (gl states 0).length) fun p hp => ⟨ny (lg hc ho hp), DK (lg hc ho hp)⟩
 have h2 := (Jf hc.ag).2
 unfold oy bG
 omega
def sR (names : List ByteArray) (states : List (List Int)) (n : Nat) : Int := mnK (oy names states) n
theorem Qo {names : List ByteArray} {states : List (List Int)} (hc : k6 names states) : ∀ {n : Nat}, n ≤ (allT names).length → -1 ≤ sR names states n ∧ sR names states n ≤ 409600000
 | 0, _ => by unfold sR mnK; omega
 | n + 1, h => by
  have h1 := Qo hc (n := n) (by omega)
  have h2 := Jn hc (n := n) h
  unfold sR at h1 ⊢
  rw [sA]
  split <;> omega
theorem Th (names : List ByteArray) (states : List (List Int)) (n : Nat) : sR names states (n + 1) = if sR names states n < 0 ∨ oy names states n < sR names states n then oy names states n else sR names states n := rfl
theorem WD (names : List ByteArray) (states : List (List Int)) : sR names states (allT names).length = bT names states := rfl
end
section
open Go.RowKit Go.Deep
theorem WE {a b : List Int} (hl : a.length = b.length) (h : ∀ k, k < a.length → gi a k = gi b k) : a = b := by
 refine List.ext_getElem hl fun k h1 h2 => ?_
 have := h k h1
 simpa [gi, h1, h2] using this
theorem WG {a b : List ByteArray} (hl : a.length = b.length) (h : ∀ k, k < a.length → gs a k = gs b k) : a = b := by
 refine List.ext_getElem hl fun k h1 h2 => ?_
 have := h k h1
 simpa [gs, h1, h2] using this
theorem WH {t u : ay} (h1 : t.ps = u.ps) (h2 : t.ns = u.ns) : t = u := by
 cases t; cases u
 simp only at h1 h2
 rw [h1, h2]
set_option maxHeartbeats 4000000 in
theorem Ku (S T : Nat → Prop) (w : World) (v u : Value) (t q : ay) (h : aA S w v t) (h2 : aA T w u q) (hp : t.ps.length ≤ 1000000) (hn : t.ns.length ≤ 1000000) (hne : t ≠ q) :
  Calls Tryz.prog 37 #[v, u] w fun e w' => e = .returned (.bool false) ∧ Up w w' := by
 obtain ⟨P, N, rfl, hP, hN⟩ := h
 obtain ⟨P2, N2, rfl, fP, fQ⟩ := h2
 obtain ⟨pp, pc, rfl, _, _⟩ := aB.open hP
 obtain ⟨np, nc, rfl, _, _⟩ := aB.open hN
 obtain ⟨nR, nS, rfl, _, _⟩ := aB.open fP
 obtain ⟨nT, nU, rfl, _, _⟩ := aB.open fQ
 have hP : aq S w (.slice pp t.ps.length pc) t.ps := hP
 have hN : ah S w (.slice np t.ns.length nc) t.ns := hN
 have fP : aq T w (.slice nR q.ps.length nS) q.ps := fP
 have fQ : ah T w (.slice nT q.ns.length nU) q.ns := fQ
 have aR := Up.alloc w (.cells #[.slice pp t.ps.length pc, .slice np t.ns.length nc] 39)
 have aG := Up.alloc (w.alloc (.cells #[.slice pp t.ps.length pc, .slice np t.ns.length nc] 39)) (.cells #[.slice nR q.ps.length nS, .slice nT q.ns.length nU] 39)
 have hu := aR.trans aG
 have a0 := aG.cell (dW w (.slice pp t.ps.length pc) (.slice np t.ns.length nc) 39)
 have a1 := aG.cell (eu w (.slice pp t.ps.length pc) (.slice np t.ns.length nc) 39)
 have b0 := dW (w.alloc (.cells #[.slice pp t.ps.length pc, .slice np t.ns.length nc] 39)) (.slice nR q.ps.length nS) (.slice nT q.ns.length nU) 39
 have b1 := eu (w.alloc (.cells #[.slice pp t.ps.length pc, .slice np t.ns.length nc] 39)) (.slice nR q.ps.length nS) (.slice nT q.ns.length nU) 39
 rw [World.size_alloc] at b0 b1
 have HP := aa (aq.keep hP (hu.kept S))
 have HN := aa (ah.keep hN (hu.kept S))
 have Pr := aa (aq.keep fP (hu.kept T))
 have Hp := aa (ah.keep fQ (hu.kept T))
 have HU := aa hu
 have A0 := aa a0
 have A1 := aa a1
 have Zm := aa b0
 have Zn := aa b1
 have uX := aa hne
 have jO := aa (And.intro hp hn)
 clear hP hN fP fQ hu aR aG hne hp hn
 by_cases l0 : t.ps.length = q.ps.length
 rotate_left
 ·have d0 : ((t.ps.length : Int) != (q.ps.length : Int)) = true := bne_iff_ne.2 (by omega)
  go_enter Tryz.func37, Tryz.ntmps37
  go_wp2_with fail
  go_ret
  exact ⟨rfl, HU.out⟩
 by_cases l1 : t.ns.length = q.ns.length
 rotate_left
 ·have d0 : ((t.ps.length : Int) != (q.ps.length : Int)) = false := by rw [l0]; simp
  have d1 : ((t.ns.length : Int) != (q.ns.length : Int)) = true := bne_iff_ne.2 (by omega)
  have L0 := aa l0
  clear l0
  go_enter Tryz.func37, Tryz.ntmps37
  go_wp2_with fail
  go_ret
  exact ⟨rfl, HU.out⟩
 have d0 : ((t.ps.length : Int) != (q.ps.length : Int)) = false := by rw [l0]; simp
 have d1 : ((t.ns.length : Int) != (q.ns.length : Int)) = false := by rw [l1]; simp
 have L0 := aa l0
 have L1 := aa l1
 clear l0 l1
 go_enter Tryz.func37, Tryz.ntmps37
 go_wp2_with fail
 clear a0 a1 b0 b1
 clear d0 d1
 generalize (w.alloc (.cells #[.slice pp t.ps.length pc, .slice np t.ns.length nc] 39)).alloc (.cells #[.slice nR q.ps.length nS, .slice nT q.ns.length nU] 39) = w1 at *
 go_loopw [5] (fun i wr => ∃ k : Nat, k ≤ t.ps.length ∧ i = .int .i64 k ∧ Hid (QD w1 wr) ∧ Hid (∀ j, j < k → gi t.ps j = gi q.ps j)) (fun i _ => t.ps.length - (intOf i).toNat)
 case atStart => exact ⟨0, Nat.zero_le _, rfl, QD.refl _, fun j hj => by omega⟩
 case round =>
  obtain ⟨k, hk, rfl, hQ, hd⟩ := hrel
  have HD := aa hd.out
  clear hd
  have a0 := hQ.out.up.cell A0.out
  have b0 := hQ.out.up.cell Zm.out
  by_cases hlt : k < t.ps.length
  ·obtain ⟨b, off, rfl, hc⟩ := cK (aq.keep HP.out (hQ.out.kept S)) hlt
   obtain ⟨b2, off2, rfl, hc2⟩ := cK (aq.keep Pr.out (hQ.out.kept T)) (by rw [← L0.out]; exact hlt)
   have i1 : (0 : Int) ≤ (k : Int) := by omega
   have i2 : (k : Int) < (t.ps.length : Int) := by omega
   have i4 : (k : Int) < (q.ps.length : Int) := by have := L0.out; omega
   have i3 : (k : Int) < 1000000 := by have := jO.out.1; omega
   have aV := aa hlt
   by_cases e : gi t.ps k = gi q.ps k
   ·have j1 : (gi t.ps k != gi q.ps k) = false := by rw [e]; simp
    have HD2 : Hid (∀ j, j < k + 1 → gi t.ps j = gi q.ps j) := fun j hj => by
     by_cases x : j = k
     ·rw [x]; exact e
     ·exact HD.out j (by omega)
    clear e hlt hk
    generalize gi t.ps k = x at *
    generalize gi q.ps k = y at *
    go_wp2_with fail
    go_quiet (fail)
    go_wp2_with fail
    go_roundw
    case rel => exact ⟨k + 1, aV.out, by go_num, hQ.out.drewN nq, HD2.out⟩
    case measure => have := aV.out; simp [intOf]; omega
   ·have j1 : (gi t.ps k != gi q.ps k) = true := bne_iff_ne.2 e
    clear hlt hk
    generalize gi t.ps k = x at *
    generalize gi q.ps k = y at *
    go_wp2_with fail
    go_quiet (fail)
    go_wp2_with fail
    go_ret
    exact ⟨rfl, HU.out.trans (hQ.out.drewN nq).up⟩
  ·obtain rfl : k = t.ps.length := by omega
   have Zo := aa hQ.out
   have mA : Hid (t.ps = q.ps) := WE L0.out HD.out
   have m1 : ¬ (t.ps.length : Int) < (t.ps.length : Int) := by omega
   clear hlt hk
   go_wp2_with fail
   go_loopw [6] (fun i wr => ∃ k : Nat, k ≤ t.ns.length ∧ i = .int .i64 k ∧ Hid (QD w1 wr) ∧ Hid (∀ j, j < k → gs t.ns j = gs q.ns j)) (fun i _ => t.ns.length - (intOf i).toNat)
   case atStart => exact ⟨0, Nat.zero_le _, rfl, Zo.out, fun j hj => by omega⟩
   case round =>
    obtain ⟨k, hk, rfl, hQ, hd⟩ := hrel
    have HD := aa hd.out
    clear hd
    have a1 := hQ.out.up.cell A1.out
    have b1 := hQ.out.up.cell Zn.out
    by_cases hlt : k < t.ns.length
    ·obtain ⟨b, off, rfl, hc⟩ := bz (ah.keep HN.out (hQ.out.kept S)) hlt
     obtain ⟨b2, off2, rfl, hc2⟩ := bz (ah.keep Hp.out (hQ.out.kept T)) (by rw [← L1.out]; exact hlt)
     have i1 : (0 : Int) ≤ (k : Int) := by omega
     have i2 : (k : Int) < (t.ns.length : Int) := by omega
     have i4 : (k : Int) < (q.ns.length : Int) := by have := L1.out; omega
     have i3 : (k : Int) < 1000000 := by have := jO.out.2; omega
     have aV := aa hlt
     by_cases e : gs t.ns k = gs q.ns k
     ·have j1 : ((gs t.ns k).toList == (gs q.ns k).toList) = true := by rw [e]; simp
      have HD2 : Hid (∀ j, j < k + 1 → gs t.ns j = gs q.ns j) := fun j hj => by
       by_cases x : j = k
       ·rw [x]; exact e
       ·exact HD.out j (by omega)
      clear e hlt hk
      generalize gs t.ns k = x at *
      generalize gs q.ns k = y at *
      go_wp2_with fail
      go_quiet (fail)
      go_wp2_with fail
      go_roundw
      case rel => exact ⟨k + 1, aV.out, by go_num, hQ.out.drewN nq, HD2.out⟩
      case measure => have := aV.out; simp [intOf]; omega
     ·have j1 : ((gs t.ns k).toList == (gs q.ns k).toList) = false := by
       rw [beq_eq_false_iff_ne, toList_data, toList_data]
       exact fun h => e (eL h)
      clear hlt hk e
      generalize gs t.ns k = x at *
      generalize gs q.ns k = y at *
      go_wp2_with fail
      go_quiet (fail)
      go_wp2_with fail
      go_ret
      exact ⟨rfl, HU.out.trans (hQ.out.drewN nq).up⟩
    ·obtain rfl : k = t.ns.length := by omega
     exact absurd (WH mA.out (WG L1.out HD.out)) uX.out
theorem Cx (S T : Nat → Prop) (w : World) (v u : Value) (t q : ay) (h : aA S w v t) (h2 : aA T w u q) (hp : t.ps.length ≤ 1000000) (hn : t.ns.length ≤ 1000000) :
  Calls Tryz.prog 37 #[v, u] w fun e w' => e = .returned (.bool (decide (t = q))) ∧ Up w w' := by
 by_cases e : t = q
 ·subst e
  rw [decide_eq_true rfl]
  exact Ho S T w v u t h h2 hp hn
 ·rw [decide_eq_false e]
  exact Ku S T w v u t q h h2 hp hn e
end
end Go.Proofs.YthgabkgmkolobaaGreat
namespace Go.Proofs
open Go.Shelf
def Tryz.compactZ_ren : Go.Shelf.Ren := ⟨fun | 20 => 72 | n => n, fun | 22 => 26 | 3 => 3 | 4 => 4 | 0 => 0 | n => n, fun | n => n⟩
theorem Tryz.compactZ : Go.Proofs.Lays2.n20 Tryz.prog Tryz.compactZ_ren := {
 mixed := by kernel_rfl
 f20 := Tryz.func72.trans (congrArg some (by kernel_rfl))
 t0 := Tryz.underlying0
 a0 := Tryz.isAgg0
 z0 := Tryz.sizeOf0
 v0 := Tryz.zeroValue0
 t3 := Tryz.underlying3
 a3 := Tryz.isAgg3
 z3 := Tryz.sizeOf3
 v3 := Tryz.zeroValue3
 t4 := Tryz.underlying4
 a4 := Tryz.isAgg4
 z4 := Tryz.sizeOf4
 v4 := Tryz.zeroValue4
 t22 := Tryz.underlying26
 a22 := Tryz.isAgg26
 z22 := Tryz.sizeOf26
 v22 := Tryz.zeroValue26
 i3 := by kernel_rfl }
end Go.Proofs
namespace Go.Proofs.YthgabkgmkolobaaGreat
section
open Go.RowKit Go.Shelf Go.Deep Go.Sort
theorem Kv {w : World} {g n : Nat} (d : Array Int) : w.grownBy (putRow (Value.int .i64) (Sort.ahead w n) g 0 d) (some g) := by
 refine ⟨rfl, rfl, rfl, by simp [putRow, mapBlock, Sort.ahead], fun k hk hne => ?_⟩
 have : g ≠ k := fun e => hne (by rw [e])
 simp [putRow, mapBlock, Sort.ahead, Array.getElem?_modify, this]
theorem Qp (w w1 : World) (v : Value) (xs : List Int) (hu : Up w w1) (ho : aC w.heap.size 3 w1 v (xs.map (Value.int .i64))) (hlen : xs.length ≤ 1000000) :
  Calls Tryz.prog 72 #[v] w1 fun e w' => (∃ p cap, e = .returned (.slice p (Lib.compact xs).length cap)) ∧ Up w w' := by
 rcases ho.2 with ⟨rfl, h0⟩ | ⟨g, cap, cur, rfl, hg, hc, hn, hcm, hcs, ht⟩
 ·have hx : xs = [] := by cases xs with | nil => rfl | cons _ _ => simp at h0
  subst hx
  refine (Any.slices_Compact_int_empty Tryz.compactZ none 0 w1).mono ?_
  rintro e w' ⟨rfl, rfl⟩
  exact ⟨⟨_, _, rfl⟩, hu⟩
 ·simp only [List.length_map] at hn ht ho ⊢
  refine (Any.slices_Compact_int Tryz.compactZ g 0 cap xs w1 (holds_of_blockI hc (by simpa using ht)) (by omega) (by omega)).mono ?_
  rintro e w' ⟨rfl, q, rfl⟩
  exact ⟨⟨_, _, rfl⟩, Below.grown hu (Kv _) hu.size (fun j hj => by cases hj; exact hg)⟩
end
section
open Go
theorem lR (l : List Int) (j : Nat) : l.toArray[j]! = gi l j := by
 unfold gi
 by_cases h : j < l.length
 ·simp [h]
 ·simp [h]
theorem ua (l : List Int) (x : Int) : ∀ m, x ∈ Lib.compactUpTo l.toArray m ↔ ∃ j, j < m ∧ gi l j = x
 | 0 => by simp [Lib.compactUpTo]
 | m + 1 => by
  rw [Lib.compactUpTo_succ, List.mem_append, ua l x m, lR]
  constructor
  ·rintro (⟨j, hj, e⟩ | h)
   ·exact ⟨j, by omega, e⟩
   ·by_cases hk : Lib.keeps l.toArray m = true
    ·rw [if_pos hk] at h; exact ⟨m, by omega, (List.mem_singleton.1 h).symm⟩
    ·rw [if_neg hk] at h; cases h
  ·rintro ⟨j, hj, e⟩
   by_cases hjm : j = m
   ·subst hjm
    by_cases hk : Lib.keeps l.toArray j = true
    ·rw [if_pos hk]; exact .inr (by simp [e])
    ·unfold Lib.keeps at hk
     rw [lR, lR] at hk
     simp only [decide_eq_true_eq, not_or, ne_eq, Classical.not_not] at hk
     exact .inl ⟨j - 1, by omega, by rw [← hk.2]; exact e⟩
   ·exact .inl ⟨j, by omega, e⟩
theorem xB {l : List Int} (hs : ∀ i j, i < j → j < l.length → gi l i ≤ gi l j) : ∀ m, m ≤ l.length → (Lib.compactUpTo l.toArray m).Nodup
 | 0, _ => by simp [Lib.compactUpTo]
 | m + 1, h => by
  rw [Lib.compactUpTo_succ, List.nodup_append]
  refine ⟨xB hs m (by omega), by split <;> simp, fun a ha b hb e => ?_⟩
  subst e
  obtain ⟨j, hj, e⟩ := (ua l a m).1 ha
  by_cases hk : Lib.keeps l.toArray m = true
  ·rw [if_pos hk, lR] at hb
   have hb : a = gi l m := by simpa using hb
   unfold Lib.keeps at hk
   rw [lR, lR] at hk
   simp only [decide_eq_true_eq, ne_eq] at hk
   have hne : gi l m ≠ gi l (m - 1) := hk.resolve_left (by omega)
   have h1 : gi l j ≤ gi l (m - 1) := by
    by_cases e2 : j = m - 1
    ·rw [e2]; exact Int.le_refl _
    ·exact hs j (m - 1) (by omega) (by omega)
   have h2 := hs (m - 1) m (by omega) (by omega)
   omega
  ·rw [if_neg hk] at hb; cases hb
theorem Ti (xs : List Int) : ∀ i j, i < j → j < (iZ xs).length → gi (iZ xs) i ≤ gi (iZ xs) j := fun i j hij hj => by
 have hp : (iZ xs).Pairwise fun a b => decide (a ≤ b) = true := List.pairwise_mergeSort (le := fun x y => decide (x ≤ y)) (fun a b c h1 h2 => by simp at *; omega) (fun a b => by simp; omega) xs
 have := List.pairwise_iff_getElem.1 hp i j (by omega) hj hij
 have hi : i < (iZ xs).length := by omega
 simpa [gi, hi, hj] using this
theorem Qq {xs : List Int} {x : Int} : x ∈ iZ xs ↔ x ∈ xs := (List.mergeSort_perm xs _).mem_iff
theorem E9 (xs : List Int) : (Lib.compact (iZ xs)).length = (dd xs).length := by
 have hn := xB (Ti xs) _ (Nat.le_refl _)
 have hm : ∀ x, x ∈ Lib.compact (iZ xs) ↔ x ∈ dd xs := fun x => by
  unfold Lib.compact
  rw [ua, mm, ← Qq]
  constructor
  ·rintro ⟨j, hj, e⟩; rw [← e]; exact uh hj
  ·intro h; exact Cg h
 exact Nat.le_antisymm (List.Nodup.length_le_of_subset hn fun x hx => (hm x).1 hx) (List.Nodup.length_le_of_subset (oZ xs) fun x hx => (hm x).2 hx)
theorem Kw {st : List Int} {k : Nat} (hk : k < st.length) : cm (st.take (k + 1)) = cm (st.take k) ++ (if 0 ≤ gi st k then [gi st k] else []) := by
 rw [VS hk]
 unfold cm
 rw [List.filter_append]
 congr 1
 by_cases h : 0 ≤ gi st k
 ·rw [if_pos h]; simp [h]
 ·rw [if_neg h]; simp [h]
theorem Qr (st : List Int) (k : Nat) : (cm (st.take k)).length ≤ k := Nat.le_trans (List.length_filter_le _ _) (by simp; omega)
end
end Go.Proofs.YthgabkgmkolobaaGreat
