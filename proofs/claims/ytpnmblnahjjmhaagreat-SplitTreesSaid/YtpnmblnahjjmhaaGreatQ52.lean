/- The contract of layer 32's reference's Build: the same as the program's. -/
import Derived.Test.YtpnmblnahjjmhaaGreatQ1
import Derived.Test.YtpnmblnahjjmhaaGreatQ48
import Derived.Test.YtpnmblnahjjmhaaGreatQ42
import Derived.Test.YtpnmblnahjjmhaaGreatQ49
import Derived.Test.YtpnmblnahjjmhaaGreatQ46
import Derived.Test.YtpnmblnahjjmhaaGreatQ19
set_option maxRecDepth 100000
namespace Go.Proofs.YtpnmblnahjjmhaaGreat
open Go.RowKit Go.Deep
theorem Wj {names : List ByteArray} {k : Nat} (hk : k < names.length) : cZ names k = false ↔ eR names (gs names k) = (k : Int) := by
 constructor
 ·intro h
  refine Iq hk rfl fun j hj e => ?_
  have := any_false h hj
  rw [decide_eq_false_iff_not] at this
  exact this e
 ·intro h
  obtain ⟨_, _, h3⟩ := ni h
  refine any_none fun j hj => ?_
  have := h3 j hj
  rw [decide_eq_false_iff_not] at this ⊢
  exact fun e => this e.symm
theorem Jm (W : World) (base : Nat) (e : TypeId) (u v : Value) (h : base ≤ W.heap.size) : ah base e (W.alloc (.cells #[u, v] e)) (.slice (some ⟨W.heap.size, 0, none⟩) 2 2) [u, v] :=
 ⟨rfl, .inr ⟨W.heap.size, 2, #[u, v], rfl, h, blk_alloc_new W _, Nat.le_refl _, by decide, rfl, rfl⟩⟩
theorem Wk (names : List ByteArray) (l : List (List Int)) : aA.app ⟨[-1, 0], [ByteArray.empty, gs names 0]⟩ (grR names l names.length (aS names.length [0])) 0 = flat (jt names l) := by
 unfold aA.app flat jt fR
 simp [psR, psRs, cm, b7, aK, sizeRs]
theorem Wl {W : World} {B : Nat} {x y p q : Value} {T : TypeId} (hb : W.heap[B]? = some (Obj.cells #[x, y] T (0, 0))) : ((W.setCell ⟨B, 0, none⟩ p).setCell ⟨B, 1, none⟩ q).heap[B]? = some (Obj.cells #[p, q] T (0, 0)) := by
 simp [World.setCell, Array.getElem?_modify, hb]
theorem EY {names : List ByteArray} {l : List (List Int)} {M : Nat} (hz : ∀ k, (gs names k).size ≤ M) : ∀ (d : Nat) (set : List Int), ∀ s ∈ cm (grR names l d set), s.size ≤ M
 | 0, set, s, hs => by
  rw [grR, cm, b7, List.mem_singleton] at hs
  rw [hs]; exact Nat.zero_le _
 | d + 1, set, s, hs => by
  have hlf : ∀ x : Int, ∀ s ∈ cm (fR names x), s.size ≤ M := fun x s hs => by
   rw [fR, cm, b7, List.mem_singleton] at hs
   rw [hs]; exact hz _
  have hks : ∀ ks : List RT, (∀ k ∈ ks, ∀ s ∈ cm k, s.size ≤ M) → ∀ s ∈ b7 ks, s.size ≤ M := fun ks => by
   induction ks with
   | nil => intro _ s hs; rw [b7] at hs; cases hs
   | cons k ks ih =>
    intro h s hs
    rw [b7] at hs
    rcases List.mem_append.1 hs with hs | hs
    ·exact h k (by simp) s hs
    ·exact ih (fun k hk => h k (by simp [hk])) s hs
  rw [grR] at hs
  split at hs
  ·exact hlf _ s hs
  ·rw [cm] at hs
   rcases List.mem_cons.1 hs with rfl | hs
   ·exact Nat.zero_le _
   ·refine hks _ (fun k hk => ?_) s hs
    rcases List.mem_append.1 hk with hk | hk
    ·obtain ⟨g, _, rfl⟩ := List.mem_map.1 hk
     exact EY hz d g
    ·obtain ⟨x, _, rfl⟩ := List.mem_map.1 hk
     exact hlf x
theorem QT (names : List ByteArray) (l : List (List Int)) {M : Nat} (hz : ∀ k, (gs names k).size ≤ M) (k : Nat) : (gs (flat (jt names l)).ns k).size ≤ M := by
 have h : ∀ s ∈ (flat (jt names l)).ns, s.size ≤ M := fun s hs => by
  have hs : s ∈ cm (jt names l) := hs
  rw [jt, cm, b7, b7, b7, fR, cm, b7] at hs
  rcases List.mem_cons.1 hs with rfl | hs
  ·exact Nat.zero_le _
  rcases List.mem_append.1 hs with hs | hs
  ·rw [List.mem_singleton.1 hs]; exact hz _
  ·rw [List.append_nil] at hs
   exact EY hz _ _ s hs
 by_cases hk : k < (flat (jt names l)).ns.length
 ·have : gs (flat (jt names l)).ns k = (flat (jt names l)).ns[k] := by simp [gs, hk]
  rw [this]; exact h _ (List.getElem_mem hk)
 ·have : gs (flat (jt names l)).ns k = ByteArray.empty := by simp [gs, hk]
  rw [this]; exact Nat.zero_le _
theorem Nq (w : World) (u v a b : Value) (T U R : TypeId) :
  ah w.heap.size T (((w.alloc (.cells #[u, v] T)).alloc (.cells #[a, b] U)).alloc (.cells #[.slice (some ⟨w.heap.size, 0, none⟩) 2 2, .slice (some ⟨w.heap.size + 1, 0, none⟩) 2 2] R)) (.slice (some ⟨w.heap.size, 0, none⟩) 2 2) [u, v] ∧ ah w.heap.size U (((w.alloc (.cells #[u, v] T)).alloc (.cells #[a, b] U)).alloc (.cells #[.slice (some ⟨w.heap.size, 0, none⟩) 2 2, .slice (some ⟨w.heap.size + 1, 0, none⟩) 2 2] R)) (.slice (some ⟨w.heap.size + 1, 0, none⟩) 2 2) [a, b] ∧
  (((w.alloc (.cells #[u, v] T)).alloc (.cells #[a, b] U)).alloc (.cells #[.slice (some ⟨w.heap.size, 0, none⟩) 2 2, .slice (some ⟨w.heap.size + 1, 0, none⟩) 2 2] R)).heap[w.heap.size + 1 + 1]? = some (Obj.cells #[.slice (some ⟨w.heap.size, 0, none⟩) 2 2, .slice (some ⟨w.heap.size + 1, 0, none⟩) 2 2] R (0, 0)) ∧ Up w (((w.alloc (.cells #[u, v] T)).alloc (.cells #[a, b] U)).alloc (.cells #[.slice (some ⟨w.heap.size, 0, none⟩) 2 2, .slice (some ⟨w.heap.size + 1, 0, none⟩) 2 2] R)) ∧ (((w.alloc (.cells #[u, v] T)).alloc (.cells #[a, b] U)).alloc (.cells #[.slice (some ⟨w.heap.size, 0, none⟩) 2 2, .slice (some ⟨w.heap.size + 1, 0, none⟩) 2 2] R)).heap.size = w.heap.size + 3 := by
 have u1 := Up.alloc w (.cells #[u, v] T)
 have u2 := Up.alloc (w.alloc (.cells #[u, v] T)) (.cells #[a, b] U)
 have o1 := Jm w w.heap.size T u v (Nat.le_refl _)
 have o2 := Jm (w.alloc (.cells #[u, v] T)) w.heap.size U a b (by simp)
 have o1 := (o1.alloc (.cells #[a, b] U)).alloc (.cells #[.slice (some ⟨w.heap.size, 0, none⟩) 2 2, .slice (some ⟨w.heap.size + 1, 0, none⟩) 2 2] R)
 have o2 := o2.alloc (.cells #[.slice (some ⟨w.heap.size, 0, none⟩) 2 2, .slice (some ⟨w.heap.size + 1, 0, none⟩) 2 2] R)
 have u3 := (u1.trans u2).trans (Up.alloc _ (.cells #[.slice (some ⟨w.heap.size, 0, none⟩) 2 2, .slice (some ⟨w.heap.size + 1, 0, none⟩) 2 2] R))
 have hb := kA (w := (w.alloc (.cells #[u, v] T)).alloc (.cells #[a, b] U)) (P := .slice (some ⟨w.heap.size, 0, none⟩) 2 2) (N := .slice (some ⟨w.heap.size + 1, 0, none⟩) 2 2) (T := R)
 have hs1 : (w.alloc (.cells #[u, v] T)).heap.size = w.heap.size + 1 := by simp
 have hs2 : ((w.alloc (.cells #[u, v] T)).alloc (.cells #[a, b] U)).heap.size = w.heap.size + 1 + 1 := by simp
 rw [hs1] at o2
 rw [hs2] at hb
 exact ⟨o1, o2, hb, u3, by simp⟩
set_option maxHeartbeats 8000000 in
theorem QU (S : Nat → Prop) (w : World) (v vl : Value) (names : List ByteArray) (l : List (List Int)) (h : ay S w v names) (hL : aJ S w vl l) (hn : names.length ≤ 1000000) (hz : ∀ k, (gs names k).size ≤ 70000) (oo : l.length ≤ 1000000) (hr : ∀ k, (gl l k).length ≤ 1000000) :
  Calls Tryz.prog 34 #[v, vl] w (yx w names l) := by
 obtain ⟨lp, lc, rfl, -, -⟩ := cN hL
 obtain ⟨p, cap, rfl, hcap, _⟩ := av.open h
 have h : ay S w (.slice p names.length cap) names := h
 have bO : Up w (w.alloc (.cells #[.slice none 0 0, .slice none 0 0] 39)) := Up.alloc _ _
 have hrb := kA (w := w) (P := .slice none 0 0) (N := .slice none 0 0) (T := 39)
 obtain ⟨q0, q1, q2, q3⟩ := boxed hrb
 have CX : (w.alloc (.cells #[.slice none 0 0, .slice none 0 0] 39)).heap.size = w.heap.size + 1 := by simp
 have su := aa (ay.keep (h.sub (T := fun b => b < w.heap.size) fun b _ hb => hb) (bO.kept _))
 have mZ := aa (aJ.keep (hL.sub (T := fun b => b < w.heap.size) fun b _ hb => hb) (bO.kept _))
 have tY := aa CX
 have dJ := aa bO
 have gu := aa hrb
 have HZ := aa hz
 have HR := aa hr
 have gJ : Hid (cS names l = if names.length = 0 then 5 else if 32 < names.length ∨ 64 < l.length then 4
  else if firstNZ (dh names) names.length ≠ 0 then firstNZ (dh names) names.length
  else if firstNZ (fun k => aF names.length (gl l k)) l.length ≠ 0 then firstNZ (fun k => aF names.length (gl l k)) l.length
  else if 0 ≤ eC l then 17 else 0) := rfl
 clear h hL bO hrb CX hz hr
 by_cases c0 : names.length = 0
 ·have HST := aa (qR (c := 5) dJ.out gu.out (by rw [gJ.out, if_pos c0]) (by decide))
  have d0 : ((names.length : Int) == 0) = true := by simp [c0]
  clear c0
  go_enter Tryz.func34, Tryz.ntmps34
  go_wp2_with fail
  obtain ⟨s2, s3, hp⟩ := HST.out
  exact ⟨rfl, .tuple #[.agg #[.slice none 0 0, .slice none 0 0], .int .i64 5], by simp [results, Tryz.results34, go_sem, s2, s3], hp⟩
 have d0 : ((names.length : Int) == 0) = false := by simpa using c0
 by_cases c1 : 32 < names.length
 ·have HST := aa (qR (c := 4) dJ.out gu.out (by rw [gJ.out, if_neg c0, if_pos (.inl c1)]) (by decide))
  have d1 : decide ((32 : Int) < (names.length : Int)) = true := by simp; omega
  clear c0
  go_enter Tryz.func34, Tryz.ntmps34
  go_wp2_with fail
  obtain ⟨s2, s3, hp⟩ := HST.out
  exact ⟨rfl, .tuple #[.agg #[.slice none 0 0, .slice none 0 0], .int .i64 4], by simp [results, Tryz.results34, go_sem, s2, s3], hp⟩
 have d1 : decide ((32 : Int) < (names.length : Int)) = false := by simp; omega
 by_cases c2 : 64 < l.length
 ·have HST := aa (qR (c := 4) dJ.out gu.out (by rw [gJ.out, if_neg c0, if_pos (.inr c2)]) (by decide))
  have d2 : decide ((64 : Int) < (l.length : Int)) = true := by simp; omega
  clear c0 c1
  go_enter Tryz.func34, Tryz.ntmps34
  go_wp2_with fail
  obtain ⟨s2, s3, hp⟩ := HST.out
  exact ⟨rfl, .tuple #[.agg #[.slice none 0 0, .slice none 0 0], .int .i64 4], by simp [results, Tryz.results34, go_sem, s2, s3], hp⟩
 have d2 : decide ((64 : Int) < (l.length : Int)) = false := by simp; omega
 have AE : Hid (cS names l = if firstNZ (dh names) names.length ≠ 0 then firstNZ (dh names) names.length
  else if firstNZ (fun k => aF names.length (gl l k)) l.length ≠ 0 then firstNZ (fun k => aF names.length (gl l k)) l.length
  else if 0 ≤ eC l then 17 else 0) := by unfold Hid; rw [gJ.out, if_neg c0, if_neg (by omega)]
 have U8 : 0 < names.length := by omega
 have AG : names.length ≤ 32 := by omega
 have yq : l.length ≤ 64 := by omega
 clear gJ c0 c1 c2
 have II : Hid (∀ k, k < names.length → (∀ j, j < k → dh names j = 0) → dh names k ≠ 0 → cS names l = dh names k) := fun k hk hj h0 => by
  have h1 := eY hk hj h0
  rw [AE.out, h1, if_pos h0]
 go_enter Tryz.func34, Tryz.ntmps34
 go_wp2_with fail
 generalize w.alloc (.cells #[.slice none 0 0, .slice none 0 0] 39) = w1 at *
 clear q0 q1 q2 q3
 go_loopw [6] (fun i wr => ∃ k : Nat, k ≤ names.length ∧ i = .int .i64 k ∧ Hid (Up w1 wr) ∧ Hid (∀ j, j < k → dh names j = 0)) (fun i _ => names.length - (intOf i).toNat)
 case atStart => exact ⟨0, Nat.zero_le _, rfl, Up.refl _, fun j hj => absurd hj (Nat.not_lt_zero _)⟩
 case round =>
  obtain ⟨k, hk, rfl, hUk, hd⟩ := hrel
  obtain ⟨wo, rfl⟩ : ∃ wo : World, wo = wr := ⟨_, rfl⟩
  have yE := aa hUk.out
  have HD := aa hd.out
  have LA := aa (ay.keep su.out (yE.out.kept _))
  have i0 : (0 : Int) ≤ (k : Int) := by omega
  clear hUk hd
  by_cases hlt : k < names.length
  ·obtain ⟨IJ, no, rfl, hc⟩ := cC LA.out hlt
   have lu := aa (Qi (gs names k) (HZ.out k) wo)
   have dD : Hid (∀ W, Up wo W → Calls Tryz.prog 116 #[.slice (some ⟨IJ, no, none⟩) names.length cap, .string (gs names k)] W fun e w' => e = .returned (.int .i64 (eR names (gs names k))) ∧ W = w') := fun W hW => ym _ W _ names _ (ay.keep LA.out (hW.kept _)) (by omega)
   have IK := aa (II.out k hlt HD.out)
   have IL : Hid (dh names k = if bq (gs names k).data.toList then (if cZ names k then 7 else 0) else 14) := rfl
   have HFD := aa (Wj hlt)
   have aM := aa hlt
   have HC := aa hc
   generalize gs names k = nm at *
   generalize cZ names k = bs at *
   generalize bq nm.data.toList = bn at *
   have i1 : (k : Int) < (names.length : Int) := by omega
   cases bn
   ·have HE : Hid (dh names k = 14) := IL.out
    go_wp2_with fail
    refine lu.out.mono ?_
    rintro e w' ⟨rfl, sU⟩
    have sD := dJ.out.trans (yE.out.trans sU)
    have eZ := (Below.block (yE.out.trans sU) w.heap.size (by rw [tY.out]; omega)).trans gu.out
    obtain ⟨q0, q1, q2, q3⟩ := boxed eZ
    have HST := aa (pX (c := 14) (Nat.le_refl _) sD eZ ((IK.out (by rw [HE.out]; decide)).trans HE.out) (by decide))
    clear sD eZ sU
    go_wp2_with fail
    obtain ⟨s2, s3, hp⟩ := HST.out
    exact ⟨rfl, .tuple #[.agg #[.slice none 0 0, .slice none 0 0], .int .i64 14], by simp [results, Tryz.results34, go_sem, s2, s3], hp⟩
   ·cases bs
    ·have HE : Hid (dh names k = 0) := IL.out
     have Vl := HFD.out.1 rfl
     have i2 : (eR names nm != (k : Int)) = false := by rw [Vl]; simp
     go_wp2_with fail
     refine lu.out.mono ?_
     rintro e w' ⟨rfl, sU⟩
     have LG := aa (show Up wo w' from sU)
     have hc := LG.out.cell HC.out
     clear sU Vl
     go_wp2_with fail
     refine (dD.out _ LG.out).mono ?_
     rintro e w'' ⟨rfl, rfl⟩
     go_wp2_with fail
     go_roundw
     case rel => exact ⟨k + 1, aM.out, by go_num, yE.out.trans LG.out, fun j hj => if e : j = k then by subst e; exact HE.out else HD.out j (by omega)⟩
     case measure => have := aM.out; simp [intOf]; omega
    ·have HE : Hid (dh names k = 7) := IL.out
     have Vl : ¬ eR names nm = (k : Int) := fun e => by have := HFD.out.2 e; cases this
     have i2 : (eR names nm != (k : Int)) = true := by simpa using Vl
     go_wp2_with fail
     refine lu.out.mono ?_
     rintro e w' ⟨rfl, sU⟩
     have LG := aa (show Up wo w' from sU)
     have hc := LG.out.cell HC.out
     have sD := dJ.out.trans (yE.out.trans sU)
     have eZ := (Below.block (yE.out.trans sU) w.heap.size (by rw [tY.out]; omega)).trans gu.out
     obtain ⟨q0, q1, q2, q3⟩ := boxed eZ
     have HST := aa (pX (c := 7) (Nat.le_refl _) sD eZ ((IK.out (by rw [HE.out]; decide)).trans HE.out) (by decide))
     clear sD eZ sU
     go_wp2_with fail
     refine (dD.out _ LG.out).mono ?_
     rintro e w'' ⟨rfl, rfl⟩
     go_wp2_with fail
     obtain ⟨s2, s3, hp⟩ := HST.out
     exact ⟨rfl, .tuple #[.agg #[.slice none 0 0, .slice none 0 0], .int .i64 7], by simp [results, Tryz.results34, go_sem, s2, s3], hp⟩
  ·obtain rfl : k = names.length := by omega
   have ZQ : Hid (∀ j, j < names.length → dh names j = 0) := HD.out
   have HAE : Hid (dF names.length l = firstNZ (fun k => aF names.length (gl l k)) l.length) := by
    unfold Hid dF; rw [if_neg (by omega), if_neg (by omega)]
   have sw : Hid (cS names l = if dF names.length l ≠ 0 then dF names.length l else if 0 ≤ eC l then 17 else 0) := by
    unfold Hid; rw [AE.out, if_neg (by rw [cA HD.out]; decide), HAE.out]
   have gF := aa (dJ.out.trans yE.out)
   have eZ := (Below.block yE.out w.heap.size (by rw [tY.out]; omega)).trans gu.out
   have Vm := aa eZ
   have HLo := aa (aJ.keep mZ.out (yE.out.kept _))
   have cG := aa (Wc _ wo _ (names.length : Int) l HLo.out (by omega) HR.out)
   have LH : Hid (wM names.length l = (decide (dF names.length l = 0) && decide (eC l < 0))) := rfl
   have HPI := aa (AV (fun i => decide (0 ≤ dV l i)) l.length).2.2
   have Jn : Hid (w.heap.size < wo.heap.size) := by have h1 := yE.out.size; rw [tY.out] at h1; exact h1
   clear hlt hk eZ HD II AE yE gu dJ mZ su tY HAE
   by_cases ea : dF names.length l = 0
   case neg =>
    have HX : Hid (cS names l = dF names.length l) := by unfold Hid; rw [sw.out, if_pos ea]
    have HEA := aa ea
    have i1 : (dF (names.length : Int) l != 0) = true := by simpa using ea
    clear ea sw LH HPI
    go_wp2_with fail
    refine cG.out.mono ?_
    rintro e w2 ⟨rfl, aC⟩
    have eZ := (Below.block aC w.heap.size Jn.out).trans Vm.out
    obtain ⟨q0, q1, q2, q3⟩ := boxed eZ
    have HST := aa (pX (c := dF names.length l) (Nat.le_refl _) (gF.out.trans aC) eZ HX.out HEA.out)
    clear eZ aC HEA HX cG
    generalize dF (names.length : Int) l = ec at *
    go_wp2_with fail
    obtain ⟨s2, s3, hp⟩ := HST.out
    exact ⟨rfl, .tuple #[.agg #[.slice none 0 0, .slice none 0 0], .int .i64 ec], by simp [results, Tryz.results34, go_sem, s2, s3], hp⟩
   case pos =>
   rw [ea, if_neg (by decide)] at sw
   rw [ea] at cG LH
   clear ea
   by_cases ep : 0 ≤ eC l
   case pos =>
    have HX : Hid (cS names l = 17) := by unfold Hid; rw [sw.out, if_pos ep]
    have hab : wM names.length l = false := by rw [LH.out, decide_eq_false (show ¬ eC l < 0 by omega)]; rfl
    rw [hab] at cG
    clear ep sw LH HPI hab
    go_wp2_with fail
    refine cG.out.mono ?_
    rintro e w2 ⟨rfl, aC⟩
    have eZ := (Below.block aC w.heap.size Jn.out).trans Vm.out
    obtain ⟨q0, q1, q2, q3⟩ := boxed eZ
    have HST := aa (pX (c := 17) (Nat.le_refl _) (gF.out.trans aC) eZ HX.out (by decide))
    clear eZ aC cG
    go_wp2_with fail
    obtain ⟨s2, s3, hp⟩ := HST.out
    exact ⟨rfl, .tuple #[.agg #[.slice none 0 0, .slice none 0 0], .int .i64 17], by simp [results, Tryz.results34, go_sem, s2, s3], hp⟩
   case neg =>
   have HX : Hid (cS names l = 0) := by unfold Hid; rw [sw.out, if_neg ep]
   have fI := aa (xY.1 HX.out)
   have hab : wM names.length l = true := by rw [LH.out, decide_eq_true (show eC l < 0 by omega)]; rfl
   rw [hab] at cG
   clear ep sw LH HPI hab
   go_wp2_with fail
   refine cG.out.mono ?_
   rintro e w2 ⟨rfl, aC⟩
   have Ce := aa ((Below.block aC w.heap.size Jn.out).trans Vm.out)
   have bU := aa (gF.out.trans aC)
   have sV := aa (ay.keep LA.out (aC.kept _))
   have jr := aa (aJ.keep HLo.out (aC.kept _))
   have lK : Hid (w.heap.size < w2.heap.size) := Nat.lt_of_lt_of_le Jn.out aC.size
   clear aC cG gF Vm LA HLo Jn
   obtain ⟨IJ, no, rfl, hc0⟩ := cC sV.out U8
   rw [Nat.add_zero] at hc0
   by_cases n1 : names.length = 1
   ·have d3 : ((names.length : Int) == 1) = true := by simp [n1]
    obtain ⟨t1, t2, t3⟩ := kO w2 (.int .i64 (-1)) (.string (gs names 0)) 3 9
    have hb3 := (Below.block t1 w.heap.size lK.out).trans Ce.out
    have HST := aa (eM (w := w) (p := .slice (some ⟨w2.heap.size, 0, none⟩) 1 1) (q := .slice (some ⟨w2.heap.size + 1, 0, none⟩) 1 1) hb3 (Nat.le_refl _) (bU.out.trans t1))
    have H3 := aa (⟨t2, t3⟩ : _ ∧ _)
    have hres : bF names l = ⟨[-1], [gs names 0]⟩ := by unfold bF qa; rw [if_pos HX.out, if_pos n1]
    have vP := aa hres
    have hq := t1.cell hc0
    have hq' := (Up.alloc w2 (.cells #[.int .i64 (-1)] 3)).cell hc0
    obtain ⟨q0, q1, q2, q3⟩ := boxed hb3
    have n1' : (0 : Int) < (names.length : Int) := by omega
    clear n1 t1 t2 t3 hb3 hres
    go_wp2_with fail
    obtain ⟨s1, s2, s3, s4⟩ := HST.out
    have hsz := lK.out
    refine ⟨rfl, .tuple #[.agg #[.slice (some ⟨w2.heap.size, 0, none⟩) 1 1, .slice (some ⟨w2.heap.size + 1, 0, none⟩) 1 1], .int .i64 0], by simp [results, Tryz.results34, go_sem, s2, s3], s1, _, by rw [HX.out], ?_⟩
    rw [vP.out]
    exact ⟨_, _, rfl, De ((World.cell?_of_block (a := ⟨w2.heap.size, 0, none⟩) (s4 w2.heap.size (Nat.ne_of_gt hsz))).trans H3.out.1), Lh ((World.cell?_of_block (a := ⟨w2.heap.size + 1, 0, none⟩) (s4 (w2.heap.size + 1) (by omega))).trans H3.out.2)⟩
   have d3 : ((names.length : Int) == 1) = false := by simp; omega
   have T6 : Hid (2 ≤ names.length) := by unfold Hid; omega
   have bR := Up.alloc w2 (.cells #[.int .i64 0] 3)
   have Gd := De (gG w2 (.int .i64 0) 3)
   have uf := aa (EF _ _ _ names.length [0] Gd (by simp) AG ⟨List.pairwise_singleton _ _, fun x hx => by rw [List.mem_singleton.1 hx]; omega⟩ (fun x hx => by rw [List.mem_singleton.1 hx]; omega))
   have cR := aa bR
   have iE := aa hc0
   clear bR Gd n1 hc0
   go_wp2_with fail
   refine uf.out.mono ?_
   rintro e w4 ⟨dL, x, rfl, EL⟩
   have fB := aa (cR.out.trans dL)
   have Qd : Hid (af (fun b => b < w4.heap.size) w4 x (aS names.length [0])) := EL.ints.sub fun b _ hl => hl
   have Ko := fB.out.cell iE.out
   have hs4 : w2.heap.size ≤ w4.heap.size := fB.out.size
   obtain ⟨m1, m2, m3, m4, m5⟩ := Nq w4 (.int .i64 (-1)) (.int .i64 0) (.string ⟨#[]⟩) (.string (gs names 0)) 3 9 39
   have HM := aa (And.intro m1 (And.intro m2 (And.intro m3 (And.intro m4 m5))))
   have rO := aa hs4
   have n1' : (0 : Int) < (names.length : Int) := by omega
   have hc4' := (Up.alloc w4 (.cells #[.int .i64 (-1), .int .i64 0] 3)).cell Ko
   have hq := boxed m3
   obtain ⟨q0, q1, q2, q3⟩ := hq
   clear dL EL uf m1 m2 m3 m4 m5 hs4 cR
   go_wp2_with fail
   generalize (((w4.alloc _).alloc _).alloc _) = w7 at *
   obtain ⟨t0, wU⟩ : ∃ t0 : aA, t0 = ⟨[-1, 0], [ByteArray.empty, gs names 0]⟩ := ⟨_, rfl⟩
   have hT7 : TL w4.heap.size w7 (.slice (some ⟨w4.heap.size, 0, none⟩) 2 2) (.slice (some ⟨w4.heap.size + 1, 0, none⟩) 2 2) t0.ps t0.ns := by
    rw [wU]
    refine ⟨HM.out.1, HM.out.2.1, fun b h1 h2 => ?_⟩
    have h1 : some w4.heap.size = some b := h1
    have h2 : some (w4.heap.size + 1) = some b := h2
    injection h1 with h1; injection h2 with h2; omega
   have Vn := HM.out.2.2.2.1
   have Ij := HM.out.2.2.2.2
   have Nr : ∀ b, b < w4.heap.size → (Value.slice (some ⟨w4.heap.size, 0, none⟩) 2 2).ownBlock ≠ some b ∧ (Value.slice (some ⟨w4.heap.size + 1, 0, none⟩) 2 2).ownBlock ≠ some b := fun b hb => ⟨fun h1 => by
    have h1 : some w4.heap.size = some b := h1
    injection h1 with h1; omega, fun h1 => by
    have h1 : some (w4.heap.size + 1) = some b := h1
    injection h1 with h1; omega⟩
   have hs2 := lK.out
   have hs24 := rO.out
   have hgf := EH fI.out T6.out
   have hsz : t0.ps.length + aK (grR names l names.length (aS names.length [0])) ≤ 100000 := by
    have h1 := hgf.2.1
    rw [wU]
    rw [jt, aK, sizeRs, sizeRs] at h1
    show 2 + _ ≤ _
    omega
   have hrl := kP (n := names.length) (by omega)
   have HG := aa (Tw w4.heap.size names l AG yq fI.out.Zw (fun k hk => (fI.out.td _ (iC hk)).set) names.length (aS names.length [0]) (by omega) (fun e => by rw [e] at hrl; have := T6.out; simp at hrl; omega) ⟨jb _ _, fun x hx => by have := fq.1 hx; omega⟩ (fun x hx => by have := fq.1 hx; omega) w7 _ _ _ _ _ t0 0 hT7 (by omega) (by rw [wU]; rfl) hsz
    ((ay.keep (ay.keep sV.out (fB.out.kept _)) (Vn.kept _)).sub fun b hb _ => Nr b (by omega)) ((af.keep Qd.out (Vn.kept _)).sub fun b hb _ => Nr b hb) ((aJ.keep (aJ.keep jr.out (fB.out.kept _)) (Vn.kept _)).sub fun b hb _ => Nr b (by omega)))
   have G4 : Hid (t0.app (grR names l names.length (aS names.length [0])) 0 = flat (jt names l)) := by unfold Hid; rw [wU]; exact Wk names l
   have yB := aa (V8 fI.out T6.out)
   have Uq := aa hgf.2.1
   clear hT7 Vn Ij Nr hs2 hs24 hsz hrl hgf wU q0 q1 q2 q3
   refine HG.out.mono ?_
   rintro e w8 ⟨P8, N8, rfl, QV, Cy⟩
   rw [G4.out] at QV
   generalize hft : flat (jt names l) = ft at *
   obtain ⟨p8, c8, rfl, -, -⟩ := av.open QV.bg.ints
   obtain ⟨n8, d8, rfl, -, -⟩ := av.open QV.bA.strs
   have jJ : w8.heap[w4.heap.size + 1 + 1]? = some (Obj.cells #[.slice (some ⟨w4.heap.size, 0, none⟩) 2 2, .slice (some ⟨w4.heap.size + 1, 0, none⟩) 2 2] 39 (0, 0)) := by
    refine (Cy.block _ (by have := HM.out.2.2.2.2; omega) (by have := HM.out.2.2.2.2; omega) (fun e => ?_) (fun e => ?_)).trans HM.out.2.2.1
    ·have e : some (w4.heap.size + 1 + 1) = some w4.heap.size := e
     injection e with e; omega
    ·have e : some (w4.heap.size + 1 + 1) = some (w4.heap.size + 1) := e
     injection e with e; omega
   have jY : Up w4 w8 := by
    have LI := HM.out.2.2.2.1
    refine ⟨Cy.os.trans LI.os, Cy.tape.trans LI.tape, Cy.output.trans LI.output, Nat.le_trans LI.size Cy.size, fun b hb => ?_⟩
    refine (Cy.block b (Nat.lt_of_lt_of_le hb LI.size) (by have := HM.out.2.2.2.2; omega) (fun e => ?_) (fun e => ?_)).trans (LI.block b hb)
    ·have e : some b = some w4.heap.size := e
     injection e with e; omega
    ·have e : some b = some (w4.heap.size + 1) := e
     injection e with e; omega
   obtain ⟨q0, q1, q2, q3⟩ := boxed jJ
   have HST := aa (eM (w := w4) (p := .slice p8 ft.ps.length c8) (q := .slice n8 ft.ns.length d8) jJ (by omega) jY)
   have HB9 := aa (Wl (p := .slice p8 ft.ps.length c8) (q := .slice n8 ft.ns.length d8) jJ)
   have HT8 := aa QV
   have hnp : ∀ b, (Value.slice p8 ft.ps.length c8).ownBlock = some b → b ≠ w4.heap.size + 1 + 1 := fun b hb => by
    rcases Cy.fN b hb with h1 | h1
    ·have h1 : some w4.heap.size = some b := h1
     injection h1 with h1; omega
    ·have := HM.out.2.2.2.2; omega
   have hnn : ∀ b, (Value.slice n8 ft.ns.length d8).ownBlock = some b → b ≠ w4.heap.size + 1 + 1 := fun b hb => by
    rcases Cy.fO b hb with h1 | h1
    ·have h1 : some (w4.heap.size + 1) = some b := h1
     injection h1 with h1; omega
    ·have := HM.out.2.2.2.2; omega
   have HNP := aa (And.intro hnp hnn)
   clear QV Cy jJ jY hnp hnn HG HM Ko hc4'
   go_wp2_with fail
   obtain ⟨u9, q4, q5, hk9⟩ := HST.out
   have zN := HB9.out
   have HO9 := aa (And.intro (HT8.out.bg.dz fun b hb => hk9 b (HNP.out.1 b hb)) (HT8.out.bA.dz fun b hb => hk9 b (HNP.out.2 b hb)))
   have LD := aa u9
   clear HST HB9 HT8 HNP hk9 u9 q0 q1 q2 q3 q4 q5
   generalize (w8.setCell ⟨w4.heap.size + 1 + 1, 0, none⟩ _).setCell ⟨w4.heap.size + 1 + 1, 1, none⟩ _ = w9 at *
   have hft2 := hft
   have hps : ft.ps.length ≤ 64 ∧ ft.ns.length ≤ 64 := by
    rw [← hft, uy, CJ]
    exact ⟨Uq.out, Uq.out⟩
   have jd := aa (R4 _ w9 _ ft ⟨_, _, rfl, HO9.out.1.ints, HO9.out.2.strs⟩ (by omega) (by omega) (fun k => by rw [← hft]; exact QT names l HZ.out k))
   have vP : Hid (bF names l = rN ft) := by
    obtain ⟨g1, g2⟩ := yB.out
    unfold Hid bF
    rw [if_pos HX.out, ← g2, OZ (by rw [← hft] at *; exact g1)]
   have BV : Hid (aB ft = 0) := yB.out.1
   have Yd := aa ((Below.block (fB.out.trans LD.out) w.heap.size lK.out).trans Ce.out)
   have gR := aa (bU.out.trans (fB.out.trans LD.out))
   have HSZ9 : Hid (w.heap.size < w9.heap.size) := Nat.lt_of_lt_of_le lK.out (fB.out.trans LD.out).size
   clear hft hft2 hps yB HO9
   refine jd.out.mono ?_
   rintro e ox ⟨tU, ⟨hte, rfl⟩ | ⟨hte, cv, rfl, P8, N8, rfl, yy, lT⟩⟩
   ·exact absurd BV.out hte
   generalize rN ft = ct at *
   obtain ⟨p10, c10, rfl, -, -⟩ := av.open yy
   obtain ⟨n10, d10, rfl, -, -⟩ := av.open lT
   have y5 := (Below.block tU w.heap.size HSZ9.out).trans Yd.out
   obtain ⟨q0, q1, q2, q3⟩ := boxed y5
   have fe := aa (IG HSZ9.out y5 (gR.out.trans tU) yy lT HX.out vP.out)
   clear y5 tU hte yy lT
   go_wp2_with fail
   obtain ⟨s2, s3, hp⟩ := fe.out
   exact ⟨rfl, .tuple #[.agg #[.slice p10 _ c10, .slice n10 _ d10], .int .i64 0], by simp [results, Tryz.results34, go_sem, s2, s3], hp⟩
end Go.Proofs.YtpnmblnahjjmhaaGreat
