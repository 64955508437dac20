/- The contract of layer 32's reference's Build: the same as the program's. -/
import Derived.Test.YtpnmblnahjjmhaaGreatQ1
import Derived.Test.YtpnmblnahjjmhaaGreatQ47
import Derived.Test.YtpnmblnahjjmhaaGreatQ41
import Derived.Test.YtpnmblnahjjmhaaGreatQ48
import Derived.Test.YtpnmblnahjjmhaaGreatQ45
import Derived.Test.YtpnmblnahjjmhaaGreatQ19
namespace Go.Proofs.YtpnmblnahjjmhaaGreat
set_option maxRecDepth 100000
open Go.RowKit Go.Deep
theorem Wh {names : List ByteArray} {k : Nat} (hk : k < names.length) : dO names k = false ↔ fG names (gs names k) = (k : Int) := by
 constructor
 ·intro h
  refine It hk rfl fun j hj e => ?_
  have := any_false h hj
  rw [decide_eq_false_iff_not] at this
  exact this e
 ·intro h
  obtain ⟨_, _, h3⟩ := nZ h
  refine any_none fun j hj => ?_
  have := h3 j hj
  rw [decide_eq_false_iff_not] at this ⊢
  exact fun e => this e.symm
theorem Jl (W : World) (base : Nat) (e : TypeId) (u v : Value) (h : base ≤ W.heap.size) : ay base e (W.alloc (.cells #[u, v] e)) (.slice (some ⟨W.heap.size, 0, none⟩) 2 2) [u, v] :=
 ⟨rfl, .inr ⟨W.heap.size, 2, #[u, v], rfl, h, blk_alloc_new W _, Nat.le_refl _, by decide, rfl, rfl⟩⟩
theorem Wi (names : List ByteArray) (l : List (List Int)) : aJ.app ⟨[-1, 0], [ByteArray.empty, gs names 0]⟩ (grR names l names.length (bw names.length [0])) 0 = flat (jU names l) := by
 unfold aJ.app flat jU gE
 simp [psR, psRs, cT, cR, aS, sizeRs]
theorem Wj {W : World} {B : Nat} {x y p q : Value} {T : TypeId} (hb : W.heap[B]? = some (Obj.cells #[x, y] T (0, 0))) : ((W.setCell ⟨B, 0, none⟩ p).setCell ⟨B, 1, none⟩ q).heap[B]? = some (Obj.cells #[p, q] T (0, 0)) := by
 simp [World.setCell, Array.getElem?_modify, hb]
theorem E3 {names : List ByteArray} {l : List (List Int)} {M : Nat} (hz : ∀ k, (gs names k).size ≤ M) : ∀ (d : Nat) (set : List Int), ∀ s ∈ cT (grR names l d set), s.size ≤ M
 | 0, set, s, hs => by
  rw [grR, cT, cR, List.mem_singleton] at hs
  rw [hs]; exact Nat.zero_le _
 | d + 1, set, s, hs => by
  have hlf : ∀ x : Int, ∀ s ∈ cT (gE names x), s.size ≤ M := fun x s hs => by
   rw [gE, cT, cR, List.mem_singleton] at hs
   rw [hs]; exact hz _
  have hks : ∀ ks : List RT, (∀ k ∈ ks, ∀ s ∈ cT k, s.size ≤ M) → ∀ s ∈ cR ks, s.size ≤ M := fun ks => by
   induction ks with
   | nil => intro _ s hs; rw [cR] at hs; cases hs
   | cons k ks ih =>
    intro h s hs
    rw [cR] at hs
    rcases List.mem_append.1 hs with hs | hs
    ·exact h k (by simp) s hs
    ·exact ih (fun k hk => h k (by simp [hk])) s hs
  rw [grR] at hs
  split at hs
  ·exact hlf _ s hs
  ·rw [cT] at hs
   rcases List.mem_cons.1 hs with rfl | hs
   ·exact Nat.zero_le _
   ·refine hks _ (fun k hk => ?_) s hs
    rcases List.mem_append.1 hk with hk | hk
    ·obtain ⟨g, _, rfl⟩ := List.mem_map.1 hk
     exact E3 hz d g
    ·obtain ⟨x, _, rfl⟩ := List.mem_map.1 hk
     exact hlf x
theorem QX (names : List ByteArray) (l : List (List Int)) {M : Nat} (hz : ∀ k, (gs names k).size ≤ M) (k : Nat) : (gs (flat (jU names l)).ns k).size ≤ M := by
 have h : ∀ s ∈ (flat (jU names l)).ns, s.size ≤ M := fun s hs => by
  have hs : s ∈ cT (jU names l) := hs
  rw [jU, cT, cR, cR, cR, gE, cT, cR] at hs
  rcases List.mem_cons.1 hs with rfl | hs
  ·exact Nat.zero_le _
  rcases List.mem_append.1 hs with hs | hs
  ·rw [List.mem_singleton.1 hs]; exact hz _
  ·rw [List.append_nil] at hs
   exact E3 hz _ _ s hs
 by_cases hk : k < (flat (jU names l)).ns.length
 ·have : gs (flat (jU names l)).ns k = (flat (jU names l)).ns[k] := by simp [gs, hk]
  rw [this]; exact h _ (List.getElem_mem hk)
 ·have : gs (flat (jU names l)).ns k = ByteArray.empty := by simp [gs, hk]
  rw [this]; exact Nat.zero_le _
theorem Ns (w : World) (u v a b : Value) (T U R : TypeId) :
  ay w.heap.size T (((w.alloc (.cells #[u, v] T)).alloc (.cells #[a, b] U)).alloc (.cells #[.slice (some ⟨w.heap.size, 0, none⟩) 2 2, .slice (some ⟨w.heap.size + 1, 0, none⟩) 2 2] R)) (.slice (some ⟨w.heap.size, 0, none⟩) 2 2) [u, v] ∧ ay w.heap.size U (((w.alloc (.cells #[u, v] T)).alloc (.cells #[a, b] U)).alloc (.cells #[.slice (some ⟨w.heap.size, 0, none⟩) 2 2, .slice (some ⟨w.heap.size + 1, 0, none⟩) 2 2] R)) (.slice (some ⟨w.heap.size + 1, 0, none⟩) 2 2) [a, b] ∧
  (((w.alloc (.cells #[u, v] T)).alloc (.cells #[a, b] U)).alloc (.cells #[.slice (some ⟨w.heap.size, 0, none⟩) 2 2, .slice (some ⟨w.heap.size + 1, 0, none⟩) 2 2] R)).heap[w.heap.size + 1 + 1]? = some (Obj.cells #[.slice (some ⟨w.heap.size, 0, none⟩) 2 2, .slice (some ⟨w.heap.size + 1, 0, none⟩) 2 2] R (0, 0)) ∧ Up w (((w.alloc (.cells #[u, v] T)).alloc (.cells #[a, b] U)).alloc (.cells #[.slice (some ⟨w.heap.size, 0, none⟩) 2 2, .slice (some ⟨w.heap.size + 1, 0, none⟩) 2 2] R)) ∧ (((w.alloc (.cells #[u, v] T)).alloc (.cells #[a, b] U)).alloc (.cells #[.slice (some ⟨w.heap.size, 0, none⟩) 2 2, .slice (some ⟨w.heap.size + 1, 0, none⟩) 2 2] R)).heap.size = w.heap.size + 3 := by
 have u1 := Up.alloc w (.cells #[u, v] T)
 have u2 := Up.alloc (w.alloc (.cells #[u, v] T)) (.cells #[a, b] U)
 have o1 := Jl w w.heap.size T u v (Nat.le_refl _)
 have o2 := Jl (w.alloc (.cells #[u, v] T)) w.heap.size U a b (by simp)
 have o1 := (o1.alloc (.cells #[a, b] U)).alloc (.cells #[.slice (some ⟨w.heap.size, 0, none⟩) 2 2, .slice (some ⟨w.heap.size + 1, 0, none⟩) 2 2] R)
 have o2 := o2.alloc (.cells #[.slice (some ⟨w.heap.size, 0, none⟩) 2 2, .slice (some ⟨w.heap.size + 1, 0, none⟩) 2 2] R)
 have u3 := (u1.trans u2).trans (Up.alloc _ (.cells #[.slice (some ⟨w.heap.size, 0, none⟩) 2 2, .slice (some ⟨w.heap.size + 1, 0, none⟩) 2 2] R))
 have hb := lu (w := (w.alloc (.cells #[u, v] T)).alloc (.cells #[a, b] U)) (P := .slice (some ⟨w.heap.size, 0, none⟩) 2 2) (N := .slice (some ⟨w.heap.size + 1, 0, none⟩) 2 2) (T := R)
 have hs1 : (w.alloc (.cells #[u, v] T)).heap.size = w.heap.size + 1 := by simp
 have hs2 : ((w.alloc (.cells #[u, v] T)).alloc (.cells #[a, b] U)).heap.size = w.heap.size + 1 + 1 := by simp
 rw [hs1] at o2
 rw [hs2] at hb
 exact ⟨o1, o2, hb, u3, by simp⟩
set_option maxHeartbeats 8000000 in
theorem QY (S : Nat → Prop) (w : World) (v vl : Value) (names : List ByteArray) (l : List (List Int)) (h : aG S w v names) (hL : aR S w vl l) (hn : names.length ≤ 1000000) (hz : ∀ k, (gs names k).size ≤ 70000) (o6 : l.length ≤ 1000000) (hr : ∀ k, (gl l k).length ≤ 1000000) :
  Calls Tryz.prog 34 #[v, vl] w (yN w names l) := by
 obtain ⟨lp, lc, rfl, -, -⟩ := dF hL
 obtain ⟨p, cap, rfl, hcap, _⟩ := aC.open h
 have h : aG S w (.slice p names.length cap) names := h
 have cK : Up w (w.alloc (.cells #[.slice none 0 0, .slice none 0 0] 39)) := Up.alloc _ _
 have hrb := lu (w := w) (P := .slice none 0 0) (N := .slice none 0 0) (T := 39)
 obtain ⟨q0, q1, q2, q3⟩ := boxed hrb
 have C7 : (w.alloc (.cells #[.slice none 0 0, .slice none 0 0] 39)).heap.size = w.heap.size + 1 := by simp
 have s0 := ag (aG.keep (h.sub (T := fun b => b < w.heap.size) fun b _ hb => hb) (cK.kept _))
 have nW := ag (aR.keep (hL.sub (T := fun b => b < w.heap.size) fun b _ hb => hb) (cK.kept _))
 have uB := ag C7
 have eD := ag cK
 have gQ := ag hrb
 have HZ := ag hz
 have HR := ag hr
 have ir : Hid (dJ names l = if names.length = 0 then 5 else if 32 < names.length ∨ 64 < l.length then 4
  else if firstNZ (dR names) names.length ≠ 0 then firstNZ (dR names) names.length
  else if firstNZ (fun k => aN names.length (gl l k)) l.length ≠ 0 then firstNZ (fun k => aN names.length (gl l k)) l.length
  else if 0 ≤ fm l then 17 else 0) := rfl
 clear h hL cK hrb C7 hz hr
 by_cases c0 : names.length = 0
 ·have cu := ag (rO (c := 5) eD.out gQ.out (by rw [ir.out, if_pos c0]) (by decide))
  have d0 : ((names.length : Int) == 0) = true := by simp [c0]
  clear c0
  aq Tryz.func34, Tryz.ntmps34
  aa fail
  obtain ⟨s2, s3, hp⟩ := cu.out
  exact ⟨rfl, .tuple #[.agg #[.slice none 0 0, .slice none 0 0], .int .i64 5], by simp [results, Tryz.results34, go_sem, s2, s3], hp⟩
 have d0 : ((names.length : Int) == 0) = false := by simpa using c0
 by_cases c1 : 32 < names.length
 ·have cu := ag (rO (c := 4) eD.out gQ.out (by rw [ir.out, if_neg c0, if_pos (.inl c1)]) (by decide))
  have d1 : decide ((32 : Int) < (names.length : Int)) = true := by simp; omega
  clear c0
  aq Tryz.func34, Tryz.ntmps34
  aa fail
  obtain ⟨s2, s3, hp⟩ := cu.out
  exact ⟨rfl, .tuple #[.agg #[.slice none 0 0, .slice none 0 0], .int .i64 4], by simp [results, Tryz.results34, go_sem, s2, s3], hp⟩
 have d1 : decide ((32 : Int) < (names.length : Int)) = false := by simp; omega
 by_cases c2 : 64 < l.length
 ·have cu := ag (rO (c := 4) eD.out gQ.out (by rw [ir.out, if_neg c0, if_pos (.inr c2)]) (by decide))
  have d2 : decide ((64 : Int) < (l.length : Int)) = true := by simp; omega
  clear c0 c1
  aq Tryz.func34, Tryz.ntmps34
  aa fail
  obtain ⟨s2, s3, hp⟩ := cu.out
  exact ⟨rfl, .tuple #[.agg #[.slice none 0 0, .slice none 0 0], .int .i64 4], by simp [results, Tryz.results34, go_sem, s2, s3], hp⟩
 have d2 : decide ((64 : Int) < (l.length : Int)) = false := by simp; omega
 have AY : Hid (dJ names l = if firstNZ (dR names) names.length ≠ 0 then firstNZ (dR names) names.length
  else if firstNZ (fun k => aN names.length (gl l k)) l.length ≠ 0 then firstNZ (fun k => aN names.length (gl l k)) l.length
  else if 0 ≤ fm l then 17 else 0) := by unfold Hid; rw [ir.out, if_neg c0, if_neg (by omega)]
 have U6 : 0 < names.length := by omega
 have AZ : names.length ≤ 32 := by omega
 have yJ : l.length ≤ 64 := by omega
 clear ir c0 c1 c2
 have IG : Hid (∀ k, k < names.length → (∀ j, j < k → dR names j = 0) → dR names k ≠ 0 → dJ names l = dR names k) := fun k hk hj h0 => by
  have h1 := fM hk hj h0
  rw [AY.out, h1, if_pos h0]
 aq Tryz.func34, Tryz.ntmps34
 aa fail
 generalize w.alloc (.cells #[.slice none 0 0, .slice none 0 0] 39) = w1 at *
 clear q0 q1 q2 q3
 aV [6] (fun i wr => ∃ k : Nat, k ≤ names.length ∧ i = .int .i64 k ∧ Hid (Up w1 wr) ∧ Hid (∀ j, j < k → dR names j = 0)) (fun i _ => names.length - (intOf i).toNat)
 case atStart => exact ⟨0, Nat.zero_le _, rfl, Up.refl _, fun j hj => absurd hj (Nat.not_lt_zero _)⟩
 case round =>
  obtain ⟨k, hk, rfl, hUk, hd⟩ := bE
  obtain ⟨wo, rfl⟩ : ∃ wo : World, wo = wr := ⟨_, rfl⟩
  have yU := ag hUk.out
  have HD := ag hd.out
  have LD := ag (aG.keep s0.out (yU.out.kept _))
  have i0 : (0 : Int) ≤ (k : Int) := by omega
  clear hUk hd
  by_cases hlt : k < names.length
  ·obtain ⟨II, no, rfl, hc⟩ := dh LD.out hlt
   have mz := ag (Ql (gs names k) (HZ.out k) wo)
   have ew : Hid (∀ W, Up wo W → Calls Tryz.prog 116 #[.slice (some ⟨II, no, none⟩) names.length cap, .string (gs names k)] W fun e w' => e = .returned (.int .i64 (fG names (gs names k))) ∧ W = w') := fun W hW => yI _ W _ names _ (aG.keep LD.out (hW.kept _)) (by omega)
   have IJ := ag (IG.out k hlt HD.out)
   have IK : Hid (dR names k = if bM (gs names k).data.toList then (if dO names k then 7 else 0) else 14) := rfl
   have HFD := ag (Wh hlt)
   have aU := ag hlt
   have HC := ag hc
   generalize gs names k = nm at *
   generalize dO names k = bs at *
   generalize bM nm.data.toList = bn at *
   have i1 : (k : Int) < (names.length : Int) := by omega
   cases bn
   ·have HE : Hid (dR names k = 14) := IK.out
    aa fail
    refine mz.out.mono ?_
    rintro e w' ⟨rfl, tB⟩
    have s8 := eD.out.trans (yU.out.trans tB)
    have fN := (Below.block (yU.out.trans tB) w.heap.size (by rw [uB.out]; omega)).trans gQ.out
    obtain ⟨q0, q1, q2, q3⟩ := boxed fN
    have cu := ag (qE (c := 14) (Nat.le_refl _) s8 fN ((IJ.out (by rw [HE.out]; decide)).trans HE.out) (by decide))
    clear s8 fN tB
    aa fail
    obtain ⟨s2, s3, hp⟩ := cu.out
    exact ⟨rfl, .tuple #[.agg #[.slice none 0 0, .slice none 0 0], .int .i64 14], by simp [results, Tryz.results34, go_sem, s2, s3], hp⟩
   ·cases bs
    ·have HE : Hid (dR names k = 0) := IK.out
     have Vk := HFD.out.1 rfl
     have i2 : (fG names nm != (k : Int)) = false := by rw [Vk]; simp
     aa fail
     refine mz.out.mono ?_
     rintro e w' ⟨rfl, tB⟩
     have LJ := ag (show Up wo w' from tB)
     have hc := LJ.out.cell HC.out
     clear tB Vk
     aa fail
     refine (ew.out _ LJ.out).mono ?_
     rintro e w'' ⟨rfl, rfl⟩
     aa fail
     aF
     case rel => exact ⟨k + 1, aU.out, by aH, yU.out.trans LJ.out, fun j hj => if e : j = k then by subst e; exact HE.out else HD.out j (by omega)⟩
     case measure => have := aU.out; simp [intOf]; omega
    ·have HE : Hid (dR names k = 7) := IK.out
     have Vk : ¬ fG names nm = (k : Int) := fun e => by have := HFD.out.2 e; cases this
     have i2 : (fG names nm != (k : Int)) = true := by simpa using Vk
     aa fail
     refine mz.out.mono ?_
     rintro e w' ⟨rfl, tB⟩
     have LJ := ag (show Up wo w' from tB)
     have hc := LJ.out.cell HC.out
     have s8 := eD.out.trans (yU.out.trans tB)
     have fN := (Below.block (yU.out.trans tB) w.heap.size (by rw [uB.out]; omega)).trans gQ.out
     obtain ⟨q0, q1, q2, q3⟩ := boxed fN
     have cu := ag (qE (c := 7) (Nat.le_refl _) s8 fN ((IJ.out (by rw [HE.out]; decide)).trans HE.out) (by decide))
     clear s8 fN tB
     aa fail
     refine (ew.out _ LJ.out).mono ?_
     rintro e w'' ⟨rfl, rfl⟩
     aa fail
     obtain ⟨s2, s3, hp⟩ := cu.out
     exact ⟨rfl, .tuple #[.agg #[.slice none 0 0, .slice none 0 0], .int .i64 7], by simp [results, Tryz.results34, go_sem, s2, s3], hp⟩
  ·obtain rfl : k = names.length := by omega
   have ZM : Hid (∀ j, j < names.length → dR names j = 0) := HD.out
   have HAE : Hid (ey names.length l = firstNZ (fun k => aN names.length (gl l k)) l.length) := by
    unfold Hid ey; rw [if_neg (by omega), if_neg (by omega)]
   have s5 : Hid (dJ names l = if ey names.length l ≠ 0 then ey names.length l else if 0 ≤ fm l then 17 else 0) := by
    unfold Hid; rw [AY.out, if_neg (by rw [c9 HD.out]; decide), HAE.out]
   have ic := ag (eD.out.trans yU.out)
   have fN := (Below.block yU.out w.heap.size (by rw [uB.out]; omega)).trans gQ.out
   have Vl := ag fN
   have HLo := ag (aR.keep nW.out (yU.out.kept _))
   have dw := ag (Wb _ wo _ (names.length : Int) l HLo.out (by omega) HR.out)
   have LK : Hid (xe names.length l = (decide (ey names.length l = 0) && decide (fm l < 0))) := rfl
   have HPI := ag (Bc (fun i => decide (0 ≤ eV l i)) l.length).2.2
   have Jm : Hid (w.heap.size < wo.heap.size) := by have h1 := yU.out.size; rw [uB.out] at h1; exact h1
   clear hlt hk fN HD IG AY yU gQ eD nW s0 uB HAE
   by_cases ea : ey names.length l = 0
   case neg =>
    have HX : Hid (dJ names l = ey names.length l) := by unfold Hid; rw [s5.out, if_pos ea]
    have HEA := ag ea
    have i1 : (ey (names.length : Int) l != 0) = true := by simpa using ea
    clear ea s5 LK HPI
    aa fail
    refine dw.out.mono ?_
    rintro e w2 ⟨rfl, aL⟩
    have fN := (Below.block aL w.heap.size Jm.out).trans Vl.out
    obtain ⟨q0, q1, q2, q3⟩ := boxed fN
    have cu := ag (qE (c := ey names.length l) (Nat.le_refl _) (ic.out.trans aL) fN HX.out HEA.out)
    clear fN aL HEA HX dw
    generalize ey (names.length : Int) l = ec at *
    aa fail
    obtain ⟨s2, s3, hp⟩ := cu.out
    exact ⟨rfl, .tuple #[.agg #[.slice none 0 0, .slice none 0 0], .int .i64 ec], by simp [results, Tryz.results34, go_sem, s2, s3], hp⟩
   case pos =>
   rw [ea, if_neg (by decide)] at s5
   rw [ea] at dw LK
   clear ea
   by_cases ep : 0 ≤ fm l
   case pos =>
    have HX : Hid (dJ names l = 17) := by unfold Hid; rw [s5.out, if_pos ep]
    have hab : xe names.length l = false := by rw [LK.out, decide_eq_false (show ¬ fm l < 0 by omega)]; rfl
    rw [hab] at dw
    clear ep s5 LK HPI hab
    aa fail
    refine dw.out.mono ?_
    rintro e w2 ⟨rfl, aL⟩
    have fN := (Below.block aL w.heap.size Jm.out).trans Vl.out
    obtain ⟨q0, q1, q2, q3⟩ := boxed fN
    have cu := ag (qE (c := 17) (Nat.le_refl _) (ic.out.trans aL) fN HX.out (by decide))
    clear fN aL dw
    aa fail
    obtain ⟨s2, s3, hp⟩ := cu.out
    exact ⟨rfl, .tuple #[.agg #[.slice none 0 0, .slice none 0 0], .int .i64 17], by simp [results, Tryz.results34, go_sem, s2, s3], hp⟩
   case neg =>
   have HX : Hid (dJ names l = 0) := by unfold Hid; rw [s5.out, if_neg ep]
   have gu := ag (yt.1 HX.out)
   have hab : xe names.length l = true := by rw [LK.out, decide_eq_true (show fm l < 0 by omega)]; rfl
   rw [hab] at dw
   clear ep s5 LK HPI hab
   aa fail
   refine dw.out.mono ?_
   rintro e w2 ⟨rfl, aL⟩
   have Co := ag ((Below.block aL w.heap.size Jm.out).trans Vl.out)
   have cM := ag (ic.out.trans aL)
   have tC := ag (aG.keep LD.out (aL.kept _))
   have jS := ag (aR.keep HLo.out (aL.kept _))
   have mL : Hid (w.heap.size < w2.heap.size) := Nat.lt_of_lt_of_le Jm.out aL.size
   clear aL dw ic Vl LD HLo Jm
   obtain ⟨II, no, rfl, hc0⟩ := dh tC.out U6
   rw [Nat.add_zero] at hc0
   by_cases n1 : names.length = 1
   ·have d3 : ((names.length : Int) == 1) = true := by simp [n1]
    obtain ⟨t1, t2, t3⟩ := lP w2 (.int .i64 (-1)) (.string (gs names 0)) 3 9
    have jL := (Below.block t1 w.heap.size mL.out).trans Co.out
    have cu := ag (fD (w := w) (p := .slice (some ⟨w2.heap.size, 0, none⟩) 1 1) (q := .slice (some ⟨w2.heap.size + 1, 0, none⟩) 1 1) jL (Nat.le_refl _) (cM.out.trans t1))
    have H3 := ag (⟨t2, t3⟩ : _ ∧ _)
    have hres : cr names l = ⟨[-1], [gs names 0]⟩ := by unfold cr qK; rw [if_pos HX.out, if_pos n1]
    have wv := ag hres
    have hq := t1.cell hc0
    have hq' := (Up.alloc w2 (.cells #[.int .i64 (-1)] 3)).cell hc0
    obtain ⟨q0, q1, q2, q3⟩ := boxed jL
    have n1' : (0 : Int) < (names.length : Int) := by omega
    clear n1 t1 t2 t3 jL hres
    aa fail
    obtain ⟨s1, s2, s3, s4⟩ := cu.out
    have hsz := mL.out
    refine ⟨rfl, .tuple #[.agg #[.slice (some ⟨w2.heap.size, 0, none⟩) 1 1, .slice (some ⟨w2.heap.size + 1, 0, none⟩) 1 1], .int .i64 0], by simp [results, Tryz.results34, go_sem, s2, s3], s1, _, by rw [HX.out], ?_⟩
    rw [wv.out]
    exact ⟨_, _, rfl, Dp ((World.cell?_of_block (a := ⟨w2.heap.size, 0, none⟩) (s4 w2.heap.size (Nat.ne_of_gt hsz))).trans H3.out.1), Ll ((World.cell?_of_block (a := ⟨w2.heap.size + 1, 0, none⟩) (s4 (w2.heap.size + 1) (by omega))).trans H3.out.2)⟩
   have d3 : ((names.length : Int) == 1) = false := by simp; omega
   have TZ : Hid (2 ≤ names.length) := by unfold Hid; omega
   have cL := Up.alloc w2 (.cells #[.int .i64 0] 3)
   have Gh := Dp (ig w2 (.int .i64 0) 3)
   have uG := ag (EL _ _ _ names.length [0] Gh (by simp) AZ ⟨List.pairwise_singleton _ _, fun x hx => by rw [List.mem_singleton.1 hx]; omega⟩ (fun x hx => by rw [List.mem_singleton.1 hx]; omega))
   have dI := ag cL
   have iZ := ag hc0
   clear cL Gh n1 hc0
   aa fail
   refine uG.out.mono ?_
   rintro e w4 ⟨eG, x, rfl, ES⟩
   have gd := ag (dI.out.trans eG)
   have Qg : Hid (an (fun b => b < w4.heap.size) w4 x (bw names.length [0])) := ES.ints.sub fun b _ hl => hl
   have Kq := gd.out.cell iZ.out
   have hs4 : w2.heap.size ≤ w4.heap.size := gd.out.size
   obtain ⟨m1, m2, m3, m4, m5⟩ := Ns w4 (.int .i64 (-1)) (.int .i64 0) (.string ⟨#[]⟩) (.string (gs names 0)) 3 9 39
   have HM := ag (And.intro m1 (And.intro m2 (And.intro m3 (And.intro m4 m5))))
   have sC := ag hs4
   have n1' : (0 : Int) < (names.length : Int) := by omega
   have hc4' := (Up.alloc w4 (.cells #[.int .i64 (-1), .int .i64 0] 3)).cell Kq
   have hq := boxed m3
   obtain ⟨q0, q1, q2, q3⟩ := hq
   clear eG ES uG m1 m2 m3 m4 m5 hs4 dI
   aa fail
   generalize (((w4.alloc _).alloc _).alloc _) = w7 at *
   obtain ⟨t0, xy⟩ : ∃ t0 : aJ, t0 = ⟨[-1, 0], [ByteArray.empty, gs names 0]⟩ := ⟨_, rfl⟩
   have hT7 : TL w4.heap.size w7 (.slice (some ⟨w4.heap.size, 0, none⟩) 2 2) (.slice (some ⟨w4.heap.size + 1, 0, none⟩) 2 2) t0.ps t0.ns := by
    rw [xy]
    refine ⟨HM.out.1, HM.out.2.1, fun b h1 h2 => ?_⟩
    have h1 : some w4.heap.size = some b := h1
    have h2 : some (w4.heap.size + 1) = some b := h2
    injection h1 with h1; injection h2 with h2; omega
   have Vm := HM.out.2.2.2.1
   have Im := HM.out.2.2.2.2
   have Nt : ∀ b, b < w4.heap.size → (Value.slice (some ⟨w4.heap.size, 0, none⟩) 2 2).ownBlock ≠ some b ∧ (Value.slice (some ⟨w4.heap.size + 1, 0, none⟩) 2 2).ownBlock ≠ some b := fun b hb => ⟨fun h1 => by
    have h1 : some w4.heap.size = some b := h1
    injection h1 with h1; omega, fun h1 => by
    have h1 : some (w4.heap.size + 1) = some b := h1
    injection h1 with h1; omega⟩
   have hs2 := mL.out
   have hs24 := sC.out
   have hgf := EN gu.out TZ.out
   have hsz : t0.ps.length + aS (grR names l names.length (bw names.length [0])) ≤ 100000 := by
    have h1 := hgf.2.1
    rw [xy]
    rw [jU, aS, sizeRs, sizeRs] at h1
    show 2 + _ ≤ _
    omega
   have hrl := lQ (n := names.length) (by omega)
   have HG := ag (Tt w4.heap.size names l AZ yJ gu.out.Zt (fun k hk => (gu.out.tN _ (iX hk)).set) names.length (bw names.length [0]) (by omega) (fun e => by rw [e] at hrl; have := TZ.out; simp at hrl; omega) ⟨jF _ _, fun x hx => by have := fV.1 hx; omega⟩ (fun x hx => by have := fV.1 hx; omega) w7 _ _ _ _ _ t0 0 hT7 (by omega) (by rw [xy]; rfl) hsz
    ((aG.keep (aG.keep tC.out (gd.out.kept _)) (Vm.kept _)).sub fun b hb _ => Nt b (by omega)) ((an.keep Qg.out (Vm.kept _)).sub fun b hb _ => Nt b hb) ((aR.keep (aR.keep jS.out (gd.out.kept _)) (Vm.kept _)).sub fun b hb _ => Nt b (by omega)))
   have G6 : Hid (t0.app (grR names l names.length (bw names.length [0])) 0 = flat (jU names l)) := by unfold Hid; rw [xy]; exact Wi names l
   have yR := ag (V7 gu.out TZ.out)
   have Um := ag hgf.2.1
   clear hT7 Vm Im Nt hs2 hs24 hsz hrl hgf xy q0 q1 q2 q3
   refine HG.out.mono ?_
   rintro e w8 ⟨P8, N8, rfl, QZ, CI⟩
   rw [G6.out] at QZ
   generalize hft : flat (jU names l) = ft at *
   obtain ⟨p8, c8, rfl, -, -⟩ := aC.open QZ.bJ.ints
   obtain ⟨n8, d8, rfl, -, -⟩ := aC.open QZ.bW.strs
   have kB : w8.heap[w4.heap.size + 1 + 1]? = some (Obj.cells #[.slice (some ⟨w4.heap.size, 0, none⟩) 2 2, .slice (some ⟨w4.heap.size + 1, 0, none⟩) 2 2] 39 (0, 0)) := by
    refine (CI.block _ (by have := HM.out.2.2.2.2; omega) (by have := HM.out.2.2.2.2; omega) (fun e => ?_) (fun e => ?_)).trans HM.out.2.2.1
    ·have e : some (w4.heap.size + 1 + 1) = some w4.heap.size := e
     injection e with e; omega
    ·have e : some (w4.heap.size + 1 + 1) = some (w4.heap.size + 1) := e
     injection e with e; omega
   have kS : Up w4 w8 := by
    have LL := HM.out.2.2.2.1
    refine ⟨CI.os.trans LL.os, CI.tape.trans LL.tape, CI.output.trans LL.output, Nat.le_trans LL.size CI.size, fun b hb => ?_⟩
    refine (CI.block b (Nat.lt_of_lt_of_le hb LL.size) (by have := HM.out.2.2.2.2; omega) (fun e => ?_) (fun e => ?_)).trans (LL.block b hb)
    ·have e : some b = some w4.heap.size := e
     injection e with e; omega
    ·have e : some b = some (w4.heap.size + 1) := e
     injection e with e; omega
   obtain ⟨q0, q1, q2, q3⟩ := boxed kB
   have cu := ag (fD (w := w4) (p := .slice p8 ft.ps.length c8) (q := .slice n8 ft.ns.length d8) kB (by omega) kS)
   have HB9 := ag (Wj (p := .slice p8 ft.ps.length c8) (q := .slice n8 ft.ns.length d8) kB)
   have HT8 := ag QZ
   have hnp : ∀ b, (Value.slice p8 ft.ps.length c8).ownBlock = some b → b ≠ w4.heap.size + 1 + 1 := fun b hb => by
    rcases CI.gA b hb with h1 | h1
    ·have h1 : some w4.heap.size = some b := h1
     injection h1 with h1; omega
    ·have := HM.out.2.2.2.2; omega
   have hnn : ∀ b, (Value.slice n8 ft.ns.length d8).ownBlock = some b → b ≠ w4.heap.size + 1 + 1 := fun b hb => by
    rcases CI.gB b hb with h1 | h1
    ·have h1 : some (w4.heap.size + 1) = some b := h1
     injection h1 with h1; omega
    ·have := HM.out.2.2.2.2; omega
   have HNP := ag (And.intro hnp hnn)
   clear QZ CI kB kS hnp hnn HG HM Kq hc4'
   aa fail
   obtain ⟨u9, q4, q5, hk9⟩ := cu.out
   have Ab := HB9.out
   have HO9 := ag (And.intro (HT8.out.bJ.ef fun b hb => hk9 b (HNP.out.1 b hb)) (HT8.out.bW.ef fun b hb => hk9 b (HNP.out.2 b hb)))
   have LI := ag u9
   clear cu HB9 HT8 HNP hk9 u9 q0 q1 q2 q3 q4 q5
   generalize (w8.setCell ⟨w4.heap.size + 1 + 1, 0, none⟩ _).setCell ⟨w4.heap.size + 1 + 1, 1, none⟩ _ = w9 at *
   have hft2 := hft
   have hps : ft.ps.length ≤ 64 ∧ ft.ns.length ≤ 64 := by
    rw [← hft, uT, CT]
    exact ⟨Um.out, Um.out⟩
   have jH := ag (R4 _ w9 _ ft ⟨_, _, rfl, HO9.out.1.ints, HO9.out.2.strs⟩ (by omega) (by omega) (fun k => by rw [← hft]; exact QX names l HZ.out k))
   have wv : Hid (cr names l = sB ft) := by
    obtain ⟨g1, g2⟩ := yR.out
    unfold Hid cr
    rw [if_pos HX.out, ← g2, O1 (by rw [← hft] at *; exact g1)]
   have B9 : Hid (aK ft = 0) := yR.out.1
   have Ya := ag ((Below.block (gd.out.trans LI.out) w.heap.size mL.out).trans Co.out)
   have iD := ag (cM.out.trans (gd.out.trans LI.out))
   have HSZ9 : Hid (w.heap.size < w9.heap.size) := Nat.lt_of_lt_of_le mL.out (gd.out.trans LI.out).size
   clear hft hft2 hps yR HO9
   refine jH.out.mono ?_
   rintro e o9 ⟨uy, ⟨hte, rfl⟩ | ⟨hte, cv, rfl, P8, N8, rfl, yO, mR⟩⟩
   ·exact absurd B9.out hte
   generalize sB ft = ct at *
   obtain ⟨p10, c10, rfl, -, -⟩ := aC.open yO
   obtain ⟨n10, d10, rfl, -, -⟩ := aC.open mR
   have zm := (Below.block uy w.heap.size HSZ9.out).trans Ya.out
   obtain ⟨q0, q1, q2, q3⟩ := boxed zm
   have fR := ag (IF HSZ9.out zm (iD.out.trans uy) yO mR HX.out wv.out)
   clear zm uy hte yO mR
   aa fail
   obtain ⟨s2, s3, hp⟩ := fR.out
   exact ⟨rfl, .tuple #[.agg #[.slice p10 _ c10, .slice n10 _ d10], .int .i64 0], by simp [results, Tryz.results34, go_sem, s2, s3], hp⟩
end Go.Proofs.YtpnmblnahjjmhaaGreat
