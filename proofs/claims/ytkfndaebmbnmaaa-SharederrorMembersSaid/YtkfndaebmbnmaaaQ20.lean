/- The plain law of SharederrorMembers: what groups hold. The walk of SharederrorMembers. -/
import Derived.Test.YtkfndaebmbnmaaaQ6
import Derived.Test.YtkfndaebmbnmaaaQ19
import Derived.Deep.CutRange
namespace Go.Proofs.Ytkfndaebmbnmaaa
/-- A group that Groups makes. -/
structure GrpIs (xs : List (List Int)) (og : List Int) (u s : Nat) (g : Grp) : Prop where
  un : g.un = u
  st : g.st = s
  src : g.src = srcK xs u s xs.length
  u_lt : u < og.length
  s_lt : s < 16
  og0 : 0 ≤ gi og u
  ne : (s : Int) ≠ gi og u
  some : g.src ≠ []
theorem mem_grp1 {xs : List (List Int)} {og : List Int} {u s : Nat} {g : Grp} (h : g ∈ grp1 xs og u s) : g = ⟨u, s, srcK xs u s xs.length⟩ ∧ (s : Int) ≠ gi og u ∧ srcK xs u s xs.length ≠ [] := by
  unfold grp1 at h
  split at h
  · rename_i hc
    exact ⟨by simpa using h, hc.1, hc.2⟩
  · cases h
theorem mem_unK {xs : List (List Int)} {og : List Int} {g : Grp} (h : g ∈ unK xs og og.length) : ∃ u s, GrpIs xs og u s g := by
  unfold unK at h
  obtain ⟨u, hu, h⟩ := List.mem_flatMap.1 h
  unfold unG at h
  split at h
  · cases h
  · rename_i h0
    unfold stK at h
    obtain ⟨s, hs, h⟩ := List.mem_flatMap.1 h
    obtain ⟨rfl, h1, h2⟩ := mem_grp1 h
    exact ⟨u, s, rfl, rfl, rfl, List.mem_range.1 hu, List.mem_range.1 hs, by omega, h1, h2⟩
theorem mem_srcK {xs : List (List Int)} {u : Nat} {s : Int} {k : Nat} {x : Int} : x ∈ srcK xs u s k ↔ ∃ i : Nat, x = i ∧ i < k ∧ gi (gl xs i) u = s := by
  unfold srcK
  rw [List.mem_map]
  constructor
  · rintro ⟨i, hi, rfl⟩
    obtain ⟨h1, h2⟩ := List.mem_filter.1 hi
    exact ⟨i, rfl, List.mem_range.1 h1, by simpa using h2⟩
  · rintro ⟨i, rfl, h1, h2⟩
    exact ⟨i, List.mem_filter.2 ⟨List.mem_range.2 h1, by simpa using h2⟩, rfl⟩
def gLt (a b : Grp) : Prop := a.un < b.un ∨ (a.un = b.un ∧ a.st < b.st)
theorem stK_sorted (xs : List (List Int)) (og : List Int) (u : Nat) : ∀ s, (stK xs og u s).Pairwise gLt ∧ ∀ g ∈ stK xs og u s, g.un = u ∧ g.st < s
  | 0 => ⟨List.Pairwise.nil, fun g h => by cases h⟩
  | s + 1 => by
    obtain ⟨ih, ih2⟩ := stK_sorted xs og u s
    rw [stK_succ]
    refine ⟨List.pairwise_append.2 ⟨ih, ?_, fun a ha b hb => ?_⟩, fun g hg => ?_⟩
    · unfold grp1; split <;> simp
    · obtain ⟨rfl, _⟩ := mem_grp1 hb
      obtain ⟨h1, h2⟩ := ih2 a ha
      exact .inr ⟨h1, h2⟩
    · rcases List.mem_append.1 hg with h | h
      · obtain ⟨h1, h2⟩ := ih2 g h; exact ⟨h1, by omega⟩
      · obtain ⟨rfl, _⟩ := mem_grp1 h; exact ⟨rfl, by show (s : Int) < ((s + 1 : Nat) : Int); omega⟩
theorem unK_sorted (xs : List (List Int)) (og : List Int) : ∀ k, (unK xs og k).Pairwise gLt ∧ ∀ g ∈ unK xs og k, g.un < k
  | 0 => ⟨List.Pairwise.nil, fun g h => by cases h⟩
  | k + 1 => by
    obtain ⟨ih, ih2⟩ := unK_sorted xs og k
    rw [unK_succ]
    have hG : (unG xs og k).Pairwise gLt ∧ ∀ g ∈ unG xs og k, g.un = k := by
      unfold unG
      split
      · exact ⟨List.Pairwise.nil, fun g h => by cases h⟩
      · exact ⟨(stK_sorted xs og k 16).1, fun g h => ((stK_sorted xs og k 16).2 g h).1⟩
    refine ⟨List.pairwise_append.2 ⟨ih, hG.1, fun a ha b hb => .inl ?_⟩, fun g hg => ?_⟩
    · rw [hG.2 b hb]; exact ih2 a ha
    · rcases List.mem_append.1 hg with h | h
      · have := ih2 g h; omega
      · have := hG.2 g h; omega
theorem gg_mem {l : List Grp} {k : Nat} (h : k < l.length) : gg l k ∈ l := by simp [gg, h]
theorem gg_lt {l : List Grp} (h : l.Pairwise gLt) {j : Nat} (hj : j + 1 < l.length) : gLt (gg l j) (gg l (j + 1)) := by
  have h1 := List.pairwise_iff_getElem.1 h j (j + 1) (by omega) hj (Nat.lt_succ_self _)
  simpa [gg, hj, show j < l.length by omega] using h1
/-- Group g is one of place p, with source s. -/
def hasB (p s : Nat) (g : Grp) : Bool := decide (g.un = p) && decide ((s : Int) ∈ g.src)
/-- How many of the first k groups are. -/
def cntK (l : List Grp) (p s : Nat) : Nat → Nat
  | 0 => 0
  | k + 1 => cntK l p s k + if hasB p s (gg l k) then 1 else 0
theorem cntK_eq (l : List Grp) (p s : Nat) : ∀ k, k ≤ l.length → cntK l p s k = (l.take k).countP (hasB p s)
  | 0, _ => rfl
  | k + 1, hk => by
    have ih := cntK_eq l p s k (by omega)
    have hl : k < l.length := by omega
    have e : l.take (k + 1) = l.take k ++ [gg l k] := by
      rw [List.take_succ_eq_append_getElem hl]; simp [gg, hl]
    show cntK l p s k + _ = _
    rw [e, List.countP_append, ih]
    congr 1
    simp [List.countP_cons]
theorem cnt_grp1 (xs : List (List Int)) (og : List Int) (u t p s : Nat) (hs : s < xs.length) :
    (grp1 xs og u t).countP (hasB p s) = if u = p ∧ gi (gl xs s) u = t ∧ (t : Int) ≠ gi og u then 1 else 0 := by
  unfold grp1
  by_cases h1 : (t : Int) ≠ gi og u ∧ srcK xs u t xs.length ≠ []
  · rw [if_pos h1]
    have e : hasB p s ⟨u, t, srcK xs u t xs.length⟩ = decide (u = p ∧ gi (gl xs s) u = t ∧ (t : Int) ≠ gi og u) := by
      unfold hasB
      rw [Bool.eq_iff_iff]
      simp only [Bool.and_eq_true, decide_eq_true_eq, mem_srcK]
      constructor
      · rintro ⟨h2, i, h3, h4, h5⟩
        have : s = i := by omega
        subst this
        exact ⟨by omega, h5, h1.1⟩
      · rintro ⟨h2, h3, _⟩
        exact ⟨by omega, s, rfl, hs, h3⟩
    rw [List.countP_cons, List.countP_nil, e]
    by_cases hc : u = p ∧ gi (gl xs s) u = t ∧ (t : Int) ≠ gi og u
    · rw [if_pos hc, decide_eq_true hc]; rfl
    · rw [if_neg hc, decide_eq_false hc]; rfl
  · rw [if_neg h1, if_neg]
    · rfl
    · rintro ⟨_, h3, h4⟩
      refine h1 ⟨h4, fun e => ?_⟩
      have : (s : Int) ∈ srcK xs u t xs.length := mem_srcK.2 ⟨s, rfl, hs, h3⟩
      rw [e] at this; cases this
theorem cnt_stK (xs : List (List Int)) (og : List Int) (u p s : Nat) (hs : s < xs.length) : ∀ t, (stK xs og u t).countP (hasB p s) = if u = p ∧ 0 ≤ gi (gl xs s) u ∧ gi (gl xs s) u < t ∧ gi (gl xs s) u ≠ gi og u then 1 else 0
  | 0 => by
    rw [if_neg (by rintro ⟨_, h1, h2, _⟩; omega)]; rfl
  | t + 1 => by
    rw [stK_succ, List.countP_append, cnt_stK xs og u p s hs t, cnt_grp1 xs og u t p s hs]
    by_cases h1 : u = p
    · by_cases h2 : gi (gl xs s) u = t
      · by_cases h3 : (t : Int) ≠ gi og u
        · rw [if_neg (by omega), if_pos ⟨h1, h2, h3⟩, if_pos ⟨h1, by omega, by omega, by omega⟩]
        · rw [if_neg (by omega), if_neg (by omega), if_neg (by omega)]
      · rw [if_neg (c := u = p ∧ gi (gl xs s) u = t ∧ (t : Int) ≠ gi og u) (by omega), Nat.add_zero]
        by_cases h4 : 0 ≤ gi (gl xs s) u ∧ gi (gl xs s) u < t ∧ gi (gl xs s) u ≠ gi og u
        · rw [if_pos ⟨h1, h4⟩, if_pos ⟨h1, by omega, by omega, by omega⟩]
        · rw [if_neg (by omega), if_neg (by omega)]
    · rw [if_neg (by omega), if_neg (by omega), if_neg (by omega)]
theorem cnt_unK (xs : List (List Int)) (og : List Int) (p s : Nat) (hs : s < xs.length) : ∀ k, (unK xs og k).countP (hasB p s) = if p < k ∧ 0 ≤ gi og p ∧ 0 ≤ gi (gl xs s) p ∧ gi (gl xs s) p < 16 ∧ gi (gl xs s) p ≠ gi og p then 1 else 0
  | 0 => by rw [if_neg (by omega)]; rfl
  | k + 1 => by
    rw [unK_succ, List.countP_append, cnt_unK xs og p s hs k]
    have hG : (unG xs og k).countP (hasB p s) = if k = p ∧ 0 ≤ gi og k ∧ 0 ≤ gi (gl xs s) k ∧ gi (gl xs s) k < 16 ∧ gi (gl xs s) k ≠ gi og k then 1 else 0 := by
      unfold unG
      by_cases h0 : gi og k < 0
      · rw [if_pos h0, if_neg (by omega)]; rfl
      · rw [if_neg h0, cnt_stK xs og k p s hs 16]
        by_cases h1 : k = p ∧ 0 ≤ gi (gl xs s) k ∧ gi (gl xs s) k < (16 : Nat) ∧ gi (gl xs s) k ≠ gi og k
        · rw [if_pos h1, if_pos (by omega)]
        · rw [if_neg h1, if_neg (by omega)]
    rw [hG]
    by_cases h1 : p = k
    · subst h1
      rw [if_neg (by omega), Nat.zero_add]
      by_cases h2 : 0 ≤ gi og p ∧ 0 ≤ gi (gl xs s) p ∧ gi (gl xs s) p < 16 ∧ gi (gl xs s) p ≠ gi og p
      · rw [if_pos ⟨rfl, h2⟩, if_pos ⟨by omega, h2⟩]
      · rw [if_neg (fun h => h2 h.2), if_neg (fun h => h2 h.2)]
    · rw [if_neg (c := k = p ∧ _) (fun h => h1 h.1.symm), Nat.add_zero]
      by_cases h2 : p < k ∧ 0 ≤ gi og p ∧ 0 ≤ gi (gl xs s) p ∧ gi (gl xs s) p < 16 ∧ gi (gl xs s) p ≠ gi og p
      · rw [if_pos h2, if_pos ⟨by omega, h2.2⟩]
      · rw [if_neg h2, if_neg (fun h => h2 ⟨by omega, h.2⟩)]
theorem gi_range {st : List Int} {lo hi : Int} (h : stBad st lo hi = false) {k : Nat} (hk : k < st.length) : lo ≤ gi st k ∧ gi st k < hi := by
  have := any_false (p := fun k => decide (gi st k < lo) || decide (hi ≤ gi st k)) h hk
  simp only [Bool.or_eq_false_iff, decide_eq_false_iff_not] at this
  omega
theorem agRow_ok {xs : List (List Int)} (h : agErr xs = 0) {k : Nat} (hk : k < xs.length) : stBad (gl xs k) (-1) 16 = false := by
  unfold agErr at h
  split at h
  · cases h
  · split at h
    · cases h
    · have h1 := firstNZ_eq_zero h k hk
      unfold agRow at h1
      split at h1
      · cases h1
      · split at h1
        · cases h1
        · rename_i h2; simpa using h2
theorem grErr_zero {xs : List (List Int)} {og : List Int} (h : grErr xs og = 0) : agErr xs = 0 ∧ og.length = plN xs ∧ stBad og (-1) 16 = false := by
  unfold grErr at h
  split at h
  · omega
  · split at h
    · cases h
    · split at h
      · cases h
      · rename_i h1 h2 h3
        exact ⟨by omega, by omega, by simpa using h3⟩
/-- A source is in just one group of a place, or in none. -/
theorem members {xs : List (List Int)} {og : List Int} (h : grErr xs og = 0) {s p : Nat} (hs : s < xs.length) (hp : p < (gl xs s).length) :
    cntK (groupsN xs og) p s (groupsN xs og).length = if 0 ≤ gi (gl xs s) p ∧ 0 ≤ gi og p ∧ gi (gl xs s) p ≠ gi og p then 1 else 0 := by
  obtain ⟨ha, hl, hb⟩ := grErr_zero h
  have h1 := gi_range (agRow_ok ha hs) hp
  have h2 := agRow_len ha hs
  rw [cntK_eq _ _ _ _ (Nat.le_refl _), List.take_length]
  unfold groupsN
  rw [if_pos h, cnt_unK xs og p s hs og.length]
  have h3 : p < og.length := by rw [hl]; unfold plN; omega
  by_cases hc : 0 ≤ gi (gl xs s) p ∧ 0 ≤ gi og p ∧ gi (gl xs s) p ≠ gi og p
  · rw [if_pos hc, if_pos ⟨h3, hc.2.1, hc.1, h1.2, hc.2.2⟩]
  · rw [if_neg hc, if_neg (fun e => hc ⟨e.2.2.1, e.2.1, e.2.2.2.2⟩)]
end Go.Proofs.Ytkfndaebmbnmaaa
namespace Go.Proofs.Ytkfndaebmbnmaaa
open Go.RowKit Go.Deep
theorem hasB_eq (p s : Nat) (g : Grp) : hasB p s g = (decide (g.un = p) && (List.range g.src.length).any fun j => decide ((s : Int) = gi g.src j)) := by
  unfold hasB; rw [any_memI]
set_option maxRecDepth 100000 in
set_option maxHeartbeats 8000000 in
theorem members_law (w : World) (v vo : Value) (xs : List (List Int)) (og : List Int) (h : RowsAt Any w v xs) (ho : IntsAt Any w vo og) (hn : xs.length ≤ 9223372036854775807) (hr : ∀ k, (gl xs k).length ≤ 9223372036854775807) (hon : og.length ≤ 9223372036854775807) :
    Calls Try.prog 3 #[v, vo] w fun e w' => e = .returned (.bool true) ∧ Up w w' := by
  have HGT := Lib.hid (great30_t Any w v xs h hn hr)
  obtain ⟨p, cap, rfl, hcap, _⟩ := rows_open h
  obtain ⟨po, co, rfl, hco, _⟩ := SlAt.open ho
  have ho : IntsAt Any w (.slice po og.length co) og := ho
  have HAW := Lib.hid awake35_t
  cases hg : great30B xs
  · obtain ⟨hn2, hr2⟩ := great30_small hg
    rw [hg] at HGT
    have HAC := Lib.hid (agcheck_t Any w _ xs h (by omega) (fun k => by have := hr2 k; omega))
    clear hg hn hr
    by_cases c1 : 20 < og.length
    · have d1 : decide ((20 : Int) < (og.length : Int)) = true := by simp; omega
      clear c1
      go_enter Try.func3, Try.ntmps3
      go_wp2_with (first | (go_at_call 10; refine HGT.out.mono ?_; rintro e w' ⟨rfl, rfl⟩) | (go_at_call 12; refine (HAW.out _).mono ?_; rintro e w' ⟨rfl, hu⟩))
      go_ret
      exact ⟨rfl, hu⟩
    · have d1 : decide ((20 : Int) < (og.length : Int)) = false := by simp; omega
      by_cases c2 : agErr xs = 0
      · have HGR := Lib.hid (groups_t Any w _ _ xs og h ho (by omega) (fun k => by have := hr2 k; omega) (by omega))
        have hog : og.length ≤ 20 := by omega
        unfold GrPost at HGR
        rw [c2] at HAC
        have HX := Lib.hid h
        have HO := Lib.hid ho
        have HC2 := Lib.hid c2
        clear h ho c1 c2
        by_cases c3 : grErr xs og = 0
        · have HC3 := Lib.hid c3
          rw [c3] at HGR
          go_enter Try.func3, Try.ntmps3
          go_wp2_with (first | (go_at_call 10; refine HGT.out.mono ?_; rintro e w' ⟨rfl, rfl⟩) | (go_at_call 11; refine HAC.out.mono ?_; rintro e w' ⟨rfl, rfl⟩) | fail)
          refine HGR.out.mono ?_
          rintro e w2 ⟨hu2, gv, rfl, hgs⟩
          obtain ⟨gq, gcp, rfl, _⟩ := grps_open hgs
          have HU2 := Lib.hid hu2
          have HGS := Lib.hid hgs
          have HX2 := Lib.hid (HX.out.keep (hu2.kept _))
          have HO2 := Lib.hid (IntsAt.keep HO.out (hu2.kept _))
          have HGN : Hid (groupsN xs og = unK xs og og.length) := by unfold Hid groupsN; rw [if_pos HC3.out]
          have hgl : (groupsN xs og).length ≤ 1000 := by
            rw [HGN.out]; have := unK_len xs og og.length; omega
          have HIS : Hid (∀ k, k < (groupsN xs og).length → ∃ u s, GrpIs xs og u s (gg (groupsN xs og) k)) := fun k hk => mem_unK (by rw [← HGN.out]; exact gg_mem hk)
          have HSL : Hid (∀ k, k < (groupsN xs og).length → (gg (groupsN xs og) k).src.length ≤ 1000000) := fun k hk => by
            obtain ⟨u, t, hg⟩ := HIS.out k hk
            rw [hg.src]; have := srcK_len xs u t xs.length; omega
          have HSO : Hid (∀ k, k + 1 < (groupsN xs og).length → gLt (gg (groupsN xs og) k) (gg (groupsN xs og) (k + 1))) := fun k hk => gg_lt (by rw [HGN.out]; exact (unK_sorted xs og og.length).1) hk
          have HMEM : Hid (∀ s p, s < xs.length → p < (gl xs s).length → cntK (groupsN xs og) p s (groupsN xs og).length = if 0 ≤ gi (gl xs s) p ∧ 0 ≤ gi og p ∧ gi (gl xs s) p ≠ gi og p then 1 else 0) := fun s p hs hp => members HC3.out hs hp
          have HROW : Hid (∀ s, s < xs.length → (gl xs s).length = og.length) := fun s hs => (agRow_len HC2.out hs).trans (grErr_zero HC3.out).2.1.symm
          clear hu2 hgs HGN HGR HX HO
          generalize groupsN xs og = L at *
          go_wp2_with fail
          go_loopw [7, 8, 10, 46] (fun _ _ _ i wr => ∃ k : Nat, k ≤ L.length ∧ i = .int .i64 k ∧ Hid (Up w2 wr)) (fun _ _ _ i _ => L.length - (intOf i).toNat)
          case atStart => exact ⟨0, Nat.zero_le _, rfl, Up.refl _⟩
          case round =>
            obtain ⟨k, hk, rfl, hU⟩ := hrel
            obtain ⟨wo, rfl⟩ : ∃ wo : World, wo = wr := ⟨_, rfl⟩
            by_cases hlt : k < L.length
            · obtain ⟨b, off, rq, rc, rfl, hc0, hc1, hc2, hri⟩ := grps_get (HGS.out.keep (hU.out.kept Any)) hlt
              obtain ⟨u, t, hgi⟩ := HIS.out k hlt
              have hul := hgi.u_lt
              have ht16 := hgi.s_lt
              have HSRC : Hid (∀ m, m < (gg L k).src.length → ∃ i : Nat, gi (gg L k).src m = i ∧ i < xs.length ∧ gi (gl xs i) u = t) := fun m hm => by
                have h1 := gi_mem hm
                rw [hgi.src] at h1
                obtain ⟨i, h2, h3, h4⟩ := mem_srcK.1 h1
                rw [hgi.src]; exact ⟨i, h2, h3, h4⟩
              have hsl : (gg L k).src.length ≤ 1000 := by rw [hgi.src]; have := srcK_len xs u t xs.length; omega
              have hs0 : 0 < (gg L k).src.length := List.length_pos_iff.2 hgi.some
              have hun := hgi.un
              have hst := hgi.st
              have i1 : (0 : Int) ≤ (k : Int) := by omega
              have i2 : (k : Int) < (L.length : Int) := by omega
              rw [hun] at hc0
              rw [hst] at hc1
              have hal := Up.alloc wo (.cells #[.int .i64 u, .int .i64 t, .slice rq (gg L k).src.length rc] 32)
              obtain ⟨hb0, hb1, hb2⟩ := box3 wo (.int .i64 u) (.int .i64 t) (.slice rq (gg L k).src.length rc) 32
              have HB0 := Lib.hid hb0
              have HB1 := Lib.hid hb1
              have HB2 := Lib.hid hb2
              have HRI := Lib.hid (IntsAt.keep hri (hal.kept _))
              have HU4 := Lib.hid (hU.out.trans hal)
              have d1 : decide ((u : Int) < 0) = false := by simp
              have d2 : decide ((og.length : Int) ≤ (u : Int)) = false := by simp; omega
              have d2n : decide (og.length ≤ u) = false := by simp; omega
              have d4 : (((gg L k).src.length : Int) == 0) = false := beq_eq_false_iff_ne.2 (by omega)
              have HGU : Hid ((gg L k).un = u ∧ (gg L k).st = t) := ⟨hun, hst⟩
              clear hgi hri hal hun hst hr2
              generalize hsrc : (gg L k).src = src at *
              clear hsrc
              go_upto_region 9 with fail
              clear hc0 hc1 hc2
              go_cut [103] from 51 to 103 (fun s103 wx => s103 = .bool false ∧ Hid (Up (wo.alloc (.cells #[.int .i64 u, .int .i64 t, .slice rq src.length rc] 32)) wx))
              case first =>
                cases k with
                | zero =>
                  have k0 : decide ((0 : Int) < ((0 : Nat) : Int)) = false := rfl
                  go_big_quiet (fail)
                  go_wp2_with fail
                  go_meet
                  case rel => exact ⟨rfl, Up.drewN _ _⟩
                | succ j =>
                  have hlj : j < L.length := by omega
                  obtain ⟨_, _, _, _, e1, hp0, hp1, _, _⟩ := grps_get ((HGS.out.keep (hU.out.kept Any)).keep ((Up.alloc wo (.cells #[.int .i64 u, .int .i64 t, .slice rq src.length rc] 32)).kept Any)) hlj
                  injection e1 with e1
                  injection e1 with e1 e2
                  subst e1; subst e2
                  have hlt2 := HSO.out j hlt
                  unfold gLt at hlt2
                  rw [HGU.out.1, HGU.out.2] at hlt2
                  have k2 : decide ((0 : Int) < ((j + 1 : Nat) : Int)) = true := by simp
                  have k2n : decide (0 < j + 1) = true := by simp
                  have k3 : ((j + 1 : Nat) : Int) - 1 = (j : Int) := by omega
                  have k4 : (0 : Int) ≤ (j : Int) := by omega
                  have k5 : (j : Int) < (L.length : Int) := by omega
                  generalize (gg L j).un = pu at *
                  generalize (gg L j).st = pt at *
                  have f0 : decide ((u : Int) < pu) = false := by simp; omega
                  by_cases f1 : (u : Int) = pu
                  · have f2 : ((u : Int) == pu) = true := by simpa using f1
                    have f3 : decide ((t : Int) ≤ pt) = false := by simp; omega
                    clear f1 hlt2
                    go_big_quiet (fail)
                    go_wp2_with fail
                    go_meet
                    case rel => exact ⟨rfl, Up.drewN _ _⟩
                  · have f2 : ((u : Int) == pu) = false := by simpa using f1
                    clear f1 hlt2
                    go_big_quiet (fail)
                    go_wp2_with fail
                    go_meet
                    case rel => exact ⟨rfl, Up.drewN _ _⟩
              case rest =>
                obtain ⟨rfl, hUx⟩ := hcut
                have b0 := hUx.out.cell HB0.out
                have b1 := hUx.out.cell HB1.out
                have b2 := hUx.out.cell HB2.out
                go_wp2_with fail
                go_loopw [10, 107] (fun _ i wr => ∃ m : Nat, m ≤ src.length ∧ i = .int .i64 m ∧ Hid (Up (wo.alloc (.cells #[.int .i64 u, .int .i64 t, .slice rq src.length rc] 32)) wr)) (fun _ i _ => src.length - (intOf i).toNat)
                case atStart => exact ⟨0, Nat.zero_le _, rfl, hUx.out⟩
                case round =>
                  obtain ⟨m, hm, rfl, hV⟩ := hrel
                  obtain ⟨wi, rfl⟩ : ∃ wi : World, wi = wr := ⟨_, rfl⟩
                  have b0 := hV.out.cell HB0.out
                  have b1 := hV.out.cell HB1.out
                  have b2 := hV.out.cell HB2.out
                  by_cases hmt : m < src.length
                  · obtain ⟨sb, so, rfl, hsc⟩ := ints_get (IntsAt.keep HRI.out (hV.out.kept _)) hmt
                    obtain ⟨i, hxi, hil, hig⟩ := HSRC.out m hmt
                    obtain ⟨xb, xo, xq, xc, rfl, hxc, hxr⟩ := rows_get (HX2.out.keep ((HU4.out.trans hV.out).kept _)) hil
                    have hrl := HROW.out i hil
                    obtain ⟨yb, yo, rfl, hyc⟩ := ints_get hxr (k := u) (by rw [hrl]; exact hul)
                    rw [hig] at hyc
                    rw [hrl] at hxc
                    rw [hxi] at hsc
                    have j1 : decide ((i : Int) < 0) = false := by simp
                    have j2 : decide ((xs.length : Int) ≤ (i : Int)) = false := by simp; omega
                    have j2n : decide (xs.length ≤ i) = false := by simp; omega
                    have j3 : (0 : Int) ≤ (i : Int) := by omega
                    have j4 : (i : Int) < (xs.length : Int) := by omega
                    have j5 : (0 : Int) ≤ (u : Int) := by omega
                    have j6 : (u : Int) < (og.length : Int) := by omega
                    have j7 : ((t : Int) != (t : Int)) = false := by simp
                    have HV := Lib.hid hV.out
                    clear hxi hig hrl hxr hV
                    go_wp2_with fail
                    go_big_quiet (fail)
                    go_wp2_with fail
                    go_roundw
                    case rel => exact ⟨m + 1, by omega, by go_num, HV.out.trans (Up.drewN _ _)⟩
                    case measure => simp [intOf]; omega
                  · obtain rfl : m = src.length := by omega
                    have HV := Lib.hid hV.out
                    clear hmt hm
                    go_wp2_with fail
                    go_roundw
                    case rel => exact ⟨k + 1, by omega, by go_num, HU4.out.trans HV.out⟩
                    case measure => simp [intOf]; omega
            · obtain rfl : k = L.length := by omega
              have HUA := Lib.hid hU.out
              clear hlt hk hU HSO HIS
              go_wp2_with fail
              go_loopw [11, 12, 13, 14, 16, 136] (fun _ _ _ _ _ i wr => ∃ s : Nat, s ≤ xs.length ∧ i = .int .i64 s ∧ Hid (Up w2 wr)) (fun _ _ _ _ _ i _ => xs.length - (intOf i).toNat)
              case atStart => exact ⟨0, Nat.zero_le _, rfl, HUA.out⟩
              case round =>
                obtain ⟨s, hs, rfl, hU⟩ := hrel
                obtain ⟨wo, rfl⟩ : ∃ wo : World, wo = wr := ⟨_, rfl⟩
                by_cases hst : s < xs.length
                · obtain ⟨xb, xo, xq, xc, rfl, hxc, hxr⟩ := rows_get (HX2.out.keep (hU.out.kept _)) hst
                  have hrl := HROW.out s hst
                  have HMS := Lib.hid (fun p hp => HMEM.out s p hst hp)
                  have i1 : (0 : Int) ≤ (s : Int) := by omega
                  have i2 : (s : Int) < (xs.length : Int) := by omega
                  have HXR := Lib.hid hxr
                  have HRL := Lib.hid hrl
                  have HUO := Lib.hid hU.out
                  rw [hrl] at hxc HMS HXR
                  clear hrl hxr hU
                  generalize gl xs s = row at *
                  go_wp2_with fail
                  go_loopw [12, 13, 14, 16, 144] (fun _ _ _ _ i wr => ∃ q : Nat, q ≤ og.length ∧ i = .int .i64 q ∧ Hid (Up w2 wr) ∧ Hid (Up wo wr)) (fun _ _ _ _ i _ => og.length - (intOf i).toNat)
                  case atStart => exact ⟨0, Nat.zero_le _, rfl, HUO.out, Up.refl _⟩
                  case round =>
                    obtain ⟨q, hq, rfl, hU, hV⟩ := hrel
                    obtain ⟨wp, rfl⟩ : ∃ wp : World, wp = wr := ⟨_, rfl⟩
                    by_cases hqt : q < og.length
                    · obtain ⟨rb, ro, rfl, hrc⟩ := ints_get (IntsAt.keep HXR.out (hV.out.kept _)) (k := q) (by rw [HRL.out]; exact hqt)
                      obtain ⟨ob, oo, rfl, hoc⟩ := ints_get (IntsAt.keep HO2.out (hU.out.kept _)) hqt
                      have HMQ := Lib.hid (HMS.out q (by omega))
                      have q1 : (0 : Int) ≤ (q : Int) := by omega
                      have q2 : (q : Int) < (og.length : Int) := by omega
                      have HU3 := Lib.hid hU.out
                      have HV3 := Lib.hid hV.out
                      have HCS : Hid (∀ m, cntK L q s (m + 1) = cntK L q s m + if hasB q s (gg L m) then 1 else 0) := fun _ => rfl
                      have HCL : Hid (∀ m, cntK L q s m ≤ m) := fun m => by
                        induction m with
                        | zero => exact Nat.le_refl _
                        | succ m ih =>
                          show cntK L q s m + _ ≤ _
                          split <;> omega
                      clear hU hV
                      go_wp2_with fail
                      go_loopw [14, 16, 151] (fun n _ i wr => ∃ m : Nat, m ≤ L.length ∧ i = .int .i64 m ∧ n = .int .i64 (cntK L q s m) ∧ Hid (Up w2 wr ∧ Up wo wr ∧ Up wp wr)) (fun _ _ i _ => L.length - (intOf i).toNat)
                      case atStart => exact ⟨0, Nat.zero_le _, rfl, rfl, HU3.out, HV3.out, Up.refl _⟩
                      case round =>
                        obtain ⟨m, hm, rfl, rfl, hW⟩ := hrel
                        obtain ⟨wi, rfl⟩ : ∃ wi : World, wi = wr := ⟨_, rfl⟩
                        by_cases hmt : m < L.length
                        · obtain ⟨gb, go, rq, rc, rfl, hc0, hc1, hc2, hri⟩ := grps_get (HGS.out.keep (hW.out.1.kept Any)) hmt
                          have m1 : (0 : Int) ≤ (m : Int) := by omega
                          have m2 : (m : Int) < (L.length : Int) := by omega
                          have hal := Up.alloc wi (.cells #[.int .i64 (gg L m).un, .int .i64 (gg L m).st, .slice rq (gg L m).src.length rc] 32)
                          obtain ⟨hb0, hb1, hb2⟩ := box3 wi (.int .i64 (gg L m).un) (.int .i64 (gg L m).st) (.slice rq (gg L m).src.length rc) 32
                          have hsl : (gg L m).src.length ≤ 1000000 := HSL.out m hmt
                          have HCT := Lib.hid (contains_int_t Any _ _ (gg L m).src s (IntsAt.keep hri (hal.kept _)) hsl)
                          have HST := Lib.hid (HCS.out m)
                          rw [hasB_eq] at HST
                          have HP : Hid (Up w2 (wi.alloc (.cells #[.int .i64 (gg L m).un, .int .i64 (gg L m).st, .slice rq (gg L m).src.length rc] 32)) ∧ Up wo (wi.alloc (.cells #[.int .i64 (gg L m).un, .int .i64 (gg L m).st, .slice rq (gg L m).src.length rc] 32)) ∧ Up wp (wi.alloc (.cells #[.int .i64 (gg L m).un, .int .i64 (gg L m).st, .slice rq (gg L m).src.length rc] 32))) := ⟨hW.out.1.trans hal, hW.out.2.1.trans hal, hW.out.2.2.trans hal⟩
                          have hcm := HCL.out m
                          clear hri hal hW
                          generalize (gg L m).un = un at *
                          generalize (gg L m).st = sx at *
                          generalize (gg L m).src = src at *
                          generalize (List.range src.length).any (fun j => decide ((s : Int) = gi src j)) = cb at *
                          by_cases e1 : un = q
                          · have d1 : (un == (q : Int)) = true := by simpa using e1
                            rw [decide_eq_true e1] at HST
                            clear e1
                            cases cb
                            · have HN : Hid (cntK L q s (m + 1) = cntK L q s m) := HST.out
                              go_wp2_with (go_at_call 14; refine HCT.out.mono ?_; rintro e w' ⟨rfl, rfl⟩)
                              go_roundw
                              case rel => exact ⟨m + 1, by omega, by go_num, by rw [HN.out], HP.out⟩
                              case measure => simp [intOf]; omega
                            · have HN : Hid (cntK L q s (m + 1) = cntK L q s m + 1) := HST.out
                              go_wp2_with (go_at_call 14; refine HCT.out.mono ?_; rintro e w' ⟨rfl, rfl⟩)
                              go_roundw
                              case rel => exact ⟨m + 1, by omega, by go_num, by rw [HN.out]; go_num, HP.out⟩
                              case measure => simp [intOf]; omega
                          · have d1 : (un == (q : Int)) = false := by simpa using e1
                            rw [decide_eq_false e1] at HST
                            have HN : Hid (cntK L q s (m + 1) = cntK L q s m) := HST.out
                            clear e1
                            go_wp2_with fail
                            go_roundw
                            case rel => exact ⟨m + 1, by omega, by go_num, by rw [HN.out], HP.out⟩
                            case measure => simp [intOf]; omega
                        · obtain rfl : m = L.length := by omega
                          have HP := Lib.hid hW.out
                          have hoc2 := hW.out.2.2.cell hoc
                          have hmq := HMQ.out
                          rw [hmq]
                          clear hmt hm hW hmq
                          generalize gi row q = a at *
                          generalize gi og q = b at *
                          by_cases e1 : 0 ≤ a
                          · have d1 : decide ((0 : Int) ≤ a) = true := by simpa using e1
                            by_cases e2 : 0 ≤ b
                            · have d2 : decide ((0 : Int) ≤ b) = true := by simpa using e2
                              by_cases e3 : a = b
                              · have d3 : (a != b) = false := by simp [e3]
                                rw [if_neg (by rintro ⟨_, _, h⟩; exact h e3)]
                                clear e1 e2 e3
                                go_wp2_with fail
                                go_roundw
                                case rel => exact ⟨q + 1, by omega, by go_num, HP.out.1, HP.out.2.1⟩
                                case measure => simp [intOf]; omega
                              · have d3 : (a != b) = true := by simpa using e3
                                rw [if_pos ⟨e1, e2, e3⟩]
                                clear e1 e2 e3
                                go_wp2_with fail
                                go_roundw
                                case rel => exact ⟨q + 1, by omega, by go_num, HP.out.1, HP.out.2.1⟩
                                case measure => simp [intOf]; omega
                            · have d2 : decide ((0 : Int) ≤ b) = false := by simpa using e2
                              rw [if_neg (by rintro ⟨_, h, _⟩; exact e2 h)]
                              clear e1 e2
                              go_wp2_with fail
                              go_roundw
                              case rel => exact ⟨q + 1, by omega, by go_num, HP.out.1, HP.out.2.1⟩
                              case measure => simp [intOf]; omega
                          · have d1 : decide ((0 : Int) ≤ a) = false := by simpa using e1
                            rw [if_neg (by rintro ⟨h, _⟩; exact e1 h)]
                            clear e1
                            go_wp2_with fail
                            go_roundw
                            case rel => exact ⟨q + 1, by omega, by go_num, HP.out.1, HP.out.2.1⟩
                            case measure => simp [intOf]; omega
                    · obtain rfl : q = og.length := by omega
                      have HP := Lib.hid hU.out
                      clear hqt hq hV hU
                      go_wp2_with fail
                      go_roundw
                      case rel => exact ⟨s + 1, by omega, by go_num, HP.out⟩
                      case measure => simp [intOf]; omega
                · obtain rfl : s = xs.length := by omega
                  have HP := Lib.hid hU.out
                  clear hst hs hU
                  go_wp2_with fail
                  refine (HAW.out _).mono ?_
                  rintro e w9 ⟨rfl, hu9⟩
                  go_wp2_with fail
                  go_ret
                  exact ⟨rfl, (HU2.out.trans HP.out).trans hu9⟩
        · have HN : Hid (groupsN xs og = []) := by unfold Hid groupsN; rw [if_neg c3]
          have d3 : (grErr xs og != 0) = true := by simpa using c3
          rw [HN.out] at HGR
          clear c3
          generalize grErr xs og = ge at *
          go_enter Try.func3, Try.ntmps3
          go_wp2_with (first | (go_at_call 10; refine HGT.out.mono ?_; rintro e w' ⟨rfl, rfl⟩) | (go_at_call 11; refine HAC.out.mono ?_; rintro e w' ⟨rfl, rfl⟩) | (go_at_call 13; refine HGR.out.mono ?_; rintro e w2 ⟨hu2, gv, rfl, hgs⟩; obtain ⟨gq, gcp, rfl, _⟩ := grps_open hgs) | (go_at_call 12; refine (HAW.out _).mono ?_; rintro e w' ⟨rfl, hu⟩))
          go_ret
          exact ⟨rfl, hu2.trans hu⟩
      · have d2 : (agErr xs != 0) = true := by simpa using c2
        clear c1 c2
        go_enter Try.func3, Try.ntmps3
        go_wp2_with (first | (go_at_call 10; refine HGT.out.mono ?_; rintro e w' ⟨rfl, rfl⟩) | (go_at_call 11; refine HAC.out.mono ?_; rintro e w' ⟨rfl, rfl⟩) | (go_at_call 12; refine (HAW.out _).mono ?_; rintro e w' ⟨rfl, hu⟩))
        go_ret
        exact ⟨rfl, hu⟩
  · rw [hg] at HGT
    clear hg
    go_enter Try.func3, Try.ntmps3
    go_wp2_with (first | (go_at_call 10; refine HGT.out.mono ?_; rintro e w' ⟨rfl, rfl⟩) | (go_at_call 12; refine (HAW.out _).mono ?_; rintro e w' ⟨rfl, hu⟩))
    go_ret
    exact ⟨rfl, hu⟩
end Go.Proofs.Ytkfndaebmbnmaaa
