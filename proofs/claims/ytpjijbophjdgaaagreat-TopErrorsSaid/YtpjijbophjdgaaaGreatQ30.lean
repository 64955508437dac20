/- Contracts: Support, Original, Significant of sharederror. The contracts of parsimony.Fitch and of the reference's Fitch. Canonical trees reckoned by the kernel: the sort of children as an insertion sort. What sharederror.Tree computes, plain; slices.Clone of strings. The plain law of SharederrorPairs: sets as lists; the closures of the law. Contracts of the references: Check of layer 30; right, check, Support, Original, Significant of layer 35. The plain law of SharederrorSupport: the supports of the different sets. split.leafName; the closure of split.Build that adds a node. -/
import Derived.Test.YtpjijbophjdgaaaGreatQ27
import Derived.Test.YtpjijbophjdgaaaGreatQ8
import Derived.Test.YtpjijbophjdgaaaGreatQ23
import Derived.Deep.RegionHeld3
import Derived.Test.YtpjijbophjdgaaaGreatQ28
import Derived.Test.YtpjijbophjdgaaaGreatQ29
import Derived.Test.YtpjijbophjdgaaaGreatQ11
import Derived.Test.YtpjijbophjdgaaaGreatQ17
import Derived.Test.YtpjijbophjdgaaaGreatQ4
import Derived.Test.YtpjijbophjdgaaaGreatQ5
namespace Go.Proofs.YtpjijbophjdgaaaGreat
open Go.RowKit Go.Deep
def orErr (xs : List (List Int)) (s : Int) : Int := if agErr xs ≠ 0 then agErr xs else if s < 0 ∨ (xs.length : Int) ≤ s then 2 else 0
def orN (xs : List (List Int)) (s : Int) : List Int := if orErr xs s = 0 then gl xs s.toNat else []
def OrPost (w : World) (xs : List (List Int)) (s : Int) (e : Ending) (w' : World) : Prop :=
  Up w w' ∧ ∃ v, e = .returned (.tuple #[v, .int .i64 (orErr xs s)]) ∧ IntsAt Any w' v (orN xs s)
theorem nil_ints_at (S : Nat → Prop) (W : World) : IntsAt S W (.slice none 0 0) [] := ⟨none, 0, rfl, Nat.le_refl _, .inl rfl⟩
set_option maxRecDepth 100000 in
set_option maxHeartbeats 1000000 in
theorem original_t (S : Nat → Prop) (w : World) (v : Value) (xs : List (List Int)) (s : Int) (h : RowsAt S w v xs) (hn : xs.length ≤ 1000000) (hr : ∀ k, (gl xs k).length ≤ 1000000) :
    Calls Tryz.prog 11 #[v, .int .i64 s] w (OrPost w xs s) := by
  have HAC := Lib.hid (agcheck_t S w v xs h hn hr)
  obtain ⟨p, cap, rfl, hcap, _⟩ := rows_open h
  have HE : Hid (orErr xs s = if agErr xs ≠ 0 then agErr xs else if s < 0 ∨ (xs.length : Int) ≤ s then 2 else 0) := rfl
  have HN : Hid (orN xs s = if orErr xs s = 0 then gl xs s.toNat else []) := rfl
  by_cases a0 : agErr xs = 0
  · rw [a0] at HAC
    by_cases h1 : s < 0
    · have d1 : decide (s < 0) = true := by simpa using h1
      have HE1 : Hid (orErr xs s = 2) := by unfold Hid; rw [HE.out, if_neg (fun e => e a0), if_pos (.inl h1)]
      have HN1 : Hid (orN xs s = []) := by unfold Hid; rw [HN.out, if_neg (by rw [HE1.out]; decide)]
      clear h1 a0 h
      go_enter Tryz.func11, Tryz.ntmps11
      go_wp2_with fail
      refine HAC.out.mono ?_
      rintro e w1 ⟨rfl, rfl⟩
      go_wp2_with fail
      go_ret2
      exact ⟨Up.refl _, _, by rw [HE1.out]; rfl, by rw [HN1.out]; exact nil_ints_at _ _⟩
    · have d1 : decide (s < 0) = false := by simpa using h1
      by_cases h2 : (xs.length : Int) ≤ s
      · have d2 : decide ((xs.length : Int) ≤ s) = true := by simpa using h2
        have HE1 : Hid (orErr xs s = 2) := by unfold Hid; rw [HE.out, if_neg (fun e => e a0), if_pos (.inr h2)]
        have HN1 : Hid (orN xs s = []) := by unfold Hid; rw [HN.out, if_neg (by rw [HE1.out]; decide)]
        clear h1 h2 a0 h
        go_enter Tryz.func11, Tryz.ntmps11
        go_wp2_with fail
        refine HAC.out.mono ?_
        rintro e w1 ⟨rfl, rfl⟩
        go_wp2_with fail
        go_ret2
        exact ⟨Up.refl _, _, by rw [HE1.out]; rfl, by rw [HN1.out]; exact nil_ints_at _ _⟩
      · have d2 : decide ((xs.length : Int) ≤ s) = false := by simpa using h2
        have HE1 : Hid (orErr xs s = 0) := by unfold Hid; rw [HE.out, if_neg (fun e => e a0), if_neg (by omega)]
        have HN1 : Hid (orN xs s = gl xs s.toNat) := by unfold Hid; rw [HN.out, if_pos HE1.out]
        obtain ⟨k, rfl⟩ := Int.eq_ofNat_of_zero_le (by omega : 0 ≤ s)
        rw [Int.toNat_natCast] at HN1
        have hk : k < xs.length := by omega
        have j1 : (0 : Int) ≤ (k : Int) := by omega
        have j2 : (k : Int) < (xs.length : Int) := by omega
        obtain ⟨b, off, q, c, rfl, hc, hi⟩ := rows_get h hk
        have HCL := Lib.hid (clone_int_t S w _ (gl xs k) hi (hr k))
        clear h1 h2 a0 h hr hi
        go_enter Tryz.func11, Tryz.ntmps11
        go_wp2_with (first | (go_at_call 9; refine HAC.out.mono ?_; rintro e w1 ⟨rfl, rfl⟩) | fail)
        refine HCL.out.mono ?_
        rintro e w1 ⟨hu, cv, rfl, ho⟩
        go_wp2_with fail
        go_ret2
        exact ⟨hu, _, by rw [HE1.out]; rfl, by rw [HN1.out]; exact ho.ints.sub fun _ _ _ => trivial⟩
  · have HE1 : Hid (orErr xs s = agErr xs) := by unfold Hid; rw [HE.out, if_pos a0]
    have HN1 : Hid (orN xs s = []) := by unfold Hid; rw [HN.out, if_neg (by rw [HE1.out]; exact a0)]
    have g1 : (agErr xs != 0) = true := by simpa using a0
    clear a0 h
    go_enter Tryz.func11, Tryz.ntmps11
    go_wp2_with fail
    refine HAC.out.mono ?_
    rintro e w1 ⟨rfl, rfl⟩
    go_wp2_with fail
    go_ret2
    exact ⟨Up.refl _, _, by rw [HE1.out]; rfl, by rw [HN1.out]; exact nil_ints_at _ _⟩
section
variable {P : Program} {ops : Array Oper} {rest : List Oper} {o : Oper} {a : Act} {Q : Exit → Act → World → Prop}
theorem wpList_appGrpM (W : World) (hgd : o.guard = none) (s x : Operand) (t : TypeId) (ho : o.op = .call { callee := .builtin .append, args := #[s, x], argTypes := #[t, t] })
    (base : Nat) (e : TypeId) (z : Value) (bytes : Nat) (ht : P.underlying t = some (.slice e)) (hinfo : (P.info? e).map (fun i => (i.zero, i.size, i.bytes)) = some (some z, 3, bytes))
    (hz1 : z.cells.size = 3) (hb8 : bytes ≤ 64) {v : Value} {gs : List Grp} (hown : GrpsOwn base e W v gs) (hs : a.eval s = v) (G : Grp) (u : Value) (m : Nat) (hm : W.heap.size = m)
    (hx : a.eval x = .slice (some ⟨m, 0, none⟩) 1 1) (hu : IntsAt (fun b => some b ≠ v.ownBlock) W u G.src) (h1 : u.oneCell' = true) (n : Nat) (hxn : gs.length = n) (hn : n ≤ 1000000) (hbase : base ≤ W.heap.size)
    (h : ∀ g cap w', GrpsOwn base e w' (.slice (some ⟨g, 0, none⟩) (n + 1) cap) (gs ++ [G]) → W.grownBy w' v.ownBlock → Below base W w' → wpList P ops Q rest (a.put o.dst (.slice (some ⟨g, 0, none⟩) (n + 1) cap)) w') :
    wpList P ops Q (o :: rest) a (W.alloc (.cells #[.int .i64 G.un, .int .i64 G.st, u] e)) := by
  subst hm
  exact wpList_appGrp W hgd s x t ho base e z bytes ht hinfo hz1 hb8 hown hs G u hx hu h1 n hxn hn hbase h
end
def sigK (l : List Grp) : Nat → List Grp
  | 0 => []
  | k + 1 => if 1 < (gg l k).src.length then sigK l k ++ [gg l k] else sigK l k
theorem sigK_len (l : List Grp) : ∀ k, (sigK l k).length ≤ k
  | 0 => Nat.le_refl _
  | k + 1 => by
    have := sigK_len l k
    unfold sigK
    split
    · rw [List.length_append]; simp; omega
    · omega
def SgPost (w : World) (l : List Grp) (e : Ending) (w' : World) : Prop := Up w w' ∧ ∃ v, e = .returned v ∧ GrpsAt Any w' v l
set_option maxRecDepth 100000 in
set_option maxHeartbeats 1000000 in
theorem significant_t (S : Nat → Prop) (w : World) (v : Value) (l : List Grp) (h : GrpsAt S w v l) (hn : l.length ≤ 1000000) :
    Calls Tryz.prog 13 #[v] w (SgPost w (sigK l l.length)) := by
  obtain ⟨p, cap, rfl, hcap⟩ := grps_open h
  have HX : Hid (GrpsAt (fun b => b < w.heap.size) w (.slice p l.length cap) l) := h.sub fun b _ hb => hb
  clear h
  go_enter Tryz.func13, Tryz.ntmps13
  go_wp2_with fail
  go_loopw [3, 5, 8] (fun d _ i wr => ∃ k : Nat, k ≤ l.length ∧ i = .int .i64 k ∧ Hid (GrpsOwn w.heap.size 37 wr d (sigK l k)) ∧ Hid (Up w wr)) (fun _ _ i _ => l.length - (intOf i).toNat)
  case atStart => exact ⟨0, Nat.zero_le _, rfl, GrpsOwn.nil _ _ _, Up.refl _⟩
  case round =>
    obtain ⟨k, hk, rfl, hD, hU⟩ := hrel
    obtain ⟨wo, rfl⟩ : ∃ wo : World, wo = wr := ⟨_, rfl⟩
    obtain ⟨d, rfl⟩ : ∃ d : Value, d = u3 := ⟨_, rfl⟩
    by_cases hlt : k < l.length
    · obtain ⟨b, off, rq, rc, rfl, hc0, hc1, hc2, hri⟩ := grps_get (HX.out.keep (hU.out.kept _)) hlt
      have i1 : (0 : Int) ≤ (k : Int) := by omega
      have i2 : (k : Int) < (l.length : Int) := by omega
      have hal := Up.alloc wo (.cells #[.int .i64 (gg l k).un, .int .i64 (gg l k).st, .slice rq (gg l k).src.length rc] 37)
      obtain ⟨hb0, hb1, hb2⟩ := box3 wo (.int .i64 (gg l k).un) (.int .i64 (gg l k).st) (.slice rq (gg l k).src.length rc) 37
      have HUA := Lib.hid (hU.out.trans hal)
      have HDA := Lib.hid (hD.out.kept hal)
      have HIN : Hid (IntsAt (fun b => some b ≠ d.ownBlock) (wo.alloc (.cells #[.int .i64 (gg l k).un, .int .i64 (gg l k).st, .slice rq (gg l k).src.length rc] 37)) (.slice rq (gg l k).src.length rc) (gg l k).src) :=
        (IntsAt.sub hri fun b hb _ e => by have := (hD.out.lt e.symm).1; omega).keep (hal.kept _)
      have HST : Hid (sigK l (k + 1) = if 1 < (gg l k).src.length then sigK l k ++ [gg l k] else sigK l k) := rfl
      have hle : (sigK l k).length ≤ 1000000 := by have := sigK_len l k; omega
      have hsz : (wo.alloc (.cells #[.int .i64 (gg l k).un, .int .i64 (gg l k).st, .slice rq (gg l k).src.length rc] 37)).heap.size = wo.heap.size + 1 := World.size_alloc _ _
      have hwz : w.heap.size ≤ (wo.alloc (.cells #[.int .i64 (gg l k).un, .int .i64 (gg l k).st, .slice rq (gg l k).src.length rc] 37)).heap.size := HUA.out.size
      clear hri hal
      have hG : gg l k = ⟨(gg l k).un, (gg l k).st, (gg l k).src⟩ := rfl
      have HGE := Lib.hid hG
      by_cases e1 : 1 < (gg l k).src.length
      · have d1 : decide ((1 : Int) < ((gg l k).src.length : Int)) = true := by simp; omega
        have d2 : decide (1 < (gg l k).src.length) = true := by simp; omega
        have HSN : Hid (sigK l (k + 1) = sigK l k ++ [gg l k]) := by unfold Hid; rw [HST.out, if_pos e1]
        clear e1 hG
        go_wp2_with (at_builtin; refine wpList_appGrpM (wo.alloc (.cells #[.int .i64 (gg l k).un, .int .i64 (gg l k).st, .slice rq (gg l k).src.length rc] 37)) rfl _ _ 30 rfl w.heap.size 37 _ 40 Tryz.underlying30 Tryz.infoEG rfl (by decide) HDA.out rfl (gg l k) (.slice rq (gg l k).src.length rc) _ hsz rfl HIN.out rfl _ rfl hle hwz ?_; intro g8 cap8 w8 hown1 hgr1 hbe1)
        go_roundw
        case rel => exact ⟨k + 1, by omega, by go_num, by unfold Hid; rw [HSN.out]; exact hown1, Below.trans HUA.out hbe1⟩
        case measure => simp [intOf]; omega
      · have d1 : decide ((1 : Int) < ((gg l k).src.length : Int)) = false := by simp; omega
        have d2 : decide (1 < (gg l k).src.length) = false := by simp; omega
        have HSN : Hid (sigK l (k + 1) = sigK l k) := by unfold Hid; rw [HST.out, if_neg e1]
        clear e1 hG
        go_wp2_with fail
        go_roundw
        case rel => exact ⟨k + 1, by omega, by go_num, by unfold Hid; rw [HSN.out]; exact HDA.out, HUA.out⟩
        case measure => simp [intOf]; omega
    · obtain rfl : k = l.length := by omega
      clear hlt hk
      go_wp2_with fail
      go_ret
      exact ⟨hU.out, _, rfl, hD.out.grps⟩
end Go.Proofs.YtpjijbophjdgaaaGreat
namespace Go.Proofs.YtpjijbophjdgaaaGreat
open Go.RowKit Go.Deep
end Go.Proofs.YtpjijbophjdgaaaGreat
namespace Go.Proofs.YtpjijbophjdgaaaGreat
deriving instance DecidableEq for Tre
def insB (f : Nat → ByteArray) (a : Nat) : List Nat → List Nat
  | [] => [a]
  | b :: l => if leB f a b then a :: b :: l else b :: insB f a l
def isrt (f : Nat → ByteArray) : List Nat → List Nat
  | [] => []
  | a :: l => insB f a (isrt f l)
theorem insB_split (f : Nat → ByteArray) (a : Nat) (l₂ : List Nat) (h2 : ∀ b ∈ l₂, leB f a b = true) : ∀ l₁ : List Nat, (∀ b ∈ l₁, leB f a b = false) → insB f a (l₁ ++ l₂) = l₁ ++ a :: l₂
  | [], _ => by
    cases l₂ with
    | nil => rfl
    | cons b l => simp only [List.nil_append, insB]; rw [if_pos (h2 b (by simp))]
  | b :: l₁, h1 => by
    simp only [List.cons_append, insB]
    rw [if_neg (by rw [h1 b (by simp)]; decide), insB_split f a l₂ h2 l₁ fun c hc => h1 c (by simp [hc])]
theorem srtBy_eq (f : Nat → ByteArray) : ∀ l, srtBy f l = isrt f l
  | [] => by unfold srtBy; simp [isrt]
  | a :: l => by
    have ih := srtBy_eq f l
    obtain ⟨l₁, l₂, h1, h2, h3⟩ := List.mergeSort_cons (leB_trans f) (leB_total f) a l
    have hs := srtBy_sorted f (a :: l)
    unfold srtBy at hs ih ⊢
    rw [h1] at hs ⊢
    show _ = insB f a (isrt f l)
    rw [← ih, h2]
    refine (insB_split f a l₂ (fun b hb => ?_) l₁ fun b hb => by simpa using h3 b hb).symm
    have h4 := (List.pairwise_append.1 hs).2.1
    exact (List.pairwise_cons.1 h4).1 b hb
def lsD2 (F : Frs) : Nat → Nat → ByteArray
  | 0, i => F.nm i
  | d + 1, i => match isrt (lsD2 F d) (F.kids i) with | [] => F.nm i | k :: _ => lsD2 F d k
theorem lsD_eq (F : Frs) : ∀ d, lsD F d = lsD2 F d
  | 0 => rfl
  | d + 1 => by
    funext i
    show (match srtBy (lsD F d) (F.kids i) with | [] => F.nm i | k :: _ => lsD F d k) = _
    rw [lsD_eq F d, srtBy_eq]; rfl
def lsF2 (F : Frs) (rk : Nat → Nat) (i : Nat) : ByteArray := lsD2 F (rk i) i
theorem lsF_eq2 (F : Frs) (rk : Nat → Nat) : lsF F rk = lsF2 F rk := by
  funext i; unfold lsF lsF2; rw [lsD_eq]
def canF2 (t : Tre) : Frs := { frT t with kids := fun i => if subF (frT t) (rkT t) 0 i then isrt (lsF2 (frT t) (rkT t)) ((frT t).kids i) else (frT t).kids i }
theorem canF_eq2 (t : Tre) : canF t = canF2 t := by
  unfold canF Frs.srt canF2
  rw [lsF_eq2]
  congr 1
  funext i
  show (if (false || subF (frT t) (rkT t) 0 i) = true then _ else _) = _
  rw [Bool.false_or]
  split
  · rw [srtBy_eq]
  · rfl
theorem canT_eq2 (t : Tre) : canT t = treeF (canF2 t) (rkT t) 0 := by unfold canT; rw [canF_eq2]
end Go.Proofs.YtpjijbophjdgaaaGreat
namespace Go.Proofs.YtpjijbophjdgaaaGreat
open Go.RowKit Go.Deep
theorem strs_get' {S : Nat → Prop} {w : World} {b off : Nat} {n cap : Nat} {xs : List ByteArray} (h : StrsAt S w (.slice (some ⟨b, off, none⟩) n cap) xs) {k : Nat} (hk : k < xs.length) : w.cell? ⟨b, off + k, none⟩ = some (.string (gs xs k)) := by
  obtain ⟨b', o', e, hc⟩ := strs_get h hk
  injection e with e
  injection e with e1 e2
  subst e1; subst e2; exact hc
theorem news_strs {S : Nat → Prop} {w : World} {b off n cap : Nat} {xs : List ByteArray} (h : StrsAt S w (.slice (some ⟨b, off, none⟩) n cap) xs) : ∀ j u, (xs.map Value.string)[j]? = some u → w.cell? ((⟨b, off, none⟩ : Addr).add j) = some u := by
  intro j u hj
  have hadd : (⟨b, off, none⟩ : Addr).add j = ⟨b, off + j, none⟩ := by unfold Addr.add; split <;> simp_all
  rw [List.getElem?_map] at hj
  obtain ⟨x, hx, rfl⟩ := Option.map_eq_some_iff.1 hj
  have hk : j < xs.length := (List.getElem?_eq_some_iff.1 hx).1
  rw [hadd, strs_get' h hk]
  simp [gs, hx]
theorem nil_strs {S : Nat → Prop} {w : World} {n cap : Nat} {xs : List ByteArray} (h : StrsAt S w (.slice none n cap) xs) : xs = [] ∧ n = 0 := by
  obtain ⟨q, c, e, _, h⟩ := h
  injection e with e1 e2 e3
  rcases h with h | ⟨b, off, h, _⟩
  · exact ⟨List.eq_nil_of_length_eq_zero h, by omega⟩
  · rw [← e1] at h; cases h
set_option maxRecDepth 100000 in
set_option maxHeartbeats 400000 in
theorem clone_str_t (S : Nat → Prop) (w : World) (v : Value) (xs : List ByteArray) (h : StrsAt S w v xs) (hn : xs.length ≤ 1000000) :
    Calls Tryz.prog 81 #[v] w (ClPost w 9 (xs.map Value.string)) := by
  obtain ⟨p, cap, rfl, hcap, _⟩ := SlAt.open h
  have h : StrsAt S w (.slice p xs.length cap) xs := h
  cases p with
  | none =>
    obtain ⟨rfl, _⟩ := nil_strs h
    have heq := fun (w : World) => Lib.run_eql_slice_nil (P := Tryz.prog) w 43 9 none 0 cap 0 0 Tryz.underlying43
    clear h
    go_enter Tryz.func81, Tryz.ntmps81
    go_wp2_with fail
    go_ret
    exact ⟨Up.refl _, _, rfl, Owns.nil _ _ _⟩
  | some p =>
    have heq := fun (w : World) => Lib.run_eql_slice_nil (P := Tryz.prog) w 43 9 (some p) xs.length cap 0 0 Tryz.underlying43
    have hu := Up.alloc w (.cells #[] 9)
    have hnews : ∀ j u, (xs.map Value.string)[j]? = some u → (w.alloc (.cells #[] 9)).cell? (p.add j) = some u := fun j u hj => by
      have hj2 : j < xs.length := by
        have := (List.getElem?_eq_some_iff.1 hj).1
        simpa using this
      obtain ⟨b, off, e, _⟩ := strs_get h hj2
      injection e with e
      subst e
      exact news_strs (StrsAt.keep h (hu.kept S)) j u hj
    have HU := Lib.hid hu
    have HN := Lib.hid hnews
    have HM := Lib.hid (Owns.made w 9)
    clear h hnews hu
    go_enter Tryz.func81, Tryz.ntmps81
    go_wp2_with (at_builtin; refine wpList_appS _ rfl _ _ 43 rfl w.heap.size 9 (.string ⟨#[]⟩) 16 Tryz.underlying43 Tryz.infoStr2 rfl (by decide) HM.out rfl p cap (xs.map Value.string) (by rw [List.length_map]; rfl) HN.out (by simp [Value.oneCell']) (by simp; omega) (by simp) ?_; intro v' w' hown' hgrow hbel)
    go_ret
    exact ⟨Below.trans HU.out hbel, _, rfl, hown'⟩
def nmErr (names : List ByteArray) (k : Nat) : Int := if namedB (gs names k).data.toList = false then 14 else if (List.range k).any fun j => decide (gs names k = gs names j) then 7 else 0
def shErr (names : List ByteArray) (l : List Grp) : Int :=
  if names.length = 0 then 5 else if 32 < names.length then 4 else if firstNZ (nmErr names) names.length ≠ 0 then firstNZ (nmErr names) names.length
  else if gcErr l ≠ 0 then gcErr l else if farB l names.length then 2 else if cfL l ≠ [] then 17 else 0
def allN (n : Nat) : Nat := 2 ^ n - 1
def innK (l : List Grp) (all : Nat) : Nat → List Nat
  | 0 => []
  | k + 1 => if 1 < (gg l k).src.length ∧ ofS (gg l k).src ≠ all ∧ ofS (gg l k).src ∉ innK l all k then innK l all k ++ [ofS (gg l k).src] else innK l all k
def innL (l : List Grp) (all : Nat) : List Nat := innK l all l.length
def rawT (names : List ByteArray) (l : List Grp) : Tre := growF names (innL l (allN names.length)) (allN names.length + 1) (allN names.length) (-1) ⟨[], []⟩
def shTree (names : List ByteArray) (l : List Grp) : Tre :=
  if shErr names l ≠ 0 then ⟨[], []⟩ else if names.length = 1 then ⟨[-1], names⟩ else if treeErr (rawT names l) = 0 then canT (rawT names l) else ⟨[], []⟩
def shRes (names : List ByteArray) (l : List Grp) : Int :=
  if shErr names l ≠ 0 then shErr names l else if names.length = 1 then 0 else if treeErr (rawT names l) = 0 then 0 else 1
theorem innK_len (l : List Grp) (all : Nat) : ∀ k, (innK l all k).length ≤ k
  | 0 => Nat.le_refl _
  | k + 1 => by
    have ih := innK_len l all k
    unfold innK
    split
    · rw [List.length_append]; simp; omega
    · omega
theorem gn_mem {l : List Nat} {k : Nat} (h : k < l.length) : gn l k ∈ l := by simp [gn, h]
theorem innK_mem {l : List Grp} {all x : Nat} : ∀ {k : Nat}, x ∈ innK l all k → ∃ j, j < k ∧ x = ofS (gg l j).src ∧ 1 < (gg l j).src.length ∧ x ≠ all
  | 0, h => by cases h
  | k + 1, h => by
    unfold innK at h
    split at h
    · rename_i hc
      rcases List.mem_append.1 h with h | h
      · obtain ⟨j, h1, h2⟩ := innK_mem h; exact ⟨j, by omega, h2⟩
      · obtain rfl : x = ofS (gg l k).src := by simpa using h
        exact ⟨k, by omega, rfl, hc.1, hc.2.1⟩
    · obtain ⟨j, h1, h2⟩ := innK_mem h; exact ⟨j, by omega, h2⟩
theorem gn_zero {l : List Nat} {k : Nat} (h : l.length ≤ k) : gn l k = 0 := by simp [gn, h]
theorem inn_u64 {l : List Grp} (h : gcErr l = 0) (all : Nat) (k j : Nat) (hk : k ≤ l.length) : U64 (gn (innK l all k) j) := by
  by_cases hj : j < (innK l all k).length
  · obtain ⟨i, h1, h2, _⟩ := innK_mem (gn_mem hj)
    rw [h2]
    exact Nat.lt_trans (ofS_lt (srcOk_small ((gcErr_zero h).2 i (by omega)).2.2.2).1) (by decide)
  · rw [gn_zero (by omega)]; unfold U64; omega
def Nmd (Q : ByteArray → Prop) (t : Tre) : Prop := ∀ s ∈ t.ns, Q s
theorem leafK_nmd {Q : ByteArray → Prop} {names : List ByteArray} (hn : ∀ k, Q (gs names k)) {left : Nat} {own : Int} {t : Tre} (h : Nmd Q t) : ∀ s, Nmd Q (leafK names left own s t)
  | 0 => h
  | s + 1 => by
    unfold leafK
    split
    · intro x hx
      rcases List.mem_append.1 hx with hx | hx
      · exact leafK_nmd hn h s x hx
      · obtain rfl : x = gs names s := by simpa using hx
        exact hn s
    · exact leafK_nmd hn h s
theorem kidF_nmd {Q : ByteArray → Prop} {g : Nat → Int → Tre → Tre} (hg : ∀ x p t, Nmd Q t → Nmd Q (g x p t)) (inner : List Nat) (x : Nat) (own : Int) {r : Nat × Tre} (h : Nmd Q r.2) : ∀ k, Nmd Q (kidF g inner x own k r).2
  | 0 => h
  | k + 1 => by
    show Nmd Q (if isKid inner x (gn inner k) then _ else _ : Nat × Tre).2
    split
    · exact hg _ _ _ (kidF_nmd hg inner x own h k)
    · exact kidF_nmd hg inner x own h k
theorem growF_nmd {Q : ByteArray → Prop} {names : List ByteArray} (hn : ∀ k, Q (gs names k)) (h0 : Q ByteArray.empty) (inner : List Nat) : ∀ (d x : Nat) (p : Int) (t : Tre), Nmd Q t → Nmd Q (growF names inner d x p t)
  | 0, _, _, _, h => h
  | d + 1, x, p, t, h => leafK_nmd hn (kidF_nmd (growF_nmd hn h0 inner d) inner x _ (r := (x, t.push p ByteArray.empty)) (fun s hs => by
      rcases List.mem_append.1 hs with hs | hs
      · exact h s hs
      · obtain rfl : s = ByteArray.empty := by simpa using hs
        exact h0) inner.length) names.length
theorem Nmd.gs {Q : ByteArray → Prop} {t : Tre} (h : Nmd Q t) (h0 : Q ByteArray.empty) (k : Nat) : Q (gs t.ns k) := by
  by_cases hk : k < t.ns.length
  · exact h _ (by simp [YtpjijbophjdgaaaGreat.gs, hk])
  · have : YtpjijbophjdgaaaGreat.gs t.ns k = ByteArray.empty := by simp [YtpjijbophjdgaaaGreat.gs, show t.ns.length ≤ k by omega]
    rw [this]; exact h0
end Go.Proofs.YtpjijbophjdgaaaGreat
namespace Go.Proofs.YtpjijbophjdgaaaGreat
open Go.RowKit Go.Deep
theorem testBit_ofK {l : List Int} (h : Small l) (i : Nat) : ∀ {k : Nat}, k ≤ l.length → ((ofK l k).testBit i = true ↔ ∃ j, j < k ∧ gi l j = i)
  | 0, _ => by simp [ofK]
  | k + 1, hk => by
    have ih := testBit_ofK h i (k := k) (by omega)
    have hb := h k (by omega)
    show ((ofK l k ||| 2 ^ (gi l k).toNat).testBit i = true ↔ _)
    rw [Nat.testBit_or, Bool.or_eq_true, ih, Nat.testBit_two_pow, decide_eq_true_eq]
    constructor
    · rintro (⟨j, h1, h2⟩ | h1)
      · exact ⟨j, by omega, h2⟩
      · exact ⟨k, by omega, by omega⟩
    · rintro ⟨j, h1, h2⟩
      by_cases e : j = k
      · subst e; exact .inr (by omega)
      · exact .inl ⟨j, by omega, h2⟩
theorem testBit_ofS {l : List Int} (h : Small l) (i : Nat) : (ofS l).testBit i = true ↔ (i : Int) ∈ l := by
  unfold ofS
  rw [testBit_ofK h i (Nat.le_refl _)]
  constructor
  · rintro ⟨j, h1, h2⟩; rw [← h2]; exact gi_mem h1
  · intro hm
    obtain ⟨j, hj, e⟩ := List.getElem_of_mem hm
    exact ⟨j, hj, by simp [gi, hj, e]⟩
theorem ofS_u64 {l : List Int} (h : Small l) : U64 (ofS l) := Nat.lt_trans (ofS_lt h) (by decide)
theorem small_mem {l : List Int} (h : Small l) {x : Int} (hx : x ∈ l) : ∃ i : Nat, x = i ∧ i < 32 := by
  obtain ⟨j, hj, e⟩ := List.getElem_of_mem hx
  have h1 := h j hj
  have h2 : gi l j = x := by simp [gi, hj, e]
  rw [h2] at h1
  exact ⟨x.toNat, by omega, by omega⟩
end Go.Proofs.YtpjijbophjdgaaaGreat
namespace Go.Proofs.YtpjijbophjdgaaaGreat
open Go.RowKit Go.Deep
end Go.Proofs.YtpjijbophjdgaaaGreat
namespace Go.Proofs.YtpjijbophjdgaaaGreat
open Go.RowKit Go.Deep
end Go.Proofs.YtpjijbophjdgaaaGreat
namespace Go.Proofs.YtpjijbophjdgaaaGreat
open Go.RowKit Go.Deep
end Go.Proofs.YtpjijbophjdgaaaGreat
