/- The tree of the splits of a tree is this tree, rerooted: plain. split.Distance. The example of chapter 32: what each function answers. The helpers of the statements on layer 32: GreatNames, GreatTree, Great, small, four. Contracts: equal lists of lists. -/
import Derived.Test.YtcbmbhghmfehpaaGreatQ25
import Derived.Test.YtcbmbhghmfehpaaGreatQ22
import Derived.Test.YtcbmbhghmfehpaaGreatQ3
import Derived.Test.YtcbmbhghmfehpaaGreatQ28
import Derived.Test.YtcbmbhghmfehpaaGreatQ32
import Derived.Test.YtcbmbhghmfehpaaGreatQ12
import Derived.Test.YtcbmbhghmfehpaaGreatQ21
import Derived.Test.YtcbmbhghmfehpaaGreatQ24
import Derived.Test.YtcbmbhghmfehpaaGreatQ15
import Derived.Test.YtcbmbhghmfehpaaGreatQ4
namespace Go.Proofs.YtcbmbhghmfehpaaGreat
/-- Two parts: one lies in the other, or they share no leaf. -/
theorem parts_lam : ∀ (d : Nat) (r : RT), sizeR r ≤ d → GoodR r → ∀ p ∈ subR r, ∀ q ∈ subR r, p ∈ subR q ∨ q ∈ subR p ∨ ∀ x, x ∈ leafR p → x ∉ leafR q
  | 0, r, hd, _ => by have := sizeR_pos r; omega
  | d + 1, .node nm ks, hd, h => fun p hp q hq => by
    rw [subR, List.mem_cons] at hp hq
    rcases hp with rfl | hp
    · exact .inr (.inl (by rw [subR, List.mem_cons]; exact hq))
    rcases hq with rfl | hq
    · exact .inl (by rw [subR, List.mem_cons]; exact .inr hp)
    obtain ⟨k1, h1, hp⟩ := mem_subRs_ex hp
    obtain ⟨k2, h2, hq⟩ := mem_subRs_ex hq
    obtain ⟨i, hi, rfl⟩ := List.getElem_of_mem h1
    obtain ⟨j, hj, rfl⟩ := List.getElem_of_mem h2
    have h0 : ks ≠ [] := fun e => by subst e; simp at hi
    by_cases hij : i = j
    · subst hij
      have hk := mem_kid (nm := nm) (List.getElem_mem hi)
      exact parts_lam d _ (by have := size_kid (nm := nm) (List.getElem_mem hi); omega) (h.sub hk) p hp q hq
    · refine .inr (.inr fun x hx hx2 => ?_)
      have hn := h.nd
      rw [leafR_node (show nm.size = 0 from h.inn _ (subR_self _) h0), List.nodup_iff_pairwise_ne, List.pairwise_flatMap] at hn
      have hpw := List.pairwise_iff_getElem.1 hn.2
      have e1 := (leafR_sub hp).subset hx
      have e2 := (leafR_sub hq).subset hx2
      rcases Nat.lt_trichotomy i j with c | c | c
      · exact absurd rfl (hpw i j hi hj c x e1 x e2)
      · exact hij c
      · exact absurd rfl (hpw j i hj hi c x e2 x e1)
section
variable {names : List ByteArray} {t : Tre} {S : Nat → List Int} {l : List (List Int)} {la : Nat}
theorem lvS_root (h : OfOk t names) {x : Int} : x ∈ lvS t names 0 ↔ 0 ≤ x ∧ x < (names.length : Int) := by
  constructor
  · intro hx; have := mem_lvS.1 hx; exact ⟨this.1, this.2.1⟩
  · rintro ⟨x0, xn⟩
    obtain ⟨b, rfl⟩ := Int.eq_ofNat_of_zero_le x0
    obtain ⟨j, hj, h3, h4⟩ := of_names h (show b < names.length by omega)
    exact mem_lvS.2 ⟨x0, xn, j, hj, hit_rootS h.te j hj, h3, by rw [h4, fd_of h.nd (by omega)]⟩
theorem of_all (h : OfOk t names) {x : ByteArray} : x ∈ leafR (toR t) ↔ ∃ b : Nat, b < names.length ∧ x = gs names b := by
  have h1 := lvS_lv h (treeErr_zero h.te).1 x
  constructor
  · intro hx
    obtain ⟨b, hb, e⟩ := h1.1 hx
    have := (lvS_root h).1 hb
    exact ⟨b, by omega, e⟩
  · rintro ⟨b, hb, e⟩
    exact h1.2 ⟨b, (lvS_root h).2 ⟨by omega, by omega⟩, e⟩
theorem splS_lam {n : Nat} {X Y : List Int} (hX : ∀ x ∈ X, 0 ≤ x ∧ x < (n : Int)) (hY : ∀ x ∈ Y, 0 ≤ x ∧ x < (n : Int)) (h : (∀ x ∈ X, x ∉ Y) ∨ (∀ x ∈ X, x ∈ Y) ∨ ∀ x ∈ Y, x ∈ X) :
    (∀ x ∈ splS n X, x ∉ splS n Y) ∨ (∀ x ∈ splS n X, x ∈ splS n Y) ∨ ∀ x ∈ splS n Y, x ∈ splS n X := by
  by_cases hx : (0 : Int) ∈ X <;> by_cases hy : (0 : Int) ∈ Y
  · rw [show splS n X = complL n X from if_pos (List.contains_iff_mem.2 hx), show splS n Y = complL n Y from if_pos (List.contains_iff_mem.2 hy)]
    simp only [mem_complL]
    rcases h with h | h | h
    · exact absurd hy (h 0 hx)
    · exact .inr (.inr fun x ⟨a, b, c⟩ => ⟨a, b, fun e => c (h x e)⟩)
    · exact .inr (.inl fun x ⟨a, b, c⟩ => ⟨a, b, fun e => c (h x e)⟩)
  · rw [show splS n X = complL n X from if_pos (List.contains_iff_mem.2 hx), show splS n Y = Y from if_neg fun e => hy (List.contains_iff_mem.1 e)]
    simp only [mem_complL]
    rcases h with h | h | h
    · exact .inr (.inr fun x hx => ⟨(hY x hx).1, (hY x hx).2, fun e => h x e hx⟩)
    · exact absurd (h 0 hx) hy
    · exact .inl fun x ⟨a, b, c⟩ e => c (h x e)
  · rw [show splS n Y = complL n Y from if_pos (List.contains_iff_mem.2 hy), show splS n X = X from if_neg fun e => hx (List.contains_iff_mem.1 e)]
    simp only [mem_complL]
    rcases h with h | h | h
    · exact .inr (.inl fun x hx => ⟨(hX x hx).1, (hX x hx).2, fun e => h x hx e⟩)
    · exact .inl fun x hx ⟨a, b, c⟩ => c (h x hx)
    · exact absurd (h 0 hy) hx
  · rw [show splS n Y = Y from if_neg fun e => hy (List.contains_iff_mem.1 e), show splS n X = X from if_neg fun e => hx (List.contains_iff_mem.1 e)]
    exact h
/-- The splits of one tree are compatible. -/
theorem splO_comp (h : OfOk t names) {a b : List Int} (ha : a ∈ splO t names) (hb : b ∈ splO t names) : compB a b = true := by
  obtain ⟨a1, p, hp, X, aX, bX, lX, rfl⟩ := (mem_splO h).1 ha
  obtain ⟨b1, q, hq, Y, aY, bY, lY, rfl⟩ := (mem_splO h).1 hb
  refine (compB_iff a1.set b1.set).2 (splS_lam bX bY ?_)
  have up : ∀ {X Y : List Int} {p q : RT}, (∀ x ∈ X, 0 ≤ x ∧ x < (names.length : Int)) → (∀ x ∈ Y, 0 ≤ x ∧ x < (names.length : Int)) → Lv names p X → Lv names q Y → p ∈ subR q → ∀ x ∈ X, x ∈ Y := fun {X Y p q} bX bY lX lY h2 x hx => by
    obtain ⟨x0, xn⟩ := bX x hx
    obtain ⟨b, rfl⟩ := Int.eq_ofNat_of_zero_le x0
    obtain ⟨b', hb', e⟩ := (lY _).1 ((leafR_sub h2).subset ((lX _).2 ⟨b, hx, rfl⟩))
    have := bY _ hb'
    have := nd_inj h.nd (a := b) (b := b') (by omega) (by omega) e
    rw [this]; exact hb'
  rcases parts_lam _ (toR t) (Nat.le_refl _) (good_toR h.te) p hp q hq with h2 | h2 | h2
  · exact .inr (.inl (up bX bY lX lY h2))
  · exact .inr (.inr (up bY bX lY lX h2))
  · refine .inl fun x hx hy => ?_
    obtain ⟨x0, xn⟩ := bX x hx
    obtain ⟨b, rfl⟩ := Int.eq_ofNat_of_zero_le x0
    exact h2 _ ((lX _).2 ⟨b, hx, rfl⟩) ((lY _).2 ⟨b, hy, rfl⟩)
theorem splO_len (t : Tre) (names : List ByteArray) : (splO t names).length ≤ t.ps.length := by
  unfold splO
  split
  · unfold ordX
    refine Nat.le_trans (cptX_len _) ?_
    rw [(sortX_perm _).length_eq]
    unfold rawO
    refine Nat.le_trans (List.length_filter_le _ _) ?_
    rw [List.length_map]
    refine Nat.le_trans (List.length_filter_le _ _) ?_
    rw [List.length_range]; exact Nat.le_refl _
  · exact Nat.zero_le _
/-- Names of a tree and its splits can be built. -/
theorem of_bld (h : OfOk t names) : BldOk names (splO t names) := by
  obtain ⟨h0, h64, hl, _, _⟩ := treeErr_zero h.te
  have hgood := good_toR h.te
  refine ⟨?_, h.le, Nat.le_trans (splO_len t names) h64, fun k hk => ?_, h.nd, fun s hs => ((mem_splO h).1 hs).1, fun i k hik hk => splO_comp h (gl_in (by omega)) (gl_in hk)⟩
  · obtain ⟨x, hx⟩ := hgood.meet (subR_self _)
    obtain ⟨b, hb, _⟩ := (of_all h).1 hx
    omega
  · obtain ⟨j, hj, h3, h4⟩ := of_names h hk
    rw [← h4]
    exact tleaf_named h.te hj (LeafOk.nokid ⟨h.te, hj, h3⟩)
end
end Go.Proofs.YtcbmbhghmfehpaaGreat
namespace Go.Proofs.YtcbmbhghmfehpaaGreat
open Go.RowKit Go.Deep
theorem distEq_t (S T : Nat → Prop) (w : World) (b : Nat) (v u : Value) (s x : List Int) (hb : w.cell? ⟨b, 0, none⟩ = some v) (h : IntsAt S w v s) (h2 : IntsAt T w u x) (hn : s.length ≤ 1000000) (hm : x.length ≤ 1000000) :
    FnD 122 #[.pointer (some ⟨b, 0, none⟩)] #[u] (.bool (decide (s = x))) w := by
  intro m
  have hb := (Up.drewN w m).cell hb
  have HE := Lib.hid (equal_int_t S T (w.drewN m) v u s x (IntsAt.keep h ((Up.drewN w m).kept _)) (IntsAt.keep h2 ((Up.drewN w m).kept _)) hn hm)
  obtain ⟨p, cap, rfl, -, -⟩ := SlAt.open h
  obtain ⟨q, caq, rfl, -, -⟩ := SlAt.open h2
  clear h h2
  go_enter Tryz.func122, Tryz.ntmps122
  go_wp2_with fail
  refine HE.out.mono ?_
  rintro e w' ⟨rfl, n, rfl⟩
  go_wp2_with fail
  go_ret
  exact ⟨rfl, m + n, rfl⟩
set_option maxRecDepth 100000 in
set_option maxHeartbeats 1000000 in
theorem only_t (S T : Nat → Prop) (w : World) (v u : Value) (a b : List (List Int)) (h : RowsAt S w v a) (h2 : RowsAt T w u b) (hn : a.length ≤ 1000000) (hm : b.length ≤ 1000000) (hr : ∀ k, (gl a k).length ≤ 1000000) (hq : ∀ k, (gl b k).length ≤ 1000000) :
    Calls Tryz.prog 121 #[v, u] w fun e w' => e = .returned (.int .i64 (onlyN a b : Int)) ∧ Up w w' := by
  have HO : Hid (∀ k, onlyK a b (k + 1) = onlyK a b k + if hasL b (gl a k) then 0 else 1) := fun _ => rfl
  have HON : Hid (onlyN a b = onlyK a b a.length) := rfl
  have HLE := Lib.hid (onlyK_le a b)
  obtain ⟨p, pc, rfl, -, -⟩ := rows_open h
  obtain ⟨q, qc, rfl, -, -⟩ := rows_open h2
  have HA : Hid (RowsAt S w (.slice p a.length pc) a) := h
  have HB : Hid (RowsAt T w (.slice q b.length qc) b) := h2
  have HR := Lib.hid hr
  have HQ := Lib.hid hq
  clear h h2 hr hq
  go_enter Tryz.func121, Tryz.ntmps121
  go_wp2_with fail
  go_loopw [5, 7, 10] (fun n _ i wr => ∃ k : Nat, k ≤ a.length ∧ i = .int .i64 k ∧ n = .int .i64 (onlyK a b k : Int) ∧ Hid (Up w wr)) (fun _ _ i _ => a.length - (intOf i).toNat)
  case atStart => exact ⟨0, Nat.zero_le _, rfl, rfl, Up.refl _⟩
  case round =>
    obtain ⟨k, hk, rfl, rfl, hU⟩ := hrel
    obtain ⟨wo, rfl⟩ : ∃ wo : World, wo = wr := ⟨_, rfl⟩
    by_cases hlt : k < a.length
    · obtain ⟨ab, ao, x, c, rfl, hc, hi⟩ := rows_get (RowsAt.keep HA.out (hU.out.kept _)) hlt
      have hu2 := Up.alloc wo (.cells #[.slice x (gl a k).length c] 26)
      have hb := box1_0 wo (.slice x (gl a k).length c) 26
      obtain ⟨f, hf1, hf2⟩ := RowsAt.keep HB.out ((hU.out.trans hu2).kept _)
      have HC := Lib.hid (rows_has_d 122 #[.pointer (some ⟨wo.heap.size, 0, none⟩)] (enters_of Tryz.func122 (by kernel_rfl) rfl) T _ _ b.length f (fun j => decide (gl a k = gl b j)) hf1 hm
        (fun j hj => distEq_t S T _ _ _ _ _ _ hb (IntsAt.keep hi (hu2.kept _)) (hf2 j hj) (HR.out k) (HQ.out j)))
      have HHL : Hid ((List.range b.length).any (fun j => decide (gl a k = gl b j)) = hasL b (gl a k)) := rfl
      rw [HHL.out] at HC
      have HU2 := Lib.hid (hU.out.trans hu2)
      have HOK := Lib.hid (HO.out k)
      have k1 : (0 : Int) ≤ (k : Int) := Int.natCast_nonneg _
      have k2 : (k : Int) < (a.length : Int) := by omega
      have k3 : (onlyK a b k : Int) ≤ (k : Int) := by have := HLE.out k; omega
      clear hb hf1 hf2 hi hU hu2 HHL
      generalize hasL b (gl a k) = bb at *
      cases bb
      · have HX : Hid ((onlyK a b (k + 1) : Int) = (onlyK a b k : Int) + 1) := by unfold Hid; rw [HOK.out]; simp
        clear HOK
        go_wp2_with fail
        refine HC.out.mono ?_
        rintro e w' ⟨rfl, nq, rfl⟩
        go_wp2_with fail
        go_roundw
        case rel => exact ⟨k + 1, by omega, by go_num, by rw [HX.out], HU2.out.trans (Up.drewN _ nq)⟩
        case measure => simp [intOf]; omega
      · have HX : Hid ((onlyK a b (k + 1) : Int) = (onlyK a b k : Int)) := by unfold Hid; rw [HOK.out]; simp
        clear HOK
        go_wp2_with fail
        refine HC.out.mono ?_
        rintro e w' ⟨rfl, nq, rfl⟩
        go_wp2_with fail
        go_roundw
        case rel => exact ⟨k + 1, by omega, by go_num, by rw [HX.out], HU2.out.trans (Up.drewN _ nq)⟩
        case measure => simp [intOf]; omega
    · obtain rfl : k = a.length := by omega
      have HUU := Lib.hid hU.out
      clear hU
      go_wp2_with fail
      go_ret
      exact ⟨ret_int (by rw [HON.out]), HUU.out⟩
def dsErr (t u : Tre) (names : List ByteArray) : Int := if splOErr t names ≠ 0 then splOErr t names else splOErr u names
def dsN (t u : Tre) (names : List ByteArray) : Nat := if dsErr t u names = 0 then distN (splO t names) (splO u names) else 0
theorem splO_row (t : Tre) (names : List ByteArray) (k : Nat) : (gl (splO t names) k).length ≤ 64 := by
  by_cases hk : k < (splO t names).length
  · by_cases he : splOErr t names = 0
    · have ho := splO_ok.1 he
      have := ((of_bld ho).spl _ (gl_in hk)).len
      have := ho.le
      omega
    · unfold splO at hk
      rw [if_neg he] at hk
      exact absurd hk (Nat.not_lt_zero _)
  · simp [gl, show (splO t names).length ≤ k by omega]
set_option maxRecDepth 100000 in
set_option maxHeartbeats 2000000 in
/-- split.Distance. -/
theorem distance_t (S : Nat → Prop) (w : World) (v v2 vs : Value) (t u : Tre) (names : List ByteArray) (hT : TreeAt S w v t) (hU : TreeAt S w v2 u) (hV : StrsAt S w vs names) (hp : t.ps.length ≤ 1000000) (hn : t.ns.length ≤ 1000000) (hz : ∀ k, (gs t.ns k).size ≤ 70000) (hp2 : u.ps.length ≤ 1000000) (hn2 : u.ns.length ≤ 1000000) (hz2 : ∀ k, (gs u.ns k).size ≤ 70000) (hnl : names.length ≤ 1000000) :
    Calls Tryz.prog 52 #[v, v2, vs] w fun e w' => e = .returned (.tuple #[.int .i64 (dsN t u names : Int), .int .i64 (dsErr t u names)]) ∧ Up w w' := by
  have HE : Hid (dsErr t u names = if splOErr t names ≠ 0 then splOErr t names else splOErr u names) := rfl
  have HN : Hid (dsN t u names = if dsErr t u names = 0 then onlyN (splO t names) (splO u names) + onlyN (splO u names) (splO t names) else 0) := rfl
  have HOF1 : Hid (∀ W, Up w W → Calls Tryz.prog 27 #[v, vs] W (OfPost W t names)) := fun W hW => splOf_t S W v vs t names (hT.keep (hW.kept _)) (StrsAt.keep hV (hW.kept _)) hp hn hz hnl
  have HOF2 : Hid (∀ W, Up w W → Calls Tryz.prog 27 #[v2, vs] W (OfPost W u names)) := fun W hW => splOf_t S W v2 vs u names (hU.keep (hW.kept _)) (StrsAt.keep hV (hW.kept _)) hp2 hn2 hz2 hnl
  have HL1 : Hid ((splO t names).length ≤ 1000000 ∧ ∀ k, (gl (splO t names) k).length ≤ 1000000) := ⟨Nat.le_trans (splO_len t names) hp, fun k => Nat.le_trans (splO_row t names k) (by decide)⟩
  have HL2 : Hid ((splO u names).length ≤ 1000000 ∧ ∀ k, (gl (splO u names) k).length ≤ 1000000) := ⟨Nat.le_trans (splO_len u names) hp2, fun k => Nat.le_trans (splO_row u names k) (by decide)⟩
  have HB1 : Hid (onlyN (splO t names) (splO u names) ≤ 1000000) := Nat.le_trans (only_le _ _) HL1.out.1
  have HB2 : Hid (onlyN (splO u names) (splO t names) ≤ 1000000) := Nat.le_trans (only_le _ _) HL2.out.1
  obtain ⟨P, N, rfl, hP, hN⟩ := hT
  obtain ⟨P2, N2, rfl, hP2, hN2⟩ := hU
  obtain ⟨mp, mc, rfl, -, -⟩ := SlAt.open hV
  have hu1 := (Up.alloc w (.cells #[P, N] 45)).trans (Up.alloc _ (.cells #[P2, N2] 45))
  have hsz : (w.alloc (.cells #[P, N] 45)).heap.size = w.heap.size + 1 := by simp
  have a0 := (Up.alloc (w.alloc (.cells #[P, N] 45)) (.cells #[P2, N2] 45)).cell (box2_0 w P N 45)
  have a1 := (Up.alloc (w.alloc (.cells #[P, N] 45)) (.cells #[P2, N2] 45)).cell (box2_1 w P N 45)
  have c0 := box2_0 (w.alloc (.cells #[P, N] 45)) P2 N2 45
  have c1 := box2_1 (w.alloc (.cells #[P, N] 45)) P2 N2 45
  rw [hsz] at c0 c1
  have HU1 := Lib.hid hu1
  have HA := Lib.hid (⟨a0, a1, c0, c1⟩ : _ ∧ _ ∧ _ ∧ _)
  clear hP hN hP2 hN2 hV hu1 hsz a0 a1 c0 c1
  go_enter Tryz.func52, Tryz.ntmps52
  go_wp2_with fail
  generalize (w.alloc (.cells #[P, N] 45)).alloc (.cells #[P2, N2] 45) = w1 at *
  obtain ⟨a0, a1, c0, c1⟩ := HA.out
  refine (HOF1.out w1 HU1.out).mono ?_
  rintro e w2 ⟨hu2, r1, rfl, hr1⟩
  have c0 := hu2.cell c0
  have c1 := hu2.cell c1
  have HU2 := Lib.hid (HU1.out.trans hu2)
  have HR1 := Lib.hid hr1
  clear hu2 hr1 a0 a1 HOF1 HU1 HA
  by_cases e1 : splOErr t names = 0
  · have HE2 : Hid (dsErr t u names = splOErr u names) := by unfold Hid; rw [HE.out, if_neg (fun e => e e1)]
    rw [e1]
    clear e1 HE
    go_wp2_with fail
    refine (HOF2.out w2 HU2.out).mono ?_
    rintro e w3 ⟨hu3, r2, rfl, hr2⟩
    have HU3 := Lib.hid (HU2.out.trans hu3)
    have HR2 := Lib.hid hr2
    have HR1' := Lib.hid (RowsAt.keep HR1.out (hu3.kept _))
    clear hu3 hr2 c0 c1 HOF2 HU2 HR1
    by_cases e2 : splOErr u names = 0
    · have HX : Hid (dsErr t u names = 0 ∧ dsN t u names = onlyN (splO t names) (splO u names) + onlyN (splO u names) (splO t names)) := ⟨HE2.out.trans e2, by rw [HN.out, if_pos (HE2.out.trans e2)]⟩
      rw [e2]
      clear e2 HE2 HN
      have HC1 := Lib.hid (only_t Any Any w3 _ _ _ _ HR1'.out HR2.out HL1.out.1 HL2.out.1 HL1.out.2 HL2.out.2)
      go_wp2_with fail
      refine HC1.out.mono ?_
      rintro e w4 ⟨rfl, hu4⟩
      have HC2 := Lib.hid (only_t Any Any w4 _ _ _ _ (RowsAt.keep HR2.out (hu4.kept _)) (RowsAt.keep HR1'.out (hu4.kept _)) HL2.out.1 HL1.out.1 HL2.out.2 HL1.out.2)
      have HU4 := Lib.hid (HU3.out.trans hu4)
      have b1 := HB1.out
      have b2 := HB2.out
      clear hu4 HC1 HU3 HR2 HR1'
      go_wp2_with fail
      refine HC2.out.mono ?_
      rintro e w5 ⟨rfl, hu5⟩
      have HU5 := Lib.hid (HU4.out.trans hu5)
      clear hu5
      generalize onlyN (splO t names) (splO u names) = x at *
      generalize onlyN (splO u names) (splO t names) = y at *
      go_wp2_with fail
      exact ⟨rfl, .tuple #[.int .i64 ((x : Int) + (y : Int)), .int .i64 0], by simp [results, Tryz.results52, go_sem], by rw [HX.out.1, HX.out.2]; simp, HU5.out⟩
    · have HX : Hid (dsErr t u names = splOErr u names ∧ dsN t u names = 0) := ⟨HE2.out, by rw [HN.out, if_neg (by rw [HE2.out]; exact e2)]⟩
      have d1 : (splOErr u names != 0) = true := by simpa using e2
      clear e2 HE2 HN
      generalize splOErr u names = z at *
      go_wp2_with fail
      exact ⟨rfl, .tuple #[.int .i64 0, .int .i64 z], by simp [results, Tryz.results52, go_sem], by rw [HX.out.1, HX.out.2]; rfl, HU3.out⟩
  · have HX : Hid (dsErr t u names = splOErr t names ∧ dsN t u names = 0) := ⟨by rw [HE.out, if_pos e1], by rw [HN.out, if_neg (by rw [HE.out, if_pos e1]; exact e1)]⟩
    have d1 : (splOErr t names != 0) = true := by simpa using e1
    clear e1 HE HN
    generalize splOErr t names = z at *
    go_wp2_with fail
    exact ⟨rfl, .tuple #[.int .i64 0, .int .i64 z], by simp [results, Tryz.results52, go_sem], by rw [HX.out.1, HX.out.2]; rfl, HU2.out⟩
end Go.Proofs.YtcbmbhghmfehpaaGreat
namespace Go.Proofs.YtcbmbhghmfehpaaGreat
def tX : Tre := ⟨[-1, 0, 1, 1, 0, 4, 4], [⟨#[]⟩, ⟨#[]⟩, ⟨#[65]⟩, ⟨#[66]⟩, ⟨#[]⟩, ⟨#[67]⟩, ⟨#[68]⟩]⟩
def uX : Tre := ⟨[-1, 0, 0, 2, 2, 4, 4], [⟨#[]⟩, ⟨#[65]⟩, ⟨#[]⟩, ⟨#[66]⟩, ⟨#[]⟩, ⟨#[67]⟩, ⟨#[68]⟩]⟩
def fourX : List ByteArray := [⟨#[65]⟩, ⟨#[66]⟩, ⟨#[67]⟩, ⟨#[68]⟩]
def tXs : ByteArray := ⟨#[40, 40, 65, 44, 66, 41, 44, 40, 67, 44, 68, 41, 41, 59]⟩
def uXs : ByteArray := ⟨#[40, 65, 44, 40, 66, 44, 40, 67, 44, 68, 41, 41, 41, 59]⟩
theorem tX_par : paE tXs = 0 ∧ paT tXs = tX := by decide +kernel
theorem uX_par : paE uXs = 0 ∧ paT uXs = uX := by decide +kernel
theorem tX_of : splOErr tX fourX = 0 ∧ splO tX fourX = [[2, 3]] := by decide +kernel
theorem tX_ds : dsErr tX uX fourX = 0 ∧ dsN tX uX fourX = 0 := by decide +kernel
theorem X_bld : bldErr fourX [[2, 3]] = 0 ∧ bldR fourX [[2, 3]] = uX := by
  refine ⟨by decide +kernel, ?_⟩
  unfold bldR bldT
  rw [canT_eq2 (bT fourX (ownQ [[2, 3]]))]
  decide +kernel
theorem uX_tx : txE uX = 0 ∧ txT uX = [40, 65, 44, 40, 66, 44, 40, 67, 44, 68, 41, 41, 41, 59] := by decide +kernel
theorem X_cp : cpB 4 [1, 2] [2, 3] = false ∧ cpErr 4 [1, 2] [2, 3] = 0 := by decide +kernel
end Go.Proofs.YtcbmbhghmfehpaaGreat
namespace Go.Proofs.YtcbmbhghmfehpaaGreat
open Go.RowKit Go.Deep
def g32K (names : List ByteArray) (k : Nat) : Bool := decide (20 < (gs names k).size) || (decide (9 < names.length) && (decide (names.length ≤ 32) || decide ((gs names k).size ≠ 0)))
def g32B (names : List ByteArray) : Bool := (List.range names.length).any (g32K names) || decide (40 < names.length)
theorem g32_small {names : List ByteArray} (h : g32B names = false) : names.length ≤ 40 ∧ ∀ k, (gs names k).size ≤ 20 := by
  unfold g32B at h
  rw [Bool.or_eq_false_iff] at h
  refine ⟨by have := of_decide_eq_false h.2; omega, fun k => ?_⟩
  by_cases hk : k < names.length
  · have h1 := any_false h.1 hk
    unfold g32K at h1
    rw [Bool.or_eq_false_iff] at h1
    have := of_decide_eq_false h1.1; omega
  · have : gs names k = ByteArray.empty := by simp [gs, show names.length ≤ k by omega]
    rw [this]; decide
set_option maxRecDepth 100000 in
set_option maxHeartbeats 2000000 in
theorem gnames32_t (S : Nat → Prop) (w : World) (v : Value) (names : List ByteArray) (h : StrsAt S w v names) (hn : names.length ≤ 9223372036854775807) (hz : ∀ k, (gs names k).size ≤ 9223372036854775807) :
    Calls Tryz.prog 44 #[v] w fun e w' => e = .returned (.bool (g32B names)) ∧ w = w' := by
  have HX := Lib.hid h
  have HZ := Lib.hid hz
  obtain ⟨p, cap, rfl, hcap, _⟩ := SlAt.open h
  have HT : Hid (∀ k, k < names.length → g32K names k = true → g32B names = true) := fun k hk hb => by unfold g32B; rw [any_at (p := g32K names) hk hb]; rfl
  have HF : Hid ((∀ k, k < names.length → g32K names k = false) → g32B names = decide (40 < names.length)) := fun hb => by unfold g32B; rw [any_none (p := g32K names) hb]; rfl
  have HK : Hid (∀ k, g32K names k = (decide (20 < (gs names k).size) || (decide (9 < names.length) && (decide (names.length ≤ 32) || decide ((gs names k).size ≠ 0))))) := fun _ => rfl
  clear h hz
  generalize g32B names = r at *
  go_enter Tryz.func44, Tryz.ntmps44
  go_wp2_with fail
  go_loop [3] (fun i => ∃ k : Nat, k ≤ names.length ∧ i = .int .i64 k ∧ Hid (∀ j, j < k → g32K names j = false)) (fun i => names.length - (intOf i).toNat)
  case atStart => exact ⟨0, Nat.zero_le _, rfl, fun j hj => absurd hj (Nat.not_lt_zero _)⟩
  case round =>
    obtain ⟨k, hk, rfl, hd⟩ := hrel
    by_cases hlt : k < names.length
    · obtain ⟨b, off, rfl, hc⟩ := strs_get HX.out hlt
      have i1 : (0 : Int) ≤ (k : Int) := by omega
      have i2 : (k : Int) < (names.length : Int) := by omega
      have hzk := HZ.out k
      have HTK := Lib.hid (HT.out k hlt)
      have HDK : Hid (g32K names k = false → ∀ j, j < k + 1 → g32K names j = false) := fun hx j hj => if e : j = k then by subst e; exact hx else hd.out j (by omega)
      have HKK := Lib.hid (HK.out k)
      have HNIL := Lib.hid (toList_nil (gs names k))
      generalize g32K names k = gk at *
      generalize gs names k = y at *
      by_cases h1 : 20 < y.size
      · have e0 : decide ((20 : Int) < (y.size : Int)) = true := decide_eq_true (by omega)
        have HQ := Lib.hid (HTK.out (by rw [HKK.out, decide_eq_true h1]; rfl))
        clear h1
        go_wp2_with fail
        go_ret
        exact ⟨ret_bool HQ.out.symm, rfl⟩
      · have e0 : decide ((20 : Int) < (y.size : Int)) = false := decide_eq_false (by omega)
        by_cases h2 : 9 < names.length
        · have e1 : decide ((9 : Int) < (names.length : Int)) = true := decide_eq_true (by omega)
          by_cases h3 : names.length ≤ 32
          · have e2 : decide ((names.length : Int) ≤ 32) = true := decide_eq_true (by omega)
            have HQ := Lib.hid (HTK.out (by rw [HKK.out, decide_eq_true h2, decide_eq_true h3]; simp))
            clear h1
            go_wp2_with fail
            go_ret
            exact ⟨ret_bool HQ.out.symm, rfl⟩
          · have e2 : decide ((names.length : Int) ≤ 32) = false := decide_eq_false (by omega)
            by_cases hs0 : y.size = 0
            · have hs1 : y.toList = [] := HNIL.out.2 hs0
              have HQ := Lib.hid (HDK.out (by rw [HKK.out, decide_eq_false h1, decide_eq_false h3, decide_eq_false (show ¬ (y.size ≠ 0) from fun q => q hs0)]; simp))
              clear h1 hs0
              go_wp2_with fail
              go_round
              case rel => exact ⟨k + 1, by omega, by go_num, HQ.out⟩
              case measure => simp [intOf]; omega
            · have hs1 : (y.toList == []) = false := by
                rw [Bool.eq_false_iff]; intro e; exact hs0 (HNIL.out.1 (by simpa using e))
              have hs2 : (y.toList != []) = true := by
                rw [bne_iff_ne]; intro e; exact hs0 (HNIL.out.1 (by simpa using e))
              have HQ := Lib.hid (HTK.out (by rw [HKK.out, decide_eq_true h2, decide_eq_true (show y.size ≠ 0 from hs0)]; simp))
              clear h1 hs0
              go_wp2_with fail
              go_ret
              exact ⟨ret_bool HQ.out.symm, rfl⟩
        · have e1 : decide ((9 : Int) < (names.length : Int)) = false := decide_eq_false (by omega)
          have HQ := Lib.hid (HDK.out (by rw [HKK.out, decide_eq_false h1, decide_eq_false h2]; rfl))
          clear h1
          go_wp2_with fail
          go_round
          case rel => exact ⟨k + 1, by omega, by go_num, HQ.out⟩
          case measure => simp [intOf]; omega
    · obtain rfl : k = names.length := by omega
      have HQ := Lib.hid (HF.out hd.out)
      clear hlt hk
      go_wp2_with fail
      go_ret
      exact ⟨ret_bool (by rw [HQ.out, Bool.eq_iff_iff, decide_eq_true_eq, decide_eq_true_eq]; omega), rfl⟩
set_option maxRecDepth 100000 in
set_option maxHeartbeats 400000 in
theorem great04_t (S : Nat → Prop) (w : World) (v : Value) (xs : List Int) (h : IntsAt S w v xs) (hn : xs.length ≤ 9223372036854775807) :
    Calls Tryz.prog 46 #[v] w fun e w' => e = .returned (.bool (decide (12 < xs.length))) ∧ w = w' := by
  obtain ⟨p, cap, rfl, hcap, _⟩ := SlAt.open h
  clear h
  go_enter Tryz.func46, Tryz.ntmps46
  go_wp2_with fail
  go_ret
  exact ⟨ret_bool (by rw [Bool.eq_iff_iff, decide_eq_true_eq, decide_eq_true_eq]; omega), rfl⟩
theorem great04_d (S : Nat → Prop) (w : World) (v : Value) (xs : List Int) (h : IntsAt S w v xs) (hn : xs.length ≤ 9223372036854775807) : FnD 46 #[] #[v] (.bool (decide (12 < xs.length))) w := by
  intro m
  refine (great04_t S (w.drewN m) v xs (IntsAt.keep h ((Up.drewN w m).kept _)) hn).mono ?_
  rintro e w' ⟨rfl, rfl⟩
  exact ⟨rfl, m, rfl⟩
def grL (l : List (List Int)) : Bool := (List.range l.length).any fun k => decide (12 < (gl l k).length)
theorem grL_small {l : List (List Int)} (h : grL l = false) (k : Nat) : (gl l k).length ≤ 12 := by
  by_cases hk : k < l.length
  · have := of_decide_eq_false (any_false h hk); omega
  · have : gl l k = [] := by simp [gl, show l.length ≤ k by omega]
    rw [this]; decide
theorem great04_has (S : Nat → Prop) (w : World) (v : Value) (l : List (List Int)) (h : RowsAt S w v l) (hn : l.length ≤ 1000000) (hr : ∀ k, (gl l k).length ≤ 9223372036854775807) :
    Calls Tryz.prog 20 #[v, .func (.func 46) #[] #[]] w fun e w' => e = .returned (.bool (grL l)) ∧ ∃ q, w' = w.drewN q := by
  obtain ⟨f, hf1, hf2⟩ := h
  exact rows_has_d 46 #[] (enters_of Tryz.func46 (by kernel_rfl) rfl) S w v l.length f (fun k => decide (12 < (gl l k).length)) hf1 hn fun k hk => great04_d S w _ _ (hf2 k hk) (hr k)
def sm32B (names : List ByteArray) (l : List (List Int)) : Bool := !g32B names && (decide (names.length ≤ 9) && (decide (l.length ≤ 7) && !grL l))
theorem sm32_ok {names : List ByteArray} {l : List (List Int)} (h : sm32B names l = true) : names.length ≤ 9 ∧ (∀ k, (gs names k).size ≤ 20) ∧ l.length ≤ 7 ∧ ∀ k, (gl l k).length ≤ 12 := by
  unfold sm32B at h
  simp only [Bool.and_eq_true, Bool.not_eq_true', decide_eq_true_eq] at h
  exact ⟨h.2.1, (g32_small h.1).2, h.2.2.1, grL_small h.2.2.2⟩
set_option maxRecDepth 100000 in
set_option maxHeartbeats 2000000 in
theorem small32_t (S T : Nat → Prop) (w : World) (v u : Value) (names : List ByteArray) (l : List (List Int)) (h : StrsAt S w v names) (h2 : RowsAt T w u l) (hn : names.length ≤ 9223372036854775807) (hz : ∀ k, (gs names k).size ≤ 9223372036854775807)
    (hln : l.length ≤ 9223372036854775807) (hr : ∀ k, (gl l k).length ≤ 9223372036854775807) :
    Calls Tryz.prog 54 #[v, u] w fun e w' => e = .returned (.bool (sm32B names l)) ∧ Up w w' := by
  obtain ⟨p, cap, rfl, _, _⟩ := SlAt.open h
  obtain ⟨q, c, rfl, _, _⟩ := rows_open h2
  have HG := Lib.hid (gnames32_t S w _ names h hn hz)
  have HC : Hid (l.length ≤ 7 → Calls Tryz.prog 20 #[.slice q l.length c, .func (.func 46) #[] #[]] w fun e w' => e = .returned (.bool (grL l)) ∧ ∃ q, w' = w.drewN q) := fun h7 => great04_has T w _ l h2 (by omega) hr
  have HE : Hid (sm32B names l = (!g32B names && (decide (names.length ≤ 9) && (decide (l.length ≤ 7) && !grL l)))) := rfl
  clear h h2 hz hr
  generalize sm32B names l = r at *
  generalize g32B names = g at *
  cases g
  · by_cases h1 : names.length ≤ 9
    · have d1 : decide ((names.length : Int) ≤ 9) = true := decide_eq_true (by omega)
      by_cases h2 : l.length ≤ 7
      · have d2 : decide ((l.length : Int) ≤ 7) = true := decide_eq_true (by omega)
        have HC2 := Lib.hid (HC.out h2)
        have HE2 : Hid (r = !grL l) := by unfold Hid; rw [HE.out, decide_eq_true h1, decide_eq_true h2]; rfl
        clear HE HC h1 h2
        generalize grL l = gg at *
        go_enter Tryz.func54, Tryz.ntmps54
        go_wp2_with fail
        refine HG.out.mono ?_
        rintro e w2 ⟨rfl, rfl⟩
        go_wp2_with fail
        refine HC2.out.mono ?_
        rintro e w2 ⟨rfl, n, rfl⟩
        go_wp2_with fail
        go_ret
        exact ⟨ret_bool HE2.out.symm, Up.drewN _ _⟩
      · have d2 : decide ((l.length : Int) ≤ 7) = false := decide_eq_false (by omega)
        have HE2 : Hid (r = false) := by unfold Hid; rw [HE.out, decide_eq_false h2]; simp
        clear HE HC h1 h2
        go_enter Tryz.func54, Tryz.ntmps54
        go_wp2_with fail
        refine HG.out.mono ?_
        rintro e w2 ⟨rfl, rfl⟩
        go_wp2_with fail
        go_ret
        exact ⟨ret_bool HE2.out.symm, Up.refl _⟩
    · have d1 : decide ((names.length : Int) ≤ 9) = false := decide_eq_false (by omega)
      have HE2 : Hid (r = false) := by unfold Hid; rw [HE.out, decide_eq_false h1]; simp
      clear HE HC h1
      go_enter Tryz.func54, Tryz.ntmps54
      go_wp2_with fail
      refine HG.out.mono ?_
      rintro e w2 ⟨rfl, rfl⟩
      go_wp2_with fail
      go_ret
      exact ⟨ret_bool HE2.out.symm, Up.refl _⟩
  · have HE2 : Hid (r = false) := by unfold Hid; rw [HE.out]; rfl
    clear HE HC
    go_enter Tryz.func54, Tryz.ntmps54
    go_wp2_with fail
    refine HG.out.mono ?_
    rintro e w2 ⟨rfl, rfl⟩
    go_wp2_with fail
    go_ret
    exact ⟨ret_bool HE2.out.symm, Up.refl _⟩
def FourPost (w : World) (e : Ending) (w' : World) : Prop := Up w w' ∧ ∃ v, e = .returned v ∧ StrsAt Any w' v fourX
set_option maxRecDepth 100000 in
set_option maxHeartbeats 400000 in
theorem four_t (w : World) : Calls Tryz.prog 109 #[] w (FourPost w) := by
  have HU := Lib.hid (Up.alloc w (.cells #[.string ⟨#[65]⟩, .string ⟨#[66]⟩, .string ⟨#[67]⟩, .string ⟨#[68]⟩] 9))
  have HS := Lib.hid (lit_strs w #[.string ⟨#[65]⟩, .string ⟨#[66]⟩, .string ⟨#[67]⟩, .string ⟨#[68]⟩] 9 fourX rfl 4 rfl)
  go_enter Tryz.func109, Tryz.ntmps109
  go_wp2_with fail
  go_ret
  exact ⟨HU.out, _, rfl, HS.out⟩
end Go.Proofs.YtcbmbhghmfehpaaGreat
namespace Go.Proofs.YtcbmbhghmfehpaaGreat
open Go.RowKit Go.Deep
set_option maxRecDepth 100000 in
set_option maxHeartbeats 400000 in
theorem same04_t (S T : Nat → Prop) (w : World) (v u : Value) (xs ys : List Int) (h : IntsAt S w v xs) (h2 : IntsAt T w u ys) (hn : xs.length ≤ 1000000) (hn2 : ys.length ≤ 1000000) :
    Calls Tryz.prog 116 #[v, u] w (EqPost w (decide (xs = ys))) := by
  obtain ⟨p, cap, rfl, hcap, _⟩ := SlAt.open h
  obtain ⟨q, cap2, rfl, hcap2, _⟩ := SlAt.open h2
  have HX : Hid (IntsAt S w (.slice p xs.length cap) xs) := h
  have HY : Hid (IntsAt T w (.slice q ys.length cap2) ys) := h2
  clear h h2
  by_cases hl : xs.length = ys.length
  · have hl1 : ((xs.length : Int) != ys.length) = false := by simp [hl]
    have HL := Lib.hid hl
    clear hl
    go_enter Tryz.func116, Tryz.ntmps116
    go_wp2_with fail
    go_loopw [5] (fun i wr => ∃ k n : Nat, k ≤ xs.length ∧ i = .int .i64 k ∧ wr = w.drewN n ∧ Hid (∀ j, j < k → gi xs j = gi ys j)) (fun i _ => xs.length - (intOf i).toNat)
    case atStart => exact ⟨0, 0, Nat.zero_le _, rfl, rfl, fun j hj => absurd hj (Nat.not_lt_zero _)⟩
    case round =>
      obtain ⟨k, n, hk, rfl, rfl, hd⟩ := hrel
      by_cases hlt : k < xs.length
      · have hlt2 : k < ys.length := by rw [← HL.out]; exact hlt
        obtain ⟨b, off, rfl, hc⟩ := ints_get HX.out hlt
        obtain ⟨b2, off2, rfl, hc2⟩ := ints_get HY.out hlt2
        have i1 : (0 : Int) ≤ (k : Int) := by omega
        have i2 : (k : Int) < (xs.length : Int) := by omega
        have i3 : (k : Int) < (ys.length : Int) := by omega
        generalize hx : gi xs k = x at *
        generalize hy : gi ys k = y at *
        have HXX := Lib.hid hx
        have HYY := Lib.hid hy
        clear hx hy
        by_cases hxy : x = y
        · have hxy1 : (x != y) = false := by simp [hxy]
          have HXY := Lib.hid hxy
          clear hxy
          go_wp2_with fail
          go_quiet (fail)
          go_wp2_with fail
          go_roundw
          case rel => exact ⟨k + 1, n + nq, by omega, by go_num, rfl, fun j hj => if e : j = k then by subst e; rw [HXX.out, HYY.out, HXY.out] else hd.out j (by omega)⟩
          case measure => simp [intOf]; omega
        · have hxy1 : (x != y) = true := by simpa using hxy
          have HXY := Lib.hid hxy
          clear hxy
          go_wp2_with fail
          go_quiet (fail)
          go_wp2_with fail
          go_ret
          refine ⟨ret_bool ?_, n + nq, by rw [World.drewN_drewN]⟩
          rw [eq_comm, decide_eq_false_iff_not]
          rintro rfl
          exact HXY.out (by rw [← HXX.out, ← HYY.out])
      · obtain rfl : k = xs.length := by omega
        clear hlt hk
        have hex : xs = ys := ints_ext HL.out hd.out
        have HEX : Hid (decide (xs = ys) = true) := decide_eq_true hex
        clear hex
        go_wp2_with fail
        go_ret
        exact ⟨ret_bool (by rw [HEX.out]), n, rfl⟩
  · have hl1 : ((xs.length : Int) != ys.length) = true := by simp; omega
    have HL := Lib.hid hl
    clear hl
    go_enter Tryz.func116, Tryz.ntmps116
    go_wp2_with fail
    go_ret
    refine ⟨ret_bool ?_, 0, rfl⟩
    rw [eq_comm, decide_eq_false_iff_not]
    rintro rfl
    exact HL.out rfl

set_option maxRecDepth 100000 in
set_option maxHeartbeats 800000 in
theorem sameLists_t (S T : Nat → Prop) (w : World) (v u : Value) (xs ys : List (List Int)) (h : RowsAt S w v xs) (h2 : RowsAt T w u ys) (hn : xs.length ≤ 1000000) (hn2 : ys.length ≤ 1000000) (hr : ∀ k, (gl xs k).length ≤ 1000000) (hr2 : ∀ k, (gl ys k).length ≤ 1000000) :
    Calls Tryz.prog 50 #[v, u] w (EqPost w (decide (xs = ys))) := by
  obtain ⟨p, cap, rfl, hcap, _⟩ := rows_open h
  obtain ⟨q, cap2, rfl, hcap2, _⟩ := rows_open h2
  have HX := Lib.hid h
  have HY := Lib.hid h2
  have HR := Lib.hid hr
  have HR2 := Lib.hid hr2
  clear h h2 hr hr2
  by_cases hl : xs.length = ys.length
  · have hl1 : ((xs.length : Int) != ys.length) = false := by simp [hl]
    have HL := Lib.hid hl
    clear hl
    go_enter Tryz.func50, Tryz.ntmps50
    go_wp2_with fail
    go_loopw [5] (fun i wr => ∃ k : Nat, k ≤ xs.length ∧ i = .int .i64 k ∧ Hid (QD w wr) ∧ Hid (∀ j, j < k → gl xs j = gl ys j)) (fun i _ => xs.length - (intOf i).toNat)
    case atStart => exact ⟨0, Nat.zero_le _, rfl, QD.refl _, fun j hj => absurd hj (Nat.not_lt_zero _)⟩
    case round =>
      obtain ⟨k, hk, rfl, hQ, hd⟩ := hrel
      by_cases hlt : k < xs.length
      · have hlt2 : k < ys.length := by rw [← HL.out]; exact hlt
        obtain ⟨b, off, rq, rc, rfl, hc, hri⟩ := rows_get (HX.out.keep (hQ.out.kept S)) hlt
        obtain ⟨b2, off2, rq2, rc2, rfl, hc2, hri2⟩ := rows_get (HY.out.keep (hQ.out.kept T)) hlt2
        have i1 : (0 : Int) ≤ (k : Int) := by omega
        have i2 : (k : Int) < (xs.length : Int) := by omega
        have i3 : (k : Int) < (ys.length : Int) := by omega
        have hsame := fun m => same04_t S T (wr.drewN m) _ _ _ _ (IntsAt.keep hri (kept_drewN S wr m)) (IntsAt.keep hri2 (kept_drewN T wr m)) (HR.out k) (HR2.out k)
        clear hri hri2
        by_cases hxy : gl xs k = gl ys k
        · have hb : decide (gl xs k = gl ys k) = true := decide_eq_true hxy
          simp only [hb] at hsame
          have HS := Lib.hid hsame
          have HXY := Lib.hid hxy
          clear hxy hb hsame
          go_wp2_with fail
          go_quiet (exact eq_quiet (HS.out _))
          go_wp2_with fail
          go_roundw
          case rel => exact ⟨k + 1, by omega, by go_num, hQ.out.drewN nq, fun j hj => if e : j = k then by subst e; exact HXY.out else hd.out j (by omega)⟩
          case measure => simp [intOf]; omega
        · have hb : decide (gl xs k = gl ys k) = false := decide_eq_false hxy
          simp only [hb] at hsame
          have HS := Lib.hid hsame
          have HXY := Lib.hid hxy
          clear hxy hb hsame
          go_wp2_with fail
          go_quiet (exact eq_quiet (HS.out _))
          go_wp2_with fail
          go_ret
          refine ⟨ret_bool ?_, hQ.out.drewN nq⟩
          rw [eq_comm, decide_eq_false_iff_not]
          rintro rfl
          exact HXY.out rfl
      · obtain rfl : k = xs.length := by omega
        clear hlt hk
        have hex : xs = ys := rows_ext HL.out hd.out
        have HEX : Hid (decide (xs = ys) = true) := decide_eq_true hex
        clear hex
        go_wp2_with fail
        go_ret
        exact ⟨ret_bool (by rw [HEX.out]), hQ.out⟩
  · have hl1 : ((xs.length : Int) != ys.length) = true := by simp; omega
    have HL := Lib.hid hl
    clear hl
    go_enter Tryz.func50, Tryz.ntmps50
    go_wp2_with fail
    go_ret
    refine ⟨ret_bool ?_, 0, rfl⟩
    rw [eq_comm, decide_eq_false_iff_not]
    rintro rfl
    exact HL.out rfl
end Go.Proofs.YtcbmbhghmfehpaaGreat
