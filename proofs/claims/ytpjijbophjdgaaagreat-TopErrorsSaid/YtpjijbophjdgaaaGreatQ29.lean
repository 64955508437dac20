/- The walk of grow (sharederror.Tree's closure). -/
import Derived.Test.YtpjijbophjdgaaaGreatQ27
import Derived.Deep.CutRange
namespace Go.Proofs.YtpjijbophjdgaaaGreat
open Go.RowKit Go.Deep
theorem withinB_iff {a b : Nat} (ha : U64 a) (hb : U64 b) : withinB a b = true ↔ ∀ i, a.testBit i = true → b.testBit i = true := by
  unfold withinB
  rw [decide_eq_true_eq]
  have e : 18446744073709551615 - b = 2 ^ 64 - (b + 1) := by unfold U64 at hb; omega
  have hb2 : b < 2 ^ 64 := hb
  have ha2 : a < 2 ^ 64 := ha
  rw [e]
  constructor
  · intro h i hi
    have h1 := congrArg (fun z => z.testBit i) h
    simp only [Nat.testBit_and, hi, Bool.true_and, Nat.zero_testBit, Nat.testBit_two_pow_sub_succ hb2] at h1
    have h64 : i < 64 := by
      rcases Nat.lt_or_ge i 64 with h2 | h2
      · exact h2
      · rw [Nat.testBit_lt_two_pow (Nat.lt_of_lt_of_le ha2 (Nat.pow_le_pow_right (by decide) h2))] at hi; cases hi
    simpa [h64] using h1
  · intro h
    refine Nat.eq_of_testBit_eq fun i => ?_
    rw [Nat.testBit_and, Nat.zero_testBit, Nat.testBit_two_pow_sub_succ hb2]
    cases hi : a.testBit i
    · rfl
    · rw [h i hi]; simp
theorem within_le {a b : Nat} (ha : U64 a) (hb : U64 b) (h : withinB a b = true) : a ≤ b := by
  have h1 := (withinB_iff ha hb).1 h
  have h2 : a ||| b = b := Nat.eq_of_testBit_eq fun i => by
    rw [Nat.testBit_or]
    cases hi : a.testBit i
    · simp
    · rw [h1 i hi]; rfl
  rw [← h2]; exact Nat.left_le_or
theorem bit_form {L : Nat} (hL : U64 L) (s : Nat) : (bits BinOp.and IntKind.u64 ((L : Int) / 2 ^ s) 1 == 1) = L.testBit s := by
  have e : ((L : Int) / 2 ^ s) = ((L / 2 ^ s : Nat) : Int) := by rw [Int.natCast_ediv]; simp
  have h1 : L / 2 ^ s < 18446744073709551616 := Nat.lt_of_le_of_lt (Nat.div_le_self _ _) hL
  have h2 := u64_and_nat (L / 2 ^ s) 1 h1 (by decide)
  rw [e, show (1 : Int) = ((1 : Nat) : Int) from rfl, h2, Nat.and_one_is_mod, Nat.testBit_eq_decide_div_mod_eq, Bool.eq_iff_iff]
  simp only [beq_iff_eq, decide_eq_true_eq]
  omega
theorem kid_lt {inner : List Nat} {x y : Nat} (hx : U64 x) (hy : U64 y) (h : isKid inner x y = true) : y < x := by
  unfold isKid at h
  simp only [Bool.and_eq_true, decide_eq_true_eq] at h
  have := within_le hy hx h.1.2
  have := h.1.1
  omega
theorem leafK_ns {names : List ByteArray} {left : Nat} {own : Int} {t : Tre} (h : t.ns.length = t.ps.length) : ∀ s, (leafK names left own s t).ns.length = (leafK names left own s t).ps.length := fun s => by
  have := leafK_len names left own s t; omega
theorem kidF_ns {g : Nat → Int → Tre → Tre} (hg : ∀ x p t, t.ns.length = t.ps.length → (g x p t).ns.length = (g x p t).ps.length) (inner : List Nat) (x : Nat) (own : Int) {r : Nat × Tre} (h : r.2.ns.length = r.2.ps.length) : ∀ k, (kidF g inner x own k r).2.ns.length = (kidF g inner x own k r).2.ps.length
  | 0 => h
  | k + 1 => by
    show (if isKid inner x (gn inner k) then _ else _ : Nat × Tre).2.ns.length = (if isKid inner x (gn inner k) then _ else _ : Nat × Tre).2.ps.length
    split
    · exact hg _ _ _ (kidF_ns hg inner x own h k)
    · exact kidF_ns hg inner x own h k
theorem push_ns {t : Tre} (h : t.ns.length = t.ps.length) (p : Int) (s : ByteArray) : (t.push p s).ns.length = (t.push p s).ps.length := by
  have := push_len t p s; omega
theorem growF_ns (names : List ByteArray) (inner : List Nat) : ∀ (d x : Nat) (p : Int) (t : Tre), t.ns.length = t.ps.length → (growF names inner d x p t).ns.length = (growF names inner d x p t).ps.length
  | 0, _, _, _, h => h
  | d + 1, x, p, t, h => leafK_ns (kidF_ns (growF_ns names inner d) inner x _ (r := (x, t.push p ByteArray.empty)) (push_ns h p _) inner.length) names.length
theorem growF_kid (names : List ByteArray) (inner : List Nat) (d x : Nat) (p : Int) (t : Tre) {k : Nat} (hk : k ≤ inner.length) :
    (kidF (growF names inner d) inner x (t.ps.length : Int) k (x, t.push p ByteArray.empty)).2.ps.length ≤ (growF names inner (d + 1) x p t).ps.length := by
  have h1 := kidF_mono (growF_len names inner d) inner x (t.ps.length : Int) (x, t.push p ByteArray.empty) hk
  have h2 := (leafK_len names (kidF (growF names inner d) inner x (t.ps.length : Int) inner.length (x, t.push p ByteArray.empty)).1 (t.ps.length : Int) names.length (kidF (growF names inner d) inner x (t.ps.length : Int) inner.length (x, t.push p ByteArray.empty)).2).1
  exact Nat.le_trans h1 h2
structure Env (names : List ByteArray) (inner : List Nat) (tb B0 ib fb nb : Nat) (w : World) : Prop where
  ic : ∃ iv, w.cell? ⟨ib, 0, none⟩ = some iv ∧ SetsAt (fun b => b < B0 ∧ b ≠ tb) w iv inner
  fc : w.cell? ⟨fb, 0, none⟩ = some (.func (.func 77) #[] #[.pointer (some ⟨tb, 0, none⟩), .pointer (some ⟨ib, 0, none⟩), .pointer (some ⟨fb, 0, none⟩), .pointer (some ⟨nb, 0, none⟩)])
  nc : ∃ nv, w.cell? ⟨nb, 0, none⟩ = some nv ∧ StrsAt (fun b => b < B0 ∧ b ≠ tb) w nv names
  lo : (ib < B0 ∧ ib ≠ tb) ∧ (fb < B0 ∧ fb ≠ tb) ∧ (nb < B0 ∧ nb ≠ tb)
theorem GK.keeps {tb B0 : Nat} {w W : World} {P N P' N' : Value} {ps : List Int} {ns : List ByteArray} (h : GK tb w W P N P' N') (k : TL B0 w P N ps ns) : Kept (fun b => b < B0 ∧ b ≠ tb) w W := fun b hb hl =>
  h.block b hl hb.2 (fun e => by have := (ownBlock_lt k.pown e.symm).1; have := hb.1; omega) (fun e => by have := (ownBlock_lt k.nown e.symm).1; have := hb.1; omega)
theorem Env.keep {names : List ByteArray} {inner : List Nat} {tb B0 ib fb nb : Nat} {w W : World} (h : Env names inner tb B0 ib fb nb w) (k : Kept (fun b => b < B0 ∧ b ≠ tb) w W) : Env names inner tb B0 ib fb nb W := by
  obtain ⟨⟨iv, h1, h2⟩, h3, ⟨nv, h4, h5⟩, hl⟩ := h
  have hc : ∀ (b : Nat) (v : Value), b < B0 ∧ b ≠ tb → w.cell? ⟨b, 0, none⟩ = some v → W.cell? ⟨b, 0, none⟩ = some v := fun b v hb hv => by
    rw [World.cell?_of_block (a := ⟨b, 0, none⟩) (k b hb (World.block_lt_of_cell? w _ hv))]; exact hv
  exact ⟨⟨iv, hc _ _ hl.1 h1, h2.keep k⟩, hc _ _ hl.2.1 h3, ⟨nv, hc _ _ hl.2.2 h4, StrsAt.keep h5 k⟩, hl⟩
def GwPost (tb B0 : Nat) (w : World) (P N : Value) (t : Tre) (e : Ending) (w' : World) : Prop :=
  e = .returned (.tuple #[]) ∧ ∃ P' N', GS tb B0 w' P' N' t ∧ GK tb w w' P N P' N'
set_option maxRecDepth 100000 in
set_option maxHeartbeats 8000000 in
theorem grow_t (names : List ByteArray) (inner : List Nat) (tb B0 ib fb nb : Nat) (hin : ∀ j, U64 (gn inner j)) (hil : inner.length ≤ 1000000) (hnl : names.length ≤ 32) : ∀ (d x : Nat) (par : Int) (t : Tre) (w : World) (P N : Value),
    x < d → U64 x → t.ns.length = t.ps.length → (growF names inner d x par t).ps.length ≤ 1000000 → Env names inner tb B0 ib fb nb w → GS tb B0 w P N t →
    Calls Tryz.prog 77 #[.int .u64 x, .int .i64 par, .pointer (some ⟨tb, 0, none⟩), .pointer (some ⟨ib, 0, none⟩), .pointer (some ⟨fb, 0, none⟩), .pointer (some ⟨nb, 0, none⟩)] w (GwPost tb B0 w P N (growF names inner d x par t)) := by
  intro d
  induction d with
  | zero => intro x _ _ _ _ _ h; exact absurd h (Nat.not_lt_zero _)
  | succ d ih =>
    intro x par t w P N hxd hx hns hlen hE hG
    have IH := Lib.hid ih
    have HE := Lib.hid hE
    have HG := Lib.hid hG
    have HLEN := Lib.hid hlen
    have HNS := Lib.hid hns
    have hu := Up.alloc w (.cells #[.int .u64 x] 82)
    obtain ⟨hc0, hc1, _, _⟩ := (hG.up hu).cells
    have hbx := box1_0 w (.int .u64 x) 82
    have HG1 := Lib.hid (hG.up hu)
    have HU := Lib.hid hu
    have HE1 := Lib.hid (hE.keep (hu.kept _))
    have hBX1 := HG1.out.box
    obtain ⟨pp, pc, rfl, _⟩ := hG.tl.pown.form (n := t.ps.length) (by simp)
    obtain ⟨np, nc, rfl, _⟩ := hG.tl.nown.form (n := t.ps.length) (by simp [hns])
    have hlp : t.ps.length + 1 ≤ 1000000 := by
      have h1 := growF_kid names inner d x par t (Nat.zero_le inner.length)
      have h2 := (push_len t par ByteArray.empty).1
      exact Nat.le_trans (Nat.le_of_eq h2.symm) (Nat.le_trans h1 hlen)
    clear hE hG hlen hns ih hu
    go_enter Tryz.func77, Tryz.ntmps77
    go_wp2_with fail
    have HSZ1 : Hid ((w.alloc (.cells #[.int .u64 x] 82)).heap.size = w.heap.size + 1) := World.size_alloc _ _
    generalize w.alloc (.cells #[.int .u64 x] 82) = w1 at *
    go_cut [] from 17 to 27 (fun wx => ∃ P' N', GS tb B0 wx P' N' (t.push par ByteArray.empty) ∧ GK tb w1 wx (.slice pp t.ps.length pc) (.slice np t.ps.length nc) P' N')
    case first =>
      have hd := Up.drewN w1 1
      have HGS := Lib.hid HG1.out
      have HBX := Lib.hid HG1.out.box
      have HRd : Hid (RS tb B0 w1 w1.drew (.slice pp t.ps.length pc) (.slice np t.ps.length nc) (.slice pp t.ps.length pc) (.slice np t.ps.length nc) t.ps t.ns) := (RS.start HG1.out.tl HG1.out.lo).up hd
      have HPL : Hid (t.ps.length ≤ 1000000 ∧ t.ns.length ≤ 1000000) := ⟨by omega, by rw [HNS.out]; omega⟩
      refine region_T (by kernel_rfl) 9 (fun w' => w'.cell? ⟨tb, 0, none⟩ = some (.slice pp t.ps.length pc) ∧ w'.cell? ⟨tb, 1, none⟩ = some (.slice np t.ps.length nc)) (HRd.out.cells HBX.out) (fun hS => ?_)
      simp only [List.size_toArray, List.length_cons, List.length_nil, Nat.reduceAdd, Array.replicate_succ, Array.replicate_zero, List.push_toArray, List.nil_append, List.cons_append]
      generalize w1.drew = Wd at *
      refine anyT.take (i := 0) (v := ?gv0) rfl (by kernel_rfl) (fun _ _ _ h => h) (by rfl) (fun w hSw => ?gy0) hS ?gr0
      case gy0 =>
        (try dsimp only at hSw)
        go_simp
        try with_reducible rfl
      try simp only [Act.put, List.setIfInBounds_toArray, List.set_cons_zero, List.set_cons_succ]
      refine anyT.take (i := 1) (v := ?gv1) rfl (by kernel_rfl) (fun _ _ _ h => h) (by rfl) (fun w hSw => ?gy1) hS ?gr1
      case gy1 =>
        (try dsimp only at hSw)
        go_simp
        try with_reducible rfl
      try simp only [Act.put, List.setIfInBounds_toArray, List.set_cons_zero, List.set_cons_succ]
      refine anyT.take (i := 2) (v := ?gv2) rfl (by kernel_rfl) (fun _ _ _ h => h) (by rfl) (fun w hSw => ?gy2) hS ?gr2
      case gy2 =>
        (try dsimp only at hSw)
        go_simp
        try with_reducible rfl
      try simp only [Act.put, List.setIfInBounds_toArray, List.set_cons_zero, List.set_cons_succ]
      refine anyT.take (i := 5) (v := ?gv5) rfl (by kernel_rfl) (fun _ _ _ h => h) (by rfl) (fun w hSw => ?gy5) hS ?gr5
      case gy5 =>
        (try dsimp only at hSw)
        go_simp
        try with_reducible rfl
      try simp only [Act.put, List.setIfInBounds_toArray, List.set_cons_zero, List.set_cons_succ]
      refine anyT.take (i := 6) (v := ?gv6) rfl (by kernel_rfl) (fun _ _ _ h => h) (by rfl) (fun w hSw => ?gy6) hS ?gr6
      case gy6 =>
        (try dsimp only at hSw)
        go_simp
        try with_reducible rfl
      try simp only [Act.put, List.setIfInBounds_toArray, List.set_cons_zero, List.set_cons_succ]
      refine anyT.step2 (i := 3) (i2 := 7) rfl rfl (by kernel_rfl) (fun K' hK => ?_) (fun K' hK => ?_)
      · go_simp
        have HRa : Hid (RS tb B0 _ (Wd.alloc (.cells #[.int .i64 par] 3)) _ _ _ _ _ _) := HRd.out.up (Up.alloc _ _)
        refine hK.out _ _ (fun _ => HRa.out.cells HBX.out) (fun _ => ?_)
        try simp only [List.setIfInBounds_toArray, List.set_cons_zero, List.set_cons_succ]
        refine anyT.step2 (i := 4) (i2 := 7) rfl rfl (by kernel_rfl) (fun K' hK => ?_) (fun K' hK => ?_)
        · refine step_app1 (by rfl) _ _ _ (by rfl) B0 3 _ 8 Tryz.underlying26 Tryz.infoI (by rfl) (by decide) (by rfl) HRa.out.tl.pown (.int .i64 par) Wd.heap.size (by rfl) (cell_at_new Wd #[.int .i64 par] 3 0) (by rfl) (by rw [List.length_map]; exact HPL.out.1) (Nat.le_trans HRa.out.lo.2 HRa.out.gk.size) ?_
          intro g1 g1c We1 hog1 hgg1 hrg1 _
          have HRb : Hid (RS tb B0 _ We1 _ _ _ _ _ _) := HRa.out.appP hog1 hgg1 (hrg1.imp id (fun e => Nat.le_of_eq e.symm))
          refine hK.out _ _ (fun _ => HRb.out.cells HBX.out) (fun _ => ?_)
          try simp only [Act.put, List.setIfInBounds_toArray, List.set_cons_zero, List.set_cons_succ]
          refine anyT.free (i := 9) (v := ?gv9a) rfl (by kernel_rfl) (fun _ _ _ h => h) (by rfl) (fun w => ?gy9a) (fun _ => HRb.out.cells HBX.out) ?gr9a
          case gy9a =>
            go_simp
            try with_reducible rfl
          try simp only [Act.put, List.setIfInBounds_toArray, List.set_cons_zero, List.set_cons_succ]
          refine anyT.step (i := 7) rfl (by kernel_rfl) (fun K' hK => ?_)
          go_simp
          have HRc : Hid (RS tb B0 _ (We1.alloc (.cells #[.string ByteArray.empty] 9)) _ _ _ _ _ _) := HRb.out.up (Up.alloc _ _)
          refine hK.out _ _ (fun _ => HRc.out.cells HBX.out) (fun _ => ?_)
          try simp only [List.setIfInBounds_toArray, List.set_cons_zero, List.set_cons_succ]
          refine anyT.step (i := 8) rfl (by kernel_rfl) (fun K' hK => ?_)
          refine step_app1 (by rfl) _ _ _ (by rfl) B0 9 _ 16 Tryz.underlying43 Tryz.infoStr2 (by rfl) (by decide) (by rfl) HRc.out.tl.nown (.string ByteArray.empty) We1.heap.size (by rfl) (cell_at_new We1 #[.string ByteArray.empty] 9 0) (by rfl) (by rw [List.length_map]; exact HPL.out.2) (Nat.le_trans HRc.out.lo.2 HRc.out.gk.size) ?_
          intro g2 g2c We2 hog2 hgg2 hrg2 _
          have HRf : Hid (RS tb B0 _ We2 _ _ _ _ _ _) := HRc.out.appN hog2 hgg2 (hrg2.imp id (fun e => Nat.le_of_eq e.symm))
          refine hK.out _ _ (fun _ => HRf.out.cells HBX.out) (fun _ => ?_)
          try simp only [Act.put, List.setIfInBounds_toArray, List.set_cons_zero, List.set_cons_succ]
          obtain ⟨hbe, hbe1⟩ := HRf.out.cells HBX.out
          have hfe := HRf.out.frozen HBX.out 0
          have hfe1 := HRf.out.frozen HBX.out 1
          have HFIN := Lib.hid (HRf.out.store HGS.out)
          refine anyT.step (i := 10) rfl (by kernel_rfl) (fun K' hK => ?_)
          go_simp
          refine hK.out _ _ (not_more (by kernel_rfl)) (fun _ => ?_)
          try simp only [List.setIfInBounds_toArray, List.set_cons_zero, List.set_cons_succ]
          refine anyT.free (i := 11) (v := ?gv11a) rfl (by kernel_rfl) (fun _ _ _ h => h) (by rfl) (fun w => ?gy11a) (not_more (by kernel_rfl)) ?gr11a
          case gy11a =>
            go_simp
            try with_reducible rfl
          try simp only [Act.put, List.setIfInBounds_toArray, List.set_cons_zero, List.set_cons_succ]
          refine anyT.step (i := 12) rfl (by kernel_rfl) (fun K' hK => ?_)
          go_simp
          refine hK.out _ _ (not_more (by kernel_rfl)) (fun _ => ?_)
          refine anyT.done (by kernel_rfl) ?_
          go_wp2_with fail
          go_meet
          case rel =>
            have hfin := HFIN.out
            simp only [List.length_map] at hfin
            exact ⟨_, _, hfin.1, hfin.2⟩
        · go_simp
          have HRb : Hid (RS tb B0 _ ((Wd.alloc (.cells #[.int .i64 par] 3)).alloc (.cells #[.string ByteArray.empty] 9)) _ _ _ _ _ _) := HRa.out.up (Up.alloc _ _)
          refine hK.out _ _ (fun _ => HRb.out.cells HBX.out) (fun _ => ?_)
          try simp only [List.setIfInBounds_toArray, List.set_cons_zero, List.set_cons_succ]
          have hcN := cell_at_new (Wd.alloc (.cells #[.int .i64 par] 3)) #[.string ByteArray.empty] 9 0
          have hcP := (Up.alloc (Wd.alloc (.cells #[.int .i64 par] 3)) (.cells #[.string ByteArray.empty] 9)).cell (cell_at_new Wd #[.int .i64 par] 3 0)
          rw [World.size_alloc] at hcN
          refine anyT.step (i := 4) rfl (by kernel_rfl) (fun K' hK => ?_)
          refine step_app1 (by rfl) _ _ _ (by rfl) B0 3 _ 8 Tryz.underlying26 Tryz.infoI (by rfl) (by decide) (by rfl) HRb.out.tl.pown (.int .i64 par) Wd.heap.size (by rfl) hcP (by rfl) (by rw [List.length_map]; exact HPL.out.1) (Nat.le_trans HRb.out.lo.2 HRb.out.gk.size) ?_
          intro g1 g1c We1 hog1 hgg1 hrg1 _
          have HRc : Hid (RS tb B0 _ We1 _ _ _ _ _ _) := HRb.out.appP hog1 hgg1 (hrg1.imp id (fun e => Nat.le_of_eq e.symm))
          have hcN1 : We1.cell? ⟨Wd.heap.size + 1, 0, none⟩ = some (.string ByteArray.empty) := by
            rw [hgg1.cell_far ⟨Wd.heap.size + 1, 0, none⟩ (by simp) (fun e => absurd (ownBlock_lt HRd.out.tl.pown e.symm).2 (by show ¬ (Wd.heap.size + 1 < Wd.heap.size); omega))]; exact hcN
          refine hK.out _ _ (fun _ => HRc.out.cells HBX.out) (fun _ => ?_)
          try simp only [Act.put, List.setIfInBounds_toArray, List.set_cons_zero, List.set_cons_succ]
          refine anyT.free (i := 9) (v := ?gv9b) rfl (by kernel_rfl) (fun _ _ _ h => h) (by rfl) (fun w => ?gy9b) (fun _ => HRc.out.cells HBX.out) ?gr9b
          case gy9b =>
            go_simp
            try with_reducible rfl
          try simp only [Act.put, List.setIfInBounds_toArray, List.set_cons_zero, List.set_cons_succ]
          refine anyT.step (i := 8) rfl (by kernel_rfl) (fun K' hK => ?_)
          refine step_app1 (by rfl) _ _ _ (by rfl) B0 9 _ 16 Tryz.underlying43 Tryz.infoStr2 (by rfl) (by decide) (by rfl) HRc.out.tl.nown (.string ByteArray.empty) (Wd.heap.size + 1) (by rfl) hcN1 (by rfl) (by rw [List.length_map]; exact HPL.out.2) (Nat.le_trans HRc.out.lo.2 HRc.out.gk.size) ?_
          intro g2 g2c We2 hog2 hgg2 hrg2 _
          have HRf : Hid (RS tb B0 _ We2 _ _ _ _ _ _) := HRc.out.appN hog2 hgg2 (hrg2.imp id (fun e => Nat.le_of_eq e.symm))
          refine hK.out _ _ (fun _ => HRf.out.cells HBX.out) (fun _ => ?_)
          try simp only [Act.put, List.setIfInBounds_toArray, List.set_cons_zero, List.set_cons_succ]
          obtain ⟨hbe, hbe1⟩ := HRf.out.cells HBX.out
          have hfe := HRf.out.frozen HBX.out 0
          have hfe1 := HRf.out.frozen HBX.out 1
          have HFIN := Lib.hid (HRf.out.store HGS.out)
          refine anyT.step (i := 10) rfl (by kernel_rfl) (fun K' hK => ?_)
          go_simp
          refine hK.out _ _ (not_more (by kernel_rfl)) (fun _ => ?_)
          try simp only [List.setIfInBounds_toArray, List.set_cons_zero, List.set_cons_succ]
          refine anyT.free (i := 11) (v := ?gv11b) rfl (by kernel_rfl) (fun _ _ _ h => h) (by rfl) (fun w => ?gy11b) (not_more (by kernel_rfl)) ?gr11b
          case gy11b =>
            go_simp
            try with_reducible rfl
          try simp only [Act.put, List.setIfInBounds_toArray, List.set_cons_zero, List.set_cons_succ]
          refine anyT.step (i := 12) rfl (by kernel_rfl) (fun K' hK => ?_)
          go_simp
          refine hK.out _ _ (not_more (by kernel_rfl)) (fun _ => ?_)
          refine anyT.done (by kernel_rfl) ?_
          go_wp2_with fail
          go_meet
          case rel =>
            have hfin := HFIN.out
            simp only [List.length_map] at hfin
            exact ⟨_, _, hfin.1, hfin.2⟩
      · go_simp
        have HRa : Hid (RS tb B0 _ (Wd.alloc (.cells #[.string ByteArray.empty] 9)) _ _ _ _ _ _) := HRd.out.up (Up.alloc _ _)
        refine hK.out _ _ (fun _ => HRa.out.cells HBX.out) (fun _ => ?_)
        try simp only [List.setIfInBounds_toArray, List.set_cons_zero, List.set_cons_succ]
        refine anyT.step (i := 3) rfl (by kernel_rfl) (fun K' hK => ?_)
        go_simp
        have HRb : Hid (RS tb B0 _ ((Wd.alloc (.cells #[.string ByteArray.empty] 9)).alloc (.cells #[.int .i64 par] 3)) _ _ _ _ _ _) := HRa.out.up (Up.alloc _ _)
        refine hK.out _ _ (fun _ => HRb.out.cells HBX.out) (fun _ => ?_)
        try simp only [List.setIfInBounds_toArray, List.set_cons_zero, List.set_cons_succ]
        have hcP := cell_at_new (Wd.alloc (.cells #[.string ByteArray.empty] 9)) #[.int .i64 par] 3 0
        have hcN := (Up.alloc (Wd.alloc (.cells #[.string ByteArray.empty] 9)) (.cells #[.int .i64 par] 3)).cell (cell_at_new Wd #[.string ByteArray.empty] 9 0)
        rw [World.size_alloc] at hcP
        refine anyT.step (i := 4) rfl (by kernel_rfl) (fun K' hK => ?_)
        refine step_app1 (by rfl) _ _ _ (by rfl) B0 3 _ 8 Tryz.underlying26 Tryz.infoI (by rfl) (by decide) (by rfl) HRb.out.tl.pown (.int .i64 par) (Wd.heap.size + 1) (by rfl) hcP (by rfl) (by rw [List.length_map]; exact HPL.out.1) (Nat.le_trans HRb.out.lo.2 HRb.out.gk.size) ?_
        intro g1 g1c We1 hog1 hgg1 hrg1 _
        have HRc : Hid (RS tb B0 _ We1 _ _ _ _ _ _) := HRb.out.appP hog1 hgg1 (hrg1.imp id (fun e => Nat.le_of_eq e.symm))
        have hcN1 : We1.cell? ⟨Wd.heap.size, 0, none⟩ = some (.string ByteArray.empty) := by
          rw [hgg1.cell_far ⟨Wd.heap.size, 0, none⟩ (by simp; omega) (fun e => absurd (ownBlock_lt HRd.out.tl.pown e.symm).2 (by show ¬ (Wd.heap.size < Wd.heap.size); omega))]; exact hcN
        refine hK.out _ _ (fun _ => HRc.out.cells HBX.out) (fun _ => ?_)
        try simp only [Act.put, List.setIfInBounds_toArray, List.set_cons_zero, List.set_cons_succ]
        refine anyT.free (i := 9) (v := ?gv9c) rfl (by kernel_rfl) (fun _ _ _ h => h) (by rfl) (fun w => ?gy9c) (fun _ => HRc.out.cells HBX.out) ?gr9c
        case gy9c =>
          go_simp
          try with_reducible rfl
        try simp only [Act.put, List.setIfInBounds_toArray, List.set_cons_zero, List.set_cons_succ]
        refine anyT.step (i := 8) rfl (by kernel_rfl) (fun K' hK => ?_)
        refine step_app1 (by rfl) _ _ _ (by rfl) B0 9 _ 16 Tryz.underlying43 Tryz.infoStr2 (by rfl) (by decide) (by rfl) HRc.out.tl.nown (.string ByteArray.empty) Wd.heap.size (by rfl) hcN1 (by rfl) (by rw [List.length_map]; exact HPL.out.2) (Nat.le_trans HRc.out.lo.2 HRc.out.gk.size) ?_
        intro g2 g2c We2 hog2 hgg2 hrg2 _
        have HRf : Hid (RS tb B0 _ We2 _ _ _ _ _ _) := HRc.out.appN hog2 hgg2 (hrg2.imp id (fun e => Nat.le_of_eq e.symm))
        refine hK.out _ _ (fun _ => HRf.out.cells HBX.out) (fun _ => ?_)
        try simp only [Act.put, List.setIfInBounds_toArray, List.set_cons_zero, List.set_cons_succ]
        obtain ⟨hbe, hbe1⟩ := HRf.out.cells HBX.out
        have hfe := HRf.out.frozen HBX.out 0
        have hfe1 := HRf.out.frozen HBX.out 1
        have HFIN := Lib.hid (HRf.out.store HGS.out)
        refine anyT.step (i := 10) rfl (by kernel_rfl) (fun K' hK => ?_)
        go_simp
        refine hK.out _ _ (not_more (by kernel_rfl)) (fun _ => ?_)
        try simp only [List.setIfInBounds_toArray, List.set_cons_zero, List.set_cons_succ]
        refine anyT.free (i := 11) (v := ?gv11c) rfl (by kernel_rfl) (fun _ _ _ h => h) (by rfl) (fun w => ?gy11c) (not_more (by kernel_rfl)) ?gr11c
        case gy11c =>
          go_simp
          try with_reducible rfl
        try simp only [Act.put, List.setIfInBounds_toArray, List.set_cons_zero, List.set_cons_succ]
        refine anyT.step (i := 12) rfl (by kernel_rfl) (fun K' hK => ?_)
        go_simp
        refine hK.out _ _ (not_more (by kernel_rfl)) (fun _ => ?_)
        refine anyT.done (by kernel_rfl) ?_
        go_wp2_with fail
        go_meet
        case rel =>
          have hfin := HFIN.out
          simp only [List.length_map] at hfin
          exact ⟨_, _, hfin.1, hfin.2⟩
    case rest =>
      obtain ⟨P2, N2, hG2, hK2⟩ := hcut
      have HK2 := Lib.hid hK2
      have HG2 := Lib.hid hG2
      have HT1 : Hid (TL B0 w1 (.slice pp t.ps.length pc) (.slice np t.ps.length nc) t.ps t.ns) := HG1.out.tl
      have hE2 := HE1.out.keep (hK2.keeps HG1.out.tl)
      -- what the loop sees in a world behind
      have HSEE : Hid (∀ (wr : World) (P N : Value), GK tb w1 wr (.slice pp t.ps.length pc) (.slice np t.ps.length nc) P N → wr.cell? ⟨w.heap.size, 0, none⟩ = some (.int .u64 x) ∧ Env names inner tb B0 ib fb nb wr) := fun wr P N hk => by
        have hlo := HG.out.lo
        refine ⟨?_, HE1.out.keep (hk.keeps HG1.out.tl)⟩
        rw [World.cell?_of_block (a := ⟨w.heap.size, 0, none⟩) (hk.block w.heap.size (by rw [HSZ1.out]; omega) (by omega) (fun e => by have := (ownBlock_lt HG.out.tl.pown e.symm).2; omega) (fun e => by have := (ownBlock_lt HG.out.tl.nown e.symm).2; omega))]
        exact hbx
      obtain ⟨iv, hic, his⟩ := hE2.ic
      obtain ⟨ip, icc, rfl, hicap, _⟩ := SlAt.open his
      obtain ⟨nv, hnc, hins⟩ := hE2.nc
      obtain ⟨np2, ncc, rfl, hncap, _⟩ := SlAt.open hins
      have HIS : Hid (SetsAt (fun b => b < B0 ∧ b ≠ tb) wc (.slice ip inner.length icc) inner) := his
      have HNV : Hid (StrsAt (fun b => b < B0 ∧ b ≠ tb) wc (.slice np2 names.length ncc) names) := hins
      have hxc := (HSEE.out wc _ _ hK2).1
      have HSEE2 : Hid (∀ (wr : World) (P N : Value), GK tb wc wr P2 N2 P N → wr.cell? ⟨w.heap.size, 0, none⟩ = some (.int .u64 x) ∧ wr.cell? ⟨ib, 0, none⟩ = some (.slice ip inner.length icc) ∧ SetsAt (fun b => b < B0 ∧ b ≠ tb) wr (.slice ip inner.length icc) inner
          ∧ wr.cell? ⟨fb, 0, none⟩ = some (.func (.func 77) #[] #[.pointer (some ⟨tb, 0, none⟩), .pointer (some ⟨ib, 0, none⟩), .pointer (some ⟨fb, 0, none⟩), .pointer (some ⟨nb, 0, none⟩)])
          ∧ wr.cell? ⟨nb, 0, none⟩ = some (.slice np2 names.length ncc) ∧ StrsAt (fun b => b < B0 ∧ b ≠ tb) wr (.slice np2 names.length ncc) names ∧ Env names inner tb B0 ib fb nb wr) := fun wr P N hk => by
        have hkk := hk.keeps HG2.out.tl
        have hE3 := hE2.keep hkk
        have hc : ∀ (b : Nat) (v : Value), b < B0 ∧ b ≠ tb → wc.cell? ⟨b, 0, none⟩ = some v → wr.cell? ⟨b, 0, none⟩ = some v := fun b v hb hv => by
          rw [World.cell?_of_block (a := ⟨b, 0, none⟩) (hkk b hb (World.block_lt_of_cell? wc _ hv))]; exact hv
        exact ⟨(HSEE.out wr P N (HK2.out.trans hk)).1, hc _ _ hE2.lo.1 hic, his.keep hkk, hE3.fc, hc _ _ hE2.lo.2.2 hnc, StrsAt.keep hins hkk, hE3⟩
      clear his hins hE2 hK2 hG2
      have HLK : Hid (∀ k, k ≤ inner.length → (kidF (growF names inner d) inner x (t.ps.length : Int) k (x, t.push par ByteArray.empty)).2.ps.length ≤ 1000000) := fun k hk => Nat.le_trans (growF_kid names inner d x par t hk) HLEN.out
      have HNK : Hid (∀ k, (kidF (growF names inner d) inner x (t.ps.length : Int) k (x, t.push par ByteArray.empty)).2.ns.length = (kidF (growF names inner d) inner x (t.ps.length : Int) k (x, t.push par ByteArray.empty)).2.ps.length) := fun k => kidF_ns (growF_ns names inner d) inner x _ (r := (x, t.push par ByteArray.empty)) (push_ns HNS.out par _) k
      go_wp2_with fail
      go_loopw [9, 11, 31] (fun l yb i wr => ∃ k : Nat, k ≤ inner.length ∧ i = .int .i64 k ∧ l = .int .u64 (kidF (growF names inner d) inner x (t.ps.length : Int) k (x, t.push par ByteArray.empty)).1 ∧ Hid (∃ P N, GS tb B0 wr P N (kidF (growF names inner d) inner x (t.ps.length : Int) k (x, t.push par ByteArray.empty)).2 ∧ GK tb wc wr P2 N2 P N)) (fun _ _ i _ => inner.length - (intOf i).toNat)
      case atStart => exact ⟨0, Nat.zero_le _, rfl, rfl, P2, N2, HG2.out, GK.refl _ _ _ _⟩
      case round =>
        obtain ⟨k, hk, rfl, rfl, hI⟩ := hrel
        obtain ⟨wo, rfl⟩ : ∃ wo : World, wo = wr := ⟨_, rfl⟩
        obtain ⟨P, N, hGr, hKr⟩ := hI.out
        obtain ⟨hxr, hir, hisr, hfr, hnr, hnsr, hEr⟩ := HSEE2.out wo P N hKr
        by_cases hlt : k < inner.length
        · obtain ⟨yb0, yo, rfl, hyc⟩ := sets_get hisr hlt
          have HSTEP : Hid (kidF (growF names inner d) inner x (t.ps.length : Int) (k + 1) (x, t.push par ByteArray.empty) = if isKid inner x (gn inner k) then (minus (kidF (growF names inner d) inner x (t.ps.length : Int) k (x, t.push par ByteArray.empty)).1 (gn inner k), growF names inner d (gn inner k) (t.ps.length : Int) (kidF (growF names inner d) inner x (t.ps.length : Int) k (x, t.push par ByteArray.empty)).2) else kidF (growF names inner d) inner x (t.ps.length : Int) k (x, t.push par ByteArray.empty)) := rfl
          have hyu := hin k
          have hal := Up.alloc wo (.cells #[.int .u64 (gn inner k)] 82)
          have hyb := box1_0 wo (.int .u64 (gn inner k)) 82
          have HG3 := Lib.hid (hGr.up hal)
          have HK3 := Lib.hid (hKr.up hal)
          obtain ⟨hxr3, hir3, hisr3, hfr3, hnr3, hnsr3, hEr3⟩ := HSEE2.out _ P N (hKr.up hal)
          have HWI := Lib.hid (within_t (gn inner k) x hyu hx (wo.alloc (.cells #[.int .u64 (gn inner k)] 82)))
          have HMID := Lib.hid (sets_has_t 80 #[.pointer (some ⟨w.heap.size, 0, none⟩), .pointer (some ⟨wo.heap.size, 0, none⟩)] (enters_of Tryz.func80 (by kernel_rfl) rfl) (fun b => b < B0 ∧ b ≠ tb) (wo.alloc (.cells #[.int .u64 (gn inner k)] 82)) _ inner.length (fun j => .int .u64 (gn inner j)) (fun j => midB x (gn inner k) (gn inner j)) hisr3 hil
            (fun j _ => mid_t _ x (gn inner k) (gn inner j) _ _ hx hyu (hin j) hxr3 hyb))
          have HKID : Hid (isKid inner x (gn inner k) = (decide (gn inner k ≠ x) && withinB (gn inner k) x && !((List.range inner.length).any fun j => midB x (gn inner k) (gn inner j)))) := rfl
          have HUY := Lib.hid hyu
          have HE3 := Lib.hid hEr3
          have hLU := kidF_u64 (growF names inner d) inner x (t.ps.length : Int) (r := (x, t.push par ByteArray.empty)) hx k
          have HLU := Lib.hid hLU
          have HYLT := Lib.hid (fun h => kid_lt (inner := inner) (x := x) (y := gn inner k) hx hyu h)
          have HYK : Hid (∀ w4 P4 N4, GK tb (wo.alloc (.cells #[.int .u64 (gn inner k)] 82)) w4 P N P4 N4 → w4.cell? ⟨wo.heap.size, 0, none⟩ = some (.int .u64 (gn inner k))) := fun w4 P4 N4 hk => by
            have hlo := hGr.lo
            rw [World.cell?_of_block (a := ⟨wo.heap.size, 0, none⟩) (hk.block wo.heap.size (by rw [World.size_alloc]; omega) (by omega) (fun e => by have := (ownBlock_lt hGr.tl.pown e.symm).2; omega) (fun e => by have := (ownBlock_lt hGr.tl.nown e.symm).2; omega))]
            exact hyb
          clear hal hyu hisr3 hnsr3 hEr3 hisr hnsr hEr hGr hKr hI hLU
          generalize gn inner k = y at *
          generalize ((List.range inner.length).any fun j => midB x y (gn inner j)) = bm at *
          generalize withinB y x = bw at *
          by_cases e1 : y = x
          · have d1 : ((y : Int) == (x : Int)) = true := by simp [e1]
            have HN : Hid (∃ P N, GS tb B0 (wo.alloc (.cells #[.int .u64 y] 82)) P N (kidF (growF names inner d) inner x (t.ps.length : Int) (k + 1) (x, t.push par ByteArray.empty)).2 ∧ GK tb wc (wo.alloc (.cells #[.int .u64 y] 82)) P2 N2 P N) := by
              unfold Hid; rw [HSTEP.out, if_neg (by rw [HKID.out, decide_eq_false (not_not_intro e1)]; simp)]; exact ⟨P, N, HG3.out, HK3.out⟩
            have HL : Hid ((kidF (growF names inner d) inner x (t.ps.length : Int) (k + 1) (x, t.push par ByteArray.empty)).1 = (kidF (growF names inner d) inner x (t.ps.length : Int) k (x, t.push par ByteArray.empty)).1) := by
              unfold Hid; rw [HSTEP.out, if_neg (by rw [HKID.out, decide_eq_false (not_not_intro e1)]; simp)]
            clear e1
            go_wp2_with (first | (go_at_call 78; refine HWI.out.mono ?_; rintro e w' ⟨rfl, rfl⟩) | (go_at_call 79; refine HMID.out.mono ?_; rintro e w' ⟨rfl, rfl⟩))
            go_roundw
            case rel => exact ⟨k + 1, by omega, by go_num, by rw [HL.out], HN.out⟩
            case measure => simp [intOf]; omega
          have d1 : ((y : Int) == (x : Int)) = false := by simp; omega
          rw [decide_eq_true e1] at HKID
          cases bw
          · have HN : Hid (∃ P N, GS tb B0 (wo.alloc (.cells #[.int .u64 y] 82)) P N (kidF (growF names inner d) inner x (t.ps.length : Int) (k + 1) (x, t.push par ByteArray.empty)).2 ∧ GK tb wc (wo.alloc (.cells #[.int .u64 y] 82)) P2 N2 P N) := by
              unfold Hid; rw [HSTEP.out, if_neg (by rw [HKID.out]; simp)]; exact ⟨P, N, HG3.out, HK3.out⟩
            have HL : Hid ((kidF (growF names inner d) inner x (t.ps.length : Int) (k + 1) (x, t.push par ByteArray.empty)).1 = (kidF (growF names inner d) inner x (t.ps.length : Int) k (x, t.push par ByteArray.empty)).1) := by
              unfold Hid; rw [HSTEP.out, if_neg (by rw [HKID.out]; simp)]
            go_wp2_with (first | (go_at_call 78; refine HWI.out.mono ?_; rintro e w' ⟨rfl, rfl⟩) | (go_at_call 79; refine HMID.out.mono ?_; rintro e w' ⟨rfl, rfl⟩))
            go_roundw
            case rel => exact ⟨k + 1, by omega, by go_num, by rw [HL.out], HN.out⟩
            case measure => simp [intOf]; omega
          cases bm
          rotate_left
          · have HN : Hid (∃ P N, GS tb B0 (wo.alloc (.cells #[.int .u64 y] 82)) P N (kidF (growF names inner d) inner x (t.ps.length : Int) (k + 1) (x, t.push par ByteArray.empty)).2 ∧ GK tb wc (wo.alloc (.cells #[.int .u64 y] 82)) P2 N2 P N) := by
              unfold Hid; rw [HSTEP.out, if_neg (by rw [HKID.out]; simp)]; exact ⟨P, N, HG3.out, HK3.out⟩
            have HL : Hid ((kidF (growF names inner d) inner x (t.ps.length : Int) (k + 1) (x, t.push par ByteArray.empty)).1 = (kidF (growF names inner d) inner x (t.ps.length : Int) k (x, t.push par ByteArray.empty)).1) := by
              unfold Hid; rw [HSTEP.out, if_neg (by rw [HKID.out]; simp)]
            go_wp2_with (first | (go_at_call 78; refine HWI.out.mono ?_; rintro e w' ⟨rfl, rfl⟩) | (go_at_call 79; refine HMID.out.mono ?_; rintro e w' ⟨rfl, rfl⟩))
            go_roundw
            case rel => exact ⟨k + 1, by omega, by go_num, by rw [HL.out], HN.out⟩
            case measure => simp [intOf]; omega
          · have hkid : isKid inner x y = true := by rw [HKID.out]; rfl
            have hlen := HLK.out (k + 1) (by omega)
            rw [HSTEP.out, if_pos hkid] at hlen
            have HCALL := Lib.hid (IH.out y (t.ps.length : Int) _ _ P N (by have := HYLT.out hkid; omega) HUY.out (HNK.out k) hlen HE3.out HG3.out)
            have HSTEP1 : Hid (kidF (growF names inner d) inner x (t.ps.length : Int) (k + 1) (x, t.push par ByteArray.empty) = (minus (kidF (growF names inner d) inner x (t.ps.length : Int) k (x, t.push par ByteArray.empty)).1 y, growF names inner d y (t.ps.length : Int) (kidF (growF names inner d) inner x (t.ps.length : Int) k (x, t.push par ByteArray.empty)).2)) := by
              unfold Hid; rw [HSTEP.out, if_pos hkid]
            have hmn := u64_andNot_nat (kidF (growF names inner d) inner x (t.ps.length : Int) k (x, t.push par ByteArray.empty)).1 y HLU.out HUY.out
            clear hlen hkid HSTEP HKID
            go_wp2_with (first | (go_at_call 78; refine HWI.out.mono ?_; rintro e w' ⟨rfl, rfl⟩) | (go_at_call 79; refine HMID.out.mono ?_; rintro e w' ⟨rfl, rfl⟩))
            refine HCALL.out.mono ?_
            rintro e w4 ⟨rfl, P4, N4, hG4, hK4⟩
            have hyc4 := HYK.out w4 P4 N4 hK4
            have HG4 := Lib.hid hG4
            have HK4 := Lib.hid (HK3.out.trans hK4)
            clear hG4 hK4 HCALL
            go_wp2_with fail
            go_roundw
            case rel => exact ⟨k + 1, by omega, by go_num, by rw [HSTEP1.out]; rfl, by unfold Hid; rw [HSTEP1.out]; exact ⟨P4, N4, HG4.out, HK4.out⟩⟩
            case measure => simp [intOf]; omega
        · obtain rfl : k = inner.length := by omega
          have HFIN : Hid (growF names inner (d + 1) x par t = leafK names (kidF (growF names inner d) inner x (t.ps.length : Int) inner.length (x, t.push par ByteArray.empty)).1 (t.ps.length : Int) names.length (kidF (growF names inner d) inner x (t.ps.length : Int) inner.length (x, t.push par ByteArray.empty)).2) := rfl
          have HLU := Lib.hid (kidF_u64 (growF names inner d) inner x (t.ps.length : Int) (r := (x, t.push par ByteArray.empty)) hx inner.length)
          have HNT := Lib.hid (HNK.out inner.length)
          have HI0 := Lib.hid hI.out
          have HLE2 := Lib.hid HLEN.out
          rw [HFIN.out] at HLE2
          clear HLK HNK hisr hnsr hEr hGr hKr hI hlt hk
          generalize (kidF (growF names inner d) inner x (t.ps.length : Int) inner.length (x, t.push par ByteArray.empty)).1 = L at *
          generalize (kidF (growF names inner d) inner x (t.ps.length : Int) inner.length (x, t.push par ByteArray.empty)).2 = T0 at *
          go_wp2_with fail
          go_loopw [12, 13, 59] (fun _ _ i wr => ∃ s : Nat, s ≤ names.length ∧ i = .int .i64 s ∧ Hid (∃ P N, GS tb B0 wr P N (leafK names L (t.ps.length : Int) s T0) ∧ GK tb wc wr P2 N2 P N)) (fun _ _ i _ => names.length - (intOf i).toNat)
          case atStart => exact ⟨0, Nat.zero_le _, rfl, HI0.out⟩
          case round =>
            obtain ⟨s, hs, rfl, hJ⟩ := hrel
            obtain ⟨wi, rfl⟩ : ∃ wi : World, wi = wr := ⟨_, rfl⟩
            obtain ⟨P, N, hGi, hKi⟩ := hJ.out
            obtain ⟨_, _, _, _, _, hnsi, _⟩ := HSEE2.out wi P N hKi
            by_cases hst : s < names.length
            · obtain ⟨nb0, no, rfl, hnc2⟩ := strs_get hnsi hst
              have HSUC : Hid (leafK names L (t.ps.length : Int) (s + 1) T0 = if L.testBit s then (leafK names L (t.ps.length : Int) s T0).push (t.ps.length : Int) (gs names s) else leafK names L (t.ps.length : Int) s T0) := rfl
              have HPL : Hid ((leafK names L (t.ps.length : Int) s T0).ps.length ≤ 1000000 ∧ (leafK names L (t.ps.length : Int) s T0).ns.length ≤ 1000000) := by
                have h1 := leafK_mono names L (t.ps.length : Int) T0 (s := s) (n := names.length) hs
                have h2 := leafK_len names L (t.ps.length : Int) s T0
                have h3 := HLE2.out
                have h4 := HNT.out
                exact ⟨by omega, by omega⟩
              have HGI := Lib.hid hGi
              have HKI := Lib.hid hKi
              clear hnsi hGi hKi hJ
              have hbit := bit_form HLU.out s
              cases hb : L.testBit s
              · rw [hb] at hbit HSUC
                have HN : Hid (∃ P N, GS tb B0 wi P N (leafK names L (t.ps.length : Int) (s + 1) T0) ∧ GK tb wc wi P2 N2 P N) := by
                  unfold Hid; rw [HSUC.out]; exact ⟨P, N, HGI.out, HKI.out⟩
                clear hb
                go_wp2_with fail
                go_roundw
                case rel => exact ⟨s + 1, by omega, by go_num, HN⟩
                case measure => simp [intOf]; omega
              · rw [hb] at hbit HSUC
                have HSUC1 : Hid (leafK names L (t.ps.length : Int) (s + 1) T0 = (leafK names L (t.ps.length : Int) s T0).push (t.ps.length : Int) (gs names s)) := HSUC.out
                clear hb HSUC
                generalize gs names s = nm at *
                generalize leafK names L (t.ps.length : Int) s T0 = ts at *
                go_wp2_with fail
                have hd := Up.drewN wi 1
                have HGS := Lib.hid HGI.out
                have HBX := Lib.hid HGI.out.box
                have HRd : Hid (RS tb B0 wi wi.drew P N P N ts.ps ts.ns) := (RS.start HGI.out.tl HGI.out.lo).up hd
                refine region_T (by kernel_rfl) 10 (fun w' => w'.cell? ⟨tb, 0, none⟩ = some P ∧ w'.cell? ⟨tb, 1, none⟩ = some N) (HRd.out.cells HBX.out) (fun hS => ?_)
                simp only [List.size_toArray, List.length_cons, List.length_nil, Nat.reduceAdd, Array.replicate_succ, Array.replicate_zero, List.push_toArray, List.nil_append, List.cons_append]
                generalize wi.drew = Wd at *
                refine anyT.take (i := 0) (v := ?gv0t) rfl (by kernel_rfl) (fun _ _ _ h => h) (by rfl) (fun w hSw => ?gy0t) hS ?gr0t
                case gy0t =>
                  (try dsimp only at hSw)
                  go_simp
                  try with_reducible rfl
                try simp only [Act.put, List.setIfInBounds_toArray, List.set_cons_zero, List.set_cons_succ]
                refine anyT.take (i := 1) (v := ?gv1t) rfl (by kernel_rfl) (fun _ _ _ h => h) (by rfl) (fun w hSw => ?gy1t) hS ?gr1t
                case gy1t =>
                  (try dsimp only at hSw)
                  go_simp
                  try with_reducible rfl
                try simp only [Act.put, List.setIfInBounds_toArray, List.set_cons_zero, List.set_cons_succ]
                refine anyT.take (i := 2) (v := ?gv2t) rfl (by kernel_rfl) (fun _ _ _ h => h) (by rfl) (fun w hSw => ?gy2t) hS ?gr2t
                case gy2t =>
                  (try dsimp only at hSw)
                  go_simp
                  try with_reducible rfl
                try simp only [Act.put, List.setIfInBounds_toArray, List.set_cons_zero, List.set_cons_succ]
                refine anyT.take (i := 5) (v := ?gv5t) rfl (by kernel_rfl) (fun _ _ _ h => h) (by rfl) (fun w hSw => ?gy5t) hS ?gr5t
                case gy5t =>
                  (try dsimp only at hSw)
                  go_simp
                  try with_reducible rfl
                try simp only [Act.put, List.setIfInBounds_toArray, List.set_cons_zero, List.set_cons_succ]
                refine anyT.take (i := 6) (v := ?gv6t) rfl (by kernel_rfl) (fun _ _ _ h => h) (by rfl) (fun w hSw => ?gy6t) hS ?gr6t
                case gy6t =>
                  (try dsimp only at hSw)
                  go_simp
                  try with_reducible rfl
                try simp only [Act.put, List.setIfInBounds_toArray, List.set_cons_zero, List.set_cons_succ]
                refine anyT.take (i := 7) (v := ?gv7t) rfl (by kernel_rfl) (fun _ _ _ h => h) (by rfl) (fun w hSw => ?gy7t) hS ?gr7t
                case gy7t =>
                  (try dsimp only at hSw)
                  go_simp
                  try with_reducible rfl
                try simp only [Act.put, List.setIfInBounds_toArray, List.set_cons_zero, List.set_cons_succ]
                refine anyT.step2 (i := 3) (i2 := 8) rfl rfl (by kernel_rfl) (fun K' hK => ?_) (fun K' hK => ?_)
                · go_simp
                  have HRa : Hid (RS tb B0 _ (Wd.alloc (.cells #[.int .i64 t.ps.length] 3)) _ _ _ _ _ _) := HRd.out.up (Up.alloc _ _)
                  refine hK.out _ _ (fun _ => HRa.out.cells HBX.out) (fun _ => ?_)
                  try simp only [List.setIfInBounds_toArray, List.set_cons_zero, List.set_cons_succ]
                  refine anyT.step2 (i := 4) (i2 := 8) rfl rfl (by kernel_rfl) (fun K' hK => ?_) (fun K' hK => ?_)
                  · refine step_app1 (by rfl) _ _ _ (by rfl) B0 3 _ 8 Tryz.underlying26 Tryz.infoI (by rfl) (by decide) (by rfl) HRa.out.tl.pown (.int .i64 t.ps.length) Wd.heap.size (by rfl) (cell_at_new Wd #[.int .i64 t.ps.length] 3 0) (by rfl) (by rw [List.length_map]; exact HPL.out.1) (Nat.le_trans HRa.out.lo.2 HRa.out.gk.size) ?_
                    intro g1 g1c We1 hog1 hgg1 hrg1 _
                    have HRb : Hid (RS tb B0 _ We1 _ _ _ _ _ _) := HRa.out.appP hog1 hgg1 (hrg1.imp id (fun e => Nat.le_of_eq e.symm))
                    refine hK.out _ _ (fun _ => HRb.out.cells HBX.out) (fun _ => ?_)
                    try simp only [Act.put, List.setIfInBounds_toArray, List.set_cons_zero, List.set_cons_succ]
                    refine anyT.free (i := 10) (v := ?gv10at) rfl (by kernel_rfl) (fun _ _ _ h => h) (by rfl) (fun w => ?gy10at) (fun _ => HRb.out.cells HBX.out) ?gr10at
                    case gy10at =>
                      go_simp
                      try with_reducible rfl
                    try simp only [Act.put, List.setIfInBounds_toArray, List.set_cons_zero, List.set_cons_succ]
                    refine anyT.step (i := 8) rfl (by kernel_rfl) (fun K' hK => ?_)
                    go_simp
                    have HRc : Hid (RS tb B0 _ (We1.alloc (.cells #[.string nm] 9)) _ _ _ _ _ _) := HRb.out.up (Up.alloc _ _)
                    refine hK.out _ _ (fun _ => HRc.out.cells HBX.out) (fun _ => ?_)
                    try simp only [List.setIfInBounds_toArray, List.set_cons_zero, List.set_cons_succ]
                    refine anyT.step (i := 9) rfl (by kernel_rfl) (fun K' hK => ?_)
                    refine step_app1 (by rfl) _ _ _ (by rfl) B0 9 _ 16 Tryz.underlying43 Tryz.infoStr2 (by rfl) (by decide) (by rfl) HRc.out.tl.nown (.string nm) We1.heap.size (by rfl) (cell_at_new We1 #[.string nm] 9 0) (by rfl) (by rw [List.length_map]; exact HPL.out.2) (Nat.le_trans HRc.out.lo.2 HRc.out.gk.size) ?_
                    intro g2 g2c We2 hog2 hgg2 hrg2 _
                    have HRf : Hid (RS tb B0 _ We2 _ _ _ _ _ _) := HRc.out.appN hog2 hgg2 (hrg2.imp id (fun e => Nat.le_of_eq e.symm))
                    refine hK.out _ _ (fun _ => HRf.out.cells HBX.out) (fun _ => ?_)
                    try simp only [Act.put, List.setIfInBounds_toArray, List.set_cons_zero, List.set_cons_succ]
                    obtain ⟨hbe, hbe1⟩ := HRf.out.cells HBX.out
                    have hfe := HRf.out.frozen HBX.out 0
                    have hfe1 := HRf.out.frozen HBX.out 1
                    have HFIN := Lib.hid (HRf.out.store HGS.out)
                    refine anyT.step (i := 11) rfl (by kernel_rfl) (fun K' hK => ?_)
                    go_simp
                    refine hK.out _ _ (not_more (by kernel_rfl)) (fun _ => ?_)
                    try simp only [List.setIfInBounds_toArray, List.set_cons_zero, List.set_cons_succ]
                    refine anyT.free (i := 12) (v := ?gv12at) rfl (by kernel_rfl) (fun _ _ _ h => h) (by rfl) (fun w => ?gy12at) (not_more (by kernel_rfl)) ?gr12at
                    case gy12at =>
                      go_simp
                      try with_reducible rfl
                    try simp only [Act.put, List.setIfInBounds_toArray, List.set_cons_zero, List.set_cons_succ]
                    refine anyT.step (i := 13) rfl (by kernel_rfl) (fun K' hK => ?_)
                    go_simp
                    refine hK.out _ _ (not_more (by kernel_rfl)) (fun _ => ?_)
                    refine anyT.done (by kernel_rfl) ?_
                    go_wp2_with fail
                    have hfin := HFIN.out
                    simp only [List.length_map] at hfin
                    have HN := Lib.hid hfin
                    clear hfin HFIN
                    go_roundw
                    case rel => exact ⟨s + 1, by omega, by go_num, by unfold Hid; rw [HSUC1.out]; exact ⟨_, _, HN.out.1, HKI.out.trans HN.out.2⟩⟩
                    case measure => simp [intOf]; omega
                  · go_simp
                    have HRb : Hid (RS tb B0 _ ((Wd.alloc (.cells #[.int .i64 t.ps.length] 3)).alloc (.cells #[.string nm] 9)) _ _ _ _ _ _) := HRa.out.up (Up.alloc _ _)
                    refine hK.out _ _ (fun _ => HRb.out.cells HBX.out) (fun _ => ?_)
                    try simp only [List.setIfInBounds_toArray, List.set_cons_zero, List.set_cons_succ]
                    have hcN := cell_at_new (Wd.alloc (.cells #[.int .i64 t.ps.length] 3)) #[.string nm] 9 0
                    have hcP := (Up.alloc (Wd.alloc (.cells #[.int .i64 t.ps.length] 3)) (.cells #[.string nm] 9)).cell (cell_at_new Wd #[.int .i64 t.ps.length] 3 0)
                    rw [World.size_alloc] at hcN
                    refine anyT.step (i := 4) rfl (by kernel_rfl) (fun K' hK => ?_)
                    refine step_app1 (by rfl) _ _ _ (by rfl) B0 3 _ 8 Tryz.underlying26 Tryz.infoI (by rfl) (by decide) (by rfl) HRb.out.tl.pown (.int .i64 t.ps.length) Wd.heap.size (by rfl) hcP (by rfl) (by rw [List.length_map]; exact HPL.out.1) (Nat.le_trans HRb.out.lo.2 HRb.out.gk.size) ?_
                    intro g1 g1c We1 hog1 hgg1 hrg1 _
                    have HRc : Hid (RS tb B0 _ We1 _ _ _ _ _ _) := HRb.out.appP hog1 hgg1 (hrg1.imp id (fun e => Nat.le_of_eq e.symm))
                    have hcN1 : We1.cell? ⟨Wd.heap.size + 1, 0, none⟩ = some (.string nm) := by
                      rw [hgg1.cell_far ⟨Wd.heap.size + 1, 0, none⟩ (by simp) (fun e => absurd (ownBlock_lt HRd.out.tl.pown e.symm).2 (by show ¬ (Wd.heap.size + 1 < Wd.heap.size); omega))]; exact hcN
                    refine hK.out _ _ (fun _ => HRc.out.cells HBX.out) (fun _ => ?_)
                    try simp only [Act.put, List.setIfInBounds_toArray, List.set_cons_zero, List.set_cons_succ]
                    refine anyT.free (i := 10) (v := ?gv10bt) rfl (by kernel_rfl) (fun _ _ _ h => h) (by rfl) (fun w => ?gy10bt) (fun _ => HRc.out.cells HBX.out) ?gr10bt
                    case gy10bt =>
                      go_simp
                      try with_reducible rfl
                    try simp only [Act.put, List.setIfInBounds_toArray, List.set_cons_zero, List.set_cons_succ]
                    refine anyT.step (i := 9) rfl (by kernel_rfl) (fun K' hK => ?_)
                    refine step_app1 (by rfl) _ _ _ (by rfl) B0 9 _ 16 Tryz.underlying43 Tryz.infoStr2 (by rfl) (by decide) (by rfl) HRc.out.tl.nown (.string nm) (Wd.heap.size + 1) (by rfl) hcN1 (by rfl) (by rw [List.length_map]; exact HPL.out.2) (Nat.le_trans HRc.out.lo.2 HRc.out.gk.size) ?_
                    intro g2 g2c We2 hog2 hgg2 hrg2 _
                    have HRf : Hid (RS tb B0 _ We2 _ _ _ _ _ _) := HRc.out.appN hog2 hgg2 (hrg2.imp id (fun e => Nat.le_of_eq e.symm))
                    refine hK.out _ _ (fun _ => HRf.out.cells HBX.out) (fun _ => ?_)
                    try simp only [Act.put, List.setIfInBounds_toArray, List.set_cons_zero, List.set_cons_succ]
                    obtain ⟨hbe, hbe1⟩ := HRf.out.cells HBX.out
                    have hfe := HRf.out.frozen HBX.out 0
                    have hfe1 := HRf.out.frozen HBX.out 1
                    have HFIN := Lib.hid (HRf.out.store HGS.out)
                    refine anyT.step (i := 11) rfl (by kernel_rfl) (fun K' hK => ?_)
                    go_simp
                    refine hK.out _ _ (not_more (by kernel_rfl)) (fun _ => ?_)
                    try simp only [List.setIfInBounds_toArray, List.set_cons_zero, List.set_cons_succ]
                    refine anyT.free (i := 12) (v := ?gv12bt) rfl (by kernel_rfl) (fun _ _ _ h => h) (by rfl) (fun w => ?gy12bt) (not_more (by kernel_rfl)) ?gr12bt
                    case gy12bt =>
                      go_simp
                      try with_reducible rfl
                    try simp only [Act.put, List.setIfInBounds_toArray, List.set_cons_zero, List.set_cons_succ]
                    refine anyT.step (i := 13) rfl (by kernel_rfl) (fun K' hK => ?_)
                    go_simp
                    refine hK.out _ _ (not_more (by kernel_rfl)) (fun _ => ?_)
                    refine anyT.done (by kernel_rfl) ?_
                    go_wp2_with fail
                    have hfin := HFIN.out
                    simp only [List.length_map] at hfin
                    have HN := Lib.hid hfin
                    clear hfin HFIN
                    go_roundw
                    case rel => exact ⟨s + 1, by omega, by go_num, by unfold Hid; rw [HSUC1.out]; exact ⟨_, _, HN.out.1, HKI.out.trans HN.out.2⟩⟩
                    case measure => simp [intOf]; omega
                · go_simp
                  have HRa : Hid (RS tb B0 _ (Wd.alloc (.cells #[.string nm] 9)) _ _ _ _ _ _) := HRd.out.up (Up.alloc _ _)
                  refine hK.out _ _ (fun _ => HRa.out.cells HBX.out) (fun _ => ?_)
                  try simp only [List.setIfInBounds_toArray, List.set_cons_zero, List.set_cons_succ]
                  refine anyT.step (i := 3) rfl (by kernel_rfl) (fun K' hK => ?_)
                  go_simp
                  have HRb : Hid (RS tb B0 _ ((Wd.alloc (.cells #[.string nm] 9)).alloc (.cells #[.int .i64 t.ps.length] 3)) _ _ _ _ _ _) := HRa.out.up (Up.alloc _ _)
                  refine hK.out _ _ (fun _ => HRb.out.cells HBX.out) (fun _ => ?_)
                  try simp only [List.setIfInBounds_toArray, List.set_cons_zero, List.set_cons_succ]
                  have hcP := cell_at_new (Wd.alloc (.cells #[.string nm] 9)) #[.int .i64 t.ps.length] 3 0
                  have hcN := (Up.alloc (Wd.alloc (.cells #[.string nm] 9)) (.cells #[.int .i64 t.ps.length] 3)).cell (cell_at_new Wd #[.string nm] 9 0)
                  rw [World.size_alloc] at hcP
                  refine anyT.step (i := 4) rfl (by kernel_rfl) (fun K' hK => ?_)
                  refine step_app1 (by rfl) _ _ _ (by rfl) B0 3 _ 8 Tryz.underlying26 Tryz.infoI (by rfl) (by decide) (by rfl) HRb.out.tl.pown (.int .i64 t.ps.length) (Wd.heap.size + 1) (by rfl) hcP (by rfl) (by rw [List.length_map]; exact HPL.out.1) (Nat.le_trans HRb.out.lo.2 HRb.out.gk.size) ?_
                  intro g1 g1c We1 hog1 hgg1 hrg1 _
                  have HRc : Hid (RS tb B0 _ We1 _ _ _ _ _ _) := HRb.out.appP hog1 hgg1 (hrg1.imp id (fun e => Nat.le_of_eq e.symm))
                  have hcN1 : We1.cell? ⟨Wd.heap.size, 0, none⟩ = some (.string nm) := by
                    rw [hgg1.cell_far ⟨Wd.heap.size, 0, none⟩ (by simp; omega) (fun e => absurd (ownBlock_lt HRd.out.tl.pown e.symm).2 (by show ¬ (Wd.heap.size < Wd.heap.size); omega))]; exact hcN
                  refine hK.out _ _ (fun _ => HRc.out.cells HBX.out) (fun _ => ?_)
                  try simp only [Act.put, List.setIfInBounds_toArray, List.set_cons_zero, List.set_cons_succ]
                  refine anyT.free (i := 10) (v := ?gv10ct) rfl (by kernel_rfl) (fun _ _ _ h => h) (by rfl) (fun w => ?gy10ct) (fun _ => HRc.out.cells HBX.out) ?gr10ct
                  case gy10ct =>
                    go_simp
                    try with_reducible rfl
                  try simp only [Act.put, List.setIfInBounds_toArray, List.set_cons_zero, List.set_cons_succ]
                  refine anyT.step (i := 9) rfl (by kernel_rfl) (fun K' hK => ?_)
                  refine step_app1 (by rfl) _ _ _ (by rfl) B0 9 _ 16 Tryz.underlying43 Tryz.infoStr2 (by rfl) (by decide) (by rfl) HRc.out.tl.nown (.string nm) Wd.heap.size (by rfl) hcN1 (by rfl) (by rw [List.length_map]; exact HPL.out.2) (Nat.le_trans HRc.out.lo.2 HRc.out.gk.size) ?_
                  intro g2 g2c We2 hog2 hgg2 hrg2 _
                  have HRf : Hid (RS tb B0 _ We2 _ _ _ _ _ _) := HRc.out.appN hog2 hgg2 (hrg2.imp id (fun e => Nat.le_of_eq e.symm))
                  refine hK.out _ _ (fun _ => HRf.out.cells HBX.out) (fun _ => ?_)
                  try simp only [Act.put, List.setIfInBounds_toArray, List.set_cons_zero, List.set_cons_succ]
                  obtain ⟨hbe, hbe1⟩ := HRf.out.cells HBX.out
                  have hfe := HRf.out.frozen HBX.out 0
                  have hfe1 := HRf.out.frozen HBX.out 1
                  have HFIN := Lib.hid (HRf.out.store HGS.out)
                  refine anyT.step (i := 11) rfl (by kernel_rfl) (fun K' hK => ?_)
                  go_simp
                  refine hK.out _ _ (not_more (by kernel_rfl)) (fun _ => ?_)
                  try simp only [List.setIfInBounds_toArray, List.set_cons_zero, List.set_cons_succ]
                  refine anyT.free (i := 12) (v := ?gv12ct) rfl (by kernel_rfl) (fun _ _ _ h => h) (by rfl) (fun w => ?gy12ct) (not_more (by kernel_rfl)) ?gr12ct
                  case gy12ct =>
                    go_simp
                    try with_reducible rfl
                  try simp only [Act.put, List.setIfInBounds_toArray, List.set_cons_zero, List.set_cons_succ]
                  refine anyT.step (i := 13) rfl (by kernel_rfl) (fun K' hK => ?_)
                  go_simp
                  refine hK.out _ _ (not_more (by kernel_rfl)) (fun _ => ?_)
                  refine anyT.done (by kernel_rfl) ?_
                  go_wp2_with fail
                  have hfin := HFIN.out
                  simp only [List.length_map] at hfin
                  have HN := Lib.hid hfin
                  clear hfin HFIN
                  go_roundw
                  case rel => exact ⟨s + 1, by omega, by go_num, by unfold Hid; rw [HSUC1.out]; exact ⟨_, _, HN.out.1, HKI.out.trans HN.out.2⟩⟩
                  case measure => simp [intOf]; omega
            · obtain rfl : s = names.length := by omega
              clear hst hs hnsi
              go_wp2_with fail
              refine bodyPost_end (results_none rfl _ _ _) rfl ⟨rfl, P, N, by rw [HFIN.out]; exact hGi, (GK.of_up HU.out).trans (HK2.out.trans hKi)⟩
end Go.Proofs.YtpjijbophjdgaaaGreat
