/- Lists of lists of bytes in memory; slices.ContainsFunc at them. A list of lists of bytes that came in, opened. Sets and splits: what intset and split compute. Plain. -/
import Derived.Test.YtcbmbhghmfehpaaGreatQ7
import Derived.Test.YtcbmbhghmfehpaaGreatQ1
namespace Go.Proofs.YtcbmbhghmfehpaaGreat
open Go.RowKit Go.Deep
def BRows (S : Nat → Prop) (w : World) (v : Value) (xs : List (List Int)) : Prop := ∃ f, SlAt S w v xs.length f ∧ ∀ k, k < xs.length → SlAt S w (f k) (gl xs k).length (fun j => .int .u8 (gi (gl xs k) j))
theorem BRows.keep {S : Nat → Prop} {w w' : World} {v : Value} {xs : List (List Int)} (h : BRows S w v xs) (k : Kept S w w') : BRows S w' v xs := by
  obtain ⟨f, h, hr⟩ := h
  exact ⟨f, h.keep k, fun i hi => (hr i hi).keep k⟩
theorem brows_get {S : Nat → Prop} {w : World} {p : Option Addr} {n cap : Nat} {xs : List (List Int)} (h : BRows S w (.slice p n cap) xs) {k : Nat} (hk : k < xs.length) :
    ∃ b off q c, p = some ⟨b, off, none⟩ ∧ w.cell? ⟨b, off + k, none⟩ = some (.slice q (gl xs k).length c) ∧ SlAt S w (.slice q (gl xs k).length c) (gl xs k).length (fun j => .int .u8 (gi (gl xs k) j)) := by
  obtain ⟨f, hsl, hr⟩ := h
  obtain ⟨q, c, e, _, H⟩ := SlAt.open hsl
  injection e with e1
  subst e1
  obtain ⟨b, off, rfl, hc⟩ := H k hk
  have h1 := hr k hk
  obtain ⟨q2, c2, e2, _, _⟩ := SlAt.open h1
  rw [e2] at hc h1
  exact ⟨b, off, q2, c2, rfl, hc, h1⟩
theorem sl_get {S : Nat → Prop} {w : World} {p : Option Addr} {n cap : Nat} {f : Nat → Value} (h : SlAt S w (.slice p n cap) n f) {k : Nat} (hk : k < n) : ∃ b off, p = some ⟨b, off, none⟩ ∧ w.cell? ⟨b, off + k, none⟩ = some (f k) := by
  obtain ⟨q, c, e, _, H⟩ := SlAt.open h
  injection e with e1
  subst e1
  exact H k hk
set_option maxHeartbeats 400000 in
theorem brows_ix_d (g : Nat) (lb : Array Value) (eg : ∀ args w, (callFunc g args).run Tryz.prog w = .ok (.enter g args) w) (S : Nat → Prop) (w : World) (v : Value) (n : Nat) (f : Nat → Value) (p : Nat → Bool)
    (h : SlAt S w v n f) (hn : n ≤ 1000000) (hp : ∀ k, k < n → FnD g lb #[f k] (.bool (p k)) w) :
    Calls Tryz.prog 95 #[v, .func (.func g) #[] lb] w fun e w' => e = .returned (.int .i64 (firstIx p n)) ∧ ∃ q, w' = w.drewN q := by
  obtain ⟨q, cap, rfl, hcap, H⟩ := h.open
  have HP := Lib.hid hp
  clear h hp
  go_enter Tryz.func95, Tryz.ntmps95
  go_wp2_with fail
  go_loopw [5, 8] (fun _ i wr => ∃ k : Nat, k ≤ n ∧ i = .int .i64 k ∧ Hid (∀ j, j < k → p j = false) ∧ Hid (∃ m, wr = w.drewN m)) (fun _ i _ => n - (intOf i).toNat)
  case atStart => exact ⟨0, Nat.zero_le _, rfl, fun j hj => absurd hj (Nat.not_lt_zero _), 0, rfl⟩
  case round =>
    obtain ⟨k, hk, rfl, hd, hm⟩ := hrel
    obtain ⟨m, rfl⟩ := hm.out
    clear hm
    by_cases hlt : k < n
    · obtain ⟨b, off, rfl, hc⟩ := H k hlt
      have hc := (Up.drewN w m).cell hc
      clear H
      have hpk := HP.out k hlt
      unfold FnD at hpk
      have HPK := Lib.hid (hpk m)
      clear hpk HP
      generalize hv : p k = pk at *
      have HV := Lib.hid hv
      clear hv
      cases pk
      · go_wp2_with fail
        refine HPK.out.mono ?_
        rintro e w' ⟨rfl, m2, rfl⟩
        go_wp2_with fail
        go_roundw
        case rel => exact ⟨k + 1, by omega, by go_num, fun j hj => if e : j = k then by subst e; exact HV.out else hd.out j (by omega), m2, rfl⟩
        case measure => simp [intOf]; omega
      · go_wp2_with fail
        refine HPK.out.mono ?_
        rintro e w' ⟨rfl, m2, rfl⟩
        go_wp2_with fail
        go_ret
        exact ⟨ret_int (firstIx_at hlt hd.out HV.out).symm, m2, rfl⟩
    · clear H
      go_wp2_with fail
      go_ret
      exact ⟨ret_int (firstIx_none fun j hj => hd.out j (by omega)).symm, m, rfl⟩
set_option maxHeartbeats 400000 in
theorem brows_has_d (g : Nat) (lb : Array Value) (eg : ∀ args w, (callFunc g args).run Tryz.prog w = .ok (.enter g args) w) (S : Nat → Prop) (w : World) (v : Value) (n : Nat) (f : Nat → Value) (p : Nat → Bool)
    (h : SlAt S w v n f) (hn : n ≤ 1000000) (hp : ∀ k, k < n → FnD g lb #[f k] (.bool (p k)) w) :
    Calls Tryz.prog 34 #[v, .func (.func g) #[] lb] w fun e w' => e = .returned (.bool ((List.range n).any p)) ∧ ∃ q, w' = w.drewN q := by
  have hx := firstIx_any p n
  have HX := Lib.hid hx
  have HI := Lib.hid (brows_ix_d g lb eg S w v n f p h hn hp)
  obtain ⟨q, cap, rfl, -, -⟩ := SlAt.open h
  clear hx hp h eg
  go_enter Tryz.func34, Tryz.ntmps34
  go_wp2_with fail
  refine HI.out.mono ?_
  rintro e w' ⟨rfl, m, rfl⟩
  go_wp2_with fail
  go_ret
  exact ⟨ret_bool (by rw [← HX.out]), m, rfl⟩
end Go.Proofs.YtcbmbhghmfehpaaGreat
namespace Go.Proofs.YtcbmbhghmfehpaaGreat
open Go.ChangeShapes Go.WideShapes Go.ChangeAt Go.RowKit Go.Deep
section
variable {H : Type} {enc : TypeId × Value → H} {W : World}
theorem open_brows1 {fuel : Nat} {v : Value} {x : DataW H × List MemPlace} (h : DataW.trod enc Tryz.prog W 0 (fun _ => true) true fuel 54 [v] = some x) : ∃ xs : List (List Int), BRows Any W v xs ∧ xs.length ≤ 9223372036854775807 ∧ (∀ k, (gl xs k).length ≤ 9223372036854775807) ∧ ∀ k j, 0 ≤ gi (gl xs k) j ∧ gi (gl xs k) j ≤ 255 := by
  rcases open_int_rows Tryz.underlying54 Tryz.underlying55 Tryz.underlying5 (by kernel_rfl) (by kernel_rfl) h with ⟨hcs, _⟩ | ⟨a, l, c, A, L, C, Z, hcs, _, hl, hm, _, hr⟩
  · obtain rfl : v = .slice none 0 0 := by simpa using hcs
    exact ⟨[], ⟨fun _ => undef, ⟨none, 0, rfl, Nat.le_refl _, .inl rfl⟩, fun k hk => absurd hk (Nat.not_lt_zero _)⟩, by simp, fun k => by simp [gl], fun k j => by simp [gl, gi]⟩
  · obtain rfl : v = .slice (some a) l c := by simpa using hcs
    have hlen : ((List.range l).map fun r => (Z r).take (L r)).length = l := by simp
    have hgl : ∀ k, k < l → gl ((List.range l).map fun r => (Z r).take (L r)) k = (Z k).take (L k) := fun k hk => by simp [gl, hk]
    have hLk : ∀ k, k < l → ((Z k).take (L k)).length = L k := fun k hk => by obtain ⟨_, h1, _, h3, _⟩ := hr k (by omega); simp; omega
    refine ⟨(List.range l).map fun r => (Z r).take (L r), ⟨fun k => .slice (A k) (L k) (C k), ⟨some a, c, by rw [hlen], by rw [hlen]; exact hl, ?_⟩, fun k hk => ?_⟩, by rw [hlen]; exact len_max (Nat.le_trans hl hm), fun k => ?_, fun k j => ?_⟩
    · by_cases h0 : l = 0
      · exact .inl (by rw [hlen]; exact h0)
      · obtain ⟨b, off, spot⟩ := a
        have hspot : spot = none := by simpa [Addr.add] using World.cell?_spot (hr 0 (by omega)).1
        subst hspot
        refine .inr ⟨b, off, rfl, trivial, fun k hk => ?_⟩
        rw [hlen] at hk
        rw [← add_plain]; exact (hr k (by omega)).1
    · rw [hlen] at hk
      obtain ⟨_, h1, h2, h3, _, h5, h6⟩ := hr k (by omega)
      rw [hgl k hk]
      refine ⟨A k, C k, by rw [hLk k hk], by rw [hLk k hk]; exact h1, ?_⟩
      by_cases h0 : L k = 0
      · exact .inl (by rw [hLk k hk]; exact h0)
      · cases hA : A k with
        | none => have := h5 hA; omega
        | some a' =>
          obtain ⟨_, h7⟩ := h6 a' hA
          obtain ⟨b, off, rfl, hc⟩ := ints_at (zs := Z k) (k := .u8) (fun i hi => h7 i (by omega)) (by omega)
          refine .inr ⟨b, off, rfl, trivial, fun j hj => ?_⟩
          rw [hLk k hk] at hj
          rw [hc j (by omega)]
          simp [gi, hj]
    · by_cases hk : k < l
      · rw [hgl k hk, hLk k hk]
        obtain ⟨_, h1, h2, _⟩ := hr k (by omega)
        exact len_max (Nat.le_trans h1 h2)
      · have : gl ((List.range l).map fun r => (Z r).take (L r)) k = [] := by simp [gl, hk]
        rw [this]; simp
    · by_cases hk : k < l
      · rw [hgl k hk]
        by_cases hj : j < ((Z k).take (L k)).length
        · have hm : gi ((Z k).take (L k)) j ∈ Z k := by
            have : gi ((Z k).take (L k)) j = ((Z k).take (L k))[j] := by simp only [gi, List.getD_eq_getElem?_getD, List.getElem?_eq_getElem hj, Option.getD_some]
            rw [this]; exact List.mem_of_mem_take (List.getElem_mem hj)
          obtain ⟨_, _, _, _, hwf, _⟩ := hr k (by omega)
          exact bounds_u8 (hwf _ hm)
        · have : gi ((Z k).take (L k)) j = 0 := by unfold gi; rw [List.getD_eq_getElem?_getD, List.getElem?_eq_none (by omega)]; rfl
          rw [this]; omega
      · have : gl ((List.range l).map fun r => (Z r).take (L r)) k = [] := by simp [gl, hk]
        rw [this]; simp [gi]
set_option maxRecDepth 100000 in
theorem open_browsV {v : Value} {d : DataW H} {p : List MemPlace} {base : Nat} (hv : Value.okWide Tryz.prog W .any base 54 v) (h : DataW.Trod enc Tryz.prog W 0 (fun _ => true) true 54 v d p) : ∃ xs : List (List Int), BRows Any W v xs ∧ xs.length ≤ 9223372036854775807 ∧ (∀ k, (gl xs k).length ≤ 9223372036854775807) ∧ ∀ k j, 0 ≤ gi (gl xs k) j ∧ gi (gl xs k) j ≤ 255 := by
  obtain ⟨a, l, c, rfl⟩ := okWide_slice Tryz.underlying54 hv
  obtain ⟨n, hn⟩ := trod_one rfl h
  exact open_brows1 hn
end
end Go.Proofs.YtcbmbhghmfehpaaGreat
namespace Go.Proofs.YtcbmbhghmfehpaaGreat
def setBad (l : List Int) (i : Nat) : Int := if gi l i < 0 ∨ 63 < gi l i then 2 else if 0 < i ∧ gi l i ≤ gi l (i - 1) then 10 else 0
def setErr (l : List Int) : Int := firstNZ (setBad l) l.length
structure SetOk (l : List Int) : Prop where
  asc : l.Pairwise (· < ·)
  bd : ∀ x ∈ l, 0 ≤ x ∧ x ≤ 63
theorem pair_of_next {l : List Int} (h : ∀ i, i + 1 < l.length → gi l i < gi l (i + 1)) : l.Pairwise (· < ·) := by
  have key : ∀ d i, i + d + 1 < l.length → gi l i < gi l (i + d + 1) := by
    intro d
    induction d with
    | zero => intro i hi; exact h i hi
    | succ d ih =>
      intro i hi
      have h1 := ih i (by omega)
      have h2 := h (i + d + 1) (by omega)
      rw [show i + (d + 1) + 1 = i + d + 1 + 1 by omega]
      omega
  refine List.pairwise_iff_getElem.2 fun i j hi hj hij => ?_
  have h1 := key (j - i - 1) i (by omega)
  rw [show i + (j - i - 1) + 1 = j by omega] at h1
  simpa [gi, hi, hj] using h1
theorem pair_lt {l : List Int} (h : l.Pairwise (· < ·)) {i j : Nat} (hij : i < j) (hj : j < l.length) : gi l i < gi l j := by
  have := List.pairwise_iff_getElem.1 h i j (by omega) hj hij
  simpa [gi, hj, show i < l.length by omega] using this
theorem gi_in {l : List Int} {k : Nat} (h : k < l.length) : gi l k ∈ l := by simp [gi, h]
theorem in_gi {l : List Int} {x : Int} (h : x ∈ l) : ∃ k, k < l.length ∧ gi l k = x := by
  obtain ⟨k, hk, e⟩ := List.mem_iff_getElem.1 h
  exact ⟨k, hk, by simp [gi, hk, e]⟩
theorem setErr_zero {l : List Int} : setErr l = 0 ↔ SetOk l := by
  constructor
  · intro h
    have hb := firstNZ_eq_zero h
    refine ⟨pair_of_next fun i hi => ?_, fun x hx => ?_⟩
    · have := hb (i + 1) hi
      unfold setBad at this
      split at this
      · cases this
      · split at this
        · cases this
        · rename_i h2
          rw [Nat.add_sub_cancel] at h2
          omega
    · obtain ⟨k, hk, e⟩ := in_gi hx
      have := hb k hk
      unfold setBad at this
      split at this
      · cases this
      · omega
  · intro h
    refine firstNZ_zero fun j hj => ?_
    have hb := h.bd _ (gi_in hj)
    unfold setBad
    rw [if_neg (by omega), if_neg]
    rintro ⟨h1, h2⟩
    have := pair_lt h.asc (i := j - 1) (j := j) (by omega) hj
    omega
def splErr (n : Int) (s : List Int) : Int :=
  if n < 1 ∨ 32 < n then 2 else if setErr s ≠ 0 then setErr s else if 0 < s.length ∧ (gi s 0 = 0 ∨ n ≤ gi s (s.length - 1)) then 2 else if (s.length : Int) < 2 ∨ n - 2 < s.length then 8 else 0
structure SplOk (n : Int) (s : List Int) : Prop where
  n1 : 1 ≤ n ∧ n ≤ 32
  set : SetOk s
  bd : ∀ x ∈ s, 1 ≤ x ∧ x < n
  len : 2 ≤ s.length ∧ (s.length : Int) ≤ n - 2
theorem set_last {s : List Int} (h : SetOk s) {x : Int} (hx : x ∈ s) : gi s 0 ≤ x ∧ x ≤ gi s (s.length - 1) := by
  obtain ⟨k, hk, rfl⟩ := in_gi hx
  constructor
  · by_cases e : k = 0
    · subst e; exact Int.le_refl _
    · exact Int.le_of_lt (pair_lt h.asc (by omega) hk)
  · by_cases e : k = s.length - 1
    · subst e; exact Int.le_refl _
    · exact Int.le_of_lt (pair_lt h.asc (by omega) (by omega))
theorem splErr_zero {n : Int} {s : List Int} : splErr n s = 0 ↔ SplOk n s := by
  constructor
  · intro h
    unfold splErr at h
    split at h
    · cases h
    · split at h
      · rename_i h2; exact absurd h h2
      · rename_i h2
        have hs := setErr_zero.1 (Classical.not_not.1 h2)
        split at h
        · cases h
        · rename_i h3
          split at h
          · cases h
          · refine ⟨by omega, hs, fun x hx => ?_, by omega⟩
            have h4 := set_last hs hx
            have h5 := hs.bd x hx
            have h6 : 0 < s.length := List.length_pos_of_mem hx
            have h7 := hs.bd _ (gi_in h6)
            omega
  · intro h
    have h1 := h.n1
    have h2 := h.len
    unfold splErr
    rw [if_neg (by omega), if_neg (fun e => e (setErr_zero.2 h.set)), if_neg, if_neg (by omega)]
    rintro ⟨h3, h4⟩
    have h5 := h.bd _ (gi_in h3)
    have h6 := h.bd _ (gi_in (l := s) (k := s.length - 1) (by omega))
    omega
def memK (p : Int → Bool) (n : Nat) : List Int := ((List.range n).map fun (i : Nat) => (i : Int)).filter p
theorem memK_succ (p : Int → Bool) (n : Nat) : memK p (n + 1) = memK p n ++ if p n = true then [(n : Int)] else [] := by
  unfold memK
  rw [List.range_succ, List.map_append, List.filter_append]
  congr 1
  simp only [List.map_cons, List.map_nil, List.filter_cons, List.filter_nil]
theorem memK_len (p : Int → Bool) (n : Nat) : (memK p n).length ≤ n := by
  unfold memK; exact Nat.le_trans (List.length_filter_le _ _) (by simp)
theorem mem_memK {p : Int → Bool} {n : Nat} {x : Int} : x ∈ memK p n ↔ 0 ≤ x ∧ x < n ∧ p x = true := by
  unfold memK
  rw [List.mem_filter, List.mem_map]
  constructor
  · rintro ⟨⟨i, hi, rfl⟩, h2⟩
    have := List.mem_range.1 hi
    exact ⟨by omega, by omega, h2⟩
  · rintro ⟨h0, h1, h2⟩
    obtain ⟨i, rfl⟩ := Int.eq_ofNat_of_zero_le h0
    exact ⟨⟨i, List.mem_range.2 (by omega), rfl⟩, h2⟩
theorem memK_asc (p : Int → Bool) (n : Nat) : (memK p n).Pairwise (· < ·) := by
  refine List.Pairwise.filter _ ?_
  rw [List.pairwise_map]
  exact List.pairwise_lt_range.imp fun h => by omega
theorem memK_ok (p : Int → Bool) {n : Nat} (hn : n ≤ 64) : SetOk (memK p n) := ⟨memK_asc p n, fun x hx => by have := mem_memK.1 hx; omega⟩
theorem asc_ext {a b : List Int} (ha : a.Pairwise (· < ·)) (hb : b.Pairwise (· < ·)) (h : ∀ x, x ∈ a ↔ x ∈ b) : a = b := by
  induction a generalizing b with
  | nil =>
    cases b with
    | nil => rfl
    | cons y b => exact absurd ((h y).2 (by simp)) (by simp)
  | cons x a ih =>
    cases b with
    | nil => exact absurd ((h x).1 (by simp)) (by simp)
    | cons y b =>
      rw [List.pairwise_cons] at ha hb
      have e : x = y := by
        have h1 := (h x).1 (by simp)
        have h2 := (h y).2 (by simp)
        rw [List.mem_cons] at h1 h2
        rcases h1 with h1 | h1
        · exact h1
        · rcases h2 with h2 | h2
          · exact h2.symm
          · have := ha.1 y h2; have := hb.1 x h1; omega
      subst e
      congr 1
      refine ih ha.2 hb.2 fun z => ?_
      constructor
      · intro hz
        have h1 := (h z).1 (by simp [hz])
        rw [List.mem_cons] at h1
        rcases h1 with rfl | h1
        · have := ha.1 _ hz; omega
        · exact h1
      · intro hz
        have h1 := (h z).2 (by simp [hz])
        rw [List.mem_cons] at h1
        rcases h1 with rfl | h1
        · have := hb.1 _ hz; omega
        · exact h1
def interL (a b : List Int) : List Int := memK (fun x => a.contains x && b.contains x) 64
def complL (n : Int) (a : List Int) : List Int := memK (fun x => !a.contains x) n.toNat
theorem mem_interL {a b : List Int} (ha : SetOk a) {x : Int} : x ∈ interL a b ↔ x ∈ a ∧ x ∈ b := by
  unfold interL
  rw [mem_memK]
  simp only [Bool.and_eq_true, List.contains_iff_mem]
  exact ⟨fun h => h.2.2, fun h => by have := ha.bd x h.1; exact ⟨by omega, by omega, h⟩⟩
theorem mem_complL {n : Int} {a : List Int} {x : Int} : x ∈ complL n a ↔ 0 ≤ x ∧ x < n ∧ x ∉ a := by
  unfold complL
  rw [mem_memK]
  constructor
  · rintro ⟨h1, h2, h3⟩
    exact ⟨h1, by omega, fun h => by rw [List.contains_iff_mem.2 h] at h3; cases h3⟩
  · rintro ⟨h1, h2, h3⟩
    refine ⟨h1, by omega, ?_⟩
    cases e : a.contains x with
    | false => rfl
    | true => exact absurd (List.contains_iff_mem.1 e) h3
theorem set_nodup {a : List Int} (h : a.Pairwise (· < ·)) : a.Nodup := h.imp fun h e => by omega
theorem asc_filter {a b : List Int} (ha : a.Pairwise (· < ·)) (hb : b.Pairwise (· < ·)) (h : ∀ x ∈ a, x ∈ b) : b.filter (fun x => a.contains x) = a :=
  asc_ext (hb.filter _) ha fun x => by
    rw [List.mem_filter, List.contains_iff_mem]
    exact ⟨fun e => e.2, fun e => ⟨h x e, e⟩⟩
theorem asc_sub_len {a b : List Int} (ha : a.Pairwise (· < ·)) (hb : b.Pairwise (· < ·)) (h : ∀ x ∈ a, x ∈ b) : a.length ≤ b.length := by
  rw [← asc_filter ha hb h]; exact List.length_filter_le _ _
theorem asc_sub_eq {a b : List Int} (ha : a.Pairwise (· < ·)) (hb : b.Pairwise (· < ·)) (h : ∀ x ∈ a, x ∈ b) (hl : a.length = b.length) : ∀ x ∈ b, x ∈ a := by
  have h1 := asc_filter ha hb h
  have h2 : (b.filter (fun x => a.contains x)).length = b.length := by rw [h1, hl]
  exact fun x hx => List.contains_iff_mem.1 (List.length_filter_eq_length_iff.1 h2 x hx)
def compB (a b : List Int) : Bool := decide ((interL a b).length = 0) || decide ((interL a b).length = a.length) || decide ((interL a b).length = b.length)
theorem interL_asc (a b : List Int) : (interL a b).Pairwise (· < ·) := memK_asc _ _
theorem compB_iff {a b : List Int} (ha : SetOk a) (hb : SetOk b) : compB a b = true ↔ (∀ x ∈ a, x ∉ b) ∨ (∀ x ∈ a, x ∈ b) ∨ (∀ x ∈ b, x ∈ a) := by
  unfold compB
  simp only [Bool.or_eq_true, decide_eq_true_eq]
  have e0 : (interL a b).length = 0 ↔ ∀ x ∈ a, x ∉ b := by
    rw [List.length_eq_zero_iff]
    constructor
    · intro h x h1 h2
      have := (mem_interL ha).2 ⟨h1, h2⟩
      rw [h] at this; cases this
    · intro h
      refine List.eq_nil_iff_forall_not_mem.2 fun x hx => ?_
      obtain ⟨h1, h2⟩ := (mem_interL ha).1 hx
      exact h x h1 h2
  have e1 : (interL a b).length = a.length ↔ ∀ x ∈ a, x ∈ b := by
    constructor
    · intro h x hx
      exact ((mem_interL ha).1 (asc_sub_eq (interL_asc a b) ha.asc (fun y hy => ((mem_interL ha).1 hy).1) h x hx)).2
    · intro h
      have h1 := asc_sub_len (interL_asc a b) ha.asc (b := a) fun y hy => ((mem_interL ha).1 hy).1
      have h2 := asc_sub_len ha.asc (interL_asc a b) fun y hy => (mem_interL ha).2 ⟨hy, h y hy⟩
      omega
  have e2 : (interL a b).length = b.length ↔ ∀ x ∈ b, x ∈ a := by
    constructor
    · intro h x hx
      exact ((mem_interL ha).1 (asc_sub_eq (interL_asc a b) hb.asc (fun y hy => ((mem_interL ha).1 hy).2) h x hx)).1
    · intro h
      have h1 := asc_sub_len (interL_asc a b) hb.asc fun y hy => ((mem_interL ha).1 hy).2
      have h2 := asc_sub_len hb.asc (interL_asc a b) fun y hy => (mem_interL ha).2 ⟨h y hy, hy⟩
      omega
  rw [e0, e1, e2, or_assoc]
def rowPair (l : List (List Int)) (i : Nat) : Int := firstIx (fun k => decide (i < k) && !compB (gl l i) (gl l k)) l.length
def pairI (l : List (List Int)) : Int := firstIx (fun i => decide (0 ≤ rowPair l i)) l.length
def pairK (l : List (List Int)) : Int := rowPair l (pairI l).toNat
end Go.Proofs.YtcbmbhghmfehpaaGreat
