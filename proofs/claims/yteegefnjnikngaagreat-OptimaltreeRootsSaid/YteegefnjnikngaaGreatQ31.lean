/- The turned forest: what the loop gives; what pruned leaves of it. Plain. The walk of .. -/
import Derived.Test.YteegefnjnikngaaGreatQ1
import Derived.Test.YteegefnjnikngaaGreatQ29
import Derived.Test.YteegefnjnikngaaGreatQ28
set_option maxRecDepth 100000
namespace Go.Proofs.YteegefnjnikngaaGreat
section
def Fs (t : ax) (leaf f z : Nat) : List Nat :=
 if z = t.ps.length then leaf :: (if f = leaf then [] else [(gi t.ps leaf).toNat])
 else if cg t leaf z = true ∧ z ≠ leaf ∧ f ≤ z then (aQ t.ps z).filter (fun k => !cg t leaf k) ++ (if z = f then [] else [(gi t.ps z).toNat])
 else aQ t.ps z
theorem rZ {t : ax} {leaf f z : Nat} (e : z = t.ps.length) : Fs t leaf f z = leaf :: (if f = leaf then [] else [(gi t.ps leaf).toNat]) := if_pos e
theorem r5 {t : ax} {leaf f z : Nat} (e : z ≠ t.ps.length) (h : cg t leaf z = true ∧ z ≠ leaf ∧ f ≤ z) : Fs t leaf f z = (aQ t.ps z).filter (fun k => !cg t leaf k) ++ (if z = f then [] else [(gi t.ps z).toNat]) := (if_neg e).trans (if_pos h)
theorem nP {t : ax} {leaf f z : Nat} (e : z ≠ t.ps.length) (h : ¬ (cg t leaf z = true ∧ z ≠ leaf ∧ f ≤ z)) : Fs t leaf f z = aQ t.ps z := (if_neg e).trans (if_neg h)
structure Vc (t : ax) (leaf : Nat) (K : RrS) : Prop where
 on : cg t leaf K.fW = true
 cur : K.cur = gi t.ps K.fW
 hang : K.hang = if K.fW = leaf then t.ps.length else K.fW
 nm : K.fr.nm = (bI t leaf).nm
 old : K.fr.old = (bI t leaf).old
 kids : ∀ z, z < t.ps.length + 1 → K.fr.kids z = Fs t leaf K.fW z
section
variable {t : ax} {leaf : Nat}
theorem Tf (h : aR t leaf) : Vc t leaf (rrK t leaf 0) := by
 refine ⟨h.pV, rfl, (if_pos rfl).symm, rfl, rfl, fun z hz => ?_⟩
 show upd (dy t).kids t.ps.length [leaf] z = Fs t leaf leaf z
 by_cases e : z = t.ps.length
 ·rw [rZ e, if_pos rfl, e, upd_same]
 ·rw [upd_ne _ _ e, nP e]
  ·rfl
  ·rintro ⟨h1, h2, h3⟩
   have := h.oD h1; omega
theorem WB (h : aR t leaf) {K : RrS} (hK : Vc t leaf K) (hc : ¬ K.cur < 0) : Vc t leaf ⟨Qi K.fr K.hang K.fW K.cur.toNat, K.cur.toNat, K.cur.toNat, gi t.ps K.cur.toNat⟩ := by
 obtain ⟨F, hang, f, cur⟩ := K
 obtain ⟨hon, Tg, wY, hnm, hold, tU⟩ := hK
 simp only at hon Tg wY hnm hold tU hc ⊢
 have hfl := h.oD hon
 have kP := h.lt
 have B7 : f ≠ 0 := fun e => by
  have := uK h.ok h.pos
  unfold jm at this
  rw [if_pos rfl, beq_iff_eq] at this
  rw [Tg, e, this] at hc; omega
 obtain ⟨x, hx, hxf⟩ := h.par (z := f) (Nat.lt_of_le_of_lt hfl kP) B7
 have hxc : cur.toNat = x := by rw [Tg, hx]; rfl
 rw [hxc]
 have hxon := h.mH hon B7 hx
 have hfilt : (aQ t.ps x).filter (fun k => !decide ((bI t leaf).old k = (f : Int))) = (aQ t.ps x).filter (fun k => !cg t leaf k) := by
  refine List.filter_congr fun k hk => ?_
  obtain ⟨h1, h2, h3⟩ := bf.1 hk
  have : (bI t leaf).old k = (k : Int) := upd_ne _ _ (by omega)
  rw [this]
  congr 1
  rw [Bool.eq_iff_iff, decide_eq_true_eq]
  constructor
  ·intro e
   have : k = f := by omega
   subst this; exact hon
  ·intro e
   have := h.vE e hon h2 hxf h3 hx
   omega
 refine ⟨hxon, rfl, ?_, hnm, hold, fun z hz => ?_⟩
 ·exact (if_neg (show ¬ x = leaf by omega)).symm
 ·show upd (upd F.kids x ((F.kids x).filter fun k => !decide (F.old k = (f : Int)))) hang (upd F.kids x ((F.kids x).filter fun k => !decide (F.old k = (f : Int))) hang ++ [x]) z = Fs t leaf x z
  have hFx : F.kids x = aQ t.ps x := by
   rw [tU x (by omega)]
   exact nP (by omega) (by omega)
  rw [hFx, hold, hfilt]
  by_cases Jl : z = hang
  ·by_cases xH : f = leaf
   ·rw [if_pos xH] at wY
    have dP : z = t.ps.length := Jl.trans wY
    rw [Jl, upd_same, ← Jl, upd_ne _ _ (by omega), tU z hz, rZ dP, rZ dP, if_pos xH, if_neg (by omega), ← xH, hx]; rfl
   ·rw [if_neg xH] at wY
    have Qn : z = f := Jl.trans wY
    rw [Jl, upd_same, ← Jl, upd_ne _ _ (by omega), tU z hz, Qn, r5 (by omega) ⟨hon, xH, Nat.le_refl _⟩, r5 (by omega) ⟨hon, xH, Nat.le_of_lt hxf⟩, if_pos rfl, if_neg (by omega), hx, List.append_nil]; rfl
  ·rw [upd_ne _ _ Jl]
   by_cases hzx : z = x
   ·rw [hzx, upd_same, r5 (by omega) ⟨hxon, by omega, Nat.le_refl _⟩, if_pos rfl, List.append_nil]
   ·rw [upd_ne _ _ hzx, tU z hz]
    by_cases dP : z = t.ps.length
    ·have : f ≠ leaf := fun e => by rw [if_pos e] at wY; omega
     rw [rZ dP, rZ dP, if_neg this, if_neg (by omega)]
    ·have Qn : z ≠ f ∨ z = leaf := by
      by_cases e : f = leaf
      ·by_cases e2 : z = leaf
       ·exact .inr e2
       ·exact .inl (by omega)
      ·rw [if_neg e] at wY; exact .inl (by omega)
     by_cases hcnd : cg t leaf z = true ∧ z ≠ leaf
     ·have Qn : z ≠ f := by
       rcases Qn with e | e
       ·exact e
       ·exact absurd e hcnd.2
      by_cases hle : f ≤ z
      ·rw [r5 dP ⟨hcnd.1, hcnd.2, hle⟩, r5 dP ⟨hcnd.1, hcnd.2, by omega⟩, if_neg Qn, if_neg hzx]
      ·have := h.Bd hcnd.1 hon (by omega) hx
       rw [nP dP (by omega), nP dP (by omega)]
     ·rw [nP dP (fun c => hcnd ⟨c.1, c.2.1⟩), nP dP (fun c => hcnd ⟨c.1, c.2.1⟩)]
theorem th (h : aR t leaf) : ∀ i, Vc t leaf (rrK t leaf i)
 | 0 => Tf h
 | i + 1 => by
  have ih := th h i
  by_cases hc : (rrK t leaf i).cur < 0
  ·rw [rrK, if_pos hc]; exact ih
  ·rw [Jb hc]; exact WB h ih hc
theorem rr_end (h : aR t leaf) {i : Nat} (hc : (rrK t leaf i).cur < 0) : ∀ z, z < t.ps.length + 1 → (bI t leaf).nm z = (rrK t leaf i).fr.nm z ∧ (bI t leaf).old z = (rrK t leaf i).fr.old z ∧ (bI t leaf).kids z = (rrK t leaf i).fr.kids z := fun z hz => by
 have hK := th h i
 have hf : (rrK t leaf i).fW = 0 := by
  by_cases e : (rrK t leaf i).fW = 0
  ·exact e
  ·obtain ⟨q, h1, _⟩ := h.par (z := (rrK t leaf i).fW) (Nat.lt_of_le_of_lt (h.oD hK.on) h.lt) e
   rw [hK.cur, h1] at hc; omega
 refine ⟨by rw [hK.nm], by rw [hK.old], ?_⟩
 rw [hK.kids z hz, hf]
 show iA t leaf z = _
 unfold iA
 by_cases dP : z = t.ps.length
 ·rw [rZ dP, if_pos dP]
  congr 1
  by_cases e : leaf = 0
  ·rw [if_pos e, if_pos e.symm]
  ·rw [if_neg e, if_neg (fun c => e c.symm)]
 ·rw [if_neg dP]
  by_cases hcnd : cg t leaf z = true ∧ z ≠ leaf
  ·rw [r5 dP ⟨hcnd.1, hcnd.2, Nat.zero_le _⟩, if_pos hcnd]
  ·rw [nP dP (fun c => hcnd ⟨c.1, c.2.1⟩), if_neg hcnd]
end
section
variable {F : aP} {n : Nat} {rk : Nat → Nat} {P : Nat → Bool}
structure Ns (F : aP) (n : Nat) (rk : Nat → Nat) (P : Nat → Bool) : Prop where
 sR : ∀ z, z < n → F.kids z ≠ [] → (F.nm z).size = 0
 lf : ∀ z, z < n → F.kids z = [] → P z = true → aZ (F.nm z).data.toList = true
theorem Jm (h : Wf F n rk) {i : Nat} (hi : i < n) (hg : Ns F n rk P) (ha : al F P rk i = true) {s : RT} (hs : s ∈ subR (aG (F.sub rk (gY F P rk) i) rk i)) :
  (s.kids ≠ [] → s.nm.size = 0) ∧ (s.kids = [] → aZ s.nm.data.toList = true) := by
 have hw := jy (P := P) h i
 rw [jO hw hi (Nat.le_refl _)] at hs
 obtain ⟨z, hz, rfl⟩ := List.mem_map.1 hs
 have hsz := (bX hw hi (Nat.le_refl _)).1 hz
 have dP := iM hw hi (Nat.le_refl _) hsz
 have hs2 := pR h i _ i z (Nat.le_refl _) hi hsz
 have ud := Bc h hi _ i z (Nat.le_refl _) hi (aN h hi) ha hsz
 refine ⟨fun hk => ?_, fun hk => ?_⟩
 ·rw [nI hw dP]
  refine hg.sR z dP fun e => hk ?_
  rw [nJ hw dP, lZ hs2, e]; rfl
 ·rw [nJ hw dP, lZ hs2, List.map_eq_nil_iff, List.filter_eq_nil_iff] at hk
  have h0 : F.kids z = [] := by
   by_cases c : F.kids z = []
   ·exact c
   ·rw [jx h dP, if_neg c] at ud
    obtain ⟨k, hk2, hka⟩ := List.any_eq_true.1 ud
    exact absurd hka (hk k hk2)
  rw [nI hw dP]
  rw [jx h dP, if_pos h0] at ud
  exact hg.lf z dP h0 ud
theorem Jn (h : Wf F n rk) {i : Nat} (hi : i < n) (hg : Ns F n rk P) : ∀ (d z : Nat), rk z ≤ d → z < n → aM F rk i z = true → (bu (aG (F.sub rk (gY F P rk) i) rk z)).Sublist (bu (aG F rk z))
 | d, z, hd, hz, hs => by
  have hw := jy (P := P) h i
  rw [bA h hz, bA hw hz, lZ hs]
  by_cases h0 : F.kids z = []
  ·rw [h0]; exact List.Sublist.refl _
  ·have hz0 : (F.nm z).size = 0 := hg.sR z hz h0
   rw [iY hz0, iY (show ((F.sub rk (gY F P rk) i).nm z).size = 0 from hz0), List.flatMap_map, List.flatMap_map]
   refine ue _ fun k hk _ => ?_
   have hkk := h.kid z hz k hk
   cases d with
   | zero => omega
   | succ d => exact Jn h hi hg d k (by omega) hkk.1 (dV h hi (Nat.le_refl _) hs (bz h hz hk (aN h hkk.1)))
theorem Th (h : Wf F n rk) {i : Nat} (hi : i < n) (hg : Ns F n rk P) (fk : (bu (aG F rk i)).Nodup) (ha : al F P rk i = true) : di (aG (F.sub rk (gY F P rk) i) rk i) :=
 ⟨fun _ hs hk => (Jm h hi hg ha hs).1 hk, fun _ hs hk => (Jm h hi hg ha hs).2 hk, (Jn h hi hg _ i (Nat.le_refl _) hi (aN h hi)).nodup fk⟩
theorem Ti (h : oK F n rk) {R : Nat} (hR : ∀ i, i < n → rk i ≤ R) {i : Nat} (hi : i < n) (hinj : ∀ a b, a < n → b < n → (F.nm a).size ≠ 0 → F.nm a = F.nm b → a = b) : (bu (aG F rk i)).Nodup := by
 have hsub : subR (aG F rk i) = (bF F rk i).map (aG F rk) := jO h.wf hi (Nat.le_refl _)
 have e : cQ (aG F rk i) = (bF F rk i).map F.nm := by
  rw [lR, hsub, List.map_map]
  refine List.map_congr_left fun z hz => ?_
  exact nI h.wf (iM h.wf hi (Nat.le_refl _) ((bX h.wf hi (Nat.le_refl _)).1 hz))
 unfold bu
 rw [e]
 have fk := iy h hR hi (Nat.le_refl _)
 have hlt : ∀ z ∈ bF F rk i, z < n := fun z hz => iM h.wf hi (Nat.le_refl _) ((bX h.wf hi (Nat.le_refl _)).1 hz)
 generalize bF F rk i = l at *
 clear e hsub
 induction l with
 | nil => simp
 | cons a l ih =>
  obtain ⟨h1, h2⟩ := List.nodup_cons.1 fk
  rw [List.map_cons]
  have ih := ih h2 (fun z hz => hlt z (by simp [hz]))
  by_cases ha : (F.nm a).size ≠ 0
  ·rw [List.filter_cons_of_pos (by simpa using ha), List.nodup_cons]
   refine ⟨fun hm => ?_, ih⟩
   obtain ⟨hm, _⟩ := List.mem_filter.1 hm
   obtain ⟨b, hb, e⟩ := List.mem_map.1 hm
   have := hinj a b (hlt a (by simp)) (hlt b (by simp [hb])) ha e.symm
   subst this; exact h1 hb
  ·rw [List.filter_cons_of_neg (by simpa using ha)]; exact ih
end
section
variable {t : ax} {leaf : Nat}
def xM (t : ax) (leaf j : Nat) : Bool := decide (((bI t leaf).nm j).size ≠ 0)
theorem wZ (h : aR t leaf) {z : Nat} (hz : z < t.ps.length + 1) (hk : (bI t leaf).kids z ≠ []) : ((bI t leaf).nm z).size = 0 := by
 by_cases e : z = t.ps.length
 ·subst e
  show (upd (gs t.ns) _ _ _).size = 0
  rw [upd_same]; rfl
 ·show (upd (gs t.ns) _ _ z).size = 0
  rw [upd_ne _ _ e]
  by_cases c : aQ t.ps z = []
  ·exfalso
   refine hk ?_
   show iA t leaf z = []
   unfold iA
   rw [if_neg e, c, if_neg]
   rintro ⟨h1, h2⟩
   obtain ⟨k, h3, h4, h5, _⟩ := h.yS h1 h2
   have : k ∈ aQ t.ps z := bf.2 ⟨h3, h4, h5⟩
   rw [c] at this; cases this
  ·obtain ⟨k, hk⟩ := List.exists_mem_of_ne_nil _ c
   obtain ⟨h3, h4, h5⟩ := bf.1 hk
   exact kG h.te h3 h4 h5
theorem rr_ok (h : aR t leaf) : Ns (bI t leaf) (t.ps.length + 1) (eM t leaf) (xM t leaf) := by
 refine ⟨fun z hz hk => wZ h hz hk, fun z hz hk hP => ?_⟩
 obtain ⟨h1, h2⟩ := DG h hz hk
 have hP : ((bI t leaf).nm z).size ≠ 0 := of_decide_eq_true hP
 have e : (bI t leaf).nm z = gs t.ns z := upd_ne _ _ (by omega)
 rw [e] at hP ⊢
 rcases h2 with h2 | ⟨h2, h3⟩
 ·exact qm h.te h1 h2
 ·subst h2; exact absurd h3 hP
theorem Jo (h : aR t leaf) : ∀ a b, a < t.ps.length + 1 → b < t.ps.length + 1 → ((bI t leaf).nm a).size ≠ 0 → (bI t leaf).nm a = (bI t leaf).nm b → a = b := fun a b ha hb h0 e => by
 have key : ∀ c, c < t.ps.length + 1 → ((bI t leaf).nm c).size ≠ 0 → (bI t leaf).kids c = [] := fun c hc hn => by
  by_cases x : (bI t leaf).kids c = []
  ·exact x
  ·exact absurd (wZ h hc x) hn
 exact (fR h).names a b ha hb (key a ha h0) (key b hb (by rw [← e]; exact h0)) e
def yV (t : ax) (leaf : Nat) : RT := aG ((bI t leaf).sub (eM t leaf) (gY (bI t leaf) (xM t leaf) (eM t leaf)) t.ps.length) (eM t leaf) t.ps.length
theorem pW (h : aR t leaf) : al (bI t leaf) (xM t leaf) (eM t leaf) t.ps.length = true ∧ di (yV t leaf) ∧ aI (yV t leaf) ≤ 65 := by
 have hA := fR h
 have hn : t.ps.length < t.ps.length + 1 := Nat.lt_succ_self _
 have hl : leaf < t.ps.length + 1 := Nat.lt_succ_of_lt h.lt
 have hla : al (bI t leaf) (xM t leaf) (eM t leaf) leaf = true := by
  rw [jx hA.wf hl, if_pos (yT h)]
  refine decide_eq_true ?_
  show (upd (gs t.ns) _ _ leaf).size ≠ 0
  rw [upd_ne _ _ (by have := h.lt; omega)]; exact h.nm
 have h0 := (pU hA.wf hn _ t.ps.length leaf (Nat.le_refl _) hn (aN hA.wf hn) (s8 h leaf hl) hla).1
 have hg : di (yV t leaf) := Th hA.wf hn (rr_ok h) (Ti hA (fun z hz => Nn z hz) hn (Jo h)) h0
 have LK := (aH h.te).2.1
 exact ⟨h0, hg, Nat.le_trans (yP (jy hA.wf _) hn hg) (by omega)⟩
end
end
section
open Go.RowKit Go.Deep
set_option maxHeartbeats 1000000 in
theorem from_t (W : World) (aj bx : Nat) (x f : Int) (hb : W.cell? ⟨bx, 0, none⟩ = some (.int .i64 f)) (ho : W.cell? ⟨aj, 2, none⟩ = some (.int .i64 x)) :
  Calls Tryz.prog 115 (#[.pointer (some ⟨aj, 0, none⟩)] ++ #[.pointer (some ⟨bx, 0, none⟩)]) W fun e W' => e = .returned (.bool (decide (x = f))) ∧ ∃ m, W' = W.drewN m := by
 have d1 : (x == f) = decide (x = f) := by rw [Bool.eq_iff_iff, beq_iff_eq, decide_eq_true_eq]
 have D1 := aa d1
 clear d1
 go_enter Tryz.func115, Tryz.ntmps115
 go_wp2_with fail
 go_big_quiet (fail)
 go_wp2_with fail
 go_ret
 exact ⟨by rw [← D1.out]; rfl, _, rfl⟩
set_option maxHeartbeats 1000000 in
theorem Jp (W : World) (aj : Nat) (s : ByteArray) (ho : W.cell? ⟨aj, 0, none⟩ = some (.string s)) :
  Calls Tryz.prog 118 (#[.pointer (some ⟨aj, 0, none⟩)] ++ #[]) W fun e W' => e = .returned (.bool (decide (s.size ≠ 0))) ∧ Up W W' := by
 by_cases h : s.size = 0
 ·have e3 : (s.toList == []) = true := by rw [(toList_nil _).2 h]; rfl
  have HD : Hid (decide (s.size ≠ 0) = false) := by rw [Hid, h]; rfl
  clear h
  go_enter Tryz.func118, Tryz.ntmps118
  go_wp2_with fail
  go_ret
  exact ⟨by rw [HD.out]; rfl, Up.refl _⟩
 ·have e3 : (s.toList == []) = false := by
   rw [beq_eq_false_iff_ne]; exact fun q => h ((toList_nil _).1 q)
  have HD : Hid (decide (s.size ≠ 0) = true) := decide_eq_true h
  clear h
  go_enter Tryz.func118, Tryz.ntmps118
  go_wp2_with fail
  go_ret
  exact ⟨by rw [HD.out]; rfl, Up.refl _⟩
end
section
section
variable {t : ax}
end
end
end Go.Proofs.YteegefnjnikngaaGreat
