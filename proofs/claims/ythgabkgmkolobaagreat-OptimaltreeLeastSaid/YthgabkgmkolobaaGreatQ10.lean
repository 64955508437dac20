/- The contract of phylotree.sorted. -/
import Derived.Test.YthgabkgmkolobaaGreatQ1
import Derived.Test.YthgabkgmkolobaaGreatQ8
import Derived.Test.YthgabkgmkolobaaGreatQ9
set_option maxRecDepth 100000
namespace Go.Proofs.YthgabkgmkolobaaGreat
open Go.RowKit Go.Deep
theorem run_makeMap {P : Program} (T : TypeId) (w : World) : (Instr.makeMap T none).run P w = .ok (.map (some w.heap.size)) (w.alloc (.map #[] 0)) := by
 rfl
structure AB (F : aT) (n : Nat) (rk : Nat → Nat) : Prop where
 wf : Wf F n rk
 sep : ∀ i, i < n → Sep (fB F rk) (F.kids i)
 nodup : ∀ i, i < n → (F.kids i).Nodup
 len : ∀ i, i < n → (F.kids i).length ≤ 1000
theorem mP {F : aT} {n : Nat} {rk : Nat → Nat} (h : Wf F n rk) : ∀ {d i j : Nat}, i < n → subD F d i j = true → rk j ≤ rk i := by
 intro d
 induction d with
 | zero => intro i j _ hs; simp [subD] at hs; subst hs; exact Nat.le_refl _
 | succ d ih =>
  intro i j hi hs
  simp only [subD, Bool.or_eq_true, beq_iff_eq, List.any_eq_true] at hs
  rcases hs with rfl | ⟨k, hk, h1⟩
  ·exact Nat.le_refl _
  ·have := h.kid i hi k hk
   have := ih this.1 h1; omega
theorem RH {F : aT} {n : Nat} {rk : Nat → Nat} (h : Wf F n rk) {i k : Nat} (hi : i < n) (hk : k ∈ F.kids i) : bS F rk k i = false := by
 cases hs : bS F rk k i with
 | false => rfl
 | true =>
  have h1 := h.kid i hi k hk
  have := mP h h1.1 hs; omega
def OB (n base : Nat) (A : Nat → Nat) (kv : Nat → Value) (F : aT) (rk : Nat → Nat) (p : Nat → Bool) (i : Nat) (w : World) (e : Ending) (w' : World) : Prop :=
 e = .returned (.string (fB F rk i)) ∧ bq base n A kv (F.iq rk fun j => p j || bS F rk i j) w' ∧ kA n A kv w w'
def pK (F : aT) (rk : Nat → Nat) (p : Nat → Bool) (L : List Nat) (k j : Nat) : Bool := p j || (L.take k).any fun c => bS F rk c j
def mK (F : aT) (rk : Nat → Nat) (A : Nat → Nat) (L : List Nat) (k : Nat) : List (Option Nat × Value) := (L.take k).map fun j => (some (A j), .string (fB F rk j))
structure KW (n base : Nat) (A : Nat → Nat) (kv : Nat → Value) (F : aT) (rk : Nat → Nat) (p : Nat → Bool) (L : List Nat) (w wr : World) (m0 bx k : Nat) : Prop where
 fr : bq base n A kv (F.iq rk (pK F rk p L k)) wr
 map : je wr m0 (mK F rk A L k)
 box : wr.cell? ⟨bx, 0, none⟩ = some (.map (some m0))
 up : kA n A kv w wr
theorem VV (F : aT) (rk : Nat → Nat) (p : Nat → Bool) (L : List Nat) {k c : Nat} (hc : L[k]? = some c) (j : Nat) : pK F rk p L (k + 1) j = (pK F rk p L k j || bS F rk c j) := by
 unfold pK
 rw [List.take_add_one, hc]
 simp [Bool.or_assoc]
theorem VW (F : aT) (rk : Nat → Nat) (A : Nat → Nat) (L : List Nat) {k c : Nat} (hc : L[k]? = some c) : mK F rk A L (k + 1) = mK F rk A L k ++ [(some (A c), .string (fB F rk c))] := by
 unfold mK
 rw [List.take_add_one, hc]
 simp
theorem bq.D3 {base n : Nat} {A : Nat → Nat} {kv : Nat → Value} {F : aT} {rk : Nat → Nat} {p q : Nat → Bool} {w : World} (h : bq base n A kv (F.iq rk p) w) (e : ∀ j, j < n → q j = p j) : bq base n A kv (F.iq rk q) w :=
 h.congr fun j hj => ⟨rfl, rfl, by show (if q j then _ else _) = (if p j then _ else _); rw [e j hj]⟩
theorem D4 {F : aT} {rk : Nat → Nat} {A : Nat → Nat} {n : Nat} (hinj : ∀ i j, i < n → j < n → A i = A j → i = j) : ∀ {l : List Nat} {c : Nat}, (∀ j ∈ l, j < n) → c < n → c ∈ l → (l.map fun j => (some (A j), Value.string (fB F rk j))).lookup (some (A c)) = some (.string (fB F rk c)) := by
 intro l
 induction l with
 | nil => intro c _ _ h; cases h
 | cons x l ih =>
  intro c hl hc h
  rw [List.map_cons, List.lookup_cons]
  by_cases e : x = c
  ·subst e; simp
  ·have hne : (some (A c) == some (A x)) = false := by
    simp only [beq_eq_false_iff_ne, ne_eq, Option.some.injEq]
    exact fun e2 => e (hinj x c (hl x (by simp)) hc e2.symm)
   rw [hne]
   exact ih (fun j hj => hl j (by simp [hj])) hc (by rcases List.mem_cons.1 h with h | h; exact absurd h.symm e; exact h)
theorem J7 {F : aT} {rk : Nat → Nat} {A : Nat → Nat} {n : Nat} (hinj : ∀ i j, i < n → j < n → A i = A j → i = j) : ∀ {l : List Nat} {c : Nat}, (∀ j ∈ l, j < n) → c < n → c ∉ l → (l.map fun j => (some (A j), Value.string (fB F rk j))).lookup (some (A c)) = none := by
 intro l
 induction l with
 | nil => intro c _ _ _; rfl
 | cons x l ih =>
  intro c hl hc h
  rw [List.map_cons, List.lookup_cons]
  have hne : (some (A c) == some (A x)) = false := by
   simp only [beq_eq_false_iff_ne, ne_eq, Option.some.injEq]
   exact fun e2 => h (by rw [hinj c x hc (hl x (by simp)) e2]; simp)
  rw [hne]
  exact ih (fun j hj => hl j (by simp [hj])) hc (fun h2 => h (by simp [h2]))
theorem kA.cell {n base : Nat} {A : Nat → Nat} {kv : Nat → Value} {F : aT} {w a b : World} (h : kA n A kv a b) (hF : bq base n A kv F w) {p : Addr} {v : Value} (hp : w.heap.size ≤ p.block) (hc : a.cell? p = some v) : b.cell? p = some v := by
 have hl : p.block < a.heap.size := World.block_lt_of_cell? a _ hc
 rw [World.cell?_of_block (a := p) (h.block p.block hl (fun i hi e => by have := hF.lt hi; omega) (fun i hi e => by have := (hF.gu hi e).2; omega))]
 exact hc
theorem kA.pmap {n base : Nat} {A : Nat → Nat} {kv : Nat → Value} {F : aT} {w a b : World} (h : kA n A kv a b) (hF : bq base n A kv F w) {m : Nat} {l : List (Option Nat × Value)} (hp : w.heap.size ≤ m) (hc : je a m l) : je b m l :=
 hc.of_block (h.block m hc.lt (fun i hi e => by have := hF.lt hi; omega) (fun i hi e => by have := (hF.gu hi e).2; omega))
theorem bq.FH {base n : Nat} {A : Nat → Nat} {kv : Nat → Value} {F : aT} {w : World} (h : bq base n A kv F w) {i g cap m j c : Nat} (hi : i < n) (hv : kv i = .slice (some ⟨g, 0, none⟩) m cap) (hj : (F.kids i)[j]? = some c) : w.cell? ⟨g, j, none⟩ = some (.pointer (some ⟨A c, 0, none⟩)) := by
 have hown := h.own i hi
 rw [hv] at hown
 obtain ⟨q, c', e, _, H⟩ := hown.Au.open
 injection e with e1
 subst e1
 have hl : j < (F.kids i).length := (List.getElem?_eq_some_iff.1 hj).1
 obtain ⟨b, off, e, hc⟩ := H j (by simpa using hl)
 injection e with e
 injection e with e1 e2
 subst e1; subst e2
 rw [Nat.zero_add] at hc
 rw [hc]
 simp [List.getD_eq_getElem?_getD, hj, bu]
theorem X6 {F : aT} {n : Nat} {rk : Nat → Nat} (h : Wf F n rk) {p : Nat → Bool} {i : Nat} {L : List Nat} (hi : i < n) (hL : ∀ c ∈ L, c ∈ F.kids i) (k : Nat) : pK F rk p L k i = p i := by
 unfold pK
 have : ((L.take k).any fun c => bS F rk c i) = false := by
  rw [List.any_eq_false]
  intro c hc
  rw [RH h hi (hL c (List.mem_of_mem_take hc))]; simp
 rw [this, Bool.or_false]
theorem oF {n : Nat} {F : aT} {rk : Nat → Nat} {p : Nat → Bool} {L : List Nat} {i : Nat} (hS : Wf F n rk) (hi : i < n) (hL : L = (F.iq rk p).kids i) (k : Nat) : (F.iq rk (pK F rk p L k)).kids i = L := by
 have hm : ∀ c ∈ L, c ∈ F.kids i := fun c hc => by rw [hL] at hc; exact (F.gP rk p i).mem_iff.1 hc
 show (if pK F rk p L k i then _ else _) = L
 rw [X6 hS hi hm, hL]; rfl
theorem bq.drew {base n : Nat} {A : Nat → Nat} {kv : Nat → Value} {F : aT} {w : World} (h : bq base n A kv F w) : bq base n A kv F w.drew := h.same (fun _ _ => rfl) (fun _ _ _ _ => rfl)
theorem kA.VX {n : Nat} {A : Nat → Nat} {kv : Nat → Value} {a b : World} (h : kA n A kv a.drew b) : kA n A kv a b := ⟨h.os, h.tape, h.output, h.size, h.block⟩
theorem KW.step {n base : Nat} {A : Nat → Nat} {kv : Nat → Value} {F : aT} {rk : Nat → Nat} {p : Nat → Bool} {L : List Nat} {w wo w2 : World} {bx k c : Nat} (h : KW n base A kv F rk p L w wo w.heap.size bx k) (hF : bq base n A kv (F.iq rk p) w) (gL : w.heap.size < bx)
  (hc : L[k]? = some c) (dL : c < n) (Gx : ∀ j ∈ L, j < n) (eT : L.Nodup) (h2 : bq base n A kv (F.iq rk fun j => pK F rk p L k j || bS F rk c j) w2) (hu : kA n A kv wo w2) :
  w2.cell? ⟨bx, 0, none⟩ = some (.map (some w.heap.size)) ∧ ∃ w3, (Instr.mapUpdate 245 (.map (some w.heap.size)) (.pointer (some ⟨A c, 0, none⟩)) (.string (fB F rk c))).run Tryz.prog w2 = .ok () w3 ∧ KW n base A kv F rk p L w w3 w.heap.size bx (k + 1) := by
 have jf := hu.cell hF (p := ⟨bx, 0, none⟩) (Nat.le_of_lt gL) h.box
 have hmap := hu.pmap hF (Nat.le_refl _) h.map
 have hkeys : ∀ z ∈ mK F rk A L k, fI w2 z.1 := fun z hz => by
  obtain ⟨j, hj, rfl⟩ := List.mem_map.1 hz
  exact h2.plain (Gx j (List.mem_of_mem_take hj))
 have hno : c ∉ L.take k := fun hm => by
  obtain ⟨j, hj, e⟩ := List.getElem_of_mem hm
  rw [List.getElem_take] at e
  have hjk : j < k := by rw [List.length_take] at hj; omega
  have fT := (List.getElem?_eq_some_iff.1 hc)
  obtain ⟨fT, e2⟩ := fT
  have := (List.getElem_inj eT).1 (e.trans e2.symm); omega
 obtain ⟨w3, hr, hm3, hs3, xU, ht3, hou3, hb3⟩ := Gh (P := Tryz.prog) Tryz.underlying245 Tryz.underlying119 Tryz.rN hmap (k := some (A c)) (.string (fB F rk c)) (h2.plain dL) hkeys (J7 hF.inj (fun j hj => Gx j (List.mem_of_mem_take hj)) dL hno)
 refine ⟨jf, w3, hr, ?_, ?_, ?_, ?_⟩
 ·have h3 : bq base n A kv (F.iq rk fun j => pK F rk p L k j || bS F rk c j) w3 := h2.same (fun j hj => hb3 _ (by have := hF.lt hj; omega)) (fun j b hj hb => hb3 _ (by have := (hF.gu hj hb).2; omega))
  exact h3.D3 fun j _ => VV F rk p L hc j
 ·rw [VW F rk A L hc]; exact hm3
 ·rw [World.cell?_of_block (a := ⟨bx, 0, none⟩) (hb3 bx (by omega))]; exact jf
 ·have hk := h.up.trans hu
  exact ⟨xU.trans hk.os, ht3.trans hk.tape, hou3.trans hk.output, Nat.le_trans hk.size (Nat.le_of_eq hs3.symm), fun b hb h4 h5 => (hb3 b (by omega)).trans (hk.block b hb h4 h5)⟩
set_option maxHeartbeats 800000 in
theorem wV {n base : Nat} {A : Nat → Nat} {kv : Nat → Value} {F : aT} {rk : Nat → Nat} (hS : AB F n rk) {i : Nat} {p : Nat → Bool} {w : World} (hi : i < n) (hF : bq base n A kv (F.iq rk p) w) (h0 : F.kids i = []) :
  Calls Tryz.prog 184 #[.pointer (some ⟨A i, 0, none⟩)] w (OB n base A kv F rk p i w) := by
 have nD := F.gP rk p i
 have hL : (F.iq rk p).kids i = [] := List.perm_nil.1 (by rw [h0] at nD; exact nD)
 have hown := hF.own i hi
 rw [hL] at hown
 obtain ⟨q, cap, hv, _⟩ := hown.form (n := 0) rfl
 have hkc := hF.qo hi
 have hnc : w.cell? ⟨A i, 0, none⟩ = some (.string (F.nm i)) := hF.name hi
 rw [hv] at hkc
 have HL : Hid (fB F rk i = F.nm i) := by unfold Hid; rw [rM hS.wf hi, h0]; simp [cA]
 have mQ : Hid (bq base n A kv (F.iq rk fun j => p j || bS F rk i j) w) := hF.congr fun j hj => by
  refine ⟨rfl, rfl, ?_⟩
  by_cases e : j = i
  ·subst e; rw [hL]; show (if _ then _ else _) = _; rw [h0]; split <;> simp [cA]
  ·show (if _ then _ else _) = (if _ then _ else _)
   have : bS F rk i j = false := by rw [gG hS.wf hi, h0]; simpa using e
   simp only [this, Bool.or_false]
 clear hF hS nD hL hown hv h0
 generalize hap : A i = ai at *
 generalize F.nm i = nm at *
 clear hap
 go_enter Tryz.func184, Tryz.ntmps184
 go_wp2_with fail
 go_ret
 exact ⟨by rw [HL.out]; rfl, mQ.out, kA.refl _ _ _ _⟩
set_option maxHeartbeats 4000000 in
theorem RI {n base : Nat} {A : Nat → Nat} {kv : Nat → Value} {F : aT} {rk : Nat → Nat} (hS : AB F n rk) : ∀ (d i : Nat) (p : Nat → Bool) (w : World), i < n → rk i ≤ d → bq base n A kv (F.iq rk p) w →
  Calls Tryz.prog 184 #[.pointer (some ⟨A i, 0, none⟩)] w (OB n base A kv F rk p i w) := by
 intro d
 induction d with
 | zero =>
  intro i p w hi zS hF
  refine wV hS hi hF ?_
  cases hk : F.kids i with
  | nil => rfl
  | cons k l => have := (hS.wf.kid i hi k (by rw [hk]; simp)).2; omega
 | succ d ih =>
  intro i p w hi zS hF
  by_cases h0 : F.kids i = []
  ·exact wV hS hi hF h0
  ·obtain ⟨L, uw⟩ : ∃ L, L = (F.iq rk p).kids i := ⟨_, rfl⟩
   have nD : L.Perm (F.kids i) := by rw [uw]; exact F.gP rk p i
   have hlen : L.length = (F.kids i).length := nD.length_eq
   have fA := hS.len i hi
   have D5 : 0 < L.length := by rw [hlen]; exact List.length_pos_iff.2 h0
   have hown := hF.own i hi
   rw [← uw] at hown
   obtain ⟨q, cap, hv, hq⟩ := hown.form (n := L.length) (by simp)
   obtain ⟨g, rfl⟩ : ∃ g, q = some ⟨g, 0, none⟩ := by
    rcases hq with rfl | h
    ·obtain ⟨_, h | ⟨g, _, _, h, _⟩⟩ := hown
     ·have := h.2; rw [List.length_map] at this; omega
     ·rw [hv] at h; cases h
    ·exact h
   have hkc := hF.qo hi
   rw [hv] at hkc
   have hsz := hF.lt hi
   have Gx : ∀ c ∈ L, c < n ∧ rk c < rk i := fun c hc => hS.wf.kid i hi c (nD.mem_iff.1 hc)
   have HW : Hid (KW n base A kv F rk p L w ((w.alloc (.map #[] 0)).alloc (.cells #[.map (some w.heap.size)] 245)) w.heap.size (w.heap.size + 1) 0) := by
    have hu : Up w ((w.alloc (.map #[] 0)).alloc (.cells #[.map (some w.heap.size)] 245)) := (Up.alloc _ _).trans (Up.alloc _ _)
    refine ⟨(hF.up hu).D3 fun j _ => by simp [pK], ⟨#[], 0, ?_, rfl⟩, ?_, kA.of_up hu⟩
    ·rw [blk_alloc_lt _ _ _ (by simp)]; exact blk_alloc_new _ _
    ·have h := aO (w.alloc (.map #[] 0)) #[.map (some w.heap.size)] 245 0
     rw [World.size_alloc] at h; exact h
   have dG := aa Gx
   have zT := aa nD
   have HLEN := aa hlen
   have HF := aa hF
   have HV := aa hv
   have X7 := aa hkc
   have dQ := aa uw
   have js := aa ih
   have HS := aa hS
   have hl2 : L.length ≤ 1000 := by omega
   have hmm := run_makeMap (P := Tryz.prog) 245 w
   have d1 : ((L.length : Int) == 0) = false := beq_eq_false_iff_ne.2 (by omega)
   clear hown hq hS ih hF Gx nD hlen hv h0 uw fA
   go_enter Tryz.func184, Tryz.ntmps184
   go_wp2_with fail
   generalize (w.alloc (.map #[] 0)).alloc (.cells #[.map (some w.heap.size)] 245) = w1 at *
   go_loopw [22] (fun i wr => ∃ k : Nat, k ≤ L.length ∧ i = .int .i64 k ∧ Hid (KW n base A kv F rk p L w wr w.heap.size (w.heap.size + 1) k)) (fun i _ => L.length - (intOf i).toNat)
   case atStart => exact ⟨0, Nat.zero_le _, rfl, HW⟩
   case round =>
    obtain ⟨k, hk, rfl, hO⟩ := hrel
    obtain ⟨wo, rfl⟩ : ∃ wo : World, wo = wr := ⟨_, rfl⟩
    by_cases hlt : k < L.length
    ·have hc : L[k]? = some L[k] := List.getElem?_eq_getElem hlt
     have jf := hO.out.box
     have dL := dG.out L[k] (List.getElem_mem hlt)
     have hrow := hO.out.fr.FH (j := k) (c := L[k]) hi HV.out (by rw [oF HS.out.wf hi dQ.out k]; exact hc)
     have gw := aa (js.out L[k] (pK F rk p L k) wo.drew dL.1 (by omega) hO.out.fr.drew)
     have HSTEP : Hid (∀ w2, bq base n A kv (F.iq rk fun j => pK F rk p L k j || bS F rk L[k] j) w2 → kA n A kv wo.drew w2 → w2.cell? ⟨w.heap.size + 1, 0, none⟩ = some (.map (some w.heap.size)) ∧ ∃ w3, (Instr.mapUpdate 245 (.map (some w.heap.size)) (.pointer (some ⟨A L[k], 0, none⟩)) (.string (fB F rk L[k]))).run Tryz.prog w2 = .ok () w3 ∧ KW n base A kv F rk p L w w3 w.heap.size (w.heap.size + 1) (k + 1)) :=
      fun w2 h2 hu => hO.out.step HF.out (Nat.lt_succ_self _) hc dL.1 (fun j hj => (dG.out j hj).1) (zT.out.symm.nodup_iff.1 (HS.out.nodup i hi)) h2 hu.VX
     clear hc dL
     generalize L[k] = c at *
     go_wp2_with fail
     refine dM (by kernel_rfl) 5 (fun w' => w'.cell? ⟨w.heap.size + 1, 0, none⟩ = some (.map (some w.heap.size))) jf (fun hS => ?_)
     simp only [List.size_toArray, List.length_cons, List.length_nil, Nat.reduceAdd, Array.replicate_succ, Array.replicate_zero, List.push_toArray, List.nil_append, List.cons_append]
     refine af.take (i := 0) (v := ?Ou) rfl (by kernel_rfl) (fun _ _ _ h => h) (by rfl) (fun w hSw => ?xV) hS ?Ov
     case xV =>
      (try dsimp only at hSw)
      go_simp
      try with_reducible rfl
     try simp only [Act.put, au, av, ax]
     refine af.take (i := 1) (v := ?Ow) rfl (by kernel_rfl) (fun _ _ _ h => h) (by rfl) (fun w hSw => ?xW) hS ?Ox
     case xW =>
      (try dsimp only at hSw)
      go_simp
      try with_reducible rfl
     try simp only [Act.put, au, av, ax]
     refine af.take (i := 2) (v := ?Oy) rfl (by kernel_rfl) (fun _ _ _ h => h) (by rfl) (fun w hSw => ?xX) hS ?Oz
     case xX =>
      (try dsimp only at hSw)
      go_simp
      try with_reducible rfl
     try simp only [Act.put, au, av, ax]
     refine af.step (i := 3) rfl (by kernel_rfl) (fun K' hK => ?_)
     go_simp
     refine gw.out.mono ?_
     rintro e w2 ⟨rfl, hF2, rR⟩
     obtain ⟨Gy, w3, hrun, hW3⟩ := HSTEP.out w2 hF2 rR
     have HW3 := aa hW3
     clear hF2 rR hW3
     refine hK.out _ _ (fun _ => Gy) (fun hS => ?_)
     replace hS := hS ⟨4, by decide, rfl⟩
     try simp only [au, av, ax]
     refine af.step (i := 4) rfl (by kernel_rfl) (fun K' hK => ?_)
     go_simp
     refine hK.out _ _ (aJ (by kernel_rfl)) (fun hS => ?_)
     refine af.done (by kernel_rfl) ?_
     go_wp2_with fail
     go_roundw
     case rel => exact ⟨k + 1, by omega, by go_num, HW3⟩
     case measure => simp [intOf]; omega
    ·obtain rfl : k = L.length := by omega
     have hkc := hO.out.fr.qo hi
     rw [HV.out] at hkc
     have BI := aa (J6 hO.out.fr (i := i) (g := g) (cap := cap) (f := fB F rk) (bx := w.heap.size + 1) (m0 := w.heap.size) (l := mK F rk A L L.length) hi (by rw [oF HS.out.wf hi dQ.out]; exact HV.out) (by rw [oF HS.out.wf hi dQ.out]; intro h; rw [h] at D5; exact Nat.lt_irrefl _ D5) (by rw [oF HS.out.wf hi dQ.out]; omega)
      (by rw [oF HS.out.wf hi dQ.out]; exact fun x hx y hy => HS.out.sep i hi x (zT.out.mem_iff.1 hx) y (zT.out.mem_iff.1 hy)) hO.out.box hO.out.map (fun e => by have := (HF.out.gu hi (b := g) (by rw [HV.out]; rfl)).2; omega) (fun e => by have := (HF.out.gu hi (b := g) (by rw [HV.out]; rfl)).2; omega)
      (by rw [oF HS.out.wf hi dQ.out]; intro c hc; unfold mK; rw [List.take_length]; exact D4 HF.out.inj (fun j hj => (dG.out j hj).1) (dG.out c hc).1 hc)
      (fun z hz => by
       obtain ⟨j, hj, rfl⟩ := List.mem_map.1 hz
       exact ⟨j, (dG.out j (List.mem_of_mem_take hj)).1, rfl⟩))
     rw [oF HS.out.wf hi dQ.out, HV.out] at BI
     go_wp2_with fail
     refine BI.out.mono ?_
     rintro e w2 ⟨rfl, hF2, rR⟩
     obtain ⟨k1, l1, hs1⟩ : ∃ k1 l1, cA (fB F rk) L = k1 :: l1 := by
      cases hs : cA (fB F rk) L with
      | nil => have h1 := (dU (fB F rk) L).length_eq; rw [hs] at h1; simp at h1; omega
      | cons k l => exact ⟨k, l, rfl⟩
     have hk1 : k1 ∈ L := (dU (fB F rk) L).mem_iff.1 (by rw [hs1]; simp)
     have hrow2 : w2.cell? ⟨g, 0, none⟩ = some (.pointer (some ⟨A k1, 0, none⟩)) := hF2.FH (i := i) (j := 0) (c := k1) hi HV.out (by show (upd _ i _ i)[0]? = _; rw [upd_same, hs1]; rfl)
     have hkc2 := hF2.qo hi
     rw [HV.out] at hkc2
     have Gy := rR.cell HF.out (p := ⟨w.heap.size + 1, 0, none⟩) (Nat.le_succ _) hO.out.box
     have X8 := rR.pmap HF.out (Nat.le_refl _) hO.out.map
     have hlk : ∀ q, (Instr.lookup 245 (.map (some w.heap.size)) (.pointer (some ⟨A k1, 0, none⟩)) false).run Tryz.prog (w2.drewN q) = .ok (.string (fB F rk k1)) (w2.drewN q) := fun q =>
      vG (P := Tryz.prog) (w := w2.drewN q) Tryz.underlying245 Tryz.underlying119 Tryz.rN X8 (k := some (A k1)) (hF2.plain (dG.out k1 hk1).1) (fun z hz => by
       obtain ⟨j, hj, rfl⟩ := List.mem_map.1 hz
       exact hF2.plain (dG.out j (List.mem_of_mem_take hj)).1) (by unfold mK; rw [List.take_length]; exact D4 HF.out.inj (fun j hj => (dG.out j hj).1) (dG.out k1 hk1).1 hk1)
     have OC : Hid (fB F rk i = fB F rk k1) := by
      unfold Hid
      rw [rM HS.out.wf hi, ← wU zT.out (fun x hx y hy => HS.out.sep i hi x (zT.out.mem_iff.1 hx) y (zT.out.mem_iff.1 hy)), hs1]
     have mQ : Hid (bq base n A kv (F.iq rk fun j => p j || bS F rk i j) w2) := hF2.congr fun j hj => by
      refine ⟨rfl, rfl, ?_⟩
      show (if (p j || bS F rk i j) then _ else _) = upd _ i _ j
      by_cases e : j = i
      ·subst e
       rw [upd_same, if_pos (by rw [gG HS.out.wf hi]; simp)]
       exact (wU zT.out (fun x hx y hy => HS.out.sep j hi x (zT.out.mem_iff.1 hx) y (zT.out.mem_iff.1 hy))).symm
      ·rw [upd_ne _ _ e]
       have : pK F rk p L L.length j = (p j || bS F rk i j) := by
        unfold pK
        rw [List.take_length, gG HS.out.wf hi]
        have e2 : (j == i) = false := by simpa using e
        rw [e2, Bool.false_or, zT.out.any_eq]
       show _ = if pK F rk p L L.length j then _ else _
       rw [this]
     have wW := aa (hO.out.up.trans rR)
     have i0 : (0 : Int) < (L.length : Int) := by omega
     clear hF2 rR hs1 hk1 X8 BI hO
     go_wp2_with fail
     go_quiet (fail)
     go_wp2_with fail
     go_ret
     exact ⟨by rw [OC.out]; rfl, mQ.out.same (fun _ _ => rfl) (fun _ _ _ _ => rfl), ⟨wW.out.os, wW.out.tape, wW.out.output, wW.out.size, wW.out.block⟩⟩
end Go.Proofs.YthgabkgmkolobaaGreat
