/- The contract of phylotree.sorted. Contracts: Index, Contains, IndexFunc, ContainsFunc .. -/
import Derived.Test.YteegefnjnikngaaGreatQ1
import Derived.Test.YteegefnjnikngaaGreatQ13
import Derived.Test.YteegefnjnikngaaGreatQ11
import Derived.Test.YteegefnjnikngaaGreatQ6
import Derived.Deep.RegionWith
import Derived.Deep.RegionHeld
set_option maxRecDepth 100000
namespace Go.Proofs.YteegefnjnikngaaGreat
section
open Go.RowKit Go.Deep
theorem run_makeMap {P : Program} (T : TypeId) (w : World) : (Instr.makeMap T none).run P w = .ok (.map (some w.heap.size)) (w.alloc (.map #[] 0)) := by
 rfl
structure wA (F : aP) (n : Nat) (rk : Nat → Nat) : Prop where
 wf : Wf F n rk
 sep : ∀ i, i < n → Sep (fD F rk) (F.kids i)
 nodup : ∀ i, i < n → (F.kids i).Nodup
 len : ∀ i, i < n → (F.kids i).length ≤ 1000
theorem nE {F : aP} {n : Nat} {rk : Nat → Nat} (h : Wf F n rk) : ∀ {d i j : Nat}, i < n → subD F d i j = true → rk j ≤ rk i := by
 intro d
 induction d with
 | zero => intro i j _ hs; simp [subD] at hs; subst hs; exact Nat.le_refl _
 | succ d ih =>
  intro i j hi hs
  simp only [subD, Bool.or_eq_true, beq_iff_eq, List.any_eq_true] at hs
  rcases hs with rfl | ⟨k, hk, h1⟩
  ·exact Nat.le_refl _
  ·have := h.kid i hi k hk
   have := ih this.1 h1; omega
theorem o9 {F : aP} {n : Nat} {rk : Nat → Nat} (h : Wf F n rk) {i k : Nat} (hi : i < n) (hk : k ∈ F.kids i) : aM F rk k i = false := by
 cases hs : aM F rk k i with
 | false => rfl
 | true =>
  have h1 := h.kid i hi k hk
  have := nE h h1.1 hs; omega
def Pk (n base : Nat) (A : Nat → Nat) (kv : Nat → Value) (F : aP) (rk : Nat → Nat) (p : Nat → Bool) (i : Nat) (w : World) (e : Ending) (w' : World) : Prop :=
 e = .returned (.string (fD F rk i)) ∧ aS base n A kv (F.fU rk fun j => p j || aM F rk i j) w' ∧ gL n A kv w w'
def pK (F : aP) (rk : Nat → Nat) (p : Nat → Bool) (L : List Nat) (k j : Nat) : Bool := p j || (L.take k).any fun c => aM F rk c j
def mK (F : aP) (rk : Nat → Nat) (A : Nat → Nat) (L : List Nat) (k : Nat) : List (Option Nat × Value) := (L.take k).map fun j => (some (A j), .string (fD F rk j))
structure La (n base : Nat) (A : Nat → Nat) (kv : Nat → Value) (F : aP) (rk : Nat → Nat) (p : Nat → Bool) (L : List Nat) (w wr : World) (m0 bx k : Nat) : Prop where
 fr : aS base n A kv (F.fU rk (pK F rk p L k)) wr
 map : jB wr m0 (mK F rk A L k)
 box : wr.cell? ⟨bx, 0, none⟩ = some (.map (some m0))
 up : gL n A kv w wr
theorem V8 (F : aP) (rk : Nat → Nat) (p : Nat → Bool) (L : List Nat) {k c : Nat} (hc : L[k]? = some c) (j : Nat) : pK F rk p L (k + 1) j = (pK F rk p L k j || aM F rk c j) := by
 unfold pK
 rw [List.take_add_one, hc]
 simp [Bool.or_assoc]
theorem V9 (F : aP) (rk : Nat → Nat) (A : Nat → Nat) (L : List Nat) {k c : Nat} (hc : L[k]? = some c) : mK F rk A L (k + 1) = mK F rk A L k ++ [(some (A c), .string (fD F rk c))] := by
 unfold mK
 rw [List.take_add_one, hc]
 simp
theorem aS.EA {base n : Nat} {A : Nat → Nat} {kv : Nat → Value} {F : aP} {rk : Nat → Nat} {p q : Nat → Bool} {w : World} (h : aS base n A kv (F.fU rk p) w) (e : ∀ j, j < n → q j = p j) : aS base n A kv (F.fU rk q) w :=
 h.congr fun j hj => ⟨rfl, rfl, by show (if q j then _ else _) = (if p j then _ else _); rw [e j hj]⟩
theorem EB {F : aP} {rk : Nat → Nat} {A : Nat → Nat} {n : Nat} (hinj : ∀ i j, i < n → j < n → A i = A j → i = j) : ∀ {l : List Nat} {c : Nat}, (∀ j ∈ l, j < n) → c < n → c ∈ l → (l.map fun j => (some (A j), Value.string (fD F rk j))).lookup (some (A c)) = some (.string (fD F rk c)) := by
 intro l
 induction l with
 | nil => intro c _ _ h; cases h
 | cons x l ih =>
  intro c hl hc h
  rw [List.map_cons, List.lookup_cons]
  by_cases e : x = c
  ·subst e; simp
  ·have hne : (some (A c) == some (A x)) = false := by
    simp only [beq_eq_false_iff_ne, ne_eq, Option.some.injEq]
    exact fun e2 => e (hinj x c (hl x (by simp)) hc e2.symm)
   rw [hne]
   exact ih (fun j hj => hl j (by simp [hj])) hc (by rcases List.mem_cons.1 h with h | h; exact absurd h.symm e; exact h)
theorem KA {F : aP} {rk : Nat → Nat} {A : Nat → Nat} {n : Nat} (hinj : ∀ i j, i < n → j < n → A i = A j → i = j) : ∀ {l : List Nat} {c : Nat}, (∀ j ∈ l, j < n) → c < n → c ∉ l → (l.map fun j => (some (A j), Value.string (fD F rk j))).lookup (some (A c)) = none := by
 intro l
 induction l with
 | nil => intro c _ _ _; rfl
 | cons x l ih =>
  intro c hl hc h
  rw [List.map_cons, List.lookup_cons]
  have hne : (some (A c) == some (A x)) = false := by
   simp only [beq_eq_false_iff_ne, ne_eq, Option.some.injEq]
   exact fun e2 => h (by rw [hinj c x hc (hl x (by simp)) e2]; simp)
  rw [hne]
  exact ih (fun j hj => hl j (by simp [hj])) hc (fun h2 => h (by simp [h2]))
theorem gL.cell {n base : Nat} {A : Nat → Nat} {kv : Nat → Value} {F : aP} {w a b : World} (h : gL n A kv a b) (hF : aS base n A kv F w) {p : Addr} {v : Value} (hp : w.heap.size ≤ p.block) (hc : a.cell? p = some v) : b.cell? p = some v := by
 have hl : p.block < a.heap.size := World.block_lt_of_cell? a _ hc
 rw [World.cell?_of_block (a := p) (h.block p.block hl (fun i hi e => by have := hF.lt hi; omega) (fun i hi e => by have := (hF.ep hi e).2; omega))]
 exact hc
theorem gL.pmap {n base : Nat} {A : Nat → Nat} {kv : Nat → Value} {F : aP} {w a b : World} (h : gL n A kv a b) (hF : aS base n A kv F w) {m : Nat} {l : List (Option Nat × Value)} (hp : w.heap.size ≤ m) (hc : jB a m l) : jB b m l :=
 hc.of_block (h.block m hc.lt (fun i hi e => by have := hF.lt hi; omega) (fun i hi e => by have := (hF.ep hi e).2; omega))
theorem aS.wC {base n : Nat} {A : Nat → Nat} {kv : Nat → Value} {F : aP} {w : World} (h : aS base n A kv F w) {i g cap m j c : Nat} (hi : i < n) (hv : kv i = .slice (some ⟨g, 0, none⟩) m cap) (hj : (F.kids i)[j]? = some c) : w.cell? ⟨g, j, none⟩ = some (.pointer (some ⟨A c, 0, none⟩)) := by
 have hown := h.own i hi
 rw [hv] at hown
 obtain ⟨q, c', e, _, H⟩ := hown.AJ.open
 injection e with e1
 subst e1
 have hl : j < (F.kids i).length := (List.getElem?_eq_some_iff.1 hj).1
 obtain ⟨b, off, e, hc⟩ := H j (by simpa using hl)
 injection e with e
 injection e with e1 e2
 subst e1; subst e2
 rw [Nat.zero_add] at hc
 rw [hc]
 simp [List.getD_eq_getElem?_getD, hj, aL]
theorem YJ {F : aP} {n : Nat} {rk : Nat → Nat} (h : Wf F n rk) {p : Nat → Bool} {i : Nat} {L : List Nat} (hi : i < n) (hL : ∀ c ∈ L, c ∈ F.kids i) (k : Nat) : pK F rk p L k i = p i := by
 unfold pK
 have : ((L.take k).any fun c => aM F rk c i) = false := by
  rw [List.any_eq_false]
  intro c hc
  rw [o9 h hi (hL c (List.mem_of_mem_take hc))]; simp
 rw [this, Bool.or_false]
theorem pg {n : Nat} {F : aP} {rk : Nat → Nat} {p : Nat → Bool} {L : List Nat} {i : Nat} (hS : Wf F n rk) (hi : i < n) (hL : L = (F.fU rk p).kids i) (k : Nat) : (F.fU rk (pK F rk p L k)).kids i = L := by
 have hm : ∀ c ∈ L, c ∈ F.kids i := fun c hc => by rw [hL] at hc; exact (F.gI rk p i).mem_iff.1 hc
 show (if pK F rk p L k i then _ else _) = L
 rw [YJ hS hi hm, hL]; rfl
theorem aS.drew {base n : Nat} {A : Nat → Nat} {kv : Nat → Value} {F : aP} {w : World} (h : aS base n A kv F w) : aS base n A kv F w.drew := h.same (fun _ _ => rfl) (fun _ _ _ _ => rfl)
theorem gL.Lb {n : Nat} {A : Nat → Nat} {kv : Nat → Value} {a b : World} (h : gL n A kv a.drew b) : gL n A kv a b := ⟨h.os, h.tape, h.output, h.size, h.block⟩
theorem La.step {n base : Nat} {A : Nat → Nat} {kv : Nat → Value} {F : aP} {rk : Nat → Nat} {p : Nat → Bool} {L : List Nat} {w wo w2 : World} {bx k c : Nat} (h : La n base A kv F rk p L w wo w.heap.size bx k) (hF : aS base n A kv (F.fU rk p) w) (kj : w.heap.size < bx)
  (hc : L[k]? = some c) (cD : c < n) (Ho : ∀ j ∈ L, j < n) (fk : L.Nodup) (h2 : aS base n A kv (F.fU rk fun j => pK F rk p L k j || aM F rk c j) w2) (hu : gL n A kv wo w2) :
  w2.cell? ⟨bx, 0, none⟩ = some (.map (some w.heap.size)) ∧ ∃ w3, (Instr.mapUpdate 226 (.map (some w.heap.size)) (.pointer (some ⟨A c, 0, none⟩)) (.string (fD F rk c))).run Tryz.prog w2 = .ok () w3 ∧ La n base A kv F rk p L w w3 w.heap.size bx (k + 1) := by
 have jD := hu.cell hF (p := ⟨bx, 0, none⟩) (Nat.le_of_lt kj) h.box
 have hmap := hu.pmap hF (Nat.le_refl _) h.map
 have hkeys : ∀ z ∈ mK F rk A L k, gm w2 z.1 := fun z hz => by
  obtain ⟨j, hj, rfl⟩ := List.mem_map.1 hz
  exact h2.plain (Ho j (List.mem_of_mem_take hj))
 have hno : c ∉ L.take k := fun hm => by
  obtain ⟨j, hj, e⟩ := List.getElem_of_mem hm
  rw [List.getElem_take] at e
  have hjk : j < k := by rw [List.length_take] at hj; omega
  have dY := (List.getElem?_eq_some_iff.1 hc)
  obtain ⟨dY, e2⟩ := dY
  have := (List.getElem_inj fk).1 (e.trans e2.symm); omega
 obtain ⟨w3, hr, hm3, hs3, yg, ht3, hou3, hb3⟩ := GX (P := Tryz.prog) Tryz.underlying226 Tryz.underlying124 Tryz.sK hmap (k := some (A c)) (.string (fD F rk c)) (h2.plain cD) hkeys (KA hF.inj (fun j hj => Ho j (List.mem_of_mem_take hj)) cD hno)
 refine ⟨jD, w3, hr, ?_, ?_, ?_, ?_⟩
 ·have h3 : aS base n A kv (F.fU rk fun j => pK F rk p L k j || aM F rk c j) w3 := h2.same (fun j hj => hb3 _ (by have := hF.lt hj; omega)) (fun j b hj hb => hb3 _ (by have := (hF.ep hj hb).2; omega))
  exact h3.EA fun j _ => V8 F rk p L hc j
 ·rw [V9 F rk A L hc]; exact hm3
 ·rw [World.cell?_of_block (a := ⟨bx, 0, none⟩) (hb3 bx (by omega))]; exact jD
 ·have hk := h.up.trans hu
  exact ⟨yg.trans hk.os, ht3.trans hk.tape, hou3.trans hk.output, Nat.le_trans hk.size (Nat.le_of_eq hs3.symm), fun b hb h4 h5 => (hb3 b (by omega)).trans (hk.block b hb h4 h5)⟩
set_option maxHeartbeats 800000 in
theorem xE {n base : Nat} {A : Nat → Nat} {kv : Nat → Value} {F : aP} {rk : Nat → Nat} (hS : wA F n rk) {i : Nat} {p : Nat → Bool} {w : World} (hi : i < n) (hF : aS base n A kv (F.fU rk p) w) (h0 : F.kids i = []) :
  Calls Tryz.prog 163 #[.pointer (some ⟨A i, 0, none⟩)] w (Pk n base A kv F rk p i w) := by
 have nY := F.gI rk p i
 have hL : (F.fU rk p).kids i = [] := List.perm_nil.1 (by rw [h0] at nY; exact nY)
 have hown := hF.own i hi
 rw [hL] at hown
 obtain ⟨q, cap, hv, _⟩ := hown.form (n := 0) rfl
 have hkc := hF.je hi
 have hnc : w.cell? ⟨A i, 0, none⟩ = some (.string (F.nm i)) := hF.name hi
 rw [hv] at hkc
 have HL : Hid (fD F rk i = F.nm i) := by unfold Hid; rw [sJ hS.wf hi, h0]; simp [cH]
 have qZ : Hid (aS base n A kv (F.fU rk fun j => p j || aM F rk i j) w) := hF.congr fun j hj => by
  refine ⟨rfl, rfl, ?_⟩
  by_cases e : j = i
  ·subst e; rw [hL]; show (if _ then _ else _) = _; rw [h0]; split <;> simp [cH]
  ·show (if _ then _ else _) = (if _ then _ else _)
   have : aM F rk i j = false := by rw [fh hS.wf hi, h0]; simpa using e
   simp only [this, Bool.or_false]
 clear hF hS nY hL hown hv h0
 generalize hap : A i = ai at *
 generalize F.nm i = nm at *
 clear hap
 go_enter Tryz.func163, Tryz.ntmps163
 go_wp2_with fail
 go_ret
 exact ⟨by rw [HL.out]; rfl, qZ.out, gL.refl _ _ _ _⟩
set_option maxHeartbeats 4000000 in
theorem Hp {n base : Nat} {A : Nat → Nat} {kv : Nat → Value} {F : aP} {rk : Nat → Nat} (hS : wA F n rk) : ∀ (d i : Nat) (p : Nat → Bool) (w : World), i < n → rk i ≤ d → aS base n A kv (F.fU rk p) w →
  Calls Tryz.prog 163 #[.pointer (some ⟨A i, 0, none⟩)] w (Pk n base A kv F rk p i w) := by
 intro d
 induction d with
 | zero =>
  intro i p w hi zW hF
  refine xE hS hi hF ?_
  cases hk : F.kids i with
  | nil => rfl
  | cons k l => have := (hS.wf.kid i hi k (by rw [hk]; simp)).2; omega
 | succ d ih =>
  intro i p w hi zW hF
  by_cases h0 : F.kids i = []
  ·exact xE hS hi hF h0
  ·obtain ⟨L, iw⟩ : ∃ L, L = (F.fU rk p).kids i := ⟨_, rfl⟩
   have nY : L.Perm (F.kids i) := by rw [iw]; exact F.gI rk p i
   have hlen : L.length = (F.kids i).length := nY.length_eq
   have gK := hS.len i hi
   have yj : 0 < L.length := by rw [hlen]; exact List.length_pos_iff.2 h0
   have hown := hF.own i hi
   rw [← iw] at hown
   obtain ⟨q, cap, hv, hq⟩ := hown.form (n := L.length) (by simp)
   obtain ⟨g, rfl⟩ : ∃ g, q = some ⟨g, 0, none⟩ := by
    rcases hq with rfl | h
    ·obtain ⟨_, h | ⟨g, _, _, h, _⟩⟩ := hown
     ·have := h.2; rw [List.length_map] at this; omega
     ·rw [hv] at h; cases h
    ·exact h
   have hkc := hF.je hi
   rw [hv] at hkc
   have hsz := hF.lt hi
   have Ho : ∀ c ∈ L, c < n ∧ rk c < rk i := fun c hc => hS.wf.kid i hi c (nY.mem_iff.1 hc)
   have HW : Hid (La n base A kv F rk p L w ((w.alloc (.map #[] 0)).alloc (.cells #[.map (some w.heap.size)] 226)) w.heap.size (w.heap.size + 1) 0) := by
    have hu : Up w ((w.alloc (.map #[] 0)).alloc (.cells #[.map (some w.heap.size)] 226)) := (Up.alloc _ _).trans (Up.alloc _ _)
    refine ⟨(hF.up hu).EA fun j _ => by simp [pK], ⟨#[], 0, ?_, rfl⟩, ?_, gL.MQ hu⟩
    ·rw [blk_alloc_lt _ _ _ (by simp)]; exact blk_alloc_new _ _
    ·have h := aT (w.alloc (.map #[] 0)) #[.map (some w.heap.size)] 226 0
     rw [World.size_alloc] at h; exact h
   have eT := aa Ho
   have z7 := aa nY
   have HLEN := aa hlen
   have HF := aa hF
   have HV := aa hv
   have YK := aa hkc
   have dF := aa iw
   have iG := aa ih
   have HS := aa hS
   have hl2 : L.length ≤ 1000 := by omega
   have hmm := run_makeMap (P := Tryz.prog) 226 w
   have d1 : ((L.length : Int) == 0) = false := beq_eq_false_iff_ne.2 (by omega)
   clear hown hq hS ih hF Ho nY hlen hv h0 iw gK
   go_enter Tryz.func163, Tryz.ntmps163
   go_wp2_with fail
   generalize (w.alloc (.map #[] 0)).alloc (.cells #[.map (some w.heap.size)] 226) = w1 at *
   go_loopw [22] (fun i wr => ∃ k : Nat, k ≤ L.length ∧ i = .int .i64 k ∧ Hid (La n base A kv F rk p L w wr w.heap.size (w.heap.size + 1) k)) (fun i _ => L.length - (intOf i).toNat)
   case atStart => exact ⟨0, Nat.zero_le _, rfl, HW⟩
   case round =>
    obtain ⟨k, hk, rfl, hO⟩ := hrel
    obtain ⟨wo, rfl⟩ : ∃ wo : World, wo = wr := ⟨_, rfl⟩
    by_cases hlt : k < L.length
    ·have hc : L[k]? = some L[k] := List.getElem?_eq_getElem hlt
     have jD := hO.out.box
     have cD := eT.out L[k] (List.getElem_mem hlt)
     have hrow := hO.out.fr.wC (j := k) (c := L[k]) hi HV.out (by rw [pg HS.out.wf hi dF.out k]; exact hc)
     have dO := aa (iG.out L[k] (pK F rk p L k) wo.drew cD.1 (by omega) hO.out.fr.drew)
     have HSTEP : Hid (∀ w2, aS base n A kv (F.fU rk fun j => pK F rk p L k j || aM F rk L[k] j) w2 → gL n A kv wo.drew w2 → w2.cell? ⟨w.heap.size + 1, 0, none⟩ = some (.map (some w.heap.size)) ∧ ∃ w3, (Instr.mapUpdate 226 (.map (some w.heap.size)) (.pointer (some ⟨A L[k], 0, none⟩)) (.string (fD F rk L[k]))).run Tryz.prog w2 = .ok () w3 ∧ La n base A kv F rk p L w w3 w.heap.size (w.heap.size + 1) (k + 1)) :=
      fun w2 h2 hu => hO.out.step HF.out (Nat.lt_succ_self _) hc cD.1 (fun j hj => (eT.out j hj).1) (z7.out.symm.nodup_iff.1 (HS.out.nodup i hi)) h2 hu.Lb
     clear hc cD
     generalize L[k] = c at *
     go_wp2_with fail
     refine cU (by kernel_rfl) 5 (fun w' => w'.cell? ⟨w.heap.size + 1, 0, none⟩ = some (.map (some w.heap.size))) jD (fun hS => ?_)
     simp only [List.size_toArray, List.length_cons, List.length_nil, Nat.reduceAdd, Array.replicate_succ, Array.replicate_zero, List.push_toArray, List.nil_append, List.cons_append]
     refine af.take (i := 0) (v := ?OX) rfl (by kernel_rfl) (fun _ _ _ h => h) (by rfl) (fun w hSw => ?yu) hS ?OY
     case yu =>
      (try dsimp only at hSw)
      go_simp
      try with_reducible rfl
     try simp only [Act.put, aq, ah, au]
     refine af.take (i := 1) (v := ?OZ) rfl (by kernel_rfl) (fun _ _ _ h => h) (by rfl) (fun w hSw => ?yw) hS ?O0
     case yw =>
      (try dsimp only at hSw)
      go_simp
      try with_reducible rfl
     try simp only [Act.put, aq, ah, au]
     refine af.take (i := 2) (v := ?O1) rfl (by kernel_rfl) (fun _ _ _ h => h) (by rfl) (fun w hSw => ?yx) hS ?O2
     case yx =>
      (try dsimp only at hSw)
      go_simp
      try with_reducible rfl
     try simp only [Act.put, aq, ah, au]
     refine af.step (i := 3) rfl (by kernel_rfl) (fun K' hK => ?_)
     go_simp
     refine dO.out.mono ?_
     rintro e w2 ⟨rfl, hF2, iU⟩
     obtain ⟨YL, w3, hrun, hW3⟩ := HSTEP.out w2 hF2 iU
     have HW3 := aa hW3
     clear hF2 iU hW3
     refine hK.out _ _ (fun _ => YL) (fun hS => ?_)
     replace hS := hS ⟨4, by decide, rfl⟩
     try simp only [aq, ah, au]
     refine af.step (i := 4) rfl (by kernel_rfl) (fun K' hK => ?_)
     go_simp
     refine hK.out _ _ (aJ (by kernel_rfl)) (fun hS => ?_)
     refine af.done (by kernel_rfl) ?_
     go_wp2_with fail
     go_roundw
     case rel => exact ⟨k + 1, by omega, by go_num, HW3⟩
     case measure => simp [intOf]; omega
    ·obtain rfl : k = L.length := by omega
     have hkc := hO.out.fr.je hi
     rw [HV.out] at hkc
     have BO := aa (Kz hO.out.fr (i := i) (g := g) (cap := cap) (f := fD F rk) (bx := w.heap.size + 1) (m0 := w.heap.size) (l := mK F rk A L L.length) hi (by rw [pg HS.out.wf hi dF.out]; exact HV.out) (by rw [pg HS.out.wf hi dF.out]; intro h; rw [h] at yj; exact Nat.lt_irrefl _ yj) (by rw [pg HS.out.wf hi dF.out]; omega)
      (by rw [pg HS.out.wf hi dF.out]; exact fun x hx y hy => HS.out.sep i hi x (z7.out.mem_iff.1 hx) y (z7.out.mem_iff.1 hy)) hO.out.box hO.out.map (fun e => by have := (HF.out.ep hi (b := g) (by rw [HV.out]; rfl)).2; omega) (fun e => by have := (HF.out.ep hi (b := g) (by rw [HV.out]; rfl)).2; omega)
      (by rw [pg HS.out.wf hi dF.out]; intro c hc; unfold mK; rw [List.take_length]; exact EB HF.out.inj (fun j hj => (eT.out j hj).1) (eT.out c hc).1 hc)
      (fun z hz => by
       obtain ⟨j, hj, rfl⟩ := List.mem_map.1 hz
       exact ⟨j, (eT.out j (List.mem_of_mem_take hj)).1, rfl⟩))
     rw [pg HS.out.wf hi dF.out, HV.out] at BO
     go_wp2_with fail
     refine BO.out.mono ?_
     rintro e w2 ⟨rfl, hF2, iU⟩
     obtain ⟨k1, l1, hs1⟩ : ∃ k1 l1, cH (fD F rk) L = k1 :: l1 := by
      cases hs : cH (fD F rk) L with
      | nil => have h1 := (eu (fD F rk) L).length_eq; rw [hs] at h1; simp at h1; omega
      | cons k l => exact ⟨k, l, rfl⟩
     have hk1 : k1 ∈ L := (eu (fD F rk) L).mem_iff.1 (by rw [hs1]; simp)
     have hrow2 : w2.cell? ⟨g, 0, none⟩ = some (.pointer (some ⟨A k1, 0, none⟩)) := hF2.wC (i := i) (j := 0) (c := k1) hi HV.out (by show (upd _ i _ i)[0]? = _; rw [upd_same, hs1]; rfl)
     have hkc2 := hF2.je hi
     rw [HV.out] at hkc2
     have YL := iU.cell HF.out (p := ⟨w.heap.size + 1, 0, none⟩) (Nat.le_succ _) hO.out.box
     have YM := iU.pmap HF.out (Nat.le_refl _) hO.out.map
     have hlk : ∀ q, (Instr.lookup 226 (.map (some w.heap.size)) (.pointer (some ⟨A k1, 0, none⟩)) false).run Tryz.prog (w2.drewN q) = .ok (.string (fD F rk k1)) (w2.drewN q) := fun q =>
      wk (P := Tryz.prog) (w := w2.drewN q) Tryz.underlying226 Tryz.underlying124 Tryz.sK YM (k := some (A k1)) (hF2.plain (eT.out k1 hk1).1) (fun z hz => by
       obtain ⟨j, hj, rfl⟩ := List.mem_map.1 hz
       exact hF2.plain (eT.out j (List.mem_of_mem_take hj)).1) (by unfold mK; rw [List.take_length]; exact EB HF.out.inj (fun j hj => (eT.out j hj).1) (eT.out k1 hk1).1 hk1)
     have EC : Hid (fD F rk i = fD F rk k1) := by
      unfold Hid
      rw [sJ HS.out.wf hi, ← xA z7.out (fun x hx y hy => HS.out.sep i hi x (z7.out.mem_iff.1 hx) y (z7.out.mem_iff.1 hy)), hs1]
     have qZ : Hid (aS base n A kv (F.fU rk fun j => p j || aM F rk i j) w2) := hF2.congr fun j hj => by
      refine ⟨rfl, rfl, ?_⟩
      show (if (p j || aM F rk i j) then _ else _) = upd _ i _ j
      by_cases e : j = i
      ·subst e
       rw [upd_same, if_pos (by rw [fh HS.out.wf hi]; simp)]
       exact (xA z7.out (fun x hx y hy => HS.out.sep j hi x (z7.out.mem_iff.1 hx) y (z7.out.mem_iff.1 hy))).symm
      ·rw [upd_ne _ _ e]
       have : pK F rk p L L.length j = (p j || aM F rk i j) := by
        unfold pK
        rw [List.take_length, fh HS.out.wf hi]
        have e2 : (j == i) = false := by simpa using e
        rw [e2, Bool.false_or, z7.out.any_eq]
       show _ = if pK F rk p L L.length j then _ else _
       rw [this]
     have xF := aa (hO.out.up.trans iU)
     have i0 : (0 : Int) < (L.length : Int) := by omega
     clear hF2 iU hs1 hk1 YM BO hO
     go_wp2_with fail
     go_quiet (fail)
     go_wp2_with fail
     go_ret
     exact ⟨by rw [EC.out]; rfl, qZ.out.same (fun _ _ => rfl) (fun _ _ _ _ => rfl), ⟨xF.out.os, xF.out.tape, xF.out.output, xF.out.size, xF.out.block⟩⟩
end
section
open Go.RowKit Go.Shelf Go.Deep
section
attribute [local go_sem] Oper.semAt_some
end
end
section
open Go.RowKit Go.Deep
def Lc (w : World) (t : ax) (st : List Int) (cs : List (List Int)) (e : Ending) (w' : World) : Prop :=
 ∃ tb YN YO rq rc, e = .returned (.slice (some ⟨tb, YN, none⟩) t.ps.length YO) ∧ w'.cell? ⟨tb, YN, none⟩ = some (.slice rq cs.length rc) ∧ aB Any w' (.slice rq cs.length rc) (aV t st cs 0) ∧ Up w w'
theorem tb1 {w w' : World} {t : ax} {st : List Int} {cs : List (List Int)} {e : Ending} (hv : Valid t st cs) (h : BV w (nW t st cs) e w') : Lc w t st cs e w' := by
 obtain ⟨hb, v, rfl, hr⟩ := h
 have hp := (aH hv.tree).1
 obtain ⟨p, cap, rfl, _, H⟩ := fL hr
 obtain ⟨b, off, q, c, rfl, hc, hi⟩ := H 0 (by rw [GM]; exact hp)
 rw [V2 _ _ _ hp] at hc hi
 rw [gj] at hc hi
 rw [GM]
 exact ⟨b, off, cap, q, c, rfl, by rw [Nat.add_zero] at hc; exact hc, hi, hb⟩
end
end Go.Proofs.YteegefnjnikngaaGreat
