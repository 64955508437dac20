/- The contract of phylotree.sorted. -/
import Derived.Test.YtpnmblnahjjmhaaGreatQ1
import Derived.Test.YtpnmblnahjjmhaaGreatQ5
import Derived.Test.YtpnmblnahjjmhaaGreatQ6
set_option maxRecDepth 100000
namespace Go.Proofs.YtpnmblnahjjmhaaGreat
open Go.RowKit Go.Deep
theorem run_makeMap {P : Program} (T : TypeId) (w : World) : (Instr.makeMap T none).run P w = .ok (.map (some w.heap.size)) (w.alloc (.map #[] 0)) := by
 rfl
structure zZ (F : aT) (n : Nat) (rk : Nat → Nat) : Prop where
 wf : Wf F n rk
 sep : ∀ i, i < n → Sep (fA F rk) (F.kids i)
 nodup : ∀ i, i < n → (F.kids i).Nodup
 len : ∀ i, i < n → (F.kids i).length ≤ 1000
theorem mN {F : aT} {n : Nat} {rk : Nat → Nat} (h : Wf F n rk) : ∀ {d i j : Nat}, i < n → subD F d i j = true → rk j ≤ rk i := by
 intro d
 induction d with
 | zero => intro i j _ hs; simp [subD] at hs; subst hs; exact Nat.le_refl _
 | succ d ih =>
  intro i j hi hs
  simp only [subD, Bool.or_eq_true, beq_iff_eq, List.any_eq_true] at hs
  rcases hs with rfl | ⟨k, hk, h1⟩
  ·exact Nat.le_refl _
  ·have := h.kid i hi k hk
   have := ih this.1 h1; omega
theorem Rq {F : aT} {n : Nat} {rk : Nat → Nat} (h : Wf F n rk) {i k : Nat} (hi : i < n) (hk : k ∈ F.kids i) : bK F rk k i = false := by
 cases hs : bK F rk k i with
 | false => rfl
 | true =>
  have h1 := h.kid i hi k hk
  have := mN h h1.1 hs; omega
def N9 (n base : Nat) (A : Nat → Nat) (kv : Nat → Value) (F : aT) (rk : Nat → Nat) (p : Nat → Bool) (i : Nat) (w : World) (e : Ending) (w' : World) : Prop :=
 e = .returned (.string (fA F rk i)) ∧ bB base n A kv (F.gZ rk fun j => p j || bK F rk i j) w' ∧ jT n A kv w w'
def pK (F : aT) (rk : Nat → Nat) (p : Nat → Bool) (L : List Nat) (k j : Nat) : Bool := p j || (L.take k).any fun c => bK F rk c j
def mK (F : aT) (rk : Nat → Nat) (A : Nat → Nat) (L : List Nat) (k : Nat) : List (Option Nat × Value) := (L.take k).map fun j => (some (A j), .string (fA F rk j))
structure J5 (n base : Nat) (A : Nat → Nat) (kv : Nat → Value) (F : aT) (rk : Nat → Nat) (p : Nat → Bool) (L : List Nat) (w wr : World) (m0 bx k : Nat) : Prop where
 fr : bB base n A kv (F.gZ rk (pK F rk p L k)) wr
 map : jg wr m0 (mK F rk A L k)
 box : wr.cell? ⟨bx, 0, none⟩ = some (.map (some m0))
 up : jT n A kv w wr
theorem Vw (F : aT) (rk : Nat → Nat) (p : Nat → Bool) (L : List Nat) {k c : Nat} (hc : L[k]? = some c) (j : Nat) : pK F rk p L (k + 1) j = (pK F rk p L k j || bK F rk c j) := by
 unfold pK
 rw [List.take_add_one, hc]
 simp [Bool.or_assoc]
theorem Vx (F : aT) (rk : Nat → Nat) (A : Nat → Nat) (L : List Nat) {k c : Nat} (hc : L[k]? = some c) : mK F rk A L (k + 1) = mK F rk A L k ++ [(some (A c), .string (fA F rk c))] := by
 unfold mK
 rw [List.take_add_one, hc]
 simp
theorem bB.Dx {base n : Nat} {A : Nat → Nat} {kv : Nat → Value} {F : aT} {rk : Nat → Nat} {p q : Nat → Bool} {w : World} (h : bB base n A kv (F.gZ rk p) w) (e : ∀ j, j < n → q j = p j) : bB base n A kv (F.gZ rk q) w :=
 h.congr fun j hj => ⟨rfl, rfl, by show (if q j then _ else _) = (if p j then _ else _); rw [e j hj]⟩
theorem Dy {F : aT} {rk : Nat → Nat} {A : Nat → Nat} {n : Nat} (hinj : ∀ i j, i < n → j < n → A i = A j → i = j) : ∀ {l : List Nat} {c : Nat}, (∀ j ∈ l, j < n) → c < n → c ∈ l → (l.map fun j => (some (A j), Value.string (fA F rk j))).lookup (some (A c)) = some (.string (fA F rk c)) := by
 intro l
 induction l with
 | nil => intro c _ _ h; cases h
 | cons x l ih =>
  intro c hl hc h
  rw [List.map_cons, List.lookup_cons]
  by_cases e : x = c
  ·subst e; simp
  ·have hne : (some (A c) == some (A x)) = false := by
    simp only [beq_eq_false_iff_ne, ne_eq, Option.some.injEq]
    exact fun e2 => e (hinj x c (hl x (by simp)) hc e2.symm)
   rw [hne]
   exact ih (fun j hj => hl j (by simp [hj])) hc (by rcases List.mem_cons.1 h with h | h; exact absurd h.symm e; exact h)
theorem JA {F : aT} {rk : Nat → Nat} {A : Nat → Nat} {n : Nat} (hinj : ∀ i j, i < n → j < n → A i = A j → i = j) : ∀ {l : List Nat} {c : Nat}, (∀ j ∈ l, j < n) → c < n → c ∉ l → (l.map fun j => (some (A j), Value.string (fA F rk j))).lookup (some (A c)) = none := by
 intro l
 induction l with
 | nil => intro c _ _ _; rfl
 | cons x l ih =>
  intro c hl hc h
  rw [List.map_cons, List.lookup_cons]
  have hne : (some (A c) == some (A x)) = false := by
   simp only [beq_eq_false_iff_ne, ne_eq, Option.some.injEq]
   exact fun e2 => h (by rw [hinj c x hc (hl x (by simp)) e2]; simp)
  rw [hne]
  exact ih (fun j hj => hl j (by simp [hj])) hc (fun h2 => h (by simp [h2]))
theorem jT.cell {n base : Nat} {A : Nat → Nat} {kv : Nat → Value} {F : aT} {w a b : World} (h : jT n A kv a b) (hF : bB base n A kv F w) {p : Addr} {v : Value} (hp : w.heap.size ≤ p.block) (hc : a.cell? p = some v) : b.cell? p = some v := by
 have hl : p.block < a.heap.size := World.block_lt_of_cell? a _ hc
 rw [World.cell?_of_block (a := p) (h.block p.block hl (fun i hi e => by have := hF.lt hi; omega) (fun i hi e => by have := (hF.gL hi e).2; omega))]
 exact hc
theorem jT.pmap {n base : Nat} {A : Nat → Nat} {kv : Nat → Value} {F : aT} {w a b : World} (h : jT n A kv a b) (hF : bB base n A kv F w) {m : Nat} {l : List (Option Nat × Value)} (hp : w.heap.size ≤ m) (hc : jg a m l) : jg b m l :=
 hc.of_block (h.block m hc.lt (fun i hi e => by have := hF.lt hi; omega) (fun i hi e => by have := (hF.gL hi e).2; omega))
theorem bB.E9 {base n : Nat} {A : Nat → Nat} {kv : Nat → Value} {F : aT} {w : World} (h : bB base n A kv F w) {i g cap m j c : Nat} (hi : i < n) (hv : kv i = .slice (some ⟨g, 0, none⟩) m cap) (hj : (F.kids i)[j]? = some c) : w.cell? ⟨g, j, none⟩ = some (.pointer (some ⟨A c, 0, none⟩)) := by
 have hown := h.own i hi
 rw [hv] at hown
 obtain ⟨q, c', e, _, H⟩ := hown.qZ.open
 injection e with e1
 subst e1
 have hl : j < (F.kids i).length := (List.getElem?_eq_some_iff.1 hj).1
 obtain ⟨b, off, e, hc⟩ := H j (by simpa using hl)
 injection e with e
 injection e with e1 e2
 subst e1; subst e2
 rw [Nat.zero_add] at hc
 rw [hc]
 simp [List.getD_eq_getElem?_getD, hj, bC]
theorem WK {F : aT} {n : Nat} {rk : Nat → Nat} (h : Wf F n rk) {p : Nat → Bool} {i : Nat} {L : List Nat} (hi : i < n) (hL : ∀ c ∈ L, c ∈ F.kids i) (k : Nat) : pK F rk p L k i = p i := by
 unfold pK
 have : ((L.take k).any fun c => bK F rk c i) = false := by
  rw [List.any_eq_false]
  intro c hc
  rw [Rq h hi (hL c (List.mem_of_mem_take hc))]; simp
 rw [this, Bool.or_false]
theorem oA {n : Nat} {F : aT} {rk : Nat → Nat} {p : Nat → Bool} {L : List Nat} {i : Nat} (hS : Wf F n rk) (hi : i < n) (hL : L = (F.gZ rk p).kids i) (k : Nat) : (F.gZ rk (pK F rk p L k)).kids i = L := by
 have hm : ∀ c ∈ L, c ∈ F.kids i := fun c hc => by rw [hL] at hc; exact (F.ic rk p i).mem_iff.1 hc
 show (if pK F rk p L k i then _ else _) = L
 rw [WK hS hi hm, hL]; rfl
theorem bB.drew {base n : Nat} {A : Nat → Nat} {kv : Nat → Value} {F : aT} {w : World} (h : bB base n A kv F w) : bB base n A kv F w.drew := h.same (fun _ _ => rfl) (fun _ _ _ _ => rfl)
theorem jT.Vy {n : Nat} {A : Nat → Nat} {kv : Nat → Value} {a b : World} (h : jT n A kv a.drew b) : jT n A kv a b := ⟨h.os, h.tape, h.output, h.size, h.block⟩
theorem J5.step {n base : Nat} {A : Nat → Nat} {kv : Nat → Value} {F : aT} {rk : Nat → Nat} {p : Nat → Bool} {L : List Nat} {w wo w2 : World} {bx k c : Nat} (h : J5 n base A kv F rk p L w wo w.heap.size bx k) (hF : bB base n A kv (F.gZ rk p) w) (eZ : w.heap.size < bx)
  (hc : L[k]? = some c) (eH : c < n) (sL : ∀ j ∈ L, j < n) (dZ : L.Nodup) (h2 : bB base n A kv (F.gZ rk fun j => pK F rk p L k j || bK F rk c j) w2) (hu : jT n A kv wo w2) :
  w2.cell? ⟨bx, 0, none⟩ = some (.map (some w.heap.size)) ∧ ∃ w3, (Instr.mapUpdate 247 (.map (some w.heap.size)) (.pointer (some ⟨A c, 0, none⟩)) (.string (fA F rk c))).run Tryz.prog w2 = .ok () w3 ∧ J5 n base A kv F rk p L w w3 w.heap.size bx (k + 1) := by
 have fc := hu.cell hF (p := ⟨bx, 0, none⟩) (Nat.le_of_lt eZ) h.box
 have hmap := hu.pmap hF (Nat.le_refl _) h.map
 have hkeys : ∀ z ∈ mK F rk A L k, fV w2 z.1 := fun z hz => by
  obtain ⟨j, hj, rfl⟩ := List.mem_map.1 hz
  exact h2.plain (sL j (List.mem_of_mem_take hj))
 have hno : c ∉ L.take k := fun hm => by
  obtain ⟨j, hj, e⟩ := List.getElem_of_mem hm
  rw [List.getElem_take] at e
  have hjk : j < k := by rw [List.length_take] at hj; omega
  have iq := (List.getElem?_eq_some_iff.1 hc)
  obtain ⟨iq, e2⟩ := iq
  have := (List.getElem_inj dZ).1 (e.trans e2.symm); omega
 obtain ⟨w3, hr, hm3, hs3, wZ, ht3, hou3, hb3⟩ := Fw (P := Tryz.prog) Tryz.underlying247 Tryz.underlying137 Tryz.rz hmap (k := some (A c)) (.string (fA F rk c)) (h2.plain eH) hkeys (JA hF.inj (fun j hj => sL j (List.mem_of_mem_take hj)) eH hno)
 refine ⟨fc, w3, hr, ?_, ?_, ?_, ?_⟩
 ·have h3 : bB base n A kv (F.gZ rk fun j => pK F rk p L k j || bK F rk c j) w3 := h2.same (fun j hj => hb3 _ (by have := hF.lt hj; omega)) (fun j b hj hb => hb3 _ (by have := (hF.gL hj hb).2; omega))
  exact h3.Dx fun j _ => Vw F rk p L hc j
 ·rw [Vx F rk A L hc]; exact hm3
 ·rw [World.cell?_of_block (a := ⟨bx, 0, none⟩) (hb3 bx (by omega))]; exact fc
 ·have hk := h.up.trans hu
  exact ⟨wZ.trans hk.os, ht3.trans hk.tape, hou3.trans hk.output, Nat.le_trans hk.size (Nat.le_of_eq hs3.symm), fun b hb h4 h5 => (hb3 b (by omega)).trans (hk.block b hb h4 h5)⟩
set_option maxHeartbeats 800000 in
theorem vX {n base : Nat} {A : Nat → Nat} {kv : Nat → Value} {F : aT} {rk : Nat → Nat} (hS : zZ F n rk) {i : Nat} {p : Nat → Bool} {w : World} (hi : i < n) (hF : bB base n A kv (F.gZ rk p) w) (h0 : F.kids i = []) :
  Calls Tryz.prog 197 #[.pointer (some ⟨A i, 0, none⟩)] w (N9 n base A kv F rk p i w) := by
 have iB := F.ic rk p i
 have hL : (F.gZ rk p).kids i = [] := List.perm_nil.1 (by rw [h0] at iB; exact iB)
 have hown := hF.own i hi
 rw [hL] at hown
 obtain ⟨q, cap, hv, _⟩ := hown.form (n := 0) rfl
 have hkc := hF.pZ hi
 have hnc : w.cell? ⟨A i, 0, none⟩ = some (.string (F.nm i)) := hF.name hi
 rw [hv] at hkc
 have HL : Hid (fA F rk i = F.nm i) := by unfold Hid; rw [ry hS.wf hi, h0]; simp [cD]
 have WL : Hid (bB base n A kv (F.gZ rk fun j => p j || bK F rk i j) w) := hF.congr fun j hj => by
  refine ⟨rfl, rfl, ?_⟩
  by_cases e : j = i
  ·subst e; rw [hL]; show (if _ then _ else _) = _; rw [h0]; split <;> simp [cD]
  ·show (if _ then _ else _) = (if _ then _ else _)
   have : bK F rk i j = false := by rw [gX hS.wf hi, h0]; simpa using e
   simp only [this, Bool.or_false]
 clear hF hS iB hL hown hv h0
 generalize hap : A i = ai at *
 generalize F.nm i = nm at *
 clear hap
 go_enter Tryz.func197, Tryz.ntmps197
 go_wp2_with fail
 go_ret
 exact ⟨by rw [HL.out]; rfl, WL.out, jT.refl _ _ _ _⟩
set_option maxHeartbeats 4000000 in
theorem Rs {n base : Nat} {A : Nat → Nat} {kv : Nat → Value} {F : aT} {rk : Nat → Nat} (hS : zZ F n rk) : ∀ (d i : Nat) (p : Nat → Bool) (w : World), i < n → rk i ≤ d → bB base n A kv (F.gZ rk p) w →
  Calls Tryz.prog 197 #[.pointer (some ⟨A i, 0, none⟩)] w (N9 n base A kv F rk p i w) := by
 intro d
 induction d with
 | zero =>
  intro i p w hi WM hF
  refine vX hS hi hF ?_
  cases hk : F.kids i with
  | nil => rfl
  | cons k l => have := (hS.wf.kid i hi k (by rw [hk]; simp)).2; omega
 | succ d ih =>
  intro i p w hi WM hF
  by_cases h0 : F.kids i = []
  ·exact vX hS hi hF h0
  ·obtain ⟨L, uk⟩ : ∃ L, L = (F.gZ rk p).kids i := ⟨_, rfl⟩
   have iB : L.Perm (F.kids i) := by rw [uk]; exact F.ic rk p i
   have hlen : L.length = (F.kids i).length := iB.length_eq
   have pE := hS.len i hi
   have Dz : 0 < L.length := by rw [hlen]; exact List.length_pos_iff.2 h0
   have hown := hF.own i hi
   rw [← uk] at hown
   obtain ⟨q, cap, hv, hq⟩ := hown.form (n := L.length) (by simp)
   obtain ⟨g, rfl⟩ : ∃ g, q = some ⟨g, 0, none⟩ := by
    rcases hq with rfl | h
    ·obtain ⟨_, h | ⟨g, _, _, h, _⟩⟩ := hown
     ·have := h.2; rw [List.length_map] at this; omega
     ·rw [hv] at h; cases h
    ·exact h
   have hkc := hF.pZ hi
   rw [hv] at hkc
   have hsz := hF.lt hi
   have sL : ∀ c ∈ L, c < n ∧ rk c < rk i := fun c hc => hS.wf.kid i hi c (iB.mem_iff.1 hc)
   have HW : Hid (J5 n base A kv F rk p L w ((w.alloc (.map #[] 0)).alloc (.cells #[.map (some w.heap.size)] 247)) w.heap.size (w.heap.size + 1) 0) := by
    have hu : Up w ((w.alloc (.map #[] 0)).alloc (.cells #[.map (some w.heap.size)] 247)) := (Up.alloc _ _).trans (Up.alloc _ _)
    refine ⟨(hF.up hu).Dx fun j _ => by simp [pK], ⟨#[], 0, ?_, rfl⟩, ?_, jT.yI hu⟩
    ·rw [blk_alloc_lt _ _ _ (by simp)]; exact blk_alloc_new _ _
    ·have h := bf (w.alloc (.map #[] 0)) #[.map (some w.heap.size)] 247 0
     rw [World.size_alloc] at h; exact h
   have iD := aa sL
   have zm := aa iB
   have HLEN := aa hlen
   have HF := aa hF
   have HV := aa hv
   have WN := aa hkc
   have dr := aa uk
   have kr := aa ih
   have HS := aa hS
   have hl2 : L.length ≤ 1000 := by omega
   have hmm := run_makeMap (P := Tryz.prog) 247 w
   have d1 : ((L.length : Int) == 0) = false := beq_eq_false_iff_ne.2 (by omega)
   clear hown hq hS ih hF sL iB hlen hv h0 uk pE
   go_enter Tryz.func197, Tryz.ntmps197
   go_wp2_with fail
   generalize (w.alloc (.map #[] 0)).alloc (.cells #[.map (some w.heap.size)] 247) = w1 at *
   go_loopw [22] (fun i wr => ∃ k : Nat, k ≤ L.length ∧ i = .int .i64 k ∧ Hid (J5 n base A kv F rk p L w wr w.heap.size (w.heap.size + 1) k)) (fun i _ => L.length - (intOf i).toNat)
   case atStart => exact ⟨0, Nat.zero_le _, rfl, HW⟩
   case round =>
    obtain ⟨k, hk, rfl, hO⟩ := hrel
    obtain ⟨wo, rfl⟩ : ∃ wo : World, wo = wr := ⟨_, rfl⟩
    by_cases hlt : k < L.length
    ·have hc : L[k]? = some L[k] := List.getElem?_eq_getElem hlt
     have fc := hO.out.box
     have eH := iD.out L[k] (List.getElem_mem hlt)
     have hrow := hO.out.fr.E9 (j := k) (c := L[k]) hi HV.out (by rw [oA HS.out.wf hi dr.out k]; exact hc)
     have dO := aa (kr.out L[k] (pK F rk p L k) wo.drew eH.1 (by omega) hO.out.fr.drew)
     have HSTEP : Hid (∀ w2, bB base n A kv (F.gZ rk fun j => pK F rk p L k j || bK F rk L[k] j) w2 → jT n A kv wo.drew w2 → w2.cell? ⟨w.heap.size + 1, 0, none⟩ = some (.map (some w.heap.size)) ∧ ∃ w3, (Instr.mapUpdate 247 (.map (some w.heap.size)) (.pointer (some ⟨A L[k], 0, none⟩)) (.string (fA F rk L[k]))).run Tryz.prog w2 = .ok () w3 ∧ J5 n base A kv F rk p L w w3 w.heap.size (w.heap.size + 1) (k + 1)) :=
      fun w2 h2 hu => hO.out.step HF.out (Nat.lt_succ_self _) hc eH.1 (fun j hj => (iD.out j hj).1) (zm.out.symm.nodup_iff.1 (HS.out.nodup i hi)) h2 hu.Vy
     clear hc eH
     generalize L[k] = c at *
     go_wp2_with fail
     refine dK (by kernel_rfl) 5 (fun w' => w'.cell? ⟨w.heap.size + 1, 0, none⟩ = some (.map (some w.heap.size))) fc (fun hS => ?_)
     simp only [List.size_toArray, List.length_cons, List.length_nil, Nat.reduceAdd, Array.replicate_succ, Array.replicate_zero, List.push_toArray, List.nil_append, List.cons_append]
     refine ag.take (i := 0) (v := ?Dr) rfl (by kernel_rfl) (fun _ _ _ h => h) (by rfl) (fun w hSw => ?pF) hS ?Ds
     case pF =>
      (try dsimp only at hSw)
      go_simp
      try with_reducible rfl
     try simp only [Act.put, aj, aq, au]
     refine ag.take (i := 1) (v := ?Dt) rfl (by kernel_rfl) (fun _ _ _ h => h) (by rfl) (fun w hSw => ?pG) hS ?Du
     case pG =>
      (try dsimp only at hSw)
      go_simp
      try with_reducible rfl
     try simp only [Act.put, aj, aq, au]
     refine ag.take (i := 2) (v := ?Dv) rfl (by kernel_rfl) (fun _ _ _ h => h) (by rfl) (fun w hSw => ?pH) hS ?Dw
     case pH =>
      (try dsimp only at hSw)
      go_simp
      try with_reducible rfl
     try simp only [Act.put, aj, aq, au]
     refine ag.step (i := 3) rfl (by kernel_rfl) (fun K' hK => ?_)
     go_simp
     refine dO.out.mono ?_
     rintro e w2 ⟨rfl, hF2, jK⟩
     obtain ⟨WO, w3, hrun, hW3⟩ := HSTEP.out w2 hF2 jK
     have HW3 := aa hW3
     clear hF2 jK hW3
     refine hK.out _ _ (fun _ => WO) (fun hS => ?_)
     replace hS := hS ⟨4, by decide, rfl⟩
     try simp only [aj, aq, au]
     refine ag.step (i := 4) rfl (by kernel_rfl) (fun K' hK => ?_)
     go_simp
     refine hK.out _ _ (aP (by kernel_rfl)) (fun hS => ?_)
     refine ag.done (by kernel_rfl) ?_
     go_wp2_with fail
     go_roundw
     case rel => exact ⟨k + 1, by omega, by go_num, HW3⟩
     case measure => simp [intOf]; omega
    ·obtain rfl : k = L.length := by omega
     have hkc := hO.out.fr.pZ hi
     rw [HV.out] at hkc
     have Oa := aa (Jz hO.out.fr (i := i) (g := g) (cap := cap) (f := fA F rk) (bx := w.heap.size + 1) (m0 := w.heap.size) (l := mK F rk A L L.length) hi (by rw [oA HS.out.wf hi dr.out]; exact HV.out) (by rw [oA HS.out.wf hi dr.out]; intro h; rw [h] at Dz; exact Nat.lt_irrefl _ Dz) (by rw [oA HS.out.wf hi dr.out]; omega)
      (by rw [oA HS.out.wf hi dr.out]; exact fun x hx y hy => HS.out.sep i hi x (zm.out.mem_iff.1 hx) y (zm.out.mem_iff.1 hy)) hO.out.box hO.out.map (fun e => by have := (HF.out.gL hi (b := g) (by rw [HV.out]; rfl)).2; omega) (fun e => by have := (HF.out.gL hi (b := g) (by rw [HV.out]; rfl)).2; omega)
      (by rw [oA HS.out.wf hi dr.out]; intro c hc; unfold mK; rw [List.take_length]; exact Dy HF.out.inj (fun j hj => (iD.out j hj).1) (iD.out c hc).1 hc)
      (fun z hz => by
       obtain ⟨j, hj, rfl⟩ := List.mem_map.1 hz
       exact ⟨j, (iD.out j (List.mem_of_mem_take hj)).1, rfl⟩))
     rw [oA HS.out.wf hi dr.out, HV.out] at Oa
     go_wp2_with fail
     refine Oa.out.mono ?_
     rintro e w2 ⟨rfl, hF2, jK⟩
     obtain ⟨k1, l1, hs1⟩ : ∃ k1 l1, cD (fA F rk) L = k1 :: l1 := by
      cases hs : cD (fA F rk) L with
      | nil => have h1 := (dR (fA F rk) L).length_eq; rw [hs] at h1; simp at h1; omega
      | cons k l => exact ⟨k, l, rfl⟩
     have gT : k1 ∈ L := (dR (fA F rk) L).mem_iff.1 (by rw [hs1]; simp)
     have hrow2 : w2.cell? ⟨g, 0, none⟩ = some (.pointer (some ⟨A k1, 0, none⟩)) := hF2.E9 (i := i) (j := 0) (c := k1) hi HV.out (by show (upd _ i _ i)[0]? = _; rw [upd_same, hs1]; rfl)
     have hkc2 := hF2.pZ hi
     rw [HV.out] at hkc2
     have WO := jK.cell HF.out (p := ⟨w.heap.size + 1, 0, none⟩) (Nat.le_succ _) hO.out.box
     have WQ := jK.pmap HF.out (Nat.le_refl _) hO.out.map
     have hlk : ∀ q, (Instr.lookup 247 (.map (some w.heap.size)) (.pointer (some ⟨A k1, 0, none⟩)) false).run Tryz.prog (w2.drewN q) = .ok (.string (fA F rk k1)) (w2.drewN q) := fun q =>
      uT (P := Tryz.prog) (w := w2.drewN q) Tryz.underlying247 Tryz.underlying137 Tryz.rz WQ (k := some (A k1)) (hF2.plain (iD.out k1 gT).1) (fun z hz => by
       obtain ⟨j, hj, rfl⟩ := List.mem_map.1 hz
       exact hF2.plain (iD.out j (List.mem_of_mem_take hj)).1) (by unfold mK; rw [List.take_length]; exact Dy HF.out.inj (fun j hj => (iD.out j hj).1) (iD.out k1 gT).1 gT)
     have nu : Hid (fA F rk i = fA F rk k1) := by
      unfold Hid
      rw [ry HS.out.wf hi, ← vW zm.out (fun x hx y hy => HS.out.sep i hi x (zm.out.mem_iff.1 hx) y (zm.out.mem_iff.1 hy)), hs1]
     have WL : Hid (bB base n A kv (F.gZ rk fun j => p j || bK F rk i j) w2) := hF2.congr fun j hj => by
      refine ⟨rfl, rfl, ?_⟩
      show (if (p j || bK F rk i j) then _ else _) = upd _ i _ j
      by_cases e : j = i
      ·subst e
       rw [upd_same, if_pos (by rw [gX HS.out.wf hi]; simp)]
       exact (vW zm.out (fun x hx y hy => HS.out.sep j hi x (zm.out.mem_iff.1 hx) y (zm.out.mem_iff.1 hy))).symm
      ·rw [upd_ne _ _ e]
       have : pK F rk p L L.length j = (p j || bK F rk i j) := by
        unfold pK
        rw [List.take_length, gX HS.out.wf hi]
        have e2 : (j == i) = false := by simpa using e
        rw [e2, Bool.false_or, zm.out.any_eq]
       show _ = if pK F rk p L L.length j then _ else _
       rw [this]
     have um := aa (hO.out.up.trans jK)
     have i0 : (0 : Int) < (L.length : Int) := by omega
     clear hF2 jK hs1 gT WQ Oa hO
     go_wp2_with fail
     go_quiet (fail)
     go_wp2_with fail
     go_ret
     exact ⟨by rw [nu.out]; rfl, WL.out.same (fun _ _ => rfl) (fun _ _ _ _ => rfl), ⟨um.out.os, um.out.tape, um.out.output, um.out.size, um.out.block⟩⟩
end Go.Proofs.YtpnmblnahjjmhaaGreat
