/- The contract of phylotree.sorted. -/
import Derived.Test.YteegefnjnikngaaGreatQ1
import Derived.Test.YteegefnjnikngaaGreatQ9
import Derived.Test.YteegefnjnikngaaGreatQ10
set_option maxRecDepth 100000
namespace Go.Proofs.YteegefnjnikngaaGreat
open Go.RowKit Go.Deep
theorem run_makeMap {P : Program} (T : TypeId) (w : World) : (Instr.makeMap T none).run P w = .ok (.map (some w.heap.size)) (w.alloc (.map #[] 0)) := by
 rfl
structure xz (F : aL) (n : Nat) (rk : Nat → Nat) : Prop where
 wf : Wf F n rk
 sep : ∀ i, i < n → Sep (ek F rk) (F.kids i)
 nodup : ∀ i, i < n → (F.kids i).Nodup
 len : ∀ i, i < n → (F.kids i).length ≤ 1000
theorem kJ {F : aL} {n : Nat} {rk : Nat → Nat} (h : Wf F n rk) : ∀ {d i j : Nat}, i < n → subD F d i j = true → rk j ≤ rk i := by
 intro d
 induction d with
 | zero => intro i j _ hs; simp [subD] at hs; subst hs; exact Nat.le_refl _
 | succ d ih =>
  intro i j hi hs
  simp only [subD, Bool.or_eq_true, beq_iff_eq, List.any_eq_true] at hs
  rcases hs with rfl | ⟨k, hk, h1⟩
  ·exact Nat.le_refl _
  ·have := h.kid i hi k hk
   have := ih this.1 h1; omega
theorem M4 {F : aL} {n : Nat} {rk : Nat → Nat} (h : Wf F n rk) {i k : Nat} (hi : i < n) (hk : k ∈ F.kids i) : bA F rk k i = false := by
 cases hs : bA F rk k i with
 | false => rfl
 | true =>
  have h1 := h.kid i hi k hk
  have := kJ h h1.1 hs; omega
def Kl (n base : Nat) (A : Nat → Nat) (kv : Nat → Value) (F : aL) (rk : Nat → Nat) (p : Nat → Bool) (i : Nat) (w : World) (e : Ending) (w' : World) : Prop :=
 e = .returned (.string (ek F rk i)) ∧ aR base n A kv (F.fO rk fun j => p j || bA F rk i j) w' ∧ iZ n A kv w w'
def pK (F : aL) (rk : Nat → Nat) (p : Nat → Bool) (L : List Nat) (k j : Nat) : Bool := p j || (L.take k).any fun c => bA F rk c j
def mK (F : aL) (rk : Nat → Nat) (A : Nat → Nat) (L : List Nat) (k : Nat) : List (Option Nat × Value) := (L.take k).map fun j => (some (A j), .string (ek F rk j))
structure Gi (n base : Nat) (A : Nat → Nat) (kv : Nat → Value) (F : aL) (rk : Nat → Nat) (p : Nat → Bool) (L : List Nat) (w wr : World) (m0 bx k : Nat) : Prop where
 fr : aR base n A kv (F.fO rk (pK F rk p L k)) wr
 map : gQ wr m0 (mK F rk A L k)
 box : wr.cell? ⟨bx, 0, none⟩ = some (.map (some m0))
 up : iZ n A kv w wr
theorem QO (F : aL) (rk : Nat → Nat) (p : Nat → Bool) (L : List Nat) {k c : Nat} (hc : L[k]? = some c) (j : Nat) : pK F rk p L (k + 1) j = (pK F rk p L k j || bA F rk c j) := by
 unfold pK
 rw [List.take_add_one, hc]
 simp [Bool.or_assoc]
theorem QS (F : aL) (rk : Nat → Nat) (A : Nat → Nat) (L : List Nat) {k c : Nat} (hc : L[k]? = some c) : mK F rk A L (k + 1) = mK F rk A L k ++ [(some (A c), .string (ek F rk c))] := by
 unfold mK
 rw [List.take_add_one, hc]
 simp
theorem aR.AH {base n : Nat} {A : Nat → Nat} {kv : Nat → Value} {F : aL} {rk : Nat → Nat} {p q : Nat → Bool} {w : World} (h : aR base n A kv (F.fO rk p) w) (e : ∀ j, j < n → q j = p j) : aR base n A kv (F.fO rk q) w :=
 h.congr fun j hj => ⟨rfl, rfl, by show (if q j then _ else _) = (if p j then _ else _); rw [e j hj]⟩
theorem AJ {F : aL} {rk : Nat → Nat} {A : Nat → Nat} {n : Nat} (hinj : ∀ i j, i < n → j < n → A i = A j → i = j) : ∀ {l : List Nat} {c : Nat}, (∀ j ∈ l, j < n) → c < n → c ∈ l → (l.map fun j => (some (A j), Value.string (ek F rk j))).lookup (some (A c)) = some (.string (ek F rk c)) := by
 intro l
 induction l with
 | nil => intro c _ _ h; cases h
 | cons x l ih =>
  intro c hl hc h
  rw [List.map_cons, List.lookup_cons]
  by_cases e : x = c
  ·subst e; simp
  ·have hne : (some (A c) == some (A x)) = false := by
    simp only [beq_eq_false_iff_ne, ne_eq, Option.some.injEq]
    exact fun e2 => e (hinj x c (hl x (by simp)) hc e2.symm)
   rw [hne]
   exact ih (fun j hj => hl j (by simp [hj])) hc (by rcases List.mem_cons.1 h with h | h; exact absurd h.symm e; exact h)
theorem FI {F : aL} {rk : Nat → Nat} {A : Nat → Nat} {n : Nat} (hinj : ∀ i j, i < n → j < n → A i = A j → i = j) : ∀ {l : List Nat} {c : Nat}, (∀ j ∈ l, j < n) → c < n → c ∉ l → (l.map fun j => (some (A j), Value.string (ek F rk j))).lookup (some (A c)) = none := by
 intro l
 induction l with
 | nil => intro c _ _ _; rfl
 | cons x l ih =>
  intro c hl hc h
  rw [List.map_cons, List.lookup_cons]
  have hne : (some (A c) == some (A x)) = false := by
   simp only [beq_eq_false_iff_ne, ne_eq, Option.some.injEq]
   exact fun e2 => h (by rw [hinj c x hc (hl x (by simp)) e2]; simp)
  rw [hne]
  exact ih (fun j hj => hl j (by simp [hj])) hc (fun h2 => h (by simp [h2]))
theorem iZ.cell {n base : Nat} {A : Nat → Nat} {kv : Nat → Value} {F : aL} {w a b : World} (h : iZ n A kv a b) (hF : aR base n A kv F w) {p : Addr} {v : Value} (hp : w.heap.size ≤ p.block) (hc : a.cell? p = some v) : b.cell? p = some v := by
 have hl : p.block < a.heap.size := World.block_lt_of_cell? a _ hc
 rw [World.cell?_of_block (a := p) (h.block p.block hl (fun i hi e => by have := hF.lt hi; omega) (fun i hi e => by have := (hF.eT hi e).2; omega))]
 exact hc
theorem iZ.pmap {n base : Nat} {A : Nat → Nat} {kv : Nat → Value} {F : aL} {w a b : World} (h : iZ n A kv a b) (hF : aR base n A kv F w) {m : Nat} {l : List (Option Nat × Value)} (hp : w.heap.size ≤ m) (hc : gQ a m l) : gQ b m l :=
 hc.of_block (h.block m hc.lt (fun i hi e => by have := hF.lt hi; omega) (fun i hi e => by have := (hF.eT hi e).2; omega))
theorem aR.Co {base n : Nat} {A : Nat → Nat} {kv : Nat → Value} {F : aL} {w : World} (h : aR base n A kv F w) {i g cap m j c : Nat} (hi : i < n) (hv : kv i = .slice (some ⟨g, 0, none⟩) m cap) (hj : (F.kids i)[j]? = some c) : w.cell? ⟨g, j, none⟩ = some (.pointer (some ⟨A c, 0, none⟩)) := by
 have hown := h.own i hi
 rw [hv] at hown
 obtain ⟨q, c', e, _, H⟩ := hown.xk.open
 injection e with e1
 subst e1
 have hl : j < (F.kids i).length := (List.getElem?_eq_some_iff.1 hj).1
 obtain ⟨b, off, e, hc⟩ := H j (by simpa using hl)
 injection e with e
 injection e with e1 e2
 subst e1; subst e2
 rw [Nat.zero_add] at hc
 rw [hc]
 simp [List.getD_eq_getElem?_getD, hj, aT]
theorem S3 {F : aL} {n : Nat} {rk : Nat → Nat} (h : Wf F n rk) {p : Nat → Bool} {i : Nat} {L : List Nat} (hi : i < n) (hL : ∀ c ∈ L, c ∈ F.kids i) (k : Nat) : pK F rk p L k i = p i := by
 unfold pK
 have : ((L.take k).any fun c => bA F rk c i) = false := by
  rw [List.any_eq_false]
  intro c hc
  rw [M4 h hi (hL c (List.mem_of_mem_take hc))]; simp
 rw [this, Bool.or_false]
theorem l7 {n : Nat} {F : aL} {rk : Nat → Nat} {p : Nat → Bool} {L : List Nat} {i : Nat} (hS : Wf F n rk) (hi : i < n) (hL : L = (F.fO rk p).kids i) (k : Nat) : (F.fO rk (pK F rk p L k)).kids i = L := by
 have hm : ∀ c ∈ L, c ∈ F.kids i := fun c hc => by rw [hL] at hc; exact (F.fB rk p i).mem_iff.1 hc
 show (if pK F rk p L k i then _ else _) = L
 rw [S3 hS hi hm, hL]; rfl
theorem aR.drew {base n : Nat} {A : Nat → Nat} {kv : Nat → Value} {F : aL} {w : World} (h : aR base n A kv F w) : aR base n A kv F w.drew := h.same (fun _ _ => rfl) (fun _ _ _ _ => rfl)
theorem iZ.QT {n : Nat} {A : Nat → Nat} {kv : Nat → Value} {a b : World} (h : iZ n A kv a.drew b) : iZ n A kv a b := ⟨h.os, h.tape, h.output, h.size, h.block⟩
theorem Gi.step {n base : Nat} {A : Nat → Nat} {kv : Nat → Value} {F : aL} {rk : Nat → Nat} {p : Nat → Bool} {L : List Nat} {w wo w2 : World} {bx k c : Nat} (h : Gi n base A kv F rk p L w wo w.heap.size bx k) (hF : aR base n A kv (F.fO rk p) w) (jS : w.heap.size < bx)
  (hc : L[k]? = some c) (dr : c < n) (Dh : ∀ j ∈ L, j < n) (fF : L.Nodup) (h2 : aR base n A kv (F.fO rk fun j => pK F rk p L k j || bA F rk c j) w2) (hu : iZ n A kv wo w2) :
  w2.cell? ⟨bx, 0, none⟩ = some (.map (some w.heap.size)) ∧ ∃ w3, (Instr.mapUpdate 226 (.map (some w.heap.size)) (.pointer (some ⟨A c, 0, none⟩)) (.string (ek F rk c))).run Tryz.prog w2 = .ok () w3 ∧ Gi n base A kv F rk p L w w3 w.heap.size bx (k + 1) := by
 have gT := hu.cell hF (p := ⟨bx, 0, none⟩) (Nat.le_of_lt jS) h.box
 have hmap := hu.pmap hF (Nat.le_refl _) h.map
 have hkeys : ∀ z ∈ mK F rk A L k, eu w2 z.1 := fun z hz => by
  obtain ⟨j, hj, rfl⟩ := List.mem_map.1 hz
  exact h2.plain (Dh j (List.mem_of_mem_take hj))
 have hno : c ∉ L.take k := fun hm => by
  obtain ⟨j, hj, e⟩ := List.getElem_of_mem hm
  rw [List.getElem_take] at e
  have hjk : j < k := by rw [List.length_take] at hj; omega
  have eF := (List.getElem?_eq_some_iff.1 hc)
  obtain ⟨eF, e2⟩ := eF
  have := (List.getElem_inj fF).1 (e.trans e2.symm); omega
 obtain ⟨w3, hr, hm3, hs3, uq, ht3, hou3, hb3⟩ := CX (P := Tryz.prog) Tryz.underlying226 Tryz.underlying124 Tryz.oI hmap (k := some (A c)) (.string (ek F rk c)) (h2.plain dr) hkeys (FI hF.inj (fun j hj => Dh j (List.mem_of_mem_take hj)) dr hno)
 refine ⟨gT, w3, hr, ?_, ?_, ?_, ?_⟩
 ·have h3 : aR base n A kv (F.fO rk fun j => pK F rk p L k j || bA F rk c j) w3 := h2.same (fun j hj => hb3 _ (by have := hF.lt hj; omega)) (fun j b hj hb => hb3 _ (by have := (hF.eT hj hb).2; omega))
  exact h3.AH fun j _ => QO F rk p L hc j
 ·rw [QS F rk A L hc]; exact hm3
 ·rw [World.cell?_of_block (a := ⟨bx, 0, none⟩) (hb3 bx (by omega))]; exact gT
 ·have hk := h.up.trans hu
  exact ⟨uq.trans hk.os, ht3.trans hk.tape, hou3.trans hk.output, Nat.le_trans hk.size (Nat.le_of_eq hs3.symm), fun b hb h4 h5 => (hb3 b (by omega)).trans (hk.block b hb h4 h5)⟩
set_option maxHeartbeats 800000 in
theorem tA {n base : Nat} {A : Nat → Nat} {kv : Nat → Value} {F : aL} {rk : Nat → Nat} (hS : xz F n rk) {i : Nat} {p : Nat → Bool} {w : World} (hi : i < n) (hF : aR base n A kv (F.fO rk p) w) (h0 : F.kids i = []) :
  Calls Tryz.prog 163 #[.pointer (some ⟨A i, 0, none⟩)] w (Kl n base A kv F rk p i w) := by
 have k8 := F.fB rk p i
 have hL : (F.fO rk p).kids i = [] := List.perm_nil.1 (by rw [h0] at k8; exact k8)
 have hown := hF.own i hi
 rw [hL] at hown
 obtain ⟨q, cap, hv, _⟩ := hown.form (n := 0) rfl
 have hkc := hF.nt hi
 have hnc : w.cell? ⟨A i, 0, none⟩ = some (.string (F.nm i)) := hF.name hi
 rw [hv] at hkc
 have HL : Hid (ek F rk i = F.nm i) := by unfold Hid; rw [oH hS.wf hi, h0]; simp [bT]
 have nG : Hid (aR base n A kv (F.fO rk fun j => p j || bA F rk i j) w) := hF.congr fun j hj => by
  refine ⟨rfl, rfl, ?_⟩
  by_cases e : j = i
  ·subst e; rw [hL]; show (if _ then _ else _) = _; rw [h0]; split <;> simp [bT]
  ·show (if _ then _ else _) = (if _ then _ else _)
   have : bA F rk i j = false := by rw [fh hS.wf hi, h0]; simpa using e
   simp only [this, Bool.or_false]
 clear hF hS k8 hL hown hv h0
 generalize hap : A i = ai at *
 generalize F.nm i = nm at *
 clear hap
 go_enter Tryz.func163, Tryz.ntmps163
 go_wp2_with fail
 go_ret
 exact ⟨by rw [HL.out]; rfl, nG.out, iZ.refl _ _ _ _⟩
set_option maxHeartbeats 4000000 in
theorem M5 {n base : Nat} {A : Nat → Nat} {kv : Nat → Value} {F : aL} {rk : Nat → Nat} (hS : xz F n rk) : ∀ (d i : Nat) (p : Nat → Bool) (w : World), i < n → rk i ≤ d → aR base n A kv (F.fO rk p) w →
  Calls Tryz.prog 163 #[.pointer (some ⟨A i, 0, none⟩)] w (Kl n base A kv F rk p i w) := by
 intro d
 induction d with
 | zero =>
  intro i p w hi wI hF
  refine tA hS hi hF ?_
  cases hk : F.kids i with
  | nil => rfl
  | cons k l => have := (hS.wf.kid i hi k (by rw [hk]; simp)).2; omega
 | succ d ih =>
  intro i p w hi wI hF
  by_cases h0 : F.kids i = []
  ·exact tA hS hi hF h0
  ·obtain ⟨L, ry⟩ : ∃ L, L = (F.fO rk p).kids i := ⟨_, rfl⟩
   have k8 : L.Perm (F.kids i) := by rw [ry]; exact F.fB rk p i
   have hlen : L.length = (F.kids i).length := k8.length_eq
   have gF := hS.len i hi
   have AK : 0 < L.length := by rw [hlen]; exact List.length_pos_iff.2 h0
   have hown := hF.own i hi
   rw [← ry] at hown
   obtain ⟨q, cap, hv, hq⟩ := hown.form (n := L.length) (by simp)
   obtain ⟨g, rfl⟩ : ∃ g, q = some ⟨g, 0, none⟩ := by
    rcases hq with rfl | h
    ·obtain ⟨_, h | ⟨g, _, _, h, _⟩⟩ := hown
     ·have := h.2; rw [List.length_map] at this; omega
     ·rw [hv] at h; cases h
    ·exact h
   have hkc := hF.nt hi
   rw [hv] at hkc
   have hsz := hF.lt hi
   have Dh : ∀ c ∈ L, c < n ∧ rk c < rk i := fun c hc => hS.wf.kid i hi c (k8.mem_iff.1 hc)
   have HW : Hid (Gi n base A kv F rk p L w ((w.alloc (.map #[] 0)).alloc (.cells #[.map (some w.heap.size)] 226)) w.heap.size (w.heap.size + 1) 0) := by
    have hu : Up w ((w.alloc (.map #[] 0)).alloc (.cells #[.map (some w.heap.size)] 226)) := (Up.alloc _ _).trans (Up.alloc _ _)
    refine ⟨(hF.up hu).AH fun j _ => by simp [pK], ⟨#[], 0, ?_, rfl⟩, ?_, iZ.WA hu⟩
    ·rw [blk_alloc_lt _ _ _ (by simp)]; exact blk_alloc_new _ _
    ·have h := aK (w.alloc (.map #[] 0)) #[.map (some w.heap.size)] 226 0
     rw [World.size_alloc] at h; exact h
   have dW := aa Dh
   have wJ := aa k8
   have HLEN := aa hlen
   have HF := aa hF
   have HV := aa hv
   have S4 := aa hkc
   have dN := aa ry
   have ir := aa ih
   have HS := aa hS
   have hl2 : L.length ≤ 1000 := by omega
   have hmm := run_makeMap (P := Tryz.prog) 226 w
   have d1 : ((L.length : Int) == 0) = false := beq_eq_false_iff_ne.2 (by omega)
   clear hown hq hS ih hF Dh k8 hlen hv h0 ry gF
   go_enter Tryz.func163, Tryz.ntmps163
   go_wp2_with fail
   generalize (w.alloc (.map #[] 0)).alloc (.cells #[.map (some w.heap.size)] 226) = w1 at *
   go_loopw [22] (fun i wr => ∃ k : Nat, k ≤ L.length ∧ i = .int .i64 k ∧ Hid (Gi n base A kv F rk p L w wr w.heap.size (w.heap.size + 1) k)) (fun i _ => L.length - (intOf i).toNat)
   case atStart => exact ⟨0, Nat.zero_le _, rfl, HW⟩
   case round =>
    obtain ⟨k, hk, rfl, hO⟩ := hrel
    obtain ⟨wo, rfl⟩ : ∃ wo : World, wo = wr := ⟨_, rfl⟩
    by_cases hlt : k < L.length
    ·have hc : L[k]? = some L[k] := List.getElem?_eq_getElem hlt
     have gT := hO.out.box
     have dr := dW.out L[k] (List.getElem_mem hlt)
     have hrow := hO.out.fr.Co (j := k) (c := L[k]) hi HV.out (by rw [l7 HS.out.wf hi dN.out k]; exact hc)
     have eU := aa (ir.out L[k] (pK F rk p L k) wo.drew dr.1 (by omega) hO.out.fr.drew)
     have WD : Hid (∀ w2, aR base n A kv (F.fO rk fun j => pK F rk p L k j || bA F rk L[k] j) w2 → iZ n A kv wo.drew w2 → w2.cell? ⟨w.heap.size + 1, 0, none⟩ = some (.map (some w.heap.size)) ∧ ∃ w3, (Instr.mapUpdate 226 (.map (some w.heap.size)) (.pointer (some ⟨A L[k], 0, none⟩)) (.string (ek F rk L[k]))).run Tryz.prog w2 = .ok () w3 ∧ Gi n base A kv F rk p L w w3 w.heap.size (w.heap.size + 1) (k + 1)) :=
      fun w2 h2 hu => hO.out.step HF.out (Nat.lt_succ_self _) hc dr.1 (fun j hj => (dW.out j hj).1) (wJ.out.symm.nodup_iff.1 (HS.out.nodup i hi)) h2 hu.QT
     clear hc dr
     generalize L[k] = c at *
     go_wp2_with fail
     refine cZ (by kernel_rfl) 5 (fun w' => w'.cell? ⟨w.heap.size + 1, 0, none⟩ = some (.map (some w.heap.size))) gT (fun hS => ?_)
     simp only [List.size_toArray, List.length_cons, List.length_nil, Nat.reduceAdd, Array.replicate_succ, Array.replicate_zero, List.push_toArray, List.nil_append, List.cons_append]
     refine af.take (i := 0) (v := ?Ke) rfl (by kernel_rfl) (fun _ _ _ h => h) (by rfl) (fun w hSw => ?ur) hS ?Kf
     case ur =>
      (try dsimp only at hSw)
      go_simp
      try with_reducible rfl
     try simp only [Act.put, ah, aj, aq]
     refine af.take (i := 1) (v := ?Kg) rfl (by kernel_rfl) (fun _ _ _ h => h) (by rfl) (fun w hSw => ?uu) hS ?Kh
     case uu =>
      (try dsimp only at hSw)
      go_simp
      try with_reducible rfl
     try simp only [Act.put, ah, aj, aq]
     refine af.take (i := 2) (v := ?Ki) rfl (by kernel_rfl) (fun _ _ _ h => h) (by rfl) (fun w hSw => ?uv) hS ?Kj
     case uv =>
      (try dsimp only at hSw)
      go_simp
      try with_reducible rfl
     try simp only [Act.put, ah, aj, aq]
     refine af.step (i := 3) rfl (by kernel_rfl) (fun K' hK => ?_)
     go_simp
     refine eU.out.mono ?_
     rintro e w2 ⟨rfl, hF2, oM⟩
     obtain ⟨S5, w3, hrun, hW3⟩ := WD.out w2 hF2 oM
     have Y2 := aa hW3
     clear hF2 oM hW3
     refine hK.out _ _ (fun _ => S5) (fun hS => ?_)
     replace hS := hS ⟨4, by decide, rfl⟩
     try simp only [ah, aj, aq]
     refine af.step (i := 4) rfl (by kernel_rfl) (fun K' hK => ?_)
     go_simp
     refine hK.out _ _ (aJ (by kernel_rfl)) (fun hS => ?_)
     refine af.done (by kernel_rfl) ?_
     go_wp2_with fail
     go_roundw
     case rel => exact ⟨k + 1, by omega, by go_num, Y2⟩
     case measure => simp [intOf]; omega
    ·obtain rfl : k = L.length := by omega
     have hkc := hO.out.fr.nt hi
     rw [HV.out] at hkc
     have ux := aa (FH hO.out.fr (i := i) (g := g) (cap := cap) (f := ek F rk) (bx := w.heap.size + 1) (m0 := w.heap.size) (l := mK F rk A L L.length) hi (by rw [l7 HS.out.wf hi dN.out]; exact HV.out) (by rw [l7 HS.out.wf hi dN.out]; intro h; rw [h] at AK; exact Nat.lt_irrefl _ AK) (by rw [l7 HS.out.wf hi dN.out]; omega)
      (by rw [l7 HS.out.wf hi dN.out]; exact fun x hx y hy => HS.out.sep i hi x (wJ.out.mem_iff.1 hx) y (wJ.out.mem_iff.1 hy)) hO.out.box hO.out.map (fun e => by have := (HF.out.eT hi (b := g) (by rw [HV.out]; rfl)).2; omega) (fun e => by have := (HF.out.eT hi (b := g) (by rw [HV.out]; rfl)).2; omega)
      (by rw [l7 HS.out.wf hi dN.out]; intro c hc; unfold mK; rw [List.take_length]; exact AJ HF.out.inj (fun j hj => (dW.out j hj).1) (dW.out c hc).1 hc)
      (fun z hz => by
       obtain ⟨j, hj, rfl⟩ := List.mem_map.1 hz
       exact ⟨j, (dW.out j (List.mem_of_mem_take hj)).1, rfl⟩))
     rw [l7 HS.out.wf hi dN.out, HV.out] at ux
     go_wp2_with fail
     refine ux.out.mono ?_
     rintro e w2 ⟨rfl, hF2, oM⟩
     obtain ⟨k1, l1, hs1⟩ : ∃ k1 l1, bT (ek F rk) L = k1 :: l1 := by
      cases hs : bT (ek F rk) L with
      | nil => have h1 := (cU (ek F rk) L).length_eq; rw [hs] at h1; simp at h1; omega
      | cons k l => exact ⟨k, l, rfl⟩
     have hk1 : k1 ∈ L := (cU (ek F rk) L).mem_iff.1 (by rw [hs1]; simp)
     have hrow2 : w2.cell? ⟨g, 0, none⟩ = some (.pointer (some ⟨A k1, 0, none⟩)) := hF2.Co (i := i) (j := 0) (c := k1) hi HV.out (by show (upd _ i _ i)[0]? = _; rw [upd_same, hs1]; rfl)
     have hkc2 := hF2.nt hi
     rw [HV.out] at hkc2
     have S5 := oM.cell HF.out (p := ⟨w.heap.size + 1, 0, none⟩) (Nat.le_succ _) hO.out.box
     have S6 := oM.pmap HF.out (Nat.le_refl _) hO.out.map
     have hlk : ∀ q, (Instr.lookup 226 (.map (some w.heap.size)) (.pointer (some ⟨A k1, 0, none⟩)) false).run Tryz.prog (w2.drewN q) = .ok (.string (ek F rk k1)) (w2.drewN q) := fun q =>
      sj (P := Tryz.prog) (w := w2.drewN q) Tryz.underlying226 Tryz.underlying124 Tryz.oI S6 (k := some (A k1)) (hF2.plain (dW.out k1 hk1).1) (fun z hz => by
       obtain ⟨j, hj, rfl⟩ := List.mem_map.1 hz
       exact hF2.plain (dW.out j (List.mem_of_mem_take hj)).1) (by unfold mK; rw [List.take_length]; exact AJ HF.out.inj (fun j hj => (dW.out j hj).1) (dW.out k1 hk1).1 hk1)
     have Km : Hid (ek F rk i = ek F rk k1) := by
      unfold Hid
      rw [oH HS.out.wf hi, ← tr wJ.out (fun x hx y hy => HS.out.sep i hi x (wJ.out.mem_iff.1 hx) y (wJ.out.mem_iff.1 hy)), hs1]
     have nG : Hid (aR base n A kv (F.fO rk fun j => p j || bA F rk i j) w2) := hF2.congr fun j hj => by
      refine ⟨rfl, rfl, ?_⟩
      show (if (p j || bA F rk i j) then _ else _) = upd _ i _ j
      by_cases e : j = i
      ·subst e
       rw [upd_same, if_pos (by rw [fh HS.out.wf hi]; simp)]
       exact (tr wJ.out (fun x hx y hy => HS.out.sep j hi x (wJ.out.mem_iff.1 hx) y (wJ.out.mem_iff.1 hy))).symm
      ·rw [upd_ne _ _ e]
       have : pK F rk p L L.length j = (p j || bA F rk i j) := by
        unfold pK
        rw [List.take_length, fh HS.out.wf hi]
        have e2 : (j == i) = false := by simpa using e
        rw [e2, Bool.false_or, wJ.out.any_eq]
       show _ = if pK F rk p L L.length j then _ else _
       rw [this]
     have tB := aa (hO.out.up.trans oM)
     have i0 : (0 : Int) < (L.length : Int) := by omega
     clear hF2 oM hs1 hk1 S6 ux hO
     go_wp2_with fail
     go_quiet (fail)
     go_wp2_with fail
     go_ret
     exact ⟨by rw [Km.out]; rfl, nG.out.same (fun _ _ => rfl) (fun _ _ _ _ => rfl), ⟨tB.out.os, tB.out.tape, tB.out.output, tB.out.size, tB.out.block⟩⟩
end Go.Proofs.YteegefnjnikngaaGreat
