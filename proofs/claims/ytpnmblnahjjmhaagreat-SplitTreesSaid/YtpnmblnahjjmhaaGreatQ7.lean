/- The contract of phylotree.sorted. -/
import Derived.Test.YtpnmblnahjjmhaaGreatQ1
import Derived.Test.YtpnmblnahjjmhaaGreatQ5
import Derived.Test.YtpnmblnahjjmhaaGreatQ6
namespace Go.Proofs.YtpnmblnahjjmhaaGreat
set_option maxRecDepth 100000
open Go.RowKit Go.Deep
theorem run_makeMap {P : Program} (T : TypeId) (w : World) : (Instr.makeMap T none).run P w = .ok (.map (some w.heap.size)) (w.alloc (.map #[] 0)) := by
 rfl
structure An (F : bA) (n : Nat) (rk : Nat → Nat) : Prop where
 wf : Wf F n rk
 sep : ∀ i, i < n → Sep (ga F rk) (F.kids i)
 nodup : ∀ i, i < n → (F.kids i).Nodup
 len : ∀ i, i < n → (F.kids i).length ≤ 1000
theorem nK {F : bA} {n : Nat} {rk : Nat → Nat} (h : Wf F n rk) : ∀ {d i j : Nat}, i < n → subD F d i j = true → rk j ≤ rk i := by
 intro d
 induction d with
 | zero => intro i j _ hs; simp [subD] at hs; subst hs; exact Nat.le_refl _
 | succ d ih =>
  intro i j hi hs
  simp only [subD, Bool.or_eq_true, beq_iff_eq, List.any_eq_true] at hs
  rcases hs with rfl | ⟨k, hk, h1⟩
  ·exact Nat.le_refl _
  ·have := h.bF i hi k hk
   have := ih this.1 h1; omega
theorem Ru {F : bA} {n : Nat} {rk : Nat → Nat} (h : Wf F n rk) {i k : Nat} (hi : i < n) (hk : k ∈ F.kids i) : cG F rk k i = false := by
 cases hs : cG F rk k i with
 | false => rfl
 | true =>
  have h1 := h.bF i hi k hk
  have := nK h h1.1 hs; omega
def Oc (n base : Nat) (A : Nat → Nat) (kv : Nat → Value) (F : bA) (rk : Nat → Nat) (p : Nat → Bool) (i : Nat) (w : World) (e : Ending) (w' : World) : Prop :=
 e = .returned (.string (ga F rk i)) ∧ bZ base n A kv (F.iK rk fun j => p j || cG F rk i j) w' ∧ kN n A kv w w'
def pK (F : bA) (rk : Nat → Nat) (p : Nat → Bool) (L : List Nat) (k j : Nat) : Bool := p j || (L.take k).any fun c => cG F rk c j
def mK (F : bA) (rk : Nat → Nat) (A : Nat → Nat) (L : List Nat) (k : Nat) : List (Option Nat × Value) := (L.take k).map fun j => (some (A j), .string (ga F rk j))
structure J6 (n base : Nat) (A : Nat → Nat) (kv : Nat → Value) (F : bA) (rk : Nat → Nat) (p : Nat → Bool) (L : List Nat) (w wr : World) (m0 bx k : Nat) : Prop where
 fr : bZ base n A kv (F.iK rk (pK F rk p L k)) wr
 map : jK wr m0 (mK F rk A L k)
 box : wr.cell? ⟨bx, 0, none⟩ = some (.map (some m0))
 up : kN n A kv w wr
theorem Vv (F : bA) (rk : Nat → Nat) (p : Nat → Bool) (L : List Nat) {k c : Nat} (hc : L[k]? = some c) (j : Nat) : pK F rk p L (k + 1) j = (pK F rk p L k j || cG F rk c j) := by
 unfold pK
 rw [List.take_add_one, hc]
 simp [Bool.or_assoc]
theorem Vw (F : bA) (rk : Nat → Nat) (A : Nat → Nat) (L : List Nat) {k c : Nat} (hc : L[k]? = some c) : mK F rk A L (k + 1) = mK F rk A L k ++ [(some (A c), .string (ga F rk c))] := by
 unfold mK
 rw [List.take_add_one, hc]
 simp
theorem bZ.DH {base n : Nat} {A : Nat → Nat} {kv : Nat → Value} {F : bA} {rk : Nat → Nat} {p q : Nat → Bool} {w : World} (h : bZ base n A kv (F.iK rk p) w) (e : ∀ j, j < n → q j = p j) : bZ base n A kv (F.iK rk q) w :=
 h.congr fun j hj => ⟨rfl, rfl, by show (if q j then _ else _) = (if p j then _ else _); rw [e j hj]⟩
theorem DI {F : bA} {rk : Nat → Nat} {A : Nat → Nat} {n : Nat} (hinj : ∀ i j, i < n → j < n → A i = A j → i = j) : ∀ {l : List Nat} {c : Nat}, (∀ j ∈ l, j < n) → c < n → c ∈ l → (l.map fun j => (some (A j), Value.string (ga F rk j))).lookup (some (A c)) = some (.string (ga F rk c)) := by
 intro l
 induction l with
 | nil => intro c _ _ h; cases h
 | cons x l ih =>
  intro c hl hc h
  rw [List.map_cons, List.lookup_cons]
  by_cases e : x = c
  ·subst e; simp
  ·have hne : (some (A c) == some (A x)) = false := by
    simp only [beq_eq_false_iff_ne, ne_eq, Option.some.injEq]
    exact fun e2 => e (hinj x c (hl x (by simp)) hc e2.symm)
   rw [hne]
   exact ih (fun j hj => hl j (by simp [hj])) hc (by rcases List.mem_cons.1 h with h | h; exact absurd h.symm e; exact h)
theorem Jz {F : bA} {rk : Nat → Nat} {A : Nat → Nat} {n : Nat} (hinj : ∀ i j, i < n → j < n → A i = A j → i = j) : ∀ {l : List Nat} {c : Nat}, (∀ j ∈ l, j < n) → c < n → c ∉ l → (l.map fun j => (some (A j), Value.string (ga F rk j))).lookup (some (A c)) = none := by
 intro l
 induction l with
 | nil => intro c _ _ _; rfl
 | cons x l ih =>
  intro c hl hc h
  rw [List.map_cons, List.lookup_cons]
  have hne : (some (A c) == some (A x)) = false := by
   simp only [beq_eq_false_iff_ne, ne_eq, Option.some.injEq]
   exact fun e2 => h (by rw [hinj c x hc (hl x (by simp)) e2]; simp)
  rw [hne]
  exact ih (fun j hj => hl j (by simp [hj])) hc (fun h2 => h (by simp [h2]))
theorem kN.cell {n base : Nat} {A : Nat → Nat} {kv : Nat → Value} {F : bA} {w a b : World} (h : kN n A kv a b) (hF : bZ base n A kv F w) {p : Addr} {v : Value} (hp : w.heap.size ≤ p.block) (hc : a.cell? p = some v) : b.cell? p = some v := by
 have hl : p.block < a.heap.size := World.block_lt_of_cell? a _ hc
 rw [World.cell?_of_block (a := p) (h.block p.block hl (fun i hi e => by have := hF.lt hi; omega) (fun i hi e => by have := (hF.iw hi e).2; omega))]
 exact hc
theorem kN.pmap {n base : Nat} {A : Nat → Nat} {kv : Nat → Value} {F : bA} {w a b : World} (h : kN n A kv a b) (hF : bZ base n A kv F w) {m : Nat} {l : List (Option Nat × Value)} (hp : w.heap.size ≤ m) (hc : jK a m l) : jK b m l :=
 hc.of_block (h.block m hc.lt (fun i hi e => by have := hF.lt hi; omega) (fun i hi e => by have := (hF.iw hi e).2; omega))
theorem bZ.Ff {base n : Nat} {A : Nat → Nat} {kv : Nat → Value} {F : bA} {w : World} (h : bZ base n A kv F w) {i g cap m j c : Nat} (hi : i < n) (hv : kv i = .slice (some ⟨g, 0, none⟩) m cap) (hj : (F.kids i)[j]? = some c) : w.cell? ⟨g, j, none⟩ = some (.pointer (some ⟨A c, 0, none⟩)) := by
 have hown := h.own i hi
 rw [hv] at hown
 obtain ⟨q, c', e, _, H⟩ := hown.rV.open
 injection e with e1
 subst e1
 have hl : j < (F.kids i).length := (List.getElem?_eq_some_iff.1 hj).1
 obtain ⟨b, off, e, hc⟩ := H j (by simpa using hl)
 injection e with e
 injection e with e1 e2
 subst e1; subst e2
 rw [Nat.zero_add] at hc
 rw [hc]
 simp [List.getD_eq_getElem?_getD, hj, b7]
theorem WH {F : bA} {n : Nat} {rk : Nat → Nat} (h : Wf F n rk) {p : Nat → Bool} {i : Nat} {L : List Nat} (hi : i < n) (hL : ∀ c ∈ L, c ∈ F.kids i) (k : Nat) : pK F rk p L k i = p i := by
 unfold pK
 have : ((L.take k).any fun c => cG F rk c i) = false := by
  rw [List.any_eq_false]
  intro c hc
  rw [Ru h hi (hL c (List.mem_of_mem_take hc))]; simp
 rw [this, Bool.or_false]
theorem pG {n : Nat} {F : bA} {rk : Nat → Nat} {p : Nat → Bool} {L : List Nat} {i : Nat} (hS : Wf F n rk) (hi : i < n) (hL : L = (F.iK rk p).kids i) (k : Nat) : (F.iK rk (pK F rk p L k)).kids i = L := by
 have hm : ∀ c ∈ L, c ∈ F.kids i := fun c hc => by rw [hL] at hc; exact (F.iL rk p i).mem_iff.1 hc
 show (if pK F rk p L k i then _ else _) = L
 rw [WH hS hi hm, hL]; rfl
theorem bZ.drew {base n : Nat} {A : Nat → Nat} {kv : Nat → Value} {F : bA} {w : World} (h : bZ base n A kv F w) : bZ base n A kv F w.drew := h.same (fun _ _ => rfl) (fun _ _ _ _ => rfl)
theorem kN.Vx {n : Nat} {A : Nat → Nat} {kv : Nat → Value} {a b : World} (h : kN n A kv a.drew b) : kN n A kv a b := ⟨h.os, h.tape, h.output, h.size, h.block⟩
theorem J6.step {n base : Nat} {A : Nat → Nat} {kv : Nat → Value} {F : bA} {rk : Nat → Nat} {p : Nat → Bool} {L : List Nat} {w wo w2 : World} {bx k c : Nat} (h : J6 n base A kv F rk p L w wo w.heap.size bx k) (hF : bZ base n A kv (F.iK rk p) w) (fN : w.heap.size < bx)
  (hc : L[k]? = some c) (fB : c < n) (tj : ∀ j ∈ L, j < n) (eZ : L.Nodup) (h2 : bZ base n A kv (F.iK rk fun j => pK F rk p L k j || cG F rk c j) w2) (hu : kN n A kv wo w2) :
  w2.cell? ⟨bx, 0, none⟩ = some (.map (some w.heap.size)) ∧ ∃ w3, (Instr.mapUpdate 247 (.map (some w.heap.size)) (.pointer (some ⟨A c, 0, none⟩)) (.string (ga F rk c))).run Tryz.prog w2 = .ok () w3 ∧ J6 n base A kv F rk p L w w3 w.heap.size bx (k + 1) := by
 have fQ := hu.cell hF (p := ⟨bx, 0, none⟩) (Nat.le_of_lt fN) h.box
 have hmap := hu.pmap hF (Nat.le_refl _) h.map
 have hkeys : ∀ z ∈ mK F rk A L k, gI w2 z.1 := fun z hz => by
  obtain ⟨j, hj, rfl⟩ := List.mem_map.1 hz
  exact h2.plain (tj j (List.mem_of_mem_take hj))
 have hno : c ∉ L.take k := fun hm => by
  obtain ⟨j, hj, e⟩ := List.getElem_of_mem hm
  rw [List.getElem_take] at e
  have hjk : j < k := by rw [List.length_take] at hj; omega
  have iO := (List.getElem?_eq_some_iff.1 hc)
  obtain ⟨iO, e2⟩ := iO
  have := (List.getElem_inj eZ).1 (e.trans e2.symm); omega
 obtain ⟨w3, hr, hm3, qO, xE, ht3, hou3, jL⟩ := FB (P := Tryz.prog) Tryz.underlying247 Tryz.underlying137 Tryz.r4 hmap (k := some (A c)) (.string (ga F rk c)) (h2.plain fB) hkeys (Jz hF.inj (fun j hj => tj j (List.mem_of_mem_take hj)) fB hno)
 refine ⟨fQ, w3, hr, ?_, ?_, ?_, ?_⟩
 ·have h3 : bZ base n A kv (F.iK rk fun j => pK F rk p L k j || cG F rk c j) w3 := h2.same (fun j hj => jL _ (by have := hF.lt hj; omega)) (fun j b hj hb => jL _ (by have := (hF.iw hj hb).2; omega))
  exact h3.DH fun j _ => Vv F rk p L hc j
 ·rw [Vw F rk A L hc]; exact hm3
 ·rw [World.cell?_of_block (a := ⟨bx, 0, none⟩) (jL bx (by omega))]; exact fQ
 ·have hk := h.up.trans hu
  exact ⟨xE.trans hk.os, ht3.trans hk.tape, hou3.trans hk.output, Nat.le_trans hk.size (Nat.le_of_eq qO.symm), fun b hb h4 h5 => (jL b (by omega)).trans (hk.block b hb h4 h5)⟩
set_option maxHeartbeats 800000 in
theorem wI {n base : Nat} {A : Nat → Nat} {kv : Nat → Value} {F : bA} {rk : Nat → Nat} (hS : An F n rk) {i : Nat} {p : Nat → Bool} {w : World} (hi : i < n) (hF : bZ base n A kv (F.iK rk p) w) (h0 : F.kids i = []) :
  Calls Tryz.prog 197 #[.pointer (some ⟨A i, 0, none⟩)] w (Oc n base A kv F rk p i w) := by
 have iW := F.iL rk p i
 have hL : (F.iK rk p).kids i = [] := List.perm_nil.1 (by rw [h0] at iW; exact iW)
 have hown := hF.own i hi
 rw [hL] at hown
 obtain ⟨q, cap, hv, _⟩ := hown.form (n := 0) rfl
 have hkc := hF.qG hi
 have hnc : w.cell? ⟨A i, 0, none⟩ = some (.string (F.nm i)) := hF.name hi
 rw [hv] at hkc
 have HL : Hid (ga F rk i = F.nm i) := by unfold Hid; rw [rZ hS.wf hi, h0]; simp [di]
 have WI : Hid (bZ base n A kv (F.iK rk fun j => p j || cG F rk i j) w) := hF.congr fun j hj => by
  refine ⟨rfl, rfl, ?_⟩
  by_cases e : j = i
  ·subst e; rw [hL]; show (if _ then _ else _) = _; rw [h0]; split <;> simp [di]
  ·show (if _ then _ else _) = (if _ then _ else _)
   have : cG F rk i j = false := by rw [iI hS.wf hi, h0]; simpa using e
   simp only [this, Bool.or_false]
 clear hF hS iW hL hown hv h0
 generalize hap : A i = ai at *
 generalize F.nm i = nm at *
 clear hap
 aq Tryz.func197, Tryz.ntmps197
 aa fail
 ax
 exact ⟨by rw [HL.out]; rfl, WI.out, kN.refl _ _ _ _⟩
set_option maxHeartbeats 4000000 in
theorem Rv {n base : Nat} {A : Nat → Nat} {kv : Nat → Value} {F : bA} {rk : Nat → Nat} (hS : An F n rk) : ∀ (d i : Nat) (p : Nat → Bool) (w : World), i < n → rk i ≤ d → bZ base n A kv (F.iK rk p) w →
  Calls Tryz.prog 197 #[.pointer (some ⟨A i, 0, none⟩)] w (Oc n base A kv F rk p i w) := by
 intro d
 induction d with
 | zero =>
  intro i p w hi WJ hF
  refine wI hS hi hF ?_
  cases hk : F.kids i with
  | nil => rfl
  | cons k l => have := (hS.wf.bF i hi k (by rw [hk]; simp)).2; omega
 | succ d ih =>
  intro i p w hi WJ hF
  by_cases h0 : F.kids i = []
  ·exact wI hS hi hF h0
  ·obtain ⟨L, uK⟩ : ∃ L, L = (F.iK rk p).kids i := ⟨_, rfl⟩
   have iW : L.Perm (F.kids i) := by rw [uK]; exact F.iL rk p i
   have hlen : L.length = (F.kids i).length := iW.length_eq
   have ql := hS.len i hi
   have DJ : 0 < L.length := by rw [hlen]; exact List.length_pos_iff.2 h0
   have hown := hF.own i hi
   rw [← uK] at hown
   obtain ⟨q, cap, hv, hq⟩ := hown.form (n := L.length) (by simp)
   obtain ⟨g, rfl⟩ : ∃ g, q = some ⟨g, 0, none⟩ := by
    rcases hq with rfl | h
    ·obtain ⟨_, h | ⟨g, _, _, h, _⟩⟩ := hown
     ·have := h.2; rw [List.length_map] at this; omega
     ·rw [hv] at h; cases h
    ·exact h
   have hkc := hF.qG hi
   rw [hv] at hkc
   have hsz := hF.lt hi
   have tj : ∀ c ∈ L, c < n ∧ rk c < rk i := fun c hc => hS.wf.bF i hi c (iW.mem_iff.1 hc)
   have HW : Hid (J6 n base A kv F rk p L w ((w.alloc (.map #[] 0)).alloc (.cells #[.map (some w.heap.size)] 247)) w.heap.size (w.heap.size + 1) 0) := by
    have hu : Up w ((w.alloc (.map #[] 0)).alloc (.cells #[.map (some w.heap.size)] 247)) := (Up.alloc _ _).trans (Up.alloc _ _)
    refine ⟨(hF.up hu).DH fun j _ => by simp [pK], ⟨#[], 0, ?_, rfl⟩, ?_, kN.yY hu⟩
    ·rw [blk_alloc_lt _ _ _ (by simp)]; exact blk_alloc_new _ _
    ·have h := bI (w.alloc (.map #[] 0)) #[.map (some w.heap.size)] 247 0
     rw [World.size_alloc] at h; exact h
   have iY := ag tj
   have zG := ag iW
   have Ao := ag hlen
   have HF := ag hF
   have HV := ag hv
   have WK := ag hkc
   have dW := ag uK
   have k7 := ag ih
   have HS := ag hS
   have mw : L.length ≤ 1000 := by omega
   have hmm := run_makeMap (P := Tryz.prog) 247 w
   have d1 : ((L.length : Int) == 0) = false := beq_eq_false_iff_ne.2 (by omega)
   clear hown hq hS ih hF tj iW hlen hv h0 uK ql
   aq Tryz.func197, Tryz.ntmps197
   aa fail
   generalize (w.alloc (.map #[] 0)).alloc (.cells #[.map (some w.heap.size)] 247) = w1 at *
   aV [22] (fun i wr => ∃ k : Nat, k ≤ L.length ∧ i = .int .i64 k ∧ Hid (J6 n base A kv F rk p L w wr w.heap.size (w.heap.size + 1) k)) (fun i _ => L.length - (intOf i).toNat)
   case atStart => exact ⟨0, Nat.zero_le _, rfl, HW⟩
   case round =>
    obtain ⟨k, hk, rfl, hO⟩ := bE
    obtain ⟨wo, rfl⟩ : ∃ wo : World, wo = wr := ⟨_, rfl⟩
    by_cases hlt : k < L.length
    ·have hc : L[k]? = some L[k] := List.getElem?_eq_getElem hlt
     have fQ := hO.out.box
     have fB := iY.out L[k] (List.getElem_mem hlt)
     have hrow := hO.out.fr.Ff (j := k) (c := L[k]) hi HV.out (by rw [pG HS.out.wf hi dW.out k]; exact hc)
     have eM := ag (k7.out L[k] (pK F rk p L k) wo.drew fB.1 (by omega) hO.out.fr.drew)
     have HSTEP : Hid (∀ w2, bZ base n A kv (F.iK rk fun j => pK F rk p L k j || cG F rk L[k] j) w2 → kN n A kv wo.drew w2 → w2.cell? ⟨w.heap.size + 1, 0, none⟩ = some (.map (some w.heap.size)) ∧ ∃ w3, (Instr.mapUpdate 247 (.map (some w.heap.size)) (.pointer (some ⟨A L[k], 0, none⟩)) (.string (ga F rk L[k]))).run Tryz.prog w2 = .ok () w3 ∧ J6 n base A kv F rk p L w w3 w.heap.size (w.heap.size + 1) (k + 1)) :=
      fun w2 h2 hu => hO.out.step HF.out (Nat.lt_succ_self _) hc fB.1 (fun j hj => (iY.out j hj).1) (zG.out.symm.nodup_iff.1 (HS.out.nodup i hi)) h2 hu.Vx
     clear hc fB
     generalize L[k] = c at *
     aa fail
     refine eE (by af) 5 (fun w' => w'.cell? ⟨w.heap.size + 1, 0, none⟩ = some (.map (some w.heap.size))) fQ (fun hS => ?_)
     simp only [List.size_toArray, List.length_cons, List.length_nil, Nat.reduceAdd, Array.replicate_succ, Array.replicate_zero, List.push_toArray, List.nil_append, List.cons_append]
     refine au.take (i := 0) (v := ?DB) rfl (by af) (fun _ _ _ h => h) (by rfl) (fun w av => ?qm) hS ?DC
     case qm =>
      (try dsimp only at av)
      aj
      try ah rfl
     try simp only [Act.put, az, aA, aB]
     refine au.take (i := 1) (v := ?DD) rfl (by af) (fun _ _ _ h => h) (by rfl) (fun w av => ?qn) hS ?DE
     case qn =>
      (try dsimp only at av)
      aj
      try ah rfl
     try simp only [Act.put, az, aA, aB]
     refine au.take (i := 2) (v := ?DF) rfl (by af) (fun _ _ _ h => h) (by rfl) (fun w av => ?qq) hS ?DG
     case qq =>
      (try dsimp only at av)
      aj
      try ah rfl
     try simp only [Act.put, az, aA, aB]
     refine au.step (i := 3) rfl (by af) (fun K' hK => ?_)
     aj
     refine eM.out.mono ?_
     rintro e w2 ⟨rfl, xF, kC⟩
     obtain ⟨WL, w3, hrun, hW3⟩ := HSTEP.out w2 xF kC
     have HW3 := ag hW3
     clear xF kC hW3
     refine hK.out _ _ (fun _ => WL) (fun hS => ?_)
     replace hS := hS ⟨4, by decide, rfl⟩
     try simp only [az, aA, aB]
     refine au.step (i := 4) rfl (by af) (fun K' hK => ?_)
     aj
     refine hK.out _ _ (bh (by af)) (fun hS => ?_)
     refine au.done (by af) ?_
     aa fail
     aF
     case rel => exact ⟨k + 1, by omega, by aH, HW3⟩
     case measure => simp [intOf]; omega
    ·obtain rfl : k = L.length := by omega
     have hkc := hO.out.fr.qG hi
     rw [HV.out] at hkc
     have Od := ag (Jy hO.out.fr (i := i) (g := g) (cap := cap) (f := ga F rk) (bx := w.heap.size + 1) (m0 := w.heap.size) (l := mK F rk A L L.length) hi (by rw [pG HS.out.wf hi dW.out]; exact HV.out) (by rw [pG HS.out.wf hi dW.out]; intro h; rw [h] at DJ; exact Nat.lt_irrefl _ DJ) (by rw [pG HS.out.wf hi dW.out]; omega)
      (by rw [pG HS.out.wf hi dW.out]; exact fun x hx y hy => HS.out.sep i hi x (zG.out.mem_iff.1 hx) y (zG.out.mem_iff.1 hy)) hO.out.box hO.out.map (fun e => by have := (HF.out.iw hi (b := g) (by rw [HV.out]; rfl)).2; omega) (fun e => by have := (HF.out.iw hi (b := g) (by rw [HV.out]; rfl)).2; omega)
      (by rw [pG HS.out.wf hi dW.out]; intro c hc; unfold mK; rw [List.take_length]; exact DI HF.out.inj (fun j hj => (iY.out j hj).1) (iY.out c hc).1 hc)
      (fun z hz => by
       obtain ⟨j, hj, rfl⟩ := List.mem_map.1 hz
       exact ⟨j, (iY.out j (List.mem_of_mem_take hj)).1, rfl⟩))
     rw [pG HS.out.wf hi dW.out, HV.out] at Od
     aa fail
     refine Od.out.mono ?_
     rintro e w2 ⟨rfl, xF, kC⟩
     obtain ⟨k1, l1, hs1⟩ : ∃ k1 l1, di (ga F rk) L = k1 :: l1 := by
      cases hs : di (ga F rk) L with
      | nil => have h1 := (eR (ga F rk) L).length_eq; rw [hs] at h1; simp at h1; omega
      | cons k l => exact ⟨k, l, rfl⟩
     have iE : k1 ∈ L := (eR (ga F rk) L).mem_iff.1 (by rw [hs1]; simp)
     have hrow2 : w2.cell? ⟨g, 0, none⟩ = some (.pointer (some ⟨A k1, 0, none⟩)) := xF.Ff (i := i) (j := 0) (c := k1) hi HV.out (by show (dQ _ i _ i)[0]? = _; rw [bB, hs1]; rfl)
     have hkc2 := xF.qG hi
     rw [HV.out] at hkc2
     have WL := kC.cell HF.out (p := ⟨w.heap.size + 1, 0, none⟩) (Nat.le_succ _) hO.out.box
     have WM := kC.pmap HF.out (Nat.le_refl _) hO.out.map
     have hlk : ∀ q, (Instr.lookup 247 (.map (some w.heap.size)) (.pointer (some ⟨A k1, 0, none⟩)) false).run Tryz.prog (w2.drewN q) = .ok (.string (ga F rk k1)) (w2.drewN q) := fun q =>
      vu (P := Tryz.prog) (w := w2.drewN q) Tryz.underlying247 Tryz.underlying137 Tryz.r4 WM (k := some (A k1)) (xF.plain (iY.out k1 iE).1) (fun z hz => by
       obtain ⟨j, hj, rfl⟩ := List.mem_map.1 hz
       exact xF.plain (iY.out j (List.mem_of_mem_take hj)).1) (by unfold mK; rw [List.take_length]; exact DI HF.out.inj (fun j hj => (iY.out j hj).1) (iY.out k1 iE).1 iE)
     have og : Hid (ga F rk i = ga F rk k1) := by
      unfold Hid
      rw [rZ HS.out.wf hi, ← wH zG.out (fun x hx y hy => HS.out.sep i hi x (zG.out.mem_iff.1 hx) y (zG.out.mem_iff.1 hy)), hs1]
     have WI : Hid (bZ base n A kv (F.iK rk fun j => p j || cG F rk i j) w2) := xF.congr fun j hj => by
      refine ⟨rfl, rfl, ?_⟩
      show (if (p j || cG F rk i j) then _ else _) = dQ _ i _ j
      by_cases e : j = i
      ·subst e
       rw [bB, if_pos (by rw [iI HS.out.wf hi]; simp)]
       exact (wH zG.out (fun x hx y hy => HS.out.sep j hi x (zG.out.mem_iff.1 hx) y (zG.out.mem_iff.1 hy))).symm
      ·rw [bU _ _ e]
       have : pK F rk p L L.length j = (p j || cG F rk i j) := by
        unfold pK
        rw [List.take_length, iI HS.out.wf hi]
        have e2 : (j == i) = false := by simpa using e
        rw [e2, Bool.false_or, zG.out.any_eq]
       show _ = if pK F rk p L L.length j then _ else _
       rw [this]
     have uL := ag (hO.out.up.trans kC)
     have i0 : (0 : Int) < (L.length : Int) := by omega
     clear xF kC hs1 iE WM Od hO
     aa fail
     fP (fail)
     aa fail
     ax
     exact ⟨by rw [og.out]; rfl, WI.out.same (fun _ _ => rfl) (fun _ _ _ _ => rfl), ⟨uL.out.os, uL.out.tape, uL.out.output, uL.out.size, uL.out.block⟩⟩
end Go.Proofs.YtpnmblnahjjmhaaGreat
