/- phylotree.pruned: what it does to the forest. The reference's canonical tree is the .. -/
import Derived.Test.YteegefnjnikngaaGreatQ1
import Derived.Test.YteegefnjnikngaaGreatQ25
import Derived.Test.YteegefnjnikngaaGreatQ18
import Derived.Test.YteegefnjnikngaaGreatQ24
import Derived.Test.YteegefnjnikngaaGreatQ14
import Derived.Test.YteegefnjnikngaaGreatQ22
import Derived.Test.YteegefnjnikngaaGreatQ19
set_option maxRecDepth 100000
namespace Go.Proofs.YteegefnjnikngaaGreat
section
open Go.RowKit Go.Deep
section
variable {P : Program} {ops : Array Oper} {rest : List Oper} {o : Oper} {a : Act} {Q : Exit → Act → World → Prop}
theorem gA (W : World) (hgd : o.guard = none) (s x : Operand) (t : TypeId) (ho : o.op = .call { callee := .builtin .append, args := #[s, x], argTypes := #[t, t] })
  (base : Nat) (e : TypeId) (z : Value) (bytes : Nat) (ht : P.underlying t = some (.slice e)) (hinfo : (P.info? e).map (fun i => (i.zero, i.size, i.bytes)) = some (some z, 1, bytes))
  (hz1 : z.cells.size = 1) (kY : bytes ≤ 64) {v : Value} {vs : List Value} (hown : az base e W v vs) (hs : a.eval s = v) (u : Value)
  (hx : a.eval x = .slice (some ⟨W.heap.size, 0, none⟩) 1 1) (h1 : u.oneCell' = true) (k : Nat) (wE : vs.length = k) (hn : k ≤ 1000000) (hbase : base ≤ W.heap.size)
  (h : ∀ g cap w', az base e w' (.slice (some ⟨g, 0, none⟩) (k + 1) cap) (vs ++ [u]) → W.grownBy w' v.ownBlock → (v.ownBlock = some g ∨ W.heap.size ≤ g) → wpList P ops Q rest (a.put o.dst (.slice (some ⟨g, 0, none⟩) (k + 1) cap)) w') :
  wpList P ops Q (o :: rest) a (W.alloc (.cells #[u] e)) := by
 subst wE
 obtain ⟨i, hi, hzz⟩ := Option.map_eq_some_iff.1 hinfo
 simp only [Prod.mk.injEq] at hzz
 obtain ⟨hz, hs1, hb⟩ := hzz
 refine wpList_append_lies _ hgd s x t ho base e i z 1 bytes ht hi hz hs1 hb hz1 (by omega) v vs.length vs hs (hown.alloc _) ⟨W.heap.size, 0, none⟩ 1 1 [u] hx rfl (cell_one_new _ _ _) (by simpa using h1) (by omega)
  (by unfold maxLen; omega) ?_ (by simp; omega) _ rfl fun g cap w' h2 h3 h4 _ => h g cap w' ?_ (gu h3) (h4.imp id fun e => by rw [e, World.size_alloc]; omega)
 ·have : (vs.length + 1) * bytes ≤ (vs.length + 1) * 64 := Nat.mul_le_mul_left _ kY
  omega
 ·unfold az; rw [List.length_append]; exact h2
end
section
variable {n base : Nat} {A : Nat → Nat} {kv : Nat → Value} {F : aL} {w w' w2 : World} {P : Nat → Bool} {rk : Nat → Nat}
theorem aR.Uq {G : aL} (h : aR base n A kv F w) (e : ∀ j, j < n → G.nm j = F.nm j ∧ G.old j = F.old j ∧ G.kids j = F.kids j) : aR base n A kv G w :=
 ⟨fun i hi => by rw [(e i hi).1, (e i hi).2.1]; exact h.node i hi, h.lo, h.inj, fun i hi => by rw [(e i hi).2.2]; exact h.own i hi, h.apart, h.alone, fun i hi => by rw [(e i hi).2.2]; exact h.kid i hi⟩
end
end
section
open Go.RowKit Go.Deep
theorem sU : ∀ a b : List UInt8, Op.bytesLess a b = decide (Lib.compareBytes a b < 0)
 | [], [] => rfl
 | [], _ :: _ => rfl
 | _ :: _, [] => rfl
 | a :: x, b :: y => by
  rw [Op.bytesLess, Lib.compareBytes, sU x y]
  by_cases h : a < b
  ·simp [h]
  ·by_cases h2 : b < a
   ·have : a ≠ b := by rintro rfl; exact h h2
    simp [h, h2, this]
   ·have : a = b := by
     apply UInt8.toNat.inj
     rw [UInt8.lt_iff_toNat_lt] at h h2; omega
    subst this
    simp [h]
theorem GD (a b : ByteArray) : uH a b = decide (bK a b < 0) := by
 unfold uH bK; rw [sU, Lib.toList_data, Lib.toList_data]
theorem kA (a b : ByteArray) : gz a b = if bK a b ≤ 0 then a else b := by
 unfold gz
 rw [GD]
 by_cases h : a.toList = b.toList
 ·have e : a = b := dH (by rw [← Lib.toList_data, ← Lib.toList_data, h])
  subst e
  simp [AD]
 ·have e : bK a b ≠ 0 := fun q => h (by rw [e9 q])
  by_cases h1 : bK a b ≤ 0
  ·rw [if_pos h1, if_pos]; simp; left; omega
  ·rw [if_neg h1, if_neg]; simp [h]; omega
theorem j9 {a b c : ByteArray} (h : bK a b ≤ 0) (h' : bK b c ≤ 0) : bK a c ≤ 0 := by
 by_cases h1 : bK a b = 0
 ·rw [e9 h1]; exact h'
 ·by_cases h2 : bK b c = 0
  ·rw [← e9 h2]; exact h
  ·have := nN (a := a) (b := b) (c := c) (by omega) (by omega); omega
theorem D2 {s a b : ByteArray} (h : bK a b ≤ 0) : gz (gz s a) b = gz s a := by
 rw [kA s a]
 split
 ·rename_i h1; rw [kA, if_pos (j9 h1 h)]
 ·rw [kA, if_pos h]
theorem D3 {s a b : ByteArray} (h : ¬ bK a b ≤ 0) : gz (gz s a) b = gz s b := by
 have hb := eZ a b
 rw [kA s a]
 split
 ·rfl
 ·rename_i h1
  rw [kA a b, if_neg h, kA s b, if_neg]
  intro q
  exact h1 (j9 q (by omega))
def hdMin (s : ByteArray) : List RT → ByteArray
 | [] => s
 | b :: _ => gz s (firstR b)
theorem K8 (s : ByteArray) (a : RT) : ∀ l, hdMin s (insR a l) = hdMin (gz s (firstR a)) l
 | [] => rfl
 | b :: l => by
  rw [insR]
  split
  ·rename_i h; show gz s _ = gz (gz s _) _; rw [D2 h]
  ·rename_i h; show gz s _ = gz (gz s _) _; rw [D3 h]
mutual
theorem nX : ∀ r : RT, lstR r = firstR (sortR r)
 | .node nm [] => by rw [lstR, sortR, cM, firstR]
 | .node nm (k :: ks) => by
  rw [lstR, wS ks, nX k, sortR, cM]
  cases h : cM ks with
  | nil => rfl
  | cons b l =>
   rw [insR]
   show gz _ _ = _
   rw [kA]
   split
   ·rw [firstR]
   ·rw [firstR]
theorem wS : ∀ (rs : List RT) (s : ByteArray), lstRs s rs = hdMin s (cM rs)
 | [], s => by rw [lstRs, cM]; rfl
 | r :: rs, s => by rw [lstRs, wS rs, nX r, cM, K8]
end
theorem D4 {s : ByteArray} {o : RT} (hs : s = firstR o) : ∀ {l : List RT}, (∀ b ∈ l, lstR b = firstR b) → mz s o l = insR o l
 | [], _ => rfl
 | b :: l, h => by
  have hb := h b (by simp)
  have ha := eZ (firstR b) (firstR o)
  have ih := D4 hs (l := l) fun q hq => h q (by simp [hq])
  unfold mz at ih ⊢
  rw [posK, insR, hb, GD, hs]
  by_cases e : bK (firstR o) (firstR b) ≤ 0
  ·rw [if_pos e, if_neg (by simp; omega)]; rfl
  ·rw [if_neg e, if_pos (by simp; omega), List.take_succ_cons, List.drop_succ_cons, List.cons_append, ← hs, ih]
theorem Bu {a b : RT} (h : firstR a ≠ firstR b) : ∀ l, insR a (insR b l) = insR b (insR a l)
 | [] => by
  have h1 := eZ (firstR a) (firstR b)
  have h2 : bK (firstR a) (firstR b) ≠ 0 := fun q => h (e9 q)
  simp only [insR]
  by_cases e : bK (firstR a) (firstR b) ≤ 0
  ·rw [if_pos e, if_neg (by omega)]
  ·rw [if_neg e, if_pos (by omega)]
 | c :: l => by
  have h1 := eZ (firstR a) (firstR b)
  have h2 : bK (firstR a) (firstR b) ≠ 0 := fun q => h (e9 q)
  by_cases ea : bK (firstR a) (firstR c) ≤ 0
  ·by_cases eb : bK (firstR b) (firstR c) ≤ 0
   ·by_cases e : bK (firstR a) (firstR b) ≤ 0
    ·have e' : ¬ bK (firstR b) (firstR a) ≤ 0 := by omega
     simp only [insR, ea, eb, e, e', if_true, if_false]
    ·have e' : bK (firstR b) (firstR a) ≤ 0 := by omega
     simp only [insR, ea, eb, e, e', if_true, if_false]
   ·have e' : ¬ bK (firstR b) (firstR a) ≤ 0 := fun q => eb (j9 q ea)
    simp only [insR, ea, eb, e', if_true, if_false]
  ·by_cases eb : bK (firstR b) (firstR c) ≤ 0
   ·have e' : ¬ bK (firstR a) (firstR b) ≤ 0 := fun q => ea (j9 q eb)
    simp only [insR, ea, eb, e', if_true, if_false]
   ·simp only [insR, ea, eb, if_false]
    rw [Bu h l]
theorem D5 {a x : RT} : ∀ {l : List RT}, x ∈ insR a l ↔ x = a ∨ x ∈ l
 | [] => by simp [insR]
 | b :: l => by
  rw [insR]
  split
  ·simp
  ·rw [List.mem_cons, D5 (l := l), List.mem_cons]
   constructor
   ·rintro (h | h | h) <;> simp [h]
   ·rintro (h | h | h) <;> simp [h]
def Zt (r : RT) : Prop := ∀ s ∈ subR r, (s.kids.map fun k => firstR (sortR k)).Nodup
def foldI (acc : List RT) : List RT → List RT
 | [] => acc
 | c :: cs => insR (sortR c) (foldI acc cs)
theorem Bv {a : RT} : ∀ (cs acc : List RT), (∀ c ∈ cs, firstR a ≠ firstR (sortR c)) → foldI (insR a acc) cs = insR a (foldI acc cs)
 | [], _, _ => rfl
 | c :: cs, acc, h => by
  rw [foldI, foldI, Bv cs acc (fun q hq => h q (by simp [hq])), Bu (h c (by simp))]
theorem Bw : ∀ cs : List RT, foldI [] cs = cM cs
 | [] => by rw [foldI, cM]
 | c :: cs => by rw [foldI, cM, Bw cs]
mutual
theorem D6 : ∀ r : RT, Zt r → ordR r = sortR r
 | .node nm ks, h => by
  have h0 := h (.node nm ks) (by rw [subR]; simp)
  rw [ordR, sortR, Bz ks [] (fun s hs => h s (by rw [subR]; simp [hs])) h0 (by simp), Bw]
theorem Bz : ∀ (cs acc : List RT), (∀ s ∈ subRs cs, (s.kids.map fun k => firstR (sortR k)).Nodup) → (cs.map fun k => firstR (sortR k)).Nodup → (∀ b ∈ acc, lstR b = firstR b) → dx acc cs = foldI acc cs
 | [], acc, _, _, _ => by rw [dx, foldI]
 | c :: cs, acc, h, hn, ha => by
  have hc := D6 c (fun s hs => h s (by rw [subRs]; simp [hs]))
  have hl : lstR (sortR c) = firstR (sortR c) := by rw [nX, sF]
  rw [List.map_cons, List.nodup_cons] at hn
  rw [dx, hc, D4 (nX c) ha, Bz cs _ (fun s hs => h s (by rw [subRs]; simp [hs])) hn.2 (fun b hb => by
   rcases D5.1 hb with rfl | hb
   ·exact hl
   ·exact ha b hb), foldI, Bv cs acc]
  intro q hq e
  exact hn.1 (List.mem_map.2 ⟨q, hq, e.symm⟩)
end
mutual
theorem D7 : ∀ (r s : RT), s ∈ subR r → (b7 s).Sublist (b7 r)
 | .node nm ks, s, h => by
  rw [subR, List.mem_cons] at h
  rcases h with rfl | h
  ·exact List.Sublist.refl _
  ·rw [b7]; exact (BA ks s h).trans (List.sublist_cons_self _ _)
theorem BA : ∀ (rs : List RT) (s : RT), s ∈ subRs rs → (b7 s).Sublist (cu rs)
 | [], s, h => by simp [subRs] at h
 | r :: rs, s, h => by
  rw [subRs, List.mem_append] at h
  rw [cu]
  rcases h with h | h
  ·exact (D7 r s h).trans (List.sublist_append_left _ _)
  ·exact (BA rs s h).trans (List.sublist_append_right _ _)
end
theorem mV {r s : RT} (h : s ∈ subR r) : (ey s).Sublist (ey r) := (D7 r s h).filter _
theorem uN (r : RT) : r ∈ subR r := by cases r; rw [subR]; simp
theorem sV : ∀ r : RT, (∀ s ∈ subR r, s.kids = [] → aP s.nm.data.toList = true) → firstR r ∈ ey r
 | .node nm [], h => by
  have h1 : aP nm.data.toList = true := h (.node nm []) (uN _) rfl
  rw [IK (sA h1), firstR]; simp
 | .node nm (k :: ks), h => by
  have hk : ∀ s ∈ subR k, s ∈ subR (.node nm (k :: ks)) := fun s hs => by rw [subR, subRs]; simp [hs]
  rw [firstR]
  exact (mV (hk k (uN k))).subset (sV k fun s hs => h s (hk s hs))
theorem BB {k : RT} : ∀ {ks : List RT}, k ∈ ks → ∀ s ∈ subR k, s ∈ subRs ks
 | b :: ks, h, s, hs => by
  rw [subRs, List.mem_append]
  rcases List.mem_cons.1 h with rfl | h
  ·exact .inl hs
  ·exact .inr (BB h s hs)
mutual
theorem lM : ∀ (r : RT) {s u : RT}, s ∈ subR r → u ∈ subR s → u ∈ subR r
 | .node nm ks, s, u, h, hu => by
  rw [subR, List.mem_cons] at h
  rcases h with rfl | h
  ·exact hu
  ·rw [subR]; exact List.mem_cons_of_mem _ (wT ks h hu)
theorem wT : ∀ (rs : List RT) {s u : RT}, s ∈ subRs rs → u ∈ subR s → u ∈ subRs rs
 | [], s, u, h, _ => by simp [subRs] at h
 | r :: rs, s, u, h, hu => by
  rw [subRs, List.mem_append] at h ⊢
  rcases h with h | h
  ·exact .inl (lM r h hu)
  ·exact .inr (wT rs h hu)
end
theorem NL {r : RT} (h : ja r) : Zt r := by
 intro s hs
 have fF : (ey s).Nodup := (mV hs).nodup h.nd
 obtain ⟨nm, ks⟩ := s
 show (ks.map _).Nodup
 by_cases hk : ks = []
 ·subst hk; simp
 ·rw [sO (nm := nm) (ks := ks) (h.A5 (.node nm ks) hs hk)] at fF
  have hmem : ∀ k ∈ ks, firstR (sortR k) ∈ ey k := fun k hk => (nS k).mem_iff.1 (sV _ fun q hq Zu => by
   obtain ⟨x, hx, rfl⟩ := List.mem_map.1 ((jm k).mem_iff.1 hq)
   rw [nR] at Zu
   rw [oV]
   exact h.lf x (lM r hs (by rw [subR]; exact List.mem_cons_of_mem _ (BB hk x hx))) (lF.1 Zu))
  clear hs hk
  induction ks with
  | nil => simp
  | cons k ks ih =>
   rw [List.flatMap_cons, List.nodup_append] at fF
   rw [List.map_cons, List.nodup_cons]
   refine ⟨fun hm => ?_, ih fF.2.1 fun q hq => hmem q (by simp [hq])⟩
   obtain ⟨q, hq, e⟩ := List.mem_map.1 hm
   exact fF.2.2 _ (hmem k (by simp)) _ (List.mem_flatMap.2 ⟨q, hq, hmem q (by simp [hq])⟩) e.symm
theorem K9 {t : av} (h : aB t = 0) : qQ t = nu t := by
 unfold qQ
 rw [D6 _ (NL (DF h)), uD h]
end
section
open Go.RowKit Go.Deep
set_option maxHeartbeats 4000000 in
theorem IP (S : Nat → Prop) (w : World) (v : Value) (xs : List (List Int)) (h : aX S w v xs) (hn : xs.length ≤ 1000000) (hr : ∀ k, (gl xs k).length ≤ 1000000) :
  Calls Tryz.prog 66 #[v] w fun e w' => e = .returned (.int .i64 (bU xs)) ∧ QD w w' := by
 obtain ⟨p, cap, rfl, hcap, _⟩ := eD h
 have H := aa h
 have HR := aa hr
 have HF : Hid (bU xs = if xs.length = 0 then 5 else if 32 < xs.length ∨ 4096 < (gl xs 0).length then 4 else firstNZ (gL xs) xs.length) := rfl
 clear h hr
 by_cases h0 : xs.length = 0
 ·have HX : Hid (bU xs = 5) := by unfold Hid; rw [HF.out, if_pos h0]
  have d0 : ((xs.length : Int) == 0) = true := by simp [h0]
  clear h0
  go_enter Tryz.func66, Tryz.ntmps66
  go_wp2_with fail
  go_ret
  exact ⟨aH HX.out.symm, QD.refl _⟩
 have d0 : ((xs.length : Int) == 0) = false := by simpa using h0
 have S7 : 0 < xs.length := by omega
 by_cases h1 : 32 < xs.length
 ·have HX : Hid (bU xs = 4) := by unfold Hid; rw [HF.out, if_neg h0, if_pos (.inl h1)]
  have d1 : decide ((32 : Int) < (xs.length : Int)) = true := by simp; omega
  clear h0 h1
  go_enter Tryz.func66, Tryz.ntmps66
  go_wp2_with fail
  go_ret
  exact ⟨aH HX.out.symm, QD.refl _⟩
 have d1 : decide ((32 : Int) < (xs.length : Int)) = false := by simp; omega
 obtain ⟨b, off, q0, c0, rfl, hc0, _⟩ := fA H.out S7
 have M7 : w.cell? ⟨b, off, none⟩ = some (.slice q0 (gl xs 0).length c0) := by simpa using hc0
 have WE := HR.out 0
 clear hc0
 by_cases h2 : 4096 < (gl xs 0).length
 ·have HX : Hid (bU xs = 4) := by unfold Hid; rw [HF.out, if_neg h0, if_pos (.inr h2)]
  have d2 : decide ((4096 : Int) < ((gl xs 0).length : Int)) = true := by simp; omega
  clear h0 h1 h2
  go_enter Tryz.func66, Tryz.ntmps66
  go_wp2_with fail
  go_ret
  exact ⟨aH HX.out.symm, QD.refl _⟩
 have d2 : decide ((4096 : Int) < ((gl xs 0).length : Int)) = false := by simp; omega
 have nG : Hid (bU xs = firstNZ (gL xs) xs.length) := by unfold Hid; rw [HF.out, if_neg h0, if_neg (by omega)]
 have AO : Hid (∀ k, gL xs k = if (gl xs k).length ≠ (gl xs 0).length then 9 else if fR (gl xs k) (-1) 16 then 2 else 0) := fun _ => rfl
 have dR := aa M7
 clear HF h0 h1 h2
 generalize hl0 : (gl xs 0).length = l0 at *
 clear hl0
 go_enter Tryz.func66, Tryz.ntmps66
 go_wp2_with fail
 go_loopw [3, 4] (fun i _ wr => ∃ k : Nat, k ≤ xs.length ∧ i = .int .i64 k ∧ Hid (QD w wr) ∧ Hid (∀ j, j < k → gL xs j = 0)) (fun i _ _ => xs.length - (intOf i).toNat)
 case atStart => exact ⟨0, Nat.zero_le _, rfl, QD.refl _, fun j hj => absurd hj (Nat.not_lt_zero _)⟩
 case round =>
  obtain ⟨k, hk, rfl, hQ, hd⟩ := hrel
  obtain ⟨wo, rfl⟩ : ∃ wo : World, wo = wr := ⟨_, rfl⟩
  have M7 := hQ.out.up.cell dR.out
  by_cases hlt : k < xs.length
  ·obtain ⟨b', off', qk, ck, e1, tV, hik⟩ := fA (H.out.keep (hQ.out.kept S)) hlt
   injection e1 with e1
   injection e1 with e1 e2
   subst e1; subst e2
   have i1 : (0 : Int) ≤ (k : Int) := by omega
   have i2 : (k : Int) < (xs.length : Int) := by omega
   have HK := aa (AO.out k)
   have BC := aa hik
   have fN := aa tV
   have wI := HR.out k
   clear hik
   by_cases mN : (gl xs k).length = l0
   ·have gF : (((gl xs k).length : Int) != (l0 : Int)) = false := by simp [mN]
    rw [if_neg (fun e => e mN)] at HK
    clear mN
    go_wp2_with fail
    go_quiet (fail)
    go_wp2_with fail
    go_loopw [4] (fun i wr => ∃ m : Nat, m ≤ (gl xs k).length ∧ i = .int .i64 m ∧ Hid (QD w wr ∧ QD wo wr) ∧ Hid (∀ j, j < m → (decide (gi (gl xs k) j < -1) || decide (16 ≤ gi (gl xs k) j)) = false)) (fun i _ => (gl xs k).length - (intOf i).toNat)
    case atStart => exact ⟨0, Nat.zero_le _, rfl, ⟨hQ.out.drewN nq, ⟨nq, rfl⟩⟩, fun j hj => absurd hj (Nat.not_lt_zero _)⟩
    case round =>
     obtain ⟨m, hm, rfl, BD, hd2⟩ := hrel
     obtain ⟨wi, rfl⟩ : ∃ wi : World, wi = wr := ⟨_, rfl⟩
     have tV := BD.out.2.up.cell fN.out
     by_cases PI : m < (gl xs k).length
     ·obtain ⟨mb, mo, rfl, Ur⟩ := dQ (ax.keep BC.out (BD.out.2.kept S)) PI
      have j1 : (0 : Int) ≤ (m : Int) := by omega
      have j2 : (m : Int) < ((gl xs k).length : Int) := by omega
      generalize Zv : gi (gl xs k) m = y at *
      have Us := aa Zv
      clear Zv
      by_cases c1 : y < -1
      ·have e1 : decide (y < -1) = true := by simpa using c1
       have HX : Hid (bU xs = 2) := by
        unfold Hid
        have hst : fR (gl xs k) (-1) 16 = true := qY (p := fun j => decide (gi (gl xs k) j < -1) || decide (16 ≤ gi (gl xs k) j)) PI (by rw [Us.out, e1]; rfl)
        have hrow : gL xs k = 2 := by rw [HK.out, if_pos hst]
        rw [nG.out, eo hlt hd.out (by rw [hrow]; decide), hrow]
       clear c1
       go_wp2_with fail
       go_ret
       exact ⟨aH HX.out.symm, BD.out.1⟩
      ·have e1 : decide (y < -1) = false := by simpa using c1
       by_cases c2 : 16 ≤ y
       ·have e2 : decide (16 ≤ y) = true := by simpa using c2
        have HX : Hid (bU xs = 2) := by
         unfold Hid
         have hst : fR (gl xs k) (-1) 16 = true := qY (p := fun j => decide (gi (gl xs k) j < -1) || decide (16 ≤ gi (gl xs k) j)) PI (by rw [Us.out, e2, Bool.or_true])
         have hrow : gL xs k = 2 := by rw [HK.out, if_pos hst]
         rw [nG.out, eo hlt hd.out (by rw [hrow]; decide), hrow]
        clear c1 c2
        go_wp2_with fail
        go_ret
        exact ⟨aH HX.out.symm, BD.out.1⟩
       ·have e2 : decide (16 ≤ y) = false := by simpa using c2
        have HY : Hid ((decide (gi (gl xs k) m < -1) || decide (16 ≤ gi (gl xs k) m)) = false) := by unfold Hid; rw [Us.out, e1, e2]; rfl
        clear c1 c2
        go_wp2_with fail
        go_roundw
        case rel => exact ⟨m + 1, by omega, by go_num, ⟨BD.out.1, BD.out.2⟩, fun j hj => if e : j = m then by subst e; exact HY.out else hd2.out j (by omega)⟩
        case measure => simp [intOf]; omega
     ·obtain rfl : m = (gl xs k).length := by omega
      have JW : Hid (gL xs k = 0) := by
       unfold Hid
       have hst : fR (gl xs k) (-1) 16 = false := any_none hd2.out
       rw [HK.out, if_neg (by rw [hst]; decide)]
      have HQ2 := aa BD.out.1
      clear PI hm hd2 BD
      go_wp2_with fail
      go_roundw
      case rel => exact ⟨k + 1, by omega, by go_num, HQ2.out, fun j hj => if e : j = k then by subst e; exact JW.out else hd.out j (by omega)⟩
      case measure => simp [intOf]; omega
   ·have gF : (((gl xs k).length : Int) != (l0 : Int)) = true := by simp; omega
    have HX : Hid (bU xs = 9) := by
     unfold Hid
     have hrow : gL xs k = 9 := by rw [HK.out, if_pos mN]
     rw [nG.out, eo hlt hd.out (by rw [hrow]; decide), hrow]
    clear mN
    go_wp2_with fail
    go_quiet (fail)
    go_wp2_with fail
    go_ret
    exact ⟨aH HX.out.symm, hQ.out.drewN nq⟩
  ·obtain rfl : k = xs.length := by omega
   have HX : Hid (bU xs = 0) := by unfold Hid; rw [nG.out, di hd.out]
   clear hlt hk
   go_wp2_with fail
   go_ret
   exact ⟨aH HX.out.symm, hQ.out⟩
end
section
end
section
section
variable {names : List ByteArray} {l : List AV}
end
end
section
open Go.RowKit Go.Shelf Go.Deep
theorem NM (W : World) : (zeroValue 3).run Tryz.prog W = .ok (.int .i64 0) W := by simp [Tryz.zeroValue3]
end
section
open Go.RowKit Go.Deep
end
section
open Go.RowKit Go.Deep
section
variable {n base : Nat} {A : Nat → Nat} {kv : Nat → Value} {F : aL} {w w' w2 : World} {rk : Nat → Nat}
end
end
section
structure PJ (r : RT) : Prop where
 nd : (ey r).Nodup
 pt : ∀ s ∈ subR r, DV s
theorem PJ.good {r : RT} (h : PJ r) : ja r := ⟨fun s hs hk => (h.pt s hs).1 hk, fun s hs hk => (h.pt s hs).2.1 hk, h.nd⟩
theorem NN {a b : ByteArray} (ha : a.size = 0) (hb : b.size = 0) : a = b := by
 apply ByteArray.ext
 apply Array.ext
 ·show a.size = b.size; omega
 ·intro i hi _; have : i < a.size := hi; omega
end
section
open Go.RowKit Go.Deep
end
section
section
variable {names : List ByteArray} {l : List AV}
theorem La (ns : List ByteArray) : (aC ns).length = (mA ns).length := by
 unfold aC
 rw [List.length_map]
 have h : ∀ k, k ≤ ns.length → ((List.range k).filter fun i => (gs ns i).size ≠ 0).length = (mA (ns.take k)).length := by
  intro k
  induction k with
  | zero => intro _; rfl
  | succ k ih =>
   intro hk
   have hg : gs ns k = ns[k] := by simp [gs, show k < ns.length by omega]
   rw [List.range_succ, List.filter_append, List.length_append, ih (by omega), List.take_succ_eq_append_getElem (show k < ns.length by omega), DW, List.length_append, ← hg]
   congr 1
   unfold mA
   by_cases e : (gs ns k).size ≠ 0
   ·rw [List.filter_cons_of_pos (by simpa using e), List.filter_cons_of_pos (by simpa using e)]; rfl
   ·rw [List.filter_cons_of_neg (by simpa using e), List.filter_cons_of_neg (by simpa using e)]; rfl
 have := h ns.length (Nat.le_refl _)
 rw [List.take_length] at this
 exact this
end
end
section
section
variable {F : aL} {n : Nat} {rk : Nat → Nat}
theorem uO (h : Wf F n rk) {i z : Nat} (hi : i < n) (hs : bA F rk i z = true) : aM F rk z ∈ subR (aM F rk i) := by
 rw [qj h hi (Nat.le_refl _)]
 exact List.mem_map.2 ⟨z, (cV h hi (Nat.le_refl _)).2 hs, rfl⟩
theorem yT (h : Wf F n rk) : ∀ (d i : Nat), rk i ≤ d → i < n → ja (aM F rk i) → (bz F rk i).Nodup
 | d, i, hd, hi, hg => by
  rw [bI h hi, List.nodup_cons]
  have hsub : ∀ k ∈ F.kids i, aM F rk k ∈ subR (aM F rk i) := fun k hk => uO h hi (ku h hi hk (fV h (h.kid i hi k hk).1))
  have Ar : ∀ k ∈ F.kids i, ja (aM F rk k) := fun k hk => ⟨fun s hs => hg.A5 s (lM _ (hsub k hk) hs), fun s hs => hg.lf s (lM _ (hsub k hk) hs), (mV (hsub k hk)).nodup hg.nd⟩
  refine ⟨fun hm => ?_, ?_⟩
  ·obtain ⟨k, hk, hm⟩ := List.mem_flatMap.1 hm
   have hkk := h.kid i hi k hk
   have := kJ h hkk.1 ((cV h hkk.1 (Nat.le_refl _)).1 hm)
   omega
  ·by_cases h0 : F.kids i = []
   ·rw [h0]; simp
   ·have fF := hg.nd
    rw [cI h hi, sO (by have := hg.A5 _ (uN _); rw [rG h hi, uG h hi] at this; exact this (fun e => h0 (List.map_eq_nil_iff.1 e))), List.flatMap_map, List.nodup_iff_pairwise_ne, List.pairwise_flatMap] at fF
    rw [List.nodup_iff_pairwise_ne, List.pairwise_flatMap]
    refine ⟨fun k hk => ?_, ?_⟩
    ·have hkk := h.kid i hi k hk
     cases d with
     | zero => omega
     | succ d => exact yT h d k (by omega) hkk.1 (Ar k hk)
    ·refine fF.2.imp_of_mem ?_
     intro a b ha hb hab x hx y hy e
     subst e
     have hka := h.kid i hi a ha
     have hkb := h.kid i hi b hb
     have h1 := uO h hka.1 ((cV h hka.1 (Nat.le_refl _)).1 hx)
     have h2 := uO h hkb.1 ((cV h hkb.1 (Nat.le_refl _)).1 hy)
     have hf := sV (aM F rk x) fun s hs => (Ar a ha).lf s (lM _ h1 hs)
     exact hab _ ((mV h1).subset hf) _ ((mV h2).subset hf) rfl
end
end
section
section
variable {n : Nat} {S : List (List Int)}
end
end
end Go.Proofs.YteegefnjnikngaaGreat
